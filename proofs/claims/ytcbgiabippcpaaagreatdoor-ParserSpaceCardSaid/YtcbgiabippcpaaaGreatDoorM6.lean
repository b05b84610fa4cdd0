/- The parser's small functions. -/
import Derived.Test.YtcbgiabippcpaaaGreatDoorM5
import Derived.Test.YtcbgiabippcpaaaGreatDoorKx44
import Derived.Test.YtcbgiabippcpaaaGreatDoorKx44
set_option maxRecDepth 10000
set_option linter.unusedVariables false
set_option linter.unusedSimpArgs false
namespace Go.Proofs.YtcbgiabippcpaaaGreatDoor
open Go.Pi Go.Lx Go.Ky
variable {gl : Nat → Option (List T)}

abbrev psC (st : Ps) (a b : Int) : List PV := [.t (.sl false (st.ts.map tTok)), .t (.int .i64 st.err), .t (.int .i64 st.pos), .t (.int .i64 a), .t (.int .i64 b), .t (.bool st.deep), .t (.int .i64 st.dat)]
/-- The parser's segment holds a state, and all other segments are as they were. -/
structure Q (c : Nat) (a b : Int) (sg : Sg) (st : Ps) (sg' : Sg) : Prop where
  cell : sg'[c]? = some (false, psC st a b)
  fr : Fr c sg sg'
theorem Q.trans {c : Nat} {a b : Int} {s0 s1 s2 : Sg} {x y : Ps} (h : Q c a b s0 x s1) (h' : Q c a b s1 y s2) : Q c a b s0 y s2 := ⟨h'.cell, h.fr.trans h'.fr⟩
theorem Q.set {c : Nat} {a b : Int} {sg : Sg} {y : Ps} (hc : c < sg.length) : Q c a b sg y (sg.set c (false, psC y a b)) := ⟨by rw [List.getElem?_set_self hc], (Fr.refl c sg).set _⟩
theorem sl_drop (l : List Tok) (k : Nat) (hk : k ≤ l.length) : sliceP 4 (.t (.sl false (l.map tTok))) (some (.t (.int .i64 (k : Int)))) none none = some (.t (.sl false ((l.drop k).map tTok))) := by
  have h0 : (0 : Int) ≤ (k : Int) := by omega
  have hz : szOk 4 ((l.map tTok).drop k) = true := by
    rw [← List.map_drop]
    cases l.drop k with
    | nil => rfl
    | cons x r => rfl
  simp only [sliceP, bound, h0, if_true, Int.toNat_natCast, elems, List.length_map, hk]
  rw [List.take_of_length_le (by simp), if_pos ⟨trivial, Nat.le_refl _, Nat.le_refl _, hz⟩, List.map_drop]
set_option maxHeartbeats 400000 in
theorem ok19 {sg : Sg} {c : Nat} {a b : Int} {st : Ps} (hc : sg[c]? = some (false, psC st a b)) (hne : st.ts ≠ []) (t : Nm) {ow : Ow} {K : PV → Sg → Ow → Prop} : XcE F gl 19 [.lp c 0, .t (.str t)] sg ow K ⟨⟩ ↔ K (.t (.bool (atM t st))) sg ow := by
  refine CallE.iff (XcE.of F19 rfl ?_)
  simp only [ir19]
  obtain ⟨ts, err, pos, deep, dat⟩ := st
  match ts, hne with
  | x :: r, _ =>
    have hA : atM t ⟨x :: r, err, pos, deep, dat⟩ = (decide (x.kind ≠ 0) && decide (x.text = t)) := rfl
    rw [hA]
    by_cases hk : x.kind = 0
    · have hk' : ((x.kind : Int) = 0) = True := eq_true (by omega)
      simp only [wA, seval, reduceCtorEq, reduceIte, hc, tTok, hk']
      simp [hk]
    · have hk' : ((x.kind : Int) = 0) = False := eq_false (by omega)
      simp only [wA, seval, reduceCtorEq, reduceIte, hc, tTok, hk']
      simp [hk]
set_option maxHeartbeats 400000 in
theorem ok61 {sg : Sg} {c : Nat} {a b : Int} {st : Ps} (hc : sg[c]? = some (false, psC st a b)) (hne : st.ts ≠ []) (hln : st.ts.length ≤ 1000000) (e : Int) {ow : Ow} {K : PV → Sg → Ow → Prop} : XcE F gl 61 [.lp c 0, .t (.int .i64 e)] sg ow K ⟨⟩ ↔ K (.tup []) (sg.set c (false, psC (failM e st) a b)) ow := by
  refine CallE.iff (XcE.of F61 rfl ?_)
  simp only [ir61]
  have hcl := lt_of_get hc
  have hgs := fun y => get_set (y := y) hc
  obtain ⟨ts, err, pos, deep, dat⟩ := st
  match ts, hne with
  | x :: r, _ =>
    have hw : IntKind.wrap .i64 (((r.length + 1 : Nat) : Int) - 1) = ((r.length : Nat) : Int) := by
      simp only [List.length_cons] at hln
      rw [IntWalk.i64_in _ (by omega)]; omega
    have hsl := sl_drop (x :: r) r.length (by simp)
    simp only [List.map_cons, tTok] at hsl
    by_cases he : err = 0
    · have he' : (err = 0) = True := eq_true he
      have hF : failM e ⟨x :: r, err, pos, deep, dat⟩ = ⟨(x :: r).drop r.length, e, (x.pos : Int), deep, dat⟩ := by unfold failM; simp only [he, if_true]; rfl
      rw [hF]
      simp only [wA, seval, reduceCtorEq, reduceIte, hc, hgs, tTok, he', List.length_map, List.length_cons, hw, hsl, List.set_set]
      try exact ⟨rfl, rfl, rfl⟩
    · have he' : (err = 0) = False := eq_false he
      have hF : failM e ⟨x :: r, err, pos, deep, dat⟩ = ⟨(x :: r).drop r.length, err, pos, deep, dat⟩ := by unfold failM; simp only [he, if_false]; rfl
      rw [hF]
      simp only [wA, seval, reduceCtorEq, reduceIte, hc, hgs, tTok, he', List.length_map, List.length_cons, hw, hsl, List.set_set]
      try exact ⟨rfl, rfl, rfl⟩
set_option maxHeartbeats 400000 in
theorem ok59 {sg : Sg} {c : Nat} {a b : Int} {st : Ps} (hc : sg[c]? = some (false, psC st a b)) (hne : st.ts ≠ []) {ow : Ow} : CallE F gl 59 [.lp c 0] sg ow fun v sg' ow' => v = .t (.agg (tTok st.hd)) ∧ Q c a b sg (takeM st) sg' ∧ ow' = ow := by
  refine XcE.of F59 rfl ?_
  simp only [ir59]
  have hcl := lt_of_get hc
  obtain ⟨ts, err, pos, deep, dat⟩ := st
  match ts, hne with
  | [x], _ =>
    have hA : takeM ⟨[x], err, pos, deep, dat⟩ = ⟨[x], err, pos, deep, dat⟩ := rfl
    rw [hA]
    simp only [wA, seval, reduceCtorEq, reduceIte, app_get hcl, hc, tTok]
    exact ⟨rfl, by rw [app_get hcl]; exact hc, Fr.of (.app _ _)⟩
  | x :: y :: r, _ =>
    have hA : takeM ⟨x :: y :: r, err, pos, deep, dat⟩ = ⟨y :: r, err, pos, deep, dat⟩ := rfl
    rw [hA]
    have hsl := sl_drop (x :: y :: r) 1 (by simp)
    have hl : ((r.length + 1 + 1 : Nat) : Int) > 1 := by omega
    simp only [List.map_cons, tTok, List.drop_succ_cons, List.drop_zero, Int.cast_ofNat_Int] at hsl
    simp only [wA, seval, reduceCtorEq, reduceIte, app_get hcl, app_set hcl, hc, tTok, List.length_map, List.length_cons, hl, hsl, gs0, gsk, ss0, ssk]
    exact ⟨rfl, gsc hcl, Fr.setapp _ _ _ _⟩
theorem ok57 {sg : Sg} {c : Nat} {a b : Int} {st : Ps} (hc : sg[c]? = some (false, psC st a b)) (hne : st.ts ≠ []) (t : Nm) {ow : Ow} : CallE F gl 57 [.lp c 0, .t (.str t)] sg ow fun v sg' ow' => v = .t (.bool (atM t st)) ∧ Q c a b sg (accM t st) sg' ∧ ow' = ow := by
  refine XcE.of F57 rfl ?_
  simp only [ir57]
  unfold accM
  cases ha : atM t st with
  | false =>
    simp only [wA, seval, reduceCtorEq, reduceIte, ok19 hc hne, ha]
    exact ⟨hc, Fr.refl _ _⟩
  | true =>
    simp only [wA, seval, reduceCtorEq, reduceIte, ok19 hc hne, ha]
    refine CallE.mono (ok59 hc hne) fun v sg' ow' h => ?_
    obtain ⟨_, h2, h3⟩ := h
    subst h3
    simp only [wA, seval, reduceCtorEq, reduceIte]
    exact h2
theorem ok54 {sg : Sg} {c : Nat} {a b : Int} {st : Ps} (hc : sg[c]? = some (false, psC st a b)) (hne : st.ts ≠ []) (hln : st.ts.length ≤ 1000000) (t : Nm) {ow : Ow} : CallE F gl 54 [.lp c 0, .t (.str t)] sg ow fun v sg' ow' => v = .tup [] ∧ Q c a b sg (expM t st) sg' ∧ ow' = ow := by
  refine XcE.of F54 rfl ?_
  simp only [ir54]
  have h1 := ok57 (gl := gl) hc hne t (ow := ow)
  unfold accM at h1
  unfold expM
  cases ha : atM t st with
  | false =>
    rw [ha] at h1
    simp only [wA, seval, reduceCtorEq, reduceIte]
    refine CallE.mono h1 fun v sg' ow' h => ?_
    obtain ⟨h1, h2, h3⟩ := h
    subst h1 h3
    have hc2 := h2.cell
    simp only [wA, seval, reduceCtorEq, reduceIte, ok61 hc2 hne hln]
    exact h2.trans (Q.set (lt_of_get hc2))
  | true =>
    rw [ha] at h1
    simp only [wA, seval, reduceCtorEq, reduceIte]
    refine CallE.mono h1 fun v sg' ow' h => ?_
    obtain ⟨h1, h2, h3⟩ := h
    subst h1 h3
    simp only [wA, seval, reduceCtorEq, reduceIte]
    exact h2
theorem hd_cons {st : Ps} (h : st.ts ≠ []) : ∃ r, st.ts = st.hd :: r := by
  unfold Ps.hd
  match st.ts, h with
  | x :: r, _ => exact ⟨r, rfl⟩
theorem ok55 {sg : Sg} {c : Nat} {a b : Int} {st : Ps} (hc : sg[c]? = some (false, psC st a b)) (hne : st.ts ≠ []) (hln : st.ts.length ≤ 1000000) {ow : Ow} : CallE F gl 55 [.lp c 0] sg ow fun v sg' ow' => v = .t (.str (nameM st).1) ∧ Q c a b sg (nameM st).2 sg' ∧ ow' = ow := by
  refine XcE.of F55 rfl ?_
  simp only [ir55]
  obtain ⟨r, hr⟩ := hd_cons hne
  have hc1 := hc
  simp only [psC, hr, List.map_cons] at hc1
  unfold nameM
  by_cases hk : st.hd.kind = 1
  · have hk' : ((st.hd.kind : Int) = 1) = True := eq_true (by omega)
    rw [if_neg (fun h => h hk)]
    simp only [wA, seval, reduceCtorEq, reduceIte, hc1, tTok, hk']
    refine CallE.mono (ok59 hc hne) fun v sg' ow' h => ?_
    obtain ⟨h1, h2, h3⟩ := h
    subst h1 h3
    simp only [wA, seval, reduceCtorEq, reduceIte, tTok]
    exact h2
  · have hk' : ((st.hd.kind : Int) = 1) = False := eq_false (by omega)
    rw [if_pos hk]
    simp only [wA, seval, reduceCtorEq, reduceIte, hc1, tTok, hk', ok61 hc hne hln]
    exact Q.set (lt_of_get hc)
theorem ok88 {sg : Sg} {c : Nat} {a b : Int} {st : Ps} (hc : sg[c]? = some (false, psC st a b)) (hne : st.ts ≠ []) (hln : st.ts.length ≤ 1000000) (lo hi : Nat) {ow : Ow} : CallE F gl 88 [.lp c 0, .t (.int .u64 lo), .t (.int .u64 hi)] sg ow fun v sg' ow' => v = .t (.int .i64 (numM lo hi st).1) ∧ Q c a b sg (numM lo hi st).2 sg' ∧ ow' = ow := by
  refine XcE.of F88 rfl ?_
  simp only [ir88]
  obtain ⟨r, hr⟩ := hd_cons hne
  have hcl := lt_of_get hc
  have hc1 := hc
  simp only [psC, hr, List.map_cons] at hc1
  have hca : ∀ z : Sg, (sg ++ z)[c]? = some (false, psC st a b) := fun z => by rw [app_get hcl]; exact hc
  unfold numM
  by_cases hk : st.hd.kind = 3
  · have hk' : ((st.hd.kind : Int) = 3) = True := eq_true (by omega)
    by_cases hlo : st.hd.val < lo
    · have hlo' : ((st.hd.val : Int) < (lo : Int)) = True := eq_true (by omega)
      rw [if_pos (.inr hlo)]
      simp only [wA, seval, reduceCtorEq, reduceIte, hc1, app_get hcl, tTok, hk', hlo', ok61 (hca _) hne hln]
      exact ⟨(Q.set (lt_of_get (hca _))).cell, (Fr.of (.app _ _)).trans (Q.set (a := a) (b := b) (lt_of_get (hca _))).fr⟩
    · have hlo' : ((st.hd.val : Int) < (lo : Int)) = False := eq_false (by omega)
      rw [if_neg (fun h => h.elim (fun h => h hk) hlo)]
      by_cases hhi : hi < st.hd.val
      · have hhi' : ((st.hd.val : Int) > (hi : Int)) = True := eq_true (by omega)
        rw [if_pos hhi]
        simp only [wA, seval, reduceCtorEq, reduceIte, hc1, app_get hcl, tTok, hk', hlo', hhi', ok61 (hca _) hne hln]
        exact ⟨(Q.set (lt_of_get (hca _))).cell, (Fr.of (.app _ _)).trans (Q.set (a := a) (b := b) (lt_of_get (hca _))).fr⟩
      · have hhi' : ((st.hd.val : Int) > (hi : Int)) = False := eq_false (by omega)
        rw [if_neg hhi]
        simp only [wA, seval, reduceCtorEq, reduceIte, hc1, app_get hcl, tTok, hk', hlo', hhi']
        refine CallE.mono (ok59 (hca _) hne) fun v sg' ow' h => ?_
        obtain ⟨h1, h2, h3⟩ := h
        subst h1 h3
        simp only [wA, seval, reduceCtorEq, reduceIte, tTok]
        exact ⟨h2.cell, (Fr.of (.app _ _)).trans h2.fr⟩
  · have hk' : ((st.hd.kind : Int) = 3) = False := eq_false (by omega)
    rw [if_pos (.inl hk)]
    simp only [wA, seval, reduceCtorEq, reduceIte, hc1, app_get hcl, tTok, hk', ok61 (hca _) hne hln]
    exact ⟨(Q.set (lt_of_get (hca _))).cell, (Fr.of (.app _ _)).trans (Q.set (a := a) (b := b) (lt_of_get (hca _))).fr⟩
theorem ok33 {sg : Sg} {c : Nat} {a b : Int} {st : Ps} (hc : sg[c]? = some (false, psC st a b)) (pos : Int) (q : Bool) {ow : Ow} : CallE F gl 33 [.lp c 0, .t (.int .i64 pos), .t (.bool q)] sg ow fun v sg' ow' => v = .tup [] ∧ Q c a b sg (depM pos q st) sg' ∧ ow' = ow := by
  refine XcE.of F33 rfl ?_
  simp only [ir33]
  have hcl := lt_of_get hc
  have hgs := fun y => get_set (y := y) hc
  unfold depM
  cases q with
  | false =>
    simp only [wA, seval, reduceCtorEq, reduceIte]
    exact ⟨hc, Fr.refl _ _⟩
  | true =>
    cases hd : st.deep with
    | true =>
      have hc1 := hc
      simp only [psC, hd] at hc1
      simp only [wA, seval, reduceCtorEq, reduceIte, hc1]
      exact ⟨hc, Fr.refl _ _⟩
    | false =>
      have hc1 := hc
      simp only [psC, hd] at hc1
      have hgs := fun y => get_set (y := y) hc1
      simp only [wA, seval, reduceCtorEq, reduceIte, hc1, hgs, List.set_set]
      exact Q.set hcl
theorem ok23 {sg : Sg} {c : Nat} {a b : Int} {st : Ps} (hc : sg[c]? = some (false, psC st a b)) (hne : st.ts ≠ []) (hln : st.ts.length ≤ 1000000) {ow : Ow} : CallE F gl 23 [.lp c 0] sg ow fun v sg' ow' => v = .tup [] ∧ Q c a b sg (endM st) sg' ∧ ow' = ow := by
  refine XcE.of F23 rfl ?_
  simp only [ir23]
  obtain ⟨r, hr⟩ := hd_cons hne
  have hc1 := hc
  simp only [psC, hr, List.map_cons] at hc1
  unfold endM
  by_cases hk : st.hd.kind = 0
  · have hk' : ((st.hd.kind : Int) = 0) = True := eq_true (by omega)
    rw [if_neg (fun h => h hk)]
    simp only [wA, seval, reduceCtorEq, reduceIte, hc1, tTok, hk']
    exact ⟨hc, Fr.refl _ _⟩
  · have hk' : ((st.hd.kind : Int) = 0) = False := eq_false (by omega)
    rw [if_pos hk]
    simp only [wA, seval, reduceCtorEq, reduceIte, hc1, tTok, hk', ok61 hc hne hln]
    exact Q.set (lt_of_get hc)
theorem ok66 (op : Int) (nl : Bool) (l : List Exp) {K : PV → Prop} : XcP F gl 66 [.int .i64 op, .sl nl (tExs l)] K ⟨⟩ ↔ K (.t (.agg (tEx (.mk op 0 [] nl l)))) := by
  refine Ret.iff (Ret.of F66 rfl ?_)
  simp only [ir66]
  simp only [wA, seval, reduceCtorEq, reduceIte]
  try rfl
theorem ok24 {sg : Sg} {c : Nat} {a b : Int} {st : Ps} (hc : sg[c]? = some (false, psC st a b)) {ow : Ow} {K : PV → Sg → Ow → Prop} : XcE F gl 24 [.lp c 0] sg ow K ⟨⟩ ↔ K (.tup [.t (.int .i64 (resM a b st).1), .t (.int .i64 (resM a b st).2)]) sg ow := by
  refine CallE.iff (XcE.of F24 rfl ?_)
  simp only [ir24]
  unfold resM
  by_cases he : st.err = 0
  · have he' : (st.err = 0) = True := eq_true he
    rw [if_neg (fun h => h.1 he)]
    by_cases ha : a = 0
    · have ha' : (a = 0) = True := eq_true ha
      rw [if_neg (fun h => h ha)]
      cases hd : st.deep with
      | true =>
        simp only [wA, seval, reduceCtorEq, reduceIte, hc, he', ha', hd, xR_two]
      | false =>
        simp only [wA, seval, reduceCtorEq, reduceIte, hc, he', ha', hd, xR_two]
    · have ha' : (a = 0) = False := eq_false ha
      rw [if_pos ha]
      simp only [wA, seval, reduceCtorEq, reduceIte, hc, he', ha', xR_two]
  · have he' : (st.err = 0) = False := eq_false he
    by_cases ha : a = 0
    · have ha' : (a = 0) = True := eq_true ha
      rw [if_pos ⟨he, .inl ha⟩]
      simp only [wA, seval, reduceCtorEq, reduceIte, hc, he', ha', xR_two]
    · have ha' : (a = 0) = False := eq_false ha
      by_cases hb : st.pos < b
      · have hb' : (st.pos < b) = True := eq_true hb
        rw [if_pos ⟨he, .inr hb⟩]
        simp only [wA, seval, reduceCtorEq, reduceIte, hc, he', ha', hb', xR_two]
      · have hb' : (st.pos < b) = False := eq_false hb
        rw [if_neg (fun h => h.2.elim ha hb), if_pos ha]
        simp only [wA, seval, reduceCtorEq, reduceIte, hc, he', ha', hb', xR_two]
end Go.Proofs.YtcbgiabippcpaaaGreatDoor
