/- The parser's small functions. -/
import Derived.Test.YtcbgiabippcpaaaGreatDoorM5
import Derived.Test.YtcbgiabippcpaaaGreatDoorKx42
import Derived.Test.YtcbgiabippcpaaaGreatDoorKx42
import Derived.Test.YtcbgiabippcpaaaGreatDoorKx42
set_option maxRecDepth 10000
set_option linter.unusedVariables false
set_option linter.unusedSimpArgs false
namespace Go.Proofs.YtcbgiabippcpaaaGreatDoor
open Go.Pi Go.Lx Go.Ky
variable {gl : Nat → Option (List T)}
abbrev psC (st : Ps) (a b : Int) : List PV := [.t (.sl false (st.ts.map tTok)), .t (.int .i64 st.err), .t (.int .i64 st.pos), .t (.int .i64 a), .t (.int .i64 b), .t (.bool st.deep), .t (.int .i64 st.dat)]
structure Q (c : Nat) (a b : Int) (sg : Sg) (st : Ps) (sg' : Sg) : Prop where
  cell : sg'[c]? = some (false, psC st a b)
  fr : Fr c sg sg'
theorem Q.trans {c : Nat} {a b : Int} {s0 s1 s2 : Sg} {x y : Ps} (h : Q c a b s0 x s1) (h' : Q c a b s1 y s2) : Q c a b s0 y s2 := ⟨h'.cell, h.fr.trans h'.fr⟩
theorem Q.set {c : Nat} {a b : Int} {sg : Sg} {y : Ps} (hc : c < sg.length) : Q c a b sg y (sg.set c (false, psC y a b)) := ⟨by rw [List.getElem?_set_self hc], (Fr.refl c sg).set _⟩
theorem sl_drop (l : List Tok) (k : Nat) (hk : k ≤ l.length) : sliceP 4 (.t (.sl false (l.map tTok))) (some (.t (.int .i64 (k : Int)))) none none = some (.t (.sl false ((l.drop k).map tTok))) := by
  have h0 : (0 : Int) ≤ (k : Int) := by omega
  have hz : szOk 4 ((l.map tTok).drop k) = true := by
    rw [← List.map_drop]
    cases l.drop k with
    | nil => rfl
    | cons x r => rfl
  simp only [sliceP, bound, h0, if_true, Int.toNat_natCast, elems, List.length_map, hk]
  rw [List.take_of_length_le (by simp), if_pos ⟨trivial, Nat.le_refl _, Nat.le_refl _, hz⟩, List.map_drop]
set_option maxHeartbeats 400000 in
theorem ok19 {sg : Sg} {c : Nat} {a b : Int} {st : Ps} (hc : sg[c]? = some (false, psC st a b)) (hne : st.ts ≠ []) (t : Nm) {ow : Ow} {K : PV → Sg → Ow → Prop} : XcE F gl 19 [.lp c 0, .t (.str t)] sg ow K ⟨⟩ ↔ K (.t (.bool (atM t st))) sg ow := by
  refine CallE.iff (XcE.of F19 rfl ?_)
  simp only [ir19]
  obtain ⟨ts, err, pos, deep, dat⟩ := st
  match ts, hne with
  | x :: r, _ =>
    have hA : atM t ⟨x :: r, err, pos, deep, dat⟩ = (decide (x.kind ≠ 0) && decide (x.text = t)) := rfl
    rw [hA]
    by_cases hk : x.kind = 0
    · have hk' : ((x.kind : Int) = 0) = True := eq_true (by omega)
      simp only [wA, seval, reduceCtorEq, reduceIte, hc, tTok, hk']
      simp [hk]
    · have hk' : ((x.kind : Int) = 0) = False := eq_false (by omega)
      simp only [wA, seval, reduceCtorEq, reduceIte, hc, tTok, hk']
      simp [hk]
set_option maxHeartbeats 400000 in
theorem ok61 {sg : Sg} {c : Nat} {a b : Int} {st : Ps} (hc : sg[c]? = some (false, psC st a b)) (hne : st.ts ≠ []) (hln : st.ts.length ≤ 1000000) (e : Int) {ow : Ow} {K : PV → Sg → Ow → Prop} : XcE F gl 61 [.lp c 0, .t (.int .i64 e)] sg ow K ⟨⟩ ↔ K (.tup []) (sg.set c (false, psC (failM e st) a b)) ow := by
  refine CallE.iff (XcE.of F61 rfl ?_)
  simp only [ir61]
  have hcl := lt_of_get hc
  have hgs := fun y => get_set (y := y) hc
  obtain ⟨ts, err, pos, deep, dat⟩ := st
  match ts, hne with
  | x :: r, _ =>
    have hw : IntKind.wrap .i64 (((r.length + 1 : Nat) : Int) - 1) = ((r.length : Nat) : Int) := by
      simp only [List.length_cons] at hln
      rw [IntWalk.i64_in _ (by omega)]; omega
    have hsl := sl_drop (x :: r) r.length (by simp)
    simp only [List.map_cons, tTok] at hsl
    by_cases he : err = 0
    · have he' : (err = 0) = True := eq_true he
      have hF : failM e ⟨x :: r, err, pos, deep, dat⟩ = ⟨(x :: r).drop r.length, e, (x.pos : Int), deep, dat⟩ := by unfold failM; simp only [he, if_true]; rfl
      rw [hF]
      simp only [wA, seval, reduceCtorEq, reduceIte, hc, hgs, tTok, he', List.length_map, List.length_cons, hw, hsl, List.set_set]
      try exact ⟨rfl, rfl, rfl⟩
    · have he' : (err = 0) = False := eq_false he
      have hF : failM e ⟨x :: r, err, pos, deep, dat⟩ = ⟨(x :: r).drop r.length, err, pos, deep, dat⟩ := by unfold failM; simp only [he, if_false]; rfl
      rw [hF]
      simp only [wA, seval, reduceCtorEq, reduceIte, hc, hgs, tTok, he', List.length_map, List.length_cons, hw, hsl, List.set_set]
      try exact ⟨rfl, rfl, rfl⟩
set_option maxHeartbeats 400000 in
theorem ok59 {sg : Sg} {c : Nat} {a b : Int} {st : Ps} (hc : sg[c]? = some (false, psC st a b)) (hne : st.ts ≠ []) {ow : Ow} : CallE F gl 59 [.lp c 0] sg ow fun v sg' ow' => v = .t (.agg (tTok st.hd)) ∧ Q c a b sg (takeM st) sg' ∧ ow' = ow := by
  refine XcE.of F59 rfl ?_
  simp only [ir59]
  have hcl := lt_of_get hc
  obtain ⟨ts, err, pos, deep, dat⟩ := st
  match ts, hne with
  | [x], _ =>
    have hA : takeM ⟨[x], err, pos, deep, dat⟩ = ⟨[x], err, pos, deep, dat⟩ := rfl
    rw [hA]
    simp only [wA, seval, reduceCtorEq, reduceIte, app_get hcl, hc, tTok]
    exact ⟨rfl, by rw [app_get hcl]; exact hc, Fr.of (.app _ _)⟩
  | x :: y :: r, _ =>
    have hA : takeM ⟨x :: y :: r, err, pos, deep, dat⟩ = ⟨y :: r, err, pos, deep, dat⟩ := rfl
    rw [hA]
    have hsl := sl_drop (x :: y :: r) 1 (by simp)
    have hl : ((r.length + 1 + 1 : Nat) : Int) > 1 := by omega
    simp only [List.map_cons, tTok, List.drop_succ_cons, List.drop_zero, Int.cast_ofNat_Int] at hsl
    simp only [wA, seval, reduceCtorEq, reduceIte, app_get hcl, app_set hcl, hc, tTok, List.length_map, List.length_cons, hl, hsl, gs0, gsk, ss0, ssk]
    exact ⟨rfl, gsc hcl, Fr.setapp _ _ _ _⟩
theorem ok57 {sg : Sg} {c : Nat} {a b : Int} {st : Ps} (hc : sg[c]? = some (false, psC st a b)) (hne : st.ts ≠ []) (t : Nm) {ow : Ow} : CallE F gl 57 [.lp c 0, .t (.str t)] sg ow fun v sg' ow' => v = .t (.bool (atM t st)) ∧ Q c a b sg (accM t st) sg' ∧ ow' = ow := by
  refine XcE.of F57 rfl ?_
  simp only [ir57]
  unfold accM
  cases ha : atM t st with
  | false =>
    simp only [wA, seval, reduceCtorEq, reduceIte, ok19 hc hne, ha]
    exact ⟨hc, Fr.refl _ _⟩
  | true =>
    simp only [wA, seval, reduceCtorEq, reduceIte, ok19 hc hne, ha]
    refine CallE.mono (ok59 hc hne) fun v sg' ow' h => ?_
    obtain ⟨_, h2, h3⟩ := h
    subst h3
    simp only [wA, seval, reduceCtorEq, reduceIte]
    exact h2
theorem ok54 {sg : Sg} {c : Nat} {a b : Int} {st : Ps} (hc : sg[c]? = some (false, psC st a b)) (hne : st.ts ≠ []) (hln : st.ts.length ≤ 1000000) (t : Nm) {ow : Ow} : CallE F gl 54 [.lp c 0, .t (.str t)] sg ow fun v sg' ow' => v = .tup [] ∧ Q c a b sg (expM t st) sg' ∧ ow' = ow := by
  refine XcE.of F54 rfl ?_
  simp only [ir54]
  have h1 := ok57 (gl := gl) hc hne t (ow := ow)
  unfold accM at h1
  unfold expM
  cases ha : atM t st with
  | false =>
    rw [ha] at h1
    simp only [wA, seval, reduceCtorEq, reduceIte]
    refine CallE.mono h1 fun v sg' ow' h => ?_
    obtain ⟨h1, h2, h3⟩ := h
    subst h1 h3
    have hc2 := h2.cell
    simp only [wA, seval, reduceCtorEq, reduceIte, ok61 hc2 hne hln]
    exact h2.trans (Q.set (lt_of_get hc2))
  | true =>
    rw [ha] at h1
    simp only [wA, seval, reduceCtorEq, reduceIte]
    refine CallE.mono h1 fun v sg' ow' h => ?_
    obtain ⟨h1, h2, h3⟩ := h
    subst h1 h3
    simp only [wA, seval, reduceCtorEq, reduceIte]
    exact h2
theorem hd_cons {st : Ps} (h : st.ts ≠ []) : ∃ r, st.ts = st.hd :: r := by
  unfold Ps.hd
  match st.ts, h with
  | x :: r, _ => exact ⟨r, rfl⟩
theorem ok55 {sg : Sg} {c : Nat} {a b : Int} {st : Ps} (hc : sg[c]? = some (false, psC st a b)) (hne : st.ts ≠ []) (hln : st.ts.length ≤ 1000000) {ow : Ow} : CallE F gl 55 [.lp c 0] sg ow fun v sg' ow' => v = .t (.str (nameM st).1) ∧ Q c a b sg (nameM st).2 sg' ∧ ow' = ow := by
  refine XcE.of F55 rfl ?_
  simp only [ir55]
  obtain ⟨r, hr⟩ := hd_cons hne
  have hc1 := hc
  simp only [psC, hr, List.map_cons] at hc1
  unfold nameM
  by_cases hk : st.hd.kind = 1
  · have hk' : ((st.hd.kind : Int) = 1) = True := eq_true (by omega)
    rw [if_neg (fun h => h hk)]
    simp only [wA, seval, reduceCtorEq, reduceIte, hc1, tTok, hk']
    refine CallE.mono (ok59 hc hne) fun v sg' ow' h => ?_
    obtain ⟨h1, h2, h3⟩ := h
    subst h1 h3
    simp only [wA, seval, reduceCtorEq, reduceIte, tTok]
    exact h2
  · have hk' : ((st.hd.kind : Int) = 1) = False := eq_false (by omega)
    rw [if_pos hk]
    simp only [wA, seval, reduceCtorEq, reduceIte, hc1, tTok, hk', ok61 hc hne hln]
    exact Q.set (lt_of_get hc)
theorem ok88 {sg : Sg} {c : Nat} {a b : Int} {st : Ps} (hc : sg[c]? = some (false, psC st a b)) (hne : st.ts ≠ []) (hln : st.ts.length ≤ 1000000) (lo hi : Nat) {ow : Ow} : CallE F gl 88 [.lp c 0, .t (.int .u64 lo), .t (.int .u64 hi)] sg ow fun v sg' ow' => v = .t (.int .i64 (numM lo hi st).1) ∧ Q c a b sg (numM lo hi st).2 sg' ∧ ow' = ow := by
  refine XcE.of F88 rfl ?_
  simp only [ir88]
  obtain ⟨r, hr⟩ := hd_cons hne
  have hcl := lt_of_get hc
  have hc1 := hc
  simp only [psC, hr, List.map_cons] at hc1
  have hca : ∀ z : Sg, (sg ++ z)[c]? = some (false, psC st a b) := fun z => by rw [app_get hcl]; exact hc
  unfold numM
  by_cases hk : st.hd.kind = 3
  · have hk' : ((st.hd.kind : Int) = 3) = True := eq_true (by omega)
    by_cases hlo : st.hd.val < lo
    · have hlo' : ((st.hd.val : Int) < (lo : Int)) = True := eq_true (by omega)
      rw [if_pos (.inr hlo)]
      simp only [wA, seval, reduceCtorEq, reduceIte, hc1, app_get hcl, tTok, hk', hlo', ok61 (hca _) hne hln]
      exact ⟨(Q.set (lt_of_get (hca _))).cell, (Fr.of (.app _ _)).trans (Q.set (a := a) (b := b) (lt_of_get (hca _))).fr⟩
    · have hlo' : ((st.hd.val : Int) < (lo : Int)) = False := eq_false (by omega)
      rw [if_neg (fun h => h.elim (fun h => h hk) hlo)]
      by_cases hhi : hi < st.hd.val
      · have hhi' : ((st.hd.val : Int) > (hi : Int)) = True := eq_true (by omega)
        rw [if_pos hhi]
        simp only [wA, seval, reduceCtorEq, reduceIte, hc1, app_get hcl, tTok, hk', hlo', hhi', ok61 (hca _) hne hln]
        exact ⟨(Q.set (lt_of_get (hca _))).cell, (Fr.of (.app _ _)).trans (Q.set (a := a) (b := b) (lt_of_get (hca _))).fr⟩
      · have hhi' : ((st.hd.val : Int) > (hi : Int)) = False := eq_false (by omega)
        rw [if_neg hhi]
        simp only [wA, seval, reduceCtorEq, reduceIte, hc1, app_get hcl, tTok, hk', hlo', hhi']
        refine CallE.mono (ok59 (hca _) hne) fun v sg' ow' h => ?_
        obtain ⟨h1, h2, h3⟩ := h
        subst h1 h3
        simp only [wA, seval, reduceCtorEq, reduceIte, tTok]
        exact ⟨h2.cell, (Fr.of (.app _ _)).trans h2.fr⟩
  · have hk' : ((st.hd.kind : Int) = 3) = False := eq_false (by omega)
    rw [if_pos (.inl hk)]
    simp only [wA, seval, reduceCtorEq, reduceIte, hc1, app_get hcl, tTok, hk', ok61 (hca _) hne hln]
    exact ⟨(Q.set (lt_of_get (hca _))).cell, (Fr.of (.app _ _)).trans (Q.set (a := a) (b := b) (lt_of_get (hca _))).fr⟩
theorem ok33 {sg : Sg} {c : Nat} {a b : Int} {st : Ps} (hc : sg[c]? = some (false, psC st a b)) (pos : Int) (q : Bool) {ow : Ow} : CallE F gl 33 [.lp c 0, .t (.int .i64 pos), .t (.bool q)] sg ow fun v sg' ow' => v = .tup [] ∧ Q c a b sg (depM pos q st) sg' ∧ ow' = ow := by
  refine XcE.of F33 rfl ?_
  simp only [ir33]
  have hcl := lt_of_get hc
  have hgs := fun y => get_set (y := y) hc
  unfold depM
  cases q with
  | false =>
    simp only [wA, seval, reduceCtorEq, reduceIte]
    exact ⟨hc, Fr.refl _ _⟩
  | true =>
    cases hd : st.deep with
    | true =>
      have hc1 := hc
      simp only [psC, hd] at hc1
      simp only [wA, seval, reduceCtorEq, reduceIte, hc1]
      exact ⟨hc, Fr.refl _ _⟩
    | false =>
      have hc1 := hc
      simp only [psC, hd] at hc1
      have hgs := fun y => get_set (y := y) hc1
      simp only [wA, seval, reduceCtorEq, reduceIte, hc1, hgs, List.set_set]
      exact Q.set hcl
theorem ok23 {sg : Sg} {c : Nat} {a b : Int} {st : Ps} (hc : sg[c]? = some (false, psC st a b)) (hne : st.ts ≠ []) (hln : st.ts.length ≤ 1000000) {ow : Ow} : CallE F gl 23 [.lp c 0] sg ow fun v sg' ow' => v = .tup [] ∧ Q c a b sg (endM st) sg' ∧ ow' = ow := by
  refine XcE.of F23 rfl ?_
  simp only [ir23]
  obtain ⟨r, hr⟩ := hd_cons hne
  have hc1 := hc
  simp only [psC, hr, List.map_cons] at hc1
  unfold endM
  by_cases hk : st.hd.kind = 0
  · have hk' : ((st.hd.kind : Int) = 0) = True := eq_true (by omega)
    rw [if_neg (fun h => h hk)]
    simp only [wA, seval, reduceCtorEq, reduceIte, hc1, tTok, hk']
    exact ⟨hc, Fr.refl _ _⟩
  · have hk' : ((st.hd.kind : Int) = 0) = False := eq_false (by omega)
    rw [if_pos hk]
    simp only [wA, seval, reduceCtorEq, reduceIte, hc1, tTok, hk', ok61 hc hne hln]
    exact Q.set (lt_of_get hc)
theorem ok66 (op : Int) (nl : Bool) (l : List Exp) {K : PV → Prop} : XcP F gl 66 [.int .i64 op, .sl nl (tExs l)] K ⟨⟩ ↔ K (.t (.agg (tEx (.mk op 0 [] nl l)))) := by
  refine Ret.iff (Ret.of F66 rfl ?_)
  simp only [ir66]
  simp only [wA, seval, reduceCtorEq, reduceIte]
  try rfl
theorem ok24 {sg : Sg} {c : Nat} {a b : Int} {st : Ps} (hc : sg[c]? = some (false, psC st a b)) {ow : Ow} {K : PV → Sg → Ow → Prop} : XcE F gl 24 [.lp c 0] sg ow K ⟨⟩ ↔ K (.tup [.t (.int .i64 (resM a b st).1), .t (.int .i64 (resM a b st).2)]) sg ow := by
  refine CallE.iff (XcE.of F24 rfl ?_)
  simp only [ir24]
  unfold resM
  by_cases he : st.err = 0
  · have he' : (st.err = 0) = True := eq_true he
    rw [if_neg (fun h => h.1 he)]
    by_cases ha : a = 0
    · have ha' : (a = 0) = True := eq_true ha
      rw [if_neg (fun h => h ha)]
      cases hd : st.deep with
      | true =>
        simp only [wA, seval, reduceCtorEq, reduceIte, hc, he', ha', hd, xR_two]
      | false =>
        simp only [wA, seval, reduceCtorEq, reduceIte, hc, he', ha', hd, xR_two]
    · have ha' : (a = 0) = False := eq_false ha
      rw [if_pos ha]
      simp only [wA, seval, reduceCtorEq, reduceIte, hc, he', ha', xR_two]
  · have he' : (st.err = 0) = False := eq_false he
    by_cases ha : a = 0
    · have ha' : (a = 0) = True := eq_true ha
      rw [if_pos ⟨he, .inl ha⟩]
      simp only [wA, seval, reduceCtorEq, reduceIte, hc, he', ha', xR_two]
    · have ha' : (a = 0) = False := eq_false ha
      by_cases hb : st.pos < b
      · have hb' : (st.pos < b) = True := eq_true hb
        rw [if_pos ⟨he, .inr hb⟩]
        simp only [wA, seval, reduceCtorEq, reduceIte, hc, he', ha', hb', xR_two]
      · have hb' : (st.pos < b) = False := eq_false hb
        rw [if_neg (fun h => h.2.elim ha hb), if_pos ha]
        simp only [wA, seval, reduceCtorEq, reduceIte, hc, he', ha', hb', xR_two]
end Go.Proofs.YtcbgiabippcpaaaGreatDoor

/- The parser's expressions: what is to be shown. -/
set_option maxRecDepth 10000
set_option linter.unusedVariables false
set_option linter.unusedSimpArgs false
namespace Go.Proofs.YtcbgiabippcpaaaGreatDoor
open Go.Pi Go.Lx Go.Ky
variable {gl : Nat → Option (List T)}
def OwK (ow ow' : Ow) : Prop := ow.length ≤ ow'.length ∧ ∀ j, j < ow.length → ow'[j]? = ow[j]?
theorem OwK.refl {ow : Ow} : OwK ow ow := ⟨Nat.le_refl _, fun _ _ => rfl⟩
theorem OwK.trans {x y z : Ow} (h : OwK x y) (h' : OwK y z) : OwK x z := ⟨Nat.le_trans h.1 h'.1, fun j hj => by rw [h'.2 j (Nat.lt_of_lt_of_le hj h.1), h.2 j hj]⟩
def Xk (x : PV) (e : Exp) : Prop := x = .lit (tExs e.args) ∨ ∃ k, x = .own k 4 (tExs e.args)
theorem Xk.al {x : PV} {e : Exp} (h : Xk x e) : allT [x] = none ∧ Go.Pi.one x = true := by
  rcases h with rfl | ⟨k, rfl⟩ <;> exact ⟨rfl, rfl⟩
abbrev eK (e : Exp) (x : PV) : List PV := [.t (.int .i64 e.op), .t (.int .u64 e.val), .t (.str e.name), x]
abbrev eT (e : Exp) : List PV := [.t (.int .i64 e.op), .t (.int .u64 e.val), .t (.str e.name), .t (.sl e.nl (tExs e.args))]
def Ev (v : PV) (e : Exp) : Prop := v = .t (.agg [.int .i64 e.op, .int .u64 e.val, .str e.name, .sl e.nl (tExs e.args)]) ∨ ∃ k, (Xk k e ∧ e.nl = false) ∧ v = .agg (eK e k)
def Ec (cs : List PV) (e : Exp) : Prop := cs = eT e ∨ ∃ k, (Xk k e ∧ e.nl = false) ∧ cs = eK e k
theorem Ev.nod (op : Int) (l : List Exp) : Ev (.t (.agg [.int .i64 op, .int .u64 0, .str [], .sl l.isEmpty (tExs l)])) (nod op l) := .inl rfl
abbrev z4 : List T := [.int .i64 0, .int .u64 0, .str [], .sl true []]
theorem Ev.cells {v : PV} {e : Exp} (h : Ev v e) : ∃ x, cellsP v = eK e x ∧ cell1 x = some (.sl e.nl (tExs e.args)) := by
  rcases h with rfl | ⟨k, ⟨hk, hn⟩, rfl⟩
  · exact ⟨_, rfl, rfl⟩
  · refine ⟨k, rfl, ?_⟩
    rw [hn]; rcases hk with rfl | ⟨_, rfl⟩ <;> rfl
theorem fill_cons {cs : List PV} {o : Nat} {v x : PV} {e : Exp} {r : List (Nat × Nat × PV)} (h : cellsP v = eK e x) (ho : o + 4 ≤ cs.length) : fillP cs ((o, 4, v) :: r) = fillP (setRange cs o (eK e x)) r := by
  rw [fillP, h, if_pos ⟨rfl, ho⟩]
theorem mapK {x : PV} {e : Exp} (h : cell1 x = some (.sl e.nl (tExs e.args))) (r : List PV) : (eK e x ++ r).mapM cell1 = (r.mapM cell1).map ([.int .i64 e.op, .int .u64 e.val, .str e.name, .sl e.nl (tExs e.args)] ++ ·) := by
  simp only [List.cons_append, List.nil_append, List.mapM_cons, h]
  simp only [cell1]
  cases r.mapM cell1 <;> rfl
theorem bsl1 {v : PV} {e : Exp} (h : Ev v e) : bslV 4 1 z4 [(0, 4, v)] = some (.lit (tExs [e])) := by
  have : tExs [e] = [[.int .i64 e.op, .int .u64 e.val, .str e.name, .sl e.nl (tExs e.args)]] := by rw [tExs, tEx_eq]; rfl
  rw [this]
  obtain ⟨x, hx, cx⟩ := h.cells
  unfold bslV
  rw [fill_cons hx (by decide), fillP]
  show ((eK e x ++ []).mapM cell1).map _ = _
  rw [mapK cx]
  rfl
theorem bsl2 {v w : PV} {e f : Exp} (h : Ev v e) (h' : Ev w f) : bslV 4 2 z4 [(0, 4, v), (4, 4, w)] = some (.lit (tExs [e, f])) := by
  have : tExs [e, f] = [[.int .i64 e.op, .int .u64 e.val, .str e.name, .sl e.nl (tExs e.args)], [.int .i64 f.op, .int .u64 f.val, .str f.name, .sl f.nl (tExs f.args)]] := by rw [tExs, tExs, tEx_eq, tEx_eq]; rfl
  rw [this]
  obtain ⟨x, hx, cx⟩ := h.cells
  obtain ⟨y, hy, cy⟩ := h'.cells
  unfold bslV
  rw [fill_cons hx (by decide), fill_cons hy (Nat.le_refl 8), fillP]
  show ((eK e x ++ (eK f y ++ [])).mapM cell1).map _ = _
  rw [mapK cx, mapK cy]
  rfl
theorem bsl3 {v w z : PV} {e f g : Exp} (h : Ev v e) (h' : Ev w f) (h'' : Ev z g) : bslV 4 3 z4 [(0, 4, v), (4, 4, w), (8, 4, z)] = some (.lit (tExs [e, f, g])) := by
  have : tExs [e, f, g] = [[.int .i64 e.op, .int .u64 e.val, .str e.name, .sl e.nl (tExs e.args)], [.int .i64 f.op, .int .u64 f.val, .str f.name, .sl f.nl (tExs f.args)], [.int .i64 g.op, .int .u64 g.val, .str g.name, .sl g.nl (tExs g.args)]] := by rw [tExs, tExs, tExs, tEx_eq, tEx_eq, tEx_eq]; rfl
  rw [this]
  obtain ⟨x, hx, cx⟩ := h.cells
  obtain ⟨y, hy, cy⟩ := h'.cells
  obtain ⟨u, hu, cu⟩ := h''.cells
  unfold bslV
  rw [fill_cons hx (by decide), fill_cons hy (show 4 + 4 ≤ 12 by decide), fill_cons hu (Nat.le_refl 12), fillP]
  show ((eK e x ++ (eK f y ++ (eK g u ++ []))).mapM cell1).map _ = _
  rw [mapK cx, mapK cy, mapK cu]
  rfl
def EvR (c : Nat) (a b : Int) (sg : Sg) (ow : Ow) (r : Exp × Ps) : PV → Sg → Ow → Prop := fun v sg' ow' => Ev v r.1 ∧ Q c a b sg r.2 sg' ∧ OwK ow ow'
def Lv (k0 : Nat) (v : PV) (ow : Ow) (l : List Exp) : Prop := (v = .lit (tExs l)) ∨ ∃ k, v = .own k 4 (tExs l) ∧ ow[k]? = some l.length ∧ k0 ≤ k
structure Pre (c : Nat) (a b : Int) (st : Ps) (sg : Sg) : Prop where
  cell : sg[c]? = some (false, psC st a b)
  wf : WfT st.ts
  ln : st.ts.length ≤ 100000
theorem Pre.lt {c : Nat} {a b : Int} {st : Ps} {sg : Sg} (h : Pre c a b st sg) : c < sg.length := lt_of_get h.cell
theorem Pre.ne {c : Nat} {a b : Int} {st : Ps} {sg : Sg} (h : Pre c a b st sg) : st.ts ≠ [] := h.wf.ne
theorem Pre.app {c : Nat} {a b : Int} {st : Ps} {sg : Sg} (h : Pre c a b st sg) (z : Sg) : Pre c a b st (sg ++ z) := ⟨by rw [app_get h.lt]; exact h.cell, h.wf, h.ln⟩
theorem Pre.next {c : Nat} {a b : Int} {st st' : Ps} {sg sg' s2 : Sg} (h : Pre c a b st sg) (q : Q c a b s2 st' sg') (hs : Suf st st') : Pre c a b st' sg' := ⟨q.cell, hs.wf h.wf, Nat.le_trans hs.le h.ln⟩
structure CAll (gl : Nat → Option (List T)) (n : Nat) : Prop where
  ex : ∀ c a b st sg ow, Pre c a b st sg → 12 * st.ts.length + 11 ≤ n → CallE F gl 32 [.lp c 0] sg ow (EvR c a b sg ow (exprM n st))
  bi : ∀ (lv : Nat) c a b st sg ow, lv ≤ 5 → Pre c a b st sg → 12 * st.ts.length + (10 - lv) ≤ n → CallE F gl 65 [.lp c 0, .t (.int .i64 lv)] sg ow (EvR c a b sg ow (binM n lv st))
  un : ∀ c a b st sg ow, Pre c a b st sg → 12 * st.ts.length + 4 ≤ n → CallE F gl 89 [.lp c 0] sg ow (EvR c a b sg ow (unM n st))
  pr : ∀ c a b st sg ow, Pre c a b st sg → 12 * st.ts.length + 3 ≤ n → CallE F gl 116 [.lp c 0] sg ow (EvR c a b sg ow (priM n st))
  ha : ∀ c a b st sg ow, Pre c a b st sg → 12 * st.ts.length + 13 ≤ n → CallE F gl 127 [.lp c 0] sg ow (EvR c a b sg ow (hashM n st))
  ar : ∀ c a b st sg ow, Pre c a b st sg → 12 * st.ts.length + 13 ≤ n → CallE F gl 126 [.lp c 0] sg ow fun v sg' ow' => ((v = .t (.sl true []) ∧ (argM n st).1 = []) ∨ ((v = .lit (tExs (argM n st).1) ∨ ∃ k, v = .own k 4 (tExs (argM n st).1)) ∧ (argM n st).1 ≠ [])) ∧ Q c a b sg (argM n st).2 sg' ∧ OwK ow ow'
  li : ∀ c a b st sg ow, Pre c a b st sg → 12 * st.ts.length + 12 ≤ n → CallE F gl 128 [.lp c 0] sg ow fun v sg' ow' => Lv ow.length v ow' (lisM n st).1 ∧ (lisM n st).1 ≠ [] ∧ Q c a b sg (lisM n st).2 sg' ∧ OwK ow ow'
theorem setHi {c i : Nat} {sg s : Sg} (h : Fr c sg s) (hi : sg.length ≤ i) (y : Bool × List PV) : Fr c sg (s.set i y) := ⟨by rw [List.length_set]; exact h.1, fun j hj hc => by rw [List.getElem?_set_ne (by omega)]; exact h.2 j hj hc⟩
theorem Q.hi {c : Nat} {a b : Int} {sg s : Sg} {st : Ps} (h : Q c a b sg st s) {i : Nat} (hi : sg.length ≤ i) (hc : i ≠ c) (y : Bool × List PV) : Q c a b sg st (s.set i y) := ⟨by rw [List.getElem?_set_ne hc]; exact h.cell, setHi h.fr hi y⟩
theorem Q.more {c : Nat} {a b : Int} {sg s : Sg} {st : Ps} (h : Q c a b sg st s) (z : Sg) : Q c a b sg st (s ++ z) := ⟨by rw [app_get (lt_of_get h.cell)]; exact h.cell, h.fr.trans (Fr.of (.app _ _))⟩
theorem Q.from {c : Nat} {a b : Int} {sg s z : Sg} {st : Ps} (h : Q c a b (sg ++ z) st s) : Q c a b sg st s := ⟨h.cell, (Fr.of (.app _ _)).trans h.fr⟩
theorem cat_get {sg : Sg} {y : Bool × List PV} : (sg ++ [y])[sg.length]? = some y := List.getElem?_concat_length
abbrev zC : List PV := [.t (.int .i64 0), .t (.int .u64 0), .t (.str []), .t (.sl true [])]
theorem nd (op : Int) (nl : Bool) (l : List Exp) {K : PV → Prop} : XcP F gl 66 [.int .i64 op, .sl nl (tExs l)] K ⟨⟩ ↔ K (.t (.agg [.int .i64 op, .int .u64 0, .str [], .sl nl (tExs l)])) := ok66 op nl l
theorem set_ne {sg : Sg} {i j : Nat} (h : i ≠ j) (y : Bool × List PV) : (sg.set i y)[j]? = sg[j]? := List.getElem?_set_ne h
set_option maxHeartbeats 1000000 in
theorem step_ex {n : Nat} (hn : CAll gl n) {c : Nat} {a b : Int} {st : Ps} {sg : Sg} {ow : Ow} (hp : Pre c a b st sg) (hf : 12 * st.ts.length + 11 ≤ n + 1) : CallE F gl 32 [.lp c 0] sg ow (EvR c a b sg ow (exprM (n + 1) st)) := by
  refine XcE.of F32 rfl ?_
  simp only [ir32]
  have hcl := hp.lt
  simp only [wA, seval, reduceCtorEq, reduceIte]
  have hp1 := hp.app [(false, zC)]
  refine CallE.mono (hn.bi 0 c a b st _ ow (by omega) hp1 (by omega)) fun v sg1 ow1 h => ?_
  obtain ⟨hv, hq, ho⟩ := h
  have rd1 := (rd_all n).bi 0 st hp.wf
  have hp2 := hp1.next hq rd1.suf
  have l1 := rd1.suf.le
  have z2 := hq.fr.get (i := sg.length) cat_get (by omega)
  have g1 := hq.fr.1
  have hq0 := hq.from
  simp only [List.length_append, List.length_cons, List.length_nil, Nat.zero_add] at g1
  have hv0 := hv
  have hEx : exprM (n + 1) st = if atM [63] (binM n 0 st).2 then (nod 20 [(binM n 0 st).1, (exprM n (takeM (binM n 0 st).2)).1, (exprM n (expM [58] (exprM n (takeM (binM n 0 st).2)).2)).1], (exprM n (expM [58] (exprM n (takeM (binM n 0 st).2)).2)).2) else binM n 0 st := by rw [exprM]
  rcases hv with rfl | ⟨k, hnl, rfl⟩
  all_goals
    first | have hax := Xk.al hnl.1 | have hax := @nat_nn
    simp only [wA, seval, reduceCtorEq, reduceIte, hax]
    refine CallE.mono (ok57 (hp2.app _).cell hp2.ne [63]) fun v2 sg2 ow2 h2 => ?_
    obtain ⟨e2, q2, o2⟩ := h2
    subst e2 o2
    have z3 := q2.fr.get (i := sg1.length) cat_get (by omega)
    have z2b := q2.fr.get (i := sg.length) (by rw [app_get (by omega)]; exact z2) (by omega)
    have q2' := hq0.trans q2.from
    unfold accM at q2 q2'
    cases ha : atM [63] (binM n 0 st).2 with
    | false =>
      rw [ha] at q2 q2'
      simp only [Bool.false_eq_true, if_false] at q2 q2'
      rw [hEx, if_neg (by rw [ha]; simp)]
      have gs := fun y => get_set (y := y) z2b
      simp only [wA, seval, reduceCtorEq, reduceIte, z3, z2b, gs, hax]
      refine ⟨?_, q2'.hi (Nat.le_refl _) (by omega) _, ho⟩
      exact hv0
    | true =>
      rw [ha] at q2 q2'
      simp only [reduceIte] at q2 q2'
      rw [hEx, if_pos ha]
      have l2 := take_len hp2.wf (at_kind ha)
      have hp3 := hp2.next q2 (suf_take hp2.wf)
      have g2 := q2.fr.1
      simp only [List.length_append, List.length_cons, List.length_nil, Nat.zero_add] at g2
      simp only [wA, seval, reduceCtorEq, reduceIte, hax]
      refine CallE.mono (hn.ex c a b _ sg2 ow2 hp3 (by omega)) fun v3 sg3 ow3 h3 => ?_
      obtain ⟨hv3, q3, o3⟩ := h3
      have rd3 := (rd_all n).ex _ hp3.wf
      have hp4 := hp3.next q3 rd3.suf
      have l3 := rd3.suf.le
      have g3 := q3.fr.1
      have z3c := q3.fr.get z3 (by omega)
      have z2c := q3.fr.get z2b (by omega)
      have hv3' := hv3
      rcases hv3 with rfl | ⟨k3, hn3, rfl⟩
      all_goals
        first | have hax3 := Xk.al hn3.1 | have hax3 := @nat_nn
        simp only [wA, seval, reduceCtorEq, reduceIte, hax3]
        refine CallE.mono (ok54 (hp4.app _).cell hp4.ne (by have := hp4.ln; omega) [58]) fun v4 sg4 ow4 h4 => ?_
        obtain ⟨e4, q4, o4⟩ := h4
        subst e4 o4
        have l4 := (suf_exp hp4.wf [58]).le
        have hp5 := hp4.next q4 (suf_exp hp4.wf [58])
        have z4d := q4.fr.get (i := sg3.length) cat_get (by omega)
        have z3d := q4.fr.get (i := sg1.length) (by rw [app_get (by omega)]; exact z3c) (by omega)
        have z2d := q4.fr.get (i := sg.length) (by rw [app_get (by omega)]; exact z2c) (by omega)
        simp only [wA, seval, reduceCtorEq, reduceIte, loadK, z3d, z4d, hax, hax3]
        refine CallE.mono (hn.ex c a b _ sg4 _ hp5 (by omega)) fun v5 sg5 ow5 h5 => ?_
        obtain ⟨hv5, q5, o5⟩ := h5
        have z4e := q5.fr.get z4d (by omega)
        have z3e := q5.fr.get z3d (by omega)
        have z2e := q5.fr.get z2d (by omega)
        have hb := bsl3 hv0 hv3' hv5
        have gs := fun y => get_set (y := y) z2e
        have gn1 := fun y => set_ne (sg := sg5) (show sg.length ≠ sg1.length by omega) y
        have gn2 := fun y => set_ne (sg := sg5) (show sg.length ≠ sg3.length by omega) y
        simp only [wA, seval, reduceCtorEq, reduceIte, keepsV_cons, keepsV_nil, keepP, keep1_self, z3d, z3e, z4d, z4e, z2e, hb, nd, gs, gn1, gn2, hax, hax3]
        refine ⟨.inl rfl, ?_, ((ho.trans o3).trans o5)⟩
        exact (((q2'.trans q3).trans q4.from).trans q5).hi (Nat.le_refl _) (by omega) _
end Go.Proofs.YtcbgiabippcpaaaGreatDoor

/- The parser's operators. -/
set_option maxRecDepth 10000
set_option linter.unusedVariables false
set_option linter.unusedSimpArgs false
namespace Go.Proofs.YtcbgiabippcpaaaGreatDoor
open Go.Pi Go.Lx Go.Ky
variable {gl : Nat → Option (List T)}
def opE (st : Ps) : List (Nm × Int) → Option Int
  | [] => none
  | (t, o) :: r => if t ≠ [] ∧ atM t st = true then some o else opE st r
section
variable {c : Nat} {a b : Int} {st : Ps} {sg0 : Sg} {ow : Ow} {t0 t1 t2 t3 : Nm} {o0 o1 o2 o3 : Int}
abbrev rowC (t0 t1 t2 t3 : Nm) (o0 o1 o2 o3 : Int) : PV := .t (.agg [.str t0, .int .i64 o0, .str t1, .int .i64 o1, .str t2, .int .i64 o2, .str t3, .int .i64 o3])
theorem it4 (X : Ex → S → Prop) {fr : List PV} {sg : Sg} (hq : Q c a b sg0 st sg) (hf : FrAt fr [(0, .lp c 0), (10, rowC t0 t1 t2 t3 o0 o1 o2 o3), (11, .t (.int .i64 4))])
    (k1 : ∀ fr' sg', Q c a b sg0 st sg' → X (.exit 0) ⟨fr', sg', ow⟩) : Xl F gl lb90_0 ⟨fr, sg, ow⟩ X ⟨⟩ := by
  simp only [FrAt_cons, FrAt_nil] at hf
  obtain ⟨f0, f10, f11, -⟩ := hf
  refine Xl.step ?_
  simp only [lb90_0]
  simp only [wA, seval, reduceCtorEq, reduceIte, f0, f10, f11]
  exact k1 _ _ hq
theorem it3 (hw : WfT st.ts) (X : Ex → S → Prop) {fr : List PV} {sg : Sg} (hq : Q c a b sg0 st sg) (hf : FrAt fr [(0, .lp c 0), (10, rowC t0 t1 t2 t3 o0 o1 o2 o3), (11, .t (.int .i64 3))])
    (k1 : opE st [(t3, o3)] = none → ∀ fr' sg', Q c a b sg0 st sg' → X (.exit 0) ⟨fr', sg', ow⟩)
    (k2 : ∀ o, opE st [(t3, o3)] = some o → ∀ fr' sg', Q c a b sg0 (takeM st) sg' → FrAt fr' [(4, .t (.int .i64 o)), (5, .t (.bool true))] → X .ret ⟨fr', sg', ow⟩) : Xl F gl lb90_0 ⟨fr, sg, ow⟩ X ⟨⟩ := by
  simp only [FrAt_cons, FrAt_nil] at hf
  obtain ⟨f0, f10, f11, -⟩ := hf
  refine Xl.step ?_
  simp only [lb90_0]
  have hcl := lt_of_get hq.cell
  rw [opE] at k1 k2
  by_cases ht : t3 = []
  · have ht' : (t3 = []) = True := eq_true ht
    have hb1 : (t3 == []) = true := by simp [ht]
    rw [if_neg (fun h => h.1 ht)] at k1 k2
    simp only [wA, seval, reduceCtorEq, reduceIte, f0, f10, f11, ht', hb1]
    exact it4 (t0 := t0) (t1 := t1) (t2 := t2) (t3 := t3) (o0 := o0) (o1 := o1) (o2 := o2) (o3 := o3) X (hq.more _) (by simp only [FrAt_cons, FrAt_nil, wFr, Nat.reduceEqDiff, Nat.one_ne_zero, Nat.zero_ne_one, reduceIte, and_self, and_true, true_and, f0, f10]; first | done | rfl | exact ⟨rfl, rfl⟩) (k1 rfl)
  · have ht' : (t3 = []) = False := eq_false ht
    have hb1 : (t3 == []) = false := by simp [ht]
    simp only [wA, seval, reduceCtorEq, reduceIte, f0, f10, f11, ht', hb1]
    refine CallE.mono (ok57 (by rw [app_get hcl]; exact hq.cell) hw.ne t3) fun v sg' ow' h => ?_
    obtain ⟨h1, h2, h3⟩ := h
    subst h1 h3
    unfold accM at h2
    have z := h2.fr.get (i := sg.length) cat_get (by omega)
    cases ha : atM t3 st with
    | false =>
      rw [ha] at h2
      simp only [Bool.false_eq_true, if_false] at h2
      rw [if_neg (fun h => by rw [ha] at h; exact absurd h.2 (by simp))] at k1 k2
      have h2' : Q c a b sg0 st sg' := ⟨h2.cell, hq.fr.trans h2.from.fr⟩
      simp only [wA, seval, reduceCtorEq, reduceIte, f0, f10, f11, z]
      exact it4 (t0 := t0) (t1 := t1) (t2 := t2) (t3 := t3) (o0 := o0) (o1 := o1) (o2 := o2) (o3 := o3) X h2' (by simp only [FrAt_cons, FrAt_nil, wFr, Nat.reduceEqDiff, Nat.one_ne_zero, Nat.zero_ne_one, reduceIte, and_self, and_true, true_and, f0, f10]; first | done | rfl | exact ⟨rfl, rfl⟩) (k1 rfl)
    | true =>
      rw [ha] at h2
      simp only [reduceIte] at h2
      rw [if_pos ⟨ht, ha⟩] at k2
      simp only [wA, seval, reduceCtorEq, reduceIte, f0, f10, f11, z]
      exact k2 _ rfl _ _ ⟨h2.cell, hq.fr.trans h2.from.fr⟩ (by simp only [FrAt_cons, FrAt_nil, wFr, Nat.reduceEqDiff, Nat.one_ne_zero, Nat.zero_ne_one, reduceIte, and_self, and_true, true_and]; first | done | exact ⟨rfl, rfl⟩ | rfl)
theorem it2 (hw : WfT st.ts) (X : Ex → S → Prop) {fr : List PV} {sg : Sg} (hq : Q c a b sg0 st sg) (hf : FrAt fr [(0, .lp c 0), (10, rowC t0 t1 t2 t3 o0 o1 o2 o3), (11, .t (.int .i64 2))])
    (k1 : opE st [(t2, o2), (t3, o3)] = none → ∀ fr' sg', Q c a b sg0 st sg' → X (.exit 0) ⟨fr', sg', ow⟩)
    (k2 : ∀ o, opE st [(t2, o2), (t3, o3)] = some o → ∀ fr' sg', Q c a b sg0 (takeM st) sg' → FrAt fr' [(4, .t (.int .i64 o)), (5, .t (.bool true))] → X .ret ⟨fr', sg', ow⟩) : Xl F gl lb90_0 ⟨fr, sg, ow⟩ X ⟨⟩ := by
  simp only [FrAt_cons, FrAt_nil] at hf
  obtain ⟨f0, f10, f11, -⟩ := hf
  refine Xl.step ?_
  simp only [lb90_0]
  have hcl := lt_of_get hq.cell
  rw [opE] at k1 k2
  by_cases ht : t2 = []
  · have ht' : (t2 = []) = True := eq_true ht
    have hb1 : (t2 == []) = true := by simp [ht]
    rw [if_neg (fun h => h.1 ht)] at k1 k2
    simp only [wA, seval, reduceCtorEq, reduceIte, f0, f10, f11, ht', hb1]
    refine it3 (t0 := t0) (t1 := t1) (t2 := t2) (t3 := t3) (o0 := o0) (o1 := o1) (o2 := o2) (o3 := o3) hw X (hq.more _) (by simp only [FrAt_cons, FrAt_nil, wFr, Nat.reduceEqDiff, Nat.one_ne_zero, Nat.zero_ne_one, reduceIte, and_self, and_true, true_and, f0, f10]; first | done | rfl | exact ⟨rfl, rfl⟩) k1 k2
  · have ht' : (t2 = []) = False := eq_false ht
    have hb1 : (t2 == []) = false := by simp [ht]
    simp only [wA, seval, reduceCtorEq, reduceIte, f0, f10, f11, ht', hb1]
    refine CallE.mono (ok57 (by rw [app_get hcl]; exact hq.cell) hw.ne t2) fun v sg' ow' h => ?_
    obtain ⟨h1, h2, h3⟩ := h
    subst h1 h3
    unfold accM at h2
    have z := h2.fr.get (i := sg.length) cat_get (by omega)
    cases ha : atM t2 st with
    | false =>
      rw [ha] at h2
      simp only [Bool.false_eq_true, if_false] at h2
      rw [if_neg (fun h => by rw [ha] at h; exact absurd h.2 (by simp))] at k1 k2
      have h2' : Q c a b sg0 st sg' := ⟨h2.cell, hq.fr.trans h2.from.fr⟩
      simp only [wA, seval, reduceCtorEq, reduceIte, f0, f10, f11, z]
      refine it3 (t0 := t0) (t1 := t1) (t2 := t2) (t3 := t3) (o0 := o0) (o1 := o1) (o2 := o2) (o3 := o3) hw X h2' (by simp only [FrAt_cons, FrAt_nil, wFr, Nat.reduceEqDiff, Nat.one_ne_zero, Nat.zero_ne_one, reduceIte, and_self, and_true, true_and, f0, f10]; first | done | rfl | exact ⟨rfl, rfl⟩) k1 k2
    | true =>
      rw [ha] at h2
      simp only [reduceIte] at h2
      rw [if_pos ⟨ht, ha⟩] at k2
      simp only [wA, seval, reduceCtorEq, reduceIte, f0, f10, f11, z]
      exact k2 _ rfl _ _ ⟨h2.cell, hq.fr.trans h2.from.fr⟩ (by simp only [FrAt_cons, FrAt_nil, wFr, Nat.reduceEqDiff, Nat.one_ne_zero, Nat.zero_ne_one, reduceIte, and_self, and_true, true_and]; first | done | exact ⟨rfl, rfl⟩ | rfl)
theorem it1 (hw : WfT st.ts) (X : Ex → S → Prop) {fr : List PV} {sg : Sg} (hq : Q c a b sg0 st sg) (hf : FrAt fr [(0, .lp c 0), (10, rowC t0 t1 t2 t3 o0 o1 o2 o3), (11, .t (.int .i64 1))])
    (k1 : opE st [(t1, o1), (t2, o2), (t3, o3)] = none → ∀ fr' sg', Q c a b sg0 st sg' → X (.exit 0) ⟨fr', sg', ow⟩)
    (k2 : ∀ o, opE st [(t1, o1), (t2, o2), (t3, o3)] = some o → ∀ fr' sg', Q c a b sg0 (takeM st) sg' → FrAt fr' [(4, .t (.int .i64 o)), (5, .t (.bool true))] → X .ret ⟨fr', sg', ow⟩) : Xl F gl lb90_0 ⟨fr, sg, ow⟩ X ⟨⟩ := by
  simp only [FrAt_cons, FrAt_nil] at hf
  obtain ⟨f0, f10, f11, -⟩ := hf
  refine Xl.step ?_
  simp only [lb90_0]
  have hcl := lt_of_get hq.cell
  rw [opE] at k1 k2
  by_cases ht : t1 = []
  · have ht' : (t1 = []) = True := eq_true ht
    have hb1 : (t1 == []) = true := by simp [ht]
    rw [if_neg (fun h => h.1 ht)] at k1 k2
    simp only [wA, seval, reduceCtorEq, reduceIte, f0, f10, f11, ht', hb1]
    refine it2 (t0 := t0) (t1 := t1) (t2 := t2) (t3 := t3) (o0 := o0) (o1 := o1) (o2 := o2) (o3 := o3) hw X (hq.more _) (by simp only [FrAt_cons, FrAt_nil, wFr, Nat.reduceEqDiff, Nat.one_ne_zero, Nat.zero_ne_one, reduceIte, and_self, and_true, true_and, f0, f10]; first | done | rfl | exact ⟨rfl, rfl⟩) k1 k2
  · have ht' : (t1 = []) = False := eq_false ht
    have hb1 : (t1 == []) = false := by simp [ht]
    simp only [wA, seval, reduceCtorEq, reduceIte, f0, f10, f11, ht', hb1]
    refine CallE.mono (ok57 (by rw [app_get hcl]; exact hq.cell) hw.ne t1) fun v sg' ow' h => ?_
    obtain ⟨h1, h2, h3⟩ := h
    subst h1 h3
    unfold accM at h2
    have z := h2.fr.get (i := sg.length) cat_get (by omega)
    cases ha : atM t1 st with
    | false =>
      rw [ha] at h2
      simp only [Bool.false_eq_true, if_false] at h2
      rw [if_neg (fun h => by rw [ha] at h; exact absurd h.2 (by simp))] at k1 k2
      have h2' : Q c a b sg0 st sg' := ⟨h2.cell, hq.fr.trans h2.from.fr⟩
      simp only [wA, seval, reduceCtorEq, reduceIte, f0, f10, f11, z]
      refine it2 (t0 := t0) (t1 := t1) (t2 := t2) (t3 := t3) (o0 := o0) (o1 := o1) (o2 := o2) (o3 := o3) hw X h2' (by simp only [FrAt_cons, FrAt_nil, wFr, Nat.reduceEqDiff, Nat.one_ne_zero, Nat.zero_ne_one, reduceIte, and_self, and_true, true_and, f0, f10]; first | done | rfl | exact ⟨rfl, rfl⟩) k1 k2
    | true =>
      rw [ha] at h2
      simp only [reduceIte] at h2
      rw [if_pos ⟨ht, ha⟩] at k2
      simp only [wA, seval, reduceCtorEq, reduceIte, f0, f10, f11, z]
      exact k2 _ rfl _ _ ⟨h2.cell, hq.fr.trans h2.from.fr⟩ (by simp only [FrAt_cons, FrAt_nil, wFr, Nat.reduceEqDiff, Nat.one_ne_zero, Nat.zero_ne_one, reduceIte, and_self, and_true, true_and]; first | done | exact ⟨rfl, rfl⟩ | rfl)
theorem it0 (hw : WfT st.ts) (X : Ex → S → Prop) {fr : List PV} {sg : Sg} (hq : Q c a b sg0 st sg) (hf : FrAt fr [(0, .lp c 0), (10, rowC t0 t1 t2 t3 o0 o1 o2 o3), (11, .t (.int .i64 0))])
    (k1 : opE st [(t0, o0), (t1, o1), (t2, o2), (t3, o3)] = none → ∀ fr' sg', Q c a b sg0 st sg' → X (.exit 0) ⟨fr', sg', ow⟩)
    (k2 : ∀ o, opE st [(t0, o0), (t1, o1), (t2, o2), (t3, o3)] = some o → ∀ fr' sg', Q c a b sg0 (takeM st) sg' → FrAt fr' [(4, .t (.int .i64 o)), (5, .t (.bool true))] → X .ret ⟨fr', sg', ow⟩) : Xl F gl lb90_0 ⟨fr, sg, ow⟩ X ⟨⟩ := by
  simp only [FrAt_cons, FrAt_nil] at hf
  obtain ⟨f0, f10, f11, -⟩ := hf
  refine Xl.step ?_
  simp only [lb90_0]
  have hcl := lt_of_get hq.cell
  rw [opE] at k1 k2
  by_cases ht : t0 = []
  · have ht' : (t0 = []) = True := eq_true ht
    have hb1 : (t0 == []) = true := by simp [ht]
    rw [if_neg (fun h => h.1 ht)] at k1 k2
    simp only [wA, seval, reduceCtorEq, reduceIte, f0, f10, f11, ht', hb1]
    refine it1 (t0 := t0) (t1 := t1) (t2 := t2) (t3 := t3) (o0 := o0) (o1 := o1) (o2 := o2) (o3 := o3) hw X (hq.more _) (by simp only [FrAt_cons, FrAt_nil, wFr, Nat.reduceEqDiff, Nat.one_ne_zero, Nat.zero_ne_one, reduceIte, and_self, and_true, true_and, f0, f10]; first | done | rfl | exact ⟨rfl, rfl⟩) k1 k2
  · have ht' : (t0 = []) = False := eq_false ht
    have hb1 : (t0 == []) = false := by simp [ht]
    simp only [wA, seval, reduceCtorEq, reduceIte, f0, f10, f11, ht', hb1]
    refine CallE.mono (ok57 (by rw [app_get hcl]; exact hq.cell) hw.ne t0) fun v sg' ow' h => ?_
    obtain ⟨h1, h2, h3⟩ := h
    subst h1 h3
    unfold accM at h2
    have z := h2.fr.get (i := sg.length) cat_get (by omega)
    cases ha : atM t0 st with
    | false =>
      rw [ha] at h2
      simp only [Bool.false_eq_true, if_false] at h2
      rw [if_neg (fun h => by rw [ha] at h; exact absurd h.2 (by simp))] at k1 k2
      have h2' : Q c a b sg0 st sg' := ⟨h2.cell, hq.fr.trans h2.from.fr⟩
      simp only [wA, seval, reduceCtorEq, reduceIte, f0, f10, f11, z]
      refine it1 (t0 := t0) (t1 := t1) (t2 := t2) (t3 := t3) (o0 := o0) (o1 := o1) (o2 := o2) (o3 := o3) hw X h2' (by simp only [FrAt_cons, FrAt_nil, wFr, Nat.reduceEqDiff, Nat.one_ne_zero, Nat.zero_ne_one, reduceIte, and_self, and_true, true_and, f0, f10]; first | done | rfl | exact ⟨rfl, rfl⟩) k1 k2
    | true =>
      rw [ha] at h2
      simp only [reduceIte] at h2
      rw [if_pos ⟨ht, ha⟩] at k2
      simp only [wA, seval, reduceCtorEq, reduceIte, f0, f10, f11, z]
      exact k2 _ rfl _ _ ⟨h2.cell, hq.fr.trans h2.from.fr⟩ (by simp only [FrAt_cons, FrAt_nil, wFr, Nat.reduceEqDiff, Nat.one_ne_zero, Nat.zero_ne_one, reduceIte, and_self, and_true, true_and]; first | done | exact ⟨rfl, rfl⟩ | rfl)
end
theorem ok90 (hg : GlOk gl) {sg : Sg} {c : Nat} {a b : Int} {st : Ps} (hc : sg[c]? = some (false, psC st a b)) (hw : WfT st.ts) (lv : Nat) (hlv : lv ≤ 4) {ow : Ow} :
    CallE F gl 90 [.lp c 0, .t (.int .i64 lv)] sg ow fun v sg' ow' => v = .tup [.t (.int .i64 ((opL lv st).getD 0)), .t (.bool (opL lv st).isSome)] ∧ Q c a b sg (if (opL lv st).isSome then takeM st else st) sg' ∧ ow' = ow := by
  refine XcE.of F90 rfl ?_
  simp only [ir90]
  have hg3 := hg.g3
  unfold opsC at hg3
  have go : ∀ {l l' : List (Nm × Int)}, opE st l = opGo st l' → opE st l = opGo st l' := fun h => h
  match lv, hlv with
  | 0, _ =>
    have hrow : opL 0 st = opE st [([111, 114], 19), ([], 0), ([], 0), ([], 0)] := by
      unfold opL
      simp [ops, opGo, opE]
    rw [hrow]
    simp only [wA, seval, reduceCtorEq, reduceIte, hg3, Int.cast_ofNat_Int]
    refine it0 hw _ ⟨hc, Fr.refl _ _⟩ (by simp only [FrAt_cons, FrAt_nil, wFr, Nat.reduceEqDiff, Nat.one_ne_zero, Nat.zero_ne_one, reduceIte, and_self, and_true, true_and]; first | done | exact ⟨rfl, rfl⟩ | rfl) ?_ ?_
    · intro h fr' sg' hq
      rw [h]
      simp only [wA, seval, reduceCtorEq, reduceIte, xR_two]
      simpa using hq
    · intro o h fr' sg' hq hf
      simp only [FrAt_cons, FrAt_nil] at hf
      obtain ⟨f4, f5, -⟩ := hf
      rw [h]
      simp only [wA, seval, reduceCtorEq, reduceIte, f4, f5, xR_two]
      simpa using hq
  | 1, _ =>
    have hrow : opL 1 st = opE st [([97, 110, 100], 18), ([], 0), ([], 0), ([], 0)] := by
      unfold opL
      simp [ops, opGo, opE]
    rw [hrow]
    simp only [wA, seval, reduceCtorEq, reduceIte, hg3, Int.cast_ofNat_Int]
    refine it0 hw _ ⟨hc, Fr.refl _ _⟩ (by simp only [FrAt_cons, FrAt_nil, wFr, Nat.reduceEqDiff, Nat.one_ne_zero, Nat.zero_ne_one, reduceIte, and_self, and_true, true_and]; first | done | exact ⟨rfl, rfl⟩ | rfl) ?_ ?_
    · intro h fr' sg' hq
      rw [h]
      simp only [wA, seval, reduceCtorEq, reduceIte, xR_two]
      simpa using hq
    · intro o h fr' sg' hq hf
      simp only [FrAt_cons, FrAt_nil] at hf
      obtain ⟨f4, f5, -⟩ := hf
      rw [h]
      simp only [wA, seval, reduceCtorEq, reduceIte, f4, f5, xR_two]
      simpa using hq
  | 2, _ =>
    have hrow : opL 2 st = opE st [([61, 61], 14), ([33, 61], 15), ([60], 16), ([60, 61], 17)] := by
      unfold opL
      simp [ops, opGo, opE]
    rw [hrow]
    simp only [wA, seval, reduceCtorEq, reduceIte, hg3, Int.cast_ofNat_Int]
    refine it0 hw _ ⟨hc, Fr.refl _ _⟩ (by simp only [FrAt_cons, FrAt_nil, wFr, Nat.reduceEqDiff, Nat.one_ne_zero, Nat.zero_ne_one, reduceIte, and_self, and_true, true_and]; first | done | exact ⟨rfl, rfl⟩ | rfl) ?_ ?_
    · intro h fr' sg' hq
      rw [h]
      simp only [wA, seval, reduceCtorEq, reduceIte, xR_two]
      simpa using hq
    · intro o h fr' sg' hq hf
      simp only [FrAt_cons, FrAt_nil] at hf
      obtain ⟨f4, f5, -⟩ := hf
      rw [h]
      simp only [wA, seval, reduceCtorEq, reduceIte, f4, f5, xR_two]
      simpa using hq
  | 3, _ =>
    have hrow : opL 3 st = opE st [([43], 12), ([45], 13), ([], 0), ([], 0)] := by
      unfold opL
      simp [ops, opGo, opE]
    rw [hrow]
    simp only [wA, seval, reduceCtorEq, reduceIte, hg3, Int.cast_ofNat_Int]
    refine it0 hw _ ⟨hc, Fr.refl _ _⟩ (by simp only [FrAt_cons, FrAt_nil, wFr, Nat.reduceEqDiff, Nat.one_ne_zero, Nat.zero_ne_one, reduceIte, and_self, and_true, true_and]; first | done | exact ⟨rfl, rfl⟩ | rfl) ?_ ?_
    · intro h fr' sg' hq
      rw [h]
      simp only [wA, seval, reduceCtorEq, reduceIte, xR_two]
      simpa using hq
    · intro o h fr' sg' hq hf
      simp only [FrAt_cons, FrAt_nil] at hf
      obtain ⟨f4, f5, -⟩ := hf
      rw [h]
      simp only [wA, seval, reduceCtorEq, reduceIte, f4, f5, xR_two]
      simpa using hq
  | 4, _ =>
    have hrow : opL 4 st = opE st [([42], 11), ([], 0), ([], 0), ([], 0)] := by
      unfold opL
      simp [ops, opGo, opE]
    rw [hrow]
    simp only [wA, seval, reduceCtorEq, reduceIte, hg3, Int.cast_ofNat_Int]
    refine it0 hw _ ⟨hc, Fr.refl _ _⟩ (by simp only [FrAt_cons, FrAt_nil, wFr, Nat.reduceEqDiff, Nat.one_ne_zero, Nat.zero_ne_one, reduceIte, and_self, and_true, true_and]; first | done | exact ⟨rfl, rfl⟩ | rfl) ?_ ?_
    · intro h fr' sg' hq
      rw [h]
      simp only [wA, seval, reduceCtorEq, reduceIte, xR_two]
      simpa using hq
    · intro o h fr' sg' hq hf
      simp only [FrAt_cons, FrAt_nil] at hf
      obtain ⟨f4, f5, -⟩ := hf
      rw [h]
      simp only [wA, seval, reduceCtorEq, reduceIte, f4, f5, xR_two]
      simpa using hq
end Go.Proofs.YtcbgiabippcpaaaGreatDoor

/- The parser: binary expressions. -/
set_option maxRecDepth 10000
set_option linter.unusedVariables false
set_option linter.unusedSimpArgs false
namespace Go.Proofs.YtcbgiabippcpaaaGreatDoor
open Go.Pi Go.Lx Go.Ky
variable {gl : Nat → Option (List T)}
set_option maxHeartbeats 2000000 in
theorem loop65 (hg : GlOk gl) {lv : Nat} (hlv : lv ≤ 4) {c i4 i5 : Nat} {a b : Int} {sg0 : Sg} (hc0 : c < sg0.length) (h4 : sg0.length ≤ i4) (h5 : sg0.length ≤ i5) (h45 : i4 ≠ i5) (X : Ex → S → Prop) :
    ∀ (m : Nat), (∀ k, k < m → CAll gl k) → ∀ (e : Exp) (cs : List PV) (st : Ps) (sg : Sg) (ow : Ow) (fr : List PV), Ec cs e → WfT st.ts → st.ts.length ≤ 100000 → Q c a b sg0 st sg → sg[i4]? = some (false, zC) → sg[i5]? = some (false, cs) → 12 * st.ts.length + (9 - lv) ≤ m →
    FrAt fr [(0, .lp c 0), (1, .t (.int .i64 lv)), (4, .lp i4 0), (5, .lp i5 0)] →
    (∀ fr' sg' ow' cs', Ec cs' (binL m lv e st).1 → Q c a b sg0 (binL m lv e st).2 sg' → sg'[i4]? = some (false, cs') → fget fr' 4 = .lp i4 0 → OwK ow ow' → X .ret ⟨fr', sg', ow'⟩) →
    Xl F gl lb65_0 ⟨fr, sg, ow⟩ X ⟨⟩ := by
  intro m
  induction m with
  | zero => intro _ e cs st sg ow fr _ hw _ _ _ _ hf; have := hw.len; omega
  | succ m ih =>
    intro hall e cs st sg ow fr hcs hw hln hq z4 z5 hf hfr k
    simp only [FrAt_cons, FrAt_nil] at hfr
    obtain ⟨f0, f1, f4, f5, -⟩ := hfr
    refine Xl.step ?_
    simp only [lb65_0]
    have hw1 : IntKind.wrap .i64 ((lv : Int) + 1) = ((lv + 1 : Nat) : Int) := by rw [IntWalk.i64_in _ (by omega)]; omega
    simp only [wA, seval, reduceCtorEq, reduceIte, f0, f1, f4, f5]
    refine CallE.mono (ok90 hg hq.cell hw lv hlv) fun v sg1 ow1 h => ?_
    obtain ⟨e1, q1, o1⟩ := h
    subst e1 o1
    have z4b := q1.fr.get z4 (by omega)
    have z5b := q1.fr.get z5 (by omega)
    have gs4 := fun y => get_set (y := y) z4b
    cases ho : opL lv st with
    | none =>
      rw [ho] at q1
      simp only [Option.isSome_none, Bool.false_eq_true, if_false] at q1
      have hB : binL (m + 1) lv e st = (e, st) := by rw [binL, ho]
      rw [hB] at k
      have q0 : Q c a b sg0 st sg1 := hq.trans q1
      rcases hcs with rfl | ⟨kk, hnl, rfl⟩
      · simp only [wA, seval, reduceCtorEq, reduceIte, f0, f1, f4, f5, ho, z4b, z5b, gs4, Option.getD_none, Option.isSome_none]
        exact k _ _ _ _ (.inl rfl) (q0.hi h4 (by omega) _) (gs4 _) (by simp only [FrAt_cons, FrAt_nil, wFr, Nat.reduceEqDiff, Nat.one_ne_zero, Nat.zero_ne_one, reduceIte, and_self, and_true, true_and, f4]) OwK.refl
      · have hax := Xk.al hnl.1
        simp only [wA, seval, reduceCtorEq, reduceIte, f0, f1, f4, f5, ho, z4b, z5b, gs4, Option.getD_none, Option.isSome_none, hax]
        exact k _ _ _ _ (.inr ⟨kk, hnl, rfl⟩) (q0.hi h4 (by omega) _) (gs4 _) (by simp only [FrAt_cons, FrAt_nil, wFr, Nat.reduceEqDiff, Nat.one_ne_zero, Nat.zero_ne_one, reduceIte, and_self, and_true, true_and, f4]) OwK.refl
    | some o =>
      rw [ho] at q1
      simp only [Option.isSome_some, if_true] at q1
      have q0 : Q c a b sg0 (takeM st) sg1 := hq.trans q1
      have l1 := take_len hw (opGo_at ho)
      have s1 := suf_take hw
      have hp1 : Pre c a b (takeM st) sg1 := ⟨q1.cell, s1.wf hw, by omega⟩
      have hcall := (hall m (by omega)).bi (lv + 1) c a b (takeM st) sg1 ow1 (by omega) hp1 (by omega)
      have rd := (rd_all m).bi (lv + 1) (takeM st) hp1.wf
      have l2 := rd.suf.le
      have hB : binL (m + 1) lv e st = if lv = 2 then (nod o [e, (binM m (lv + 1) (takeM st)).1], (binM m (lv + 1) (takeM st)).2) else binL m lv (nod o [e, (binM m (lv + 1) (takeM st)).1]) (binM m (lv + 1) (takeM st)).2 := by rw [binL, ho]
      rcases hcs with rfl | ⟨kk, hnl, rfl⟩
      all_goals
        first | have hax := Xk.al hnl.1 | have hax := @nat_nn
        simp only [wA, seval, reduceCtorEq, reduceIte, f0, f1, f4, f5, ho, z4b, z5b, hw1, loadK, Option.getD_some, Option.isSome_some, hax]
        refine CallE.mono hcall fun v2 sg2 ow2 h2 => ?_
        obtain ⟨hv2, q2, o2⟩ := h2
        have z4c := q2.fr.get z4b (by omega)
        have z5c := q2.fr.get z5b (by omega)
        have gs4c := fun y => get_set (y := y) z4c
        have gs5c := fun y => get_set (y := y) z5c
        have gn := fun y => set_ne (sg := sg2) (show i5 ≠ i4 by omega) y
        have q02 : Q c a b sg0 (binM m (lv + 1) (takeM st)).2 sg2 := q0.trans q2
        first | have hb := bsl2 (e := e) (v := .agg (eK e kk)) (.inr ⟨kk, hnl, rfl⟩) hv2 | have hb := bsl2 (e := e) (.inl rfl) hv2
        by_cases h2 : lv = 2
        · have h2' : ((lv : Int) = 2) = True := eq_true (by omega)
          rw [hB, if_pos h2] at k
          have gs45 := fun y y2 => get_set (sg := sg2.set i5 y) (y := y2) ((gn y).trans z4c)
          simp only [wA, seval, reduceCtorEq, reduceIte, f0, f1, f4, f5, keepsV_cons, keepsV_nil, keepP, keep1_self, z4c, z5b, z5c, hb, nd, gs5c, gn, h2', gs45]
          refine k _ _ _ _ (.inl rfl) ((q02.hi h5 (by omega) _).hi h4 (by omega) _) (gs45 _ _) ?_ o2
          simp only [FrAt_cons, FrAt_nil, wFr, Nat.reduceEqDiff, Nat.one_ne_zero, Nat.zero_ne_one, reduceIte, and_self, and_true, true_and, f4]
        · have h2' : ((lv : Int) = 2) = False := eq_false (by omega)
          rw [hB, if_neg h2] at k
          simp only [wA, seval, reduceCtorEq, reduceIte, f0, f1, f4, f5, keepsV_cons, keepsV_nil, keepP, keep1_self, z4c, z5b, z5c, hb, nd, gs5c, gn, h2']
          refine ih (fun k hk => hall k (by omega)) (nod o [e, (binM m (lv + 1) (takeM st)).1]) _ (binM m (lv + 1) (takeM st)).2 _ ow2 _ (.inl rfl) (rd.suf.wf hp1.wf) (by omega) (q02.hi h5 (by omega) _) ((gn _).trans z4c) (gs5c _) (by omega) ?_ ?_
          · simp only [FrAt_cons, FrAt_nil, wFr, Nat.reduceEqDiff, Nat.one_ne_zero, Nat.zero_ne_one, reduceIte, and_self, and_true, true_and, f0, f1, f4, f5]
          intro fr' sg' ow' cs' a1 a2 a3 a4 a5
          exact k fr' sg' ow' cs' a1 a2 a3 a4 (o2.trans a5)
set_option maxHeartbeats 1000000 in
theorem step_bi (hg : GlOk gl) {n : Nat} (hall : ∀ k, k ≤ n → CAll gl k) {lv : Nat} (hlv : lv ≤ 5) {c : Nat} {a b : Int} {st : Ps} {sg : Sg} {ow : Ow} (hp : Pre c a b st sg) (hf : 12 * st.ts.length + (10 - lv) ≤ n + 1) : CallE F gl 65 [.lp c 0, .t (.int .i64 lv)] sg ow (EvR c a b sg ow (binM (n + 1) lv st)) := by
  refine XcE.of F65 rfl ?_
  simp only [ir65]
  have hcl := hp.lt
  have hp1 := hp.app [(false, zC)]
  by_cases h5 : lv = 5
  · have h5' : ((lv : Int) = 5) = True := eq_true (by omega)
    simp only [wA, seval, reduceCtorEq, reduceIte, h5']
    refine CallE.mono ((hall n (Nat.le_refl _)).un c a b st _ ow hp1 (by omega)) fun v sg1 ow1 h => ?_
    obtain ⟨hv, hq, ho⟩ := h
    have z2 := hq.fr.get (i := sg.length) cat_get (by omega)
    have gs := fun y => get_set (y := y) z2
    have hB : binM (n + 1) lv st = unM n st := by rw [binM, if_pos h5]
    rw [hB]
    have hv0 := hv
    rcases hv with rfl | ⟨k, hnl, rfl⟩
    all_goals
      first | have hax := Xk.al hnl.1 | have hax := @nat_nn
      simp only [wA, seval, reduceCtorEq, reduceIte, z2, gs, hax]
      exact ⟨hv0, hq.from.hi (Nat.le_refl _) (by omega) _, ho⟩
  · have h5' : ((lv : Int) = 5) = False := eq_false (by omega)
    have hw1 : IntKind.wrap .i64 ((lv : Int) + 1) = ((lv + 1 : Nat) : Int) := by rw [IntWalk.i64_in _ (by omega)]; omega
    simp only [wA, seval, reduceCtorEq, reduceIte, h5', hw1]
    refine CallE.mono ((hall n (Nat.le_refl _)).bi (lv + 1) c a b st _ ow (by omega) hp1 (by omega)) fun v sg1 ow1 h => ?_
    obtain ⟨hv, hq, ho⟩ := h
    have rd1 := (rd_all n).bi (lv + 1) st hp.wf
    have l1 := rd1.suf.le
    have z2 := hq.fr.get (i := sg.length) cat_get (by omega)
    have g1 := hq.fr.1
    simp only [List.length_append, List.length_cons, List.length_nil, Nat.zero_add] at g1
    have hB : binM (n + 1) lv st = binL n lv (binM n (lv + 1) st).1 (binM n (lv + 1) st).2 := by rw [binM, if_neg h5]
    rw [hB]
    rcases hv with rfl | ⟨k, hnl, rfl⟩
    all_goals
      first | have hax := Xk.al hnl.1 | have hax := @nat_nn
      simp only [wA, seval, reduceCtorEq, reduceIte, hax]
      refine loop65 hg (lv := lv) (by omega) (i4 := sg.length) (i5 := sg1.length) (sg0 := sg) (a := a) (b := b) (c := c) hcl (Nat.le_refl _) (by omega) (by omega) _ n (fun k hk => hall k (by omega)) (binM n (lv + 1) st).1 _ (binM n (lv + 1) st).2 _ ow1 _ ?_ (rd1.suf.wf hp.wf) (by have := hp.ln; omega) (hq.from.more _) (by rw [app_get (by omega)]; exact z2) cat_get (by omega) ?_ ?_
      · first | exact .inr ⟨k, hnl, rfl⟩ | exact .inl rfl
      · simp only [FrAt_cons, FrAt_nil, wFr, Nat.reduceEqDiff, Nat.one_ne_zero, Nat.zero_ne_one, reduceIte, and_self, and_true, true_and]
      · intro fr' sg' ow' cs' a1 a2 a3 a4 a5
        rcases a1 with rfl | ⟨j, hj, rfl⟩
        · simp only [wA, seval, reduceCtorEq, reduceIte, a3, a4]
          exact ⟨.inl rfl, a2, ho.trans a5⟩
        · have hax := Xk.al hj.1
          simp only [wA, seval, reduceCtorEq, reduceIte, a3, a4, hax]
          exact ⟨.inr ⟨j, hj, rfl⟩, a2, ho.trans a5⟩
end Go.Proofs.YtcbgiabippcpaaaGreatDoor
