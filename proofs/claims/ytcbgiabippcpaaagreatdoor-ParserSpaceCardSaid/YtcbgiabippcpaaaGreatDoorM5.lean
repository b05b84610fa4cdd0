/- Contracts: the tokens of a text. -/
import Derived.Test.YtcbgiabippcpaaaGreatDoorM4
set_option maxRecDepth 10000
set_option linter.unusedVariables false
set_option linter.unusedSimpArgs false
namespace Go.Proofs.YtcbgiabippcpaaaGreatDoor
open Go.Pi Go.Lx
variable {gl : Nat → Option (List T)}

def accV : List Tok → PV
  | [] => .t (.sl true [])
  | t :: l => .own 0 4 ((t :: l).map tTok)
def accO : List Tok → Ow
  | [] => []
  | t :: l => [(t :: l).length]
theorem tTok_all (l : List Tok) : (l.map tTok).all (fun x => x.length == 4) = true := by simp [tTok]
theorem room40 {n : Nat} (h : n ≤ 1000000) : room n 40 = true := by
  simp only [room, decide_eq_true_eq]
  omega
theorem acc_app (l : List Tok) (t : Tok) (hl : l.length ≤ 100000) (sg : Sg) : appendP false sg (accO l) 4 40 (accV l) (.lit [tTok t]) = some (accV (l ++ [t]), accO (l ++ [t])) := by
  have h1 : ([tTok t].all fun x => x.length == 4) = true := tTok_all [t]
  cases l with
  | nil =>
    have r1 : room ([tTok t].length) 40 = true := room40 (by simp)
    simp only [accV, accO, appendP, elemsS, elems, h1, r1, and_self, if_true, List.length_nil, List.nil_append, Nat.succ_pos, Nat.zero_lt_succ]
    rfl
  | cons x l =>
    have r1 : room (((x :: l).map tTok).length + [tTok t].length) 40 = true := room40 (by simp at hl ⊢; omega)
    have e1 : ([(x :: l).length] : Ow)[0]? = some (((x :: l).map tTok).length) := by simp
    simp only [accV, accO, appendP, elemsS, elems, h1, r1, e1, and_self, if_true, Nat.succ_pos, Nat.zero_lt_succ]
    simp [accV, accO, tTok]
theorem next_err {s : List UInt8} {e : Nat} (h : next s = .err e) : e = 2 ∨ e = 3 := by
  cases s with
  | nil => simp only [next] at h; injection h with h; exact .inl h.symm
  | cons c r =>
    simp only [next, nextW, nextD] at h
    repeat' split at h
    all_goals first | (injection h with h; omega) | cases h
theorem lexR_last : ∀ (n : Nat) (s : List UInt8) (pos : Nat) (l : List Tok), s.length = n → lexR pos s = .toks l → l = l.dropLast ++ [⟨0, [], 0, pos + s.length⟩] := by
  intro n
  induction n using Nat.strongRecOn with
  | _ n ih =>
    intro s pos l hl h
    rcases lex_cases s with h1 | ⟨h1, ⟨e, hn⟩ | ⟨k, m, v, hn⟩⟩
    · rw [lexR_end h1] at h
      injection h with h
      subst h
      rfl
    · rw [lexR_err h1 hn] at h; cases h
    · have hp := next_pos hn
      rw [lexR_ok h1 hn] at h
      cases hq : lexR (pos + gap s + m) (s.drop (gap s + m)) with
      | err p e => rw [hq] at h; cases h
      | toks q =>
        rw [hq] at h
        injection h with h
        subst h
        have := ih (s.drop (gap s + m)).length (by simp only [List.length_drop] at hp ⊢; omega) _ _ _ rfl hq
        have hne := lexR_ne hq
        have e : pos + gap s + m + (s.drop (gap s + m)).length = pos + s.length := by simp only [List.length_drop] at hp ⊢; omega
        rw [e] at this
        rw [List.dropLast_cons_of_ne_nil hne, List.cons_append, ← this]
theorem loop53 (hg : GlOk gl) {s : List UInt8} (hl : s.length ≤ 20000) (Q : Ex → S → Prop) : ∀ (N p0 : Nat) (acc : List Tok) (fr : List PV) (sg : Sg), (s.drop p0).length ≤ N → p0 ≤ s.length → acc.length ≤ p0 →
    FrAt fr [(0, .t (.str s)), (5, accV acc), (6, .t (.int .i64 ((p0 + gap (s.drop p0) : Nat) : Int)))] →
    (∀ l, lexR p0 (s.drop p0) = .toks l → ∀ fr' sg', FrAt fr' [(0, .t (.str s)), (5, accV (acc ++ l.dropLast))] → (acc ++ l.dropLast).length ≤ 20000 → Q (.exit 0) ⟨fr', sg', accO (acc ++ l.dropLast)⟩) →
    (∀ p e, lexR p0 (s.drop p0) = .err p e → ∀ fr' sg' ow', FrAt fr' [(2, .t (.sl true [])), (3, .t (.int .i64 p)), (4, .t (.int .i64 e))] → Q .ret ⟨fr', sg', ow'⟩) →
    Xl F gl lb53_0 ⟨fr, sg, accO acc⟩ Q ⟨⟩ := by
  intro N
  induction N with
  | zero =>
    intro p0 acc fr sg hN hp0 ha hf h1 h2
    have hs0 : s.drop p0 = [] := List.eq_nil_of_length_eq_zero (Nat.le_zero.1 hN)
    have hp : p0 = s.length := by have := List.drop_eq_nil_iff.1 hs0; omega
    rw [hs0] at hf h1 h2
    have hlx : lexR p0 ([] : List UInt8) = .toks [⟨0, [], 0, p0 + 0⟩] := lexR_end (by simp [gapM])
    simp only [FrAt_cons, FrAt_nil, gapM, Nat.add_zero] at hf
    obtain ⟨f0, f5, f6, -⟩ := hf
    refine Xl.step ?_
    simp only [lb53_0]
    have c1 : ¬ ((p0 : Int) < (s.length : Int)) := by omega
    simp only [wA, seval, reduceCtorEq, reduceIte, f0, f5, f6, c1]
    repeat' ((with_reducible first | refine xG_dec ?_ ?_ | refine xG_ndec ?_ ?_ | refine xG_nsplit ?_ ?_ | refine xG_split ?_ ?_ | refine xC_dec ?_ ?_ | refine xC_ndec ?_ ?_ | refine xC_nsplit ?_ ?_ | refine xC_split ?_ ?_) <;> intro h <;> (try simp only [wA, seval, reduceCtorEq, reduceIte, f0, f5, f6, c1, h]))
    have := h1 _ hlx (fset (fset (fset (fset fr 14 (.t (.int .i64 p0))) 15 (.t (.str s))) 16 (.t (.int .i64 s.length))) 17 (.t (.bool false))) sg (by simp only [FrAt_cons, FrAt_nil, wFr, Nat.reduceEqDiff, Nat.one_ne_zero, Nat.zero_ne_one, reduceIte, and_self, and_true, true_and, f0, f5, List.dropLast_singleton, List.append_nil]) (by simp; omega)
    simp only [List.dropLast_singleton, List.append_nil] at this
    exact this
  | succ N ih =>
    intro p0 acc fr sg hN hp0 ha hf h1 h2
    have hgl := gapM_le (s.drop p0) false
    have hdl : (s.drop p0).length = s.length - p0 := List.length_drop
    simp only [FrAt_cons, FrAt_nil] at hf
    obtain ⟨f0, f5, f6, -⟩ := hf
    rcases lex_cases (s.drop p0) with hE | ⟨hlt, hh⟩
    · have hlx := lexR_end (pos := p0) hE
      refine Xl.step ?_
      simp only [lb53_0]
      have c1 : ¬ (((p0 + gap (s.drop p0) : Nat) : Int) < (s.length : Int)) := by omega
      simp only [wA, seval, reduceCtorEq, reduceIte, f0, f5, f6, c1]
      repeat' ((with_reducible first | refine xG_dec ?_ ?_ | refine xG_ndec ?_ ?_ | refine xG_nsplit ?_ ?_ | refine xG_split ?_ ?_ | refine xC_dec ?_ ?_ | refine xC_ndec ?_ ?_ | refine xC_nsplit ?_ ?_ | refine xC_split ?_ ?_) <;> intro h <;> (try simp only [wA, seval, reduceCtorEq, reduceIte, f0, f5, f6, c1, h]))
      have := h1 _ hlx (fset (fset (fset (fset fr 14 (.t (.int .i64 ((p0 + gap (s.drop p0) : Nat) : Int)))) 15 (.t (.str s))) 16 (.t (.int .i64 s.length))) 17 (.t (.bool false))) sg (by simp only [FrAt_cons, FrAt_nil, wFr, Nat.reduceEqDiff, Nat.one_ne_zero, Nat.zero_ne_one, reduceIte, and_self, and_true, true_and, f0, f5, List.dropLast_singleton, List.append_nil]) (by simp; omega)
      simp only [List.dropLast_singleton, List.append_nil] at this
      exact this
    · have hdd : s.drop (p0 + gap (s.drop p0)) = (s.drop p0).drop (gap (s.drop p0)) := by rw [List.drop_drop]
      obtain ⟨i, hi⟩ : ∃ i, i = p0 + gap (s.drop p0) := ⟨_, rfl⟩
      obtain ⟨c, r, hcr⟩ : ∃ c r, s.drop i = c :: r := by
        cases hd : s.drop i with
        | nil => have := congrArg List.length hd; simp only [List.length_drop, List.length_nil] at this; omega
        | cons c r => exact ⟨c, r, rfl⟩
      rw [← hi] at f6 hdd
      have c1 : (i : Int) < (s.length : Int) := by omega
      have a21 := @ok87 gl hg s hl i c r hcr
      have hlen : (c :: r).length = s.length - i := by rw [← hcr, List.length_drop]
      refine Xl.step ?_
      simp only [lb53_0]
      rcases hh with ⟨e, hn⟩ | ⟨k, n, v, hn⟩
      · have hlx := lexR_err (pos := p0) hlt hn
        rw [← hdd, hcr] at hn
        rw [nxV_err hn] at a21
        simp only [erV, zTok] at a21
        rw [← hi] at hlx
        have he : ¬ ((e : Int) = 0) := by rcases next_err hn with h | h <;> omega
        simp only [wA, seval, reduceCtorEq, reduceIte, f0, f5, f6, c1, a21, he, Bool.not_false]
        repeat' ((with_reducible first | refine xG_dec ?_ ?_ | refine xG_ndec ?_ ?_ | refine xG_nsplit ?_ ?_ | refine xG_split ?_ ?_ | refine xC_dec ?_ ?_ | refine xC_ndec ?_ ?_ | refine xC_nsplit ?_ ?_ | refine xC_split ?_ ?_) <;> intro h <;> (try simp only [wA, seval, reduceCtorEq, reduceIte, f0, f5, f6, c1, a21, he, Bool.not_false, h]))
        exact h2 i e hlx _ _ _ (by simp only [FrAt_cons, FrAt_nil, wFr, Nat.reduceEqDiff, Nat.one_ne_zero, Nat.zero_ne_one, reduceIte, and_self, and_true, true_and])
      · have hpos := next_pos hn
        have hlx := lexR_ok (pos := p0) hlt hn
        rw [← List.drop_drop, ← hdd, hcr, ← hi] at hlx
        rw [← hdd, hcr] at hn hpos
        rw [nxV_ok hn] at a21
        simp only [tkV] at a21
        have hdn : (c :: r).drop n = s.drop (i + n) := by rw [← hcr, List.drop_drop]
        rw [hdn] at hlx
        have htl : ((c :: r).take n).length = n := by rw [List.length_take]; omega
        have hw : IntKind.wrap .i64 ((i : Int) + (n : Int)) = ((i + n : Nat) : Int) := by rw [IntWalk.i64_in _ (by omega)]; omega
        have a20 := @ok86 gl s (by omega) (i + n)
        have eap := acc_app acc ⟨k, (c :: r).take n, v, i⟩ (by omega)
        simp only [tTok] at eap
        generalize htx : (c :: r).take n = tx at *
        have z0 : ((0 : Int) = 0) = True := by simp
        simp only [wA, seval, reduceCtorEq, reduceIte, f0, f5, f6, c1, a21, bslV, chunks, cell1, T.isAgg, List.replicate, List.flatten_cons, List.flatten_nil, List.append_nil, eap, htl, hw, a20, Bool.not_true]
        repeat' ((with_reducible first | refine xG_dec ?_ ?_ | refine xG_ndec ?_ ?_ | refine xG_nsplit ?_ ?_ | refine xG_split ?_ ?_ | refine xC_dec ?_ ?_ | refine xC_ndec ?_ ?_ | refine xC_nsplit ?_ ?_ | refine xC_split ?_ ?_) <;> intro h <;> (try simp only [wA, seval, reduceCtorEq, reduceIte, f0, f5, f6, c1, a21, bslV, chunks, cell1, T.isAgg, List.replicate, List.flatten_cons, List.flatten_nil, List.append_nil, eap, htl, hw, a20, Bool.not_true, h]))
        refine ih (i + n) (acc ++ [⟨k, tx, v, i⟩]) _ _ ?_ ?_ ?_ ?_ ?_ ?_
        · rw [List.length_drop]; omega
        · omega
        · simp; omega
        · simp only [FrAt_cons, FrAt_nil, wFr, Nat.reduceEqDiff, Nat.one_ne_zero, Nat.zero_ne_one, reduceIte, and_self, and_true, true_and, f0]
        · intro l hll fr' sg' hf' hlen'
          rw [hll] at hlx
          have hne := lexR_ne hll
          have e1 : acc ++ (⟨k, tx, v, i⟩ :: l).dropLast = acc ++ [⟨k, tx, v, i⟩] ++ l.dropLast := by rw [List.dropLast_cons_of_ne_nil hne]; simp
          have := h1 (⟨k, tx, v, i⟩ :: l) hlx fr' sg' (by rw [e1]; exact hf') (by rw [e1]; exact hlen')
          rw [e1] at this
          exact this
        · intro p e hee fr' sg' ow' hf'
          rw [hee] at hlx
          exact h2 p e hlx fr' sg' ow' hf'
def resV (s : List UInt8) : PV :=
  if 16384 < s.length then .tup [.t (.sl true []), .t (.int .i64 0), .t (.int .i64 3)] else
  match lexR 0 s with
  | .toks l => .tup [.t (.sl false (l.map tTok)), .t (.int .i64 0), .t (.int .i64 0)]
  | .err p e => .tup [.t (.sl true []), .t (.int .i64 p), .t (.int .i64 e)]
theorem resV_big {s : List UInt8} (h : 16384 < s.length) : resV s = .tup [.t (.sl true []), .t (.int .i64 0), .t (.int .i64 3)] := by rw [resV, if_pos h]
theorem resV_toks {s : List UInt8} (h : ¬ 16384 < s.length) {l : List Tok} (hl : lexR 0 s = .toks l) : resV s = .tup [.t (.sl false (l.map tTok)), .t (.int .i64 0), .t (.int .i64 0)] := by rw [resV, if_neg h]; simp only [hl]
theorem resV_err {s : List UInt8} (h : ¬ 16384 < s.length) {p e : Nat} (hl : lexR 0 s = .err p e) : resV s = .tup [.t (.sl true []), .t (.int .i64 p), .t (.int .i64 e)] := by rw [resV, if_neg h]; simp only [hl]
theorem accV_elems (l : List Tok) (t : Tok) : close1 (accV (l ++ [t])) = some (.sl false ((l ++ [t]).map tTok)) := by
  cases l with
  | nil => rfl
  | cons x l => rfl
theorem accV_retSl (sg : Sg) (l : List Tok) (t : Tok) : retSl sg (accV (l ++ [t])) = some (.sl false ((l ++ [t]).map tTok)) := by
  cases l with
  | nil => rfl
  | cons x l => rfl
theorem ok53 (hg : GlOk gl) (s : List UInt8) {K : PV → Prop} : XcP F gl 53 [.str s] K ⟨⟩ ↔ K (resV s) := by
  refine Ret.iff (Ret.of F53 rfl ?_)
  simp only [ir53]
  by_cases hb : 16384 < s.length
  · have c1 : (16384 : Int) < (s.length : Int) := by omega
    simp only [wA, seval, reduceCtorEq, reduceIte, c1]
    repeat' ((with_reducible first | refine xG_dec ?_ ?_ | refine xG_ndec ?_ ?_ | refine xG_nsplit ?_ ?_ | refine xG_split ?_ ?_ | refine xC_dec ?_ ?_ | refine xC_ndec ?_ ?_ | refine xC_nsplit ?_ ?_ | refine xC_split ?_ ?_) <;> intro h <;> (try simp only [wA, seval, reduceCtorEq, reduceIte, c1, h]))
    rw [resV_big hb]
  · have c1 : ¬ ((16384 : Int) < (s.length : Int)) := by omega
    have a20 : ∀ {K : PV → Prop}, XcP F gl 86 [.str s, .int .i64 0] K ⟨⟩ ↔ K (.t (.int .i64 ((gapM false s : Nat) : Int))) := by
      intro K
      have := @ok86 gl s (by omega) 0 K
      simp only [List.drop_zero, Nat.zero_add] at this
      exact this
    simp only [wA, seval, reduceCtorEq, reduceIte, c1, a20]
    repeat' ((with_reducible first | refine xG_dec ?_ ?_ | refine xG_ndec ?_ ?_ | refine xG_nsplit ?_ ?_ | refine xG_split ?_ ?_ | refine xC_dec ?_ ?_ | refine xC_ndec ?_ ?_ | refine xC_nsplit ?_ ?_ | refine xC_split ?_ ?_) <;> intro h <;> (try simp only [wA, seval, reduceCtorEq, reduceIte, c1, a20, h]))
    refine loop53 hg (by omega) _ (s.drop 0).length 0 [] _ _ (Nat.le_refl _) (Nat.zero_le _) (Nat.le_refl _) (by simp only [FrAt_cons, FrAt_nil, wFr, Nat.reduceEqDiff, Nat.one_ne_zero, Nat.zero_ne_one, reduceIte, and_self, and_true, true_and, accV, List.drop_zero, Nat.zero_add]) ?_ ?_
    · intro l hll fr' sg' hf' hlen
      rw [List.drop_zero] at hll
      rw [List.nil_append] at hf' hlen ⊢
      simp only [FrAt_cons, FrAt_nil] at hf'
      obtain ⟨f0, f5, -⟩ := hf'
      have hlast := lexR_last _ _ _ _ rfl hll
      rw [Nat.zero_add] at hlast
      have eap := acc_app l.dropLast ⟨0, [], 0, s.length⟩ (by omega)
      simp only [tTok, Int.cast_ofNat_Int] at eap
      have hr := fun sg => accV_retSl sg l.dropLast ⟨0, [], 0, s.length⟩
      rw [← hlast] at eap hr
      simp only [wA, seval, reduceCtorEq, reduceIte, f0, f5, bslV, chunks, cell1, T.isAgg, List.replicate, List.flatten_cons, List.flatten_nil, List.append_nil, eap]
      repeat' ((with_reducible first | refine xG_dec ?_ ?_ | refine xG_ndec ?_ ?_ | refine xG_nsplit ?_ ?_ | refine xG_split ?_ ?_ | refine xC_dec ?_ ?_ | refine xC_ndec ?_ ?_ | refine xC_nsplit ?_ ?_ | refine xC_split ?_ ?_) <;> intro h <;> (try simp only [wA, seval, reduceCtorEq, reduceIte, f0, f5, bslV, chunks, cell1, T.isAgg, List.replicate, List.flatten_cons, List.flatten_nil, List.append_nil, eap, h]))
      rw [resV_toks hb hll]
      cases l with
      | nil => simp at hlast
      | cons t m => exact rfl
    · intro p e hee fr' sg' ow' hf'
      rw [List.drop_zero] at hee
      simp only [FrAt_cons, FrAt_nil] at hf'
      obtain ⟨f2, f3, f4, -⟩ := hf'
      simp only [wA, seval, reduceCtorEq, reduceIte, f2, f3, f4]
      repeat' ((with_reducible first | refine xG_dec ?_ ?_ | refine xG_ndec ?_ ?_ | refine xG_nsplit ?_ ?_ | refine xG_split ?_ ?_ | refine xC_dec ?_ ?_ | refine xC_ndec ?_ ?_ | refine xC_nsplit ?_ ?_ | refine xC_split ?_ ?_) <;> intro h <;> (try simp only [wA, seval, reduceCtorEq, reduceIte, f2, f3, f4, h]))
      rw [resV_err hb hee]
end Go.Proofs.YtcbgiabippcpaaaGreatDoor
