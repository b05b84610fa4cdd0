/- The reference's text of a table; TableFormat in the small language. -/
import Derived.Test.YtbkphlhmbllbiaaDoorP5
import Derived.Test.YtbkphlhmbllbiaaDoorR2
import Derived.Test.YtbkphlhmbllbiaaDoorT3
import Derived.KernelRfl
set_option maxRecDepth 10000
set_option linter.unusedVariables false
set_option linter.unusedSimpArgs false
namespace Go.Proofs.YtbkphlhmbllbiaaDoor
open Go.Pi
section
variable {gl : Nat → Option (List T)}
def r3 (r : Row) : R3 := (r.1.2, r.2.1.2, r.2.2.2)
theorem rowT_X (r : Row) : rowT r = rowX (r3 r) ++ [10] := by simp [rowT, rowX, r3]
theorem headT_X (t : Tab) : headT t = headX (t.p, t.pub, t.vars) ++ [10] := by simp [headT, headX]
theorem row_len {r : R3} (h : rW r) (h1 : r.1.length ≤ 400) (h2 : r.2.1.length ≤ 400) (h3 : r.2.2.length ≤ 400) : (rowX r).length ≤ 51000 := by
  obtain ⟨w1, w2, w3, _, _, _⟩ := h
  have := lin_len r.1 w1
  have := lin_len r.2.1 w2
  have := lin_len r.2.2 w3
  simp only [rowX, List.length_append, List.length_cons, List.length_nil]
  omega
theorem tRow_at {l : List Row} {i : Nat} {x : Row} (h : l[i]? = some x) : (l.map tRow)[i]? = some [.sl x.1.1 (x.1.2.map tTerm), .sl x.2.1.1 (x.2.1.2.map tTerm), .sl x.2.2.1 (x.2.2.2.map tTerm)] := by
  rw [List.getElem?_map, h]
  rfl
theorem loop27 (t : Tab) (hl : t.rows.length ≤ 400) (hw : ∀ r, r ∈ t.rows → rW (r3 r) ∧ (r3 r).1.length ≤ 400 ∧ (r3 r).2.1.length ≤ 400 ∧ (r3 r).2.2.length ≤ 400) (ow : Ow) (Q : Ex → S → Prop) : ∀ (rest : List Row) (i : Nat) (s : List UInt8) (fr : List PV), t.rows.drop i = rest → s.length ≤ 1000 + 51001 * i →
    FrAt fr [(1, .lp 0 0), (3, .t (.str s)), (4, .t (.int .i64 i))] →
    (∀ fr', FrAt fr' [(3, .t (.str (s ++ rest.flatMap rowT)))] → Q (.exit 0) ⟨fr', [(false, (tCells t).map .t)], ow⟩) →
    Xl F gl lb27_0 ⟨fr, [(false, (tCells t).map .t)], ow⟩ Q ⟨⟩ := by
  intro rest
  induction rest with
  | nil =>
    intro i s fr hd hs hf h1
    have hd := drop_nil' hd
    simp only [FrAt_cons, FrAt_nil] at hf
    obtain ⟨f1, f3, f4, -⟩ := hf
    refine Xl.step ?_
    simp only [lb27_0]
    have c1 : ¬ ((i : Int) < (t.rows.length : Int)) := by omega
    simp only [wCo, wFr, wOp, wBi, wLst, wLog, xB_other, Nat.reduceBEq, unT, loadP, storeP, partP, partT, partV, cellsP, mkAgg, allT, setRange, fillP, fieldA, indexS, indexA, indexV, indexStr, elems, lenP, pickV, cviV, nckV, extV, isNil, bound, close, close1, aft, retV, retSl, Go.Pi.one, eqT, eqs, eq1, Nat.reduceEqDiff, Nat.reduceAdd, Nat.reduceSub, Nat.reduceMul, Nat.reduceLeDiff, Nat.reduceLT, Nat.one_ne_zero, Nat.zero_ne_one, reduceIte, reduceCtorEq, bne_self_eq_false, decide_true, decide_false, Int.reduceToNat, Int.cast_ofNat_Int, Int.reduceLT, Int.reduceLE, Int.reduceEq, Int.reduceNeg, Int.reduceAdd, Int.reduceSub, tCells, f1, f3, f4, List.length_map, c1]
    repeat' ((with_reducible first | refine xG_dec ?_ ?_ | refine xG_ndec ?_ ?_ | refine xG_nsplit ?_ ?_ | refine xG_split ?_ ?_ | refine xC_dec ?_ ?_ | refine xC_ndec ?_ ?_ | refine xC_nsplit ?_ ?_ | refine xC_split ?_ ?_) <;> intro h <;> (try simp only [wCo, wFr, wOp, wBi, wLst, wLog, xB_other, Nat.reduceBEq, unT, loadP, storeP, partP, partT, partV, cellsP, mkAgg, allT, setRange, fillP, fieldA, indexS, indexA, indexV, indexStr, elems, lenP, pickV, cviV, nckV, extV, isNil, bound, close, close1, aft, retV, retSl, Go.Pi.one, eqT, eqs, eq1, Nat.reduceEqDiff, Nat.reduceAdd, Nat.reduceSub, Nat.reduceMul, Nat.reduceLeDiff, Nat.reduceLT, Nat.one_ne_zero, Nat.zero_ne_one, reduceIte, reduceCtorEq, bne_self_eq_false, decide_true, decide_false, Int.reduceToNat, Int.cast_ofNat_Int, Int.reduceLT, Int.reduceLE, Int.reduceEq, Int.reduceNeg, Int.reduceAdd, Int.reduceSub, tCells, f1, f3, f4, List.length_map, c1, h]))
    refine h1 _ ?_
    simp only [FrAt_cons, FrAt_nil, wFr, Nat.reduceEqDiff, Nat.one_ne_zero, Nat.zero_ne_one, reduceIte, and_self, and_true, true_and, f3, List.flatMap_nil, List.append_nil]
  | cons x r ih =>
    intro i s fr hd hs hf h1
    obtain ⟨hx, hr, hi'⟩ := drop_cons hd
    obtain ⟨hw1, l1, l2, l3⟩ := hw x (List.mem_of_getElem? hx)
    have rl := row_len hw1 l1 l2 l3
    simp only [FrAt_cons, FrAt_nil] at hf
    obtain ⟨f1, f3, f4, -⟩ := hf
    have c1 : (i : Int) < (t.rows.length : Int) := by omega
    have ci : (0 : Int) ≤ (i : Int) := by omega
    have hb := tRow_at hx
    have hww : IntKind.wrap .i64 ((i : Int) + 1) = ((i + 1 : Nat) : Int) := by rw [IntWalk.i64_in _ (by omega)]; omega
    have ln := @ok53 gl x.1.1 x.2.1.1 x.2.2.1 (r3 x) hw1
    simp only [r3] at ln rl
    have ad : (rowX (x.1.2, x.2.1.2, x.2.2.2) ++ [10]).length ≤ 51001 := by rw [List.length_append, List.length_singleton]; omega
    have hrt := rowT_X x
    simp only [r3] at hrt
    rw [← hrt] at ln ad
    have ad2 : s.length + (rowT x).length ≤ 4611686018427387904 := by omega
    refine Xl.step ?_
    simp only [lb27_0]
    simp only [wCo, wFr, wOp, wBi, wLst, wLog, xB_other, Nat.reduceBEq, unT, loadP, storeP, partP, partT, partV, cellsP, mkAgg, allT, setRange, fillP, fieldA, indexS, indexA, indexV, indexStr, elems, lenP, pickV, cviV, nckV, extV, isNil, bound, close, close1, aft, retV, retSl, Go.Pi.one, eqT, eqs, eq1, Nat.reduceEqDiff, Nat.reduceAdd, Nat.reduceSub, Nat.reduceMul, Nat.reduceLeDiff, Nat.reduceLT, Nat.one_ne_zero, Nat.zero_ne_one, reduceIte, reduceCtorEq, bne_self_eq_false, decide_true, decide_false, Int.reduceToNat, Int.cast_ofNat_Int, Int.reduceLT, Int.reduceLE, Int.reduceEq, Int.reduceNeg, Int.reduceAdd, Int.reduceSub, tCells, f1, f3, f4, List.length_map, c1, ci, hb, ln, hww, ad2, Int.toNat_natCast]
    repeat' (first | ((with_reducible first | refine xG_dec ?_ ?_ | refine xG_ndec ?_ ?_ | refine xG_nsplit ?_ ?_ | refine xG_split ?_ ?_ | refine xC_dec ?_ ?_ | refine xC_ndec ?_ ?_ | refine xC_nsplit ?_ ?_ | refine xC_split ?_ ?_) <;> intro h <;> (try simp only [wCo, wFr, wOp, wBi, wLst, wLog, xB_other, Nat.reduceBEq, unT, loadP, storeP, partP, partT, partV, cellsP, mkAgg, allT, setRange, fillP, fieldA, indexS, indexA, indexV, indexStr, elems, lenP, pickV, cviV, nckV, extV, isNil, bound, close, close1, aft, retV, retSl, Go.Pi.one, eqT, eqs, eq1, Nat.reduceEqDiff, Nat.reduceAdd, Nat.reduceSub, Nat.reduceMul, Nat.reduceLeDiff, Nat.reduceLT, Nat.one_ne_zero, Nat.zero_ne_one, reduceIte, reduceCtorEq, bne_self_eq_false, decide_true, decide_false, Int.reduceToNat, Int.cast_ofNat_Int, Int.reduceLT, Int.reduceLE, Int.reduceEq, Int.reduceNeg, Int.reduceAdd, Int.reduceSub, tCells, f1, f3, f4, List.length_map, c1, ci, hb, ln, hww, ad2, Int.toNat_natCast, h])) | ((with_reducible refine xO_if (by first | omega | (simp only [List.length_append, List.length_cons, List.length_nil]; omega)) ?_); (try simp only [wCo, wFr, wOp, wBi, wLst, wLog, xB_other, Nat.reduceBEq, unT, loadP, storeP, partP, partT, partV, cellsP, mkAgg, allT, setRange, fillP, fieldA, indexS, indexA, indexV, indexStr, elems, lenP, pickV, cviV, nckV, extV, isNil, bound, close, close1, aft, retV, retSl, Go.Pi.one, eqT, eqs, eq1, Nat.reduceEqDiff, Nat.reduceAdd, Nat.reduceSub, Nat.reduceMul, Nat.reduceLeDiff, Nat.reduceLT, Nat.one_ne_zero, Nat.zero_ne_one, reduceIte, reduceCtorEq, bne_self_eq_false, decide_true, decide_false, Int.reduceToNat, Int.cast_ofNat_Int, Int.reduceLT, Int.reduceLE, Int.reduceEq, Int.reduceNeg, Int.reduceAdd, Int.reduceSub, tCells, f1, f3, f4, List.length_map, c1, ci, hb, ln, hww, ad2, Int.toNat_natCast])))
    have hln : (s ++ rowT x).length ≤ 1000 + 51001 * (i + 1) := by
      rw [List.length_append]
      exact Nat.le_trans (Nat.add_le_add hs ad) (Nat.le_of_eq (by rw [Nat.mul_succ, Nat.add_assoc]))
    refine ih (i + 1) (s ++ rowT x) _ hr hln (by simp only [FrAt_cons, FrAt_nil, wFr, Nat.reduceEqDiff, Nat.one_ne_zero, Nat.zero_ne_one, reduceIte, and_self, and_true, true_and, f1]) ?_
    intro fr' hf'
    refine h1 fr' ?_
    rw [List.flatMap_cons, ← List.append_assoc]
    exact hf'
theorem head_len {h : Int × Int × Int} (h1 : 0 ≤ h.1) (h2 : h.1 ≤ 18446744073709551615) (h3 : 0 ≤ h.2.1) (h4 : h.2.1 ≤ 9223372036854775807) (h5 : 0 ≤ h.2.2) (h6 : h.2.2 ≤ 9223372036854775807) : (headX h).length ≤ 100 := by
  have := dec_le20 h.1.toNat (by omega)
  have := dec_le20 h.2.1.toNat (by omega)
  have := dec_le20 h.2.2.toNat (by omega)
  simp only [headX, List.length_append, List.length_cons, List.length_nil]
  omega
theorem ok27 {t : Tab} (ht : TabWf t) (h0 : 0 ≤ t.pub) (h00 : 0 ≤ t.vars) (hl : t.rows.length ≤ 400) (hw : ∀ r, r ∈ t.rows → rW (r3 r) ∧ (r3 r).1.length ≤ 400 ∧ (r3 r).2.1.length ≤ 400 ∧ (r3 r).2.2.length ≤ 400) {K : PV → Prop} : XcP F gl 27 [tTab t] K ⟨⟩ ↔ K (.t (.str (fmtT t))) := by
  have q1 := ht.p0
  have q2 := ht.p1
  have q3 := ht.pub1
  have q4 := ht.vars1
  have hd := @ok52 gl (t.p, t.pub, t.vars) (.sl t.nl (t.rows.map tRow)) rfl q1 q2 h0 q3 h00 q4
  have hle := @head_len (t.p, t.pub, t.vars) q1 q2 h0 q3 h00 q4
  simp only at hd
  rw [← headT_X] at hd
  refine Ret.iff (Ret.of F27 rfl ?_)
  simp only [ir27]
  simp only [wCo, wFr, wOp, wBi, wLst, wLog, xB_other, Nat.reduceBEq, unT, loadP, storeP, partP, partT, partV, cellsP, mkAgg, allT, setRange, fillP, fieldA, indexS, indexA, indexV, indexStr, elems, lenP, pickV, cviV, nckV, extV, isNil, bound, close, close1, aft, retV, retSl, Go.Pi.one, eqT, eqs, eq1, Nat.reduceEqDiff, Nat.reduceAdd, Nat.reduceSub, Nat.reduceMul, Nat.reduceLeDiff, Nat.reduceLT, Nat.one_ne_zero, Nat.zero_ne_one, reduceIte, reduceCtorEq, bne_self_eq_false, decide_true, decide_false, Int.reduceToNat, Int.cast_ofNat_Int, Int.reduceLT, Int.reduceLE, Int.reduceEq, Int.reduceNeg, Int.reduceAdd, Int.reduceSub, tTab, tCells, hd]
  repeat' ((with_reducible first | refine xG_dec ?_ ?_ | refine xG_ndec ?_ ?_ | refine xG_nsplit ?_ ?_ | refine xG_split ?_ ?_ | refine xC_dec ?_ ?_ | refine xC_ndec ?_ ?_ | refine xC_nsplit ?_ ?_ | refine xC_split ?_ ?_) <;> intro h <;> (try simp only [wCo, wFr, wOp, wBi, wLst, wLog, xB_other, Nat.reduceBEq, unT, loadP, storeP, partP, partT, partV, cellsP, mkAgg, allT, setRange, fillP, fieldA, indexS, indexA, indexV, indexStr, elems, lenP, pickV, cviV, nckV, extV, isNil, bound, close, close1, aft, retV, retSl, Go.Pi.one, eqT, eqs, eq1, Nat.reduceEqDiff, Nat.reduceAdd, Nat.reduceSub, Nat.reduceMul, Nat.reduceLeDiff, Nat.reduceLT, Nat.one_ne_zero, Nat.zero_ne_one, reduceIte, reduceCtorEq, bne_self_eq_false, decide_true, decide_false, Int.reduceToNat, Int.cast_ofNat_Int, Int.reduceLT, Int.reduceLE, Int.reduceEq, Int.reduceNeg, Int.reduceAdd, Int.reduceSub, tTab, tCells, hd, h]))
  refine loop27 t hl hw _ _ t.rows 0 (headT t) _ rfl (by rw [headT_X, List.length_append, List.length_singleton]; omega) (by simp only [FrAt_cons, FrAt_nil, wFr, Nat.reduceEqDiff, Nat.one_ne_zero, Nat.zero_ne_one, reduceIte, and_self, and_true, true_and] <;> try rfl) ?_
  intro fr' hf'
  simp only [FrAt_cons, FrAt_nil] at hf'
  obtain ⟨g3, -⟩ := hf'
  simp only [wCo, wFr, wOp, wBi, wLst, wLog, xB_other, Nat.reduceBEq, unT, loadP, storeP, partP, partT, partV, cellsP, mkAgg, allT, setRange, fillP, fieldA, indexS, indexA, indexV, indexStr, elems, lenP, pickV, cviV, nckV, extV, isNil, bound, close, close1, aft, retV, retSl, Go.Pi.one, eqT, eqs, eq1, Nat.reduceEqDiff, Nat.reduceAdd, Nat.reduceSub, Nat.reduceMul, Nat.reduceLeDiff, Nat.reduceLT, Nat.one_ne_zero, Nat.zero_ne_one, reduceIte, reduceCtorEq, bne_self_eq_false, decide_true, decide_false, Int.reduceToNat, Int.cast_ofNat_Int, Int.reduceLT, Int.reduceLE, Int.reduceEq, Int.reduceNeg, Int.reduceAdd, Int.reduceSub, g3]
  repeat' ((with_reducible first | refine xG_dec ?_ ?_ | refine xG_ndec ?_ ?_ | refine xG_nsplit ?_ ?_ | refine xG_split ?_ ?_ | refine xC_dec ?_ ?_ | refine xC_ndec ?_ ?_ | refine xC_nsplit ?_ ?_ | refine xC_split ?_ ?_) <;> intro h <;> (try simp only [wCo, wFr, wOp, wBi, wLst, wLog, xB_other, Nat.reduceBEq, unT, loadP, storeP, partP, partT, partV, cellsP, mkAgg, allT, setRange, fillP, fieldA, indexS, indexA, indexV, indexStr, elems, lenP, pickV, cviV, nckV, extV, isNil, bound, close, close1, aft, retV, retSl, Go.Pi.one, eqT, eqs, eq1, Nat.reduceEqDiff, Nat.reduceAdd, Nat.reduceSub, Nat.reduceMul, Nat.reduceLeDiff, Nat.reduceLT, Nat.one_ne_zero, Nat.zero_ne_one, reduceIte, reduceCtorEq, bne_self_eq_false, decide_true, decide_false, Int.reduceToNat, Int.cast_ofNat_Int, Int.reduceLT, Int.reduceLE, Int.reduceEq, Int.reduceNeg, Int.reduceAdd, Int.reduceSub, g3, h]))
  rfl
/-! ### The text is read back -/
theorem vLin_ok {p vars : Int} (hv : vars ≤ 65536) (hp : p ≤ 18446744073709551615) : ∀ (l : LN) (last : Int), -1 ≤ last → vLin p vars last l = true → (∀ x, x ∈ l → 0 ≤ x.2) → lOk l := by
  intro l
  induction l with
  | nil => intro _ _ _ _ x hx; cases hx
  | cons t r ih =>
    intro last hl h hn x hx
    have ht := hn t List.mem_cons_self
    simp only [vLin] at h
    split at h
    · cases h
    rename_i hc
    have q1 : last < t.1 := by omega
    have q2 : t.1 < vars := by omega
    have q4 : t.2 < p := by omega
    rcases List.mem_cons.1 hx with e | e
    · subst e; exact ⟨by omega, by omega, by omega, by omega⟩
    · exact ih t.1 (by omega) h (fun y hy => hn y (List.mem_cons_of_mem _ hy)) x e
theorem head_no (h : Int × Int × Int) : ∀ x, x ∈ headX h → x ≠ (10 : UInt8) := by
  intro x hx
  simp only [headX, List.mem_append, List.mem_cons, List.not_mem_nil, or_false] at hx
  rcases hx with (e | e | e | e | e) | e | e | e | e | e | e
  all_goals first | (subst e; decide) | exact dec_no (.inl (by decide)) _ x e
theorem row_no (r : R3) : ∀ x, x ∈ rowX r → x ≠ (10 : UInt8) := by
  have no : ∀ l : LN, ∀ w, w ∈ linT l → w ≠ (10 : UInt8) := fun l => lin_no (.inl (by decide)) (by decide) (by decide) (by decide) l
  intro x hx
  simp only [rowX, List.mem_append] at hx
  rcases hx with e | e | e | e | e | e
  · intro h; subst h; revert e; decide
  · exact no _ x e
  · intro h; subst h; revert e; decide
  · exact no _ x e
  · intro h; subst h; revert e; decide
  · exact no _ x e
theorem split_rows : ∀ (rows : List Row), Lib.split (rows.flatMap rowT) [10] = (rows.map r3).map rowX ++ [[]] := by
  intro rows
  induction rows with
  | nil => exact split_no (fun x hx => by cases hx)
  | cons r rs ih =>
    rw [List.flatMap_cons, rowT_X, List.append_assoc, List.singleton_append, split_cut (row_no _), ih]
    rfl
theorem parse_fmt {t : Tab} (ht : TabWf t) (hv : vTab t = true) : parsT (fmtT t) = .inr ((t.p, t.pub, t.vars), t.rows.map r3) := by
  simp only [vTab, Bool.and_eq_true, decide_eq_true_eq] at hv
  obtain ⟨⟨⟨⟨⟨v1, v2⟩, v3⟩, v4⟩, v5⟩, v6⟩ := hv
  have q1 := ht.p0
  have q2 := ht.p1
  have hh : hV (t.p, t.pub, t.vars) = true := by simp [hV, v1, v2, v3, v4]
  have hs : sizesO (headX (t.p, t.pub, t.vars)) = some (t.p, t.pub, t.vars) := sizesO_text ⟨q1, q2, v2, by simp only; omega, by simp only; omega, v4⟩
  have hf : fmtT t = headX (t.p, t.pub, t.vars) ++ 10 :: t.rows.flatMap rowT := by rw [fmtT, headT_X]; simp
  rw [hf, parsT, split_cut (head_no _)]
  simp only [hs, filt, hh, if_true]
  rw [if_neg (split_ne _), split_rows]
  rw [goR_text (t.rows.map r3) 2 [] (by simpa using v5) ?_]
  · simp
  · intro r hr
    obtain ⟨x, hx, rfl⟩ := List.mem_map.1 hr
    have hvx := vRows_in _ v6 x hx
    have hwf := ht.rows x hx
    obtain ⟨⟨_, _, w1⟩, ⟨_, _, w2⟩, ⟨_, _, w3⟩⟩ := hwf
    have hvr : vR (t.p, t.pub, t.vars) (r3 x) = true := hvx
    simp only [vRow, Bool.and_eq_true] at hvx
    obtain ⟨⟨a, b⟩, c⟩ := hvx
    have ho : rOk (r3 x) := ⟨vLin_ok v4 q2 _ (-1) (by omega) a (fun y hy => (w1 y hy).2.2.1), vLin_ok v4 q2 _ (-1) (by omega) b (fun y hy => (w2 y hy).2.2.1), vLin_ok v4 q2 _ (-1) (by omega) c (fun y hy => (w3 y hy).2.2.1)⟩
    exact filt_iff.2 ⟨rowO_text ho, hvr⟩
theorem same_back : ∀ (rows : List Row), eqRows rows ((rows.map r3).map rw3) = true := by
  intro rows
  induction rows with
  | nil => rfl
  | cons x r ih =>
    have : eqRow x (rw3 (r3 x)) = true := by simp [eqRow, rw3, r3]
    simp only [List.map_cons, eqRows, this, ih, Bool.and_self]
theorem sameT_back (t : Tab) : sameT t (tabOf (t.p, t.pub, t.vars) (t.rows.map r3)) = true := by
  simp only [sameT, tabOf, same_back, decide_true, Bool.and_self]
end
end Go.Proofs.YtbkphlhmbllbiaaDoor
