/- TablePrefix in the small language; the arguments of TableSatisfied and TablePrefix. -/
import Derived.Test.YtbkphlhmbllbiaaDoorV9
set_option maxRecDepth 10000
set_option linter.unusedVariables false
set_option linter.unusedSimpArgs false
namespace Go.Proofs.YtbkphlhmbllbiaaDoor
open Go.Pi

theorem fstBad_range {p : Int} {w : List Int} : ∀ (l : List Row) (i : Nat), fstBad p w i l = -1 ∨ ((i : Int) ≤ fstBad p w i l ∧ fstBad p w i l < i + l.length) := by
  intro l
  induction l with
  | nil => intro i; exact .inl rfl
  | cons r rs ih =>
    intro i
    simp only [fstBad]
    split
    · rcases ih (i + 1) with h | h
      · exact .inl h
      · right
        simp only [List.length_cons]
        omega
    · right
      simp only [List.length_cons]
      omega
theorem fstBad_take {p : Int} {w : List Int} : ∀ (l : List Row) (i n : Nat), fstBad p w i (l.take n) < 0 ↔ fstBad p w i l < 0 ∨ ((i + n : Nat) : Int) ≤ fstBad p w i l := by
  intro l
  induction l with
  | nil => intro i n; simp [fstBad]
  | cons r rs ih =>
    intro i n
    cases n with
    | zero =>
      have hz : fstBad p w i [] = -1 := rfl
      have h := fstBad_range (p := p) (w := w) (r :: rs) i
      rw [List.take_zero, hz]
      generalize fstBad p w i (r :: rs) = z at *
      omega
    | succ n =>
      simp only [List.take_succ_cons, fstBad]
      split
      · rw [ih (i + 1) n]
        have e : ((i + 1 + n : Nat) : Int) = ((i + (n + 1) : Nat) : Int) := by omega
        rw [e]
      · omega
theorem vRows_take {p v : Int} : ∀ (l : List Row) (n : Nat), vRows p v l = true → vRows p v (l.take n) = true := by
  intro l
  induction l with
  | nil => intro n h; simpa using h
  | cons r rs ih =>
    intro n h
    cases n with
    | zero => rfl
    | succ n =>
      simp only [vRows, Bool.and_eq_true] at h
      simp only [List.take_succ_cons, vRows, h.1, ih n h.2, Bool.and_self]
def cutTab (t : Tab) (n : Nat) : Tab := { t with rows := t.rows.take n }
theorem cut_wf {t : Tab} (h : TabWf t) (n : Nat) : TabWf (cutTab t n) where
  p0 := h.p0
  p1 := h.p1
  pub0 := h.pub0
  pub1 := h.pub1
  vars0 := h.vars0
  vars1 := h.vars1
  nl e := by simp only [cutTab] at e ⊢; rw [h.nl e]; simp
  len := by simp only [cutTab, List.length_take]; have := h.len; omega
  rows r hr := h.rows r (List.mem_of_mem_take hr)
theorem cut_vTab {t : Tab} (h : vTab t = true) (n : Nat) : vTab (cutTab t n) = true := by
  have e : vTab (cutTab t n) = (known t.p && decide (0 ≤ t.pub) && decide (t.pub < t.vars) && decide (t.vars ≤ 65536) && decide ((t.rows.take n).length ≤ 16384) && vRows t.p t.vars (t.rows.take n)) := rfl
  rw [e]
  simp only [vTab, Bool.and_eq_true, decide_eq_true_eq] at h ⊢
  obtain ⟨⟨h1, h2⟩, h3⟩ := h
  refine ⟨⟨h1, ?_⟩, vRows_take _ n h3⟩
  rw [List.length_take]
  omega
theorem sz_take (l : List Row) (n : Nat) : szOk 3 (List.take n (List.map tRow l)) = true := by
  cases l with
  | nil => simp [szOk]
  | cons r rs => cases n <;> simp [szOk, tRow]
theorem loop6 (t : Tab) (ht : TabWf t) (nw : Bool) (w : List Int) (hw : u64s w) (hl : w.length ≤ 281474976710656) (hv : vTab t = true) (hq : asg t.p t.vars w = true) (ow : Ow) (Q : Ex → S → Prop) : ∀ (k i : Nat) (fr : List PV) (j : Sg), i + k = t.rows.length + 1 →
    FrAt fr [(1, .t (.sl nw (tU w))), (2, .lp 0 0), (5, .t (.int .i64 (fstBad t.p w 0 t.rows))), (44, .t (.int .i64 (t.rows.length + 1 : Nat))), (45, .t (.int .i64 i))] →
    (∀ fr' sg', Q (.exit 0) ⟨fr', sg', ow⟩) →
    Xl F gl lb6_0 ⟨fr, (false, (tCells t).map .t) :: j, ow⟩ Q ⟨⟩ := by
  intro k
  induction k with
  | zero =>
    intro i fr j hk hf h1
    simp only [FrAt_cons, FrAt_nil] at hf
    obtain ⟨f1, f2, f5, f44, f45, -⟩ := hf
    refine Xl.step ?_
    simp only [lb6_0]
    have c1 : ¬ ((i : Int) < ((t.rows.length + 1 : Nat) : Int)) := by omega
    simp only [wCo, wFr, wOp, wBi, wLst, wLog, xB_other, Nat.reduceBEq, unT, loadP, storeP, partP, partT, partV, cellsP, mkAgg, allT, setRange, fillP, fieldA, indexS, indexA, indexV, indexStr, elems, elemsS, lenP, pickV, cviV, nckV, extV, isNil, bound, close, close1, aft, retV, retSl, one, eqT, eqs, eq1, Nat.reduceEqDiff, Nat.reduceAdd, Nat.reduceSub, Nat.reduceMul, Nat.reduceLeDiff, Nat.reduceLT, Nat.one_ne_zero, Nat.zero_ne_one, reduceIte, reduceCtorEq, bne_self_eq_false, decide_true, decide_false, Int.reduceToNat, Int.cast_ofNat_Int, Int.reduceLT, Int.reduceLE, Int.reduceEq, Int.reduceNeg, Int.reduceAdd, Int.reduceSub, f44, f45, c1]
    repeat' ((with_reducible first | refine xG_dec ?_ ?_ | refine xG_ndec ?_ ?_ | refine xG_nsplit ?_ ?_ | refine xG_split ?_ ?_ | refine xC_dec ?_ ?_ | refine xC_ndec ?_ ?_ | refine xC_nsplit ?_ ?_ | refine xC_split ?_ ?_) <;> intro h <;> (try simp only [wCo, wFr, wOp, wBi, wLst, wLog, xB_other, Nat.reduceBEq, unT, loadP, storeP, partP, partT, partV, cellsP, mkAgg, allT, setRange, fillP, fieldA, indexS, indexA, indexV, indexStr, elems, elemsS, lenP, pickV, cviV, nckV, extV, isNil, bound, close, close1, aft, retV, retSl, one, eqT, eqs, eq1, Nat.reduceEqDiff, Nat.reduceAdd, Nat.reduceSub, Nat.reduceMul, Nat.reduceLeDiff, Nat.reduceLT, Nat.one_ne_zero, Nat.zero_ne_one, reduceIte, reduceCtorEq, bne_self_eq_false, decide_true, decide_false, Int.reduceToNat, Int.cast_ofNat_Int, Int.reduceLT, Int.reduceLE, Int.reduceEq, Int.reduceNeg, Int.reduceAdd, Int.reduceSub, f44, f45, c1, h]))
    exact h1 _ _
  | succ k ih =>
    intro i fr j hk hf h1
    simp only [FrAt_cons, FrAt_nil] at hf
    obtain ⟨f1, f2, f5, f44, f45, -⟩ := hf
    have hlen := ht.len
    have a := @ok16 gl (cutTab t i) (cut_wf ht i) nw w hw hl
    have hs : sat (cutTab t i) w = decide (fstBad t.p w 0 t.rows < 0 ∨ (i : Int) ≤ fstBad t.p w 0 t.rows) := by
      have := fstBad_take (p := t.p) (w := w) t.rows 0 i
      rw [Nat.zero_add] at this
      simp only [sat, cut_vTab hv i, Bool.true_and]
      have hq' : asg (cutTab t i).p (cutTab t i).vars w = true := hq
      rw [hq', Bool.true_and]
      exact decide_eq_decide.2 this
    rw [hs] at a
    simp only [cutTab, tTab, tCells, List.map_take] at a
    refine Xl.step ?_
    simp only [lb6_0]
    have c1 : (i : Int) < ((t.rows.length + 1 : Nat) : Int) := by omega
    have c3 : i ≤ t.rows.length := by omega
    have hw1 : IntKind.wrap .i64 ((i : Int) + 1) = ((i + 1 : Nat) : Int) := by rw [IntWalk.i64_in _ (by omega)]; omega
    have hsz := sz_take t.rows i
    by_cases c2 : fstBad t.p w 0 t.rows < 0
    · simp only [c2, true_or, decide_true] at a
      simp only [wCo, wFr, wOp, wBi, wLst, wLog, xB_other, Nat.reduceBEq, unT, loadP, storeP, partP, partT, partV, cellsP, mkAgg, allT, setRange, fillP, fieldA, indexS, indexA, indexV, indexStr, elems, elemsS, lenP, pickV, cviV, nckV, extV, isNil, bound, close, close1, aft, retV, retSl, one, eqT, eqs, eq1, Nat.reduceEqDiff, Nat.reduceAdd, Nat.reduceSub, Nat.reduceMul, Nat.reduceLeDiff, Nat.reduceLT, Nat.one_ne_zero, Nat.zero_ne_one, reduceIte, reduceCtorEq, bne_self_eq_false, decide_true, decide_false, Int.reduceToNat, Int.cast_ofNat_Int, Int.reduceLT, Int.reduceLE, Int.reduceEq, Int.reduceNeg, Int.reduceAdd, Int.reduceSub, f1, f2, f5, f44, f45, c1, c2, c3, hw1, tCells, sliceP, hsz, Nat.zero_le, a, beq_self_eq_true]
      repeat' ((with_reducible first | refine xG_dec ?_ ?_ | refine xG_ndec ?_ ?_ | refine xG_nsplit ?_ ?_ | refine xG_split ?_ ?_ | refine xC_dec ?_ ?_ | refine xC_ndec ?_ ?_ | refine xC_nsplit ?_ ?_ | refine xC_split ?_ ?_) <;> intro h <;> (try simp only [wCo, wFr, wOp, wBi, wLst, wLog, xB_other, Nat.reduceBEq, unT, loadP, storeP, partP, partT, partV, cellsP, mkAgg, allT, setRange, fillP, fieldA, indexS, indexA, indexV, indexStr, elems, elemsS, lenP, pickV, cviV, nckV, extV, isNil, bound, close, close1, aft, retV, retSl, one, eqT, eqs, eq1, Nat.reduceEqDiff, Nat.reduceAdd, Nat.reduceSub, Nat.reduceMul, Nat.reduceLeDiff, Nat.reduceLT, Nat.one_ne_zero, Nat.zero_ne_one, reduceIte, reduceCtorEq, bne_self_eq_false, decide_true, decide_false, Int.reduceToNat, Int.cast_ofNat_Int, Int.reduceLT, Int.reduceLE, Int.reduceEq, Int.reduceNeg, Int.reduceAdd, Int.reduceSub, f1, f2, f5, f44, f45, c1, c2, c3, hw1, tCells, sliceP, hsz, Nat.zero_le, a, beq_self_eq_true, h]))
      exact ih (i + 1) _ _ (by omega) (by simp only [FrAt_cons, FrAt_nil, wFr, Nat.reduceEqDiff, Nat.one_ne_zero, Nat.zero_ne_one, reduceIte, and_self, and_true, true_and, f1, f2, f5, f44]) h1
    · simp only [c2, false_or] at a
      simp only [wCo, wFr, wOp, wBi, wLst, wLog, xB_other, Nat.reduceBEq, unT, loadP, storeP, partP, partT, partV, cellsP, mkAgg, allT, setRange, fillP, fieldA, indexS, indexA, indexV, indexStr, elems, elemsS, lenP, pickV, cviV, nckV, extV, isNil, bound, close, close1, aft, retV, retSl, one, eqT, eqs, eq1, Nat.reduceEqDiff, Nat.reduceAdd, Nat.reduceSub, Nat.reduceMul, Nat.reduceLeDiff, Nat.reduceLT, Nat.one_ne_zero, Nat.zero_ne_one, reduceIte, reduceCtorEq, bne_self_eq_false, decide_true, decide_false, Int.reduceToNat, Int.cast_ofNat_Int, Int.reduceLT, Int.reduceLE, Int.reduceEq, Int.reduceNeg, Int.reduceAdd, Int.reduceSub, f1, f2, f5, f44, f45, c1, c2, c3, hw1, tCells, sliceP, hsz, Nat.zero_le, a, beq_self_eq_true]
      repeat' ((with_reducible first | refine xG_dec ?_ ?_ | refine xG_ndec ?_ ?_ | refine xG_nsplit ?_ ?_ | refine xG_split ?_ ?_ | refine xC_dec ?_ ?_ | refine xC_ndec ?_ ?_ | refine xC_nsplit ?_ ?_ | refine xC_split ?_ ?_) <;> intro h <;> (try simp only [wCo, wFr, wOp, wBi, wLst, wLog, xB_other, Nat.reduceBEq, unT, loadP, storeP, partP, partT, partV, cellsP, mkAgg, allT, setRange, fillP, fieldA, indexS, indexA, indexV, indexStr, elems, elemsS, lenP, pickV, cviV, nckV, extV, isNil, bound, close, close1, aft, retV, retSl, one, eqT, eqs, eq1, Nat.reduceEqDiff, Nat.reduceAdd, Nat.reduceSub, Nat.reduceMul, Nat.reduceLeDiff, Nat.reduceLT, Nat.one_ne_zero, Nat.zero_ne_one, reduceIte, reduceCtorEq, bne_self_eq_false, decide_true, decide_false, Int.reduceToNat, Int.cast_ofNat_Int, Int.reduceLT, Int.reduceLE, Int.reduceEq, Int.reduceNeg, Int.reduceAdd, Int.reduceSub, f1, f2, f5, f44, f45, c1, c2, c3, hw1, tCells, sliceP, hsz, Nat.zero_le, a, beq_self_eq_true, h]))
      exact ih (i + 1) _ _ (by omega) (by simp only [FrAt_cons, FrAt_nil, wFr, Nat.reduceEqDiff, Nat.one_ne_zero, Nat.zero_ne_one, reduceIte, and_self, and_true, true_and, f1, f2, f5, f44]) h1
theorem law6 (t : Tab) (ht : TabWf t) (nw : Bool) (w : List Int) (hw : u64s w) (hl : w.length ≤ 281474976710656) : Ret F gl 6 [tTab t, .sl nw (tU w)] (.t (.bool true)) := by
  have a11 := @ok11 gl t ht.ok
  have a13 := @ok13 gl t ht.ok
  have a20 := @ok20 gl t nw w hl
  have a18 := @ok18 gl t ht nw w hw hl
  have hlen := ht.len
  have hw1 : IntKind.wrap .i64 ((t.rows.length : Int) + 1) = ((t.rows.length + 1 : Nat) : Int) := by rw [IntWalk.i64_in _ (by omega)]; omega
  simp only [tTab, tCells] at a11 a13 a20 a18
  refine Ret.of F6 rfl ?_
  simp only [ir6]
  cases hv : vTab t with
  | false =>
    simp only [wCo, wFr, wOp, wBi, wLst, wLog, xB_other, Nat.reduceBEq, unT, loadP, storeP, partP, partT, partV, cellsP, mkAgg, allT, setRange, fillP, fieldA, indexS, indexA, indexV, indexStr, elems, elemsS, lenP, pickV, cviV, nckV, extV, isNil, bound, close, close1, aft, retV, retSl, one, eqT, eqs, eq1, Nat.reduceEqDiff, Nat.reduceAdd, Nat.reduceSub, Nat.reduceMul, Nat.reduceLeDiff, Nat.reduceLT, Nat.one_ne_zero, Nat.zero_ne_one, reduceIte, reduceCtorEq, bne_self_eq_false, decide_true, decide_false, Int.reduceToNat, Int.cast_ofNat_Int, Int.reduceLT, Int.reduceLE, Int.reduceEq, Int.reduceNeg, Int.reduceAdd, Int.reduceSub, tTab, tCells, ok10, a11, a13, a20, a18, tU_len, hv]
    repeat' ((with_reducible first | refine xG_dec ?_ ?_ | refine xG_ndec ?_ ?_ | refine xG_nsplit ?_ ?_ | refine xG_split ?_ ?_ | refine xC_dec ?_ ?_ | refine xC_ndec ?_ ?_ | refine xC_nsplit ?_ ?_ | refine xC_split ?_ ?_) <;> intro h <;> (try simp only [wCo, wFr, wOp, wBi, wLst, wLog, xB_other, Nat.reduceBEq, unT, loadP, storeP, partP, partT, partV, cellsP, mkAgg, allT, setRange, fillP, fieldA, indexS, indexA, indexV, indexStr, elems, elemsS, lenP, pickV, cviV, nckV, extV, isNil, bound, close, close1, aft, retV, retSl, one, eqT, eqs, eq1, Nat.reduceEqDiff, Nat.reduceAdd, Nat.reduceSub, Nat.reduceMul, Nat.reduceLeDiff, Nat.reduceLT, Nat.one_ne_zero, Nat.zero_ne_one, reduceIte, reduceCtorEq, bne_self_eq_false, decide_true, decide_false, Int.reduceToNat, Int.cast_ofNat_Int, Int.reduceLT, Int.reduceLE, Int.reduceEq, Int.reduceNeg, Int.reduceAdd, Int.reduceSub, tTab, tCells, ok10, a11, a13, a20, a18, tU_len, hv, h]))
  | true =>
    cases hq : asg t.p t.vars w with
    | false =>
      simp only [wCo, wFr, wOp, wBi, wLst, wLog, xB_other, Nat.reduceBEq, unT, loadP, storeP, partP, partT, partV, cellsP, mkAgg, allT, setRange, fillP, fieldA, indexS, indexA, indexV, indexStr, elems, elemsS, lenP, pickV, cviV, nckV, extV, isNil, bound, close, close1, aft, retV, retSl, one, eqT, eqs, eq1, Nat.reduceEqDiff, Nat.reduceAdd, Nat.reduceSub, Nat.reduceMul, Nat.reduceLeDiff, Nat.reduceLT, Nat.one_ne_zero, Nat.zero_ne_one, reduceIte, reduceCtorEq, bne_self_eq_false, decide_true, decide_false, Int.reduceToNat, Int.cast_ofNat_Int, Int.reduceLT, Int.reduceLE, Int.reduceEq, Int.reduceNeg, Int.reduceAdd, Int.reduceSub, tTab, tCells, ok10, a11, a13, a20, a18, tU_len, hv, hq]
      repeat' ((with_reducible first | refine xG_dec ?_ ?_ | refine xG_ndec ?_ ?_ | refine xG_nsplit ?_ ?_ | refine xG_split ?_ ?_ | refine xC_dec ?_ ?_ | refine xC_ndec ?_ ?_ | refine xC_nsplit ?_ ?_ | refine xC_split ?_ ?_) <;> intro h <;> (try simp only [wCo, wFr, wOp, wBi, wLst, wLog, xB_other, Nat.reduceBEq, unT, loadP, storeP, partP, partT, partV, cellsP, mkAgg, allT, setRange, fillP, fieldA, indexS, indexA, indexV, indexStr, elems, elemsS, lenP, pickV, cviV, nckV, extV, isNil, bound, close, close1, aft, retV, retSl, one, eqT, eqs, eq1, Nat.reduceEqDiff, Nat.reduceAdd, Nat.reduceSub, Nat.reduceMul, Nat.reduceLeDiff, Nat.reduceLT, Nat.one_ne_zero, Nat.zero_ne_one, reduceIte, reduceCtorEq, bne_self_eq_false, decide_true, decide_false, Int.reduceToNat, Int.cast_ofNat_Int, Int.reduceLT, Int.reduceLE, Int.reduceEq, Int.reduceNeg, Int.reduceAdd, Int.reduceSub, tTab, tCells, ok10, a11, a13, a20, a18, tU_len, hv, hq, h]))
    | true =>
      have he : fst' t w = fstBad t.p w 0 t.rows := by simp [fst', hv, hq]
      rw [he] at a18
      simp only [wCo, wFr, wOp, wBi, wLst, wLog, xB_other, Nat.reduceBEq, unT, loadP, storeP, partP, partT, partV, cellsP, mkAgg, allT, setRange, fillP, fieldA, indexS, indexA, indexV, indexStr, elems, elemsS, lenP, pickV, cviV, nckV, extV, isNil, bound, close, close1, aft, retV, retSl, one, eqT, eqs, eq1, Nat.reduceEqDiff, Nat.reduceAdd, Nat.reduceSub, Nat.reduceMul, Nat.reduceLeDiff, Nat.reduceLT, Nat.one_ne_zero, Nat.zero_ne_one, reduceIte, reduceCtorEq, bne_self_eq_false, decide_true, decide_false, Int.reduceToNat, Int.cast_ofNat_Int, Int.reduceLT, Int.reduceLE, Int.reduceEq, Int.reduceNeg, Int.reduceAdd, Int.reduceSub, tTab, tCells, ok10, a11, a13, a20, a18, tU_len, hv, hq, hw1]
      repeat' ((with_reducible first | refine xG_dec ?_ ?_ | refine xG_ndec ?_ ?_ | refine xG_nsplit ?_ ?_ | refine xG_split ?_ ?_ | refine xC_dec ?_ ?_ | refine xC_ndec ?_ ?_ | refine xC_nsplit ?_ ?_ | refine xC_split ?_ ?_) <;> intro h <;> (try simp only [wCo, wFr, wOp, wBi, wLst, wLog, xB_other, Nat.reduceBEq, unT, loadP, storeP, partP, partT, partV, cellsP, mkAgg, allT, setRange, fillP, fieldA, indexS, indexA, indexV, indexStr, elems, elemsS, lenP, pickV, cviV, nckV, extV, isNil, bound, close, close1, aft, retV, retSl, one, eqT, eqs, eq1, Nat.reduceEqDiff, Nat.reduceAdd, Nat.reduceSub, Nat.reduceMul, Nat.reduceLeDiff, Nat.reduceLT, Nat.one_ne_zero, Nat.zero_ne_one, reduceIte, reduceCtorEq, bne_self_eq_false, decide_true, decide_false, Int.reduceToNat, Int.cast_ofNat_Int, Int.reduceLT, Int.reduceLE, Int.reduceEq, Int.reduceNeg, Int.reduceAdd, Int.reduceSub, tTab, tCells, ok10, a11, a13, a20, a18, tU_len, hv, hq, hw1, h]))
      refine loop6 t ht nw w hw hl hv hq _ _ (t.rows.length + 1) 0 _ [] (by omega) ?_ ?_
      · simp only [FrAt_cons, FrAt_nil, wFr, Nat.reduceEqDiff, Nat.one_ne_zero, Nat.zero_ne_one, reduceIte, and_self, and_true, true_and]
      · intro fr' sg'
        simp only [wCo, wFr, wOp, wBi, wLst, wLog, xB_other, Nat.reduceBEq, unT, loadP, storeP, partP, partT, partV, cellsP, mkAgg, allT, setRange, fillP, fieldA, indexS, indexA, indexV, indexStr, elems, elemsS, lenP, pickV, cviV, nckV, extV, isNil, bound, close, close1, aft, retV, retSl, one, eqT, eqs, eq1, Nat.reduceEqDiff, Nat.reduceAdd, Nat.reduceSub, Nat.reduceMul, Nat.reduceLeDiff, Nat.reduceLT, Nat.one_ne_zero, Nat.zero_ne_one, reduceIte, reduceCtorEq, bne_self_eq_false, decide_true, decide_false, Int.reduceToNat, Int.cast_ofNat_Int, Int.reduceLT, Int.reduceLE, Int.reduceEq, Int.reduceNeg, Int.reduceAdd, Int.reduceSub]
        repeat' ((with_reducible first | refine xG_dec ?_ ?_ | refine xG_ndec ?_ ?_ | refine xG_nsplit ?_ ?_ | refine xG_split ?_ ?_ | refine xC_dec ?_ ?_ | refine xC_ndec ?_ ?_ | refine xC_nsplit ?_ ?_ | refine xC_split ?_ ?_) <;> intro h <;> (try simp only [wCo, wFr, wOp, wBi, wLst, wLog, xB_other, Nat.reduceBEq, unT, loadP, storeP, partP, partT, partV, cellsP, mkAgg, allT, setRange, fillP, fieldA, indexS, indexA, indexV, indexStr, elems, elemsS, lenP, pickV, cviV, nckV, extV, isNil, bound, close, close1, aft, retV, retSl, one, eqT, eqs, eq1, Nat.reduceEqDiff, Nat.reduceAdd, Nat.reduceSub, Nat.reduceMul, Nat.reduceLeDiff, Nat.reduceLT, Nat.one_ne_zero, Nat.zero_ne_one, reduceIte, reduceCtorEq, bne_self_eq_false, decide_true, decide_false, Int.reduceToNat, Int.cast_ofNat_Int, Int.reduceLT, Int.reduceLE, Int.reduceEq, Int.reduceNeg, Int.reduceAdd, Int.reduceSub, h]))
theorem args5 : ∀ xs, ArgsT 140737488355328 [(true, ctTab), (false, [.sl [.int .u64]])] xs → ∃ n sg ow, pcall F gl n 5 (xs.map .t) [] [] = some (.t (.bool true), sg, ow) := by
  intro xs h
  obtain ⟨x, r, rfl, hx, h⟩ := argsT_cons h
  obtain ⟨y, r, rfl, hy, h⟩ := argsT_cons h
  obtain rfl := argsT_nil h
  obtain ⟨t, rfl, ht⟩ := tab_of hx
  obtain ⟨nw, w, rfl, hw1, hw2⟩ := nums_of (argT_one hy)
  exact CallP.law (law5 t ht nw w hw2 (by omega))
theorem args6 : ∀ xs, ArgsT 140737488355328 [(true, ctTab), (false, [.sl [.int .u64]])] xs → ∃ n sg ow, pcall F gl n 6 (xs.map .t) [] [] = some (.t (.bool true), sg, ow) := by
  intro xs h
  obtain ⟨x, r, rfl, hx, h⟩ := argsT_cons h
  obtain ⟨y, r, rfl, hy, h⟩ := argsT_cons h
  obtain rfl := argsT_nil h
  obtain ⟨t, rfl, ht⟩ := tab_of hx
  obtain ⟨nw, w, rfl, hw1, hw2⟩ := nums_of (argT_one hy)
  exact CallP.law (law6 t ht nw w hw2 (by omega))
end Go.Proofs.YtbkphlhmbllbiaaDoor
