/- Contracts: tables, valid ones, small ones. -/
import Derived.Test.YtbkphlhmbllbiaaDoorA1
import Derived.Test.YtbkphlhmbllbiaaDoorKx4
set_option maxRecDepth 10000
set_option linter.unusedVariables false
set_option linter.unusedSimpArgs false
namespace Go.Proofs.YtbkphlhmbllbiaaDoor
open Go.Pi Go.Lib
variable {gl : Nat → Option (List T)}

abbrev Lin := Bool × List (Int × Int)
abbrev Row := Lin × Lin × Lin
structure Tab where
  p : Int
  pub : Int
  vars : Int
  nl : Bool
  rows : List Row
def tTerm (t : Int × Int) : List T := [.int .i64 t.1, .int .u64 t.2]
def tLin (l : Lin) : T := .sl l.1 (l.2.map tTerm)
def tRow (r : Row) : List T := [tLin r.1, tLin r.2.1, tLin r.2.2]
def tCells (t : Tab) : List T := [.int .u64 t.p, .int .i64 t.pub, .int .i64 t.vars, .sl t.nl (t.rows.map tRow)]
def tTab (t : Tab) : T := .agg (tCells t)

theorem ok29 (t : Tab) {K : PV → Prop} : XcP F gl 29 [tTab t] K ⟨⟩ ↔ K (.t (.bool (known t.p && decide (0 ≤ t.pub) && decide (t.pub < t.vars) && decide (t.vars ≤ 65536)))) := by
  refine Ret.iff (Ret.of F29 rfl ?_)
  simp only [ir29]
  simp only [wCo, wFr, wOp, wBi, wLst, wLog, xB_other, Nat.reduceBEq, unT, loadP, storeP, partP, partT, partV, cellsP, mkAgg, allT, setRange, fillP, fieldA, indexS, indexA, indexV, indexStr, elems, lenP, pickV, cviV, nckV, extV, isNil, bound, close, close1, aft, retV, retSl, Go.Pi.one, eqT, eqs, eq1, Nat.reduceEqDiff, Nat.reduceAdd, Nat.reduceSub, Nat.reduceMul, Nat.reduceLeDiff, Nat.reduceLT, Nat.one_ne_zero, Nat.zero_ne_one, reduceIte, reduceCtorEq, bne_self_eq_false, decide_true, decide_false, Int.reduceToNat, Int.cast_ofNat_Int, Int.reduceLT, Int.reduceLE, Int.reduceEq, Int.reduceNeg, Int.reduceAdd, Int.reduceSub, ok55, tTab, tCells]
  repeat' ((with_reducible first | refine xG_dec ?_ ?_ | refine xG_ndec ?_ ?_ | refine xG_nsplit ?_ ?_ | refine xG_split ?_ ?_ | refine xC_dec ?_ ?_ | refine xC_ndec ?_ ?_ | refine xC_nsplit ?_ ?_ | refine xC_split ?_ ?_) <;> intro h <;> (try simp only [wCo, wFr, wOp, wBi, wLst, wLog, xB_other, Nat.reduceBEq, unT, loadP, storeP, partP, partT, partV, cellsP, mkAgg, allT, setRange, fillP, fieldA, indexS, indexA, indexV, indexStr, elems, lenP, pickV, cviV, nckV, extV, isNil, bound, close, close1, aft, retV, retSl, Go.Pi.one, eqT, eqs, eq1, Nat.reduceEqDiff, Nat.reduceAdd, Nat.reduceSub, Nat.reduceMul, Nat.reduceLeDiff, Nat.reduceLT, Nat.one_ne_zero, Nat.zero_ne_one, reduceIte, reduceCtorEq, bne_self_eq_false, decide_true, decide_false, Int.reduceToNat, Int.cast_ofNat_Int, Int.reduceLT, Int.reduceLE, Int.reduceEq, Int.reduceNeg, Int.reduceAdd, Int.reduceSub, ok55, tTab, tCells, h]))
  all_goals simp_all

def vLin (p vars : Int) : Int → List (Int × Int) → Bool
  | _, [] => true
  | last, x :: r => if x.1 ≤ last ∨ vars ≤ x.1 ∨ x.2 = 0 ∨ p ≤ x.2 then false else vLin p vars x.1 r

theorem loop56 (t : Tab) (nl : Bool) (l : List (Int × Int)) (hl : l.length ≤ 281474976710656) (ow : Ow) (Q : Ex → S → Prop) : ∀ (rest : List (Int × Int)) (i : Nat) (last : Int) (fr : List PV) (j : Sg), l.drop i = rest →
    FrAt fr [(2, .lp 0 0), (5, .t (.int .i64 last)), (8, .t (tLin (nl, l))), (9, .t (.int .i64 l.length)), (10, .t (.int .i64 i))] →
    (vLin t.p t.vars last rest = true → ∀ fr' j', Q (.exit 0) ⟨fr', (false, (tCells t).map .t) :: j', ow⟩) →
    (vLin t.p t.vars last rest = false → ∀ fr' j', fget fr' 4 = .t (.bool false) → Q .ret ⟨fr', (false, (tCells t).map .t) :: j', ow⟩) →
    Xl F gl lb56_0 ⟨fr, (false, (tCells t).map .t) :: j, ow⟩ Q ⟨⟩ := by
  intro rest
  induction rest with
  | nil =>
    intro i last fr j hd hf h1 h2
    have hd := drop_nil' hd
    simp only [FrAt_cons, FrAt_nil] at hf
    obtain ⟨f2, f5, f8, f9, f10, -⟩ := hf
    refine Xl.step ?_
    simp only [lb56_0]
    have c1 : ¬ ((i : Int) < (l.length : Int)) := by omega
    simp only [wCo, wFr, wOp, wBi, wLst, wLog, xB_other, Nat.reduceBEq, unT, loadP, storeP, partP, partT, partV, cellsP, mkAgg, allT, setRange, fillP, fieldA, indexS, indexA, indexV, indexStr, elems, lenP, pickV, cviV, nckV, extV, isNil, bound, close, close1, aft, retV, retSl, Go.Pi.one, eqT, eqs, eq1, Nat.reduceEqDiff, Nat.reduceAdd, Nat.reduceSub, Nat.reduceMul, Nat.reduceLeDiff, Nat.reduceLT, Nat.one_ne_zero, Nat.zero_ne_one, reduceIte, reduceCtorEq, bne_self_eq_false, decide_true, decide_false, Int.reduceToNat, Int.cast_ofNat_Int, Int.reduceLT, Int.reduceLE, Int.reduceEq, Int.reduceNeg, Int.reduceAdd, Int.reduceSub, f9, f10, c1]
    repeat' ((with_reducible first | refine xG_dec ?_ ?_ | refine xG_ndec ?_ ?_ | refine xG_nsplit ?_ ?_ | refine xG_split ?_ ?_ | refine xC_dec ?_ ?_ | refine xC_ndec ?_ ?_ | refine xC_nsplit ?_ ?_ | refine xC_split ?_ ?_) <;> intro h <;> (try simp only [wCo, wFr, wOp, wBi, wLst, wLog, xB_other, Nat.reduceBEq, unT, loadP, storeP, partP, partT, partV, cellsP, mkAgg, allT, setRange, fillP, fieldA, indexS, indexA, indexV, indexStr, elems, lenP, pickV, cviV, nckV, extV, isNil, bound, close, close1, aft, retV, retSl, Go.Pi.one, eqT, eqs, eq1, Nat.reduceEqDiff, Nat.reduceAdd, Nat.reduceSub, Nat.reduceMul, Nat.reduceLeDiff, Nat.reduceLT, Nat.one_ne_zero, Nat.zero_ne_one, reduceIte, reduceCtorEq, bne_self_eq_false, decide_true, decide_false, Int.reduceToNat, Int.cast_ofNat_Int, Int.reduceLT, Int.reduceLE, Int.reduceEq, Int.reduceNeg, Int.reduceAdd, Int.reduceSub, f9, f10, c1, h]))
    exact h1 rfl _ _
  | cons x r ih =>
    intro i last fr j hd hf h1 h2
    obtain ⟨hx, hr, hi⟩ := drop_cons hd
    simp only [FrAt_cons, FrAt_nil] at hf
    obtain ⟨f2, f5, f8, f9, f10, -⟩ := hf
    refine Xl.step ?_
    simp only [lb56_0]
    have c1 : (i : Int) < (l.length : Int) := by omega
    have hw : IntKind.wrap .i64 ((i : Int) + 1) = ((i + 1 : Nat) : Int) := by rw [IntWalk.i64_in _ (by omega)]; omega
    simp only [wCo, wFr, wOp, wBi, wLst, wLog, xB_other, Nat.reduceBEq, unT, loadP, storeP, partP, partT, partV, cellsP, mkAgg, allT, setRange, fillP, fieldA, indexS, indexA, indexV, indexStr, elems, lenP, pickV, cviV, nckV, extV, isNil, bound, close, close1, aft, retV, retSl, Go.Pi.one, eqT, eqs, eq1, Nat.reduceEqDiff, Nat.reduceAdd, Nat.reduceSub, Nat.reduceMul, Nat.reduceLeDiff, Nat.reduceLT, Nat.one_ne_zero, Nat.zero_ne_one, reduceIte, reduceCtorEq, bne_self_eq_false, decide_true, decide_false, Int.reduceToNat, Int.cast_ofNat_Int, Int.reduceLT, Int.reduceLE, Int.reduceEq, Int.reduceNeg, Int.reduceAdd, Int.reduceSub, f2, f5, f8, f9, f10, c1, hw, tLin, List.getElem?_map, hx, tTerm, tCells]
    repeat' ((with_reducible first | refine xG_dec ?_ ?_ | refine xG_ndec ?_ ?_ | refine xG_nsplit ?_ ?_ | refine xG_split ?_ ?_ | refine xC_dec ?_ ?_ | refine xC_ndec ?_ ?_ | refine xC_nsplit ?_ ?_ | refine xC_split ?_ ?_) <;> intro h <;> (try simp only [wCo, wFr, wOp, wBi, wLst, wLog, xB_other, Nat.reduceBEq, unT, loadP, storeP, partP, partT, partV, cellsP, mkAgg, allT, setRange, fillP, fieldA, indexS, indexA, indexV, indexStr, elems, lenP, pickV, cviV, nckV, extV, isNil, bound, close, close1, aft, retV, retSl, Go.Pi.one, eqT, eqs, eq1, Nat.reduceEqDiff, Nat.reduceAdd, Nat.reduceSub, Nat.reduceMul, Nat.reduceLeDiff, Nat.reduceLT, Nat.one_ne_zero, Nat.zero_ne_one, reduceIte, reduceCtorEq, bne_self_eq_false, decide_true, decide_false, Int.reduceToNat, Int.cast_ofNat_Int, Int.reduceLT, Int.reduceLE, Int.reduceEq, Int.reduceNeg, Int.reduceAdd, Int.reduceSub, f2, f5, f8, f9, f10, c1, hw, tLin, List.getElem?_map, hx, tTerm, tCells, h]))
    · exact h2 (by simp only [vLin]; rw [if_pos (by omega)]) _ _ (fget_same _ _ _)
    · exact h2 (by simp only [vLin]; rw [if_pos (by omega)]) _ _ (fget_same _ _ _)
    · exact h2 (by simp only [vLin]; rw [if_pos (by omega)]) _ _ (fget_same _ _ _)
    · exact h2 (by simp only [vLin]; rw [if_pos (by omega)]) _ _ (fget_same _ _ _)
    · have hv : vLin t.p t.vars last (x :: r) = vLin t.p t.vars x.1 r := by simp only [vLin]; rw [if_neg (by omega)]
      rw [hv] at h1 h2
      exact ih (i + 1) x.1 _ _ hr (by simp only [FrAt_cons, FrAt_nil, wFr, Nat.reduceEqDiff, Nat.one_ne_zero, Nat.zero_ne_one, reduceIte, and_self, and_true, true_and, f2, f8, f9]) h1 h2
theorem ok56 (t : Tab) (l : Lin) (hl : l.2.length ≤ 281474976710656) {K : PV → Prop} : XcP F gl 56 [tTab t, tLin l] K ⟨⟩ ↔ K (.t (.bool (vLin t.p t.vars (-1) l.2))) := by
  refine Ret.iff (Ret.of F56 rfl ?_)
  simp only [ir56]
  simp only [wCo, wFr, wOp, wBi, wLst, wLog, xB_other, Nat.reduceBEq, unT, loadP, storeP, partP, partT, partV, cellsP, mkAgg, allT, setRange, fillP, fieldA, indexS, indexA, indexV, indexStr, elems, lenP, pickV, cviV, nckV, extV, isNil, bound, close, close1, aft, retV, retSl, Go.Pi.one, eqT, eqs, eq1, Nat.reduceEqDiff, Nat.reduceAdd, Nat.reduceSub, Nat.reduceMul, Nat.reduceLeDiff, Nat.reduceLT, Nat.one_ne_zero, Nat.zero_ne_one, reduceIte, reduceCtorEq, bne_self_eq_false, decide_true, decide_false, Int.reduceToNat, Int.cast_ofNat_Int, Int.reduceLT, Int.reduceLE, Int.reduceEq, Int.reduceNeg, Int.reduceAdd, Int.reduceSub, tTab, tCells, tLin]
  repeat' ((with_reducible first | refine xG_dec ?_ ?_ | refine xG_ndec ?_ ?_ | refine xG_nsplit ?_ ?_ | refine xG_split ?_ ?_ | refine xC_dec ?_ ?_ | refine xC_ndec ?_ ?_ | refine xC_nsplit ?_ ?_ | refine xC_split ?_ ?_) <;> intro h <;> (try simp only [wCo, wFr, wOp, wBi, wLst, wLog, xB_other, Nat.reduceBEq, unT, loadP, storeP, partP, partT, partV, cellsP, mkAgg, allT, setRange, fillP, fieldA, indexS, indexA, indexV, indexStr, elems, lenP, pickV, cviV, nckV, extV, isNil, bound, close, close1, aft, retV, retSl, Go.Pi.one, eqT, eqs, eq1, Nat.reduceEqDiff, Nat.reduceAdd, Nat.reduceSub, Nat.reduceMul, Nat.reduceLeDiff, Nat.reduceLT, Nat.one_ne_zero, Nat.zero_ne_one, reduceIte, reduceCtorEq, bne_self_eq_false, decide_true, decide_false, Int.reduceToNat, Int.cast_ofNat_Int, Int.reduceLT, Int.reduceLE, Int.reduceEq, Int.reduceNeg, Int.reduceAdd, Int.reduceSub, tTab, tCells, tLin, h]))
  refine loop56 t l.1 l.2 hl _ _ l.2 0 (-1) _ [] rfl ?_ ?_ ?_
  · simp only [FrAt_cons, FrAt_nil, wFr, Nat.reduceEqDiff, Nat.one_ne_zero, Nat.zero_ne_one, reduceIte, and_self, and_true, true_and, tLin]
  · intro hv fr' j'
    simp only [wCo, wFr, wOp, wBi, wLst, wLog, xB_other, Nat.reduceBEq, unT, loadP, storeP, partP, partT, partV, cellsP, mkAgg, allT, setRange, fillP, fieldA, indexS, indexA, indexV, indexStr, elems, lenP, pickV, cviV, nckV, extV, isNil, bound, close, close1, aft, retV, retSl, Go.Pi.one, eqT, eqs, eq1, Nat.reduceEqDiff, Nat.reduceAdd, Nat.reduceSub, Nat.reduceMul, Nat.reduceLeDiff, Nat.reduceLT, Nat.one_ne_zero, Nat.zero_ne_one, reduceIte, reduceCtorEq, bne_self_eq_false, decide_true, decide_false, Int.reduceToNat, Int.cast_ofNat_Int, Int.reduceLT, Int.reduceLE, Int.reduceEq, Int.reduceNeg, Int.reduceAdd, Int.reduceSub, hv]
    repeat' ((with_reducible first | refine xG_dec ?_ ?_ | refine xG_ndec ?_ ?_ | refine xG_nsplit ?_ ?_ | refine xG_split ?_ ?_ | refine xC_dec ?_ ?_ | refine xC_ndec ?_ ?_ | refine xC_nsplit ?_ ?_ | refine xC_split ?_ ?_) <;> intro h <;> (try simp only [wCo, wFr, wOp, wBi, wLst, wLog, xB_other, Nat.reduceBEq, unT, loadP, storeP, partP, partT, partV, cellsP, mkAgg, allT, setRange, fillP, fieldA, indexS, indexA, indexV, indexStr, elems, lenP, pickV, cviV, nckV, extV, isNil, bound, close, close1, aft, retV, retSl, Go.Pi.one, eqT, eqs, eq1, Nat.reduceEqDiff, Nat.reduceAdd, Nat.reduceSub, Nat.reduceMul, Nat.reduceLeDiff, Nat.reduceLT, Nat.one_ne_zero, Nat.zero_ne_one, reduceIte, reduceCtorEq, bne_self_eq_false, decide_true, decide_false, Int.reduceToNat, Int.cast_ofNat_Int, Int.reduceLT, Int.reduceLE, Int.reduceEq, Int.reduceNeg, Int.reduceAdd, Int.reduceSub, hv, h]))
  · intro hv fr' j' hf
    simp only [wCo, wFr, wOp, wBi, wLst, wLog, xB_other, Nat.reduceBEq, unT, loadP, storeP, partP, partT, partV, cellsP, mkAgg, allT, setRange, fillP, fieldA, indexS, indexA, indexV, indexStr, elems, lenP, pickV, cviV, nckV, extV, isNil, bound, close, close1, aft, retV, retSl, Go.Pi.one, eqT, eqs, eq1, Nat.reduceEqDiff, Nat.reduceAdd, Nat.reduceSub, Nat.reduceMul, Nat.reduceLeDiff, Nat.reduceLT, Nat.one_ne_zero, Nat.zero_ne_one, reduceIte, reduceCtorEq, bne_self_eq_false, decide_true, decide_false, Int.reduceToNat, Int.cast_ofNat_Int, Int.reduceLT, Int.reduceLE, Int.reduceEq, Int.reduceNeg, Int.reduceAdd, Int.reduceSub, hv, hf]
    repeat' ((with_reducible first | refine xG_dec ?_ ?_ | refine xG_ndec ?_ ?_ | refine xG_nsplit ?_ ?_ | refine xG_split ?_ ?_ | refine xC_dec ?_ ?_ | refine xC_ndec ?_ ?_ | refine xC_nsplit ?_ ?_ | refine xC_split ?_ ?_) <;> intro h <;> (try simp only [wCo, wFr, wOp, wBi, wLst, wLog, xB_other, Nat.reduceBEq, unT, loadP, storeP, partP, partT, partV, cellsP, mkAgg, allT, setRange, fillP, fieldA, indexS, indexA, indexV, indexStr, elems, lenP, pickV, cviV, nckV, extV, isNil, bound, close, close1, aft, retV, retSl, Go.Pi.one, eqT, eqs, eq1, Nat.reduceEqDiff, Nat.reduceAdd, Nat.reduceSub, Nat.reduceMul, Nat.reduceLeDiff, Nat.reduceLT, Nat.one_ne_zero, Nat.zero_ne_one, reduceIte, reduceCtorEq, bne_self_eq_false, decide_true, decide_false, Int.reduceToNat, Int.cast_ofNat_Int, Int.reduceLT, Int.reduceLE, Int.reduceEq, Int.reduceNeg, Int.reduceAdd, Int.reduceSub, hv, hf, h]))
theorem loop58 (p n : Int) (nl : Bool) (l : List (Int × Int)) (hl : l.length ≤ 281474976710656) (sg : Sg) (ow : Ow) (Q : Ex → S → Prop) : ∀ (rest : List (Int × Int)) (i : Nat) (last : Int) (fr : List PV), l.drop i = rest →
    (i = 0 ∧ last = -1 ∨ ∃ y, 0 < i ∧ l[i - 1]? = some y ∧ last = y.1 ∧ 0 ≤ last) →
    FrAt fr [(0, .t (.int .u64 p)), (1, .t (tLin (nl, l))), (2, .t (.int .i64 n)), (7, .t (.int .i64 i))] →
    (vLin p n last rest = true → ∀ fr', Q (.exit 0) ⟨fr', sg, ow⟩) →
    (vLin p n last rest = false → ∀ fr', fget fr' 6 = .t (.bool false) → Q .ret ⟨fr', sg, ow⟩) →
    Xl F gl lb58_0 ⟨fr, sg, ow⟩ Q ⟨⟩ := by
  intro rest
  induction rest with
  | nil =>
    intro i last fr hd hp hf h1 h2
    have hd := drop_nil' hd
    simp only [FrAt_cons, FrAt_nil] at hf
    obtain ⟨f0, f1, f2, f7, -⟩ := hf
    refine Xl.step ?_
    simp only [lb58_0]
    have c1 : ¬ ((i : Int) < (l.length : Int)) := by omega
    simp only [wCo, wFr, wOp, wBi, wLst, wLog, xB_other, Nat.reduceBEq, unT, loadP, storeP, partP, partT, partV, cellsP, mkAgg, allT, setRange, fillP, fieldA, indexS, indexA, indexV, indexStr, elems, lenP, pickV, cviV, nckV, extV, isNil, bound, close, close1, aft, retV, retSl, Go.Pi.one, eqT, eqs, eq1, Nat.reduceEqDiff, Nat.reduceAdd, Nat.reduceSub, Nat.reduceMul, Nat.reduceLeDiff, Nat.reduceLT, Nat.one_ne_zero, Nat.zero_ne_one, reduceIte, reduceCtorEq, bne_self_eq_false, decide_true, decide_false, Int.reduceToNat, Int.cast_ofNat_Int, Int.reduceLT, Int.reduceLE, Int.reduceEq, Int.reduceNeg, Int.reduceAdd, Int.reduceSub, f1, f7, c1, tLin]
    repeat' ((with_reducible first | refine xG_dec ?_ ?_ | refine xG_ndec ?_ ?_ | refine xG_nsplit ?_ ?_ | refine xG_split ?_ ?_ | refine xC_dec ?_ ?_ | refine xC_ndec ?_ ?_ | refine xC_nsplit ?_ ?_ | refine xC_split ?_ ?_) <;> intro h <;> (try simp only [wCo, wFr, wOp, wBi, wLst, wLog, xB_other, Nat.reduceBEq, unT, loadP, storeP, partP, partT, partV, cellsP, mkAgg, allT, setRange, fillP, fieldA, indexS, indexA, indexV, indexStr, elems, lenP, pickV, cviV, nckV, extV, isNil, bound, close, close1, aft, retV, retSl, Go.Pi.one, eqT, eqs, eq1, Nat.reduceEqDiff, Nat.reduceAdd, Nat.reduceSub, Nat.reduceMul, Nat.reduceLeDiff, Nat.reduceLT, Nat.one_ne_zero, Nat.zero_ne_one, reduceIte, reduceCtorEq, bne_self_eq_false, decide_true, decide_false, Int.reduceToNat, Int.cast_ofNat_Int, Int.reduceLT, Int.reduceLE, Int.reduceEq, Int.reduceNeg, Int.reduceAdd, Int.reduceSub, f1, f7, c1, tLin, h]))
    exact h1 rfl _
  | cons x r ih =>
    intro i last fr hd hp hf h1 h2
    obtain ⟨hx, hr, hi⟩ := drop_cons hd
    simp only [FrAt_cons, FrAt_nil] at hf
    obtain ⟨f0, f1, f2, f7, -⟩ := hf
    refine Xl.step ?_
    simp only [lb58_0]
    have c1 : (i : Int) < (l.length : Int) := by omega
    have hw : IntKind.wrap .i64 ((i : Int) + 1) = ((i + 1 : Nat) : Int) := by rw [IntWalk.i64_in _ (by omega)]; omega
    rcases hp with ⟨hi0, hp⟩ | ⟨y, hi0, hy, hp, hp0⟩
    · have c2 : ¬ (0 < (i : Int)) := by omega
      simp only [wCo, wFr, wOp, wBi, wLst, wLog, xB_other, Nat.reduceBEq, unT, loadP, storeP, partP, partT, partV, cellsP, mkAgg, allT, setRange, fillP, fieldA, indexS, indexA, indexV, indexStr, elems, lenP, pickV, cviV, nckV, extV, isNil, bound, close, close1, aft, retV, retSl, Go.Pi.one, eqT, eqs, eq1, Nat.reduceEqDiff, Nat.reduceAdd, Nat.reduceSub, Nat.reduceMul, Nat.reduceLeDiff, Nat.reduceLT, Nat.one_ne_zero, Nat.zero_ne_one, reduceIte, reduceCtorEq, bne_self_eq_false, decide_true, decide_false, Int.reduceToNat, Int.cast_ofNat_Int, Int.reduceLT, Int.reduceLE, Int.reduceEq, Int.reduceNeg, Int.reduceAdd, Int.reduceSub, f0, f1, f2, f7, c1, c2, hw, tLin, List.getElem?_map, hx, tTerm]
      repeat' ((with_reducible first | refine xG_dec ?_ ?_ | refine xG_ndec ?_ ?_ | refine xG_nsplit ?_ ?_ | refine xG_split ?_ ?_ | refine xC_dec ?_ ?_ | refine xC_ndec ?_ ?_ | refine xC_nsplit ?_ ?_ | refine xC_split ?_ ?_) <;> intro h <;> (try simp only [wCo, wFr, wOp, wBi, wLst, wLog, xB_other, Nat.reduceBEq, unT, loadP, storeP, partP, partT, partV, cellsP, mkAgg, allT, setRange, fillP, fieldA, indexS, indexA, indexV, indexStr, elems, lenP, pickV, cviV, nckV, extV, isNil, bound, close, close1, aft, retV, retSl, Go.Pi.one, eqT, eqs, eq1, Nat.reduceEqDiff, Nat.reduceAdd, Nat.reduceSub, Nat.reduceMul, Nat.reduceLeDiff, Nat.reduceLT, Nat.one_ne_zero, Nat.zero_ne_one, reduceIte, reduceCtorEq, bne_self_eq_false, decide_true, decide_false, Int.reduceToNat, Int.cast_ofNat_Int, Int.reduceLT, Int.reduceLE, Int.reduceEq, Int.reduceNeg, Int.reduceAdd, Int.reduceSub, f0, f1, f2, f7, c1, c2, hw, tLin, List.getElem?_map, hx, tTerm, h]))
      · exact h2 (by simp only [vLin]; rw [if_pos (by omega)]) _ (fget_same _ _ _)
      · exact h2 (by simp only [vLin]; rw [if_pos (by omega)]) _ (fget_same _ _ _)
      · exact h2 (by simp only [vLin]; rw [if_pos (by omega)]) _ (fget_same _ _ _)
      · exact h2 (by simp only [vLin]; rw [if_pos (by omega)]) _ (fget_same _ _ _)
      · have hv : vLin p n last (x :: r) = vLin p n x.1 r := by simp only [vLin]; rw [if_neg (by omega)]
        rw [hv] at h1 h2
        exact ih (i + 1) x.1 _ hr (.inr ⟨x, by omega, by simpa using hx, rfl, by omega⟩) (by simp only [FrAt_cons, FrAt_nil, wFr, Nat.reduceEqDiff, Nat.one_ne_zero, Nat.zero_ne_one, reduceIte, and_self, and_true, true_and, f0, f1, f2]) h1 h2
    · have c2 : 0 < (i : Int) := by omega
      have hw2 : IntKind.wrap .i64 ((i : Int) - 1) = ((i - 1 : Nat) : Int) := by rw [IntWalk.i64_in _ (by omega)]; omega
      simp only [wCo, wFr, wOp, wBi, wLst, wLog, xB_other, Nat.reduceBEq, unT, loadP, storeP, partP, partT, partV, cellsP, mkAgg, allT, setRange, fillP, fieldA, indexS, indexA, indexV, indexStr, elems, lenP, pickV, cviV, nckV, extV, isNil, bound, close, close1, aft, retV, retSl, Go.Pi.one, eqT, eqs, eq1, Nat.reduceEqDiff, Nat.reduceAdd, Nat.reduceSub, Nat.reduceMul, Nat.reduceLeDiff, Nat.reduceLT, Nat.one_ne_zero, Nat.zero_ne_one, reduceIte, reduceCtorEq, bne_self_eq_false, decide_true, decide_false, Int.reduceToNat, Int.cast_ofNat_Int, Int.reduceLT, Int.reduceLE, Int.reduceEq, Int.reduceNeg, Int.reduceAdd, Int.reduceSub, f0, f1, f2, f7, c1, c2, hw, hw2, tLin, List.getElem?_map, hx, hy, tTerm]
      repeat' ((with_reducible first | refine xG_dec ?_ ?_ | refine xG_ndec ?_ ?_ | refine xG_nsplit ?_ ?_ | refine xG_split ?_ ?_ | refine xC_dec ?_ ?_ | refine xC_ndec ?_ ?_ | refine xC_nsplit ?_ ?_ | refine xC_split ?_ ?_) <;> intro h <;> (try simp only [wCo, wFr, wOp, wBi, wLst, wLog, xB_other, Nat.reduceBEq, unT, loadP, storeP, partP, partT, partV, cellsP, mkAgg, allT, setRange, fillP, fieldA, indexS, indexA, indexV, indexStr, elems, lenP, pickV, cviV, nckV, extV, isNil, bound, close, close1, aft, retV, retSl, Go.Pi.one, eqT, eqs, eq1, Nat.reduceEqDiff, Nat.reduceAdd, Nat.reduceSub, Nat.reduceMul, Nat.reduceLeDiff, Nat.reduceLT, Nat.one_ne_zero, Nat.zero_ne_one, reduceIte, reduceCtorEq, bne_self_eq_false, decide_true, decide_false, Int.reduceToNat, Int.cast_ofNat_Int, Int.reduceLT, Int.reduceLE, Int.reduceEq, Int.reduceNeg, Int.reduceAdd, Int.reduceSub, f0, f1, f2, f7, c1, c2, hw, hw2, tLin, List.getElem?_map, hx, hy, tTerm, h]))
      · exact h2 (by simp only [vLin]; rw [if_pos (by omega)]) _ (fget_same _ _ _)
      · exact h2 (by simp only [vLin]; rw [if_pos (by omega)]) _ (fget_same _ _ _)
      · exact h2 (by simp only [vLin]; rw [if_pos (by omega)]) _ (fget_same _ _ _)
      · exact h2 (by simp only [vLin]; rw [if_pos (by omega)]) _ (fget_same _ _ _)
      · exact h2 (by simp only [vLin]; rw [if_pos (by omega)]) _ (fget_same _ _ _)
      · have hv : vLin p n last (x :: r) = vLin p n x.1 r := by simp only [vLin]; rw [if_neg (by omega)]
        rw [hv] at h1 h2
        exact ih (i + 1) x.1 _ hr (.inr ⟨x, by omega, by simpa using hx, rfl, by omega⟩) (by simp only [FrAt_cons, FrAt_nil, wFr, Nat.reduceEqDiff, Nat.one_ne_zero, Nat.zero_ne_one, reduceIte, and_self, and_true, true_and, f0, f1, f2]) h1 h2
theorem ok58 (p n : Int) (l : Lin) (hl : l.2.length ≤ 281474976710656) {K : PV → Prop} : XcP F gl 58 [.int .u64 p, tLin l, .int .i64 n] K ⟨⟩ ↔ K (.t (.bool (vLin p n (-1) l.2))) := by
  refine Ret.iff (Ret.of F58 rfl ?_)
  simp only [ir58]
  simp only [wCo, wFr, wOp, wBi, wLst, wLog, xB_other, Nat.reduceBEq, unT, loadP, storeP, partP, partT, partV, cellsP, mkAgg, allT, setRange, fillP, fieldA, indexS, indexA, indexV, indexStr, elems, lenP, pickV, cviV, nckV, extV, isNil, bound, close, close1, aft, retV, retSl, Go.Pi.one, eqT, eqs, eq1, Nat.reduceEqDiff, Nat.reduceAdd, Nat.reduceSub, Nat.reduceMul, Nat.reduceLeDiff, Nat.reduceLT, Nat.one_ne_zero, Nat.zero_ne_one, reduceIte, reduceCtorEq, bne_self_eq_false, decide_true, decide_false, Int.reduceToNat, Int.cast_ofNat_Int, Int.reduceLT, Int.reduceLE, Int.reduceEq, Int.reduceNeg, Int.reduceAdd, Int.reduceSub]
  repeat' ((with_reducible first | refine xG_dec ?_ ?_ | refine xG_ndec ?_ ?_ | refine xG_nsplit ?_ ?_ | refine xG_split ?_ ?_ | refine xC_dec ?_ ?_ | refine xC_ndec ?_ ?_ | refine xC_nsplit ?_ ?_ | refine xC_split ?_ ?_) <;> intro h <;> (try simp only [wCo, wFr, wOp, wBi, wLst, wLog, xB_other, Nat.reduceBEq, unT, loadP, storeP, partP, partT, partV, cellsP, mkAgg, allT, setRange, fillP, fieldA, indexS, indexA, indexV, indexStr, elems, lenP, pickV, cviV, nckV, extV, isNil, bound, close, close1, aft, retV, retSl, Go.Pi.one, eqT, eqs, eq1, Nat.reduceEqDiff, Nat.reduceAdd, Nat.reduceSub, Nat.reduceMul, Nat.reduceLeDiff, Nat.reduceLT, Nat.one_ne_zero, Nat.zero_ne_one, reduceIte, reduceCtorEq, bne_self_eq_false, decide_true, decide_false, Int.reduceToNat, Int.cast_ofNat_Int, Int.reduceLT, Int.reduceLE, Int.reduceEq, Int.reduceNeg, Int.reduceAdd, Int.reduceSub, h]))
  refine loop58 p n l.1 l.2 hl _ _ _ l.2 0 (-1) _ rfl (.inl ⟨rfl, rfl⟩) ?_ ?_ ?_
  · simp only [FrAt_cons, FrAt_nil, wFr, Nat.reduceEqDiff, Nat.one_ne_zero, Nat.zero_ne_one, reduceIte, and_self, and_true, true_and]
  · intro hv fr'
    simp only [wCo, wFr, wOp, wBi, wLst, wLog, xB_other, Nat.reduceBEq, unT, loadP, storeP, partP, partT, partV, cellsP, mkAgg, allT, setRange, fillP, fieldA, indexS, indexA, indexV, indexStr, elems, lenP, pickV, cviV, nckV, extV, isNil, bound, close, close1, aft, retV, retSl, Go.Pi.one, eqT, eqs, eq1, Nat.reduceEqDiff, Nat.reduceAdd, Nat.reduceSub, Nat.reduceMul, Nat.reduceLeDiff, Nat.reduceLT, Nat.one_ne_zero, Nat.zero_ne_one, reduceIte, reduceCtorEq, bne_self_eq_false, decide_true, decide_false, Int.reduceToNat, Int.cast_ofNat_Int, Int.reduceLT, Int.reduceLE, Int.reduceEq, Int.reduceNeg, Int.reduceAdd, Int.reduceSub, hv]
    repeat' ((with_reducible first | refine xG_dec ?_ ?_ | refine xG_ndec ?_ ?_ | refine xG_nsplit ?_ ?_ | refine xG_split ?_ ?_ | refine xC_dec ?_ ?_ | refine xC_ndec ?_ ?_ | refine xC_nsplit ?_ ?_ | refine xC_split ?_ ?_) <;> intro h <;> (try simp only [wCo, wFr, wOp, wBi, wLst, wLog, xB_other, Nat.reduceBEq, unT, loadP, storeP, partP, partT, partV, cellsP, mkAgg, allT, setRange, fillP, fieldA, indexS, indexA, indexV, indexStr, elems, lenP, pickV, cviV, nckV, extV, isNil, bound, close, close1, aft, retV, retSl, Go.Pi.one, eqT, eqs, eq1, Nat.reduceEqDiff, Nat.reduceAdd, Nat.reduceSub, Nat.reduceMul, Nat.reduceLeDiff, Nat.reduceLT, Nat.one_ne_zero, Nat.zero_ne_one, reduceIte, reduceCtorEq, bne_self_eq_false, decide_true, decide_false, Int.reduceToNat, Int.cast_ofNat_Int, Int.reduceLT, Int.reduceLE, Int.reduceEq, Int.reduceNeg, Int.reduceAdd, Int.reduceSub, hv, h]))
  · intro hv fr' hf
    simp only [wCo, wFr, wOp, wBi, wLst, wLog, xB_other, Nat.reduceBEq, unT, loadP, storeP, partP, partT, partV, cellsP, mkAgg, allT, setRange, fillP, fieldA, indexS, indexA, indexV, indexStr, elems, lenP, pickV, cviV, nckV, extV, isNil, bound, close, close1, aft, retV, retSl, Go.Pi.one, eqT, eqs, eq1, Nat.reduceEqDiff, Nat.reduceAdd, Nat.reduceSub, Nat.reduceMul, Nat.reduceLeDiff, Nat.reduceLT, Nat.one_ne_zero, Nat.zero_ne_one, reduceIte, reduceCtorEq, bne_self_eq_false, decide_true, decide_false, Int.reduceToNat, Int.cast_ofNat_Int, Int.reduceLT, Int.reduceLE, Int.reduceEq, Int.reduceNeg, Int.reduceAdd, Int.reduceSub, hv, hf]
    repeat' ((with_reducible first | refine xG_dec ?_ ?_ | refine xG_ndec ?_ ?_ | refine xG_nsplit ?_ ?_ | refine xG_split ?_ ?_ | refine xC_dec ?_ ?_ | refine xC_ndec ?_ ?_ | refine xC_nsplit ?_ ?_ | refine xC_split ?_ ?_) <;> intro h <;> (try simp only [wCo, wFr, wOp, wBi, wLst, wLog, xB_other, Nat.reduceBEq, unT, loadP, storeP, partP, partT, partV, cellsP, mkAgg, allT, setRange, fillP, fieldA, indexS, indexA, indexV, indexStr, elems, lenP, pickV, cviV, nckV, extV, isNil, bound, close, close1, aft, retV, retSl, Go.Pi.one, eqT, eqs, eq1, Nat.reduceEqDiff, Nat.reduceAdd, Nat.reduceSub, Nat.reduceMul, Nat.reduceLeDiff, Nat.reduceLT, Nat.one_ne_zero, Nat.zero_ne_one, reduceIte, reduceCtorEq, bne_self_eq_false, decide_true, decide_false, Int.reduceToNat, Int.cast_ofNat_Int, Int.reduceLT, Int.reduceLE, Int.reduceEq, Int.reduceNeg, Int.reduceAdd, Int.reduceSub, hv, hf, h]))
def rowOk (r : Row) : Prop := r.1.2.length ≤ 281474976710656 ∧ r.2.1.2.length ≤ 281474976710656 ∧ r.2.2.2.length ≤ 281474976710656
def vRow (p vars : Int) (r : Row) : Bool := vLin p vars (-1) r.1.2 && vLin p vars (-1) r.2.1.2 && vLin p vars (-1) r.2.2.2
theorem ok30 (t : Tab) (r : Row) (hr : rowOk r) {K : PV → Prop} : XcP F gl 30 [tTab t, .agg (tRow r)] K ⟨⟩ ↔ K (.t (.bool (vRow t.p t.vars r))) := by
  obtain ⟨h1, h2, h3⟩ := hr
  have a1 := @ok56 gl t r.1 h1
  have a2 := @ok56 gl t r.2.1 h2
  have a3 := @ok56 gl t r.2.2 h3
  refine Ret.iff (Ret.of F30 rfl ?_)
  simp only [ir30]
  unfold tTab tCells at a1 a2 a3
  simp only [wCo, wFr, wOp, wBi, wLst, wLog, xB_other, Nat.reduceBEq, unT, loadP, storeP, partP, partT, partV, cellsP, mkAgg, allT, setRange, fillP, fieldA, indexS, indexA, indexV, indexStr, elems, lenP, pickV, cviV, nckV, extV, isNil, bound, close, close1, aft, retV, retSl, Go.Pi.one, eqT, eqs, eq1, Nat.reduceEqDiff, Nat.reduceAdd, Nat.reduceSub, Nat.reduceMul, Nat.reduceLeDiff, Nat.reduceLT, Nat.one_ne_zero, Nat.zero_ne_one, reduceIte, reduceCtorEq, bne_self_eq_false, decide_true, decide_false, Int.reduceToNat, Int.cast_ofNat_Int, Int.reduceLT, Int.reduceLE, Int.reduceEq, Int.reduceNeg, Int.reduceAdd, Int.reduceSub, a1, a2, a3, tTab, tCells, tRow]
  repeat' ((with_reducible first | refine xG_dec ?_ ?_ | refine xG_ndec ?_ ?_ | refine xG_nsplit ?_ ?_ | refine xG_split ?_ ?_ | refine xC_dec ?_ ?_ | refine xC_ndec ?_ ?_ | refine xC_nsplit ?_ ?_ | refine xC_split ?_ ?_) <;> intro h <;> (try simp only [wCo, wFr, wOp, wBi, wLst, wLog, xB_other, Nat.reduceBEq, unT, loadP, storeP, partP, partT, partV, cellsP, mkAgg, allT, setRange, fillP, fieldA, indexS, indexA, indexV, indexStr, elems, lenP, pickV, cviV, nckV, extV, isNil, bound, close, close1, aft, retV, retSl, Go.Pi.one, eqT, eqs, eq1, Nat.reduceEqDiff, Nat.reduceAdd, Nat.reduceSub, Nat.reduceMul, Nat.reduceLeDiff, Nat.reduceLT, Nat.one_ne_zero, Nat.zero_ne_one, reduceIte, reduceCtorEq, bne_self_eq_false, decide_true, decide_false, Int.reduceToNat, Int.cast_ofNat_Int, Int.reduceLT, Int.reduceLE, Int.reduceEq, Int.reduceNeg, Int.reduceAdd, Int.reduceSub, a1, a2, a3, tTab, tCells, tRow, h]))
  all_goals simp_all [vRow]
theorem ok32 (t : Tab) (r : Row) (hr : rowOk r) {K : PV → Prop} : XcP F gl 32 [tTab t, .agg (tRow r)] K ⟨⟩ ↔ K (.t (.bool (vRow t.p t.vars r))) := by
  obtain ⟨h1, h2, h3⟩ := hr
  refine Ret.iff (Ret.of F32 rfl ?_)
  simp only [ir32]
  simp only [wCo, wFr, wOp, wBi, wLst, wLog, xB_other, Nat.reduceBEq, unT, loadP, storeP, partP, partT, partV, cellsP, mkAgg, allT, setRange, fillP, fieldA, indexS, indexA, indexV, indexStr, elems, lenP, pickV, cviV, nckV, extV, isNil, bound, close, close1, aft, retV, retSl, Go.Pi.one, eqT, eqs, eq1, Nat.reduceEqDiff, Nat.reduceAdd, Nat.reduceSub, Nat.reduceMul, Nat.reduceLeDiff, Nat.reduceLT, Nat.one_ne_zero, Nat.zero_ne_one, reduceIte, reduceCtorEq, bne_self_eq_false, decide_true, decide_false, Int.reduceToNat, Int.cast_ofNat_Int, Int.reduceLT, Int.reduceLE, Int.reduceEq, Int.reduceNeg, Int.reduceAdd, Int.reduceSub, ok58 _ _ _ h1, ok58 _ _ _ h2, ok58 _ _ _ h3, tTab, tCells, tRow]
  repeat' ((with_reducible first | refine xG_dec ?_ ?_ | refine xG_ndec ?_ ?_ | refine xG_nsplit ?_ ?_ | refine xG_split ?_ ?_ | refine xC_dec ?_ ?_ | refine xC_ndec ?_ ?_ | refine xC_nsplit ?_ ?_ | refine xC_split ?_ ?_) <;> intro h <;> (try simp only [wCo, wFr, wOp, wBi, wLst, wLog, xB_other, Nat.reduceBEq, unT, loadP, storeP, partP, partT, partV, cellsP, mkAgg, allT, setRange, fillP, fieldA, indexS, indexA, indexV, indexStr, elems, lenP, pickV, cviV, nckV, extV, isNil, bound, close, close1, aft, retV, retSl, Go.Pi.one, eqT, eqs, eq1, Nat.reduceEqDiff, Nat.reduceAdd, Nat.reduceSub, Nat.reduceMul, Nat.reduceLeDiff, Nat.reduceLT, Nat.one_ne_zero, Nat.zero_ne_one, reduceIte, reduceCtorEq, bne_self_eq_false, decide_true, decide_false, Int.reduceToNat, Int.cast_ofNat_Int, Int.reduceLT, Int.reduceLE, Int.reduceEq, Int.reduceNeg, Int.reduceAdd, Int.reduceSub, ok58 _ _ _ h1, ok58 _ _ _ h2, ok58 _ _ _ h3, tTab, tCells, tRow, h]))
  all_goals simp_all [vRow]

def vRows (p vars : Int) : List Row → Bool
  | [] => true
  | r :: rs => vRow p vars r && vRows p vars rs
structure TabOk (t : Tab) : Prop where
  len : t.rows.length ≤ 281474976710656
  rows : ∀ r, r ∈ t.rows → rowOk r
theorem loop12 (t : Tab) (ht : TabOk t) (ow : Ow) (Q : Ex → S → Prop) : ∀ (rest : List Row) (i : Nat) (fr : List PV) (j : Sg), t.rows.drop i = rest →
    FrAt fr [(1, .lp 0 0), (15, .t (.sl t.nl (t.rows.map tRow))), (16, .t (.int .i64 t.rows.length)), (17, .t (.int .i64 i))] →
    (vRows t.p t.vars rest = true → ∀ fr' j', Q (.exit 0) ⟨fr', (false, (tCells t).map .t) :: j', ow⟩) →
    (vRows t.p t.vars rest = false → ∀ fr' j', fget fr' 2 = .t (.bool false) → Q .ret ⟨fr', (false, (tCells t).map .t) :: j', ow⟩) →
    Xl F gl lb12_0 ⟨fr, (false, (tCells t).map .t) :: j, ow⟩ Q ⟨⟩ := by
  intro rest
  induction rest with
  | nil =>
    intro i fr j hd hf h1 h2
    have hd := drop_nil' hd
    simp only [FrAt_cons, FrAt_nil] at hf
    obtain ⟨f1, f15, f16, f17, -⟩ := hf
    refine Xl.step ?_
    simp only [lb12_0]
    have c1 : ¬ ((i : Int) < (t.rows.length : Int)) := by omega
    simp only [wCo, wFr, wOp, wBi, wLst, wLog, xB_other, Nat.reduceBEq, unT, loadP, storeP, partP, partT, partV, cellsP, mkAgg, allT, setRange, fillP, fieldA, indexS, indexA, indexV, indexStr, elems, lenP, pickV, cviV, nckV, extV, isNil, bound, close, close1, aft, retV, retSl, Go.Pi.one, eqT, eqs, eq1, Nat.reduceEqDiff, Nat.reduceAdd, Nat.reduceSub, Nat.reduceMul, Nat.reduceLeDiff, Nat.reduceLT, Nat.one_ne_zero, Nat.zero_ne_one, reduceIte, reduceCtorEq, bne_self_eq_false, decide_true, decide_false, Int.reduceToNat, Int.cast_ofNat_Int, Int.reduceLT, Int.reduceLE, Int.reduceEq, Int.reduceNeg, Int.reduceAdd, Int.reduceSub, f16, f17, c1]
    repeat' ((with_reducible first | refine xG_dec ?_ ?_ | refine xG_ndec ?_ ?_ | refine xG_nsplit ?_ ?_ | refine xG_split ?_ ?_ | refine xC_dec ?_ ?_ | refine xC_ndec ?_ ?_ | refine xC_nsplit ?_ ?_ | refine xC_split ?_ ?_) <;> intro h <;> (try simp only [wCo, wFr, wOp, wBi, wLst, wLog, xB_other, Nat.reduceBEq, unT, loadP, storeP, partP, partT, partV, cellsP, mkAgg, allT, setRange, fillP, fieldA, indexS, indexA, indexV, indexStr, elems, lenP, pickV, cviV, nckV, extV, isNil, bound, close, close1, aft, retV, retSl, Go.Pi.one, eqT, eqs, eq1, Nat.reduceEqDiff, Nat.reduceAdd, Nat.reduceSub, Nat.reduceMul, Nat.reduceLeDiff, Nat.reduceLT, Nat.one_ne_zero, Nat.zero_ne_one, reduceIte, reduceCtorEq, bne_self_eq_false, decide_true, decide_false, Int.reduceToNat, Int.cast_ofNat_Int, Int.reduceLT, Int.reduceLE, Int.reduceEq, Int.reduceNeg, Int.reduceAdd, Int.reduceSub, f16, f17, c1, h]))
    exact h1 rfl _ _
  | cons x r ih =>
    intro i fr j hd hf h1 h2
    obtain ⟨hx, hr, hi⟩ := drop_cons hd
    simp only [FrAt_cons, FrAt_nil] at hf
    obtain ⟨f1, f15, f16, f17, -⟩ := hf
    have hlen := ht.len
    have a := @ok30 gl t x (ht.rows x (List.mem_of_getElem? hx))
    simp only [tTab, tCells, tRow, tLin] at a
    refine Xl.step ?_
    simp only [lb12_0]
    have c1 : (i : Int) < (t.rows.length : Int) := by omega
    have hw : IntKind.wrap .i64 ((i : Int) + 1) = ((i + 1 : Nat) : Int) := by rw [IntWalk.i64_in _ (by omega)]; omega
    simp only [wCo, wFr, wOp, wBi, wLst, wLog, xB_other, Nat.reduceBEq, unT, loadP, storeP, partP, partT, partV, cellsP, mkAgg, allT, setRange, fillP, fieldA, indexS, indexA, indexV, indexStr, elems, lenP, pickV, cviV, nckV, extV, isNil, bound, close, close1, aft, retV, retSl, Go.Pi.one, eqT, eqs, eq1, Nat.reduceEqDiff, Nat.reduceAdd, Nat.reduceSub, Nat.reduceMul, Nat.reduceLeDiff, Nat.reduceLT, Nat.one_ne_zero, Nat.zero_ne_one, reduceIte, reduceCtorEq, bne_self_eq_false, decide_true, decide_false, Int.reduceToNat, Int.cast_ofNat_Int, Int.reduceLT, Int.reduceLE, Int.reduceEq, Int.reduceNeg, Int.reduceAdd, Int.reduceSub, f1, f15, f16, f17, c1, hw, List.getElem?_map, hx, tRow, tCells, tLin, a]
    repeat' ((with_reducible first | refine xG_dec ?_ ?_ | refine xG_ndec ?_ ?_ | refine xG_nsplit ?_ ?_ | refine xG_split ?_ ?_ | refine xC_dec ?_ ?_ | refine xC_ndec ?_ ?_ | refine xC_nsplit ?_ ?_ | refine xC_split ?_ ?_) <;> intro h <;> (try simp only [wCo, wFr, wOp, wBi, wLst, wLog, xB_other, Nat.reduceBEq, unT, loadP, storeP, partP, partT, partV, cellsP, mkAgg, allT, setRange, fillP, fieldA, indexS, indexA, indexV, indexStr, elems, lenP, pickV, cviV, nckV, extV, isNil, bound, close, close1, aft, retV, retSl, Go.Pi.one, eqT, eqs, eq1, Nat.reduceEqDiff, Nat.reduceAdd, Nat.reduceSub, Nat.reduceMul, Nat.reduceLeDiff, Nat.reduceLT, Nat.one_ne_zero, Nat.zero_ne_one, reduceIte, reduceCtorEq, bne_self_eq_false, decide_true, decide_false, Int.reduceToNat, Int.cast_ofNat_Int, Int.reduceLT, Int.reduceLE, Int.reduceEq, Int.reduceNeg, Int.reduceAdd, Int.reduceSub, f1, f15, f16, f17, c1, hw, List.getElem?_map, hx, tRow, tCells, tLin, a, h]))
    · have hv : vRows t.p t.vars (x :: r) = vRows t.p t.vars r := by simp only [vRows, h, Bool.true_and]
      rw [hv] at h1 h2
      exact ih (i + 1) _ _ hr (by simp only [FrAt_cons, FrAt_nil, wFr, Nat.reduceEqDiff, Nat.one_ne_zero, Nat.zero_ne_one, reduceIte, and_self, and_true, true_and, f1, f15, f16]) h1 h2
    · exact h2 (by simp only [vRows, h, Bool.false_and]) _ _ (fget_same _ _ _)
def vTab (t : Tab) : Bool := known t.p && decide (0 ≤ t.pub) && decide (t.pub < t.vars) && decide (t.vars ≤ 65536) && decide (t.rows.length ≤ 16384) && vRows t.p t.vars t.rows
theorem ok12 (t : Tab) (ht : TabOk t) {K : PV → Prop} : XcP F gl 12 [tTab t] K ⟨⟩ ↔ K (.t (.bool (vTab t))) := by
  have a := @ok29 gl t
  simp only [tTab, tCells] at a
  refine Ret.iff (Ret.of F12 rfl ?_)
  simp only [ir12]
  simp only [wCo, wFr, wOp, wBi, wLst, wLog, xB_other, Nat.reduceBEq, unT, loadP, storeP, partP, partT, partV, cellsP, mkAgg, allT, setRange, fillP, fieldA, indexS, indexA, indexV, indexStr, elems, lenP, pickV, cviV, nckV, extV, isNil, bound, close, close1, aft, retV, retSl, Go.Pi.one, eqT, eqs, eq1, Nat.reduceEqDiff, Nat.reduceAdd, Nat.reduceSub, Nat.reduceMul, Nat.reduceLeDiff, Nat.reduceLT, Nat.one_ne_zero, Nat.zero_ne_one, reduceIte, reduceCtorEq, bne_self_eq_false, decide_true, decide_false, Int.reduceToNat, Int.cast_ofNat_Int, Int.reduceLT, Int.reduceLE, Int.reduceEq, Int.reduceNeg, Int.reduceAdd, Int.reduceSub, tTab, tCells, a]
  cases hv : (known t.p && decide (0 ≤ t.pub) && decide (t.pub < t.vars) && decide (t.vars ≤ 65536)) with
  | false =>
    simp only [wCo, wFr, wOp, wBi, wLst, wLog, xB_other, Nat.reduceBEq, unT, loadP, storeP, partP, partT, partV, cellsP, mkAgg, allT, setRange, fillP, fieldA, indexS, indexA, indexV, indexStr, elems, lenP, pickV, cviV, nckV, extV, isNil, bound, close, close1, aft, retV, retSl, Go.Pi.one, eqT, eqs, eq1, Nat.reduceEqDiff, Nat.reduceAdd, Nat.reduceSub, Nat.reduceMul, Nat.reduceLeDiff, Nat.reduceLT, Nat.one_ne_zero, Nat.zero_ne_one, reduceIte, reduceCtorEq, bne_self_eq_false, decide_true, decide_false, Int.reduceToNat, Int.cast_ofNat_Int, Int.reduceLT, Int.reduceLE, Int.reduceEq, Int.reduceNeg, Int.reduceAdd, Int.reduceSub]
    repeat' ((with_reducible first | refine xG_dec ?_ ?_ | refine xG_ndec ?_ ?_ | refine xG_nsplit ?_ ?_ | refine xG_split ?_ ?_ | refine xC_dec ?_ ?_ | refine xC_ndec ?_ ?_ | refine xC_nsplit ?_ ?_ | refine xC_split ?_ ?_) <;> intro h <;> (try simp only [wCo, wFr, wOp, wBi, wLst, wLog, xB_other, Nat.reduceBEq, unT, loadP, storeP, partP, partT, partV, cellsP, mkAgg, allT, setRange, fillP, fieldA, indexS, indexA, indexV, indexStr, elems, lenP, pickV, cviV, nckV, extV, isNil, bound, close, close1, aft, retV, retSl, Go.Pi.one, eqT, eqs, eq1, Nat.reduceEqDiff, Nat.reduceAdd, Nat.reduceSub, Nat.reduceMul, Nat.reduceLeDiff, Nat.reduceLT, Nat.one_ne_zero, Nat.zero_ne_one, reduceIte, reduceCtorEq, bne_self_eq_false, decide_true, decide_false, Int.reduceToNat, Int.cast_ofNat_Int, Int.reduceLT, Int.reduceLE, Int.reduceEq, Int.reduceNeg, Int.reduceAdd, Int.reduceSub, h]))
    simp only [vTab, hv, Bool.false_and]
  | true =>
    simp only [wCo, wFr, wOp, wBi, wLst, wLog, xB_other, Nat.reduceBEq, unT, loadP, storeP, partP, partT, partV, cellsP, mkAgg, allT, setRange, fillP, fieldA, indexS, indexA, indexV, indexStr, elems, lenP, pickV, cviV, nckV, extV, isNil, bound, close, close1, aft, retV, retSl, Go.Pi.one, eqT, eqs, eq1, Nat.reduceEqDiff, Nat.reduceAdd, Nat.reduceSub, Nat.reduceMul, Nat.reduceLeDiff, Nat.reduceLT, Nat.one_ne_zero, Nat.zero_ne_one, reduceIte, reduceCtorEq, bne_self_eq_false, decide_true, decide_false, Int.reduceToNat, Int.cast_ofNat_Int, Int.reduceLT, Int.reduceLE, Int.reduceEq, Int.reduceNeg, Int.reduceAdd, Int.reduceSub]
    repeat' ((with_reducible first | refine xG_dec ?_ ?_ | refine xG_ndec ?_ ?_ | refine xG_nsplit ?_ ?_ | refine xG_split ?_ ?_ | refine xC_dec ?_ ?_ | refine xC_ndec ?_ ?_ | refine xC_nsplit ?_ ?_ | refine xC_split ?_ ?_) <;> intro h <;> (try simp only [wCo, wFr, wOp, wBi, wLst, wLog, xB_other, Nat.reduceBEq, unT, loadP, storeP, partP, partT, partV, cellsP, mkAgg, allT, setRange, fillP, fieldA, indexS, indexA, indexV, indexStr, elems, lenP, pickV, cviV, nckV, extV, isNil, bound, close, close1, aft, retV, retSl, Go.Pi.one, eqT, eqs, eq1, Nat.reduceEqDiff, Nat.reduceAdd, Nat.reduceSub, Nat.reduceMul, Nat.reduceLeDiff, Nat.reduceLT, Nat.one_ne_zero, Nat.zero_ne_one, reduceIte, reduceCtorEq, bne_self_eq_false, decide_true, decide_false, Int.reduceToNat, Int.cast_ofNat_Int, Int.reduceLT, Int.reduceLE, Int.reduceEq, Int.reduceNeg, Int.reduceAdd, Int.reduceSub, h]))
    · have : ¬ (t.rows.length ≤ 16384) := by omega
      simp only [vTab, this, decide_false, Bool.and_false, Bool.false_and]
    · have hle : t.rows.length ≤ 16384 := by omega
      refine loop12 t ht _ _ t.rows 0 _ [] rfl ?_ ?_ ?_
      · simp only [FrAt_cons, FrAt_nil, wFr, Nat.reduceEqDiff, Nat.one_ne_zero, Nat.zero_ne_one, reduceIte, and_self, and_true, true_and]
      · intro hr fr' j'
        simp only [wCo, wFr, wOp, wBi, wLst, wLog, xB_other, Nat.reduceBEq, unT, loadP, storeP, partP, partT, partV, cellsP, mkAgg, allT, setRange, fillP, fieldA, indexS, indexA, indexV, indexStr, elems, lenP, pickV, cviV, nckV, extV, isNil, bound, close, close1, aft, retV, retSl, Go.Pi.one, eqT, eqs, eq1, Nat.reduceEqDiff, Nat.reduceAdd, Nat.reduceSub, Nat.reduceMul, Nat.reduceLeDiff, Nat.reduceLT, Nat.one_ne_zero, Nat.zero_ne_one, reduceIte, reduceCtorEq, bne_self_eq_false, decide_true, decide_false, Int.reduceToNat, Int.cast_ofNat_Int, Int.reduceLT, Int.reduceLE, Int.reduceEq, Int.reduceNeg, Int.reduceAdd, Int.reduceSub]
        repeat' ((with_reducible first | refine xG_dec ?_ ?_ | refine xG_ndec ?_ ?_ | refine xG_nsplit ?_ ?_ | refine xG_split ?_ ?_ | refine xC_dec ?_ ?_ | refine xC_ndec ?_ ?_ | refine xC_nsplit ?_ ?_ | refine xC_split ?_ ?_) <;> intro h <;> (try simp only [wCo, wFr, wOp, wBi, wLst, wLog, xB_other, Nat.reduceBEq, unT, loadP, storeP, partP, partT, partV, cellsP, mkAgg, allT, setRange, fillP, fieldA, indexS, indexA, indexV, indexStr, elems, lenP, pickV, cviV, nckV, extV, isNil, bound, close, close1, aft, retV, retSl, Go.Pi.one, eqT, eqs, eq1, Nat.reduceEqDiff, Nat.reduceAdd, Nat.reduceSub, Nat.reduceMul, Nat.reduceLeDiff, Nat.reduceLT, Nat.one_ne_zero, Nat.zero_ne_one, reduceIte, reduceCtorEq, bne_self_eq_false, decide_true, decide_false, Int.reduceToNat, Int.cast_ofNat_Int, Int.reduceLT, Int.reduceLE, Int.reduceEq, Int.reduceNeg, Int.reduceAdd, Int.reduceSub, h]))
        simp only [vTab, hv, hr, hle, decide_true, Bool.and_self]
      · intro hr fr' j' hf
        simp only [wCo, wFr, wOp, wBi, wLst, wLog, xB_other, Nat.reduceBEq, unT, loadP, storeP, partP, partT, partV, cellsP, mkAgg, allT, setRange, fillP, fieldA, indexS, indexA, indexV, indexStr, elems, lenP, pickV, cviV, nckV, extV, isNil, bound, close, close1, aft, retV, retSl, Go.Pi.one, eqT, eqs, eq1, Nat.reduceEqDiff, Nat.reduceAdd, Nat.reduceSub, Nat.reduceMul, Nat.reduceLeDiff, Nat.reduceLT, Nat.one_ne_zero, Nat.zero_ne_one, reduceIte, reduceCtorEq, bne_self_eq_false, decide_true, decide_false, Int.reduceToNat, Int.cast_ofNat_Int, Int.reduceLT, Int.reduceLE, Int.reduceEq, Int.reduceNeg, Int.reduceAdd, Int.reduceSub, hf]
        repeat' ((with_reducible first | refine xG_dec ?_ ?_ | refine xG_ndec ?_ ?_ | refine xG_nsplit ?_ ?_ | refine xG_split ?_ ?_ | refine xC_dec ?_ ?_ | refine xC_ndec ?_ ?_ | refine xC_nsplit ?_ ?_ | refine xC_split ?_ ?_) <;> intro h <;> (try simp only [wCo, wFr, wOp, wBi, wLst, wLog, xB_other, Nat.reduceBEq, unT, loadP, storeP, partP, partT, partV, cellsP, mkAgg, allT, setRange, fillP, fieldA, indexS, indexA, indexV, indexStr, elems, lenP, pickV, cviV, nckV, extV, isNil, bound, close, close1, aft, retV, retSl, Go.Pi.one, eqT, eqs, eq1, Nat.reduceEqDiff, Nat.reduceAdd, Nat.reduceSub, Nat.reduceMul, Nat.reduceLeDiff, Nat.reduceLT, Nat.one_ne_zero, Nat.zero_ne_one, reduceIte, reduceCtorEq, bne_self_eq_false, decide_true, decide_false, Int.reduceToNat, Int.cast_ofNat_Int, Int.reduceLT, Int.reduceLE, Int.reduceEq, Int.reduceNeg, Int.reduceAdd, Int.reduceSub, hf, h]))
        simp only [vTab, hv, hr, hle, decide_true, Bool.and_false]
theorem loop13 (t : Tab) (ht : TabOk t) (ow : Ow) (Q : Ex → S → Prop) : ∀ (rest : List Row) (i : Nat) (fr : List PV) (j : Sg), t.rows.drop i = rest →
    FrAt fr [(1, .lp 0 0), (3, .t (.int .i64 i))] →
    (vRows t.p t.vars rest = true → ∀ fr' j', Q (.exit 0) ⟨fr', (false, (tCells t).map .t) :: j', ow⟩) →
    (vRows t.p t.vars rest = false → ∀ fr' j', fget fr' 2 = .t (.bool false) → Q .ret ⟨fr', (false, (tCells t).map .t) :: j', ow⟩) →
    Xl F gl lb13_0 ⟨fr, (false, (tCells t).map .t) :: j, ow⟩ Q ⟨⟩ := by
  intro rest
  induction rest with
  | nil =>
    intro i fr j hd hf h1 h2
    have hd := drop_nil' hd
    simp only [FrAt_cons, FrAt_nil] at hf
    obtain ⟨f1, f3, -⟩ := hf
    refine Xl.step ?_
    simp only [lb13_0]
    have c1 : ¬ ((i : Int) < (t.rows.length : Int)) := by omega
    simp only [wCo, wFr, wOp, wBi, wLst, wLog, xB_other, Nat.reduceBEq, unT, loadP, storeP, partP, partT, partV, cellsP, mkAgg, allT, setRange, fillP, fieldA, indexS, indexA, indexV, indexStr, elems, lenP, pickV, cviV, nckV, extV, isNil, bound, close, close1, aft, retV, retSl, Go.Pi.one, eqT, eqs, eq1, Nat.reduceEqDiff, Nat.reduceAdd, Nat.reduceSub, Nat.reduceMul, Nat.reduceLeDiff, Nat.reduceLT, Nat.one_ne_zero, Nat.zero_ne_one, reduceIte, reduceCtorEq, bne_self_eq_false, decide_true, decide_false, Int.reduceToNat, Int.cast_ofNat_Int, Int.reduceLT, Int.reduceLE, Int.reduceEq, Int.reduceNeg, Int.reduceAdd, Int.reduceSub, f1, f3, c1, tCells]
    repeat' ((with_reducible first | refine xG_dec ?_ ?_ | refine xG_ndec ?_ ?_ | refine xG_nsplit ?_ ?_ | refine xG_split ?_ ?_ | refine xC_dec ?_ ?_ | refine xC_ndec ?_ ?_ | refine xC_nsplit ?_ ?_ | refine xC_split ?_ ?_) <;> intro h <;> (try simp only [wCo, wFr, wOp, wBi, wLst, wLog, xB_other, Nat.reduceBEq, unT, loadP, storeP, partP, partT, partV, cellsP, mkAgg, allT, setRange, fillP, fieldA, indexS, indexA, indexV, indexStr, elems, lenP, pickV, cviV, nckV, extV, isNil, bound, close, close1, aft, retV, retSl, Go.Pi.one, eqT, eqs, eq1, Nat.reduceEqDiff, Nat.reduceAdd, Nat.reduceSub, Nat.reduceMul, Nat.reduceLeDiff, Nat.reduceLT, Nat.one_ne_zero, Nat.zero_ne_one, reduceIte, reduceCtorEq, bne_self_eq_false, decide_true, decide_false, Int.reduceToNat, Int.cast_ofNat_Int, Int.reduceLT, Int.reduceLE, Int.reduceEq, Int.reduceNeg, Int.reduceAdd, Int.reduceSub, f1, f3, c1, tCells, h]))
    exact h1 rfl _ _
  | cons x r ih =>
    intro i fr j hd hf h1 h2
    obtain ⟨hx, hr, hi⟩ := drop_cons hd
    simp only [FrAt_cons, FrAt_nil] at hf
    obtain ⟨f1, f3, -⟩ := hf
    have hlen := ht.len
    have a := @ok32 gl t x (ht.rows x (List.mem_of_getElem? hx))
    simp only [tTab, tCells, tRow, tLin] at a
    refine Xl.step ?_
    simp only [lb13_0]
    have c1 : (i : Int) < (t.rows.length : Int) := by omega
    have hw : IntKind.wrap .i64 ((i : Int) + 1) = ((i + 1 : Nat) : Int) := by rw [IntWalk.i64_in _ (by omega)]; omega
    simp only [wCo, wFr, wOp, wBi, wLst, wLog, xB_other, Nat.reduceBEq, unT, loadP, storeP, partP, partT, partV, cellsP, mkAgg, allT, setRange, fillP, fieldA, indexS, indexA, indexV, indexStr, elems, lenP, pickV, cviV, nckV, extV, isNil, bound, close, close1, aft, retV, retSl, Go.Pi.one, eqT, eqs, eq1, Nat.reduceEqDiff, Nat.reduceAdd, Nat.reduceSub, Nat.reduceMul, Nat.reduceLeDiff, Nat.reduceLT, Nat.one_ne_zero, Nat.zero_ne_one, reduceIte, reduceCtorEq, bne_self_eq_false, decide_true, decide_false, Int.reduceToNat, Int.cast_ofNat_Int, Int.reduceLT, Int.reduceLE, Int.reduceEq, Int.reduceNeg, Int.reduceAdd, Int.reduceSub, f1, f3, c1, hw, List.getElem?_map, hx, tRow, tCells, tLin, a]
    repeat' ((with_reducible first | refine xG_dec ?_ ?_ | refine xG_ndec ?_ ?_ | refine xG_nsplit ?_ ?_ | refine xG_split ?_ ?_ | refine xC_dec ?_ ?_ | refine xC_ndec ?_ ?_ | refine xC_nsplit ?_ ?_ | refine xC_split ?_ ?_) <;> intro h <;> (try simp only [wCo, wFr, wOp, wBi, wLst, wLog, xB_other, Nat.reduceBEq, unT, loadP, storeP, partP, partT, partV, cellsP, mkAgg, allT, setRange, fillP, fieldA, indexS, indexA, indexV, indexStr, elems, lenP, pickV, cviV, nckV, extV, isNil, bound, close, close1, aft, retV, retSl, Go.Pi.one, eqT, eqs, eq1, Nat.reduceEqDiff, Nat.reduceAdd, Nat.reduceSub, Nat.reduceMul, Nat.reduceLeDiff, Nat.reduceLT, Nat.one_ne_zero, Nat.zero_ne_one, reduceIte, reduceCtorEq, bne_self_eq_false, decide_true, decide_false, Int.reduceToNat, Int.cast_ofNat_Int, Int.reduceLT, Int.reduceLE, Int.reduceEq, Int.reduceNeg, Int.reduceAdd, Int.reduceSub, f1, f3, c1, hw, List.getElem?_map, hx, tRow, tCells, tLin, a, h]))
    · have hv : vRows t.p t.vars (x :: r) = vRows t.p t.vars r := by simp only [vRows, h, Bool.true_and]
      rw [hv] at h1 h2
      exact ih (i + 1) _ _ hr (by simp only [FrAt_cons, FrAt_nil, wFr, Nat.reduceEqDiff, Nat.one_ne_zero, Nat.zero_ne_one, reduceIte, and_self, and_true, true_and, f1]) h1 h2
    · exact h2 (by simp only [vRows, h, Bool.false_and]) _ _ (fget_same _ _ _)
theorem ok13 (t : Tab) (ht : TabOk t) {K : PV → Prop} : XcP F gl 13 [tTab t] K ⟨⟩ ↔ K (.t (.bool (vTab t))) := by
  refine Ret.iff (Ret.of F13 rfl ?_)
  simp only [ir13]
  simp only [wCo, wFr, wOp, wBi, wLst, wLog, xB_other, Nat.reduceBEq, unT, loadP, storeP, partP, partT, partV, cellsP, mkAgg, allT, setRange, fillP, fieldA, indexS, indexA, indexV, indexStr, elems, lenP, pickV, cviV, nckV, extV, isNil, bound, close, close1, aft, retV, retSl, Go.Pi.one, eqT, eqs, eq1, Nat.reduceEqDiff, Nat.reduceAdd, Nat.reduceSub, Nat.reduceMul, Nat.reduceLeDiff, Nat.reduceLT, Nat.one_ne_zero, Nat.zero_ne_one, reduceIte, reduceCtorEq, bne_self_eq_false, decide_true, decide_false, Int.reduceToNat, Int.cast_ofNat_Int, Int.reduceLT, Int.reduceLE, Int.reduceEq, Int.reduceNeg, Int.reduceAdd, Int.reduceSub, tTab, tCells, ok31]
  repeat' ((with_reducible first | refine xG_dec ?_ ?_ | refine xG_ndec ?_ ?_ | refine xG_nsplit ?_ ?_ | refine xG_split ?_ ?_ | refine xC_dec ?_ ?_ | refine xC_ndec ?_ ?_ | refine xC_nsplit ?_ ?_ | refine xC_split ?_ ?_) <;> intro h <;> (try simp only [wCo, wFr, wOp, wBi, wLst, wLog, xB_other, Nat.reduceBEq, unT, loadP, storeP, partP, partT, partV, cellsP, mkAgg, allT, setRange, fillP, fieldA, indexS, indexA, indexV, indexStr, elems, lenP, pickV, cviV, nckV, extV, isNil, bound, close, close1, aft, retV, retSl, Go.Pi.one, eqT, eqs, eq1, Nat.reduceEqDiff, Nat.reduceAdd, Nat.reduceSub, Nat.reduceMul, Nat.reduceLeDiff, Nat.reduceLT, Nat.one_ne_zero, Nat.zero_ne_one, reduceIte, reduceCtorEq, bne_self_eq_false, decide_true, decide_false, Int.reduceToNat, Int.cast_ofNat_Int, Int.reduceLT, Int.reduceLE, Int.reduceEq, Int.reduceNeg, Int.reduceAdd, Int.reduceSub, tTab, tCells, ok31, h]))
  · simp [vTab]; intros; omega
  · simp [vTab]; intros; omega
  · simp [vTab]; intros; omega
  · simp [vTab]; intros; omega
  · rename_i h1 h2 h3 h4
    refine loop13 t ht _ _ t.rows 0 _ [] rfl ?_ ?_ ?_
    · simp only [FrAt_cons, FrAt_nil, wFr, Nat.reduceEqDiff, Nat.one_ne_zero, Nat.zero_ne_one, reduceIte, and_self, and_true, true_and]
    · intro hr fr' j'
      simp only [wCo, wFr, wOp, wBi, wLst, wLog, xB_other, Nat.reduceBEq, unT, loadP, storeP, partP, partT, partV, cellsP, mkAgg, allT, setRange, fillP, fieldA, indexS, indexA, indexV, indexStr, elems, lenP, pickV, cviV, nckV, extV, isNil, bound, close, close1, aft, retV, retSl, Go.Pi.one, eqT, eqs, eq1, Nat.reduceEqDiff, Nat.reduceAdd, Nat.reduceSub, Nat.reduceMul, Nat.reduceLeDiff, Nat.reduceLT, Nat.one_ne_zero, Nat.zero_ne_one, reduceIte, reduceCtorEq, bne_self_eq_false, decide_true, decide_false, Int.reduceToNat, Int.cast_ofNat_Int, Int.reduceLT, Int.reduceLE, Int.reduceEq, Int.reduceNeg, Int.reduceAdd, Int.reduceSub]
      repeat' ((with_reducible first | refine xG_dec ?_ ?_ | refine xG_ndec ?_ ?_ | refine xG_nsplit ?_ ?_ | refine xG_split ?_ ?_ | refine xC_dec ?_ ?_ | refine xC_ndec ?_ ?_ | refine xC_nsplit ?_ ?_ | refine xC_split ?_ ?_) <;> intro h <;> (try simp only [wCo, wFr, wOp, wBi, wLst, wLog, xB_other, Nat.reduceBEq, unT, loadP, storeP, partP, partT, partV, cellsP, mkAgg, allT, setRange, fillP, fieldA, indexS, indexA, indexV, indexStr, elems, lenP, pickV, cviV, nckV, extV, isNil, bound, close, close1, aft, retV, retSl, Go.Pi.one, eqT, eqs, eq1, Nat.reduceEqDiff, Nat.reduceAdd, Nat.reduceSub, Nat.reduceMul, Nat.reduceLeDiff, Nat.reduceLT, Nat.one_ne_zero, Nat.zero_ne_one, reduceIte, reduceCtorEq, bne_self_eq_false, decide_true, decide_false, Int.reduceToNat, Int.cast_ofNat_Int, Int.reduceLT, Int.reduceLE, Int.reduceEq, Int.reduceNeg, Int.reduceAdd, Int.reduceSub, h]))
      simp [vTab, hr, h1]; omega
    · intro hr fr' j' hf
      simp only [wCo, wFr, wOp, wBi, wLst, wLog, xB_other, Nat.reduceBEq, unT, loadP, storeP, partP, partT, partV, cellsP, mkAgg, allT, setRange, fillP, fieldA, indexS, indexA, indexV, indexStr, elems, lenP, pickV, cviV, nckV, extV, isNil, bound, close, close1, aft, retV, retSl, Go.Pi.one, eqT, eqs, eq1, Nat.reduceEqDiff, Nat.reduceAdd, Nat.reduceSub, Nat.reduceMul, Nat.reduceLeDiff, Nat.reduceLT, Nat.one_ne_zero, Nat.zero_ne_one, reduceIte, reduceCtorEq, bne_self_eq_false, decide_true, decide_false, Int.reduceToNat, Int.cast_ofNat_Int, Int.reduceLT, Int.reduceLE, Int.reduceEq, Int.reduceNeg, Int.reduceAdd, Int.reduceSub, hf]
      repeat' ((with_reducible first | refine xG_dec ?_ ?_ | refine xG_ndec ?_ ?_ | refine xG_nsplit ?_ ?_ | refine xG_split ?_ ?_ | refine xC_dec ?_ ?_ | refine xC_ndec ?_ ?_ | refine xC_nsplit ?_ ?_ | refine xC_split ?_ ?_) <;> intro h <;> (try simp only [wCo, wFr, wOp, wBi, wLst, wLog, xB_other, Nat.reduceBEq, unT, loadP, storeP, partP, partT, partV, cellsP, mkAgg, allT, setRange, fillP, fieldA, indexS, indexA, indexV, indexStr, elems, lenP, pickV, cviV, nckV, extV, isNil, bound, close, close1, aft, retV, retSl, Go.Pi.one, eqT, eqs, eq1, Nat.reduceEqDiff, Nat.reduceAdd, Nat.reduceSub, Nat.reduceMul, Nat.reduceLeDiff, Nat.reduceLT, Nat.one_ne_zero, Nat.zero_ne_one, reduceIte, reduceCtorEq, bne_self_eq_false, decide_true, decide_false, Int.reduceToNat, Int.cast_ofNat_Int, Int.reduceLT, Int.reduceLE, Int.reduceEq, Int.reduceNeg, Int.reduceAdd, Int.reduceSub, hf, h]))
      simp [vTab, hr]
  · simp [vTab, h]
def sm : Int → List Row → Int
  | n, [] => n
  | n, r :: rs => if n ≤ 400 then sm (n + r.1.2.length + r.2.1.2.length + r.2.2.2.length) rs else n
theorem loop11 (t : Tab) (ht : TabOk t) (ow : Ow) (Q : Ex → S → Prop) : ∀ (rest : List Row) (i : Nat) (n : Int) (fr : List PV) (j : Sg), t.rows.drop i = rest → 0 ≤ n → n ≤ 9000000000000000000 →
    FrAt fr [(1, .lp 0 0), (3, .t (.int .i64 n)), (4, .t (.int .i64 i))] →
    (∀ fr' j', fget fr' 3 = .t (.int .i64 (sm n rest)) → Q (.exit 0) ⟨fr', (false, (tCells t).map .t) :: j', ow⟩) →
    Xl F gl lb11_0 ⟨fr, (false, (tCells t).map .t) :: j, ow⟩ Q ⟨⟩ := by
  intro rest
  induction rest with
  | nil =>
    intro i n fr j hd hn hn' hf h1
    have hd := drop_nil' hd
    simp only [FrAt_cons, FrAt_nil] at hf
    obtain ⟨f1, f3, f4, -⟩ := hf
    refine Xl.step ?_
    simp only [lb11_0]
    have c1 : ¬ ((i : Int) < (t.rows.length : Int)) := by omega
    simp only [wCo, wFr, wOp, wBi, wLst, wLog, xB_other, Nat.reduceBEq, unT, loadP, storeP, partP, partT, partV, cellsP, mkAgg, allT, setRange, fillP, fieldA, indexS, indexA, indexV, indexStr, elems, lenP, pickV, cviV, nckV, extV, isNil, bound, close, close1, aft, retV, retSl, Go.Pi.one, eqT, eqs, eq1, Nat.reduceEqDiff, Nat.reduceAdd, Nat.reduceSub, Nat.reduceMul, Nat.reduceLeDiff, Nat.reduceLT, Nat.one_ne_zero, Nat.zero_ne_one, reduceIte, reduceCtorEq, bne_self_eq_false, decide_true, decide_false, Int.reduceToNat, Int.cast_ofNat_Int, Int.reduceLT, Int.reduceLE, Int.reduceEq, Int.reduceNeg, Int.reduceAdd, Int.reduceSub, f1, f3, f4, c1, tCells]
    repeat' ((with_reducible first | refine xG_dec ?_ ?_ | refine xG_ndec ?_ ?_ | refine xG_nsplit ?_ ?_ | refine xG_split ?_ ?_ | refine xC_dec ?_ ?_ | refine xC_ndec ?_ ?_ | refine xC_nsplit ?_ ?_ | refine xC_split ?_ ?_) <;> intro h <;> (try simp only [wCo, wFr, wOp, wBi, wLst, wLog, xB_other, Nat.reduceBEq, unT, loadP, storeP, partP, partT, partV, cellsP, mkAgg, allT, setRange, fillP, fieldA, indexS, indexA, indexV, indexStr, elems, lenP, pickV, cviV, nckV, extV, isNil, bound, close, close1, aft, retV, retSl, Go.Pi.one, eqT, eqs, eq1, Nat.reduceEqDiff, Nat.reduceAdd, Nat.reduceSub, Nat.reduceMul, Nat.reduceLeDiff, Nat.reduceLT, Nat.one_ne_zero, Nat.zero_ne_one, reduceIte, reduceCtorEq, bne_self_eq_false, decide_true, decide_false, Int.reduceToNat, Int.cast_ofNat_Int, Int.reduceLT, Int.reduceLE, Int.reduceEq, Int.reduceNeg, Int.reduceAdd, Int.reduceSub, f1, f3, f4, c1, tCells, h]))
    exact h1 _ _ (by simp only [FrAt_cons, FrAt_nil, wFr, Nat.reduceEqDiff, Nat.one_ne_zero, Nat.zero_ne_one, reduceIte, and_self, and_true, true_and, f3, sm])
  | cons x r ih =>
    intro i n fr j hd hn hn' hf h1
    obtain ⟨hx, hr, hi⟩ := drop_cons hd
    simp only [FrAt_cons, FrAt_nil] at hf
    obtain ⟨f1, f3, f4, -⟩ := hf
    have hlen := ht.len
    have hrow := ht.rows x (List.mem_of_getElem? hx)
    obtain ⟨l1, l2, l3⟩ := hrow
    refine Xl.step ?_
    simp only [lb11_0]
    have c1 : (i : Int) < (t.rows.length : Int) := by omega
    have hw : IntKind.wrap .i64 ((i : Int) + 1) = ((i + 1 : Nat) : Int) := by rw [IntWalk.i64_in _ (by omega)]; omega
    simp only [wCo, wFr, wOp, wBi, wLst, wLog, xB_other, Nat.reduceBEq, unT, loadP, storeP, partP, partT, partV, cellsP, mkAgg, allT, setRange, fillP, fieldA, indexS, indexA, indexV, indexStr, elems, lenP, pickV, cviV, nckV, extV, isNil, bound, close, close1, aft, retV, retSl, Go.Pi.one, eqT, eqs, eq1, Nat.reduceEqDiff, Nat.reduceAdd, Nat.reduceSub, Nat.reduceMul, Nat.reduceLeDiff, Nat.reduceLT, Nat.one_ne_zero, Nat.zero_ne_one, reduceIte, reduceCtorEq, bne_self_eq_false, decide_true, decide_false, Int.reduceToNat, Int.cast_ofNat_Int, Int.reduceLT, Int.reduceLE, Int.reduceEq, Int.reduceNeg, Int.reduceAdd, Int.reduceSub, f1, f3, f4, c1, hw, List.getElem?_map, hx, tRow, tCells, tLin]
    repeat' ((with_reducible first | refine xG_dec ?_ ?_ | refine xG_ndec ?_ ?_ | refine xG_nsplit ?_ ?_ | refine xG_split ?_ ?_ | refine xC_dec ?_ ?_ | refine xC_ndec ?_ ?_ | refine xC_nsplit ?_ ?_ | refine xC_split ?_ ?_) <;> intro h <;> (try simp only [wCo, wFr, wOp, wBi, wLst, wLog, xB_other, Nat.reduceBEq, unT, loadP, storeP, partP, partT, partV, cellsP, mkAgg, allT, setRange, fillP, fieldA, indexS, indexA, indexV, indexStr, elems, lenP, pickV, cviV, nckV, extV, isNil, bound, close, close1, aft, retV, retSl, Go.Pi.one, eqT, eqs, eq1, Nat.reduceEqDiff, Nat.reduceAdd, Nat.reduceSub, Nat.reduceMul, Nat.reduceLeDiff, Nat.reduceLT, Nat.one_ne_zero, Nat.zero_ne_one, reduceIte, reduceCtorEq, bne_self_eq_false, decide_true, decide_false, Int.reduceToNat, Int.cast_ofNat_Int, Int.reduceLT, Int.reduceLE, Int.reduceEq, Int.reduceNeg, Int.reduceAdd, Int.reduceSub, f1, f3, f4, c1, hw, List.getElem?_map, hx, tRow, tCells, tLin, h]))
    · have hs : sm n (x :: r) = sm (n + x.1.2.length + x.2.1.2.length + x.2.2.2.length) r := by simp only [sm]; rw [if_pos h]
      rw [hs] at h1
      refine ih (i + 1) (n + x.1.2.length + x.2.1.2.length + x.2.2.2.length) _ _ hr (by omega) (by omega) ?_ h1
      have e1 : IntKind.wrap .i64 (n + x.1.2.length) = n + x.1.2.length := IntWalk.i64_in _ (by omega)
      have e2 : IntKind.wrap .i64 (n + x.1.2.length + x.2.1.2.length) = n + x.1.2.length + x.2.1.2.length := IntWalk.i64_in _ (by omega)
      have e3 : IntKind.wrap .i64 (n + x.1.2.length + x.2.1.2.length + x.2.2.2.length) = n + x.1.2.length + x.2.1.2.length + x.2.2.2.length := IntWalk.i64_in _ (by omega)
      simp only [FrAt_cons, FrAt_nil, wFr, Nat.reduceEqDiff, Nat.one_ne_zero, Nat.zero_ne_one, reduceIte, and_self, and_true, true_and, f1, e1, e2, e3]
    · exact h1 _ _ (by simp only [FrAt_cons, FrAt_nil, wFr, Nat.reduceEqDiff, Nat.one_ne_zero, Nat.zero_ne_one, reduceIte, and_self, and_true, true_and, f3, sm]; rw [if_neg h])
theorem ok11 (t : Tab) (ht : TabOk t) {K : PV → Prop} : XcP F gl 11 [tTab t] K ⟨⟩ ↔ K (.t (.bool (decide (sm t.rows.length t.rows ≤ 400)))) := by
  refine Ret.iff (Ret.of F11 rfl ?_)
  have hlen := ht.len
  simp only [ir11]
  simp only [wCo, wFr, wOp, wBi, wLst, wLog, xB_other, Nat.reduceBEq, unT, loadP, storeP, partP, partT, partV, cellsP, mkAgg, allT, setRange, fillP, fieldA, indexS, indexA, indexV, indexStr, elems, lenP, pickV, cviV, nckV, extV, isNil, bound, close, close1, aft, retV, retSl, Go.Pi.one, eqT, eqs, eq1, Nat.reduceEqDiff, Nat.reduceAdd, Nat.reduceSub, Nat.reduceMul, Nat.reduceLeDiff, Nat.reduceLT, Nat.one_ne_zero, Nat.zero_ne_one, reduceIte, reduceCtorEq, bne_self_eq_false, decide_true, decide_false, Int.reduceToNat, Int.cast_ofNat_Int, Int.reduceLT, Int.reduceLE, Int.reduceEq, Int.reduceNeg, Int.reduceAdd, Int.reduceSub, tTab, tCells]
  repeat' ((with_reducible first | refine xG_dec ?_ ?_ | refine xG_ndec ?_ ?_ | refine xG_nsplit ?_ ?_ | refine xG_split ?_ ?_ | refine xC_dec ?_ ?_ | refine xC_ndec ?_ ?_ | refine xC_nsplit ?_ ?_ | refine xC_split ?_ ?_) <;> intro h <;> (try simp only [wCo, wFr, wOp, wBi, wLst, wLog, xB_other, Nat.reduceBEq, unT, loadP, storeP, partP, partT, partV, cellsP, mkAgg, allT, setRange, fillP, fieldA, indexS, indexA, indexV, indexStr, elems, lenP, pickV, cviV, nckV, extV, isNil, bound, close, close1, aft, retV, retSl, Go.Pi.one, eqT, eqs, eq1, Nat.reduceEqDiff, Nat.reduceAdd, Nat.reduceSub, Nat.reduceMul, Nat.reduceLeDiff, Nat.reduceLT, Nat.one_ne_zero, Nat.zero_ne_one, reduceIte, reduceCtorEq, bne_self_eq_false, decide_true, decide_false, Int.reduceToNat, Int.cast_ofNat_Int, Int.reduceLT, Int.reduceLE, Int.reduceEq, Int.reduceNeg, Int.reduceAdd, Int.reduceSub, tTab, tCells, h]))
  refine loop11 t ht _ _ t.rows 0 t.rows.length _ [] rfl (by omega) (by omega) ?_ ?_
  · simp only [FrAt_cons, FrAt_nil, wFr, Nat.reduceEqDiff, Nat.one_ne_zero, Nat.zero_ne_one, reduceIte, and_self, and_true, true_and]
  · intro fr' j' hf
    simp only [wCo, wFr, wOp, wBi, wLst, wLog, xB_other, Nat.reduceBEq, unT, loadP, storeP, partP, partT, partV, cellsP, mkAgg, allT, setRange, fillP, fieldA, indexS, indexA, indexV, indexStr, elems, lenP, pickV, cviV, nckV, extV, isNil, bound, close, close1, aft, retV, retSl, Go.Pi.one, eqT, eqs, eq1, Nat.reduceEqDiff, Nat.reduceAdd, Nat.reduceSub, Nat.reduceMul, Nat.reduceLeDiff, Nat.reduceLT, Nat.one_ne_zero, Nat.zero_ne_one, reduceIte, reduceCtorEq, bne_self_eq_false, decide_true, decide_false, Int.reduceToNat, Int.cast_ofNat_Int, Int.reduceLT, Int.reduceLE, Int.reduceEq, Int.reduceNeg, Int.reduceAdd, Int.reduceSub, hf]
    repeat' ((with_reducible first | refine xG_dec ?_ ?_ | refine xG_ndec ?_ ?_ | refine xG_nsplit ?_ ?_ | refine xG_split ?_ ?_ | refine xC_dec ?_ ?_ | refine xC_ndec ?_ ?_ | refine xC_nsplit ?_ ?_ | refine xC_split ?_ ?_) <;> intro h <;> (try simp only [wCo, wFr, wOp, wBi, wLst, wLog, xB_other, Nat.reduceBEq, unT, loadP, storeP, partP, partT, partV, cellsP, mkAgg, allT, setRange, fillP, fieldA, indexS, indexA, indexV, indexStr, elems, lenP, pickV, cviV, nckV, extV, isNil, bound, close, close1, aft, retV, retSl, Go.Pi.one, eqT, eqs, eq1, Nat.reduceEqDiff, Nat.reduceAdd, Nat.reduceSub, Nat.reduceMul, Nat.reduceLeDiff, Nat.reduceLT, Nat.one_ne_zero, Nat.zero_ne_one, reduceIte, reduceCtorEq, bne_self_eq_false, decide_true, decide_false, Int.reduceToNat, Int.cast_ofNat_Int, Int.reduceLT, Int.reduceLE, Int.reduceEq, Int.reduceNeg, Int.reduceAdd, Int.reduceSub, hf, h]))
/-- What a table's Small says of its sizes. -/
theorem sm_mono : ∀ (l : List Row) (n : Int), 0 ≤ n → n ≤ sm n l := by
  intro l
  induction l with
  | nil => intro n _; exact Int.le_refl _
  | cons r rs ih =>
    intro n hn
    simp only [sm]
    split
    · have := ih (n + r.1.2.length + r.2.1.2.length + r.2.2.2.length) (by omega)
      omega
    · omega
theorem sm_rows : ∀ (l : List Row) (n : Int), 0 ≤ n → sm n l ≤ 400 → ∀ r, r ∈ l → r.1.2.length ≤ 400 ∧ r.2.1.2.length ≤ 400 ∧ r.2.2.2.length ≤ 400 := by
  intro l
  induction l with
  | nil => intro n _ _ r hr; cases hr
  | cons x rs ih =>
    intro n hn hs r hr
    simp only [sm] at hs
    split at hs
    · have h1 := sm_mono rs (n + x.1.2.length + x.2.1.2.length + x.2.2.2.length) (by omega)
      rcases List.mem_cons.1 hr with e | e
      · subst e; omega
      · exact ih _ (by omega) hs r e
    · omega
theorem small_rows {t : Tab} (h : sm t.rows.length t.rows ≤ 400) : t.rows.length ≤ 400 ∧ ∀ r, r ∈ t.rows → r.1.2.length ≤ 400 ∧ r.2.1.2.length ≤ 400 ∧ r.2.2.2.length ≤ 400 :=
  ⟨by have := sm_mono t.rows t.rows.length (by omega); omega, sm_rows _ _ (by omega) h⟩

end Go.Proofs.YtbkphlhmbllbiaaDoor
