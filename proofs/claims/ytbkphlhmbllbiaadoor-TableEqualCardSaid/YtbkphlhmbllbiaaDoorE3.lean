/- Contracts: strconv's decimal numbers: formatBase10, the end. -/
import Derived.Test.YtbkphlhmbllbiaaDoorE2
set_option maxRecDepth 10000
set_option linter.unusedVariables false
set_option linter.unusedSimpArgs false
namespace Go.Proofs.YtbkphlhmbllbiaaDoor
open Go.Pi Go.Lib
variable {gl : Nat → Option (List T)}
theorem dg0 {v : Nat} (h : v < 1) : dgs 0 v = [] := by
  simp only [dgs, List.append_assoc, List.cons_append, List.nil_append, List.append_nil]
theorem dg1 {v : Nat} (h : v < 10) : dgs 1 v = [UInt8.ofNat (48 + v)] := by
  have e0 : v % 10 = v := by omega
  have ez : v / 10 = 0 := by omega
  simp only [dgs, List.append_assoc, List.cons_append, List.nil_append, List.append_nil]
  rw [e0]
theorem dg2 {v : Nat} (h : v < 100) : dgs 2 v = [UInt8.ofNat (48 + v % 100 / 10), UInt8.ofNat (48 + v % 100 % 10)] := by
  have e1 : v / 10 % 10 = v % 100 / 10 := by omega
  have e0 : v % 10 = v % 100 % 10 := by omega
  have ez : v / 10 / 10 = 0 := by omega
  simp only [dgs, e1, List.append_assoc, List.cons_append, List.nil_append, List.append_nil]
  rw [e0]
theorem dg3 {v : Nat} (h : v < 1000) : dgs 3 v = [UInt8.ofNat (48 + v / 100), UInt8.ofNat (48 + v % 100 / 10), UInt8.ofNat (48 + v % 100 % 10)] := by
  have e2 : v / 10 / 10 % 10 = v / 100 := by omega
  have e1 : v / 10 % 10 = v % 100 / 10 := by omega
  have e0 : v % 10 = v % 100 % 10 := by omega
  have ez : v / 10 / 10 / 10 = 0 := by omega
  simp only [dgs, e2, e1, List.append_assoc, List.cons_append, List.nil_append, List.append_nil]
  rw [e0]
theorem dg4 {v : Nat} (h : v < 10000) : dgs 4 v = [UInt8.ofNat (48 + v % 10000 / 100 / 10), UInt8.ofNat (48 + v % 10000 / 100 % 10), UInt8.ofNat (48 + v % 10000 % 100 / 10), UInt8.ofNat (48 + v % 10000 % 100 % 10)] := by
  have e3 : v / 10 / 10 / 10 % 10 = v % 10000 / 100 / 10 := by omega
  have e2 : v / 10 / 10 % 10 = v % 10000 / 100 % 10 := by omega
  have e1 : v / 10 % 10 = v % 10000 % 100 / 10 := by omega
  have e0 : v % 10 = v % 10000 % 100 % 10 := by omega
  have ez : v / 10 / 10 / 10 / 10 = 0 := by omega
  simp only [dgs, e3, e2, e1, List.append_assoc, List.cons_append, List.nil_append, List.append_nil]
  rw [e0]
theorem dg5 {v : Nat} (h : v < 100000) : dgs 5 v = [UInt8.ofNat (48 + v / 10000), UInt8.ofNat (48 + v % 10000 / 100 / 10), UInt8.ofNat (48 + v % 10000 / 100 % 10), UInt8.ofNat (48 + v % 10000 % 100 / 10), UInt8.ofNat (48 + v % 10000 % 100 % 10)] := by
  have e4 : v / 10 / 10 / 10 / 10 % 10 = v / 10000 := by omega
  have e3 : v / 10 / 10 / 10 % 10 = v % 10000 / 100 / 10 := by omega
  have e2 : v / 10 / 10 % 10 = v % 10000 / 100 % 10 := by omega
  have e1 : v / 10 % 10 = v % 10000 % 100 / 10 := by omega
  have e0 : v % 10 = v % 10000 % 100 % 10 := by omega
  have ez : v / 10 / 10 / 10 / 10 / 10 = 0 := by omega
  simp only [dgs, e4, e3, e2, e1, List.append_assoc, List.cons_append, List.nil_append, List.append_nil]
  rw [e0]
theorem dg6 {v : Nat} (h : v < 1000000) : dgs 6 v = [UInt8.ofNat (48 + v / 10000 % 100 / 10), UInt8.ofNat (48 + v / 10000 % 100 % 10), UInt8.ofNat (48 + v % 10000 / 100 / 10), UInt8.ofNat (48 + v % 10000 / 100 % 10), UInt8.ofNat (48 + v % 10000 % 100 / 10), UInt8.ofNat (48 + v % 10000 % 100 % 10)] := by
  have e5 : v / 10 / 10 / 10 / 10 / 10 % 10 = v / 10000 % 100 / 10 := by omega
  have e4 : v / 10 / 10 / 10 / 10 % 10 = v / 10000 % 100 % 10 := by omega
  have e3 : v / 10 / 10 / 10 % 10 = v % 10000 / 100 / 10 := by omega
  have e2 : v / 10 / 10 % 10 = v % 10000 / 100 % 10 := by omega
  have e1 : v / 10 % 10 = v % 10000 % 100 / 10 := by omega
  have e0 : v % 10 = v % 10000 % 100 % 10 := by omega
  have ez : v / 10 / 10 / 10 / 10 / 10 / 10 = 0 := by omega
  simp only [dgs, e5, e4, e3, e2, e1, List.append_assoc, List.cons_append, List.nil_append, List.append_nil]
  rw [e0]
theorem dg7 {v : Nat} (h : v < 10000000) : dgs 7 v = [UInt8.ofNat (48 + v / 10000 / 100), UInt8.ofNat (48 + v / 10000 % 100 / 10), UInt8.ofNat (48 + v / 10000 % 100 % 10), UInt8.ofNat (48 + v % 10000 / 100 / 10), UInt8.ofNat (48 + v % 10000 / 100 % 10), UInt8.ofNat (48 + v % 10000 % 100 / 10), UInt8.ofNat (48 + v % 10000 % 100 % 10)] := by
  have e6 : v / 10 / 10 / 10 / 10 / 10 / 10 % 10 = v / 10000 / 100 := by omega
  have e5 : v / 10 / 10 / 10 / 10 / 10 % 10 = v / 10000 % 100 / 10 := by omega
  have e4 : v / 10 / 10 / 10 / 10 % 10 = v / 10000 % 100 % 10 := by omega
  have e3 : v / 10 / 10 / 10 % 10 = v % 10000 / 100 / 10 := by omega
  have e2 : v / 10 / 10 % 10 = v % 10000 / 100 % 10 := by omega
  have e1 : v / 10 % 10 = v % 10000 % 100 / 10 := by omega
  have e0 : v % 10 = v % 10000 % 100 % 10 := by omega
  have ez : v / 10 / 10 / 10 / 10 / 10 / 10 / 10 = 0 := by omega
  simp only [dgs, e6, e5, e4, e3, e2, e1, List.append_assoc, List.cons_append, List.nil_append, List.append_nil]
  rw [e0]
set_option maxHeartbeats 4000000 in
theorem ok81 {id N u : Nat} (hN : N ≤ 1000) (hu : u ≤ 18446744073709551615) (hlt : u < 10 ^ N) {sg : Sg} {ow : Ow} {A D : List PV} (hA : A.length = N) (hs : sg[id]? = some (false, A ++ D)) {K : PV → Sg → Ow → Prop} :
    XcE F gl 81 [.ls id 0 N 1, .t (.int .u64 (u : Int))] sg ow K ⟨⟩ ↔ K (.tup []) (sg.set id (false, (dgs N u).map bcell ++ D)) ow := by
  refine RetE.iff (RetE.of F81 rfl ?_)
  simp only [ir81]
  simp only [wCo, wFr, wOp, wBi, wLst, wLog, xB_other, Nat.reduceBEq, unT, loadP, storeP, partP, partT, partV, cellsP, mkAgg, allT, setRange, fillP, fieldA, indexS, indexA, indexV, indexStr, elems, lenP, pickV, cviV, nckV, extV, isNil, bound, close, close1, aft, retV, retSl, one, eqT, eqs, eq1, Nat.reduceEqDiff, Nat.reduceAdd, Nat.reduceSub, Nat.reduceMul, Nat.reduceLeDiff, Nat.reduceLT, Nat.one_ne_zero, Nat.zero_ne_one, reduceIte, reduceCtorEq, bne_self_eq_false, decide_true, decide_false, Int.reduceToNat, Int.cast_ofNat_Int, Int.reduceLT, Int.reduceLE, Int.reduceEq, Int.reduceNeg, Int.reduceAdd, Int.reduceSub]
  repeat' ((with_reducible first | refine xG_dec ?_ ?_ | refine xG_ndec ?_ ?_ | refine xG_nsplit ?_ ?_ | refine xG_split ?_ ?_ | refine xC_dec ?_ ?_ | refine xC_ndec ?_ ?_ | refine xC_nsplit ?_ ?_ | refine xC_split ?_ ?_) <;> intro h <;> (try simp only [wCo, wFr, wOp, wBi, wLst, wLog, xB_other, Nat.reduceBEq, unT, loadP, storeP, partP, partT, partV, cellsP, mkAgg, allT, setRange, fillP, fieldA, indexS, indexA, indexV, indexStr, elems, lenP, pickV, cviV, nckV, extV, isNil, bound, close, close1, aft, retV, retSl, one, eqT, eqs, eq1, Nat.reduceEqDiff, Nat.reduceAdd, Nat.reduceSub, Nat.reduceMul, Nat.reduceLeDiff, Nat.reduceLT, Nat.one_ne_zero, Nat.zero_ne_one, reduceIte, reduceCtorEq, bne_self_eq_false, decide_true, decide_false, Int.reduceToNat, Int.cast_ofNat_Int, Int.reduceLT, Int.reduceLE, Int.reduceEq, Int.reduceNeg, Int.reduceAdd, Int.reduceSub, h]))
  obtain ⟨c, m, hc, hm⟩ : ∃ c m, N = m + 8 * c ∧ m < 8 := ⟨N / 8, N % 8, by omega, by omega⟩
  subst hc
  refine loop81 id _ hN _ _ c m u A D sg _ hA hm (Nat.le_refl _) hu hs ?_ ?_
  · simp only [FrAt_cons, FrAt_nil, wFr, Nat.reduceEqDiff, Nat.one_ne_zero, Nat.zero_ne_one, reduceIte, and_self, and_true, true_and]
  intro fr' A' hA' hf
  simp only [FrAt_cons, FrAt_nil] at hf
  obtain ⟨f0, f1, f4, -⟩ := hf
  have hid : id < sg.length := (List.getElem?_eq_some_iff.1 hs).1
  have hs1 : (sg.set id (false, A' ++ ((dgs (8 * c) u).map bcell ++ D)))[id]? = some (false, A' ++ ((dgs (8 * c) u).map bcell ++ D)) := get_set hid
  obtain ⟨v, hve⟩ : ∃ v, v = u / 10 ^ (8 * c) := ⟨_, rfl⟩
  have hv : v < 10 ^ m := by
    rw [hve]
    refine Nat.div_lt_of_lt_mul ?_
    rw [← Nat.pow_add, Nat.add_comm]
    exact hlt
  rw [← hve] at f1
  have n2 : ¬ ((10000 : Int) = 0) := by decide
  have n3 : ¬ ((100 : Int) = 0) := by decide
  generalize hNe : m + 8 * c = N at *
  generalize hR : (dgs (8 * c) u).map bcell ++ D = R at hs1 ⊢
  match A', hA' with
  | [], hA' =>
    have hm' : m = 0 := by simpa using hA'.symm
    subst hm'
    have hv' : v < 1 := by simpa using hv
    have wv : IntKind.u32.wrap (v : Int) = (v : Int) := IntWalk.u32_in _ (by omega)
    simp only [List.cons_append, List.nil_append] at hs1 ⊢
    simp only [wCo, wFr, wOp, wBi, wLst, wLog, xB_other, Nat.reduceBEq, unT, loadP, storeP, partP, partT, partV, cellsP, mkAgg, allT, setRange, fillP, fieldA, indexS, indexA, indexV, indexStr, elems, lenP, pickV, cviV, nckV, extV, isNil, bound, close, close1, aft, retV, retSl, one, eqT, eqs, eq1, Nat.reduceEqDiff, Nat.reduceAdd, Nat.reduceSub, Nat.reduceMul, Nat.reduceLeDiff, Nat.reduceLT, Nat.one_ne_zero, Nat.zero_ne_one, reduceIte, reduceCtorEq, bne_self_eq_false, decide_true, decide_false, Int.reduceToNat, Int.cast_ofNat_Int, Int.reduceLT, Int.reduceLE, Int.reduceEq, Int.reduceNeg, Int.reduceAdd, Int.reduceSub, f0, f1, f4, n2, n3, sets0, tdiv1, tmod1, wv, hs1, get_set, hid, List.set_set, List.length_set, Nat.mul_one, Nat.add_assoc, Nat.add_le_add_iff_left, Nat.le_add_left, true_and]
    repeat' ((with_reducible first | refine xG_dec ?_ ?_ | refine xG_ndec ?_ ?_ | refine xG_nsplit ?_ ?_ | refine xG_split ?_ ?_ | refine xC_dec ?_ ?_ | refine xC_ndec ?_ ?_ | refine xC_nsplit ?_ ?_ | refine xC_split ?_ ?_) <;> intro h <;> (try simp only [wCo, wFr, wOp, wBi, wLst, wLog, xB_other, Nat.reduceBEq, unT, loadP, storeP, partP, partT, partV, cellsP, mkAgg, allT, setRange, fillP, fieldA, indexS, indexA, indexV, indexStr, elems, lenP, pickV, cviV, nckV, extV, isNil, bound, close, close1, aft, retV, retSl, one, eqT, eqs, eq1, Nat.reduceEqDiff, Nat.reduceAdd, Nat.reduceSub, Nat.reduceMul, Nat.reduceLeDiff, Nat.reduceLT, Nat.one_ne_zero, Nat.zero_ne_one, reduceIte, reduceCtorEq, bne_self_eq_false, decide_true, decide_false, Int.reduceToNat, Int.cast_ofNat_Int, Int.reduceLT, Int.reduceLE, Int.reduceEq, Int.reduceNeg, Int.reduceAdd, Int.reduceSub, f0, f1, f4, n2, n3, sets0, tdiv1, tmod1, wv, hs1, get_set, hid, List.set_set, List.length_set, Nat.mul_one, Nat.add_assoc, Nat.add_le_add_iff_left, Nat.le_add_left, true_and, h]))
    rw [← hNe, dgs_add, ← hve, dg0 hv', List.map_append, List.append_assoc, hR]
    rfl
  | [a0], hA' =>
    have hm' : m = 1 := by simpa using hA'.symm
    subst hm'
    have hv' : v < 10 := by simpa using hv
    have wv : IntKind.u32.wrap (v : Int) = (v : Int) := IntWalk.u32_in _ (by omega)
    have i0 : IntKind.i64.wrap 0 = 0 := by decide
    have j0 : 0 < N := by simp at hA'; omega
    have z1 : IntKind.u32.wrap (48 + ((v : Nat) : Int)) = ((48 + v : Nat) : Int) := by rw [IntWalk.u32_in _ (by omega)]; omega
    have z2 : IntKind.u8.wrap ((48 + v : Nat) : Int) = ((UInt8.ofNat (48 + v)).toNat : Int) := by rw [IntWalk.u8_in _ (by omega), UInt8.toNat_ofNat']; omega
    simp only [List.cons_append, List.nil_append] at hs1 ⊢
    simp only [wCo, wFr, wOp, wBi, wLst, wLog, xB_other, Nat.reduceBEq, unT, loadP, storeP, partP, partT, partV, cellsP, mkAgg, allT, setRange, fillP, fieldA, indexS, indexA, indexV, indexStr, elems, lenP, pickV, cviV, nckV, extV, isNil, bound, close, close1, aft, retV, retSl, one, eqT, eqs, eq1, Nat.reduceEqDiff, Nat.reduceAdd, Nat.reduceSub, Nat.reduceMul, Nat.reduceLeDiff, Nat.reduceLT, Nat.one_ne_zero, Nat.zero_ne_one, reduceIte, reduceCtorEq, bne_self_eq_false, decide_true, decide_false, Int.reduceToNat, Int.cast_ofNat_Int, Int.reduceLT, Int.reduceLE, Int.reduceEq, Int.reduceNeg, Int.reduceAdd, Int.reduceSub, f0, f1, f4, n2, n3, sets0, tdiv1, tmod1, wv, i0, j0, z1, z2, hs1, get_set, hid, List.set_set, List.length_set, Nat.mul_one, Nat.add_assoc, Nat.add_le_add_iff_left, Nat.le_add_left, true_and]
    repeat' ((with_reducible first | refine xG_dec ?_ ?_ | refine xG_ndec ?_ ?_ | refine xG_nsplit ?_ ?_ | refine xG_split ?_ ?_ | refine xC_dec ?_ ?_ | refine xC_ndec ?_ ?_ | refine xC_nsplit ?_ ?_ | refine xC_split ?_ ?_) <;> intro h <;> (try simp only [wCo, wFr, wOp, wBi, wLst, wLog, xB_other, Nat.reduceBEq, unT, loadP, storeP, partP, partT, partV, cellsP, mkAgg, allT, setRange, fillP, fieldA, indexS, indexA, indexV, indexStr, elems, lenP, pickV, cviV, nckV, extV, isNil, bound, close, close1, aft, retV, retSl, one, eqT, eqs, eq1, Nat.reduceEqDiff, Nat.reduceAdd, Nat.reduceSub, Nat.reduceMul, Nat.reduceLeDiff, Nat.reduceLT, Nat.one_ne_zero, Nat.zero_ne_one, reduceIte, reduceCtorEq, bne_self_eq_false, decide_true, decide_false, Int.reduceToNat, Int.cast_ofNat_Int, Int.reduceLT, Int.reduceLE, Int.reduceEq, Int.reduceNeg, Int.reduceAdd, Int.reduceSub, f0, f1, f4, n2, n3, sets0, tdiv1, tmod1, wv, i0, j0, z1, z2, hs1, get_set, hid, List.set_set, List.length_set, Nat.mul_one, Nat.add_assoc, Nat.add_le_add_iff_left, Nat.le_add_left, true_and, h]))
    rw [← hNe, dgs_add, ← hve, dg1 hv', List.map_append, List.append_assoc, hR]
    rfl
  | [a0, a1], hA' =>
    have hm' : m = 2 := by simpa using hA'.symm
    subst hm'
    have hv' : v < 100 := by simpa using hv
    have wv : IntKind.u32.wrap (v : Int) = (v : Int) := IntWalk.u32_in _ (by omega)
    have i0 : IntKind.i64.wrap 0 = 0 := by decide
    have j0 : 0 < N := by simp at hA'; omega
    have i1 : IntKind.i64.wrap 1 = 1 := by decide
    have j1 : 1 < N := by simp at hA'; omega
    obtain ⟨Te, To⟩ := sml (v := v % 100) (by omega)
    have Tw : IntKind.u32.wrap (((v % 100 : Nat) : Int) * 2) = ((v % 100 * 2 : Nat) : Int) := by rw [IntWalk.u32_in _ (by omega)]; omega
    have Tx : IntKind.u32.wrap (((v % 100 * 2 : Nat) : Int) + 1) = ((v % 100 * 2 + 1 : Nat) : Int) := by rw [IntWalk.u32_in _ (by omega)]; omega
    have w3 : IntKind.u32.wrap ((v / 100 : Nat) : Int) = ((v / 100 : Nat) : Int) := IntWalk.u32_in _ (by omega)
    simp only [List.cons_append, List.nil_append] at hs1 ⊢
    simp only [wCo, wFr, wOp, wBi, wLst, wLog, xB_other, Nat.reduceBEq, unT, loadP, storeP, partP, partT, partV, cellsP, mkAgg, allT, setRange, fillP, fieldA, indexS, indexA, indexV, indexStr, elems, lenP, pickV, cviV, nckV, extV, isNil, bound, close, close1, aft, retV, retSl, one, eqT, eqs, eq1, Nat.reduceEqDiff, Nat.reduceAdd, Nat.reduceSub, Nat.reduceMul, Nat.reduceLeDiff, Nat.reduceLT, Nat.one_ne_zero, Nat.zero_ne_one, reduceIte, reduceCtorEq, bne_self_eq_false, decide_true, decide_false, Int.reduceToNat, Int.cast_ofNat_Int, Int.reduceLT, Int.reduceLE, Int.reduceEq, Int.reduceNeg, Int.reduceAdd, Int.reduceSub, f0, f1, f4, n2, n3, sets0, tdiv1, tmod1, wv, i0, j0, i1, j1, Te, To, Tw, Tx, w3, hs1, get_set, hid, List.set_set, List.length_set, Nat.mul_one, Nat.add_assoc, Nat.add_le_add_iff_left, Nat.le_add_left, true_and]
    repeat' ((with_reducible first | refine xG_dec ?_ ?_ | refine xG_ndec ?_ ?_ | refine xG_nsplit ?_ ?_ | refine xG_split ?_ ?_ | refine xC_dec ?_ ?_ | refine xC_ndec ?_ ?_ | refine xC_nsplit ?_ ?_ | refine xC_split ?_ ?_) <;> intro h <;> (try simp only [wCo, wFr, wOp, wBi, wLst, wLog, xB_other, Nat.reduceBEq, unT, loadP, storeP, partP, partT, partV, cellsP, mkAgg, allT, setRange, fillP, fieldA, indexS, indexA, indexV, indexStr, elems, lenP, pickV, cviV, nckV, extV, isNil, bound, close, close1, aft, retV, retSl, one, eqT, eqs, eq1, Nat.reduceEqDiff, Nat.reduceAdd, Nat.reduceSub, Nat.reduceMul, Nat.reduceLeDiff, Nat.reduceLT, Nat.one_ne_zero, Nat.zero_ne_one, reduceIte, reduceCtorEq, bne_self_eq_false, decide_true, decide_false, Int.reduceToNat, Int.cast_ofNat_Int, Int.reduceLT, Int.reduceLE, Int.reduceEq, Int.reduceNeg, Int.reduceAdd, Int.reduceSub, f0, f1, f4, n2, n3, sets0, tdiv1, tmod1, wv, i0, j0, i1, j1, Te, To, Tw, Tx, w3, hs1, get_set, hid, List.set_set, List.length_set, Nat.mul_one, Nat.add_assoc, Nat.add_le_add_iff_left, Nat.le_add_left, true_and, h]))
    rw [← hNe, dgs_add, ← hve, dg2 hv', List.map_append, List.append_assoc, hR]
    rfl
  | [a0, a1, a2], hA' =>
    have hm' : m = 3 := by simpa using hA'.symm
    subst hm'
    have hv' : v < 1000 := by simpa using hv
    have wv : IntKind.u32.wrap (v : Int) = (v : Int) := IntWalk.u32_in _ (by omega)
    have i0 : IntKind.i64.wrap 0 = 0 := by decide
    have j0 : 0 < N := by simp at hA'; omega
    have i1 : IntKind.i64.wrap 1 = 1 := by decide
    have j1 : 1 < N := by simp at hA'; omega
    have i2 : IntKind.i64.wrap 2 = 2 := by decide
    have j2 : 2 < N := by simp at hA'; omega
    obtain ⟨Te, To⟩ := sml (v := v % 100) (by omega)
    have Tw : IntKind.u32.wrap (((v % 100 : Nat) : Int) * 2) = ((v % 100 * 2 : Nat) : Int) := by rw [IntWalk.u32_in _ (by omega)]; omega
    have Tx : IntKind.u32.wrap (((v % 100 * 2 : Nat) : Int) + 1) = ((v % 100 * 2 + 1 : Nat) : Int) := by rw [IntWalk.u32_in _ (by omega)]; omega
    have w3 : IntKind.u32.wrap ((v / 100 : Nat) : Int) = ((v / 100 : Nat) : Int) := IntWalk.u32_in _ (by omega)
    have z1 : IntKind.u32.wrap (48 + ((v / 100 : Nat) : Int)) = ((48 + v / 100 : Nat) : Int) := by rw [IntWalk.u32_in _ (by omega)]; omega
    have z2 : IntKind.u8.wrap ((48 + v / 100 : Nat) : Int) = ((UInt8.ofNat (48 + v / 100)).toNat : Int) := by rw [IntWalk.u8_in _ (by omega), UInt8.toNat_ofNat']; omega
    simp only [List.cons_append, List.nil_append] at hs1 ⊢
    simp only [wCo, wFr, wOp, wBi, wLst, wLog, xB_other, Nat.reduceBEq, unT, loadP, storeP, partP, partT, partV, cellsP, mkAgg, allT, setRange, fillP, fieldA, indexS, indexA, indexV, indexStr, elems, lenP, pickV, cviV, nckV, extV, isNil, bound, close, close1, aft, retV, retSl, one, eqT, eqs, eq1, Nat.reduceEqDiff, Nat.reduceAdd, Nat.reduceSub, Nat.reduceMul, Nat.reduceLeDiff, Nat.reduceLT, Nat.one_ne_zero, Nat.zero_ne_one, reduceIte, reduceCtorEq, bne_self_eq_false, decide_true, decide_false, Int.reduceToNat, Int.cast_ofNat_Int, Int.reduceLT, Int.reduceLE, Int.reduceEq, Int.reduceNeg, Int.reduceAdd, Int.reduceSub, f0, f1, f4, n2, n3, sets0, tdiv1, tmod1, wv, i0, j0, i1, j1, i2, j2, Te, To, Tw, Tx, w3, z1, z2, hs1, get_set, hid, List.set_set, List.length_set, Nat.mul_one, Nat.add_assoc, Nat.add_le_add_iff_left, Nat.le_add_left, true_and]
    repeat' ((with_reducible first | refine xG_dec ?_ ?_ | refine xG_ndec ?_ ?_ | refine xG_nsplit ?_ ?_ | refine xG_split ?_ ?_ | refine xC_dec ?_ ?_ | refine xC_ndec ?_ ?_ | refine xC_nsplit ?_ ?_ | refine xC_split ?_ ?_) <;> intro h <;> (try simp only [wCo, wFr, wOp, wBi, wLst, wLog, xB_other, Nat.reduceBEq, unT, loadP, storeP, partP, partT, partV, cellsP, mkAgg, allT, setRange, fillP, fieldA, indexS, indexA, indexV, indexStr, elems, lenP, pickV, cviV, nckV, extV, isNil, bound, close, close1, aft, retV, retSl, one, eqT, eqs, eq1, Nat.reduceEqDiff, Nat.reduceAdd, Nat.reduceSub, Nat.reduceMul, Nat.reduceLeDiff, Nat.reduceLT, Nat.one_ne_zero, Nat.zero_ne_one, reduceIte, reduceCtorEq, bne_self_eq_false, decide_true, decide_false, Int.reduceToNat, Int.cast_ofNat_Int, Int.reduceLT, Int.reduceLE, Int.reduceEq, Int.reduceNeg, Int.reduceAdd, Int.reduceSub, f0, f1, f4, n2, n3, sets0, tdiv1, tmod1, wv, i0, j0, i1, j1, i2, j2, Te, To, Tw, Tx, w3, z1, z2, hs1, get_set, hid, List.set_set, List.length_set, Nat.mul_one, Nat.add_assoc, Nat.add_le_add_iff_left, Nat.le_add_left, true_and, h]))
    rw [← hNe, dgs_add, ← hve, dg3 hv', List.map_append, List.append_assoc, hR]
    rfl
  | [a0, a1, a2, a3], hA' =>
    have hm' : m = 4 := by simpa using hA'.symm
    subst hm'
    have hv' : v < 10000 := by simpa using hv
    have wv : IntKind.u32.wrap (v : Int) = (v : Int) := IntWalk.u32_in _ (by omega)
    have i0 : IntKind.i64.wrap 0 = 0 := by decide
    have j0 : 0 < N := by simp at hA'; omega
    have i1 : IntKind.i64.wrap 1 = 1 := by decide
    have j1 : 1 < N := by simp at hA'; omega
    have i2 : IntKind.i64.wrap 2 = 2 := by decide
    have j2 : 2 < N := by simp at hA'; omega
    have i3 : IntKind.i64.wrap 3 = 3 := by decide
    have j3 : 3 < N := by simp at hA'; omega
    obtain ⟨Pe, Po⟩ := sml (v := v % 10000 / 100) (by omega)
    have Pw : IntKind.u32.wrap (((v % 10000 / 100 : Nat) : Int) * 2) = ((v % 10000 / 100 * 2 : Nat) : Int) := by rw [IntWalk.u32_in _ (by omega)]; omega
    have Px : IntKind.u32.wrap (((v % 10000 / 100 * 2 : Nat) : Int) + 1) = ((v % 10000 / 100 * 2 + 1 : Nat) : Int) := by rw [IntWalk.u32_in _ (by omega)]; omega
    obtain ⟨Re, Ro⟩ := sml (v := v % 10000 % 100) (by omega)
    have Rw : IntKind.u32.wrap (((v % 10000 % 100 : Nat) : Int) * 2) = ((v % 10000 % 100 * 2 : Nat) : Int) := by rw [IntWalk.u32_in _ (by omega)]; omega
    have Rx : IntKind.u32.wrap (((v % 10000 % 100 * 2 : Nat) : Int) + 1) = ((v % 10000 % 100 * 2 + 1 : Nat) : Int) := by rw [IntWalk.u32_in _ (by omega)]; omega
    have w1 : IntKind.u32.wrap ((v % 10000 / 100 : Nat) : Int) = ((v % 10000 / 100 : Nat) : Int) := IntWalk.u32_in _ (by omega)
    have w2 : IntKind.u32.wrap ((v / 10000 : Nat) : Int) = ((v / 10000 : Nat) : Int) := IntWalk.u32_in _ (by omega)
    simp only [List.cons_append, List.nil_append] at hs1 ⊢
    simp only [wCo, wFr, wOp, wBi, wLst, wLog, xB_other, Nat.reduceBEq, unT, loadP, storeP, partP, partT, partV, cellsP, mkAgg, allT, setRange, fillP, fieldA, indexS, indexA, indexV, indexStr, elems, lenP, pickV, cviV, nckV, extV, isNil, bound, close, close1, aft, retV, retSl, one, eqT, eqs, eq1, Nat.reduceEqDiff, Nat.reduceAdd, Nat.reduceSub, Nat.reduceMul, Nat.reduceLeDiff, Nat.reduceLT, Nat.one_ne_zero, Nat.zero_ne_one, reduceIte, reduceCtorEq, bne_self_eq_false, decide_true, decide_false, Int.reduceToNat, Int.cast_ofNat_Int, Int.reduceLT, Int.reduceLE, Int.reduceEq, Int.reduceNeg, Int.reduceAdd, Int.reduceSub, f0, f1, f4, n2, n3, sets0, tdiv1, tmod1, wv, i0, j0, i1, j1, i2, j2, i3, j3, Pe, Po, Pw, Px, Re, Ro, Rw, Rx, w1, w2, hs1, get_set, hid, List.set_set, List.length_set, Nat.mul_one, Nat.add_assoc, Nat.add_le_add_iff_left, Nat.le_add_left, true_and]
    repeat' ((with_reducible first | refine xG_dec ?_ ?_ | refine xG_ndec ?_ ?_ | refine xG_nsplit ?_ ?_ | refine xG_split ?_ ?_ | refine xC_dec ?_ ?_ | refine xC_ndec ?_ ?_ | refine xC_nsplit ?_ ?_ | refine xC_split ?_ ?_) <;> intro h <;> (try simp only [wCo, wFr, wOp, wBi, wLst, wLog, xB_other, Nat.reduceBEq, unT, loadP, storeP, partP, partT, partV, cellsP, mkAgg, allT, setRange, fillP, fieldA, indexS, indexA, indexV, indexStr, elems, lenP, pickV, cviV, nckV, extV, isNil, bound, close, close1, aft, retV, retSl, one, eqT, eqs, eq1, Nat.reduceEqDiff, Nat.reduceAdd, Nat.reduceSub, Nat.reduceMul, Nat.reduceLeDiff, Nat.reduceLT, Nat.one_ne_zero, Nat.zero_ne_one, reduceIte, reduceCtorEq, bne_self_eq_false, decide_true, decide_false, Int.reduceToNat, Int.cast_ofNat_Int, Int.reduceLT, Int.reduceLE, Int.reduceEq, Int.reduceNeg, Int.reduceAdd, Int.reduceSub, f0, f1, f4, n2, n3, sets0, tdiv1, tmod1, wv, i0, j0, i1, j1, i2, j2, i3, j3, Pe, Po, Pw, Px, Re, Ro, Rw, Rx, w1, w2, hs1, get_set, hid, List.set_set, List.length_set, Nat.mul_one, Nat.add_assoc, Nat.add_le_add_iff_left, Nat.le_add_left, true_and, h]))
    rw [← hNe, dgs_add, ← hve, dg4 hv', List.map_append, List.append_assoc, hR]
    rfl
  | [a0, a1, a2, a3, a4], hA' =>
    have hm' : m = 5 := by simpa using hA'.symm
    subst hm'
    have hv' : v < 100000 := by simpa using hv
    have wv : IntKind.u32.wrap (v : Int) = (v : Int) := IntWalk.u32_in _ (by omega)
    have i0 : IntKind.i64.wrap 0 = 0 := by decide
    have j0 : 0 < N := by simp at hA'; omega
    have i1 : IntKind.i64.wrap 1 = 1 := by decide
    have j1 : 1 < N := by simp at hA'; omega
    have i2 : IntKind.i64.wrap 2 = 2 := by decide
    have j2 : 2 < N := by simp at hA'; omega
    have i3 : IntKind.i64.wrap 3 = 3 := by decide
    have j3 : 3 < N := by simp at hA'; omega
    have i4 : IntKind.i64.wrap 4 = 4 := by decide
    have j4 : 4 < N := by simp at hA'; omega
    obtain ⟨Pe, Po⟩ := sml (v := v % 10000 / 100) (by omega)
    have Pw : IntKind.u32.wrap (((v % 10000 / 100 : Nat) : Int) * 2) = ((v % 10000 / 100 * 2 : Nat) : Int) := by rw [IntWalk.u32_in _ (by omega)]; omega
    have Px : IntKind.u32.wrap (((v % 10000 / 100 * 2 : Nat) : Int) + 1) = ((v % 10000 / 100 * 2 + 1 : Nat) : Int) := by rw [IntWalk.u32_in _ (by omega)]; omega
    obtain ⟨Re, Ro⟩ := sml (v := v % 10000 % 100) (by omega)
    have Rw : IntKind.u32.wrap (((v % 10000 % 100 : Nat) : Int) * 2) = ((v % 10000 % 100 * 2 : Nat) : Int) := by rw [IntWalk.u32_in _ (by omega)]; omega
    have Rx : IntKind.u32.wrap (((v % 10000 % 100 * 2 : Nat) : Int) + 1) = ((v % 10000 % 100 * 2 + 1 : Nat) : Int) := by rw [IntWalk.u32_in _ (by omega)]; omega
    have w1 : IntKind.u32.wrap ((v % 10000 / 100 : Nat) : Int) = ((v % 10000 / 100 : Nat) : Int) := IntWalk.u32_in _ (by omega)
    have w2 : IntKind.u32.wrap ((v / 10000 : Nat) : Int) = ((v / 10000 : Nat) : Int) := IntWalk.u32_in _ (by omega)
    have z1 : IntKind.u32.wrap (48 + ((v / 10000 : Nat) : Int)) = ((48 + v / 10000 : Nat) : Int) := by rw [IntWalk.u32_in _ (by omega)]; omega
    have z2 : IntKind.u8.wrap ((48 + v / 10000 : Nat) : Int) = ((UInt8.ofNat (48 + v / 10000)).toNat : Int) := by rw [IntWalk.u8_in _ (by omega), UInt8.toNat_ofNat']; omega
    simp only [List.cons_append, List.nil_append] at hs1 ⊢
    simp only [wCo, wFr, wOp, wBi, wLst, wLog, xB_other, Nat.reduceBEq, unT, loadP, storeP, partP, partT, partV, cellsP, mkAgg, allT, setRange, fillP, fieldA, indexS, indexA, indexV, indexStr, elems, lenP, pickV, cviV, nckV, extV, isNil, bound, close, close1, aft, retV, retSl, one, eqT, eqs, eq1, Nat.reduceEqDiff, Nat.reduceAdd, Nat.reduceSub, Nat.reduceMul, Nat.reduceLeDiff, Nat.reduceLT, Nat.one_ne_zero, Nat.zero_ne_one, reduceIte, reduceCtorEq, bne_self_eq_false, decide_true, decide_false, Int.reduceToNat, Int.cast_ofNat_Int, Int.reduceLT, Int.reduceLE, Int.reduceEq, Int.reduceNeg, Int.reduceAdd, Int.reduceSub, f0, f1, f4, n2, n3, sets0, tdiv1, tmod1, wv, i0, j0, i1, j1, i2, j2, i3, j3, i4, j4, Pe, Po, Pw, Px, Re, Ro, Rw, Rx, w1, w2, z1, z2, hs1, get_set, hid, List.set_set, List.length_set, Nat.mul_one, Nat.add_assoc, Nat.add_le_add_iff_left, Nat.le_add_left, true_and]
    repeat' ((with_reducible first | refine xG_dec ?_ ?_ | refine xG_ndec ?_ ?_ | refine xG_nsplit ?_ ?_ | refine xG_split ?_ ?_ | refine xC_dec ?_ ?_ | refine xC_ndec ?_ ?_ | refine xC_nsplit ?_ ?_ | refine xC_split ?_ ?_) <;> intro h <;> (try simp only [wCo, wFr, wOp, wBi, wLst, wLog, xB_other, Nat.reduceBEq, unT, loadP, storeP, partP, partT, partV, cellsP, mkAgg, allT, setRange, fillP, fieldA, indexS, indexA, indexV, indexStr, elems, lenP, pickV, cviV, nckV, extV, isNil, bound, close, close1, aft, retV, retSl, one, eqT, eqs, eq1, Nat.reduceEqDiff, Nat.reduceAdd, Nat.reduceSub, Nat.reduceMul, Nat.reduceLeDiff, Nat.reduceLT, Nat.one_ne_zero, Nat.zero_ne_one, reduceIte, reduceCtorEq, bne_self_eq_false, decide_true, decide_false, Int.reduceToNat, Int.cast_ofNat_Int, Int.reduceLT, Int.reduceLE, Int.reduceEq, Int.reduceNeg, Int.reduceAdd, Int.reduceSub, f0, f1, f4, n2, n3, sets0, tdiv1, tmod1, wv, i0, j0, i1, j1, i2, j2, i3, j3, i4, j4, Pe, Po, Pw, Px, Re, Ro, Rw, Rx, w1, w2, z1, z2, hs1, get_set, hid, List.set_set, List.length_set, Nat.mul_one, Nat.add_assoc, Nat.add_le_add_iff_left, Nat.le_add_left, true_and, h]))
    rw [← hNe, dgs_add, ← hve, dg5 hv', List.map_append, List.append_assoc, hR]
    rfl
  | [a0, a1, a2, a3, a4, a5], hA' =>
    have hm' : m = 6 := by simpa using hA'.symm
    subst hm'
    have hv' : v < 1000000 := by simpa using hv
    have wv : IntKind.u32.wrap (v : Int) = (v : Int) := IntWalk.u32_in _ (by omega)
    have i0 : IntKind.i64.wrap 0 = 0 := by decide
    have j0 : 0 < N := by simp at hA'; omega
    have i1 : IntKind.i64.wrap 1 = 1 := by decide
    have j1 : 1 < N := by simp at hA'; omega
    have i2 : IntKind.i64.wrap 2 = 2 := by decide
    have j2 : 2 < N := by simp at hA'; omega
    have i3 : IntKind.i64.wrap 3 = 3 := by decide
    have j3 : 3 < N := by simp at hA'; omega
    have i4 : IntKind.i64.wrap 4 = 4 := by decide
    have j4 : 4 < N := by simp at hA'; omega
    have i5 : IntKind.i64.wrap 5 = 5 := by decide
    have j5 : 5 < N := by simp at hA'; omega
    obtain ⟨Pe, Po⟩ := sml (v := v % 10000 / 100) (by omega)
    have Pw : IntKind.u32.wrap (((v % 10000 / 100 : Nat) : Int) * 2) = ((v % 10000 / 100 * 2 : Nat) : Int) := by rw [IntWalk.u32_in _ (by omega)]; omega
    have Px : IntKind.u32.wrap (((v % 10000 / 100 * 2 : Nat) : Int) + 1) = ((v % 10000 / 100 * 2 + 1 : Nat) : Int) := by rw [IntWalk.u32_in _ (by omega)]; omega
    obtain ⟨Re, Ro⟩ := sml (v := v % 10000 % 100) (by omega)
    have Rw : IntKind.u32.wrap (((v % 10000 % 100 : Nat) : Int) * 2) = ((v % 10000 % 100 * 2 : Nat) : Int) := by rw [IntWalk.u32_in _ (by omega)]; omega
    have Rx : IntKind.u32.wrap (((v % 10000 % 100 * 2 : Nat) : Int) + 1) = ((v % 10000 % 100 * 2 + 1 : Nat) : Int) := by rw [IntWalk.u32_in _ (by omega)]; omega
    have w1 : IntKind.u32.wrap ((v % 10000 / 100 : Nat) : Int) = ((v % 10000 / 100 : Nat) : Int) := IntWalk.u32_in _ (by omega)
    have w2 : IntKind.u32.wrap ((v / 10000 : Nat) : Int) = ((v / 10000 : Nat) : Int) := IntWalk.u32_in _ (by omega)
    obtain ⟨Te, To⟩ := sml (v := v / 10000 % 100) (by omega)
    have Tw : IntKind.u32.wrap (((v / 10000 % 100 : Nat) : Int) * 2) = ((v / 10000 % 100 * 2 : Nat) : Int) := by rw [IntWalk.u32_in _ (by omega)]; omega
    have Tx : IntKind.u32.wrap (((v / 10000 % 100 * 2 : Nat) : Int) + 1) = ((v / 10000 % 100 * 2 + 1 : Nat) : Int) := by rw [IntWalk.u32_in _ (by omega)]; omega
    have w3 : IntKind.u32.wrap ((v / 10000 / 100 : Nat) : Int) = ((v / 10000 / 100 : Nat) : Int) := IntWalk.u32_in _ (by omega)
    simp only [List.cons_append, List.nil_append] at hs1 ⊢
    simp only [wCo, wFr, wOp, wBi, wLst, wLog, xB_other, Nat.reduceBEq, unT, loadP, storeP, partP, partT, partV, cellsP, mkAgg, allT, setRange, fillP, fieldA, indexS, indexA, indexV, indexStr, elems, lenP, pickV, cviV, nckV, extV, isNil, bound, close, close1, aft, retV, retSl, one, eqT, eqs, eq1, Nat.reduceEqDiff, Nat.reduceAdd, Nat.reduceSub, Nat.reduceMul, Nat.reduceLeDiff, Nat.reduceLT, Nat.one_ne_zero, Nat.zero_ne_one, reduceIte, reduceCtorEq, bne_self_eq_false, decide_true, decide_false, Int.reduceToNat, Int.cast_ofNat_Int, Int.reduceLT, Int.reduceLE, Int.reduceEq, Int.reduceNeg, Int.reduceAdd, Int.reduceSub, f0, f1, f4, n2, n3, sets0, tdiv1, tmod1, wv, i0, j0, i1, j1, i2, j2, i3, j3, i4, j4, i5, j5, Pe, Po, Pw, Px, Re, Ro, Rw, Rx, w1, w2, Te, To, Tw, Tx, w3, hs1, get_set, hid, List.set_set, List.length_set, Nat.mul_one, Nat.add_assoc, Nat.add_le_add_iff_left, Nat.le_add_left, true_and]
    repeat' ((with_reducible first | refine xG_dec ?_ ?_ | refine xG_ndec ?_ ?_ | refine xG_nsplit ?_ ?_ | refine xG_split ?_ ?_ | refine xC_dec ?_ ?_ | refine xC_ndec ?_ ?_ | refine xC_nsplit ?_ ?_ | refine xC_split ?_ ?_) <;> intro h <;> (try simp only [wCo, wFr, wOp, wBi, wLst, wLog, xB_other, Nat.reduceBEq, unT, loadP, storeP, partP, partT, partV, cellsP, mkAgg, allT, setRange, fillP, fieldA, indexS, indexA, indexV, indexStr, elems, lenP, pickV, cviV, nckV, extV, isNil, bound, close, close1, aft, retV, retSl, one, eqT, eqs, eq1, Nat.reduceEqDiff, Nat.reduceAdd, Nat.reduceSub, Nat.reduceMul, Nat.reduceLeDiff, Nat.reduceLT, Nat.one_ne_zero, Nat.zero_ne_one, reduceIte, reduceCtorEq, bne_self_eq_false, decide_true, decide_false, Int.reduceToNat, Int.cast_ofNat_Int, Int.reduceLT, Int.reduceLE, Int.reduceEq, Int.reduceNeg, Int.reduceAdd, Int.reduceSub, f0, f1, f4, n2, n3, sets0, tdiv1, tmod1, wv, i0, j0, i1, j1, i2, j2, i3, j3, i4, j4, i5, j5, Pe, Po, Pw, Px, Re, Ro, Rw, Rx, w1, w2, Te, To, Tw, Tx, w3, hs1, get_set, hid, List.set_set, List.length_set, Nat.mul_one, Nat.add_assoc, Nat.add_le_add_iff_left, Nat.le_add_left, true_and, h]))
    rw [← hNe, dgs_add, ← hve, dg6 hv', List.map_append, List.append_assoc, hR]
    rfl
  | [a0, a1, a2, a3, a4, a5, a6], hA' =>
    have hm' : m = 7 := by simpa using hA'.symm
    subst hm'
    have hv' : v < 10000000 := by simpa using hv
    have wv : IntKind.u32.wrap (v : Int) = (v : Int) := IntWalk.u32_in _ (by omega)
    have i0 : IntKind.i64.wrap 0 = 0 := by decide
    have j0 : 0 < N := by simp at hA'; omega
    have i1 : IntKind.i64.wrap 1 = 1 := by decide
    have j1 : 1 < N := by simp at hA'; omega
    have i2 : IntKind.i64.wrap 2 = 2 := by decide
    have j2 : 2 < N := by simp at hA'; omega
    have i3 : IntKind.i64.wrap 3 = 3 := by decide
    have j3 : 3 < N := by simp at hA'; omega
    have i4 : IntKind.i64.wrap 4 = 4 := by decide
    have j4 : 4 < N := by simp at hA'; omega
    have i5 : IntKind.i64.wrap 5 = 5 := by decide
    have j5 : 5 < N := by simp at hA'; omega
    have i6 : IntKind.i64.wrap 6 = 6 := by decide
    have j6 : 6 < N := by simp at hA'; omega
    obtain ⟨Pe, Po⟩ := sml (v := v % 10000 / 100) (by omega)
    have Pw : IntKind.u32.wrap (((v % 10000 / 100 : Nat) : Int) * 2) = ((v % 10000 / 100 * 2 : Nat) : Int) := by rw [IntWalk.u32_in _ (by omega)]; omega
    have Px : IntKind.u32.wrap (((v % 10000 / 100 * 2 : Nat) : Int) + 1) = ((v % 10000 / 100 * 2 + 1 : Nat) : Int) := by rw [IntWalk.u32_in _ (by omega)]; omega
    obtain ⟨Re, Ro⟩ := sml (v := v % 10000 % 100) (by omega)
    have Rw : IntKind.u32.wrap (((v % 10000 % 100 : Nat) : Int) * 2) = ((v % 10000 % 100 * 2 : Nat) : Int) := by rw [IntWalk.u32_in _ (by omega)]; omega
    have Rx : IntKind.u32.wrap (((v % 10000 % 100 * 2 : Nat) : Int) + 1) = ((v % 10000 % 100 * 2 + 1 : Nat) : Int) := by rw [IntWalk.u32_in _ (by omega)]; omega
    have w1 : IntKind.u32.wrap ((v % 10000 / 100 : Nat) : Int) = ((v % 10000 / 100 : Nat) : Int) := IntWalk.u32_in _ (by omega)
    have w2 : IntKind.u32.wrap ((v / 10000 : Nat) : Int) = ((v / 10000 : Nat) : Int) := IntWalk.u32_in _ (by omega)
    obtain ⟨Te, To⟩ := sml (v := v / 10000 % 100) (by omega)
    have Tw : IntKind.u32.wrap (((v / 10000 % 100 : Nat) : Int) * 2) = ((v / 10000 % 100 * 2 : Nat) : Int) := by rw [IntWalk.u32_in _ (by omega)]; omega
    have Tx : IntKind.u32.wrap (((v / 10000 % 100 * 2 : Nat) : Int) + 1) = ((v / 10000 % 100 * 2 + 1 : Nat) : Int) := by rw [IntWalk.u32_in _ (by omega)]; omega
    have w3 : IntKind.u32.wrap ((v / 10000 / 100 : Nat) : Int) = ((v / 10000 / 100 : Nat) : Int) := IntWalk.u32_in _ (by omega)
    have z1 : IntKind.u32.wrap (48 + ((v / 10000 / 100 : Nat) : Int)) = ((48 + v / 10000 / 100 : Nat) : Int) := by rw [IntWalk.u32_in _ (by omega)]; omega
    have z2 : IntKind.u8.wrap ((48 + v / 10000 / 100 : Nat) : Int) = ((UInt8.ofNat (48 + v / 10000 / 100)).toNat : Int) := by rw [IntWalk.u8_in _ (by omega), UInt8.toNat_ofNat']; omega
    simp only [List.cons_append, List.nil_append] at hs1 ⊢
    simp only [wCo, wFr, wOp, wBi, wLst, wLog, xB_other, Nat.reduceBEq, unT, loadP, storeP, partP, partT, partV, cellsP, mkAgg, allT, setRange, fillP, fieldA, indexS, indexA, indexV, indexStr, elems, lenP, pickV, cviV, nckV, extV, isNil, bound, close, close1, aft, retV, retSl, one, eqT, eqs, eq1, Nat.reduceEqDiff, Nat.reduceAdd, Nat.reduceSub, Nat.reduceMul, Nat.reduceLeDiff, Nat.reduceLT, Nat.one_ne_zero, Nat.zero_ne_one, reduceIte, reduceCtorEq, bne_self_eq_false, decide_true, decide_false, Int.reduceToNat, Int.cast_ofNat_Int, Int.reduceLT, Int.reduceLE, Int.reduceEq, Int.reduceNeg, Int.reduceAdd, Int.reduceSub, f0, f1, f4, n2, n3, sets0, tdiv1, tmod1, wv, i0, j0, i1, j1, i2, j2, i3, j3, i4, j4, i5, j5, i6, j6, Pe, Po, Pw, Px, Re, Ro, Rw, Rx, w1, w2, Te, To, Tw, Tx, w3, z1, z2, hs1, get_set, hid, List.set_set, List.length_set, Nat.mul_one, Nat.add_assoc, Nat.add_le_add_iff_left, Nat.le_add_left, true_and]
    repeat' ((with_reducible first | refine xG_dec ?_ ?_ | refine xG_ndec ?_ ?_ | refine xG_nsplit ?_ ?_ | refine xG_split ?_ ?_ | refine xC_dec ?_ ?_ | refine xC_ndec ?_ ?_ | refine xC_nsplit ?_ ?_ | refine xC_split ?_ ?_) <;> intro h <;> (try simp only [wCo, wFr, wOp, wBi, wLst, wLog, xB_other, Nat.reduceBEq, unT, loadP, storeP, partP, partT, partV, cellsP, mkAgg, allT, setRange, fillP, fieldA, indexS, indexA, indexV, indexStr, elems, lenP, pickV, cviV, nckV, extV, isNil, bound, close, close1, aft, retV, retSl, one, eqT, eqs, eq1, Nat.reduceEqDiff, Nat.reduceAdd, Nat.reduceSub, Nat.reduceMul, Nat.reduceLeDiff, Nat.reduceLT, Nat.one_ne_zero, Nat.zero_ne_one, reduceIte, reduceCtorEq, bne_self_eq_false, decide_true, decide_false, Int.reduceToNat, Int.cast_ofNat_Int, Int.reduceLT, Int.reduceLE, Int.reduceEq, Int.reduceNeg, Int.reduceAdd, Int.reduceSub, f0, f1, f4, n2, n3, sets0, tdiv1, tmod1, wv, i0, j0, i1, j1, i2, j2, i3, j3, i4, j4, i5, j5, i6, j6, Pe, Po, Pw, Px, Re, Ro, Rw, Rx, w1, w2, Te, To, Tw, Tx, w3, z1, z2, hs1, get_set, hid, List.set_set, List.length_set, Nat.mul_one, Nat.add_assoc, Nat.add_le_add_iff_left, Nat.le_add_left, true_and, h]))
    rw [← hNe, dgs_add, ← hve, dg7 hv', List.map_append, List.append_assoc, hR]
    rfl
  | _ :: _ :: _ :: _ :: _ :: _ :: _ :: _ :: _, hA' => simp at hA'; omega
end Go.Proofs.YtbkphlhmbllbiaaDoor
