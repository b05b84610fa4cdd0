/- Contracts: Div64; the field's operations, the reference's. -/
import Derived.Test.YtbkphlhmbllbiaaDoorV6
import Derived.Test.YtbkphlhmbllbiaaDoorV1
set_option maxRecDepth 10000
set_option linter.unusedVariables false
set_option linter.unusedSimpArgs false
namespace Go.Proofs.YtbkphlhmbllbiaaDoor
open Go.Pi
variable {gl : Nat → Option (List T)}

theorem ok63 {hi lo y : Int} (h0 : 0 ≤ hi) (h1 : hi < y) (l0 : 0 ≤ lo) (l1 : lo ≤ 18446744073709551615) (y1 : y ≤ 18446744073709551615) {K : PV → Prop} :
    XcP F gl 63 [.int .u64 hi, .int .u64 lo, .int .u64 y] K ⟨⟩ ↔ K (.tup [.t (.int .u64 ((hi * 18446744073709551616 + lo) / y)), .t (.int .u64 ((hi * 18446744073709551616 + lo) % y))]) := by
  refine Ret.iff (Ret.of F63 rfl ?_)
  have c1 : ¬ (y = 0) := by omega
  have c2 : ¬ (y ≤ hi) := by omega
  simp only [ir63]
  by_cases hz : hi = 0
  · subst hz
    have t1 : lo.tdiv y = lo / y := Int.tdiv_eq_ediv_of_nonneg l0
    have t2 : lo.tmod y = lo % y := Int.tmod_eq_emod_of_nonneg l0
    have hd : lo / y ≤ lo := Int.ediv_le_self y l0
    have hd0 : 0 ≤ lo / y := Int.ediv_nonneg l0 (by omega)
    have t3 : IntKind.u64.wrap (lo / y) = lo / y := IntWalk.u64_in _ (by omega)
    simp only [wCo, wFr, wOp, wBi, wLst, wLog, xB_other, Nat.reduceBEq, unT, loadP, storeP, partP, partT, partV, cellsP, mkAgg, allT, setRange, fillP, fieldA, indexS, indexA, indexV, indexStr, elems, elemsS, lenP, pickV, cviV, nckV, extV, isNil, bound, close, close1, aft, retV, retSl, one, eqT, eqs, eq1, Nat.reduceEqDiff, Nat.reduceAdd, Nat.reduceSub, Nat.reduceMul, Nat.reduceLeDiff, Nat.reduceLT, Nat.one_ne_zero, Nat.zero_ne_one, reduceIte, reduceCtorEq, bne_self_eq_false, decide_true, decide_false, Int.reduceToNat, Int.cast_ofNat_Int, Int.reduceLT, Int.reduceLE, Int.reduceEq, Int.reduceNeg, Int.reduceAdd, Int.reduceSub, c1, c2, t1, t2, t3, Int.zero_mul, Int.zero_add]
    repeat' ((with_reducible first | refine xG_dec ?_ ?_ | refine xG_ndec ?_ ?_ | refine xG_nsplit ?_ ?_ | refine xG_split ?_ ?_ | refine xC_dec ?_ ?_ | refine xC_ndec ?_ ?_ | refine xC_nsplit ?_ ?_ | refine xC_split ?_ ?_) <;> intro h <;> (try simp only [wCo, wFr, wOp, wBi, wLst, wLog, xB_other, Nat.reduceBEq, unT, loadP, storeP, partP, partT, partV, cellsP, mkAgg, allT, setRange, fillP, fieldA, indexS, indexA, indexV, indexStr, elems, elemsS, lenP, pickV, cviV, nckV, extV, isNil, bound, close, close1, aft, retV, retSl, one, eqT, eqs, eq1, Nat.reduceEqDiff, Nat.reduceAdd, Nat.reduceSub, Nat.reduceMul, Nat.reduceLeDiff, Nat.reduceLT, Nat.one_ne_zero, Nat.zero_ne_one, reduceIte, reduceCtorEq, bne_self_eq_false, decide_true, decide_false, Int.reduceToNat, Int.cast_ofNat_Int, Int.reduceLT, Int.reduceLE, Int.reduceEq, Int.reduceNeg, Int.reduceAdd, Int.reduceSub, c1, c2, t1, t2, t3, Int.zero_mul, Int.zero_add, h]))
  · have hypos : 0 < y := by omega
    obtain ⟨s1, s2, s3⟩ := lenI_spec hypos
    have hl := lenI_le (x := y) (by omega) (k := 64) (by omega)
    obtain ⟨S, hS⟩ : ∃ S : Nat, 64 - lenI y = (S : Int) := ⟨(64 - lenI y).toNat, by omega⟩
    have a78 := @ok78 gl y (by omega) y1
    rw [hS] at a78
    have hle : S ≤ 64 := by omega
    have hle2 : 64 - S ≤ 64 := by omega
    have wS : IntKind.u64.wrap (S : Int) = (S : Int) := IntWalk.u64_in _ (by omega)
    have wS2 : IntKind.u64.wrap (64 - (S : Int)) = ((64 - S : Nat) : Int) := by rw [IntWalk.u64_in _ (by omega)]; omega
    have yb : 9223372036854775808 ≤ y * 2 ^ S ∧ y * 2 ^ S ≤ 18446744073709551615 := by
      have hp : (0 : Int) < 2 ^ S := Int.pow_pos (by decide)
      have e1 : (2 : Int) ^ (lenI y - 1).toNat * 2 ^ S = 9223372036854775808 := by
        rw [← Int.pow_add]
        have : (lenI y - 1).toNat + S = 63 := by omega
        rw [this]; decide
      have e2 : (2 : Int) ^ (lenI y).toNat * 2 ^ S = 18446744073709551616 := by
        rw [← Int.pow_add]
        have : (lenI y).toNat + S = 64 := by omega
        rw [this]; decide
      have b1 := Int.mul_le_mul_of_nonneg_right s1 (Int.le_of_lt hp)
      have b2 := Int.mul_lt_mul_of_pos_right s2 hp
      omega
    obtain ⟨yb0, yb1⟩ := yb
    obtain ⟨k1, k2, k3, k4, k5, k6⟩ := div64_setup h0 h1 l0 l1 hle yb0 yb1
    have wY : IntKind.u64.wrap (y * 2 ^ S) = y * 2 ^ S := IntWalk.u64_in _ (by omega)
    have wH : IntKind.u64.wrap (hi * 2 ^ S) = hi * 2 ^ S := IntWalk.u64_in _ (by omega)
    have wL : IntKind.u64.wrap (lo * 2 ^ S) = lo * 2 ^ S % 18446744073709551616 := u64_wrap _
    have wZ : lo.fdiv (2 ^ (64 - S)) = lo / 2 ^ (64 - S) := Int.fdiv_eq_ediv_of_nonneg _ (Int.le_of_lt (Int.pow_pos (by decide)))
    have wO := or_add (a := hi) (b := lo / 2 ^ (64 - S)) (s := S) h0 k3 k4 (by omega)
    have hend := @div64_end hi lo y (hi * 2 ^ S + lo / 2 ^ (64 - S)) (lo * 2 ^ S % 18446744073709551616)
    generalize hYe : y * 2 ^ S = Y at *
    generalize hLe : lo * 2 ^ S % 18446744073709551616 = L at *
    generalize hUe : hi * 2 ^ S + lo / 2 ^ (64 - S) = U at *
    have hL1 : L ≤ 18446744073709551615 := by omega
    have m1 := and_mask32 (x := Y) (by omega) (by omega)
    have m2 := and_mask32 (x := L) (by omega) (by omega)
    have hU0 : 0 ≤ U := by omega
    obtain ⟨d1, d2, d3, d4, d5, d6⟩ := digit_start (u := U) (un := L / 4294967296) (yn1 := Y / 4294967296) (yn0 := Y % 4294967296) (by omega) (by omega) (by omega) hU0 (by omega)
    have hYs : Y = Y / 4294967296 * 4294967296 + Y % 4294967296 := by omega
    rw [← hYs] at d6
    have n1 : ¬ (Y / 4294967296 = 0) := by omega
    have t1 : U.tdiv (Y / 4294967296) = U / (Y / 4294967296) := Int.tdiv_eq_ediv_of_nonneg hU0
    have t2 : IntKind.u64.wrap (U / (Y / 4294967296)) = U / (Y / 4294967296) := IntWalk.u64_in _ (by omega)
    have t3 : IntKind.u64.wrap (U - IntKind.u64.wrap (U / (Y / 4294967296) * (Y / 4294967296))) = U % (Y / 4294967296) := by
      have hm0 : 0 ≤ U / (Y / 4294967296) * (Y / 4294967296) := Int.mul_nonneg d1 (by omega)
      rw [IntWalk.u64_in (U / (Y / 4294967296) * (Y / 4294967296)) (by omega), IntWalk.u64_in _ (by omega)]; omega
    simp only [wCo, wFr, wOp, wBi, wLst, wLog, xB_other, Nat.reduceBEq, unT, loadP, storeP, partP, partT, partV, cellsP, mkAgg, allT, setRange, fillP, fieldA, indexS, indexA, indexV, indexStr, elems, elemsS, lenP, pickV, cviV, nckV, extV, isNil, bound, close, close1, aft, retV, retSl, one, eqT, eqs, eq1, Nat.reduceEqDiff, Nat.reduceAdd, Nat.reduceSub, Nat.reduceMul, Nat.reduceLeDiff, Nat.reduceLT, Nat.one_ne_zero, Nat.zero_ne_one, reduceIte, reduceCtorEq, bne_self_eq_false, decide_true, decide_false, Int.reduceToNat, Int.cast_ofNat_Int, Int.reduceLT, Int.reduceLE, Int.reduceEq, Int.reduceNeg, Int.reduceAdd, Int.reduceSub, c1, c2, hz, a78, wS, wS2, hle, hle2, hYe, wY, wH, wL, wZ, wO, hUe, m1, m2, n1, t1, t2, t3, IntKind.bits, Nat.min_def, Int.reducePow, Int.fdiv_eq_ediv_of_nonneg, Int.reduceLE]
    repeat' ((with_reducible first | refine xG_dec ?_ ?_ | refine xG_ndec ?_ ?_ | refine xG_nsplit ?_ ?_ | refine xG_split ?_ ?_ | refine xC_dec ?_ ?_ | refine xC_ndec ?_ ?_ | refine xC_nsplit ?_ ?_ | refine xC_split ?_ ?_) <;> intro h <;> (try simp only [wCo, wFr, wOp, wBi, wLst, wLog, xB_other, Nat.reduceBEq, unT, loadP, storeP, partP, partT, partV, cellsP, mkAgg, allT, setRange, fillP, fieldA, indexS, indexA, indexV, indexStr, elems, elemsS, lenP, pickV, cviV, nckV, extV, isNil, bound, close, close1, aft, retV, retSl, one, eqT, eqs, eq1, Nat.reduceEqDiff, Nat.reduceAdd, Nat.reduceSub, Nat.reduceMul, Nat.reduceLeDiff, Nat.reduceLT, Nat.one_ne_zero, Nat.zero_ne_one, reduceIte, reduceCtorEq, bne_self_eq_false, decide_true, decide_false, Int.reduceToNat, Int.cast_ofNat_Int, Int.reduceLT, Int.reduceLE, Int.reduceEq, Int.reduceNeg, Int.reduceAdd, Int.reduceSub, c1, c2, hz, a78, wS, wS2, hle, hle2, hYe, wY, wH, wL, wZ, wO, hUe, m1, m2, n1, t1, t2, t3, IntKind.bits, Nat.min_def, Int.reducePow, Int.fdiv_eq_ediv_of_nonneg, Int.reduceLE, h]))
    refine loop63a U (L / 4294967296) (Y / 4294967296) (Y % 4294967296) Y hYs (by omega) (by omega) (by omega) (by omega) (by omega) (by omega) hU0 (by omega) _ _ _ (.t (.int .u64 Y)) (.t (.int .u64 S)) (.t (.int .u64 U)) (.t (.int .u64 (L % 4294967296)))
      _ (U / (Y / 4294967296)) (U % (Y / 4294967296)) _ rfl d1 d2 d3 (by omega) d5 d6 ?_ ?_
    · simp only [FrAt_cons, FrAt_nil, wFr, Nat.reduceEqDiff, Nat.one_ne_zero, Nat.zero_ne_one, reduceIte, and_self, and_true, true_and]
    intro q1 fr qa qb qc qd hf
    simp only [FrAt_cons, FrAt_nil] at hf
    obtain ⟨f2, f8, f11, f14, f9, f10, f13, f15, -⟩ := hf
    have u2 : IntKind.u64.wrap (IntKind.u64.wrap (IntKind.u64.wrap (U * 4294967296) + L / 4294967296) - IntKind.u64.wrap (q1 * Y)) = U * 4294967296 + L / 4294967296 - q1 * Y := by
      simp only [u64_wrap]; omega
    obtain ⟨e1, e2, e3, e4, e5, e6⟩ := digit_start (u := U * 4294967296 + L / 4294967296 - q1 * Y) (un := L % 4294967296) (yn1 := Y / 4294967296) (yn0 := Y % 4294967296) (by omega) (by omega) (by omega) (by omega) (by omega)
    rw [← hYs] at e6
    have hV0 : 0 ≤ U * 4294967296 + L / 4294967296 - q1 * Y := by omega
    have hV1 : U * 4294967296 + L / 4294967296 - q1 * Y < Y := by omega
    have hh1 : U * 4294967296 + L / 4294967296 = q1 * Y + (U * 4294967296 + L / 4294967296 - q1 * Y) := by omega
    generalize U * 4294967296 + L / 4294967296 - q1 * Y = V at *
    have t4 : V.tdiv (Y / 4294967296) = V / (Y / 4294967296) := Int.tdiv_eq_ediv_of_nonneg hV0
    have t5 : IntKind.u64.wrap (V / (Y / 4294967296)) = V / (Y / 4294967296) := IntWalk.u64_in _ (by omega)
    have t6 : IntKind.u64.wrap (V - IntKind.u64.wrap (V / (Y / 4294967296) * (Y / 4294967296))) = V % (Y / 4294967296) := by
      have hm0 : 0 ≤ V / (Y / 4294967296) * (Y / 4294967296) := Int.mul_nonneg e1 (by omega)
      rw [IntWalk.u64_in (V / (Y / 4294967296) * (Y / 4294967296)) (by omega), IntWalk.u64_in _ (by omega)]; omega
    simp only [wCo, wFr, wOp, wBi, wLst, wLog, xB_other, Nat.reduceBEq, unT, loadP, storeP, partP, partT, partV, cellsP, mkAgg, allT, setRange, fillP, fieldA, indexS, indexA, indexV, indexStr, elems, elemsS, lenP, pickV, cviV, nckV, extV, isNil, bound, close, close1, aft, retV, retSl, one, eqT, eqs, eq1, Nat.reduceEqDiff, Nat.reduceAdd, Nat.reduceSub, Nat.reduceMul, Nat.reduceLeDiff, Nat.reduceLT, Nat.one_ne_zero, Nat.zero_ne_one, reduceIte, reduceCtorEq, bne_self_eq_false, decide_true, decide_false, Int.reduceToNat, Int.cast_ofNat_Int, Int.reduceLT, Int.reduceLE, Int.reduceEq, Int.reduceNeg, Int.reduceAdd, Int.reduceSub, f2, f8, f9, f10, f11, f13, f14, f15, u2, n1, t4, t5, t6]
    repeat' ((with_reducible first | refine xG_dec ?_ ?_ | refine xG_ndec ?_ ?_ | refine xG_nsplit ?_ ?_ | refine xG_split ?_ ?_ | refine xC_dec ?_ ?_ | refine xC_ndec ?_ ?_ | refine xC_nsplit ?_ ?_ | refine xC_split ?_ ?_) <;> intro h <;> (try simp only [wCo, wFr, wOp, wBi, wLst, wLog, xB_other, Nat.reduceBEq, unT, loadP, storeP, partP, partT, partV, cellsP, mkAgg, allT, setRange, fillP, fieldA, indexS, indexA, indexV, indexStr, elems, elemsS, lenP, pickV, cviV, nckV, extV, isNil, bound, close, close1, aft, retV, retSl, one, eqT, eqs, eq1, Nat.reduceEqDiff, Nat.reduceAdd, Nat.reduceSub, Nat.reduceMul, Nat.reduceLeDiff, Nat.reduceLT, Nat.one_ne_zero, Nat.zero_ne_one, reduceIte, reduceCtorEq, bne_self_eq_false, decide_true, decide_false, Int.reduceToNat, Int.cast_ofNat_Int, Int.reduceLT, Int.reduceLE, Int.reduceEq, Int.reduceNeg, Int.reduceAdd, Int.reduceSub, f2, f8, f9, f10, f11, f13, f14, f15, u2, n1, t4, t5, t6, h]))
    refine loop63b V (L % 4294967296) (Y / 4294967296) (Y % 4294967296) Y hYs (by omega) (by omega) (by omega) (by omega) (by omega) (by omega) hV0 hV1 _ _ _ (.t (.int .u64 Y)) (.t (.int .u64 S)) (.t (.int .u64 q1)) (.t (.int .u64 V))
      _ (V / (Y / 4294967296)) (V % (Y / 4294967296)) _ rfl e1 e2 e3 (by omega) e5 e6 ?_ ?_
    · simp only [FrAt_cons, FrAt_nil, wFr, Nat.reduceEqDiff, Nat.one_ne_zero, Nat.zero_ne_one, reduceIte, and_self, and_true, true_and, f2, f8, f9, f10, f14, f15]
    intro q0 fr ra rb rc rd hf
    simp only [FrAt_cons, FrAt_nil] at hf
    obtain ⟨g2, g8, g15, g17, g9, g10, g14, g18, -⟩ := hf
    obtain ⟨z1, z2⟩ := @hend q1 V q0 (V * 4294967296 + L % 4294967296 - q0 * Y) S hypos k6 (by rw [hYe]; exact hh1) (by rw [hYe]; omega) (by omega) (by rw [hYe]; omega)
    have v1 : IntKind.u64.wrap (IntKind.u64.wrap (IntKind.u64.wrap (V * 4294967296) + L % 4294967296) - IntKind.u64.wrap (q0 * Y)) = V * 4294967296 + L % 4294967296 - q0 * Y := by
      simp only [u64_wrap]; omega
    have v2 : (V * 4294967296 + L % 4294967296 - q0 * Y).fdiv (2 ^ S) = (V * 4294967296 + L % 4294967296 - q0 * Y) / 2 ^ S := Int.fdiv_eq_ediv_of_nonneg _ (Int.le_of_lt (Int.pow_pos (by decide)))
    have v3 : IntKind.u64.wrap (IntKind.u64.wrap (q1 * 4294967296) + q0) = q1 * 4294967296 + q0 := by
      simp only [u64_wrap]; omega
    simp only [wCo, wFr, wOp, wBi, wLst, wLog, xB_other, Nat.reduceBEq, unT, loadP, storeP, partP, partT, partV, cellsP, mkAgg, allT, setRange, fillP, fieldA, indexS, indexA, indexV, indexStr, elems, elemsS, lenP, pickV, cviV, nckV, extV, isNil, bound, close, close1, aft, retV, retSl, one, eqT, eqs, eq1, Nat.reduceEqDiff, Nat.reduceAdd, Nat.reduceSub, Nat.reduceMul, Nat.reduceLeDiff, Nat.reduceLT, Nat.one_ne_zero, Nat.zero_ne_one, reduceIte, reduceCtorEq, bne_self_eq_false, decide_true, decide_false, Int.reduceToNat, Int.cast_ofNat_Int, Int.reduceLT, Int.reduceLE, Int.reduceEq, Int.reduceNeg, Int.reduceAdd, Int.reduceSub, g2, g8, g9, g10, g14, g15, g17, g18, v1, v2, v3, hle, IntKind.bits, Nat.min_def, z1, z2]
    repeat' ((with_reducible first | refine xG_dec ?_ ?_ | refine xG_ndec ?_ ?_ | refine xG_nsplit ?_ ?_ | refine xG_split ?_ ?_ | refine xC_dec ?_ ?_ | refine xC_ndec ?_ ?_ | refine xC_nsplit ?_ ?_ | refine xC_split ?_ ?_) <;> intro h <;> (try simp only [wCo, wFr, wOp, wBi, wLst, wLog, xB_other, Nat.reduceBEq, unT, loadP, storeP, partP, partT, partV, cellsP, mkAgg, allT, setRange, fillP, fieldA, indexS, indexA, indexV, indexStr, elems, elemsS, lenP, pickV, cviV, nckV, extV, isNil, bound, close, close1, aft, retV, retSl, one, eqT, eqs, eq1, Nat.reduceEqDiff, Nat.reduceAdd, Nat.reduceSub, Nat.reduceMul, Nat.reduceLeDiff, Nat.reduceLT, Nat.one_ne_zero, Nat.zero_ne_one, reduceIte, reduceCtorEq, bne_self_eq_false, decide_true, decide_false, Int.reduceToNat, Int.cast_ofNat_Int, Int.reduceLT, Int.reduceLE, Int.reduceEq, Int.reduceNeg, Int.reduceAdd, Int.reduceSub, g2, g8, g9, g10, g14, g15, g17, g18, v1, v2, v3, hle, IntKind.bits, Nat.min_def, z1, z2, h]))

/-! ### The field -/
theorem known_bd {p : Int} (h : known p = true) : 17 ≤ p ∧ p ≤ 18446744069414584321 := by
  unfold known at h
  have := of_decide_eq_true h
  omega
def fadd (p a b : Int) : Int := if known p = true then (a + b) % p else 0
def fmul (p a b : Int) : Int := if known p = true then a * b % p else 0
theorem ok60 {p n : Int} (hp : 0 < p) (hn : 0 ≤ n) {K : PV → Prop} : XcP F gl 60 [.agg [.int .u64 p], .int .u64 n] K ⟨⟩ ↔ K (.t (.int .u64 (n % p))) := by
  refine Ret.iff (Ret.of F60 rfl ?_)
  have c : ¬ (p = 0) := by omega
  have t : n.tmod p = n % p := Int.tmod_eq_emod_of_nonneg hn
  simp only [ir60]
  simp only [wCo, wFr, wOp, wBi, wLst, wLog, xB_other, Nat.reduceBEq, unT, loadP, storeP, partP, partT, partV, cellsP, mkAgg, allT, setRange, fillP, fieldA, indexS, indexA, indexV, indexStr, elems, elemsS, lenP, pickV, cviV, nckV, extV, isNil, bound, close, close1, aft, retV, retSl, one, eqT, eqs, eq1, Nat.reduceEqDiff, Nat.reduceAdd, Nat.reduceSub, Nat.reduceMul, Nat.reduceLeDiff, Nat.reduceLT, Nat.one_ne_zero, Nat.zero_ne_one, reduceIte, reduceCtorEq, bne_self_eq_false, decide_true, decide_false, Int.reduceToNat, Int.cast_ofNat_Int, Int.reduceLT, Int.reduceLE, Int.reduceEq, Int.reduceNeg, Int.reduceAdd, Int.reduceSub, c, t]
  repeat' ((with_reducible first | refine xG_dec ?_ ?_ | refine xG_ndec ?_ ?_ | refine xG_nsplit ?_ ?_ | refine xG_split ?_ ?_ | refine xC_dec ?_ ?_ | refine xC_ndec ?_ ?_ | refine xC_nsplit ?_ ?_ | refine xC_split ?_ ?_) <;> intro h <;> (try simp only [wCo, wFr, wOp, wBi, wLst, wLog, xB_other, Nat.reduceBEq, unT, loadP, storeP, partP, partT, partV, cellsP, mkAgg, allT, setRange, fillP, fieldA, indexS, indexA, indexV, indexStr, elems, elemsS, lenP, pickV, cviV, nckV, extV, isNil, bound, close, close1, aft, retV, retSl, one, eqT, eqs, eq1, Nat.reduceEqDiff, Nat.reduceAdd, Nat.reduceSub, Nat.reduceMul, Nat.reduceLeDiff, Nat.reduceLT, Nat.one_ne_zero, Nat.zero_ne_one, reduceIte, reduceCtorEq, bne_self_eq_false, decide_true, decide_false, Int.reduceToNat, Int.cast_ofNat_Int, Int.reduceLT, Int.reduceLE, Int.reduceEq, Int.reduceNeg, Int.reduceAdd, Int.reduceSub, c, t, h]))
  rw [Int.emod_eq_of_lt hn (by omega)]
theorem ok59 {p a b : Int} (hp : p ≤ 18446744073709551615) (ha : 0 ≤ a) (ha1 : a < p) (hb : 0 ≤ b) (hb1 : b < p) {K : PV → Prop} : XcP F gl 59 [.agg [.int .u64 p], .int .u64 a, .int .u64 b] K ⟨⟩ ↔ K (.t (.int .u64 ((a + b) % p))) := by
  refine Ret.iff (Ret.of F59 rfl ?_)
  have h01 : (0 : Int) ≤ 1 := by decide
  simp only [ir59]
  have hm : (a + b) % p = if a + b < p then a + b else a + b - p := by
    split
    · exact Int.emod_eq_of_lt (by omega) (by assumption)
    · rw [← Int.sub_emod_right, Int.emod_eq_of_lt (by omega) (by omega)]
  simp only [wCo, wFr, wOp, wBi, wLst, wLog, xB_other, Nat.reduceBEq, unT, loadP, storeP, partP, partT, partV, cellsP, mkAgg, allT, setRange, fillP, fieldA, indexS, indexA, indexV, indexStr, elems, elemsS, lenP, pickV, cviV, nckV, extV, isNil, bound, close, close1, aft, retV, retSl, one, eqT, eqs, eq1, Nat.reduceEqDiff, Nat.reduceAdd, Nat.reduceSub, Nat.reduceMul, Nat.reduceLeDiff, Nat.reduceLT, Nat.one_ne_zero, Nat.zero_ne_one, reduceIte, reduceCtorEq, bne_self_eq_false, decide_true, decide_false, Int.reduceToNat, Int.cast_ofNat_Int, Int.reduceLT, Int.reduceLE, Int.reduceEq, Int.reduceNeg, Int.reduceAdd, Int.reduceSub, xfun, ha, hb, h01, Int.add_zero, u64_wrap]
  repeat' ((with_reducible first | refine xG_dec ?_ ?_ | refine xG_ndec ?_ ?_ | refine xG_nsplit ?_ ?_ | refine xG_split ?_ ?_ | refine xC_dec ?_ ?_ | refine xC_ndec ?_ ?_ | refine xC_nsplit ?_ ?_ | refine xC_split ?_ ?_) <;> intro h <;> (try simp only [wCo, wFr, wOp, wBi, wLst, wLog, xB_other, Nat.reduceBEq, unT, loadP, storeP, partP, partT, partV, cellsP, mkAgg, allT, setRange, fillP, fieldA, indexS, indexA, indexV, indexStr, elems, elemsS, lenP, pickV, cviV, nckV, extV, isNil, bound, close, close1, aft, retV, retSl, one, eqT, eqs, eq1, Nat.reduceEqDiff, Nat.reduceAdd, Nat.reduceSub, Nat.reduceMul, Nat.reduceLeDiff, Nat.reduceLT, Nat.one_ne_zero, Nat.zero_ne_one, reduceIte, reduceCtorEq, bne_self_eq_false, decide_true, decide_false, Int.reduceToNat, Int.cast_ofNat_Int, Int.reduceLT, Int.reduceLE, Int.reduceEq, Int.reduceNeg, Int.reduceAdd, Int.reduceSub, xfun, ha, hb, h01, Int.add_zero, u64_wrap, h]))
  all_goals rw [hm]
  all_goals split
  all_goals first | (exfalso; omega) | (congr 2; omega)
theorem mul_lt {p a b : Int} (ha : 0 ≤ a) (ha1 : a < p) (hb : 0 ≤ b) (hb1 : b < p) : 0 ≤ a * b ∧ a * b < p * p := by
  refine ⟨Int.mul_nonneg ha hb, ?_⟩
  have h1 : a * b ≤ (p - 1) * p := Int.mul_le_mul (by omega) (by omega) hb (by omega)
  rw [Int.sub_mul, Int.one_mul] at h1
  omega
theorem ok61 {p a b : Int} (hp : p ≤ 18446744073709551615) (ha : 0 ≤ a) (ha1 : a < p) (hb : 0 ≤ b) (hb1 : b < p) {K : PV → Prop} : XcP F gl 61 [.agg [.int .u64 p], .int .u64 a, .int .u64 b] K ⟨⟩ ↔ K (.t (.int .u64 (a * b % p))) := by
  refine Ret.iff (Ret.of F61 rfl ?_)
  obtain ⟨m0, m1⟩ := mul_lt ha ha1 hb hb1
  have m2 : p * p ≤ p * 18446744073709551616 := Int.mul_le_mul_of_nonneg_left (by omega) (by omega)
  have hhi : a * b / 18446744073709551616 < p := Int.ediv_lt_of_lt_mul (by decide) (by omega)
  have a62 := @ok62 gl a b ha (by omega) hb (by omega)
  have a63 := @ok63 gl (a * b / 18446744073709551616) (a * b % 18446744073709551616) p (by omega) hhi (by omega) (by omega) hp
  have e : a * b / 18446744073709551616 * 18446744073709551616 + a * b % 18446744073709551616 = a * b := by omega
  rw [e] at a63
  simp only [ir61]
  simp only [wCo, wFr, wOp, wBi, wLst, wLog, xB_other, Nat.reduceBEq, unT, loadP, storeP, partP, partT, partV, cellsP, mkAgg, allT, setRange, fillP, fieldA, indexS, indexA, indexV, indexStr, elems, elemsS, lenP, pickV, cviV, nckV, extV, isNil, bound, close, close1, aft, retV, retSl, one, eqT, eqs, eq1, Nat.reduceEqDiff, Nat.reduceAdd, Nat.reduceSub, Nat.reduceMul, Nat.reduceLeDiff, Nat.reduceLT, Nat.one_ne_zero, Nat.zero_ne_one, reduceIte, reduceCtorEq, bne_self_eq_false, decide_true, decide_false, Int.reduceToNat, Int.cast_ofNat_Int, Int.reduceLT, Int.reduceLE, Int.reduceEq, Int.reduceNeg, Int.reduceAdd, Int.reduceSub, a62, a63]
  repeat' ((with_reducible first | refine xG_dec ?_ ?_ | refine xG_ndec ?_ ?_ | refine xG_nsplit ?_ ?_ | refine xG_split ?_ ?_ | refine xC_dec ?_ ?_ | refine xC_ndec ?_ ?_ | refine xC_nsplit ?_ ?_ | refine xC_split ?_ ?_) <;> intro h <;> (try simp only [wCo, wFr, wOp, wBi, wLst, wLog, xB_other, Nat.reduceBEq, unT, loadP, storeP, partP, partT, partV, cellsP, mkAgg, allT, setRange, fillP, fieldA, indexS, indexA, indexV, indexStr, elems, elemsS, lenP, pickV, cviV, nckV, extV, isNil, bound, close, close1, aft, retV, retSl, one, eqT, eqs, eq1, Nat.reduceEqDiff, Nat.reduceAdd, Nat.reduceSub, Nat.reduceMul, Nat.reduceLeDiff, Nat.reduceLT, Nat.one_ne_zero, Nat.zero_ne_one, reduceIte, reduceCtorEq, bne_self_eq_false, decide_true, decide_false, Int.reduceToNat, Int.cast_ofNat_Int, Int.reduceLT, Int.reduceLE, Int.reduceEq, Int.reduceNeg, Int.reduceAdd, Int.reduceSub, a62, a63, h]))
theorem ok33 {p a b : Int} (ha : 0 ≤ a) (hb : 0 ≤ b) {K : PV → Prop} : XcP F gl 33 [.agg [.int .u64 p], .int .u64 a, .int .u64 b] K ⟨⟩ ↔ K (.t (.int .u64 (fadd p a b))) := by
  refine Ret.iff (Ret.of F33 rfl ?_)
  simp only [ir33]
  cases hk : known p with
  | false =>
    simp only [wCo, wFr, wOp, wBi, wLst, wLog, xB_other, Nat.reduceBEq, unT, loadP, storeP, partP, partT, partV, cellsP, mkAgg, allT, setRange, fillP, fieldA, indexS, indexA, indexV, indexStr, elems, elemsS, lenP, pickV, cviV, nckV, extV, isNil, bound, close, close1, aft, retV, retSl, one, eqT, eqs, eq1, Nat.reduceEqDiff, Nat.reduceAdd, Nat.reduceSub, Nat.reduceMul, Nat.reduceLeDiff, Nat.reduceLT, Nat.one_ne_zero, Nat.zero_ne_one, reduceIte, reduceCtorEq, bne_self_eq_false, decide_true, decide_false, Int.reduceToNat, Int.cast_ofNat_Int, Int.reduceLT, Int.reduceLE, Int.reduceEq, Int.reduceNeg, Int.reduceAdd, Int.reduceSub, ok55, hk]
    repeat' ((with_reducible first | refine xG_dec ?_ ?_ | refine xG_ndec ?_ ?_ | refine xG_nsplit ?_ ?_ | refine xG_split ?_ ?_ | refine xC_dec ?_ ?_ | refine xC_ndec ?_ ?_ | refine xC_nsplit ?_ ?_ | refine xC_split ?_ ?_) <;> intro h <;> (try simp only [wCo, wFr, wOp, wBi, wLst, wLog, xB_other, Nat.reduceBEq, unT, loadP, storeP, partP, partT, partV, cellsP, mkAgg, allT, setRange, fillP, fieldA, indexS, indexA, indexV, indexStr, elems, elemsS, lenP, pickV, cviV, nckV, extV, isNil, bound, close, close1, aft, retV, retSl, one, eqT, eqs, eq1, Nat.reduceEqDiff, Nat.reduceAdd, Nat.reduceSub, Nat.reduceMul, Nat.reduceLeDiff, Nat.reduceLT, Nat.one_ne_zero, Nat.zero_ne_one, reduceIte, reduceCtorEq, bne_self_eq_false, decide_true, decide_false, Int.reduceToNat, Int.cast_ofNat_Int, Int.reduceLT, Int.reduceLE, Int.reduceEq, Int.reduceNeg, Int.reduceAdd, Int.reduceSub, ok55, hk, h]))
    simp [fadd, hk]
  | true =>
    obtain ⟨b1, b2⟩ := known_bd hk
    have a1 := @ok60 gl p a (by omega) ha
    have a2 := @ok60 gl p b (by omega) hb
    have a3 := @ok59 gl p (a % p) (b % p) (by omega) (Int.emod_nonneg _ (by omega)) (Int.emod_lt_of_pos _ (by omega)) (Int.emod_nonneg _ (by omega)) (Int.emod_lt_of_pos _ (by omega))
    simp only [wCo, wFr, wOp, wBi, wLst, wLog, xB_other, Nat.reduceBEq, unT, loadP, storeP, partP, partT, partV, cellsP, mkAgg, allT, setRange, fillP, fieldA, indexS, indexA, indexV, indexStr, elems, elemsS, lenP, pickV, cviV, nckV, extV, isNil, bound, close, close1, aft, retV, retSl, one, eqT, eqs, eq1, Nat.reduceEqDiff, Nat.reduceAdd, Nat.reduceSub, Nat.reduceMul, Nat.reduceLeDiff, Nat.reduceLT, Nat.one_ne_zero, Nat.zero_ne_one, reduceIte, reduceCtorEq, bne_self_eq_false, decide_true, decide_false, Int.reduceToNat, Int.cast_ofNat_Int, Int.reduceLT, Int.reduceLE, Int.reduceEq, Int.reduceNeg, Int.reduceAdd, Int.reduceSub, ok55, hk, a1, a2, a3]
    repeat' ((with_reducible first | refine xG_dec ?_ ?_ | refine xG_ndec ?_ ?_ | refine xG_nsplit ?_ ?_ | refine xG_split ?_ ?_ | refine xC_dec ?_ ?_ | refine xC_ndec ?_ ?_ | refine xC_nsplit ?_ ?_ | refine xC_split ?_ ?_) <;> intro h <;> (try simp only [wCo, wFr, wOp, wBi, wLst, wLog, xB_other, Nat.reduceBEq, unT, loadP, storeP, partP, partT, partV, cellsP, mkAgg, allT, setRange, fillP, fieldA, indexS, indexA, indexV, indexStr, elems, elemsS, lenP, pickV, cviV, nckV, extV, isNil, bound, close, close1, aft, retV, retSl, one, eqT, eqs, eq1, Nat.reduceEqDiff, Nat.reduceAdd, Nat.reduceSub, Nat.reduceMul, Nat.reduceLeDiff, Nat.reduceLT, Nat.one_ne_zero, Nat.zero_ne_one, reduceIte, reduceCtorEq, bne_self_eq_false, decide_true, decide_false, Int.reduceToNat, Int.cast_ofNat_Int, Int.reduceLT, Int.reduceLE, Int.reduceEq, Int.reduceNeg, Int.reduceAdd, Int.reduceSub, ok55, hk, a1, a2, a3, h]))
    simp [fadd, hk, Int.add_emod]
theorem ok34 {p a b : Int} (ha : 0 ≤ a) (hb : 0 ≤ b) {K : PV → Prop} : XcP F gl 34 [.agg [.int .u64 p], .int .u64 a, .int .u64 b] K ⟨⟩ ↔ K (.t (.int .u64 (fmul p a b))) := by
  refine Ret.iff (Ret.of F34 rfl ?_)
  simp only [ir34]
  cases hk : known p with
  | false =>
    simp only [wCo, wFr, wOp, wBi, wLst, wLog, xB_other, Nat.reduceBEq, unT, loadP, storeP, partP, partT, partV, cellsP, mkAgg, allT, setRange, fillP, fieldA, indexS, indexA, indexV, indexStr, elems, elemsS, lenP, pickV, cviV, nckV, extV, isNil, bound, close, close1, aft, retV, retSl, one, eqT, eqs, eq1, Nat.reduceEqDiff, Nat.reduceAdd, Nat.reduceSub, Nat.reduceMul, Nat.reduceLeDiff, Nat.reduceLT, Nat.one_ne_zero, Nat.zero_ne_one, reduceIte, reduceCtorEq, bne_self_eq_false, decide_true, decide_false, Int.reduceToNat, Int.cast_ofNat_Int, Int.reduceLT, Int.reduceLE, Int.reduceEq, Int.reduceNeg, Int.reduceAdd, Int.reduceSub, ok55, hk]
    repeat' ((with_reducible first | refine xG_dec ?_ ?_ | refine xG_ndec ?_ ?_ | refine xG_nsplit ?_ ?_ | refine xG_split ?_ ?_ | refine xC_dec ?_ ?_ | refine xC_ndec ?_ ?_ | refine xC_nsplit ?_ ?_ | refine xC_split ?_ ?_) <;> intro h <;> (try simp only [wCo, wFr, wOp, wBi, wLst, wLog, xB_other, Nat.reduceBEq, unT, loadP, storeP, partP, partT, partV, cellsP, mkAgg, allT, setRange, fillP, fieldA, indexS, indexA, indexV, indexStr, elems, elemsS, lenP, pickV, cviV, nckV, extV, isNil, bound, close, close1, aft, retV, retSl, one, eqT, eqs, eq1, Nat.reduceEqDiff, Nat.reduceAdd, Nat.reduceSub, Nat.reduceMul, Nat.reduceLeDiff, Nat.reduceLT, Nat.one_ne_zero, Nat.zero_ne_one, reduceIte, reduceCtorEq, bne_self_eq_false, decide_true, decide_false, Int.reduceToNat, Int.cast_ofNat_Int, Int.reduceLT, Int.reduceLE, Int.reduceEq, Int.reduceNeg, Int.reduceAdd, Int.reduceSub, ok55, hk, h]))
    simp [fmul, hk]
  | true =>
    obtain ⟨b1, b2⟩ := known_bd hk
    have a1 := @ok60 gl p a (by omega) ha
    have a2 := @ok60 gl p b (by omega) hb
    have a3 := @ok61 gl p (a % p) (b % p) (by omega) (Int.emod_nonneg _ (by omega)) (Int.emod_lt_of_pos _ (by omega)) (Int.emod_nonneg _ (by omega)) (Int.emod_lt_of_pos _ (by omega))
    simp only [wCo, wFr, wOp, wBi, wLst, wLog, xB_other, Nat.reduceBEq, unT, loadP, storeP, partP, partT, partV, cellsP, mkAgg, allT, setRange, fillP, fieldA, indexS, indexA, indexV, indexStr, elems, elemsS, lenP, pickV, cviV, nckV, extV, isNil, bound, close, close1, aft, retV, retSl, one, eqT, eqs, eq1, Nat.reduceEqDiff, Nat.reduceAdd, Nat.reduceSub, Nat.reduceMul, Nat.reduceLeDiff, Nat.reduceLT, Nat.one_ne_zero, Nat.zero_ne_one, reduceIte, reduceCtorEq, bne_self_eq_false, decide_true, decide_false, Int.reduceToNat, Int.cast_ofNat_Int, Int.reduceLT, Int.reduceLE, Int.reduceEq, Int.reduceNeg, Int.reduceAdd, Int.reduceSub, ok55, hk, a1, a2, a3]
    repeat' ((with_reducible first | refine xG_dec ?_ ?_ | refine xG_ndec ?_ ?_ | refine xG_nsplit ?_ ?_ | refine xG_split ?_ ?_ | refine xC_dec ?_ ?_ | refine xC_ndec ?_ ?_ | refine xC_nsplit ?_ ?_ | refine xC_split ?_ ?_) <;> intro h <;> (try simp only [wCo, wFr, wOp, wBi, wLst, wLog, xB_other, Nat.reduceBEq, unT, loadP, storeP, partP, partT, partV, cellsP, mkAgg, allT, setRange, fillP, fieldA, indexS, indexA, indexV, indexStr, elems, elemsS, lenP, pickV, cviV, nckV, extV, isNil, bound, close, close1, aft, retV, retSl, one, eqT, eqs, eq1, Nat.reduceEqDiff, Nat.reduceAdd, Nat.reduceSub, Nat.reduceMul, Nat.reduceLeDiff, Nat.reduceLT, Nat.one_ne_zero, Nat.zero_ne_one, reduceIte, reduceCtorEq, bne_self_eq_false, decide_true, decide_false, Int.reduceToNat, Int.cast_ofNat_Int, Int.reduceLT, Int.reduceLE, Int.reduceEq, Int.reduceNeg, Int.reduceAdd, Int.reduceSub, ok55, hk, a1, a2, a3, h]))
    simp [fmul, hk, Int.mul_emod]
theorem ok35 {p a b : Int} (ha : 0 ≤ a) (hb : 0 ≤ b) {K : PV → Prop} : XcP F gl 35 [.int .u64 p, .int .u64 a, .int .u64 b] K ⟨⟩ ↔ K (.t (.int .u64 (fadd p a b))) := by
  refine Ret.iff (Ret.of F35 rfl ?_)
  simp only [ir35]
  cases hk : known p with
  | false =>
    simp only [wCo, wFr, wOp, wBi, wLst, wLog, xB_other, Nat.reduceBEq, unT, loadP, storeP, partP, partT, partV, cellsP, mkAgg, allT, setRange, fillP, fieldA, indexS, indexA, indexV, indexStr, elems, elemsS, lenP, pickV, cviV, nckV, extV, isNil, bound, close, close1, aft, retV, retSl, one, eqT, eqs, eq1, Nat.reduceEqDiff, Nat.reduceAdd, Nat.reduceSub, Nat.reduceMul, Nat.reduceLeDiff, Nat.reduceLT, Nat.one_ne_zero, Nat.zero_ne_one, reduceIte, reduceCtorEq, bne_self_eq_false, decide_true, decide_false, Int.reduceToNat, Int.cast_ofNat_Int, Int.reduceLT, Int.reduceLE, Int.reduceEq, Int.reduceNeg, Int.reduceAdd, Int.reduceSub, ok31, hk]
    repeat' ((with_reducible first | refine xG_dec ?_ ?_ | refine xG_ndec ?_ ?_ | refine xG_nsplit ?_ ?_ | refine xG_split ?_ ?_ | refine xC_dec ?_ ?_ | refine xC_ndec ?_ ?_ | refine xC_nsplit ?_ ?_ | refine xC_split ?_ ?_) <;> intro h <;> (try simp only [wCo, wFr, wOp, wBi, wLst, wLog, xB_other, Nat.reduceBEq, unT, loadP, storeP, partP, partT, partV, cellsP, mkAgg, allT, setRange, fillP, fieldA, indexS, indexA, indexV, indexStr, elems, elemsS, lenP, pickV, cviV, nckV, extV, isNil, bound, close, close1, aft, retV, retSl, one, eqT, eqs, eq1, Nat.reduceEqDiff, Nat.reduceAdd, Nat.reduceSub, Nat.reduceMul, Nat.reduceLeDiff, Nat.reduceLT, Nat.one_ne_zero, Nat.zero_ne_one, reduceIte, reduceCtorEq, bne_self_eq_false, decide_true, decide_false, Int.reduceToNat, Int.cast_ofNat_Int, Int.reduceLT, Int.reduceLE, Int.reduceEq, Int.reduceNeg, Int.reduceAdd, Int.reduceSub, ok31, hk, h]))
    simp [fadd, hk]
  | true =>
    obtain ⟨b1, b2⟩ := known_bd hk
    have c : ¬ (p = 0) := by omega
    have t1 : a.tmod p = a % p := Int.tmod_eq_emod_of_nonneg ha
    have t2 : b.tmod p = b % p := Int.tmod_eq_emod_of_nonneg hb
    have r1 := Int.emod_nonneg a c
    have r2 := Int.emod_nonneg b c
    have r3 := Int.emod_lt_of_pos a (b := p) (by omega)
    have r4 := Int.emod_lt_of_pos b (b := p) (by omega)
    have w1 : IntKind.u64.wrap (p - b % p) = p - b % p := IntWalk.u64_in _ (by omega)
    have hm : fadd p a b = if a % p + b % p < p then a % p + b % p else a % p - (p - b % p) := by
      simp only [fadd, hk, if_true]
      rw [Int.add_emod]
      split
      · exact Int.emod_eq_of_lt (by omega) (by assumption)
      · rw [← Int.sub_emod_right, Int.emod_eq_of_lt (by omega) (by omega)]
        omega
    simp only [wCo, wFr, wOp, wBi, wLst, wLog, xB_other, Nat.reduceBEq, unT, loadP, storeP, partP, partT, partV, cellsP, mkAgg, allT, setRange, fillP, fieldA, indexS, indexA, indexV, indexStr, elems, elemsS, lenP, pickV, cviV, nckV, extV, isNil, bound, close, close1, aft, retV, retSl, one, eqT, eqs, eq1, Nat.reduceEqDiff, Nat.reduceAdd, Nat.reduceSub, Nat.reduceMul, Nat.reduceLeDiff, Nat.reduceLT, Nat.one_ne_zero, Nat.zero_ne_one, reduceIte, reduceCtorEq, bne_self_eq_false, decide_true, decide_false, Int.reduceToNat, Int.cast_ofNat_Int, Int.reduceLT, Int.reduceLE, Int.reduceEq, Int.reduceNeg, Int.reduceAdd, Int.reduceSub, ok31, hk, c, t1, t2, w1]
    repeat' ((with_reducible first | refine xG_dec ?_ ?_ | refine xG_ndec ?_ ?_ | refine xG_nsplit ?_ ?_ | refine xG_split ?_ ?_ | refine xC_dec ?_ ?_ | refine xC_ndec ?_ ?_ | refine xC_nsplit ?_ ?_ | refine xC_split ?_ ?_) <;> intro h <;> (try simp only [wCo, wFr, wOp, wBi, wLst, wLog, xB_other, Nat.reduceBEq, unT, loadP, storeP, partP, partT, partV, cellsP, mkAgg, allT, setRange, fillP, fieldA, indexS, indexA, indexV, indexStr, elems, elemsS, lenP, pickV, cviV, nckV, extV, isNil, bound, close, close1, aft, retV, retSl, one, eqT, eqs, eq1, Nat.reduceEqDiff, Nat.reduceAdd, Nat.reduceSub, Nat.reduceMul, Nat.reduceLeDiff, Nat.reduceLT, Nat.one_ne_zero, Nat.zero_ne_one, reduceIte, reduceCtorEq, bne_self_eq_false, decide_true, decide_false, Int.reduceToNat, Int.cast_ofNat_Int, Int.reduceLT, Int.reduceLE, Int.reduceEq, Int.reduceNeg, Int.reduceAdd, Int.reduceSub, ok31, hk, c, t1, t2, w1, h]))
    · rw [hm, if_neg (by omega), IntWalk.u64_in _ (by omega)]
    · rw [hm, if_pos (by omega), IntWalk.u64_in _ (by omega)]
theorem ok36 {p a b : Int} (ha : 0 ≤ a) (hb : 0 ≤ b) {K : PV → Prop} : XcP F gl 36 [.int .u64 p, .int .u64 a, .int .u64 b] K ⟨⟩ ↔ K (.t (.int .u64 (fmul p a b))) := by
  refine Ret.iff (Ret.of F36 rfl ?_)
  simp only [ir36]
  cases hk : known p with
  | false =>
    simp only [wCo, wFr, wOp, wBi, wLst, wLog, xB_other, Nat.reduceBEq, unT, loadP, storeP, partP, partT, partV, cellsP, mkAgg, allT, setRange, fillP, fieldA, indexS, indexA, indexV, indexStr, elems, elemsS, lenP, pickV, cviV, nckV, extV, isNil, bound, close, close1, aft, retV, retSl, one, eqT, eqs, eq1, Nat.reduceEqDiff, Nat.reduceAdd, Nat.reduceSub, Nat.reduceMul, Nat.reduceLeDiff, Nat.reduceLT, Nat.one_ne_zero, Nat.zero_ne_one, reduceIte, reduceCtorEq, bne_self_eq_false, decide_true, decide_false, Int.reduceToNat, Int.cast_ofNat_Int, Int.reduceLT, Int.reduceLE, Int.reduceEq, Int.reduceNeg, Int.reduceAdd, Int.reduceSub, ok31, hk]
    repeat' ((with_reducible first | refine xG_dec ?_ ?_ | refine xG_ndec ?_ ?_ | refine xG_nsplit ?_ ?_ | refine xG_split ?_ ?_ | refine xC_dec ?_ ?_ | refine xC_ndec ?_ ?_ | refine xC_nsplit ?_ ?_ | refine xC_split ?_ ?_) <;> intro h <;> (try simp only [wCo, wFr, wOp, wBi, wLst, wLog, xB_other, Nat.reduceBEq, unT, loadP, storeP, partP, partT, partV, cellsP, mkAgg, allT, setRange, fillP, fieldA, indexS, indexA, indexV, indexStr, elems, elemsS, lenP, pickV, cviV, nckV, extV, isNil, bound, close, close1, aft, retV, retSl, one, eqT, eqs, eq1, Nat.reduceEqDiff, Nat.reduceAdd, Nat.reduceSub, Nat.reduceMul, Nat.reduceLeDiff, Nat.reduceLT, Nat.one_ne_zero, Nat.zero_ne_one, reduceIte, reduceCtorEq, bne_self_eq_false, decide_true, decide_false, Int.reduceToNat, Int.cast_ofNat_Int, Int.reduceLT, Int.reduceLE, Int.reduceEq, Int.reduceNeg, Int.reduceAdd, Int.reduceSub, ok31, hk, h]))
    simp [fmul, hk]
  | true =>
    obtain ⟨b1, b2⟩ := known_bd hk
    have c : ¬ (p = 0) := by omega
    have t1 : a.tmod p = a % p := Int.tmod_eq_emod_of_nonneg ha
    have t2 : b.tmod p = b % p := Int.tmod_eq_emod_of_nonneg hb
    have r1 := Int.emod_nonneg a c
    have r2 := Int.emod_nonneg b c
    have r3 := Int.emod_lt_of_pos a (b := p) (by omega)
    have r4 := Int.emod_lt_of_pos b (b := p) (by omega)
    obtain ⟨m0, m1⟩ := mul_lt r1 r3 r2 r4
    have m2 : p * p ≤ p * 18446744073709551616 := Int.mul_le_mul_of_nonneg_left (by omega) (by omega)
    have hhi : a % p * (b % p) / 18446744073709551616 < p := Int.ediv_lt_of_lt_mul (by decide) (by omega)
    have a62 := @ok62 gl (a % p) (b % p) r1 (by omega) r2 (by omega)
    have a63 := @ok63 gl (a % p * (b % p) / 18446744073709551616) (a % p * (b % p) % 18446744073709551616) p (by omega) hhi (by omega) (by omega) (by omega)
    have e : a % p * (b % p) / 18446744073709551616 * 18446744073709551616 + a % p * (b % p) % 18446744073709551616 = a % p * (b % p) := by omega
    rw [e] at a63
    simp only [wCo, wFr, wOp, wBi, wLst, wLog, xB_other, Nat.reduceBEq, unT, loadP, storeP, partP, partT, partV, cellsP, mkAgg, allT, setRange, fillP, fieldA, indexS, indexA, indexV, indexStr, elems, elemsS, lenP, pickV, cviV, nckV, extV, isNil, bound, close, close1, aft, retV, retSl, one, eqT, eqs, eq1, Nat.reduceEqDiff, Nat.reduceAdd, Nat.reduceSub, Nat.reduceMul, Nat.reduceLeDiff, Nat.reduceLT, Nat.one_ne_zero, Nat.zero_ne_one, reduceIte, reduceCtorEq, bne_self_eq_false, decide_true, decide_false, Int.reduceToNat, Int.cast_ofNat_Int, Int.reduceLT, Int.reduceLE, Int.reduceEq, Int.reduceNeg, Int.reduceAdd, Int.reduceSub, ok31, hk, c, t1, t2, a62, a63]
    repeat' ((with_reducible first | refine xG_dec ?_ ?_ | refine xG_ndec ?_ ?_ | refine xG_nsplit ?_ ?_ | refine xG_split ?_ ?_ | refine xC_dec ?_ ?_ | refine xC_ndec ?_ ?_ | refine xC_nsplit ?_ ?_ | refine xC_split ?_ ?_) <;> intro h <;> (try simp only [wCo, wFr, wOp, wBi, wLst, wLog, xB_other, Nat.reduceBEq, unT, loadP, storeP, partP, partT, partV, cellsP, mkAgg, allT, setRange, fillP, fieldA, indexS, indexA, indexV, indexStr, elems, elemsS, lenP, pickV, cviV, nckV, extV, isNil, bound, close, close1, aft, retV, retSl, one, eqT, eqs, eq1, Nat.reduceEqDiff, Nat.reduceAdd, Nat.reduceSub, Nat.reduceMul, Nat.reduceLeDiff, Nat.reduceLT, Nat.one_ne_zero, Nat.zero_ne_one, reduceIte, reduceCtorEq, bne_self_eq_false, decide_true, decide_false, Int.reduceToNat, Int.cast_ofNat_Int, Int.reduceLT, Int.reduceLE, Int.reduceEq, Int.reduceNeg, Int.reduceAdd, Int.reduceSub, ok31, hk, c, t1, t2, a62, a63, h]))
    simp [fmul, hk, Int.mul_emod]
end Go.Proofs.YtbkphlhmbllbiaaDoor
