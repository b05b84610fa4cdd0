/- Contracts: the reference's numbers, symbols and tokens. -/
import Derived.Test.YtamkdkieffgpiaaDoorL10
import Derived.Test.YtamkdkieffgpiaaDoorL11
import Derived.Test.YtamkdkieffgpiaaDoorPi32
set_option maxRecDepth 10000
set_option linter.unusedVariables false
set_option linter.unusedSimpArgs false
namespace Go.Proofs.YtamkdkieffgpiaaDoor
open Go.Pi Go.Lx
variable {gl : Nat → Option (List T)}

theorem wrU (n : Nat) : IntKind.wrap .u64 (n : Int) = ((n % 18446744073709551616 : Nat) : Int) := by
  rw [u64_wrap]; omega
theorem ovf1 {acc d : Nat} (hd : d ≤ 9) (h : (18446744073709551615 - d) / 10 < acc % 18446744073709551616) : 18446744073709551615 < 10 * acc + d := by
  have := Nat.mod_le acc 18446744073709551616
  omega
theorem ovf2 {acc d : Nat} (hd : d ≤ 9) (ha : ¬ 18446744073709551615 < acc) (h : ¬ (18446744073709551615 - d) / 10 < acc % 18446744073709551616) : ¬ 18446744073709551615 < 10 * acc + d := by
  rw [Nat.mod_eq_of_lt (by omega)] at h
  omega
def ovf (a : Nat) : Nat := if 18446744073709551615 < a then 3 else 0
theorem loop24 {s : List UInt8} (hl : s.length ≤ 281474976710656) {sg : Sg} {ow : Ow} (Q : Ex → S → Prop) : ∀ (r : List UInt8) (i acc : Nat) (fr : List PV), s.drop i = r →
    FrAt fr [(0, .t (.str s)), (5, .t (.int .i64 i)), (6, .t (.int .u64 ((acc % 18446744073709551616 : Nat) : Int))), (7, .t (.int .i64 (ovf acc : Nat)))] →
    (∀ fr', FrAt fr' [(0, .t (.str s)), (5, .t (.int .i64 ((i + span isDig r : Nat) : Int))), (6, .t (.int .u64 ((numF acc (r.take (span isDig r)) % 18446744073709551616 : Nat) : Int))), (7, .t (.int .i64 (ovf (numF acc (r.take (span isDig r))) : Nat)))] → Q (.exit 0) ⟨fr', sg, ow⟩) →
    Xl F gl lb24_0 ⟨fr, sg, ow⟩ Q ⟨⟩ := by
  intro r
  induction r with
  | nil =>
    intro i acc fr hd hf h1
    have hd := drop_nil' hd
    simp only [FrAt_cons, FrAt_nil] at hf
    obtain ⟨f0, f5, f6, f7, -⟩ := hf
    refine Xl.step ?_
    simp only [lb24_0]
    have c1 : ¬ ((i : Int) < (s.length : Int)) := by omega
    simp only [wCo, wFr, wOp, wBi, wLst, wLog, xB_other, Nat.reduceBEq, unT, loadP, storeP, partP, partT, partV, cellsP, mkAgg, allT, setRange, fillP, fieldA, indexS, indexA, indexV, indexStr, elems, lenP, pickV, cviV, nckV, extV, isNil, bound, close, close1, aft, retV, retSl, one, eqT, eqs, eq1, Nat.reduceEqDiff, Nat.reduceAdd, Nat.reduceSub, Nat.reduceMul, Nat.reduceLeDiff, Nat.reduceLT, Nat.one_ne_zero, Nat.zero_ne_one, reduceIte, reduceCtorEq, bne_self_eq_false, decide_true, decide_false, Int.reduceToNat, Int.cast_ofNat_Int, Int.reduceLT, Int.reduceLE, Int.reduceEq, Int.reduceNeg, Int.reduceAdd, Int.reduceSub, f0, f5, f6, f7, c1]
    repeat' ((with_reducible first | refine xG_dec ?_ ?_ | refine xG_ndec ?_ ?_ | refine xG_nsplit ?_ ?_ | refine xG_split ?_ ?_ | refine xC_dec ?_ ?_ | refine xC_ndec ?_ ?_ | refine xC_nsplit ?_ ?_ | refine xC_split ?_ ?_) <;> intro h <;> (try simp only [wCo, wFr, wOp, wBi, wLst, wLog, xB_other, Nat.reduceBEq, unT, loadP, storeP, partP, partT, partV, cellsP, mkAgg, allT, setRange, fillP, fieldA, indexS, indexA, indexV, indexStr, elems, lenP, pickV, cviV, nckV, extV, isNil, bound, close, close1, aft, retV, retSl, one, eqT, eqs, eq1, Nat.reduceEqDiff, Nat.reduceAdd, Nat.reduceSub, Nat.reduceMul, Nat.reduceLeDiff, Nat.reduceLT, Nat.one_ne_zero, Nat.zero_ne_one, reduceIte, reduceCtorEq, bne_self_eq_false, decide_true, decide_false, Int.reduceToNat, Int.cast_ofNat_Int, Int.reduceLT, Int.reduceLE, Int.reduceEq, Int.reduceNeg, Int.reduceAdd, Int.reduceSub, f0, f5, f6, f7, c1, h]))
    exact h1 _ (by simp only [FrAt_cons, FrAt_nil, wFr, Nat.reduceEqDiff, Nat.one_ne_zero, Nat.zero_ne_one, reduceIte, and_self, and_true, true_and, f0, f5, f6, f7, span, Nat.add_zero, List.take_zero, numF_nil])
  | cons x r ih =>
    intro i acc fr hd hf h1
    obtain ⟨hx, hr, hi⟩ := drop_cons hd
    simp only [FrAt_cons, FrAt_nil] at hf
    obtain ⟨f0, f5, f6, f7, -⟩ := hf
    have c1 : (i : Int) < (s.length : Int) := by omega
    have c0 : (0 : Int) ≤ (i : Int) := by omega
    have hw1 : IntKind.wrap .i64 ((i : Int) + 1) = ((i + 1 : Nat) : Int) := by rw [IntWalk.i64_in _ (by omega)]; omega
    have a36 := @ok36 gl x
    refine Xl.step ?_
    simp only [lb24_0]
    cases hD : isDig x with
    | false =>
      rw [hD] at a36
      simp only [wCo, wFr, wOp, wBi, wLst, wLog, xB_other, Nat.reduceBEq, unT, loadP, storeP, partP, partT, partV, cellsP, mkAgg, allT, setRange, fillP, fieldA, indexS, indexA, indexV, indexStr, elems, lenP, pickV, cviV, nckV, extV, isNil, bound, close, close1, aft, retV, retSl, one, eqT, eqs, eq1, Nat.reduceEqDiff, Nat.reduceAdd, Nat.reduceSub, Nat.reduceMul, Nat.reduceLeDiff, Nat.reduceLT, Nat.one_ne_zero, Nat.zero_ne_one, reduceIte, reduceCtorEq, bne_self_eq_false, decide_true, decide_false, Int.reduceToNat, Int.cast_ofNat_Int, Int.reduceLT, Int.reduceLE, Int.reduceEq, Int.reduceNeg, Int.reduceAdd, Int.reduceSub, f0, f5, f6, f7, c1, c0, hw1, Int.toNat_natCast, hx, a36]
      repeat' ((with_reducible first | refine xG_dec ?_ ?_ | refine xG_ndec ?_ ?_ | refine xG_nsplit ?_ ?_ | refine xG_split ?_ ?_ | refine xC_dec ?_ ?_ | refine xC_ndec ?_ ?_ | refine xC_nsplit ?_ ?_ | refine xC_split ?_ ?_) <;> intro h <;> (try simp only [wCo, wFr, wOp, wBi, wLst, wLog, xB_other, Nat.reduceBEq, unT, loadP, storeP, partP, partT, partV, cellsP, mkAgg, allT, setRange, fillP, fieldA, indexS, indexA, indexV, indexStr, elems, lenP, pickV, cviV, nckV, extV, isNil, bound, close, close1, aft, retV, retSl, one, eqT, eqs, eq1, Nat.reduceEqDiff, Nat.reduceAdd, Nat.reduceSub, Nat.reduceMul, Nat.reduceLeDiff, Nat.reduceLT, Nat.one_ne_zero, Nat.zero_ne_one, reduceIte, reduceCtorEq, bne_self_eq_false, decide_true, decide_false, Int.reduceToNat, Int.cast_ofNat_Int, Int.reduceLT, Int.reduceLE, Int.reduceEq, Int.reduceNeg, Int.reduceAdd, Int.reduceSub, f0, f5, f6, f7, c1, c0, hw1, Int.toNat_natCast, hx, a36, h]))
      exact h1 _ (by simp only [FrAt_cons, FrAt_nil, wFr, Nat.reduceEqDiff, Nat.one_ne_zero, Nat.zero_ne_one, reduceIte, and_self, and_true, true_and, f0, f5, f6, f7, span, hD, Bool.false_eq_true, if_false, Nat.add_zero, List.take_zero, numF_nil])
    | true =>
      rw [hD] at a36
      obtain ⟨d1, d2⟩ := dig_le hD
      have w1 : IntKind.wrap .u8 ((x.toNat : Int) - 48) = ((x.toNat - 48 : Nat) : Int) := by rw [IntWalk.u8_in _ (by omega)]; omega
      have e1 : span isDig (x :: r) = span isDig r + 1 := by simp only [span, hD, if_true]
      rw [e1, List.take_succ_cons, numF_cons] at h1
      have hd9 : x.toNat - 48 ≤ 9 := by omega
      generalize hdd : x.toNat - 48 = d at *
      have w2 : IntKind.wrap .u64 (d : Int) = (d : Int) := IntWalk.u64_in _ (by omega)
      have w3 : IntKind.wrap .u64 (18446744073709551615 - (d : Int)) = ((18446744073709551615 - d : Nat) : Int) := by rw [IntWalk.u64_in _ (by omega)]; omega
      have w4 : IntKind.wrap .u64 (((18446744073709551615 - d : Nat) : Int).tdiv 10) = (((18446744073709551615 - d) / 10 : Nat) : Int) := by
        rw [show (10 : Int) = ((10 : Nat) : Int) from rfl, ← Int.ofNat_tdiv, IntWalk.u64_in _ (by omega)]
      have w5 : IntKind.wrap .u64 (((acc % 18446744073709551616 : Nat) : Int) * 10) = ((acc % 18446744073709551616 * 10 % 18446744073709551616 : Nat) : Int) := by
        rw [show ((acc % 18446744073709551616 : Nat) : Int) * 10 = ((acc % 18446744073709551616 * 10 : Nat) : Int) by omega, wrU]
      have w6 : IntKind.wrap .u64 (((acc % 18446744073709551616 * 10 % 18446744073709551616 : Nat) : Int) + (d : Int)) = (((10 * acc + d) % 18446744073709551616 : Nat) : Int) := by
        rw [show ((acc % 18446744073709551616 * 10 % 18446744073709551616 : Nat) : Int) + (d : Int) = ((acc % 18446744073709551616 * 10 % 18446744073709551616 + d : Nat) : Int) by omega, wrU]
        congr 1; omega
      have fin : ∀ fr2, FrAt fr2 [(0, .t (.str s)), (5, .t (.int .i64 ((i + 1 : Nat) : Int))), (6, .t (.int .u64 (((10 * acc + d) % 18446744073709551616 : Nat) : Int))), (7, .t (.int .i64 (ovf (10 * acc + d) : Nat)))] → Xl F gl lb24_0 ⟨fr2, sg, ow⟩ Q ⟨⟩ := by
        intro fr2 hf2
        refine ih (i + 1) (10 * acc + d) fr2 hr hf2 fun fr' h => h1 fr' ?_
        rw [show i + (span isDig r + 1) = i + 1 + span isDig r by omega]
        exact h
      by_cases hv : (((18446744073709551615 - d) / 10 : Nat) : Int) < ((acc % 18446744073709551616 : Nat) : Int)
      · have eo : (ovf (10 * acc + d) : Int) = 3 := by
          have : ovf (10 * acc + d) = 3 := by unfold ovf; rw [if_pos (ovf1 hd9 (Int.ofNat_lt.1 hv))]
          omega
        rw [eo] at fin
        simp only [wCo, wFr, wOp, wBi, wLst, wLog, xB_other, Nat.reduceBEq, unT, loadP, storeP, partP, partT, partV, cellsP, mkAgg, allT, setRange, fillP, fieldA, indexS, indexA, indexV, indexStr, elems, lenP, pickV, cviV, nckV, extV, isNil, bound, close, close1, aft, retV, retSl, one, eqT, eqs, eq1, Nat.reduceEqDiff, Nat.reduceAdd, Nat.reduceSub, Nat.reduceMul, Nat.reduceLeDiff, Nat.reduceLT, Nat.one_ne_zero, Nat.zero_ne_one, reduceIte, reduceCtorEq, bne_self_eq_false, decide_true, decide_false, Int.reduceToNat, Int.cast_ofNat_Int, Int.reduceLT, Int.reduceLE, Int.reduceEq, Int.reduceNeg, Int.reduceAdd, Int.reduceSub, f0, f5, f6, f7, c1, c0, hw1, Int.toNat_natCast, hx, a36, w1, w2, w3, w4, w5, w6, hv]
        repeat' ((with_reducible first | refine xG_dec ?_ ?_ | refine xG_ndec ?_ ?_ | refine xG_nsplit ?_ ?_ | refine xG_split ?_ ?_ | refine xC_dec ?_ ?_ | refine xC_ndec ?_ ?_ | refine xC_nsplit ?_ ?_ | refine xC_split ?_ ?_) <;> intro h <;> (try simp only [wCo, wFr, wOp, wBi, wLst, wLog, xB_other, Nat.reduceBEq, unT, loadP, storeP, partP, partT, partV, cellsP, mkAgg, allT, setRange, fillP, fieldA, indexS, indexA, indexV, indexStr, elems, lenP, pickV, cviV, nckV, extV, isNil, bound, close, close1, aft, retV, retSl, one, eqT, eqs, eq1, Nat.reduceEqDiff, Nat.reduceAdd, Nat.reduceSub, Nat.reduceMul, Nat.reduceLeDiff, Nat.reduceLT, Nat.one_ne_zero, Nat.zero_ne_one, reduceIte, reduceCtorEq, bne_self_eq_false, decide_true, decide_false, Int.reduceToNat, Int.cast_ofNat_Int, Int.reduceLT, Int.reduceLE, Int.reduceEq, Int.reduceNeg, Int.reduceAdd, Int.reduceSub, f0, f5, f6, f7, c1, c0, hw1, Int.toNat_natCast, hx, a36, w1, w2, w3, w4, w5, w6, hv, h]))
        exact fin _ (by simp only [FrAt_cons, FrAt_nil, wFr, Nat.reduceEqDiff, Nat.one_ne_zero, Nat.zero_ne_one, reduceIte, and_self, and_true, true_and, f0])
      · have eo : ovf (10 * acc + d) = ovf acc := by
          unfold ovf
          by_cases ha : 18446744073709551615 < acc
          · rw [if_pos ha, if_pos (by omega)]
          · rw [if_neg ha, if_neg (ovf2 hd9 ha fun q => hv (Int.ofNat_lt.2 q))]
        rw [eo] at fin
        simp only [wCo, wFr, wOp, wBi, wLst, wLog, xB_other, Nat.reduceBEq, unT, loadP, storeP, partP, partT, partV, cellsP, mkAgg, allT, setRange, fillP, fieldA, indexS, indexA, indexV, indexStr, elems, lenP, pickV, cviV, nckV, extV, isNil, bound, close, close1, aft, retV, retSl, one, eqT, eqs, eq1, Nat.reduceEqDiff, Nat.reduceAdd, Nat.reduceSub, Nat.reduceMul, Nat.reduceLeDiff, Nat.reduceLT, Nat.one_ne_zero, Nat.zero_ne_one, reduceIte, reduceCtorEq, bne_self_eq_false, decide_true, decide_false, Int.reduceToNat, Int.cast_ofNat_Int, Int.reduceLT, Int.reduceLE, Int.reduceEq, Int.reduceNeg, Int.reduceAdd, Int.reduceSub, f0, f5, f6, f7, c1, c0, hw1, Int.toNat_natCast, hx, a36, w1, w2, w3, w4, w5, w6, hv]
        repeat' ((with_reducible first | refine xG_dec ?_ ?_ | refine xG_ndec ?_ ?_ | refine xG_nsplit ?_ ?_ | refine xG_split ?_ ?_ | refine xC_dec ?_ ?_ | refine xC_ndec ?_ ?_ | refine xC_nsplit ?_ ?_ | refine xC_split ?_ ?_) <;> intro h <;> (try simp only [wCo, wFr, wOp, wBi, wLst, wLog, xB_other, Nat.reduceBEq, unT, loadP, storeP, partP, partT, partV, cellsP, mkAgg, allT, setRange, fillP, fieldA, indexS, indexA, indexV, indexStr, elems, lenP, pickV, cviV, nckV, extV, isNil, bound, close, close1, aft, retV, retSl, one, eqT, eqs, eq1, Nat.reduceEqDiff, Nat.reduceAdd, Nat.reduceSub, Nat.reduceMul, Nat.reduceLeDiff, Nat.reduceLT, Nat.one_ne_zero, Nat.zero_ne_one, reduceIte, reduceCtorEq, bne_self_eq_false, decide_true, decide_false, Int.reduceToNat, Int.cast_ofNat_Int, Int.reduceLT, Int.reduceLE, Int.reduceEq, Int.reduceNeg, Int.reduceAdd, Int.reduceSub, f0, f5, f6, f7, c1, c0, hw1, Int.toNat_natCast, hx, a36, w1, w2, w3, w4, w5, w6, hv, h]))
        exact fin _ (by simp only [FrAt_cons, FrAt_nil, wFr, Nat.reduceEqDiff, Nat.one_ne_zero, Nat.zero_ne_one, reduceIte, and_self, and_true, true_and, f0, f7])
def numE (s : List UInt8) : Nat := if 1 < span isDig s ∧ s.head? = some 48 then 2 else ovf (numV (s.take (span isDig s)))
theorem ok24 (s : List UInt8) (hl : s.length ≤ 281474976710656) {K : PV → Prop} : XcP F gl 24 [.str s] K ⟨⟩ ↔ K (.tup [.t (.int .i64 (span isDig s : Nat)), .t (.int .u64 ((numV (s.take (span isDig s)) % 18446744073709551616 : Nat) : Int)), .t (.int .i64 (numE s : Nat))]) := by
  refine Ret.iff (Ret.of F24 rfl ?_)
  simp only [ir24]
  simp only [wCo, wFr, wOp, wBi, wLst, wLog, xB_other, Nat.reduceBEq, unT, loadP, storeP, partP, partT, partV, cellsP, mkAgg, allT, setRange, fillP, fieldA, indexS, indexA, indexV, indexStr, elems, lenP, pickV, cviV, nckV, extV, isNil, bound, close, close1, aft, retV, retSl, one, eqT, eqs, eq1, Nat.reduceEqDiff, Nat.reduceAdd, Nat.reduceSub, Nat.reduceMul, Nat.reduceLeDiff, Nat.reduceLT, Nat.one_ne_zero, Nat.zero_ne_one, reduceIte, reduceCtorEq, bne_self_eq_false, decide_true, decide_false, Int.reduceToNat, Int.cast_ofNat_Int, Int.reduceLT, Int.reduceLE, Int.reduceEq, Int.reduceNeg, Int.reduceAdd, Int.reduceSub]
  repeat' ((with_reducible first | refine xG_dec ?_ ?_ | refine xG_ndec ?_ ?_ | refine xG_nsplit ?_ ?_ | refine xG_split ?_ ?_ | refine xC_dec ?_ ?_ | refine xC_ndec ?_ ?_ | refine xC_nsplit ?_ ?_ | refine xC_split ?_ ?_) <;> intro h <;> (try simp only [wCo, wFr, wOp, wBi, wLst, wLog, xB_other, Nat.reduceBEq, unT, loadP, storeP, partP, partT, partV, cellsP, mkAgg, allT, setRange, fillP, fieldA, indexS, indexA, indexV, indexStr, elems, lenP, pickV, cviV, nckV, extV, isNil, bound, close, close1, aft, retV, retSl, one, eqT, eqs, eq1, Nat.reduceEqDiff, Nat.reduceAdd, Nat.reduceSub, Nat.reduceMul, Nat.reduceLeDiff, Nat.reduceLT, Nat.one_ne_zero, Nat.zero_ne_one, reduceIte, reduceCtorEq, bne_self_eq_false, decide_true, decide_false, Int.reduceToNat, Int.cast_ofNat_Int, Int.reduceLT, Int.reduceLE, Int.reduceEq, Int.reduceNeg, Int.reduceAdd, Int.reduceSub, h]))
  refine loop24 hl _ s 0 0 _ rfl (by simp only [FrAt_cons, FrAt_nil, wFr, Nat.reduceEqDiff, Nat.one_ne_zero, Nat.zero_ne_one, reduceIte, and_self, and_true, true_and]; exact ⟨rfl, rfl⟩) ?_
  intro fr' hf'
  rw [Nat.zero_add, numF_zero] at hf'
  simp only [FrAt_cons, FrAt_nil] at hf'
  obtain ⟨f0, f5, f6, f7, -⟩ := hf'
  have hsp := span_le isDig s
  by_cases h1 : (1 : Int) < ((span isDig s : Nat) : Int)
  · obtain ⟨c, r, hcr⟩ : ∃ c r, s = c :: r := by
      cases s with
      | nil => simp at hsp; omega
      | cons c r => exact ⟨c, r, rfl⟩
    have h0 : s[0]? = some c := by rw [hcr]; rfl
    have hh : (s.head? = some 48) ↔ ((c.toNat : Int) = 48) := by rw [hcr, List.head?_cons, Option.some.injEq]; exact u8_eq (n := 48) (by omega)
    by_cases h48 : (c.toNat : Int) = 48
    · have e : numE s = 2 := by rw [numE, if_pos ⟨by omega, hh.2 h48⟩]
      simp only [wCo, wFr, wOp, wBi, wLst, wLog, xB_other, Nat.reduceBEq, unT, loadP, storeP, partP, partT, partV, cellsP, mkAgg, allT, setRange, fillP, fieldA, indexS, indexA, indexV, indexStr, elems, lenP, pickV, cviV, nckV, extV, isNil, bound, close, close1, aft, retV, retSl, one, eqT, eqs, eq1, Nat.reduceEqDiff, Nat.reduceAdd, Nat.reduceSub, Nat.reduceMul, Nat.reduceLeDiff, Nat.reduceLT, Nat.one_ne_zero, Nat.zero_ne_one, reduceIte, reduceCtorEq, bne_self_eq_false, decide_true, decide_false, Int.reduceToNat, Int.cast_ofNat_Int, Int.reduceLT, Int.reduceLE, Int.reduceEq, Int.reduceNeg, Int.reduceAdd, Int.reduceSub, f0, f5, f6, f7, h1, h0, h48]
      repeat' ((with_reducible first | refine xG_dec ?_ ?_ | refine xG_ndec ?_ ?_ | refine xG_nsplit ?_ ?_ | refine xG_split ?_ ?_ | refine xC_dec ?_ ?_ | refine xC_ndec ?_ ?_ | refine xC_nsplit ?_ ?_ | refine xC_split ?_ ?_) <;> intro h <;> (try simp only [wCo, wFr, wOp, wBi, wLst, wLog, xB_other, Nat.reduceBEq, unT, loadP, storeP, partP, partT, partV, cellsP, mkAgg, allT, setRange, fillP, fieldA, indexS, indexA, indexV, indexStr, elems, lenP, pickV, cviV, nckV, extV, isNil, bound, close, close1, aft, retV, retSl, one, eqT, eqs, eq1, Nat.reduceEqDiff, Nat.reduceAdd, Nat.reduceSub, Nat.reduceMul, Nat.reduceLeDiff, Nat.reduceLT, Nat.one_ne_zero, Nat.zero_ne_one, reduceIte, reduceCtorEq, bne_self_eq_false, decide_true, decide_false, Int.reduceToNat, Int.cast_ofNat_Int, Int.reduceLT, Int.reduceLE, Int.reduceEq, Int.reduceNeg, Int.reduceAdd, Int.reduceSub, f0, f5, f6, f7, h1, h0, h48, h]))
      rw [e]; rfl
    · have e : numE s = ovf (numV (s.take (span isDig s))) := by rw [numE, if_neg (fun q => h48 (hh.1 q.2))]
      simp only [wCo, wFr, wOp, wBi, wLst, wLog, xB_other, Nat.reduceBEq, unT, loadP, storeP, partP, partT, partV, cellsP, mkAgg, allT, setRange, fillP, fieldA, indexS, indexA, indexV, indexStr, elems, lenP, pickV, cviV, nckV, extV, isNil, bound, close, close1, aft, retV, retSl, one, eqT, eqs, eq1, Nat.reduceEqDiff, Nat.reduceAdd, Nat.reduceSub, Nat.reduceMul, Nat.reduceLeDiff, Nat.reduceLT, Nat.one_ne_zero, Nat.zero_ne_one, reduceIte, reduceCtorEq, bne_self_eq_false, decide_true, decide_false, Int.reduceToNat, Int.cast_ofNat_Int, Int.reduceLT, Int.reduceLE, Int.reduceEq, Int.reduceNeg, Int.reduceAdd, Int.reduceSub, f0, f5, f6, f7, h1, h0, h48]
      repeat' ((with_reducible first | refine xG_dec ?_ ?_ | refine xG_ndec ?_ ?_ | refine xG_nsplit ?_ ?_ | refine xG_split ?_ ?_ | refine xC_dec ?_ ?_ | refine xC_ndec ?_ ?_ | refine xC_nsplit ?_ ?_ | refine xC_split ?_ ?_) <;> intro h <;> (try simp only [wCo, wFr, wOp, wBi, wLst, wLog, xB_other, Nat.reduceBEq, unT, loadP, storeP, partP, partT, partV, cellsP, mkAgg, allT, setRange, fillP, fieldA, indexS, indexA, indexV, indexStr, elems, lenP, pickV, cviV, nckV, extV, isNil, bound, close, close1, aft, retV, retSl, one, eqT, eqs, eq1, Nat.reduceEqDiff, Nat.reduceAdd, Nat.reduceSub, Nat.reduceMul, Nat.reduceLeDiff, Nat.reduceLT, Nat.one_ne_zero, Nat.zero_ne_one, reduceIte, reduceCtorEq, bne_self_eq_false, decide_true, decide_false, Int.reduceToNat, Int.cast_ofNat_Int, Int.reduceLT, Int.reduceLE, Int.reduceEq, Int.reduceNeg, Int.reduceAdd, Int.reduceSub, f0, f5, f6, f7, h1, h0, h48, h]))
      rw [e]
  · have e : numE s = ovf (numV (s.take (span isDig s))) := by rw [numE, if_neg (fun q => h1 (by omega))]
    simp only [wCo, wFr, wOp, wBi, wLst, wLog, xB_other, Nat.reduceBEq, unT, loadP, storeP, partP, partT, partV, cellsP, mkAgg, allT, setRange, fillP, fieldA, indexS, indexA, indexV, indexStr, elems, lenP, pickV, cviV, nckV, extV, isNil, bound, close, close1, aft, retV, retSl, one, eqT, eqs, eq1, Nat.reduceEqDiff, Nat.reduceAdd, Nat.reduceSub, Nat.reduceMul, Nat.reduceLeDiff, Nat.reduceLT, Nat.one_ne_zero, Nat.zero_ne_one, reduceIte, reduceCtorEq, bne_self_eq_false, decide_true, decide_false, Int.reduceToNat, Int.cast_ofNat_Int, Int.reduceLT, Int.reduceLE, Int.reduceEq, Int.reduceNeg, Int.reduceAdd, Int.reduceSub, f0, f5, f6, f7, h1]
    repeat' ((with_reducible first | refine xG_dec ?_ ?_ | refine xG_ndec ?_ ?_ | refine xG_nsplit ?_ ?_ | refine xG_split ?_ ?_ | refine xC_dec ?_ ?_ | refine xC_ndec ?_ ?_ | refine xC_nsplit ?_ ?_ | refine xC_split ?_ ?_) <;> intro h <;> (try simp only [wCo, wFr, wOp, wBi, wLst, wLog, xB_other, Nat.reduceBEq, unT, loadP, storeP, partP, partT, partV, cellsP, mkAgg, allT, setRange, fillP, fieldA, indexS, indexA, indexV, indexStr, elems, lenP, pickV, cviV, nckV, extV, isNil, bound, close, close1, aft, retV, retSl, one, eqT, eqs, eq1, Nat.reduceEqDiff, Nat.reduceAdd, Nat.reduceSub, Nat.reduceMul, Nat.reduceLeDiff, Nat.reduceLT, Nat.one_ne_zero, Nat.zero_ne_one, reduceIte, reduceCtorEq, bne_self_eq_false, decide_true, decide_false, Int.reduceToNat, Int.cast_ofNat_Int, Int.reduceLT, Int.reduceLE, Int.reduceEq, Int.reduceNeg, Int.reduceAdd, Int.reduceSub, f0, f5, f6, f7, h1, h]))
    rw [e]
theorem loop25 {l : List (List UInt8)} (hl : l.length ≤ 281474976710656) {s : List UInt8} {sg : Sg} {ow : Ow} (Q : Ex → S → Prop) : ∀ (r : List (List UInt8)) (i : Nat) (fr : List PV), l.drop i = r →
    FrAt fr [(0, .t (.str s)), (3, .lit (tStrs l)), (4, .t (.int .i64 i))] →
    (symF r s = 0 → ∀ fr', Q (.exit 0) ⟨fr', sg, ow⟩) →
    (∀ fr', fget fr' 2 = .t (.int .i64 (symF r s : Nat)) → Q .ret ⟨fr', sg, ow⟩) →
    Xl F gl lb25_0 ⟨fr, sg, ow⟩ Q ⟨⟩ := by
  intro r
  induction r with
  | nil =>
    intro i fr hd hf h1 h2
    have hd := drop_nil' hd
    simp only [FrAt_cons, FrAt_nil] at hf
    obtain ⟨f0, f3, f4, -⟩ := hf
    refine Xl.step ?_
    simp only [lb25_0]
    have e : (tStrs l).length = l.length := by simp [tStrs]
    have c1 : ¬ ((i : Int) < (l.length : Int)) := by omega
    simp only [wCo, wFr, wOp, wBi, wLst, wLog, xB_other, Nat.reduceBEq, unT, loadP, storeP, partP, partT, partV, cellsP, mkAgg, allT, setRange, fillP, fieldA, indexS, indexA, indexV, indexStr, elems, lenP, pickV, cviV, nckV, extV, isNil, bound, close, close1, aft, retV, retSl, one, eqT, eqs, eq1, Nat.reduceEqDiff, Nat.reduceAdd, Nat.reduceSub, Nat.reduceMul, Nat.reduceLeDiff, Nat.reduceLT, Nat.one_ne_zero, Nat.zero_ne_one, reduceIte, reduceCtorEq, bne_self_eq_false, decide_true, decide_false, Int.reduceToNat, Int.cast_ofNat_Int, Int.reduceLT, Int.reduceLE, Int.reduceEq, Int.reduceNeg, Int.reduceAdd, Int.reduceSub, f0, f3, f4, e, c1]
    repeat' ((with_reducible first | refine xG_dec ?_ ?_ | refine xG_ndec ?_ ?_ | refine xG_nsplit ?_ ?_ | refine xG_split ?_ ?_ | refine xC_dec ?_ ?_ | refine xC_ndec ?_ ?_ | refine xC_nsplit ?_ ?_ | refine xC_split ?_ ?_) <;> intro h <;> (try simp only [wCo, wFr, wOp, wBi, wLst, wLog, xB_other, Nat.reduceBEq, unT, loadP, storeP, partP, partT, partV, cellsP, mkAgg, allT, setRange, fillP, fieldA, indexS, indexA, indexV, indexStr, elems, lenP, pickV, cviV, nckV, extV, isNil, bound, close, close1, aft, retV, retSl, one, eqT, eqs, eq1, Nat.reduceEqDiff, Nat.reduceAdd, Nat.reduceSub, Nat.reduceMul, Nat.reduceLeDiff, Nat.reduceLT, Nat.one_ne_zero, Nat.zero_ne_one, reduceIte, reduceCtorEq, bne_self_eq_false, decide_true, decide_false, Int.reduceToNat, Int.cast_ofNat_Int, Int.reduceLT, Int.reduceLE, Int.reduceEq, Int.reduceNeg, Int.reduceAdd, Int.reduceSub, f0, f3, f4, e, c1, h]))
    exact h1 rfl _
  | cons x r ih =>
    intro i fr hd hf h1 h2
    obtain ⟨hx, hr, hi⟩ := drop_cons hd
    simp only [FrAt_cons, FrAt_nil] at hf
    obtain ⟨f0, f3, f4, -⟩ := hf
    refine Xl.step ?_
    simp only [lb25_0]
    have c1 : (i : Int) < (l.length : Int) := by omega
    have hw1 : IntKind.wrap .i64 ((i : Int) + 1) = ((i + 1 : Nat) : Int) := by rw [IntWalk.i64_in _ (by omega)]; omega
    by_cases c2 : (x.length : Int) ≤ (s.length : Int)
    · have st := slice_to (s := s) (n := x.length) (by omega)
      by_cases c3 : s.take x.length = x
      · have e : symF (x :: r) s = x.length := by rw [symF, if_pos ⟨by omega, c3⟩]
        rw [c3] at st
        simp only [wCo, wFr, wOp, wBi, wLst, wLog, xB_other, Nat.reduceBEq, unT, loadP, storeP, partP, partT, partV, cellsP, mkAgg, allT, setRange, fillP, fieldA, indexS, indexA, indexV, indexStr, elems, lenP, pickV, cviV, nckV, extV, isNil, bound, close, close1, aft, retV, retSl, one, eqT, eqs, eq1, Nat.reduceEqDiff, Nat.reduceAdd, Nat.reduceSub, Nat.reduceMul, Nat.reduceLeDiff, Nat.reduceLT, Nat.one_ne_zero, Nat.zero_ne_one, reduceIte, reduceCtorEq, bne_self_eq_false, decide_true, decide_false, Int.reduceToNat, Int.cast_ofNat_Int, Int.reduceLT, Int.reduceLE, Int.reduceEq, Int.reduceNeg, Int.reduceAdd, Int.reduceSub, f0, f3, f4, tStrs, List.length_map, c1, c2, hw1, List.getElem?_map, hx, st, BEq.rfl]
        repeat' ((with_reducible first | refine xG_dec ?_ ?_ | refine xG_ndec ?_ ?_ | refine xG_nsplit ?_ ?_ | refine xG_split ?_ ?_ | refine xC_dec ?_ ?_ | refine xC_ndec ?_ ?_ | refine xC_nsplit ?_ ?_ | refine xC_split ?_ ?_) <;> intro h <;> (try simp only [wCo, wFr, wOp, wBi, wLst, wLog, xB_other, Nat.reduceBEq, unT, loadP, storeP, partP, partT, partV, cellsP, mkAgg, allT, setRange, fillP, fieldA, indexS, indexA, indexV, indexStr, elems, lenP, pickV, cviV, nckV, extV, isNil, bound, close, close1, aft, retV, retSl, one, eqT, eqs, eq1, Nat.reduceEqDiff, Nat.reduceAdd, Nat.reduceSub, Nat.reduceMul, Nat.reduceLeDiff, Nat.reduceLT, Nat.one_ne_zero, Nat.zero_ne_one, reduceIte, reduceCtorEq, bne_self_eq_false, decide_true, decide_false, Int.reduceToNat, Int.cast_ofNat_Int, Int.reduceLT, Int.reduceLE, Int.reduceEq, Int.reduceNeg, Int.reduceAdd, Int.reduceSub, f0, f3, f4, tStrs, List.length_map, c1, c2, hw1, List.getElem?_map, hx, st, BEq.rfl, h]))
        refine h2 _ ?_
        simp only [FrAt_cons, FrAt_nil, wFr, Nat.reduceEqDiff, Nat.one_ne_zero, Nat.zero_ne_one, reduceIte, and_self, and_true, true_and, e]
      · have e : symF (x :: r) s = symF r s := by rw [symF, if_neg (fun q => c3 q.2)]
        rw [e] at h1 h2
        simp only [wCo, wFr, wOp, wBi, wLst, wLog, xB_other, Nat.reduceBEq, unT, loadP, storeP, partP, partT, partV, cellsP, mkAgg, allT, setRange, fillP, fieldA, indexS, indexA, indexV, indexStr, elems, lenP, pickV, cviV, nckV, extV, isNil, bound, close, close1, aft, retV, retSl, one, eqT, eqs, eq1, Nat.reduceEqDiff, Nat.reduceAdd, Nat.reduceSub, Nat.reduceMul, Nat.reduceLeDiff, Nat.reduceLT, Nat.one_ne_zero, Nat.zero_ne_one, reduceIte, reduceCtorEq, bne_self_eq_false, decide_true, decide_false, Int.reduceToNat, Int.cast_ofNat_Int, Int.reduceLT, Int.reduceLE, Int.reduceEq, Int.reduceNeg, Int.reduceAdd, Int.reduceSub, f0, f3, f4, tStrs, List.length_map, c1, c2, hw1, List.getElem?_map, hx, st, c3]
        repeat' ((with_reducible first | refine xG_dec ?_ ?_ | refine xG_ndec ?_ ?_ | refine xG_nsplit ?_ ?_ | refine xG_split ?_ ?_ | refine xC_dec ?_ ?_ | refine xC_ndec ?_ ?_ | refine xC_nsplit ?_ ?_ | refine xC_split ?_ ?_) <;> intro h <;> (try simp only [wCo, wFr, wOp, wBi, wLst, wLog, xB_other, Nat.reduceBEq, unT, loadP, storeP, partP, partT, partV, cellsP, mkAgg, allT, setRange, fillP, fieldA, indexS, indexA, indexV, indexStr, elems, lenP, pickV, cviV, nckV, extV, isNil, bound, close, close1, aft, retV, retSl, one, eqT, eqs, eq1, Nat.reduceEqDiff, Nat.reduceAdd, Nat.reduceSub, Nat.reduceMul, Nat.reduceLeDiff, Nat.reduceLT, Nat.one_ne_zero, Nat.zero_ne_one, reduceIte, reduceCtorEq, bne_self_eq_false, decide_true, decide_false, Int.reduceToNat, Int.cast_ofNat_Int, Int.reduceLT, Int.reduceLE, Int.reduceEq, Int.reduceNeg, Int.reduceAdd, Int.reduceSub, f0, f3, f4, tStrs, List.length_map, c1, c2, hw1, List.getElem?_map, hx, st, c3, h]))
        exact ih (i + 1) _ hr (by simp only [FrAt_cons, FrAt_nil, wFr, Nat.reduceEqDiff, Nat.one_ne_zero, Nat.zero_ne_one, reduceIte, and_self, and_true, true_and, f0, f3, tStrs]) h1 h2
    · have e : symF (x :: r) s = symF r s := by rw [symF, if_neg (fun q => c2 (by omega))]
      rw [e] at h1 h2
      simp only [wCo, wFr, wOp, wBi, wLst, wLog, xB_other, Nat.reduceBEq, unT, loadP, storeP, partP, partT, partV, cellsP, mkAgg, allT, setRange, fillP, fieldA, indexS, indexA, indexV, indexStr, elems, lenP, pickV, cviV, nckV, extV, isNil, bound, close, close1, aft, retV, retSl, one, eqT, eqs, eq1, Nat.reduceEqDiff, Nat.reduceAdd, Nat.reduceSub, Nat.reduceMul, Nat.reduceLeDiff, Nat.reduceLT, Nat.one_ne_zero, Nat.zero_ne_one, reduceIte, reduceCtorEq, bne_self_eq_false, decide_true, decide_false, Int.reduceToNat, Int.cast_ofNat_Int, Int.reduceLT, Int.reduceLE, Int.reduceEq, Int.reduceNeg, Int.reduceAdd, Int.reduceSub, f0, f3, f4, tStrs, List.length_map, c1, c2, hw1, List.getElem?_map, hx]
      repeat' ((with_reducible first | refine xG_dec ?_ ?_ | refine xG_ndec ?_ ?_ | refine xG_nsplit ?_ ?_ | refine xG_split ?_ ?_ | refine xC_dec ?_ ?_ | refine xC_ndec ?_ ?_ | refine xC_nsplit ?_ ?_ | refine xC_split ?_ ?_) <;> intro h <;> (try simp only [wCo, wFr, wOp, wBi, wLst, wLog, xB_other, Nat.reduceBEq, unT, loadP, storeP, partP, partT, partV, cellsP, mkAgg, allT, setRange, fillP, fieldA, indexS, indexA, indexV, indexStr, elems, lenP, pickV, cviV, nckV, extV, isNil, bound, close, close1, aft, retV, retSl, one, eqT, eqs, eq1, Nat.reduceEqDiff, Nat.reduceAdd, Nat.reduceSub, Nat.reduceMul, Nat.reduceLeDiff, Nat.reduceLT, Nat.one_ne_zero, Nat.zero_ne_one, reduceIte, reduceCtorEq, bne_self_eq_false, decide_true, decide_false, Int.reduceToNat, Int.cast_ofNat_Int, Int.reduceLT, Int.reduceLE, Int.reduceEq, Int.reduceNeg, Int.reduceAdd, Int.reduceSub, f0, f3, f4, tStrs, List.length_map, c1, c2, hw1, List.getElem?_map, hx, h]))
      exact ih (i + 1) _ hr (by simp only [FrAt_cons, FrAt_nil, wFr, Nat.reduceEqDiff, Nat.one_ne_zero, Nat.zero_ne_one, reduceIte, and_self, and_true, true_and, f0, f3, tStrs]) h1 h2
theorem ok25 (s : List UInt8) {K : PV → Prop} : XcP F gl 25 [.str s] K ⟨⟩ ↔ K (.t (.int .i64 (symF syms s : Nat))) := by
  refine Ret.iff (Ret.of F25 rfl ?_)
  simp only [ir25]
  simp only [wCo, wFr, wOp, wBi, wLst, wLog, xB_other, Nat.reduceBEq, unT, loadP, storeP, partP, partT, partV, cellsP, mkAgg, allT, setRange, fillP, fieldA, indexS, indexA, indexV, indexStr, elems, lenP, pickV, cviV, nckV, extV, isNil, bound, close, close1, aft, retV, retSl, one, eqT, eqs, eq1, Nat.reduceEqDiff, Nat.reduceAdd, Nat.reduceSub, Nat.reduceMul, Nat.reduceLeDiff, Nat.reduceLT, Nat.one_ne_zero, Nat.zero_ne_one, reduceIte, reduceCtorEq, bne_self_eq_false, decide_true, decide_false, Int.reduceToNat, Int.cast_ofNat_Int, Int.reduceLT, Int.reduceLE, Int.reduceEq, Int.reduceNeg, Int.reduceAdd, Int.reduceSub, bslV, chunks, cell1, T.isAgg, List.replicate, List.flatten_cons, List.flatten_nil, List.append_nil]
  repeat' ((with_reducible first | refine xG_dec ?_ ?_ | refine xG_ndec ?_ ?_ | refine xG_nsplit ?_ ?_ | refine xG_split ?_ ?_ | refine xC_dec ?_ ?_ | refine xC_ndec ?_ ?_ | refine xC_nsplit ?_ ?_ | refine xC_split ?_ ?_) <;> intro h <;> (try simp only [wCo, wFr, wOp, wBi, wLst, wLog, xB_other, Nat.reduceBEq, unT, loadP, storeP, partP, partT, partV, cellsP, mkAgg, allT, setRange, fillP, fieldA, indexS, indexA, indexV, indexStr, elems, lenP, pickV, cviV, nckV, extV, isNil, bound, close, close1, aft, retV, retSl, one, eqT, eqs, eq1, Nat.reduceEqDiff, Nat.reduceAdd, Nat.reduceSub, Nat.reduceMul, Nat.reduceLeDiff, Nat.reduceLT, Nat.one_ne_zero, Nat.zero_ne_one, reduceIte, reduceCtorEq, bne_self_eq_false, decide_true, decide_false, Int.reduceToNat, Int.cast_ofNat_Int, Int.reduceLT, Int.reduceLE, Int.reduceEq, Int.reduceNeg, Int.reduceAdd, Int.reduceSub, bslV, chunks, cell1, T.isAgg, List.replicate, List.flatten_cons, List.flatten_nil, List.append_nil, h]))
  refine loop25 (l := syms) (by decide) (s := s) _ syms 0 _ rfl (by simp only [FrAt_cons, FrAt_nil, wFr, Nat.reduceEqDiff, Nat.one_ne_zero, Nat.zero_ne_one, reduceIte, and_self, and_true, true_and]; exact rfl) ?_ ?_
  · intro h fr'
    simp only [wCo, wFr, wOp, wBi, wLst, wLog, xB_other, Nat.reduceBEq, unT, loadP, storeP, partP, partT, partV, cellsP, mkAgg, allT, setRange, fillP, fieldA, indexS, indexA, indexV, indexStr, elems, lenP, pickV, cviV, nckV, extV, isNil, bound, close, close1, aft, retV, retSl, one, eqT, eqs, eq1, Nat.reduceEqDiff, Nat.reduceAdd, Nat.reduceSub, Nat.reduceMul, Nat.reduceLeDiff, Nat.reduceLT, Nat.one_ne_zero, Nat.zero_ne_one, reduceIte, reduceCtorEq, bne_self_eq_false, decide_true, decide_false, Int.reduceToNat, Int.cast_ofNat_Int, Int.reduceLT, Int.reduceLE, Int.reduceEq, Int.reduceNeg, Int.reduceAdd, Int.reduceSub]
    repeat' ((with_reducible first | refine xG_dec ?_ ?_ | refine xG_ndec ?_ ?_ | refine xG_nsplit ?_ ?_ | refine xG_split ?_ ?_ | refine xC_dec ?_ ?_ | refine xC_ndec ?_ ?_ | refine xC_nsplit ?_ ?_ | refine xC_split ?_ ?_) <;> intro h <;> (try simp only [wCo, wFr, wOp, wBi, wLst, wLog, xB_other, Nat.reduceBEq, unT, loadP, storeP, partP, partT, partV, cellsP, mkAgg, allT, setRange, fillP, fieldA, indexS, indexA, indexV, indexStr, elems, lenP, pickV, cviV, nckV, extV, isNil, bound, close, close1, aft, retV, retSl, one, eqT, eqs, eq1, Nat.reduceEqDiff, Nat.reduceAdd, Nat.reduceSub, Nat.reduceMul, Nat.reduceLeDiff, Nat.reduceLT, Nat.one_ne_zero, Nat.zero_ne_one, reduceIte, reduceCtorEq, bne_self_eq_false, decide_true, decide_false, Int.reduceToNat, Int.cast_ofNat_Int, Int.reduceLT, Int.reduceLE, Int.reduceEq, Int.reduceNeg, Int.reduceAdd, Int.reduceSub, h]))
    rw [h]; rfl
  · intro fr' h
    simp only [wCo, wFr, wOp, wBi, wLst, wLog, xB_other, Nat.reduceBEq, unT, loadP, storeP, partP, partT, partV, cellsP, mkAgg, allT, setRange, fillP, fieldA, indexS, indexA, indexV, indexStr, elems, lenP, pickV, cviV, nckV, extV, isNil, bound, close, close1, aft, retV, retSl, one, eqT, eqs, eq1, Nat.reduceEqDiff, Nat.reduceAdd, Nat.reduceSub, Nat.reduceMul, Nat.reduceLeDiff, Nat.reduceLT, Nat.one_ne_zero, Nat.zero_ne_one, reduceIte, reduceCtorEq, bne_self_eq_false, decide_true, decide_false, Int.reduceToNat, Int.cast_ofNat_Int, Int.reduceLT, Int.reduceLE, Int.reduceEq, Int.reduceNeg, Int.reduceAdd, Int.reduceSub, h]
    repeat' ((with_reducible first | refine xG_dec ?_ ?_ | refine xG_ndec ?_ ?_ | refine xG_nsplit ?_ ?_ | refine xG_split ?_ ?_ | refine xC_dec ?_ ?_ | refine xC_ndec ?_ ?_ | refine xC_nsplit ?_ ?_ | refine xC_split ?_ ?_) <;> intro h <;> (try simp only [wCo, wFr, wOp, wBi, wLst, wLog, xB_other, Nat.reduceBEq, unT, loadP, storeP, partP, partT, partV, cellsP, mkAgg, allT, setRange, fillP, fieldA, indexS, indexA, indexV, indexStr, elems, lenP, pickV, cviV, nckV, extV, isNil, bound, close, close1, aft, retV, retSl, one, eqT, eqs, eq1, Nat.reduceEqDiff, Nat.reduceAdd, Nat.reduceSub, Nat.reduceMul, Nat.reduceLeDiff, Nat.reduceLT, Nat.one_ne_zero, Nat.zero_ne_one, reduceIte, reduceCtorEq, bne_self_eq_false, decide_true, decide_false, Int.reduceToNat, Int.cast_ofNat_Int, Int.reduceLT, Int.reduceLE, Int.reduceEq, Int.reduceNeg, Int.reduceAdd, Int.reduceSub, h, h]))
def sameB : List Tok → List Tok → Bool
  | [], [] => true
  | x :: a, y :: b => decide (x.kind = y.kind) && decide (x.text = y.text) && decide (x.val = y.val) && decide (x.pos = y.pos) && sameB a b
  | _, _ => false
theorem loop13 {n1 n2 : Bool} {a : List Tok} (hl : a.length ≤ 281474976710656) {ow : Ow} (Q : Ex → S → Prop) : ∀ (ra : List Tok) (i : Nat) (fr : List PV) (sg : Sg), a.drop i = ra →
    FrAt fr [(1, .t (.sl n2 (a.map tTok))), (13, .t (.sl n1 (a.map tTok))), (14, .t (.int .i64 a.length)), (15, .t (.int .i64 i))] →
    (∀ fr' sg', Q (.exit 0) ⟨fr', sg', ow⟩) →
    Xl F gl lb13_0 ⟨fr, sg, ow⟩ Q ⟨⟩ := by
  intro ra
  induction ra with
  | nil =>
    intro i fr sg ha hf h1
    have hd := drop_nil' ha
    simp only [FrAt_cons, FrAt_nil] at hf
    obtain ⟨f1, f13, f14, f15, -⟩ := hf
    refine Xl.step ?_
    simp only [lb13_0]
    have c1 : ¬ ((i : Int) < (a.length : Int)) := by omega
    simp only [wCo, wFr, wOp, wBi, wLst, wLog, xB_other, Nat.reduceBEq, unT, loadP, storeP, partP, partT, partV, cellsP, mkAgg, allT, setRange, fillP, fieldA, indexS, indexA, indexV, indexStr, elems, lenP, pickV, cviV, nckV, extV, isNil, bound, close, close1, aft, retV, retSl, one, eqT, eqs, eq1, Nat.reduceEqDiff, Nat.reduceAdd, Nat.reduceSub, Nat.reduceMul, Nat.reduceLeDiff, Nat.reduceLT, Nat.one_ne_zero, Nat.zero_ne_one, reduceIte, reduceCtorEq, bne_self_eq_false, decide_true, decide_false, Int.reduceToNat, Int.cast_ofNat_Int, Int.reduceLT, Int.reduceLE, Int.reduceEq, Int.reduceNeg, Int.reduceAdd, Int.reduceSub, f1, f13, f14, f15, c1]
    repeat' ((with_reducible first | refine xG_dec ?_ ?_ | refine xG_ndec ?_ ?_ | refine xG_nsplit ?_ ?_ | refine xG_split ?_ ?_ | refine xC_dec ?_ ?_ | refine xC_ndec ?_ ?_ | refine xC_nsplit ?_ ?_ | refine xC_split ?_ ?_) <;> intro h <;> (try simp only [wCo, wFr, wOp, wBi, wLst, wLog, xB_other, Nat.reduceBEq, unT, loadP, storeP, partP, partT, partV, cellsP, mkAgg, allT, setRange, fillP, fieldA, indexS, indexA, indexV, indexStr, elems, lenP, pickV, cviV, nckV, extV, isNil, bound, close, close1, aft, retV, retSl, one, eqT, eqs, eq1, Nat.reduceEqDiff, Nat.reduceAdd, Nat.reduceSub, Nat.reduceMul, Nat.reduceLeDiff, Nat.reduceLT, Nat.one_ne_zero, Nat.zero_ne_one, reduceIte, reduceCtorEq, bne_self_eq_false, decide_true, decide_false, Int.reduceToNat, Int.cast_ofNat_Int, Int.reduceLT, Int.reduceLE, Int.reduceEq, Int.reduceNeg, Int.reduceAdd, Int.reduceSub, f1, f13, f14, f15, c1, h]))
    exact h1 _ _
  | cons x r ih =>
    intro i fr sg ha hf h1
    obtain ⟨hx, hr, hi⟩ := drop_cons ha
    simp only [FrAt_cons, FrAt_nil] at hf
    obtain ⟨f1, f13, f14, f15, -⟩ := hf
    refine Xl.step ?_
    simp only [lb13_0]
    have c1 : (i : Int) < (a.length : Int) := by omega
    have hw1 : IntKind.wrap .i64 ((i : Int) + 1) = ((i + 1 : Nat) : Int) := by rw [IntWalk.i64_in _ (by omega)]; omega
    simp only [wCo, wFr, wOp, wBi, wLst, wLog, xB_other, Nat.reduceBEq, unT, loadP, storeP, partP, partT, partV, cellsP, mkAgg, allT, setRange, fillP, fieldA, indexS, indexA, indexV, indexStr, elems, lenP, pickV, cviV, nckV, extV, isNil, bound, close, close1, aft, retV, retSl, one, eqT, eqs, eq1, Nat.reduceEqDiff, Nat.reduceAdd, Nat.reduceSub, Nat.reduceMul, Nat.reduceLeDiff, Nat.reduceLT, Nat.one_ne_zero, Nat.zero_ne_one, reduceIte, reduceCtorEq, bne_self_eq_false, decide_true, decide_false, Int.reduceToNat, Int.cast_ofNat_Int, Int.reduceLT, Int.reduceLE, Int.reduceEq, Int.reduceNeg, Int.reduceAdd, Int.reduceSub, f1, f13, f14, f15, c1, hw1, List.length_map, List.getElem?_map, hx, tTok, BEq.rfl, Bool.not_true]
    repeat' ((with_reducible first | refine xG_dec ?_ ?_ | refine xG_ndec ?_ ?_ | refine xG_nsplit ?_ ?_ | refine xG_split ?_ ?_ | refine xC_dec ?_ ?_ | refine xC_ndec ?_ ?_ | refine xC_nsplit ?_ ?_ | refine xC_split ?_ ?_) <;> intro h <;> (try simp only [wCo, wFr, wOp, wBi, wLst, wLog, xB_other, Nat.reduceBEq, unT, loadP, storeP, partP, partT, partV, cellsP, mkAgg, allT, setRange, fillP, fieldA, indexS, indexA, indexV, indexStr, elems, lenP, pickV, cviV, nckV, extV, isNil, bound, close, close1, aft, retV, retSl, one, eqT, eqs, eq1, Nat.reduceEqDiff, Nat.reduceAdd, Nat.reduceSub, Nat.reduceMul, Nat.reduceLeDiff, Nat.reduceLT, Nat.one_ne_zero, Nat.zero_ne_one, reduceIte, reduceCtorEq, bne_self_eq_false, decide_true, decide_false, Int.reduceToNat, Int.cast_ofNat_Int, Int.reduceLT, Int.reduceLE, Int.reduceEq, Int.reduceNeg, Int.reduceAdd, Int.reduceSub, f1, f13, f14, f15, c1, hw1, List.length_map, List.getElem?_map, hx, tTok, BEq.rfl, Bool.not_true, h]))
    exact ih (i + 1) _ _ hr (by simp only [FrAt_cons, FrAt_nil, wFr, Nat.reduceEqDiff, Nat.one_ne_zero, Nat.zero_ne_one, reduceIte, and_self, and_true, true_and, f1, f13, f14, tTok]) h1
theorem ok13 (n1 n2 : Bool) (a : List Tok) (hl : a.length ≤ 281474976710656) {K : PV → Prop} : XcP F gl 13 [.sl n1 (a.map tTok), .sl n2 (a.map tTok)] K ⟨⟩ ↔ K (.t (.bool true)) := by
  refine Ret.iff (Ret.of F13 rfl ?_)
  simp only [ir13]
  simp only [wCo, wFr, wOp, wBi, wLst, wLog, xB_other, Nat.reduceBEq, unT, loadP, storeP, partP, partT, partV, cellsP, mkAgg, allT, setRange, fillP, fieldA, indexS, indexA, indexV, indexStr, elems, lenP, pickV, cviV, nckV, extV, isNil, bound, close, close1, aft, retV, retSl, one, eqT, eqs, eq1, Nat.reduceEqDiff, Nat.reduceAdd, Nat.reduceSub, Nat.reduceMul, Nat.reduceLeDiff, Nat.reduceLT, Nat.one_ne_zero, Nat.zero_ne_one, reduceIte, reduceCtorEq, bne_self_eq_false, decide_true, decide_false, Int.reduceToNat, Int.cast_ofNat_Int, Int.reduceLT, Int.reduceLE, Int.reduceEq, Int.reduceNeg, Int.reduceAdd, Int.reduceSub, List.length_map, BEq.rfl, Bool.not_true]
  repeat' ((with_reducible first | refine xG_dec ?_ ?_ | refine xG_ndec ?_ ?_ | refine xG_nsplit ?_ ?_ | refine xG_split ?_ ?_ | refine xC_dec ?_ ?_ | refine xC_ndec ?_ ?_ | refine xC_nsplit ?_ ?_ | refine xC_split ?_ ?_) <;> intro h <;> (try simp only [wCo, wFr, wOp, wBi, wLst, wLog, xB_other, Nat.reduceBEq, unT, loadP, storeP, partP, partT, partV, cellsP, mkAgg, allT, setRange, fillP, fieldA, indexS, indexA, indexV, indexStr, elems, lenP, pickV, cviV, nckV, extV, isNil, bound, close, close1, aft, retV, retSl, one, eqT, eqs, eq1, Nat.reduceEqDiff, Nat.reduceAdd, Nat.reduceSub, Nat.reduceMul, Nat.reduceLeDiff, Nat.reduceLT, Nat.one_ne_zero, Nat.zero_ne_one, reduceIte, reduceCtorEq, bne_self_eq_false, decide_true, decide_false, Int.reduceToNat, Int.cast_ofNat_Int, Int.reduceLT, Int.reduceLE, Int.reduceEq, Int.reduceNeg, Int.reduceAdd, Int.reduceSub, List.length_map, BEq.rfl, Bool.not_true, h]))
  refine loop13 (n1 := n1) (n2 := n2) hl _ a 0 _ _ rfl (by simp only [FrAt_cons, FrAt_nil, wFr, Nat.reduceEqDiff, Nat.one_ne_zero, Nat.zero_ne_one, reduceIte, and_self, and_true, true_and]) ?_
  intro fr' sg'
  simp only [wCo, wFr, wOp, wBi, wLst, wLog, xB_other, Nat.reduceBEq, unT, loadP, storeP, partP, partT, partV, cellsP, mkAgg, allT, setRange, fillP, fieldA, indexS, indexA, indexV, indexStr, elems, lenP, pickV, cviV, nckV, extV, isNil, bound, close, close1, aft, retV, retSl, one, eqT, eqs, eq1, Nat.reduceEqDiff, Nat.reduceAdd, Nat.reduceSub, Nat.reduceMul, Nat.reduceLeDiff, Nat.reduceLT, Nat.one_ne_zero, Nat.zero_ne_one, reduceIte, reduceCtorEq, bne_self_eq_false, decide_true, decide_false, Int.reduceToNat, Int.cast_ofNat_Int, Int.reduceLT, Int.reduceLE, Int.reduceEq, Int.reduceNeg, Int.reduceAdd, Int.reduceSub]
  repeat' ((with_reducible first | refine xG_dec ?_ ?_ | refine xG_ndec ?_ ?_ | refine xG_nsplit ?_ ?_ | refine xG_split ?_ ?_ | refine xC_dec ?_ ?_ | refine xC_ndec ?_ ?_ | refine xC_nsplit ?_ ?_ | refine xC_split ?_ ?_) <;> intro h <;> (try simp only [wCo, wFr, wOp, wBi, wLst, wLog, xB_other, Nat.reduceBEq, unT, loadP, storeP, partP, partT, partV, cellsP, mkAgg, allT, setRange, fillP, fieldA, indexS, indexA, indexV, indexStr, elems, lenP, pickV, cviV, nckV, extV, isNil, bound, close, close1, aft, retV, retSl, one, eqT, eqs, eq1, Nat.reduceEqDiff, Nat.reduceAdd, Nat.reduceSub, Nat.reduceMul, Nat.reduceLeDiff, Nat.reduceLT, Nat.one_ne_zero, Nat.zero_ne_one, reduceIte, reduceCtorEq, bne_self_eq_false, decide_true, decide_false, Int.reduceToNat, Int.cast_ofNat_Int, Int.reduceLT, Int.reduceLE, Int.reduceEq, Int.reduceNeg, Int.reduceAdd, Int.reduceSub, h]))
end Go.Proofs.YtamkdkieffgpiaaDoor
