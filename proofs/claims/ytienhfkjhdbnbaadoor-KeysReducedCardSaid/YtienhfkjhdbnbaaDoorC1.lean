/- Contracts: the quadratic extension, the group. -/
import Derived.Test.YtienhfkjhdbnbaaDoorA3
import Derived.Test.YtienhfkjhdbnbaaDoorKx2
set_option maxRecDepth 10000
set_option linter.unusedVariables false
set_option linter.unusedSimpArgs false
namespace Go.Proofs.YtienhfkjhdbnbaaDoor
open Go.Pi
variable {gl : Nat → Option (List T)}
theorem known_big : known 18446744069414584321 = true := by decide
theorem faddB {a b : Int} : fadd 18446744069414584321 a b = (a + b) % 18446744069414584321 := by simp [fadd, known_big]
theorem fmulB {a b : Int} : fmul 18446744069414584321 a b = a * b % 18446744069414584321 := by simp [fmul, known_big]
theorem rowB : (row01 18446744069414584321).1 = 7 := by decide
def e2C (a : E2) : List T := [.int .u64 a.1, .int .u64 a.2]
def nnE (a : E2) : Prop := 0 ≤ a.1 ∧ 0 ≤ a.2
theorem red_nn {a : E2} (h : redE a) : nnE a := ⟨h.1, h.2.2.1⟩
theorem em_fst (a b : E2) : (em a b).1 = (a.1 * b.1 % 18446744069414584321 + 7 * (a.2 * b.2 % 18446744069414584321) % 18446744069414584321) % 18446744069414584321 := by
  have := congrArg Prod.fst (em_code a b)
  simp only [Pb] at this
  exact this.symm
theorem em_snd (a b : E2) : (em a b).2 = (a.1 * b.2 % 18446744069414584321 + a.2 * b.1 % 18446744069414584321) % 18446744069414584321 := by
  have := congrArg Prod.snd (em_code a b)
  simp only [Pb] at this
  exact this.symm
theorem modB {x : Int} : 0 ≤ x % 18446744069414584321 := Int.emod_nonneg _ (by decide)
theorem ok57 (p : Int) {K : PV → Prop} : XcP F gl 57 [.agg [.int .u64 p]] K ⟨⟩ ↔ K (.t (.int .u64 (row01 p).1)) := by
  refine Ret.iff (Ret.of F57 rfl ?_)
  simp only [ir57]
  simp only [wCo, wFr, wOp, wBi, wLst, wLog, xB_other, Nat.reduceBEq, unT, loadP, storeP, partP, partT, partV, cellsP, mkAgg, allT, setRange, fillP, fieldA, indexS, indexA, indexV, indexStr, elems, lenP, pickV, cviV, nckV, extV, isNil, bound, close, close1, aft, retV, retSl, Go.Pi.one, eqT, eqs, eq1, Nat.reduceEqDiff, Nat.reduceAdd, Nat.reduceSub, Nat.reduceMul, Nat.reduceLeDiff, Nat.reduceLT, Nat.one_ne_zero, Nat.zero_ne_one, reduceIte, reduceCtorEq, bne_self_eq_false, decide_true, decide_false, Int.reduceToNat, Int.cast_ofNat_Int, Int.reduceLT, Int.reduceLE, Int.reduceEq, Int.reduceNeg, Int.reduceAdd, Int.reduceSub, ok77]
  repeat' ((with_reducible first | refine xG_dec ?_ ?_ | refine xG_ndec ?_ ?_ | refine xG_nsplit ?_ ?_ | refine xG_split ?_ ?_ | refine xC_dec ?_ ?_ | refine xC_ndec ?_ ?_ | refine xC_nsplit ?_ ?_ | refine xC_split ?_ ?_) <;> intro h <;> (try simp only [wCo, wFr, wOp, wBi, wLst, wLog, xB_other, Nat.reduceBEq, unT, loadP, storeP, partP, partT, partV, cellsP, mkAgg, allT, setRange, fillP, fieldA, indexS, indexA, indexV, indexStr, elems, lenP, pickV, cviV, nckV, extV, isNil, bound, close, close1, aft, retV, retSl, Go.Pi.one, eqT, eqs, eq1, Nat.reduceEqDiff, Nat.reduceAdd, Nat.reduceSub, Nat.reduceMul, Nat.reduceLeDiff, Nat.reduceLT, Nat.one_ne_zero, Nat.zero_ne_one, reduceIte, reduceCtorEq, bne_self_eq_false, decide_true, decide_false, Int.reduceToNat, Int.cast_ofNat_Int, Int.reduceLT, Int.reduceLE, Int.reduceEq, Int.reduceNeg, Int.reduceAdd, Int.reduceSub, ok77, h]))
theorem ok37 {a b : E2} (ha : nnE a) (hb : nnE b) {K : PV → Prop} : XcP F gl 37 [.agg [.int .u64 18446744069414584321], .agg (e2C a), .agg (e2C b)] K ⟨⟩ ↔ K (.t (.agg (e2C (em a b)))) := by
  obtain ⟨a1, a2⟩ := ha
  obtain ⟨b1, b2⟩ := hb
  have g := @ok57 gl 18446744069414584321
  have m1 := @ok54 gl 18446744069414584321 a.2 b.2 a2 b2
  have m2 := @ok54 gl 18446744069414584321 7 (a.2 * b.2 % 18446744069414584321) (by decide) modB
  have m3 := @ok54 gl 18446744069414584321 a.1 b.1 a1 b1
  have m4 := @ok54 gl 18446744069414584321 a.1 b.2 a1 b2
  have m5 := @ok54 gl 18446744069414584321 a.2 b.1 a2 b1
  have s1 := @ok53 gl 18446744069414584321 (a.1 * b.1 % 18446744069414584321) (7 * (a.2 * b.2 % 18446744069414584321) % 18446744069414584321) modB modB
  have s2 := @ok53 gl 18446744069414584321 (a.1 * b.2 % 18446744069414584321) (a.2 * b.1 % 18446744069414584321) modB modB
  rw [rowB] at g
  rw [fmulB] at m1 m2 m3 m4 m5
  rw [faddB] at s1 s2
  refine Ret.iff (Ret.of F37 rfl ?_)
  simp only [ir37]
  simp only [wCo, wFr, wOp, wBi, wLst, wLog, xB_other, Nat.reduceBEq, unT, loadP, storeP, partP, partT, partV, cellsP, mkAgg, allT, setRange, fillP, fieldA, indexS, indexA, indexV, indexStr, elems, lenP, pickV, cviV, nckV, extV, isNil, bound, close, close1, aft, retV, retSl, Go.Pi.one, eqT, eqs, eq1, Nat.reduceEqDiff, Nat.reduceAdd, Nat.reduceSub, Nat.reduceMul, Nat.reduceLeDiff, Nat.reduceLT, Nat.one_ne_zero, Nat.zero_ne_one, reduceIte, reduceCtorEq, bne_self_eq_false, decide_true, decide_false, Int.reduceToNat, Int.cast_ofNat_Int, Int.reduceLT, Int.reduceLE, Int.reduceEq, Int.reduceNeg, Int.reduceAdd, Int.reduceSub, e2C, g, m1, m2, m3, m4, m5, s1, s2, Int.reduceMul]
  repeat' ((with_reducible first | refine xG_dec ?_ ?_ | refine xG_ndec ?_ ?_ | refine xG_nsplit ?_ ?_ | refine xG_split ?_ ?_ | refine xC_dec ?_ ?_ | refine xC_ndec ?_ ?_ | refine xC_nsplit ?_ ?_ | refine xC_split ?_ ?_) <;> intro h <;> (try simp only [wCo, wFr, wOp, wBi, wLst, wLog, xB_other, Nat.reduceBEq, unT, loadP, storeP, partP, partT, partV, cellsP, mkAgg, allT, setRange, fillP, fieldA, indexS, indexA, indexV, indexStr, elems, lenP, pickV, cviV, nckV, extV, isNil, bound, close, close1, aft, retV, retSl, Go.Pi.one, eqT, eqs, eq1, Nat.reduceEqDiff, Nat.reduceAdd, Nat.reduceSub, Nat.reduceMul, Nat.reduceLeDiff, Nat.reduceLT, Nat.one_ne_zero, Nat.zero_ne_one, reduceIte, reduceCtorEq, bne_self_eq_false, decide_true, decide_false, Int.reduceToNat, Int.cast_ofNat_Int, Int.reduceLT, Int.reduceLE, Int.reduceEq, Int.reduceNeg, Int.reduceAdd, Int.reduceSub, e2C, g, m1, m2, m3, m4, m5, s1, s2, Int.reduceMul, h]))
  simp only [em_fst, em_snd]
theorem loop25 (ow : Ow) (R : List PV) (Q : Ex → S → Prop) : ∀ (n : Nat) (r a : E2) (e : Int) (fr : List PV), e < 2 ^ n → 0 ≤ e → e ≤ 18446744073709551615 → redE r → nnE a →
    FrAt fr [(2, .t (.int .u64 e)), (3, .lp 0 0), (4, .lp 1 0), (6, .lp 2 0), (7, .lp 3 0)] →
    (∀ fr' A, FrAt fr' [(6, .lp 2 0), (7, .lp 3 0)] → Q (.exit 0) ⟨fr', [(false, [.t (.int .u64 18446744069414584321)]), A, (false, R), (false, (e2C (em r (enp a e.toNat))).map .t)], ow⟩) →
    Xl F gl lb25_0 ⟨fr, [(false, [.t (.int .u64 18446744069414584321)]), (false, (e2C a).map .t), (false, R), (false, (e2C r).map .t)], ow⟩ Q ⟨⟩ := by
  intro n
  induction n with
  | zero =>
    intro r a e fr he he0 he1 hr ha hf h1
    simp only [FrAt_cons, FrAt_nil] at hf
    obtain ⟨f2, f3, f4, f6, f7, -⟩ := hf
    have e0 : e = 0 := by omega
    subst e0
    have hh := em_one hr
    refine Xl.step ?_
    simp only [lb25_0]
    have c : ¬ ((0 : Int) < 0) := by omega
    simp only [wCo, wFr, wOp, wBi, wLst, wLog, xB_other, Nat.reduceBEq, unT, loadP, storeP, partP, partT, partV, cellsP, mkAgg, allT, setRange, fillP, fieldA, indexS, indexA, indexV, indexStr, elems, lenP, pickV, cviV, nckV, extV, isNil, bound, close, close1, aft, retV, retSl, Go.Pi.one, eqT, eqs, eq1, Nat.reduceEqDiff, Nat.reduceAdd, Nat.reduceSub, Nat.reduceMul, Nat.reduceLeDiff, Nat.reduceLT, Nat.one_ne_zero, Nat.zero_ne_one, reduceIte, reduceCtorEq, bne_self_eq_false, decide_true, decide_false, Int.reduceToNat, Int.cast_ofNat_Int, Int.reduceLT, Int.reduceLE, Int.reduceEq, Int.reduceNeg, Int.reduceAdd, Int.reduceSub, f2, f3, f4, f6, f7, c]
    repeat' ((with_reducible first | refine xG_dec ?_ ?_ | refine xG_ndec ?_ ?_ | refine xG_nsplit ?_ ?_ | refine xG_split ?_ ?_ | refine xC_dec ?_ ?_ | refine xC_ndec ?_ ?_ | refine xC_nsplit ?_ ?_ | refine xC_split ?_ ?_) <;> intro h <;> (try simp only [wCo, wFr, wOp, wBi, wLst, wLog, xB_other, Nat.reduceBEq, unT, loadP, storeP, partP, partT, partV, cellsP, mkAgg, allT, setRange, fillP, fieldA, indexS, indexA, indexV, indexStr, elems, lenP, pickV, cviV, nckV, extV, isNil, bound, close, close1, aft, retV, retSl, Go.Pi.one, eqT, eqs, eq1, Nat.reduceEqDiff, Nat.reduceAdd, Nat.reduceSub, Nat.reduceMul, Nat.reduceLeDiff, Nat.reduceLT, Nat.one_ne_zero, Nat.zero_ne_one, reduceIte, reduceCtorEq, bne_self_eq_false, decide_true, decide_false, Int.reduceToNat, Int.cast_ofNat_Int, Int.reduceLT, Int.reduceLE, Int.reduceEq, Int.reduceNeg, Int.reduceAdd, Int.reduceSub, f2, f3, f4, f6, f7, c, h]))
    have := h1
    simp only [Int.toNat_zero, enp, hh] at this
    exact this _ _ (by simp only [FrAt_cons, FrAt_nil, wFr, Nat.reduceEqDiff, Nat.one_ne_zero, Nat.zero_ne_one, reduceIte, and_self, and_true, true_and, f6, f7])
  | succ n ih =>
    intro r a e fr he he0 he1 hr ha hf h1
    simp only [FrAt_cons, FrAt_nil] at hf
    obtain ⟨f2, f3, f4, f6, f7, -⟩ := hf
    refine Xl.step ?_
    simp only [lb25_0]
    by_cases c : 0 < e
    · have m1 := and_one he0 he1
      have hn : e / 2 < 2 ^ n := by
        have : (2 : Int) ^ (n + 1) = 2 ^ n * 2 := Int.pow_succ 2 n
        omega
      have a1' := @ok37 gl r a (red_nn hr) ha
      have a2' := @ok37 gl a a ha ha
      simp only [e2C] at a1' a2'
      by_cases c2 : e % 2 = 1
      · have ee : e.toNat = 2 * (e / 2).toNat + 1 := by omega
        rw [ee, ← pow_odd] at h1
        simp only [wCo, wFr, wOp, wBi, wLst, wLog, xB_other, Nat.reduceBEq, unT, loadP, storeP, partP, partT, partV, cellsP, mkAgg, allT, setRange, fillP, fieldA, indexS, indexA, indexV, indexStr, elems, lenP, pickV, cviV, nckV, extV, isNil, bound, close, close1, aft, retV, retSl, Go.Pi.one, eqT, eqs, eq1, Nat.reduceEqDiff, Nat.reduceAdd, Nat.reduceSub, Nat.reduceMul, Nat.reduceLeDiff, Nat.reduceLT, Nat.one_ne_zero, Nat.zero_ne_one, reduceIte, reduceCtorEq, bne_self_eq_false, decide_true, decide_false, Int.reduceToNat, Int.cast_ofNat_Int, Int.reduceLT, Int.reduceLE, Int.reduceEq, Int.reduceNeg, Int.reduceAdd, Int.reduceSub, e2C, f2, f3, f4, f6, f7, c, m1, c2, a1', a2', IntKind.bits, Nat.min_def, Int.reducePow, Int.fdiv_eq_ediv_of_nonneg, Int.reduceLE]
        repeat' ((with_reducible first | refine xG_dec ?_ ?_ | refine xG_ndec ?_ ?_ | refine xG_nsplit ?_ ?_ | refine xG_split ?_ ?_ | refine xC_dec ?_ ?_ | refine xC_ndec ?_ ?_ | refine xC_nsplit ?_ ?_ | refine xC_split ?_ ?_) <;> intro h <;> (try simp only [wCo, wFr, wOp, wBi, wLst, wLog, xB_other, Nat.reduceBEq, unT, loadP, storeP, partP, partT, partV, cellsP, mkAgg, allT, setRange, fillP, fieldA, indexS, indexA, indexV, indexStr, elems, lenP, pickV, cviV, nckV, extV, isNil, bound, close, close1, aft, retV, retSl, Go.Pi.one, eqT, eqs, eq1, Nat.reduceEqDiff, Nat.reduceAdd, Nat.reduceSub, Nat.reduceMul, Nat.reduceLeDiff, Nat.reduceLT, Nat.one_ne_zero, Nat.zero_ne_one, reduceIte, reduceCtorEq, bne_self_eq_false, decide_true, decide_false, Int.reduceToNat, Int.cast_ofNat_Int, Int.reduceLT, Int.reduceLE, Int.reduceEq, Int.reduceNeg, Int.reduceAdd, Int.reduceSub, e2C, f2, f3, f4, f6, f7, c, m1, c2, a1', a2', IntKind.bits, Nat.min_def, Int.reducePow, Int.fdiv_eq_ediv_of_nonneg, Int.reduceLE, h]))
        exact ih (em r a) (em a a) (e / 2) _ hn (by omega) (by omega) (em_red _ _) (red_nn (em_red _ _)) (by simp only [FrAt_cons, FrAt_nil, wFr, Nat.reduceEqDiff, Nat.one_ne_zero, Nat.zero_ne_one, reduceIte, and_self, and_true, true_and, f3, f4, f6, f7]) h1
      · have ee : e.toNat = 2 * (e / 2).toNat := by omega
        rw [ee, ← pow_even] at h1
        simp only [wCo, wFr, wOp, wBi, wLst, wLog, xB_other, Nat.reduceBEq, unT, loadP, storeP, partP, partT, partV, cellsP, mkAgg, allT, setRange, fillP, fieldA, indexS, indexA, indexV, indexStr, elems, lenP, pickV, cviV, nckV, extV, isNil, bound, close, close1, aft, retV, retSl, Go.Pi.one, eqT, eqs, eq1, Nat.reduceEqDiff, Nat.reduceAdd, Nat.reduceSub, Nat.reduceMul, Nat.reduceLeDiff, Nat.reduceLT, Nat.one_ne_zero, Nat.zero_ne_one, reduceIte, reduceCtorEq, bne_self_eq_false, decide_true, decide_false, Int.reduceToNat, Int.cast_ofNat_Int, Int.reduceLT, Int.reduceLE, Int.reduceEq, Int.reduceNeg, Int.reduceAdd, Int.reduceSub, e2C, f2, f3, f4, f6, f7, c, m1, c2, a1', a2', IntKind.bits, Nat.min_def, Int.reducePow, Int.fdiv_eq_ediv_of_nonneg, Int.reduceLE]
        repeat' ((with_reducible first | refine xG_dec ?_ ?_ | refine xG_ndec ?_ ?_ | refine xG_nsplit ?_ ?_ | refine xG_split ?_ ?_ | refine xC_dec ?_ ?_ | refine xC_ndec ?_ ?_ | refine xC_nsplit ?_ ?_ | refine xC_split ?_ ?_) <;> intro h <;> (try simp only [wCo, wFr, wOp, wBi, wLst, wLog, xB_other, Nat.reduceBEq, unT, loadP, storeP, partP, partT, partV, cellsP, mkAgg, allT, setRange, fillP, fieldA, indexS, indexA, indexV, indexStr, elems, lenP, pickV, cviV, nckV, extV, isNil, bound, close, close1, aft, retV, retSl, Go.Pi.one, eqT, eqs, eq1, Nat.reduceEqDiff, Nat.reduceAdd, Nat.reduceSub, Nat.reduceMul, Nat.reduceLeDiff, Nat.reduceLT, Nat.one_ne_zero, Nat.zero_ne_one, reduceIte, reduceCtorEq, bne_self_eq_false, decide_true, decide_false, Int.reduceToNat, Int.cast_ofNat_Int, Int.reduceLT, Int.reduceLE, Int.reduceEq, Int.reduceNeg, Int.reduceAdd, Int.reduceSub, e2C, f2, f3, f4, f6, f7, c, m1, c2, a1', a2', IntKind.bits, Nat.min_def, Int.reducePow, Int.fdiv_eq_ediv_of_nonneg, Int.reduceLE, h]))
        exact ih r (em a a) (e / 2) _ hn (by omega) (by omega) hr (red_nn (em_red _ _)) (by simp only [FrAt_cons, FrAt_nil, wFr, Nat.reduceEqDiff, Nat.one_ne_zero, Nat.zero_ne_one, reduceIte, and_self, and_true, true_and, f3, f4, f6, f7]) h1
    · have e0 : e = 0 := by omega
      subst e0
      have hh := em_one hr
      simp only [wCo, wFr, wOp, wBi, wLst, wLog, xB_other, Nat.reduceBEq, unT, loadP, storeP, partP, partT, partV, cellsP, mkAgg, allT, setRange, fillP, fieldA, indexS, indexA, indexV, indexStr, elems, lenP, pickV, cviV, nckV, extV, isNil, bound, close, close1, aft, retV, retSl, Go.Pi.one, eqT, eqs, eq1, Nat.reduceEqDiff, Nat.reduceAdd, Nat.reduceSub, Nat.reduceMul, Nat.reduceLeDiff, Nat.reduceLT, Nat.one_ne_zero, Nat.zero_ne_one, reduceIte, reduceCtorEq, bne_self_eq_false, decide_true, decide_false, Int.reduceToNat, Int.cast_ofNat_Int, Int.reduceLT, Int.reduceLE, Int.reduceEq, Int.reduceNeg, Int.reduceAdd, Int.reduceSub, f2, f3, f4, f6, f7, c]
      repeat' ((with_reducible first | refine xG_dec ?_ ?_ | refine xG_ndec ?_ ?_ | refine xG_nsplit ?_ ?_ | refine xG_split ?_ ?_ | refine xC_dec ?_ ?_ | refine xC_ndec ?_ ?_ | refine xC_nsplit ?_ ?_ | refine xC_split ?_ ?_) <;> intro h <;> (try simp only [wCo, wFr, wOp, wBi, wLst, wLog, xB_other, Nat.reduceBEq, unT, loadP, storeP, partP, partT, partV, cellsP, mkAgg, allT, setRange, fillP, fieldA, indexS, indexA, indexV, indexStr, elems, lenP, pickV, cviV, nckV, extV, isNil, bound, close, close1, aft, retV, retSl, Go.Pi.one, eqT, eqs, eq1, Nat.reduceEqDiff, Nat.reduceAdd, Nat.reduceSub, Nat.reduceMul, Nat.reduceLeDiff, Nat.reduceLT, Nat.one_ne_zero, Nat.zero_ne_one, reduceIte, reduceCtorEq, bne_self_eq_false, decide_true, decide_false, Int.reduceToNat, Int.cast_ofNat_Int, Int.reduceLT, Int.reduceLE, Int.reduceEq, Int.reduceNeg, Int.reduceAdd, Int.reduceSub, f2, f3, f4, f6, f7, c, h]))
      have := h1
      simp only [Int.toNat_zero, enp, hh] at this
      exact this _ _ (by simp only [FrAt_cons, FrAt_nil, wFr, Nat.reduceEqDiff, Nat.one_ne_zero, Nat.zero_ne_one, reduceIte, and_self, and_true, true_and, f6, f7])
theorem one_em {a : E2} (h : redE a) : em (1, 0) a = a := by rw [em_comm, em_one h]
theorem ok25 {a : E2} {e : Int} (ha : nnE a) (e0 : 0 ≤ e) (e1 : e ≤ 18446744073709551615) {K : PV → Prop} : XcP F gl 25 [.agg [.int .u64 18446744069414584321], .agg (e2C a), .int .u64 e] K ⟨⟩ ↔ K (.t (.agg (e2C (enp a e.toNat)))) := by
  have r := @ok36 gl 18446744069414584321 1 known_big (by decide)
  have r1 : (1 : Int) % 18446744069414584321 = 1 := by decide
  rw [r1] at r
  have hone := one_em (enp_red a e.toNat)
  refine Ret.iff (Ret.of F25 rfl ?_)
  simp only [ir25]
  simp only [wCo, wFr, wOp, wBi, wLst, wLog, xB_other, Nat.reduceBEq, unT, loadP, storeP, partP, partT, partV, cellsP, mkAgg, allT, setRange, fillP, fieldA, indexS, indexA, indexV, indexStr, elems, lenP, pickV, cviV, nckV, extV, isNil, bound, close, close1, aft, retV, retSl, Go.Pi.one, eqT, eqs, eq1, Nat.reduceEqDiff, Nat.reduceAdd, Nat.reduceSub, Nat.reduceMul, Nat.reduceLeDiff, Nat.reduceLT, Nat.one_ne_zero, Nat.zero_ne_one, reduceIte, reduceCtorEq, bne_self_eq_false, decide_true, decide_false, Int.reduceToNat, Int.cast_ofNat_Int, Int.reduceLT, Int.reduceLE, Int.reduceEq, Int.reduceNeg, Int.reduceAdd, Int.reduceSub, e2C, r]
  repeat' ((with_reducible first | refine xG_dec ?_ ?_ | refine xG_ndec ?_ ?_ | refine xG_nsplit ?_ ?_ | refine xG_split ?_ ?_ | refine xC_dec ?_ ?_ | refine xC_ndec ?_ ?_ | refine xC_nsplit ?_ ?_ | refine xC_split ?_ ?_) <;> intro h <;> (try simp only [wCo, wFr, wOp, wBi, wLst, wLog, xB_other, Nat.reduceBEq, unT, loadP, storeP, partP, partT, partV, cellsP, mkAgg, allT, setRange, fillP, fieldA, indexS, indexA, indexV, indexStr, elems, lenP, pickV, cviV, nckV, extV, isNil, bound, close, close1, aft, retV, retSl, Go.Pi.one, eqT, eqs, eq1, Nat.reduceEqDiff, Nat.reduceAdd, Nat.reduceSub, Nat.reduceMul, Nat.reduceLeDiff, Nat.reduceLT, Nat.one_ne_zero, Nat.zero_ne_one, reduceIte, reduceCtorEq, bne_self_eq_false, decide_true, decide_false, Int.reduceToNat, Int.cast_ofNat_Int, Int.reduceLT, Int.reduceLE, Int.reduceEq, Int.reduceNeg, Int.reduceAdd, Int.reduceSub, e2C, r, h]))
  refine loop25 _ _ _ 64 (1, 0) a e _ (by omega) e0 e1 one_red ha ?_ ?_
  · simp only [FrAt_cons, FrAt_nil, wFr, Nat.reduceEqDiff, Nat.one_ne_zero, Nat.zero_ne_one, reduceIte, and_self, and_true, true_and]
  · intro fr' A hf'
    simp only [FrAt_cons, FrAt_nil] at hf'
    obtain ⟨g6, g7, -⟩ := hf'
    rw [hone]
    simp only [wCo, wFr, wOp, wBi, wLst, wLog, xB_other, Nat.reduceBEq, unT, loadP, storeP, partP, partT, partV, cellsP, mkAgg, allT, setRange, fillP, fieldA, indexS, indexA, indexV, indexStr, elems, lenP, pickV, cviV, nckV, extV, isNil, bound, close, close1, aft, retV, retSl, Go.Pi.one, eqT, eqs, eq1, Nat.reduceEqDiff, Nat.reduceAdd, Nat.reduceSub, Nat.reduceMul, Nat.reduceLeDiff, Nat.reduceLT, Nat.one_ne_zero, Nat.zero_ne_one, reduceIte, reduceCtorEq, bne_self_eq_false, decide_true, decide_false, Int.reduceToNat, Int.cast_ofNat_Int, Int.reduceLT, Int.reduceLE, Int.reduceEq, Int.reduceNeg, Int.reduceAdd, Int.reduceSub, e2C, g6, g7]
    repeat' ((with_reducible first | refine xG_dec ?_ ?_ | refine xG_ndec ?_ ?_ | refine xG_nsplit ?_ ?_ | refine xG_split ?_ ?_ | refine xC_dec ?_ ?_ | refine xC_ndec ?_ ?_ | refine xC_nsplit ?_ ?_ | refine xC_split ?_ ?_) <;> intro h <;> (try simp only [wCo, wFr, wOp, wBi, wLst, wLog, xB_other, Nat.reduceBEq, unT, loadP, storeP, partP, partT, partV, cellsP, mkAgg, allT, setRange, fillP, fieldA, indexS, indexA, indexV, indexStr, elems, lenP, pickV, cviV, nckV, extV, isNil, bound, close, close1, aft, retV, retSl, Go.Pi.one, eqT, eqs, eq1, Nat.reduceEqDiff, Nat.reduceAdd, Nat.reduceSub, Nat.reduceMul, Nat.reduceLeDiff, Nat.reduceLT, Nat.one_ne_zero, Nat.zero_ne_one, reduceIte, reduceCtorEq, bne_self_eq_false, decide_true, decide_false, Int.reduceToNat, Int.cast_ofNat_Int, Int.reduceLT, Int.reduceLE, Int.reduceEq, Int.reduceNeg, Int.reduceAdd, Int.reduceSub, e2C, g6, g7, h]))
end Go.Proofs.YtienhfkjhdbnbaaDoor
