/- Contracts: types. -/
import Derived.Test.YtdjcnfacjfnakaaK6
import Derived.Test.YtdjcnfacjfnakaaPi32
set_option maxRecDepth 10000
set_option linter.unusedVariables false
set_option linter.unusedSimpArgs false
namespace Go.Proofs.Ytdjcnfacjfnakaa
open Go.Pi Go.Lx Go.Ky Go.Lib
variable {gl : Nat → Option (List T)}

/-- The number of bits. -/
def lenI (x : Int) : Int := if x = 0 then 0 else (x.toNat.log2 : Int) + 1
theorem lenI_spec {x : Int} (h : 0 < x) : (2 : Int) ^ (lenI x - 1).toNat ≤ x ∧ x < 2 ^ (lenI x).toNat ∧ 0 < lenI x := by
  have hne : x.toNat ≠ 0 := by omega
  have e : lenI x = (x.toNat.log2 : Int) + 1 := by unfold lenI; rw [if_neg (by omega)]
  have h1 := Nat.log2_self_le hne
  have h2 := @Nat.lt_log2_self x.toNat
  rw [e]
  have e1 : ((x.toNat.log2 : Int) + 1 - 1).toNat = x.toNat.log2 := by omega
  have e2 : ((x.toNat.log2 : Int) + 1).toNat = x.toNat.log2 + 1 := by omega
  rw [e1, e2]
  have c1 : ((2 : Int) ^ x.toNat.log2) = ((2 ^ x.toNat.log2 : Nat) : Int) := by push_cast; rfl
  have c2 : ((2 : Int) ^ (x.toNat.log2 + 1)) = ((2 ^ (x.toNat.log2 + 1) : Nat) : Int) := by push_cast; rfl
  rw [c1, c2]
  omega
theorem lenI_le {x : Int} (h0 : 0 ≤ x) {k : Nat} (h : x < 2 ^ k) : lenI x ≤ k := by
  unfold lenI
  split
  · omega
  · rename_i hne
    have : x.toNat < 2 ^ k := by
      have c1 : ((2 : Int) ^ k) = ((2 ^ k : Nat) : Int) := by push_cast; rfl
      omega
    have := (Nat.log2_lt (n := x.toNat) (k := k) (by omega)).2 this
    omega
theorem lenI_div {x : Int} {k : Nat} (h : (2 : Int) ^ k ≤ x) : lenI x = k + lenI (x / 2 ^ k) := by
  have hp : 0 < 2 ^ k := Nat.two_pow_pos k
  have c1 : ((2 : Int) ^ k) = ((2 ^ k : Nat) : Int) := by push_cast; rfl
  rw [c1] at h ⊢
  have hx : 0 < x := by omega
  obtain ⟨n, rfl⟩ := Int.eq_ofNat_of_zero_le (a := x) (by omega)
  have hn : 2 ^ k ≤ n := by omega
  have hq : 0 < n / 2 ^ k := Nat.div_pos hn hp
  have e : ((n : Int) / ((2 ^ k : Nat) : Int)) = ((n / 2 ^ k : Nat) : Int) := rfl
  rw [e]
  unfold lenI
  rw [if_neg (by omega), if_neg (by omega)]
  simp only [Int.toNat_natCast]
  have : n.log2 = k + (n / 2 ^ k).log2 := by
    have h1 := Nat.log2_self_le (n := n / 2 ^ k) (by omega)
    have h2 := @Nat.lt_log2_self (n / 2 ^ k)
    rw [Nat.le_div_iff_mul_le hp, ← Nat.pow_add] at h1
    rw [Nat.div_lt_iff_lt_mul hp, ← Nat.pow_add] at h2
    have h3 := (Nat.le_log2 (n := n) (k := (n / 2 ^ k).log2 + k) (by omega)).2 h1
    have h4 := (Nat.log2_lt (n := n) (k := (n / 2 ^ k).log2 + 1 + k) (by omega)).2 h2
    omega
  omega
def lenN (n : Nat) : Nat := if n = 0 then 0 else n.log2 + 1
theorem len8_all : ∀ n : Fin 256, st75_0[n.1]? = some (UInt8.ofNat (lenN n.1)) := by decide +kernel
theorem len8_at {x : Int} (h0 : 0 ≤ x) (h1 : x < 256) : ∃ b : UInt8, st75_0[x.toNat]? = some b ∧ ((b.toNat : Nat) : Int) = lenI x := by
  obtain ⟨n, rfl⟩ := Int.eq_ofNat_of_zero_le h0
  have ha := len8_all ⟨n, by omega⟩
  refine ⟨UInt8.ofNat (lenN n), by rw [Int.toNat_natCast]; exact ha, ?_⟩
  have hl := lenI_le h0 (k := 8) (by omega)
  unfold lenI at hl ⊢
  unfold lenN
  split
  · rename_i h
    rw [if_pos (by omega)]
    rfl
  · rename_i h
    rw [if_neg (by omega)] at hl ⊢
    rw [Int.toNat_natCast] at hl ⊢
    rw [UInt8.toNat_ofNat']
    omega
theorem ok75 {x : Int} (h0 : 0 ≤ x) (h1 : x ≤ 18446744073709551615) {K : PV → Prop} : XcP F gl 75 [.int .u64 x] K ⟨⟩ ↔ K (.t (.int .i64 (lenI x))) := by
  refine Ret.iff (Ret.of F75 rfl ?_)
  have e32 : ∀ z : Int, 4294967296 ≤ z → lenI z = 32 + lenI (z / 4294967296) := fun z hz => lenI_div (k := 32) hz
  have e16 : ∀ z : Int, 65536 ≤ z → lenI z = 16 + lenI (z / 65536) := fun z hz => lenI_div (k := 16) hz
  have e8 : ∀ z : Int, 256 ≤ z → lenI z = 8 + lenI (z / 256) := fun z hz => lenI_div (k := 8) hz
  have w48 : IntKind.i64.wrap 48 = 48 := by decide
  have w56 : IntKind.i64.wrap 56 = 56 := by decide
  have w16 : IntKind.i64.wrap 16 = 16 := by decide
  have w24 : IntKind.i64.wrap 24 = 24 := by decide
  have w40 : IntKind.i64.wrap 40 = 40 := by decide
  have w8 : IntKind.i64.wrap 8 = 8 := by decide
  have fin : ∀ (z n : Int), 0 ≤ z → z < 256 → 0 ≤ n → n ≤ 56 → ∃ b : UInt8, st75_0[(IntKind.u8.wrap z).toNat]? = some b ∧ 0 ≤ IntKind.u8.wrap z ∧ IntKind.i64.wrap (n + IntKind.i64.wrap (b.toNat : Int)) = n + lenI z := by
    intro z n hz hz2 hn hn2
    have hw : IntKind.u8.wrap z = z := IntWalk.u8_in z ⟨hz, by omega⟩
    rw [hw]
    obtain ⟨b, hb, hl⟩ := len8_at hz hz2
    refine ⟨b, hb, hz, ?_⟩
    have hle := lenI_le hz (k := 8) (by omega)
    have hb0 : 0 ≤ lenI z := by omega
    rw [hl, IntWalk.i64_in (lenI z) (by omega), IntWalk.i64_in _ (by omega)]
  simp only [ir75]
  simp only [wCo, wFr, wOp, wBi, wLst, wLog, xB_other, Nat.reduceBEq, unT, loadP, storeP, partP, partT, partV, cellsP, mkAgg, allT, setRange, fillP, fieldA, indexS, indexA, indexV, indexStr, elems, lenP, pickV, cviV, nckV, extV, isNil, bound, close, close1, aft, retV, retSl, Go.Pi.one, eqT, eqs, eq1, Nat.reduceEqDiff, Nat.reduceAdd, Nat.reduceSub, Nat.reduceMul, Nat.reduceLeDiff, Nat.reduceLT, Nat.one_ne_zero, Nat.zero_ne_one, reduceIte, reduceCtorEq, bne_self_eq_false, decide_true, decide_false, Int.reduceToNat, Int.cast_ofNat_Int, Int.reduceLT, Int.reduceLE, Int.reduceEq, Int.reduceNeg, Int.reduceAdd, Int.reduceSub, w48, w56, w16, w24, w40, w8, Int.zero_add, IntKind.bits, Nat.min_def, Int.reducePow, Int.fdiv_eq_ediv_of_nonneg, Int.reduceLE]
  repeat' ((with_reducible first | refine xG_dec ?_ ?_ | refine xG_ndec ?_ ?_ | refine xG_nsplit ?_ ?_ | refine xG_split ?_ ?_ | refine xC_dec ?_ ?_ | refine xC_ndec ?_ ?_ | refine xC_nsplit ?_ ?_ | refine xC_split ?_ ?_) <;> intro h <;> (try simp only [wCo, wFr, wOp, wBi, wLst, wLog, xB_other, Nat.reduceBEq, unT, loadP, storeP, partP, partT, partV, cellsP, mkAgg, allT, setRange, fillP, fieldA, indexS, indexA, indexV, indexStr, elems, lenP, pickV, cviV, nckV, extV, isNil, bound, close, close1, aft, retV, retSl, Go.Pi.one, eqT, eqs, eq1, Nat.reduceEqDiff, Nat.reduceAdd, Nat.reduceSub, Nat.reduceMul, Nat.reduceLeDiff, Nat.reduceLT, Nat.one_ne_zero, Nat.zero_ne_one, reduceIte, reduceCtorEq, bne_self_eq_false, decide_true, decide_false, Int.reduceToNat, Int.cast_ofNat_Int, Int.reduceLT, Int.reduceLE, Int.reduceEq, Int.reduceNeg, Int.reduceAdd, Int.reduceSub, w48, w56, w16, w24, w40, w8, Int.zero_add, IntKind.bits, Nat.min_def, Int.reducePow, Int.fdiv_eq_ediv_of_nonneg, Int.reduceLE, h]))
  · obtain ⟨b, hb, hb0, hw⟩ := fin (x / 4294967296 / 65536 / 256) 56 (by omega) (by omega) (by omega) (by omega)
    simp only [wCo, wFr, wOp, wBi, wLst, wLog, xB_other, Nat.reduceBEq, unT, loadP, storeP, partP, partT, partV, cellsP, mkAgg, allT, setRange, fillP, fieldA, indexS, indexA, indexV, indexStr, elems, lenP, pickV, cviV, nckV, extV, isNil, bound, close, close1, aft, retV, retSl, Go.Pi.one, eqT, eqs, eq1, Nat.reduceEqDiff, Nat.reduceAdd, Nat.reduceSub, Nat.reduceMul, Nat.reduceLeDiff, Nat.reduceLT, Nat.one_ne_zero, Nat.zero_ne_one, reduceIte, reduceCtorEq, bne_self_eq_false, decide_true, decide_false, Int.reduceToNat, Int.cast_ofNat_Int, Int.reduceLT, Int.reduceLE, Int.reduceEq, Int.reduceNeg, Int.reduceAdd, Int.reduceSub, hb, hb0, hw, w48, w56, w16, w24, w40, w8]
    repeat' ((with_reducible first | refine xG_dec ?_ ?_ | refine xG_ndec ?_ ?_ | refine xG_nsplit ?_ ?_ | refine xG_split ?_ ?_ | refine xC_dec ?_ ?_ | refine xC_ndec ?_ ?_ | refine xC_nsplit ?_ ?_ | refine xC_split ?_ ?_) <;> intro h <;> (try simp only [wCo, wFr, wOp, wBi, wLst, wLog, xB_other, Nat.reduceBEq, unT, loadP, storeP, partP, partT, partV, cellsP, mkAgg, allT, setRange, fillP, fieldA, indexS, indexA, indexV, indexStr, elems, lenP, pickV, cviV, nckV, extV, isNil, bound, close, close1, aft, retV, retSl, Go.Pi.one, eqT, eqs, eq1, Nat.reduceEqDiff, Nat.reduceAdd, Nat.reduceSub, Nat.reduceMul, Nat.reduceLeDiff, Nat.reduceLT, Nat.one_ne_zero, Nat.zero_ne_one, reduceIte, reduceCtorEq, bne_self_eq_false, decide_true, decide_false, Int.reduceToNat, Int.cast_ofNat_Int, Int.reduceLT, Int.reduceLE, Int.reduceEq, Int.reduceNeg, Int.reduceAdd, Int.reduceSub, hb, hb0, hw, w48, w56, w16, w24, w40, w8, h]))
    all_goals (congr 2; rw [e32 (x) (by omega), e16 (x / 4294967296) (by omega), e8 (x / 4294967296 / 65536) (by omega)]; try omega)
  · obtain ⟨b, hb, hb0, hw⟩ := fin (x / 4294967296 / 65536) 48 (by omega) (by omega) (by omega) (by omega)
    simp only [wCo, wFr, wOp, wBi, wLst, wLog, xB_other, Nat.reduceBEq, unT, loadP, storeP, partP, partT, partV, cellsP, mkAgg, allT, setRange, fillP, fieldA, indexS, indexA, indexV, indexStr, elems, lenP, pickV, cviV, nckV, extV, isNil, bound, close, close1, aft, retV, retSl, Go.Pi.one, eqT, eqs, eq1, Nat.reduceEqDiff, Nat.reduceAdd, Nat.reduceSub, Nat.reduceMul, Nat.reduceLeDiff, Nat.reduceLT, Nat.one_ne_zero, Nat.zero_ne_one, reduceIte, reduceCtorEq, bne_self_eq_false, decide_true, decide_false, Int.reduceToNat, Int.cast_ofNat_Int, Int.reduceLT, Int.reduceLE, Int.reduceEq, Int.reduceNeg, Int.reduceAdd, Int.reduceSub, hb, hb0, hw, w48, w56, w16, w24, w40, w8]
    all_goals (congr 2; rw [e32 (x) (by omega), e16 (x / 4294967296) (by omega)]; try omega)
  · obtain ⟨b, hb, hb0, hw⟩ := fin (x / 4294967296 / 256) 40 (by omega) (by omega) (by omega) (by omega)
    simp only [wCo, wFr, wOp, wBi, wLst, wLog, xB_other, Nat.reduceBEq, unT, loadP, storeP, partP, partT, partV, cellsP, mkAgg, allT, setRange, fillP, fieldA, indexS, indexA, indexV, indexStr, elems, lenP, pickV, cviV, nckV, extV, isNil, bound, close, close1, aft, retV, retSl, Go.Pi.one, eqT, eqs, eq1, Nat.reduceEqDiff, Nat.reduceAdd, Nat.reduceSub, Nat.reduceMul, Nat.reduceLeDiff, Nat.reduceLT, Nat.one_ne_zero, Nat.zero_ne_one, reduceIte, reduceCtorEq, bne_self_eq_false, decide_true, decide_false, Int.reduceToNat, Int.cast_ofNat_Int, Int.reduceLT, Int.reduceLE, Int.reduceEq, Int.reduceNeg, Int.reduceAdd, Int.reduceSub, hb, hb0, hw, w48, w56, w16, w24, w40, w8]
    all_goals (congr 2; rw [e32 (x) (by omega), e8 (x / 4294967296) (by omega)]; try omega)
  · obtain ⟨b, hb, hb0, hw⟩ := fin (x / 4294967296) 32 (by omega) (by omega) (by omega) (by omega)
    simp only [wCo, wFr, wOp, wBi, wLst, wLog, xB_other, Nat.reduceBEq, unT, loadP, storeP, partP, partT, partV, cellsP, mkAgg, allT, setRange, fillP, fieldA, indexS, indexA, indexV, indexStr, elems, lenP, pickV, cviV, nckV, extV, isNil, bound, close, close1, aft, retV, retSl, Go.Pi.one, eqT, eqs, eq1, Nat.reduceEqDiff, Nat.reduceAdd, Nat.reduceSub, Nat.reduceMul, Nat.reduceLeDiff, Nat.reduceLT, Nat.one_ne_zero, Nat.zero_ne_one, reduceIte, reduceCtorEq, bne_self_eq_false, decide_true, decide_false, Int.reduceToNat, Int.cast_ofNat_Int, Int.reduceLT, Int.reduceLE, Int.reduceEq, Int.reduceNeg, Int.reduceAdd, Int.reduceSub, hb, hb0, hw, w48, w56, w16, w24, w40, w8]
    all_goals (congr 2; rw [e32 (x) (by omega)]; try omega)
  · obtain ⟨b, hb, hb0, hw⟩ := fin (x / 65536 / 256) 24 (by omega) (by omega) (by omega) (by omega)
    simp only [wCo, wFr, wOp, wBi, wLst, wLog, xB_other, Nat.reduceBEq, unT, loadP, storeP, partP, partT, partV, cellsP, mkAgg, allT, setRange, fillP, fieldA, indexS, indexA, indexV, indexStr, elems, lenP, pickV, cviV, nckV, extV, isNil, bound, close, close1, aft, retV, retSl, Go.Pi.one, eqT, eqs, eq1, Nat.reduceEqDiff, Nat.reduceAdd, Nat.reduceSub, Nat.reduceMul, Nat.reduceLeDiff, Nat.reduceLT, Nat.one_ne_zero, Nat.zero_ne_one, reduceIte, reduceCtorEq, bne_self_eq_false, decide_true, decide_false, Int.reduceToNat, Int.cast_ofNat_Int, Int.reduceLT, Int.reduceLE, Int.reduceEq, Int.reduceNeg, Int.reduceAdd, Int.reduceSub, hb, hb0, hw, w48, w56, w16, w24, w40, w8]
    all_goals (congr 2; rw [e16 (x) (by omega), e8 (x / 65536) (by omega)]; try omega)
  · obtain ⟨b, hb, hb0, hw⟩ := fin (x / 65536) 16 (by omega) (by omega) (by omega) (by omega)
    simp only [wCo, wFr, wOp, wBi, wLst, wLog, xB_other, Nat.reduceBEq, unT, loadP, storeP, partP, partT, partV, cellsP, mkAgg, allT, setRange, fillP, fieldA, indexS, indexA, indexV, indexStr, elems, lenP, pickV, cviV, nckV, extV, isNil, bound, close, close1, aft, retV, retSl, Go.Pi.one, eqT, eqs, eq1, Nat.reduceEqDiff, Nat.reduceAdd, Nat.reduceSub, Nat.reduceMul, Nat.reduceLeDiff, Nat.reduceLT, Nat.one_ne_zero, Nat.zero_ne_one, reduceIte, reduceCtorEq, bne_self_eq_false, decide_true, decide_false, Int.reduceToNat, Int.cast_ofNat_Int, Int.reduceLT, Int.reduceLE, Int.reduceEq, Int.reduceNeg, Int.reduceAdd, Int.reduceSub, hb, hb0, hw, w48, w56, w16, w24, w40, w8]
    all_goals (congr 2; rw [e16 (x) (by omega)]; try omega)
  · obtain ⟨b, hb, hb0, hw⟩ := fin (x / 256) 8 (by omega) (by omega) (by omega) (by omega)
    simp only [wCo, wFr, wOp, wBi, wLst, wLog, xB_other, Nat.reduceBEq, unT, loadP, storeP, partP, partT, partV, cellsP, mkAgg, allT, setRange, fillP, fieldA, indexS, indexA, indexV, indexStr, elems, lenP, pickV, cviV, nckV, extV, isNil, bound, close, close1, aft, retV, retSl, Go.Pi.one, eqT, eqs, eq1, Nat.reduceEqDiff, Nat.reduceAdd, Nat.reduceSub, Nat.reduceMul, Nat.reduceLeDiff, Nat.reduceLT, Nat.one_ne_zero, Nat.zero_ne_one, reduceIte, reduceCtorEq, bne_self_eq_false, decide_true, decide_false, Int.reduceToNat, Int.cast_ofNat_Int, Int.reduceLT, Int.reduceLE, Int.reduceEq, Int.reduceNeg, Int.reduceAdd, Int.reduceSub, hb, hb0, hw, w48, w56, w16, w24, w40, w8]
    all_goals (congr 2; rw [e8 (x) (by omega)]; try omega)
  · obtain ⟨b, hb, hb0, hw⟩ := fin (x) 0 (by omega) (by omega) (by omega) (by omega)
    simp only [wCo, wFr, wOp, wBi, wLst, wLog, xB_other, Nat.reduceBEq, unT, loadP, storeP, partP, partT, partV, cellsP, mkAgg, allT, setRange, fillP, fieldA, indexS, indexA, indexV, indexStr, elems, lenP, pickV, cviV, nckV, extV, isNil, bound, close, close1, aft, retV, retSl, Go.Pi.one, eqT, eqs, eq1, Nat.reduceEqDiff, Nat.reduceAdd, Nat.reduceSub, Nat.reduceMul, Nat.reduceLeDiff, Nat.reduceLT, Nat.one_ne_zero, Nat.zero_ne_one, reduceIte, reduceCtorEq, bne_self_eq_false, decide_true, decide_false, Int.reduceToNat, Int.cast_ofNat_Int, Int.reduceLT, Int.reduceLE, Int.reduceEq, Int.reduceNeg, Int.reduceAdd, Int.reduceSub, hb, hb0, hw, w48, w56, w16, w24, w40, w8]
    all_goals (congr 2; omega)
theorem lenI_lenZ (x : Int) : lenI x = lenZ x := rfl
theorem ok61 (n : Int) {K : PV → Prop} : XcP F gl 61 [.int .i64 n] K ⟨⟩ ↔ K (.t (.agg [.int .i64 n, .int .i64 0, .int .i64 0])) := by
  refine Ret.iff (Ret.of F61 rfl ?_)
  simp only [ir61]
  simp only [wCo, wFr, wOp, wBi, wLst, wLog, xB_other, Nat.reduceBEq, unT, loadP, storeP, partP, partT, partV, cellsP, mkAgg, allT, setRange, fillP, fieldA, indexS, indexA, indexV, indexStr, elems, lenP, pickV, cviV, nckV, extV, isNil, bound, close, close1, aft, retV, retSl, Go.Pi.one, eqT, eqs, eq1, Nat.reduceEqDiff, Nat.reduceAdd, Nat.reduceSub, Nat.reduceMul, Nat.reduceLeDiff, Nat.reduceLT, Nat.one_ne_zero, Nat.zero_ne_one, reduceIte, reduceCtorEq, bne_self_eq_false, decide_true, decide_false, Int.reduceToNat, Int.cast_ofNat_Int, Int.reduceLT, Int.reduceLE, Int.reduceEq, Int.reduceNeg, Int.reduceAdd, Int.reduceSub]
  repeat' ((with_reducible first | refine xG_dec ?_ ?_ | refine xG_ndec ?_ ?_ | refine xG_nsplit ?_ ?_ | refine xG_split ?_ ?_ | refine xC_dec ?_ ?_ | refine xC_ndec ?_ ?_ | refine xC_nsplit ?_ ?_ | refine xC_split ?_ ?_) <;> intro h <;> (try simp only [wCo, wFr, wOp, wBi, wLst, wLog, xB_other, Nat.reduceBEq, unT, loadP, storeP, partP, partT, partV, cellsP, mkAgg, allT, setRange, fillP, fieldA, indexS, indexA, indexV, indexStr, elems, lenP, pickV, cviV, nckV, extV, isNil, bound, close, close1, aft, retV, retSl, Go.Pi.one, eqT, eqs, eq1, Nat.reduceEqDiff, Nat.reduceAdd, Nat.reduceSub, Nat.reduceMul, Nat.reduceLeDiff, Nat.reduceLT, Nat.one_ne_zero, Nat.zero_ne_one, reduceIte, reduceCtorEq, bne_self_eq_false, decide_true, decide_false, Int.reduceToNat, Int.cast_ofNat_Int, Int.reduceLT, Int.reduceLE, Int.reduceEq, Int.reduceNeg, Int.reduceAdd, Int.reduceSub, h]))
theorem ok74 (t : Ty) {K : PV → Prop} : XcP F gl 74 [.agg (tTy t)] K ⟨⟩ ↔ K (.t (.agg [.int .i64 t.kind, .int .i64 t.bits, .int .i64 0])) := by
  refine Ret.iff (Ret.of F74 rfl ?_)
  simp only [ir74]
  simp only [wCo, wFr, wOp, wBi, wLst, wLog, xB_other, Nat.reduceBEq, unT, loadP, storeP, partP, partT, partV, cellsP, mkAgg, allT, setRange, fillP, fieldA, indexS, indexA, indexV, indexStr, elems, lenP, pickV, cviV, nckV, extV, isNil, bound, close, close1, aft, retV, retSl, Go.Pi.one, eqT, eqs, eq1, Nat.reduceEqDiff, Nat.reduceAdd, Nat.reduceSub, Nat.reduceMul, Nat.reduceLeDiff, Nat.reduceLT, Nat.one_ne_zero, Nat.zero_ne_one, reduceIte, reduceCtorEq, bne_self_eq_false, decide_true, decide_false, Int.reduceToNat, Int.cast_ofNat_Int, Int.reduceLT, Int.reduceLE, Int.reduceEq, Int.reduceNeg, Int.reduceAdd, Int.reduceSub]
  repeat' ((with_reducible first | refine xG_dec ?_ ?_ | refine xG_ndec ?_ ?_ | refine xG_nsplit ?_ ?_ | refine xG_split ?_ ?_ | refine xC_dec ?_ ?_ | refine xC_ndec ?_ ?_ | refine xC_nsplit ?_ ?_ | refine xC_split ?_ ?_) <;> intro h <;> (try simp only [wCo, wFr, wOp, wBi, wLst, wLog, xB_other, Nat.reduceBEq, unT, loadP, storeP, partP, partT, partV, cellsP, mkAgg, allT, setRange, fillP, fieldA, indexS, indexA, indexV, indexStr, elems, lenP, pickV, cviV, nckV, extV, isNil, bound, close, close1, aft, retV, retSl, Go.Pi.one, eqT, eqs, eq1, Nat.reduceEqDiff, Nat.reduceAdd, Nat.reduceSub, Nat.reduceMul, Nat.reduceLeDiff, Nat.reduceLT, Nat.one_ne_zero, Nat.zero_ne_one, reduceIte, reduceCtorEq, bne_self_eq_false, decide_true, decide_false, Int.reduceToNat, Int.cast_ofNat_Int, Int.reduceLT, Int.reduceLE, Int.reduceEq, Int.reduceNeg, Int.reduceAdd, Int.reduceSub, h]))
theorem ok51 (t u : Ty) {K : PV → Prop} : XcP F gl 51 [.agg (tTy t), .agg (tTy u)] K ⟨⟩ ↔ K (.t (.bool (fitsB t u))) := by
  refine Ret.iff (Ret.of F51 rfl ?_)
  simp only [ir51]
  unfold fitsB
  simp only [wCo, wFr, wOp, wBi, wLst, wLog, xB_other, Nat.reduceBEq, unT, loadP, storeP, partP, partT, partV, cellsP, mkAgg, allT, setRange, fillP, fieldA, indexS, indexA, indexV, indexStr, elems, lenP, pickV, cviV, nckV, extV, isNil, bound, close, close1, aft, retV, retSl, Go.Pi.one, eqT, eqs, eq1, Nat.reduceEqDiff, Nat.reduceAdd, Nat.reduceSub, Nat.reduceMul, Nat.reduceLeDiff, Nat.reduceLT, Nat.one_ne_zero, Nat.zero_ne_one, reduceIte, reduceCtorEq, bne_self_eq_false, decide_true, decide_false, Int.reduceToNat, Int.cast_ofNat_Int, Int.reduceLT, Int.reduceLE, Int.reduceEq, Int.reduceNeg, Int.reduceAdd, Int.reduceSub]
  repeat' ((with_reducible first | refine xG_dec ?_ ?_ | refine xG_ndec ?_ ?_ | refine xG_nsplit ?_ ?_ | refine xG_split ?_ ?_ | refine xC_dec ?_ ?_ | refine xC_ndec ?_ ?_ | refine xC_nsplit ?_ ?_ | refine xC_split ?_ ?_) <;> intro h <;> (try simp only [wCo, wFr, wOp, wBi, wLst, wLog, xB_other, Nat.reduceBEq, unT, loadP, storeP, partP, partT, partV, cellsP, mkAgg, allT, setRange, fillP, fieldA, indexS, indexA, indexV, indexStr, elems, lenP, pickV, cviV, nckV, extV, isNil, bound, close, close1, aft, retV, retSl, Go.Pi.one, eqT, eqs, eq1, Nat.reduceEqDiff, Nat.reduceAdd, Nat.reduceSub, Nat.reduceMul, Nat.reduceLeDiff, Nat.reduceLT, Nat.one_ne_zero, Nat.zero_ne_one, reduceIte, reduceCtorEq, bne_self_eq_false, decide_true, decide_false, Int.reduceToNat, Int.cast_ofNat_Int, Int.reduceLT, Int.reduceLE, Int.reduceEq, Int.reduceNeg, Int.reduceAdd, Int.reduceSub, h]))
  all_goals simp_all
theorem sy66 (t : Ty) : Says (gl := gl) 66 (.agg (tTy t)) (isSc t) := by
  intro sg ow
  refine XcE.of F66 rfl ?_
  simp only [ir66]
  simp only [wCo, wFr, wOp, wBi, wLst, wLog, xB_other, Nat.reduceBEq, unT, loadP, storeP, partP, partT, partV, cellsP, mkAgg, allT, setRange, fillP, fieldA, indexS, indexA, indexV, indexStr, elems, lenP, pickV, cviV, nckV, extV, isNil, bound, close, close1, aft, retV, retSl, Go.Pi.one, eqT, eqs, eq1, Nat.reduceEqDiff, Nat.reduceAdd, Nat.reduceSub, Nat.reduceMul, Nat.reduceLeDiff, Nat.reduceLT, Nat.one_ne_zero, Nat.zero_ne_one, reduceIte, reduceCtorEq, bne_self_eq_false, decide_true, decide_false, Int.reduceToNat, Int.cast_ofNat_Int, Int.reduceLT, Int.reduceLE, Int.reduceEq, Int.reduceNeg, Int.reduceAdd, Int.reduceSub]
  repeat' ((with_reducible first | refine xG_dec ?_ ?_ | refine xG_ndec ?_ ?_ | refine xG_nsplit ?_ ?_ | refine xG_split ?_ ?_ | refine xC_dec ?_ ?_ | refine xC_ndec ?_ ?_ | refine xC_nsplit ?_ ?_ | refine xC_split ?_ ?_) <;> intro h <;> (try simp only [wCo, wFr, wOp, wBi, wLst, wLog, xB_other, Nat.reduceBEq, unT, loadP, storeP, partP, partT, partV, cellsP, mkAgg, allT, setRange, fillP, fieldA, indexS, indexA, indexV, indexStr, elems, lenP, pickV, cviV, nckV, extV, isNil, bound, close, close1, aft, retV, retSl, Go.Pi.one, eqT, eqs, eq1, Nat.reduceEqDiff, Nat.reduceAdd, Nat.reduceSub, Nat.reduceMul, Nat.reduceLeDiff, Nat.reduceLT, Nat.one_ne_zero, Nat.zero_ne_one, reduceIte, reduceCtorEq, bne_self_eq_false, decide_true, decide_false, Int.reduceToNat, Int.cast_ofNat_Int, Int.reduceLT, Int.reduceLE, Int.reduceEq, Int.reduceNeg, Int.reduceAdd, Int.reduceSub, h]))
  exact ⟨rfl, Grow.app _ _⟩
theorem sy70 (t : Ty) : Says (gl := gl) 70 (.agg (tTy t)) (isBo t) := by
  intro sg ow
  refine XcE.of F70 rfl ?_
  simp only [ir70]
  simp only [wCo, wFr, wOp, wBi, wLst, wLog, xB_other, Nat.reduceBEq, unT, loadP, storeP, partP, partT, partV, cellsP, mkAgg, allT, setRange, fillP, fieldA, indexS, indexA, indexV, indexStr, elems, lenP, pickV, cviV, nckV, extV, isNil, bound, close, close1, aft, retV, retSl, Go.Pi.one, eqT, eqs, eq1, Nat.reduceEqDiff, Nat.reduceAdd, Nat.reduceSub, Nat.reduceMul, Nat.reduceLeDiff, Nat.reduceLT, Nat.one_ne_zero, Nat.zero_ne_one, reduceIte, reduceCtorEq, bne_self_eq_false, decide_true, decide_false, Int.reduceToNat, Int.cast_ofNat_Int, Int.reduceLT, Int.reduceLE, Int.reduceEq, Int.reduceNeg, Int.reduceAdd, Int.reduceSub, ok61, ty_beq]
  repeat' ((with_reducible first | refine xG_dec ?_ ?_ | refine xG_ndec ?_ ?_ | refine xG_nsplit ?_ ?_ | refine xG_split ?_ ?_ | refine xC_dec ?_ ?_ | refine xC_ndec ?_ ?_ | refine xC_nsplit ?_ ?_ | refine xC_split ?_ ?_) <;> intro h <;> (try simp only [wCo, wFr, wOp, wBi, wLst, wLog, xB_other, Nat.reduceBEq, unT, loadP, storeP, partP, partT, partV, cellsP, mkAgg, allT, setRange, fillP, fieldA, indexS, indexA, indexV, indexStr, elems, lenP, pickV, cviV, nckV, extV, isNil, bound, close, close1, aft, retV, retSl, Go.Pi.one, eqT, eqs, eq1, Nat.reduceEqDiff, Nat.reduceAdd, Nat.reduceSub, Nat.reduceMul, Nat.reduceLeDiff, Nat.reduceLT, Nat.one_ne_zero, Nat.zero_ne_one, reduceIte, reduceCtorEq, bne_self_eq_false, decide_true, decide_false, Int.reduceToNat, Int.cast_ofNat_Int, Int.reduceLT, Int.reduceLE, Int.reduceEq, Int.reduceNeg, Int.reduceAdd, Int.reduceSub, ok61, ty_beq, h]))
  refine ⟨?_, Grow.app _ _⟩
  simp only [PV.t.injEq, T.bool.injEq, Bool.and_true, ty_beq]
  exact decide_eq_decide.2 Iff.rfl
theorem ok63 {n : Int} (h : U64 n) {K : PV → Prop} : XcP F gl 63 [.int .u64 n] K ⟨⟩ ↔ K (.t (.agg (tTy (numT n)))) := by
  refine Ret.iff (Ret.of F63 rfl ?_)
  have a := @ok75 gl n h.1 h.2
  simp only [ir63]
  unfold numT
  simp only [wCo, wFr, wOp, wBi, wLst, wLog, xB_other, Nat.reduceBEq, unT, loadP, storeP, partP, partT, partV, cellsP, mkAgg, allT, setRange, fillP, fieldA, indexS, indexA, indexV, indexStr, elems, lenP, pickV, cviV, nckV, extV, isNil, bound, close, close1, aft, retV, retSl, Go.Pi.one, eqT, eqs, eq1, Nat.reduceEqDiff, Nat.reduceAdd, Nat.reduceSub, Nat.reduceMul, Nat.reduceLeDiff, Nat.reduceLT, Nat.one_ne_zero, Nat.zero_ne_one, reduceIte, reduceCtorEq, bne_self_eq_false, decide_true, decide_false, Int.reduceToNat, Int.cast_ofNat_Int, Int.reduceLT, Int.reduceLE, Int.reduceEq, Int.reduceNeg, Int.reduceAdd, Int.reduceSub, ok61, a, mxT]
  repeat' ((with_reducible first | refine xG_dec ?_ ?_ | refine xG_ndec ?_ ?_ | refine xG_nsplit ?_ ?_ | refine xG_split ?_ ?_ | refine xC_dec ?_ ?_ | refine xC_ndec ?_ ?_ | refine xC_nsplit ?_ ?_ | refine xC_split ?_ ?_) <;> intro h <;> (try simp only [wCo, wFr, wOp, wBi, wLst, wLog, xB_other, Nat.reduceBEq, unT, loadP, storeP, partP, partT, partV, cellsP, mkAgg, allT, setRange, fillP, fieldA, indexS, indexA, indexV, indexStr, elems, lenP, pickV, cviV, nckV, extV, isNil, bound, close, close1, aft, retV, retSl, Go.Pi.one, eqT, eqs, eq1, Nat.reduceEqDiff, Nat.reduceAdd, Nat.reduceSub, Nat.reduceMul, Nat.reduceLeDiff, Nat.reduceLT, Nat.one_ne_zero, Nat.zero_ne_one, reduceIte, reduceCtorEq, bne_self_eq_false, decide_true, decide_false, Int.reduceToNat, Int.cast_ofNat_Int, Int.reduceLT, Int.reduceLE, Int.reduceEq, Int.reduceNeg, Int.reduceAdd, Int.reduceSub, ok61, a, mxT, h]))
  all_goals simp_all [fieldT, lenI_lenZ]
theorem ok68 (c x y : Ty) {K : PV → Prop} : XcP F gl 68 [.agg (tTy c), .agg (tTy x), .agg (tTy y)] K ⟨⟩ ↔ K (.tup [.t (.agg (tTy (choiceM c x y).1)), .t (.int .i64 (choiceM c x y).2)]) := by
  refine Ret.iff (Ret.of F68 rfl ?_)
  have a := fun K => (sy70 (gl := gl) c).call (K := K)
  have b := fun t K => (sy66 (gl := gl) t).call (K := K)
  simp only [ir68]
  unfold choiceM
  cases hb : isBo c with
  | false =>
    rw [hb] at a
    simp only [wCo, wFr, wOp, wBi, wLst, wLog, xB_other, Nat.reduceBEq, unT, loadP, storeP, partP, partT, partV, cellsP, mkAgg, allT, setRange, fillP, fieldA, indexS, indexA, indexV, indexStr, elems, lenP, pickV, cviV, nckV, extV, isNil, bound, close, close1, aft, retV, retSl, Go.Pi.one, eqT, eqs, eq1, Nat.reduceEqDiff, Nat.reduceAdd, Nat.reduceSub, Nat.reduceMul, Nat.reduceLeDiff, Nat.reduceLT, Nat.one_ne_zero, Nat.zero_ne_one, reduceIte, reduceCtorEq, bne_self_eq_false, decide_true, decide_false, Int.reduceToNat, Int.cast_ofNat_Int, Int.reduceLT, Int.reduceLE, Int.reduceEq, Int.reduceNeg, Int.reduceAdd, Int.reduceSub, a, xR_ct]
    simp [bad, zTy]
  | true =>
    rw [hb] at a
    by_cases hxy : x = y
    · subst hxy
      simp only [wCo, wFr, wOp, wBi, wLst, wLog, xB_other, Nat.reduceBEq, unT, loadP, storeP, partP, partT, partV, cellsP, mkAgg, allT, setRange, fillP, fieldA, indexS, indexA, indexV, indexStr, elems, lenP, pickV, cviV, nckV, extV, isNil, bound, close, close1, aft, retV, retSl, Go.Pi.one, eqT, eqs, eq1, Nat.reduceEqDiff, Nat.reduceAdd, Nat.reduceSub, Nat.reduceMul, Nat.reduceLeDiff, Nat.reduceLT, Nat.one_ne_zero, Nat.zero_ne_one, reduceIte, reduceCtorEq, bne_self_eq_false, decide_true, decide_false, Int.reduceToNat, Int.cast_ofNat_Int, Int.reduceLT, Int.reduceLE, Int.reduceEq, Int.reduceNeg, Int.reduceAdd, Int.reduceSub, a, xR_ct, ty_beq2, Bool.and_true, b, ok61]
    · have hq : (x.kind == y.kind && (x.bits == y.bits && x.len == y.len)) = false := by rw [ty_beq2]; simpa using hxy
      cases h1 : isSc x <;> cases h2 : isSc y
      all_goals (simp only [wCo, wFr, wOp, wBi, wLst, wLog, xB_other, Nat.reduceBEq, unT, loadP, storeP, partP, partT, partV, cellsP, mkAgg, allT, setRange, fillP, fieldA, indexS, indexA, indexV, indexStr, elems, lenP, pickV, cviV, nckV, extV, isNil, bound, close, close1, aft, retV, retSl, Go.Pi.one, eqT, eqs, eq1, Nat.reduceEqDiff, Nat.reduceAdd, Nat.reduceSub, Nat.reduceMul, Nat.reduceLeDiff, Nat.reduceLT, Nat.one_ne_zero, Nat.zero_ne_one, reduceIte, reduceCtorEq, bne_self_eq_false, decide_true, decide_false, Int.reduceToNat, Int.cast_ofNat_Int, Int.reduceLT, Int.reduceLE, Int.reduceEq, Int.reduceNeg, Int.reduceAdd, Int.reduceSub, a, xR_ct, hq, Bool.and_true, b, ok61, h1, h2, hxy])
      all_goals simp [bad, zTy, fieldT]
end Go.Proofs.Ytdjcnfacjfnakaa
