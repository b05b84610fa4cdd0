/- Contracts: the field. -/
import Derived.Test.YtbkphlhmbllbiaaDoorIrB
import Derived.Test.YtbkphlhmbllbiaaDoorPi32
set_option maxRecDepth 10000
set_option linter.unusedVariables false
set_option linter.unusedSimpArgs false
namespace Go.Proofs.YtbkphlhmbllbiaaDoor
open Go.Pi Go.Lib
variable {gl : Nat → Option (List T)}
def known (p : Int) : Bool := decide (p = 18446744069414584321 ∨ p = 17 ∨ p = 97 ∨ p = 193 ∨ p = 257 ∨ p = 12289 ∨ p = 65537)

theorem ok55 (p : Int) {K : PV → Prop} : XcP F gl 55 [.agg [.int .u64 p]] K ⟨⟩ ↔ K (.t (.bool (known p))) := by
  refine Ret.iff (Ret.of F55 rfl ?_)
  simp only [ir55]
  simp only [wCo, wFr, wOp, wBi, wLst, wLog, xB_other, Nat.reduceBEq, unT, loadP, storeP, partP, partT, partV, cellsP, mkAgg, allT, setRange, fillP, fieldA, indexS, indexA, indexV, indexStr, elems, lenP, pickV, cviV, nckV, extV, isNil, bound, close, close1, aft, retV, retSl, Go.Pi.one, eqT, eqs, eq1, Nat.reduceEqDiff, Nat.reduceAdd, Nat.reduceSub, Nat.reduceMul, Nat.reduceLeDiff, Nat.reduceLT, Nat.one_ne_zero, Nat.zero_ne_one, reduceIte, reduceCtorEq, bne_self_eq_false, decide_true, decide_false, Int.reduceToNat, Int.cast_ofNat_Int, Int.reduceLT, Int.reduceLE, Int.reduceEq, Int.reduceNeg, Int.reduceAdd, Int.reduceSub]
  repeat' ((with_reducible first | refine xG_dec ?_ ?_ | refine xG_ndec ?_ ?_ | refine xG_nsplit ?_ ?_ | refine xG_split ?_ ?_ | refine xC_dec ?_ ?_ | refine xC_ndec ?_ ?_ | refine xC_nsplit ?_ ?_ | refine xC_split ?_ ?_) <;> intro h <;> (try simp only [wCo, wFr, wOp, wBi, wLst, wLog, xB_other, Nat.reduceBEq, unT, loadP, storeP, partP, partT, partV, cellsP, mkAgg, allT, setRange, fillP, fieldA, indexS, indexA, indexV, indexStr, elems, lenP, pickV, cviV, nckV, extV, isNil, bound, close, close1, aft, retV, retSl, Go.Pi.one, eqT, eqs, eq1, Nat.reduceEqDiff, Nat.reduceAdd, Nat.reduceSub, Nat.reduceMul, Nat.reduceLeDiff, Nat.reduceLT, Nat.one_ne_zero, Nat.zero_ne_one, reduceIte, reduceCtorEq, bne_self_eq_false, decide_true, decide_false, Int.reduceToNat, Int.cast_ofNat_Int, Int.reduceLT, Int.reduceLE, Int.reduceEq, Int.reduceNeg, Int.reduceAdd, Int.reduceSub, h]))
  all_goals simp_all [known]
def row01 (p : Int) : Int × Int × Int := if p = 17 then (3, 4, 3) else if p = 97 then (5, 5, 5) else if p = 193 then (5, 6, 5) else if p = 257 then (3, 8, 3) else if p = 12289 then (11, 12, 5) else if p = 65537 then (3, 16, 3) else if p = 18446744069414584321 then (7, 32, 7) else (0, 0, 0)
theorem ok57 (p : Int) {K : PV → Prop} : XcP F gl 57 [.int .u64 p] K ⟨⟩ ↔ K (.t (.agg [.int .u64 (row01 p).1, .int .u64 (row01 p).2.1, .int .u64 (row01 p).2.2])) := by
  refine Ret.iff (Ret.of F57 rfl ?_)
  simp only [ir57]
  simp only [wCo, wFr, wOp, wBi, wLst, wLog, xB_other, Nat.reduceBEq, unT, loadP, storeP, partP, partT, partV, cellsP, mkAgg, allT, setRange, fillP, fieldA, indexS, indexA, indexV, indexStr, elems, lenP, pickV, cviV, nckV, extV, isNil, bound, close, close1, aft, retV, retSl, Go.Pi.one, eqT, eqs, eq1, Nat.reduceEqDiff, Nat.reduceAdd, Nat.reduceSub, Nat.reduceMul, Nat.reduceLeDiff, Nat.reduceLT, Nat.one_ne_zero, Nat.zero_ne_one, reduceIte, reduceCtorEq, bne_self_eq_false, decide_true, decide_false, Int.reduceToNat, Int.cast_ofNat_Int, Int.reduceLT, Int.reduceLE, Int.reduceEq, Int.reduceNeg, Int.reduceAdd, Int.reduceSub]
  repeat' ((with_reducible first | refine xG_dec ?_ ?_ | refine xG_ndec ?_ ?_ | refine xG_nsplit ?_ ?_ | refine xG_split ?_ ?_ | refine xC_dec ?_ ?_ | refine xC_ndec ?_ ?_ | refine xC_nsplit ?_ ?_ | refine xC_split ?_ ?_) <;> intro h <;> (try simp only [wCo, wFr, wOp, wBi, wLst, wLog, xB_other, Nat.reduceBEq, unT, loadP, storeP, partP, partT, partV, cellsP, mkAgg, allT, setRange, fillP, fieldA, indexS, indexA, indexV, indexStr, elems, lenP, pickV, cviV, nckV, extV, isNil, bound, close, close1, aft, retV, retSl, Go.Pi.one, eqT, eqs, eq1, Nat.reduceEqDiff, Nat.reduceAdd, Nat.reduceSub, Nat.reduceMul, Nat.reduceLeDiff, Nat.reduceLT, Nat.one_ne_zero, Nat.zero_ne_one, reduceIte, reduceCtorEq, bne_self_eq_false, decide_true, decide_false, Int.reduceToNat, Int.cast_ofNat_Int, Int.reduceLT, Int.reduceLE, Int.reduceEq, Int.reduceNeg, Int.reduceAdd, Int.reduceSub, h]))
  all_goals simp_all [row01]
theorem known_row (p : Int) : decide (0 < (row01 p).1) = known p := by
  unfold row01 known
  repeat' split
  all_goals simp_all
theorem ok31 (p : Int) {K : PV → Prop} : XcP F gl 31 [.int .u64 p] K ⟨⟩ ↔ K (.t (.bool (known p))) := by
  refine Ret.iff (Ret.of F31 rfl ?_)
  simp only [ir31]
  simp only [wCo, wFr, wOp, wBi, wLst, wLog, xB_other, Nat.reduceBEq, unT, loadP, storeP, partP, partT, partV, cellsP, mkAgg, allT, setRange, fillP, fieldA, indexS, indexA, indexV, indexStr, elems, lenP, pickV, cviV, nckV, extV, isNil, bound, close, close1, aft, retV, retSl, Go.Pi.one, eqT, eqs, eq1, Nat.reduceEqDiff, Nat.reduceAdd, Nat.reduceSub, Nat.reduceMul, Nat.reduceLeDiff, Nat.reduceLT, Nat.one_ne_zero, Nat.zero_ne_one, reduceIte, reduceCtorEq, bne_self_eq_false, decide_true, decide_false, Int.reduceToNat, Int.cast_ofNat_Int, Int.reduceLT, Int.reduceLE, Int.reduceEq, Int.reduceNeg, Int.reduceAdd, Int.reduceSub, ok57, known_row]

theorem ok62 {x y : Int} (hx0 : 0 ≤ x) (hx : x ≤ 18446744073709551615) (hy0 : 0 ≤ y) (hy : y ≤ 18446744073709551615) {K : PV → Prop} :
    XcP F gl 62 [.int .u64 x, .int .u64 y] K ⟨⟩ ↔ K (.tup [.t (.int .u64 (x * y / 18446744073709551616)), .t (.int .u64 (x * y % 18446744073709551616))]) := by
  refine Ret.iff (Ret.of F62 rfl ?_)
  obtain ⟨a1, a2, a3, a4, a5, a6, a7, a8, a9, a10, a11⟩ := mul64_hiI hx0 hx hy0 hy
  have w1 := and_mask32 hx0 hx
  have w2 := and_mask32 hy0 hy
  have w3 : IntKind.u64.wrap (x % 4294967296 * (y % 4294967296)) = x % 4294967296 * (y % 4294967296) := IntWalk.u64_in _ ⟨a1, a2⟩
  have w4 : IntKind.u64.wrap (x / 4294967296 * (y % 4294967296)) = x / 4294967296 * (y % 4294967296) := IntWalk.u64_in _ (by omega)
  have w5 : IntKind.u64.wrap (x / 4294967296 * (y % 4294967296) + x % 4294967296 * (y % 4294967296) / 4294967296) = x / 4294967296 * (y % 4294967296) + x % 4294967296 * (y % 4294967296) / 4294967296 := IntWalk.u64_in _ (by omega)
  have w6 := @and_mask32 (x / 4294967296 * (y % 4294967296) + x % 4294967296 * (y % 4294967296) / 4294967296) (by omega) (by omega)
  have w7 : IntKind.u64.wrap (x % 4294967296 * (y / 4294967296)) = x % 4294967296 * (y / 4294967296) := IntWalk.u64_in _ (by omega)
  have w8 : IntKind.u64.wrap ((x / 4294967296 * (y % 4294967296) + x % 4294967296 * (y % 4294967296) / 4294967296) % 4294967296 + x % 4294967296 * (y / 4294967296)) = (x / 4294967296 * (y % 4294967296) + x % 4294967296 * (y % 4294967296) / 4294967296) % 4294967296 + x % 4294967296 * (y / 4294967296) := IntWalk.u64_in _ (by omega)
  have w9 : IntKind.u64.wrap (x / 4294967296 * (y / 4294967296)) = x / 4294967296 * (y / 4294967296) := IntWalk.u64_in _ (by omega)
  simp only [ir62]
  simp only [wCo, wFr, wOp, wBi, wLst, wLog, xB_other, Nat.reduceBEq, unT, loadP, storeP, partP, partT, partV, cellsP, mkAgg, allT, setRange, fillP, fieldA, indexS, indexA, indexV, indexStr, elems, lenP, pickV, cviV, nckV, extV, isNil, bound, close, close1, aft, retV, retSl, Go.Pi.one, eqT, eqs, eq1, Nat.reduceEqDiff, Nat.reduceAdd, Nat.reduceSub, Nat.reduceMul, Nat.reduceLeDiff, Nat.reduceLT, Nat.one_ne_zero, Nat.zero_ne_one, reduceIte, reduceCtorEq, bne_self_eq_false, decide_true, decide_false, Int.reduceToNat, Int.cast_ofNat_Int, Int.reduceLT, Int.reduceLE, Int.reduceEq, Int.reduceNeg, Int.reduceAdd, Int.reduceSub, w1, w2, w3, w4, w5, w6, w7, w8, w9, IntKind.bits, Nat.min_def, Int.reducePow, Int.fdiv_eq_ediv_of_nonneg, Int.reduceLE]
  repeat' ((with_reducible first | refine xG_dec ?_ ?_ | refine xG_ndec ?_ ?_ | refine xG_nsplit ?_ ?_ | refine xG_split ?_ ?_ | refine xC_dec ?_ ?_ | refine xC_ndec ?_ ?_ | refine xC_nsplit ?_ ?_ | refine xC_split ?_ ?_) <;> intro h <;> (try simp only [wCo, wFr, wOp, wBi, wLst, wLog, xB_other, Nat.reduceBEq, unT, loadP, storeP, partP, partT, partV, cellsP, mkAgg, allT, setRange, fillP, fieldA, indexS, indexA, indexV, indexStr, elems, lenP, pickV, cviV, nckV, extV, isNil, bound, close, close1, aft, retV, retSl, Go.Pi.one, eqT, eqs, eq1, Nat.reduceEqDiff, Nat.reduceAdd, Nat.reduceSub, Nat.reduceMul, Nat.reduceLeDiff, Nat.reduceLT, Nat.one_ne_zero, Nat.zero_ne_one, reduceIte, reduceCtorEq, bne_self_eq_false, decide_true, decide_false, Int.reduceToNat, Int.cast_ofNat_Int, Int.reduceLT, Int.reduceLE, Int.reduceEq, Int.reduceNeg, Int.reduceAdd, Int.reduceSub, w1, w2, w3, w4, w5, w6, w7, w8, w9, IntKind.bits, Nat.min_def, Int.reducePow, Int.fdiv_eq_ediv_of_nonneg, Int.reduceLE, h]))
  have w10 : IntKind.u64.wrap (x / 4294967296 * (y / 4294967296) + (x / 4294967296 * (y % 4294967296) + x % 4294967296 * (y % 4294967296) / 4294967296) / 4294967296) = x / 4294967296 * (y / 4294967296) + (x / 4294967296 * (y % 4294967296) + x % 4294967296 * (y % 4294967296) / 4294967296) / 4294967296 := IntWalk.u64_in _ (by omega)
  rw [w10, u64_wrap (x * y), IntWalk.u64_in _ (by omega), a11]

/-- The number of bits. -/
def lenI (x : Int) : Int := if x = 0 then 0 else (x.toNat.log2 : Int) + 1
theorem lenI_spec {x : Int} (h : 0 < x) : (2 : Int) ^ (lenI x - 1).toNat ≤ x ∧ x < 2 ^ (lenI x).toNat ∧ 0 < lenI x := by
  have hne : x.toNat ≠ 0 := by omega
  have e : lenI x = (x.toNat.log2 : Int) + 1 := by unfold lenI; rw [if_neg (by omega)]
  have h1 := Nat.log2_self_le hne
  have h2 := @Nat.lt_log2_self x.toNat
  rw [e]
  have e1 : ((x.toNat.log2 : Int) + 1 - 1).toNat = x.toNat.log2 := by omega
  have e2 : ((x.toNat.log2 : Int) + 1).toNat = x.toNat.log2 + 1 := by omega
  rw [e1, e2]
  have c1 : ((2 : Int) ^ x.toNat.log2) = ((2 ^ x.toNat.log2 : Nat) : Int) := by push_cast; rfl
  have c2 : ((2 : Int) ^ (x.toNat.log2 + 1)) = ((2 ^ (x.toNat.log2 + 1) : Nat) : Int) := by push_cast; rfl
  rw [c1, c2]
  omega
theorem lenI_le {x : Int} (h0 : 0 ≤ x) {k : Nat} (h : x < 2 ^ k) : lenI x ≤ k := by
  unfold lenI
  split
  · omega
  · rename_i hne
    have : x.toNat < 2 ^ k := by
      have c1 : ((2 : Int) ^ k) = ((2 ^ k : Nat) : Int) := by push_cast; rfl
      omega
    have := (Nat.log2_lt (n := x.toNat) (k := k) (by omega)).2 this
    omega
theorem lenI_div {x : Int} {k : Nat} (h : (2 : Int) ^ k ≤ x) : lenI x = k + lenI (x / 2 ^ k) := by
  have hp : 0 < 2 ^ k := Nat.two_pow_pos k
  have c1 : ((2 : Int) ^ k) = ((2 ^ k : Nat) : Int) := by push_cast; rfl
  rw [c1] at h ⊢
  have hx : 0 < x := by omega
  obtain ⟨n, rfl⟩ := Int.eq_ofNat_of_zero_le (a := x) (by omega)
  have hn : 2 ^ k ≤ n := by omega
  have hq : 0 < n / 2 ^ k := Nat.div_pos hn hp
  have e : ((n : Int) / ((2 ^ k : Nat) : Int)) = ((n / 2 ^ k : Nat) : Int) := rfl
  rw [e]
  unfold lenI
  rw [if_neg (by omega), if_neg (by omega)]
  simp only [Int.toNat_natCast]
  have : n.log2 = k + (n / 2 ^ k).log2 := by
    have h1 := Nat.log2_self_le (n := n / 2 ^ k) (by omega)
    have h2 := @Nat.lt_log2_self (n / 2 ^ k)
    rw [Nat.le_div_iff_mul_le hp, ← Nat.pow_add] at h1
    rw [Nat.div_lt_iff_lt_mul hp, ← Nat.pow_add] at h2
    have h3 := (Nat.le_log2 (n := n) (k := (n / 2 ^ k).log2 + k) (by omega)).2 h1
    have h4 := (Nat.log2_lt (n := n) (k := (n / 2 ^ k).log2 + 1 + k) (by omega)).2 h2
    omega
  omega
def lenN (n : Nat) : Nat := if n = 0 then 0 else n.log2 + 1
theorem len8_all : ∀ n : Fin 256, st90_0[n.1]? = some (UInt8.ofNat (lenN n.1)) := by decide +kernel
theorem len8_at {x : Int} (h0 : 0 ≤ x) (h1 : x < 256) : ∃ b : UInt8, st90_0[x.toNat]? = some b ∧ ((b.toNat : Nat) : Int) = lenI x := by
  obtain ⟨n, rfl⟩ := Int.eq_ofNat_of_zero_le h0
  have ha := len8_all ⟨n, by omega⟩
  refine ⟨UInt8.ofNat (lenN n), by rw [Int.toNat_natCast]; exact ha, ?_⟩
  have hl := lenI_le h0 (k := 8) (by omega)
  unfold lenI at hl ⊢
  unfold lenN
  split
  · rename_i h
    rw [if_pos (by omega)]
    rfl
  · rename_i h
    rw [if_neg (by omega)] at hl ⊢
    rw [Int.toNat_natCast] at hl ⊢
    rw [UInt8.toNat_ofNat']
    omega
theorem ok90 {x : Int} (h0 : 0 ≤ x) (h1 : x ≤ 18446744073709551615) {K : PV → Prop} : XcP F gl 90 [.int .u64 x] K ⟨⟩ ↔ K (.t (.int .i64 (lenI x))) := by
  refine Ret.iff (Ret.of F90 rfl ?_)
  have e32 : ∀ z : Int, 4294967296 ≤ z → lenI z = 32 + lenI (z / 4294967296) := fun z hz => lenI_div (k := 32) hz
  have e16 : ∀ z : Int, 65536 ≤ z → lenI z = 16 + lenI (z / 65536) := fun z hz => lenI_div (k := 16) hz
  have e8 : ∀ z : Int, 256 ≤ z → lenI z = 8 + lenI (z / 256) := fun z hz => lenI_div (k := 8) hz
  have w48 : IntKind.i64.wrap 48 = 48 := by decide
  have w56 : IntKind.i64.wrap 56 = 56 := by decide
  have w16 : IntKind.i64.wrap 16 = 16 := by decide
  have w24 : IntKind.i64.wrap 24 = 24 := by decide
  have w40 : IntKind.i64.wrap 40 = 40 := by decide
  have w8 : IntKind.i64.wrap 8 = 8 := by decide
  have fin : ∀ (z n : Int), 0 ≤ z → z < 256 → 0 ≤ n → n ≤ 56 → ∃ b : UInt8, st90_0[(IntKind.u8.wrap z).toNat]? = some b ∧ 0 ≤ IntKind.u8.wrap z ∧ IntKind.i64.wrap (n + IntKind.i64.wrap (b.toNat : Int)) = n + lenI z := by
    intro z n hz hz2 hn hn2
    have hw : IntKind.u8.wrap z = z := IntWalk.u8_in z ⟨hz, by omega⟩
    rw [hw]
    obtain ⟨b, hb, hl⟩ := len8_at hz hz2
    refine ⟨b, hb, hz, ?_⟩
    have hle := lenI_le hz (k := 8) (by omega)
    have hb0 : 0 ≤ lenI z := by omega
    rw [hl, IntWalk.i64_in (lenI z) (by omega), IntWalk.i64_in _ (by omega)]
  simp only [ir90]
  simp only [wCo, wFr, wOp, wBi, wLst, wLog, xB_other, Nat.reduceBEq, unT, loadP, storeP, partP, partT, partV, cellsP, mkAgg, allT, setRange, fillP, fieldA, indexS, indexA, indexV, indexStr, elems, lenP, pickV, cviV, nckV, extV, isNil, bound, close, close1, aft, retV, retSl, Go.Pi.one, eqT, eqs, eq1, Nat.reduceEqDiff, Nat.reduceAdd, Nat.reduceSub, Nat.reduceMul, Nat.reduceLeDiff, Nat.reduceLT, Nat.one_ne_zero, Nat.zero_ne_one, reduceIte, reduceCtorEq, bne_self_eq_false, decide_true, decide_false, Int.reduceToNat, Int.cast_ofNat_Int, Int.reduceLT, Int.reduceLE, Int.reduceEq, Int.reduceNeg, Int.reduceAdd, Int.reduceSub, w48, w56, w16, w24, w40, w8, Int.zero_add, IntKind.bits, Nat.min_def, Int.reducePow, Int.fdiv_eq_ediv_of_nonneg, Int.reduceLE]
  repeat' ((with_reducible first | refine xG_dec ?_ ?_ | refine xG_ndec ?_ ?_ | refine xG_nsplit ?_ ?_ | refine xG_split ?_ ?_ | refine xC_dec ?_ ?_ | refine xC_ndec ?_ ?_ | refine xC_nsplit ?_ ?_ | refine xC_split ?_ ?_) <;> intro h <;> (try simp only [wCo, wFr, wOp, wBi, wLst, wLog, xB_other, Nat.reduceBEq, unT, loadP, storeP, partP, partT, partV, cellsP, mkAgg, allT, setRange, fillP, fieldA, indexS, indexA, indexV, indexStr, elems, lenP, pickV, cviV, nckV, extV, isNil, bound, close, close1, aft, retV, retSl, Go.Pi.one, eqT, eqs, eq1, Nat.reduceEqDiff, Nat.reduceAdd, Nat.reduceSub, Nat.reduceMul, Nat.reduceLeDiff, Nat.reduceLT, Nat.one_ne_zero, Nat.zero_ne_one, reduceIte, reduceCtorEq, bne_self_eq_false, decide_true, decide_false, Int.reduceToNat, Int.cast_ofNat_Int, Int.reduceLT, Int.reduceLE, Int.reduceEq, Int.reduceNeg, Int.reduceAdd, Int.reduceSub, w48, w56, w16, w24, w40, w8, Int.zero_add, IntKind.bits, Nat.min_def, Int.reducePow, Int.fdiv_eq_ediv_of_nonneg, Int.reduceLE, h]))
  · obtain ⟨b, hb, hb0, hw⟩ := fin (x / 4294967296 / 65536 / 256) 56 (by omega) (by omega) (by omega) (by omega)
    simp only [wCo, wFr, wOp, wBi, wLst, wLog, xB_other, Nat.reduceBEq, unT, loadP, storeP, partP, partT, partV, cellsP, mkAgg, allT, setRange, fillP, fieldA, indexS, indexA, indexV, indexStr, elems, lenP, pickV, cviV, nckV, extV, isNil, bound, close, close1, aft, retV, retSl, Go.Pi.one, eqT, eqs, eq1, Nat.reduceEqDiff, Nat.reduceAdd, Nat.reduceSub, Nat.reduceMul, Nat.reduceLeDiff, Nat.reduceLT, Nat.one_ne_zero, Nat.zero_ne_one, reduceIte, reduceCtorEq, bne_self_eq_false, decide_true, decide_false, Int.reduceToNat, Int.cast_ofNat_Int, Int.reduceLT, Int.reduceLE, Int.reduceEq, Int.reduceNeg, Int.reduceAdd, Int.reduceSub, hb, hb0, hw, w48, w56, w16, w24, w40, w8]
    repeat' ((with_reducible first | refine xG_dec ?_ ?_ | refine xG_ndec ?_ ?_ | refine xG_nsplit ?_ ?_ | refine xG_split ?_ ?_ | refine xC_dec ?_ ?_ | refine xC_ndec ?_ ?_ | refine xC_nsplit ?_ ?_ | refine xC_split ?_ ?_) <;> intro h <;> (try simp only [wCo, wFr, wOp, wBi, wLst, wLog, xB_other, Nat.reduceBEq, unT, loadP, storeP, partP, partT, partV, cellsP, mkAgg, allT, setRange, fillP, fieldA, indexS, indexA, indexV, indexStr, elems, lenP, pickV, cviV, nckV, extV, isNil, bound, close, close1, aft, retV, retSl, Go.Pi.one, eqT, eqs, eq1, Nat.reduceEqDiff, Nat.reduceAdd, Nat.reduceSub, Nat.reduceMul, Nat.reduceLeDiff, Nat.reduceLT, Nat.one_ne_zero, Nat.zero_ne_one, reduceIte, reduceCtorEq, bne_self_eq_false, decide_true, decide_false, Int.reduceToNat, Int.cast_ofNat_Int, Int.reduceLT, Int.reduceLE, Int.reduceEq, Int.reduceNeg, Int.reduceAdd, Int.reduceSub, hb, hb0, hw, w48, w56, w16, w24, w40, w8, h]))
    all_goals (congr 2; rw [e32 (x) (by omega), e16 (x / 4294967296) (by omega), e8 (x / 4294967296 / 65536) (by omega)]; try omega)
  · obtain ⟨b, hb, hb0, hw⟩ := fin (x / 4294967296 / 65536) 48 (by omega) (by omega) (by omega) (by omega)
    simp only [wCo, wFr, wOp, wBi, wLst, wLog, xB_other, Nat.reduceBEq, unT, loadP, storeP, partP, partT, partV, cellsP, mkAgg, allT, setRange, fillP, fieldA, indexS, indexA, indexV, indexStr, elems, lenP, pickV, cviV, nckV, extV, isNil, bound, close, close1, aft, retV, retSl, Go.Pi.one, eqT, eqs, eq1, Nat.reduceEqDiff, Nat.reduceAdd, Nat.reduceSub, Nat.reduceMul, Nat.reduceLeDiff, Nat.reduceLT, Nat.one_ne_zero, Nat.zero_ne_one, reduceIte, reduceCtorEq, bne_self_eq_false, decide_true, decide_false, Int.reduceToNat, Int.cast_ofNat_Int, Int.reduceLT, Int.reduceLE, Int.reduceEq, Int.reduceNeg, Int.reduceAdd, Int.reduceSub, hb, hb0, hw, w48, w56, w16, w24, w40, w8]
    repeat' ((with_reducible first | refine xG_dec ?_ ?_ | refine xG_ndec ?_ ?_ | refine xG_nsplit ?_ ?_ | refine xG_split ?_ ?_ | refine xC_dec ?_ ?_ | refine xC_ndec ?_ ?_ | refine xC_nsplit ?_ ?_ | refine xC_split ?_ ?_) <;> intro h <;> (try simp only [wCo, wFr, wOp, wBi, wLst, wLog, xB_other, Nat.reduceBEq, unT, loadP, storeP, partP, partT, partV, cellsP, mkAgg, allT, setRange, fillP, fieldA, indexS, indexA, indexV, indexStr, elems, lenP, pickV, cviV, nckV, extV, isNil, bound, close, close1, aft, retV, retSl, Go.Pi.one, eqT, eqs, eq1, Nat.reduceEqDiff, Nat.reduceAdd, Nat.reduceSub, Nat.reduceMul, Nat.reduceLeDiff, Nat.reduceLT, Nat.one_ne_zero, Nat.zero_ne_one, reduceIte, reduceCtorEq, bne_self_eq_false, decide_true, decide_false, Int.reduceToNat, Int.cast_ofNat_Int, Int.reduceLT, Int.reduceLE, Int.reduceEq, Int.reduceNeg, Int.reduceAdd, Int.reduceSub, hb, hb0, hw, w48, w56, w16, w24, w40, w8, h]))
    all_goals (congr 2; rw [e32 (x) (by omega), e16 (x / 4294967296) (by omega)]; try omega)
  · obtain ⟨b, hb, hb0, hw⟩ := fin (x / 4294967296 / 256) 40 (by omega) (by omega) (by omega) (by omega)
    simp only [wCo, wFr, wOp, wBi, wLst, wLog, xB_other, Nat.reduceBEq, unT, loadP, storeP, partP, partT, partV, cellsP, mkAgg, allT, setRange, fillP, fieldA, indexS, indexA, indexV, indexStr, elems, lenP, pickV, cviV, nckV, extV, isNil, bound, close, close1, aft, retV, retSl, Go.Pi.one, eqT, eqs, eq1, Nat.reduceEqDiff, Nat.reduceAdd, Nat.reduceSub, Nat.reduceMul, Nat.reduceLeDiff, Nat.reduceLT, Nat.one_ne_zero, Nat.zero_ne_one, reduceIte, reduceCtorEq, bne_self_eq_false, decide_true, decide_false, Int.reduceToNat, Int.cast_ofNat_Int, Int.reduceLT, Int.reduceLE, Int.reduceEq, Int.reduceNeg, Int.reduceAdd, Int.reduceSub, hb, hb0, hw, w48, w56, w16, w24, w40, w8]
    repeat' ((with_reducible first | refine xG_dec ?_ ?_ | refine xG_ndec ?_ ?_ | refine xG_nsplit ?_ ?_ | refine xG_split ?_ ?_ | refine xC_dec ?_ ?_ | refine xC_ndec ?_ ?_ | refine xC_nsplit ?_ ?_ | refine xC_split ?_ ?_) <;> intro h <;> (try simp only [wCo, wFr, wOp, wBi, wLst, wLog, xB_other, Nat.reduceBEq, unT, loadP, storeP, partP, partT, partV, cellsP, mkAgg, allT, setRange, fillP, fieldA, indexS, indexA, indexV, indexStr, elems, lenP, pickV, cviV, nckV, extV, isNil, bound, close, close1, aft, retV, retSl, Go.Pi.one, eqT, eqs, eq1, Nat.reduceEqDiff, Nat.reduceAdd, Nat.reduceSub, Nat.reduceMul, Nat.reduceLeDiff, Nat.reduceLT, Nat.one_ne_zero, Nat.zero_ne_one, reduceIte, reduceCtorEq, bne_self_eq_false, decide_true, decide_false, Int.reduceToNat, Int.cast_ofNat_Int, Int.reduceLT, Int.reduceLE, Int.reduceEq, Int.reduceNeg, Int.reduceAdd, Int.reduceSub, hb, hb0, hw, w48, w56, w16, w24, w40, w8, h]))
    all_goals (congr 2; rw [e32 (x) (by omega), e8 (x / 4294967296) (by omega)]; try omega)
  · obtain ⟨b, hb, hb0, hw⟩ := fin (x / 4294967296) 32 (by omega) (by omega) (by omega) (by omega)
    simp only [wCo, wFr, wOp, wBi, wLst, wLog, xB_other, Nat.reduceBEq, unT, loadP, storeP, partP, partT, partV, cellsP, mkAgg, allT, setRange, fillP, fieldA, indexS, indexA, indexV, indexStr, elems, lenP, pickV, cviV, nckV, extV, isNil, bound, close, close1, aft, retV, retSl, Go.Pi.one, eqT, eqs, eq1, Nat.reduceEqDiff, Nat.reduceAdd, Nat.reduceSub, Nat.reduceMul, Nat.reduceLeDiff, Nat.reduceLT, Nat.one_ne_zero, Nat.zero_ne_one, reduceIte, reduceCtorEq, bne_self_eq_false, decide_true, decide_false, Int.reduceToNat, Int.cast_ofNat_Int, Int.reduceLT, Int.reduceLE, Int.reduceEq, Int.reduceNeg, Int.reduceAdd, Int.reduceSub, hb, hb0, hw, w48, w56, w16, w24, w40, w8]
    repeat' ((with_reducible first | refine xG_dec ?_ ?_ | refine xG_ndec ?_ ?_ | refine xG_nsplit ?_ ?_ | refine xG_split ?_ ?_ | refine xC_dec ?_ ?_ | refine xC_ndec ?_ ?_ | refine xC_nsplit ?_ ?_ | refine xC_split ?_ ?_) <;> intro h <;> (try simp only [wCo, wFr, wOp, wBi, wLst, wLog, xB_other, Nat.reduceBEq, unT, loadP, storeP, partP, partT, partV, cellsP, mkAgg, allT, setRange, fillP, fieldA, indexS, indexA, indexV, indexStr, elems, lenP, pickV, cviV, nckV, extV, isNil, bound, close, close1, aft, retV, retSl, Go.Pi.one, eqT, eqs, eq1, Nat.reduceEqDiff, Nat.reduceAdd, Nat.reduceSub, Nat.reduceMul, Nat.reduceLeDiff, Nat.reduceLT, Nat.one_ne_zero, Nat.zero_ne_one, reduceIte, reduceCtorEq, bne_self_eq_false, decide_true, decide_false, Int.reduceToNat, Int.cast_ofNat_Int, Int.reduceLT, Int.reduceLE, Int.reduceEq, Int.reduceNeg, Int.reduceAdd, Int.reduceSub, hb, hb0, hw, w48, w56, w16, w24, w40, w8, h]))
    all_goals (congr 2; rw [e32 (x) (by omega)]; try omega)
  · obtain ⟨b, hb, hb0, hw⟩ := fin (x / 65536 / 256) 24 (by omega) (by omega) (by omega) (by omega)
    simp only [wCo, wFr, wOp, wBi, wLst, wLog, xB_other, Nat.reduceBEq, unT, loadP, storeP, partP, partT, partV, cellsP, mkAgg, allT, setRange, fillP, fieldA, indexS, indexA, indexV, indexStr, elems, lenP, pickV, cviV, nckV, extV, isNil, bound, close, close1, aft, retV, retSl, Go.Pi.one, eqT, eqs, eq1, Nat.reduceEqDiff, Nat.reduceAdd, Nat.reduceSub, Nat.reduceMul, Nat.reduceLeDiff, Nat.reduceLT, Nat.one_ne_zero, Nat.zero_ne_one, reduceIte, reduceCtorEq, bne_self_eq_false, decide_true, decide_false, Int.reduceToNat, Int.cast_ofNat_Int, Int.reduceLT, Int.reduceLE, Int.reduceEq, Int.reduceNeg, Int.reduceAdd, Int.reduceSub, hb, hb0, hw, w48, w56, w16, w24, w40, w8]
    repeat' ((with_reducible first | refine xG_dec ?_ ?_ | refine xG_ndec ?_ ?_ | refine xG_nsplit ?_ ?_ | refine xG_split ?_ ?_ | refine xC_dec ?_ ?_ | refine xC_ndec ?_ ?_ | refine xC_nsplit ?_ ?_ | refine xC_split ?_ ?_) <;> intro h <;> (try simp only [wCo, wFr, wOp, wBi, wLst, wLog, xB_other, Nat.reduceBEq, unT, loadP, storeP, partP, partT, partV, cellsP, mkAgg, allT, setRange, fillP, fieldA, indexS, indexA, indexV, indexStr, elems, lenP, pickV, cviV, nckV, extV, isNil, bound, close, close1, aft, retV, retSl, Go.Pi.one, eqT, eqs, eq1, Nat.reduceEqDiff, Nat.reduceAdd, Nat.reduceSub, Nat.reduceMul, Nat.reduceLeDiff, Nat.reduceLT, Nat.one_ne_zero, Nat.zero_ne_one, reduceIte, reduceCtorEq, bne_self_eq_false, decide_true, decide_false, Int.reduceToNat, Int.cast_ofNat_Int, Int.reduceLT, Int.reduceLE, Int.reduceEq, Int.reduceNeg, Int.reduceAdd, Int.reduceSub, hb, hb0, hw, w48, w56, w16, w24, w40, w8, h]))
    all_goals (congr 2; rw [e16 (x) (by omega), e8 (x / 65536) (by omega)]; try omega)
  · obtain ⟨b, hb, hb0, hw⟩ := fin (x / 65536) 16 (by omega) (by omega) (by omega) (by omega)
    simp only [wCo, wFr, wOp, wBi, wLst, wLog, xB_other, Nat.reduceBEq, unT, loadP, storeP, partP, partT, partV, cellsP, mkAgg, allT, setRange, fillP, fieldA, indexS, indexA, indexV, indexStr, elems, lenP, pickV, cviV, nckV, extV, isNil, bound, close, close1, aft, retV, retSl, Go.Pi.one, eqT, eqs, eq1, Nat.reduceEqDiff, Nat.reduceAdd, Nat.reduceSub, Nat.reduceMul, Nat.reduceLeDiff, Nat.reduceLT, Nat.one_ne_zero, Nat.zero_ne_one, reduceIte, reduceCtorEq, bne_self_eq_false, decide_true, decide_false, Int.reduceToNat, Int.cast_ofNat_Int, Int.reduceLT, Int.reduceLE, Int.reduceEq, Int.reduceNeg, Int.reduceAdd, Int.reduceSub, hb, hb0, hw, w48, w56, w16, w24, w40, w8]
    repeat' ((with_reducible first | refine xG_dec ?_ ?_ | refine xG_ndec ?_ ?_ | refine xG_nsplit ?_ ?_ | refine xG_split ?_ ?_ | refine xC_dec ?_ ?_ | refine xC_ndec ?_ ?_ | refine xC_nsplit ?_ ?_ | refine xC_split ?_ ?_) <;> intro h <;> (try simp only [wCo, wFr, wOp, wBi, wLst, wLog, xB_other, Nat.reduceBEq, unT, loadP, storeP, partP, partT, partV, cellsP, mkAgg, allT, setRange, fillP, fieldA, indexS, indexA, indexV, indexStr, elems, lenP, pickV, cviV, nckV, extV, isNil, bound, close, close1, aft, retV, retSl, Go.Pi.one, eqT, eqs, eq1, Nat.reduceEqDiff, Nat.reduceAdd, Nat.reduceSub, Nat.reduceMul, Nat.reduceLeDiff, Nat.reduceLT, Nat.one_ne_zero, Nat.zero_ne_one, reduceIte, reduceCtorEq, bne_self_eq_false, decide_true, decide_false, Int.reduceToNat, Int.cast_ofNat_Int, Int.reduceLT, Int.reduceLE, Int.reduceEq, Int.reduceNeg, Int.reduceAdd, Int.reduceSub, hb, hb0, hw, w48, w56, w16, w24, w40, w8, h]))
    all_goals (congr 2; rw [e16 (x) (by omega)]; try omega)
  · obtain ⟨b, hb, hb0, hw⟩ := fin (x / 256) 8 (by omega) (by omega) (by omega) (by omega)
    simp only [wCo, wFr, wOp, wBi, wLst, wLog, xB_other, Nat.reduceBEq, unT, loadP, storeP, partP, partT, partV, cellsP, mkAgg, allT, setRange, fillP, fieldA, indexS, indexA, indexV, indexStr, elems, lenP, pickV, cviV, nckV, extV, isNil, bound, close, close1, aft, retV, retSl, Go.Pi.one, eqT, eqs, eq1, Nat.reduceEqDiff, Nat.reduceAdd, Nat.reduceSub, Nat.reduceMul, Nat.reduceLeDiff, Nat.reduceLT, Nat.one_ne_zero, Nat.zero_ne_one, reduceIte, reduceCtorEq, bne_self_eq_false, decide_true, decide_false, Int.reduceToNat, Int.cast_ofNat_Int, Int.reduceLT, Int.reduceLE, Int.reduceEq, Int.reduceNeg, Int.reduceAdd, Int.reduceSub, hb, hb0, hw, w48, w56, w16, w24, w40, w8]
    repeat' ((with_reducible first | refine xG_dec ?_ ?_ | refine xG_ndec ?_ ?_ | refine xG_nsplit ?_ ?_ | refine xG_split ?_ ?_ | refine xC_dec ?_ ?_ | refine xC_ndec ?_ ?_ | refine xC_nsplit ?_ ?_ | refine xC_split ?_ ?_) <;> intro h <;> (try simp only [wCo, wFr, wOp, wBi, wLst, wLog, xB_other, Nat.reduceBEq, unT, loadP, storeP, partP, partT, partV, cellsP, mkAgg, allT, setRange, fillP, fieldA, indexS, indexA, indexV, indexStr, elems, lenP, pickV, cviV, nckV, extV, isNil, bound, close, close1, aft, retV, retSl, Go.Pi.one, eqT, eqs, eq1, Nat.reduceEqDiff, Nat.reduceAdd, Nat.reduceSub, Nat.reduceMul, Nat.reduceLeDiff, Nat.reduceLT, Nat.one_ne_zero, Nat.zero_ne_one, reduceIte, reduceCtorEq, bne_self_eq_false, decide_true, decide_false, Int.reduceToNat, Int.cast_ofNat_Int, Int.reduceLT, Int.reduceLE, Int.reduceEq, Int.reduceNeg, Int.reduceAdd, Int.reduceSub, hb, hb0, hw, w48, w56, w16, w24, w40, w8, h]))
    all_goals (congr 2; rw [e8 (x) (by omega)]; try omega)
  · obtain ⟨b, hb, hb0, hw⟩ := fin (x) 0 (by omega) (by omega) (by omega) (by omega)
    simp only [wCo, wFr, wOp, wBi, wLst, wLog, xB_other, Nat.reduceBEq, unT, loadP, storeP, partP, partT, partV, cellsP, mkAgg, allT, setRange, fillP, fieldA, indexS, indexA, indexV, indexStr, elems, lenP, pickV, cviV, nckV, extV, isNil, bound, close, close1, aft, retV, retSl, Go.Pi.one, eqT, eqs, eq1, Nat.reduceEqDiff, Nat.reduceAdd, Nat.reduceSub, Nat.reduceMul, Nat.reduceLeDiff, Nat.reduceLT, Nat.one_ne_zero, Nat.zero_ne_one, reduceIte, reduceCtorEq, bne_self_eq_false, decide_true, decide_false, Int.reduceToNat, Int.cast_ofNat_Int, Int.reduceLT, Int.reduceLE, Int.reduceEq, Int.reduceNeg, Int.reduceAdd, Int.reduceSub, hb, hb0, hw, w48, w56, w16, w24, w40, w8]
    repeat' ((with_reducible first | refine xG_dec ?_ ?_ | refine xG_ndec ?_ ?_ | refine xG_nsplit ?_ ?_ | refine xG_split ?_ ?_ | refine xC_dec ?_ ?_ | refine xC_ndec ?_ ?_ | refine xC_nsplit ?_ ?_ | refine xC_split ?_ ?_) <;> intro h <;> (try simp only [wCo, wFr, wOp, wBi, wLst, wLog, xB_other, Nat.reduceBEq, unT, loadP, storeP, partP, partT, partV, cellsP, mkAgg, allT, setRange, fillP, fieldA, indexS, indexA, indexV, indexStr, elems, lenP, pickV, cviV, nckV, extV, isNil, bound, close, close1, aft, retV, retSl, Go.Pi.one, eqT, eqs, eq1, Nat.reduceEqDiff, Nat.reduceAdd, Nat.reduceSub, Nat.reduceMul, Nat.reduceLeDiff, Nat.reduceLT, Nat.one_ne_zero, Nat.zero_ne_one, reduceIte, reduceCtorEq, bne_self_eq_false, decide_true, decide_false, Int.reduceToNat, Int.cast_ofNat_Int, Int.reduceLT, Int.reduceLE, Int.reduceEq, Int.reduceNeg, Int.reduceAdd, Int.reduceSub, hb, hb0, hw, w48, w56, w16, w24, w40, w8, h]))
    all_goals (congr 2; omega)
theorem ok78 {x : Int} (h0 : 0 ≤ x) (h1 : x ≤ 18446744073709551615) {K : PV → Prop} : XcP F gl 78 [.int .u64 x] K ⟨⟩ ↔ K (.t (.int .i64 (64 - lenI x))) := by
  refine Ret.iff (Ret.of F78 rfl ?_)
  have hl := lenI_le h0 (k := 64) (by omega)
  have hl0 : 0 ≤ lenI x := by unfold lenI; split <;> omega
  have w : IntKind.i64.wrap (64 - lenI x) = 64 - lenI x := IntWalk.i64_in _ (by omega)
  simp only [ir78]
  simp only [wCo, wFr, wOp, wBi, wLst, wLog, xB_other, Nat.reduceBEq, unT, loadP, storeP, partP, partT, partV, cellsP, mkAgg, allT, setRange, fillP, fieldA, indexS, indexA, indexV, indexStr, elems, lenP, pickV, cviV, nckV, extV, isNil, bound, close, close1, aft, retV, retSl, Go.Pi.one, eqT, eqs, eq1, Nat.reduceEqDiff, Nat.reduceAdd, Nat.reduceSub, Nat.reduceMul, Nat.reduceLeDiff, Nat.reduceLT, Nat.one_ne_zero, Nat.zero_ne_one, reduceIte, reduceCtorEq, bne_self_eq_false, decide_true, decide_false, Int.reduceToNat, Int.cast_ofNat_Int, Int.reduceLT, Int.reduceLE, Int.reduceEq, Int.reduceNeg, Int.reduceAdd, Int.reduceSub, ok90 h0 h1, w]
  repeat' ((with_reducible first | refine xG_dec ?_ ?_ | refine xG_ndec ?_ ?_ | refine xG_nsplit ?_ ?_ | refine xG_split ?_ ?_ | refine xC_dec ?_ ?_ | refine xC_ndec ?_ ?_ | refine xC_nsplit ?_ ?_ | refine xC_split ?_ ?_) <;> intro h <;> (try simp only [wCo, wFr, wOp, wBi, wLst, wLog, xB_other, Nat.reduceBEq, unT, loadP, storeP, partP, partT, partV, cellsP, mkAgg, allT, setRange, fillP, fieldA, indexS, indexA, indexV, indexStr, elems, lenP, pickV, cviV, nckV, extV, isNil, bound, close, close1, aft, retV, retSl, Go.Pi.one, eqT, eqs, eq1, Nat.reduceEqDiff, Nat.reduceAdd, Nat.reduceSub, Nat.reduceMul, Nat.reduceLeDiff, Nat.reduceLT, Nat.one_ne_zero, Nat.zero_ne_one, reduceIte, reduceCtorEq, bne_self_eq_false, decide_true, decide_false, Int.reduceToNat, Int.cast_ofNat_Int, Int.reduceLT, Int.reduceLE, Int.reduceEq, Int.reduceNeg, Int.reduceAdd, Int.reduceSub, ok90 h0 h1, w, h]))

/-! ### Div64 -/
theorem loop63a (u un yn1 yn0 y : Int) (hy : y = yn1 * 4294967296 + yn0) (h1 : 2147483648 ≤ yn1) (h2 : yn1 ≤ 4294967295) (h3 : 0 ≤ yn0) (h4 : yn0 ≤ 4294967295) (h5 : 0 ≤ un) (h6 : un ≤ 4294967295) (h7 : 0 ≤ u) (h8 : u < y) (sg : Sg) (ow : Ow) (Q : Ex → S → Prop)
    (v2 v8 v11 v14 : PV) : ∀ (n : Nat) (q r : Int) (fr : List PV), q.toNat = n → 0 ≤ q → q ≤ 8589934592 → 0 ≤ r → r ≤ 4294967295 → q * yn1 + r = u → u * 4294967296 + un < q * y + y →
    FrAt fr [(2, v2), (8, v8), (11, v11), (14, v14), (9, .t (.int .u64 yn1)), (10, .t (.int .u64 yn0)), (13, .t (.int .u64 un)), (15, .t (.int .u64 q)), (16, .t (.int .u64 r))] →
    (∀ q' fr', 0 ≤ q' → q' ≤ 4294967295 → q' * y ≤ u * 4294967296 + un → u * 4294967296 + un < q' * y + y → FrAt fr' [(2, v2), (8, v8), (11, v11), (14, v14), (9, .t (.int .u64 yn1)), (10, .t (.int .u64 yn0)), (13, .t (.int .u64 un)), (15, .t (.int .u64 q'))] → Q (.exit 0) ⟨fr', sg, ow⟩) →
    Xl F gl lb63_1 ⟨fr, sg, ow⟩ Q ⟨⟩ := by
  intro n
  induction n with
  | zero =>
    intro q r fr hn q0 q1 r0 r1 he hlt hf hQ
    simp only [FrAt_cons, FrAt_nil] at hf
    obtain ⟨f2, f8, f11, f14, f9, f10, f13, f15, f16, -⟩ := hf
    obtain rfl : q = 0 := by omega
    have c1 : ¬ ((4294967296 : Int) ≤ 0) := by decide
    have w1 : IntKind.u64.wrap (4294967296 * r) = 4294967296 * r := IntWalk.u64_in _ (by omega)
    have w2 : IntKind.u64.wrap (4294967296 * r + un) = 4294967296 * r + un := IntWalk.u64_in _ (by omega)
    have w3 : IntKind.u64.wrap 0 = 0 := by decide
    have c2 : ¬ (4294967296 * r + un < 0) := by omega
    refine Xl.step ?_
    simp only [lb63_1]
    simp only [wCo, wFr, wOp, wBi, wLst, wLog, xB_other, Nat.reduceBEq, unT, loadP, storeP, partP, partT, partV, cellsP, mkAgg, allT, setRange, fillP, fieldA, indexS, indexA, indexV, indexStr, elems, lenP, pickV, cviV, nckV, extV, isNil, bound, close, close1, aft, retV, retSl, Go.Pi.one, eqT, eqs, eq1, Nat.reduceEqDiff, Nat.reduceAdd, Nat.reduceSub, Nat.reduceMul, Nat.reduceLeDiff, Nat.reduceLT, Nat.one_ne_zero, Nat.zero_ne_one, reduceIte, reduceCtorEq, bne_self_eq_false, decide_true, decide_false, Int.reduceToNat, Int.cast_ofNat_Int, Int.reduceLT, Int.reduceLE, Int.reduceEq, Int.reduceNeg, Int.reduceAdd, Int.reduceSub, f2, f8, f11, f14, f9, f10, f13, f15, f16, c1, Int.zero_mul, w1, w2, w3, c2]
    repeat' ((with_reducible first | refine xG_dec ?_ ?_ | refine xG_ndec ?_ ?_ | refine xG_nsplit ?_ ?_ | refine xG_split ?_ ?_ | refine xC_dec ?_ ?_ | refine xC_ndec ?_ ?_ | refine xC_nsplit ?_ ?_ | refine xC_split ?_ ?_) <;> intro h <;> (try simp only [wCo, wFr, wOp, wBi, wLst, wLog, xB_other, Nat.reduceBEq, unT, loadP, storeP, partP, partT, partV, cellsP, mkAgg, allT, setRange, fillP, fieldA, indexS, indexA, indexV, indexStr, elems, lenP, pickV, cviV, nckV, extV, isNil, bound, close, close1, aft, retV, retSl, Go.Pi.one, eqT, eqs, eq1, Nat.reduceEqDiff, Nat.reduceAdd, Nat.reduceSub, Nat.reduceMul, Nat.reduceLeDiff, Nat.reduceLT, Nat.one_ne_zero, Nat.zero_ne_one, reduceIte, reduceCtorEq, bne_self_eq_false, decide_true, decide_false, Int.reduceToNat, Int.cast_ofNat_Int, Int.reduceLT, Int.reduceLE, Int.reduceEq, Int.reduceNeg, Int.reduceAdd, Int.reduceSub, f2, f8, f11, f14, f9, f10, f13, f15, f16, c1, Int.zero_mul, w1, w2, w3, c2, h]))
    refine hQ 0 _ (by omega) (by omega) (by omega) (by omega) ?_
    simp only [FrAt_cons, FrAt_nil, wFr, Nat.reduceEqDiff, Nat.one_ne_zero, Nat.zero_ne_one, reduceIte, and_self, and_true, true_and, f2, f8, f11, f14, f9, f10, f13, f15]
  | succ n ih =>
    intro q r fr hn q0 q1 r0 r1 he hlt hf hQ
    simp only [FrAt_cons, FrAt_nil] at hf
    obtain ⟨f2, f8, f11, f14, f9, f10, f13, f15, f16, -⟩ := hf
    have w1 : IntKind.u64.wrap (4294967296 * r) = 4294967296 * r := IntWalk.u64_in _ (by omega)
    have w2 : IntKind.u64.wrap (4294967296 * r + un) = 4294967296 * r + un := IntWalk.u64_in _ (by omega)
    have w3 : IntKind.u64.wrap (q - 1) = q - 1 := IntWalk.u64_in _ (by omega)
    have w4 : IntKind.u64.wrap (r + yn1) = r + yn1 := IntWalk.u64_in _ (by omega)
    have ey : (q - 1) * y + y = q * y := by rw [Int.sub_mul, Int.one_mul]; omega
    have en : (q - 1) * yn1 = q * yn1 - yn1 := by rw [Int.sub_mul, Int.one_mul]
    have hdec : u * 4294967296 + un < q * y → (¬ (4294967296 ≤ q) → 0 ≤ q * yn0 ∧ q * yn0 ≤ 18446744073709551615) → (4294967296 ≤ r + yn1 → (q - 1) ≤ 4294967295 ∧ (q - 1) * y ≤ u * 4294967296 + un) := by
      intro hd _ hr
      have hq1 : q - 1 ≤ 4294967295 := by
        rcases Int.lt_or_le (q - 1) 4294967296 with h | h
        · omega
        · exfalso
          have h9 : 4294967296 * yn1 ≤ (q - 1) * yn1 := Int.mul_le_mul_of_nonneg_right h (by omega)
          omega
      refine ⟨hq1, ?_⟩
      have h9 : (q - 1) * yn0 ≤ 4294967295 * 4294967295 := Int.mul_le_mul hq1 h4 h3 (by decide)
      have := digit_stop (u := u) (un := un) (yn1 := yn1) (yn0 := yn0) (q := q - 1) (r := r + yn1) (by omega) (by omega)
      rw [← hy] at this
      exact this
    have hmul : ¬ (4294967296 ≤ q) → 0 ≤ q * yn0 ∧ q * yn0 ≤ 18446744073709551615 := by
      intro hb
      have := Int.mul_nonneg q0 h3
      have h9 : q * yn0 ≤ 4294967295 * 4294967295 := Int.mul_le_mul (by omega) h4 h3 (by decide)
      omega
    refine Xl.step ?_
    simp only [lb63_1]
    by_cases hb : 4294967296 ≤ q
    · have hd : u * 4294967296 + un < q * y := digit_big (by omega) h8 (by omega) hb
      simp only [wCo, wFr, wOp, wBi, wLst, wLog, xB_other, Nat.reduceBEq, unT, loadP, storeP, partP, partT, partV, cellsP, mkAgg, allT, setRange, fillP, fieldA, indexS, indexA, indexV, indexStr, elems, lenP, pickV, cviV, nckV, extV, isNil, bound, close, close1, aft, retV, retSl, Go.Pi.one, eqT, eqs, eq1, Nat.reduceEqDiff, Nat.reduceAdd, Nat.reduceSub, Nat.reduceMul, Nat.reduceLeDiff, Nat.reduceLT, Nat.one_ne_zero, Nat.zero_ne_one, reduceIte, reduceCtorEq, bne_self_eq_false, decide_true, decide_false, Int.reduceToNat, Int.cast_ofNat_Int, Int.reduceLT, Int.reduceLE, Int.reduceEq, Int.reduceNeg, Int.reduceAdd, Int.reduceSub, f2, f8, f11, f14, f9, f10, f13, f15, f16, hb, w3, w4]
      repeat' ((with_reducible first | refine xG_dec ?_ ?_ | refine xG_ndec ?_ ?_ | refine xG_nsplit ?_ ?_ | refine xG_split ?_ ?_ | refine xC_dec ?_ ?_ | refine xC_ndec ?_ ?_ | refine xC_nsplit ?_ ?_ | refine xC_split ?_ ?_) <;> intro h <;> (try simp only [wCo, wFr, wOp, wBi, wLst, wLog, xB_other, Nat.reduceBEq, unT, loadP, storeP, partP, partT, partV, cellsP, mkAgg, allT, setRange, fillP, fieldA, indexS, indexA, indexV, indexStr, elems, lenP, pickV, cviV, nckV, extV, isNil, bound, close, close1, aft, retV, retSl, Go.Pi.one, eqT, eqs, eq1, Nat.reduceEqDiff, Nat.reduceAdd, Nat.reduceSub, Nat.reduceMul, Nat.reduceLeDiff, Nat.reduceLT, Nat.one_ne_zero, Nat.zero_ne_one, reduceIte, reduceCtorEq, bne_self_eq_false, decide_true, decide_false, Int.reduceToNat, Int.cast_ofNat_Int, Int.reduceLT, Int.reduceLE, Int.reduceEq, Int.reduceNeg, Int.reduceAdd, Int.reduceSub, f2, f8, f11, f14, f9, f10, f13, f15, f16, hb, w3, w4, h]))
      · obtain ⟨k1, k2⟩ := hdec hd hmul h
        refine hQ (q - 1) _ (by omega) k1 k2 (by omega) ?_
        simp only [FrAt_cons, FrAt_nil, wFr, Nat.reduceEqDiff, Nat.one_ne_zero, Nat.zero_ne_one, reduceIte, and_self, and_true, true_and, f2, f8, f11, f14, f9, f10, f13]
      · exact ih (q - 1) (r + yn1) _ (by omega) (by omega) (by omega) (by omega) (by omega) (by omega) (by omega) (by simp only [FrAt_cons, FrAt_nil, wFr, Nat.reduceEqDiff, Nat.one_ne_zero, Nat.zero_ne_one, reduceIte, and_self, and_true, true_and, f2, f8, f11, f14, f9, f10, f13]) hQ
    · obtain ⟨m1, m2⟩ := hmul hb
      have w5 : IntKind.u64.wrap (q * yn0) = q * yn0 := IntWalk.u64_in _ ⟨m1, m2⟩
      by_cases hc : 4294967296 * r + un < q * yn0
      · have hd : u * 4294967296 + un < q * y := by rw [hy]; exact digit_more he hc
        simp only [wCo, wFr, wOp, wBi, wLst, wLog, xB_other, Nat.reduceBEq, unT, loadP, storeP, partP, partT, partV, cellsP, mkAgg, allT, setRange, fillP, fieldA, indexS, indexA, indexV, indexStr, elems, lenP, pickV, cviV, nckV, extV, isNil, bound, close, close1, aft, retV, retSl, Go.Pi.one, eqT, eqs, eq1, Nat.reduceEqDiff, Nat.reduceAdd, Nat.reduceSub, Nat.reduceMul, Nat.reduceLeDiff, Nat.reduceLT, Nat.one_ne_zero, Nat.zero_ne_one, reduceIte, reduceCtorEq, bne_self_eq_false, decide_true, decide_false, Int.reduceToNat, Int.cast_ofNat_Int, Int.reduceLT, Int.reduceLE, Int.reduceEq, Int.reduceNeg, Int.reduceAdd, Int.reduceSub, f2, f8, f11, f14, f9, f10, f13, f15, f16, hb, w1, w2, w3, w4, w5, hc]
        repeat' ((with_reducible first | refine xG_dec ?_ ?_ | refine xG_ndec ?_ ?_ | refine xG_nsplit ?_ ?_ | refine xG_split ?_ ?_ | refine xC_dec ?_ ?_ | refine xC_ndec ?_ ?_ | refine xC_nsplit ?_ ?_ | refine xC_split ?_ ?_) <;> intro h <;> (try simp only [wCo, wFr, wOp, wBi, wLst, wLog, xB_other, Nat.reduceBEq, unT, loadP, storeP, partP, partT, partV, cellsP, mkAgg, allT, setRange, fillP, fieldA, indexS, indexA, indexV, indexStr, elems, lenP, pickV, cviV, nckV, extV, isNil, bound, close, close1, aft, retV, retSl, Go.Pi.one, eqT, eqs, eq1, Nat.reduceEqDiff, Nat.reduceAdd, Nat.reduceSub, Nat.reduceMul, Nat.reduceLeDiff, Nat.reduceLT, Nat.one_ne_zero, Nat.zero_ne_one, reduceIte, reduceCtorEq, bne_self_eq_false, decide_true, decide_false, Int.reduceToNat, Int.cast_ofNat_Int, Int.reduceLT, Int.reduceLE, Int.reduceEq, Int.reduceNeg, Int.reduceAdd, Int.reduceSub, f2, f8, f11, f14, f9, f10, f13, f15, f16, hb, w1, w2, w3, w4, w5, hc, h]))
        · obtain ⟨k1, k2⟩ := hdec hd hmul h
          refine hQ (q - 1) _ (by omega) k1 k2 (by omega) ?_
          simp only [FrAt_cons, FrAt_nil, wFr, Nat.reduceEqDiff, Nat.one_ne_zero, Nat.zero_ne_one, reduceIte, and_self, and_true, true_and, f2, f8, f11, f14, f9, f10, f13]
        · exact ih (q - 1) (r + yn1) _ (by omega) (by omega) (by omega) (by omega) (by omega) (by omega) (by omega) (by simp only [FrAt_cons, FrAt_nil, wFr, Nat.reduceEqDiff, Nat.one_ne_zero, Nat.zero_ne_one, reduceIte, and_self, and_true, true_and, f2, f8, f11, f14, f9, f10, f13]) hQ
      · simp only [wCo, wFr, wOp, wBi, wLst, wLog, xB_other, Nat.reduceBEq, unT, loadP, storeP, partP, partT, partV, cellsP, mkAgg, allT, setRange, fillP, fieldA, indexS, indexA, indexV, indexStr, elems, lenP, pickV, cviV, nckV, extV, isNil, bound, close, close1, aft, retV, retSl, Go.Pi.one, eqT, eqs, eq1, Nat.reduceEqDiff, Nat.reduceAdd, Nat.reduceSub, Nat.reduceMul, Nat.reduceLeDiff, Nat.reduceLT, Nat.one_ne_zero, Nat.zero_ne_one, reduceIte, reduceCtorEq, bne_self_eq_false, decide_true, decide_false, Int.reduceToNat, Int.cast_ofNat_Int, Int.reduceLT, Int.reduceLE, Int.reduceEq, Int.reduceNeg, Int.reduceAdd, Int.reduceSub, f2, f8, f11, f14, f9, f10, f13, f15, f16, hb, w1, w2, w5, hc]
        repeat' ((with_reducible first | refine xG_dec ?_ ?_ | refine xG_ndec ?_ ?_ | refine xG_nsplit ?_ ?_ | refine xG_split ?_ ?_ | refine xC_dec ?_ ?_ | refine xC_ndec ?_ ?_ | refine xC_nsplit ?_ ?_ | refine xC_split ?_ ?_) <;> intro h <;> (try simp only [wCo, wFr, wOp, wBi, wLst, wLog, xB_other, Nat.reduceBEq, unT, loadP, storeP, partP, partT, partV, cellsP, mkAgg, allT, setRange, fillP, fieldA, indexS, indexA, indexV, indexStr, elems, lenP, pickV, cviV, nckV, extV, isNil, bound, close, close1, aft, retV, retSl, Go.Pi.one, eqT, eqs, eq1, Nat.reduceEqDiff, Nat.reduceAdd, Nat.reduceSub, Nat.reduceMul, Nat.reduceLeDiff, Nat.reduceLT, Nat.one_ne_zero, Nat.zero_ne_one, reduceIte, reduceCtorEq, bne_self_eq_false, decide_true, decide_false, Int.reduceToNat, Int.cast_ofNat_Int, Int.reduceLT, Int.reduceLE, Int.reduceEq, Int.reduceNeg, Int.reduceAdd, Int.reduceSub, f2, f8, f11, f14, f9, f10, f13, f15, f16, hb, w1, w2, w5, hc, h]))
        have := digit_stop (un := un) (yn0 := yn0) he (by omega)
        rw [← hy] at this
        refine hQ q _ q0 (by omega) this hlt ?_
        simp only [FrAt_cons, FrAt_nil, wFr, Nat.reduceEqDiff, Nat.one_ne_zero, Nat.zero_ne_one, reduceIte, and_self, and_true, true_and, f2, f8, f11, f14, f9, f10, f13, f15]

theorem loop63b (u un yn1 yn0 y : Int) (hy : y = yn1 * 4294967296 + yn0) (h1 : 2147483648 ≤ yn1) (h2 : yn1 ≤ 4294967295) (h3 : 0 ≤ yn0) (h4 : yn0 ≤ 4294967295) (h5 : 0 ≤ un) (h6 : un ≤ 4294967295) (h7 : 0 ≤ u) (h8 : u < y) (sg : Sg) (ow : Ow) (Q : Ex → S → Prop)
    (v2 v8 v15 v17 : PV) : ∀ (n : Nat) (q r : Int) (fr : List PV), q.toNat = n → 0 ≤ q → q ≤ 8589934592 → 0 ≤ r → r ≤ 4294967295 → q * yn1 + r = u → u * 4294967296 + un < q * y + y →
    FrAt fr [(2, v2), (8, v8), (15, v15), (17, v17), (9, .t (.int .u64 yn1)), (10, .t (.int .u64 yn0)), (14, .t (.int .u64 un)), (18, .t (.int .u64 q)), (16, .t (.int .u64 r))] →
    (∀ q' fr', 0 ≤ q' → q' ≤ 4294967295 → q' * y ≤ u * 4294967296 + un → u * 4294967296 + un < q' * y + y → FrAt fr' [(2, v2), (8, v8), (15, v15), (17, v17), (9, .t (.int .u64 yn1)), (10, .t (.int .u64 yn0)), (14, .t (.int .u64 un)), (18, .t (.int .u64 q'))] → Q (.exit 2) ⟨fr', sg, ow⟩) →
    Xl F gl lb63_0 ⟨fr, sg, ow⟩ Q ⟨⟩ := by
  intro n
  induction n with
  | zero =>
    intro q r fr hn q0 q1 r0 r1 he hlt hf hQ
    simp only [FrAt_cons, FrAt_nil] at hf
    obtain ⟨f2, f8, f15, f17, f9, f10, f14, f18, f16, -⟩ := hf
    obtain rfl : q = 0 := by omega
    have c1 : ¬ ((4294967296 : Int) ≤ 0) := by decide
    have w1 : IntKind.u64.wrap (4294967296 * r) = 4294967296 * r := IntWalk.u64_in _ (by omega)
    have w2 : IntKind.u64.wrap (4294967296 * r + un) = 4294967296 * r + un := IntWalk.u64_in _ (by omega)
    have w3 : IntKind.u64.wrap 0 = 0 := by decide
    have c2 : ¬ (4294967296 * r + un < 0) := by omega
    refine Xl.step ?_
    simp only [lb63_0]
    simp only [wCo, wFr, wOp, wBi, wLst, wLog, xB_other, Nat.reduceBEq, unT, loadP, storeP, partP, partT, partV, cellsP, mkAgg, allT, setRange, fillP, fieldA, indexS, indexA, indexV, indexStr, elems, lenP, pickV, cviV, nckV, extV, isNil, bound, close, close1, aft, retV, retSl, Go.Pi.one, eqT, eqs, eq1, Nat.reduceEqDiff, Nat.reduceAdd, Nat.reduceSub, Nat.reduceMul, Nat.reduceLeDiff, Nat.reduceLT, Nat.one_ne_zero, Nat.zero_ne_one, reduceIte, reduceCtorEq, bne_self_eq_false, decide_true, decide_false, Int.reduceToNat, Int.cast_ofNat_Int, Int.reduceLT, Int.reduceLE, Int.reduceEq, Int.reduceNeg, Int.reduceAdd, Int.reduceSub, f2, f8, f15, f17, f9, f10, f14, f18, f16, c1, Int.zero_mul, w1, w2, w3, c2]
    repeat' ((with_reducible first | refine xG_dec ?_ ?_ | refine xG_ndec ?_ ?_ | refine xG_nsplit ?_ ?_ | refine xG_split ?_ ?_ | refine xC_dec ?_ ?_ | refine xC_ndec ?_ ?_ | refine xC_nsplit ?_ ?_ | refine xC_split ?_ ?_) <;> intro h <;> (try simp only [wCo, wFr, wOp, wBi, wLst, wLog, xB_other, Nat.reduceBEq, unT, loadP, storeP, partP, partT, partV, cellsP, mkAgg, allT, setRange, fillP, fieldA, indexS, indexA, indexV, indexStr, elems, lenP, pickV, cviV, nckV, extV, isNil, bound, close, close1, aft, retV, retSl, Go.Pi.one, eqT, eqs, eq1, Nat.reduceEqDiff, Nat.reduceAdd, Nat.reduceSub, Nat.reduceMul, Nat.reduceLeDiff, Nat.reduceLT, Nat.one_ne_zero, Nat.zero_ne_one, reduceIte, reduceCtorEq, bne_self_eq_false, decide_true, decide_false, Int.reduceToNat, Int.cast_ofNat_Int, Int.reduceLT, Int.reduceLE, Int.reduceEq, Int.reduceNeg, Int.reduceAdd, Int.reduceSub, f2, f8, f15, f17, f9, f10, f14, f18, f16, c1, Int.zero_mul, w1, w2, w3, c2, h]))
    refine hQ 0 _ (by omega) (by omega) (by omega) (by omega) ?_
    simp only [FrAt_cons, FrAt_nil, wFr, Nat.reduceEqDiff, Nat.one_ne_zero, Nat.zero_ne_one, reduceIte, and_self, and_true, true_and, f2, f8, f15, f17, f9, f10, f14, f18]
  | succ n ih =>
    intro q r fr hn q0 q1 r0 r1 he hlt hf hQ
    simp only [FrAt_cons, FrAt_nil] at hf
    obtain ⟨f2, f8, f15, f17, f9, f10, f14, f18, f16, -⟩ := hf
    have w1 : IntKind.u64.wrap (4294967296 * r) = 4294967296 * r := IntWalk.u64_in _ (by omega)
    have w2 : IntKind.u64.wrap (4294967296 * r + un) = 4294967296 * r + un := IntWalk.u64_in _ (by omega)
    have w3 : IntKind.u64.wrap (q - 1) = q - 1 := IntWalk.u64_in _ (by omega)
    have w4 : IntKind.u64.wrap (r + yn1) = r + yn1 := IntWalk.u64_in _ (by omega)
    have ey : (q - 1) * y + y = q * y := by rw [Int.sub_mul, Int.one_mul]; omega
    have en : (q - 1) * yn1 = q * yn1 - yn1 := by rw [Int.sub_mul, Int.one_mul]
    have hdec : u * 4294967296 + un < q * y → (¬ (4294967296 ≤ q) → 0 ≤ q * yn0 ∧ q * yn0 ≤ 18446744073709551615) → (4294967296 ≤ r + yn1 → (q - 1) ≤ 4294967295 ∧ (q - 1) * y ≤ u * 4294967296 + un) := by
      intro hd _ hr
      have hq1 : q - 1 ≤ 4294967295 := by
        rcases Int.lt_or_le (q - 1) 4294967296 with h | h
        · omega
        · exfalso
          have h9 : 4294967296 * yn1 ≤ (q - 1) * yn1 := Int.mul_le_mul_of_nonneg_right h (by omega)
          omega
      refine ⟨hq1, ?_⟩
      have h9 : (q - 1) * yn0 ≤ 4294967295 * 4294967295 := Int.mul_le_mul hq1 h4 h3 (by decide)
      have := digit_stop (u := u) (un := un) (yn1 := yn1) (yn0 := yn0) (q := q - 1) (r := r + yn1) (by omega) (by omega)
      rw [← hy] at this
      exact this
    have hmul : ¬ (4294967296 ≤ q) → 0 ≤ q * yn0 ∧ q * yn0 ≤ 18446744073709551615 := by
      intro hb
      have := Int.mul_nonneg q0 h3
      have h9 : q * yn0 ≤ 4294967295 * 4294967295 := Int.mul_le_mul (by omega) h4 h3 (by decide)
      omega
    refine Xl.step ?_
    simp only [lb63_0]
    by_cases hb : 4294967296 ≤ q
    · have hd : u * 4294967296 + un < q * y := digit_big (by omega) h8 (by omega) hb
      simp only [wCo, wFr, wOp, wBi, wLst, wLog, xB_other, Nat.reduceBEq, unT, loadP, storeP, partP, partT, partV, cellsP, mkAgg, allT, setRange, fillP, fieldA, indexS, indexA, indexV, indexStr, elems, lenP, pickV, cviV, nckV, extV, isNil, bound, close, close1, aft, retV, retSl, Go.Pi.one, eqT, eqs, eq1, Nat.reduceEqDiff, Nat.reduceAdd, Nat.reduceSub, Nat.reduceMul, Nat.reduceLeDiff, Nat.reduceLT, Nat.one_ne_zero, Nat.zero_ne_one, reduceIte, reduceCtorEq, bne_self_eq_false, decide_true, decide_false, Int.reduceToNat, Int.cast_ofNat_Int, Int.reduceLT, Int.reduceLE, Int.reduceEq, Int.reduceNeg, Int.reduceAdd, Int.reduceSub, f2, f8, f15, f17, f9, f10, f14, f18, f16, hb, w3, w4]
      repeat' ((with_reducible first | refine xG_dec ?_ ?_ | refine xG_ndec ?_ ?_ | refine xG_nsplit ?_ ?_ | refine xG_split ?_ ?_ | refine xC_dec ?_ ?_ | refine xC_ndec ?_ ?_ | refine xC_nsplit ?_ ?_ | refine xC_split ?_ ?_) <;> intro h <;> (try simp only [wCo, wFr, wOp, wBi, wLst, wLog, xB_other, Nat.reduceBEq, unT, loadP, storeP, partP, partT, partV, cellsP, mkAgg, allT, setRange, fillP, fieldA, indexS, indexA, indexV, indexStr, elems, lenP, pickV, cviV, nckV, extV, isNil, bound, close, close1, aft, retV, retSl, Go.Pi.one, eqT, eqs, eq1, Nat.reduceEqDiff, Nat.reduceAdd, Nat.reduceSub, Nat.reduceMul, Nat.reduceLeDiff, Nat.reduceLT, Nat.one_ne_zero, Nat.zero_ne_one, reduceIte, reduceCtorEq, bne_self_eq_false, decide_true, decide_false, Int.reduceToNat, Int.cast_ofNat_Int, Int.reduceLT, Int.reduceLE, Int.reduceEq, Int.reduceNeg, Int.reduceAdd, Int.reduceSub, f2, f8, f15, f17, f9, f10, f14, f18, f16, hb, w3, w4, h]))
      · obtain ⟨k1, k2⟩ := hdec hd hmul h
        refine hQ (q - 1) _ (by omega) k1 k2 (by omega) ?_
        simp only [FrAt_cons, FrAt_nil, wFr, Nat.reduceEqDiff, Nat.one_ne_zero, Nat.zero_ne_one, reduceIte, and_self, and_true, true_and, f2, f8, f15, f17, f9, f10, f14]
      · exact ih (q - 1) (r + yn1) _ (by omega) (by omega) (by omega) (by omega) (by omega) (by omega) (by omega) (by simp only [FrAt_cons, FrAt_nil, wFr, Nat.reduceEqDiff, Nat.one_ne_zero, Nat.zero_ne_one, reduceIte, and_self, and_true, true_and, f2, f8, f15, f17, f9, f10, f14]) hQ
    · obtain ⟨m1, m2⟩ := hmul hb
      have w5 : IntKind.u64.wrap (q * yn0) = q * yn0 := IntWalk.u64_in _ ⟨m1, m2⟩
      by_cases hc : 4294967296 * r + un < q * yn0
      · have hd : u * 4294967296 + un < q * y := by rw [hy]; exact digit_more he hc
        simp only [wCo, wFr, wOp, wBi, wLst, wLog, xB_other, Nat.reduceBEq, unT, loadP, storeP, partP, partT, partV, cellsP, mkAgg, allT, setRange, fillP, fieldA, indexS, indexA, indexV, indexStr, elems, lenP, pickV, cviV, nckV, extV, isNil, bound, close, close1, aft, retV, retSl, Go.Pi.one, eqT, eqs, eq1, Nat.reduceEqDiff, Nat.reduceAdd, Nat.reduceSub, Nat.reduceMul, Nat.reduceLeDiff, Nat.reduceLT, Nat.one_ne_zero, Nat.zero_ne_one, reduceIte, reduceCtorEq, bne_self_eq_false, decide_true, decide_false, Int.reduceToNat, Int.cast_ofNat_Int, Int.reduceLT, Int.reduceLE, Int.reduceEq, Int.reduceNeg, Int.reduceAdd, Int.reduceSub, f2, f8, f15, f17, f9, f10, f14, f18, f16, hb, w1, w2, w3, w4, w5, hc]
        repeat' ((with_reducible first | refine xG_dec ?_ ?_ | refine xG_ndec ?_ ?_ | refine xG_nsplit ?_ ?_ | refine xG_split ?_ ?_ | refine xC_dec ?_ ?_ | refine xC_ndec ?_ ?_ | refine xC_nsplit ?_ ?_ | refine xC_split ?_ ?_) <;> intro h <;> (try simp only [wCo, wFr, wOp, wBi, wLst, wLog, xB_other, Nat.reduceBEq, unT, loadP, storeP, partP, partT, partV, cellsP, mkAgg, allT, setRange, fillP, fieldA, indexS, indexA, indexV, indexStr, elems, lenP, pickV, cviV, nckV, extV, isNil, bound, close, close1, aft, retV, retSl, Go.Pi.one, eqT, eqs, eq1, Nat.reduceEqDiff, Nat.reduceAdd, Nat.reduceSub, Nat.reduceMul, Nat.reduceLeDiff, Nat.reduceLT, Nat.one_ne_zero, Nat.zero_ne_one, reduceIte, reduceCtorEq, bne_self_eq_false, decide_true, decide_false, Int.reduceToNat, Int.cast_ofNat_Int, Int.reduceLT, Int.reduceLE, Int.reduceEq, Int.reduceNeg, Int.reduceAdd, Int.reduceSub, f2, f8, f15, f17, f9, f10, f14, f18, f16, hb, w1, w2, w3, w4, w5, hc, h]))
        · obtain ⟨k1, k2⟩ := hdec hd hmul h
          refine hQ (q - 1) _ (by omega) k1 k2 (by omega) ?_
          simp only [FrAt_cons, FrAt_nil, wFr, Nat.reduceEqDiff, Nat.one_ne_zero, Nat.zero_ne_one, reduceIte, and_self, and_true, true_and, f2, f8, f15, f17, f9, f10, f14]
        · exact ih (q - 1) (r + yn1) _ (by omega) (by omega) (by omega) (by omega) (by omega) (by omega) (by omega) (by simp only [FrAt_cons, FrAt_nil, wFr, Nat.reduceEqDiff, Nat.one_ne_zero, Nat.zero_ne_one, reduceIte, and_self, and_true, true_and, f2, f8, f15, f17, f9, f10, f14]) hQ
      · simp only [wCo, wFr, wOp, wBi, wLst, wLog, xB_other, Nat.reduceBEq, unT, loadP, storeP, partP, partT, partV, cellsP, mkAgg, allT, setRange, fillP, fieldA, indexS, indexA, indexV, indexStr, elems, lenP, pickV, cviV, nckV, extV, isNil, bound, close, close1, aft, retV, retSl, Go.Pi.one, eqT, eqs, eq1, Nat.reduceEqDiff, Nat.reduceAdd, Nat.reduceSub, Nat.reduceMul, Nat.reduceLeDiff, Nat.reduceLT, Nat.one_ne_zero, Nat.zero_ne_one, reduceIte, reduceCtorEq, bne_self_eq_false, decide_true, decide_false, Int.reduceToNat, Int.cast_ofNat_Int, Int.reduceLT, Int.reduceLE, Int.reduceEq, Int.reduceNeg, Int.reduceAdd, Int.reduceSub, f2, f8, f15, f17, f9, f10, f14, f18, f16, hb, w1, w2, w5, hc]
        repeat' ((with_reducible first | refine xG_dec ?_ ?_ | refine xG_ndec ?_ ?_ | refine xG_nsplit ?_ ?_ | refine xG_split ?_ ?_ | refine xC_dec ?_ ?_ | refine xC_ndec ?_ ?_ | refine xC_nsplit ?_ ?_ | refine xC_split ?_ ?_) <;> intro h <;> (try simp only [wCo, wFr, wOp, wBi, wLst, wLog, xB_other, Nat.reduceBEq, unT, loadP, storeP, partP, partT, partV, cellsP, mkAgg, allT, setRange, fillP, fieldA, indexS, indexA, indexV, indexStr, elems, lenP, pickV, cviV, nckV, extV, isNil, bound, close, close1, aft, retV, retSl, Go.Pi.one, eqT, eqs, eq1, Nat.reduceEqDiff, Nat.reduceAdd, Nat.reduceSub, Nat.reduceMul, Nat.reduceLeDiff, Nat.reduceLT, Nat.one_ne_zero, Nat.zero_ne_one, reduceIte, reduceCtorEq, bne_self_eq_false, decide_true, decide_false, Int.reduceToNat, Int.cast_ofNat_Int, Int.reduceLT, Int.reduceLE, Int.reduceEq, Int.reduceNeg, Int.reduceAdd, Int.reduceSub, f2, f8, f15, f17, f9, f10, f14, f18, f16, hb, w1, w2, w5, hc, h]))
        have := digit_stop (un := un) (yn0 := yn0) he (by omega)
        rw [← hy] at this
        refine hQ q _ q0 (by omega) this hlt ?_
        simp only [FrAt_cons, FrAt_nil, wFr, Nat.reduceEqDiff, Nat.one_ne_zero, Nat.zero_ne_one, reduceIte, and_self, and_true, true_and, f2, f8, f15, f17, f9, f10, f14, f18]


theorem ok63 {hi lo y : Int} (h0 : 0 ≤ hi) (h1 : hi < y) (l0 : 0 ≤ lo) (l1 : lo ≤ 18446744073709551615) (y1 : y ≤ 18446744073709551615) {K : PV → Prop} :
    XcP F gl 63 [.int .u64 hi, .int .u64 lo, .int .u64 y] K ⟨⟩ ↔ K (.tup [.t (.int .u64 ((hi * 18446744073709551616 + lo) / y)), .t (.int .u64 ((hi * 18446744073709551616 + lo) % y))]) := by
  refine Ret.iff (Ret.of F63 rfl ?_)
  have c1 : ¬ (y = 0) := by omega
  have c2 : ¬ (y ≤ hi) := by omega
  simp only [ir63]
  by_cases hz : hi = 0
  · subst hz
    have t1 : lo.tdiv y = lo / y := Int.tdiv_eq_ediv_of_nonneg l0
    have t2 : lo.tmod y = lo % y := Int.tmod_eq_emod_of_nonneg l0
    have hd : lo / y ≤ lo := Int.ediv_le_self y l0
    have hd0 : 0 ≤ lo / y := Int.ediv_nonneg l0 (by omega)
    have t3 : IntKind.u64.wrap (lo / y) = lo / y := IntWalk.u64_in _ (by omega)
    simp only [wCo, wFr, wOp, wBi, wLst, wLog, xB_other, Nat.reduceBEq, unT, loadP, storeP, partP, partT, partV, cellsP, mkAgg, allT, setRange, fillP, fieldA, indexS, indexA, indexV, indexStr, elems, lenP, pickV, cviV, nckV, extV, isNil, bound, close, close1, aft, retV, retSl, Go.Pi.one, eqT, eqs, eq1, Nat.reduceEqDiff, Nat.reduceAdd, Nat.reduceSub, Nat.reduceMul, Nat.reduceLeDiff, Nat.reduceLT, Nat.one_ne_zero, Nat.zero_ne_one, reduceIte, reduceCtorEq, bne_self_eq_false, decide_true, decide_false, Int.reduceToNat, Int.cast_ofNat_Int, Int.reduceLT, Int.reduceLE, Int.reduceEq, Int.reduceNeg, Int.reduceAdd, Int.reduceSub, c1, c2, t1, t2, t3, Int.zero_mul, Int.zero_add]
    repeat' ((with_reducible first | refine xG_dec ?_ ?_ | refine xG_ndec ?_ ?_ | refine xG_nsplit ?_ ?_ | refine xG_split ?_ ?_ | refine xC_dec ?_ ?_ | refine xC_ndec ?_ ?_ | refine xC_nsplit ?_ ?_ | refine xC_split ?_ ?_) <;> intro h <;> (try simp only [wCo, wFr, wOp, wBi, wLst, wLog, xB_other, Nat.reduceBEq, unT, loadP, storeP, partP, partT, partV, cellsP, mkAgg, allT, setRange, fillP, fieldA, indexS, indexA, indexV, indexStr, elems, lenP, pickV, cviV, nckV, extV, isNil, bound, close, close1, aft, retV, retSl, Go.Pi.one, eqT, eqs, eq1, Nat.reduceEqDiff, Nat.reduceAdd, Nat.reduceSub, Nat.reduceMul, Nat.reduceLeDiff, Nat.reduceLT, Nat.one_ne_zero, Nat.zero_ne_one, reduceIte, reduceCtorEq, bne_self_eq_false, decide_true, decide_false, Int.reduceToNat, Int.cast_ofNat_Int, Int.reduceLT, Int.reduceLE, Int.reduceEq, Int.reduceNeg, Int.reduceAdd, Int.reduceSub, c1, c2, t1, t2, t3, Int.zero_mul, Int.zero_add, h]))
  · have hypos : 0 < y := by omega
    obtain ⟨s1, s2, s3⟩ := lenI_spec hypos
    have hl := lenI_le (x := y) (by omega) (k := 64) (by omega)
    obtain ⟨S, hS⟩ : ∃ S : Nat, 64 - lenI y = (S : Int) := ⟨(64 - lenI y).toNat, by omega⟩
    have a78 := @ok78 gl y (by omega) y1
    rw [hS] at a78
    have hle : S ≤ 64 := by omega
    have hle2 : 64 - S ≤ 64 := by omega
    have wS : IntKind.u64.wrap (S : Int) = (S : Int) := IntWalk.u64_in _ (by omega)
    have wS2 : IntKind.u64.wrap (64 - (S : Int)) = ((64 - S : Nat) : Int) := by rw [IntWalk.u64_in _ (by omega)]; omega
    have yb : 9223372036854775808 ≤ y * 2 ^ S ∧ y * 2 ^ S ≤ 18446744073709551615 := by
      have hp : (0 : Int) < 2 ^ S := Int.pow_pos (by decide)
      have e1 : (2 : Int) ^ (lenI y - 1).toNat * 2 ^ S = 9223372036854775808 := by
        rw [← Int.pow_add]
        have : (lenI y - 1).toNat + S = 63 := by omega
        rw [this]; decide
      have e2 : (2 : Int) ^ (lenI y).toNat * 2 ^ S = 18446744073709551616 := by
        rw [← Int.pow_add]
        have : (lenI y).toNat + S = 64 := by omega
        rw [this]; decide
      have b1 := Int.mul_le_mul_of_nonneg_right s1 (Int.le_of_lt hp)
      have b2 := Int.mul_lt_mul_of_pos_right s2 hp
      omega
    obtain ⟨yb0, yb1⟩ := yb
    obtain ⟨k1, k2, k3, k4, k5, k6⟩ := div64_setup h0 h1 l0 l1 hle yb0 yb1
    have wY : IntKind.u64.wrap (y * 2 ^ S) = y * 2 ^ S := IntWalk.u64_in _ (by omega)
    have wH : IntKind.u64.wrap (hi * 2 ^ S) = hi * 2 ^ S := IntWalk.u64_in _ (by omega)
    have wL : IntKind.u64.wrap (lo * 2 ^ S) = lo * 2 ^ S % 18446744073709551616 := u64_wrap _
    have wZ : lo.fdiv (2 ^ (64 - S)) = lo / 2 ^ (64 - S) := Int.fdiv_eq_ediv_of_nonneg _ (Int.le_of_lt (Int.pow_pos (by decide)))
    have wO := or_add (a := hi) (b := lo / 2 ^ (64 - S)) (s := S) h0 k3 k4 (by omega)
    have hend := @div64_end hi lo y (hi * 2 ^ S + lo / 2 ^ (64 - S)) (lo * 2 ^ S % 18446744073709551616)
    generalize hYe : y * 2 ^ S = Y at *
    generalize hLe : lo * 2 ^ S % 18446744073709551616 = L at *
    generalize hUe : hi * 2 ^ S + lo / 2 ^ (64 - S) = U at *
    have hL1 : L ≤ 18446744073709551615 := by omega
    have m1 := and_mask32 (x := Y) (by omega) (by omega)
    have m2 := and_mask32 (x := L) (by omega) (by omega)
    have hU0 : 0 ≤ U := by omega
    obtain ⟨d1, d2, d3, d4, d5, d6⟩ := digit_start (u := U) (un := L / 4294967296) (yn1 := Y / 4294967296) (yn0 := Y % 4294967296) (by omega) (by omega) (by omega) hU0 (by omega)
    have hYs : Y = Y / 4294967296 * 4294967296 + Y % 4294967296 := by omega
    rw [← hYs] at d6
    have n1 : ¬ (Y / 4294967296 = 0) := by omega
    have t1 : U.tdiv (Y / 4294967296) = U / (Y / 4294967296) := Int.tdiv_eq_ediv_of_nonneg hU0
    have t2 : IntKind.u64.wrap (U / (Y / 4294967296)) = U / (Y / 4294967296) := IntWalk.u64_in _ (by omega)
    have t3 : IntKind.u64.wrap (U - IntKind.u64.wrap (U / (Y / 4294967296) * (Y / 4294967296))) = U % (Y / 4294967296) := by
      have hm0 : 0 ≤ U / (Y / 4294967296) * (Y / 4294967296) := Int.mul_nonneg d1 (by omega)
      rw [IntWalk.u64_in (U / (Y / 4294967296) * (Y / 4294967296)) (by omega), IntWalk.u64_in _ (by omega)]; omega
    simp only [wCo, wFr, wOp, wBi, wLst, wLog, xB_other, Nat.reduceBEq, unT, loadP, storeP, partP, partT, partV, cellsP, mkAgg, allT, setRange, fillP, fieldA, indexS, indexA, indexV, indexStr, elems, lenP, pickV, cviV, nckV, extV, isNil, bound, close, close1, aft, retV, retSl, Go.Pi.one, eqT, eqs, eq1, Nat.reduceEqDiff, Nat.reduceAdd, Nat.reduceSub, Nat.reduceMul, Nat.reduceLeDiff, Nat.reduceLT, Nat.one_ne_zero, Nat.zero_ne_one, reduceIte, reduceCtorEq, bne_self_eq_false, decide_true, decide_false, Int.reduceToNat, Int.cast_ofNat_Int, Int.reduceLT, Int.reduceLE, Int.reduceEq, Int.reduceNeg, Int.reduceAdd, Int.reduceSub, c1, c2, hz, a78, wS, wS2, hle, hle2, hYe, wY, wH, wL, wZ, wO, hUe, m1, m2, n1, t1, t2, t3, IntKind.bits, Nat.min_def, Int.reducePow, Int.fdiv_eq_ediv_of_nonneg, Int.reduceLE]
    repeat' ((with_reducible first | refine xG_dec ?_ ?_ | refine xG_ndec ?_ ?_ | refine xG_nsplit ?_ ?_ | refine xG_split ?_ ?_ | refine xC_dec ?_ ?_ | refine xC_ndec ?_ ?_ | refine xC_nsplit ?_ ?_ | refine xC_split ?_ ?_) <;> intro h <;> (try simp only [wCo, wFr, wOp, wBi, wLst, wLog, xB_other, Nat.reduceBEq, unT, loadP, storeP, partP, partT, partV, cellsP, mkAgg, allT, setRange, fillP, fieldA, indexS, indexA, indexV, indexStr, elems, lenP, pickV, cviV, nckV, extV, isNil, bound, close, close1, aft, retV, retSl, Go.Pi.one, eqT, eqs, eq1, Nat.reduceEqDiff, Nat.reduceAdd, Nat.reduceSub, Nat.reduceMul, Nat.reduceLeDiff, Nat.reduceLT, Nat.one_ne_zero, Nat.zero_ne_one, reduceIte, reduceCtorEq, bne_self_eq_false, decide_true, decide_false, Int.reduceToNat, Int.cast_ofNat_Int, Int.reduceLT, Int.reduceLE, Int.reduceEq, Int.reduceNeg, Int.reduceAdd, Int.reduceSub, c1, c2, hz, a78, wS, wS2, hle, hle2, hYe, wY, wH, wL, wZ, wO, hUe, m1, m2, n1, t1, t2, t3, IntKind.bits, Nat.min_def, Int.reducePow, Int.fdiv_eq_ediv_of_nonneg, Int.reduceLE, h]))
    refine loop63a U (L / 4294967296) (Y / 4294967296) (Y % 4294967296) Y hYs (by omega) (by omega) (by omega) (by omega) (by omega) (by omega) hU0 (by omega) _ _ _ (.t (.int .u64 Y)) (.t (.int .u64 S)) (.t (.int .u64 U)) (.t (.int .u64 (L % 4294967296)))
      _ (U / (Y / 4294967296)) (U % (Y / 4294967296)) _ rfl d1 d2 d3 (by omega) d5 d6 ?_ ?_
    · simp only [FrAt_cons, FrAt_nil, wFr, Nat.reduceEqDiff, Nat.one_ne_zero, Nat.zero_ne_one, reduceIte, and_self, and_true, true_and]
    intro q1 fr qa qb qc qd hf
    simp only [FrAt_cons, FrAt_nil] at hf
    obtain ⟨f2, f8, f11, f14, f9, f10, f13, f15, -⟩ := hf
    have u2 : IntKind.u64.wrap (IntKind.u64.wrap (IntKind.u64.wrap (U * 4294967296) + L / 4294967296) - IntKind.u64.wrap (q1 * Y)) = U * 4294967296 + L / 4294967296 - q1 * Y := by
      simp only [u64_wrap]; omega
    obtain ⟨e1, e2, e3, e4, e5, e6⟩ := digit_start (u := U * 4294967296 + L / 4294967296 - q1 * Y) (un := L % 4294967296) (yn1 := Y / 4294967296) (yn0 := Y % 4294967296) (by omega) (by omega) (by omega) (by omega) (by omega)
    rw [← hYs] at e6
    have hV0 : 0 ≤ U * 4294967296 + L / 4294967296 - q1 * Y := by omega
    have hV1 : U * 4294967296 + L / 4294967296 - q1 * Y < Y := by omega
    have hh1 : U * 4294967296 + L / 4294967296 = q1 * Y + (U * 4294967296 + L / 4294967296 - q1 * Y) := by omega
    generalize U * 4294967296 + L / 4294967296 - q1 * Y = V at *
    have t4 : V.tdiv (Y / 4294967296) = V / (Y / 4294967296) := Int.tdiv_eq_ediv_of_nonneg hV0
    have t5 : IntKind.u64.wrap (V / (Y / 4294967296)) = V / (Y / 4294967296) := IntWalk.u64_in _ (by omega)
    have t6 : IntKind.u64.wrap (V - IntKind.u64.wrap (V / (Y / 4294967296) * (Y / 4294967296))) = V % (Y / 4294967296) := by
      have hm0 : 0 ≤ V / (Y / 4294967296) * (Y / 4294967296) := Int.mul_nonneg e1 (by omega)
      rw [IntWalk.u64_in (V / (Y / 4294967296) * (Y / 4294967296)) (by omega), IntWalk.u64_in _ (by omega)]; omega
    simp only [wCo, wFr, wOp, wBi, wLst, wLog, xB_other, Nat.reduceBEq, unT, loadP, storeP, partP, partT, partV, cellsP, mkAgg, allT, setRange, fillP, fieldA, indexS, indexA, indexV, indexStr, elems, lenP, pickV, cviV, nckV, extV, isNil, bound, close, close1, aft, retV, retSl, Go.Pi.one, eqT, eqs, eq1, Nat.reduceEqDiff, Nat.reduceAdd, Nat.reduceSub, Nat.reduceMul, Nat.reduceLeDiff, Nat.reduceLT, Nat.one_ne_zero, Nat.zero_ne_one, reduceIte, reduceCtorEq, bne_self_eq_false, decide_true, decide_false, Int.reduceToNat, Int.cast_ofNat_Int, Int.reduceLT, Int.reduceLE, Int.reduceEq, Int.reduceNeg, Int.reduceAdd, Int.reduceSub, f2, f8, f9, f10, f11, f13, f14, f15, u2, n1, t4, t5, t6]
    repeat' ((with_reducible first | refine xG_dec ?_ ?_ | refine xG_ndec ?_ ?_ | refine xG_nsplit ?_ ?_ | refine xG_split ?_ ?_ | refine xC_dec ?_ ?_ | refine xC_ndec ?_ ?_ | refine xC_nsplit ?_ ?_ | refine xC_split ?_ ?_) <;> intro h <;> (try simp only [wCo, wFr, wOp, wBi, wLst, wLog, xB_other, Nat.reduceBEq, unT, loadP, storeP, partP, partT, partV, cellsP, mkAgg, allT, setRange, fillP, fieldA, indexS, indexA, indexV, indexStr, elems, lenP, pickV, cviV, nckV, extV, isNil, bound, close, close1, aft, retV, retSl, Go.Pi.one, eqT, eqs, eq1, Nat.reduceEqDiff, Nat.reduceAdd, Nat.reduceSub, Nat.reduceMul, Nat.reduceLeDiff, Nat.reduceLT, Nat.one_ne_zero, Nat.zero_ne_one, reduceIte, reduceCtorEq, bne_self_eq_false, decide_true, decide_false, Int.reduceToNat, Int.cast_ofNat_Int, Int.reduceLT, Int.reduceLE, Int.reduceEq, Int.reduceNeg, Int.reduceAdd, Int.reduceSub, f2, f8, f9, f10, f11, f13, f14, f15, u2, n1, t4, t5, t6, h]))
    refine loop63b V (L % 4294967296) (Y / 4294967296) (Y % 4294967296) Y hYs (by omega) (by omega) (by omega) (by omega) (by omega) (by omega) hV0 hV1 _ _ _ (.t (.int .u64 Y)) (.t (.int .u64 S)) (.t (.int .u64 q1)) (.t (.int .u64 V))
      _ (V / (Y / 4294967296)) (V % (Y / 4294967296)) _ rfl e1 e2 e3 (by omega) e5 e6 ?_ ?_
    · simp only [FrAt_cons, FrAt_nil, wFr, Nat.reduceEqDiff, Nat.one_ne_zero, Nat.zero_ne_one, reduceIte, and_self, and_true, true_and, f2, f8, f9, f10, f14, f15]
    intro q0 fr ra rb rc rd hf
    simp only [FrAt_cons, FrAt_nil] at hf
    obtain ⟨g2, g8, g15, g17, g9, g10, g14, g18, -⟩ := hf
    obtain ⟨z1, z2⟩ := @hend q1 V q0 (V * 4294967296 + L % 4294967296 - q0 * Y) S hypos k6 (by rw [hYe]; exact hh1) (by rw [hYe]; omega) (by omega) (by rw [hYe]; omega)
    have v1 : IntKind.u64.wrap (IntKind.u64.wrap (IntKind.u64.wrap (V * 4294967296) + L % 4294967296) - IntKind.u64.wrap (q0 * Y)) = V * 4294967296 + L % 4294967296 - q0 * Y := by
      simp only [u64_wrap]; omega
    have v2 : (V * 4294967296 + L % 4294967296 - q0 * Y).fdiv (2 ^ S) = (V * 4294967296 + L % 4294967296 - q0 * Y) / 2 ^ S := Int.fdiv_eq_ediv_of_nonneg _ (Int.le_of_lt (Int.pow_pos (by decide)))
    have v3 : IntKind.u64.wrap (IntKind.u64.wrap (q1 * 4294967296) + q0) = q1 * 4294967296 + q0 := by
      simp only [u64_wrap]; omega
    simp only [wCo, wFr, wOp, wBi, wLst, wLog, xB_other, Nat.reduceBEq, unT, loadP, storeP, partP, partT, partV, cellsP, mkAgg, allT, setRange, fillP, fieldA, indexS, indexA, indexV, indexStr, elems, lenP, pickV, cviV, nckV, extV, isNil, bound, close, close1, aft, retV, retSl, Go.Pi.one, eqT, eqs, eq1, Nat.reduceEqDiff, Nat.reduceAdd, Nat.reduceSub, Nat.reduceMul, Nat.reduceLeDiff, Nat.reduceLT, Nat.one_ne_zero, Nat.zero_ne_one, reduceIte, reduceCtorEq, bne_self_eq_false, decide_true, decide_false, Int.reduceToNat, Int.cast_ofNat_Int, Int.reduceLT, Int.reduceLE, Int.reduceEq, Int.reduceNeg, Int.reduceAdd, Int.reduceSub, g2, g8, g9, g10, g14, g15, g17, g18, v1, v2, v3, hle, IntKind.bits, Nat.min_def, z1, z2]
    repeat' ((with_reducible first | refine xG_dec ?_ ?_ | refine xG_ndec ?_ ?_ | refine xG_nsplit ?_ ?_ | refine xG_split ?_ ?_ | refine xC_dec ?_ ?_ | refine xC_ndec ?_ ?_ | refine xC_nsplit ?_ ?_ | refine xC_split ?_ ?_) <;> intro h <;> (try simp only [wCo, wFr, wOp, wBi, wLst, wLog, xB_other, Nat.reduceBEq, unT, loadP, storeP, partP, partT, partV, cellsP, mkAgg, allT, setRange, fillP, fieldA, indexS, indexA, indexV, indexStr, elems, lenP, pickV, cviV, nckV, extV, isNil, bound, close, close1, aft, retV, retSl, Go.Pi.one, eqT, eqs, eq1, Nat.reduceEqDiff, Nat.reduceAdd, Nat.reduceSub, Nat.reduceMul, Nat.reduceLeDiff, Nat.reduceLT, Nat.one_ne_zero, Nat.zero_ne_one, reduceIte, reduceCtorEq, bne_self_eq_false, decide_true, decide_false, Int.reduceToNat, Int.cast_ofNat_Int, Int.reduceLT, Int.reduceLE, Int.reduceEq, Int.reduceNeg, Int.reduceAdd, Int.reduceSub, g2, g8, g9, g10, g14, g15, g17, g18, v1, v2, v3, hle, IntKind.bits, Nat.min_def, z1, z2, h]))

/-! ### The field -/
theorem known_bd {p : Int} (h : known p = true) : 17 ≤ p ∧ p ≤ 18446744069414584321 := by
  unfold known at h
  have := of_decide_eq_true h
  omega
def fadd (p a b : Int) : Int := if known p = true then (a + b) % p else 0
def fmul (p a b : Int) : Int := if known p = true then a * b % p else 0
theorem ok60 {p n : Int} (hp : 0 < p) (hn : 0 ≤ n) {K : PV → Prop} : XcP F gl 60 [.agg [.int .u64 p], .int .u64 n] K ⟨⟩ ↔ K (.t (.int .u64 (n % p))) := by
  refine Ret.iff (Ret.of F60 rfl ?_)
  have c : ¬ (p = 0) := by omega
  have t : n.tmod p = n % p := Int.tmod_eq_emod_of_nonneg hn
  simp only [ir60]
  simp only [wCo, wFr, wOp, wBi, wLst, wLog, xB_other, Nat.reduceBEq, unT, loadP, storeP, partP, partT, partV, cellsP, mkAgg, allT, setRange, fillP, fieldA, indexS, indexA, indexV, indexStr, elems, lenP, pickV, cviV, nckV, extV, isNil, bound, close, close1, aft, retV, retSl, Go.Pi.one, eqT, eqs, eq1, Nat.reduceEqDiff, Nat.reduceAdd, Nat.reduceSub, Nat.reduceMul, Nat.reduceLeDiff, Nat.reduceLT, Nat.one_ne_zero, Nat.zero_ne_one, reduceIte, reduceCtorEq, bne_self_eq_false, decide_true, decide_false, Int.reduceToNat, Int.cast_ofNat_Int, Int.reduceLT, Int.reduceLE, Int.reduceEq, Int.reduceNeg, Int.reduceAdd, Int.reduceSub, c, t]
  repeat' ((with_reducible first | refine xG_dec ?_ ?_ | refine xG_ndec ?_ ?_ | refine xG_nsplit ?_ ?_ | refine xG_split ?_ ?_ | refine xC_dec ?_ ?_ | refine xC_ndec ?_ ?_ | refine xC_nsplit ?_ ?_ | refine xC_split ?_ ?_) <;> intro h <;> (try simp only [wCo, wFr, wOp, wBi, wLst, wLog, xB_other, Nat.reduceBEq, unT, loadP, storeP, partP, partT, partV, cellsP, mkAgg, allT, setRange, fillP, fieldA, indexS, indexA, indexV, indexStr, elems, lenP, pickV, cviV, nckV, extV, isNil, bound, close, close1, aft, retV, retSl, Go.Pi.one, eqT, eqs, eq1, Nat.reduceEqDiff, Nat.reduceAdd, Nat.reduceSub, Nat.reduceMul, Nat.reduceLeDiff, Nat.reduceLT, Nat.one_ne_zero, Nat.zero_ne_one, reduceIte, reduceCtorEq, bne_self_eq_false, decide_true, decide_false, Int.reduceToNat, Int.cast_ofNat_Int, Int.reduceLT, Int.reduceLE, Int.reduceEq, Int.reduceNeg, Int.reduceAdd, Int.reduceSub, c, t, h]))
  rw [Int.emod_eq_of_lt hn (by omega)]
theorem ok59 {p a b : Int} (hp : p ≤ 18446744073709551615) (ha : 0 ≤ a) (ha1 : a < p) (hb : 0 ≤ b) (hb1 : b < p) {K : PV → Prop} : XcP F gl 59 [.agg [.int .u64 p], .int .u64 a, .int .u64 b] K ⟨⟩ ↔ K (.t (.int .u64 ((a + b) % p))) := by
  refine Ret.iff (Ret.of F59 rfl ?_)
  have h01 : (0 : Int) ≤ 1 := by decide
  simp only [ir59]
  have hm : (a + b) % p = if a + b < p then a + b else a + b - p := by
    split
    · exact Int.emod_eq_of_lt (by omega) (by assumption)
    · rw [← Int.sub_emod_right, Int.emod_eq_of_lt (by omega) (by omega)]
  simp only [wCo, wFr, wOp, wBi, wLst, wLog, xB_other, Nat.reduceBEq, unT, loadP, storeP, partP, partT, partV, cellsP, mkAgg, allT, setRange, fillP, fieldA, indexS, indexA, indexV, indexStr, elems, lenP, pickV, cviV, nckV, extV, isNil, bound, close, close1, aft, retV, retSl, Go.Pi.one, eqT, eqs, eq1, Nat.reduceEqDiff, Nat.reduceAdd, Nat.reduceSub, Nat.reduceMul, Nat.reduceLeDiff, Nat.reduceLT, Nat.one_ne_zero, Nat.zero_ne_one, reduceIte, reduceCtorEq, bne_self_eq_false, decide_true, decide_false, Int.reduceToNat, Int.cast_ofNat_Int, Int.reduceLT, Int.reduceLE, Int.reduceEq, Int.reduceNeg, Int.reduceAdd, Int.reduceSub, xfun, ha, hb, h01, Int.add_zero, u64_wrap]
  repeat' ((with_reducible first | refine xG_dec ?_ ?_ | refine xG_ndec ?_ ?_ | refine xG_nsplit ?_ ?_ | refine xG_split ?_ ?_ | refine xC_dec ?_ ?_ | refine xC_ndec ?_ ?_ | refine xC_nsplit ?_ ?_ | refine xC_split ?_ ?_) <;> intro h <;> (try simp only [wCo, wFr, wOp, wBi, wLst, wLog, xB_other, Nat.reduceBEq, unT, loadP, storeP, partP, partT, partV, cellsP, mkAgg, allT, setRange, fillP, fieldA, indexS, indexA, indexV, indexStr, elems, lenP, pickV, cviV, nckV, extV, isNil, bound, close, close1, aft, retV, retSl, Go.Pi.one, eqT, eqs, eq1, Nat.reduceEqDiff, Nat.reduceAdd, Nat.reduceSub, Nat.reduceMul, Nat.reduceLeDiff, Nat.reduceLT, Nat.one_ne_zero, Nat.zero_ne_one, reduceIte, reduceCtorEq, bne_self_eq_false, decide_true, decide_false, Int.reduceToNat, Int.cast_ofNat_Int, Int.reduceLT, Int.reduceLE, Int.reduceEq, Int.reduceNeg, Int.reduceAdd, Int.reduceSub, xfun, ha, hb, h01, Int.add_zero, u64_wrap, h]))
  all_goals rw [hm]
  all_goals split
  all_goals first | (exfalso; omega) | (congr 2; omega)
theorem mul_lt {p a b : Int} (ha : 0 ≤ a) (ha1 : a < p) (hb : 0 ≤ b) (hb1 : b < p) : 0 ≤ a * b ∧ a * b < p * p := by
  refine ⟨Int.mul_nonneg ha hb, ?_⟩
  have h1 : a * b ≤ (p - 1) * p := Int.mul_le_mul (by omega) (by omega) hb (by omega)
  rw [Int.sub_mul, Int.one_mul] at h1
  omega
theorem ok61 {p a b : Int} (hp : p ≤ 18446744073709551615) (ha : 0 ≤ a) (ha1 : a < p) (hb : 0 ≤ b) (hb1 : b < p) {K : PV → Prop} : XcP F gl 61 [.agg [.int .u64 p], .int .u64 a, .int .u64 b] K ⟨⟩ ↔ K (.t (.int .u64 (a * b % p))) := by
  refine Ret.iff (Ret.of F61 rfl ?_)
  obtain ⟨m0, m1⟩ := mul_lt ha ha1 hb hb1
  have m2 : p * p ≤ p * 18446744073709551616 := Int.mul_le_mul_of_nonneg_left (by omega) (by omega)
  have hhi : a * b / 18446744073709551616 < p := Int.ediv_lt_of_lt_mul (by decide) (by omega)
  have a62 := @ok62 gl a b ha (by omega) hb (by omega)
  have a63 := @ok63 gl (a * b / 18446744073709551616) (a * b % 18446744073709551616) p (by omega) hhi (by omega) (by omega) hp
  have e : a * b / 18446744073709551616 * 18446744073709551616 + a * b % 18446744073709551616 = a * b := by omega
  rw [e] at a63
  simp only [ir61]
  simp only [wCo, wFr, wOp, wBi, wLst, wLog, xB_other, Nat.reduceBEq, unT, loadP, storeP, partP, partT, partV, cellsP, mkAgg, allT, setRange, fillP, fieldA, indexS, indexA, indexV, indexStr, elems, lenP, pickV, cviV, nckV, extV, isNil, bound, close, close1, aft, retV, retSl, Go.Pi.one, eqT, eqs, eq1, Nat.reduceEqDiff, Nat.reduceAdd, Nat.reduceSub, Nat.reduceMul, Nat.reduceLeDiff, Nat.reduceLT, Nat.one_ne_zero, Nat.zero_ne_one, reduceIte, reduceCtorEq, bne_self_eq_false, decide_true, decide_false, Int.reduceToNat, Int.cast_ofNat_Int, Int.reduceLT, Int.reduceLE, Int.reduceEq, Int.reduceNeg, Int.reduceAdd, Int.reduceSub, a62, a63]
  repeat' ((with_reducible first | refine xG_dec ?_ ?_ | refine xG_ndec ?_ ?_ | refine xG_nsplit ?_ ?_ | refine xG_split ?_ ?_ | refine xC_dec ?_ ?_ | refine xC_ndec ?_ ?_ | refine xC_nsplit ?_ ?_ | refine xC_split ?_ ?_) <;> intro h <;> (try simp only [wCo, wFr, wOp, wBi, wLst, wLog, xB_other, Nat.reduceBEq, unT, loadP, storeP, partP, partT, partV, cellsP, mkAgg, allT, setRange, fillP, fieldA, indexS, indexA, indexV, indexStr, elems, lenP, pickV, cviV, nckV, extV, isNil, bound, close, close1, aft, retV, retSl, Go.Pi.one, eqT, eqs, eq1, Nat.reduceEqDiff, Nat.reduceAdd, Nat.reduceSub, Nat.reduceMul, Nat.reduceLeDiff, Nat.reduceLT, Nat.one_ne_zero, Nat.zero_ne_one, reduceIte, reduceCtorEq, bne_self_eq_false, decide_true, decide_false, Int.reduceToNat, Int.cast_ofNat_Int, Int.reduceLT, Int.reduceLE, Int.reduceEq, Int.reduceNeg, Int.reduceAdd, Int.reduceSub, a62, a63, h]))
theorem ok33 {p a b : Int} (ha : 0 ≤ a) (hb : 0 ≤ b) {K : PV → Prop} : XcP F gl 33 [.agg [.int .u64 p], .int .u64 a, .int .u64 b] K ⟨⟩ ↔ K (.t (.int .u64 (fadd p a b))) := by
  refine Ret.iff (Ret.of F33 rfl ?_)
  simp only [ir33]
  cases hk : known p with
  | false =>
    simp only [wCo, wFr, wOp, wBi, wLst, wLog, xB_other, Nat.reduceBEq, unT, loadP, storeP, partP, partT, partV, cellsP, mkAgg, allT, setRange, fillP, fieldA, indexS, indexA, indexV, indexStr, elems, lenP, pickV, cviV, nckV, extV, isNil, bound, close, close1, aft, retV, retSl, Go.Pi.one, eqT, eqs, eq1, Nat.reduceEqDiff, Nat.reduceAdd, Nat.reduceSub, Nat.reduceMul, Nat.reduceLeDiff, Nat.reduceLT, Nat.one_ne_zero, Nat.zero_ne_one, reduceIte, reduceCtorEq, bne_self_eq_false, decide_true, decide_false, Int.reduceToNat, Int.cast_ofNat_Int, Int.reduceLT, Int.reduceLE, Int.reduceEq, Int.reduceNeg, Int.reduceAdd, Int.reduceSub, ok55, hk]
    repeat' ((with_reducible first | refine xG_dec ?_ ?_ | refine xG_ndec ?_ ?_ | refine xG_nsplit ?_ ?_ | refine xG_split ?_ ?_ | refine xC_dec ?_ ?_ | refine xC_ndec ?_ ?_ | refine xC_nsplit ?_ ?_ | refine xC_split ?_ ?_) <;> intro h <;> (try simp only [wCo, wFr, wOp, wBi, wLst, wLog, xB_other, Nat.reduceBEq, unT, loadP, storeP, partP, partT, partV, cellsP, mkAgg, allT, setRange, fillP, fieldA, indexS, indexA, indexV, indexStr, elems, lenP, pickV, cviV, nckV, extV, isNil, bound, close, close1, aft, retV, retSl, Go.Pi.one, eqT, eqs, eq1, Nat.reduceEqDiff, Nat.reduceAdd, Nat.reduceSub, Nat.reduceMul, Nat.reduceLeDiff, Nat.reduceLT, Nat.one_ne_zero, Nat.zero_ne_one, reduceIte, reduceCtorEq, bne_self_eq_false, decide_true, decide_false, Int.reduceToNat, Int.cast_ofNat_Int, Int.reduceLT, Int.reduceLE, Int.reduceEq, Int.reduceNeg, Int.reduceAdd, Int.reduceSub, ok55, hk, h]))
    simp [fadd, hk]
  | true =>
    obtain ⟨b1, b2⟩ := known_bd hk
    have a1 := @ok60 gl p a (by omega) ha
    have a2 := @ok60 gl p b (by omega) hb
    have a3 := @ok59 gl p (a % p) (b % p) (by omega) (Int.emod_nonneg _ (by omega)) (Int.emod_lt_of_pos _ (by omega)) (Int.emod_nonneg _ (by omega)) (Int.emod_lt_of_pos _ (by omega))
    simp only [wCo, wFr, wOp, wBi, wLst, wLog, xB_other, Nat.reduceBEq, unT, loadP, storeP, partP, partT, partV, cellsP, mkAgg, allT, setRange, fillP, fieldA, indexS, indexA, indexV, indexStr, elems, lenP, pickV, cviV, nckV, extV, isNil, bound, close, close1, aft, retV, retSl, Go.Pi.one, eqT, eqs, eq1, Nat.reduceEqDiff, Nat.reduceAdd, Nat.reduceSub, Nat.reduceMul, Nat.reduceLeDiff, Nat.reduceLT, Nat.one_ne_zero, Nat.zero_ne_one, reduceIte, reduceCtorEq, bne_self_eq_false, decide_true, decide_false, Int.reduceToNat, Int.cast_ofNat_Int, Int.reduceLT, Int.reduceLE, Int.reduceEq, Int.reduceNeg, Int.reduceAdd, Int.reduceSub, ok55, hk, a1, a2, a3]
    repeat' ((with_reducible first | refine xG_dec ?_ ?_ | refine xG_ndec ?_ ?_ | refine xG_nsplit ?_ ?_ | refine xG_split ?_ ?_ | refine xC_dec ?_ ?_ | refine xC_ndec ?_ ?_ | refine xC_nsplit ?_ ?_ | refine xC_split ?_ ?_) <;> intro h <;> (try simp only [wCo, wFr, wOp, wBi, wLst, wLog, xB_other, Nat.reduceBEq, unT, loadP, storeP, partP, partT, partV, cellsP, mkAgg, allT, setRange, fillP, fieldA, indexS, indexA, indexV, indexStr, elems, lenP, pickV, cviV, nckV, extV, isNil, bound, close, close1, aft, retV, retSl, Go.Pi.one, eqT, eqs, eq1, Nat.reduceEqDiff, Nat.reduceAdd, Nat.reduceSub, Nat.reduceMul, Nat.reduceLeDiff, Nat.reduceLT, Nat.one_ne_zero, Nat.zero_ne_one, reduceIte, reduceCtorEq, bne_self_eq_false, decide_true, decide_false, Int.reduceToNat, Int.cast_ofNat_Int, Int.reduceLT, Int.reduceLE, Int.reduceEq, Int.reduceNeg, Int.reduceAdd, Int.reduceSub, ok55, hk, a1, a2, a3, h]))
    simp [fadd, hk, Int.add_emod]
theorem ok34 {p a b : Int} (ha : 0 ≤ a) (hb : 0 ≤ b) {K : PV → Prop} : XcP F gl 34 [.agg [.int .u64 p], .int .u64 a, .int .u64 b] K ⟨⟩ ↔ K (.t (.int .u64 (fmul p a b))) := by
  refine Ret.iff (Ret.of F34 rfl ?_)
  simp only [ir34]
  cases hk : known p with
  | false =>
    simp only [wCo, wFr, wOp, wBi, wLst, wLog, xB_other, Nat.reduceBEq, unT, loadP, storeP, partP, partT, partV, cellsP, mkAgg, allT, setRange, fillP, fieldA, indexS, indexA, indexV, indexStr, elems, lenP, pickV, cviV, nckV, extV, isNil, bound, close, close1, aft, retV, retSl, Go.Pi.one, eqT, eqs, eq1, Nat.reduceEqDiff, Nat.reduceAdd, Nat.reduceSub, Nat.reduceMul, Nat.reduceLeDiff, Nat.reduceLT, Nat.one_ne_zero, Nat.zero_ne_one, reduceIte, reduceCtorEq, bne_self_eq_false, decide_true, decide_false, Int.reduceToNat, Int.cast_ofNat_Int, Int.reduceLT, Int.reduceLE, Int.reduceEq, Int.reduceNeg, Int.reduceAdd, Int.reduceSub, ok55, hk]
    repeat' ((with_reducible first | refine xG_dec ?_ ?_ | refine xG_ndec ?_ ?_ | refine xG_nsplit ?_ ?_ | refine xG_split ?_ ?_ | refine xC_dec ?_ ?_ | refine xC_ndec ?_ ?_ | refine xC_nsplit ?_ ?_ | refine xC_split ?_ ?_) <;> intro h <;> (try simp only [wCo, wFr, wOp, wBi, wLst, wLog, xB_other, Nat.reduceBEq, unT, loadP, storeP, partP, partT, partV, cellsP, mkAgg, allT, setRange, fillP, fieldA, indexS, indexA, indexV, indexStr, elems, lenP, pickV, cviV, nckV, extV, isNil, bound, close, close1, aft, retV, retSl, Go.Pi.one, eqT, eqs, eq1, Nat.reduceEqDiff, Nat.reduceAdd, Nat.reduceSub, Nat.reduceMul, Nat.reduceLeDiff, Nat.reduceLT, Nat.one_ne_zero, Nat.zero_ne_one, reduceIte, reduceCtorEq, bne_self_eq_false, decide_true, decide_false, Int.reduceToNat, Int.cast_ofNat_Int, Int.reduceLT, Int.reduceLE, Int.reduceEq, Int.reduceNeg, Int.reduceAdd, Int.reduceSub, ok55, hk, h]))
    simp [fmul, hk]
  | true =>
    obtain ⟨b1, b2⟩ := known_bd hk
    have a1 := @ok60 gl p a (by omega) ha
    have a2 := @ok60 gl p b (by omega) hb
    have a3 := @ok61 gl p (a % p) (b % p) (by omega) (Int.emod_nonneg _ (by omega)) (Int.emod_lt_of_pos _ (by omega)) (Int.emod_nonneg _ (by omega)) (Int.emod_lt_of_pos _ (by omega))
    simp only [wCo, wFr, wOp, wBi, wLst, wLog, xB_other, Nat.reduceBEq, unT, loadP, storeP, partP, partT, partV, cellsP, mkAgg, allT, setRange, fillP, fieldA, indexS, indexA, indexV, indexStr, elems, lenP, pickV, cviV, nckV, extV, isNil, bound, close, close1, aft, retV, retSl, Go.Pi.one, eqT, eqs, eq1, Nat.reduceEqDiff, Nat.reduceAdd, Nat.reduceSub, Nat.reduceMul, Nat.reduceLeDiff, Nat.reduceLT, Nat.one_ne_zero, Nat.zero_ne_one, reduceIte, reduceCtorEq, bne_self_eq_false, decide_true, decide_false, Int.reduceToNat, Int.cast_ofNat_Int, Int.reduceLT, Int.reduceLE, Int.reduceEq, Int.reduceNeg, Int.reduceAdd, Int.reduceSub, ok55, hk, a1, a2, a3]
    repeat' ((with_reducible first | refine xG_dec ?_ ?_ | refine xG_ndec ?_ ?_ | refine xG_nsplit ?_ ?_ | refine xG_split ?_ ?_ | refine xC_dec ?_ ?_ | refine xC_ndec ?_ ?_ | refine xC_nsplit ?_ ?_ | refine xC_split ?_ ?_) <;> intro h <;> (try simp only [wCo, wFr, wOp, wBi, wLst, wLog, xB_other, Nat.reduceBEq, unT, loadP, storeP, partP, partT, partV, cellsP, mkAgg, allT, setRange, fillP, fieldA, indexS, indexA, indexV, indexStr, elems, lenP, pickV, cviV, nckV, extV, isNil, bound, close, close1, aft, retV, retSl, Go.Pi.one, eqT, eqs, eq1, Nat.reduceEqDiff, Nat.reduceAdd, Nat.reduceSub, Nat.reduceMul, Nat.reduceLeDiff, Nat.reduceLT, Nat.one_ne_zero, Nat.zero_ne_one, reduceIte, reduceCtorEq, bne_self_eq_false, decide_true, decide_false, Int.reduceToNat, Int.cast_ofNat_Int, Int.reduceLT, Int.reduceLE, Int.reduceEq, Int.reduceNeg, Int.reduceAdd, Int.reduceSub, ok55, hk, a1, a2, a3, h]))
    simp [fmul, hk, Int.mul_emod]
def tU (l : List Int) : List (List T) := l.map fun n => [.int .u64 n]
theorem tU_len {w : List Int} : (tU w).length = w.length := by simp [tU]
theorem fadd_nn {p a b : Int} (ha : 0 ≤ a) (hb : 0 ≤ b) : 0 ≤ fadd p a b := by
  unfold fadd
  split
  · rename_i h
    have := known_bd h
    exact Int.emod_nonneg _ (by omega)
  · exact Int.le_refl _
theorem fmul_nn {p a b : Int} (ha : 0 ≤ a) (hb : 0 ≤ b) : 0 ≤ fmul p a b := by
  unfold fmul
  split
  · rename_i h
    have := known_bd h
    exact Int.emod_nonneg _ (by omega)
  · exact Int.le_refl _

end Go.Proofs.YtbkphlhmbllbiaaDoor
