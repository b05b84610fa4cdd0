/- Contracts: strconv's decimal numbers: formatBase10. -/
import Derived.Test.YtbkphlhmbllbiaaDoorE1
set_option maxRecDepth 10000
set_option linter.unusedVariables false
set_option linter.unusedSimpArgs false
namespace Go.Proofs.YtbkphlhmbllbiaaDoor
open Go.Pi Go.Lib
variable {gl : Nat → Option (List T)}

/-- The last k decimal digits. -/
def dgs : Nat → Nat → List UInt8
  | 0, _ => []
  | k + 1, u => dgs k (u / 10) ++ [UInt8.ofNat (48 + u % 10)]
theorem dgs_dec (u : Nat) : decDigits u = dgs (nDigits u) u := by
  induction u using Nat.strongRecOn with
  | _ u ih =>
    by_cases h : u < 10
    · rw [decDigits, dif_pos h, nDigits_small h]
      simp [dgs, Nat.mod_eq_of_lt h]
    · rw [decDigits, dif_neg h, nDigits_big h, ih (u / 10) (by omega)]
      rfl
theorem dgs_len : ∀ (k u : Nat), (dgs k u).length = k := by
  intro k
  induction k with
  | zero => intro u; rfl
  | succ k ih => intro u; simp [dgs, ih]
def bcell (b : UInt8) : PV := .t (.int .u8 (b.toNat : Int))
theorem dgs8 (k u : Nat) : dgs (k + 8) u = dgs k (u / 100000000) ++ [UInt8.ofNat (48 + u % 100000000 / 10000 / 100 / 10), UInt8.ofNat (48 + u % 100000000 / 10000 / 100 % 10), UInt8.ofNat (48 + u % 100000000 / 10000 % 100 / 10), UInt8.ofNat (48 + u % 100000000 / 10000 % 100 % 10),
    UInt8.ofNat (48 + u % 100000000 % 10000 / 100 / 10), UInt8.ofNat (48 + u % 100000000 % 10000 / 100 % 10), UInt8.ofNat (48 + u % 100000000 % 10000 % 100 / 10), UInt8.ofNat (48 + u % 100000000 % 10000 % 100 % 10)] := by
  have e0 : u / 10 / 10 / 10 / 10 / 10 / 10 / 10 / 10 = u / 100000000 := by omega
  have e1 : u / 10 / 10 / 10 / 10 / 10 / 10 / 10 % 10 = u % 100000000 / 10000 / 100 / 10 := by omega
  have e2 : u / 10 / 10 / 10 / 10 / 10 / 10 % 10 = u % 100000000 / 10000 / 100 % 10 := by omega
  have e3 : u / 10 / 10 / 10 / 10 / 10 % 10 = u % 100000000 / 10000 % 100 / 10 := by omega
  have e4 : u / 10 / 10 / 10 / 10 % 10 = u % 100000000 / 10000 % 100 % 10 := by omega
  have e5 : u / 10 / 10 / 10 % 10 = u % 100000000 % 10000 / 100 / 10 := by omega
  have e6 : u / 10 / 10 % 10 = u % 100000000 % 10000 / 100 % 10 := by omega
  have e7 : u / 10 % 10 = u % 100000000 % 10000 % 100 / 10 := by omega
  have e8 : u % 10 = u % 100000000 % 10000 % 100 % 10 := by omega
  simp only [dgs, e0, e1, e2, e3, e4, e5, e6, e7, List.append_assoc, List.cons_append, List.nil_append]
  rw [e8]
theorem sml_all : ∀ v : Fin 100, st79_1[v.1 * 2]? = some (UInt8.ofNat (48 + v.1 / 10)) ∧ st79_1[v.1 * 2 + 1]? = some (UInt8.ofNat (48 + v.1 % 10)) := by decide +kernel
theorem sml {v : Nat} (h : v < 100) : st79_1[v * 2]? = some (UInt8.ofNat (48 + v / 10)) ∧ st79_1[v * 2 + 1]? = some (UInt8.ofNat (48 + v % 10)) := sml_all ⟨v, h⟩
theorem sets0 : st81_0 = st79_1 ∧ st81_1 = st79_1 ∧ st81_2 = st79_1 ∧ st81_3 = st79_1 ∧ st81_4 = st79_1 ∧ st81_5 = st79_1 ∧ st81_6 = st79_1 ∧ st81_7 = st79_1 ∧ st81_8 = st79_1 ∧ st81_9 = st79_1 ∧ st81_10 = st79_1 ∧ st81_11 = st79_1 ∧ st81_12 = st79_1 ∧ st81_13 = st79_1 := ⟨rfl, rfl, rfl, rfl, rfl, rfl, rfl, rfl, rfl, rfl, rfl, rfl, rfl, rfl⟩
theorem tdiv1 (a : Nat) : (a : Int).tdiv 100000000 = ((a / 100000000 : Nat) : Int) ∧ (a : Int).tdiv 10000 = ((a / 10000 : Nat) : Int) ∧ (a : Int).tdiv 100 = ((a / 100 : Nat) : Int) := by
  refine ⟨?_, ?_, ?_⟩ <;> rw [Int.tdiv_eq_ediv_of_nonneg (by omega)] <;> omega
theorem tmod1 (a : Nat) : (a : Int).tmod 100000000 = ((a % 100000000 : Nat) : Int) ∧ (a : Int).tmod 10000 = ((a % 10000 : Nat) : Int) ∧ (a : Int).tmod 100 = ((a % 100 : Nat) : Int) := by
  refine ⟨?_, ?_, ?_⟩ <;> rw [Int.tmod_eq_emod_of_nonneg (by omega)] <;> omega
theorem get_set {sg : Sg} {id : Nat} {x : Bool × List PV} (h : id < sg.length) : (sg.set id x)[id]? = some x := by simp [h]
theorem set_same {sg : Sg} {id : Nat} {x : Bool × List PV} (h : sg[id]? = some x) : sg.set id x = sg := by
  obtain ⟨hl, e⟩ := List.getElem?_eq_some_iff.1 h
  rw [← e]
  exact List.set_getElem_self hl
theorem split8 {A : List PV} {k : Nat} (h : A.length = k + 8) : ∃ B a b c d e f g i, A = B ++ [a, b, c, d, e, f, g, i] ∧ B.length = k := by
  have h1 := List.take_append_drop k A
  have h2 : (A.drop k).length = 8 := by rw [List.length_drop]; omega
  match hd : A.drop k, h2 with
  | [a, b, c, d, e, f, g, i], _ => exact ⟨A.take k, a, b, c, d, e, f, g, i, by rw [← hd]; exact h1.symm, by rw [List.length_take]; omega⟩
set_option maxHeartbeats 2000000 in
theorem loop81 (id N : Nat) (hN : N ≤ 1000) (ow : Ow) (Q : Ex → S → Prop) : ∀ (c m u : Nat) (A D : List PV) (sg : Sg) (fr : List PV), A.length = m + 8 * c → m < 8 → m + 8 * c ≤ N → u ≤ 18446744073709551615 → sg[id]? = some (false, A ++ D) →
    FrAt fr [(0, .ls id 0 N 1), (1, .t (.int .u64 (u : Int))), (4, .t (.int .i64 ((m + 8 * c : Nat) : Int)))] →
    (∀ fr' A', A'.length = m → FrAt fr' [(0, .ls id 0 N 1), (1, .t (.int .u64 ((u / 10 ^ (8 * c) : Nat) : Int))), (4, .t (.int .i64 (m : Int)))] → Q (.exit 0) ⟨fr', sg.set id (false, A' ++ ((dgs (8 * c) u).map bcell ++ D)), ow⟩) →
    Xl F gl lb81_0 ⟨fr, sg, ow⟩ Q ⟨⟩ := by
  intro c
  induction c with
  | zero =>
    intro m u A D sg fr hA hm hle hu hs hf hQ
    simp only [FrAt_cons, FrAt_nil] at hf
    obtain ⟨f0, f1, f4, -⟩ := hf
    simp only [Nat.mul_zero, Nat.add_zero, Nat.pow_zero, Nat.div_one, dgs, List.map_nil, List.nil_append] at hA hle f4 hQ
    have c1 : ¬ ((8 : Int) ≤ (m : Int)) := by omega
    refine Xl.step ?_
    simp only [lb81_0]
    simp only [wCo, wFr, wOp, wBi, wLst, wLog, xB_other, Nat.reduceBEq, unT, loadP, storeP, partP, partT, partV, cellsP, mkAgg, allT, setRange, fillP, fieldA, indexS, indexA, indexV, indexStr, elems, lenP, pickV, cviV, nckV, extV, isNil, bound, close, close1, aft, retV, retSl, one, eqT, eqs, eq1, Nat.reduceEqDiff, Nat.reduceAdd, Nat.reduceSub, Nat.reduceMul, Nat.reduceLeDiff, Nat.reduceLT, Nat.one_ne_zero, Nat.zero_ne_one, reduceIte, reduceCtorEq, bne_self_eq_false, decide_true, decide_false, Int.reduceToNat, Int.cast_ofNat_Int, Int.reduceLT, Int.reduceLE, Int.reduceEq, Int.reduceNeg, Int.reduceAdd, Int.reduceSub, f4, c1]
    repeat' ((with_reducible first | refine xG_dec ?_ ?_ | refine xG_ndec ?_ ?_ | refine xG_nsplit ?_ ?_ | refine xG_split ?_ ?_ | refine xC_dec ?_ ?_ | refine xC_ndec ?_ ?_ | refine xC_nsplit ?_ ?_ | refine xC_split ?_ ?_) <;> intro h <;> (try simp only [wCo, wFr, wOp, wBi, wLst, wLog, xB_other, Nat.reduceBEq, unT, loadP, storeP, partP, partT, partV, cellsP, mkAgg, allT, setRange, fillP, fieldA, indexS, indexA, indexV, indexStr, elems, lenP, pickV, cviV, nckV, extV, isNil, bound, close, close1, aft, retV, retSl, one, eqT, eqs, eq1, Nat.reduceEqDiff, Nat.reduceAdd, Nat.reduceSub, Nat.reduceMul, Nat.reduceLeDiff, Nat.reduceLT, Nat.one_ne_zero, Nat.zero_ne_one, reduceIte, reduceCtorEq, bne_self_eq_false, decide_true, decide_false, Int.reduceToNat, Int.cast_ofNat_Int, Int.reduceLT, Int.reduceLE, Int.reduceEq, Int.reduceNeg, Int.reduceAdd, Int.reduceSub, f4, c1, h]))
    rw [← set_same hs]
    exact hQ _ A hA (by simp only [FrAt_cons, FrAt_nil, wFr, Nat.reduceEqDiff, Nat.one_ne_zero, Nat.zero_ne_one, reduceIte, and_self, and_true, true_and, f0, f1, f4])
  | succ c ih =>
    intro m u A D sg fr hA hm hle hu hs hf hQ
    simp only [FrAt_cons, FrAt_nil] at hf
    obtain ⟨f0, f1, f4, -⟩ := hf
    obtain ⟨B, a, b, cc, d, e, f, g, i, rfl, hB⟩ := split8 (k := m + 8 * c) (by omega)
    have hid : id < sg.length := (List.getElem?_eq_some_iff.1 hs).1
    have c1 : (8 : Int) ≤ ((m + 8 * (c + 1) : Nat) : Int) := by omega
    simp only [List.append_assoc, List.cons_append, List.nil_append] at hs
    obtain ⟨A0e, A0o⟩ := sml (v := u % 100000000 % 10000 % 100) (by omega)
    have A0w : IntKind.u32.wrap (((u % 100000000 % 10000 % 100 : Nat) : Int) * 2) = ((u % 100000000 % 10000 % 100 * 2 : Nat) : Int) := by rw [IntWalk.u32_in _ (by omega)]; omega
    have A0x : IntKind.u32.wrap (((u % 100000000 % 10000 % 100 * 2 : Nat) : Int) + 1) = ((u % 100000000 % 10000 % 100 * 2 + 1 : Nat) : Int) := by rw [IntWalk.u32_in _ (by omega)]; omega
    obtain ⟨A1e, A1o⟩ := sml (v := u % 100000000 % 10000 / 100) (by omega)
    have A1w : IntKind.u32.wrap (((u % 100000000 % 10000 / 100 : Nat) : Int) * 2) = ((u % 100000000 % 10000 / 100 * 2 : Nat) : Int) := by rw [IntWalk.u32_in _ (by omega)]; omega
    have A1x : IntKind.u32.wrap (((u % 100000000 % 10000 / 100 * 2 : Nat) : Int) + 1) = ((u % 100000000 % 10000 / 100 * 2 + 1 : Nat) : Int) := by rw [IntWalk.u32_in _ (by omega)]; omega
    obtain ⟨B0e, B0o⟩ := sml (v := u % 100000000 / 10000 % 100) (by omega)
    have B0w : IntKind.u32.wrap (((u % 100000000 / 10000 % 100 : Nat) : Int) * 2) = ((u % 100000000 / 10000 % 100 * 2 : Nat) : Int) := by rw [IntWalk.u32_in _ (by omega)]; omega
    have B0x : IntKind.u32.wrap (((u % 100000000 / 10000 % 100 * 2 : Nat) : Int) + 1) = ((u % 100000000 / 10000 % 100 * 2 + 1 : Nat) : Int) := by rw [IntWalk.u32_in _ (by omega)]; omega
    obtain ⟨B1e, B1o⟩ := sml (v := u % 100000000 / 10000 / 100) (by omega)
    have B1w : IntKind.u32.wrap (((u % 100000000 / 10000 / 100 : Nat) : Int) * 2) = ((u % 100000000 / 10000 / 100 * 2 : Nat) : Int) := by rw [IntWalk.u32_in _ (by omega)]; omega
    have B1x : IntKind.u32.wrap (((u % 100000000 / 10000 / 100 * 2 : Nat) : Int) + 1) = ((u % 100000000 / 10000 / 100 * 2 + 1 : Nat) : Int) := by rw [IntWalk.u32_in _ (by omega)]; omega
    have w0 : IntKind.u32.wrap ((u % 100000000 : Nat) : Int) = ((u % 100000000 : Nat) : Int) := IntWalk.u32_in _ (by omega)
    have w1 : IntKind.u64.wrap ((u / 100000000 : Nat) : Int) = ((u / 100000000 : Nat) : Int) := IntWalk.u64_in _ (by omega)
    have w2 : IntKind.u32.wrap ((u % 100000000 / 10000 : Nat) : Int) = ((u % 100000000 / 10000 : Nat) : Int) := IntWalk.u32_in _ (by omega)
    have w3 : IntKind.u32.wrap ((u % 100000000 % 10000 / 100 : Nat) : Int) = ((u % 100000000 % 10000 / 100 : Nat) : Int) := IntWalk.u32_in _ (by omega)
    have w4 : IntKind.u32.wrap ((u % 100000000 / 10000 / 100 : Nat) : Int) = ((u % 100000000 / 10000 / 100 : Nat) : Int) := IntWalk.u32_in _ (by omega)
    have i1 : IntKind.i64.wrap (((m + 8 * (c + 1) : Nat) : Int) - 1) = ((B.length + 7 : Nat) : Int) := by rw [IntWalk.i64_in _ (by omega)]; omega
    have j1 : B.length + 7 < N := by omega
    have i2 : IntKind.i64.wrap (((m + 8 * (c + 1) : Nat) : Int) - 2) = ((B.length + 6 : Nat) : Int) := by rw [IntWalk.i64_in _ (by omega)]; omega
    have j2 : B.length + 6 < N := by omega
    have i3 : IntKind.i64.wrap (((m + 8 * (c + 1) : Nat) : Int) - 3) = ((B.length + 5 : Nat) : Int) := by rw [IntWalk.i64_in _ (by omega)]; omega
    have j3 : B.length + 5 < N := by omega
    have i4 : IntKind.i64.wrap (((m + 8 * (c + 1) : Nat) : Int) - 4) = ((B.length + 4 : Nat) : Int) := by rw [IntWalk.i64_in _ (by omega)]; omega
    have j4 : B.length + 4 < N := by omega
    have i5 : IntKind.i64.wrap (((m + 8 * (c + 1) : Nat) : Int) - 5) = ((B.length + 3 : Nat) : Int) := by rw [IntWalk.i64_in _ (by omega)]; omega
    have j5 : B.length + 3 < N := by omega
    have i6 : IntKind.i64.wrap (((m + 8 * (c + 1) : Nat) : Int) - 6) = ((B.length + 2 : Nat) : Int) := by rw [IntWalk.i64_in _ (by omega)]; omega
    have j6 : B.length + 2 < N := by omega
    have i7 : IntKind.i64.wrap (((m + 8 * (c + 1) : Nat) : Int) - 7) = ((B.length + 1 : Nat) : Int) := by rw [IntWalk.i64_in _ (by omega)]; omega
    have j7 : B.length + 1 < N := by omega
    have i8 : IntKind.i64.wrap (((m + 8 * (c + 1) : Nat) : Int) - 8) = ((B.length + 0 : Nat) : Int) := by rw [IntWalk.i64_in _ (by omega)]; omega
    have j8 : B.length < N := by omega
    have n1 : ¬ ((100000000 : Int) = 0) := by decide
    have n2 : ¬ ((10000 : Int) = 0) := by decide
    have n3 : ¬ ((100 : Int) = 0) := by decide
    refine Xl.step ?_
    simp only [lb81_0]
    simp only [wCo, wFr, wOp, wBi, wLst, wLog, xB_other, Nat.reduceBEq, unT, loadP, storeP, partP, partT, partV, cellsP, mkAgg, allT, setRange, fillP, fieldA, indexS, indexA, indexV, indexStr, elems, lenP, pickV, cviV, nckV, extV, isNil, bound, close, close1, aft, retV, retSl, one, eqT, eqs, eq1, Nat.reduceEqDiff, Nat.reduceAdd, Nat.reduceSub, Nat.reduceMul, Nat.reduceLeDiff, Nat.reduceLT, Nat.one_ne_zero, Nat.zero_ne_one, reduceIte, reduceCtorEq, bne_self_eq_false, decide_true, decide_false, Int.reduceToNat, Int.cast_ofNat_Int, Int.reduceLT, Int.reduceLE, Int.reduceEq, Int.reduceNeg, Int.reduceAdd, Int.reduceSub, f0, f1, f4, c1, n1, n2, n3, sets0, tdiv1, tmod1, A0e, A0o, A0w, A0x, A1e, A1o, A1w, A1x, B0e, B0o, B0w, B0x, B1e, B1o, B1w, B1x, w0, w1, w2, w3, w4, i1, i2, i3, i4, i5, i6, i7, i8, j1, j2, j3, j4, j5, j6, j7, j8, hs, get_set, hid, List.set_set, List.length_set, Nat.mul_one, Nat.add_assoc, Nat.add_le_add_iff_left, Nat.le_add_left]
    repeat' ((with_reducible first | refine xG_dec ?_ ?_ | refine xG_ndec ?_ ?_ | refine xG_nsplit ?_ ?_ | refine xG_split ?_ ?_ | refine xC_dec ?_ ?_ | refine xC_ndec ?_ ?_ | refine xC_nsplit ?_ ?_ | refine xC_split ?_ ?_) <;> intro h <;> (try simp only [wCo, wFr, wOp, wBi, wLst, wLog, xB_other, Nat.reduceBEq, unT, loadP, storeP, partP, partT, partV, cellsP, mkAgg, allT, setRange, fillP, fieldA, indexS, indexA, indexV, indexStr, elems, lenP, pickV, cviV, nckV, extV, isNil, bound, close, close1, aft, retV, retSl, one, eqT, eqs, eq1, Nat.reduceEqDiff, Nat.reduceAdd, Nat.reduceSub, Nat.reduceMul, Nat.reduceLeDiff, Nat.reduceLT, Nat.one_ne_zero, Nat.zero_ne_one, reduceIte, reduceCtorEq, bne_self_eq_false, decide_true, decide_false, Int.reduceToNat, Int.cast_ofNat_Int, Int.reduceLT, Int.reduceLE, Int.reduceEq, Int.reduceNeg, Int.reduceAdd, Int.reduceSub, f0, f1, f4, c1, n1, n2, n3, sets0, tdiv1, tmod1, A0e, A0o, A0w, A0x, A1e, A1o, A1w, A1x, B0e, B0o, B0w, B0x, B1e, B1o, B1w, B1x, w0, w1, w2, w3, w4, i1, i2, i3, i4, i5, i6, i7, i8, j1, j2, j3, j4, j5, j6, j7, j8, hs, get_set, hid, List.set_set, List.length_set, Nat.mul_one, Nat.add_assoc, Nat.add_le_add_iff_left, Nat.le_add_left, h]))
    refine ih m (u / 100000000) B _ _ _ hB hm (by omega) (by omega) (get_set hid) (by simp only [FrAt_cons, FrAt_nil, wFr, Nat.reduceEqDiff, Nat.one_ne_zero, Nat.zero_ne_one, reduceIte, and_self, and_true, true_and, f0, hB]) ?_
    intro fr' A' hA' hf'
    have e1 : u / 100000000 / 10 ^ (8 * c) = u / 10 ^ (8 * (c + 1)) := by
      rw [Nat.div_div_eq_div_mul, Nat.mul_add, Nat.mul_one, Nat.pow_add, Nat.mul_comm]
    rw [e1] at hf'
    have h3 := hQ fr' A' hA' hf'
    have e2 : 8 * (c + 1) = 8 * c + 8 := by omega
    rw [e2, dgs8, List.map_append, List.append_assoc] at h3
    rw [List.set_set]
    exact h3
theorem dgs_add : ∀ (b a u : Nat), dgs (a + b) u = dgs a (u / 10 ^ b) ++ dgs b u := by
  intro b
  induction b with
  | zero => intro a u; simp [dgs]
  | succ b ih =>
    intro a u
    have e : u / 10 / 10 ^ b = u / 10 ^ (b + 1) := by rw [Nat.div_div_eq_div_mul, Nat.pow_succ, Nat.mul_comm]
    rw [← Nat.add_assoc]
    simp only [dgs]
    rw [ih, e, List.append_assoc]
end Go.Proofs.YtbkphlhmbllbiaaDoor
