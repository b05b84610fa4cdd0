/- Contracts: reading a table: numbers, linear combinations. -/
import Derived.Test.YtbkphlhmbllbiaaDoorT1
import Derived.Test.YtbkphlhmbllbiaaDoorB2
import Derived.Test.YtbkphlhmbllbiaaDoorPi33
set_option maxRecDepth 10000
set_option linter.unusedVariables false
set_option linter.unusedSimpArgs false
namespace Go.Proofs.YtbkphlhmbllbiaaDoor
open Go.Pi
/-- What the variables hold. -/
structure GlK (gl : Nat → Option (List T)) : Prop where
  p10 : gl 2 = some (p10.map (T.int .u64))
  e0 : gl 6 = some [.ifx]
  e1 : gl 7 = some [.ifx]
  m : ∃ m, gl 3 = some [.int .i64 m]
section
variable {gl : Nat → Option (List T)}
theorem xCut (G : GlK gl) {a b : List UInt8} (ha : a.length < 4294967281) : xfun gl 54 [.str a, .str b] = some (.tup [.t (.str (Lib.cut a b).1), .t (.str (Lib.cut a b).2.1), .t (.bool (Lib.cut a b).2.2)]) := by
  have e : xfun gl 54 [.str a, .str b] = xcon gl 3 3 [.str a, .str b] := rfl
  obtain ⟨m, hm⟩ := G.m
  rw [e]
  simp only [xcon, hm]
  rw [if_pos ha]
theorem xSplit (G : GlK gl) {a b : List UInt8} (ha : a.length < 4294967281) (hb : 1 ≤ b.length) : xfun gl 56 [.str a, .str b] = some (.t (.sl false ((Lib.split a b).map fun x => [.str x]))) := by
  have e : xfun gl 56 [.str a, .str b] = xcon gl 5 3 [.str a, .str b] := rfl
  obtain ⟨m, hm⟩ := G.m
  rw [e]
  simp only [xcon, hm]
  rw [if_pos ⟨ha, hb⟩]
theorem xPu_ok (G : GlK gl) {t : List UInt8} {u : Nat} (hl : t.length ≤ 10000000) (h : puO t = some u) : xfun gl 28773 [.str t, .int .i64 10, .int .i64 64] = some (.tup [.t (.int .u64 u), .t .nif]) := by
  have e : xfun gl 28773 [.str t, .int .i64 10, .int .i64 64] = xcon gl 2 (7 * 256 + 6) [.str t, .int .i64 10, .int .i64 64] := rfl
  have e1 : gl ((7 * 256 + 6) % 256) = some [.ifx] := G.e0
  have e2 : gl ((7 * 256 + 6) / 256) = some [.ifx] := G.e1
  have hl' : t.length ≤ 281474976710656 := by omega
  have hq : Lib.parseUintB 64 t = .ok u := by
    unfold puO at h
    split at h
    · rename_i v hv
      injection h with h
      rw [hv, h]
    · cases h
  rw [e]
  simp only [xcon, e1, e2, hl', and_self, if_true, hq]
theorem xPu_no (G : GlK gl) {t : List UInt8} (hl : t.length ≤ 10000000) (h : puO t = none) : ∃ v : Int, xfun gl 28773 [.str t, .int .i64 10, .int .i64 64] = some (.tup [.t (.int .u64 v), .t .ifx]) := by
  have e : xfun gl 28773 [.str t, .int .i64 10, .int .i64 64] = xcon gl 2 (7 * 256 + 6) [.str t, .int .i64 10, .int .i64 64] := rfl
  have e1 : gl ((7 * 256 + 6) % 256) = some [.ifx] := G.e0
  have e2 : gl ((7 * 256 + 6) / 256) = some [.ifx] := G.e1
  have hl' : t.length ≤ 281474976710656 := by omega
  rw [e]
  unfold puO at h
  cases hq : Lib.parseUintB 64 t with
  | ok u => rw [hq] at h; cases h
  | range => exact ⟨18446744073709551615, by simp only [xcon, e1, e2, hl', and_self, if_true, hq]⟩
  | _ => exact ⟨0, by simp only [xcon, e1, e2, hl', and_self, if_true, hq]⟩
theorem bytes_at {t : List UInt8} {i : Nat} {c : UInt8} (h : t[i]? = some c) : (bytesT t)[i]? = some [.int .u8 (c.toNat : Int)] := by
  unfold bytesT
  rw [List.getElem?_map, h]
  rfl
theorem loop87 (t : List UInt8) (ht : t.length ≤ 10000000) (sg : Sg) (ow : Ow) (Q : Ex → S → Prop) : ∀ (rest : List UInt8) (i : Nat) (fr : List PV), t.drop i = rest →
    FrAt fr [(0, .t (.str t)), (9, .own 0 1 (bytesT t)), (10, .t (.int .i64 t.length)), (11, .t (.int .i64 i))] →
    (rest.all isDg = true → ∀ fr', FrAt fr' [(0, .t (.str t))] → Q (.exit 0) ⟨fr', sg, ow⟩) →
    (rest.all isDg = false → ∀ fr', FrAt fr' [(2, .t (.int .u64 0)), (3, .t (.bool false))] → Q .ret ⟨fr', sg, ow⟩) →
    Xl F gl lb87_0 ⟨fr, sg, ow⟩ Q ⟨⟩ := by
  intro rest
  induction rest with
  | nil =>
    intro i fr hd hf h1 h2
    have hd := drop_nil' hd
    simp only [FrAt_cons, FrAt_nil] at hf
    obtain ⟨f0, f9, f10, f11, -⟩ := hf
    refine Xl.step ?_
    simp only [lb87_0]
    have c1 : ¬ ((i : Int) < (t.length : Int)) := by omega
    simp only [wCo, wFr, wOp, wBi, wLst, wLog, xB_other, Nat.reduceBEq, unT, loadP, storeP, partP, partT, partV, cellsP, mkAgg, allT, setRange, fillP, fieldA, indexS, indexA, indexV, indexStr, elems, lenP, pickV, cviV, nckV, extV, isNil, bound, close, close1, aft, retV, retSl, Go.Pi.one, eqT, eqs, eq1, Nat.reduceEqDiff, Nat.reduceAdd, Nat.reduceSub, Nat.reduceMul, Nat.reduceLeDiff, Nat.reduceLT, Nat.one_ne_zero, Nat.zero_ne_one, reduceIte, reduceCtorEq, bne_self_eq_false, decide_true, decide_false, Int.reduceToNat, Int.cast_ofNat_Int, Int.reduceLT, Int.reduceLE, Int.reduceEq, Int.reduceNeg, Int.reduceAdd, Int.reduceSub, f0, f9, f10, f11, c1]
    repeat' ((with_reducible first | refine xG_dec ?_ ?_ | refine xG_ndec ?_ ?_ | refine xG_nsplit ?_ ?_ | refine xG_split ?_ ?_ | refine xC_dec ?_ ?_ | refine xC_ndec ?_ ?_ | refine xC_nsplit ?_ ?_ | refine xC_split ?_ ?_) <;> intro h <;> (try simp only [wCo, wFr, wOp, wBi, wLst, wLog, xB_other, Nat.reduceBEq, unT, loadP, storeP, partP, partT, partV, cellsP, mkAgg, allT, setRange, fillP, fieldA, indexS, indexA, indexV, indexStr, elems, lenP, pickV, cviV, nckV, extV, isNil, bound, close, close1, aft, retV, retSl, Go.Pi.one, eqT, eqs, eq1, Nat.reduceEqDiff, Nat.reduceAdd, Nat.reduceSub, Nat.reduceMul, Nat.reduceLeDiff, Nat.reduceLT, Nat.one_ne_zero, Nat.zero_ne_one, reduceIte, reduceCtorEq, bne_self_eq_false, decide_true, decide_false, Int.reduceToNat, Int.cast_ofNat_Int, Int.reduceLT, Int.reduceLE, Int.reduceEq, Int.reduceNeg, Int.reduceAdd, Int.reduceSub, f0, f9, f10, f11, c1, h]))
    exact h1 rfl _ (by simp only [FrAt_cons, FrAt_nil, wFr, Nat.reduceEqDiff, Nat.one_ne_zero, Nat.zero_ne_one, reduceIte, and_self, and_true, true_and, f0])
  | cons c r ih =>
    intro i fr hd hf h1 h2
    obtain ⟨hx, hr, hi'⟩ := drop_cons hd
    simp only [FrAt_cons, FrAt_nil] at hf
    obtain ⟨f0, f9, f10, f11, -⟩ := hf
    have c1 : (i : Int) < (t.length : Int) := by omega
    have ci : (0 : Int) ≤ (i : Int) := by omega
    have hb := bytes_at hx
    have hw1 : IntKind.wrap .i64 ((i : Int) + 1) = ((i + 1 : Nat) : Int) := by rw [IntWalk.i64_in _ (by omega)]; omega
    refine Xl.step ?_
    simp only [lb87_0]
    simp only [List.all_cons] at h1 h2
    by_cases d1 : (c.toNat : Int) < 48
    · have hg : isDg c = false := by simp only [isDg, Bool.and_eq_false_iff, decide_eq_false_iff_not]; omega
      simp only [wCo, wFr, wOp, wBi, wLst, wLog, xB_other, Nat.reduceBEq, unT, loadP, storeP, partP, partT, partV, cellsP, mkAgg, allT, setRange, fillP, fieldA, indexS, indexA, indexV, indexStr, elems, lenP, pickV, cviV, nckV, extV, isNil, bound, close, close1, aft, retV, retSl, Go.Pi.one, eqT, eqs, eq1, Nat.reduceEqDiff, Nat.reduceAdd, Nat.reduceSub, Nat.reduceMul, Nat.reduceLeDiff, Nat.reduceLT, Nat.one_ne_zero, Nat.zero_ne_one, reduceIte, reduceCtorEq, bne_self_eq_false, decide_true, decide_false, Int.reduceToNat, Int.cast_ofNat_Int, Int.reduceLT, Int.reduceLE, Int.reduceEq, Int.reduceNeg, Int.reduceAdd, Int.reduceSub, f0, f9, f10, f11, c1, ci, hb, d1, hw1, Int.toNat_natCast]
      repeat' ((with_reducible first | refine xG_dec ?_ ?_ | refine xG_ndec ?_ ?_ | refine xG_nsplit ?_ ?_ | refine xG_split ?_ ?_ | refine xC_dec ?_ ?_ | refine xC_ndec ?_ ?_ | refine xC_nsplit ?_ ?_ | refine xC_split ?_ ?_) <;> intro h <;> (try simp only [wCo, wFr, wOp, wBi, wLst, wLog, xB_other, Nat.reduceBEq, unT, loadP, storeP, partP, partT, partV, cellsP, mkAgg, allT, setRange, fillP, fieldA, indexS, indexA, indexV, indexStr, elems, lenP, pickV, cviV, nckV, extV, isNil, bound, close, close1, aft, retV, retSl, Go.Pi.one, eqT, eqs, eq1, Nat.reduceEqDiff, Nat.reduceAdd, Nat.reduceSub, Nat.reduceMul, Nat.reduceLeDiff, Nat.reduceLT, Nat.one_ne_zero, Nat.zero_ne_one, reduceIte, reduceCtorEq, bne_self_eq_false, decide_true, decide_false, Int.reduceToNat, Int.cast_ofNat_Int, Int.reduceLT, Int.reduceLE, Int.reduceEq, Int.reduceNeg, Int.reduceAdd, Int.reduceSub, f0, f9, f10, f11, c1, ci, hb, d1, hw1, Int.toNat_natCast, h]))
      exact h2 (by simp [hg]) _ (by simp only [FrAt_cons, FrAt_nil, wFr, Nat.reduceEqDiff, Nat.one_ne_zero, Nat.zero_ne_one, reduceIte, and_self, and_true, true_and])
    · by_cases d2 : 57 < (c.toNat : Int)
      · have hg : isDg c = false := by simp only [isDg, Bool.and_eq_false_iff, decide_eq_false_iff_not]; omega
        simp only [wCo, wFr, wOp, wBi, wLst, wLog, xB_other, Nat.reduceBEq, unT, loadP, storeP, partP, partT, partV, cellsP, mkAgg, allT, setRange, fillP, fieldA, indexS, indexA, indexV, indexStr, elems, lenP, pickV, cviV, nckV, extV, isNil, bound, close, close1, aft, retV, retSl, Go.Pi.one, eqT, eqs, eq1, Nat.reduceEqDiff, Nat.reduceAdd, Nat.reduceSub, Nat.reduceMul, Nat.reduceLeDiff, Nat.reduceLT, Nat.one_ne_zero, Nat.zero_ne_one, reduceIte, reduceCtorEq, bne_self_eq_false, decide_true, decide_false, Int.reduceToNat, Int.cast_ofNat_Int, Int.reduceLT, Int.reduceLE, Int.reduceEq, Int.reduceNeg, Int.reduceAdd, Int.reduceSub, f0, f9, f10, f11, c1, ci, hb, d1, d2, hw1, Int.toNat_natCast]
        repeat' ((with_reducible first | refine xG_dec ?_ ?_ | refine xG_ndec ?_ ?_ | refine xG_nsplit ?_ ?_ | refine xG_split ?_ ?_ | refine xC_dec ?_ ?_ | refine xC_ndec ?_ ?_ | refine xC_nsplit ?_ ?_ | refine xC_split ?_ ?_) <;> intro h <;> (try simp only [wCo, wFr, wOp, wBi, wLst, wLog, xB_other, Nat.reduceBEq, unT, loadP, storeP, partP, partT, partV, cellsP, mkAgg, allT, setRange, fillP, fieldA, indexS, indexA, indexV, indexStr, elems, lenP, pickV, cviV, nckV, extV, isNil, bound, close, close1, aft, retV, retSl, Go.Pi.one, eqT, eqs, eq1, Nat.reduceEqDiff, Nat.reduceAdd, Nat.reduceSub, Nat.reduceMul, Nat.reduceLeDiff, Nat.reduceLT, Nat.one_ne_zero, Nat.zero_ne_one, reduceIte, reduceCtorEq, bne_self_eq_false, decide_true, decide_false, Int.reduceToNat, Int.cast_ofNat_Int, Int.reduceLT, Int.reduceLE, Int.reduceEq, Int.reduceNeg, Int.reduceAdd, Int.reduceSub, f0, f9, f10, f11, c1, ci, hb, d1, d2, hw1, Int.toNat_natCast, h]))
        exact h2 (by simp [hg]) _ (by simp only [FrAt_cons, FrAt_nil, wFr, Nat.reduceEqDiff, Nat.one_ne_zero, Nat.zero_ne_one, reduceIte, and_self, and_true, true_and])
      · have hg : isDg c = true := isDg_iff.2 (by omega)
        simp only [wCo, wFr, wOp, wBi, wLst, wLog, xB_other, Nat.reduceBEq, unT, loadP, storeP, partP, partT, partV, cellsP, mkAgg, allT, setRange, fillP, fieldA, indexS, indexA, indexV, indexStr, elems, lenP, pickV, cviV, nckV, extV, isNil, bound, close, close1, aft, retV, retSl, Go.Pi.one, eqT, eqs, eq1, Nat.reduceEqDiff, Nat.reduceAdd, Nat.reduceSub, Nat.reduceMul, Nat.reduceLeDiff, Nat.reduceLT, Nat.one_ne_zero, Nat.zero_ne_one, reduceIte, reduceCtorEq, bne_self_eq_false, decide_true, decide_false, Int.reduceToNat, Int.cast_ofNat_Int, Int.reduceLT, Int.reduceLE, Int.reduceEq, Int.reduceNeg, Int.reduceAdd, Int.reduceSub, f0, f9, f10, f11, c1, ci, hb, d1, d2, hw1, Int.toNat_natCast]
        repeat' ((with_reducible first | refine xG_dec ?_ ?_ | refine xG_ndec ?_ ?_ | refine xG_nsplit ?_ ?_ | refine xG_split ?_ ?_ | refine xC_dec ?_ ?_ | refine xC_ndec ?_ ?_ | refine xC_nsplit ?_ ?_ | refine xC_split ?_ ?_) <;> intro h <;> (try simp only [wCo, wFr, wOp, wBi, wLst, wLog, xB_other, Nat.reduceBEq, unT, loadP, storeP, partP, partT, partV, cellsP, mkAgg, allT, setRange, fillP, fieldA, indexS, indexA, indexV, indexStr, elems, lenP, pickV, cviV, nckV, extV, isNil, bound, close, close1, aft, retV, retSl, Go.Pi.one, eqT, eqs, eq1, Nat.reduceEqDiff, Nat.reduceAdd, Nat.reduceSub, Nat.reduceMul, Nat.reduceLeDiff, Nat.reduceLT, Nat.one_ne_zero, Nat.zero_ne_one, reduceIte, reduceCtorEq, bne_self_eq_false, decide_true, decide_false, Int.reduceToNat, Int.cast_ofNat_Int, Int.reduceLT, Int.reduceLE, Int.reduceEq, Int.reduceNeg, Int.reduceAdd, Int.reduceSub, f0, f9, f10, f11, c1, ci, hb, d1, d2, hw1, Int.toNat_natCast, h]))
        exact ih (i + 1) _ hr (by simp only [FrAt_cons, FrAt_nil, wFr, Nat.reduceEqDiff, Nat.one_ne_zero, Nat.zero_ne_one, reduceIte, and_self, and_true, true_and, f0, f9, f10]) (fun h => h1 (by simp [hg, h])) (fun h => h2 (by simp [hg, h]))
theorem room1 {n : Nat} (h : n ≤ 10000000) : room n 1 = true := by
  unfold room
  exact decide_eq_true ⟨by omega, by omega⟩
/-- What parseNumber answers. -/
def pnV (v : Int) (t : List UInt8) : PV := match numO t with
  | some u => .tup [.t (.int .u64 u), .t (.bool true)]
  | none => .tup [.t (.int .u64 v), .t (.bool false)]
theorem ok87 (G : GlK gl) {t : List UInt8} (ht : t.length ≤ 10000000) : ∃ v : Int, ∀ {K : PV → Prop}, XcP F gl 87 [.str t] K ⟨⟩ ↔ K (pnV v t) := by
  have hro := room1 ht
  cases ha : t.all isDg with
  | false =>
    have hn : numO t = none := by rw [numO, if_neg (by simp [ha])]
    refine ⟨0, fun {K} => ?_⟩
    rw [pnV, hn]
    refine Ret.iff (Ret.of F87 rfl ?_)
    simp only [ir87]
    simp only [wCo, wFr, wOp, wBi, wLst, wLog, xB_other, Nat.reduceBEq, unT, loadP, storeP, partP, partT, partV, cellsP, mkAgg, allT, setRange, fillP, fieldA, indexS, indexA, indexV, indexStr, elems, lenP, pickV, cviV, nckV, extV, isNil, bound, close, close1, aft, retV, retSl, Go.Pi.one, eqT, eqs, eq1, Nat.reduceEqDiff, Nat.reduceAdd, Nat.reduceSub, Nat.reduceMul, Nat.reduceLeDiff, Nat.reduceLT, Nat.one_ne_zero, Nat.zero_ne_one, reduceIte, reduceCtorEq, bne_self_eq_false, decide_true, decide_false, Int.reduceToNat, Int.cast_ofNat_Int, Int.reduceLT, Int.reduceLE, Int.reduceEq, Int.reduceNeg, Int.reduceAdd, Int.reduceSub, cvbV, hro, bytes_len]
    repeat' ((with_reducible first | refine xG_dec ?_ ?_ | refine xG_ndec ?_ ?_ | refine xG_nsplit ?_ ?_ | refine xG_split ?_ ?_ | refine xC_dec ?_ ?_ | refine xC_ndec ?_ ?_ | refine xC_nsplit ?_ ?_ | refine xC_split ?_ ?_) <;> intro h <;> (try simp only [wCo, wFr, wOp, wBi, wLst, wLog, xB_other, Nat.reduceBEq, unT, loadP, storeP, partP, partT, partV, cellsP, mkAgg, allT, setRange, fillP, fieldA, indexS, indexA, indexV, indexStr, elems, lenP, pickV, cviV, nckV, extV, isNil, bound, close, close1, aft, retV, retSl, Go.Pi.one, eqT, eqs, eq1, Nat.reduceEqDiff, Nat.reduceAdd, Nat.reduceSub, Nat.reduceMul, Nat.reduceLeDiff, Nat.reduceLT, Nat.one_ne_zero, Nat.zero_ne_one, reduceIte, reduceCtorEq, bne_self_eq_false, decide_true, decide_false, Int.reduceToNat, Int.cast_ofNat_Int, Int.reduceLT, Int.reduceLE, Int.reduceEq, Int.reduceNeg, Int.reduceAdd, Int.reduceSub, cvbV, hro, bytes_len, h]))
    refine loop87 t ht _ _ _ t 0 _ rfl ?_ ?_ ?_
    · simp only [FrAt_cons, FrAt_nil, wFr, Nat.reduceEqDiff, Nat.one_ne_zero, Nat.zero_ne_one, reduceIte, and_self, and_true, true_and] <;> try simp
    · intro h; rw [ha] at h; cases h
    · intro _ fr' hf'
      simp only [FrAt_cons, FrAt_nil] at hf'
      obtain ⟨g2, g3, -⟩ := hf'
      simp only [wCo, wFr, wOp, wBi, wLst, wLog, xB_other, Nat.reduceBEq, unT, loadP, storeP, partP, partT, partV, cellsP, mkAgg, allT, setRange, fillP, fieldA, indexS, indexA, indexV, indexStr, elems, lenP, pickV, cviV, nckV, extV, isNil, bound, close, close1, aft, retV, retSl, Go.Pi.one, eqT, eqs, eq1, Nat.reduceEqDiff, Nat.reduceAdd, Nat.reduceSub, Nat.reduceMul, Nat.reduceLeDiff, Nat.reduceLT, Nat.one_ne_zero, Nat.zero_ne_one, reduceIte, reduceCtorEq, bne_self_eq_false, decide_true, decide_false, Int.reduceToNat, Int.cast_ofNat_Int, Int.reduceLT, Int.reduceLE, Int.reduceEq, Int.reduceNeg, Int.reduceAdd, Int.reduceSub, g2, g3]
      repeat' ((with_reducible first | refine xG_dec ?_ ?_ | refine xG_ndec ?_ ?_ | refine xG_nsplit ?_ ?_ | refine xG_split ?_ ?_ | refine xC_dec ?_ ?_ | refine xC_ndec ?_ ?_ | refine xC_nsplit ?_ ?_ | refine xC_split ?_ ?_) <;> intro h <;> (try simp only [wCo, wFr, wOp, wBi, wLst, wLog, xB_other, Nat.reduceBEq, unT, loadP, storeP, partP, partT, partV, cellsP, mkAgg, allT, setRange, fillP, fieldA, indexS, indexA, indexV, indexStr, elems, lenP, pickV, cviV, nckV, extV, isNil, bound, close, close1, aft, retV, retSl, Go.Pi.one, eqT, eqs, eq1, Nat.reduceEqDiff, Nat.reduceAdd, Nat.reduceSub, Nat.reduceMul, Nat.reduceLeDiff, Nat.reduceLT, Nat.one_ne_zero, Nat.zero_ne_one, reduceIte, reduceCtorEq, bne_self_eq_false, decide_true, decide_false, Int.reduceToNat, Int.cast_ofNat_Int, Int.reduceLT, Int.reduceLE, Int.reduceEq, Int.reduceNeg, Int.reduceAdd, Int.reduceSub, g2, g3, h]))
  | true =>
    by_cases hz : 1 < t.length ∧ t.head? = some 48
    · have hn : numO t = none := by rw [numO, if_pos ha, if_pos hz]
      refine ⟨0, fun {K} => ?_⟩
      rw [pnV, hn]
      refine Ret.iff (Ret.of F87 rfl ?_)
      simp only [ir87]
      simp only [wCo, wFr, wOp, wBi, wLst, wLog, xB_other, Nat.reduceBEq, unT, loadP, storeP, partP, partT, partV, cellsP, mkAgg, allT, setRange, fillP, fieldA, indexS, indexA, indexV, indexStr, elems, lenP, pickV, cviV, nckV, extV, isNil, bound, close, close1, aft, retV, retSl, Go.Pi.one, eqT, eqs, eq1, Nat.reduceEqDiff, Nat.reduceAdd, Nat.reduceSub, Nat.reduceMul, Nat.reduceLeDiff, Nat.reduceLT, Nat.one_ne_zero, Nat.zero_ne_one, reduceIte, reduceCtorEq, bne_self_eq_false, decide_true, decide_false, Int.reduceToNat, Int.cast_ofNat_Int, Int.reduceLT, Int.reduceLE, Int.reduceEq, Int.reduceNeg, Int.reduceAdd, Int.reduceSub, cvbV, hro, bytes_len]
      repeat' ((with_reducible first | refine xG_dec ?_ ?_ | refine xG_ndec ?_ ?_ | refine xG_nsplit ?_ ?_ | refine xG_split ?_ ?_ | refine xC_dec ?_ ?_ | refine xC_ndec ?_ ?_ | refine xC_nsplit ?_ ?_ | refine xC_split ?_ ?_) <;> intro h <;> (try simp only [wCo, wFr, wOp, wBi, wLst, wLog, xB_other, Nat.reduceBEq, unT, loadP, storeP, partP, partT, partV, cellsP, mkAgg, allT, setRange, fillP, fieldA, indexS, indexA, indexV, indexStr, elems, lenP, pickV, cviV, nckV, extV, isNil, bound, close, close1, aft, retV, retSl, Go.Pi.one, eqT, eqs, eq1, Nat.reduceEqDiff, Nat.reduceAdd, Nat.reduceSub, Nat.reduceMul, Nat.reduceLeDiff, Nat.reduceLT, Nat.one_ne_zero, Nat.zero_ne_one, reduceIte, reduceCtorEq, bne_self_eq_false, decide_true, decide_false, Int.reduceToNat, Int.cast_ofNat_Int, Int.reduceLT, Int.reduceLE, Int.reduceEq, Int.reduceNeg, Int.reduceAdd, Int.reduceSub, cvbV, hro, bytes_len, h]))
      refine loop87 t ht _ _ _ t 0 _ rfl ?_ ?_ ?_
      · simp only [FrAt_cons, FrAt_nil, wFr, Nat.reduceEqDiff, Nat.one_ne_zero, Nat.zero_ne_one, reduceIte, and_self, and_true, true_and] <;> try simp
      · intro _ fr' hf'
        simp only [FrAt_cons, FrAt_nil] at hf'
        obtain ⟨g0, -⟩ := hf'
        have c1 : (1 : Int) < (t.length : Int) := by omega
        have c2 : t[0]? = some 48 := by rw [← List.head?_eq_getElem?]; exact hz.2
        have c48 : ((48 : UInt8).toNat : Int) = 48 := rfl
        simp only [wCo, wFr, wOp, wBi, wLst, wLog, xB_other, Nat.reduceBEq, unT, loadP, storeP, partP, partT, partV, cellsP, mkAgg, allT, setRange, fillP, fieldA, indexS, indexA, indexV, indexStr, elems, lenP, pickV, cviV, nckV, extV, isNil, bound, close, close1, aft, retV, retSl, Go.Pi.one, eqT, eqs, eq1, Nat.reduceEqDiff, Nat.reduceAdd, Nat.reduceSub, Nat.reduceMul, Nat.reduceLeDiff, Nat.reduceLT, Nat.one_ne_zero, Nat.zero_ne_one, reduceIte, reduceCtorEq, bne_self_eq_false, decide_true, decide_false, Int.reduceToNat, Int.cast_ofNat_Int, Int.reduceLT, Int.reduceLE, Int.reduceEq, Int.reduceNeg, Int.reduceAdd, Int.reduceSub, g0, c1, c2, c48, Int.toNat_zero]
        repeat' ((with_reducible first | refine xG_dec ?_ ?_ | refine xG_ndec ?_ ?_ | refine xG_nsplit ?_ ?_ | refine xG_split ?_ ?_ | refine xC_dec ?_ ?_ | refine xC_ndec ?_ ?_ | refine xC_nsplit ?_ ?_ | refine xC_split ?_ ?_) <;> intro h <;> (try simp only [wCo, wFr, wOp, wBi, wLst, wLog, xB_other, Nat.reduceBEq, unT, loadP, storeP, partP, partT, partV, cellsP, mkAgg, allT, setRange, fillP, fieldA, indexS, indexA, indexV, indexStr, elems, lenP, pickV, cviV, nckV, extV, isNil, bound, close, close1, aft, retV, retSl, Go.Pi.one, eqT, eqs, eq1, Nat.reduceEqDiff, Nat.reduceAdd, Nat.reduceSub, Nat.reduceMul, Nat.reduceLeDiff, Nat.reduceLT, Nat.one_ne_zero, Nat.zero_ne_one, reduceIte, reduceCtorEq, bne_self_eq_false, decide_true, decide_false, Int.reduceToNat, Int.cast_ofNat_Int, Int.reduceLT, Int.reduceLE, Int.reduceEq, Int.reduceNeg, Int.reduceAdd, Int.reduceSub, g0, c1, c2, c48, Int.toNat_zero, h]))
      · intro h; rw [ha] at h; cases h
    · have hn : numO t = puO t := by rw [numO, if_pos ha, if_neg hz]
      have go : ∀ (x : PV) (v : Int) (o : T) (q : Bool), xfun gl 28773 [.str t, .int .i64 10, .int .i64 64] = some (.tup [.t (.int .u64 v), .t o]) → isNil 2 (.t o) = some q → x = .tup [.t (.int .u64 v), .t (.bool q)] → ∀ {K : PV → Prop}, XcP F gl 87 [.str t] K ⟨⟩ ↔ K x := by
        intro x v o q hx ho he K
        subst he
        refine Ret.iff (Ret.of F87 rfl ?_)
        simp only [ir87]
        simp only [wCo, wFr, wOp, wBi, wLst, wLog, xB_other, Nat.reduceBEq, unT, loadP, storeP, partP, partT, partV, cellsP, mkAgg, allT, setRange, fillP, fieldA, indexS, indexA, indexV, indexStr, elems, lenP, pickV, cviV, nckV, extV, isNil, bound, close, close1, aft, retV, retSl, Go.Pi.one, eqT, eqs, eq1, Nat.reduceEqDiff, Nat.reduceAdd, Nat.reduceSub, Nat.reduceMul, Nat.reduceLeDiff, Nat.reduceLT, Nat.one_ne_zero, Nat.zero_ne_one, reduceIte, reduceCtorEq, bne_self_eq_false, decide_true, decide_false, Int.reduceToNat, Int.cast_ofNat_Int, Int.reduceLT, Int.reduceLE, Int.reduceEq, Int.reduceNeg, Int.reduceAdd, Int.reduceSub, cvbV, hro, bytes_len]
        repeat' ((with_reducible first | refine xG_dec ?_ ?_ | refine xG_ndec ?_ ?_ | refine xG_nsplit ?_ ?_ | refine xG_split ?_ ?_ | refine xC_dec ?_ ?_ | refine xC_ndec ?_ ?_ | refine xC_nsplit ?_ ?_ | refine xC_split ?_ ?_) <;> intro h <;> (try simp only [wCo, wFr, wOp, wBi, wLst, wLog, xB_other, Nat.reduceBEq, unT, loadP, storeP, partP, partT, partV, cellsP, mkAgg, allT, setRange, fillP, fieldA, indexS, indexA, indexV, indexStr, elems, lenP, pickV, cviV, nckV, extV, isNil, bound, close, close1, aft, retV, retSl, Go.Pi.one, eqT, eqs, eq1, Nat.reduceEqDiff, Nat.reduceAdd, Nat.reduceSub, Nat.reduceMul, Nat.reduceLeDiff, Nat.reduceLT, Nat.one_ne_zero, Nat.zero_ne_one, reduceIte, reduceCtorEq, bne_self_eq_false, decide_true, decide_false, Int.reduceToNat, Int.cast_ofNat_Int, Int.reduceLT, Int.reduceLE, Int.reduceEq, Int.reduceNeg, Int.reduceAdd, Int.reduceSub, cvbV, hro, bytes_len, h]))
        refine loop87 t ht _ _ _ t 0 _ rfl ?_ ?_ ?_
        · simp only [FrAt_cons, FrAt_nil, wFr, Nat.reduceEqDiff, Nat.one_ne_zero, Nat.zero_ne_one, reduceIte, and_self, and_true, true_and] <;> try simp
        · intro _ fr' hf'
          simp only [FrAt_cons, FrAt_nil] at hf'
          obtain ⟨g0, -⟩ := hf'
          by_cases c1 : (1 : Int) < (t.length : Int)
          · have hh : ¬ t.head? = some 48 := fun e => hz ⟨by omega, e⟩
            cases t with
            | nil => simp at c1
            | cons c r =>
              have c2 : (c :: r)[0]? = some c := rfl
              have c3 : ¬ ((c.toNat : Int) = 48) := by
                intro e
                apply hh
                have : c = 48 := UInt8.toNat_inj.1 (by have h48 : (48 : UInt8).toNat = 48 := rfl; omega)
                rw [this]
                rfl
              cases o <;> simp only [isNil, Option.some.injEq, reduceCtorEq] at ho <;> subst ho <;> ((simp only [wCo, wFr, wOp, wBi, wLst, wLog, xB_other, Nat.reduceBEq, unT, loadP, storeP, partP, partT, partV, cellsP, mkAgg, allT, setRange, fillP, fieldA, indexS, indexA, indexV, indexStr, elems, lenP, pickV, cviV, nckV, extV, isNil, bound, close, close1, aft, retV, retSl, Go.Pi.one, eqT, eqs, eq1, Nat.reduceEqDiff, Nat.reduceAdd, Nat.reduceSub, Nat.reduceMul, Nat.reduceLeDiff, Nat.reduceLT, Nat.one_ne_zero, Nat.zero_ne_one, reduceIte, reduceCtorEq, bne_self_eq_false, decide_true, decide_false, Int.reduceToNat, Int.cast_ofNat_Int, Int.reduceLT, Int.reduceLE, Int.reduceEq, Int.reduceNeg, Int.reduceAdd, Int.reduceSub, g0, c1, c2, c3, hx, Int.toNat_zero]); (repeat' ((with_reducible first | refine xG_dec ?_ ?_ | refine xG_ndec ?_ ?_ | refine xG_nsplit ?_ ?_ | refine xG_split ?_ ?_ | refine xC_dec ?_ ?_ | refine xC_ndec ?_ ?_ | refine xC_nsplit ?_ ?_ | refine xC_split ?_ ?_) <;> intro h <;> (try simp only [wCo, wFr, wOp, wBi, wLst, wLog, xB_other, Nat.reduceBEq, unT, loadP, storeP, partP, partT, partV, cellsP, mkAgg, allT, setRange, fillP, fieldA, indexS, indexA, indexV, indexStr, elems, lenP, pickV, cviV, nckV, extV, isNil, bound, close, close1, aft, retV, retSl, Go.Pi.one, eqT, eqs, eq1, Nat.reduceEqDiff, Nat.reduceAdd, Nat.reduceSub, Nat.reduceMul, Nat.reduceLeDiff, Nat.reduceLT, Nat.one_ne_zero, Nat.zero_ne_one, reduceIte, reduceCtorEq, bne_self_eq_false, decide_true, decide_false, Int.reduceToNat, Int.cast_ofNat_Int, Int.reduceLT, Int.reduceLE, Int.reduceEq, Int.reduceNeg, Int.reduceAdd, Int.reduceSub, g0, c1, c2, c3, hx, Int.toNat_zero, h]))))
          · cases o <;> simp only [isNil, Option.some.injEq, reduceCtorEq] at ho <;> subst ho <;> ((simp only [wCo, wFr, wOp, wBi, wLst, wLog, xB_other, Nat.reduceBEq, unT, loadP, storeP, partP, partT, partV, cellsP, mkAgg, allT, setRange, fillP, fieldA, indexS, indexA, indexV, indexStr, elems, lenP, pickV, cviV, nckV, extV, isNil, bound, close, close1, aft, retV, retSl, Go.Pi.one, eqT, eqs, eq1, Nat.reduceEqDiff, Nat.reduceAdd, Nat.reduceSub, Nat.reduceMul, Nat.reduceLeDiff, Nat.reduceLT, Nat.one_ne_zero, Nat.zero_ne_one, reduceIte, reduceCtorEq, bne_self_eq_false, decide_true, decide_false, Int.reduceToNat, Int.cast_ofNat_Int, Int.reduceLT, Int.reduceLE, Int.reduceEq, Int.reduceNeg, Int.reduceAdd, Int.reduceSub, g0, c1, hx]); (repeat' ((with_reducible first | refine xG_dec ?_ ?_ | refine xG_ndec ?_ ?_ | refine xG_nsplit ?_ ?_ | refine xG_split ?_ ?_ | refine xC_dec ?_ ?_ | refine xC_ndec ?_ ?_ | refine xC_nsplit ?_ ?_ | refine xC_split ?_ ?_) <;> intro h <;> (try simp only [wCo, wFr, wOp, wBi, wLst, wLog, xB_other, Nat.reduceBEq, unT, loadP, storeP, partP, partT, partV, cellsP, mkAgg, allT, setRange, fillP, fieldA, indexS, indexA, indexV, indexStr, elems, lenP, pickV, cviV, nckV, extV, isNil, bound, close, close1, aft, retV, retSl, Go.Pi.one, eqT, eqs, eq1, Nat.reduceEqDiff, Nat.reduceAdd, Nat.reduceSub, Nat.reduceMul, Nat.reduceLeDiff, Nat.reduceLT, Nat.one_ne_zero, Nat.zero_ne_one, reduceIte, reduceCtorEq, bne_self_eq_false, decide_true, decide_false, Int.reduceToNat, Int.cast_ofNat_Int, Int.reduceLT, Int.reduceLE, Int.reduceEq, Int.reduceNeg, Int.reduceAdd, Int.reduceSub, g0, c1, hx, h]))))
        · intro h; rw [ha] at h; cases h
      cases hp : puO t with
      | some u =>
        refine ⟨0, ?_⟩
        exact go _ u .nif true (xPu_ok G ht hp) rfl (by rw [pnV, hn, hp])
      | none =>
        obtain ⟨v, hx⟩ := xPu_no G ht hp
        refine ⟨v, ?_⟩
        exact go _ v .ifx false hx rfl (by rw [pnV, hn, hp])
end
end Go.Proofs.YtbkphlhmbllbiaaDoor
