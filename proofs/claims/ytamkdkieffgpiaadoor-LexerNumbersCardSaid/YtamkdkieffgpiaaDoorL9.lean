/- LexerNumbers in the small language. -/
import Derived.Test.YtamkdkieffgpiaaDoorL7
set_option maxRecDepth 10000
set_option linter.unusedVariables false
set_option linter.unusedSimpArgs false
namespace Go.Proofs.YtamkdkieffgpiaaDoor
open Go.Pi Go.Lx
variable {gl : Nat → Option (List T)}

theorem enc_dig : ∀ d : Fin 10, (Utf8.encode ((48 + d.1 : Nat) : Int)).data.toList = [UInt8.ofNat (48 + d.1)] := by decide +kernel
theorem loop8z {A B : PV} {tx : List UInt8} (hne : ¬ tx = []) {fr : List PV} {sg : Sg} {ow : Ow} (Q : Ex → S → Prop)
    (hf : FrAt fr [(0, A), (1, B), (5, .t (.str tx)), (6, .t (.int .u64 0))])
    (h1 : ∀ fr', FrAt fr' [(0, A), (1, B), (5, .t (.str tx))] → Q (.exit 0) ⟨fr', sg, ow⟩) : Xl F gl lb8_1 ⟨fr, sg, ow⟩ Q ⟨⟩ := by
  simp only [FrAt_cons, FrAt_nil] at hf
  obtain ⟨f0, f1, f5, f6, -⟩ := hf
  refine Xl.step ?_
  simp only [lb8_1]
  simp only [wCo, wFr, wOp, wBi, wLst, wLog, xB_other, Nat.reduceBEq, unT, loadP, storeP, partP, partT, partV, cellsP, mkAgg, allT, setRange, fillP, fieldA, indexS, indexA, indexV, indexStr, elems, lenP, pickV, cviV, nckV, extV, isNil, bound, close, close1, aft, retV, retSl, one, eqT, eqs, eq1, Nat.reduceEqDiff, Nat.reduceAdd, Nat.reduceSub, Nat.reduceMul, Nat.reduceLeDiff, Nat.reduceLT, Nat.one_ne_zero, Nat.zero_ne_one, reduceIte, reduceCtorEq, bne_self_eq_false, decide_true, decide_false, Int.reduceToNat, Int.cast_ofNat_Int, Int.reduceLT, Int.reduceLE, Int.reduceEq, Int.reduceNeg, Int.reduceAdd, Int.reduceSub, f0, f1, f5, f6, hne]
  repeat' ((with_reducible first | refine xG_dec ?_ ?_ | refine xG_ndec ?_ ?_ | refine xG_nsplit ?_ ?_ | refine xG_split ?_ ?_ | refine xC_dec ?_ ?_ | refine xC_ndec ?_ ?_ | refine xC_nsplit ?_ ?_ | refine xC_split ?_ ?_) <;> intro h <;> (try simp only [wCo, wFr, wOp, wBi, wLst, wLog, xB_other, Nat.reduceBEq, unT, loadP, storeP, partP, partT, partV, cellsP, mkAgg, allT, setRange, fillP, fieldA, indexS, indexA, indexV, indexStr, elems, lenP, pickV, cviV, nckV, extV, isNil, bound, close, close1, aft, retV, retSl, one, eqT, eqs, eq1, Nat.reduceEqDiff, Nat.reduceAdd, Nat.reduceSub, Nat.reduceMul, Nat.reduceLeDiff, Nat.reduceLT, Nat.one_ne_zero, Nat.zero_ne_one, reduceIte, reduceCtorEq, bne_self_eq_false, decide_true, decide_false, Int.reduceToNat, Int.cast_ofNat_Int, Int.reduceLT, Int.reduceLE, Int.reduceEq, Int.reduceNeg, Int.reduceAdd, Int.reduceSub, f0, f1, f5, f6, hne, h]))
  exact h1 _ (by simp only [FrAt_cons, FrAt_nil, wFr, Nat.reduceEqDiff, Nat.one_ne_zero, Nat.zero_ne_one, reduceIte, and_self, and_true, true_and, f0, f1, f5])
theorem loop8 {A B : PV} {sg : Sg} {ow : Ow} (Q : Ex → S → Prop) : ∀ (x : Nat) (tx : List UInt8) (fr : List PV), x ≤ 18446744073709551615 → (0 < x ∨ tx = []) → tx.length + (decD x).length ≤ 100 →
    FrAt fr [(0, A), (1, B), (5, .t (.str tx)), (6, .t (.int .u64 x))] →
    (∀ fr', FrAt fr' [(0, A), (1, B), (5, .t (.str (decD x ++ tx)))] → Q (.exit 0) ⟨fr', sg, ow⟩) → Xl F gl lb8_1 ⟨fr, sg, ow⟩ Q ⟨⟩ := by
  intro x
  induction x using Nat.strongRecOn with
  | _ x ih =>
    intro tx fr hx hxt hlen hf h1
    simp only [FrAt_cons, FrAt_nil] at hf
    obtain ⟨f0, f1, f5, f6, -⟩ := hf
    have w1 : (x : Int).tmod 10 = ((x % 10 : Nat) : Int) := by rw [show (10 : Int) = ((10 : Nat) : Int) from rfl, Int.ofNat_tmod]
    have w2 : IntKind.wrap .u64 (48 + ((x % 10 : Nat) : Int)) = ((48 + x % 10 : Nat) : Int) := by rw [IntWalk.u64_in _ (by omega)]; omega
    have w3 : IntKind.wrap .i32 ((48 + x % 10 : Nat) : Int) = ((48 + x % 10 : Nat) : Int) := IntWalk.i32_in _ (by omega)
    have w4 : IntKind.wrap .u64 ((x : Int).tdiv 10) = ((x / 10 : Nat) : Int) := by
      rw [show (10 : Int) = ((10 : Nat) : Int) from rfl, ← Int.ofNat_tdiv, IntWalk.u64_in _ (by omega)]
    have e : (Utf8.encode ((48 + x % 10 : Nat) : Int)).data.toList = [UInt8.ofNat (48 + x % 10)] := enc_dig ⟨x % 10, by omega⟩
    have k1 : 1 + tx.length ≤ 4611686018427387904 := by omega
    have k0 : tx.length ≤ 4611686018427387903 := by omega
    have fin : ∀ fr2, FrAt fr2 [(0, A), (1, B), (5, .t (.str (UInt8.ofNat (48 + x % 10) :: tx))), (6, .t (.int .u64 ((x / 10 : Nat) : Int)))] → Xl F gl lb8_1 ⟨fr2, sg, ow⟩ Q ⟨⟩ := by
      intro fr2 hf2
      by_cases hs : x < 10
      · have q : x / 10 = 0 := by omega
        rw [q] at hf2
        refine loop8z (tx := UInt8.ofNat (48 + x % 10) :: tx) (by simp) Q hf2 fun fr' hf' => h1 fr' ?_
        rw [show x % 10 = x by omega] at hf'
        rw [decD_small hs]
        exact hf'
      · have hb := decD_big hs
        refine ih (x / 10) (by omega) (UInt8.ofNat (48 + x % 10) :: tx) fr2 (by omega) (.inl (by omega)) ?_ hf2 fun fr' hf' => h1 fr' ?_
        · rw [hb] at hlen; simp at hlen ⊢; omega
        · rw [hb, List.append_assoc]; exact hf'
    refine Xl.step ?_
    simp only [lb8_1]
    by_cases hx0 : (0 : Int) < (x : Int)
    · simp only [wCo, wFr, wOp, wBi, wLst, wLog, xB_other, Nat.reduceBEq, unT, loadP, storeP, partP, partT, partV, cellsP, mkAgg, allT, setRange, fillP, fieldA, indexS, indexA, indexV, indexStr, elems, lenP, pickV, cviV, nckV, extV, isNil, bound, close, close1, aft, retV, retSl, one, eqT, eqs, eq1, Nat.reduceEqDiff, Nat.reduceAdd, Nat.reduceSub, Nat.reduceMul, Nat.reduceLeDiff, Nat.reduceLT, Nat.one_ne_zero, Nat.zero_ne_one, reduceIte, reduceCtorEq, bne_self_eq_false, decide_true, decide_false, Int.reduceToNat, Int.cast_ofNat_Int, Int.reduceLT, Int.reduceLE, Int.reduceEq, Int.reduceNeg, Int.reduceAdd, Int.reduceSub, f0, f1, f5, f6, hx0, w1, w2, w3, w4, e, k0, k1, cvrV, cviV]
      repeat' ((with_reducible first | refine xG_dec ?_ ?_ | refine xG_ndec ?_ ?_ | refine xG_nsplit ?_ ?_ | refine xG_split ?_ ?_ | refine xC_dec ?_ ?_ | refine xC_ndec ?_ ?_ | refine xC_nsplit ?_ ?_ | refine xC_split ?_ ?_) <;> intro h <;> (try simp only [wCo, wFr, wOp, wBi, wLst, wLog, xB_other, Nat.reduceBEq, unT, loadP, storeP, partP, partT, partV, cellsP, mkAgg, allT, setRange, fillP, fieldA, indexS, indexA, indexV, indexStr, elems, lenP, pickV, cviV, nckV, extV, isNil, bound, close, close1, aft, retV, retSl, one, eqT, eqs, eq1, Nat.reduceEqDiff, Nat.reduceAdd, Nat.reduceSub, Nat.reduceMul, Nat.reduceLeDiff, Nat.reduceLT, Nat.one_ne_zero, Nat.zero_ne_one, reduceIte, reduceCtorEq, bne_self_eq_false, decide_true, decide_false, Int.reduceToNat, Int.cast_ofNat_Int, Int.reduceLT, Int.reduceLE, Int.reduceEq, Int.reduceNeg, Int.reduceAdd, Int.reduceSub, f0, f1, f5, f6, hx0, w1, w2, w3, w4, e, k0, k1, cvrV, cviV, h]))
      exact fin _ (by simp only [FrAt_cons, FrAt_nil, wFr, Nat.reduceEqDiff, Nat.one_ne_zero, Nat.zero_ne_one, reduceIte, and_self, and_true, true_and, f0, f1])
    · have hte : tx = [] := by
        rcases hxt with h | h
        · omega
        · exact h
      subst hte
      simp only [wCo, wFr, wOp, wBi, wLst, wLog, xB_other, Nat.reduceBEq, unT, loadP, storeP, partP, partT, partV, cellsP, mkAgg, allT, setRange, fillP, fieldA, indexS, indexA, indexV, indexStr, elems, lenP, pickV, cviV, nckV, extV, isNil, bound, close, close1, aft, retV, retSl, one, eqT, eqs, eq1, Nat.reduceEqDiff, Nat.reduceAdd, Nat.reduceSub, Nat.reduceMul, Nat.reduceLeDiff, Nat.reduceLT, Nat.one_ne_zero, Nat.zero_ne_one, reduceIte, reduceCtorEq, bne_self_eq_false, decide_true, decide_false, Int.reduceToNat, Int.cast_ofNat_Int, Int.reduceLT, Int.reduceLE, Int.reduceEq, Int.reduceNeg, Int.reduceAdd, Int.reduceSub, f0, f1, f5, f6, hx0, w1, w2, w3, w4, e, k0, k1, cvrV, cviV]
      repeat' ((with_reducible first | refine xG_dec ?_ ?_ | refine xG_ndec ?_ ?_ | refine xG_nsplit ?_ ?_ | refine xG_split ?_ ?_ | refine xC_dec ?_ ?_ | refine xC_ndec ?_ ?_ | refine xC_nsplit ?_ ?_ | refine xC_split ?_ ?_) <;> intro h <;> (try simp only [wCo, wFr, wOp, wBi, wLst, wLog, xB_other, Nat.reduceBEq, unT, loadP, storeP, partP, partT, partV, cellsP, mkAgg, allT, setRange, fillP, fieldA, indexS, indexA, indexV, indexStr, elems, lenP, pickV, cviV, nckV, extV, isNil, bound, close, close1, aft, retV, retSl, one, eqT, eqs, eq1, Nat.reduceEqDiff, Nat.reduceAdd, Nat.reduceSub, Nat.reduceMul, Nat.reduceLeDiff, Nat.reduceLT, Nat.one_ne_zero, Nat.zero_ne_one, reduceIte, reduceCtorEq, bne_self_eq_false, decide_true, decide_false, Int.reduceToNat, Int.cast_ofNat_Int, Int.reduceLT, Int.reduceLE, Int.reduceEq, Int.reduceNeg, Int.reduceAdd, Int.reduceSub, f0, f1, f5, f6, hx0, w1, w2, w3, w4, e, k0, k1, cvrV, cviV, h]))
      exact fin _ (by simp only [FrAt_cons, FrAt_nil, wFr, Nat.reduceEqDiff, Nat.one_ne_zero, Nat.zero_ne_one, reduceIte, and_self, and_true, true_and, f0, f1])
theorem loop8b {c : Nat} (hc : c ≤ 10) {sg : Sg} {ow : Ow} (Q : Ex → S → Prop) : ∀ (k i : Nat) (tx : List UInt8) (fr : List PV), i + k = c → tx.length ≤ 1000 + i →
    FrAt fr [(5, .t (.str tx)), (56, .t (.int .u8 c)), (57, .t (.int .u8 i))] →
    (∀ fr', FrAt fr' [(5, .t (.str (List.replicate k 48 ++ tx)))] → Q (.exit 2) ⟨fr', sg, ow⟩) → Xl F gl lb8_0 ⟨fr, sg, ow⟩ Q ⟨⟩ := by
  intro k
  induction k with
  | zero =>
    intro i tx fr hi ht hf h1
    simp only [FrAt_cons, FrAt_nil] at hf
    obtain ⟨f5, f56, f57, -⟩ := hf
    refine Xl.step ?_
    simp only [lb8_0]
    have c1 : ¬ ((i : Int) < (c : Int)) := by omega
    simp only [wCo, wFr, wOp, wBi, wLst, wLog, xB_other, Nat.reduceBEq, unT, loadP, storeP, partP, partT, partV, cellsP, mkAgg, allT, setRange, fillP, fieldA, indexS, indexA, indexV, indexStr, elems, lenP, pickV, cviV, nckV, extV, isNil, bound, close, close1, aft, retV, retSl, one, eqT, eqs, eq1, Nat.reduceEqDiff, Nat.reduceAdd, Nat.reduceSub, Nat.reduceMul, Nat.reduceLeDiff, Nat.reduceLT, Nat.one_ne_zero, Nat.zero_ne_one, reduceIte, reduceCtorEq, bne_self_eq_false, decide_true, decide_false, Int.reduceToNat, Int.cast_ofNat_Int, Int.reduceLT, Int.reduceLE, Int.reduceEq, Int.reduceNeg, Int.reduceAdd, Int.reduceSub, f5, f56, f57, c1]
    repeat' ((with_reducible first | refine xG_dec ?_ ?_ | refine xG_ndec ?_ ?_ | refine xG_nsplit ?_ ?_ | refine xG_split ?_ ?_ | refine xC_dec ?_ ?_ | refine xC_ndec ?_ ?_ | refine xC_nsplit ?_ ?_ | refine xC_split ?_ ?_) <;> intro h <;> (try simp only [wCo, wFr, wOp, wBi, wLst, wLog, xB_other, Nat.reduceBEq, unT, loadP, storeP, partP, partT, partV, cellsP, mkAgg, allT, setRange, fillP, fieldA, indexS, indexA, indexV, indexStr, elems, lenP, pickV, cviV, nckV, extV, isNil, bound, close, close1, aft, retV, retSl, one, eqT, eqs, eq1, Nat.reduceEqDiff, Nat.reduceAdd, Nat.reduceSub, Nat.reduceMul, Nat.reduceLeDiff, Nat.reduceLT, Nat.one_ne_zero, Nat.zero_ne_one, reduceIte, reduceCtorEq, bne_self_eq_false, decide_true, decide_false, Int.reduceToNat, Int.cast_ofNat_Int, Int.reduceLT, Int.reduceLE, Int.reduceEq, Int.reduceNeg, Int.reduceAdd, Int.reduceSub, f5, f56, f57, c1, h]))
    exact h1 _ (by simp only [FrAt_cons, FrAt_nil, wFr, Nat.reduceEqDiff, Nat.one_ne_zero, Nat.zero_ne_one, reduceIte, and_self, and_true, true_and, f5, List.replicate_zero, List.nil_append])
  | succ k ih =>
    intro i tx fr hi ht hf h1
    simp only [FrAt_cons, FrAt_nil] at hf
    obtain ⟨f5, f56, f57, -⟩ := hf
    refine Xl.step ?_
    simp only [lb8_0]
    have c1 : (i : Int) < (c : Int) := by omega
    have w1 : IntKind.wrap .u8 ((i : Int) + 1) = ((i + 1 : Nat) : Int) := by rw [IntWalk.u8_in _ (by omega)]; omega
    have k1 : 1 + tx.length ≤ 4611686018427387904 := by omega
    have k0 : tx.length ≤ 4611686018427387903 := by omega
    simp only [wCo, wFr, wOp, wBi, wLst, wLog, xB_other, Nat.reduceBEq, unT, loadP, storeP, partP, partT, partV, cellsP, mkAgg, allT, setRange, fillP, fieldA, indexS, indexA, indexV, indexStr, elems, lenP, pickV, cviV, nckV, extV, isNil, bound, close, close1, aft, retV, retSl, one, eqT, eqs, eq1, Nat.reduceEqDiff, Nat.reduceAdd, Nat.reduceSub, Nat.reduceMul, Nat.reduceLeDiff, Nat.reduceLT, Nat.one_ne_zero, Nat.zero_ne_one, reduceIte, reduceCtorEq, bne_self_eq_false, decide_true, decide_false, Int.reduceToNat, Int.cast_ofNat_Int, Int.reduceLT, Int.reduceLE, Int.reduceEq, Int.reduceNeg, Int.reduceAdd, Int.reduceSub, f5, f56, f57, c1, w1, k0, k1]
    repeat' ((with_reducible first | refine xG_dec ?_ ?_ | refine xG_ndec ?_ ?_ | refine xG_nsplit ?_ ?_ | refine xG_split ?_ ?_ | refine xC_dec ?_ ?_ | refine xC_ndec ?_ ?_ | refine xC_nsplit ?_ ?_ | refine xC_split ?_ ?_) <;> intro h <;> (try simp only [wCo, wFr, wOp, wBi, wLst, wLog, xB_other, Nat.reduceBEq, unT, loadP, storeP, partP, partT, partV, cellsP, mkAgg, allT, setRange, fillP, fieldA, indexS, indexA, indexV, indexStr, elems, lenP, pickV, cviV, nckV, extV, isNil, bound, close, close1, aft, retV, retSl, one, eqT, eqs, eq1, Nat.reduceEqDiff, Nat.reduceAdd, Nat.reduceSub, Nat.reduceMul, Nat.reduceLeDiff, Nat.reduceLT, Nat.one_ne_zero, Nat.zero_ne_one, reduceIte, reduceCtorEq, bne_self_eq_false, decide_true, decide_false, Int.reduceToNat, Int.cast_ofNat_Int, Int.reduceLT, Int.reduceLE, Int.reduceEq, Int.reduceNeg, Int.reduceAdd, Int.reduceSub, f5, f56, f57, c1, w1, k0, k1, h]))
    refine ih (i + 1) (48 :: tx) _ (by omega) (by simp; omega) (by simp only [FrAt_cons, FrAt_nil, wFr, Nat.reduceEqDiff, Nat.one_ne_zero, Nat.zero_ne_one, reduceIte, and_self, and_true, true_and, f56]) fun fr' hf' => h1 fr' ?_
    rw [List.replicate_succ', List.append_assoc]
    exact hf'
theorem lexR_x0 {t : List UInt8} (hd : ∀ c, c ∈ t → isDig c = true) (h0 : t.head? = some 48) (h1 : 1 < t.length) : lexR 0 (120 :: 32 :: t) = .err 2 2 := by
  have hne : t ≠ [] := by intro e; subst e; simp at h1
  have hn : next (120 :: 32 :: t) = .ok 1 1 0 := by
    have := next_app (sep := 32) (by decide) t (a := [120]) (by simp)
    exact this.trans rfl
  have hg : gap (120 :: 32 :: t) = 0 := by simp [gapM, isBlk]
  have hg2 : gap (32 :: t) = 1 := by
    have := gap_digits hd [] hne
    rw [List.append_nil] at this
    simp only [gapM, show isBlk 32 = true by decide, if_true, this]
  have hn2 := next_digits hd hne
  rw [if_pos ⟨h0, h1⟩] at hn2
  rw [lexR_ok (k := 1) (n := 1) (v := 0) (by rw [hg]; simp) (by rw [hg]; exact hn), hg]
  show (lexR 1 (32 :: t)).cons _ = _
  rw [lexR_err (e := 2) (by rw [hg2]; simp; omega) (by rw [hg2]; exact hn2), hg2]
  rfl
theorem big_digits : lexR 0 [49, 56, 52, 52, 54, 55, 52, 52, 48, 55, 51, 55, 48, 57, 53, 53, 49, 54, 49, 54] = .err 0 3 := by
  have h1 : ∀ c, c ∈ ([49, 56, 52, 52, 54, 55, 52, 52, 48, 55, 51, 55, 48, 57, 53, 53, 49, 54, 49, 54] : List UInt8) → isDig c = true := by decide
  rw [lexR_digits h1 (by simp), if_neg (by decide), if_pos (by decide)]
theorem law8 (hg : GlOk gl) (n z : Nat) (hn : n ≤ 18446744073709551615) (hz : z ≤ 255) : Ret F gl 8 [.int .u64 (n : Int), .int .u8 (z : Int)] (.t (.bool true)) := by
  refine Ret.of F8 rfl ?_
  simp only [ir8]
  have a10 := @ok10 gl hg
  have hd := decD_dig n
  have hne := decD_ne n
  have hlen : (decD n).length ≤ 20 := decD_len 19 n (by omega)
  have hv := numV_decD n
  have hl : lexR 0 (decD n) = .toks [⟨3, decD n, n, 0⟩, ⟨0, [], 0, (decD n).length⟩] := by
    rw [lexR_digits hd hne, if_neg ?_, if_neg (by rw [hv]; omega), hv, Nat.zero_add]
    intro h
    exact decD_head n (decD_len1 h.2) h.1
  have c1 := @ok11t gl hg _ (by omega) _ hl
  simp only [List.map_cons, List.map_nil, tTok] at c1
  have c3 := @ok11e gl hg _ (by simp) _ _ big_digits
  simp only [wCo, wFr, wOp, wBi, wLst, wLog, xB_other, Nat.reduceBEq, unT, loadP, storeP, partP, partT, partV, cellsP, mkAgg, allT, setRange, fillP, fieldA, indexS, indexA, indexV, indexStr, elems, lenP, pickV, cviV, nckV, extV, isNil, bound, close, close1, aft, retV, retSl, one, eqT, eqs, eq1, Nat.reduceEqDiff, Nat.reduceAdd, Nat.reduceSub, Nat.reduceMul, Nat.reduceLeDiff, Nat.reduceLT, Nat.one_ne_zero, Nat.zero_ne_one, reduceIte, reduceCtorEq, bne_self_eq_false, decide_true, decide_false, Int.reduceToNat, Int.cast_ofNat_Int, Int.reduceLT, Int.reduceLE, Int.reduceEq, Int.reduceNeg, Int.reduceAdd, Int.reduceSub, a10]
  repeat' ((with_reducible first | refine xG_dec ?_ ?_ | refine xG_ndec ?_ ?_ | refine xG_nsplit ?_ ?_ | refine xG_split ?_ ?_ | refine xC_dec ?_ ?_ | refine xC_ndec ?_ ?_ | refine xC_nsplit ?_ ?_ | refine xC_split ?_ ?_) <;> intro h <;> (try simp only [wCo, wFr, wOp, wBi, wLst, wLog, xB_other, Nat.reduceBEq, unT, loadP, storeP, partP, partT, partV, cellsP, mkAgg, allT, setRange, fillP, fieldA, indexS, indexA, indexV, indexStr, elems, lenP, pickV, cviV, nckV, extV, isNil, bound, close, close1, aft, retV, retSl, one, eqT, eqs, eq1, Nat.reduceEqDiff, Nat.reduceAdd, Nat.reduceSub, Nat.reduceMul, Nat.reduceLeDiff, Nat.reduceLT, Nat.one_ne_zero, Nat.zero_ne_one, reduceIte, reduceCtorEq, bne_self_eq_false, decide_true, decide_false, Int.reduceToNat, Int.cast_ofNat_Int, Int.reduceLT, Int.reduceLE, Int.reduceEq, Int.reduceNeg, Int.reduceAdd, Int.reduceSub, a10, h]))
  refine loop8 (A := .t (.int .u64 (n : Int))) (B := .t (.int .u8 (z : Int))) _ n [] _ hn (.inr rfl) (by simp; omega) (by simp only [FrAt_cons, FrAt_nil, wFr, Nat.reduceEqDiff, Nat.one_ne_zero, Nat.zero_ne_one, reduceIte, and_self, and_true, true_and]) ?_
  intro fr' hf'
  rw [List.append_nil] at hf'
  simp only [FrAt_cons, FrAt_nil] at hf'
  obtain ⟨f0, f1, f5, -⟩ := hf'
  generalize decD n = t at *
  have zm : (z : Int).tmod 5 = ((z % 5 : Nat) : Int) := by rw [show (5 : Int) = ((5 : Nat) : Int) from rfl, Int.ofNat_tmod]
  have wz : IntKind.wrap .u8 (((z % 5 : Nat) : Int) + 1) = ((z % 5 + 1 : Nat) : Int) := by rw [IntWalk.u8_in _ (by omega)]; omega
  simp only [wCo, wFr, wOp, wBi, wLst, wLog, xB_other, Nat.reduceBEq, unT, loadP, storeP, partP, partT, partV, cellsP, mkAgg, allT, setRange, fillP, fieldA, indexS, indexA, indexV, indexStr, elems, lenP, pickV, cviV, nckV, extV, isNil, bound, close, close1, aft, retV, retSl, one, eqT, eqs, eq1, Nat.reduceEqDiff, Nat.reduceAdd, Nat.reduceSub, Nat.reduceMul, Nat.reduceLeDiff, Nat.reduceLT, Nat.one_ne_zero, Nat.zero_ne_one, reduceIte, reduceCtorEq, bne_self_eq_false, decide_true, decide_false, Int.reduceToNat, Int.cast_ofNat_Int, Int.reduceLT, Int.reduceLE, Int.reduceEq, Int.reduceNeg, Int.reduceAdd, Int.reduceSub, f0, f1, f5, c1, BEq.rfl, Bool.and_self, zm, wz, Bool.not_true]
  repeat' ((with_reducible first | refine xG_dec ?_ ?_ | refine xG_ndec ?_ ?_ | refine xG_nsplit ?_ ?_ | refine xG_split ?_ ?_ | refine xC_dec ?_ ?_ | refine xC_ndec ?_ ?_ | refine xC_nsplit ?_ ?_ | refine xC_split ?_ ?_) <;> intro h <;> (try simp only [wCo, wFr, wOp, wBi, wLst, wLog, xB_other, Nat.reduceBEq, unT, loadP, storeP, partP, partT, partV, cellsP, mkAgg, allT, setRange, fillP, fieldA, indexS, indexA, indexV, indexStr, elems, lenP, pickV, cviV, nckV, extV, isNil, bound, close, close1, aft, retV, retSl, one, eqT, eqs, eq1, Nat.reduceEqDiff, Nat.reduceAdd, Nat.reduceSub, Nat.reduceMul, Nat.reduceLeDiff, Nat.reduceLT, Nat.one_ne_zero, Nat.zero_ne_one, reduceIte, reduceCtorEq, bne_self_eq_false, decide_true, decide_false, Int.reduceToNat, Int.cast_ofNat_Int, Int.reduceLT, Int.reduceLE, Int.reduceEq, Int.reduceNeg, Int.reduceAdd, Int.reduceSub, f0, f1, f5, c1, BEq.rfl, Bool.and_self, zm, wz, Bool.not_true, h]))
  refine loop8b (c := z % 5 + 1) (by omega) _ (z % 5 + 1) 0 t _ (by omega) (by omega) (by simp only [FrAt_cons, FrAt_nil, wFr, Nat.reduceEqDiff, Nat.one_ne_zero, Nat.zero_ne_one, reduceIte, and_self, and_true, true_and, f5]) ?_
  intro fr2 hf2
  simp only [FrAt_cons, FrAt_nil] at hf2
  obtain ⟨g5, -⟩ := hf2
  have hd2 : ∀ c, c ∈ List.replicate (z % 5 + 1) 48 ++ t → isDig c = true := by
    intro c hc
    rcases List.mem_append.1 hc with h | h
    · rw [(List.mem_replicate.1 h).2]; decide
    · exact hd c h
  have h0 : (List.replicate (z % 5 + 1) (48 : UInt8) ++ t).head? = some 48 := by simp [List.replicate_succ]
  have hl2 : 1 < (List.replicate (z % 5 + 1) (48 : UInt8) ++ t).length := by have := List.length_pos_iff.2 hne; simp; omega
  have hl3 : (List.replicate (z % 5 + 1) (48 : UInt8) ++ t).length ≤ 100 := by simp; omega
  have c2 := @ok11e gl hg _ (by simp at hl3 ⊢; omega) _ _ (lexR_x0 hd2 h0 hl2)
  generalize List.replicate (z % 5 + 1) (48 : UInt8) ++ t = tt at *
  have k1 : 2 + tt.length ≤ 4611686018427387904 := by omega
  have k0 : tt.length ≤ 4611686018427387902 := by omega
  simp only [wCo, wFr, wOp, wBi, wLst, wLog, xB_other, Nat.reduceBEq, unT, loadP, storeP, partP, partT, partV, cellsP, mkAgg, allT, setRange, fillP, fieldA, indexS, indexA, indexV, indexStr, elems, lenP, pickV, cviV, nckV, extV, isNil, bound, close, close1, aft, retV, retSl, one, eqT, eqs, eq1, Nat.reduceEqDiff, Nat.reduceAdd, Nat.reduceSub, Nat.reduceMul, Nat.reduceLeDiff, Nat.reduceLT, Nat.one_ne_zero, Nat.zero_ne_one, reduceIte, reduceCtorEq, bne_self_eq_false, decide_true, decide_false, Int.reduceToNat, Int.cast_ofNat_Int, Int.reduceLT, Int.reduceLE, Int.reduceEq, Int.reduceNeg, Int.reduceAdd, Int.reduceSub, g5, k0, k1, c2, c3, Bool.not_true]
  repeat' ((with_reducible first | refine xG_dec ?_ ?_ | refine xG_ndec ?_ ?_ | refine xG_nsplit ?_ ?_ | refine xG_split ?_ ?_ | refine xC_dec ?_ ?_ | refine xC_ndec ?_ ?_ | refine xC_nsplit ?_ ?_ | refine xC_split ?_ ?_) <;> intro h <;> (try simp only [wCo, wFr, wOp, wBi, wLst, wLog, xB_other, Nat.reduceBEq, unT, loadP, storeP, partP, partT, partV, cellsP, mkAgg, allT, setRange, fillP, fieldA, indexS, indexA, indexV, indexStr, elems, lenP, pickV, cviV, nckV, extV, isNil, bound, close, close1, aft, retV, retSl, one, eqT, eqs, eq1, Nat.reduceEqDiff, Nat.reduceAdd, Nat.reduceSub, Nat.reduceMul, Nat.reduceLeDiff, Nat.reduceLT, Nat.one_ne_zero, Nat.zero_ne_one, reduceIte, reduceCtorEq, bne_self_eq_false, decide_true, decide_false, Int.reduceToNat, Int.cast_ofNat_Int, Int.reduceLT, Int.reduceLE, Int.reduceEq, Int.reduceNeg, Int.reduceAdd, Int.reduceSub, g5, k0, k1, c2, c3, Bool.not_true, h]))
theorem args8 (hg : GlOk gl) : ∀ xs, ArgsT 140737488355328 [(false, [.int .u64]), (false, [.int .u8])] xs → ∃ n sg ow, pcall F gl n 8 (xs.map .t) [] [] = some (.t (.bool true), sg, ow) := by
  intro xs h
  obtain ⟨x, r, rfl, hx, h⟩ := argsT_cons h
  obtain ⟨y, r, rfl, hy, h⟩ := argsT_cons h
  obtain rfl := argsT_nil h
  obtain ⟨m, rfl, h1, h2⟩ := wt_u64 (argT_one hx)
  obtain ⟨k, rfl, h3, h4⟩ := wt_u8 (argT_one hy)
  obtain ⟨m', rfl⟩ : ∃ m' : Nat, m = (m' : Int) := ⟨m.toNat, by omega⟩
  obtain ⟨k', rfl⟩ : ∃ k' : Nat, k = (k' : Int) := ⟨k.toNat, by omega⟩
  exact CallP.law (law8 hg m' k' (by omega) (by omega))
end Go.Proofs.YtamkdkieffgpiaaDoor
