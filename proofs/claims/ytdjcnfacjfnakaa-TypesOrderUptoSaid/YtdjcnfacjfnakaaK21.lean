/- The laws' walks. -/
import Derived.Test.YtdjcnfacjfnakaaK20
import Derived.Test.YtdjcnfacjfnakaaKx18
set_option maxRecDepth 10000
set_option linter.unusedVariables false
set_option linter.unusedSimpArgs false
namespace Go.Proofs.Ytdjcnfacjfnakaa
open Go.Pi Go.Lx Go.Ky Go.Lib
variable {gl : Nat → Option (List T)}

theorem PgB.wb {p : Pg} (hp : PgB p) {l : List St} (h1 : ∀ s, s ∈ l → StOk s) (h2 : szSs l ≤ B20) : PgB (wb p l) := by
  have h3 := szSs_len l
  have hb : B20 = 1100000 := rfl
  have hb2 : B47 = 140737488355328 := rfl
  refine ⟨⟨hp.ok.fl, hp.ok.fn, hp.ok.fo, hp.ok.dl, hp.ok.dn, hp.ok.dok, ?_, fun h => (by cases h), h1⟩, hp.fl, hp.dl, hp.fs, h2⟩
  show l.length ≤ B47
  omega
theorem PgB.take {p : Pg} (hp : PgB p) (k : Nat) : PgB (Ky.wb p (p.body.take k)) := hp.wb (fun s hs => hp.ok.bo s (List.mem_of_mem_take hs)) (Nat.le_trans (szSs_take _ _) hp.bs)
set_option maxHeartbeats 1000000 in
theorem law3 {p : Pg} (hp : PgB p) : Ret F gl 3 [.agg (tPg p)] (.t (.bool true)) := by
  refine Ret.of F3 rfl ?_
  simp only [ir3]
  have hb : B20 = 1100000 := rfl
  have hbl : p.body.length ≤ B20 := Nat.le_trans (szSs_len _) hp.bs
  have hsm := fun K => @ok7 gl p hp K
  have hck := fun K => @ok8 gl p hp K
  cases hs : smallB p with
  | false =>
    simp only [wCo, wFr, wOp, wBi, wLst, wLog, xB_other, Nat.reduceBEq, unT, loadP, storeP, partP, partT, partV, cellsP, mkAgg, allT, setRange, fillP, fieldA, indexS, indexA, indexV, indexStr, elems, lenP, pickV, cviV, nckV, extV, isNil, bound, close, close1, aft, retV, retSl, Go.Pi.one, eqT, eqs, eq1, Nat.reduceEqDiff, Nat.reduceAdd, Nat.reduceSub, Nat.reduceMul, Nat.reduceLeDiff, Nat.reduceLT, Nat.one_ne_zero, Nat.zero_ne_one, reduceIte, reduceCtorEq, bne_self_eq_false, decide_true, decide_false, Int.reduceToNat, Int.cast_ofNat_Int, Int.reduceLT, Int.reduceLE, Int.reduceEq, Int.reduceNeg, Int.reduceAdd, Int.reduceSub, ok6, hsm, hs]
  | true =>
  by_cases hb0 : (p.body.length : Int) = 0
  · simp only [wCo, wFr, wOp, wBi, wLst, wLog, xB_other, Nat.reduceBEq, unT, loadP, storeP, partP, partT, partV, cellsP, mkAgg, allT, setRange, fillP, fieldA, indexS, indexA, indexV, indexStr, elems, lenP, pickV, cviV, nckV, extV, isNil, bound, close, close1, aft, retV, retSl, Go.Pi.one, eqT, eqs, eq1, Nat.reduceEqDiff, Nat.reduceAdd, Nat.reduceSub, Nat.reduceMul, Nat.reduceLeDiff, Nat.reduceLT, Nat.one_ne_zero, Nat.zero_ne_one, reduceIte, reduceCtorEq, bne_self_eq_false, decide_true, decide_false, Int.reduceToNat, Int.cast_ofNat_Int, Int.reduceLT, Int.reduceLE, Int.reduceEq, Int.reduceNeg, Int.reduceAdd, Int.reduceSub, ok6, hsm, hs, tSts_len, hb0]
  by_cases hc0 : (examP p).2.2 = 0
  · have hin := fun K => @ok9 gl p hp K
    have hst := fun K => @ok10 gl p hp K
    have hbi := fun K => @ok11 gl p hp K
    have hw : IntKind.i64.wrap ((p.body.length : Int) - 1) = ((p.body.length - 1 : Nat) : Int) := by rw [IntWalk.i64_in _ (by omega)]; omega
    have hsl := sl_sts p.bnl p.body (p.body.length - 1) (by omega)
    have happ := fun dr sg ow => app_sts dr sg ow p.bnl (p.body.take (p.body.length - 1)) (by rw [List.length_take]; omega)
    have hp2 := hp.take (p.body.length - 1)
    have hck2 := fun K => @ok8 gl _ hp2 K
    have hin2 := fun K => @ok9 gl _ hp2 K
    have hst2 := fun K => @ok10 gl _ hp2 K
    have hbi2 := fun K => @ok11 gl _ hp2 K
    obtain ⟨l1, l2, l3, l4⟩ := prefix_law (p.body.length - 1) hc0
    simp only [l1] at hck2
    simp only [l4] at hin2
    simp only [Ky.wb] at hck2 hin2 hst2 hbi2 l2 l3
    generalize p.body.take (p.body.length - 1) = t at *
    simp only [wCo, wFr, wOp, wBi, wLst, wLog, xB_other, Nat.reduceBEq, unT, loadP, storeP, partP, partT, partV, cellsP, mkAgg, allT, setRange, fillP, fieldA, indexS, indexA, indexV, indexStr, elems, lenP, pickV, cviV, nckV, extV, isNil, bound, close, close1, aft, retV, retSl, Go.Pi.one, eqT, eqs, eq1, Nat.reduceEqDiff, Nat.reduceAdd, Nat.reduceSub, Nat.reduceMul, Nat.reduceLeDiff, Nat.reduceLT, Nat.one_ne_zero, Nat.zero_ne_one, reduceIte, reduceCtorEq, bne_self_eq_false, decide_true, decide_false, Int.reduceToNat, Int.cast_ofNat_Int, Int.reduceLT, Int.reduceLE, Int.reduceEq, Int.reduceNeg, Int.reduceAdd, Int.reduceSub, ok6, hsm, hs, tSts_len, hb0, hck, hc0, hw, hsl, bsl_st0]
    rcases happ false _ _ with ⟨rfl, ha⟩ | ⟨hne, ha⟩
    · rw [ha]
      replace hck2 := fun K => (show XcP F gl 8 [T.agg [.sl p.fnl (p.funcs.map fun f => tFu f), .sl p.dnl (p.decls.map fun f => tDe f), .sl false []]] K ⟨⟩ ↔ _ from hck2 K)
      replace hin2 := fun K => (show XcP F gl 9 [T.agg [.sl p.fnl (p.funcs.map fun f => tFu f), .sl p.dnl (p.decls.map fun f => tDe f), .sl false []]] K ⟨⟩ ↔ _ from hin2 K)
      replace hst2 := fun K => (show XcP F gl 10 [T.agg [.sl p.fnl (p.funcs.map fun f => tFu f), .sl p.dnl (p.decls.map fun f => tDe f), .sl false []]] K ⟨⟩ ↔ _ from hst2 K)
      replace hbi2 := fun K => (show XcP F gl 11 [T.agg [.sl p.fnl (p.funcs.map fun f => tFu f), .sl p.dnl (p.decls.map fun f => tDe f), .sl false []]] K ⟨⟩ ↔ _ from hbi2 K)
      simp only [wCo, wFr, wOp, wBi, wLst, wLog, xB_other, Nat.reduceBEq, unT, loadP, storeP, partP, partT, partV, cellsP, mkAgg, allT, setRange, fillP, fieldA, indexS, indexA, indexV, indexStr, elems, lenP, pickV, cviV, nckV, extV, isNil, bound, close, close1, aft, retV, retSl, Go.Pi.one, eqT, eqs, eq1, Nat.reduceEqDiff, Nat.reduceAdd, Nat.reduceSub, Nat.reduceMul, Nat.reduceLeDiff, Nat.reduceLT, Nat.one_ne_zero, Nat.zero_ne_one, reduceIte, reduceCtorEq, bne_self_eq_false, decide_true, decide_false, Int.reduceToNat, Int.cast_ofNat_Int, Int.reduceLT, Int.reduceLE, Int.reduceEq, Int.reduceNeg, Int.reduceAdd, Int.reduceSub, hin, hin2, hck2, hst, hst2, hbi, hbi2, l2, l3]
    · rw [ha]
      simp only [wCo, wFr, wOp, wBi, wLst, wLog, xB_other, Nat.reduceBEq, unT, loadP, storeP, partP, partT, partV, cellsP, mkAgg, allT, setRange, fillP, fieldA, indexS, indexA, indexV, indexStr, elems, lenP, pickV, cviV, nckV, extV, isNil, bound, close, close1, aft, retV, retSl, Go.Pi.one, eqT, eqs, eq1, Nat.reduceEqDiff, Nat.reduceAdd, Nat.reduceSub, Nat.reduceMul, Nat.reduceLeDiff, Nat.reduceLT, Nat.one_ne_zero, Nat.zero_ne_one, reduceIte, reduceCtorEq, bne_self_eq_false, decide_true, decide_false, Int.reduceToNat, Int.cast_ofNat_Int, Int.reduceLT, Int.reduceLE, Int.reduceEq, Int.reduceNeg, Int.reduceAdd, Int.reduceSub, hin, hin2, hck2, hst, hst2, hbi, hbi2, l2, l3]
  · simp only [wCo, wFr, wOp, wBi, wLst, wLog, xB_other, Nat.reduceBEq, unT, loadP, storeP, partP, partT, partV, cellsP, mkAgg, allT, setRange, fillP, fieldA, indexS, indexA, indexV, indexStr, elems, lenP, pickV, cviV, nckV, extV, isNil, bound, close, close1, aft, retV, retSl, Go.Pi.one, eqT, eqs, eq1, Nat.reduceEqDiff, Nat.reduceAdd, Nat.reduceSub, Nat.reduceMul, Nat.reduceLeDiff, Nat.reduceLT, Nat.one_ne_zero, Nat.zero_ne_one, reduceIte, reduceCtorEq, bne_self_eq_false, decide_true, decide_false, Int.reduceToNat, Int.cast_ofNat_Int, Int.reduceLT, Int.reduceLE, Int.reduceEq, Int.reduceNeg, Int.reduceAdd, Int.reduceSub, ok6, hsm, hs, tSts_len, hb0, hck, hc0]
set_option maxHeartbeats 1000000 in
theorem law4 {p : Pg} (hp : PgB p) (hsz : szSs p.body + 100 ≤ B20) : Ret F gl 4 [.agg (tPg p)] (.t (.bool true)) := by
  refine Ret.of F4 rfl ?_
  simp only [ir4]
  have hb : B20 = 1100000 := rfl
  have hbl : p.body.length ≤ B20 := Nat.le_trans (szSs_len _) hp.bs
  have hsm := fun K => @ok7 gl p hp K
  have hck := fun K => @ok8 gl p hp K
  cases hs : smallB p with
  | false =>
    simp only [wCo, wFr, wOp, wBi, wLst, wLog, xB_other, Nat.reduceBEq, unT, loadP, storeP, partP, partT, partV, cellsP, mkAgg, allT, setRange, fillP, fieldA, indexS, indexA, indexV, indexStr, elems, lenP, pickV, cviV, nckV, extV, isNil, bound, close, close1, aft, retV, retSl, Go.Pi.one, eqT, eqs, eq1, Nat.reduceEqDiff, Nat.reduceAdd, Nat.reduceSub, Nat.reduceMul, Nat.reduceLeDiff, Nat.reduceLT, Nat.one_ne_zero, Nat.zero_ne_one, reduceIte, reduceCtorEq, bne_self_eq_false, decide_true, decide_false, Int.reduceToNat, Int.cast_ofNat_Int, Int.reduceLT, Int.reduceLE, Int.reduceEq, Int.reduceNeg, Int.reduceAdd, Int.reduceSub, ok6, hsm, hs]
  | true =>
  by_cases hc0 : (examP p).2.2 = 0
  · have hst := fun K => @ok10 gl p hp K
    have hbi := fun K => @ok11 gl p hp K
    have happ := fun dr sg ow => app_sts dr sg ow p.bnl p.body hbl
    have hone := fun dr sg => app_one dr sg p.body tt hbl
    have hone0 : ∀ dr sg, appendP dr sg [] 13 152 (.lit []) (.lit [tSt tt]) = some (.own 0 13 (tSts [tt]), [1]) := fun dr sg => app_one0 dr sg tt
    have htt : tSt tt = [.int .i64 2, .str [], .bool false, .int .i64 0, .int .i64 0, .int .i64 0, .int .i64 3, .int .u64 0, .str [], .sl true [], .int .i64 0, .int .i64 0, .sl true []] := rfl
    rw [htt] at hone hone0
    have hp2 : PgB (Ky.wb p (p.body ++ [tt])) := hp.wb (fun s hs => by
      rcases List.mem_append.1 hs with h | h
      · exact hp.ok.bo s h
      · rw [List.mem_singleton.1 h]; exact okS_ok tt (by decide)) (by rw [szSs_app, show szSs [tt] = 13 by decide]; omega)
    have hck2 := fun K => @ok8 gl _ hp2 K
    have hst2 := fun K => @ok10 gl _ hp2 K
    have hbi2 := fun K => @ok11 gl _ hp2 K
    have l0 := further_law hc0
    obtain ⟨-, -, l3'⟩ := exam_ok.1 hc0
    have hse : (examP p).2.1 = stepsP p := by rw [exam_val hc0]
    by_cases h20 : (examP p).2.1 = 20000
    · rw [if_pos h20] at l0
      obtain ⟨l1, l2⟩ := l0
      rw [l1] at hck2
      rw [l2] at hst2
      rw [h20] at hst
      simp only [Ky.wb] at hst2 hck2
      simp only [wCo, wFr, wOp, wBi, wLst, wLog, xB_other, Nat.reduceBEq, unT, loadP, storeP, partP, partT, partV, cellsP, mkAgg, allT, setRange, fillP, fieldA, indexS, indexA, indexV, indexStr, elems, lenP, pickV, cviV, nckV, extV, isNil, bound, close, close1, aft, retV, retSl, Go.Pi.one, eqT, eqs, eq1, Nat.reduceEqDiff, Nat.reduceAdd, Nat.reduceSub, Nat.reduceMul, Nat.reduceLeDiff, Nat.reduceLT, Nat.one_ne_zero, Nat.zero_ne_one, reduceIte, reduceCtorEq, bne_self_eq_false, decide_true, decide_false, Int.reduceToNat, Int.cast_ofNat_Int, Int.reduceLT, Int.reduceLE, Int.reduceEq, Int.reduceNeg, Int.reduceAdd, Int.reduceSub, ok6, hsm, hs, hck, hc0, bsl_st0]
      rcases happ false _ _ with ⟨hne, ha⟩ | ⟨hne, ha⟩
      · rw [ha]
        rw [hne, List.nil_append] at hck2 hst2
        simp only [wCo, wFr, wOp, wBi, wLst, wLog, xB_other, Nat.reduceBEq, unT, loadP, storeP, partP, partT, partV, cellsP, mkAgg, allT, setRange, fillP, fieldA, indexS, indexA, indexV, indexStr, elems, lenP, pickV, cviV, nckV, extV, isNil, bound, close, close1, aft, retV, retSl, Go.Pi.one, eqT, eqs, eq1, Nat.reduceEqDiff, Nat.reduceAdd, Nat.reduceSub, Nat.reduceMul, Nat.reduceLeDiff, Nat.reduceLT, Nat.one_ne_zero, Nat.zero_ne_one, reduceIte, reduceCtorEq, bne_self_eq_false, decide_true, decide_false, Int.reduceToNat, Int.cast_ofNat_Int, Int.reduceLT, Int.reduceLE, Int.reduceEq, Int.reduceNeg, Int.reduceAdd, Int.reduceSub, rw13, rw12, bsl_st1, hone0, hck2, hst, hst2]
      · rw [ha]
        simp only [wCo, wFr, wOp, wBi, wLst, wLog, xB_other, Nat.reduceBEq, unT, loadP, storeP, partP, partT, partV, cellsP, mkAgg, allT, setRange, fillP, fieldA, indexS, indexA, indexV, indexStr, elems, lenP, pickV, cviV, nckV, extV, isNil, bound, close, close1, aft, retV, retSl, Go.Pi.one, eqT, eqs, eq1, Nat.reduceEqDiff, Nat.reduceAdd, Nat.reduceSub, Nat.reduceMul, Nat.reduceLeDiff, Nat.reduceLT, Nat.one_ne_zero, Nat.zero_ne_one, reduceIte, reduceCtorEq, bne_self_eq_false, decide_true, decide_false, Int.reduceToNat, Int.cast_ofNat_Int, Int.reduceLT, Int.reduceLE, Int.reduceEq, Int.reduceNeg, Int.reduceAdd, Int.reduceSub, rw13, rw12, bsl_st1, hone, hck2, hst, hst2, List.length_nil, List.nil_append]
    · rw [if_neg h20] at l0
      obtain ⟨l1, l2, l3⟩ := l0
      rw [l1] at hck2
      rw [l2] at hst2
      rw [l3] at hbi2
      simp only [Ky.wb] at hst2 hck2 hbi2
      have hnn := steps_ge hc0
      have hw : IntKind.i64.wrap ((examP p).2.1 + 1) = (examP p).2.1 + 1 := by rw [IntWalk.i64_in _ (by omega)]
      simp only [wCo, wFr, wOp, wBi, wLst, wLog, xB_other, Nat.reduceBEq, unT, loadP, storeP, partP, partT, partV, cellsP, mkAgg, allT, setRange, fillP, fieldA, indexS, indexA, indexV, indexStr, elems, lenP, pickV, cviV, nckV, extV, isNil, bound, close, close1, aft, retV, retSl, Go.Pi.one, eqT, eqs, eq1, Nat.reduceEqDiff, Nat.reduceAdd, Nat.reduceSub, Nat.reduceMul, Nat.reduceLeDiff, Nat.reduceLT, Nat.one_ne_zero, Nat.zero_ne_one, reduceIte, reduceCtorEq, bne_self_eq_false, decide_true, decide_false, Int.reduceToNat, Int.cast_ofNat_Int, Int.reduceLT, Int.reduceLE, Int.reduceEq, Int.reduceNeg, Int.reduceAdd, Int.reduceSub, ok6, hsm, hs, hck, hc0, bsl_st0]
      rcases happ false _ _ with ⟨hne, ha⟩ | ⟨hne, ha⟩
      · rw [ha]
        rw [hne, List.nil_append] at hck2 hst2 hbi2
        simp only [wCo, wFr, wOp, wBi, wLst, wLog, xB_other, Nat.reduceBEq, unT, loadP, storeP, partP, partT, partV, cellsP, mkAgg, allT, setRange, fillP, fieldA, indexS, indexA, indexV, indexStr, elems, lenP, pickV, cviV, nckV, extV, isNil, bound, close, close1, aft, retV, retSl, Go.Pi.one, eqT, eqs, eq1, Nat.reduceEqDiff, Nat.reduceAdd, Nat.reduceSub, Nat.reduceMul, Nat.reduceLeDiff, Nat.reduceLT, Nat.one_ne_zero, Nat.zero_ne_one, reduceIte, reduceCtorEq, bne_self_eq_false, decide_true, decide_false, Int.reduceToNat, Int.cast_ofNat_Int, Int.reduceLT, Int.reduceLE, Int.reduceEq, Int.reduceNeg, Int.reduceAdd, Int.reduceSub, rw13, rw12, bsl_st1, hone0, hck2, hst, hst2, hbi, hbi2, hw, h20]
      · rw [ha]
        simp only [wCo, wFr, wOp, wBi, wLst, wLog, xB_other, Nat.reduceBEq, unT, loadP, storeP, partP, partT, partV, cellsP, mkAgg, allT, setRange, fillP, fieldA, indexS, indexA, indexV, indexStr, elems, lenP, pickV, cviV, nckV, extV, isNil, bound, close, close1, aft, retV, retSl, Go.Pi.one, eqT, eqs, eq1, Nat.reduceEqDiff, Nat.reduceAdd, Nat.reduceSub, Nat.reduceMul, Nat.reduceLeDiff, Nat.reduceLT, Nat.one_ne_zero, Nat.zero_ne_one, reduceIte, reduceCtorEq, bne_self_eq_false, decide_true, decide_false, Int.reduceToNat, Int.cast_ofNat_Int, Int.reduceLT, Int.reduceLE, Int.reduceEq, Int.reduceNeg, Int.reduceAdd, Int.reduceSub, rw13, rw12, bsl_st1, hone, hck2, hst, hst2, hbi, hbi2, hw, h20, List.length_nil, List.nil_append]
  · simp only [wCo, wFr, wOp, wBi, wLst, wLog, xB_other, Nat.reduceBEq, unT, loadP, storeP, partP, partT, partV, cellsP, mkAgg, allT, setRange, fillP, fieldA, indexS, indexA, indexV, indexStr, elems, lenP, pickV, cviV, nckV, extV, isNil, bound, close, close1, aft, retV, retSl, Go.Pi.one, eqT, eqs, eq1, Nat.reduceEqDiff, Nat.reduceAdd, Nat.reduceSub, Nat.reduceMul, Nat.reduceLeDiff, Nat.reduceLT, Nat.one_ne_zero, Nat.zero_ne_one, reduceIte, reduceCtorEq, bne_self_eq_false, decide_true, decide_false, Int.reduceToNat, Int.cast_ofNat_Int, Int.reduceLT, Int.reduceLE, Int.reduceEq, Int.reduceNeg, Int.reduceAdd, Int.reduceSub, ok6, hsm, hs, hck, hc0]
set_option maxHeartbeats 1000000 in
theorem law5 {p : Pg} (hp : PgB p) (a : Int) (ha0 : 0 ≤ a) (ha1 : a ≤ 255) : Ret F gl 5 [.agg (tPg p), .int .u8 a] (.t (.bool true)) := by
  refine Ret.of F5 rfl ?_
  simp only [ir5]
  have hb : B20 = 1100000 := rfl
  have hbl : p.body.length ≤ B20 := Nat.le_trans (szSs_len _) hp.bs
  have hsm := fun K => @ok7 gl p hp K
  have hck := fun K => @ok8 gl p hp K
  cases hs : smallB p with
  | false =>
    simp only [wCo, wFr, wOp, wBi, wLst, wLog, xB_other, Nat.reduceBEq, unT, loadP, storeP, partP, partT, partV, cellsP, mkAgg, allT, setRange, fillP, fieldA, indexS, indexA, indexV, indexStr, elems, lenP, pickV, cviV, nckV, extV, isNil, bound, close, close1, aft, retV, retSl, Go.Pi.one, eqT, eqs, eq1, Nat.reduceEqDiff, Nat.reduceAdd, Nat.reduceSub, Nat.reduceMul, Nat.reduceLeDiff, Nat.reduceLT, Nat.one_ne_zero, Nat.zero_ne_one, reduceIte, reduceCtorEq, bne_self_eq_false, decide_true, decide_false, Int.reduceToNat, Int.cast_ofNat_Int, Int.reduceLT, Int.reduceLE, Int.reduceEq, Int.reduceNeg, Int.reduceAdd, Int.reduceSub, ok6, hsm, hs]
  | true =>
  by_cases hb0 : (p.body.length : Int) = 0
  · simp only [wCo, wFr, wOp, wBi, wLst, wLog, xB_other, Nat.reduceBEq, unT, loadP, storeP, partP, partT, partV, cellsP, mkAgg, allT, setRange, fillP, fieldA, indexS, indexA, indexV, indexStr, elems, lenP, pickV, cviV, nckV, extV, isNil, bound, close, close1, aft, retV, retSl, Go.Pi.one, eqT, eqs, eq1, Nat.reduceEqDiff, Nat.reduceAdd, Nat.reduceSub, Nat.reduceMul, Nat.reduceLeDiff, Nat.reduceLT, Nat.one_ne_zero, Nat.zero_ne_one, reduceIte, reduceCtorEq, bne_self_eq_false, decide_true, decide_false, Int.reduceToNat, Int.cast_ofNat_Int, Int.reduceLT, Int.reduceLE, Int.reduceEq, Int.reduceNeg, Int.reduceAdd, Int.reduceSub, ok6, hsm, hs, tSts_len, hb0]
  obtain ⟨k, hk⟩ : ∃ k : Nat, Int.tmod a (p.body.length : Int) = (k : Int) ∧ k ≤ p.body.length := by
    refine ⟨(Int.tmod a (p.body.length : Int)).toNat, ?_, ?_⟩
    · have := Int.tmod_nonneg (p.body.length : Int) ha0
      omega
    · have := Int.tmod_lt_of_pos a (show (0 : Int) < (p.body.length : Int) by omega)
      omega
  obtain ⟨hk1, hk2⟩ := hk
  have hcw : IntKind.i64.wrap a = a := wrap_id ha0 (by omega)
  have hkw : IntKind.i64.wrap (k : Int) = (k : Int) := wrap_id (by omega) (by omega)
  have hsl := sl_sts p.bnl p.body k hk2
  have happ := fun dr sg ow => app_sts dr sg ow p.bnl (p.body.take k) (by rw [List.length_take]; omega)
  have hp2 := hp.take k
  have hck2 := fun K => @ok8 gl _ hp2 K
  have l0 := @order_law p k
  generalize hw : (examP p).2.2 = whole at *
  generalize hf : (examP (Ky.wb p (p.body.take k))).2.2 = first at *
  simp only [Ky.wb] at hck2
  generalize p.body.take k = t at *
  simp only [wCo, wFr, wOp, wBi, wLst, wLog, xB_other, Nat.reduceBEq, unT, loadP, storeP, partP, partT, partV, cellsP, mkAgg, allT, setRange, fillP, fieldA, indexS, indexA, indexV, indexStr, elems, lenP, pickV, cviV, nckV, extV, isNil, bound, close, close1, aft, retV, retSl, Go.Pi.one, eqT, eqs, eq1, Nat.reduceEqDiff, Nat.reduceAdd, Nat.reduceSub, Nat.reduceMul, Nat.reduceLeDiff, Nat.reduceLT, Nat.one_ne_zero, Nat.zero_ne_one, reduceIte, reduceCtorEq, bne_self_eq_false, decide_true, decide_false, Int.reduceToNat, Int.cast_ofNat_Int, Int.reduceLT, Int.reduceLE, Int.reduceEq, Int.reduceNeg, Int.reduceAdd, Int.reduceSub, ok6, hsm, hs, tSts_len, hb0, hk1, hcw, hkw, hsl, bsl_st0]
  rcases happ true _ _ with ⟨rfl, ha⟩ | ⟨hne, ha⟩
  · rw [ha]
    replace hck2 := fun K => (show XcP F gl 8 [T.agg [.sl p.fnl (p.funcs.map fun f => tFu f), .sl p.dnl (p.decls.map fun f => tDe f), .sl false []]] K ⟨⟩ ↔ _ from hck2 K)
    by_cases w1 : whole = 1
    · subst w1
      simp only [wCo, wFr, wOp, wBi, wLst, wLog, xB_other, Nat.reduceBEq, unT, loadP, storeP, partP, partT, partV, cellsP, mkAgg, allT, setRange, fillP, fieldA, indexS, indexA, indexV, indexStr, elems, lenP, pickV, cviV, nckV, extV, isNil, bound, close, close1, aft, retV, retSl, Go.Pi.one, eqT, eqs, eq1, Nat.reduceEqDiff, Nat.reduceAdd, Nat.reduceSub, Nat.reduceMul, Nat.reduceLeDiff, Nat.reduceLT, Nat.one_ne_zero, Nat.zero_ne_one, reduceIte, reduceCtorEq, bne_self_eq_false, decide_true, decide_false, Int.reduceToNat, Int.cast_ofNat_Int, Int.reduceLT, Int.reduceLE, Int.reduceEq, Int.reduceNeg, Int.reduceAdd, Int.reduceSub, hck, hck2]
    by_cases f1 : first = 1
    · subst f1
      simp only [wCo, wFr, wOp, wBi, wLst, wLog, xB_other, Nat.reduceBEq, unT, loadP, storeP, partP, partT, partV, cellsP, mkAgg, allT, setRange, fillP, fieldA, indexS, indexA, indexV, indexStr, elems, lenP, pickV, cviV, nckV, extV, isNil, bound, close, close1, aft, retV, retSl, Go.Pi.one, eqT, eqs, eq1, Nat.reduceEqDiff, Nat.reduceAdd, Nat.reduceSub, Nat.reduceMul, Nat.reduceLeDiff, Nat.reduceLT, Nat.one_ne_zero, Nat.zero_ne_one, reduceIte, reduceCtorEq, bne_self_eq_false, decide_true, decide_false, Int.reduceToNat, Int.cast_ofNat_Int, Int.reduceLT, Int.reduceLE, Int.reduceEq, Int.reduceNeg, Int.reduceAdd, Int.reduceSub, hck, hck2, w1]
    by_cases f0 : first = 0
    · subst f0
      simp only [wCo, wFr, wOp, wBi, wLst, wLog, xB_other, Nat.reduceBEq, unT, loadP, storeP, partP, partT, partV, cellsP, mkAgg, allT, setRange, fillP, fieldA, indexS, indexA, indexV, indexStr, elems, lenP, pickV, cviV, nckV, extV, isNil, bound, close, close1, aft, retV, retSl, Go.Pi.one, eqT, eqs, eq1, Nat.reduceEqDiff, Nat.reduceAdd, Nat.reduceSub, Nat.reduceMul, Nat.reduceLeDiff, Nat.reduceLT, Nat.one_ne_zero, Nat.zero_ne_one, reduceIte, reduceCtorEq, bne_self_eq_false, decide_true, decide_false, Int.reduceToNat, Int.cast_ofNat_Int, Int.reduceLT, Int.reduceLE, Int.reduceEq, Int.reduceNeg, Int.reduceAdd, Int.reduceSub, hck, hck2, w1, f1]
    by_cases f3 : first = 3
    · subst f3
      simp only [wCo, wFr, wOp, wBi, wLst, wLog, xB_other, Nat.reduceBEq, unT, loadP, storeP, partP, partT, partV, cellsP, mkAgg, allT, setRange, fillP, fieldA, indexS, indexA, indexV, indexStr, elems, lenP, pickV, cviV, nckV, extV, isNil, bound, close, close1, aft, retV, retSl, Go.Pi.one, eqT, eqs, eq1, Nat.reduceEqDiff, Nat.reduceAdd, Nat.reduceSub, Nat.reduceMul, Nat.reduceLeDiff, Nat.reduceLT, Nat.one_ne_zero, Nat.zero_ne_one, reduceIte, reduceCtorEq, bne_self_eq_false, decide_true, decide_false, Int.reduceToNat, Int.cast_ofNat_Int, Int.reduceLT, Int.reduceLE, Int.reduceEq, Int.reduceNeg, Int.reduceAdd, Int.reduceSub, hck, hck2, w1, f1, f0]
    have hl := l0 w1 f1 f0 f3
    subst hl
    simp only [wCo, wFr, wOp, wBi, wLst, wLog, xB_other, Nat.reduceBEq, unT, loadP, storeP, partP, partT, partV, cellsP, mkAgg, allT, setRange, fillP, fieldA, indexS, indexA, indexV, indexStr, elems, lenP, pickV, cviV, nckV, extV, isNil, bound, close, close1, aft, retV, retSl, Go.Pi.one, eqT, eqs, eq1, Nat.reduceEqDiff, Nat.reduceAdd, Nat.reduceSub, Nat.reduceMul, Nat.reduceLeDiff, Nat.reduceLT, Nat.one_ne_zero, Nat.zero_ne_one, reduceIte, reduceCtorEq, bne_self_eq_false, decide_true, decide_false, Int.reduceToNat, Int.cast_ofNat_Int, Int.reduceLT, Int.reduceLE, Int.reduceEq, Int.reduceNeg, Int.reduceAdd, Int.reduceSub, hck, hck2, w1, f1, f0, f3]
  · rw [ha]
    by_cases w1 : whole = 1
    · subst w1
      simp only [wCo, wFr, wOp, wBi, wLst, wLog, xB_other, Nat.reduceBEq, unT, loadP, storeP, partP, partT, partV, cellsP, mkAgg, allT, setRange, fillP, fieldA, indexS, indexA, indexV, indexStr, elems, lenP, pickV, cviV, nckV, extV, isNil, bound, close, close1, aft, retV, retSl, Go.Pi.one, eqT, eqs, eq1, Nat.reduceEqDiff, Nat.reduceAdd, Nat.reduceSub, Nat.reduceMul, Nat.reduceLeDiff, Nat.reduceLT, Nat.one_ne_zero, Nat.zero_ne_one, reduceIte, reduceCtorEq, bne_self_eq_false, decide_true, decide_false, Int.reduceToNat, Int.cast_ofNat_Int, Int.reduceLT, Int.reduceLE, Int.reduceEq, Int.reduceNeg, Int.reduceAdd, Int.reduceSub, hck, hck2]
    by_cases f1 : first = 1
    · subst f1
      simp only [wCo, wFr, wOp, wBi, wLst, wLog, xB_other, Nat.reduceBEq, unT, loadP, storeP, partP, partT, partV, cellsP, mkAgg, allT, setRange, fillP, fieldA, indexS, indexA, indexV, indexStr, elems, lenP, pickV, cviV, nckV, extV, isNil, bound, close, close1, aft, retV, retSl, Go.Pi.one, eqT, eqs, eq1, Nat.reduceEqDiff, Nat.reduceAdd, Nat.reduceSub, Nat.reduceMul, Nat.reduceLeDiff, Nat.reduceLT, Nat.one_ne_zero, Nat.zero_ne_one, reduceIte, reduceCtorEq, bne_self_eq_false, decide_true, decide_false, Int.reduceToNat, Int.cast_ofNat_Int, Int.reduceLT, Int.reduceLE, Int.reduceEq, Int.reduceNeg, Int.reduceAdd, Int.reduceSub, hck, hck2, w1]
    by_cases f0 : first = 0
    · subst f0
      simp only [wCo, wFr, wOp, wBi, wLst, wLog, xB_other, Nat.reduceBEq, unT, loadP, storeP, partP, partT, partV, cellsP, mkAgg, allT, setRange, fillP, fieldA, indexS, indexA, indexV, indexStr, elems, lenP, pickV, cviV, nckV, extV, isNil, bound, close, close1, aft, retV, retSl, Go.Pi.one, eqT, eqs, eq1, Nat.reduceEqDiff, Nat.reduceAdd, Nat.reduceSub, Nat.reduceMul, Nat.reduceLeDiff, Nat.reduceLT, Nat.one_ne_zero, Nat.zero_ne_one, reduceIte, reduceCtorEq, bne_self_eq_false, decide_true, decide_false, Int.reduceToNat, Int.cast_ofNat_Int, Int.reduceLT, Int.reduceLE, Int.reduceEq, Int.reduceNeg, Int.reduceAdd, Int.reduceSub, hck, hck2, w1, f1]
    by_cases f3 : first = 3
    · subst f3
      simp only [wCo, wFr, wOp, wBi, wLst, wLog, xB_other, Nat.reduceBEq, unT, loadP, storeP, partP, partT, partV, cellsP, mkAgg, allT, setRange, fillP, fieldA, indexS, indexA, indexV, indexStr, elems, lenP, pickV, cviV, nckV, extV, isNil, bound, close, close1, aft, retV, retSl, Go.Pi.one, eqT, eqs, eq1, Nat.reduceEqDiff, Nat.reduceAdd, Nat.reduceSub, Nat.reduceMul, Nat.reduceLeDiff, Nat.reduceLT, Nat.one_ne_zero, Nat.zero_ne_one, reduceIte, reduceCtorEq, bne_self_eq_false, decide_true, decide_false, Int.reduceToNat, Int.cast_ofNat_Int, Int.reduceLT, Int.reduceLE, Int.reduceEq, Int.reduceNeg, Int.reduceAdd, Int.reduceSub, hck, hck2, w1, f1, f0]
    have hl := l0 w1 f1 f0 f3
    subst hl
    simp only [wCo, wFr, wOp, wBi, wLst, wLog, xB_other, Nat.reduceBEq, unT, loadP, storeP, partP, partT, partV, cellsP, mkAgg, allT, setRange, fillP, fieldA, indexS, indexA, indexV, indexStr, elems, lenP, pickV, cviV, nckV, extV, isNil, bound, close, close1, aft, retV, retSl, Go.Pi.one, eqT, eqs, eq1, Nat.reduceEqDiff, Nat.reduceAdd, Nat.reduceSub, Nat.reduceMul, Nat.reduceLeDiff, Nat.reduceLT, Nat.one_ne_zero, Nat.zero_ne_one, reduceIte, reduceCtorEq, bne_self_eq_false, decide_true, decide_false, Int.reduceToNat, Int.cast_ofNat_Int, Int.reduceLT, Int.reduceLE, Int.reduceEq, Int.reduceNeg, Int.reduceAdd, Int.reduceSub, hck, hck2, w1, f1, f0, f3]
end Go.Proofs.Ytdjcnfacjfnakaa
