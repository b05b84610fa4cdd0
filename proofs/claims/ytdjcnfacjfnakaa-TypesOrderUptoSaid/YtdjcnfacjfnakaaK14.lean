/- Contracts: statements. -/
import Derived.Test.YtdjcnfacjfnakaaK13
set_option maxRecDepth 10000
set_option linter.unusedVariables false
set_option linter.unusedSimpArgs false
namespace Go.Proofs.Ytdjcnfacjfnakaa
open Go.Pi Go.Lx Go.Ky Go.Lib
variable {gl : Nat → Option (List T)}

/-- What the checker says of a statement. -/
def StSpec (gl : Nat → Option (List T)) (fs : Fs) (s : St) : Prop :=
  ∀ (sg : Sg) (c f n : Nat) (ns : Ns) (od : PV) (w : Int) (ow : Ow), Cs sg c f n fs ns od w → ns.length + szS s ≤ 2 * B20 → CallE F gl 49 [.lp c 0, .t (.agg (tSt s))] sg ow fun v sg' ow' => Post c f n fs od sg (stM fs s ns w) v sg'
theorem loop36 {fs : Fs} {ls : List St} {nl : Bool} (hls : ls.length ≤ B20) (hrec : ∀ s, s ∈ ls → StSpec gl fs s) {c f n : Nat} {m : Nat} {od0 : PV} {sg0 : Sg} (Q : Ex → S → Prop) : ∀ (l : List St) (i : Nat) (ns : Ns) (od : PV) (w : Int) (fr : List PV) (sg : Sg) (ow : Ow), ls.drop i = l → Cs sg c f n fs ns od w → Fq c n od0 od sg0 sg → ns.length + szSs l ≤ 2 * B20 →
    FrAt fr [(0, .lp c 0), (5, .t (.int .i64 m)), (14, .t (.sl nl (tSts ls))), (15, .t (.int .i64 ls.length)), (16, .t (.int .i64 i))] →
    ((stsM fs l ns w).1 = 0 → ∀ fr' sg' ow' od', Cs sg' c f n fs (stsM fs l ns w).2.1 od' (stsM fs l ns w).2.2 → Fq c n od0 od' sg0 sg' → FrAt fr' [(0, .lp c 0), (5, .t (.int .i64 m))] → Q (.exit 0) ⟨fr', sg', ow'⟩) →
    ((stsM fs l ns w).1 ≠ 0 → ∀ fr' sg' ow', fget fr' 4 = .t (.int .i64 (stsM fs l ns w).1) → Q .ret ⟨fr', sg', ow'⟩) →
    Xl F gl lb36_0 ⟨fr, sg, ow⟩ Q ⟨⟩ := by
  intro l
  induction l with
  | nil =>
    intro i ns od w fr sg ow hd hk hq hsz hf k1 k2
    have hd := drop_nil' hd
    simp only [FrAt_cons, FrAt_nil] at hf
    obtain ⟨f0, f5, f14, f15, f16, -⟩ := hf
    refine Xl.step ?_
    simp only [lb36_0]
    have c1 : ¬ ((i : Int) < (ls.length : Int)) := by omega
    have hem : stsM fs [] ns w = (0, ns, w) := by rw [stsM]
    rw [hem] at k1
    simp only [wCo, wFr, wOp, wBi, wLst, wLog, xB_other, Nat.reduceBEq, unT, loadP, storeP, partP, partT, partV, cellsP, mkAgg, allT, setRange, fillP, fieldA, indexS, indexA, indexV, indexStr, elems, lenP, pickV, cviV, nckV, extV, isNil, bound, close, close1, aft, retV, retSl, Go.Pi.one, eqT, eqs, eq1, Nat.reduceEqDiff, Nat.reduceAdd, Nat.reduceSub, Nat.reduceMul, Nat.reduceLeDiff, Nat.reduceLT, Nat.one_ne_zero, Nat.zero_ne_one, reduceIte, reduceCtorEq, bne_self_eq_false, decide_true, decide_false, Int.reduceToNat, Int.cast_ofNat_Int, Int.reduceLT, Int.reduceLE, Int.reduceEq, Int.reduceNeg, Int.reduceAdd, Int.reduceSub, f0, f5, f14, f15, f16, c1]
    exact k1 rfl _ _ _ od hk hq (by simp only [FrAt_cons, FrAt_nil, wFr, Nat.reduceEqDiff, Nat.one_ne_zero, Nat.zero_ne_one, reduceIte, and_self, and_true, true_and, f0, f5])
  | cons x l ih =>
    intro i ns od w fr sg ow hd hk hq hsz hf k1 k2
    obtain ⟨hx, hr, hi⟩ := drop_cons hd
    simp only [FrAt_cons, FrAt_nil] at hf
    obtain ⟨f0, f5, f14, f15, f16, -⟩ := hf
    refine Xl.step ?_
    simp only [lb36_0]
    have c1 : (i : Int) < (ls.length : Int) := by omega
    have hw1 := i64_succ hi (show ls.length ≤ 281474976710656 by have : B20 = 1100000 := rfl; omega)
    rw [stsM_cons] at k1 k2
    rw [szSs_cons] at hsz
    have hs := fun r => hrec x (List.mem_of_getElem? hx) (sg ++ r) c f n ns od w ow (hk.grow (.app _ _)) (by omega)
    simp only [tSt_eq] at hs
    simp only [wCo, wFr, wOp, wBi, wLst, wLog, xB_other, Nat.reduceBEq, unT, loadP, storeP, partP, partT, partV, cellsP, mkAgg, allT, setRange, fillP, fieldA, indexS, indexA, indexV, indexStr, elems, lenP, pickV, cviV, nckV, extV, isNil, bound, close, close1, aft, retV, retSl, Go.Pi.one, eqT, eqs, eq1, Nat.reduceEqDiff, Nat.reduceAdd, Nat.reduceSub, Nat.reduceMul, Nat.reduceLeDiff, Nat.reduceLT, Nat.one_ne_zero, Nat.zero_ne_one, reduceIte, reduceCtorEq, bne_self_eq_false, decide_true, decide_false, Int.reduceToNat, Int.cast_ofNat_Int, Int.reduceLT, Int.reduceLE, Int.reduceEq, Int.reduceNeg, Int.reduceAdd, Int.reduceSub, f0, f5, f14, f15, f16, c1, hw1, Int.toNat_natCast, hi, tSts_get, hx, Option.map_some, tSt_eq]
    refine CallE.mono (hs _) ?_
    rintro v sg' ow' ⟨rfl, hp⟩
    by_cases he : (stM fs x ns w).1 = 0
    · obtain ⟨od', hk', hq'⟩ := hp he
      rw [if_neg (by simpa using he)] at k1 k2
      simp only [wCo, wFr, wOp, wBi, wLst, wLog, xB_other, Nat.reduceBEq, unT, loadP, storeP, partP, partT, partV, cellsP, mkAgg, allT, setRange, fillP, fieldA, indexS, indexA, indexV, indexStr, elems, lenP, pickV, cviV, nckV, extV, isNil, bound, close, close1, aft, retV, retSl, Go.Pi.one, eqT, eqs, eq1, Nat.reduceEqDiff, Nat.reduceAdd, Nat.reduceSub, Nat.reduceMul, Nat.reduceLeDiff, Nat.reduceLT, Nat.one_ne_zero, Nat.zero_ne_one, reduceIte, reduceCtorEq, bne_self_eq_false, decide_true, decide_false, Int.reduceToNat, Int.cast_ofNat_Int, Int.reduceLT, Int.reduceLE, Int.reduceEq, Int.reduceNeg, Int.reduceAdd, Int.reduceSub, f0, f5, f14, f15, f16, hw1, he]
      obtain ⟨r, hr1, hr2⟩ := stM_ext fs x ns w he
      have hsx : 1 ≤ szS x := by rw [szS_eq]; omega
      refine ih (i + 1) _ od' _ _ _ _ hr hk' (hq.trans ((Fq.of (Fr.of (.app _ _))).trans hq')) (by rw [hr1, List.length_append]; omega) (by simp only [FrAt_cons, FrAt_nil, wFr, Nat.reduceEqDiff, Nat.one_ne_zero, Nat.zero_ne_one, reduceIte, and_self, and_true, true_and, f0, f5, f14, f15]) k1 k2
    · rw [if_pos (by simpa using he)] at k1 k2
      simp only [wCo, wFr, wOp, wBi, wLst, wLog, xB_other, Nat.reduceBEq, unT, loadP, storeP, partP, partT, partV, cellsP, mkAgg, allT, setRange, fillP, fieldA, indexS, indexA, indexV, indexStr, elems, lenP, pickV, cviV, nckV, extV, isNil, bound, close, close1, aft, retV, retSl, Go.Pi.one, eqT, eqs, eq1, Nat.reduceEqDiff, Nat.reduceAdd, Nat.reduceSub, Nat.reduceMul, Nat.reduceLeDiff, Nat.reduceLT, Nat.one_ne_zero, Nat.zero_ne_one, reduceIte, reduceCtorEq, bne_self_eq_false, decide_true, decide_false, Int.reduceToNat, Int.cast_ofNat_Int, Int.reduceLT, Int.reduceLE, Int.reduceEq, Int.reduceNeg, Int.reduceAdd, Int.reduceSub, f0, f5, f14, f15, f16, he]
      exact k2 he _ _ _ (by simp only [FrAt_cons, FrAt_nil, wFr, Nat.reduceEqDiff, Nat.one_ne_zero, Nat.zero_ne_one, reduceIte, and_self, and_true, true_and])
theorem ok36 {fs : Fs} {ls : List St} {nl : Bool} (hls : ls.length ≤ B20) (hrec : ∀ s, s ∈ ls → StSpec gl fs s) {c f n : Nat} {ns : Ns} {od : PV} {w : Int} {sg : Sg} (hk : Cs sg c f n fs ns od w) (hsz : ns.length + szSs ls ≤ 2 * B20) (ow : Ow) :
    CallE F gl 36 [.lp c 0, .t (.sl nl (tSts ls))] sg ow fun v sg' ow' => Post c f n fs od sg (bodyM fs ls ns w) v sg' := by
  refine XcE.of F36 rfl ?_
  simp only [ir36]
  have hc := hk.ck.c
  have hol := hk.od.len
  have hb : B20 = 1100000 := rfl
  have hb2 : B47 = 140737488355328 := rfl
  rw [bodyM_eq]
  have hn0 : ns.length ≤ 2 * B20 := by omega
  rcases hk.od.2 with ⟨rfl, rfl⟩ | ⟨oid, cs, rfl, o1, o2, o3⟩
  · simp only [wCo, wFr, wOp, wBi, wLst, wLog, xB_other, Nat.reduceBEq, unT, loadP, storeP, partP, partT, partV, cellsP, mkAgg, allT, setRange, fillP, fieldA, indexS, indexA, indexV, indexStr, elems, lenP, pickV, cviV, nckV, extV, isNil, bound, close, close1, aft, retV, retSl, Go.Pi.one, eqT, eqs, eq1, Nat.reduceEqDiff, Nat.reduceAdd, Nat.reduceSub, Nat.reduceMul, Nat.reduceLeDiff, Nat.reduceLT, Nat.one_ne_zero, Nat.zero_ne_one, reduceIte, reduceCtorEq, bne_self_eq_false, decide_true, decide_false, Int.reduceToNat, Int.cast_ofNat_Int, Int.reduceLT, Int.reduceLE, Int.reduceEq, Int.reduceNeg, Int.reduceAdd, Int.reduceSub, hc, tSts_len, List.length_nil]
    refine loop36 hls hrec (m := 0) (od0 := (.t (.sl true []))) (sg0 := sg) _ ls 0 [] (.t (.sl true [])) w _ _ _ rfl hk (Fq.refl _ _ _ _) hsz (by simp only [FrAt_cons, FrAt_nil, wFr, Nat.reduceEqDiff, Nat.one_ne_zero, Nat.zero_ne_one, reduceIte, and_self, and_true, true_and, List.length_nil]; first | done | exact ⟨rfl, rfl⟩ | rfl) ?_ ?_
    · intro h0 fr' sg' ow' od' hk' hq' hf
      rw [if_neg (by simpa using h0)]
      simp only [FrAt_cons, FrAt_nil] at hf
      obtain ⟨f0, f5, -⟩ := hf
      obtain ⟨r, hr1, hr2⟩ := stsM_ext fs ls [] w h0
      rw [hr1] at hk'
      simp only [wCo, wFr, wOp, wBi, wLst, wLog, xB_other, Nat.reduceBEq, unT, loadP, storeP, partP, partT, partV, cellsP, mkAgg, allT, setRange, fillP, fieldA, indexS, indexA, indexV, indexStr, elems, lenP, pickV, cviV, nckV, extV, isNil, bound, close, close1, aft, retV, retSl, Go.Pi.one, eqT, eqs, eq1, Nat.reduceEqDiff, Nat.reduceAdd, Nat.reduceSub, Nat.reduceMul, Nat.reduceLeDiff, Nat.reduceLT, Nat.one_ne_zero, Nat.zero_ne_one, reduceIte, reduceCtorEq, bne_self_eq_false, decide_true, decide_false, Int.reduceToNat, Int.cast_ofNat_Int, Int.reduceLT, Int.reduceLE, Int.reduceEq, Int.reduceNeg, Int.reduceAdd, Int.reduceSub, f0, f5]
      refine CallE.mono (ok52 hk' (by rw [List.length_append]; have := @List.length_nil (Nm × Sy); omega) (m := 0) (by rw [List.length_append]; have := @List.length_nil (Nm × Sy); omega) ow') ?_
      rintro v2 sg2 ow2 ⟨od2, hk2, hq2⟩
      rw [List.take_zero] at hk2
      simp only [wCo, wFr, wOp, wBi, wLst, wLog, xB_other, Nat.reduceBEq, unT, loadP, storeP, partP, partT, partV, cellsP, mkAgg, allT, setRange, fillP, fieldA, indexS, indexA, indexV, indexStr, elems, lenP, pickV, cviV, nckV, extV, isNil, bound, close, close1, aft, retV, retSl, Go.Pi.one, eqT, eqs, eq1, Nat.reduceEqDiff, Nat.reduceAdd, Nat.reduceSub, Nat.reduceMul, Nat.reduceLeDiff, Nat.reduceLT, Nat.one_ne_zero, Nat.zero_ne_one, reduceIte, reduceCtorEq, bne_self_eq_false, decide_true, decide_false, Int.reduceToNat, Int.cast_ofNat_Int, Int.reduceLT, Int.reduceLE, Int.reduceEq, Int.reduceNeg, Int.reduceAdd, Int.reduceSub, f0, f5]
      exact ⟨rfl, fun _ => ⟨od2, hk2, hq'.trans hq2⟩⟩
    · intro h0 fr' sg' ow' f4
      rw [if_pos (by simpa using h0)]
      simp only [wCo, wFr, wOp, wBi, wLst, wLog, xB_other, Nat.reduceBEq, unT, loadP, storeP, partP, partT, partV, cellsP, mkAgg, allT, setRange, fillP, fieldA, indexS, indexA, indexV, indexStr, elems, lenP, pickV, cviV, nckV, extV, isNil, bound, close, close1, aft, retV, retSl, Go.Pi.one, eqT, eqs, eq1, Nat.reduceEqDiff, Nat.reduceAdd, Nat.reduceSub, Nat.reduceMul, Nat.reduceLeDiff, Nat.reduceLT, Nat.one_ne_zero, Nat.zero_ne_one, reduceIte, reduceCtorEq, bne_self_eq_false, decide_true, decide_false, Int.reduceToNat, Int.cast_ofNat_Int, Int.reduceLT, Int.reduceLE, Int.reduceEq, Int.reduceNeg, Int.reduceAdd, Int.reduceSub, f4]
      exact ⟨rfl, fun e => absurd e h0⟩
  · simp only [wCo, wFr, wOp, wBi, wLst, wLog, xB_other, Nat.reduceBEq, unT, loadP, storeP, partP, partT, partV, cellsP, mkAgg, allT, setRange, fillP, fieldA, indexS, indexA, indexV, indexStr, elems, lenP, pickV, cviV, nckV, extV, isNil, bound, close, close1, aft, retV, retSl, Go.Pi.one, eqT, eqs, eq1, Nat.reduceEqDiff, Nat.reduceAdd, Nat.reduceSub, Nat.reduceMul, Nat.reduceLeDiff, Nat.reduceLT, Nat.one_ne_zero, Nat.zero_ne_one, reduceIte, reduceCtorEq, bne_self_eq_false, decide_true, decide_false, Int.reduceToNat, Int.cast_ofNat_Int, Int.reduceLT, Int.reduceLE, Int.reduceEq, Int.reduceNeg, Int.reduceAdd, Int.reduceSub, hc, tSts_len, List.length_nil]
    refine loop36 hls hrec (m := ns.length) (od0 := (.bf oid ns.length 1)) (sg0 := sg) _ ls 0 ns (.bf oid ns.length 1) w _ _ _ rfl hk (Fq.refl _ _ _ _) hsz (by simp only [FrAt_cons, FrAt_nil, wFr, Nat.reduceEqDiff, Nat.one_ne_zero, Nat.zero_ne_one, reduceIte, and_self, and_true, true_and, List.length_nil]; first | done | exact ⟨rfl, rfl⟩ | rfl) ?_ ?_
    · intro h0 fr' sg' ow' od' hk' hq' hf
      rw [if_neg (by simpa using h0)]
      simp only [FrAt_cons, FrAt_nil] at hf
      obtain ⟨f0, f5, -⟩ := hf
      obtain ⟨r, hr1, hr2⟩ := stsM_ext fs ls ns w h0
      rw [hr1] at hk'
      simp only [wCo, wFr, wOp, wBi, wLst, wLog, xB_other, Nat.reduceBEq, unT, loadP, storeP, partP, partT, partV, cellsP, mkAgg, allT, setRange, fillP, fieldA, indexS, indexA, indexV, indexStr, elems, lenP, pickV, cviV, nckV, extV, isNil, bound, close, close1, aft, retV, retSl, Go.Pi.one, eqT, eqs, eq1, Nat.reduceEqDiff, Nat.reduceAdd, Nat.reduceSub, Nat.reduceMul, Nat.reduceLeDiff, Nat.reduceLT, Nat.one_ne_zero, Nat.zero_ne_one, reduceIte, reduceCtorEq, bne_self_eq_false, decide_true, decide_false, Int.reduceToNat, Int.cast_ofNat_Int, Int.reduceLT, Int.reduceLE, Int.reduceEq, Int.reduceNeg, Int.reduceAdd, Int.reduceSub, f0, f5]
      refine CallE.mono (ok52 hk' (by rw [List.length_append]; have := hn0; omega) (m := ns.length) (by rw [List.length_append]; have := hn0; omega) ow') ?_
      rintro v2 sg2 ow2 ⟨od2, hk2, hq2⟩
      rw [List.take_left] at hk2
      simp only [wCo, wFr, wOp, wBi, wLst, wLog, xB_other, Nat.reduceBEq, unT, loadP, storeP, partP, partT, partV, cellsP, mkAgg, allT, setRange, fillP, fieldA, indexS, indexA, indexV, indexStr, elems, lenP, pickV, cviV, nckV, extV, isNil, bound, close, close1, aft, retV, retSl, Go.Pi.one, eqT, eqs, eq1, Nat.reduceEqDiff, Nat.reduceAdd, Nat.reduceSub, Nat.reduceMul, Nat.reduceLeDiff, Nat.reduceLT, Nat.one_ne_zero, Nat.zero_ne_one, reduceIte, reduceCtorEq, bne_self_eq_false, decide_true, decide_false, Int.reduceToNat, Int.cast_ofNat_Int, Int.reduceLT, Int.reduceLE, Int.reduceEq, Int.reduceNeg, Int.reduceAdd, Int.reduceSub, f0, f5]
      exact ⟨rfl, fun _ => ⟨od2, hk2, hq'.trans hq2⟩⟩
    · intro h0 fr' sg' ow' f4
      rw [if_pos (by simpa using h0)]
      simp only [wCo, wFr, wOp, wBi, wLst, wLog, xB_other, Nat.reduceBEq, unT, loadP, storeP, partP, partT, partV, cellsP, mkAgg, allT, setRange, fillP, fieldA, indexS, indexA, indexV, indexStr, elems, lenP, pickV, cviV, nckV, extV, isNil, bound, close, close1, aft, retV, retSl, Go.Pi.one, eqT, eqs, eq1, Nat.reduceEqDiff, Nat.reduceAdd, Nat.reduceSub, Nat.reduceMul, Nat.reduceLeDiff, Nat.reduceLT, Nat.one_ne_zero, Nat.zero_ne_one, reduceIte, reduceCtorEq, bne_self_eq_false, decide_true, decide_false, Int.reduceToNat, Int.cast_ofNat_Int, Int.reduceLT, Int.reduceLE, Int.reduceEq, Int.reduceNeg, Int.reduceAdd, Int.reduceSub, f4]
      exact ⟨rfl, fun e => absurd e h0⟩
theorem ok60 {fs : Fs} {s : St} (h3 : s.kind = 3) (hsz0 : szS s ≤ B20) (hrec : ∀ b, b ∈ s.body → StSpec gl fs b) {c f n : Nat} {ns : Ns} {od : PV} {w : Int} {sg : Sg} (hk : Cs sg c f n fs ns od w) (hsz : ns.length + szS s ≤ 2 * B20) (ow : Ow) :
    CallE F gl 60 [.lp c 0, .t (.agg (tSt s))] sg ow fun v sg' ow' => Post c f n fs od sg (stM fs s ns w) v sg' := by
  refine XcE.of F60 rfl ?_
  simp only [ir60]
  have hcl := lt_of_get hk.ck.c
  have hc := hk.ck.c
  have hb : B20 = 1100000 := rfl
  have hb2 : B47 = 140737488355328 := rfl
  have hsz2 := hsz0
  rw [szS_eq] at hsz hsz2
  have hbl : s.body.length ≤ B20 := by have := szSs_len s.body; omega
  by_cases hlh : s.lo > s.hi
  · rw [stM_loop h3, if_pos hlh]
    simp only [wCo, wFr, wOp, wBi, wLst, wLog, xB_other, Nat.reduceBEq, unT, loadP, storeP, partP, partT, partV, cellsP, mkAgg, allT, setRange, fillP, fieldA, indexS, indexA, indexV, indexStr, elems, lenP, pickV, cviV, nckV, extV, isNil, bound, close, close1, aft, retV, retSl, Go.Pi.one, eqT, eqs, eq1, Nat.reduceEqDiff, Nat.reduceAdd, Nat.reduceSub, Nat.reduceMul, Nat.reduceLeDiff, Nat.reduceLT, Nat.one_ne_zero, Nat.zero_ne_one, reduceIte, reduceCtorEq, bne_self_eq_false, decide_true, decide_false, Int.reduceToNat, Int.cast_ofNat_Int, Int.reduceLT, Int.reduceLE, Int.reduceEq, Int.reduceNeg, Int.reduceAdd, Int.reduceSub, tSt_eq, hlh]
    exact ⟨rfl, fun h => by cases h⟩
  have hdec := fun r o => ok34 (gl := gl) (hk.grow (.app sg r)) s.name ⟨fieldT, true, s.lo, s.hi⟩ (by omega) o
  rcases hk.od.2 with ⟨rfl, rfl⟩ | ⟨oid, cs, rfl, o1, o2, o3⟩
  · simp only [wCo, wFr, wOp, wBi, wLst, wLog, xB_other, Nat.reduceBEq, unT, loadP, storeP, partP, partT, partV, cellsP, mkAgg, allT, setRange, fillP, fieldA, indexS, indexA, indexV, indexStr, elems, lenP, pickV, cviV, nckV, extV, isNil, bound, close, close1, aft, retV, retSl, Go.Pi.one, eqT, eqs, eq1, Nat.reduceEqDiff, Nat.reduceAdd, Nat.reduceSub, Nat.reduceMul, Nat.reduceLeDiff, Nat.reduceLT, Nat.one_ne_zero, Nat.zero_ne_one, reduceIte, reduceCtorEq, bne_self_eq_false, decide_true, decide_false, Int.reduceToNat, Int.cast_ofNat_Int, Int.reduceLT, Int.reduceLE, Int.reduceEq, Int.reduceNeg, Int.reduceAdd, Int.reduceSub, tSt_eq, hlh, app_get hcl, hc, ok61, List.length_nil]
    refine CallE.mono (hdec _ _) ?_
    rintro v sg1 ow1 ⟨rfl, hp1⟩
    by_cases hd : (decM s.name ⟨fieldT, true, s.lo, s.hi⟩ [] w).1 = 0
    · obtain ⟨od1, hk1, hq1⟩ := hp1 hd
      have hqe := decM_ext hd
      rw [hqe] at hk1
      have j3 := hq1.get (i := sg.length) (v := (false, [.t (.int .i64 s.kind), .t (.str s.name), .t (.bool s.typed), .t (.int .i64 s.ty.kind), .t (.int .i64 s.ty.bits), .t (.int .i64 s.ty.len), .t (.int .i64 s.ex.op), .t (.int .u64 s.ex.val), .t (.str s.ex.name), .t (.sl s.ex.nl (tExs s.ex.args)), .t (.int .i64 s.lo), .t (.int .i64 s.hi), .t (.sl s.nl (tSts s.body))])) (by simp) (by omega) (by have := lt_of_get hk.ck.n; omega) (hk.notB2 (Nat.le_refl _))
      simp only [wCo, wFr, wOp, wBi, wLst, wLog, xB_other, Nat.reduceBEq, unT, loadP, storeP, partP, partT, partV, cellsP, mkAgg, allT, setRange, fillP, fieldA, indexS, indexA, indexV, indexStr, elems, lenP, pickV, cviV, nckV, extV, isNil, bound, close, close1, aft, retV, retSl, Go.Pi.one, eqT, eqs, eq1, Nat.reduceEqDiff, Nat.reduceAdd, Nat.reduceSub, Nat.reduceMul, Nat.reduceLeDiff, Nat.reduceLT, Nat.one_ne_zero, Nat.zero_ne_one, reduceIte, reduceCtorEq, bne_self_eq_false, decide_true, decide_false, Int.reduceToNat, Int.cast_ofNat_Int, Int.reduceLT, Int.reduceLE, Int.reduceEq, Int.reduceNeg, Int.reduceAdd, Int.reduceSub, j3, List.length_nil, hd]
      refine CallE.mono (ok36 hbl hrec hk1 (by simp only [List.length_append, List.length_cons, List.length_nil]; simp only [List.length_nil] at hsz; omega) _) ?_
      rintro v sg2 ow2 ⟨rfl, hp2⟩
      by_cases hb0 : (stsM fs s.body ([] ++ [(s.name, ⟨fieldT, true, s.lo, s.hi⟩)]) w).1 = 0
      · have hM : stM fs s [] w = (0, [], (stsM fs s.body ([] ++ [(s.name, ⟨fieldT, true, s.lo, s.hi⟩)]) w).2.2) := by
          rw [stM_loop h3, if_neg hlh, if_neg (by simpa using hd), hqe, if_neg (by simpa using hb0)]
        rw [hM]
        have hB : bodyM fs s.body ([] ++ [(s.name, ⟨fieldT, true, s.lo, s.hi⟩)]) w = (0, [] ++ [(s.name, ⟨fieldT, true, s.lo, s.hi⟩)], (stsM fs s.body ([] ++ [(s.name, ⟨fieldT, true, s.lo, s.hi⟩)]) w).2.2) := by
          rw [bodyM_eq, if_neg (by simpa using hb0)]
        rw [hB] at hp2 ⊢
        obtain ⟨od2, hk2, hq2⟩ := hp2 rfl
        simp only [wCo, wFr, wOp, wBi, wLst, wLog, xB_other, Nat.reduceBEq, unT, loadP, storeP, partP, partT, partV, cellsP, mkAgg, allT, setRange, fillP, fieldA, indexS, indexA, indexV, indexStr, elems, lenP, pickV, cviV, nckV, extV, isNil, bound, close, close1, aft, retV, retSl, Go.Pi.one, eqT, eqs, eq1, Nat.reduceEqDiff, Nat.reduceAdd, Nat.reduceSub, Nat.reduceMul, Nat.reduceLeDiff, Nat.reduceLT, Nat.one_ne_zero, Nat.zero_ne_one, reduceIte, reduceCtorEq, bne_self_eq_false, decide_true, decide_false, Int.reduceToNat, Int.cast_ofNat_Int, Int.reduceLT, Int.reduceLE, Int.reduceEq, Int.reduceNeg, Int.reduceAdd, Int.reduceSub, hb0]
        refine CallE.mono (ok52 hk2 (m := 0) (by simp only [List.length_append, List.length_cons, List.length_nil]; simp only [List.length_nil] at hsz; omega) (by simp) ow2) ?_
        rintro v sg3 ow3 ⟨od3, hk3, hq3⟩
        rw [List.take_zero] at hk3
        simp only [wCo, wFr, wOp, wBi, wLst, wLog, xB_other, Nat.reduceBEq, unT, loadP, storeP, partP, partT, partV, cellsP, mkAgg, allT, setRange, fillP, fieldA, indexS, indexA, indexV, indexStr, elems, lenP, pickV, cviV, nckV, extV, isNil, bound, close, close1, aft, retV, retSl, Go.Pi.one, eqT, eqs, eq1, Nat.reduceEqDiff, Nat.reduceAdd, Nat.reduceSub, Nat.reduceMul, Nat.reduceLeDiff, Nat.reduceLT, Nat.one_ne_zero, Nat.zero_ne_one, reduceIte, reduceCtorEq, bne_self_eq_false, decide_true, decide_false, Int.reduceToNat, Int.cast_ofNat_Int, Int.reduceLT, Int.reduceLE, Int.reduceEq, Int.reduceNeg, Int.reduceAdd, Int.reduceSub]
        exact ⟨rfl, fun _ => ⟨od3, hk3, ((Fq.of (Fr.of (.app _ _))).trans hq1).trans (hq2.trans hq3)⟩⟩
      · have hM : stM fs s [] w = stsM fs s.body ([] ++ [(s.name, ⟨fieldT, true, s.lo, s.hi⟩)]) w := by
          rw [stM_loop h3, if_neg hlh, if_neg (by simpa using hd), hqe, if_pos (by simpa using hb0)]
        rw [hM]
        have hB : bodyM fs s.body ([] ++ [(s.name, ⟨fieldT, true, s.lo, s.hi⟩)]) w = stsM fs s.body ([] ++ [(s.name, ⟨fieldT, true, s.lo, s.hi⟩)]) w := by
          rw [bodyM_eq, if_pos (by simpa using hb0)]
        rw [hB]
        generalize stsM fs s.body ([] ++ [(s.name, ⟨fieldT, true, s.lo, s.hi⟩)]) w = qq at hb0 ⊢
        simp only [wCo, wFr, wOp, wBi, wLst, wLog, xB_other, Nat.reduceBEq, unT, loadP, storeP, partP, partT, partV, cellsP, mkAgg, allT, setRange, fillP, fieldA, indexS, indexA, indexV, indexStr, elems, lenP, pickV, cviV, nckV, extV, isNil, bound, close, close1, aft, retV, retSl, Go.Pi.one, eqT, eqs, eq1, Nat.reduceEqDiff, Nat.reduceAdd, Nat.reduceSub, Nat.reduceMul, Nat.reduceLeDiff, Nat.reduceLT, Nat.one_ne_zero, Nat.zero_ne_one, reduceIte, reduceCtorEq, bne_self_eq_false, decide_true, decide_false, Int.reduceToNat, Int.cast_ofNat_Int, Int.reduceLT, Int.reduceLE, Int.reduceEq, Int.reduceNeg, Int.reduceAdd, Int.reduceSub, hb0]
        exact ⟨rfl, fun e => absurd e hb0⟩
    · have hM : stM fs s [] w = decM s.name ⟨fieldT, true, s.lo, s.hi⟩ [] w := by
        rw [stM_loop h3, if_neg hlh, if_pos (by simpa using hd)]
      rw [hM]
      simp only [wCo, wFr, wOp, wBi, wLst, wLog, xB_other, Nat.reduceBEq, unT, loadP, storeP, partP, partT, partV, cellsP, mkAgg, allT, setRange, fillP, fieldA, indexS, indexA, indexV, indexStr, elems, lenP, pickV, cviV, nckV, extV, isNil, bound, close, close1, aft, retV, retSl, Go.Pi.one, eqT, eqs, eq1, Nat.reduceEqDiff, Nat.reduceAdd, Nat.reduceSub, Nat.reduceMul, Nat.reduceLeDiff, Nat.reduceLT, Nat.one_ne_zero, Nat.zero_ne_one, reduceIte, reduceCtorEq, bne_self_eq_false, decide_true, decide_false, Int.reduceToNat, Int.cast_ofNat_Int, Int.reduceLT, Int.reduceLE, Int.reduceEq, Int.reduceNeg, Int.reduceAdd, Int.reduceSub, hd]
      exact ⟨rfl, fun e => absurd e hd⟩
  · simp only [wCo, wFr, wOp, wBi, wLst, wLog, xB_other, Nat.reduceBEq, unT, loadP, storeP, partP, partT, partV, cellsP, mkAgg, allT, setRange, fillP, fieldA, indexS, indexA, indexV, indexStr, elems, lenP, pickV, cviV, nckV, extV, isNil, bound, close, close1, aft, retV, retSl, Go.Pi.one, eqT, eqs, eq1, Nat.reduceEqDiff, Nat.reduceAdd, Nat.reduceSub, Nat.reduceMul, Nat.reduceLeDiff, Nat.reduceLT, Nat.one_ne_zero, Nat.zero_ne_one, reduceIte, reduceCtorEq, bne_self_eq_false, decide_true, decide_false, Int.reduceToNat, Int.cast_ofNat_Int, Int.reduceLT, Int.reduceLE, Int.reduceEq, Int.reduceNeg, Int.reduceAdd, Int.reduceSub, tSt_eq, hlh, app_get hcl, hc, ok61, List.length_nil]
    refine CallE.mono (hdec _ _) ?_
    rintro v sg1 ow1 ⟨rfl, hp1⟩
    by_cases hd : (decM s.name ⟨fieldT, true, s.lo, s.hi⟩ ns w).1 = 0
    · obtain ⟨od1, hk1, hq1⟩ := hp1 hd
      have hqe := decM_ext hd
      rw [hqe] at hk1
      have j3 := hq1.get (i := sg.length) (v := (false, [.t (.int .i64 s.kind), .t (.str s.name), .t (.bool s.typed), .t (.int .i64 s.ty.kind), .t (.int .i64 s.ty.bits), .t (.int .i64 s.ty.len), .t (.int .i64 s.ex.op), .t (.int .u64 s.ex.val), .t (.str s.ex.name), .t (.sl s.ex.nl (tExs s.ex.args)), .t (.int .i64 s.lo), .t (.int .i64 s.hi), .t (.sl s.nl (tSts s.body))])) (by simp) (by omega) (by have := lt_of_get hk.ck.n; omega) (hk.notB2 (Nat.le_refl _))
      simp only [wCo, wFr, wOp, wBi, wLst, wLog, xB_other, Nat.reduceBEq, unT, loadP, storeP, partP, partT, partV, cellsP, mkAgg, allT, setRange, fillP, fieldA, indexS, indexA, indexV, indexStr, elems, lenP, pickV, cviV, nckV, extV, isNil, bound, close, close1, aft, retV, retSl, Go.Pi.one, eqT, eqs, eq1, Nat.reduceEqDiff, Nat.reduceAdd, Nat.reduceSub, Nat.reduceMul, Nat.reduceLeDiff, Nat.reduceLT, Nat.one_ne_zero, Nat.zero_ne_one, reduceIte, reduceCtorEq, bne_self_eq_false, decide_true, decide_false, Int.reduceToNat, Int.cast_ofNat_Int, Int.reduceLT, Int.reduceLE, Int.reduceEq, Int.reduceNeg, Int.reduceAdd, Int.reduceSub, j3, List.length_nil, hd]
      refine CallE.mono (ok36 hbl hrec hk1 (by simp only [List.length_append, List.length_cons, List.length_nil]; omega) _) ?_
      rintro v sg2 ow2 ⟨rfl, hp2⟩
      by_cases hb0 : (stsM fs s.body (ns ++ [(s.name, ⟨fieldT, true, s.lo, s.hi⟩)]) w).1 = 0
      · have hM : stM fs s ns w = (0, ns, (stsM fs s.body (ns ++ [(s.name, ⟨fieldT, true, s.lo, s.hi⟩)]) w).2.2) := by
          rw [stM_loop h3, if_neg hlh, if_neg (by simpa using hd), hqe, if_neg (by simpa using hb0)]
        rw [hM]
        have hB : bodyM fs s.body (ns ++ [(s.name, ⟨fieldT, true, s.lo, s.hi⟩)]) w = (0, ns ++ [(s.name, ⟨fieldT, true, s.lo, s.hi⟩)], (stsM fs s.body (ns ++ [(s.name, ⟨fieldT, true, s.lo, s.hi⟩)]) w).2.2) := by
          rw [bodyM_eq, if_neg (by simpa using hb0)]
        rw [hB] at hp2 ⊢
        obtain ⟨od2, hk2, hq2⟩ := hp2 rfl
        simp only [wCo, wFr, wOp, wBi, wLst, wLog, xB_other, Nat.reduceBEq, unT, loadP, storeP, partP, partT, partV, cellsP, mkAgg, allT, setRange, fillP, fieldA, indexS, indexA, indexV, indexStr, elems, lenP, pickV, cviV, nckV, extV, isNil, bound, close, close1, aft, retV, retSl, Go.Pi.one, eqT, eqs, eq1, Nat.reduceEqDiff, Nat.reduceAdd, Nat.reduceSub, Nat.reduceMul, Nat.reduceLeDiff, Nat.reduceLT, Nat.one_ne_zero, Nat.zero_ne_one, reduceIte, reduceCtorEq, bne_self_eq_false, decide_true, decide_false, Int.reduceToNat, Int.cast_ofNat_Int, Int.reduceLT, Int.reduceLE, Int.reduceEq, Int.reduceNeg, Int.reduceAdd, Int.reduceSub, hb0]
        refine CallE.mono (ok52 hk2 (m := ns.length) (by simp only [List.length_append, List.length_cons, List.length_nil]; omega) (by simp) ow2) ?_
        rintro v sg3 ow3 ⟨od3, hk3, hq3⟩
        rw [List.take_left] at hk3
        simp only [wCo, wFr, wOp, wBi, wLst, wLog, xB_other, Nat.reduceBEq, unT, loadP, storeP, partP, partT, partV, cellsP, mkAgg, allT, setRange, fillP, fieldA, indexS, indexA, indexV, indexStr, elems, lenP, pickV, cviV, nckV, extV, isNil, bound, close, close1, aft, retV, retSl, Go.Pi.one, eqT, eqs, eq1, Nat.reduceEqDiff, Nat.reduceAdd, Nat.reduceSub, Nat.reduceMul, Nat.reduceLeDiff, Nat.reduceLT, Nat.one_ne_zero, Nat.zero_ne_one, reduceIte, reduceCtorEq, bne_self_eq_false, decide_true, decide_false, Int.reduceToNat, Int.cast_ofNat_Int, Int.reduceLT, Int.reduceLE, Int.reduceEq, Int.reduceNeg, Int.reduceAdd, Int.reduceSub]
        exact ⟨rfl, fun _ => ⟨od3, hk3, ((Fq.of (Fr.of (.app _ _))).trans hq1).trans (hq2.trans hq3)⟩⟩
      · have hM : stM fs s ns w = stsM fs s.body (ns ++ [(s.name, ⟨fieldT, true, s.lo, s.hi⟩)]) w := by
          rw [stM_loop h3, if_neg hlh, if_neg (by simpa using hd), hqe, if_pos (by simpa using hb0)]
        rw [hM]
        have hB : bodyM fs s.body (ns ++ [(s.name, ⟨fieldT, true, s.lo, s.hi⟩)]) w = stsM fs s.body (ns ++ [(s.name, ⟨fieldT, true, s.lo, s.hi⟩)]) w := by
          rw [bodyM_eq, if_pos (by simpa using hb0)]
        rw [hB]
        generalize stsM fs s.body (ns ++ [(s.name, ⟨fieldT, true, s.lo, s.hi⟩)]) w = qq at hb0 ⊢
        simp only [wCo, wFr, wOp, wBi, wLst, wLog, xB_other, Nat.reduceBEq, unT, loadP, storeP, partP, partT, partV, cellsP, mkAgg, allT, setRange, fillP, fieldA, indexS, indexA, indexV, indexStr, elems, lenP, pickV, cviV, nckV, extV, isNil, bound, close, close1, aft, retV, retSl, Go.Pi.one, eqT, eqs, eq1, Nat.reduceEqDiff, Nat.reduceAdd, Nat.reduceSub, Nat.reduceMul, Nat.reduceLeDiff, Nat.reduceLT, Nat.one_ne_zero, Nat.zero_ne_one, reduceIte, reduceCtorEq, bne_self_eq_false, decide_true, decide_false, Int.reduceToNat, Int.cast_ofNat_Int, Int.reduceLT, Int.reduceLE, Int.reduceEq, Int.reduceNeg, Int.reduceAdd, Int.reduceSub, hb0]
        exact ⟨rfl, fun e => absurd e hb0⟩
    · have hM : stM fs s ns w = decM s.name ⟨fieldT, true, s.lo, s.hi⟩ ns w := by
        rw [stM_loop h3, if_neg hlh, if_pos (by simpa using hd)]
      rw [hM]
      simp only [wCo, wFr, wOp, wBi, wLst, wLog, xB_other, Nat.reduceBEq, unT, loadP, storeP, partP, partT, partV, cellsP, mkAgg, allT, setRange, fillP, fieldA, indexS, indexA, indexV, indexStr, elems, lenP, pickV, cviV, nckV, extV, isNil, bound, close, close1, aft, retV, retSl, Go.Pi.one, eqT, eqs, eq1, Nat.reduceEqDiff, Nat.reduceAdd, Nat.reduceSub, Nat.reduceMul, Nat.reduceLeDiff, Nat.reduceLT, Nat.one_ne_zero, Nat.zero_ne_one, reduceIte, reduceCtorEq, bne_self_eq_false, decide_true, decide_false, Int.reduceToNat, Int.cast_ofNat_Int, Int.reduceLT, Int.reduceLE, Int.reduceEq, Int.reduceNeg, Int.reduceAdd, Int.reduceSub, hd]
      exact ⟨rfl, fun e => absurd e hd⟩
theorem ok49 {fs : Fs} : ∀ s, StOk s → stB s = true → szS s ≤ B20 → StSpec gl fs s := by
  refine St.ind fun s ih hok hB hsz0 => ?_
  intro sg c f n ns od w ow hk hsz
  refine XcE.of F49 rfl ?_
  simp only [ir49]
  have hcl := lt_of_get hk.ck.c
  have hb : B20 = 1100000 := rfl
  have hb2 : B47 = 140737488355328 := rfl
  by_cases h3 : s.kind = 3
  · have hrec : ∀ b, b ∈ s.body → StSpec gl fs b := fun b hb => ih b hb (stOk_body hok b hb) (stB_body hB h3 b hb) ((szS_body hsz0).2 b hb)
    have hq := fun r => ok60 (gl := gl) h3 hsz0 hrec (hk.grow (.app sg r)) hsz ow
    simp only [tSt_eq, h3] at hq
    simp only [wCo, wFr, wOp, wBi, wLst, wLog, xB_other, Nat.reduceBEq, unT, loadP, storeP, partP, partT, partV, cellsP, mkAgg, allT, setRange, fillP, fieldA, indexS, indexA, indexV, indexStr, elems, lenP, pickV, cviV, nckV, extV, isNil, bound, close, close1, aft, retV, retSl, Go.Pi.one, eqT, eqs, eq1, Nat.reduceEqDiff, Nat.reduceAdd, Nat.reduceSub, Nat.reduceMul, Nat.reduceLeDiff, Nat.reduceLT, Nat.one_ne_zero, Nat.zero_ne_one, reduceIte, reduceCtorEq, bne_self_eq_false, decide_true, decide_false, Int.reduceToNat, Int.cast_ofNat_Int, Int.reduceLT, Int.reduceLE, Int.reduceEq, Int.reduceNeg, Int.reduceAdd, Int.reduceSub, tSt_eq, h3]
    refine CallE.mono (hq _) ?_
    rintro v sg1 ow1 ⟨rfl, hp⟩
    simp only [wCo, wFr, wOp, wBi, wLst, wLog, xB_other, Nat.reduceBEq, unT, loadP, storeP, partP, partT, partV, cellsP, mkAgg, allT, setRange, fillP, fieldA, indexS, indexA, indexV, indexStr, elems, lenP, pickV, cviV, nckV, extV, isNil, bound, close, close1, aft, retV, retSl, Go.Pi.one, eqT, eqs, eq1, Nat.reduceEqDiff, Nat.reduceAdd, Nat.reduceSub, Nat.reduceMul, Nat.reduceLeDiff, Nat.reduceLT, Nat.one_ne_zero, Nat.zero_ne_one, reduceIte, reduceCtorEq, bne_self_eq_false, decide_true, decide_false, Int.reduceToNat, Int.cast_ofNat_Int, Int.reduceLT, Int.reduceLE, Int.reduceEq, Int.reduceNeg, Int.reduceAdd, Int.reduceSub]
    exact ⟨rfl, fun e => by obtain ⟨od', h1, h2⟩ := hp e; exact ⟨od', h1, (Fq.of (Fr.of (.app _ _))).trans h2⟩⟩
  have hex := fun r => ok50 (gl := gl) (fs := fs) (ns := ns) s.ex (stOk_ex hok) (Nat.le_trans (szS_ex s) hsz0) (stB_ex hB h3) (sg ++ r) c f n od w ow (hk.ck.grow (.app _ _))
  simp only [tEx_eq] at hex
  simp only [wCo, wFr, wOp, wBi, wLst, wLog, xB_other, Nat.reduceBEq, unT, loadP, storeP, partP, partT, partV, cellsP, mkAgg, allT, setRange, fillP, fieldA, indexS, indexA, indexV, indexStr, elems, lenP, pickV, cviV, nckV, extV, isNil, bound, close, close1, aft, retV, retSl, Go.Pi.one, eqT, eqs, eq1, Nat.reduceEqDiff, Nat.reduceAdd, Nat.reduceSub, Nat.reduceMul, Nat.reduceLeDiff, Nat.reduceLT, Nat.one_ne_zero, Nat.zero_ne_one, reduceIte, reduceCtorEq, bne_self_eq_false, decide_true, decide_false, Int.reduceToNat, Int.cast_ofNat_Int, Int.reduceLT, Int.reduceLE, Int.reduceEq, Int.reduceNeg, Int.reduceAdd, Int.reduceSub, tSt_eq, h3]
  refine CallE.mono (hex _) ?_
  rintro v sg1 ow1 ⟨rfl, hc1, hfr1⟩
  have hF : Fr c sg sg1 := (Fr.of (.app _ _)).trans hfr1
  have hk1 := hk.fr hF hc1
  have j3 := hfr1.get (i := sg.length) (x := (false, [.t (.int .i64 s.kind), .t (.str s.name), .t (.bool s.typed), .t (.int .i64 s.ty.kind), .t (.int .i64 s.ty.bits), .t (.int .i64 s.ty.len), .t (.int .i64 s.ex.op), .t (.int .u64 s.ex.val), .t (.str s.ex.name), .t (.sl s.ex.nl (tExs s.ex.args)), .t (.int .i64 s.lo), .t (.int .i64 s.hi), .t (.sl s.nl (tSts s.body))])) (by simp) (by omega)
  have m3 := lt_of_get j3
  rw [stM_let h3]
  generalize exM fs ns s.ex w = q at *
  obtain ⟨⟨t, er⟩, w1⟩ := q
  simp only at hc1 hk1 ⊢
  by_cases he : er = 0
  · subst he
    rw [if_neg (by simp)]
    by_cases h2 : s.kind = 2
    · rw [if_pos h2]
      simp only [wCo, wFr, wOp, wBi, wLst, wLog, xB_other, Nat.reduceBEq, unT, loadP, storeP, partP, partT, partV, cellsP, mkAgg, allT, setRange, fillP, fieldA, indexS, indexA, indexV, indexStr, elems, lenP, pickV, cviV, nckV, extV, isNil, bound, close, close1, aft, retV, retSl, Go.Pi.one, eqT, eqs, eq1, Nat.reduceEqDiff, Nat.reduceAdd, Nat.reduceSub, Nat.reduceMul, Nat.reduceLeDiff, Nat.reduceLT, Nat.one_ne_zero, Nat.zero_ne_one, reduceIte, reduceCtorEq, bne_self_eq_false, decide_true, decide_false, Int.reduceToNat, Int.cast_ofNat_Int, Int.reduceLT, Int.reduceLE, Int.reduceEq, Int.reduceNeg, Int.reduceAdd, Int.reduceSub, h2, app_get m3, j3, ok61]
      repeat' ((with_reducible first | refine xG_dec ?_ ?_ | refine xG_ndec ?_ ?_ | refine xG_nsplit ?_ ?_ | refine xG_split ?_ ?_ | refine xC_dec ?_ ?_ | refine xC_ndec ?_ ?_ | refine xC_nsplit ?_ ?_ | refine xC_split ?_ ?_) <;> intro h <;> (try simp only [wCo, wFr, wOp, wBi, wLst, wLog, xB_other, Nat.reduceBEq, unT, loadP, storeP, partP, partT, partV, cellsP, mkAgg, allT, setRange, fillP, fieldA, indexS, indexA, indexV, indexStr, elems, lenP, pickV, cviV, nckV, extV, isNil, bound, close, close1, aft, retV, retSl, Go.Pi.one, eqT, eqs, eq1, Nat.reduceEqDiff, Nat.reduceAdd, Nat.reduceSub, Nat.reduceMul, Nat.reduceLeDiff, Nat.reduceLT, Nat.one_ne_zero, Nat.zero_ne_one, reduceIte, reduceCtorEq, bne_self_eq_false, decide_true, decide_false, Int.reduceToNat, Int.cast_ofNat_Int, Int.reduceLT, Int.reduceLE, Int.reduceEq, Int.reduceNeg, Int.reduceAdd, Int.reduceSub, h2, app_get m3, j3, ok61, h]))
      · rw [ty_beq] at h
        rw [if_neg (fun e => e (of_decide_eq_true h))]
        exact ⟨rfl, fun _ => ⟨od, hk1.grow (.app _ _), Fq.of (hF.app _)⟩⟩
      · rw [ty_beq] at h
        rw [if_pos (show t ≠ boolT from of_decide_eq_false h)]
        exact ⟨rfl, fun e => by cases e⟩
    · rw [if_neg h2]
      cases hty : s.typed with
      | false =>
        have hdec := fun r => ok34 (gl := gl) (hk1.grow (.app sg1 r)) s.name ⟨t, false, 0, 0⟩ (by omega) ow1
        rw [if_neg (by simp)]
        simp only [wCo, wFr, wOp, wBi, wLst, wLog, xB_other, Nat.reduceBEq, unT, loadP, storeP, partP, partT, partV, cellsP, mkAgg, allT, setRange, fillP, fieldA, indexS, indexA, indexV, indexStr, elems, lenP, pickV, cviV, nckV, extV, isNil, bound, close, close1, aft, retV, retSl, Go.Pi.one, eqT, eqs, eq1, Nat.reduceEqDiff, Nat.reduceAdd, Nat.reduceSub, Nat.reduceMul, Nat.reduceLeDiff, Nat.reduceLT, Nat.one_ne_zero, Nat.zero_ne_one, reduceIte, reduceCtorEq, bne_self_eq_false, decide_true, decide_false, Int.reduceToNat, Int.cast_ofNat_Int, Int.reduceLT, Int.reduceLE, Int.reduceEq, Int.reduceNeg, Int.reduceAdd, Int.reduceSub, h2, app_get m3, j3, hty]
        refine CallE.mono (hdec _) ?_
        rintro v sg2 ow2 ⟨rfl, hp⟩
        simp only [wCo, wFr, wOp, wBi, wLst, wLog, xB_other, Nat.reduceBEq, unT, loadP, storeP, partP, partT, partV, cellsP, mkAgg, allT, setRange, fillP, fieldA, indexS, indexA, indexV, indexStr, elems, lenP, pickV, cviV, nckV, extV, isNil, bound, close, close1, aft, retV, retSl, Go.Pi.one, eqT, eqs, eq1, Nat.reduceEqDiff, Nat.reduceAdd, Nat.reduceSub, Nat.reduceMul, Nat.reduceLeDiff, Nat.reduceLT, Nat.one_ne_zero, Nat.zero_ne_one, reduceIte, reduceCtorEq, bne_self_eq_false, decide_true, decide_false, Int.reduceToNat, Int.cast_ofNat_Int, Int.reduceLT, Int.reduceLE, Int.reduceEq, Int.reduceNeg, Int.reduceAdd, Int.reduceSub]
        exact ⟨rfl, fun e => by obtain ⟨od', x1, x2⟩ := hp e; exact ⟨od', x1, (Fq.of (hF.app _)).trans x2⟩⟩
      | true =>
        rw [if_pos rfl]
        by_cases tl : s.ty.len = 0
        · have tl' : (s.ty.len = 0) = True := eq_true tl
          by_cases t0 : t.len = 0
          · have hnt := fun r => ok35 (gl := gl) (hk1.ck.grow (.app sg1 r)) s.ty ow1
            have t0' : (t.len = 0) = True := eq_true t0
            rw [if_neg (by simp [tl, t0])]
            simp only [wCo, wFr, wOp, wBi, wLst, wLog, xB_other, Nat.reduceBEq, unT, loadP, storeP, partP, partT, partV, cellsP, mkAgg, allT, setRange, fillP, fieldA, indexS, indexA, indexV, indexStr, elems, lenP, pickV, cviV, nckV, extV, isNil, bound, close, close1, aft, retV, retSl, Go.Pi.one, eqT, eqs, eq1, Nat.reduceEqDiff, Nat.reduceAdd, Nat.reduceSub, Nat.reduceMul, Nat.reduceLeDiff, Nat.reduceLT, Nat.one_ne_zero, Nat.zero_ne_one, reduceIte, reduceCtorEq, bne_self_eq_false, decide_true, decide_false, Int.reduceToNat, Int.cast_ofNat_Int, Int.reduceLT, Int.reduceLE, Int.reduceEq, Int.reduceNeg, Int.reduceAdd, Int.reduceSub, h2, app_get m3, j3, hty, tl', t0', ok51]
            refine CallE.mono (hnt _) ?_
            rintro v sg2 ow2 ⟨hc2, hfr2⟩
            have hF2 : Fr c sg sg2 := hF.trans ((Fr.of (.app _ _)).trans hfr2)
            have hk2 := hk.fr hF2 hc2
            have k3 := hfr2.get (i := sg.length) (x := (false, [.t (.int .i64 s.kind), .t (.str s.name), .t (.bool true), .t (.int .i64 s.ty.kind), .t (.int .i64 s.ty.bits), .t (.int .i64 s.ty.len), .t (.int .i64 s.ex.op), .t (.int .u64 s.ex.val), .t (.str s.ex.name), .t (.sl s.ex.nl (tExs s.ex.args)), .t (.int .i64 s.lo), .t (.int .i64 s.hi), .t (.sl s.nl (tSts s.body))])) (by rw [app_get m3]; exact hty ▸ j3) (by omega)
            have k5 := hfr2.get (i := sg1.length) (x := (false, cTy t)) (by simp) (by have := lt_of_get hc1; omega)
            have mc2 := lt_of_get hc2
            have hse : ∀ x, Fr c sg (sg2.set sg1.length x) := fun x => Fr2.fr (a := sg1.length) (Fr.refl c sg) ((Fr2.of hF2).set _) hF.1
            have hk3 : ∀ x, Cs (sg2.set sg1.length x) c f n fs ns od (noteM s.ty w1) := fun x => hk.fr (hse x) (by rw [List.getElem?_set_ne (by have := lt_of_get hc1; omega)]; exact hc2)
            have hdec := fun x => ok34 (gl := gl) (hk3 x) s.name ⟨s.ty, false, 0, 0⟩ (by omega) ow2
            have e3 : ∀ x, (sg2.set sg1.length x)[sg.length]? = sg2[sg.length]? := fun x => List.getElem?_set_ne (by have := lt_of_get j3; omega)
            simp only [wCo, wFr, wOp, wBi, wLst, wLog, xB_other, Nat.reduceBEq, unT, loadP, storeP, partP, partT, partV, cellsP, mkAgg, allT, setRange, fillP, fieldA, indexS, indexA, indexV, indexStr, elems, lenP, pickV, cviV, nckV, extV, isNil, bound, close, close1, aft, retV, retSl, Go.Pi.one, eqT, eqs, eq1, Nat.reduceEqDiff, Nat.reduceAdd, Nat.reduceSub, Nat.reduceMul, Nat.reduceLeDiff, Nat.reduceLT, Nat.one_ne_zero, Nat.zero_ne_one, reduceIte, reduceCtorEq, bne_self_eq_false, decide_true, decide_false, Int.reduceToNat, Int.cast_ofNat_Int, Int.reduceLT, Int.reduceLE, Int.reduceEq, Int.reduceNeg, Int.reduceAdd, Int.reduceSub, k3, k5, get_set k5, e3]
            refine CallE.mono (hdec _) ?_
            rintro v sg3 ow3 ⟨rfl, hp⟩
            simp only [wCo, wFr, wOp, wBi, wLst, wLog, xB_other, Nat.reduceBEq, unT, loadP, storeP, partP, partT, partV, cellsP, mkAgg, allT, setRange, fillP, fieldA, indexS, indexA, indexV, indexStr, elems, lenP, pickV, cviV, nckV, extV, isNil, bound, close, close1, aft, retV, retSl, Go.Pi.one, eqT, eqs, eq1, Nat.reduceEqDiff, Nat.reduceAdd, Nat.reduceSub, Nat.reduceMul, Nat.reduceLeDiff, Nat.reduceLT, Nat.one_ne_zero, Nat.zero_ne_one, reduceIte, reduceCtorEq, bne_self_eq_false, decide_true, decide_false, Int.reduceToNat, Int.cast_ofNat_Int, Int.reduceLT, Int.reduceLE, Int.reduceEq, Int.reduceNeg, Int.reduceAdd, Int.reduceSub]
            exact ⟨rfl, fun e => by obtain ⟨od', x1, x2⟩ := hp e; exact ⟨od', x1, (Fq.of (hse _)).trans x2⟩⟩
          · have t0' : (t.len = 0) = False := eq_false t0
            rw [if_pos (by simp [tl, t0])]
            simp only [wCo, wFr, wOp, wBi, wLst, wLog, xB_other, Nat.reduceBEq, unT, loadP, storeP, partP, partT, partV, cellsP, mkAgg, allT, setRange, fillP, fieldA, indexS, indexA, indexV, indexStr, elems, lenP, pickV, cviV, nckV, extV, isNil, bound, close, close1, aft, retV, retSl, Go.Pi.one, eqT, eqs, eq1, Nat.reduceEqDiff, Nat.reduceAdd, Nat.reduceSub, Nat.reduceMul, Nat.reduceLeDiff, Nat.reduceLT, Nat.one_ne_zero, Nat.zero_ne_one, reduceIte, reduceCtorEq, bne_self_eq_false, decide_true, decide_false, Int.reduceToNat, Int.cast_ofNat_Int, Int.reduceLT, Int.reduceLE, Int.reduceEq, Int.reduceNeg, Int.reduceAdd, Int.reduceSub, h2, app_get m3, j3, hty, tl', t0', ok51]
            exact ⟨rfl, fun e => by cases e⟩
        · cases hfi : fitsB t s.ty with
          | true =>
            have hnt := fun r => ok35 (gl := gl) (hk1.ck.grow (.app sg1 r)) s.ty ow1
            rw [if_neg (by simp [tl, hfi])]
            simp only [wCo, wFr, wOp, wBi, wLst, wLog, xB_other, Nat.reduceBEq, unT, loadP, storeP, partP, partT, partV, cellsP, mkAgg, allT, setRange, fillP, fieldA, indexS, indexA, indexV, indexStr, elems, lenP, pickV, cviV, nckV, extV, isNil, bound, close, close1, aft, retV, retSl, Go.Pi.one, eqT, eqs, eq1, Nat.reduceEqDiff, Nat.reduceAdd, Nat.reduceSub, Nat.reduceMul, Nat.reduceLeDiff, Nat.reduceLT, Nat.one_ne_zero, Nat.zero_ne_one, reduceIte, reduceCtorEq, bne_self_eq_false, decide_true, decide_false, Int.reduceToNat, Int.cast_ofNat_Int, Int.reduceLT, Int.reduceLE, Int.reduceEq, Int.reduceNeg, Int.reduceAdd, Int.reduceSub, h2, app_get m3, j3, hty, tl, hfi, ok51]
            refine CallE.mono (hnt _) ?_
            rintro v sg2 ow2 ⟨hc2, hfr2⟩
            have hF2 : Fr c sg sg2 := hF.trans ((Fr.of (.app _ _)).trans hfr2)
            have hk2 := hk.fr hF2 hc2
            have k3 := hfr2.get (i := sg.length) (x := (false, [.t (.int .i64 s.kind), .t (.str s.name), .t (.bool true), .t (.int .i64 s.ty.kind), .t (.int .i64 s.ty.bits), .t (.int .i64 s.ty.len), .t (.int .i64 s.ex.op), .t (.int .u64 s.ex.val), .t (.str s.ex.name), .t (.sl s.ex.nl (tExs s.ex.args)), .t (.int .i64 s.lo), .t (.int .i64 s.hi), .t (.sl s.nl (tSts s.body))])) (by rw [app_get m3]; exact hty ▸ j3) (by omega)
            have k5 := hfr2.get (i := sg1.length) (x := (false, cTy t)) (by simp) (by have := lt_of_get hc1; omega)
            have mc2 := lt_of_get hc2
            have hse : ∀ x, Fr c sg (sg2.set sg1.length x) := fun x => Fr2.fr (a := sg1.length) (Fr.refl c sg) ((Fr2.of hF2).set _) hF.1
            have hk3 : ∀ x, Cs (sg2.set sg1.length x) c f n fs ns od (noteM s.ty w1) := fun x => hk.fr (hse x) (by rw [List.getElem?_set_ne (by have := lt_of_get hc1; omega)]; exact hc2)
            have hdec := fun x => ok34 (gl := gl) (hk3 x) s.name ⟨s.ty, false, 0, 0⟩ (by omega) ow2
            have e3 : ∀ x, (sg2.set sg1.length x)[sg.length]? = sg2[sg.length]? := fun x => List.getElem?_set_ne (by have := lt_of_get j3; omega)
            simp only [wCo, wFr, wOp, wBi, wLst, wLog, xB_other, Nat.reduceBEq, unT, loadP, storeP, partP, partT, partV, cellsP, mkAgg, allT, setRange, fillP, fieldA, indexS, indexA, indexV, indexStr, elems, lenP, pickV, cviV, nckV, extV, isNil, bound, close, close1, aft, retV, retSl, Go.Pi.one, eqT, eqs, eq1, Nat.reduceEqDiff, Nat.reduceAdd, Nat.reduceSub, Nat.reduceMul, Nat.reduceLeDiff, Nat.reduceLT, Nat.one_ne_zero, Nat.zero_ne_one, reduceIte, reduceCtorEq, bne_self_eq_false, decide_true, decide_false, Int.reduceToNat, Int.cast_ofNat_Int, Int.reduceLT, Int.reduceLE, Int.reduceEq, Int.reduceNeg, Int.reduceAdd, Int.reduceSub, k3, k5, get_set k5, e3]
            refine CallE.mono (hdec _) ?_
            rintro v sg3 ow3 ⟨rfl, hp⟩
            simp only [wCo, wFr, wOp, wBi, wLst, wLog, xB_other, Nat.reduceBEq, unT, loadP, storeP, partP, partT, partV, cellsP, mkAgg, allT, setRange, fillP, fieldA, indexS, indexA, indexV, indexStr, elems, lenP, pickV, cviV, nckV, extV, isNil, bound, close, close1, aft, retV, retSl, Go.Pi.one, eqT, eqs, eq1, Nat.reduceEqDiff, Nat.reduceAdd, Nat.reduceSub, Nat.reduceMul, Nat.reduceLeDiff, Nat.reduceLT, Nat.one_ne_zero, Nat.zero_ne_one, reduceIte, reduceCtorEq, bne_self_eq_false, decide_true, decide_false, Int.reduceToNat, Int.cast_ofNat_Int, Int.reduceLT, Int.reduceLE, Int.reduceEq, Int.reduceNeg, Int.reduceAdd, Int.reduceSub]
            exact ⟨rfl, fun e => by obtain ⟨od', x1, x2⟩ := hp e; exact ⟨od', x1, (Fq.of (hse _)).trans x2⟩⟩
          | false =>
            rw [if_pos (by simp [tl, hfi])]
            simp only [wCo, wFr, wOp, wBi, wLst, wLog, xB_other, Nat.reduceBEq, unT, loadP, storeP, partP, partT, partV, cellsP, mkAgg, allT, setRange, fillP, fieldA, indexS, indexA, indexV, indexStr, elems, lenP, pickV, cviV, nckV, extV, isNil, bound, close, close1, aft, retV, retSl, Go.Pi.one, eqT, eqs, eq1, Nat.reduceEqDiff, Nat.reduceAdd, Nat.reduceSub, Nat.reduceMul, Nat.reduceLeDiff, Nat.reduceLT, Nat.one_ne_zero, Nat.zero_ne_one, reduceIte, reduceCtorEq, bne_self_eq_false, decide_true, decide_false, Int.reduceToNat, Int.cast_ofNat_Int, Int.reduceLT, Int.reduceLE, Int.reduceEq, Int.reduceNeg, Int.reduceAdd, Int.reduceSub, h2, app_get m3, j3, hty, tl, hfi, ok51]
            exact ⟨rfl, fun e => by cases e⟩
  · rw [if_pos (by simpa using he)]
    simp only [wCo, wFr, wOp, wBi, wLst, wLog, xB_other, Nat.reduceBEq, unT, loadP, storeP, partP, partT, partV, cellsP, mkAgg, allT, setRange, fillP, fieldA, indexS, indexA, indexV, indexStr, elems, lenP, pickV, cviV, nckV, extV, isNil, bound, close, close1, aft, retV, retSl, Go.Pi.one, eqT, eqs, eq1, Nat.reduceEqDiff, Nat.reduceAdd, Nat.reduceSub, Nat.reduceMul, Nat.reduceLeDiff, Nat.reduceLT, Nat.one_ne_zero, Nat.zero_ne_one, reduceIte, reduceCtorEq, bne_self_eq_false, decide_true, decide_false, Int.reduceToNat, Int.cast_ofNat_Int, Int.reduceLT, Int.reduceLE, Int.reduceEq, Int.reduceNeg, Int.reduceAdd, Int.reduceSub, he]
    exact ⟨rfl, fun e => absurd e he⟩
end Go.Proofs.Ytdjcnfacjfnakaa
