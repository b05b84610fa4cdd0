/- Contracts: functions. -/
import Derived.Test.YtdjcnfacjfnakaaK14
import Derived.Test.YtdjcnfacjfnakaaKx18
set_option maxRecDepth 10000
set_option linter.unusedVariables false
set_option linter.unusedSimpArgs false
namespace Go.Proofs.Ytdjcnfacjfnakaa
open Go.Pi Go.Lx Go.Ky Go.Lib
variable {gl : Nat → Option (List T)}

theorem loopb33 {fs : Fs} {ls : List St} {nl : Bool} (hls : ls.length ≤ B20) (hrec : ∀ s, s ∈ ls → StSpec gl fs s) {c f n : Nat} {b3 : Nat} {m : Nat} {od0 : PV} {sg0 : Sg} (Q : Ex → S → Prop) : ∀ (l : List St) (i : Nat) (ns : Ns) (od : PV) (w : Int) (fr : List PV) (sg : Sg) (ow : Ow), ls.drop i = l → Cs sg c f n fs ns od w → Fq c n od0 od sg0 sg → ns.length + szSs l ≤ 2 * B20 →
    FrAt fr [(0, .lp c 0), (3, .lp b3 0), (7, .t (.int .i64 m)), (51, .t (.sl nl (tSts ls))), (52, .t (.int .i64 ls.length)), (53, .t (.int .i64 i))] →
    ((stsM fs l ns w).1 = 0 → ∀ fr' sg' ow' od', Cs sg' c f n fs (stsM fs l ns w).2.1 od' (stsM fs l ns w).2.2 → Fq c n od0 od' sg0 sg' → FrAt fr' [(0, .lp c 0), (3, .lp b3 0), (7, .t (.int .i64 m))] → Q (.exit 2) ⟨fr', sg', ow'⟩) →
    ((stsM fs l ns w).1 ≠ 0 → ∀ fr' sg' ow', fget fr' 4 = .t (.int .i64 (stsM fs l ns w).1) → Q .ret ⟨fr', sg', ow'⟩) →
    Xl F gl lb33_0 ⟨fr, sg, ow⟩ Q ⟨⟩ := by
  intro l
  induction l with
  | nil =>
    intro i ns od w fr sg ow hd hk hq hsz hf k1 k2
    have hd := drop_nil' hd
    simp only [FrAt_cons, FrAt_nil] at hf
    obtain ⟨f0, f3, f7, f14, f15, f16, -⟩ := hf
    refine Xl.step ?_
    simp only [lb33_0]
    have c1 : ¬ ((i : Int) < (ls.length : Int)) := by omega
    have hem : stsM fs [] ns w = (0, ns, w) := by rw [stsM]
    rw [hem] at k1
    simp only [wCo, wFr, wOp, wBi, wLst, wLog, xB_other, Nat.reduceBEq, unT, loadP, storeP, partP, partT, partV, cellsP, mkAgg, allT, setRange, fillP, fieldA, indexS, indexA, indexV, indexStr, elems, lenP, pickV, cviV, nckV, extV, isNil, bound, close, close1, aft, retV, retSl, Go.Pi.one, eqT, eqs, eq1, Nat.reduceEqDiff, Nat.reduceAdd, Nat.reduceSub, Nat.reduceMul, Nat.reduceLeDiff, Nat.reduceLT, Nat.one_ne_zero, Nat.zero_ne_one, reduceIte, reduceCtorEq, bne_self_eq_false, decide_true, decide_false, Int.reduceToNat, Int.cast_ofNat_Int, Int.reduceLT, Int.reduceLE, Int.reduceEq, Int.reduceNeg, Int.reduceAdd, Int.reduceSub, f0, f3, f7, f14, f15, f16, c1]
    exact k1 rfl _ _ _ od hk hq (by simp only [FrAt_cons, FrAt_nil, wFr, Nat.reduceEqDiff, Nat.one_ne_zero, Nat.zero_ne_one, reduceIte, and_self, and_true, true_and, f0, f3, f7])
  | cons x l ih =>
    intro i ns od w fr sg ow hd hk hq hsz hf k1 k2
    obtain ⟨hx, hr, hi⟩ := drop_cons hd
    simp only [FrAt_cons, FrAt_nil] at hf
    obtain ⟨f0, f3, f7, f14, f15, f16, -⟩ := hf
    refine Xl.step ?_
    simp only [lb33_0]
    have c1 : (i : Int) < (ls.length : Int) := by omega
    have hw1 := i64_succ hi (show ls.length ≤ 281474976710656 by have : B20 = 1100000 := rfl; omega)
    rw [stsM_cons] at k1 k2
    rw [szSs_cons] at hsz
    have hs := fun r => hrec x (List.mem_of_getElem? hx) (sg ++ r) c f n ns od w ow (hk.grow (.app _ _)) (by omega)
    simp only [tSt_eq] at hs
    simp only [wCo, wFr, wOp, wBi, wLst, wLog, xB_other, Nat.reduceBEq, unT, loadP, storeP, partP, partT, partV, cellsP, mkAgg, allT, setRange, fillP, fieldA, indexS, indexA, indexV, indexStr, elems, lenP, pickV, cviV, nckV, extV, isNil, bound, close, close1, aft, retV, retSl, Go.Pi.one, eqT, eqs, eq1, Nat.reduceEqDiff, Nat.reduceAdd, Nat.reduceSub, Nat.reduceMul, Nat.reduceLeDiff, Nat.reduceLT, Nat.one_ne_zero, Nat.zero_ne_one, reduceIte, reduceCtorEq, bne_self_eq_false, decide_true, decide_false, Int.reduceToNat, Int.cast_ofNat_Int, Int.reduceLT, Int.reduceLE, Int.reduceEq, Int.reduceNeg, Int.reduceAdd, Int.reduceSub, f0, f3, f7, f14, f15, f16, c1, hw1, Int.toNat_natCast, hi, tSts_get, hx, Option.map_some, tSt_eq]
    refine CallE.mono (hs _) ?_
    rintro v sg' ow' ⟨rfl, hp⟩
    by_cases he : (stM fs x ns w).1 = 0
    · obtain ⟨od', hk', hq'⟩ := hp he
      rw [if_neg (by simpa using he)] at k1 k2
      simp only [wCo, wFr, wOp, wBi, wLst, wLog, xB_other, Nat.reduceBEq, unT, loadP, storeP, partP, partT, partV, cellsP, mkAgg, allT, setRange, fillP, fieldA, indexS, indexA, indexV, indexStr, elems, lenP, pickV, cviV, nckV, extV, isNil, bound, close, close1, aft, retV, retSl, Go.Pi.one, eqT, eqs, eq1, Nat.reduceEqDiff, Nat.reduceAdd, Nat.reduceSub, Nat.reduceMul, Nat.reduceLeDiff, Nat.reduceLT, Nat.one_ne_zero, Nat.zero_ne_one, reduceIte, reduceCtorEq, bne_self_eq_false, decide_true, decide_false, Int.reduceToNat, Int.cast_ofNat_Int, Int.reduceLT, Int.reduceLE, Int.reduceEq, Int.reduceNeg, Int.reduceAdd, Int.reduceSub, f0, f3, f7, f14, f15, f16, hw1, he]
      obtain ⟨r, hr1, hr2⟩ := stM_ext fs x ns w he
      have hsx : 1 ≤ szS x := by rw [szS_eq]; omega
      refine ih (i + 1) _ od' _ _ _ _ hr hk' (hq.trans ((Fq.of (Fr.of (.app _ _))).trans hq')) (by rw [hr1, List.length_append]; omega) (by simp only [FrAt_cons, FrAt_nil, wFr, Nat.reduceEqDiff, Nat.one_ne_zero, Nat.zero_ne_one, reduceIte, and_self, and_true, true_and, f0, f3, f7, f14, f15]) k1 k2
    · rw [if_pos (by simpa using he)] at k1 k2
      simp only [wCo, wFr, wOp, wBi, wLst, wLog, xB_other, Nat.reduceBEq, unT, loadP, storeP, partP, partT, partV, cellsP, mkAgg, allT, setRange, fillP, fieldA, indexS, indexA, indexV, indexStr, elems, lenP, pickV, cviV, nckV, extV, isNil, bound, close, close1, aft, retV, retSl, Go.Pi.one, eqT, eqs, eq1, Nat.reduceEqDiff, Nat.reduceAdd, Nat.reduceSub, Nat.reduceMul, Nat.reduceLeDiff, Nat.reduceLT, Nat.one_ne_zero, Nat.zero_ne_one, reduceIte, reduceCtorEq, bne_self_eq_false, decide_true, decide_false, Int.reduceToNat, Int.cast_ofNat_Int, Int.reduceLT, Int.reduceLE, Int.reduceEq, Int.reduceNeg, Int.reduceAdd, Int.reduceSub, f0, f3, f7, f14, f15, f16, he]
      exact k2 he _ _ _ (by simp only [FrAt_cons, FrAt_nil, wFr, Nat.reduceEqDiff, Nat.one_ne_zero, Nat.zero_ne_one, reduceIte, and_self, and_true, true_and])
theorem loopa33 {fs : Fs} {ls : List Pa} {nl : Bool} (hls : ls.length ≤ B20) {c f n : Nat} {b3 : Nat} {m : Nat} {od0 : PV} {sg0 : Sg} (Q : Ex → S → Prop) : ∀ (l : List Pa) (i : Nat) (ns : Ns) (od : PV) (w : Int) (fr : List PV) (sg : Sg) (ow : Ow), ls.drop i = l → Cs sg c f n fs ns od w → Fq c n od0 od sg0 sg → ns.length + l.length ≤ 2 * B20 →
    FrAt fr [(0, .lp c 0), (3, .lp b3 0), (7, .t (.int .i64 m)), (33, .t (.sl nl (ls.map tPa))), (34, .t (.int .i64 ls.length)), (35, .t (.int .i64 i))] →
    ((parsM l ns w).1 = 0 → ∀ fr' sg' ow' od', Cs sg' c f n fs (parsM l ns w).2.1 od' (parsM l ns w).2.2 → Fq c n od0 od' sg0 sg' → FrAt fr' [(0, .lp c 0), (3, .lp b3 0), (7, .t (.int .i64 m))] → Q (.exit 0) ⟨fr', sg', ow'⟩) →
    ((parsM l ns w).1 ≠ 0 → ∀ fr' sg' ow', fget fr' 4 = .t (.int .i64 (parsM l ns w).1) → Q .ret ⟨fr', sg', ow'⟩) →
    Xl F gl lb33_1 ⟨fr, sg, ow⟩ Q ⟨⟩ := by
  intro l
  induction l with
  | nil =>
    intro i ns od w fr sg ow hd hk hq hsz hf k1 k2
    have hd := drop_nil' hd
    simp only [FrAt_cons, FrAt_nil] at hf
    obtain ⟨f0, f3, f7, f14, f15, f16, -⟩ := hf
    refine Xl.step ?_
    simp only [lb33_1]
    have c1 : ¬ ((i : Int) < (ls.length : Int)) := by omega
    have hem : parsM [] ns w = (0, ns, w) := by rw [parsM]
    rw [hem] at k1
    simp only [wCo, wFr, wOp, wBi, wLst, wLog, xB_other, Nat.reduceBEq, unT, loadP, storeP, partP, partT, partV, cellsP, mkAgg, allT, setRange, fillP, fieldA, indexS, indexA, indexV, indexStr, elems, lenP, pickV, cviV, nckV, extV, isNil, bound, close, close1, aft, retV, retSl, Go.Pi.one, eqT, eqs, eq1, Nat.reduceEqDiff, Nat.reduceAdd, Nat.reduceSub, Nat.reduceMul, Nat.reduceLeDiff, Nat.reduceLT, Nat.one_ne_zero, Nat.zero_ne_one, reduceIte, reduceCtorEq, bne_self_eq_false, decide_true, decide_false, Int.reduceToNat, Int.cast_ofNat_Int, Int.reduceLT, Int.reduceLE, Int.reduceEq, Int.reduceNeg, Int.reduceAdd, Int.reduceSub, f0, f3, f7, f14, f15, f16, c1]
    exact k1 rfl _ _ _ od hk hq (by simp only [FrAt_cons, FrAt_nil, wFr, Nat.reduceEqDiff, Nat.one_ne_zero, Nat.zero_ne_one, reduceIte, and_self, and_true, true_and, f0, f3, f7])
  | cons x l ih =>
    intro i ns od w fr sg ow hd hk hq hsz hf k1 k2
    obtain ⟨hx, hr, hi⟩ := drop_cons hd
    simp only [FrAt_cons, FrAt_nil] at hf
    obtain ⟨f0, f3, f7, f14, f15, f16, -⟩ := hf
    refine Xl.step ?_
    simp only [lb33_1]
    have c1 : (i : Int) < (ls.length : Int) := by omega
    have hb : B20 = 1100000 := rfl
    have hb2 : B47 = 140737488355328 := rfl
    have hw1 := i64_succ hi (show ls.length ≤ 281474976710656 by omega)
    rw [parsM_cons] at k1 k2
    rw [List.length_cons] at hsz
    have hs := fun r => ok34 (gl := gl) (hk.grow (.app sg r)) x.name ⟨x.ty, false, 0, 0⟩ (by omega) ow
    simp only [wCo, wFr, wOp, wBi, wLst, wLog, xB_other, Nat.reduceBEq, unT, loadP, storeP, partP, partT, partV, cellsP, mkAgg, allT, setRange, fillP, fieldA, indexS, indexA, indexV, indexStr, elems, lenP, pickV, cviV, nckV, extV, isNil, bound, close, close1, aft, retV, retSl, Go.Pi.one, eqT, eqs, eq1, Nat.reduceEqDiff, Nat.reduceAdd, Nat.reduceSub, Nat.reduceMul, Nat.reduceLeDiff, Nat.reduceLT, Nat.one_ne_zero, Nat.zero_ne_one, reduceIte, reduceCtorEq, bne_self_eq_false, decide_true, decide_false, Int.reduceToNat, Int.cast_ofNat_Int, Int.reduceLT, Int.reduceLE, Int.reduceEq, Int.reduceNeg, Int.reduceAdd, Int.reduceSub, f0, f3, f7, f14, f15, f16, c1, hw1, Int.toNat_natCast, hi, List.getElem?_map, hx, Option.map_some]
    refine CallE.mono (hs _) ?_
    rintro v sg' ow' ⟨rfl, hp⟩
    by_cases he : (decM x.name ⟨x.ty, false, 0, 0⟩ ns w).1 = 0
    · obtain ⟨od', hk', hq'⟩ := hp he
      rw [if_neg (by simpa using he)] at k1 k2
      simp only [wCo, wFr, wOp, wBi, wLst, wLog, xB_other, Nat.reduceBEq, unT, loadP, storeP, partP, partT, partV, cellsP, mkAgg, allT, setRange, fillP, fieldA, indexS, indexA, indexV, indexStr, elems, lenP, pickV, cviV, nckV, extV, isNil, bound, close, close1, aft, retV, retSl, Go.Pi.one, eqT, eqs, eq1, Nat.reduceEqDiff, Nat.reduceAdd, Nat.reduceSub, Nat.reduceMul, Nat.reduceLeDiff, Nat.reduceLT, Nat.one_ne_zero, Nat.zero_ne_one, reduceIte, reduceCtorEq, bne_self_eq_false, decide_true, decide_false, Int.reduceToNat, Int.cast_ofNat_Int, Int.reduceLT, Int.reduceLE, Int.reduceEq, Int.reduceNeg, Int.reduceAdd, Int.reduceSub, f0, f3, f7, f14, f15, f16, hw1, he]
      refine ih (i + 1) _ od' _ _ _ _ hr hk' (hq.trans ((Fq.of (Fr.of (.app _ _))).trans hq')) (by rw [decM_ext he]; simp; omega) (by simp only [FrAt_cons, FrAt_nil, wFr, Nat.reduceEqDiff, Nat.one_ne_zero, Nat.zero_ne_one, reduceIte, and_self, and_true, true_and, f0, f3, f7, f14, f15]) k1 k2
    · rw [if_pos (by simpa using he)] at k1 k2
      simp only [wCo, wFr, wOp, wBi, wLst, wLog, xB_other, Nat.reduceBEq, unT, loadP, storeP, partP, partT, partV, cellsP, mkAgg, allT, setRange, fillP, fieldA, indexS, indexA, indexV, indexStr, elems, lenP, pickV, cviV, nckV, extV, isNil, bound, close, close1, aft, retV, retSl, Go.Pi.one, eqT, eqs, eq1, Nat.reduceEqDiff, Nat.reduceAdd, Nat.reduceSub, Nat.reduceMul, Nat.reduceLeDiff, Nat.reduceLT, Nat.one_ne_zero, Nat.zero_ne_one, reduceIte, reduceCtorEq, bne_self_eq_false, decide_true, decide_false, Int.reduceToNat, Int.cast_ofNat_Int, Int.reduceLT, Int.reduceLE, Int.reduceEq, Int.reduceNeg, Int.reduceAdd, Int.reduceSub, f0, f3, f7, f14, f15, f16, he]
      exact k2 he _ _ _ (by simp only [FrAt_cons, FrAt_nil, wFr, Nat.reduceEqDiff, Nat.one_ne_zero, Nat.zero_ne_one, reduceIte, and_self, and_true, true_and])
theorem ok33 {fs : Fs} {fu : Fu} (hok : FuOk fu) (hB : fuB fu = true) (hpl : fu.params.length ≤ B20) (hbs : szSs fu.body ≤ B20) (hrs : szE fu.ret ≤ B20) {c f n : Nat} {od : PV} {w : Int} {sg : Sg} (hk : Cs sg c f n fs [] od w) (ow : Ow) :
    CallE F gl 33 [.lp c 0, .t (.agg (tFu fu))] sg ow fun v sg' ow' => v = .t (.int .i64 (funM fs fu w).1) ∧ ((funM fs fu w).1 = 0 → ∃ od', Cs sg' c f n (funM fs fu w).2.1 [] od' (funM fs fu w).2.2 ∧ Fg c f n od od' sg sg') := by
  refine XcE.of F33 rfl ?_
  simp only [ir33]
  have hcl := lt_of_get hk.ck.c
  have hfl := lt_of_get hk.ck.f
  have hc := hk.ck.c
  have hf := hk.ck.f
  have hb : B20 = 1100000 := rfl
  have hb2 : B47 = 140737488355328 := rfl
  have hbl : fu.body.length ≤ B20 := Nat.le_trans (szSs_len _) hbs
  have hB2 := hB
  unfold fuB at hB2
  simp only [Bool.and_eq_true, List.all_eq_true] at hB2
  have hrec : ∀ s, s ∈ fu.body → StSpec gl fs s := fun s hs => ok49 s (hok.bo s hs) (hB2.1.2 s hs) (Nat.le_trans (szSs_mem hs) hbs)
  cases hl : Ky.look fu.name fs with
  | some x =>
    rw [funM_dup _ _ _ hl]
    simp only [wCo, wFr, wOp, wBi, wLst, wLog, xB_other, Nat.reduceBEq, unT, loadP, storeP, partP, partT, partV, cellsP, mkAgg, allT, setRange, fillP, fieldA, indexS, indexA, indexV, indexStr, elems, lenP, pickV, cviV, nckV, extV, isNil, bound, close, close1, aft, retV, retSl, Go.Pi.one, eqT, eqs, eq1, Nat.reduceEqDiff, Nat.reduceAdd, Nat.reduceSub, Nat.reduceMul, Nat.reduceLeDiff, Nat.reduceLT, Nat.one_ne_zero, Nat.zero_ne_one, reduceIte, reduceCtorEq, bne_self_eq_false, decide_true, decide_false, Int.reduceToNat, Int.cast_ofNat_Int, Int.reduceLT, Int.reduceLE, Int.reduceEq, Int.reduceNeg, Int.reduceAdd, Int.reduceSub, app_get hcl, app_get hfl, hc, hf, mlkP, mfind_ents, hl, Option.getD_some, Option.isSome_some]
    simp
  | none =>
    rw [funM_eq _ _ _ hl]
    have hod : (∃ oid cs, od = .bf oid 0 1 ∧ oid ≠ c ∧ sg[oid]? = some (false, cs)) ∨ od = .t (.sl true []) := by
      rcases hk.od.2 with ⟨_, h⟩ | ⟨oid, cs, h1, h2, h3, _⟩
      · exact .inr h
      · exact .inl ⟨oid, cs, h1, h2, h3⟩
    have hlen : True := trivial
    rcases hod with ⟨oid, cs, rfl, o1, o2⟩ | rfl
    · simp only [wCo, wFr, wOp, wBi, wLst, wLog, xB_other, Nat.reduceBEq, unT, loadP, storeP, partP, partT, partV, cellsP, mkAgg, allT, setRange, fillP, fieldA, indexS, indexA, indexV, indexStr, elems, lenP, pickV, cviV, nckV, extV, isNil, bound, close, close1, aft, retV, retSl, Go.Pi.one, eqT, eqs, eq1, Nat.reduceEqDiff, Nat.reduceAdd, Nat.reduceSub, Nat.reduceMul, Nat.reduceLeDiff, Nat.reduceLT, Nat.one_ne_zero, Nat.zero_ne_one, reduceIte, reduceCtorEq, bne_self_eq_false, decide_true, decide_false, Int.reduceToNat, Int.cast_ofNat_Int, Int.reduceLT, Int.reduceLE, Int.reduceEq, Int.reduceNeg, Int.reduceAdd, Int.reduceSub, app_get hcl, app_get hfl, hc, hf, mlkP, mfind_ents, hl, Option.getD_none, Option.isSome_none, List.length_map, List.length_nil]
      refine loopa33 (fs := fs) hpl (m := 0) (b3 := sg.length) _ fu.params 0 [] (.bf oid 0 1) w _ _ _ rfl (hk.grow (.app _ _)) (Fq.refl _ _ _ _) (by simp only [List.length_nil]; omega) (by simp only [FrAt_cons, FrAt_nil, wFr, Nat.reduceEqDiff, Nat.one_ne_zero, Nat.zero_ne_one, reduceIte, and_self, and_true, true_and]; first | done | exact ⟨rfl, rfl⟩ | rfl) ?_ ?_
      · intro h0 fr1 sg1 ow1 od1 hk1 hq1 hf1
        have hpe := parsM_ext _ _ _ h0
        rw [if_neg (by simpa using h0)]
        generalize parsM fu.params [] w = P at *
        obtain ⟨d, ns1, w1⟩ := P
        simp only [List.length_nil, Nat.zero_add] at h0 hpe hk1 ⊢
        simp only [FrAt_cons, FrAt_nil] at hf1
        obtain ⟨f0, f3, f7, -⟩ := hf1
        have i3 := fun r : Sg => show (sg ++ (false, cFu fu) :: r)[sg.length]? = some (false, cFu fu) by simp
        have j3 := hq1.get (i3 _) (by omega) (by have := lt_of_get hk.ck.n; omega) (hk.notB2 (Nat.le_refl _))
        simp only [wCo, wFr, wOp, wBi, wLst, wLog, xB_other, Nat.reduceBEq, unT, loadP, storeP, partP, partT, partV, cellsP, mkAgg, allT, setRange, fillP, fieldA, indexS, indexA, indexV, indexStr, elems, lenP, pickV, cviV, nckV, extV, isNil, bound, close, close1, aft, retV, retSl, Go.Pi.one, eqT, eqs, eq1, Nat.reduceEqDiff, Nat.reduceAdd, Nat.reduceSub, Nat.reduceMul, Nat.reduceLeDiff, Nat.reduceLT, Nat.one_ne_zero, Nat.zero_ne_one, reduceIte, reduceCtorEq, bne_self_eq_false, decide_true, decide_false, Int.reduceToNat, Int.cast_ofNat_Int, Int.reduceLT, Int.reduceLE, Int.reduceEq, Int.reduceNeg, Int.reduceAdd, Int.reduceSub, f0, f3, f7, j3, tSts_len]
        refine loopb33 (fs := fs) hbl hrec (m := 0) (b3 := sg.length) _ fu.body 0 ns1 od1 w1 _ _ _ rfl hk1 (Fq.refl _ _ _ _) (by omega) (by simp only [FrAt_cons, FrAt_nil, wFr, Nat.reduceEqDiff, Nat.one_ne_zero, Nat.zero_ne_one, reduceIte, and_self, and_true, true_and, f0, f3, f7]; first | done | exact ⟨rfl, rfl⟩ | rfl) ?_ ?_
        · intro h2 fr2 sg2 ow2 od2 hk2 hq2 hf2
          obtain ⟨rr, hr1, hr2⟩ := stsM_ext _ _ _ _ h2
          rw [if_neg (by simpa using h2)]
          generalize stsM fs fu.body ns1 w1 = P2 at *
          obtain ⟨d2, ns2, w2⟩ := P2
          simp only at h2 hr1 hk2 ⊢
          subst hr1
          simp only [FrAt_cons, FrAt_nil] at hf2
          obtain ⟨f0, f3, f7, -⟩ := hf2
          have hq12 := hq1.trans hq2
          have j3 := hq12.get (i3 _) (by omega) (by have := lt_of_get hk.ck.n; omega) (hk.notB2 (Nat.le_refl _))
          have hex := ok50 (gl := gl) (fs := fs) (ns := ns1 ++ rr) fu.ret hok.ret hrs hB2.2 sg2 c f n od2 w2 ow2 hk2.ck
          simp only [tEx_eq] at hex
          simp only [wCo, wFr, wOp, wBi, wLst, wLog, xB_other, Nat.reduceBEq, unT, loadP, storeP, partP, partT, partV, cellsP, mkAgg, allT, setRange, fillP, fieldA, indexS, indexA, indexV, indexStr, elems, lenP, pickV, cviV, nckV, extV, isNil, bound, close, close1, aft, retV, retSl, Go.Pi.one, eqT, eqs, eq1, Nat.reduceEqDiff, Nat.reduceAdd, Nat.reduceSub, Nat.reduceMul, Nat.reduceLeDiff, Nat.reduceLT, Nat.one_ne_zero, Nat.zero_ne_one, reduceIte, reduceCtorEq, bne_self_eq_false, decide_true, decide_false, Int.reduceToNat, Int.cast_ofNat_Int, Int.reduceLT, Int.reduceLE, Int.reduceEq, Int.reduceNeg, Int.reduceAdd, Int.reduceSub, f0, f3, f7, j3]
          refine CallE.mono hex ?_
          rintro v sg3 ow3 ⟨rfl, hc3, hfr3⟩
          have hk3 := hk2.fr hfr3 hc3
          have hq3 := hq12.trans (Fq.of hfr3)
          have j3 := hq3.get (i3 _) (by omega) (by have := lt_of_get hk.ck.n; omega) (hk.notB2 (Nat.le_refl _))
          have m3 := lt_of_get j3
          generalize exM fs (ns1 ++ rr) fu.ret w2 = q at *
          obtain ⟨⟨t, er⟩, w3⟩ := q
          simp only at hc3 hk3 ⊢
          by_cases he : er = 0
          · subst he
            rw [if_neg (by simp)]
            cases hfi : fitsB t fu.res with
            | false =>
              rw [if_pos rfl]
              simp only [wCo, wFr, wOp, wBi, wLst, wLog, xB_other, Nat.reduceBEq, unT, loadP, storeP, partP, partT, partV, cellsP, mkAgg, allT, setRange, fillP, fieldA, indexS, indexA, indexV, indexStr, elems, lenP, pickV, cviV, nckV, extV, isNil, bound, close, close1, aft, retV, retSl, Go.Pi.one, eqT, eqs, eq1, Nat.reduceEqDiff, Nat.reduceAdd, Nat.reduceSub, Nat.reduceMul, Nat.reduceLeDiff, Nat.reduceLT, Nat.one_ne_zero, Nat.zero_ne_one, reduceIte, reduceCtorEq, bne_self_eq_false, decide_true, decide_false, Int.reduceToNat, Int.cast_ofNat_Int, Int.reduceLT, Int.reduceLE, Int.reduceEq, Int.reduceNeg, Int.reduceAdd, Int.reduceSub, f0, f3, f7, app_get m3, j3, ok51, hfi]
              simp
            | true =>
              rw [if_neg (by simp)]
              simp only [wCo, wFr, wOp, wBi, wLst, wLog, xB_other, Nat.reduceBEq, unT, loadP, storeP, partP, partT, partV, cellsP, mkAgg, allT, setRange, fillP, fieldA, indexS, indexA, indexV, indexStr, elems, lenP, pickV, cviV, nckV, extV, isNil, bound, close, close1, aft, retV, retSl, Go.Pi.one, eqT, eqs, eq1, Nat.reduceEqDiff, Nat.reduceAdd, Nat.reduceSub, Nat.reduceMul, Nat.reduceLeDiff, Nat.reduceLT, Nat.one_ne_zero, Nat.zero_ne_one, reduceIte, reduceCtorEq, bne_self_eq_false, decide_true, decide_false, Int.reduceToNat, Int.cast_ofNat_Int, Int.reduceLT, Int.reduceLE, Int.reduceEq, Int.reduceNeg, Int.reduceAdd, Int.reduceSub, f0, f3, f7, app_get m3, j3, ok51, hfi]
              refine CallE.mono (ok52 (hk3.grow (.app _ _)) (by rw [List.length_append]; omega) (m := 0) (Nat.zero_le _) ow3) ?_
              rintro v sg4 ow4 ⟨od4, hk4, hq4⟩
              rw [List.take_zero] at hk4
              have hqa := hq3.trans ((Fq.of (Fr.of (.app _ _))).trans hq4)
              have j3 := hqa.get (i3 _) (by omega) (by have := lt_of_get hk.ck.n; omega) (hk.notB2 (Nat.le_refl _))
              have hmn := mset_new (fun x => .agg (tFu x)) fu.name fu fs hl
              have c4 := hk4.ck.c
              have f4 := hk4.ck.f
              simp only [wCo, wFr, wOp, wBi, wLst, wLog, xB_other, Nat.reduceBEq, unT, loadP, storeP, partP, partT, partV, cellsP, mkAgg, allT, setRange, fillP, fieldA, indexS, indexA, indexV, indexStr, elems, lenP, pickV, cviV, nckV, extV, isNil, bound, close, close1, aft, retV, retSl, Go.Pi.one, eqT, eqs, eq1, Nat.reduceEqDiff, Nat.reduceAdd, Nat.reduceSub, Nat.reduceMul, Nat.reduceLeDiff, Nat.reduceLT, Nat.one_ne_zero, Nat.zero_ne_one, reduceIte, reduceCtorEq, bne_self_eq_false, decide_true, decide_false, Int.reduceToNat, Int.cast_ofNat_Int, Int.reduceLT, Int.reduceLE, Int.reduceEq, Int.reduceNeg, Int.reduceAdd, Int.reduceSub, f0, f3, f7, j3, c4, f4, mupP, mfind_ents]
              intro _
              exact ⟨od4, (hk4.fun _ hmn).1, ((Fg.of (Fq.of (Fr.of (.app _ _)))).trans (Fg.of hqa)).trans (hk4.fun _ hmn).2⟩
          · rw [if_pos (by simpa using he)]
            simp only [wCo, wFr, wOp, wBi, wLst, wLog, xB_other, Nat.reduceBEq, unT, loadP, storeP, partP, partT, partV, cellsP, mkAgg, allT, setRange, fillP, fieldA, indexS, indexA, indexV, indexStr, elems, lenP, pickV, cviV, nckV, extV, isNil, bound, close, close1, aft, retV, retSl, Go.Pi.one, eqT, eqs, eq1, Nat.reduceEqDiff, Nat.reduceAdd, Nat.reduceSub, Nat.reduceMul, Nat.reduceLeDiff, Nat.reduceLT, Nat.one_ne_zero, Nat.zero_ne_one, reduceIte, reduceCtorEq, bne_self_eq_false, decide_true, decide_false, Int.reduceToNat, Int.cast_ofNat_Int, Int.reduceLT, Int.reduceLE, Int.reduceEq, Int.reduceNeg, Int.reduceAdd, Int.reduceSub, f0, f3, f7, he]
            exact fun e => e.elim
        · intro h2 fr2 sg2 ow2 f4
          rw [if_pos (by simpa using h2)]
          simp only [wCo, wFr, wOp, wBi, wLst, wLog, xB_other, Nat.reduceBEq, unT, loadP, storeP, partP, partT, partV, cellsP, mkAgg, allT, setRange, fillP, fieldA, indexS, indexA, indexV, indexStr, elems, lenP, pickV, cviV, nckV, extV, isNil, bound, close, close1, aft, retV, retSl, Go.Pi.one, eqT, eqs, eq1, Nat.reduceEqDiff, Nat.reduceAdd, Nat.reduceSub, Nat.reduceMul, Nat.reduceLeDiff, Nat.reduceLT, Nat.one_ne_zero, Nat.zero_ne_one, reduceIte, reduceCtorEq, bne_self_eq_false, decide_true, decide_false, Int.reduceToNat, Int.cast_ofNat_Int, Int.reduceLT, Int.reduceLE, Int.reduceEq, Int.reduceNeg, Int.reduceAdd, Int.reduceSub, f4]
          exact fun e => absurd e h2
      · intro h0 fr1 sg1 ow1 f4
        rw [if_pos (by simpa using h0)]
        simp only [wCo, wFr, wOp, wBi, wLst, wLog, xB_other, Nat.reduceBEq, unT, loadP, storeP, partP, partT, partV, cellsP, mkAgg, allT, setRange, fillP, fieldA, indexS, indexA, indexV, indexStr, elems, lenP, pickV, cviV, nckV, extV, isNil, bound, close, close1, aft, retV, retSl, Go.Pi.one, eqT, eqs, eq1, Nat.reduceEqDiff, Nat.reduceAdd, Nat.reduceSub, Nat.reduceMul, Nat.reduceLeDiff, Nat.reduceLT, Nat.one_ne_zero, Nat.zero_ne_one, reduceIte, reduceCtorEq, bne_self_eq_false, decide_true, decide_false, Int.reduceToNat, Int.cast_ofNat_Int, Int.reduceLT, Int.reduceLE, Int.reduceEq, Int.reduceNeg, Int.reduceAdd, Int.reduceSub, f4]
        exact fun e => absurd e h0
    · simp only [wCo, wFr, wOp, wBi, wLst, wLog, xB_other, Nat.reduceBEq, unT, loadP, storeP, partP, partT, partV, cellsP, mkAgg, allT, setRange, fillP, fieldA, indexS, indexA, indexV, indexStr, elems, lenP, pickV, cviV, nckV, extV, isNil, bound, close, close1, aft, retV, retSl, Go.Pi.one, eqT, eqs, eq1, Nat.reduceEqDiff, Nat.reduceAdd, Nat.reduceSub, Nat.reduceMul, Nat.reduceLeDiff, Nat.reduceLT, Nat.one_ne_zero, Nat.zero_ne_one, reduceIte, reduceCtorEq, bne_self_eq_false, decide_true, decide_false, Int.reduceToNat, Int.cast_ofNat_Int, Int.reduceLT, Int.reduceLE, Int.reduceEq, Int.reduceNeg, Int.reduceAdd, Int.reduceSub, app_get hcl, app_get hfl, hc, hf, mlkP, mfind_ents, hl, Option.getD_none, Option.isSome_none, List.length_map, List.length_nil]
      refine loopa33 (fs := fs) hpl (m := 0) (b3 := sg.length) _ fu.params 0 [] (.t (.sl true [])) w _ _ _ rfl (hk.grow (.app _ _)) (Fq.refl _ _ _ _) (by simp only [List.length_nil]; omega) (by simp only [FrAt_cons, FrAt_nil, wFr, Nat.reduceEqDiff, Nat.one_ne_zero, Nat.zero_ne_one, reduceIte, and_self, and_true, true_and]; first | done | exact ⟨rfl, rfl⟩ | rfl) ?_ ?_
      · intro h0 fr1 sg1 ow1 od1 hk1 hq1 hf1
        have hpe := parsM_ext _ _ _ h0
        rw [if_neg (by simpa using h0)]
        generalize parsM fu.params [] w = P at *
        obtain ⟨d, ns1, w1⟩ := P
        simp only [List.length_nil, Nat.zero_add] at h0 hpe hk1 ⊢
        simp only [FrAt_cons, FrAt_nil] at hf1
        obtain ⟨f0, f3, f7, -⟩ := hf1
        have i3 := fun r : Sg => show (sg ++ (false, cFu fu) :: r)[sg.length]? = some (false, cFu fu) by simp
        have j3 := hq1.get (i3 _) (by omega) (by have := lt_of_get hk.ck.n; omega) (hk.notB2 (Nat.le_refl _))
        simp only [wCo, wFr, wOp, wBi, wLst, wLog, xB_other, Nat.reduceBEq, unT, loadP, storeP, partP, partT, partV, cellsP, mkAgg, allT, setRange, fillP, fieldA, indexS, indexA, indexV, indexStr, elems, lenP, pickV, cviV, nckV, extV, isNil, bound, close, close1, aft, retV, retSl, Go.Pi.one, eqT, eqs, eq1, Nat.reduceEqDiff, Nat.reduceAdd, Nat.reduceSub, Nat.reduceMul, Nat.reduceLeDiff, Nat.reduceLT, Nat.one_ne_zero, Nat.zero_ne_one, reduceIte, reduceCtorEq, bne_self_eq_false, decide_true, decide_false, Int.reduceToNat, Int.cast_ofNat_Int, Int.reduceLT, Int.reduceLE, Int.reduceEq, Int.reduceNeg, Int.reduceAdd, Int.reduceSub, f0, f3, f7, j3, tSts_len]
        refine loopb33 (fs := fs) hbl hrec (m := 0) (b3 := sg.length) _ fu.body 0 ns1 od1 w1 _ _ _ rfl hk1 (Fq.refl _ _ _ _) (by omega) (by simp only [FrAt_cons, FrAt_nil, wFr, Nat.reduceEqDiff, Nat.one_ne_zero, Nat.zero_ne_one, reduceIte, and_self, and_true, true_and, f0, f3, f7]; first | done | exact ⟨rfl, rfl⟩ | rfl) ?_ ?_
        · intro h2 fr2 sg2 ow2 od2 hk2 hq2 hf2
          obtain ⟨rr, hr1, hr2⟩ := stsM_ext _ _ _ _ h2
          rw [if_neg (by simpa using h2)]
          generalize stsM fs fu.body ns1 w1 = P2 at *
          obtain ⟨d2, ns2, w2⟩ := P2
          simp only at h2 hr1 hk2 ⊢
          subst hr1
          simp only [FrAt_cons, FrAt_nil] at hf2
          obtain ⟨f0, f3, f7, -⟩ := hf2
          have hq12 := hq1.trans hq2
          have j3 := hq12.get (i3 _) (by omega) (by have := lt_of_get hk.ck.n; omega) (hk.notB2 (Nat.le_refl _))
          have hex := ok50 (gl := gl) (fs := fs) (ns := ns1 ++ rr) fu.ret hok.ret hrs hB2.2 sg2 c f n od2 w2 ow2 hk2.ck
          simp only [tEx_eq] at hex
          simp only [wCo, wFr, wOp, wBi, wLst, wLog, xB_other, Nat.reduceBEq, unT, loadP, storeP, partP, partT, partV, cellsP, mkAgg, allT, setRange, fillP, fieldA, indexS, indexA, indexV, indexStr, elems, lenP, pickV, cviV, nckV, extV, isNil, bound, close, close1, aft, retV, retSl, Go.Pi.one, eqT, eqs, eq1, Nat.reduceEqDiff, Nat.reduceAdd, Nat.reduceSub, Nat.reduceMul, Nat.reduceLeDiff, Nat.reduceLT, Nat.one_ne_zero, Nat.zero_ne_one, reduceIte, reduceCtorEq, bne_self_eq_false, decide_true, decide_false, Int.reduceToNat, Int.cast_ofNat_Int, Int.reduceLT, Int.reduceLE, Int.reduceEq, Int.reduceNeg, Int.reduceAdd, Int.reduceSub, f0, f3, f7, j3]
          refine CallE.mono hex ?_
          rintro v sg3 ow3 ⟨rfl, hc3, hfr3⟩
          have hk3 := hk2.fr hfr3 hc3
          have hq3 := hq12.trans (Fq.of hfr3)
          have j3 := hq3.get (i3 _) (by omega) (by have := lt_of_get hk.ck.n; omega) (hk.notB2 (Nat.le_refl _))
          have m3 := lt_of_get j3
          generalize exM fs (ns1 ++ rr) fu.ret w2 = q at *
          obtain ⟨⟨t, er⟩, w3⟩ := q
          simp only at hc3 hk3 ⊢
          by_cases he : er = 0
          · subst he
            rw [if_neg (by simp)]
            cases hfi : fitsB t fu.res with
            | false =>
              rw [if_pos rfl]
              simp only [wCo, wFr, wOp, wBi, wLst, wLog, xB_other, Nat.reduceBEq, unT, loadP, storeP, partP, partT, partV, cellsP, mkAgg, allT, setRange, fillP, fieldA, indexS, indexA, indexV, indexStr, elems, lenP, pickV, cviV, nckV, extV, isNil, bound, close, close1, aft, retV, retSl, Go.Pi.one, eqT, eqs, eq1, Nat.reduceEqDiff, Nat.reduceAdd, Nat.reduceSub, Nat.reduceMul, Nat.reduceLeDiff, Nat.reduceLT, Nat.one_ne_zero, Nat.zero_ne_one, reduceIte, reduceCtorEq, bne_self_eq_false, decide_true, decide_false, Int.reduceToNat, Int.cast_ofNat_Int, Int.reduceLT, Int.reduceLE, Int.reduceEq, Int.reduceNeg, Int.reduceAdd, Int.reduceSub, f0, f3, f7, app_get m3, j3, ok51, hfi]
              simp
            | true =>
              rw [if_neg (by simp)]
              simp only [wCo, wFr, wOp, wBi, wLst, wLog, xB_other, Nat.reduceBEq, unT, loadP, storeP, partP, partT, partV, cellsP, mkAgg, allT, setRange, fillP, fieldA, indexS, indexA, indexV, indexStr, elems, lenP, pickV, cviV, nckV, extV, isNil, bound, close, close1, aft, retV, retSl, Go.Pi.one, eqT, eqs, eq1, Nat.reduceEqDiff, Nat.reduceAdd, Nat.reduceSub, Nat.reduceMul, Nat.reduceLeDiff, Nat.reduceLT, Nat.one_ne_zero, Nat.zero_ne_one, reduceIte, reduceCtorEq, bne_self_eq_false, decide_true, decide_false, Int.reduceToNat, Int.cast_ofNat_Int, Int.reduceLT, Int.reduceLE, Int.reduceEq, Int.reduceNeg, Int.reduceAdd, Int.reduceSub, f0, f3, f7, app_get m3, j3, ok51, hfi]
              refine CallE.mono (ok52 (hk3.grow (.app _ _)) (by rw [List.length_append]; omega) (m := 0) (Nat.zero_le _) ow3) ?_
              rintro v sg4 ow4 ⟨od4, hk4, hq4⟩
              rw [List.take_zero] at hk4
              have hqa := hq3.trans ((Fq.of (Fr.of (.app _ _))).trans hq4)
              have j3 := hqa.get (i3 _) (by omega) (by have := lt_of_get hk.ck.n; omega) (hk.notB2 (Nat.le_refl _))
              have hmn := mset_new (fun x => .agg (tFu x)) fu.name fu fs hl
              have c4 := hk4.ck.c
              have f4 := hk4.ck.f
              simp only [wCo, wFr, wOp, wBi, wLst, wLog, xB_other, Nat.reduceBEq, unT, loadP, storeP, partP, partT, partV, cellsP, mkAgg, allT, setRange, fillP, fieldA, indexS, indexA, indexV, indexStr, elems, lenP, pickV, cviV, nckV, extV, isNil, bound, close, close1, aft, retV, retSl, Go.Pi.one, eqT, eqs, eq1, Nat.reduceEqDiff, Nat.reduceAdd, Nat.reduceSub, Nat.reduceMul, Nat.reduceLeDiff, Nat.reduceLT, Nat.one_ne_zero, Nat.zero_ne_one, reduceIte, reduceCtorEq, bne_self_eq_false, decide_true, decide_false, Int.reduceToNat, Int.cast_ofNat_Int, Int.reduceLT, Int.reduceLE, Int.reduceEq, Int.reduceNeg, Int.reduceAdd, Int.reduceSub, f0, f3, f7, j3, c4, f4, mupP, mfind_ents]
              intro _
              exact ⟨od4, (hk4.fun _ hmn).1, ((Fg.of (Fq.of (Fr.of (.app _ _)))).trans (Fg.of hqa)).trans (hk4.fun _ hmn).2⟩
          · rw [if_pos (by simpa using he)]
            simp only [wCo, wFr, wOp, wBi, wLst, wLog, xB_other, Nat.reduceBEq, unT, loadP, storeP, partP, partT, partV, cellsP, mkAgg, allT, setRange, fillP, fieldA, indexS, indexA, indexV, indexStr, elems, lenP, pickV, cviV, nckV, extV, isNil, bound, close, close1, aft, retV, retSl, Go.Pi.one, eqT, eqs, eq1, Nat.reduceEqDiff, Nat.reduceAdd, Nat.reduceSub, Nat.reduceMul, Nat.reduceLeDiff, Nat.reduceLT, Nat.one_ne_zero, Nat.zero_ne_one, reduceIte, reduceCtorEq, bne_self_eq_false, decide_true, decide_false, Int.reduceToNat, Int.cast_ofNat_Int, Int.reduceLT, Int.reduceLE, Int.reduceEq, Int.reduceNeg, Int.reduceAdd, Int.reduceSub, f0, f3, f7, he]
            exact fun e => e.elim
        · intro h2 fr2 sg2 ow2 f4
          rw [if_pos (by simpa using h2)]
          simp only [wCo, wFr, wOp, wBi, wLst, wLog, xB_other, Nat.reduceBEq, unT, loadP, storeP, partP, partT, partV, cellsP, mkAgg, allT, setRange, fillP, fieldA, indexS, indexA, indexV, indexStr, elems, lenP, pickV, cviV, nckV, extV, isNil, bound, close, close1, aft, retV, retSl, Go.Pi.one, eqT, eqs, eq1, Nat.reduceEqDiff, Nat.reduceAdd, Nat.reduceSub, Nat.reduceMul, Nat.reduceLeDiff, Nat.reduceLT, Nat.one_ne_zero, Nat.zero_ne_one, reduceIte, reduceCtorEq, bne_self_eq_false, decide_true, decide_false, Int.reduceToNat, Int.cast_ofNat_Int, Int.reduceLT, Int.reduceLE, Int.reduceEq, Int.reduceNeg, Int.reduceAdd, Int.reduceSub, f4]
          exact fun e => absurd e h2
      · intro h0 fr1 sg1 ow1 f4
        rw [if_pos (by simpa using h0)]
        simp only [wCo, wFr, wOp, wBi, wLst, wLog, xB_other, Nat.reduceBEq, unT, loadP, storeP, partP, partT, partV, cellsP, mkAgg, allT, setRange, fillP, fieldA, indexS, indexA, indexV, indexStr, elems, lenP, pickV, cviV, nckV, extV, isNil, bound, close, close1, aft, retV, retSl, Go.Pi.one, eqT, eqs, eq1, Nat.reduceEqDiff, Nat.reduceAdd, Nat.reduceSub, Nat.reduceMul, Nat.reduceLeDiff, Nat.reduceLT, Nat.one_ne_zero, Nat.zero_ne_one, reduceIte, reduceCtorEq, bne_self_eq_false, decide_true, decide_false, Int.reduceToNat, Int.cast_ofNat_Int, Int.reduceLT, Int.reduceLE, Int.reduceEq, Int.reduceNeg, Int.reduceAdd, Int.reduceSub, f4]
        exact fun e => absurd e h0
end Go.Proofs.Ytdjcnfacjfnakaa
