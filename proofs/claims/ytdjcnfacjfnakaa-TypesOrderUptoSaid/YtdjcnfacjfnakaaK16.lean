/- Contracts: programs. -/
import Derived.Test.YtdjcnfacjfnakaaK15
set_option maxRecDepth 10000
set_option linter.unusedVariables false
set_option linter.unusedSimpArgs false
namespace Go.Proofs.Ytdjcnfacjfnakaa
open Go.Pi Go.Lx Go.Ky Go.Lib
variable {gl : Nat → Option (List T)}

theorem loopa23 {ls : List Fu} {nl : Bool} (hls : ls.length ≤ B20) (hfu : ∀ f, f ∈ ls → FuOk f ∧ fuB f = true ∧ f.params.length ≤ B20 ∧ szSs f.body ≤ B20 ∧ szE f.ret ≤ B20) {c f n : Nat} {b3 : Nat} {od0 : PV} {sg0 : Sg} (Q : Ex → S → Prop) : ∀ (l : List Fu) (i : Nat) (fs : Fs) (od : PV) (w : Int) (fr : List PV) (sg : Sg) (ow : Ow), ls.drop i = l → Cs sg c f n fs [] od w → Fg c f n od0 od sg0 sg →
    FrAt fr [(0, .lp c 0), (3, .lp b3 0), (12, .t (.sl nl (ls.map fun f => tFu f))), (13, .t (.int .i64 ls.length)), (14, .t (.int .i64 i))] →
    ((funsM l fs w).1 = 0 → ∀ fr' sg' ow' od', Cs sg' c f n (funsM l fs w).2.1 [] od' (funsM l fs w).2.2 → Fg c f n od0 od' sg0 sg' → FrAt fr' [(0, .lp c 0), (3, .lp b3 0)] → Q (.exit 0) ⟨fr', sg', ow'⟩) →
    ((funsM l fs w).1 ≠ 0 → ∀ fr' sg' ow', fget fr' 4 = .t (.int .i64 (funsM l fs w).1) → Q .ret ⟨fr', sg', ow'⟩) →
    Xl F gl lb23_1 ⟨fr, sg, ow⟩ Q ⟨⟩ := by
  intro l
  induction l with
  | nil =>
    intro i fs od w fr sg ow hd hk hq hf k1 k2
    have hd := drop_nil' hd
    simp only [FrAt_cons, FrAt_nil] at hf
    obtain ⟨f0, f3, f14, f15, f16, -⟩ := hf
    refine Xl.step ?_
    simp only [lb23_1]
    have c1 : ¬ ((i : Int) < (ls.length : Int)) := by omega
    have hem : funsM [] fs w = (0, fs, w) := by rw [funsM]
    rw [hem] at k1
    simp only [wCo, wFr, wOp, wBi, wLst, wLog, xB_other, Nat.reduceBEq, unT, loadP, storeP, partP, partT, partV, cellsP, mkAgg, allT, setRange, fillP, fieldA, indexS, indexA, indexV, indexStr, elems, lenP, pickV, cviV, nckV, extV, isNil, bound, close, close1, aft, retV, retSl, Go.Pi.one, eqT, eqs, eq1, Nat.reduceEqDiff, Nat.reduceAdd, Nat.reduceSub, Nat.reduceMul, Nat.reduceLeDiff, Nat.reduceLT, Nat.one_ne_zero, Nat.zero_ne_one, reduceIte, reduceCtorEq, bne_self_eq_false, decide_true, decide_false, Int.reduceToNat, Int.cast_ofNat_Int, Int.reduceLT, Int.reduceLE, Int.reduceEq, Int.reduceNeg, Int.reduceAdd, Int.reduceSub, f0, f3, f14, f15, f16, c1]
    exact k1 rfl _ _ _ od hk hq (by simp only [FrAt_cons, FrAt_nil, wFr, Nat.reduceEqDiff, Nat.one_ne_zero, Nat.zero_ne_one, reduceIte, and_self, and_true, true_and, f0, f3])
  | cons x l ih =>
    intro i fs od w fr sg ow hd hk hq hf k1 k2
    obtain ⟨hx, hr, hi⟩ := drop_cons hd
    simp only [FrAt_cons, FrAt_nil] at hf
    obtain ⟨f0, f3, f14, f15, f16, -⟩ := hf
    refine Xl.step ?_
    simp only [lb23_1]
    have c1 : (i : Int) < (ls.length : Int) := by omega
    have hw1 := i64_succ hi (show ls.length ≤ 281474976710656 by have : B20 = 1100000 := rfl; omega)
    rw [funsM_cons] at k1 k2
    obtain ⟨x1, x2, x3, x4, x5⟩ := hfu x (List.mem_of_getElem? hx)
    have hs := fun r => ok33 (gl := gl) x1 x2 x3 x4 x5 (hk.grow (.app sg r)) ow
    simp only [wCo, wFr, wOp, wBi, wLst, wLog, xB_other, Nat.reduceBEq, unT, loadP, storeP, partP, partT, partV, cellsP, mkAgg, allT, setRange, fillP, fieldA, indexS, indexA, indexV, indexStr, elems, lenP, pickV, cviV, nckV, extV, isNil, bound, close, close1, aft, retV, retSl, Go.Pi.one, eqT, eqs, eq1, Nat.reduceEqDiff, Nat.reduceAdd, Nat.reduceSub, Nat.reduceMul, Nat.reduceLeDiff, Nat.reduceLT, Nat.one_ne_zero, Nat.zero_ne_one, reduceIte, reduceCtorEq, bne_self_eq_false, decide_true, decide_false, Int.reduceToNat, Int.cast_ofNat_Int, Int.reduceLT, Int.reduceLE, Int.reduceEq, Int.reduceNeg, Int.reduceAdd, Int.reduceSub, f0, f3, f14, f15, f16, c1, hw1, Int.toNat_natCast, hi, List.getElem?_map, hx, Option.map_some]
    refine CallE.mono (hs _) ?_
    rintro v sg' ow' ⟨rfl, hp⟩
    by_cases he : (funM fs x w).1 = 0
    · obtain ⟨od', hk', hq'⟩ := hp he
      rw [if_neg (by simpa using he)] at k1 k2
      simp only [wCo, wFr, wOp, wBi, wLst, wLog, xB_other, Nat.reduceBEq, unT, loadP, storeP, partP, partT, partV, cellsP, mkAgg, allT, setRange, fillP, fieldA, indexS, indexA, indexV, indexStr, elems, lenP, pickV, cviV, nckV, extV, isNil, bound, close, close1, aft, retV, retSl, Go.Pi.one, eqT, eqs, eq1, Nat.reduceEqDiff, Nat.reduceAdd, Nat.reduceSub, Nat.reduceMul, Nat.reduceLeDiff, Nat.reduceLT, Nat.one_ne_zero, Nat.zero_ne_one, reduceIte, reduceCtorEq, bne_self_eq_false, decide_true, decide_false, Int.reduceToNat, Int.cast_ofNat_Int, Int.reduceLT, Int.reduceLE, Int.reduceEq, Int.reduceNeg, Int.reduceAdd, Int.reduceSub, f0, f3, f14, f15, f16, hw1, he]
      refine ih (i + 1) _ od' _ _ _ _ hr hk' (hq.trans ((Fg.of (Fq.of (Fr.of (.app _ _)))).trans hq')) (by simp only [FrAt_cons, FrAt_nil, wFr, Nat.reduceEqDiff, Nat.one_ne_zero, Nat.zero_ne_one, reduceIte, and_self, and_true, true_and, f0, f3, f14, f15]) k1 k2
    · rw [if_pos (by simpa using he)] at k1 k2
      simp only [wCo, wFr, wOp, wBi, wLst, wLog, xB_other, Nat.reduceBEq, unT, loadP, storeP, partP, partT, partV, cellsP, mkAgg, allT, setRange, fillP, fieldA, indexS, indexA, indexV, indexStr, elems, lenP, pickV, cviV, nckV, extV, isNil, bound, close, close1, aft, retV, retSl, Go.Pi.one, eqT, eqs, eq1, Nat.reduceEqDiff, Nat.reduceAdd, Nat.reduceSub, Nat.reduceMul, Nat.reduceLeDiff, Nat.reduceLT, Nat.one_ne_zero, Nat.zero_ne_one, reduceIte, reduceCtorEq, bne_self_eq_false, decide_true, decide_false, Int.reduceToNat, Int.cast_ofNat_Int, Int.reduceLT, Int.reduceLE, Int.reduceEq, Int.reduceNeg, Int.reduceAdd, Int.reduceSub, f0, f3, f14, f15, f16, he]
      exact k2 he _ _ _ (by simp only [FrAt_cons, FrAt_nil, wFr, Nat.reduceEqDiff, Nat.one_ne_zero, Nat.zero_ne_one, reduceIte, and_self, and_true, true_and])
theorem loopb23 {fs : Fs} {ls : List De} {nl : Bool} (hls : ls.length ≤ B20) {c f n : Nat} {b3 : Nat} {od0 : PV} {sg0 : Sg} (Q : Ex → S → Prop) : ∀ (l : List De) (i : Nat) (ns : Ns) (od : PV) (w : Int) (fr : List PV) (sg : Sg) (ow : Ow), ls.drop i = l → Cs sg c f n fs ns od w → Fq c n od0 od sg0 sg → ns.length + l.length ≤ 2 * B20 →
    FrAt fr [(0, .lp c 0), (3, .lp b3 0), (26, .t (.sl nl (ls.map fun f => tDe f))), (27, .t (.int .i64 ls.length)), (28, .t (.int .i64 i))] →
    ((desM l ns w).1 = 0 → ∀ fr' sg' ow' od', Cs sg' c f n fs (desM l ns w).2.1 od' (desM l ns w).2.2 → Fq c n od0 od' sg0 sg' → FrAt fr' [(0, .lp c 0), (3, .lp b3 0)] → Q (.exit 2) ⟨fr', sg', ow'⟩) →
    ((desM l ns w).1 ≠ 0 → ∀ fr' sg' ow', fget fr' 4 = .t (.int .i64 (desM l ns w).1) → Q .ret ⟨fr', sg', ow'⟩) →
    Xl F gl lb23_0 ⟨fr, sg, ow⟩ Q ⟨⟩ := by
  intro l
  induction l with
  | nil =>
    intro i ns od w fr sg ow hd hk hq hsz hf k1 k2
    have hd := drop_nil' hd
    simp only [FrAt_cons, FrAt_nil] at hf
    obtain ⟨f0, f3, f14, f15, f16, -⟩ := hf
    refine Xl.step ?_
    simp only [lb23_0]
    have c1 : ¬ ((i : Int) < (ls.length : Int)) := by omega
    have hem : desM [] ns w = (0, ns, w) := by rw [desM]
    rw [hem] at k1
    simp only [wCo, wFr, wOp, wBi, wLst, wLog, xB_other, Nat.reduceBEq, unT, loadP, storeP, partP, partT, partV, cellsP, mkAgg, allT, setRange, fillP, fieldA, indexS, indexA, indexV, indexStr, elems, lenP, pickV, cviV, nckV, extV, isNil, bound, close, close1, aft, retV, retSl, Go.Pi.one, eqT, eqs, eq1, Nat.reduceEqDiff, Nat.reduceAdd, Nat.reduceSub, Nat.reduceMul, Nat.reduceLeDiff, Nat.reduceLT, Nat.one_ne_zero, Nat.zero_ne_one, reduceIte, reduceCtorEq, bne_self_eq_false, decide_true, decide_false, Int.reduceToNat, Int.cast_ofNat_Int, Int.reduceLT, Int.reduceLE, Int.reduceEq, Int.reduceNeg, Int.reduceAdd, Int.reduceSub, f0, f3, f14, f15, f16, c1]
    exact k1 rfl _ _ _ od hk hq (by simp only [FrAt_cons, FrAt_nil, wFr, Nat.reduceEqDiff, Nat.one_ne_zero, Nat.zero_ne_one, reduceIte, and_self, and_true, true_and, f0, f3])
  | cons x l ih =>
    intro i ns od w fr sg ow hd hk hq hsz hf k1 k2
    obtain ⟨hx, hr, hi⟩ := drop_cons hd
    simp only [FrAt_cons, FrAt_nil] at hf
    obtain ⟨f0, f3, f14, f15, f16, -⟩ := hf
    refine Xl.step ?_
    simp only [lb23_0]
    have c1 : (i : Int) < (ls.length : Int) := by omega
    have hb : B20 = 1100000 := rfl
    have hb2 : B47 = 140737488355328 := rfl
    have hw1 := i64_succ hi (show ls.length ≤ 281474976710656 by omega)
    rw [desM_cons] at k1 k2
    rw [List.length_cons] at hsz
    have hs := fun r => ok34 (gl := gl) (hk.grow (.app sg r)) x.name ⟨x.ty, false, 0, 0⟩ (by omega) ow
    simp only [wCo, wFr, wOp, wBi, wLst, wLog, xB_other, Nat.reduceBEq, unT, loadP, storeP, partP, partT, partV, cellsP, mkAgg, allT, setRange, fillP, fieldA, indexS, indexA, indexV, indexStr, elems, lenP, pickV, cviV, nckV, extV, isNil, bound, close, close1, aft, retV, retSl, Go.Pi.one, eqT, eqs, eq1, Nat.reduceEqDiff, Nat.reduceAdd, Nat.reduceSub, Nat.reduceMul, Nat.reduceLeDiff, Nat.reduceLT, Nat.one_ne_zero, Nat.zero_ne_one, reduceIte, reduceCtorEq, bne_self_eq_false, decide_true, decide_false, Int.reduceToNat, Int.cast_ofNat_Int, Int.reduceLT, Int.reduceLE, Int.reduceEq, Int.reduceNeg, Int.reduceAdd, Int.reduceSub, f0, f3, f14, f15, f16, c1, hw1, Int.toNat_natCast, hi, List.getElem?_map, hx, Option.map_some]
    refine CallE.mono (hs _) ?_
    rintro v sg1 ow1 ⟨rfl, hp⟩
    by_cases he : (decM x.name ⟨x.ty, false, 0, 0⟩ ns w).1 = 0
    · obtain ⟨od1, hk1, hq1⟩ := hp he
      rw [if_neg (by simpa using he)] at k1 k2
      rw [decM_ext he] at hk1 k1 k2
      have j9 := hq1.get (i := sg.length) (v := (false, [.t (.bool x.pub), .t (.str x.name), .t (.int .i64 x.ty.kind), .t (.int .i64 x.ty.bits), .t (.int .i64 x.ty.len)])) (by simp) (by have := lt_of_get hk.ck.c; omega) (by have := lt_of_get hk.ck.n; omega) (hk.notB2 (Nat.le_refl _))
      simp only [wCo, wFr, wOp, wBi, wLst, wLog, xB_other, Nat.reduceBEq, unT, loadP, storeP, partP, partT, partV, cellsP, mkAgg, allT, setRange, fillP, fieldA, indexS, indexA, indexV, indexStr, elems, lenP, pickV, cviV, nckV, extV, isNil, bound, close, close1, aft, retV, retSl, Go.Pi.one, eqT, eqs, eq1, Nat.reduceEqDiff, Nat.reduceAdd, Nat.reduceSub, Nat.reduceMul, Nat.reduceLeDiff, Nat.reduceLT, Nat.one_ne_zero, Nat.zero_ne_one, reduceIte, reduceCtorEq, bne_self_eq_false, decide_true, decide_false, Int.reduceToNat, Int.cast_ofNat_Int, Int.reduceLT, Int.reduceLE, Int.reduceEq, Int.reduceNeg, Int.reduceAdd, Int.reduceSub, f0, f3, f14, f15, f16, hw1, he, j9]
      refine CallE.mono (ok35 hk1.ck x.ty ow1) ?_
      rintro v sg2 ow2 ⟨hc2, hfr2⟩
      simp only [wCo, wFr, wOp, wBi, wLst, wLog, xB_other, Nat.reduceBEq, unT, loadP, storeP, partP, partT, partV, cellsP, mkAgg, allT, setRange, fillP, fieldA, indexS, indexA, indexV, indexStr, elems, lenP, pickV, cviV, nckV, extV, isNil, bound, close, close1, aft, retV, retSl, Go.Pi.one, eqT, eqs, eq1, Nat.reduceEqDiff, Nat.reduceAdd, Nat.reduceSub, Nat.reduceMul, Nat.reduceLeDiff, Nat.reduceLT, Nat.one_ne_zero, Nat.zero_ne_one, reduceIte, reduceCtorEq, bne_self_eq_false, decide_true, decide_false, Int.reduceToNat, Int.cast_ofNat_Int, Int.reduceLT, Int.reduceLE, Int.reduceEq, Int.reduceNeg, Int.reduceAdd, Int.reduceSub, f0, f3, f14, f15, f16, hw1]
      refine ih (i + 1) _ od1 _ _ _ _ hr (hk1.fr hfr2 hc2) ((hq.trans ((Fq.of (Fr.of (.app _ _))).trans hq1)).trans (Fq.of hfr2)) (by simp; omega) (by simp only [FrAt_cons, FrAt_nil, wFr, Nat.reduceEqDiff, Nat.one_ne_zero, Nat.zero_ne_one, reduceIte, and_self, and_true, true_and, f0, f3, f14, f15]) k1 k2
    · rw [if_pos (by simpa using he)] at k1 k2
      simp only [wCo, wFr, wOp, wBi, wLst, wLog, xB_other, Nat.reduceBEq, unT, loadP, storeP, partP, partT, partV, cellsP, mkAgg, allT, setRange, fillP, fieldA, indexS, indexA, indexV, indexStr, elems, lenP, pickV, cviV, nckV, extV, isNil, bound, close, close1, aft, retV, retSl, Go.Pi.one, eqT, eqs, eq1, Nat.reduceEqDiff, Nat.reduceAdd, Nat.reduceSub, Nat.reduceMul, Nat.reduceLeDiff, Nat.reduceLT, Nat.one_ne_zero, Nat.zero_ne_one, reduceIte, reduceCtorEq, bne_self_eq_false, decide_true, decide_false, Int.reduceToNat, Int.cast_ofNat_Int, Int.reduceLT, Int.reduceLE, Int.reduceEq, Int.reduceNeg, Int.reduceAdd, Int.reduceSub, f0, f3, f14, f15, f16, he]
      exact k2 he _ _ _ (by simp only [FrAt_cons, FrAt_nil, wFr, Nat.reduceEqDiff, Nat.one_ne_zero, Nat.zero_ne_one, reduceIte, and_self, and_true, true_and])
/-- What is asked of a program. -/
structure PgSt (p : Pg) : Prop where
  ok : PgOk p
  fb : p.funcs.all fuB = true
  bb : p.body.all stB = true
  fl : p.funcs.length ≤ B20
  dl : p.decls.length ≤ B20
  fs : ∀ f, f ∈ p.funcs → f.params.length ≤ B20 ∧ szSs f.body ≤ B20 ∧ szE f.ret ≤ B20
  bs : szSs p.body ≤ B20
theorem ok23 {p : Pg} (hp : PgSt p) {c f n : Nat} {sg : Sg} (hk : Cs sg c f n [] [] (.t (.sl true [])) 0) (ow : Ow) :
    CallE F gl 23 [.lp c 0, .t (.agg (tPg p))] sg ow fun v sg' ow' => v = .t (.int .i64 (progM p).1) ∧ ((progM p).1 = 0 → ∃ od', sg'[c]? = some (false, [.mp f, .mp n, od', .t (.int .i64 (progM p).2)]) ∧ Fg c f n (.t (.sl true [])) od' sg sg') := by
  refine XcE.of F23 rfl ?_
  simp only [ir23]
  have hcl := lt_of_get hk.ck.c
  have hb : B20 = 1100000 := rfl
  have hb2 : B47 = 140737488355328 := rfl
  have hbl : p.body.length ≤ B20 := Nat.le_trans (szSs_len _) hp.bs
  rw [progM_eq]
  simp only [wCo, wFr, wOp, wBi, wLst, wLog, xB_other, Nat.reduceBEq, unT, loadP, storeP, partP, partT, partV, cellsP, mkAgg, allT, setRange, fillP, fieldA, indexS, indexA, indexV, indexStr, elems, lenP, pickV, cviV, nckV, extV, isNil, bound, close, close1, aft, retV, retSl, Go.Pi.one, eqT, eqs, eq1, Nat.reduceEqDiff, Nat.reduceAdd, Nat.reduceSub, Nat.reduceMul, Nat.reduceLeDiff, Nat.reduceLT, Nat.one_ne_zero, Nat.zero_ne_one, reduceIte, reduceCtorEq, bne_self_eq_false, decide_true, decide_false, Int.reduceToNat, Int.cast_ofNat_Int, Int.reduceLT, Int.reduceLE, Int.reduceEq, Int.reduceNeg, Int.reduceAdd, Int.reduceSub, List.length_map]
  refine loopa23 hp.fl (fun f hf => ⟨hp.ok.fo f hf, List.all_eq_true.1 hp.fb f hf, hp.fs f hf⟩) (b3 := sg.length) _ p.funcs 0 [] _ 0 _ _ _ rfl (hk.grow (.app _ _)) (Fg.refl _ _ _ _ _) (by simp only [FrAt_cons, FrAt_nil, wFr, Nat.reduceEqDiff, Nat.one_ne_zero, Nat.zero_ne_one, reduceIte, and_self, and_true, true_and]; first | done | exact ⟨rfl, rfl⟩ | rfl) ?_ ?_
  · intro h0 fr1 sg1 ow1 od1 hk1 hq1 hf1
    rw [if_neg (by simpa using h0)]
    generalize funsM p.funcs [] 0 = P at *
    obtain ⟨d, fs, w1⟩ := P
    simp only at h0 hk1 ⊢
    simp only [FrAt_cons, FrAt_nil] at hf1
    obtain ⟨f0, f3, -⟩ := hf1
    have i3 := fun r : Sg => show (sg ++ (false, [PV.t (.sl p.fnl (p.funcs.map fun f => tFu f)), .t (.sl p.dnl (p.decls.map fun f => tDe f)), .t (.sl p.bnl (tSts p.body))]) :: r)[sg.length]? = some (false, [PV.t (.sl p.fnl (p.funcs.map fun f => tFu f)), .t (.sl p.dnl (p.decls.map fun f => tDe f)), .t (.sl p.bnl (tSts p.body))]) by simp
    have j3 := hq1.get (i3 _) (by omega) (by have := lt_of_get hk.ck.f; omega) (by have := lt_of_get hk.ck.n; omega) (hk.notB2 (Nat.le_refl _))
    simp only [wCo, wFr, wOp, wBi, wLst, wLog, xB_other, Nat.reduceBEq, unT, loadP, storeP, partP, partT, partV, cellsP, mkAgg, allT, setRange, fillP, fieldA, indexS, indexA, indexV, indexStr, elems, lenP, pickV, cviV, nckV, extV, isNil, bound, close, close1, aft, retV, retSl, Go.Pi.one, eqT, eqs, eq1, Nat.reduceEqDiff, Nat.reduceAdd, Nat.reduceSub, Nat.reduceMul, Nat.reduceLeDiff, Nat.reduceLT, Nat.one_ne_zero, Nat.zero_ne_one, reduceIte, reduceCtorEq, bne_self_eq_false, decide_true, decide_false, Int.reduceToNat, Int.cast_ofNat_Int, Int.reduceLT, Int.reduceLE, Int.reduceEq, Int.reduceNeg, Int.reduceAdd, Int.reduceSub, f0, f3, j3, List.length_map]
    refine loopb23 (fs := fs) hp.dl (b3 := sg.length) _ p.decls 0 [] od1 w1 _ _ _ rfl hk1 (Fq.refl _ _ _ _) (by have := hp.dl; simp only [List.length_nil]; omega) (by simp only [FrAt_cons, FrAt_nil, wFr, Nat.reduceEqDiff, Nat.one_ne_zero, Nat.zero_ne_one, reduceIte, and_self, and_true, true_and, f0, f3]; first | done | exact ⟨rfl, rfl⟩ | rfl) ?_ ?_
    · intro h2 fr2 sg2 ow2 od2 hk2 hq2 hf2
      have hde := desM_ext _ _ _ h2
      rw [if_neg (by simpa using h2)]
      generalize desM p.decls [] w1 = P2 at *
      obtain ⟨d2, ns2, w2⟩ := P2
      simp only [List.length_nil, Nat.zero_add] at h2 hde hk2 ⊢
      simp only [FrAt_cons, FrAt_nil] at hf2
      obtain ⟨f0, f3, -⟩ := hf2
      have hq12 := hq1.trans (Fg.of hq2)
      have j3 := hq12.get (i3 _) (by omega) (by have := lt_of_get hk.ck.f; omega) (by have := lt_of_get hk.ck.n; omega) (hk.notB2 (Nat.le_refl _))
      have hrec : ∀ s, s ∈ p.body → StSpec gl fs s := fun s hs => ok49 s (hp.ok.bo s hs) (List.all_eq_true.1 hp.bb s hs) (Nat.le_trans (szSs_mem hs) hp.bs)
      simp only [wCo, wFr, wOp, wBi, wLst, wLog, xB_other, Nat.reduceBEq, unT, loadP, storeP, partP, partT, partV, cellsP, mkAgg, allT, setRange, fillP, fieldA, indexS, indexA, indexV, indexStr, elems, lenP, pickV, cviV, nckV, extV, isNil, bound, close, close1, aft, retV, retSl, Go.Pi.one, eqT, eqs, eq1, Nat.reduceEqDiff, Nat.reduceAdd, Nat.reduceSub, Nat.reduceMul, Nat.reduceLeDiff, Nat.reduceLT, Nat.one_ne_zero, Nat.zero_ne_one, reduceIte, reduceCtorEq, bne_self_eq_false, decide_true, decide_false, Int.reduceToNat, Int.cast_ofNat_Int, Int.reduceLT, Int.reduceLE, Int.reduceEq, Int.reduceNeg, Int.reduceAdd, Int.reduceSub, f0, f3, j3]
      refine CallE.mono (ok36 hbl hrec hk2 (by have := hp.dl; have := hp.bs; omega) ow2) ?_
      rintro v sg3 ow3 ⟨rfl, hp3⟩
      simp only [wCo, wFr, wOp, wBi, wLst, wLog, xB_other, Nat.reduceBEq, unT, loadP, storeP, partP, partT, partV, cellsP, mkAgg, allT, setRange, fillP, fieldA, indexS, indexA, indexV, indexStr, elems, lenP, pickV, cviV, nckV, extV, isNil, bound, close, close1, aft, retV, retSl, Go.Pi.one, eqT, eqs, eq1, Nat.reduceEqDiff, Nat.reduceAdd, Nat.reduceSub, Nat.reduceMul, Nat.reduceLeDiff, Nat.reduceLT, Nat.one_ne_zero, Nat.zero_ne_one, reduceIte, reduceCtorEq, bne_self_eq_false, decide_true, decide_false, Int.reduceToNat, Int.cast_ofNat_Int, Int.reduceLT, Int.reduceLE, Int.reduceEq, Int.reduceNeg, Int.reduceAdd, Int.reduceSub]
      refine fun e => ?_
      obtain ⟨od3, hk3, hq3⟩ := hp3 e
      exact ⟨od3, hk3.ck.c, (Fg.of (Fq.of (Fr.of (.app _ _)))).trans (hq12.trans (Fg.of hq3))⟩
    · intro h2 fr2 sg2 ow2 f4
      rw [if_pos (by simpa using h2)]
      simp only [wCo, wFr, wOp, wBi, wLst, wLog, xB_other, Nat.reduceBEq, unT, loadP, storeP, partP, partT, partV, cellsP, mkAgg, allT, setRange, fillP, fieldA, indexS, indexA, indexV, indexStr, elems, lenP, pickV, cviV, nckV, extV, isNil, bound, close, close1, aft, retV, retSl, Go.Pi.one, eqT, eqs, eq1, Nat.reduceEqDiff, Nat.reduceAdd, Nat.reduceSub, Nat.reduceMul, Nat.reduceLeDiff, Nat.reduceLT, Nat.one_ne_zero, Nat.zero_ne_one, reduceIte, reduceCtorEq, bne_self_eq_false, decide_true, decide_false, Int.reduceToNat, Int.cast_ofNat_Int, Int.reduceLT, Int.reduceLE, Int.reduceEq, Int.reduceNeg, Int.reduceAdd, Int.reduceSub, f4]
      exact fun e => absurd e h2
  · intro h0 fr1 sg1 ow1 f4
    rw [if_pos (by simpa using h0)]
    simp only [wCo, wFr, wOp, wBi, wLst, wLog, xB_other, Nat.reduceBEq, unT, loadP, storeP, partP, partT, partV, cellsP, mkAgg, allT, setRange, fillP, fieldA, indexS, indexA, indexV, indexStr, elems, lenP, pickV, cviV, nckV, extV, isNil, bound, close, close1, aft, retV, retSl, Go.Pi.one, eqT, eqs, eq1, Nat.reduceEqDiff, Nat.reduceAdd, Nat.reduceSub, Nat.reduceMul, Nat.reduceLeDiff, Nat.reduceLT, Nat.one_ne_zero, Nat.zero_ne_one, reduceIte, reduceCtorEq, bne_self_eq_false, decide_true, decide_false, Int.reduceToNat, Int.cast_ofNat_Int, Int.reduceLT, Int.reduceLE, Int.reduceEq, Int.reduceNeg, Int.reduceAdd, Int.reduceSub, f4]
    exact fun e => absurd e h0
end Go.Proofs.Ytdjcnfacjfnakaa
