/- Contracts: names come and go. -/
import Derived.Test.YtdjcnfacjfnakaaK12
import Derived.Test.YtdjcnfacjfnakaaKx18
set_option maxRecDepth 10000
set_option linter.unusedVariables false
set_option linter.unusedSimpArgs false
namespace Go.Proofs.Ytdjcnfacjfnakaa
open Go.Pi Go.Lx Go.Ky Go.Lib
variable {gl : Nat → Option (List T)}

theorem ok34 {sg : Sg} {c f n : Nat} {fs : Fs} {ns : Ns} {od : PV} {w : Int} (hk : Cs sg c f n fs ns od w) (nm : Nm) (s : Sy) (hn : ns.length < B47 / 32) (ow : Ow) :
    CallE F gl 34 [.lp c 0, .t (.str nm), .t (.agg (tSy s))] sg ow fun v sg' ow' => Post c f n fs od sg (decM nm s ns w) v sg' := by
  refine XcE.of F34 rfl ?_
  simp only [ir34]
  have hcl := lt_of_get hk.ck.c
  have hnl := lt_of_get hk.ck.n
  have hc := hk.ck.c
  have hnn := hk.ck.n
  have hnc := hk.ck.nc
  have hrm : room (ns.length + 1) 16 = true := by
    have : B47 = 140737488355328 := rfl
    unfold room; simp only [decide_eq_true_eq]; omega
  have hrm0 : room 1 16 = true := by decide
  have h1 : ∀ x r, (sg.set n x ++ r)[c]? = sg[c]? := fun x r => by rw [List.getElem?_append_left (by simpa using hcl), List.getElem?_set_ne hnc]
  have h2 : ∀ x r y, (sg.set n x ++ r).set c y = (sg.set n x).set c y ++ r := fun x r y => List.set_append_left _ _ (by simpa using hcl)
  have hb : bslV 1 1 [T.str []] [(0, 1, .t (.str nm))] = some (.lit [[.str nm]]) := rfl
  unfold decM Post
  cases hl : Ky.look nm ns with
  | some x =>
    simp only [wCo, wFr, wOp, wBi, wLst, wLog, xB_other, Nat.reduceBEq, unT, loadP, storeP, partP, partT, partV, cellsP, mkAgg, allT, setRange, fillP, fieldA, indexS, indexA, indexV, indexStr, elems, lenP, pickV, cviV, nckV, extV, isNil, bound, close, close1, aft, retV, retSl, Go.Pi.one, eqT, eqs, eq1, Nat.reduceEqDiff, Nat.reduceAdd, Nat.reduceSub, Nat.reduceMul, Nat.reduceLeDiff, Nat.reduceLT, Nat.one_ne_zero, Nat.zero_ne_one, reduceIte, reduceCtorEq, bne_self_eq_false, decide_true, decide_false, Int.reduceToNat, Int.cast_ofNat_Int, Int.reduceLT, Int.reduceLE, Int.reduceEq, Int.reduceNeg, Int.reduceAdd, Int.reduceSub, app_get hcl, app_get hnl, hc, hnn, mlkP, mfind_ents, hl, Option.getD_some, Option.isSome_some]
    simp
  | none =>
    have hod := hk.od.2
    rcases hod with ⟨rfl, rfl⟩ | ⟨oid, cs, rfl, o1, o2, o3, o4, o5⟩
    · have hmn := mset_new (fun x => .agg (tSy x)) nm s [] hl
      simp only [wCo, wFr, wOp, wBi, wLst, wLog, xB_other, Nat.reduceBEq, unT, loadP, storeP, partP, partT, partV, cellsP, mkAgg, allT, setRange, fillP, fieldA, indexS, indexA, indexV, indexStr, elems, lenP, pickV, cviV, nckV, extV, isNil, bound, close, close1, aft, retV, retSl, Go.Pi.one, eqT, eqs, eq1, Nat.reduceEqDiff, Nat.reduceAdd, Nat.reduceSub, Nat.reduceMul, Nat.reduceLeDiff, Nat.reduceLT, Nat.one_ne_zero, Nat.zero_ne_one, reduceIte, reduceCtorEq, bne_self_eq_false, decide_true, decide_false, Int.reduceToNat, Int.cast_ofNat_Int, Int.reduceLT, Int.reduceLE, Int.reduceEq, Int.reduceNeg, Int.reduceAdd, Int.reduceSub, app_get hcl, app_get hnl, hc, hnn, mlkP, mfind_ents, hl, Option.getD_none, Option.isSome_none, mupP, app_set hnl, hmn, hrm0, appendB, elemsS, elems, hb, h1, h2]
      intro _
      refine ⟨_, Cs.dec (o := sg.length + 2) (nm := nm) (s := s) (cs := [.t (.str nm)]) hk hl (by simp) ?_ ?_ ?_ rfl (by simp) ?_⟩
      · rw [gsc (by simpa using hcl)]
        simp
      · rw [List.getElem?_append_left (by simpa using hnl), List.getElem?_set_ne hnc.symm, List.getElem?_set_self hnl]; rfl
      · rw [List.getElem?_append_right (by simp)]; simp
      · intro i hi hic hin hib
        rw [List.getElem?_append_left (by simpa using hi), List.getElem?_set_ne (fun e => hic e.symm), List.getElem?_set_ne (fun e => hin e.symm)]
    · have hmn := mset_new (fun x => .agg (tSy x)) nm s ns hl
      have hol := lt_of_get o2
      have hno : n ≠ oid := fun e => by rw [← e, hnn] at o2; simp at o2
      have h3 : ∀ x r, (sg.set n x ++ r)[oid]? = sg[oid]? := fun x r => by rw [List.getElem?_append_left (by simpa using hol), List.getElem?_set_ne hno]
      have h4 : ∀ x r y, (sg.set n x ++ r).set oid y = (sg.set n x).set oid y ++ r := fun x r y => List.set_append_left _ _ (by simpa using hol)
      have h5 : ∀ x y r, ((sg.set n x).set oid y ++ r)[c]? = sg[c]? := fun x y r => by rw [List.getElem?_append_left (by simpa using hcl), List.getElem?_set_ne o1, List.getElem?_set_ne hnc]
      have h6 : ∀ x y r z, ((sg.set n x).set oid y ++ r).set c z = ((sg.set n x).set oid y).set c z ++ r := fun x y r z => List.set_append_left _ _ (by simpa using hcl)
      simp only [wCo, wFr, wOp, wBi, wLst, wLog, xB_other, Nat.reduceBEq, unT, loadP, storeP, partP, partT, partV, cellsP, mkAgg, allT, setRange, fillP, fieldA, indexS, indexA, indexV, indexStr, elems, lenP, pickV, cviV, nckV, extV, isNil, bound, close, close1, aft, retV, retSl, Go.Pi.one, eqT, eqs, eq1, Nat.reduceEqDiff, Nat.reduceAdd, Nat.reduceSub, Nat.reduceMul, Nat.reduceLeDiff, Nat.reduceLT, Nat.one_ne_zero, Nat.zero_ne_one, reduceIte, reduceCtorEq, bne_self_eq_false, decide_true, decide_false, Int.reduceToNat, Int.cast_ofNat_Int, Int.reduceLT, Int.reduceLE, Int.reduceEq, Int.reduceNeg, Int.reduceAdd, Int.reduceSub, app_get hcl, app_get hnl, hc, hnn, mlkP, mfind_ents, hl, Option.getD_none, Option.isSome_none, mupP, app_set hnl, hmn, hrm, appendB, elemsS, elems, hb, h1, h3, h4, h5, h6, o2, o3, o4, Nat.mul_one]
      intro _
      refine ⟨_, Cs.dec (o := sg.length + 2) (nm := nm) (s := s) (cs := cs.take ns.length ++ [.t (.str nm)]) hk hl (by simp) ?_ ?_ ?_ (by rw [cs_take o4 o5]) (by simp) ?_⟩
      · rw [gsc (by simpa using hcl)]
        simp
      · rw [List.getElem?_append_left (by simpa using hnl), List.getElem?_set_ne hnc.symm, List.getElem?_set_ne (fun e => hno e.symm), List.getElem?_set_self hnl]
      · rw [List.getElem?_append_right (by simp)]; simp
      · intro i hi hic hin hib
        rw [List.getElem?_append_left (by simpa using hi), List.getElem?_set_ne (fun e => hic e.symm), List.getElem?_set_ne (fun e => hib ⟨ns.length, by rw [e]⟩), List.getElem?_set_ne (fun e => hin e.symm)]
theorem ok35 {sg : Sg} {c f n : Nat} {fs : Fs} {ns : Ns} {od : PV} {w : Int} (hk : Ck sg c f n fs ns od w) (t : Ty) (ow : Ow) :
    CallE F gl 35 [.lp c 0, .t (.agg (tTy t))] sg ow fun v sg' ow' => sg'[c]? = some (false, [.mp f, .mp n, od, .t (.int .i64 (noteM t w))]) ∧ Fr c sg sg' := by
  refine XcE.of F35 rfl ?_
  simp only [ir35]
  have hcl := lt_of_get hk.c
  have hc := hk.c
  unfold noteM mx
  simp only [wCo, wFr, wOp, wBi, wLst, wLog, xB_other, Nat.reduceBEq, unT, loadP, storeP, partP, partT, partV, cellsP, mkAgg, allT, setRange, fillP, fieldA, indexS, indexA, indexV, indexStr, elems, lenP, pickV, cviV, nckV, extV, isNil, bound, close, close1, aft, retV, retSl, Go.Pi.one, eqT, eqs, eq1, Nat.reduceEqDiff, Nat.reduceAdd, Nat.reduceSub, Nat.reduceMul, Nat.reduceLeDiff, Nat.reduceLT, Nat.one_ne_zero, Nat.zero_ne_one, reduceIte, reduceCtorEq, bne_self_eq_false, decide_true, decide_false, Int.reduceToNat, Int.cast_ofNat_Int, Int.reduceLT, Int.reduceLE, Int.reduceEq, Int.reduceNeg, Int.reduceAdd, Int.reduceSub, app_get hcl, app_set hcl, hc, mxT]
  repeat' ((with_reducible first | refine xG_dec ?_ ?_ | refine xG_ndec ?_ ?_ | refine xG_nsplit ?_ ?_ | refine xG_split ?_ ?_ | refine xC_dec ?_ ?_ | refine xC_ndec ?_ ?_ | refine xC_nsplit ?_ ?_ | refine xC_split ?_ ?_) <;> intro h <;> (try simp only [wCo, wFr, wOp, wBi, wLst, wLog, xB_other, Nat.reduceBEq, unT, loadP, storeP, partP, partT, partV, cellsP, mkAgg, allT, setRange, fillP, fieldA, indexS, indexA, indexV, indexStr, elems, lenP, pickV, cviV, nckV, extV, isNil, bound, close, close1, aft, retV, retSl, Go.Pi.one, eqT, eqs, eq1, Nat.reduceEqDiff, Nat.reduceAdd, Nat.reduceSub, Nat.reduceMul, Nat.reduceLeDiff, Nat.reduceLT, Nat.one_ne_zero, Nat.zero_ne_one, reduceIte, reduceCtorEq, bne_self_eq_false, decide_true, decide_false, Int.reduceToNat, Int.cast_ofNat_Int, Int.reduceLT, Int.reduceLE, Int.reduceEq, Int.reduceNeg, Int.reduceAdd, Int.reduceSub, app_get hcl, app_set hcl, hc, mxT, h]))
  · exact ⟨gsc hcl, Fr.setapp _ _ _ _⟩
  · exact Fr.of (.app _ _)
theorem loop52 {sg0 : Sg} {c f n : Nat} {fs : Fs} {ns : Ns} {od : PV} {w : Int} (hk : Cs sg0 c f n fs ns od w) (hn : ns.length ≤ B47) {m : Nat} (hm : m ≤ ns.length) {v : PV} {ow : Ow}
    (hv : (ns = [] ∧ v = .t (.sl true [])) ∨ ∃ oid cs, od = .bf oid ns.length 1 ∧ oid ≠ n ∧ sg0[oid]? = some (false, cs) ∧ ns.length ≤ cs.length ∧ (∀ (i : Nat) (p : Nm × Sy), ns[i]? = some p → cs[i]? = some (PV.t (T.str p.1))) ∧ ((m = 0 ∧ v = .bf oid ns.length 1) ∨ v = .ls oid m (ns.length - m) 1)) (Q : Ex → S → Prop) : ∀ (r : Ns) (i : Nat) (fr : List PV) (sg : Sg), ns.drop (m + i) = r → m + i ≤ ns.length → sg0.length = sg.length → (∀ j, j ≠ n → sg[j]? = sg0[j]?) → sg[n]? = some (true, ents (fun x => .agg (tSy x)) (ns.take m ++ r)) →
    FrAt fr [(0, .lp c 0), (1, .t (.int .i64 m)), (11, v), (12, .t (.int .i64 ((ns.length - m : Nat) : Int))), (13, .t (.int .i64 i))] →
    (∀ fr' sg', sg0.length = sg'.length → (∀ j, j ≠ n → sg'[j]? = sg0[j]?) → sg'[n]? = some (true, ents (fun x => .agg (tSy x)) (ns.take m)) → FrAt fr' [(0, .lp c 0), (1, .t (.int .i64 m))] → Q (.exit 0) ⟨fr', sg', ow⟩) →
    Xl F gl lb52_0 ⟨fr, sg, ow⟩ Q ⟨⟩ := by
  intro r
  induction r with
  | nil =>
    intro i fr sg hd hil hlen hg hn' hf k1
    have hd := drop_nil' hd
    simp only [FrAt_cons, FrAt_nil] at hf
    obtain ⟨f0, f1, f11, f12, f13, -⟩ := hf
    refine Xl.step ?_
    simp only [lb52_0]
    have c1 : ¬ ((i : Int) < ((ns.length - m : Nat) : Int)) := by omega
    simp only [wCo, wFr, wOp, wBi, wLst, wLog, xB_other, Nat.reduceBEq, unT, loadP, storeP, partP, partT, partV, cellsP, mkAgg, allT, setRange, fillP, fieldA, indexS, indexA, indexV, indexStr, elems, lenP, pickV, cviV, nckV, extV, isNil, bound, close, close1, aft, retV, retSl, Go.Pi.one, eqT, eqs, eq1, Nat.reduceEqDiff, Nat.reduceAdd, Nat.reduceSub, Nat.reduceMul, Nat.reduceLeDiff, Nat.reduceLT, Nat.one_ne_zero, Nat.zero_ne_one, reduceIte, reduceCtorEq, bne_self_eq_false, decide_true, decide_false, Int.reduceToNat, Int.cast_ofNat_Int, Int.reduceLT, Int.reduceLE, Int.reduceEq, Int.reduceNeg, Int.reduceAdd, Int.reduceSub, f0, f1, f11, f12, f13, c1]
    refine k1 _ _ hlen hg (by simpa using hn') (by simp only [FrAt_cons, FrAt_nil, wFr, Nat.reduceEqDiff, Nat.one_ne_zero, Nat.zero_ne_one, reduceIte, and_self, and_true, true_and, f0, f1])
  | cons x r ih =>
    intro i fr sg hd hil hlen hg hn' hf k1
    obtain ⟨hx, hr, hi⟩ := drop_cons hd
    simp only [FrAt_cons, FrAt_nil] at hf
    obtain ⟨f0, f1, f11, f12, f13, -⟩ := hf
    rcases hv with ⟨rfl, _⟩ | ⟨oid, cs, h1, h2, h3, h4, h5, hv⟩
    · simp at hx
    have c1 : (i : Int) < ((ns.length - m : Nat) : Int) := by omega
    have c2 : i < ns.length - m := by omega
    have hw1 := i64_succ c2 (show ns.length - m ≤ 281474976710656 by have : B47 = 140737488355328 := rfl; omega)
    have g3 := (hg oid h2).trans h3
    have gc := (hg c hk.ck.nc.symm).trans hk.ck.c
    have hcs := h5 _ _ hx
    have hnl := lt_of_get hn'
    have hle : m + i + 1 ≤ cs.length := by omega
    have hdr : (cs.drop (m + i)).take 1 = [.t (.str x.1)] := by
      rw [List.take_one, List.head?_drop, hcs]; rfl
    have hnd := hk.od.1
    have hlk : Ky.look x.1 (ns.take m) = none := nd_look hnd hx (by omega)
    have hmd := mdel_last (fun y => T.agg (tSy y)) x.1 x.2 (ns.take m) r hlk
    refine Xl.step ?_
    simp only [lb52_0]
    rcases hv with ⟨rfl, rfl⟩ | rfl
    · rw [Nat.zero_add] at hcs hdr hle
      have c3 : i < ns.length := by omega
      have hmd2 : mdel 2 (T.str x.1) (ents (fun y => T.agg (tSy y)) (x :: r)) = ents (fun y => .agg (tSy y)) r := mdel_last (fun y => T.agg (tSy y)) x.1 x.2 [] r rfl
      simp only [wCo, wFr, wOp, wBi, wLst, wLog, xB_other, Nat.reduceBEq, unT, loadP, storeP, partP, partT, partV, cellsP, mkAgg, allT, setRange, fillP, fieldA, indexS, indexA, indexV, indexStr, elems, lenP, pickV, cviV, nckV, extV, isNil, bound, close, close1, aft, retV, retSl, Go.Pi.one, eqT, eqs, eq1, Nat.reduceEqDiff, Nat.reduceAdd, Nat.reduceSub, Nat.reduceMul, Nat.reduceLeDiff, Nat.reduceLT, Nat.one_ne_zero, Nat.zero_ne_one, reduceIte, reduceCtorEq, bne_self_eq_false, decide_true, decide_false, Int.reduceToNat, Int.cast_ofNat_Int, Int.reduceLT, Int.reduceLE, Int.reduceEq, Int.reduceNeg, Int.reduceAdd, Int.reduceSub, c3, f0, f1, f11, f12, f13, c1, c2, hw1, Int.toNat_natCast, g3, gc, hle, hdr, hcs, hn', mdlP, mfind_ents, hmd, Nat.mul_one]
      rw [hmd2]
      refine ih (i + 1) _ _ hr (by omega) (by simp; omega) ?_ (by rw [List.getElem?_set_self hnl]; rfl) (by simp only [FrAt_cons, FrAt_nil, wFr, Nat.reduceEqDiff, Nat.one_ne_zero, Nat.zero_ne_one, reduceIte, and_self, and_true, true_and, f0, f1, f11, f12]) k1
      intro j hj
      rw [List.getElem?_set_ne (fun e => hj e.symm)]
      exact hg j hj
    · simp only [wCo, wFr, wOp, wBi, wLst, wLog, xB_other, Nat.reduceBEq, unT, loadP, storeP, partP, partT, partV, cellsP, mkAgg, allT, setRange, fillP, fieldA, indexS, indexA, indexV, indexStr, elems, lenP, pickV, cviV, nckV, extV, isNil, bound, close, close1, aft, retV, retSl, Go.Pi.one, eqT, eqs, eq1, Nat.reduceEqDiff, Nat.reduceAdd, Nat.reduceSub, Nat.reduceMul, Nat.reduceLeDiff, Nat.reduceLT, Nat.one_ne_zero, Nat.zero_ne_one, reduceIte, reduceCtorEq, bne_self_eq_false, decide_true, decide_false, Int.reduceToNat, Int.cast_ofNat_Int, Int.reduceLT, Int.reduceLE, Int.reduceEq, Int.reduceNeg, Int.reduceAdd, Int.reduceSub, f0, f1, f11, f12, f13, c1, c2, hw1, Int.toNat_natCast, g3, gc, hle, hdr, hcs, hn', mdlP, mfind_ents, hmd, Nat.mul_one]
      refine ih (i + 1) _ _ hr (by omega) (by simp; omega) ?_ (List.getElem?_set_self hnl) (by simp only [FrAt_cons, FrAt_nil, wFr, Nat.reduceEqDiff, Nat.one_ne_zero, Nat.zero_ne_one, reduceIte, and_self, and_true, true_and, f0, f1, f11, f12]) k1
      intro j hj
      rw [List.getElem?_set_ne (fun e => hj e.symm)]
      exact hg j hj
theorem ok52 {sg : Sg} {c f n : Nat} {fs : Fs} {ns : Ns} {od : PV} {w : Int} (hk : Cs sg c f n fs ns od w) (hn : ns.length ≤ B47) {m : Nat} (hm : m ≤ ns.length) (ow : Ow) :
    CallE F gl 52 [.lp c 0, .t (.int .i64 m)] sg ow fun v sg' ow' => ∃ od', Cs sg' c f n fs (ns.take m) od' w ∧ Fq c n od od' sg sg' := by
  refine XcE.of F52 rfl ?_
  simp only [ir52]
  have hcl := lt_of_get hk.ck.c
  have hc := hk.ck.c
  have hnl := lt_of_get hk.ck.n
  have hod := hk.od.2
  rcases hod with ⟨rfl, rfl⟩ | ⟨oid, cs, rfl, o1, o2, o3, o4, o5⟩
  · have hm0 : m = 0 := by simpa using hm
    subst hm0
    simp only [wCo, wFr, wOp, wBi, wLst, wLog, xB_other, Nat.reduceBEq, unT, loadP, storeP, partP, partT, partV, cellsP, mkAgg, allT, setRange, fillP, fieldA, indexS, indexA, indexV, indexStr, elems, lenP, pickV, cviV, nckV, extV, isNil, bound, close, close1, aft, retV, retSl, Go.Pi.one, eqT, eqs, eq1, Nat.reduceEqDiff, Nat.reduceAdd, Nat.reduceSub, Nat.reduceMul, Nat.reduceLeDiff, Nat.reduceLT, Nat.one_ne_zero, Nat.zero_ne_one, reduceIte, reduceCtorEq, bne_self_eq_false, decide_true, decide_false, Int.reduceToNat, Int.cast_ofNat_Int, Int.reduceLT, Int.reduceLE, Int.reduceEq, Int.reduceNeg, Int.reduceAdd, Int.reduceSub, hc, sliceP, szOk, Int.toNat_natCast]
    refine loop52 hk hn (Nat.le_refl _) (.inl ⟨rfl, rfl⟩) _ [] 0 _ _ rfl (by simp) rfl (fun _ _ => rfl) hk.ck.n (by simp only [FrAt_cons, FrAt_nil, wFr, Nat.reduceEqDiff, Nat.one_ne_zero, Nat.zero_ne_one, reduceIte, and_self, and_true, true_and]; first | done | exact ⟨rfl, rfl⟩ | rfl) ?_
    intro fr' sg' hlen hg hn' hf
    simp only [FrAt_cons, FrAt_nil] at hf
    obtain ⟨f0, f1, -⟩ := hf
    have gc := (hg c hk.ck.nc.symm).trans hk.ck.c
    simp only [wCo, wFr, wOp, wBi, wLst, wLog, xB_other, Nat.reduceBEq, unT, loadP, storeP, partP, partT, partV, cellsP, mkAgg, allT, setRange, fillP, fieldA, indexS, indexA, indexV, indexStr, elems, lenP, pickV, cviV, nckV, extV, isNil, bound, close, close1, aft, retV, retSl, Go.Pi.one, eqT, eqs, eq1, Nat.reduceEqDiff, Nat.reduceAdd, Nat.reduceSub, Nat.reduceMul, Nat.reduceLeDiff, Nat.reduceLT, Nat.one_ne_zero, Nat.zero_ne_one, reduceIte, reduceCtorEq, bne_self_eq_false, decide_true, decide_false, Int.reduceToNat, Int.cast_ofNat_Int, Int.reduceLT, Int.reduceLE, Int.reduceEq, Int.reduceNeg, Int.reduceAdd, Int.reduceSub, f0, f1, gc, sliceP, szOk, Int.toNat_natCast, set_same gc]
    exact ⟨_, hk.cut0 hlen hg hn'⟩
  · have hno : oid ≠ n := fun e => by rw [e, hk.ck.n] at o2; simp at o2
    have hm2 : (m : Int) ≤ (ns.length : Int) := by omega
    have hm3 : (0 : Int) ≤ (m : Int) := by omega
    simp only [wCo, wFr, wOp, wBi, wLst, wLog, xB_other, Nat.reduceBEq, unT, loadP, storeP, partP, partT, partV, cellsP, mkAgg, allT, setRange, fillP, fieldA, indexS, indexA, indexV, indexStr, elems, lenP, pickV, cviV, nckV, extV, isNil, bound, close, close1, aft, retV, retSl, Go.Pi.one, eqT, eqs, eq1, Nat.reduceEqDiff, Nat.reduceAdd, Nat.reduceSub, Nat.reduceMul, Nat.reduceLeDiff, Nat.reduceLT, Nat.one_ne_zero, Nat.zero_ne_one, reduceIte, reduceCtorEq, bne_self_eq_false, decide_true, decide_false, Int.reduceToNat, Int.cast_ofNat_Int, Int.reduceLT, Int.reduceLE, Int.reduceEq, Int.reduceNeg, Int.reduceAdd, Int.reduceSub, hc, sliceP, Int.toNat_natCast, hm, hm2, hm3]
    obtain ⟨v, hv1, hv2, hv3⟩ : ∃ v, (if m = 0 then some (PV.bf oid (List.length ns) 1) else some (PV.ls oid (m * 1) (List.length ns - m) 1)) = some v ∧ ((m = 0 ∧ v = .bf oid ns.length 1) ∨ v = .ls oid m (ns.length - m) 1) ∧ lenP false v = some (ns.length - m) := by
      by_cases h0 : m = 0
      · subst h0
        exact ⟨_, if_pos rfl, .inl ⟨rfl, rfl⟩, rfl⟩
      · exact ⟨_, if_neg h0, .inr (by rw [Nat.mul_one]), rfl⟩
    rw [hv1]
    rcases hv2 with ⟨rfl, rfl⟩ | rfl
    · (simp only [wCo, wFr, wOp, wBi, wLst, wLog, xB_other, Nat.reduceBEq, unT, loadP, storeP, partP, partT, partV, cellsP, mkAgg, allT, setRange, fillP, fieldA, indexS, indexA, indexV, indexStr, elems, lenP, pickV, cviV, nckV, extV, isNil, bound, close, close1, aft, retV, retSl, Go.Pi.one, eqT, eqs, eq1, Nat.reduceEqDiff, Nat.reduceAdd, Nat.reduceSub, Nat.reduceMul, Nat.reduceLeDiff, Nat.reduceLT, Nat.one_ne_zero, Nat.zero_ne_one, reduceIte, reduceCtorEq, bne_self_eq_false, decide_true, decide_false, Int.reduceToNat, Int.cast_ofNat_Int, Int.reduceLT, Int.reduceLE, Int.reduceEq, Int.reduceNeg, Int.reduceAdd, Int.reduceSub, Nat.sub_zero])
      refine loop52 hk hn (Nat.zero_le _) (.inr ⟨oid, cs, rfl, hno, o2, o4, o5, .inl ⟨rfl, rfl⟩⟩) _ ns 0 _ _ rfl hm rfl (fun _ _ => rfl) hk.ck.n (by simp only [FrAt_cons, FrAt_nil, wFr, Nat.reduceEqDiff, Nat.one_ne_zero, Nat.zero_ne_one, reduceIte, and_self, and_true, true_and, Nat.sub_zero]; first | done | exact ⟨rfl, rfl⟩ | rfl) ?_
      intro fr' sg' hlen hg hn' hf
      simp only [FrAt_cons, FrAt_nil] at hf
      obtain ⟨f0, f1, -⟩ := hf
      have gc := (hg c hk.ck.nc.symm).trans hk.ck.c
      simp only [wCo, wFr, wOp, wBi, wLst, wLog, xB_other, Nat.reduceBEq, unT, loadP, storeP, partP, partT, partV, cellsP, mkAgg, allT, setRange, fillP, fieldA, indexS, indexA, indexV, indexStr, elems, lenP, pickV, cviV, nckV, extV, isNil, bound, close, close1, aft, retV, retSl, Go.Pi.one, eqT, eqs, eq1, Nat.reduceEqDiff, Nat.reduceAdd, Nat.reduceSub, Nat.reduceMul, Nat.reduceLeDiff, Nat.reduceLT, Nat.one_ne_zero, Nat.zero_ne_one, reduceIte, reduceCtorEq, bne_self_eq_false, decide_true, decide_false, Int.reduceToNat, Int.cast_ofNat_Int, Int.reduceLT, Int.reduceLE, Int.reduceEq, Int.reduceNeg, Int.reduceAdd, Int.reduceSub, f0, f1, gc, sliceP, Int.toNat_natCast, hm, hm2, hm3]
      have gl := lt_of_get gc
      refine ⟨_, hk.cut hm o1 o2 o3 o4 o5 (by simpa using hlen) (fun j hj hjc => by rw [List.getElem?_set_ne (fun e => hjc e.symm)]; exact hg j hj) (by rw [List.getElem?_set_ne hk.ck.nc.symm]; exact hn') (List.getElem?_set_self gl)⟩
    · have hm4 : 0 ≤ m := Nat.zero_le m
      (simp only [wCo, wFr, wOp, wBi, wLst, wLog, xB_other, Nat.reduceBEq, unT, loadP, storeP, partP, partT, partV, cellsP, mkAgg, allT, setRange, fillP, fieldA, indexS, indexA, indexV, indexStr, elems, lenP, pickV, cviV, nckV, extV, isNil, bound, close, close1, aft, retV, retSl, Go.Pi.one, eqT, eqs, eq1, Nat.reduceEqDiff, Nat.reduceAdd, Nat.reduceSub, Nat.reduceMul, Nat.reduceLeDiff, Nat.reduceLT, Nat.one_ne_zero, Nat.zero_ne_one, reduceIte, reduceCtorEq, bne_self_eq_false, decide_true, decide_false, Int.reduceToNat, Int.cast_ofNat_Int, Int.reduceLT, Int.reduceLE, Int.reduceEq, Int.reduceNeg, Int.reduceAdd, Int.reduceSub, Nat.sub_zero])
      refine loop52 hk hn hm (.inr ⟨oid, cs, rfl, hno, o2, o4, o5, .inr rfl⟩) _ (ns.drop m) 0 _ _ rfl hm rfl (fun _ _ => rfl) (by rw [List.take_append_drop]; exact hk.ck.n) (by simp only [FrAt_cons, FrAt_nil, wFr, Nat.reduceEqDiff, Nat.one_ne_zero, Nat.zero_ne_one, reduceIte, and_self, and_true, true_and]; first | done | rfl) ?_
      intro fr' sg' hlen hg hn' hf
      simp only [FrAt_cons, FrAt_nil] at hf
      obtain ⟨f0, f1, -⟩ := hf
      have gc := (hg c hk.ck.nc.symm).trans hk.ck.c
      simp only [wCo, wFr, wOp, wBi, wLst, wLog, xB_other, Nat.reduceBEq, unT, loadP, storeP, partP, partT, partV, cellsP, mkAgg, allT, setRange, fillP, fieldA, indexS, indexA, indexV, indexStr, elems, lenP, pickV, cviV, nckV, extV, isNil, bound, close, close1, aft, retV, retSl, Go.Pi.one, eqT, eqs, eq1, Nat.reduceEqDiff, Nat.reduceAdd, Nat.reduceSub, Nat.reduceMul, Nat.reduceLeDiff, Nat.reduceLT, Nat.one_ne_zero, Nat.zero_ne_one, reduceIte, reduceCtorEq, bne_self_eq_false, decide_true, decide_false, Int.reduceToNat, Int.cast_ofNat_Int, Int.reduceLT, Int.reduceLE, Int.reduceEq, Int.reduceNeg, Int.reduceAdd, Int.reduceSub, f0, f1, gc, sliceP, Int.toNat_natCast, hm, hm2, hm3, hm4]
      have gl := lt_of_get gc
      refine ⟨_, hk.cut hm o1 o2 o3 o4 o5 (by simpa using hlen) (fun j hj hjc => by rw [List.getElem?_set_ne (fun e => hjc e.symm)]; exact hg j hj) (by rw [List.getElem?_set_ne hk.ck.nc.symm]; exact hn') (List.getElem?_set_self gl)⟩
end Go.Proofs.Ytdjcnfacjfnakaa
