/- Contracts: the type of an expression. -/
import Derived.Test.YtdjcnfacjfnakaaK10
set_option maxRecDepth 10000
set_option linter.unusedVariables false
set_option linter.unusedSimpArgs false
namespace Go.Proofs.Ytdjcnfacjfnakaa
open Go.Pi Go.Lx Go.Ky Go.Lib
variable {gl : Nat → Option (List T)}

abbrev z3 : Bool × List PV := (false, [.t (.int .i64 0), .t (.int .i64 0), .t (.int .i64 0)])
abbrev cEx (e : Exp) : Bool × List PV := (false, [.t (.int .i64 e.op), .t (.int .u64 e.val), .t (.str e.name), .t (.sl e.nl (tExs e.args))])
/-- What the checker says of an expression. -/
def ExSpec (gl : Nat → Option (List T)) (fs : Fs) (ns : Ns) (e : Exp) : Prop :=
  ∀ (sg : Sg) (c f n : Nat) (od : PV) (w : Int) (ow : Ow), Ck sg c f n fs ns od w → CallE F gl 50 [.lp c 0, .t (.agg (tEx e))] sg ow fun v sg' ow' => v = tRt (exM fs ns e w).1 ∧ sg'[c]? = some (false, [.mp f, .mp n, od, .t (.int .i64 (exM fs ns e w).2)]) ∧ Fr c sg sg'
theorem ok62 {fs : Fs} {ns : Ns} {e a b : Exp} (hab : e.args = [a, b]) (ha : ExSpec gl fs ns a) (hb : exB b = true) {sg : Sg} {c f n : Nat} {od : PV} {w : Int} (hk : Ck sg c f n fs ns od w) (ow : Ow) :
    CallE F gl 62 [.lp c 0, .t (.agg (tEx e))] sg ow fun v sg' ow' => v = tRt (idxM ns (exM fs ns a w) b).1 ∧ sg'[c]? = some (false, [.mp f, .mp n, od, .t (.int .i64 (idxM ns (exM fs ns a w) b).2)]) ∧ Fr c sg sg' := by
  refine XcE.of F62 rfl ?_
  simp only [ir62]
  have hcl := lt_of_get hk.c
  simp only [wCo, wFr, wOp, wBi, wLst, wLog, xB_other, Nat.reduceBEq, unT, loadP, storeP, partP, partT, partV, cellsP, mkAgg, allT, setRange, fillP, fieldA, indexS, indexA, indexV, indexStr, elems, lenP, pickV, cviV, nckV, extV, isNil, bound, close, close1, aft, retV, retSl, Go.Pi.one, eqT, eqs, eq1, Nat.reduceEqDiff, Nat.reduceAdd, Nat.reduceSub, Nat.reduceMul, Nat.reduceLeDiff, Nat.reduceLT, Nat.one_ne_zero, Nat.zero_ne_one, reduceIte, reduceCtorEq, bne_self_eq_false, decide_true, decide_false, Int.reduceToNat, Int.cast_ofNat_Int, Int.reduceLT, Int.reduceLE, Int.reduceEq, Int.reduceNeg, Int.reduceAdd, Int.reduceSub, tEx_eq, hab, tExs]
  have g0 : Grow sg (sg ++ [(false, [.t (.int .i64 e.op), .t (.int .u64 e.val), .t (.str e.name), .t (.sl e.nl [tEx a, tEx b])]), z3]) := .app _ _
  have hq := ha _ c f n od w ow (hk.grow g0)
  simp only [tEx_eq] at hq g0
  refine CallE.mono hq ?_
  rintro v sg' ow' ⟨rfl, hc', hfr⟩
  have i3 : (sg ++ [(false, [PV.t (.int .i64 e.op), .t (.int .u64 e.val), .t (.str e.name), .t (.sl e.nl [[.int .i64 a.op, .int .u64 a.val, .str a.name, .sl a.nl (tExs a.args)], [.int .i64 b.op, .int .u64 b.val, .str b.name, .sl b.nl (tExs b.args)]])]), z3])[sg.length]? = some (false, [PV.t (.int .i64 e.op), .t (.int .u64 e.val), .t (.str e.name), .t (.sl e.nl [[.int .i64 a.op, .int .u64 a.val, .str a.name, .sl a.nl (tExs a.args)], [.int .i64 b.op, .int .u64 b.val, .str b.name, .sl b.nl (tExs b.args)]])]) := by simp
  have i4 : (sg ++ [(false, [PV.t (.int .i64 e.op), .t (.int .u64 e.val), .t (.str e.name), .t (.sl e.nl [[.int .i64 a.op, .int .u64 a.val, .str a.name, .sl a.nl (tExs a.args)], [.int .i64 b.op, .int .u64 b.val, .str b.name, .sl b.nl (tExs b.args)]])]), z3])[sg.length + 1]? = some z3 := by simp
  have j3 := hfr.get i3 (by omega)
  have j4 := hfr.get i4 (by omega)
  have l3 := lt_of_get j3
  have l4 := lt_of_get j4
  have lc := lt_of_get hc'
  have hfr' : Fr c sg sg' := (Fr.of g0).trans hfr
  have hk' : Ck sg' c f n fs ns od (exM fs ns a w).2 := hk.fr hfr' hc'
  generalize hr : exM fs ns a w = r at *
  obtain ⟨⟨t, er⟩, w1⟩ := r
  unfold idxM
  by_cases he : er = 0
  · subst he
    simp only [ne_eq, not_true, if_false]
    simp only [wCo, wFr, wOp, wBi, wLst, wLog, xB_other, Nat.reduceBEq, unT, loadP, storeP, partP, partT, partV, cellsP, mkAgg, allT, setRange, fillP, fieldA, indexS, indexA, indexV, indexStr, elems, lenP, pickV, cviV, nckV, extV, isNil, bound, close, close1, aft, retV, retSl, Go.Pi.one, eqT, eqs, eq1, Nat.reduceEqDiff, Nat.reduceAdd, Nat.reduceSub, Nat.reduceMul, Nat.reduceLeDiff, Nat.reduceLT, Nat.one_ne_zero, Nat.zero_ne_one, reduceIte, reduceCtorEq, bne_self_eq_false, decide_true, decide_false, Int.reduceToNat, Int.cast_ofNat_Int, Int.reduceLT, Int.reduceLE, Int.reduceEq, Int.reduceNeg, Int.reduceAdd, Int.reduceSub, app_get l3, app_get l4, j3, j4, xR_ct]
    have g1 : Grow sg' (sg' ++ [(false, cTy t)]) := .app _ _
    have hq2 := ok73 (gl := gl) (hk'.grow g1) b hb t.len ow'
    simp only [tEx_eq] at hq2
    refine CallE.mono hq2 ?_
    rintro v sg2 ow2 ⟨rfl, hg2⟩
    have k3 := hg2.get (g1.get j3)
    have k4 := hg2.get (g1.get j4)
    have k5 := hg2.get (show (sg' ++ [(false, cTy t)])[sg'.length]? = some (false, cTy t) by simp)
    have kc := hg2.get (g1.get hc')
    have m4 := lt_of_get k4
    have hfr2 : Fr c sg sg2 := hfr'.trans (Fr.of (g1.trans hg2))
    generalize hp : posM ns b t.len = q at *
    obtain ⟨ins, e2⟩ := q
    have hset : Fr c sg (sg2.set (sg.length + 1) (false, [PV.t (.int .i64 t.kind), .t (.int .i64 t.bits), .t (.int .i64 0)])) := by
      refine ⟨by simpa using hfr2.1, fun i hi hc => ?_⟩
      rw [List.getElem?_set_ne (by omega)]
      exact hfr2.2 i hi hc
    have hsc : ∀ x, (sg2.set (sg.length + 1) x)[c]? = some (false, [.mp f, .mp n, od, .t (.int .i64 w1)]) := fun x => by
      rw [List.getElem?_set_ne (by omega)]; exact kc
    by_cases he2 : e2 = 0
    · subst he2
      by_cases htl : t.len = 0
      · simp only [wCo, wFr, wOp, wBi, wLst, wLog, xB_other, Nat.reduceBEq, unT, loadP, storeP, partP, partT, partV, cellsP, mkAgg, allT, setRange, fillP, fieldA, indexS, indexA, indexV, indexStr, elems, lenP, pickV, cviV, nckV, extV, isNil, bound, close, close1, aft, retV, retSl, Go.Pi.one, eqT, eqs, eq1, Nat.reduceEqDiff, Nat.reduceAdd, Nat.reduceSub, Nat.reduceMul, Nat.reduceLeDiff, Nat.reduceLT, Nat.one_ne_zero, Nat.zero_ne_one, reduceIte, reduceCtorEq, bne_self_eq_false, decide_true, decide_false, Int.reduceToNat, Int.cast_ofNat_Int, Int.reduceLT, Int.reduceLE, Int.reduceEq, Int.reduceNeg, Int.reduceAdd, Int.reduceSub, k3, k4, k5, xR_ct, htl, set_same k4, ne_eq]
        simp [bad, zTy, htl, kc, hfr2]
      · cases ins with
        | false =>
          simp only [wCo, wFr, wOp, wBi, wLst, wLog, xB_other, Nat.reduceBEq, unT, loadP, storeP, partP, partT, partV, cellsP, mkAgg, allT, setRange, fillP, fieldA, indexS, indexA, indexV, indexStr, elems, lenP, pickV, cviV, nckV, extV, isNil, bound, close, close1, aft, retV, retSl, Go.Pi.one, eqT, eqs, eq1, Nat.reduceEqDiff, Nat.reduceAdd, Nat.reduceSub, Nat.reduceMul, Nat.reduceLeDiff, Nat.reduceLT, Nat.one_ne_zero, Nat.zero_ne_one, reduceIte, reduceCtorEq, bne_self_eq_false, decide_true, decide_false, Int.reduceToNat, Int.cast_ofNat_Int, Int.reduceLT, Int.reduceLE, Int.reduceEq, Int.reduceNeg, Int.reduceAdd, Int.reduceSub, k3, k4, k5, xR_ct, htl, set_same k4, ne_eq]
          simp [bad, zTy, htl, kc, hfr2]
        | true =>
          simp only [wCo, wFr, wOp, wBi, wLst, wLog, xB_other, Nat.reduceBEq, unT, loadP, storeP, partP, partT, partV, cellsP, mkAgg, allT, setRange, fillP, fieldA, indexS, indexA, indexV, indexStr, elems, lenP, pickV, cviV, nckV, extV, isNil, bound, close, close1, aft, retV, retSl, Go.Pi.one, eqT, eqs, eq1, Nat.reduceEqDiff, Nat.reduceAdd, Nat.reduceSub, Nat.reduceMul, Nat.reduceLeDiff, Nat.reduceLT, Nat.one_ne_zero, Nat.zero_ne_one, reduceIte, reduceCtorEq, bne_self_eq_false, decide_true, decide_false, Int.reduceToNat, Int.cast_ofNat_Int, Int.reduceLT, Int.reduceLE, Int.reduceEq, Int.reduceNeg, Int.reduceAdd, Int.reduceSub, k3, k4, k5, xR_ct, htl, get_set k4, ok74, ne_eq]
          simp [htl, hsc, hset]
    · simp only [wCo, wFr, wOp, wBi, wLst, wLog, xB_other, Nat.reduceBEq, unT, loadP, storeP, partP, partT, partV, cellsP, mkAgg, allT, setRange, fillP, fieldA, indexS, indexA, indexV, indexStr, elems, lenP, pickV, cviV, nckV, extV, isNil, bound, close, close1, aft, retV, retSl, Go.Pi.one, eqT, eqs, eq1, Nat.reduceEqDiff, Nat.reduceAdd, Nat.reduceSub, Nat.reduceMul, Nat.reduceLeDiff, Nat.reduceLT, Nat.one_ne_zero, Nat.zero_ne_one, reduceIte, reduceCtorEq, bne_self_eq_false, decide_true, decide_false, Int.reduceToNat, Int.cast_ofNat_Int, Int.reduceLT, Int.reduceLE, Int.reduceEq, Int.reduceNeg, Int.reduceAdd, Int.reduceSub, k3, k4, k5, xR_ct, he2, set_same k4, ne_eq]
      simp [bad, zTy, he2, kc, hfr2]
  · simp only [wCo, wFr, wOp, wBi, wLst, wLog, xB_other, Nat.reduceBEq, unT, loadP, storeP, partP, partT, partV, cellsP, mkAgg, allT, setRange, fillP, fieldA, indexS, indexA, indexV, indexStr, elems, lenP, pickV, cviV, nckV, extV, isNil, bound, close, close1, aft, retV, retSl, Go.Pi.one, eqT, eqs, eq1, Nat.reduceEqDiff, Nat.reduceAdd, Nat.reduceSub, Nat.reduceMul, Nat.reduceLeDiff, Nat.reduceLT, Nat.one_ne_zero, Nat.zero_ne_one, reduceIte, reduceCtorEq, bne_self_eq_false, decide_true, decide_false, Int.reduceToNat, Int.cast_ofNat_Int, Int.reduceLT, Int.reduceLE, Int.reduceEq, Int.reduceNeg, Int.reduceAdd, Int.reduceSub, app_get l3, app_get l4, app_set l4, j3, j4, xR_ct, he, set_same j4, app_get lc]
    simp [he, bad, zTy, app_get lc, hc', hfr'.app]
end Go.Proofs.Ytdjcnfacjfnakaa
