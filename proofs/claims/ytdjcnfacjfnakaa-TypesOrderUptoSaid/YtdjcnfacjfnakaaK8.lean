/- Contracts: lists of types. -/
import Derived.Test.YtdjcnfacjfnakaaK7
import Derived.Test.YtdjcnfacjfnakaaKx18
set_option maxRecDepth 10000
set_option linter.unusedVariables false
set_option linter.unusedSimpArgs false
namespace Go.Proofs.Ytdjcnfacjfnakaa
open Go.Pi Go.Lx Go.Ky Go.Lib
variable {gl : Nat → Option (List T)}

theorem loop65 {v : PV} {ts : List Ty} {f : Nat} {p : Ty → Bool} (hn : ts.length ≤ B47) (hp : ∀ t, Says (gl := gl) f (.agg (tTy t)) (p t)) {sg0 : Sg} (hs : SlT sg0 v ts) {b6 : Nat} (h6 : sg0[b6]? = some (false, [.t (.int .i64 0), .t (.int .i64 0), .t (.int .i64 0)])) {ow : Ow} (Q : Ex → S → Prop) : ∀ (l : List Ty) (i : Nat) (fr : List PV) (sg : Sg), ts.drop i = l → Grow sg0 sg →
    FrAt fr [(1, .fn f []), (6, .lp b6 0), (10, v), (11, .t (.int .i64 ts.length)), (12, .t (.int .i64 i))] →
    (l.all p = true → ∀ fr' sg', Grow sg0 sg' → fget fr' 5 = fget fr 5 → fget fr' 6 = .lp b6 0 → Q (.exit 0) ⟨fr', sg', ow⟩) →
    (l.all p = false → ∀ fr' sg', Grow sg0 sg' → fget fr' 6 = .lp b6 0 → fget fr' 7 = .t (.int .i64 6) → Q .ret ⟨fr', sg', ow⟩) →
    Xl F gl lb65_0 ⟨fr, sg, ow⟩ Q ⟨⟩ := by
  intro l
  induction l with
  | nil =>
    intro i fr sg hd hg hf h1 h2
    have hd := drop_nil' hd
    simp only [FrAt_cons, FrAt_nil] at hf
    obtain ⟨f1, f6, f10, f11, f12, -⟩ := hf
    refine Xl.step ?_
    simp only [lb65_0]
    have c1 : ¬ ((i : Int) < (ts.length : Int)) := by omega
    simp only [wCo, wFr, wOp, wBi, wLst, wLog, xB_other, Nat.reduceBEq, unT, loadP, storeP, partP, partT, partV, cellsP, mkAgg, allT, setRange, fillP, fieldA, indexS, indexA, indexV, indexStr, elems, lenP, pickV, cviV, nckV, extV, isNil, bound, close, close1, aft, retV, retSl, Go.Pi.one, eqT, eqs, eq1, Nat.reduceEqDiff, Nat.reduceAdd, Nat.reduceSub, Nat.reduceMul, Nat.reduceLeDiff, Nat.reduceLT, Nat.one_ne_zero, Nat.zero_ne_one, reduceIte, reduceCtorEq, bne_self_eq_false, decide_true, decide_false, Int.reduceToNat, Int.cast_ofNat_Int, Int.reduceLT, Int.reduceLE, Int.reduceEq, Int.reduceNeg, Int.reduceAdd, Int.reduceSub, f1, f6, f10, f11, f12, c1]
    exact h1 rfl _ _ hg (by simp only [FrAt_cons, FrAt_nil, wFr, Nat.reduceEqDiff, Nat.one_ne_zero, Nat.zero_ne_one, reduceIte, and_self, and_true, true_and]) (by simp only [FrAt_cons, FrAt_nil, wFr, Nat.reduceEqDiff, Nat.one_ne_zero, Nat.zero_ne_one, reduceIte, and_self, and_true, true_and, f6])
  | cons t l ih =>
    intro i fr sg hd hg hf h1 h2
    obtain ⟨hx, hr, hi⟩ := drop_cons hd
    simp only [FrAt_cons, FrAt_nil] at hf
    obtain ⟨f1, f6, f10, f11, f12, -⟩ := hf
    rcases hs with ⟨rfl, _⟩ | ⟨a, cs, rfl, ha, hcl, hcs⟩
    · simp at hx
    refine Xl.step ?_
    simp only [lb65_0]
    have c1 : (i : Int) < (ts.length : Int) := by omega
    have hw1 := i64_succ hi (show ts.length ≤ 281474976710656 by have : B47 = 140737488355328 := rfl; omega)
    have ha' := hg.get ha
    have hle : i * 3 + 3 ≤ cs.length := by omega
    have hc := hcs i t hx
    have hp' := hp t
    have h6' := hg.get h6
    simp only [wCo, wFr, wOp, wBi, wLst, wLog, xB_other, Nat.reduceBEq, unT, loadP, storeP, partP, partT, partV, cellsP, mkAgg, allT, setRange, fillP, fieldA, indexS, indexA, indexV, indexStr, elems, lenP, pickV, cviV, nckV, extV, isNil, bound, close, close1, aft, retV, retSl, Go.Pi.one, eqT, eqs, eq1, Nat.reduceEqDiff, Nat.reduceAdd, Nat.reduceSub, Nat.reduceMul, Nat.reduceLeDiff, Nat.reduceLT, Nat.one_ne_zero, Nat.zero_ne_one, reduceIte, reduceCtorEq, bne_self_eq_false, decide_true, decide_false, Int.reduceToNat, Int.cast_ofNat_Int, Int.reduceLT, Int.reduceLE, Int.reduceEq, Int.reduceNeg, Int.reduceAdd, Int.reduceSub, f1, f6, f10, f11, f12, c1, Int.toNat_natCast, hi, ha', hle, hc]
    refine CallE.mono (hp' _ _) ?_
    rintro v sg' ow' ⟨rfl, hg', rfl⟩
    cases hq : p t with
    | true =>
      simp only [wCo, wFr, wOp, wBi, wLst, wLog, xB_other, Nat.reduceBEq, unT, loadP, storeP, partP, partT, partV, cellsP, mkAgg, allT, setRange, fillP, fieldA, indexS, indexA, indexV, indexStr, elems, lenP, pickV, cviV, nckV, extV, isNil, bound, close, close1, aft, retV, retSl, Go.Pi.one, eqT, eqs, eq1, Nat.reduceEqDiff, Nat.reduceAdd, Nat.reduceSub, Nat.reduceMul, Nat.reduceLeDiff, Nat.reduceLT, Nat.one_ne_zero, Nat.zero_ne_one, reduceIte, reduceCtorEq, bne_self_eq_false, decide_true, decide_false, Int.reduceToNat, Int.cast_ofNat_Int, Int.reduceLT, Int.reduceLE, Int.reduceEq, Int.reduceNeg, Int.reduceAdd, Int.reduceSub, f1, f6, f10, f11, f12, hw1, hq]
      exact ih (i + 1) _ _ hr (hg.trans ((Grow.app _ _).trans hg')) (by simp only [FrAt_cons, FrAt_nil, wFr, Nat.reduceEqDiff, Nat.one_ne_zero, Nat.zero_ne_one, reduceIte, and_self, and_true, true_and, f1, f6, f10, f11]) (fun h fr' sg' g1 g2 g3 => h1 (by simpa [hq] using h) fr' sg' g1 (by rw [g2]; simp only [FrAt_cons, FrAt_nil, wFr, Nat.reduceEqDiff, Nat.one_ne_zero, Nat.zero_ne_one, reduceIte, and_self, and_true, true_and]) g3) (fun h => h2 (by simpa [hq] using h))
    | false =>
      have h6'' := ((Grow.app _ _).trans hg').get h6'
      simp only [wCo, wFr, wOp, wBi, wLst, wLog, xB_other, Nat.reduceBEq, unT, loadP, storeP, partP, partT, partV, cellsP, mkAgg, allT, setRange, fillP, fieldA, indexS, indexA, indexV, indexStr, elems, lenP, pickV, cviV, nckV, extV, isNil, bound, close, close1, aft, retV, retSl, Go.Pi.one, eqT, eqs, eq1, Nat.reduceEqDiff, Nat.reduceAdd, Nat.reduceSub, Nat.reduceMul, Nat.reduceLeDiff, Nat.reduceLT, Nat.one_ne_zero, Nat.zero_ne_one, reduceIte, reduceCtorEq, bne_self_eq_false, decide_true, decide_false, Int.reduceToNat, Int.cast_ofNat_Int, Int.reduceLT, Int.reduceLE, Int.reduceEq, Int.reduceNeg, Int.reduceAdd, Int.reduceSub, f1, f6, f10, f11, f12, hq, h6'']
      rw [set_same h6'']
      exact h2 (by simp [hq]) _ _ (hg.trans ((Grow.app _ _).trans hg')) (by simp only [FrAt_cons, FrAt_nil, wFr, Nat.reduceEqDiff, Nat.one_ne_zero, Nat.zero_ne_one, reduceIte, and_self, and_true, true_and, f6]) (by simp only [FrAt_cons, FrAt_nil, wFr, Nat.reduceEqDiff, Nat.one_ne_zero, Nat.zero_ne_one, reduceIte, and_self, and_true, true_and])
theorem ok65 {v : PV} {ts : List Ty} {f : Nat} {p : Ty → Bool} (hn : ts.length ≤ B47) (hp : ∀ t, Says (gl := gl) f (.agg (tTy t)) (p t)) {sg : Sg} (hs : SlT sg v ts) (r : Ty) (ow : Ow) :
    CallE F gl 65 [v, .fn f [], .t (.agg (tTy r))] sg ow fun x sg' ow' => x = tRt (allM p ts r) ∧ Grow sg sg' ∧ ow' = ow := by
  refine XcE.of F65 rfl ?_
  simp only [ir65]
  have hlen := hs.len
  have g0 : Grow sg (sg ++ [(false, [.t (.int .i64 r.kind), .t (.int .i64 r.bits), .t (.int .i64 r.len)]), (false, [.t (.int .i64 0), .t (.int .i64 0), .t (.int .i64 0)])]) := .app _ _
  have i5 : (sg ++ [(false, [.t (.int .i64 r.kind), .t (.int .i64 r.bits), .t (.int .i64 r.len)]), (false, [.t (.int .i64 0), .t (.int .i64 0), .t (.int .i64 0)])])[sg.length]? = some (false, [.t (.int .i64 r.kind), .t (.int .i64 r.bits), .t (.int .i64 r.len)]) := by simp
  have i6 : (sg ++ [(false, [.t (.int .i64 r.kind), .t (.int .i64 r.bits), .t (.int .i64 r.len)]), (false, [.t (.int .i64 0), .t (.int .i64 0), .t (.int .i64 0)])])[sg.length + 1]? = some (false, [.t (.int .i64 0), .t (.int .i64 0), .t (.int .i64 0)]) := by simp
  rcases hs with ⟨rfl, k, rfl⟩ | ⟨a, cs, rfl, ha, hcl, hcs⟩
  all_goals (simp only [wCo, wFr, wOp, wBi, wLst, wLog, xB_other, Nat.reduceBEq, unT, loadP, storeP, partP, partT, partV, cellsP, mkAgg, allT, setRange, fillP, fieldA, indexS, indexA, indexV, indexStr, elems, lenP, pickV, cviV, nckV, extV, isNil, bound, close, close1, aft, retV, retSl, Go.Pi.one, eqT, eqs, eq1, Nat.reduceEqDiff, Nat.reduceAdd, Nat.reduceSub, Nat.reduceMul, Nat.reduceLeDiff, Nat.reduceLT, Nat.one_ne_zero, Nat.zero_ne_one, reduceIte, reduceCtorEq, bne_self_eq_false, decide_true, decide_false, Int.reduceToNat, Int.cast_ofNat_Int, Int.reduceLT, Int.reduceLE, Int.reduceEq, Int.reduceNeg, Int.reduceAdd, Int.reduceSub, List.length_nil, i6])
  all_goals skip
  · refine loop65 hn hp (.inl ⟨rfl, k, rfl⟩) i6 _ [] 0 _ _ rfl (Grow.refl _) (by simp only [FrAt_cons, FrAt_nil, wFr, Nat.reduceEqDiff, Nat.one_ne_zero, Nat.zero_ne_one, reduceIte, and_self, and_true, true_and]; first | done | rfl) ?_ ?_
    · intro h fr' sg' hg h5 h6
      have j5 := hg.get i5
      have j6 := hg.get i6
      simp only [FrAt_cons, FrAt_nil, wFr, Nat.reduceEqDiff, Nat.one_ne_zero, Nat.zero_ne_one, reduceIte, and_self, and_true, true_and] at h5
      simp only [wCo, wFr, wOp, wBi, wLst, wLog, xB_other, Nat.reduceBEq, unT, loadP, storeP, partP, partT, partV, cellsP, mkAgg, allT, setRange, fillP, fieldA, indexS, indexA, indexV, indexStr, elems, lenP, pickV, cviV, nckV, extV, isNil, bound, close, close1, aft, retV, retSl, Go.Pi.one, eqT, eqs, eq1, Nat.reduceEqDiff, Nat.reduceAdd, Nat.reduceSub, Nat.reduceMul, Nat.reduceLeDiff, Nat.reduceLT, Nat.one_ne_zero, Nat.zero_ne_one, reduceIte, reduceCtorEq, bne_self_eq_false, decide_true, decide_false, Int.reduceToNat, Int.cast_ofNat_Int, Int.reduceLT, Int.reduceLE, Int.reduceEq, Int.reduceNeg, Int.reduceAdd, Int.reduceSub, h5, h6, j5, j6, xR_ct, get_set j6]
      refine ⟨rfl, ?_⟩
      exact (Fr.of (c := sg.length + 1) hg).set _ |>.grow g0 (by omega)
    · intro h; simp at h
  · refine loop65 hn hp (.inr ⟨a, cs, rfl, g0.get ha, hcl, hcs⟩) i6 _ ts 0 _ _ rfl (Grow.refl _) (by simp only [FrAt_cons, FrAt_nil, wFr, Nat.reduceEqDiff, Nat.one_ne_zero, Nat.zero_ne_one, reduceIte, and_self, and_true, true_and]; first | done | rfl) ?_ ?_
    · intro h fr' sg' hg h5 h6
      have j5 := hg.get i5
      have j6 := hg.get i6
      simp only [FrAt_cons, FrAt_nil, wFr, Nat.reduceEqDiff, Nat.one_ne_zero, Nat.zero_ne_one, reduceIte, and_self, and_true, true_and] at h5
      simp only [wCo, wFr, wOp, wBi, wLst, wLog, xB_other, Nat.reduceBEq, unT, loadP, storeP, partP, partT, partV, cellsP, mkAgg, allT, setRange, fillP, fieldA, indexS, indexA, indexV, indexStr, elems, lenP, pickV, cviV, nckV, extV, isNil, bound, close, close1, aft, retV, retSl, Go.Pi.one, eqT, eqs, eq1, Nat.reduceEqDiff, Nat.reduceAdd, Nat.reduceSub, Nat.reduceMul, Nat.reduceLeDiff, Nat.reduceLT, Nat.one_ne_zero, Nat.zero_ne_one, reduceIte, reduceCtorEq, bne_self_eq_false, decide_true, decide_false, Int.reduceToNat, Int.cast_ofNat_Int, Int.reduceLT, Int.reduceLE, Int.reduceEq, Int.reduceNeg, Int.reduceAdd, Int.reduceSub, h5, h6, j5, j6, xR_ct, get_set j6]
      unfold allM
      rw [h]
      refine ⟨rfl, ?_⟩
      exact (Fr.of (c := sg.length + 1) hg).set _ |>.grow g0 (by omega)
    · intro h fr' sg' hg h6 h7
      have j6 := hg.get i6
      simp only [wCo, wFr, wOp, wBi, wLst, wLog, xB_other, Nat.reduceBEq, unT, loadP, storeP, partP, partT, partV, cellsP, mkAgg, allT, setRange, fillP, fieldA, indexS, indexA, indexV, indexStr, elems, lenP, pickV, cviV, nckV, extV, isNil, bound, close, close1, aft, retV, retSl, Go.Pi.one, eqT, eqs, eq1, Nat.reduceEqDiff, Nat.reduceAdd, Nat.reduceSub, Nat.reduceMul, Nat.reduceLeDiff, Nat.reduceLT, Nat.one_ne_zero, Nat.zero_ne_one, reduceIte, reduceCtorEq, bne_self_eq_false, decide_true, decide_false, Int.reduceToNat, Int.cast_ofNat_Int, Int.reduceLT, Int.reduceLE, Int.reduceEq, Int.reduceNeg, Int.reduceAdd, Int.reduceSub, h6, h7, j6, xR_ct]
      unfold allM
      rw [h]
      exact ⟨rfl, g0.trans hg⟩
end Go.Proofs.Ytdjcnfacjfnakaa
