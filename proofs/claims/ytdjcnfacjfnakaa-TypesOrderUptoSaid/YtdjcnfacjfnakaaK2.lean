/- Contracts: a property of all elements. -/
import Derived.Test.YtdjcnfacjfnakaaK1
import Derived.Test.YtdjcnfacjfnakaaKx18
set_option maxRecDepth 10000
set_option linter.unusedVariables false
set_option linter.unusedSimpArgs false
namespace Go.Proofs.Ytdjcnfacjfnakaa
open Go.Pi Go.Lx Go.Ky
variable {gl : Nat → Option (List T)}

/-- A function that says p of x, and adds to the store alone. -/
def Says (f : Nat) (x : T) (b : Bool) : Prop := ∀ (sg : Sg) (ow : Ow), CallE F gl f [.t x] sg ow fun v sg' ow' => v = .t (.bool b) ∧ Grow sg sg' ∧ ow' = ow
theorem loop25 {f : Nat} {p : Fu → Bool} {nl : Bool} {l : List Fu} (hl : l.length ≤ B47) (hp : ∀ x, x ∈ l → Says (gl := gl) f (.agg (tFu x)) (p x)) {sg0 : Sg} {ow : Ow} (Q : Ex → S → Prop) : ∀ (r : List Fu) (i : Nat) (fr : List PV) (sg : Sg), l.drop i = r → Grow sg0 sg →
    FrAt fr [(1, .fn f []), (7, .t (.sl nl (l.map tFu))), (8, .t (.int .i64 l.length)), (9, .t (.int .i64 i))] →
    (r.all p = true → ∀ fr' sg', Grow sg0 sg' → Q (.exit 0) ⟨fr', sg', ow⟩) →
    (r.all p = false → ∀ fr' sg', Grow sg0 sg' → fget fr' 4 = .t (.bool false) → Q .ret ⟨fr', sg', ow⟩) →
    Xl F gl lb25_0 ⟨fr, sg, ow⟩ Q ⟨⟩ := by
  intro r
  induction r with
  | nil =>
    intro i fr sg hd hg hf h1 h2
    have hd := drop_nil' hd
    simp only [FrAt_cons, FrAt_nil] at hf
    obtain ⟨f1, f7, f8, f9, -⟩ := hf
    refine Xl.step ?_
    simp only [lb25_0]
    have c1 : ¬ ((i : Int) < (l.length : Int)) := by omega
    simp only [wCo, wFr, wOp, wBi, wLst, wLog, xB_other, Nat.reduceBEq, unT, loadP, storeP, partP, partT, partV, cellsP, mkAgg, allT, setRange, fillP, fieldA, indexS, indexA, indexV, indexStr, elems, lenP, pickV, cviV, nckV, extV, isNil, bound, close, close1, aft, retV, retSl, Go.Pi.one, eqT, eqs, eq1, Nat.reduceEqDiff, Nat.reduceAdd, Nat.reduceSub, Nat.reduceMul, Nat.reduceLeDiff, Nat.reduceLT, Nat.one_ne_zero, Nat.zero_ne_one, reduceIte, reduceCtorEq, bne_self_eq_false, decide_true, decide_false, Int.reduceToNat, Int.cast_ofNat_Int, Int.reduceLT, Int.reduceLE, Int.reduceEq, Int.reduceNeg, Int.reduceAdd, Int.reduceSub, f1, f7, f8, f9, c1]
    exact h1 rfl _ _ hg
  | cons x r ih =>
    intro i fr sg hd hg hf h1 h2
    obtain ⟨hx, hr, hi⟩ := drop_cons hd
    simp only [FrAt_cons, FrAt_nil] at hf
    obtain ⟨f1, f7, f8, f9, -⟩ := hf
    refine Xl.step ?_
    simp only [lb25_0]
    have c1 : (i : Int) < (l.length : Int) := by omega
    have hw1 := i64_succ hi (show l.length ≤ 281474976710656 by have : B47 = 140737488355328 := rfl; omega)
    have hc := hp x (List.mem_of_getElem? hx)
    simp only [wCo, wFr, wOp, wBi, wLst, wLog, xB_other, Nat.reduceBEq, unT, loadP, storeP, partP, partT, partV, cellsP, mkAgg, allT, setRange, fillP, fieldA, indexS, indexA, indexV, indexStr, elems, lenP, pickV, cviV, nckV, extV, isNil, bound, close, close1, aft, retV, retSl, Go.Pi.one, eqT, eqs, eq1, Nat.reduceEqDiff, Nat.reduceAdd, Nat.reduceSub, Nat.reduceMul, Nat.reduceLeDiff, Nat.reduceLT, Nat.one_ne_zero, Nat.zero_ne_one, reduceIte, reduceCtorEq, bne_self_eq_false, decide_true, decide_false, Int.reduceToNat, Int.cast_ofNat_Int, Int.reduceLT, Int.reduceLE, Int.reduceEq, Int.reduceNeg, Int.reduceAdd, Int.reduceSub, f1, f7, f8, f9, c1, List.getElem?_map, hx, Int.toNat_natCast]
    refine CallE.mono (hc _ _) ?_
    rintro v sg' ow' ⟨rfl, hg', rfl⟩
    cases hq : p x with
    | true =>
      simp only [wCo, wFr, wOp, wBi, wLst, wLog, xB_other, Nat.reduceBEq, unT, loadP, storeP, partP, partT, partV, cellsP, mkAgg, allT, setRange, fillP, fieldA, indexS, indexA, indexV, indexStr, elems, lenP, pickV, cviV, nckV, extV, isNil, bound, close, close1, aft, retV, retSl, Go.Pi.one, eqT, eqs, eq1, Nat.reduceEqDiff, Nat.reduceAdd, Nat.reduceSub, Nat.reduceMul, Nat.reduceLeDiff, Nat.reduceLT, Nat.one_ne_zero, Nat.zero_ne_one, reduceIte, reduceCtorEq, bne_self_eq_false, decide_true, decide_false, Int.reduceToNat, Int.cast_ofNat_Int, Int.reduceLT, Int.reduceLE, Int.reduceEq, Int.reduceNeg, Int.reduceAdd, Int.reduceSub, f1, f7, f8, f9, hw1, hq]
      refine ih (i + 1) _ _ hr (hg.trans ((Grow.app _ _).trans hg')) (by simp only [FrAt_cons, FrAt_nil, wFr, Nat.reduceEqDiff, Nat.one_ne_zero, Nat.zero_ne_one, reduceIte, and_self, and_true, true_and, f1, f7, f8]) (fun h => h1 (by simpa [hq] using h)) (fun h => h2 (by simpa [hq] using h))
    | false =>
      simp only [wCo, wFr, wOp, wBi, wLst, wLog, xB_other, Nat.reduceBEq, unT, loadP, storeP, partP, partT, partV, cellsP, mkAgg, allT, setRange, fillP, fieldA, indexS, indexA, indexV, indexStr, elems, lenP, pickV, cviV, nckV, extV, isNil, bound, close, close1, aft, retV, retSl, Go.Pi.one, eqT, eqs, eq1, Nat.reduceEqDiff, Nat.reduceAdd, Nat.reduceSub, Nat.reduceMul, Nat.reduceLeDiff, Nat.reduceLT, Nat.one_ne_zero, Nat.zero_ne_one, reduceIte, reduceCtorEq, bne_self_eq_false, decide_true, decide_false, Int.reduceToNat, Int.cast_ofNat_Int, Int.reduceLT, Int.reduceLE, Int.reduceEq, Int.reduceNeg, Int.reduceAdd, Int.reduceSub, f1, f7, f8, f9, hq]
      exact h2 (by simp [hq]) _ _ (hg.trans ((Grow.app _ _).trans hg')) (by simp only [FrAt_cons, FrAt_nil, wFr, Nat.reduceEqDiff, Nat.one_ne_zero, Nat.zero_ne_one, reduceIte, and_self, and_true, true_and])
theorem ok25 {f : Nat} {p : Fu → Bool} {nl : Bool} {l : List Fu} (hl : l.length ≤ B47) (hp : ∀ x, x ∈ l → Says (gl := gl) f (.agg (tFu x)) (p x)) (sg : Sg) (ow : Ow) :
    CallE F gl 25 [.t (.sl nl (l.map tFu)), .fn f []] sg ow fun v sg' ow' => v = .t (.bool (l.all p)) ∧ Grow sg sg' ∧ ow' = ow := by
  refine XcE.of F25 rfl ?_
  simp only [ir25]
  simp only [wCo, wFr, wOp, wBi, wLst, wLog, xB_other, Nat.reduceBEq, unT, loadP, storeP, partP, partT, partV, cellsP, mkAgg, allT, setRange, fillP, fieldA, indexS, indexA, indexV, indexStr, elems, lenP, pickV, cviV, nckV, extV, isNil, bound, close, close1, aft, retV, retSl, Go.Pi.one, eqT, eqs, eq1, Nat.reduceEqDiff, Nat.reduceAdd, Nat.reduceSub, Nat.reduceMul, Nat.reduceLeDiff, Nat.reduceLT, Nat.one_ne_zero, Nat.zero_ne_one, reduceIte, reduceCtorEq, bne_self_eq_false, decide_true, decide_false, Int.reduceToNat, Int.cast_ofNat_Int, Int.reduceLT, Int.reduceLE, Int.reduceEq, Int.reduceNeg, Int.reduceAdd, Int.reduceSub, List.length_map]
  refine loop25 hl hp (sg0 := sg) _ l 0 _ _ rfl (Grow.refl _) (by simp only [FrAt_cons, FrAt_nil, wFr, Nat.reduceEqDiff, Nat.one_ne_zero, Nat.zero_ne_one, reduceIte, and_self, and_true, true_and]; exact rfl) ?_ ?_
  · intro h fr' sg' hg
    simp only [wCo, wFr, wOp, wBi, wLst, wLog, xB_other, Nat.reduceBEq, unT, loadP, storeP, partP, partT, partV, cellsP, mkAgg, allT, setRange, fillP, fieldA, indexS, indexA, indexV, indexStr, elems, lenP, pickV, cviV, nckV, extV, isNil, bound, close, close1, aft, retV, retSl, Go.Pi.one, eqT, eqs, eq1, Nat.reduceEqDiff, Nat.reduceAdd, Nat.reduceSub, Nat.reduceMul, Nat.reduceLeDiff, Nat.reduceLT, Nat.one_ne_zero, Nat.zero_ne_one, reduceIte, reduceCtorEq, bne_self_eq_false, decide_true, decide_false, Int.reduceToNat, Int.cast_ofNat_Int, Int.reduceLT, Int.reduceLE, Int.reduceEq, Int.reduceNeg, Int.reduceAdd, Int.reduceSub]
    exact ⟨by rw [h], hg⟩
  · intro h fr' sg' hg h4
    simp only [wCo, wFr, wOp, wBi, wLst, wLog, xB_other, Nat.reduceBEq, unT, loadP, storeP, partP, partT, partV, cellsP, mkAgg, allT, setRange, fillP, fieldA, indexS, indexA, indexV, indexStr, elems, lenP, pickV, cviV, nckV, extV, isNil, bound, close, close1, aft, retV, retSl, Go.Pi.one, eqT, eqs, eq1, Nat.reduceEqDiff, Nat.reduceAdd, Nat.reduceSub, Nat.reduceMul, Nat.reduceLeDiff, Nat.reduceLT, Nat.one_ne_zero, Nat.zero_ne_one, reduceIte, reduceCtorEq, bne_self_eq_false, decide_true, decide_false, Int.reduceToNat, Int.cast_ofNat_Int, Int.reduceLT, Int.reduceLE, Int.reduceEq, Int.reduceNeg, Int.reduceAdd, Int.reduceSub, h4]
    exact ⟨by rw [h], hg⟩
theorem loop27 {f : Nat} {p : De → Bool} {nl : Bool} {l : List De} (hl : l.length ≤ B47) (hp : ∀ x, x ∈ l → Says (gl := gl) f (.agg (tDe x)) (p x)) {sg0 : Sg} {ow : Ow} (Q : Ex → S → Prop) : ∀ (r : List De) (i : Nat) (fr : List PV) (sg : Sg), l.drop i = r → Grow sg0 sg →
    FrAt fr [(1, .fn f []), (7, .t (.sl nl (l.map tDe))), (8, .t (.int .i64 l.length)), (9, .t (.int .i64 i))] →
    (r.all p = true → ∀ fr' sg', Grow sg0 sg' → Q (.exit 0) ⟨fr', sg', ow⟩) →
    (r.all p = false → ∀ fr' sg', Grow sg0 sg' → fget fr' 4 = .t (.bool false) → Q .ret ⟨fr', sg', ow⟩) →
    Xl F gl lb27_0 ⟨fr, sg, ow⟩ Q ⟨⟩ := by
  intro r
  induction r with
  | nil =>
    intro i fr sg hd hg hf h1 h2
    have hd := drop_nil' hd
    simp only [FrAt_cons, FrAt_nil] at hf
    obtain ⟨f1, f7, f8, f9, -⟩ := hf
    refine Xl.step ?_
    simp only [lb27_0]
    have c1 : ¬ ((i : Int) < (l.length : Int)) := by omega
    simp only [wCo, wFr, wOp, wBi, wLst, wLog, xB_other, Nat.reduceBEq, unT, loadP, storeP, partP, partT, partV, cellsP, mkAgg, allT, setRange, fillP, fieldA, indexS, indexA, indexV, indexStr, elems, lenP, pickV, cviV, nckV, extV, isNil, bound, close, close1, aft, retV, retSl, Go.Pi.one, eqT, eqs, eq1, Nat.reduceEqDiff, Nat.reduceAdd, Nat.reduceSub, Nat.reduceMul, Nat.reduceLeDiff, Nat.reduceLT, Nat.one_ne_zero, Nat.zero_ne_one, reduceIte, reduceCtorEq, bne_self_eq_false, decide_true, decide_false, Int.reduceToNat, Int.cast_ofNat_Int, Int.reduceLT, Int.reduceLE, Int.reduceEq, Int.reduceNeg, Int.reduceAdd, Int.reduceSub, f1, f7, f8, f9, c1]
    exact h1 rfl _ _ hg
  | cons x r ih =>
    intro i fr sg hd hg hf h1 h2
    obtain ⟨hx, hr, hi⟩ := drop_cons hd
    simp only [FrAt_cons, FrAt_nil] at hf
    obtain ⟨f1, f7, f8, f9, -⟩ := hf
    refine Xl.step ?_
    simp only [lb27_0]
    have c1 : (i : Int) < (l.length : Int) := by omega
    have hw1 := i64_succ hi (show l.length ≤ 281474976710656 by have : B47 = 140737488355328 := rfl; omega)
    have hc := hp x (List.mem_of_getElem? hx)
    simp only [wCo, wFr, wOp, wBi, wLst, wLog, xB_other, Nat.reduceBEq, unT, loadP, storeP, partP, partT, partV, cellsP, mkAgg, allT, setRange, fillP, fieldA, indexS, indexA, indexV, indexStr, elems, lenP, pickV, cviV, nckV, extV, isNil, bound, close, close1, aft, retV, retSl, Go.Pi.one, eqT, eqs, eq1, Nat.reduceEqDiff, Nat.reduceAdd, Nat.reduceSub, Nat.reduceMul, Nat.reduceLeDiff, Nat.reduceLT, Nat.one_ne_zero, Nat.zero_ne_one, reduceIte, reduceCtorEq, bne_self_eq_false, decide_true, decide_false, Int.reduceToNat, Int.cast_ofNat_Int, Int.reduceLT, Int.reduceLE, Int.reduceEq, Int.reduceNeg, Int.reduceAdd, Int.reduceSub, f1, f7, f8, f9, c1, List.getElem?_map, hx, Int.toNat_natCast]
    refine CallE.mono (hc _ _) ?_
    rintro v sg' ow' ⟨rfl, hg', rfl⟩
    cases hq : p x with
    | true =>
      simp only [wCo, wFr, wOp, wBi, wLst, wLog, xB_other, Nat.reduceBEq, unT, loadP, storeP, partP, partT, partV, cellsP, mkAgg, allT, setRange, fillP, fieldA, indexS, indexA, indexV, indexStr, elems, lenP, pickV, cviV, nckV, extV, isNil, bound, close, close1, aft, retV, retSl, Go.Pi.one, eqT, eqs, eq1, Nat.reduceEqDiff, Nat.reduceAdd, Nat.reduceSub, Nat.reduceMul, Nat.reduceLeDiff, Nat.reduceLT, Nat.one_ne_zero, Nat.zero_ne_one, reduceIte, reduceCtorEq, bne_self_eq_false, decide_true, decide_false, Int.reduceToNat, Int.cast_ofNat_Int, Int.reduceLT, Int.reduceLE, Int.reduceEq, Int.reduceNeg, Int.reduceAdd, Int.reduceSub, f1, f7, f8, f9, hw1, hq]
      refine ih (i + 1) _ _ hr (hg.trans ((Grow.app _ _).trans hg')) (by simp only [FrAt_cons, FrAt_nil, wFr, Nat.reduceEqDiff, Nat.one_ne_zero, Nat.zero_ne_one, reduceIte, and_self, and_true, true_and, f1, f7, f8]) (fun h => h1 (by simpa [hq] using h)) (fun h => h2 (by simpa [hq] using h))
    | false =>
      simp only [wCo, wFr, wOp, wBi, wLst, wLog, xB_other, Nat.reduceBEq, unT, loadP, storeP, partP, partT, partV, cellsP, mkAgg, allT, setRange, fillP, fieldA, indexS, indexA, indexV, indexStr, elems, lenP, pickV, cviV, nckV, extV, isNil, bound, close, close1, aft, retV, retSl, Go.Pi.one, eqT, eqs, eq1, Nat.reduceEqDiff, Nat.reduceAdd, Nat.reduceSub, Nat.reduceMul, Nat.reduceLeDiff, Nat.reduceLT, Nat.one_ne_zero, Nat.zero_ne_one, reduceIte, reduceCtorEq, bne_self_eq_false, decide_true, decide_false, Int.reduceToNat, Int.cast_ofNat_Int, Int.reduceLT, Int.reduceLE, Int.reduceEq, Int.reduceNeg, Int.reduceAdd, Int.reduceSub, f1, f7, f8, f9, hq]
      exact h2 (by simp [hq]) _ _ (hg.trans ((Grow.app _ _).trans hg')) (by simp only [FrAt_cons, FrAt_nil, wFr, Nat.reduceEqDiff, Nat.one_ne_zero, Nat.zero_ne_one, reduceIte, and_self, and_true, true_and])
theorem ok27 {f : Nat} {p : De → Bool} {nl : Bool} {l : List De} (hl : l.length ≤ B47) (hp : ∀ x, x ∈ l → Says (gl := gl) f (.agg (tDe x)) (p x)) (sg : Sg) (ow : Ow) :
    CallE F gl 27 [.t (.sl nl (l.map tDe)), .fn f []] sg ow fun v sg' ow' => v = .t (.bool (l.all p)) ∧ Grow sg sg' ∧ ow' = ow := by
  refine XcE.of F27 rfl ?_
  simp only [ir27]
  simp only [wCo, wFr, wOp, wBi, wLst, wLog, xB_other, Nat.reduceBEq, unT, loadP, storeP, partP, partT, partV, cellsP, mkAgg, allT, setRange, fillP, fieldA, indexS, indexA, indexV, indexStr, elems, lenP, pickV, cviV, nckV, extV, isNil, bound, close, close1, aft, retV, retSl, Go.Pi.one, eqT, eqs, eq1, Nat.reduceEqDiff, Nat.reduceAdd, Nat.reduceSub, Nat.reduceMul, Nat.reduceLeDiff, Nat.reduceLT, Nat.one_ne_zero, Nat.zero_ne_one, reduceIte, reduceCtorEq, bne_self_eq_false, decide_true, decide_false, Int.reduceToNat, Int.cast_ofNat_Int, Int.reduceLT, Int.reduceLE, Int.reduceEq, Int.reduceNeg, Int.reduceAdd, Int.reduceSub, List.length_map]
  refine loop27 hl hp (sg0 := sg) _ l 0 _ _ rfl (Grow.refl _) (by simp only [FrAt_cons, FrAt_nil, wFr, Nat.reduceEqDiff, Nat.one_ne_zero, Nat.zero_ne_one, reduceIte, and_self, and_true, true_and]; exact rfl) ?_ ?_
  · intro h fr' sg' hg
    simp only [wCo, wFr, wOp, wBi, wLst, wLog, xB_other, Nat.reduceBEq, unT, loadP, storeP, partP, partT, partV, cellsP, mkAgg, allT, setRange, fillP, fieldA, indexS, indexA, indexV, indexStr, elems, lenP, pickV, cviV, nckV, extV, isNil, bound, close, close1, aft, retV, retSl, Go.Pi.one, eqT, eqs, eq1, Nat.reduceEqDiff, Nat.reduceAdd, Nat.reduceSub, Nat.reduceMul, Nat.reduceLeDiff, Nat.reduceLT, Nat.one_ne_zero, Nat.zero_ne_one, reduceIte, reduceCtorEq, bne_self_eq_false, decide_true, decide_false, Int.reduceToNat, Int.cast_ofNat_Int, Int.reduceLT, Int.reduceLE, Int.reduceEq, Int.reduceNeg, Int.reduceAdd, Int.reduceSub]
    exact ⟨by rw [h], hg⟩
  · intro h fr' sg' hg h4
    simp only [wCo, wFr, wOp, wBi, wLst, wLog, xB_other, Nat.reduceBEq, unT, loadP, storeP, partP, partT, partV, cellsP, mkAgg, allT, setRange, fillP, fieldA, indexS, indexA, indexV, indexStr, elems, lenP, pickV, cviV, nckV, extV, isNil, bound, close, close1, aft, retV, retSl, Go.Pi.one, eqT, eqs, eq1, Nat.reduceEqDiff, Nat.reduceAdd, Nat.reduceSub, Nat.reduceMul, Nat.reduceLeDiff, Nat.reduceLT, Nat.one_ne_zero, Nat.zero_ne_one, reduceIte, reduceCtorEq, bne_self_eq_false, decide_true, decide_false, Int.reduceToNat, Int.cast_ofNat_Int, Int.reduceLT, Int.reduceLE, Int.reduceEq, Int.reduceNeg, Int.reduceAdd, Int.reduceSub, h4]
    exact ⟨by rw [h], hg⟩
theorem loop29 {f : Nat} {p : St → Bool} {nl : Bool} {l : List St} (hl : l.length ≤ B47) (hp : ∀ x, x ∈ l → Says (gl := gl) f (.agg (tSt x)) (p x)) {sg0 : Sg} {ow : Ow} (Q : Ex → S → Prop) : ∀ (r : List St) (i : Nat) (fr : List PV) (sg : Sg), l.drop i = r → Grow sg0 sg →
    FrAt fr [(1, .fn f []), (7, .t (.sl nl (tSts l))), (8, .t (.int .i64 l.length)), (9, .t (.int .i64 i))] →
    (r.all p = true → ∀ fr' sg', Grow sg0 sg' → Q (.exit 0) ⟨fr', sg', ow⟩) →
    (r.all p = false → ∀ fr' sg', Grow sg0 sg' → fget fr' 4 = .t (.bool false) → Q .ret ⟨fr', sg', ow⟩) →
    Xl F gl lb29_0 ⟨fr, sg, ow⟩ Q ⟨⟩ := by
  intro r
  induction r with
  | nil =>
    intro i fr sg hd hg hf h1 h2
    have hd := drop_nil' hd
    simp only [FrAt_cons, FrAt_nil] at hf
    obtain ⟨f1, f7, f8, f9, -⟩ := hf
    refine Xl.step ?_
    simp only [lb29_0]
    have c1 : ¬ ((i : Int) < (l.length : Int)) := by omega
    simp only [wCo, wFr, wOp, wBi, wLst, wLog, xB_other, Nat.reduceBEq, unT, loadP, storeP, partP, partT, partV, cellsP, mkAgg, allT, setRange, fillP, fieldA, indexS, indexA, indexV, indexStr, elems, lenP, pickV, cviV, nckV, extV, isNil, bound, close, close1, aft, retV, retSl, Go.Pi.one, eqT, eqs, eq1, Nat.reduceEqDiff, Nat.reduceAdd, Nat.reduceSub, Nat.reduceMul, Nat.reduceLeDiff, Nat.reduceLT, Nat.one_ne_zero, Nat.zero_ne_one, reduceIte, reduceCtorEq, bne_self_eq_false, decide_true, decide_false, Int.reduceToNat, Int.cast_ofNat_Int, Int.reduceLT, Int.reduceLE, Int.reduceEq, Int.reduceNeg, Int.reduceAdd, Int.reduceSub, f1, f7, f8, f9, c1]
    exact h1 rfl _ _ hg
  | cons x r ih =>
    intro i fr sg hd hg hf h1 h2
    obtain ⟨hx, hr, hi⟩ := drop_cons hd
    simp only [FrAt_cons, FrAt_nil] at hf
    obtain ⟨f1, f7, f8, f9, -⟩ := hf
    refine Xl.step ?_
    simp only [lb29_0]
    have c1 : (i : Int) < (l.length : Int) := by omega
    have hw1 := i64_succ hi (show l.length ≤ 281474976710656 by have : B47 = 140737488355328 := rfl; omega)
    have hc := hp x (List.mem_of_getElem? hx)
    simp only [tSt_eq] at hc
    simp only [wCo, wFr, wOp, wBi, wLst, wLog, xB_other, Nat.reduceBEq, unT, loadP, storeP, partP, partT, partV, cellsP, mkAgg, allT, setRange, fillP, fieldA, indexS, indexA, indexV, indexStr, elems, lenP, pickV, cviV, nckV, extV, isNil, bound, close, close1, aft, retV, retSl, Go.Pi.one, eqT, eqs, eq1, Nat.reduceEqDiff, Nat.reduceAdd, Nat.reduceSub, Nat.reduceMul, Nat.reduceLeDiff, Nat.reduceLT, Nat.one_ne_zero, Nat.zero_ne_one, reduceIte, reduceCtorEq, bne_self_eq_false, decide_true, decide_false, Int.reduceToNat, Int.cast_ofNat_Int, Int.reduceLT, Int.reduceLE, Int.reduceEq, Int.reduceNeg, Int.reduceAdd, Int.reduceSub, f1, f7, f8, f9, c1, tSts_get, hx, tSt_eq, Int.toNat_natCast]
    refine CallE.mono (hc _ _) ?_
    rintro v sg' ow' ⟨rfl, hg', rfl⟩
    cases hq : p x with
    | true =>
      simp only [wCo, wFr, wOp, wBi, wLst, wLog, xB_other, Nat.reduceBEq, unT, loadP, storeP, partP, partT, partV, cellsP, mkAgg, allT, setRange, fillP, fieldA, indexS, indexA, indexV, indexStr, elems, lenP, pickV, cviV, nckV, extV, isNil, bound, close, close1, aft, retV, retSl, Go.Pi.one, eqT, eqs, eq1, Nat.reduceEqDiff, Nat.reduceAdd, Nat.reduceSub, Nat.reduceMul, Nat.reduceLeDiff, Nat.reduceLT, Nat.one_ne_zero, Nat.zero_ne_one, reduceIte, reduceCtorEq, bne_self_eq_false, decide_true, decide_false, Int.reduceToNat, Int.cast_ofNat_Int, Int.reduceLT, Int.reduceLE, Int.reduceEq, Int.reduceNeg, Int.reduceAdd, Int.reduceSub, f1, f7, f8, f9, hw1, hq]
      refine ih (i + 1) _ _ hr (hg.trans ((Grow.app _ _).trans hg')) (by simp only [FrAt_cons, FrAt_nil, wFr, Nat.reduceEqDiff, Nat.one_ne_zero, Nat.zero_ne_one, reduceIte, and_self, and_true, true_and, f1, f7, f8]) (fun h => h1 (by simpa [hq] using h)) (fun h => h2 (by simpa [hq] using h))
    | false =>
      simp only [wCo, wFr, wOp, wBi, wLst, wLog, xB_other, Nat.reduceBEq, unT, loadP, storeP, partP, partT, partV, cellsP, mkAgg, allT, setRange, fillP, fieldA, indexS, indexA, indexV, indexStr, elems, lenP, pickV, cviV, nckV, extV, isNil, bound, close, close1, aft, retV, retSl, Go.Pi.one, eqT, eqs, eq1, Nat.reduceEqDiff, Nat.reduceAdd, Nat.reduceSub, Nat.reduceMul, Nat.reduceLeDiff, Nat.reduceLT, Nat.one_ne_zero, Nat.zero_ne_one, reduceIte, reduceCtorEq, bne_self_eq_false, decide_true, decide_false, Int.reduceToNat, Int.cast_ofNat_Int, Int.reduceLT, Int.reduceLE, Int.reduceEq, Int.reduceNeg, Int.reduceAdd, Int.reduceSub, f1, f7, f8, f9, hq]
      exact h2 (by simp [hq]) _ _ (hg.trans ((Grow.app _ _).trans hg')) (by simp only [FrAt_cons, FrAt_nil, wFr, Nat.reduceEqDiff, Nat.one_ne_zero, Nat.zero_ne_one, reduceIte, and_self, and_true, true_and])
theorem ok29 {f : Nat} {p : St → Bool} {nl : Bool} {l : List St} (hl : l.length ≤ B47) (hp : ∀ x, x ∈ l → Says (gl := gl) f (.agg (tSt x)) (p x)) (sg : Sg) (ow : Ow) :
    CallE F gl 29 [.t (.sl nl (tSts l)), .fn f []] sg ow fun v sg' ow' => v = .t (.bool (l.all p)) ∧ Grow sg sg' ∧ ow' = ow := by
  refine XcE.of F29 rfl ?_
  simp only [ir29]
  simp only [wCo, wFr, wOp, wBi, wLst, wLog, xB_other, Nat.reduceBEq, unT, loadP, storeP, partP, partT, partV, cellsP, mkAgg, allT, setRange, fillP, fieldA, indexS, indexA, indexV, indexStr, elems, lenP, pickV, cviV, nckV, extV, isNil, bound, close, close1, aft, retV, retSl, Go.Pi.one, eqT, eqs, eq1, Nat.reduceEqDiff, Nat.reduceAdd, Nat.reduceSub, Nat.reduceMul, Nat.reduceLeDiff, Nat.reduceLT, Nat.one_ne_zero, Nat.zero_ne_one, reduceIte, reduceCtorEq, bne_self_eq_false, decide_true, decide_false, Int.reduceToNat, Int.cast_ofNat_Int, Int.reduceLT, Int.reduceLE, Int.reduceEq, Int.reduceNeg, Int.reduceAdd, Int.reduceSub, tSts_len]
  refine loop29 hl hp (sg0 := sg) _ l 0 _ _ rfl (Grow.refl _) (by simp only [FrAt_cons, FrAt_nil, wFr, Nat.reduceEqDiff, Nat.one_ne_zero, Nat.zero_ne_one, reduceIte, and_self, and_true, true_and]; exact rfl) ?_ ?_
  · intro h fr' sg' hg
    simp only [wCo, wFr, wOp, wBi, wLst, wLog, xB_other, Nat.reduceBEq, unT, loadP, storeP, partP, partT, partV, cellsP, mkAgg, allT, setRange, fillP, fieldA, indexS, indexA, indexV, indexStr, elems, lenP, pickV, cviV, nckV, extV, isNil, bound, close, close1, aft, retV, retSl, Go.Pi.one, eqT, eqs, eq1, Nat.reduceEqDiff, Nat.reduceAdd, Nat.reduceSub, Nat.reduceMul, Nat.reduceLeDiff, Nat.reduceLT, Nat.one_ne_zero, Nat.zero_ne_one, reduceIte, reduceCtorEq, bne_self_eq_false, decide_true, decide_false, Int.reduceToNat, Int.cast_ofNat_Int, Int.reduceLT, Int.reduceLE, Int.reduceEq, Int.reduceNeg, Int.reduceAdd, Int.reduceSub]
    exact ⟨by rw [h], hg⟩
  · intro h fr' sg' hg h4
    simp only [wCo, wFr, wOp, wBi, wLst, wLog, xB_other, Nat.reduceBEq, unT, loadP, storeP, partP, partT, partV, cellsP, mkAgg, allT, setRange, fillP, fieldA, indexS, indexA, indexV, indexStr, elems, lenP, pickV, cviV, nckV, extV, isNil, bound, close, close1, aft, retV, retSl, Go.Pi.one, eqT, eqs, eq1, Nat.reduceEqDiff, Nat.reduceAdd, Nat.reduceSub, Nat.reduceMul, Nat.reduceLeDiff, Nat.reduceLT, Nat.one_ne_zero, Nat.zero_ne_one, reduceIte, reduceCtorEq, bne_self_eq_false, decide_true, decide_false, Int.reduceToNat, Int.cast_ofNat_Int, Int.reduceLT, Int.reduceLE, Int.reduceEq, Int.reduceNeg, Int.reduceAdd, Int.reduceSub, h4]
    exact ⟨by rw [h], hg⟩
theorem loop40 {f : Nat} {p : Pa → Bool} {nl : Bool} {l : List Pa} (hl : l.length ≤ B47) (hp : ∀ x, x ∈ l → Says (gl := gl) f (.agg (tPa x)) (p x)) {sg0 : Sg} {ow : Ow} (Q : Ex → S → Prop) : ∀ (r : List Pa) (i : Nat) (fr : List PV) (sg : Sg), l.drop i = r → Grow sg0 sg →
    FrAt fr [(1, .fn f []), (7, .t (.sl nl (l.map tPa))), (8, .t (.int .i64 l.length)), (9, .t (.int .i64 i))] →
    (r.all p = true → ∀ fr' sg', Grow sg0 sg' → Q (.exit 0) ⟨fr', sg', ow⟩) →
    (r.all p = false → ∀ fr' sg', Grow sg0 sg' → fget fr' 4 = .t (.bool false) → Q .ret ⟨fr', sg', ow⟩) →
    Xl F gl lb40_0 ⟨fr, sg, ow⟩ Q ⟨⟩ := by
  intro r
  induction r with
  | nil =>
    intro i fr sg hd hg hf h1 h2
    have hd := drop_nil' hd
    simp only [FrAt_cons, FrAt_nil] at hf
    obtain ⟨f1, f7, f8, f9, -⟩ := hf
    refine Xl.step ?_
    simp only [lb40_0]
    have c1 : ¬ ((i : Int) < (l.length : Int)) := by omega
    simp only [wCo, wFr, wOp, wBi, wLst, wLog, xB_other, Nat.reduceBEq, unT, loadP, storeP, partP, partT, partV, cellsP, mkAgg, allT, setRange, fillP, fieldA, indexS, indexA, indexV, indexStr, elems, lenP, pickV, cviV, nckV, extV, isNil, bound, close, close1, aft, retV, retSl, Go.Pi.one, eqT, eqs, eq1, Nat.reduceEqDiff, Nat.reduceAdd, Nat.reduceSub, Nat.reduceMul, Nat.reduceLeDiff, Nat.reduceLT, Nat.one_ne_zero, Nat.zero_ne_one, reduceIte, reduceCtorEq, bne_self_eq_false, decide_true, decide_false, Int.reduceToNat, Int.cast_ofNat_Int, Int.reduceLT, Int.reduceLE, Int.reduceEq, Int.reduceNeg, Int.reduceAdd, Int.reduceSub, f1, f7, f8, f9, c1]
    exact h1 rfl _ _ hg
  | cons x r ih =>
    intro i fr sg hd hg hf h1 h2
    obtain ⟨hx, hr, hi⟩ := drop_cons hd
    simp only [FrAt_cons, FrAt_nil] at hf
    obtain ⟨f1, f7, f8, f9, -⟩ := hf
    refine Xl.step ?_
    simp only [lb40_0]
    have c1 : (i : Int) < (l.length : Int) := by omega
    have hw1 := i64_succ hi (show l.length ≤ 281474976710656 by have : B47 = 140737488355328 := rfl; omega)
    have hc := hp x (List.mem_of_getElem? hx)
    simp only [wCo, wFr, wOp, wBi, wLst, wLog, xB_other, Nat.reduceBEq, unT, loadP, storeP, partP, partT, partV, cellsP, mkAgg, allT, setRange, fillP, fieldA, indexS, indexA, indexV, indexStr, elems, lenP, pickV, cviV, nckV, extV, isNil, bound, close, close1, aft, retV, retSl, Go.Pi.one, eqT, eqs, eq1, Nat.reduceEqDiff, Nat.reduceAdd, Nat.reduceSub, Nat.reduceMul, Nat.reduceLeDiff, Nat.reduceLT, Nat.one_ne_zero, Nat.zero_ne_one, reduceIte, reduceCtorEq, bne_self_eq_false, decide_true, decide_false, Int.reduceToNat, Int.cast_ofNat_Int, Int.reduceLT, Int.reduceLE, Int.reduceEq, Int.reduceNeg, Int.reduceAdd, Int.reduceSub, f1, f7, f8, f9, c1, List.getElem?_map, hx, Int.toNat_natCast]
    refine CallE.mono (hc _ _) ?_
    rintro v sg' ow' ⟨rfl, hg', rfl⟩
    cases hq : p x with
    | true =>
      simp only [wCo, wFr, wOp, wBi, wLst, wLog, xB_other, Nat.reduceBEq, unT, loadP, storeP, partP, partT, partV, cellsP, mkAgg, allT, setRange, fillP, fieldA, indexS, indexA, indexV, indexStr, elems, lenP, pickV, cviV, nckV, extV, isNil, bound, close, close1, aft, retV, retSl, Go.Pi.one, eqT, eqs, eq1, Nat.reduceEqDiff, Nat.reduceAdd, Nat.reduceSub, Nat.reduceMul, Nat.reduceLeDiff, Nat.reduceLT, Nat.one_ne_zero, Nat.zero_ne_one, reduceIte, reduceCtorEq, bne_self_eq_false, decide_true, decide_false, Int.reduceToNat, Int.cast_ofNat_Int, Int.reduceLT, Int.reduceLE, Int.reduceEq, Int.reduceNeg, Int.reduceAdd, Int.reduceSub, f1, f7, f8, f9, hw1, hq]
      refine ih (i + 1) _ _ hr (hg.trans ((Grow.app _ _).trans hg')) (by simp only [FrAt_cons, FrAt_nil, wFr, Nat.reduceEqDiff, Nat.one_ne_zero, Nat.zero_ne_one, reduceIte, and_self, and_true, true_and, f1, f7, f8]) (fun h => h1 (by simpa [hq] using h)) (fun h => h2 (by simpa [hq] using h))
    | false =>
      simp only [wCo, wFr, wOp, wBi, wLst, wLog, xB_other, Nat.reduceBEq, unT, loadP, storeP, partP, partT, partV, cellsP, mkAgg, allT, setRange, fillP, fieldA, indexS, indexA, indexV, indexStr, elems, lenP, pickV, cviV, nckV, extV, isNil, bound, close, close1, aft, retV, retSl, Go.Pi.one, eqT, eqs, eq1, Nat.reduceEqDiff, Nat.reduceAdd, Nat.reduceSub, Nat.reduceMul, Nat.reduceLeDiff, Nat.reduceLT, Nat.one_ne_zero, Nat.zero_ne_one, reduceIte, reduceCtorEq, bne_self_eq_false, decide_true, decide_false, Int.reduceToNat, Int.cast_ofNat_Int, Int.reduceLT, Int.reduceLE, Int.reduceEq, Int.reduceNeg, Int.reduceAdd, Int.reduceSub, f1, f7, f8, f9, hq]
      exact h2 (by simp [hq]) _ _ (hg.trans ((Grow.app _ _).trans hg')) (by simp only [FrAt_cons, FrAt_nil, wFr, Nat.reduceEqDiff, Nat.one_ne_zero, Nat.zero_ne_one, reduceIte, and_self, and_true, true_and])
theorem ok40 {f : Nat} {p : Pa → Bool} {nl : Bool} {l : List Pa} (hl : l.length ≤ B47) (hp : ∀ x, x ∈ l → Says (gl := gl) f (.agg (tPa x)) (p x)) (sg : Sg) (ow : Ow) :
    CallE F gl 40 [.t (.sl nl (l.map tPa)), .fn f []] sg ow fun v sg' ow' => v = .t (.bool (l.all p)) ∧ Grow sg sg' ∧ ow' = ow := by
  refine XcE.of F40 rfl ?_
  simp only [ir40]
  simp only [wCo, wFr, wOp, wBi, wLst, wLog, xB_other, Nat.reduceBEq, unT, loadP, storeP, partP, partT, partV, cellsP, mkAgg, allT, setRange, fillP, fieldA, indexS, indexA, indexV, indexStr, elems, lenP, pickV, cviV, nckV, extV, isNil, bound, close, close1, aft, retV, retSl, Go.Pi.one, eqT, eqs, eq1, Nat.reduceEqDiff, Nat.reduceAdd, Nat.reduceSub, Nat.reduceMul, Nat.reduceLeDiff, Nat.reduceLT, Nat.one_ne_zero, Nat.zero_ne_one, reduceIte, reduceCtorEq, bne_self_eq_false, decide_true, decide_false, Int.reduceToNat, Int.cast_ofNat_Int, Int.reduceLT, Int.reduceLE, Int.reduceEq, Int.reduceNeg, Int.reduceAdd, Int.reduceSub, List.length_map]
  refine loop40 hl hp (sg0 := sg) _ l 0 _ _ rfl (Grow.refl _) (by simp only [FrAt_cons, FrAt_nil, wFr, Nat.reduceEqDiff, Nat.one_ne_zero, Nat.zero_ne_one, reduceIte, and_self, and_true, true_and]; exact rfl) ?_ ?_
  · intro h fr' sg' hg
    simp only [wCo, wFr, wOp, wBi, wLst, wLog, xB_other, Nat.reduceBEq, unT, loadP, storeP, partP, partT, partV, cellsP, mkAgg, allT, setRange, fillP, fieldA, indexS, indexA, indexV, indexStr, elems, lenP, pickV, cviV, nckV, extV, isNil, bound, close, close1, aft, retV, retSl, Go.Pi.one, eqT, eqs, eq1, Nat.reduceEqDiff, Nat.reduceAdd, Nat.reduceSub, Nat.reduceMul, Nat.reduceLeDiff, Nat.reduceLT, Nat.one_ne_zero, Nat.zero_ne_one, reduceIte, reduceCtorEq, bne_self_eq_false, decide_true, decide_false, Int.reduceToNat, Int.cast_ofNat_Int, Int.reduceLT, Int.reduceLE, Int.reduceEq, Int.reduceNeg, Int.reduceAdd, Int.reduceSub]
    exact ⟨by rw [h], hg⟩
  · intro h fr' sg' hg h4
    simp only [wCo, wFr, wOp, wBi, wLst, wLog, xB_other, Nat.reduceBEq, unT, loadP, storeP, partP, partT, partV, cellsP, mkAgg, allT, setRange, fillP, fieldA, indexS, indexA, indexV, indexStr, elems, lenP, pickV, cviV, nckV, extV, isNil, bound, close, close1, aft, retV, retSl, Go.Pi.one, eqT, eqs, eq1, Nat.reduceEqDiff, Nat.reduceAdd, Nat.reduceSub, Nat.reduceMul, Nat.reduceLeDiff, Nat.reduceLT, Nat.one_ne_zero, Nat.zero_ne_one, reduceIte, reduceCtorEq, bne_self_eq_false, decide_true, decide_false, Int.reduceToNat, Int.cast_ofNat_Int, Int.reduceLT, Int.reduceLE, Int.reduceEq, Int.reduceNeg, Int.reduceAdd, Int.reduceSub, h4]
    exact ⟨by rw [h], hg⟩
theorem loop58 {f : Nat} {p : Exp → Bool} {nl : Bool} {l : List Exp} (hl : l.length ≤ B47) (hp : ∀ x, x ∈ l → Says (gl := gl) f (.agg (tEx x)) (p x)) {sg0 : Sg} {ow : Ow} (Q : Ex → S → Prop) : ∀ (r : List Exp) (i : Nat) (fr : List PV) (sg : Sg), l.drop i = r → Grow sg0 sg →
    FrAt fr [(1, .fn f []), (7, .t (.sl nl (tExs l))), (8, .t (.int .i64 l.length)), (9, .t (.int .i64 i))] →
    (r.all p = true → ∀ fr' sg', Grow sg0 sg' → Q (.exit 0) ⟨fr', sg', ow⟩) →
    (r.all p = false → ∀ fr' sg', Grow sg0 sg' → fget fr' 4 = .t (.bool false) → Q .ret ⟨fr', sg', ow⟩) →
    Xl F gl lb58_0 ⟨fr, sg, ow⟩ Q ⟨⟩ := by
  intro r
  induction r with
  | nil =>
    intro i fr sg hd hg hf h1 h2
    have hd := drop_nil' hd
    simp only [FrAt_cons, FrAt_nil] at hf
    obtain ⟨f1, f7, f8, f9, -⟩ := hf
    refine Xl.step ?_
    simp only [lb58_0]
    have c1 : ¬ ((i : Int) < (l.length : Int)) := by omega
    simp only [wCo, wFr, wOp, wBi, wLst, wLog, xB_other, Nat.reduceBEq, unT, loadP, storeP, partP, partT, partV, cellsP, mkAgg, allT, setRange, fillP, fieldA, indexS, indexA, indexV, indexStr, elems, lenP, pickV, cviV, nckV, extV, isNil, bound, close, close1, aft, retV, retSl, Go.Pi.one, eqT, eqs, eq1, Nat.reduceEqDiff, Nat.reduceAdd, Nat.reduceSub, Nat.reduceMul, Nat.reduceLeDiff, Nat.reduceLT, Nat.one_ne_zero, Nat.zero_ne_one, reduceIte, reduceCtorEq, bne_self_eq_false, decide_true, decide_false, Int.reduceToNat, Int.cast_ofNat_Int, Int.reduceLT, Int.reduceLE, Int.reduceEq, Int.reduceNeg, Int.reduceAdd, Int.reduceSub, f1, f7, f8, f9, c1]
    exact h1 rfl _ _ hg
  | cons x r ih =>
    intro i fr sg hd hg hf h1 h2
    obtain ⟨hx, hr, hi⟩ := drop_cons hd
    simp only [FrAt_cons, FrAt_nil] at hf
    obtain ⟨f1, f7, f8, f9, -⟩ := hf
    refine Xl.step ?_
    simp only [lb58_0]
    have c1 : (i : Int) < (l.length : Int) := by omega
    have hw1 := i64_succ hi (show l.length ≤ 281474976710656 by have : B47 = 140737488355328 := rfl; omega)
    have hc := hp x (List.mem_of_getElem? hx)
    simp only [tEx_eq] at hc
    simp only [wCo, wFr, wOp, wBi, wLst, wLog, xB_other, Nat.reduceBEq, unT, loadP, storeP, partP, partT, partV, cellsP, mkAgg, allT, setRange, fillP, fieldA, indexS, indexA, indexV, indexStr, elems, lenP, pickV, cviV, nckV, extV, isNil, bound, close, close1, aft, retV, retSl, Go.Pi.one, eqT, eqs, eq1, Nat.reduceEqDiff, Nat.reduceAdd, Nat.reduceSub, Nat.reduceMul, Nat.reduceLeDiff, Nat.reduceLT, Nat.one_ne_zero, Nat.zero_ne_one, reduceIte, reduceCtorEq, bne_self_eq_false, decide_true, decide_false, Int.reduceToNat, Int.cast_ofNat_Int, Int.reduceLT, Int.reduceLE, Int.reduceEq, Int.reduceNeg, Int.reduceAdd, Int.reduceSub, f1, f7, f8, f9, c1, tExs_get, hx, tEx_eq, Int.toNat_natCast]
    refine CallE.mono (hc _ _) ?_
    rintro v sg' ow' ⟨rfl, hg', rfl⟩
    cases hq : p x with
    | true =>
      simp only [wCo, wFr, wOp, wBi, wLst, wLog, xB_other, Nat.reduceBEq, unT, loadP, storeP, partP, partT, partV, cellsP, mkAgg, allT, setRange, fillP, fieldA, indexS, indexA, indexV, indexStr, elems, lenP, pickV, cviV, nckV, extV, isNil, bound, close, close1, aft, retV, retSl, Go.Pi.one, eqT, eqs, eq1, Nat.reduceEqDiff, Nat.reduceAdd, Nat.reduceSub, Nat.reduceMul, Nat.reduceLeDiff, Nat.reduceLT, Nat.one_ne_zero, Nat.zero_ne_one, reduceIte, reduceCtorEq, bne_self_eq_false, decide_true, decide_false, Int.reduceToNat, Int.cast_ofNat_Int, Int.reduceLT, Int.reduceLE, Int.reduceEq, Int.reduceNeg, Int.reduceAdd, Int.reduceSub, f1, f7, f8, f9, hw1, hq]
      refine ih (i + 1) _ _ hr (hg.trans ((Grow.app _ _).trans hg')) (by simp only [FrAt_cons, FrAt_nil, wFr, Nat.reduceEqDiff, Nat.one_ne_zero, Nat.zero_ne_one, reduceIte, and_self, and_true, true_and, f1, f7, f8]) (fun h => h1 (by simpa [hq] using h)) (fun h => h2 (by simpa [hq] using h))
    | false =>
      simp only [wCo, wFr, wOp, wBi, wLst, wLog, xB_other, Nat.reduceBEq, unT, loadP, storeP, partP, partT, partV, cellsP, mkAgg, allT, setRange, fillP, fieldA, indexS, indexA, indexV, indexStr, elems, lenP, pickV, cviV, nckV, extV, isNil, bound, close, close1, aft, retV, retSl, Go.Pi.one, eqT, eqs, eq1, Nat.reduceEqDiff, Nat.reduceAdd, Nat.reduceSub, Nat.reduceMul, Nat.reduceLeDiff, Nat.reduceLT, Nat.one_ne_zero, Nat.zero_ne_one, reduceIte, reduceCtorEq, bne_self_eq_false, decide_true, decide_false, Int.reduceToNat, Int.cast_ofNat_Int, Int.reduceLT, Int.reduceLE, Int.reduceEq, Int.reduceNeg, Int.reduceAdd, Int.reduceSub, f1, f7, f8, f9, hq]
      exact h2 (by simp [hq]) _ _ (hg.trans ((Grow.app _ _).trans hg')) (by simp only [FrAt_cons, FrAt_nil, wFr, Nat.reduceEqDiff, Nat.one_ne_zero, Nat.zero_ne_one, reduceIte, and_self, and_true, true_and])
theorem ok58 {f : Nat} {p : Exp → Bool} {nl : Bool} {l : List Exp} (hl : l.length ≤ B47) (hp : ∀ x, x ∈ l → Says (gl := gl) f (.agg (tEx x)) (p x)) (sg : Sg) (ow : Ow) :
    CallE F gl 58 [.t (.sl nl (tExs l)), .fn f []] sg ow fun v sg' ow' => v = .t (.bool (l.all p)) ∧ Grow sg sg' ∧ ow' = ow := by
  refine XcE.of F58 rfl ?_
  simp only [ir58]
  simp only [wCo, wFr, wOp, wBi, wLst, wLog, xB_other, Nat.reduceBEq, unT, loadP, storeP, partP, partT, partV, cellsP, mkAgg, allT, setRange, fillP, fieldA, indexS, indexA, indexV, indexStr, elems, lenP, pickV, cviV, nckV, extV, isNil, bound, close, close1, aft, retV, retSl, Go.Pi.one, eqT, eqs, eq1, Nat.reduceEqDiff, Nat.reduceAdd, Nat.reduceSub, Nat.reduceMul, Nat.reduceLeDiff, Nat.reduceLT, Nat.one_ne_zero, Nat.zero_ne_one, reduceIte, reduceCtorEq, bne_self_eq_false, decide_true, decide_false, Int.reduceToNat, Int.cast_ofNat_Int, Int.reduceLT, Int.reduceLE, Int.reduceEq, Int.reduceNeg, Int.reduceAdd, Int.reduceSub, tExs_len]
  refine loop58 hl hp (sg0 := sg) _ l 0 _ _ rfl (Grow.refl _) (by simp only [FrAt_cons, FrAt_nil, wFr, Nat.reduceEqDiff, Nat.one_ne_zero, Nat.zero_ne_one, reduceIte, and_self, and_true, true_and]; exact rfl) ?_ ?_
  · intro h fr' sg' hg
    simp only [wCo, wFr, wOp, wBi, wLst, wLog, xB_other, Nat.reduceBEq, unT, loadP, storeP, partP, partT, partV, cellsP, mkAgg, allT, setRange, fillP, fieldA, indexS, indexA, indexV, indexStr, elems, lenP, pickV, cviV, nckV, extV, isNil, bound, close, close1, aft, retV, retSl, Go.Pi.one, eqT, eqs, eq1, Nat.reduceEqDiff, Nat.reduceAdd, Nat.reduceSub, Nat.reduceMul, Nat.reduceLeDiff, Nat.reduceLT, Nat.one_ne_zero, Nat.zero_ne_one, reduceIte, reduceCtorEq, bne_self_eq_false, decide_true, decide_false, Int.reduceToNat, Int.cast_ofNat_Int, Int.reduceLT, Int.reduceLE, Int.reduceEq, Int.reduceNeg, Int.reduceAdd, Int.reduceSub]
    exact ⟨by rw [h], hg⟩
  · intro h fr' sg' hg h4
    simp only [wCo, wFr, wOp, wBi, wLst, wLog, xB_other, Nat.reduceBEq, unT, loadP, storeP, partP, partT, partV, cellsP, mkAgg, allT, setRange, fillP, fieldA, indexS, indexA, indexV, indexStr, elems, lenP, pickV, cviV, nckV, extV, isNil, bound, close, close1, aft, retV, retSl, Go.Pi.one, eqT, eqs, eq1, Nat.reduceEqDiff, Nat.reduceAdd, Nat.reduceSub, Nat.reduceMul, Nat.reduceLeDiff, Nat.reduceLT, Nat.one_ne_zero, Nat.zero_ne_one, reduceIte, reduceCtorEq, bne_self_eq_false, decide_true, decide_false, Int.reduceToNat, Int.cast_ofNat_Int, Int.reduceLT, Int.reduceLE, Int.reduceEq, Int.reduceNeg, Int.reduceAdd, Int.reduceSub, h4]
    exact ⟨by rw [h], hg⟩
end Go.Proofs.Ytdjcnfacjfnakaa
