/- Contracts: the numbers of a table, Digest; TableDigest in the small language. -/
import Derived.Test.YtbkphlhmbllbiaaDoorD4
set_option maxRecDepth 10000
set_option linter.unusedVariables false
set_option linter.unusedSimpArgs false
namespace Go.Proofs.YtbkphlhmbllbiaaDoor
open Go.Pi

section
variable {gl : Nat → Option (List T)}
def linN (l : List (Int × Int)) : List Int := (l.length : Int) :: l.flatMap fun x => [x.1, x.2]
def rowN (r : Row) : List Int := linN r.1.2 ++ (linN r.2.1.2 ++ linN r.2.2.2)
def nums (t : Tab) : List Int := [t.p, t.pub, t.vars, (t.rows.length : Int)] ++ t.rows.flatMap rowN
theorem tU_app {a b : List Int} : tU (a ++ b) = tU a ++ tU b := by simp [tU]
theorem all_one (l : List Int) : (tU l).all (fun x => x.length == 1) = true := by simp [tU]
theorem room_ok {n : Nat} (h : n ≤ 1000000) : room n 8 = true := by
  unfold room
  exact decide_eq_true ⟨by omega, by omega⟩
theorem own_app {dr : Bool} {es : List Int} {n : Nat} (hn : n = es.length) {x : Int} {b : List Int} (hb : n + (b.length + 1) ≤ 1000000) (sg : Sg) : appendP dr sg [n] 1 8 (.own 0 1 (tU es)) (.lit (tU (x :: b))) = some (.own 0 1 (tU (es ++ x :: b)), [n + (b.length + 1)]) := by
  subst hn
  have hr : room (es.length + (b.length + 1)) 8 = true := room_ok (by omega)
  have hb1 : (([.int .u64 x] : List T) :: tU b).all (fun x => x.length == 1) = true := all_one (x :: b)
  have e0 : tU (x :: b) = [.int .u64 x] :: tU b := rfl
  have e1 : (([.int .u64 x] : List T) :: tU b).length = b.length + 1 := by simp [tU_len]
  rw [tU_app, e0]
  simp only [appendP, elemsS, elems, hb1, Nat.one_pos, and_self, if_true, e1, tU_len, hr, List.getElem?_cons_zero, List.set_cons_zero]
theorem lit_app {es : List Int} {x : Int} {b : List Int} (hb : es.length + (b.length + 1) ≤ 1000000) (sg : Sg) : appendP false sg [] 1 8 (.lit (tU es)) (.lit (tU (x :: b))) = some (.own 0 1 (tU (es ++ x :: b)), [es.length + (b.length + 1)]) := by
  have hr : room (es.length + (b.length + 1)) 8 = true := room_ok (by omega)
  have ha := all_one es
  have hb1 : (([.int .u64 x] : List T) :: tU b).all (fun x => x.length == 1) = true := all_one (x :: b)
  have e0 : tU (x :: b) = [.int .u64 x] :: tU b := rfl
  have e1 : (([.int .u64 x] : List T) :: tU b).length = b.length + 1 := by simp [tU_len]
  rw [tU_app, e0]
  simp only [appendP, elemsS, elems, hb1, Nat.one_pos, and_self, if_true, e1, tU_len, hr, ha, List.length_nil, List.nil_append, true_and]
/-- The list that grows: a literal at first, then an owned slice. -/
def Lst (v : PV) (ow : Ow) (es : List Int) : Prop := (v = .lit (tU es) ∧ ow = []) ∨ (v = .own 0 1 (tU es) ∧ ow = [es.length])
theorem Lst.app {v : PV} {ow : Ow} {es : List Int} (h : Lst v ow es) {x : Int} (hb : es.length + 1 ≤ 1000000) (sg : Sg) : appendP false sg ow 1 8 v (.lit [[.int .u64 x]]) = some (.own 0 1 (tU (es ++ [x])), [es.length + 1]) := by
  rcases h with ⟨rfl, rfl⟩ | ⟨rfl, rfl⟩
  · exact lit_app (b := []) (by simpa using hb) sg
  · exact own_app (b := []) rfl (by simpa using hb) sg
theorem flat2_len (l : List (Int × Int)) : (l.flatMap fun x => [x.1, x.2]).length = 2 * l.length := by
  induction l with
  | nil => rfl
  | cons x r ih => simp only [List.flatMap_cons, List.length_append, List.length_cons, List.length_nil, ih]; omega
/-- The terms are numbers that fit. -/
def nnT (l : List (Int × Int)) : Prop := ∀ t, t ∈ l → 0 ≤ t.1 ∧ t.1 ≤ 9223372036854775807 ∧ 0 ≤ t.2
theorem get3 {a b c : List T} : ([a, b, c] : List (List T))[(0 : Int).toNat]? = some a ∧ ([a, b, c] : List (List T))[(1 : Int).toNat]? = some b ∧ ([a, b, c] : List (List T))[(2 : Int).toNat]? = some c := ⟨rfl, rfl, rfl⟩
theorem loop24a {C : List PV} {v1 v27 v28 v29 v39 v40 : PV} {nl : Bool} {l : List (Int × Int)} (hl : l.length ≤ 281474976710656) (ht : nnT l) {Q : Ex → S → Prop} : ∀ (rest : List (Int × Int)) (i : Nat) (es : List Int) (n : Nat) (fr : List PV) (j : Sg) , l.drop i = rest → n = es.length → n + 2 * rest.length ≤ 1000000 →
    FrAt fr [(1, v1), (27, v27), (28, v28), (29, v29), (39, v39), (40, v40), (3, .own 0 1 (tU es)), (49, .t (tLin (nl, l))), (50, .t (.int .i64 l.length)), (51, .t (.int .i64 i))] →
    (∀ fr' j' es' n', es' = es ++ (rest.flatMap fun x => [x.1, x.2]) → n' = es'.length → FrAt fr' [(1, v1), (27, v27), (28, v28), (29, v29), (39, v39), (40, v40), (3, .own 0 1 (tU es'))] → Q (.exit 4) ⟨fr', (false, C) :: j', [n']⟩) →
    Xl F gl lb24_0 ⟨fr, (false, C) :: j, [n]⟩ Q ⟨⟩ := by
  skip
  intro rest
  induction rest with
  | nil =>
    intro i es n fr j hd hn hb hf hQ
    have hd := drop_nil' hd
    simp only [FrAt_cons, FrAt_nil] at hf
    obtain ⟨f1, f27, f28, f29, f39, f40, f3, f49, f50, f51, -⟩ := hf
    refine Xl.step ?_
    simp only [lb24_0]
    have c1 : ¬ ((i : Int) < (l.length : Int)) := by omega
    simp only [wCo, wFr, wOp, wBi, wLst, wLog, xB_other, Nat.reduceBEq, unT, loadP, storeP, partP, partT, partV, cellsP, mkAgg, allT, setRange, fillP, fieldA, indexS, indexA, indexV, indexStr, elems, elemsS, lenP, pickV, cviV, nckV, extV, isNil, bound, close, close1, aft, retV, retSl, one, eqT, eqs, eq1, Nat.reduceEqDiff, Nat.reduceAdd, Nat.reduceSub, Nat.reduceMul, Nat.reduceLeDiff, Nat.reduceLT, Nat.one_ne_zero, Nat.zero_ne_one, reduceIte, reduceCtorEq, bne_self_eq_false, decide_true, decide_false, Int.reduceToNat, Int.cast_ofNat_Int, Int.reduceLT, Int.reduceLE, Int.reduceEq, Int.reduceNeg, Int.reduceAdd, Int.reduceSub, f1, f27, f28, f29, f39, f40, f3, f49, f50, f51, c1, tLin]
    repeat' ((with_reducible first | refine xG_dec ?_ ?_ | refine xG_ndec ?_ ?_ | refine xG_nsplit ?_ ?_ | refine xG_split ?_ ?_ | refine xC_dec ?_ ?_ | refine xC_ndec ?_ ?_ | refine xC_nsplit ?_ ?_ | refine xC_split ?_ ?_) <;> intro h <;> (try simp only [wCo, wFr, wOp, wBi, wLst, wLog, xB_other, Nat.reduceBEq, unT, loadP, storeP, partP, partT, partV, cellsP, mkAgg, allT, setRange, fillP, fieldA, indexS, indexA, indexV, indexStr, elems, elemsS, lenP, pickV, cviV, nckV, extV, isNil, bound, close, close1, aft, retV, retSl, one, eqT, eqs, eq1, Nat.reduceEqDiff, Nat.reduceAdd, Nat.reduceSub, Nat.reduceMul, Nat.reduceLeDiff, Nat.reduceLT, Nat.one_ne_zero, Nat.zero_ne_one, reduceIte, reduceCtorEq, bne_self_eq_false, decide_true, decide_false, Int.reduceToNat, Int.cast_ofNat_Int, Int.reduceLT, Int.reduceLE, Int.reduceEq, Int.reduceNeg, Int.reduceAdd, Int.reduceSub, f1, f27, f28, f29, f39, f40, f3, f49, f50, f51, c1, tLin, h]))
    exact hQ _ _ es n (by simp) hn (by simp only [FrAt_cons, FrAt_nil, wFr, Nat.reduceEqDiff, Nat.one_ne_zero, Nat.zero_ne_one, reduceIte, and_self, and_true, true_and, f1, f27, f28, f29, f39, f40, f3, f49, f50, f51])
  | cons x r ih =>
    intro i es n fr j hd hn hb hf hQ
    obtain ⟨hx, hr, hi⟩ := drop_cons hd
    obtain ⟨x1, x2, x3⟩ := ht x (List.mem_of_getElem? hx)
    simp only [FrAt_cons, FrAt_nil] at hf
    obtain ⟨f1, f27, f28, f29, f39, f40, f3, f49, f50, f51, -⟩ := hf
    refine Xl.step ?_
    simp only [lb24_0]
    have c1 : (i : Int) < (l.length : Int) := by omega
    have hw1 : IntKind.wrap .i64 ((i : Int) + 1) = ((i + 1 : Nat) : Int) := by rw [IntWalk.i64_in _ (by omega)]; omega
    have hw2 : IntKind.u64.wrap x.1 = x.1 := IntWalk.u64_in _ (by omega)
    simp only [List.length_cons] at hb
    have ha : ∀ sg, appendP false sg [n] 1 8 (.own 0 1 (tU es)) (.lit [[.int .u64 x.1], [.int .u64 x.2]]) = some (.own 0 1 (tU (es ++ [x.1, x.2])), [n + 2]) := own_app (b := [x.2]) hn (by simp only [List.length_cons, List.length_nil]; omega)
    simp only [wCo, wFr, wOp, wBi, wLst, wLog, xB_other, Nat.reduceBEq, unT, loadP, storeP, partP, partT, partV, cellsP, mkAgg, allT, setRange, fillP, fieldA, indexS, indexA, indexV, indexStr, elems, elemsS, lenP, pickV, cviV, nckV, extV, isNil, bound, close, close1, aft, retV, retSl, one, eqT, eqs, eq1, Nat.reduceEqDiff, Nat.reduceAdd, Nat.reduceSub, Nat.reduceMul, Nat.reduceLeDiff, Nat.reduceLT, Nat.one_ne_zero, Nat.zero_ne_one, reduceIte, reduceCtorEq, bne_self_eq_false, decide_true, decide_false, Int.reduceToNat, Int.cast_ofNat_Int, Int.reduceLT, Int.reduceLE, Int.reduceEq, Int.reduceNeg, Int.reduceAdd, Int.reduceSub, f1, f27, f28, f29, f39, f40, f3, f49, f50, f51, c1, hw1, hw2, tLin, List.getElem?_map, hx, tTerm, ha, bslV, chunks, cell1, T.isAgg, List.replicate, List.flatten_cons, List.flatten_nil, List.append_nil]
    repeat' ((with_reducible first | refine xG_dec ?_ ?_ | refine xG_ndec ?_ ?_ | refine xG_nsplit ?_ ?_ | refine xG_split ?_ ?_ | refine xC_dec ?_ ?_ | refine xC_ndec ?_ ?_ | refine xC_nsplit ?_ ?_ | refine xC_split ?_ ?_) <;> intro h <;> (try simp only [wCo, wFr, wOp, wBi, wLst, wLog, xB_other, Nat.reduceBEq, unT, loadP, storeP, partP, partT, partV, cellsP, mkAgg, allT, setRange, fillP, fieldA, indexS, indexA, indexV, indexStr, elems, elemsS, lenP, pickV, cviV, nckV, extV, isNil, bound, close, close1, aft, retV, retSl, one, eqT, eqs, eq1, Nat.reduceEqDiff, Nat.reduceAdd, Nat.reduceSub, Nat.reduceMul, Nat.reduceLeDiff, Nat.reduceLT, Nat.one_ne_zero, Nat.zero_ne_one, reduceIte, reduceCtorEq, bne_self_eq_false, decide_true, decide_false, Int.reduceToNat, Int.cast_ofNat_Int, Int.reduceLT, Int.reduceLE, Int.reduceEq, Int.reduceNeg, Int.reduceAdd, Int.reduceSub, f1, f27, f28, f29, f39, f40, f3, f49, f50, f51, c1, hw1, hw2, tLin, List.getElem?_map, hx, tTerm, ha, bslV, chunks, cell1, T.isAgg, List.replicate, List.flatten_cons, List.flatten_nil, List.append_nil, h]))
    refine ih (i + 1) (es ++ [x.1, x.2]) (n + 2) _ _ hr (by simp [hn]) (by omega) (by simp only [FrAt_cons, FrAt_nil, wFr, Nat.reduceEqDiff, Nat.one_ne_zero, Nat.zero_ne_one, reduceIte, and_self, and_true, true_and, f1, f27, f28, f29, f39, f40, f3, f49, f50, f51]) ?_
    intro fr' j' es' n' he hn'
    exact hQ fr' j' es' n' (by rw [he]; simp) hn'
theorem row24 {C : List PV} {v1 v27 v28 v29 : PV} {x : Row} (hx : rowWf x) (ht1 : nnT x.1.2) (ht2 : nnT x.2.1.2) (ht3 : nnT x.2.2.2) {v : PV} {ow : Ow} {es : List Int} (hL : Lst v ow es) (hb : es.length + (rowN x).length ≤ 1000000) {Q : Ex → S → Prop} {fr : List PV} {j : Sg}
    (hf : FrAt fr [(1, v1), (27, v27), (28, v28), (29, v29), (39, .t (.agg (tRow x))), (3, v), (40, .t (.int .i64 0))])
    (hQ : ∀ fr' j' es', es' = es ++ rowN x → FrAt fr' [(1, v1), (27, v27), (28, v28), (29, v29), (3, .own 0 1 (tU es'))] → Q (.exit 2) ⟨fr', (false, C) :: j', [es'.length]⟩) :
    Xl F gl lb24_1 ⟨fr, (false, C) :: j, ow⟩ Q ⟨⟩ := by
  have n1 := hx.1.1
  have n2 := hx.2.1.1
  have n3 := hx.2.2.1
  have hlen : (rowN x).length = 3 + 2 * x.1.2.length + 2 * x.2.1.2.length + 2 * x.2.2.2.length := by
    simp only [rowN, linN, List.length_append, List.length_cons, flat2_len]
    omega
  rw [hlen] at hb
  have u1 : IntKind.u64.wrap (x.1.2.length : Int) = x.1.2.length := IntWalk.u64_in _ (by omega)
  have u2 : IntKind.u64.wrap (x.2.1.2.length : Int) = x.2.1.2.length := IntWalk.u64_in _ (by omega)
  have u3 : IntKind.u64.wrap (x.2.2.2.length : Int) = x.2.2.2.length := IntWalk.u64_in _ (by omega)
  have w1 : IntKind.i64.wrap 1 = 1 := by decide
  have w2 : IntKind.i64.wrap 2 = 2 := by decide
  have w3 : IntKind.i64.wrap 3 = 3 := by decide
  have ha : ∀ sg, appendP false sg ow 1 8 v (.lit [[.int .u64 (x.1.2.length : Int)]]) = some (.own 0 1 (tU (es ++ [(x.1.2.length : Int)])), [es.length + 1]) := hL.app (by omega)
  simp only [FrAt_cons, FrAt_nil] at hf
  obtain ⟨f1, f27, f28, f29, f39, f3, f40, -⟩ := hf
  refine Xl.step ?_
  try simp only [lb24_1]
  simp only [wCo, wFr, wOp, wBi, wLst, wLog, xB_other, Nat.reduceBEq, unT, loadP, storeP, partP, partT, partV, cellsP, mkAgg, allT, setRange, fillP, fieldA, indexS, indexA, indexV, indexStr, elems, elemsS, lenP, pickV, cviV, nckV, extV, isNil, bound, close, close1, aft, retV, retSl, one, eqT, eqs, eq1, Nat.reduceEqDiff, Nat.reduceAdd, Nat.reduceSub, Nat.reduceMul, Nat.reduceLeDiff, Nat.reduceLT, Nat.one_ne_zero, Nat.zero_ne_one, reduceIte, reduceCtorEq, bne_self_eq_false, decide_true, decide_false, Int.reduceToNat, Int.cast_ofNat_Int, Int.reduceLT, Int.reduceLE, Int.reduceEq, Int.reduceNeg, Int.reduceAdd, Int.reduceSub, f1, f27, f28, f29, f39, f3, f40, tRow, tLin, ha, bslV, chunks, cell1, T.isAgg, List.replicate, List.flatten_cons, List.flatten_nil, List.append_nil, Int.reduceMul, Int.reduceAdd, u1, u2, u3, w1, w2, w3]
  have key := @loop24a gl C v1 v27 v28 v29 (.t (.agg (tRow x))) (.t (.int .i64 0)) x.1.1 x.1.2 (by omega) ht1
  simp only [tLin, tRow] at key
  refine key x.1.2 0 (es ++ [(x.1.2.length : Int)]) (es.length + 1) _ _ rfl (by simp only [List.length_append, List.length_cons, List.length_nil]; try omega) (by omega) ?_ ?_
  · simp only [FrAt_cons, FrAt_nil, wFr, Nat.reduceEqDiff, Nat.one_ne_zero, Nat.zero_ne_one, reduceIte, and_self, and_true, true_and, f1, f27, f28, f29, f39, f3, f40, tRow, tLin]
  clear key f1 f27 f28 f29 f39 f3 f40
  intro fr0 j0 es0 n0 he0 hn0 hf0
  simp only [FrAt_cons, FrAt_nil] at hf0
  obtain ⟨g1, g27, g28, g29, g39, g40, g3, -⟩ := hf0
  have hl0 : n0 = es.length + 1 + 2 * x.1.2.length := by rw [hn0, he0]; simp only [List.length_append, List.length_cons, List.length_nil, flat2_len]
  have ha : ∀ sg, appendP false sg [n0] 1 8 (.own 0 1 (tU es0)) (.lit [[.int .u64 (x.2.1.2.length : Int)]]) = some (.own 0 1 (tU (es0 ++ [(x.2.1.2.length : Int)])), [n0 + 1]) := own_app (b := []) hn0 (by simp only [List.length_nil]; omega)
  simp only [wCo, wFr, wOp, wBi, wLst, wLog, xB_other, Nat.reduceBEq, unT, loadP, storeP, partP, partT, partV, cellsP, mkAgg, allT, setRange, fillP, fieldA, indexS, indexA, indexV, indexStr, elems, elemsS, lenP, pickV, cviV, nckV, extV, isNil, bound, close, close1, aft, retV, retSl, one, eqT, eqs, eq1, Nat.reduceEqDiff, Nat.reduceAdd, Nat.reduceSub, Nat.reduceMul, Nat.reduceLeDiff, Nat.reduceLT, Nat.one_ne_zero, Nat.zero_ne_one, reduceIte, reduceCtorEq, bne_self_eq_false, decide_true, decide_false, Int.reduceToNat, Int.cast_ofNat_Int, Int.reduceLT, Int.reduceLE, Int.reduceEq, Int.reduceNeg, Int.reduceAdd, Int.reduceSub, g1, g27, g28, g29, g39, g40, g3, w1, w2, w3]
  refine Xl.step ?_
  try simp only [lb24_1]
  simp only [wCo, wFr, wOp, wBi, wLst, wLog, xB_other, Nat.reduceBEq, unT, loadP, storeP, partP, partT, partV, cellsP, mkAgg, allT, setRange, fillP, fieldA, indexS, indexA, indexV, indexStr, elems, elemsS, lenP, pickV, cviV, nckV, extV, isNil, bound, close, close1, aft, retV, retSl, one, eqT, eqs, eq1, Nat.reduceEqDiff, Nat.reduceAdd, Nat.reduceSub, Nat.reduceMul, Nat.reduceLeDiff, Nat.reduceLT, Nat.one_ne_zero, Nat.zero_ne_one, reduceIte, reduceCtorEq, bne_self_eq_false, decide_true, decide_false, Int.reduceToNat, Int.cast_ofNat_Int, Int.reduceLT, Int.reduceLE, Int.reduceEq, Int.reduceNeg, Int.reduceAdd, Int.reduceSub, g1, g27, g28, g29, g39, g40, g3, tRow, tLin, ha, bslV, chunks, cell1, T.isAgg, List.replicate, List.flatten_cons, List.flatten_nil, List.append_nil, Int.reduceMul, Int.reduceAdd, u1, u2, u3, w1, w2, w3]
  have key := @loop24a gl C v1 v27 v28 v29 (.t (.agg (tRow x))) (.t (.int .i64 1)) x.2.1.1 x.2.1.2 (by omega) ht2
  simp only [tLin, tRow] at key
  refine key x.2.1.2 0 (es0 ++ [(x.2.1.2.length : Int)]) (n0 + 1) _ _ rfl (by simp only [List.length_append, List.length_cons, List.length_nil]; try omega) (by omega) ?_ ?_
  · simp only [FrAt_cons, FrAt_nil, wFr, Nat.reduceEqDiff, Nat.one_ne_zero, Nat.zero_ne_one, reduceIte, and_self, and_true, true_and, g1, g27, g28, g29, g39, g40, g3, tRow, tLin]
  clear key g1 g27 g28 g29 g39 g40 g3
  intro fr1 j1 es1 n1 he1 hn1 hf1
  simp only [FrAt_cons, FrAt_nil] at hf1
  obtain ⟨g1, g27, g28, g29, g39, g40, g3, -⟩ := hf1
  have hl1 : n1 = n0 + 1 + 2 * x.2.1.2.length := by rw [hn1, he1]; simp only [List.length_append, List.length_cons, List.length_nil, flat2_len]; omega
  have ha : ∀ sg, appendP false sg [n1] 1 8 (.own 0 1 (tU es1)) (.lit [[.int .u64 (x.2.2.2.length : Int)]]) = some (.own 0 1 (tU (es1 ++ [(x.2.2.2.length : Int)])), [n1 + 1]) := own_app (b := []) hn1 (by simp only [List.length_nil]; omega)
  simp only [wCo, wFr, wOp, wBi, wLst, wLog, xB_other, Nat.reduceBEq, unT, loadP, storeP, partP, partT, partV, cellsP, mkAgg, allT, setRange, fillP, fieldA, indexS, indexA, indexV, indexStr, elems, elemsS, lenP, pickV, cviV, nckV, extV, isNil, bound, close, close1, aft, retV, retSl, one, eqT, eqs, eq1, Nat.reduceEqDiff, Nat.reduceAdd, Nat.reduceSub, Nat.reduceMul, Nat.reduceLeDiff, Nat.reduceLT, Nat.one_ne_zero, Nat.zero_ne_one, reduceIte, reduceCtorEq, bne_self_eq_false, decide_true, decide_false, Int.reduceToNat, Int.cast_ofNat_Int, Int.reduceLT, Int.reduceLE, Int.reduceEq, Int.reduceNeg, Int.reduceAdd, Int.reduceSub, g1, g27, g28, g29, g39, g40, g3, w1, w2, w3]
  refine Xl.step ?_
  try simp only [lb24_1]
  simp only [wCo, wFr, wOp, wBi, wLst, wLog, xB_other, Nat.reduceBEq, unT, loadP, storeP, partP, partT, partV, cellsP, mkAgg, allT, setRange, fillP, fieldA, indexS, indexA, indexV, indexStr, elems, elemsS, lenP, pickV, cviV, nckV, extV, isNil, bound, close, close1, aft, retV, retSl, one, eqT, eqs, eq1, Nat.reduceEqDiff, Nat.reduceAdd, Nat.reduceSub, Nat.reduceMul, Nat.reduceLeDiff, Nat.reduceLT, Nat.one_ne_zero, Nat.zero_ne_one, reduceIte, reduceCtorEq, bne_self_eq_false, decide_true, decide_false, Int.reduceToNat, Int.cast_ofNat_Int, Int.reduceLT, Int.reduceLE, Int.reduceEq, Int.reduceNeg, Int.reduceAdd, Int.reduceSub, g1, g27, g28, g29, g39, g40, g3, tRow, tLin, ha, bslV, chunks, cell1, T.isAgg, List.replicate, List.flatten_cons, List.flatten_nil, List.append_nil, Int.reduceMul, Int.reduceAdd, u1, u2, u3, w1, w2, w3]
  have key := @loop24a gl C v1 v27 v28 v29 (.t (.agg (tRow x))) (.t (.int .i64 2)) x.2.2.1 x.2.2.2 (by omega) ht3
  simp only [tLin, tRow] at key
  refine key x.2.2.2 0 (es1 ++ [(x.2.2.2.length : Int)]) (n1 + 1) _ _ rfl (by simp only [List.length_append, List.length_cons, List.length_nil]; try omega) (by omega) ?_ ?_
  · simp only [FrAt_cons, FrAt_nil, wFr, Nat.reduceEqDiff, Nat.one_ne_zero, Nat.zero_ne_one, reduceIte, and_self, and_true, true_and, g1, g27, g28, g29, g39, g40, g3, tRow, tLin]
  clear key g1 g27 g28 g29 g39 g40 g3
  intro fr2 j2 es2 n2 he2 hn2 hf2
  simp only [FrAt_cons, FrAt_nil] at hf2
  obtain ⟨g1, g27, g28, g29, g39, g40, g3, -⟩ := hf2
  have hl2 : n2 = n1 + 1 + 2 * x.2.2.2.length := by rw [hn2, he2]; simp only [List.length_append, List.length_cons, List.length_nil, flat2_len]; omega
  simp only [wCo, wFr, wOp, wBi, wLst, wLog, xB_other, Nat.reduceBEq, unT, loadP, storeP, partP, partT, partV, cellsP, mkAgg, allT, setRange, fillP, fieldA, indexS, indexA, indexV, indexStr, elems, elemsS, lenP, pickV, cviV, nckV, extV, isNil, bound, close, close1, aft, retV, retSl, one, eqT, eqs, eq1, Nat.reduceEqDiff, Nat.reduceAdd, Nat.reduceSub, Nat.reduceMul, Nat.reduceLeDiff, Nat.reduceLT, Nat.one_ne_zero, Nat.zero_ne_one, reduceIte, reduceCtorEq, bne_self_eq_false, decide_true, decide_false, Int.reduceToNat, Int.cast_ofNat_Int, Int.reduceLT, Int.reduceLE, Int.reduceEq, Int.reduceNeg, Int.reduceAdd, Int.reduceSub, g1, g27, g28, g29, g39, g40, g3, w1, w2, w3]
  refine Xl.step ?_
  try simp only [lb24_1]
  simp only [wCo, wFr, wOp, wBi, wLst, wLog, xB_other, Nat.reduceBEq, unT, loadP, storeP, partP, partT, partV, cellsP, mkAgg, allT, setRange, fillP, fieldA, indexS, indexA, indexV, indexStr, elems, elemsS, lenP, pickV, cviV, nckV, extV, isNil, bound, close, close1, aft, retV, retSl, one, eqT, eqs, eq1, Nat.reduceEqDiff, Nat.reduceAdd, Nat.reduceSub, Nat.reduceMul, Nat.reduceLeDiff, Nat.reduceLT, Nat.one_ne_zero, Nat.zero_ne_one, reduceIte, reduceCtorEq, bne_self_eq_false, decide_true, decide_false, Int.reduceToNat, Int.cast_ofNat_Int, Int.reduceLT, Int.reduceLE, Int.reduceEq, Int.reduceNeg, Int.reduceAdd, Int.reduceSub, g1, g27, g28, g29, g39, g40, g3, w1, w2, w3]
  rw [hn2]
  exact hQ _ _ es2 (by rw [he2, he1, he0]; simp [rowN, linN]) (by simp only [FrAt_cons, FrAt_nil, wFr, Nat.reduceEqDiff, Nat.one_ne_zero, Nat.zero_ne_one, reduceIte, and_self, and_true, true_and, g1, g27, g28, g29, g39, g40, g3])
theorem loop49a {sg : Sg} {v1 v4 v5 v6 : PV} {nl : Bool} {l : List (Int × Int)} {ps : List (List T)} {k : Int} (e5 : v5 = .t (.sl false ps)) (e6 : v6 = .t (.int .i64 k)) (hk : 0 ≤ k) (hps : ps[k.toNat]? = some [tLin (nl, l)]) (hl : l.length ≤ 281474976710656) (ht : nnT l) {Q : Ex → S → Prop} : ∀ (rest : List (Int × Int)) (i : Nat) (es : List Int) (n : Nat) (fr : List PV) , l.drop i = rest → n = es.length → n + 2 * rest.length ≤ 1000000 →
    FrAt fr [(1, v1), (4, v4), (5, v5), (6, v6), (3, .own 0 1 (tU es)), (7, .t (.int .i64 i))] →
    (∀ fr' es' n', es' = es ++ (rest.flatMap fun x => [x.1, x.2]) → n' = es'.length → FrAt fr' [(1, v1), (4, v4), (5, v5), (6, v6), (3, .own 0 1 (tU es'))] → Q (.exit 4) ⟨fr', sg, [n']⟩) →
    Xl F gl lb49_0 ⟨fr, sg, [n]⟩ Q ⟨⟩ := by
  simp only [tLin] at hps
  intro rest
  induction rest with
  | nil =>
    intro i es n fr hd hn hb hf hQ
    have hd := drop_nil' hd
    simp only [FrAt_cons, FrAt_nil] at hf
    obtain ⟨f1, f4, f5, f6, f3, f7, -⟩ := hf
    refine Xl.step ?_
    simp only [lb49_0]
    have c1 : ¬ ((i : Int) < (l.length : Int)) := by omega
    simp only [wCo, wFr, wOp, wBi, wLst, wLog, xB_other, Nat.reduceBEq, unT, loadP, storeP, partP, partT, partV, cellsP, mkAgg, allT, setRange, fillP, fieldA, indexS, indexA, indexV, indexStr, elems, elemsS, lenP, pickV, cviV, nckV, extV, isNil, bound, close, close1, aft, retV, retSl, one, eqT, eqs, eq1, Nat.reduceEqDiff, Nat.reduceAdd, Nat.reduceSub, Nat.reduceMul, Nat.reduceLeDiff, Nat.reduceLT, Nat.one_ne_zero, Nat.zero_ne_one, reduceIte, reduceCtorEq, bne_self_eq_false, decide_true, decide_false, Int.reduceToNat, Int.cast_ofNat_Int, Int.reduceLT, Int.reduceLE, Int.reduceEq, Int.reduceNeg, Int.reduceAdd, Int.reduceSub, f1, f4, f5, f6, f3, f7, c1, tLin, e5, e6, hk, hps]
    repeat' ((with_reducible first | refine xG_dec ?_ ?_ | refine xG_ndec ?_ ?_ | refine xG_nsplit ?_ ?_ | refine xG_split ?_ ?_ | refine xC_dec ?_ ?_ | refine xC_ndec ?_ ?_ | refine xC_nsplit ?_ ?_ | refine xC_split ?_ ?_) <;> intro h <;> (try simp only [wCo, wFr, wOp, wBi, wLst, wLog, xB_other, Nat.reduceBEq, unT, loadP, storeP, partP, partT, partV, cellsP, mkAgg, allT, setRange, fillP, fieldA, indexS, indexA, indexV, indexStr, elems, elemsS, lenP, pickV, cviV, nckV, extV, isNil, bound, close, close1, aft, retV, retSl, one, eqT, eqs, eq1, Nat.reduceEqDiff, Nat.reduceAdd, Nat.reduceSub, Nat.reduceMul, Nat.reduceLeDiff, Nat.reduceLT, Nat.one_ne_zero, Nat.zero_ne_one, reduceIte, reduceCtorEq, bne_self_eq_false, decide_true, decide_false, Int.reduceToNat, Int.cast_ofNat_Int, Int.reduceLT, Int.reduceLE, Int.reduceEq, Int.reduceNeg, Int.reduceAdd, Int.reduceSub, f1, f4, f5, f6, f3, f7, c1, tLin, e5, e6, hk, hps, h]))
    exact hQ _ es n (by simp) hn (by simp only [FrAt_cons, FrAt_nil, wFr, Nat.reduceEqDiff, Nat.one_ne_zero, Nat.zero_ne_one, reduceIte, and_self, and_true, true_and, f1, f4, f5, f6, f3, f7])
  | cons x r ih =>
    intro i es n fr hd hn hb hf hQ
    obtain ⟨hx, hr, hi⟩ := drop_cons hd
    obtain ⟨x1, x2, x3⟩ := ht x (List.mem_of_getElem? hx)
    simp only [FrAt_cons, FrAt_nil] at hf
    obtain ⟨f1, f4, f5, f6, f3, f7, -⟩ := hf
    refine Xl.step ?_
    simp only [lb49_0]
    have c1 : (i : Int) < (l.length : Int) := by omega
    have hw1 : IntKind.wrap .i64 ((i : Int) + 1) = ((i + 1 : Nat) : Int) := by rw [IntWalk.i64_in _ (by omega)]; omega
    have hw2 : IntKind.u64.wrap x.1 = x.1 := IntWalk.u64_in _ (by omega)
    simp only [List.length_cons] at hb
    have ha : ∀ sg, appendP true sg [n] 1 8 (.own 0 1 (tU es)) (.lit [[.int .u64 x.1], [.int .u64 x.2]]) = some (.own 0 1 (tU (es ++ [x.1, x.2])), [n + 2]) := own_app (b := [x.2]) hn (by simp only [List.length_cons, List.length_nil]; omega)
    simp only [wCo, wFr, wOp, wBi, wLst, wLog, xB_other, Nat.reduceBEq, unT, loadP, storeP, partP, partT, partV, cellsP, mkAgg, allT, setRange, fillP, fieldA, indexS, indexA, indexV, indexStr, elems, elemsS, lenP, pickV, cviV, nckV, extV, isNil, bound, close, close1, aft, retV, retSl, one, eqT, eqs, eq1, Nat.reduceEqDiff, Nat.reduceAdd, Nat.reduceSub, Nat.reduceMul, Nat.reduceLeDiff, Nat.reduceLT, Nat.one_ne_zero, Nat.zero_ne_one, reduceIte, reduceCtorEq, bne_self_eq_false, decide_true, decide_false, Int.reduceToNat, Int.cast_ofNat_Int, Int.reduceLT, Int.reduceLE, Int.reduceEq, Int.reduceNeg, Int.reduceAdd, Int.reduceSub, f1, f4, f5, f6, f3, f7, c1, hw1, hw2, tLin, e5, e6, hk, hps, List.getElem?_map, hx, tTerm, ha, bslV, chunks, cell1, T.isAgg, List.replicate, List.flatten_cons, List.flatten_nil, List.append_nil]
    repeat' ((with_reducible first | refine xG_dec ?_ ?_ | refine xG_ndec ?_ ?_ | refine xG_nsplit ?_ ?_ | refine xG_split ?_ ?_ | refine xC_dec ?_ ?_ | refine xC_ndec ?_ ?_ | refine xC_nsplit ?_ ?_ | refine xC_split ?_ ?_) <;> intro h <;> (try simp only [wCo, wFr, wOp, wBi, wLst, wLog, xB_other, Nat.reduceBEq, unT, loadP, storeP, partP, partT, partV, cellsP, mkAgg, allT, setRange, fillP, fieldA, indexS, indexA, indexV, indexStr, elems, elemsS, lenP, pickV, cviV, nckV, extV, isNil, bound, close, close1, aft, retV, retSl, one, eqT, eqs, eq1, Nat.reduceEqDiff, Nat.reduceAdd, Nat.reduceSub, Nat.reduceMul, Nat.reduceLeDiff, Nat.reduceLT, Nat.one_ne_zero, Nat.zero_ne_one, reduceIte, reduceCtorEq, bne_self_eq_false, decide_true, decide_false, Int.reduceToNat, Int.cast_ofNat_Int, Int.reduceLT, Int.reduceLE, Int.reduceEq, Int.reduceNeg, Int.reduceAdd, Int.reduceSub, f1, f4, f5, f6, f3, f7, c1, hw1, hw2, tLin, e5, e6, hk, hps, List.getElem?_map, hx, tTerm, ha, bslV, chunks, cell1, T.isAgg, List.replicate, List.flatten_cons, List.flatten_nil, List.append_nil, h]))
    refine ih (i + 1) (es ++ [x.1, x.2]) (n + 2) _ hr (by simp [hn]) (by omega) (by simp only [FrAt_cons, FrAt_nil, wFr, Nat.reduceEqDiff, Nat.one_ne_zero, Nat.zero_ne_one, reduceIte, and_self, and_true, true_and, f1, f4, f5, f6, f3, f7]) ?_
    intro fr' es' n' he hn'
    exact hQ fr' es' n' (by rw [he]; simp) hn'
theorem row49 {sg : Sg} {v1 v4 : PV} {x : Row} (hx : rowWf x) (ht1 : nnT x.1.2) (ht2 : nnT x.2.1.2) (ht3 : nnT x.2.2.2) {v : PV} {ow : Ow} {es : List Int} (hL : Lst v ow es) (hb : es.length + (rowN x).length ≤ 1000000) {Q : Ex → S → Prop} {fr : List PV}
    (hf : FrAt fr [(1, v1), (4, v4), (5, .t (.sl false [[tLin x.1], [tLin x.2.1], [tLin x.2.2]])), (3, v), (6, .t (.int .i64 0))])
    (hQ : ∀ fr' es', es' = es ++ rowN x → FrAt fr' [(1, v1), (4, v4), (3, .own 0 1 (tU es'))] → Q (.exit 2) ⟨fr', sg, [es'.length]⟩) :
    Xl F gl lb49_1 ⟨fr, sg, ow⟩ Q ⟨⟩ := by
  have n1 := hx.1.1
  have n2 := hx.2.1.1
  have n3 := hx.2.2.1
  have hlen : (rowN x).length = 3 + 2 * x.1.2.length + 2 * x.2.1.2.length + 2 * x.2.2.2.length := by
    simp only [rowN, linN, List.length_append, List.length_cons, flat2_len]
    omega
  rw [hlen] at hb
  have u1 : IntKind.u64.wrap (x.1.2.length : Int) = x.1.2.length := IntWalk.u64_in _ (by omega)
  have u2 : IntKind.u64.wrap (x.2.1.2.length : Int) = x.2.1.2.length := IntWalk.u64_in _ (by omega)
  have u3 : IntKind.u64.wrap (x.2.2.2.length : Int) = x.2.2.2.length := IntWalk.u64_in _ (by omega)
  have w1 : IntKind.i64.wrap 1 = 1 := by decide
  have w2 : IntKind.i64.wrap 2 = 2 := by decide
  have w3 : IntKind.i64.wrap 3 = 3 := by decide
  have ha : ∀ sg, appendP false sg ow 1 8 v (.lit [[.int .u64 (x.1.2.length : Int)]]) = some (.own 0 1 (tU (es ++ [(x.1.2.length : Int)])), [es.length + 1]) := hL.app (by omega)
  simp only [FrAt_cons, FrAt_nil] at hf
  obtain ⟨f1, f4, f5, f3, f6, -⟩ := hf
  refine Xl.step ?_
  try simp only [lb49_1]
  simp only [wCo, wFr, wOp, wBi, wLst, wLog, xB_other, Nat.reduceBEq, unT, loadP, storeP, partP, partT, partV, cellsP, mkAgg, allT, setRange, fillP, fieldA, indexS, indexA, indexV, indexStr, elems, elemsS, lenP, pickV, cviV, nckV, extV, isNil, bound, close, close1, aft, retV, retSl, one, eqT, eqs, eq1, Nat.reduceEqDiff, Nat.reduceAdd, Nat.reduceSub, Nat.reduceMul, Nat.reduceLeDiff, Nat.reduceLT, Nat.one_ne_zero, Nat.zero_ne_one, reduceIte, reduceCtorEq, bne_self_eq_false, decide_true, decide_false, Int.reduceToNat, Int.cast_ofNat_Int, Int.reduceLT, Int.reduceLE, Int.reduceEq, Int.reduceNeg, Int.reduceAdd, Int.reduceSub, f1, f4, f5, f3, f6, tRow, tLin, ha, bslV, chunks, cell1, T.isAgg, List.replicate, List.flatten_cons, List.flatten_nil, List.append_nil, Int.reduceMul, Int.reduceAdd, u1, u2, u3, w1, w2, w3]
  have key := @loop49a gl sg v1 v4 (.t (.sl false [[tLin x.1], [tLin x.2.1], [tLin x.2.2]])) (.t (.int .i64 0)) x.1.1 x.1.2 [[tLin x.1], [tLin x.2.1], [tLin x.2.2]] 0 rfl rfl (by decide) rfl (by omega) ht1
  simp only [tLin, tRow] at key
  refine key x.1.2 0 (es ++ [(x.1.2.length : Int)]) (es.length + 1) _ rfl (by simp only [List.length_append, List.length_cons, List.length_nil]; try omega) (by omega) ?_ ?_
  · simp only [FrAt_cons, FrAt_nil, wFr, Nat.reduceEqDiff, Nat.one_ne_zero, Nat.zero_ne_one, reduceIte, and_self, and_true, true_and, f1, f4, f5, f3, f6, tRow, tLin]
  clear key f1 f4 f5 f3 f6
  intro fr0 es0 n0 he0 hn0 hf0
  simp only [FrAt_cons, FrAt_nil] at hf0
  obtain ⟨g1, g4, g5, g6, g3, -⟩ := hf0
  have hl0 : n0 = es.length + 1 + 2 * x.1.2.length := by rw [hn0, he0]; simp only [List.length_append, List.length_cons, List.length_nil, flat2_len]
  have ha : ∀ sg, appendP false sg [n0] 1 8 (.own 0 1 (tU es0)) (.lit [[.int .u64 (x.2.1.2.length : Int)]]) = some (.own 0 1 (tU (es0 ++ [(x.2.1.2.length : Int)])), [n0 + 1]) := own_app (b := []) hn0 (by simp only [List.length_nil]; omega)
  simp only [wCo, wFr, wOp, wBi, wLst, wLog, xB_other, Nat.reduceBEq, unT, loadP, storeP, partP, partT, partV, cellsP, mkAgg, allT, setRange, fillP, fieldA, indexS, indexA, indexV, indexStr, elems, elemsS, lenP, pickV, cviV, nckV, extV, isNil, bound, close, close1, aft, retV, retSl, one, eqT, eqs, eq1, Nat.reduceEqDiff, Nat.reduceAdd, Nat.reduceSub, Nat.reduceMul, Nat.reduceLeDiff, Nat.reduceLT, Nat.one_ne_zero, Nat.zero_ne_one, reduceIte, reduceCtorEq, bne_self_eq_false, decide_true, decide_false, Int.reduceToNat, Int.cast_ofNat_Int, Int.reduceLT, Int.reduceLE, Int.reduceEq, Int.reduceNeg, Int.reduceAdd, Int.reduceSub, g1, g4, g5, g6, g3, w1, w2, w3]
  refine Xl.step ?_
  try simp only [lb49_1]
  simp only [wCo, wFr, wOp, wBi, wLst, wLog, xB_other, Nat.reduceBEq, unT, loadP, storeP, partP, partT, partV, cellsP, mkAgg, allT, setRange, fillP, fieldA, indexS, indexA, indexV, indexStr, elems, elemsS, lenP, pickV, cviV, nckV, extV, isNil, bound, close, close1, aft, retV, retSl, one, eqT, eqs, eq1, Nat.reduceEqDiff, Nat.reduceAdd, Nat.reduceSub, Nat.reduceMul, Nat.reduceLeDiff, Nat.reduceLT, Nat.one_ne_zero, Nat.zero_ne_one, reduceIte, reduceCtorEq, bne_self_eq_false, decide_true, decide_false, Int.reduceToNat, Int.cast_ofNat_Int, Int.reduceLT, Int.reduceLE, Int.reduceEq, Int.reduceNeg, Int.reduceAdd, Int.reduceSub, g1, g4, g5, g6, g3, tRow, tLin, ha, bslV, chunks, cell1, T.isAgg, List.replicate, List.flatten_cons, List.flatten_nil, List.append_nil, Int.reduceMul, Int.reduceAdd, u1, u2, u3, w1, w2, w3]
  have key := @loop49a gl sg v1 v4 (.t (.sl false [[tLin x.1], [tLin x.2.1], [tLin x.2.2]])) (.t (.int .i64 1)) x.2.1.1 x.2.1.2 [[tLin x.1], [tLin x.2.1], [tLin x.2.2]] 1 rfl rfl (by decide) rfl (by omega) ht2
  simp only [tLin, tRow] at key
  refine key x.2.1.2 0 (es0 ++ [(x.2.1.2.length : Int)]) (n0 + 1) _ rfl (by simp only [List.length_append, List.length_cons, List.length_nil]; try omega) (by omega) ?_ ?_
  · simp only [FrAt_cons, FrAt_nil, wFr, Nat.reduceEqDiff, Nat.one_ne_zero, Nat.zero_ne_one, reduceIte, and_self, and_true, true_and, g1, g4, g5, g6, g3, tRow, tLin]
  clear key g1 g4 g5 g6 g3
  intro fr1 es1 n1 he1 hn1 hf1
  simp only [FrAt_cons, FrAt_nil] at hf1
  obtain ⟨g1, g4, g5, g6, g3, -⟩ := hf1
  have hl1 : n1 = n0 + 1 + 2 * x.2.1.2.length := by rw [hn1, he1]; simp only [List.length_append, List.length_cons, List.length_nil, flat2_len]; omega
  have ha : ∀ sg, appendP false sg [n1] 1 8 (.own 0 1 (tU es1)) (.lit [[.int .u64 (x.2.2.2.length : Int)]]) = some (.own 0 1 (tU (es1 ++ [(x.2.2.2.length : Int)])), [n1 + 1]) := own_app (b := []) hn1 (by simp only [List.length_nil]; omega)
  simp only [wCo, wFr, wOp, wBi, wLst, wLog, xB_other, Nat.reduceBEq, unT, loadP, storeP, partP, partT, partV, cellsP, mkAgg, allT, setRange, fillP, fieldA, indexS, indexA, indexV, indexStr, elems, elemsS, lenP, pickV, cviV, nckV, extV, isNil, bound, close, close1, aft, retV, retSl, one, eqT, eqs, eq1, Nat.reduceEqDiff, Nat.reduceAdd, Nat.reduceSub, Nat.reduceMul, Nat.reduceLeDiff, Nat.reduceLT, Nat.one_ne_zero, Nat.zero_ne_one, reduceIte, reduceCtorEq, bne_self_eq_false, decide_true, decide_false, Int.reduceToNat, Int.cast_ofNat_Int, Int.reduceLT, Int.reduceLE, Int.reduceEq, Int.reduceNeg, Int.reduceAdd, Int.reduceSub, g1, g4, g5, g6, g3, w1, w2, w3]
  refine Xl.step ?_
  try simp only [lb49_1]
  simp only [wCo, wFr, wOp, wBi, wLst, wLog, xB_other, Nat.reduceBEq, unT, loadP, storeP, partP, partT, partV, cellsP, mkAgg, allT, setRange, fillP, fieldA, indexS, indexA, indexV, indexStr, elems, elemsS, lenP, pickV, cviV, nckV, extV, isNil, bound, close, close1, aft, retV, retSl, one, eqT, eqs, eq1, Nat.reduceEqDiff, Nat.reduceAdd, Nat.reduceSub, Nat.reduceMul, Nat.reduceLeDiff, Nat.reduceLT, Nat.one_ne_zero, Nat.zero_ne_one, reduceIte, reduceCtorEq, bne_self_eq_false, decide_true, decide_false, Int.reduceToNat, Int.cast_ofNat_Int, Int.reduceLT, Int.reduceLE, Int.reduceEq, Int.reduceNeg, Int.reduceAdd, Int.reduceSub, g1, g4, g5, g6, g3, tRow, tLin, ha, bslV, chunks, cell1, T.isAgg, List.replicate, List.flatten_cons, List.flatten_nil, List.append_nil, Int.reduceMul, Int.reduceAdd, u1, u2, u3, w1, w2, w3]
  have key := @loop49a gl sg v1 v4 (.t (.sl false [[tLin x.1], [tLin x.2.1], [tLin x.2.2]])) (.t (.int .i64 2)) x.2.2.1 x.2.2.2 [[tLin x.1], [tLin x.2.1], [tLin x.2.2]] 2 rfl rfl (by decide) rfl (by omega) ht3
  simp only [tLin, tRow] at key
  refine key x.2.2.2 0 (es1 ++ [(x.2.2.2.length : Int)]) (n1 + 1) _ rfl (by simp only [List.length_append, List.length_cons, List.length_nil]; try omega) (by omega) ?_ ?_
  · simp only [FrAt_cons, FrAt_nil, wFr, Nat.reduceEqDiff, Nat.one_ne_zero, Nat.zero_ne_one, reduceIte, and_self, and_true, true_and, g1, g4, g5, g6, g3, tRow, tLin]
  clear key g1 g4 g5 g6 g3
  intro fr2 es2 n2 he2 hn2 hf2
  simp only [FrAt_cons, FrAt_nil] at hf2
  obtain ⟨g1, g4, g5, g6, g3, -⟩ := hf2
  have hl2 : n2 = n1 + 1 + 2 * x.2.2.2.length := by rw [hn2, he2]; simp only [List.length_append, List.length_cons, List.length_nil, flat2_len]; omega
  simp only [wCo, wFr, wOp, wBi, wLst, wLog, xB_other, Nat.reduceBEq, unT, loadP, storeP, partP, partT, partV, cellsP, mkAgg, allT, setRange, fillP, fieldA, indexS, indexA, indexV, indexStr, elems, elemsS, lenP, pickV, cviV, nckV, extV, isNil, bound, close, close1, aft, retV, retSl, one, eqT, eqs, eq1, Nat.reduceEqDiff, Nat.reduceAdd, Nat.reduceSub, Nat.reduceMul, Nat.reduceLeDiff, Nat.reduceLT, Nat.one_ne_zero, Nat.zero_ne_one, reduceIte, reduceCtorEq, bne_self_eq_false, decide_true, decide_false, Int.reduceToNat, Int.cast_ofNat_Int, Int.reduceLT, Int.reduceLE, Int.reduceEq, Int.reduceNeg, Int.reduceAdd, Int.reduceSub, g1, g4, g5, g6, g3, w1, w2, w3]
  refine Xl.step ?_
  try simp only [lb49_1]
  simp only [wCo, wFr, wOp, wBi, wLst, wLog, xB_other, Nat.reduceBEq, unT, loadP, storeP, partP, partT, partV, cellsP, mkAgg, allT, setRange, fillP, fieldA, indexS, indexA, indexV, indexStr, elems, elemsS, lenP, pickV, cviV, nckV, extV, isNil, bound, close, close1, aft, retV, retSl, one, eqT, eqs, eq1, Nat.reduceEqDiff, Nat.reduceAdd, Nat.reduceSub, Nat.reduceMul, Nat.reduceLeDiff, Nat.reduceLT, Nat.one_ne_zero, Nat.zero_ne_one, reduceIte, reduceCtorEq, bne_self_eq_false, decide_true, decide_false, Int.reduceToNat, Int.cast_ofNat_Int, Int.reduceLT, Int.reduceLE, Int.reduceEq, Int.reduceNeg, Int.reduceAdd, Int.reduceSub, g1, g4, g5, g6, g3, w1, w2, w3]
  rw [hn2]
  exact hQ _ es2 (by rw [he2, he1, he0]; simp [rowN, linN]) (by simp only [FrAt_cons, FrAt_nil, wFr, Nat.reduceEqDiff, Nat.one_ne_zero, Nat.zero_ne_one, reduceIte, and_self, and_true, true_and, g1, g4, g5, g6, g3])

theorem vLin_nn {p v : Int} (hv : v ≤ 65536) : ∀ (l : List (Int × Int)) (last : Int), -1 ≤ last → vLin p v last l = true → (∀ t, t ∈ l → termWf t) → nnT l := by
  intro l
  induction l with
  | nil => intro last _ _ _ t ht; cases ht
  | cons x r ih =>
    intro last hl h hw t ht
    simp only [vLin] at h
    split at h
    · cases h
    · rename_i hn
      have hx := hw x List.mem_cons_self
      rcases List.mem_cons.1 ht with e | e
      · subst e
        obtain ⟨q1, q2, q3, q4⟩ := hx
        exact ⟨by omega, q2, q3⟩
      · exact ih x.1 (by omega) h (fun t ht => hw t (List.mem_cons_of_mem _ ht)) t e
theorem vRows_mem {p v : Int} : ∀ (l : List Row), vRows p v l = true → ∀ r, r ∈ l → vRow p v r = true := by
  intro l
  induction l with
  | nil => intro _ r hr; cases hr
  | cons x rs ih =>
    intro h r hr
    simp only [vRows, Bool.and_eq_true] at h
    rcases List.mem_cons.1 hr with e | e
    · subst e; exact h.1
    · exact ih h.2 r e
structure Vld (t : Tab) : Prop where
  wf : TabWf t
  k : known t.p = true
  pub : 0 ≤ t.pub
  vars : 0 ≤ t.vars
  vars1 : t.vars ≤ 65536
  rows : ∀ r, r ∈ t.rows → nnT r.1.2 ∧ nnT r.2.1.2 ∧ nnT r.2.2.2
theorem vld_of {t : Tab} (ht : TabWf t) (h : vTab t = true) : Vld t := by
  simp only [vTab, Bool.and_eq_true, decide_eq_true_eq] at h
  obtain ⟨⟨⟨⟨⟨h1, h2⟩, h3⟩, h4⟩, h5⟩, h6⟩ := h
  refine ⟨ht, h1, h2, by omega, h4, fun r hr => ?_⟩
  have hv := vRows_mem _ h6 r hr
  simp only [vRow, Bool.and_eq_true] at hv
  obtain ⟨⟨a, b⟩, c⟩ := hv
  obtain ⟨w1, w2, w3⟩ := ht.rows r hr
  exact ⟨vLin_nn h4 _ _ (by omega) a w1.2.2, vLin_nn h4 _ _ (by omega) b w2.2.2, vLin_nn h4 _ _ (by omega) c w3.2.2⟩
theorem rowN_len {x : Row} : (rowN x).length = 3 + 2 * x.1.2.length + 2 * x.2.1.2.length + 2 * x.2.2.2.length := by
  simp only [rowN, linN, List.length_append, List.length_cons, flat2_len]
  omega
theorem loop24r (t : Tab) (ht : Vld t) {Q : Ex → S → Prop} : ∀ (rest : List Row) (i : Nat) (es : List Int) (v : PV) (ow : Ow) (fr : List PV) (j : Sg), t.rows.drop i = rest → Lst v ow es → es.length + (rest.flatMap rowN).length ≤ 1000000 →
    FrAt fr [(1, .lp 0 0), (3, v), (27, .t (.sl t.nl (t.rows.map tRow))), (28, .t (.int .i64 t.rows.length)), (29, .t (.int .i64 i))] →
    (∀ fr' j' es' v' ow', es' = es ++ rest.flatMap rowN → Lst v' ow' es' → fget fr' 3 = v' → Q (.exit 0) ⟨fr', (false, (tCells t).map .t) :: j', ow'⟩) →
    Xl F gl lb24_2 ⟨fr, (false, (tCells t).map .t) :: j, ow⟩ Q ⟨⟩ := by
  intro rest
  induction rest with
  | nil =>
    intro i es v ow fr j hd hL hb hf hQ
    have hd := drop_nil' hd
    simp only [FrAt_cons, FrAt_nil] at hf
    obtain ⟨f1, f3, f27, f28, f29, -⟩ := hf
    refine Xl.step ?_
    simp only [lb24_2]
    have c1 : ¬ ((i : Int) < (t.rows.length : Int)) := by omega
    simp only [wCo, wFr, wOp, wBi, wLst, wLog, xB_other, Nat.reduceBEq, unT, loadP, storeP, partP, partT, partV, cellsP, mkAgg, allT, setRange, fillP, fieldA, indexS, indexA, indexV, indexStr, elems, elemsS, lenP, pickV, cviV, nckV, extV, isNil, bound, close, close1, aft, retV, retSl, one, eqT, eqs, eq1, Nat.reduceEqDiff, Nat.reduceAdd, Nat.reduceSub, Nat.reduceMul, Nat.reduceLeDiff, Nat.reduceLT, Nat.one_ne_zero, Nat.zero_ne_one, reduceIte, reduceCtorEq, bne_self_eq_false, decide_true, decide_false, Int.reduceToNat, Int.cast_ofNat_Int, Int.reduceLT, Int.reduceLE, Int.reduceEq, Int.reduceNeg, Int.reduceAdd, Int.reduceSub, f28, f29, c1]
    repeat' ((with_reducible first | refine xG_dec ?_ ?_ | refine xG_ndec ?_ ?_ | refine xG_nsplit ?_ ?_ | refine xG_split ?_ ?_ | refine xC_dec ?_ ?_ | refine xC_ndec ?_ ?_ | refine xC_nsplit ?_ ?_ | refine xC_split ?_ ?_) <;> intro h <;> (try simp only [wCo, wFr, wOp, wBi, wLst, wLog, xB_other, Nat.reduceBEq, unT, loadP, storeP, partP, partT, partV, cellsP, mkAgg, allT, setRange, fillP, fieldA, indexS, indexA, indexV, indexStr, elems, elemsS, lenP, pickV, cviV, nckV, extV, isNil, bound, close, close1, aft, retV, retSl, one, eqT, eqs, eq1, Nat.reduceEqDiff, Nat.reduceAdd, Nat.reduceSub, Nat.reduceMul, Nat.reduceLeDiff, Nat.reduceLT, Nat.one_ne_zero, Nat.zero_ne_one, reduceIte, reduceCtorEq, bne_self_eq_false, decide_true, decide_false, Int.reduceToNat, Int.cast_ofNat_Int, Int.reduceLT, Int.reduceLE, Int.reduceEq, Int.reduceNeg, Int.reduceAdd, Int.reduceSub, f28, f29, c1, h]))
    exact hQ _ _ es v ow (by simp) hL (by simp only [FrAt_cons, FrAt_nil, wFr, Nat.reduceEqDiff, Nat.one_ne_zero, Nat.zero_ne_one, reduceIte, and_self, and_true, true_and, f3])
  | cons x r ih =>
    intro i es v ow fr j hd hL hb hf hQ
    obtain ⟨hx, hr, hi⟩ := drop_cons hd
    have hmem := List.mem_of_getElem? hx
    obtain ⟨t1, t2, t3⟩ := ht.rows x hmem
    have hlen := ht.wf.len
    simp only [FrAt_cons, FrAt_nil] at hf
    obtain ⟨f1, f3, f27, f28, f29, -⟩ := hf
    have c1 : (i : Int) < (t.rows.length : Int) := by omega
    have hw1 : IntKind.wrap .i64 ((i : Int) + 1) = ((i + 1 : Nat) : Int) := by rw [IntWalk.i64_in _ (by omega)]; omega
    simp only [List.flatMap_cons, List.length_append] at hb
    refine Xl.step ?_
    simp only [lb24_2]
    simp only [wCo, wFr, wOp, wBi, wLst, wLog, xB_other, Nat.reduceBEq, unT, loadP, storeP, partP, partT, partV, cellsP, mkAgg, allT, setRange, fillP, fieldA, indexS, indexA, indexV, indexStr, elems, elemsS, lenP, pickV, cviV, nckV, extV, isNil, bound, close, close1, aft, retV, retSl, one, eqT, eqs, eq1, Nat.reduceEqDiff, Nat.reduceAdd, Nat.reduceSub, Nat.reduceMul, Nat.reduceLeDiff, Nat.reduceLT, Nat.one_ne_zero, Nat.zero_ne_one, reduceIte, reduceCtorEq, bne_self_eq_false, decide_true, decide_false, Int.reduceToNat, Int.cast_ofNat_Int, Int.reduceLT, Int.reduceLE, Int.reduceEq, Int.reduceNeg, Int.reduceAdd, Int.reduceSub, f1, f3, f27, f28, f29, c1, List.getElem?_map, hx, tRow, tLin]
    repeat' ((with_reducible first | refine xG_dec ?_ ?_ | refine xG_ndec ?_ ?_ | refine xG_nsplit ?_ ?_ | refine xG_split ?_ ?_ | refine xC_dec ?_ ?_ | refine xC_ndec ?_ ?_ | refine xC_nsplit ?_ ?_ | refine xC_split ?_ ?_) <;> intro h <;> (try simp only [wCo, wFr, wOp, wBi, wLst, wLog, xB_other, Nat.reduceBEq, unT, loadP, storeP, partP, partT, partV, cellsP, mkAgg, allT, setRange, fillP, fieldA, indexS, indexA, indexV, indexStr, elems, elemsS, lenP, pickV, cviV, nckV, extV, isNil, bound, close, close1, aft, retV, retSl, one, eqT, eqs, eq1, Nat.reduceEqDiff, Nat.reduceAdd, Nat.reduceSub, Nat.reduceMul, Nat.reduceLeDiff, Nat.reduceLT, Nat.one_ne_zero, Nat.zero_ne_one, reduceIte, reduceCtorEq, bne_self_eq_false, decide_true, decide_false, Int.reduceToNat, Int.cast_ofNat_Int, Int.reduceLT, Int.reduceLE, Int.reduceEq, Int.reduceNeg, Int.reduceAdd, Int.reduceSub, f1, f3, f27, f28, f29, c1, List.getElem?_map, hx, tRow, tLin, h]))
    refine row24 (v1 := .lp 0 0) (v27 := .t (.sl t.nl (t.rows.map tRow))) (v28 := .t (.int .i64 t.rows.length)) (v29 := .t (.int .i64 i)) (ht.wf.rows x hmem) t1 t2 t3 hL (by omega) ?_ ?_
    · simp only [FrAt_cons, FrAt_nil, wFr, Nat.reduceEqDiff, Nat.one_ne_zero, Nat.zero_ne_one, reduceIte, and_self, and_true, true_and, f1, f3, f27, f28, f29, tRow, tLin]
    · intro fr' j' es' he hf'
      simp only [FrAt_cons, FrAt_nil] at hf'
      obtain ⟨g1, g27, g28, g29, g3, -⟩ := hf'
      simp only [wCo, wFr, wOp, wBi, wLst, wLog, xB_other, Nat.reduceBEq, unT, loadP, storeP, partP, partT, partV, cellsP, mkAgg, allT, setRange, fillP, fieldA, indexS, indexA, indexV, indexStr, elems, elemsS, lenP, pickV, cviV, nckV, extV, isNil, bound, close, close1, aft, retV, retSl, one, eqT, eqs, eq1, Nat.reduceEqDiff, Nat.reduceAdd, Nat.reduceSub, Nat.reduceMul, Nat.reduceLeDiff, Nat.reduceLT, Nat.one_ne_zero, Nat.zero_ne_one, reduceIte, reduceCtorEq, bne_self_eq_false, decide_true, decide_false, Int.reduceToNat, Int.cast_ofNat_Int, Int.reduceLT, Int.reduceLE, Int.reduceEq, Int.reduceNeg, Int.reduceAdd, Int.reduceSub, g1, g3, g27, g28, g29, hw1]
      repeat' ((with_reducible first | refine xG_dec ?_ ?_ | refine xG_ndec ?_ ?_ | refine xG_nsplit ?_ ?_ | refine xG_split ?_ ?_ | refine xC_dec ?_ ?_ | refine xC_ndec ?_ ?_ | refine xC_nsplit ?_ ?_ | refine xC_split ?_ ?_) <;> intro h <;> (try simp only [wCo, wFr, wOp, wBi, wLst, wLog, xB_other, Nat.reduceBEq, unT, loadP, storeP, partP, partT, partV, cellsP, mkAgg, allT, setRange, fillP, fieldA, indexS, indexA, indexV, indexStr, elems, elemsS, lenP, pickV, cviV, nckV, extV, isNil, bound, close, close1, aft, retV, retSl, one, eqT, eqs, eq1, Nat.reduceEqDiff, Nat.reduceAdd, Nat.reduceSub, Nat.reduceMul, Nat.reduceLeDiff, Nat.reduceLT, Nat.one_ne_zero, Nat.zero_ne_one, reduceIte, reduceCtorEq, bne_self_eq_false, decide_true, decide_false, Int.reduceToNat, Int.cast_ofNat_Int, Int.reduceLT, Int.reduceLE, Int.reduceEq, Int.reduceNeg, Int.reduceAdd, Int.reduceSub, g1, g3, g27, g28, g29, hw1, h]))
      refine ih (i + 1) es' _ _ _ _ hr (.inr ⟨rfl, rfl⟩) (by rw [he, List.length_append]; omega) (by simp only [FrAt_cons, FrAt_nil, wFr, Nat.reduceEqDiff, Nat.one_ne_zero, Nat.zero_ne_one, reduceIte, and_self, and_true, true_and, g1, g3, g27, g28]) ?_
      intro fr2 j2 es2 v2 ow2 he2
      exact hQ fr2 j2 es2 v2 ow2 (by rw [he2, he]; simp)
theorem Lst.close {v : PV} {ow : Ow} {es : List Int} (h : Lst v ow es) : close1 v = some (.sl false (tU es)) := by
  rcases h with ⟨rfl, rfl⟩ | ⟨rfl, rfl⟩ <;> rfl
/-- The digest, as specified. -/
def dig (t : Tab) : Int := if vTab t = true then hash 18446744069414584321 21 (nums t) else 0
theorem linN_nn {l : List (Int × Int)} (h : nnT l) : ∀ n, n ∈ linN l → 0 ≤ n := by
  intro n hn
  simp only [linN, List.mem_cons, List.mem_flatMap, List.not_mem_nil, or_false] at hn
  rcases hn with rfl | ⟨x, hx, h1⟩
  · omega
  · obtain ⟨q1, q2, q3⟩ := h x hx
    rcases h1 with rfl | rfl
    · exact q1
    · exact q3
theorem nums_nn {t : Tab} (ht : Vld t) : ∀ n, n ∈ nums t → 0 ≤ n := by
  intro n hn
  simp only [nums, List.cons_append, List.nil_append, List.mem_cons, List.mem_flatMap] at hn
  have h1 := ht.wf.p0
  have h2 := ht.pub
  have h3 := ht.vars
  rcases hn with rfl | rfl | rfl | rfl | ⟨r, hr, hn⟩
  · exact h1
  · exact h2
  · exact h3
  · omega
  · obtain ⟨a, b, c⟩ := ht.rows r hr
    simp only [rowN, List.mem_append] at hn
    rcases hn with h | h | h
    · exact linN_nn a n h
    · exact linN_nn b n h
    · exact linN_nn c n h
theorem flat_len : ∀ (l : List Row) (B : Nat), (∀ r, r ∈ l → (rowN r).length ≤ B) → (l.flatMap rowN).length ≤ l.length * B := by
  intro l
  induction l with
  | nil => intro B _; simp
  | cons x r ih =>
    intro B h
    have h1 := h x List.mem_cons_self
    have h2 := ih B fun r hr => h r (List.mem_cons_of_mem _ hr)
    simp only [List.flatMap_cons, List.length_append, List.length_cons, Nat.succ_mul]
    omega
theorem nums_len {t : Tab} (h : sm t.rows.length t.rows ≤ 400) : 4 + (t.rows.flatMap rowN).length ≤ 1000000 := by
  obtain ⟨h1, h2⟩ := small_rows h
  have h3 := flat_len t.rows 2403 fun r hr => by
    obtain ⟨a, b, c⟩ := h2 r hr
    rw [rowN_len]
    omega
  have h4 : t.rows.length * 2403 ≤ 400 * 2403 := Nat.mul_le_mul_right _ h1
  omega
theorem nums_length {t : Tab} : (nums t).length = 4 + (t.rows.flatMap rowN).length := by
  simp only [nums, List.length_append, List.length_cons, List.length_nil]
theorem ok24 (t : Tab) (ht : TabWf t) (hs : sm t.rows.length t.rows ≤ 400) {K : PV → Prop} : XcP F gl 24 [tTab t] K ⟨⟩ ↔ K (.t (.int .u64 (dig t))) := by
  have a1 := @ok12 gl t ht.ok
  simp only [tTab, tCells] at a1
  have hl := nums_len hs
  have hlen := ht.len
  refine Ret.iff (Ret.of F24 rfl ?_)
  simp only [ir24]
  cases hv : vTab t with
  | false =>
    simp only [wCo, wFr, wOp, wBi, wLst, wLog, xB_other, Nat.reduceBEq, unT, loadP, storeP, partP, partT, partV, cellsP, mkAgg, allT, setRange, fillP, fieldA, indexS, indexA, indexV, indexStr, elems, elemsS, lenP, pickV, cviV, nckV, extV, isNil, bound, close, close1, aft, retV, retSl, one, eqT, eqs, eq1, Nat.reduceEqDiff, Nat.reduceAdd, Nat.reduceSub, Nat.reduceMul, Nat.reduceLeDiff, Nat.reduceLT, Nat.one_ne_zero, Nat.zero_ne_one, reduceIte, reduceCtorEq, bne_self_eq_false, decide_true, decide_false, Int.reduceToNat, Int.cast_ofNat_Int, Int.reduceLT, Int.reduceLE, Int.reduceEq, Int.reduceNeg, Int.reduceAdd, Int.reduceSub, tTab, tCells, a1, hv]
    repeat' ((with_reducible first | refine xG_dec ?_ ?_ | refine xG_ndec ?_ ?_ | refine xG_nsplit ?_ ?_ | refine xG_split ?_ ?_ | refine xC_dec ?_ ?_ | refine xC_ndec ?_ ?_ | refine xC_nsplit ?_ ?_ | refine xC_split ?_ ?_) <;> intro h <;> (try simp only [wCo, wFr, wOp, wBi, wLst, wLog, xB_other, Nat.reduceBEq, unT, loadP, storeP, partP, partT, partV, cellsP, mkAgg, allT, setRange, fillP, fieldA, indexS, indexA, indexV, indexStr, elems, elemsS, lenP, pickV, cviV, nckV, extV, isNil, bound, close, close1, aft, retV, retSl, one, eqT, eqs, eq1, Nat.reduceEqDiff, Nat.reduceAdd, Nat.reduceSub, Nat.reduceMul, Nat.reduceLeDiff, Nat.reduceLT, Nat.one_ne_zero, Nat.zero_ne_one, reduceIte, reduceCtorEq, bne_self_eq_false, decide_true, decide_false, Int.reduceToNat, Int.cast_ofNat_Int, Int.reduceLT, Int.reduceLE, Int.reduceEq, Int.reduceNeg, Int.reduceAdd, Int.reduceSub, tTab, tCells, a1, hv, h]))
    simp [dig, hv]
  | true =>
    have V := vld_of ht hv
    have v1 := V.pub
    have v2 := V.vars
    have v3 := V.vars1
    have v4 := ht.pub1
    have w1 : IntKind.u64.wrap t.pub = t.pub := IntWalk.u64_in _ (by omega)
    have w2 : IntKind.u64.wrap t.vars = t.vars := IntWalk.u64_in _ (by omega)
    have w3 : IntKind.u64.wrap (t.rows.length : Int) = t.rows.length := IntWalk.u64_in _ (by omega)
    simp only [wCo, wFr, wOp, wBi, wLst, wLog, xB_other, Nat.reduceBEq, unT, loadP, storeP, partP, partT, partV, cellsP, mkAgg, allT, setRange, fillP, fieldA, indexS, indexA, indexV, indexStr, elems, elemsS, lenP, pickV, cviV, nckV, extV, isNil, bound, close, close1, aft, retV, retSl, one, eqT, eqs, eq1, Nat.reduceEqDiff, Nat.reduceAdd, Nat.reduceSub, Nat.reduceMul, Nat.reduceLeDiff, Nat.reduceLT, Nat.one_ne_zero, Nat.zero_ne_one, reduceIte, reduceCtorEq, bne_self_eq_false, decide_true, decide_false, Int.reduceToNat, Int.cast_ofNat_Int, Int.reduceLT, Int.reduceLE, Int.reduceEq, Int.reduceNeg, Int.reduceAdd, Int.reduceSub, tTab, tCells, a1, hv, w1, w2, w3, bslV, chunks, cell1, T.isAgg, List.replicate, List.flatten_cons, List.flatten_nil, List.append_nil]
    repeat' ((with_reducible first | refine xG_dec ?_ ?_ | refine xG_ndec ?_ ?_ | refine xG_nsplit ?_ ?_ | refine xG_split ?_ ?_ | refine xC_dec ?_ ?_ | refine xC_ndec ?_ ?_ | refine xC_nsplit ?_ ?_ | refine xC_split ?_ ?_) <;> intro h <;> (try simp only [wCo, wFr, wOp, wBi, wLst, wLog, xB_other, Nat.reduceBEq, unT, loadP, storeP, partP, partT, partV, cellsP, mkAgg, allT, setRange, fillP, fieldA, indexS, indexA, indexV, indexStr, elems, elemsS, lenP, pickV, cviV, nckV, extV, isNil, bound, close, close1, aft, retV, retSl, one, eqT, eqs, eq1, Nat.reduceEqDiff, Nat.reduceAdd, Nat.reduceSub, Nat.reduceMul, Nat.reduceLeDiff, Nat.reduceLT, Nat.one_ne_zero, Nat.zero_ne_one, reduceIte, reduceCtorEq, bne_self_eq_false, decide_true, decide_false, Int.reduceToNat, Int.cast_ofNat_Int, Int.reduceLT, Int.reduceLE, Int.reduceEq, Int.reduceNeg, Int.reduceAdd, Int.reduceSub, tTab, tCells, a1, hv, w1, w2, w3, bslV, chunks, cell1, T.isAgg, List.replicate, List.flatten_cons, List.flatten_nil, List.append_nil, h]))
    refine loop24r t V t.rows 0 [t.p, t.pub, t.vars, (t.rows.length : Int)] (.lit (tU [t.p, t.pub, t.vars, (t.rows.length : Int)])) [] _ [] rfl (.inl ⟨rfl, rfl⟩) (by simp only [List.length_cons, List.length_nil]; omega) ?_ ?_
    · simp only [FrAt_cons, FrAt_nil, wFr, Nat.reduceEqDiff, Nat.one_ne_zero, Nat.zero_ne_one, reduceIte, and_self, and_true, true_and, tU, List.map_cons, List.map_nil]
    · intro fr' j' es' v' ow' he hL hf
      have he' : es' = nums t := he
      subst he'
      have a2 := @ok47 gl 18446744069414584321 21 false (nums t) (by decide) (by rw [nums_length]; omega) (nums_nn V)
      rcases hL with ⟨rfl, rfl⟩ | ⟨rfl, rfl⟩
      · simp only [wCo, wFr, wOp, wBi, wLst, wLog, xB_other, Nat.reduceBEq, unT, loadP, storeP, partP, partT, partV, cellsP, mkAgg, allT, setRange, fillP, fieldA, indexS, indexA, indexV, indexStr, elems, elemsS, lenP, pickV, cviV, nckV, extV, isNil, bound, close, close1, aft, retV, retSl, one, eqT, eqs, eq1, Nat.reduceEqDiff, Nat.reduceAdd, Nat.reduceSub, Nat.reduceMul, Nat.reduceLeDiff, Nat.reduceLT, Nat.one_ne_zero, Nat.zero_ne_one, reduceIte, reduceCtorEq, bne_self_eq_false, decide_true, decide_false, Int.reduceToNat, Int.cast_ofNat_Int, Int.reduceLT, Int.reduceLE, Int.reduceEq, Int.reduceNeg, Int.reduceAdd, Int.reduceSub, hf, a2]
        repeat' ((with_reducible first | refine xG_dec ?_ ?_ | refine xG_ndec ?_ ?_ | refine xG_nsplit ?_ ?_ | refine xG_split ?_ ?_ | refine xC_dec ?_ ?_ | refine xC_ndec ?_ ?_ | refine xC_nsplit ?_ ?_ | refine xC_split ?_ ?_) <;> intro h <;> (try simp only [wCo, wFr, wOp, wBi, wLst, wLog, xB_other, Nat.reduceBEq, unT, loadP, storeP, partP, partT, partV, cellsP, mkAgg, allT, setRange, fillP, fieldA, indexS, indexA, indexV, indexStr, elems, elemsS, lenP, pickV, cviV, nckV, extV, isNil, bound, close, close1, aft, retV, retSl, one, eqT, eqs, eq1, Nat.reduceEqDiff, Nat.reduceAdd, Nat.reduceSub, Nat.reduceMul, Nat.reduceLeDiff, Nat.reduceLT, Nat.one_ne_zero, Nat.zero_ne_one, reduceIte, reduceCtorEq, bne_self_eq_false, decide_true, decide_false, Int.reduceToNat, Int.cast_ofNat_Int, Int.reduceLT, Int.reduceLE, Int.reduceEq, Int.reduceNeg, Int.reduceAdd, Int.reduceSub, hf, a2, h]))
        simp [dig, hv]
      · simp only [wCo, wFr, wOp, wBi, wLst, wLog, xB_other, Nat.reduceBEq, unT, loadP, storeP, partP, partT, partV, cellsP, mkAgg, allT, setRange, fillP, fieldA, indexS, indexA, indexV, indexStr, elems, elemsS, lenP, pickV, cviV, nckV, extV, isNil, bound, close, close1, aft, retV, retSl, one, eqT, eqs, eq1, Nat.reduceEqDiff, Nat.reduceAdd, Nat.reduceSub, Nat.reduceMul, Nat.reduceLeDiff, Nat.reduceLT, Nat.one_ne_zero, Nat.zero_ne_one, reduceIte, reduceCtorEq, bne_self_eq_false, decide_true, decide_false, Int.reduceToNat, Int.cast_ofNat_Int, Int.reduceLT, Int.reduceLE, Int.reduceEq, Int.reduceNeg, Int.reduceAdd, Int.reduceSub, hf, a2]
        repeat' ((with_reducible first | refine xG_dec ?_ ?_ | refine xG_ndec ?_ ?_ | refine xG_nsplit ?_ ?_ | refine xG_split ?_ ?_ | refine xC_dec ?_ ?_ | refine xC_ndec ?_ ?_ | refine xC_nsplit ?_ ?_ | refine xC_split ?_ ?_) <;> intro h <;> (try simp only [wCo, wFr, wOp, wBi, wLst, wLog, xB_other, Nat.reduceBEq, unT, loadP, storeP, partP, partT, partV, cellsP, mkAgg, allT, setRange, fillP, fieldA, indexS, indexA, indexV, indexStr, elems, elemsS, lenP, pickV, cviV, nckV, extV, isNil, bound, close, close1, aft, retV, retSl, one, eqT, eqs, eq1, Nat.reduceEqDiff, Nat.reduceAdd, Nat.reduceSub, Nat.reduceMul, Nat.reduceLeDiff, Nat.reduceLT, Nat.one_ne_zero, Nat.zero_ne_one, reduceIte, reduceCtorEq, bne_self_eq_false, decide_true, decide_false, Int.reduceToNat, Int.cast_ofNat_Int, Int.reduceLT, Int.reduceLE, Int.reduceEq, Int.reduceNeg, Int.reduceAdd, Int.reduceSub, hf, a2, h]))
        simp [dig, hv]
theorem ok40 {x : Row} {K : PV → Prop} : XcP F gl 40 [.agg (tRow x)] K ⟨⟩ ↔ K (.t (.sl false [[tLin x.1], [tLin x.2.1], [tLin x.2.2]])) := by
  refine Ret.iff (Ret.of F40 rfl ?_)
  simp only [ir40]
  simp only [wCo, wFr, wOp, wBi, wLst, wLog, xB_other, Nat.reduceBEq, unT, loadP, storeP, partP, partT, partV, cellsP, mkAgg, allT, setRange, fillP, fieldA, indexS, indexA, indexV, indexStr, elems, elemsS, lenP, pickV, cviV, nckV, extV, isNil, bound, close, close1, aft, retV, retSl, one, eqT, eqs, eq1, Nat.reduceEqDiff, Nat.reduceAdd, Nat.reduceSub, Nat.reduceMul, Nat.reduceLeDiff, Nat.reduceLT, Nat.one_ne_zero, Nat.zero_ne_one, reduceIte, reduceCtorEq, bne_self_eq_false, decide_true, decide_false, Int.reduceToNat, Int.cast_ofNat_Int, Int.reduceLT, Int.reduceLE, Int.reduceEq, Int.reduceNeg, Int.reduceAdd, Int.reduceSub, tRow, tLin, bslV, chunks, cell1, T.isAgg, List.replicate, List.flatten_cons, List.flatten_nil, List.append_nil]
  repeat' ((with_reducible first | refine xG_dec ?_ ?_ | refine xG_ndec ?_ ?_ | refine xG_nsplit ?_ ?_ | refine xG_split ?_ ?_ | refine xC_dec ?_ ?_ | refine xC_ndec ?_ ?_ | refine xC_nsplit ?_ ?_ | refine xC_split ?_ ?_) <;> intro h <;> (try simp only [wCo, wFr, wOp, wBi, wLst, wLog, xB_other, Nat.reduceBEq, unT, loadP, storeP, partP, partT, partV, cellsP, mkAgg, allT, setRange, fillP, fieldA, indexS, indexA, indexV, indexStr, elems, elemsS, lenP, pickV, cviV, nckV, extV, isNil, bound, close, close1, aft, retV, retSl, one, eqT, eqs, eq1, Nat.reduceEqDiff, Nat.reduceAdd, Nat.reduceSub, Nat.reduceMul, Nat.reduceLeDiff, Nat.reduceLT, Nat.one_ne_zero, Nat.zero_ne_one, reduceIte, reduceCtorEq, bne_self_eq_false, decide_true, decide_false, Int.reduceToNat, Int.cast_ofNat_Int, Int.reduceLT, Int.reduceLE, Int.reduceEq, Int.reduceNeg, Int.reduceAdd, Int.reduceSub, tRow, tLin, bslV, chunks, cell1, T.isAgg, List.replicate, List.flatten_cons, List.flatten_nil, List.append_nil, h]))
theorem loop49r (t : Tab) (ht : Vld t) {Q : Ex → S → Prop} : ∀ (rest : List Row) (i : Nat) (es : List Int) (v : PV) (ow : Ow) (fr : List PV), t.rows.drop i = rest → Lst v ow es → es.length + (rest.flatMap rowN).length ≤ 1000000 →
    FrAt fr [(1, .lp 0 0), (3, v), (4, .t (.int .i64 i))] →
    (∀ fr' es' v' ow', es' = es ++ rest.flatMap rowN → Lst v' ow' es' → fget fr' 3 = v' → Q (.exit 0) ⟨fr', [(false, (tCells t).map .t)], ow'⟩) →
    Xl F gl lb49_2 ⟨fr, [(false, (tCells t).map .t)], ow⟩ Q ⟨⟩ := by
  intro rest
  induction rest with
  | nil =>
    intro i es v ow fr hd hL hb hf hQ
    have hd := drop_nil' hd
    simp only [FrAt_cons, FrAt_nil] at hf
    obtain ⟨f1, f3, f4, -⟩ := hf
    refine Xl.step ?_
    simp only [lb49_2]
    have c1 : ¬ ((i : Int) < (t.rows.length : Int)) := by omega
    simp only [wCo, wFr, wOp, wBi, wLst, wLog, xB_other, Nat.reduceBEq, unT, loadP, storeP, partP, partT, partV, cellsP, mkAgg, allT, setRange, fillP, fieldA, indexS, indexA, indexV, indexStr, elems, elemsS, lenP, pickV, cviV, nckV, extV, isNil, bound, close, close1, aft, retV, retSl, one, eqT, eqs, eq1, Nat.reduceEqDiff, Nat.reduceAdd, Nat.reduceSub, Nat.reduceMul, Nat.reduceLeDiff, Nat.reduceLT, Nat.one_ne_zero, Nat.zero_ne_one, reduceIte, reduceCtorEq, bne_self_eq_false, decide_true, decide_false, Int.reduceToNat, Int.cast_ofNat_Int, Int.reduceLT, Int.reduceLE, Int.reduceEq, Int.reduceNeg, Int.reduceAdd, Int.reduceSub, f1, f4, c1, tCells]
    repeat' ((with_reducible first | refine xG_dec ?_ ?_ | refine xG_ndec ?_ ?_ | refine xG_nsplit ?_ ?_ | refine xG_split ?_ ?_ | refine xC_dec ?_ ?_ | refine xC_ndec ?_ ?_ | refine xC_nsplit ?_ ?_ | refine xC_split ?_ ?_) <;> intro h <;> (try simp only [wCo, wFr, wOp, wBi, wLst, wLog, xB_other, Nat.reduceBEq, unT, loadP, storeP, partP, partT, partV, cellsP, mkAgg, allT, setRange, fillP, fieldA, indexS, indexA, indexV, indexStr, elems, elemsS, lenP, pickV, cviV, nckV, extV, isNil, bound, close, close1, aft, retV, retSl, one, eqT, eqs, eq1, Nat.reduceEqDiff, Nat.reduceAdd, Nat.reduceSub, Nat.reduceMul, Nat.reduceLeDiff, Nat.reduceLT, Nat.one_ne_zero, Nat.zero_ne_one, reduceIte, reduceCtorEq, bne_self_eq_false, decide_true, decide_false, Int.reduceToNat, Int.cast_ofNat_Int, Int.reduceLT, Int.reduceLE, Int.reduceEq, Int.reduceNeg, Int.reduceAdd, Int.reduceSub, f1, f4, c1, tCells, h]))
    exact hQ _ es v ow (by simp) hL (by simp only [FrAt_cons, FrAt_nil, wFr, Nat.reduceEqDiff, Nat.one_ne_zero, Nat.zero_ne_one, reduceIte, and_self, and_true, true_and, f3])
  | cons x r ih =>
    intro i es v ow fr hd hL hb hf hQ
    obtain ⟨hx, hr, hi⟩ := drop_cons hd
    have hmem := List.mem_of_getElem? hx
    obtain ⟨t1, t2, t3⟩ := ht.rows x hmem
    have hlen := ht.wf.len
    simp only [FrAt_cons, FrAt_nil] at hf
    obtain ⟨f1, f3, f4, -⟩ := hf
    have c1 : (i : Int) < (t.rows.length : Int) := by omega
    have hw1 : IntKind.wrap .i64 ((i : Int) + 1) = ((i + 1 : Nat) : Int) := by rw [IntWalk.i64_in _ (by omega)]; omega
    have a := @ok40 gl x
    simp only [tRow, tLin] at a
    simp only [List.flatMap_cons, List.length_append] at hb
    refine Xl.step ?_
    simp only [lb49_2]
    simp only [wCo, wFr, wOp, wBi, wLst, wLog, xB_other, Nat.reduceBEq, unT, loadP, storeP, partP, partT, partV, cellsP, mkAgg, allT, setRange, fillP, fieldA, indexS, indexA, indexV, indexStr, elems, elemsS, lenP, pickV, cviV, nckV, extV, isNil, bound, close, close1, aft, retV, retSl, one, eqT, eqs, eq1, Nat.reduceEqDiff, Nat.reduceAdd, Nat.reduceSub, Nat.reduceMul, Nat.reduceLeDiff, Nat.reduceLT, Nat.one_ne_zero, Nat.zero_ne_one, reduceIte, reduceCtorEq, bne_self_eq_false, decide_true, decide_false, Int.reduceToNat, Int.cast_ofNat_Int, Int.reduceLT, Int.reduceLE, Int.reduceEq, Int.reduceNeg, Int.reduceAdd, Int.reduceSub, f1, f3, f4, c1, List.getElem?_map, hx, tRow, tLin, tCells, a]
    repeat' ((with_reducible first | refine xG_dec ?_ ?_ | refine xG_ndec ?_ ?_ | refine xG_nsplit ?_ ?_ | refine xG_split ?_ ?_ | refine xC_dec ?_ ?_ | refine xC_ndec ?_ ?_ | refine xC_nsplit ?_ ?_ | refine xC_split ?_ ?_) <;> intro h <;> (try simp only [wCo, wFr, wOp, wBi, wLst, wLog, xB_other, Nat.reduceBEq, unT, loadP, storeP, partP, partT, partV, cellsP, mkAgg, allT, setRange, fillP, fieldA, indexS, indexA, indexV, indexStr, elems, elemsS, lenP, pickV, cviV, nckV, extV, isNil, bound, close, close1, aft, retV, retSl, one, eqT, eqs, eq1, Nat.reduceEqDiff, Nat.reduceAdd, Nat.reduceSub, Nat.reduceMul, Nat.reduceLeDiff, Nat.reduceLT, Nat.one_ne_zero, Nat.zero_ne_one, reduceIte, reduceCtorEq, bne_self_eq_false, decide_true, decide_false, Int.reduceToNat, Int.cast_ofNat_Int, Int.reduceLT, Int.reduceLE, Int.reduceEq, Int.reduceNeg, Int.reduceAdd, Int.reduceSub, f1, f3, f4, c1, List.getElem?_map, hx, tRow, tLin, tCells, a, h]))
    refine row49 (v1 := .lp 0 0) (v4 := .t (.int .i64 i)) (ht.wf.rows x hmem) t1 t2 t3 hL (by omega) ?_ ?_
    · simp only [FrAt_cons, FrAt_nil, wFr, Nat.reduceEqDiff, Nat.one_ne_zero, Nat.zero_ne_one, reduceIte, and_self, and_true, true_and, f1, f3, f4, tRow, tLin]
    · intro fr' es' he hf'
      simp only [FrAt_cons, FrAt_nil] at hf'
      obtain ⟨g1, g4, g3, -⟩ := hf'
      simp only [wCo, wFr, wOp, wBi, wLst, wLog, xB_other, Nat.reduceBEq, unT, loadP, storeP, partP, partT, partV, cellsP, mkAgg, allT, setRange, fillP, fieldA, indexS, indexA, indexV, indexStr, elems, elemsS, lenP, pickV, cviV, nckV, extV, isNil, bound, close, close1, aft, retV, retSl, one, eqT, eqs, eq1, Nat.reduceEqDiff, Nat.reduceAdd, Nat.reduceSub, Nat.reduceMul, Nat.reduceLeDiff, Nat.reduceLT, Nat.one_ne_zero, Nat.zero_ne_one, reduceIte, reduceCtorEq, bne_self_eq_false, decide_true, decide_false, Int.reduceToNat, Int.cast_ofNat_Int, Int.reduceLT, Int.reduceLE, Int.reduceEq, Int.reduceNeg, Int.reduceAdd, Int.reduceSub, g1, g3, g4, hw1]
      repeat' ((with_reducible first | refine xG_dec ?_ ?_ | refine xG_ndec ?_ ?_ | refine xG_nsplit ?_ ?_ | refine xG_split ?_ ?_ | refine xC_dec ?_ ?_ | refine xC_ndec ?_ ?_ | refine xC_nsplit ?_ ?_ | refine xC_split ?_ ?_) <;> intro h <;> (try simp only [wCo, wFr, wOp, wBi, wLst, wLog, xB_other, Nat.reduceBEq, unT, loadP, storeP, partP, partT, partV, cellsP, mkAgg, allT, setRange, fillP, fieldA, indexS, indexA, indexV, indexStr, elems, elemsS, lenP, pickV, cviV, nckV, extV, isNil, bound, close, close1, aft, retV, retSl, one, eqT, eqs, eq1, Nat.reduceEqDiff, Nat.reduceAdd, Nat.reduceSub, Nat.reduceMul, Nat.reduceLeDiff, Nat.reduceLT, Nat.one_ne_zero, Nat.zero_ne_one, reduceIte, reduceCtorEq, bne_self_eq_false, decide_true, decide_false, Int.reduceToNat, Int.cast_ofNat_Int, Int.reduceLT, Int.reduceLE, Int.reduceEq, Int.reduceNeg, Int.reduceAdd, Int.reduceSub, g1, g3, g4, hw1, h]))
      refine ih (i + 1) es' _ _ _ hr (.inr ⟨rfl, rfl⟩) (by rw [he, List.length_append]; omega) (by simp only [FrAt_cons, FrAt_nil, wFr, Nat.reduceEqDiff, Nat.one_ne_zero, Nat.zero_ne_one, reduceIte, and_self, and_true, true_and, g1, g3]) ?_
      intro fr2 es2 v2 ow2 he2
      exact hQ fr2 es2 v2 ow2 (by rw [he2, he]; simp)
/-- What the reference's list is handed back as. -/
theorem ok49 (t : Tab) (ht : Vld t) (hs : sm t.rows.length t.rows ≤ 400) {K : PV → Prop} (hK : K (.t (.sl false (tU (nums t))))) (hK' : ∀ k z, K (.own k z (tU (nums t)))) : XcP F gl 49 [tTab t] K ⟨⟩ := by
  have hl := nums_len hs
  have hlen := ht.wf.len
  have v1 := ht.pub
  have v2 := ht.vars
  have v3 := ht.vars1
  have v4 := ht.wf.pub1
  have w1 : IntKind.u64.wrap t.pub = t.pub := IntWalk.u64_in _ (by omega)
  have w2 : IntKind.u64.wrap t.vars = t.vars := IntWalk.u64_in _ (by omega)
  have w3 : IntKind.u64.wrap (t.rows.length : Int) = t.rows.length := IntWalk.u64_in _ (by omega)
  refine XcP.of F49 rfl ?_
  simp only [ir49]
  simp only [wCo, wFr, wOp, wBi, wLst, wLog, xB_other, Nat.reduceBEq, unT, loadP, storeP, partP, partT, partV, cellsP, mkAgg, allT, setRange, fillP, fieldA, indexS, indexA, indexV, indexStr, elems, elemsS, lenP, pickV, cviV, nckV, extV, isNil, bound, close, close1, aft, retV, retSl, one, eqT, eqs, eq1, Nat.reduceEqDiff, Nat.reduceAdd, Nat.reduceSub, Nat.reduceMul, Nat.reduceLeDiff, Nat.reduceLT, Nat.one_ne_zero, Nat.zero_ne_one, reduceIte, reduceCtorEq, bne_self_eq_false, decide_true, decide_false, Int.reduceToNat, Int.cast_ofNat_Int, Int.reduceLT, Int.reduceLE, Int.reduceEq, Int.reduceNeg, Int.reduceAdd, Int.reduceSub, tTab, tCells, w1, w2, w3, bslV, chunks, cell1, T.isAgg, List.replicate, List.flatten_cons, List.flatten_nil, List.append_nil]
  repeat' ((with_reducible first | refine xG_dec ?_ ?_ | refine xG_ndec ?_ ?_ | refine xG_nsplit ?_ ?_ | refine xG_split ?_ ?_ | refine xC_dec ?_ ?_ | refine xC_ndec ?_ ?_ | refine xC_nsplit ?_ ?_ | refine xC_split ?_ ?_) <;> intro h <;> (try simp only [wCo, wFr, wOp, wBi, wLst, wLog, xB_other, Nat.reduceBEq, unT, loadP, storeP, partP, partT, partV, cellsP, mkAgg, allT, setRange, fillP, fieldA, indexS, indexA, indexV, indexStr, elems, elemsS, lenP, pickV, cviV, nckV, extV, isNil, bound, close, close1, aft, retV, retSl, one, eqT, eqs, eq1, Nat.reduceEqDiff, Nat.reduceAdd, Nat.reduceSub, Nat.reduceMul, Nat.reduceLeDiff, Nat.reduceLT, Nat.one_ne_zero, Nat.zero_ne_one, reduceIte, reduceCtorEq, bne_self_eq_false, decide_true, decide_false, Int.reduceToNat, Int.cast_ofNat_Int, Int.reduceLT, Int.reduceLE, Int.reduceEq, Int.reduceNeg, Int.reduceAdd, Int.reduceSub, tTab, tCells, w1, w2, w3, bslV, chunks, cell1, T.isAgg, List.replicate, List.flatten_cons, List.flatten_nil, List.append_nil, h]))
  refine loop49r t ht t.rows 0 [t.p, t.pub, t.vars, (t.rows.length : Int)] (.lit (tU [t.p, t.pub, t.vars, (t.rows.length : Int)])) [] _ rfl (.inl ⟨rfl, rfl⟩) (by simp only [List.length_cons, List.length_nil]; omega) ?_ ?_
  · simp only [FrAt_cons, FrAt_nil, wFr, Nat.reduceEqDiff, Nat.one_ne_zero, Nat.zero_ne_one, reduceIte, and_self, and_true, true_and, tU, List.map_cons, List.map_nil]
  · intro fr' es' v' ow' he hL hf
    have he' : es' = nums t := he
    subst he'
    simp only [wCo, wFr, wOp, wBi, wLst, wLog, xB_other, Nat.reduceBEq, unT, loadP, storeP, partP, partT, partV, cellsP, mkAgg, allT, setRange, fillP, fieldA, indexS, indexA, indexV, indexStr, elems, elemsS, lenP, pickV, cviV, nckV, extV, isNil, bound, close, close1, aft, retV, retSl, one, eqT, eqs, eq1, Nat.reduceEqDiff, Nat.reduceAdd, Nat.reduceSub, Nat.reduceMul, Nat.reduceLeDiff, Nat.reduceLT, Nat.one_ne_zero, Nat.zero_ne_one, reduceIte, reduceCtorEq, bne_self_eq_false, decide_true, decide_false, Int.reduceToNat, Int.cast_ofNat_Int, Int.reduceLT, Int.reduceLE, Int.reduceEq, Int.reduceNeg, Int.reduceAdd, Int.reduceSub, hf]
    repeat' ((with_reducible first | refine xG_dec ?_ ?_ | refine xG_ndec ?_ ?_ | refine xG_nsplit ?_ ?_ | refine xG_split ?_ ?_ | refine xC_dec ?_ ?_ | refine xC_ndec ?_ ?_ | refine xC_nsplit ?_ ?_ | refine xC_split ?_ ?_) <;> intro h <;> (try simp only [wCo, wFr, wOp, wBi, wLst, wLog, xB_other, Nat.reduceBEq, unT, loadP, storeP, partP, partT, partV, cellsP, mkAgg, allT, setRange, fillP, fieldA, indexS, indexA, indexV, indexStr, elems, elemsS, lenP, pickV, cviV, nckV, extV, isNil, bound, close, close1, aft, retV, retSl, one, eqT, eqs, eq1, Nat.reduceEqDiff, Nat.reduceAdd, Nat.reduceSub, Nat.reduceMul, Nat.reduceLeDiff, Nat.reduceLT, Nat.one_ne_zero, Nat.zero_ne_one, reduceIte, reduceCtorEq, bne_self_eq_false, decide_true, decide_false, Int.reduceToNat, Int.cast_ofNat_Int, Int.reduceLT, Int.reduceLE, Int.reduceEq, Int.reduceNeg, Int.reduceAdd, Int.reduceSub, hf, h]))
    rcases hL with ⟨rfl, rfl⟩ | ⟨rfl, rfl⟩
    · simp only [wCo, wFr, wOp, wBi, wLst, wLog, xB_other, Nat.reduceBEq, unT, loadP, storeP, partP, partT, partV, cellsP, mkAgg, allT, setRange, fillP, fieldA, indexS, indexA, indexV, indexStr, elems, elemsS, lenP, pickV, cviV, nckV, extV, isNil, bound, close, close1, aft, retV, retSl, one, eqT, eqs, eq1, Nat.reduceEqDiff, Nat.reduceAdd, Nat.reduceSub, Nat.reduceMul, Nat.reduceLeDiff, Nat.reduceLT, Nat.one_ne_zero, Nat.zero_ne_one, reduceIte, reduceCtorEq, bne_self_eq_false, decide_true, decide_false, Int.reduceToNat, Int.cast_ofNat_Int, Int.reduceLT, Int.reduceLE, Int.reduceEq, Int.reduceNeg, Int.reduceAdd, Int.reduceSub]
      repeat' ((with_reducible first | refine xG_dec ?_ ?_ | refine xG_ndec ?_ ?_ | refine xG_nsplit ?_ ?_ | refine xG_split ?_ ?_ | refine xC_dec ?_ ?_ | refine xC_ndec ?_ ?_ | refine xC_nsplit ?_ ?_ | refine xC_split ?_ ?_) <;> intro h <;> (try simp only [wCo, wFr, wOp, wBi, wLst, wLog, xB_other, Nat.reduceBEq, unT, loadP, storeP, partP, partT, partV, cellsP, mkAgg, allT, setRange, fillP, fieldA, indexS, indexA, indexV, indexStr, elems, elemsS, lenP, pickV, cviV, nckV, extV, isNil, bound, close, close1, aft, retV, retSl, one, eqT, eqs, eq1, Nat.reduceEqDiff, Nat.reduceAdd, Nat.reduceSub, Nat.reduceMul, Nat.reduceLeDiff, Nat.reduceLT, Nat.one_ne_zero, Nat.zero_ne_one, reduceIte, reduceCtorEq, bne_self_eq_false, decide_true, decide_false, Int.reduceToNat, Int.cast_ofNat_Int, Int.reduceLT, Int.reduceLE, Int.reduceEq, Int.reduceNeg, Int.reduceAdd, Int.reduceSub, h]))
      exact hK
    · simp only [wCo, wFr, wOp, wBi, wLst, wLog, xB_other, Nat.reduceBEq, unT, loadP, storeP, partP, partT, partV, cellsP, mkAgg, allT, setRange, fillP, fieldA, indexS, indexA, indexV, indexStr, elems, elemsS, lenP, pickV, cviV, nckV, extV, isNil, bound, close, close1, aft, retV, retSl, one, eqT, eqs, eq1, Nat.reduceEqDiff, Nat.reduceAdd, Nat.reduceSub, Nat.reduceMul, Nat.reduceLeDiff, Nat.reduceLT, Nat.one_ne_zero, Nat.zero_ne_one, reduceIte, reduceCtorEq, bne_self_eq_false, decide_true, decide_false, Int.reduceToNat, Int.cast_ofNat_Int, Int.reduceLT, Int.reduceLE, Int.reduceEq, Int.reduceNeg, Int.reduceAdd, Int.reduceSub, tU_len]
      repeat' ((with_reducible first | refine xG_dec ?_ ?_ | refine xG_ndec ?_ ?_ | refine xG_nsplit ?_ ?_ | refine xG_split ?_ ?_ | refine xC_dec ?_ ?_ | refine xC_ndec ?_ ?_ | refine xC_nsplit ?_ ?_ | refine xC_split ?_ ?_) <;> intro h <;> (try simp only [wCo, wFr, wOp, wBi, wLst, wLog, xB_other, Nat.reduceBEq, unT, loadP, storeP, partP, partT, partV, cellsP, mkAgg, allT, setRange, fillP, fieldA, indexS, indexA, indexV, indexStr, elems, elemsS, lenP, pickV, cviV, nckV, extV, isNil, bound, close, close1, aft, retV, retSl, one, eqT, eqs, eq1, Nat.reduceEqDiff, Nat.reduceAdd, Nat.reduceSub, Nat.reduceMul, Nat.reduceLeDiff, Nat.reduceLT, Nat.one_ne_zero, Nat.zero_ne_one, reduceIte, reduceCtorEq, bne_self_eq_false, decide_true, decide_false, Int.reduceToNat, Int.cast_ofNat_Int, Int.reduceLT, Int.reduceLE, Int.reduceEq, Int.reduceNeg, Int.reduceAdd, Int.reduceSub, tU_len, h]))
      exact hK' _ _
theorem ok25 (t : Tab) (ht : TabWf t) (hs : sm t.rows.length t.rows ≤ 400) {K : PV → Prop} : XcP F gl 25 [tTab t] K ⟨⟩ ↔ K (.t (.int .u64 (dig t))) := by
  have a1 := @ok13 gl t ht.ok
  simp only [tTab, tCells] at a1
  have hl := nums_len hs
  refine Ret.iff (Ret.of F25 rfl ?_)
  simp only [ir25]
  cases hv : vTab t with
  | false =>
    simp only [wCo, wFr, wOp, wBi, wLst, wLog, xB_other, Nat.reduceBEq, unT, loadP, storeP, partP, partT, partV, cellsP, mkAgg, allT, setRange, fillP, fieldA, indexS, indexA, indexV, indexStr, elems, elemsS, lenP, pickV, cviV, nckV, extV, isNil, bound, close, close1, aft, retV, retSl, one, eqT, eqs, eq1, Nat.reduceEqDiff, Nat.reduceAdd, Nat.reduceSub, Nat.reduceMul, Nat.reduceLeDiff, Nat.reduceLT, Nat.one_ne_zero, Nat.zero_ne_one, reduceIte, reduceCtorEq, bne_self_eq_false, decide_true, decide_false, Int.reduceToNat, Int.cast_ofNat_Int, Int.reduceLT, Int.reduceLE, Int.reduceEq, Int.reduceNeg, Int.reduceAdd, Int.reduceSub, tTab, tCells, a1, hv]
    repeat' ((with_reducible first | refine xG_dec ?_ ?_ | refine xG_ndec ?_ ?_ | refine xG_nsplit ?_ ?_ | refine xG_split ?_ ?_ | refine xC_dec ?_ ?_ | refine xC_ndec ?_ ?_ | refine xC_nsplit ?_ ?_ | refine xC_split ?_ ?_) <;> intro h <;> (try simp only [wCo, wFr, wOp, wBi, wLst, wLog, xB_other, Nat.reduceBEq, unT, loadP, storeP, partP, partT, partV, cellsP, mkAgg, allT, setRange, fillP, fieldA, indexS, indexA, indexV, indexStr, elems, elemsS, lenP, pickV, cviV, nckV, extV, isNil, bound, close, close1, aft, retV, retSl, one, eqT, eqs, eq1, Nat.reduceEqDiff, Nat.reduceAdd, Nat.reduceSub, Nat.reduceMul, Nat.reduceLeDiff, Nat.reduceLT, Nat.one_ne_zero, Nat.zero_ne_one, reduceIte, reduceCtorEq, bne_self_eq_false, decide_true, decide_false, Int.reduceToNat, Int.cast_ofNat_Int, Int.reduceLT, Int.reduceLE, Int.reduceEq, Int.reduceNeg, Int.reduceAdd, Int.reduceSub, tTab, tCells, a1, hv, h]))
    simp [dig, hv]
  | true =>
    have V := vld_of ht hv
    have a2 := @ok48 gl 18446744069414584321 21 false (nums t) (by decide) (by rw [nums_length]; omega) (nums_nn V)
    simp only [wCo, wFr, wOp, wBi, wLst, wLog, xB_other, Nat.reduceBEq, unT, loadP, storeP, partP, partT, partV, cellsP, mkAgg, allT, setRange, fillP, fieldA, indexS, indexA, indexV, indexStr, elems, elemsS, lenP, pickV, cviV, nckV, extV, isNil, bound, close, close1, aft, retV, retSl, one, eqT, eqs, eq1, Nat.reduceEqDiff, Nat.reduceAdd, Nat.reduceSub, Nat.reduceMul, Nat.reduceLeDiff, Nat.reduceLT, Nat.one_ne_zero, Nat.zero_ne_one, reduceIte, reduceCtorEq, bne_self_eq_false, decide_true, decide_false, Int.reduceToNat, Int.cast_ofNat_Int, Int.reduceLT, Int.reduceLE, Int.reduceEq, Int.reduceNeg, Int.reduceAdd, Int.reduceSub, tTab, tCells, a1, hv]
    repeat' ((with_reducible first | refine xG_dec ?_ ?_ | refine xG_ndec ?_ ?_ | refine xG_nsplit ?_ ?_ | refine xG_split ?_ ?_ | refine xC_dec ?_ ?_ | refine xC_ndec ?_ ?_ | refine xC_nsplit ?_ ?_ | refine xC_split ?_ ?_) <;> intro h <;> (try simp only [wCo, wFr, wOp, wBi, wLst, wLog, xB_other, Nat.reduceBEq, unT, loadP, storeP, partP, partT, partV, cellsP, mkAgg, allT, setRange, fillP, fieldA, indexS, indexA, indexV, indexStr, elems, elemsS, lenP, pickV, cviV, nckV, extV, isNil, bound, close, close1, aft, retV, retSl, one, eqT, eqs, eq1, Nat.reduceEqDiff, Nat.reduceAdd, Nat.reduceSub, Nat.reduceMul, Nat.reduceLeDiff, Nat.reduceLT, Nat.one_ne_zero, Nat.zero_ne_one, reduceIte, reduceCtorEq, bne_self_eq_false, decide_true, decide_false, Int.reduceToNat, Int.cast_ofNat_Int, Int.reduceLT, Int.reduceLE, Int.reduceEq, Int.reduceNeg, Int.reduceAdd, Int.reduceSub, tTab, tCells, a1, hv, h]))
    have key := fun K => @ok49 gl t V hs K
    simp only [tTab, tCells] at key
    refine key _ ?_ fun k z => ?_
    · simp only [wCo, wFr, wOp, wBi, wLst, wLog, xB_other, Nat.reduceBEq, unT, loadP, storeP, partP, partT, partV, cellsP, mkAgg, allT, setRange, fillP, fieldA, indexS, indexA, indexV, indexStr, elems, elemsS, lenP, pickV, cviV, nckV, extV, isNil, bound, close, close1, aft, retV, retSl, one, eqT, eqs, eq1, Nat.reduceEqDiff, Nat.reduceAdd, Nat.reduceSub, Nat.reduceMul, Nat.reduceLeDiff, Nat.reduceLT, Nat.one_ne_zero, Nat.zero_ne_one, reduceIte, reduceCtorEq, bne_self_eq_false, decide_true, decide_false, Int.reduceToNat, Int.cast_ofNat_Int, Int.reduceLT, Int.reduceLE, Int.reduceEq, Int.reduceNeg, Int.reduceAdd, Int.reduceSub, a2]
      repeat' ((with_reducible first | refine xG_dec ?_ ?_ | refine xG_ndec ?_ ?_ | refine xG_nsplit ?_ ?_ | refine xG_split ?_ ?_ | refine xC_dec ?_ ?_ | refine xC_ndec ?_ ?_ | refine xC_nsplit ?_ ?_ | refine xC_split ?_ ?_) <;> intro h <;> (try simp only [wCo, wFr, wOp, wBi, wLst, wLog, xB_other, Nat.reduceBEq, unT, loadP, storeP, partP, partT, partV, cellsP, mkAgg, allT, setRange, fillP, fieldA, indexS, indexA, indexV, indexStr, elems, elemsS, lenP, pickV, cviV, nckV, extV, isNil, bound, close, close1, aft, retV, retSl, one, eqT, eqs, eq1, Nat.reduceEqDiff, Nat.reduceAdd, Nat.reduceSub, Nat.reduceMul, Nat.reduceLeDiff, Nat.reduceLT, Nat.one_ne_zero, Nat.zero_ne_one, reduceIte, reduceCtorEq, bne_self_eq_false, decide_true, decide_false, Int.reduceToNat, Int.cast_ofNat_Int, Int.reduceLT, Int.reduceLE, Int.reduceEq, Int.reduceNeg, Int.reduceAdd, Int.reduceSub, a2, h]))
      simp [dig, hv]
    · simp only [wCo, wFr, wOp, wBi, wLst, wLog, xB_other, Nat.reduceBEq, unT, loadP, storeP, partP, partT, partV, cellsP, mkAgg, allT, setRange, fillP, fieldA, indexS, indexA, indexV, indexStr, elems, elemsS, lenP, pickV, cviV, nckV, extV, isNil, bound, close, close1, aft, retV, retSl, one, eqT, eqs, eq1, Nat.reduceEqDiff, Nat.reduceAdd, Nat.reduceSub, Nat.reduceMul, Nat.reduceLeDiff, Nat.reduceLT, Nat.one_ne_zero, Nat.zero_ne_one, reduceIte, reduceCtorEq, bne_self_eq_false, decide_true, decide_false, Int.reduceToNat, Int.cast_ofNat_Int, Int.reduceLT, Int.reduceLE, Int.reduceEq, Int.reduceNeg, Int.reduceAdd, Int.reduceSub, a2]
      repeat' ((with_reducible first | refine xG_dec ?_ ?_ | refine xG_ndec ?_ ?_ | refine xG_nsplit ?_ ?_ | refine xG_split ?_ ?_ | refine xC_dec ?_ ?_ | refine xC_ndec ?_ ?_ | refine xC_nsplit ?_ ?_ | refine xC_split ?_ ?_) <;> intro h <;> (try simp only [wCo, wFr, wOp, wBi, wLst, wLog, xB_other, Nat.reduceBEq, unT, loadP, storeP, partP, partT, partV, cellsP, mkAgg, allT, setRange, fillP, fieldA, indexS, indexA, indexV, indexStr, elems, elemsS, lenP, pickV, cviV, nckV, extV, isNil, bound, close, close1, aft, retV, retSl, one, eqT, eqs, eq1, Nat.reduceEqDiff, Nat.reduceAdd, Nat.reduceSub, Nat.reduceMul, Nat.reduceLeDiff, Nat.reduceLT, Nat.one_ne_zero, Nat.zero_ne_one, reduceIte, reduceCtorEq, bne_self_eq_false, decide_true, decide_false, Int.reduceToNat, Int.cast_ofNat_Int, Int.reduceLT, Int.reduceLE, Int.reduceEq, Int.reduceNeg, Int.reduceAdd, Int.reduceSub, a2, h]))
      simp [dig, hv]
end
theorem law8 (t : Tab) (ht : TabWf t) : Ret F gl 8 [tTab t] (.t (.bool true)) := by
  have a11 := @ok11 gl t ht.ok
  simp only [tTab, tCells] at a11
  refine Ret.of F8 rfl ?_
  simp only [ir8]
  by_cases hs : sm t.rows.length t.rows ≤ 400
  · have a1 := @ok24 gl t ht hs
    have a2 := @ok25 gl t ht hs
    simp only [tTab, tCells] at a1 a2
    simp only [wCo, wFr, wOp, wBi, wLst, wLog, xB_other, Nat.reduceBEq, unT, loadP, storeP, partP, partT, partV, cellsP, mkAgg, allT, setRange, fillP, fieldA, indexS, indexA, indexV, indexStr, elems, elemsS, lenP, pickV, cviV, nckV, extV, isNil, bound, close, close1, aft, retV, retSl, one, eqT, eqs, eq1, Nat.reduceEqDiff, Nat.reduceAdd, Nat.reduceSub, Nat.reduceMul, Nat.reduceLeDiff, Nat.reduceLT, Nat.one_ne_zero, Nat.zero_ne_one, reduceIte, reduceCtorEq, bne_self_eq_false, decide_true, decide_false, Int.reduceToNat, Int.cast_ofNat_Int, Int.reduceLT, Int.reduceLE, Int.reduceEq, Int.reduceNeg, Int.reduceAdd, Int.reduceSub, tTab, tCells, ok10, a11, a1, a2, hs]
    repeat' ((with_reducible first | refine xG_dec ?_ ?_ | refine xG_ndec ?_ ?_ | refine xG_nsplit ?_ ?_ | refine xG_split ?_ ?_ | refine xC_dec ?_ ?_ | refine xC_ndec ?_ ?_ | refine xC_nsplit ?_ ?_ | refine xC_split ?_ ?_) <;> intro h <;> (try simp only [wCo, wFr, wOp, wBi, wLst, wLog, xB_other, Nat.reduceBEq, unT, loadP, storeP, partP, partT, partV, cellsP, mkAgg, allT, setRange, fillP, fieldA, indexS, indexA, indexV, indexStr, elems, elemsS, lenP, pickV, cviV, nckV, extV, isNil, bound, close, close1, aft, retV, retSl, one, eqT, eqs, eq1, Nat.reduceEqDiff, Nat.reduceAdd, Nat.reduceSub, Nat.reduceMul, Nat.reduceLeDiff, Nat.reduceLT, Nat.one_ne_zero, Nat.zero_ne_one, reduceIte, reduceCtorEq, bne_self_eq_false, decide_true, decide_false, Int.reduceToNat, Int.cast_ofNat_Int, Int.reduceLT, Int.reduceLE, Int.reduceEq, Int.reduceNeg, Int.reduceAdd, Int.reduceSub, tTab, tCells, ok10, a11, a1, a2, hs, h]))
  · simp only [wCo, wFr, wOp, wBi, wLst, wLog, xB_other, Nat.reduceBEq, unT, loadP, storeP, partP, partT, partV, cellsP, mkAgg, allT, setRange, fillP, fieldA, indexS, indexA, indexV, indexStr, elems, elemsS, lenP, pickV, cviV, nckV, extV, isNil, bound, close, close1, aft, retV, retSl, one, eqT, eqs, eq1, Nat.reduceEqDiff, Nat.reduceAdd, Nat.reduceSub, Nat.reduceMul, Nat.reduceLeDiff, Nat.reduceLT, Nat.one_ne_zero, Nat.zero_ne_one, reduceIte, reduceCtorEq, bne_self_eq_false, decide_true, decide_false, Int.reduceToNat, Int.cast_ofNat_Int, Int.reduceLT, Int.reduceLE, Int.reduceEq, Int.reduceNeg, Int.reduceAdd, Int.reduceSub, tTab, tCells, ok10, a11, hs]
    repeat' ((with_reducible first | refine xG_dec ?_ ?_ | refine xG_ndec ?_ ?_ | refine xG_nsplit ?_ ?_ | refine xG_split ?_ ?_ | refine xC_dec ?_ ?_ | refine xC_ndec ?_ ?_ | refine xC_nsplit ?_ ?_ | refine xC_split ?_ ?_) <;> intro h <;> (try simp only [wCo, wFr, wOp, wBi, wLst, wLog, xB_other, Nat.reduceBEq, unT, loadP, storeP, partP, partT, partV, cellsP, mkAgg, allT, setRange, fillP, fieldA, indexS, indexA, indexV, indexStr, elems, elemsS, lenP, pickV, cviV, nckV, extV, isNil, bound, close, close1, aft, retV, retSl, one, eqT, eqs, eq1, Nat.reduceEqDiff, Nat.reduceAdd, Nat.reduceSub, Nat.reduceMul, Nat.reduceLeDiff, Nat.reduceLT, Nat.one_ne_zero, Nat.zero_ne_one, reduceIte, reduceCtorEq, bne_self_eq_false, decide_true, decide_false, Int.reduceToNat, Int.cast_ofNat_Int, Int.reduceLT, Int.reduceLE, Int.reduceEq, Int.reduceNeg, Int.reduceAdd, Int.reduceSub, tTab, tCells, ok10, a11, hs, h]))
theorem args8 : ∀ xs, ArgsT 140737488355328 [(true, ctTab)] xs → ∃ n sg ow, pcall F gl n 8 (xs.map .t) [] [] = some (.t (.bool true), sg, ow) := by
  intro xs h
  obtain ⟨x, r, rfl, hx, h⟩ := argsT_cons h
  obtain rfl := argsT_nil h
  obtain ⟨t, rfl, ht⟩ := tab_of hx
  exact CallP.law (law8 t ht)
end Go.Proofs.YtbkphlhmbllbiaaDoor
