/- The laws of keys in the small language. -/
import Derived.Test.YtienhfkjhdbnbaaDoorC4
import Derived.Test.YtienhfkjhdbnbaaDoorPi31
set_option maxRecDepth 10000
set_option linter.unusedVariables false
set_option linter.unusedSimpArgs false
namespace Go.Proofs.YtienhfkjhdbnbaaDoor
open Go.Pi
variable {gl : Nat → Option (List T)}
theorem owner7 : kV 1 (kH 8 [7]) 1 ≠ 0 := by decide +kernel
theorem adr7 : adrV 7 1 = ((1, kV 1 (kH 8 [7]) 1, (enp (2, 1) (kV 10 7 1).toNat).1, (enp (2, 1) (kV 10 7 1).toNat).2), 0) := by
  have h : isN 1 = true := by decide
  rw [adrV, if_pos h]
theorem parse0 : parsA [] = (zA, 2) := by decide +kernel
theorem ok6 (G : GlK gl) {K : PV → Prop} : XcP F gl 6 [] K ⟨⟩ ↔ K (.t (.bool true)) := by
  have a1 := @ok5 gl 7 1 (by decide)
  have a2 := @ok8 gl 7 (by decide)
  have a3 := @ok7 gl (kH 8 [7]) 1 (kH_rng _ _).1
  have a4 := @ok11 gl 7 1 (by decide)
  have q := @kV_rng 10 7 1
  have a5 := @ok10 gl (kV 10 7 1) q.1 (by omega)
  have p1 := @ok15 gl G [109, 111, 105, 100, 58, 48, 58, 53, 58, 50, 58, 49] (by decide)
  have p2 := @ok15 gl G [109, 111, 105, 100, 58, 48, 48, 58, 53, 58, 50, 58, 49] (by decide)
  have p3 := @ok15 gl G [109, 111, 105, 100, 58, 52, 58, 53, 58, 50, 58, 49] (by decide)
  rw [parsA, ex1] at p1
  rw [parsA, ex2] at p2
  rw [parsA, ex3] at p3
  rw [adr7] at a1
  have ho := owner7
  simp only [aC, e2C, zA] at a1 a5 p1 p2 p3
  generalize enp (2, 1) (kV 10 7 1).toNat = W at *
  generalize kV 1 (kH 8 [7]) 1 = O at *
  generalize kV 10 7 1 = V at *
  generalize kH 8 [7] = S8 at *
  refine Ret.iff (Ret.of F6 rfl ?_)
  simp only [ir6]
  simp only [wCo, wFr, wOp, wBi, wLst, wLog, xB_other, Nat.reduceBEq, unT, loadP, storeP, partP, partT, partV, cellsP, mkAgg, allT, setRange, fillP, fieldA, indexS, indexA, indexV, indexStr, elems, lenP, pickV, cviV, nckV, extV, isNil, bound, close, close1, aft, retV, retSl, Go.Pi.one, eqT, eqs, eq1, Nat.reduceEqDiff, Nat.reduceAdd, Nat.reduceSub, Nat.reduceMul, Nat.reduceLeDiff, Nat.reduceLT, Nat.one_ne_zero, Nat.zero_ne_one, reduceIte, reduceCtorEq, bne_self_eq_false, decide_true, decide_false, Int.reduceToNat, Int.cast_ofNat_Int, Int.reduceLT, Int.reduceLE, Int.reduceEq, Int.reduceNeg, Int.reduceAdd, Int.reduceSub, a1, a2, a3, a4, a5, p1, p2, p3, ho, beq_self_eq_true, Bool.and_self]
  repeat' ((with_reducible first | refine xG_dec ?_ ?_ | refine xG_ndec ?_ ?_ | refine xG_nsplit ?_ ?_ | refine xG_split ?_ ?_ | refine xC_dec ?_ ?_ | refine xC_ndec ?_ ?_ | refine xC_nsplit ?_ ?_ | refine xC_split ?_ ?_) <;> intro h <;> (try simp only [wCo, wFr, wOp, wBi, wLst, wLog, xB_other, Nat.reduceBEq, unT, loadP, storeP, partP, partT, partV, cellsP, mkAgg, allT, setRange, fillP, fieldA, indexS, indexA, indexV, indexStr, elems, lenP, pickV, cviV, nckV, extV, isNil, bound, close, close1, aft, retV, retSl, Go.Pi.one, eqT, eqs, eq1, Nat.reduceEqDiff, Nat.reduceAdd, Nat.reduceSub, Nat.reduceMul, Nat.reduceLeDiff, Nat.reduceLT, Nat.one_ne_zero, Nat.zero_ne_one, reduceIte, reduceCtorEq, bne_self_eq_false, decide_true, decide_false, Int.reduceToNat, Int.cast_ofNat_Int, Int.reduceLT, Int.reduceLE, Int.reduceEq, Int.reduceNeg, Int.reduceAdd, Int.reduceSub, a1, a2, a3, a4, a5, p1, p2, p3, ho, beq_self_eq_true, Bool.and_self, h]))
theorem args_adr {x : T} (hx : ArgT 140737488355328 (true, [.int .i64, .int .u64, .int .u64, .int .u64]) x) : ∃ a, x = .agg (aC a) ∧ okA a := by
  obtain ⟨xs, rfl, h⟩ := argT_agg hx
  obtain ⟨a, r, rfl, ha, h⟩ := wts_cons h
  obtain ⟨b, r, rfl, hb, h⟩ := wts_cons h
  obtain ⟨c, r, rfl, hc, h⟩ := wts_cons h
  obtain ⟨d, r, rfl, hd, h⟩ := wts_cons h
  obtain rfl := wts_nil h
  obtain ⟨a', rfl, a1, a2⟩ := wt_i64 ha
  obtain ⟨b', rfl, b1, b2⟩ := wt_u64 hb
  obtain ⟨c', rfl, c1, c2⟩ := wt_u64 hc
  obtain ⟨d', rfl, d1, d2⟩ := wt_u64 hd
  exact ⟨(a', b', c', d'), rfl, b1, b2, c1, c2, d1, d2⟩
theorem kV_mod (label x n : Int) : kV label (x % 18446744069414584321) n = kV label x n := by
  unfold kV
  split
  · rw [← kH_mod label [x, n], ← kH_mod label [x % 18446744069414584321, n]]
    simp only [List.map_cons, List.map_nil, Int.emod_emod]
  · rfl
theorem kH1_mod (label x : Int) : kH label [x % 18446744069414584321] = kH label [x] := kH_mod label [x]
theorem adrV_mod (x n : Int) : adrV (x % 18446744069414584321) n = adrV x n := by
  unfold adrV
  rw [kV_mod, kH1_mod]
theorem law4 (G : GlK gl) (x n : Int) (x0 : 0 ≤ x) : Ret F gl 4 [.int .u64 x, .int .i64 n] (.t (.bool true)) := by
  have m0 : 0 ≤ x % 18446744069414584321 := modB
  have t : x.tmod 18446744069414584321 = x % 18446744069414584321 := Int.tmod_eq_emod_of_nonneg x0
  have c : ¬ ((18446744069414584321 : Int) = 0) := by decide
  have a1 := @ok5 gl x n x0
  have a2 := @ok5 gl (x % 18446744069414584321) n m0
  have b1 := @ok8 gl x x0
  have b2 := @ok8 gl (x % 18446744069414584321) m0
  have c1 := @ok12 gl x x0
  have c2 := @ok12 gl (x % 18446744069414584321) m0
  have d1 := @ok13 gl x x0
  have d2 := @ok13 gl (x % 18446744069414584321) m0
  have e1 := @ok11 gl x n x0
  have e2 := @ok11 gl (x % 18446744069414584321) n m0
  have f1 := @ok7 gl x n x0
  have f2 := @ok7 gl (x % 18446744069414584321) n m0
  rw [adrV_mod] at a2
  rw [kH1_mod] at b2 c2 d2
  rw [kV_mod] at e2 f2
  simp only [aC] at a1 a2
  refine Ret.of F4 rfl ?_
  simp only [ir4]
  generalize adrV x n = Z at *
  obtain ⟨A, e⟩ := Z
  generalize x % 18446744069414584321 = y at *
  simp only [wCo, wFr, wOp, wBi, wLst, wLog, xB_other, Nat.reduceBEq, unT, loadP, storeP, partP, partT, partV, cellsP, mkAgg, allT, setRange, fillP, fieldA, indexS, indexA, indexV, indexStr, elems, lenP, pickV, cviV, nckV, extV, isNil, bound, close, close1, aft, retV, retSl, Go.Pi.one, eqT, eqs, eq1, Nat.reduceEqDiff, Nat.reduceAdd, Nat.reduceSub, Nat.reduceMul, Nat.reduceLeDiff, Nat.reduceLT, Nat.one_ne_zero, Nat.zero_ne_one, reduceIte, reduceCtorEq, bne_self_eq_false, decide_true, decide_false, Int.reduceToNat, Int.cast_ofNat_Int, Int.reduceLT, Int.reduceLE, Int.reduceEq, Int.reduceNeg, Int.reduceAdd, Int.reduceSub, ok6 G, c, t, a1, a2, b1, b2, c1, c2, d1, d2, e1, e2, f1, f2, beq_self_eq_true, Bool.and_self]
  repeat' ((with_reducible first | refine xG_dec ?_ ?_ | refine xG_ndec ?_ ?_ | refine xG_nsplit ?_ ?_ | refine xG_split ?_ ?_ | refine xC_dec ?_ ?_ | refine xC_ndec ?_ ?_ | refine xC_nsplit ?_ ?_ | refine xC_split ?_ ?_) <;> intro h <;> (try simp only [wCo, wFr, wOp, wBi, wLst, wLog, xB_other, Nat.reduceBEq, unT, loadP, storeP, partP, partT, partV, cellsP, mkAgg, allT, setRange, fillP, fieldA, indexS, indexA, indexV, indexStr, elems, lenP, pickV, cviV, nckV, extV, isNil, bound, close, close1, aft, retV, retSl, Go.Pi.one, eqT, eqs, eq1, Nat.reduceEqDiff, Nat.reduceAdd, Nat.reduceSub, Nat.reduceMul, Nat.reduceLeDiff, Nat.reduceLT, Nat.one_ne_zero, Nat.zero_ne_one, reduceIte, reduceCtorEq, bne_self_eq_false, decide_true, decide_false, Int.reduceToNat, Int.cast_ofNat_Int, Int.reduceLT, Int.reduceLE, Int.reduceEq, Int.reduceNeg, Int.reduceAdd, Int.reduceSub, ok6 G, c, t, a1, a2, b1, b2, c1, c2, d1, d2, e1, e2, f1, f2, beq_self_eq_true, Bool.and_self, h]))
theorem law3 (G : GlK gl) (x k e : Int) (x0 : 0 ≤ x) (k0 : 0 ≤ k) (k1 : k ≤ 255) (e0 : 0 ≤ e) (e1 : e ≤ 18446744073709551615) : Ret F gl 3 [.int .u64 x, .int .u8 k, .int .u64 e] (.t (.bool true)) := by
  have w : IntKind.i64.wrap k = k := IntWalk.i64_in _ (by omega)
  have t : k.tmod 4 = k % 4 := Int.tmod_eq_emod_of_nonneg k0
  have c : ¬ ((4 : Int) = 0) := by decide
  have hn : isN (k % 4) = true := by simp only [isN, Bool.and_eq_true, decide_eq_true_eq]; omega
  have a1 := @ok5 gl x (k % 4) x0
  have hA : adrV x (k % 4) = ((k % 4, kV 1 (kH 8 [x]) (k % 4), (enp (2, 1) (kV 10 x (k % 4)).toNat).1, (enp (2, 1) (kV 10 x (k % 4)).toNat).2), 0) := by rw [adrV, if_pos hn]
  rw [hA] at a1
  have b1 := @ok8 gl x x0
  have b2 := @ok7 gl (kH 8 [x]) (k % 4) (kH_rng _ _).1
  have b3 := @ok11 gl x (k % 4) x0
  have q := @kV_rng 10 x (k % 4)
  have p1 := @ok10 gl e e0 e1
  have s1 := @ok9 gl (enp (2, 1) (kV 10 x (k % 4)).toNat) e (red_nn (enp_red _ _)) (base_vE _) e0 e1
  have s2 := @ok9 gl (enp (2, 1) e.toNat) (kV 10 x (k % 4)) (red_nn (enp_red _ _)) (base_vE _) q.1 (by omega)
  rw [enp_swap] at s2
  simp only [aC, e2C] at a1 p1 s1 s2
  refine Ret.of F3 rfl ?_
  simp only [ir3]
  generalize k % 4 = n at *
  generalize kV 10 x n = V at *
  generalize kH 8 [x] = H8 at *
  generalize kV 1 H8 n = O at *
  generalize enp (enp (2, 1) V.toNat) e.toNat = Z at *
  generalize enp (2, 1) V.toNat = B at *
  generalize enp (2, 1) e.toNat = C at *
  simp only [wCo, wFr, wOp, wBi, wLst, wLog, xB_other, Nat.reduceBEq, unT, loadP, storeP, partP, partT, partV, cellsP, mkAgg, allT, setRange, fillP, fieldA, indexS, indexA, indexV, indexStr, elems, lenP, pickV, cviV, nckV, extV, isNil, bound, close, close1, aft, retV, retSl, Go.Pi.one, eqT, eqs, eq1, Nat.reduceEqDiff, Nat.reduceAdd, Nat.reduceSub, Nat.reduceMul, Nat.reduceLeDiff, Nat.reduceLT, Nat.one_ne_zero, Nat.zero_ne_one, reduceIte, reduceCtorEq, bne_self_eq_false, decide_true, decide_false, Int.reduceToNat, Int.cast_ofNat_Int, Int.reduceLT, Int.reduceLE, Int.reduceEq, Int.reduceNeg, Int.reduceAdd, Int.reduceSub, ok6 G, c, t, w, a1, b1, b2, b3, p1, s1, s2, beq_self_eq_true, Bool.and_self]
  repeat' ((with_reducible first | refine xG_dec ?_ ?_ | refine xG_ndec ?_ ?_ | refine xG_nsplit ?_ ?_ | refine xG_split ?_ ?_ | refine xC_dec ?_ ?_ | refine xC_ndec ?_ ?_ | refine xC_nsplit ?_ ?_ | refine xC_split ?_ ?_) <;> intro h <;> (try simp only [wCo, wFr, wOp, wBi, wLst, wLog, xB_other, Nat.reduceBEq, unT, loadP, storeP, partP, partT, partV, cellsP, mkAgg, allT, setRange, fillP, fieldA, indexS, indexA, indexV, indexStr, elems, lenP, pickV, cviV, nckV, extV, isNil, bound, close, close1, aft, retV, retSl, Go.Pi.one, eqT, eqs, eq1, Nat.reduceEqDiff, Nat.reduceAdd, Nat.reduceSub, Nat.reduceMul, Nat.reduceLeDiff, Nat.reduceLT, Nat.one_ne_zero, Nat.zero_ne_one, reduceIte, reduceCtorEq, bne_self_eq_false, decide_true, decide_false, Int.reduceToNat, Int.cast_ofNat_Int, Int.reduceLT, Int.reduceLE, Int.reduceEq, Int.reduceNeg, Int.reduceAdd, Int.reduceSub, ok6 G, c, t, w, a1, b1, b2, b3, p1, s1, s2, beq_self_eq_true, Bool.and_self, h]))
theorem args4 (G : GlK gl) : ∀ xs, ArgsT 140737488355328 [(false, [.int .u64]), (false, [.int .i64])] xs → ∃ n sg ow, pcall F gl n 4 (xs.map .t) [] [] = some (.t (.bool true), sg, ow) := by
  intro xs h
  obtain ⟨x, r, rfl, hx, h⟩ := argsT_cons h
  obtain ⟨y, r, rfl, hy, h⟩ := argsT_cons h
  obtain rfl := argsT_nil h
  obtain ⟨m, rfl, h1, h2⟩ := wt_u64 (argT_one hx)
  obtain ⟨k, rfl, h3, h4⟩ := wt_i64 (argT_one hy)
  exact CallP.law (law4 G m k h1)
theorem args3 (G : GlK gl) : ∀ xs, ArgsT 140737488355328 [(false, [.int .u64]), (false, [.int .u8]), (false, [.int .u64])] xs → ∃ n sg ow, pcall F gl n 3 (xs.map .t) [] [] = some (.t (.bool true), sg, ow) := by
  intro xs h
  obtain ⟨x, r, rfl, hx, h⟩ := argsT_cons h
  obtain ⟨y, r, rfl, hy, h⟩ := argsT_cons h
  obtain ⟨z, r, rfl, hz, h⟩ := argsT_cons h
  obtain rfl := argsT_nil h
  obtain ⟨m, rfl, h1, h2⟩ := wt_u64 (argT_one hx)
  obtain ⟨k, rfl, h3, h4⟩ := wt_u8 (argT_one hy)
  obtain ⟨e, rfl, h5, h6⟩ := wt_u64 (argT_one hz)
  exact CallP.law (law3 G m k e h1 h3 h4 h5 h6)
end Go.Proofs.YtienhfkjhdbnbaaDoor
