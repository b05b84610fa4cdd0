/- Contracts: comparisons, lists, calls. -/
import Derived.Test.YtdjcnfacjfnakaaK8
set_option maxRecDepth 10000
set_option linter.unusedVariables false
set_option linter.unusedSimpArgs false
namespace Go.Proofs.Ytdjcnfacjfnakaa
open Go.Pi Go.Lx Go.Ky Go.Lib
variable {gl : Nat → Option (List T)}

theorem ok69 {sg : Sg} {c f n : Nat} {fs : Fs} {ns : Ns} {od : PV} {w : Int} (hk : Ck sg c f n fs ns od w) (x y : Ty) (ow : Ow) :
    CallE F gl 69 [.lp c 0, .t (.agg (tTy x)), .t (.agg (tTy y))] sg ow fun v sg' ow' => v = tRt (compM x y w).1 ∧ sg'[c]? = some (false, [.mp f, .mp n, od, .t (.int .i64 (compM x y w).2)]) ∧ Fr c sg sg' := by
  refine XcE.of F69 rfl ?_
  simp only [ir69]
  have hcl := lt_of_get hk.c
  have hc := hk.c
  have bad' : ∀ r, sg ++ r = sg ++ r := fun _ => rfl
  unfold compM mx
  simp only [wCo, wFr, wOp, wBi, wLst, wLog, xB_other, Nat.reduceBEq, unT, loadP, storeP, partP, partT, partV, cellsP, mkAgg, allT, setRange, fillP, fieldA, indexS, indexA, indexV, indexStr, elems, lenP, pickV, cviV, nckV, extV, isNil, bound, close, close1, aft, retV, retSl, Go.Pi.one, eqT, eqs, eq1, Nat.reduceEqDiff, Nat.reduceAdd, Nat.reduceSub, Nat.reduceMul, Nat.reduceLeDiff, Nat.reduceLT, Nat.one_ne_zero, Nat.zero_ne_one, reduceIte, reduceCtorEq, bne_self_eq_false, decide_true, decide_false, Int.reduceToNat, Int.cast_ofNat_Int, Int.reduceLT, Int.reduceLE, Int.reduceEq, Int.reduceNeg, Int.reduceAdd, Int.reduceSub, app_get hcl, app_set hcl, hc, gs0, gsk, ss0, ssk, mxT, ok61, xR_ct]
  repeat' ((with_reducible first | refine xG_dec ?_ ?_ | refine xG_ndec ?_ ?_ | refine xG_nsplit ?_ ?_ | refine xG_split ?_ ?_ | refine xC_dec ?_ ?_ | refine xC_ndec ?_ ?_ | refine xC_nsplit ?_ ?_ | refine xC_split ?_ ?_) <;> intro h <;> (try simp only [wCo, wFr, wOp, wBi, wLst, wLog, xB_other, Nat.reduceBEq, unT, loadP, storeP, partP, partT, partV, cellsP, mkAgg, allT, setRange, fillP, fieldA, indexS, indexA, indexV, indexStr, elems, lenP, pickV, cviV, nckV, extV, isNil, bound, close, close1, aft, retV, retSl, Go.Pi.one, eqT, eqs, eq1, Nat.reduceEqDiff, Nat.reduceAdd, Nat.reduceSub, Nat.reduceMul, Nat.reduceLeDiff, Nat.reduceLT, Nat.one_ne_zero, Nat.zero_ne_one, reduceIte, reduceCtorEq, bne_self_eq_false, decide_true, decide_false, Int.reduceToNat, Int.cast_ofNat_Int, Int.reduceLT, Int.reduceLE, Int.reduceEq, Int.reduceNeg, Int.reduceAdd, Int.reduceSub, app_get hcl, app_set hcl, hc, gs0, gsk, ss0, ssk, mxT, ok61, xR_ct, h]))
  all_goals simp only [tRt, bad, zTy, boolT]
  all_goals simp_all [app_get hcl, gsc hcl]
  all_goals first | exact Fr.of (.app _ _) | exact Fr.setapp _ _ _ _ | skip
theorem loop67 {v : PV} {ts : List Ty} {a0 : Ty} (h0 : ts[0]? = some a0) (hn : ts.length ≤ B47) {sg0 : Sg} (hs : SlT sg0 v ts) {b2 b4 : Nat} (hlt : ∀ a m, v = .ls a 0 m 3 → a ≠ b4) (hb : b2 ≠ b4) (hb4 : b4 < sg0.length) (h2 : sg0[b2]? = some (false, [.t (.int .i64 0), .t (.int .i64 0), .t (.int .i64 0)])) {ow : Ow} (Q : Ex → S → Prop) : ∀ (l : List Ty) (i : Nat) (r : Ty) (fr : List PV) (sg : Sg), ts.drop i = l → Fr b4 sg0 sg → sg[b4]? = some (false, cTy r) →
    FrAt fr [(0, v), (2, .lp b2 0), (4, .lp b4 0), (10, v), (11, .t (.int .i64 ts.length)), (12, .t (.int .i64 i))] →
    (∀ r', listGo a0 l r = some r' → ∀ fr' sg', Fr b4 sg0 sg' → sg'[b4]? = some (false, cTy r') → FrAt fr' [(0, v), (2, .lp b2 0), (4, .lp b4 0)] → Q (.exit 0) ⟨fr', sg', ow⟩) →
    (listGo a0 l r = none → ∀ fr' sg', Fr b4 sg0 sg' → fget fr' 2 = .lp b2 0 → fget fr' 3 = .t (.int .i64 6) → Q .ret ⟨fr', sg', ow⟩) →
    Xl F gl lb67_0 ⟨fr, sg, ow⟩ Q ⟨⟩ := by
  intro l
  induction l with
  | nil =>
    intro i r fr sg hd hg hr4 hf k1 k2
    have hd := drop_nil' hd
    simp only [FrAt_cons, FrAt_nil] at hf
    obtain ⟨f0, f2, f4, f10, f11, f12, -⟩ := hf
    refine Xl.step ?_
    simp only [lb67_0]
    have c1 : ¬ ((i : Int) < (ts.length : Int)) := by omega
    simp only [wCo, wFr, wOp, wBi, wLst, wLog, xB_other, Nat.reduceBEq, unT, loadP, storeP, partP, partT, partV, cellsP, mkAgg, allT, setRange, fillP, fieldA, indexS, indexA, indexV, indexStr, elems, lenP, pickV, cviV, nckV, extV, isNil, bound, close, close1, aft, retV, retSl, Go.Pi.one, eqT, eqs, eq1, Nat.reduceEqDiff, Nat.reduceAdd, Nat.reduceSub, Nat.reduceMul, Nat.reduceLeDiff, Nat.reduceLT, Nat.one_ne_zero, Nat.zero_ne_one, reduceIte, reduceCtorEq, bne_self_eq_false, decide_true, decide_false, Int.reduceToNat, Int.cast_ofNat_Int, Int.reduceLT, Int.reduceLE, Int.reduceEq, Int.reduceNeg, Int.reduceAdd, Int.reduceSub, f0, f2, f4, f10, f11, f12, c1]
    exact k1 r rfl _ _ hg hr4 (by simp only [FrAt_cons, FrAt_nil, wFr, Nat.reduceEqDiff, Nat.one_ne_zero, Nat.zero_ne_one, reduceIte, and_self, and_true, true_and, f0, f2, f4])
  | cons t l ih =>
    intro i r fr sg hd hg hr4 hf k1 k2
    obtain ⟨hx, hr, hi⟩ := drop_cons hd
    simp only [FrAt_cons, FrAt_nil] at hf
    obtain ⟨f0, f2, f4, f10, f11, f12, -⟩ := hf
    rcases hs with ⟨rfl, _⟩ | ⟨a, cs, rfl, ha, hcl, hcs⟩
    · simp at hx
    have hab := hlt a _ rfl
    refine Xl.step ?_
    simp only [lb67_0]
    have c1 : (i : Int) < (ts.length : Int) := by omega
    have hpos : 0 < ts.length := by omega
    have hw1 := i64_succ hi (show ts.length ≤ 281474976710656 by have : B47 = 140737488355328 := rfl; omega)
    have ha' := hg.get ha hab
    have hal := lt_of_get ha'
    have h2' := hg.get h2 hb
    have h2l := lt_of_get h2'
    have h4l := lt_of_get hr4
    have hle : i * 3 + 3 ≤ cs.length := by omega
    have hle0 : 3 ≤ cs.length := by omega
    have hc := hcs i t hx
    have hc0 : cs.take 3 = [.t (.int .i64 a0.kind), .t (.int .i64 a0.bits), .t (.int .i64 a0.len)] := by simpa using hcs 0 a0 h0
    by_cases ht : t.len = 0
    · have hgo : listGo a0 (t :: l) r = if t ≠ a0 then listGo a0 l fieldT else listGo a0 l r := by
        show (if t.len ≠ 0 then none else _) = _
        rw [if_neg (by simpa using ht)]
      by_cases hta : t = a0
      · rw [if_neg (by simpa using hta)] at hgo
        subst hta
        simp only [wCo, wFr, wOp, wBi, wLst, wLog, xB_other, Nat.reduceBEq, unT, loadP, storeP, partP, partT, partV, cellsP, mkAgg, allT, setRange, fillP, fieldA, indexS, indexA, indexV, indexStr, elems, lenP, pickV, cviV, nckV, extV, isNil, bound, close, close1, aft, retV, retSl, Go.Pi.one, eqT, eqs, eq1, Nat.reduceEqDiff, Nat.reduceAdd, Nat.reduceSub, Nat.reduceMul, Nat.reduceLeDiff, Nat.reduceLT, Nat.one_ne_zero, Nat.zero_ne_one, reduceIte, reduceCtorEq, bne_self_eq_false, decide_true, decide_false, Int.reduceToNat, Int.cast_ofNat_Int, Int.reduceLT, Int.reduceLE, Int.reduceEq, Int.reduceNeg, Int.reduceAdd, Int.reduceSub, f0, f2, f4, f10, f11, f12, c1, hw1, Int.toNat_natCast, hi, hpos, ha', hle, hle0, hc, hc0, ht, app_get hal, beq_self_eq_true, Bool.and_self]
        refine ih (i + 1) r _ _ hr (hg.app _) (get_more hr4) (by simp only [FrAt_cons, FrAt_nil, wFr, Nat.reduceEqDiff, Nat.one_ne_zero, Nat.zero_ne_one, reduceIte, and_self, and_true, true_and, f0, f2, f4, f10, f11]) (fun r' e => k1 r' (by rw [hgo]; exact e)) (fun e => k2 (by rw [hgo]; exact e))
      · rw [if_pos hta] at hgo
        have hq : (t.kind == a0.kind && (t.bits == a0.bits && t.len == a0.len)) = false := by rw [ty_beq2]; simpa using hta
        rw [ht] at hq
        simp only [wCo, wFr, wOp, wBi, wLst, wLog, xB_other, Nat.reduceBEq, unT, loadP, storeP, partP, partT, partV, cellsP, mkAgg, allT, setRange, fillP, fieldA, indexS, indexA, indexV, indexStr, elems, lenP, pickV, cviV, nckV, extV, isNil, bound, close, close1, aft, retV, retSl, Go.Pi.one, eqT, eqs, eq1, Nat.reduceEqDiff, Nat.reduceAdd, Nat.reduceSub, Nat.reduceMul, Nat.reduceLeDiff, Nat.reduceLT, Nat.one_ne_zero, Nat.zero_ne_one, reduceIte, reduceCtorEq, bne_self_eq_false, decide_true, decide_false, Int.reduceToNat, Int.cast_ofNat_Int, Int.reduceLT, Int.reduceLE, Int.reduceEq, Int.reduceNeg, Int.reduceAdd, Int.reduceSub, f0, f2, f4, f10, f11, f12, c1, hw1, Int.toNat_natCast, hi, hpos, ha', hle, hle0, hc, hc0, ht, app_get hal, app_get h4l, app_set h4l, hr4, hq, Bool.and_true, ok61]
        refine ih (i + 1) fieldT _ _ hr (hg.trans (Fr.setapp _ _ _ _)) (gsc h4l) (by simp only [FrAt_cons, FrAt_nil, wFr, Nat.reduceEqDiff, Nat.one_ne_zero, Nat.zero_ne_one, reduceIte, and_self, and_true, true_and, f0, f2, f4, f10, f11]) (fun r' e => k1 r' (by rw [hgo]; exact e)) (fun e => k2 (by rw [hgo]; exact e))
    · have hgo : listGo a0 (t :: l) r = none := by
        show (if t.len ≠ 0 then none else _) = _
        rw [if_pos ht]
      simp only [wCo, wFr, wOp, wBi, wLst, wLog, xB_other, Nat.reduceBEq, unT, loadP, storeP, partP, partT, partV, cellsP, mkAgg, allT, setRange, fillP, fieldA, indexS, indexA, indexV, indexStr, elems, lenP, pickV, cviV, nckV, extV, isNil, bound, close, close1, aft, retV, retSl, Go.Pi.one, eqT, eqs, eq1, Nat.reduceEqDiff, Nat.reduceAdd, Nat.reduceSub, Nat.reduceMul, Nat.reduceLeDiff, Nat.reduceLT, Nat.one_ne_zero, Nat.zero_ne_one, reduceIte, reduceCtorEq, bne_self_eq_false, decide_true, decide_false, Int.reduceToNat, Int.cast_ofNat_Int, Int.reduceLT, Int.reduceLE, Int.reduceEq, Int.reduceNeg, Int.reduceAdd, Int.reduceSub, f0, f2, f4, f10, f11, f12, c1, Int.toNat_natCast, hi, hpos, ha', hle, hle0, hc, ht, app_get h2l, app_set h2l, h2']
      refine k2 hgo _ _ ?_ (by simp only [FrAt_cons, FrAt_nil, wFr, Nat.reduceEqDiff, Nat.one_ne_zero, Nat.zero_ne_one, reduceIte, and_self, and_true, true_and, f2]) (by simp only [FrAt_cons, FrAt_nil, wFr, Nat.reduceEqDiff, Nat.one_ne_zero, Nat.zero_ne_one, reduceIte, and_self, and_true, true_and])
      rw [set_same h2']
      exact hg.app _
theorem ok67 {v : PV} {ts : List Ty} (hne : 0 < ts.length) (hn : ts.length ≤ B47) {sg : Sg} (hs : SlT sg v ts) (ow : Ow) :
    CallE F gl 67 [v] sg ow fun x sg' ow' => x = tRt (listM ts) ∧ Grow sg sg' := by
  obtain ⟨a0, h0⟩ : ∃ a0, ts[0]? = some a0 := ⟨ts[0], List.getElem?_eq_getElem hne⟩
  refine XcE.of F67 rfl ?_
  simp only [ir67]
  have hs' := hs
  rcases hs with ⟨rfl, _⟩ | ⟨a, cs, rfl, ha, hcl, hcs⟩
  · simp at hne
  have hal := lt_of_get ha
  have hle0 : 3 ≤ cs.length := by omega
  have hc0 : cs.take 3 = [.t (.int .i64 a0.kind), .t (.int .i64 a0.bits), .t (.int .i64 a0.len)] := by simpa using hcs 0 a0 h0
  have hlm : listM ts = match listGo a0 ts a0 with
    | none => bad 6
    | some r => (⟨r.kind, r.bits, (ts.length : Int)⟩, 0) := by
    cases ts with
    | nil => simp at hne
    | cons x r => simp at h0; subst h0; rfl
  simp only [wCo, wFr, wOp, wBi, wLst, wLog, xB_other, Nat.reduceBEq, unT, loadP, storeP, partP, partT, partV, cellsP, mkAgg, allT, setRange, fillP, fieldA, indexS, indexA, indexV, indexStr, elems, lenP, pickV, cviV, nckV, extV, isNil, bound, close, close1, aft, retV, retSl, Go.Pi.one, eqT, eqs, eq1, Nat.reduceEqDiff, Nat.reduceAdd, Nat.reduceSub, Nat.reduceMul, Nat.reduceLeDiff, Nat.reduceLT, Nat.one_ne_zero, Nat.zero_ne_one, reduceIte, reduceCtorEq, bne_self_eq_false, decide_true, decide_false, Int.reduceToNat, Int.cast_ofNat_Int, Int.reduceLT, Int.reduceLE, Int.reduceEq, Int.reduceNeg, Int.reduceAdd, Int.reduceSub, app_get hal, ha, hne, hle0, hc0]
  have g0 : Grow sg (sg ++ [(false, [.t (.int .i64 0), .t (.int .i64 0), .t (.int .i64 0)]), (false, cTy a0)]) := .app _ _
  have i2 : (sg ++ [(false, [.t (.int .i64 0), .t (.int .i64 0), .t (.int .i64 0)]), (false, cTy a0)])[sg.length]? = some (false, [.t (.int .i64 0), .t (.int .i64 0), .t (.int .i64 0)]) := by simp
  have i4 : (sg ++ [(false, [.t (.int .i64 0), .t (.int .i64 0), .t (.int .i64 0)]), (false, cTy a0)])[sg.length + 1]? = some (false, cTy a0) := by simp
  refine loop67 h0 hn (hs'.grow g0) (b2 := sg.length) (b4 := sg.length + 1) (fun a' m e => by injection e with e; omega) (by omega) (lt_of_get i4) i2 _ ts 0 a0 _ _ rfl (Fr.refl _ _) i4 (by simp only [FrAt_cons, FrAt_nil, wFr, Nat.reduceEqDiff, Nat.one_ne_zero, Nat.zero_ne_one, reduceIte, and_self, and_true, true_and]; first | done | rfl) ?_ ?_
  · intro r' hr' fr' sg' hg h4 hf
    simp only [FrAt_cons, FrAt_nil] at hf
    obtain ⟨f0, f2, f4, -⟩ := hf
    have j2 := hg.get i2 (by omega)
    have l2 := lt_of_get j2
    have l4 := lt_of_get h4
    have ne1 : ¬ sg.length + 1 = sg.length := by omega
    have s2 : ∀ x, (sg'.set (sg.length + 1) x)[sg.length]? = some (false, [.t (.int .i64 0), .t (.int .i64 0), .t (.int .i64 0)]) := fun x => by rw [List.getElem?_set_ne (by omega)]; exact j2
    simp only [wCo, wFr, wOp, wBi, wLst, wLog, xB_other, Nat.reduceBEq, unT, loadP, storeP, partP, partT, partV, cellsP, mkAgg, allT, setRange, fillP, fieldA, indexS, indexA, indexV, indexStr, elems, lenP, pickV, cviV, nckV, extV, isNil, bound, close, close1, aft, retV, retSl, Go.Pi.one, eqT, eqs, eq1, Nat.reduceEqDiff, Nat.reduceAdd, Nat.reduceSub, Nat.reduceMul, Nat.reduceLeDiff, Nat.reduceLT, Nat.one_ne_zero, Nat.zero_ne_one, reduceIte, reduceCtorEq, bne_self_eq_false, decide_true, decide_false, Int.reduceToNat, Int.cast_ofNat_Int, Int.reduceLT, Int.reduceLE, Int.reduceEq, Int.reduceNeg, Int.reduceAdd, Int.reduceSub, f0, f2, f4, h4, get_set h4, s2, get_set (s2 _), xR_ct]
    rw [hlm, hr']
    refine ⟨rfl, ?_⟩
    refine grow_of fun i hi => ?_
    rw [List.getElem?_set_ne (by omega), List.getElem?_set_ne (by omega), hg.2 i (by simp; omega) (by omega)]
    exact List.getElem?_append_left hi
  · intro hr' fr' sg' hg f2 f3
    have j2 := hg.get i2 (by omega)
    simp only [wCo, wFr, wOp, wBi, wLst, wLog, xB_other, Nat.reduceBEq, unT, loadP, storeP, partP, partT, partV, cellsP, mkAgg, allT, setRange, fillP, fieldA, indexS, indexA, indexV, indexStr, elems, lenP, pickV, cviV, nckV, extV, isNil, bound, close, close1, aft, retV, retSl, Go.Pi.one, eqT, eqs, eq1, Nat.reduceEqDiff, Nat.reduceAdd, Nat.reduceSub, Nat.reduceMul, Nat.reduceLeDiff, Nat.reduceLT, Nat.one_ne_zero, Nat.zero_ne_one, reduceIte, reduceCtorEq, bne_self_eq_false, decide_true, decide_false, Int.reduceToNat, Int.cast_ofNat_Int, Int.reduceLT, Int.reduceLE, Int.reduceEq, Int.reduceNeg, Int.reduceAdd, Int.reduceSub, f2, f3, j2, xR_ct]
    rw [hlm, hr']
    exact ⟨rfl, hg.grow g0 (by omega)⟩
abbrev cFu (f : Fu) : List PV := [.t (.str f.name), .t (.sl f.pnl (f.params.map tPa)), .t (.int .i64 f.res.kind), .t (.int .i64 f.res.bits), .t (.int .i64 f.res.len), .t (.sl f.bnl (tSts f.body)), .t (.int .i64 f.ret.op), .t (.int .u64 f.ret.val), .t (.str f.ret.name), .t (.sl f.ret.nl (tExs f.ret.args))]
theorem loop64 {v : PV} {ts : List Ty} {ps : List Pa} {pnl : Bool} (hn : ts.length ≤ B47) (hps : ps.length = ts.length) {sg0 : Sg} (hs : SlT sg0 v ts) {b6 b8 : Nat} {cl : List PV} (h6 : sg0[b6]? = some (false, [.t (.int .i64 0), .t (.int .i64 0), .t (.int .i64 0)])) (h8 : sg0[b8]? = some (false, cl)) (hcl : cl[1]? = some (.t (.sl pnl (ps.map tPa)))) {ow : Ow} (Q : Ex → S → Prop) : ∀ (l : List Ty) (qs : List Pa) (i : Nat) (fr : List PV) (sg : Sg), ts.drop i = l → ps.drop i = qs → Grow sg0 sg →
    FrAt fr [(6, .lp b6 0), (8, .lp b8 0), (31, v), (32, .t (.int .i64 ts.length)), (33, .t (.int .i64 i))] →
    (callFit l qs = true → ∀ fr' sg', Grow sg0 sg' → FrAt fr' [(6, .lp b6 0), (8, .lp b8 0)] → Q (.exit 0) ⟨fr', sg', ow⟩) →
    (callFit l qs = false → ∀ fr' sg', Grow sg0 sg' → fget fr' 6 = .lp b6 0 → fget fr' 7 = .t (.int .i64 6) → Q .ret ⟨fr', sg', ow⟩) →
    Xl F gl lb64_0 ⟨fr, sg, ow⟩ Q ⟨⟩ := by
  intro l
  induction l with
  | nil =>
    intro qs i fr sg hd hq hg hf k1 k2
    have hd := drop_nil' hd
    simp only [FrAt_cons, FrAt_nil] at hf
    obtain ⟨f6, f8, f31, f32, f33, -⟩ := hf
    refine Xl.step ?_
    simp only [lb64_0]
    have c1 : ¬ ((i : Int) < (ts.length : Int)) := by omega
    simp only [wCo, wFr, wOp, wBi, wLst, wLog, xB_other, Nat.reduceBEq, unT, loadP, storeP, partP, partT, partV, cellsP, mkAgg, allT, setRange, fillP, fieldA, indexS, indexA, indexV, indexStr, elems, lenP, pickV, cviV, nckV, extV, isNil, bound, close, close1, aft, retV, retSl, Go.Pi.one, eqT, eqs, eq1, Nat.reduceEqDiff, Nat.reduceAdd, Nat.reduceSub, Nat.reduceMul, Nat.reduceLeDiff, Nat.reduceLT, Nat.one_ne_zero, Nat.zero_ne_one, reduceIte, reduceCtorEq, bne_self_eq_false, decide_true, decide_false, Int.reduceToNat, Int.cast_ofNat_Int, Int.reduceLT, Int.reduceLE, Int.reduceEq, Int.reduceNeg, Int.reduceAdd, Int.reduceSub, f6, f8, f31, f32, f33, c1]
    exact k1 rfl _ _ hg (by simp only [FrAt_cons, FrAt_nil, wFr, Nat.reduceEqDiff, Nat.one_ne_zero, Nat.zero_ne_one, reduceIte, and_self, and_true, true_and, f6, f8])
  | cons t l ih =>
    intro qs i fr sg hd hq hg hf k1 k2
    obtain ⟨hx, hr, hi⟩ := drop_cons hd
    simp only [FrAt_cons, FrAt_nil] at hf
    obtain ⟨f6, f8, f31, f32, f33, -⟩ := hf
    rcases hs with ⟨rfl, _⟩ | ⟨a, cs, rfl, ha, hcs0, hcs⟩
    · simp at hx
    cases qs with
    | nil =>
      have := drop_nil' hq
      omega
    | cons p qs =>
    obtain ⟨hpx, hpr, hpi⟩ := drop_cons hq
    refine Xl.step ?_
    simp only [lb64_0]
    have c1 : (i : Int) < (ts.length : Int) := by omega
    have hw1 := i64_succ hi (show ts.length ≤ 281474976710656 by have : B47 = 140737488355328 := rfl; omega)
    have ha' := hg.get ha
    have hal := lt_of_get ha'
    have h6' := hg.get h6
    have h6l := lt_of_get h6'
    have h8' := hg.get h8
    have h8l := lt_of_get h8'
    have hle : i * 3 + 3 ≤ cs.length := by omega
    have hc := hcs i t hx
    have hf := fun K => @ok51 gl t p.ty K
    have hgo : callFit (t :: l) (p :: qs) = (fitsB t p.ty && callFit l qs) := rfl
    cases hft : fitsB t p.ty with
    | true =>
      rw [hft, Bool.true_and] at hgo
      rw [hft] at hf
      simp only [wCo, wFr, wOp, wBi, wLst, wLog, xB_other, Nat.reduceBEq, unT, loadP, storeP, partP, partT, partV, cellsP, mkAgg, allT, setRange, fillP, fieldA, indexS, indexA, indexV, indexStr, elems, lenP, pickV, cviV, nckV, extV, isNil, bound, close, close1, aft, retV, retSl, Go.Pi.one, eqT, eqs, eq1, Nat.reduceEqDiff, Nat.reduceAdd, Nat.reduceSub, Nat.reduceMul, Nat.reduceLeDiff, Nat.reduceLT, Nat.one_ne_zero, Nat.zero_ne_one, reduceIte, reduceCtorEq, bne_self_eq_false, decide_true, decide_false, Int.reduceToNat, Int.cast_ofNat_Int, Int.reduceLT, Int.reduceLE, Int.reduceEq, Int.reduceNeg, Int.reduceAdd, Int.reduceSub, f6, f8, f31, f32, f33, c1, hw1, Int.toNat_natCast, hi, ha', hle, hc, app_get hal, app_get h8l, h8', hcl, List.getElem?_map, hpx, hf]
      exact ih qs (i + 1) _ _ hr hpr (hg.app2 _) (by simp only [FrAt_cons, FrAt_nil, wFr, Nat.reduceEqDiff, Nat.one_ne_zero, Nat.zero_ne_one, reduceIte, and_self, and_true, true_and, f6, f8, f31, f32]) (fun e => k1 (by rw [hgo]; exact e)) (fun e => k2 (by rw [hgo]; exact e))
    | false =>
      rw [hft, Bool.false_and] at hgo
      rw [hft] at hf
      simp only [wCo, wFr, wOp, wBi, wLst, wLog, xB_other, Nat.reduceBEq, unT, loadP, storeP, partP, partT, partV, cellsP, mkAgg, allT, setRange, fillP, fieldA, indexS, indexA, indexV, indexStr, elems, lenP, pickV, cviV, nckV, extV, isNil, bound, close, close1, aft, retV, retSl, Go.Pi.one, eqT, eqs, eq1, Nat.reduceEqDiff, Nat.reduceAdd, Nat.reduceSub, Nat.reduceMul, Nat.reduceLeDiff, Nat.reduceLT, Nat.one_ne_zero, Nat.zero_ne_one, reduceIte, reduceCtorEq, bne_self_eq_false, decide_true, decide_false, Int.reduceToNat, Int.cast_ofNat_Int, Int.reduceLT, Int.reduceLE, Int.reduceEq, Int.reduceNeg, Int.reduceAdd, Int.reduceSub, f6, f8, f31, f32, f33, c1, hw1, Int.toNat_natCast, hi, ha', hle, hc, app_get hal, app_get h8l, app_get h6l, app_set h6l, h6', h8', hcl, List.getElem?_map, hpx, hf]
      refine k2 hgo _ _ ?_ (by simp only [FrAt_cons, FrAt_nil, wFr, Nat.reduceEqDiff, Nat.one_ne_zero, Nat.zero_ne_one, reduceIte, and_self, and_true, true_and, f6]) (by simp only [FrAt_cons, FrAt_nil, wFr, Nat.reduceEqDiff, Nat.one_ne_zero, Nat.zero_ne_one, reduceIte, and_self, and_true, true_and])
      rw [set_same h6']
      exact hg.app2 _
theorem ok64 {v : PV} {ts : List Ty} (hn : ts.length ≤ B47) {sg : Sg} {c f n : Nat} {fs : Fs} {ns : Ns} {od : PV} {w : Int} (hk : Ck sg c f n fs ns od w) (hs : SlT sg v ts) (nm : Nm) (ow : Ow) :
    CallE F gl 64 [.lp c 0, .t (.str nm), v] sg ow fun x sg' ow' => x = tRt (callM fs nm ts) ∧ Grow sg sg' := by
  refine XcE.of F64 rfl ?_
  simp only [ir64]
  have hcl := lt_of_get hk.c
  have hfl := lt_of_get hk.f
  have hc := hk.c
  have hf := hk.f
  have hlen := hs.len
  unfold callM
  cases hl : Ky.look nm fs with
  | none =>
    simp only [wCo, wFr, wOp, wBi, wLst, wLog, xB_other, Nat.reduceBEq, unT, loadP, storeP, partP, partT, partV, cellsP, mkAgg, allT, setRange, fillP, fieldA, indexS, indexA, indexV, indexStr, elems, lenP, pickV, cviV, nckV, extV, isNil, bound, close, close1, aft, retV, retSl, Go.Pi.one, eqT, eqs, eq1, Nat.reduceEqDiff, Nat.reduceAdd, Nat.reduceSub, Nat.reduceMul, Nat.reduceLeDiff, Nat.reduceLT, Nat.one_ne_zero, Nat.zero_ne_one, reduceIte, reduceCtorEq, bne_self_eq_false, decide_true, decide_false, Int.reduceToNat, Int.cast_ofNat_Int, Int.reduceLT, Int.reduceLE, Int.reduceEq, Int.reduceNeg, Int.reduceAdd, Int.reduceSub, app_get hcl, app_get hfl, hc, hf, mlkP, mfind_ents, hl, Option.getD_none, Option.isSome_none, xR_ct]
    exact ⟨rfl, Grow.app _ _⟩
  | some fu =>
    have g0 : Grow sg (sg ++ [(false, [.t (.int .i64 0), .t (.int .i64 0), .t (.int .i64 0)]), (false, cFu fu)]) := .app _ _
    have i6 : (sg ++ [(false, [.t (.int .i64 0), .t (.int .i64 0), .t (.int .i64 0)]), (false, cFu fu)])[sg.length]? = some (false, [.t (.int .i64 0), .t (.int .i64 0), .t (.int .i64 0)]) := by simp
    have i8 : (sg ++ [(false, [.t (.int .i64 0), .t (.int .i64 0), .t (.int .i64 0)]), (false, cFu fu)])[sg.length + 1]? = some (false, cFu fu) := by simp
    by_cases hps : (ts.length : Int) = (fu.params.length : Int)
    · have hps' : fu.params.length = ts.length := by omega
      have hnn : ¬ ((ts.length : Int) ≠ (fu.params.length : Int)) := by simpa using hps
      simp only [if_neg hnn]
      have hs1 := hs.grow g0
      rcases hs with ⟨rfl, k, rfl⟩ | ⟨a, cs, rfl, ha, hcs0, hcs⟩
      · have hp0 : fu.params = [] := List.eq_nil_of_length_eq_zero (by simpa using hps')
        simp only [wCo, wFr, wOp, wBi, wLst, wLog, xB_other, Nat.reduceBEq, unT, loadP, storeP, partP, partT, partV, cellsP, mkAgg, allT, setRange, fillP, fieldA, indexS, indexA, indexV, indexStr, elems, lenP, pickV, cviV, nckV, extV, isNil, bound, close, close1, aft, retV, retSl, Go.Pi.one, eqT, eqs, eq1, Nat.reduceEqDiff, Nat.reduceAdd, Nat.reduceSub, Nat.reduceMul, Nat.reduceLeDiff, Nat.reduceLT, Nat.one_ne_zero, Nat.zero_ne_one, reduceIte, reduceCtorEq, bne_self_eq_false, decide_true, decide_false, Int.reduceToNat, Int.cast_ofNat_Int, Int.reduceLT, Int.reduceLE, Int.reduceEq, Int.reduceNeg, Int.reduceAdd, Int.reduceSub, app_get hcl, app_get hfl, hc, hf, mlkP, mfind_ents, hl, Option.getD_some, Option.isSome_some, xR_ct, hp0]
        rw [hp0]
        simp only [cFu, hp0, List.map_nil] at i6 i8 g0 hs1
        refine loop64 (ts := []) (ps := []) (pnl := fu.pnl) hn rfl hs1 (b6 := sg.length) (b8 := sg.length + 1) i6 i8 rfl _ [] [] 0 _ _ rfl rfl (Grow.refl _) (by simp only [FrAt_cons, FrAt_nil, wFr, Nat.reduceEqDiff, Nat.one_ne_zero, Nat.zero_ne_one, reduceIte, and_self, and_true, true_and]; first | done | rfl) ?_ ?_
        · intro h fr' sg' hg hf'
          simp only [FrAt_cons, FrAt_nil] at hf'
          obtain ⟨f6, f8, -⟩ := hf'
          have j6 := hg.get i6
          have j8 := hg.get i8
          simp only [wCo, wFr, wOp, wBi, wLst, wLog, xB_other, Nat.reduceBEq, unT, loadP, storeP, partP, partT, partV, cellsP, mkAgg, allT, setRange, fillP, fieldA, indexS, indexA, indexV, indexStr, elems, lenP, pickV, cviV, nckV, extV, isNil, bound, close, close1, aft, retV, retSl, Go.Pi.one, eqT, eqs, eq1, Nat.reduceEqDiff, Nat.reduceAdd, Nat.reduceSub, Nat.reduceMul, Nat.reduceLeDiff, Nat.reduceLT, Nat.one_ne_zero, Nat.zero_ne_one, reduceIte, reduceCtorEq, bne_self_eq_false, decide_true, decide_false, Int.reduceToNat, Int.cast_ofNat_Int, Int.reduceLT, Int.reduceLE, Int.reduceEq, Int.reduceNeg, Int.reduceAdd, Int.reduceSub, f6, f8, j6, j8, get_set j6, xR_ct]
          refine ⟨rfl, ?_⟩
          exact ((Fr.of (c := sg.length) hg).set _).grow g0 (by omega)
        · intro h; cases h
      · simp only [wCo, wFr, wOp, wBi, wLst, wLog, xB_other, Nat.reduceBEq, unT, loadP, storeP, partP, partT, partV, cellsP, mkAgg, allT, setRange, fillP, fieldA, indexS, indexA, indexV, indexStr, elems, lenP, pickV, cviV, nckV, extV, isNil, bound, close, close1, aft, retV, retSl, Go.Pi.one, eqT, eqs, eq1, Nat.reduceEqDiff, Nat.reduceAdd, Nat.reduceSub, Nat.reduceMul, Nat.reduceLeDiff, Nat.reduceLT, Nat.one_ne_zero, Nat.zero_ne_one, reduceIte, reduceCtorEq, bne_self_eq_false, decide_true, decide_false, Int.reduceToNat, Int.cast_ofNat_Int, Int.reduceLT, Int.reduceLE, Int.reduceEq, Int.reduceNeg, Int.reduceAdd, Int.reduceSub, app_get hcl, app_get hfl, hc, hf, mlkP, mfind_ents, hl, Option.getD_some, Option.isSome_some, xR_ct, hps]
        rw [← hps]
        refine loop64 (ps := fu.params) (pnl := fu.pnl) hn hps' hs1 (b6 := sg.length) (b8 := sg.length + 1) i6 i8 rfl _ ts fu.params 0 _ _ rfl rfl (Grow.refl _) (by simp only [FrAt_cons, FrAt_nil, wFr, Nat.reduceEqDiff, Nat.one_ne_zero, Nat.zero_ne_one, reduceIte, and_self, and_true, true_and]; first | done | rfl) ?_ ?_
        · intro h fr' sg' hg hf'
          simp only [FrAt_cons, FrAt_nil] at hf'
          obtain ⟨f6, f8, -⟩ := hf'
          have j6 := hg.get i6
          have j8 := hg.get i8
          simp only [wCo, wFr, wOp, wBi, wLst, wLog, xB_other, Nat.reduceBEq, unT, loadP, storeP, partP, partT, partV, cellsP, mkAgg, allT, setRange, fillP, fieldA, indexS, indexA, indexV, indexStr, elems, lenP, pickV, cviV, nckV, extV, isNil, bound, close, close1, aft, retV, retSl, Go.Pi.one, eqT, eqs, eq1, Nat.reduceEqDiff, Nat.reduceAdd, Nat.reduceSub, Nat.reduceMul, Nat.reduceLeDiff, Nat.reduceLT, Nat.one_ne_zero, Nat.zero_ne_one, reduceIte, reduceCtorEq, bne_self_eq_false, decide_true, decide_false, Int.reduceToNat, Int.cast_ofNat_Int, Int.reduceLT, Int.reduceLE, Int.reduceEq, Int.reduceNeg, Int.reduceAdd, Int.reduceSub, f6, f8, j6, j8, get_set j6, xR_ct]
          rw [h]
          refine ⟨by rw [if_neg (by simp)]; rfl, ?_⟩
          exact ((Fr.of (c := sg.length) hg).set _).grow g0 (by omega)
        · intro h fr' sg' hg f6 f7
          have j6 := hg.get i6
          simp only [wCo, wFr, wOp, wBi, wLst, wLog, xB_other, Nat.reduceBEq, unT, loadP, storeP, partP, partT, partV, cellsP, mkAgg, allT, setRange, fillP, fieldA, indexS, indexA, indexV, indexStr, elems, lenP, pickV, cviV, nckV, extV, isNil, bound, close, close1, aft, retV, retSl, Go.Pi.one, eqT, eqs, eq1, Nat.reduceEqDiff, Nat.reduceAdd, Nat.reduceSub, Nat.reduceMul, Nat.reduceLeDiff, Nat.reduceLT, Nat.one_ne_zero, Nat.zero_ne_one, reduceIte, reduceCtorEq, bne_self_eq_false, decide_true, decide_false, Int.reduceToNat, Int.cast_ofNat_Int, Int.reduceLT, Int.reduceLE, Int.reduceEq, Int.reduceNeg, Int.reduceAdd, Int.reduceSub, f6, f7, j6, xR_ct]
          rw [h]
          exact ⟨by rw [if_neg (by simp)]; rfl, g0.trans hg⟩
    · simp only [if_pos (show (ts.length : Int) ≠ (fu.params.length : Int) from hps)]
      rcases hs with ⟨rfl, k, rfl⟩ | ⟨a, cs, rfl, ha, hcs0, hcs⟩
      · have hps2 : ¬ (0 : Int) = (fu.params.length : Int) := by simpa using hps
        simp only [wCo, wFr, wOp, wBi, wLst, wLog, xB_other, Nat.reduceBEq, unT, loadP, storeP, partP, partT, partV, cellsP, mkAgg, allT, setRange, fillP, fieldA, indexS, indexA, indexV, indexStr, elems, lenP, pickV, cviV, nckV, extV, isNil, bound, close, close1, aft, retV, retSl, Go.Pi.one, eqT, eqs, eq1, Nat.reduceEqDiff, Nat.reduceAdd, Nat.reduceSub, Nat.reduceMul, Nat.reduceLeDiff, Nat.reduceLT, Nat.one_ne_zero, Nat.zero_ne_one, reduceIte, reduceCtorEq, bne_self_eq_false, decide_true, decide_false, Int.reduceToNat, Int.cast_ofNat_Int, Int.reduceLT, Int.reduceLE, Int.reduceEq, Int.reduceNeg, Int.reduceAdd, Int.reduceSub, app_get hcl, app_get hfl, hc, hf, mlkP, mfind_ents, hl, Option.getD_some, Option.isSome_some, xR_ct, hps2]
        exact ⟨by rw [if_pos hps2]; rfl, Grow.app _ _⟩
      · simp only [wCo, wFr, wOp, wBi, wLst, wLog, xB_other, Nat.reduceBEq, unT, loadP, storeP, partP, partT, partV, cellsP, mkAgg, allT, setRange, fillP, fieldA, indexS, indexA, indexV, indexStr, elems, lenP, pickV, cviV, nckV, extV, isNil, bound, close, close1, aft, retV, retSl, Go.Pi.one, eqT, eqs, eq1, Nat.reduceEqDiff, Nat.reduceAdd, Nat.reduceSub, Nat.reduceMul, Nat.reduceLeDiff, Nat.reduceLT, Nat.one_ne_zero, Nat.zero_ne_one, reduceIte, reduceCtorEq, bne_self_eq_false, decide_true, decide_false, Int.reduceToNat, Int.cast_ofNat_Int, Int.reduceLT, Int.reduceLE, Int.reduceEq, Int.reduceNeg, Int.reduceAdd, Int.reduceSub, app_get hcl, app_get hfl, hc, hf, mlkP, mfind_ents, hl, Option.getD_some, Option.isSome_some, xR_ct, hps]
        exact ⟨by rw [if_pos hps]; rfl, Grow.app _ _⟩
end Go.Proofs.Ytdjcnfacjfnakaa
