/- Contracts: how much a program holds. -/
import Derived.Test.YtdjcnfacjfnakaaK18
set_option maxRecDepth 10000
set_option linter.unusedVariables false
set_option linter.unusedSimpArgs false
namespace Go.Proofs.Ytdjcnfacjfnakaa
open Go.Pi Go.Lx Go.Ky Go.Lib
variable {gl : Nat → Option (List T)}

theorem loop19 {e : Exp} {lim : Int} (hls : e.args.length ≤ B20) (hrec : ∀ a, a ∈ e.args → ∀ (lim : Int) (K : PV → Prop), XcP F gl 19 [.agg (tEx a), .int .i64 lim] K ⟨⟩ ↔ K (.t (.int .i64 (szM a lim)))) {b2 : Nat} {sg : Sg} (h2 : sg[b2]? = some (cEx e)) {ow : Ow} (Q : Ex → S → Prop) : ∀ (l : List Exp) (i : Nat) (n : Int) (fr : List PV), e.args.drop i = l →
    FrAt fr [(1, .t (.int .i64 lim)), (2, .lp b2 0), (5, .t (.int .i64 n)), (6, .t (.int .i64 i))] →
    (∀ fr', fget fr' 5 = .t (.int .i64 (szMs l lim n)) → Q (.exit 0) ⟨fr', sg, ow⟩) →
    Xl F gl lb19_0 ⟨fr, sg, ow⟩ Q ⟨⟩ := by
  intro l
  induction l with
  | nil =>
    intro i n fr hd hf k1
    have hd := drop_nil' hd
    simp only [FrAt_cons, FrAt_nil] at hf
    obtain ⟨f1, f2, f5, f6, -⟩ := hf
    refine Xl.step ?_
    simp only [lb19_0]
    have c1 : ¬ ((i : Int) < (e.args.length : Int)) := by omega
    rw [szMs] at k1
    simp only [wCo, wFr, wOp, wBi, wLst, wLog, xB_other, Nat.reduceBEq, unT, loadP, storeP, partP, partT, partV, cellsP, mkAgg, allT, setRange, fillP, fieldA, indexS, indexA, indexV, indexStr, elems, lenP, pickV, cviV, nckV, extV, isNil, bound, close, close1, aft, retV, retSl, Go.Pi.one, eqT, eqs, eq1, Nat.reduceEqDiff, Nat.reduceAdd, Nat.reduceSub, Nat.reduceMul, Nat.reduceLeDiff, Nat.reduceLT, Nat.one_ne_zero, Nat.zero_ne_one, reduceIte, reduceCtorEq, bne_self_eq_false, decide_true, decide_false, Int.reduceToNat, Int.cast_ofNat_Int, Int.reduceLT, Int.reduceLE, Int.reduceEq, Int.reduceNeg, Int.reduceAdd, Int.reduceSub, f1, f2, f5, f6, c1, h2, tExs_len]
    exact k1 _ (by simp only [FrAt_cons, FrAt_nil, wFr, Nat.reduceEqDiff, Nat.one_ne_zero, Nat.zero_ne_one, reduceIte, and_self, and_true, true_and, f5])
  | cons x l ih =>
    intro i n fr hd hf k1
    obtain ⟨hx, hr, hi⟩ := drop_cons hd
    simp only [FrAt_cons, FrAt_nil] at hf
    obtain ⟨f1, f2, f5, f6, -⟩ := hf
    refine Xl.step ?_
    simp only [lb19_0]
    have c1 : (i : Int) < (e.args.length : Int) := by omega
    have hw1 := i64_succ hi (show e.args.length ≤ 281474976710656 by have : B20 = 1100000 := rfl; omega)
    have hq := fun lim K => hrec x (List.mem_of_getElem? hx) lim K
    simp only [tEx_eq] at hq
    rw [szMs] at k1
    by_cases hn : n ≤ lim
    · rw [if_pos hn] at k1
      simp only [wCo, wFr, wOp, wBi, wLst, wLog, xB_other, Nat.reduceBEq, unT, loadP, storeP, partP, partT, partV, cellsP, mkAgg, allT, setRange, fillP, fieldA, indexS, indexA, indexV, indexStr, elems, lenP, pickV, cviV, nckV, extV, isNil, bound, close, close1, aft, retV, retSl, Go.Pi.one, eqT, eqs, eq1, Nat.reduceEqDiff, Nat.reduceAdd, Nat.reduceSub, Nat.reduceMul, Nat.reduceLeDiff, Nat.reduceLT, Nat.one_ne_zero, Nat.zero_ne_one, reduceIte, reduceCtorEq, bne_self_eq_false, decide_true, decide_false, Int.reduceToNat, Int.cast_ofNat_Int, Int.reduceLT, Int.reduceLE, Int.reduceEq, Int.reduceNeg, Int.reduceAdd, Int.reduceSub, f1, f2, f5, f6, c1, hw1, h2, tExs_len, hn, Int.toNat_natCast, hi, tExs_get, hx, Option.map_some, hq, tEx_eq]
      exact ih (i + 1) _ _ hr (by simp only [FrAt_cons, FrAt_nil, wFr, Nat.reduceEqDiff, Nat.one_ne_zero, Nat.zero_ne_one, reduceIte, and_self, and_true, true_and, f1, f2]; first | done | rfl) k1
    · rw [if_neg hn] at k1
      simp only [wCo, wFr, wOp, wBi, wLst, wLog, xB_other, Nat.reduceBEq, unT, loadP, storeP, partP, partT, partV, cellsP, mkAgg, allT, setRange, fillP, fieldA, indexS, indexA, indexV, indexStr, elems, lenP, pickV, cviV, nckV, extV, isNil, bound, close, close1, aft, retV, retSl, Go.Pi.one, eqT, eqs, eq1, Nat.reduceEqDiff, Nat.reduceAdd, Nat.reduceSub, Nat.reduceMul, Nat.reduceLeDiff, Nat.reduceLT, Nat.one_ne_zero, Nat.zero_ne_one, reduceIte, reduceCtorEq, bne_self_eq_false, decide_true, decide_false, Int.reduceToNat, Int.cast_ofNat_Int, Int.reduceLT, Int.reduceLE, Int.reduceEq, Int.reduceNeg, Int.reduceAdd, Int.reduceSub, f1, f2, f5, f6, c1, hw1, h2, tExs_len, hn]
      exact k1 _ (by simp only [FrAt_cons, FrAt_nil, wFr, Nat.reduceEqDiff, Nat.one_ne_zero, Nat.zero_ne_one, reduceIte, and_self, and_true, true_and, f5])
theorem ok19 : ∀ e, szE e ≤ B20 → ∀ (lim : Int) (K : PV → Prop), XcP F gl 19 [.agg (tEx e), .int .i64 lim] K ⟨⟩ ↔ K (.t (.int .i64 (szM e lim))) := by
  refine Exp.ind fun e ih hsz lim K => ?_
  have hrec := fun a ha => ih a ha ((szE_args hsz).2 a ha)
  refine Ret.iff (Ret.of F19 rfl ?_)
  simp only [ir19]
  rw [szM_eq]
  simp only [wCo, wFr, wOp, wBi, wLst, wLog, xB_other, Nat.reduceBEq, unT, loadP, storeP, partP, partT, partV, cellsP, mkAgg, allT, setRange, fillP, fieldA, indexS, indexA, indexV, indexStr, elems, lenP, pickV, cviV, nckV, extV, isNil, bound, close, close1, aft, retV, retSl, Go.Pi.one, eqT, eqs, eq1, Nat.reduceEqDiff, Nat.reduceAdd, Nat.reduceSub, Nat.reduceMul, Nat.reduceLeDiff, Nat.reduceLT, Nat.one_ne_zero, Nat.zero_ne_one, reduceIte, reduceCtorEq, bne_self_eq_false, decide_true, decide_false, Int.reduceToNat, Int.cast_ofNat_Int, Int.reduceLT, Int.reduceLE, Int.reduceEq, Int.reduceNeg, Int.reduceAdd, Int.reduceSub, tEx_eq]
  refine loop19 (szE_args hsz).1 hrec (b2 := 0) (sg := [cEx e]) rfl _ e.args 0 1 _ rfl (by simp only [FrAt_cons, FrAt_nil, wFr, Nat.reduceEqDiff, Nat.one_ne_zero, Nat.zero_ne_one, reduceIte, and_self, and_true, true_and]; first | done | exact ⟨rfl, rfl⟩ | rfl) ?_
  intro fr' f5
  simp only [wCo, wFr, wOp, wBi, wLst, wLog, xB_other, Nat.reduceBEq, unT, loadP, storeP, partP, partT, partV, cellsP, mkAgg, allT, setRange, fillP, fieldA, indexS, indexA, indexV, indexStr, elems, lenP, pickV, cviV, nckV, extV, isNil, bound, close, close1, aft, retV, retSl, Go.Pi.one, eqT, eqs, eq1, Nat.reduceEqDiff, Nat.reduceAdd, Nat.reduceSub, Nat.reduceMul, Nat.reduceLeDiff, Nat.reduceLT, Nat.one_ne_zero, Nat.zero_ne_one, reduceIte, reduceCtorEq, bne_self_eq_false, decide_true, decide_false, Int.reduceToNat, Int.cast_ofNat_Int, Int.reduceLT, Int.reduceLE, Int.reduceEq, Int.reduceNeg, Int.reduceAdd, Int.reduceSub, f5]
theorem loop18 {ls : List St} {nl : Bool} {lim : Int} (hls : ls.length ≤ B20) (hsz : ∀ s, s ∈ ls → szE s.ex ≤ B20) (hrec : ∀ s, s ∈ ls → ∀ (nl : Bool) (lim : Int) (K : PV → Prop), XcP F gl 18 [.sl nl (tSts s.body), .int .i64 lim] K ⟨⟩ ↔ K (.t (.int .i64 (amMs s.body lim 0)))) {sg : Sg} {ow : Ow} (Q : Ex → S → Prop) : ∀ (l : List St) (i : Nat) (n : Int) (fr : List PV), ls.drop i = l →
    FrAt fr [(0, .t (.sl nl (tSts ls))), (1, .t (.int .i64 lim)), (5, .t (.int .i64 n)), (6, .t (.int .i64 i))] →
    (∀ fr', fget fr' 5 = .t (.int .i64 (amMs l lim n)) → Q (.exit 0) ⟨fr', sg, ow⟩) →
    Xl F gl lb18_0 ⟨fr, sg, ow⟩ Q ⟨⟩ := by
  intro l
  induction l with
  | nil =>
    intro i n fr hd hf k1
    have hd := drop_nil' hd
    simp only [FrAt_cons, FrAt_nil] at hf
    obtain ⟨f1, f2, f5, f6, -⟩ := hf
    refine Xl.step ?_
    simp only [lb18_0]
    have c1 : ¬ ((i : Int) < (ls.length : Int)) := by omega
    rw [amMs] at k1
    simp only [wCo, wFr, wOp, wBi, wLst, wLog, xB_other, Nat.reduceBEq, unT, loadP, storeP, partP, partT, partV, cellsP, mkAgg, allT, setRange, fillP, fieldA, indexS, indexA, indexV, indexStr, elems, lenP, pickV, cviV, nckV, extV, isNil, bound, close, close1, aft, retV, retSl, Go.Pi.one, eqT, eqs, eq1, Nat.reduceEqDiff, Nat.reduceAdd, Nat.reduceSub, Nat.reduceMul, Nat.reduceLeDiff, Nat.reduceLT, Nat.one_ne_zero, Nat.zero_ne_one, reduceIte, reduceCtorEq, bne_self_eq_false, decide_true, decide_false, Int.reduceToNat, Int.cast_ofNat_Int, Int.reduceLT, Int.reduceLE, Int.reduceEq, Int.reduceNeg, Int.reduceAdd, Int.reduceSub, f1, f2, f5, f6, c1, tSts_len]
    exact k1 _ (by simp only [FrAt_cons, FrAt_nil, wFr, Nat.reduceEqDiff, Nat.one_ne_zero, Nat.zero_ne_one, reduceIte, and_self, and_true, true_and, f5])
  | cons x l ih =>
    intro i n fr hd hf k1
    obtain ⟨hx, hr, hi⟩ := drop_cons hd
    simp only [FrAt_cons, FrAt_nil] at hf
    obtain ⟨f1, f2, f5, f6, -⟩ := hf
    refine Xl.step ?_
    simp only [lb18_0]
    have c1 : (i : Int) < (ls.length : Int) := by omega
    have hw1 := i64_succ hi (show ls.length ≤ 281474976710656 by have : B20 = 1100000 := rfl; omega)
    have hm := List.mem_of_getElem? hx
    have hq := fun lim K => ok19 (gl := gl) x.ex (hsz x hm) lim K
    have hq2 := fun nl lim K => hrec x hm nl lim K
    simp only [tEx_eq] at hq
    rw [amMs, am1_eq] at k1
    by_cases hn : n ≤ lim
    · rw [if_pos hn] at k1
      simp only [wCo, wFr, wOp, wBi, wLst, wLog, xB_other, Nat.reduceBEq, unT, loadP, storeP, partP, partT, partV, cellsP, mkAgg, allT, setRange, fillP, fieldA, indexS, indexA, indexV, indexStr, elems, lenP, pickV, cviV, nckV, extV, isNil, bound, close, close1, aft, retV, retSl, Go.Pi.one, eqT, eqs, eq1, Nat.reduceEqDiff, Nat.reduceAdd, Nat.reduceSub, Nat.reduceMul, Nat.reduceLeDiff, Nat.reduceLT, Nat.one_ne_zero, Nat.zero_ne_one, reduceIte, reduceCtorEq, bne_self_eq_false, decide_true, decide_false, Int.reduceToNat, Int.cast_ofNat_Int, Int.reduceLT, Int.reduceLE, Int.reduceEq, Int.reduceNeg, Int.reduceAdd, Int.reduceSub, f1, f2, f5, f6, c1, hw1, tSts_len, hn, Int.toNat_natCast, hi, tSts_get, hx, Option.map_some, hq, hq2, tSt_eq]
      exact ih (i + 1) _ _ hr (by simp only [FrAt_cons, FrAt_nil, wFr, Nat.reduceEqDiff, Nat.one_ne_zero, Nat.zero_ne_one, reduceIte, and_self, and_true, true_and, f1, f2]; first | done | rfl) k1
    · rw [if_neg hn] at k1
      simp only [wCo, wFr, wOp, wBi, wLst, wLog, xB_other, Nat.reduceBEq, unT, loadP, storeP, partP, partT, partV, cellsP, mkAgg, allT, setRange, fillP, fieldA, indexS, indexA, indexV, indexStr, elems, lenP, pickV, cviV, nckV, extV, isNil, bound, close, close1, aft, retV, retSl, Go.Pi.one, eqT, eqs, eq1, Nat.reduceEqDiff, Nat.reduceAdd, Nat.reduceSub, Nat.reduceMul, Nat.reduceLeDiff, Nat.reduceLT, Nat.one_ne_zero, Nat.zero_ne_one, reduceIte, reduceCtorEq, bne_self_eq_false, decide_true, decide_false, Int.reduceToNat, Int.cast_ofNat_Int, Int.reduceLT, Int.reduceLE, Int.reduceEq, Int.reduceNeg, Int.reduceAdd, Int.reduceSub, f1, f2, f5, f6, c1, hw1, tSts_len, hn]
      exact k1 _ (by simp only [FrAt_cons, FrAt_nil, wFr, Nat.reduceEqDiff, Nat.one_ne_zero, Nat.zero_ne_one, reduceIte, and_self, and_true, true_and, f5])
theorem okl18 {ls : List St} (hls : ls.length ≤ B20) (hsz : ∀ s, s ∈ ls → szE s.ex ≤ B20) (hrec : ∀ s, s ∈ ls → ∀ (nl : Bool) (lim : Int) (K : PV → Prop), XcP F gl 18 [.sl nl (tSts s.body), .int .i64 lim] K ⟨⟩ ↔ K (.t (.int .i64 (amMs s.body lim 0)))) (nl : Bool) (lim : Int) (K : PV → Prop) : XcP F gl 18 [.sl nl (tSts ls), .int .i64 lim] K ⟨⟩ ↔ K (.t (.int .i64 (amMs ls lim 0))) := by
  refine Ret.iff (Ret.of F18 rfl ?_)
  simp only [ir18]
  simp only [wCo, wFr, wOp, wBi, wLst, wLog, xB_other, Nat.reduceBEq, unT, loadP, storeP, partP, partT, partV, cellsP, mkAgg, allT, setRange, fillP, fieldA, indexS, indexA, indexV, indexStr, elems, lenP, pickV, cviV, nckV, extV, isNil, bound, close, close1, aft, retV, retSl, Go.Pi.one, eqT, eqs, eq1, Nat.reduceEqDiff, Nat.reduceAdd, Nat.reduceSub, Nat.reduceMul, Nat.reduceLeDiff, Nat.reduceLT, Nat.one_ne_zero, Nat.zero_ne_one, reduceIte, reduceCtorEq, bne_self_eq_false, decide_true, decide_false, Int.reduceToNat, Int.cast_ofNat_Int, Int.reduceLT, Int.reduceLE, Int.reduceEq, Int.reduceNeg, Int.reduceAdd, Int.reduceSub]
  refine loop18 hls hsz hrec _ ls 0 0 _ rfl (by simp only [FrAt_cons, FrAt_nil, wFr, Nat.reduceEqDiff, Nat.one_ne_zero, Nat.zero_ne_one, reduceIte, and_self, and_true, true_and]; first | done | exact ⟨rfl, rfl⟩ | rfl) ?_
  intro fr' f5
  simp only [wCo, wFr, wOp, wBi, wLst, wLog, xB_other, Nat.reduceBEq, unT, loadP, storeP, partP, partT, partV, cellsP, mkAgg, allT, setRange, fillP, fieldA, indexS, indexA, indexV, indexStr, elems, lenP, pickV, cviV, nckV, extV, isNil, bound, close, close1, aft, retV, retSl, Go.Pi.one, eqT, eqs, eq1, Nat.reduceEqDiff, Nat.reduceAdd, Nat.reduceSub, Nat.reduceMul, Nat.reduceLeDiff, Nat.reduceLT, Nat.one_ne_zero, Nat.zero_ne_one, reduceIte, reduceCtorEq, bne_self_eq_false, decide_true, decide_false, Int.reduceToNat, Int.cast_ofNat_Int, Int.reduceLT, Int.reduceLE, Int.reduceEq, Int.reduceNeg, Int.reduceAdd, Int.reduceSub, f5]
theorem okr18 : ∀ s, szS s ≤ B20 → ∀ (nl : Bool) (lim : Int) (K : PV → Prop), XcP F gl 18 [.sl nl (tSts s.body), .int .i64 lim] K ⟨⟩ ↔ K (.t (.int .i64 (amMs s.body lim 0))) := by
  refine St.ind fun s ih hsz => ?_
  have hb := szS_body hsz
  exact okl18 hb.1 (fun x hx => Nat.le_trans (szS_ex x) (hb.2 x hx)) (fun x hx => ih x hx (hb.2 x hx))
theorem ok18 {ls : List St} (h : szSs ls ≤ B20) (nl : Bool) (lim : Int) {K : PV → Prop} : XcP F gl 18 [.sl nl (tSts ls), .int .i64 lim] K ⟨⟩ ↔ K (.t (.int .i64 (amMs ls lim 0))) :=
  okl18 (Nat.le_trans (szSs_len _) h) (fun x hx => Nat.le_trans (szS_ex x) (Nat.le_trans (szSs_mem hx) h)) (fun x hx => okr18 x (Nat.le_trans (szSs_mem hx) h)) nl lim K
theorem loop7 {p : Pg} (hp : PgB p) {sg : Sg} (h1 : sg[0]? = some (false, [PV.t (.sl p.fnl (p.funcs.map fun f => tFu f)), .t (.sl p.dnl (p.decls.map fun f => tDe f)), .t (.sl p.bnl (tSts p.body))])) {ow : Ow} (Q : Ex → S → Prop) : ∀ (l : List Fu) (i : Nat) (n : Int) (fr : List PV), p.funcs.drop i = l →
    FrAt fr [(1, .lp 0 0), (3, .t (.int .i64 n)), (4, .t (.int .i64 i))] →
    (∀ fr', FrAt fr' [(1, .lp 0 0), (3, .t (.int .i64 (smGo l i n)))] → Q (.exit 0) ⟨fr', sg, ow⟩) →
    Xl F gl lb7_0 ⟨fr, sg, ow⟩ Q ⟨⟩ := by
  intro l
  induction l with
  | nil =>
    intro i n fr hd hf k1
    have hd := drop_nil' hd
    simp only [FrAt_cons, FrAt_nil] at hf
    obtain ⟨f1, f3, f4, -⟩ := hf
    refine Xl.step ?_
    simp only [lb7_0]
    have c1 : ¬ ((i : Int) < (p.funcs.length : Int)) := by omega
    rw [smGo] at k1
    simp only [wCo, wFr, wOp, wBi, wLst, wLog, xB_other, Nat.reduceBEq, unT, loadP, storeP, partP, partT, partV, cellsP, mkAgg, allT, setRange, fillP, fieldA, indexS, indexA, indexV, indexStr, elems, lenP, pickV, cviV, nckV, extV, isNil, bound, close, close1, aft, retV, retSl, Go.Pi.one, eqT, eqs, eq1, Nat.reduceEqDiff, Nat.reduceAdd, Nat.reduceSub, Nat.reduceMul, Nat.reduceLeDiff, Nat.reduceLT, Nat.one_ne_zero, Nat.zero_ne_one, reduceIte, reduceCtorEq, bne_self_eq_false, decide_true, decide_false, Int.reduceToNat, Int.cast_ofNat_Int, Int.reduceLT, Int.reduceLE, Int.reduceEq, Int.reduceNeg, Int.reduceAdd, Int.reduceSub, f1, f3, f4, c1, h1, List.length_map]
    exact k1 _ (by simp only [FrAt_cons, FrAt_nil, wFr, Nat.reduceEqDiff, Nat.one_ne_zero, Nat.zero_ne_one, reduceIte, and_self, and_true, true_and, f1, f3])
  | cons x l ih =>
    intro i n fr hd hf k1
    obtain ⟨hx, hr, hi⟩ := drop_cons hd
    simp only [FrAt_cons, FrAt_nil] at hf
    obtain ⟨f1, f3, f4, -⟩ := hf
    refine Xl.step ?_
    simp only [lb7_0]
    have c1 : (i : Int) < (p.funcs.length : Int) := by omega
    have hw1 := i64_succ hi (show p.funcs.length ≤ 281474976710656 by have := hp.fl; have : B20 = 1100000 := rfl; omega)
    obtain ⟨x1, x2, x3⟩ := hp.fs x (List.mem_of_getElem? hx)
    have hq := fun lim K => ok19 (gl := gl) x.ret x3 lim K
    have hq2 := fun nl lim K => @ok18 gl x.body x2 nl lim K
    simp only [tEx_eq] at hq
    rw [smGo] at k1
    by_cases h20 : (i : Int) < 20
    · by_cases hn : n ≤ 400
      · rw [if_pos ⟨by omega, hn⟩] at k1
        simp only [wCo, wFr, wOp, wBi, wLst, wLog, xB_other, Nat.reduceBEq, unT, loadP, storeP, partP, partT, partV, cellsP, mkAgg, allT, setRange, fillP, fieldA, indexS, indexA, indexV, indexStr, elems, lenP, pickV, cviV, nckV, extV, isNil, bound, close, close1, aft, retV, retSl, Go.Pi.one, eqT, eqs, eq1, Nat.reduceEqDiff, Nat.reduceAdd, Nat.reduceSub, Nat.reduceMul, Nat.reduceLeDiff, Nat.reduceLT, Nat.one_ne_zero, Nat.zero_ne_one, reduceIte, reduceCtorEq, bne_self_eq_false, decide_true, decide_false, Int.reduceToNat, Int.cast_ofNat_Int, Int.reduceLT, Int.reduceLE, Int.reduceEq, Int.reduceNeg, Int.reduceAdd, Int.reduceSub, f1, f3, f4, c1, hw1, h1, List.length_map, h20, hn, Int.toNat_natCast, hi, List.getElem?_map, hx, Option.map_some, hq, hq2]
        exact ih (i + 1) _ _ hr (by simp only [FrAt_cons, FrAt_nil, wFr, Nat.reduceEqDiff, Nat.one_ne_zero, Nat.zero_ne_one, reduceIte, and_self, and_true, true_and, f1]; first | done | rfl) k1
      · rw [if_neg (fun h => hn h.2)] at k1
        simp only [wCo, wFr, wOp, wBi, wLst, wLog, xB_other, Nat.reduceBEq, unT, loadP, storeP, partP, partT, partV, cellsP, mkAgg, allT, setRange, fillP, fieldA, indexS, indexA, indexV, indexStr, elems, lenP, pickV, cviV, nckV, extV, isNil, bound, close, close1, aft, retV, retSl, Go.Pi.one, eqT, eqs, eq1, Nat.reduceEqDiff, Nat.reduceAdd, Nat.reduceSub, Nat.reduceMul, Nat.reduceLeDiff, Nat.reduceLT, Nat.one_ne_zero, Nat.zero_ne_one, reduceIte, reduceCtorEq, bne_self_eq_false, decide_true, decide_false, Int.reduceToNat, Int.cast_ofNat_Int, Int.reduceLT, Int.reduceLE, Int.reduceEq, Int.reduceNeg, Int.reduceAdd, Int.reduceSub, f1, f3, f4, c1, hw1, h1, List.length_map, h20, hn]
        exact k1 _ (by simp only [FrAt_cons, FrAt_nil, wFr, Nat.reduceEqDiff, Nat.one_ne_zero, Nat.zero_ne_one, reduceIte, and_self, and_true, true_and, f1, f3])
    · rw [if_neg (fun h => h20 (by omega))] at k1
      simp only [wCo, wFr, wOp, wBi, wLst, wLog, xB_other, Nat.reduceBEq, unT, loadP, storeP, partP, partT, partV, cellsP, mkAgg, allT, setRange, fillP, fieldA, indexS, indexA, indexV, indexStr, elems, lenP, pickV, cviV, nckV, extV, isNil, bound, close, close1, aft, retV, retSl, Go.Pi.one, eqT, eqs, eq1, Nat.reduceEqDiff, Nat.reduceAdd, Nat.reduceSub, Nat.reduceMul, Nat.reduceLeDiff, Nat.reduceLT, Nat.one_ne_zero, Nat.zero_ne_one, reduceIte, reduceCtorEq, bne_self_eq_false, decide_true, decide_false, Int.reduceToNat, Int.cast_ofNat_Int, Int.reduceLT, Int.reduceLE, Int.reduceEq, Int.reduceNeg, Int.reduceAdd, Int.reduceSub, f1, f3, f4, c1, hw1, h1, List.length_map, h20]
      exact k1 _ (by simp only [FrAt_cons, FrAt_nil, wFr, Nat.reduceEqDiff, Nat.one_ne_zero, Nat.zero_ne_one, reduceIte, and_self, and_true, true_and, f1, f3])
theorem ok7 {p : Pg} (hp : PgB p) {K : PV → Prop} : XcP F gl 7 [.agg (tPg p)] K ⟨⟩ ↔ K (.t (.bool (smallB p))) := by
  refine Ret.iff (Ret.of F7 rfl ?_)
  simp only [ir7]
  have hq2 := fun nl lim K => @ok18 gl p.body hp.bs nl lim K
  unfold smallB
  simp only [wCo, wFr, wOp, wBi, wLst, wLog, xB_other, Nat.reduceBEq, unT, loadP, storeP, partP, partT, partV, cellsP, mkAgg, allT, setRange, fillP, fieldA, indexS, indexA, indexV, indexStr, elems, lenP, pickV, cviV, nckV, extV, isNil, bound, close, close1, aft, retV, retSl, Go.Pi.one, eqT, eqs, eq1, Nat.reduceEqDiff, Nat.reduceAdd, Nat.reduceSub, Nat.reduceMul, Nat.reduceLeDiff, Nat.reduceLT, Nat.one_ne_zero, Nat.zero_ne_one, reduceIte, reduceCtorEq, bne_self_eq_false, decide_true, decide_false, Int.reduceToNat, Int.cast_ofNat_Int, Int.reduceLT, Int.reduceLE, Int.reduceEq, Int.reduceNeg, Int.reduceAdd, Int.reduceSub, hq2]
  refine loop7 hp rfl _ p.funcs 0 _ _ rfl (by simp only [FrAt_cons, FrAt_nil, wFr, Nat.reduceEqDiff, Nat.one_ne_zero, Nat.zero_ne_one, reduceIte, and_self, and_true, true_and]; first | done | exact ⟨rfl, rfl⟩ | rfl) ?_
  intro fr' hf
  simp only [FrAt_cons, FrAt_nil] at hf
  obtain ⟨f1, f3, -⟩ := hf
  generalize smGo p.funcs 0 (amMs p.body 400 0) = n at *
  by_cases a1 : n ≤ 400
  · by_cases a2 : (p.funcs.length : Int) ≤ 10
    · by_cases a3 : (p.decls.length : Int) ≤ 20
      · simp only [wCo, wFr, wOp, wBi, wLst, wLog, xB_other, Nat.reduceBEq, unT, loadP, storeP, partP, partT, partV, cellsP, mkAgg, allT, setRange, fillP, fieldA, indexS, indexA, indexV, indexStr, elems, lenP, pickV, cviV, nckV, extV, isNil, bound, close, close1, aft, retV, retSl, Go.Pi.one, eqT, eqs, eq1, Nat.reduceEqDiff, Nat.reduceAdd, Nat.reduceSub, Nat.reduceMul, Nat.reduceLeDiff, Nat.reduceLT, Nat.one_ne_zero, Nat.zero_ne_one, reduceIte, reduceCtorEq, bne_self_eq_false, decide_true, decide_false, Int.reduceToNat, Int.cast_ofNat_Int, Int.reduceLT, Int.reduceLE, Int.reduceEq, Int.reduceNeg, Int.reduceAdd, Int.reduceSub, f1, f3, a1, a2, a3, List.length_map]
        all_goals simp_all
      · simp only [wCo, wFr, wOp, wBi, wLst, wLog, xB_other, Nat.reduceBEq, unT, loadP, storeP, partP, partT, partV, cellsP, mkAgg, allT, setRange, fillP, fieldA, indexS, indexA, indexV, indexStr, elems, lenP, pickV, cviV, nckV, extV, isNil, bound, close, close1, aft, retV, retSl, Go.Pi.one, eqT, eqs, eq1, Nat.reduceEqDiff, Nat.reduceAdd, Nat.reduceSub, Nat.reduceMul, Nat.reduceLeDiff, Nat.reduceLT, Nat.one_ne_zero, Nat.zero_ne_one, reduceIte, reduceCtorEq, bne_self_eq_false, decide_true, decide_false, Int.reduceToNat, Int.cast_ofNat_Int, Int.reduceLT, Int.reduceLE, Int.reduceEq, Int.reduceNeg, Int.reduceAdd, Int.reduceSub, f1, f3, a1, a2, a3, List.length_map]
        all_goals simp_all
    · simp only [wCo, wFr, wOp, wBi, wLst, wLog, xB_other, Nat.reduceBEq, unT, loadP, storeP, partP, partT, partV, cellsP, mkAgg, allT, setRange, fillP, fieldA, indexS, indexA, indexV, indexStr, elems, lenP, pickV, cviV, nckV, extV, isNil, bound, close, close1, aft, retV, retSl, Go.Pi.one, eqT, eqs, eq1, Nat.reduceEqDiff, Nat.reduceAdd, Nat.reduceSub, Nat.reduceMul, Nat.reduceLeDiff, Nat.reduceLT, Nat.one_ne_zero, Nat.zero_ne_one, reduceIte, reduceCtorEq, bne_self_eq_false, decide_true, decide_false, Int.reduceToNat, Int.cast_ofNat_Int, Int.reduceLT, Int.reduceLE, Int.reduceEq, Int.reduceNeg, Int.reduceAdd, Int.reduceSub, f1, f3, a1, a2, List.length_map]
      all_goals simp_all
  · simp only [wCo, wFr, wOp, wBi, wLst, wLog, xB_other, Nat.reduceBEq, unT, loadP, storeP, partP, partT, partV, cellsP, mkAgg, allT, setRange, fillP, fieldA, indexS, indexA, indexV, indexStr, elems, lenP, pickV, cviV, nckV, extV, isNil, bound, close, close1, aft, retV, retSl, Go.Pi.one, eqT, eqs, eq1, Nat.reduceEqDiff, Nat.reduceAdd, Nat.reduceSub, Nat.reduceMul, Nat.reduceLeDiff, Nat.reduceLT, Nat.one_ne_zero, Nat.zero_ne_one, reduceIte, reduceCtorEq, bne_self_eq_false, decide_true, decide_false, Int.reduceToNat, Int.cast_ofNat_Int, Int.reduceLT, Int.reduceLE, Int.reduceEq, Int.reduceNeg, Int.reduceAdd, Int.reduceSub, f1, f3, a1, List.length_map]
    all_goals simp_all
end Go.Proofs.Ytdjcnfacjfnakaa
