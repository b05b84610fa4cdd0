/- Contracts: steps. -/
import Derived.Test.YtdjcnfacjfnakaaK16
import Derived.Test.YtdjcnfacjfnakaaKx18
set_option maxRecDepth 10000
set_option linter.unusedVariables false
set_option linter.unusedSimpArgs false
namespace Go.Proofs.Ytdjcnfacjfnakaa
open Go.Pi Go.Lx Go.Ky Go.Lib
variable {gl : Nat → Option (List T)}

abbrev iKs (ks : Ks) : List PV := ents (fun x => T.int .i64 x) ks
/-- The calls' steps of an expression. -/
def CsSpec (gl : Nat → Option (List T)) (e : Exp) : Prop :=
  ∀ (sg : Sg) (k : Nat) (ks : Ks) (ow : Ow), sg[k]? = some (true, iKs ks) → KsB ks → CallE F gl 38 [.t (.agg (tEx e)), .mp k] sg ow fun v sg' ow' => v = .t (.int .i64 (csE ks e)) ∧ Grow sg sg' ∧ ow' = ow
theorem loop38 {ls : List Exp} {nl : Bool} (hls : ls.length ≤ B20) (hrec : ∀ s, s ∈ ls → CsSpec gl s) {k : Nat} {ks : Ks} (hkb : KsB ks) {sg0 : Sg} (hk : sg0[k]? = some (true, iKs ks)) {ow : Ow} (Q : Ex → S → Prop) : ∀ (l : List Exp) (i : Nat) (n : Int) (fr : List PV) (sg : Sg), ls.drop i = l → Grow sg0 sg → 0 ≤ n → n ≤ 20002 →
    FrAt fr [(1, .mp k), (5, .t (.int .i64 n)), (17, .t (.sl nl (tExs ls))), (18, .t (.int .i64 ls.length)), (19, .t (.int .i64 i))] →
    (∀ fr' sg', Grow sg0 sg' → fget fr' 5 = .t (.int .i64 (csEs ks l n)) → Q (.exit 0) ⟨fr', sg', ow⟩) →
    Xl F gl lb38_0 ⟨fr, sg, ow⟩ Q ⟨⟩ := by
  intro l
  induction l with
  | nil =>
    intro i n fr sg hd hg hn0 hn1 hf k1
    have hd := drop_nil' hd
    simp only [FrAt_cons, FrAt_nil] at hf
    obtain ⟨f1, f5, f14, f15, f16, -⟩ := hf
    refine Xl.step ?_
    simp only [lb38_0]
    have c1 : ¬ ((i : Int) < (ls.length : Int)) := by omega
    have hem : csEs ks [] n = n := by rw [csEs]
    rw [hem] at k1
    simp only [wCo, wFr, wOp, wBi, wLst, wLog, xB_other, Nat.reduceBEq, unT, loadP, storeP, partP, partT, partV, cellsP, mkAgg, allT, setRange, fillP, fieldA, indexS, indexA, indexV, indexStr, elems, lenP, pickV, cviV, nckV, extV, isNil, bound, close, close1, aft, retV, retSl, Go.Pi.one, eqT, eqs, eq1, Nat.reduceEqDiff, Nat.reduceAdd, Nat.reduceSub, Nat.reduceMul, Nat.reduceLeDiff, Nat.reduceLT, Nat.one_ne_zero, Nat.zero_ne_one, reduceIte, reduceCtorEq, bne_self_eq_false, decide_true, decide_false, Int.reduceToNat, Int.cast_ofNat_Int, Int.reduceLT, Int.reduceLE, Int.reduceEq, Int.reduceNeg, Int.reduceAdd, Int.reduceSub, f1, f5, f14, f15, f16, c1]
    exact k1 _ _ hg (by simp only [FrAt_cons, FrAt_nil, wFr, Nat.reduceEqDiff, Nat.one_ne_zero, Nat.zero_ne_one, reduceIte, and_self, and_true, true_and, f5])
  | cons x l ih =>
    intro i n fr sg hd hg hn0 hn1 hf k1
    obtain ⟨hx, hr, hi⟩ := drop_cons hd
    simp only [FrAt_cons, FrAt_nil] at hf
    obtain ⟨f1, f5, f14, f15, f16, -⟩ := hf
    refine Xl.step ?_
    simp only [lb38_0]
    have c1 : (i : Int) < (ls.length : Int) := by omega
    have hw1 := i64_succ hi (show ls.length ≤ 281474976710656 by have : B20 = 1100000 := rfl; omega)
    rw [csEs] at k1
    have hcr := csE_range hkb x
    have hw2 : IntKind.wrap .i64 (n + csE ks x) = n + csE ks x := wrap_id (by omega) (by omega)
    have hs := fun r => hrec x (List.mem_of_getElem? hx) (sg ++ r) k ks ow (get_more (hg.get hk)) hkb
    simp only [tEx_eq] at hs
    simp only [wCo, wFr, wOp, wBi, wLst, wLog, xB_other, Nat.reduceBEq, unT, loadP, storeP, partP, partT, partV, cellsP, mkAgg, allT, setRange, fillP, fieldA, indexS, indexA, indexV, indexStr, elems, lenP, pickV, cviV, nckV, extV, isNil, bound, close, close1, aft, retV, retSl, Go.Pi.one, eqT, eqs, eq1, Nat.reduceEqDiff, Nat.reduceAdd, Nat.reduceSub, Nat.reduceMul, Nat.reduceLeDiff, Nat.reduceLT, Nat.one_ne_zero, Nat.zero_ne_one, reduceIte, reduceCtorEq, bne_self_eq_false, decide_true, decide_false, Int.reduceToNat, Int.cast_ofNat_Int, Int.reduceLT, Int.reduceLE, Int.reduceEq, Int.reduceNeg, Int.reduceAdd, Int.reduceSub, f1, f5, f14, f15, f16, c1, hw1, Int.toNat_natCast, hi, tExs_get, hx, Option.map_some, tEx_eq]
    refine CallE.mono (hs _) ?_
    rintro v sg' ow' ⟨rfl, hg', rfl⟩
    simp only [wCo, wFr, wOp, wBi, wLst, wLog, xB_other, Nat.reduceBEq, unT, loadP, storeP, partP, partT, partV, cellsP, mkAgg, allT, setRange, fillP, fieldA, indexS, indexA, indexV, indexStr, elems, lenP, pickV, cviV, nckV, extV, isNil, bound, close, close1, aft, retV, retSl, Go.Pi.one, eqT, eqs, eq1, Nat.reduceEqDiff, Nat.reduceAdd, Nat.reduceSub, Nat.reduceMul, Nat.reduceLeDiff, Nat.reduceLT, Nat.one_ne_zero, Nat.zero_ne_one, reduceIte, reduceCtorEq, bne_self_eq_false, decide_true, decide_false, Int.reduceToNat, Int.cast_ofNat_Int, Int.reduceLT, Int.reduceLE, Int.reduceEq, Int.reduceNeg, Int.reduceAdd, Int.reduceSub, f1, f5, f14, f15, f16, hw1, hw2, mxT]
    exact ih (i + 1) (mn 20001 (n + csE ks x)) _ _ hr (hg.trans ((Grow.app _ _).trans hg')) (mn_ge (by omega) (by omega)) (by have := mn_le 20001 (n + csE ks x); omega) (by simp only [FrAt_cons, FrAt_nil, wFr, Nat.reduceEqDiff, Nat.one_ne_zero, Nat.zero_ne_one, reduceIte, and_self, and_true, true_and, f1, f14, f15]; first | done | rfl) k1
theorem ok38 : ∀ e, szE e ≤ B20 → CsSpec gl e := by
  refine Exp.ind fun e ih hsz => ?_
  have hrec : ∀ a, a ∈ e.args → CsSpec gl a := fun a ha => ih a ha ((szE_args hsz).2 a ha)
  have hn : e.args.length ≤ B20 := (szE_args hsz).1
  intro sg k ks ow hk hkb
  refine XcE.of F38 rfl ?_
  simp only [ir38]
  have hkl := lt_of_get hk
  have hl := hkb e.name
  rw [csE_eq]
  have hr := csEs_range (ks := ks) e.args (fun x _ => csE_range hkb x) (if e.op = 5 then 1 + lookI e.name ks else 0) (by split <;> omega) (by split <;> omega)
  by_cases h5 : e.op = 5
  · have hw : IntKind.wrap .i64 (1 + lookI e.name ks) = 1 + lookI e.name ks := wrap_id (by omega) (by omega)
    rw [if_pos h5]
    have hgd : Option.getD (Option.map (fun x => T.int .i64 x) (Ky.look e.name ks)) (T.int .i64 0) = T.int .i64 (lookI e.name ks) := by
      unfold lookI; cases Ky.look e.name ks <;> rfl
    simp only [wCo, wFr, wOp, wBi, wLst, wLog, xB_other, Nat.reduceBEq, unT, loadP, storeP, partP, partT, partV, cellsP, mkAgg, allT, setRange, fillP, fieldA, indexS, indexA, indexV, indexStr, elems, lenP, pickV, cviV, nckV, extV, isNil, bound, close, close1, aft, retV, retSl, Go.Pi.one, eqT, eqs, eq1, Nat.reduceEqDiff, Nat.reduceAdd, Nat.reduceSub, Nat.reduceMul, Nat.reduceLeDiff, Nat.reduceLT, Nat.one_ne_zero, Nat.zero_ne_one, reduceIte, reduceCtorEq, bne_self_eq_false, decide_true, decide_false, Int.reduceToNat, Int.cast_ofNat_Int, Int.reduceLT, Int.reduceLE, Int.reduceEq, Int.reduceNeg, Int.reduceAdd, Int.reduceSub, tEx_eq, h5, app_get hkl, hk, mlkP, mfind_ents, hgd, hw, tExs_len]
    refine loop38 hn hrec hkb (get_more hk) _ e.args 0 (1 + lookI e.name ks) _ _ rfl (Grow.refl _) (by omega) (by omega) (by simp only [FrAt_cons, FrAt_nil, wFr, Nat.reduceEqDiff, Nat.one_ne_zero, Nat.zero_ne_one, reduceIte, and_self, and_true, true_and]; first | done | exact ⟨rfl, rfl⟩ | rfl) ?_
    intro fr' sg' hg f5
    simp only [wCo, wFr, wOp, wBi, wLst, wLog, xB_other, Nat.reduceBEq, unT, loadP, storeP, partP, partT, partV, cellsP, mkAgg, allT, setRange, fillP, fieldA, indexS, indexA, indexV, indexStr, elems, lenP, pickV, cviV, nckV, extV, isNil, bound, close, close1, aft, retV, retSl, Go.Pi.one, eqT, eqs, eq1, Nat.reduceEqDiff, Nat.reduceAdd, Nat.reduceSub, Nat.reduceMul, Nat.reduceLeDiff, Nat.reduceLT, Nat.one_ne_zero, Nat.zero_ne_one, reduceIte, reduceCtorEq, bne_self_eq_false, decide_true, decide_false, Int.reduceToNat, Int.cast_ofNat_Int, Int.reduceLT, Int.reduceLE, Int.reduceEq, Int.reduceNeg, Int.reduceAdd, Int.reduceSub, f5, mxT]
    exact ⟨rfl, (Grow.app _ _).trans hg⟩
  · rw [if_neg h5]
    simp only [wCo, wFr, wOp, wBi, wLst, wLog, xB_other, Nat.reduceBEq, unT, loadP, storeP, partP, partT, partV, cellsP, mkAgg, allT, setRange, fillP, fieldA, indexS, indexA, indexV, indexStr, elems, lenP, pickV, cviV, nckV, extV, isNil, bound, close, close1, aft, retV, retSl, Go.Pi.one, eqT, eqs, eq1, Nat.reduceEqDiff, Nat.reduceAdd, Nat.reduceSub, Nat.reduceMul, Nat.reduceLeDiff, Nat.reduceLT, Nat.one_ne_zero, Nat.zero_ne_one, reduceIte, reduceCtorEq, bne_self_eq_false, decide_true, decide_false, Int.reduceToNat, Int.cast_ofNat_Int, Int.reduceLT, Int.reduceLE, Int.reduceEq, Int.reduceNeg, Int.reduceAdd, Int.reduceSub, tEx_eq, h5, tExs_len]
    refine loop38 hn hrec hkb (get_more hk) _ e.args 0 0 _ _ rfl (Grow.refl _) (by omega) (by omega) (by simp only [FrAt_cons, FrAt_nil, wFr, Nat.reduceEqDiff, Nat.one_ne_zero, Nat.zero_ne_one, reduceIte, and_self, and_true, true_and]; first | done | exact ⟨rfl, rfl⟩ | rfl) ?_
    intro fr' sg' hg f5
    simp only [wCo, wFr, wOp, wBi, wLst, wLog, xB_other, Nat.reduceBEq, unT, loadP, storeP, partP, partT, partV, cellsP, mkAgg, allT, setRange, fillP, fieldA, indexS, indexA, indexV, indexStr, elems, lenP, pickV, cviV, nckV, extV, isNil, bound, close, close1, aft, retV, retSl, Go.Pi.one, eqT, eqs, eq1, Nat.reduceEqDiff, Nat.reduceAdd, Nat.reduceSub, Nat.reduceMul, Nat.reduceLeDiff, Nat.reduceLT, Nat.one_ne_zero, Nat.zero_ne_one, reduceIte, reduceCtorEq, bne_self_eq_false, decide_true, decide_false, Int.reduceToNat, Int.cast_ofNat_Int, Int.reduceLT, Int.reduceLE, Int.reduceEq, Int.reduceNeg, Int.reduceAdd, Int.reduceSub, f5, mxT]
    exact ⟨rfl, (Grow.app _ _).trans hg⟩
/-- The steps of a list of statements. -/
def LsSpec (gl : Nat → Option (List T)) (l : List St) : Prop :=
  ∀ (nl : Bool) (sg : Sg) (k : Nat) (ks : Ks) (ow : Ow), sg[k]? = some (true, iKs ks) → KsB ks → CallE F gl 37 [.t (.sl nl (tSts l)), .mp k] sg ow fun v sg' ow' => v = .t (.int .i64 (bsSs ks l 0)) ∧ Grow sg sg' ∧ ow' = ow
theorem loop37 {ls : List St} {nl : Bool} (hls : ls.length ≤ B20) (hlk : ls.all lkS = true) (hsz : ∀ s, s ∈ ls → szE s.ex ≤ B20) (hrec : ∀ s, s ∈ ls → s.kind = 3 → LsSpec gl s.body) {k : Nat} {ks : Ks} (hkb : KsB ks) {sg0 : Sg} (hk : sg0[k]? = some (true, iKs ks)) {ow : Ow} (Q : Ex → S → Prop) : ∀ (l : List St) (i : Nat) (n : Int) (fr : List PV) (sg : Sg), ls.drop i = l → Grow sg0 sg → 0 ≤ n → n ≤ 20001 →
    FrAt fr [(1, .mp k), (5, .t (.int .i64 n)), (8, .t (.sl nl (tSts ls))), (9, .t (.int .i64 ls.length)), (10, .t (.int .i64 i))] →
    (∀ fr' sg', Grow sg0 sg' → fget fr' 5 = .t (.int .i64 (bsSs ks l n)) → Q (.exit 0) ⟨fr', sg', ow⟩) →
    Xl F gl lb37_0 ⟨fr, sg, ow⟩ Q ⟨⟩ := by
  intro l
  induction l with
  | nil =>
    intro i n fr sg hd hg hn0 hn1 hf k1
    have hd := drop_nil' hd
    simp only [FrAt_cons, FrAt_nil] at hf
    obtain ⟨f1, f5, f14, f15, f16, -⟩ := hf
    refine Xl.step ?_
    simp only [lb37_0]
    have c1 : ¬ ((i : Int) < (ls.length : Int)) := by omega
    have hem : bsSs ks [] n = n := by rw [bsSs]
    rw [hem] at k1
    simp only [wCo, wFr, wOp, wBi, wLst, wLog, xB_other, Nat.reduceBEq, unT, loadP, storeP, partP, partT, partV, cellsP, mkAgg, allT, setRange, fillP, fieldA, indexS, indexA, indexV, indexStr, elems, lenP, pickV, cviV, nckV, extV, isNil, bound, close, close1, aft, retV, retSl, Go.Pi.one, eqT, eqs, eq1, Nat.reduceEqDiff, Nat.reduceAdd, Nat.reduceSub, Nat.reduceMul, Nat.reduceLeDiff, Nat.reduceLT, Nat.one_ne_zero, Nat.zero_ne_one, reduceIte, reduceCtorEq, bne_self_eq_false, decide_true, decide_false, Int.reduceToNat, Int.cast_ofNat_Int, Int.reduceLT, Int.reduceLE, Int.reduceEq, Int.reduceNeg, Int.reduceAdd, Int.reduceSub, f1, f5, f14, f15, f16, c1]
    exact k1 _ _ hg (by simp only [FrAt_cons, FrAt_nil, wFr, Nat.reduceEqDiff, Nat.one_ne_zero, Nat.zero_ne_one, reduceIte, and_self, and_true, true_and, f5])
  | cons x l ih =>
    intro i n fr sg hd hg hn0 hn1 hf k1
    obtain ⟨hx, hr, hi⟩ := drop_cons hd
    simp only [FrAt_cons, FrAt_nil] at hf
    obtain ⟨f1, f5, f14, f15, f16, -⟩ := hf
    refine Xl.step ?_
    simp only [lb37_0]
    have c1 : (i : Int) < (ls.length : Int) := by omega
    have hw1 := i64_succ hi (show ls.length ≤ 281474976710656 by have : B20 = 1100000 := rfl; omega)
    rw [bsSs] at k1
    have hmem := List.mem_of_getElem? hx
    have hlx := List.all_eq_true.1 hlk x hmem
    have hbr := bsS_range hkb x hlx
    have hw2 : IntKind.wrap .i64 (n + bsS ks x) = n + bsS ks x := wrap_id (by omega) (by omega)
    have hbe := bsS_eq ks x
    have hgk := hg.get hk
    have cell : ∀ r : Sg, ∀ sg', Grow (sg ++ (false, [PV.t (.int .i64 x.kind), .t (.str x.name), .t (.bool x.typed), .t (.int .i64 x.ty.kind), .t (.int .i64 x.ty.bits), .t (.int .i64 x.ty.len), .t (.int .i64 x.ex.op), .t (.int .u64 x.ex.val), .t (.str x.ex.name), .t (.sl x.ex.nl (tExs x.ex.args)), .t (.int .i64 x.lo), .t (.int .i64 x.hi), .t (.sl x.nl (tSts x.body))]) :: r) sg' → sg'[sg.length]? = some (false, [PV.t (.int .i64 x.kind), .t (.str x.name), .t (.bool x.typed), .t (.int .i64 x.ty.kind), .t (.int .i64 x.ty.bits), .t (.int .i64 x.ty.len), .t (.int .i64 x.ex.op), .t (.int .u64 x.ex.val), .t (.str x.ex.name), .t (.sl x.ex.nl (tExs x.ex.args)), .t (.int .i64 x.lo), .t (.int .i64 x.hi), .t (.sl x.nl (tSts x.body))]) := fun r sg' h => h.get (by simp)
    by_cases h3 : x.kind = 3
    · rw [if_pos h3] at hbe
      have hlx2 := hlx
      rw [lkS_eq, if_pos h3] at hlx2
      simp only [Bool.and_eq_true, decide_eq_true_eq] at hlx2
      obtain ⟨⟨⟨l1, l2⟩, l3⟩, l4⟩ := hlx2
      have hw3 : IntKind.wrap .i64 (x.hi - x.lo) = x.hi - x.lo := wrap_id (by omega) (by omega)
      have hw4 : IntKind.wrap .i64 ((x.hi - x.lo) * bsSs ks x.body 0) = bsS ks x := by rw [← hbe]; exact wrap_id (by omega) (by omega)
      have hs := fun r => hrec x hmem h3 x.nl (sg ++ r) k ks ow (get_more hgk) hkb
      simp only [h3] at cell
      simp only [wCo, wFr, wOp, wBi, wLst, wLog, xB_other, Nat.reduceBEq, unT, loadP, storeP, partP, partT, partV, cellsP, mkAgg, allT, setRange, fillP, fieldA, indexS, indexA, indexV, indexStr, elems, lenP, pickV, cviV, nckV, extV, isNil, bound, close, close1, aft, retV, retSl, Go.Pi.one, eqT, eqs, eq1, Nat.reduceEqDiff, Nat.reduceAdd, Nat.reduceSub, Nat.reduceMul, Nat.reduceLeDiff, Nat.reduceLT, Nat.one_ne_zero, Nat.zero_ne_one, reduceIte, reduceCtorEq, bne_self_eq_false, decide_true, decide_false, Int.reduceToNat, Int.cast_ofNat_Int, Int.reduceLT, Int.reduceLE, Int.reduceEq, Int.reduceNeg, Int.reduceAdd, Int.reduceSub, f1, f5, f14, f15, f16, c1, hw1, hw3, Int.toNat_natCast, hi, tSts_get, hx, Option.map_some, tSt_eq, h3, keepsV_cons, keepsV_nil, keepP, keep1_self, loadK]
      refine CallE.mono (hs _) ?_
      rintro v sg' ow' ⟨rfl, hg', rfl⟩
      have jc := cell _ _ hg'
      simp only [wCo, wFr, wOp, wBi, wLst, wLog, xB_other, Nat.reduceBEq, unT, loadP, storeP, partP, partT, partV, cellsP, mkAgg, allT, setRange, fillP, fieldA, indexS, indexA, indexV, indexStr, elems, lenP, pickV, cviV, nckV, extV, isNil, bound, close, close1, aft, retV, retSl, Go.Pi.one, eqT, eqs, eq1, Nat.reduceEqDiff, Nat.reduceAdd, Nat.reduceSub, Nat.reduceMul, Nat.reduceLeDiff, Nat.reduceLT, Nat.one_ne_zero, Nat.zero_ne_one, reduceIte, reduceCtorEq, bne_self_eq_false, decide_true, decide_false, Int.reduceToNat, Int.cast_ofNat_Int, Int.reduceLT, Int.reduceLE, Int.reduceEq, Int.reduceNeg, Int.reduceAdd, Int.reduceSub, f1, f5, f14, f15, f16, hw1, hw2, hw4, mxT, jc, keepsV_cons, keepsV_nil, keepP, keep1_self]
      exact ih (i + 1) (mn (n + bsS ks x) 20001) _ _ hr (hg.trans ((Grow.app _ _).trans hg')) (mn_ge (by omega) (by omega)) (mn_le _ _).2 (by simp only [FrAt_cons, FrAt_nil, wFr, Nat.reduceEqDiff, Nat.one_ne_zero, Nat.zero_ne_one, reduceIte, and_self, and_true, true_and, f1, f14, f15]; first | done | rfl) k1
    · rw [if_neg h3] at hbe
      have hs := fun r => ok38 (gl := gl) x.ex (hsz x hmem) (sg ++ r) k ks ow (get_more hgk) hkb
      have hcr := csE_range hkb x.ex
      have hw3 : IntKind.wrap .i64 (1 + csE ks x.ex) = bsS ks x := by rw [hbe]; exact wrap_id (by omega) (by omega)
      simp only [tEx_eq] at hs
      simp only [wCo, wFr, wOp, wBi, wLst, wLog, xB_other, Nat.reduceBEq, unT, loadP, storeP, partP, partT, partV, cellsP, mkAgg, allT, setRange, fillP, fieldA, indexS, indexA, indexV, indexStr, elems, lenP, pickV, cviV, nckV, extV, isNil, bound, close, close1, aft, retV, retSl, Go.Pi.one, eqT, eqs, eq1, Nat.reduceEqDiff, Nat.reduceAdd, Nat.reduceSub, Nat.reduceMul, Nat.reduceLeDiff, Nat.reduceLT, Nat.one_ne_zero, Nat.zero_ne_one, reduceIte, reduceCtorEq, bne_self_eq_false, decide_true, decide_false, Int.reduceToNat, Int.cast_ofNat_Int, Int.reduceLT, Int.reduceLE, Int.reduceEq, Int.reduceNeg, Int.reduceAdd, Int.reduceSub, f1, f5, f14, f15, f16, c1, hw1, Int.toNat_natCast, hi, tSts_get, hx, Option.map_some, tSt_eq, h3]
      refine CallE.mono (hs _) ?_
      rintro v sg' ow' ⟨rfl, hg', rfl⟩
      simp only [wCo, wFr, wOp, wBi, wLst, wLog, xB_other, Nat.reduceBEq, unT, loadP, storeP, partP, partT, partV, cellsP, mkAgg, allT, setRange, fillP, fieldA, indexS, indexA, indexV, indexStr, elems, lenP, pickV, cviV, nckV, extV, isNil, bound, close, close1, aft, retV, retSl, Go.Pi.one, eqT, eqs, eq1, Nat.reduceEqDiff, Nat.reduceAdd, Nat.reduceSub, Nat.reduceMul, Nat.reduceLeDiff, Nat.reduceLT, Nat.one_ne_zero, Nat.zero_ne_one, reduceIte, reduceCtorEq, bne_self_eq_false, decide_true, decide_false, Int.reduceToNat, Int.cast_ofNat_Int, Int.reduceLT, Int.reduceLE, Int.reduceEq, Int.reduceNeg, Int.reduceAdd, Int.reduceSub, f1, f5, f14, f15, f16, hw1, hw2, hw3, mxT]
      exact ih (i + 1) (mn (n + bsS ks x) 20001) _ _ hr (hg.trans ((Grow.app _ _).trans hg')) (mn_ge (by omega) (by omega)) (mn_le _ _).2 (by simp only [FrAt_cons, FrAt_nil, wFr, Nat.reduceEqDiff, Nat.one_ne_zero, Nat.zero_ne_one, reduceIte, and_self, and_true, true_and, f1, f14, f15]; first | done | rfl) k1
theorem okl37 {ls : List St} (hls : ls.length ≤ B20) (hlk : ls.all lkS = true) (hsz : ∀ s, s ∈ ls → szE s.ex ≤ B20) (hrec : ∀ s, s ∈ ls → s.kind = 3 → LsSpec gl s.body) : LsSpec gl ls := by
  intro nl sg k ks ow hk hkb
  refine XcE.of F37 rfl ?_
  simp only [ir37]
  simp only [wCo, wFr, wOp, wBi, wLst, wLog, xB_other, Nat.reduceBEq, unT, loadP, storeP, partP, partT, partV, cellsP, mkAgg, allT, setRange, fillP, fieldA, indexS, indexA, indexV, indexStr, elems, lenP, pickV, cviV, nckV, extV, isNil, bound, close, close1, aft, retV, retSl, Go.Pi.one, eqT, eqs, eq1, Nat.reduceEqDiff, Nat.reduceAdd, Nat.reduceSub, Nat.reduceMul, Nat.reduceLeDiff, Nat.reduceLT, Nat.one_ne_zero, Nat.zero_ne_one, reduceIte, reduceCtorEq, bne_self_eq_false, decide_true, decide_false, Int.reduceToNat, Int.cast_ofNat_Int, Int.reduceLT, Int.reduceLE, Int.reduceEq, Int.reduceNeg, Int.reduceAdd, Int.reduceSub, tSts_len]
  refine loop37 hls hlk hsz hrec hkb hk _ ls 0 0 _ _ rfl (Grow.refl _) (by omega) (by omega) (by simp only [FrAt_cons, FrAt_nil, wFr, Nat.reduceEqDiff, Nat.one_ne_zero, Nat.zero_ne_one, reduceIte, and_self, and_true, true_and]; first | done | exact ⟨rfl, rfl⟩ | rfl) ?_
  intro fr' sg' hg f5
  simp only [wCo, wFr, wOp, wBi, wLst, wLog, xB_other, Nat.reduceBEq, unT, loadP, storeP, partP, partT, partV, cellsP, mkAgg, allT, setRange, fillP, fieldA, indexS, indexA, indexV, indexStr, elems, lenP, pickV, cviV, nckV, extV, isNil, bound, close, close1, aft, retV, retSl, Go.Pi.one, eqT, eqs, eq1, Nat.reduceEqDiff, Nat.reduceAdd, Nat.reduceSub, Nat.reduceMul, Nat.reduceLeDiff, Nat.reduceLT, Nat.one_ne_zero, Nat.zero_ne_one, reduceIte, reduceCtorEq, bne_self_eq_false, decide_true, decide_false, Int.reduceToNat, Int.cast_ofNat_Int, Int.reduceLT, Int.reduceLE, Int.reduceEq, Int.reduceNeg, Int.reduceAdd, Int.reduceSub, f5]
  exact hg
theorem okr37 : ∀ s, lkS s = true → szS s ≤ B20 → s.kind = 3 → LsSpec gl s.body := by
  refine St.ind fun s ih hlk hsz h3 => ?_
  rw [lkS_eq, if_pos h3] at hlk
  simp only [Bool.and_eq_true] at hlk
  have hb := szS_body hsz
  exact okl37 hb.1 hlk.2 (fun x hx => Nat.le_trans (szS_ex x) (hb.2 x hx)) (fun x hx h => ih x hx (List.all_eq_true.1 hlk.2 x hx) (hb.2 x hx) h)
theorem ok37 {ls : List St} (hlk : ls.all lkS = true) (hsz : szSs ls ≤ B20) : LsSpec gl ls :=
  okl37 (Nat.le_trans (szSs_len _) hsz) hlk (fun x hx => Nat.le_trans (szS_ex x) (Nat.le_trans (szSs_mem hx) hsz)) fun x hx h => okr37 x (List.all_eq_true.1 hlk x hx) (Nat.le_trans (szSs_mem hx) hsz) h
theorem loop24 {ls : List Fu} {nl : Bool} (hls : ls.length ≤ B20) (hlk : ∀ f, f ∈ ls → f.body.all lkS = true ∧ szSs f.body ≤ B20 ∧ szE f.ret ≤ B20) {k : Nat} {b1 : Nat} {sg0 : Sg} (hk0 : k < sg0.length) {ow : Ow} (Q : Ex → S → Prop) : ∀ (l : List Fu) (i : Nat) (ks : Ks) (fr : List PV) (sg : Sg), ls.drop i = l → Fr k sg0 sg → KsB ks → sg[k]? = some (true, iKs ks) →
    FrAt fr [(1, .lp b1 0), (3, .mp k), (8, .t (.sl nl (ls.map fun f => tFu f))), (9, .t (.int .i64 ls.length)), (10, .t (.int .i64 i))] →
    (∀ fr' sg', Fr k sg0 sg' → KsB (stepK l ks) → sg'[k]? = some (true, iKs (stepK l ks)) → FrAt fr' [(1, .lp b1 0), (3, .mp k)] → Q (.exit 0) ⟨fr', sg', ow⟩) →
    Xl F gl lb24_0 ⟨fr, sg, ow⟩ Q ⟨⟩ := by
  intro l
  induction l with
  | nil =>
    intro i ks fr sg hd hg hkb hk hf k1
    have hd := drop_nil' hd
    simp only [FrAt_cons, FrAt_nil] at hf
    obtain ⟨f1, f3, f14, f15, f16, -⟩ := hf
    refine Xl.step ?_
    simp only [lb24_0]
    have c1 : ¬ ((i : Int) < (ls.length : Int)) := by omega
    have hem : stepK [] ks = ks := by rw [stepK]
    rw [hem] at k1
    simp only [wCo, wFr, wOp, wBi, wLst, wLog, xB_other, Nat.reduceBEq, unT, loadP, storeP, partP, partT, partV, cellsP, mkAgg, allT, setRange, fillP, fieldA, indexS, indexA, indexV, indexStr, elems, lenP, pickV, cviV, nckV, extV, isNil, bound, close, close1, aft, retV, retSl, Go.Pi.one, eqT, eqs, eq1, Nat.reduceEqDiff, Nat.reduceAdd, Nat.reduceSub, Nat.reduceMul, Nat.reduceLeDiff, Nat.reduceLT, Nat.one_ne_zero, Nat.zero_ne_one, reduceIte, reduceCtorEq, bne_self_eq_false, decide_true, decide_false, Int.reduceToNat, Int.cast_ofNat_Int, Int.reduceLT, Int.reduceLE, Int.reduceEq, Int.reduceNeg, Int.reduceAdd, Int.reduceSub, f1, f3, f14, f15, f16, c1]
    exact k1 _ _ hg hkb hk (by simp only [FrAt_cons, FrAt_nil, wFr, Nat.reduceEqDiff, Nat.one_ne_zero, Nat.zero_ne_one, reduceIte, and_self, and_true, true_and, f1, f3])
  | cons x l ih =>
    intro i ks fr sg hd hg hkb hk hf k1
    obtain ⟨hx, hr, hi⟩ := drop_cons hd
    simp only [FrAt_cons, FrAt_nil] at hf
    obtain ⟨f1, f3, f14, f15, f16, -⟩ := hf
    refine Xl.step ?_
    simp only [lb24_0]
    have c1 : (i : Int) < (ls.length : Int) := by omega
    have hw1 := i64_succ hi (show ls.length ≤ 281474976710656 by have : B20 = 1100000 := rfl; omega)
    rw [stepK] at k1
    obtain ⟨x1, x2, x3⟩ := hlk x (List.mem_of_getElem? hx)
    have hbr := bsSs_range (ks := ks) x.body (fun s hs => (bsS_range hkb s (List.all_eq_true.1 x1 s hs)).1) 0 (by omega) (by omega)
    have hcr := csE_range hkb x.ret
    have hw2 : IntKind.wrap .i64 (bsSs ks x.body 0 + csE ks x.ret) = bsSs ks x.body 0 + csE ks x.ret := wrap_id (by omega) (by omega)
    have hs1 := fun r => ok37 (gl := gl) x1 x2 x.bnl (sg ++ r) k ks ow (get_more hk) hkb
    have hs2 := fun sg2 (h : sg2[k]? = some (true, iKs ks)) => ok38 (gl := gl) x.ret x3 sg2 k ks ow h hkb
    simp only [tEx_eq] at hs2
    have cell : ∀ r : Sg, ∀ sg', Grow (sg ++ (false, cFu x) :: r) sg' → sg'[sg.length]? = some (false, cFu x) := fun r sg' h => h.get (by simp)
    simp only [wCo, wFr, wOp, wBi, wLst, wLog, xB_other, Nat.reduceBEq, unT, loadP, storeP, partP, partT, partV, cellsP, mkAgg, allT, setRange, fillP, fieldA, indexS, indexA, indexV, indexStr, elems, lenP, pickV, cviV, nckV, extV, isNil, bound, close, close1, aft, retV, retSl, Go.Pi.one, eqT, eqs, eq1, Nat.reduceEqDiff, Nat.reduceAdd, Nat.reduceSub, Nat.reduceMul, Nat.reduceLeDiff, Nat.reduceLT, Nat.one_ne_zero, Nat.zero_ne_one, reduceIte, reduceCtorEq, bne_self_eq_false, decide_true, decide_false, Int.reduceToNat, Int.cast_ofNat_Int, Int.reduceLT, Int.reduceLE, Int.reduceEq, Int.reduceNeg, Int.reduceAdd, Int.reduceSub, f1, f3, f14, f15, f16, c1, hw1, Int.toNat_natCast, hi, List.getElem?_map, hx, Option.map_some, keepsV_cons, keepsV_nil, keepP, keep1_self, loadK]
    refine CallE.mono (hs1 _) ?_
    rintro v sg1 ow1 ⟨rfl, hg1, rfl⟩
    have jc := cell _ _ hg1
    have hk1 := hg1.get (get_more hk)
    simp only [wCo, wFr, wOp, wBi, wLst, wLog, xB_other, Nat.reduceBEq, unT, loadP, storeP, partP, partT, partV, cellsP, mkAgg, allT, setRange, fillP, fieldA, indexS, indexA, indexV, indexStr, elems, lenP, pickV, cviV, nckV, extV, isNil, bound, close, close1, aft, retV, retSl, Go.Pi.one, eqT, eqs, eq1, Nat.reduceEqDiff, Nat.reduceAdd, Nat.reduceSub, Nat.reduceMul, Nat.reduceLeDiff, Nat.reduceLT, Nat.one_ne_zero, Nat.zero_ne_one, reduceIte, reduceCtorEq, bne_self_eq_false, decide_true, decide_false, Int.reduceToNat, Int.cast_ofNat_Int, Int.reduceLT, Int.reduceLE, Int.reduceEq, Int.reduceNeg, Int.reduceAdd, Int.reduceSub, f1, f3, f14, f15, f16, hw1, jc, keepsV_cons, keepsV_nil, keepP, keep1_self, loadK]
    refine CallE.mono (hs2 _ hk1) ?_
    rintro v sg2 ow2 ⟨rfl, hg2, rfl⟩
    have jc2 := hg2.get jc
    have hk2 := hg2.get hk1
    have hmp := mset_put x.name (mn 20001 (bsSs ks x.body 0 + csE ks x.ret)) ks
    have hkl2 := lt_of_get hk2
    simp only [wCo, wFr, wOp, wBi, wLst, wLog, xB_other, Nat.reduceBEq, unT, loadP, storeP, partP, partT, partV, cellsP, mkAgg, allT, setRange, fillP, fieldA, indexS, indexA, indexV, indexStr, elems, lenP, pickV, cviV, nckV, extV, isNil, bound, close, close1, aft, retV, retSl, Go.Pi.one, eqT, eqs, eq1, Nat.reduceEqDiff, Nat.reduceAdd, Nat.reduceSub, Nat.reduceMul, Nat.reduceLeDiff, Nat.reduceLT, Nat.one_ne_zero, Nat.zero_ne_one, reduceIte, reduceCtorEq, bne_self_eq_false, decide_true, decide_false, Int.reduceToNat, Int.cast_ofNat_Int, Int.reduceLT, Int.reduceLE, Int.reduceEq, Int.reduceNeg, Int.reduceAdd, Int.reduceSub, f1, f3, f14, f15, f16, hw1, hw2, jc, jc2, hk2, keepsV_cons, keepsV_nil, keepP, keep1_self, loadK, mxT, mupP, mfind_ents]
    refine ih (i + 1) (putK x.name (mn 20001 (bsSs ks x.body 0 + csE ks x.ret)) ks) _ _ hr ((hg.trans (Fr.of ((Grow.app _ _).trans (hg1.trans hg2)))).set _) (hkb.put _ (mn_ge (by omega) (by omega)) (mn_le _ _).1) (by rw [List.getElem?_set_self hkl2]; exact congrArg (fun y => some (true, y)) hmp) (by simp only [FrAt_cons, FrAt_nil, wFr, Nat.reduceEqDiff, Nat.one_ne_zero, Nat.zero_ne_one, reduceIte, and_self, and_true, true_and, f1, f3, f14, f15]; first | done | rfl) k1
theorem ok24 {p : Pg} (hp : PgSt p) (hl1 : ∀ f, f ∈ p.funcs → f.body.all lkS = true) (hl2 : p.body.all lkS = true) {K : PV → Prop} : XcP F gl 24 [.agg (tPg p)] K ⟨⟩ ↔ K (.t (.int .i64 (stepsP p))) := by
  refine Ret.iff (Ret.of F24 rfl ?_)
  simp only [ir24]
  simp only [wCo, wFr, wOp, wBi, wLst, wLog, xB_other, Nat.reduceBEq, unT, loadP, storeP, partP, partT, partV, cellsP, mkAgg, allT, setRange, fillP, fieldA, indexS, indexA, indexV, indexStr, elems, lenP, pickV, cviV, nckV, extV, isNil, bound, close, close1, aft, retV, retSl, Go.Pi.one, eqT, eqs, eq1, Nat.reduceEqDiff, Nat.reduceAdd, Nat.reduceSub, Nat.reduceMul, Nat.reduceLeDiff, Nat.reduceLT, Nat.one_ne_zero, Nat.zero_ne_one, reduceIte, reduceCtorEq, bne_self_eq_false, decide_true, decide_false, Int.reduceToNat, Int.cast_ofNat_Int, Int.reduceLT, Int.reduceLE, Int.reduceEq, Int.reduceNeg, Int.reduceAdd, Int.reduceSub, List.length_map]
  refine loop24 hp.fl (fun f hf => ⟨hl1 f hf, (hp.fs f hf).2.1, (hp.fs f hf).2.2⟩) (k := 1) (b1 := 0) (sg0 := [(false, [PV.t (.sl p.fnl (p.funcs.map fun f => tFu f)), .t (.sl p.dnl (p.decls.map fun f => tDe f)), .t (.sl p.bnl (tSts p.body))]), (true, [])]) (by simp) _ p.funcs 0 [] _ _ rfl (Fr.refl _ _) KsB.nil rfl (by simp only [FrAt_cons, FrAt_nil, wFr, Nat.reduceEqDiff, Nat.one_ne_zero, Nat.zero_ne_one, reduceIte, and_self, and_true, true_and]; first | done | exact ⟨rfl, rfl⟩ | rfl) ?_
  intro fr' sg' hg hkb hk hf
  simp only [FrAt_cons, FrAt_nil] at hf
  obtain ⟨f1, f3, -⟩ := hf
  have j0 := hg.get (i := 0) (x := (false, [PV.t (.sl p.fnl (p.funcs.map fun f => tFu f)), .t (.sl p.dnl (p.decls.map fun f => tDe f)), .t (.sl p.bnl (tSts p.body))])) rfl (by omega)
  simp only [wCo, wFr, wOp, wBi, wLst, wLog, xB_other, Nat.reduceBEq, unT, loadP, storeP, partP, partT, partV, cellsP, mkAgg, allT, setRange, fillP, fieldA, indexS, indexA, indexV, indexStr, elems, lenP, pickV, cviV, nckV, extV, isNil, bound, close, close1, aft, retV, retSl, Go.Pi.one, eqT, eqs, eq1, Nat.reduceEqDiff, Nat.reduceAdd, Nat.reduceSub, Nat.reduceMul, Nat.reduceLeDiff, Nat.reduceLT, Nat.one_ne_zero, Nat.zero_ne_one, reduceIte, reduceCtorEq, bne_self_eq_false, decide_true, decide_false, Int.reduceToNat, Int.cast_ofNat_Int, Int.reduceLT, Int.reduceLE, Int.reduceEq, Int.reduceNeg, Int.reduceAdd, Int.reduceSub, f1, f3, j0]
  refine CallE.mono (ok37 hl2 hp.bs p.bnl sg' 1 _ _ hk hkb) ?_
  rintro v sg2 ow2 ⟨rfl, hg2, rfl⟩
  simp only [wCo, wFr, wOp, wBi, wLst, wLog, xB_other, Nat.reduceBEq, unT, loadP, storeP, partP, partT, partV, cellsP, mkAgg, allT, setRange, fillP, fieldA, indexS, indexA, indexV, indexStr, elems, lenP, pickV, cviV, nckV, extV, isNil, bound, close, close1, aft, retV, retSl, Go.Pi.one, eqT, eqs, eq1, Nat.reduceEqDiff, Nat.reduceAdd, Nat.reduceSub, Nat.reduceMul, Nat.reduceLeDiff, Nat.reduceLT, Nat.one_ne_zero, Nat.zero_ne_one, reduceIte, reduceCtorEq, bne_self_eq_false, decide_true, decide_false, Int.reduceToNat, Int.cast_ofNat_Int, Int.reduceLT, Int.reduceLE, Int.reduceEq, Int.reduceNeg, Int.reduceAdd, Int.reduceSub]
  rfl
end Go.Proofs.Ytdjcnfacjfnakaa
