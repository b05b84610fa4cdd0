/- Contracts: the type of an expression, its arguments. -/
import Derived.Test.YtdjcnfacjfnakaaK11
import Derived.Test.YtdjcnfacjfnakaaKx18
set_option maxRecDepth 10000
set_option linter.unusedVariables false
set_option linter.unusedSimpArgs false
namespace Go.Proofs.Ytdjcnfacjfnakaa
open Go.Pi Go.Lx Go.Ky Go.Lib
variable {gl : Nat → Option (List T)}

theorem loop50 {fs : Fs} {ns : Ns} {e : Exp} (hrec : ∀ a, a ∈ e.args → ExSpec gl fs ns a) (hn : e.args.length ≤ B47) {c f n : Nat} {od : PV} {v : PV} {sg0 sgB : Sg} {w0 : Int} {b3 b4 a6 : Nat} (q3 : b3 = sg0.length) (q4 : b4 = sg0.length + 1) (q6 : a6 = sg0.length + 2) (hk0 : Ck sg0 c f n fs ns od w0) (g0 : Grow sg0 sgB)
    (h3 : sgB[b3]? = some (cEx e)) (h4 : sgB[b4]? = some z3) (hv : 0 < e.args.length → v = .ls a6 0 e.args.length 3) (Q : Ex → S → Prop) : ∀ (l : List Exp) (i : Nat) (done : List Ty) (w : Int) (fr : List PV) (sg : Sg) (ow : Ow), e.args.drop i = l → i ≤ e.args.length → done.length = i → Fr2 c a6 sgB sg → (0 < e.args.length → Arr sg a6 e.args.length done) → sg[c]? = some (false, [.mp f, .mp n, od, .t (.int .i64 w)]) →
    FrAt fr [(0, .lp c 0), (3, .lp b3 0), (4, .lp b4 0), (6, v), (26, .t (.sl e.nl (tExs e.args))), (27, .t (.int .i64 e.args.length)), (28, .t (.int .i64 i))] →
    ((exsM fs ns l w).1.2 = 0 → ∀ fr' sg' ow', Fr2 c a6 sgB sg' → (0 < e.args.length → Arr sg' a6 e.args.length (done ++ (exsM fs ns l w).1.1)) → (done ++ (exsM fs ns l w).1.1).length = e.args.length → sg'[c]? = some (false, [.mp f, .mp n, od, .t (.int .i64 (exsM fs ns l w).2)]) →
      FrAt fr' [(0, .lp c 0), (3, .lp b3 0), (4, .lp b4 0), (6, v)] → Q (.exit 0) ⟨fr', sg', ow'⟩) →
    ((exsM fs ns l w).1.2 ≠ 0 → ∀ fr' sg' ow', Fr2 c a6 sgB sg' → sg'[c]? = some (false, [.mp f, .mp n, od, .t (.int .i64 (exsM fs ns l w).2)]) → fget fr' 4 = .lp b4 0 → fget fr' 5 = .t (.int .i64 (exsM fs ns l w).1.2) → Q .ret ⟨fr', sg', ow'⟩) →
    Xl F gl lb50_0 ⟨fr, sg, ow⟩ Q ⟨⟩ := by
  intro l
  have hcl := lt_of_get hk0.c
  have hfl := lt_of_get hk0.f
  have hnl := lt_of_get hk0.n
  induction l with
  | nil =>
    intro i done w fr sg ow hd hil hdn hg har hc hf k1 k2
    have hd := drop_nil' hd
    simp only [FrAt_cons, FrAt_nil] at hf
    obtain ⟨f0, f3, f4, f6, f26, f27, f28, -⟩ := hf
    refine Xl.step ?_
    simp only [lb50_0]
    have c1 : ¬ ((i : Int) < (e.args.length : Int)) := by omega
    have hem : exsM fs ns [] w = (([], 0), w) := by rw [exsM]
    simp only [wCo, wFr, wOp, wBi, wLst, wLog, xB_other, Nat.reduceBEq, unT, loadP, storeP, partP, partT, partV, cellsP, mkAgg, allT, setRange, fillP, fieldA, indexS, indexA, indexV, indexStr, elems, lenP, pickV, cviV, nckV, extV, isNil, bound, close, close1, aft, retV, retSl, Go.Pi.one, eqT, eqs, eq1, Nat.reduceEqDiff, Nat.reduceAdd, Nat.reduceSub, Nat.reduceMul, Nat.reduceLeDiff, Nat.reduceLT, Nat.one_ne_zero, Nat.zero_ne_one, reduceIte, reduceCtorEq, bne_self_eq_false, decide_true, decide_false, Int.reduceToNat, Int.cast_ofNat_Int, Int.reduceLT, Int.reduceLE, Int.reduceEq, Int.reduceNeg, Int.reduceAdd, Int.reduceSub, f0, f3, f4, f6, f26, f27, f28, c1]
    rw [hem] at k1
    refine k1 rfl _ _ _ hg ?_ ?_ hc (by simp only [FrAt_cons, FrAt_nil, wFr, Nat.reduceEqDiff, Nat.one_ne_zero, Nat.zero_ne_one, reduceIte, and_self, and_true, true_and, f0, f3, f4, f6])
    · simpa using har
    · simp; omega
  | cons x l ih =>
    intro i done w fr sg ow hd hil hdn hg har hc hf k1 k2
    obtain ⟨hx, hr, hi⟩ := drop_cons hd
    simp only [FrAt_cons, FrAt_nil] at hf
    obtain ⟨f0, f3, f4, f6, f26, f27, f28, -⟩ := hf
    refine Xl.step ?_
    simp only [lb50_0]
    have c1 : (i : Int) < (e.args.length : Int) := by omega
    have hpos : 0 < e.args.length := by omega
    have hvv := hv hpos
    subst hvv
    have hw1 := i64_succ hi (show e.args.length ≤ 281474976710656 by have : B47 = 140737488355328 := rfl; omega)
    rw [exsM_cons] at k1 k2
    have gB := g0.len
    have hk : Ck sg c f n fs ns od w := (hk0.grow g0).fr2 hg (by omega) (by omega) hc
    have hq := fun r => hrec x (List.mem_of_getElem? hx) (sg ++ r) c f n od w ow (hk.grow (.app _ r))
    simp only [tEx_eq] at hq
    simp only [wCo, wFr, wOp, wBi, wLst, wLog, xB_other, Nat.reduceBEq, unT, loadP, storeP, partP, partT, partV, cellsP, mkAgg, allT, setRange, fillP, fieldA, indexS, indexA, indexV, indexStr, elems, lenP, pickV, cviV, nckV, extV, isNil, bound, close, close1, aft, retV, retSl, Go.Pi.one, eqT, eqs, eq1, Nat.reduceEqDiff, Nat.reduceAdd, Nat.reduceSub, Nat.reduceMul, Nat.reduceLeDiff, Nat.reduceLT, Nat.one_ne_zero, Nat.zero_ne_one, reduceIte, reduceCtorEq, bne_self_eq_false, decide_true, decide_false, Int.reduceToNat, Int.cast_ofNat_Int, Int.reduceLT, Int.reduceLE, Int.reduceEq, Int.reduceNeg, Int.reduceAdd, Int.reduceSub, f0, f3, f4, f6, f26, f27, f28, c1, hw1, Int.toNat_natCast, hi, tExs_get, hx, Option.map_some, tEx_eq]
    refine CallE.mono (hq _) ?_
    rintro v sg' ow' ⟨rfl, hc', hfr⟩
    have hFr : Fr c sg sg' := (Fr.of (.app _ _)).trans hfr
    have hg' : Fr2 c a6 sgB sg' := hg.trans (Fr2.of hFr)
    have j4 := hg'.get h4 (by omega) (by omega)
    have m4 := lt_of_get j4
    have mc := lt_of_get hc'
    generalize hxr : exM fs ns x w = q at *
    obtain ⟨⟨t, er⟩, w1⟩ := q
    by_cases he : er = 0
    · subst he
      obtain ⟨cs, ha, hcs1, hcs2⟩ := (har hpos).get (hFr.2 a6 (lt_of_get (har hpos).choose_spec.1) (by omega))
      have ma := lt_of_get ha
      have hle : i * 3 + 3 ≤ cs.length := by omega
      have hp := Arr.put hcs1 hcs2 (by omega) ma t
      rw [hdn] at hp
      simp only [wCo, wFr, wOp, wBi, wLst, wLog, xB_other, Nat.reduceBEq, unT, loadP, storeP, partP, partT, partV, cellsP, mkAgg, allT, setRange, fillP, fieldA, indexS, indexA, indexV, indexStr, elems, lenP, pickV, cviV, nckV, extV, isNil, bound, close, close1, aft, retV, retSl, Go.Pi.one, eqT, eqs, eq1, Nat.reduceEqDiff, Nat.reduceAdd, Nat.reduceSub, Nat.reduceMul, Nat.reduceLeDiff, Nat.reduceLT, Nat.one_ne_zero, Nat.zero_ne_one, reduceIte, reduceCtorEq, bne_self_eq_false, decide_true, decide_false, Int.reduceToNat, Int.cast_ofNat_Int, Int.reduceLT, Int.reduceLE, Int.reduceEq, Int.reduceNeg, Int.reduceAdd, Int.reduceSub, f0, f3, f4, f6, f26, f27, f28, c1, hw1, Int.toNat_natCast, hi, app_get ma, app_set ma, ha, hle]
      simp only [ne_eq, not_true, if_false] at k1 k2
      refine ih (i + 1) (done ++ [t]) w1 _ _ _ hr (by omega) (by simp [hdn]) ((hg'.set _).app _) (fun _ => Arr.get hp (app_get (by simpa using ma) _)) ?_ (by simp only [FrAt_cons, FrAt_nil, wFr, Nat.reduceEqDiff, Nat.one_ne_zero, Nat.zero_ne_one, reduceIte, and_self, and_true, true_and, f0, f3, f4, f6, f26, f27]) ?_ ?_
      · rw [app_get (by simpa using mc), List.getElem?_set_ne (by omega)]; exact hc'
      · intro h0 fr' sg' ow' x1 x2 x3 x4 x5
        rw [if_neg (by simpa using h0)] at k1
        rw [List.append_assoc] at x2 x3
        exact k1 rfl fr' sg' ow' x1 x2 x3 x4 x5
      · intro h0 fr' sg' ow' x1 x2 x3 x4
        rw [if_pos (by simpa using h0)] at k2
        exact k2 h0 fr' sg' ow' x1 x2 x3 x4
    · simp only [wCo, wFr, wOp, wBi, wLst, wLog, xB_other, Nat.reduceBEq, unT, loadP, storeP, partP, partT, partV, cellsP, mkAgg, allT, setRange, fillP, fieldA, indexS, indexA, indexV, indexStr, elems, lenP, pickV, cviV, nckV, extV, isNil, bound, close, close1, aft, retV, retSl, Go.Pi.one, eqT, eqs, eq1, Nat.reduceEqDiff, Nat.reduceAdd, Nat.reduceSub, Nat.reduceMul, Nat.reduceLeDiff, Nat.reduceLT, Nat.one_ne_zero, Nat.zero_ne_one, reduceIte, reduceCtorEq, bne_self_eq_false, decide_true, decide_false, Int.reduceToNat, Int.cast_ofNat_Int, Int.reduceLT, Int.reduceLE, Int.reduceEq, Int.reduceNeg, Int.reduceAdd, Int.reduceSub, f0, f3, f4, f6, f26, f27, f28, he, app_get m4, app_set m4, j4, set_same j4]
      rw [if_pos (by simpa using he)] at k2
      exact k2 he _ _ _ (hg'.app _) (by rw [app_get mc]; exact hc') (by simp only [FrAt_cons, FrAt_nil, wFr, Nat.reduceEqDiff, Nat.one_ne_zero, Nat.zero_ne_one, reduceIte, and_self, and_true, true_and, f4]) (by simp only [FrAt_cons, FrAt_nil, wFr, Nat.reduceEqDiff, Nat.one_ne_zero, Nat.zero_ne_one, reduceIte, and_self, and_true, true_and])
theorem ok50 {fs : Fs} {ns : Ns} : ∀ e, ExpOk e → szE e ≤ B20 → exB e = true → ExSpec gl fs ns e := by
  refine Exp.ind fun e ih hxo hok heb => ?_
  have hrec : ∀ a, a ∈ e.args → ExSpec gl fs ns a := fun a ha => ih a ha (by cases hxo with | mk _ h1 h2 h3 h4 h5 h => exact h a ha) ((szE_args hok).2 a ha) (exB_args heb a ha)
  have hn : e.args.length ≤ B20 := (szE_args hok).1
  have hb20 : B20 = 1100000 := rfl
  have hb47 : B47 = 140737488355328 := rfl
  intro sg c f n od w ow hk
  have hcl := lt_of_get hk.c
  by_cases o8 : e.op = 8
  · obtain ⟨a, b, hab⟩ := exB_two heb (.inl o8)
    have hM : exM fs ns e w = idxM ns (exM fs ns a w) b := by rw [exM_eq, if_pos o8, hab]
    rw [hM]
    refine XcE.of F50 rfl ?_
    simp only [ir50]
    have hq := fun r => ok62 (gl := gl) hab (hrec a (by rw [hab]; simp)) (exB_args heb b (by rw [hab]; simp)) (hk.grow (.app sg r)) ow
    simp only [tEx_eq, o8] at hq
    simp only [wCo, wFr, wOp, wBi, wLst, wLog, xB_other, Nat.reduceBEq, unT, loadP, storeP, partP, partT, partV, cellsP, mkAgg, allT, setRange, fillP, fieldA, indexS, indexA, indexV, indexStr, elems, lenP, pickV, cviV, nckV, extV, isNil, bound, close, close1, aft, retV, retSl, Go.Pi.one, eqT, eqs, eq1, Nat.reduceEqDiff, Nat.reduceAdd, Nat.reduceSub, Nat.reduceMul, Nat.reduceLeDiff, Nat.reduceLT, Nat.one_ne_zero, Nat.zero_ne_one, reduceIte, reduceCtorEq, bne_self_eq_false, decide_true, decide_false, Int.reduceToNat, Int.cast_ofNat_Int, Int.reduceLT, Int.reduceLE, Int.reduceEq, Int.reduceNeg, Int.reduceAdd, Int.reduceSub, tEx_eq, o8]
    refine CallE.mono (hq _) ?_
    rintro v sg' ow' ⟨rfl, hc', hfr⟩
    have hFr : Fr c sg sg' := (Fr.of (.app _ _)).trans hfr
    have j4 := hfr.get (i := sg.length + 1) (x := z3) (by simp) (by omega)
    have m4 := lt_of_get j4
    generalize hxr : idxM ns (exM fs ns a w) b = q at *
    obtain ⟨⟨t, er⟩, w1⟩ := q
    simp only [wCo, wFr, wOp, wBi, wLst, wLog, xB_other, Nat.reduceBEq, unT, loadP, storeP, partP, partT, partV, cellsP, mkAgg, allT, setRange, fillP, fieldA, indexS, indexA, indexV, indexStr, elems, lenP, pickV, cviV, nckV, extV, isNil, bound, close, close1, aft, retV, retSl, Go.Pi.one, eqT, eqs, eq1, Nat.reduceEqDiff, Nat.reduceAdd, Nat.reduceSub, Nat.reduceMul, Nat.reduceLeDiff, Nat.reduceLT, Nat.one_ne_zero, Nat.zero_ne_one, reduceIte, reduceCtorEq, bne_self_eq_false, decide_true, decide_false, Int.reduceToNat, Int.cast_ofNat_Int, Int.reduceLT, Int.reduceLE, Int.reduceEq, Int.reduceNeg, Int.reduceAdd, Int.reduceSub, j4, get_set j4, xR_ct]
    refine ⟨by rw [List.getElem?_set_ne (by omega)]; exact hc', ?_⟩
    exact Fr2.fr (a := sg.length + 1) (Fr.refl c sg) ((Fr2.of hFr).set _) (by omega)
  have hM : exM fs ns e w = if (exsM fs ns e.args w).1.2 ≠ 0 then (bad (exsM fs ns e.args w).1.2, (exsM fs ns e.args w).2) else opM fs ns e.op e.val e.name (exsM fs ns e.args w).1.1 (exsM fs ns e.args w).2 := by rw [exM_eq, if_neg o8]
  rw [hM]
  refine XcE.of F50 rfl ?_
  simp only [ir50]
  simp only [wCo, wFr, wOp, wBi, wLst, wLog, xB_other, Nat.reduceBEq, unT, loadP, storeP, partP, partT, partV, cellsP, mkAgg, allT, setRange, fillP, fieldA, indexS, indexA, indexV, indexStr, elems, lenP, pickV, cviV, nckV, extV, isNil, bound, close, close1, aft, retV, retSl, Go.Pi.one, eqT, eqs, eq1, Nat.reduceEqDiff, Nat.reduceAdd, Nat.reduceSub, Nat.reduceMul, Nat.reduceLeDiff, Nat.reduceLT, Nat.one_ne_zero, Nat.zero_ne_one, reduceIte, reduceCtorEq, bne_self_eq_false, decide_true, decide_false, Int.reduceToNat, Int.cast_ofNat_Int, Int.reduceLT, Int.reduceLE, Int.reduceEq, Int.reduceNeg, Int.reduceAdd, Int.reduceSub, tEx_eq, o8, tExs_len]
  obtain ⟨v, r, ow1, hmk, hv⟩ := mks_ty (sg ++ [(false, [.t (.int .i64 e.op), .t (.int .u64 e.val), .t (.str e.name), .t (.sl e.nl (tExs e.args))]), z3]) ow e.args.length hn
  rw [hmk]
  (simp only [wCo, wFr, wOp, wBi, wLst, wLog, xB_other, Nat.reduceBEq, unT, loadP, storeP, partP, partT, partV, cellsP, mkAgg, allT, setRange, fillP, fieldA, indexS, indexA, indexV, indexStr, elems, lenP, pickV, cviV, nckV, extV, isNil, bound, close, close1, aft, retV, retSl, Go.Pi.one, eqT, eqs, eq1, Nat.reduceEqDiff, Nat.reduceAdd, Nat.reduceSub, Nat.reduceMul, Nat.reduceLeDiff, Nat.reduceLT, Nat.one_ne_zero, Nat.zero_ne_one, reduceIte, reduceCtorEq, bne_self_eq_false, decide_true, decide_false, Int.reduceToNat, Int.cast_ofNat_Int, Int.reduceLT, Int.reduceLE, Int.reduceEq, Int.reduceNeg, Int.reduceAdd, Int.reduceSub, tEx_eq, o8, tExs_len, List.append_assoc])
  have i3 : (sg ++ cEx e :: z3 :: r)[sg.length]? = some (cEx e) := by simp
  have i4 : (sg ++ cEx e :: z3 :: r)[sg.length + 1]? = some z3 := by rw [List.getElem?_append_right (by omega)]; simp
  have hvl : (sg ++ [(false, [PV.t (.int .i64 e.op), .t (.int .u64 e.val), .t (.str e.name), .t (.sl e.nl (tExs e.args))]), z3]).length = sg.length + 2 := by simp
  rw [hvl, List.append_assoc] at hv
  refine loop50 (sg0 := sg) (sgB := sg ++ cEx e :: z3 :: r) hrec (by omega) rfl rfl rfl hk (.app _ _) i3 i4 ?_ _ e.args 0 [] w _ _ _ rfl (by omega) rfl (Fr2.refl _ _ _) ?_ (by rw [app_get hcl]; exact hk.c) (by simp only [FrAt_cons, FrAt_nil, wFr, Nat.reduceEqDiff, Nat.one_ne_zero, Nat.zero_ne_one, reduceIte, and_self, and_true, true_and]; first | done | rfl) ?_ ?_
  · intro h0
    rcases hv with ⟨h1, _⟩ | ⟨_, h1, _⟩
    · omega
    · exact h1
  · intro h0
    rcases hv with ⟨h1, _⟩ | ⟨_, _, h1⟩
    · omega
    · exact h1
  · intro h0 fr' sg' ow' hg har hlen hc hf
    rw [List.nil_append] at har hlen
    rw [if_neg (by simpa using h0)]
    generalize exsM fs ns e.args w = q at *
    obtain ⟨⟨ts, er⟩, w1⟩ := q
    simp only at h0 har hlen hc ⊢
    subst h0
    simp only [FrAt_cons, FrAt_nil] at hf
    obtain ⟨f0, f3, f4, f6, -⟩ := hf
    have hFr : Fr c sg sg' := Fr2.fr (Fr.of (.app _ _)) hg (by omega)
    have hk' := hk.fr hFr hc
    have j3 := hg.get i3 (by omega) (by omega)
    have j4 := hg.get i4 (by omega) (by omega)
    have m3 := lt_of_get j3
    have m4 := lt_of_get j4
    have mc := lt_of_get hc
    have mn := lt_of_get hk'.n
    have hn' := hk'.n
    have htl : ts.length ≤ B47 := by omega
    have hs : SlT sg' v ts := by
      rcases hv with ⟨h1, h2⟩ | ⟨h1, h2, _⟩
      · exact .inl ⟨List.eq_nil_of_length_eq_zero (by omega), h2⟩
      · obtain ⟨cs, x1, x2, x3⟩ := har h1
        exact .inr ⟨_, cs, by rw [hlen]; exact h2, x1, by rw [hlen]; exact x2, x3⟩
    have hfin : ∀ (sg2 : Sg) (x : Bool × List PV), Fr c sg sg2 → Fr c sg (sg2.set (sg.length + 1) x) := fun sg2 x h => Fr2.fr (a := sg.length + 1) (Fr.refl c sg) ((Fr2.of h).set _) (by omega)
    have hfc : ∀ (sg2 : Sg) (x : Bool × List PV), (sg2.set (sg.length + 1) x)[c]? = sg2[c]? := fun sg2 x => List.getElem?_set_ne (by omega)
    clear har hg hv hmk hrec ih
    by_cases o1 : e.op = 1
    · have hM : opM fs ns e.op e.val e.name ts w1 = ((numT e.val, 0), w1) := by unfold opM; simp [o1]
      rw [hM]
      have hu : U64 e.val := by cases hxo with | mk _ h1 h2 h3 h4 h5 h => exact h2
      simp only [wCo, wFr, wOp, wBi, wLst, wLog, xB_other, Nat.reduceBEq, unT, loadP, storeP, partP, partT, partV, cellsP, mkAgg, allT, setRange, fillP, fieldA, indexS, indexA, indexV, indexStr, elems, lenP, pickV, cviV, nckV, extV, isNil, bound, close, close1, aft, retV, retSl, Go.Pi.one, eqT, eqs, eq1, Nat.reduceEqDiff, Nat.reduceAdd, Nat.reduceSub, Nat.reduceMul, Nat.reduceLeDiff, Nat.reduceLT, Nat.one_ne_zero, Nat.zero_ne_one, reduceIte, reduceCtorEq, bne_self_eq_false, decide_true, decide_false, Int.reduceToNat, Int.cast_ofNat_Int, Int.reduceLT, Int.reduceLE, Int.reduceEq, Int.reduceNeg, Int.reduceAdd, Int.reduceSub, f0, f3, f4, f6, j3, j4, xR_ct, app_get m3, app_get m4, app_set m4, app_get mc, get_set j4, hc, o1, ok63 hu]
      first | exact ⟨by rw [hfc]; exact hc, hfin _ _ hFr⟩ | exact ⟨rfl, by rw [hfc]; exact hc, hfin _ _ hFr⟩
    by_cases o3 : e.op = 3
    · have hM : opM fs ns e.op e.val e.name ts w1 = ((boolT, 0), w1) := by unfold opM; simp [o8, o1, o3]
      rw [hM]
      simp only [wCo, wFr, wOp, wBi, wLst, wLog, xB_other, Nat.reduceBEq, unT, loadP, storeP, partP, partT, partV, cellsP, mkAgg, allT, setRange, fillP, fieldA, indexS, indexA, indexV, indexStr, elems, lenP, pickV, cviV, nckV, extV, isNil, bound, close, close1, aft, retV, retSl, Go.Pi.one, eqT, eqs, eq1, Nat.reduceEqDiff, Nat.reduceAdd, Nat.reduceSub, Nat.reduceMul, Nat.reduceLeDiff, Nat.reduceLT, Nat.one_ne_zero, Nat.zero_ne_one, reduceIte, reduceCtorEq, bne_self_eq_false, decide_true, decide_false, Int.reduceToNat, Int.cast_ofNat_Int, Int.reduceLT, Int.reduceLE, Int.reduceEq, Int.reduceNeg, Int.reduceAdd, Int.reduceSub, f0, f3, f4, f6, j3, j4, xR_ct, app_get m3, app_get m4, app_set m4, app_get mc, get_set j4, hc, o8, o1, o3, ok61]
      first | exact ⟨by rw [hfc]; exact hc, hfin _ _ hFr⟩ | exact ⟨rfl, by rw [hfc]; exact hc, hfin _ _ hFr⟩
    by_cases o4 : e.op = 4
    · have hM : opM fs ns e.op e.val e.name ts w1 = ((boolT, 0), w1) := by unfold opM; simp [o8, o1, o3, o4]
      rw [hM]
      simp only [wCo, wFr, wOp, wBi, wLst, wLog, xB_other, Nat.reduceBEq, unT, loadP, storeP, partP, partT, partV, cellsP, mkAgg, allT, setRange, fillP, fieldA, indexS, indexA, indexV, indexStr, elems, lenP, pickV, cviV, nckV, extV, isNil, bound, close, close1, aft, retV, retSl, Go.Pi.one, eqT, eqs, eq1, Nat.reduceEqDiff, Nat.reduceAdd, Nat.reduceSub, Nat.reduceMul, Nat.reduceLeDiff, Nat.reduceLT, Nat.one_ne_zero, Nat.zero_ne_one, reduceIte, reduceCtorEq, bne_self_eq_false, decide_true, decide_false, Int.reduceToNat, Int.cast_ofNat_Int, Int.reduceLT, Int.reduceLE, Int.reduceEq, Int.reduceNeg, Int.reduceAdd, Int.reduceSub, f0, f3, f4, f6, j3, j4, xR_ct, app_get m3, app_get m4, app_set m4, app_get mc, get_set j4, hc, o8, o1, o3, o4, ok61]
      first | exact ⟨by rw [hfc]; exact hc, hfin _ _ hFr⟩ | exact ⟨rfl, by rw [hfc]; exact hc, hfin _ _ hFr⟩
    by_cases o2 : e.op = 2
    · cases hl : Ky.look e.name ns with
      | none =>
        have hM : opM fs ns e.op e.val e.name ts w1 = (bad 4, w1) := by unfold opM; simp [o8, o1, o3, o4, o2, hl]
        rw [hM]
        simp only [wCo, wFr, wOp, wBi, wLst, wLog, xB_other, Nat.reduceBEq, unT, loadP, storeP, partP, partT, partV, cellsP, mkAgg, allT, setRange, fillP, fieldA, indexS, indexA, indexV, indexStr, elems, lenP, pickV, cviV, nckV, extV, isNil, bound, close, close1, aft, retV, retSl, Go.Pi.one, eqT, eqs, eq1, Nat.reduceEqDiff, Nat.reduceAdd, Nat.reduceSub, Nat.reduceMul, Nat.reduceLeDiff, Nat.reduceLT, Nat.one_ne_zero, Nat.zero_ne_one, reduceIte, reduceCtorEq, bne_self_eq_false, decide_true, decide_false, Int.reduceToNat, Int.cast_ofNat_Int, Int.reduceLT, Int.reduceLE, Int.reduceEq, Int.reduceNeg, Int.reduceAdd, Int.reduceSub, f0, f3, f4, f6, j3, j4, xR_ct, app_get m3, app_get m4, app_set m4, app_get mc, get_set j4, hc, o8, o1, o3, o4, o2, app_get mn, hn', mlkP, mfind_ents, hl, Option.getD_none, Option.isSome_none, set_same j4]
        exact ⟨rfl, hFr.app _⟩
      | some sy =>
        have hM : opM fs ns e.op e.val e.name ts w1 = ((sy.typ, 0), w1) := by unfold opM; simp [o8, o1, o3, o4, o2, hl]
        rw [hM]
        simp only [wCo, wFr, wOp, wBi, wLst, wLog, xB_other, Nat.reduceBEq, unT, loadP, storeP, partP, partT, partV, cellsP, mkAgg, allT, setRange, fillP, fieldA, indexS, indexA, indexV, indexStr, elems, lenP, pickV, cviV, nckV, extV, isNil, bound, close, close1, aft, retV, retSl, Go.Pi.one, eqT, eqs, eq1, Nat.reduceEqDiff, Nat.reduceAdd, Nat.reduceSub, Nat.reduceMul, Nat.reduceLeDiff, Nat.reduceLT, Nat.one_ne_zero, Nat.zero_ne_one, reduceIte, reduceCtorEq, bne_self_eq_false, decide_true, decide_false, Int.reduceToNat, Int.cast_ofNat_Int, Int.reduceLT, Int.reduceLE, Int.reduceEq, Int.reduceNeg, Int.reduceAdd, Int.reduceSub, f0, f3, f4, f6, j3, j4, xR_ct, app_get m3, app_get m4, app_set m4, app_get mc, get_set j4, hc, o8, o1, o3, o4, o2, app_get mn, hn', mlkP, mfind_ents, hl, Option.getD_some, Option.isSome_some, gsc m4]
        exact ⟨by rw [app_get (by simpa using mc), hfc]; exact hc, (hfin _ _ hFr).app _⟩
    by_cases o5 : e.op = 5
    · have hM : opM fs ns e.op e.val e.name ts w1 = (callM fs e.name ts, w1) := by unfold opM; simp [o8, o1, o3, o4, o2, o5]
      rw [hM]
      simp only [wCo, wFr, wOp, wBi, wLst, wLog, xB_other, Nat.reduceBEq, unT, loadP, storeP, partP, partT, partV, cellsP, mkAgg, allT, setRange, fillP, fieldA, indexS, indexA, indexV, indexStr, elems, lenP, pickV, cviV, nckV, extV, isNil, bound, close, close1, aft, retV, retSl, Go.Pi.one, eqT, eqs, eq1, Nat.reduceEqDiff, Nat.reduceAdd, Nat.reduceSub, Nat.reduceMul, Nat.reduceLeDiff, Nat.reduceLT, Nat.one_ne_zero, Nat.zero_ne_one, reduceIte, reduceCtorEq, bne_self_eq_false, decide_true, decide_false, Int.reduceToNat, Int.cast_ofNat_Int, Int.reduceLT, Int.reduceLE, Int.reduceEq, Int.reduceNeg, Int.reduceAdd, Int.reduceSub, f0, f3, f4, f6, j3, j4, xR_ct, app_get m3, app_get m4, app_set m4, app_get mc, get_set j4, hc, o8, o1, o3, o4, o2, o5, ok61]
      refine CallE.mono (ok64 htl hk' hs e.name ow') ?_
      rintro x sg2 ow2 ⟨rfl, hg2⟩
      have k4 := hg2.get j4
      generalize callM fs e.name ts = rr at *
      obtain ⟨t, er⟩ := rr
      simp only [wCo, wFr, wOp, wBi, wLst, wLog, xB_other, Nat.reduceBEq, unT, loadP, storeP, partP, partT, partV, cellsP, mkAgg, allT, setRange, fillP, fieldA, indexS, indexA, indexV, indexStr, elems, lenP, pickV, cviV, nckV, extV, isNil, bound, close, close1, aft, retV, retSl, Go.Pi.one, eqT, eqs, eq1, Nat.reduceEqDiff, Nat.reduceAdd, Nat.reduceSub, Nat.reduceMul, Nat.reduceLeDiff, Nat.reduceLT, Nat.one_ne_zero, Nat.zero_ne_one, reduceIte, reduceCtorEq, bne_self_eq_false, decide_true, decide_false, Int.reduceToNat, Int.cast_ofNat_Int, Int.reduceLT, Int.reduceLE, Int.reduceEq, Int.reduceNeg, Int.reduceAdd, Int.reduceSub, f0, f3, f4, f6, k4, get_set k4, xR_ct]
      exact ⟨by rw [hfc]; exact hg2.get hc, hfin _ _ (hFr.trans (Fr.of hg2))⟩
    by_cases o6 : e.op = 6
    · by_cases hv6 : 65536 ≤ e.val
      · have hM : opM fs ns e.op e.val e.name ts w1 = (bad 8, w1) := by unfold opM; simp [o8, o1, o3, o4, o2, o5, o6, hv6]
        rw [hM]
        simp only [wCo, wFr, wOp, wBi, wLst, wLog, xB_other, Nat.reduceBEq, unT, loadP, storeP, partP, partT, partV, cellsP, mkAgg, allT, setRange, fillP, fieldA, indexS, indexA, indexV, indexStr, elems, lenP, pickV, cviV, nckV, extV, isNil, bound, close, close1, aft, retV, retSl, Go.Pi.one, eqT, eqs, eq1, Nat.reduceEqDiff, Nat.reduceAdd, Nat.reduceSub, Nat.reduceMul, Nat.reduceLeDiff, Nat.reduceLT, Nat.one_ne_zero, Nat.zero_ne_one, reduceIte, reduceCtorEq, bne_self_eq_false, decide_true, decide_false, Int.reduceToNat, Int.cast_ofNat_Int, Int.reduceLT, Int.reduceLE, Int.reduceEq, Int.reduceNeg, Int.reduceAdd, Int.reduceSub, f0, f3, f4, f6, j3, j4, xR_ct, app_get m3, app_get m4, app_set m4, app_get mc, get_set j4, hc, o8, o1, o3, o4, o2, o5, o6, hv6, set_same j4]
        exact ⟨rfl, hFr⟩
      · have hM : opM fs ns e.op e.val e.name ts w1 = (allM isSc ts fieldT, w1) := by unfold opM; simp [o8, o1, o3, o4, o2, o5, o6, hv6]
        rw [hM]
        simp only [wCo, wFr, wOp, wBi, wLst, wLog, xB_other, Nat.reduceBEq, unT, loadP, storeP, partP, partT, partV, cellsP, mkAgg, allT, setRange, fillP, fieldA, indexS, indexA, indexV, indexStr, elems, lenP, pickV, cviV, nckV, extV, isNil, bound, close, close1, aft, retV, retSl, Go.Pi.one, eqT, eqs, eq1, Nat.reduceEqDiff, Nat.reduceAdd, Nat.reduceSub, Nat.reduceMul, Nat.reduceLeDiff, Nat.reduceLT, Nat.one_ne_zero, Nat.zero_ne_one, reduceIte, reduceCtorEq, bne_self_eq_false, decide_true, decide_false, Int.reduceToNat, Int.cast_ofNat_Int, Int.reduceLT, Int.reduceLE, Int.reduceEq, Int.reduceNeg, Int.reduceAdd, Int.reduceSub, f0, f3, f4, f6, j3, j4, xR_ct, app_get m3, app_get m4, app_set m4, app_get mc, get_set j4, hc, o8, o1, o3, o4, o2, o5, o6, hv6, ok61]
        refine CallE.mono (ok65 htl sy66 hs fieldT ow') ?_
        rintro x sg2 ow2 ⟨rfl, hg2, -⟩
        have k4 := hg2.get j4
        generalize allM isSc ts fieldT = rr at *
        obtain ⟨t, er⟩ := rr
        simp only [wCo, wFr, wOp, wBi, wLst, wLog, xB_other, Nat.reduceBEq, unT, loadP, storeP, partP, partT, partV, cellsP, mkAgg, allT, setRange, fillP, fieldA, indexS, indexA, indexV, indexStr, elems, lenP, pickV, cviV, nckV, extV, isNil, bound, close, close1, aft, retV, retSl, Go.Pi.one, eqT, eqs, eq1, Nat.reduceEqDiff, Nat.reduceAdd, Nat.reduceSub, Nat.reduceMul, Nat.reduceLeDiff, Nat.reduceLT, Nat.one_ne_zero, Nat.zero_ne_one, reduceIte, reduceCtorEq, bne_self_eq_false, decide_true, decide_false, Int.reduceToNat, Int.cast_ofNat_Int, Int.reduceLT, Int.reduceLE, Int.reduceEq, Int.reduceNeg, Int.reduceAdd, Int.reduceSub, f0, f3, f4, f6, k4, get_set k4, xR_ct]
        exact ⟨by rw [hfc]; exact hg2.get hc, hfin _ _ (hFr.trans (Fr.of hg2))⟩
    by_cases o7 : e.op = 7
    · have hM : opM fs ns e.op e.val e.name ts w1 = (listM ts, w1) := by unfold opM; simp [o8, o1, o3, o4, o2, o5, o6, o7]
      rw [hM]
      simp only [wCo, wFr, wOp, wBi, wLst, wLog, xB_other, Nat.reduceBEq, unT, loadP, storeP, partP, partT, partV, cellsP, mkAgg, allT, setRange, fillP, fieldA, indexS, indexA, indexV, indexStr, elems, lenP, pickV, cviV, nckV, extV, isNil, bound, close, close1, aft, retV, retSl, Go.Pi.one, eqT, eqs, eq1, Nat.reduceEqDiff, Nat.reduceAdd, Nat.reduceSub, Nat.reduceMul, Nat.reduceLeDiff, Nat.reduceLT, Nat.one_ne_zero, Nat.zero_ne_one, reduceIte, reduceCtorEq, bne_self_eq_false, decide_true, decide_false, Int.reduceToNat, Int.cast_ofNat_Int, Int.reduceLT, Int.reduceLE, Int.reduceEq, Int.reduceNeg, Int.reduceAdd, Int.reduceSub, f0, f3, f4, f6, j3, j4, xR_ct, app_get m3, app_get m4, app_set m4, app_get mc, get_set j4, hc, o8, o1, o3, o4, o2, o5, o6, o7, ok61]
      refine CallE.mono (ok67 (by have := exB_some heb o7; omega) htl hs ow') ?_
      rintro x sg2 ow2 ⟨rfl, hg2⟩
      have k4 := hg2.get j4
      generalize listM ts = rr at *
      obtain ⟨t, er⟩ := rr
      simp only [wCo, wFr, wOp, wBi, wLst, wLog, xB_other, Nat.reduceBEq, unT, loadP, storeP, partP, partT, partV, cellsP, mkAgg, allT, setRange, fillP, fieldA, indexS, indexA, indexV, indexStr, elems, lenP, pickV, cviV, nckV, extV, isNil, bound, close, close1, aft, retV, retSl, Go.Pi.one, eqT, eqs, eq1, Nat.reduceEqDiff, Nat.reduceAdd, Nat.reduceSub, Nat.reduceMul, Nat.reduceLeDiff, Nat.reduceLT, Nat.one_ne_zero, Nat.zero_ne_one, reduceIte, reduceCtorEq, bne_self_eq_false, decide_true, decide_false, Int.reduceToNat, Int.cast_ofNat_Int, Int.reduceLT, Int.reduceLE, Int.reduceEq, Int.reduceNeg, Int.reduceAdd, Int.reduceSub, f0, f3, f4, f6, k4, get_set k4, xR_ct]
      exact ⟨by rw [hfc]; exact hg2.get hc, hfin _ _ (hFr.trans (Fr.of hg2))⟩
    by_cases o20 : e.op = 20
    · obtain ⟨xa, xb, xc, hab⟩ := exB_three heb o20
      have hl3 : ts.length = 3 := by rw [hlen, hab]; rfl
      obtain ⟨t1, t2, t3, rfl⟩ : ∃ t1 t2 t3, ts = [t1, t2, t3] := by
        match ts, hl3 with
        | [t1, t2, t3], _ => exact ⟨_, _, _, rfl⟩
      obtain ⟨a6, cs, rfl, ha6, hcs1, hcs2⟩ : ∃ a cs, v = .ls a 0 3 3 ∧ sg'[a]? = some (false, cs) ∧ cs.length = 3 * 3 ∧ ∀ i t, [t1, t2, t3][i]? = some t → (cs.drop (i * 3)).take 3 = [.t (.int .i64 t.kind), .t (.int .i64 t.bits), .t (.int .i64 t.len)] := by
        rcases hs with ⟨h1, _⟩ | h1
        · simp at h1
        · exact h1
      have hcs := cells3 hcs1 hcs2
      subst hcs
      clear hcs1 hcs2
      have m6 := lt_of_get ha6
      have hM : opM fs ns e.op e.val e.name [t1, t2, t3] w1 = (choiceM t1 t2 t3, w1) := by unfold opM; simp [o8, o1, o3, o4, o2, o5, o6, o7, o20]
      rw [hM]
      simp only [wCo, wFr, wOp, wBi, wLst, wLog, xB_other, Nat.reduceBEq, unT, loadP, storeP, partP, partT, partV, cellsP, mkAgg, allT, setRange, fillP, fieldA, indexS, indexA, indexV, indexStr, elems, lenP, pickV, cviV, nckV, extV, isNil, bound, close, close1, aft, retV, retSl, Go.Pi.one, eqT, eqs, eq1, Nat.reduceEqDiff, Nat.reduceAdd, Nat.reduceSub, Nat.reduceMul, Nat.reduceLeDiff, Nat.reduceLT, Nat.one_ne_zero, Nat.zero_ne_one, reduceIte, reduceCtorEq, bne_self_eq_false, decide_true, decide_false, Int.reduceToNat, Int.cast_ofNat_Int, Int.reduceLT, Int.reduceLE, Int.reduceEq, Int.reduceNeg, Int.reduceAdd, Int.reduceSub, f0, f3, f4, f6, j3, j4, xR_ct, app_get m3, app_get m4, app_set m4, app_get mc, get_set j4, hc, o8, o1, o3, o4, o2, o5, o6, o7, o20, ha6, app_get m6, ok68]
      exact ⟨by rw [hfc]; exact hc, hfin _ _ hFr⟩
    by_cases o14 : e.op = 14
    · have hM : opM fs ns e.op e.val e.name ts w1 = (allM isSc ts boolT, w1) := by unfold opM; simp [o8, o1, o3, o4, o2, o5, o6, o7, o20, o14]
      rw [hM]
      simp only [wCo, wFr, wOp, wBi, wLst, wLog, xB_other, Nat.reduceBEq, unT, loadP, storeP, partP, partT, partV, cellsP, mkAgg, allT, setRange, fillP, fieldA, indexS, indexA, indexV, indexStr, elems, lenP, pickV, cviV, nckV, extV, isNil, bound, close, close1, aft, retV, retSl, Go.Pi.one, eqT, eqs, eq1, Nat.reduceEqDiff, Nat.reduceAdd, Nat.reduceSub, Nat.reduceMul, Nat.reduceLeDiff, Nat.reduceLT, Nat.one_ne_zero, Nat.zero_ne_one, reduceIte, reduceCtorEq, bne_self_eq_false, decide_true, decide_false, Int.reduceToNat, Int.cast_ofNat_Int, Int.reduceLT, Int.reduceLE, Int.reduceEq, Int.reduceNeg, Int.reduceAdd, Int.reduceSub, f0, f3, f4, f6, j3, j4, xR_ct, app_get m3, app_get m4, app_set m4, app_get mc, get_set j4, hc, o8, o1, o3, o4, o2, o5, o6, o7, o20, o14, ok61]
      refine CallE.mono (ok65 htl sy66 hs boolT ow') ?_
      rintro x sg2 ow2 ⟨rfl, hg2, -⟩
      have k4 := hg2.get j4
      generalize allM isSc ts boolT = rr at *
      obtain ⟨t, er⟩ := rr
      simp only [wCo, wFr, wOp, wBi, wLst, wLog, xB_other, Nat.reduceBEq, unT, loadP, storeP, partP, partT, partV, cellsP, mkAgg, allT, setRange, fillP, fieldA, indexS, indexA, indexV, indexStr, elems, lenP, pickV, cviV, nckV, extV, isNil, bound, close, close1, aft, retV, retSl, Go.Pi.one, eqT, eqs, eq1, Nat.reduceEqDiff, Nat.reduceAdd, Nat.reduceSub, Nat.reduceMul, Nat.reduceLeDiff, Nat.reduceLT, Nat.one_ne_zero, Nat.zero_ne_one, reduceIte, reduceCtorEq, bne_self_eq_false, decide_true, decide_false, Int.reduceToNat, Int.cast_ofNat_Int, Int.reduceLT, Int.reduceLE, Int.reduceEq, Int.reduceNeg, Int.reduceAdd, Int.reduceSub, f0, f3, f4, f6, k4, get_set k4, xR_ct]
      exact ⟨by rw [hfc]; exact hg2.get hc, hfin _ _ (hFr.trans (Fr.of hg2))⟩
    by_cases o15 : e.op = 15
    · have hM : opM fs ns e.op e.val e.name ts w1 = (allM isSc ts boolT, w1) := by unfold opM; simp [o8, o1, o3, o4, o2, o5, o6, o7, o20, o14, o15]
      rw [hM]
      simp only [wCo, wFr, wOp, wBi, wLst, wLog, xB_other, Nat.reduceBEq, unT, loadP, storeP, partP, partT, partV, cellsP, mkAgg, allT, setRange, fillP, fieldA, indexS, indexA, indexV, indexStr, elems, lenP, pickV, cviV, nckV, extV, isNil, bound, close, close1, aft, retV, retSl, Go.Pi.one, eqT, eqs, eq1, Nat.reduceEqDiff, Nat.reduceAdd, Nat.reduceSub, Nat.reduceMul, Nat.reduceLeDiff, Nat.reduceLT, Nat.one_ne_zero, Nat.zero_ne_one, reduceIte, reduceCtorEq, bne_self_eq_false, decide_true, decide_false, Int.reduceToNat, Int.cast_ofNat_Int, Int.reduceLT, Int.reduceLE, Int.reduceEq, Int.reduceNeg, Int.reduceAdd, Int.reduceSub, f0, f3, f4, f6, j3, j4, xR_ct, app_get m3, app_get m4, app_set m4, app_get mc, get_set j4, hc, o8, o1, o3, o4, o2, o5, o6, o7, o20, o14, o15, ok61]
      refine CallE.mono (ok65 htl sy66 hs boolT ow') ?_
      rintro x sg2 ow2 ⟨rfl, hg2, -⟩
      have k4 := hg2.get j4
      generalize allM isSc ts boolT = rr at *
      obtain ⟨t, er⟩ := rr
      simp only [wCo, wFr, wOp, wBi, wLst, wLog, xB_other, Nat.reduceBEq, unT, loadP, storeP, partP, partT, partV, cellsP, mkAgg, allT, setRange, fillP, fieldA, indexS, indexA, indexV, indexStr, elems, lenP, pickV, cviV, nckV, extV, isNil, bound, close, close1, aft, retV, retSl, Go.Pi.one, eqT, eqs, eq1, Nat.reduceEqDiff, Nat.reduceAdd, Nat.reduceSub, Nat.reduceMul, Nat.reduceLeDiff, Nat.reduceLT, Nat.one_ne_zero, Nat.zero_ne_one, reduceIte, reduceCtorEq, bne_self_eq_false, decide_true, decide_false, Int.reduceToNat, Int.cast_ofNat_Int, Int.reduceLT, Int.reduceLE, Int.reduceEq, Int.reduceNeg, Int.reduceAdd, Int.reduceSub, f0, f3, f4, f6, k4, get_set k4, xR_ct]
      exact ⟨by rw [hfc]; exact hg2.get hc, hfin _ _ (hFr.trans (Fr.of hg2))⟩
    by_cases o16 : e.op = 16
    · obtain ⟨xa, xb, hab⟩ := exB_two heb (.inr (.inr (.inr (.inl o16))))
      have hl2 : ts.length = 2 := by rw [hlen, hab]; rfl
      obtain ⟨t1, t2, rfl⟩ : ∃ t1 t2, ts = [t1, t2] := by
        match ts, hl2 with
        | [t1, t2], _ => exact ⟨_, _, rfl⟩
      obtain ⟨a6, cs, rfl, ha6, hcs1, hcs2⟩ : ∃ a cs, v = .ls a 0 2 3 ∧ sg'[a]? = some (false, cs) ∧ cs.length = 2 * 3 ∧ ∀ i t, [t1, t2][i]? = some t → (cs.drop (i * 3)).take 3 = [.t (.int .i64 t.kind), .t (.int .i64 t.bits), .t (.int .i64 t.len)] := by
        rcases hs with ⟨h1, _⟩ | h1
        · simp at h1
        · exact h1
      have hcs := cells2 hcs1 hcs2
      subst hcs
      clear hcs1 hcs2
      have m6 := lt_of_get ha6
      have hM : opM fs ns e.op e.val e.name [t1, t2] w1 = compM t1 t2 w1 := by unfold opM; simp [o8, o1, o3, o4, o2, o5, o6, o7, o20, o14, o15, o16]
      rw [hM]
      simp only [wCo, wFr, wOp, wBi, wLst, wLog, xB_other, Nat.reduceBEq, unT, loadP, storeP, partP, partT, partV, cellsP, mkAgg, allT, setRange, fillP, fieldA, indexS, indexA, indexV, indexStr, elems, lenP, pickV, cviV, nckV, extV, isNil, bound, close, close1, aft, retV, retSl, Go.Pi.one, eqT, eqs, eq1, Nat.reduceEqDiff, Nat.reduceAdd, Nat.reduceSub, Nat.reduceMul, Nat.reduceLeDiff, Nat.reduceLT, Nat.one_ne_zero, Nat.zero_ne_one, reduceIte, reduceCtorEq, bne_self_eq_false, decide_true, decide_false, Int.reduceToNat, Int.cast_ofNat_Int, Int.reduceLT, Int.reduceLE, Int.reduceEq, Int.reduceNeg, Int.reduceAdd, Int.reduceSub, f0, f3, f4, f6, j3, j4, xR_ct, app_get m3, app_get m4, app_set m4, app_get mc, get_set j4, hc, o8, o1, o3, o4, o2, o5, o6, o7, o20, o14, o15, o16, ha6, app_get m6]
      refine CallE.mono (ok69 hk' t1 t2 ow') ?_
      rintro x sg2 ow2 ⟨rfl, hc2, hg2⟩
      have k4 := hg2.get j4 (by omega)
      generalize compM t1 t2 w1 = rr at *
      obtain ⟨⟨t, er⟩, w2⟩ := rr
      simp only [wCo, wFr, wOp, wBi, wLst, wLog, xB_other, Nat.reduceBEq, unT, loadP, storeP, partP, partT, partV, cellsP, mkAgg, allT, setRange, fillP, fieldA, indexS, indexA, indexV, indexStr, elems, lenP, pickV, cviV, nckV, extV, isNil, bound, close, close1, aft, retV, retSl, Go.Pi.one, eqT, eqs, eq1, Nat.reduceEqDiff, Nat.reduceAdd, Nat.reduceSub, Nat.reduceMul, Nat.reduceLeDiff, Nat.reduceLT, Nat.one_ne_zero, Nat.zero_ne_one, reduceIte, reduceCtorEq, bne_self_eq_false, decide_true, decide_false, Int.reduceToNat, Int.cast_ofNat_Int, Int.reduceLT, Int.reduceLE, Int.reduceEq, Int.reduceNeg, Int.reduceAdd, Int.reduceSub, f0, f3, f4, f6, k4, get_set k4, xR_ct]
      exact ⟨by rw [hfc]; exact hc2, hfin _ _ (hFr.trans hg2)⟩
    by_cases o17 : e.op = 17
    · obtain ⟨xa, xb, hab⟩ := exB_two heb (.inr (.inr (.inr (.inr o17))))
      have hl2 : ts.length = 2 := by rw [hlen, hab]; rfl
      obtain ⟨t1, t2, rfl⟩ : ∃ t1 t2, ts = [t1, t2] := by
        match ts, hl2 with
        | [t1, t2], _ => exact ⟨_, _, rfl⟩
      obtain ⟨a6, cs, rfl, ha6, hcs1, hcs2⟩ : ∃ a cs, v = .ls a 0 2 3 ∧ sg'[a]? = some (false, cs) ∧ cs.length = 2 * 3 ∧ ∀ i t, [t1, t2][i]? = some t → (cs.drop (i * 3)).take 3 = [.t (.int .i64 t.kind), .t (.int .i64 t.bits), .t (.int .i64 t.len)] := by
        rcases hs with ⟨h1, _⟩ | h1
        · simp at h1
        · exact h1
      have hcs := cells2 hcs1 hcs2
      subst hcs
      clear hcs1 hcs2
      have m6 := lt_of_get ha6
      have hM : opM fs ns e.op e.val e.name [t1, t2] w1 = compM t1 t2 w1 := by unfold opM; simp [o8, o1, o3, o4, o2, o5, o6, o7, o20, o14, o15, o16, o17]
      rw [hM]
      simp only [wCo, wFr, wOp, wBi, wLst, wLog, xB_other, Nat.reduceBEq, unT, loadP, storeP, partP, partT, partV, cellsP, mkAgg, allT, setRange, fillP, fieldA, indexS, indexA, indexV, indexStr, elems, lenP, pickV, cviV, nckV, extV, isNil, bound, close, close1, aft, retV, retSl, Go.Pi.one, eqT, eqs, eq1, Nat.reduceEqDiff, Nat.reduceAdd, Nat.reduceSub, Nat.reduceMul, Nat.reduceLeDiff, Nat.reduceLT, Nat.one_ne_zero, Nat.zero_ne_one, reduceIte, reduceCtorEq, bne_self_eq_false, decide_true, decide_false, Int.reduceToNat, Int.cast_ofNat_Int, Int.reduceLT, Int.reduceLE, Int.reduceEq, Int.reduceNeg, Int.reduceAdd, Int.reduceSub, f0, f3, f4, f6, j3, j4, xR_ct, app_get m3, app_get m4, app_set m4, app_get mc, get_set j4, hc, o8, o1, o3, o4, o2, o5, o6, o7, o20, o14, o15, o16, o17, ha6, app_get m6]
      refine CallE.mono (ok69 hk' t1 t2 ow') ?_
      rintro x sg2 ow2 ⟨rfl, hc2, hg2⟩
      have k4 := hg2.get j4 (by omega)
      generalize compM t1 t2 w1 = rr at *
      obtain ⟨⟨t, er⟩, w2⟩ := rr
      simp only [wCo, wFr, wOp, wBi, wLst, wLog, xB_other, Nat.reduceBEq, unT, loadP, storeP, partP, partT, partV, cellsP, mkAgg, allT, setRange, fillP, fieldA, indexS, indexA, indexV, indexStr, elems, lenP, pickV, cviV, nckV, extV, isNil, bound, close, close1, aft, retV, retSl, Go.Pi.one, eqT, eqs, eq1, Nat.reduceEqDiff, Nat.reduceAdd, Nat.reduceSub, Nat.reduceMul, Nat.reduceLeDiff, Nat.reduceLT, Nat.one_ne_zero, Nat.zero_ne_one, reduceIte, reduceCtorEq, bne_self_eq_false, decide_true, decide_false, Int.reduceToNat, Int.cast_ofNat_Int, Int.reduceLT, Int.reduceLE, Int.reduceEq, Int.reduceNeg, Int.reduceAdd, Int.reduceSub, f0, f3, f4, f6, k4, get_set k4, xR_ct]
      exact ⟨by rw [hfc]; exact hc2, hfin _ _ (hFr.trans hg2)⟩
    by_cases o10 : e.op = 10
    · have hM : opM fs ns e.op e.val e.name ts w1 = (allM isBo ts boolT, w1) := by unfold opM; simp [o8, o1, o3, o4, o2, o5, o6, o7, o20, o14, o15, o16, o17, o10]
      rw [hM]
      simp only [wCo, wFr, wOp, wBi, wLst, wLog, xB_other, Nat.reduceBEq, unT, loadP, storeP, partP, partT, partV, cellsP, mkAgg, allT, setRange, fillP, fieldA, indexS, indexA, indexV, indexStr, elems, lenP, pickV, cviV, nckV, extV, isNil, bound, close, close1, aft, retV, retSl, Go.Pi.one, eqT, eqs, eq1, Nat.reduceEqDiff, Nat.reduceAdd, Nat.reduceSub, Nat.reduceMul, Nat.reduceLeDiff, Nat.reduceLT, Nat.one_ne_zero, Nat.zero_ne_one, reduceIte, reduceCtorEq, bne_self_eq_false, decide_true, decide_false, Int.reduceToNat, Int.cast_ofNat_Int, Int.reduceLT, Int.reduceLE, Int.reduceEq, Int.reduceNeg, Int.reduceAdd, Int.reduceSub, f0, f3, f4, f6, j3, j4, xR_ct, app_get m3, app_get m4, app_set m4, app_get mc, get_set j4, hc, o8, o1, o3, o4, o2, o5, o6, o7, o20, o14, o15, o16, o17, o10, ok61]
      refine CallE.mono (ok65 htl sy70 hs boolT ow') ?_
      rintro x sg2 ow2 ⟨rfl, hg2, -⟩
      have k4 := hg2.get j4
      generalize allM isBo ts boolT = rr at *
      obtain ⟨t, er⟩ := rr
      simp only [wCo, wFr, wOp, wBi, wLst, wLog, xB_other, Nat.reduceBEq, unT, loadP, storeP, partP, partT, partV, cellsP, mkAgg, allT, setRange, fillP, fieldA, indexS, indexA, indexV, indexStr, elems, lenP, pickV, cviV, nckV, extV, isNil, bound, close, close1, aft, retV, retSl, Go.Pi.one, eqT, eqs, eq1, Nat.reduceEqDiff, Nat.reduceAdd, Nat.reduceSub, Nat.reduceMul, Nat.reduceLeDiff, Nat.reduceLT, Nat.one_ne_zero, Nat.zero_ne_one, reduceIte, reduceCtorEq, bne_self_eq_false, decide_true, decide_false, Int.reduceToNat, Int.cast_ofNat_Int, Int.reduceLT, Int.reduceLE, Int.reduceEq, Int.reduceNeg, Int.reduceAdd, Int.reduceSub, f0, f3, f4, f6, k4, get_set k4, xR_ct]
      exact ⟨by rw [hfc]; exact hg2.get hc, hfin _ _ (hFr.trans (Fr.of hg2))⟩
    by_cases o18 : e.op = 18
    · have hM : opM fs ns e.op e.val e.name ts w1 = (allM isBo ts boolT, w1) := by unfold opM; simp [o8, o1, o3, o4, o2, o5, o6, o7, o20, o14, o15, o16, o17, o10, o18]
      rw [hM]
      simp only [wCo, wFr, wOp, wBi, wLst, wLog, xB_other, Nat.reduceBEq, unT, loadP, storeP, partP, partT, partV, cellsP, mkAgg, allT, setRange, fillP, fieldA, indexS, indexA, indexV, indexStr, elems, lenP, pickV, cviV, nckV, extV, isNil, bound, close, close1, aft, retV, retSl, Go.Pi.one, eqT, eqs, eq1, Nat.reduceEqDiff, Nat.reduceAdd, Nat.reduceSub, Nat.reduceMul, Nat.reduceLeDiff, Nat.reduceLT, Nat.one_ne_zero, Nat.zero_ne_one, reduceIte, reduceCtorEq, bne_self_eq_false, decide_true, decide_false, Int.reduceToNat, Int.cast_ofNat_Int, Int.reduceLT, Int.reduceLE, Int.reduceEq, Int.reduceNeg, Int.reduceAdd, Int.reduceSub, f0, f3, f4, f6, j3, j4, xR_ct, app_get m3, app_get m4, app_set m4, app_get mc, get_set j4, hc, o8, o1, o3, o4, o2, o5, o6, o7, o20, o14, o15, o16, o17, o10, o18, ok61]
      refine CallE.mono (ok65 htl sy70 hs boolT ow') ?_
      rintro x sg2 ow2 ⟨rfl, hg2, -⟩
      have k4 := hg2.get j4
      generalize allM isBo ts boolT = rr at *
      obtain ⟨t, er⟩ := rr
      simp only [wCo, wFr, wOp, wBi, wLst, wLog, xB_other, Nat.reduceBEq, unT, loadP, storeP, partP, partT, partV, cellsP, mkAgg, allT, setRange, fillP, fieldA, indexS, indexA, indexV, indexStr, elems, lenP, pickV, cviV, nckV, extV, isNil, bound, close, close1, aft, retV, retSl, Go.Pi.one, eqT, eqs, eq1, Nat.reduceEqDiff, Nat.reduceAdd, Nat.reduceSub, Nat.reduceMul, Nat.reduceLeDiff, Nat.reduceLT, Nat.one_ne_zero, Nat.zero_ne_one, reduceIte, reduceCtorEq, bne_self_eq_false, decide_true, decide_false, Int.reduceToNat, Int.cast_ofNat_Int, Int.reduceLT, Int.reduceLE, Int.reduceEq, Int.reduceNeg, Int.reduceAdd, Int.reduceSub, f0, f3, f4, f6, k4, get_set k4, xR_ct]
      exact ⟨by rw [hfc]; exact hg2.get hc, hfin _ _ (hFr.trans (Fr.of hg2))⟩
    by_cases o19 : e.op = 19
    · have hM : opM fs ns e.op e.val e.name ts w1 = (allM isBo ts boolT, w1) := by unfold opM; simp [o8, o1, o3, o4, o2, o5, o6, o7, o20, o14, o15, o16, o17, o10, o18, o19]
      rw [hM]
      simp only [wCo, wFr, wOp, wBi, wLst, wLog, xB_other, Nat.reduceBEq, unT, loadP, storeP, partP, partT, partV, cellsP, mkAgg, allT, setRange, fillP, fieldA, indexS, indexA, indexV, indexStr, elems, lenP, pickV, cviV, nckV, extV, isNil, bound, close, close1, aft, retV, retSl, Go.Pi.one, eqT, eqs, eq1, Nat.reduceEqDiff, Nat.reduceAdd, Nat.reduceSub, Nat.reduceMul, Nat.reduceLeDiff, Nat.reduceLT, Nat.one_ne_zero, Nat.zero_ne_one, reduceIte, reduceCtorEq, bne_self_eq_false, decide_true, decide_false, Int.reduceToNat, Int.cast_ofNat_Int, Int.reduceLT, Int.reduceLE, Int.reduceEq, Int.reduceNeg, Int.reduceAdd, Int.reduceSub, f0, f3, f4, f6, j3, j4, xR_ct, app_get m3, app_get m4, app_set m4, app_get mc, get_set j4, hc, o8, o1, o3, o4, o2, o5, o6, o7, o20, o14, o15, o16, o17, o10, o18, o19, ok61]
      refine CallE.mono (ok65 htl sy70 hs boolT ow') ?_
      rintro x sg2 ow2 ⟨rfl, hg2, -⟩
      have k4 := hg2.get j4
      generalize allM isBo ts boolT = rr at *
      obtain ⟨t, er⟩ := rr
      simp only [wCo, wFr, wOp, wBi, wLst, wLog, xB_other, Nat.reduceBEq, unT, loadP, storeP, partP, partT, partV, cellsP, mkAgg, allT, setRange, fillP, fieldA, indexS, indexA, indexV, indexStr, elems, lenP, pickV, cviV, nckV, extV, isNil, bound, close, close1, aft, retV, retSl, Go.Pi.one, eqT, eqs, eq1, Nat.reduceEqDiff, Nat.reduceAdd, Nat.reduceSub, Nat.reduceMul, Nat.reduceLeDiff, Nat.reduceLT, Nat.one_ne_zero, Nat.zero_ne_one, reduceIte, reduceCtorEq, bne_self_eq_false, decide_true, decide_false, Int.reduceToNat, Int.cast_ofNat_Int, Int.reduceLT, Int.reduceLE, Int.reduceEq, Int.reduceNeg, Int.reduceAdd, Int.reduceSub, f0, f3, f4, f6, k4, get_set k4, xR_ct]
      exact ⟨by rw [hfc]; exact hg2.get hc, hfin _ _ (hFr.trans (Fr.of hg2))⟩
    have hM : opM fs ns e.op e.val e.name ts w1 = (allM isSc ts fieldT, w1) := by unfold opM; simp [o8, o1, o3, o4, o2, o5, o6, o7, o20, o14, o15, o16, o17, o10, o18, o19]
    rw [hM]
    simp only [wCo, wFr, wOp, wBi, wLst, wLog, xB_other, Nat.reduceBEq, unT, loadP, storeP, partP, partT, partV, cellsP, mkAgg, allT, setRange, fillP, fieldA, indexS, indexA, indexV, indexStr, elems, lenP, pickV, cviV, nckV, extV, isNil, bound, close, close1, aft, retV, retSl, Go.Pi.one, eqT, eqs, eq1, Nat.reduceEqDiff, Nat.reduceAdd, Nat.reduceSub, Nat.reduceMul, Nat.reduceLeDiff, Nat.reduceLT, Nat.one_ne_zero, Nat.zero_ne_one, reduceIte, reduceCtorEq, bne_self_eq_false, decide_true, decide_false, Int.reduceToNat, Int.cast_ofNat_Int, Int.reduceLT, Int.reduceLE, Int.reduceEq, Int.reduceNeg, Int.reduceAdd, Int.reduceSub, f0, f3, f4, f6, j3, j4, xR_ct, app_get m3, app_get m4, app_set m4, app_get mc, get_set j4, hc, o8, o1, o3, o4, o2, o5, o6, o7, o20, o14, o15, o16, o17, o10, o18, o19, ok61]
    refine CallE.mono (ok65 htl sy66 hs fieldT ow') ?_
    rintro x sg2 ow2 ⟨rfl, hg2, -⟩
    have k4 := hg2.get j4
    generalize allM isSc ts fieldT = rr at *
    obtain ⟨t, er⟩ := rr
    simp only [wCo, wFr, wOp, wBi, wLst, wLog, xB_other, Nat.reduceBEq, unT, loadP, storeP, partP, partT, partV, cellsP, mkAgg, allT, setRange, fillP, fieldA, indexS, indexA, indexV, indexStr, elems, lenP, pickV, cviV, nckV, extV, isNil, bound, close, close1, aft, retV, retSl, Go.Pi.one, eqT, eqs, eq1, Nat.reduceEqDiff, Nat.reduceAdd, Nat.reduceSub, Nat.reduceMul, Nat.reduceLeDiff, Nat.reduceLT, Nat.one_ne_zero, Nat.zero_ne_one, reduceIte, reduceCtorEq, bne_self_eq_false, decide_true, decide_false, Int.reduceToNat, Int.cast_ofNat_Int, Int.reduceLT, Int.reduceLE, Int.reduceEq, Int.reduceNeg, Int.reduceAdd, Int.reduceSub, f0, f3, f4, f6, k4, get_set k4, xR_ct]
    exact ⟨by rw [hfc]; exact hg2.get hc, hfin _ _ (hFr.trans (Fr.of hg2))⟩
  · intro h0 fr' sg' ow' hg hc f4 f5
    rw [if_pos (by simpa using h0)]
    generalize exsM fs ns e.args w = q at *
    obtain ⟨⟨ts, er⟩, w1⟩ := q
    have j4 := hg.get i4 (by omega) (by omega)
    simp only [wCo, wFr, wOp, wBi, wLst, wLog, xB_other, Nat.reduceBEq, unT, loadP, storeP, partP, partT, partV, cellsP, mkAgg, allT, setRange, fillP, fieldA, indexS, indexA, indexV, indexStr, elems, lenP, pickV, cviV, nckV, extV, isNil, bound, close, close1, aft, retV, retSl, Go.Pi.one, eqT, eqs, eq1, Nat.reduceEqDiff, Nat.reduceAdd, Nat.reduceSub, Nat.reduceMul, Nat.reduceLeDiff, Nat.reduceLT, Nat.one_ne_zero, Nat.zero_ne_one, reduceIte, reduceCtorEq, bne_self_eq_false, decide_true, decide_false, Int.reduceToNat, Int.cast_ofNat_Int, Int.reduceLT, Int.reduceLE, Int.reduceEq, Int.reduceNeg, Int.reduceAdd, Int.reduceSub, f4, f5, j4, xR_ct]
    exact ⟨rfl, hc, Fr2.fr (Fr.of (.app _ _)) hg (by omega)⟩
end Go.Proofs.Ytdjcnfacjfnakaa
