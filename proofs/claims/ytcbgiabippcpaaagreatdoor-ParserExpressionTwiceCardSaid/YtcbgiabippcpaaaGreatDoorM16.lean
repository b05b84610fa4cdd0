/- The parser: unary expressions and indexes. -/
import Derived.Test.YtcbgiabippcpaaaGreatDoorM9
set_option maxRecDepth 10000
set_option linter.unusedVariables false
set_option linter.unusedSimpArgs false
namespace Go.Proofs.YtcbgiabippcpaaaGreatDoor
open Go.Pi Go.Lx Go.Ky
variable {gl : Nat → Option (List T)}
set_option maxHeartbeats 2000000 in
theorem loop89 {c i2 i3 : Nat} {a b : Int} {sg0 : Sg} (hc0 : c < sg0.length) (h2 : sg0.length ≤ i2) (h3 : sg0.length ≤ i3) (h23 : i2 ≠ i3) (X : Ex → S → Prop) :
    ∀ (m : Nat), (∀ k, k < m → CAll gl k) → ∀ (e : Exp) (cs : List PV) (st : Ps) (sg : Sg) (ow : Ow) (fr : List PV), Ec cs e → WfT st.ts → st.ts.length ≤ 100000 → Q c a b sg0 st sg → sg[i2]? = some (false, zC) → sg[i3]? = some (false, cs) → 12 * st.ts.length + 3 ≤ m →
    FrAt fr [(0, .lp c 0), (2, .lp i2 0), (3, .lp i3 0)] →
    (∀ fr' sg' ow' cs', Ec cs' (idxL m e st).1 → Q c a b sg0 (idxL m e st).2 sg' → sg'[i2]? = some (false, zC) → sg'[i3]? = some (false, cs') → FrAt fr' [(2, .lp i2 0), (3, .lp i3 0)] → OwK ow ow' → X (.exit 0) ⟨fr', sg', ow'⟩) →
    Xl F gl lb89_0 ⟨fr, sg, ow⟩ X ⟨⟩ := by
  intro m
  induction m with
  | zero => intro _ e cs st sg ow fr _ hw _ _ _ _ hf; have := hw.len; omega
  | succ m ih =>
    intro hall e cs st sg ow fr hcs hw hln hq z2 z3 hf hfr k
    simp only [FrAt_cons, FrAt_nil] at hfr
    obtain ⟨f0, f2, f3, -⟩ := hfr
    refine Xl.step ?_
    simp only [lb89_0]
    simp only [wA, seval, reduceCtorEq, reduceIte, f0, f2, f3]
    refine CallE.mono (ok57 hq.cell hw.ne [91]) fun v sg1 ow1 h => ?_
    obtain ⟨e1, q1, o1⟩ := h
    subst e1 o1
    unfold accM at q1
    have z2b := q1.fr.get z2 (by omega)
    have z3b := q1.fr.get z3 (by omega)
    cases ha : atM [91] st with
    | false =>
      rw [ha] at q1
      simp only [Bool.false_eq_true, if_false] at q1
      have hB : idxL (m + 1) e st = (e, st) := by rw [idxL, if_neg (by rw [ha]; simp)]
      rw [hB] at k
      simp only [wA, seval, reduceCtorEq, reduceIte, f0, f2, f3]
      exact k _ _ _ cs hcs (hq.trans q1) z2b z3b (by simp only [FrAt_cons, FrAt_nil, wFr, Nat.reduceEqDiff, Nat.one_ne_zero, Nat.zero_ne_one, reduceIte, and_self, and_true, true_and, f2, f3]) OwK.refl
    | true =>
      rw [ha] at q1
      simp only [reduceIte] at q1
      have q0 : Q c a b sg0 (takeM st) sg1 := hq.trans q1
      have l1 := take_len hw (at_kind ha)
      have s1 := suf_take hw
      have hp1 : Pre c a b (takeM st) sg1 := ⟨q1.cell, s1.wf hw, by omega⟩
      have hcall := (hall m (by omega)).ex c a b (takeM st) sg1 ow1 hp1 (by omega)
      have rd := (rd_all m).ex (takeM st) hp1.wf
      have l2 := rd.suf.le
      have hB : idxL (m + 1) e st = idxL m (nod 8 [e, (exprM m (takeM st)).1]) (expM [93] (exprM m (takeM st)).2) := by rw [idxL, if_pos ha]
      rw [hB] at k
      rcases hcs with rfl | ⟨kk, hnl, rfl⟩
      all_goals
        first | have hax := Xk.al hnl.1 | have hax := @nat_nn
        simp only [wA, seval, reduceCtorEq, reduceIte, f0, f2, f3, z3b, loadK, hax]
        refine CallE.mono hcall fun v2 sg2 ow2 h2 => ?_
        obtain ⟨hv2, q2, o2⟩ := h2
        have hp2 := hp1.next q2 rd.suf
        have z2c := q2.fr.get z2b (by omega)
        have z3c := q2.fr.get z3b (by omega)
        have gs3 := fun y => get_set (y := y) z3c
        have gn := fun y => set_ne (sg := sg2) (show i3 ≠ i2 by omega) y
        first | have hb := bsl2 (e := e) (v := .agg (eK e kk)) (.inr ⟨kk, hnl, rfl⟩) hv2 | have hb := bsl2 (e := e) (.inl rfl) hv2
        have gc := fun y => set_ne (sg := sg2) (show i3 ≠ c by omega) y
        simp only [wA, seval, reduceCtorEq, reduceIte, f0, f2, f3, keepsV_cons, keepsV_nil, keepP, keep1_self, z3b, z3c, hb, nd, gs3]
        refine CallE.mono (ok54 (st := (exprM m (takeM st)).2) (a := a) (b := b) (by rw [gc]; exact q2.cell) hp2.ne (by omega) [93]) fun v3 sg3 ow3 h3 => ?_
        obtain ⟨e3, q3, o3⟩ := h3
        subst e3 o3
        have s3 := suf_exp hp2.wf [93]
        have l3 := s3.le
        have z2d := q3.fr.get (i := i2) ((gn _).trans z2c) (by omega)
        have z3d := q3.fr.get (i := i3) (gs3 _) (by omega)
        simp only [wA, seval, reduceCtorEq, reduceIte, f0, f2, f3]
        refine ih (fun k hk => hall k (by omega)) (nod 8 [e, (exprM m (takeM st)).1]) _ (expM [93] (exprM m (takeM st)).2) sg3 _ _ (.inl rfl) (s3.wf hp2.wf) (by omega) ⟨q3.cell, ((q0.trans q2).hi h3 (by omega) _).fr.trans q3.fr⟩ z2d z3d (by omega) ?_ ?_
        · simp only [FrAt_cons, FrAt_nil, wFr, Nat.reduceEqDiff, Nat.one_ne_zero, Nat.zero_ne_one, reduceIte, and_self, and_true, true_and, f0, f2, f3]
        intro fr' sg' ow' cs' a1 a2 a3 a4 a5 a6
        exact k fr' sg' ow' cs' a1 a2 a3 a4 a5 (o2.trans a6)
set_option maxHeartbeats 1000000 in
theorem step_un {n : Nat} (hall : ∀ k, k ≤ n → CAll gl k) {c : Nat} {a b : Int} {st : Ps} {sg : Sg} {ow : Ow} (hp : Pre c a b st sg) (hf : 12 * st.ts.length + 4 ≤ n + 1) : CallE F gl 89 [.lp c 0] sg ow (EvR c a b sg ow (unM (n + 1) st)) := by
  refine XcE.of F89 rfl ?_
  simp only [ir89]
  have hcl := hp.lt
  have hp1 := hp.app [(false, zC)]
  have hn := hall n (Nat.le_refl _)
  simp only [wA, seval, reduceCtorEq, reduceIte]
  refine CallE.mono (ok57 hp1.cell hp.ne [45]) fun v sg1 ow1 h => ?_
  obtain ⟨e1, q1, o1⟩ := h
  subst e1 o1
  unfold accM at q1
  have z2 := q1.fr.get (i := sg.length) cat_get (by omega)
  cases ha : atM [45] st with
  | true =>
    rw [ha] at q1
    simp only [reduceIte] at q1
    have l1 := take_len hp.wf (at_kind ha)
    have hp2 := hp1.next q1 (suf_take hp.wf)
    have hB : unM (n + 1) st = (nod 9 [(unM n (takeM st)).1], (unM n (takeM st)).2) := by rw [unM, if_pos ha]
    rw [hB]
    simp only [wA, seval, reduceCtorEq, reduceIte]
    refine CallE.mono (hn.un c a b _ sg1 ow1 hp2 (by omega)) fun v2 sg2 ow2 h2 => ?_
    obtain ⟨hv2, q2, o2⟩ := h2
    have z2b := q2.fr.get z2 (by omega)
    have gs := fun y => get_set (y := y) z2b
    have hb := bsl1 hv2
    simp only [wA, seval, reduceCtorEq, reduceIte, hb, nd, z2b, gs]
    exact ⟨.inl rfl, ((q1.from).trans q2).hi (Nat.le_refl _) (by omega) _, o2⟩
  | false =>
    rw [ha] at q1
    simp only [Bool.false_eq_true, if_false] at q1
    have hp2 := hp1.next q1 (Suf.refl hp.wf)
    simp only [wA, seval, reduceCtorEq, reduceIte]
    refine CallE.mono (ok57 hp2.cell hp.ne [110, 111, 116]) fun v sg2 ow2 h => ?_
    obtain ⟨e2, q2, o2⟩ := h
    subst e2 o2
    unfold accM at q2
    have z2b := q2.fr.get z2 (by omega)
    cases ha2 : atM [110, 111, 116] st with
    | true =>
      rw [ha2] at q2
      simp only [reduceIte] at q2
      have l1 := take_len hp.wf (at_kind ha2)
      have hp3 := hp2.next q2 (suf_take hp.wf)
      have hB : unM (n + 1) st = (nod 10 [(unM n (takeM st)).1], (unM n (takeM st)).2) := by rw [unM, if_neg (by rw [ha]; simp), if_pos ha2]
      rw [hB]
      simp only [wA, seval, reduceCtorEq, reduceIte]
      refine CallE.mono (hn.un c a b _ sg2 _ hp3 (by omega)) fun v2 sg3 ow3 h2 => ?_
      obtain ⟨hv2, q3, o3⟩ := h2
      have z2c := q3.fr.get z2b (by omega)
      have gs := fun y => get_set (y := y) z2c
      have hb := bsl1 hv2
      simp only [wA, seval, reduceCtorEq, reduceIte, hb, nd, z2c, gs]
      exact ⟨.inl rfl, (((q1.from).trans q2).trans q3).hi (Nat.le_refl _) (by omega) _, o3⟩
    | false =>
      rw [ha2] at q2
      simp only [Bool.false_eq_true, if_false] at q2
      have hp3 := hp2.next q2 (Suf.refl hp.wf)
      have hB : unM (n + 1) st = idxL n (priM n st).1 (priM n st).2 := by rw [unM, if_neg (by rw [ha]; simp), if_neg (by rw [ha2]; simp)]
      rw [hB]
      simp only [wA, seval, reduceCtorEq, reduceIte]
      refine CallE.mono (hn.pr c a b st sg2 _ hp3 (by omega)) fun v2 sg3 ow3 h2 => ?_
      obtain ⟨hv2, q3, o3⟩ := h2
      have rd := (rd_all n).pr st hp.wf
      have l3 := rd.suf.le
      have z2c := q3.fr.get z2b (by omega)
      have g3 := q3.fr.1
      have q03 : Q c a b sg (priM n st).2 sg3 := ((q1.from).trans q2).trans q3
      have g03 := q2.fr.1
      have g02 := q1.fr.1
      simp only [List.length_append, List.length_cons, List.length_nil, Nat.zero_add] at g02
      rcases hv2 with rfl | ⟨k, hnl, rfl⟩
      all_goals
        first | have hax := Xk.al hnl.1 | have hax := @nat_nn
        simp only [wA, seval, reduceCtorEq, reduceIte, hax]
        refine loop89 (i2 := sg.length) (i3 := sg3.length) (sg0 := sg) (a := a) (b := b) (c := c) hcl (Nat.le_refl _) (by omega) (by omega) _ n (fun k hk => hall k (by omega)) (priM n st).1 _ (priM n st).2 _ ow3 _ ?_ (rd.suf.wf hp.wf) (by have := hp.ln; omega) (q03.more _) (by rw [app_get (by omega)]; exact z2c) cat_get (by omega) ?_ ?_
        · first | exact .inr ⟨k, hnl, rfl⟩ | exact .inl rfl
        · simp only [FrAt_cons, FrAt_nil, wFr, Nat.reduceEqDiff, Nat.one_ne_zero, Nat.zero_ne_one, reduceIte, and_self, and_true, true_and]
        · intro fr' sg' ow' cs' a1 a2 a3 a4 a5 a6
          simp only [FrAt_cons, FrAt_nil] at a5
          obtain ⟨f2, f3, -⟩ := a5
          have gs := fun y => get_set (y := y) a3
          rcases a1 with rfl | ⟨j, hj, rfl⟩
          · simp only [wA, seval, reduceCtorEq, reduceIte, a3, a4, f2, f3, gs]
            exact ⟨.inl rfl, a2.hi (Nat.le_refl _) (by omega) _, o3.trans a6⟩
          · have hax := Xk.al hj.1
            simp only [wA, seval, reduceCtorEq, reduceIte, a3, a4, f2, f3, gs, hax]
            exact ⟨.inr ⟨j, hj, rfl⟩, a2.hi (Nat.le_refl _) (by omega) _, o3.trans a6⟩
end Go.Proofs.YtcbgiabippcpaaaGreatDoor

/- The parser: lists of expressions, arguments. -/
set_option maxRecDepth 10000
set_option linter.unusedVariables false
set_option linter.unusedSimpArgs false
namespace Go.Proofs.YtcbgiabippcpaaaGreatDoor
open Go.Pi Go.Lx Go.Ky
variable {gl : Nat → Option (List T)}
theorem Lv.keep {k0 : Nat} {v : PV} {ow ow' : Ow} {l : List Exp} (h : Lv k0 v ow l) (ho : OwK ow ow') : Lv k0 v ow' l := by
  rcases h with rfl | ⟨k, rfl, hk, hl⟩
  · exact .inl rfl
  · exact .inr ⟨k, rfl, by rw [ho.2 k (List.getElem?_eq_some_iff.1 hk).1]; exact hk, hl⟩
theorem exs_all (l : List Exp) : (tExs l).all (fun x => x.length == 4) = true := by
  rw [tExs_map, List.all_map, List.all_eq_true]
  intro e _
  simp only [Function.comp_apply, tEx_eq]
  rfl
theorem exs_snoc (l : List Exp) (e : Exp) : tExs (l ++ [e]) = tExs l ++ [tEx e] := by
  rw [tExs_map, tExs_map, List.map_append]; rfl
theorem room56 {n : Nat} (h : n ≤ 1000000) : room n 56 = true := by
  unfold room
  exact decide_eq_true ⟨by omega, by omega⟩
theorem app_lv {k0 : Nat} {v : PV} {ow : Ow} {l : List Exp} (h : Lv k0 v ow l) (hk : k0 ≤ ow.length) (hl : l.length < 1000000) (sg : Sg) (e : Exp) : ∃ x, appendP false sg ow 4 56 v (.lit (tExs [e])) = some x ∧ Lv k0 x.1 x.2 (l ++ [e]) ∧ ow.length ≤ x.2.length ∧ ∀ j, j < k0 → x.2[j]? = ow[j]? := by
  have e1 : tExs [e] = [tEx e] := by rw [tExs, tExs]
  have e2 : elemsS sg 4 (.lit (tExs [e])) = some [tEx e] := by rw [e1]; rfl
  have e3 : ([tEx e].all (fun x => x.length == 4)) = true := by rw [← e1]; exact exs_all [e]
  rcases h with rfl | ⟨k, rfl, hkk, hl0⟩
  · refine ⟨(.own ow.length 4 (tExs l ++ [tEx e]), ow ++ [(tExs l).length + 1]), ?_, ?_, ?_, ?_⟩
    · have r : room ((tExs l).length + [tEx e].length) 56 = true := room56 (by rw [tExs_len]; simp only [List.length_cons, List.length_nil]; omega)
      simp only [appendP, e2, e3, exs_all, r, Nat.zero_lt_succ, and_self, if_true]
      rfl
    · refine .inr ⟨ow.length, by rw [exs_snoc], ?_, hk⟩
      rw [List.getElem?_concat_length, tExs_len, List.length_append]; rfl
    · simp only [List.length_append]; omega
    · intro j hj
      exact List.getElem?_append_left (by omega)
  · refine ⟨(.own k 4 (tExs l ++ [tEx e]), ow.set k ((tExs l).length + 1)), ?_, ?_, ?_, ?_⟩
    · have r : room ((tExs l).length + [tEx e].length) 56 = true := room56 (by rw [tExs_len]; simp only [List.length_cons, List.length_nil]; omega)
      have hk2 : ow[k]? = some (tExs l).length := by rw [tExs_len]; exact hkk
      simp only [appendP, e2, e3, hk2, r, Nat.zero_lt_succ, and_self, if_true]
      rfl
    · refine .inr ⟨k, by rw [exs_snoc], ?_, hl0⟩
      show (ow.set k ((tExs l).length + 1))[k]? = _
      rw [List.getElem?_set_self (List.getElem?_eq_some_iff.1 hkk).1, tExs_len, List.length_append]; rfl
    · simp only [List.length_set]; omega
    · intro j hj
      exact List.getElem?_set_ne (by omega)
set_option maxHeartbeats 2000000 in
theorem loop128 {c : Nat} {a b : Int} {sg0 : Sg} {ow0 : Ow} (hc0 : c < sg0.length) (X : Ex → S → Prop) :
    ∀ (m : Nat), (∀ k, k < m → CAll gl k) → ∀ (l : List Exp) (v : PV) (st : Ps) (sg : Sg) (ow : Ow) (fr : List PV), Lv ow0.length v ow l → l ≠ [] → OwK ow0 ow → WfT st.ts → st.ts.length ≤ 100000 → l.length + st.ts.length ≤ 200000 → Q c a b sg0 st sg → 12 * st.ts.length + 11 ≤ m →
    FrAt fr [(0, .lp c 0), (3, v)] →
    (∀ fr' sg' ow' v', Lv ow0.length v' ow' (lisL m l st).1 → (lisL m l st).1 ≠ [] → Q c a b sg0 (lisL m l st).2 sg' → fget fr' 3 = v' → OwK ow0 ow' → X (.exit 0) ⟨fr', sg', ow'⟩) →
    Xl F gl lb128_0 ⟨fr, sg, ow⟩ X ⟨⟩ := by
  intro m
  induction m with
  | zero => intro _ l v st sg ow fr _ _ _ hw _ _ _ hf; have := hw.len; omega
  | succ m ih =>
    intro hall l v st sg ow fr hv hl ho hw hln hll hq hf hfr k
    simp only [FrAt_cons, FrAt_nil] at hfr
    obtain ⟨f0, f3, -⟩ := hfr
    refine Xl.step ?_
    simp only [lb128_0]
    simp only [wA, seval, reduceCtorEq, reduceIte, f0, f3]
    refine CallE.mono (ok57 hq.cell hw.ne [44]) fun w sg1 ow1 h => ?_
    obtain ⟨e1, q1, o1⟩ := h
    subst e1 o1
    unfold accM at q1
    cases ha : atM [44] st with
    | false =>
      rw [ha] at q1
      simp only [Bool.false_eq_true, if_false] at q1
      have hB : lisL (m + 1) l st = (l, st) := by rw [lisL, if_neg (by rw [ha]; simp)]
      rw [hB] at k
      simp only [wA, seval, reduceCtorEq, reduceIte, f0, f3]
      refine k _ _ _ v hv hl (hq.trans q1) ?_ ho
      simp only [FrAt_cons, FrAt_nil, wFr, Nat.reduceEqDiff, Nat.one_ne_zero, Nat.zero_ne_one, reduceIte, and_self, and_true, true_and, f3]
    | true =>
      rw [ha] at q1
      simp only [reduceIte] at q1
      have q0 : Q c a b sg0 (takeM st) sg1 := hq.trans q1
      have l1 := take_len hw (at_kind ha)
      have s1 := suf_take hw
      have hp1 : Pre c a b (takeM st) sg1 := ⟨q1.cell, s1.wf hw, by omega⟩
      have hcall := (hall m (by omega)).ex c a b (takeM st) sg1 ow1 hp1 (by omega)
      have rd := (rd_all m).ex (takeM st) hp1.wf
      have l2 := rd.suf.le
      have hB : lisL (m + 1) l st = lisL m (l ++ [(exprM m (takeM st)).1]) (exprM m (takeM st)).2 := by rw [lisL, if_pos ha]
      rw [hB] at k
      simp only [wA, seval, reduceCtorEq, reduceIte, f0, f3]
      refine CallE.mono hcall fun v2 sg2 ow2 h2 => ?_
      obtain ⟨hv2, q2, o2⟩ := h2
      have hb := bsl1 hv2
      obtain ⟨x, hx, hx1, hx2, hx3⟩ := app_lv (hv.keep o2) (Nat.le_trans ho.1 o2.1) (by omega) sg2 (exprM m (takeM st)).1
      simp only [wA, seval, reduceCtorEq, reduceIte, f0, f3, hb, hx]
      refine ih (fun k hk => hall k (by omega)) (l ++ [(exprM m (takeM st)).1]) x.1 (exprM m (takeM st)).2 sg2 x.2 _ hx1 (by simp) ?_ (rd.suf.wf hp1.wf) (by omega) (by simp only [List.length_append, List.length_cons, List.length_nil]; omega) (q0.trans q2) (by omega) ?_ ?_
      · have h3 := ho.trans o2
        exact ⟨Nat.le_trans h3.1 hx2, fun j hj => by rw [hx3 j hj, h3.2 j hj]⟩
      · simp only [FrAt_cons, FrAt_nil, wFr, Nat.reduceEqDiff, Nat.one_ne_zero, Nat.zero_ne_one, reduceIte, and_self, and_true, true_and, f0, f3]
      · intro fr' sg' ow' v' a1 a2 a3 a4 a5
        exact k fr' sg' ow' v' a1 a2 a3 a4 a5
set_option maxHeartbeats 1000000 in
theorem step_li {n : Nat} (hall : ∀ k, k ≤ n → CAll gl k) {c : Nat} {a b : Int} {st : Ps} {sg : Sg} {ow : Ow} (hp : Pre c a b st sg) (hf : 12 * st.ts.length + 12 ≤ n + 1) : CallE F gl 128 [.lp c 0] sg ow fun v sg' ow' => Lv ow.length v ow' (lisM (n + 1) st).1 ∧ (lisM (n + 1) st).1 ≠ [] ∧ Q c a b sg (lisM (n + 1) st).2 sg' ∧ OwK ow ow' := by
  refine XcE.of F128 rfl ?_
  simp only [ir128]
  have hcl := hp.lt
  have hB : lisM (n + 1) st = lisL n [(exprM n st).1] (exprM n st).2 := by rw [lisM]
  rw [hB]
  simp only [wA, seval, reduceCtorEq, reduceIte]
  refine CallE.mono ((hall n (Nat.le_refl _)).ex c a b st _ ow hp (by omega)) fun v sg1 ow1 h => ?_
  obtain ⟨hv, hq, ho⟩ := h
  have rd1 := (rd_all n).ex st hp.wf
  have l1 := rd1.suf.le
  have hb := bsl1 hv
  have hln := hp.ln
  simp only [wA, seval, reduceCtorEq, reduceIte, hb]
  refine loop128 (sg0 := sg) (a := a) (b := b) (c := c) (ow0 := ow) hcl _ n (fun k hk => hall k (by omega)) [(exprM n st).1] _ (exprM n st).2 _ ow1 _ (.inl rfl) (by simp) ho (rd1.suf.wf hp.wf) (by omega) (by simp only [List.length_cons, List.length_nil]; omega) hq (by omega) ?_ ?_
  · simp only [FrAt_cons, FrAt_nil, wFr, Nat.reduceEqDiff, Nat.one_ne_zero, Nat.zero_ne_one, reduceIte, and_self, and_true, true_and]
  · intro fr' sg' ow' v' a1 a2 a3 a4 a5
    simp only [wA, seval, reduceCtorEq, reduceIte, a4]
    exact ⟨a1, a2, a3, a5⟩
set_option maxHeartbeats 1000000 in
theorem step_ar {n : Nat} (hn : CAll gl n) {c : Nat} {a b : Int} {st : Ps} {sg : Sg} {ow : Ow} (hp : Pre c a b st sg) (hf : 12 * st.ts.length + 13 ≤ n + 1) : CallE F gl 126 [.lp c 0] sg ow fun v sg' ow' => ((v = .t (.sl true []) ∧ (argM (n + 1) st).1 = []) ∨ ((v = .lit (tExs (argM (n + 1) st).1) ∨ ∃ k, v = .own k 4 (tExs (argM (n + 1) st).1)) ∧ (argM (n + 1) st).1 ≠ [])) ∧ Q c a b sg (argM (n + 1) st).2 sg' ∧ OwK ow ow' := by
  refine XcE.of F126 rfl ?_
  simp only [ir126]
  have hcl := hp.lt
  simp only [wA, seval, reduceCtorEq, reduceIte]
  refine CallE.mono (ok57 hp.cell hp.ne [41]) fun v sg1 ow1 h => ?_
  obtain ⟨e1, q1, o1⟩ := h
  subst e1 o1
  unfold accM at q1
  cases ha : atM [41] st with
  | true =>
    rw [ha] at q1
    simp only [reduceIte] at q1
    have hB : argM (n + 1) st = ([], takeM st) := by rw [argM, if_pos ha]
    rw [hB]
    simp only [wA, seval, reduceCtorEq, reduceIte]
    exact ⟨.inl (by simp), q1, OwK.refl⟩
  | false =>
    rw [ha] at q1
    simp only [Bool.false_eq_true, if_false] at q1
    have hB : argM (n + 1) st = ((lisM n st).1, expM [41] (lisM n st).2) := by rw [argM, if_neg (by rw [ha]; simp)]
    rw [hB]
    have hp2 := hp.next q1 (Suf.refl hp.wf)
    simp only [wA, seval, reduceCtorEq, reduceIte]
    refine CallE.mono (hn.li c a b st sg1 _ hp2 (by omega)) fun v2 sg2 ow2 h2 => ?_
    obtain ⟨hv2, hne2, q2, o2⟩ := h2
    have rd := (rd_all n).li st hp.wf
    have l2 := rd.suf.le
    have hp3 := hp2.next q2 rd.suf
    have hln := hp.ln
    simp only [wA, seval, reduceCtorEq, reduceIte]
    refine CallE.mono (ok54 hp3.cell hp3.ne (by omega) [41]) fun v3 sg3 ow3 h3 => ?_
    obtain ⟨e3, q3, o3⟩ := h3
    subst e3 o3
    simp only [wA, seval, reduceCtorEq, reduceIte]
    refine ⟨.inr ⟨?_, hne2⟩, (q1.trans q2).trans q3, o2⟩
    rcases hv2 with rfl | ⟨k, rfl, -, -⟩
    · exact .inl rfl
    · exact .inr ⟨k, rfl⟩
end Go.Proofs.YtcbgiabippcpaaaGreatDoor

/- The parser: hashes. -/
set_option maxRecDepth 10000
set_option linter.unusedVariables false
set_option linter.unusedSimpArgs false
namespace Go.Proofs.YtcbgiabippcpaaaGreatDoor
open Go.Pi Go.Lx Go.Ky
variable {gl : Nat → Option (List T)}
theorem fail_c {c : Nat} {a b : Int} {st : Ps} {sg : Sg} {ow : Ow} (hp : Pre c a b st sg) (e : Int) : CallE F gl 61 [.lp c 0, .t (.int .i64 e)] sg ow fun v sg' ow' => v = .tup [] ∧ Q c a b sg (failM e st) sg' ∧ ow' = ow :=
  (ok61 hp.cell hp.ne (by have := hp.ln; omega) e).2 ⟨rfl, Q.set hp.lt, rfl⟩
theorem emp_ne {l : List Exp} (h : l ≠ []) : l.isEmpty = false := by cases l with
  | nil => exact absurd rfl h
  | cons x r => rfl
set_option maxHeartbeats 2000000 in
theorem step_ha {n : Nat} (hn : CAll gl n) {c : Nat} {a b : Int} {st : Ps} {sg : Sg} {ow : Ow} (hp : Pre c a b st sg) (hf : 12 * st.ts.length + 13 ≤ n + 1) : CallE F gl 127 [.lp c 0] sg ow (EvR c a b sg ow (hashM (n + 1) st)) := by
  refine XcE.of F127 rfl ?_
  simp only [ir127]
  have hcl := hp.lt
  have hp1 := hp.app [(false, zC)]
  have hln := hp.ln
  simp only [wA, seval, reduceCtorEq, reduceIte]
  refine CallE.mono (ok54 hp1.cell hp1.ne (by omega) [40]) fun v sg1 ow1 h => ?_
  obtain ⟨e1, q1, o1⟩ := h
  subst e1 o1
  have s1 := suf_exp hp.wf [40]
  have l1 := s1.le
  have hp2 := hp1.next q1 s1
  have z2 := q1.fr.get (i := sg.length) cat_get (by omega)
  have g1 := q1.fr.1
  simp only [List.length_append, List.length_cons, List.length_nil, Nat.zero_add] at g1
  have q01 := q1.from
  obtain ⟨r, hr⟩ := hd_cons hp2.ne
  have hc1 := hp2.cell
  simp only [psC, hr, List.map_cons] at hc1
  by_cases hk : (expM [40] st).hd.kind = 3
  · have hk' : (((expM [40] st).hd.kind : Int) = 3) = True := eq_true (by omega)
    have l2 := take_len hp2.wf (by omega)
    have s2 := suf_take hp2.wf
    have hB : hashM (n + 1) st = (.mk 6 (expM [40] st).hd.val [] (lisM n (expM [59] (takeM (expM [40] st)))).1.isEmpty (lisM n (expM [59] (takeM (expM [40] st)))).1, expM [41] (lisM n (expM [59] (takeM (expM [40] st)))).2) := by rw [hashM, if_neg (fun h => h hk)]
    rw [hB]
    simp only [wA, seval, reduceCtorEq, reduceIte, hc1, tTok, hk']
    refine CallE.mono (ok59 (hp2.app _).cell hp2.ne) fun v2 sg2 ow2 h2 => ?_
    obtain ⟨e2, q2, o2⟩ := h2
    subst e2 o2
    have z3 := q2.fr.get (i := sg1.length) cat_get (by omega)
    have z2b := q2.fr.get (i := sg.length) (by rw [app_get (by omega)]; exact z2) (by omega)
    have hp3 := hp2.next q2 s2
    have g2 := q2.fr.1
    simp only [List.length_append, List.length_cons, List.length_nil, Nat.zero_add] at g2
    have q02 := q01.trans q2.from
    simp only [wA, seval, reduceCtorEq, reduceIte]
    refine CallE.mono (ok54 hp3.cell hp3.ne (by omega) [59]) fun v3 sg3 ow3 h3 => ?_
    obtain ⟨e3, q3, o3⟩ := h3
    subst e3 o3
    have s3 := suf_exp hp3.wf [59]
    have l3 := s3.le
    have z3b := q3.fr.get z3 (by omega)
    have z2c := q3.fr.get z2b (by omega)
    have hp4 := hp3.next q3 s3
    have g3 := q3.fr.1
    simp only [wA, seval, reduceCtorEq, reduceIte]
    refine CallE.mono (hn.li c a b _ sg3 _ hp4 (by omega)) fun v4 sg4 ow4 h4 => ?_
    obtain ⟨hv4, hne4, q4, o4⟩ := h4
    have rd := (rd_all n).li _ hp4.wf
    have l4 := rd.suf.le
    have z3c := q4.fr.get z3b (by omega)
    have z2d := q4.fr.get z2c (by omega)
    have hp5 := hp4.next q4 rd.suf
    have g4 := q4.fr.1
    have gz3 := fun z => (app_get (lt_of_get z3c) z).trans z3c
    rw [emp_ne hne4]
    rcases hv4 with rfl | ⟨k, rfl, -, -⟩
    all_goals
      simp only [wA, seval, reduceCtorEq, reduceIte, nd, gz3, z3c, app_get (lt_of_get z3c)]
      refine CallE.mono (ok54 (hp5.app _).cell hp5.ne (by omega) [41]) fun v5 sg5 ow5 h5 => ?_
      obtain ⟨e5, q5, o5⟩ := h5
      subst e5 o5
      have z4 := q5.fr.get (i := sg4.length) cat_get (by omega)
      have z2e := q5.fr.get (i := sg.length) (by rw [app_get (by omega)]; exact z2d) (by omega)
      have gs := fun y => get_set (y := y) z2e
      simp only [wA, seval, reduceCtorEq, reduceIte, z4, z2e, gs]
      refine ⟨.inl rfl, ?_, o4⟩
      exact (((q02.trans q3).trans q4).trans q5.from).hi (Nat.le_refl _) (by omega) _
  · have hk' : (((expM [40] st).hd.kind : Int) = 3) = False := eq_false (by omega)
    have hB : hashM (n + 1) st = (zEx, failM 2 (expM [40] st)) := by rw [hashM, if_pos hk]
    rw [hB]
    simp only [wA, seval, reduceCtorEq, reduceIte, hc1, tTok, hk']
    refine CallE.mono (fail_c (hp2.app _) 2) fun v2 sg2 ow2 h2 => ?_
    obtain ⟨e2, q2, o2⟩ := h2
    subst e2 o2
    have z2b := q2.fr.get (i := sg.length) (by rw [app_get (by omega)]; exact z2) (by omega)
    have gs := fun y => get_set (y := y) z2b
    simp only [wA, seval, reduceCtorEq, reduceIte, z2b, gs]
    refine ⟨.inl rfl, ?_, OwK.refl⟩
    exact (q01.trans q2.from).hi (Nat.le_refl _) (by omega) _
end Go.Proofs.YtcbgiabippcpaaaGreatDoor

/- The parser: primary expressions. -/
set_option maxRecDepth 10000
set_option linter.unusedVariables false
set_option linter.unusedSimpArgs false
namespace Go.Proofs.YtcbgiabippcpaaaGreatDoor
open Go.Pi Go.Lx Go.Ky
variable {gl : Nat → Option (List T)}
theorem cat0 {sg : Sg} {x y : Bool × List PV} : (sg ++ [x, y])[sg.length]? = some x := by simp
theorem cat1 {sg : Sg} {x y : Bool × List PV} : (sg ++ [x, y])[sg.length + 1]? = some y := by simp
theorem nd0 (op : Int) {K : PV → Prop} : XcP F gl 66 [.int .i64 op, .sl true []] K ⟨⟩ ↔ K (.t (.agg [.int .i64 op, .int .u64 0, .str [], .sl true []])) := by
  have h := nd (gl := gl) op true [] (K := K)
  rw [tExs] at h
  exact h
set_option maxHeartbeats 4000000 in
theorem step_pr {n : Nat} (hn : CAll gl n) {c : Nat} {a b : Int} {st : Ps} {sg : Sg} {ow : Ow} (hp : Pre c a b st sg) (hf : 12 * st.ts.length + 3 ≤ n + 1) : CallE F gl 116 [.lp c 0] sg ow (EvR c a b sg ow (priM (n + 1) st)) := by
  refine XcE.of F116 rfl ?_
  simp only [ir116]
  have hcl := hp.lt
  have hp1 := hp.app [(false, zC)]
  have hln := hp.ln
  obtain ⟨r, hr⟩ := hd_cons hp.ne
  have hc1 := hp1.cell
  simp only [psC, hr, List.map_cons] at hc1
  by_cases hk : st.hd.kind = 3
  · have hk' : ((st.hd.kind : Int) = 3) = True := eq_true (by omega)
    have hB : priM (n + 1) st = (.mk 1 st.hd.val [] true [], takeM st) := by rw [priM, if_pos hk]
    rw [hB]
    simp only [wA, seval, reduceCtorEq, reduceIte, hc1, tTok, hk']
    refine CallE.mono (ok59 (hp.app _).cell hp.ne) fun v1 sg1 ow1 h1 => ?_
    obtain ⟨e1, q1, o1⟩ := h1
    subst e1 o1
    have z2 := q1.fr.get (i := sg.length) cat0 (by omega)
    have z3 := q1.fr.get (i := sg.length + 1) cat1 (by omega)
    have gs := fun y => get_set (y := y) z2
    simp only [wA, seval, reduceCtorEq, reduceIte, z2, z3, gs]
    exact ⟨.inl rfl, q1.from.hi (Nat.le_refl _) (by omega) _, OwK.refl⟩
  have hk' : ((st.hd.kind : Int) = 3) = False := eq_false (by omega)
  by_cases hi : st.hd.kind = 1
  · have hi' : ((st.hd.kind : Int) = 1) = True := eq_true (by omega)
    have hB : priM (n + 1) st = if atM [40] (takeM st) then (.mk 5 0 st.hd.text (argM n (takeM (takeM st))).1.isEmpty (argM n (takeM (takeM st))).1, (argM n (takeM (takeM st))).2) else (.mk 2 0 st.hd.text true [], takeM st) := by rw [priM, if_neg hk, if_pos hi]
    rw [hB]
    simp only [wA, seval, reduceCtorEq, reduceIte, hc1, tTok, hk', hi']
    refine CallE.mono (ok59 (hp.app _).cell hp.ne) fun v1 sg1 ow1 h1 => ?_
    obtain ⟨e1, q1, o1⟩ := h1
    subst e1 o1
    have s1 := suf_take hp.wf
    have l1 := take_len hp.wf (by omega)
    have hp2 := hp.next q1 s1
    have z2 := q1.fr.get (i := sg.length) cat0 (by omega)
    have z3 := q1.fr.get (i := sg.length + 1) cat1 (by omega)
    simp only [wA, seval, reduceCtorEq, reduceIte]
    refine CallE.mono (ok57 hp2.cell hp2.ne [40]) fun v2 sg2 ow2 h2 => ?_
    obtain ⟨e2, q2, o2⟩ := h2
    subst e2 o2
    unfold accM at q2
    have z2b := q2.fr.get z2 (by omega)
    have z3b := q2.fr.get z3 (by omega)
    cases ha : atM [40] (takeM st) with
    | true =>
      rw [ha] at q2
      simp only [reduceIte] at q2 ⊢
      have hp3 := hp2.next q2 (suf_take hp2.wf)
      have l2 := take_len hp2.wf (at_kind ha)
      simp only [wA, seval, reduceCtorEq, reduceIte, loadK, z3b]
      refine CallE.mono (hn.ar c a b _ sg2 _ hp3 (by omega)) fun v3 sg3 ow3 h3 => ?_
      obtain ⟨hv3, q3, o3⟩ := h3
      have z2c := q3.fr.get z2b (by omega)
      have z3c := q3.fr.get z3b (by omega)
      have gs := fun y => get_set (y := y) z2c
      have gn := fun y => set_ne (sg := sg3) (show sg.length ≠ sg.length + 1 by omega) y
      have q0 := (q1.from.trans q2).trans q3
      rcases hv3 with ⟨rfl, hA⟩ | ⟨rfl | ⟨k, rfl⟩, hA⟩
      · simp only [wA, seval, reduceCtorEq, reduceIte, keepsV_cons, keepsV_nil, keepP, keep1_self, z3b, z3c, z2c, gs, gn]
        refine ⟨?_, q0.hi (Nat.le_refl _) (by omega) _, o3⟩
        rw [hA]
        exact .inl rfl
      · simp only [wA, seval, reduceCtorEq, reduceIte, keepsV_cons, keepsV_nil, keepP, keep1_self, z3b, z3c, z2c, gs, gn]
        exact ⟨.inr ⟨_, ⟨.inl rfl, emp_ne hA⟩, rfl⟩, q0.hi (Nat.le_refl _) (by omega) _, o3⟩
      · simp only [wA, seval, reduceCtorEq, reduceIte, keepsV_cons, keepsV_nil, keepP, keep1_self, z3b, z3c, z2c, gs, gn]
        exact ⟨.inr ⟨_, ⟨.inr ⟨k, rfl⟩, emp_ne hA⟩, rfl⟩, q0.hi (Nat.le_refl _) (by omega) _, o3⟩
    | false =>
      rw [ha] at q2
      simp only [Bool.false_eq_true, if_false] at q2 ⊢
      have gs := fun y => get_set (y := y) z2b
      simp only [wA, seval, reduceCtorEq, reduceIte, z3b, z2b, gs]
      exact ⟨.inl rfl, (q1.from.trans q2).hi (Nat.le_refl _) (by omega) _, OwK.refl⟩
  have hi' : ((st.hd.kind : Int) = 1) = False := eq_false (by omega)
  simp only [wA, seval, reduceCtorEq, reduceIte, hc1, tTok, hk', hi']
  refine CallE.mono (ok57 (hp.app _).cell hp.ne [116, 114, 117, 101]) fun v1 sg1 ow1 h1 => ?_
  obtain ⟨e1, q1, o1⟩ := h1
  subst e1 o1
  unfold accM at q1
  have z2 := q1.fr.get (i := sg.length) cat0 (by omega)
  cases h1 : atM [116, 114, 117, 101] st with
  | true =>
    rw [h1] at q1
    simp only [reduceIte] at q1
    have hB : priM (n + 1) st = (nod 3 [], takeM st) := by rw [priM, if_neg hk, if_neg hi, if_pos h1]
    rw [hB]
    have gs := fun y => get_set (y := y) z2
    simp only [wA, seval, reduceCtorEq, reduceIte, nd0, z2, gs]
    exact ⟨.inl rfl, q1.from.hi (Nat.le_refl _) (by omega) _, OwK.refl⟩
  | false =>
  rw [h1] at q1
  simp only [Bool.false_eq_true, if_false] at q1
  simp only [wA, seval, reduceCtorEq, reduceIte]
  refine CallE.mono (ok57 q1.cell hp.ne [102, 97, 108, 115, 101]) fun v2 sg2 ow2 h2 => ?_
  obtain ⟨e2, q2, o2⟩ := h2
  subst e2 o2
  unfold accM at q2
  have z2b := q2.fr.get z2 (by omega)
  cases h2 : atM [102, 97, 108, 115, 101] st with
  | true =>
    rw [h2] at q2
    simp only [reduceIte] at q2
    have hB : priM (n + 1) st = (nod 4 [], takeM st) := by rw [priM, if_neg hk, if_neg hi, if_neg (by rw [h1]; simp), if_pos h2]
    rw [hB]
    have gs := fun y => get_set (y := y) z2b
    simp only [wA, seval, reduceCtorEq, reduceIte, nd0, z2b, gs]
    exact ⟨.inl rfl, (q1.from.trans q2).hi (Nat.le_refl _) (by omega) _, OwK.refl⟩
  | false =>
  rw [h2] at q2
  simp only [Bool.false_eq_true, if_false] at q2
  simp only [wA, seval, reduceCtorEq, reduceIte]
  refine CallE.mono (ok57 q2.cell hp.ne [104, 97, 115, 104]) fun v3 sg3 ow3 h3 => ?_
  obtain ⟨e3, q3, o3⟩ := h3
  subst e3 o3
  unfold accM at q3
  have z2c := q3.fr.get z2b (by omega)
  cases h3 : atM [104, 97, 115, 104] st with
  | true =>
    rw [h3] at q3
    simp only [reduceIte] at q3
    have hB : priM (n + 1) st = hashM n (takeM st) := by rw [priM, if_neg hk, if_neg hi, if_neg (by rw [h1]; simp), if_neg (by rw [h2]; simp), if_pos h3]
    rw [hB]
    have hp3 := hp.next q3 (suf_take hp.wf)
    have l3 := take_len hp.wf (at_kind h3)
    simp only [wA, seval, reduceCtorEq, reduceIte]
    refine CallE.mono (hn.ha c a b _ sg3 _ hp3 (by omega)) fun v4 sg4 ow4 h4 => ?_
    obtain ⟨hv, q4, o4⟩ := h4
    have z2d := q4.fr.get z2c (by omega)
    have gs := fun y => get_set (y := y) z2d
    have hv0 := hv
    rcases hv with rfl | ⟨k, hnl, rfl⟩
    all_goals
      first | have hax := Xk.al hnl.1 | have hax := @nat_nn
      simp only [wA, seval, reduceCtorEq, reduceIte, z2d, gs, hax]
      exact ⟨hv0, (((q1.from.trans q2).trans q3).trans q4).hi (Nat.le_refl _) (by omega) _, o4⟩
  | false =>
  rw [h3] at q3
  simp only [Bool.false_eq_true, if_false] at q3
  simp only [wA, seval, reduceCtorEq, reduceIte]
  refine CallE.mono (ok57 q3.cell hp.ne [91]) fun v4 sg4 ow4 h4 => ?_
  obtain ⟨e4, q4, o4⟩ := h4
  subst e4 o4
  unfold accM at q4
  have z2d := q4.fr.get z2c (by omega)
  have g1 := q1.fr.1
  have g2 := q2.fr.1
  have g3 := q3.fr.1
  have g4 := q4.fr.1
  simp only [List.length_append, List.length_cons, List.length_nil, Nat.zero_add] at g1
  have q03 := (q1.from.trans q2).trans q3
  cases h4 : atM [91] st with
  | true =>
    rw [h4] at q4
    simp only [reduceIte] at q4
    have hB : priM (n + 1) st = (nod 7 (lisM n (takeM st)).1, expM [93] (lisM n (takeM st)).2) := by rw [priM, if_neg hk, if_neg hi, if_neg (by rw [h1]; simp), if_neg (by rw [h2]; simp), if_neg (by rw [h3]; simp), if_pos h4]
    rw [hB]
    have hp4 := hp.next q4 (suf_take hp.wf)
    have l4 := take_len hp.wf (at_kind h4)
    simp only [wA, seval, reduceCtorEq, reduceIte]
    refine CallE.mono (hn.li c a b _ sg4 _ hp4 (by omega)) fun v5 sg5 ow5 h5 => ?_
    obtain ⟨hv5, hne5, q5, o5⟩ := h5
    have rd := (rd_all n).li _ hp4.wf
    have l5 := rd.suf.le
    have hp5 := hp4.next q5 rd.suf
    have z2e := q5.fr.get z2d (by omega)
    have g5 := q5.fr.1
    have hN : nod 7 (lisM n (takeM st)).1 = .mk 7 0 [] false (lisM n (takeM st)).1 := by unfold nod; rw [emp_ne hne5]
    rw [hN]
    rcases hv5 with rfl | ⟨k, rfl, -, -⟩
    all_goals
      simp only [wA, seval, reduceCtorEq, reduceIte, nd]
      refine CallE.mono (ok54 (hp5.app _).cell hp5.ne (by omega) [93]) fun v6 sg6 ow6 h6 => ?_
      obtain ⟨e6, q6, o6⟩ := h6
      subst e6 o6
      have z4 := q6.fr.get (i := sg5.length) cat_get (by omega)
      have z2f := q6.fr.get (i := sg.length) (by rw [app_get (by omega)]; exact z2e) (by omega)
      have gs := fun y => get_set (y := y) z2f
      simp only [wA, seval, reduceCtorEq, reduceIte, z4, z2f, gs]
      exact ⟨.inl rfl, (((q03.trans q4).trans q5).trans q6.from).hi (Nat.le_refl _) (by omega) _, o5⟩
  | false =>
  rw [h4] at q4
  simp only [Bool.false_eq_true, if_false] at q4
  simp only [wA, seval, reduceCtorEq, reduceIte]
  refine CallE.mono (ok57 q4.cell hp.ne [40]) fun v5 sg5 ow5 h5 => ?_
  obtain ⟨e5, q5, o5⟩ := h5
  subst e5 o5
  unfold accM at q5
  have z2e := q5.fr.get z2d (by omega)
  have g5 := q5.fr.1
  have q04 := q03.trans q4
  cases h5 : atM [40] st with
  | true =>
    rw [h5] at q5
    simp only [reduceIte] at q5
    have hB : priM (n + 1) st = ((exprM n (takeM st)).1, expM [41] (exprM n (takeM st)).2) := by rw [priM, if_neg hk, if_neg hi, if_neg (by rw [h1]; simp), if_neg (by rw [h2]; simp), if_neg (by rw [h3]; simp), if_neg (by rw [h4]; simp), if_pos h5]
    rw [hB]
    have hp5 := hp.next q5 (suf_take hp.wf)
    have l5 := take_len hp.wf (at_kind h5)
    simp only [wA, seval, reduceCtorEq, reduceIte]
    refine CallE.mono (hn.ex c a b _ sg5 _ hp5 (by omega)) fun v6 sg6 ow6 h6 => ?_
    obtain ⟨hv6, q6, o6⟩ := h6
    have rd := (rd_all n).ex _ hp5.wf
    have l6 := rd.suf.le
    have hp6 := hp5.next q6 rd.suf
    have z2f := q6.fr.get z2e (by omega)
    have g6 := q6.fr.1
    have hv0 := hv6
    rcases hv6 with rfl | ⟨k, hnl, rfl⟩
    all_goals
      first | have hax := Xk.al hnl.1 | have hax := @nat_nn
      simp only [wA, seval, reduceCtorEq, reduceIte, hax]
      refine CallE.mono (ok54 (hp6.app _).cell hp6.ne (by omega) [41]) fun v7 sg7 ow7 h7 => ?_
      obtain ⟨e7, q7, o7⟩ := h7
      subst e7 o7
      have z4 := q7.fr.get (i := sg6.length) cat_get (by omega)
      have z2g := q7.fr.get (i := sg.length) (by rw [app_get (by omega)]; exact z2f) (by omega)
      have gs := fun y => get_set (y := y) z2g
      simp only [wA, seval, reduceCtorEq, reduceIte, z4, z2g, gs, hax]
      exact ⟨hv0, (((q04.trans q5).trans q6).trans q7.from).hi (Nat.le_refl _) (by omega) _, o6⟩
  | false =>
  rw [h5] at q5
  simp only [Bool.false_eq_true, if_false] at q5
  have hB : priM (n + 1) st = (zEx, failM 2 st) := by rw [priM, if_neg hk, if_neg hi, if_neg (by rw [h1]; simp), if_neg (by rw [h2]; simp), if_neg (by rw [h3]; simp), if_neg (by rw [h4]; simp), if_neg (by rw [h5]; simp)]
  rw [hB]
  have hp5 := hp.next q5 (Suf.refl hp.wf)
  simp only [wA, seval, reduceCtorEq, reduceIte]
  refine CallE.mono (fail_c hp5 2) fun v6 sg6 ow6 h6 => ?_
  obtain ⟨e6, q6, o6⟩ := h6
  subst e6 o6
  have z2f := q6.fr.get z2e (by omega)
  have gs := fun y => get_set (y := y) z2f
  simp only [wA, seval, reduceCtorEq, reduceIte, z2f, gs]
  exact ⟨.inl rfl, ((q04.trans q5).trans q6).hi (Nat.le_refl _) (by omega) _, OwK.refl⟩
end Go.Proofs.YtcbgiabippcpaaaGreatDoor

/- The parser's expressions: the contracts at every fuel. -/
set_option maxRecDepth 10000
set_option linter.unusedVariables false
set_option linter.unusedSimpArgs false
namespace Go.Proofs.YtcbgiabippcpaaaGreatDoor
open Go.Pi Go.Lx Go.Ky
variable {gl : Nat → Option (List T)}
theorem all_zero : CAll gl 0 where
  ex := fun c a b st sg ow hp hf => absurd hf (by omega)
  bi := fun lv c a b st sg ow hl hp hf => absurd hf (by omega)
  un := fun c a b st sg ow hp hf => absurd hf (by omega)
  pr := fun c a b st sg ow hp hf => absurd hf (by omega)
  ha := fun c a b st sg ow hp hf => absurd hf (by omega)
  ar := fun c a b st sg ow hp hf => absurd hf (by omega)
  li := fun c a b st sg ow hp hf => absurd hf (by omega)
theorem all_step (hg : GlOk gl) {n : Nat} (hall : ∀ k, k ≤ n → CAll gl k) : CAll gl (n + 1) where
  ex := fun c a b st sg ow hp hf => step_ex (hall n (Nat.le_refl _)) hp hf
  bi := fun lv c a b st sg ow hl hp hf => step_bi hg hall hl hp hf
  un := fun c a b st sg ow hp hf => step_un hall hp hf
  pr := fun c a b st sg ow hp hf => step_pr (hall n (Nat.le_refl _)) hp hf
  ha := fun c a b st sg ow hp hf => step_ha (hall n (Nat.le_refl _)) hp hf
  ar := fun c a b st sg ow hp hf => step_ar (hall n (Nat.le_refl _)) hp hf
  li := fun c a b st sg ow hp hf => step_li hall hp hf
theorem all_le (hg : GlOk gl) (n : Nat) : ∀ k, k ≤ n → CAll gl k := by
  induction n with
  | zero => intro k hk; obtain rfl : k = 0 := by omega
            exact all_zero
  | succ n ih =>
    intro k hk
    rcases Nat.lt_or_ge k (n + 1) with h | h
    · exact ih k (by omega)
    · obtain rfl : k = n + 1 := by omega
      exact all_step hg ih
theorem all (hg : GlOk gl) (n : Nat) : CAll gl n := all_le hg n n (Nat.le_refl _)
end Go.Proofs.YtcbgiabippcpaaaGreatDoor

/- The parser: types. -/
set_option maxRecDepth 10000
set_option linter.unusedVariables false
set_option linter.unusedSimpArgs false
namespace Go.Proofs.YtcbgiabippcpaaaGreatDoor
open Go.Pi Go.Lx Go.Ky
variable {gl : Nat → Option (List T)}
abbrev tTyp (t : Ty) : List T := [.int .i64 t.kind, .int .i64 t.bits, .int .i64 t.len]
set_option maxHeartbeats 4000000 in
theorem ok58 {c : Nat} {a b : Int} {st : Ps} {sg : Sg} {ow : Ow} (hp : Pre c a b st sg) : CallE F gl 58 [.lp c 0] sg ow fun v sg' ow' => v = .t (.agg (tTyp (tyM st).1)) ∧ Q c a b sg (tyM st).2 sg' ∧ ow' = ow := by
  refine XcE.of F58 rfl ?_
  simp only [ir58]
  have hcl := hp.lt
  have hln := hp.ln
  simp only [wA, seval, reduceCtorEq, reduceIte]
  refine CallE.mono (ok57 (hp.app _).cell hp.ne [102, 105, 101, 108, 100]) fun v1 sg1 ow1 h1 => ?_
  obtain ⟨e1, q1, o1⟩ := h1
  subst e1 o1
  unfold accM at q1
  have y2 := q1.fr.get (i := sg.length) cat0 (by omega)
  have y3 := q1.fr.get (i := sg.length + 1) cat1 (by omega)
  have g1 := q1.fr.1
  simp only [List.length_append, List.length_cons, List.length_nil, Nat.zero_add] at g1
  cases h1 : atM [102, 105, 101, 108, 100] st with
  | true =>
    rw [h1] at q1
    simp only [reduceIte] at q1
    have gn1 := fun y => set_ne (sg := sg1) (show sg.length + 1 ≠ sg.length by omega) y
    simp only [wA, seval, reduceCtorEq, reduceIte, y3]
    have q := q1.from.hi (i := sg.length + 1) (by omega) (by omega) (false, [.t (.int .i64 1), .t (.int .i64 0), .t (.int .i64 0)])
    have z2 := (gn1 (false, [.t (.int .i64 1), .t (.int .i64 0), .t (.int .i64 0)])).trans y2
    have z3 := get_set (y := (false, [.t (.int .i64 1), .t (.int .i64 0), .t (.int .i64 0)])) y3
    have hq := hp.next q (suf_take hp.wf)
    have hT : tyKM st = (⟨1, 0, 0⟩, (takeM st)) := by unfold tyKM; rw [if_pos h1]
    refine CallE.mono (ok57 q.cell hq.ne [91]) fun vx sgx owx hx => ?_
    obtain ⟨ex, qx, ox⟩ := hx
    subst ex ox
    unfold accM at qx
    have z2x := qx.fr.get z2 (by omega)
    have z3x := qx.fr.get z3 (by omega)
    have gx := qx.fr.1
    have gs := fun y => get_set (y := y) z2x
    cases ha : atM [91] (takeM st) with
    | false =>
      rw [ha] at qx
      simp only [Bool.false_eq_true, if_false] at qx
      have hM : tyM st = (⟨1, 0, 0⟩, (takeM st)) := by unfold tyM; rw [hT, if_neg (by rw [ha]; simp)]
      rw [hM]
      simp only [wA, seval, reduceCtorEq, reduceIte, z2x, z3x, gs]
      exact (q.trans qx).hi (Nat.le_refl _) (by omega) _
    | true =>
      rw [ha] at qx
      simp only [reduceIte] at qx
      have hM : tyM st = (⟨1, 0, (numM 1 64 (takeM (takeM st))).1⟩, expM [93] (numM 1 64 (takeM (takeM st))).2) := by unfold tyM; rw [hT, if_pos ha]
      rw [hM]
      have sx := suf_take hq.wf
      have hpx := hq.next qx sx
      have lx := sx.le
      have hlx := hpx.ln
      simp only [wA, seval, reduceCtorEq, reduceIte]
      refine CallE.mono (ok88 hpx.cell hpx.ne (by omega) 1 64) fun vy sgy owy hy => ?_
      obtain ⟨ey, qy, oy⟩ := hy
      subst ey oy
      have sy := suf_num hpx.wf 1 64
      have hpy := hpx.next qy sy
      have ly := hpy.ln
      have z2y := qy.fr.get z2x (by omega)
      have z3y := qy.fr.get z3x (by omega)
      have gy := qy.fr.1
      have gs3 := fun y => get_set (y := y) z3y
      have gn := fun y => set_ne (sg := sgy) (show sg.length + 1 ≠ sg.length by omega) y
      have gc := fun y => set_ne (sg := sgy) (show sg.length + 1 ≠ c by omega) y
      simp only [wA, seval, reduceCtorEq, reduceIte, z3y]
      refine CallE.mono (ok54 (st := (numM 1 64 (takeM (takeM st))).2) (a := a) (b := b) (by rw [gc]; exact qy.cell) hpy.ne (by omega) [93]) fun vz sgz owz hz => ?_
      obtain ⟨ez, qz, oz⟩ := hz
      subst ez oz
      have z2z := qz.fr.get (i := sg.length) ((gn _).trans z2y) (by omega)
      have z3z := qz.fr.get (i := sg.length + 1) (gs3 _) (by omega)
      have gsz := fun y => get_set (y := y) z2z
      simp only [wA, seval, reduceCtorEq, reduceIte, z2z, z3z, gsz]
      exact Q.hi ⟨qz.cell, (((q.trans qx).trans qy).hi (i := sg.length + 1) (by omega) (by omega) _).fr.trans qz.fr⟩ (Nat.le_refl _) (by omega) _
  | false =>
  rw [h1] at q1
  simp only [Bool.false_eq_true, if_false] at q1
  simp only [wA, seval, reduceCtorEq, reduceIte]
  refine CallE.mono (ok57 q1.cell hp.ne [98, 111, 111, 108]) fun v2 sg2 ow2 h2 => ?_
  obtain ⟨e2, q2, o2⟩ := h2
  subst e2 o2
  unfold accM at q2
  have y2b := q2.fr.get y2 (by omega)
  have y3b := q2.fr.get y3 (by omega)
  have g2 := q2.fr.1
  cases h2 : atM [98, 111, 111, 108] st with
  | true =>
    rw [h2] at q2
    simp only [reduceIte] at q2
    have gn1 := fun y => set_ne (sg := sg2) (show sg.length + 1 ≠ sg.length by omega) y
    simp only [wA, seval, reduceCtorEq, reduceIte, y3b]
    have q := (q1.from.trans q2).hi (i := sg.length + 1) (by omega) (by omega) (false, [.t (.int .i64 2), .t (.int .i64 0), .t (.int .i64 0)])
    have z2 := (gn1 (false, [.t (.int .i64 2), .t (.int .i64 0), .t (.int .i64 0)])).trans y2b
    have z3 := get_set (y := (false, [.t (.int .i64 2), .t (.int .i64 0), .t (.int .i64 0)])) y3b
    have hq := hp.next q (suf_take hp.wf)
    have hT : tyKM st = (⟨2, 0, 0⟩, (takeM st)) := by unfold tyKM; rw [if_neg (by rw [h1]; simp), if_pos h2]
    refine CallE.mono (ok57 q.cell hq.ne [91]) fun vx sgx owx hx => ?_
    obtain ⟨ex, qx, ox⟩ := hx
    subst ex ox
    unfold accM at qx
    have z2x := qx.fr.get z2 (by omega)
    have z3x := qx.fr.get z3 (by omega)
    have gx := qx.fr.1
    have gs := fun y => get_set (y := y) z2x
    cases ha : atM [91] (takeM st) with
    | false =>
      rw [ha] at qx
      simp only [Bool.false_eq_true, if_false] at qx
      have hM : tyM st = (⟨2, 0, 0⟩, (takeM st)) := by unfold tyM; rw [hT, if_neg (by rw [ha]; simp)]
      rw [hM]
      simp only [wA, seval, reduceCtorEq, reduceIte, z2x, z3x, gs]
      exact (q.trans qx).hi (Nat.le_refl _) (by omega) _
    | true =>
      rw [ha] at qx
      simp only [reduceIte] at qx
      have hM : tyM st = (⟨2, 0, (numM 1 64 (takeM (takeM st))).1⟩, expM [93] (numM 1 64 (takeM (takeM st))).2) := by unfold tyM; rw [hT, if_pos ha]
      rw [hM]
      have sx := suf_take hq.wf
      have hpx := hq.next qx sx
      have lx := sx.le
      have hlx := hpx.ln
      simp only [wA, seval, reduceCtorEq, reduceIte]
      refine CallE.mono (ok88 hpx.cell hpx.ne (by omega) 1 64) fun vy sgy owy hy => ?_
      obtain ⟨ey, qy, oy⟩ := hy
      subst ey oy
      have sy := suf_num hpx.wf 1 64
      have hpy := hpx.next qy sy
      have ly := hpy.ln
      have z2y := qy.fr.get z2x (by omega)
      have z3y := qy.fr.get z3x (by omega)
      have gy := qy.fr.1
      have gs3 := fun y => get_set (y := y) z3y
      have gn := fun y => set_ne (sg := sgy) (show sg.length + 1 ≠ sg.length by omega) y
      have gc := fun y => set_ne (sg := sgy) (show sg.length + 1 ≠ c by omega) y
      simp only [wA, seval, reduceCtorEq, reduceIte, z3y]
      refine CallE.mono (ok54 (st := (numM 1 64 (takeM (takeM st))).2) (a := a) (b := b) (by rw [gc]; exact qy.cell) hpy.ne (by omega) [93]) fun vz sgz owz hz => ?_
      obtain ⟨ez, qz, oz⟩ := hz
      subst ez oz
      have z2z := qz.fr.get (i := sg.length) ((gn _).trans z2y) (by omega)
      have z3z := qz.fr.get (i := sg.length + 1) (gs3 _) (by omega)
      have gsz := fun y => get_set (y := y) z2z
      simp only [wA, seval, reduceCtorEq, reduceIte, z2z, z3z, gsz]
      exact Q.hi ⟨qz.cell, (((q.trans qx).trans qy).hi (i := sg.length + 1) (by omega) (by omega) _).fr.trans qz.fr⟩ (Nat.le_refl _) (by omega) _
  | false =>
  rw [h2] at q2
  simp only [Bool.false_eq_true, if_false] at q2
  simp only [wA, seval, reduceCtorEq, reduceIte]
  refine CallE.mono (ok57 q2.cell hp.ne [117, 105, 110, 116]) fun v3 sg3 ow3 h3 => ?_
  obtain ⟨e3, q3, o3⟩ := h3
  subst e3 o3
  unfold accM at q3
  have y2c := q3.fr.get y2b (by omega)
  have y3c := q3.fr.get y3b (by omega)
  have g3 := q3.fr.1
  cases h3 : atM [117, 105, 110, 116] st with
  | true =>
    rw [h3] at q3
    simp only [reduceIte] at q3
    have gn3 := fun y => set_ne (sg := sg3) (show sg.length + 1 ≠ sg.length by omega) y
    have gc3 := fun y => set_ne (sg := sg3) (show sg.length + 1 ≠ c by omega) y
    have gs3 := fun y => get_set (y := y) y3c
    have hp3 := hp.next q3 (suf_take hp.wf)
    have ln3 := hp3.ln
    simp only [wA, seval, reduceCtorEq, reduceIte, y3c]
    refine CallE.mono (ok88 (st := takeM st) (a := a) (b := b) (by rw [gc3]; exact q3.cell) hp3.ne (by omega) 1 62) fun v4 sg4 ow4 h4 => ?_
    obtain ⟨e4, q4, o4⟩ := h4
    subst e4 o4
    have y2d := q4.fr.get (i := sg.length) ((gn3 _).trans y2c) (by omega)
    have y3d := q4.fr.get (i := sg.length + 1) (gs3 _) (by omega)
    have q04 : Q c a b sg (numM 1 62 (takeM st)).2 sg4 := ⟨q4.cell, (((q1.from.trans q2).trans q3).hi (i := sg.length + 1) (by omega) (by omega) _).fr.trans q4.fr⟩
    have gn1 := fun y => set_ne (sg := sg4) (show sg.length + 1 ≠ sg.length by omega) y
    simp only [wA, seval, reduceCtorEq, reduceIte, y3d]
    have g4 := q4.fr.1
    simp only [List.length_set] at g4
    have q := q04.hi (i := sg.length + 1) (by omega) (by omega) (false, [.t (.int .i64 3), .t (.int .i64 (numM 1 62 (takeM st)).1), .t (.int .i64 0)])
    have z2 := (gn1 (false, [.t (.int .i64 3), .t (.int .i64 (numM 1 62 (takeM st)).1), .t (.int .i64 0)])).trans y2d
    have z3 := get_set (y := (false, [.t (.int .i64 3), .t (.int .i64 (numM 1 62 (takeM st)).1), .t (.int .i64 0)])) y3d
    have hq := hp3.next q (suf_num hp3.wf 1 62)
    have hT : tyKM st = (⟨3, (numM 1 62 (takeM st)).1, 0⟩, (numM 1 62 (takeM st)).2) := by unfold tyKM; rw [if_neg (by rw [h1]; simp), if_neg (by rw [h2]; simp), if_pos h3]
    refine CallE.mono (ok57 q.cell hq.ne [91]) fun vx sgx owx hx => ?_
    obtain ⟨ex, qx, ox⟩ := hx
    subst ex ox
    unfold accM at qx
    have z2x := qx.fr.get z2 (by omega)
    have z3x := qx.fr.get z3 (by omega)
    have gx := qx.fr.1
    have gs := fun y => get_set (y := y) z2x
    cases ha : atM [91] (numM 1 62 (takeM st)).2 with
    | false =>
      rw [ha] at qx
      simp only [Bool.false_eq_true, if_false] at qx
      have hM : tyM st = (⟨3, (numM 1 62 (takeM st)).1, 0⟩, (numM 1 62 (takeM st)).2) := by unfold tyM; rw [hT, if_neg (by rw [ha]; simp)]
      rw [hM]
      simp only [wA, seval, reduceCtorEq, reduceIte, z2x, z3x, gs]
      exact (q.trans qx).hi (Nat.le_refl _) (by omega) _
    | true =>
      rw [ha] at qx
      simp only [reduceIte] at qx
      have hM : tyM st = (⟨3, (numM 1 62 (takeM st)).1, (numM 1 64 (takeM (numM 1 62 (takeM st)).2)).1⟩, expM [93] (numM 1 64 (takeM (numM 1 62 (takeM st)).2)).2) := by unfold tyM; rw [hT, if_pos ha]
      rw [hM]
      have sx := suf_take hq.wf
      have hpx := hq.next qx sx
      have lx := sx.le
      have hlx := hpx.ln
      simp only [wA, seval, reduceCtorEq, reduceIte]
      refine CallE.mono (ok88 hpx.cell hpx.ne (by omega) 1 64) fun vy sgy owy hy => ?_
      obtain ⟨ey, qy, oy⟩ := hy
      subst ey oy
      have sy := suf_num hpx.wf 1 64
      have hpy := hpx.next qy sy
      have ly := hpy.ln
      have z2y := qy.fr.get z2x (by omega)
      have z3y := qy.fr.get z3x (by omega)
      have gy := qy.fr.1
      have gs3 := fun y => get_set (y := y) z3y
      have gn := fun y => set_ne (sg := sgy) (show sg.length + 1 ≠ sg.length by omega) y
      have gc := fun y => set_ne (sg := sgy) (show sg.length + 1 ≠ c by omega) y
      simp only [wA, seval, reduceCtorEq, reduceIte, z3y]
      refine CallE.mono (ok54 (st := (numM 1 64 (takeM (numM 1 62 (takeM st)).2)).2) (a := a) (b := b) (by rw [gc]; exact qy.cell) hpy.ne (by omega) [93]) fun vz sgz owz hz => ?_
      obtain ⟨ez, qz, oz⟩ := hz
      subst ez oz
      have z2z := qz.fr.get (i := sg.length) ((gn _).trans z2y) (by omega)
      have z3z := qz.fr.get (i := sg.length + 1) (gs3 _) (by omega)
      have gsz := fun y => get_set (y := y) z2z
      simp only [wA, seval, reduceCtorEq, reduceIte, z2z, z3z, gsz]
      exact Q.hi ⟨qz.cell, (((q.trans qx).trans qy).hi (i := sg.length + 1) (by omega) (by omega) _).fr.trans qz.fr⟩ (Nat.le_refl _) (by omega) _
  | false =>
  rw [h3] at q3
  simp only [Bool.false_eq_true, if_false] at q3
  have hp3 := hp.next q3 (Suf.refl hp.wf)
  simp only [wA, seval, reduceCtorEq, reduceIte]
  refine CallE.mono (fail_c hp3 2) fun v4 sg4 ow4 h4 => ?_
  obtain ⟨e4, q4, o4⟩ := h4
  subst e4 o4
  have z2 := q4.fr.get y2c (by omega)
  have z3 := q4.fr.get y3c (by omega)
  have q := ((q1.from.trans q2).trans q3).trans q4
  have hq := hp.next q (suf_fail hp.wf 2)
  have g4 := q4.fr.1
  simp only [wA, seval, reduceCtorEq, reduceIte]
  have hT : tyKM st = (⟨0, 0, 0⟩, (failM 2 st)) := by unfold tyKM; rw [if_neg (by rw [h1]; simp), if_neg (by rw [h2]; simp), if_neg (by rw [h3]; simp)]
  refine CallE.mono (ok57 q.cell hq.ne [91]) fun vx sgx owx hx => ?_
  obtain ⟨ex, qx, ox⟩ := hx
  subst ex ox
  unfold accM at qx
  have z2x := qx.fr.get z2 (by omega)
  have z3x := qx.fr.get z3 (by omega)
  have gx := qx.fr.1
  have gs := fun y => get_set (y := y) z2x
  cases ha : atM [91] (failM 2 st) with
  | false =>
    rw [ha] at qx
    simp only [Bool.false_eq_true, if_false] at qx
    have hM : tyM st = (⟨0, 0, 0⟩, (failM 2 st)) := by unfold tyM; rw [hT, if_neg (by rw [ha]; simp)]
    rw [hM]
    simp only [wA, seval, reduceCtorEq, reduceIte, z2x, z3x, gs]
    exact (q.trans qx).hi (Nat.le_refl _) (by omega) _
  | true =>
    rw [ha] at qx
    simp only [reduceIte] at qx
    have hM : tyM st = (⟨0, 0, (numM 1 64 (takeM (failM 2 st))).1⟩, expM [93] (numM 1 64 (takeM (failM 2 st))).2) := by unfold tyM; rw [hT, if_pos ha]
    rw [hM]
    have sx := suf_take hq.wf
    have hpx := hq.next qx sx
    have lx := sx.le
    have hlx := hpx.ln
    simp only [wA, seval, reduceCtorEq, reduceIte]
    refine CallE.mono (ok88 hpx.cell hpx.ne (by omega) 1 64) fun vy sgy owy hy => ?_
    obtain ⟨ey, qy, oy⟩ := hy
    subst ey oy
    have sy := suf_num hpx.wf 1 64
    have hpy := hpx.next qy sy
    have ly := hpy.ln
    have z2y := qy.fr.get z2x (by omega)
    have z3y := qy.fr.get z3x (by omega)
    have gy := qy.fr.1
    have gs3 := fun y => get_set (y := y) z3y
    have gn := fun y => set_ne (sg := sgy) (show sg.length + 1 ≠ sg.length by omega) y
    have gc := fun y => set_ne (sg := sgy) (show sg.length + 1 ≠ c by omega) y
    simp only [wA, seval, reduceCtorEq, reduceIte, z3y]
    refine CallE.mono (ok54 (st := (numM 1 64 (takeM (failM 2 st))).2) (a := a) (b := b) (by rw [gc]; exact qy.cell) hpy.ne (by omega) [93]) fun vz sgz owz hz => ?_
    obtain ⟨ez, qz, oz⟩ := hz
    subst ez oz
    have z2z := qz.fr.get (i := sg.length) ((gn _).trans z2y) (by omega)
    have z3z := qz.fr.get (i := sg.length + 1) (gs3 _) (by omega)
    have gsz := fun y => get_set (y := y) z2z
    simp only [wA, seval, reduceCtorEq, reduceIte, z2z, z3z, gsz]
    exact Q.hi ⟨qz.cell, (((q.trans qx).trans qy).hi (i := sg.length + 1) (by omega) (by omega) _).fr.trans qz.fr⟩ (Nat.le_refl _) (by omega) _
end Go.Proofs.YtcbgiabippcpaaaGreatDoor

/- The parser: parameters, declarations. -/
set_option maxRecDepth 10000
set_option linter.unusedVariables false
set_option linter.unusedSimpArgs false
namespace Go.Proofs.YtcbgiabippcpaaaGreatDoor
open Go.Pi Go.Lx Go.Ky
variable {gl : Nat → Option (List T)}
set_option maxHeartbeats 1000000 in
theorem ok56 {c : Nat} {a b : Int} {st : Ps} {sg : Sg} {ow : Ow} (hp : Pre c a b st sg) : CallE F gl 56 [.lp c 0] sg ow fun v sg' ow' => v = .t (.agg (tPa (parM st).1)) ∧ Q c a b sg (parM st).2 sg' ∧ ow' = ow := by
  refine XcE.of F56 rfl ?_
  simp only [ir56]
  have hcl := hp.lt
  have hln := hp.ln
  simp only [wA, seval, reduceCtorEq, reduceIte]
  refine CallE.mono (ok55 (hp.app _).cell hp.ne (by omega)) fun v1 sg1 ow1 h1 => ?_
  obtain ⟨e1, q1, o1⟩ := h1
  subst e1 o1
  have z2 := q1.fr.get (i := sg.length) cat_get (by omega)
  have hp1 := hp.next q1 (suf_name hp.wf)
  have ln1 := hp1.ln
  simp only [wA, seval, reduceCtorEq, reduceIte]
  refine CallE.mono (ok54 hp1.cell hp1.ne (by omega) [58]) fun v2 sg2 ow2 h2 => ?_
  obtain ⟨e2, q2, o2⟩ := h2
  subst e2 o2
  have z2b := q2.fr.get z2 (by omega)
  have hp2 := hp1.next q2 (suf_exp hp1.wf [58])
  simp only [wA, seval, reduceCtorEq, reduceIte]
  refine CallE.mono (ok58 hp2) fun v3 sg3 ow3 h3 => ?_
  obtain ⟨e3, q3, o3⟩ := h3
  subst e3 o3
  have z2c := q3.fr.get z2b (by omega)
  have gs := fun y => get_set (y := y) z2c
  simp only [wA, seval, reduceCtorEq, reduceIte, z2c, gs]
  exact ⟨rfl, ((q1.from.trans q2).trans q3).hi (Nat.le_refl _) (by omega) _⟩
set_option maxHeartbeats 1000000 in
theorem ok21 {c : Nat} {a b : Int} {st : Ps} {sg : Sg} {ow : Ow} (hp : Pre c a b st sg) : CallE F gl 21 [.lp c 0] sg ow fun v sg' ow' => v = .t (.agg (tDe (declM' st).1)) ∧ Q c a b sg (declM' st).2 sg' ∧ ow' = ow := by
  refine XcE.of F21 rfl ?_
  simp only [ir21]
  have hcl := hp.lt
  have hln := hp.ln
  simp only [wA, seval, reduceCtorEq, reduceIte]
  refine CallE.mono (ok59 (hp.app _).cell hp.ne) fun v0 sg0 ow0 h0 => ?_
  obtain ⟨e0, q0, o0⟩ := h0
  subst e0 o0
  have z2 := q0.fr.get (i := sg.length) cat_get (by omega)
  have hp0 := hp.next q0 (suf_take hp.wf)
  have ln0 := hp0.ln
  have g0 := q0.fr.1
  simp only [List.length_append, List.length_cons, List.length_nil, Nat.zero_add] at g0
  simp only [wA, seval, reduceCtorEq, reduceIte, tTok]
  refine CallE.mono (ok55 (hp0.app _).cell hp0.ne (by omega)) fun v1 sg1 ow1 h1 => ?_
  obtain ⟨e1, q1, o1⟩ := h1
  subst e1 o1
  have z3 := q1.fr.get (i := sg0.length) cat_get (by omega)
  have z2a := q1.fr.get (i := sg.length) (by rw [app_get (by omega)]; exact z2) (by omega)
  have hp1 := hp0.next q1 (suf_name hp0.wf)
  have ln1 := hp1.ln
  have g1 := q1.fr.1
  simp only [List.length_append, List.length_cons, List.length_nil, Nat.zero_add] at g1
  have gn1 := fun y => set_ne (sg := sg1) (show sg0.length ≠ sg.length by omega) y
  have gc1 := fun y => set_ne (sg := sg1) (show sg0.length ≠ c by omega) y
  have gs1 := fun y => get_set (y := y) z3
  simp only [wA, seval, reduceCtorEq, reduceIte, z3]
  refine CallE.mono (ok54 (st := (nameM (takeM st)).2) (a := a) (b := b) (by rw [gc1]; exact q1.cell) hp1.ne (by omega) [58]) fun v2 sg2 ow2 h2 => ?_
  obtain ⟨e2, q2, o2⟩ := h2
  subst e2 o2
  have z3b := q2.fr.get (i := sg0.length) (gs1 _) (by omega)
  have z2b := q2.fr.get (i := sg.length) ((gn1 _).trans z2a) (by omega)
  have hp2 := hp1.next q2 (suf_exp hp1.wf [58])
  have g2 := q2.fr.1
  simp only [List.length_set] at g2
  simp only [wA, seval, reduceCtorEq, reduceIte]
  refine CallE.mono (ok58 hp2) fun v3 sg3 ow3 h3 => ?_
  obtain ⟨e3, q3, o3⟩ := h3
  subst e3 o3
  have z2c := q3.fr.get z2b (by omega)
  have z3c := q3.fr.get z3b (by omega)
  have g3 := q3.fr.1
  have hp3 := hp2.next q3 (suf_ty hp2.wf)
  have ln3 := hp3.ln
  have gn3 := fun y => set_ne (sg := sg3) (show sg0.length ≠ sg.length by omega) y
  have gc3 := fun y => set_ne (sg := sg3) (show sg0.length ≠ c by omega) y
  have gs3 := fun y => get_set (y := y) z3c
  simp only [wA, seval, reduceCtorEq, reduceIte, z3c]
  refine CallE.mono (ok54 (st := (tyM (expM [58] (nameM (takeM st)).2)).2) (a := a) (b := b) (by rw [gc3]; exact q3.cell) hp3.ne (by omega) [59]) fun v4 sg4 ow4 h4 => ?_
  obtain ⟨e4, q4, o4⟩ := h4
  subst e4 o4
  have z3d := q4.fr.get (i := sg0.length) (gs3 _) (by omega)
  have z2d := q4.fr.get (i := sg.length) ((gn3 _).trans z2c) (by omega)
  have gs := fun y => get_set (y := y) z2d
  have qa : Q c a b sg (tyM (expM [58] (nameM (takeM st)).2)).2 sg3 := (Q.trans (x := (expM [58] (nameM (takeM st)).2)) ⟨q2.cell, (((q0.from.trans q1.from).hi (i := sg0.length) (by omega) (by omega) _).fr.trans q2.fr)⟩ q3)
  simp only [wA, seval, reduceCtorEq, reduceIte, z3d, z2d, gs]
  refine ⟨?_, Q.hi ⟨q4.cell, (qa.hi (i := sg0.length) (by omega) (by omega) _).fr.trans q4.fr⟩ (Nat.le_refl _) (by omega) _⟩
  rfl
end Go.Proofs.YtcbgiabippcpaaaGreatDoor
