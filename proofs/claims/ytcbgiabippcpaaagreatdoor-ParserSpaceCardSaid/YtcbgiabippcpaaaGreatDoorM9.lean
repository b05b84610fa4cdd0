/- The parser: binary expressions. -/
import Derived.Test.YtcbgiabippcpaaaGreatDoorM8
set_option maxRecDepth 10000
set_option linter.unusedVariables false
set_option linter.unusedSimpArgs false
namespace Go.Proofs.YtcbgiabippcpaaaGreatDoor
open Go.Pi Go.Lx Go.Ky
variable {gl : Nat → Option (List T)}

theorem suf_len {s s' : Ps} (h : Suf s s') : s'.ts.length ≤ s.ts.length := h.le
set_option maxHeartbeats 2000000 in
theorem loop65 (hg : GlOk gl) {lv : Nat} (hlv : lv ≤ 4) {c i4 i5 : Nat} {a b : Int} {sg0 : Sg} (hc0 : c < sg0.length) (h4 : sg0.length ≤ i4) (h5 : sg0.length ≤ i5) (h45 : i4 ≠ i5) (X : Ex → S → Prop) :
    ∀ (m : Nat), (∀ k, k < m → CAll gl k) → ∀ (e : Exp) (cs : List PV) (st : Ps) (sg : Sg) (ow : Ow) (fr : List PV), Ec cs e → WfT st.ts → st.ts.length ≤ 100000 → Q c a b sg0 st sg → sg[i4]? = some (false, zC) → sg[i5]? = some (false, cs) → 12 * st.ts.length + (9 - lv) ≤ m →
    FrAt fr [(0, .lp c 0), (1, .t (.int .i64 lv)), (4, .lp i4 0), (5, .lp i5 0)] →
    (∀ fr' sg' ow' cs', Ec cs' (binL m lv e st).1 → Q c a b sg0 (binL m lv e st).2 sg' → sg'[i4]? = some (false, cs') → fget fr' 4 = .lp i4 0 → OwK ow ow' → X .ret ⟨fr', sg', ow'⟩) →
    Xl F gl lb65_0 ⟨fr, sg, ow⟩ X ⟨⟩ := by
  intro m
  induction m with
  | zero => intro _ e cs st sg ow fr _ hw _ _ _ _ hf; have := hw.len; omega
  | succ m ih =>
    intro hall e cs st sg ow fr hcs hw hln hq z4 z5 hf hfr k
    simp only [FrAt_cons, FrAt_nil] at hfr
    obtain ⟨f0, f1, f4, f5, -⟩ := hfr
    refine Xl.step ?_
    simp only [lb65_0]
    have hw1 : IntKind.wrap .i64 ((lv : Int) + 1) = ((lv + 1 : Nat) : Int) := by rw [IntWalk.i64_in _ (by omega)]; omega
    simp only [wA, seval, reduceCtorEq, reduceIte, f0, f1, f4, f5]
    refine CallE.mono (ok90 hg hq.cell hw lv hlv) fun v sg1 ow1 h => ?_
    obtain ⟨e1, q1, o1⟩ := h
    subst e1 o1
    have z4b := q1.fr.get z4 (by omega)
    have z5b := q1.fr.get z5 (by omega)
    have gs4 := fun y => get_set (y := y) z4b
    cases ho : opL lv st with
    | none =>
      rw [ho] at q1
      simp only [Option.isSome_none, Bool.false_eq_true, if_false] at q1
      have hB : binL (m + 1) lv e st = (e, st) := by rw [binL, ho]
      rw [hB] at k
      have q0 : Q c a b sg0 st sg1 := hq.trans q1
      rcases hcs with rfl | ⟨kk, hnl, rfl⟩
      · simp only [wA, seval, reduceCtorEq, reduceIte, f0, f1, f4, f5, ho, z4b, z5b, gs4, Option.getD_none, Option.isSome_none]
        exact k _ _ _ _ (.inl rfl) (q0.hi h4 (by omega) _) (gs4 _) (by simp only [FrAt_cons, FrAt_nil, wFr, Nat.reduceEqDiff, Nat.one_ne_zero, Nat.zero_ne_one, reduceIte, and_self, and_true, true_and, f4]) OwK.refl
      · have hax := Xk.al hnl.1
        simp only [wA, seval, reduceCtorEq, reduceIte, f0, f1, f4, f5, ho, z4b, z5b, gs4, Option.getD_none, Option.isSome_none, hax]
        exact k _ _ _ _ (.inr ⟨kk, hnl, rfl⟩) (q0.hi h4 (by omega) _) (gs4 _) (by simp only [FrAt_cons, FrAt_nil, wFr, Nat.reduceEqDiff, Nat.one_ne_zero, Nat.zero_ne_one, reduceIte, and_self, and_true, true_and, f4]) OwK.refl
    | some o =>
      rw [ho] at q1
      simp only [Option.isSome_some, if_true] at q1
      have q0 : Q c a b sg0 (takeM st) sg1 := hq.trans q1
      have l1 := take_len hw (opGo_at ho)
      have s1 := suf_take hw
      have hp1 : Pre c a b (takeM st) sg1 := ⟨q1.cell, s1.wf hw, by omega⟩
      have hcall := (hall m (by omega)).bi (lv + 1) c a b (takeM st) sg1 ow1 (by omega) hp1 (by omega)
      have rd := (rd_all m).bi (lv + 1) (takeM st) hp1.wf
      have l2 := rd.suf.le
      have hB : binL (m + 1) lv e st = if lv = 2 then (nod o [e, (binM m (lv + 1) (takeM st)).1], (binM m (lv + 1) (takeM st)).2) else binL m lv (nod o [e, (binM m (lv + 1) (takeM st)).1]) (binM m (lv + 1) (takeM st)).2 := by rw [binL, ho]
      rcases hcs with rfl | ⟨kk, hnl, rfl⟩
      all_goals
        first | have hax := Xk.al hnl.1 | have hax := @nat_nn
        simp only [wA, seval, reduceCtorEq, reduceIte, f0, f1, f4, f5, ho, z4b, z5b, hw1, loadK, Option.getD_some, Option.isSome_some, hax]
        refine CallE.mono hcall fun v2 sg2 ow2 h2 => ?_
        obtain ⟨hv2, q2, o2⟩ := h2
        have z4c := q2.fr.get z4b (by omega)
        have z5c := q2.fr.get z5b (by omega)
        have gs4c := fun y => get_set (y := y) z4c
        have gs5c := fun y => get_set (y := y) z5c
        have gn := fun y => set_ne (sg := sg2) (show i5 ≠ i4 by omega) y
        have q02 : Q c a b sg0 (binM m (lv + 1) (takeM st)).2 sg2 := q0.trans q2
        first | have hb := bsl2 (e := e) (v := .agg (eK e kk)) (.inr ⟨kk, hnl, rfl⟩) hv2 | have hb := bsl2 (e := e) (.inl rfl) hv2
        by_cases h2 : lv = 2
        · have h2' : ((lv : Int) = 2) = True := eq_true (by omega)
          rw [hB, if_pos h2] at k
          have gs45 := fun y y2 => get_set (sg := sg2.set i5 y) (y := y2) ((gn y).trans z4c)
          simp only [wA, seval, reduceCtorEq, reduceIte, f0, f1, f4, f5, keepsV_cons, keepsV_nil, keepP, keep1_self, z4c, z5b, z5c, hb, nd, gs5c, gn, h2', gs45]
          refine k _ _ _ _ (.inl rfl) ((q02.hi h5 (by omega) _).hi h4 (by omega) _) (gs45 _ _) ?_ o2
          simp only [FrAt_cons, FrAt_nil, wFr, Nat.reduceEqDiff, Nat.one_ne_zero, Nat.zero_ne_one, reduceIte, and_self, and_true, true_and, f4]
        · have h2' : ((lv : Int) = 2) = False := eq_false (by omega)
          rw [hB, if_neg h2] at k
          simp only [wA, seval, reduceCtorEq, reduceIte, f0, f1, f4, f5, keepsV_cons, keepsV_nil, keepP, keep1_self, z4c, z5b, z5c, hb, nd, gs5c, gn, h2']
          refine ih (fun k hk => hall k (by omega)) (nod o [e, (binM m (lv + 1) (takeM st)).1]) _ (binM m (lv + 1) (takeM st)).2 _ ow2 _ (.inl rfl) (rd.suf.wf hp1.wf) (by omega) (q02.hi h5 (by omega) _) ((gn _).trans z4c) (gs5c _) (by omega) ?_ ?_
          · simp only [FrAt_cons, FrAt_nil, wFr, Nat.reduceEqDiff, Nat.one_ne_zero, Nat.zero_ne_one, reduceIte, and_self, and_true, true_and, f0, f1, f4, f5]
          intro fr' sg' ow' cs' a1 a2 a3 a4 a5
          exact k fr' sg' ow' cs' a1 a2 a3 a4 (o2.trans a5)
set_option maxHeartbeats 1000000 in
theorem step_bi (hg : GlOk gl) {n : Nat} (hall : ∀ k, k ≤ n → CAll gl k) {lv : Nat} (hlv : lv ≤ 5) {c : Nat} {a b : Int} {st : Ps} {sg : Sg} {ow : Ow} (hp : Pre c a b st sg) (hf : 12 * st.ts.length + (10 - lv) ≤ n + 1) : CallE F gl 65 [.lp c 0, .t (.int .i64 lv)] sg ow (EvR c a b sg ow (binM (n + 1) lv st)) := by
  refine XcE.of F65 rfl ?_
  simp only [ir65]
  have hcl := hp.lt
  have hp1 := hp.app [(false, zC)]
  by_cases h5 : lv = 5
  · have h5' : ((lv : Int) = 5) = True := eq_true (by omega)
    simp only [wA, seval, reduceCtorEq, reduceIte, h5']
    refine CallE.mono ((hall n (Nat.le_refl _)).un c a b st _ ow hp1 (by omega)) fun v sg1 ow1 h => ?_
    obtain ⟨hv, hq, ho⟩ := h
    have z2 := hq.fr.get (i := sg.length) cat_get (by omega)
    have gs := fun y => get_set (y := y) z2
    have hB : binM (n + 1) lv st = unM n st := by rw [binM, if_pos h5]
    rw [hB]
    have hv0 := hv
    rcases hv with rfl | ⟨k, hnl, rfl⟩
    all_goals
      first | have hax := Xk.al hnl.1 | have hax := @nat_nn
      simp only [wA, seval, reduceCtorEq, reduceIte, z2, gs, hax]
      exact ⟨hv0, hq.from.hi (Nat.le_refl _) (by omega) _, ho⟩
  · have h5' : ((lv : Int) = 5) = False := eq_false (by omega)
    have hw1 : IntKind.wrap .i64 ((lv : Int) + 1) = ((lv + 1 : Nat) : Int) := by rw [IntWalk.i64_in _ (by omega)]; omega
    simp only [wA, seval, reduceCtorEq, reduceIte, h5', hw1]
    refine CallE.mono ((hall n (Nat.le_refl _)).bi (lv + 1) c a b st _ ow (by omega) hp1 (by omega)) fun v sg1 ow1 h => ?_
    obtain ⟨hv, hq, ho⟩ := h
    have rd1 := (rd_all n).bi (lv + 1) st hp.wf
    have l1 := rd1.suf.le
    have z2 := hq.fr.get (i := sg.length) cat_get (by omega)
    have g1 := hq.fr.1
    simp only [List.length_append, List.length_cons, List.length_nil, Nat.zero_add] at g1
    have hB : binM (n + 1) lv st = binL n lv (binM n (lv + 1) st).1 (binM n (lv + 1) st).2 := by rw [binM, if_neg h5]
    rw [hB]
    rcases hv with rfl | ⟨k, hnl, rfl⟩
    all_goals
      first | have hax := Xk.al hnl.1 | have hax := @nat_nn
      simp only [wA, seval, reduceCtorEq, reduceIte, hax]
      refine loop65 hg (lv := lv) (by omega) (i4 := sg.length) (i5 := sg1.length) (sg0 := sg) (a := a) (b := b) (c := c) hcl (Nat.le_refl _) (by omega) (by omega) _ n (fun k hk => hall k (by omega)) (binM n (lv + 1) st).1 _ (binM n (lv + 1) st).2 _ ow1 _ ?_ (rd1.suf.wf hp.wf) (by have := hp.ln; omega) (hq.from.more _) (by rw [app_get (by omega)]; exact z2) cat_get (by omega) ?_ ?_
      · first | exact .inr ⟨k, hnl, rfl⟩ | exact .inl rfl
      · simp only [FrAt_cons, FrAt_nil, wFr, Nat.reduceEqDiff, Nat.one_ne_zero, Nat.zero_ne_one, reduceIte, and_self, and_true, true_and]
      · intro fr' sg' ow' cs' a1 a2 a3 a4 a5
        rcases a1 with rfl | ⟨j, hj, rfl⟩
        · simp only [wA, seval, reduceCtorEq, reduceIte, a3, a4]
          exact ⟨.inl rfl, a2, ho.trans a5⟩
        · have hax := Xk.al hj.1
          simp only [wA, seval, reduceCtorEq, reduceIte, a3, a4, hax]
          exact ⟨.inr ⟨j, hj, rfl⟩, a2, ho.trans a5⟩
end Go.Proofs.YtcbgiabippcpaaaGreatDoor
