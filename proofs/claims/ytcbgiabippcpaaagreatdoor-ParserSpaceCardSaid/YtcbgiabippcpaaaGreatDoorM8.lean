/- The parser's operators. -/
import Derived.Test.YtcbgiabippcpaaaGreatDoorM7
set_option maxRecDepth 10000
set_option linter.unusedVariables false
set_option linter.unusedSimpArgs false
namespace Go.Proofs.YtcbgiabippcpaaaGreatDoor
open Go.Pi Go.Lx Go.Ky
variable {gl : Nat → Option (List T)}

def opE (st : Ps) : List (Nm × Int) → Option Int
  | [] => none
  | (t, o) :: r => if t ≠ [] ∧ atM t st = true then some o else opE st r
section
variable {c : Nat} {a b : Int} {st : Ps} {sg0 : Sg} {ow : Ow} {t0 t1 t2 t3 : Nm} {o0 o1 o2 o3 : Int}
abbrev rowC (t0 t1 t2 t3 : Nm) (o0 o1 o2 o3 : Int) : PV := .t (.agg [.str t0, .int .i64 o0, .str t1, .int .i64 o1, .str t2, .int .i64 o2, .str t3, .int .i64 o3])
theorem it4 (X : Ex → S → Prop) {fr : List PV} {sg : Sg} (hq : Q c a b sg0 st sg) (hf : FrAt fr [(0, .lp c 0), (10, rowC t0 t1 t2 t3 o0 o1 o2 o3), (11, .t (.int .i64 4))])
    (k1 : ∀ fr' sg', Q c a b sg0 st sg' → X (.exit 0) ⟨fr', sg', ow⟩) : Xl F gl lb90_0 ⟨fr, sg, ow⟩ X ⟨⟩ := by
  simp only [FrAt_cons, FrAt_nil] at hf
  obtain ⟨f0, f10, f11, -⟩ := hf
  refine Xl.step ?_
  simp only [lb90_0]
  simp only [wA, seval, reduceCtorEq, reduceIte, f0, f10, f11]
  exact k1 _ _ hq
theorem it3 (hw : WfT st.ts) (X : Ex → S → Prop) {fr : List PV} {sg : Sg} (hq : Q c a b sg0 st sg) (hf : FrAt fr [(0, .lp c 0), (10, rowC t0 t1 t2 t3 o0 o1 o2 o3), (11, .t (.int .i64 3))])
    (k1 : opE st [(t3, o3)] = none → ∀ fr' sg', Q c a b sg0 st sg' → X (.exit 0) ⟨fr', sg', ow⟩)
    (k2 : ∀ o, opE st [(t3, o3)] = some o → ∀ fr' sg', Q c a b sg0 (takeM st) sg' → FrAt fr' [(4, .t (.int .i64 o)), (5, .t (.bool true))] → X .ret ⟨fr', sg', ow⟩) : Xl F gl lb90_0 ⟨fr, sg, ow⟩ X ⟨⟩ := by
  simp only [FrAt_cons, FrAt_nil] at hf
  obtain ⟨f0, f10, f11, -⟩ := hf
  refine Xl.step ?_
  simp only [lb90_0]
  have hcl := lt_of_get hq.cell
  rw [opE] at k1 k2
  by_cases ht : t3 = []
  · have ht' : (t3 = []) = True := eq_true ht
    have hb1 : (t3 == []) = true := by simp [ht]
    rw [if_neg (fun h => h.1 ht)] at k1 k2
    simp only [wA, seval, reduceCtorEq, reduceIte, f0, f10, f11, ht', hb1]
    exact it4 (t0 := t0) (t1 := t1) (t2 := t2) (t3 := t3) (o0 := o0) (o1 := o1) (o2 := o2) (o3 := o3) X (hq.more _) (by simp only [FrAt_cons, FrAt_nil, wFr, Nat.reduceEqDiff, Nat.one_ne_zero, Nat.zero_ne_one, reduceIte, and_self, and_true, true_and, f0, f10]; first | done | rfl | exact ⟨rfl, rfl⟩) (k1 rfl)
  · have ht' : (t3 = []) = False := eq_false ht
    have hb1 : (t3 == []) = false := by simp [ht]
    simp only [wA, seval, reduceCtorEq, reduceIte, f0, f10, f11, ht', hb1]
    refine CallE.mono (ok57 (by rw [app_get hcl]; exact hq.cell) hw.ne t3) fun v sg' ow' h => ?_
    obtain ⟨h1, h2, h3⟩ := h
    subst h1 h3
    unfold accM at h2
    have z := h2.fr.get (i := sg.length) cat_get (by omega)
    cases ha : atM t3 st with
    | false =>
      rw [ha] at h2
      simp only [Bool.false_eq_true, if_false] at h2
      rw [if_neg (fun h => by rw [ha] at h; exact absurd h.2 (by simp))] at k1 k2
      have h2' : Q c a b sg0 st sg' := ⟨h2.cell, hq.fr.trans h2.from.fr⟩
      simp only [wA, seval, reduceCtorEq, reduceIte, f0, f10, f11, z]
      exact it4 (t0 := t0) (t1 := t1) (t2 := t2) (t3 := t3) (o0 := o0) (o1 := o1) (o2 := o2) (o3 := o3) X h2' (by simp only [FrAt_cons, FrAt_nil, wFr, Nat.reduceEqDiff, Nat.one_ne_zero, Nat.zero_ne_one, reduceIte, and_self, and_true, true_and, f0, f10]; first | done | rfl | exact ⟨rfl, rfl⟩) (k1 rfl)
    | true =>
      rw [ha] at h2
      simp only [reduceIte] at h2
      rw [if_pos ⟨ht, ha⟩] at k2
      simp only [wA, seval, reduceCtorEq, reduceIte, f0, f10, f11, z]
      exact k2 _ rfl _ _ ⟨h2.cell, hq.fr.trans h2.from.fr⟩ (by simp only [FrAt_cons, FrAt_nil, wFr, Nat.reduceEqDiff, Nat.one_ne_zero, Nat.zero_ne_one, reduceIte, and_self, and_true, true_and]; first | done | exact ⟨rfl, rfl⟩ | rfl)
theorem it2 (hw : WfT st.ts) (X : Ex → S → Prop) {fr : List PV} {sg : Sg} (hq : Q c a b sg0 st sg) (hf : FrAt fr [(0, .lp c 0), (10, rowC t0 t1 t2 t3 o0 o1 o2 o3), (11, .t (.int .i64 2))])
    (k1 : opE st [(t2, o2), (t3, o3)] = none → ∀ fr' sg', Q c a b sg0 st sg' → X (.exit 0) ⟨fr', sg', ow⟩)
    (k2 : ∀ o, opE st [(t2, o2), (t3, o3)] = some o → ∀ fr' sg', Q c a b sg0 (takeM st) sg' → FrAt fr' [(4, .t (.int .i64 o)), (5, .t (.bool true))] → X .ret ⟨fr', sg', ow⟩) : Xl F gl lb90_0 ⟨fr, sg, ow⟩ X ⟨⟩ := by
  simp only [FrAt_cons, FrAt_nil] at hf
  obtain ⟨f0, f10, f11, -⟩ := hf
  refine Xl.step ?_
  simp only [lb90_0]
  have hcl := lt_of_get hq.cell
  rw [opE] at k1 k2
  by_cases ht : t2 = []
  · have ht' : (t2 = []) = True := eq_true ht
    have hb1 : (t2 == []) = true := by simp [ht]
    rw [if_neg (fun h => h.1 ht)] at k1 k2
    simp only [wA, seval, reduceCtorEq, reduceIte, f0, f10, f11, ht', hb1]
    refine it3 (t0 := t0) (t1 := t1) (t2 := t2) (t3 := t3) (o0 := o0) (o1 := o1) (o2 := o2) (o3 := o3) hw X (hq.more _) (by simp only [FrAt_cons, FrAt_nil, wFr, Nat.reduceEqDiff, Nat.one_ne_zero, Nat.zero_ne_one, reduceIte, and_self, and_true, true_and, f0, f10]; first | done | rfl | exact ⟨rfl, rfl⟩) k1 k2
  · have ht' : (t2 = []) = False := eq_false ht
    have hb1 : (t2 == []) = false := by simp [ht]
    simp only [wA, seval, reduceCtorEq, reduceIte, f0, f10, f11, ht', hb1]
    refine CallE.mono (ok57 (by rw [app_get hcl]; exact hq.cell) hw.ne t2) fun v sg' ow' h => ?_
    obtain ⟨h1, h2, h3⟩ := h
    subst h1 h3
    unfold accM at h2
    have z := h2.fr.get (i := sg.length) cat_get (by omega)
    cases ha : atM t2 st with
    | false =>
      rw [ha] at h2
      simp only [Bool.false_eq_true, if_false] at h2
      rw [if_neg (fun h => by rw [ha] at h; exact absurd h.2 (by simp))] at k1 k2
      have h2' : Q c a b sg0 st sg' := ⟨h2.cell, hq.fr.trans h2.from.fr⟩
      simp only [wA, seval, reduceCtorEq, reduceIte, f0, f10, f11, z]
      refine it3 (t0 := t0) (t1 := t1) (t2 := t2) (t3 := t3) (o0 := o0) (o1 := o1) (o2 := o2) (o3 := o3) hw X h2' (by simp only [FrAt_cons, FrAt_nil, wFr, Nat.reduceEqDiff, Nat.one_ne_zero, Nat.zero_ne_one, reduceIte, and_self, and_true, true_and, f0, f10]; first | done | rfl | exact ⟨rfl, rfl⟩) k1 k2
    | true =>
      rw [ha] at h2
      simp only [reduceIte] at h2
      rw [if_pos ⟨ht, ha⟩] at k2
      simp only [wA, seval, reduceCtorEq, reduceIte, f0, f10, f11, z]
      exact k2 _ rfl _ _ ⟨h2.cell, hq.fr.trans h2.from.fr⟩ (by simp only [FrAt_cons, FrAt_nil, wFr, Nat.reduceEqDiff, Nat.one_ne_zero, Nat.zero_ne_one, reduceIte, and_self, and_true, true_and]; first | done | exact ⟨rfl, rfl⟩ | rfl)
theorem it1 (hw : WfT st.ts) (X : Ex → S → Prop) {fr : List PV} {sg : Sg} (hq : Q c a b sg0 st sg) (hf : FrAt fr [(0, .lp c 0), (10, rowC t0 t1 t2 t3 o0 o1 o2 o3), (11, .t (.int .i64 1))])
    (k1 : opE st [(t1, o1), (t2, o2), (t3, o3)] = none → ∀ fr' sg', Q c a b sg0 st sg' → X (.exit 0) ⟨fr', sg', ow⟩)
    (k2 : ∀ o, opE st [(t1, o1), (t2, o2), (t3, o3)] = some o → ∀ fr' sg', Q c a b sg0 (takeM st) sg' → FrAt fr' [(4, .t (.int .i64 o)), (5, .t (.bool true))] → X .ret ⟨fr', sg', ow⟩) : Xl F gl lb90_0 ⟨fr, sg, ow⟩ X ⟨⟩ := by
  simp only [FrAt_cons, FrAt_nil] at hf
  obtain ⟨f0, f10, f11, -⟩ := hf
  refine Xl.step ?_
  simp only [lb90_0]
  have hcl := lt_of_get hq.cell
  rw [opE] at k1 k2
  by_cases ht : t1 = []
  · have ht' : (t1 = []) = True := eq_true ht
    have hb1 : (t1 == []) = true := by simp [ht]
    rw [if_neg (fun h => h.1 ht)] at k1 k2
    simp only [wA, seval, reduceCtorEq, reduceIte, f0, f10, f11, ht', hb1]
    refine it2 (t0 := t0) (t1 := t1) (t2 := t2) (t3 := t3) (o0 := o0) (o1 := o1) (o2 := o2) (o3 := o3) hw X (hq.more _) (by simp only [FrAt_cons, FrAt_nil, wFr, Nat.reduceEqDiff, Nat.one_ne_zero, Nat.zero_ne_one, reduceIte, and_self, and_true, true_and, f0, f10]; first | done | rfl | exact ⟨rfl, rfl⟩) k1 k2
  · have ht' : (t1 = []) = False := eq_false ht
    have hb1 : (t1 == []) = false := by simp [ht]
    simp only [wA, seval, reduceCtorEq, reduceIte, f0, f10, f11, ht', hb1]
    refine CallE.mono (ok57 (by rw [app_get hcl]; exact hq.cell) hw.ne t1) fun v sg' ow' h => ?_
    obtain ⟨h1, h2, h3⟩ := h
    subst h1 h3
    unfold accM at h2
    have z := h2.fr.get (i := sg.length) cat_get (by omega)
    cases ha : atM t1 st with
    | false =>
      rw [ha] at h2
      simp only [Bool.false_eq_true, if_false] at h2
      rw [if_neg (fun h => by rw [ha] at h; exact absurd h.2 (by simp))] at k1 k2
      have h2' : Q c a b sg0 st sg' := ⟨h2.cell, hq.fr.trans h2.from.fr⟩
      simp only [wA, seval, reduceCtorEq, reduceIte, f0, f10, f11, z]
      refine it2 (t0 := t0) (t1 := t1) (t2 := t2) (t3 := t3) (o0 := o0) (o1 := o1) (o2 := o2) (o3 := o3) hw X h2' (by simp only [FrAt_cons, FrAt_nil, wFr, Nat.reduceEqDiff, Nat.one_ne_zero, Nat.zero_ne_one, reduceIte, and_self, and_true, true_and, f0, f10]; first | done | rfl | exact ⟨rfl, rfl⟩) k1 k2
    | true =>
      rw [ha] at h2
      simp only [reduceIte] at h2
      rw [if_pos ⟨ht, ha⟩] at k2
      simp only [wA, seval, reduceCtorEq, reduceIte, f0, f10, f11, z]
      exact k2 _ rfl _ _ ⟨h2.cell, hq.fr.trans h2.from.fr⟩ (by simp only [FrAt_cons, FrAt_nil, wFr, Nat.reduceEqDiff, Nat.one_ne_zero, Nat.zero_ne_one, reduceIte, and_self, and_true, true_and]; first | done | exact ⟨rfl, rfl⟩ | rfl)
theorem it0 (hw : WfT st.ts) (X : Ex → S → Prop) {fr : List PV} {sg : Sg} (hq : Q c a b sg0 st sg) (hf : FrAt fr [(0, .lp c 0), (10, rowC t0 t1 t2 t3 o0 o1 o2 o3), (11, .t (.int .i64 0))])
    (k1 : opE st [(t0, o0), (t1, o1), (t2, o2), (t3, o3)] = none → ∀ fr' sg', Q c a b sg0 st sg' → X (.exit 0) ⟨fr', sg', ow⟩)
    (k2 : ∀ o, opE st [(t0, o0), (t1, o1), (t2, o2), (t3, o3)] = some o → ∀ fr' sg', Q c a b sg0 (takeM st) sg' → FrAt fr' [(4, .t (.int .i64 o)), (5, .t (.bool true))] → X .ret ⟨fr', sg', ow⟩) : Xl F gl lb90_0 ⟨fr, sg, ow⟩ X ⟨⟩ := by
  simp only [FrAt_cons, FrAt_nil] at hf
  obtain ⟨f0, f10, f11, -⟩ := hf
  refine Xl.step ?_
  simp only [lb90_0]
  have hcl := lt_of_get hq.cell
  rw [opE] at k1 k2
  by_cases ht : t0 = []
  · have ht' : (t0 = []) = True := eq_true ht
    have hb1 : (t0 == []) = true := by simp [ht]
    rw [if_neg (fun h => h.1 ht)] at k1 k2
    simp only [wA, seval, reduceCtorEq, reduceIte, f0, f10, f11, ht', hb1]
    refine it1 (t0 := t0) (t1 := t1) (t2 := t2) (t3 := t3) (o0 := o0) (o1 := o1) (o2 := o2) (o3 := o3) hw X (hq.more _) (by simp only [FrAt_cons, FrAt_nil, wFr, Nat.reduceEqDiff, Nat.one_ne_zero, Nat.zero_ne_one, reduceIte, and_self, and_true, true_and, f0, f10]; first | done | rfl | exact ⟨rfl, rfl⟩) k1 k2
  · have ht' : (t0 = []) = False := eq_false ht
    have hb1 : (t0 == []) = false := by simp [ht]
    simp only [wA, seval, reduceCtorEq, reduceIte, f0, f10, f11, ht', hb1]
    refine CallE.mono (ok57 (by rw [app_get hcl]; exact hq.cell) hw.ne t0) fun v sg' ow' h => ?_
    obtain ⟨h1, h2, h3⟩ := h
    subst h1 h3
    unfold accM at h2
    have z := h2.fr.get (i := sg.length) cat_get (by omega)
    cases ha : atM t0 st with
    | false =>
      rw [ha] at h2
      simp only [Bool.false_eq_true, if_false] at h2
      rw [if_neg (fun h => by rw [ha] at h; exact absurd h.2 (by simp))] at k1 k2
      have h2' : Q c a b sg0 st sg' := ⟨h2.cell, hq.fr.trans h2.from.fr⟩
      simp only [wA, seval, reduceCtorEq, reduceIte, f0, f10, f11, z]
      refine it1 (t0 := t0) (t1 := t1) (t2 := t2) (t3 := t3) (o0 := o0) (o1 := o1) (o2 := o2) (o3 := o3) hw X h2' (by simp only [FrAt_cons, FrAt_nil, wFr, Nat.reduceEqDiff, Nat.one_ne_zero, Nat.zero_ne_one, reduceIte, and_self, and_true, true_and, f0, f10]; first | done | rfl | exact ⟨rfl, rfl⟩) k1 k2
    | true =>
      rw [ha] at h2
      simp only [reduceIte] at h2
      rw [if_pos ⟨ht, ha⟩] at k2
      simp only [wA, seval, reduceCtorEq, reduceIte, f0, f10, f11, z]
      exact k2 _ rfl _ _ ⟨h2.cell, hq.fr.trans h2.from.fr⟩ (by simp only [FrAt_cons, FrAt_nil, wFr, Nat.reduceEqDiff, Nat.one_ne_zero, Nat.zero_ne_one, reduceIte, and_self, and_true, true_and]; first | done | exact ⟨rfl, rfl⟩ | rfl)
end
theorem ok90 (hg : GlOk gl) {sg : Sg} {c : Nat} {a b : Int} {st : Ps} (hc : sg[c]? = some (false, psC st a b)) (hw : WfT st.ts) (lv : Nat) (hlv : lv ≤ 4) {ow : Ow} :
    CallE F gl 90 [.lp c 0, .t (.int .i64 lv)] sg ow fun v sg' ow' => v = .tup [.t (.int .i64 ((opL lv st).getD 0)), .t (.bool (opL lv st).isSome)] ∧ Q c a b sg (if (opL lv st).isSome then takeM st else st) sg' ∧ ow' = ow := by
  refine XcE.of F90 rfl ?_
  simp only [ir90]
  have hg3 := hg.g3
  unfold opsC at hg3
  have go : ∀ {l l' : List (Nm × Int)}, opE st l = opGo st l' → opE st l = opGo st l' := fun h => h
  match lv, hlv with
  | 0, _ =>
    have hrow : opL 0 st = opE st [([111, 114], 19), ([], 0), ([], 0), ([], 0)] := by
      unfold opL
      simp [ops, opGo, opE]
    rw [hrow]
    simp only [wA, seval, reduceCtorEq, reduceIte, hg3, Int.cast_ofNat_Int]
    refine it0 hw _ ⟨hc, Fr.refl _ _⟩ (by simp only [FrAt_cons, FrAt_nil, wFr, Nat.reduceEqDiff, Nat.one_ne_zero, Nat.zero_ne_one, reduceIte, and_self, and_true, true_and]; first | done | exact ⟨rfl, rfl⟩ | rfl) ?_ ?_
    · intro h fr' sg' hq
      rw [h]
      simp only [wA, seval, reduceCtorEq, reduceIte, xR_two]
      simpa using hq
    · intro o h fr' sg' hq hf
      simp only [FrAt_cons, FrAt_nil] at hf
      obtain ⟨f4, f5, -⟩ := hf
      rw [h]
      simp only [wA, seval, reduceCtorEq, reduceIte, f4, f5, xR_two]
      simpa using hq
  | 1, _ =>
    have hrow : opL 1 st = opE st [([97, 110, 100], 18), ([], 0), ([], 0), ([], 0)] := by
      unfold opL
      simp [ops, opGo, opE]
    rw [hrow]
    simp only [wA, seval, reduceCtorEq, reduceIte, hg3, Int.cast_ofNat_Int]
    refine it0 hw _ ⟨hc, Fr.refl _ _⟩ (by simp only [FrAt_cons, FrAt_nil, wFr, Nat.reduceEqDiff, Nat.one_ne_zero, Nat.zero_ne_one, reduceIte, and_self, and_true, true_and]; first | done | exact ⟨rfl, rfl⟩ | rfl) ?_ ?_
    · intro h fr' sg' hq
      rw [h]
      simp only [wA, seval, reduceCtorEq, reduceIte, xR_two]
      simpa using hq
    · intro o h fr' sg' hq hf
      simp only [FrAt_cons, FrAt_nil] at hf
      obtain ⟨f4, f5, -⟩ := hf
      rw [h]
      simp only [wA, seval, reduceCtorEq, reduceIte, f4, f5, xR_two]
      simpa using hq
  | 2, _ =>
    have hrow : opL 2 st = opE st [([61, 61], 14), ([33, 61], 15), ([60], 16), ([60, 61], 17)] := by
      unfold opL
      simp [ops, opGo, opE]
    rw [hrow]
    simp only [wA, seval, reduceCtorEq, reduceIte, hg3, Int.cast_ofNat_Int]
    refine it0 hw _ ⟨hc, Fr.refl _ _⟩ (by simp only [FrAt_cons, FrAt_nil, wFr, Nat.reduceEqDiff, Nat.one_ne_zero, Nat.zero_ne_one, reduceIte, and_self, and_true, true_and]; first | done | exact ⟨rfl, rfl⟩ | rfl) ?_ ?_
    · intro h fr' sg' hq
      rw [h]
      simp only [wA, seval, reduceCtorEq, reduceIte, xR_two]
      simpa using hq
    · intro o h fr' sg' hq hf
      simp only [FrAt_cons, FrAt_nil] at hf
      obtain ⟨f4, f5, -⟩ := hf
      rw [h]
      simp only [wA, seval, reduceCtorEq, reduceIte, f4, f5, xR_two]
      simpa using hq
  | 3, _ =>
    have hrow : opL 3 st = opE st [([43], 12), ([45], 13), ([], 0), ([], 0)] := by
      unfold opL
      simp [ops, opGo, opE]
    rw [hrow]
    simp only [wA, seval, reduceCtorEq, reduceIte, hg3, Int.cast_ofNat_Int]
    refine it0 hw _ ⟨hc, Fr.refl _ _⟩ (by simp only [FrAt_cons, FrAt_nil, wFr, Nat.reduceEqDiff, Nat.one_ne_zero, Nat.zero_ne_one, reduceIte, and_self, and_true, true_and]; first | done | exact ⟨rfl, rfl⟩ | rfl) ?_ ?_
    · intro h fr' sg' hq
      rw [h]
      simp only [wA, seval, reduceCtorEq, reduceIte, xR_two]
      simpa using hq
    · intro o h fr' sg' hq hf
      simp only [FrAt_cons, FrAt_nil] at hf
      obtain ⟨f4, f5, -⟩ := hf
      rw [h]
      simp only [wA, seval, reduceCtorEq, reduceIte, f4, f5, xR_two]
      simpa using hq
  | 4, _ =>
    have hrow : opL 4 st = opE st [([42], 11), ([], 0), ([], 0), ([], 0)] := by
      unfold opL
      simp [ops, opGo, opE]
    rw [hrow]
    simp only [wA, seval, reduceCtorEq, reduceIte, hg3, Int.cast_ofNat_Int]
    refine it0 hw _ ⟨hc, Fr.refl _ _⟩ (by simp only [FrAt_cons, FrAt_nil, wFr, Nat.reduceEqDiff, Nat.one_ne_zero, Nat.zero_ne_one, reduceIte, and_self, and_true, true_and]; first | done | exact ⟨rfl, rfl⟩ | rfl) ?_ ?_
    · intro h fr' sg' hq
      rw [h]
      simp only [wA, seval, reduceCtorEq, reduceIte, xR_two]
      simpa using hq
    · intro o h fr' sg' hq hf
      simp only [FrAt_cons, FrAt_nil] at hf
      obtain ⟨f4, f5, -⟩ := hf
      rw [h]
      simp only [wA, seval, reduceCtorEq, reduceIte, f4, f5, xR_two]
      simpa using hq
end Go.Proofs.YtcbgiabippcpaaaGreatDoor
