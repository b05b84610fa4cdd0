/- PI 7: comparison of values, nil, conversions, slices, indexes, fields. Program independent. -/
import Derived.Test.YtienhfkjhdbnbaaDoorPi6
namespace Go.Pi
variable {P : Program} {tb : Tb} {fx : List (Nat × Nat)} {gl : Nat → Option (List T)} {G : Gh} {w : World} {sg : Sg} {ow : Ow} {nt : Nat} {a : Act} {fr : List PV}

theorem flat_of {ag : Bool} {v : Value} {x : T} (h : TRep G.st w v x) : (ag = true → ∃ xs, x = .agg xs) → Flat G.st w ag v (match ag, x with | true, .agg xs => xs | _, x => [x]) := by
  intro hx
  cases ag with
  | true =>
    obtain ⟨xs, rfl⟩ := hx rfl
    cases h with | agg cs _ hl hr =>
    simp only [Flat, if_true]
    exact ⟨cs, rfl, hl, hr⟩
  | false =>
    simp only [Flat, Bool.false_eq_true, if_false]
    exact ⟨x, rfl, h⟩
theorem run_eqT {d D : Nat} {t : TypeId} {ag : Bool} {ks : List Nat} {u v : Value} {x y : PV} {b : Bool} (hl : leaves P d t = some ks) (hD : d ≤ D) (hag : tyAg P t = some ag) (hu : PRep fx G w u x) (hv : PRep fx G w v y)
    (h : eqT ag ks x y = some b) : (Op.equalIn D t u v).run P w = .ok b w := by
  unfold eqT at h
  split at h
  · rename_i x y
    cases hu with | t hu =>
    cases hv with | t hv =>
    cases ag with
    | true =>
      simp only [if_true] at h
      split at h
      · rename_i xs ys
        exact run_equalIn_flat d D t ks true u v xs ys b hl hD hag (flat_of (ag := true) hu fun _ => ⟨xs, rfl⟩) (flat_of (ag := true) hv fun _ => ⟨ys, rfl⟩) h
      · cases h
    | false =>
      simp only [Bool.false_eq_true, if_false] at h
      exact run_equalIn_flat d D t ks false u v [x] [y] b hl hD hag (by simp only [Flat, Bool.false_eq_true, if_false]; exact ⟨x, rfl, hu⟩) (by simp only [Flat, Bool.false_eq_true, if_false]; exact ⟨y, rfl, hv⟩) h
  · cases h
theorem eqT_agg {ks : List Nat} {x y : PV} {b : Bool} (h : eqT true ks x y = some b) : ∃ xs ys, x = .t (.agg xs) ∧ y = .t (.agg ys) := by
  unfold eqT at h
  split at h
  · simp only [if_true] at h
    split at h
    · exact ⟨_, _, rfl, rfl⟩
    · cases h
  · cases h

/-- '==' and '!=' on bools, structs, arrays. -/
theorem run_eqv {t : TypeId} {ks : List Nat} {ng ag : Bool} {op : BinOp} {u v : Value} {x y : PV} {b : Bool} (e1 e2 : Operand) (hop : op = if ng then .neq else .eql) (hl : leaves P 20 t = some ks) (hag : tyAg P t = some ag)
    (hb : ag = false → ks = [0]) (hg : ag = true → P.eqGuardType P.depth t = false) (hu : PRep fx G w u x) (hv : PRep fx G w v y) (h : eqT ag ks x y = some b) :
    (do eqGuard op t e1 e2 u v; binOp op t u v : Sem Value).run P w = .ok (.bool (ng != b)) w := by
  have he := run_eqT (P := P) (D := 10000) hl (by omega) hag hu hv h
  cases ag with
  | true =>
    obtain ⟨xs, ys, rfl, rfl⟩ := eqT_agg h
    obtain ⟨cx, rfl, _⟩ := hu.agg_inv
    obtain ⟨cy, rfl, _⟩ := hv.agg_inv
    simp only [Sem.run_bind, run_eqGuard_agg w op t e1 e2 cx cy (hg rfl), Result.andThen_ok]
    subst hop
    cases ng with
    | true => simp only [if_true]; rw [run_neq_struct, he]; simp
    | false => simp only [Bool.false_eq_true, if_false]; rw [run_eql_struct, he]; simp
  | false =>
    have hks := hb rfl
    subst hks
    unfold eqT at h
    split at h
    · rename_i x y
      simp only [Bool.false_eq_true, if_false] at h
      obtain ⟨p, q, rfl, rfl, rfl⟩ := eq1_0 (eqs_one h)
      have := hu.bool_inv
      have := hv.bool_inv
      subst u v
      simp only [eqGuard_at_bool, Sem.run_bind, Sem.run_pure, Result.andThen_ok]
      subst hop
      cases ng with
      | true =>
        simp only [if_true, binOp, Op.equal, Op.maxDepth]
        simp only [Sem.run_bind, he, Result.andThen_ok, Sem.run_pure]
        cases p <;> cases q <;> rfl
      | false =>
        simp only [Bool.false_eq_true, if_false, binOp, Op.equal, Op.maxDepth]
        simp only [Sem.run_bind, he, Result.andThen_ok, Sem.run_pure]
        cases p <;> cases q <;> rfl
    · cases h

/-! ### nil -/
theorem run_isn {t : TypeId} {ng : Bool} {op : BinOp} {u : Value} {x : PV} {b : Bool} {n : Nat} {c : Value} (e1 : Operand) (hop : op = if ng then .neq else .eql) (hn : nilTy P t = some n) (hy : nilOf (.const c) = some n)
    (hu : PRep fx G w u x) (h : isNil n x = some b) : (do eqGuard op t e1 (.const c) u c; binOp op t u c : Sem Value).run P w = .ok (.bool (ng != b)) w := by
  have key : (eqGuard op t e1 (.const c) u c).run P w = .ok () w ∧ ∀ D, (Op.equalIn (D + 1) t u c).run P w = .ok b w ∧ (binOp op t u c = if ng then (do pure (.bool (!(← Op.equal t u c)))) else (do pure (.bool (← Op.equal t u c)))) := by
    unfold nilTy at hn
    unfold nilOf at hy
    unfold isNil at h
    split at hn <;> rename_i hund <;> simp only [Option.some.injEq, reduceCtorEq] at hn <;> subst hn
    · split at hy <;> rename_i hc <;> simp only [Option.some.injEq, reduceCtorEq] at hy
      injection hc with hc
      subst hc
      split at h <;> simp only [Option.some.injEq, reduceCtorEq] at h
      all_goals subst h
      all_goals rename_i hk
      all_goals first | cases hk | skip
      all_goals first
        | (cases hu with | t hu => cases hu <;> exact ⟨by rw [eqGuard_at_slice]; rfl, fun D => ⟨by simp [Op.equalIn, run_underlying hund], by subst hop; cases ng <;> rfl⟩⟩)
        | (cases hu <;> exact ⟨by rw [eqGuard_at_slice]; rfl, fun D => ⟨by simp [Op.equalIn, run_underlying hund], by subst hop; cases ng <;> rfl⟩⟩)
    · split at hy <;> rename_i hc <;> simp only [Option.some.injEq, reduceCtorEq, Nat.reduceEqDiff] at hy
      injection hc with hc
      subst hc
      split at h <;> simp only [Option.some.injEq, reduceCtorEq] at h
      all_goals subst h
      all_goals rename_i hk
      all_goals first | cases hk | skip
      all_goals first
        | (cases hu with | t hu => cases hu <;> exact ⟨by rw [eqGuard_at_pointer]; rfl, fun D => ⟨by simp [Op.equalIn, run_underlying hund], by subst hop; cases ng <;> rfl⟩⟩)
        | (cases hu <;> exact ⟨by rw [eqGuard_at_pointer]; rfl, fun D => ⟨by simp [Op.equalIn, run_underlying hund], by subst hop; cases ng <;> rfl⟩⟩)
    · split at hy <;> rename_i hc <;> simp only [Option.some.injEq, reduceCtorEq, Nat.reduceEqDiff] at hy
      injection hc with hc
      subst hc
      split at h <;> simp only [Option.some.injEq, reduceCtorEq] at h
      all_goals subst h
      all_goals rename_i hk
      all_goals first | cases hk | skip
      all_goals first
        | (cases hu with | t hu => cases hu <;> first
            | exact ⟨by rw [eqGuard_nil_constR]; rfl, fun D => ⟨by simp [Op.equalIn, run_underlying hund], by subst hop; cases ng <;> rfl⟩⟩
            | exact ⟨by rw [eqGuard_at_iface]; rfl, fun D => ⟨by simp [Op.equalIn, run_underlying hund], by subst hop; cases ng <;> rfl⟩⟩)
        | cases hu
    · split at hy <;> rename_i hc <;> simp only [Option.some.injEq, reduceCtorEq, Nat.reduceEqDiff] at hy
      injection hc with hc
      subst hc
      split at h <;> simp only [Option.some.injEq, reduceCtorEq] at h
      all_goals subst h
      all_goals rename_i hk
      all_goals first | cases hk | skip
      all_goals first
        | (cases hu with | t hu => cases hu <;> exact ⟨by rw [eqGuard_at_nilFunc]; rfl, fun D => ⟨by simp [Op.equalIn, run_underlying hund], by subst hop; cases ng <;> rfl⟩⟩)
        | (cases hu <;> exact ⟨by rw [eqGuard_at_func]; rfl, fun D => ⟨by simp [Op.equalIn, run_underlying hund], by subst hop; cases ng <;> rfl⟩⟩)
  obtain ⟨h1, h2⟩ := key
  obtain ⟨h3, h4⟩ := h2 9999
  simp only [Sem.run_bind, h1, Result.andThen_ok, h4]
  cases ng with
  | true =>
    simp only [if_true, Op.equal, Op.maxDepth, Sem.run_bind, h3, Result.andThen_ok, Sem.run_pure]
    cases b <;> rfl
  | false =>
    simp only [Bool.false_eq_true, if_false, Op.equal, Op.maxDepth, Sem.run_bind, h3, Result.andThen_ok, Sem.run_pure]
    cases b <;> rfl
end Go.Pi
