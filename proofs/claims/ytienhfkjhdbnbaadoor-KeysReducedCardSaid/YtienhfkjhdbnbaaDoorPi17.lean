/- PI 17: one operation of the model is one of the small language. Program independent. -/
import Derived.Test.YtienhfkjhdbnbaaDoorPi16
namespace Go.Pi
variable {P : Program} {tb : Tb} {gl : Nat → Option (List T)} {G : Gh} {w : World} {nt : Nat} {a : Act} {K : Act → World → Prop} {Q : Exit → Act → World → Prop} {o : Oper} {C : Cal} {dr : Bool} {s : S} {v : PV} {sg' : Sg} {ow' : Ow}

/-- The interpreter yields the value and leaves the store as it was. -/
theorem of_pure {val : Value} {r : PV} (hi : Inv tb.fx gl G w s.sg s.ow) (hr : (execOp a.eval o).run P w = .ok (.value val) w) (hp : PRep tb.fx G w val r) (he : (r, s.sg, s.ow) = (v, sg', ow'))
    (hK : ∀ val G' w', Ext G w G' w' → Inv tb.fx gl G' w' sg' ow' → PRep tb.fx G' w' val v → K (a.put o.dst val) w') : o.wp P a w K Q := by
  injection he with e1 e2
  injection e2 with e2 e3
  subst e1 e2 e3
  exact wp_value hr (hK val G w (.refl _ _) hi hp)

theorem run_v {x : Sem Value} {val : Value} {w' : World} (h : x.run P w = .ok val w') : (do pure (Next.value (← x)) : Sem Next).run P w = .ok (.value val) w' := by
  simp only [Sem.run_bind, h, Result.andThen_ok, Sem.run_pure]
theorem run_u {x : Sem Unit} {w' : World} (h : x.run P w = .ok () w') : (do x; pure Next.skip : Sem Next).run P w = .ok .skip w' := by
  simp only [Sem.run_bind, h, Result.andThen_ok, Sem.run_pure]

theorem op_bin (hi : Inv tb.fx gl G w s.sg s.ow) (hf : FRep tb.fx G w nt a s.fr) {op : BinOp} {t yt : TypeId} {x y : Operand} (hop : o.op = .binOp op t x y yt) {q : O} (hq : compBin P tb nt op t x y = some q) (hstep : opStep C gl dr q s = some (v, sg', ow'))
    (hK : ∀ val G' w', Ext G w G' w' → Inv tb.fx gl G' w' sg' ow' → PRep tb.fx G' w' val v → K (a.put o.dst val) w') : o.wp P a w K Q := by
  have hex : ∀ {val : Value}, (do eqGuard op t x y (a.eval x) (a.eval y); binOp op t (a.eval x) (a.eval y) : Sem Value).run P w = .ok val w → (execOp a.eval o).run P w = .ok (.value val) w := fun h => by
    unfold execOp
    simp only [hop]
    exact run_v h
  unfold compBin at hq
  split at hq
  · rename_i xa xb hxa hxb
    have ra := opd_rep hxa hf
    have rb := opd_rep hxb hf
    have hbin : q = .bin op xa xb → o.wp P a w K Q := by
      intro hq1
      subst hq1
      simp only [opStep, Option.map_eq_some_iff] at hstep
      obtain ⟨r, ⟨r', hr', rfl⟩, he⟩ := hstep
      obtain ⟨val, h1, h2⟩ := run_binT (P := P) t ra rb hr' x y
      exact of_pure hi (hex h1) h2 he hK
    have heqv : ∀ (ng ag : Bool) (ks : List Nat), op = (if ng then .neq else .eql) → leaves P 20 t = some ks → tyAg P t = some ag → (ag = false → ks = [0]) → (ag = true → P.eqGuardType P.depth t = false) → q = .eqv ng ag ks xa xb → o.wp P a w K Q := by
      intro ng ag ks h1 h2 h3 h4 h5 hq1
      subst hq1
      simp only [opStep, Option.map_eq_some_iff] at hstep
      obtain ⟨r, ⟨r', hr', rfl⟩, he⟩ := hstep
      exact of_pure hi (hex (run_eqv x y h1 h2 h3 h4 h5 ra rb hr')) (.tbool _) he hK
    cases hu : P.underlying t with
    | none =>
      rw [hu] at hq
      simp only [nilTy, hu] at hq
      cases hq
    | some ds =>
      rw [hu] at hq
      cases ds
      case int k => exact hbin (by injection hq with hq; exact hq.symm)
      case string => exact hbin (by injection hq with hq; exact hq.symm)
      case bool =>
        simp only at hq
        split at hq
        · injection hq with hq
          exact heqv false false [0] rfl (by simp [leaves, hu]) (by simp [tyAg, hu]) (fun _ => rfl) (by simp) hq.symm
        · injection hq with hq
          exact heqv true false [0] rfl (by simp [leaves, hu]) (by simp [tyAg, hu]) (fun _ => rfl) (by simp) hq.symm
        · cases hq
      case struct fs =>
        simp only at hq
        split at hq
        · rename_i ks hks
          split at hq
          · rename_i hg
            injection hq with hq
            exact heqv false true ks rfl hks (by simp [tyAg, hu]) (by simp) (fun _ => hg) hq.symm
          · cases hq
        · rename_i ks hks
          split at hq
          · rename_i hg
            injection hq with hq
            exact heqv true true ks rfl hks (by simp [tyAg, hu]) (by simp) (fun _ => hg) hq.symm
          · cases hq
        · cases hq
      case array n el =>
        simp only at hq
        split at hq
        · rename_i ks hks
          split at hq
          · rename_i hg
            injection hq with hq
            exact heqv false true ks rfl hks (by simp [tyAg, hu]) (by simp) (fun _ => hg) hq.symm
          · cases hq
        · rename_i ks hks
          split at hq
          · rename_i hg
            injection hq with hq
            exact heqv true true ks rfl hks (by simp [tyAg, hu]) (by simp) (fun _ => hg) hq.symm
          · cases hq
        · cases hq
      all_goals
        simp only at hq
        split at hq
        · rename_i n m hn hm
          split at hq
          · rename_i hnm
            subst hnm
            injection hq with hq
            subst hq
            obtain ⟨c, rfl⟩ : ∃ c, y = .const c := by
              unfold nilOf at hm
              split at hm <;> first | exact ⟨_, rfl⟩ | cases hm
            simp only [opStep, Option.map_eq_some_iff] at hstep
            obtain ⟨r, ⟨r', hr', rfl⟩, he⟩ := hstep
            exact of_pure hi (hex (run_isn (P := P) (ng := false) x rfl hn hm ra hr')) (.tbool _) he hK
          · cases hq
        · rename_i n m hn hm
          split at hq
          · rename_i hnm
            subst hnm
            injection hq with hq
            subst hq
            obtain ⟨c, rfl⟩ : ∃ c, y = .const c := by
              unfold nilOf at hm
              split at hm <;> first | exact ⟨_, rfl⟩ | cases hm
            simp only [opStep, Option.map_eq_some_iff] at hstep
            obtain ⟨r, ⟨r', hr', rfl⟩, he⟩ := hstep
            exact of_pure hi (hex (run_isn (P := P) (ng := true) x rfl hn hm ra hr')) (.tbool _) he hK
          · cases hq
        · cases hq
  · cases hq
end Go.Pi
