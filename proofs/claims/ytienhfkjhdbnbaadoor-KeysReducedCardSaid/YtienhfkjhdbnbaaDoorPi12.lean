/- PI 12: literals of slices, bytes of a string, make, append. Program independent. -/
import Derived.Test.YtienhfkjhdbnbaaDoorPi11
import Derived.Laws.Append
namespace Go.Pi
variable {P : Program} {tb : Tb} {fx : List (Nat × Nat)} {gl : Nat → Option (List T)} {G : Gh} {w : World} {sg : Sg} {ow : Ow} {nt : Nat} {a : Act} {fr : List PV}

theorem flatten_replicate_get {α : Type} (z : List α) (sz : Nat) (hz : z.length = sz) : ∀ (n k : Nat), k < n * sz → (List.replicate n z).flatten[k]? = z[k % sz]? := by
  intro n
  induction n with
  | zero => intro k hk; simp at hk
  | succ n ih =>
    intro k hk
    rw [List.replicate_succ, List.flatten_cons]
    rcases Nat.lt_or_ge k sz with hlt | hge
    · rw [List.getElem?_append_left (by omega), Nat.mod_eq_of_lt hlt]
    · rw [List.getElem?_append_right (by omega), hz, ih (k - sz) (by rw [Nat.add_mul] at hk; omega), Nat.mod_eq_sub_mod hge]
/-- n zero elements, one behind the other. -/
theorem zeros_crep {zs : List T} {z : Array Value} {sz n : Nat} (hz : zs.length = sz) (hsz : 0 < sz) (hl : z.size = zs.length) (hr : ∀ (j : Nat) (v : Value) (x : T), z[j]? = some v → zs[j]? = some x → ∀ (st : Nat → Nat → Prop) (w : World), TRep st w v x) :
    CRep fx G w ((Array.range (n * sz)).map (z[· % z.size]!)) ((List.replicate n zs).flatten.map .t) := by
  refine ⟨by simp [hz], fun j u y hu hy => ?_⟩
  simp only [List.getElem?_map, Option.map_eq_some_iff] at hy
  obtain ⟨q, hq, rfl⟩ := hy
  have hj : j < n * sz := by
    have := (List.getElem?_eq_some_iff.1 hq).1
    simpa [hz] using this
  rw [flatten_replicate_get zs sz hz n j hj] at hq
  simp only [Array.getElem?_map, Array.getElem?_range, hj, if_true, Option.map_some, Option.some.injEq] at hu
  have hm : j % z.size < z.size := Nat.mod_lt _ (by omega)
  have hzz : z.size = sz := by omega
  subst hu
  refine .t (hr (j % sz) _ q ?_ hq _ _)
  rw [hzz] at hm ⊢
  simp [hm, hzz]
theorem close1_rep {u : Value} {x : PV} {y : T} (hu : PRep fx G w u x) (h : close1 x = some y) : TRep G.st w u y := by
  unfold close1 at h
  split at h <;> simp only [Option.some.injEq, reduceCtorEq] at h <;> subst h
  · exact hu.t_inv
  · cases hu with | cp _ _ h => exact h
  · cases hu with | lit _ _ h => exact h
  · cases hu with | own _ _ _ _ _ _ h => exact h
theorem cell1_inv {x : PV} {y : T} (h : cell1 x = some y) : close1 x = some y ∧ y.isAgg = false := by
  unfold cell1 at h
  split at h
  · rename_i z hz
    split at h
    · cases h
    · rename_i hq
      injection h with h
      subst h
      exact ⟨hz, by simpa using hq⟩
  · cases h
theorem close_rep {u : Value} {x : PV} {y : T} (hu : PRep fx G w u x) (h : close x = some y) : TRep G.st w u y := by
  unfold close at h
  split at h
  · simp only [Option.map_eq_some_iff] at h
    obtain ⟨ts, hts, rfl⟩ := h
    obtain ⟨cs, rfl, hl, hr⟩ := hu.aggP_inv
    obtain ⟨h1, h2⟩ := mapM_get _ _ _ hts
    refine .agg cs ts (by omega) fun i v y hv hy => ?_
    have hlt : i < cs.size := (Array.getElem?_eq_some_iff.1 hv).1
    have hx := List.getElem?_eq_getElem (l := _) (i := i) (show i < _ by rw [← hl]; exact hlt)
    exact close1_rep (hr i v _ hv hx) (h2 i _ y hx hy)
  · exact close1_rep hu h
/-- A literal of a slice. -/
theorem run_bsl (hi : Inv tb.fx gl G w sg ow) {t : TypeId} {len : Nat} {ps : Array (Nat × Operand)} {sz : Nat} {z : List T} {l : List (Nat × Opd)} {cs : List PV} {ts : List T} (hf : FRep tb.fx G w nt a fr) (h : compBsl P tb nt t len ps.toList = some (.bsl sz len z l))
    (hfill : fillP ((List.replicate len z).flatten.map .t) (l.map fun p => (p.1 * sz, sz, p.2.ev fr)) = some cs) (hts : cs.mapM cell1 = some ts) :
    ∃ v G' w', (Instr.buildSlice t len (ps.map fun (i, x) => (i, a.eval x))).run P w = .ok v w' ∧ Ext G w G' w' ∧ Inv tb.fx gl G' w' sg ow ∧ PRep tb.fx G' w' v (.lit (chunks sz len ts)) := by
  unfold compBsl at h
  split at h
  · rename_i e hu
    split at h
    · rename_i s z' hs hz
      split at h
      · rename_i hc
        simp only [Option.map_eq_some_iff] at h
        obtain ⟨l', hl', heq⟩ := h
        injection heq with e1 e2 e3 e4
        subst e1 e3
        obtain ⟨c1, c2, c3⟩ := hc
        obtain ⟨i, zv, hinf, hzz, hzl, hzr⟩ := tyZero_rep hz
        obtain ⟨q1, q2⟩ := compParts_get hl'
        have hplace : ∀ (i : Nat) (p : Nat × Operand) (q : Nat × Nat × Opd), ps.toList[i]? = some p → l'[i]? = some q → q.1 = p.1 ∧ q.2.1 = s ∧ compOpd tb nt p.2 = some q.2.2 := fun i p q hp hq => by
          obtain ⟨r1, r2⟩ := q2 i p q hp hq
          simp only [Option.some.injEq, Prod.mk.injEq] at r1
          exact ⟨r1.1.symm, r1.2.symm, r2⟩
        have hzero : CRep tb.fx G w ((Array.range (len * s)).map (zv.cells[· % zv.cells.size]!)) ((List.replicate len z').flatten.map .t) := zeros_crep c2 c3 hzl hzr
        obtain ⟨c', f1, f2⟩ := fill_rep (fx := tb.fx) (G := G) (w := w) (place := fun i => some (i * s, s)) (ps.toList.map fun p => (p.1, a.eval p.2)) (l.map fun p => (p.1 * s, s, p.2.ev fr)) _ _ cs hzero (by rw [← e4]; simpa using q1) (fun i p q hp hq => by
          rw [← e4] at hq
          simp only [List.getElem?_map, Option.map_eq_some_iff, List.map_map] at hp hq
          obtain ⟨p', hp', rfl⟩ := hp
          obtain ⟨q', hq', rfl⟩ := hq
          obtain ⟨r1, r2, r3⟩ := hplace i p' q' hp' hq'
          simp only [Function.comp]
          exact ⟨by rw [r1], opd_rep r3 hf⟩) hfill
        obtain ⟨m1, m2⟩ := mapM_get _ _ _ hts
        have hno : ∀ x ∈ ts, x.isAgg = false := fun x hx => by
          obtain ⟨i, hi'⟩ := List.getElem?_of_mem hx
          have hlt : i < cs.length := by rw [m1]; exact (List.getElem?_eq_some_iff.1 hi').1
          exact (cell1_inv (m2 i _ x (List.getElem?_eq_getElem hlt) hi')).2
        have hts_len : ts.length = len * s := by
          rw [← m1]
          have hfl : ∀ (qs : List (Nat × Nat × PV)) (c0 c1 : List PV), fillP c0 qs = some c1 → c1.length = c0.length := by
            intro qs
            induction qs with
            | nil => intro c0 c1 h; simp [fillP] at h; rw [h]
            | cons q qs ih =>
              intro c0 c1 h
              obtain ⟨o, n, x⟩ := q
              simp only [fillP] at h
              split at h
              · rw [ih _ _ h, setRange_length]
              · cases h
          rw [hfl _ _ _ hfill]
          simp [c2]
        obtain ⟨hE, hI⟩ := hi.newTree c' e (0, 0) (len * s)
        refine ⟨.slice (some ⟨w.heap.size, 0, none⟩) len len, _, _, ?_, hE, hI, ?_⟩
        · have hgt : ¬ len * s > 2 ^ 24 := by omega
          have hpl : (ps.map fun (p : Nat × Operand) => (p.1, a.eval p.2)).toList = ps.toList.map fun p => (p.1, a.eval p.2) := by simp
          have hfin : ∀ c0 : Array Value, (Array.range (len * s)).map (c0[· % c0.size]!) = (Array.range (len * s)).map (zv.cells[· % zv.cells.size]!) →
              (match Instr.fill (fun i => some (i * s, s)) ((Array.range (len * s)).map (c0[· % c0.size]!)) (ps.map fun (p : Nat × Operand) => (p.1, a.eval p.2)).toList with
                | some cells => (do pure (.slice (some (← newRow e cells)) len len) : Sem Value)
                | _ => stuck "buildSlice: a part of the wrong size").run P w = .ok (.slice (some ⟨w.heap.size, 0, none⟩) len len) (w.alloc (.cells c' e (0, 0))) := by
            intro c0 h0
            rw [h0, hpl, f1]
            simp [newRow]
          simp only [Instr.buildSlice, Sem.run_bind, run_underlying hu, Result.andThen_ok, run_sizeOf hs]
          rw [if_neg hgt]
          by_cases h0 : len * s = 0
          · rw [if_pos h0]
            simp only [Sem.run_bind, Sem.run_pure, Result.andThen_ok]
            exact hfin #[] (by rw [h0]; simp)
          · rw [if_neg h0]
            simp only [Sem.run_bind, Sem.run_pure, Result.andThen_ok, run_zeroValue hinf hzz]
            exact hfin zv.cells rfl
        · have hcl : (chunks s len ts).length = len := chunks_length s len ts
          have hlit : TRep (fun b o => G.st b o ∨ (b = w.heap.size ∧ o < len * s)) (w.alloc (.cells c' e (0, 0))) (.slice (some ⟨w.heap.size, 0, none⟩) (chunks s len ts).length (chunks s len ts).length) (.sl false (chunks s len ts)) := by
            refine TRep.ofRow (sz := s) (vs := c'.toList) (chunks_all s len ts (by omega)) (chunks_one hno) (Nat.le_refl _) (chunks_vrep (by rw [Array.length_toList, f2.1, m1]) hts_len fun i v y hv hy => ?_) (fun j v hv => ?_) (fun j hj => .inr ⟨rfl, by rw [hcl] at hj; omega⟩)
            · have hlt : i < cs.length := by rw [m1]; exact (List.getElem?_eq_some_iff.1 hy).1
              have hx := List.getElem?_eq_getElem hlt
              exact hE.trep (close1_rep (f2.2 i v _ (by simpa using hv) hx) (cell1_inv (m2 i _ y hx hy)).1)
            · rw [cell_of_row _ w.heap.size (0 + j) c' e (0, 0) (heap_alloc_new w _), Nat.zero_add]
              simpa using hv
          rw [show Value.slice (some ⟨w.heap.size, 0, none⟩) len len = Value.slice (some ⟨w.heap.size, 0, none⟩) (chunks s len ts).length (chunks s len ts).length by rw [hcl]]
          refine .lit _ _ hlit ?_ (fun i hi' => ?_) (fun k x hk => ?_) ⟨c', e, (0, 0), heap_alloc_new w _⟩
          · exact hi.bsz
          · have := hi.mu_lt hi'; omega
          · have := hi.tk_lt hk; omega
      · cases h
    · cases h
  · cases h
end Go.Pi
