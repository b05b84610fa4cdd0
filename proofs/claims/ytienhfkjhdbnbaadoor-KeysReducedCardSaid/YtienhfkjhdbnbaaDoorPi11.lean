/- PI 11: aggregates and slices that are built; stores; new variables. Program independent. -/
import Derived.Test.YtienhfkjhdbnbaaDoorPi10
namespace Go.Pi
variable {P : Program} {tb : Tb} {fx : List (Nat × Nat)} {gl : Nat → Option (List T)} {G : Gh} {w : World} {sg : Sg} {ow : Ow} {nt : Nat} {a : Act} {fr : List PV}

def CRep (fx : List (Nat × Nat)) (G : Gh) (w : World) (c : Array Value) (cs : List PV) : Prop :=
  c.size = cs.length ∧ ∀ (j : Nat) (u : Value) (y : PV), c[j]? = some u → cs[j]? = some y → PRep fx G w u y
theorem setRange_length (cs : List PV) (off : Nat) (vs : List PV) : (setRange cs off vs).length = cs.length := by
  induction vs generalizing cs off with
  | nil => rfl
  | cons v r ih => simp [setRange, ih]
theorem setRange_get (cs : List PV) (off : Nat) (vs : List PV) (hb : off + vs.length ≤ cs.length) (j : Nat) : (setRange cs off vs)[j]? = if off ≤ j ∧ j < off + vs.length then vs[j - off]? else cs[j]? := by
  induction vs generalizing cs off with
  | nil => simp [setRange]; intros; omega
  | cons v r ih =>
    simp only [List.length_cons] at hb
    rw [setRange, ih (cs.set off v) (off + 1) (by simp; omega)]
    by_cases h1 : off + 1 ≤ j ∧ j < off + 1 + r.length
    · rw [if_pos h1, if_pos (by simp only [List.length_cons]; omega)]
      have : j - off = (j - (off + 1)) + 1 := by omega
      rw [this, List.getElem?_cons_succ]
    · rw [if_neg h1]
      by_cases h2 : j = off
      · subst h2
        rw [if_pos (by simp only [List.length_cons]; omega), List.getElem?_set_self (by omega)]
        simp
      · rw [if_neg (by simp only [List.length_cons]; omega), List.getElem?_set_ne (fun e => h2 e.symm)]
theorem CRep.set {c d : Array Value} {cs ds : List PV} (h : CRep fx G w c cs) (hd : CRep fx G w d ds) {off : Nat} (hb : off + ds.length ≤ cs.length) : CRep fx G w (setR c off d.toList) (setRange cs off ds) := by
  have hb' : off + d.toList.length ≤ c.size := by rw [Array.length_toList, hd.1, h.1]; exact hb
  refine ⟨by rw [setR_size, setRange_length, h.1], fun j u y hu hy => ?_⟩
  rw [setR_get c off d.toList hb' j] at hu
  rw [setRange_get cs off ds hb j] at hy
  rw [Array.length_toList, hd.1] at hu
  split at hu
  · rename_i hj
    rw [if_pos hj] at hy
    exact hd.2 (j - off) u y (by simpa using hu) hy
  · rename_i hj
    rw [if_neg hj] at hy
    exact h.2 j u y hu hy
theorem foldl_setR (l : List Value) : ∀ (k off : Nat) (c : Array Value), (l.zipIdx k).foldl (fun cs (p : Value × Nat) => cs.setIfInBounds (off + p.2) p.1) c = setR c (off + k) l := by
  induction l with
  | nil => intro k off c; rfl
  | cons v r ih => intro k off c; rw [List.zipIdx_cons, List.foldl_cons, ih, setR]; simp only [Nat.add_assoc]
theorem fill_rep {place : Nat → Option (Nat × Nat)} : ∀ (ps : List (Nat × Value)) (qs : List (Nat × Nat × PV)) (c : Array Value) (cs cs' : List PV), CRep fx G w c cs → ps.length = qs.length →
    (∀ (i : Nat) (p : Nat × Value) (q : Nat × Nat × PV), ps[i]? = some p → qs[i]? = some q → place p.1 = some (q.1, q.2.1) ∧ PRep fx G w p.2 q.2.2) → fillP cs qs = some cs' → ∃ c', Instr.fill place c ps = some c' ∧ CRep fx G w c' cs' := by
  intro ps
  induction ps with
  | nil =>
    intro qs c cs cs' hc hl _ h
    obtain rfl := List.eq_nil_of_length_eq_zero hl.symm
    simp only [fillP, Option.some.injEq] at h
    subst h
    exact ⟨c, rfl, hc⟩
  | cons p ps ih =>
    intro qs c cs cs' hc hl hp h
    cases qs with
    | nil => simp at hl
    | cons q qs =>
      obtain ⟨i, v⟩ := p
      obtain ⟨off, n, x⟩ := q
      obtain ⟨h1, h2⟩ := hp 0 _ _ rfl rfl
      simp only at h1 h2
      simp only [fillP] at h
      split at h
      · rename_i hcond
        have hcr := cells_rep h2
        have hset := CRep.set (off := off) hc hcr (by omega)
        obtain ⟨c', e1, e2⟩ := ih qs (setR c off v.cells.toList) _ cs' hset (by simpa using hl) (fun i p q hp' hq' => hp (i + 1) p q (by simpa using hp') (by simpa using hq')) h
        refine ⟨c', ?_, e2⟩
        have hc1 : v.cells.size = n := by rw [hcr.1]; exact hcond.1
        have hc2 : off + v.cells.size ≤ c.size := by rw [hc1, hc.1]; exact hcond.2
        have hfold : v.cells.zipIdx.foldl (fun cs (c, j) => cs.setIfInBounds (off + j) c) c = setR c off v.cells.toList := by
          rw [← Array.foldl_toList, Array.toList_zipIdx]
          have := foldl_setR v.cells.toList 0 off c
          simpa using this
        simp only [Instr.fill, h1]
        rw [if_neg (by simp [hc1]; omega), hfold]
        exact e1
      · cases h

theorem cval1s_get {l : List Value} {ts : List T} (h : cval1s l = some ts) : l.length = ts.length ∧ ∀ (i : Nat) (v : Value) (x : T), l[i]? = some v → ts[i]? = some x → cval1 v = some x := by
  induction l generalizing ts with
  | nil => simp [cval1s] at h; subst h; simp
  | cons v r ih =>
    simp only [cval1s] at h
    split at h
    · rename_i x xs h1 h2
      injection h with h
      subst h
      obtain ⟨e1, e2⟩ := ih h2
      refine ⟨by simp [e1], fun i u y hu hy => ?_⟩
      cases i with
      | zero => simp at hu hy; subst hu hy; exact h1
      | succ i => simp at hu hy; exact e2 i u y hu hy
    · cases h
theorem tyZero_rep {t : TypeId} {zs : List T} (h : tyZero P t = some zs) : ∃ i z, P.info? t = some i ∧ i.zero = some z ∧ z.cells.size = zs.length ∧ ∀ (j : Nat) (v : Value) (x : T), z.cells[j]? = some v → zs[j]? = some x → ∀ (st : Nat → Nat → Prop) (w : World), TRep st w v x := by
  unfold tyZero at h
  split at h
  · rename_i i hi
    split at h
    · rename_i z hz
      obtain ⟨h1, h2⟩ := cval1s_get h
      exact ⟨i, z, hi, hz, by simpa using h1, fun j v x hv hx st w => cval1_rep (h2 j v x (by simpa using hv) hx)⟩
    · cases h
  · cases h
theorem run_zeroValue {t : TypeId} {i : TypeInfo} {z : Value} (hi : P.info? t = some i) (hz : i.zero = some z) (w : World) : (zeroValue t).run P w = .ok z w := by simp [zeroValue, run_typeInfo hi, hz]
theorem zero_crep {zs : List T} {z : Value} (hl : z.cells.size = zs.length) (hr : ∀ (j : Nat) (v : Value) (x : T), z.cells[j]? = some v → zs[j]? = some x → ∀ (st : Nat → Nat → Prop) (w : World), TRep st w v x) : CRep fx G w z.cells (zs.map .t) :=
  ⟨by simpa using hl, fun j u y hu hy => by
    simp only [List.getElem?_map, Option.map_eq_some_iff] at hy
    obtain ⟨q, hq, rfl⟩ := hy
    exact .t (hr j u q hu hq _ _)⟩
theorem fieldPlaces_get {fs : List Field} {pl : List (Nat × Nat)} (h : fieldPlaces P fs = some pl) (w : World) : (fs.mapM fun f => do pure (f.offset, ← sizeOf f.type) : Sem (List (Nat × Nat))).run P w = .ok pl w := by
  induction fs generalizing pl with
  | nil => simp [fieldPlaces] at h; subst h; simp
  | cons f r ih =>
    simp only [fieldPlaces] at h
    split at h
    · rename_i s l h1 h2
      injection h with h
      subst h
      rw [List.mapM_cons]
      simp only [Sem.run_bind, run_sizeOf h1, Result.andThen_ok, Sem.run_pure, ih h2]
    · cases h
theorem compParts_get {place : Nat → Option (Nat × Nat)} {ps : List (Nat × Operand)} {qs : List (Nat × Nat × Opd)} (h : compParts tb nt place ps = some qs) : ps.length = qs.length ∧
    ∀ (i : Nat) (p : Nat × Operand) (q : Nat × Nat × Opd), ps[i]? = some p → qs[i]? = some q → place p.1 = some (q.1, q.2.1) ∧ compOpd tb nt p.2 = some q.2.2 := by
  induction ps generalizing qs with
  | nil => simp [compParts] at h; subst h; simp
  | cons p r ih =>
    obtain ⟨i, x⟩ := p
    simp only [compParts] at h
    split at h
    · rename_i o s y l h1 h2 h3
      injection h with h
      subst h
      obtain ⟨e1, e2⟩ := ih h3
      refine ⟨by simp [e1], fun j p q hp hq => ?_⟩
      cases j with
      | zero => simp at hp hq; subst hp hq; exact ⟨h1, h2⟩
      | succ j => simp at hp hq; exact e2 j p q hp hq
    · cases h
/-- A struct or an array is built. -/
theorem run_build {t : TypeId} {ps : Array (Nat × Operand)} {zs : List T} {l : List (Nat × Nat × Opd)} {cs : List PV} (hf : FRep tb.fx G w nt a fr) (h : compBuild P tb nt t ps.toList = some (.build zs l))
    (hfill : fillP (zs.map .t) (l.map fun p => (p.1, p.2.1, p.2.2.ev fr)) = some cs) :
    ∃ v, (Instr.build t (ps.map fun (i, x) => (i, a.eval x))).run P w = .ok v w ∧ PRep tb.fx G w v (mkAgg cs) := by
  unfold compBuild at h
  split at h
  · rename_i zs' fs hz hu
    split at h
    · rename_i pl hpl
      simp only [Option.map_eq_some_iff] at h
      obtain ⟨l', hl', heq⟩ := h
      injection heq with e1 e2
      subst e1 e2
      obtain ⟨i, z, hi, hzz, hzl, hzr⟩ := tyZero_rep hz
      obtain ⟨q1, q2⟩ := compParts_get hl'
      obtain ⟨c', f1, f2⟩ := fill_rep (fx := tb.fx) (G := G) (w := w) (place := (pl.toArray[·]?)) (ps.toList.map fun p => (p.1, a.eval p.2)) (l'.map fun p => (p.1, p.2.1, p.2.2.ev fr)) z.cells (zs'.map .t) cs (zero_crep hzl hzr) (by simpa using q1) (fun i p q hp hq => by
        simp only [List.getElem?_map, Option.map_eq_some_iff] at hp hq
        obtain ⟨p', hp', rfl⟩ := hp
        obtain ⟨q', hq', rfl⟩ := hq
        obtain ⟨r1, r2⟩ := q2 i p' q' hp' hq'
        exact ⟨by simpa using r1, opd_rep r2 hf⟩) hfill
      refine ⟨.agg c', ?_, mkAgg_rep f2.1 f2.2⟩
      have hmap : (fs.mapM fun f => do pure (f.offset, ← sizeOf f.type) : Sem (Array (Nat × Nat))).run P w = .ok pl.toArray w := by
        rw [Array.mapM_eq_mapM_toList]
        simp only [Sem.run_map, fieldPlaces_get hpl, Result.andThen_ok]
      simp only [Instr.build, Sem.run_bind, run_zeroValue hi hzz, Result.andThen_ok, run_underlying hu, hmap]
      have : (ps.map fun (i, x) => (i, a.eval x)).toList = ps.toList.map fun p => (p.1, a.eval p.2) := by simp
      rw [this, f1]
      rfl
    · cases h
  · rename_i zs' n e hz hu
    split at h
    · rename_i s hs
      simp only [Option.map_eq_some_iff] at h
      obtain ⟨l', hl', heq⟩ := h
      injection heq with e1 e2
      subst e1 e2
      obtain ⟨i, z, hi, hzz, hzl, hzr⟩ := tyZero_rep hz
      obtain ⟨q1, q2⟩ := compParts_get hl'
      obtain ⟨c', f1, f2⟩ := fill_rep (fx := tb.fx) (G := G) (w := w) (place := fun i => some (i * s, s)) (ps.toList.map fun p => (p.1, a.eval p.2)) (l'.map fun p => (p.1, p.2.1, p.2.2.ev fr)) z.cells (zs'.map .t) cs (zero_crep hzl hzr) (by simpa using q1) (fun i p q hp hq => by
        simp only [List.getElem?_map, Option.map_eq_some_iff] at hp hq
        obtain ⟨p', hp', rfl⟩ := hp
        obtain ⟨q', hq', rfl⟩ := hq
        obtain ⟨r1, r2⟩ := q2 i p' q' hp' hq'
        exact ⟨r1, opd_rep r2 hf⟩) hfill
      refine ⟨.agg c', ?_, mkAgg_rep f2.1 f2.2⟩
      simp only [Instr.build, Sem.run_bind, run_zeroValue hi hzz, Result.andThen_ok, run_underlying hu, run_sizeOf hs]
      have : (ps.map fun (i, x) => (i, a.eval x)).toList = ps.toList.map fun p => (p.1, a.eval p.2) := by simp
      rw [this, f1]
      rfl
    · cases h
  · cases h
end Go.Pi
