/- PI 5: operations that change nothing. Program independent. -/
import Derived.Test.YtienhfkjhdbnbaaDoorPi4
import Derived.Laws.Cells
import Derived.Laws.Entries
namespace Go.Pi
variable {P : Program} {tb : Tb} {fx : List (Nat × Nat)} {gl : Nat → Option (List T)} {G : Gh} {w : World} {sg : Sg} {ow : Ow} {nt : Nat} {a : Act} {fr : List PV}

theorem cval1_rep {st : Nat → Nat → Prop} {v : Value} {x : T} (h : cval1 v = some x) : TRep st w v x := by
  unfold cval1 at h
  split at h <;> simp at h <;> subst h
  · exact .bool _
  · exact .int _ _
  · exact .str _
  · exact .nptr
  · exact .nsl
  · exact .nif
  · exact .nfn
theorem mapM_get {α β : Type} (f : α → Option β) (l : List α) (r : List β) (h : l.mapM f = some r) : l.length = r.length ∧ ∀ (i : Nat) (x : α) (y : β), l[i]? = some x → r[i]? = some y → f x = some y := by
  induction l generalizing r with
  | nil => simp at h; subst h; simp
  | cons a l ih =>
    rw [List.mapM_cons] at h
    simp only [Option.bind_eq_bind, Option.bind_eq_some_iff, Option.pure_def, Option.some.injEq] at h
    obtain ⟨b, hb, r', hr', rfl⟩ := h
    obtain ⟨h1, h2⟩ := ih r' hr'
    refine ⟨by simp [h1], fun i x y hx hy => ?_⟩
    cases i with
    | zero => simp at hx hy; subst hx hy; exact hb
    | succ i => simp at hx hy; exact h2 i x y hx hy
theorem cval_rep {v : Value} {x : PV} (h : cval v = some x) : PRep fx G w v x := by
  unfold cval at h
  split at h
  · rename_i cs
    simp only [Option.map_eq_some_iff] at h
    obtain ⟨l, hl, rfl⟩ := h
    obtain ⟨h1, h2⟩ := mapM_get _ _ _ hl
    exact .t (.agg cs l (by simpa using h1) fun i v x hv hx => cval1_rep (h2 i v x (by simpa using hv) hx))
  · simp only [Option.map_eq_some_iff] at h
    obtain ⟨y, hy, rfl⟩ := h
    exact .t (cval1_rep hy)
theorem fnum_mem {l : List (Nat × Nat)} {f k : Nat} (h : fnum l f = some k) : (k, f) ∈ l := by
  induction l with
  | nil => simp [fnum] at h
  | cons x r ih =>
    obtain ⟨k', g⟩ := x
    simp only [fnum] at h
    split at h
    · rename_i hg
      injection h with h
      subst h hg
      simp
    · exact List.mem_cons_of_mem _ (ih h)

theorem opd_rep {x : Operand} {y : Opd} (h : compOpd tb nt x = some y) (hf : FRep tb.fx G w nt a fr) : PRep tb.fx G w (a.eval x) (y.ev fr) := by
  cases x with
  | tmp k =>
    simp only [compOpd] at h
    split at h
    · rename_i hk
      injection h with h
      subst h
      exact hf.2.2 k hk
    · cases h
  | const v =>
    simp only [compOpd, Option.map_eq_some_iff] at h
    obtain ⟨p, hp, rfl⟩ := h
    exact cval_rep hp
  | global g =>
    simp only [compOpd, Option.some.injEq] at h
    subst h
    exact .gp g 0
  | func f =>
    simp only [compOpd, Option.map_eq_some_iff] at h
    obtain ⟨k, hk, rfl⟩ := h
    exact .fn k f #[] [] (fnum_mem hk) rfl (fun i v x hv => by simp at hv)
theorem opds_rep {xs : List Operand} {ys : List Opd} (h : compOpds tb nt xs = some ys) (hf : FRep tb.fx G w nt a fr) :
    xs.length = ys.length ∧ ∀ (i : Nat) (x : Operand) (y : Opd), xs[i]? = some x → ys[i]? = some y → PRep tb.fx G w (a.eval x) (y.ev fr) := by
  induction xs generalizing ys with
  | nil => simp [compOpds] at h; subst h; simp
  | cons x r ih =>
    simp only [compOpds] at h
    split at h
    · rename_i y ys' h1 h2
      injection h with h
      subst h
      obtain ⟨e1, e2⟩ := ih h2
      refine ⟨by simp [e1], fun i x' y' hx hy => ?_⟩
      cases i with
      | zero => simp at hx hy; subst hx hy; exact opd_rep h1 hf
      | succ i => simp at hx hy; exact e2 i x' y' hx hy
    · cases h
theorem opds_all {xs : Array Operand} {ys : List Opd} (h : compOpds tb nt xs.toList = some ys) (hf : FRep tb.fx G w nt a fr) : PRepAll tb.fx G w (xs.map a.eval) (ys.map (Opd.ev fr)) := by
  obtain ⟨h1, h2⟩ := opds_rep h hf
  refine ⟨by simpa using h1, fun i v x hv hx => ?_⟩
  simp only [Array.getElem?_map, Option.map_eq_some_iff, List.getElem?_map] at hv hx
  obtain ⟨p, hp, rfl⟩ := hv
  obtain ⟨q, hq, rfl⟩ := hx
  exact h2 i p q (by simpa using hp) hq

/-! ### What a value is, by what it stands for -/
theorem PRep.int_inv {v : Value} {k : IntKind} {n : Int} (h : PRep fx G w v (.t (.int k n))) : v = .int k n := by
  cases h with | t h => cases h; rfl
theorem PRep.bool_inv {v : Value} {b : Bool} (h : PRep fx G w v (.t (.bool b))) : v = .bool b := by
  cases h with | t h => cases h; rfl
theorem PRep.str_inv {v : Value} {l : List UInt8} (h : PRep fx G w v (.t (.str l))) : ∃ s : ByteArray, v = .string s ∧ s.data.toList = l := by
  cases h with | t h => cases h; exact ⟨_, rfl, rfl⟩
theorem PRep.of_bool {b : Bool} {x : PV} (h : PRep fx G w (.bool b) x) : x = .t (.bool b) := by
  cases h with | t h => cases h; rfl
theorem PRep.tint (k : IntKind) (n : Int) : PRep fx G w (.int k n) (.t (.int k n)) := .t (.int k n)
theorem PRep.tbool (b : Bool) : PRep fx G w (.bool b) (.t (.bool b)) := .t (.bool b)
theorem PRep.tstr {s : ByteArray} {l : List UInt8} (h : s.data.toList = l) : PRep fx G w (.string s) (.t (.str l)) := h ▸ .t (.str s)
theorem PRep.agg_inv {v : Value} {xs : List T} (h : PRep fx G w v (.t (.agg xs))) : ∃ cs : Array Value, v = .agg cs ∧ cs.size = xs.length ∧ ∀ (i : Nat) (u : Value) (x : T), cs[i]? = some u → xs[i]? = some x → TRep G.st w u x := by
  cases h with | t h => cases h with | agg cs _ hl hr => exact ⟨cs, rfl, hl, hr⟩
theorem PRep.aggP_inv {v : Value} {xs : List PV} (h : PRep fx G w v (.agg xs)) : ∃ cs : Array Value, v = .agg cs ∧ cs.size = xs.length ∧ ∀ (i : Nat) (u : Value) (x : PV), cs[i]? = some u → xs[i]? = some x → PRep fx G w u x := by
  cases h with | agg cs _ hl hr => exact ⟨cs, rfl, hl, hr⟩

theorem cells_one {v : Value} {x : PV} (h : PRep fx G w v x) (h1 : ∀ cs, x ≠ .t (.agg cs)) (h2 : ∀ cs, x ≠ .agg cs) : v.cells = #[v] := by
  cases h with
  | t h => cases h <;> first | rfl | exact absurd rfl (h1 _)
  | agg => exact absurd rfl (h2 _)
  | _ => rfl
theorem cells_rep {v : Value} {x : PV} (h : PRep fx G w v x) : v.cells.size = (cellsP x).length ∧ ∀ (j : Nat) (u : Value) (y : PV), v.cells[j]? = some u → (cellsP x)[j]? = some y → PRep fx G w u y := by
  by_cases h1 : ∃ cs, x = .t (.agg cs)
  · obtain ⟨cs, rfl⟩ := h1
    obtain ⟨c, rfl, hl, hr⟩ := h.agg_inv
    refine ⟨by simpa [Value.cells, cellsP] using hl, fun j u y hu hy => ?_⟩
    simp only [cellsP, List.getElem?_map, Option.map_eq_some_iff] at hy
    obtain ⟨t, ht, rfl⟩ := hy
    exact .t (hr j u t hu ht)
  · by_cases h2 : ∃ cs, x = .agg cs
    · obtain ⟨cs, rfl⟩ := h2
      obtain ⟨c, rfl, hl, hr⟩ := h.aggP_inv
      exact ⟨hl, hr⟩
    · have hc := cells_one h (fun cs e => h1 ⟨cs, e⟩) (fun cs e => h2 ⟨cs, e⟩)
      have hp : cellsP x = [x] := by
        unfold cellsP
        split
        · exact absurd ⟨_, rfl⟩ h1
        · exact absurd ⟨_, rfl⟩ h2
        · rfl
      rw [hc, hp]
      refine ⟨rfl, fun j u y hu hy => ?_⟩
      cases j with
      | zero => simp at hu hy; subst hu hy; exact h
      | succ j => simp at hu
theorem allT_eq {cs : List PV} {ts : List T} (h : allT cs = some ts) : cs = ts.map .t := by
  induction cs generalizing ts with
  | nil => simp [allT] at h; subst h; rfl
  | cons x r ih =>
    cases x <;> simp only [allT, Option.map_eq_some_iff, reduceCtorEq] at h
    obtain ⟨l, hl, rfl⟩ := h
    rw [ih hl, List.map_cons]
theorem allT_map (ts : List T) : allT (ts.map .t) = some ts := by
  induction ts with
  | nil => rfl
  | cons x r ih => simp [allT, ih]
theorem mkAgg_rep {c : Array Value} {cs : List PV} (hl : c.size = cs.length) (hr : ∀ (j : Nat) (u : Value) (y : PV), c[j]? = some u → cs[j]? = some y → PRep fx G w u y) : PRep fx G w (.agg c) (mkAgg cs) := by
  unfold mkAgg
  split
  · rename_i ts h
    have := allT_eq h
    subst this
    refine .t (.agg c ts (by simpa using hl) fun i v x hv hx => ?_)
    have := hr i v (.t x) hv (by simp [hx])
    cases this with | t h => exact h
  · exact .agg c cs hl hr
theorem partP_rep {c : Array Value} {cs : List PV} (hl : c.size = cs.length) (hr : ∀ (j : Nat) (u : Value) (y : PV), c[j]? = some u → cs[j]? = some y → PRep fx G w u y) {t : TypeId} {ag : Bool} {n off : Nat} {r : PV}
    (_hag : tyAg P t = some ag) (_hsz : tySz P t = some n) (h : partP ag n cs off = some r) :
    (ag = true ∧ off + n ≤ c.size ∧ PRep fx G w (.agg (c.extract off (off + n))) r) ∨ (ag = false ∧ ∃ u, c[off]? = some u ∧ PRep fx G w u r) := by
  unfold partP at h
  cases ag with
  | true =>
    simp only [if_true] at h
    split at h
    · rename_i hb
      injection h with h
      subst h
      refine .inl ⟨rfl, by omega, mkAgg_rep (by simp; omega) fun j u y hu hy => ?_⟩
      rw [List.getElem?_take, List.getElem?_drop] at hy
      split at hy
      · rename_i hj
        refine hr (off + j) u y ?_ hy
        rw [← hu]
        simp [Array.getElem?_extract]
        omega
      · cases hy
    · cases h
  | false =>
    simp only [Bool.false_eq_true, if_false] at h
    have hlt : off < cs.length := (List.getElem?_eq_some_iff.1 h).1
    exact .inr ⟨rfl, c[off]'(by omega), Array.getElem?_eq_getElem (by omega), hr off _ r (Array.getElem?_eq_getElem (by omega)) h⟩
theorem partT_P (ag : Bool) (n : Nat) (cs : List T) (off : Nat) : partT ag n cs off = partP ag n (cs.map .t) off := by
  unfold partT partP
  cases ag with
  | true =>
    simp only [if_true, List.length_map]
    split
    · rw [← List.map_drop, ← List.map_take]
      unfold mkAgg
      rw [allT_map]
    · rfl
  | false => simp

theorem run_isAgg {t : TypeId} {ag : Bool} (h : tyAg P t = some ag) (w : World) : (isAgg t).run P w = .ok ag w := by
  unfold tyAg at h
  simp only [isAgg, Sem.run_bind]
  split at h <;> rename_i h2 <;> first
    | (injection h with h; subst h; simp only [run_underlying h2, Result.andThen_ok]; rfl)
    | (rename_i d h3 h4; injection h with h; subst h; simp only [run_underlying h2, Result.andThen_ok]; cases d <;> first | rfl | (exact absurd rfl (h3 _)) | (exact absurd rfl (h4 _ _)))
    | cases h
theorem run_typeInfo {t : TypeId} {i : TypeInfo} (h : P.info? t = some i) (w : World) : (typeInfo t).run P w = .ok i w := by simp [typeInfo, h]
theorem run_sizeOf {t : TypeId} {n : Nat} (h : tySz P t = some n) (w : World) : (sizeOf t).run P w = .ok n w := by
  simp only [tySz, Option.map_eq_some_iff] at h
  obtain ⟨i, hi, rfl⟩ := h
  simp [sizeOf, run_typeInfo hi]
theorem run_part {t : TypeId} {ag : Bool} {n off : Nat} {c : Array Value} (hag : tyAg P t = some ag) (hsz : tySz P t = some n) (w : World) :
    (part t c off).run P w = if ag then .ok (.agg (c.extract off (off + n))) w else match c[off]? with
      | some v => .ok v w
      | none => .halt (.stuck "part: no such cell") w := by
  simp only [part, Sem.run_bind, run_isAgg hag, Result.andThen_ok]
  cases ag with
  | true => simp [run_sizeOf hsz]
  | false =>
    simp only [Bool.false_eq_true, if_false]
    cases c[off]? <;> rfl
theorem add_plain (b o n : Nat) : Addr.add ⟨b, o, none⟩ n = ⟨b, o + n, none⟩ := by unfold Addr.add; split <;> simp_all

/-- A variable is loaded whose cells are known. -/
theorem run_loadVar_cells {t : TypeId} {ag : Bool} {n b o : Nat} {c : Array Value} {cs : List PV} {r : PV} {off : Nat} (hag : tyAg P t = some ag) (hsz : tySz P t = some n) (hl : c.size = cs.length)
    (hc : ∀ j v, c[j]? = some v → w.cell? ⟨b, o + j, none⟩ = some v) (hr : ∀ (j : Nat) (u : Value) (y : PV), c[j]? = some u → cs[j]? = some y → PRep fx G w u y) (h : partP ag n cs off = some r) :
    ∃ v, (loadVar t ⟨b, o + off, none⟩).run P w = .ok v w ∧ PRep fx G w v r := by
  rcases partP_rep (P := P) hl hr hag hsz h with ⟨rfl, hb, hp⟩ | ⟨rfl, u, hu, hp⟩
  · refine ⟨_, ?_, hp⟩
    simp only [loadVar, Sem.run_bind, run_isAgg hag, Result.andThen_ok, if_true, run_sizeOf hsz]
    rw [run_loadCells w ⟨b, o + off, none⟩ n (fun j => c[off + j]?.getD undef) (fun j hj => by
      rw [add_plain]
      have hlt : off + j < c.size := by omega
      have := hc (off + j) (c[off + j]) (Array.getElem?_eq_getElem hlt)
      rw [Nat.add_assoc, this, Array.getElem?_eq_getElem hlt]; rfl)]
    simp only [Result.andThen_ok, Sem.run_pure]
    congr 2
    apply Array.ext_getElem?
    intro j
    simp only [List.getElem?_toArray, List.getElem?_map, Array.getElem?_extract]
    by_cases hj : j < n
    · have : off + j < c.size := by omega
      simp [hj, this]; omega
    · simp [hj]; omega
  · refine ⟨u, ?_, hp⟩
    simp only [loadVar, Sem.run_bind, run_isAgg hag, Result.andThen_ok, Bool.false_eq_true, if_false, run_load, hc off u hu]

theorem run_load_rep (hi : Inv fx gl G w sg ow) {t : TypeId} {ag : Bool} {n : Nat} {v : Value} {x r : PV} (hag : tyAg P t = some ag) (hsz : tySz P t = some n) (hv : PRep fx G w v x) (h : loadP gl sg ag n x = some r) :
    ∃ u, (Instr.loadAt t v).run P w = .ok u w ∧ PRep fx G w u r := by
  unfold loadP at h
  split at h
  · rename_i id off
    cases hv with | lp _ _ b hb =>
    split at h
    · rename_i ro cs hs
      obtain ⟨c, t', z, e1, e2, e3, _⟩ := hi.blk id b ro cs hb hs
      obtain ⟨u, h1, h2⟩ := run_loadVar_cells (P := P) (w := w) (b := b) (o := 0) (off := off) hag hsz e2 (fun j v hj => by rw [Nat.zero_add, cell_of_row w b j c t' z e1]; exact hj) e3 h
      rw [Nat.zero_add] at h1
      exact ⟨u, by simpa [Instr.loadAt, Instr.sureAddr] using h1, h2⟩
    · cases h
  · rename_i cs off
    cases hv with | ip _ _ b o vs hc =>
    rw [partT_P] at h
    obtain ⟨u, h1, h2⟩ := run_loadVar_cells (P := P) (w := w) (b := b) (o := o) (off := off) (c := ((List.range cs.length).map vs).toArray) (fx := fx) (G := G) hag hsz (by simp) (fun j v hj => by
      simp only [List.getElem?_toArray, List.getElem?_map, Option.map_eq_some_iff] at hj
      obtain ⟨q, hq, rfl⟩ := hj
      have hlt : j < cs.length := by
        rcases Nat.lt_or_ge j cs.length with h | h
        · exact h
        · rw [List.getElem?_eq_none (by simpa using h)] at hq; cases hq
      rw [List.getElem?_range hlt] at hq
      injection hq with hq
      subst hq
      exact (hc j (cs[j]) (List.getElem?_eq_getElem hlt)).1) (fun j u y hu hy => by
      simp only [List.getElem?_map, Option.map_eq_some_iff] at hy
      obtain ⟨q, hq, rfl⟩ := hy
      have hlt : j < cs.length := (List.getElem?_eq_some_iff.1 hq).1
      have : u = vs j := by
        simp only [List.getElem?_toArray, List.getElem?_map, List.getElem?_range hlt, Option.map_some, Option.some.injEq] at hu
        exact hu.symm
      subst this
      exact .t (hc j q hq).2.2) h
    exact ⟨u, by simpa [Instr.loadAt, Instr.sureAddr] using h1, h2⟩
  · rename_i g off
    cases hv with | gp _ _ =>
    split at h
    · rename_i cs hg
      rw [partT_P] at h
      have hex : ∀ j, j < cs.length → ∃ v, w.cell? ⟨g, j, none⟩ = some v ∧ TRep G.st w v (cs.getD j .nptr) := fun j hj => by
        obtain ⟨v, e1, e2, _⟩ := hi.glob g cs j _ hg (List.getElem?_eq_getElem hj)
        exact ⟨v, e1, by simpa [List.getD, hj] using e2⟩
      let vs : Nat → Value := fun j => (w.cell? ⟨g, j, none⟩).getD undef
      have hvs : ∀ j, j < cs.length → w.cell? ⟨g, j, none⟩ = some (vs j) ∧ TRep G.st w (vs j) (cs.getD j .nptr) := fun j hj => by
        obtain ⟨v, e1, e2⟩ := hex j hj
        have : vs j = v := by simp [vs, e1]
        rw [this]
        exact ⟨e1, e2⟩
      obtain ⟨u, h1, h2⟩ := run_loadVar_cells (P := P) (w := w) (b := g) (o := 0) (off := off) (c := ((List.range cs.length).map vs).toArray) (fx := fx) (G := G) hag hsz (by simp) (fun j v hj => by
        simp only [List.getElem?_toArray, List.getElem?_map, Option.map_eq_some_iff] at hj
        obtain ⟨q, hq, rfl⟩ := hj
        have hlt : j < cs.length := by
          rcases Nat.lt_or_ge j cs.length with h | h
          · exact h
          · rw [List.getElem?_eq_none (by simpa using h)] at hq; cases hq
        rw [List.getElem?_range hlt] at hq
        injection hq with hq
        subst hq
        rw [Nat.zero_add]
        exact (hvs j hlt).1) (fun j u y hu hy => by
        simp only [List.getElem?_map, Option.map_eq_some_iff] at hy
        obtain ⟨q, hq, rfl⟩ := hy
        have hlt : j < cs.length := (List.getElem?_eq_some_iff.1 hq).1
        have : u = vs j := by
          simp only [List.getElem?_toArray, List.getElem?_map, List.getElem?_range hlt, Option.map_some, Option.some.injEq] at hu
          exact hu.symm
        subst this
        have := (hvs j hlt).2
        rw [List.getD, hq] at this
        exact .t this) h
      rw [Nat.zero_add] at h1
      exact ⟨u, by simpa [Instr.loadAt, Instr.sureAddr] using h1, h2⟩
    · cases h
  · cases h
end Go.Pi
