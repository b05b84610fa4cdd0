/- PI 10: the cells of slices, aggregates that are built, stores, bytes and strings. Program independent. -/
import Derived.Test.YtienhfkjhdbnbaaDoorPi9
import Derived.Laws.IdiomStrings
namespace Go.Pi
variable {P : Program} {tb : Tb} {fx : List (Nat × Nat)} {gl : Nat → Option (List T)} {G : Gh} {w : World} {sg : Sg} {ow : Ow} {nt : Nat} {a : Act} {fr : List PV}

/-- 'vs' are the cells of the elements 'es', of sz cells each, one behind the other. -/
def VRep (st : Nat → Nat → Prop) (w : World) (sz : Nat) (es : List (List T)) (vs : List Value) : Prop :=
  vs.length = es.length * sz ∧ ∀ (i j : Nat) (e : List T) (y : T), es[i]? = some e → e[j]? = some y → ∃ v, vs[i * sz + j]? = some v ∧ TRep st w v y
theorem VRep.nil (st : Nat → Nat → Prop) (w : World) (sz : Nat) : VRep st w sz [] [] := ⟨by simp, fun i j e y hi => by simp at hi⟩
theorem VRep.mono {st st' : Nat → Nat → Prop} {w w' : World} {sz : Nat} {es : List (List T)} {vs : List Value} (h : VRep st w sz es vs) (hm : ∀ v y, TRep st w v y → TRep st' w' v y) : VRep st' w' sz es vs :=
  ⟨h.1, fun i j e y hi hj => let ⟨v, h1, h2⟩ := h.2 i j e y hi hj; ⟨v, h1, hm _ _ h2⟩⟩
theorem VRep.append {st : Nat → Nat → Prop} {w : World} {sz : Nat} {es es' : List (List T)} {vs vs' : List Value} (h : VRep st w sz es vs) (h' : VRep st w sz es' vs') : VRep st w sz (es ++ es') (vs ++ vs') := by
  refine ⟨by simp [h.1, h'.1, Nat.add_mul], fun i j e y hi hj => ?_⟩
  rcases Nat.lt_or_ge i es.length with hlt | hge
  · rw [List.getElem?_append_left hlt] at hi
    obtain ⟨v, h1, h2⟩ := h.2 i j e y hi hj
    refine ⟨v, ?_, h2⟩
    rw [List.getElem?_append_left (List.getElem?_eq_some_iff.1 h1).1]
    exact h1
  · rw [List.getElem?_append_right hge] at hi
    obtain ⟨v, h1, h2⟩ := h'.2 (i - es.length) j e y hi hj
    refine ⟨v, ?_, h2⟩
    have he : i * sz + j = vs.length + ((i - es.length) * sz + j) := by
      rw [h.1]
      have : i = es.length + (i - es.length) := by omega
      conv => lhs; rw [this, Nat.add_mul]
      omega
    rw [he, List.getElem?_append_right (by omega)]
    have : vs.length + ((i - es.length) * sz + j) - vs.length = (i - es.length) * sz + j := by omega
    rw [this]
    exact h1
/-- A slice over known cells. -/
theorem TRep.ofRow {st : Nat → Nat → Prop} {b o cap sz : Nat} {es : List (List T)} {vs : List Value} (hsz : ∀ e ∈ es, e.length = sz) (ho : ∀ e, e ∈ es → ∀ x, x ∈ e → x.isAgg = false) (hcap : es.length ≤ cap) (hv : VRep st w sz es vs) (hc : ∀ j v, vs[j]? = some v → w.cell? ⟨b, o + j, none⟩ = some v)
    (hs : ∀ j, j < es.length * sz → st b (o + j)) : TRep st w (.slice (some ⟨b, o, none⟩) es.length cap) (.sl false es) := by
  refine .sl ⟨b, o, none⟩ cap sz es (fun i j => vs.getD (i * sz + j) undef) hcap (fun _ => rfl) hsz ho ?_ ?_
  · intro i j e x hi hj
    obtain ⟨v, h1, _⟩ := hv.2 i j e x hi hj
    have : vs.getD (i * sz + j) undef = v := by simp [List.getD, h1]
    simp only [this]
    refine ⟨hc _ _ h1, hs _ ?_⟩
    rw [← hv.1]
    exact (List.getElem?_eq_some_iff.1 h1).1
  · intro i j e x hi hj
    obtain ⟨v, h1, h2⟩ := hv.2 i j e x hi hj
    have : vs.getD (i * sz + j) undef = v := by simp [List.getD, h1]
    rw [this]
    exact h2
theorem mul_add_lt {i n sz j : Nat} (hi : i < n) (hj : j < sz) : i * sz + j < n * sz := by
  have : (i + 1) * sz ≤ n * sz := Nat.mul_le_mul_right _ hi
  rw [Nat.add_mul, Nat.one_mul] at this
  omega
/-- The cells of a tree's slice. -/
theorem TRep.row {st : Nat → Nat → Prop} {ad : Option Addr} {n cap sz : Nat} {nl : Bool} {es : List (List T)} (h : TRep st w (.slice ad n cap) (.sl nl es)) (hall : ∀ e ∈ es, e.length = sz) (hsz : 0 < sz) :
    ∃ vs, VRep st w sz es vs ∧ (∀ e, e ∈ es → ∀ x, x ∈ e → x.isAgg = false) ∧ (es ≠ [] → ∃ b o, ad = some ⟨b, o, none⟩ ∧ ∀ j v, vs[j]? = some v → w.cell? ⟨b, o + j, none⟩ = some v) := by
  generalize hv : Value.slice ad n cap = v at h
  generalize hx : T.sl nl es = x at h
  cases h <;> simp only [reduceCtorEq, Value.slice.injEq, T.sl.injEq] at hv hx
  · obtain ⟨rfl, rfl⟩ := hx
    exact ⟨[], .nil _ _ _, by simp, fun h => absurd rfl h⟩
  · rename_i ad' cap' sz0 es' vs hcap hsp hsz0 ho hc hr
    obtain ⟨rfl, rfl, rfl⟩ := hv
    obtain ⟨rfl, rfl⟩ := hx
    by_cases hne : es = []
    · subst hne
      exact ⟨[], .nil _ _ _, by simp, fun h => absurd rfl h⟩
    · have hszz : sz0 = sz := by
        cases hes : es with
        | nil => exact absurd hes hne
        | cons e r => rw [← hall e (by simp [hes]), hsz0 e (by simp [hes])]
      subst hszz
      have hspot := hsp hne
      obtain ⟨bb, oo, ss⟩ := ad'
      simp only at hspot
      subst hspot
      refine ⟨(List.range (es.length * sz0)).map fun k => vs (k / sz0) (k % sz0), ⟨by simp, fun i j e y hi hj => ?_⟩, ho, fun _ => ⟨bb, oo, rfl, fun k v hk => ?_⟩⟩
      · have hil : i < es.length := (List.getElem?_eq_some_iff.1 hi).1
        have hjl : j < sz0 := by rw [← hsz0 e (List.mem_of_getElem? hi)]; exact (List.getElem?_eq_some_iff.1 hj).1
        refine ⟨vs i j, ?_, hr i j e y hi hj⟩
        rw [List.getElem?_map, List.getElem?_range (mul_add_lt hil hjl)]
        have e1 : (i * sz0 + j) / sz0 = i := by rw [Nat.mul_comm, Nat.mul_add_div hsz, Nat.div_eq_of_lt hjl, Nat.add_zero]
        have e2 : (i * sz0 + j) % sz0 = j := by rw [Nat.mul_comm, Nat.mul_add_mod, Nat.mod_eq_of_lt hjl]
        simp [e1, e2]
      · rw [List.getElem?_map, Option.map_eq_some_iff] at hk
        obtain ⟨q, hq, rfl⟩ := hk
        have hkl : k < es.length * sz0 := by
          rcases Nat.lt_or_ge k (es.length * sz0) with h | h
          · exact h
          · rw [List.getElem?_eq_none (by simpa using h)] at hq; cases hq
        rw [List.getElem?_range hkl] at hq
        injection hq with hq
        subst hq
        have hi : k / sz0 < es.length := Nat.div_lt_of_lt_mul (by rw [Nat.mul_comm]; exact hkl)
        have he := List.getElem?_eq_getElem hi
        have hl := hsz0 _ (List.mem_of_getElem? he)
        have hj : k % sz0 < (es[k / sz0]).length := by rw [hl]; exact Nat.mod_lt _ hsz
        have := (hc (k / sz0) (k % sz0) _ _ he (List.getElem?_eq_getElem hj)).1
        simp only at this
        rw [Nat.mul_comm, Nat.div_add_mod] at this
        exact this
theorem chunks_get (sz : Nat) : ∀ (n : Nat) (l : List T) (i : Nat) (e : List T), (chunks sz n l)[i]? = some e → i < n ∧ e = (l.drop (i * sz)).take sz := by
  intro n
  induction n with
  | zero => intro l i e h; simp [chunks] at h
  | succ n ih =>
    intro l i e h
    cases i with
    | zero => simp [chunks] at h; simp [h]
    | succ i =>
      simp only [chunks, List.getElem?_cons_succ] at h
      obtain ⟨h1, h2⟩ := ih _ _ _ h
      refine ⟨by omega, ?_⟩
      rw [h2, List.drop_drop]
      congr 2
      rw [Nat.add_mul]; omega
theorem chunks_length (sz : Nat) : ∀ (n : Nat) (l : List T), (chunks sz n l).length = n := by
  intro n
  induction n with
  | zero => intro l; rfl
  | succ n ih => intro l; simp [chunks, ih]
theorem chunks_all (sz n : Nat) (l : List T) (h : n * sz ≤ l.length) : ∀ e ∈ chunks sz n l, e.length = sz := by
  intro e he
  obtain ⟨i, hi⟩ := List.getElem?_of_mem he
  obtain ⟨h1, rfl⟩ := chunks_get sz n l i e hi
  have : (i + 1) * sz ≤ n * sz := Nat.mul_le_mul_right _ h1
  rw [Nat.add_mul, Nat.one_mul] at this
  simp
  omega
theorem chunks_one {sz n : Nat} {l : List T} (h : ∀ x ∈ l, x.isAgg = false) : ∀ e, e ∈ chunks sz n l → ∀ x, x ∈ e → x.isAgg = false := by
  intro e he x hx
  obtain ⟨i, hi⟩ := List.getElem?_of_mem he
  obtain ⟨_, rfl⟩ := chunks_get sz n l i e hi
  exact h x (List.mem_of_mem_drop (List.mem_of_mem_take hx))
/-- Cells that stand for a list of trees are those of its chunks. -/
theorem chunks_vrep {st : Nat → Nat → Prop} {sz n : Nat} {ts : List T} {vs : List Value} (hl : vs.length = ts.length) (hn : ts.length = n * sz) (hr : ∀ (i : Nat) (v : Value) (y : T), vs[i]? = some v → ts[i]? = some y → TRep st w v y) : VRep st w sz (chunks sz n ts) vs := by
  refine ⟨by rw [hl, hn, chunks_length], fun i j e y hi hj => ?_⟩
  obtain ⟨h1, rfl⟩ := chunks_get sz n ts i e hi
  rw [List.getElem?_take, List.getElem?_drop] at hj
  split at hj
  · have hlt : i * sz + j < ts.length := (List.getElem?_eq_some_iff.1 hj).1
    exact ⟨vs[i * sz + j]'(by omega), List.getElem?_eq_getElem (by omega), hr _ _ _ (List.getElem?_eq_getElem (by omega)) hj⟩
  · cases hj
/-- The cells of a slice. -/
theorem slice_cells (hi : Inv fx gl G w sg ow) {u : Value} {x : PV} {sz : Nat} {es : List (List T)} (hu : PRep fx G w u x) (h : elemsS sg sz x = some es) (hall : ∀ e ∈ es, e.length = sz) (hsz : 0 < sz) :
    ∃ ad cap vs, u = .slice ad es.length cap ∧ VRep G.st w sz es vs ∧ (∀ e, e ∈ es → ∀ x, x ∈ e → x.isAgg = false) ∧ (es ≠ [] → ∃ b o, ad = some ⟨b, o, none⟩ ∧ ∀ j v, vs[j]? = some v → w.cell? ⟨b, o + j, none⟩ = some v) := by
  unfold elemsS at h
  split at h
  · rename_i id off len sz'
    split at h
    · rename_i hszz
      subst hszz
      split at h
      · rename_i ro cs hs
        split at h
        · rename_i hb
          split at h
          case h_2 => cases h
          rename_i ts hts
          split at h
          · cases h
          rename_i hagg
          injection h with h
          subst h
          have hcs := allT_eq hts
          have hno : ∀ x ∈ ts, x.isAgg = false := fun x hx => by
            cases hq : x.isAgg with
            | false => rfl
            | true => exact absurd (List.any_eq_true.2 ⟨x, hx, hq⟩) hagg
          cases hu with | ls _ _ _ _ cap b ad hmu hcap ha =>
          obtain ⟨c, t, z, e1, e2, e3, _⟩ := hi.blk id b ro cs hmu hs
          have htl : ts.length = len * sz' := by
            have := congrArg List.length hcs
            simp at this
            omega
          refine ⟨some ad, cap, (c.toList.drop off).take (len * sz'), by rw [chunks_length], chunks_vrep (by simp [htl]; omega) htl ?_, chunks_one hno, fun hne => ?_⟩
          · intro i v y hv hy
            rw [List.getElem?_take, List.getElem?_drop] at hv
            split at hv
            · rename_i hlt
              have hy' : cs[off + i]? = some (.t y) := by
                have := congrArg (fun l : List PV => l[i]?) hcs
                simp only [List.getElem?_take, List.getElem?_drop, if_pos hlt, List.getElem?_map, hy, Option.map_some] at this
                exact this
              have := e3 (off + i) v (.t y) (by simpa using hv) hy'
              exact this.t_inv
            · cases hv
          · rcases ha with ha | rfl
            · subst ha; simp [chunks] at hne
            · refine ⟨b, off, rfl, fun j v hv => ?_⟩
              rw [List.getElem?_take, List.getElem?_drop] at hv
              split at hv
              · rw [cell_of_row w b (off + j) c t z e1]
                simpa using hv
              · cases hv
        · cases h
      · cases h
    · cases h
  · obtain ⟨⟨nl, htr⟩, ad, cap, rfl⟩ := elems_rep hu h
    obtain ⟨vs, h1, h2, h3⟩ := htr.row hall hsz
    exact ⟨ad, cap, vs, rfl, h1, h2, h3⟩

/-! ### Bytes -/
theorem unbytes_all {es : List (List T)} {s : List UInt8} (h : unbytes es = some s) : (∀ e ∈ es, e.length = 1) ∧ es.length = s.length ∧ ∃ ns : List Int, ns.length = es.length ∧ s = ns.map (fun n => UInt8.ofNat n.toNat) ∧ ∀ (i : Nat) (n : Int), ns[i]? = some n → es[i]? = some [T.int .u8 n] := by
  induction es generalizing s with
  | nil => simp [unbytes] at h; subst h; exact ⟨by simp, rfl, [], by simp⟩
  | cons e r ih =>
    unfold unbytes at h
    split at h
    · rename_i heq; cases heq
    · rename_i n r' heq
      injection heq with h1 h2
      subst h1 h2
      simp only [Option.map_eq_some_iff] at h
      obtain ⟨s', hs', rfl⟩ := h
      obtain ⟨q1, q2, ns, q3, q4, q5⟩ := ih hs'
      refine ⟨fun e he => ?_, by simp [q2], n :: ns, by simp [q3], by simp [q4], fun i m hm => ?_⟩
      · rcases List.mem_cons.1 he with rfl | he
        · rfl
        · exact q1 e he
      · cases i with
        | zero => simp at hm; subst hm; rfl
        | succ i => simp at hm ⊢; exact q5 i m hm
    · cases h
theorem foldl_push (ns : List Int) : ∀ r : ByteArray, (ns.foldl (fun r n => r.push (UInt8.ofNat n.toNat)) r).data.toList = r.data.toList ++ ns.map (fun n => UInt8.ofNat n.toNat) := by
  induction ns with
  | nil => intro r; simp
  | cons n ns ih => intro r; rw [List.foldl_cons, ih]; simp [ByteArray.push]
theorem run_cvs (hi : Inv fx gl G w sg ow) {src dst e : TypeId} {u : Value} {x : PV} {es : List (List T)} {s : List UInt8} (hs : P.underlying src = some (.slice e)) (he : P.underlying e = some (.int .u8)) (hd : P.underlying dst = some .string)
    (hu : PRep fx G w u x) (h1 : elemsS sg 1 x = some es) (h2 : unbytes es = some s) : ∃ v, (convert src dst u).run P w = .ok v w ∧ PRep fx G w v (.t (.str s)) := by
  obtain ⟨q1, q2, ns, q3, q4, q5⟩ := unbytes_all h2
  obtain ⟨ad, cap, vs, rfl, hv, _, hc⟩ := slice_cells hi hu h1 q1 (by omega)
  rw [run_convert_bytes_string w src dst e ad es.length cap hs he hd]
  have hvs : vs = ns.map (Value.int .u8) := by
    apply List.ext_getElem?
    intro i
    rcases Nat.lt_or_ge i ns.length with hlt | hge
    · have hn := List.getElem?_eq_getElem hlt
      have hes := q5 i _ hn
      obtain ⟨v, e1, e2⟩ := hv.2 i 0 _ _ hes (by rfl)
      rw [Nat.mul_one, Nat.add_zero] at e1
      rw [e1, List.getElem?_map, hn]
      cases e2
      rfl
    · rw [List.getElem?_eq_none (by rw [hv.1]; omega), List.getElem?_eq_none (by simpa using hge)]
  by_cases hne : es = []
  · subst hne
    have hn0 : ns = [] := List.eq_nil_of_length_eq_zero (by simpa using q3)
    subst hn0
    cases ad with
    | none => exact ⟨.string .empty, by rfl, .tstr (by simp [q4])⟩
    | some q =>
      refine ⟨_, run_bytesToString w q 0 cap [] (by rfl), .tstr (by rw [q4]; rfl)⟩
  · obtain ⟨b, o, rfl, hcell⟩ := hc hne
    refine ⟨_, run_bytesToString w ⟨b, o, none⟩ es.length cap ns ?_, .tstr (by rw [foldl_push, q4]; rfl)⟩
    have := run_loadCells_list (P := P) w ⟨b, o, none⟩ vs (fun j v hj => by rw [add_plain]; exact hcell j v hj)
    rw [hv.1, Nat.mul_one] at this
    rw [this, hvs]
end Go.Pi
