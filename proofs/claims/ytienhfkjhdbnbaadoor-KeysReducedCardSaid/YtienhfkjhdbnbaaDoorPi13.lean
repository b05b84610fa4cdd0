/- PI 13: bytes of a string, make, append. Program independent. -/
import Derived.Test.YtienhfkjhdbnbaaDoorPi12
import Derived.Laws.MakeOwn
namespace Go.Pi
variable {P : Program} {tb : Tb} {fx : List (Nat × Nat)} {gl : Nat → Option (List T)} {G : Gh} {w : World} {sg : Sg} {ow : Ow} {nt : Nat} {a : Act} {fr : List PV}

theorem Ext.drew_l {G' : Gh} {w' : World} (hi : Inv fx gl G w sg ow) (h : Ext G w.drew G' w') : Ext G w G' w' := hi.drew.1.trans h
theorem bytesT_length (s : List UInt8) : (bytesT s).length = s.length := by simp [bytesT]
theorem bytesT_all (s : List UInt8) : ∀ e ∈ bytesT s, e.length = 1 := by
  intro e he
  simp only [bytesT, List.mem_map] at he
  obtain ⟨b, _, rfl⟩ := he
  rfl
theorem bytesT_one (s : List UInt8) : ∀ e, e ∈ bytesT s → ∀ x, x ∈ e → x.isAgg = false := by
  intro e he x hx
  simp only [bytesT, List.mem_map] at he
  obtain ⟨b, _, rfl⟩ := he
  simp only [List.mem_singleton] at hx
  subst hx
  rfl
theorem bytesT_vrep (st : Nat → Nat → Prop) (w : World) (s : List UInt8) : VRep st w 1 (bytesT s) (s.map fun b => Value.int .u8 b.toNat) := by
  refine ⟨by simp [bytesT], fun i j e y hi hj => ?_⟩
  simp only [bytesT, List.getElem?_map, Option.map_eq_some_iff] at hi
  obtain ⟨b, hb, rfl⟩ := hi
  have hj0 : j = 0 := by have := (List.getElem?_eq_some_iff.1 hj).1; simpa using this
  subst hj0
  simp only [List.getElem?_cons_zero, Option.some.injEq] at hj
  subst hj
  exact ⟨.int .u8 b.toNat, by simp [hb], .int _ _⟩
/-- '[]byte(s)'. -/
theorem run_cvb (hi : Inv fx gl G w sg ow) {src dst e : TypeId} {u : Value} {x : List UInt8} (hs : P.underlying src = some .string) (hd : P.underlying dst = some (.slice e)) (he : P.underlying e = some (.int .u8)) (hu : PRep fx G w u (.t (.str x))) :
    ∃ v w', (convert src dst u).run P w = .ok v w' ∧ (∃ G', Ext G w G' w' ∧ Inv fx gl G' w' sg (ow ++ [x.length]) ∧ PRep fx G' w' v (.own ow.length 1 (bytesT x))) ∧ ∃ G', Ext G w G' w' ∧ Inv fx gl G' w' sg ow ∧ PRep fx G' w' v (.t (.sl false (bytesT x))) := by
  obtain ⟨s, rfl, rfl⟩ := hu.str_inv
  have hrun := run_bytes_of_string (P := P) w src dst e s hs hd he
  have hge := grownCap_ge w s.size 0 e
  have hsz : s.size = s.data.toList.length := Lib.size_eq s
  obtain ⟨hE0, hI0⟩ := hi.drew
  have hbl : (bytesRow s (grownCap w s.size 0 e)).size = grownCap w s.size 0 e := by simp [bytesRow]; omega
  have hlen : (bytesT s.data.toList).length = s.size := by rw [bytesT_length, hsz]
  have hrow : ∀ (st : Nat → Nat → Prop), (∀ j, j < s.size → st w.heap.size j) → TRep st (w.drew.alloc (.cells (bytesRow s (grownCap w s.size 0 e)) e ((bytesRow s (grownCap w s.size 0 e)).size, (bytesRow s (grownCap w s.size 0 e)).size + 1)))
      (.slice (some ⟨w.heap.size, 0, none⟩) (bytesT s.data.toList).length (grownCap w s.size 0 e)) (.sl false (bytesT s.data.toList)) := by
    intro st hst
    refine TRep.ofRow (sz := 1) (vs := s.data.toList.map fun b => Value.int .u8 b.toNat) (bytesT_all _) (bytesT_one _) (by omega) (bytesT_vrep _ _ _) (fun j v hv => ?_) (fun j hj => by rw [Nat.zero_add]; exact hst j (by omega))
    have hj : j < s.size := by rw [hsz]; simpa using (List.getElem?_eq_some_iff.1 hv).1
    have hnew : (w.drew.alloc (.cells (bytesRow s (grownCap w s.size 0 e)) e ((bytesRow s (grownCap w s.size 0 e)).size, (bytesRow s (grownCap w s.size 0 e)).size + 1))).heap[w.heap.size]? = some _ := heap_alloc_new w.drew _
    rw [cell_of_row _ w.heap.size (0 + j) _ _ _ hnew, Nat.zero_add]
    have hj' : j < (s.data.map (fun b => Value.int .u8 b.toNat)).size := by simpa using hj
    rw [bytesRow, Array.getElem?_append_left hj']
    simpa using hv
  refine ⟨_, _, hrun, ?_, ?_⟩
  · obtain ⟨h1, h2⟩ := hI0.newOwn (bytesRow s (grownCap w s.size 0 e)) e ((bytesRow s (grownCap w s.size 0 e)).size, (bytesRow s (grownCap w s.size 0 e)).size + 1) 1 (grownCap w s.size 0 e) s.data.toList.length (by omega) (by omega) (by omega) (fun j hj => by simp; omega)
    refine ⟨_, h1.drew_l hi, h2, ?_⟩
    rw [show Value.slice (some ⟨w.heap.size, 0, none⟩) s.size (grownCap w s.size 0 e) = Value.slice (some ⟨w.heap.size, 0, none⟩) (bytesT s.data.toList).length (grownCap w s.size 0 e) by rw [hlen]]
    have htk : G.tk.length = ow.length := hi.tkl
    have hfr : G.fr.length = ow.length := by rw [hi.fr]
    refine .own ow.length 1 s.data.toList.length _ _ _ (hrow _ fun j hj => .inr ⟨rfl, by omega⟩) (by simp only; rw [← hfr]; exact getElem?_concat_self _ _) (by omega) (fun _ => ⟨w.heap.size, 0, ?_, rfl, bytesT_all _⟩)
    simp only
    rw [← htk]
    exact getElem?_concat_self _ _
  · obtain ⟨h1, h2⟩ := hI0.newTree (bytesRow s (grownCap w s.size 0 e)) e ((bytesRow s (grownCap w s.size 0 e)).size, (bytesRow s (grownCap w s.size 0 e)).size + 1) s.size
    refine ⟨_, h1.drew_l hi, h2, ?_⟩
    rw [show Value.slice (some ⟨w.heap.size, 0, none⟩) s.size (grownCap w s.size 0 e) = Value.slice (some ⟨w.heap.size, 0, none⟩) (bytesT s.data.toList).length (grownCap w s.size 0 e) by rw [hlen]]
    exact .t (hrow _ fun j hj => .inr ⟨rfl, hj⟩)

/-- '[]byte(..)' of a literal of bytes: the row is marked. -/
theorem run_cvm (hi : Inv fx gl G w sg ow) {src e : TypeId} {u : Value} {es : List (List T)} (hs : P.underlying src = some (.slice e)) (he : P.underlying e = some (.int .u8)) (hu : PRep fx G w u (.lit es)) :
    ∃ w', (convert src src u).run P w = .ok u w' ∧ Ext G w G w' ∧ Inv fx gl G w' sg ow ∧ PRep fx G w' u (.cp es) := by
  cases hu with | lit b _ ht hb hmu htk hh =>
  obtain ⟨c, t, z, hc⟩ := hh
  have hlt := heap_lt hc
  have hshape : w.shape? b = some (t, c.size) := by simp [World.shape?, hc]
  let z' : Nat × Nat := if z.1 == z.2 then (c.size, c.size + 1) else (min z.1 c.size, max z.2 (c.size + 1))
  have hfz : w.freeze ⟨b, c.size, none⟩ 1 = putBlock w b (.cells c t z') := by
    unfold World.freeze
    rw [if_neg (by decide)]
    simp only [putBlock, World.mk.injEq, and_true]
    refine Array.ext_getElem? fun i => ?_
    rw [Array.getElem?_modify]
    by_cases hbi : b = i
    · subst hbi
      have hb' : w.heap[b] = .cells c t z := (Array.getElem?_eq_some_iff.1 hc).2
      simp [hlt, hb', z']
    · rw [if_neg hbi, Array.getElem?_setIfInBounds_ne hbi]
  have hrun : (convert src src (.slice (some ⟨b, 0, none⟩) es.length es.length)).run P w = .ok (.slice (some ⟨b, 0, none⟩) es.length es.length) (putBlock w b (.cells c t z')) := by
    rw [← hfz]
    simp [convert, run_underlying hs, run_underlying he, markStringish, hshape]
  have hcell : ∀ a, (putBlock w b (.cells c t z')).cell? a = w.cell? a := by
    intro a
    unfold World.cell?
    by_cases hab : a.block = b
    · rw [hab, putBlock_same w b _ hlt, hc]
    · rw [putBlock_other w b _ a.block hab]
  have hE : Ext G w G (putBlock w b (.cells c t z')) := ⟨⟨[], by simp⟩, fun k n h => ⟨n, h, Nat.le_refl _, fun _ => rfl⟩, fun k b x h => .inl ⟨x, h⟩, fun _ _ h => h, fun _ _ h => .inl h, fun _ _ _ => hcell _, fun b' hb' _ _ => by
    by_cases hbb : b' = b
    · subst hbb
      exact .inr ⟨hb, c, t, z, z', hc, putBlock_same w b' _ hlt⟩
    · exact .inl (putBlock_other w b _ b' hbb), rfl, by simp [putBlock], rfl, rfl, rfl⟩
  refine ⟨_, hrun, hE, ⟨hi.fr, hi.mul, hi.muinj, ?_, hi.tkl, ?_, hi.tkmu, hi.tkinj, ?_, ?_, by simpa [putBlock] using hi.bsz⟩, .cp _ _ (hE.trep ht)⟩
  · intro i b' ro cs hi' hs'
    obtain ⟨c1, t1, z1, f1, f2, f3, f4⟩ := hi.blk i b' ro cs hi' hs'
    have hne : b' ≠ b := fun e => hmu i (e ▸ hi')
    exact ⟨c1, t1, z1, by rw [putBlock_other w b _ b' hne]; exact f1, f2, fun j v x hv hx => hE.prep (f3 j v x hv hx), f4⟩
  · intro k b' o sz cap n hk hn
    have hne : b' ≠ b := fun e => htk k _ (e ▸ hk)
    rw [putBlock_other w b _ b' hne]
    exact hi.tok k b' o sz cap n hk hn
  · intro b' o hs'
    have := hi.stlt b' o hs'
    simpa [putBlock] using this
  · intro g ts j x hg hx
    obtain ⟨v, e1, e2, e3⟩ := hi.glob g ts j x hg hx
    exact ⟨v, (hcell _).trans e1, hE.trep e2, e3⟩
end Go.Pi
