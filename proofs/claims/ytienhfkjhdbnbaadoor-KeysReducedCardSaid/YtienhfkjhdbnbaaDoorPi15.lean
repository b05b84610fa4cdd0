/- PI 15: make; one operation of the model is one of the small language. Program independent. -/
import Derived.Below
import Derived.Test.YtienhfkjhdbnbaaDoorPi14
namespace Go.Pi
variable {P : Program} {tb : Tb} {fx : List (Nat × Nat)} {gl : Nat → Option (List T)} {G : Gh} {w : World} {sg : Sg} {ow : Ow} {nt : Nat} {a : Act} {fr : List PV}

theorem run_mks (hi : Inv fx gl G w sg ow) {t el : TypeId} {sz by_ : Nat} {z : List T} {l c : Int} (ht : P.underlying t = some (.slice el)) (hs : tySz P el = some sz) (hby : tyBy P el = some by_) (hz : tyZero P el = some z) (h0 : 0 ≤ l) (hlc : l ≤ c) (hroom : room c.toNat by_ = true)
    (hzl : z.length = sz) (hsz : 0 < sz) : ∃ v w', (Instr.makeSlice t (.int .i64 l) (.int .i64 c)).run P w = .ok v w' ∧
      (l = 0 → ∃ G', Ext G w G' w' ∧ Inv fx gl G' w' sg (ow ++ [0]) ∧ PRep fx G' w' v (.own ow.length sz [])) ∧
      (∃ G', Ext G w G' w' ∧ Inv fx gl G' w' (sg ++ [(false, (List.replicate c.toNat z).flatten.map .t)]) ow ∧ PRep fx G' w' v (.ls sg.length 0 l.toNat sz)) := by
  obtain ⟨inf, zv, hinf, hzz, hzsz, hzr⟩ := tyZero_rep hz
  have hbytes : inf.bytes = by_ := by simp only [tyBy, hinf, Option.map_some, Option.some.injEq] at hby; exact hby
  have hsize : inf.size = sz := by simp only [tySz, hinf, Option.map_some, Option.some.injEq] at hs; exact hs
  obtain ⟨r1, r2⟩ := room_spec hroom
  have hb : (inf.bytes : Int) * c ≤ 281474976710656 := by
    have h1 : ((c.toNat * by_ : Nat) : Int) ≤ 140737488355328 := by omega
    rw [Int.natCast_mul, Int.toNat_of_nonneg (by omega)] at h1
    rw [hbytes, Int.mul_comm]
    omega
  have hrun := run_make (P := P) w t el inf zv ht hinf hzz .i64 .i64 l c h0 hlc hb (by omega)
  rw [hsize] at hrun
  refine ⟨_, _, hrun, fun hl0 => ?_, ?_⟩
  · subst hl0
    obtain ⟨hE, hI⟩ := hi.newOwn (madeCells zv.cells (c.toNat * sz)) el (0, 0) sz c.toNat 0 hsz (by omega) (by rw [size_madeCells]; exact Nat.le_refl _) (fun j _ => by simp)
    have htk : G.tk.length = ow.length := hi.tkl
    have hfr : G.fr.length = ow.length := by rw [hi.fr]
    refine ⟨_, hE, hI, ?_⟩
    refine .own ow.length sz 0 ⟨w.heap.size, 0, none⟩ c.toNat [] ?_ (by simp only; rw [← hfr]; exact getElem?_concat_self _ _) (by simp) (fun _ => ⟨w.heap.size, 0, ?_, rfl, by simp⟩)
    · exact .sl _ _ sz [] (fun _ _ => undef) (by simp) (by simp) (by simp) (by simp) (by simp) (by simp)
    · simp only
      rw [← htk]
      exact getElem?_concat_self _ _
  · have hz' : CRep fx G w (madeCells zv.cells (c.toNat * sz)) ((List.replicate c.toNat z).flatten.map .t) := zeros_crep hzl hsz hzsz hzr
    obtain ⟨hE, hI⟩ := hi.newLocal (madeCells zv.cells (c.toNat * sz)) el _ hz'.1 hz'.2
    refine ⟨_, hE, hI, ?_⟩
    refine .ls sg.length 0 l.toNat sz c.toNat w.heap.size _ ?_ (by omega) (.inr rfl)
    simp only
    rw [← hi.mul]
    exact getElem?_concat_self _ _

/-! ### Calls -/
/-- What the interpreter hands back of a call is what the call hands back. -/
def CalOk (P : Program) (tb : Tb) (gl : Nat → Option (List T)) (C : Cal) : Prop :=
  ∀ (f g : Nat) (args : List PV) (sg : Sg) (ow : Ow) (r : PV) (sg' : Sg) (ow' : Ow), C f args sg ow = some (r, sg', ow') → (f, g) ∈ tb.fx → ∀ (G : Gh) (w : World) (vs : Array Value), Inv tb.fx gl G w sg ow → PRepAll tb.fx G w vs args →
    Calls P g vs w fun e w' => ∃ v G', e = .returned v ∧ Ext G w G' w' ∧ Inv tb.fx gl G' w' sg' ow' ∧ PRep tb.fx G' w' v r
/-- The function g answers as 'xfun' says of k: at once, or by a call that leaves what was there as it was. -/
def XxOk (P : Program) (fx : List (Nat × Nat)) (k g : Nat) : Prop :=
  ∀ (ts : List T) (r : PV) (vs : Array Value) (G : Gh) (w : World) (gl : Nat → Option (List T)), (∀ (g : Nat) (ts : List T) (j : Nat) (x : T), gl g = some ts → ts[j]? = some x → ∃ v, w.cell? ⟨g, j, none⟩ = some v ∧ TRep G.st w v x ∧ G.st g j) → xfun gl k ts = some r → vs.size = ts.length →
    (∀ (i : Nat) (v : Value) (x : T), vs[i]? = some v → ts[i]? = some x → TRep G.st w v x) →
    (∃ v, (callFunc g vs).run P w = .ok (.value v) w ∧ PRep fx G w v r) ∨
    ((callFunc g vs).run P w = .ok (.enter g vs) w ∧ Calls P g vs w fun e w' => ∃ v st', e = .returned v ∧ RowKit.Below w.heap.size w w' ∧ (∀ b o, G.st b o → st' b o) ∧ (∀ b o, st' b o → G.st b o ∨ (w.heap.size ≤ b ∧ b < w'.heap.size)) ∧ PRep fx { G with st := st' } w' v r)
/-- The functions that are named have bodies; those without one, and those by contract, answer as 'xfun' says. -/
structure TbOk (P : Program) (tb : Tb) : Prop where
  fx : ∀ k g, (k, g) ∈ tb.fx → ∃ fn c, P.funcs[g]? = some fn ∧ fn.body = some c ∧ (fn.name == "runtime.NumGoroutine") = false
  xx : ∀ k g, (k, g) ∈ tb.xx → XxOk P tb.fx k g
theorem run_callFunc {g : Nat} {fn : Func} {c : Code} (hf : P.funcs[g]? = some fn) (hb : fn.body = some c) (hn : (fn.name == "runtime.NumGoroutine") = false) (vs : Array Value) (w : World) : (callFunc g vs).run P w = .ok (.enter g vs) w := by
  have hn' : ¬ fn.name = "runtime.NumGoroutine" := by simpa using hn
  simp [callFunc, hf, hb, hn']

/-- A call by itself: the callee sees trees alone. -/
theorem pure_call {C : Cal} (hC : CalOk P tb gl C) (hi : Inv tb.fx gl G w sg ow) {f g : Nat} (hfg : (f, g) ∈ tb.fx) {ts : List T} {r : PV} {sg' : Sg} {ow' : Ow} {vs : Array Value} (h : C f (ts.map .t) [] [] = some (r, sg', ow')) (hl : vs.size = ts.length)
    (hr : ∀ (i : Nat) (v : Value) (x : T), vs[i]? = some v → ts[i]? = some x → TRep G.st w v x) :
    Calls P g vs w fun e w' => ∃ v Gc, e = .returned v ∧ Ext ⟨[], [], [], G.st, w.heap.size⟩ w Gc w' ∧ Inv tb.fx gl Gc w' sg' ow' ∧ PRep tb.fx Gc w' v r := by
  have hI : Inv tb.fx gl ⟨[], [], [], G.st, w.heap.size⟩ w [] [] := ⟨rfl, rfl, by simp, by simp, rfl, by simp, by simp, by simp, hi.stlt, hi.glob, Nat.le_refl _⟩
  refine hC f g _ [] [] r sg' ow' h hfg ⟨[], [], [], G.st, w.heap.size⟩ w vs hI ⟨by simpa using hl, fun i v x hv hx => ?_⟩
  simp only [List.getElem?_map, Option.map_eq_some_iff] at hx
  obtain ⟨q, hq, rfl⟩ := hx
  exact .t (hr i v q hv hq)
/-- Behind a call by itself: the caller's store lies as it did; what is new may bear trees; at most one owned slice is taken over. -/
theorem after_call (hi : Inv fx gl G w sg ow) {Gc : Gh} {w' : World} {sg' : Sg} {ow' : Ow} (hE : Ext ⟨[], [], [], G.st, w.heap.size⟩ w Gc w') (hI : Inv fx gl Gc w' sg' ow') :
    let st' := fun b o => Gc.st b o ∨ (b < w'.heap.size ∧ ∃ i : Nat, Gc.mu[i]? = some b)
    (Ext G w { G with st := st' } w' ∧ Inv fx gl { G with st := st' } w' sg ow) ∧
    ∀ (k b o sz cap n : Nat), Gc.tk[k]? = some (b, o, sz, cap) → ow'[k]? = some n → Ext G w ⟨G.mu, G.tk ++ [(b, o, sz, cap)], G.fr ++ [n], st', G.bs⟩ w' ∧ Inv fx gl ⟨G.mu, G.tk ++ [(b, o, sz, cap)], G.fr ++ [n], st', G.bs⟩ w' sg (ow ++ [n]) := by
  intro st'
  have hkeep : ∀ b, b < w.heap.size → w'.heap[b]? = w.heap[b]? := by
    intro b hb
    rcases hE.keep b hb (by simp) (by simp) with h | ⟨h, _⟩
    · exact h
    · simp only at h; omega
  have hmunew : ∀ (i b : Nat), Gc.mu[i]? = some b → w.heap.size ≤ b := fun i b h => by
    rcases hE.mu_new h with h | h
    · simp at h
    · exact h
  have hstn : ∀ b o, st' b o → G.st b o ∨ w.heap.size ≤ b := by
    intro b o hs
    rcases hs with hs | ⟨_, i, hi'⟩
    · rcases hE.stn b o hs with h | h | ⟨k, x, h⟩ | ⟨i, h⟩
      · exact .inl h
      · exact .inr h
      · simp at h
      · simp at h
    · exact .inr (hmunew i b hi')
  have hst : ∀ b o, G.st b o → st' b o := fun b o h => .inl (hE.st b o h)
  have hcell : ∀ b o, G.st b o → w'.cell? ⟨b, o, none⟩ = w.cell? ⟨b, o, none⟩ := hE.cell
  have hstlt : ∀ b o, st' b o → b < w'.heap.size := fun b o h => by
    rcases h with h | ⟨h, _⟩
    · exact hI.stlt b o h
    · exact h
  have hext0 : Ext G w { G with st := st' } w' := ⟨⟨[], by simp⟩, fun k n h => ⟨n, h, Nat.le_refl _, fun _ => rfl⟩, fun k b x h => .inl ⟨x, h⟩, hst, fun b o h => by
    rcases hstn b o h with h | h
    · exact .inl h
    · exact .inr (.inl h), hcell, fun b hb _ _ => .inl (hkeep b hb), rfl, hE.size, hE.os, hE.tape, hE.output⟩
  have hblk : ∀ (G1 : Gh), G1.mu = G.mu → G1.st = st' → Ext G w G1 w' → ∀ (i b : Nat) (ro : Bool) (cs : List PV), G1.mu[i]? = some b → sg[i]? = some (ro, cs) →
    ∃ (c : Array Value) (t : TypeId) (z : Nat × Nat), w'.heap[b]? = some (.cells c t z) ∧ c.size = cs.length ∧ (∀ (j : Nat) (v : Value) (x : PV), c[j]? = some v → cs[j]? = some x → PRep fx G1 w' v x) ∧
      (ro = false → (∀ o, o < c.size → ¬ (z.1 ≤ o ∧ o < z.2)) ∧ ∀ o, ¬ G1.st b o) := by
    intro G1 hmu hst1 hx i b ro cs hi' hs
    rw [hmu] at hi'
    obtain ⟨c, t, z, e1, e2, e3, e4⟩ := hi.blk i b ro cs hi' hs
    have hlt := heap_lt e1
    refine ⟨c, t, z, by rw [hkeep b hlt]; exact e1, e2, fun j v x hv hx' => hx.prep (e3 j v x hv hx'), fun hro => ⟨(e4 hro).1, fun o hs => ?_⟩⟩
    rw [hst1] at hs
    rcases hstn b o hs with h | h
    · exact (e4 hro).2 o h
    · omega
  have htok : ∀ (k b o sz cap n : Nat), G.tk[k]? = some (b, o, sz, cap) → ow[k]? = some n → 0 < sz ∧ n ≤ cap ∧
    ∃ (c : Array Value) (t : TypeId) (z : Nat × Nat), w'.heap[b]? = some (.cells c t z) ∧ o + cap * sz ≤ c.size ∧ (∀ j, j < c.size → ¬ (z.1 ≤ j ∧ j < z.2)) ∧ ∀ j, o + n * sz ≤ j → ¬ st' b j := by
    intro k b o sz cap n hk hn
    obtain ⟨h1, h2, c, t, z, e1, e2, e3, e4⟩ := hi.tok k b o sz cap n hk hn
    have hlt := heap_lt e1
    refine ⟨h1, h2, c, t, z, by rw [hkeep b hlt]; exact e1, e2, e3, fun j hj hs => ?_⟩
    rcases hstn b j hs with h | h
    · exact e4 j hj h
    · omega
  have hglob : ∀ (G1 : Gh), G1.st = st' → Ext G w G1 w' → ∀ (g : Nat) (ts : List T) (j : Nat) (x : T), gl g = some ts → ts[j]? = some x → ∃ v, w'.cell? ⟨g, j, none⟩ = some v ∧ TRep G1.st w' v x ∧ G1.st g j := by
    intro G1 hst1 hx g ts j x hg hx'
    obtain ⟨v, e1, e2, e3⟩ := hi.glob g ts j x hg hx'
    exact ⟨v, (hcell _ _ e3).trans e1, hx.trep e2, by rw [hst1]; exact hst _ _ e3⟩
  refine ⟨⟨hext0, ⟨hi.fr, hi.mul, hi.muinj, hblk _ rfl rfl hext0, hi.tkl, htok, hi.tkmu, hi.tkinj, hstlt, hglob _ rfl hext0, Nat.le_trans hi.bsz hE.size⟩⟩, fun k b o sz cap n hk hn => ?_⟩
  have hbnew : w.heap.size ≤ b := by
    rcases hE.tkb k b _ hk with ⟨y, h⟩ | h
    · simp at h
    · exact h
  have hkl : G.tk.length = G.fr.length := by rw [hi.tkl, hi.fr]
  have hext1 : Ext G w ⟨G.mu, G.tk ++ [(b, o, sz, cap)], G.fr ++ [n], st', G.bs⟩ w' := ⟨⟨[], by simp⟩, fun k m hk => ⟨m, getElem?_concat_left _ _ _ _ hk, Nat.le_refl _, fun _ => by
      have hlt : k < G.tk.length := by rw [hkl]; exact (List.getElem?_eq_some_iff.1 hk).1
      exact List.getElem?_append_left hlt⟩, fun k b' x hk => by
      rcases getElem?_concat _ _ _ _ hk with hk | ⟨_, hk⟩
      · exact .inl ⟨x, hk⟩
      · injection hk with hk _
        exact .inr (by omega), hst, fun b o h => by
    rcases hstn b o h with h | h
    · exact .inl h
    · exact .inr (.inl h), hcell, fun b hb _ _ => .inl (hkeep b hb), rfl, hE.size, hE.os, hE.tape, hE.output⟩
  refine ⟨hext1, ⟨by simp [hi.fr], hi.mul, hi.muinj, hblk _ rfl rfl hext1, by simp [hi.tkl], ?_, ?_, ?_, hstlt, hglob _ rfl hext1, Nat.le_trans hi.bsz hE.size⟩⟩
  · intro k' b' o' sz' cap' n' hk' hn'
    rcases getElem?_concat _ _ _ _ hk' with h1 | ⟨h1, h2⟩ <;> rcases getElem?_concat _ _ _ _ hn' with h3 | ⟨h3, h4⟩
    · exact htok k' b' o' sz' cap' n' h1 h3
    · have := (List.getElem?_eq_some_iff.1 h1).1
      rw [hi.tkl] at this; omega
    · have := (List.getElem?_eq_some_iff.1 h3).1
      rw [hi.tkl] at h1; omega
    · injection h2 with q1 q2
      injection q2 with q2 q3
      injection q3 with q3 q4
      subst q1 q2 q3 q4 h4
      obtain ⟨p1, p2, c, t, z, e1, e2, e3, e4⟩ := hI.tok k b' o' sz' cap' n' hk hn
      refine ⟨p1, p2, c, t, z, e1, e2, e3, fun j hj hs => ?_⟩
      rcases hs with hs | ⟨_, i, hi'⟩
      · exact e4 j hj hs
      · exact hI.tkmu k b' _ i hk hi'
  · intro k' b' x i hk' hi'
    rcases getElem?_concat _ _ _ _ hk' with h1 | ⟨_, h2⟩
    · exact hi.tkmu k' b' x i h1 hi'
    · injection h2 with h2 _
      have := hi.mu_lt hi'
      omega
  · intro k1 k2 b' x y h1 h2
    rcases getElem?_concat _ _ _ _ h1 with p1 | ⟨p1, p2⟩ <;> rcases getElem?_concat _ _ _ _ h2 with p3 | ⟨p3, p4⟩
    · exact hi.tkinj k1 k2 b' x y p1 p3
    · injection p4 with p4 _
      have := hi.tk_lt p1; omega
    · injection p2 with p2 _
      have := hi.tk_lt p3; omega
    · omega
/-- Behind a call by contract. -/
theorem after_below (hi : Inv fx gl G w sg ow) {w' : World} {st' : Nat → Nat → Prop} (hb : RowKit.Below w.heap.size w w') (h1 : ∀ b o, G.st b o → st' b o) (h2 : ∀ b o, st' b o → G.st b o ∨ (w.heap.size ≤ b ∧ b < w'.heap.size)) {v : Value} {r : PV} (hp : PRep fx { G with st := st' } w' v r) :
    ∃ G', Ext G w G' w' ∧ Inv fx gl G' w' sg ow ∧ PRep fx G' w' v r := by
  have hcell : ∀ b o, G.st b o → w'.cell? ⟨b, o, none⟩ = w.cell? ⟨b, o, none⟩ := fun b o h => hb.cell (hi.stlt b o h)
  have hE : Ext ⟨[], [], [], G.st, w.heap.size⟩ w ⟨[], [], [], st', w.heap.size⟩ w' := ⟨⟨[], by simp⟩, by simp, by simp, h1, fun b o h => by
    rcases h2 b o h with h | h
    · exact .inl h
    · exact .inr (.inl h.1), hcell, fun b hb' _ _ => .inl (hb.block b hb'), rfl, hb.size, hb.os, hb.tape, hb.output⟩
  have hstlt : ∀ b o, st' b o → b < w'.heap.size := fun b o h => by
    rcases h2 b o h with h | h
    · exact Nat.lt_of_lt_of_le (hi.stlt b o h) hb.size
    · exact h.2
  have hI : Inv fx gl ⟨[], [], [], st', w.heap.size⟩ w' [] [] := ⟨rfl, rfl, by simp, by simp, rfl, by simp, by simp, by simp, hstlt, fun g ts j x hg hx => by
    obtain ⟨v, e1, e2, e3⟩ := hi.glob g ts j x hg hx
    exact ⟨v, (hcell _ _ e3).trans e1, hE.trep e2, h1 _ _ e3⟩, hb.size⟩
  obtain ⟨⟨q1, q2⟩, _⟩ := after_call hi hE hI
  refine ⟨_, q1, q2, ?_⟩
  have hx : Ext { G with st := st' } w' { G with st := fun b o => st' b o ∨ (b < w'.heap.size ∧ ∃ i : Nat, ([] : List Nat)[i]? = some b) } w' := ⟨⟨[], by simp⟩, fun k n h => ⟨n, h, Nat.le_refl _, fun _ => rfl⟩, fun k b x h => .inl ⟨x, h⟩, fun b o h => .inl h, fun b o h => by
    rcases h with h | ⟨_, i, h⟩
    · exact .inl h
    · simp at h, fun _ _ _ => rfl, fun _ _ _ _ => .inl rfl, rfl, Nat.le_refl _, rfl, rfl, rfl⟩
  exact hx.prep hp
end Go.Pi
