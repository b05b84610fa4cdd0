/- PI 15: make; one operation of the model is one of the small language. Program independent. -/
import Derived.Below
import Derived.Test.YtbkphlhmbllbiaaDoorPi14
namespace Go.Pi
variable {P : Program} {tb : Tb} {fx : List (Nat × Nat)} {gl : Nat → Option (List T)} {G : Gh} {w : World} {sg : Sg} {ow : Ow} {nt : Nat} {a : Act} {fr : List PV}

theorem run_mks (hi : Inv fx gl G w sg ow) {t el : TypeId} {sz by_ : Nat} {z : List T} {l c : Int} (ht : P.underlying t = some (.slice el)) (hs : tySz P el = some sz) (hby : tyBy P el = some by_) (hz : tyZero P el = some z) (h0 : 0 ≤ l) (hlc : l ≤ c) (hroom : room c.toNat by_ = true)
    (hzl : z.length = sz) (hsz : 0 < sz) : ∃ v w', (Instr.makeSlice t (.int .i64 l) (.int .i64 c)).run P w = .ok v w' ∧
      (l = 0 → ∃ G', Ext G w G' w' ∧ Inv fx gl G' w' sg (ow ++ [0]) ∧ PRep fx G' w' v (.own ow.length sz [])) ∧
      (∃ G', Ext G w G' w' ∧ Inv fx gl G' w' (sg ++ [(false, (List.replicate c.toNat z).flatten.map .t)]) ow ∧ PRep fx G' w' v (.ls sg.length 0 l.toNat sz)) := by
  obtain ⟨inf, zv, hinf, hzz, hzsz, hzr⟩ := tyZero_rep hz
  have hbytes : inf.bytes = by_ := by simp only [tyBy, hinf, Option.map_some, Option.some.injEq] at hby; exact hby
  have hsize : inf.size = sz := by simp only [tySz, hinf, Option.map_some, Option.some.injEq] at hs; exact hs
  obtain ⟨r1, r2⟩ := room_spec hroom
  have hb : (inf.bytes : Int) * c ≤ 281474976710656 := by
    have h1 : ((c.toNat * by_ : Nat) : Int) ≤ 140737488355328 := by omega
    rw [Int.natCast_mul, Int.toNat_of_nonneg (by omega)] at h1
    rw [hbytes, Int.mul_comm]
    omega
  have hrun := run_make (P := P) w t el inf zv ht hinf hzz .i64 .i64 l c h0 hlc hb (by omega)
  rw [hsize] at hrun
  refine ⟨_, _, hrun, fun hl0 => ?_, ?_⟩
  · subst hl0
    obtain ⟨hE, hI⟩ := hi.newOwn (madeCells zv.cells (c.toNat * sz)) el (0, 0) sz c.toNat 0 hsz (by omega) (by rw [size_madeCells]; exact Nat.le_refl _) (fun j _ => by simp)
    have htk : G.tk.length = ow.length := hi.tkl
    have hfr : G.fr.length = ow.length := by rw [hi.fr]
    refine ⟨_, hE, hI, ?_⟩
    refine .own ow.length sz 0 ⟨w.heap.size, 0, none⟩ c.toNat [] ?_ (by simp only; rw [← hfr]; exact getElem?_concat_self _ _) (by simp) (fun _ => ⟨w.heap.size, 0, ?_, rfl, by simp⟩)
    · exact .sl _ _ sz [] (fun _ _ => undef) (by simp) (by simp) (by simp) (by simp) (by simp) (by simp)
    · simp only
      rw [← htk]
      exact getElem?_concat_self _ _
  · have hz' : CRep fx G w (madeCells zv.cells (c.toNat * sz)) ((List.replicate c.toNat z).flatten.map .t) := zeros_crep hzl hsz hzsz hzr
    obtain ⟨hE, hI⟩ := hi.newLocal (madeCells zv.cells (c.toNat * sz)) el _ hz'.1 hz'.2
    refine ⟨_, hE, hI, ?_⟩
    refine .ls sg.length 0 l.toNat sz c.toNat w.heap.size _ ?_ (by omega) (.inr rfl)
    simp only
    rw [← hi.mul]
    exact getElem?_concat_self _ _

/-! ### Calls -/
/-- What the interpreter hands back of a call is what the call hands back. -/
def CalOk (P : Program) (tb : Tb) (gl : Nat → Option (List T)) (C : Cal) : Prop :=
  ∀ (f g : Nat) (args : List PV) (sg : Sg) (ow : Ow) (r : PV) (sg' : Sg) (ow' : Ow), C f args sg ow = some (r, sg', ow') → (f, g) ∈ tb.fx → ∀ (G : Gh) (w : World) (vs : Array Value), Inv tb.fx gl G w sg ow → PRepAll tb.fx G w vs args →
    Calls P g vs w fun e w' => ∃ v G', e = .returned v ∧ Ext G w G' w' ∧ Inv tb.fx gl G' w' sg' ow' ∧ PRep tb.fx G' w' v r
/-- The function g answers as 'xfun' says of k: at once, or by a call that leaves what was there as it was. -/
def XxOk (P : Program) (fx : List (Nat × Nat)) (k g : Nat) : Prop :=
  ∀ (ts : List T) (r : PV) (vs : Array Value) (G : Gh) (w : World) (gl : Nat → Option (List T)), (∀ (g : Nat) (ts : List T) (j : Nat) (x : T), gl g = some ts → ts[j]? = some x → ∃ v, w.cell? ⟨g, j, none⟩ = some v ∧ TRep G.st w v x ∧ G.st g j) → xfun gl k ts = some r → vs.size = ts.length →
    (∀ (i : Nat) (v : Value) (x : T), vs[i]? = some v → ts[i]? = some x → TRep G.st w v x) →
    (∃ v, (callFunc g vs).run P w = .ok (.value v) w ∧ PRep fx G w v r) ∨
    ((callFunc g vs).run P w = .ok (.enter g vs) w ∧ Calls P g vs w fun e w' => ∃ v st', e = .returned v ∧ RowKit.Below w.heap.size w w' ∧ (∀ b o, G.st b o → st' b o) ∧ (∀ b o, st' b o → G.st b o ∨ (w.heap.size ≤ b ∧ b < w'.heap.size)) ∧ PRep fx { G with st := st' } w' v r)
/-- The functions that are named have bodies; those without one, and those by contract, answer as 'xfun' says. -/
structure TbOk (P : Program) (tb : Tb) : Prop where
  fx : ∀ k g, (k, g) ∈ tb.fx → ∃ fn c, P.funcs[g]? = some fn ∧ fn.body = some c ∧ (fn.name == "runtime.NumGoroutine") = false
  xx : ∀ k g, (k, g) ∈ tb.xx → XxOk P tb.fx k g
theorem run_callFunc {g : Nat} {fn : Func} {c : Code} (hf : P.funcs[g]? = some fn) (hb : fn.body = some c) (hn : (fn.name == "runtime.NumGoroutine") = false) (vs : Array Value) (w : World) : (callFunc g vs).run P w = .ok (.enter g vs) w := by
  have hn' : ¬ fn.name = "runtime.NumGoroutine" := by simpa using hn
  simp [callFunc, hf, hb, hn']

/-- A call by itself: the callee sees trees alone. -/
theorem pure_call {C : Cal} (hC : CalOk P tb gl C) (hi : Inv tb.fx gl G w sg ow) {f g : Nat} (hfg : (f, g) ∈ tb.fx) {ts : List T} {r : PV} {sg' : Sg} {ow' : Ow} {vs : Array Value} (h : C f (ts.map .t) [] [] = some (r, sg', ow')) (hl : vs.size = ts.length)
    (hr : ∀ (i : Nat) (v : Value) (x : T), vs[i]? = some v → ts[i]? = some x → TRep G.st w v x) :
    Calls P g vs w fun e w' => ∃ v Gc, e = .returned v ∧ Ext ⟨[], [], [], G.st, w.heap.size⟩ w Gc w' ∧ Inv tb.fx gl Gc w' sg' ow' ∧ PRep tb.fx Gc w' v r := by
  have hI : Inv tb.fx gl ⟨[], [], [], G.st, w.heap.size⟩ w [] [] := ⟨rfl, rfl, by simp, by simp, rfl, by simp, by simp, by simp, hi.stlt, hi.glob, Nat.le_refl _⟩
  refine hC f g _ [] [] r sg' ow' h hfg ⟨[], [], [], G.st, w.heap.size⟩ w vs hI ⟨by simpa using hl, fun i v x hv hx => ?_⟩
  simp only [List.getElem?_map, Option.map_eq_some_iff] at hx
  obtain ⟨q, hq, rfl⟩ := hx
  exact .t (hr i v q hv hq)
/-- Behind a call by itself: the caller's store lies as it did; what is new may bear trees; at most one owned slice is taken over. -/
theorem after_call (hi : Inv fx gl G w sg ow) {Gc : Gh} {w' : World} {sg' : Sg} {ow' : Ow} (hE : Ext ⟨[], [], [], G.st, w.heap.size⟩ w Gc w') (hI : Inv fx gl Gc w' sg' ow') :
    let st' := fun b o => Gc.st b o ∨ (b < w'.heap.size ∧ ∃ i : Nat, Gc.mu[i]? = some b)
    (Ext G w { G with st := st' } w' ∧ Inv fx gl { G with st := st' } w' sg ow) ∧
    ∀ (k b o sz cap n : Nat), Gc.tk[k]? = some (b, o, sz, cap) → ow'[k]? = some n → Ext G w ⟨G.mu, G.tk ++ [(b, o, sz, cap)], G.fr ++ [n], st', G.bs⟩ w' ∧ Inv fx gl ⟨G.mu, G.tk ++ [(b, o, sz, cap)], G.fr ++ [n], st', G.bs⟩ w' sg (ow ++ [n]) := by
  intro st'
  have hkeep : ∀ b, b < w.heap.size → w'.heap[b]? = w.heap[b]? := by
    intro b hb
    rcases hE.keep b hb (by simp) (by simp) with h | ⟨h, _⟩
    · exact h
    · simp only at h; omega
  have hmunew : ∀ (i b : Nat), Gc.mu[i]? = some b → w.heap.size ≤ b := fun i b h => by
    rcases hE.mu_new h with h | h
    · simp at h
    · exact h
  have hstn : ∀ b o, st' b o → G.st b o ∨ w.heap.size ≤ b := by
    intro b o hs
    rcases hs with hs | ⟨_, i, hi'⟩
    · rcases hE.stn b o hs with h | h | ⟨k, x, h⟩ | ⟨i, h⟩
      · exact .inl h
      · exact .inr h
      · simp at h
      · simp at h
    · exact .inr (hmunew i b hi')
  have hst : ∀ b o, G.st b o → st' b o := fun b o h => .inl (hE.st b o h)
  have hcell : ∀ b o, G.st b o → w'.cell? ⟨b, o, none⟩ = w.cell? ⟨b, o, none⟩ := hE.cell
  have hstlt : ∀ b o, st' b o → b < w'.heap.size := fun b o h => by
    rcases h with h | ⟨h, _⟩
    · exact hI.stlt b o h
    · exact h
  have hext0 : Ext G w { G with st := st' } w' := ⟨⟨[], by simp⟩, fun k n h => ⟨n, h, Nat.le_refl _, fun _ => rfl⟩, fun k b x h => .inl ⟨x, h⟩, hst, fun b o h => by
    rcases hstn b o h with h | h
    · exact .inl h
    · exact .inr (.inl h), hcell, fun b hb _ _ => .inl (hkeep b hb), rfl, hE.size, hE.os, hE.tape, hE.output⟩
  have hblk : ∀ (G1 : Gh), G1.mu = G.mu → G1.st = st' → Ext G w G1 w' → ∀ (i b : Nat) (ro : Bool) (cs : List PV), G1.mu[i]? = some b → sg[i]? = some (ro, cs) →
    ∃ (c : Array Value) (t : TypeId) (z : Nat × Nat), w'.heap[b]? = some (.cells c t z) ∧ c.size = cs.length ∧ (∀ (j : Nat) (v : Value) (x : PV), c[j]? = some v → cs[j]? = some x → PRep fx G1 w' v x) ∧
      (ro = false → (∀ o, o < c.size → ¬ (z.1 ≤ o ∧ o < z.2)) ∧ ∀ o, ¬ G1.st b o) := by
    intro G1 hmu hst1 hx i b ro cs hi' hs
    rw [hmu] at hi'
    obtain ⟨c, t, z, e1, e2, e3, e4⟩ := hi.blk i b ro cs hi' hs
    have hlt := heap_lt e1
    refine ⟨c, t, z, by rw [hkeep b hlt]; exact e1, e2, fun j v x hv hx' => hx.prep (e3 j v x hv hx'), fun hro => ⟨(e4 hro).1, fun o hs => ?_⟩⟩
    rw [hst1] at hs
    rcases hstn b o hs with h | h
    · exact (e4 hro).2 o h
    · omega
  have htok : ∀ (k b o sz cap n : Nat), G.tk[k]? = some (b, o, sz, cap) → ow[k]? = some n → 0 < sz ∧ n ≤ cap ∧
    ∃ (c : Array Value) (t : TypeId) (z : Nat × Nat), w'.heap[b]? = some (.cells c t z) ∧ o + cap * sz ≤ c.size ∧ (∀ j, j < c.size → ¬ (z.1 ≤ j ∧ j < z.2)) ∧ ∀ j, o + n * sz ≤ j → ¬ st' b j := by
    intro k b o sz cap n hk hn
    obtain ⟨h1, h2, c, t, z, e1, e2, e3, e4⟩ := hi.tok k b o sz cap n hk hn
    have hlt := heap_lt e1
    refine ⟨h1, h2, c, t, z, by rw [hkeep b hlt]; exact e1, e2, e3, fun j hj hs => ?_⟩
    rcases hstn b j hs with h | h
    · exact e4 j hj h
    · omega
  have hglob : ∀ (G1 : Gh), G1.st = st' → Ext G w G1 w' → ∀ (g : Nat) (ts : List T) (j : Nat) (x : T), gl g = some ts → ts[j]? = some x → ∃ v, w'.cell? ⟨g, j, none⟩ = some v ∧ TRep G1.st w' v x ∧ G1.st g j := by
    intro G1 hst1 hx g ts j x hg hx'
    obtain ⟨v, e1, e2, e3⟩ := hi.glob g ts j x hg hx'
    exact ⟨v, (hcell _ _ e3).trans e1, hx.trep e2, by rw [hst1]; exact hst _ _ e3⟩
  refine ⟨⟨hext0, ⟨hi.fr, hi.mul, hi.muinj, hblk _ rfl rfl hext0, hi.tkl, htok, hi.tkmu, hi.tkinj, hstlt, hglob _ rfl hext0, Nat.le_trans hi.bsz hE.size⟩⟩, fun k b o sz cap n hk hn => ?_⟩
  have hbnew : w.heap.size ≤ b := by
    rcases hE.tkb k b _ hk with ⟨y, h⟩ | h
    · simp at h
    · exact h
  have hkl : G.tk.length = G.fr.length := by rw [hi.tkl, hi.fr]
  have hext1 : Ext G w ⟨G.mu, G.tk ++ [(b, o, sz, cap)], G.fr ++ [n], st', G.bs⟩ w' := ⟨⟨[], by simp⟩, fun k m hk => ⟨m, getElem?_concat_left _ _ _ _ hk, Nat.le_refl _, fun _ => by
      have hlt : k < G.tk.length := by rw [hkl]; exact (List.getElem?_eq_some_iff.1 hk).1
      exact List.getElem?_append_left hlt⟩, fun k b' x hk => by
      rcases getElem?_concat _ _ _ _ hk with hk | ⟨_, hk⟩
      · exact .inl ⟨x, hk⟩
      · injection hk with hk _
        exact .inr (by omega), hst, fun b o h => by
    rcases hstn b o h with h | h
    · exact .inl h
    · exact .inr (.inl h), hcell, fun b hb _ _ => .inl (hkeep b hb), rfl, hE.size, hE.os, hE.tape, hE.output⟩
  refine ⟨hext1, ⟨by simp [hi.fr], hi.mul, hi.muinj, hblk _ rfl rfl hext1, by simp [hi.tkl], ?_, ?_, ?_, hstlt, hglob _ rfl hext1, Nat.le_trans hi.bsz hE.size⟩⟩
  · intro k' b' o' sz' cap' n' hk' hn'
    rcases getElem?_concat _ _ _ _ hk' with h1 | ⟨h1, h2⟩ <;> rcases getElem?_concat _ _ _ _ hn' with h3 | ⟨h3, h4⟩
    · exact htok k' b' o' sz' cap' n' h1 h3
    · have := (List.getElem?_eq_some_iff.1 h1).1
      rw [hi.tkl] at this; omega
    · have := (List.getElem?_eq_some_iff.1 h3).1
      rw [hi.tkl] at h1; omega
    · injection h2 with q1 q2
      injection q2 with q2 q3
      injection q3 with q3 q4
      subst q1 q2 q3 q4 h4
      obtain ⟨p1, p2, c, t, z, e1, e2, e3, e4⟩ := hI.tok k b' o' sz' cap' n' hk hn
      refine ⟨p1, p2, c, t, z, e1, e2, e3, fun j hj hs => ?_⟩
      rcases hs with hs | ⟨_, i, hi'⟩
      · exact e4 j hj hs
      · exact hI.tkmu k b' _ i hk hi'
  · intro k' b' x i hk' hi'
    rcases getElem?_concat _ _ _ _ hk' with h1 | ⟨_, h2⟩
    · exact hi.tkmu k' b' x i h1 hi'
    · injection h2 with h2 _
      have := hi.mu_lt hi'
      omega
  · intro k1 k2 b' x y h1 h2
    rcases getElem?_concat _ _ _ _ h1 with p1 | ⟨p1, p2⟩ <;> rcases getElem?_concat _ _ _ _ h2 with p3 | ⟨p3, p4⟩
    · exact hi.tkinj k1 k2 b' x y p1 p3
    · injection p4 with p4 _
      have := hi.tk_lt p1; omega
    · injection p2 with p2 _
      have := hi.tk_lt p3; omega
    · omega
/-- Behind a call by contract. -/
theorem after_below (hi : Inv fx gl G w sg ow) {w' : World} {st' : Nat → Nat → Prop} (hb : RowKit.Below w.heap.size w w') (h1 : ∀ b o, G.st b o → st' b o) (h2 : ∀ b o, st' b o → G.st b o ∨ (w.heap.size ≤ b ∧ b < w'.heap.size)) {v : Value} {r : PV} (hp : PRep fx { G with st := st' } w' v r) :
    ∃ G', Ext G w G' w' ∧ Inv fx gl G' w' sg ow ∧ PRep fx G' w' v r := by
  have hcell : ∀ b o, G.st b o → w'.cell? ⟨b, o, none⟩ = w.cell? ⟨b, o, none⟩ := fun b o h => hb.cell (hi.stlt b o h)
  have hE : Ext ⟨[], [], [], G.st, w.heap.size⟩ w ⟨[], [], [], st', w.heap.size⟩ w' := ⟨⟨[], by simp⟩, by simp, by simp, h1, fun b o h => by
    rcases h2 b o h with h | h
    · exact .inl h
    · exact .inr (.inl h.1), hcell, fun b hb' _ _ => .inl (hb.block b hb'), rfl, hb.size, hb.os, hb.tape, hb.output⟩
  have hstlt : ∀ b o, st' b o → b < w'.heap.size := fun b o h => by
    rcases h2 b o h with h | h
    · exact Nat.lt_of_lt_of_le (hi.stlt b o h) hb.size
    · exact h.2
  have hI : Inv fx gl ⟨[], [], [], st', w.heap.size⟩ w' [] [] := ⟨rfl, rfl, by simp, by simp, rfl, by simp, by simp, by simp, hstlt, fun g ts j x hg hx => by
    obtain ⟨v, e1, e2, e3⟩ := hi.glob g ts j x hg hx
    exact ⟨v, (hcell _ _ e3).trans e1, hE.trep e2, h1 _ _ e3⟩, hb.size⟩
  obtain ⟨⟨q1, q2⟩, _⟩ := after_call hi hE hI
  refine ⟨_, q1, q2, ?_⟩
  have hx : Ext { G with st := st' } w' { G with st := fun b o => st' b o ∨ (b < w'.heap.size ∧ ∃ i : Nat, ([] : List Nat)[i]? = some b) } w' := ⟨⟨[], by simp⟩, fun k n h => ⟨n, h, Nat.le_refl _, fun _ => rfl⟩, fun k b x h => .inl ⟨x, h⟩, fun b o h => .inl h, fun b o h => by
    rcases h with h | ⟨_, i, h⟩
    · exact .inl h
    · simp at h, fun _ _ _ => rfl, fun _ _ _ _ => .inl rfl, rfl, Nat.le_refl _, rfl, rfl, rfl⟩
  exact hx.prep hp
end Go.Pi

/- PI 16: one operation. Program independent. -/
namespace Go.Pi
variable {P : Program} {tb : Tb} {gl : Nat → Option (List T)} {G : Gh} {w : World} {nt : Nat} {a : Act} {K : Act → World → Prop} {Q : Exit → Act → World → Prop} {o : Oper}

theorem wp_value {val : Value} {w' : World} (h : (execOp a.eval o).run P w = .ok (.value val) w') (hK : K (a.put o.dst val) w') : o.wp P a w K Q := by
  unfold Oper.wp
  rw [h]
  exact hK
theorem wp_skip' {w' : World} (h : (execOp a.eval o).run P w = .ok .skip w') (hK : K (a.put o.dst undef) w') : o.wp P a w K Q := by
  unfold Oper.wp
  rw [h]
  exact hK
theorem wp_enter {f : FuncId} {args : Array Value} {w' : World} {R : Value → World → Prop} (h : (execOp a.eval o).run P w = .ok (.enter f args) w') (hc : Calls P f args w' fun e w'' => ∃ v, e = .returned v ∧ R v w'') (hK : ∀ v w'', R v w'' → K (a.put o.dst v) w'') : o.wp P a w K Q := by
  unfold Oper.wp
  rw [h]
  refine hc.mono ?_
  rintro e w'' ⟨v, rfl, hr⟩
  exact hK v w'' hr
theorem orep {x : Option Operand} {y : Option Opd} {fr : List PV} (h : compOpdO tb nt x = some y) (hf : FRep tb.fx G w nt a fr) : ORep tb.fx G w (x.map a.eval) (y.map (Opd.ev fr)) := by
  cases x with
  | none => simp [compOpdO] at h; subst h; trivial
  | some x =>
    simp only [compOpdO, Option.map_eq_some_iff] at h
    obtain ⟨z, hz, rfl⟩ := h
    exact opd_rep hz hf
theorem storeP_ok {sg : Sg} {ow : Ow} (hi : Inv tb.fx gl G w sg ow) {t : TypeId} {n : Nat} {va vv : Value} {xa xv : PV} {sg' : Sg} (hs : tySz P t = some n) (ha : PRep tb.fx G w va xa) (hv : PRep tb.fx G w vv xv) (h : storeP sg n xv xa = some sg') :
    ∃ w', (Instr.storeAt t va vv).run P w = .ok () w' ∧ Ext G w G w' ∧ Inv tb.fx gl G w' sg' ow := by
  unfold storeP at h
  split at h
  · rename_i id off
    split at h
    · rename_i cs hsg
      split at h
      · rename_i hc
        injection h with h
        subst h
        obtain ⟨c1, c2, c3⟩ := hc
        cases ha with | lp _ _ b hb =>
        obtain ⟨c, t', z, e1, e2, e3, e4⟩ := hi.blk id b false cs hb hsg
        obtain ⟨hz, _⟩ := e4 rfl
        obtain ⟨d1, d2⟩ := cells_rep hv
        have hone : ∀ u ∈ vv.cells.toList, u.oneCell' = true := by
          intro u hu
          obtain ⟨j, hj⟩ := List.getElem?_of_mem hu
          have hj' : vv.cells[j]? = some u := by simpa using hj
          have hlt : j < (cellsP xv).length := by rw [← d1]; exact (Array.getElem?_eq_some_iff.1 hj').1
          have hy := List.getElem?_eq_getElem hlt
          have hp := d2 j u _ hj' hy
          have ho := List.all_eq_true.1 c3 _ (List.mem_of_getElem? hy)
          generalize (cellsP xv)[j] = y at hp ho
          cases hp with
          | t ht => cases ht <;> first | rfl | cases ho
          | agg => cases ho
          | tup => cases ho
          | _ => rfl
        have hlen : vv.cells.toList.length = n := by rw [Array.length_toList, d1, c1]
        have hst := run_storeCells (P := P) vv.cells.toList w b off 0 c t' z e1 (by omega) hz hone
        rw [Nat.add_zero] at hst
        have hcr := CRep.set (off := off) (show CRep tb.fx G w c cs from ⟨e2, e3⟩) (show CRep tb.fx G w vv.cells (cellsP xv) from ⟨d1, d2⟩) (by omega)
        obtain ⟨hE, hI⟩ := hi.storeLocal hb hsg e1 (setR c off vv.cells.toList) _ (setR_size _ _ _) hcr.1 hcr.2
        refine ⟨_, ?_, hE, hI⟩
        have hsz : vv.cells.size = n := by rw [d1, c1]
        simp only [Instr.storeAt, Sem.run_bind, run_sureAddr, Result.andThen_ok, storeVar, run_sizeOf hs, hsz, ne_eq, not_true, if_false, hst]
      · cases h
    · cases h
  · cases h
theorem retSl_rep {Gc : Gh} {w' : World} {sg' : Sg} {ow' : Ow} (hI : Inv tb.fx gl Gc w' sg' ow') {u : Value} {x : PV} {y : T} (hu : PRep tb.fx Gc w' u x) (h : retSl sg' x = some y) : TRep (fun b o => Gc.st b o ∨ (b < w'.heap.size ∧ ∃ i : Nat, Gc.mu[i]? = some b)) w' u y := by
  unfold retSl at h
  split at h
  · rename_i id off len sz
    simp only [Option.map_eq_some_iff] at h
    obtain ⟨es, hes, rfl⟩ := h
    have hes' := hes
    unfold elemsS at hes'
    simp only [if_true] at hes'
    split at hes'
    · rename_i ro cs hsg
      split at hes'
      · rename_i hbd
        split at hes'
        case h_2 => cases hes'
        rename_i ts hts
        split at hes'
        · cases hes'
        rename_i hagg
        injection hes' with hes'
        subst hes'
        have hcs := allT_eq hts
        have hno : ∀ x ∈ ts, x.isAgg = false := fun x hx => by
          cases hq : x.isAgg with
          | false => rfl
          | true => exact absurd (List.any_eq_true.2 ⟨x, hx, hq⟩) hagg
        cases hu with | ls _ _ _ _ cap b ad hmu hcap ha =>
        obtain ⟨c, t, z, e1, e2, e3, _⟩ := hI.blk id b ro cs hmu hsg
        have hlt := heap_lt e1
        have htl : ts.length = len * sz := by
          have := congrArg List.length hcs
          simp at this
          omega
        have hcl : (chunks sz len ts).length = len := chunks_length _ _ _
        rcases ha with rfl | rfl
        · have hnil : chunks sz 0 ts = [] := rfl
          rw [hnil]
          exact .sl ad cap sz [] (fun _ _ => undef) (by simp) (by simp) (by simp) (by simp) (by simp) (by simp)
        · rw [show Value.slice (some ⟨b, off, none⟩) len cap = Value.slice (some ⟨b, off, none⟩) (chunks sz len ts).length cap by rw [hcl]]
          refine TRep.ofRow (sz := sz) (vs := (c.toList.drop off).take (len * sz)) (chunks_all sz len ts (by omega)) (chunks_one hno) (by omega) (chunks_vrep (by simp [htl]; omega) htl fun i v y hv hy => ?_) (fun j v hv => ?_) (fun j _ => .inr ⟨hlt, id, hmu⟩)
          · rw [List.getElem?_take, List.getElem?_drop] at hv
            split at hv
            · rename_i hlt'
              have hy' : cs[off + i]? = some (.t y) := by
                have := congrArg (fun l : List PV => l[i]?) hcs
                simp only [List.getElem?_take, List.getElem?_drop, if_pos hlt', List.getElem?_map, hy, Option.map_some] at this
                exact this
              exact (e3 (off + i) v (.t y) (by simpa using hv) hy').t_inv.mono (fun _ _ h => .inl h) (fun _ _ _ => rfl)
            · cases hv
          · rw [List.getElem?_take, List.getElem?_drop] at hv
            split at hv
            · rw [cell_of_row w' b (off + j) c t z e1]
              simpa using hv
            · cases hv
      · cases hes'
    · cases hes'
  · exact (close_rep hu h).mono (fun _ _ h => .inl h) (fun _ _ _ => rfl)
end Go.Pi

/- PI 17: one operation of the model is one of the small language. Program independent. -/
namespace Go.Pi
variable {P : Program} {tb : Tb} {gl : Nat → Option (List T)} {G : Gh} {w : World} {nt : Nat} {a : Act} {K : Act → World → Prop} {Q : Exit → Act → World → Prop} {o : Oper} {C : Cal} {dr : Bool} {s : S} {v : PV} {sg' : Sg} {ow' : Ow}

/-- The interpreter yields the value and leaves the store as it was. -/
theorem of_pure {val : Value} {r : PV} (hi : Inv tb.fx gl G w s.sg s.ow) (hr : (execOp a.eval o).run P w = .ok (.value val) w) (hp : PRep tb.fx G w val r) (he : (r, s.sg, s.ow) = (v, sg', ow'))
    (hK : ∀ val G' w', Ext G w G' w' → Inv tb.fx gl G' w' sg' ow' → PRep tb.fx G' w' val v → K (a.put o.dst val) w') : o.wp P a w K Q := by
  injection he with e1 e2
  injection e2 with e2 e3
  subst e1 e2 e3
  exact wp_value hr (hK val G w (.refl _ _) hi hp)

theorem run_v {x : Sem Value} {val : Value} {w' : World} (h : x.run P w = .ok val w') : (do pure (Next.value (← x)) : Sem Next).run P w = .ok (.value val) w' := by
  simp only [Sem.run_bind, h, Result.andThen_ok, Sem.run_pure]
theorem run_u {x : Sem Unit} {w' : World} (h : x.run P w = .ok () w') : (do x; pure Next.skip : Sem Next).run P w = .ok .skip w' := by
  simp only [Sem.run_bind, h, Result.andThen_ok, Sem.run_pure]

theorem op_bin (hi : Inv tb.fx gl G w s.sg s.ow) (hf : FRep tb.fx G w nt a s.fr) {op : BinOp} {t yt : TypeId} {x y : Operand} (hop : o.op = .binOp op t x y yt) {q : O} (hq : compBin P tb nt op t x y = some q) (hstep : opStep C gl dr q s = some (v, sg', ow'))
    (hK : ∀ val G' w', Ext G w G' w' → Inv tb.fx gl G' w' sg' ow' → PRep tb.fx G' w' val v → K (a.put o.dst val) w') : o.wp P a w K Q := by
  have hex : ∀ {val : Value}, (do eqGuard op t x y (a.eval x) (a.eval y); binOp op t (a.eval x) (a.eval y) : Sem Value).run P w = .ok val w → (execOp a.eval o).run P w = .ok (.value val) w := fun h => by
    unfold execOp
    simp only [hop]
    exact run_v h
  unfold compBin at hq
  split at hq
  · rename_i xa xb hxa hxb
    have ra := opd_rep hxa hf
    have rb := opd_rep hxb hf
    have hbin : q = .bin op xa xb → o.wp P a w K Q := by
      intro hq1
      subst hq1
      simp only [opStep, Option.map_eq_some_iff] at hstep
      obtain ⟨r, ⟨r', hr', rfl⟩, he⟩ := hstep
      obtain ⟨val, h1, h2⟩ := run_binT (P := P) t ra rb hr' x y
      exact of_pure hi (hex h1) h2 he hK
    have heqv : ∀ (ng ag : Bool) (ks : List Nat), op = (if ng then .neq else .eql) → leaves P 20 t = some ks → tyAg P t = some ag → (ag = false → ks = [0]) → (ag = true → P.eqGuardType P.depth t = false) → q = .eqv ng ag ks xa xb → o.wp P a w K Q := by
      intro ng ag ks h1 h2 h3 h4 h5 hq1
      subst hq1
      simp only [opStep, Option.map_eq_some_iff] at hstep
      obtain ⟨r, ⟨r', hr', rfl⟩, he⟩ := hstep
      exact of_pure hi (hex (run_eqv x y h1 h2 h3 h4 h5 ra rb hr')) (.tbool _) he hK
    cases hu : P.underlying t with
    | none =>
      rw [hu] at hq
      simp only [nilTy, hu] at hq
      cases hq
    | some ds =>
      rw [hu] at hq
      cases ds
      case int k => exact hbin (by injection hq with hq; exact hq.symm)
      case string => exact hbin (by injection hq with hq; exact hq.symm)
      case bool =>
        simp only at hq
        split at hq
        · injection hq with hq
          exact heqv false false [0] rfl (by simp [leaves, hu]) (by simp [tyAg, hu]) (fun _ => rfl) (by simp) hq.symm
        · injection hq with hq
          exact heqv true false [0] rfl (by simp [leaves, hu]) (by simp [tyAg, hu]) (fun _ => rfl) (by simp) hq.symm
        · cases hq
      case struct fs =>
        simp only at hq
        split at hq
        · rename_i ks hks
          split at hq
          · rename_i hg
            injection hq with hq
            exact heqv false true ks rfl hks (by simp [tyAg, hu]) (by simp) (fun _ => hg) hq.symm
          · cases hq
        · rename_i ks hks
          split at hq
          · rename_i hg
            injection hq with hq
            exact heqv true true ks rfl hks (by simp [tyAg, hu]) (by simp) (fun _ => hg) hq.symm
          · cases hq
        · cases hq
      case array n el =>
        simp only at hq
        split at hq
        · rename_i ks hks
          split at hq
          · rename_i hg
            injection hq with hq
            exact heqv false true ks rfl hks (by simp [tyAg, hu]) (by simp) (fun _ => hg) hq.symm
          · cases hq
        · rename_i ks hks
          split at hq
          · rename_i hg
            injection hq with hq
            exact heqv true true ks rfl hks (by simp [tyAg, hu]) (by simp) (fun _ => hg) hq.symm
          · cases hq
        · cases hq
      all_goals
        simp only at hq
        split at hq
        · rename_i n m hn hm
          split at hq
          · rename_i hnm
            subst hnm
            injection hq with hq
            subst hq
            obtain ⟨c, rfl⟩ : ∃ c, y = .const c := by
              unfold nilOf at hm
              split at hm <;> first | exact ⟨_, rfl⟩ | cases hm
            simp only [opStep, Option.map_eq_some_iff] at hstep
            obtain ⟨r, ⟨r', hr', rfl⟩, he⟩ := hstep
            exact of_pure hi (hex (run_isn (P := P) (ng := false) x rfl hn hm ra hr')) (.tbool _) he hK
          · cases hq
        · rename_i n m hn hm
          split at hq
          · rename_i hnm
            subst hnm
            injection hq with hq
            subst hq
            obtain ⟨c, rfl⟩ : ∃ c, y = .const c := by
              unfold nilOf at hm
              split at hm <;> first | exact ⟨_, rfl⟩ | cases hm
            simp only [opStep, Option.map_eq_some_iff] at hstep
            obtain ⟨r, ⟨r', hr', rfl⟩, he⟩ := hstep
            exact of_pure hi (hex (run_isn (P := P) (ng := true) x rfl hn hm ra hr')) (.tbool _) he hK
          · cases hq
        · cases hq
  · cases hq
end Go.Pi
