/- PI 24: what an argument's reading gives: a tree of its type. Program independent. -/
import Derived.Test.YtbkphlhmbllbiaaDoorPi23
import Derived.ChangeArms
import Derived.Lib.LaidTab
namespace Go.Pi
variable {P : Program} {H : Type} {enc : TypeId × Value → H} {w : World} {sp : Nat → Bool} {held : Bool}

/-- The kind of one cell. -/
inductive CT where
  | bool
  | int (k : IntKind)
  | str
  | sl (e : List CT)

/-- A tree is of a cell's kind; no string or slice is longer than N. -/
inductive Wt (N : Nat) : CT → T → Prop where
  | bool (b : Bool) : Wt N .bool (.bool b)
  | int (k : IntKind) (n : Int) (h1 : k.min ≤ n) (h2 : n ≤ k.max) : Wt N (.int k) (.int k n)
  | str (l : List UInt8) (h : l.length ≤ N) : Wt N .str (.str l)
  | nsl (c : List CT) : Wt N (.sl c) (.sl true [])
  | sl (c : List CT) (es : List (List T)) (hl : es.length ≤ N) (hc : ∀ e, e ∈ es → e.length = c.length) (h : ∀ e, e ∈ es → ∀ (j : Nat) (y : CT) (x : T), c[j]? = some y → e[j]? = some x → Wt N y x) : Wt N (.sl c) (.sl false es)

/-- A bound on what is read: it is handed down to the parts, and keeps strings and slices below N. -/
structure BdOk {H : Type} (P : Program) (N : Nat) (B : TypeId → DataW H → Prop) : Prop where
  str : ∀ t l, B t (.lit (.string l)) → l.length ≤ N
  sl : ∀ t e a b, P.underlying t = some (.slice e) → 0 < P.bytesOf e → B t (.slice a b) → a.length ≤ N ∧ ∀ d, d ∈ a → B e d
  agg : ∀ t fs ds, P.underlying t = some (.struct fs) → B t (.agg ds) → ∀ (i : Nat) (f : Field) d, fs[i]? = some f → ds[i]? = some d → B f.type d
  arr : ∀ t n e ds, P.underlying t = some (.array n e) → B t (.agg ds) → ∀ d, d ∈ ds → B e d

theorem Wt.noAgg {N : Nat} {c : CT} {x : T} (h : Wt N c x) : x.isAgg = false := by cases h <;> rfl

/-- The kinds of a type's cells. -/
def ctF (P : Program) (lv : TypeId → Option (List CT)) : Nat → List Field → Option (List CT)
  | _, [] => some []
  | n, f :: r => if f.offset = n then (match lv f.type with
    | some c => if P.cellsOf f.type = c.length then (ctF P lv (n + c.length) r).map (c ++ ·) else none
    | none => none) else none
def ctOf (P : Program) : Nat → TypeId → Option (List CT)
  | 0, _ => none
  | n + 1, t => match P.underlying t with
    | some .bool => some [.bool]
    | some (.int k) => some [.int k]
    | some .string => some [.str]
    | some (.slice e) => match ctOf P n e with
      | some c => if P.cellsOf e = c.length ∧ 0 < c.length ∧ 0 < P.bytesOf e then some [.sl c] else none
      | none => none
    | some (.struct fs) => match ctF P (ctOf P n) 0 fs.toList with
      | some c => if P.cellsOf t = c.length then some c else none
      | none => none
    | some (.array k e) => match ctOf P n e with
      | some c => if P.cellsOf e = c.length ∧ P.cellsOf t = k * c.length then some (List.replicate k c).flatten else none
      | none => none
    | _ => none

/-- All blocks that are there. -/
def stAll (w : World) (b : Nat) (_ : Nat) : Prop := b < w.heap.size

/-- The cells stand for the trees, which are of these kinds. -/
def RR (w : World) (N : Nat) (cs : List Value) (ct : List CT) (xs : List T) : Prop :=
  cs.length = ct.length ∧ xs.length = ct.length ∧ ∀ (i : Nat) (v : Value) (c : CT) (x : T), cs[i]? = some v → ct[i]? = some c → xs[i]? = some x → TRep (stAll w) w v x ∧ Wt N c x

theorem RR.one {N : Nat} {v : Value} {c : CT} {x : T} (h1 : TRep (stAll w) w v x) (h2 : Wt N c x) : RR w N [v] [c] [x] :=
  ⟨rfl, rfl, fun i v' c' x' hv hc hx => by
    cases i with
    | zero => simp at hv hc hx; subst hv hc hx; exact ⟨h1, h2⟩
    | succ i => simp at hv⟩
theorem RR.append {N : Nat} {cs1 cs2 : List Value} {ct1 ct2 : List CT} {xs1 xs2 : List T} (h1 : RR w N cs1 ct1 xs1) (h2 : RR w N cs2 ct2 xs2) : RR w N (cs1 ++ cs2) (ct1 ++ ct2) (xs1 ++ xs2) := by
  obtain ⟨a1, b1, c1⟩ := h1
  obtain ⟨a2, b2, c2⟩ := h2
  refine ⟨by simp [a1, a2], by simp [b1, b2], fun i v c x hv hc hx => ?_⟩
  rcases Nat.lt_or_ge i ct1.length with h | h
  · rw [List.getElem?_append_left (by omega)] at hv hc hx
    exact c1 i v c x hv hc hx
  · rw [List.getElem?_append_right (by omega)] at hv hc hx
    rw [a1] at hv
    rw [b1] at hx
    exact c2 _ v c x hv hc hx

theorem fields_rr {N : Nat} {lv : TypeId → Option (List CT)} {rd : TypeId → List Value → Prop} (ih : ∀ t ct, lv t = some ct → ∀ cs, rd t cs → ∃ xs, RR w N cs ct xs) : ∀ (fs : List Field) (n : Nat) (ct : List CT) (cs : List Value), ctF P lv n fs = some ct →
    (∀ f, f ∈ fs → rd f.type ((cs.drop f.offset).take (P.cellsOf f.type))) → cs.length = n + ct.length → ∃ xs, RR w N (cs.drop n) ct xs := by
  intro fs
  induction fs with
  | nil =>
    intro n ct cs h _ hl
    simp only [ctF, Option.some.injEq] at h
    subst h
    refine ⟨[], ?_, rfl, by simp⟩
    simp at hl
    simp [hl]
  | cons f r ih2 =>
    intro n ct cs h hr hl
    simp only [ctF] at h
    split at h
    · rename_i hoff
      split at h
      · rename_i c hc
        split at h
        · rename_i hsz
          simp only [Option.map_eq_some_iff] at h
          obtain ⟨ct2, hct2, rfl⟩ := h
          obtain ⟨xs1, h1⟩ := ih f.type c hc _ (hr f (by simp))
          simp only [List.length_append] at hl
          obtain ⟨xs2, h2⟩ := ih2 (n + c.length) ct2 cs hct2 (fun g hg => hr g (by simp [hg])) (by omega)
          refine ⟨xs1 ++ xs2, ?_⟩
          have := h1.append h2
          rw [hoff, hsz] at this
          have e : (cs.drop n).take c.length ++ cs.drop (n + c.length) = cs.drop n := by
            rw [← List.drop_drop]
            exact List.take_append_drop _ _
          rw [e] at this
          exact this
        · cases h
      · cases h
    · cases h
theorem array_rr {N : Nat} {c : List CT} : ∀ (k : Nat) (cs : List Value), cs.length = k * c.length → (∀ i, i < k → ∃ xs, RR w N ((cs.drop (i * c.length)).take c.length) c xs) → ∃ xs, RR w N cs (List.replicate k c).flatten xs := by
  intro k
  induction k with
  | zero =>
    intro cs hl _
    refine ⟨[], ?_, rfl, by simp⟩
    simpa using hl
  | succ k ih =>
    intro cs hl h
    obtain ⟨xs1, h1⟩ := h 0 (by omega)
    obtain ⟨xs2, h2⟩ := ih (cs.drop c.length) (by rw [List.length_drop, hl, Nat.succ_mul]; omega) (fun i hi => by
      obtain ⟨xs, hx⟩ := h (i + 1) (by omega)
      refine ⟨xs, ?_⟩
      rw [List.drop_drop]
      have : c.length + i * c.length = (i + 1) * c.length := by rw [Nat.succ_mul]; omega
      rw [this]
      exact hx)
    refine ⟨xs1 ++ xs2, ?_⟩
    have := h1.append h2
    simp only [Nat.zero_mul, List.drop_zero, List.take_append_drop] at this
    rw [List.replicate_succ, List.flatten_cons]
    exact this
theorem cell_lt {a : Addr} {v : Value} (h : w.cell? a = some v) : a.block < w.heap.size := by
  unfold World.cell? at h
  split at h
  · rename_i c t z hb
    exact (Array.getElem?_eq_some_iff.1 hb).1
  · cases h
theorem cell_spot {a : Addr} {v : Value} (h : w.cell? a = some v) : a.spot = none := by
  unfold World.cell? at h
  split at h
  · split at h
    · cases h
    · rename_i hs
      simpa using hs
  · cases h
/-- **An argument that reads as data of a type stands for a tree of that type.** -/
theorem trod_rr {N : Nat} {B : TypeId → DataW H → Prop} (hB : BdOk P N B) : ∀ (n : Nat) (t : TypeId) (ct : List CT), ctOf P n t = some ct → ∀ (fuel : Nat) (cs : List Value) (x : DataW H × List MemPlace), DataW.trod enc P w 0 sp held fuel t cs = some x → B t x.1 → ∃ xs, RR w N cs ct xs := by
  intro n
  induction n with
  | zero => intro t ct h; simp [ctOf] at h
  | succ n ih =>
    intro t ct h fuel cs x hd hb
    simp only [ctOf] at h
    split at h
    · rename_i ht
      injection h with h
      subst h
      obtain ⟨b, rfl, _⟩ := DataW.trod_bool ht hd
      exact ⟨_, .one (.bool b) (.bool b)⟩
    · rename_i k ht
      injection h with h
      subst h
      obtain ⟨z, rfl, _, hw⟩ := DataW.trod_int ht hd
      simp only [Lit.wf, Bool.and_eq_true, decide_eq_true_eq] at hw
      exact ⟨_, .one (.int k z) (.int k z hw.1 hw.2)⟩
    · rename_i ht
      injection h with h
      subst h
      obtain ⟨s, rfl, hx, hs⟩ := DataW.trod_string ht hd
      subst hx
      exact ⟨_, .one (.str s) (.str _ (hB.str _ _ hb))⟩
    · rename_i e ht
      split at h
      · rename_i c hc
        split at h
        · rename_i hsz
          injection h with h
          subst h
          rcases DataW.trod_slice ht hd with ⟨rfl, _⟩ | ⟨a, len, cap, elems, rest, m, rfl, rfl, hx, _, hlc, hcm, hel, hat, _⟩
          · exact ⟨_, .one .nsl (.nsl c)⟩
          · subst hx
            obtain ⟨hbl, hbe⟩ := hB.sl t e _ _ ht hsz.2.2 hb
            rw [List.length_map] at hbl
            have hone : ∀ i, i < len → ∃ (cs' : List Value) (xs : List T), w.cells? 0 (a.add (i * c.length)) c.length = some cs' ∧ RR w N cs' c xs := by
              intro i hi
              have h1 := hat i hi
              rw [hsz.1, List.getElem?_eq_getElem (by omega), Option.bind_eq_some_iff] at h1
              obtain ⟨cs', h2, h3⟩ := h1
              obtain ⟨xs, hx⟩ := ih e c hc m cs' _ h3 (hbe _ (List.mem_map.2 ⟨_, List.getElem_mem _, rfl⟩))
              exact ⟨cs', xs, h2, hx⟩
            have hex : ∀ m, m ≤ len → ∃ (es : List (List T)) , es.length = m ∧ ∀ (i : Nat) (xs : List T), es[i]? = some xs → ∃ cs', w.cells? 0 (a.add (i * c.length)) c.length = some cs' ∧ RR w N cs' c xs := by
              intro m
              induction m with
              | zero => intro _; exact ⟨[], rfl, by simp⟩
              | succ m ihm =>
                intro hm
                obtain ⟨es, e1, e2⟩ := ihm (by omega)
                obtain ⟨cs', xs, h1, h2⟩ := hone m (by omega)
                refine ⟨es ++ [xs], by simp [e1], fun i ys hi => ?_⟩
                rcases Nat.lt_or_ge i es.length with hlt | hge
                · rw [List.getElem?_append_left hlt] at hi
                  exact e2 i ys hi
                · rw [List.getElem?_append_right hge] at hi
                  have h0 : i - es.length = 0 := by
                    rcases Nat.eq_zero_or_pos (i - es.length) with h0 | h0
                    · exact h0
                    · rw [List.getElem?_eq_none (by simp; omega)] at hi; cases hi
                  rw [h0] at hi
                  simp at hi
                  subst hi
                  have : i = m := by omega
                  subst this
                  exact ⟨cs', h1, h2⟩
            obtain ⟨es, hes, hall⟩ := hex len (Nat.le_refl _)
            have hcell : ∀ (i j : Nat) (ys : List T) (x : T), es[i]? = some ys → ys[j]? = some x → ∃ v, w.cell? ⟨a.block, a.off + (i * c.length + j), none⟩ = some v ∧ stAll w a.block (a.off + (i * c.length + j)) ∧ TRep (stAll w) w v x ∧ (i = 0 → j = 0 → a.spot = none) := by
              intro i j ys x hi hj
              obtain ⟨cs', h1, h2, h3, h4⟩ := hall i ys hi
              have hjl : j < c.length := by have := (List.getElem?_eq_some_iff.1 hj).1; omega
              unfold World.cells? at h1
              rw [if_pos (Nat.zero_le _)] at h1
              obtain ⟨v, hv1, hv2⟩ := Lib.mapM_at h1 j j (by simp [hjl])
              obtain ⟨r1, _⟩ := h4 j v c[j] x hv1 (List.getElem?_eq_getElem hjl) hj
              have hsp := cell_spot hv2
              have haddr : (a.add (i * c.length)).add j = ⟨a.block, a.off + (i * c.length + j), none⟩ := by
                have e1 : ((a.add (i * c.length)).add j).block = a.block := by unfold Addr.add; split <;> split <;> rfl
                have e2 : ((a.add (i * c.length)).add j).off = a.off + (i * c.length + j) := by unfold Addr.add; split <;> split <;> simp_all <;> omega
                generalize (a.add (i * c.length)).add j = q at e1 e2 hsp
                cases q
                simp_all
              have hlt := cell_lt hv2
              rw [haddr] at hv2 hlt
              refine ⟨v, hv2, hlt, r1, fun h0 h0' => ?_⟩
              subst h0 h0'
              simpa [Addr.add] using hsp
            refine ⟨[.sl false es], .one ?_ ?_⟩
            · have hlen : ∀ e, e ∈ es → e.length = c.length := fun e he => by
                obtain ⟨i, hi⟩ := List.mem_iff_getElem?.1 he
                obtain ⟨cs', _, h2⟩ := hall i e hi
                exact h2.2.1
              rw [← hes]
              refine .sl a cap c.length es (fun i j => (w.cell? ⟨a.block, a.off + (i * c.length + j), none⟩).getD undef) (by omega) (fun hne => ?_) hlen (fun e he x hx => ?_) (fun i j e x hi hj => ?_) (fun i j e x hi hj => ?_)
              · match es, hne, hcell, hlen with
                | e0 :: r, _, hcell, hlen =>
                  have h0 : 0 < e0.length := by rw [hlen e0 (by simp)]; exact hsz.2.1
                  obtain ⟨v, _, _, _, h⟩ := hcell 0 0 e0 e0[0] rfl (List.getElem?_eq_getElem h0)
                  exact h rfl rfl
              · obtain ⟨i, hi⟩ := List.mem_iff_getElem?.1 he
                obtain ⟨j, hj⟩ := List.mem_iff_getElem?.1 hx
                obtain ⟨cs', _, h2, h3, h4⟩ := hall i e hi
                have hjl : j < c.length := by have := (List.getElem?_eq_some_iff.1 hj).1; omega
                exact (h4 j cs'[j] c[j] x (List.getElem?_eq_getElem (by omega)) (List.getElem?_eq_getElem hjl) hj).2.noAgg
              · obtain ⟨v, h1, h2, h3, _⟩ := hcell i j e x hi hj
                exact ⟨by rw [h1]; rfl, h2⟩
              · obtain ⟨v, h1, h2, h3, _⟩ := hcell i j e x hi hj
                simp only [h1, Option.getD_some]
                exact h3
            · refine .sl c es (by omega) (fun e he => ?_) fun e he j y x hy hx => ?_
              · obtain ⟨i, hi⟩ := List.mem_iff_getElem?.1 he
                obtain ⟨cs', _, h2⟩ := hall i e hi
                exact h2.2.1
              · obtain ⟨i, hi⟩ := List.mem_iff_getElem?.1 he
                obtain ⟨cs', _, h2, h3, h4⟩ := hall i e hi
                have hjl : j < c.length := (List.getElem?_eq_some_iff.1 hy).1
                exact (h4 j cs'[j] y x (List.getElem?_eq_getElem (by omega)) hy hx).2
        · cases h
      · cases h
    · rename_i fs ht
      split at h
      · rename_i c hc
        split at h
        · rename_i hsz
          injection h with h
          subst h
          obtain ⟨xs, m, rfl, rfl, hl, hxl, hat⟩ := DataW.trod_struct ht hd
          have := fields_rr (P := P) (w := w) (lv := ctOf P n) (rd := fun t cs => ∃ fuel x, DataW.trod enc P w 0 sp held fuel t cs = some x ∧ B t x.1) (fun t ct hct cs ⟨fuel, x, hx, hbx⟩ => ih t ct hct fuel cs x hx hbx) fs.toList 0 c cs hc (fun f hf => by
            obtain ⟨i, hi⟩ := List.mem_iff_getElem?.1 hf
            have hil : i < fs.size := by have := (List.getElem?_eq_some_iff.1 hi).1; simpa using this
            have h1 := hat i f (by simpa using hi)
            rw [List.getElem?_eq_getElem (by omega)] at h1
            exact ⟨m, _, h1, hB.agg t fs _ ht hb i f _ (by simpa using hi) (by rw [List.getElem?_map, List.getElem?_eq_getElem (by omega)]; rfl)⟩) (by omega)
          simpa using this
        · cases h
      · cases h
    · rename_i k e ht
      split at h
      · rename_i c hc
        split at h
        · rename_i hsz
          injection h with h
          subst h
          cases fuel with
          | zero => simp [DataW.trod] at hd
          | succ fuel =>
            simp only [DataW.trod, ht, hsz.1, hsz.2] at hd
            split at hd
            · rename_i hl
              obtain ⟨xs, hm, hx⟩ := Option.map_eq_some_iff.1 hd
              subst hx
              refine array_rr k cs hl fun i hi => ?_
              obtain ⟨b, hbm, hb'⟩ := Lib.mapM_at hm i i (by simp [hi])
              exact ih e c hc fuel _ _ hb' (hB.arr t k e _ ht hb _ (List.mem_map.2 ⟨b, List.mem_of_getElem? hbm, rfl⟩))
            · cases hd
        · cases h
      · cases h
    · cases h
end Go.Pi
