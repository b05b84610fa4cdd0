/- PI 33: strings.Join, strings.Split, strings.SplitN by their contracts. Program independent. -/
import Derived.Test.YtbkphlhmbllbiaaDoorPi32
import Derived.Lib.SplitLaws
import Derived.Laws.NewBlocks
namespace Go.Pi
variable {P : Program}

theorem strsT_spec : ∀ {es : List (List T)} {xs : List (List UInt8)}, strsT es = some xs → es = xs.map fun x => [.str x] := by
  intro es
  induction es with
  | nil => intro xs h; injection h with h; subst h; rfl
  | cons e r ih =>
    intro xs h
    unfold strsT at h
    split at h
    · rename_i e0; cases e0
    · rename_i x r' e0
      injection e0 with e1 e2
      subst e1 e2
      cases hr : strsT r with
      | none => rw [hr] at h; cases h
      | some ys =>
        rw [hr] at h
        injection h with h
        subst h
        rw [List.map_cons, ← ih hr]
    · cases h
theorem strsT_map : ∀ (xs : List (List UInt8)), strsT (xs.map fun x => [.str x]) = some xs := by
  intro xs
  induction xs with
  | nil => rfl
  | cons x r ih => simp only [List.map_cons, strsT, ih, Option.map_some]
/-- strings.Join, by its contracts. -/
theorem join_ok {fx : List (Nat × Nat)} {g : Nat} (he : ∀ args w, (callFunc g args).run P w = .ok (.enter g args) w)
    (h0 : ∀ (a : Option Addr) (c : Nat) (sep : ByteArray) (w : World), Calls P g #[.slice a 0 c, .string sep] w fun e w' => e = .returned (.string ⟨#[]⟩) ∧ w' = w)
    (h1 : ∀ (bk o c : Nat) (xs : List ByteArray) (sep : ByteArray) (w : World), (∀ (j : Nat) x, xs[j]? = some x → w.cell? ⟨bk, o + j, none⟩ = some (.string x)) → bk < w.heap.size → xs.length ≤ 140737488355328 → xs.length ≤ c →
      (Lib.join (xs.map (·.data.toList)) sep.data.toList).length ≤ 140737488355328 →
      Calls P g #[.slice (some ⟨bk, o, none⟩) xs.length c, .string sep] w fun e w' => e = .returned (.string ⟨(Lib.join (xs.map (·.data.toList)) sep.data.toList).toArray⟩) ∧ RowKit.Below w.heap.size w w') : XxOk P fx 7 g := by
  intro ts r vs G w gl hg hx hl hr
  right
  match ts, hx with
  | [.sl nl es, .str sep], hx =>
    simp only [xfun, xcon] at hx
    split at hx
    · rename_i xs hxs
      split at hx
      · rename_i hc
        obtain ⟨hc1, hc2⟩ := hc
        injection hx with hx
        subst hx
        have hes := strsT_spec hxs
        obtain ⟨l⟩ := vs
        match l, hl with
        | [x, y], _ =>
          have ha := hr 0 x _ rfl rfl
          have hb := hr 1 y _ rfl rfl
          refine ⟨he _ _, ?_⟩
          cases hb
          rename_i sp _
          by_cases hxe : xs = []
          · subst hxe
            simp only [List.map_nil] at hes
            subst hes
            have hz : ∃ a c, x = .slice a 0 c := by
              cases ha
              · exact ⟨_, _, rfl⟩
              · exact ⟨_, _, rfl⟩
            obtain ⟨a, c, rfl⟩ := hz
            refine (h0 a c sp w).mono ?_
            rintro e w' ⟨rfl, rfl⟩
            exact ⟨_, G.st, rfl, RowKit.Below.refl _ _, fun _ _ h => h, fun _ _ h => .inl h, .t (.str _)⟩
          · have hne : es ≠ [] := by rw [hes]; simpa using hxe
            cases ha with
            | nsl => exact absurd rfl hne
            | sl ad cap sz _ vv hcap hsp hsz ho hcl hrr =>
              obtain ⟨bk, o, spot⟩ := ad
              have hspn := hsp hne
              simp only at hspn
              subst hspn
              have hlen : es.length = xs.length := by rw [hes]; simp
              have hsz1 : sz = 1 := by
                cases xs with
                | nil => exact absurd rfl hxe
                | cons x0 xr =>
                  have := hsz [.str x0] (by rw [hes]; simp)
                  simpa using this.symm
              subst hsz1
              have cell : ∀ (j : Nat) (x0 : List UInt8), xs[j]? = some x0 → w.cell? ⟨bk, o + j, none⟩ = some (.string ⟨x0.toArray⟩) := by
                intro j x0 hj
                have hej : es[j]? = some [.str x0] := by rw [hes, List.getElem?_map, hj]; rfl
                obtain ⟨q1, _⟩ := hcl j 0 [.str x0] (.str x0) hej rfl
                have q2 := hrr j 0 [.str x0] (.str x0) hej rfl
                simp only [Nat.mul_one, Nat.add_zero] at q1
                generalize vv j 0 = v at q1 q2
                cases q2
                exact q1
              have hbk : bk < w.heap.size := by
                cases xs with
                | nil => exact absurd rfl hxe
                | cons x0 xr => exact World.block_lt_of_cell? _ _ (cell 0 x0 rfl)
              have em : (xs.map fun x => (⟨x.toArray⟩ : ByteArray)).map (·.data.toList) = xs := by
                rw [List.map_map]
                exact List.map_id' xs
              have := h1 bk o cap (xs.map fun x => ⟨x.toArray⟩) sp w (by
                intro j x hj
                rw [List.getElem?_map] at hj
                cases hq : xs[j]? with
                | none => rw [hq] at hj; cases hj
                | some x0 =>
                  rw [hq] at hj
                  injection hj with hj
                  subst hj
                  exact cell j x0 hq) hbk (by simpa using hc1) (by rw [List.length_map]; omega) (by rw [em]; exact hc2)
              rw [em, List.length_map, ← hlen] at this
              refine this.mono ?_
              rintro e w' ⟨rfl, hbel⟩
              refine ⟨_, G.st, rfl, hbel, fun _ _ h => h, fun _ _ h => .inl h, .t ?_⟩
              exact .str ⟨(Lib.join xs sp.data.toList).toArray⟩
      · cases hx
    · cases hx
/-- A new block of strings. -/
theorem strs_alloc {st : Nat → Nat → Prop} {w : World} {xs : List ByteArray} {N : Nat} {t : TypeId} (h : xs.length ≤ N) :
    TRep (fun b o => st b o ∨ b = w.heap.size) (w.alloc (.cells (Lib.cellsOf xs N) t)) (.slice (some ⟨w.heap.size, 0, none⟩) xs.length N) (.sl false ((xs.map (·.data.toList)).map fun x => [.str x])) := by
  have hl : xs.length = ((xs.map (·.data.toList)).map fun x => ([.str x] : List T)).length := by simp
  have at_ : ∀ (i j : Nat) (e : List T) (x : T), ((xs.map (·.data.toList)).map fun x => ([.str x] : List T))[i]? = some e → e[j]? = some x → ∃ b, xs[i]? = some b ∧ j = 0 ∧ x = .str b.data.toList := by
    intro i j e x he hx
    rw [List.getElem?_map, List.getElem?_map] at he
    cases hb : xs[i]? with
    | none => rw [hb] at he; cases he
    | some b =>
      rw [hb] at he
      simp only [Option.map_some, Option.some.injEq] at he
      subst he
      match j, hx with
      | 0, hx => simp at hx; exact ⟨b, rfl, rfl, hx.symm⟩
      | j + 1, hx => simp at hx
  have key : ∀ n, n = ((xs.map (·.data.toList)).map fun x => ([.str x] : List T)).length → TRep (fun b o => st b o ∨ b = w.heap.size) (w.alloc (.cells (Lib.cellsOf xs N) t)) (.slice (some ⟨w.heap.size, 0, none⟩) n N) (.sl false ((xs.map (·.data.toList)).map fun x => [.str x])) := by
    intro n hn
    subst hn
    refine .sl ⟨w.heap.size, 0, none⟩ N 1 _ (fun i _ => .string (xs.getD i ByteArray.empty)) (by rw [← hl]; exact h) (fun _ => rfl) ?_ ?_ ?_ ?_
    · intro e he
      obtain ⟨x, _, rfl⟩ := List.mem_map.1 he
      rfl
    · intro e he x hx
      obtain ⟨y, _, rfl⟩ := List.mem_map.1 he
      simp only [List.mem_singleton] at hx
      subst hx
      rfl
    · intro i j e x he hx
      obtain ⟨b, hb, rfl, rfl⟩ := at_ i j e x he hx
      have hi : i < xs.length := (List.getElem?_eq_some_iff.1 hb).1
      refine ⟨?_, .inr rfl⟩
      have e0 : (0 : Nat) + (i * 1 + 0) = i := by omega
      simp only [e0]
      rw [World.cell?_alloc_new]
      unfold Lib.cellsOf
      rw [List.getElem?_toArray, List.getElem?_append_left (by simpa using hi), List.getElem?_map, hb, List.getD_eq_getElem?_getD, hb]
      rfl
    · intro i j e x he hx
      obtain ⟨b, hb, rfl, rfl⟩ := at_ i j e x he hx
      rw [List.getD_eq_getElem?_getD, hb]
      exact .str b
  exact key _ hl
/-- strings.Split at a separator that is not empty, by its contract. -/
theorem split_ok {fx : List (Nat × Nat)} {g m : Nat} {t : TypeId} (he : ∀ args w, (callFunc g args).run P w = .ok (.enter g args) w)
    (hc : ∀ (s sep : ByteArray) (n : Int) (w : World), s.size < 4294967281 → w.cell? ⟨m, 0, none⟩ = some (.int .i64 n) → 1 ≤ sep.size → Calls P g #[.string s, .string sep] w fun e w' =>
      e = .returned (.slice (some ⟨w.heap.size, 0, none⟩) (Lib.countB s sep + 1) (Lib.countB s sep + 1)) ∧ w' = w.alloc (.cells ((Lib.splitB sep 0 (Lib.countB s sep) s).map Value.string).toArray t)) : XxOk P fx (m * 16 + 8) g := by
  intro ts r vs G w gl hg hx hl hr
  right
  have k1 : (m * 16 + 5) % 16 = 5 := by omega
  have k2 : (m * 16 + 5) / 16 = m := by omega
  have k3 : m * 16 + 8 = (m * 16 + 5) + 3 := rfl
  rw [k3] at hx
  simp only [xfun, k1, k2] at hx
  match ts, hx with
  | [.str a, .str b], hx =>
    simp only [xcon] at hx
    split at hx
    · rename_i n hgl
      split at hx
      · rename_i hlen
        injection hx with hx
        subst hx
        obtain ⟨v, hv, hvr, _⟩ := hg m _ 0 _ hgl rfl
        cases hvr
        obtain ⟨l⟩ := vs
        match l, hl with
        | [x, y], _ =>
          have ha := hr 0 x _ rfl rfl
          have hb := hr 1 y _ rfl rfl
          cases ha
          cases hb
          rename_i s sep _
          have hsep : 1 ≤ sep.size := by rw [Lib.size_eq]; exact hlen.2
          have hlen2 := Lib.splitB_all sep hsep 0 _ s rfl
          refine ⟨he _ _, (hc _ _ n w (by rw [Lib.size_eq]; exact hlen.1) hv hsep).mono ?_⟩
          rintro e w' ⟨rfl, rfl⟩
          refine ⟨_, fun b o => G.st b o ∨ b = w.heap.size, rfl, RowKit.Below.alloc (RowKit.Below.refl _ _) (Nat.le_refl _) _, fun _ _ h => .inl h, fun b o h => ?_, .t ?_⟩
          · rcases h with h | h
            · exact .inl h
            · subst h; exact .inr ⟨Nat.le_refl _, by simp⟩
          · have := strs_alloc (st := G.st) (w := w) (xs := Lib.splitB sep 0 (Lib.countB s sep) s) (N := Lib.countB s sep + 1) (t := t) (by rw [hlen2]; exact Nat.le_refl _)
            rw [Lib.splitB_data, hlen2] at this
            have e1 : Lib.cellsOf (Lib.splitB sep 0 (Lib.countB s sep) s) (Lib.countB s sep + 1) = ((Lib.splitB sep 0 (Lib.countB s sep) s).map Value.string).toArray := by rw [← hlen2]; exact Lib.cellsOf_full _
            rw [e1] at this
            exact this
      · cases hx
    · cases hx
/-- strings.SplitN at a separator that is not empty and a number above 0, by its contract. -/
theorem splitN_ok {fx : List (Nat × Nat)} {g m : Nat} {t : TypeId} (he : ∀ args w, (callFunc g args).run P w = .ok (.enter g args) w)
    (hc : ∀ (s sep : ByteArray) (n : Nat) (q : Int) (w : World), s.size < 4294967281 → w.cell? ⟨m, 0, none⟩ = some (.int .i64 q) → 1 ≤ sep.size → 1 ≤ n → n ≤ 9223372036854775807 → Calls P g #[.string s, .string sep, .int .i64 n] w fun e w' =>
      e = .returned (.slice (some ⟨w.heap.size, 0, none⟩) (Lib.splitB sep 0 (min n (s.size + 1) - 1) s).length (min n (s.size + 1))) ∧ w' = w.alloc (.cells (Lib.cellsOf (Lib.splitB sep 0 (min n (s.size + 1) - 1) s) (min n (s.size + 1))) t)) : XxOk P fx (m * 16 + 9) g := by
  intro ts r vs G w gl hg hx hl hr
  right
  have k1 : (m * 16 + 6) % 16 = 6 := by omega
  have k2 : (m * 16 + 6) / 16 = m := by omega
  have k3 : m * 16 + 9 = (m * 16 + 6) + 3 := rfl
  rw [k3] at hx
  simp only [xfun, k1, k2] at hx
  match ts, hx with
  | [.str a, .str b, .int .i64 n], hx =>
    simp only [xcon] at hx
    split at hx
    · rename_i q hgl
      split at hx
      · rename_i hlen
        obtain ⟨c1, c2, c3, c4⟩ := hlen
        injection hx with hx
        subst hx
        obtain ⟨v, hv, hvr, _⟩ := hg m _ 0 _ hgl rfl
        cases hvr
        obtain ⟨l⟩ := vs
        match l, hl with
        | [x, y, z], _ =>
          have ha := hr 0 x _ rfl rfl
          have hb := hr 1 y _ rfl rfl
          have hz := hr 2 z _ rfl rfl
          cases ha
          cases hb
          cases hz
          rename_i s sep _
          have hsep : 1 ≤ sep.size := by rw [Lib.size_eq]; exact c2
          have en : ((n.toNat : Nat) : Int) = n := Int.toNat_of_nonneg (by omega)
          have hcc := hc s sep n.toNat q w (by rw [Lib.size_eq]; exact c1) hv hsep (by omega) (by omega)
          rw [en] at hcc
          refine ⟨he _ _, hcc.mono ?_⟩
          rintro e w' ⟨rfl, rfl⟩
          refine ⟨_, fun b o => G.st b o ∨ b = w.heap.size, rfl, RowKit.Below.alloc (RowKit.Below.refl _ _) (Nat.le_refl _) _, fun _ _ h => .inl h, fun b o h => ?_, .t ?_⟩
          · rcases h with h | h
            · exact .inl h
            · subst h; exact .inr ⟨Nat.le_refl _, by simp⟩
          · have hle := Lib.splitB_length_le sep 0 (min n.toNat (s.size + 1) - 1) s
            have := strs_alloc (st := G.st) (w := w) (xs := Lib.splitB sep 0 (min n.toNat (s.size + 1) - 1) s) (N := min n.toNat (s.size + 1)) (t := t) (by omega)
            rw [Lib.splitB_data] at this
            rw [Lib.splitN, ← Lib.size_eq]
            exact this
      · cases hx
    · cases hx
/-- strings.Cut, by its contract. -/
theorem cut_ok {fx : List (Nat × Nat)} {g m : Nat} (he : ∀ args w, (callFunc g args).run P w = .ok (.enter g args) w)
    (hc : ∀ (s sep : ByteArray) (n : Int) (w : World), s.size < 4294967281 → w.cell? ⟨m, 0, none⟩ = some (.int .i64 n) → Calls P g #[.string s, .string sep] w fun e w' =>
      e = .returned (.tuple #[.string ⟨(Lib.cut s.data.toList sep.data.toList).1.toArray⟩, .string ⟨(Lib.cut s.data.toList sep.data.toList).2.1.toArray⟩, .bool (Lib.cut s.data.toList sep.data.toList).2.2]) ∧ RowKit.Below w.heap.size w w') : XxOk P fx (m * 16 + 6) g := by
  intro ts r vs G w gl hg hx hl hr
  right
  have k1 : (m * 16 + 3) % 16 = 3 := by omega
  have k2 : (m * 16 + 3) / 16 = m := by omega
  have k3 : m * 16 + 6 = (m * 16 + 3) + 3 := rfl
  rw [k3] at hx
  simp only [xfun, k1, k2] at hx
  match ts, hx with
  | [.str a, .str b], hx =>
    simp only [xcon] at hx
    split at hx
    · rename_i n hgl
      split at hx
      · rename_i hlen
        injection hx with hx
        subst hx
        obtain ⟨v, hv, hvr, _⟩ := hg m _ 0 _ hgl rfl
        cases hvr
        obtain ⟨l⟩ := vs
        match l, hl with
        | [x, y], _ =>
          have ha := hr 0 x _ rfl rfl
          have hb := hr 1 y _ rfl rfl
          cases ha
          cases hb
          rename_i s sep _
          refine ⟨he _ _, (hc s sep n w (by rw [Lib.size_eq]; exact hlen) hv).mono ?_⟩
          rintro e w' ⟨rfl, hbel⟩
          refine ⟨_, G.st, rfl, hbel, fun _ _ h => h, fun _ _ h => .inl h, ?_⟩
          refine .tup _ _ rfl fun i v q hv hq => ?_
          match i with
          | 0 => simp at hv hq; subst hv hq; exact .t (.str ⟨(Lib.cut s.data.toList sep.data.toList).1.toArray⟩)
          | 1 => simp at hv hq; subst hv hq; exact .t (.str ⟨(Lib.cut s.data.toList sep.data.toList).2.1.toArray⟩)
          | 2 => simp at hv hq; subst hv hq; exact .t (.bool _)
          | i + 3 => simp at hv
      · cases hx
    · cases hx
end Go.Pi
