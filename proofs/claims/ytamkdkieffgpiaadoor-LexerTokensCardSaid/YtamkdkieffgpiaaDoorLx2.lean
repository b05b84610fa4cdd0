/- LX 2: tokens joined again; numbers. No program in sight. -/
import Derived.Test.YtamkdkieffgpiaaDoorLx1
namespace Go.Lx

structure IsGap (g : List UInt8) : Prop where
  head : ∃ b g', g = b :: g' ∧ isBlk b = true
  skip : ∀ x, gapM false (g ++ x) = g.length + gapM false x
def joinT : List (List UInt8 × Tok) → List UInt8
  | [] => []
  | (g, t) :: r => g ++ (t.text ++ joinT r)
/-- Equal apart from the positions. -/
def like (a b : Tok) : Prop := a.kind = b.kind ∧ a.text = b.text ∧ a.val = b.val
def Alike : List Tok → List Tok → Prop
  | [], [] => True
  | a :: l, b :: m => like a b ∧ Alike l m
  | _, _ => False
theorem alike_refl : ∀ l, Alike l l := by
  intro l
  induction l with
  | nil => trivial
  | cons a l ih => exact ⟨⟨rfl, rfl, rfl⟩, ih⟩
theorem alike_shift (d : Nat) : ∀ l, Alike (l.map (shiftT d)) l := by
  intro l
  induction l with
  | nil => trivial
  | cons a l ih => exact ⟨⟨rfl, rfl, rfl⟩, ih⟩
theorem alike_app : ∀ {a b c d : List Tok}, Alike a b → Alike c d → Alike (a ++ c) (b ++ d) := by
  intro a
  induction a with
  | nil => intro b c d h1 h2; cases b with
    | nil => exact h2
    | cons x b => cases h1
  | cons x a ih => intro b c d h1 h2; cases b with
    | nil => cases h1
    | cons y b => exact ⟨h1.1, ih h1.2 h2⟩
theorem alike_trans : ∀ {a b c : List Tok}, Alike a b → Alike b c → Alike a c := by
  intro a
  induction a with
  | nil => intro b c h1 h2; cases b with
    | nil => exact h2
    | cons x b => cases h1
  | cons x a ih => intro b c h1 h2; cases b with
    | nil => cases h1
    | cons y b => cases c with
      | nil => cases h2
      | cons z c => exact ⟨⟨h1.1.1.trans h2.1.1, h1.1.2.1.trans h2.1.2.1, h1.1.2.2.trans h2.1.2.2⟩, ih h1.2 h2.2⟩
theorem alike_symm : ∀ {a b : List Tok}, Alike a b → Alike b a := by
  intro a
  induction a with
  | nil => intro b h1; cases b with
    | nil => trivial
    | cons x b => cases h1
  | cons x a ih => intro b h1; cases b with
    | nil => cases h1
    | cons y b => exact ⟨⟨h1.1.1.symm, h1.1.2.1.symm, h1.1.2.2.symm⟩, ih h1.2⟩
theorem alike_len : ∀ {a b : List Tok}, Alike a b → a.length = b.length := by
  intro a
  induction a with
  | nil => intro b h1; cases b with
    | nil => rfl
    | cons x b => cases h1
  | cons x a ih => intro b h1; cases b with
    | nil => cases h1
    | cons y b => simp [ih h1.2]
theorem lexR_join : ∀ (l : List (List UInt8 × Tok)) (s : List UInt8) (pos q : Nat), lexR pos s = .toks (l.map (·.2)) → (∀ p, p ∈ l → IsGap p.1) → ∃ l', lexR q (joinT l) = .toks l' ∧ Alike l' (l.map (·.2)) := by
  intro l
  induction l with
  | nil => intro s pos q h _; exact absurd rfl (lexR_ne h)
  | cons p rest ih =>
    intro s pos q h hg
    obtain ⟨g, t⟩ := p
    have hg0 : IsGap g := hg (g, t) List.mem_cons_self
    rcases lex_cases s with h1 | ⟨h1, ⟨e, hn⟩ | ⟨k, n, v, hn⟩⟩
    · rw [lexR_end h1] at h
      injection h with h
      simp only [List.map_cons, List.cons.injEq] at h
      obtain ⟨rfl, h⟩ := h
      have hr : rest = [] := by simpa using h.symm
      subst hr
      have hgg : gap (g ++ ([] ++ [])) = (g ++ ([] ++ [] : List UInt8)).length := by
        have := hg0.skip []
        simpa [gapM] using this
      refine ⟨_, lexR_end (s := joinT [(g, ⟨0, [], 0, pos + s.length⟩)]) hgg, ⟨rfl, rfl, rfl⟩, trivial⟩
    · rw [lexR_err h1 hn] at h; cases h
    · rw [lexR_ok h1 hn] at h
      cases hq : lexR (pos + gap s + n) (s.drop (gap s + n)) with
      | err p e => rw [hq] at h; cases h
      | toks m =>
        rw [hq] at h
        injection h with h
        simp only [List.map_cons, List.cons.injEq] at h
        obtain ⟨rfl, rfl⟩ := h
        have hne := lexR_ne hq
        have hp := next_pos hn
        have hnt := next_take hn
        have hst : gapM false (s.drop (gap s)) = 0 := gap_stop s false
        obtain ⟨c, r, hcr⟩ : ∃ c r, s.drop (gap s) = c :: r := by
          cases hd : s.drop (gap s) with
          | nil => rw [hd] at hp; simp at hp; omega
          | cons c r => exact ⟨c, r, rfl⟩
        rw [hcr] at hst hp hn hnt ⊢
        have hb := gap0_blk hst
        obtain ⟨i, rfl⟩ : ∃ i, n = i + 1 := ⟨n - 1, by omega⟩
        obtain ⟨b, x, hx, hbb⟩ : ∃ b x, joinT rest = b :: x ∧ isBlk b = true := by
          cases rest with
          | nil => exact absurd rfl hne
          | cons p rest =>
            obtain ⟨g2, t2⟩ := p
            obtain ⟨⟨b, g', rfl, hbb⟩, _⟩ := hg (g2, t2) (by simp)
            exact ⟨b, _, rfl, hbb⟩
        obtain ⟨l', hl', ha⟩ := ih _ _ (q + g.length + (i + 1)) hq fun p hp => hg p (List.mem_cons_of_mem _ hp)
        generalize htx : (c :: r).take (i + 1) = tx at hnt ⊢
        have htl : tx.length = i + 1 := by rw [← htx, List.length_take]; omega
        have htx' : tx = c :: r.take i := by rw [← htx]; rfl
        have hg1 : gapM false (tx ++ joinT rest) = 0 := by
          rw [hx, htx']
          show gapM false (c :: (r.take i ++ b :: x)) = 0
          simp only [gapM, hb, Bool.false_eq_true, if_false]
          have : ¬ ((c == 45 && (r.take i ++ b :: x).head? == some 45) = true) := by
            intro hc
            simp only [Bool.and_eq_true, beq_iff_eq] at hc
            obtain ⟨rfl, hh⟩ := hc
            rw [next_dash] at hn
            injection hn with _ hn _
            have : i = 0 := by omega
            subst this
            simp only [List.take_zero, List.nil_append, List.head?_cons, Option.some.injEq] at hh
            subst hh
            exact absurd hbb (by decide)
          rw [if_neg this]
        have hnx : next (tx ++ joinT rest) = .ok k (i + 1) v := by
          rw [hx, next_app (by simp [isSep, hbb]) x (by rw [htx']; simp)]
          exact hnt
        have hgap : gap (g ++ (tx ++ joinT rest)) = g.length := by
          have := hg0.skip (tx ++ joinT rest)
          rw [hg1] at this
          exact this
        have hdrop : (g ++ (tx ++ joinT rest)).drop (gap (g ++ (tx ++ joinT rest))) = tx ++ joinT rest := by rw [hgap, List.drop_left]
        have hlt : gap (g ++ (tx ++ joinT rest)) < (g ++ (tx ++ joinT rest)).length := by rw [hgap]; simp only [List.length_append]; omega
        have hd2 : (g ++ (tx ++ joinT rest)).drop (gap (g ++ (tx ++ joinT rest)) + (i + 1)) = joinT rest := by
          rw [← List.drop_drop, hdrop, ← htl, List.drop_left]
        have e := lexR_ok (pos := q) hlt (by rw [hdrop]; exact hnx)
        rw [hd2, hdrop, hgap, hl'] at e
        refine ⟨_, e, ⟨rfl, ?_, rfl⟩, ha⟩
        show (tx ++ joinT rest).take (i + 1) = tx
        rw [← htl, List.take_left]

/-! ### Numbers -/
def decD (u : Nat) : List UInt8 :=
  if _h : u < 10 then [UInt8.ofNat (48 + u)] else decD (u / 10) ++ [UInt8.ofNat (48 + u % 10)]
termination_by u
decreasing_by omega
theorem decD_small {u : Nat} (h : u < 10) : decD u = [UInt8.ofNat (48 + u)] := by rw [decD, dif_pos h]
theorem decD_big {u : Nat} (h : ¬ u < 10) : decD u = decD (u / 10) ++ [UInt8.ofNat (48 + u % 10)] := by rw [decD, dif_neg h]
theorem dig_toNat {d : Nat} (h : d < 10) : (UInt8.ofNat (48 + d)).toNat = 48 + d := by rw [UInt8.toNat_ofNat']; omega
theorem dig_isDig {d : Nat} (h : d < 10) : isDig (UInt8.ofNat (48 + d)) = true := by
  have := dig_toNat h
  simp only [isDig, Bool.and_eq_true, decide_eq_true_eq, UInt8.le_iff_toNat_le, this]
  exact ⟨by show 48 ≤ _; omega, by show _ ≤ 57; omega⟩
theorem decD_dig : ∀ (u : Nat) (c : UInt8), c ∈ decD u → isDig c = true := by
  intro u
  induction u using Nat.strongRecOn with
  | _ u ih =>
    intro c hc
    by_cases h : u < 10
    · rw [decD_small h] at hc
      simp only [List.mem_cons, List.not_mem_nil, or_false] at hc
      subst hc
      exact dig_isDig h
    · rw [decD_big h] at hc
      rcases List.mem_append.1 hc with hc | hc
      · exact ih (u / 10) (by omega) c hc
      · simp only [List.mem_cons, List.not_mem_nil, or_false] at hc
        subst hc
        exact dig_isDig (by omega)
theorem numV_snoc (l : List UInt8) (c : UInt8) : numV (l ++ [c]) = 10 * numV l + (c.toNat - 48) := by simp [numV]
theorem numV_decD : ∀ (u : Nat), numV (decD u) = u := by
  intro u
  induction u using Nat.strongRecOn with
  | _ u ih =>
    by_cases h : u < 10
    · rw [decD_small h]
      simp only [numV, List.foldl_cons, List.foldl_nil, dig_toNat h]
      omega
    · rw [decD_big h, numV_snoc, ih (u / 10) (by omega), dig_toNat (by omega)]
      omega
theorem decD_ne (u : Nat) : decD u ≠ [] := by
  by_cases h : u < 10
  · rw [decD_small h]; simp
  · rw [decD_big h]; simp
theorem decD_head : ∀ (u : Nat), 0 < u → (decD u).head? ≠ some 48 := by
  intro u
  induction u using Nat.strongRecOn with
  | _ u ih =>
    intro h0
    by_cases h : u < 10
    · rw [decD_small h]
      simp only [List.head?_cons, ne_eq, Option.some.injEq]
      intro e
      have := congrArg UInt8.toNat e
      rw [dig_toNat h] at this
      have : (48 + u) = 48 := this
      omega
    · rw [decD_big h]
      have hne := decD_ne (u / 10)
      cases hd : decD (u / 10) with
      | nil => exact absurd hd hne
      | cons c r =>
        have := ih (u / 10) (by omega) (by omega)
        rw [hd] at this
        exact this
theorem decD_len : ∀ (k u : Nat), u < 10 ^ (k + 1) → (decD u).length ≤ k + 1 := by
  intro k
  induction k with
  | zero => intro u h; rw [decD_small (by simpa using h)]; simp
  | succ k ih =>
    intro u h
    by_cases h' : u < 10
    · rw [decD_small h']; simp
    · rw [decD_big h', List.length_append]
      have : u / 10 < 10 ^ (k + 1) := by rw [Nat.pow_succ] at h; omega
      have := ih _ this
      simp only [List.length_cons, List.length_nil]; omega
theorem decD_len1 {u : Nat} (h : 1 < (decD u).length) : 0 < u := by
  rcases Nat.eq_zero_or_pos u with e | e
  · subst e; rw [decD_small (by omega)] at h; simp at h
  · exact e
/-- A number's text is the number's token. -/
theorem next_digits {t : List UInt8} (hd : ∀ c, c ∈ t → isDig c = true) (hne : t ≠ []) : next t = if t.head? = some 48 ∧ 1 < t.length then .err 2 else if 18446744073709551615 < numV t then .err 3 else .ok 3 t.length (numV t) := by
  have hs := span_full isDig t hd
  cases t with
  | nil => exact absurd rfl hne
  | cons c r =>
    have hc := hd c List.mem_cons_self
    have hl : isLet c = false := by
      simp only [isDig, isLet, Bool.and_eq_true, decide_eq_true_eq, UInt8.le_iff_toNat_le] at hc ⊢
      have h1 : c.toNat ≤ 57 := hc.2
      have : ¬ (97 ≤ c.toNat) := by omega
      simp only [Bool.and_eq_false_iff, decide_eq_false_iff_not]
      exact .inl this
    show (if isLet c then nextW (c :: r) else if isDig c then nextD (c :: r) else _) = _
    rw [hl, hc]
    simp only [Bool.false_eq_true, if_false, if_true, nextD, hs, List.take_length]
theorem isDig_blk {c : UInt8} (h : isDig c = true) : isBlk c = false ∧ c ≠ 45 := by
  simp only [isDig, Bool.and_eq_true, decide_eq_true_eq, UInt8.le_iff_toNat_le] at h
  have h1 : 48 ≤ c.toNat := h.1
  constructor
  · simp only [isBlk, Bool.or_eq_false_iff, beq_eq_false_iff_ne]
    refine ⟨⟨⟨?_, ?_⟩, ?_⟩, ?_⟩ <;> (intro e; subst e; exact absurd h1 (by decide))
  · intro e; subst e; exact absurd h1 (by decide)
theorem gap_digits {t : List UInt8} (hd : ∀ c, c ∈ t → isDig c = true) (x : List UInt8) (hne : t ≠ []) : gapM false (t ++ x) = 0 := by
  cases t with
  | nil => exact absurd rfl hne
  | cons c r =>
    obtain ⟨h1, h2⟩ := isDig_blk (hd c List.mem_cons_self)
    simp only [List.cons_append, gapM, h1, Bool.false_eq_true, if_false]
    rw [if_neg (by simp [h2])]
/-- A text of digits. -/
theorem lexR_digits {t : List UInt8} (hd : ∀ c, c ∈ t → isDig c = true) (hne : t ≠ []) (pos : Nat) : lexR pos t = if t.head? = some 48 ∧ 1 < t.length then .err pos 2 else if 18446744073709551615 < numV t then .err pos 3 else .toks [⟨3, t, numV t, pos⟩, ⟨0, [], 0, pos + t.length⟩] := by
  have hg : gap t = 0 := by have := gap_digits hd [] hne; rwa [List.append_nil] at this
  have hlt : gap t < t.length := by rw [hg]; exact List.length_pos_iff.2 hne
  have hn := next_digits hd hne
  split at hn
  · rename_i h; rw [if_pos h, lexR_err hlt (by rw [hg]; exact hn), hg]; rfl
  · rename_i h
    rw [if_neg h]
    split at hn
    · rename_i h2; rw [if_pos h2, lexR_err hlt (by rw [hg]; exact hn), hg]; rfl
    · rename_i h2
      rw [if_neg h2, lexR_ok hlt (by rw [hg]; exact hn), hg]
      simp only [Nat.zero_add, List.drop_zero, List.take_length, Nat.add_zero, List.drop_length]
      rw [lexR_end (by simp [gapM])]
      rfl
end Go.Lx
