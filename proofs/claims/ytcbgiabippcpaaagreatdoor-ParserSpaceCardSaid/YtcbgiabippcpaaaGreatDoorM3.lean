/- Contracts: gaps. -/
import Derived.Test.YtcbgiabippcpaaaGreatDoorM2
set_option maxRecDepth 10000
set_option linter.unusedVariables false
set_option linter.unusedSimpArgs false
namespace Go.Proofs.YtcbgiabippcpaaaGreatDoor
open Go.Pi Go.Lx
variable {gl : Nat → Option (List T)}

/-- Bytes ahead of the next line feed. -/
def cm : List UInt8 → Nat
  | [] => 0
  | c :: r => if c = 10 then 0 else cm r + 1
theorem cm_le : ∀ r, cm r ≤ r.length := by
  intro r
  induction r with
  | nil => simp [cm]
  | cons c r ih => simp only [cm, List.length_cons]; split <;> omega
theorem gap_cm : ∀ r, gapM true r = cm r + gapM false (r.drop (cm r)) := by
  intro r
  induction r with
  | nil => simp [cm, gapM]
  | cons c r ih =>
    by_cases h : c = 10
    · subst h
      simp [cm, gapM, isBlk]
    · have : (c != 10) = true := by simpa using h
      simp only [cm, if_neg h, gapM, this, List.drop_succ_cons]
      omega
theorem u8_lit {c : UInt8} (n : Nat) (hn : n < 256) : (decide (c = UInt8.ofNat n)) = decide ((c.toNat : Int) = (n : Int)) := by
  have := @u8_eq c n hn
  by_cases h : c = UInt8.ofNat n
  · rw [decide_eq_true h, decide_eq_true (this.1 h)]
  · rw [decide_eq_false h, decide_eq_false (fun e => h (this.2 e))]
theorem ne10 {c : UInt8} : (c = 10) ↔ ((c.toNat : Int) = 10) := u8_eq (n := 10) (by omega)
theorem ne45 {c : UInt8} : (c = 45) ↔ ((c.toNat : Int) = 45) := u8_eq (n := 45) (by omega)
theorem blk_yes {c : UInt8} (h : isBlk c = true) : (c.toNat : Int) = 32 ∨ (c.toNat : Int) = 9 ∨ (c.toNat : Int) = 13 ∨ (c.toNat : Int) = 10 := by
  simp only [isBlk, Bool.or_eq_true, beq_iff_eq] at h
  rcases h with ((h | h) | h) | h <;> subst h
  · exact .inl rfl
  · exact .inr (.inl rfl)
  · exact .inr (.inr (.inl rfl))
  · exact .inr (.inr (.inr rfl))
theorem blk_no {c : UInt8} (h : isBlk c = false) : ¬ (c.toNat : Int) = 32 ∧ ¬ (c.toNat : Int) = 9 ∧ ¬ (c.toNat : Int) = 13 ∧ ¬ (c.toNat : Int) = 10 := by
  simp only [isBlk, Bool.or_eq_false_iff, beq_eq_false_iff_ne] at h
  obtain ⟨⟨⟨h1, h2⟩, h3⟩, h4⟩ := h
  exact ⟨fun e => h1 ((u8_eq (n := 32) (by omega)).2 e), fun e => h2 ((u8_eq (n := 9) (by omega)).2 e), fun e => h3 ((u8_eq (n := 13) (by omega)).2 e), fun e => h4 ((u8_eq (n := 10) (by omega)).2 e)⟩
theorem slice_from {s : List UInt8} {i : Nat} (h : i ≤ s.length) : sliceS (.t (.str s)) (some (.t (.int .i64 (i : Int)))) none = some (.t (.str (s.drop i))) := by
  have : (0 : Int) ≤ (i : Int) := by omega
  simp only [sliceS, bound, this, if_true, Int.toNat_natCast, h, Nat.le_refl, and_self, List.take_length]
/-- The rest of a comment, in skip. -/
theorem loop86a {s : List UInt8} (hl : s.length ≤ 281474976710656) {sg : Sg} {ow : Ow} (Q : Ex → S → Prop) : ∀ (r : List UInt8) (i : Nat) (fr : List PV), s.drop i = r →
    FrAt fr [(0, .t (.str s)), (1, .t (.int .i64 i))] →
    (∀ fr', FrAt fr' [(0, .t (.str s)), (1, .t (.int .i64 ((i + cm r : Nat) : Int)))] → Q (.exit 2) ⟨fr', sg, ow⟩) →
    Xl F gl lb86_0 ⟨fr, sg, ow⟩ Q ⟨⟩ := by
  intro r
  induction r with
  | nil =>
    intro i fr hd hf h1
    have hd := drop_nil' hd
    simp only [FrAt_cons, FrAt_nil] at hf
    obtain ⟨f0, f1, -⟩ := hf
    refine Xl.step ?_
    simp only [lb86_0]
    have c1 : ¬ ((i : Int) < (s.length : Int)) := by omega
    simp only [wA, seval, reduceCtorEq, reduceIte, f0, f1, c1]
    repeat' ((with_reducible first | refine xG_dec ?_ ?_ | refine xG_ndec ?_ ?_ | refine xG_nsplit ?_ ?_ | refine xG_split ?_ ?_ | refine xC_dec ?_ ?_ | refine xC_ndec ?_ ?_ | refine xC_nsplit ?_ ?_ | refine xC_split ?_ ?_) <;> intro h <;> (try simp only [wA, seval, reduceCtorEq, reduceIte, f0, f1, c1, h]))
    exact h1 _ (by simp only [FrAt_cons, FrAt_nil, wFr, Nat.reduceEqDiff, Nat.one_ne_zero, Nat.zero_ne_one, reduceIte, and_self, and_true, true_and, f0, f1, cm, Nat.add_zero])
  | cons x r ih =>
    intro i fr hd hf h1
    obtain ⟨hx, hr, hi⟩ := drop_cons hd
    simp only [FrAt_cons, FrAt_nil] at hf
    obtain ⟨f0, f1, -⟩ := hf
    refine Xl.step ?_
    simp only [lb86_0]
    have c1 : (i : Int) < (s.length : Int) := by omega
    have c0 : (0 : Int) ≤ (i : Int) := by omega
    have hw1 : IntKind.wrap .i64 ((i : Int) + 1) = ((i + 1 : Nat) : Int) := by rw [IntWalk.i64_in _ (by omega)]; omega
    by_cases c : x = 10
    · have d := ne10.1 c
      simp only [wA, seval, reduceCtorEq, reduceIte, f0, f1, c1, c0, hw1, Int.toNat_natCast, hx, d, Bool.not_true]
      repeat' ((with_reducible first | refine xG_dec ?_ ?_ | refine xG_ndec ?_ ?_ | refine xG_nsplit ?_ ?_ | refine xG_split ?_ ?_ | refine xC_dec ?_ ?_ | refine xC_ndec ?_ ?_ | refine xC_nsplit ?_ ?_ | refine xC_split ?_ ?_) <;> intro h <;> (try simp only [wA, seval, reduceCtorEq, reduceIte, f0, f1, c1, c0, hw1, Int.toNat_natCast, hx, d, Bool.not_true, h]))
      exact h1 _ (by simp only [FrAt_cons, FrAt_nil, wFr, Nat.reduceEqDiff, Nat.one_ne_zero, Nat.zero_ne_one, reduceIte, and_self, and_true, true_and, f0, f1, cm, if_pos c, Nat.add_zero])
    · have d : ¬ ((x.toNat : Int) = 10) := fun e => c (ne10.2 e)
      simp only [wA, seval, reduceCtorEq, reduceIte, f0, f1, c1, c0, hw1, Int.toNat_natCast, hx, d, Bool.not_false]
      repeat' ((with_reducible first | refine xG_dec ?_ ?_ | refine xG_ndec ?_ ?_ | refine xG_nsplit ?_ ?_ | refine xG_split ?_ ?_ | refine xC_dec ?_ ?_ | refine xC_ndec ?_ ?_ | refine xC_nsplit ?_ ?_ | refine xC_split ?_ ?_) <;> intro h <;> (try simp only [wA, seval, reduceCtorEq, reduceIte, f0, f1, c1, c0, hw1, Int.toNat_natCast, hx, d, Bool.not_false, h]))
      refine ih (i + 1) _ hr (by simp only [FrAt_cons, FrAt_nil, wFr, Nat.reduceEqDiff, Nat.one_ne_zero, Nat.zero_ne_one, reduceIte, and_self, and_true, true_and, f0]) fun fr' h => h1 fr' ?_
      rw [cm, if_neg c, show i + (cm r + 1) = i + 1 + cm r by omega]
      exact h
theorem hasP_dash (c : UInt8) (r : List UInt8) : hasP (c :: r) [45, 45] = (c == 45 && r.head? == some 45) := by
  cases r with
  | nil => simp [hasP]
  | cons d r =>
    by_cases h1 : c = 45 <;> by_cases h2 : d = 45 <;> simp [hasP, h1, h2]
theorem loop86 {s : List UInt8} (hl : s.length ≤ 281474976710656) {sg : Sg} {ow : Ow} (Q : Ex → S → Prop) : ∀ (n : Nat) (r : List UInt8) (i : Nat) (fr : List PV), r.length ≤ n → s.drop i = r →
    FrAt fr [(0, .t (.str s)), (1, .t (.int .i64 i))] →
    (∀ fr', FrAt fr' [(0, .t (.str s)), (1, .t (.int .i64 ((i + gapM false r : Nat) : Int)))] → Q (.exit 0) ⟨fr', sg, ow⟩) →
    (∀ fr', fget fr' 4 = .t (.int .i64 ((i + gapM false r : Nat) : Int)) → Q .ret ⟨fr', sg, ow⟩) →
    Xl F gl lb86_1 ⟨fr, sg, ow⟩ Q ⟨⟩ := by
  intro n
  induction n with
  | zero =>
    intro r i fr hn hd hf h1 h2
    have hr0 : r = [] := by simpa using hn
    subst hr0
    have hd := drop_nil' hd
    simp only [FrAt_cons, FrAt_nil] at hf
    obtain ⟨f0, f1, -⟩ := hf
    refine Xl.step ?_
    simp only [lb86_1]
    have c1 : ¬ ((i : Int) < (s.length : Int)) := by omega
    simp only [wA, seval, reduceCtorEq, reduceIte, f0, f1, c1]
    repeat' ((with_reducible first | refine xG_dec ?_ ?_ | refine xG_ndec ?_ ?_ | refine xG_nsplit ?_ ?_ | refine xG_split ?_ ?_ | refine xC_dec ?_ ?_ | refine xC_ndec ?_ ?_ | refine xC_nsplit ?_ ?_ | refine xC_split ?_ ?_) <;> intro h <;> (try simp only [wA, seval, reduceCtorEq, reduceIte, f0, f1, c1, h]))
    exact h1 _ (by simp only [FrAt_cons, FrAt_nil, wFr, Nat.reduceEqDiff, Nat.one_ne_zero, Nat.zero_ne_one, reduceIte, and_self, and_true, true_and, f0, f1, gapM, Nat.add_zero])
  | succ n ih =>
    intro r i fr hn hd hf h1 h2
    cases r with
    | nil =>
      have hd := drop_nil' hd
      simp only [FrAt_cons, FrAt_nil] at hf
      obtain ⟨f0, f1, -⟩ := hf
      refine Xl.step ?_
      simp only [lb86_1]
      have c1 : ¬ ((i : Int) < (s.length : Int)) := by omega
      simp only [wA, seval, reduceCtorEq, reduceIte, f0, f1, c1]
      repeat' ((with_reducible first | refine xG_dec ?_ ?_ | refine xG_ndec ?_ ?_ | refine xG_nsplit ?_ ?_ | refine xG_split ?_ ?_ | refine xC_dec ?_ ?_ | refine xC_ndec ?_ ?_ | refine xC_nsplit ?_ ?_ | refine xC_split ?_ ?_) <;> intro h <;> (try simp only [wA, seval, reduceCtorEq, reduceIte, f0, f1, c1, h]))
      exact h1 _ (by simp only [FrAt_cons, FrAt_nil, wFr, Nat.reduceEqDiff, Nat.one_ne_zero, Nat.zero_ne_one, reduceIte, and_self, and_true, true_and, f0, f1, gapM, Nat.add_zero])
    | cons x r =>
      obtain ⟨hx, hr, hi⟩ := drop_cons hd
      simp only [FrAt_cons, FrAt_nil] at hf
      obtain ⟨f0, f1, -⟩ := hf
      simp only [List.length_cons] at hn
      have c1 : (i : Int) < (s.length : Int) := by omega
      have c0 : (0 : Int) ≤ (i : Int) := by omega
      have hw1 : IntKind.wrap .i64 ((i : Int) + 1) = ((i + 1 : Nat) : Int) := by rw [IntWalk.i64_in _ (by omega)]; omega
      have hsl := slice_from (s := s) (i := i) (by omega)
      rw [hd] at hsl
      refine Xl.step ?_
      simp only [lb86_1]
      cases hb : isBlk x with
      | true =>
        have e : gapM false (x :: r) = gapM false r + 1 := by simp only [gapM, hb, if_true]
        rw [e] at h1 h2
        have e2 : i + (gapM false r + 1) = i + 1 + gapM false r := by omega
        rw [e2] at h1 h2
        rcases blk_yes hb with d | d | d | d
        · simp only [wA, seval, reduceCtorEq, reduceIte, f0, f1, c1, c0, hw1, Int.toNat_natCast, hx, d]
          repeat' ((with_reducible first | refine xG_dec ?_ ?_ | refine xG_ndec ?_ ?_ | refine xG_nsplit ?_ ?_ | refine xG_split ?_ ?_ | refine xC_dec ?_ ?_ | refine xC_ndec ?_ ?_ | refine xC_nsplit ?_ ?_ | refine xC_split ?_ ?_) <;> intro h <;> (try simp only [wA, seval, reduceCtorEq, reduceIte, f0, f1, c1, c0, hw1, Int.toNat_natCast, hx, d, h]))
          exact ih r (i + 1) _ (by omega) hr (by simp only [FrAt_cons, FrAt_nil, wFr, Nat.reduceEqDiff, Nat.one_ne_zero, Nat.zero_ne_one, reduceIte, and_self, and_true, true_and, f0]) h1 h2
        · simp only [wA, seval, reduceCtorEq, reduceIte, f0, f1, c1, c0, hw1, Int.toNat_natCast, hx, d]
          repeat' ((with_reducible first | refine xG_dec ?_ ?_ | refine xG_ndec ?_ ?_ | refine xG_nsplit ?_ ?_ | refine xG_split ?_ ?_ | refine xC_dec ?_ ?_ | refine xC_ndec ?_ ?_ | refine xC_nsplit ?_ ?_ | refine xC_split ?_ ?_) <;> intro h <;> (try simp only [wA, seval, reduceCtorEq, reduceIte, f0, f1, c1, c0, hw1, Int.toNat_natCast, hx, d, h]))
          exact ih r (i + 1) _ (by omega) hr (by simp only [FrAt_cons, FrAt_nil, wFr, Nat.reduceEqDiff, Nat.one_ne_zero, Nat.zero_ne_one, reduceIte, and_self, and_true, true_and, f0]) h1 h2
        · simp only [wA, seval, reduceCtorEq, reduceIte, f0, f1, c1, c0, hw1, Int.toNat_natCast, hx, d]
          repeat' ((with_reducible first | refine xG_dec ?_ ?_ | refine xG_ndec ?_ ?_ | refine xG_nsplit ?_ ?_ | refine xG_split ?_ ?_ | refine xC_dec ?_ ?_ | refine xC_ndec ?_ ?_ | refine xC_nsplit ?_ ?_ | refine xC_split ?_ ?_) <;> intro h <;> (try simp only [wA, seval, reduceCtorEq, reduceIte, f0, f1, c1, c0, hw1, Int.toNat_natCast, hx, d, h]))
          exact ih r (i + 1) _ (by omega) hr (by simp only [FrAt_cons, FrAt_nil, wFr, Nat.reduceEqDiff, Nat.one_ne_zero, Nat.zero_ne_one, reduceIte, and_self, and_true, true_and, f0]) h1 h2
        · simp only [wA, seval, reduceCtorEq, reduceIte, f0, f1, c1, c0, hw1, Int.toNat_natCast, hx, d]
          repeat' ((with_reducible first | refine xG_dec ?_ ?_ | refine xG_ndec ?_ ?_ | refine xG_nsplit ?_ ?_ | refine xG_split ?_ ?_ | refine xC_dec ?_ ?_ | refine xC_ndec ?_ ?_ | refine xC_nsplit ?_ ?_ | refine xC_split ?_ ?_) <;> intro h <;> (try simp only [wA, seval, reduceCtorEq, reduceIte, f0, f1, c1, c0, hw1, Int.toNat_natCast, hx, d, h]))
          exact ih r (i + 1) _ (by omega) hr (by simp only [FrAt_cons, FrAt_nil, wFr, Nat.reduceEqDiff, Nat.one_ne_zero, Nat.zero_ne_one, reduceIte, and_self, and_true, true_and, f0]) h1 h2
      | false =>
        obtain ⟨d1, d2, d3, d4⟩ := blk_no hb
        have a := @ok111 gl (x :: r) [45, 45]
        rw [hasP_dash] at a
        cases hc : (x == 45 && r.head? == some 45) with
        | false =>
          have e : gapM false (x :: r) = 0 := by simp only [gapM, hb, hc, Bool.false_eq_true, if_false]
          rw [e] at h1 h2
          rw [hc] at a
          simp only [wA, seval, reduceCtorEq, reduceIte, f0, f1, c1, c0, hw1, Int.toNat_natCast, hx, d1, d2, d3, d4, hsl, a, Bool.not_false]
          repeat' ((with_reducible first | refine xG_dec ?_ ?_ | refine xG_ndec ?_ ?_ | refine xG_nsplit ?_ ?_ | refine xG_split ?_ ?_ | refine xC_dec ?_ ?_ | refine xC_ndec ?_ ?_ | refine xC_nsplit ?_ ?_ | refine xC_split ?_ ?_) <;> intro h <;> (try simp only [wA, seval, reduceCtorEq, reduceIte, f0, f1, c1, c0, hw1, Int.toNat_natCast, hx, d1, d2, d3, d4, hsl, a, Bool.not_false, h]))
          exact h2 _ (by simp only [FrAt_cons, FrAt_nil, wFr, Nat.reduceEqDiff, Nat.one_ne_zero, Nat.zero_ne_one, reduceIte, and_self, and_true, true_and, f1, Nat.add_zero])
        | true =>
          have e : gapM false (x :: r) = gapM true (x :: r) := by
            simp only [gapM, hb, hc, Bool.false_eq_true, if_false, if_true]
            simp only [Bool.and_eq_true, beq_iff_eq] at hc
            rw [hc.1]
            rfl
          rw [gap_cm] at e
          rw [e] at h1 h2
          rw [hc] at a
          have hx10 : x ≠ 10 := by
            simp only [Bool.and_eq_true, beq_iff_eq] at hc
            rw [hc.1]; decide
          have hcm : cm (x :: r) = cm r + 1 := by simp only [cm, if_neg hx10]
          have hle := cm_le r
          simp only [wA, seval, reduceCtorEq, reduceIte, f0, f1, c1, c0, hw1, Int.toNat_natCast, hx, d1, d2, d3, d4, hsl, a, Bool.not_true]
          repeat' ((with_reducible first | refine xG_dec ?_ ?_ | refine xG_ndec ?_ ?_ | refine xG_nsplit ?_ ?_ | refine xG_split ?_ ?_ | refine xC_dec ?_ ?_ | refine xC_ndec ?_ ?_ | refine xC_nsplit ?_ ?_ | refine xC_split ?_ ?_) <;> intro h <;> (try simp only [wA, seval, reduceCtorEq, reduceIte, f0, f1, c1, c0, hw1, Int.toNat_natCast, hx, d1, d2, d3, d4, hsl, a, Bool.not_true, h]))
          refine loop86a hl _ (x :: r) i _ hd (by simp only [FrAt_cons, FrAt_nil, wFr, Nat.reduceEqDiff, Nat.one_ne_zero, Nat.zero_ne_one, reduceIte, and_self, and_true, true_and, f0, f1]) fun fr' h => ?_
          simp only [wA, seval, reduceCtorEq, reduceIte]
          repeat' ((with_reducible first | refine xG_dec ?_ ?_ | refine xG_ndec ?_ ?_ | refine xG_nsplit ?_ ?_ | refine xG_split ?_ ?_ | refine xC_dec ?_ ?_ | refine xC_ndec ?_ ?_ | refine xC_nsplit ?_ ?_ | refine xC_split ?_ ?_) <;> intro h <;> (try simp only [wA, seval, reduceCtorEq, reduceIte, h]))
          refine ih ((x :: r).drop (cm (x :: r))) (i + cm (x :: r)) fr' (by rw [hcm]; simp only [List.length_drop, List.length_cons]; omega) (by rw [← List.drop_drop, hd]) h ?_ ?_
          · intro fr'' h'
            rw [Nat.add_assoc] at h'
            exact h1 fr'' h'
          · intro fr'' h'
            rw [Nat.add_assoc] at h'
            exact h2 fr'' h'
theorem ok86 (s : List UInt8) (hl : s.length ≤ 281474976710656) (i : Nat) {K : PV → Prop} : XcP F gl 86 [.str s, .int .i64 i] K ⟨⟩ ↔ K (.t (.int .i64 ((i + gapM false (s.drop i) : Nat) : Int))) := by
  refine Ret.iff (Ret.of F86 rfl ?_)
  simp only [ir86]
  simp only [wA, seval, reduceCtorEq, reduceIte]
  repeat' ((with_reducible first | refine xG_dec ?_ ?_ | refine xG_ndec ?_ ?_ | refine xG_nsplit ?_ ?_ | refine xG_split ?_ ?_ | refine xC_dec ?_ ?_ | refine xC_ndec ?_ ?_ | refine xC_nsplit ?_ ?_ | refine xC_split ?_ ?_) <;> intro h <;> (try simp only [wA, seval, reduceCtorEq, reduceIte, h]))
  refine loop86 hl _ (s.drop i).length (s.drop i) i _ (Nat.le_refl _) rfl (by simp only [FrAt_cons, FrAt_nil, wFr, Nat.reduceEqDiff, Nat.one_ne_zero, Nat.zero_ne_one, reduceIte, and_self, and_true, true_and]) ?_ ?_
  · intro fr' h
    simp only [FrAt_cons, FrAt_nil] at h
    obtain ⟨f0, f1, -⟩ := h
    simp only [wA, seval, reduceCtorEq, reduceIte, f0, f1]
    repeat' ((with_reducible first | refine xG_dec ?_ ?_ | refine xG_ndec ?_ ?_ | refine xG_nsplit ?_ ?_ | refine xG_split ?_ ?_ | refine xC_dec ?_ ?_ | refine xC_ndec ?_ ?_ | refine xC_nsplit ?_ ?_ | refine xC_split ?_ ?_) <;> intro h <;> (try simp only [wA, seval, reduceCtorEq, reduceIte, f0, f1, h]))
  · intro fr' h
    simp only [wA, seval, reduceCtorEq, reduceIte, h]
    repeat' ((with_reducible first | refine xG_dec ?_ ?_ | refine xG_ndec ?_ ?_ | refine xG_nsplit ?_ ?_ | refine xG_split ?_ ?_ | refine xC_dec ?_ ?_ | refine xC_ndec ?_ ?_ | refine xC_nsplit ?_ ?_ | refine xC_split ?_ ?_) <;> intro h <;> (try simp only [wA, seval, reduceCtorEq, reduceIte, h, h]))
end Go.Proofs.YtcbgiabippcpaaaGreatDoor
