/- Contracts: bytes, lists of names, spans, gaps. -/
import Derived.Test.YtcbgiabippcpaaaGreatDoorM36
import Derived.Test.YtcbgiabippcpaaaGreatDoorLx3
set_option maxRecDepth 10000
set_option linter.unusedVariables false
set_option linter.unusedSimpArgs false
namespace Go.Proofs.YtcbgiabippcpaaaGreatDoor
open Go.Pi Go.Lx
variable {gl : Nat → Option (List T)}
theorem okE112 (c : UInt8) {sg : Sg} {ow : Ow} {K : PV → Sg → Ow → Prop} : XcE F gl 112 [.t (tB c)] sg ow K ⟨⟩ ↔ K (.t (.bool (isDig c))) sg ow := by
  refine CallE.iff (XcE.of F112 rfl ?_)
  simp only [ir112]
  simp only [wA, seval, reduceCtorEq, reduceIte]
  repeat' ((with_reducible first | refine xG_dec ?_ ?_ | refine xG_ndec ?_ ?_ | refine xG_nsplit ?_ ?_ | refine xG_split ?_ ?_ | refine xC_dec ?_ ?_ | refine xC_ndec ?_ ?_ | refine xC_nsplit ?_ ?_ | refine xC_split ?_ ?_) <;> intro h <;> (try simp only [wA, seval, reduceCtorEq, reduceIte, h]))
  all_goals (simp_all [isDig_eq] <;> omega)
theorem ok125 (s : List UInt8) (c : UInt8) {K : PV → Prop} : XcP F gl 125 [.str s, tB c] K ⟨⟩ ↔ K (.t (.int .i64 (Lib.indexByte s c))) := by
  refine Ret.iff (Ret.of F125 rfl ?_)
  simp only [ir125]
  have e : c.toNat.toUInt8 = c := by simp
  simp only [wA, seval, reduceCtorEq, reduceIte, xfun, Int.toNat_natCast, e]
  repeat' ((with_reducible first | refine xG_dec ?_ ?_ | refine xG_ndec ?_ ?_ | refine xG_nsplit ?_ ?_ | refine xG_split ?_ ?_ | refine xC_dec ?_ ?_ | refine xC_ndec ?_ ?_ | refine xC_nsplit ?_ ?_ | refine xC_split ?_ ?_) <;> intro h <;> (try simp only [wA, seval, reduceCtorEq, reduceIte, xfun, Int.toNat_natCast, e, h]))
theorem ok115 (s : List UInt8) (c : UInt8) {K : PV → Prop} : XcP F gl 115 [.str s, tB c] K ⟨⟩ ↔ K (.t (.int .i64 (Lib.indexByte s c))) := by
  refine Ret.iff (Ret.of F115 rfl ?_)
  simp only [ir115]
  simp only [wA, seval, reduceCtorEq, reduceIte, ok125]
  repeat' ((with_reducible first | refine xG_dec ?_ ?_ | refine xG_ndec ?_ ?_ | refine xG_nsplit ?_ ?_ | refine xG_split ?_ ?_ | refine xC_dec ?_ ?_ | refine xC_ndec ?_ ?_ | refine xC_nsplit ?_ ?_ | refine xC_split ?_ ?_) <;> intro h <;> (try simp only [wA, seval, reduceCtorEq, reduceIte, ok125, h]))
end Go.Proofs.YtcbgiabippcpaaaGreatDoor

/- Contracts: names, numbers, symbols. -/
set_option maxRecDepth 10000
set_option linter.unusedVariables false
set_option linter.unusedSimpArgs false
namespace Go.Proofs.YtcbgiabippcpaaaGreatDoor
open Go.Pi Go.Lx
variable {gl : Nat → Option (List T)}
def hasP (s p : List UInt8) : Bool := decide (p.length ≤ s.length) && decide (s.take p.length = p)
theorem ok121 (s p : List UInt8) {K : PV → Prop} : XcP F gl 121 [.str s, .str p] K ⟨⟩ ↔ K (.t (.bool (hasP s p))) := by
  refine Ret.iff (Ret.of F121 rfl ?_)
  simp only [ir121]
  by_cases c : p.length ≤ s.length
  · have c' : (p.length : Int) ≤ (s.length : Int) := by omega
    have c2 : (0 : Int) ≤ (p.length : Int) := by omega
    simp only [wA, seval, reduceCtorEq, reduceIte, c', c2, sliceS, bound, Int.toNat_natCast, Nat.zero_le, c, and_self, List.drop_zero, hasP, Bool.true_and]
    repeat' ((with_reducible first | refine xG_dec ?_ ?_ | refine xG_ndec ?_ ?_ | refine xG_nsplit ?_ ?_ | refine xG_split ?_ ?_ | refine xC_dec ?_ ?_ | refine xC_ndec ?_ ?_ | refine xC_nsplit ?_ ?_ | refine xC_split ?_ ?_) <;> intro h <;> (try simp only [wA, seval, reduceCtorEq, reduceIte, c', c2, sliceS, bound, Int.toNat_natCast, Nat.zero_le, c, and_self, List.drop_zero, hasP, Bool.true_and, h]))
  · have c' : ¬ ((p.length : Int) ≤ (s.length : Int)) := by omega
    simp only [wA, seval, reduceCtorEq, reduceIte, c', hasP, c, Bool.false_and]
    repeat' ((with_reducible first | refine xG_dec ?_ ?_ | refine xG_ndec ?_ ?_ | refine xG_nsplit ?_ ?_ | refine xG_split ?_ ?_ | refine xC_dec ?_ ?_ | refine xC_ndec ?_ ?_ | refine xC_nsplit ?_ ?_ | refine xC_split ?_ ?_) <;> intro h <;> (try simp only [wA, seval, reduceCtorEq, reduceIte, c', hasP, c, Bool.false_and, h]))
theorem ok111 (s p : List UInt8) {K : PV → Prop} : XcP F gl 111 [.str s, .str p] K ⟨⟩ ↔ K (.t (.bool (hasP s p))) := by
  refine Ret.iff (Ret.of F111 rfl ?_)
  simp only [ir111]
  simp only [wA, seval, reduceCtorEq, reduceIte, ok121]
  repeat' ((with_reducible first | refine xG_dec ?_ ?_ | refine xG_ndec ?_ ?_ | refine xG_nsplit ?_ ?_ | refine xG_split ?_ ?_ | refine xC_dec ?_ ?_ | refine xC_ndec ?_ ?_ | refine xC_nsplit ?_ ?_ | refine xC_split ?_ ?_) <;> intro h <;> (try simp only [wA, seval, reduceCtorEq, reduceIte, ok121, h]))
end Go.Proofs.YtcbgiabippcpaaaGreatDoor

/- Contracts: gaps. -/
set_option maxRecDepth 10000
set_option linter.unusedVariables false
set_option linter.unusedSimpArgs false
namespace Go.Proofs.YtcbgiabippcpaaaGreatDoor
open Go.Pi Go.Lx
variable {gl : Nat → Option (List T)}
def cm : List UInt8 → Nat
  | [] => 0
  | c :: r => if c = 10 then 0 else cm r + 1
theorem cm_le : ∀ r, cm r ≤ r.length := by
  intro r
  induction r with
  | nil => simp [cm]
  | cons c r ih => simp only [cm, List.length_cons]; split <;> omega
theorem gap_cm : ∀ r, gapM true r = cm r + gapM false (r.drop (cm r)) := by
  intro r
  induction r with
  | nil => simp [cm, gapM]
  | cons c r ih =>
    by_cases h : c = 10
    · subst h
      simp [cm, gapM, isBlk]
    · have : (c != 10) = true := by simpa using h
      simp only [cm, if_neg h, gapM, this, List.drop_succ_cons]
      omega
theorem ne10 {c : UInt8} : (c = 10) ↔ ((c.toNat : Int) = 10) := u8_eq (n := 10) (by omega)
theorem blk_yes {c : UInt8} (h : isBlk c = true) : (c.toNat : Int) = 32 ∨ (c.toNat : Int) = 9 ∨ (c.toNat : Int) = 13 ∨ (c.toNat : Int) = 10 := by
  simp only [isBlk, Bool.or_eq_true, beq_iff_eq] at h
  rcases h with ((h | h) | h) | h <;> subst h
  · exact .inl rfl
  · exact .inr (.inl rfl)
  · exact .inr (.inr (.inl rfl))
  · exact .inr (.inr (.inr rfl))
theorem blk_no {c : UInt8} (h : isBlk c = false) : ¬ (c.toNat : Int) = 32 ∧ ¬ (c.toNat : Int) = 9 ∧ ¬ (c.toNat : Int) = 13 ∧ ¬ (c.toNat : Int) = 10 := by
  simp only [isBlk, Bool.or_eq_false_iff, beq_eq_false_iff_ne] at h
  obtain ⟨⟨⟨h1, h2⟩, h3⟩, h4⟩ := h
  exact ⟨fun e => h1 ((u8_eq (n := 32) (by omega)).2 e), fun e => h2 ((u8_eq (n := 9) (by omega)).2 e), fun e => h3 ((u8_eq (n := 13) (by omega)).2 e), fun e => h4 ((u8_eq (n := 10) (by omega)).2 e)⟩
theorem slice_from {s : List UInt8} {i : Nat} (h : i ≤ s.length) : sliceS (.t (.str s)) (some (.t (.int .i64 (i : Int)))) none = some (.t (.str (s.drop i))) := by
  have : (0 : Int) ≤ (i : Int) := by omega
  simp only [sliceS, bound, this, if_true, Int.toNat_natCast, h, Nat.le_refl, and_self, List.take_length]
theorem loop86a {s : List UInt8} (hl : s.length ≤ 281474976710656) {sg : Sg} {ow : Ow} (Q : Ex → S → Prop) : ∀ (r : List UInt8) (i : Nat) (fr : List PV), s.drop i = r →
    FrAt fr [(0, .t (.str s)), (1, .t (.int .i64 i))] →
    (∀ fr', FrAt fr' [(0, .t (.str s)), (1, .t (.int .i64 ((i + cm r : Nat) : Int)))] → Q (.exit 2) ⟨fr', sg, ow⟩) →
    Xl F gl lb86_0 ⟨fr, sg, ow⟩ Q ⟨⟩ := by
  intro r
  induction r with
  | nil =>
    intro i fr hd hf h1
    have hd := drop_nil' hd
    simp only [FrAt_cons, FrAt_nil] at hf
    obtain ⟨f0, f1, -⟩ := hf
    refine Xl.step ?_
    simp only [lb86_0]
    have c1 : ¬ ((i : Int) < (s.length : Int)) := by omega
    simp only [wA, seval, reduceCtorEq, reduceIte, f0, f1, c1]
    repeat' ((with_reducible first | refine xG_dec ?_ ?_ | refine xG_ndec ?_ ?_ | refine xG_nsplit ?_ ?_ | refine xG_split ?_ ?_ | refine xC_dec ?_ ?_ | refine xC_ndec ?_ ?_ | refine xC_nsplit ?_ ?_ | refine xC_split ?_ ?_) <;> intro h <;> (try simp only [wA, seval, reduceCtorEq, reduceIte, f0, f1, c1, h]))
    exact h1 _ (by simp only [FrAt_cons, FrAt_nil, wFr, Nat.reduceEqDiff, Nat.one_ne_zero, Nat.zero_ne_one, reduceIte, and_self, and_true, true_and, f0, f1, cm, Nat.add_zero])
  | cons x r ih =>
    intro i fr hd hf h1
    obtain ⟨hx, hr, hi⟩ := drop_cons hd
    simp only [FrAt_cons, FrAt_nil] at hf
    obtain ⟨f0, f1, -⟩ := hf
    refine Xl.step ?_
    simp only [lb86_0]
    have c1 : (i : Int) < (s.length : Int) := by omega
    have c0 : (0 : Int) ≤ (i : Int) := by omega
    have hw1 : IntKind.wrap .i64 ((i : Int) + 1) = ((i + 1 : Nat) : Int) := by rw [IntWalk.i64_in _ (by omega)]; omega
    by_cases c : x = 10
    · have d := ne10.1 c
      simp only [wA, seval, reduceCtorEq, reduceIte, f0, f1, c1, c0, hw1, Int.toNat_natCast, hx, d, Bool.not_true]
      repeat' ((with_reducible first | refine xG_dec ?_ ?_ | refine xG_ndec ?_ ?_ | refine xG_nsplit ?_ ?_ | refine xG_split ?_ ?_ | refine xC_dec ?_ ?_ | refine xC_ndec ?_ ?_ | refine xC_nsplit ?_ ?_ | refine xC_split ?_ ?_) <;> intro h <;> (try simp only [wA, seval, reduceCtorEq, reduceIte, f0, f1, c1, c0, hw1, Int.toNat_natCast, hx, d, Bool.not_true, h]))
      exact h1 _ (by simp only [FrAt_cons, FrAt_nil, wFr, Nat.reduceEqDiff, Nat.one_ne_zero, Nat.zero_ne_one, reduceIte, and_self, and_true, true_and, f0, f1, cm, if_pos c, Nat.add_zero])
    · have d : ¬ ((x.toNat : Int) = 10) := fun e => c (ne10.2 e)
      simp only [wA, seval, reduceCtorEq, reduceIte, f0, f1, c1, c0, hw1, Int.toNat_natCast, hx, d, Bool.not_false]
      repeat' ((with_reducible first | refine xG_dec ?_ ?_ | refine xG_ndec ?_ ?_ | refine xG_nsplit ?_ ?_ | refine xG_split ?_ ?_ | refine xC_dec ?_ ?_ | refine xC_ndec ?_ ?_ | refine xC_nsplit ?_ ?_ | refine xC_split ?_ ?_) <;> intro h <;> (try simp only [wA, seval, reduceCtorEq, reduceIte, f0, f1, c1, c0, hw1, Int.toNat_natCast, hx, d, Bool.not_false, h]))
      refine ih (i + 1) _ hr (by simp only [FrAt_cons, FrAt_nil, wFr, Nat.reduceEqDiff, Nat.one_ne_zero, Nat.zero_ne_one, reduceIte, and_self, and_true, true_and, f0]) fun fr' h => h1 fr' ?_
      rw [cm, if_neg c, show i + (cm r + 1) = i + 1 + cm r by omega]
      exact h
theorem hasP_dash (c : UInt8) (r : List UInt8) : hasP (c :: r) [45, 45] = (c == 45 && r.head? == some 45) := by
  cases r with
  | nil => simp [hasP]
  | cons d r =>
    by_cases h1 : c = 45 <;> by_cases h2 : d = 45 <;> simp [hasP, h1, h2]
theorem loop86 {s : List UInt8} (hl : s.length ≤ 281474976710656) {sg : Sg} {ow : Ow} (Q : Ex → S → Prop) : ∀ (n : Nat) (r : List UInt8) (i : Nat) (fr : List PV), r.length ≤ n → s.drop i = r →
    FrAt fr [(0, .t (.str s)), (1, .t (.int .i64 i))] →
    (∀ fr', FrAt fr' [(0, .t (.str s)), (1, .t (.int .i64 ((i + gapM false r : Nat) : Int)))] → Q (.exit 0) ⟨fr', sg, ow⟩) →
    (∀ fr', fget fr' 4 = .t (.int .i64 ((i + gapM false r : Nat) : Int)) → Q .ret ⟨fr', sg, ow⟩) →
    Xl F gl lb86_1 ⟨fr, sg, ow⟩ Q ⟨⟩ := by
  intro n
  induction n with
  | zero =>
    intro r i fr hn hd hf h1 h2
    have hr0 : r = [] := by simpa using hn
    subst hr0
    have hd := drop_nil' hd
    simp only [FrAt_cons, FrAt_nil] at hf
    obtain ⟨f0, f1, -⟩ := hf
    refine Xl.step ?_
    simp only [lb86_1]
    have c1 : ¬ ((i : Int) < (s.length : Int)) := by omega
    simp only [wA, seval, reduceCtorEq, reduceIte, f0, f1, c1]
    repeat' ((with_reducible first | refine xG_dec ?_ ?_ | refine xG_ndec ?_ ?_ | refine xG_nsplit ?_ ?_ | refine xG_split ?_ ?_ | refine xC_dec ?_ ?_ | refine xC_ndec ?_ ?_ | refine xC_nsplit ?_ ?_ | refine xC_split ?_ ?_) <;> intro h <;> (try simp only [wA, seval, reduceCtorEq, reduceIte, f0, f1, c1, h]))
    exact h1 _ (by simp only [FrAt_cons, FrAt_nil, wFr, Nat.reduceEqDiff, Nat.one_ne_zero, Nat.zero_ne_one, reduceIte, and_self, and_true, true_and, f0, f1, gapM, Nat.add_zero])
  | succ n ih =>
    intro r i fr hn hd hf h1 h2
    cases r with
    | nil =>
      have hd := drop_nil' hd
      simp only [FrAt_cons, FrAt_nil] at hf
      obtain ⟨f0, f1, -⟩ := hf
      refine Xl.step ?_
      simp only [lb86_1]
      have c1 : ¬ ((i : Int) < (s.length : Int)) := by omega
      simp only [wA, seval, reduceCtorEq, reduceIte, f0, f1, c1]
      repeat' ((with_reducible first | refine xG_dec ?_ ?_ | refine xG_ndec ?_ ?_ | refine xG_nsplit ?_ ?_ | refine xG_split ?_ ?_ | refine xC_dec ?_ ?_ | refine xC_ndec ?_ ?_ | refine xC_nsplit ?_ ?_ | refine xC_split ?_ ?_) <;> intro h <;> (try simp only [wA, seval, reduceCtorEq, reduceIte, f0, f1, c1, h]))
      exact h1 _ (by simp only [FrAt_cons, FrAt_nil, wFr, Nat.reduceEqDiff, Nat.one_ne_zero, Nat.zero_ne_one, reduceIte, and_self, and_true, true_and, f0, f1, gapM, Nat.add_zero])
    | cons x r =>
      obtain ⟨hx, hr, hi⟩ := drop_cons hd
      simp only [FrAt_cons, FrAt_nil] at hf
      obtain ⟨f0, f1, -⟩ := hf
      simp only [List.length_cons] at hn
      have c1 : (i : Int) < (s.length : Int) := by omega
      have c0 : (0 : Int) ≤ (i : Int) := by omega
      have hw1 : IntKind.wrap .i64 ((i : Int) + 1) = ((i + 1 : Nat) : Int) := by rw [IntWalk.i64_in _ (by omega)]; omega
      have hsl := slice_from (s := s) (i := i) (by omega)
      rw [hd] at hsl
      refine Xl.step ?_
      simp only [lb86_1]
      cases hb : isBlk x with
      | true =>
        have e : gapM false (x :: r) = gapM false r + 1 := by simp only [gapM, hb, if_true]
        rw [e] at h1 h2
        have e2 : i + (gapM false r + 1) = i + 1 + gapM false r := by omega
        rw [e2] at h1 h2
        rcases blk_yes hb with d | d | d | d
        · simp only [wA, seval, reduceCtorEq, reduceIte, f0, f1, c1, c0, hw1, Int.toNat_natCast, hx, d]
          repeat' ((with_reducible first | refine xG_dec ?_ ?_ | refine xG_ndec ?_ ?_ | refine xG_nsplit ?_ ?_ | refine xG_split ?_ ?_ | refine xC_dec ?_ ?_ | refine xC_ndec ?_ ?_ | refine xC_nsplit ?_ ?_ | refine xC_split ?_ ?_) <;> intro h <;> (try simp only [wA, seval, reduceCtorEq, reduceIte, f0, f1, c1, c0, hw1, Int.toNat_natCast, hx, d, h]))
          exact ih r (i + 1) _ (by omega) hr (by simp only [FrAt_cons, FrAt_nil, wFr, Nat.reduceEqDiff, Nat.one_ne_zero, Nat.zero_ne_one, reduceIte, and_self, and_true, true_and, f0]) h1 h2
        · simp only [wA, seval, reduceCtorEq, reduceIte, f0, f1, c1, c0, hw1, Int.toNat_natCast, hx, d]
          repeat' ((with_reducible first | refine xG_dec ?_ ?_ | refine xG_ndec ?_ ?_ | refine xG_nsplit ?_ ?_ | refine xG_split ?_ ?_ | refine xC_dec ?_ ?_ | refine xC_ndec ?_ ?_ | refine xC_nsplit ?_ ?_ | refine xC_split ?_ ?_) <;> intro h <;> (try simp only [wA, seval, reduceCtorEq, reduceIte, f0, f1, c1, c0, hw1, Int.toNat_natCast, hx, d, h]))
          exact ih r (i + 1) _ (by omega) hr (by simp only [FrAt_cons, FrAt_nil, wFr, Nat.reduceEqDiff, Nat.one_ne_zero, Nat.zero_ne_one, reduceIte, and_self, and_true, true_and, f0]) h1 h2
        · simp only [wA, seval, reduceCtorEq, reduceIte, f0, f1, c1, c0, hw1, Int.toNat_natCast, hx, d]
          repeat' ((with_reducible first | refine xG_dec ?_ ?_ | refine xG_ndec ?_ ?_ | refine xG_nsplit ?_ ?_ | refine xG_split ?_ ?_ | refine xC_dec ?_ ?_ | refine xC_ndec ?_ ?_ | refine xC_nsplit ?_ ?_ | refine xC_split ?_ ?_) <;> intro h <;> (try simp only [wA, seval, reduceCtorEq, reduceIte, f0, f1, c1, c0, hw1, Int.toNat_natCast, hx, d, h]))
          exact ih r (i + 1) _ (by omega) hr (by simp only [FrAt_cons, FrAt_nil, wFr, Nat.reduceEqDiff, Nat.one_ne_zero, Nat.zero_ne_one, reduceIte, and_self, and_true, true_and, f0]) h1 h2
        · simp only [wA, seval, reduceCtorEq, reduceIte, f0, f1, c1, c0, hw1, Int.toNat_natCast, hx, d]
          repeat' ((with_reducible first | refine xG_dec ?_ ?_ | refine xG_ndec ?_ ?_ | refine xG_nsplit ?_ ?_ | refine xG_split ?_ ?_ | refine xC_dec ?_ ?_ | refine xC_ndec ?_ ?_ | refine xC_nsplit ?_ ?_ | refine xC_split ?_ ?_) <;> intro h <;> (try simp only [wA, seval, reduceCtorEq, reduceIte, f0, f1, c1, c0, hw1, Int.toNat_natCast, hx, d, h]))
          exact ih r (i + 1) _ (by omega) hr (by simp only [FrAt_cons, FrAt_nil, wFr, Nat.reduceEqDiff, Nat.one_ne_zero, Nat.zero_ne_one, reduceIte, and_self, and_true, true_and, f0]) h1 h2
      | false =>
        obtain ⟨d1, d2, d3, d4⟩ := blk_no hb
        have a := @ok111 gl (x :: r) [45, 45]
        rw [hasP_dash] at a
        cases hc : (x == 45 && r.head? == some 45) with
        | false =>
          have e : gapM false (x :: r) = 0 := by simp only [gapM, hb, hc, Bool.false_eq_true, if_false]
          rw [e] at h1 h2
          rw [hc] at a
          simp only [wA, seval, reduceCtorEq, reduceIte, f0, f1, c1, c0, hw1, Int.toNat_natCast, hx, d1, d2, d3, d4, hsl, a, Bool.not_false]
          repeat' ((with_reducible first | refine xG_dec ?_ ?_ | refine xG_ndec ?_ ?_ | refine xG_nsplit ?_ ?_ | refine xG_split ?_ ?_ | refine xC_dec ?_ ?_ | refine xC_ndec ?_ ?_ | refine xC_nsplit ?_ ?_ | refine xC_split ?_ ?_) <;> intro h <;> (try simp only [wA, seval, reduceCtorEq, reduceIte, f0, f1, c1, c0, hw1, Int.toNat_natCast, hx, d1, d2, d3, d4, hsl, a, Bool.not_false, h]))
          exact h2 _ (by simp only [FrAt_cons, FrAt_nil, wFr, Nat.reduceEqDiff, Nat.one_ne_zero, Nat.zero_ne_one, reduceIte, and_self, and_true, true_and, f1, Nat.add_zero])
        | true =>
          have e : gapM false (x :: r) = gapM true (x :: r) := by
            simp only [gapM, hb, hc, Bool.false_eq_true, if_false, if_true]
            simp only [Bool.and_eq_true, beq_iff_eq] at hc
            rw [hc.1]
            rfl
          rw [gap_cm] at e
          rw [e] at h1 h2
          rw [hc] at a
          have hx10 : x ≠ 10 := by
            simp only [Bool.and_eq_true, beq_iff_eq] at hc
            rw [hc.1]; decide
          have hcm : cm (x :: r) = cm r + 1 := by simp only [cm, if_neg hx10]
          have hle := cm_le r
          simp only [wA, seval, reduceCtorEq, reduceIte, f0, f1, c1, c0, hw1, Int.toNat_natCast, hx, d1, d2, d3, d4, hsl, a, Bool.not_true]
          repeat' ((with_reducible first | refine xG_dec ?_ ?_ | refine xG_ndec ?_ ?_ | refine xG_nsplit ?_ ?_ | refine xG_split ?_ ?_ | refine xC_dec ?_ ?_ | refine xC_ndec ?_ ?_ | refine xC_nsplit ?_ ?_ | refine xC_split ?_ ?_) <;> intro h <;> (try simp only [wA, seval, reduceCtorEq, reduceIte, f0, f1, c1, c0, hw1, Int.toNat_natCast, hx, d1, d2, d3, d4, hsl, a, Bool.not_true, h]))
          refine loop86a hl _ (x :: r) i _ hd (by simp only [FrAt_cons, FrAt_nil, wFr, Nat.reduceEqDiff, Nat.one_ne_zero, Nat.zero_ne_one, reduceIte, and_self, and_true, true_and, f0, f1]) fun fr' h => ?_
          simp only [wA, seval, reduceCtorEq, reduceIte]
          repeat' ((with_reducible first | refine xG_dec ?_ ?_ | refine xG_ndec ?_ ?_ | refine xG_nsplit ?_ ?_ | refine xG_split ?_ ?_ | refine xC_dec ?_ ?_ | refine xC_ndec ?_ ?_ | refine xC_nsplit ?_ ?_ | refine xC_split ?_ ?_) <;> intro h <;> (try simp only [wA, seval, reduceCtorEq, reduceIte, h]))
          refine ih ((x :: r).drop (cm (x :: r))) (i + cm (x :: r)) fr' (by rw [hcm]; simp only [List.length_drop, List.length_cons]; omega) (by rw [← List.drop_drop, hd]) h ?_ ?_
          · intro fr'' h'
            rw [Nat.add_assoc] at h'
            exact h1 fr'' h'
          · intro fr'' h'
            rw [Nat.add_assoc] at h'
            exact h2 fr'' h'
theorem ok86 (s : List UInt8) (hl : s.length ≤ 281474976710656) (i : Nat) {K : PV → Prop} : XcP F gl 86 [.str s, .int .i64 i] K ⟨⟩ ↔ K (.t (.int .i64 ((i + gapM false (s.drop i) : Nat) : Int))) := by
  refine Ret.iff (Ret.of F86 rfl ?_)
  simp only [ir86]
  simp only [wA, seval, reduceCtorEq, reduceIte]
  repeat' ((with_reducible first | refine xG_dec ?_ ?_ | refine xG_ndec ?_ ?_ | refine xG_nsplit ?_ ?_ | refine xG_split ?_ ?_ | refine xC_dec ?_ ?_ | refine xC_ndec ?_ ?_ | refine xC_nsplit ?_ ?_ | refine xC_split ?_ ?_) <;> intro h <;> (try simp only [wA, seval, reduceCtorEq, reduceIte, h]))
  refine loop86 hl _ (s.drop i).length (s.drop i) i _ (Nat.le_refl _) rfl (by simp only [FrAt_cons, FrAt_nil, wFr, Nat.reduceEqDiff, Nat.one_ne_zero, Nat.zero_ne_one, reduceIte, and_self, and_true, true_and]) ?_ ?_
  · intro fr' h
    simp only [FrAt_cons, FrAt_nil] at h
    obtain ⟨f0, f1, -⟩ := h
    simp only [wA, seval, reduceCtorEq, reduceIte, f0, f1]
    repeat' ((with_reducible first | refine xG_dec ?_ ?_ | refine xG_ndec ?_ ?_ | refine xG_nsplit ?_ ?_ | refine xG_split ?_ ?_ | refine xC_dec ?_ ?_ | refine xC_ndec ?_ ?_ | refine xC_nsplit ?_ ?_ | refine xC_split ?_ ?_) <;> intro h <;> (try simp only [wA, seval, reduceCtorEq, reduceIte, f0, f1, h]))
  · intro fr' h
    simp only [wA, seval, reduceCtorEq, reduceIte, h]
    repeat' ((with_reducible first | refine xG_dec ?_ ?_ | refine xG_ndec ?_ ?_ | refine xG_nsplit ?_ ?_ | refine xG_split ?_ ?_ | refine xC_dec ?_ ?_ | refine xC_ndec ?_ ?_ | refine xC_nsplit ?_ ?_ | refine xC_split ?_ ?_) <;> intro h <;> (try simp only [wA, seval, reduceCtorEq, reduceIte, h, h]))
end Go.Proofs.YtcbgiabippcpaaaGreatDoor

/- Contracts: the next token. -/
set_option maxRecDepth 10000
set_option linter.unusedVariables false
set_option linter.unusedSimpArgs false
namespace Go.Proofs.YtcbgiabippcpaaaGreatDoor
open Go.Pi Go.Lx
variable {gl : Nat → Option (List T)}
def opsC : List T := [.str [111, 114], .int .i64 19, .str [], .int .i64 0, .str [], .int .i64 0, .str [], .int .i64 0,
  .str [97, 110, 100], .int .i64 18, .str [], .int .i64 0, .str [], .int .i64 0, .str [], .int .i64 0,
  .str [61, 61], .int .i64 14, .str [33, 61], .int .i64 15, .str [60], .int .i64 16, .str [60, 61], .int .i64 17,
  .str [43], .int .i64 12, .str [45], .int .i64 13, .str [], .int .i64 0, .str [], .int .i64 0,
  .str [42], .int .i64 11, .str [], .int .i64 0, .str [], .int .i64 0, .str [], .int .i64 0]
structure GlOk (gl : Nat → Option (List T)) : Prop where
  g0 : gl 2 = some [.ifx]
  g1 : gl 3 = some [.ifx]
  g2 : ∃ m, gl 4 = some [.int .i64 m]
  g3 : gl 0 = some opsC
theorem xR_cell2 {k l n : Nat} {ag : Bool} {K : PV → Sg → Ow → Prop} {s : S} : xR gl [(k, some (ag, n)), (l, none)] K ⟨⟩ .ret s ↔ xO (loadP gl s.sg ag n (fget s.fr k)) (fun v => K (.tup [v, fget s.fr l]) s.sg s.ow) ⟨⟩ := by
  show resK gl [(k, some (ag, n)), (l, none)] K .ret s ↔ onO (loadP gl s.sg ag n (fget s.fr k)) (fun v => K (.tup [v, fget s.fr l]) s.sg s.ow)
  simp only [resK, resAll, List.mapM_cons, resOne, List.mapM_nil]
  cases loadP gl s.sg ag n (fget s.fr k) <;> rfl
theorem puM : ∀ (l : List UInt8) (acc : Nat), (∀ c, c ∈ l → isDig c = true) → acc ≤ 18446744073709551615 → Lib.parseUintM 18446744073709551615 acc l = if 18446744073709551615 < numF acc l then .range else .ok (numF acc l) := by
  intro l
  induction l with
  | nil => intro acc _ h; rw [numF_nil, if_neg (by omega)]; rfl
  | cons c r ih =>
    intro acc hd h
    obtain ⟨d1, d2⟩ := dig_le (hd c List.mem_cons_self)
    have hge := numF_ge r (10 * acc + (c.toNat - 48))
    rw [numF_cons]
    rw [Lib.parseUintM, if_pos ⟨d1, d2⟩]
    have e : acc * 10 + (c.toNat - 48) = 10 * acc + (c.toNat - 48) := by omega
    rw [e]
    split
    · rw [if_pos (by omega)]
    · split
      · rw [if_pos (by omega)]
      · exact ih _ (fun x hx => hd x (List.mem_cons_of_mem _ hx)) (by omega)
theorem puB {l : List UInt8} (hd : ∀ c, c ∈ l → isDig c = true) (hne : l ≠ []) : Lib.parseUintB 64 l = if 18446744073709551615 < numV l then .range else .ok (numV l) := by
  rw [Lib.parseUintB, if_neg hne, ← numF_zero]
  exact puM l 0 hd (by omega)
theorem xpu (hg : GlOk gl) {t : List UInt8} (hd : ∀ c, c ∈ t → isDig c = true) (hne : t ≠ []) (hl : t.length ≤ 281474976710656) :
    xfun gl 12325 [.str t, .int .i64 10, .int .i64 64] = some (if 18446744073709551615 < numV t then .tup [.t (.int .u64 18446744073709551615), .t .ifx] else .tup [.t (.int .u64 (numV t)), .t .nif]) := by
  show xcon gl 2 770 [.str t, .int .i64 10, .int .i64 64] = _
  have e1 : gl (770 % 256) = some [.ifx] := hg.g0
  have e2 : gl (770 / 256) = some [.ifx] := hg.g1
  by_cases h : 18446744073709551615 < numV t
  · simp only [xcon, e1, e2, hl, and_self, if_true, puB hd hne, if_pos h]
  · simp only [xcon, e1, e2, hl, and_self, if_true, puB hd hne, if_neg h]
theorem xct (hg : GlOk gl) {a b : List UInt8} (ha : a.length < 4294967281) : xfun gl 68 [.str a, .str b] = some (.t (.bool (Lib.contains a b))) := by
  show xcon gl 1 4 [.str a, .str b] = _
  obtain ⟨m, e⟩ := hg.g2
  simp only [xcon, e, ha, if_true]
theorem slice_to {s : List UInt8} {n : Nat} (h : n ≤ s.length) : sliceS (.t (.str s)) none (some (.t (.int .i64 (n : Int)))) = some (.t (.str (s.take n))) := by
  have : (0 : Int) ≤ (n : Int) := by omega
  simp only [sliceS, bound, this, if_true, Int.toNat_natCast, h, Nat.zero_le, and_self, List.drop_zero]
def tTok (t : Tok) : List T := [.int .i64 t.kind, .str t.text, .int .u64 t.val, .int .i64 t.pos]
def nxV (pos : Nat) (s : List UInt8) : PV :=
  match next s with
  | .err e => .tup [.t (.agg [.int .i64 0, .str [], .int .u64 0, .int .i64 0]), .t (.int .i64 e)]
  | .ok k n v => .tup [.t (.agg (tTok ⟨k, s.take n, v, pos⟩)), .t (.int .i64 0)]
def zTok : PV := .t (.agg [.int .i64 0, .str [], .int .u64 0, .int .i64 0])
def tkV (k : Nat) (t : List UInt8) (v pos : Nat) : PV := .tup [.t (.agg [.int .i64 k, .str t, .int .u64 v, .int .i64 pos]), .t (.int .i64 0)]
def erV (e : Nat) : PV := .tup [zTok, .t (.int .i64 e)]
theorem nxV_err {pos e : Nat} {s : List UInt8} (h : next s = .err e) : nxV pos s = erV e := by simp only [nxV, h]; rfl
theorem nxV_ok {pos k n v : Nat} {s : List UInt8} (h : next s = .ok k n v) : nxV pos s = tkV k (s.take n) v pos := by simp only [nxV, h]; rfl
theorem nxV_W {pos : Nat} {c : UInt8} {r : List UInt8} (hL : isLet c = true) : nxV pos (c :: r) = if keywords.contains ((c :: r).take (span isNam (c :: r))) then tkV 2 ((c :: r).take (span isNam (c :: r))) 0 pos else if 24 < span isNam (c :: r) then erV 3 else tkV 1 ((c :: r).take (span isNam (c :: r))) 0 pos := by
  have e : next (c :: r) = nextW (c :: r) := by rw [next, if_pos hL]
  rw [nextW] at e
  split at e
  · rename_i h; rw [if_pos h, nxV_ok e]
  · rename_i h
    rw [if_neg h]
    split at e
    · rename_i h2; rw [if_pos h2, nxV_err e]
    · rename_i h2; rw [if_neg h2, nxV_ok e]
theorem nxV_D {pos : Nat} {c : UInt8} {r : List UInt8} (hL : isLet c = false) (hD : isDig c = true) : nxV pos (c :: r) = if ((c.toNat : Int) = 48) ∧ 1 < span isDig (c :: r) then erV 2 else if 18446744073709551615 < numV ((c :: r).take (span isDig (c :: r))) then erV 3 else tkV 3 ((c :: r).take (span isDig (c :: r))) (numV ((c :: r).take (span isDig (c :: r)))) pos := by
  have e : next (c :: r) = nextD (c :: r) := by rw [next, if_neg (by simp [hL]), if_pos hD]
  have e48 : ((c :: r).head? = some 48) ↔ ((c.toNat : Int) = 48) := by rw [List.head?_cons, Option.some.injEq]; exact u8_eq (n := 48) (by omega)
  rw [nextD] at e
  split at e
  · rename_i h; rw [if_pos ⟨e48.1 h.1, h.2⟩, nxV_err e]
  · rename_i h
    rw [if_neg fun q => h ⟨e48.2 q.1, q.2⟩]
    split at e
    · rename_i h2; rw [if_pos h2, nxV_err e]
    · rename_i h2; rw [if_neg h2, nxV_ok e]
theorem nxV_S {pos : Nat} {c : UInt8} {r : List UInt8} (hL : isLet c = false) (hD : isDig c = false) : nxV pos (c :: r) = if pairH c r then tkV 4 ((c :: r).take 2) 0 pos else if isSing c then tkV 4 ((c :: r).take 1) 0 pos else erV 2 := by
  have e : next (c :: r) = if pairH c r then .ok 4 2 0 else if isSing c then .ok 4 1 0 else .err 2 := by rw [next, if_neg (by simp [hL]), if_neg (by simp [hD])]
  split at e
  · rename_i h; rw [if_pos h, nxV_ok e]
  · rename_i h
    rw [if_neg h]
    split at e
    · rename_i h2; rw [if_pos h2, nxV_ok e]
    · rename_i h2; rw [if_neg h2, nxV_err e]
theorem ok87 (hg : GlOk gl) {s : List UInt8} (hl : s.length ≤ 20000) {i : Nat} {c : UInt8} {r : List UInt8} (hd : s.drop i = c :: r) {K : PV → Prop} :
    XcP F gl 87 [.str s, .int .i64 i] K ⟨⟩ ↔ K (nxV i (c :: r)) := by
  obtain ⟨hx, hr, hi⟩ := drop_cons hd
  have hlen : (c :: r).length ≤ 20000 := by rw [← hd, List.length_drop]; omega
  have hsl := slice_from (s := s) (i := i) (by omega)
  rw [hd] at hsl
  refine Ret.iff (Ret.of F87 rfl ?_)
  simp only [ir87]
  have a26 := @ok91 gl c
  have a31 := @ok112 gl c
  cases hL : isLet c with
  | true =>
    have a27 := @ok92 gl isNam 93 okE93 (c :: r) (by omega)
    have l1 := span_le isNam (c :: r)
    have st := slice_to l1
    have lt : ((c :: r).take (span isNam (c :: r))).length = span isNam (c :: r) := by rw [List.length_take]; omega
    have a29 := @ok94 gl false keywords (by decide) ((c :: r).take (span isNam (c :: r)))
    have hnx := nxV_W (pos := i) (r := r) hL
    rw [hL] at a26
    generalize (c :: r).take (span isNam (c :: r)) = t at *
    generalize span isNam (c :: r) = n at *
    cases hk : keywords.contains t with
    | true =>
      rw [hk] at a29
      simp only [wA, seval, reduceCtorEq, reduceIte, xR_cell2, hsl, a26, a27, st, ok95, a29]
      repeat' ((with_reducible first | refine xG_dec ?_ ?_ | refine xG_ndec ?_ ?_ | refine xG_nsplit ?_ ?_ | refine xG_split ?_ ?_ | refine xC_dec ?_ ?_ | refine xC_ndec ?_ ?_ | refine xC_nsplit ?_ ?_ | refine xC_split ?_ ?_) <;> intro h <;> (try simp only [wA, seval, reduceCtorEq, reduceIte, xR_cell2, hsl, a26, a27, st, ok95, a29, h]))
      first | done | (simp only [hnx, hk, and_self, and_true, and_false, false_and, if_true, if_false, Bool.false_eq_true, pairH]; rfl)
    | false =>
      rw [hk] at a29
      by_cases h24 : 24 < n
      · have h24' : (24 : Int) < (n : Int) := by omega
        simp only [wA, seval, reduceCtorEq, reduceIte, xR_cell2, hsl, a26, a27, st, ok95, a29, lt, h24', h24, Bool.false_eq_true]
        repeat' ((with_reducible first | refine xG_dec ?_ ?_ | refine xG_ndec ?_ ?_ | refine xG_nsplit ?_ ?_ | refine xG_split ?_ ?_ | refine xC_dec ?_ ?_ | refine xC_ndec ?_ ?_ | refine xC_nsplit ?_ ?_ | refine xC_split ?_ ?_) <;> intro h <;> (try simp only [wA, seval, reduceCtorEq, reduceIte, xR_cell2, hsl, a26, a27, st, ok95, a29, lt, h24', h24, Bool.false_eq_true, h]))
        first | done | (simp only [hnx, hk, h24, and_self, and_true, and_false, false_and, if_true, if_false, Bool.false_eq_true, pairH]; rfl)
      · have h24' : ¬ ((24 : Int) < (n : Int)) := by omega
        simp only [wA, seval, reduceCtorEq, reduceIte, xR_cell2, hsl, a26, a27, st, ok95, a29, lt, h24', h24, Bool.false_eq_true]
        repeat' ((with_reducible first | refine xG_dec ?_ ?_ | refine xG_ndec ?_ ?_ | refine xG_nsplit ?_ ?_ | refine xG_split ?_ ?_ | refine xC_dec ?_ ?_ | refine xC_ndec ?_ ?_ | refine xC_nsplit ?_ ?_ | refine xC_split ?_ ?_) <;> intro h <;> (try simp only [wA, seval, reduceCtorEq, reduceIte, xR_cell2, hsl, a26, a27, st, ok95, a29, lt, h24', h24, Bool.false_eq_true, h]))
        first | done | (simp only [hnx, hk, h24, and_self, and_true, and_false, false_and, if_true, if_false, Bool.false_eq_true, pairH]; rfl)
  | false =>
    rw [hL] at a26
    cases hD : isDig c with
    | true =>
      have a27 := @ok92 gl isDig 112 okE112 (c :: r) (by omega)
      have l1 := span_le isDig (c :: r)
      have st := slice_to l1
      have lt : ((c :: r).take (span isDig (c :: r))).length = span isDig (c :: r) := by rw [List.length_take]; omega
      have hall : ∀ x, x ∈ (c :: r).take (span isDig (c :: r)) → isDig x = true := span_all isDig (c :: r)
      have h0 : ((c :: r).take (span isDig (c :: r)))[0]? = some c := by simp only [span, hD, if_true, List.take_succ_cons]; rfl
      have hnx := nxV_D (pos := i) (r := r) hL hD
      rw [hD] at a31
      generalize (c :: r).take (span isDig (c :: r)) = t at *
      generalize span isDig (c :: r) = n at *
      have hne : t ≠ [] := by intro e; subst e; simp at h0
      have xp := xpu hg hall hne (by omega)
      by_cases h48 : (c.toNat : Int) = 48
      · have h48d : decide ((c.toNat : Int) = 48) = true := decide_eq_true h48
        by_cases h1 : 1 < n
        · have h1' : (1 : Int) < (n : Int) := by omega
          simp only [wA, seval, reduceCtorEq, reduceIte, xR_cell2, hsl, a26, a31, a27, st, lt, h0, h48d, h1', h1, Bool.false_eq_true]
          repeat' ((with_reducible first | refine xG_dec ?_ ?_ | refine xG_ndec ?_ ?_ | refine xG_nsplit ?_ ?_ | refine xG_split ?_ ?_ | refine xC_dec ?_ ?_ | refine xC_ndec ?_ ?_ | refine xC_nsplit ?_ ?_ | refine xC_split ?_ ?_) <;> intro h <;> (try simp only [wA, seval, reduceCtorEq, reduceIte, xR_cell2, hsl, a26, a31, a27, st, lt, h0, h48d, h1', h1, Bool.false_eq_true, h]))
          first | done | (simp only [hnx, h48, h1, and_self, and_true, and_false, false_and, if_true, if_false, Bool.false_eq_true, pairH]; rfl)
        · have h1' : ¬ ((1 : Int) < (n : Int)) := by omega
          by_cases hv : 18446744073709551615 < numV t
          · simp only [hv, if_true] at xp
            simp only [wA, seval, reduceCtorEq, reduceIte, xR_cell2, hsl, a26, a31, a27, st, lt, h0, h48d, h1', h1, Bool.false_eq_true, xp, hv, and_false]
            repeat' ((with_reducible first | refine xG_dec ?_ ?_ | refine xG_ndec ?_ ?_ | refine xG_nsplit ?_ ?_ | refine xG_split ?_ ?_ | refine xC_dec ?_ ?_ | refine xC_ndec ?_ ?_ | refine xC_nsplit ?_ ?_ | refine xC_split ?_ ?_) <;> intro h <;> (try simp only [wA, seval, reduceCtorEq, reduceIte, xR_cell2, hsl, a26, a31, a27, st, lt, h0, h48d, h1', h1, Bool.false_eq_true, xp, hv, and_false, h]))
            first | done | (simp only [hnx, h48, h1, hv, and_self, and_true, and_false, false_and, if_true, if_false, Bool.false_eq_true, pairH]; rfl)
          · simp only [hv, if_false] at xp
            simp only [wA, seval, reduceCtorEq, reduceIte, xR_cell2, hsl, a26, a31, a27, st, lt, h0, h48d, h1', h1, Bool.false_eq_true, xp, hv, and_false]
            repeat' ((with_reducible first | refine xG_dec ?_ ?_ | refine xG_ndec ?_ ?_ | refine xG_nsplit ?_ ?_ | refine xG_split ?_ ?_ | refine xC_dec ?_ ?_ | refine xC_ndec ?_ ?_ | refine xC_nsplit ?_ ?_ | refine xC_split ?_ ?_) <;> intro h <;> (try simp only [wA, seval, reduceCtorEq, reduceIte, xR_cell2, hsl, a26, a31, a27, st, lt, h0, h48d, h1', h1, Bool.false_eq_true, xp, hv, and_false, h]))
            first | done | (simp only [hnx, h48, h1, hv, and_self, and_true, and_false, false_and, if_true, if_false, Bool.false_eq_true, pairH]; rfl)
      · by_cases hv : 18446744073709551615 < numV t
        · simp only [hv, if_true] at xp
          simp only [wA, seval, reduceCtorEq, reduceIte, xR_cell2, hsl, a26, a31, a27, st, lt, h0, h48, Bool.false_eq_true, xp, hv, false_and]
          repeat' ((with_reducible first | refine xG_dec ?_ ?_ | refine xG_ndec ?_ ?_ | refine xG_nsplit ?_ ?_ | refine xG_split ?_ ?_ | refine xC_dec ?_ ?_ | refine xC_ndec ?_ ?_ | refine xC_nsplit ?_ ?_ | refine xC_split ?_ ?_) <;> intro h <;> (try simp only [wA, seval, reduceCtorEq, reduceIte, xR_cell2, hsl, a26, a31, a27, st, lt, h0, h48, Bool.false_eq_true, xp, hv, false_and, h]))
          first | done | (simp only [hnx, h48, hv, and_self, and_true, and_false, false_and, if_true, if_false, Bool.false_eq_true, pairH]; rfl)
        · simp only [hv, if_false] at xp
          simp only [wA, seval, reduceCtorEq, reduceIte, xR_cell2, hsl, a26, a31, a27, st, lt, h0, h48, Bool.false_eq_true, xp, hv, false_and]
          repeat' ((with_reducible first | refine xG_dec ?_ ?_ | refine xG_ndec ?_ ?_ | refine xG_nsplit ?_ ?_ | refine xG_split ?_ ?_ | refine xC_dec ?_ ?_ | refine xC_ndec ?_ ?_ | refine xC_nsplit ?_ ?_ | refine xC_split ?_ ?_) <;> intro h <;> (try simp only [wA, seval, reduceCtorEq, reduceIte, xR_cell2, hsl, a26, a31, a27, st, lt, h0, h48, Bool.false_eq_true, xp, hv, false_and, h]))
          first | done | (simp only [hnx, h48, hv, and_self, and_true, and_false, false_and, if_true, if_false, Bool.false_eq_true, pairH]; rfl)
    | false =>
      rw [hD] at a31
      have a34 := @ok115 gl singles c
      have e34 := index_singles c
      have st1 : sliceS (.t (.str (c :: r))) none (some (.t (.int .i64 1))) = some (.t (.str [c])) := slice_to (s := c :: r) (n := 1) (by simp)
      simp only [singles] at a34 e34
      have hnx := nxV_S (pos := i) (r := r) hL hD
      cases r with
      | nil =>
        cases hs : isSing c with
        | true =>
          rw [hs] at e34
          have e34 := of_decide_eq_true e34
          simp only [wA, seval, reduceCtorEq, reduceIte, xR_cell2, hsl, a26, a31, a34, e34, st1]
          repeat' ((with_reducible first | refine xG_dec ?_ ?_ | refine xG_ndec ?_ ?_ | refine xG_nsplit ?_ ?_ | refine xG_split ?_ ?_ | refine xC_dec ?_ ?_ | refine xC_ndec ?_ ?_ | refine xC_nsplit ?_ ?_ | refine xC_split ?_ ?_) <;> intro h <;> (try simp only [wA, seval, reduceCtorEq, reduceIte, xR_cell2, hsl, a26, a31, a34, e34, st1, h]))
          first | done | (simp only [hnx, hs, and_self, and_true, and_false, false_and, if_true, if_false, Bool.false_eq_true, pairH]; rfl)
        | false =>
          rw [hs] at e34
          have e34 := of_decide_eq_false e34
          simp only [wA, seval, reduceCtorEq, reduceIte, xR_cell2, hsl, a26, a31, a34, e34, st1, Bool.false_eq_true]
          repeat' ((with_reducible first | refine xG_dec ?_ ?_ | refine xG_ndec ?_ ?_ | refine xG_nsplit ?_ ?_ | refine xG_split ?_ ?_ | refine xC_dec ?_ ?_ | refine xC_ndec ?_ ?_ | refine xC_nsplit ?_ ?_ | refine xC_split ?_ ?_) <;> intro h <;> (try simp only [wA, seval, reduceCtorEq, reduceIte, xR_cell2, hsl, a26, a31, a34, e34, st1, Bool.false_eq_true, h]))
          first | done | (simp only [hnx, hs, and_self, and_true, and_false, false_and, if_true, if_false, Bool.false_eq_true, pairH]; rfl)
      | cons d r =>
        have st2 : sliceS (.t (.str (c :: d :: r))) none (some (.t (.int .i64 2))) = some (.t (.str [c, d])) := slice_to (s := c :: d :: r) (n := 2) (by simp)
        have c2 : (1 : Int) < ((r.length + 1 + 1 : Nat) : Int) := by omega
        have hp : Lib.contains [32, 46, 46, 32, 61, 61, 32, 33, 61, 32, 60, 61, 32] [32, c, d, 32] = isPair c d := index_pairs c d
        have xc := xct hg (a := [32, 46, 46, 32, 61, 61, 32, 33, 61, 32, 60, 61, 32]) (b := [32, c, d, 32]) (by simp)
        rw [hp] at xc
        cases hq : isPair c d with
        | true =>
          rw [hq] at xc
          simp only [wA, seval, reduceCtorEq, reduceIte, xR_cell2, hsl, a26, a31, st2, c2, xc, List.cons_append, List.nil_append, List.length_cons, List.length_nil]
          repeat' ((with_reducible first | refine xG_dec ?_ ?_ | refine xG_ndec ?_ ?_ | refine xG_nsplit ?_ ?_ | refine xG_split ?_ ?_ | refine xC_dec ?_ ?_ | refine xC_ndec ?_ ?_ | refine xC_nsplit ?_ ?_ | refine xC_split ?_ ?_) <;> intro h <;> (try simp only [wA, seval, reduceCtorEq, reduceIte, xR_cell2, hsl, a26, a31, st2, c2, xc, List.cons_append, List.nil_append, List.length_cons, List.length_nil, h]))
          first | done | (simp only [hnx, hq, and_self, and_true, and_false, false_and, if_true, if_false, Bool.false_eq_true, pairH]; rfl)
        | false =>
          rw [hq] at xc
          cases hs : isSing c with
          | true =>
            rw [hs] at e34
            have e34 := of_decide_eq_true e34
            simp only [wA, seval, reduceCtorEq, reduceIte, xR_cell2, hsl, a26, a31, st2, c2, xc, a34, e34, st1, List.cons_append, List.nil_append, List.length_cons, List.length_nil, Bool.false_eq_true]
            repeat' ((with_reducible first | refine xG_dec ?_ ?_ | refine xG_ndec ?_ ?_ | refine xG_nsplit ?_ ?_ | refine xG_split ?_ ?_ | refine xC_dec ?_ ?_ | refine xC_ndec ?_ ?_ | refine xC_nsplit ?_ ?_ | refine xC_split ?_ ?_) <;> intro h <;> (try simp only [wA, seval, reduceCtorEq, reduceIte, xR_cell2, hsl, a26, a31, st2, c2, xc, a34, e34, st1, List.cons_append, List.nil_append, List.length_cons, List.length_nil, Bool.false_eq_true, h]))
            first | done | (simp only [hnx, hq, hs, and_self, and_true, and_false, false_and, if_true, if_false, Bool.false_eq_true, pairH]; rfl)
          | false =>
            rw [hs] at e34
            have e34 := of_decide_eq_false e34
            simp only [wA, seval, reduceCtorEq, reduceIte, xR_cell2, hsl, a26, a31, st2, c2, xc, a34, e34, st1, List.cons_append, List.nil_append, List.length_cons, List.length_nil, Bool.false_eq_true]
            repeat' ((with_reducible first | refine xG_dec ?_ ?_ | refine xG_ndec ?_ ?_ | refine xG_nsplit ?_ ?_ | refine xG_split ?_ ?_ | refine xC_dec ?_ ?_ | refine xC_ndec ?_ ?_ | refine xC_nsplit ?_ ?_ | refine xC_split ?_ ?_) <;> intro h <;> (try simp only [wA, seval, reduceCtorEq, reduceIte, xR_cell2, hsl, a26, a31, st2, c2, xc, a34, e34, st1, List.cons_append, List.nil_append, List.length_cons, List.length_nil, Bool.false_eq_true, h]))
            first | done | (simp only [hnx, hq, hs, and_self, and_true, and_false, false_and, if_true, if_false, Bool.false_eq_true, pairH]; rfl)
end Go.Proofs.YtcbgiabippcpaaaGreatDoor

/- Contracts: the tokens of a text. -/
set_option maxRecDepth 10000
set_option linter.unusedVariables false
set_option linter.unusedSimpArgs false
namespace Go.Proofs.YtcbgiabippcpaaaGreatDoor
open Go.Pi Go.Lx
variable {gl : Nat → Option (List T)}
def accV : List Tok → PV
  | [] => .t (.sl true [])
  | t :: l => .own 0 4 ((t :: l).map tTok)
def accO : List Tok → Ow
  | [] => []
  | t :: l => [(t :: l).length]
theorem tTok_all (l : List Tok) : (l.map tTok).all (fun x => x.length == 4) = true := by simp [tTok]
theorem room40 {n : Nat} (h : n ≤ 1000000) : room n 40 = true := by
  simp only [room, decide_eq_true_eq]
  omega
theorem acc_app (l : List Tok) (t : Tok) (hl : l.length ≤ 100000) (sg : Sg) : appendP false sg (accO l) 4 40 (accV l) (.lit [tTok t]) = some (accV (l ++ [t]), accO (l ++ [t])) := by
  have h1 : ([tTok t].all fun x => x.length == 4) = true := tTok_all [t]
  cases l with
  | nil =>
    have r1 : room ([tTok t].length) 40 = true := room40 (by simp)
    simp only [accV, accO, appendP, elemsS, elems, h1, r1, and_self, if_true, List.length_nil, List.nil_append, Nat.succ_pos, Nat.zero_lt_succ]
    rfl
  | cons x l =>
    have r1 : room (((x :: l).map tTok).length + [tTok t].length) 40 = true := room40 (by simp at hl ⊢; omega)
    have e1 : ([(x :: l).length] : Ow)[0]? = some (((x :: l).map tTok).length) := by simp
    simp only [accV, accO, appendP, elemsS, elems, h1, r1, e1, and_self, if_true, Nat.succ_pos, Nat.zero_lt_succ]
    simp [accV, accO, tTok]
theorem next_err {s : List UInt8} {e : Nat} (h : next s = .err e) : e = 2 ∨ e = 3 := by
  cases s with
  | nil => simp only [next] at h; injection h with h; exact .inl h.symm
  | cons c r =>
    simp only [next, nextW, nextD] at h
    repeat' split at h
    all_goals first | (injection h with h; omega) | cases h
theorem lexR_last : ∀ (n : Nat) (s : List UInt8) (pos : Nat) (l : List Tok), s.length = n → lexR pos s = .toks l → l = l.dropLast ++ [⟨0, [], 0, pos + s.length⟩] := by
  intro n
  induction n using Nat.strongRecOn with
  | _ n ih =>
    intro s pos l hl h
    rcases lex_cases s with h1 | ⟨h1, ⟨e, hn⟩ | ⟨k, m, v, hn⟩⟩
    · rw [lexR_end h1] at h
      injection h with h
      subst h
      rfl
    · rw [lexR_err h1 hn] at h; cases h
    · have hp := next_pos hn
      rw [lexR_ok h1 hn] at h
      cases hq : lexR (pos + gap s + m) (s.drop (gap s + m)) with
      | err p e => rw [hq] at h; cases h
      | toks q =>
        rw [hq] at h
        injection h with h
        subst h
        have := ih (s.drop (gap s + m)).length (by simp only [List.length_drop] at hp ⊢; omega) _ _ _ rfl hq
        have hne := lexR_ne hq
        have e : pos + gap s + m + (s.drop (gap s + m)).length = pos + s.length := by simp only [List.length_drop] at hp ⊢; omega
        rw [e] at this
        rw [List.dropLast_cons_of_ne_nil hne, List.cons_append, ← this]
theorem loop53 (hg : GlOk gl) {s : List UInt8} (hl : s.length ≤ 20000) (Q : Ex → S → Prop) : ∀ (N p0 : Nat) (acc : List Tok) (fr : List PV) (sg : Sg), (s.drop p0).length ≤ N → p0 ≤ s.length → acc.length ≤ p0 →
    FrAt fr [(0, .t (.str s)), (5, accV acc), (6, .t (.int .i64 ((p0 + gap (s.drop p0) : Nat) : Int)))] →
    (∀ l, lexR p0 (s.drop p0) = .toks l → ∀ fr' sg', FrAt fr' [(0, .t (.str s)), (5, accV (acc ++ l.dropLast))] → (acc ++ l.dropLast).length ≤ 20000 → Q (.exit 0) ⟨fr', sg', accO (acc ++ l.dropLast)⟩) →
    (∀ p e, lexR p0 (s.drop p0) = .err p e → ∀ fr' sg' ow', FrAt fr' [(2, .t (.sl true [])), (3, .t (.int .i64 p)), (4, .t (.int .i64 e))] → Q .ret ⟨fr', sg', ow'⟩) →
    Xl F gl lb53_0 ⟨fr, sg, accO acc⟩ Q ⟨⟩ := by
  intro N
  induction N with
  | zero =>
    intro p0 acc fr sg hN hp0 ha hf h1 h2
    have hs0 : s.drop p0 = [] := List.eq_nil_of_length_eq_zero (Nat.le_zero.1 hN)
    have hp : p0 = s.length := by have := List.drop_eq_nil_iff.1 hs0; omega
    rw [hs0] at hf h1 h2
    have hlx : lexR p0 ([] : List UInt8) = .toks [⟨0, [], 0, p0 + 0⟩] := lexR_end (by simp [gapM])
    simp only [FrAt_cons, FrAt_nil, gapM, Nat.add_zero] at hf
    obtain ⟨f0, f5, f6, -⟩ := hf
    refine Xl.step ?_
    simp only [lb53_0]
    have c1 : ¬ ((p0 : Int) < (s.length : Int)) := by omega
    simp only [wA, seval, reduceCtorEq, reduceIte, f0, f5, f6, c1]
    repeat' ((with_reducible first | refine xG_dec ?_ ?_ | refine xG_ndec ?_ ?_ | refine xG_nsplit ?_ ?_ | refine xG_split ?_ ?_ | refine xC_dec ?_ ?_ | refine xC_ndec ?_ ?_ | refine xC_nsplit ?_ ?_ | refine xC_split ?_ ?_) <;> intro h <;> (try simp only [wA, seval, reduceCtorEq, reduceIte, f0, f5, f6, c1, h]))
    have := h1 _ hlx (fset (fset (fset (fset fr 14 (.t (.int .i64 p0))) 15 (.t (.str s))) 16 (.t (.int .i64 s.length))) 17 (.t (.bool false))) sg (by simp only [FrAt_cons, FrAt_nil, wFr, Nat.reduceEqDiff, Nat.one_ne_zero, Nat.zero_ne_one, reduceIte, and_self, and_true, true_and, f0, f5, List.dropLast_singleton, List.append_nil]) (by simp; omega)
    simp only [List.dropLast_singleton, List.append_nil] at this
    exact this
  | succ N ih =>
    intro p0 acc fr sg hN hp0 ha hf h1 h2
    have hgl := gapM_le (s.drop p0) false
    have hdl : (s.drop p0).length = s.length - p0 := List.length_drop
    simp only [FrAt_cons, FrAt_nil] at hf
    obtain ⟨f0, f5, f6, -⟩ := hf
    rcases lex_cases (s.drop p0) with hE | ⟨hlt, hh⟩
    · have hlx := lexR_end (pos := p0) hE
      refine Xl.step ?_
      simp only [lb53_0]
      have c1 : ¬ (((p0 + gap (s.drop p0) : Nat) : Int) < (s.length : Int)) := by omega
      simp only [wA, seval, reduceCtorEq, reduceIte, f0, f5, f6, c1]
      repeat' ((with_reducible first | refine xG_dec ?_ ?_ | refine xG_ndec ?_ ?_ | refine xG_nsplit ?_ ?_ | refine xG_split ?_ ?_ | refine xC_dec ?_ ?_ | refine xC_ndec ?_ ?_ | refine xC_nsplit ?_ ?_ | refine xC_split ?_ ?_) <;> intro h <;> (try simp only [wA, seval, reduceCtorEq, reduceIte, f0, f5, f6, c1, h]))
      have := h1 _ hlx (fset (fset (fset (fset fr 14 (.t (.int .i64 ((p0 + gap (s.drop p0) : Nat) : Int)))) 15 (.t (.str s))) 16 (.t (.int .i64 s.length))) 17 (.t (.bool false))) sg (by simp only [FrAt_cons, FrAt_nil, wFr, Nat.reduceEqDiff, Nat.one_ne_zero, Nat.zero_ne_one, reduceIte, and_self, and_true, true_and, f0, f5, List.dropLast_singleton, List.append_nil]) (by simp; omega)
      simp only [List.dropLast_singleton, List.append_nil] at this
      exact this
    · have hdd : s.drop (p0 + gap (s.drop p0)) = (s.drop p0).drop (gap (s.drop p0)) := by rw [List.drop_drop]
      obtain ⟨i, hi⟩ : ∃ i, i = p0 + gap (s.drop p0) := ⟨_, rfl⟩
      obtain ⟨c, r, hcr⟩ : ∃ c r, s.drop i = c :: r := by
        cases hd : s.drop i with
        | nil => have := congrArg List.length hd; simp only [List.length_drop, List.length_nil] at this; omega
        | cons c r => exact ⟨c, r, rfl⟩
      rw [← hi] at f6 hdd
      have c1 : (i : Int) < (s.length : Int) := by omega
      have a21 := @ok87 gl hg s hl i c r hcr
      have hlen : (c :: r).length = s.length - i := by rw [← hcr, List.length_drop]
      refine Xl.step ?_
      simp only [lb53_0]
      rcases hh with ⟨e, hn⟩ | ⟨k, n, v, hn⟩
      · have hlx := lexR_err (pos := p0) hlt hn
        rw [← hdd, hcr] at hn
        rw [nxV_err hn] at a21
        simp only [erV, zTok] at a21
        rw [← hi] at hlx
        have he : ¬ ((e : Int) = 0) := by rcases next_err hn with h | h <;> omega
        simp only [wA, seval, reduceCtorEq, reduceIte, f0, f5, f6, c1, a21, he, Bool.not_false]
        repeat' ((with_reducible first | refine xG_dec ?_ ?_ | refine xG_ndec ?_ ?_ | refine xG_nsplit ?_ ?_ | refine xG_split ?_ ?_ | refine xC_dec ?_ ?_ | refine xC_ndec ?_ ?_ | refine xC_nsplit ?_ ?_ | refine xC_split ?_ ?_) <;> intro h <;> (try simp only [wA, seval, reduceCtorEq, reduceIte, f0, f5, f6, c1, a21, he, Bool.not_false, h]))
        exact h2 i e hlx _ _ _ (by simp only [FrAt_cons, FrAt_nil, wFr, Nat.reduceEqDiff, Nat.one_ne_zero, Nat.zero_ne_one, reduceIte, and_self, and_true, true_and])
      · have hpos := next_pos hn
        have hlx := lexR_ok (pos := p0) hlt hn
        rw [← List.drop_drop, ← hdd, hcr, ← hi] at hlx
        rw [← hdd, hcr] at hn hpos
        rw [nxV_ok hn] at a21
        simp only [tkV] at a21
        have hdn : (c :: r).drop n = s.drop (i + n) := by rw [← hcr, List.drop_drop]
        rw [hdn] at hlx
        have htl : ((c :: r).take n).length = n := by rw [List.length_take]; omega
        have hw : IntKind.wrap .i64 ((i : Int) + (n : Int)) = ((i + n : Nat) : Int) := by rw [IntWalk.i64_in _ (by omega)]; omega
        have a20 := @ok86 gl s (by omega) (i + n)
        have eap := acc_app acc ⟨k, (c :: r).take n, v, i⟩ (by omega)
        simp only [tTok] at eap
        generalize htx : (c :: r).take n = tx at *
        have z0 : ((0 : Int) = 0) = True := by simp
        simp only [wA, seval, reduceCtorEq, reduceIte, f0, f5, f6, c1, a21, bslV, chunks, cell1, T.isAgg, List.replicate, List.flatten_cons, List.flatten_nil, List.append_nil, eap, htl, hw, a20, Bool.not_true]
        repeat' ((with_reducible first | refine xG_dec ?_ ?_ | refine xG_ndec ?_ ?_ | refine xG_nsplit ?_ ?_ | refine xG_split ?_ ?_ | refine xC_dec ?_ ?_ | refine xC_ndec ?_ ?_ | refine xC_nsplit ?_ ?_ | refine xC_split ?_ ?_) <;> intro h <;> (try simp only [wA, seval, reduceCtorEq, reduceIte, f0, f5, f6, c1, a21, bslV, chunks, cell1, T.isAgg, List.replicate, List.flatten_cons, List.flatten_nil, List.append_nil, eap, htl, hw, a20, Bool.not_true, h]))
        refine ih (i + n) (acc ++ [⟨k, tx, v, i⟩]) _ _ ?_ ?_ ?_ ?_ ?_ ?_
        · rw [List.length_drop]; omega
        · omega
        · simp; omega
        · simp only [FrAt_cons, FrAt_nil, wFr, Nat.reduceEqDiff, Nat.one_ne_zero, Nat.zero_ne_one, reduceIte, and_self, and_true, true_and, f0]
        · intro l hll fr' sg' hf' hlen'
          rw [hll] at hlx
          have hne := lexR_ne hll
          have e1 : acc ++ (⟨k, tx, v, i⟩ :: l).dropLast = acc ++ [⟨k, tx, v, i⟩] ++ l.dropLast := by rw [List.dropLast_cons_of_ne_nil hne]; simp
          have := h1 (⟨k, tx, v, i⟩ :: l) hlx fr' sg' (by rw [e1]; exact hf') (by rw [e1]; exact hlen')
          rw [e1] at this
          exact this
        · intro p e hee fr' sg' ow' hf'
          rw [hee] at hlx
          exact h2 p e hlx fr' sg' ow' hf'
def resV (s : List UInt8) : PV :=
  if 16384 < s.length then .tup [.t (.sl true []), .t (.int .i64 0), .t (.int .i64 3)] else
  match lexR 0 s with
  | .toks l => .tup [.t (.sl false (l.map tTok)), .t (.int .i64 0), .t (.int .i64 0)]
  | .err p e => .tup [.t (.sl true []), .t (.int .i64 p), .t (.int .i64 e)]
theorem resV_big {s : List UInt8} (h : 16384 < s.length) : resV s = .tup [.t (.sl true []), .t (.int .i64 0), .t (.int .i64 3)] := by rw [resV, if_pos h]
theorem resV_toks {s : List UInt8} (h : ¬ 16384 < s.length) {l : List Tok} (hl : lexR 0 s = .toks l) : resV s = .tup [.t (.sl false (l.map tTok)), .t (.int .i64 0), .t (.int .i64 0)] := by rw [resV, if_neg h]; simp only [hl]
theorem resV_err {s : List UInt8} (h : ¬ 16384 < s.length) {p e : Nat} (hl : lexR 0 s = .err p e) : resV s = .tup [.t (.sl true []), .t (.int .i64 p), .t (.int .i64 e)] := by rw [resV, if_neg h]; simp only [hl]
theorem accV_retSl (sg : Sg) (l : List Tok) (t : Tok) : retSl sg (accV (l ++ [t])) = some (.sl false ((l ++ [t]).map tTok)) := by
  cases l with
  | nil => rfl
  | cons x l => rfl
theorem ok53 (hg : GlOk gl) (s : List UInt8) {K : PV → Prop} : XcP F gl 53 [.str s] K ⟨⟩ ↔ K (resV s) := by
  refine Ret.iff (Ret.of F53 rfl ?_)
  simp only [ir53]
  by_cases hb : 16384 < s.length
  · have c1 : (16384 : Int) < (s.length : Int) := by omega
    simp only [wA, seval, reduceCtorEq, reduceIte, c1]
    repeat' ((with_reducible first | refine xG_dec ?_ ?_ | refine xG_ndec ?_ ?_ | refine xG_nsplit ?_ ?_ | refine xG_split ?_ ?_ | refine xC_dec ?_ ?_ | refine xC_ndec ?_ ?_ | refine xC_nsplit ?_ ?_ | refine xC_split ?_ ?_) <;> intro h <;> (try simp only [wA, seval, reduceCtorEq, reduceIte, c1, h]))
    rw [resV_big hb]
  · have c1 : ¬ ((16384 : Int) < (s.length : Int)) := by omega
    have a20 : ∀ {K : PV → Prop}, XcP F gl 86 [.str s, .int .i64 0] K ⟨⟩ ↔ K (.t (.int .i64 ((gapM false s : Nat) : Int))) := by
      intro K
      have := @ok86 gl s (by omega) 0 K
      simp only [List.drop_zero, Nat.zero_add] at this
      exact this
    simp only [wA, seval, reduceCtorEq, reduceIte, c1, a20]
    repeat' ((with_reducible first | refine xG_dec ?_ ?_ | refine xG_ndec ?_ ?_ | refine xG_nsplit ?_ ?_ | refine xG_split ?_ ?_ | refine xC_dec ?_ ?_ | refine xC_ndec ?_ ?_ | refine xC_nsplit ?_ ?_ | refine xC_split ?_ ?_) <;> intro h <;> (try simp only [wA, seval, reduceCtorEq, reduceIte, c1, a20, h]))
    refine loop53 hg (by omega) _ (s.drop 0).length 0 [] _ _ (Nat.le_refl _) (Nat.zero_le _) (Nat.le_refl _) (by simp only [FrAt_cons, FrAt_nil, wFr, Nat.reduceEqDiff, Nat.one_ne_zero, Nat.zero_ne_one, reduceIte, and_self, and_true, true_and, accV, List.drop_zero, Nat.zero_add]) ?_ ?_
    · intro l hll fr' sg' hf' hlen
      rw [List.drop_zero] at hll
      rw [List.nil_append] at hf' hlen ⊢
      simp only [FrAt_cons, FrAt_nil] at hf'
      obtain ⟨f0, f5, -⟩ := hf'
      have hlast := lexR_last _ _ _ _ rfl hll
      rw [Nat.zero_add] at hlast
      have eap := acc_app l.dropLast ⟨0, [], 0, s.length⟩ (by omega)
      simp only [tTok, Int.cast_ofNat_Int] at eap
      have hr := fun sg => accV_retSl sg l.dropLast ⟨0, [], 0, s.length⟩
      rw [← hlast] at eap hr
      simp only [wA, seval, reduceCtorEq, reduceIte, f0, f5, bslV, chunks, cell1, T.isAgg, List.replicate, List.flatten_cons, List.flatten_nil, List.append_nil, eap]
      repeat' ((with_reducible first | refine xG_dec ?_ ?_ | refine xG_ndec ?_ ?_ | refine xG_nsplit ?_ ?_ | refine xG_split ?_ ?_ | refine xC_dec ?_ ?_ | refine xC_ndec ?_ ?_ | refine xC_nsplit ?_ ?_ | refine xC_split ?_ ?_) <;> intro h <;> (try simp only [wA, seval, reduceCtorEq, reduceIte, f0, f5, bslV, chunks, cell1, T.isAgg, List.replicate, List.flatten_cons, List.flatten_nil, List.append_nil, eap, h]))
      rw [resV_toks hb hll]
      cases l with
      | nil => simp at hlast
      | cons t m => exact rfl
    · intro p e hee fr' sg' ow' hf'
      rw [List.drop_zero] at hee
      simp only [FrAt_cons, FrAt_nil] at hf'
      obtain ⟨f2, f3, f4, -⟩ := hf'
      simp only [wA, seval, reduceCtorEq, reduceIte, f2, f3, f4]
      repeat' ((with_reducible first | refine xG_dec ?_ ?_ | refine xG_ndec ?_ ?_ | refine xG_nsplit ?_ ?_ | refine xG_split ?_ ?_ | refine xC_dec ?_ ?_ | refine xC_ndec ?_ ?_ | refine xC_nsplit ?_ ?_ | refine xC_split ?_ ?_) <;> intro h <;> (try simp only [wA, seval, reduceCtorEq, reduceIte, f2, f3, f4, h]))
      rw [resV_err hb hee]
end Go.Proofs.YtcbgiabippcpaaaGreatDoor
