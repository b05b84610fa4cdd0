/- The reference's lexer: letters, keywords, words, gaps. -/
import Derived.Test.YtcbgiabippcpaaaGreatDoorM30
import Derived.Test.YtcbgiabippcpaaaGreatDoorPi32
set_option maxRecDepth 10000
set_option linter.unusedVariables false
set_option linter.unusedSimpArgs false
namespace Go.Proofs.YtcbgiabippcpaaaGreatDoor
open Go.Pi Go.Lx
variable {gl : Nat → Option (List T)}

theorem ok62 (c : UInt8) {K : PV → Prop} : XcP F gl 62 [tB c] K ⟨⟩ ↔ K (.t (.bool (isLet c))) := by
  refine Ret.iff (Ret.of F62 rfl ?_)
  simp only [ir62]
  simp only [wA, seval, reduceCtorEq, reduceIte]
  repeat' ((with_reducible first | refine xG_dec ?_ ?_ | refine xG_ndec ?_ ?_ | refine xG_nsplit ?_ ?_ | refine xG_split ?_ ?_ | refine xC_dec ?_ ?_ | refine xC_ndec ?_ ?_ | refine xC_nsplit ?_ ?_ | refine xC_split ?_ ?_) <;> intro h <;> (try simp only [wA, seval, reduceCtorEq, reduceIte, h]))
  all_goals (simp_all [isLet_eq] <;> omega)
theorem ok63 (c : UInt8) {K : PV → Prop} : XcP F gl 63 [tB c] K ⟨⟩ ↔ K (.t (.bool (isDig c))) := by
  refine Ret.iff (Ret.of F63 rfl ?_)
  simp only [ir63]
  simp only [wA, seval, reduceCtorEq, reduceIte]
  repeat' ((with_reducible first | refine xG_dec ?_ ?_ | refine xG_ndec ?_ ?_ | refine xG_nsplit ?_ ?_ | refine xG_split ?_ ?_ | refine xC_dec ?_ ?_ | refine xC_ndec ?_ ?_ | refine xC_nsplit ?_ ?_ | refine xC_split ?_ ?_) <;> intro h <;> (try simp only [wA, seval, reduceCtorEq, reduceIte, h]))
  all_goals (simp_all [isDig_eq] <;> omega)
theorem ok64 {K : PV → Prop} : XcP F gl 64 [] K ⟨⟩ ↔ K (.t (.sl false (tStrs keywords))) := by
  refine Ret.iff (Ret.of F64 rfl ?_)
  simp only [ir64]
  simp only [wA, seval, reduceCtorEq, reduceIte, bslV, chunks, cell1, T.isAgg, List.replicate, List.flatten_cons, List.flatten_nil, List.append_nil]
  repeat' ((with_reducible first | refine xG_dec ?_ ?_ | refine xG_ndec ?_ ?_ | refine xG_nsplit ?_ ?_ | refine xG_split ?_ ?_ | refine xC_dec ?_ ?_ | refine xC_ndec ?_ ?_ | refine xC_nsplit ?_ ?_ | refine xC_split ?_ ?_) <;> intro h <;> (try simp only [wA, seval, reduceCtorEq, reduceIte, bslV, chunks, cell1, T.isAgg, List.replicate, List.flatten_cons, List.flatten_nil, List.append_nil, h]))
  rfl
theorem loop27 {l : List (List UInt8)} (hl : l.length ≤ 281474976710656) {s : List UInt8} {sg : Sg} {ow : Ow} (Q : Ex → S → Prop) : ∀ (r : List (List UInt8)) (i : Nat) (fr : List PV), l.drop i = r →
    FrAt fr [(0, .t (.str s)), (3, .t (.sl false (tStrs l))), (4, .t (.int .i64 i))] →
    (r.contains s = false → ∀ fr', Q (.exit 0) ⟨fr', sg, ow⟩) →
    (r.contains s = true → ∀ fr', fget fr' 2 = .t (.bool true) → Q .ret ⟨fr', sg, ow⟩) →
    Xl F gl lb27_0 ⟨fr, sg, ow⟩ Q ⟨⟩ := by
  intro r
  induction r with
  | nil =>
    intro i fr hd hf h1 h2
    have hd := drop_nil' hd
    simp only [FrAt_cons, FrAt_nil] at hf
    obtain ⟨f0, f3, f4, -⟩ := hf
    refine Xl.step ?_
    simp only [lb27_0]
    have e : (tStrs l).length = l.length := by simp [tStrs]
    have c1 : ¬ ((i : Int) < (l.length : Int)) := by omega
    simp only [wA, seval, reduceCtorEq, reduceIte, f0, f3, f4, e, c1]
    repeat' ((with_reducible first | refine xG_dec ?_ ?_ | refine xG_ndec ?_ ?_ | refine xG_nsplit ?_ ?_ | refine xG_split ?_ ?_ | refine xC_dec ?_ ?_ | refine xC_ndec ?_ ?_ | refine xC_nsplit ?_ ?_ | refine xC_split ?_ ?_) <;> intro h <;> (try simp only [wA, seval, reduceCtorEq, reduceIte, f0, f3, f4, e, c1, h]))
    exact h1 rfl _
  | cons x r ih =>
    intro i fr hd hf h1 h2
    obtain ⟨hx, hr, hi⟩ := drop_cons hd
    simp only [FrAt_cons, FrAt_nil] at hf
    obtain ⟨f0, f3, f4, -⟩ := hf
    refine Xl.step ?_
    simp only [lb27_0]
    have c1 : (i : Int) < (l.length : Int) := by omega
    have hw1 : IntKind.wrap .i64 ((i : Int) + 1) = ((i + 1 : Nat) : Int) := by rw [IntWalk.i64_in _ (by omega)]; omega
    by_cases c : x = s
    · subst c
      simp only [wA, seval, reduceCtorEq, reduceIte, f0, f3, f4, tStrs, List.length_map, c1, hw1, List.getElem?_map, hx]
      repeat' ((with_reducible first | refine xG_dec ?_ ?_ | refine xG_ndec ?_ ?_ | refine xG_nsplit ?_ ?_ | refine xG_split ?_ ?_ | refine xC_dec ?_ ?_ | refine xC_ndec ?_ ?_ | refine xC_nsplit ?_ ?_ | refine xC_split ?_ ?_) <;> intro h <;> (try simp only [wA, seval, reduceCtorEq, reduceIte, f0, f3, f4, tStrs, List.length_map, c1, hw1, List.getElem?_map, hx, h]))
      refine h2 (by simp) _ ?_
      simp only [FrAt_cons, FrAt_nil, wFr, Nat.reduceEqDiff, Nat.one_ne_zero, Nat.zero_ne_one, reduceIte, and_self, and_true, true_and]
    · have cc : (s == x) = false := by simpa using fun e : s = x => c e.symm
      simp only [wA, seval, reduceCtorEq, reduceIte, f0, f3, f4, tStrs, List.length_map, c1, hw1, List.getElem?_map, hx, c]
      repeat' ((with_reducible first | refine xG_dec ?_ ?_ | refine xG_ndec ?_ ?_ | refine xG_nsplit ?_ ?_ | refine xG_split ?_ ?_ | refine xC_dec ?_ ?_ | refine xC_ndec ?_ ?_ | refine xC_nsplit ?_ ?_ | refine xC_split ?_ ?_) <;> intro h <;> (try simp only [wA, seval, reduceCtorEq, reduceIte, f0, f3, f4, tStrs, List.length_map, c1, hw1, List.getElem?_map, hx, c, h]))
      refine ih (i + 1) _ hr (by simp only [FrAt_cons, FrAt_nil, wFr, Nat.reduceEqDiff, Nat.one_ne_zero, Nat.zero_ne_one, reduceIte, and_self, and_true, true_and, f0, f3, tStrs]) (fun q => h1 (by rw [List.contains_cons, cc, Bool.false_or]; exact q)) (fun q => h2 (by rw [List.contains_cons, cc, Bool.false_or]; exact q))
theorem ok27 (s : List UInt8) {K : PV → Prop} : XcP F gl 27 [.str s] K ⟨⟩ ↔ K (.t (.bool (keywords.contains s))) := by
  refine Ret.iff (Ret.of F27 rfl ?_)
  simp only [ir27]
  simp only [wA, seval, reduceCtorEq, reduceIte, ok64]
  repeat' ((with_reducible first | refine xG_dec ?_ ?_ | refine xG_ndec ?_ ?_ | refine xG_nsplit ?_ ?_ | refine xG_split ?_ ?_ | refine xC_dec ?_ ?_ | refine xC_ndec ?_ ?_ | refine xC_nsplit ?_ ?_ | refine xC_split ?_ ?_) <;> intro h <;> (try simp only [wA, seval, reduceCtorEq, reduceIte, ok64, h]))
  refine loop27 (l := keywords) (by decide) (s := s) _ keywords 0 _ rfl (by simp only [FrAt_cons, FrAt_nil, wFr, Nat.reduceEqDiff, Nat.one_ne_zero, Nat.zero_ne_one, reduceIte, and_self, and_true, true_and]) ?_ ?_
  · intro h fr'
    simp only [wA, seval, reduceCtorEq, reduceIte, h]
    repeat' ((with_reducible first | refine xG_dec ?_ ?_ | refine xG_ndec ?_ ?_ | refine xG_nsplit ?_ ?_ | refine xG_split ?_ ?_ | refine xC_dec ?_ ?_ | refine xC_ndec ?_ ?_ | refine xC_nsplit ?_ ?_ | refine xC_split ?_ ?_) <;> intro h <;> (try simp only [wA, seval, reduceCtorEq, reduceIte, h, h]))
  · intro h fr' h2
    simp only [wA, seval, reduceCtorEq, reduceIte, h2, h]
    repeat' ((with_reducible first | refine xG_dec ?_ ?_ | refine xG_ndec ?_ ?_ | refine xG_nsplit ?_ ?_ | refine xG_split ?_ ?_ | refine xC_dec ?_ ?_ | refine xC_ndec ?_ ?_ | refine xC_nsplit ?_ ?_ | refine xC_split ?_ ?_) <;> intro h <;> (try simp only [wA, seval, reduceCtorEq, reduceIte, h2, h, h]))
theorem loop26 {s : List UInt8} (hl : s.length ≤ 281474976710656) {sg : Sg} {ow : Ow} (Q : Ex → S → Prop) : ∀ (r : List UInt8) (i : Nat) (fr : List PV), s.drop i = r →
    FrAt fr [(0, .t (.str s)), (3, .t (.int .i64 i))] →
    (∀ fr', fget fr' 3 = .t (.int .i64 ((i + span isNam r : Nat) : Int)) → Q (.exit 0) ⟨fr', sg, ow⟩) →
    Xl F gl lb26_0 ⟨fr, sg, ow⟩ Q ⟨⟩ := by
  intro r
  induction r with
  | nil =>
    intro i fr hd hf h1
    have hd := drop_nil' hd
    simp only [FrAt_cons, FrAt_nil] at hf
    obtain ⟨f0, f3, -⟩ := hf
    refine Xl.step ?_
    simp only [lb26_0]
    have c1 : ¬ ((i : Int) < (s.length : Int)) := by omega
    simp only [wA, seval, reduceCtorEq, reduceIte, f0, f3, c1]
    repeat' ((with_reducible first | refine xG_dec ?_ ?_ | refine xG_ndec ?_ ?_ | refine xG_nsplit ?_ ?_ | refine xG_split ?_ ?_ | refine xC_dec ?_ ?_ | refine xC_ndec ?_ ?_ | refine xC_nsplit ?_ ?_ | refine xC_split ?_ ?_) <;> intro h <;> (try simp only [wA, seval, reduceCtorEq, reduceIte, f0, f3, c1, h]))
    refine h1 _ ?_
    simp only [FrAt_cons, FrAt_nil, wFr, Nat.reduceEqDiff, Nat.one_ne_zero, Nat.zero_ne_one, reduceIte, and_self, and_true, true_and, f3, span, Nat.add_zero]
  | cons x r ih =>
    intro i fr hd hf h1
    obtain ⟨hx, hr, hi⟩ := drop_cons hd
    simp only [FrAt_cons, FrAt_nil] at hf
    obtain ⟨f0, f3, -⟩ := hf
    have c1 : (i : Int) < (s.length : Int) := by omega
    have c0 : (0 : Int) ≤ (i : Int) := by omega
    have hw1 : IntKind.wrap .i64 ((i : Int) + 1) = ((i + 1 : Nat) : Int) := by rw [IntWalk.i64_in _ (by omega)]; omega
    have a35 := @ok62 gl x
    have a36 := @ok63 gl x
    have en := isNam_eq x
    refine Xl.step ?_
    simp only [lb26_0]
    have yes : isNam x = true → ∀ fr2, FrAt fr2 [(0, .t (.str s)), (3, .t (.int .i64 ((i + 1 : Nat) : Int)))] → Xl F gl lb26_0 ⟨fr2, sg, ow⟩ Q ⟨⟩ := by
      intro hq fr2 hf2
      refine ih (i + 1) fr2 hr hf2 fun fr' h => h1 fr' ?_
      rw [h]
      simp only [span, hq, if_true]
      congr 3
      omega
    cases hL : isLet x with
    | true =>
      rw [hL] at a35 en
      simp only [wA, seval, reduceCtorEq, reduceIte, f0, f3, c1, c0, hw1, Int.toNat_natCast, hx, a35]
      repeat' ((with_reducible first | refine xG_dec ?_ ?_ | refine xG_ndec ?_ ?_ | refine xG_nsplit ?_ ?_ | refine xG_split ?_ ?_ | refine xC_dec ?_ ?_ | refine xC_ndec ?_ ?_ | refine xC_nsplit ?_ ?_ | refine xC_split ?_ ?_) <;> intro h <;> (try simp only [wA, seval, reduceCtorEq, reduceIte, f0, f3, c1, c0, hw1, Int.toNat_natCast, hx, a35, h]))
      exact yes (by rw [en]; rfl) _ (by simp only [FrAt_cons, FrAt_nil, wFr, Nat.reduceEqDiff, Nat.one_ne_zero, Nat.zero_ne_one, reduceIte, and_self, and_true, true_and, f0])
    | false =>
      rw [hL] at a35 en
      cases hD : isDig x with
      | true =>
        rw [hD] at a36 en
        simp only [wA, seval, reduceCtorEq, reduceIte, f0, f3, c1, c0, hw1, Int.toNat_natCast, hx, a35, a36]
        repeat' ((with_reducible first | refine xG_dec ?_ ?_ | refine xG_ndec ?_ ?_ | refine xG_nsplit ?_ ?_ | refine xG_split ?_ ?_ | refine xC_dec ?_ ?_ | refine xC_ndec ?_ ?_ | refine xC_nsplit ?_ ?_ | refine xC_split ?_ ?_) <;> intro h <;> (try simp only [wA, seval, reduceCtorEq, reduceIte, f0, f3, c1, c0, hw1, Int.toNat_natCast, hx, a35, a36, h]))
        exact yes (by rw [en]; rfl) _ (by simp only [FrAt_cons, FrAt_nil, wFr, Nat.reduceEqDiff, Nat.one_ne_zero, Nat.zero_ne_one, reduceIte, and_self, and_true, true_and, f0])
      | false =>
        rw [hD] at a36 en
        by_cases h95 : (x.toNat : Int) = 95
        · rw [decide_eq_true h95] at en
          have h95' : ((x.toNat : Int) = 95) = True := by simp [h95]
          simp only [wA, seval, reduceCtorEq, reduceIte, f0, f3, c1, c0, hw1, Int.toNat_natCast, hx, a35, a36, h95']
          repeat' ((with_reducible first | refine xG_dec ?_ ?_ | refine xG_ndec ?_ ?_ | refine xG_nsplit ?_ ?_ | refine xG_split ?_ ?_ | refine xC_dec ?_ ?_ | refine xC_ndec ?_ ?_ | refine xC_nsplit ?_ ?_ | refine xC_split ?_ ?_) <;> intro h <;> (try simp only [wA, seval, reduceCtorEq, reduceIte, f0, f3, c1, c0, hw1, Int.toNat_natCast, hx, a35, a36, h95', h]))
          exact yes (by rw [en]; rfl) _ (by simp only [FrAt_cons, FrAt_nil, wFr, Nat.reduceEqDiff, Nat.one_ne_zero, Nat.zero_ne_one, reduceIte, and_self, and_true, true_and, f0])
        · rw [decide_eq_false h95] at en
          have hq : isNam x = false := by rw [en]; rfl
          simp only [wA, seval, reduceCtorEq, reduceIte, f0, f3, c1, c0, hw1, Int.toNat_natCast, hx, a35, a36, h95]
          repeat' ((with_reducible first | refine xG_dec ?_ ?_ | refine xG_ndec ?_ ?_ | refine xG_nsplit ?_ ?_ | refine xG_split ?_ ?_ | refine xC_dec ?_ ?_ | refine xC_ndec ?_ ?_ | refine xC_nsplit ?_ ?_ | refine xC_split ?_ ?_) <;> intro h <;> (try simp only [wA, seval, reduceCtorEq, reduceIte, f0, f3, c1, c0, hw1, Int.toNat_natCast, hx, a35, a36, h95, h]))
          refine h1 _ ?_
          simp only [FrAt_cons, FrAt_nil, wFr, Nat.reduceEqDiff, Nat.one_ne_zero, Nat.zero_ne_one, reduceIte, and_self, and_true, true_and, f3, span, hq, Nat.add_zero, Bool.false_eq_true, if_false]
def wordN : List UInt8 → Nat
  | [] => 0
  | c :: r => if isLet c then span isNam (c :: r) else 0
theorem let_nam {c : UInt8} (h : isLet c = true) : isNam c = true := by rw [isNam, h]; rfl
theorem ok26 (s : List UInt8) (hl : s.length ≤ 281474976710656) {K : PV → Prop} : XcP F gl 26 [.str s] K ⟨⟩ ↔ K (.t (.int .i64 (wordN s : Nat))) := by
  refine Ret.iff (Ret.of F26 rfl ?_)
  simp only [ir26]
  cases s with
  | nil =>
    simp only [wA, seval, reduceCtorEq, reduceIte]
    repeat' ((with_reducible first | refine xG_dec ?_ ?_ | refine xG_ndec ?_ ?_ | refine xG_nsplit ?_ ?_ | refine xG_split ?_ ?_ | refine xC_dec ?_ ?_ | refine xC_ndec ?_ ?_ | refine xC_nsplit ?_ ?_ | refine xC_split ?_ ?_) <;> intro h <;> (try simp only [wA, seval, reduceCtorEq, reduceIte, h]))
    rfl
  | cons c r =>
    have a35 := @ok62 gl c
    cases hL : isLet c with
    | false =>
      rw [hL] at a35
      simp only [wA, seval, reduceCtorEq, reduceIte, a35]
      repeat' ((with_reducible first | refine xG_dec ?_ ?_ | refine xG_ndec ?_ ?_ | refine xG_nsplit ?_ ?_ | refine xG_split ?_ ?_ | refine xC_dec ?_ ?_ | refine xC_ndec ?_ ?_ | refine xC_nsplit ?_ ?_ | refine xC_split ?_ ?_) <;> intro h <;> (try simp only [wA, seval, reduceCtorEq, reduceIte, a35, h]))
      simp [wordN, hL]
    | true =>
      rw [hL] at a35
      simp only [wA, seval, reduceCtorEq, reduceIte, a35]
      repeat' ((with_reducible first | refine xG_dec ?_ ?_ | refine xG_ndec ?_ ?_ | refine xG_nsplit ?_ ?_ | refine xG_split ?_ ?_ | refine xC_dec ?_ ?_ | refine xC_ndec ?_ ?_ | refine xC_nsplit ?_ ?_ | refine xC_split ?_ ?_) <;> intro h <;> (try simp only [wA, seval, reduceCtorEq, reduceIte, a35, h]))
      refine loop26 hl _ r 1 _ rfl (by simp only [FrAt_cons, FrAt_nil, wFr, Nat.reduceEqDiff, Nat.one_ne_zero, Nat.zero_ne_one, reduceIte, and_self, and_true, true_and]; exact rfl) fun fr' h => ?_
      simp only [wA, seval, reduceCtorEq, reduceIte, h]
      repeat' ((with_reducible first | refine xG_dec ?_ ?_ | refine xG_ndec ?_ ?_ | refine xG_nsplit ?_ ?_ | refine xG_split ?_ ?_ | refine xC_dec ?_ ?_ | refine xC_ndec ?_ ?_ | refine xC_nsplit ?_ ?_ | refine xC_split ?_ ?_) <;> intro h <;> (try simp only [wA, seval, reduceCtorEq, reduceIte, h, h]))
      simp only [wordN, hL, if_true, span, let_nam hL]
      congr 3
      omega
theorem loop25a {s : List UInt8} (hl : s.length ≤ 281474976710656) {sg : Sg} {ow : Ow} (Q : Ex → S → Prop) : ∀ (r : List UInt8) (i : Nat) (fr : List PV), s.drop i = r →
    FrAt fr [(0, .t (.str s)), (3, .t (.int .i64 i))] →
    (∀ fr', FrAt fr' [(0, .t (.str s)), (3, .t (.int .i64 ((i + cm r : Nat) : Int)))] → Q (.exit 2) ⟨fr', sg, ow⟩) →
    Xl F gl lb25_0 ⟨fr, sg, ow⟩ Q ⟨⟩ := by
  intro r
  induction r with
  | nil =>
    intro i fr hd hf h1
    have hd := drop_nil' hd
    simp only [FrAt_cons, FrAt_nil] at hf
    obtain ⟨f0, f3, -⟩ := hf
    refine Xl.step ?_
    simp only [lb25_0]
    have c1 : ¬ ((i : Int) < (s.length : Int)) := by omega
    simp only [wA, seval, reduceCtorEq, reduceIte, f0, f3, c1]
    repeat' ((with_reducible first | refine xG_dec ?_ ?_ | refine xG_ndec ?_ ?_ | refine xG_nsplit ?_ ?_ | refine xG_split ?_ ?_ | refine xC_dec ?_ ?_ | refine xC_ndec ?_ ?_ | refine xC_nsplit ?_ ?_ | refine xC_split ?_ ?_) <;> intro h <;> (try simp only [wA, seval, reduceCtorEq, reduceIte, f0, f3, c1, h]))
    exact h1 _ (by simp only [FrAt_cons, FrAt_nil, wFr, Nat.reduceEqDiff, Nat.one_ne_zero, Nat.zero_ne_one, reduceIte, and_self, and_true, true_and, f0, f3, cm, Nat.add_zero])
  | cons x r ih =>
    intro i fr hd hf h1
    obtain ⟨hx, hr, hi⟩ := drop_cons hd
    simp only [FrAt_cons, FrAt_nil] at hf
    obtain ⟨f0, f3, -⟩ := hf
    refine Xl.step ?_
    simp only [lb25_0]
    have c1 : (i : Int) < (s.length : Int) := by omega
    have c0 : (0 : Int) ≤ (i : Int) := by omega
    have hw1 : IntKind.wrap .i64 ((i : Int) + 1) = ((i + 1 : Nat) : Int) := by rw [IntWalk.i64_in _ (by omega)]; omega
    by_cases c : x = 10
    · have d := ne10.1 c
      simp only [wA, seval, reduceCtorEq, reduceIte, f0, f3, c1, c0, hw1, Int.toNat_natCast, hx, d, Bool.not_true]
      repeat' ((with_reducible first | refine xG_dec ?_ ?_ | refine xG_ndec ?_ ?_ | refine xG_nsplit ?_ ?_ | refine xG_split ?_ ?_ | refine xC_dec ?_ ?_ | refine xC_ndec ?_ ?_ | refine xC_nsplit ?_ ?_ | refine xC_split ?_ ?_) <;> intro h <;> (try simp only [wA, seval, reduceCtorEq, reduceIte, f0, f3, c1, c0, hw1, Int.toNat_natCast, hx, d, Bool.not_true, h]))
      exact h1 _ (by simp only [FrAt_cons, FrAt_nil, wFr, Nat.reduceEqDiff, Nat.one_ne_zero, Nat.zero_ne_one, reduceIte, and_self, and_true, true_and, f0, f3, cm, if_pos c, Nat.add_zero])
    · have d : ¬ ((x.toNat : Int) = 10) := fun e => c (ne10.2 e)
      simp only [wA, seval, reduceCtorEq, reduceIte, f0, f3, c1, c0, hw1, Int.toNat_natCast, hx, d, Bool.not_false]
      repeat' ((with_reducible first | refine xG_dec ?_ ?_ | refine xG_ndec ?_ ?_ | refine xG_nsplit ?_ ?_ | refine xG_split ?_ ?_ | refine xC_dec ?_ ?_ | refine xC_ndec ?_ ?_ | refine xC_nsplit ?_ ?_ | refine xC_split ?_ ?_) <;> intro h <;> (try simp only [wA, seval, reduceCtorEq, reduceIte, f0, f3, c1, c0, hw1, Int.toNat_natCast, hx, d, Bool.not_false, h]))
      refine ih (i + 1) _ hr (by simp only [FrAt_cons, FrAt_nil, wFr, Nat.reduceEqDiff, Nat.one_ne_zero, Nat.zero_ne_one, reduceIte, and_self, and_true, true_and, f0]) fun fr' h => h1 fr' ?_
      rw [cm, if_neg c, show i + (cm r + 1) = i + 1 + cm r by omega]
      exact h
theorem loop25 {s : List UInt8} (hl : s.length ≤ 281474976710656) {sg : Sg} {ow : Ow} (Q : Ex → S → Prop) : ∀ (n : Nat) (r : List UInt8) (i : Nat) (fr : List PV), r.length ≤ n → s.drop i = r →
    FrAt fr [(0, .t (.str s)), (3, .t (.int .i64 i))] →
    (∀ fr', FrAt fr' [(0, .t (.str s)), (3, .t (.int .i64 ((i + gapM false r : Nat) : Int)))] → Q (.exit 0) ⟨fr', sg, ow⟩) →
    (∀ fr', fget fr' 2 = .t (.int .i64 ((i + gapM false r : Nat) : Int)) → Q .ret ⟨fr', sg, ow⟩) →
    Xl F gl lb25_1 ⟨fr, sg, ow⟩ Q ⟨⟩ := by
  intro n
  induction n with
  | zero =>
    intro r i fr hn hd hf h1 h2
    have hr0 : r = [] := by simpa using hn
    subst hr0
    have hd := drop_nil' hd
    simp only [FrAt_cons, FrAt_nil] at hf
    obtain ⟨f0, f3, -⟩ := hf
    refine Xl.step ?_
    simp only [lb25_1]
    have c1 : ¬ ((i : Int) < (s.length : Int)) := by omega
    simp only [wA, seval, reduceCtorEq, reduceIte, f0, f3, c1]
    repeat' ((with_reducible first | refine xG_dec ?_ ?_ | refine xG_ndec ?_ ?_ | refine xG_nsplit ?_ ?_ | refine xG_split ?_ ?_ | refine xC_dec ?_ ?_ | refine xC_ndec ?_ ?_ | refine xC_nsplit ?_ ?_ | refine xC_split ?_ ?_) <;> intro h <;> (try simp only [wA, seval, reduceCtorEq, reduceIte, f0, f3, c1, h]))
    exact h1 _ (by simp only [FrAt_cons, FrAt_nil, wFr, Nat.reduceEqDiff, Nat.one_ne_zero, Nat.zero_ne_one, reduceIte, and_self, and_true, true_and, f0, f3, gapM, Nat.add_zero])
  | succ n ih =>
    intro r i fr hn hd hf h1 h2
    cases r with
    | nil =>
      have hd := drop_nil' hd
      simp only [FrAt_cons, FrAt_nil] at hf
      obtain ⟨f0, f3, -⟩ := hf
      refine Xl.step ?_
      simp only [lb25_1]
      have c1 : ¬ ((i : Int) < (s.length : Int)) := by omega
      simp only [wA, seval, reduceCtorEq, reduceIte, f0, f3, c1]
      repeat' ((with_reducible first | refine xG_dec ?_ ?_ | refine xG_ndec ?_ ?_ | refine xG_nsplit ?_ ?_ | refine xG_split ?_ ?_ | refine xC_dec ?_ ?_ | refine xC_ndec ?_ ?_ | refine xC_nsplit ?_ ?_ | refine xC_split ?_ ?_) <;> intro h <;> (try simp only [wA, seval, reduceCtorEq, reduceIte, f0, f3, c1, h]))
      exact h1 _ (by simp only [FrAt_cons, FrAt_nil, wFr, Nat.reduceEqDiff, Nat.one_ne_zero, Nat.zero_ne_one, reduceIte, and_self, and_true, true_and, f0, f3, gapM, Nat.add_zero])
    | cons x r =>
      obtain ⟨hx, hr, hi⟩ := drop_cons hd
      simp only [FrAt_cons, FrAt_nil] at hf
      obtain ⟨f0, f3, -⟩ := hf
      simp only [List.length_cons] at hn
      have c1 : (i : Int) < (s.length : Int) := by omega
      have c0 : (0 : Int) ≤ (i : Int) := by omega
      have c0' : (0 : Int) ≤ ((i + 1 : Nat) : Int) := by omega
      have hw1 : IntKind.wrap .i64 ((i : Int) + 1) = ((i + 1 : Nat) : Int) := by rw [IntWalk.i64_in _ (by omega)]; omega
      refine Xl.step ?_
      simp only [lb25_1]
      cases hb : isBlk x with
      | true =>
        have e : gapM false (x :: r) = gapM false r + 1 := by simp only [gapM, hb, if_true]
        rw [e] at h1 h2
        have e2 : i + (gapM false r + 1) = i + 1 + gapM false r := by omega
        rw [e2] at h1 h2
        rcases blk_yes hb with d | d | d | d
        · simp only [wA, seval, reduceCtorEq, reduceIte, f0, f3, c1, c0, hw1, Int.toNat_natCast, hx, d]
          repeat' ((with_reducible first | refine xG_dec ?_ ?_ | refine xG_ndec ?_ ?_ | refine xG_nsplit ?_ ?_ | refine xG_split ?_ ?_ | refine xC_dec ?_ ?_ | refine xC_ndec ?_ ?_ | refine xC_nsplit ?_ ?_ | refine xC_split ?_ ?_) <;> intro h <;> (try simp only [wA, seval, reduceCtorEq, reduceIte, f0, f3, c1, c0, hw1, Int.toNat_natCast, hx, d, h]))
          exact ih r (i + 1) _ (by omega) hr (by simp only [FrAt_cons, FrAt_nil, wFr, Nat.reduceEqDiff, Nat.one_ne_zero, Nat.zero_ne_one, reduceIte, and_self, and_true, true_and, f0]) h1 h2
        · simp only [wA, seval, reduceCtorEq, reduceIte, f0, f3, c1, c0, hw1, Int.toNat_natCast, hx, d]
          repeat' ((with_reducible first | refine xG_dec ?_ ?_ | refine xG_ndec ?_ ?_ | refine xG_nsplit ?_ ?_ | refine xG_split ?_ ?_ | refine xC_dec ?_ ?_ | refine xC_ndec ?_ ?_ | refine xC_nsplit ?_ ?_ | refine xC_split ?_ ?_) <;> intro h <;> (try simp only [wA, seval, reduceCtorEq, reduceIte, f0, f3, c1, c0, hw1, Int.toNat_natCast, hx, d, h]))
          exact ih r (i + 1) _ (by omega) hr (by simp only [FrAt_cons, FrAt_nil, wFr, Nat.reduceEqDiff, Nat.one_ne_zero, Nat.zero_ne_one, reduceIte, and_self, and_true, true_and, f0]) h1 h2
        · simp only [wA, seval, reduceCtorEq, reduceIte, f0, f3, c1, c0, hw1, Int.toNat_natCast, hx, d]
          repeat' ((with_reducible first | refine xG_dec ?_ ?_ | refine xG_ndec ?_ ?_ | refine xG_nsplit ?_ ?_ | refine xG_split ?_ ?_ | refine xC_dec ?_ ?_ | refine xC_ndec ?_ ?_ | refine xC_nsplit ?_ ?_ | refine xC_split ?_ ?_) <;> intro h <;> (try simp only [wA, seval, reduceCtorEq, reduceIte, f0, f3, c1, c0, hw1, Int.toNat_natCast, hx, d, h]))
          exact ih r (i + 1) _ (by omega) hr (by simp only [FrAt_cons, FrAt_nil, wFr, Nat.reduceEqDiff, Nat.one_ne_zero, Nat.zero_ne_one, reduceIte, and_self, and_true, true_and, f0]) h1 h2
        · simp only [wA, seval, reduceCtorEq, reduceIte, f0, f3, c1, c0, hw1, Int.toNat_natCast, hx, d]
          repeat' ((with_reducible first | refine xG_dec ?_ ?_ | refine xG_ndec ?_ ?_ | refine xG_nsplit ?_ ?_ | refine xG_split ?_ ?_ | refine xC_dec ?_ ?_ | refine xC_ndec ?_ ?_ | refine xC_nsplit ?_ ?_ | refine xC_split ?_ ?_) <;> intro h <;> (try simp only [wA, seval, reduceCtorEq, reduceIte, f0, f3, c1, c0, hw1, Int.toNat_natCast, hx, d, h]))
          exact ih r (i + 1) _ (by omega) hr (by simp only [FrAt_cons, FrAt_nil, wFr, Nat.reduceEqDiff, Nat.one_ne_zero, Nat.zero_ne_one, reduceIte, and_self, and_true, true_and, f0]) h1 h2
      | false =>
        obtain ⟨d1, d2, d3, d4⟩ := blk_no hb
        have stop : (x == 45 && r.head? == some 45) = false → gapM false (x :: r) = 0 := fun hc => by simp only [gapM, hb, hc, Bool.false_eq_true, if_false]
        by_cases hx45 : x = 45
        · have d5 := ne45.1 hx45
          cases r with
          | nil =>
            rw [stop (by simp)] at h1 h2
            have hend : ((i + 1 : Nat) : Int) = (s.length : Int) := by have := drop_nil' hr; omega
            simp only [wA, seval, reduceCtorEq, reduceIte, f0, f3, c1, c0, hw1, Int.toNat_natCast, hx, d1, d2, d3, d4, d5, hend, Bool.not_true]
            repeat' ((with_reducible first | refine xG_dec ?_ ?_ | refine xG_ndec ?_ ?_ | refine xG_nsplit ?_ ?_ | refine xG_split ?_ ?_ | refine xC_dec ?_ ?_ | refine xC_ndec ?_ ?_ | refine xC_nsplit ?_ ?_ | refine xC_split ?_ ?_) <;> intro h <;> (try simp only [wA, seval, reduceCtorEq, reduceIte, f0, f3, c1, c0, hw1, Int.toNat_natCast, hx, d1, d2, d3, d4, d5, hend, Bool.not_true, h]))
            exact h2 _ (by simp only [FrAt_cons, FrAt_nil, wFr, Nat.reduceEqDiff, Nat.one_ne_zero, Nat.zero_ne_one, reduceIte, and_self, and_true, true_and, f3, Nat.add_zero])
          | cons y r =>
            obtain ⟨hy, hr', hi'⟩ := drop_cons hr
            have hend : ¬ (((i + 1 : Nat) : Int) = (s.length : Int)) := by omega
            by_cases hy45 : y = 45
            · have d6 := ne45.1 hy45
              have hc : (x == 45 && (y :: r).head? == some 45) = true := by simp [hx45, hy45]
              have e : gapM false (x :: y :: r) = gapM true (x :: y :: r) := by
                simp only [gapM, hb, hc, Bool.false_eq_true, if_false, if_true]
                rw [hx45]
                rfl
              rw [gap_cm] at e
              rw [e] at h1 h2
              have hx10 : x ≠ 10 := by rw [hx45]; decide
              have hcm : cm (x :: y :: r) = cm (y :: r) + 1 := by rw [cm, if_neg hx10]
              have hle := cm_le (y :: r)
              simp only [wA, seval, reduceCtorEq, reduceIte, f0, f3, c1, c0, c0', hw1, Int.toNat_natCast, hx, hy, d1, d2, d3, d4, d5, d6, hend, Bool.not_true]
              repeat' ((with_reducible first | refine xG_dec ?_ ?_ | refine xG_ndec ?_ ?_ | refine xG_nsplit ?_ ?_ | refine xG_split ?_ ?_ | refine xC_dec ?_ ?_ | refine xC_ndec ?_ ?_ | refine xC_nsplit ?_ ?_ | refine xC_split ?_ ?_) <;> intro h <;> (try simp only [wA, seval, reduceCtorEq, reduceIte, f0, f3, c1, c0, c0', hw1, Int.toNat_natCast, hx, hy, d1, d2, d3, d4, d5, d6, hend, Bool.not_true, h]))
              refine loop25a hl _ (x :: y :: r) i _ hd (by simp only [FrAt_cons, FrAt_nil, wFr, Nat.reduceEqDiff, Nat.one_ne_zero, Nat.zero_ne_one, reduceIte, and_self, and_true, true_and, f0, f3]) fun fr' h => ?_
              simp only [wA, seval, reduceCtorEq, reduceIte]
              repeat' ((with_reducible first | refine xG_dec ?_ ?_ | refine xG_ndec ?_ ?_ | refine xG_nsplit ?_ ?_ | refine xG_split ?_ ?_ | refine xC_dec ?_ ?_ | refine xC_ndec ?_ ?_ | refine xC_nsplit ?_ ?_ | refine xC_split ?_ ?_) <;> intro h <;> (try simp only [wA, seval, reduceCtorEq, reduceIte, h]))
              refine ih ((x :: y :: r).drop (cm (x :: y :: r))) (i + cm (x :: y :: r)) fr' (by rw [hcm]; simp only [List.length_drop, List.length_cons] at hn ⊢; omega) (by rw [← List.drop_drop, hd]) h ?_ ?_
              · intro fr'' h'
                rw [Nat.add_assoc] at h'
                exact h1 fr'' h'
              · intro fr'' h'
                rw [Nat.add_assoc] at h'
                exact h2 fr'' h'
            · have d6 : ¬ ((y.toNat : Int) = 45) := fun e => hy45 (ne45.2 e)
              rw [stop (by simp [hy45])] at h1 h2
              simp only [wA, seval, reduceCtorEq, reduceIte, f0, f3, c1, c0, c0', hw1, Int.toNat_natCast, hx, hy, d1, d2, d3, d4, d5, d6, hend, Bool.not_true, Bool.not_false]
              repeat' ((with_reducible first | refine xG_dec ?_ ?_ | refine xG_ndec ?_ ?_ | refine xG_nsplit ?_ ?_ | refine xG_split ?_ ?_ | refine xC_dec ?_ ?_ | refine xC_ndec ?_ ?_ | refine xC_nsplit ?_ ?_ | refine xC_split ?_ ?_) <;> intro h <;> (try simp only [wA, seval, reduceCtorEq, reduceIte, f0, f3, c1, c0, c0', hw1, Int.toNat_natCast, hx, hy, d1, d2, d3, d4, d5, d6, hend, Bool.not_true, Bool.not_false, h]))
              exact h2 _ (by simp only [FrAt_cons, FrAt_nil, wFr, Nat.reduceEqDiff, Nat.one_ne_zero, Nat.zero_ne_one, reduceIte, and_self, and_true, true_and, f3, Nat.add_zero])
        · have d5 : ¬ ((x.toNat : Int) = 45) := fun e => hx45 (ne45.2 e)
          rw [stop (by simp [hx45])] at h1 h2
          simp only [wA, seval, reduceCtorEq, reduceIte, f0, f3, c1, c0, hw1, Int.toNat_natCast, hx, d1, d2, d3, d4, d5, Bool.not_false]
          repeat' ((with_reducible first | refine xG_dec ?_ ?_ | refine xG_ndec ?_ ?_ | refine xG_nsplit ?_ ?_ | refine xG_split ?_ ?_ | refine xC_dec ?_ ?_ | refine xC_ndec ?_ ?_ | refine xC_nsplit ?_ ?_ | refine xC_split ?_ ?_) <;> intro h <;> (try simp only [wA, seval, reduceCtorEq, reduceIte, f0, f3, c1, c0, hw1, Int.toNat_natCast, hx, d1, d2, d3, d4, d5, Bool.not_false, h]))
          exact h2 _ (by simp only [FrAt_cons, FrAt_nil, wFr, Nat.reduceEqDiff, Nat.one_ne_zero, Nat.zero_ne_one, reduceIte, and_self, and_true, true_and, f3, Nat.add_zero])
theorem ok25 (s : List UInt8) (hl : s.length ≤ 281474976710656) {K : PV → Prop} : XcP F gl 25 [.str s] K ⟨⟩ ↔ K (.t (.int .i64 ((gapM false s : Nat) : Int))) := by
  refine Ret.iff (Ret.of F25 rfl ?_)
  simp only [ir25]
  simp only [wA, seval, reduceCtorEq, reduceIte]
  repeat' ((with_reducible first | refine xG_dec ?_ ?_ | refine xG_ndec ?_ ?_ | refine xG_nsplit ?_ ?_ | refine xG_split ?_ ?_ | refine xC_dec ?_ ?_ | refine xC_ndec ?_ ?_ | refine xC_nsplit ?_ ?_ | refine xC_split ?_ ?_) <;> intro h <;> (try simp only [wA, seval, reduceCtorEq, reduceIte, h]))
  refine loop25 hl _ s.length s 0 _ (Nat.le_refl _) rfl (by simp only [FrAt_cons, FrAt_nil, wFr, Nat.reduceEqDiff, Nat.one_ne_zero, Nat.zero_ne_one, reduceIte, and_self, and_true, true_and]) ?_ ?_
  · intro fr' h
    simp only [FrAt_cons, FrAt_nil, Nat.zero_add] at h
    obtain ⟨f0, f3, -⟩ := h
    simp only [wA, seval, reduceCtorEq, reduceIte, f0, f3]
    repeat' ((with_reducible first | refine xG_dec ?_ ?_ | refine xG_ndec ?_ ?_ | refine xG_nsplit ?_ ?_ | refine xG_split ?_ ?_ | refine xC_dec ?_ ?_ | refine xC_ndec ?_ ?_ | refine xC_nsplit ?_ ?_ | refine xC_split ?_ ?_) <;> intro h <;> (try simp only [wA, seval, reduceCtorEq, reduceIte, f0, f3, h]))
  · intro fr' h
    rw [Nat.zero_add] at h
    simp only [wA, seval, reduceCtorEq, reduceIte, h]
    repeat' ((with_reducible first | refine xG_dec ?_ ?_ | refine xG_ndec ?_ ?_ | refine xG_nsplit ?_ ?_ | refine xG_split ?_ ?_ | refine xC_dec ?_ ?_ | refine xC_ndec ?_ ?_ | refine xC_nsplit ?_ ?_ | refine xC_split ?_ ?_) <;> intro h <;> (try simp only [wA, seval, reduceCtorEq, reduceIte, h, h]))
theorem slice_mid {s : List UInt8} {i j : Nat} (h1 : i ≤ j) (h2 : j ≤ s.length) : sliceS (.t (.str s)) (some (.t (.int .i64 (i : Int)))) (some (.t (.int .i64 (j : Int)))) = some (.t (.str ((s.drop i).take (j - i)))) := by
  have a : (0 : Int) ≤ (i : Int) := by omega
  have b : (0 : Int) ≤ (j : Int) := by omega
  have e : (s.take j).drop i = (s.drop i).take (j - i) := by rw [List.drop_take]
  simp only [sliceS, bound, a, b, if_true, Int.toNat_natCast, h1, h2, and_self, e]
end Go.Proofs.YtcbgiabippcpaaaGreatDoor

/- The reference's lexer: numbers, symbols, tokens. -/
set_option maxRecDepth 10000
set_option linter.unusedVariables false
set_option linter.unusedSimpArgs false
namespace Go.Proofs.YtcbgiabippcpaaaGreatDoor
open Go.Pi Go.Lx
variable {gl : Nat → Option (List T)}

theorem wrU (n : Nat) : IntKind.wrap .u64 (n : Int) = ((n % 18446744073709551616 : Nat) : Int) := by
  rw [u64_wrap]; omega
theorem ovf1 {acc d : Nat} (hd : d ≤ 9) (h : (18446744073709551615 - d) / 10 < acc % 18446744073709551616) : 18446744073709551615 < 10 * acc + d := by
  have := Nat.mod_le acc 18446744073709551616
  omega
theorem ovf2 {acc d : Nat} (hd : d ≤ 9) (ha : ¬ 18446744073709551615 < acc) (h : ¬ (18446744073709551615 - d) / 10 < acc % 18446744073709551616) : ¬ 18446744073709551615 < 10 * acc + d := by
  rw [Nat.mod_eq_of_lt (by omega)] at h
  omega
def ovf (a : Nat) : Nat := if 18446744073709551615 < a then 3 else 0
theorem loop28 {s : List UInt8} (hl : s.length ≤ 281474976710656) {sg : Sg} {ow : Ow} (Q : Ex → S → Prop) : ∀ (r : List UInt8) (i acc : Nat) (fr : List PV), s.drop i = r →
    FrAt fr [(0, .t (.str s)), (5, .t (.int .i64 i)), (6, .t (.int .u64 ((acc % 18446744073709551616 : Nat) : Int))), (7, .t (.int .i64 (ovf acc : Nat)))] →
    (∀ fr', FrAt fr' [(0, .t (.str s)), (5, .t (.int .i64 ((i + span isDig r : Nat) : Int))), (6, .t (.int .u64 ((numF acc (r.take (span isDig r)) % 18446744073709551616 : Nat) : Int))), (7, .t (.int .i64 (ovf (numF acc (r.take (span isDig r))) : Nat)))] → Q (.exit 0) ⟨fr', sg, ow⟩) →
    Xl F gl lb28_0 ⟨fr, sg, ow⟩ Q ⟨⟩ := by
  intro r
  induction r with
  | nil =>
    intro i acc fr hd hf h1
    have hd := drop_nil' hd
    simp only [FrAt_cons, FrAt_nil] at hf
    obtain ⟨f0, f5, f6, f7, -⟩ := hf
    refine Xl.step ?_
    simp only [lb28_0]
    have c1 : ¬ ((i : Int) < (s.length : Int)) := by omega
    simp only [wA, seval, reduceCtorEq, reduceIte, f0, f5, f6, f7, c1]
    repeat' ((with_reducible first | refine xG_dec ?_ ?_ | refine xG_ndec ?_ ?_ | refine xG_nsplit ?_ ?_ | refine xG_split ?_ ?_ | refine xC_dec ?_ ?_ | refine xC_ndec ?_ ?_ | refine xC_nsplit ?_ ?_ | refine xC_split ?_ ?_) <;> intro h <;> (try simp only [wA, seval, reduceCtorEq, reduceIte, f0, f5, f6, f7, c1, h]))
    exact h1 _ (by simp only [FrAt_cons, FrAt_nil, wFr, Nat.reduceEqDiff, Nat.one_ne_zero, Nat.zero_ne_one, reduceIte, and_self, and_true, true_and, f0, f5, f6, f7, span, Nat.add_zero, List.take_zero, numF_nil])
  | cons x r ih =>
    intro i acc fr hd hf h1
    obtain ⟨hx, hr, hi⟩ := drop_cons hd
    simp only [FrAt_cons, FrAt_nil] at hf
    obtain ⟨f0, f5, f6, f7, -⟩ := hf
    have c1 : (i : Int) < (s.length : Int) := by omega
    have c0 : (0 : Int) ≤ (i : Int) := by omega
    have hw1 : IntKind.wrap .i64 ((i : Int) + 1) = ((i + 1 : Nat) : Int) := by rw [IntWalk.i64_in _ (by omega)]; omega
    have a36 := @ok63 gl x
    refine Xl.step ?_
    simp only [lb28_0]
    cases hD : isDig x with
    | false =>
      rw [hD] at a36
      simp only [wA, seval, reduceCtorEq, reduceIte, f0, f5, f6, f7, c1, c0, hw1, Int.toNat_natCast, hx, a36]
      repeat' ((with_reducible first | refine xG_dec ?_ ?_ | refine xG_ndec ?_ ?_ | refine xG_nsplit ?_ ?_ | refine xG_split ?_ ?_ | refine xC_dec ?_ ?_ | refine xC_ndec ?_ ?_ | refine xC_nsplit ?_ ?_ | refine xC_split ?_ ?_) <;> intro h <;> (try simp only [wA, seval, reduceCtorEq, reduceIte, f0, f5, f6, f7, c1, c0, hw1, Int.toNat_natCast, hx, a36, h]))
      exact h1 _ (by simp only [FrAt_cons, FrAt_nil, wFr, Nat.reduceEqDiff, Nat.one_ne_zero, Nat.zero_ne_one, reduceIte, and_self, and_true, true_and, f0, f5, f6, f7, span, hD, Bool.false_eq_true, if_false, Nat.add_zero, List.take_zero, numF_nil])
    | true =>
      rw [hD] at a36
      obtain ⟨d1, d2⟩ := dig_le hD
      have w1 : IntKind.wrap .u8 ((x.toNat : Int) - 48) = ((x.toNat - 48 : Nat) : Int) := by rw [IntWalk.u8_in _ (by omega)]; omega
      have e1 : span isDig (x :: r) = span isDig r + 1 := by simp only [span, hD, if_true]
      rw [e1, List.take_succ_cons, numF_cons] at h1
      have hd9 : x.toNat - 48 ≤ 9 := by omega
      generalize hdd : x.toNat - 48 = d at *
      have w2 : IntKind.wrap .u64 (d : Int) = (d : Int) := IntWalk.u64_in _ (by omega)
      have w3 : IntKind.wrap .u64 (18446744073709551615 - (d : Int)) = ((18446744073709551615 - d : Nat) : Int) := by rw [IntWalk.u64_in _ (by omega)]; omega
      have w4 : IntKind.wrap .u64 (((18446744073709551615 - d : Nat) : Int).tdiv 10) = (((18446744073709551615 - d) / 10 : Nat) : Int) := by
        rw [show (10 : Int) = ((10 : Nat) : Int) from rfl, ← Int.ofNat_tdiv, IntWalk.u64_in _ (by omega)]
      have w5 : IntKind.wrap .u64 (((acc % 18446744073709551616 : Nat) : Int) * 10) = ((acc % 18446744073709551616 * 10 % 18446744073709551616 : Nat) : Int) := by
        rw [show ((acc % 18446744073709551616 : Nat) : Int) * 10 = ((acc % 18446744073709551616 * 10 : Nat) : Int) by omega, wrU]
      have w6 : IntKind.wrap .u64 (((acc % 18446744073709551616 * 10 % 18446744073709551616 : Nat) : Int) + (d : Int)) = (((10 * acc + d) % 18446744073709551616 : Nat) : Int) := by
        rw [show ((acc % 18446744073709551616 * 10 % 18446744073709551616 : Nat) : Int) + (d : Int) = ((acc % 18446744073709551616 * 10 % 18446744073709551616 + d : Nat) : Int) by omega, wrU]
        congr 1; omega
      have fin : ∀ fr2, FrAt fr2 [(0, .t (.str s)), (5, .t (.int .i64 ((i + 1 : Nat) : Int))), (6, .t (.int .u64 (((10 * acc + d) % 18446744073709551616 : Nat) : Int))), (7, .t (.int .i64 (ovf (10 * acc + d) : Nat)))] → Xl F gl lb28_0 ⟨fr2, sg, ow⟩ Q ⟨⟩ := by
        intro fr2 hf2
        refine ih (i + 1) (10 * acc + d) fr2 hr hf2 fun fr' h => h1 fr' ?_
        rw [show i + (span isDig r + 1) = i + 1 + span isDig r by omega]
        exact h
      by_cases hv : (((18446744073709551615 - d) / 10 : Nat) : Int) < ((acc % 18446744073709551616 : Nat) : Int)
      · have eo : (ovf (10 * acc + d) : Int) = 3 := by
          have : ovf (10 * acc + d) = 3 := by unfold ovf; rw [if_pos (ovf1 hd9 (Int.ofNat_lt.1 hv))]
          omega
        rw [eo] at fin
        simp only [wA, seval, reduceCtorEq, reduceIte, f0, f5, f6, f7, c1, c0, hw1, Int.toNat_natCast, hx, a36, w1, w2, w3, w4, w5, w6, hv]
        repeat' ((with_reducible first | refine xG_dec ?_ ?_ | refine xG_ndec ?_ ?_ | refine xG_nsplit ?_ ?_ | refine xG_split ?_ ?_ | refine xC_dec ?_ ?_ | refine xC_ndec ?_ ?_ | refine xC_nsplit ?_ ?_ | refine xC_split ?_ ?_) <;> intro h <;> (try simp only [wA, seval, reduceCtorEq, reduceIte, f0, f5, f6, f7, c1, c0, hw1, Int.toNat_natCast, hx, a36, w1, w2, w3, w4, w5, w6, hv, h]))
        exact fin _ (by simp only [FrAt_cons, FrAt_nil, wFr, Nat.reduceEqDiff, Nat.one_ne_zero, Nat.zero_ne_one, reduceIte, and_self, and_true, true_and, f0])
      · have eo : ovf (10 * acc + d) = ovf acc := by
          unfold ovf
          by_cases ha : 18446744073709551615 < acc
          · rw [if_pos ha, if_pos (by omega)]
          · rw [if_neg ha, if_neg (ovf2 hd9 ha fun q => hv (Int.ofNat_lt.2 q))]
        rw [eo] at fin
        simp only [wA, seval, reduceCtorEq, reduceIte, f0, f5, f6, f7, c1, c0, hw1, Int.toNat_natCast, hx, a36, w1, w2, w3, w4, w5, w6, hv]
        repeat' ((with_reducible first | refine xG_dec ?_ ?_ | refine xG_ndec ?_ ?_ | refine xG_nsplit ?_ ?_ | refine xG_split ?_ ?_ | refine xC_dec ?_ ?_ | refine xC_ndec ?_ ?_ | refine xC_nsplit ?_ ?_ | refine xC_split ?_ ?_) <;> intro h <;> (try simp only [wA, seval, reduceCtorEq, reduceIte, f0, f5, f6, f7, c1, c0, hw1, Int.toNat_natCast, hx, a36, w1, w2, w3, w4, w5, w6, hv, h]))
        exact fin _ (by simp only [FrAt_cons, FrAt_nil, wFr, Nat.reduceEqDiff, Nat.one_ne_zero, Nat.zero_ne_one, reduceIte, and_self, and_true, true_and, f0, f7])
def numE (s : List UInt8) : Nat := if 1 < span isDig s ∧ s.head? = some 48 then 2 else ovf (numV (s.take (span isDig s)))
theorem ok28 (s : List UInt8) (hl : s.length ≤ 281474976710656) {K : PV → Prop} : XcP F gl 28 [.str s] K ⟨⟩ ↔ K (.tup [.t (.int .i64 (span isDig s : Nat)), .t (.int .u64 ((numV (s.take (span isDig s)) % 18446744073709551616 : Nat) : Int)), .t (.int .i64 (numE s : Nat))]) := by
  refine Ret.iff (Ret.of F28 rfl ?_)
  simp only [ir28]
  simp only [wA, seval, reduceCtorEq, reduceIte]
  repeat' ((with_reducible first | refine xG_dec ?_ ?_ | refine xG_ndec ?_ ?_ | refine xG_nsplit ?_ ?_ | refine xG_split ?_ ?_ | refine xC_dec ?_ ?_ | refine xC_ndec ?_ ?_ | refine xC_nsplit ?_ ?_ | refine xC_split ?_ ?_) <;> intro h <;> (try simp only [wA, seval, reduceCtorEq, reduceIte, h]))
  refine loop28 hl _ s 0 0 _ rfl (by simp only [FrAt_cons, FrAt_nil, wFr, Nat.reduceEqDiff, Nat.one_ne_zero, Nat.zero_ne_one, reduceIte, and_self, and_true, true_and]; exact ⟨rfl, rfl⟩) ?_
  intro fr' hf'
  rw [Nat.zero_add, numF_zero] at hf'
  simp only [FrAt_cons, FrAt_nil] at hf'
  obtain ⟨f0, f5, f6, f7, -⟩ := hf'
  have hsp := span_le isDig s
  by_cases h1 : (1 : Int) < ((span isDig s : Nat) : Int)
  · obtain ⟨c, r, hcr⟩ : ∃ c r, s = c :: r := by
      cases s with
      | nil => simp at hsp; omega
      | cons c r => exact ⟨c, r, rfl⟩
    have h0 : s[0]? = some c := by rw [hcr]; rfl
    have hh : (s.head? = some 48) ↔ ((c.toNat : Int) = 48) := by rw [hcr, List.head?_cons, Option.some.injEq]; exact u8_eq (n := 48) (by omega)
    by_cases h48 : (c.toNat : Int) = 48
    · have e : numE s = 2 := by rw [numE, if_pos ⟨by omega, hh.2 h48⟩]
      simp only [wA, seval, reduceCtorEq, reduceIte, f0, f5, f6, f7, h1, h0, h48]
      repeat' ((with_reducible first | refine xG_dec ?_ ?_ | refine xG_ndec ?_ ?_ | refine xG_nsplit ?_ ?_ | refine xG_split ?_ ?_ | refine xC_dec ?_ ?_ | refine xC_ndec ?_ ?_ | refine xC_nsplit ?_ ?_ | refine xC_split ?_ ?_) <;> intro h <;> (try simp only [wA, seval, reduceCtorEq, reduceIte, f0, f5, f6, f7, h1, h0, h48, h]))
      rw [e]; rfl
    · have e : numE s = ovf (numV (s.take (span isDig s))) := by rw [numE, if_neg (fun q => h48 (hh.1 q.2))]
      simp only [wA, seval, reduceCtorEq, reduceIte, f0, f5, f6, f7, h1, h0, h48]
      repeat' ((with_reducible first | refine xG_dec ?_ ?_ | refine xG_ndec ?_ ?_ | refine xG_nsplit ?_ ?_ | refine xG_split ?_ ?_ | refine xC_dec ?_ ?_ | refine xC_ndec ?_ ?_ | refine xC_nsplit ?_ ?_ | refine xC_split ?_ ?_) <;> intro h <;> (try simp only [wA, seval, reduceCtorEq, reduceIte, f0, f5, f6, f7, h1, h0, h48, h]))
      rw [e]
  · have e : numE s = ovf (numV (s.take (span isDig s))) := by rw [numE, if_neg (fun q => h1 (by omega))]
    simp only [wA, seval, reduceCtorEq, reduceIte, f0, f5, f6, f7, h1]
    repeat' ((with_reducible first | refine xG_dec ?_ ?_ | refine xG_ndec ?_ ?_ | refine xG_nsplit ?_ ?_ | refine xG_split ?_ ?_ | refine xC_dec ?_ ?_ | refine xC_ndec ?_ ?_ | refine xC_nsplit ?_ ?_ | refine xC_split ?_ ?_) <;> intro h <;> (try simp only [wA, seval, reduceCtorEq, reduceIte, f0, f5, f6, f7, h1, h]))
    rw [e]
theorem loop29 {l : List (List UInt8)} (hl : l.length ≤ 281474976710656) {s : List UInt8} {sg : Sg} {ow : Ow} (Q : Ex → S → Prop) : ∀ (r : List (List UInt8)) (i : Nat) (fr : List PV), l.drop i = r →
    FrAt fr [(0, .t (.str s)), (3, .lit (tStrs l)), (4, .t (.int .i64 i))] →
    (symF r s = 0 → ∀ fr', Q (.exit 0) ⟨fr', sg, ow⟩) →
    (∀ fr', fget fr' 2 = .t (.int .i64 (symF r s : Nat)) → Q .ret ⟨fr', sg, ow⟩) →
    Xl F gl lb29_0 ⟨fr, sg, ow⟩ Q ⟨⟩ := by
  intro r
  induction r with
  | nil =>
    intro i fr hd hf h1 h2
    have hd := drop_nil' hd
    simp only [FrAt_cons, FrAt_nil] at hf
    obtain ⟨f0, f3, f4, -⟩ := hf
    refine Xl.step ?_
    simp only [lb29_0]
    have e : (tStrs l).length = l.length := by simp [tStrs]
    have c1 : ¬ ((i : Int) < (l.length : Int)) := by omega
    simp only [wA, seval, reduceCtorEq, reduceIte, f0, f3, f4, e, c1]
    repeat' ((with_reducible first | refine xG_dec ?_ ?_ | refine xG_ndec ?_ ?_ | refine xG_nsplit ?_ ?_ | refine xG_split ?_ ?_ | refine xC_dec ?_ ?_ | refine xC_ndec ?_ ?_ | refine xC_nsplit ?_ ?_ | refine xC_split ?_ ?_) <;> intro h <;> (try simp only [wA, seval, reduceCtorEq, reduceIte, f0, f3, f4, e, c1, h]))
    exact h1 rfl _
  | cons x r ih =>
    intro i fr hd hf h1 h2
    obtain ⟨hx, hr, hi⟩ := drop_cons hd
    simp only [FrAt_cons, FrAt_nil] at hf
    obtain ⟨f0, f3, f4, -⟩ := hf
    refine Xl.step ?_
    simp only [lb29_0]
    have c1 : (i : Int) < (l.length : Int) := by omega
    have hw1 : IntKind.wrap .i64 ((i : Int) + 1) = ((i + 1 : Nat) : Int) := by rw [IntWalk.i64_in _ (by omega)]; omega
    by_cases c2 : (x.length : Int) ≤ (s.length : Int)
    · have st := slice_to (s := s) (n := x.length) (by omega)
      by_cases c3 : s.take x.length = x
      · have e : symF (x :: r) s = x.length := by rw [symF, if_pos ⟨by omega, c3⟩]
        rw [c3] at st
        simp only [wA, seval, reduceCtorEq, reduceIte, f0, f3, f4, tStrs, List.length_map, c1, c2, hw1, List.getElem?_map, hx, st, BEq.rfl]
        repeat' ((with_reducible first | refine xG_dec ?_ ?_ | refine xG_ndec ?_ ?_ | refine xG_nsplit ?_ ?_ | refine xG_split ?_ ?_ | refine xC_dec ?_ ?_ | refine xC_ndec ?_ ?_ | refine xC_nsplit ?_ ?_ | refine xC_split ?_ ?_) <;> intro h <;> (try simp only [wA, seval, reduceCtorEq, reduceIte, f0, f3, f4, tStrs, List.length_map, c1, c2, hw1, List.getElem?_map, hx, st, BEq.rfl, h]))
        refine h2 _ ?_
        simp only [FrAt_cons, FrAt_nil, wFr, Nat.reduceEqDiff, Nat.one_ne_zero, Nat.zero_ne_one, reduceIte, and_self, and_true, true_and, e]
      · have e : symF (x :: r) s = symF r s := by rw [symF, if_neg (fun q => c3 q.2)]
        rw [e] at h1 h2
        simp only [wA, seval, reduceCtorEq, reduceIte, f0, f3, f4, tStrs, List.length_map, c1, c2, hw1, List.getElem?_map, hx, st, c3]
        repeat' ((with_reducible first | refine xG_dec ?_ ?_ | refine xG_ndec ?_ ?_ | refine xG_nsplit ?_ ?_ | refine xG_split ?_ ?_ | refine xC_dec ?_ ?_ | refine xC_ndec ?_ ?_ | refine xC_nsplit ?_ ?_ | refine xC_split ?_ ?_) <;> intro h <;> (try simp only [wA, seval, reduceCtorEq, reduceIte, f0, f3, f4, tStrs, List.length_map, c1, c2, hw1, List.getElem?_map, hx, st, c3, h]))
        exact ih (i + 1) _ hr (by simp only [FrAt_cons, FrAt_nil, wFr, Nat.reduceEqDiff, Nat.one_ne_zero, Nat.zero_ne_one, reduceIte, and_self, and_true, true_and, f0, f3, tStrs]) h1 h2
    · have e : symF (x :: r) s = symF r s := by rw [symF, if_neg (fun q => c2 (by omega))]
      rw [e] at h1 h2
      simp only [wA, seval, reduceCtorEq, reduceIte, f0, f3, f4, tStrs, List.length_map, c1, c2, hw1, List.getElem?_map, hx]
      repeat' ((with_reducible first | refine xG_dec ?_ ?_ | refine xG_ndec ?_ ?_ | refine xG_nsplit ?_ ?_ | refine xG_split ?_ ?_ | refine xC_dec ?_ ?_ | refine xC_ndec ?_ ?_ | refine xC_nsplit ?_ ?_ | refine xC_split ?_ ?_) <;> intro h <;> (try simp only [wA, seval, reduceCtorEq, reduceIte, f0, f3, f4, tStrs, List.length_map, c1, c2, hw1, List.getElem?_map, hx, h]))
      exact ih (i + 1) _ hr (by simp only [FrAt_cons, FrAt_nil, wFr, Nat.reduceEqDiff, Nat.one_ne_zero, Nat.zero_ne_one, reduceIte, and_self, and_true, true_and, f0, f3, tStrs]) h1 h2
theorem ok29 (s : List UInt8) {K : PV → Prop} : XcP F gl 29 [.str s] K ⟨⟩ ↔ K (.t (.int .i64 (symF syms s : Nat))) := by
  refine Ret.iff (Ret.of F29 rfl ?_)
  simp only [ir29]
  simp only [wA, seval, reduceCtorEq, reduceIte, bslV, chunks, cell1, T.isAgg, List.replicate, List.flatten_cons, List.flatten_nil, List.append_nil]
  repeat' ((with_reducible first | refine xG_dec ?_ ?_ | refine xG_ndec ?_ ?_ | refine xG_nsplit ?_ ?_ | refine xG_split ?_ ?_ | refine xC_dec ?_ ?_ | refine xC_ndec ?_ ?_ | refine xC_nsplit ?_ ?_ | refine xC_split ?_ ?_) <;> intro h <;> (try simp only [wA, seval, reduceCtorEq, reduceIte, bslV, chunks, cell1, T.isAgg, List.replicate, List.flatten_cons, List.flatten_nil, List.append_nil, h]))
  refine loop29 (l := syms) (by decide) (s := s) _ syms 0 _ rfl (by simp only [FrAt_cons, FrAt_nil, wFr, Nat.reduceEqDiff, Nat.one_ne_zero, Nat.zero_ne_one, reduceIte, and_self, and_true, true_and]; exact rfl) ?_ ?_
  · intro h fr'
    simp only [wA, seval, reduceCtorEq, reduceIte]
    repeat' ((with_reducible first | refine xG_dec ?_ ?_ | refine xG_ndec ?_ ?_ | refine xG_nsplit ?_ ?_ | refine xG_split ?_ ?_ | refine xC_dec ?_ ?_ | refine xC_ndec ?_ ?_ | refine xC_nsplit ?_ ?_ | refine xC_split ?_ ?_) <;> intro h <;> (try simp only [wA, seval, reduceCtorEq, reduceIte, h]))
    rw [h]; rfl
  · intro fr' h
    simp only [wA, seval, reduceCtorEq, reduceIte, h]
    repeat' ((with_reducible first | refine xG_dec ?_ ?_ | refine xG_ndec ?_ ?_ | refine xG_nsplit ?_ ?_ | refine xG_split ?_ ?_ | refine xC_dec ?_ ?_ | refine xC_ndec ?_ ?_ | refine xC_nsplit ?_ ?_ | refine xC_split ?_ ?_) <;> intro h <;> (try simp only [wA, seval, reduceCtorEq, reduceIte, h, h]))
theorem next_W {c : UInt8} {r : List UInt8} (hL : isLet c = true) : next (c :: r) = if keywords.contains ((c :: r).take (span isNam (c :: r))) then .ok 2 (span isNam (c :: r)) 0 else if 24 < span isNam (c :: r) then .err 3 else .ok 1 (span isNam (c :: r)) 0 := by
  rw [next, if_pos hL]; rfl
theorem next_D {c : UInt8} {r : List UInt8} (hL : isLet c = false) (hD : isDig c = true) : next (c :: r) = if numE (c :: r) = 0 then .ok 3 (span isDig (c :: r)) (numV ((c :: r).take (span isDig (c :: r)))) else .err (numE (c :: r)) := by
  by_cases h : (c :: r).head? = some 48 ∧ 1 < span isDig (c :: r)
  · have e : numE (c :: r) = 2 := by rw [numE, if_pos ⟨h.2, h.1⟩]
    rw [next, if_neg (by simp [hL]), if_pos hD, nextD, if_pos h, e, if_neg (by decide)]
  · have e : numE (c :: r) = ovf (numV ((c :: r).take (span isDig (c :: r)))) := by rw [numE, if_neg (fun q => h ⟨q.2, q.1⟩)]
    rw [next, if_neg (by simp [hL]), if_pos hD, nextD, if_neg h]
    by_cases g : 18446744073709551615 < numV ((c :: r).take (span isDig (c :: r)))
    · have e2 : numE (c :: r) = 3 := by rw [e, ovf, if_pos g]
      rw [if_pos g, e2, if_neg (by decide)]
    · have e2 : numE (c :: r) = 0 := by rw [e, ovf, if_neg g]
      rw [if_neg g, e2, if_pos rfl]
theorem next_S {c : UInt8} {r : List UInt8} (hL : isLet c = false) (hD : isDig c = false) : next (c :: r) = if symF syms (c :: r) = 0 then .err 2 else .ok 4 (symF syms (c :: r)) 0 := by
  rw [next, if_neg (by simp [hL]), if_neg (by simp [hD]), symF_syms]
  cases pairH c r
  · cases isSing c <;> rfl
  · rfl
theorem loop10 {s : List UInt8} (hl : s.length ≤ 20000) (Q : Ex → S → Prop) : ∀ (N p0 : Nat) (acc : List Tok) (fr : List PV) (sg : Sg), (s.drop p0).length ≤ N → p0 ≤ s.length → acc.length ≤ p0 →
    FrAt fr [(0, .t (.str s)), (5, accV acc), (6, .t (.int .i64 ((p0 + gap (s.drop p0) : Nat) : Int)))] →
    (∀ l, lexR p0 (s.drop p0) = .toks l → ∀ fr' sg', FrAt fr' [(0, .t (.str s)), (5, accV (acc ++ l.dropLast))] → (acc ++ l.dropLast).length ≤ 20000 → Q (.exit 0) ⟨fr', sg', accO (acc ++ l.dropLast)⟩) →
    (∀ p e, lexR p0 (s.drop p0) = .err p e → ∀ fr' sg' ow', FrAt fr' [(2, .t (.sl true [])), (3, .t (.int .i64 p)), (4, .t (.int .i64 e))] → Q .ret ⟨fr', sg', ow'⟩) →
    Xl F gl lb10_0 ⟨fr, sg, accO acc⟩ Q ⟨⟩ := by
  intro N
  induction N with
  | zero =>
    intro p0 acc fr sg hN hp0 ha hf h1 h2
    have hs0 : s.drop p0 = [] := List.eq_nil_of_length_eq_zero (Nat.le_zero.1 hN)
    have hp : p0 = s.length := by have := List.drop_eq_nil_iff.1 hs0; omega
    rw [hs0] at hf h1 h2
    have hlx : lexR p0 ([] : List UInt8) = .toks [⟨0, [], 0, p0 + 0⟩] := lexR_end (by simp [gapM])
    simp only [FrAt_cons, FrAt_nil, gapM, Nat.add_zero] at hf
    obtain ⟨f0, f5, f6, -⟩ := hf
    refine Xl.step ?_
    simp only [lb10_0]
    have c1 : ¬ ((p0 : Int) < (s.length : Int)) := by omega
    simp only [wA, seval, reduceCtorEq, reduceIte, f0, f5, f6, c1]
    repeat' ((with_reducible first | refine xG_dec ?_ ?_ | refine xG_ndec ?_ ?_ | refine xG_nsplit ?_ ?_ | refine xG_split ?_ ?_ | refine xC_dec ?_ ?_ | refine xC_ndec ?_ ?_ | refine xC_nsplit ?_ ?_ | refine xC_split ?_ ?_) <;> intro h <;> (try simp only [wA, seval, reduceCtorEq, reduceIte, f0, f5, f6, c1, h]))
    have this := h1 _ hlx
    simp only [List.dropLast_singleton, List.append_nil] at this
    exact this _ _ (by simp only [FrAt_cons, FrAt_nil, wFr, Nat.reduceEqDiff, Nat.one_ne_zero, Nat.zero_ne_one, reduceIte, and_self, and_true, true_and, f0, f5]) (by omega)
  | succ N ih =>
    intro p0 acc fr sg hN hp0 ha hf h1 h2
    have hgl := gapM_le (s.drop p0) false
    have hdl : (s.drop p0).length = s.length - p0 := List.length_drop
    simp only [FrAt_cons, FrAt_nil] at hf
    obtain ⟨f0, f5, f6, -⟩ := hf
    rcases lex_cases (s.drop p0) with hE | ⟨hlt, -⟩
    · have hlx := lexR_end (pos := p0) hE
      refine Xl.step ?_
      simp only [lb10_0]
      have c1 : ¬ (((p0 + gap (s.drop p0) : Nat) : Int) < (s.length : Int)) := by omega
      simp only [wA, seval, reduceCtorEq, reduceIte, f0, f5, f6, c1]
      repeat' ((with_reducible first | refine xG_dec ?_ ?_ | refine xG_ndec ?_ ?_ | refine xG_nsplit ?_ ?_ | refine xG_split ?_ ?_ | refine xC_dec ?_ ?_ | refine xC_ndec ?_ ?_ | refine xC_nsplit ?_ ?_ | refine xC_split ?_ ?_) <;> intro h <;> (try simp only [wA, seval, reduceCtorEq, reduceIte, f0, f5, f6, c1, h]))
      have this := h1 _ hlx
      simp only [List.dropLast_singleton, List.append_nil] at this
      exact this _ _ (by simp only [FrAt_cons, FrAt_nil, wFr, Nat.reduceEqDiff, Nat.one_ne_zero, Nat.zero_ne_one, reduceIte, and_self, and_true, true_and, f0, f5]) (by omega)
    · have hdd : s.drop (p0 + gap (s.drop p0)) = (s.drop p0).drop (gap (s.drop p0)) := by rw [List.drop_drop]
      obtain ⟨i, hi⟩ : ∃ i, i = p0 + gap (s.drop p0) := ⟨_, rfl⟩
      obtain ⟨c, r, hcr⟩ : ∃ c r, s.drop i = c :: r := by
        cases hd : s.drop i with
        | nil => have := congrArg List.length hd; simp only [List.length_drop, List.length_nil] at this; omega
        | cons c r => exact ⟨c, r, rfl⟩
      rw [← hi] at f6 hdd
      have c1 : (i : Int) < (s.length : Int) := by omega
      have hlen : (c :: r).length = s.length - i := by rw [← hcr, List.length_drop]
      have hip : p0 ≤ i := by omega
      have bad : ∀ e, next (c :: r) = .err e → ∀ fr' sg' ow', FrAt fr' [(2, .t (.sl true [])), (3, .t (.int .i64 i)), (4, .t (.int .i64 e))] → Q .ret ⟨fr', sg', ow'⟩ := by
        intro e hn
        have hlx := lexR_err (pos := p0) hlt (by rw [← hdd, hcr]; exact hn)
        rw [← hi] at hlx
        exact h2 i e hlx
      have fin : ∀ k n v, next (c :: r) = .ok k n v → ∀ fr2 sg2, FrAt fr2 [(0, .t (.str s)), (5, accV (acc ++ [⟨k, (c :: r).take n, v, i⟩])), (6, .t (.int .i64 ((i + n + gap (s.drop (i + n)) : Nat) : Int)))] → Xl F gl lb10_0 ⟨fr2, sg2, accO (acc ++ [⟨k, (c :: r).take n, v, i⟩])⟩ Q ⟨⟩ := by
        intro k n v hn fr2 sg2 hf2
        have hpos := next_pos hn
        have hlx := lexR_ok (pos := p0) hlt (by rw [← hdd, hcr]; exact hn)
        rw [← List.drop_drop, ← hdd, hcr, ← hi] at hlx
        have hdn : (c :: r).drop n = s.drop (i + n) := by rw [← hcr, List.drop_drop]
        rw [hdn] at hlx
        refine ih (i + n) (acc ++ [⟨k, (c :: r).take n, v, i⟩]) fr2 sg2 ?_ ?_ ?_ hf2 ?_ ?_
        · rw [List.length_drop]; omega
        · omega
        · simp; omega
        · intro l hll fr' sg' hf' hlen'
          rw [hll] at hlx
          have hne := lexR_ne hll
          have e1 : acc ++ (⟨k, (c :: r).take n, v, i⟩ :: l).dropLast = acc ++ [⟨k, (c :: r).take n, v, i⟩] ++ l.dropLast := by rw [List.dropLast_cons_of_ne_nil hne]; simp
          have this := h1 _ hlx fr' sg'
          rw [e1] at this
          exact this hf' hlen'
        · intro p e hee fr' sg' ow' hf'
          rw [hee] at hlx
          exact h2 p e hlx fr' sg' ow' hf'
      have hsl := slice_from (s := s) (i := i) (by omega)
      rw [hcr] at hsl
      have a22 := @ok26 gl (c :: r) (by omega)
      have adv : ∀ n, n ≤ (c :: r).length → IntKind.wrap .i64 ((i : Int) + (n : Int)) = ((i + n : Nat) : Int) ∧ sliceS (.t (.str s)) (some (.t (.int .i64 (i : Int)))) (some (.t (.int .i64 ((i + n : Nat) : Int)))) = some (.t (.str ((c :: r).take n))) ∧ sliceS (.t (.str s)) (some (.t (.int .i64 ((i + n : Nat) : Int)))) none = some (.t (.str (s.drop (i + n)))) ∧ IntKind.wrap .i64 (((i + n : Nat) : Int) + ((gapM false (s.drop (i + n)) : Nat) : Int)) = ((i + n + gapM false (s.drop (i + n)) : Nat) : Int) := by
        intro n hn
        have hg2 := gapM_le (s.drop (i + n)) false
        rw [List.length_drop] at hg2
        refine ⟨by rw [IntWalk.i64_in _ (by omega)]; omega, ?_, slice_from (by omega), by rw [IntWalk.i64_in _ (by omega)]; omega⟩
        have := slice_mid (s := s) (i := i) (j := i + n) (by omega) (by omega)
        rw [show i + n - i = n by omega, hcr] at this
        exact this
      have a14 : ∀ n {K : PV → Prop}, XcP F gl 25 [.str (s.drop (i + n))] K ⟨⟩ ↔ K (.t (.int .i64 ((gapM false (s.drop (i + n)) : Nat) : Int))) := fun n {K} => ok25 _ (by rw [List.length_drop]; omega)
      have eap := fun t => acc_app acc t (by omega)
      refine Xl.step ?_
      simp only [lb10_0]
      cases hL : isLet c with
      | true =>
        have hn := next_W (r := r) hL
        have ew : wordN (c :: r) = span isNam (c :: r) := by simp only [wordN, hL, if_true]
        rw [ew] at a22
        have hsp := span_le isNam (c :: r)
        have hs1 : 1 ≤ span isNam (c :: r) := by simp only [span, let_nam hL, if_true]; omega
        generalize hw : span isNam (c :: r) = w at *
        obtain ⟨v1, v2, v3, v4⟩ := adv w hsp
        have a14 := @a14 w
        have p0' : (0 : Int) < (w : Int) := by omega
        have z0 : ¬ ((w : Int) = 0) := by omega
        have a23 := @ok27 gl ((c :: r).take w)
        cases hk : keywords.contains ((c :: r).take w) with
        | true =>
          rw [hk] at hn a23
          simp only [if_true] at hn
          have ap := eap ⟨2, (c :: r).take w, 0, i⟩
          have fin := fin _ _ _ hn
          simp only [tTok, Int.cast_ofNat_Int] at ap
          generalize (c :: r).take w = tx at *
          simp only [wA, seval, reduceCtorEq, reduceIte, f0, f5, f6, c1, hsl, a22, p0', z0, v1, v2, v3, v4, a23, a14, bslV, chunks, cell1, T.isAgg, List.replicate, List.flatten_cons, List.flatten_nil, List.append_nil, ap]
          repeat' ((with_reducible first | refine xG_dec ?_ ?_ | refine xG_ndec ?_ ?_ | refine xG_nsplit ?_ ?_ | refine xG_split ?_ ?_ | refine xC_dec ?_ ?_ | refine xC_ndec ?_ ?_ | refine xC_nsplit ?_ ?_ | refine xC_split ?_ ?_) <;> intro h <;> (try simp only [wA, seval, reduceCtorEq, reduceIte, f0, f5, f6, c1, hsl, a22, p0', z0, v1, v2, v3, v4, a23, a14, bslV, chunks, cell1, T.isAgg, List.replicate, List.flatten_cons, List.flatten_nil, List.append_nil, ap, h]))
          exact fin _ _ (by simp only [FrAt_cons, FrAt_nil, wFr, Nat.reduceEqDiff, Nat.one_ne_zero, Nat.zero_ne_one, reduceIte, and_self, and_true, true_and, f0])
        | false =>
          rw [hk] at hn a23
          simp only [Bool.false_eq_true, if_false] at hn
          by_cases h24 : (24 : Int) < (w : Int)
          · rw [if_pos (by omega)] at hn
            simp only [wA, seval, reduceCtorEq, reduceIte, f0, f5, f6, c1, hsl, a22, p0', z0, v1, v2, a23, h24]
            repeat' ((with_reducible first | refine xG_dec ?_ ?_ | refine xG_ndec ?_ ?_ | refine xG_nsplit ?_ ?_ | refine xG_split ?_ ?_ | refine xC_dec ?_ ?_ | refine xC_ndec ?_ ?_ | refine xC_nsplit ?_ ?_ | refine xC_split ?_ ?_) <;> intro h <;> (try simp only [wA, seval, reduceCtorEq, reduceIte, f0, f5, f6, c1, hsl, a22, p0', z0, v1, v2, a23, h24, h]))
            exact bad _ hn _ _ _ (by simp only [FrAt_cons, FrAt_nil, wFr, Nat.reduceEqDiff, Nat.one_ne_zero, Nat.zero_ne_one, reduceIte, and_self, and_true, true_and]; exact rfl)
          · rw [if_neg (by omega)] at hn
            have ap := eap ⟨1, (c :: r).take w, 0, i⟩
            have fin := fin _ _ _ hn
            simp only [tTok, Int.cast_ofNat_Int] at ap
            generalize (c :: r).take w = tx at *
            simp only [wA, seval, reduceCtorEq, reduceIte, f0, f5, f6, c1, hsl, a22, p0', z0, v1, v2, v3, v4, a23, h24, a14, bslV, chunks, cell1, T.isAgg, List.replicate, List.flatten_cons, List.flatten_nil, List.append_nil, ap]
            repeat' ((with_reducible first | refine xG_dec ?_ ?_ | refine xG_ndec ?_ ?_ | refine xG_nsplit ?_ ?_ | refine xG_split ?_ ?_ | refine xC_dec ?_ ?_ | refine xC_ndec ?_ ?_ | refine xC_nsplit ?_ ?_ | refine xC_split ?_ ?_) <;> intro h <;> (try simp only [wA, seval, reduceCtorEq, reduceIte, f0, f5, f6, c1, hsl, a22, p0', z0, v1, v2, v3, v4, a23, h24, a14, bslV, chunks, cell1, T.isAgg, List.replicate, List.flatten_cons, List.flatten_nil, List.append_nil, ap, h]))
            exact fin _ _ (by simp only [FrAt_cons, FrAt_nil, wFr, Nat.reduceEqDiff, Nat.one_ne_zero, Nat.zero_ne_one, reduceIte, and_self, and_true, true_and, f0])
      | false =>
        have ew : wordN (c :: r) = 0 := by simp only [wordN, hL, Bool.false_eq_true, if_false]
        rw [ew] at a22
        simp only [Int.cast_ofNat_Int] at a22
        have a24 := @ok28 gl (c :: r) (by omega)
        have hsp := span_le isDig (c :: r)
        cases hD : isDig c with
        | true =>
          have hn := next_D (r := r) hL hD
          have hs1 : 1 ≤ span isDig (c :: r) := by simp only [span, hD, if_true]; omega
          have hov : numE (c :: r) = 0 → numV ((c :: r).take (span isDig (c :: r))) % 18446744073709551616 = numV ((c :: r).take (span isDig (c :: r))) := by
            intro h
            simp only [numE, ovf] at h
            split at h
            · omega
            · split at h
              · omega
              · exact Nat.mod_eq_of_lt (by omega)
          generalize hw : span isDig (c :: r) = w at *
          obtain ⟨v1, v2, v3, v4⟩ := adv w hsp
          have a14 := @a14 w
          have z0 : ¬ ((w : Int) = 0) := by omega
          by_cases he : numE (c :: r) = 0
          · rw [if_pos he] at hn
            rw [he, hov he] at a24
            simp only [Int.cast_ofNat_Int] at a24
            have ap := eap ⟨3, (c :: r).take w, numV ((c :: r).take w), i⟩
            have fin := fin _ _ _ hn
            simp only [tTok, Int.cast_ofNat_Int] at ap
            generalize numV ((c :: r).take w) = nv at *
            generalize (c :: r).take w = tx at *
            simp only [wA, seval, reduceCtorEq, reduceIte, f0, f5, f6, c1, hsl, a22, a24, z0, v1, v2, v3, v4, a14, bslV, chunks, cell1, T.isAgg, List.replicate, List.flatten_cons, List.flatten_nil, List.append_nil, ap, Bool.not_true]
            repeat' ((with_reducible first | refine xG_dec ?_ ?_ | refine xG_ndec ?_ ?_ | refine xG_nsplit ?_ ?_ | refine xG_split ?_ ?_ | refine xC_dec ?_ ?_ | refine xC_ndec ?_ ?_ | refine xC_nsplit ?_ ?_ | refine xC_split ?_ ?_) <;> intro h <;> (try simp only [wA, seval, reduceCtorEq, reduceIte, f0, f5, f6, c1, hsl, a22, a24, z0, v1, v2, v3, v4, a14, bslV, chunks, cell1, T.isAgg, List.replicate, List.flatten_cons, List.flatten_nil, List.append_nil, ap, Bool.not_true, h]))
            exact fin _ _ (by simp only [FrAt_cons, FrAt_nil, wFr, Nat.reduceEqDiff, Nat.one_ne_zero, Nat.zero_ne_one, reduceIte, and_self, and_true, true_and, f0])
          · rw [if_neg he] at hn
            have z1 : ¬ ((numE (c :: r) : Int) = 0) := by omega
            simp only [wA, seval, reduceCtorEq, reduceIte, f0, f5, f6, c1, hsl, a22, a24, z1, Bool.not_false]
            repeat' ((with_reducible first | refine xG_dec ?_ ?_ | refine xG_ndec ?_ ?_ | refine xG_nsplit ?_ ?_ | refine xG_split ?_ ?_ | refine xC_dec ?_ ?_ | refine xC_ndec ?_ ?_ | refine xC_nsplit ?_ ?_ | refine xC_split ?_ ?_) <;> intro h <;> (try simp only [wA, seval, reduceCtorEq, reduceIte, f0, f5, f6, c1, hsl, a22, a24, z1, Bool.not_false, h]))
            exact bad _ hn _ _ _ (by simp only [FrAt_cons, FrAt_nil, wFr, Nat.reduceEqDiff, Nat.one_ne_zero, Nat.zero_ne_one, reduceIte, and_self, and_true, true_and])
        | false =>
          have hn := next_S (r := r) hL hD
          have e0 : span isDig (c :: r) = 0 := by simp only [span, hD, Bool.false_eq_true, if_false]
          have e1 : numE (c :: r) = 0 := by simp [numE, e0, ovf, numV]
          have e2 : numV ((c :: r).take 0) % 18446744073709551616 = 0 := by simp [numV]
          rw [e1, e0, e2] at a24
          simp only [Int.cast_ofNat_Int] at a24
          have a25 := @ok29 gl (c :: r)
          by_cases hs : symF syms (c :: r) = 0
          · rw [if_pos hs] at hn
            rw [hs] at a25
            simp only [Int.cast_ofNat_Int] at a25
            simp only [wA, seval, reduceCtorEq, reduceIte, f0, f5, f6, c1, hsl, a22, a24, a25, Bool.not_true]
            repeat' ((with_reducible first | refine xG_dec ?_ ?_ | refine xG_ndec ?_ ?_ | refine xG_nsplit ?_ ?_ | refine xG_split ?_ ?_ | refine xC_dec ?_ ?_ | refine xC_ndec ?_ ?_ | refine xC_nsplit ?_ ?_ | refine xC_split ?_ ?_) <;> intro h <;> (try simp only [wA, seval, reduceCtorEq, reduceIte, f0, f5, f6, c1, hsl, a22, a24, a25, Bool.not_true, h]))
            exact bad _ hn _ _ _ (by simp only [FrAt_cons, FrAt_nil, wFr, Nat.reduceEqDiff, Nat.one_ne_zero, Nat.zero_ne_one, reduceIte, and_self, and_true, true_and]; exact rfl)
          · rw [if_neg hs] at hn
            have hp := next_pos hn
            generalize symF syms (c :: r) = w at *
            obtain ⟨v1, v2, v3, v4⟩ := adv w hp.2
            have a14 := @a14 w
            have z0 : ¬ ((w : Int) = 0) := by omega
            have ap := eap ⟨4, (c :: r).take w, 0, i⟩
            have fin := fin _ _ _ hn
            simp only [tTok, Int.cast_ofNat_Int] at ap
            generalize (c :: r).take w = tx at *
            simp only [wA, seval, reduceCtorEq, reduceIte, f0, f5, f6, c1, hsl, a22, a24, a25, z0, v1, v2, v3, v4, a14, bslV, chunks, cell1, T.isAgg, List.replicate, List.flatten_cons, List.flatten_nil, List.append_nil, ap, Bool.not_true]
            repeat' ((with_reducible first | refine xG_dec ?_ ?_ | refine xG_ndec ?_ ?_ | refine xG_nsplit ?_ ?_ | refine xG_split ?_ ?_ | refine xC_dec ?_ ?_ | refine xC_ndec ?_ ?_ | refine xC_nsplit ?_ ?_ | refine xC_split ?_ ?_) <;> intro h <;> (try simp only [wA, seval, reduceCtorEq, reduceIte, f0, f5, f6, c1, hsl, a22, a24, a25, z0, v1, v2, v3, v4, a14, bslV, chunks, cell1, T.isAgg, List.replicate, List.flatten_cons, List.flatten_nil, List.append_nil, ap, Bool.not_true, h]))
            exact fin _ _ (by simp only [FrAt_cons, FrAt_nil, wFr, Nat.reduceEqDiff, Nat.one_ne_zero, Nat.zero_ne_one, reduceIte, and_self, and_true, true_and, f0])
theorem ok10 (s : List UInt8) {K : PV → Prop} : XcP F gl 10 [.str s] K ⟨⟩ ↔ K (resV s) := by
  refine Ret.iff (Ret.of F10 rfl ?_)
  simp only [ir10]
  by_cases hb : 16384 < s.length
  · have c1 : (16384 : Int) < (s.length : Int) := by omega
    simp only [wA, seval, reduceCtorEq, reduceIte, c1]
    repeat' ((with_reducible first | refine xG_dec ?_ ?_ | refine xG_ndec ?_ ?_ | refine xG_nsplit ?_ ?_ | refine xG_split ?_ ?_ | refine xC_dec ?_ ?_ | refine xC_ndec ?_ ?_ | refine xC_nsplit ?_ ?_ | refine xC_split ?_ ?_) <;> intro h <;> (try simp only [wA, seval, reduceCtorEq, reduceIte, c1, h]))
    rw [resV_big hb]
  · have c1 : ¬ ((16384 : Int) < (s.length : Int)) := by omega
    have a14 := @ok25 gl s (by omega)
    simp only [wA, seval, reduceCtorEq, reduceIte, c1, a14]
    repeat' ((with_reducible first | refine xG_dec ?_ ?_ | refine xG_ndec ?_ ?_ | refine xG_nsplit ?_ ?_ | refine xG_split ?_ ?_ | refine xC_dec ?_ ?_ | refine xC_ndec ?_ ?_ | refine xC_nsplit ?_ ?_ | refine xC_split ?_ ?_) <;> intro h <;> (try simp only [wA, seval, reduceCtorEq, reduceIte, c1, a14, h]))
    refine loop10 (by omega) _ (s.drop 0).length 0 [] _ _ (Nat.le_refl _) (Nat.zero_le _) (Nat.le_refl _) (by simp only [FrAt_cons, FrAt_nil, wFr, Nat.reduceEqDiff, Nat.one_ne_zero, Nat.zero_ne_one, reduceIte, and_self, and_true, true_and, accV, List.drop_zero, Nat.zero_add]) ?_ ?_
    · intro l hll fr' sg' hf' hlen
      rw [List.drop_zero] at hll
      rw [List.nil_append] at hf' hlen ⊢
      simp only [FrAt_cons, FrAt_nil] at hf'
      obtain ⟨f0, f5, -⟩ := hf'
      have hlast := lexR_last _ _ _ _ rfl hll
      rw [Nat.zero_add] at hlast
      have eap := acc_app l.dropLast ⟨0, [], 0, s.length⟩ (by omega)
      simp only [tTok, Int.cast_ofNat_Int] at eap
      have hr := fun sg => accV_retSl sg l.dropLast ⟨0, [], 0, s.length⟩
      rw [← hlast] at eap hr
      simp only [wA, seval, reduceCtorEq, reduceIte, f0, f5, bslV, chunks, cell1, T.isAgg, List.replicate, List.flatten_cons, List.flatten_nil, List.append_nil, eap]
      repeat' ((with_reducible first | refine xG_dec ?_ ?_ | refine xG_ndec ?_ ?_ | refine xG_nsplit ?_ ?_ | refine xG_split ?_ ?_ | refine xC_dec ?_ ?_ | refine xC_ndec ?_ ?_ | refine xC_nsplit ?_ ?_ | refine xC_split ?_ ?_) <;> intro h <;> (try simp only [wA, seval, reduceCtorEq, reduceIte, f0, f5, bslV, chunks, cell1, T.isAgg, List.replicate, List.flatten_cons, List.flatten_nil, List.append_nil, eap, h]))
      rw [resV_toks hb hll]
      cases l with
      | nil => simp at hlast
      | cons t m => exact rfl
    · intro p e hee fr' sg' ow' hf'
      rw [List.drop_zero] at hee
      simp only [FrAt_cons, FrAt_nil] at hf'
      obtain ⟨f2, f3, f4, -⟩ := hf'
      simp only [wA, seval, reduceCtorEq, reduceIte, f2, f3, f4]
      repeat' ((with_reducible first | refine xG_dec ?_ ?_ | refine xG_ndec ?_ ?_ | refine xG_nsplit ?_ ?_ | refine xG_split ?_ ?_ | refine xC_dec ?_ ?_ | refine xC_ndec ?_ ?_ | refine xC_nsplit ?_ ?_ | refine xC_split ?_ ?_) <;> intro h <;> (try simp only [wA, seval, reduceCtorEq, reduceIte, f2, f3, f4, h]))
      rw [resV_err hb hee]
end Go.Proofs.YtcbgiabippcpaaaGreatDoor
