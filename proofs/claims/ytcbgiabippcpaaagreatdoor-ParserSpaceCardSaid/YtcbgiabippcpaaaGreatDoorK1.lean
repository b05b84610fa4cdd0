/- Contracts: names. -/
import Derived.Test.YtcbgiabippcpaaaGreatDoorIrA
import Derived.Test.YtcbgiabippcpaaaGreatDoorKx44
set_option maxRecDepth 10000
set_option linter.unusedVariables false
set_option linter.unusedSimpArgs false
namespace Go.Proofs.YtcbgiabippcpaaaGreatDoor
open Go.Pi Go.Lx Go.Ky
variable {gl : Nat → Option (List T)}

abbrev tB (c : UInt8) : T := .int .u8 (c.toNat : Int)
theorem le_int {a c : UInt8} : a ≤ c ↔ ((a.toNat : Int) ≤ (c.toNat : Int)) := by rw [UInt8.le_iff_toNat_le]; omega
theorem isLet_eq (c : UInt8) : isLet c = (decide ((97 : Int) ≤ (c.toNat : Int)) && decide ((c.toNat : Int) ≤ 122)) := by
  unfold isLet
  congr 1 <;> (congr 1; exact propext le_int)
theorem isDig_eq (c : UInt8) : isDig c = (decide ((48 : Int) ≤ (c.toNat : Int)) && decide ((c.toNat : Int) ≤ 57)) := by
  unfold isDig
  congr 1 <;> (congr 1; exact propext le_int)
theorem u8_eq {c : UInt8} {n : Nat} (hn : n < 256) : (c = UInt8.ofNat n) ↔ ((c.toNat : Int) = (n : Int)) := by
  constructor
  · intro h; subst h; rw [UInt8.toNat_ofNat']; omega
  · intro h
    apply UInt8.toNat_inj.1
    rw [UInt8.toNat_ofNat']; omega
theorem ok91 (c : UInt8) {K : PV → Prop} : XcP F gl 91 [tB c] K ⟨⟩ ↔ K (.t (.bool (isLet c))) := by
  refine Ret.iff (Ret.of F91 rfl ?_)
  simp only [ir91]
  simp only [wA, seval, reduceCtorEq, reduceIte]
  repeat' ((with_reducible first | refine xG_dec ?_ ?_ | refine xG_ndec ?_ ?_ | refine xG_nsplit ?_ ?_ | refine xG_split ?_ ?_ | refine xC_dec ?_ ?_ | refine xC_ndec ?_ ?_ | refine xC_nsplit ?_ ?_ | refine xC_split ?_ ?_) <;> intro h <;> (try simp only [wA, seval, reduceCtorEq, reduceIte, h]))
  all_goals (simp_all [isLet_eq] <;> omega)
theorem ok112 (c : UInt8) {K : PV → Prop} : XcP F gl 112 [tB c] K ⟨⟩ ↔ K (.t (.bool (isDig c))) := by
  refine Ret.iff (Ret.of F112 rfl ?_)
  simp only [ir112]
  simp only [wA, seval, reduceCtorEq, reduceIte]
  repeat' ((with_reducible first | refine xG_dec ?_ ?_ | refine xG_ndec ?_ ?_ | refine xG_nsplit ?_ ?_ | refine xG_split ?_ ?_ | refine xC_dec ?_ ?_ | refine xC_ndec ?_ ?_ | refine xC_nsplit ?_ ?_ | refine xC_split ?_ ?_) <;> intro h <;> (try simp only [wA, seval, reduceCtorEq, reduceIte, h]))
  all_goals (simp_all [isDig_eq] <;> omega)
theorem isNam_eq (c : UInt8) : isNam c = (isLet c || isDig c || decide ((c.toNat : Int) = 95)) := by
  unfold isNam
  congr 1
  have : (c = 95) ↔ ((c.toNat : Int) = 95) := u8_eq (n := 95) (by omega)
  by_cases h : c = 95
  · rw [decide_eq_true (this.1 h), h]; rfl
  · rw [decide_eq_false (fun e => h (this.2 e))]; simpa using h
theorem ok93 (c : UInt8) {K : PV → Prop} : XcP F gl 93 [tB c] K ⟨⟩ ↔ K (.t (.bool (isNam c))) := by
  refine Ret.iff (Ret.of F93 rfl ?_)
  simp only [ir93]
  simp only [wA, seval, reduceCtorEq, reduceIte, ok91, ok112]
  repeat' ((with_reducible first | refine xG_dec ?_ ?_ | refine xG_ndec ?_ ?_ | refine xG_nsplit ?_ ?_ | refine xG_split ?_ ?_ | refine xC_dec ?_ ?_ | refine xC_ndec ?_ ?_ | refine xC_nsplit ?_ ?_ | refine xC_split ?_ ?_) <;> intro h <;> (try simp only [wA, seval, reduceCtorEq, reduceIte, ok91, ok112, h]))
  all_goals simp_all [isNam_eq]
theorem okE93 (c : UInt8) {sg : Sg} {ow : Ow} {K : PV → Sg → Ow → Prop} : XcE F gl 93 [.t (tB c)] sg ow K ⟨⟩ ↔ K (.t (.bool (isNam c))) sg ow := by
  refine CallE.iff (XcE.of F93 rfl ?_)
  simp only [ir93]
  simp only [wA, seval, reduceCtorEq, reduceIte, ok91, ok112]
  repeat' ((with_reducible first | refine xG_dec ?_ ?_ | refine xG_ndec ?_ ?_ | refine xG_nsplit ?_ ?_ | refine xG_split ?_ ?_ | refine xC_dec ?_ ?_ | refine xC_ndec ?_ ?_ | refine xC_nsplit ?_ ?_ | refine xC_split ?_ ?_) <;> intro h <;> (try simp only [wA, seval, reduceCtorEq, reduceIte, ok91, ok112, h]))
  all_goals simp_all [isNam_eq]
/-- A span. -/
theorem loop92 {p : UInt8 → Bool} {f : Nat} (hp : ∀ (c : UInt8) {sg : Sg} {ow : Ow} {K : PV → Sg → Ow → Prop}, XcE F gl f [.t (tB c)] sg ow K ⟨⟩ ↔ K (.t (.bool (p c))) sg ow) {s : List UInt8} (hl : s.length ≤ 281474976710656) {sg : Sg} {ow : Ow} (Q : Ex → S → Prop) : ∀ (r : List UInt8) (i : Nat) (fr : List PV), s.drop i = r →
    FrAt fr [(0, .t (.str s)), (1, .fn f []), (5, .t (.int .i64 i))] →
    (∀ fr', fget fr' 5 = .t (.int .i64 ((i + span p r : Nat) : Int)) → Q (.exit 0) ⟨fr', sg, ow⟩) →
    Xl F gl lb92_0 ⟨fr, sg, ow⟩ Q ⟨⟩ := by
  intro r
  induction r with
  | nil =>
    intro i fr hd hf h1
    have hd := drop_nil' hd
    simp only [FrAt_cons, FrAt_nil] at hf
    obtain ⟨f0, f1, f5, -⟩ := hf
    refine Xl.step ?_
    simp only [lb92_0]
    have c1 : ¬ ((i : Int) < (s.length : Int)) := by omega
    simp only [wA, seval, reduceCtorEq, reduceIte, f0, f1, f5, c1]
    refine h1 _ ?_
    simp only [FrAt_cons, FrAt_nil, wFr, Nat.reduceEqDiff, Nat.one_ne_zero, Nat.zero_ne_one, reduceIte, and_self, and_true, true_and, f5, span, Nat.add_zero]
  | cons x r ih =>
    intro i fr hd hf h1
    obtain ⟨hx, hr, hi⟩ := drop_cons hd
    simp only [FrAt_cons, FrAt_nil] at hf
    obtain ⟨f0, f1, f5, -⟩ := hf
    refine Xl.step ?_
    simp only [lb92_0]
    have c1 : (i : Int) < (s.length : Int) := by omega
    have hw1 : IntKind.wrap .i64 ((i : Int) + 1) = ((i + 1 : Nat) : Int) := by rw [IntWalk.i64_in _ (by omega)]; omega
    have c0 : (0 : Int) ≤ (i : Int) := by omega
    cases hq : p x with
    | false =>
      simp only [wA, seval, reduceCtorEq, reduceIte, f0, f1, f5, c1, hw1, c0, Int.toNat_natCast, hx, hp, hq, List.append_nil]
      refine h1 _ ?_
      simp only [FrAt_cons, FrAt_nil, wFr, Nat.reduceEqDiff, Nat.one_ne_zero, Nat.zero_ne_one, reduceIte, and_self, and_true, true_and, f5, span, hq, Nat.add_zero, Bool.false_eq_true, if_false]
    | true =>
      simp only [wA, seval, reduceCtorEq, reduceIte, f0, f1, f5, c1, hw1, c0, Int.toNat_natCast, hx, hp, hq, List.append_nil]
      refine ih (i + 1) _ hr (by simp only [FrAt_cons, FrAt_nil, wFr, Nat.reduceEqDiff, Nat.one_ne_zero, Nat.zero_ne_one, reduceIte, and_self, and_true, true_and, f0, f1]) fun fr' h => h1 fr' ?_
      rw [h]
      simp only [span, hq, if_true]
      congr 3
      omega
theorem ok92 {p : UInt8 → Bool} {f : Nat} (hp : ∀ (c : UInt8) {sg : Sg} {ow : Ow} {K : PV → Sg → Ow → Prop}, XcE F gl f [.t (tB c)] sg ow K ⟨⟩ ↔ K (.t (.bool (p c))) sg ow) {s : List UInt8} (hl : s.length ≤ 281474976710656) {sg : Sg} {ow : Ow} {K : PV → Sg → Ow → Prop} :
    XcE F gl 92 [.t (.str s), .fn f []] sg ow K ⟨⟩ ↔ K (.t (.int .i64 (span p s : Nat))) sg ow := by
  refine CallE.iff (XcE.of F92 rfl ?_)
  simp only [ir92]
  simp only [wA, seval, reduceCtorEq, reduceIte]
  refine loop92 hp hl _ s 0 _ rfl (by simp only [FrAt_cons, FrAt_nil, wFr, Nat.reduceEqDiff, Nat.one_ne_zero, Nat.zero_ne_one, reduceIte, and_self, and_true, true_and]) fun fr' h => ?_
  simp only [wA, seval, reduceCtorEq, reduceIte, h]
  try simp
def tStrs (l : List (List UInt8)) : List (List T) := l.map fun s => [.str s]
theorem ok95 {K : PV → Prop} : XcP F gl 95 [] K ⟨⟩ ↔ K (.t (.sl false (tStrs keywords))) := by
  refine Ret.iff (Ret.of F95 rfl ?_)
  simp only [ir95]
  simp only [wA, seval, reduceCtorEq, reduceIte, bslV, chunks, cell1, T.isAgg, List.replicate, List.flatten_cons, List.flatten_nil, List.append_nil]
  rfl
def idxF (s : List UInt8) : List (List UInt8) → Nat → Int
  | [], _ => -1
  | x :: l, i => if s = x then (i : Int) else idxF s l (i + 1)
theorem idxF_contains (s : List UInt8) : ∀ (l : List (List UInt8)) (i : Nat), decide (0 ≤ idxF s l i) = l.contains s := by
  intro l
  induction l with
  | nil => intro i; rfl
  | cons x l ih =>
    intro i
    rw [List.contains_cons, idxF]
    split
    · rename_i h
      rw [h]
      simp
    · rename_i h
      rw [ih, show (s == x) = false by simpa using h, Bool.false_or]
theorem loop117 {nl : Bool} {l : List (List UInt8)} (hl : l.length ≤ 281474976710656) {s : List UInt8} {sg : Sg} {ow : Ow} (Q : Ex → S → Prop) : ∀ (r : List (List UInt8)) (i : Nat) (fr : List PV), l.drop i = r →
    FrAt fr [(0, .t (.sl nl (tStrs l))), (1, .t (.str s)), (7, .t (.int .i64 l.length)), (8, .t (.int .i64 i))] →
    (idxF s r i = -1 → ∀ fr', Q (.exit 0) ⟨fr', sg, ow⟩) →
    (∀ fr', fget fr' 4 = .t (.int .i64 (idxF s r i)) → Q .ret ⟨fr', sg, ow⟩) →
    Xl F gl lb117_0 ⟨fr, sg, ow⟩ Q ⟨⟩ := by
  intro r
  induction r with
  | nil =>
    intro i fr hd hf h1 h2
    have hd := drop_nil' hd
    simp only [FrAt_cons, FrAt_nil] at hf
    obtain ⟨f0, f1, f7, f8, -⟩ := hf
    refine Xl.step ?_
    simp only [lb117_0]
    have c1 : ¬ ((i : Int) < (l.length : Int)) := by omega
    simp only [wA, seval, reduceCtorEq, reduceIte, f0, f1, f7, f8, c1]
    exact h1 rfl _
  | cons x r ih =>
    intro i fr hd hf h1 h2
    obtain ⟨hx, hr, hi⟩ := drop_cons hd
    simp only [FrAt_cons, FrAt_nil] at hf
    obtain ⟨f0, f1, f7, f8, -⟩ := hf
    refine Xl.step ?_
    simp only [lb117_0]
    have c1 : (i : Int) < (l.length : Int) := by omega
    have hw1 : IntKind.wrap .i64 ((i : Int) + 1) = ((i + 1 : Nat) : Int) := by rw [IntWalk.i64_in _ (by omega)]; omega
    by_cases c : s = x
    · simp only [wA, seval, reduceCtorEq, reduceIte, f0, f1, f7, f8, c1, hw1, tStrs, List.getElem?_map, hx, c]
      refine h2 _ ?_
      simp only [FrAt_cons, FrAt_nil, wFr, Nat.reduceEqDiff, Nat.one_ne_zero, Nat.zero_ne_one, reduceIte, and_self, and_true, true_and, idxF, c]
    · simp only [wA, seval, reduceCtorEq, reduceIte, f0, f1, f7, f8, c1, hw1, tStrs, List.getElem?_map, hx, c]
      refine ih (i + 1) _ hr (by simp only [FrAt_cons, FrAt_nil, wFr, Nat.reduceEqDiff, Nat.one_ne_zero, Nat.zero_ne_one, reduceIte, and_self, and_true, true_and, f0, f1, f7, tStrs]) (fun q => h1 (by rw [idxF, if_neg c]; exact q)) (fun fr' q => h2 fr' (by rw [q, idxF, if_neg c]))
theorem ok117 (nl : Bool) (l : List (List UInt8)) (hl : l.length ≤ 281474976710656) (s : List UInt8) {K : PV → Prop} : XcP F gl 117 [.sl nl (tStrs l), .str s] K ⟨⟩ ↔ K (.t (.int .i64 (idxF s l 0))) := by
  refine Ret.iff (Ret.of F117 rfl ?_)
  simp only [ir117]
  have e : (tStrs l).length = l.length := by simp [tStrs]
  simp only [wA, seval, reduceCtorEq, reduceIte, e]
  refine loop117 hl (nl := nl) (s := s) _ l 0 _ rfl (by simp only [FrAt_cons, FrAt_nil, wFr, Nat.reduceEqDiff, Nat.one_ne_zero, Nat.zero_ne_one, reduceIte, and_self, and_true, true_and]) ?_ ?_
  · intro h fr'
    simp only [wA, seval, reduceCtorEq, reduceIte, h]
  · intro fr' h
    simp only [wA, seval, reduceCtorEq, reduceIte, h]
theorem ok94 (nl : Bool) (l : List (List UInt8)) (hl : l.length ≤ 281474976710656) (s : List UInt8) {K : PV → Prop} : XcP F gl 94 [.sl nl (tStrs l), .str s] K ⟨⟩ ↔ K (.t (.bool (l.contains s))) := by
  refine Ret.iff (Ret.of F94 rfl ?_)
  simp only [ir94]
  have a := @ok117 gl nl l hl s
  simp only [wA, seval, reduceCtorEq, reduceIte, a, idxF_contains]
theorem ok68 (s : List UInt8) (hl : s.length ≤ 281474976710656) {K : PV → Prop} : XcP F gl 68 [.str s] K ⟨⟩ ↔ K (.t (.bool (nameB s))) := by
  refine Ret.iff (Ret.of F68 rfl ?_)
  simp only [ir68]
  cases s with
  | nil =>
    simp only [wA, seval, reduceCtorEq, reduceIte]
    rfl
  | cons c r =>
    have a26 := @ok91 gl c
    have a27 := @ok92 gl isNam 93 okE93 (c :: r) hl
    have a29 := @ok94 gl false keywords (by decide) (c :: r)
    have e : nameB (c :: r) = (decide ((c :: r).length ≤ 24) && isLet c && decide (span isNam (c :: r) = (c :: r).length) && !keywords.contains (c :: r)) := rfl
    generalize hs : c :: r = s at *
    have h0 : s[0]? = some c := by rw [← hs]; rfl
    have hne : ¬ s = [] := by rw [← hs]; simp
    by_cases g : (24 : Int) < (s.length : Int)
    · simp only [wA, seval, reduceCtorEq, reduceIte, g, hne]
      rw [e, decide_eq_false (by omega)]; rfl
    · rw [decide_eq_true (show s.length ≤ 24 by omega)] at e
      cases hL : isLet c with
      | false =>
        rw [hL] at a26 e
        simp only [wA, seval, reduceCtorEq, reduceIte, g, hne, h0, a26]
        rw [e]; rfl
      | true =>
        rw [hL] at a26 e
        by_cases q : ((span isNam s : Nat) : Int) = (s.length : Int)
        · rw [decide_eq_true (show span isNam s = s.length by omega)] at e
          simp only [wA, seval, reduceCtorEq, reduceIte, g, hne, h0, a26, a27, q, ok95, a29, Bool.not_true]
          rw [e]; rfl
        · rw [decide_eq_false (show ¬ span isNam s = s.length by omega)] at e
          simp only [wA, seval, reduceCtorEq, reduceIte, g, hne, h0, a26, a27, q, Bool.not_true, Bool.not_false]
          rw [e]; rfl
end Go.Proofs.YtcbgiabippcpaaaGreatDoor
