/- Contracts: names. -/
import Derived.Test.YtcbgiabippcpaaaGreatDoorIrA
import Derived.Test.YtcbgiabippcpaaaGreatDoorKx42
import Derived.Test.YtcbgiabippcpaaaGreatDoorKx42
set_option maxRecDepth 10000
set_option linter.unusedVariables false
set_option linter.unusedSimpArgs false
namespace Go.Proofs.YtcbgiabippcpaaaGreatDoor
open Go.Pi Go.Lx Go.Ky
variable {gl : Nat → Option (List T)}
abbrev tB (c : UInt8) : T := .int .u8 (c.toNat : Int)
theorem le_int {a c : UInt8} : a ≤ c ↔ ((a.toNat : Int) ≤ (c.toNat : Int)) := by rw [UInt8.le_iff_toNat_le]; omega
theorem isLet_eq (c : UInt8) : isLet c = (decide ((97 : Int) ≤ (c.toNat : Int)) && decide ((c.toNat : Int) ≤ 122)) := by
  unfold isLet
  congr 1 <;> (congr 1; exact propext le_int)
theorem isDig_eq (c : UInt8) : isDig c = (decide ((48 : Int) ≤ (c.toNat : Int)) && decide ((c.toNat : Int) ≤ 57)) := by
  unfold isDig
  congr 1 <;> (congr 1; exact propext le_int)
theorem u8_eq {c : UInt8} {n : Nat} (hn : n < 256) : (c = UInt8.ofNat n) ↔ ((c.toNat : Int) = (n : Int)) := by
  constructor
  · intro h; subst h; rw [UInt8.toNat_ofNat']; omega
  · intro h
    apply UInt8.toNat_inj.1
    rw [UInt8.toNat_ofNat']; omega
theorem ok91 (c : UInt8) {K : PV → Prop} : XcP F gl 91 [tB c] K ⟨⟩ ↔ K (.t (.bool (isLet c))) := by
  refine Ret.iff (Ret.of F91 rfl ?_)
  simp only [ir91]
  simp only [wA, seval, reduceCtorEq, reduceIte]
  repeat' ((with_reducible first | refine xG_dec ?_ ?_ | refine xG_ndec ?_ ?_ | refine xG_nsplit ?_ ?_ | refine xG_split ?_ ?_ | refine xC_dec ?_ ?_ | refine xC_ndec ?_ ?_ | refine xC_nsplit ?_ ?_ | refine xC_split ?_ ?_) <;> intro h <;> (try simp only [wA, seval, reduceCtorEq, reduceIte, h]))
  all_goals (simp_all [isLet_eq] <;> omega)
theorem ok112 (c : UInt8) {K : PV → Prop} : XcP F gl 112 [tB c] K ⟨⟩ ↔ K (.t (.bool (isDig c))) := by
  refine Ret.iff (Ret.of F112 rfl ?_)
  simp only [ir112]
  simp only [wA, seval, reduceCtorEq, reduceIte]
  repeat' ((with_reducible first | refine xG_dec ?_ ?_ | refine xG_ndec ?_ ?_ | refine xG_nsplit ?_ ?_ | refine xG_split ?_ ?_ | refine xC_dec ?_ ?_ | refine xC_ndec ?_ ?_ | refine xC_nsplit ?_ ?_ | refine xC_split ?_ ?_) <;> intro h <;> (try simp only [wA, seval, reduceCtorEq, reduceIte, h]))
  all_goals (simp_all [isDig_eq] <;> omega)
theorem isNam_eq (c : UInt8) : isNam c = (isLet c || isDig c || decide ((c.toNat : Int) = 95)) := by
  unfold isNam
  congr 1
  have : (c = 95) ↔ ((c.toNat : Int) = 95) := u8_eq (n := 95) (by omega)
  by_cases h : c = 95
  · rw [decide_eq_true (this.1 h), h]; rfl
  · rw [decide_eq_false (fun e => h (this.2 e))]; simpa using h
theorem okE93 (c : UInt8) {sg : Sg} {ow : Ow} {K : PV → Sg → Ow → Prop} : XcE F gl 93 [.t (tB c)] sg ow K ⟨⟩ ↔ K (.t (.bool (isNam c))) sg ow := by
  refine CallE.iff (XcE.of F93 rfl ?_)
  simp only [ir93]
  simp only [wA, seval, reduceCtorEq, reduceIte, ok91, ok112]
  repeat' ((with_reducible first | refine xG_dec ?_ ?_ | refine xG_ndec ?_ ?_ | refine xG_nsplit ?_ ?_ | refine xG_split ?_ ?_ | refine xC_dec ?_ ?_ | refine xC_ndec ?_ ?_ | refine xC_nsplit ?_ ?_ | refine xC_split ?_ ?_) <;> intro h <;> (try simp only [wA, seval, reduceCtorEq, reduceIte, ok91, ok112, h]))
  all_goals simp_all [isNam_eq]
theorem loop92 {p : UInt8 → Bool} {f : Nat} (hp : ∀ (c : UInt8) {sg : Sg} {ow : Ow} {K : PV → Sg → Ow → Prop}, XcE F gl f [.t (tB c)] sg ow K ⟨⟩ ↔ K (.t (.bool (p c))) sg ow) {s : List UInt8} (hl : s.length ≤ 281474976710656) {sg : Sg} {ow : Ow} (Q : Ex → S → Prop) : ∀ (r : List UInt8) (i : Nat) (fr : List PV), s.drop i = r →
    FrAt fr [(0, .t (.str s)), (1, .fn f []), (5, .t (.int .i64 i))] →
    (∀ fr', fget fr' 5 = .t (.int .i64 ((i + span p r : Nat) : Int)) → Q (.exit 0) ⟨fr', sg, ow⟩) →
    Xl F gl lb92_0 ⟨fr, sg, ow⟩ Q ⟨⟩ := by
  intro r
  induction r with
  | nil =>
    intro i fr hd hf h1
    have hd := drop_nil' hd
    simp only [FrAt_cons, FrAt_nil] at hf
    obtain ⟨f0, f1, f5, -⟩ := hf
    refine Xl.step ?_
    simp only [lb92_0]
    have c1 : ¬ ((i : Int) < (s.length : Int)) := by omega
    simp only [wA, seval, reduceCtorEq, reduceIte, f0, f1, f5, c1]
    refine h1 _ ?_
    simp only [FrAt_cons, FrAt_nil, wFr, Nat.reduceEqDiff, Nat.one_ne_zero, Nat.zero_ne_one, reduceIte, and_self, and_true, true_and, f5, span, Nat.add_zero]
  | cons x r ih =>
    intro i fr hd hf h1
    obtain ⟨hx, hr, hi⟩ := drop_cons hd
    simp only [FrAt_cons, FrAt_nil] at hf
    obtain ⟨f0, f1, f5, -⟩ := hf
    refine Xl.step ?_
    simp only [lb92_0]
    have c1 : (i : Int) < (s.length : Int) := by omega
    have hw1 : IntKind.wrap .i64 ((i : Int) + 1) = ((i + 1 : Nat) : Int) := by rw [IntWalk.i64_in _ (by omega)]; omega
    have c0 : (0 : Int) ≤ (i : Int) := by omega
    cases hq : p x with
    | false =>
      simp only [wA, seval, reduceCtorEq, reduceIte, f0, f1, f5, c1, hw1, c0, Int.toNat_natCast, hx, hp, hq, List.append_nil]
      refine h1 _ ?_
      simp only [FrAt_cons, FrAt_nil, wFr, Nat.reduceEqDiff, Nat.one_ne_zero, Nat.zero_ne_one, reduceIte, and_self, and_true, true_and, f5, span, hq, Nat.add_zero, Bool.false_eq_true, if_false]
    | true =>
      simp only [wA, seval, reduceCtorEq, reduceIte, f0, f1, f5, c1, hw1, c0, Int.toNat_natCast, hx, hp, hq, List.append_nil]
      refine ih (i + 1) _ hr (by simp only [FrAt_cons, FrAt_nil, wFr, Nat.reduceEqDiff, Nat.one_ne_zero, Nat.zero_ne_one, reduceIte, and_self, and_true, true_and, f0, f1]) fun fr' h => h1 fr' ?_
      rw [h]
      simp only [span, hq, if_true]
      congr 3
      omega
theorem ok92 {p : UInt8 → Bool} {f : Nat} (hp : ∀ (c : UInt8) {sg : Sg} {ow : Ow} {K : PV → Sg → Ow → Prop}, XcE F gl f [.t (tB c)] sg ow K ⟨⟩ ↔ K (.t (.bool (p c))) sg ow) {s : List UInt8} (hl : s.length ≤ 281474976710656) {sg : Sg} {ow : Ow} {K : PV → Sg → Ow → Prop} :
    XcE F gl 92 [.t (.str s), .fn f []] sg ow K ⟨⟩ ↔ K (.t (.int .i64 (span p s : Nat))) sg ow := by
  refine CallE.iff (XcE.of F92 rfl ?_)
  simp only [ir92]
  simp only [wA, seval, reduceCtorEq, reduceIte]
  refine loop92 hp hl _ s 0 _ rfl (by simp only [FrAt_cons, FrAt_nil, wFr, Nat.reduceEqDiff, Nat.one_ne_zero, Nat.zero_ne_one, reduceIte, and_self, and_true, true_and]) fun fr' h => ?_
  simp only [wA, seval, reduceCtorEq, reduceIte, h]
  try simp
def tStrs (l : List (List UInt8)) : List (List T) := l.map fun s => [.str s]
theorem ok95 {K : PV → Prop} : XcP F gl 95 [] K ⟨⟩ ↔ K (.t (.sl false (tStrs keywords))) := by
  refine Ret.iff (Ret.of F95 rfl ?_)
  simp only [ir95]
  simp only [wA, seval, reduceCtorEq, reduceIte, bslV, chunks, cell1, T.isAgg, List.replicate, List.flatten_cons, List.flatten_nil, List.append_nil]
  rfl
def idxF (s : List UInt8) : List (List UInt8) → Nat → Int
  | [], _ => -1
  | x :: l, i => if s = x then (i : Int) else idxF s l (i + 1)
theorem idxF_contains (s : List UInt8) : ∀ (l : List (List UInt8)) (i : Nat), decide (0 ≤ idxF s l i) = l.contains s := by
  intro l
  induction l with
  | nil => intro i; rfl
  | cons x l ih =>
    intro i
    rw [List.contains_cons, idxF]
    split
    · rename_i h
      rw [h]
      simp
    · rename_i h
      rw [ih, show (s == x) = false by simpa using h, Bool.false_or]
theorem loop117 {nl : Bool} {l : List (List UInt8)} (hl : l.length ≤ 281474976710656) {s : List UInt8} {sg : Sg} {ow : Ow} (Q : Ex → S → Prop) : ∀ (r : List (List UInt8)) (i : Nat) (fr : List PV), l.drop i = r →
    FrAt fr [(0, .t (.sl nl (tStrs l))), (1, .t (.str s)), (7, .t (.int .i64 l.length)), (8, .t (.int .i64 i))] →
    (idxF s r i = -1 → ∀ fr', Q (.exit 0) ⟨fr', sg, ow⟩) →
    (∀ fr', fget fr' 4 = .t (.int .i64 (idxF s r i)) → Q .ret ⟨fr', sg, ow⟩) →
    Xl F gl lb117_0 ⟨fr, sg, ow⟩ Q ⟨⟩ := by
  intro r
  induction r with
  | nil =>
    intro i fr hd hf h1 h2
    have hd := drop_nil' hd
    simp only [FrAt_cons, FrAt_nil] at hf
    obtain ⟨f0, f1, f7, f8, -⟩ := hf
    refine Xl.step ?_
    simp only [lb117_0]
    have c1 : ¬ ((i : Int) < (l.length : Int)) := by omega
    simp only [wA, seval, reduceCtorEq, reduceIte, f0, f1, f7, f8, c1]
    exact h1 rfl _
  | cons x r ih =>
    intro i fr hd hf h1 h2
    obtain ⟨hx, hr, hi⟩ := drop_cons hd
    simp only [FrAt_cons, FrAt_nil] at hf
    obtain ⟨f0, f1, f7, f8, -⟩ := hf
    refine Xl.step ?_
    simp only [lb117_0]
    have c1 : (i : Int) < (l.length : Int) := by omega
    have hw1 : IntKind.wrap .i64 ((i : Int) + 1) = ((i + 1 : Nat) : Int) := by rw [IntWalk.i64_in _ (by omega)]; omega
    by_cases c : s = x
    · simp only [wA, seval, reduceCtorEq, reduceIte, f0, f1, f7, f8, c1, hw1, tStrs, List.getElem?_map, hx, c]
      refine h2 _ ?_
      simp only [FrAt_cons, FrAt_nil, wFr, Nat.reduceEqDiff, Nat.one_ne_zero, Nat.zero_ne_one, reduceIte, and_self, and_true, true_and, idxF, c]
    · simp only [wA, seval, reduceCtorEq, reduceIte, f0, f1, f7, f8, c1, hw1, tStrs, List.getElem?_map, hx, c]
      refine ih (i + 1) _ hr (by simp only [FrAt_cons, FrAt_nil, wFr, Nat.reduceEqDiff, Nat.one_ne_zero, Nat.zero_ne_one, reduceIte, and_self, and_true, true_and, f0, f1, f7, tStrs]) (fun q => h1 (by rw [idxF, if_neg c]; exact q)) (fun fr' q => h2 fr' (by rw [q, idxF, if_neg c]))
theorem ok117 (nl : Bool) (l : List (List UInt8)) (hl : l.length ≤ 281474976710656) (s : List UInt8) {K : PV → Prop} : XcP F gl 117 [.sl nl (tStrs l), .str s] K ⟨⟩ ↔ K (.t (.int .i64 (idxF s l 0))) := by
  refine Ret.iff (Ret.of F117 rfl ?_)
  simp only [ir117]
  have e : (tStrs l).length = l.length := by simp [tStrs]
  simp only [wA, seval, reduceCtorEq, reduceIte, e]
  refine loop117 hl (nl := nl) (s := s) _ l 0 _ rfl (by simp only [FrAt_cons, FrAt_nil, wFr, Nat.reduceEqDiff, Nat.one_ne_zero, Nat.zero_ne_one, reduceIte, and_self, and_true, true_and]) ?_ ?_
  · intro h fr'
    simp only [wA, seval, reduceCtorEq, reduceIte, h]
  · intro fr' h
    simp only [wA, seval, reduceCtorEq, reduceIte, h]
theorem ok94 (nl : Bool) (l : List (List UInt8)) (hl : l.length ≤ 281474976710656) (s : List UInt8) {K : PV → Prop} : XcP F gl 94 [.sl nl (tStrs l), .str s] K ⟨⟩ ↔ K (.t (.bool (l.contains s))) := by
  refine Ret.iff (Ret.of F94 rfl ?_)
  simp only [ir94]
  have a := @ok117 gl nl l hl s
  simp only [wA, seval, reduceCtorEq, reduceIte, a, idxF_contains]
theorem ok68 (s : List UInt8) (hl : s.length ≤ 281474976710656) {K : PV → Prop} : XcP F gl 68 [.str s] K ⟨⟩ ↔ K (.t (.bool (nameB s))) := by
  refine Ret.iff (Ret.of F68 rfl ?_)
  simp only [ir68]
  cases s with
  | nil =>
    simp only [wA, seval, reduceCtorEq, reduceIte]
    rfl
  | cons c r =>
    have a26 := @ok91 gl c
    have a27 := @ok92 gl isNam 93 okE93 (c :: r) hl
    have a29 := @ok94 gl false keywords (by decide) (c :: r)
    have e : nameB (c :: r) = (decide ((c :: r).length ≤ 24) && isLet c && decide (span isNam (c :: r) = (c :: r).length) && !keywords.contains (c :: r)) := rfl
    generalize hs : c :: r = s at *
    have h0 : s[0]? = some c := by rw [← hs]; rfl
    have hne : ¬ s = [] := by rw [← hs]; simp
    by_cases g : (24 : Int) < (s.length : Int)
    · simp only [wA, seval, reduceCtorEq, reduceIte, g, hne]
      rw [e, decide_eq_false (by omega)]; rfl
    · rw [decide_eq_true (show s.length ≤ 24 by omega)] at e
      cases hL : isLet c with
      | false =>
        rw [hL] at a26 e
        simp only [wA, seval, reduceCtorEq, reduceIte, g, hne, h0, a26]
        rw [e]; rfl
      | true =>
        rw [hL] at a26 e
        by_cases q : ((span isNam s : Nat) : Int) = (s.length : Int)
        · rw [decide_eq_true (show span isNam s = s.length by omega)] at e
          simp only [wA, seval, reduceCtorEq, reduceIte, g, hne, h0, a26, a27, q, ok95, a29, Bool.not_true]
          rw [e]; rfl
        · rw [decide_eq_false (show ¬ span isNam s = s.length by omega)] at e
          simp only [wA, seval, reduceCtorEq, reduceIte, g, hne, h0, a26, a27, q, Bool.not_true, Bool.not_false]
          rw [e]; rfl
end Go.Proofs.YtcbgiabippcpaaaGreatDoor

/- Contracts: a property of all elements. -/
set_option maxRecDepth 10000
set_option linter.unusedVariables false
set_option linter.unusedSimpArgs false
namespace Go.Proofs.YtcbgiabippcpaaaGreatDoor
open Go.Pi Go.Lx Go.Ky
variable {gl : Nat → Option (List T)}
def Says (f : Nat) (x : T) (b : Bool) : Prop := ∀ (sg : Sg) (ow : Ow), CallE F gl f [.t x] sg ow fun v sg' ow' => v = .t (.bool b) ∧ Grow sg sg' ∧ ow' = ow
theorem loop71 {f : Nat} {p : Fu → Bool} {nl : Bool} {l : List Fu} (hl : l.length ≤ B47) (hp : ∀ x, x ∈ l → Says (gl := gl) f (.agg (tFu x)) (p x)) {sg0 : Sg} {ow : Ow} (Q : Ex → S → Prop) : ∀ (r : List Fu) (i : Nat) (fr : List PV) (sg : Sg), l.drop i = r → Grow sg0 sg →
    FrAt fr [(1, .fn f []), (7, .t (.sl nl (l.map tFu))), (8, .t (.int .i64 l.length)), (9, .t (.int .i64 i))] →
    (r.all p = true → ∀ fr' sg', Grow sg0 sg' → Q (.exit 0) ⟨fr', sg', ow⟩) →
    (r.all p = false → ∀ fr' sg', Grow sg0 sg' → fget fr' 4 = .t (.bool false) → Q .ret ⟨fr', sg', ow⟩) →
    Xl F gl lb71_0 ⟨fr, sg, ow⟩ Q ⟨⟩ := by
  intro r
  induction r with
  | nil =>
    intro i fr sg hd hg hf h1 h2
    have hd := drop_nil' hd
    simp only [FrAt_cons, FrAt_nil] at hf
    obtain ⟨f1, f7, f8, f9, -⟩ := hf
    refine Xl.step ?_
    simp only [lb71_0]
    have c1 : ¬ ((i : Int) < (l.length : Int)) := by omega
    simp only [wA, seval, reduceCtorEq, reduceIte, f1, f7, f8, f9, c1]
    exact h1 rfl _ _ hg
  | cons x r ih =>
    intro i fr sg hd hg hf h1 h2
    obtain ⟨hx, hr, hi⟩ := drop_cons hd
    simp only [FrAt_cons, FrAt_nil] at hf
    obtain ⟨f1, f7, f8, f9, -⟩ := hf
    refine Xl.step ?_
    simp only [lb71_0]
    have c1 : (i : Int) < (l.length : Int) := by omega
    have hw1 := i64_succ hi (show l.length ≤ 281474976710656 by have : B47 = 140737488355328 := rfl; omega)
    have hc := hp x (List.mem_of_getElem? hx)
    simp only [wA, seval, reduceCtorEq, reduceIte, f1, f7, f8, f9, c1, List.getElem?_map, hx, Int.toNat_natCast]
    refine CallE.mono (hc _ _) ?_
    rintro v sg' ow' ⟨rfl, hg', rfl⟩
    cases hq : p x with
    | true =>
      simp only [wA, seval, reduceCtorEq, reduceIte, f1, f7, f8, f9, hw1, hq]
      refine ih (i + 1) _ _ hr (hg.trans ((Grow.app _ _).trans hg')) (by simp only [FrAt_cons, FrAt_nil, wFr, Nat.reduceEqDiff, Nat.one_ne_zero, Nat.zero_ne_one, reduceIte, and_self, and_true, true_and, f1, f7, f8]) (fun h => h1 (by simpa [hq] using h)) (fun h => h2 (by simpa [hq] using h))
    | false =>
      simp only [wA, seval, reduceCtorEq, reduceIte, f1, f7, f8, f9, hq]
      exact h2 (by simp [hq]) _ _ (hg.trans ((Grow.app _ _).trans hg')) (by simp only [FrAt_cons, FrAt_nil, wFr, Nat.reduceEqDiff, Nat.one_ne_zero, Nat.zero_ne_one, reduceIte, and_self, and_true, true_and])
theorem ok71 {f : Nat} {p : Fu → Bool} {nl : Bool} {l : List Fu} (hl : l.length ≤ B47) (hp : ∀ x, x ∈ l → Says (gl := gl) f (.agg (tFu x)) (p x)) (sg : Sg) (ow : Ow) :
    CallE F gl 71 [.t (.sl nl (l.map tFu)), .fn f []] sg ow fun v sg' ow' => v = .t (.bool (l.all p)) ∧ Grow sg sg' ∧ ow' = ow := by
  refine XcE.of F71 rfl ?_
  simp only [ir71]
  simp only [wA, seval, reduceCtorEq, reduceIte, List.length_map]
  refine loop71 hl hp (sg0 := sg) _ l 0 _ _ rfl (Grow.refl _) (by simp only [FrAt_cons, FrAt_nil, wFr, Nat.reduceEqDiff, Nat.one_ne_zero, Nat.zero_ne_one, reduceIte, and_self, and_true, true_and]; exact rfl) ?_ ?_
  · intro h fr' sg' hg
    simp only [wA, seval, reduceCtorEq, reduceIte]
    exact ⟨by rw [h], hg⟩
  · intro h fr' sg' hg h4
    simp only [wA, seval, reduceCtorEq, reduceIte, h4]
    exact ⟨by rw [h], hg⟩
theorem loop73 {f : Nat} {p : De → Bool} {nl : Bool} {l : List De} (hl : l.length ≤ B47) (hp : ∀ x, x ∈ l → Says (gl := gl) f (.agg (tDe x)) (p x)) {sg0 : Sg} {ow : Ow} (Q : Ex → S → Prop) : ∀ (r : List De) (i : Nat) (fr : List PV) (sg : Sg), l.drop i = r → Grow sg0 sg →
    FrAt fr [(1, .fn f []), (7, .t (.sl nl (l.map tDe))), (8, .t (.int .i64 l.length)), (9, .t (.int .i64 i))] →
    (r.all p = true → ∀ fr' sg', Grow sg0 sg' → Q (.exit 0) ⟨fr', sg', ow⟩) →
    (r.all p = false → ∀ fr' sg', Grow sg0 sg' → fget fr' 4 = .t (.bool false) → Q .ret ⟨fr', sg', ow⟩) →
    Xl F gl lb73_0 ⟨fr, sg, ow⟩ Q ⟨⟩ := by
  intro r
  induction r with
  | nil =>
    intro i fr sg hd hg hf h1 h2
    have hd := drop_nil' hd
    simp only [FrAt_cons, FrAt_nil] at hf
    obtain ⟨f1, f7, f8, f9, -⟩ := hf
    refine Xl.step ?_
    simp only [lb73_0]
    have c1 : ¬ ((i : Int) < (l.length : Int)) := by omega
    simp only [wA, seval, reduceCtorEq, reduceIte, f1, f7, f8, f9, c1]
    exact h1 rfl _ _ hg
  | cons x r ih =>
    intro i fr sg hd hg hf h1 h2
    obtain ⟨hx, hr, hi⟩ := drop_cons hd
    simp only [FrAt_cons, FrAt_nil] at hf
    obtain ⟨f1, f7, f8, f9, -⟩ := hf
    refine Xl.step ?_
    simp only [lb73_0]
    have c1 : (i : Int) < (l.length : Int) := by omega
    have hw1 := i64_succ hi (show l.length ≤ 281474976710656 by have : B47 = 140737488355328 := rfl; omega)
    have hc := hp x (List.mem_of_getElem? hx)
    simp only [wA, seval, reduceCtorEq, reduceIte, f1, f7, f8, f9, c1, List.getElem?_map, hx, Int.toNat_natCast]
    refine CallE.mono (hc _ _) ?_
    rintro v sg' ow' ⟨rfl, hg', rfl⟩
    cases hq : p x with
    | true =>
      simp only [wA, seval, reduceCtorEq, reduceIte, f1, f7, f8, f9, hw1, hq]
      refine ih (i + 1) _ _ hr (hg.trans ((Grow.app _ _).trans hg')) (by simp only [FrAt_cons, FrAt_nil, wFr, Nat.reduceEqDiff, Nat.one_ne_zero, Nat.zero_ne_one, reduceIte, and_self, and_true, true_and, f1, f7, f8]) (fun h => h1 (by simpa [hq] using h)) (fun h => h2 (by simpa [hq] using h))
    | false =>
      simp only [wA, seval, reduceCtorEq, reduceIte, f1, f7, f8, f9, hq]
      exact h2 (by simp [hq]) _ _ (hg.trans ((Grow.app _ _).trans hg')) (by simp only [FrAt_cons, FrAt_nil, wFr, Nat.reduceEqDiff, Nat.one_ne_zero, Nat.zero_ne_one, reduceIte, and_self, and_true, true_and])
theorem ok73 {f : Nat} {p : De → Bool} {nl : Bool} {l : List De} (hl : l.length ≤ B47) (hp : ∀ x, x ∈ l → Says (gl := gl) f (.agg (tDe x)) (p x)) (sg : Sg) (ow : Ow) :
    CallE F gl 73 [.t (.sl nl (l.map tDe)), .fn f []] sg ow fun v sg' ow' => v = .t (.bool (l.all p)) ∧ Grow sg sg' ∧ ow' = ow := by
  refine XcE.of F73 rfl ?_
  simp only [ir73]
  simp only [wA, seval, reduceCtorEq, reduceIte, List.length_map]
  refine loop73 hl hp (sg0 := sg) _ l 0 _ _ rfl (Grow.refl _) (by simp only [FrAt_cons, FrAt_nil, wFr, Nat.reduceEqDiff, Nat.one_ne_zero, Nat.zero_ne_one, reduceIte, and_self, and_true, true_and]; exact rfl) ?_ ?_
  · intro h fr' sg' hg
    simp only [wA, seval, reduceCtorEq, reduceIte]
    exact ⟨by rw [h], hg⟩
  · intro h fr' sg' hg h4
    simp only [wA, seval, reduceCtorEq, reduceIte, h4]
    exact ⟨by rw [h], hg⟩
theorem loop75 {f : Nat} {p : St → Bool} {nl : Bool} {l : List St} (hl : l.length ≤ B47) (hp : ∀ x, x ∈ l → Says (gl := gl) f (.agg (tSt x)) (p x)) {sg0 : Sg} {ow : Ow} (Q : Ex → S → Prop) : ∀ (r : List St) (i : Nat) (fr : List PV) (sg : Sg), l.drop i = r → Grow sg0 sg →
    FrAt fr [(1, .fn f []), (7, .t (.sl nl (tSts l))), (8, .t (.int .i64 l.length)), (9, .t (.int .i64 i))] →
    (r.all p = true → ∀ fr' sg', Grow sg0 sg' → Q (.exit 0) ⟨fr', sg', ow⟩) →
    (r.all p = false → ∀ fr' sg', Grow sg0 sg' → fget fr' 4 = .t (.bool false) → Q .ret ⟨fr', sg', ow⟩) →
    Xl F gl lb75_0 ⟨fr, sg, ow⟩ Q ⟨⟩ := by
  intro r
  induction r with
  | nil =>
    intro i fr sg hd hg hf h1 h2
    have hd := drop_nil' hd
    simp only [FrAt_cons, FrAt_nil] at hf
    obtain ⟨f1, f7, f8, f9, -⟩ := hf
    refine Xl.step ?_
    simp only [lb75_0]
    have c1 : ¬ ((i : Int) < (l.length : Int)) := by omega
    simp only [wA, seval, reduceCtorEq, reduceIte, f1, f7, f8, f9, c1]
    exact h1 rfl _ _ hg
  | cons x r ih =>
    intro i fr sg hd hg hf h1 h2
    obtain ⟨hx, hr, hi⟩ := drop_cons hd
    simp only [FrAt_cons, FrAt_nil] at hf
    obtain ⟨f1, f7, f8, f9, -⟩ := hf
    refine Xl.step ?_
    simp only [lb75_0]
    have c1 : (i : Int) < (l.length : Int) := by omega
    have hw1 := i64_succ hi (show l.length ≤ 281474976710656 by have : B47 = 140737488355328 := rfl; omega)
    have hc := hp x (List.mem_of_getElem? hx)
    simp only [tSt_eq] at hc
    simp only [wA, seval, reduceCtorEq, reduceIte, f1, f7, f8, f9, c1, tSts_get, hx, tSt_eq, Int.toNat_natCast]
    refine CallE.mono (hc _ _) ?_
    rintro v sg' ow' ⟨rfl, hg', rfl⟩
    cases hq : p x with
    | true =>
      simp only [wA, seval, reduceCtorEq, reduceIte, f1, f7, f8, f9, hw1, hq]
      refine ih (i + 1) _ _ hr (hg.trans ((Grow.app _ _).trans hg')) (by simp only [FrAt_cons, FrAt_nil, wFr, Nat.reduceEqDiff, Nat.one_ne_zero, Nat.zero_ne_one, reduceIte, and_self, and_true, true_and, f1, f7, f8]) (fun h => h1 (by simpa [hq] using h)) (fun h => h2 (by simpa [hq] using h))
    | false =>
      simp only [wA, seval, reduceCtorEq, reduceIte, f1, f7, f8, f9, hq]
      exact h2 (by simp [hq]) _ _ (hg.trans ((Grow.app _ _).trans hg')) (by simp only [FrAt_cons, FrAt_nil, wFr, Nat.reduceEqDiff, Nat.one_ne_zero, Nat.zero_ne_one, reduceIte, and_self, and_true, true_and])
theorem ok75 {f : Nat} {p : St → Bool} {nl : Bool} {l : List St} (hl : l.length ≤ B47) (hp : ∀ x, x ∈ l → Says (gl := gl) f (.agg (tSt x)) (p x)) (sg : Sg) (ow : Ow) :
    CallE F gl 75 [.t (.sl nl (tSts l)), .fn f []] sg ow fun v sg' ow' => v = .t (.bool (l.all p)) ∧ Grow sg sg' ∧ ow' = ow := by
  refine XcE.of F75 rfl ?_
  simp only [ir75]
  simp only [wA, seval, reduceCtorEq, reduceIte, tSts_len]
  refine loop75 hl hp (sg0 := sg) _ l 0 _ _ rfl (Grow.refl _) (by simp only [FrAt_cons, FrAt_nil, wFr, Nat.reduceEqDiff, Nat.one_ne_zero, Nat.zero_ne_one, reduceIte, and_self, and_true, true_and]; exact rfl) ?_ ?_
  · intro h fr' sg' hg
    simp only [wA, seval, reduceCtorEq, reduceIte]
    exact ⟨by rw [h], hg⟩
  · intro h fr' sg' hg h4
    simp only [wA, seval, reduceCtorEq, reduceIte, h4]
    exact ⟨by rw [h], hg⟩
theorem loop99 {f : Nat} {p : Pa → Bool} {nl : Bool} {l : List Pa} (hl : l.length ≤ B47) (hp : ∀ x, x ∈ l → Says (gl := gl) f (.agg (tPa x)) (p x)) {sg0 : Sg} {ow : Ow} (Q : Ex → S → Prop) : ∀ (r : List Pa) (i : Nat) (fr : List PV) (sg : Sg), l.drop i = r → Grow sg0 sg →
    FrAt fr [(1, .fn f []), (7, .t (.sl nl (l.map tPa))), (8, .t (.int .i64 l.length)), (9, .t (.int .i64 i))] →
    (r.all p = true → ∀ fr' sg', Grow sg0 sg' → Q (.exit 0) ⟨fr', sg', ow⟩) →
    (r.all p = false → ∀ fr' sg', Grow sg0 sg' → fget fr' 4 = .t (.bool false) → Q .ret ⟨fr', sg', ow⟩) →
    Xl F gl lb99_0 ⟨fr, sg, ow⟩ Q ⟨⟩ := by
  intro r
  induction r with
  | nil =>
    intro i fr sg hd hg hf h1 h2
    have hd := drop_nil' hd
    simp only [FrAt_cons, FrAt_nil] at hf
    obtain ⟨f1, f7, f8, f9, -⟩ := hf
    refine Xl.step ?_
    simp only [lb99_0]
    have c1 : ¬ ((i : Int) < (l.length : Int)) := by omega
    simp only [wA, seval, reduceCtorEq, reduceIte, f1, f7, f8, f9, c1]
    exact h1 rfl _ _ hg
  | cons x r ih =>
    intro i fr sg hd hg hf h1 h2
    obtain ⟨hx, hr, hi⟩ := drop_cons hd
    simp only [FrAt_cons, FrAt_nil] at hf
    obtain ⟨f1, f7, f8, f9, -⟩ := hf
    refine Xl.step ?_
    simp only [lb99_0]
    have c1 : (i : Int) < (l.length : Int) := by omega
    have hw1 := i64_succ hi (show l.length ≤ 281474976710656 by have : B47 = 140737488355328 := rfl; omega)
    have hc := hp x (List.mem_of_getElem? hx)
    simp only [wA, seval, reduceCtorEq, reduceIte, f1, f7, f8, f9, c1, List.getElem?_map, hx, Int.toNat_natCast]
    refine CallE.mono (hc _ _) ?_
    rintro v sg' ow' ⟨rfl, hg', rfl⟩
    cases hq : p x with
    | true =>
      simp only [wA, seval, reduceCtorEq, reduceIte, f1, f7, f8, f9, hw1, hq]
      refine ih (i + 1) _ _ hr (hg.trans ((Grow.app _ _).trans hg')) (by simp only [FrAt_cons, FrAt_nil, wFr, Nat.reduceEqDiff, Nat.one_ne_zero, Nat.zero_ne_one, reduceIte, and_self, and_true, true_and, f1, f7, f8]) (fun h => h1 (by simpa [hq] using h)) (fun h => h2 (by simpa [hq] using h))
    | false =>
      simp only [wA, seval, reduceCtorEq, reduceIte, f1, f7, f8, f9, hq]
      exact h2 (by simp [hq]) _ _ (hg.trans ((Grow.app _ _).trans hg')) (by simp only [FrAt_cons, FrAt_nil, wFr, Nat.reduceEqDiff, Nat.one_ne_zero, Nat.zero_ne_one, reduceIte, and_self, and_true, true_and])
theorem ok99 {f : Nat} {p : Pa → Bool} {nl : Bool} {l : List Pa} (hl : l.length ≤ B47) (hp : ∀ x, x ∈ l → Says (gl := gl) f (.agg (tPa x)) (p x)) (sg : Sg) (ow : Ow) :
    CallE F gl 99 [.t (.sl nl (l.map tPa)), .fn f []] sg ow fun v sg' ow' => v = .t (.bool (l.all p)) ∧ Grow sg sg' ∧ ow' = ow := by
  refine XcE.of F99 rfl ?_
  simp only [ir99]
  simp only [wA, seval, reduceCtorEq, reduceIte, List.length_map]
  refine loop99 hl hp (sg0 := sg) _ l 0 _ _ rfl (Grow.refl _) (by simp only [FrAt_cons, FrAt_nil, wFr, Nat.reduceEqDiff, Nat.one_ne_zero, Nat.zero_ne_one, reduceIte, and_self, and_true, true_and]; exact rfl) ?_ ?_
  · intro h fr' sg' hg
    simp only [wA, seval, reduceCtorEq, reduceIte]
    exact ⟨by rw [h], hg⟩
  · intro h fr' sg' hg h4
    simp only [wA, seval, reduceCtorEq, reduceIte, h4]
    exact ⟨by rw [h], hg⟩
theorem loop67 {f : Nat} {p : Exp → Bool} {nl : Bool} {l : List Exp} (hl : l.length ≤ B47) (hp : ∀ x, x ∈ l → Says (gl := gl) f (.agg (tEx x)) (p x)) {sg0 : Sg} {ow : Ow} (Q : Ex → S → Prop) : ∀ (r : List Exp) (i : Nat) (fr : List PV) (sg : Sg), l.drop i = r → Grow sg0 sg →
    FrAt fr [(1, .fn f []), (7, .t (.sl nl (tExs l))), (8, .t (.int .i64 l.length)), (9, .t (.int .i64 i))] →
    (r.all p = true → ∀ fr' sg', Grow sg0 sg' → Q (.exit 0) ⟨fr', sg', ow⟩) →
    (r.all p = false → ∀ fr' sg', Grow sg0 sg' → fget fr' 4 = .t (.bool false) → Q .ret ⟨fr', sg', ow⟩) →
    Xl F gl lb67_0 ⟨fr, sg, ow⟩ Q ⟨⟩ := by
  intro r
  induction r with
  | nil =>
    intro i fr sg hd hg hf h1 h2
    have hd := drop_nil' hd
    simp only [FrAt_cons, FrAt_nil] at hf
    obtain ⟨f1, f7, f8, f9, -⟩ := hf
    refine Xl.step ?_
    simp only [lb67_0]
    have c1 : ¬ ((i : Int) < (l.length : Int)) := by omega
    simp only [wA, seval, reduceCtorEq, reduceIte, f1, f7, f8, f9, c1]
    exact h1 rfl _ _ hg
  | cons x r ih =>
    intro i fr sg hd hg hf h1 h2
    obtain ⟨hx, hr, hi⟩ := drop_cons hd
    simp only [FrAt_cons, FrAt_nil] at hf
    obtain ⟨f1, f7, f8, f9, -⟩ := hf
    refine Xl.step ?_
    simp only [lb67_0]
    have c1 : (i : Int) < (l.length : Int) := by omega
    have hw1 := i64_succ hi (show l.length ≤ 281474976710656 by have : B47 = 140737488355328 := rfl; omega)
    have hc := hp x (List.mem_of_getElem? hx)
    simp only [tEx_eq] at hc
    simp only [wA, seval, reduceCtorEq, reduceIte, f1, f7, f8, f9, c1, tExs_get, hx, tEx_eq, Int.toNat_natCast]
    refine CallE.mono (hc _ _) ?_
    rintro v sg' ow' ⟨rfl, hg', rfl⟩
    cases hq : p x with
    | true =>
      simp only [wA, seval, reduceCtorEq, reduceIte, f1, f7, f8, f9, hw1, hq]
      refine ih (i + 1) _ _ hr (hg.trans ((Grow.app _ _).trans hg')) (by simp only [FrAt_cons, FrAt_nil, wFr, Nat.reduceEqDiff, Nat.one_ne_zero, Nat.zero_ne_one, reduceIte, and_self, and_true, true_and, f1, f7, f8]) (fun h => h1 (by simpa [hq] using h)) (fun h => h2 (by simpa [hq] using h))
    | false =>
      simp only [wA, seval, reduceCtorEq, reduceIte, f1, f7, f8, f9, hq]
      exact h2 (by simp [hq]) _ _ (hg.trans ((Grow.app _ _).trans hg')) (by simp only [FrAt_cons, FrAt_nil, wFr, Nat.reduceEqDiff, Nat.one_ne_zero, Nat.zero_ne_one, reduceIte, and_self, and_true, true_and])
theorem ok67 {f : Nat} {p : Exp → Bool} {nl : Bool} {l : List Exp} (hl : l.length ≤ B47) (hp : ∀ x, x ∈ l → Says (gl := gl) f (.agg (tEx x)) (p x)) (sg : Sg) (ow : Ow) :
    CallE F gl 67 [.t (.sl nl (tExs l)), .fn f []] sg ow fun v sg' ow' => v = .t (.bool (l.all p)) ∧ Grow sg sg' ∧ ow' = ow := by
  refine XcE.of F67 rfl ?_
  simp only [ir67]
  simp only [wA, seval, reduceCtorEq, reduceIte, tExs_len]
  refine loop67 hl hp (sg0 := sg) _ l 0 _ _ rfl (Grow.refl _) (by simp only [FrAt_cons, FrAt_nil, wFr, Nat.reduceEqDiff, Nat.one_ne_zero, Nat.zero_ne_one, reduceIte, and_self, and_true, true_and]; exact rfl) ?_ ?_
  · intro h fr' sg' hg
    simp only [wA, seval, reduceCtorEq, reduceIte]
    exact ⟨by rw [h], hg⟩
  · intro h fr' sg' hg h4
    simp only [wA, seval, reduceCtorEq, reduceIte, h4]
    exact ⟨by rw [h], hg⟩
end Go.Proofs.YtcbgiabippcpaaaGreatDoor

/- Contracts: valid types, expressions, statements. -/
set_option maxRecDepth 10000
set_option linter.unusedVariables false
set_option linter.unusedSimpArgs false
namespace Go.Proofs.YtcbgiabippcpaaaGreatDoor
open Go.Pi Go.Lx Go.Ky
variable {gl : Nat → Option (List T)}
theorem Says.call {f : Nat} {x : T} {b : Bool} (h : Says (gl := gl) f x b) {K : PV → Prop} : XcP F gl f [x] K ⟨⟩ ↔ K (.t (.bool b)) := by
  refine CallP.iff ?_
  refine (h [] []).mono ?_
  rintro v sg ow ⟨rfl, _, _⟩
  rfl
theorem sy101 (t : Ty) : Says (gl := gl) 101 (.agg (tTy t)) (tyB t) := by
  intro sg ow
  refine XcE.of F101 rfl ?_
  simp only [ir101]
  simp only [wA, seval, reduceCtorEq, reduceIte]
  repeat' ((with_reducible first | refine xG_dec ?_ ?_ | refine xG_ndec ?_ ?_ | refine xG_nsplit ?_ ?_ | refine xG_split ?_ ?_ | refine xC_dec ?_ ?_ | refine xC_ndec ?_ ?_ | refine xC_nsplit ?_ ?_ | refine xC_split ?_ ?_) <;> intro h <;> (try simp only [wA, seval, reduceCtorEq, reduceIte, h]))
  all_goals (refine ⟨?_, Grow.app _ _⟩; simp only [PV.t.injEq, T.bool.injEq]; unfold tyB)
  all_goals simp_all
  all_goals omega
theorem sy102 (s : St) : Says (gl := gl) 102 (.agg (tSt s)) (untyped s) := by
  intro sg ow
  refine XcE.of F102 rfl ?_
  simp only [ir102, tSt_eq]
  simp only [wA, seval, reduceCtorEq, reduceIte]
  repeat' ((with_reducible first | refine xG_dec ?_ ?_ | refine xG_ndec ?_ ?_ | refine xG_nsplit ?_ ?_ | refine xG_split ?_ ?_ | refine xC_dec ?_ ?_ | refine xC_ndec ?_ ?_ | refine xC_nsplit ?_ ?_ | refine xC_split ?_ ?_) <;> intro h <;> (try simp only [wA, seval, reduceCtorEq, reduceIte, h]))
  all_goals (refine ⟨?_, Grow.app _ _⟩; simp only [PV.t.injEq, T.bool.injEq]; unfold untyped)
  all_goals simp_all [zTy, ty_beq]
  all_goals exact decide_eq_decide.2 Iff.rfl
theorem sy104 (n : Int) : Says (gl := gl) 104 (.int .i64 n) (loopN n) := by
  intro sg ow
  refine XcE.of F104 rfl ?_
  simp only [ir104]
  simp only [wA, seval, reduceCtorEq, reduceIte]
  repeat' ((with_reducible first | refine xG_dec ?_ ?_ | refine xG_ndec ?_ ?_ | refine xG_nsplit ?_ ?_ | refine xG_split ?_ ?_ | refine xC_dec ?_ ?_ | refine xC_ndec ?_ ?_ | refine xC_nsplit ?_ ?_ | refine xC_split ?_ ?_) <;> intro h <;> (try simp only [wA, seval, reduceCtorEq, reduceIte, h]))
  all_goals (refine ⟨?_, Grow.refl _⟩; simp only [PV.t.injEq, T.bool.injEq]; unfold loopN)
  all_goals simp_all
  all_goals omega
theorem sy103 (e : Exp) : Says (gl := gl) 103 (.agg (tEx e)) (emptyE e) := by
  intro sg ow
  refine XcE.of F103 rfl ?_
  simp only [ir103, tEx_eq]
  simp only [wA, seval, reduceCtorEq, reduceIte, tExs_len]
  repeat' ((with_reducible first | refine xG_dec ?_ ?_ | refine xG_ndec ?_ ?_ | refine xG_nsplit ?_ ?_ | refine xG_split ?_ ?_ | refine xC_dec ?_ ?_ | refine xC_ndec ?_ ?_ | refine xC_nsplit ?_ ?_ | refine xC_split ?_ ?_) <;> intro h <;> (try simp only [wA, seval, reduceCtorEq, reduceIte, tExs_len, h]))
  all_goals (refine ⟨?_, Grow.app _ _⟩; simp only [PV.t.injEq, T.bool.injEq]; unfold emptyE)
  all_goals simp_all
theorem sy100 (p : Pa) (h : PaOk p) : Says (gl := gl) 100 (.agg (tPa p)) (paB p) := by
  intro sg ow
  have hn := @ok68 gl p.name (by have := h.1; have : B47 = 140737488355328 := rfl; omega)
  refine XcE.of F100 rfl ?_
  simp only [ir100]
  simp only [wA, seval, reduceCtorEq, reduceIte, hn, (sy101 p.ty).call]
  repeat' ((with_reducible first | refine xG_dec ?_ ?_ | refine xG_ndec ?_ ?_ | refine xG_nsplit ?_ ?_ | refine xG_split ?_ ?_ | refine xC_dec ?_ ?_ | refine xC_ndec ?_ ?_ | refine xC_nsplit ?_ ?_ | refine xC_split ?_ ?_) <;> intro h <;> (try simp only [wA, seval, reduceCtorEq, reduceIte, hn, (sy101 p.ty).call, h]))
  all_goals (refine ⟨?_, Grow.app _ _⟩; simp only [PV.t.injEq, T.bool.injEq]; unfold paB)
  all_goals simp_all
theorem sy74 (p : De) (h : DeOk p) : Says (gl := gl) 74 (.agg (tDe p)) (deB p) := by
  intro sg ow
  have hn := @ok68 gl p.name (by have := h.1; have : B47 = 140737488355328 := rfl; omega)
  refine XcE.of F74 rfl ?_
  simp only [ir74]
  simp only [wA, seval, reduceCtorEq, reduceIte, hn, (sy101 p.ty).call]
  repeat' ((with_reducible first | refine xG_dec ?_ ?_ | refine xG_ndec ?_ ?_ | refine xG_nsplit ?_ ?_ | refine xG_split ?_ ?_ | refine xC_dec ?_ ?_ | refine xC_ndec ?_ ?_ | refine xC_nsplit ?_ ?_ | refine xC_split ?_ ?_) <;> intro h <;> (try simp only [wA, seval, reduceCtorEq, reduceIte, hn, (sy101 p.ty).call, h]))
  all_goals (refine ⟨?_, Grow.app _ _⟩; simp only [PV.t.injEq, T.bool.injEq]; unfold deB)
  all_goals simp_all
end Go.Proofs.YtcbgiabippcpaaaGreatDoor

/- Contracts: valid expressions, statements, functions; depths. -/
set_option maxRecDepth 10000
set_option linter.unusedVariables false
set_option linter.unusedSimpArgs false
namespace Go.Proofs.YtcbgiabippcpaaaGreatDoor
open Go.Pi Go.Lx Go.Ky
variable {gl : Nat → Option (List T)}
set_option maxHeartbeats 1000000 in
theorem sy35 : ∀ e : Exp, ExpOk e → Says (gl := gl) 35 (.agg (tEx e)) (exB e) := by
  refine Exp.ind fun e ih ho sg ow => ?_
  cases ho with | mk _ h1 h2 h3 h4 h5 h =>
  have hn := @ok68 gl e.name (by have : B47 = 140737488355328 := rfl; omega)
  refine XcE.of F35 rfl ?_
  simp only [ir35, tEx_eq]
  simp only [wA, seval, reduceCtorEq, reduceIte]
  refine CallE.mono (ok67 h4 (fun x hx => ih x hx (h x hx)) _ _) ?_
  rintro v sg' ow' ⟨rfl, ⟨r, rfl⟩, rfl⟩
  have hle : (1 ≤ (e.args.length : Int)) ↔ (0 < e.args.length) := by omega
  rw [exB_eq]
  unfold opB
  cases hall : e.args.all exB with
  | false =>
    simp only [wA, seval, reduceCtorEq, reduceIte, hall]
    exact ⟨by simp, Grow.app _ _⟩
  | true =>
    simp only [wA, seval, reduceCtorEq, reduceIte, hall, tExs_len, hn]
    repeat' ((with_reducible first | refine xG_dec ?_ ?_ | refine xG_ndec ?_ ?_ | refine xG_nsplit ?_ ?_ | refine xG_split ?_ ?_ | refine xC_dec ?_ ?_ | refine xC_ndec ?_ ?_ | refine xC_nsplit ?_ ?_ | refine xC_split ?_ ?_) <;> intro h <;> (try simp only [wA, seval, reduceCtorEq, reduceIte, hall, tExs_len, hn, h]))
    all_goals (refine ⟨?_, Grow.app _ _⟩; simp only [PV.t.injEq, T.bool.injEq, Bool.true_and])
    all_goals simp_all
end Go.Proofs.YtcbgiabippcpaaaGreatDoor

/- Contracts: valid statements, functions; depths; Valid. -/
set_option maxRecDepth 10000
set_option linter.unusedVariables false
set_option linter.unusedSimpArgs false
namespace Go.Proofs.YtcbgiabippcpaaaGreatDoor
open Go.Pi Go.Lx Go.Ky
variable {gl : Nat → Option (List T)}
set_option maxHeartbeats 1000000 in
theorem sy76 : ∀ s : St, StOk s → Says (gl := gl) 76 (.agg (tSt s)) (stB s) := by
  refine St.ind fun s ih ho sg ow => ?_
  cases ho with | mk _ h1 h2 h3 h4 h5 h6 h7 h8 h =>
  have hn := @ok68 gl s.name (by have : B47 = 140737488355328 := rfl; omega)
  have hE := fun K => (sy35 (gl := gl) s.ex h4).call (K := K)
  have hM := fun K => (sy103 (gl := gl) s.ex).call (K := K)
  have hU := fun K => (sy102 (gl := gl) s).call (K := K)
  have hL := fun n K => (sy104 (gl := gl) n).call (K := K)
  have hT := fun K => (sy101 (gl := gl) s.ty).call (K := K)
  have hev := fun sg' => CallE.mono (K' := fun v sg2 ow2 => v = .t (.bool (s.body.all stB)) ∧ Grow sg' sg2 ∧ ow2 = ow) (ok75 (gl := gl) (nl := s.nl) h7 (fun x hx => ih x hx (h x hx)) sg' ow) (fun _ _ _ h => h)
  refine XcE.of F76 rfl ?_
  rw [stB_eq]
  simp only [tEx_eq] at hE hM
  simp only [tSt_eq] at hU
  simp only [ir76, tSt_eq]
  by_cases k1 : s.kind = 1
  · simp only [k1] at hU ⊢
    simp only [wA, seval, reduceCtorEq, reduceIte, hn, hE, hM, hU, hL, hT, tSts_len, ty_beq]
    repeat' ((with_reducible first | refine xG_dec ?_ ?_ | refine xG_ndec ?_ ?_ | refine xG_nsplit ?_ ?_ | refine xG_split ?_ ?_ | refine xC_dec ?_ ?_ | refine xC_ndec ?_ ?_ | refine xC_nsplit ?_ ?_ | refine xC_split ?_ ?_) <;> intro h <;> (try simp only [wA, seval, reduceCtorEq, reduceIte, hn, hE, hM, hU, hL, hT, tSts_len, ty_beq, h]))
    all_goals (refine ⟨?_, Grow.app _ _⟩; simp only [PV.t.injEq, T.bool.injEq])
    all_goals simp_all [zTy]
  · by_cases k2 : s.kind = 2
    · simp only [k2] at hU ⊢
      simp only [wA, seval, reduceCtorEq, reduceIte, hn, hE, hM, hU, hL, hT, tSts_len, ty_beq]
      repeat' ((with_reducible first | refine xG_dec ?_ ?_ | refine xG_ndec ?_ ?_ | refine xG_nsplit ?_ ?_ | refine xG_split ?_ ?_ | refine xC_dec ?_ ?_ | refine xC_ndec ?_ ?_ | refine xC_nsplit ?_ ?_ | refine xC_split ?_ ?_) <;> intro h <;> (try simp only [wA, seval, reduceCtorEq, reduceIte, hn, hE, hM, hU, hL, hT, tSts_len, ty_beq, h]))
      all_goals (refine ⟨?_, Grow.app _ _⟩; simp only [PV.t.injEq, T.bool.injEq])
      all_goals simp_all [zTy]
    · by_cases k3 : s.kind = 3
      · simp only [k3] at hU ⊢
        simp only [wA, seval, reduceCtorEq, reduceIte, hn, hE, hM, hU, hL, hT, tSts_len, ty_beq]
        repeat' ((with_reducible first | refine xG_dec ?_ ?_ | refine xG_ndec ?_ ?_ | refine xG_nsplit ?_ ?_ | refine xG_split ?_ ?_ | refine xC_dec ?_ ?_ | refine xC_ndec ?_ ?_ | refine xC_nsplit ?_ ?_ | refine xC_split ?_ ?_) <;> intro h <;> (try simp only [wA, seval, reduceCtorEq, reduceIte, hn, hE, hM, hU, hL, hT, tSts_len, ty_beq, h]))
        any_goals (refine CallE.mono (hev _) ?_; rintro v sg' ow' ⟨rfl, ⟨r, rfl⟩, rfl⟩; ((simp only [wA, seval, reduceCtorEq, reduceIte]); (repeat' ((with_reducible first | refine xG_dec ?_ ?_ | refine xG_ndec ?_ ?_ | refine xG_nsplit ?_ ?_ | refine xG_split ?_ ?_ | refine xC_dec ?_ ?_ | refine xC_ndec ?_ ?_ | refine xC_nsplit ?_ ?_ | refine xC_split ?_ ?_) <;> intro h <;> (try simp only [wA, seval, reduceCtorEq, reduceIte, h])))))
        all_goals (refine ⟨?_, Grow.app _ _⟩; simp only [PV.t.injEq, T.bool.injEq])
        all_goals simp_all [zTy]
      · simp only [wA, seval, reduceCtorEq, reduceIte, hn, hE, hM, hU, hL, hT, tSts_len, ty_beq, k1, k2, k3]
        repeat' ((with_reducible first | refine xG_dec ?_ ?_ | refine xG_ndec ?_ ?_ | refine xG_nsplit ?_ ?_ | refine xG_split ?_ ?_ | refine xC_dec ?_ ?_ | refine xC_ndec ?_ ?_ | refine xC_nsplit ?_ ?_ | refine xC_split ?_ ?_) <;> intro h <;> (try simp only [wA, seval, reduceCtorEq, reduceIte, hn, hE, hM, hU, hL, hT, tSts_len, ty_beq, k1, k2, k3, h]))
        all_goals exact Grow.app _ _
theorem sy72 (f : Fu) (ho : FuOk f) : Says (gl := gl) 72 (.agg (tFu f)) (fuB f) := by
  intro sg ow
  have hn := @ok68 gl f.name (by have := ho.name; have : B47 = 140737488355328 := rfl; omega)
  have hE := fun K => (sy35 (gl := gl) f.ret ho.ret).call (K := K)
  have hT := fun K => (sy101 (gl := gl) f.res).call (K := K)
  have hp := fun sg' => ok99 (gl := gl) (nl := f.pnl) ho.pl (fun x hx => sy100 x (ho.pa x hx)) sg' ow
  have hb := fun sg' => ok75 (gl := gl) (nl := f.bnl) ho.bl (fun x hx => sy76 x (ho.bo x hx)) sg' ow
  refine XcE.of F72 rfl ?_
  simp only [tEx_eq] at hE
  simp only [ir72]
  unfold fuB
  simp only [wA, seval, reduceCtorEq, reduceIte, hn, hE, hT]
  repeat' ((with_reducible first | refine xG_dec ?_ ?_ | refine xG_ndec ?_ ?_ | refine xG_nsplit ?_ ?_ | refine xG_split ?_ ?_ | refine xC_dec ?_ ?_ | refine xC_ndec ?_ ?_ | refine xC_nsplit ?_ ?_ | refine xC_split ?_ ?_) <;> intro h <;> (try simp only [wA, seval, reduceCtorEq, reduceIte, hn, hE, hT, h]))
  any_goals (refine CallE.mono (hp _) ?_; rintro v sg' ow' ⟨rfl, ⟨r, rfl⟩, rfl⟩; ((simp only [wA, seval, reduceCtorEq, reduceIte, hn, hE, hT]); (repeat' ((with_reducible first | refine xG_dec ?_ ?_ | refine xG_ndec ?_ ?_ | refine xG_nsplit ?_ ?_ | refine xG_split ?_ ?_ | refine xC_dec ?_ ?_ | refine xC_ndec ?_ ?_ | refine xC_nsplit ?_ ?_ | refine xC_split ?_ ?_) <;> intro h <;> (try simp only [wA, seval, reduceCtorEq, reduceIte, hn, hE, hT, h])))))
  any_goals (refine CallE.mono (hb _) ?_; rintro v sg' ow' ⟨rfl, ⟨r2, rfl⟩, rfl⟩; ((simp only [wA, seval, reduceCtorEq, reduceIte, hn, hE, hT]); (repeat' ((with_reducible first | refine xG_dec ?_ ?_ | refine xG_ndec ?_ ?_ | refine xG_nsplit ?_ ?_ | refine xG_split ?_ ?_ | refine xC_dec ?_ ?_ | refine xC_ndec ?_ ?_ | refine xC_nsplit ?_ ?_ | refine xC_split ?_ ?_) <;> intro h <;> (try simp only [wA, seval, reduceCtorEq, reduceIte, hn, hE, hT, h])))))
  all_goals (refine ⟨?_, by first | exact Grow.app _ _ | (simp only [List.append_assoc, List.cons_append]; exact Grow.app _ _)⟩; simp only [PV.t.injEq, T.bool.injEq])
  all_goals simp_all
theorem imax_nat (a b : Nat) : (if (b : Int) > (a : Int) then (b : Int) else (a : Int)) = ((max a b : Nat) : Int) := by
  split <;> omega
theorem loop34 {l : List Exp} {nl : Bool} (hs : szEs l ≤ B20) (hd : ∀ x, x ∈ l → ∀ K, XcP F gl 34 [.agg (tEx x)] K ⟨⟩ ↔ K (.t (.int .i64 (dEx x : Nat)))) {ow : Ow} (Q : Ex → S → Prop) : ∀ (r : List Exp) (i acc : Nat) (fr : List PV) (sg : Sg), l.drop i = r →
    FrAt fr [(3, .t (.int .i64 (acc : Nat))), (7, .t (.sl nl (tExs l))), (8, .t (.int .i64 l.length)), (9, .t (.int .i64 i))] →
    (∀ fr' sg', fget fr' 3 = .t (.int .i64 ((max acc (dExs r) : Nat) : Int)) → Q (.exit 0) ⟨fr', sg', ow⟩) →
    Xl F gl lb34_0 ⟨fr, sg, ow⟩ Q ⟨⟩ := by
  intro r
  induction r with
  | nil =>
    intro i acc fr sg hdr hf h1
    have hdr := drop_nil' hdr
    simp only [FrAt_cons, FrAt_nil] at hf
    obtain ⟨f3, f7, f8, f9, -⟩ := hf
    refine Xl.step ?_
    simp only [lb34_0]
    have c1 : ¬ ((i : Int) < (l.length : Int)) := by omega
    simp only [wA, seval, reduceCtorEq, reduceIte, f3, f7, f8, f9, c1]
    refine h1 _ _ ?_
    simp only [FrAt_cons, FrAt_nil, wFr, Nat.reduceEqDiff, Nat.one_ne_zero, Nat.zero_ne_one, reduceIte, and_self, and_true, true_and, f3, dExs, Nat.max_zero]
  | cons x r ih =>
    intro i acc fr sg hdr hf h1
    obtain ⟨hx, hr, hi⟩ := drop_cons hdr
    simp only [FrAt_cons, FrAt_nil] at hf
    obtain ⟨f3, f7, f8, f9, -⟩ := hf
    refine Xl.step ?_
    simp only [lb34_0]
    have c1 : (i : Int) < (l.length : Int) := by omega
    have hll := szEs_len l
    have hw1 := i64_succ hi (show l.length ≤ 281474976710656 by have : B20 = 1100000 := rfl; omega)
    have hc := hd x (List.mem_of_getElem? hx)
    simp only [tEx_eq] at hc
    simp only [wA, seval, reduceCtorEq, reduceIte, f3, f7, f8, f9, c1, hw1, tExs_get, hx, tEx_eq, Int.toNat_natCast, hc, mxT, imax_nat]
    refine ih (i + 1) (max acc (dEx x)) _ _ hr (by simp only [FrAt_cons, FrAt_nil, wFr, Nat.reduceEqDiff, Nat.one_ne_zero, Nat.zero_ne_one, reduceIte, and_self, and_true, true_and, f7, f8]) fun fr' sg' h => h1 fr' sg' ?_
    rw [h, dExs, Nat.max_assoc]
theorem ok34 : ∀ e : Exp, szE e ≤ B20 → ∀ K, XcP F gl 34 [.agg (tEx e)] K ⟨⟩ ↔ K (.t (.int .i64 (dEx e : Nat))) := by
  refine Exp.ind fun e ih hs K => ?_
  refine Ret.iff (Ret.of F34 rfl ?_)
  have hse := szE_eq e
  have hdl := dEx_le e
  have hsl : szEs e.args ≤ B20 := by omega
  simp only [ir34, tEx_eq]
  simp only [wA, seval, reduceCtorEq, reduceIte, tExs_len]
  refine loop34 hsl (fun x hx => ih x hx (Nat.le_trans (szEs_mem hx) hsl)) _ e.args 0 0 _ _ rfl (by simp only [FrAt_cons, FrAt_nil, wFr, Nat.reduceEqDiff, Nat.one_ne_zero, Nat.zero_ne_one, reduceIte, and_self, and_true, true_and]; first | done | exact ⟨rfl, rfl⟩ | exact rfl) fun fr' sg' h => ?_
  have hw : IntKind.wrap .i64 (((max 0 (dExs e.args) : Nat) : Int) + 1) = ((dEx e : Nat) : Int) := by
    have := dEx_eq e
    rw [IntWalk.i64_in _ (by have : B20 = 1100000 := rfl; omega)]
    omega
  simp only [wA, seval, reduceCtorEq, reduceIte, h, hw]
end Go.Proofs.YtcbgiabippcpaaaGreatDoor

/- Contracts: depths of statements; Valid. -/
set_option maxRecDepth 10000
set_option linter.unusedVariables false
set_option linter.unusedSimpArgs false
namespace Go.Proofs.YtcbgiabippcpaaaGreatDoor
open Go.Pi Go.Lx Go.Ky
variable {gl : Nat → Option (List T)}
theorem loop105 {l : List St} {nl : Bool} (hs : szSs l ≤ B20) (hd : ∀ x, x ∈ l → ∀ K, XcP F gl 105 [.agg (tSt x)] K ⟨⟩ ↔ K (.t (.int .i64 (dSt x : Nat)))) {ow : Ow} (Q : Ex → S → Prop) : ∀ (r : List St) (i acc : Nat) (fr : List PV) (sg : Sg), l.drop i = r →
    FrAt fr [(3, .t (.int .i64 (acc : Nat))), (7, .t (.sl nl (tSts l))), (8, .t (.int .i64 l.length)), (9, .t (.int .i64 i))] →
    (∀ fr' sg', fget fr' 3 = .t (.int .i64 ((max acc (dSts r) : Nat) : Int)) → Q (.exit 0) ⟨fr', sg', ow⟩) →
    Xl F gl lb105_0 ⟨fr, sg, ow⟩ Q ⟨⟩ := by
  intro r
  induction r with
  | nil =>
    intro i acc fr sg hdr hf h1
    have hdr := drop_nil' hdr
    simp only [FrAt_cons, FrAt_nil] at hf
    obtain ⟨f3, f7, f8, f9, -⟩ := hf
    refine Xl.step ?_
    simp only [lb105_0]
    have c1 : ¬ ((i : Int) < (l.length : Int)) := by omega
    simp only [wA, seval, reduceCtorEq, reduceIte, f3, f7, f8, f9, c1]
    refine h1 _ _ ?_
    simp only [FrAt_cons, FrAt_nil, wFr, Nat.reduceEqDiff, Nat.one_ne_zero, Nat.zero_ne_one, reduceIte, and_self, and_true, true_and, f3, dSts, Nat.max_zero]
  | cons x r ih =>
    intro i acc fr sg hdr hf h1
    obtain ⟨hx, hr, hi⟩ := drop_cons hdr
    simp only [FrAt_cons, FrAt_nil] at hf
    obtain ⟨f3, f7, f8, f9, -⟩ := hf
    refine Xl.step ?_
    simp only [lb105_0]
    have c1 : (i : Int) < (l.length : Int) := by omega
    have hll := szSs_len l
    have hw1 := i64_succ hi (show l.length ≤ 281474976710656 by have : B20 = 1100000 := rfl; omega)
    have hc := hd x (List.mem_of_getElem? hx)
    simp only [tSt_eq] at hc
    simp only [wA, seval, reduceCtorEq, reduceIte, f3, f7, f8, f9, c1, hw1, tSts_get, hx, tSt_eq, Int.toNat_natCast, hc, mxT, imax_nat]
    refine ih (i + 1) (max acc (dSt x)) _ _ hr (by simp only [FrAt_cons, FrAt_nil, wFr, Nat.reduceEqDiff, Nat.one_ne_zero, Nat.zero_ne_one, reduceIte, and_self, and_true, true_and, f7, f8]) fun fr' sg' h => h1 fr' sg' ?_
    rw [h, dSts, Nat.max_assoc]
theorem ok105 : ∀ e : St, szS e ≤ B20 → ∀ K, XcP F gl 105 [.agg (tSt e)] K ⟨⟩ ↔ K (.t (.int .i64 (dSt e : Nat))) := by
  refine St.ind fun e ih hs K => ?_
  refine Ret.iff (Ret.of F105 rfl ?_)
  have hse := szS_eq e
  have hdl := dSt_le e
  have hsl : szSs e.body ≤ B20 := by omega
  simp only [ir105, tSt_eq]
  simp only [wA, seval, reduceCtorEq, reduceIte, tSts_len]
  refine loop105 hsl (fun x hx => ih x hx (Nat.le_trans (szSs_mem hx) hsl)) _ e.body 0 0 _ _ rfl (by simp only [FrAt_cons, FrAt_nil, wFr, Nat.reduceEqDiff, Nat.one_ne_zero, Nat.zero_ne_one, reduceIte, and_self, and_true, true_and]; first | done | exact ⟨rfl, rfl⟩ | exact rfl) fun fr' sg' h => ?_
  have hw : IntKind.wrap .i64 (((max 0 (dSts e.body) : Nat) : Int) + 1) = ((dSt e : Nat) : Int) := by
    have := dSt_eq e
    rw [IntWalk.i64_in _ (by have : B20 = 1100000 := rfl; omega)]
    omega
  simp only [wA, seval, reduceCtorEq, reduceIte, h, hw]
theorem sy36 (e : Exp) (hs : szE e ≤ B20) : Says (gl := gl) 36 (.agg (tEx e)) (shE e) := by
  intro sg ow
  have hd := ok34 (gl := gl) e hs
  simp only [tEx_eq] at hd
  refine XcE.of F36 rfl ?_
  simp only [ir36, tEx_eq]
  simp only [wA, seval, reduceCtorEq, reduceIte, hd]
  exact ⟨rfl, Grow.app _ _⟩
theorem sy78 : ∀ s : St, StOk s → szS s ≤ B20 → Says (gl := gl) 78 (.agg (tSt s)) (shS s) := by
  refine St.ind fun s ih ho hs sg ow => ?_
  have hse := szS_eq s
  have hex := szS_ex s
  cases ho with | mk _ h1 h2 h3 h4 h5 h6 h7 h8 h =>
  have hd := ok105 (gl := gl) s hs
  have hE := fun K => (sy36 (gl := gl) s.ex (by omega)).call (K := K)
  have hev := fun sg' => ok75 (gl := gl) (nl := s.nl) h7 (fun x hx => ih x hx (h x hx) (by have := szSs_mem hx; omega)) sg' ow
  simp only [tSt_eq] at hd
  simp only [tEx_eq] at hE
  refine XcE.of F78 rfl ?_
  rw [shS_eq]
  simp only [ir78, tSt_eq]
  simp only [wA, seval, reduceCtorEq, reduceIte, hd, hE]
  repeat' ((with_reducible first | refine xG_dec ?_ ?_ | refine xG_ndec ?_ ?_ | refine xG_nsplit ?_ ?_ | refine xG_split ?_ ?_ | refine xC_dec ?_ ?_ | refine xC_ndec ?_ ?_ | refine xC_nsplit ?_ ?_ | refine xC_split ?_ ?_) <;> intro h <;> (try simp only [wA, seval, reduceCtorEq, reduceIte, hd, hE, h]))
  any_goals (refine CallE.mono (hev _) ?_; rintro v sg' ow' ⟨rfl, ⟨r, rfl⟩, rfl⟩; ((simp only [wA, seval, reduceCtorEq, reduceIte]); (repeat' ((with_reducible first | refine xG_dec ?_ ?_ | refine xG_ndec ?_ ?_ | refine xG_nsplit ?_ ?_ | refine xG_split ?_ ?_ | refine xC_dec ?_ ?_ | refine xC_ndec ?_ ?_ | refine xC_nsplit ?_ ?_ | refine xC_split ?_ ?_) <;> intro h <;> (try simp only [wA, seval, reduceCtorEq, reduceIte, h])))))
  all_goals (refine ⟨?_, Grow.app _ _⟩; simp only [PV.t.injEq, T.bool.injEq])
  all_goals simp_all
theorem sy77 (f : Fu) (ho : FuOk f) (hb : szSs f.body ≤ B20) (he : szE f.ret ≤ B20) : Says (gl := gl) 77 (.agg (tFu f)) (shF f) := by
  intro sg ow
  have hE := fun K => (sy36 (gl := gl) f.ret he).call (K := K)
  have hev := fun sg' => ok75 (gl := gl) (nl := f.bnl) ho.bl (fun x hx => sy78 x (ho.bo x hx) (by have := szSs_mem hx; omega)) sg' ow
  simp only [tEx_eq] at hE
  refine XcE.of F77 rfl ?_
  simp only [ir77]
  unfold shF
  simp only [wA, seval, reduceCtorEq, reduceIte, hE]
  refine CallE.mono (hev _) ?_
  rintro v sg' ow' ⟨rfl, ⟨r, rfl⟩, rfl⟩
  cases c : f.body.all shS with
  | false =>
    simp only [wA, seval, reduceCtorEq, reduceIte, hE, c, Bool.false_and]
    exact Grow.app _ _
  | true =>
    simp only [wA, seval, reduceCtorEq, reduceIte, hE, c, Bool.true_and]
    exact Grow.app _ _
structure PgSz (p : Pg) : Prop where
  fu : ∀ f, f ∈ p.funcs → szSs f.body ≤ B20 ∧ szE f.ret ≤ B20
  bo : szSs p.body ≤ B20
set_option maxHeartbeats 1000000 in
theorem ok42 (p : Pg) (ho : PgOk p) (hs : PgSz p) {K : PV → Prop} : XcP F gl 42 [.agg (tPg p)] K ⟨⟩ ↔ K (.t (.int .i64 (validP p))) := by
  refine Ret.iff (Ret.of F42 rfl ?_)
  have h1 := fun sg' ow => ok71 (gl := gl) (nl := p.fnl) ho.fl (fun x hx => sy72 x (ho.fo x hx)) sg' ow
  have h2 := fun sg' ow => ok73 (gl := gl) (nl := p.dnl) ho.dl (fun x hx => sy74 x (ho.dok x hx)) sg' ow
  have h3 := fun sg' ow => ok75 (gl := gl) (nl := p.bnl) ho.bl (fun x hx => sy76 x (ho.bo x hx)) sg' ow
  have h4 := fun sg' ow => ok71 (gl := gl) (nl := p.fnl) ho.fl (fun x hx => sy77 x (ho.fo x hx) (hs.fu x hx).1 (hs.fu x hx).2) sg' ow
  have h5 := fun sg' ow => ok75 (gl := gl) (nl := p.bnl) ho.bl (fun x hx => sy78 x (ho.bo x hx) (by have := szSs_mem hx; have := hs.bo; omega)) sg' ow
  simp only [ir42]
  unfold validP
  simp only [wA, seval, reduceCtorEq, reduceIte]
  refine CallE.mono (h1 _ _) ?_
  rintro v sg' ow' ⟨rfl, ⟨r1, rfl⟩, rfl⟩
  have done : ∀ (sg : Sg) (a : Int), True := fun _ _ => trivial
  cases c1 : p.funcs.all fuB with
  | false =>
    simp only [wA, seval, reduceCtorEq, reduceIte, c1, Bool.false_and]
  | true =>
    simp only [wA, seval, reduceCtorEq, reduceIte, c1, Bool.true_and]
    refine CallE.mono (h2 _ _) ?_
    rintro v sg' ow' ⟨rfl, ⟨r2, rfl⟩, rfl⟩
    cases c2 : p.decls.all deB with
    | false =>
      simp only [wA, seval, reduceCtorEq, reduceIte, c2, Bool.false_and]
    | true =>
      simp only [wA, seval, reduceCtorEq, reduceIte, c2, Bool.true_and]
      refine CallE.mono (h3 _ _) ?_
      rintro v sg' ow' ⟨rfl, ⟨r3, rfl⟩, rfl⟩
      cases c3 : p.body.all stB with
      | false =>
        simp only [wA, seval, reduceCtorEq, reduceIte, c3]
      | true =>
        simp only [wA, seval, reduceCtorEq, reduceIte, c3]
        refine CallE.mono (h4 _ _) ?_
        rintro v sg' ow' ⟨rfl, ⟨r4, rfl⟩, rfl⟩
        cases c4 : p.funcs.all shF with
        | false =>
          simp only [wA, seval, reduceCtorEq, reduceIte, c4, Bool.false_and]
        | true =>
          simp only [wA, seval, reduceCtorEq, reduceIte, c4, Bool.true_and]
          refine CallE.mono (h5 _ _) ?_
          rintro v sg' ow' ⟨rfl, ⟨r5, rfl⟩, rfl⟩
          cases c5 : p.body.all shS with
          | false =>
            simp only [wA, seval, reduceCtorEq, reduceIte, c5]
          | true =>
            simp only [wA, seval, reduceCtorEq, reduceIte, c5]
end Go.Proofs.YtcbgiabippcpaaaGreatDoor

/- The reference's Same: a program is the same as itself. -/
set_option maxRecDepth 10000
set_option linter.unusedVariables false
set_option linter.unusedSimpArgs false
namespace Go.Proofs.YtcbgiabippcpaaaGreatDoor
open Go.Pi Go.Lx Go.Ky
variable {gl : Nat → Option (List T)}
abbrev eL (e : Exp) : List T := [.int .i64 e.op, .int .u64 e.val, .str e.name, .sl e.nl (tExs e.args)]
set_option maxHeartbeats 1000000 in
theorem loop13 {e : Exp} (hl : e.args.length ≤ B20) (ih : ∀ a, a ∈ e.args → ∀ K, XcP F gl 13 [.agg (eL a), .agg (eL a)] K ⟨⟩ ↔ K (.t (.bool true))) {ow : Ow} (Q : Ex → S → Prop) : ∀ (r : List Exp) (i : Nat) (fr : List PV), e.args.drop i = r →
    FrAt fr [(2, .lp 0 0), (3, .lp 1 0), (5, .t (.int .i64 i))] → (∀ fr', Q (.exit 0) ⟨fr', [(false, (eL e).map .t), (false, (eL e).map .t)], ow⟩) →
    Xl F gl lb13_0 ⟨fr, [(false, (eL e).map .t), (false, (eL e).map .t)], ow⟩ Q ⟨⟩ := by
  intro r
  have hb : B20 = 1100000 := rfl
  induction r with
  | nil =>
    intro i fr hd hf h1
    have hd := drop_nil' hd
    simp only [FrAt_cons, FrAt_nil] at hf
    obtain ⟨f2, f3, f5, -⟩ := hf
    refine Xl.step ?_
    simp only [lb13_0]
    have c1 : ((i : Int) < (e.args.length : Int)) = False := eq_false (by omega)
    simp only [wA, seval, reduceCtorEq, reduceIte, f2, f3, f5, tExs_len, c1, List.map_cons, List.map_nil]
    exact h1 _
  | cons x r ih2 =>
    intro i fr hd hf h1
    obtain ⟨hx, hr, hi⟩ := drop_cons hd
    simp only [FrAt_cons, FrAt_nil] at hf
    obtain ⟨f2, f3, f5, -⟩ := hf
    refine Xl.step ?_
    simp only [lb13_0]
    have c1 : ((i : Int) < (e.args.length : Int)) = True := eq_true (by omega)
    have hw1 : IntKind.wrap .i64 ((i : Int) + 1) = ((i + 1 : Nat) : Int) := by rw [IntWalk.i64_in _ (by omega)]; omega
    have hc := ih x (List.mem_of_getElem? hx)
    have c0 : (0 ≤ (i : Int)) = True := eq_true (by omega)
    simp only [wA, seval, reduceCtorEq, reduceIte, f2, f3, f5, tExs_len, tExs_get, hx, Option.map_some, tEx_eq, hc, hw1, c0, c1, Int.toNat_natCast, List.map_cons, List.map_nil]
    exact ih2 (i + 1) _ hr (by simp only [FrAt_cons, FrAt_nil, wFr, Nat.reduceEqDiff, Nat.one_ne_zero, Nat.zero_ne_one, reduceIte, and_self, and_true, true_and, f2, f3]) h1
set_option maxHeartbeats 1000000 in
theorem ok13 : ∀ e : Exp, szE e ≤ B20 → ∀ K, XcP F gl 13 [.agg (eL e), .agg (eL e)] K ⟨⟩ ↔ K (.t (.bool true)) := by
  refine Exp.ind fun e ih hs K => ?_
  have hz := szE_eq e
  have hl := szEs_len e.args
  refine Ret.iff (Ret.of F13 rfl ?_)
  simp only [ir13]
  simp only [wA, seval, reduceCtorEq, reduceIte, tExs_len, BEq.rfl, bne_self_eq_false, Bool.not_true, ne_eq, not_true_eq_false, decide_false]
  refine loop13 (e := e) (by omega) (fun a ha => ih a ha (by have := szEs_mem ha; omega)) _ e.args 0 _ rfl (by simp only [FrAt_cons, FrAt_nil, wFr, Nat.reduceEqDiff, Nat.one_ne_zero, Nat.zero_ne_one, reduceIte, and_self, and_true, true_and]) ?_
  intro fr'
  simp only [wA, seval, reduceCtorEq, reduceIte]
end Go.Proofs.YtcbgiabippcpaaaGreatDoor
