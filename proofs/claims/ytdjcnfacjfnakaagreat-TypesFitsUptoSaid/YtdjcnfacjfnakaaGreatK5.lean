/- Contracts: names. -/
import Derived.Test.YtdjcnfacjfnakaaGreatIrA
import Derived.Test.YtdjcnfacjfnakaaGreatKx27
import Derived.Test.YtdjcnfacjfnakaaGreatKx27
set_option maxRecDepth 10000
set_option linter.unusedVariables false
set_option linter.unusedSimpArgs false
namespace Go.Proofs.YtdjcnfacjfnakaaGreat
open Go.Pi Go.Lx Go.Ky
variable {gl : Nat → Option (List T)}

abbrev tB (c : UInt8) : T := .int .u8 (c.toNat : Int)
theorem le_int {a c : UInt8} : a ≤ c ↔ ((a.toNat : Int) ≤ (c.toNat : Int)) := by rw [UInt8.le_iff_toNat_le]; omega
theorem isLet_eq (c : UInt8) : isLet c = (decide ((97 : Int) ≤ (c.toNat : Int)) && decide ((c.toNat : Int) ≤ 122)) := by
  unfold isLet
  congr 1 <;> (congr 1; exact propext le_int)
theorem isDig_eq (c : UInt8) : isDig c = (decide ((48 : Int) ≤ (c.toNat : Int)) && decide ((c.toNat : Int) ≤ 57)) := by
  unfold isDig
  congr 1 <;> (congr 1; exact propext le_int)
theorem u8_eq {c : UInt8} {n : Nat} (hn : n < 256) : (c = UInt8.ofNat n) ↔ ((c.toNat : Int) = (n : Int)) := by
  constructor
  · intro h; subst h; rw [UInt8.toNat_ofNat']; omega
  · intro h
    apply UInt8.toNat_inj.1
    rw [UInt8.toNat_ofNat']; omega
theorem ok178 (c : UInt8) {K : PV → Prop} : XcP F gl 178 [tB c] K ⟨⟩ ↔ K (.t (.bool (isLet c))) := by
  refine Ret.iff (Ret.of F178 rfl ?_)
  simp only [ir178]
  simp only [wA, seval, reduceCtorEq, reduceIte]
  repeat' ((with_reducible first | refine xG_dec ?_ ?_ | refine xG_ndec ?_ ?_ | refine xG_nsplit ?_ ?_ | refine xG_split ?_ ?_ | refine xC_dec ?_ ?_ | refine xC_ndec ?_ ?_ | refine xC_nsplit ?_ ?_ | refine xC_split ?_ ?_) <;> intro h <;> (try simp only [wA, seval, reduceCtorEq, reduceIte, h]))
  all_goals (simp_all [isLet_eq] <;> omega)
theorem ok206 (c : UInt8) {K : PV → Prop} : XcP F gl 206 [tB c] K ⟨⟩ ↔ K (.t (.bool (isDig c))) := by
  refine Ret.iff (Ret.of F206 rfl ?_)
  simp only [ir206]
  simp only [wA, seval, reduceCtorEq, reduceIte]
  repeat' ((with_reducible first | refine xG_dec ?_ ?_ | refine xG_ndec ?_ ?_ | refine xG_nsplit ?_ ?_ | refine xG_split ?_ ?_ | refine xC_dec ?_ ?_ | refine xC_ndec ?_ ?_ | refine xC_nsplit ?_ ?_ | refine xC_split ?_ ?_) <;> intro h <;> (try simp only [wA, seval, reduceCtorEq, reduceIte, h]))
  all_goals (simp_all [isDig_eq] <;> omega)
theorem isNam_eq (c : UInt8) : isNam c = (isLet c || isDig c || decide ((c.toNat : Int) = 95)) := by
  unfold isNam
  congr 1
  have : (c = 95) ↔ ((c.toNat : Int) = 95) := u8_eq (n := 95) (by omega)
  by_cases h : c = 95
  · rw [decide_eq_true (this.1 h), h]; rfl
  · rw [decide_eq_false (fun e => h (this.2 e))]; simpa using h
theorem ok180 (c : UInt8) {K : PV → Prop} : XcP F gl 180 [tB c] K ⟨⟩ ↔ K (.t (.bool (isNam c))) := by
  refine Ret.iff (Ret.of F180 rfl ?_)
  simp only [ir180]
  simp only [wA, seval, reduceCtorEq, reduceIte, ok178, ok206]
  repeat' ((with_reducible first | refine xG_dec ?_ ?_ | refine xG_ndec ?_ ?_ | refine xG_nsplit ?_ ?_ | refine xG_split ?_ ?_ | refine xC_dec ?_ ?_ | refine xC_ndec ?_ ?_ | refine xC_nsplit ?_ ?_ | refine xC_split ?_ ?_) <;> intro h <;> (try simp only [wA, seval, reduceCtorEq, reduceIte, ok178, ok206, h]))
  all_goals simp_all [isNam_eq]
theorem okE180 (c : UInt8) {sg : Sg} {ow : Ow} {K : PV → Sg → Ow → Prop} : XcE F gl 180 [.t (tB c)] sg ow K ⟨⟩ ↔ K (.t (.bool (isNam c))) sg ow := by
  refine CallE.iff (XcE.of F180 rfl ?_)
  simp only [ir180]
  simp only [wA, seval, reduceCtorEq, reduceIte, ok178, ok206]
  repeat' ((with_reducible first | refine xG_dec ?_ ?_ | refine xG_ndec ?_ ?_ | refine xG_nsplit ?_ ?_ | refine xG_split ?_ ?_ | refine xC_dec ?_ ?_ | refine xC_ndec ?_ ?_ | refine xC_nsplit ?_ ?_ | refine xC_split ?_ ?_) <;> intro h <;> (try simp only [wA, seval, reduceCtorEq, reduceIte, ok178, ok206, h]))
  all_goals simp_all [isNam_eq]
/-- A span. -/
theorem loop179 {p : UInt8 → Bool} {f : Nat} (hp : ∀ (c : UInt8) {sg : Sg} {ow : Ow} {K : PV → Sg → Ow → Prop}, XcE F gl f [.t (tB c)] sg ow K ⟨⟩ ↔ K (.t (.bool (p c))) sg ow) {s : List UInt8} (hl : s.length ≤ 281474976710656) {sg : Sg} {ow : Ow} (Q : Ex → S → Prop) : ∀ (r : List UInt8) (i : Nat) (fr : List PV), s.drop i = r →
    FrAt fr [(0, .t (.str s)), (1, .fn f []), (5, .t (.int .i64 i))] →
    (∀ fr', fget fr' 5 = .t (.int .i64 ((i + span p r : Nat) : Int)) → Q (.exit 0) ⟨fr', sg, ow⟩) →
    Xl F gl lb179_0 ⟨fr, sg, ow⟩ Q ⟨⟩ := by
  intro r
  induction r with
  | nil =>
    intro i fr hd hf h1
    have hd := drop_nil' hd
    simp only [FrAt_cons, FrAt_nil] at hf
    obtain ⟨f0, f1, f5, -⟩ := hf
    refine Xl.step ?_
    simp only [lb179_0]
    have c1 : ¬ ((i : Int) < (s.length : Int)) := by omega
    simp only [wA, seval, reduceCtorEq, reduceIte, f0, f1, f5, c1]
    refine h1 _ ?_
    simp only [FrAt_cons, FrAt_nil, wFr, Nat.reduceEqDiff, Nat.one_ne_zero, Nat.zero_ne_one, reduceIte, and_self, and_true, true_and, f5, span, Nat.add_zero]
  | cons x r ih =>
    intro i fr hd hf h1
    obtain ⟨hx, hr, hi⟩ := drop_cons hd
    simp only [FrAt_cons, FrAt_nil] at hf
    obtain ⟨f0, f1, f5, -⟩ := hf
    refine Xl.step ?_
    simp only [lb179_0]
    have c1 : (i : Int) < (s.length : Int) := by omega
    have hw1 : IntKind.wrap .i64 ((i : Int) + 1) = ((i + 1 : Nat) : Int) := by rw [IntWalk.i64_in _ (by omega)]; omega
    have c0 : (0 : Int) ≤ (i : Int) := by omega
    cases hq : p x with
    | false =>
      simp only [wA, seval, reduceCtorEq, reduceIte, f0, f1, f5, c1, hw1, c0, Int.toNat_natCast, hx, hp, hq, List.append_nil]
      refine h1 _ ?_
      simp only [FrAt_cons, FrAt_nil, wFr, Nat.reduceEqDiff, Nat.one_ne_zero, Nat.zero_ne_one, reduceIte, and_self, and_true, true_and, f5, span, hq, Nat.add_zero, Bool.false_eq_true, if_false]
    | true =>
      simp only [wA, seval, reduceCtorEq, reduceIte, f0, f1, f5, c1, hw1, c0, Int.toNat_natCast, hx, hp, hq, List.append_nil]
      refine ih (i + 1) _ hr (by simp only [FrAt_cons, FrAt_nil, wFr, Nat.reduceEqDiff, Nat.one_ne_zero, Nat.zero_ne_one, reduceIte, and_self, and_true, true_and, f0, f1]) fun fr' h => h1 fr' ?_
      rw [h]
      simp only [span, hq, if_true]
      congr 3
      omega
theorem ok179 {p : UInt8 → Bool} {f : Nat} (hp : ∀ (c : UInt8) {sg : Sg} {ow : Ow} {K : PV → Sg → Ow → Prop}, XcE F gl f [.t (tB c)] sg ow K ⟨⟩ ↔ K (.t (.bool (p c))) sg ow) {s : List UInt8} (hl : s.length ≤ 281474976710656) {sg : Sg} {ow : Ow} {K : PV → Sg → Ow → Prop} :
    XcE F gl 179 [.t (.str s), .fn f []] sg ow K ⟨⟩ ↔ K (.t (.int .i64 (span p s : Nat))) sg ow := by
  refine CallE.iff (XcE.of F179 rfl ?_)
  simp only [ir179]
  simp only [wA, seval, reduceCtorEq, reduceIte]
  refine loop179 hp hl _ s 0 _ rfl (by simp only [FrAt_cons, FrAt_nil, wFr, Nat.reduceEqDiff, Nat.one_ne_zero, Nat.zero_ne_one, reduceIte, and_self, and_true, true_and]) fun fr' h => ?_
  simp only [wA, seval, reduceCtorEq, reduceIte, h]
  try simp
def tStrs (l : List (List UInt8)) : List (List T) := l.map fun s => [.str s]
theorem ok182 {K : PV → Prop} : XcP F gl 182 [] K ⟨⟩ ↔ K (.t (.sl false (tStrs keywords))) := by
  refine Ret.iff (Ret.of F182 rfl ?_)
  simp only [ir182]
  simp only [wA, seval, reduceCtorEq, reduceIte, bslV, chunks, cell1, T.isAgg, List.replicate, List.flatten_cons, List.flatten_nil, List.append_nil]
  rfl
def idxF (s : List UInt8) : List (List UInt8) → Nat → Int
  | [], _ => -1
  | x :: l, i => if s = x then (i : Int) else idxF s l (i + 1)
theorem idxF_contains (s : List UInt8) : ∀ (l : List (List UInt8)) (i : Nat), decide (0 ≤ idxF s l i) = l.contains s := by
  intro l
  induction l with
  | nil => intro i; rfl
  | cons x l ih =>
    intro i
    rw [List.contains_cons, idxF]
    split
    · rename_i h
      rw [h]
      simp
    · rename_i h
      rw [ih, show (s == x) = false by simpa using h, Bool.false_or]
theorem loop207 {nl : Bool} {l : List (List UInt8)} (hl : l.length ≤ 281474976710656) {s : List UInt8} {sg : Sg} {ow : Ow} (Q : Ex → S → Prop) : ∀ (r : List (List UInt8)) (i : Nat) (fr : List PV), l.drop i = r →
    FrAt fr [(0, .t (.sl nl (tStrs l))), (1, .t (.str s)), (7, .t (.int .i64 l.length)), (8, .t (.int .i64 i))] →
    (idxF s r i = -1 → ∀ fr', Q (.exit 0) ⟨fr', sg, ow⟩) →
    (∀ fr', fget fr' 4 = .t (.int .i64 (idxF s r i)) → Q .ret ⟨fr', sg, ow⟩) →
    Xl F gl lb207_0 ⟨fr, sg, ow⟩ Q ⟨⟩ := by
  intro r
  induction r with
  | nil =>
    intro i fr hd hf h1 h2
    have hd := drop_nil' hd
    simp only [FrAt_cons, FrAt_nil] at hf
    obtain ⟨f0, f1, f7, f8, -⟩ := hf
    refine Xl.step ?_
    simp only [lb207_0]
    have c1 : ¬ ((i : Int) < (l.length : Int)) := by omega
    simp only [wA, seval, reduceCtorEq, reduceIte, f0, f1, f7, f8, c1]
    exact h1 rfl _
  | cons x r ih =>
    intro i fr hd hf h1 h2
    obtain ⟨hx, hr, hi⟩ := drop_cons hd
    simp only [FrAt_cons, FrAt_nil] at hf
    obtain ⟨f0, f1, f7, f8, -⟩ := hf
    refine Xl.step ?_
    simp only [lb207_0]
    have c1 : (i : Int) < (l.length : Int) := by omega
    have hw1 : IntKind.wrap .i64 ((i : Int) + 1) = ((i + 1 : Nat) : Int) := by rw [IntWalk.i64_in _ (by omega)]; omega
    by_cases c : s = x
    · simp only [wA, seval, reduceCtorEq, reduceIte, f0, f1, f7, f8, c1, hw1, tStrs, List.getElem?_map, hx, c]
      refine h2 _ ?_
      simp only [FrAt_cons, FrAt_nil, wFr, Nat.reduceEqDiff, Nat.one_ne_zero, Nat.zero_ne_one, reduceIte, and_self, and_true, true_and, idxF, c]
    · simp only [wA, seval, reduceCtorEq, reduceIte, f0, f1, f7, f8, c1, hw1, tStrs, List.getElem?_map, hx, c]
      refine ih (i + 1) _ hr (by simp only [FrAt_cons, FrAt_nil, wFr, Nat.reduceEqDiff, Nat.one_ne_zero, Nat.zero_ne_one, reduceIte, and_self, and_true, true_and, f0, f1, f7, tStrs]) (fun q => h1 (by rw [idxF, if_neg c]; exact q)) (fun fr' q => h2 fr' (by rw [q, idxF, if_neg c]))
theorem ok207 (nl : Bool) (l : List (List UInt8)) (hl : l.length ≤ 281474976710656) (s : List UInt8) {K : PV → Prop} : XcP F gl 207 [.sl nl (tStrs l), .str s] K ⟨⟩ ↔ K (.t (.int .i64 (idxF s l 0))) := by
  refine Ret.iff (Ret.of F207 rfl ?_)
  simp only [ir207]
  have e : (tStrs l).length = l.length := by simp [tStrs]
  simp only [wA, seval, reduceCtorEq, reduceIte, e]
  refine loop207 hl (nl := nl) (s := s) _ l 0 _ rfl (by simp only [FrAt_cons, FrAt_nil, wFr, Nat.reduceEqDiff, Nat.one_ne_zero, Nat.zero_ne_one, reduceIte, and_self, and_true, true_and]) ?_ ?_
  · intro h fr'
    simp only [wA, seval, reduceCtorEq, reduceIte, h]
  · intro fr' h
    simp only [wA, seval, reduceCtorEq, reduceIte, h]
theorem ok181 (nl : Bool) (l : List (List UInt8)) (hl : l.length ≤ 281474976710656) (s : List UInt8) {K : PV → Prop} : XcP F gl 181 [.sl nl (tStrs l), .str s] K ⟨⟩ ↔ K (.t (.bool (l.contains s))) := by
  refine Ret.iff (Ret.of F181 rfl ?_)
  simp only [ir181]
  have a := @ok207 gl nl l hl s
  simp only [wA, seval, reduceCtorEq, reduceIte, a, idxF_contains]
theorem ok139 (s : List UInt8) (hl : s.length ≤ 281474976710656) {K : PV → Prop} : XcP F gl 139 [.str s] K ⟨⟩ ↔ K (.t (.bool (nameB s))) := by
  refine Ret.iff (Ret.of F139 rfl ?_)
  simp only [ir139]
  cases s with
  | nil =>
    simp only [wA, seval, reduceCtorEq, reduceIte]
    rfl
  | cons c r =>
    have a26 := @ok178 gl c
    have a27 := @ok179 gl isNam 180 okE180 (c :: r) hl
    have a29 := @ok181 gl false keywords (by decide) (c :: r)
    have e : nameB (c :: r) = (decide ((c :: r).length ≤ 24) && isLet c && decide (span isNam (c :: r) = (c :: r).length) && !keywords.contains (c :: r)) := rfl
    generalize hs : c :: r = s at *
    have h0 : s[0]? = some c := by rw [← hs]; rfl
    have hne : ¬ s = [] := by rw [← hs]; simp
    by_cases g : (24 : Int) < (s.length : Int)
    · simp only [wA, seval, reduceCtorEq, reduceIte, g, hne]
      rw [e, decide_eq_false (by omega)]; rfl
    · rw [decide_eq_true (show s.length ≤ 24 by omega)] at e
      cases hL : isLet c with
      | false =>
        rw [hL] at a26 e
        simp only [wA, seval, reduceCtorEq, reduceIte, g, hne, h0, a26]
        rw [e]; rfl
      | true =>
        rw [hL] at a26 e
        by_cases q : ((span isNam s : Nat) : Int) = (s.length : Int)
        · rw [decide_eq_true (show span isNam s = s.length by omega)] at e
          simp only [wA, seval, reduceCtorEq, reduceIte, g, hne, h0, a26, a27, q, ok182, a29, Bool.not_true]
          rw [e]; rfl
        · rw [decide_eq_false (show ¬ span isNam s = s.length by omega)] at e
          simp only [wA, seval, reduceCtorEq, reduceIte, g, hne, h0, a26, a27, q, Bool.not_true, Bool.not_false]
          rw [e]; rfl
end Go.Proofs.YtdjcnfacjfnakaaGreat

/- Contracts: a property of all elements. -/
set_option maxRecDepth 10000
set_option linter.unusedVariables false
set_option linter.unusedSimpArgs false
namespace Go.Proofs.YtdjcnfacjfnakaaGreat
open Go.Pi Go.Lx Go.Ky
variable {gl : Nat → Option (List T)}

/-- A function that says p of x, and adds to the store alone. -/
def Says (f : Nat) (x : T) (b : Bool) : Prop := ∀ (sg : Sg) (ow : Ow), CallE F gl f [.t x] sg ow fun v sg' ow' => v = .t (.bool b) ∧ Grow sg sg' ∧ ow' = ow
theorem loop95 {f : Nat} {p : Fu → Bool} {nl : Bool} {l : List Fu} (hl : l.length ≤ B47) (hp : ∀ x, x ∈ l → Says (gl := gl) f (.agg (tFu x)) (p x)) {sg0 : Sg} {ow : Ow} (Q : Ex → S → Prop) : ∀ (r : List Fu) (i : Nat) (fr : List PV) (sg : Sg), l.drop i = r → Grow sg0 sg →
    FrAt fr [(1, .fn f []), (7, .t (.sl nl (l.map tFu))), (8, .t (.int .i64 l.length)), (9, .t (.int .i64 i))] →
    (r.all p = true → ∀ fr' sg', Grow sg0 sg' → Q (.exit 0) ⟨fr', sg', ow⟩) →
    (r.all p = false → ∀ fr' sg', Grow sg0 sg' → fget fr' 4 = .t (.bool false) → Q .ret ⟨fr', sg', ow⟩) →
    Xl F gl lb95_0 ⟨fr, sg, ow⟩ Q ⟨⟩ := by
  intro r
  induction r with
  | nil =>
    intro i fr sg hd hg hf h1 h2
    have hd := drop_nil' hd
    simp only [FrAt_cons, FrAt_nil] at hf
    obtain ⟨f1, f7, f8, f9, -⟩ := hf
    refine Xl.step ?_
    simp only [lb95_0]
    have c1 : ¬ ((i : Int) < (l.length : Int)) := by omega
    simp only [wA, seval, reduceCtorEq, reduceIte, f1, f7, f8, f9, c1]
    exact h1 rfl _ _ hg
  | cons x r ih =>
    intro i fr sg hd hg hf h1 h2
    obtain ⟨hx, hr, hi⟩ := drop_cons hd
    simp only [FrAt_cons, FrAt_nil] at hf
    obtain ⟨f1, f7, f8, f9, -⟩ := hf
    refine Xl.step ?_
    simp only [lb95_0]
    have c1 : (i : Int) < (l.length : Int) := by omega
    have hw1 := i64_succ hi (show l.length ≤ 281474976710656 by have : B47 = 140737488355328 := rfl; omega)
    have hc := hp x (List.mem_of_getElem? hx)
    simp only [wA, seval, reduceCtorEq, reduceIte, f1, f7, f8, f9, c1, List.getElem?_map, hx, Int.toNat_natCast]
    refine CallE.mono (hc _ _) ?_
    rintro v sg' ow' ⟨rfl, hg', rfl⟩
    cases hq : p x with
    | true =>
      simp only [wA, seval, reduceCtorEq, reduceIte, f1, f7, f8, f9, hw1, hq]
      refine ih (i + 1) _ _ hr (hg.trans ((Grow.app _ _).trans hg')) (by simp only [FrAt_cons, FrAt_nil, wFr, Nat.reduceEqDiff, Nat.one_ne_zero, Nat.zero_ne_one, reduceIte, and_self, and_true, true_and, f1, f7, f8]) (fun h => h1 (by simpa [hq] using h)) (fun h => h2 (by simpa [hq] using h))
    | false =>
      simp only [wA, seval, reduceCtorEq, reduceIte, f1, f7, f8, f9, hq]
      exact h2 (by simp [hq]) _ _ (hg.trans ((Grow.app _ _).trans hg')) (by simp only [FrAt_cons, FrAt_nil, wFr, Nat.reduceEqDiff, Nat.one_ne_zero, Nat.zero_ne_one, reduceIte, and_self, and_true, true_and])
theorem ok95 {f : Nat} {p : Fu → Bool} {nl : Bool} {l : List Fu} (hl : l.length ≤ B47) (hp : ∀ x, x ∈ l → Says (gl := gl) f (.agg (tFu x)) (p x)) (sg : Sg) (ow : Ow) :
    CallE F gl 95 [.t (.sl nl (l.map tFu)), .fn f []] sg ow fun v sg' ow' => v = .t (.bool (l.all p)) ∧ Grow sg sg' ∧ ow' = ow := by
  refine XcE.of F95 rfl ?_
  simp only [ir95]
  simp only [wA, seval, reduceCtorEq, reduceIte, List.length_map]
  refine loop95 hl hp (sg0 := sg) _ l 0 _ _ rfl (Grow.refl _) (by simp only [FrAt_cons, FrAt_nil, wFr, Nat.reduceEqDiff, Nat.one_ne_zero, Nat.zero_ne_one, reduceIte, and_self, and_true, true_and]; exact rfl) ?_ ?_
  · intro h fr' sg' hg
    simp only [wA, seval, reduceCtorEq, reduceIte]
    exact ⟨by rw [h], hg⟩
  · intro h fr' sg' hg h4
    simp only [wA, seval, reduceCtorEq, reduceIte, h4]
    exact ⟨by rw [h], hg⟩
theorem loop97 {f : Nat} {p : De → Bool} {nl : Bool} {l : List De} (hl : l.length ≤ B47) (hp : ∀ x, x ∈ l → Says (gl := gl) f (.agg (tDe x)) (p x)) {sg0 : Sg} {ow : Ow} (Q : Ex → S → Prop) : ∀ (r : List De) (i : Nat) (fr : List PV) (sg : Sg), l.drop i = r → Grow sg0 sg →
    FrAt fr [(1, .fn f []), (7, .t (.sl nl (l.map tDe))), (8, .t (.int .i64 l.length)), (9, .t (.int .i64 i))] →
    (r.all p = true → ∀ fr' sg', Grow sg0 sg' → Q (.exit 0) ⟨fr', sg', ow⟩) →
    (r.all p = false → ∀ fr' sg', Grow sg0 sg' → fget fr' 4 = .t (.bool false) → Q .ret ⟨fr', sg', ow⟩) →
    Xl F gl lb97_0 ⟨fr, sg, ow⟩ Q ⟨⟩ := by
  intro r
  induction r with
  | nil =>
    intro i fr sg hd hg hf h1 h2
    have hd := drop_nil' hd
    simp only [FrAt_cons, FrAt_nil] at hf
    obtain ⟨f1, f7, f8, f9, -⟩ := hf
    refine Xl.step ?_
    simp only [lb97_0]
    have c1 : ¬ ((i : Int) < (l.length : Int)) := by omega
    simp only [wA, seval, reduceCtorEq, reduceIte, f1, f7, f8, f9, c1]
    exact h1 rfl _ _ hg
  | cons x r ih =>
    intro i fr sg hd hg hf h1 h2
    obtain ⟨hx, hr, hi⟩ := drop_cons hd
    simp only [FrAt_cons, FrAt_nil] at hf
    obtain ⟨f1, f7, f8, f9, -⟩ := hf
    refine Xl.step ?_
    simp only [lb97_0]
    have c1 : (i : Int) < (l.length : Int) := by omega
    have hw1 := i64_succ hi (show l.length ≤ 281474976710656 by have : B47 = 140737488355328 := rfl; omega)
    have hc := hp x (List.mem_of_getElem? hx)
    simp only [wA, seval, reduceCtorEq, reduceIte, f1, f7, f8, f9, c1, List.getElem?_map, hx, Int.toNat_natCast]
    refine CallE.mono (hc _ _) ?_
    rintro v sg' ow' ⟨rfl, hg', rfl⟩
    cases hq : p x with
    | true =>
      simp only [wA, seval, reduceCtorEq, reduceIte, f1, f7, f8, f9, hw1, hq]
      refine ih (i + 1) _ _ hr (hg.trans ((Grow.app _ _).trans hg')) (by simp only [FrAt_cons, FrAt_nil, wFr, Nat.reduceEqDiff, Nat.one_ne_zero, Nat.zero_ne_one, reduceIte, and_self, and_true, true_and, f1, f7, f8]) (fun h => h1 (by simpa [hq] using h)) (fun h => h2 (by simpa [hq] using h))
    | false =>
      simp only [wA, seval, reduceCtorEq, reduceIte, f1, f7, f8, f9, hq]
      exact h2 (by simp [hq]) _ _ (hg.trans ((Grow.app _ _).trans hg')) (by simp only [FrAt_cons, FrAt_nil, wFr, Nat.reduceEqDiff, Nat.one_ne_zero, Nat.zero_ne_one, reduceIte, and_self, and_true, true_and])
theorem ok97 {f : Nat} {p : De → Bool} {nl : Bool} {l : List De} (hl : l.length ≤ B47) (hp : ∀ x, x ∈ l → Says (gl := gl) f (.agg (tDe x)) (p x)) (sg : Sg) (ow : Ow) :
    CallE F gl 97 [.t (.sl nl (l.map tDe)), .fn f []] sg ow fun v sg' ow' => v = .t (.bool (l.all p)) ∧ Grow sg sg' ∧ ow' = ow := by
  refine XcE.of F97 rfl ?_
  simp only [ir97]
  simp only [wA, seval, reduceCtorEq, reduceIte, List.length_map]
  refine loop97 hl hp (sg0 := sg) _ l 0 _ _ rfl (Grow.refl _) (by simp only [FrAt_cons, FrAt_nil, wFr, Nat.reduceEqDiff, Nat.one_ne_zero, Nat.zero_ne_one, reduceIte, and_self, and_true, true_and]; exact rfl) ?_ ?_
  · intro h fr' sg' hg
    simp only [wA, seval, reduceCtorEq, reduceIte]
    exact ⟨by rw [h], hg⟩
  · intro h fr' sg' hg h4
    simp only [wA, seval, reduceCtorEq, reduceIte, h4]
    exact ⟨by rw [h], hg⟩
theorem loop99 {f : Nat} {p : St → Bool} {nl : Bool} {l : List St} (hl : l.length ≤ B47) (hp : ∀ x, x ∈ l → Says (gl := gl) f (.agg (tSt x)) (p x)) {sg0 : Sg} {ow : Ow} (Q : Ex → S → Prop) : ∀ (r : List St) (i : Nat) (fr : List PV) (sg : Sg), l.drop i = r → Grow sg0 sg →
    FrAt fr [(1, .fn f []), (7, .t (.sl nl (tSts l))), (8, .t (.int .i64 l.length)), (9, .t (.int .i64 i))] →
    (r.all p = true → ∀ fr' sg', Grow sg0 sg' → Q (.exit 0) ⟨fr', sg', ow⟩) →
    (r.all p = false → ∀ fr' sg', Grow sg0 sg' → fget fr' 4 = .t (.bool false) → Q .ret ⟨fr', sg', ow⟩) →
    Xl F gl lb99_0 ⟨fr, sg, ow⟩ Q ⟨⟩ := by
  intro r
  induction r with
  | nil =>
    intro i fr sg hd hg hf h1 h2
    have hd := drop_nil' hd
    simp only [FrAt_cons, FrAt_nil] at hf
    obtain ⟨f1, f7, f8, f9, -⟩ := hf
    refine Xl.step ?_
    simp only [lb99_0]
    have c1 : ¬ ((i : Int) < (l.length : Int)) := by omega
    simp only [wA, seval, reduceCtorEq, reduceIte, f1, f7, f8, f9, c1]
    exact h1 rfl _ _ hg
  | cons x r ih =>
    intro i fr sg hd hg hf h1 h2
    obtain ⟨hx, hr, hi⟩ := drop_cons hd
    simp only [FrAt_cons, FrAt_nil] at hf
    obtain ⟨f1, f7, f8, f9, -⟩ := hf
    refine Xl.step ?_
    simp only [lb99_0]
    have c1 : (i : Int) < (l.length : Int) := by omega
    have hw1 := i64_succ hi (show l.length ≤ 281474976710656 by have : B47 = 140737488355328 := rfl; omega)
    have hc := hp x (List.mem_of_getElem? hx)
    simp only [tSt_eq] at hc
    simp only [wA, seval, reduceCtorEq, reduceIte, f1, f7, f8, f9, c1, tSts_get, hx, tSt_eq, Int.toNat_natCast]
    refine CallE.mono (hc _ _) ?_
    rintro v sg' ow' ⟨rfl, hg', rfl⟩
    cases hq : p x with
    | true =>
      simp only [wA, seval, reduceCtorEq, reduceIte, f1, f7, f8, f9, hw1, hq]
      refine ih (i + 1) _ _ hr (hg.trans ((Grow.app _ _).trans hg')) (by simp only [FrAt_cons, FrAt_nil, wFr, Nat.reduceEqDiff, Nat.one_ne_zero, Nat.zero_ne_one, reduceIte, and_self, and_true, true_and, f1, f7, f8]) (fun h => h1 (by simpa [hq] using h)) (fun h => h2 (by simpa [hq] using h))
    | false =>
      simp only [wA, seval, reduceCtorEq, reduceIte, f1, f7, f8, f9, hq]
      exact h2 (by simp [hq]) _ _ (hg.trans ((Grow.app _ _).trans hg')) (by simp only [FrAt_cons, FrAt_nil, wFr, Nat.reduceEqDiff, Nat.one_ne_zero, Nat.zero_ne_one, reduceIte, and_self, and_true, true_and])
theorem ok99 {f : Nat} {p : St → Bool} {nl : Bool} {l : List St} (hl : l.length ≤ B47) (hp : ∀ x, x ∈ l → Says (gl := gl) f (.agg (tSt x)) (p x)) (sg : Sg) (ow : Ow) :
    CallE F gl 99 [.t (.sl nl (tSts l)), .fn f []] sg ow fun v sg' ow' => v = .t (.bool (l.all p)) ∧ Grow sg sg' ∧ ow' = ow := by
  refine XcE.of F99 rfl ?_
  simp only [ir99]
  simp only [wA, seval, reduceCtorEq, reduceIte, tSts_len]
  refine loop99 hl hp (sg0 := sg) _ l 0 _ _ rfl (Grow.refl _) (by simp only [FrAt_cons, FrAt_nil, wFr, Nat.reduceEqDiff, Nat.one_ne_zero, Nat.zero_ne_one, reduceIte, and_self, and_true, true_and]; exact rfl) ?_ ?_
  · intro h fr' sg' hg
    simp only [wA, seval, reduceCtorEq, reduceIte]
    exact ⟨by rw [h], hg⟩
  · intro h fr' sg' hg h4
    simp only [wA, seval, reduceCtorEq, reduceIte, h4]
    exact ⟨by rw [h], hg⟩
theorem loop140 {f : Nat} {p : Pa → Bool} {nl : Bool} {l : List Pa} (hl : l.length ≤ B47) (hp : ∀ x, x ∈ l → Says (gl := gl) f (.agg (tPa x)) (p x)) {sg0 : Sg} {ow : Ow} (Q : Ex → S → Prop) : ∀ (r : List Pa) (i : Nat) (fr : List PV) (sg : Sg), l.drop i = r → Grow sg0 sg →
    FrAt fr [(1, .fn f []), (7, .t (.sl nl (l.map tPa))), (8, .t (.int .i64 l.length)), (9, .t (.int .i64 i))] →
    (r.all p = true → ∀ fr' sg', Grow sg0 sg' → Q (.exit 0) ⟨fr', sg', ow⟩) →
    (r.all p = false → ∀ fr' sg', Grow sg0 sg' → fget fr' 4 = .t (.bool false) → Q .ret ⟨fr', sg', ow⟩) →
    Xl F gl lb140_0 ⟨fr, sg, ow⟩ Q ⟨⟩ := by
  intro r
  induction r with
  | nil =>
    intro i fr sg hd hg hf h1 h2
    have hd := drop_nil' hd
    simp only [FrAt_cons, FrAt_nil] at hf
    obtain ⟨f1, f7, f8, f9, -⟩ := hf
    refine Xl.step ?_
    simp only [lb140_0]
    have c1 : ¬ ((i : Int) < (l.length : Int)) := by omega
    simp only [wA, seval, reduceCtorEq, reduceIte, f1, f7, f8, f9, c1]
    exact h1 rfl _ _ hg
  | cons x r ih =>
    intro i fr sg hd hg hf h1 h2
    obtain ⟨hx, hr, hi⟩ := drop_cons hd
    simp only [FrAt_cons, FrAt_nil] at hf
    obtain ⟨f1, f7, f8, f9, -⟩ := hf
    refine Xl.step ?_
    simp only [lb140_0]
    have c1 : (i : Int) < (l.length : Int) := by omega
    have hw1 := i64_succ hi (show l.length ≤ 281474976710656 by have : B47 = 140737488355328 := rfl; omega)
    have hc := hp x (List.mem_of_getElem? hx)
    simp only [wA, seval, reduceCtorEq, reduceIte, f1, f7, f8, f9, c1, List.getElem?_map, hx, Int.toNat_natCast]
    refine CallE.mono (hc _ _) ?_
    rintro v sg' ow' ⟨rfl, hg', rfl⟩
    cases hq : p x with
    | true =>
      simp only [wA, seval, reduceCtorEq, reduceIte, f1, f7, f8, f9, hw1, hq]
      refine ih (i + 1) _ _ hr (hg.trans ((Grow.app _ _).trans hg')) (by simp only [FrAt_cons, FrAt_nil, wFr, Nat.reduceEqDiff, Nat.one_ne_zero, Nat.zero_ne_one, reduceIte, and_self, and_true, true_and, f1, f7, f8]) (fun h => h1 (by simpa [hq] using h)) (fun h => h2 (by simpa [hq] using h))
    | false =>
      simp only [wA, seval, reduceCtorEq, reduceIte, f1, f7, f8, f9, hq]
      exact h2 (by simp [hq]) _ _ (hg.trans ((Grow.app _ _).trans hg')) (by simp only [FrAt_cons, FrAt_nil, wFr, Nat.reduceEqDiff, Nat.one_ne_zero, Nat.zero_ne_one, reduceIte, and_self, and_true, true_and])
theorem ok140 {f : Nat} {p : Pa → Bool} {nl : Bool} {l : List Pa} (hl : l.length ≤ B47) (hp : ∀ x, x ∈ l → Says (gl := gl) f (.agg (tPa x)) (p x)) (sg : Sg) (ow : Ow) :
    CallE F gl 140 [.t (.sl nl (l.map tPa)), .fn f []] sg ow fun v sg' ow' => v = .t (.bool (l.all p)) ∧ Grow sg sg' ∧ ow' = ow := by
  refine XcE.of F140 rfl ?_
  simp only [ir140]
  simp only [wA, seval, reduceCtorEq, reduceIte, List.length_map]
  refine loop140 hl hp (sg0 := sg) _ l 0 _ _ rfl (Grow.refl _) (by simp only [FrAt_cons, FrAt_nil, wFr, Nat.reduceEqDiff, Nat.one_ne_zero, Nat.zero_ne_one, reduceIte, and_self, and_true, true_and]; exact rfl) ?_ ?_
  · intro h fr' sg' hg
    simp only [wA, seval, reduceCtorEq, reduceIte]
    exact ⟨by rw [h], hg⟩
  · intro h fr' sg' hg h4
    simp only [wA, seval, reduceCtorEq, reduceIte, h4]
    exact ⟨by rw [h], hg⟩
theorem loop183 {f : Nat} {p : Exp → Bool} {nl : Bool} {l : List Exp} (hl : l.length ≤ B47) (hp : ∀ x, x ∈ l → Says (gl := gl) f (.agg (tEx x)) (p x)) {sg0 : Sg} {ow : Ow} (Q : Ex → S → Prop) : ∀ (r : List Exp) (i : Nat) (fr : List PV) (sg : Sg), l.drop i = r → Grow sg0 sg →
    FrAt fr [(1, .fn f []), (7, .t (.sl nl (tExs l))), (8, .t (.int .i64 l.length)), (9, .t (.int .i64 i))] →
    (r.all p = true → ∀ fr' sg', Grow sg0 sg' → Q (.exit 0) ⟨fr', sg', ow⟩) →
    (r.all p = false → ∀ fr' sg', Grow sg0 sg' → fget fr' 4 = .t (.bool false) → Q .ret ⟨fr', sg', ow⟩) →
    Xl F gl lb183_0 ⟨fr, sg, ow⟩ Q ⟨⟩ := by
  intro r
  induction r with
  | nil =>
    intro i fr sg hd hg hf h1 h2
    have hd := drop_nil' hd
    simp only [FrAt_cons, FrAt_nil] at hf
    obtain ⟨f1, f7, f8, f9, -⟩ := hf
    refine Xl.step ?_
    simp only [lb183_0]
    have c1 : ¬ ((i : Int) < (l.length : Int)) := by omega
    simp only [wA, seval, reduceCtorEq, reduceIte, f1, f7, f8, f9, c1]
    exact h1 rfl _ _ hg
  | cons x r ih =>
    intro i fr sg hd hg hf h1 h2
    obtain ⟨hx, hr, hi⟩ := drop_cons hd
    simp only [FrAt_cons, FrAt_nil] at hf
    obtain ⟨f1, f7, f8, f9, -⟩ := hf
    refine Xl.step ?_
    simp only [lb183_0]
    have c1 : (i : Int) < (l.length : Int) := by omega
    have hw1 := i64_succ hi (show l.length ≤ 281474976710656 by have : B47 = 140737488355328 := rfl; omega)
    have hc := hp x (List.mem_of_getElem? hx)
    simp only [tEx_eq] at hc
    simp only [wA, seval, reduceCtorEq, reduceIte, f1, f7, f8, f9, c1, tExs_get, hx, tEx_eq, Int.toNat_natCast]
    refine CallE.mono (hc _ _) ?_
    rintro v sg' ow' ⟨rfl, hg', rfl⟩
    cases hq : p x with
    | true =>
      simp only [wA, seval, reduceCtorEq, reduceIte, f1, f7, f8, f9, hw1, hq]
      refine ih (i + 1) _ _ hr (hg.trans ((Grow.app _ _).trans hg')) (by simp only [FrAt_cons, FrAt_nil, wFr, Nat.reduceEqDiff, Nat.one_ne_zero, Nat.zero_ne_one, reduceIte, and_self, and_true, true_and, f1, f7, f8]) (fun h => h1 (by simpa [hq] using h)) (fun h => h2 (by simpa [hq] using h))
    | false =>
      simp only [wA, seval, reduceCtorEq, reduceIte, f1, f7, f8, f9, hq]
      exact h2 (by simp [hq]) _ _ (hg.trans ((Grow.app _ _).trans hg')) (by simp only [FrAt_cons, FrAt_nil, wFr, Nat.reduceEqDiff, Nat.one_ne_zero, Nat.zero_ne_one, reduceIte, and_self, and_true, true_and])
theorem ok183 {f : Nat} {p : Exp → Bool} {nl : Bool} {l : List Exp} (hl : l.length ≤ B47) (hp : ∀ x, x ∈ l → Says (gl := gl) f (.agg (tEx x)) (p x)) (sg : Sg) (ow : Ow) :
    CallE F gl 183 [.t (.sl nl (tExs l)), .fn f []] sg ow fun v sg' ow' => v = .t (.bool (l.all p)) ∧ Grow sg sg' ∧ ow' = ow := by
  refine XcE.of F183 rfl ?_
  simp only [ir183]
  simp only [wA, seval, reduceCtorEq, reduceIte, tExs_len]
  refine loop183 hl hp (sg0 := sg) _ l 0 _ _ rfl (Grow.refl _) (by simp only [FrAt_cons, FrAt_nil, wFr, Nat.reduceEqDiff, Nat.one_ne_zero, Nat.zero_ne_one, reduceIte, and_self, and_true, true_and]; exact rfl) ?_ ?_
  · intro h fr' sg' hg
    simp only [wA, seval, reduceCtorEq, reduceIte]
    exact ⟨by rw [h], hg⟩
  · intro h fr' sg' hg h4
    simp only [wA, seval, reduceCtorEq, reduceIte, h4]
    exact ⟨by rw [h], hg⟩
end Go.Proofs.YtdjcnfacjfnakaaGreat

/- Contracts: valid types, expressions, statements. -/
set_option maxRecDepth 10000
set_option linter.unusedVariables false
set_option linter.unusedSimpArgs false
namespace Go.Proofs.YtdjcnfacjfnakaaGreat
open Go.Pi Go.Lx Go.Ky
variable {gl : Nat → Option (List T)}

theorem Says.call {f : Nat} {x : T} {b : Bool} (h : Says (gl := gl) f x b) {K : PV → Prop} : XcP F gl f [x] K ⟨⟩ ↔ K (.t (.bool b)) := by
  refine CallP.iff ?_
  refine (h [] []).mono ?_
  rintro v sg ow ⟨rfl, _, _⟩
  rfl
theorem sy142 (t : Ty) : Says (gl := gl) 142 (.agg (tTy t)) (tyB t) := by
  intro sg ow
  refine XcE.of F142 rfl ?_
  simp only [ir142]
  simp only [wA, seval, reduceCtorEq, reduceIte]
  repeat' ((with_reducible first | refine xG_dec ?_ ?_ | refine xG_ndec ?_ ?_ | refine xG_nsplit ?_ ?_ | refine xG_split ?_ ?_ | refine xC_dec ?_ ?_ | refine xC_ndec ?_ ?_ | refine xC_nsplit ?_ ?_ | refine xC_split ?_ ?_) <;> intro h <;> (try simp only [wA, seval, reduceCtorEq, reduceIte, h]))
  all_goals (refine ⟨?_, Grow.app _ _⟩; simp only [PV.t.injEq, T.bool.injEq]; unfold tyB)
  all_goals simp_all
  all_goals omega
theorem sy144 (s : St) : Says (gl := gl) 144 (.agg (tSt s)) (untyped s) := by
  intro sg ow
  refine XcE.of F144 rfl ?_
  simp only [ir144, tSt_eq]
  simp only [wA, seval, reduceCtorEq, reduceIte]
  repeat' ((with_reducible first | refine xG_dec ?_ ?_ | refine xG_ndec ?_ ?_ | refine xG_nsplit ?_ ?_ | refine xG_split ?_ ?_ | refine xC_dec ?_ ?_ | refine xC_ndec ?_ ?_ | refine xC_nsplit ?_ ?_ | refine xC_split ?_ ?_) <;> intro h <;> (try simp only [wA, seval, reduceCtorEq, reduceIte, h]))
  all_goals (refine ⟨?_, Grow.app _ _⟩; simp only [PV.t.injEq, T.bool.injEq]; unfold untyped)
  all_goals simp_all [zTy, ty_beq]
  all_goals exact decide_eq_decide.2 Iff.rfl
theorem sy146 (n : Int) : Says (gl := gl) 146 (.int .i64 n) (loopN n) := by
  intro sg ow
  refine XcE.of F146 rfl ?_
  simp only [ir146]
  simp only [wA, seval, reduceCtorEq, reduceIte]
  repeat' ((with_reducible first | refine xG_dec ?_ ?_ | refine xG_ndec ?_ ?_ | refine xG_nsplit ?_ ?_ | refine xG_split ?_ ?_ | refine xC_dec ?_ ?_ | refine xC_ndec ?_ ?_ | refine xC_nsplit ?_ ?_ | refine xC_split ?_ ?_) <;> intro h <;> (try simp only [wA, seval, reduceCtorEq, reduceIte, h]))
  all_goals (refine ⟨?_, Grow.refl _⟩; simp only [PV.t.injEq, T.bool.injEq]; unfold loopN)
  all_goals simp_all
  all_goals omega
theorem sy145 (e : Exp) : Says (gl := gl) 145 (.agg (tEx e)) (emptyE e) := by
  intro sg ow
  refine XcE.of F145 rfl ?_
  simp only [ir145, tEx_eq]
  simp only [wA, seval, reduceCtorEq, reduceIte, tExs_len]
  repeat' ((with_reducible first | refine xG_dec ?_ ?_ | refine xG_ndec ?_ ?_ | refine xG_nsplit ?_ ?_ | refine xG_split ?_ ?_ | refine xC_dec ?_ ?_ | refine xC_ndec ?_ ?_ | refine xC_nsplit ?_ ?_ | refine xC_split ?_ ?_) <;> intro h <;> (try simp only [wA, seval, reduceCtorEq, reduceIte, tExs_len, h]))
  all_goals (refine ⟨?_, Grow.app _ _⟩; simp only [PV.t.injEq, T.bool.injEq]; unfold emptyE)
  all_goals simp_all
theorem sy141 (p : Pa) (h : PaOk p) : Says (gl := gl) 141 (.agg (tPa p)) (paB p) := by
  intro sg ow
  have hn := @ok139 gl p.name (by have := h.1; have : B47 = 140737488355328 := rfl; omega)
  refine XcE.of F141 rfl ?_
  simp only [ir141]
  simp only [wA, seval, reduceCtorEq, reduceIte, hn, (sy142 p.ty).call]
  repeat' ((with_reducible first | refine xG_dec ?_ ?_ | refine xG_ndec ?_ ?_ | refine xG_nsplit ?_ ?_ | refine xG_split ?_ ?_ | refine xC_dec ?_ ?_ | refine xC_ndec ?_ ?_ | refine xC_nsplit ?_ ?_ | refine xC_split ?_ ?_) <;> intro h <;> (try simp only [wA, seval, reduceCtorEq, reduceIte, hn, (sy142 p.ty).call, h]))
  all_goals (refine ⟨?_, Grow.app _ _⟩; simp only [PV.t.injEq, T.bool.injEq]; unfold paB)
  all_goals simp_all
theorem sy98 (p : De) (h : DeOk p) : Says (gl := gl) 98 (.agg (tDe p)) (deB p) := by
  intro sg ow
  have hn := @ok139 gl p.name (by have := h.1; have : B47 = 140737488355328 := rfl; omega)
  refine XcE.of F98 rfl ?_
  simp only [ir98]
  simp only [wA, seval, reduceCtorEq, reduceIte, hn, (sy142 p.ty).call]
  repeat' ((with_reducible first | refine xG_dec ?_ ?_ | refine xG_ndec ?_ ?_ | refine xG_nsplit ?_ ?_ | refine xG_split ?_ ?_ | refine xC_dec ?_ ?_ | refine xC_ndec ?_ ?_ | refine xC_nsplit ?_ ?_ | refine xC_split ?_ ?_) <;> intro h <;> (try simp only [wA, seval, reduceCtorEq, reduceIte, hn, (sy142 p.ty).call, h]))
  all_goals (refine ⟨?_, Grow.app _ _⟩; simp only [PV.t.injEq, T.bool.injEq]; unfold deB)
  all_goals simp_all
end Go.Proofs.YtdjcnfacjfnakaaGreat

/- Contracts: valid expressions, statements, functions; depths. -/
set_option maxRecDepth 10000
set_option linter.unusedVariables false
set_option linter.unusedSimpArgs false
namespace Go.Proofs.YtdjcnfacjfnakaaGreat
open Go.Pi Go.Lx Go.Ky
variable {gl : Nat → Option (List T)}

set_option maxHeartbeats 1000000 in
theorem sy143 : ∀ e : Exp, ExpOk e → Says (gl := gl) 143 (.agg (tEx e)) (exB e) := by
  refine Exp.ind fun e ih ho sg ow => ?_
  cases ho with | mk _ h1 h2 h3 h4 h5 h =>
  have hn := @ok139 gl e.name (by have : B47 = 140737488355328 := rfl; omega)
  refine XcE.of F143 rfl ?_
  simp only [ir143, tEx_eq]
  simp only [wA, seval, reduceCtorEq, reduceIte]
  refine CallE.mono (ok183 h4 (fun x hx => ih x hx (h x hx)) _ _) ?_
  rintro v sg' ow' ⟨rfl, ⟨r, rfl⟩, rfl⟩
  have hle : (1 ≤ (e.args.length : Int)) ↔ (0 < e.args.length) := by omega
  rw [exB_eq]
  unfold opB
  cases hall : e.args.all exB with
  | false =>
    simp only [wA, seval, reduceCtorEq, reduceIte, hall]
    exact ⟨by simp, Grow.app _ _⟩
  | true =>
    simp only [wA, seval, reduceCtorEq, reduceIte, hall, tExs_len, hn]
    repeat' ((with_reducible first | refine xG_dec ?_ ?_ | refine xG_ndec ?_ ?_ | refine xG_nsplit ?_ ?_ | refine xG_split ?_ ?_ | refine xC_dec ?_ ?_ | refine xC_ndec ?_ ?_ | refine xC_nsplit ?_ ?_ | refine xC_split ?_ ?_) <;> intro h <;> (try simp only [wA, seval, reduceCtorEq, reduceIte, hall, tExs_len, hn, h]))
    all_goals (refine ⟨?_, Grow.app _ _⟩; simp only [PV.t.injEq, T.bool.injEq, Bool.true_and])
    all_goals simp_all
end Go.Proofs.YtdjcnfacjfnakaaGreat

/- Contracts: valid statements, functions; depths; Valid. -/
set_option maxRecDepth 10000
set_option linter.unusedVariables false
set_option linter.unusedSimpArgs false
namespace Go.Proofs.YtdjcnfacjfnakaaGreat
open Go.Pi Go.Lx Go.Ky
variable {gl : Nat → Option (List T)}

set_option maxHeartbeats 1000000 in
theorem sy100 : ∀ s : St, StOk s → Says (gl := gl) 100 (.agg (tSt s)) (stB s) := by
  refine St.ind fun s ih ho sg ow => ?_
  cases ho with | mk _ h1 h2 h3 h4 h5 h6 h7 h8 h =>
  have hn := @ok139 gl s.name (by have : B47 = 140737488355328 := rfl; omega)
  have hE := fun K => (sy143 (gl := gl) s.ex h4).call (K := K)
  have hM := fun K => (sy145 (gl := gl) s.ex).call (K := K)
  have hU := fun K => (sy144 (gl := gl) s).call (K := K)
  have hL := fun n K => (sy146 (gl := gl) n).call (K := K)
  have hT := fun K => (sy142 (gl := gl) s.ty).call (K := K)
  have hev := fun sg' => CallE.mono (K' := fun v sg2 ow2 => v = .t (.bool (s.body.all stB)) ∧ Grow sg' sg2 ∧ ow2 = ow) (ok99 (gl := gl) (nl := s.nl) h7 (fun x hx => ih x hx (h x hx)) sg' ow) (fun _ _ _ h => h)
  refine XcE.of F100 rfl ?_
  rw [stB_eq]
  simp only [tEx_eq] at hE hM
  simp only [tSt_eq] at hU
  simp only [ir100, tSt_eq]
  by_cases k1 : s.kind = 1
  · simp only [k1] at hU ⊢
    simp only [wA, seval, reduceCtorEq, reduceIte, hn, hE, hM, hU, hL, hT, tSts_len, ty_beq]
    repeat' ((with_reducible first | refine xG_dec ?_ ?_ | refine xG_ndec ?_ ?_ | refine xG_nsplit ?_ ?_ | refine xG_split ?_ ?_ | refine xC_dec ?_ ?_ | refine xC_ndec ?_ ?_ | refine xC_nsplit ?_ ?_ | refine xC_split ?_ ?_) <;> intro h <;> (try simp only [wA, seval, reduceCtorEq, reduceIte, hn, hE, hM, hU, hL, hT, tSts_len, ty_beq, h]))
    all_goals (refine ⟨?_, Grow.app _ _⟩; simp only [PV.t.injEq, T.bool.injEq])
    all_goals simp_all [zTy]
  · by_cases k2 : s.kind = 2
    · simp only [k2] at hU ⊢
      simp only [wA, seval, reduceCtorEq, reduceIte, hn, hE, hM, hU, hL, hT, tSts_len, ty_beq]
      repeat' ((with_reducible first | refine xG_dec ?_ ?_ | refine xG_ndec ?_ ?_ | refine xG_nsplit ?_ ?_ | refine xG_split ?_ ?_ | refine xC_dec ?_ ?_ | refine xC_ndec ?_ ?_ | refine xC_nsplit ?_ ?_ | refine xC_split ?_ ?_) <;> intro h <;> (try simp only [wA, seval, reduceCtorEq, reduceIte, hn, hE, hM, hU, hL, hT, tSts_len, ty_beq, h]))
      all_goals (refine ⟨?_, Grow.app _ _⟩; simp only [PV.t.injEq, T.bool.injEq])
      all_goals simp_all [zTy]
    · by_cases k3 : s.kind = 3
      · simp only [k3] at hU ⊢
        simp only [wA, seval, reduceCtorEq, reduceIte, hn, hE, hM, hU, hL, hT, tSts_len, ty_beq]
        repeat' ((with_reducible first | refine xG_dec ?_ ?_ | refine xG_ndec ?_ ?_ | refine xG_nsplit ?_ ?_ | refine xG_split ?_ ?_ | refine xC_dec ?_ ?_ | refine xC_ndec ?_ ?_ | refine xC_nsplit ?_ ?_ | refine xC_split ?_ ?_) <;> intro h <;> (try simp only [wA, seval, reduceCtorEq, reduceIte, hn, hE, hM, hU, hL, hT, tSts_len, ty_beq, h]))
        any_goals (refine CallE.mono (hev _) ?_; rintro v sg' ow' ⟨rfl, ⟨r, rfl⟩, rfl⟩; ((simp only [wA, seval, reduceCtorEq, reduceIte]); (repeat' ((with_reducible first | refine xG_dec ?_ ?_ | refine xG_ndec ?_ ?_ | refine xG_nsplit ?_ ?_ | refine xG_split ?_ ?_ | refine xC_dec ?_ ?_ | refine xC_ndec ?_ ?_ | refine xC_nsplit ?_ ?_ | refine xC_split ?_ ?_) <;> intro h <;> (try simp only [wA, seval, reduceCtorEq, reduceIte, h])))))
        all_goals (refine ⟨?_, Grow.app _ _⟩; simp only [PV.t.injEq, T.bool.injEq])
        all_goals simp_all [zTy]
      · simp only [wA, seval, reduceCtorEq, reduceIte, hn, hE, hM, hU, hL, hT, tSts_len, ty_beq, k1, k2, k3]
        repeat' ((with_reducible first | refine xG_dec ?_ ?_ | refine xG_ndec ?_ ?_ | refine xG_nsplit ?_ ?_ | refine xG_split ?_ ?_ | refine xC_dec ?_ ?_ | refine xC_ndec ?_ ?_ | refine xC_nsplit ?_ ?_ | refine xC_split ?_ ?_) <;> intro h <;> (try simp only [wA, seval, reduceCtorEq, reduceIte, hn, hE, hM, hU, hL, hT, tSts_len, ty_beq, k1, k2, k3, h]))
        all_goals exact Grow.app _ _
theorem sy96 (f : Fu) (ho : FuOk f) : Says (gl := gl) 96 (.agg (tFu f)) (fuB f) := by
  intro sg ow
  have hn := @ok139 gl f.name (by have := ho.name; have : B47 = 140737488355328 := rfl; omega)
  have hE := fun K => (sy143 (gl := gl) f.ret ho.ret).call (K := K)
  have hT := fun K => (sy142 (gl := gl) f.res).call (K := K)
  have hp := fun sg' => ok140 (gl := gl) (nl := f.pnl) ho.pl (fun x hx => sy141 x (ho.pa x hx)) sg' ow
  have hb := fun sg' => ok99 (gl := gl) (nl := f.bnl) ho.bl (fun x hx => sy100 x (ho.bo x hx)) sg' ow
  refine XcE.of F96 rfl ?_
  simp only [tEx_eq] at hE
  simp only [ir96]
  unfold fuB
  simp only [wA, seval, reduceCtorEq, reduceIte, hn, hE, hT]
  repeat' ((with_reducible first | refine xG_dec ?_ ?_ | refine xG_ndec ?_ ?_ | refine xG_nsplit ?_ ?_ | refine xG_split ?_ ?_ | refine xC_dec ?_ ?_ | refine xC_ndec ?_ ?_ | refine xC_nsplit ?_ ?_ | refine xC_split ?_ ?_) <;> intro h <;> (try simp only [wA, seval, reduceCtorEq, reduceIte, hn, hE, hT, h]))
  any_goals (refine CallE.mono (hp _) ?_; rintro v sg' ow' ⟨rfl, ⟨r, rfl⟩, rfl⟩; ((simp only [wA, seval, reduceCtorEq, reduceIte, hn, hE, hT]); (repeat' ((with_reducible first | refine xG_dec ?_ ?_ | refine xG_ndec ?_ ?_ | refine xG_nsplit ?_ ?_ | refine xG_split ?_ ?_ | refine xC_dec ?_ ?_ | refine xC_ndec ?_ ?_ | refine xC_nsplit ?_ ?_ | refine xC_split ?_ ?_) <;> intro h <;> (try simp only [wA, seval, reduceCtorEq, reduceIte, hn, hE, hT, h])))))
  any_goals (refine CallE.mono (hb _) ?_; rintro v sg' ow' ⟨rfl, ⟨r2, rfl⟩, rfl⟩; ((simp only [wA, seval, reduceCtorEq, reduceIte, hn, hE, hT]); (repeat' ((with_reducible first | refine xG_dec ?_ ?_ | refine xG_ndec ?_ ?_ | refine xG_nsplit ?_ ?_ | refine xG_split ?_ ?_ | refine xC_dec ?_ ?_ | refine xC_ndec ?_ ?_ | refine xC_nsplit ?_ ?_ | refine xC_split ?_ ?_) <;> intro h <;> (try simp only [wA, seval, reduceCtorEq, reduceIte, hn, hE, hT, h])))))
  all_goals (refine ⟨?_, by first | exact Grow.app _ _ | (simp only [List.append_assoc, List.cons_append]; exact Grow.app _ _)⟩; simp only [PV.t.injEq, T.bool.injEq])
  all_goals simp_all

/-! ### Depths -/
theorem imax_nat (a b : Nat) : (if (b : Int) > (a : Int) then (b : Int) else (a : Int)) = ((max a b : Nat) : Int) := by
  split <;> omega
theorem loop184 {l : List Exp} {nl : Bool} (hs : szEs l ≤ B20) (hd : ∀ x, x ∈ l → ∀ K, XcP F gl 184 [.agg (tEx x)] K ⟨⟩ ↔ K (.t (.int .i64 (dEx x : Nat)))) {ow : Ow} (Q : Ex → S → Prop) : ∀ (r : List Exp) (i acc : Nat) (fr : List PV) (sg : Sg), l.drop i = r →
    FrAt fr [(3, .t (.int .i64 (acc : Nat))), (7, .t (.sl nl (tExs l))), (8, .t (.int .i64 l.length)), (9, .t (.int .i64 i))] →
    (∀ fr' sg', fget fr' 3 = .t (.int .i64 ((max acc (dExs r) : Nat) : Int)) → Q (.exit 0) ⟨fr', sg', ow⟩) →
    Xl F gl lb184_0 ⟨fr, sg, ow⟩ Q ⟨⟩ := by
  intro r
  induction r with
  | nil =>
    intro i acc fr sg hdr hf h1
    have hdr := drop_nil' hdr
    simp only [FrAt_cons, FrAt_nil] at hf
    obtain ⟨f3, f7, f8, f9, -⟩ := hf
    refine Xl.step ?_
    simp only [lb184_0]
    have c1 : ¬ ((i : Int) < (l.length : Int)) := by omega
    simp only [wA, seval, reduceCtorEq, reduceIte, f3, f7, f8, f9, c1]
    refine h1 _ _ ?_
    simp only [FrAt_cons, FrAt_nil, wFr, Nat.reduceEqDiff, Nat.one_ne_zero, Nat.zero_ne_one, reduceIte, and_self, and_true, true_and, f3, dExs, Nat.max_zero]
  | cons x r ih =>
    intro i acc fr sg hdr hf h1
    obtain ⟨hx, hr, hi⟩ := drop_cons hdr
    simp only [FrAt_cons, FrAt_nil] at hf
    obtain ⟨f3, f7, f8, f9, -⟩ := hf
    refine Xl.step ?_
    simp only [lb184_0]
    have c1 : (i : Int) < (l.length : Int) := by omega
    have hll := szEs_len l
    have hw1 := i64_succ hi (show l.length ≤ 281474976710656 by have : B20 = 1100000 := rfl; omega)
    have hc := hd x (List.mem_of_getElem? hx)
    simp only [tEx_eq] at hc
    simp only [wA, seval, reduceCtorEq, reduceIte, f3, f7, f8, f9, c1, hw1, tExs_get, hx, tEx_eq, Int.toNat_natCast, hc, mxT, imax_nat]
    refine ih (i + 1) (max acc (dEx x)) _ _ hr (by simp only [FrAt_cons, FrAt_nil, wFr, Nat.reduceEqDiff, Nat.one_ne_zero, Nat.zero_ne_one, reduceIte, and_self, and_true, true_and, f7, f8]) fun fr' sg' h => h1 fr' sg' ?_
    rw [h, dExs, Nat.max_assoc]
theorem ok184 : ∀ e : Exp, szE e ≤ B20 → ∀ K, XcP F gl 184 [.agg (tEx e)] K ⟨⟩ ↔ K (.t (.int .i64 (dEx e : Nat))) := by
  refine Exp.ind fun e ih hs K => ?_
  refine Ret.iff (Ret.of F184 rfl ?_)
  have hse := szE_eq e
  have hdl := dEx_le e
  have hsl : szEs e.args ≤ B20 := by omega
  simp only [ir184, tEx_eq]
  simp only [wA, seval, reduceCtorEq, reduceIte, tExs_len]
  refine loop184 hsl (fun x hx => ih x hx (Nat.le_trans (szEs_mem hx) hsl)) _ e.args 0 0 _ _ rfl (by simp only [FrAt_cons, FrAt_nil, wFr, Nat.reduceEqDiff, Nat.one_ne_zero, Nat.zero_ne_one, reduceIte, and_self, and_true, true_and]; first | done | exact ⟨rfl, rfl⟩ | exact rfl) fun fr' sg' h => ?_
  have hw : IntKind.wrap .i64 (((max 0 (dExs e.args) : Nat) : Int) + 1) = ((dEx e : Nat) : Int) := by
    have := dEx_eq e
    rw [IntWalk.i64_in _ (by have : B20 = 1100000 := rfl; omega)]
    omega
  simp only [wA, seval, reduceCtorEq, reduceIte, h, hw]
end Go.Proofs.YtdjcnfacjfnakaaGreat
