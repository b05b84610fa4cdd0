/- LX 3: what the code reckons, in plain words: values, symbols, lists of names. No program in sight. -/
import Derived.Test.YtamkdkieffgpiaaDoorLx2
import Derived.Lib.Index
namespace Go.Lx

/-! ### Values of digits -/
def numF (n : Nat) (l : List UInt8) : Nat := l.foldl (fun n c => 10 * n + (c.toNat - 48)) n
theorem numF_zero (l : List UInt8) : numF 0 l = numV l := by simp only [numF, numV]
theorem numF_cons (n : Nat) (c : UInt8) (l : List UInt8) : numF n (c :: l) = numF (10 * n + (c.toNat - 48)) l := by simp only [numF, List.foldl_cons]
theorem numF_nil (n : Nat) : numF n [] = n := rfl
theorem numF_ge : ∀ (l : List UInt8) (n : Nat), n ≤ numF n l := by
  intro l
  induction l with
  | nil => intro n; exact Nat.le_refl _
  | cons c l ih => intro n; rw [numF_cons]; have := ih (10 * n + (c.toNat - 48)); omega
theorem numF_mono : ∀ (l : List UInt8) (n m : Nat), n ≤ m → numF n l ≤ numF m l := by
  intro l
  induction l with
  | nil => intro n m h; exact h
  | cons c l ih => intro n m h; rw [numF_cons, numF_cons]; exact ih _ _ (by omega)
theorem dig_le {c : UInt8} (h : isDig c = true) : 48 ≤ c.toNat ∧ c.toNat ≤ 57 := by
  simp only [isDig, Bool.and_eq_true, decide_eq_true_eq, UInt8.le_iff_toNat_le] at h
  exact h

/-! ### Symbols -/
/-- The first of a list that a text begins with: its length. -/
def symF : List (List UInt8) → List UInt8 → Nat
  | [], _ => 0
  | x :: l, s => if x.length ≤ s.length ∧ s.take x.length = x then x.length else symF l s
def syms : List (List UInt8) := [[46, 46], [61, 61], [33, 61], [60, 61], [40], [41], [123], [125], [91], [93], [44], [59], [58], [63], [61], [60], [43], [45], [42]]
theorem symF_one {x c : UInt8} {r : List UInt8} {l : List (List UInt8)} : symF ([x] :: l) (c :: r) = if c = x then 1 else symF l (c :: r) := by
  simp only [symF, List.length_cons, List.length_nil, List.take_succ_cons, List.take_zero, List.cons.injEq, and_true]
  by_cases h : c = x
  · simp [h]
  · simp [h]
theorem symF_two {x y c : UInt8} {r : List UInt8} {l : List (List UInt8)} : symF ([x, y] :: l) (c :: r) = if c = x ∧ r.head? = some y then 2 else symF l (c :: r) := by
  cases r with
  | nil => simp [symF]
  | cons d r => simp [symF]
theorem symF_ones {c : UInt8} {r : List UInt8} : ∀ (l : List UInt8), symF (l.map fun x => [x]) (c :: r) = if l.contains c then 1 else 0 := by
  intro l
  induction l with
  | nil => rfl
  | cons x l ih =>
    rw [List.map_cons, symF_one, ih, List.contains_cons]
    by_cases h : c = x
    · simp [h]
    · have : (c == x) = false := by simpa using h
      simp [h, this]
theorem symF_syms (c : UInt8) (r : List UInt8) : symF syms (c :: r) = if pairH c r then 2 else if isSing c then 1 else 0 := by
  have e : syms = [46, 46] :: [61, 61] :: [33, 61] :: [60, 61] :: singles.map fun x => [x] := rfl
  rw [e, symF_two, symF_two, symF_two, symF_two, symF_ones]
  cases r with
  | nil => simp [pairH, isSing]
  | cons d r =>
    simp only [List.head?_cons, Option.some.injEq, pairH, isPair, Bool.or_eq_true, Bool.and_eq_true, beq_iff_eq, isSing]
    by_cases h1 : c = 46 ∧ d = 46
    · simp [h1]
    · by_cases h2 : c = 61 ∧ d = 61
      · simp [h2]
      · by_cases h3 : c = 33 ∧ d = 61
        · simp [h3]
        · by_cases h4 : c = 60 ∧ d = 61
          · simp [h4]
          · simp [h1, h2, h3, h4]
def pairsS : List UInt8 := [32, 46, 46, 32, 61, 61, 32, 33, 61, 32, 60, 61, 32]
theorem index_pairs (a b : UInt8) : (decide (0 ≤ Lib.index pairsS [32, a, b, 32])) = isPair a b := by
  simp only [pairsS, Lib.index, List.isPrefixOf, List.isEmpty_cons, isPair]
  have f1 : ((32 : UInt8) == 32) = true := rfl
  have f2 : ((32 : UInt8) == 46) = false := rfl
  have f3 : ((32 : UInt8) == 61) = false := rfl
  have f4 : ((32 : UInt8) == 33) = false := rfl
  have f5 : ((32 : UInt8) == 60) = false := rfl
  simp only [f1, f2, f3, f4, f5, Bool.true_and, Bool.and_true, Bool.and_false, Bool.false_eq_true, if_false]
  by_cases h1 : a = 46 ∧ b = 46
  · obtain ⟨rfl, rfl⟩ := h1; decide
  · by_cases h2 : a = 61 ∧ b = 61
    · obtain ⟨rfl, rfl⟩ := h2; decide
    · by_cases h3 : a = 33 ∧ b = 61
      · obtain ⟨rfl, rfl⟩ := h3; decide
      · by_cases h4 : a = 60 ∧ b = 61
        · obtain ⟨rfl, rfl⟩ := h4; decide
        · have g1 : (a == 46 && b == 46) = false := by simpa using h1
          have g2 : (a == 61 && b == 61) = false := by simpa using h2
          have g3 : (a == 33 && b == 61) = false := by simpa using h3
          have g4 : (a == 60 && b == 61) = false := by simpa using h4
          simp only [g1, g2, g3, g4, Bool.or_self, Bool.false_eq_true, if_false]
          decide
theorem index_singles (c : UInt8) : (decide (0 ≤ Lib.indexByte singles c)) = isSing c := by
  have key : ∀ l : List UInt8, decide (0 ≤ Lib.indexByte l c) = l.contains c := by
    intro l
    induction l with
    | nil => rfl
    | cons b l ih =>
      have hg := Lib.indexByte_ge l c
      rw [List.contains_cons, ← ih, Lib.indexByte]
      by_cases h : b = c
      · subst h; simp
      · have h1 : (b == c) = false := by simpa using h
        have h2 : (c == b) = false := by simpa using fun e : c = b => h e.symm
        rw [h1, h2]
        simp only [Bool.false_eq_true, if_false, Bool.false_or, beq_iff_eq]
        split
        · rename_i e; rw [e]
        · congr 1; apply propext; omega
  exact key singles
end Go.Lx
