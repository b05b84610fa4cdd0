/- Plain: the quadratic extension of the big prime, and its powers. No program in sight. -/
import Derived.Lib.ItoaNum
namespace Go.Pi
abbrev E2 := Int × Int
def Pb : Int := 18446744069414584321
def em (a b : E2) : E2 := ((a.1 * b.1 + 7 * (a.2 * b.2)) % Pb, (a.1 * b.2 + a.2 * b.1) % Pb)
def redE (a : E2) : Prop := 0 ≤ a.1 ∧ a.1 < Pb ∧ 0 ≤ a.2 ∧ a.2 < Pb
theorem Pb_pos : (0 : Int) < Pb := by decide
theorem em_red (a b : E2) : redE (em a b) :=
  ⟨Int.emod_nonneg _ (by decide), Int.emod_lt_of_pos _ Pb_pos, Int.emod_nonneg _ (by decide), Int.emod_lt_of_pos _ Pb_pos⟩
theorem em_comm (a b : E2) : em a b = em b a := by
  have h1 : a.1 * b.1 + 7 * (a.2 * b.2) = b.1 * a.1 + 7 * (b.2 * a.2) := by grind
  have h2 : a.1 * b.2 + a.2 * b.1 = b.1 * a.2 + b.2 * a.1 := by grind
  simp only [em, h1, h2]
theorem mod_same {a b P : Int} (k : Int) (h : a = b + P * k) : a % P = b % P := by rw [h, Int.add_mul_emod_self_left]
theorem mod_ex (x P : Int) : ∃ k, x % P = x + P * k := ⟨-(x / P), by have := Int.emod_add_mul_ediv x P; grind⟩
theorem em_assoc (a b c : E2) : em (em a b) c = em a (em b c) := by
  obtain ⟨a1, a2⟩ := a
  obtain ⟨b1, b2⟩ := b
  obtain ⟨c1, c2⟩ := c
  simp only [em]
  obtain ⟨k1, h1⟩ := mod_ex (a1 * b1 + 7 * (a2 * b2)) Pb
  obtain ⟨k2, h2⟩ := mod_ex (a1 * b2 + a2 * b1) Pb
  obtain ⟨k3, h3⟩ := mod_ex (b1 * c1 + 7 * (b2 * c2)) Pb
  obtain ⟨k4, h4⟩ := mod_ex (b1 * c2 + b2 * c1) Pb
  rw [h1, h2, h3, h4]
  refine Prod.ext ?_ ?_
  · exact mod_same (k1 * c1 + 7 * (k2 * c2) - a1 * k3 - 7 * (a2 * k4)) (by grind)
  · exact mod_same (k1 * c2 + k2 * c1 - a1 * k4 - a2 * k3) (by grind)
theorem em_one {a : E2} (h : redE a) : em a (1, 0) = a := by
  obtain ⟨h1, h2, h3, h4⟩ := h
  simp only [em, Int.mul_one, Int.mul_zero, Int.add_zero, Int.zero_add]
  rw [Int.emod_eq_of_lt h1 h2, Int.emod_eq_of_lt h3 h4]
def enp (a : E2) : Nat → E2
  | 0 => (1, 0)
  | n + 1 => em (enp a n) a
theorem one_red : redE (1, 0) := by unfold redE Pb; decide
theorem enp_red (a : E2) (n : Nat) : redE (enp a n) := by
  cases n with
  | zero => exact one_red
  | succ n => exact em_red _ _
theorem enp_add (a : E2) (m : Nat) : ∀ n, enp a (m + n) = em (enp a m) (enp a n) := by
  intro n
  induction n with
  | zero => exact (em_one (enp_red a m)).symm
  | succ n ih =>
    show em (enp a (m + n)) a = em (enp a m) (em (enp a n) a)
    rw [ih, em_assoc]
theorem enp_em (a b : E2) : ∀ n, enp (em a b) n = em (enp a n) (enp b n) := by
  intro n
  induction n with
  | zero => exact (em_one one_red).symm
  | succ n ih =>
    show em (enp (em a b) n) (em a b) = em (em (enp a n) a) (em (enp b n) b)
    rw [ih, em_assoc, em_assoc, ← em_assoc (enp b n) a b, em_comm (enp b n) a, em_assoc a (enp b n) b]
theorem enp_mul (a : E2) (m : Nat) : ∀ n, enp (enp a m) n = enp a (m * n) := by
  intro n
  induction n with
  | zero => rfl
  | succ n ih =>
    show em (enp (enp a m) n) (enp a m) = enp a (m * n + m)
    rw [ih, enp_add]
theorem enp_swap (a : E2) (m n : Nat) : enp (enp a m) n = enp (enp a n) m := by rw [enp_mul, enp_mul, Nat.mul_comm]
theorem enp_sq (a : E2) : ∀ n, enp (em a a) n = enp a (2 * n) := by
  intro n
  induction n with
  | zero => rfl
  | succ n ih =>
    show em (enp (em a a) n) (em a a) = em (em (enp a (2 * n)) a) a
    rw [ih, em_assoc]
/-- The step of the loop from the right: an odd exponent. -/
theorem pow_odd (r a : E2) (k : Nat) : em (em r a) (enp (em a a) k) = em r (enp a (2 * k + 1)) := by
  show _ = em r (em (enp a (2 * k)) a)
  rw [em_assoc, enp_sq, em_comm a]
theorem pow_even (r a : E2) (k : Nat) : em r (enp (em a a) k) = em r (enp a (2 * k)) := by rw [enp_sq]
/-- The steps of the loop from the left. -/
theorem pow_dbl (a : E2) (q : Nat) : em (enp a q) (enp a q) = enp a (2 * q) := by rw [Nat.two_mul, enp_add]
theorem pow_dbl1 (a : E2) (q : Nat) : em (em (enp a q) (enp a q)) a = enp a (2 * q + 1) := by rw [pow_dbl]; rfl
theorem enp_one : ∀ n, enp (1, 0) n = (1, 0) := by
  intro n
  induction n with
  | zero => rfl
  | succ n ih => show em (enp (1, 0) n) (1, 0) = _; rw [ih]; decide
/-- No power of the base point is zero. -/
theorem base_ne (n : Nat) : enp (2, 1) n ≠ (0, 0) := by
  intro h
  have h1 := enp_em (2, 1) (12297829379609722880, 12297829379609722881) n
  have h2 : em (2, 1) (12297829379609722880, 12297829379609722881) = (1, 0) := by decide
  rw [h2, enp_one, h] at h1
  simp [em] at h1
/-- What the code computes for a product. -/
theorem em_code (a b : E2) : ((a.1 * b.1 % Pb + 7 * (a.2 * b.2 % Pb) % Pb) % Pb, (a.1 * b.2 % Pb + a.2 * b.1 % Pb) % Pb) = em a b := by
  obtain ⟨k1, h1⟩ := mod_ex (a.2 * b.2) Pb
  refine Prod.ext ?_ ?_
  · show (a.1 * b.1 % Pb + 7 * (a.2 * b.2 % Pb) % Pb) % Pb = (a.1 * b.1 + 7 * (a.2 * b.2)) % Pb
    rw [← Int.add_emod, h1]
    exact mod_same (7 * k1) (by grind)
  · show (a.1 * b.2 % Pb + a.2 * b.1 % Pb) % Pb = (a.1 * b.2 + a.2 * b.1) % Pb
    rw [← Int.add_emod]
end Go.Pi
