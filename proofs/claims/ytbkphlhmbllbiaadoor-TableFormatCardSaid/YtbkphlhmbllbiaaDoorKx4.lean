/- Plain: the quadratic extension of the big prime, and its powers. No program in sight. -/
import Derived.Lib.ItoaNum
import Derived.Lib.Split
import Derived.Lib.IndexBytes
import Derived.Lib.ParseIntB
import Derived.Lib.Join
import Derived.Lib.SplitLaws
namespace Go.Pi
abbrev E2 := Int × Int
def Pb : Int := 18446744069414584321
def em (a b : E2) : E2 := ((a.1 * b.1 + 7 * (a.2 * b.2)) % Pb, (a.1 * b.2 + a.2 * b.1) % Pb)
def redE (a : E2) : Prop := 0 ≤ a.1 ∧ a.1 < Pb ∧ 0 ≤ a.2 ∧ a.2 < Pb
theorem Pb_pos : (0 : Int) < Pb := by decide
theorem em_red (a b : E2) : redE (em a b) :=
  ⟨Int.emod_nonneg _ (by decide), Int.emod_lt_of_pos _ Pb_pos, Int.emod_nonneg _ (by decide), Int.emod_lt_of_pos _ Pb_pos⟩
theorem em_comm (a b : E2) : em a b = em b a := by
  have h1 : a.1 * b.1 + 7 * (a.2 * b.2) = b.1 * a.1 + 7 * (b.2 * a.2) := by grind
  have h2 : a.1 * b.2 + a.2 * b.1 = b.1 * a.2 + b.2 * a.1 := by grind
  simp only [em, h1, h2]
theorem mod_same {a b P : Int} (k : Int) (h : a = b + P * k) : a % P = b % P := by rw [h, Int.add_mul_emod_self_left]
theorem mod_ex (x P : Int) : ∃ k, x % P = x + P * k := ⟨-(x / P), by have := Int.emod_add_mul_ediv x P; grind⟩
theorem em_assoc (a b c : E2) : em (em a b) c = em a (em b c) := by
  obtain ⟨a1, a2⟩ := a
  obtain ⟨b1, b2⟩ := b
  obtain ⟨c1, c2⟩ := c
  simp only [em]
  obtain ⟨k1, h1⟩ := mod_ex (a1 * b1 + 7 * (a2 * b2)) Pb
  obtain ⟨k2, h2⟩ := mod_ex (a1 * b2 + a2 * b1) Pb
  obtain ⟨k3, h3⟩ := mod_ex (b1 * c1 + 7 * (b2 * c2)) Pb
  obtain ⟨k4, h4⟩ := mod_ex (b1 * c2 + b2 * c1) Pb
  rw [h1, h2, h3, h4]
  refine Prod.ext ?_ ?_
  · exact mod_same (k1 * c1 + 7 * (k2 * c2) - a1 * k3 - 7 * (a2 * k4)) (by grind)
  · exact mod_same (k1 * c2 + k2 * c1 - a1 * k4 - a2 * k3) (by grind)
theorem em_one {a : E2} (h : redE a) : em a (1, 0) = a := by
  obtain ⟨h1, h2, h3, h4⟩ := h
  simp only [em, Int.mul_one, Int.mul_zero, Int.add_zero, Int.zero_add]
  rw [Int.emod_eq_of_lt h1 h2, Int.emod_eq_of_lt h3 h4]
def enp (a : E2) : Nat → E2
  | 0 => (1, 0)
  | n + 1 => em (enp a n) a
theorem one_red : redE (1, 0) := by unfold redE Pb; decide
theorem enp_red (a : E2) (n : Nat) : redE (enp a n) := by
  cases n with
  | zero => exact one_red
  | succ n => exact em_red _ _
theorem enp_add (a : E2) (m : Nat) : ∀ n, enp a (m + n) = em (enp a m) (enp a n) := by
  intro n
  induction n with
  | zero => exact (em_one (enp_red a m)).symm
  | succ n ih =>
    show em (enp a (m + n)) a = em (enp a m) (em (enp a n) a)
    rw [ih, em_assoc]
theorem enp_em (a b : E2) : ∀ n, enp (em a b) n = em (enp a n) (enp b n) := by
  intro n
  induction n with
  | zero => exact (em_one one_red).symm
  | succ n ih =>
    show em (enp (em a b) n) (em a b) = em (em (enp a n) a) (em (enp b n) b)
    rw [ih, em_assoc, em_assoc, ← em_assoc (enp b n) a b, em_comm (enp b n) a, em_assoc a (enp b n) b]
theorem enp_mul (a : E2) (m : Nat) : ∀ n, enp (enp a m) n = enp a (m * n) := by
  intro n
  induction n with
  | zero => rfl
  | succ n ih =>
    show em (enp (enp a m) n) (enp a m) = enp a (m * n + m)
    rw [ih, enp_add]
theorem enp_swap (a : E2) (m n : Nat) : enp (enp a m) n = enp (enp a n) m := by rw [enp_mul, enp_mul, Nat.mul_comm]
theorem enp_sq (a : E2) : ∀ n, enp (em a a) n = enp a (2 * n) := by
  intro n
  induction n with
  | zero => rfl
  | succ n ih =>
    show em (enp (em a a) n) (em a a) = em (em (enp a (2 * n)) a) a
    rw [ih, em_assoc]
/-- The step of the loop from the right: an odd exponent. -/
theorem pow_odd (r a : E2) (k : Nat) : em (em r a) (enp (em a a) k) = em r (enp a (2 * k + 1)) := by
  show _ = em r (em (enp a (2 * k)) a)
  rw [em_assoc, enp_sq, em_comm a]
theorem pow_even (r a : E2) (k : Nat) : em r (enp (em a a) k) = em r (enp a (2 * k)) := by rw [enp_sq]
/-- The steps of the loop from the left. -/
theorem pow_dbl (a : E2) (q : Nat) : em (enp a q) (enp a q) = enp a (2 * q) := by rw [Nat.two_mul, enp_add]
theorem pow_dbl1 (a : E2) (q : Nat) : em (em (enp a q) (enp a q)) a = enp a (2 * q + 1) := by rw [pow_dbl]; rfl
theorem enp_one : ∀ n, enp (1, 0) n = (1, 0) := by
  intro n
  induction n with
  | zero => rfl
  | succ n ih => show em (enp (1, 0) n) (1, 0) = _; rw [ih]; decide
/-- No power of the base point is zero. -/
theorem base_ne (n : Nat) : enp (2, 1) n ≠ (0, 0) := by
  intro h
  have h1 := enp_em (2, 1) (12297829379609722880, 12297829379609722881) n
  have h2 : em (2, 1) (12297829379609722880, 12297829379609722881) = (1, 0) := by decide
  rw [h2, enp_one, h] at h1
  simp [em] at h1
/-- What the code computes for a product. -/
theorem em_code (a b : E2) : ((a.1 * b.1 % Pb + 7 * (a.2 * b.2 % Pb) % Pb) % Pb, (a.1 * b.2 % Pb + a.2 * b.1 % Pb) % Pb) = em a b := by
  obtain ⟨k1, h1⟩ := mod_ex (a.2 * b.2) Pb
  refine Prod.ext ?_ ?_
  · show (a.1 * b.1 % Pb + 7 * (a.2 * b.2 % Pb) % Pb) % Pb = (a.1 * b.1 + 7 * (a.2 * b.2)) % Pb
    rw [← Int.add_emod, h1]
    exact mod_same (7 * k1) (by grind)
  · show (a.1 * b.2 % Pb + a.2 * b.1 % Pb) % Pb = (a.1 * b.2 + a.2 * b.1) % Pb
    rw [← Int.add_emod]
end Go.Pi

/- Plain: the text of an address, how it is read. No program in sight. -/
set_option linter.unusedVariables false
set_option linter.unusedSimpArgs false
namespace Go.Pi
open Go.Lib
theorem dchr {k : Nat} (h : k < 10) : (UInt8.ofNat (48 + k)).toNat = 48 + k := by
  rw [UInt8.toNat_ofNat']
  exact Nat.mod_eq_of_lt (by omega)
theorem dec_dig (n : Nat) : ∀ c, c ∈ decDigits n → 48 ≤ c.toNat ∧ c.toNat ≤ 57 := by
  induction n using Nat.strongRecOn with
  | _ n ih =>
    intro c hc
    rw [decDigits] at hc
    split at hc
    · rename_i h
      simp only [List.mem_singleton] at hc
      subst hc
      have := dchr h
      exact ⟨by omega, by omega⟩
    · rename_i h
      rcases List.mem_append.1 hc with e | e
      · exact ih (n / 10) (by omega) c e
      · simp only [List.mem_singleton] at e
        subst e
        have := dchr (k := n % 10) (by omega)
        exact ⟨by omega, by omega⟩
theorem dec_no58 (n : Nat) : ∀ c, c ∈ decDigits n → c ≠ 58 := by
  intro c hc e
  have := dec_dig n c hc
  subst e
  have h58 : (58 : UInt8).toNat = 58 := rfl
  omega
theorem dec_nil (n : Nat) : decDigits n ≠ [] := by
  rw [decDigits]
  split <;> simp
theorem dec_le20 (u : Nat) (h : u ≤ 18446744073709551615) : 1 ≤ (decDigits u).length ∧ (decDigits u).length ≤ 20 := by
  rw [decDigits_length]
  rcases Nat.eq_zero_or_pos u with h0 | h0
  · subst h0; rw [nDigits_small (by omega)]; omega
  · obtain ⟨a, b⟩ := numDigits_eq u h0 (by omega)
    have := nDigits_pos u
    split at a <;> omega
/-- ParseUint of a decimal number. -/
theorem puM_dec (u : Nat) : ∀ (r : List UInt8), u ≤ 18446744073709551615 → parseUintM 18446744073709551615 0 (decDigits u ++ r) = parseUintM 18446744073709551615 u r := by
  induction u using Nat.strongRecOn with
  | _ u ih =>
    intro r hu
    rw [decDigits]
    split
    · rename_i h
      have hd := dchr h
      rw [List.cons_append, List.nil_append, parseUintM, if_pos (by omega), if_neg (by omega), if_neg (by omega), hd]
      congr 1
      omega
    · rename_i h
      have hd := dchr (k := u % 10) (by omega)
      rw [List.append_assoc, ih (u / 10) (by omega) _ (by omega), List.cons_append, List.nil_append, parseUintM, if_pos (by omega), if_neg (by omega), if_neg (by omega), hd]
      congr 1
      omega
def puO (l : List UInt8) : Option Nat := match parseUintB 64 l with
  | .ok u => some u
  | _ => none
theorem puB_dec (u : Nat) (hu : u ≤ 18446744073709551615) : parseUintB 64 (decDigits u) = .ok u := by
  rw [parseUintB, if_neg (dec_nil u)]
  have e : 2 ^ 64 - 1 = 18446744073709551615 := by decide
  have := puM_dec u [] hu
  rw [List.append_nil] at this
  rw [e, this]
  rfl
theorem puO_dec (u : Nat) (hu : u ≤ 18446744073709551615) : puO (decDigits u) = some u := by rw [puO, puB_dec u hu]
/-! ### Splitting at a colon -/
theorem idx_hit (c : UInt8) : ∀ (a r : List UInt8), (∀ x, x ∈ a → x ≠ c) → indexByte (a ++ c :: r) c = a.length := by
  intro a
  induction a with
  | nil => intro r h; simp [indexByte]
  | cons b a ih =>
    intro r h
    have e := ih r (fun x hx => h x (List.mem_cons_of_mem _ hx))
    have hb : (b == c) = false := by simpa using h b List.mem_cons_self
    rw [List.cons_append, indexByte, hb, e]
    have : (((a.length : Nat) : Int) == -1) = false := by
      simp only [beq_eq_false_iff_ne]; omega
    simp only [this, List.length_cons]
    simp
theorem idx_miss (c : UInt8) : ∀ (a : List UInt8), (∀ x, x ∈ a → x ≠ c) → indexByte a c = -1 := by
  intro a
  induction a with
  | nil => intro h; rfl
  | cons b a ih =>
    intro h
    have e := ih (fun x hx => h x (List.mem_cons_of_mem _ hx))
    have hb : (b == c) = false := by simpa using h b List.mem_cons_self
    rw [indexByte, hb, e]
    rfl
theorem splitK_hit {c : UInt8} {a r : List UInt8} (k : Nat) (h : ∀ x, x ∈ a → x ≠ c) : splitK [c] 0 (k + 1) (a ++ c :: r) = a :: splitK [c] 0 k r := by
  have e : index (a ++ c :: r) [c] = a.length := by rw [index_one, idx_hit c a r h]
  rw [splitK, e]
  have : (((a.length : Nat) : Int) == -1) = false := by
    simp only [beq_eq_false_iff_ne]; omega
  rw [this]
  simp
theorem splitK_miss {c : UInt8} {a : List UInt8} (k : Nat) (h : ∀ x, x ∈ a → x ≠ c) : splitK [c] 0 k a = [a] := by
  cases k with
  | zero => rfl
  | succ k =>
    have e : index a [c] = -1 := by rw [index_one, idx_miss c a h]
    rw [splitK, e]
    rfl
/-! ### Addresses -/
/-- Number, owner and point. -/
abbrev Adr := Int × Int × Int × Int
def pre5 : List UInt8 := [109, 111, 105, 100, 58]
def validA (a : Adr) : Bool := decide (0 ≤ a.1 ∧ a.1 < 4 ∧ a.2.1 < Pb ∧ a.2.2.1 < Pb ∧ a.2.2.2 < Pb ∧ (a.2.2.1 ≠ 0 ∨ a.2.2.2 ≠ 0))
/-- The numbers of an address are numbers of 64 bits. -/
def okA (a : Adr) : Prop := 0 ≤ a.2.1 ∧ a.2.1 ≤ 18446744073709551615 ∧ 0 ≤ a.2.2.1 ∧ a.2.2.1 ≤ 18446744073709551615 ∧ 0 ≤ a.2.2.2 ∧ a.2.2.2 ≤ 18446744073709551615
def partsA (a : Adr) : List (List UInt8) := [decDigits a.1.toNat, decDigits a.2.1.toNat, decDigits a.2.2.1.toNat, decDigits a.2.2.2.toNat]
def restA (a : Adr) : List UInt8 := decDigits a.1.toNat ++ 58 :: (decDigits a.2.1.toNat ++ 58 :: (decDigits a.2.2.1.toNat ++ 58 :: decDigits a.2.2.2.toNat))
def textA (a : Adr) : List UInt8 := pre5 ++ restA a
theorem join_parts (a : Adr) : join (partsA a) [58] = restA a := by
  simp [partsA, restA, join, List.intercalate, List.intersperse]
def fmtA (a : Adr) : List UInt8 × Int := if validA a = true then (textA a, 0) else ([], 1)
def zA : Adr := (0, 0, 0, 0)
/-- What a reader answers that has found the candidate c. -/
def finA (s : List UInt8) (c : Option Adr) : Adr × Int := match c with
  | none => (zA, 2)
  | some a => if (validA a && textA a == s) = true then (a, 0) else (zA, 2)
theorem fin_hit {s : List UInt8} {a : Adr} (hv : validA a = true) (ht : textA a = s) : finA s (some a) = (a, 0) := by
  have : (validA a && textA a == s) = true := by simp [hv, ht]
  simp only [finA, this, if_true]
theorem fin_same {s : List UInt8} {c d : Option Adr} (hc : ∀ a, c = some a → okA a) (hd : ∀ a, d = some a → okA a) (h1 : ∀ a, okA a → validA a = true → textA a = s → c = some a) (h2 : ∀ a, okA a → validA a = true → textA a = s → d = some a) : finA s c = finA s d := by
  by_cases h : ∃ a, okA a ∧ validA a = true ∧ textA a = s
  · obtain ⟨a, h0, hv, ht⟩ := h
    rw [h1 a h0 hv ht, h2 a h0 hv ht]
  · have go : ∀ c, (∀ a, c = some a → okA a) → finA s c = (zA, 2) := by
      intro c hc
      cases c with
      | none => rfl
      | some a =>
        simp only [finA]
        rw [if_neg]
        intro hh
        simp only [Bool.and_eq_true, beq_iff_eq] at hh
        exact h ⟨a, hc a rfl, hh.1, hh.2⟩
    rw [go c hc, go d hd]
/-- The program's candidate. -/
def candI (s : List UInt8) : Option Adr :=
  if s.take 5 = pre5 then
    match splitN (s.drop 5) [58] 5 with
    | [a, b, c, d] => match puO a, puO b, puO c, puO d with
      | some x, some y, some z, some w => if x < 4 then some ((x : Int), (y : Int), (z : Int), (w : Int)) else none
      | _, _, _, _ => none
    | _ => none
  else none
theorem puM_le (M : Nat) : ∀ (l : List UInt8) (acc u : Nat), acc ≤ M → parseUintM M acc l = .ok u → u ≤ M := by
  intro l
  induction l with
  | nil => intro acc u ha h; simp only [parseUintM, NumEnd.ok.injEq] at h; omega
  | cons c r ih =>
    intro acc u ha h
    rw [parseUintM] at h
    split at h
    · split at h
      · cases h
      · split at h
        · cases h
        · exact ih _ _ (by omega) h
    · cases h
theorem puO_le {l : List UInt8} {u : Nat} (h : puO l = some u) : u ≤ 18446744073709551615 := by
  unfold puO at h
  split at h
  · rename_i v hv
    injection h with h
    subst h
    rw [parseUintB] at hv
    split at hv
    · cases hv
    · have := puM_le _ _ _ _ (Nat.zero_le _) hv
      have e : 2 ^ 64 - 1 = 18446744073709551615 := by decide
      omega
  · cases h
theorem candI_ok {s : List UInt8} {a : Adr} (h : candI s = some a) : okA a := by
  unfold candI at h
  split at h
  · split at h
    · split at h
      · rename_i e1 e2 e3 e4
        split at h
        · injection h with h
          subst h
          have := puO_le e2
          have := puO_le e3
          have := puO_le e4
          exact ⟨by simp only; omega, by simp only; omega, by simp only; omega, by simp only; omega, by simp only; omega, by simp only; omega⟩
        · cases h
      · cases h
    · cases h
  · cases h
theorem valid_n {a : Adr} (h : validA a = true) : 0 ≤ a.1 ∧ a.1 < 4 := by
  unfold validA at h
  have := of_decide_eq_true h
  omega
theorem toNat_eq {x : Int} (h : 0 ≤ x) : ((x.toNat : Nat) : Int) = x := Int.toNat_of_nonneg h
theorem split_rest {a : Adr} : splitN (restA a) [58] 5 = partsA a := by
  have l1 := dec_nil a.1.toNat
  have l2 := dec_nil a.2.1.toNat
  have hl : 4 ≤ (restA a).length := by
    have := List.length_pos_iff.2 l1
    have := List.length_pos_iff.2 l2
    simp only [restA, List.length_append, List.length_cons]
    omega
  have e : min 5 ((restA a).length + 1) - 1 = 4 := by omega
  rw [splitN, e, restA, splitK_hit _ (dec_no58 _), splitK_hit _ (dec_no58 _), splitK_hit _ (dec_no58 _), splitK_miss _ (dec_no58 _)]
  rfl
theorem candI_text {a : Adr} (h0 : okA a) (hv : validA a = true) : candI (textA a) = some a := by
  obtain ⟨h1, h2, h3, h4, h5, h6⟩ := h0
  obtain ⟨n0, n1⟩ := valid_n hv
  have t1 : (textA a).take 5 = pre5 := by simp [textA, pre5]
  have t2 : (textA a).drop 5 = restA a := by simp [textA, pre5]
  rw [candI, if_pos t1, t2, split_rest]
  simp only [partsA, puO_dec a.1.toNat (by omega), puO_dec a.2.1.toNat (by omega), puO_dec a.2.2.1.toNat (by omega), puO_dec a.2.2.2.toNat (by omega)]
  rw [if_pos (by omega), toNat_eq n0, toNat_eq h1, toNat_eq h3, toNat_eq h5]
/-! ### The reference's candidate -/
def stepV (n : Int) (c : UInt8) : Int := (n * 10 + ((c.toNat : Int) - 48) % 256) % 18446744073709551616
def rp : List UInt8 → List Int → Int → List Int
  | [], l, n => l ++ [n]
  | c :: r, l, n => if c = 58 then rp r (l ++ [n]) 0 else rp r l (stepV n c)
theorem rp_dec (u : Nat) : ∀ (r : List UInt8) (l : List Int), u ≤ 18446744073709551615 → rp (decDigits u ++ r) l 0 = rp r l u := by
  induction u using Nat.strongRecOn with
  | _ u ih =>
    intro r l hu
    rw [decDigits]
    split
    · rename_i h
      have hd := dchr h
      have h58 : UInt8.ofNat (48 + u) ≠ 58 := by
        intro e
        rw [e] at hd
        have h58 : (58 : UInt8).toNat = 58 := rfl
        omega
      rw [List.cons_append, List.nil_append, rp, if_neg h58]
      congr 1
      unfold stepV
      rw [hd]
      omega
    · rename_i h
      have hd := dchr (k := u % 10) (by omega)
      have h58 : UInt8.ofNat (48 + u % 10) ≠ 58 := by
        intro e
        rw [e] at hd
        have h58 : (58 : UInt8).toNat = 58 := rfl
        omega
      rw [List.append_assoc, ih (u / 10) (by omega) _ _ (by omega), List.cons_append, List.nil_append, rp, if_neg h58]
      congr 1
      unfold stepV
      rw [hd]
      omega
theorem rp_sep (r : List UInt8) (l : List Int) (n : Int) : rp (58 :: r) l n = rp r (l ++ [n]) 0 := by rw [rp, if_pos rfl]
def nnL (l : List Int) : Prop := ∀ x, x ∈ l → 0 ≤ x ∧ x ≤ 18446744073709551615
theorem rp_nn : ∀ (s : List UInt8) (l : List Int) (n : Int), nnL l → 0 ≤ n → n ≤ 18446744073709551615 → nnL (rp s l n) := by
  intro s
  induction s with
  | nil =>
    intro l n hl h0 h1 x hx
    rcases List.mem_append.1 hx with e | e
    · exact hl x e
    · simp only [List.mem_singleton] at e; subst e; exact ⟨h0, h1⟩
  | cons c r ih =>
    intro l n hl h0 h1
    rw [rp]
    split
    · refine ih _ _ ?_ (by omega) (by omega)
      intro x hx
      rcases List.mem_append.1 hx with e | e
      · exact hl x e
      · simp only [List.mem_singleton] at e; subst e; exact ⟨h0, h1⟩
    · exact ih _ _ hl (by unfold stepV; omega) (by unfold stepV; omega)
def candR (s : List UInt8) : Option Adr :=
  match rp (s.drop 5) [] 0 with
  | [x, y, z, w] => if x ≤ 3 then some (x, y, z, w) else none
  | _ => none
theorem candR_ok {s : List UInt8} {a : Adr} (h : candR s = some a) : okA a := by
  have hn := rp_nn (s.drop 5) [] 0 (fun x hx => by cases hx) (by omega) (by omega)
  unfold candR at h
  split at h
  · rename_i x y z w e
    rw [e] at hn
    split at h
    · injection h with h
      subst h
      have h1 := hn y (by simp)
      have h2 := hn z (by simp)
      have h3 := hn w (by simp)
      exact ⟨h1.1, h1.2, h2.1, h2.2, h3.1, h3.2⟩
    · cases h
  · cases h
theorem candR_text {a : Adr} (h0 : okA a) (hv : validA a = true) : candR (textA a) = some a := by
  obtain ⟨h1, h2, h3, h4, h5, h6⟩ := h0
  obtain ⟨n0, n1⟩ := valid_n hv
  have t2 : (textA a).drop 5 = restA a := by simp [textA, pre5]
  have e4 := rp_dec a.2.2.2.toNat [] [a.1, a.2.1, a.2.2.1] (by omega)
  rw [List.append_nil] at e4
  have e : rp (restA a) [] 0 = [a.1, a.2.1, a.2.2.1, a.2.2.2] := by
    rw [restA, rp_dec _ _ _ (by omega), rp_sep, rp_dec _ _ _ (by omega), rp_sep, rp_dec _ _ _ (by omega), rp_sep, toNat_eq n0, toNat_eq h1, toNat_eq h3]
    simp only [List.nil_append, List.cons_append]
    rw [e4, toNat_eq h5]
    rfl
  rw [candR, t2, e]
  simp only
  rw [if_pos (by omega)]
/-- The two readers answer alike. -/
theorem parse_same (s : List UInt8) : finA s (candI s) = finA s (candR s) :=
  fin_same (fun _ => candI_ok) (fun _ => candR_ok) (fun a h0 hv ht => ht ▸ candI_text h0 hv) (fun a h0 hv ht => ht ▸ candR_text h0 hv)
theorem parse_text {a : Adr} (h0 : okA a) (hv : validA a = true) : finA (textA a) (candI (textA a)) = (a, 0) := by
  rw [candI_text h0 hv]
  exact fin_hit hv rfl
/-! ### Examples -/
theorem ex1 : finA [109, 111, 105, 100, 58, 48, 58, 53, 58, 50, 58, 49] (candI [109, 111, 105, 100, 58, 48, 58, 53, 58, 50, 58, 49]) = ((0, 5, 2, 1), 0) := by
  have e : textA (0, 5, 2, 1) = [109, 111, 105, 100, 58, 48, 58, 53, 58, 50, 58, 49] := by
    simp only [textA, restA, pre5]
    rw [decDigits_one (by decide), decDigits_one (by decide), decDigits_one (by decide), decDigits_one (by decide)]
    rfl
  have := parse_text (a := (0, 5, 2, 1)) (by unfold okA; decide) (by decide)
  rw [e] at this
  exact this
theorem ex2 : finA [109, 111, 105, 100, 58, 48, 48, 58, 53, 58, 50, 58, 49] (candI [109, 111, 105, 100, 58, 48, 48, 58, 53, 58, 50, 58, 49]) = (zA, 2) := by
  have e : textA (0, 5, 2, 1) = [109, 111, 105, 100, 58, 48, 58, 53, 58, 50, 58, 49] := by
    simp only [textA, restA, pre5]
    rw [decDigits_one (by decide), decDigits_one (by decide), decDigits_one (by decide), decDigits_one (by decide)]
    rfl
  have h : candI [109, 111, 105, 100, 58, 48, 48, 58, 53, 58, 50, 58, 49] = some (0, 5, 2, 1) := by decide +kernel
  rw [h, finA, e]
  decide
theorem ex3 : finA [109, 111, 105, 100, 58, 52, 58, 53, 58, 50, 58, 49] (candI [109, 111, 105, 100, 58, 52, 58, 53, 58, 50, 58, 49]) = (zA, 2) := by
  have h : candI [109, 111, 105, 100, 58, 52, 58, 53, 58, 50, 58, 49] = none := by decide +kernel
  rw [h]
  rfl
end Go.Pi

/- Plain: decimal numbers read back, splitting and joining. No program in sight. -/
set_option linter.unusedVariables false
set_option linter.unusedSimpArgs false
namespace Go.Pi
open Go.Lib
def isDg (c : UInt8) : Bool := decide (48 ≤ c.toNat) && decide (c.toNat ≤ 57)
theorem isDg_iff {c : UInt8} : isDg c = true ↔ 48 ≤ c.toNat ∧ c.toNat ≤ 57 := by simp [isDg]
def valF (acc : Nat) (l : List UInt8) : Nat := l.foldl (fun a c => a * 10 + (c.toNat - 48)) acc
theorem valF_app (acc : Nat) (a b : List UInt8) : valF acc (a ++ b) = valF (valF acc a) b := by simp [valF]
theorem puM_val (M : Nat) : ∀ (l : List UInt8) (acc u : Nat), parseUintM M acc l = .ok u → u = valF acc l := by
  intro l
  induction l with
  | nil => intro acc u h; simp only [parseUintM, NumEnd.ok.injEq] at h; exact h.symm
  | cons c r ih =>
    intro acc u h
    rw [parseUintM] at h
    split at h
    · split at h
      · cases h
      · split at h
        · cases h
        · exact ih _ _ h
    · cases h
theorem puO_val {l : List UInt8} {u : Nat} (h : puO l = some u) : u = valF 0 l ∧ l ≠ [] := by
  unfold puO at h
  split at h
  · rename_i v hv
    injection h with h
    subst h
    rw [parseUintB] at hv
    split at hv
    · cases hv
    · rename_i hne
      exact ⟨puM_val _ _ _ _ hv, hne⟩
  · cases h
theorem valF_pos : ∀ (l : List UInt8) (acc : Nat), 1 ≤ acc → 1 ≤ valF acc l := by
  intro l
  induction l with
  | nil => intro acc h; exact h
  | cons c r ih => intro acc h; exact ih (acc * 10 + (c.toNat - 48)) (by omega)
/-- A string of digits without a leading zero is its number's decimal form. -/
theorem dec_val : ∀ (n : Nat) (l : List UInt8), l.length = n → (∀ c, c ∈ l → isDg c = true) → l ≠ [] → (l.length ≤ 1 ∨ l.head? ≠ some 48) → decDigits (valF 0 l) = l := by
  intro n
  induction n with
  | zero => intro l h hd hne; exact absurd (List.length_eq_zero_iff.1 h) hne
  | succ n ih =>
    intro l h hd hne hz
    obtain ⟨i, c, rfl⟩ : ∃ i c, l = i ++ [c] := ⟨l.dropLast, l.getLast hne, (List.dropLast_concat_getLast hne).symm⟩
    have hc := isDg_iff.1 (hd c (by simp))
    have hv : valF 0 (i ++ [c]) = valF 0 i * 10 + (c.toNat - 48) := by rw [valF_app]; rfl
    have hch : UInt8.ofNat (48 + (c.toNat - 48)) = c := by
      have : 48 + (c.toNat - 48) = c.toNat := by omega
      rw [this]
      simp
    by_cases hi : i = []
    · subst hi
      rw [hv]
      have e : valF 0 [] * 10 + (c.toNat - 48) = c.toNat - 48 := by simp [valF]
      rw [e, decDigits_one (by omega), hch]
      rfl
    · have hh : i.head? ≠ some 48 := by
        rcases hz with hz | hz
        · have := List.length_pos_iff.2 hi
          rw [List.length_append, List.length_singleton] at hz
          omega
        · cases i with
          | nil => exact absurd rfl hi
          | cons x r => simpa using hz
      have hp : 1 ≤ valF 0 i := by
        cases i with
        | nil => exact absurd rfl hi
        | cons x r =>
          have hx := isDg_iff.1 (hd x (by simp))
          have hx48 : x.toNat ≠ 48 := by
            intro e
            apply hh
            have : x = 48 := UInt8.toNat_inj.1 e
            rw [this]
            rfl
          exact valF_pos r (0 * 10 + (x.toNat - 48)) (by omega)
      have hr := ih i (by simp at h; exact h) (fun x hx => hd x (by simp [hx])) hi (.inr hh)
      rw [hv, decDigits, dif_neg (by omega)]
      have e1 : (valF 0 i * 10 + (c.toNat - 48)) / 10 = valF 0 i := by omega
      have e2 : (valF 0 i * 10 + (c.toNat - 48)) % 10 = c.toNat - 48 := by omega
      rw [e1, e2, hr, hch]
theorem dec_head (u : Nat) : 0 < u → (decDigits u).head? ≠ some 48 := by
  induction u using Nat.strongRecOn with
  | _ u ih =>
    intro hu
    rw [decDigits]
    split
    · rename_i h
      intro e
      simp only [List.head?_cons, Option.some.injEq] at e
      have hd := dchr h
      rw [e] at hd
      have h48 : (48 : UInt8).toNat = 48 := rfl
      omega
    · rename_i h
      have := ih (u / 10) (by omega) (by omega)
      cases hd : decDigits (u / 10) with
      | nil => exact absurd hd (dec_nil _)
      | cons x r => rw [hd] at this; simpa using this
/-- table.parseNumber. -/
def numO (t : List UInt8) : Option Nat :=
  if t.all isDg = true then (if 1 < t.length ∧ t.head? = some 48 then none else puO t) else none
theorem numO_dec {u : Nat} (hu : u ≤ 18446744073709551615) : numO (decDigits u) = some u := by
  have h1 : (decDigits u).all isDg = true := by
    rw [List.all_eq_true]
    intro c hc
    exact isDg_iff.2 (dec_dig u c hc)
  rw [numO, if_pos h1, if_neg, puO_dec u hu]
  rintro ⟨a, b⟩
  by_cases h0 : 0 < u
  · exact dec_head u h0 b
  · have : u = 0 := by omega
    subst this
    rw [decDigits_one (by decide)] at a
    simp at a
theorem numO_spec {t : List UInt8} {u : Nat} (h : numO t = some u) : t = decDigits u ∧ u ≤ 18446744073709551615 := by
  unfold numO at h
  split at h
  · rename_i ha
    split at h
    · cases h
    · rename_i hz
      obtain ⟨e, hne⟩ := puO_val h
      refine ⟨?_, puO_le h⟩
      rw [e]
      refine (dec_val t.length t rfl (fun c hc => List.all_eq_true.1 ha c hc) hne ?_).symm
      by_cases hl : t.length ≤ 1
      · exact .inl hl
      · exact .inr fun hh => hz ⟨by omega, hh⟩
  · cases h
theorem numO_iff {t : List UInt8} {u : Nat} : numO t = some u ↔ t = decDigits u ∧ u ≤ 18446744073709551615 :=
  ⟨numO_spec, fun ⟨h1, h2⟩ => h1 ▸ numO_dec h2⟩
/-! ### Splitting and joining -/
theorem occ_split {s sep : List UInt8} {i : Nat} (h : occAt s sep i = true) : s = s.take i ++ (sep ++ s.drop (i + sep.length)) := by
  unfold occAt at h
  obtain ⟨t, ht⟩ := List.isPrefixOf_iff_prefix.1 h
  have h1 : s.drop (i + sep.length) = t := by rw [← List.drop_drop, ← ht, List.drop_left]
  rw [h1, ht, List.take_append_drop]
theorem join_cons2 (a b : List UInt8) (r : List (List UInt8)) (sep : List UInt8) : join (a :: b :: r) sep = a ++ (sep ++ join (b :: r) sep) := by
  rw [join_cons, join_cons]
  simp [joinTail]
theorem splitK_ne (sep : List UInt8) (k : Nat) (s : List UInt8) : ∃ x r, splitK sep 0 k s = x :: r := by
  cases k with
  | zero => exact ⟨_, _, rfl⟩
  | succ k =>
    rw [splitK]
    split
    · exact ⟨_, _, rfl⟩
    · exact ⟨_, _, rfl⟩
/-- What is split is joined again. -/
theorem join_splitK (sep : List UInt8) : ∀ (k : Nat) (s : List UInt8), join (splitK sep 0 k s) sep = s := by
  intro k
  induction k with
  | zero => intro s; exact join_one s sep
  | succ k ih =>
    intro s
    rw [splitK]
    split
    · exact join_one s sep
    · rename_i hm
      rcases index_spec s sep with ⟨h1, _⟩ | ⟨i, h1, h2, h3, _⟩
      · rw [h1] at hm; exact absurd rfl hm
      · have ei : (index s sep).toNat = i := by omega
        rw [ei, Nat.add_zero]
        obtain ⟨x, r, hx⟩ := splitK_ne sep k (s.drop (i + sep.length))
        have hj := ih (s.drop (i + sep.length))
        rw [hx] at hj ⊢
        rw [join_cons2, hj]
        exact (occ_split h3).symm
theorem join_split (s sep : List UInt8) : join (split s sep) sep = s := join_splitK sep _ s
/-- How a split goes on. -/
theorem split_miss {s sep : List UInt8} (h : index s sep = -1) : split s sep = [s] := by
  rw [split, count_miss h]
  rfl
theorem split_hit {s sep : List UInt8} {i : Nat} (hs : sep ≠ []) (h : index s sep = i) : split s sep = s.take i :: split (s.drop (i + sep.length)) sep := by
  rw [split, count_hit hs h, Nat.add_comm 1, splitK, h]
  have : (((i : Nat) : Int) == -1) = false := by
    simp only [beq_eq_false_iff_ne]; omega
  rw [this]
  simp [split]
/-- Pieces without the separator's sign come back. -/
theorem split_one {c : UInt8} : ∀ (ps : List (List UInt8)), ps ≠ [] → (∀ p, p ∈ ps → ∀ x, x ∈ p → x ≠ c) → split (join ps [c]) [c] = ps := by
  intro ps
  induction ps with
  | nil => intro h; exact absurd rfl h
  | cons a r ih =>
    intro _ hp
    cases r with
    | nil =>
      rw [join_one]
      exact split_miss (by rw [index_one, idx_miss c a (hp a (by simp))])
    | cons b r =>
      have e : join (a :: b :: r) [c] = a ++ c :: join (b :: r) [c] := by rw [join_cons2]; rfl
      have hi : index (a ++ c :: join (b :: r) [c]) [c] = a.length := by rw [index_one, idx_hit c a _ (hp a (by simp))]
      rw [e, split_hit (by simp) hi]
      have e1 : (a ++ c :: join (b :: r) [c]).take a.length = a := by simp
      have e2 : (a ++ c :: join (b :: r) [c]).drop (a.length + [c].length) = join (b :: r) [c] := by simp
      rw [e1, e2, ih (by simp) (fun p hp' => hp p (List.mem_cons_of_mem _ hp'))]
/-- A separator of three signs: pieces without its middle sign. -/
theorem index_three {b c : UInt8} (hbc : b ≠ c) {a r : List UInt8} (ha : ∀ x, x ∈ a → x ≠ c) : index (a ++ ([b, c, b] ++ r)) [b, c, b] = a.length := by
  refine index_first (by simp) ?_ ?_
  · unfold occAt
    rw [List.drop_left]
    exact List.isPrefixOf_iff_prefix.2 ⟨r, rfl⟩
  · intro j hj
    unfold occAt
    cases hh : [b, c, b].isPrefixOf ((a ++ ([b, c, b] ++ r)).drop j) with
    | false => rfl
    | true =>
      exfalso
      obtain ⟨t, ht⟩ := List.isPrefixOf_iff_prefix.1 hh
      have h1 : (a ++ ([b, c, b] ++ r))[j + 1]? = some c := by
        have : ((a ++ ([b, c, b] ++ r)).drop j)[1]? = some c := by rw [← ht]; rfl
        rw [List.getElem?_drop] at this
        exact this
      by_cases hj1 : j + 1 < a.length
      · rw [List.getElem?_append_left hj1] at h1
        exact ha c (List.mem_of_getElem? h1) rfl
      · have : j + 1 = a.length := by omega
        rw [this, List.getElem?_append_right (Nat.le_refl _), Nat.sub_self] at h1
        simp at h1
        exact hbc h1
theorem index_three_no {b c : UInt8} {a : List UInt8} (ha : ∀ x, x ∈ a → x ≠ c) : index a [b, c, b] = -1 := by
  refine index_none ?_
  intro j hj
  unfold occAt
  cases hh : [b, c, b].isPrefixOf (a.drop j) with
  | false => rfl
  | true =>
    exfalso
    obtain ⟨t, ht⟩ := List.isPrefixOf_iff_prefix.1 hh
    have : (a.drop j)[1]? = some c := by rw [← ht]; rfl
    rw [List.getElem?_drop] at this
    exact ha c (List.mem_of_getElem? this) rfl
theorem split_three {b c : UInt8} (hbc : b ≠ c) {x y z : List UInt8} (hx : ∀ w, w ∈ x → w ≠ c) (hy : ∀ w, w ∈ y → w ≠ c) (hz : ∀ w, w ∈ z → w ≠ c) : split (x ++ ([b, c, b] ++ (y ++ ([b, c, b] ++ z)))) [b, c, b] = [x, y, z] := by
  rw [split_hit (by simp) (index_three hbc hx)]
  have e1 : (x ++ ([b, c, b] ++ (y ++ ([b, c, b] ++ z)))).take x.length = x := by simp
  have e2 : (x ++ ([b, c, b] ++ (y ++ ([b, c, b] ++ z)))).drop (x.length + [b, c, b].length) = y ++ ([b, c, b] ++ z) := by
    rw [← List.drop_drop, List.drop_left]
    rfl
  rw [e1, e2, split_hit (by simp) (index_three hbc hy)]
  have e3 : (y ++ ([b, c, b] ++ z)).take y.length = y := by simp
  have e4 : (y ++ ([b, c, b] ++ z)).drop (y.length + [b, c, b].length) = z := by
    rw [← List.drop_drop, List.drop_left]
    rfl
  rw [e3, e4, split_miss (index_three_no hz)]
/-! ### Cutting -/
theorem cut_hit {c : UInt8} {a r : List UInt8} (ha : ∀ x, x ∈ a → x ≠ c) : Lib.cut (a ++ c :: r) [c] = (a, r, true) := by
  have e : index (a ++ c :: r) [c] = a.length := by rw [index_one, idx_hit c a r ha]
  unfold Lib.cut
  rw [e]
  simp
theorem cut_miss {c : UInt8} {a : List UInt8} (ha : ∀ x, x ∈ a → x ≠ c) : Lib.cut a [c] = (a, [], false) := by
  have e : index a [c] = -1 := by rw [index_one, idx_miss c a ha]
  unfold Lib.cut
  rw [e]
  simp
/-- Every string has the sign or not. -/
theorem cut_cases (c : UInt8) : ∀ (s : List UInt8), (∀ x, x ∈ s → x ≠ c) ∨ ∃ a r, s = a ++ c :: r ∧ ∀ x, x ∈ a → x ≠ c := by
  intro s
  induction s with
  | nil => exact .inl fun x hx => by cases hx
  | cons x s ih =>
    by_cases h : x = c
    · subst h; exact .inr ⟨[], s, rfl, fun y hy => by cases hy⟩
    · rcases ih with ih | ⟨a, r, rfl, ha⟩
      · refine .inl fun y hy => ?_
        rcases List.mem_cons.1 hy with e | e
        · subst e; exact h
        · exact ih y e
      · refine .inr ⟨x :: a, r, rfl, fun y hy => ?_⟩
        rcases List.mem_cons.1 hy with e | e
        · subst e; exact h
        · exact ha y e
end Go.Pi

/- Plain: the text of a table, two readers of it. No program in sight. -/
set_option linter.unusedVariables false
set_option linter.unusedSimpArgs false
namespace Go.Pi
open Go.Lib
abbrev LN := List (Int × Int)
abbrev R3 := LN × LN × LN
/-- A term's text. -/
def termT (t : Int × Int) : List UInt8 := decDigits t.1.toNat ++ 58 :: decDigits t.2.toNat
/-- Further terms' text. -/
def moreT : List (Int × Int) → List UInt8
  | [] => []
  | t :: r => 32 :: (termT t ++ moreT r)
def linT : List (Int × Int) → List UInt8
  | [] => [45]
  | t :: r => termT t ++ moreT r
def rowX (r : R3) : List UInt8 := [114, 111, 119, 32] ++ (linT r.1 ++ ([32, 124, 32] ++ (linT r.2.1 ++ ([32, 124, 32] ++ linT r.2.2))))
def headX (h : Int × Int × Int) : List UInt8 := [116, 97, 98, 108, 101] ++ 32 :: (decDigits h.1.toNat ++ 32 :: (decDigits h.2.1.toNat ++ 32 :: decDigits h.2.2.toNat))
def tOk (x : Int × Int) : Prop := 0 ≤ x.1 ∧ x.1 ≤ 65536 ∧ 0 ≤ x.2 ∧ x.2 ≤ 18446744073709551615
def lOk (l : LN) : Prop := ∀ x, x ∈ l → tOk x
def rOk (r : R3) : Prop := lOk r.1 ∧ lOk r.2.1 ∧ lOk r.2.2
theorem dec_no {c : UInt8} (hc : c.toNat < 48 ∨ 57 < c.toNat) (n : Nat) : ∀ x, x ∈ decDigits n → x ≠ c := by
  intro x hx e
  have := dec_dig n x hx
  subst e
  omega
theorem term_no {c : UInt8} (hc : c.toNat < 48 ∨ 57 < c.toNat) (h58 : c ≠ 58) (t : Int × Int) : ∀ x, x ∈ termT t → x ≠ c := by
  intro x hx
  simp only [termT, List.mem_append, List.mem_cons] at hx
  rcases hx with h | h | h
  · exact dec_no hc _ x h
  · subst h; exact fun e => h58 e.symm
  · exact dec_no hc _ x h
theorem more_eq (l : LN) : moreT l = joinTail [32] (l.map termT) := by
  induction l with
  | nil => rfl
  | cons t r ih => simp [moreT, ih, joinTail]
theorem lin_join {l : LN} (h : l ≠ []) : linT l = join (l.map termT) [32] := by
  cases l with
  | nil => exact absurd rfl h
  | cons t r => rw [linT, more_eq, List.map_cons, join_cons]
theorem more_no {c : UInt8} (hc : c.toNat < 48 ∨ 57 < c.toNat) (h58 : c ≠ 58) (h32 : c ≠ 32) (l : LN) : ∀ x, x ∈ moreT l → x ≠ c := by
  induction l with
  | nil => intro x hx; cases hx
  | cons t r ih =>
    intro x hx
    simp only [moreT, List.mem_cons, List.mem_append] at hx
    rcases hx with h | h | h
    · subst h; exact fun e => h32 e.symm
    · exact term_no hc h58 t x h
    · exact ih x h
theorem lin_no {c : UInt8} (hc : c.toNat < 48 ∨ 57 < c.toNat) (h58 : c ≠ 58) (h32 : c ≠ 32) (h45 : c ≠ 45) (l : LN) : ∀ x, x ∈ linT l → x ≠ c := by
  cases l with
  | nil => intro x hx; simp only [linT, List.mem_singleton] at hx; subst hx; exact fun e => h45 e.symm
  | cons t r =>
    intro x hx
    simp only [linT, List.mem_append] at hx
    rcases hx with h | h
    · exact term_no hc h58 t x h
    · exact more_no hc h58 h32 r x h
/-! ### The program's reader -/
def termO (t : List UInt8) : Option (Int × Int) :=
  if (Lib.cut t [58]).2.2 = true then
    match numO (Lib.cut t [58]).1, numO (Lib.cut t [58]).2.1 with
    | some v, some n => if v ≤ 65536 then some ((v : Int), (n : Int)) else none
    | _, _ => none
  else none
theorem termO_text {x : Int × Int} (h : tOk x) : termO (termT x) = some x := by
  obtain ⟨h1, h2, h3, h4⟩ := h
  have e : Lib.cut (termT x) [58] = (decDigits x.1.toNat, decDigits x.2.toNat, true) := cut_hit (dec_no58 _)
  rw [termO, e]
  simp only [if_true]
  rw [numO_dec (by omega), numO_dec (by omega)]
  simp only
  rw [if_pos (by omega), toNat_eq h1, toNat_eq h3]
theorem termO_spec {t : List UInt8} {x : Int × Int} (h : termO t = some x) : termT x = t ∧ tOk x := by
  unfold termO at h
  split at h
  · rename_i hc
    split at h
    · rename_i v n hv hn
      split at h
      · rename_i hle
        injection h with h
        subst h
        obtain ⟨e1, b1⟩ := numO_spec hv
        obtain ⟨e2, b2⟩ := numO_spec hn
        refine ⟨?_, by omega, by simp only; omega, by omega, by simp only; omega⟩
        rcases cut_cases 58 t with hno | ⟨a, r, rfl, ha⟩
        · rw [cut_miss hno] at hc; cases hc
        · rw [cut_hit ha] at e1 e2
          simp only at e1 e2
          simp only [termT, Int.toNat_natCast]
          rw [← e1, ← e2]
      · cases h
    · cases h
  · cases h
def mapO {α β : Type} (f : α → Option β) : List α → Option (List β)
  | [] => some []
  | a :: r => match f a with
    | some b => match mapO f r with
      | some l => some (b :: l)
      | none => none
    | none => none
theorem mapO_of {α β : Type} {f : α → Option β} {g : β → α} : ∀ (l : List β), (∀ x, x ∈ l → f (g x) = some x) → mapO f (l.map g) = some l := by
  intro l
  induction l with
  | nil => intro _; rfl
  | cons x r ih =>
    intro h
    simp only [List.map_cons, mapO, h x List.mem_cons_self, ih fun y hy => h y (List.mem_cons_of_mem _ hy)]
theorem mapO_spec {α β : Type} {f : α → Option β} {p : β → Prop} {g : β → α} (hf : ∀ a b, f a = some b → g b = a ∧ p b) : ∀ (ps : List α) (l : List β), mapO f ps = some l → ps = l.map g ∧ ∀ x, x ∈ l → p x := by
  intro ps
  induction ps with
  | nil => intro l h; injection h with h; subst h; exact ⟨rfl, fun x hx => by cases hx⟩
  | cons a r ih =>
    intro l h
    simp only [mapO] at h
    split at h
    · rename_i b hb
      split at h
      · rename_i l' hl
        injection h with h
        subst h
        obtain ⟨e1, e2⟩ := ih _ hl
        obtain ⟨e3, e4⟩ := hf _ _ hb
        refine ⟨by rw [List.map_cons, e3, ← e1], fun x hx => ?_⟩
        rcases List.mem_cons.1 hx with e | e
        · subst e; exact e4
        · exact e2 x e
      · cases h
    · cases h
def linO (s : List UInt8) : Option LN := if s = [45] then some [] else mapO termO (split s [32])
theorem lin_ne45 (x : Int × Int) (r : LN) : linT (x :: r) ≠ [45] := by
  intro h
  cases hd : decDigits x.1.toNat with
  | nil => exact dec_nil _ hd
  | cons c t =>
    simp only [linT, termT, hd, List.cons_append, List.cons.injEq] at h
    have := dec_dig x.1.toNat c (by rw [hd]; exact List.mem_cons_self)
    rw [h.1] at this
    have h45 : (45 : UInt8).toNat = 45 := rfl
    omega
theorem split_lin {l : LN} (h : l ≠ []) : split (linT l) [32] = l.map termT := by
  rw [lin_join h]
  refine split_one _ (by simpa using h) ?_
  intro p hp x hx
  obtain ⟨t, _, rfl⟩ := List.mem_map.1 hp
  exact term_no (.inl (by decide)) (by decide) t x hx
theorem linO_text {l : LN} (h : lOk l) : linO (linT l) = some l := by
  cases l with
  | nil => rfl
  | cons x r =>
    rw [linO, if_neg (lin_ne45 x r), split_lin (by simp)]
    exact mapO_of _ fun y hy => termO_text (h y hy)
theorem linO_spec {s : List UInt8} {l : LN} (h : linO s = some l) : linT l = s ∧ lOk l := by
  unfold linO at h
  split at h
  · rename_i e
    injection h with h
    subst h e
    exact ⟨rfl, fun x hx => by cases hx⟩
  · obtain ⟨e1, e2⟩ := mapO_spec (g := termT) (p := tOk) (fun a b hb => termO_spec hb) _ _ h
    refine ⟨?_, e2⟩
    have hne : l ≠ [] := by
      intro e
      subst e
      obtain ⟨x, r, hx⟩ := splitK_ne [32] (count s [32]) s
      rw [split, hx] at e1
      cases e1
    rw [lin_join hne, ← e1, join_split]
def row3 (f : List UInt8 → Option LN) (s : List UInt8) : Option R3 :=
  if s.take 4 = [114, 111, 119, 32] then
    match split (s.drop 4) [32, 124, 32] with
    | [a, b, c] => match f a, f b, f c with
      | some x, some y, some z => some (x, y, z)
      | _, _, _ => none
    | _ => none
  else none
def rowO (s : List UInt8) : Option R3 := row3 linO s
theorem row3_text {f : List UInt8 → Option LN} {r : R3} (h1 : f (linT r.1) = some r.1) (h2 : f (linT r.2.1) = some r.2.1) (h3 : f (linT r.2.2) = some r.2.2) : row3 f (rowX r) = some r := by
  have t1 : (rowX r).take 4 = [114, 111, 119, 32] := by simp [rowX]
  have t2 : (rowX r).drop 4 = linT r.1 ++ ([32, 124, 32] ++ (linT r.2.1 ++ ([32, 124, 32] ++ linT r.2.2))) := by simp [rowX]
  have no : ∀ l : LN, ∀ w, w ∈ linT l → w ≠ (124 : UInt8) := fun l => lin_no (.inr (by decide)) (by decide) (by decide) (by decide) l
  rw [row3, if_pos t1, t2, split_three (by decide) (no _) (no _) (no _)]
  simp only [h1, h2, h3]
theorem rowO_text {r : R3} (h : rOk r) : rowO (rowX r) = some r := row3_text (linO_text h.1) (linO_text h.2.1) (linO_text h.2.2)
theorem take_drop4 {s p : List UInt8} (h : s.take 4 = p) : s = p ++ s.drop 4 := by rw [← h, List.take_append_drop]
theorem join3 (a b c sep : List UInt8) : join [a, b, c] sep = a ++ (sep ++ (b ++ (sep ++ c))) := by rw [join_cons2, join_cons2, join_one]
theorem rowO_spec {s : List UInt8} {r : R3} (h : rowO s = some r) : rowX r = s ∧ rOk r := by
  unfold rowO row3 at h
  split at h
  · rename_i ht
    split at h
    · rename_i a b c hs
      split at h
      · rename_i x y z hx hy hz
        injection h with h
        subst h
        obtain ⟨e1, o1⟩ := linO_spec hx
        obtain ⟨e2, o2⟩ := linO_spec hy
        obtain ⟨e3, o3⟩ := linO_spec hz
        refine ⟨?_, o1, o2, o3⟩
        have hj := join_split (s.drop 4) [32, 124, 32]
        rw [hs, join3] at hj
        rw [take_drop4 ht, ← hj, ← e1, ← e2, ← e3]
        rfl
      · cases h
    · cases h
  · cases h
def sizesO (s : List UInt8) : Option (Int × Int × Int) :=
  match split s [32] with
  | [a, b, c, d] => if a = [116, 97, 98, 108, 101] then
      (match numO b, numO c, numO d with
      | some p, some u, some v => if u ≤ 65536 ∧ v ≤ 65536 then some ((p : Int), (u : Int), (v : Int)) else none
      | _, _, _ => none) else none
  | _ => none
def hOk (h : Int × Int × Int) : Prop := 0 ≤ h.1 ∧ h.1 ≤ 18446744073709551615 ∧ 0 ≤ h.2.1 ∧ h.2.1 ≤ 65536 ∧ 0 ≤ h.2.2 ∧ h.2.2 ≤ 65536
theorem head_join (h : Int × Int × Int) : headX h = join [[116, 97, 98, 108, 101], decDigits h.1.toNat, decDigits h.2.1.toNat, decDigits h.2.2.toNat] [32] := by
  rw [join_cons2, join_cons2, join_cons2, join_one]
  rfl
theorem split_head (h : Int × Int × Int) : split (headX h) [32] = [[116, 97, 98, 108, 101], decDigits h.1.toNat, decDigits h.2.1.toNat, decDigits h.2.2.toNat] := by
  rw [head_join]
  refine split_one _ (by simp) ?_
  intro p hp x hx
  simp only [List.mem_cons, List.not_mem_nil, or_false] at hp
  rcases hp with rfl | rfl | rfl | rfl
  · intro e
    subst e
    revert hx
    decide
  · exact dec_no (.inl (by decide)) _ x hx
  · exact dec_no (.inl (by decide)) _ x hx
  · exact dec_no (.inl (by decide)) _ x hx
theorem sizesO_text {h : Int × Int × Int} (hh : hOk h) : sizesO (headX h) = some h := by
  obtain ⟨h1, h2, h3, h4, h5, h6⟩ := hh
  rw [sizesO, split_head]
  simp only [if_true]
  rw [numO_dec (by omega), numO_dec (by omega), numO_dec (by omega)]
  simp only
  rw [if_pos (by omega), toNat_eq h1, toNat_eq h3, toNat_eq h5]
theorem sizesO_spec {s : List UInt8} {h : Int × Int × Int} (hs : sizesO s = some h) : headX h = s ∧ hOk h := by
  unfold sizesO at hs
  split at hs
  · rename_i a b c d he
    split at hs
    · rename_i ha
      split at hs
      · rename_i p u v hp hu hv
        split at hs
        · rename_i hle
          injection hs with hs
          subst hs
          obtain ⟨e1, b1⟩ := numO_spec hp
          obtain ⟨e2, b2⟩ := numO_spec hu
          obtain ⟨e3, b3⟩ := numO_spec hv
          refine ⟨?_, by simp only; omega, by simp only; omega, by simp only; omega, by simp only; omega, by simp only; omega, by simp only; omega⟩
          have hj := join_split s [32]
          rw [he] at hj
          rw [head_join]
          simp only [Int.toNat_natCast]
          rw [← e1, ← e2, ← e3, ← ha]
          exact hj
        · cases hs
      · cases hs
    · cases hs
  · cases hs
/-! ### The reference's reader -/
def rnumF : Nat → List UInt8 → Option Nat
  | n, [] => some n
  | n, c :: r => if isDg c = true ∧ n * 10 + (c.toNat - 48) ≤ 18446744073709551615 then rnumF (n * 10 + (c.toNat - 48)) r else none
def rnum (s : List UInt8) : Option Nat := if s = [] then none else rnumF 0 s
theorem rnumF_le : ∀ (l : List UInt8) (n u : Nat), n ≤ 18446744073709551615 → rnumF n l = some u → u ≤ 18446744073709551615 := by
  intro l
  induction l with
  | nil => intro n u hn h; injection h with h; omega
  | cons c r ih =>
    intro n u hn h
    rw [rnumF] at h
    split at h
    · rename_i hc
      exact ih _ _ hc.2 h
    · cases h
theorem rnum_le {l : List UInt8} {u : Nat} (h : rnum l = some u) : u ≤ 18446744073709551615 := by
  unfold rnum at h
  split at h
  · cases h
  · exact rnumF_le _ _ _ (by omega) h
theorem rnumF_dec (u : Nat) : ∀ (r : List UInt8), u ≤ 18446744073709551615 → rnumF 0 (decDigits u ++ r) = rnumF u r := by
  induction u using Nat.strongRecOn with
  | _ u ih =>
    intro r hu
    rw [decDigits]
    split
    · rename_i h
      have hd := dchr h
      have hg : isDg (UInt8.ofNat (48 + u)) = true := isDg_iff.2 (by omega)
      rw [List.cons_append, List.nil_append, rnumF, if_pos ⟨hg, by omega⟩, hd]
      congr 1
      omega
    · rename_i h
      have hd := dchr (k := u % 10) (by omega)
      have hg : isDg (UInt8.ofNat (48 + u % 10)) = true := isDg_iff.2 (by omega)
      rw [List.append_assoc, ih (u / 10) (by omega) _ (by omega), List.cons_append, List.nil_append, rnumF, if_pos ⟨hg, by omega⟩, hd]
      congr 1
      omega
theorem rnum_dec {u : Nat} (hu : u ≤ 18446744073709551615) : rnum (decDigits u) = some u := by
  have := rnumF_dec u [] hu
  rw [List.append_nil] at this
  rw [rnum, if_neg (dec_nil u), this]
  rfl
def least (n : Nat) : Int := if 1000000 < n then 1000000 else (n : Int)
def termR (t : List UInt8) : Option (Int × Int) := match mapO rnum (split t [58]) with
  | some [a, b] => some (least a, (b : Int))
  | _ => none
theorem split_term (x : Int × Int) : split (termT x) [58] = [decDigits x.1.toNat, decDigits x.2.toNat] := by
  have e : termT x = join [decDigits x.1.toNat, decDigits x.2.toNat] [58] := by rw [join_cons2, join_one]; rfl
  rw [e]
  refine split_one _ (by simp) ?_
  intro p hp
  simp only [List.mem_cons, List.not_mem_nil, or_false] at hp
  rcases hp with rfl | rfl
  · exact dec_no58 _
  · exact dec_no58 _
theorem termR_text {x : Int × Int} (h : tOk x) : termR (termT x) = some x := by
  obtain ⟨h1, h2, h3, h4⟩ := h
  rw [termR, split_term]
  simp only [mapO, rnum_dec (u := x.1.toNat) (by omega), rnum_dec (u := x.2.toNat) (by omega)]
  rw [least, if_neg (by omega), toNat_eq h1, toNat_eq h3]
def linR (s : List UInt8) : Option LN := if s = [45] then some [] else mapO termR (split s [32])
theorem linR_text {l : LN} (h : lOk l) : linR (linT l) = some l := by
  cases l with
  | nil => rfl
  | cons x r =>
    rw [linR, if_neg (lin_ne45 x r), split_lin (by simp)]
    exact mapO_of _ fun y hy => termR_text (h y hy)
/-- The row of a line, as the reference reads it. -/
def furR (s : List UInt8) : Option R3 := match row3 linR s with
  | some r => if rowX r = s then some r else none
  | none => none
theorem furR_text {r : R3} (h : rOk r) : furR (rowX r) = some r := by
  have := row3_text (f := linR) (r := r) (linR_text h.1) (linR_text h.2.1) (linR_text h.2.2)
  simp only [furR, this, if_true]
theorem furR_spec {s : List UInt8} {r : R3} (h : furR s = some r) : rowX r = s := by
  unfold furR at h
  split at h
  · split at h
    · rename_i he
      injection h with h
      subst h
      exact he
    · cases h
  · cases h
/-- The sizes of a first line, as the reference reads them. -/
def fstC (s : List UInt8) : Option (Int × Int × Int) := match split s [32] with
  | [a, b, c, d] => match rnum b, rnum c, rnum d with
    | some p, some u, some v => some ((p : Int), least u, least v)
    | _, _, _ => none
  | _ => none
theorem fstC_text {h : Int × Int × Int} (hh : hOk h) : fstC (headX h) = some h := by
  obtain ⟨h1, h2, h3, h4, h5, h6⟩ := hh
  rw [fstC, split_head]
  simp only [rnum_dec (u := h.1.toNat) (by omega), rnum_dec (u := h.2.1.toNat) (by omega), rnum_dec (u := h.2.2.toNat) (by omega)]
  rw [least, least, if_neg (by omega), if_neg (by omega), toNat_eq h1, toNat_eq h3, toNat_eq h5]
/-! ### Both -/
def filt {α : Type} (V : α → Bool) (o : Option α) : Option α := match o with
  | some a => if V a = true then some a else none
  | none => none
theorem filt_iff {α : Type} {V : α → Bool} {o : Option α} {a : α} : filt V o = some a ↔ o = some a ∧ V a = true := by
  cases o with
  | none => simp [filt]
  | some b =>
    simp only [filt]
    constructor
    · intro h
      split at h
      · rename_i hv
        injection h with h
        subst h
        exact ⟨rfl, hv⟩
      · cases h
    · rintro ⟨h1, h2⟩
      injection h1 with h1
      subst h1
      rw [if_pos h2]
theorem row_same {V : R3 → Bool} (hV : ∀ r, V r = true → rOk r) (s : List UInt8) : filt V (rowO s) = filt V (furR s) := by
  have key : ∀ r, filt V (rowO s) = some r ↔ filt V (furR s) = some r := by
    intro r
    rw [filt_iff, filt_iff]
    constructor
    · rintro ⟨h1, h2⟩
      refine ⟨?_, h2⟩
      rw [← (rowO_spec h1).1]
      exact furR_text (hV r h2)
    · rintro ⟨h1, h2⟩
      refine ⟨?_, h2⟩
      rw [← furR_spec h1]
      exact rowO_text (hV r h2)
  cases h1 : filt V (rowO s) with
  | some r => rw [(key r).1 h1]
  | none =>
    cases h2 : filt V (furR s) with
    | none => rfl
    | some r => rw [(key r).2 h2] at h1; cases h1
def fstV (V : Int × Int × Int → Bool) (s : List UInt8) : Option (Int × Int × Int) := match fstC s with
  | some h => if V h = true ∧ headX h = s then some h else none
  | none => none
theorem head_same {V : Int × Int × Int → Bool} (hV : ∀ h, V h = true → hOk h) (s : List UInt8) : filt V (sizesO s) = fstV V s := by
  have k2 : ∀ h, fstV V s = some h ↔ headX h = s ∧ V h = true := by
    intro h
    unfold fstV
    constructor
    · intro hh
      split at hh
      · split at hh
        · rename_i hc
          injection hh with hh
          subst hh
          exact ⟨hc.2, hc.1⟩
        · cases hh
      · cases hh
    · rintro ⟨h1, h2⟩
      have := fstC_text (hV h h2)
      rw [h1] at this
      simp only [this, h1, h2, and_self, if_true]
  have k1 : ∀ h, filt V (sizesO s) = some h ↔ headX h = s ∧ V h = true := by
    intro h
    rw [filt_iff]
    constructor
    · rintro ⟨h1, h2⟩
      exact ⟨(sizesO_spec h1).1, h2⟩
    · rintro ⟨h1, h2⟩
      refine ⟨?_, h2⟩
      rw [← h1]
      exact sizesO_text (hV h h2)
  cases h1 : filt V (sizesO s) with
  | some r => exact ((k2 r).2 ((k1 r).1 h1)).symm
  | none =>
    cases h2 : fstV V s with
    | none => rfl
    | some r => rw [(k1 r).2 ((k2 r).1 h2)] at h1; cases h1
/-- The rows of the lines behind the first; the number of the first wrong line. -/
def goR (f : List UInt8 → Option R3) : Nat → List R3 → List (List UInt8) → Nat ⊕ List R3
  | line, rows, [] => .inr rows
  | line, rows, l :: r => if r = [] then (if l = [] then .inr rows else .inl line)
    else match f l with
      | some x => if rows.length = 16384 then .inl line else goR f (line + 1) (rows ++ [x]) r
      | none => .inl line
theorem goR_same {f g : List UInt8 → Option R3} (h : ∀ s, f s = g s) : f = g := funext h
theorem goR_text {f : List UInt8 → Option R3} : ∀ (rs : List R3) (line : Nat) (rows : List R3), rows.length + rs.length ≤ 16384 → (∀ r, r ∈ rs → f (rowX r) = some r) → goR f line rows (rs.map rowX ++ [[]]) = .inr (rows ++ rs) := by
  intro rs
  induction rs with
  | nil => intro line rows _ _; simp [goR]
  | cons r rs ih =>
    intro line rows hl h
    simp only [List.map_cons, List.cons_append, goR]
    rw [if_neg (by simp)]
    simp only [h r List.mem_cons_self]
    rw [if_neg (by simp at hl; omega), ih _ _ (by simp at hl ⊢; omega) fun x hx => h x (List.mem_cons_of_mem _ hx)]
    simp
end Go.Pi
