/- Plain: the text of an address, how it is read. No program in sight. -/
import Derived.Test.YtienhfkjhdbnbaaDoorKx1
import Derived.Lib.Split
import Derived.Lib.IndexBytes
import Derived.Lib.ParseIntB
import Derived.Lib.Join
set_option linter.unusedVariables false
set_option linter.unusedSimpArgs false
namespace Go.Pi
open Go.Lib
theorem dchr {k : Nat} (h : k < 10) : (UInt8.ofNat (48 + k)).toNat = 48 + k := by
  rw [UInt8.toNat_ofNat']
  exact Nat.mod_eq_of_lt (by omega)
theorem dec_dig (n : Nat) : ∀ c, c ∈ decDigits n → 48 ≤ c.toNat ∧ c.toNat ≤ 57 := by
  induction n using Nat.strongRecOn with
  | _ n ih =>
    intro c hc
    rw [decDigits] at hc
    split at hc
    · rename_i h
      simp only [List.mem_singleton] at hc
      subst hc
      have := dchr h
      exact ⟨by omega, by omega⟩
    · rename_i h
      rcases List.mem_append.1 hc with e | e
      · exact ih (n / 10) (by omega) c e
      · simp only [List.mem_singleton] at e
        subst e
        have := dchr (k := n % 10) (by omega)
        exact ⟨by omega, by omega⟩
theorem dec_no58 (n : Nat) : ∀ c, c ∈ decDigits n → c ≠ 58 := by
  intro c hc e
  have := dec_dig n c hc
  subst e
  have h58 : (58 : UInt8).toNat = 58 := rfl
  omega
theorem dec_nil (n : Nat) : decDigits n ≠ [] := by
  rw [decDigits]
  split <;> simp
theorem dec_le20 (u : Nat) (h : u ≤ 18446744073709551615) : 1 ≤ (decDigits u).length ∧ (decDigits u).length ≤ 20 := by
  rw [decDigits_length]
  rcases Nat.eq_zero_or_pos u with h0 | h0
  · subst h0; rw [nDigits_small (by omega)]; omega
  · obtain ⟨a, b⟩ := numDigits_eq u h0 (by omega)
    have := nDigits_pos u
    split at a <;> omega
/-- ParseUint of a decimal number. -/
theorem puM_dec (u : Nat) : ∀ (r : List UInt8), u ≤ 18446744073709551615 → parseUintM 18446744073709551615 0 (decDigits u ++ r) = parseUintM 18446744073709551615 u r := by
  induction u using Nat.strongRecOn with
  | _ u ih =>
    intro r hu
    rw [decDigits]
    split
    · rename_i h
      have hd := dchr h
      rw [List.cons_append, List.nil_append, parseUintM, if_pos (by omega), if_neg (by omega), if_neg (by omega), hd]
      congr 1
      omega
    · rename_i h
      have hd := dchr (k := u % 10) (by omega)
      rw [List.append_assoc, ih (u / 10) (by omega) _ (by omega), List.cons_append, List.nil_append, parseUintM, if_pos (by omega), if_neg (by omega), if_neg (by omega), hd]
      congr 1
      omega
def puO (l : List UInt8) : Option Nat := match parseUintB 64 l with
  | .ok u => some u
  | _ => none
theorem puB_dec (u : Nat) (hu : u ≤ 18446744073709551615) : parseUintB 64 (decDigits u) = .ok u := by
  rw [parseUintB, if_neg (dec_nil u)]
  have e : 2 ^ 64 - 1 = 18446744073709551615 := by decide
  have := puM_dec u [] hu
  rw [List.append_nil] at this
  rw [e, this]
  rfl
theorem puO_dec (u : Nat) (hu : u ≤ 18446744073709551615) : puO (decDigits u) = some u := by rw [puO, puB_dec u hu]
/-! ### Splitting at a colon -/
theorem idx_hit (c : UInt8) : ∀ (a r : List UInt8), (∀ x, x ∈ a → x ≠ c) → indexByte (a ++ c :: r) c = a.length := by
  intro a
  induction a with
  | nil => intro r h; simp [indexByte]
  | cons b a ih =>
    intro r h
    have e := ih r (fun x hx => h x (List.mem_cons_of_mem _ hx))
    have hb : (b == c) = false := by simpa using h b List.mem_cons_self
    rw [List.cons_append, indexByte, hb, e]
    have : (((a.length : Nat) : Int) == -1) = false := by
      simp only [beq_eq_false_iff_ne]; omega
    simp only [this, List.length_cons]
    simp
theorem idx_miss (c : UInt8) : ∀ (a : List UInt8), (∀ x, x ∈ a → x ≠ c) → indexByte a c = -1 := by
  intro a
  induction a with
  | nil => intro h; rfl
  | cons b a ih =>
    intro h
    have e := ih (fun x hx => h x (List.mem_cons_of_mem _ hx))
    have hb : (b == c) = false := by simpa using h b List.mem_cons_self
    rw [indexByte, hb, e]
    rfl
theorem splitK_hit {c : UInt8} {a r : List UInt8} (k : Nat) (h : ∀ x, x ∈ a → x ≠ c) : splitK [c] 0 (k + 1) (a ++ c :: r) = a :: splitK [c] 0 k r := by
  have e : index (a ++ c :: r) [c] = a.length := by rw [index_one, idx_hit c a r h]
  rw [splitK, e]
  have : (((a.length : Nat) : Int) == -1) = false := by
    simp only [beq_eq_false_iff_ne]; omega
  rw [this]
  simp
theorem splitK_miss {c : UInt8} {a : List UInt8} (k : Nat) (h : ∀ x, x ∈ a → x ≠ c) : splitK [c] 0 k a = [a] := by
  cases k with
  | zero => rfl
  | succ k =>
    have e : index a [c] = -1 := by rw [index_one, idx_miss c a h]
    rw [splitK, e]
    rfl
/-! ### Addresses -/
/-- Number, owner and point. -/
abbrev Adr := Int × Int × Int × Int
def pre5 : List UInt8 := [109, 111, 105, 100, 58]
def validA (a : Adr) : Bool := decide (0 ≤ a.1 ∧ a.1 < 4 ∧ a.2.1 < Pb ∧ a.2.2.1 < Pb ∧ a.2.2.2 < Pb ∧ (a.2.2.1 ≠ 0 ∨ a.2.2.2 ≠ 0))
/-- The numbers of an address are numbers of 64 bits. -/
def okA (a : Adr) : Prop := 0 ≤ a.2.1 ∧ a.2.1 ≤ 18446744073709551615 ∧ 0 ≤ a.2.2.1 ∧ a.2.2.1 ≤ 18446744073709551615 ∧ 0 ≤ a.2.2.2 ∧ a.2.2.2 ≤ 18446744073709551615
def partsA (a : Adr) : List (List UInt8) := [decDigits a.1.toNat, decDigits a.2.1.toNat, decDigits a.2.2.1.toNat, decDigits a.2.2.2.toNat]
def restA (a : Adr) : List UInt8 := decDigits a.1.toNat ++ 58 :: (decDigits a.2.1.toNat ++ 58 :: (decDigits a.2.2.1.toNat ++ 58 :: decDigits a.2.2.2.toNat))
def textA (a : Adr) : List UInt8 := pre5 ++ restA a
theorem join_parts (a : Adr) : join (partsA a) [58] = restA a := by
  simp [partsA, restA, join, List.intercalate, List.intersperse]
def fmtA (a : Adr) : List UInt8 × Int := if validA a = true then (textA a, 0) else ([], 1)
def zA : Adr := (0, 0, 0, 0)
/-- What a reader answers that has found the candidate c. -/
def finA (s : List UInt8) (c : Option Adr) : Adr × Int := match c with
  | none => (zA, 2)
  | some a => if (validA a && textA a == s) = true then (a, 0) else (zA, 2)
theorem fin_hit {s : List UInt8} {a : Adr} (hv : validA a = true) (ht : textA a = s) : finA s (some a) = (a, 0) := by
  have : (validA a && textA a == s) = true := by simp [hv, ht]
  simp only [finA, this, if_true]
theorem fin_same {s : List UInt8} {c d : Option Adr} (hc : ∀ a, c = some a → okA a) (hd : ∀ a, d = some a → okA a) (h1 : ∀ a, okA a → validA a = true → textA a = s → c = some a) (h2 : ∀ a, okA a → validA a = true → textA a = s → d = some a) : finA s c = finA s d := by
  by_cases h : ∃ a, okA a ∧ validA a = true ∧ textA a = s
  · obtain ⟨a, h0, hv, ht⟩ := h
    rw [h1 a h0 hv ht, h2 a h0 hv ht]
  · have go : ∀ c, (∀ a, c = some a → okA a) → finA s c = (zA, 2) := by
      intro c hc
      cases c with
      | none => rfl
      | some a =>
        simp only [finA]
        rw [if_neg]
        intro hh
        simp only [Bool.and_eq_true, beq_iff_eq] at hh
        exact h ⟨a, hc a rfl, hh.1, hh.2⟩
    rw [go c hc, go d hd]
/-- The program's candidate. -/
def candI (s : List UInt8) : Option Adr :=
  if s.take 5 = pre5 then
    match splitN (s.drop 5) [58] 5 with
    | [a, b, c, d] => match puO a, puO b, puO c, puO d with
      | some x, some y, some z, some w => if x < 4 then some ((x : Int), (y : Int), (z : Int), (w : Int)) else none
      | _, _, _, _ => none
    | _ => none
  else none
theorem puM_le (M : Nat) : ∀ (l : List UInt8) (acc u : Nat), acc ≤ M → parseUintM M acc l = .ok u → u ≤ M := by
  intro l
  induction l with
  | nil => intro acc u ha h; simp only [parseUintM, NumEnd.ok.injEq] at h; omega
  | cons c r ih =>
    intro acc u ha h
    rw [parseUintM] at h
    split at h
    · split at h
      · cases h
      · split at h
        · cases h
        · exact ih _ _ (by omega) h
    · cases h
theorem puO_le {l : List UInt8} {u : Nat} (h : puO l = some u) : u ≤ 18446744073709551615 := by
  unfold puO at h
  split at h
  · rename_i v hv
    injection h with h
    subst h
    rw [parseUintB] at hv
    split at hv
    · cases hv
    · have := puM_le _ _ _ _ (Nat.zero_le _) hv
      have e : 2 ^ 64 - 1 = 18446744073709551615 := by decide
      omega
  · cases h
theorem candI_ok {s : List UInt8} {a : Adr} (h : candI s = some a) : okA a := by
  unfold candI at h
  split at h
  · split at h
    · split at h
      · rename_i e1 e2 e3 e4
        split at h
        · injection h with h
          subst h
          have := puO_le e2
          have := puO_le e3
          have := puO_le e4
          exact ⟨by simp only; omega, by simp only; omega, by simp only; omega, by simp only; omega, by simp only; omega, by simp only; omega⟩
        · cases h
      · cases h
    · cases h
  · cases h
theorem valid_n {a : Adr} (h : validA a = true) : 0 ≤ a.1 ∧ a.1 < 4 := by
  unfold validA at h
  have := of_decide_eq_true h
  omega
theorem toNat_eq {x : Int} (h : 0 ≤ x) : ((x.toNat : Nat) : Int) = x := Int.toNat_of_nonneg h
theorem split_rest {a : Adr} : splitN (restA a) [58] 5 = partsA a := by
  have l1 := dec_nil a.1.toNat
  have l2 := dec_nil a.2.1.toNat
  have hl : 4 ≤ (restA a).length := by
    have := List.length_pos_iff.2 l1
    have := List.length_pos_iff.2 l2
    simp only [restA, List.length_append, List.length_cons]
    omega
  have e : min 5 ((restA a).length + 1) - 1 = 4 := by omega
  rw [splitN, e, restA, splitK_hit _ (dec_no58 _), splitK_hit _ (dec_no58 _), splitK_hit _ (dec_no58 _), splitK_miss _ (dec_no58 _)]
  rfl
theorem candI_text {a : Adr} (h0 : okA a) (hv : validA a = true) : candI (textA a) = some a := by
  obtain ⟨h1, h2, h3, h4, h5, h6⟩ := h0
  obtain ⟨n0, n1⟩ := valid_n hv
  have t1 : (textA a).take 5 = pre5 := by simp [textA, pre5]
  have t2 : (textA a).drop 5 = restA a := by simp [textA, pre5]
  rw [candI, if_pos t1, t2, split_rest]
  simp only [partsA, puO_dec a.1.toNat (by omega), puO_dec a.2.1.toNat (by omega), puO_dec a.2.2.1.toNat (by omega), puO_dec a.2.2.2.toNat (by omega)]
  rw [if_pos (by omega), toNat_eq n0, toNat_eq h1, toNat_eq h3, toNat_eq h5]
/-! ### The reference's candidate -/
def stepV (n : Int) (c : UInt8) : Int := (n * 10 + ((c.toNat : Int) - 48) % 256) % 18446744073709551616
def rp : List UInt8 → List Int → Int → List Int
  | [], l, n => l ++ [n]
  | c :: r, l, n => if c = 58 then rp r (l ++ [n]) 0 else rp r l (stepV n c)
theorem rp_dec (u : Nat) : ∀ (r : List UInt8) (l : List Int), u ≤ 18446744073709551615 → rp (decDigits u ++ r) l 0 = rp r l u := by
  induction u using Nat.strongRecOn with
  | _ u ih =>
    intro r l hu
    rw [decDigits]
    split
    · rename_i h
      have hd := dchr h
      have h58 : UInt8.ofNat (48 + u) ≠ 58 := by
        intro e
        rw [e] at hd
        have h58 : (58 : UInt8).toNat = 58 := rfl
        omega
      rw [List.cons_append, List.nil_append, rp, if_neg h58]
      congr 1
      unfold stepV
      rw [hd]
      omega
    · rename_i h
      have hd := dchr (k := u % 10) (by omega)
      have h58 : UInt8.ofNat (48 + u % 10) ≠ 58 := by
        intro e
        rw [e] at hd
        have h58 : (58 : UInt8).toNat = 58 := rfl
        omega
      rw [List.append_assoc, ih (u / 10) (by omega) _ _ (by omega), List.cons_append, List.nil_append, rp, if_neg h58]
      congr 1
      unfold stepV
      rw [hd]
      omega
theorem rp_sep (r : List UInt8) (l : List Int) (n : Int) : rp (58 :: r) l n = rp r (l ++ [n]) 0 := by rw [rp, if_pos rfl]
def nnL (l : List Int) : Prop := ∀ x, x ∈ l → 0 ≤ x ∧ x ≤ 18446744073709551615
theorem rp_nn : ∀ (s : List UInt8) (l : List Int) (n : Int), nnL l → 0 ≤ n → n ≤ 18446744073709551615 → nnL (rp s l n) := by
  intro s
  induction s with
  | nil =>
    intro l n hl h0 h1 x hx
    rcases List.mem_append.1 hx with e | e
    · exact hl x e
    · simp only [List.mem_singleton] at e; subst e; exact ⟨h0, h1⟩
  | cons c r ih =>
    intro l n hl h0 h1
    rw [rp]
    split
    · refine ih _ _ ?_ (by omega) (by omega)
      intro x hx
      rcases List.mem_append.1 hx with e | e
      · exact hl x e
      · simp only [List.mem_singleton] at e; subst e; exact ⟨h0, h1⟩
    · exact ih _ _ hl (by unfold stepV; omega) (by unfold stepV; omega)
def candR (s : List UInt8) : Option Adr :=
  match rp (s.drop 5) [] 0 with
  | [x, y, z, w] => if x ≤ 3 then some (x, y, z, w) else none
  | _ => none
theorem candR_ok {s : List UInt8} {a : Adr} (h : candR s = some a) : okA a := by
  have hn := rp_nn (s.drop 5) [] 0 (fun x hx => by cases hx) (by omega) (by omega)
  unfold candR at h
  split at h
  · rename_i x y z w e
    rw [e] at hn
    split at h
    · injection h with h
      subst h
      have h1 := hn y (by simp)
      have h2 := hn z (by simp)
      have h3 := hn w (by simp)
      exact ⟨h1.1, h1.2, h2.1, h2.2, h3.1, h3.2⟩
    · cases h
  · cases h
theorem candR_text {a : Adr} (h0 : okA a) (hv : validA a = true) : candR (textA a) = some a := by
  obtain ⟨h1, h2, h3, h4, h5, h6⟩ := h0
  obtain ⟨n0, n1⟩ := valid_n hv
  have t2 : (textA a).drop 5 = restA a := by simp [textA, pre5]
  have e4 := rp_dec a.2.2.2.toNat [] [a.1, a.2.1, a.2.2.1] (by omega)
  rw [List.append_nil] at e4
  have e : rp (restA a) [] 0 = [a.1, a.2.1, a.2.2.1, a.2.2.2] := by
    rw [restA, rp_dec _ _ _ (by omega), rp_sep, rp_dec _ _ _ (by omega), rp_sep, rp_dec _ _ _ (by omega), rp_sep, toNat_eq n0, toNat_eq h1, toNat_eq h3]
    simp only [List.nil_append, List.cons_append]
    rw [e4, toNat_eq h5]
    rfl
  rw [candR, t2, e]
  simp only
  rw [if_pos (by omega)]
/-- The two readers answer alike. -/
theorem parse_same (s : List UInt8) : finA s (candI s) = finA s (candR s) :=
  fin_same (fun _ => candI_ok) (fun _ => candR_ok) (fun a h0 hv ht => ht ▸ candI_text h0 hv) (fun a h0 hv ht => ht ▸ candR_text h0 hv)
theorem parse_text {a : Adr} (h0 : okA a) (hv : validA a = true) : finA (textA a) (candI (textA a)) = (a, 0) := by
  rw [candI_text h0 hv]
  exact fin_hit hv rfl
/-! ### Examples -/
theorem ex1 : finA [109, 111, 105, 100, 58, 48, 58, 53, 58, 50, 58, 49] (candI [109, 111, 105, 100, 58, 48, 58, 53, 58, 50, 58, 49]) = ((0, 5, 2, 1), 0) := by
  have e : textA (0, 5, 2, 1) = [109, 111, 105, 100, 58, 48, 58, 53, 58, 50, 58, 49] := by
    simp only [textA, restA, pre5]
    rw [decDigits_one (by decide), decDigits_one (by decide), decDigits_one (by decide), decDigits_one (by decide)]
    rfl
  have := parse_text (a := (0, 5, 2, 1)) (by unfold okA; decide) (by decide)
  rw [e] at this
  exact this
theorem ex2 : finA [109, 111, 105, 100, 58, 48, 48, 58, 53, 58, 50, 58, 49] (candI [109, 111, 105, 100, 58, 48, 48, 58, 53, 58, 50, 58, 49]) = (zA, 2) := by
  have e : textA (0, 5, 2, 1) = [109, 111, 105, 100, 58, 48, 58, 53, 58, 50, 58, 49] := by
    simp only [textA, restA, pre5]
    rw [decDigits_one (by decide), decDigits_one (by decide), decDigits_one (by decide), decDigits_one (by decide)]
    rfl
  have h : candI [109, 111, 105, 100, 58, 48, 48, 58, 53, 58, 50, 58, 49] = some (0, 5, 2, 1) := by decide +kernel
  rw [h, finA, e]
  decide
theorem ex3 : finA [109, 111, 105, 100, 58, 52, 58, 53, 58, 50, 58, 49] (candI [109, 111, 105, 100, 58, 52, 58, 53, 58, 50, 58, 49]) = (zA, 2) := by
  have h : candI [109, 111, 105, 100, 58, 52, 58, 53, 58, 50, 58, 49] = none := by decide +kernel
  rw [h]
  rfl
end Go.Pi
