/- The plain law: the text of a valid table determines it. -/
import Derived.Test.YtbkphlhmbllbiaaDoorE7
import Derived.Test.YtbkphlhmbllbiaaDoorE8
set_option linter.unusedVariables false
set_option linter.unusedSimpArgs false
namespace Go.Proofs.YtbkphlhmbllbiaaDoor
open Go.Pi Go.Lib

def isD (c : UInt8) : Prop := 48 ≤ c.toNat ∧ c.toNat ≤ 57
theorem dchar {k : Nat} (h : k < 10) : (UInt8.ofNat (48 + k)).toNat = 48 + k := by
  rw [UInt8.toNat_ofNat']
  exact Nat.mod_eq_of_lt (by omega)
theorem dec_isD (n : Nat) : ∀ c, c ∈ decDigits n → isD c := by
  induction n using Nat.strongRecOn with
  | _ n ih =>
    intro c hc
    rw [decDigits] at hc
    split at hc
    · rename_i h
      simp only [List.mem_singleton] at hc
      subst hc
      have := dchar h
      exact ⟨by omega, by omega⟩
    · rename_i h
      rcases List.mem_append.1 hc with e | e
      · exact ih (n / 10) (by omega) c e
      · simp only [List.mem_singleton] at e
        subst e
        have := dchar (k := n % 10) (by omega)
        exact ⟨by omega, by omega⟩
def valD (l : List UInt8) : Nat := l.foldl (fun a c => a * 10 + (c.toNat - 48)) 0
theorem valD_dec (n : Nat) : valD (decDigits n) = n := by
  induction n using Nat.strongRecOn with
  | _ n ih =>
    rw [decDigits]
    split
    · rename_i h
      simp only [valD, List.foldl_cons, List.foldl_nil, dchar h]
      omega
    · rename_i h
      have := ih (n / 10) (by omega)
      simp only [valD] at this
      simp only [valD, List.foldl_append, List.foldl_cons, List.foldl_nil, this, dchar (k := n % 10) (by omega)]
      omega
theorem cutD : ∀ (a b r s : List UInt8) (c d : UInt8), (∀ x, x ∈ a → isD x) → (∀ x, x ∈ b → isD x) → ¬ isD c → ¬ isD d → a ++ c :: r = b ++ d :: s → a = b ∧ c = d ∧ r = s := by
  intro a
  induction a with
  | nil =>
    intro b r s c d ha hb hc hd h
    cases b with
    | nil => simp only [List.nil_append, List.cons.injEq] at h; exact ⟨rfl, h.1, h.2⟩
    | cons y b =>
      simp only [List.nil_append, List.cons_append, List.cons.injEq] at h
      exact absurd (hb y List.mem_cons_self) (by rw [← h.1]; exact hc)
  | cons x a ih =>
    intro b r s c d ha hb hc hd h
    cases b with
    | nil =>
      simp only [List.nil_append, List.cons_append, List.cons.injEq] at h
      exact absurd (ha x List.mem_cons_self) (by rw [h.1]; exact hd)
    | cons y b =>
      simp only [List.cons_append, List.cons.injEq] at h
      obtain ⟨q1, q2, q3⟩ := ih b r s c d (fun z hz => ha z (List.mem_cons_of_mem _ hz)) (fun z hz => hb z (List.mem_cons_of_mem _ hz)) hc hd h.2
      exact ⟨by rw [h.1, q1], q2, q3⟩
theorem dec_cut {m n : Nat} {c d : UInt8} {r s : List UInt8} (hc : ¬ isD c) (hd : ¬ isD d) (h : decDigits m ++ c :: r = decDigits n ++ d :: s) : m = n ∧ c = d ∧ r = s := by
  obtain ⟨q1, q2, q3⟩ := cutD _ _ r s c d (dec_isD m) (dec_isD n) hc hd h
  refine ⟨?_, q2, q3⟩
  rw [← valD_dec m, q1, valD_dec]
theorem nD58 : ¬ isD 58 := by unfold isD; decide
theorem nD32 : ¬ isD 32 := by unfold isD; decide
theorem nD10 : ¬ isD 10 := by unfold isD; decide
theorem nD45 : ¬ isD 45 := by unfold isD; decide
theorem nD124 : ¬ isD 124 := by unfold isD; decide
theorem term_cut {x y : Int × Int} (hx : 0 ≤ x.1 ∧ 0 ≤ x.2) (hy : 0 ≤ y.1 ∧ 0 ≤ y.2) {c d : UInt8} {r s : List UInt8} (hc : ¬ isD c) (hd : ¬ isD d) (h : termT x ++ c :: r = termT y ++ d :: s) : x = y ∧ c :: r = d :: s := by
  simp only [termT, List.append_assoc, List.cons_append] at h
  obtain ⟨q1, -, q3⟩ := dec_cut nD58 nD58 h
  obtain ⟨q4, q5, q6⟩ := dec_cut hc hd q3
  refine ⟨Prod.ext (by omega) (by omega), by rw [q5, q6]⟩
def Stop (r : List UInt8) : Prop := ∃ c r', r = c :: r' ∧ ¬ isD c ∧ (c = 32 → ∃ d r'', r' = d :: r'' ∧ ¬ isD d)
theorem term_head (x : Int × Int) : ∃ c r, termT x = c :: r ∧ isD c := by
  have h := dec_isD x.1.toNat
  cases e : decDigits x.1.toNat with
  | nil => exact absurd e (dec_ne _)
  | cons c r => exact ⟨c, r ++ 58 :: decDigits x.2.toNat, by simp [termT, e], h c (by rw [e]; exact List.mem_cons_self)⟩
theorem more_head (l : List (Int × Int)) {r : List UInt8} (hr : Stop r) : ∃ c r', moreT l ++ r = c :: r' ∧ ¬ isD c := by
  cases l with
  | nil => obtain ⟨c, r', h, hc, -⟩ := hr; exact ⟨c, r', by simp [moreT, h], hc⟩
  | cons x l => exact ⟨32, termT x ++ moreT l ++ r, by simp [moreT], nD32⟩
theorem stop_no {x : Int × Int} {r t : List UInt8} (hr : Stop r) (h : r = 32 :: (termT x ++ t)) : False := by
  obtain ⟨c, r', h1, hc, h2⟩ := hr
  rw [h1] at h
  simp only [List.cons.injEq] at h
  obtain ⟨d, r'', h3, h4⟩ := h2 h.1
  obtain ⟨e, q, h5, h6⟩ := term_head x
  rw [h3, h5] at h
  simp only [List.cons_append, List.cons.injEq] at h
  rw [h.2.1] at h4
  exact h4 h6
theorem more_cut : ∀ (l m : List (Int × Int)) (r s : List UInt8), nnW l → nnW m → Stop r → Stop s → moreT l ++ r = moreT m ++ s → l = m ∧ r = s := by
  intro l
  induction l with
  | nil =>
    intro m r s hl hm hr hs h
    cases m with
    | nil => exact ⟨rfl, by simpa [moreT] using h⟩
    | cons y m =>
      simp only [moreT, List.nil_append, List.cons_append, List.append_assoc] at h
      exact (stop_no hr h).elim
  | cons x l ih =>
    intro m r s hl hm hr hs h
    cases m with
    | nil =>
      simp only [moreT, List.nil_append, List.cons_append, List.append_assoc] at h
      exact (stop_no hs h.symm).elim
    | cons y m =>
      simp only [moreT, List.cons_append, List.append_assoc, List.cons.injEq, true_and] at h
      obtain ⟨c, r', e1, hc⟩ := more_head l hr
      obtain ⟨d, s', e2, hd⟩ := more_head m hs
      rw [e1, e2] at h
      have hx := hl x List.mem_cons_self
      have hy := hm y List.mem_cons_self
      obtain ⟨q1, q2⟩ := term_cut ⟨hx.1, hx.2.2.1⟩ ⟨hy.1, hy.2.2.1⟩ hc hd h
      rw [← e1, ← e2] at q2
      obtain ⟨q3, q4⟩ := ih m r s (fun t ht => hl t (List.mem_cons_of_mem _ ht)) (fun t ht => hm t (List.mem_cons_of_mem _ ht)) hr hs q2
      exact ⟨by rw [q1, q3], q4⟩
theorem lin_cut {l m : List (Int × Int)} {r s : List UInt8} (hl : nnW l) (hm : nnW m) (hr : Stop r) (hs : Stop s) (h : linT l ++ r = linT m ++ s) : l = m ∧ r = s := by
  cases l with
  | nil =>
    cases m with
    | nil => exact ⟨rfl, by simpa [linT] using h⟩
    | cons y m =>
      obtain ⟨c, q, h1, h2⟩ := term_head y
      simp only [linT, h1, List.cons_append, List.cons.injEq] at h
      rw [← h.1] at h2
      exact (nD45 h2).elim
  | cons x l =>
    cases m with
    | nil =>
      obtain ⟨c, q, h1, h2⟩ := term_head x
      simp only [linT, h1, List.cons_append, List.cons.injEq] at h
      rw [h.1] at h2
      exact (nD45 h2).elim
    | cons y m =>
      apply more_cut (x :: l) (y :: m) r s hl hm hr hs
      simp only [linT, List.append_assoc] at h
      simp only [moreT, List.cons_append, List.append_assoc, h]
theorem stop1 (t : List UInt8) : Stop (32 :: 124 :: t) := ⟨32, _, rfl, nD32, fun _ => ⟨124, _, rfl, nD124⟩⟩
theorem stop2 (t : List UInt8) : Stop (10 :: t) := ⟨10, _, rfl, nD10, fun h => absurd h (by decide)⟩
theorem row_cut {x y : Row} {r s : List UInt8} (hx : rowV x) (hy : rowV y) (h : rowT x ++ r = rowT y ++ s) : eqRow x y = true ∧ r = s := by
  obtain ⟨a1, a2, a3, -⟩ := hx
  obtain ⟨b1, b2, b3, -⟩ := hy
  simp only [rowT, List.append_assoc, List.cons_append, List.nil_append, List.cons.injEq, true_and] at h
  obtain ⟨q1, h⟩ := lin_cut a1 b1 (stop1 _) (stop1 _) h
  simp only [List.cons.injEq, true_and] at h
  obtain ⟨q2, h⟩ := lin_cut a2 b2 (stop1 _) (stop1 _) h
  simp only [List.cons.injEq, true_and] at h
  obtain ⟨q3, h⟩ := lin_cut a3 b3 (stop2 _) (stop2 _) h
  simp only [List.cons.injEq, true_and] at h
  exact ⟨by simp [eqRow, q1, q2, q3], h⟩
theorem rows_cut : ∀ (l m : List Row), (∀ r, r ∈ l → rowV r) → (∀ r, r ∈ m → rowV r) → l.flatMap rowT = m.flatMap rowT → eqRows l m = true := by
  intro l
  induction l with
  | nil =>
    intro m hl hm h
    cases m with
    | nil => rfl
    | cons y m => simp [rowT] at h
  | cons x l ih =>
    intro m hl hm h
    cases m with
    | nil => simp [rowT] at h
    | cons y m =>
      simp only [List.flatMap_cons] at h
      obtain ⟨q1, q2⟩ := row_cut (hl x List.mem_cons_self) (hm y List.mem_cons_self) h
      simp only [eqRows, q1, Bool.true_and]
      exact ih m (fun t ht => hl t (List.mem_cons_of_mem _ ht)) (fun t ht => hm t (List.mem_cons_of_mem _ ht)) q2
theorem rows_eq : ∀ (l m : List Row), eqRows l m = true → l.flatMap rowT = m.flatMap rowT := by
  intro l
  induction l with
  | nil => intro m h; cases m with
    | nil => rfl
    | cons y m => simp [eqRows] at h
  | cons x l ih => intro m h; cases m with
    | nil => simp [eqRows] at h
    | cons y m =>
      simp only [eqRows, eqRow, Bool.and_eq_true, decide_eq_true_eq] at h
      simp only [List.flatMap_cons, ih m h.2, rowT, h.1.1.1, h.1.1.2, h.1.2]
theorem fmt_same {a b : Tab} (pa : 0 ≤ a.p ∧ 0 ≤ a.pub ∧ 0 ≤ a.vars) (pb : 0 ≤ b.p ∧ 0 ≤ b.pub ∧ 0 ≤ b.vars) (ha : ∀ r, r ∈ a.rows → rowV r) (hb : ∀ r, r ∈ b.rows → rowV r) : decide (fmtT a = fmtT b) = sameT a b := by
  cases e : sameT a b with
  | true =>
    simp only [sameT, Bool.and_eq_true, decide_eq_true_eq] at e
    simp only [decide_eq_true_eq, fmtT, headT, e.1.1.1, e.1.1.2, e.1.2, rows_eq _ _ e.2]
  | false =>
    simp only [decide_eq_false_iff_not]
    intro h
    simp only [fmtT, headT, List.append_assoc, List.cons_append, List.nil_append, List.cons.injEq, true_and] at h
    obtain ⟨q1, -, h⟩ := dec_cut nD32 nD32 h
    obtain ⟨q2, -, h⟩ := dec_cut nD32 nD32 h
    obtain ⟨q3, -, h⟩ := dec_cut nD10 nD10 h
    have q4 := rows_cut _ _ ha hb h
    have : sameT a b = true := by
      simp only [sameT, q4, Bool.and_true, Bool.and_eq_true, decide_eq_true_eq]
      exact ⟨⟨by omega, by omega⟩, by omega⟩
    rw [e] at this
    cases this
end Go.Proofs.YtbkphlhmbllbiaaDoor
