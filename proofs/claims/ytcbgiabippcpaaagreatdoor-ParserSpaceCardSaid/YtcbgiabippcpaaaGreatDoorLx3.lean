/- LX 1: the lexer in plain words. No program in sight. -/
import Derived.Lib.Bytealg
import Derived.Lib.Index
namespace Go.Lx

def isLet (c : UInt8) : Bool := decide (97 ≤ c) && decide (c ≤ 122)
def isDig (c : UInt8) : Bool := decide (48 ≤ c) && decide (c ≤ 57)
def isNam (c : UInt8) : Bool := isLet c || isDig c || c == 95
def isBlk (c : UInt8) : Bool := c == 32 || c == 9 || c == 13 || c == 10
def span (p : UInt8 → Bool) : List UInt8 → Nat
  | [] => 0
  | c :: r => if p c then span p r + 1 else 0
/-- Blanks and comments ahead; the flag: inside a comment. -/
def gapM : Bool → List UInt8 → Nat
  | _, [] => 0
  | true, c :: r => gapM (c != 10) r + 1
  | false, c :: r => if isBlk c then gapM false r + 1 else if c == 45 && r.head? == some 45 then gapM true r + 1 else 0
abbrev gap (s : List UInt8) : Nat := gapM false s
def keywords : List (List UInt8) :=
  [[97, 110, 100], [97, 115, 115, 101, 114, 116], [98, 111, 111, 108], [102, 97, 108, 115, 101], [102, 105, 101, 108, 100], [102, 110], [102, 111, 114], [104, 97, 115, 104], [105, 110],
   [108, 101, 116], [110, 111, 116], [111, 114], [112, 117, 98, 108, 105, 99], [114, 101, 116, 117, 114, 110], [115, 101, 99, 114, 101, 116], [116, 114, 117, 101], [117, 105, 110, 116]]
def isPair (c d : UInt8) : Bool := (c == 46 && d == 46) || (c == 61 && d == 61) || (c == 33 && d == 61) || (c == 60 && d == 61)
def pairH (c : UInt8) : List UInt8 → Bool
  | [] => false
  | d :: _ => isPair c d
def singles : List UInt8 := [40, 41, 123, 125, 91, 93, 44, 59, 58, 63, 61, 60, 43, 45, 42]
def isSing (c : UInt8) : Bool := singles.contains c
def numV (l : List UInt8) : Nat := l.foldl (fun n c => 10 * n + (c.toNat - 48)) 0
structure Tok where
  kind : Nat
  text : List UInt8
  val : Nat
  pos : Nat
inductive Nx where
  | err (e : Nat)
  | ok (k n v : Nat)
def nextW (s : List UInt8) : Nx :=
  if keywords.contains (s.take (span isNam s)) then .ok 2 (span isNam s) 0 else if 24 < span isNam s then .err 3 else .ok 1 (span isNam s) 0
def nextD (s : List UInt8) : Nx :=
  if s.head? = some 48 ∧ 1 < span isDig s then .err 2 else if 18446744073709551615 < numV (s.take (span isDig s)) then .err 3 else .ok 3 (span isDig s) (numV (s.take (span isDig s)))
def next : List UInt8 → Nx
  | [] => .err 2
  | c :: r => if isLet c then nextW (c :: r) else if isDig c then nextD (c :: r) else if pairH c r then .ok 4 2 0 else if isSing c then .ok 4 1 0 else .err 2
inductive Res where
  | toks (l : List Tok)
  | err (p e : Nat)
def Res.cons (t : Tok) : Res → Res
  | .toks l => .toks (t :: l)
  | .err p e => .err p e
def lexR (pos : Nat) (s : List UInt8) : Res :=
  match _h : s.drop (gap s) with
  | [] => .toks [⟨0, [], 0, pos + s.length⟩]
  | c :: r => match next (c :: r) with
    | .err e => .err (pos + gap s) e
    | .ok k n v => (lexR (pos + gap s + (n - 1 + 1)) (r.drop (n - 1))).cons ⟨k, (c :: r).take n, v, pos + gap s⟩
termination_by s.length
decreasing_by
  have h1 := congrArg List.length _h
  simp only [List.length_drop, List.length_cons] at h1 ⊢
  omega

/-! ### Gaps -/
theorem gapM_le : ∀ (s : List UInt8) (m : Bool), gapM m s ≤ s.length := by
  intro s
  induction s with
  | nil => intro m; cases m <;> simp [gapM]
  | cons c r ih =>
    intro m
    cases m with
    | true => have := ih (c != 10); simp only [gapM, List.length_cons]; omega
    | false =>
      have h1 := ih false
      have h2 := ih true
      simp only [gapM, List.length_cons]
      split
      · omega
      · split <;> omega
theorem gap_app (sep : UInt8) (b : List UInt8) : ∀ (a : List UInt8) (m : Bool), gapM m a < a.length → (sep = 45 → a.getLast? ≠ some 45) → gapM m (a ++ sep :: b) = gapM m a := by
  intro a
  induction a with
  | nil => intro m h; simp at h
  | cons c r ih =>
    intro m h hs
    have hs' : r ≠ [] → sep = 45 → r.getLast? ≠ some 45 := by
      intro hr he
      have := hs he
      rw [List.getLast?_cons] at this
      cases r with
      | nil => exact absurd rfl hr
      | cons d r => rw [List.getLast?_cons] at this ⊢; simpa using this
    cases m with
    | true =>
      simp only [gapM, List.cons_append, List.length_cons] at h ⊢
      have hr : r ≠ [] := by intro e; subst e; simp [gapM] at h
      rw [ih _ (by omega) (hs' hr)]
    | false =>
      simp only [gapM, List.cons_append, List.length_cons] at h ⊢
      split at h
      · rename_i hb
        have hr : r ≠ [] := by intro e; subst e; simp [gapM] at h
        rw [if_pos hb, if_pos hb, ih _ (by omega) (hs' hr)]
      · rename_i hb
        rw [if_neg hb, if_neg hb]
        cases r with
        | nil =>
          have : (c == 45 && (([] : List UInt8) ++ sep :: b).head? == some 45) = false := by
            by_cases e1 : c = 45
            · by_cases e2 : sep = 45
              · exact absurd (by simp [e1]) (hs e2)
              · simp [e2]
            · simp [e1]
          rw [if_neg (by rw [this]; decide), if_neg (by simp)]
        | cons d r =>
          have e : ((d :: r) ++ sep :: b).head? = (d :: r).head? := rfl
          rw [e]
          split at h
          · rename_i hc
            rw [if_pos hc, if_pos hc, ih _ (by omega) (hs' (by simp))]
          · rename_i hc
            rw [if_neg hc, if_neg hc]
theorem gap_full (b : List UInt8) : ∀ (a : List UInt8) (m : Bool), gapM m a = a.length → gapM m (a ++ 10 :: b) = a.length + 1 + gapM false b := by
  intro a
  induction a with
  | nil => intro m _; cases m <;> simp [gapM, isBlk] <;> omega
  | cons c r ih =>
    intro m h
    cases m with
    | true =>
      simp only [gapM, List.cons_append, List.length_cons] at h ⊢
      rw [ih _ (by omega)]
      omega
    | false =>
      simp only [gapM, List.cons_append, List.length_cons] at h ⊢
      split at h
      · rename_i hb
        rw [if_pos hb, ih _ (by omega)]
        omega
      · rename_i hb
        rw [if_neg hb]
        split at h
        · rename_i hc
          have hc' : (c == 45 && (r ++ 10 :: b).head? == some 45) = true := by
            cases r with
            | nil => simp at hc
            | cons d r => exact hc
          rw [if_pos hc', ih _ (by omega)]
          omega
        · omega
theorem gap_comment (t : List UInt8) : ∀ (c : List UInt8), (∀ x, x ∈ c → x ≠ 10) → gapM true (c ++ 10 :: t) = c.length + 1 + gapM false t := by
  intro c
  induction c with
  | nil => intro _; simp [gapM]; omega
  | cons x r ih =>
    intro h
    have hx : (x != 10) = true := by simpa using h x List.mem_cons_self
    simp only [gapM, List.cons_append, List.length_cons, hx]
    rw [ih fun y hy => h y (List.mem_cons_of_mem _ hy)]
    omega
theorem gap_full2 (c t : List UInt8) (hc : ∀ x, x ∈ c → x ≠ 10) : ∀ (a : List UInt8) (m : Bool), gapM m a = a.length → gapM m (a ++ 45 :: 45 :: (c ++ 10 :: t)) = a.length + (c.length + 3) + gapM false t := by
  intro a
  induction a with
  | nil =>
    intro m _
    have := gap_comment t c hc
    have e1 : ((45 : UInt8) != 10) = true := by decide
    have e2 : isBlk 45 = false := by decide
    cases m <;> simp only [gapM, List.nil_append, e1, e2, this, List.length_nil, List.head?_cons, BEq.rfl, Bool.and_self, if_true, Bool.false_eq_true, if_false] <;> omega
  | cons x r ih =>
    intro m h
    cases m with
    | true =>
      simp only [gapM, List.cons_append, List.length_cons] at h ⊢
      rw [ih _ (by omega)]
      omega
    | false =>
      simp only [gapM, List.cons_append, List.length_cons] at h ⊢
      split at h
      · rename_i hb
        rw [if_pos hb, ih _ (by omega)]
        omega
      · rename_i hb
        rw [if_neg hb]
        split at h
        · rename_i hx
          have hx' : (x == 45 && (r ++ 45 :: 45 :: (c ++ 10 :: t)).head? == some 45) = true := by
            cases r with
            | nil => simp at hx
            | cons d r => exact hx
          rw [if_pos hx', ih _ (by omega)]
          omega
        · omega
theorem gap_take : ∀ (s : List UInt8) (m : Bool), gapM m (s.take (gapM m s)) = gapM m s := by
  intro s
  induction s with
  | nil => intro m; simp
  | cons c r ih =>
    intro m
    cases m with
    | true => simp only [gapM, List.take_succ_cons]; rw [ih]
    | false =>
      simp only [gapM]
      split
      · rename_i hb
        simp only [List.take_succ_cons, gapM, if_pos hb]
        rw [ih]
      · rename_i hb
        split
        · rename_i hc
          have hc' : (c == 45 && (r.take (gapM true r)).head? == some 45) = true := by
            cases r with
            | nil => simp at hc
            | cons d r => simpa [gapM] using hc
          simp only [List.take_succ_cons, gapM, if_neg hb, if_pos hc']
          rw [ih]
        · simp [gapM]
theorem gap_stop : ∀ (s : List UInt8) (m : Bool), gapM false (s.drop (gapM m s)) = 0 := by
  intro s
  induction s with
  | nil => intro m; simp [gapM]
  | cons c r ih =>
    intro m
    cases m with
    | true => simp only [gapM, List.drop_succ_cons]; exact ih _
    | false =>
      simp only [gapM]
      split
      · exact ih false
      · rename_i hb
        split
        · exact ih true
        · rename_i hc
          simp only [List.drop_zero, gapM, if_neg hb, if_neg hc]
theorem gap0_blk {c : UInt8} {r : List UInt8} (h : gapM false (c :: r) = 0) : isBlk c = false := by
  simp only [gapM] at h
  split at h
  · omega
  · rename_i hb; simpa using hb

/-! ### Tokens -/
theorem span_le (p : UInt8 → Bool) : ∀ (s : List UInt8), span p s ≤ s.length := by
  intro s
  induction s with
  | nil => simp [span]
  | cons c r ih => simp only [span, List.length_cons]; split <;> omega
theorem span_app (p : UInt8 → Bool) {sep : UInt8} (hs : p sep = false) (b : List UInt8) : ∀ (a : List UInt8), span p (a ++ sep :: b) = span p a := by
  intro a
  induction a with
  | nil => simp [span, hs]
  | cons c r ih => simp only [span, List.cons_append, ih]
theorem span_take (p : UInt8 → Bool) : ∀ (s : List UInt8), span p (s.take (span p s)) = span p s := by
  intro s
  induction s with
  | nil => simp
  | cons c r ih =>
    simp only [span]
    split
    · rename_i h; simp only [List.take_succ_cons, span, if_pos h, ih]
    · simp [span]
theorem span_full (p : UInt8 → Bool) : ∀ (s : List UInt8), (∀ c, c ∈ s → p c = true) → span p s = s.length := by
  intro s
  induction s with
  | nil => intro _; rfl
  | cons c r ih => intro h; simp only [span, h c List.mem_cons_self, if_true, List.length_cons, ih fun x hx => h x (List.mem_cons_of_mem _ hx)]
theorem span_all (p : UInt8 → Bool) : ∀ (s : List UInt8) (c : UInt8), c ∈ s.take (span p s) → p c = true := by
  intro s
  induction s with
  | nil => intro c h; simp at h
  | cons x r ih =>
    intro c h
    simp only [span] at h
    split at h
    · rename_i hx
      simp only [List.take_succ_cons, List.mem_cons] at h
      rcases h with rfl | h
      · exact hx
      · exact ih c h
    · simp at h
def isSep (c : UInt8) : Bool := isBlk c || c == 45
theorem sep_nam {c : UInt8} (h : isSep c = true) : isNam c = false ∧ isDig c = false ∧ isLet c = false := by
  simp only [isSep, isBlk, Bool.or_eq_true, beq_iff_eq] at h
  rcases h with (((h | h) | h) | h) | h <;> subst h <;> decide
theorem sep_pair {c d : UInt8} (h : isSep d = true) : isPair c d = false := by
  simp only [isSep, isBlk, Bool.or_eq_true, beq_iff_eq] at h
  rcases h with (((h | h) | h) | h) | h <;> subst h <;> simp [isPair]
theorem take_app {α : Type} {a b : List α} {n : Nat} (h : n ≤ a.length) : (a ++ b).take n = a.take n := by
  rw [List.take_append_of_le_length h]
theorem next_app {sep : UInt8} (hs : isSep sep = true) (b : List UInt8) {a : List UInt8} (ha : a ≠ []) : next (a ++ sep :: b) = next a := by
  obtain ⟨h1, h2, h3⟩ := sep_nam hs
  cases a with
  | nil => exact absurd rfl ha
  | cons c r =>
    have e1 := span_app isNam h1 b (c :: r)
    have e2 := span_app isDig h2 b (c :: r)
    have l1 := span_le isNam (c :: r)
    have l2 := span_le isDig (c :: r)
    have ep : pairH c (r ++ sep :: b) = pairH c r := by
      cases r with
      | nil => simp only [List.nil_append, pairH, sep_pair hs]
      | cons d r => rfl
    have w1 : nextW ((c :: r) ++ sep :: b) = nextW (c :: r) := by simp only [nextW, e1, take_app l1]
    have w2 : nextD ((c :: r) ++ sep :: b) = nextD (c :: r) := by
      have e3 : ((c :: r) ++ sep :: b).head? = (c :: r).head? := rfl
      simp only [nextD, e2, e3, take_app l2]
    show (if isLet c then nextW ((c :: r) ++ sep :: b) else if isDig c then nextD ((c :: r) ++ sep :: b) else if pairH c (r ++ sep :: b) then Nx.ok 4 2 0 else if isSing c then Nx.ok 4 1 0 else Nx.err 2) = _
    rw [w1, w2, ep]
    rfl
theorem next_pos {s : List UInt8} {k n v : Nat} (h : next s = .ok k n v) : 1 ≤ n ∧ n ≤ s.length := by
  cases s with
  | nil => simp [next] at h
  | cons c r =>
    have l1 := span_le isNam (c :: r)
    have l2 := span_le isDig (c :: r)
    simp only [next] at h
    split at h
    · rename_i hl
      have hp : 1 ≤ span isNam (c :: r) := by simp [span, isNam, hl]
      simp only [nextW] at h
      split at h
      · injection h; omega
      · split at h
        · cases h
        · injection h; omega
    · split at h
      · rename_i hl
        have hp : 1 ≤ span isDig (c :: r) := by simp [span, hl]
        simp only [nextD] at h
        split at h
        · cases h
        · split at h
          · cases h
          · injection h; omega
      · split at h
        · rename_i hp
          have : 1 ≤ r.length := by cases r with
            | nil => simp [pairH] at hp
            | cons d r => simp
          injection h
          simp only [List.length_cons]; omega
        · split at h
          · injection h; simp only [List.length_cons]; omega
          · cases h
theorem next_take {s : List UInt8} {k n v : Nat} (h : next s = .ok k n v) : next (s.take n) = .ok k n v := by
  have hp := next_pos h
  cases s with
  | nil => simp [next] at h
  | cons c r =>
    obtain ⟨m, rfl⟩ : ∃ m, n = m + 1 := ⟨n - 1, by omega⟩
    simp only [List.take_succ_cons]
    simp only [next] at h ⊢
    have w (p : UInt8 → Bool) (e : span p (c :: r) = m + 1) : span p (c :: r.take m) = m + 1 ∧ (c :: r.take m).take (m + 1) = (c :: r).take (m + 1) := by
      have := span_take p (c :: r)
      rw [e, List.take_succ_cons] at this
      exact ⟨this, by simp [List.take_take]⟩
    split at h
    · rename_i hl
      rw [if_pos hl]
      simp only [nextW] at h ⊢
      split at h
      · rename_i hk
        injection h with a1 a2 a3
        obtain ⟨w1, w2⟩ := w isNam a2
        rw [w1, w2, ← a2, if_pos hk, a1, ← a3]
      · rename_i hk
        split at h
        · cases h
        · rename_i h24
          injection h with a1 a2 a3
          obtain ⟨w1, w2⟩ := w isNam a2
          rw [w1, w2, ← a2, if_neg hk, if_neg h24, a1, ← a3]
    · rename_i hl
      rw [if_neg hl]
      split at h
      · rename_i hdg
        rw [if_pos hdg]
        simp only [nextD] at h ⊢
        split at h
        · cases h
        · rename_i h0
          split at h
          · cases h
          · rename_i hv
            injection h with a1 a2 a3
            obtain ⟨w1, w2⟩ := w isDig a2
            have h0' : ¬ ((c :: r.take m).head? = some 48 ∧ 1 < span isDig (c :: r)) := h0
            rw [w1, w2, ← a2, if_neg h0', if_neg hv, a1, ← a3]
      · rename_i hdg
        rw [if_neg hdg]
        split at h
        · rename_i hq
          injection h with a1 a2 a3
          have : m = 1 := by omega
          subst this
          cases r with
          | nil => simp [pairH] at hq
          | cons d r =>
            have hq' : pairH c ((d :: r).take 1) = true := hq
            rw [if_pos hq', a1, ← a3]
        · split at h
          · rename_i hq
            injection h with a1 a2 a3
            have : m = 0 := by omega
            subst this
            have hq' : ¬ pairH c (r.take 0) = true := by simp [pairH]
            rw [if_neg hq', if_pos hq, a1, ← a3]
          · cases h
theorem next_dash {r : List UInt8} : next (45 :: r) = .ok 4 1 0 := by
  have e : pairH 45 r = false := by cases r <;> simp [pairH, isPair]
  simp only [next, e]
  rfl

/-! ### Whole texts -/
theorem lexR_end {pos : Nat} {s : List UInt8} (h : gap s = s.length) : lexR pos s = .toks [⟨0, [], 0, pos + s.length⟩] := by
  rw [lexR]
  split
  · rfl
  · rename_i c r hd
    rw [h, List.drop_length] at hd
    cases hd
theorem lexR_err {pos : Nat} {s : List UInt8} (h : gap s < s.length) {e : Nat} (hn : next (s.drop (gap s)) = .err e) : lexR pos s = .err (pos + gap s) e := by
  rw [lexR]
  split
  · rename_i hd
    have := congrArg List.length hd
    simp only [List.length_drop, List.length_nil] at this
    omega
  · rename_i c r hd
    rw [hd] at hn
    rw [hn]
theorem lexR_ok {pos : Nat} {s : List UInt8} (h : gap s < s.length) {k n v : Nat} (hn : next (s.drop (gap s)) = .ok k n v) :
    lexR pos s = (lexR (pos + gap s + n) (s.drop (gap s + n))).cons ⟨k, (s.drop (gap s)).take n, v, pos + gap s⟩ := by
  have hp := next_pos hn
  rw [lexR]
  split
  · rename_i hd
    have := congrArg List.length hd
    simp only [List.length_drop, List.length_nil] at this
    omega
  · rename_i c r hd
    obtain ⟨m, rfl⟩ : ∃ m, n = m + 1 := ⟨n - 1, by omega⟩
    have e : s.drop (gap s + (m + 1)) = r.drop m := by rw [← List.drop_drop, hd, List.drop_succ_cons]
    rw [e]
    rw [hd] at hn
    rw [hn, hd]
    simp only [Nat.add_sub_cancel]
/-- Which of the three. -/
theorem lex_cases (s : List UInt8) : gap s = s.length ∨ (gap s < s.length ∧ ((∃ e, next (s.drop (gap s)) = .err e) ∨ ∃ k n v, next (s.drop (gap s)) = .ok k n v)) := by
  have h1 := gapM_le s false
  rcases Nat.lt_or_ge (gap s) s.length with h | h
  · right
    refine ⟨h, ?_⟩
    cases hn : next (s.drop (gap s)) with
    | err e => exact .inl ⟨e, rfl⟩
    | ok k n v => exact .inr ⟨k, n, v, rfl⟩
  · left; exact Nat.le_antisymm h1 h
def shiftT (d : Nat) (t : Tok) : Tok := { t with pos := t.pos + d }
def Res.shift (d : Nat) : Res → Res
  | .toks l => .toks (l.map (shiftT d))
  | .err p e => .err (p + d) e
theorem shift_cons (d : Nat) (t : Tok) (r : Res) : (r.cons t).shift d = (r.shift d).cons (shiftT d t) := by cases r <;> rfl
theorem lexR_shift (d : Nat) : ∀ (n : Nat) (s : List UInt8) (pos : Nat), s.length = n → lexR (pos + d) s = (lexR pos s).shift d := by
  intro n
  induction n using Nat.strongRecOn with
  | _ n ih =>
    intro s pos hl
    rcases lex_cases s with h | ⟨h, ⟨e, hn⟩ | ⟨k, m, v, hn⟩⟩
    · rw [lexR_end h, lexR_end h]
      simp only [Res.shift, List.map_cons, List.map_nil, shiftT]
      congr 3
      omega
    · rw [lexR_err h hn, lexR_err h hn]
      simp only [Res.shift]
      congr 1
      omega
    · have hp := next_pos hn
      rw [lexR_ok h hn, lexR_ok h hn, shift_cons]
      have e : pos + d + gap s + m = pos + gap s + m + d := by omega
      rw [e, ih (s.drop (gap s + m)).length (by simp only [List.length_drop] at hp ⊢; omega) _ _ rfl]
      congr 1
      simp only [shiftT]
      congr 1
      omega
def Res.app (l : List Tok) : Res → Res
  | .toks m => .toks (l ++ m)
  | .err p e => .err p e
/-- What follows a text: its tokens without the last, or its error. -/
def Res.then (r : Res) (q : Res) : Res :=
  match r with
  | .toks l => q.app l.dropLast
  | .err p e => .err p e
theorem lexR_ne {s : List UInt8} {pos : Nat} {l : List Tok} (h : lexR pos s = .toks l) : l ≠ [] := by
  rcases lex_cases s with h1 | ⟨h1, ⟨e, hn⟩ | ⟨k, m, v, hn⟩⟩
  · rw [lexR_end h1] at h; injection h with h; subst h; simp
  · rw [lexR_err h1 hn] at h; cases h
  · rw [lexR_ok h1 hn] at h
    cases hq : lexR (pos + gap s + m) (s.drop (gap s + m)) with
    | toks m => rw [hq] at h; injection h with h; subst h; simp
    | err p e => rw [hq] at h; cases h
theorem then_cons {t : Tok} {r q : Res} (h : ∀ l, r = .toks l → l ≠ []) : (r.cons t).then q = (r.then q).cons t := by
  cases r with
  | err p e => rfl
  | toks l =>
    have hl := h l rfl
    cases l with
    | nil => exact absurd rfl hl
    | cons x l => cases q <;> simp [Res.cons, Res.then, Res.app, List.dropLast]
/-- Two texts with something between that ends a token and is skipped: w begins with a separator, and behind a gap w and b are skipped as far as b's gap. -/
theorem lexR_app (w b : List UInt8) (sep : UInt8) (w' : List UInt8) (hw : w = sep :: w') (hs : isSep sep = true)
    (hg : ∀ (a : List UInt8) (m : Bool), gapM m a = a.length → gapM m (a ++ (w ++ b)) = a.length + w.length + gapM false b) :
    ∀ (n : Nat) (a : List UInt8) (pos : Nat), a.length = n → (sep = 45 → a.getLast? ≠ some 45) → lexR pos (a ++ (w ++ b)) = (lexR pos a).then (lexR (pos + a.length + w.length) b) := by
  intro n
  induction n using Nat.strongRecOn with
  | _ n ih =>
    intro a pos hl hlast
    have ew : w ++ b = sep :: (w' ++ b) := by rw [hw]; rfl
    rcases lex_cases a with h | ⟨h, hh⟩
    · rw [lexR_end h]
      have hgg : gap (a ++ (w ++ b)) = a.length + w.length + gap b := hg a false h
      have hdrop : (a ++ (w ++ b)).drop (gap (a ++ (w ++ b))) = b.drop (gap b) := by
        rw [hgg, ← List.append_assoc]
        have : a.length + w.length + gap b = (a ++ w).length + gap b := by simp
        rw [this, List.drop_length_add_append]
      show _ = (lexR (pos + a.length + w.length) b).app []
      have happ : ∀ r : Res, r.app [] = r := by intro r; cases r <;> rfl
      rw [happ]
      rcases lex_cases b with h2 | ⟨h2, ⟨e, hn⟩ | ⟨k, m, v, hn⟩⟩
      · have : gap (a ++ (w ++ b)) = (a ++ (w ++ b)).length := by rw [hgg, h2]; simp; omega
        rw [lexR_end this, lexR_end h2]
        congr 3
        simp; omega
      · have h3 : gap (a ++ (w ++ b)) < (a ++ (w ++ b)).length := by rw [hgg]; simp; omega
        rw [lexR_err h3 (by rw [hdrop]; exact hn), lexR_err h2 hn, hgg]
        congr 1; omega
      · have h3 : gap (a ++ (w ++ b)) < (a ++ (w ++ b)).length := by rw [hgg]; simp; omega
        rw [lexR_ok h3 (by rw [hdrop]; exact hn), lexR_ok h2 hn, hdrop]
        have e1 : pos + gap (a ++ (w ++ b)) = pos + a.length + w.length + gap b := by rw [hgg]; omega
        rw [e1]
        congr 2
        rw [← List.drop_drop, hdrop, List.drop_drop]
    · have hga : gap (a ++ (w ++ b)) = gap a := by rw [ew]; exact gap_app sep _ a false h hlast
      have h3 : gap (a ++ (w ++ b)) < (a ++ (w ++ b)).length := by rw [hga]; simp; omega
      have hdr : (a ++ (w ++ b)).drop (gap a) = a.drop (gap a) ++ (w ++ b) := List.drop_append_of_le_length (by omega)
      have hne : a.drop (gap a) ≠ [] := by
        intro e
        have := congrArg List.length e
        simp only [List.length_drop, List.length_nil] at this
        omega
      have hnx : next ((a ++ (w ++ b)).drop (gap (a ++ (w ++ b)))) = next (a.drop (gap a)) := by
        rw [hga, hdr, ew]
        exact next_app hs _ hne
      rcases hh with ⟨e, hn⟩ | ⟨k, m, v, hn⟩
      · rw [lexR_err h3 (hnx.trans hn), lexR_err h hn, hga]
        rfl
      · have hp := next_pos hn
        rw [lexR_ok h3 (hnx.trans hn), lexR_ok h hn, hga, hdr]
        have e1 : (a.drop (gap a) ++ (w ++ b)).take m = (a.drop (gap a)).take m := take_app hp.2
        have hle : gap a + m ≤ a.length := by simp only [List.length_drop] at hp; omega
        have e2 : (a ++ (w ++ b)).drop (gap a + m) = a.drop (gap a + m) ++ (w ++ b) := List.drop_append_of_le_length hle
        rw [e1, e2, then_cons fun l hl => lexR_ne hl]
        have hl2 : sep = 45 → (a.drop (gap a + m)).getLast? ≠ some 45 := by
          intro e hx
          refine hlast e ?_
          rw [List.getLast?_drop] at hx
          split at hx
          · cases hx
          · exact hx
        rw [ih (a.drop (gap a + m)).length (by simp only [List.length_drop] at hp ⊢; omega) _ _ rfl hl2]
        congr 3
        simp only [List.length_drop]
        omega
theorem lexR_line (a b : List UInt8) (pos : Nat) : lexR pos (a ++ 10 :: b) = (lexR pos a).then (lexR (pos + a.length + 1) b) := by
  have := lexR_app [10] b 10 [] rfl (by decide) (fun a m h => gap_full b a m h) a.length a pos rfl (by intro h; exact absurd h (by decide))
  exact this
theorem lexR_comment (a c t : List UInt8) (pos : Nat) (hc : ∀ x, x ∈ c → x ≠ 10) (ha : a.getLast? ≠ some 45) : lexR pos (a ++ 45 :: 45 :: (c ++ 10 :: t)) = (lexR pos a).then (lexR (pos + a.length + (c.length + 3)) t) := by
  have := lexR_app (45 :: 45 :: (c ++ [10])) t 45 (45 :: (c ++ [10])) rfl (by decide) (fun a m h => by
    have := gap_full2 c t hc a m h
    simp only [List.cons_append, List.append_assoc, List.nil_append, List.length_cons, List.length_append, List.length_nil] at this ⊢
    rw [this]) a.length a pos rfl (fun _ => ha)
  simp only [List.cons_append, List.append_assoc, List.nil_append, List.length_cons, List.length_append, List.length_nil] at this
  exact this
end Go.Lx

/- LX 2: tokens joined again; numbers. No program in sight. -/
namespace Go.Lx

structure IsGap (g : List UInt8) : Prop where
  head : ∃ b g', g = b :: g' ∧ isBlk b = true
  skip : ∀ x, gapM false (g ++ x) = g.length + gapM false x
def joinT : List (List UInt8 × Tok) → List UInt8
  | [] => []
  | (g, t) :: r => g ++ (t.text ++ joinT r)
/-- Equal apart from the positions. -/
def like (a b : Tok) : Prop := a.kind = b.kind ∧ a.text = b.text ∧ a.val = b.val
def Alike : List Tok → List Tok → Prop
  | [], [] => True
  | a :: l, b :: m => like a b ∧ Alike l m
  | _, _ => False
theorem alike_refl : ∀ l, Alike l l := by
  intro l
  induction l with
  | nil => trivial
  | cons a l ih => exact ⟨⟨rfl, rfl, rfl⟩, ih⟩
theorem alike_shift (d : Nat) : ∀ l, Alike (l.map (shiftT d)) l := by
  intro l
  induction l with
  | nil => trivial
  | cons a l ih => exact ⟨⟨rfl, rfl, rfl⟩, ih⟩
theorem alike_app : ∀ {a b c d : List Tok}, Alike a b → Alike c d → Alike (a ++ c) (b ++ d) := by
  intro a
  induction a with
  | nil => intro b c d h1 h2; cases b with
    | nil => exact h2
    | cons x b => cases h1
  | cons x a ih => intro b c d h1 h2; cases b with
    | nil => cases h1
    | cons y b => exact ⟨h1.1, ih h1.2 h2⟩
theorem alike_trans : ∀ {a b c : List Tok}, Alike a b → Alike b c → Alike a c := by
  intro a
  induction a with
  | nil => intro b c h1 h2; cases b with
    | nil => exact h2
    | cons x b => cases h1
  | cons x a ih => intro b c h1 h2; cases b with
    | nil => cases h1
    | cons y b => cases c with
      | nil => cases h2
      | cons z c => exact ⟨⟨h1.1.1.trans h2.1.1, h1.1.2.1.trans h2.1.2.1, h1.1.2.2.trans h2.1.2.2⟩, ih h1.2 h2.2⟩
theorem alike_symm : ∀ {a b : List Tok}, Alike a b → Alike b a := by
  intro a
  induction a with
  | nil => intro b h1; cases b with
    | nil => trivial
    | cons x b => cases h1
  | cons x a ih => intro b h1; cases b with
    | nil => cases h1
    | cons y b => exact ⟨⟨h1.1.1.symm, h1.1.2.1.symm, h1.1.2.2.symm⟩, ih h1.2⟩
theorem alike_len : ∀ {a b : List Tok}, Alike a b → a.length = b.length := by
  intro a
  induction a with
  | nil => intro b h1; cases b with
    | nil => rfl
    | cons x b => cases h1
  | cons x a ih => intro b h1; cases b with
    | nil => cases h1
    | cons y b => simp [ih h1.2]
theorem lexR_join : ∀ (l : List (List UInt8 × Tok)) (s : List UInt8) (pos q : Nat), lexR pos s = .toks (l.map (·.2)) → (∀ p, p ∈ l → IsGap p.1) → ∃ l', lexR q (joinT l) = .toks l' ∧ Alike l' (l.map (·.2)) := by
  intro l
  induction l with
  | nil => intro s pos q h _; exact absurd rfl (lexR_ne h)
  | cons p rest ih =>
    intro s pos q h hg
    obtain ⟨g, t⟩ := p
    have hg0 : IsGap g := hg (g, t) List.mem_cons_self
    rcases lex_cases s with h1 | ⟨h1, ⟨e, hn⟩ | ⟨k, n, v, hn⟩⟩
    · rw [lexR_end h1] at h
      injection h with h
      simp only [List.map_cons, List.cons.injEq] at h
      obtain ⟨rfl, h⟩ := h
      have hr : rest = [] := by simpa using h.symm
      subst hr
      have hgg : gap (g ++ ([] ++ [])) = (g ++ ([] ++ [] : List UInt8)).length := by
        have := hg0.skip []
        simpa [gapM] using this
      refine ⟨_, lexR_end (s := joinT [(g, ⟨0, [], 0, pos + s.length⟩)]) hgg, ⟨rfl, rfl, rfl⟩, trivial⟩
    · rw [lexR_err h1 hn] at h; cases h
    · rw [lexR_ok h1 hn] at h
      cases hq : lexR (pos + gap s + n) (s.drop (gap s + n)) with
      | err p e => rw [hq] at h; cases h
      | toks m =>
        rw [hq] at h
        injection h with h
        simp only [List.map_cons, List.cons.injEq] at h
        obtain ⟨rfl, rfl⟩ := h
        have hne := lexR_ne hq
        have hp := next_pos hn
        have hnt := next_take hn
        have hst : gapM false (s.drop (gap s)) = 0 := gap_stop s false
        obtain ⟨c, r, hcr⟩ : ∃ c r, s.drop (gap s) = c :: r := by
          cases hd : s.drop (gap s) with
          | nil => rw [hd] at hp; simp at hp; omega
          | cons c r => exact ⟨c, r, rfl⟩
        rw [hcr] at hst hp hn hnt ⊢
        have hb := gap0_blk hst
        obtain ⟨i, rfl⟩ : ∃ i, n = i + 1 := ⟨n - 1, by omega⟩
        obtain ⟨b, x, hx, hbb⟩ : ∃ b x, joinT rest = b :: x ∧ isBlk b = true := by
          cases rest with
          | nil => exact absurd rfl hne
          | cons p rest =>
            obtain ⟨g2, t2⟩ := p
            obtain ⟨⟨b, g', rfl, hbb⟩, _⟩ := hg (g2, t2) (by simp)
            exact ⟨b, _, rfl, hbb⟩
        obtain ⟨l', hl', ha⟩ := ih _ _ (q + g.length + (i + 1)) hq fun p hp => hg p (List.mem_cons_of_mem _ hp)
        generalize htx : (c :: r).take (i + 1) = tx at hnt ⊢
        have htl : tx.length = i + 1 := by rw [← htx, List.length_take]; omega
        have htx' : tx = c :: r.take i := by rw [← htx]; rfl
        have hg1 : gapM false (tx ++ joinT rest) = 0 := by
          rw [hx, htx']
          show gapM false (c :: (r.take i ++ b :: x)) = 0
          simp only [gapM, hb, Bool.false_eq_true, if_false]
          have : ¬ ((c == 45 && (r.take i ++ b :: x).head? == some 45) = true) := by
            intro hc
            simp only [Bool.and_eq_true, beq_iff_eq] at hc
            obtain ⟨rfl, hh⟩ := hc
            rw [next_dash] at hn
            injection hn with _ hn _
            have : i = 0 := by omega
            subst this
            simp only [List.take_zero, List.nil_append, List.head?_cons, Option.some.injEq] at hh
            subst hh
            exact absurd hbb (by decide)
          rw [if_neg this]
        have hnx : next (tx ++ joinT rest) = .ok k (i + 1) v := by
          rw [hx, next_app (by simp [isSep, hbb]) x (by rw [htx']; simp)]
          exact hnt
        have hgap : gap (g ++ (tx ++ joinT rest)) = g.length := by
          have := hg0.skip (tx ++ joinT rest)
          rw [hg1] at this
          exact this
        have hdrop : (g ++ (tx ++ joinT rest)).drop (gap (g ++ (tx ++ joinT rest))) = tx ++ joinT rest := by rw [hgap, List.drop_left]
        have hlt : gap (g ++ (tx ++ joinT rest)) < (g ++ (tx ++ joinT rest)).length := by rw [hgap]; simp only [List.length_append]; omega
        have hd2 : (g ++ (tx ++ joinT rest)).drop (gap (g ++ (tx ++ joinT rest)) + (i + 1)) = joinT rest := by
          rw [← List.drop_drop, hdrop, ← htl, List.drop_left]
        have e := lexR_ok (pos := q) hlt (by rw [hdrop]; exact hnx)
        rw [hd2, hdrop, hgap, hl'] at e
        refine ⟨_, e, ⟨rfl, ?_, rfl⟩, ha⟩
        show (tx ++ joinT rest).take (i + 1) = tx
        rw [← htl, List.take_left]

/-! ### Numbers -/
def decD (u : Nat) : List UInt8 :=
  if _h : u < 10 then [UInt8.ofNat (48 + u)] else decD (u / 10) ++ [UInt8.ofNat (48 + u % 10)]
termination_by u
decreasing_by omega
theorem decD_small {u : Nat} (h : u < 10) : decD u = [UInt8.ofNat (48 + u)] := by rw [decD, dif_pos h]
theorem decD_big {u : Nat} (h : ¬ u < 10) : decD u = decD (u / 10) ++ [UInt8.ofNat (48 + u % 10)] := by rw [decD, dif_neg h]
theorem dig_toNat {d : Nat} (h : d < 10) : (UInt8.ofNat (48 + d)).toNat = 48 + d := by rw [UInt8.toNat_ofNat']; omega
theorem dig_isDig {d : Nat} (h : d < 10) : isDig (UInt8.ofNat (48 + d)) = true := by
  have := dig_toNat h
  simp only [isDig, Bool.and_eq_true, decide_eq_true_eq, UInt8.le_iff_toNat_le, this]
  exact ⟨by show 48 ≤ _; omega, by show _ ≤ 57; omega⟩
theorem decD_dig : ∀ (u : Nat) (c : UInt8), c ∈ decD u → isDig c = true := by
  intro u
  induction u using Nat.strongRecOn with
  | _ u ih =>
    intro c hc
    by_cases h : u < 10
    · rw [decD_small h] at hc
      simp only [List.mem_cons, List.not_mem_nil, or_false] at hc
      subst hc
      exact dig_isDig h
    · rw [decD_big h] at hc
      rcases List.mem_append.1 hc with hc | hc
      · exact ih (u / 10) (by omega) c hc
      · simp only [List.mem_cons, List.not_mem_nil, or_false] at hc
        subst hc
        exact dig_isDig (by omega)
theorem numV_snoc (l : List UInt8) (c : UInt8) : numV (l ++ [c]) = 10 * numV l + (c.toNat - 48) := by simp [numV]
theorem numV_decD : ∀ (u : Nat), numV (decD u) = u := by
  intro u
  induction u using Nat.strongRecOn with
  | _ u ih =>
    by_cases h : u < 10
    · rw [decD_small h]
      simp only [numV, List.foldl_cons, List.foldl_nil, dig_toNat h]
      omega
    · rw [decD_big h, numV_snoc, ih (u / 10) (by omega), dig_toNat (by omega)]
      omega
theorem decD_ne (u : Nat) : decD u ≠ [] := by
  by_cases h : u < 10
  · rw [decD_small h]; simp
  · rw [decD_big h]; simp
theorem decD_head : ∀ (u : Nat), 0 < u → (decD u).head? ≠ some 48 := by
  intro u
  induction u using Nat.strongRecOn with
  | _ u ih =>
    intro h0
    by_cases h : u < 10
    · rw [decD_small h]
      simp only [List.head?_cons, ne_eq, Option.some.injEq]
      intro e
      have := congrArg UInt8.toNat e
      rw [dig_toNat h] at this
      have : (48 + u) = 48 := this
      omega
    · rw [decD_big h]
      have hne := decD_ne (u / 10)
      cases hd : decD (u / 10) with
      | nil => exact absurd hd hne
      | cons c r =>
        have := ih (u / 10) (by omega) (by omega)
        rw [hd] at this
        exact this
theorem decD_len : ∀ (k u : Nat), u < 10 ^ (k + 1) → (decD u).length ≤ k + 1 := by
  intro k
  induction k with
  | zero => intro u h; rw [decD_small (by simpa using h)]; simp
  | succ k ih =>
    intro u h
    by_cases h' : u < 10
    · rw [decD_small h']; simp
    · rw [decD_big h', List.length_append]
      have : u / 10 < 10 ^ (k + 1) := by rw [Nat.pow_succ] at h; omega
      have := ih _ this
      simp only [List.length_cons, List.length_nil]; omega
theorem decD_len1 {u : Nat} (h : 1 < (decD u).length) : 0 < u := by
  rcases Nat.eq_zero_or_pos u with e | e
  · subst e; rw [decD_small (by omega)] at h; simp at h
  · exact e
/-- A number's text is the number's token. -/
theorem next_digits {t : List UInt8} (hd : ∀ c, c ∈ t → isDig c = true) (hne : t ≠ []) : next t = if t.head? = some 48 ∧ 1 < t.length then .err 2 else if 18446744073709551615 < numV t then .err 3 else .ok 3 t.length (numV t) := by
  have hs := span_full isDig t hd
  cases t with
  | nil => exact absurd rfl hne
  | cons c r =>
    have hc := hd c List.mem_cons_self
    have hl : isLet c = false := by
      simp only [isDig, isLet, Bool.and_eq_true, decide_eq_true_eq, UInt8.le_iff_toNat_le] at hc ⊢
      have h1 : c.toNat ≤ 57 := hc.2
      have : ¬ (97 ≤ c.toNat) := by omega
      simp only [Bool.and_eq_false_iff, decide_eq_false_iff_not]
      exact .inl this
    show (if isLet c then nextW (c :: r) else if isDig c then nextD (c :: r) else _) = _
    rw [hl, hc]
    simp only [Bool.false_eq_true, if_false, if_true, nextD, hs, List.take_length]
theorem isDig_blk {c : UInt8} (h : isDig c = true) : isBlk c = false ∧ c ≠ 45 := by
  simp only [isDig, Bool.and_eq_true, decide_eq_true_eq, UInt8.le_iff_toNat_le] at h
  have h1 : 48 ≤ c.toNat := h.1
  constructor
  · simp only [isBlk, Bool.or_eq_false_iff, beq_eq_false_iff_ne]
    refine ⟨⟨⟨?_, ?_⟩, ?_⟩, ?_⟩ <;> (intro e; subst e; exact absurd h1 (by decide))
  · intro e; subst e; exact absurd h1 (by decide)
theorem gap_digits {t : List UInt8} (hd : ∀ c, c ∈ t → isDig c = true) (x : List UInt8) (hne : t ≠ []) : gapM false (t ++ x) = 0 := by
  cases t with
  | nil => exact absurd rfl hne
  | cons c r =>
    obtain ⟨h1, h2⟩ := isDig_blk (hd c List.mem_cons_self)
    simp only [List.cons_append, gapM, h1, Bool.false_eq_true, if_false]
    rw [if_neg (by simp [h2])]
/-- A text of digits. -/
theorem lexR_digits {t : List UInt8} (hd : ∀ c, c ∈ t → isDig c = true) (hne : t ≠ []) (pos : Nat) : lexR pos t = if t.head? = some 48 ∧ 1 < t.length then .err pos 2 else if 18446744073709551615 < numV t then .err pos 3 else .toks [⟨3, t, numV t, pos⟩, ⟨0, [], 0, pos + t.length⟩] := by
  have hg : gap t = 0 := by have := gap_digits hd [] hne; rwa [List.append_nil] at this
  have hlt : gap t < t.length := by rw [hg]; exact List.length_pos_iff.2 hne
  have hn := next_digits hd hne
  split at hn
  · rename_i h; rw [if_pos h, lexR_err hlt (by rw [hg]; exact hn), hg]; rfl
  · rename_i h
    rw [if_neg h]
    split at hn
    · rename_i h2; rw [if_pos h2, lexR_err hlt (by rw [hg]; exact hn), hg]; rfl
    · rename_i h2
      rw [if_neg h2, lexR_ok hlt (by rw [hg]; exact hn), hg]
      simp only [Nat.zero_add, List.drop_zero, List.take_length, Nat.add_zero, List.drop_length]
      rw [lexR_end (by simp [gapM])]
      rfl
end Go.Lx

/- LX 3: what the code reckons, in plain words: values, symbols, lists of names. No program in sight. -/
namespace Go.Lx

/-! ### Values of digits -/
def numF (n : Nat) (l : List UInt8) : Nat := l.foldl (fun n c => 10 * n + (c.toNat - 48)) n
theorem numF_zero (l : List UInt8) : numF 0 l = numV l := by simp only [numF, numV]
theorem numF_cons (n : Nat) (c : UInt8) (l : List UInt8) : numF n (c :: l) = numF (10 * n + (c.toNat - 48)) l := by simp only [numF, List.foldl_cons]
theorem numF_nil (n : Nat) : numF n [] = n := rfl
theorem numF_ge : ∀ (l : List UInt8) (n : Nat), n ≤ numF n l := by
  intro l
  induction l with
  | nil => intro n; exact Nat.le_refl _
  | cons c l ih => intro n; rw [numF_cons]; have := ih (10 * n + (c.toNat - 48)); omega
theorem numF_mono : ∀ (l : List UInt8) (n m : Nat), n ≤ m → numF n l ≤ numF m l := by
  intro l
  induction l with
  | nil => intro n m h; exact h
  | cons c l ih => intro n m h; rw [numF_cons, numF_cons]; exact ih _ _ (by omega)
theorem dig_le {c : UInt8} (h : isDig c = true) : 48 ≤ c.toNat ∧ c.toNat ≤ 57 := by
  simp only [isDig, Bool.and_eq_true, decide_eq_true_eq, UInt8.le_iff_toNat_le] at h
  exact h

/-! ### Symbols -/
/-- The first of a list that a text begins with: its length. -/
def symF : List (List UInt8) → List UInt8 → Nat
  | [], _ => 0
  | x :: l, s => if x.length ≤ s.length ∧ s.take x.length = x then x.length else symF l s
def syms : List (List UInt8) := [[46, 46], [61, 61], [33, 61], [60, 61], [40], [41], [123], [125], [91], [93], [44], [59], [58], [63], [61], [60], [43], [45], [42]]
theorem symF_one {x c : UInt8} {r : List UInt8} {l : List (List UInt8)} : symF ([x] :: l) (c :: r) = if c = x then 1 else symF l (c :: r) := by
  simp only [symF, List.length_cons, List.length_nil, List.take_succ_cons, List.take_zero, List.cons.injEq, and_true]
  by_cases h : c = x
  · simp [h]
  · simp [h]
theorem symF_two {x y c : UInt8} {r : List UInt8} {l : List (List UInt8)} : symF ([x, y] :: l) (c :: r) = if c = x ∧ r.head? = some y then 2 else symF l (c :: r) := by
  cases r with
  | nil => simp [symF]
  | cons d r => simp [symF]
theorem symF_ones {c : UInt8} {r : List UInt8} : ∀ (l : List UInt8), symF (l.map fun x => [x]) (c :: r) = if l.contains c then 1 else 0 := by
  intro l
  induction l with
  | nil => rfl
  | cons x l ih =>
    rw [List.map_cons, symF_one, ih, List.contains_cons]
    by_cases h : c = x
    · simp [h]
    · have : (c == x) = false := by simpa using h
      simp [h, this]
theorem symF_syms (c : UInt8) (r : List UInt8) : symF syms (c :: r) = if pairH c r then 2 else if isSing c then 1 else 0 := by
  have e : syms = [46, 46] :: [61, 61] :: [33, 61] :: [60, 61] :: singles.map fun x => [x] := rfl
  rw [e, symF_two, symF_two, symF_two, symF_two, symF_ones]
  cases r with
  | nil => simp [pairH, isSing]
  | cons d r =>
    simp only [List.head?_cons, Option.some.injEq, pairH, isPair, Bool.or_eq_true, Bool.and_eq_true, beq_iff_eq, isSing]
    by_cases h1 : c = 46 ∧ d = 46
    · simp [h1]
    · by_cases h2 : c = 61 ∧ d = 61
      · simp [h2]
      · by_cases h3 : c = 33 ∧ d = 61
        · simp [h3]
        · by_cases h4 : c = 60 ∧ d = 61
          · simp [h4]
          · simp [h1, h2, h3, h4]
def pairsS : List UInt8 := [32, 46, 46, 32, 61, 61, 32, 33, 61, 32, 60, 61, 32]
theorem index_pairs (a b : UInt8) : (decide (0 ≤ Lib.index pairsS [32, a, b, 32])) = isPair a b := by
  simp only [pairsS, Lib.index, List.isPrefixOf, List.isEmpty_cons, isPair]
  have f1 : ((32 : UInt8) == 32) = true := rfl
  have f2 : ((32 : UInt8) == 46) = false := rfl
  have f3 : ((32 : UInt8) == 61) = false := rfl
  have f4 : ((32 : UInt8) == 33) = false := rfl
  have f5 : ((32 : UInt8) == 60) = false := rfl
  simp only [f1, f2, f3, f4, f5, Bool.true_and, Bool.and_true, Bool.and_false, Bool.false_eq_true, if_false]
  by_cases h1 : a = 46 ∧ b = 46
  · obtain ⟨rfl, rfl⟩ := h1; decide
  · by_cases h2 : a = 61 ∧ b = 61
    · obtain ⟨rfl, rfl⟩ := h2; decide
    · by_cases h3 : a = 33 ∧ b = 61
      · obtain ⟨rfl, rfl⟩ := h3; decide
      · by_cases h4 : a = 60 ∧ b = 61
        · obtain ⟨rfl, rfl⟩ := h4; decide
        · have g1 : (a == 46 && b == 46) = false := by simpa using h1
          have g2 : (a == 61 && b == 61) = false := by simpa using h2
          have g3 : (a == 33 && b == 61) = false := by simpa using h3
          have g4 : (a == 60 && b == 61) = false := by simpa using h4
          simp only [g1, g2, g3, g4, Bool.or_self, Bool.false_eq_true, if_false]
          decide
theorem index_singles (c : UInt8) : (decide (0 ≤ Lib.indexByte singles c)) = isSing c := by
  have key : ∀ l : List UInt8, decide (0 ≤ Lib.indexByte l c) = l.contains c := by
    intro l
    induction l with
    | nil => rfl
    | cons b l ih =>
      have hg := Lib.indexByte_ge l c
      rw [List.contains_cons, ← ih, Lib.indexByte]
      by_cases h : b = c
      · subst h; simp
      · have h1 : (b == c) = false := by simpa using h
        have h2 : (c == b) = false := by simpa using fun e : c = b => h e.symm
        rw [h1, h2]
        simp only [Bool.false_eq_true, if_false, Bool.false_or, beq_iff_eq]
        split
        · rename_i e; rw [e]
        · congr 1; apply propext; omega
  exact key singles
end Go.Lx
