/- LX 1: the lexer in plain words. No program in sight. -/
import Derived.Lib.Bytealg
namespace Go.Lx

def isLet (c : UInt8) : Bool := decide (97 ≤ c) && decide (c ≤ 122)
def isDig (c : UInt8) : Bool := decide (48 ≤ c) && decide (c ≤ 57)
def isNam (c : UInt8) : Bool := isLet c || isDig c || c == 95
def isBlk (c : UInt8) : Bool := c == 32 || c == 9 || c == 13 || c == 10
def span (p : UInt8 → Bool) : List UInt8 → Nat
  | [] => 0
  | c :: r => if p c then span p r + 1 else 0
/-- Blanks and comments ahead; the flag: inside a comment. -/
def gapM : Bool → List UInt8 → Nat
  | _, [] => 0
  | true, c :: r => gapM (c != 10) r + 1
  | false, c :: r => if isBlk c then gapM false r + 1 else if c == 45 && r.head? == some 45 then gapM true r + 1 else 0
abbrev gap (s : List UInt8) : Nat := gapM false s
def keywords : List (List UInt8) :=
  [[97, 110, 100], [97, 115, 115, 101, 114, 116], [98, 111, 111, 108], [102, 97, 108, 115, 101], [102, 105, 101, 108, 100], [102, 110], [102, 111, 114], [104, 97, 115, 104], [105, 110],
   [108, 101, 116], [110, 111, 116], [111, 114], [112, 117, 98, 108, 105, 99], [114, 101, 116, 117, 114, 110], [115, 101, 99, 114, 101, 116], [116, 114, 117, 101], [117, 105, 110, 116]]
def isPair (c d : UInt8) : Bool := (c == 46 && d == 46) || (c == 61 && d == 61) || (c == 33 && d == 61) || (c == 60 && d == 61)
def pairH (c : UInt8) : List UInt8 → Bool
  | [] => false
  | d :: _ => isPair c d
def singles : List UInt8 := [40, 41, 123, 125, 91, 93, 44, 59, 58, 63, 61, 60, 43, 45, 42]
def isSing (c : UInt8) : Bool := singles.contains c
def numV (l : List UInt8) : Nat := l.foldl (fun n c => 10 * n + (c.toNat - 48)) 0
structure Tok where
  kind : Nat
  text : List UInt8
  val : Nat
  pos : Nat
inductive Nx where
  | err (e : Nat)
  | ok (k n v : Nat)
def nextW (s : List UInt8) : Nx :=
  if keywords.contains (s.take (span isNam s)) then .ok 2 (span isNam s) 0 else if 24 < span isNam s then .err 3 else .ok 1 (span isNam s) 0
def nextD (s : List UInt8) : Nx :=
  if s.head? = some 48 ∧ 1 < span isDig s then .err 2 else if 18446744073709551615 < numV (s.take (span isDig s)) then .err 3 else .ok 3 (span isDig s) (numV (s.take (span isDig s)))
def next : List UInt8 → Nx
  | [] => .err 2
  | c :: r => if isLet c then nextW (c :: r) else if isDig c then nextD (c :: r) else if pairH c r then .ok 4 2 0 else if isSing c then .ok 4 1 0 else .err 2
inductive Res where
  | toks (l : List Tok)
  | err (p e : Nat)
def Res.cons (t : Tok) : Res → Res
  | .toks l => .toks (t :: l)
  | .err p e => .err p e
def lexR (pos : Nat) (s : List UInt8) : Res :=
  match _h : s.drop (gap s) with
  | [] => .toks [⟨0, [], 0, pos + s.length⟩]
  | c :: r => match next (c :: r) with
    | .err e => .err (pos + gap s) e
    | .ok k n v => (lexR (pos + gap s + (n - 1 + 1)) (r.drop (n - 1))).cons ⟨k, (c :: r).take n, v, pos + gap s⟩
termination_by s.length
decreasing_by
  have h1 := congrArg List.length _h
  simp only [List.length_drop, List.length_cons] at h1 ⊢
  omega

/-! ### Gaps -/
theorem gapM_le : ∀ (s : List UInt8) (m : Bool), gapM m s ≤ s.length := by
  intro s
  induction s with
  | nil => intro m; cases m <;> simp [gapM]
  | cons c r ih =>
    intro m
    cases m with
    | true => have := ih (c != 10); simp only [gapM, List.length_cons]; omega
    | false =>
      have h1 := ih false
      have h2 := ih true
      simp only [gapM, List.length_cons]
      split
      · omega
      · split <;> omega
theorem gap_app (sep : UInt8) (b : List UInt8) : ∀ (a : List UInt8) (m : Bool), gapM m a < a.length → (sep = 45 → a.getLast? ≠ some 45) → gapM m (a ++ sep :: b) = gapM m a := by
  intro a
  induction a with
  | nil => intro m h; simp at h
  | cons c r ih =>
    intro m h hs
    have hs' : r ≠ [] → sep = 45 → r.getLast? ≠ some 45 := by
      intro hr he
      have := hs he
      rw [List.getLast?_cons] at this
      cases r with
      | nil => exact absurd rfl hr
      | cons d r => rw [List.getLast?_cons] at this ⊢; simpa using this
    cases m with
    | true =>
      simp only [gapM, List.cons_append, List.length_cons] at h ⊢
      have hr : r ≠ [] := by intro e; subst e; simp [gapM] at h
      rw [ih _ (by omega) (hs' hr)]
    | false =>
      simp only [gapM, List.cons_append, List.length_cons] at h ⊢
      split at h
      · rename_i hb
        have hr : r ≠ [] := by intro e; subst e; simp [gapM] at h
        rw [if_pos hb, if_pos hb, ih _ (by omega) (hs' hr)]
      · rename_i hb
        rw [if_neg hb, if_neg hb]
        cases r with
        | nil =>
          have : (c == 45 && (([] : List UInt8) ++ sep :: b).head? == some 45) = false := by
            by_cases e1 : c = 45
            · by_cases e2 : sep = 45
              · exact absurd (by simp [e1]) (hs e2)
              · simp [e2]
            · simp [e1]
          rw [if_neg (by rw [this]; decide), if_neg (by simp)]
        | cons d r =>
          have e : ((d :: r) ++ sep :: b).head? = (d :: r).head? := rfl
          rw [e]
          split at h
          · rename_i hc
            rw [if_pos hc, if_pos hc, ih _ (by omega) (hs' (by simp))]
          · rename_i hc
            rw [if_neg hc, if_neg hc]
theorem gap_full (b : List UInt8) : ∀ (a : List UInt8) (m : Bool), gapM m a = a.length → gapM m (a ++ 10 :: b) = a.length + 1 + gapM false b := by
  intro a
  induction a with
  | nil => intro m _; cases m <;> simp [gapM, isBlk] <;> omega
  | cons c r ih =>
    intro m h
    cases m with
    | true =>
      simp only [gapM, List.cons_append, List.length_cons] at h ⊢
      rw [ih _ (by omega)]
      omega
    | false =>
      simp only [gapM, List.cons_append, List.length_cons] at h ⊢
      split at h
      · rename_i hb
        rw [if_pos hb, ih _ (by omega)]
        omega
      · rename_i hb
        rw [if_neg hb]
        split at h
        · rename_i hc
          have hc' : (c == 45 && (r ++ 10 :: b).head? == some 45) = true := by
            cases r with
            | nil => simp at hc
            | cons d r => exact hc
          rw [if_pos hc', ih _ (by omega)]
          omega
        · omega
theorem gap_comment (t : List UInt8) : ∀ (c : List UInt8), (∀ x, x ∈ c → x ≠ 10) → gapM true (c ++ 10 :: t) = c.length + 1 + gapM false t := by
  intro c
  induction c with
  | nil => intro _; simp [gapM]; omega
  | cons x r ih =>
    intro h
    have hx : (x != 10) = true := by simpa using h x List.mem_cons_self
    simp only [gapM, List.cons_append, List.length_cons, hx]
    rw [ih fun y hy => h y (List.mem_cons_of_mem _ hy)]
    omega
theorem gap_full2 (c t : List UInt8) (hc : ∀ x, x ∈ c → x ≠ 10) : ∀ (a : List UInt8) (m : Bool), gapM m a = a.length → gapM m (a ++ 45 :: 45 :: (c ++ 10 :: t)) = a.length + (c.length + 3) + gapM false t := by
  intro a
  induction a with
  | nil =>
    intro m _
    have := gap_comment t c hc
    have e1 : ((45 : UInt8) != 10) = true := by decide
    have e2 : isBlk 45 = false := by decide
    cases m <;> simp only [gapM, List.nil_append, e1, e2, this, List.length_nil, List.head?_cons, BEq.rfl, Bool.and_self, if_true, Bool.false_eq_true, if_false] <;> omega
  | cons x r ih =>
    intro m h
    cases m with
    | true =>
      simp only [gapM, List.cons_append, List.length_cons] at h ⊢
      rw [ih _ (by omega)]
      omega
    | false =>
      simp only [gapM, List.cons_append, List.length_cons] at h ⊢
      split at h
      · rename_i hb
        rw [if_pos hb, ih _ (by omega)]
        omega
      · rename_i hb
        rw [if_neg hb]
        split at h
        · rename_i hx
          have hx' : (x == 45 && (r ++ 45 :: 45 :: (c ++ 10 :: t)).head? == some 45) = true := by
            cases r with
            | nil => simp at hx
            | cons d r => exact hx
          rw [if_pos hx', ih _ (by omega)]
          omega
        · omega
theorem gap_take : ∀ (s : List UInt8) (m : Bool), gapM m (s.take (gapM m s)) = gapM m s := by
  intro s
  induction s with
  | nil => intro m; simp
  | cons c r ih =>
    intro m
    cases m with
    | true => simp only [gapM, List.take_succ_cons]; rw [ih]
    | false =>
      simp only [gapM]
      split
      · rename_i hb
        simp only [List.take_succ_cons, gapM, if_pos hb]
        rw [ih]
      · rename_i hb
        split
        · rename_i hc
          have hc' : (c == 45 && (r.take (gapM true r)).head? == some 45) = true := by
            cases r with
            | nil => simp at hc
            | cons d r => simpa [gapM] using hc
          simp only [List.take_succ_cons, gapM, if_neg hb, if_pos hc']
          rw [ih]
        · simp [gapM]
theorem gap_stop : ∀ (s : List UInt8) (m : Bool), gapM false (s.drop (gapM m s)) = 0 := by
  intro s
  induction s with
  | nil => intro m; simp [gapM]
  | cons c r ih =>
    intro m
    cases m with
    | true => simp only [gapM, List.drop_succ_cons]; exact ih _
    | false =>
      simp only [gapM]
      split
      · exact ih false
      · rename_i hb
        split
        · exact ih true
        · rename_i hc
          simp only [List.drop_zero, gapM, if_neg hb, if_neg hc]
theorem gap0_blk {c : UInt8} {r : List UInt8} (h : gapM false (c :: r) = 0) : isBlk c = false := by
  simp only [gapM] at h
  split at h
  · omega
  · rename_i hb; simpa using hb

/-! ### Tokens -/
theorem span_le (p : UInt8 → Bool) : ∀ (s : List UInt8), span p s ≤ s.length := by
  intro s
  induction s with
  | nil => simp [span]
  | cons c r ih => simp only [span, List.length_cons]; split <;> omega
theorem span_app (p : UInt8 → Bool) {sep : UInt8} (hs : p sep = false) (b : List UInt8) : ∀ (a : List UInt8), span p (a ++ sep :: b) = span p a := by
  intro a
  induction a with
  | nil => simp [span, hs]
  | cons c r ih => simp only [span, List.cons_append, ih]
theorem span_take (p : UInt8 → Bool) : ∀ (s : List UInt8), span p (s.take (span p s)) = span p s := by
  intro s
  induction s with
  | nil => simp
  | cons c r ih =>
    simp only [span]
    split
    · rename_i h; simp only [List.take_succ_cons, span, if_pos h, ih]
    · simp [span]
theorem span_full (p : UInt8 → Bool) : ∀ (s : List UInt8), (∀ c, c ∈ s → p c = true) → span p s = s.length := by
  intro s
  induction s with
  | nil => intro _; rfl
  | cons c r ih => intro h; simp only [span, h c List.mem_cons_self, if_true, List.length_cons, ih fun x hx => h x (List.mem_cons_of_mem _ hx)]
theorem span_all (p : UInt8 → Bool) : ∀ (s : List UInt8) (c : UInt8), c ∈ s.take (span p s) → p c = true := by
  intro s
  induction s with
  | nil => intro c h; simp at h
  | cons x r ih =>
    intro c h
    simp only [span] at h
    split at h
    · rename_i hx
      simp only [List.take_succ_cons, List.mem_cons] at h
      rcases h with rfl | h
      · exact hx
      · exact ih c h
    · simp at h
def isSep (c : UInt8) : Bool := isBlk c || c == 45
theorem sep_nam {c : UInt8} (h : isSep c = true) : isNam c = false ∧ isDig c = false ∧ isLet c = false := by
  simp only [isSep, isBlk, Bool.or_eq_true, beq_iff_eq] at h
  rcases h with (((h | h) | h) | h) | h <;> subst h <;> decide
theorem sep_pair {c d : UInt8} (h : isSep d = true) : isPair c d = false := by
  simp only [isSep, isBlk, Bool.or_eq_true, beq_iff_eq] at h
  rcases h with (((h | h) | h) | h) | h <;> subst h <;> simp [isPair]
theorem take_app {α : Type} {a b : List α} {n : Nat} (h : n ≤ a.length) : (a ++ b).take n = a.take n := by
  rw [List.take_append_of_le_length h]
theorem next_app {sep : UInt8} (hs : isSep sep = true) (b : List UInt8) {a : List UInt8} (ha : a ≠ []) : next (a ++ sep :: b) = next a := by
  obtain ⟨h1, h2, h3⟩ := sep_nam hs
  cases a with
  | nil => exact absurd rfl ha
  | cons c r =>
    have e1 := span_app isNam h1 b (c :: r)
    have e2 := span_app isDig h2 b (c :: r)
    have l1 := span_le isNam (c :: r)
    have l2 := span_le isDig (c :: r)
    have ep : pairH c (r ++ sep :: b) = pairH c r := by
      cases r with
      | nil => simp only [List.nil_append, pairH, sep_pair hs]
      | cons d r => rfl
    have w1 : nextW ((c :: r) ++ sep :: b) = nextW (c :: r) := by simp only [nextW, e1, take_app l1]
    have w2 : nextD ((c :: r) ++ sep :: b) = nextD (c :: r) := by
      have e3 : ((c :: r) ++ sep :: b).head? = (c :: r).head? := rfl
      simp only [nextD, e2, e3, take_app l2]
    show (if isLet c then nextW ((c :: r) ++ sep :: b) else if isDig c then nextD ((c :: r) ++ sep :: b) else if pairH c (r ++ sep :: b) then Nx.ok 4 2 0 else if isSing c then Nx.ok 4 1 0 else Nx.err 2) = _
    rw [w1, w2, ep]
    rfl
theorem next_pos {s : List UInt8} {k n v : Nat} (h : next s = .ok k n v) : 1 ≤ n ∧ n ≤ s.length := by
  cases s with
  | nil => simp [next] at h
  | cons c r =>
    have l1 := span_le isNam (c :: r)
    have l2 := span_le isDig (c :: r)
    simp only [next] at h
    split at h
    · rename_i hl
      have hp : 1 ≤ span isNam (c :: r) := by simp [span, isNam, hl]
      simp only [nextW] at h
      split at h
      · injection h; omega
      · split at h
        · cases h
        · injection h; omega
    · split at h
      · rename_i hl
        have hp : 1 ≤ span isDig (c :: r) := by simp [span, hl]
        simp only [nextD] at h
        split at h
        · cases h
        · split at h
          · cases h
          · injection h; omega
      · split at h
        · rename_i hp
          have : 1 ≤ r.length := by cases r with
            | nil => simp [pairH] at hp
            | cons d r => simp
          injection h
          simp only [List.length_cons]; omega
        · split at h
          · injection h; simp only [List.length_cons]; omega
          · cases h
theorem next_take {s : List UInt8} {k n v : Nat} (h : next s = .ok k n v) : next (s.take n) = .ok k n v := by
  have hp := next_pos h
  cases s with
  | nil => simp [next] at h
  | cons c r =>
    obtain ⟨m, rfl⟩ : ∃ m, n = m + 1 := ⟨n - 1, by omega⟩
    simp only [List.take_succ_cons]
    simp only [next] at h ⊢
    have w (p : UInt8 → Bool) (e : span p (c :: r) = m + 1) : span p (c :: r.take m) = m + 1 ∧ (c :: r.take m).take (m + 1) = (c :: r).take (m + 1) := by
      have := span_take p (c :: r)
      rw [e, List.take_succ_cons] at this
      exact ⟨this, by simp [List.take_take]⟩
    split at h
    · rename_i hl
      rw [if_pos hl]
      simp only [nextW] at h ⊢
      split at h
      · rename_i hk
        injection h with a1 a2 a3
        obtain ⟨w1, w2⟩ := w isNam a2
        rw [w1, w2, ← a2, if_pos hk, a1, ← a3]
      · rename_i hk
        split at h
        · cases h
        · rename_i h24
          injection h with a1 a2 a3
          obtain ⟨w1, w2⟩ := w isNam a2
          rw [w1, w2, ← a2, if_neg hk, if_neg h24, a1, ← a3]
    · rename_i hl
      rw [if_neg hl]
      split at h
      · rename_i hdg
        rw [if_pos hdg]
        simp only [nextD] at h ⊢
        split at h
        · cases h
        · rename_i h0
          split at h
          · cases h
          · rename_i hv
            injection h with a1 a2 a3
            obtain ⟨w1, w2⟩ := w isDig a2
            have h0' : ¬ ((c :: r.take m).head? = some 48 ∧ 1 < span isDig (c :: r)) := h0
            rw [w1, w2, ← a2, if_neg h0', if_neg hv, a1, ← a3]
      · rename_i hdg
        rw [if_neg hdg]
        split at h
        · rename_i hq
          injection h with a1 a2 a3
          have : m = 1 := by omega
          subst this
          cases r with
          | nil => simp [pairH] at hq
          | cons d r =>
            have hq' : pairH c ((d :: r).take 1) = true := hq
            rw [if_pos hq', a1, ← a3]
        · split at h
          · rename_i hq
            injection h with a1 a2 a3
            have : m = 0 := by omega
            subst this
            have hq' : ¬ pairH c (r.take 0) = true := by simp [pairH]
            rw [if_neg hq', if_pos hq, a1, ← a3]
          · cases h
theorem next_dash {r : List UInt8} : next (45 :: r) = .ok 4 1 0 := by
  have e : pairH 45 r = false := by cases r <;> simp [pairH, isPair]
  simp only [next, e]
  rfl

/-! ### Whole texts -/
theorem lexR_end {pos : Nat} {s : List UInt8} (h : gap s = s.length) : lexR pos s = .toks [⟨0, [], 0, pos + s.length⟩] := by
  rw [lexR]
  split
  · rfl
  · rename_i c r hd
    rw [h, List.drop_length] at hd
    cases hd
theorem lexR_err {pos : Nat} {s : List UInt8} (h : gap s < s.length) {e : Nat} (hn : next (s.drop (gap s)) = .err e) : lexR pos s = .err (pos + gap s) e := by
  rw [lexR]
  split
  · rename_i hd
    have := congrArg List.length hd
    simp only [List.length_drop, List.length_nil] at this
    omega
  · rename_i c r hd
    rw [hd] at hn
    rw [hn]
theorem lexR_ok {pos : Nat} {s : List UInt8} (h : gap s < s.length) {k n v : Nat} (hn : next (s.drop (gap s)) = .ok k n v) :
    lexR pos s = (lexR (pos + gap s + n) (s.drop (gap s + n))).cons ⟨k, (s.drop (gap s)).take n, v, pos + gap s⟩ := by
  have hp := next_pos hn
  rw [lexR]
  split
  · rename_i hd
    have := congrArg List.length hd
    simp only [List.length_drop, List.length_nil] at this
    omega
  · rename_i c r hd
    obtain ⟨m, rfl⟩ : ∃ m, n = m + 1 := ⟨n - 1, by omega⟩
    have e : s.drop (gap s + (m + 1)) = r.drop m := by rw [← List.drop_drop, hd, List.drop_succ_cons]
    rw [e]
    rw [hd] at hn
    rw [hn, hd]
    simp only [Nat.add_sub_cancel]
/-- Which of the three. -/
theorem lex_cases (s : List UInt8) : gap s = s.length ∨ (gap s < s.length ∧ ((∃ e, next (s.drop (gap s)) = .err e) ∨ ∃ k n v, next (s.drop (gap s)) = .ok k n v)) := by
  have h1 := gapM_le s false
  rcases Nat.lt_or_ge (gap s) s.length with h | h
  · right
    refine ⟨h, ?_⟩
    cases hn : next (s.drop (gap s)) with
    | err e => exact .inl ⟨e, rfl⟩
    | ok k n v => exact .inr ⟨k, n, v, rfl⟩
  · left; exact Nat.le_antisymm h1 h
def shiftT (d : Nat) (t : Tok) : Tok := { t with pos := t.pos + d }
def Res.shift (d : Nat) : Res → Res
  | .toks l => .toks (l.map (shiftT d))
  | .err p e => .err (p + d) e
theorem shift_cons (d : Nat) (t : Tok) (r : Res) : (r.cons t).shift d = (r.shift d).cons (shiftT d t) := by cases r <;> rfl
theorem lexR_shift (d : Nat) : ∀ (n : Nat) (s : List UInt8) (pos : Nat), s.length = n → lexR (pos + d) s = (lexR pos s).shift d := by
  intro n
  induction n using Nat.strongRecOn with
  | _ n ih =>
    intro s pos hl
    rcases lex_cases s with h | ⟨h, ⟨e, hn⟩ | ⟨k, m, v, hn⟩⟩
    · rw [lexR_end h, lexR_end h]
      simp only [Res.shift, List.map_cons, List.map_nil, shiftT]
      congr 3
      omega
    · rw [lexR_err h hn, lexR_err h hn]
      simp only [Res.shift]
      congr 1
      omega
    · have hp := next_pos hn
      rw [lexR_ok h hn, lexR_ok h hn, shift_cons]
      have e : pos + d + gap s + m = pos + gap s + m + d := by omega
      rw [e, ih (s.drop (gap s + m)).length (by simp only [List.length_drop] at hp ⊢; omega) _ _ rfl]
      congr 1
      simp only [shiftT]
      congr 1
      omega
def Res.app (l : List Tok) : Res → Res
  | .toks m => .toks (l ++ m)
  | .err p e => .err p e
/-- What follows a text: its tokens without the last, or its error. -/
def Res.then (r : Res) (q : Res) : Res :=
  match r with
  | .toks l => q.app l.dropLast
  | .err p e => .err p e
theorem lexR_ne {s : List UInt8} {pos : Nat} {l : List Tok} (h : lexR pos s = .toks l) : l ≠ [] := by
  rcases lex_cases s with h1 | ⟨h1, ⟨e, hn⟩ | ⟨k, m, v, hn⟩⟩
  · rw [lexR_end h1] at h; injection h with h; subst h; simp
  · rw [lexR_err h1 hn] at h; cases h
  · rw [lexR_ok h1 hn] at h
    cases hq : lexR (pos + gap s + m) (s.drop (gap s + m)) with
    | toks m => rw [hq] at h; injection h with h; subst h; simp
    | err p e => rw [hq] at h; cases h
theorem then_cons {t : Tok} {r q : Res} (h : ∀ l, r = .toks l → l ≠ []) : (r.cons t).then q = (r.then q).cons t := by
  cases r with
  | err p e => rfl
  | toks l =>
    have hl := h l rfl
    cases l with
    | nil => exact absurd rfl hl
    | cons x l => cases q <;> simp [Res.cons, Res.then, Res.app, List.dropLast]
/-- Two texts with something between that ends a token and is skipped: w begins with a separator, and behind a gap w and b are skipped as far as b's gap. -/
theorem lexR_app (w b : List UInt8) (sep : UInt8) (w' : List UInt8) (hw : w = sep :: w') (hs : isSep sep = true)
    (hg : ∀ (a : List UInt8) (m : Bool), gapM m a = a.length → gapM m (a ++ (w ++ b)) = a.length + w.length + gapM false b) :
    ∀ (n : Nat) (a : List UInt8) (pos : Nat), a.length = n → (sep = 45 → a.getLast? ≠ some 45) → lexR pos (a ++ (w ++ b)) = (lexR pos a).then (lexR (pos + a.length + w.length) b) := by
  intro n
  induction n using Nat.strongRecOn with
  | _ n ih =>
    intro a pos hl hlast
    have ew : w ++ b = sep :: (w' ++ b) := by rw [hw]; rfl
    rcases lex_cases a with h | ⟨h, hh⟩
    · rw [lexR_end h]
      have hgg : gap (a ++ (w ++ b)) = a.length + w.length + gap b := hg a false h
      have hdrop : (a ++ (w ++ b)).drop (gap (a ++ (w ++ b))) = b.drop (gap b) := by
        rw [hgg, ← List.append_assoc]
        have : a.length + w.length + gap b = (a ++ w).length + gap b := by simp
        rw [this, List.drop_length_add_append]
      show _ = (lexR (pos + a.length + w.length) b).app []
      have happ : ∀ r : Res, r.app [] = r := by intro r; cases r <;> rfl
      rw [happ]
      rcases lex_cases b with h2 | ⟨h2, ⟨e, hn⟩ | ⟨k, m, v, hn⟩⟩
      · have : gap (a ++ (w ++ b)) = (a ++ (w ++ b)).length := by rw [hgg, h2]; simp; omega
        rw [lexR_end this, lexR_end h2]
        congr 3
        simp; omega
      · have h3 : gap (a ++ (w ++ b)) < (a ++ (w ++ b)).length := by rw [hgg]; simp; omega
        rw [lexR_err h3 (by rw [hdrop]; exact hn), lexR_err h2 hn, hgg]
        congr 1; omega
      · have h3 : gap (a ++ (w ++ b)) < (a ++ (w ++ b)).length := by rw [hgg]; simp; omega
        rw [lexR_ok h3 (by rw [hdrop]; exact hn), lexR_ok h2 hn, hdrop]
        have e1 : pos + gap (a ++ (w ++ b)) = pos + a.length + w.length + gap b := by rw [hgg]; omega
        rw [e1]
        congr 2
        rw [← List.drop_drop, hdrop, List.drop_drop]
    · have hga : gap (a ++ (w ++ b)) = gap a := by rw [ew]; exact gap_app sep _ a false h hlast
      have h3 : gap (a ++ (w ++ b)) < (a ++ (w ++ b)).length := by rw [hga]; simp; omega
      have hdr : (a ++ (w ++ b)).drop (gap a) = a.drop (gap a) ++ (w ++ b) := List.drop_append_of_le_length (by omega)
      have hne : a.drop (gap a) ≠ [] := by
        intro e
        have := congrArg List.length e
        simp only [List.length_drop, List.length_nil] at this
        omega
      have hnx : next ((a ++ (w ++ b)).drop (gap (a ++ (w ++ b)))) = next (a.drop (gap a)) := by
        rw [hga, hdr, ew]
        exact next_app hs _ hne
      rcases hh with ⟨e, hn⟩ | ⟨k, m, v, hn⟩
      · rw [lexR_err h3 (hnx.trans hn), lexR_err h hn, hga]
        rfl
      · have hp := next_pos hn
        rw [lexR_ok h3 (hnx.trans hn), lexR_ok h hn, hga, hdr]
        have e1 : (a.drop (gap a) ++ (w ++ b)).take m = (a.drop (gap a)).take m := take_app hp.2
        have hle : gap a + m ≤ a.length := by simp only [List.length_drop] at hp; omega
        have e2 : (a ++ (w ++ b)).drop (gap a + m) = a.drop (gap a + m) ++ (w ++ b) := List.drop_append_of_le_length hle
        rw [e1, e2, then_cons fun l hl => lexR_ne hl]
        have hl2 : sep = 45 → (a.drop (gap a + m)).getLast? ≠ some 45 := by
          intro e hx
          refine hlast e ?_
          rw [List.getLast?_drop] at hx
          split at hx
          · cases hx
          · exact hx
        rw [ih (a.drop (gap a + m)).length (by simp only [List.length_drop] at hp ⊢; omega) _ _ rfl hl2]
        congr 3
        simp only [List.length_drop]
        omega
theorem lexR_line (a b : List UInt8) (pos : Nat) : lexR pos (a ++ 10 :: b) = (lexR pos a).then (lexR (pos + a.length + 1) b) := by
  have := lexR_app [10] b 10 [] rfl (by decide) (fun a m h => gap_full b a m h) a.length a pos rfl (by intro h; exact absurd h (by decide))
  exact this
theorem lexR_comment (a c t : List UInt8) (pos : Nat) (hc : ∀ x, x ∈ c → x ≠ 10) (ha : a.getLast? ≠ some 45) : lexR pos (a ++ 45 :: 45 :: (c ++ 10 :: t)) = (lexR pos a).then (lexR (pos + a.length + (c.length + 3)) t) := by
  have := lexR_app (45 :: 45 :: (c ++ [10])) t 45 (45 :: (c ++ [10])) rfl (by decide) (fun a m h => by
    have := gap_full2 c t hc a m h
    simp only [List.cons_append, List.append_assoc, List.nil_append, List.length_cons, List.length_append, List.length_nil] at this ⊢
    rw [this]) a.length a pos rfl (fun _ => ha)
  simp only [List.cons_append, List.append_assoc, List.nil_append, List.length_cons, List.length_append, List.length_nil] at this
  exact this
end Go.Lx
