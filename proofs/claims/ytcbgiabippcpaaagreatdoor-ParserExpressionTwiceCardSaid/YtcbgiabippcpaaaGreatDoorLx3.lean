/- LX 1: the lexer in plain words. No program in sight. -/
import Derived.Lib.Bytealg
import Derived.Lib.Index
namespace Go.Lx
def isLet (c : UInt8) : Bool := decide (97 ≤ c) && decide (c ≤ 122)
def isDig (c : UInt8) : Bool := decide (48 ≤ c) && decide (c ≤ 57)
def isNam (c : UInt8) : Bool := isLet c || isDig c || c == 95
def isBlk (c : UInt8) : Bool := c == 32 || c == 9 || c == 13 || c == 10
def span (p : UInt8 → Bool) : List UInt8 → Nat
  | [] => 0
  | c :: r => if p c then span p r + 1 else 0
def gapM : Bool → List UInt8 → Nat
  | _, [] => 0
  | true, c :: r => gapM (c != 10) r + 1
  | false, c :: r => if isBlk c then gapM false r + 1 else if c == 45 && r.head? == some 45 then gapM true r + 1 else 0
abbrev gap (s : List UInt8) : Nat := gapM false s
def keywords : List (List UInt8) :=
  [[97, 110, 100], [97, 115, 115, 101, 114, 116], [98, 111, 111, 108], [102, 97, 108, 115, 101], [102, 105, 101, 108, 100], [102, 110], [102, 111, 114], [104, 97, 115, 104], [105, 110],
   [108, 101, 116], [110, 111, 116], [111, 114], [112, 117, 98, 108, 105, 99], [114, 101, 116, 117, 114, 110], [115, 101, 99, 114, 101, 116], [116, 114, 117, 101], [117, 105, 110, 116]]
def isPair (c d : UInt8) : Bool := (c == 46 && d == 46) || (c == 61 && d == 61) || (c == 33 && d == 61) || (c == 60 && d == 61)
def pairH (c : UInt8) : List UInt8 → Bool
  | [] => false
  | d :: _ => isPair c d
def singles : List UInt8 := [40, 41, 123, 125, 91, 93, 44, 59, 58, 63, 61, 60, 43, 45, 42]
def isSing (c : UInt8) : Bool := singles.contains c
def numV (l : List UInt8) : Nat := l.foldl (fun n c => 10 * n + (c.toNat - 48)) 0
structure Tok where
  kind : Nat
  text : List UInt8
  val : Nat
  pos : Nat
inductive Nx where
  | err (e : Nat)
  | ok (k n v : Nat)
def nextW (s : List UInt8) : Nx :=
  if keywords.contains (s.take (span isNam s)) then .ok 2 (span isNam s) 0 else if 24 < span isNam s then .err 3 else .ok 1 (span isNam s) 0
def nextD (s : List UInt8) : Nx :=
  if s.head? = some 48 ∧ 1 < span isDig s then .err 2 else if 18446744073709551615 < numV (s.take (span isDig s)) then .err 3 else .ok 3 (span isDig s) (numV (s.take (span isDig s)))
def next : List UInt8 → Nx
  | [] => .err 2
  | c :: r => if isLet c then nextW (c :: r) else if isDig c then nextD (c :: r) else if pairH c r then .ok 4 2 0 else if isSing c then .ok 4 1 0 else .err 2
inductive Res where
  | toks (l : List Tok)
  | err (p e : Nat)
def Res.cons (t : Tok) : Res → Res
  | .toks l => .toks (t :: l)
  | .err p e => .err p e
def lexR (pos : Nat) (s : List UInt8) : Res :=
  match _h : s.drop (gap s) with
  | [] => .toks [⟨0, [], 0, pos + s.length⟩]
  | c :: r => match next (c :: r) with
    | .err e => .err (pos + gap s) e
    | .ok k n v => (lexR (pos + gap s + (n - 1 + 1)) (r.drop (n - 1))).cons ⟨k, (c :: r).take n, v, pos + gap s⟩
termination_by s.length
decreasing_by
  have h1 := congrArg List.length _h
  simp only [List.length_drop, List.length_cons] at h1 ⊢
  omega
theorem gapM_le : ∀ (s : List UInt8) (m : Bool), gapM m s ≤ s.length := by
  intro s
  induction s with
  | nil => intro m; cases m <;> simp [gapM]
  | cons c r ih =>
    intro m
    cases m with
    | true => have := ih (c != 10); simp only [gapM, List.length_cons]; omega
    | false =>
      have h1 := ih false
      have h2 := ih true
      simp only [gapM, List.length_cons]
      split
      · omega
      · split <;> omega
theorem gap_take : ∀ (s : List UInt8) (m : Bool), gapM m (s.take (gapM m s)) = gapM m s := by
  intro s
  induction s with
  | nil => intro m; simp
  | cons c r ih =>
    intro m
    cases m with
    | true => simp only [gapM, List.take_succ_cons]; rw [ih]
    | false =>
      simp only [gapM]
      split
      · rename_i hb
        simp only [List.take_succ_cons, gapM, if_pos hb]
        rw [ih]
      · rename_i hb
        split
        · rename_i hc
          have hc' : (c == 45 && (r.take (gapM true r)).head? == some 45) = true := by
            cases r with
            | nil => simp at hc
            | cons d r => simpa [gapM] using hc
          simp only [List.take_succ_cons, gapM, if_neg hb, if_pos hc']
          rw [ih]
        · simp [gapM]
theorem span_le (p : UInt8 → Bool) : ∀ (s : List UInt8), span p s ≤ s.length := by
  intro s
  induction s with
  | nil => simp [span]
  | cons c r ih => simp only [span, List.length_cons]; split <;> omega
theorem span_all (p : UInt8 → Bool) : ∀ (s : List UInt8) (c : UInt8), c ∈ s.take (span p s) → p c = true := by
  intro s
  induction s with
  | nil => intro c h; simp at h
  | cons x r ih =>
    intro c h
    simp only [span] at h
    split at h
    · rename_i hx
      simp only [List.take_succ_cons, List.mem_cons] at h
      rcases h with rfl | h
      · exact hx
      · exact ih c h
    · simp at h
theorem next_pos {s : List UInt8} {k n v : Nat} (h : next s = .ok k n v) : 1 ≤ n ∧ n ≤ s.length := by
  cases s with
  | nil => simp [next] at h
  | cons c r =>
    have l1 := span_le isNam (c :: r)
    have l2 := span_le isDig (c :: r)
    simp only [next] at h
    split at h
    · rename_i hl
      have hp : 1 ≤ span isNam (c :: r) := by simp [span, isNam, hl]
      simp only [nextW] at h
      split at h
      · injection h; omega
      · split at h
        · cases h
        · injection h; omega
    · split at h
      · rename_i hl
        have hp : 1 ≤ span isDig (c :: r) := by simp [span, hl]
        simp only [nextD] at h
        split at h
        · cases h
        · split at h
          · cases h
          · injection h; omega
      · split at h
        · rename_i hp
          have : 1 ≤ r.length := by cases r with
            | nil => simp [pairH] at hp
            | cons d r => simp
          injection h
          simp only [List.length_cons]; omega
        · split at h
          · injection h; simp only [List.length_cons]; omega
          · cases h
theorem lexR_end {pos : Nat} {s : List UInt8} (h : gap s = s.length) : lexR pos s = .toks [⟨0, [], 0, pos + s.length⟩] := by
  rw [lexR]
  split
  · rfl
  · rename_i c r hd
    rw [h, List.drop_length] at hd
    cases hd
theorem lexR_err {pos : Nat} {s : List UInt8} (h : gap s < s.length) {e : Nat} (hn : next (s.drop (gap s)) = .err e) : lexR pos s = .err (pos + gap s) e := by
  rw [lexR]
  split
  · rename_i hd
    have := congrArg List.length hd
    simp only [List.length_drop, List.length_nil] at this
    omega
  · rename_i c r hd
    rw [hd] at hn
    rw [hn]
theorem lexR_ok {pos : Nat} {s : List UInt8} (h : gap s < s.length) {k n v : Nat} (hn : next (s.drop (gap s)) = .ok k n v) :
    lexR pos s = (lexR (pos + gap s + n) (s.drop (gap s + n))).cons ⟨k, (s.drop (gap s)).take n, v, pos + gap s⟩ := by
  have hp := next_pos hn
  rw [lexR]
  split
  · rename_i hd
    have := congrArg List.length hd
    simp only [List.length_drop, List.length_nil] at this
    omega
  · rename_i c r hd
    obtain ⟨m, rfl⟩ : ∃ m, n = m + 1 := ⟨n - 1, by omega⟩
    have e : s.drop (gap s + (m + 1)) = r.drop m := by rw [← List.drop_drop, hd, List.drop_succ_cons]
    rw [e]
    rw [hd] at hn
    rw [hn, hd]
    simp only [Nat.add_sub_cancel]
theorem lex_cases (s : List UInt8) : gap s = s.length ∨ (gap s < s.length ∧ ((∃ e, next (s.drop (gap s)) = .err e) ∨ ∃ k n v, next (s.drop (gap s)) = .ok k n v)) := by
  have h1 := gapM_le s false
  rcases Nat.lt_or_ge (gap s) s.length with h | h
  · right
    refine ⟨h, ?_⟩
    cases hn : next (s.drop (gap s)) with
    | err e => exact .inl ⟨e, rfl⟩
    | ok k n v => exact .inr ⟨k, n, v, rfl⟩
  · left; exact Nat.le_antisymm h1 h
def shiftT (d : Nat) (t : Tok) : Tok := { t with pos := t.pos + d }
def Res.shift (d : Nat) : Res → Res
  | .toks l => .toks (l.map (shiftT d))
  | .err p e => .err (p + d) e
def Res.app (l : List Tok) : Res → Res
  | .toks m => .toks (l ++ m)
  | .err p e => .err p e
def Res.then (r : Res) (q : Res) : Res :=
  match r with
  | .toks l => q.app l.dropLast
  | .err p e => .err p e
theorem lexR_ne {s : List UInt8} {pos : Nat} {l : List Tok} (h : lexR pos s = .toks l) : l ≠ [] := by
  rcases lex_cases s with h1 | ⟨h1, ⟨e, hn⟩ | ⟨k, m, v, hn⟩⟩
  · rw [lexR_end h1] at h; injection h with h; subst h; simp
  · rw [lexR_err h1 hn] at h; cases h
  · rw [lexR_ok h1 hn] at h
    cases hq : lexR (pos + gap s + m) (s.drop (gap s + m)) with
    | toks m => rw [hq] at h; injection h with h; subst h; simp
    | err p e => rw [hq] at h; cases h
end Go.Lx

/- LX 2: tokens joined again; numbers. No program in sight. -/
namespace Go.Lx
structure IsGap (g : List UInt8) : Prop where
  head : ∃ b g', g = b :: g' ∧ isBlk b = true
  skip : ∀ x, gapM false (g ++ x) = g.length + gapM false x
def like (a b : Tok) : Prop := a.kind = b.kind ∧ a.text = b.text ∧ a.val = b.val
def Alike : List Tok → List Tok → Prop
  | [], [] => True
  | a :: l, b :: m => like a b ∧ Alike l m
  | _, _ => False
theorem alike_refl : ∀ l, Alike l l := by
  intro l
  induction l with
  | nil => trivial
  | cons a l ih => exact ⟨⟨rfl, rfl, rfl⟩, ih⟩
theorem alike_app : ∀ {a b c d : List Tok}, Alike a b → Alike c d → Alike (a ++ c) (b ++ d) := by
  intro a
  induction a with
  | nil => intro b c d h1 h2; cases b with
    | nil => exact h2
    | cons x b => cases h1
  | cons x a ih => intro b c d h1 h2; cases b with
    | nil => cases h1
    | cons y b => exact ⟨h1.1, ih h1.2 h2⟩
theorem alike_len : ∀ {a b : List Tok}, Alike a b → a.length = b.length := by
  intro a
  induction a with
  | nil => intro b h1; cases b with
    | nil => rfl
    | cons x b => cases h1
  | cons x a ih => intro b h1; cases b with
    | nil => cases h1
    | cons y b => simp [ih h1.2]
def decD (u : Nat) : List UInt8 :=
  if _h : u < 10 then [UInt8.ofNat (48 + u)] else decD (u / 10) ++ [UInt8.ofNat (48 + u % 10)]
termination_by u
decreasing_by omega
theorem decD_small {u : Nat} (h : u < 10) : decD u = [UInt8.ofNat (48 + u)] := by rw [decD, dif_pos h]
theorem decD_big {u : Nat} (h : ¬ u < 10) : decD u = decD (u / 10) ++ [UInt8.ofNat (48 + u % 10)] := by rw [decD, dif_neg h]
theorem dig_toNat {d : Nat} (h : d < 10) : (UInt8.ofNat (48 + d)).toNat = 48 + d := by rw [UInt8.toNat_ofNat']; omega
theorem dig_isDig {d : Nat} (h : d < 10) : isDig (UInt8.ofNat (48 + d)) = true := by
  have := dig_toNat h
  simp only [isDig, Bool.and_eq_true, decide_eq_true_eq, UInt8.le_iff_toNat_le, this]
  exact ⟨by show 48 ≤ _; omega, by show _ ≤ 57; omega⟩
theorem decD_dig : ∀ (u : Nat) (c : UInt8), c ∈ decD u → isDig c = true := by
  intro u
  induction u using Nat.strongRecOn with
  | _ u ih =>
    intro c hc
    by_cases h : u < 10
    · rw [decD_small h] at hc
      simp only [List.mem_cons, List.not_mem_nil, or_false] at hc
      subst hc
      exact dig_isDig h
    · rw [decD_big h] at hc
      rcases List.mem_append.1 hc with hc | hc
      · exact ih (u / 10) (by omega) c hc
      · simp only [List.mem_cons, List.not_mem_nil, or_false] at hc
        subst hc
        exact dig_isDig (by omega)
theorem numV_snoc (l : List UInt8) (c : UInt8) : numV (l ++ [c]) = 10 * numV l + (c.toNat - 48) := by simp [numV]
theorem numV_decD : ∀ (u : Nat), numV (decD u) = u := by
  intro u
  induction u using Nat.strongRecOn with
  | _ u ih =>
    by_cases h : u < 10
    · rw [decD_small h]
      simp only [numV, List.foldl_cons, List.foldl_nil, dig_toNat h]
      omega
    · rw [decD_big h, numV_snoc, ih (u / 10) (by omega), dig_toNat (by omega)]
      omega
theorem decD_ne (u : Nat) : decD u ≠ [] := by
  by_cases h : u < 10
  · rw [decD_small h]; simp
  · rw [decD_big h]; simp
theorem decD_head : ∀ (u : Nat), 0 < u → (decD u).head? ≠ some 48 := by
  intro u
  induction u using Nat.strongRecOn with
  | _ u ih =>
    intro h0
    by_cases h : u < 10
    · rw [decD_small h]
      simp only [List.head?_cons, ne_eq, Option.some.injEq]
      intro e
      have := congrArg UInt8.toNat e
      rw [dig_toNat h] at this
      have : (48 + u) = 48 := this
      omega
    · rw [decD_big h]
      have hne := decD_ne (u / 10)
      cases hd : decD (u / 10) with
      | nil => exact absurd hd hne
      | cons c r =>
        have := ih (u / 10) (by omega) (by omega)
        rw [hd] at this
        exact this
theorem decD_len : ∀ (k u : Nat), u < 10 ^ (k + 1) → (decD u).length ≤ k + 1 := by
  intro k
  induction k with
  | zero => intro u h; rw [decD_small (by simpa using h)]; simp
  | succ k ih =>
    intro u h
    by_cases h' : u < 10
    · rw [decD_small h']; simp
    · rw [decD_big h', List.length_append]
      have : u / 10 < 10 ^ (k + 1) := by rw [Nat.pow_succ] at h; omega
      have := ih _ this
      simp only [List.length_cons, List.length_nil]; omega
theorem decD_len1 {u : Nat} (h : 1 < (decD u).length) : 0 < u := by
  rcases Nat.eq_zero_or_pos u with e | e
  · subst e; rw [decD_small (by omega)] at h; simp at h
  · exact e
theorem isDig_blk {c : UInt8} (h : isDig c = true) : isBlk c = false ∧ c ≠ 45 := by
  simp only [isDig, Bool.and_eq_true, decide_eq_true_eq, UInt8.le_iff_toNat_le] at h
  have h1 : 48 ≤ c.toNat := h.1
  constructor
  · simp only [isBlk, Bool.or_eq_false_iff, beq_eq_false_iff_ne]
    refine ⟨⟨⟨?_, ?_⟩, ?_⟩, ?_⟩ <;> (intro e; subst e; exact absurd h1 (by decide))
  · intro e; subst e; exact absurd h1 (by decide)
end Go.Lx

/- LX 3: what the code reckons, in plain words: values, symbols, lists of names. No program in sight. -/
namespace Go.Lx
def numF (n : Nat) (l : List UInt8) : Nat := l.foldl (fun n c => 10 * n + (c.toNat - 48)) n
theorem numF_zero (l : List UInt8) : numF 0 l = numV l := by simp only [numF, numV]
theorem numF_cons (n : Nat) (c : UInt8) (l : List UInt8) : numF n (c :: l) = numF (10 * n + (c.toNat - 48)) l := by simp only [numF, List.foldl_cons]
theorem numF_nil (n : Nat) : numF n [] = n := rfl
theorem numF_ge : ∀ (l : List UInt8) (n : Nat), n ≤ numF n l := by
  intro l
  induction l with
  | nil => intro n; exact Nat.le_refl _
  | cons c l ih => intro n; rw [numF_cons]; have := ih (10 * n + (c.toNat - 48)); omega
theorem dig_le {c : UInt8} (h : isDig c = true) : 48 ≤ c.toNat ∧ c.toNat ≤ 57 := by
  simp only [isDig, Bool.and_eq_true, decide_eq_true_eq, UInt8.le_iff_toNat_le] at h
  exact h
def pairsS : List UInt8 := [32, 46, 46, 32, 61, 61, 32, 33, 61, 32, 60, 61, 32]
theorem index_pairs (a b : UInt8) : (decide (0 ≤ Lib.index pairsS [32, a, b, 32])) = isPair a b := by
  simp only [pairsS, Lib.index, List.isPrefixOf, List.isEmpty_cons, isPair]
  have f1 : ((32 : UInt8) == 32) = true := rfl
  have f2 : ((32 : UInt8) == 46) = false := rfl
  have f3 : ((32 : UInt8) == 61) = false := rfl
  have f4 : ((32 : UInt8) == 33) = false := rfl
  have f5 : ((32 : UInt8) == 60) = false := rfl
  simp only [f1, f2, f3, f4, f5, Bool.true_and, Bool.and_true, Bool.and_false, Bool.false_eq_true, if_false]
  by_cases h1 : a = 46 ∧ b = 46
  · obtain ⟨rfl, rfl⟩ := h1; decide
  · by_cases h2 : a = 61 ∧ b = 61
    · obtain ⟨rfl, rfl⟩ := h2; decide
    · by_cases h3 : a = 33 ∧ b = 61
      · obtain ⟨rfl, rfl⟩ := h3; decide
      · by_cases h4 : a = 60 ∧ b = 61
        · obtain ⟨rfl, rfl⟩ := h4; decide
        · have g1 : (a == 46 && b == 46) = false := by simpa using h1
          have g2 : (a == 61 && b == 61) = false := by simpa using h2
          have g3 : (a == 33 && b == 61) = false := by simpa using h3
          have g4 : (a == 60 && b == 61) = false := by simpa using h4
          simp only [g1, g2, g3, g4, Bool.or_self, Bool.false_eq_true, if_false]
          decide
theorem index_singles (c : UInt8) : (decide (0 ≤ Lib.indexByte singles c)) = isSing c := by
  have key : ∀ l : List UInt8, decide (0 ≤ Lib.indexByte l c) = l.contains c := by
    intro l
    induction l with
    | nil => rfl
    | cons b l ih =>
      have hg := Lib.indexByte_ge l c
      rw [List.contains_cons, ← ih, Lib.indexByte]
      by_cases h : b = c
      · subst h; simp
      · have h1 : (b == c) = false := by simpa using h
        have h2 : (c == b) = false := by simpa using fun e : c = b => h e.symm
        rw [h1, h2]
        simp only [Bool.false_eq_true, if_false, Bool.false_or, beq_iff_eq]
        split
        · rename_i e; rw [e]
        · congr 1; apply propext; omega
  exact key singles
end Go.Lx
