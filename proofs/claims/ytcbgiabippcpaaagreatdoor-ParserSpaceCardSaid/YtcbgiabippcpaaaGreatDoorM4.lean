/- Contracts: the next token. -/
import Derived.Test.YtcbgiabippcpaaaGreatDoorM3
set_option maxRecDepth 10000
set_option linter.unusedVariables false
set_option linter.unusedSimpArgs false
namespace Go.Proofs.YtcbgiabippcpaaaGreatDoor
open Go.Pi Go.Lx
variable {gl : Nat → Option (List T)}

/-- The table of operators. -/
def opsC : List T := [.str [111, 114], .int .i64 19, .str [], .int .i64 0, .str [], .int .i64 0, .str [], .int .i64 0,
  .str [97, 110, 100], .int .i64 18, .str [], .int .i64 0, .str [], .int .i64 0, .str [], .int .i64 0,
  .str [61, 61], .int .i64 14, .str [33, 61], .int .i64 15, .str [60], .int .i64 16, .str [60, 61], .int .i64 17,
  .str [43], .int .i64 12, .str [45], .int .i64 13, .str [], .int .i64 0, .str [], .int .i64 0,
  .str [42], .int .i64 11, .str [], .int .i64 0, .str [], .int .i64 0, .str [], .int .i64 0]
/-- What the variables hold: two errors, and some number. -/
structure GlOk (gl : Nat → Option (List T)) : Prop where
  g0 : gl 2 = some [.ifx]
  g1 : gl 3 = some [.ifx]
  g2 : ∃ m, gl 4 = some [.int .i64 m]
  g3 : gl 0 = some opsC
theorem xR_cell2 {k l n : Nat} {ag : Bool} {K : PV → Sg → Ow → Prop} {s : S} : xR gl [(k, some (ag, n)), (l, none)] K ⟨⟩ .ret s ↔ xO (loadP gl s.sg ag n (fget s.fr k)) (fun v => K (.tup [v, fget s.fr l]) s.sg s.ow) ⟨⟩ := by
  show resK gl [(k, some (ag, n)), (l, none)] K .ret s ↔ onO (loadP gl s.sg ag n (fget s.fr k)) (fun v => K (.tup [v, fget s.fr l]) s.sg s.ow)
  simp only [resK, resAll, List.mapM_cons, resOne, List.mapM_nil]
  cases loadP gl s.sg ag n (fget s.fr k) <;> rfl
theorem puM : ∀ (l : List UInt8) (acc : Nat), (∀ c, c ∈ l → isDig c = true) → acc ≤ 18446744073709551615 → Lib.parseUintM 18446744073709551615 acc l = if 18446744073709551615 < numF acc l then .range else .ok (numF acc l) := by
  intro l
  induction l with
  | nil => intro acc _ h; rw [numF_nil, if_neg (by omega)]; rfl
  | cons c r ih =>
    intro acc hd h
    obtain ⟨d1, d2⟩ := dig_le (hd c List.mem_cons_self)
    have hge := numF_ge r (10 * acc + (c.toNat - 48))
    rw [numF_cons]
    rw [Lib.parseUintM, if_pos ⟨d1, d2⟩]
    have e : acc * 10 + (c.toNat - 48) = 10 * acc + (c.toNat - 48) := by omega
    rw [e]
    split
    · rw [if_pos (by omega)]
    · split
      · rw [if_pos (by omega)]
      · exact ih _ (fun x hx => hd x (List.mem_cons_of_mem _ hx)) (by omega)
theorem puB {l : List UInt8} (hd : ∀ c, c ∈ l → isDig c = true) (hne : l ≠ []) : Lib.parseUintB 64 l = if 18446744073709551615 < numV l then .range else .ok (numV l) := by
  rw [Lib.parseUintB, if_neg hne, ← numF_zero]
  exact puM l 0 hd (by omega)
theorem xpu (hg : GlOk gl) {t : List UInt8} (hd : ∀ c, c ∈ t → isDig c = true) (hne : t ≠ []) (hl : t.length ≤ 281474976710656) :
    xfun gl 12325 [.str t, .int .i64 10, .int .i64 64] = some (if 18446744073709551615 < numV t then .tup [.t (.int .u64 18446744073709551615), .t .ifx] else .tup [.t (.int .u64 (numV t)), .t .nif]) := by
  show xcon gl 2 770 [.str t, .int .i64 10, .int .i64 64] = _
  have e1 : gl (770 % 256) = some [.ifx] := hg.g0
  have e2 : gl (770 / 256) = some [.ifx] := hg.g1
  by_cases h : 18446744073709551615 < numV t
  · simp only [xcon, e1, e2, hl, and_self, if_true, puB hd hne, if_pos h]
  · simp only [xcon, e1, e2, hl, and_self, if_true, puB hd hne, if_neg h]
theorem xct (hg : GlOk gl) {a b : List UInt8} (ha : a.length < 4294967281) : xfun gl 68 [.str a, .str b] = some (.t (.bool (Lib.contains a b))) := by
  show xcon gl 1 4 [.str a, .str b] = _
  obtain ⟨m, e⟩ := hg.g2
  simp only [xcon, e, ha, if_true]
theorem slice_to {s : List UInt8} {n : Nat} (h : n ≤ s.length) : sliceS (.t (.str s)) none (some (.t (.int .i64 (n : Int)))) = some (.t (.str (s.take n))) := by
  have : (0 : Int) ≤ (n : Int) := by omega
  simp only [sliceS, bound, this, if_true, Int.toNat_natCast, h, Nat.zero_le, and_self, List.drop_zero]
def tTok (t : Tok) : List T := [.int .i64 t.kind, .str t.text, .int .u64 t.val, .int .i64 t.pos]
def nxV (pos : Nat) (s : List UInt8) : PV :=
  match next s with
  | .err e => .tup [.t (.agg [.int .i64 0, .str [], .int .u64 0, .int .i64 0]), .t (.int .i64 e)]
  | .ok k n v => .tup [.t (.agg (tTok ⟨k, s.take n, v, pos⟩)), .t (.int .i64 0)]
def zTok : PV := .t (.agg [.int .i64 0, .str [], .int .u64 0, .int .i64 0])
def tkV (k : Nat) (t : List UInt8) (v pos : Nat) : PV := .tup [.t (.agg [.int .i64 k, .str t, .int .u64 v, .int .i64 pos]), .t (.int .i64 0)]
def erV (e : Nat) : PV := .tup [zTok, .t (.int .i64 e)]
theorem nxV_err {pos e : Nat} {s : List UInt8} (h : next s = .err e) : nxV pos s = erV e := by simp only [nxV, h]; rfl
theorem nxV_ok {pos k n v : Nat} {s : List UInt8} (h : next s = .ok k n v) : nxV pos s = tkV k (s.take n) v pos := by simp only [nxV, h]; rfl
theorem nxV_W {pos : Nat} {c : UInt8} {r : List UInt8} (hL : isLet c = true) : nxV pos (c :: r) = if keywords.contains ((c :: r).take (span isNam (c :: r))) then tkV 2 ((c :: r).take (span isNam (c :: r))) 0 pos else if 24 < span isNam (c :: r) then erV 3 else tkV 1 ((c :: r).take (span isNam (c :: r))) 0 pos := by
  have e : next (c :: r) = nextW (c :: r) := by rw [next, if_pos hL]
  rw [nextW] at e
  split at e
  · rename_i h; rw [if_pos h, nxV_ok e]
  · rename_i h
    rw [if_neg h]
    split at e
    · rename_i h2; rw [if_pos h2, nxV_err e]
    · rename_i h2; rw [if_neg h2, nxV_ok e]
theorem nxV_D {pos : Nat} {c : UInt8} {r : List UInt8} (hL : isLet c = false) (hD : isDig c = true) : nxV pos (c :: r) = if ((c.toNat : Int) = 48) ∧ 1 < span isDig (c :: r) then erV 2 else if 18446744073709551615 < numV ((c :: r).take (span isDig (c :: r))) then erV 3 else tkV 3 ((c :: r).take (span isDig (c :: r))) (numV ((c :: r).take (span isDig (c :: r)))) pos := by
  have e : next (c :: r) = nextD (c :: r) := by rw [next, if_neg (by simp [hL]), if_pos hD]
  have e48 : ((c :: r).head? = some 48) ↔ ((c.toNat : Int) = 48) := by rw [List.head?_cons, Option.some.injEq]; exact u8_eq (n := 48) (by omega)
  rw [nextD] at e
  split at e
  · rename_i h; rw [if_pos ⟨e48.1 h.1, h.2⟩, nxV_err e]
  · rename_i h
    rw [if_neg fun q => h ⟨e48.2 q.1, q.2⟩]
    split at e
    · rename_i h2; rw [if_pos h2, nxV_err e]
    · rename_i h2; rw [if_neg h2, nxV_ok e]
theorem nxV_S {pos : Nat} {c : UInt8} {r : List UInt8} (hL : isLet c = false) (hD : isDig c = false) : nxV pos (c :: r) = if pairH c r then tkV 4 ((c :: r).take 2) 0 pos else if isSing c then tkV 4 ((c :: r).take 1) 0 pos else erV 2 := by
  have e : next (c :: r) = if pairH c r then .ok 4 2 0 else if isSing c then .ok 4 1 0 else .err 2 := by rw [next, if_neg (by simp [hL]), if_neg (by simp [hD])]
  split at e
  · rename_i h; rw [if_pos h, nxV_ok e]
  · rename_i h
    rw [if_neg h]
    split at e
    · rename_i h2; rw [if_pos h2, nxV_ok e]
    · rename_i h2; rw [if_neg h2, nxV_err e]
theorem ok87 (hg : GlOk gl) {s : List UInt8} (hl : s.length ≤ 20000) {i : Nat} {c : UInt8} {r : List UInt8} (hd : s.drop i = c :: r) {K : PV → Prop} :
    XcP F gl 87 [.str s, .int .i64 i] K ⟨⟩ ↔ K (nxV i (c :: r)) := by
  obtain ⟨hx, hr, hi⟩ := drop_cons hd
  have hlen : (c :: r).length ≤ 20000 := by rw [← hd, List.length_drop]; omega
  have hsl := slice_from (s := s) (i := i) (by omega)
  rw [hd] at hsl
  refine Ret.iff (Ret.of F87 rfl ?_)
  simp only [ir87]
  have a26 := @ok91 gl c
  have a31 := @ok112 gl c
  cases hL : isLet c with
  | true =>
    have a27 := @ok92 gl isNam 93 okE93 (c :: r) (by omega)
    have l1 := span_le isNam (c :: r)
    have st := slice_to l1
    have lt : ((c :: r).take (span isNam (c :: r))).length = span isNam (c :: r) := by rw [List.length_take]; omega
    have a29 := @ok94 gl false keywords (by decide) ((c :: r).take (span isNam (c :: r)))
    have hnx := nxV_W (pos := i) (r := r) hL
    rw [hL] at a26
    generalize (c :: r).take (span isNam (c :: r)) = t at *
    generalize span isNam (c :: r) = n at *
    cases hk : keywords.contains t with
    | true =>
      rw [hk] at a29
      simp only [wA, seval, reduceCtorEq, reduceIte, xR_cell2, hsl, a26, a27, st, ok95, a29]
      repeat' ((with_reducible first | refine xG_dec ?_ ?_ | refine xG_ndec ?_ ?_ | refine xG_nsplit ?_ ?_ | refine xG_split ?_ ?_ | refine xC_dec ?_ ?_ | refine xC_ndec ?_ ?_ | refine xC_nsplit ?_ ?_ | refine xC_split ?_ ?_) <;> intro h <;> (try simp only [wA, seval, reduceCtorEq, reduceIte, xR_cell2, hsl, a26, a27, st, ok95, a29, h]))
      first | done | (simp only [hnx, hk, and_self, and_true, and_false, false_and, if_true, if_false, Bool.false_eq_true, pairH]; rfl)
    | false =>
      rw [hk] at a29
      by_cases h24 : 24 < n
      · have h24' : (24 : Int) < (n : Int) := by omega
        simp only [wA, seval, reduceCtorEq, reduceIte, xR_cell2, hsl, a26, a27, st, ok95, a29, lt, h24', h24, Bool.false_eq_true]
        repeat' ((with_reducible first | refine xG_dec ?_ ?_ | refine xG_ndec ?_ ?_ | refine xG_nsplit ?_ ?_ | refine xG_split ?_ ?_ | refine xC_dec ?_ ?_ | refine xC_ndec ?_ ?_ | refine xC_nsplit ?_ ?_ | refine xC_split ?_ ?_) <;> intro h <;> (try simp only [wA, seval, reduceCtorEq, reduceIte, xR_cell2, hsl, a26, a27, st, ok95, a29, lt, h24', h24, Bool.false_eq_true, h]))
        first | done | (simp only [hnx, hk, h24, and_self, and_true, and_false, false_and, if_true, if_false, Bool.false_eq_true, pairH]; rfl)
      · have h24' : ¬ ((24 : Int) < (n : Int)) := by omega
        simp only [wA, seval, reduceCtorEq, reduceIte, xR_cell2, hsl, a26, a27, st, ok95, a29, lt, h24', h24, Bool.false_eq_true]
        repeat' ((with_reducible first | refine xG_dec ?_ ?_ | refine xG_ndec ?_ ?_ | refine xG_nsplit ?_ ?_ | refine xG_split ?_ ?_ | refine xC_dec ?_ ?_ | refine xC_ndec ?_ ?_ | refine xC_nsplit ?_ ?_ | refine xC_split ?_ ?_) <;> intro h <;> (try simp only [wA, seval, reduceCtorEq, reduceIte, xR_cell2, hsl, a26, a27, st, ok95, a29, lt, h24', h24, Bool.false_eq_true, h]))
        first | done | (simp only [hnx, hk, h24, and_self, and_true, and_false, false_and, if_true, if_false, Bool.false_eq_true, pairH]; rfl)
  | false =>
    rw [hL] at a26
    cases hD : isDig c with
    | true =>
      have a27 := @ok92 gl isDig 112 okE112 (c :: r) (by omega)
      have l1 := span_le isDig (c :: r)
      have st := slice_to l1
      have lt : ((c :: r).take (span isDig (c :: r))).length = span isDig (c :: r) := by rw [List.length_take]; omega
      have hall : ∀ x, x ∈ (c :: r).take (span isDig (c :: r)) → isDig x = true := span_all isDig (c :: r)
      have h0 : ((c :: r).take (span isDig (c :: r)))[0]? = some c := by simp only [span, hD, if_true, List.take_succ_cons]; rfl
      have hnx := nxV_D (pos := i) (r := r) hL hD
      rw [hD] at a31
      generalize (c :: r).take (span isDig (c :: r)) = t at *
      generalize span isDig (c :: r) = n at *
      have hne : t ≠ [] := by intro e; subst e; simp at h0
      have xp := xpu hg hall hne (by omega)
      by_cases h48 : (c.toNat : Int) = 48
      · have h48d : decide ((c.toNat : Int) = 48) = true := decide_eq_true h48
        by_cases h1 : 1 < n
        · have h1' : (1 : Int) < (n : Int) := by omega
          simp only [wA, seval, reduceCtorEq, reduceIte, xR_cell2, hsl, a26, a31, a27, st, lt, h0, h48d, h1', h1, Bool.false_eq_true]
          repeat' ((with_reducible first | refine xG_dec ?_ ?_ | refine xG_ndec ?_ ?_ | refine xG_nsplit ?_ ?_ | refine xG_split ?_ ?_ | refine xC_dec ?_ ?_ | refine xC_ndec ?_ ?_ | refine xC_nsplit ?_ ?_ | refine xC_split ?_ ?_) <;> intro h <;> (try simp only [wA, seval, reduceCtorEq, reduceIte, xR_cell2, hsl, a26, a31, a27, st, lt, h0, h48d, h1', h1, Bool.false_eq_true, h]))
          first | done | (simp only [hnx, h48, h1, and_self, and_true, and_false, false_and, if_true, if_false, Bool.false_eq_true, pairH]; rfl)
        · have h1' : ¬ ((1 : Int) < (n : Int)) := by omega
          by_cases hv : 18446744073709551615 < numV t
          · simp only [hv, if_true] at xp
            simp only [wA, seval, reduceCtorEq, reduceIte, xR_cell2, hsl, a26, a31, a27, st, lt, h0, h48d, h1', h1, Bool.false_eq_true, xp, hv, and_false]
            repeat' ((with_reducible first | refine xG_dec ?_ ?_ | refine xG_ndec ?_ ?_ | refine xG_nsplit ?_ ?_ | refine xG_split ?_ ?_ | refine xC_dec ?_ ?_ | refine xC_ndec ?_ ?_ | refine xC_nsplit ?_ ?_ | refine xC_split ?_ ?_) <;> intro h <;> (try simp only [wA, seval, reduceCtorEq, reduceIte, xR_cell2, hsl, a26, a31, a27, st, lt, h0, h48d, h1', h1, Bool.false_eq_true, xp, hv, and_false, h]))
            first | done | (simp only [hnx, h48, h1, hv, and_self, and_true, and_false, false_and, if_true, if_false, Bool.false_eq_true, pairH]; rfl)
          · simp only [hv, if_false] at xp
            simp only [wA, seval, reduceCtorEq, reduceIte, xR_cell2, hsl, a26, a31, a27, st, lt, h0, h48d, h1', h1, Bool.false_eq_true, xp, hv, and_false]
            repeat' ((with_reducible first | refine xG_dec ?_ ?_ | refine xG_ndec ?_ ?_ | refine xG_nsplit ?_ ?_ | refine xG_split ?_ ?_ | refine xC_dec ?_ ?_ | refine xC_ndec ?_ ?_ | refine xC_nsplit ?_ ?_ | refine xC_split ?_ ?_) <;> intro h <;> (try simp only [wA, seval, reduceCtorEq, reduceIte, xR_cell2, hsl, a26, a31, a27, st, lt, h0, h48d, h1', h1, Bool.false_eq_true, xp, hv, and_false, h]))
            first | done | (simp only [hnx, h48, h1, hv, and_self, and_true, and_false, false_and, if_true, if_false, Bool.false_eq_true, pairH]; rfl)
      · by_cases hv : 18446744073709551615 < numV t
        · simp only [hv, if_true] at xp
          simp only [wA, seval, reduceCtorEq, reduceIte, xR_cell2, hsl, a26, a31, a27, st, lt, h0, h48, Bool.false_eq_true, xp, hv, false_and]
          repeat' ((with_reducible first | refine xG_dec ?_ ?_ | refine xG_ndec ?_ ?_ | refine xG_nsplit ?_ ?_ | refine xG_split ?_ ?_ | refine xC_dec ?_ ?_ | refine xC_ndec ?_ ?_ | refine xC_nsplit ?_ ?_ | refine xC_split ?_ ?_) <;> intro h <;> (try simp only [wA, seval, reduceCtorEq, reduceIte, xR_cell2, hsl, a26, a31, a27, st, lt, h0, h48, Bool.false_eq_true, xp, hv, false_and, h]))
          first | done | (simp only [hnx, h48, hv, and_self, and_true, and_false, false_and, if_true, if_false, Bool.false_eq_true, pairH]; rfl)
        · simp only [hv, if_false] at xp
          simp only [wA, seval, reduceCtorEq, reduceIte, xR_cell2, hsl, a26, a31, a27, st, lt, h0, h48, Bool.false_eq_true, xp, hv, false_and]
          repeat' ((with_reducible first | refine xG_dec ?_ ?_ | refine xG_ndec ?_ ?_ | refine xG_nsplit ?_ ?_ | refine xG_split ?_ ?_ | refine xC_dec ?_ ?_ | refine xC_ndec ?_ ?_ | refine xC_nsplit ?_ ?_ | refine xC_split ?_ ?_) <;> intro h <;> (try simp only [wA, seval, reduceCtorEq, reduceIte, xR_cell2, hsl, a26, a31, a27, st, lt, h0, h48, Bool.false_eq_true, xp, hv, false_and, h]))
          first | done | (simp only [hnx, h48, hv, and_self, and_true, and_false, false_and, if_true, if_false, Bool.false_eq_true, pairH]; rfl)
    | false =>
      rw [hD] at a31
      have a34 := @ok115 gl singles c
      have e34 := index_singles c
      have st1 : sliceS (.t (.str (c :: r))) none (some (.t (.int .i64 1))) = some (.t (.str [c])) := slice_to (s := c :: r) (n := 1) (by simp)
      simp only [singles] at a34 e34
      have hnx := nxV_S (pos := i) (r := r) hL hD
      cases r with
      | nil =>
        cases hs : isSing c with
        | true =>
          rw [hs] at e34
          have e34 := of_decide_eq_true e34
          simp only [wA, seval, reduceCtorEq, reduceIte, xR_cell2, hsl, a26, a31, a34, e34, st1]
          repeat' ((with_reducible first | refine xG_dec ?_ ?_ | refine xG_ndec ?_ ?_ | refine xG_nsplit ?_ ?_ | refine xG_split ?_ ?_ | refine xC_dec ?_ ?_ | refine xC_ndec ?_ ?_ | refine xC_nsplit ?_ ?_ | refine xC_split ?_ ?_) <;> intro h <;> (try simp only [wA, seval, reduceCtorEq, reduceIte, xR_cell2, hsl, a26, a31, a34, e34, st1, h]))
          first | done | (simp only [hnx, hs, and_self, and_true, and_false, false_and, if_true, if_false, Bool.false_eq_true, pairH]; rfl)
        | false =>
          rw [hs] at e34
          have e34 := of_decide_eq_false e34
          simp only [wA, seval, reduceCtorEq, reduceIte, xR_cell2, hsl, a26, a31, a34, e34, st1, Bool.false_eq_true]
          repeat' ((with_reducible first | refine xG_dec ?_ ?_ | refine xG_ndec ?_ ?_ | refine xG_nsplit ?_ ?_ | refine xG_split ?_ ?_ | refine xC_dec ?_ ?_ | refine xC_ndec ?_ ?_ | refine xC_nsplit ?_ ?_ | refine xC_split ?_ ?_) <;> intro h <;> (try simp only [wA, seval, reduceCtorEq, reduceIte, xR_cell2, hsl, a26, a31, a34, e34, st1, Bool.false_eq_true, h]))
          first | done | (simp only [hnx, hs, and_self, and_true, and_false, false_and, if_true, if_false, Bool.false_eq_true, pairH]; rfl)
      | cons d r =>
        have st2 : sliceS (.t (.str (c :: d :: r))) none (some (.t (.int .i64 2))) = some (.t (.str [c, d])) := slice_to (s := c :: d :: r) (n := 2) (by simp)
        have c2 : (1 : Int) < ((r.length + 1 + 1 : Nat) : Int) := by omega
        have hp : Lib.contains [32, 46, 46, 32, 61, 61, 32, 33, 61, 32, 60, 61, 32] [32, c, d, 32] = isPair c d := index_pairs c d
        have xc := xct hg (a := [32, 46, 46, 32, 61, 61, 32, 33, 61, 32, 60, 61, 32]) (b := [32, c, d, 32]) (by simp)
        rw [hp] at xc
        cases hq : isPair c d with
        | true =>
          rw [hq] at xc
          simp only [wA, seval, reduceCtorEq, reduceIte, xR_cell2, hsl, a26, a31, st2, c2, xc, List.cons_append, List.nil_append, List.length_cons, List.length_nil]
          repeat' ((with_reducible first | refine xG_dec ?_ ?_ | refine xG_ndec ?_ ?_ | refine xG_nsplit ?_ ?_ | refine xG_split ?_ ?_ | refine xC_dec ?_ ?_ | refine xC_ndec ?_ ?_ | refine xC_nsplit ?_ ?_ | refine xC_split ?_ ?_) <;> intro h <;> (try simp only [wA, seval, reduceCtorEq, reduceIte, xR_cell2, hsl, a26, a31, st2, c2, xc, List.cons_append, List.nil_append, List.length_cons, List.length_nil, h]))
          first | done | (simp only [hnx, hq, and_self, and_true, and_false, false_and, if_true, if_false, Bool.false_eq_true, pairH]; rfl)
        | false =>
          rw [hq] at xc
          cases hs : isSing c with
          | true =>
            rw [hs] at e34
            have e34 := of_decide_eq_true e34
            simp only [wA, seval, reduceCtorEq, reduceIte, xR_cell2, hsl, a26, a31, st2, c2, xc, a34, e34, st1, List.cons_append, List.nil_append, List.length_cons, List.length_nil, Bool.false_eq_true]
            repeat' ((with_reducible first | refine xG_dec ?_ ?_ | refine xG_ndec ?_ ?_ | refine xG_nsplit ?_ ?_ | refine xG_split ?_ ?_ | refine xC_dec ?_ ?_ | refine xC_ndec ?_ ?_ | refine xC_nsplit ?_ ?_ | refine xC_split ?_ ?_) <;> intro h <;> (try simp only [wA, seval, reduceCtorEq, reduceIte, xR_cell2, hsl, a26, a31, st2, c2, xc, a34, e34, st1, List.cons_append, List.nil_append, List.length_cons, List.length_nil, Bool.false_eq_true, h]))
            first | done | (simp only [hnx, hq, hs, and_self, and_true, and_false, false_and, if_true, if_false, Bool.false_eq_true, pairH]; rfl)
          | false =>
            rw [hs] at e34
            have e34 := of_decide_eq_false e34
            simp only [wA, seval, reduceCtorEq, reduceIte, xR_cell2, hsl, a26, a31, st2, c2, xc, a34, e34, st1, List.cons_append, List.nil_append, List.length_cons, List.length_nil, Bool.false_eq_true]
            repeat' ((with_reducible first | refine xG_dec ?_ ?_ | refine xG_ndec ?_ ?_ | refine xG_nsplit ?_ ?_ | refine xG_split ?_ ?_ | refine xC_dec ?_ ?_ | refine xC_ndec ?_ ?_ | refine xC_nsplit ?_ ?_ | refine xC_split ?_ ?_) <;> intro h <;> (try simp only [wA, seval, reduceCtorEq, reduceIte, xR_cell2, hsl, a26, a31, st2, c2, xc, a34, e34, st1, List.cons_append, List.nil_append, List.length_cons, List.length_nil, Bool.false_eq_true, h]))
            first | done | (simp only [hnx, hq, hs, and_self, and_true, and_false, false_and, if_true, if_false, Bool.false_eq_true, pairH]; rfl)
end Go.Proofs.YtcbgiabippcpaaaGreatDoor
