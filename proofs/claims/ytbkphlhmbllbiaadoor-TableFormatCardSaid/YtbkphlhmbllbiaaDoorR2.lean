/- Contracts of the reference's reader: numbers, linear; its text: Digits, combination, line, header. -/
import Derived.Test.YtbkphlhmbllbiaaDoorR1
set_option maxRecDepth 10000
set_option linter.unusedVariables false
set_option linter.unusedSimpArgs false
namespace Go.Proofs.YtbkphlhmbllbiaaDoor
open Go.Pi
variable {gl : Nat → Option (List T)}
theorem xO_if {c : Prop} [Decidable c] {α : Type} {x : α} {k : α → Prop} (h : c) (hk : k x) : xO (if c then some x else none) k ⟨⟩ := by rw [if_pos h]; exact hk
def natsC (l : List Nat) : List (List T) := l.map fun n : Nat => [.int .u64 (n : Int)]
theorem natsC_len (l : List Nat) : (natsC l).length = l.length := by simp [natsC]
def LstN (v : PV) (ow : Ow) (l : List Nat) : Prop := (v = .t (.sl true []) ∧ ow = [] ∧ l = []) ∨ (v = .own 0 1 (natsC l) ∧ ow = [l.length] ∧ l ≠ [])
theorem roomN {n : Nat} (h : n ≤ 10000000) : room n 8 = true := by
  unfold room
  exact decide_eq_true ⟨by omega, by omega⟩
theorem LstN.app {dr : Bool} {v : PV} {ow : Ow} {l : List Nat} (h : LstN v ow l) {x : Nat} (hb : l.length + 1 ≤ 10000000) (sg : Sg) : appendP dr sg ow 1 8 v (.lit [[.int .u64 (x : Int)]]) = some (.own 0 1 (natsC (l ++ [x])), [l.length + 1]) := by
  have hr : room (l.length + 1) 8 = true := roomN hb
  have e1 : natsC (l ++ [x]) = natsC l ++ [[.int .u64 (x : Int)]] := by simp [natsC]
  rcases h with ⟨rfl, rfl, rfl⟩ | ⟨rfl, rfl, hne⟩
  · simp only [List.length_nil, Nat.zero_add] at hr
    simp only [appendP, elemsS, elems, e1, List.all_cons, List.all_nil, List.length_cons, List.length_nil, hr, List.nil_append, Nat.zero_add, Nat.reduceAdd, beq_self_eq_true, Bool.and_self, and_self, Nat.zero_lt_one, if_true]
    rfl
  · simp only [appendP, elemsS, elems, e1, List.all_cons, List.all_nil, List.length_cons, List.length_nil, natsC_len, hr, Nat.zero_add, Nat.reduceAdd, beq_self_eq_true, Bool.and_self, and_self, Nat.zero_lt_one, if_true, List.getElem?_cons_zero, List.set_cons_zero]
theorem strsC_at {ps : List (List UInt8)} {i : Nat} {x : List UInt8} (h : ps[i]? = some x) : (strsC ps)[i]? = some [.str x] := by
  unfold strsC
  rw [List.getElem?_map, h]
  rfl
def nusV (ps : List (List UInt8)) : PV := match mapO rnum ps with
  | some l => .tup [.t (.sl l.isEmpty (natsC l)), .t (.bool true)]
  | none => .tup [.t (.sl true []), .t (.bool false)]
/-! ### Digits and texts -/
theorem ok75 : ∀ (k n : Nat), n < 10 ^ (k + 1) → n ≤ 18446744073709551615 → ∀ {K : PV → Prop}, XcP F gl 75 [.int .u64 (n : Int)] K ⟨⟩ ↔ K (.t (.str (Lib.decDigits n))) := by
  intro k
  induction k with
  | zero =>
    intro n hk hn K
    have t1 : (n : Int).tmod 10 = ((n % 10 : Nat) : Int) := by rw [Int.tmod_eq_emod_of_nonneg (by omega)]; omega
    have n10 : ¬ ((10 : Int) = 0) := by decide
    have w1 : IntKind.u64.wrap (48 + ((n % 10 : Nat) : Int)) = ((48 + n % 10 : Nat) : Int) := by rw [IntWalk.u64_in _ (by omega)]; omega
    have w2 : IntKind.u8.wrap ((48 + n % 10 : Nat) : Int) = ((48 + n % 10 : Nat) : Int) := by rw [IntWalk.u8_in _ (by omega)]
    have c : (n : Int) < 10 := by omega
    refine Ret.iff (Ret.of F75 rfl ?_)
    simp only [ir75]
    simp only [wCo, wFr, wOp, wBi, wLst, wLog, xB_other, Nat.reduceBEq, unT, loadP, storeP, partP, partT, partV, cellsP, mkAgg, allT, setRange, fillP, fieldA, indexS, indexA, indexV, indexStr, elems, lenP, pickV, cviV, nckV, extV, isNil, bound, close, close1, aft, retV, retSl, Go.Pi.one, eqT, eqs, eq1, Nat.reduceEqDiff, Nat.reduceAdd, Nat.reduceSub, Nat.reduceMul, Nat.reduceLeDiff, Nat.reduceLT, Nat.one_ne_zero, Nat.zero_ne_one, reduceIte, reduceCtorEq, bne_self_eq_false, decide_true, decide_false, Int.reduceToNat, Int.cast_ofNat_Int, Int.reduceLT, Int.reduceLE, Int.reduceEq, Int.reduceNeg, Int.reduceAdd, Int.reduceSub, n10, t1, w1, w2, c, bslV, chunks, cell1, T.isAgg, List.replicate, List.flatten_cons, List.flatten_nil, List.append_nil, elemsS, unbytes, Option.bind_some, Option.map_some, Int.toNat_natCast]
    repeat' ((with_reducible first | refine xG_dec ?_ ?_ | refine xG_ndec ?_ ?_ | refine xG_nsplit ?_ ?_ | refine xG_split ?_ ?_ | refine xC_dec ?_ ?_ | refine xC_ndec ?_ ?_ | refine xC_nsplit ?_ ?_ | refine xC_split ?_ ?_) <;> intro h <;> (try simp only [wCo, wFr, wOp, wBi, wLst, wLog, xB_other, Nat.reduceBEq, unT, loadP, storeP, partP, partT, partV, cellsP, mkAgg, allT, setRange, fillP, fieldA, indexS, indexA, indexV, indexStr, elems, lenP, pickV, cviV, nckV, extV, isNil, bound, close, close1, aft, retV, retSl, Go.Pi.one, eqT, eqs, eq1, Nat.reduceEqDiff, Nat.reduceAdd, Nat.reduceSub, Nat.reduceMul, Nat.reduceLeDiff, Nat.reduceLT, Nat.one_ne_zero, Nat.zero_ne_one, reduceIte, reduceCtorEq, bne_self_eq_false, decide_true, decide_false, Int.reduceToNat, Int.cast_ofNat_Int, Int.reduceLT, Int.reduceLE, Int.reduceEq, Int.reduceNeg, Int.reduceAdd, Int.reduceSub, n10, t1, w1, w2, c, bslV, chunks, cell1, T.isAgg, List.replicate, List.flatten_cons, List.flatten_nil, List.append_nil, elemsS, unbytes, Option.bind_some, Option.map_some, Int.toNat_natCast, h]))
    rw [Lib.decDigits_one (by omega), Nat.mod_eq_of_lt (by omega)]
  | succ k ih =>
    intro n hk hn K
    have t1 : (n : Int).tmod 10 = ((n % 10 : Nat) : Int) := by rw [Int.tmod_eq_emod_of_nonneg (by omega)]; omega
    have t2 : (n : Int).tdiv 10 = ((n / 10 : Nat) : Int) := by rw [Int.tdiv_eq_ediv_of_nonneg (by omega)]; omega
    have n10 : ¬ ((10 : Int) = 0) := by decide
    have w1 : IntKind.u64.wrap (48 + ((n % 10 : Nat) : Int)) = ((48 + n % 10 : Nat) : Int) := by rw [IntWalk.u64_in _ (by omega)]; omega
    have w2 : IntKind.u8.wrap ((48 + n % 10 : Nat) : Int) = ((48 + n % 10 : Nat) : Int) := by rw [IntWalk.u8_in _ (by omega)]
    have w3 : IntKind.u64.wrap ((n / 10 : Nat) : Int) = ((n / 10 : Nat) : Int) := by rw [IntWalk.u64_in _ (by omega)]
    have hk' : n / 10 < 10 ^ (k + 1) := by
      rw [Nat.pow_succ] at hk
      omega
    have rcs := @ih (n / 10) hk' (by omega)
    have dl := dec_le20 (n / 10) (by omega)
    refine Ret.iff (Ret.of F75 rfl ?_)
    simp only [ir75]
    by_cases c : (n : Int) < 10
    · simp only [wCo, wFr, wOp, wBi, wLst, wLog, xB_other, Nat.reduceBEq, unT, loadP, storeP, partP, partT, partV, cellsP, mkAgg, allT, setRange, fillP, fieldA, indexS, indexA, indexV, indexStr, elems, lenP, pickV, cviV, nckV, extV, isNil, bound, close, close1, aft, retV, retSl, Go.Pi.one, eqT, eqs, eq1, Nat.reduceEqDiff, Nat.reduceAdd, Nat.reduceSub, Nat.reduceMul, Nat.reduceLeDiff, Nat.reduceLT, Nat.one_ne_zero, Nat.zero_ne_one, reduceIte, reduceCtorEq, bne_self_eq_false, decide_true, decide_false, Int.reduceToNat, Int.cast_ofNat_Int, Int.reduceLT, Int.reduceLE, Int.reduceEq, Int.reduceNeg, Int.reduceAdd, Int.reduceSub, n10, t1, w1, w2, c, bslV, chunks, cell1, T.isAgg, List.replicate, List.flatten_cons, List.flatten_nil, List.append_nil, elemsS, unbytes, Option.bind_some, Option.map_some, Int.toNat_natCast]
      repeat' ((with_reducible first | refine xG_dec ?_ ?_ | refine xG_ndec ?_ ?_ | refine xG_nsplit ?_ ?_ | refine xG_split ?_ ?_ | refine xC_dec ?_ ?_ | refine xC_ndec ?_ ?_ | refine xC_nsplit ?_ ?_ | refine xC_split ?_ ?_) <;> intro h <;> (try simp only [wCo, wFr, wOp, wBi, wLst, wLog, xB_other, Nat.reduceBEq, unT, loadP, storeP, partP, partT, partV, cellsP, mkAgg, allT, setRange, fillP, fieldA, indexS, indexA, indexV, indexStr, elems, lenP, pickV, cviV, nckV, extV, isNil, bound, close, close1, aft, retV, retSl, Go.Pi.one, eqT, eqs, eq1, Nat.reduceEqDiff, Nat.reduceAdd, Nat.reduceSub, Nat.reduceMul, Nat.reduceLeDiff, Nat.reduceLT, Nat.one_ne_zero, Nat.zero_ne_one, reduceIte, reduceCtorEq, bne_self_eq_false, decide_true, decide_false, Int.reduceToNat, Int.cast_ofNat_Int, Int.reduceLT, Int.reduceLE, Int.reduceEq, Int.reduceNeg, Int.reduceAdd, Int.reduceSub, n10, t1, w1, w2, c, bslV, chunks, cell1, T.isAgg, List.replicate, List.flatten_cons, List.flatten_nil, List.append_nil, elemsS, unbytes, Option.bind_some, Option.map_some, Int.toNat_natCast, h]))
      rw [Lib.decDigits_one (by omega), Nat.mod_eq_of_lt (by omega)]
    · simp only [wCo, wFr, wOp, wBi, wLst, wLog, xB_other, Nat.reduceBEq, unT, loadP, storeP, partP, partT, partV, cellsP, mkAgg, allT, setRange, fillP, fieldA, indexS, indexA, indexV, indexStr, elems, lenP, pickV, cviV, nckV, extV, isNil, bound, close, close1, aft, retV, retSl, Go.Pi.one, eqT, eqs, eq1, Nat.reduceEqDiff, Nat.reduceAdd, Nat.reduceSub, Nat.reduceMul, Nat.reduceLeDiff, Nat.reduceLT, Nat.one_ne_zero, Nat.zero_ne_one, reduceIte, reduceCtorEq, bne_self_eq_false, decide_true, decide_false, Int.reduceToNat, Int.cast_ofNat_Int, Int.reduceLT, Int.reduceLE, Int.reduceEq, Int.reduceNeg, Int.reduceAdd, Int.reduceSub, n10, t1, t2, w1, w2, w3, c, rcs, bslV, chunks, cell1, T.isAgg, List.replicate, List.flatten_cons, List.flatten_nil, List.append_nil, elemsS, unbytes, Option.bind_some, Option.map_some, Int.toNat_natCast]
      repeat' (first | ((with_reducible first | refine xG_dec ?_ ?_ | refine xG_ndec ?_ ?_ | refine xG_nsplit ?_ ?_ | refine xG_split ?_ ?_ | refine xC_dec ?_ ?_ | refine xC_ndec ?_ ?_ | refine xC_nsplit ?_ ?_ | refine xC_split ?_ ?_) <;> intro h <;> (try simp only [wCo, wFr, wOp, wBi, wLst, wLog, xB_other, Nat.reduceBEq, unT, loadP, storeP, partP, partT, partV, cellsP, mkAgg, allT, setRange, fillP, fieldA, indexS, indexA, indexV, indexStr, elems, lenP, pickV, cviV, nckV, extV, isNil, bound, close, close1, aft, retV, retSl, Go.Pi.one, eqT, eqs, eq1, Nat.reduceEqDiff, Nat.reduceAdd, Nat.reduceSub, Nat.reduceMul, Nat.reduceLeDiff, Nat.reduceLT, Nat.one_ne_zero, Nat.zero_ne_one, reduceIte, reduceCtorEq, bne_self_eq_false, decide_true, decide_false, Int.reduceToNat, Int.cast_ofNat_Int, Int.reduceLT, Int.reduceLE, Int.reduceEq, Int.reduceNeg, Int.reduceAdd, Int.reduceSub, n10, t1, t2, w1, w2, w3, c, rcs, bslV, chunks, cell1, T.isAgg, List.replicate, List.flatten_cons, List.flatten_nil, List.append_nil, elemsS, unbytes, Option.bind_some, Option.map_some, Int.toNat_natCast, h])) | ((with_reducible refine xO_if (by first | omega | (simp only [List.length_append, List.length_cons, List.length_nil]; omega)) ?_); (try simp only [wCo, wFr, wOp, wBi, wLst, wLog, xB_other, Nat.reduceBEq, unT, loadP, storeP, partP, partT, partV, cellsP, mkAgg, allT, setRange, fillP, fieldA, indexS, indexA, indexV, indexStr, elems, lenP, pickV, cviV, nckV, extV, isNil, bound, close, close1, aft, retV, retSl, Go.Pi.one, eqT, eqs, eq1, Nat.reduceEqDiff, Nat.reduceAdd, Nat.reduceSub, Nat.reduceMul, Nat.reduceLeDiff, Nat.reduceLT, Nat.one_ne_zero, Nat.zero_ne_one, reduceIte, reduceCtorEq, bne_self_eq_false, decide_true, decide_false, Int.reduceToNat, Int.cast_ofNat_Int, Int.reduceLT, Int.reduceLE, Int.reduceEq, Int.reduceNeg, Int.reduceAdd, Int.reduceSub, n10, t1, t2, w1, w2, w3, c, rcs, bslV, chunks, cell1, T.isAgg, List.replicate, List.flatten_cons, List.flatten_nil, List.append_nil, elemsS, unbytes, Option.bind_some, Option.map_some, Int.toNat_natCast])))
      rw [Lib.decDigits.eq_1 n, dif_neg (by omega)]
theorem digits_ok {x : Int} (h0 : 0 ≤ x) (h1 : x ≤ 18446744073709551615) {K : PV → Prop} : XcP F gl 75 [.int .u64 x] K ⟨⟩ ↔ K (.t (.str (Lib.decDigits x.toNat))) := by
  have := @ok75 gl 20 x.toNat (by omega) (by omega) K
  rw [toNat_eq h0] at this
  exact this
/-- Terms that are written. -/
def tW (x : Int × Int) : Prop := 0 ≤ x.1 ∧ x.1 ≤ 9223372036854775807 ∧ 0 ≤ x.2 ∧ x.2 ≤ 18446744073709551615
theorem term_len {x : Int × Int} (h : tW x) : (termT x).length ≤ 41 := by
  obtain ⟨h1, h2, h3, h4⟩ := h
  have := dec_le20 x.1.toNat (by omega)
  have := dec_le20 x.2.toNat (by omega)
  simp only [termT, List.length_append, List.length_cons]
  omega
theorem more_len : ∀ (l : LN), (∀ x, x ∈ l → tW x) → (moreT l).length ≤ 42 * l.length := by
  intro l
  induction l with
  | nil => intro _; simp [moreT]
  | cons x r ih =>
    intro h
    have := term_len (h x List.mem_cons_self)
    have := ih fun y hy => h y (List.mem_cons_of_mem _ hy)
    simp only [moreT, List.length_cons, List.length_append]
    omega
theorem lin_len (l : LN) (h : ∀ x, x ∈ l → tW x) : (linT l).length ≤ 42 * l.length + 1 := by
  cases l with
  | nil => simp [linT]
  | cons x r =>
    have := term_len (h x List.mem_cons_self)
    have := more_len r fun y hy => h y (List.mem_cons_of_mem _ hy)
    simp only [linT, List.length_cons, List.length_append]
    omega
theorem tTerm_at {l : LN} {i : Nat} {x : Int × Int} (h : l[i]? = some x) : (l.map tTerm)[i]? = some [.int .i64 x.1, .int .u64 x.2] := by
  rw [List.getElem?_map, h]
  rfl
theorem loop76 (nl : Bool) (l : LN) (hl : l.length ≤ 1000000) (hw : ∀ x, x ∈ l → tW x) (sg : Sg) (ow : Ow) (Q : Ex → S → Prop) : ∀ (rest : LN) (i : Nat) (s : List UInt8) (fr : List PV), l.drop i = rest → s.length ≤ 42 * i →
    FrAt fr [(0, .t (.sl nl (l.map tTerm))), (3, .t (.str s)), (4, .t (.int .i64 i))] →
    (∀ fr', FrAt fr' [(3, .t (.str (s ++ (if i = 0 then (match rest with | [] => [] | t :: r => termT t ++ moreT r) else moreT rest))))] → Q (.exit 0) ⟨fr', sg, ow⟩) →
    Xl F gl lb76_0 ⟨fr, sg, ow⟩ Q ⟨⟩ := by
  intro rest
  induction rest with
  | nil =>
    intro i s fr hd hs hf h1
    have hd := drop_nil' hd
    simp only [FrAt_cons, FrAt_nil] at hf
    obtain ⟨f0, f3, f4, -⟩ := hf
    refine Xl.step ?_
    simp only [lb76_0]
    have c1 : ¬ ((i : Int) < (l.length : Int)) := by omega
    simp only [wCo, wFr, wOp, wBi, wLst, wLog, xB_other, Nat.reduceBEq, unT, loadP, storeP, partP, partT, partV, cellsP, mkAgg, allT, setRange, fillP, fieldA, indexS, indexA, indexV, indexStr, elems, lenP, pickV, cviV, nckV, extV, isNil, bound, close, close1, aft, retV, retSl, Go.Pi.one, eqT, eqs, eq1, Nat.reduceEqDiff, Nat.reduceAdd, Nat.reduceSub, Nat.reduceMul, Nat.reduceLeDiff, Nat.reduceLT, Nat.one_ne_zero, Nat.zero_ne_one, reduceIte, reduceCtorEq, bne_self_eq_false, decide_true, decide_false, Int.reduceToNat, Int.cast_ofNat_Int, Int.reduceLT, Int.reduceLE, Int.reduceEq, Int.reduceNeg, Int.reduceAdd, Int.reduceSub, f0, f3, f4, List.length_map, c1]
    repeat' ((with_reducible first | refine xG_dec ?_ ?_ | refine xG_ndec ?_ ?_ | refine xG_nsplit ?_ ?_ | refine xG_split ?_ ?_ | refine xC_dec ?_ ?_ | refine xC_ndec ?_ ?_ | refine xC_nsplit ?_ ?_ | refine xC_split ?_ ?_) <;> intro h <;> (try simp only [wCo, wFr, wOp, wBi, wLst, wLog, xB_other, Nat.reduceBEq, unT, loadP, storeP, partP, partT, partV, cellsP, mkAgg, allT, setRange, fillP, fieldA, indexS, indexA, indexV, indexStr, elems, lenP, pickV, cviV, nckV, extV, isNil, bound, close, close1, aft, retV, retSl, Go.Pi.one, eqT, eqs, eq1, Nat.reduceEqDiff, Nat.reduceAdd, Nat.reduceSub, Nat.reduceMul, Nat.reduceLeDiff, Nat.reduceLT, Nat.one_ne_zero, Nat.zero_ne_one, reduceIte, reduceCtorEq, bne_self_eq_false, decide_true, decide_false, Int.reduceToNat, Int.cast_ofNat_Int, Int.reduceLT, Int.reduceLE, Int.reduceEq, Int.reduceNeg, Int.reduceAdd, Int.reduceSub, f0, f3, f4, List.length_map, c1, h]))
    refine h1 _ ?_
    simp only [FrAt_cons, FrAt_nil, wFr, Nat.reduceEqDiff, Nat.one_ne_zero, Nat.zero_ne_one, reduceIte, and_self, and_true, true_and, f3]
    simp [moreT]
  | cons t r ih =>
    intro i s fr hd hs hf h1
    obtain ⟨hx, hr, hi'⟩ := drop_cons hd
    have ht := hw t (List.mem_of_getElem? hx)
    have tl := term_len ht
    obtain ⟨t1, t2, t3, t4⟩ := ht
    have d1 := dec_le20 t.1.toNat (by omega)
    have d2 := dec_le20 t.2.toNat (by omega)
    simp only [FrAt_cons, FrAt_nil] at hf
    obtain ⟨f0, f3, f4, -⟩ := hf
    have c1 : (i : Int) < (l.length : Int) := by omega
    have ci : (0 : Int) ≤ (i : Int) := by omega
    have hb := tTerm_at hx
    have hw1 : IntKind.wrap .i64 ((i : Int) + 1) = ((i + 1 : Nat) : Int) := by rw [IntWalk.i64_in _ (by omega)]; omega
    have wv : IntKind.u64.wrap t.1 = t.1 := IntWalk.u64_in _ (by omega)
    have g1 := @digits_ok gl t.1 t1 (by omega)
    have g2 := @digits_ok gl t.2 t3 t4
    refine Xl.step ?_
    simp only [lb76_0]
    by_cases c0 : i = 0
    · subst c0
      have hs0 : s = [] := List.length_eq_zero_iff.1 (by omega)
      subst hs0
      have cz : ¬ ((0 : Int) < ((0 : Nat) : Int)) := by omega
      have c1' : (0 : Int) < (l.length : Int) := by omega
      simp only [wCo, wFr, wOp, wBi, wLst, wLog, xB_other, Nat.reduceBEq, unT, loadP, storeP, partP, partT, partV, cellsP, mkAgg, allT, setRange, fillP, fieldA, indexS, indexA, indexV, indexStr, elems, lenP, pickV, cviV, nckV, extV, isNil, bound, close, close1, aft, retV, retSl, Go.Pi.one, eqT, eqs, eq1, Nat.reduceEqDiff, Nat.reduceAdd, Nat.reduceSub, Nat.reduceMul, Nat.reduceLeDiff, Nat.reduceLT, Nat.one_ne_zero, Nat.zero_ne_one, reduceIte, reduceCtorEq, bne_self_eq_false, decide_true, decide_false, Int.reduceToNat, Int.cast_ofNat_Int, Int.reduceLT, Int.reduceLE, Int.reduceEq, Int.reduceNeg, Int.reduceAdd, Int.reduceSub, f0, f3, f4, List.length_map, c1, c1', ci, cz, hb, wv, g1, g2, hw1, Int.toNat_natCast]
      repeat' (first | ((with_reducible first | refine xG_dec ?_ ?_ | refine xG_ndec ?_ ?_ | refine xG_nsplit ?_ ?_ | refine xG_split ?_ ?_ | refine xC_dec ?_ ?_ | refine xC_ndec ?_ ?_ | refine xC_nsplit ?_ ?_ | refine xC_split ?_ ?_) <;> intro h <;> (try simp only [wCo, wFr, wOp, wBi, wLst, wLog, xB_other, Nat.reduceBEq, unT, loadP, storeP, partP, partT, partV, cellsP, mkAgg, allT, setRange, fillP, fieldA, indexS, indexA, indexV, indexStr, elems, lenP, pickV, cviV, nckV, extV, isNil, bound, close, close1, aft, retV, retSl, Go.Pi.one, eqT, eqs, eq1, Nat.reduceEqDiff, Nat.reduceAdd, Nat.reduceSub, Nat.reduceMul, Nat.reduceLeDiff, Nat.reduceLT, Nat.one_ne_zero, Nat.zero_ne_one, reduceIte, reduceCtorEq, bne_self_eq_false, decide_true, decide_false, Int.reduceToNat, Int.cast_ofNat_Int, Int.reduceLT, Int.reduceLE, Int.reduceEq, Int.reduceNeg, Int.reduceAdd, Int.reduceSub, f0, f3, f4, List.length_map, c1, c1', ci, cz, hb, wv, g1, g2, hw1, Int.toNat_natCast, h])) | ((with_reducible refine xO_if (by first | omega | (simp only [List.length_append, List.length_cons, List.length_nil]; omega)) ?_); (try simp only [wCo, wFr, wOp, wBi, wLst, wLog, xB_other, Nat.reduceBEq, unT, loadP, storeP, partP, partT, partV, cellsP, mkAgg, allT, setRange, fillP, fieldA, indexS, indexA, indexV, indexStr, elems, lenP, pickV, cviV, nckV, extV, isNil, bound, close, close1, aft, retV, retSl, Go.Pi.one, eqT, eqs, eq1, Nat.reduceEqDiff, Nat.reduceAdd, Nat.reduceSub, Nat.reduceMul, Nat.reduceLeDiff, Nat.reduceLT, Nat.one_ne_zero, Nat.zero_ne_one, reduceIte, reduceCtorEq, bne_self_eq_false, decide_true, decide_false, Int.reduceToNat, Int.cast_ofNat_Int, Int.reduceLT, Int.reduceLE, Int.reduceEq, Int.reduceNeg, Int.reduceAdd, Int.reduceSub, f0, f3, f4, List.length_map, c1, c1', ci, cz, hb, wv, g1, g2, hw1, Int.toNat_natCast])))
      have w11 : IntKind.i64.wrap 1 = 1 := by decide
      have c11 : ((1 : Nat) : Int) = 1 := rfl
      refine ih 1 (termT t) _ hr (by omega) (by simp only [FrAt_cons, FrAt_nil, wFr, Nat.reduceEqDiff, Nat.one_ne_zero, Nat.zero_ne_one, reduceIte, and_self, and_true, true_and, f0, termT, w11, c11]) ?_
      intro fr' hf'
      refine h1 fr' ?_
      simp only [if_true, List.nil_append]
      simp only [Nat.one_ne_zero, if_false] at hf'
      exact hf'
    · have cz : (0 : Int) < (i : Int) := by omega
      simp only [wCo, wFr, wOp, wBi, wLst, wLog, xB_other, Nat.reduceBEq, unT, loadP, storeP, partP, partT, partV, cellsP, mkAgg, allT, setRange, fillP, fieldA, indexS, indexA, indexV, indexStr, elems, lenP, pickV, cviV, nckV, extV, isNil, bound, close, close1, aft, retV, retSl, Go.Pi.one, eqT, eqs, eq1, Nat.reduceEqDiff, Nat.reduceAdd, Nat.reduceSub, Nat.reduceMul, Nat.reduceLeDiff, Nat.reduceLT, Nat.one_ne_zero, Nat.zero_ne_one, reduceIte, reduceCtorEq, bne_self_eq_false, decide_true, decide_false, Int.reduceToNat, Int.cast_ofNat_Int, Int.reduceLT, Int.reduceLE, Int.reduceEq, Int.reduceNeg, Int.reduceAdd, Int.reduceSub, f0, f3, f4, List.length_map, c1, ci, cz, hb, wv, g1, g2, hw1, Int.toNat_natCast]
      repeat' (first | ((with_reducible first | refine xG_dec ?_ ?_ | refine xG_ndec ?_ ?_ | refine xG_nsplit ?_ ?_ | refine xG_split ?_ ?_ | refine xC_dec ?_ ?_ | refine xC_ndec ?_ ?_ | refine xC_nsplit ?_ ?_ | refine xC_split ?_ ?_) <;> intro h <;> (try simp only [wCo, wFr, wOp, wBi, wLst, wLog, xB_other, Nat.reduceBEq, unT, loadP, storeP, partP, partT, partV, cellsP, mkAgg, allT, setRange, fillP, fieldA, indexS, indexA, indexV, indexStr, elems, lenP, pickV, cviV, nckV, extV, isNil, bound, close, close1, aft, retV, retSl, Go.Pi.one, eqT, eqs, eq1, Nat.reduceEqDiff, Nat.reduceAdd, Nat.reduceSub, Nat.reduceMul, Nat.reduceLeDiff, Nat.reduceLT, Nat.one_ne_zero, Nat.zero_ne_one, reduceIte, reduceCtorEq, bne_self_eq_false, decide_true, decide_false, Int.reduceToNat, Int.cast_ofNat_Int, Int.reduceLT, Int.reduceLE, Int.reduceEq, Int.reduceNeg, Int.reduceAdd, Int.reduceSub, f0, f3, f4, List.length_map, c1, ci, cz, hb, wv, g1, g2, hw1, Int.toNat_natCast, h])) | ((with_reducible refine xO_if (by first | omega | (simp only [List.length_append, List.length_cons, List.length_nil]; omega)) ?_); (try simp only [wCo, wFr, wOp, wBi, wLst, wLog, xB_other, Nat.reduceBEq, unT, loadP, storeP, partP, partT, partV, cellsP, mkAgg, allT, setRange, fillP, fieldA, indexS, indexA, indexV, indexStr, elems, lenP, pickV, cviV, nckV, extV, isNil, bound, close, close1, aft, retV, retSl, Go.Pi.one, eqT, eqs, eq1, Nat.reduceEqDiff, Nat.reduceAdd, Nat.reduceSub, Nat.reduceMul, Nat.reduceLeDiff, Nat.reduceLT, Nat.one_ne_zero, Nat.zero_ne_one, reduceIte, reduceCtorEq, bne_self_eq_false, decide_true, decide_false, Int.reduceToNat, Int.cast_ofNat_Int, Int.reduceLT, Int.reduceLE, Int.reduceEq, Int.reduceNeg, Int.reduceAdd, Int.reduceSub, f0, f3, f4, List.length_map, c1, ci, cz, hb, wv, g1, g2, hw1, Int.toNat_natCast])))
      refine ih (i + 1) (s ++ 32 :: termT t) _ hr (by simp only [List.length_append, List.length_cons]; omega) (by simp only [FrAt_cons, FrAt_nil, wFr, Nat.reduceEqDiff, Nat.one_ne_zero, Nat.zero_ne_one, reduceIte, and_self, and_true, true_and, f0, termT, List.append_assoc, List.cons_append, List.nil_append]) ?_
      intro fr' hf'
      refine h1 fr' ?_
      rw [if_neg c0]
      rw [if_neg (by omega)] at hf'
      have e : s ++ 32 :: termT t ++ moreT r = s ++ moreT (t :: r) := by simp [moreT]
      rw [e] at hf'
      exact hf'
theorem ok76 {nl : Bool} {l : LN} (hl : l.length ≤ 1000000) (hw : ∀ x, x ∈ l → tW x) {K : PV → Prop} : XcP F gl 76 [.sl nl (l.map tTerm)] K ⟨⟩ ↔ K (.t (.str (linT l))) := by
  refine Ret.iff (Ret.of F76 rfl ?_)
  simp only [ir76]
  cases l with
  | nil =>
    simp only [wCo, wFr, wOp, wBi, wLst, wLog, xB_other, Nat.reduceBEq, unT, loadP, storeP, partP, partT, partV, cellsP, mkAgg, allT, setRange, fillP, fieldA, indexS, indexA, indexV, indexStr, elems, lenP, pickV, cviV, nckV, extV, isNil, bound, close, close1, aft, retV, retSl, Go.Pi.one, eqT, eqs, eq1, Nat.reduceEqDiff, Nat.reduceAdd, Nat.reduceSub, Nat.reduceMul, Nat.reduceLeDiff, Nat.reduceLT, Nat.one_ne_zero, Nat.zero_ne_one, reduceIte, reduceCtorEq, bne_self_eq_false, decide_true, decide_false, Int.reduceToNat, Int.cast_ofNat_Int, Int.reduceLT, Int.reduceLE, Int.reduceEq, Int.reduceNeg, Int.reduceAdd, Int.reduceSub, List.map_nil]
    repeat' ((with_reducible first | refine xG_dec ?_ ?_ | refine xG_ndec ?_ ?_ | refine xG_nsplit ?_ ?_ | refine xG_split ?_ ?_ | refine xC_dec ?_ ?_ | refine xC_ndec ?_ ?_ | refine xC_nsplit ?_ ?_ | refine xC_split ?_ ?_) <;> intro h <;> (try simp only [wCo, wFr, wOp, wBi, wLst, wLog, xB_other, Nat.reduceBEq, unT, loadP, storeP, partP, partT, partV, cellsP, mkAgg, allT, setRange, fillP, fieldA, indexS, indexA, indexV, indexStr, elems, lenP, pickV, cviV, nckV, extV, isNil, bound, close, close1, aft, retV, retSl, Go.Pi.one, eqT, eqs, eq1, Nat.reduceEqDiff, Nat.reduceAdd, Nat.reduceSub, Nat.reduceMul, Nat.reduceLeDiff, Nat.reduceLT, Nat.one_ne_zero, Nat.zero_ne_one, reduceIte, reduceCtorEq, bne_self_eq_false, decide_true, decide_false, Int.reduceToNat, Int.cast_ofNat_Int, Int.reduceLT, Int.reduceLE, Int.reduceEq, Int.reduceNeg, Int.reduceAdd, Int.reduceSub, List.map_nil, h]))
    rfl
  | cons t r =>
    have c : ¬ (((r.length + 1 : Nat) : Int) = 0) := by omega
    simp only [wCo, wFr, wOp, wBi, wLst, wLog, xB_other, Nat.reduceBEq, unT, loadP, storeP, partP, partT, partV, cellsP, mkAgg, allT, setRange, fillP, fieldA, indexS, indexA, indexV, indexStr, elems, lenP, pickV, cviV, nckV, extV, isNil, bound, close, close1, aft, retV, retSl, Go.Pi.one, eqT, eqs, eq1, Nat.reduceEqDiff, Nat.reduceAdd, Nat.reduceSub, Nat.reduceMul, Nat.reduceLeDiff, Nat.reduceLT, Nat.one_ne_zero, Nat.zero_ne_one, reduceIte, reduceCtorEq, bne_self_eq_false, decide_true, decide_false, Int.reduceToNat, Int.cast_ofNat_Int, Int.reduceLT, Int.reduceLE, Int.reduceEq, Int.reduceNeg, Int.reduceAdd, Int.reduceSub, List.length_map, List.length_cons, c]
    repeat' ((with_reducible first | refine xG_dec ?_ ?_ | refine xG_ndec ?_ ?_ | refine xG_nsplit ?_ ?_ | refine xG_split ?_ ?_ | refine xC_dec ?_ ?_ | refine xC_ndec ?_ ?_ | refine xC_nsplit ?_ ?_ | refine xC_split ?_ ?_) <;> intro h <;> (try simp only [wCo, wFr, wOp, wBi, wLst, wLog, xB_other, Nat.reduceBEq, unT, loadP, storeP, partP, partT, partV, cellsP, mkAgg, allT, setRange, fillP, fieldA, indexS, indexA, indexV, indexStr, elems, lenP, pickV, cviV, nckV, extV, isNil, bound, close, close1, aft, retV, retSl, Go.Pi.one, eqT, eqs, eq1, Nat.reduceEqDiff, Nat.reduceAdd, Nat.reduceSub, Nat.reduceMul, Nat.reduceLeDiff, Nat.reduceLT, Nat.one_ne_zero, Nat.zero_ne_one, reduceIte, reduceCtorEq, bne_self_eq_false, decide_true, decide_false, Int.reduceToNat, Int.cast_ofNat_Int, Int.reduceLT, Int.reduceLE, Int.reduceEq, Int.reduceNeg, Int.reduceAdd, Int.reduceSub, List.length_map, List.length_cons, c, h]))
    refine loop76 nl (t :: r) hl hw _ _ _ (t :: r) 0 [] _ rfl (by simp) (by simp only [FrAt_cons, FrAt_nil, wFr, Nat.reduceEqDiff, Nat.one_ne_zero, Nat.zero_ne_one, reduceIte, and_self, and_true, true_and] <;> try rfl) ?_
    intro fr' hf'
    simp only [FrAt_cons, FrAt_nil, if_true, List.nil_append] at hf'
    obtain ⟨g3, -⟩ := hf'
    simp only [wCo, wFr, wOp, wBi, wLst, wLog, xB_other, Nat.reduceBEq, unT, loadP, storeP, partP, partT, partV, cellsP, mkAgg, allT, setRange, fillP, fieldA, indexS, indexA, indexV, indexStr, elems, lenP, pickV, cviV, nckV, extV, isNil, bound, close, close1, aft, retV, retSl, Go.Pi.one, eqT, eqs, eq1, Nat.reduceEqDiff, Nat.reduceAdd, Nat.reduceSub, Nat.reduceMul, Nat.reduceLeDiff, Nat.reduceLT, Nat.one_ne_zero, Nat.zero_ne_one, reduceIte, reduceCtorEq, bne_self_eq_false, decide_true, decide_false, Int.reduceToNat, Int.cast_ofNat_Int, Int.reduceLT, Int.reduceLE, Int.reduceEq, Int.reduceNeg, Int.reduceAdd, Int.reduceSub, g3]
    repeat' ((with_reducible first | refine xG_dec ?_ ?_ | refine xG_ndec ?_ ?_ | refine xG_nsplit ?_ ?_ | refine xG_split ?_ ?_ | refine xC_dec ?_ ?_ | refine xC_ndec ?_ ?_ | refine xC_nsplit ?_ ?_ | refine xC_split ?_ ?_) <;> intro h <;> (try simp only [wCo, wFr, wOp, wBi, wLst, wLog, xB_other, Nat.reduceBEq, unT, loadP, storeP, partP, partT, partV, cellsP, mkAgg, allT, setRange, fillP, fieldA, indexS, indexA, indexV, indexStr, elems, lenP, pickV, cviV, nckV, extV, isNil, bound, close, close1, aft, retV, retSl, Go.Pi.one, eqT, eqs, eq1, Nat.reduceEqDiff, Nat.reduceAdd, Nat.reduceSub, Nat.reduceMul, Nat.reduceLeDiff, Nat.reduceLT, Nat.one_ne_zero, Nat.zero_ne_one, reduceIte, reduceCtorEq, bne_self_eq_false, decide_true, decide_false, Int.reduceToNat, Int.cast_ofNat_Int, Int.reduceLT, Int.reduceLE, Int.reduceEq, Int.reduceNeg, Int.reduceAdd, Int.reduceSub, g3, h]))
    rfl
def rW (r : R3) : Prop := (∀ x, x ∈ r.1 → tW x) ∧ (∀ x, x ∈ r.2.1 → tW x) ∧ (∀ x, x ∈ r.2.2 → tW x) ∧ r.1.length ≤ 1000000 ∧ r.2.1.length ≤ 1000000 ∧ r.2.2.length ≤ 1000000
theorem ok53 {a b c : Bool} {r : R3} (h : rW r) {K : PV → Prop} : XcP F gl 53 [.agg [.sl a (r.1.map tTerm), .sl b (r.2.1.map tTerm), .sl c (r.2.2.map tTerm)]] K ⟨⟩ ↔ K (.t (.str (rowX r ++ [10]))) := by
  obtain ⟨h1, h2, h3, l1, l2, l3⟩ := h
  have g1 := @ok76 gl a r.1 l1 h1
  have g2 := @ok76 gl b r.2.1 l2 h2
  have g3 := @ok76 gl c r.2.2 l3 h3
  have e1 := lin_len r.1 h1
  have e2 := lin_len r.2.1 h2
  have e3 := lin_len r.2.2 h3
  refine Ret.iff (Ret.of F53 rfl ?_)
  simp only [ir53]
  simp only [wCo, wFr, wOp, wBi, wLst, wLog, xB_other, Nat.reduceBEq, unT, loadP, storeP, partP, partT, partV, cellsP, mkAgg, allT, setRange, fillP, fieldA, indexS, indexA, indexV, indexStr, elems, lenP, pickV, cviV, nckV, extV, isNil, bound, close, close1, aft, retV, retSl, Go.Pi.one, eqT, eqs, eq1, Nat.reduceEqDiff, Nat.reduceAdd, Nat.reduceSub, Nat.reduceMul, Nat.reduceLeDiff, Nat.reduceLT, Nat.one_ne_zero, Nat.zero_ne_one, reduceIte, reduceCtorEq, bne_self_eq_false, decide_true, decide_false, Int.reduceToNat, Int.cast_ofNat_Int, Int.reduceLT, Int.reduceLE, Int.reduceEq, Int.reduceNeg, Int.reduceAdd, Int.reduceSub, g1, g2, g3]
  repeat' (first | ((with_reducible first | refine xG_dec ?_ ?_ | refine xG_ndec ?_ ?_ | refine xG_nsplit ?_ ?_ | refine xG_split ?_ ?_ | refine xC_dec ?_ ?_ | refine xC_ndec ?_ ?_ | refine xC_nsplit ?_ ?_ | refine xC_split ?_ ?_) <;> intro h <;> (try simp only [wCo, wFr, wOp, wBi, wLst, wLog, xB_other, Nat.reduceBEq, unT, loadP, storeP, partP, partT, partV, cellsP, mkAgg, allT, setRange, fillP, fieldA, indexS, indexA, indexV, indexStr, elems, lenP, pickV, cviV, nckV, extV, isNil, bound, close, close1, aft, retV, retSl, Go.Pi.one, eqT, eqs, eq1, Nat.reduceEqDiff, Nat.reduceAdd, Nat.reduceSub, Nat.reduceMul, Nat.reduceLeDiff, Nat.reduceLT, Nat.one_ne_zero, Nat.zero_ne_one, reduceIte, reduceCtorEq, bne_self_eq_false, decide_true, decide_false, Int.reduceToNat, Int.cast_ofNat_Int, Int.reduceLT, Int.reduceLE, Int.reduceEq, Int.reduceNeg, Int.reduceAdd, Int.reduceSub, g1, g2, g3, h])) | ((with_reducible refine xO_if (by first | omega | (simp only [List.length_append, List.length_cons, List.length_nil]; omega)) ?_); (try simp only [wCo, wFr, wOp, wBi, wLst, wLog, xB_other, Nat.reduceBEq, unT, loadP, storeP, partP, partT, partV, cellsP, mkAgg, allT, setRange, fillP, fieldA, indexS, indexA, indexV, indexStr, elems, lenP, pickV, cviV, nckV, extV, isNil, bound, close, close1, aft, retV, retSl, Go.Pi.one, eqT, eqs, eq1, Nat.reduceEqDiff, Nat.reduceAdd, Nat.reduceSub, Nat.reduceMul, Nat.reduceLeDiff, Nat.reduceLT, Nat.one_ne_zero, Nat.zero_ne_one, reduceIte, reduceCtorEq, bne_self_eq_false, decide_true, decide_false, Int.reduceToNat, Int.cast_ofNat_Int, Int.reduceLT, Int.reduceLE, Int.reduceEq, Int.reduceNeg, Int.reduceAdd, Int.reduceSub, g1, g2, g3])))
  simp [rowX]
theorem ok52 {h : Int × Int × Int} {x : T} (hx : x.isAgg = false) (h1 : 0 ≤ h.1) (h2 : h.1 ≤ 18446744073709551615) (h3 : 0 ≤ h.2.1) (h4 : h.2.1 ≤ 9223372036854775807) (h5 : 0 ≤ h.2.2) (h6 : h.2.2 ≤ 9223372036854775807) {K : PV → Prop} : XcP F gl 52 [.agg [.int .u64 h.1, .int .i64 h.2.1, .int .i64 h.2.2, x]] K ⟨⟩ ↔ K (.t (.str (headX h ++ [10]))) := by
  have g1 := @digits_ok gl h.1 h1 h2
  have g2 := @digits_ok gl h.2.1 h3 (by omega)
  have g3 := @digits_ok gl h.2.2 h5 (by omega)
  have w1 : IntKind.u64.wrap h.2.1 = h.2.1 := IntWalk.u64_in _ (by omega)
  have w2 : IntKind.u64.wrap h.2.2 = h.2.2 := IntWalk.u64_in _ (by omega)
  have d1 := dec_le20 h.1.toNat (by omega)
  have d2 := dec_le20 h.2.1.toNat (by omega)
  have d3 := dec_le20 h.2.2.toNat (by omega)
  refine Ret.iff (Ret.of F52 rfl ?_)
  simp only [ir52]
  simp only [wCo, wFr, wOp, wBi, wLst, wLog, xB_other, Nat.reduceBEq, unT, loadP, storeP, partP, partT, partV, cellsP, mkAgg, allT, setRange, fillP, fieldA, indexS, indexA, indexV, indexStr, elems, lenP, pickV, cviV, nckV, extV, isNil, bound, close, close1, aft, retV, retSl, Go.Pi.one, eqT, eqs, eq1, Nat.reduceEqDiff, Nat.reduceAdd, Nat.reduceSub, Nat.reduceMul, Nat.reduceLeDiff, Nat.reduceLT, Nat.one_ne_zero, Nat.zero_ne_one, reduceIte, reduceCtorEq, bne_self_eq_false, decide_true, decide_false, Int.reduceToNat, Int.cast_ofNat_Int, Int.reduceLT, Int.reduceLE, Int.reduceEq, Int.reduceNeg, Int.reduceAdd, Int.reduceSub, g1, g2, g3, w1, w2]
  repeat' (first | ((with_reducible first | refine xG_dec ?_ ?_ | refine xG_ndec ?_ ?_ | refine xG_nsplit ?_ ?_ | refine xG_split ?_ ?_ | refine xC_dec ?_ ?_ | refine xC_ndec ?_ ?_ | refine xC_nsplit ?_ ?_ | refine xC_split ?_ ?_) <;> intro h <;> (try simp only [wCo, wFr, wOp, wBi, wLst, wLog, xB_other, Nat.reduceBEq, unT, loadP, storeP, partP, partT, partV, cellsP, mkAgg, allT, setRange, fillP, fieldA, indexS, indexA, indexV, indexStr, elems, lenP, pickV, cviV, nckV, extV, isNil, bound, close, close1, aft, retV, retSl, Go.Pi.one, eqT, eqs, eq1, Nat.reduceEqDiff, Nat.reduceAdd, Nat.reduceSub, Nat.reduceMul, Nat.reduceLeDiff, Nat.reduceLT, Nat.one_ne_zero, Nat.zero_ne_one, reduceIte, reduceCtorEq, bne_self_eq_false, decide_true, decide_false, Int.reduceToNat, Int.cast_ofNat_Int, Int.reduceLT, Int.reduceLE, Int.reduceEq, Int.reduceNeg, Int.reduceAdd, Int.reduceSub, g1, g2, g3, w1, w2, h])) | ((with_reducible refine xO_if (by first | omega | (simp only [List.length_append, List.length_cons, List.length_nil]; omega)) ?_); (try simp only [wCo, wFr, wOp, wBi, wLst, wLog, xB_other, Nat.reduceBEq, unT, loadP, storeP, partP, partT, partV, cellsP, mkAgg, allT, setRange, fillP, fieldA, indexS, indexA, indexV, indexStr, elems, lenP, pickV, cviV, nckV, extV, isNil, bound, close, close1, aft, retV, retSl, Go.Pi.one, eqT, eqs, eq1, Nat.reduceEqDiff, Nat.reduceAdd, Nat.reduceSub, Nat.reduceMul, Nat.reduceLeDiff, Nat.reduceLT, Nat.one_ne_zero, Nat.zero_ne_one, reduceIte, reduceCtorEq, bne_self_eq_false, decide_true, decide_false, Int.reduceToNat, Int.cast_ofNat_Int, Int.reduceLT, Int.reduceLE, Int.reduceEq, Int.reduceNeg, Int.reduceAdd, Int.reduceSub, g1, g2, g3, w1, w2])))
  simp [headX]
end Go.Proofs.YtbkphlhmbllbiaaDoor
