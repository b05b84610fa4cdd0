/- LexerAppends in the small language. -/
import Derived.Test.YtamkdkieffgpiaaDoorL6
import Derived.Test.YtamkdkieffgpiaaDoorPi31
set_option maxRecDepth 10000
set_option linter.unusedVariables false
set_option linter.unusedSimpArgs false
namespace Go.Proofs.YtamkdkieffgpiaaDoor
open Go.Pi Go.Lx
variable {gl : Nat → Option (List T)}

theorem alikeB_of : ∀ {a b : List Tok}, Lx.Alike a b → alikeB a b = true := by
  intro a
  induction a with
  | nil => intro b h; cases b with
    | nil => rfl
    | cons y b => cases h
  | cons x a ih => intro b h; cases b with
    | nil => cases h
    | cons y b =>
      obtain ⟨⟨h1, h2, h3⟩, h⟩ := h
      simp only [alikeB, h1, h2, h3, ih h, decide_true, Bool.and_self]
theorem lexR_bounds : ∀ (n : Nat) (s : List UInt8) (pos : Nat), s.length = n → (∀ l, lexR pos s = .toks l → l.length ≤ s.length + 1) ∧ (∀ p e, lexR pos s = .err p e → p ≤ pos + s.length ∧ (e = 2 ∨ e = 3)) := by
  intro n
  induction n using Nat.strongRecOn with
  | _ n ih =>
    intro s pos hl
    rcases lex_cases s with h1 | ⟨h1, ⟨e, hn⟩ | ⟨k, m, v, hn⟩⟩
    · rw [lexR_end h1]
      refine ⟨fun l h => ?_, fun p e h => by cases h⟩
      injection h with h; subst h; simp
    · rw [lexR_err h1 hn]
      refine ⟨fun l h => (by cases h), fun p e' h => ?_⟩
      injection h with h2 h3
      subst h2 h3
      exact ⟨by omega, next_err hn⟩
    · have hp := next_pos hn
      rw [lexR_ok h1 hn]
      have hd : (s.drop (gap s + m)).length = s.length - (gap s + m) := List.length_drop
      obtain ⟨q1, q2⟩ := ih (s.drop (gap s + m)).length (by simp only [List.length_drop] at hp ⊢; omega) (s.drop (gap s + m)) (pos + gap s + m) rfl
      simp only [List.length_drop] at hp
      cases hq : lexR (pos + gap s + m) (s.drop (gap s + m)) with
      | err p e =>
        refine ⟨fun l h => (by cases h), fun p' e' h => ?_⟩
        obtain ⟨a, b⟩ := q2 p e hq
        injection h with h2 h3
        subst h2 h3
        exact ⟨by omega, b⟩
      | toks q =>
        refine ⟨fun l h => ?_, fun p' e' h => by cases h⟩
        have := q1 q hq
        injection h with h
        subst h
        simp only [List.length_cons]; omega
theorem lexR_len {s : List UInt8} {pos : Nat} {l : List Tok} (h : lexR pos s = .toks l) : l.length ≤ s.length + 1 := (lexR_bounds _ s pos rfl).1 l h
theorem lexR_at {s : List UInt8} {pos p e : Nat} (h : lexR pos s = .err p e) : p ≤ pos + s.length ∧ (e = 2 ∨ e = 3) := (lexR_bounds _ s pos rfl).2 p e h
theorem lex_two (s : List UInt8) : (∃ l, lexR 0 s = .toks l) ∨ ∃ p e, lexR 0 s = .err p e := by
  cases h : lexR 0 s with
  | toks l => exact .inl ⟨l, rfl⟩
  | err p e => exact .inr ⟨p, e, rfl⟩
theorem ok11t (hg : GlOk gl) {s : List UInt8} (hs : s.length ≤ 16384) {l : List Tok} (hl : lexR 0 s = .toks l) {K : PV → Prop} : XcP F gl 11 [.str s] K ⟨⟩ ↔ K (.tup [.t (.sl false (l.map tTok)), .t (.int .i64 0), .t (.int .i64 0)]) := by
  rw [ok11 hg, resV_toks (by omega) hl]
theorem ok11e (hg : GlOk gl) {s : List UInt8} (hs : s.length ≤ 16384) {p e : Nat} (hl : lexR 0 s = .err p e) {K : PV → Prop} : XcP F gl 11 [.str s] K ⟨⟩ ↔ K (.tup [.t (.sl true []), .t (.int .i64 p), .t (.int .i64 e)]) := by
  rw [ok11 hg, resV_err (by omega) hl]
theorem wr64 {n : Nat} (h : n ≤ 4611686018427387904) : IntKind.wrap .i64 (n : Int) = (n : Int) := IntWalk.i64_in _ (by omega)
theorem slc_last (l : List Tok) (h : l ≠ []) : sliceP 4 (.t (.sl false (l.map tTok))) none (some (.t (.int .i64 ((l.length - 1 : Nat) : Int)))) (some (.t (.int .i64 ((l.length - 1 : Nat) : Int)))) = some (.cp (l.dropLast.map tTok)) := by
  have hn : 0 < l.length := List.length_pos_iff.2 h
  have b0 : (0 : Int) ≤ ((l.length - 1 : Nat) : Int) := by omega
  have e : ((l.map tTok).take (l.length - 1)).drop 0 = l.dropLast.map tTok := by
    rw [List.drop_zero, ← List.map_take, List.dropLast_eq_take]
  have hz : szOk 4 (l.dropLast.map tTok) = true := by cases l.dropLast <;> simp [szOk, tTok]
  simp only [sliceP, elems, bound, b0, if_true, Int.toNat_natCast, e, List.length_map, Nat.zero_le, Nat.le_refl, true_and, Nat.sub_le, hz, and_self]
theorem app_cp (a m : List Tok) (hm : m ≠ []) (hl : a.length + m.length ≤ 100000) (sg : Sg) (ow : Ow) : appendP false sg ow 4 40 (.cp (a.map tTok)) (.t (.sl false (m.map tTok))) = some (.own ow.length 4 ((a ++ m).map tTok), ow ++ [(a ++ m).length]) := by
  cases m with
  | nil => exact absurd rfl hm
  | cons t m =>
    have h1 : ((t :: m).map tTok).all (fun x => x.length == 4) = true := tTok_all _
    have h2 : (a.map tTok).all (fun x => x.length == 4) = true := tTok_all _
    have r1 : room ((a.map tTok).length + ((t :: m).map tTok).length) 40 = true := room40 (by simp at hl ⊢; omega)
    simp only [List.map_cons] at h1 r1
    simp only [appendP, elemsS, elems, List.map_cons, h1, h2, r1, and_self, if_true, Nat.succ_pos, Nat.zero_lt_succ]
    simp
theorem law6 (hg : GlOk gl) (a b : List UInt8) (ha : a.length ≤ 140737488355328) (hb : b.length ≤ 140737488355328) : Ret F gl 6 [.str a, .str b] (.t (.bool true)) := by
  refine Ret.of F6 rfl ?_
  simp only [ir6]
  have a10 := @ok10 gl hg
  by_cases s1 : (3000 : Int) < (a.length : Int)
  · simp only [wCo, wFr, wOp, wBi, wLst, wLog, xB_other, Nat.reduceBEq, unT, loadP, storeP, partP, partT, partV, cellsP, mkAgg, allT, setRange, fillP, fieldA, indexS, indexA, indexV, indexStr, elems, lenP, pickV, cviV, nckV, extV, isNil, bound, close, close1, aft, retV, retSl, one, eqT, eqs, eq1, Nat.reduceEqDiff, Nat.reduceAdd, Nat.reduceSub, Nat.reduceMul, Nat.reduceLeDiff, Nat.reduceLT, Nat.one_ne_zero, Nat.zero_ne_one, reduceIte, reduceCtorEq, bne_self_eq_false, decide_true, decide_false, Int.reduceToNat, Int.cast_ofNat_Int, Int.reduceLT, Int.reduceLE, Int.reduceEq, Int.reduceNeg, Int.reduceAdd, Int.reduceSub, a10, s1]
    repeat' ((with_reducible first | refine xG_dec ?_ ?_ | refine xG_ndec ?_ ?_ | refine xG_nsplit ?_ ?_ | refine xG_split ?_ ?_ | refine xC_dec ?_ ?_ | refine xC_ndec ?_ ?_ | refine xC_nsplit ?_ ?_ | refine xC_split ?_ ?_) <;> intro h <;> (try simp only [wCo, wFr, wOp, wBi, wLst, wLog, xB_other, Nat.reduceBEq, unT, loadP, storeP, partP, partT, partV, cellsP, mkAgg, allT, setRange, fillP, fieldA, indexS, indexA, indexV, indexStr, elems, lenP, pickV, cviV, nckV, extV, isNil, bound, close, close1, aft, retV, retSl, one, eqT, eqs, eq1, Nat.reduceEqDiff, Nat.reduceAdd, Nat.reduceSub, Nat.reduceMul, Nat.reduceLeDiff, Nat.reduceLT, Nat.one_ne_zero, Nat.zero_ne_one, reduceIte, reduceCtorEq, bne_self_eq_false, decide_true, decide_false, Int.reduceToNat, Int.cast_ofNat_Int, Int.reduceLT, Int.reduceLE, Int.reduceEq, Int.reduceNeg, Int.reduceAdd, Int.reduceSub, a10, s1, h]))
  · by_cases s2 : (3000 : Int) < (b.length : Int)
    · simp only [wCo, wFr, wOp, wBi, wLst, wLog, xB_other, Nat.reduceBEq, unT, loadP, storeP, partP, partT, partV, cellsP, mkAgg, allT, setRange, fillP, fieldA, indexS, indexA, indexV, indexStr, elems, lenP, pickV, cviV, nckV, extV, isNil, bound, close, close1, aft, retV, retSl, one, eqT, eqs, eq1, Nat.reduceEqDiff, Nat.reduceAdd, Nat.reduceSub, Nat.reduceMul, Nat.reduceLeDiff, Nat.reduceLT, Nat.one_ne_zero, Nat.zero_ne_one, reduceIte, reduceCtorEq, bne_self_eq_false, decide_true, decide_false, Int.reduceToNat, Int.cast_ofNat_Int, Int.reduceLT, Int.reduceLE, Int.reduceEq, Int.reduceNeg, Int.reduceAdd, Int.reduceSub, a10, s1, s2]
      repeat' ((with_reducible first | refine xG_dec ?_ ?_ | refine xG_ndec ?_ ?_ | refine xG_nsplit ?_ ?_ | refine xG_split ?_ ?_ | refine xC_dec ?_ ?_ | refine xC_ndec ?_ ?_ | refine xC_nsplit ?_ ?_ | refine xC_split ?_ ?_) <;> intro h <;> (try simp only [wCo, wFr, wOp, wBi, wLst, wLog, xB_other, Nat.reduceBEq, unT, loadP, storeP, partP, partT, partV, cellsP, mkAgg, allT, setRange, fillP, fieldA, indexS, indexA, indexV, indexStr, elems, lenP, pickV, cviV, nckV, extV, isNil, bound, close, close1, aft, retV, retSl, one, eqT, eqs, eq1, Nat.reduceEqDiff, Nat.reduceAdd, Nat.reduceSub, Nat.reduceMul, Nat.reduceLeDiff, Nat.reduceLT, Nat.one_ne_zero, Nat.zero_ne_one, reduceIte, reduceCtorEq, bne_self_eq_false, decide_true, decide_false, Int.reduceToNat, Int.cast_ofNat_Int, Int.reduceLT, Int.reduceLE, Int.reduceEq, Int.reduceNeg, Int.reduceAdd, Int.reduceSub, a10, s1, s2, h]))
    · have hl := lexR_line a b 0
      have sl : (a ++ 10 :: b).length ≤ 16384 := by simp; omega
      have eab : a ++ [10] ++ b = a ++ 10 :: b := by simp
      have k1 : a.length ≤ 4611686018427387903 := by omega
      have k2 : (a ++ 10 :: b).length ≤ 4611686018427387904 := by omega
      have k3 : a.length + 1 + b.length ≤ 4611686018427387904 := by omega
      have k4 : a.length + [(10 : UInt8)].length ≤ 4611686018427387904 := by simp; omega
      rcases lex_two a with ⟨l, e1⟩ | ⟨p, e, e1⟩
      · have c1 := @ok11t gl hg a (by omega) l e1
        rw [e1] at hl
        rcases lex_two b with ⟨m, e2⟩ | ⟨p, e, e2⟩
        · have c2 := @ok11t gl hg b (by omega) m e2
          have hsh := lexR_shift (a.length + 1) _ b 0 rfl
          rw [show 0 + (a.length + 1) = 0 + a.length + 1 by omega, e2] at hsh
          rw [hsh] at hl
          have c3 := @ok11t gl hg _ sl _ hl
          have n1 := lexR_ne e1
          have n2 := lexR_ne e2
          have l1 := lexR_len e1
          have l2 := lexR_len e2
          have hp : (0 : Int) < (l.length : Int) := by have := List.length_pos_iff.2 n1; omega
          have hw : IntKind.wrap .i64 ((l.length : Int) - 1) = ((l.length - 1 : Nat) : Int) := by rw [IntWalk.i64_in _ (by omega)]; have := List.length_pos_iff.2 n1; omega
          have sc := slc_last l n1
          have ap := fun sg ow => app_cp l.dropLast m n2 (by rw [List.length_dropLast]; omega) sg ow
          have c15 := @ok15 gl false false (l.dropLast ++ m.map (shiftT (a.length + 1))) (l.dropLast ++ m) (by simp; omega)
          rw [alikeB_of (alike_app (alike_refl _) (alike_shift _ _))] at c15
          simp only [wCo, wFr, wOp, wBi, wLst, wLog, xB_other, Nat.reduceBEq, unT, loadP, storeP, partP, partT, partV, cellsP, mkAgg, allT, setRange, fillP, fieldA, indexS, indexA, indexV, indexStr, elems, lenP, pickV, cviV, nckV, extV, isNil, bound, close, close1, aft, retV, retSl, one, eqT, eqs, eq1, Nat.reduceEqDiff, Nat.reduceAdd, Nat.reduceSub, Nat.reduceMul, Nat.reduceLeDiff, Nat.reduceLT, Nat.one_ne_zero, Nat.zero_ne_one, reduceIte, reduceCtorEq, bne_self_eq_false, decide_true, decide_false, Int.reduceToNat, Int.cast_ofNat_Int, Int.reduceLT, Int.reduceLE, Int.reduceEq, Int.reduceNeg, Int.reduceAdd, Int.reduceSub, a10, s1, s2, c1, c2, c3, k1, k3, k4, eab, List.length_map, hp, hw, sc, ap, c15, Bool.not_true]
          repeat' ((with_reducible first | refine xG_dec ?_ ?_ | refine xG_ndec ?_ ?_ | refine xG_nsplit ?_ ?_ | refine xG_split ?_ ?_ | refine xC_dec ?_ ?_ | refine xC_ndec ?_ ?_ | refine xC_nsplit ?_ ?_ | refine xC_split ?_ ?_) <;> intro h <;> (try simp only [wCo, wFr, wOp, wBi, wLst, wLog, xB_other, Nat.reduceBEq, unT, loadP, storeP, partP, partT, partV, cellsP, mkAgg, allT, setRange, fillP, fieldA, indexS, indexA, indexV, indexStr, elems, lenP, pickV, cviV, nckV, extV, isNil, bound, close, close1, aft, retV, retSl, one, eqT, eqs, eq1, Nat.reduceEqDiff, Nat.reduceAdd, Nat.reduceSub, Nat.reduceMul, Nat.reduceLeDiff, Nat.reduceLT, Nat.one_ne_zero, Nat.zero_ne_one, reduceIte, reduceCtorEq, bne_self_eq_false, decide_true, decide_false, Int.reduceToNat, Int.cast_ofNat_Int, Int.reduceLT, Int.reduceLE, Int.reduceEq, Int.reduceNeg, Int.reduceAdd, Int.reduceSub, a10, s1, s2, c1, c2, c3, k1, k3, k4, eab, List.length_map, hp, hw, sc, ap, c15, Bool.not_true, h]))
        · have c2 := @ok11e gl hg b (by omega) p e e2
          have hsh := lexR_shift (a.length + 1) _ b 0 rfl
          rw [show 0 + (a.length + 1) = 0 + a.length + 1 by omega, e2] at hsh
          rw [hsh] at hl
          have c3 := @ok11e gl hg _ sl _ _ hl
          obtain ⟨b1, b2⟩ := lexR_at e2
          have he : ¬ ((e : Int) = 0) := by rcases b2 with h | h <;> omega
          have w1 : IntKind.wrap .i64 ((a.length : Int) + 1) = ((a.length + 1 : Nat) : Int) := by rw [IntWalk.i64_in _ (by omega)]; omega
          have w2 : IntKind.wrap .i64 (((a.length + 1 : Nat) : Int) + (p : Int)) = ((p + (a.length + 1) : Nat) : Int) := by rw [IntWalk.i64_in _ (by omega)]; omega
          simp only [wCo, wFr, wOp, wBi, wLst, wLog, xB_other, Nat.reduceBEq, unT, loadP, storeP, partP, partT, partV, cellsP, mkAgg, allT, setRange, fillP, fieldA, indexS, indexA, indexV, indexStr, elems, lenP, pickV, cviV, nckV, extV, isNil, bound, close, close1, aft, retV, retSl, one, eqT, eqs, eq1, Nat.reduceEqDiff, Nat.reduceAdd, Nat.reduceSub, Nat.reduceMul, Nat.reduceLeDiff, Nat.reduceLT, Nat.one_ne_zero, Nat.zero_ne_one, reduceIte, reduceCtorEq, bne_self_eq_false, decide_true, decide_false, Int.reduceToNat, Int.cast_ofNat_Int, Int.reduceLT, Int.reduceLE, Int.reduceEq, Int.reduceNeg, Int.reduceAdd, Int.reduceSub, a10, s1, s2, c1, c2, c3, k1, k3, k4, eab, List.length_map, he, w1, w2, Bool.not_true, Bool.not_false]
          repeat' ((with_reducible first | refine xG_dec ?_ ?_ | refine xG_ndec ?_ ?_ | refine xG_nsplit ?_ ?_ | refine xG_split ?_ ?_ | refine xC_dec ?_ ?_ | refine xC_ndec ?_ ?_ | refine xC_nsplit ?_ ?_ | refine xC_split ?_ ?_) <;> intro h <;> (try simp only [wCo, wFr, wOp, wBi, wLst, wLog, xB_other, Nat.reduceBEq, unT, loadP, storeP, partP, partT, partV, cellsP, mkAgg, allT, setRange, fillP, fieldA, indexS, indexA, indexV, indexStr, elems, lenP, pickV, cviV, nckV, extV, isNil, bound, close, close1, aft, retV, retSl, one, eqT, eqs, eq1, Nat.reduceEqDiff, Nat.reduceAdd, Nat.reduceSub, Nat.reduceMul, Nat.reduceLeDiff, Nat.reduceLT, Nat.one_ne_zero, Nat.zero_ne_one, reduceIte, reduceCtorEq, bne_self_eq_false, decide_true, decide_false, Int.reduceToNat, Int.cast_ofNat_Int, Int.reduceLT, Int.reduceLE, Int.reduceEq, Int.reduceNeg, Int.reduceAdd, Int.reduceSub, a10, s1, s2, c1, c2, c3, k1, k3, k4, eab, List.length_map, he, w1, w2, Bool.not_true, Bool.not_false, h]))
      · have c1 := @ok11e gl hg a (by omega) p e e1
        rw [e1] at hl
        have c3 := @ok11e gl hg _ sl _ _ hl
        obtain ⟨b1, b2⟩ := lexR_at e1
        have he : ¬ ((e : Int) = 0) := by rcases b2 with h | h <;> omega
        rcases lex_two b with ⟨m, e2⟩ | ⟨p', e', e2⟩
        · have c2 := @ok11t gl hg b (by omega) m e2
          simp only [wCo, wFr, wOp, wBi, wLst, wLog, xB_other, Nat.reduceBEq, unT, loadP, storeP, partP, partT, partV, cellsP, mkAgg, allT, setRange, fillP, fieldA, indexS, indexA, indexV, indexStr, elems, lenP, pickV, cviV, nckV, extV, isNil, bound, close, close1, aft, retV, retSl, one, eqT, eqs, eq1, Nat.reduceEqDiff, Nat.reduceAdd, Nat.reduceSub, Nat.reduceMul, Nat.reduceLeDiff, Nat.reduceLT, Nat.one_ne_zero, Nat.zero_ne_one, reduceIte, reduceCtorEq, bne_self_eq_false, decide_true, decide_false, Int.reduceToNat, Int.cast_ofNat_Int, Int.reduceLT, Int.reduceLE, Int.reduceEq, Int.reduceNeg, Int.reduceAdd, Int.reduceSub, a10, s1, s2, c1, c2, c3, k1, k3, k4, eab, List.length_map, he, Bool.not_true, Bool.not_false]
          repeat' ((with_reducible first | refine xG_dec ?_ ?_ | refine xG_ndec ?_ ?_ | refine xG_nsplit ?_ ?_ | refine xG_split ?_ ?_ | refine xC_dec ?_ ?_ | refine xC_ndec ?_ ?_ | refine xC_nsplit ?_ ?_ | refine xC_split ?_ ?_) <;> intro h <;> (try simp only [wCo, wFr, wOp, wBi, wLst, wLog, xB_other, Nat.reduceBEq, unT, loadP, storeP, partP, partT, partV, cellsP, mkAgg, allT, setRange, fillP, fieldA, indexS, indexA, indexV, indexStr, elems, lenP, pickV, cviV, nckV, extV, isNil, bound, close, close1, aft, retV, retSl, one, eqT, eqs, eq1, Nat.reduceEqDiff, Nat.reduceAdd, Nat.reduceSub, Nat.reduceMul, Nat.reduceLeDiff, Nat.reduceLT, Nat.one_ne_zero, Nat.zero_ne_one, reduceIte, reduceCtorEq, bne_self_eq_false, decide_true, decide_false, Int.reduceToNat, Int.cast_ofNat_Int, Int.reduceLT, Int.reduceLE, Int.reduceEq, Int.reduceNeg, Int.reduceAdd, Int.reduceSub, a10, s1, s2, c1, c2, c3, k1, k3, k4, eab, List.length_map, he, Bool.not_true, Bool.not_false, h]))
        · have c2 := @ok11e gl hg b (by omega) p' e' e2
          simp only [wCo, wFr, wOp, wBi, wLst, wLog, xB_other, Nat.reduceBEq, unT, loadP, storeP, partP, partT, partV, cellsP, mkAgg, allT, setRange, fillP, fieldA, indexS, indexA, indexV, indexStr, elems, lenP, pickV, cviV, nckV, extV, isNil, bound, close, close1, aft, retV, retSl, one, eqT, eqs, eq1, Nat.reduceEqDiff, Nat.reduceAdd, Nat.reduceSub, Nat.reduceMul, Nat.reduceLeDiff, Nat.reduceLT, Nat.one_ne_zero, Nat.zero_ne_one, reduceIte, reduceCtorEq, bne_self_eq_false, decide_true, decide_false, Int.reduceToNat, Int.cast_ofNat_Int, Int.reduceLT, Int.reduceLE, Int.reduceEq, Int.reduceNeg, Int.reduceAdd, Int.reduceSub, a10, s1, s2, c1, c2, c3, k1, k3, k4, eab, List.length_map, he, Bool.not_true, Bool.not_false]
          repeat' ((with_reducible first | refine xG_dec ?_ ?_ | refine xG_ndec ?_ ?_ | refine xG_nsplit ?_ ?_ | refine xG_split ?_ ?_ | refine xC_dec ?_ ?_ | refine xC_ndec ?_ ?_ | refine xC_nsplit ?_ ?_ | refine xC_split ?_ ?_) <;> intro h <;> (try simp only [wCo, wFr, wOp, wBi, wLst, wLog, xB_other, Nat.reduceBEq, unT, loadP, storeP, partP, partT, partV, cellsP, mkAgg, allT, setRange, fillP, fieldA, indexS, indexA, indexV, indexStr, elems, lenP, pickV, cviV, nckV, extV, isNil, bound, close, close1, aft, retV, retSl, one, eqT, eqs, eq1, Nat.reduceEqDiff, Nat.reduceAdd, Nat.reduceSub, Nat.reduceMul, Nat.reduceLeDiff, Nat.reduceLT, Nat.one_ne_zero, Nat.zero_ne_one, reduceIte, reduceCtorEq, bne_self_eq_false, decide_true, decide_false, Int.reduceToNat, Int.cast_ofNat_Int, Int.reduceLT, Int.reduceLE, Int.reduceEq, Int.reduceNeg, Int.reduceAdd, Int.reduceSub, a10, s1, s2, c1, c2, c3, k1, k3, k4, eab, List.length_map, he, Bool.not_true, Bool.not_false, h]))
theorem str_of {x : T} (h : ArgT 140737488355328 (false, [.str]) x) : ∃ s, x = .str s ∧ s.length ≤ 140737488355328 := wt_str (argT_one h)
theorem args6 (hg : GlOk gl) : ∀ xs, ArgsT 140737488355328 [(false, [.str]), (false, [.str])] xs → ∃ n sg ow, pcall F gl n 6 (xs.map .t) [] [] = some (.t (.bool true), sg, ow) := by
  intro xs h
  obtain ⟨x, r, rfl, hx, h⟩ := argsT_cons h
  obtain ⟨y, r, rfl, hy, h⟩ := argsT_cons h
  obtain rfl := argsT_nil h
  obtain ⟨a, rfl, ha⟩ := str_of hx
  obtain ⟨b, rfl, hb⟩ := str_of hy
  exact CallP.law (law6 hg a b ha hb)
end Go.Proofs.YtamkdkieffgpiaaDoor
