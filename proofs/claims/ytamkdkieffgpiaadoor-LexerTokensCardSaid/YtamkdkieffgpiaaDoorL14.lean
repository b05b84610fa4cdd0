/- LexerTokens in the small language. -/
import Derived.Test.YtamkdkieffgpiaaDoorL13
set_option maxRecDepth 10000
set_option linter.unusedVariables false
set_option linter.unusedSimpArgs false
namespace Go.Proofs.YtamkdkieffgpiaaDoor
open Go.Pi Go.Lx
variable {gl : Nat → Option (List T)}

theorem next_W {c : UInt8} {r : List UInt8} (hL : isLet c = true) : next (c :: r) = if keywords.contains ((c :: r).take (span isNam (c :: r))) then .ok 2 (span isNam (c :: r)) 0 else if 24 < span isNam (c :: r) then .err 3 else .ok 1 (span isNam (c :: r)) 0 := by
  rw [next, if_pos hL]; rfl
theorem next_D {c : UInt8} {r : List UInt8} (hL : isLet c = false) (hD : isDig c = true) : next (c :: r) = if numE (c :: r) = 0 then .ok 3 (span isDig (c :: r)) (numV ((c :: r).take (span isDig (c :: r)))) else .err (numE (c :: r)) := by
  by_cases h : (c :: r).head? = some 48 ∧ 1 < span isDig (c :: r)
  · have e : numE (c :: r) = 2 := by rw [numE, if_pos ⟨h.2, h.1⟩]
    rw [next, if_neg (by simp [hL]), if_pos hD, nextD, if_pos h, e, if_neg (by decide)]
  · have e : numE (c :: r) = ovf (numV ((c :: r).take (span isDig (c :: r)))) := by rw [numE, if_neg (fun q => h ⟨q.2, q.1⟩)]
    rw [next, if_neg (by simp [hL]), if_pos hD, nextD, if_neg h]
    by_cases g : 18446744073709551615 < numV ((c :: r).take (span isDig (c :: r)))
    · have e2 : numE (c :: r) = 3 := by rw [e, ovf, if_pos g]
      rw [if_pos g, e2, if_neg (by decide)]
    · have e2 : numE (c :: r) = 0 := by rw [e, ovf, if_neg g]
      rw [if_neg g, e2, if_pos rfl]
theorem next_S {c : UInt8} {r : List UInt8} (hL : isLet c = false) (hD : isDig c = false) : next (c :: r) = if symF syms (c :: r) = 0 then .err 2 else .ok 4 (symF syms (c :: r)) 0 := by
  rw [next, if_neg (by simp [hL]), if_neg (by simp [hD]), symF_syms]
  cases pairH c r
  · cases isSing c <;> rfl
  · rfl
theorem loop12 {s : List UInt8} (hl : s.length ≤ 20000) (Q : Ex → S → Prop) : ∀ (N p0 : Nat) (acc : List Tok) (fr : List PV) (sg : Sg), (s.drop p0).length ≤ N → p0 ≤ s.length → acc.length ≤ p0 →
    FrAt fr [(0, .t (.str s)), (5, accV acc), (6, .t (.int .i64 ((p0 + gap (s.drop p0) : Nat) : Int)))] →
    (∀ l, lexR p0 (s.drop p0) = .toks l → ∀ fr' sg', FrAt fr' [(0, .t (.str s)), (5, accV (acc ++ l.dropLast))] → (acc ++ l.dropLast).length ≤ 20000 → Q (.exit 0) ⟨fr', sg', accO (acc ++ l.dropLast)⟩) →
    (∀ p e, lexR p0 (s.drop p0) = .err p e → ∀ fr' sg' ow', FrAt fr' [(2, .t (.sl true [])), (3, .t (.int .i64 p)), (4, .t (.int .i64 e))] → Q .ret ⟨fr', sg', ow'⟩) →
    Xl F gl lb12_0 ⟨fr, sg, accO acc⟩ Q ⟨⟩ := by
  intro N
  induction N with
  | zero =>
    intro p0 acc fr sg hN hp0 ha hf h1 h2
    have hs0 : s.drop p0 = [] := List.eq_nil_of_length_eq_zero (Nat.le_zero.1 hN)
    have hp : p0 = s.length := by have := List.drop_eq_nil_iff.1 hs0; omega
    rw [hs0] at hf h1 h2
    have hlx : lexR p0 ([] : List UInt8) = .toks [⟨0, [], 0, p0 + 0⟩] := lexR_end (by simp [gapM])
    simp only [FrAt_cons, FrAt_nil, gapM, Nat.add_zero] at hf
    obtain ⟨f0, f5, f6, -⟩ := hf
    refine Xl.step ?_
    simp only [lb12_0]
    have c1 : ¬ ((p0 : Int) < (s.length : Int)) := by omega
    simp only [wCo, wFr, wOp, wBi, wLst, wLog, xB_other, Nat.reduceBEq, unT, loadP, storeP, partP, partT, partV, cellsP, mkAgg, allT, setRange, fillP, fieldA, indexS, indexA, indexV, indexStr, elems, lenP, pickV, cviV, nckV, extV, isNil, bound, close, close1, aft, retV, retSl, one, eqT, eqs, eq1, Nat.reduceEqDiff, Nat.reduceAdd, Nat.reduceSub, Nat.reduceMul, Nat.reduceLeDiff, Nat.reduceLT, Nat.one_ne_zero, Nat.zero_ne_one, reduceIte, reduceCtorEq, bne_self_eq_false, decide_true, decide_false, Int.reduceToNat, Int.cast_ofNat_Int, Int.reduceLT, Int.reduceLE, Int.reduceEq, Int.reduceNeg, Int.reduceAdd, Int.reduceSub, f0, f5, f6, c1]
    repeat' ((with_reducible first | refine xG_dec ?_ ?_ | refine xG_ndec ?_ ?_ | refine xG_nsplit ?_ ?_ | refine xG_split ?_ ?_ | refine xC_dec ?_ ?_ | refine xC_ndec ?_ ?_ | refine xC_nsplit ?_ ?_ | refine xC_split ?_ ?_) <;> intro h <;> (try simp only [wCo, wFr, wOp, wBi, wLst, wLog, xB_other, Nat.reduceBEq, unT, loadP, storeP, partP, partT, partV, cellsP, mkAgg, allT, setRange, fillP, fieldA, indexS, indexA, indexV, indexStr, elems, lenP, pickV, cviV, nckV, extV, isNil, bound, close, close1, aft, retV, retSl, one, eqT, eqs, eq1, Nat.reduceEqDiff, Nat.reduceAdd, Nat.reduceSub, Nat.reduceMul, Nat.reduceLeDiff, Nat.reduceLT, Nat.one_ne_zero, Nat.zero_ne_one, reduceIte, reduceCtorEq, bne_self_eq_false, decide_true, decide_false, Int.reduceToNat, Int.cast_ofNat_Int, Int.reduceLT, Int.reduceLE, Int.reduceEq, Int.reduceNeg, Int.reduceAdd, Int.reduceSub, f0, f5, f6, c1, h]))
    have this := h1 _ hlx
    simp only [List.dropLast_singleton, List.append_nil] at this
    exact this _ _ (by simp only [FrAt_cons, FrAt_nil, wFr, Nat.reduceEqDiff, Nat.one_ne_zero, Nat.zero_ne_one, reduceIte, and_self, and_true, true_and, f0, f5]) (by omega)
  | succ N ih =>
    intro p0 acc fr sg hN hp0 ha hf h1 h2
    have hgl := gapM_le (s.drop p0) false
    have hdl : (s.drop p0).length = s.length - p0 := List.length_drop
    simp only [FrAt_cons, FrAt_nil] at hf
    obtain ⟨f0, f5, f6, -⟩ := hf
    rcases lex_cases (s.drop p0) with hE | ⟨hlt, -⟩
    · have hlx := lexR_end (pos := p0) hE
      refine Xl.step ?_
      simp only [lb12_0]
      have c1 : ¬ (((p0 + gap (s.drop p0) : Nat) : Int) < (s.length : Int)) := by omega
      simp only [wCo, wFr, wOp, wBi, wLst, wLog, xB_other, Nat.reduceBEq, unT, loadP, storeP, partP, partT, partV, cellsP, mkAgg, allT, setRange, fillP, fieldA, indexS, indexA, indexV, indexStr, elems, lenP, pickV, cviV, nckV, extV, isNil, bound, close, close1, aft, retV, retSl, one, eqT, eqs, eq1, Nat.reduceEqDiff, Nat.reduceAdd, Nat.reduceSub, Nat.reduceMul, Nat.reduceLeDiff, Nat.reduceLT, Nat.one_ne_zero, Nat.zero_ne_one, reduceIte, reduceCtorEq, bne_self_eq_false, decide_true, decide_false, Int.reduceToNat, Int.cast_ofNat_Int, Int.reduceLT, Int.reduceLE, Int.reduceEq, Int.reduceNeg, Int.reduceAdd, Int.reduceSub, f0, f5, f6, c1]
      repeat' ((with_reducible first | refine xG_dec ?_ ?_ | refine xG_ndec ?_ ?_ | refine xG_nsplit ?_ ?_ | refine xG_split ?_ ?_ | refine xC_dec ?_ ?_ | refine xC_ndec ?_ ?_ | refine xC_nsplit ?_ ?_ | refine xC_split ?_ ?_) <;> intro h <;> (try simp only [wCo, wFr, wOp, wBi, wLst, wLog, xB_other, Nat.reduceBEq, unT, loadP, storeP, partP, partT, partV, cellsP, mkAgg, allT, setRange, fillP, fieldA, indexS, indexA, indexV, indexStr, elems, lenP, pickV, cviV, nckV, extV, isNil, bound, close, close1, aft, retV, retSl, one, eqT, eqs, eq1, Nat.reduceEqDiff, Nat.reduceAdd, Nat.reduceSub, Nat.reduceMul, Nat.reduceLeDiff, Nat.reduceLT, Nat.one_ne_zero, Nat.zero_ne_one, reduceIte, reduceCtorEq, bne_self_eq_false, decide_true, decide_false, Int.reduceToNat, Int.cast_ofNat_Int, Int.reduceLT, Int.reduceLE, Int.reduceEq, Int.reduceNeg, Int.reduceAdd, Int.reduceSub, f0, f5, f6, c1, h]))
      have this := h1 _ hlx
      simp only [List.dropLast_singleton, List.append_nil] at this
      exact this _ _ (by simp only [FrAt_cons, FrAt_nil, wFr, Nat.reduceEqDiff, Nat.one_ne_zero, Nat.zero_ne_one, reduceIte, and_self, and_true, true_and, f0, f5]) (by omega)
    · have hdd : s.drop (p0 + gap (s.drop p0)) = (s.drop p0).drop (gap (s.drop p0)) := by rw [List.drop_drop]
      obtain ⟨i, hi⟩ : ∃ i, i = p0 + gap (s.drop p0) := ⟨_, rfl⟩
      obtain ⟨c, r, hcr⟩ : ∃ c r, s.drop i = c :: r := by
        cases hd : s.drop i with
        | nil => have := congrArg List.length hd; simp only [List.length_drop, List.length_nil] at this; omega
        | cons c r => exact ⟨c, r, rfl⟩
      rw [← hi] at f6 hdd
      have c1 : (i : Int) < (s.length : Int) := by omega
      have hlen : (c :: r).length = s.length - i := by rw [← hcr, List.length_drop]
      have hip : p0 ≤ i := by omega
      have bad : ∀ e, next (c :: r) = .err e → ∀ fr' sg' ow', FrAt fr' [(2, .t (.sl true [])), (3, .t (.int .i64 i)), (4, .t (.int .i64 e))] → Q .ret ⟨fr', sg', ow'⟩ := by
        intro e hn
        have hlx := lexR_err (pos := p0) hlt (by rw [← hdd, hcr]; exact hn)
        rw [← hi] at hlx
        exact h2 i e hlx
      have fin : ∀ k n v, next (c :: r) = .ok k n v → ∀ fr2 sg2, FrAt fr2 [(0, .t (.str s)), (5, accV (acc ++ [⟨k, (c :: r).take n, v, i⟩])), (6, .t (.int .i64 ((i + n + gap (s.drop (i + n)) : Nat) : Int)))] → Xl F gl lb12_0 ⟨fr2, sg2, accO (acc ++ [⟨k, (c :: r).take n, v, i⟩])⟩ Q ⟨⟩ := by
        intro k n v hn fr2 sg2 hf2
        have hpos := next_pos hn
        have hlx := lexR_ok (pos := p0) hlt (by rw [← hdd, hcr]; exact hn)
        rw [← List.drop_drop, ← hdd, hcr, ← hi] at hlx
        have hdn : (c :: r).drop n = s.drop (i + n) := by rw [← hcr, List.drop_drop]
        rw [hdn] at hlx
        refine ih (i + n) (acc ++ [⟨k, (c :: r).take n, v, i⟩]) fr2 sg2 ?_ ?_ ?_ hf2 ?_ ?_
        · rw [List.length_drop]; omega
        · omega
        · simp; omega
        · intro l hll fr' sg' hf' hlen'
          rw [hll] at hlx
          have hne := lexR_ne hll
          have e1 : acc ++ (⟨k, (c :: r).take n, v, i⟩ :: l).dropLast = acc ++ [⟨k, (c :: r).take n, v, i⟩] ++ l.dropLast := by rw [List.dropLast_cons_of_ne_nil hne]; simp
          have this := h1 _ hlx fr' sg'
          rw [e1] at this
          exact this hf' hlen'
        · intro p e hee fr' sg' ow' hf'
          rw [hee] at hlx
          exact h2 p e hlx fr' sg' ow' hf'
      have hsl := slice_from (s := s) (i := i) (by omega)
      rw [hcr] at hsl
      have a22 := @ok22 gl (c :: r) (by omega)
      have adv : ∀ n, n ≤ (c :: r).length → IntKind.wrap .i64 ((i : Int) + (n : Int)) = ((i + n : Nat) : Int) ∧ sliceS (.t (.str s)) (some (.t (.int .i64 (i : Int)))) (some (.t (.int .i64 ((i + n : Nat) : Int)))) = some (.t (.str ((c :: r).take n))) ∧ sliceS (.t (.str s)) (some (.t (.int .i64 ((i + n : Nat) : Int)))) none = some (.t (.str (s.drop (i + n)))) ∧ IntKind.wrap .i64 (((i + n : Nat) : Int) + ((gapM false (s.drop (i + n)) : Nat) : Int)) = ((i + n + gapM false (s.drop (i + n)) : Nat) : Int) := by
        intro n hn
        have hg2 := gapM_le (s.drop (i + n)) false
        rw [List.length_drop] at hg2
        refine ⟨by rw [IntWalk.i64_in _ (by omega)]; omega, ?_, slice_from (by omega), by rw [IntWalk.i64_in _ (by omega)]; omega⟩
        have := slice_mid (s := s) (i := i) (j := i + n) (by omega) (by omega)
        rw [show i + n - i = n by omega, hcr] at this
        exact this
      have a14 : ∀ n {K : PV → Prop}, XcP F gl 14 [.str (s.drop (i + n))] K ⟨⟩ ↔ K (.t (.int .i64 ((gapM false (s.drop (i + n)) : Nat) : Int))) := fun n {K} => ok14 _ (by rw [List.length_drop]; omega)
      have eap := fun t => acc_app acc t (by omega)
      refine Xl.step ?_
      simp only [lb12_0]
      cases hL : isLet c with
      | true =>
        have hn := next_W (r := r) hL
        have ew : wordN (c :: r) = span isNam (c :: r) := by simp only [wordN, hL, if_true]
        rw [ew] at a22
        have hsp := span_le isNam (c :: r)
        have hs1 : 1 ≤ span isNam (c :: r) := by simp only [span, let_nam hL, if_true]; omega
        generalize hw : span isNam (c :: r) = w at *
        obtain ⟨v1, v2, v3, v4⟩ := adv w hsp
        have a14 := @a14 w
        have p0' : (0 : Int) < (w : Int) := by omega
        have z0 : ¬ ((w : Int) = 0) := by omega
        have a23 := @ok23 gl ((c :: r).take w)
        cases hk : keywords.contains ((c :: r).take w) with
        | true =>
          rw [hk] at hn a23
          simp only [if_true] at hn
          have ap := eap ⟨2, (c :: r).take w, 0, i⟩
          have fin := fin _ _ _ hn
          simp only [tTok, Int.cast_ofNat_Int] at ap
          generalize (c :: r).take w = tx at *
          simp only [wCo, wFr, wOp, wBi, wLst, wLog, xB_other, Nat.reduceBEq, unT, loadP, storeP, partP, partT, partV, cellsP, mkAgg, allT, setRange, fillP, fieldA, indexS, indexA, indexV, indexStr, elems, lenP, pickV, cviV, nckV, extV, isNil, bound, close, close1, aft, retV, retSl, one, eqT, eqs, eq1, Nat.reduceEqDiff, Nat.reduceAdd, Nat.reduceSub, Nat.reduceMul, Nat.reduceLeDiff, Nat.reduceLT, Nat.one_ne_zero, Nat.zero_ne_one, reduceIte, reduceCtorEq, bne_self_eq_false, decide_true, decide_false, Int.reduceToNat, Int.cast_ofNat_Int, Int.reduceLT, Int.reduceLE, Int.reduceEq, Int.reduceNeg, Int.reduceAdd, Int.reduceSub, f0, f5, f6, c1, hsl, a22, p0', z0, v1, v2, v3, v4, a23, a14, bslV, chunks, cell1, T.isAgg, List.replicate, List.flatten_cons, List.flatten_nil, List.append_nil, ap]
          repeat' ((with_reducible first | refine xG_dec ?_ ?_ | refine xG_ndec ?_ ?_ | refine xG_nsplit ?_ ?_ | refine xG_split ?_ ?_ | refine xC_dec ?_ ?_ | refine xC_ndec ?_ ?_ | refine xC_nsplit ?_ ?_ | refine xC_split ?_ ?_) <;> intro h <;> (try simp only [wCo, wFr, wOp, wBi, wLst, wLog, xB_other, Nat.reduceBEq, unT, loadP, storeP, partP, partT, partV, cellsP, mkAgg, allT, setRange, fillP, fieldA, indexS, indexA, indexV, indexStr, elems, lenP, pickV, cviV, nckV, extV, isNil, bound, close, close1, aft, retV, retSl, one, eqT, eqs, eq1, Nat.reduceEqDiff, Nat.reduceAdd, Nat.reduceSub, Nat.reduceMul, Nat.reduceLeDiff, Nat.reduceLT, Nat.one_ne_zero, Nat.zero_ne_one, reduceIte, reduceCtorEq, bne_self_eq_false, decide_true, decide_false, Int.reduceToNat, Int.cast_ofNat_Int, Int.reduceLT, Int.reduceLE, Int.reduceEq, Int.reduceNeg, Int.reduceAdd, Int.reduceSub, f0, f5, f6, c1, hsl, a22, p0', z0, v1, v2, v3, v4, a23, a14, bslV, chunks, cell1, T.isAgg, List.replicate, List.flatten_cons, List.flatten_nil, List.append_nil, ap, h]))
          exact fin _ _ (by simp only [FrAt_cons, FrAt_nil, wFr, Nat.reduceEqDiff, Nat.one_ne_zero, Nat.zero_ne_one, reduceIte, and_self, and_true, true_and, f0])
        | false =>
          rw [hk] at hn a23
          simp only [Bool.false_eq_true, if_false] at hn
          by_cases h24 : (24 : Int) < (w : Int)
          · rw [if_pos (by omega)] at hn
            simp only [wCo, wFr, wOp, wBi, wLst, wLog, xB_other, Nat.reduceBEq, unT, loadP, storeP, partP, partT, partV, cellsP, mkAgg, allT, setRange, fillP, fieldA, indexS, indexA, indexV, indexStr, elems, lenP, pickV, cviV, nckV, extV, isNil, bound, close, close1, aft, retV, retSl, one, eqT, eqs, eq1, Nat.reduceEqDiff, Nat.reduceAdd, Nat.reduceSub, Nat.reduceMul, Nat.reduceLeDiff, Nat.reduceLT, Nat.one_ne_zero, Nat.zero_ne_one, reduceIte, reduceCtorEq, bne_self_eq_false, decide_true, decide_false, Int.reduceToNat, Int.cast_ofNat_Int, Int.reduceLT, Int.reduceLE, Int.reduceEq, Int.reduceNeg, Int.reduceAdd, Int.reduceSub, f0, f5, f6, c1, hsl, a22, p0', z0, v1, v2, a23, h24]
            repeat' ((with_reducible first | refine xG_dec ?_ ?_ | refine xG_ndec ?_ ?_ | refine xG_nsplit ?_ ?_ | refine xG_split ?_ ?_ | refine xC_dec ?_ ?_ | refine xC_ndec ?_ ?_ | refine xC_nsplit ?_ ?_ | refine xC_split ?_ ?_) <;> intro h <;> (try simp only [wCo, wFr, wOp, wBi, wLst, wLog, xB_other, Nat.reduceBEq, unT, loadP, storeP, partP, partT, partV, cellsP, mkAgg, allT, setRange, fillP, fieldA, indexS, indexA, indexV, indexStr, elems, lenP, pickV, cviV, nckV, extV, isNil, bound, close, close1, aft, retV, retSl, one, eqT, eqs, eq1, Nat.reduceEqDiff, Nat.reduceAdd, Nat.reduceSub, Nat.reduceMul, Nat.reduceLeDiff, Nat.reduceLT, Nat.one_ne_zero, Nat.zero_ne_one, reduceIte, reduceCtorEq, bne_self_eq_false, decide_true, decide_false, Int.reduceToNat, Int.cast_ofNat_Int, Int.reduceLT, Int.reduceLE, Int.reduceEq, Int.reduceNeg, Int.reduceAdd, Int.reduceSub, f0, f5, f6, c1, hsl, a22, p0', z0, v1, v2, a23, h24, h]))
            exact bad _ hn _ _ _ (by simp only [FrAt_cons, FrAt_nil, wFr, Nat.reduceEqDiff, Nat.one_ne_zero, Nat.zero_ne_one, reduceIte, and_self, and_true, true_and]; exact rfl)
          · rw [if_neg (by omega)] at hn
            have ap := eap ⟨1, (c :: r).take w, 0, i⟩
            have fin := fin _ _ _ hn
            simp only [tTok, Int.cast_ofNat_Int] at ap
            generalize (c :: r).take w = tx at *
            simp only [wCo, wFr, wOp, wBi, wLst, wLog, xB_other, Nat.reduceBEq, unT, loadP, storeP, partP, partT, partV, cellsP, mkAgg, allT, setRange, fillP, fieldA, indexS, indexA, indexV, indexStr, elems, lenP, pickV, cviV, nckV, extV, isNil, bound, close, close1, aft, retV, retSl, one, eqT, eqs, eq1, Nat.reduceEqDiff, Nat.reduceAdd, Nat.reduceSub, Nat.reduceMul, Nat.reduceLeDiff, Nat.reduceLT, Nat.one_ne_zero, Nat.zero_ne_one, reduceIte, reduceCtorEq, bne_self_eq_false, decide_true, decide_false, Int.reduceToNat, Int.cast_ofNat_Int, Int.reduceLT, Int.reduceLE, Int.reduceEq, Int.reduceNeg, Int.reduceAdd, Int.reduceSub, f0, f5, f6, c1, hsl, a22, p0', z0, v1, v2, v3, v4, a23, h24, a14, bslV, chunks, cell1, T.isAgg, List.replicate, List.flatten_cons, List.flatten_nil, List.append_nil, ap]
            repeat' ((with_reducible first | refine xG_dec ?_ ?_ | refine xG_ndec ?_ ?_ | refine xG_nsplit ?_ ?_ | refine xG_split ?_ ?_ | refine xC_dec ?_ ?_ | refine xC_ndec ?_ ?_ | refine xC_nsplit ?_ ?_ | refine xC_split ?_ ?_) <;> intro h <;> (try simp only [wCo, wFr, wOp, wBi, wLst, wLog, xB_other, Nat.reduceBEq, unT, loadP, storeP, partP, partT, partV, cellsP, mkAgg, allT, setRange, fillP, fieldA, indexS, indexA, indexV, indexStr, elems, lenP, pickV, cviV, nckV, extV, isNil, bound, close, close1, aft, retV, retSl, one, eqT, eqs, eq1, Nat.reduceEqDiff, Nat.reduceAdd, Nat.reduceSub, Nat.reduceMul, Nat.reduceLeDiff, Nat.reduceLT, Nat.one_ne_zero, Nat.zero_ne_one, reduceIte, reduceCtorEq, bne_self_eq_false, decide_true, decide_false, Int.reduceToNat, Int.cast_ofNat_Int, Int.reduceLT, Int.reduceLE, Int.reduceEq, Int.reduceNeg, Int.reduceAdd, Int.reduceSub, f0, f5, f6, c1, hsl, a22, p0', z0, v1, v2, v3, v4, a23, h24, a14, bslV, chunks, cell1, T.isAgg, List.replicate, List.flatten_cons, List.flatten_nil, List.append_nil, ap, h]))
            exact fin _ _ (by simp only [FrAt_cons, FrAt_nil, wFr, Nat.reduceEqDiff, Nat.one_ne_zero, Nat.zero_ne_one, reduceIte, and_self, and_true, true_and, f0])
      | false =>
        have ew : wordN (c :: r) = 0 := by simp only [wordN, hL, Bool.false_eq_true, if_false]
        rw [ew] at a22
        simp only [Int.cast_ofNat_Int] at a22
        have a24 := @ok24 gl (c :: r) (by omega)
        have hsp := span_le isDig (c :: r)
        cases hD : isDig c with
        | true =>
          have hn := next_D (r := r) hL hD
          have hs1 : 1 ≤ span isDig (c :: r) := by simp only [span, hD, if_true]; omega
          have hov : numE (c :: r) = 0 → numV ((c :: r).take (span isDig (c :: r))) % 18446744073709551616 = numV ((c :: r).take (span isDig (c :: r))) := by
            intro h
            simp only [numE, ovf] at h
            split at h
            · omega
            · split at h
              · omega
              · exact Nat.mod_eq_of_lt (by omega)
          generalize hw : span isDig (c :: r) = w at *
          obtain ⟨v1, v2, v3, v4⟩ := adv w hsp
          have a14 := @a14 w
          have z0 : ¬ ((w : Int) = 0) := by omega
          by_cases he : numE (c :: r) = 0
          · rw [if_pos he] at hn
            rw [he, hov he] at a24
            simp only [Int.cast_ofNat_Int] at a24
            have ap := eap ⟨3, (c :: r).take w, numV ((c :: r).take w), i⟩
            have fin := fin _ _ _ hn
            simp only [tTok, Int.cast_ofNat_Int] at ap
            generalize numV ((c :: r).take w) = nv at *
            generalize (c :: r).take w = tx at *
            simp only [wCo, wFr, wOp, wBi, wLst, wLog, xB_other, Nat.reduceBEq, unT, loadP, storeP, partP, partT, partV, cellsP, mkAgg, allT, setRange, fillP, fieldA, indexS, indexA, indexV, indexStr, elems, lenP, pickV, cviV, nckV, extV, isNil, bound, close, close1, aft, retV, retSl, one, eqT, eqs, eq1, Nat.reduceEqDiff, Nat.reduceAdd, Nat.reduceSub, Nat.reduceMul, Nat.reduceLeDiff, Nat.reduceLT, Nat.one_ne_zero, Nat.zero_ne_one, reduceIte, reduceCtorEq, bne_self_eq_false, decide_true, decide_false, Int.reduceToNat, Int.cast_ofNat_Int, Int.reduceLT, Int.reduceLE, Int.reduceEq, Int.reduceNeg, Int.reduceAdd, Int.reduceSub, f0, f5, f6, c1, hsl, a22, a24, z0, v1, v2, v3, v4, a14, bslV, chunks, cell1, T.isAgg, List.replicate, List.flatten_cons, List.flatten_nil, List.append_nil, ap, Bool.not_true]
            repeat' ((with_reducible first | refine xG_dec ?_ ?_ | refine xG_ndec ?_ ?_ | refine xG_nsplit ?_ ?_ | refine xG_split ?_ ?_ | refine xC_dec ?_ ?_ | refine xC_ndec ?_ ?_ | refine xC_nsplit ?_ ?_ | refine xC_split ?_ ?_) <;> intro h <;> (try simp only [wCo, wFr, wOp, wBi, wLst, wLog, xB_other, Nat.reduceBEq, unT, loadP, storeP, partP, partT, partV, cellsP, mkAgg, allT, setRange, fillP, fieldA, indexS, indexA, indexV, indexStr, elems, lenP, pickV, cviV, nckV, extV, isNil, bound, close, close1, aft, retV, retSl, one, eqT, eqs, eq1, Nat.reduceEqDiff, Nat.reduceAdd, Nat.reduceSub, Nat.reduceMul, Nat.reduceLeDiff, Nat.reduceLT, Nat.one_ne_zero, Nat.zero_ne_one, reduceIte, reduceCtorEq, bne_self_eq_false, decide_true, decide_false, Int.reduceToNat, Int.cast_ofNat_Int, Int.reduceLT, Int.reduceLE, Int.reduceEq, Int.reduceNeg, Int.reduceAdd, Int.reduceSub, f0, f5, f6, c1, hsl, a22, a24, z0, v1, v2, v3, v4, a14, bslV, chunks, cell1, T.isAgg, List.replicate, List.flatten_cons, List.flatten_nil, List.append_nil, ap, Bool.not_true, h]))
            exact fin _ _ (by simp only [FrAt_cons, FrAt_nil, wFr, Nat.reduceEqDiff, Nat.one_ne_zero, Nat.zero_ne_one, reduceIte, and_self, and_true, true_and, f0])
          · rw [if_neg he] at hn
            have z1 : ¬ ((numE (c :: r) : Int) = 0) := by omega
            simp only [wCo, wFr, wOp, wBi, wLst, wLog, xB_other, Nat.reduceBEq, unT, loadP, storeP, partP, partT, partV, cellsP, mkAgg, allT, setRange, fillP, fieldA, indexS, indexA, indexV, indexStr, elems, lenP, pickV, cviV, nckV, extV, isNil, bound, close, close1, aft, retV, retSl, one, eqT, eqs, eq1, Nat.reduceEqDiff, Nat.reduceAdd, Nat.reduceSub, Nat.reduceMul, Nat.reduceLeDiff, Nat.reduceLT, Nat.one_ne_zero, Nat.zero_ne_one, reduceIte, reduceCtorEq, bne_self_eq_false, decide_true, decide_false, Int.reduceToNat, Int.cast_ofNat_Int, Int.reduceLT, Int.reduceLE, Int.reduceEq, Int.reduceNeg, Int.reduceAdd, Int.reduceSub, f0, f5, f6, c1, hsl, a22, a24, z1, Bool.not_false]
            repeat' ((with_reducible first | refine xG_dec ?_ ?_ | refine xG_ndec ?_ ?_ | refine xG_nsplit ?_ ?_ | refine xG_split ?_ ?_ | refine xC_dec ?_ ?_ | refine xC_ndec ?_ ?_ | refine xC_nsplit ?_ ?_ | refine xC_split ?_ ?_) <;> intro h <;> (try simp only [wCo, wFr, wOp, wBi, wLst, wLog, xB_other, Nat.reduceBEq, unT, loadP, storeP, partP, partT, partV, cellsP, mkAgg, allT, setRange, fillP, fieldA, indexS, indexA, indexV, indexStr, elems, lenP, pickV, cviV, nckV, extV, isNil, bound, close, close1, aft, retV, retSl, one, eqT, eqs, eq1, Nat.reduceEqDiff, Nat.reduceAdd, Nat.reduceSub, Nat.reduceMul, Nat.reduceLeDiff, Nat.reduceLT, Nat.one_ne_zero, Nat.zero_ne_one, reduceIte, reduceCtorEq, bne_self_eq_false, decide_true, decide_false, Int.reduceToNat, Int.cast_ofNat_Int, Int.reduceLT, Int.reduceLE, Int.reduceEq, Int.reduceNeg, Int.reduceAdd, Int.reduceSub, f0, f5, f6, c1, hsl, a22, a24, z1, Bool.not_false, h]))
            exact bad _ hn _ _ _ (by simp only [FrAt_cons, FrAt_nil, wFr, Nat.reduceEqDiff, Nat.one_ne_zero, Nat.zero_ne_one, reduceIte, and_self, and_true, true_and])
        | false =>
          have hn := next_S (r := r) hL hD
          have e0 : span isDig (c :: r) = 0 := by simp only [span, hD, Bool.false_eq_true, if_false]
          have e1 : numE (c :: r) = 0 := by simp [numE, e0, ovf, numV]
          have e2 : numV ((c :: r).take 0) % 18446744073709551616 = 0 := by simp [numV]
          rw [e1, e0, e2] at a24
          simp only [Int.cast_ofNat_Int] at a24
          have a25 := @ok25 gl (c :: r)
          by_cases hs : symF syms (c :: r) = 0
          · rw [if_pos hs] at hn
            rw [hs] at a25
            simp only [Int.cast_ofNat_Int] at a25
            simp only [wCo, wFr, wOp, wBi, wLst, wLog, xB_other, Nat.reduceBEq, unT, loadP, storeP, partP, partT, partV, cellsP, mkAgg, allT, setRange, fillP, fieldA, indexS, indexA, indexV, indexStr, elems, lenP, pickV, cviV, nckV, extV, isNil, bound, close, close1, aft, retV, retSl, one, eqT, eqs, eq1, Nat.reduceEqDiff, Nat.reduceAdd, Nat.reduceSub, Nat.reduceMul, Nat.reduceLeDiff, Nat.reduceLT, Nat.one_ne_zero, Nat.zero_ne_one, reduceIte, reduceCtorEq, bne_self_eq_false, decide_true, decide_false, Int.reduceToNat, Int.cast_ofNat_Int, Int.reduceLT, Int.reduceLE, Int.reduceEq, Int.reduceNeg, Int.reduceAdd, Int.reduceSub, f0, f5, f6, c1, hsl, a22, a24, a25, Bool.not_true]
            repeat' ((with_reducible first | refine xG_dec ?_ ?_ | refine xG_ndec ?_ ?_ | refine xG_nsplit ?_ ?_ | refine xG_split ?_ ?_ | refine xC_dec ?_ ?_ | refine xC_ndec ?_ ?_ | refine xC_nsplit ?_ ?_ | refine xC_split ?_ ?_) <;> intro h <;> (try simp only [wCo, wFr, wOp, wBi, wLst, wLog, xB_other, Nat.reduceBEq, unT, loadP, storeP, partP, partT, partV, cellsP, mkAgg, allT, setRange, fillP, fieldA, indexS, indexA, indexV, indexStr, elems, lenP, pickV, cviV, nckV, extV, isNil, bound, close, close1, aft, retV, retSl, one, eqT, eqs, eq1, Nat.reduceEqDiff, Nat.reduceAdd, Nat.reduceSub, Nat.reduceMul, Nat.reduceLeDiff, Nat.reduceLT, Nat.one_ne_zero, Nat.zero_ne_one, reduceIte, reduceCtorEq, bne_self_eq_false, decide_true, decide_false, Int.reduceToNat, Int.cast_ofNat_Int, Int.reduceLT, Int.reduceLE, Int.reduceEq, Int.reduceNeg, Int.reduceAdd, Int.reduceSub, f0, f5, f6, c1, hsl, a22, a24, a25, Bool.not_true, h]))
            exact bad _ hn _ _ _ (by simp only [FrAt_cons, FrAt_nil, wFr, Nat.reduceEqDiff, Nat.one_ne_zero, Nat.zero_ne_one, reduceIte, and_self, and_true, true_and]; exact rfl)
          · rw [if_neg hs] at hn
            have hp := next_pos hn
            generalize symF syms (c :: r) = w at *
            obtain ⟨v1, v2, v3, v4⟩ := adv w hp.2
            have a14 := @a14 w
            have z0 : ¬ ((w : Int) = 0) := by omega
            have ap := eap ⟨4, (c :: r).take w, 0, i⟩
            have fin := fin _ _ _ hn
            simp only [tTok, Int.cast_ofNat_Int] at ap
            generalize (c :: r).take w = tx at *
            simp only [wCo, wFr, wOp, wBi, wLst, wLog, xB_other, Nat.reduceBEq, unT, loadP, storeP, partP, partT, partV, cellsP, mkAgg, allT, setRange, fillP, fieldA, indexS, indexA, indexV, indexStr, elems, lenP, pickV, cviV, nckV, extV, isNil, bound, close, close1, aft, retV, retSl, one, eqT, eqs, eq1, Nat.reduceEqDiff, Nat.reduceAdd, Nat.reduceSub, Nat.reduceMul, Nat.reduceLeDiff, Nat.reduceLT, Nat.one_ne_zero, Nat.zero_ne_one, reduceIte, reduceCtorEq, bne_self_eq_false, decide_true, decide_false, Int.reduceToNat, Int.cast_ofNat_Int, Int.reduceLT, Int.reduceLE, Int.reduceEq, Int.reduceNeg, Int.reduceAdd, Int.reduceSub, f0, f5, f6, c1, hsl, a22, a24, a25, z0, v1, v2, v3, v4, a14, bslV, chunks, cell1, T.isAgg, List.replicate, List.flatten_cons, List.flatten_nil, List.append_nil, ap, Bool.not_true]
            repeat' ((with_reducible first | refine xG_dec ?_ ?_ | refine xG_ndec ?_ ?_ | refine xG_nsplit ?_ ?_ | refine xG_split ?_ ?_ | refine xC_dec ?_ ?_ | refine xC_ndec ?_ ?_ | refine xC_nsplit ?_ ?_ | refine xC_split ?_ ?_) <;> intro h <;> (try simp only [wCo, wFr, wOp, wBi, wLst, wLog, xB_other, Nat.reduceBEq, unT, loadP, storeP, partP, partT, partV, cellsP, mkAgg, allT, setRange, fillP, fieldA, indexS, indexA, indexV, indexStr, elems, lenP, pickV, cviV, nckV, extV, isNil, bound, close, close1, aft, retV, retSl, one, eqT, eqs, eq1, Nat.reduceEqDiff, Nat.reduceAdd, Nat.reduceSub, Nat.reduceMul, Nat.reduceLeDiff, Nat.reduceLT, Nat.one_ne_zero, Nat.zero_ne_one, reduceIte, reduceCtorEq, bne_self_eq_false, decide_true, decide_false, Int.reduceToNat, Int.cast_ofNat_Int, Int.reduceLT, Int.reduceLE, Int.reduceEq, Int.reduceNeg, Int.reduceAdd, Int.reduceSub, f0, f5, f6, c1, hsl, a22, a24, a25, z0, v1, v2, v3, v4, a14, bslV, chunks, cell1, T.isAgg, List.replicate, List.flatten_cons, List.flatten_nil, List.append_nil, ap, Bool.not_true, h]))
            exact fin _ _ (by simp only [FrAt_cons, FrAt_nil, wFr, Nat.reduceEqDiff, Nat.one_ne_zero, Nat.zero_ne_one, reduceIte, and_self, and_true, true_and, f0])
theorem ok12 (s : List UInt8) {K : PV → Prop} : XcP F gl 12 [.str s] K ⟨⟩ ↔ K (resV s) := by
  refine Ret.iff (Ret.of F12 rfl ?_)
  simp only [ir12]
  by_cases hb : 16384 < s.length
  · have c1 : (16384 : Int) < (s.length : Int) := by omega
    simp only [wCo, wFr, wOp, wBi, wLst, wLog, xB_other, Nat.reduceBEq, unT, loadP, storeP, partP, partT, partV, cellsP, mkAgg, allT, setRange, fillP, fieldA, indexS, indexA, indexV, indexStr, elems, lenP, pickV, cviV, nckV, extV, isNil, bound, close, close1, aft, retV, retSl, one, eqT, eqs, eq1, Nat.reduceEqDiff, Nat.reduceAdd, Nat.reduceSub, Nat.reduceMul, Nat.reduceLeDiff, Nat.reduceLT, Nat.one_ne_zero, Nat.zero_ne_one, reduceIte, reduceCtorEq, bne_self_eq_false, decide_true, decide_false, Int.reduceToNat, Int.cast_ofNat_Int, Int.reduceLT, Int.reduceLE, Int.reduceEq, Int.reduceNeg, Int.reduceAdd, Int.reduceSub, c1]
    repeat' ((with_reducible first | refine xG_dec ?_ ?_ | refine xG_ndec ?_ ?_ | refine xG_nsplit ?_ ?_ | refine xG_split ?_ ?_ | refine xC_dec ?_ ?_ | refine xC_ndec ?_ ?_ | refine xC_nsplit ?_ ?_ | refine xC_split ?_ ?_) <;> intro h <;> (try simp only [wCo, wFr, wOp, wBi, wLst, wLog, xB_other, Nat.reduceBEq, unT, loadP, storeP, partP, partT, partV, cellsP, mkAgg, allT, setRange, fillP, fieldA, indexS, indexA, indexV, indexStr, elems, lenP, pickV, cviV, nckV, extV, isNil, bound, close, close1, aft, retV, retSl, one, eqT, eqs, eq1, Nat.reduceEqDiff, Nat.reduceAdd, Nat.reduceSub, Nat.reduceMul, Nat.reduceLeDiff, Nat.reduceLT, Nat.one_ne_zero, Nat.zero_ne_one, reduceIte, reduceCtorEq, bne_self_eq_false, decide_true, decide_false, Int.reduceToNat, Int.cast_ofNat_Int, Int.reduceLT, Int.reduceLE, Int.reduceEq, Int.reduceNeg, Int.reduceAdd, Int.reduceSub, c1, h]))
    rw [resV_big hb]
  · have c1 : ¬ ((16384 : Int) < (s.length : Int)) := by omega
    have a14 := @ok14 gl s (by omega)
    simp only [wCo, wFr, wOp, wBi, wLst, wLog, xB_other, Nat.reduceBEq, unT, loadP, storeP, partP, partT, partV, cellsP, mkAgg, allT, setRange, fillP, fieldA, indexS, indexA, indexV, indexStr, elems, lenP, pickV, cviV, nckV, extV, isNil, bound, close, close1, aft, retV, retSl, one, eqT, eqs, eq1, Nat.reduceEqDiff, Nat.reduceAdd, Nat.reduceSub, Nat.reduceMul, Nat.reduceLeDiff, Nat.reduceLT, Nat.one_ne_zero, Nat.zero_ne_one, reduceIte, reduceCtorEq, bne_self_eq_false, decide_true, decide_false, Int.reduceToNat, Int.cast_ofNat_Int, Int.reduceLT, Int.reduceLE, Int.reduceEq, Int.reduceNeg, Int.reduceAdd, Int.reduceSub, c1, a14]
    repeat' ((with_reducible first | refine xG_dec ?_ ?_ | refine xG_ndec ?_ ?_ | refine xG_nsplit ?_ ?_ | refine xG_split ?_ ?_ | refine xC_dec ?_ ?_ | refine xC_ndec ?_ ?_ | refine xC_nsplit ?_ ?_ | refine xC_split ?_ ?_) <;> intro h <;> (try simp only [wCo, wFr, wOp, wBi, wLst, wLog, xB_other, Nat.reduceBEq, unT, loadP, storeP, partP, partT, partV, cellsP, mkAgg, allT, setRange, fillP, fieldA, indexS, indexA, indexV, indexStr, elems, lenP, pickV, cviV, nckV, extV, isNil, bound, close, close1, aft, retV, retSl, one, eqT, eqs, eq1, Nat.reduceEqDiff, Nat.reduceAdd, Nat.reduceSub, Nat.reduceMul, Nat.reduceLeDiff, Nat.reduceLT, Nat.one_ne_zero, Nat.zero_ne_one, reduceIte, reduceCtorEq, bne_self_eq_false, decide_true, decide_false, Int.reduceToNat, Int.cast_ofNat_Int, Int.reduceLT, Int.reduceLE, Int.reduceEq, Int.reduceNeg, Int.reduceAdd, Int.reduceSub, c1, a14, h]))
    refine loop12 (by omega) _ (s.drop 0).length 0 [] _ _ (Nat.le_refl _) (Nat.zero_le _) (Nat.le_refl _) (by simp only [FrAt_cons, FrAt_nil, wFr, Nat.reduceEqDiff, Nat.one_ne_zero, Nat.zero_ne_one, reduceIte, and_self, and_true, true_and, accV, List.drop_zero, Nat.zero_add]) ?_ ?_
    · intro l hll fr' sg' hf' hlen
      rw [List.drop_zero] at hll
      rw [List.nil_append] at hf' hlen ⊢
      simp only [FrAt_cons, FrAt_nil] at hf'
      obtain ⟨f0, f5, -⟩ := hf'
      have hlast := lexR_last _ _ _ _ rfl hll
      rw [Nat.zero_add] at hlast
      have eap := acc_app l.dropLast ⟨0, [], 0, s.length⟩ (by omega)
      simp only [tTok, Int.cast_ofNat_Int] at eap
      have hr := fun sg => accV_retSl sg l.dropLast ⟨0, [], 0, s.length⟩
      rw [← hlast] at eap hr
      simp only [wCo, wFr, wOp, wBi, wLst, wLog, xB_other, Nat.reduceBEq, unT, loadP, storeP, partP, partT, partV, cellsP, mkAgg, allT, setRange, fillP, fieldA, indexS, indexA, indexV, indexStr, elems, lenP, pickV, cviV, nckV, extV, isNil, bound, close, close1, aft, retV, retSl, one, eqT, eqs, eq1, Nat.reduceEqDiff, Nat.reduceAdd, Nat.reduceSub, Nat.reduceMul, Nat.reduceLeDiff, Nat.reduceLT, Nat.one_ne_zero, Nat.zero_ne_one, reduceIte, reduceCtorEq, bne_self_eq_false, decide_true, decide_false, Int.reduceToNat, Int.cast_ofNat_Int, Int.reduceLT, Int.reduceLE, Int.reduceEq, Int.reduceNeg, Int.reduceAdd, Int.reduceSub, f0, f5, bslV, chunks, cell1, T.isAgg, List.replicate, List.flatten_cons, List.flatten_nil, List.append_nil, eap]
      repeat' ((with_reducible first | refine xG_dec ?_ ?_ | refine xG_ndec ?_ ?_ | refine xG_nsplit ?_ ?_ | refine xG_split ?_ ?_ | refine xC_dec ?_ ?_ | refine xC_ndec ?_ ?_ | refine xC_nsplit ?_ ?_ | refine xC_split ?_ ?_) <;> intro h <;> (try simp only [wCo, wFr, wOp, wBi, wLst, wLog, xB_other, Nat.reduceBEq, unT, loadP, storeP, partP, partT, partV, cellsP, mkAgg, allT, setRange, fillP, fieldA, indexS, indexA, indexV, indexStr, elems, lenP, pickV, cviV, nckV, extV, isNil, bound, close, close1, aft, retV, retSl, one, eqT, eqs, eq1, Nat.reduceEqDiff, Nat.reduceAdd, Nat.reduceSub, Nat.reduceMul, Nat.reduceLeDiff, Nat.reduceLT, Nat.one_ne_zero, Nat.zero_ne_one, reduceIte, reduceCtorEq, bne_self_eq_false, decide_true, decide_false, Int.reduceToNat, Int.cast_ofNat_Int, Int.reduceLT, Int.reduceLE, Int.reduceEq, Int.reduceNeg, Int.reduceAdd, Int.reduceSub, f0, f5, bslV, chunks, cell1, T.isAgg, List.replicate, List.flatten_cons, List.flatten_nil, List.append_nil, eap, h]))
      rw [resV_toks hb hll]
      cases l with
      | nil => simp at hlast
      | cons t m => exact rfl
    · intro p e hee fr' sg' ow' hf'
      rw [List.drop_zero] at hee
      simp only [FrAt_cons, FrAt_nil] at hf'
      obtain ⟨f2, f3, f4, -⟩ := hf'
      simp only [wCo, wFr, wOp, wBi, wLst, wLog, xB_other, Nat.reduceBEq, unT, loadP, storeP, partP, partT, partV, cellsP, mkAgg, allT, setRange, fillP, fieldA, indexS, indexA, indexV, indexStr, elems, lenP, pickV, cviV, nckV, extV, isNil, bound, close, close1, aft, retV, retSl, one, eqT, eqs, eq1, Nat.reduceEqDiff, Nat.reduceAdd, Nat.reduceSub, Nat.reduceMul, Nat.reduceLeDiff, Nat.reduceLT, Nat.one_ne_zero, Nat.zero_ne_one, reduceIte, reduceCtorEq, bne_self_eq_false, decide_true, decide_false, Int.reduceToNat, Int.cast_ofNat_Int, Int.reduceLT, Int.reduceLE, Int.reduceEq, Int.reduceNeg, Int.reduceAdd, Int.reduceSub, f2, f3, f4]
      repeat' ((with_reducible first | refine xG_dec ?_ ?_ | refine xG_ndec ?_ ?_ | refine xG_nsplit ?_ ?_ | refine xG_split ?_ ?_ | refine xC_dec ?_ ?_ | refine xC_ndec ?_ ?_ | refine xC_nsplit ?_ ?_ | refine xC_split ?_ ?_) <;> intro h <;> (try simp only [wCo, wFr, wOp, wBi, wLst, wLog, xB_other, Nat.reduceBEq, unT, loadP, storeP, partP, partT, partV, cellsP, mkAgg, allT, setRange, fillP, fieldA, indexS, indexA, indexV, indexStr, elems, lenP, pickV, cviV, nckV, extV, isNil, bound, close, close1, aft, retV, retSl, one, eqT, eqs, eq1, Nat.reduceEqDiff, Nat.reduceAdd, Nat.reduceSub, Nat.reduceMul, Nat.reduceLeDiff, Nat.reduceLT, Nat.one_ne_zero, Nat.zero_ne_one, reduceIte, reduceCtorEq, bne_self_eq_false, decide_true, decide_false, Int.reduceToNat, Int.cast_ofNat_Int, Int.reduceLT, Int.reduceLE, Int.reduceEq, Int.reduceNeg, Int.reduceAdd, Int.reduceSub, f2, f3, f4, h]))
      rw [resV_err hb hee]
theorem law3 (hg : GlOk gl) (s : List UInt8) (hs : s.length ≤ 140737488355328) : Ret F gl 3 [.str s] (.t (.bool true)) := by
  refine Ret.of F3 rfl ?_
  simp only [ir3]
  have a10 := @ok10 gl hg
  have a11 := @ok11 gl hg s
  have a12 := @ok12 gl s
  have n13 : ∀ {K : PV → Prop}, XcP F gl 13 [.sl true [], .sl true []] K ⟨⟩ ↔ K (.t (.bool true)) := fun {K} => @ok13 gl true true [] (by simp) K
  by_cases s1 : (20000 : Int) < (s.length : Int)
  · simp only [wCo, wFr, wOp, wBi, wLst, wLog, xB_other, Nat.reduceBEq, unT, loadP, storeP, partP, partT, partV, cellsP, mkAgg, allT, setRange, fillP, fieldA, indexS, indexA, indexV, indexStr, elems, lenP, pickV, cviV, nckV, extV, isNil, bound, close, close1, aft, retV, retSl, one, eqT, eqs, eq1, Nat.reduceEqDiff, Nat.reduceAdd, Nat.reduceSub, Nat.reduceMul, Nat.reduceLeDiff, Nat.reduceLT, Nat.one_ne_zero, Nat.zero_ne_one, reduceIte, reduceCtorEq, bne_self_eq_false, decide_true, decide_false, Int.reduceToNat, Int.cast_ofNat_Int, Int.reduceLT, Int.reduceLE, Int.reduceEq, Int.reduceNeg, Int.reduceAdd, Int.reduceSub, a10, s1]
    repeat' ((with_reducible first | refine xG_dec ?_ ?_ | refine xG_ndec ?_ ?_ | refine xG_nsplit ?_ ?_ | refine xG_split ?_ ?_ | refine xC_dec ?_ ?_ | refine xC_ndec ?_ ?_ | refine xC_nsplit ?_ ?_ | refine xC_split ?_ ?_) <;> intro h <;> (try simp only [wCo, wFr, wOp, wBi, wLst, wLog, xB_other, Nat.reduceBEq, unT, loadP, storeP, partP, partT, partV, cellsP, mkAgg, allT, setRange, fillP, fieldA, indexS, indexA, indexV, indexStr, elems, lenP, pickV, cviV, nckV, extV, isNil, bound, close, close1, aft, retV, retSl, one, eqT, eqs, eq1, Nat.reduceEqDiff, Nat.reduceAdd, Nat.reduceSub, Nat.reduceMul, Nat.reduceLeDiff, Nat.reduceLT, Nat.one_ne_zero, Nat.zero_ne_one, reduceIte, reduceCtorEq, bne_self_eq_false, decide_true, decide_false, Int.reduceToNat, Int.cast_ofNat_Int, Int.reduceLT, Int.reduceLE, Int.reduceEq, Int.reduceNeg, Int.reduceAdd, Int.reduceSub, a10, s1, h]))
  · by_cases hb : 16384 < s.length
    · rw [resV_big hb] at a11 a12
      simp only [wCo, wFr, wOp, wBi, wLst, wLog, xB_other, Nat.reduceBEq, unT, loadP, storeP, partP, partT, partV, cellsP, mkAgg, allT, setRange, fillP, fieldA, indexS, indexA, indexV, indexStr, elems, lenP, pickV, cviV, nckV, extV, isNil, bound, close, close1, aft, retV, retSl, one, eqT, eqs, eq1, Nat.reduceEqDiff, Nat.reduceAdd, Nat.reduceSub, Nat.reduceMul, Nat.reduceLeDiff, Nat.reduceLT, Nat.one_ne_zero, Nat.zero_ne_one, reduceIte, reduceCtorEq, bne_self_eq_false, decide_true, decide_false, Int.reduceToNat, Int.cast_ofNat_Int, Int.reduceLT, Int.reduceLE, Int.reduceEq, Int.reduceNeg, Int.reduceAdd, Int.reduceSub, a10, s1, a11, a12, n13, BEq.rfl]
      repeat' ((with_reducible first | refine xG_dec ?_ ?_ | refine xG_ndec ?_ ?_ | refine xG_nsplit ?_ ?_ | refine xG_split ?_ ?_ | refine xC_dec ?_ ?_ | refine xC_ndec ?_ ?_ | refine xC_nsplit ?_ ?_ | refine xC_split ?_ ?_) <;> intro h <;> (try simp only [wCo, wFr, wOp, wBi, wLst, wLog, xB_other, Nat.reduceBEq, unT, loadP, storeP, partP, partT, partV, cellsP, mkAgg, allT, setRange, fillP, fieldA, indexS, indexA, indexV, indexStr, elems, lenP, pickV, cviV, nckV, extV, isNil, bound, close, close1, aft, retV, retSl, one, eqT, eqs, eq1, Nat.reduceEqDiff, Nat.reduceAdd, Nat.reduceSub, Nat.reduceMul, Nat.reduceLeDiff, Nat.reduceLT, Nat.one_ne_zero, Nat.zero_ne_one, reduceIte, reduceCtorEq, bne_self_eq_false, decide_true, decide_false, Int.reduceToNat, Int.cast_ofNat_Int, Int.reduceLT, Int.reduceLE, Int.reduceEq, Int.reduceNeg, Int.reduceAdd, Int.reduceSub, a10, s1, a11, a12, n13, BEq.rfl, h]))
    · rcases lex_two s with ⟨l, e1⟩ | ⟨p, e, e1⟩
      · rw [resV_toks hb e1] at a11 a12
        have l1 := lexR_len e1
        have a13 := @ok13 gl false false l (by omega)
        simp only [wCo, wFr, wOp, wBi, wLst, wLog, xB_other, Nat.reduceBEq, unT, loadP, storeP, partP, partT, partV, cellsP, mkAgg, allT, setRange, fillP, fieldA, indexS, indexA, indexV, indexStr, elems, lenP, pickV, cviV, nckV, extV, isNil, bound, close, close1, aft, retV, retSl, one, eqT, eqs, eq1, Nat.reduceEqDiff, Nat.reduceAdd, Nat.reduceSub, Nat.reduceMul, Nat.reduceLeDiff, Nat.reduceLT, Nat.one_ne_zero, Nat.zero_ne_one, reduceIte, reduceCtorEq, bne_self_eq_false, decide_true, decide_false, Int.reduceToNat, Int.cast_ofNat_Int, Int.reduceLT, Int.reduceLE, Int.reduceEq, Int.reduceNeg, Int.reduceAdd, Int.reduceSub, a10, s1, a11, a12, a13, BEq.rfl]
        repeat' ((with_reducible first | refine xG_dec ?_ ?_ | refine xG_ndec ?_ ?_ | refine xG_nsplit ?_ ?_ | refine xG_split ?_ ?_ | refine xC_dec ?_ ?_ | refine xC_ndec ?_ ?_ | refine xC_nsplit ?_ ?_ | refine xC_split ?_ ?_) <;> intro h <;> (try simp only [wCo, wFr, wOp, wBi, wLst, wLog, xB_other, Nat.reduceBEq, unT, loadP, storeP, partP, partT, partV, cellsP, mkAgg, allT, setRange, fillP, fieldA, indexS, indexA, indexV, indexStr, elems, lenP, pickV, cviV, nckV, extV, isNil, bound, close, close1, aft, retV, retSl, one, eqT, eqs, eq1, Nat.reduceEqDiff, Nat.reduceAdd, Nat.reduceSub, Nat.reduceMul, Nat.reduceLeDiff, Nat.reduceLT, Nat.one_ne_zero, Nat.zero_ne_one, reduceIte, reduceCtorEq, bne_self_eq_false, decide_true, decide_false, Int.reduceToNat, Int.cast_ofNat_Int, Int.reduceLT, Int.reduceLE, Int.reduceEq, Int.reduceNeg, Int.reduceAdd, Int.reduceSub, a10, s1, a11, a12, a13, BEq.rfl, h]))
      · rw [resV_err hb e1] at a11 a12
        simp only [wCo, wFr, wOp, wBi, wLst, wLog, xB_other, Nat.reduceBEq, unT, loadP, storeP, partP, partT, partV, cellsP, mkAgg, allT, setRange, fillP, fieldA, indexS, indexA, indexV, indexStr, elems, lenP, pickV, cviV, nckV, extV, isNil, bound, close, close1, aft, retV, retSl, one, eqT, eqs, eq1, Nat.reduceEqDiff, Nat.reduceAdd, Nat.reduceSub, Nat.reduceMul, Nat.reduceLeDiff, Nat.reduceLT, Nat.one_ne_zero, Nat.zero_ne_one, reduceIte, reduceCtorEq, bne_self_eq_false, decide_true, decide_false, Int.reduceToNat, Int.cast_ofNat_Int, Int.reduceLT, Int.reduceLE, Int.reduceEq, Int.reduceNeg, Int.reduceAdd, Int.reduceSub, a10, s1, a11, a12, n13, BEq.rfl]
        repeat' ((with_reducible first | refine xG_dec ?_ ?_ | refine xG_ndec ?_ ?_ | refine xG_nsplit ?_ ?_ | refine xG_split ?_ ?_ | refine xC_dec ?_ ?_ | refine xC_ndec ?_ ?_ | refine xC_nsplit ?_ ?_ | refine xC_split ?_ ?_) <;> intro h <;> (try simp only [wCo, wFr, wOp, wBi, wLst, wLog, xB_other, Nat.reduceBEq, unT, loadP, storeP, partP, partT, partV, cellsP, mkAgg, allT, setRange, fillP, fieldA, indexS, indexA, indexV, indexStr, elems, lenP, pickV, cviV, nckV, extV, isNil, bound, close, close1, aft, retV, retSl, one, eqT, eqs, eq1, Nat.reduceEqDiff, Nat.reduceAdd, Nat.reduceSub, Nat.reduceMul, Nat.reduceLeDiff, Nat.reduceLT, Nat.one_ne_zero, Nat.zero_ne_one, reduceIte, reduceCtorEq, bne_self_eq_false, decide_true, decide_false, Int.reduceToNat, Int.cast_ofNat_Int, Int.reduceLT, Int.reduceLE, Int.reduceEq, Int.reduceNeg, Int.reduceAdd, Int.reduceSub, a10, s1, a11, a12, n13, BEq.rfl, h]))
theorem args3 (hg : GlOk gl) : ∀ xs, ArgsT 140737488355328 [(false, [.str])] xs → ∃ n sg ow, pcall F gl n 3 (xs.map .t) [] [] = some (.t (.bool true), sg, ow) := by
  intro xs h
  obtain ⟨x, r, rfl, hx, h⟩ := argsT_cons h
  obtain rfl := argsT_nil h
  obtain ⟨a, rfl, ha⟩ := str_of hx
  exact CallP.law (law3 hg a ha)
end Go.Proofs.YtamkdkieffgpiaaDoor
