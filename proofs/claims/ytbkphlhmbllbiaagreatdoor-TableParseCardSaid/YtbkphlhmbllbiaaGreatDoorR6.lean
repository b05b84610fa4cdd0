/- Contracts of the reference's reader: Parse. -/
import Derived.Test.YtbkphlhmbllbiaaGreatDoorR5
set_option maxRecDepth 10000
set_option linter.unusedVariables false
set_option linter.unusedSimpArgs false
namespace Go.Proofs.YtbkphlhmbllbiaaGreatDoor
open Go.Pi
variable {gl : Nat → Option (List T)}
theorem furRow_len {s : List UInt8} : (furRow s).1.length ≤ s.length + 2 ∧ (furRow s).2.1.length ≤ s.length + 2 ∧ (furRow s).2.2.length ≤ s.length + 2 := by
  unfold furRow
  split
  · split
    · rename_i a b c he
      have hp := split_len (s.drop 4) [32, 124, 32]
      rw [he] at hp
      have h4 : (s.drop 4).length ≤ s.length := by rw [List.length_drop]; omega
      have one : ∀ x, x ∈ [a, b, c] → (lnD (linR x)).length ≤ s.length + 2 := by
        intro x hx
        have := hp x hx
        cases hl : linR x with
        | none => simp [lnD]
        | some l => have := (linR_W hl).2; simp only [lnD]; omega
      exact ⟨one a (by simp), one b (by simp), one c (by simp)⟩
    · simp
  · simp
set_option maxHeartbeats 2000000 in
theorem loop6 (h : Int × Int × Int) (hh : hV h = true) (L : List (List UInt8)) (hL : L.length ≤ 1000000) (hl : ∀ p, p ∈ L → p.length ≤ 900000) (Q : Ex → S → Prop) : ∀ (rest : List (List UInt8)) (i : Nat) (rows : List R3) (v : PV) (ow : Ow) (j : Sg) (fr : List PV), L.drop i = rest → rest ≠ [] → rows.length ≤ i → LstH v ow rows →
    FrAt fr [(2, .lp 0 0), (4, .own 0 1 (strsC L)), (5, .lp 1 0), (7, .t (.int .i64 i))] →
    (∀ k, goR (acc h) (i + 1) rows rest = .inl k → ∀ fr' j' ow', FrAt fr' [(2, .lp 0 0), (3, .t (.int .i64 (k : Nat)))] → Q .ret ⟨fr', (false, z4) :: j', ow'⟩) →
    (∀ rows' last, L.drop (L.length - 1) = [last] → goR (acc h) (i + 1) rows rest = (if last = [] then .inr rows' else .inl L.length) → ∀ fr' v' ow' j', LstH v' ow' rows' → FrAt fr' [(2, .lp 0 0), (4, .own 0 1 (strsC L)), (5, .lp 1 0)] → Q (.exit 0) ⟨fr', (false, z4) :: (false, [.t (.int .u64 h.1), .t (.int .i64 h.2.1), .t (.int .i64 h.2.2), v']) :: j', ow'⟩) →
    Xl F gl lb6_0 ⟨fr, (false, z4) :: (false, [.t (.int .u64 h.1), .t (.int .i64 h.2.1), .t (.int .i64 h.2.2), v]) :: j, ow⟩ Q ⟨⟩ := by
  intro rest
  induction rest with
  | nil => intro i rows v ow j fr hd hne; exact absurd rfl hne
  | cons t r ih =>
    intro i rows v ow j fr hd hne hrl hv hf h1 h2
    obtain ⟨hx, hr, hi'⟩ := drop_cons hd
    have ht := hl t (List.mem_of_getElem? hx)
    simp only [FrAt_cons, FrAt_nil] at hf
    obtain ⟨f2, f4, f5, f7, -⟩ := hf
    have wl : IntKind.i64.wrap ((L.length : Int) - 1) = (L.length : Int) - 1 := IntWalk.i64_in _ (by omega)
    have ci : (0 : Int) ≤ (i : Int) := by omega
    have hb := strsC_at hx
    refine Xl.step ?_
    simp only [lb6_0]
    by_cases hr0 : r = []
    · have hlen : i + 1 = L.length := by
        rw [hr0] at hr
        have := drop_nil' hr
        omega
      have c1 : ¬ ((i : Int) < (L.length : Int) - 1) := by omega
      simp only [wCo, wFr, wOp, wBi, wLst, wLog, xB_other, Nat.reduceBEq, unT, loadP, storeP, partP, partT, partV, cellsP, mkAgg, allT, setRange, fillP, fieldA, indexS, indexA, indexV, indexStr, elems, lenP, pickV, cviV, nckV, extV, isNil, bound, close, close1, aft, retV, retSl, Go.Pi.one, eqT, eqs, eq1, Nat.reduceEqDiff, Nat.reduceAdd, Nat.reduceSub, Nat.reduceMul, Nat.reduceLeDiff, Nat.reduceLT, Nat.one_ne_zero, Nat.zero_ne_one, reduceIte, reduceCtorEq, bne_self_eq_false, decide_true, decide_false, Int.reduceToNat, Int.cast_ofNat_Int, Int.reduceLT, Int.reduceLE, Int.reduceEq, Int.reduceNeg, Int.reduceAdd, Int.reduceSub, f2, f4, f5, f7, strsC_len, wl, c1]
      repeat' ((with_reducible first | refine xG_dec ?_ ?_ | refine xG_ndec ?_ ?_ | refine xG_nsplit ?_ ?_ | refine xG_split ?_ ?_ | refine xC_dec ?_ ?_ | refine xC_ndec ?_ ?_ | refine xC_nsplit ?_ ?_ | refine xC_split ?_ ?_) <;> intro h <;> (try simp only [wCo, wFr, wOp, wBi, wLst, wLog, xB_other, Nat.reduceBEq, unT, loadP, storeP, partP, partT, partV, cellsP, mkAgg, allT, setRange, fillP, fieldA, indexS, indexA, indexV, indexStr, elems, lenP, pickV, cviV, nckV, extV, isNil, bound, close, close1, aft, retV, retSl, Go.Pi.one, eqT, eqs, eq1, Nat.reduceEqDiff, Nat.reduceAdd, Nat.reduceSub, Nat.reduceMul, Nat.reduceLeDiff, Nat.reduceLT, Nat.one_ne_zero, Nat.zero_ne_one, reduceIte, reduceCtorEq, bne_self_eq_false, decide_true, decide_false, Int.reduceToNat, Int.cast_ofNat_Int, Int.reduceLT, Int.reduceLE, Int.reduceEq, Int.reduceNeg, Int.reduceAdd, Int.reduceSub, f2, f4, f5, f7, strsC_len, wl, c1, h]))
      refine h2 rows t (by rw [show L.length - 1 = i by omega, hd, hr0]) ?_ _ v ow _ hv (by simp only [FrAt_cons, FrAt_nil, wFr, Nat.reduceEqDiff, Nat.one_ne_zero, Nat.zero_ne_one, reduceIte, and_self, and_true, true_and, f2, f4, f5])
      rw [hr0]
      simp only [goR, if_true, hlen]
    · have hlen : i + 1 < L.length := by
        apply Classical.byContradiction
        intro hc
        exact hr0 (by rw [← hr]; exact List.drop_eq_nil_of_le (by omega))
      have c1 : (i : Int) < (L.length : Int) - 1 := by omega
      have hw1 : IntKind.wrap .i64 ((i : Int) + 1) = ((i + 1 : Nat) : Int) := by rw [IntWalk.i64_in _ (by omega)]; omega
      have hfu := @ok15 gl t ht
      have fl := @furRow_len t
      have hacc := acc_ref hh t
      simp only [goR, hr0, if_false] at h1 h2
      have vr0 : ∀ nl, XcP F gl 16 [tTab ⟨h.1, h.2.1, h.2.2, nl, rows.map rw3⟩, .agg (tRow (rw3 (furRow t)))] = _ := fun nl => rfl
      have vr := fun nl => @ok16 gl ⟨h.1, h.2.1, h.2.2, nl, rows.map rw3⟩ (rw3 (furRow t)) ⟨by simp only [rw3]; omega, by simp only [rw3]; omega, by simp only [rw3]; omega⟩
      clear vr0
      have hvr : vRow h.1 h.2.2 (rw3 (furRow t)) = vR h (furRow t) := rfl
      cases hfr : furR t with
      | none =>
        have ha : acc h t = none := by rw [hacc, hfr]; rfl
        rw [ha] at h1
        simp only [furV, hfr, Option.isSome_none, tRow, tLin, rw3] at hfu
        simp only [wCo, wFr, wOp, wBi, wLst, wLog, xB_other, Nat.reduceBEq, unT, loadP, storeP, partP, partT, partV, cellsP, mkAgg, allT, setRange, fillP, fieldA, indexS, indexA, indexV, indexStr, elems, lenP, pickV, cviV, nckV, extV, isNil, bound, close, close1, aft, retV, retSl, Go.Pi.one, eqT, eqs, eq1, Nat.reduceEqDiff, Nat.reduceAdd, Nat.reduceSub, Nat.reduceMul, Nat.reduceLeDiff, Nat.reduceLT, Nat.one_ne_zero, Nat.zero_ne_one, reduceIte, reduceCtorEq, bne_self_eq_false, decide_true, decide_false, Int.reduceToNat, Int.cast_ofNat_Int, Int.reduceLT, Int.reduceLE, Int.reduceEq, Int.reduceNeg, Int.reduceAdd, Int.reduceSub, f2, f4, f5, f7, strsC_len, wl, c1, ci, hb, hfu, hw1, Int.toNat_natCast]
        repeat' ((with_reducible first | refine xG_dec ?_ ?_ | refine xG_ndec ?_ ?_ | refine xG_nsplit ?_ ?_ | refine xG_split ?_ ?_ | refine xC_dec ?_ ?_ | refine xC_ndec ?_ ?_ | refine xC_nsplit ?_ ?_ | refine xC_split ?_ ?_) <;> intro h <;> (try simp only [wCo, wFr, wOp, wBi, wLst, wLog, xB_other, Nat.reduceBEq, unT, loadP, storeP, partP, partT, partV, cellsP, mkAgg, allT, setRange, fillP, fieldA, indexS, indexA, indexV, indexStr, elems, lenP, pickV, cviV, nckV, extV, isNil, bound, close, close1, aft, retV, retSl, Go.Pi.one, eqT, eqs, eq1, Nat.reduceEqDiff, Nat.reduceAdd, Nat.reduceSub, Nat.reduceMul, Nat.reduceLeDiff, Nat.reduceLT, Nat.one_ne_zero, Nat.zero_ne_one, reduceIte, reduceCtorEq, bne_self_eq_false, decide_true, decide_false, Int.reduceToNat, Int.cast_ofNat_Int, Int.reduceLT, Int.reduceLE, Int.reduceEq, Int.reduceNeg, Int.reduceAdd, Int.reduceSub, f2, f4, f5, f7, strsC_len, wl, c1, ci, hb, hfu, hw1, Int.toNat_natCast, h]))
        exact h1 (i + 1) rfl _ _ _ (by simp only [FrAt_cons, FrAt_nil, wFr, Nat.reduceEqDiff, Nat.one_ne_zero, Nat.zero_ne_one, reduceIte, and_self, and_true, true_and, f2])
      | some x =>
        have hrow := furRow_eq hfr
        rw [hrow] at vr hvr fl
        simp only [furV, hfr, hrow, Option.isSome_some, tRow, tLin, rw3] at hfu
        simp only [hvr] at vr
        cases hvx : vR h x with
        | false =>
          have ha : acc h t = none := by rw [hacc, hfr]; simp only [filt, hvx, Bool.false_eq_true, if_false]
          rw [ha] at h1
          rcases hv with ⟨rfl, rfl⟩ | ⟨k, rfl, hk, hne'⟩
          · have vr := @vr true
            simp only [hvx, tTab, tCells, tRow, tLin, rw3, List.map_nil] at vr
            simp only [wCo, wFr, wOp, wBi, wLst, wLog, xB_other, Nat.reduceBEq, unT, loadP, storeP, partP, partT, partV, cellsP, mkAgg, allT, setRange, fillP, fieldA, indexS, indexA, indexV, indexStr, elems, lenP, pickV, cviV, nckV, extV, isNil, bound, close, close1, aft, retV, retSl, Go.Pi.one, eqT, eqs, eq1, Nat.reduceEqDiff, Nat.reduceAdd, Nat.reduceSub, Nat.reduceMul, Nat.reduceLeDiff, Nat.reduceLT, Nat.one_ne_zero, Nat.zero_ne_one, reduceIte, reduceCtorEq, bne_self_eq_false, decide_true, decide_false, Int.reduceToNat, Int.cast_ofNat_Int, Int.reduceLT, Int.reduceLE, Int.reduceEq, Int.reduceNeg, Int.reduceAdd, Int.reduceSub, f2, f4, f5, f7, strsC_len, wl, c1, ci, hb, hfu, vr, hw1, Int.toNat_natCast]
            repeat' ((with_reducible first | refine xG_dec ?_ ?_ | refine xG_ndec ?_ ?_ | refine xG_nsplit ?_ ?_ | refine xG_split ?_ ?_ | refine xC_dec ?_ ?_ | refine xC_ndec ?_ ?_ | refine xC_nsplit ?_ ?_ | refine xC_split ?_ ?_) <;> intro h <;> (try simp only [wCo, wFr, wOp, wBi, wLst, wLog, xB_other, Nat.reduceBEq, unT, loadP, storeP, partP, partT, partV, cellsP, mkAgg, allT, setRange, fillP, fieldA, indexS, indexA, indexV, indexStr, elems, lenP, pickV, cviV, nckV, extV, isNil, bound, close, close1, aft, retV, retSl, Go.Pi.one, eqT, eqs, eq1, Nat.reduceEqDiff, Nat.reduceAdd, Nat.reduceSub, Nat.reduceMul, Nat.reduceLeDiff, Nat.reduceLT, Nat.one_ne_zero, Nat.zero_ne_one, reduceIte, reduceCtorEq, bne_self_eq_false, decide_true, decide_false, Int.reduceToNat, Int.cast_ofNat_Int, Int.reduceLT, Int.reduceLE, Int.reduceEq, Int.reduceNeg, Int.reduceAdd, Int.reduceSub, f2, f4, f5, f7, strsC_len, wl, c1, ci, hb, hfu, vr, hw1, Int.toNat_natCast, h]))
            exact h1 (i + 1) rfl _ _ _ (by simp only [FrAt_cons, FrAt_nil, wFr, Nat.reduceEqDiff, Nat.one_ne_zero, Nat.zero_ne_one, reduceIte, and_self, and_true, true_and, f2])
          · have vr := @vr false
            have hrc : (rows.map rw3).map tRow = rowsC rows := rfl
            simp only [tTab, tCells] at vr
            rw [hrc] at vr
            simp only [hvx, tRow, tLin, rw3] at vr
            simp only [wCo, wFr, wOp, wBi, wLst, wLog, xB_other, Nat.reduceBEq, unT, loadP, storeP, partP, partT, partV, cellsP, mkAgg, allT, setRange, fillP, fieldA, indexS, indexA, indexV, indexStr, elems, lenP, pickV, cviV, nckV, extV, isNil, bound, close, close1, aft, retV, retSl, Go.Pi.one, eqT, eqs, eq1, Nat.reduceEqDiff, Nat.reduceAdd, Nat.reduceSub, Nat.reduceMul, Nat.reduceLeDiff, Nat.reduceLT, Nat.one_ne_zero, Nat.zero_ne_one, reduceIte, reduceCtorEq, bne_self_eq_false, decide_true, decide_false, Int.reduceToNat, Int.cast_ofNat_Int, Int.reduceLT, Int.reduceLE, Int.reduceEq, Int.reduceNeg, Int.reduceAdd, Int.reduceSub, f2, f4, f5, f7, strsC_len, wl, c1, ci, hb, hfu, vr, hw1, Int.toNat_natCast]
            repeat' ((with_reducible first | refine xG_dec ?_ ?_ | refine xG_ndec ?_ ?_ | refine xG_nsplit ?_ ?_ | refine xG_split ?_ ?_ | refine xC_dec ?_ ?_ | refine xC_ndec ?_ ?_ | refine xC_nsplit ?_ ?_ | refine xC_split ?_ ?_) <;> intro h <;> (try simp only [wCo, wFr, wOp, wBi, wLst, wLog, xB_other, Nat.reduceBEq, unT, loadP, storeP, partP, partT, partV, cellsP, mkAgg, allT, setRange, fillP, fieldA, indexS, indexA, indexV, indexStr, elems, lenP, pickV, cviV, nckV, extV, isNil, bound, close, close1, aft, retV, retSl, Go.Pi.one, eqT, eqs, eq1, Nat.reduceEqDiff, Nat.reduceAdd, Nat.reduceSub, Nat.reduceMul, Nat.reduceLeDiff, Nat.reduceLT, Nat.one_ne_zero, Nat.zero_ne_one, reduceIte, reduceCtorEq, bne_self_eq_false, decide_true, decide_false, Int.reduceToNat, Int.cast_ofNat_Int, Int.reduceLT, Int.reduceLE, Int.reduceEq, Int.reduceNeg, Int.reduceAdd, Int.reduceSub, f2, f4, f5, f7, strsC_len, wl, c1, ci, hb, hfu, vr, hw1, Int.toNat_natCast, h]))
            exact h1 (i + 1) rfl _ _ _ (by simp only [FrAt_cons, FrAt_nil, wFr, Nat.reduceEqDiff, Nat.one_ne_zero, Nat.zero_ne_one, reduceIte, and_self, and_true, true_and, f2])
        | true =>
          have ha : acc h t = some x := by rw [hacc, hfr]; simp only [filt, hvx, if_true]
          rw [ha] at h1 h2
          simp only at h1 h2
          by_cases h16 : rows.length = 16384
          · have c16 : ((rows.length : Nat) : Int) = 16384 := by omega
            rw [if_pos h16] at h1
            rcases hv with ⟨rfl, rfl⟩ | ⟨k, rfl, hk, hne'⟩
            · simp at h16
            · have vr := @vr false
              have hrc : (rows.map rw3).map tRow = rowsC rows := rfl
              simp only [tTab, tCells] at vr
              rw [hrc] at vr
              simp only [hvx, tRow, tLin, rw3] at vr
              simp only [wCo, wFr, wOp, wBi, wLst, wLog, xB_other, Nat.reduceBEq, unT, loadP, storeP, partP, partT, partV, cellsP, mkAgg, allT, setRange, fillP, fieldA, indexS, indexA, indexV, indexStr, elems, lenP, pickV, cviV, nckV, extV, isNil, bound, close, close1, aft, retV, retSl, Go.Pi.one, eqT, eqs, eq1, Nat.reduceEqDiff, Nat.reduceAdd, Nat.reduceSub, Nat.reduceMul, Nat.reduceLeDiff, Nat.reduceLT, Nat.one_ne_zero, Nat.zero_ne_one, reduceIte, reduceCtorEq, bne_self_eq_false, decide_true, decide_false, Int.reduceToNat, Int.cast_ofNat_Int, Int.reduceLT, Int.reduceLE, Int.reduceEq, Int.reduceNeg, Int.reduceAdd, Int.reduceSub, f2, f4, f5, f7, strsC_len, wl, c1, ci, hb, hfu, vr, hw1, rowsC_len, c16, Int.toNat_natCast]
              repeat' ((with_reducible first | refine xG_dec ?_ ?_ | refine xG_ndec ?_ ?_ | refine xG_nsplit ?_ ?_ | refine xG_split ?_ ?_ | refine xC_dec ?_ ?_ | refine xC_ndec ?_ ?_ | refine xC_nsplit ?_ ?_ | refine xC_split ?_ ?_) <;> intro h <;> (try simp only [wCo, wFr, wOp, wBi, wLst, wLog, xB_other, Nat.reduceBEq, unT, loadP, storeP, partP, partT, partV, cellsP, mkAgg, allT, setRange, fillP, fieldA, indexS, indexA, indexV, indexStr, elems, lenP, pickV, cviV, nckV, extV, isNil, bound, close, close1, aft, retV, retSl, Go.Pi.one, eqT, eqs, eq1, Nat.reduceEqDiff, Nat.reduceAdd, Nat.reduceSub, Nat.reduceMul, Nat.reduceLeDiff, Nat.reduceLT, Nat.one_ne_zero, Nat.zero_ne_one, reduceIte, reduceCtorEq, bne_self_eq_false, decide_true, decide_false, Int.reduceToNat, Int.cast_ofNat_Int, Int.reduceLT, Int.reduceLE, Int.reduceEq, Int.reduceNeg, Int.reduceAdd, Int.reduceSub, f2, f4, f5, f7, strsC_len, wl, c1, ci, hb, hfu, vr, hw1, rowsC_len, c16, Int.toNat_natCast, h]))
              exact h1 (i + 1) rfl _ _ _ (by simp only [FrAt_cons, FrAt_nil, wFr, Nat.reduceEqDiff, Nat.one_ne_zero, Nat.zero_ne_one, reduceIte, and_self, and_true, true_and, f2])
          · have c16 : ¬ (((rows.length : Nat) : Int) = 16384) := by omega
            simp only [h16, if_false] at h1 h2
            obtain ⟨kk, ow', e1, e2⟩ := hv.app x (by omega)
            rcases hv with ⟨rfl, rfl⟩ | ⟨k, rfl, hk, hne'⟩
            · have vr := @vr true
              simp only [hvx, tTab, tCells, tRow, tLin, rw3, List.map_nil] at vr
              have c160 : ¬ ((0 : Int) = 16384) := by decide
              simp only [wCo, wFr, wOp, wBi, wLst, wLog, xB_other, Nat.reduceBEq, unT, loadP, storeP, partP, partT, partV, cellsP, mkAgg, allT, setRange, fillP, fieldA, indexS, indexA, indexV, indexStr, elems, lenP, pickV, cviV, nckV, extV, isNil, bound, close, close1, aft, retV, retSl, Go.Pi.one, eqT, eqs, eq1, Nat.reduceEqDiff, Nat.reduceAdd, Nat.reduceSub, Nat.reduceMul, Nat.reduceLeDiff, Nat.reduceLT, Nat.one_ne_zero, Nat.zero_ne_one, reduceIte, reduceCtorEq, bne_self_eq_false, decide_true, decide_false, Int.reduceToNat, Int.cast_ofNat_Int, Int.reduceLT, Int.reduceLE, Int.reduceEq, Int.reduceNeg, Int.reduceAdd, Int.reduceSub, f2, f4, f5, f7, strsC_len, wl, c1, ci, hb, hfu, vr, hw1, List.length_nil, c160, e1, Int.toNat_natCast, bslV, chunks, cell1, T.isAgg, List.replicate, List.flatten_cons, List.flatten_nil, List.append_nil]
              repeat' ((with_reducible first | refine xG_dec ?_ ?_ | refine xG_ndec ?_ ?_ | refine xG_nsplit ?_ ?_ | refine xG_split ?_ ?_ | refine xC_dec ?_ ?_ | refine xC_ndec ?_ ?_ | refine xC_nsplit ?_ ?_ | refine xC_split ?_ ?_) <;> intro h <;> (try simp only [wCo, wFr, wOp, wBi, wLst, wLog, xB_other, Nat.reduceBEq, unT, loadP, storeP, partP, partT, partV, cellsP, mkAgg, allT, setRange, fillP, fieldA, indexS, indexA, indexV, indexStr, elems, lenP, pickV, cviV, nckV, extV, isNil, bound, close, close1, aft, retV, retSl, Go.Pi.one, eqT, eqs, eq1, Nat.reduceEqDiff, Nat.reduceAdd, Nat.reduceSub, Nat.reduceMul, Nat.reduceLeDiff, Nat.reduceLT, Nat.one_ne_zero, Nat.zero_ne_one, reduceIte, reduceCtorEq, bne_self_eq_false, decide_true, decide_false, Int.reduceToNat, Int.cast_ofNat_Int, Int.reduceLT, Int.reduceLE, Int.reduceEq, Int.reduceNeg, Int.reduceAdd, Int.reduceSub, f2, f4, f5, f7, strsC_len, wl, c1, ci, hb, hfu, vr, hw1, List.length_nil, c160, e1, Int.toNat_natCast, bslV, chunks, cell1, T.isAgg, List.replicate, List.flatten_cons, List.flatten_nil, List.append_nil, h]))
              refine ih (i + 1) (_ ++ [x]) _ ow' _ _ hr hr0 (by rw [List.length_append, List.length_singleton]; omega) e2 ?_ h1 h2
              simp only [FrAt_cons, FrAt_nil, wFr, Nat.reduceEqDiff, Nat.one_ne_zero, Nat.zero_ne_one, reduceIte, and_self, and_true, true_and, f2, f4, f5]
            · have vr := @vr false
              have hrc : (rows.map rw3).map tRow = rowsC rows := rfl
              simp only [tTab, tCells] at vr
              rw [hrc] at vr
              simp only [hvx, tRow, tLin, rw3] at vr
              simp only [wCo, wFr, wOp, wBi, wLst, wLog, xB_other, Nat.reduceBEq, unT, loadP, storeP, partP, partT, partV, cellsP, mkAgg, allT, setRange, fillP, fieldA, indexS, indexA, indexV, indexStr, elems, lenP, pickV, cviV, nckV, extV, isNil, bound, close, close1, aft, retV, retSl, Go.Pi.one, eqT, eqs, eq1, Nat.reduceEqDiff, Nat.reduceAdd, Nat.reduceSub, Nat.reduceMul, Nat.reduceLeDiff, Nat.reduceLT, Nat.one_ne_zero, Nat.zero_ne_one, reduceIte, reduceCtorEq, bne_self_eq_false, decide_true, decide_false, Int.reduceToNat, Int.cast_ofNat_Int, Int.reduceLT, Int.reduceLE, Int.reduceEq, Int.reduceNeg, Int.reduceAdd, Int.reduceSub, f2, f4, f5, f7, strsC_len, wl, c1, ci, hb, hfu, vr, hw1, rowsC_len, c16, e1, Int.toNat_natCast, bslV, chunks, cell1, T.isAgg, List.replicate, List.flatten_cons, List.flatten_nil, List.append_nil]
              repeat' ((with_reducible first | refine xG_dec ?_ ?_ | refine xG_ndec ?_ ?_ | refine xG_nsplit ?_ ?_ | refine xG_split ?_ ?_ | refine xC_dec ?_ ?_ | refine xC_ndec ?_ ?_ | refine xC_nsplit ?_ ?_ | refine xC_split ?_ ?_) <;> intro h <;> (try simp only [wCo, wFr, wOp, wBi, wLst, wLog, xB_other, Nat.reduceBEq, unT, loadP, storeP, partP, partT, partV, cellsP, mkAgg, allT, setRange, fillP, fieldA, indexS, indexA, indexV, indexStr, elems, lenP, pickV, cviV, nckV, extV, isNil, bound, close, close1, aft, retV, retSl, Go.Pi.one, eqT, eqs, eq1, Nat.reduceEqDiff, Nat.reduceAdd, Nat.reduceSub, Nat.reduceMul, Nat.reduceLeDiff, Nat.reduceLT, Nat.one_ne_zero, Nat.zero_ne_one, reduceIte, reduceCtorEq, bne_self_eq_false, decide_true, decide_false, Int.reduceToNat, Int.cast_ofNat_Int, Int.reduceLT, Int.reduceLE, Int.reduceEq, Int.reduceNeg, Int.reduceAdd, Int.reduceSub, f2, f4, f5, f7, strsC_len, wl, c1, ci, hb, hfu, vr, hw1, rowsC_len, c16, e1, Int.toNat_natCast, bslV, chunks, cell1, T.isAgg, List.replicate, List.flatten_cons, List.flatten_nil, List.append_nil, h]))
              refine ih (i + 1) (_ ++ [x]) _ ow' _ _ hr hr0 (by rw [List.length_append, List.length_singleton]; omega) e2 ?_ h1 h2
              simp only [FrAt_cons, FrAt_nil, wFr, Nat.reduceEqDiff, Nat.one_ne_zero, Nat.zero_ne_one, reduceIte, and_self, and_true, true_and, f2, f4, f5]
theorem drop_last {L : List (List UInt8)} {last : List UInt8} (h : L.drop (L.length - 1) = [last]) : L[L.length - 1]? = some last := (drop_cons h).1
/-- What the reference's Parse answers. -/
def rpV (s : List UInt8) : PV := match parsT s with
  | .inl n => .tup [.t (tTab zTab), .t (.int .i64 n)]
  | .inr x => .tup [.t (tTab (tabOf x.1 x.2)), .t (.int .i64 0)]
set_option maxHeartbeats 2000000 in
theorem ok6 {s : List UInt8} (hs : s.length ≤ 900000) {K : PV → Prop} : XcP F gl 6 [.str s] K ⟨⟩ ↔ K (rpV s) := by
  refine Ret.iff (Ret.of F6 rfl ?_)
  simp only [ir6]
  have hcu := @ok13 gl s [10] (by simp) (by omega) (by simp)
  have hn := split_count s [10]
  have hp := split_len s [10]
  have hne := split_ne s
  have hpt : parsT s = match Lib.split s [10] with
    | [] => .inl 1
    | l0 :: rest => (match filt hV (sizesO l0) with
      | some h => if rest = [] then .inl 1 else (match goR (acc h) 2 [] rest with
        | .inl n => .inl n
        | .inr rows => .inr (h, rows))
      | none => .inl 1) := rfl
  generalize Lib.split s [10] = L at *
  match L, hne with
  | l0 :: rest, _ =>
    simp only at hpt
    have h0 := hp l0 (by simp)
    have hfs := @ok14 gl l0 (by omega)
    have hsame := head_same hV_ok l0
    have e0 : (strsC (l0 :: rest))[0]? = some [.str l0] := rfl
    cases hf : fstV hV l0 with
    | none =>
      rw [hsame, hf] at hpt
      simp only at hpt
      simp only [fsV, hf, Option.isSome_none, tTab, tCells] at hfs
      rw [rpV, hpt]
      simp only [wCo, wFr, wOp, wBi, wLst, wLog, xB_other, Nat.reduceBEq, unT, loadP, storeP, partP, partT, partV, cellsP, mkAgg, allT, setRange, fillP, fieldA, indexS, indexA, indexV, indexStr, elems, lenP, pickV, cviV, nckV, extV, isNil, bound, close, close1, aft, retV, retSl, Go.Pi.one, eqT, eqs, eq1, Nat.reduceEqDiff, Nat.reduceAdd, Nat.reduceSub, Nat.reduceMul, Nat.reduceLeDiff, Nat.reduceLT, Nat.one_ne_zero, Nat.zero_ne_one, reduceIte, reduceCtorEq, bne_self_eq_false, decide_true, decide_false, Int.reduceToNat, Int.cast_ofNat_Int, Int.reduceLT, Int.reduceLE, Int.reduceEq, Int.reduceNeg, Int.reduceAdd, Int.reduceSub, xR_cell2, hcu, hfs, e0]
      repeat' ((with_reducible first | refine xG_dec ?_ ?_ | refine xG_ndec ?_ ?_ | refine xG_nsplit ?_ ?_ | refine xG_split ?_ ?_ | refine xC_dec ?_ ?_ | refine xC_ndec ?_ ?_ | refine xC_nsplit ?_ ?_ | refine xC_split ?_ ?_) <;> intro h <;> (try simp only [wCo, wFr, wOp, wBi, wLst, wLog, xB_other, Nat.reduceBEq, unT, loadP, storeP, partP, partT, partV, cellsP, mkAgg, allT, setRange, fillP, fieldA, indexS, indexA, indexV, indexStr, elems, lenP, pickV, cviV, nckV, extV, isNil, bound, close, close1, aft, retV, retSl, Go.Pi.one, eqT, eqs, eq1, Nat.reduceEqDiff, Nat.reduceAdd, Nat.reduceSub, Nat.reduceMul, Nat.reduceLeDiff, Nat.reduceLT, Nat.one_ne_zero, Nat.zero_ne_one, reduceIte, reduceCtorEq, bne_self_eq_false, decide_true, decide_false, Int.reduceToNat, Int.cast_ofNat_Int, Int.reduceLT, Int.reduceLE, Int.reduceEq, Int.reduceNeg, Int.reduceAdd, Int.reduceSub, xR_cell2, hcu, hfs, e0, h]))
      rfl
    | some h =>
      obtain ⟨ft, hh⟩ := fst_tab hf
      rw [hsame, hf] at hpt
      simp only at hpt
      simp only [fsV, hf, ft, Option.isSome_some, tTab, tCells, List.map_nil] at hfs
      by_cases hr : rest = []
      · rw [if_pos hr] at hpt
        subst hr
        have c2 : (((strsC [l0]).length : Nat) : Int) < 2 := by simp [strsC]
        rw [rpV, hpt]
        simp only [wCo, wFr, wOp, wBi, wLst, wLog, xB_other, Nat.reduceBEq, unT, loadP, storeP, partP, partT, partV, cellsP, mkAgg, allT, setRange, fillP, fieldA, indexS, indexA, indexV, indexStr, elems, lenP, pickV, cviV, nckV, extV, isNil, bound, close, close1, aft, retV, retSl, Go.Pi.one, eqT, eqs, eq1, Nat.reduceEqDiff, Nat.reduceAdd, Nat.reduceSub, Nat.reduceMul, Nat.reduceLeDiff, Nat.reduceLT, Nat.one_ne_zero, Nat.zero_ne_one, reduceIte, reduceCtorEq, bne_self_eq_false, decide_true, decide_false, Int.reduceToNat, Int.cast_ofNat_Int, Int.reduceLT, Int.reduceLE, Int.reduceEq, Int.reduceNeg, Int.reduceAdd, Int.reduceSub, xR_cell2, hcu, hfs, e0, c2]
        repeat' ((with_reducible first | refine xG_dec ?_ ?_ | refine xG_ndec ?_ ?_ | refine xG_nsplit ?_ ?_ | refine xG_split ?_ ?_ | refine xC_dec ?_ ?_ | refine xC_ndec ?_ ?_ | refine xC_nsplit ?_ ?_ | refine xC_split ?_ ?_) <;> intro h <;> (try simp only [wCo, wFr, wOp, wBi, wLst, wLog, xB_other, Nat.reduceBEq, unT, loadP, storeP, partP, partT, partV, cellsP, mkAgg, allT, setRange, fillP, fieldA, indexS, indexA, indexV, indexStr, elems, lenP, pickV, cviV, nckV, extV, isNil, bound, close, close1, aft, retV, retSl, Go.Pi.one, eqT, eqs, eq1, Nat.reduceEqDiff, Nat.reduceAdd, Nat.reduceSub, Nat.reduceMul, Nat.reduceLeDiff, Nat.reduceLT, Nat.one_ne_zero, Nat.zero_ne_one, reduceIte, reduceCtorEq, bne_self_eq_false, decide_true, decide_false, Int.reduceToNat, Int.cast_ofNat_Int, Int.reduceLT, Int.reduceLE, Int.reduceEq, Int.reduceNeg, Int.reduceAdd, Int.reduceSub, xR_cell2, hcu, hfs, e0, c2, h]))
        rfl
      · rw [if_neg hr] at hpt
        have hlr : 1 ≤ rest.length := by
          cases rest with
          | nil => exact absurd rfl hr
          | cons x y => simp
        have c2 : ¬ ((((strsC (l0 :: rest)).length : Nat) : Int) < 2) := by rw [strsC_len, List.length_cons]; omega
        have w1 : IntKind.i64.wrap ((((strsC (l0 :: rest)).length : Nat) : Int) - 1) = (((l0 :: rest).length - 1 : Nat) : Int) := by
          rw [strsC_len, List.length_cons, IntWalk.i64_in _ (by rw [List.length_cons] at hn; omega)]; omega
        simp only [wCo, wFr, wOp, wBi, wLst, wLog, xB_other, Nat.reduceBEq, unT, loadP, storeP, partP, partT, partV, cellsP, mkAgg, allT, setRange, fillP, fieldA, indexS, indexA, indexV, indexStr, elems, lenP, pickV, cviV, nckV, extV, isNil, bound, close, close1, aft, retV, retSl, Go.Pi.one, eqT, eqs, eq1, Nat.reduceEqDiff, Nat.reduceAdd, Nat.reduceSub, Nat.reduceMul, Nat.reduceLeDiff, Nat.reduceLT, Nat.one_ne_zero, Nat.zero_ne_one, reduceIte, reduceCtorEq, bne_self_eq_false, decide_true, decide_false, Int.reduceToNat, Int.cast_ofNat_Int, Int.reduceLT, Int.reduceLE, Int.reduceEq, Int.reduceNeg, Int.reduceAdd, Int.reduceSub, xR_cell2, hcu, hfs, e0, c2]
        repeat' ((with_reducible first | refine xG_dec ?_ ?_ | refine xG_ndec ?_ ?_ | refine xG_nsplit ?_ ?_ | refine xG_split ?_ ?_ | refine xC_dec ?_ ?_ | refine xC_ndec ?_ ?_ | refine xC_nsplit ?_ ?_ | refine xC_split ?_ ?_) <;> intro h <;> (try simp only [wCo, wFr, wOp, wBi, wLst, wLog, xB_other, Nat.reduceBEq, unT, loadP, storeP, partP, partT, partV, cellsP, mkAgg, allT, setRange, fillP, fieldA, indexS, indexA, indexV, indexStr, elems, lenP, pickV, cviV, nckV, extV, isNil, bound, close, close1, aft, retV, retSl, Go.Pi.one, eqT, eqs, eq1, Nat.reduceEqDiff, Nat.reduceAdd, Nat.reduceSub, Nat.reduceMul, Nat.reduceLeDiff, Nat.reduceLT, Nat.one_ne_zero, Nat.zero_ne_one, reduceIte, reduceCtorEq, bne_self_eq_false, decide_true, decide_false, Int.reduceToNat, Int.cast_ofNat_Int, Int.reduceLT, Int.reduceLE, Int.reduceEq, Int.reduceNeg, Int.reduceAdd, Int.reduceSub, xR_cell2, hcu, hfs, e0, c2, h]))
        refine loop6 h hh (l0 :: rest) (by omega) (fun p hp' => by have := hp p hp'; omega) _ rest 1 [] (.t (.sl true [])) _ [] _ rfl hr (by simp) (.inl ⟨rfl, rfl⟩) (by simp only [FrAt_cons, FrAt_nil, wFr, Nat.reduceEqDiff, Nat.one_ne_zero, Nat.zero_ne_one, reduceIte, and_self, and_true, true_and] <;> try rfl) ?_ ?_
        · intro k hk fr' j' ow' hf'
          have hk' : goR (acc h) 2 [] rest = .inl k := hk
          rw [hk'] at hpt
          simp only [FrAt_cons, FrAt_nil] at hf'
          obtain ⟨g2, g3, -⟩ := hf'
          rw [rpV, hpt]
          simp only [wCo, wFr, wOp, wBi, wLst, wLog, xB_other, Nat.reduceBEq, unT, loadP, storeP, partP, partT, partV, cellsP, mkAgg, allT, setRange, fillP, fieldA, indexS, indexA, indexV, indexStr, elems, lenP, pickV, cviV, nckV, extV, isNil, bound, close, close1, aft, retV, retSl, Go.Pi.one, eqT, eqs, eq1, Nat.reduceEqDiff, Nat.reduceAdd, Nat.reduceSub, Nat.reduceMul, Nat.reduceLeDiff, Nat.reduceLT, Nat.one_ne_zero, Nat.zero_ne_one, reduceIte, reduceCtorEq, bne_self_eq_false, decide_true, decide_false, Int.reduceToNat, Int.cast_ofNat_Int, Int.reduceLT, Int.reduceLE, Int.reduceEq, Int.reduceNeg, Int.reduceAdd, Int.reduceSub, xR_cell2, g2, g3]
          repeat' ((with_reducible first | refine xG_dec ?_ ?_ | refine xG_ndec ?_ ?_ | refine xG_nsplit ?_ ?_ | refine xG_split ?_ ?_ | refine xC_dec ?_ ?_ | refine xC_ndec ?_ ?_ | refine xC_nsplit ?_ ?_ | refine xC_split ?_ ?_) <;> intro h <;> (try simp only [wCo, wFr, wOp, wBi, wLst, wLog, xB_other, Nat.reduceBEq, unT, loadP, storeP, partP, partT, partV, cellsP, mkAgg, allT, setRange, fillP, fieldA, indexS, indexA, indexV, indexStr, elems, lenP, pickV, cviV, nckV, extV, isNil, bound, close, close1, aft, retV, retSl, Go.Pi.one, eqT, eqs, eq1, Nat.reduceEqDiff, Nat.reduceAdd, Nat.reduceSub, Nat.reduceMul, Nat.reduceLeDiff, Nat.reduceLT, Nat.one_ne_zero, Nat.zero_ne_one, reduceIte, reduceCtorEq, bne_self_eq_false, decide_true, decide_false, Int.reduceToNat, Int.cast_ofNat_Int, Int.reduceLT, Int.reduceLE, Int.reduceEq, Int.reduceNeg, Int.reduceAdd, Int.reduceSub, xR_cell2, g2, g3, h]))
          rfl
        · intro rows' last hlast hk fr' v' ow' j' hv' hf'
          simp only [FrAt_cons, FrAt_nil] at hf'
          obtain ⟨g2, g4, g5, -⟩ := hf'
          have hla := strsC_at (drop_last hlast)
          simp only [List.length_cons] at hla
          have cn : (0 : Int) ≤ (((l0 :: rest).length - 1 : Nat) : Int) := by omega
          have hk' : goR (acc h) 2 [] rest = if last = [] then .inr rows' else .inl (l0 :: rest).length := hk
          by_cases hl0 : last = []
          · rw [if_pos hl0] at hk'
            rw [hk'] at hpt
            simp only at hpt
            rw [rpV, hpt]
            subst hl0
            rcases hv' with ⟨rfl, rfl⟩ | ⟨k, rfl, hk2, hne'⟩
            · simp only [wCo, wFr, wOp, wBi, wLst, wLog, xB_other, Nat.reduceBEq, unT, loadP, storeP, partP, partT, partV, cellsP, mkAgg, allT, setRange, fillP, fieldA, indexS, indexA, indexV, indexStr, elems, lenP, pickV, cviV, nckV, extV, isNil, bound, close, close1, aft, retV, retSl, Go.Pi.one, eqT, eqs, eq1, Nat.reduceEqDiff, Nat.reduceAdd, Nat.reduceSub, Nat.reduceMul, Nat.reduceLeDiff, Nat.reduceLT, Nat.one_ne_zero, Nat.zero_ne_one, reduceIte, reduceCtorEq, bne_self_eq_false, decide_true, decide_false, Int.reduceToNat, Int.cast_ofNat_Int, Int.reduceLT, Int.reduceLE, Int.reduceEq, Int.reduceNeg, Int.reduceAdd, Int.reduceSub, xR_cell2, g2, g4, g5, w1, hla, cn, Int.toNat_natCast]
              repeat' ((with_reducible first | refine xG_dec ?_ ?_ | refine xG_ndec ?_ ?_ | refine xG_nsplit ?_ ?_ | refine xG_split ?_ ?_ | refine xC_dec ?_ ?_ | refine xC_ndec ?_ ?_ | refine xC_nsplit ?_ ?_ | refine xC_split ?_ ?_) <;> intro h <;> (try simp only [wCo, wFr, wOp, wBi, wLst, wLog, xB_other, Nat.reduceBEq, unT, loadP, storeP, partP, partT, partV, cellsP, mkAgg, allT, setRange, fillP, fieldA, indexS, indexA, indexV, indexStr, elems, lenP, pickV, cviV, nckV, extV, isNil, bound, close, close1, aft, retV, retSl, Go.Pi.one, eqT, eqs, eq1, Nat.reduceEqDiff, Nat.reduceAdd, Nat.reduceSub, Nat.reduceMul, Nat.reduceLeDiff, Nat.reduceLT, Nat.one_ne_zero, Nat.zero_ne_one, reduceIte, reduceCtorEq, bne_self_eq_false, decide_true, decide_false, Int.reduceToNat, Int.cast_ofNat_Int, Int.reduceLT, Int.reduceLE, Int.reduceEq, Int.reduceNeg, Int.reduceAdd, Int.reduceSub, xR_cell2, g2, g4, g5, w1, hla, cn, Int.toNat_natCast, h]))
              rfl
            · have he : rows'.isEmpty = false := by cases rows' with
                | nil => exact absurd rfl hne'
                | cons x y => rfl
              simp only [wCo, wFr, wOp, wBi, wLst, wLog, xB_other, Nat.reduceBEq, unT, loadP, storeP, partP, partT, partV, cellsP, mkAgg, allT, setRange, fillP, fieldA, indexS, indexA, indexV, indexStr, elems, lenP, pickV, cviV, nckV, extV, isNil, bound, close, close1, aft, retV, retSl, Go.Pi.one, eqT, eqs, eq1, Nat.reduceEqDiff, Nat.reduceAdd, Nat.reduceSub, Nat.reduceMul, Nat.reduceLeDiff, Nat.reduceLT, Nat.one_ne_zero, Nat.zero_ne_one, reduceIte, reduceCtorEq, bne_self_eq_false, decide_true, decide_false, Int.reduceToNat, Int.cast_ofNat_Int, Int.reduceLT, Int.reduceLE, Int.reduceEq, Int.reduceNeg, Int.reduceAdd, Int.reduceSub, xR_cell2, g2, g4, g5, w1, hla, cn, Int.toNat_natCast]
              repeat' ((with_reducible first | refine xG_dec ?_ ?_ | refine xG_ndec ?_ ?_ | refine xG_nsplit ?_ ?_ | refine xG_split ?_ ?_ | refine xC_dec ?_ ?_ | refine xC_ndec ?_ ?_ | refine xC_nsplit ?_ ?_ | refine xC_split ?_ ?_) <;> intro h <;> (try simp only [wCo, wFr, wOp, wBi, wLst, wLog, xB_other, Nat.reduceBEq, unT, loadP, storeP, partP, partT, partV, cellsP, mkAgg, allT, setRange, fillP, fieldA, indexS, indexA, indexV, indexStr, elems, lenP, pickV, cviV, nckV, extV, isNil, bound, close, close1, aft, retV, retSl, Go.Pi.one, eqT, eqs, eq1, Nat.reduceEqDiff, Nat.reduceAdd, Nat.reduceSub, Nat.reduceMul, Nat.reduceLeDiff, Nat.reduceLT, Nat.one_ne_zero, Nat.zero_ne_one, reduceIte, reduceCtorEq, bne_self_eq_false, decide_true, decide_false, Int.reduceToNat, Int.cast_ofNat_Int, Int.reduceLT, Int.reduceLE, Int.reduceEq, Int.reduceNeg, Int.reduceAdd, Int.reduceSub, xR_cell2, g2, g4, g5, w1, hla, cn, Int.toNat_natCast, h]))
              simp [tTab, tCells, tabOf, he, rowsC]
          · rw [if_neg hl0] at hk'
            rw [hk'] at hpt
            simp only at hpt
            rw [rpV, hpt]
            simp only [wCo, wFr, wOp, wBi, wLst, wLog, xB_other, Nat.reduceBEq, unT, loadP, storeP, partP, partT, partV, cellsP, mkAgg, allT, setRange, fillP, fieldA, indexS, indexA, indexV, indexStr, elems, lenP, pickV, cviV, nckV, extV, isNil, bound, close, close1, aft, retV, retSl, Go.Pi.one, eqT, eqs, eq1, Nat.reduceEqDiff, Nat.reduceAdd, Nat.reduceSub, Nat.reduceMul, Nat.reduceLeDiff, Nat.reduceLT, Nat.one_ne_zero, Nat.zero_ne_one, reduceIte, reduceCtorEq, bne_self_eq_false, decide_true, decide_false, Int.reduceToNat, Int.cast_ofNat_Int, Int.reduceLT, Int.reduceLE, Int.reduceEq, Int.reduceNeg, Int.reduceAdd, Int.reduceSub, xR_cell2, g2, g4, g5, w1, hla, cn, hl0, Int.toNat_natCast]
            repeat' ((with_reducible first | refine xG_dec ?_ ?_ | refine xG_ndec ?_ ?_ | refine xG_nsplit ?_ ?_ | refine xG_split ?_ ?_ | refine xC_dec ?_ ?_ | refine xC_ndec ?_ ?_ | refine xC_nsplit ?_ ?_ | refine xC_split ?_ ?_) <;> intro h <;> (try simp only [wCo, wFr, wOp, wBi, wLst, wLog, xB_other, Nat.reduceBEq, unT, loadP, storeP, partP, partT, partV, cellsP, mkAgg, allT, setRange, fillP, fieldA, indexS, indexA, indexV, indexStr, elems, lenP, pickV, cviV, nckV, extV, isNil, bound, close, close1, aft, retV, retSl, Go.Pi.one, eqT, eqs, eq1, Nat.reduceEqDiff, Nat.reduceAdd, Nat.reduceSub, Nat.reduceMul, Nat.reduceLeDiff, Nat.reduceLT, Nat.one_ne_zero, Nat.zero_ne_one, reduceIte, reduceCtorEq, bne_self_eq_false, decide_true, decide_false, Int.reduceToNat, Int.cast_ofNat_Int, Int.reduceLT, Int.reduceLE, Int.reduceEq, Int.reduceNeg, Int.reduceAdd, Int.reduceSub, xR_cell2, g2, g4, g5, w1, hla, cn, hl0, Int.toNat_natCast, h]))
            rw [strsC_len]
            rfl
end Go.Proofs.YtbkphlhmbllbiaaGreatDoor
