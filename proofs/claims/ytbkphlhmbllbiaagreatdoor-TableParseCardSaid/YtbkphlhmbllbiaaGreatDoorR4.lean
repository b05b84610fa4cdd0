/- Contracts of the reference's reader: further, first. -/
import Derived.Test.YtbkphlhmbllbiaaGreatDoorR3
set_option maxRecDepth 10000
set_option linter.unusedVariables false
set_option linter.unusedSimpArgs false
namespace Go.Proofs.YtbkphlhmbllbiaaGreatDoor
open Go.Pi
variable {gl : Nat → Option (List T)}
theorem xR_cell2 {k l n : Nat} {ag : Bool} {K : PV → Sg → Ow → Prop} {s : S} : xR gl [(k, some (ag, n)), (l, none)] K ⟨⟩ .ret s ↔ xO (loadP gl s.sg ag n (fget s.fr k)) (fun v => K (.tup [v, fget s.fr l]) s.sg s.ow) ⟨⟩ := by
  show resK gl [(k, some (ag, n)), (l, none)] K .ret s ↔ onO (loadP gl s.sg ag n (fget s.fr k)) (fun v => K (.tup [v, fget s.fr l]) s.sg s.ow)
  simp only [resK, resAll, List.mapM_cons, resOne, List.mapM_nil]
  cases loadP gl s.sg ag n (fget s.fr k) <;> rfl
def lnD (o : Option LN) : LN := match o with
  | some l => l
  | none => []
/-- The row that further hands back. -/
def furRow (s : List UInt8) : R3 := if s.take 4 = [114, 111, 119, 32] then (match Lib.split (s.drop 4) [32, 124, 32] with
  | [a, b, c] => (lnD (linR a), lnD (linR b), lnD (linR c))
  | _ => ([], [], [])) else ([], [], [])
theorem furRow_eq {s : List UInt8} {r : R3} (h : furR s = some r) : furRow s = r := by
  unfold furR row3 at h
  unfold furRow
  split at h
  · rename_i r' hr
    split at h
    · injection h with h
      subst h
      split at hr
      · rename_i ht
        rw [if_pos ht]
        split at hr
        · rename_i a b c hs
          rw [hs]
          split at hr
          · rename_i x y z hx hy hz
            injection hr with hr
            subst hr
            simp only [hx, hy, hz, lnD]
          · cases hr
        · cases hr
      · cases hr
    · cases h
  · cases h
def furV (s : List UInt8) : PV := .tup [.t (.agg (tRow (rw3 (furRow s)))), .t (.bool (furR s).isSome)]
theorem app10 {a b : List UInt8} : (a ++ [(10 : UInt8)] = b ++ [10]) ↔ a = b := by
  constructor
  · intro h
    exact List.append_cancel_right h
  · intro h; rw [h]
theorem slice4 {s : List UInt8} (h : ¬ s.length < 4) : sliceS (.t (.str s)) none (some (.t (.int .i64 4))) = some (.t (.str (s.take 4))) := by
  have h4 : 4 ≤ s.length := by omega
  have t4 : (4 : Int).toNat = 4 := rfl
  simp only [sliceS, bound, t4, h4, Nat.zero_le, and_self, if_true, List.drop_zero, Int.reduceLE]
theorem slice4' {s : List UInt8} (h : ¬ s.length < 4) : sliceS (.t (.str s)) (some (.t (.int .i64 4))) none = some (.t (.str (s.drop 4))) := by
  have h4 : 4 ≤ s.length := by omega
  have t4 : (4 : Int).toNat = 4 := rfl
  simp only [sliceS, bound, t4, h4, Nat.le_refl, and_self, if_true, List.take_length, Int.reduceLE]
set_option maxHeartbeats 2000000 in
theorem ok15 {s : List UInt8} (hs : s.length ≤ 900000) {K : PV → Prop} : XcP F gl 15 [.str s] K ⟨⟩ ↔ K (furV s) := by
  refine Ret.iff (Ret.of F15 rfl ?_)
  simp only [ir15]
  have bad : ∀ (P : Prop), ¬ s.take 4 = [114, 111, 119, 32] → furV s = .tup [.t (.agg [.sl true [], .sl true [], .sl true []]), .t (.bool false)] := by
    intro _ h
    have e1 : furRow s = ([], [], []) := by rw [furRow, if_neg h]
    have e2 : furR s = none := by rw [furR, row3, if_neg h]
    rw [furV, e1, e2]
    rfl
  by_cases hl4 : s.length < 4
  · have c : (s.length : Int) < 4 := by omega
    have hne : ¬ s.take 4 = [114, 111, 119, 32] := by
      intro e
      have := congrArg List.length e
      rw [List.length_take] at this
      simp at this
      omega
    rw [bad True hne]
    simp only [wCo, wFr, wOp, wBi, wLst, wLog, xB_other, Nat.reduceBEq, unT, loadP, storeP, partP, partT, partV, cellsP, mkAgg, allT, setRange, fillP, fieldA, indexS, indexA, indexV, indexStr, elems, lenP, pickV, cviV, nckV, extV, isNil, bound, close, close1, aft, retV, retSl, Go.Pi.one, eqT, eqs, eq1, Nat.reduceEqDiff, Nat.reduceAdd, Nat.reduceSub, Nat.reduceMul, Nat.reduceLeDiff, Nat.reduceLT, Nat.one_ne_zero, Nat.zero_ne_one, reduceIte, reduceCtorEq, bne_self_eq_false, decide_true, decide_false, Int.reduceToNat, Int.cast_ofNat_Int, Int.reduceLT, Int.reduceLE, Int.reduceEq, Int.reduceNeg, Int.reduceAdd, Int.reduceSub, xR_cell2, c]
    repeat' ((with_reducible first | refine xG_dec ?_ ?_ | refine xG_ndec ?_ ?_ | refine xG_nsplit ?_ ?_ | refine xG_split ?_ ?_ | refine xC_dec ?_ ?_ | refine xC_ndec ?_ ?_ | refine xC_nsplit ?_ ?_ | refine xC_split ?_ ?_) <;> intro h <;> (try simp only [wCo, wFr, wOp, wBi, wLst, wLog, xB_other, Nat.reduceBEq, unT, loadP, storeP, partP, partT, partV, cellsP, mkAgg, allT, setRange, fillP, fieldA, indexS, indexA, indexV, indexStr, elems, lenP, pickV, cviV, nckV, extV, isNil, bound, close, close1, aft, retV, retSl, Go.Pi.one, eqT, eqs, eq1, Nat.reduceEqDiff, Nat.reduceAdd, Nat.reduceSub, Nat.reduceMul, Nat.reduceLeDiff, Nat.reduceLT, Nat.one_ne_zero, Nat.zero_ne_one, reduceIte, reduceCtorEq, bne_self_eq_false, decide_true, decide_false, Int.reduceToNat, Int.cast_ofNat_Int, Int.reduceLT, Int.reduceLE, Int.reduceEq, Int.reduceNeg, Int.reduceAdd, Int.reduceSub, xR_cell2, c, h]))
  · have c : ¬ ((s.length : Int) < 4) := by omega
    have s4 := slice4 hl4
    have s4' := slice4' hl4
    by_cases hne : s.take 4 = [114, 111, 119, 32]
    · have hcu := @ok13 gl (s.drop 4) [32, 124, 32] (by simp) (by rw [List.length_drop]; omega) (by simp)
      have hp := split_len (s.drop 4) [32, 124, 32]
      have hdl : (s.drop 4).length ≤ 900000 := by rw [List.length_drop]; omega
      have hfr : furRow s = (match Lib.split (s.drop 4) [32, 124, 32] with
        | [a, b, c] => (lnD (linR a), lnD (linR b), lnD (linR c))
        | _ => ([], [], [])) := by rw [furRow, if_pos hne]
      have hfu : furR s = (match (match Lib.split (s.drop 4) [32, 124, 32] with
        | [a, b, c] => (match linR a, linR b, linR c with
          | some x, some y, some z => some (x, y, z)
          | _, _, _ => none)
        | _ => none) with
        | some r => if rowX r = s then some r else none
        | none => none) := by rw [furR, row3, if_pos hne]; rfl
      generalize Lib.split (s.drop 4) [32, 124, 32] = ps at *
      by_cases h3 : ps.length = 3
      · match ps, h3 with
        | [a, b, c'], _ =>
          simp only at hfr hfu
          have pa := @ok37 gl a (by have := hp a (by simp); omega)
          have pb := @ok37 gl b (by have := hp b (by simp); omega)
          have pc := @ok37 gl c' (by have := hp c' (by simp); omega)
          have la := hp a (by simp)
          have lb := hp b (by simp)
          have lc := hp c' (by simp)
          have e3 : strsC [a, b, c'] = [[.str a], [.str b], [.str c']] := rfl
          rw [e3] at hcu
          cases ha : linR a with
          | none =>
            rw [ha] at hfr hfu
            simp only [plR, ha] at pa
            have hf2 : furR s = none := by rw [hfu]
            cases hb : linR b <;> simp only [plR, hb, tLin] at pb <;> rw [hb] at hfr <;> cases hc : linR c' <;> simp only [plR, hc, tLin] at pc <;> rw [hc] at hfr <;> rw [furV, hfr, hf2] <;> ((simp only [wCo, wFr, wOp, wBi, wLst, wLog, xB_other, Nat.reduceBEq, unT, loadP, storeP, partP, partT, partV, cellsP, mkAgg, allT, setRange, fillP, fieldA, indexS, indexA, indexV, indexStr, elems, lenP, pickV, cviV, nckV, extV, isNil, bound, close, close1, aft, retV, retSl, Go.Pi.one, eqT, eqs, eq1, Nat.reduceEqDiff, Nat.reduceAdd, Nat.reduceSub, Nat.reduceMul, Nat.reduceLeDiff, Nat.reduceLT, Nat.one_ne_zero, Nat.zero_ne_one, reduceIte, reduceCtorEq, bne_self_eq_false, decide_true, decide_false, Int.reduceToNat, Int.cast_ofNat_Int, Int.reduceLT, Int.reduceLE, Int.reduceEq, Int.reduceNeg, Int.reduceAdd, Int.reduceSub, xR_cell2, c, s4, s4', hne, hcu, pa, pb, pc]); (repeat' ((with_reducible first | refine xG_dec ?_ ?_ | refine xG_ndec ?_ ?_ | refine xG_nsplit ?_ ?_ | refine xG_split ?_ ?_ | refine xC_dec ?_ ?_ | refine xC_ndec ?_ ?_ | refine xC_nsplit ?_ ?_ | refine xC_split ?_ ?_) <;> intro h <;> (try simp only [wCo, wFr, wOp, wBi, wLst, wLog, xB_other, Nat.reduceBEq, unT, loadP, storeP, partP, partT, partV, cellsP, mkAgg, allT, setRange, fillP, fieldA, indexS, indexA, indexV, indexStr, elems, lenP, pickV, cviV, nckV, extV, isNil, bound, close, close1, aft, retV, retSl, Go.Pi.one, eqT, eqs, eq1, Nat.reduceEqDiff, Nat.reduceAdd, Nat.reduceSub, Nat.reduceMul, Nat.reduceLeDiff, Nat.reduceLT, Nat.one_ne_zero, Nat.zero_ne_one, reduceIte, reduceCtorEq, bne_self_eq_false, decide_true, decide_false, Int.reduceToNat, Int.cast_ofNat_Int, Int.reduceLT, Int.reduceLE, Int.reduceEq, Int.reduceNeg, Int.reduceAdd, Int.reduceSub, xR_cell2, c, s4, s4', hne, hcu, pa, pb, pc, h])))) <;> rfl
          | some x =>
            simp only [plR, ha, tLin] at pa
            cases hb : linR b with
            | none =>
              rw [ha, hb] at hfr hfu
              simp only [plR, hb] at pb
              have hf2 : furR s = none := by rw [hfu]
              cases hc : linR c' <;> simp only [plR, hc, tLin] at pc <;> rw [hc] at hfr <;> rw [furV, hfr, hf2] <;> ((simp only [wCo, wFr, wOp, wBi, wLst, wLog, xB_other, Nat.reduceBEq, unT, loadP, storeP, partP, partT, partV, cellsP, mkAgg, allT, setRange, fillP, fieldA, indexS, indexA, indexV, indexStr, elems, lenP, pickV, cviV, nckV, extV, isNil, bound, close, close1, aft, retV, retSl, Go.Pi.one, eqT, eqs, eq1, Nat.reduceEqDiff, Nat.reduceAdd, Nat.reduceSub, Nat.reduceMul, Nat.reduceLeDiff, Nat.reduceLT, Nat.one_ne_zero, Nat.zero_ne_one, reduceIte, reduceCtorEq, bne_self_eq_false, decide_true, decide_false, Int.reduceToNat, Int.cast_ofNat_Int, Int.reduceLT, Int.reduceLE, Int.reduceEq, Int.reduceNeg, Int.reduceAdd, Int.reduceSub, xR_cell2, c, s4, s4', hne, hcu, pa, pb, pc]); (repeat' ((with_reducible first | refine xG_dec ?_ ?_ | refine xG_ndec ?_ ?_ | refine xG_nsplit ?_ ?_ | refine xG_split ?_ ?_ | refine xC_dec ?_ ?_ | refine xC_ndec ?_ ?_ | refine xC_nsplit ?_ ?_ | refine xC_split ?_ ?_) <;> intro h <;> (try simp only [wCo, wFr, wOp, wBi, wLst, wLog, xB_other, Nat.reduceBEq, unT, loadP, storeP, partP, partT, partV, cellsP, mkAgg, allT, setRange, fillP, fieldA, indexS, indexA, indexV, indexStr, elems, lenP, pickV, cviV, nckV, extV, isNil, bound, close, close1, aft, retV, retSl, Go.Pi.one, eqT, eqs, eq1, Nat.reduceEqDiff, Nat.reduceAdd, Nat.reduceSub, Nat.reduceMul, Nat.reduceLeDiff, Nat.reduceLT, Nat.one_ne_zero, Nat.zero_ne_one, reduceIte, reduceCtorEq, bne_self_eq_false, decide_true, decide_false, Int.reduceToNat, Int.cast_ofNat_Int, Int.reduceLT, Int.reduceLE, Int.reduceEq, Int.reduceNeg, Int.reduceAdd, Int.reduceSub, xR_cell2, c, s4, s4', hne, hcu, pa, pb, pc, h])))) <;> rfl
            | some y =>
              simp only [plR, hb, tLin] at pb
              cases hc : linR c' with
              | none =>
                rw [ha, hb, hc] at hfr hfu
                simp only [plR, hc] at pc
                have hf2 : furR s = none := by rw [hfu]
                rw [furV, hfr, hf2]
                simp only [wCo, wFr, wOp, wBi, wLst, wLog, xB_other, Nat.reduceBEq, unT, loadP, storeP, partP, partT, partV, cellsP, mkAgg, allT, setRange, fillP, fieldA, indexS, indexA, indexV, indexStr, elems, lenP, pickV, cviV, nckV, extV, isNil, bound, close, close1, aft, retV, retSl, Go.Pi.one, eqT, eqs, eq1, Nat.reduceEqDiff, Nat.reduceAdd, Nat.reduceSub, Nat.reduceMul, Nat.reduceLeDiff, Nat.reduceLT, Nat.one_ne_zero, Nat.zero_ne_one, reduceIte, reduceCtorEq, bne_self_eq_false, decide_true, decide_false, Int.reduceToNat, Int.cast_ofNat_Int, Int.reduceLT, Int.reduceLE, Int.reduceEq, Int.reduceNeg, Int.reduceAdd, Int.reduceSub, xR_cell2, c, s4, s4', hne, hcu, pa, pb, pc]
                repeat' ((with_reducible first | refine xG_dec ?_ ?_ | refine xG_ndec ?_ ?_ | refine xG_nsplit ?_ ?_ | refine xG_split ?_ ?_ | refine xC_dec ?_ ?_ | refine xC_ndec ?_ ?_ | refine xC_nsplit ?_ ?_ | refine xC_split ?_ ?_) <;> intro h <;> (try simp only [wCo, wFr, wOp, wBi, wLst, wLog, xB_other, Nat.reduceBEq, unT, loadP, storeP, partP, partT, partV, cellsP, mkAgg, allT, setRange, fillP, fieldA, indexS, indexA, indexV, indexStr, elems, lenP, pickV, cviV, nckV, extV, isNil, bound, close, close1, aft, retV, retSl, Go.Pi.one, eqT, eqs, eq1, Nat.reduceEqDiff, Nat.reduceAdd, Nat.reduceSub, Nat.reduceMul, Nat.reduceLeDiff, Nat.reduceLT, Nat.one_ne_zero, Nat.zero_ne_one, reduceIte, reduceCtorEq, bne_self_eq_false, decide_true, decide_false, Int.reduceToNat, Int.cast_ofNat_Int, Int.reduceLT, Int.reduceLE, Int.reduceEq, Int.reduceNeg, Int.reduceAdd, Int.reduceSub, xR_cell2, c, s4, s4', hne, hcu, pa, pb, pc, h]))
                rfl
              | some z =>
                rw [ha, hb, hc] at hfr hfu
                simp only [plR, hc, tLin] at pc
                obtain ⟨w1, n1⟩ := linR_W ha
                obtain ⟨w2, n2⟩ := linR_W hb
                obtain ⟨w3, n3⟩ := linR_W hc
                have ln := @ok38 gl x.isEmpty y.isEmpty z.isEmpty (x, y, z) ⟨w1, w2, w3, by simp only; omega, by simp only; omega, by simp only; omega⟩
                simp only at ln
                have ad : s.length + 1 ≤ 4611686018427387904 := by omega
                simp only [lnD] at hfr
                simp only at hfu
                by_cases he : rowX (x, y, z) = s
                · rw [if_pos he] at hfu
                  rw [furV, hfr, hfu]
                  have he' : rowX (x, y, z) ++ [10] = s ++ [10] := app10.2 he
                  simp only [wCo, wFr, wOp, wBi, wLst, wLog, xB_other, Nat.reduceBEq, unT, loadP, storeP, partP, partT, partV, cellsP, mkAgg, allT, setRange, fillP, fieldA, indexS, indexA, indexV, indexStr, elems, lenP, pickV, cviV, nckV, extV, isNil, bound, close, close1, aft, retV, retSl, Go.Pi.one, eqT, eqs, eq1, Nat.reduceEqDiff, Nat.reduceAdd, Nat.reduceSub, Nat.reduceMul, Nat.reduceLeDiff, Nat.reduceLT, Nat.one_ne_zero, Nat.zero_ne_one, reduceIte, reduceCtorEq, bne_self_eq_false, decide_true, decide_false, Int.reduceToNat, Int.cast_ofNat_Int, Int.reduceLT, Int.reduceLE, Int.reduceEq, Int.reduceNeg, Int.reduceAdd, Int.reduceSub, xR_cell2, c, s4, s4', hne, hcu, pa, pb, pc, ln, he', List.length_cons, List.length_nil, ad]
                  repeat' (first | ((with_reducible first | refine xG_dec ?_ ?_ | refine xG_ndec ?_ ?_ | refine xG_nsplit ?_ ?_ | refine xG_split ?_ ?_ | refine xC_dec ?_ ?_ | refine xC_ndec ?_ ?_ | refine xC_nsplit ?_ ?_ | refine xC_split ?_ ?_) <;> intro h <;> (try simp only [wCo, wFr, wOp, wBi, wLst, wLog, xB_other, Nat.reduceBEq, unT, loadP, storeP, partP, partT, partV, cellsP, mkAgg, allT, setRange, fillP, fieldA, indexS, indexA, indexV, indexStr, elems, lenP, pickV, cviV, nckV, extV, isNil, bound, close, close1, aft, retV, retSl, Go.Pi.one, eqT, eqs, eq1, Nat.reduceEqDiff, Nat.reduceAdd, Nat.reduceSub, Nat.reduceMul, Nat.reduceLeDiff, Nat.reduceLT, Nat.one_ne_zero, Nat.zero_ne_one, reduceIte, reduceCtorEq, bne_self_eq_false, decide_true, decide_false, Int.reduceToNat, Int.cast_ofNat_Int, Int.reduceLT, Int.reduceLE, Int.reduceEq, Int.reduceNeg, Int.reduceAdd, Int.reduceSub, xR_cell2, c, s4, s4', hne, hcu, pa, pb, pc, ln, he', List.length_cons, List.length_nil, ad, h])) | ((with_reducible refine xO_if (by first | omega | (simp only [List.length_append, List.length_cons, List.length_nil]; omega)) ?_); (try simp only [wCo, wFr, wOp, wBi, wLst, wLog, xB_other, Nat.reduceBEq, unT, loadP, storeP, partP, partT, partV, cellsP, mkAgg, allT, setRange, fillP, fieldA, indexS, indexA, indexV, indexStr, elems, lenP, pickV, cviV, nckV, extV, isNil, bound, close, close1, aft, retV, retSl, Go.Pi.one, eqT, eqs, eq1, Nat.reduceEqDiff, Nat.reduceAdd, Nat.reduceSub, Nat.reduceMul, Nat.reduceLeDiff, Nat.reduceLT, Nat.one_ne_zero, Nat.zero_ne_one, reduceIte, reduceCtorEq, bne_self_eq_false, decide_true, decide_false, Int.reduceToNat, Int.cast_ofNat_Int, Int.reduceLT, Int.reduceLE, Int.reduceEq, Int.reduceNeg, Int.reduceAdd, Int.reduceSub, xR_cell2, c, s4, s4', hne, hcu, pa, pb, pc, ln, he', List.length_cons, List.length_nil, ad])))
                  rfl
                · rw [if_neg he] at hfu
                  rw [furV, hfr, hfu]
                  have he' : ¬ (rowX (x, y, z) ++ [10] = s ++ [10]) := fun h => he (app10.1 h)
                  simp only [wCo, wFr, wOp, wBi, wLst, wLog, xB_other, Nat.reduceBEq, unT, loadP, storeP, partP, partT, partV, cellsP, mkAgg, allT, setRange, fillP, fieldA, indexS, indexA, indexV, indexStr, elems, lenP, pickV, cviV, nckV, extV, isNil, bound, close, close1, aft, retV, retSl, Go.Pi.one, eqT, eqs, eq1, Nat.reduceEqDiff, Nat.reduceAdd, Nat.reduceSub, Nat.reduceMul, Nat.reduceLeDiff, Nat.reduceLT, Nat.one_ne_zero, Nat.zero_ne_one, reduceIte, reduceCtorEq, bne_self_eq_false, decide_true, decide_false, Int.reduceToNat, Int.cast_ofNat_Int, Int.reduceLT, Int.reduceLE, Int.reduceEq, Int.reduceNeg, Int.reduceAdd, Int.reduceSub, xR_cell2, c, s4, s4', hne, hcu, pa, pb, pc, ln, he', List.length_cons, List.length_nil, ad]
                  repeat' (first | ((with_reducible first | refine xG_dec ?_ ?_ | refine xG_ndec ?_ ?_ | refine xG_nsplit ?_ ?_ | refine xG_split ?_ ?_ | refine xC_dec ?_ ?_ | refine xC_ndec ?_ ?_ | refine xC_nsplit ?_ ?_ | refine xC_split ?_ ?_) <;> intro h <;> (try simp only [wCo, wFr, wOp, wBi, wLst, wLog, xB_other, Nat.reduceBEq, unT, loadP, storeP, partP, partT, partV, cellsP, mkAgg, allT, setRange, fillP, fieldA, indexS, indexA, indexV, indexStr, elems, lenP, pickV, cviV, nckV, extV, isNil, bound, close, close1, aft, retV, retSl, Go.Pi.one, eqT, eqs, eq1, Nat.reduceEqDiff, Nat.reduceAdd, Nat.reduceSub, Nat.reduceMul, Nat.reduceLeDiff, Nat.reduceLT, Nat.one_ne_zero, Nat.zero_ne_one, reduceIte, reduceCtorEq, bne_self_eq_false, decide_true, decide_false, Int.reduceToNat, Int.cast_ofNat_Int, Int.reduceLT, Int.reduceLE, Int.reduceEq, Int.reduceNeg, Int.reduceAdd, Int.reduceSub, xR_cell2, c, s4, s4', hne, hcu, pa, pb, pc, ln, he', List.length_cons, List.length_nil, ad, h])) | ((with_reducible refine xO_if (by first | omega | (simp only [List.length_append, List.length_cons, List.length_nil]; omega)) ?_); (try simp only [wCo, wFr, wOp, wBi, wLst, wLog, xB_other, Nat.reduceBEq, unT, loadP, storeP, partP, partT, partV, cellsP, mkAgg, allT, setRange, fillP, fieldA, indexS, indexA, indexV, indexStr, elems, lenP, pickV, cviV, nckV, extV, isNil, bound, close, close1, aft, retV, retSl, Go.Pi.one, eqT, eqs, eq1, Nat.reduceEqDiff, Nat.reduceAdd, Nat.reduceSub, Nat.reduceMul, Nat.reduceLeDiff, Nat.reduceLT, Nat.one_ne_zero, Nat.zero_ne_one, reduceIte, reduceCtorEq, bne_self_eq_false, decide_true, decide_false, Int.reduceToNat, Int.cast_ofNat_Int, Int.reduceLT, Int.reduceLE, Int.reduceEq, Int.reduceNeg, Int.reduceAdd, Int.reduceSub, xR_cell2, c, s4, s4', hne, hcu, pa, pb, pc, ln, he', List.length_cons, List.length_nil, ad])))
                  rfl
      · have c3 : ¬ ((ps.length : Int) = 3) := by omega
        have hf1 : furRow s = ([], [], []) := by
          rw [hfr]
          split
          · simp at h3
          · rfl
        have hf2 : furR s = none := by
          rw [hfu]
          split
          · rename_i he
            split at he
            · simp at h3
            · cases he
          · rfl
        rw [furV, hf1, hf2]
        simp only [wCo, wFr, wOp, wBi, wLst, wLog, xB_other, Nat.reduceBEq, unT, loadP, storeP, partP, partT, partV, cellsP, mkAgg, allT, setRange, fillP, fieldA, indexS, indexA, indexV, indexStr, elems, lenP, pickV, cviV, nckV, extV, isNil, bound, close, close1, aft, retV, retSl, Go.Pi.one, eqT, eqs, eq1, Nat.reduceEqDiff, Nat.reduceAdd, Nat.reduceSub, Nat.reduceMul, Nat.reduceLeDiff, Nat.reduceLT, Nat.one_ne_zero, Nat.zero_ne_one, reduceIte, reduceCtorEq, bne_self_eq_false, decide_true, decide_false, Int.reduceToNat, Int.cast_ofNat_Int, Int.reduceLT, Int.reduceLE, Int.reduceEq, Int.reduceNeg, Int.reduceAdd, Int.reduceSub, xR_cell2, c, s4, s4', hne, hcu, strsC_len, c3]
        repeat' ((with_reducible first | refine xG_dec ?_ ?_ | refine xG_ndec ?_ ?_ | refine xG_nsplit ?_ ?_ | refine xG_split ?_ ?_ | refine xC_dec ?_ ?_ | refine xC_ndec ?_ ?_ | refine xC_nsplit ?_ ?_ | refine xC_split ?_ ?_) <;> intro h <;> (try simp only [wCo, wFr, wOp, wBi, wLst, wLog, xB_other, Nat.reduceBEq, unT, loadP, storeP, partP, partT, partV, cellsP, mkAgg, allT, setRange, fillP, fieldA, indexS, indexA, indexV, indexStr, elems, lenP, pickV, cviV, nckV, extV, isNil, bound, close, close1, aft, retV, retSl, Go.Pi.one, eqT, eqs, eq1, Nat.reduceEqDiff, Nat.reduceAdd, Nat.reduceSub, Nat.reduceMul, Nat.reduceLeDiff, Nat.reduceLT, Nat.one_ne_zero, Nat.zero_ne_one, reduceIte, reduceCtorEq, bne_self_eq_false, decide_true, decide_false, Int.reduceToNat, Int.cast_ofNat_Int, Int.reduceLT, Int.reduceLE, Int.reduceEq, Int.reduceNeg, Int.reduceAdd, Int.reduceSub, xR_cell2, c, s4, s4', hne, hcu, strsC_len, c3, h]))
        rfl
    · rw [bad True hne]
      simp only [wCo, wFr, wOp, wBi, wLst, wLog, xB_other, Nat.reduceBEq, unT, loadP, storeP, partP, partT, partV, cellsP, mkAgg, allT, setRange, fillP, fieldA, indexS, indexA, indexV, indexStr, elems, lenP, pickV, cviV, nckV, extV, isNil, bound, close, close1, aft, retV, retSl, Go.Pi.one, eqT, eqs, eq1, Nat.reduceEqDiff, Nat.reduceAdd, Nat.reduceSub, Nat.reduceMul, Nat.reduceLeDiff, Nat.reduceLT, Nat.one_ne_zero, Nat.zero_ne_one, reduceIte, reduceCtorEq, bne_self_eq_false, decide_true, decide_false, Int.reduceToNat, Int.cast_ofNat_Int, Int.reduceLT, Int.reduceLE, Int.reduceEq, Int.reduceNeg, Int.reduceAdd, Int.reduceSub, xR_cell2, c, s4, hne]
      repeat' ((with_reducible first | refine xG_dec ?_ ?_ | refine xG_ndec ?_ ?_ | refine xG_nsplit ?_ ?_ | refine xG_split ?_ ?_ | refine xC_dec ?_ ?_ | refine xC_ndec ?_ ?_ | refine xC_nsplit ?_ ?_ | refine xC_split ?_ ?_) <;> intro h <;> (try simp only [wCo, wFr, wOp, wBi, wLst, wLog, xB_other, Nat.reduceBEq, unT, loadP, storeP, partP, partT, partV, cellsP, mkAgg, allT, setRange, fillP, fieldA, indexS, indexA, indexV, indexStr, elems, lenP, pickV, cviV, nckV, extV, isNil, bound, close, close1, aft, retV, retSl, Go.Pi.one, eqT, eqs, eq1, Nat.reduceEqDiff, Nat.reduceAdd, Nat.reduceSub, Nat.reduceMul, Nat.reduceLeDiff, Nat.reduceLT, Nat.one_ne_zero, Nat.zero_ne_one, reduceIte, reduceCtorEq, bne_self_eq_false, decide_true, decide_false, Int.reduceToNat, Int.cast_ofNat_Int, Int.reduceLT, Int.reduceLE, Int.reduceEq, Int.reduceNeg, Int.reduceAdd, Int.reduceSub, xR_cell2, c, s4, hne, h]))
end Go.Proofs.YtbkphlhmbllbiaaGreatDoor
