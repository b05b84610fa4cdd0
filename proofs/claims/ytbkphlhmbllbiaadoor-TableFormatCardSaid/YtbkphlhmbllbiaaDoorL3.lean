/- TableFormat in the small language. -/
import Derived.Test.YtbkphlhmbllbiaaDoorL2
set_option maxRecDepth 10000
set_option linter.unusedVariables false
set_option linter.unusedSimpArgs false
namespace Go.Proofs.YtbkphlhmbllbiaaDoor
open Go.Pi
def glW (m : Int) : Nat → Option (List T)
  | 6 => some [.ifx]
  | 7 => some [.ifx]
  | 3 => some [.int .i64 m]
  | 2 => some (p10.map (T.int .u64))
  | _ => none
theorem glW_ok (m : Int) : GlK (glW m) := ⟨rfl, rfl, rfl, m, rfl⟩
def isT : Option (PV × Sg × Ow) → Bool
  | some (.t (.bool true), _, _) => true
  | _ => false
theorem awakeT (m : Int) : isT (pcall F (glW m) 100 10 [] [] []) = true := by kernel_rfl
theorem ok10 (m : Int) {K : PV → Prop} : XcP F (glW m) 10 [] K ⟨⟩ ↔ K (.t (.bool true)) := by
  refine Ret.iff ?_
  have h := awakeT m
  unfold isT at h
  split at h
  · rename_i sg ow he
    exact ⟨100, _, sg, ow, he, rfl⟩
  · cases h
theorem rows_len : ∀ (rows : List Row) (n : Int), 0 ≤ n → (∀ r, r ∈ rows → rW (r3 r)) → sm n rows ≤ 400 → ((rows.flatMap rowT).length : Int) + 50 * n ≤ 50 * sm n rows + 50 * rows.length := by
  intro rows
  induction rows with
  | nil => intro n hn _ h; simp [sm]
  | cons r rs ih =>
    intro n hn hw h
    obtain ⟨w1, w2, w3, _, _, _⟩ := hw r List.mem_cons_self
    have l1 := lin_len (r3 r).1 w1
    have l2 := lin_len (r3 r).2.1 w2
    have l3 := lin_len (r3 r).2.2 w3
    have hx : (rowT r).length ≤ 42 * ((r3 r).1.length + (r3 r).2.1.length + (r3 r).2.2.length) + 20 := by
      rw [rowT_X]
      simp only [rowX, List.length_append, List.length_cons, List.length_nil]
      omega
    simp only [sm] at h ⊢
    split at h
    · rename_i hc
      rw [if_pos hc]
      have := ih _ (by omega) (fun x hx => hw x (List.mem_cons_of_mem _ hx)) h
      simp only [r3] at hx
      rw [List.flatMap_cons, List.length_append, List.length_cons]
      push_cast at this ⊢
      omega
    · omega
theorem law9 (m : Int) (t : Tab) (ht : TabWf t) : Ret F (glW m) 9 [tTab t] (.t (.bool true)) := by
  refine Ret.of F9 rfl ?_
  simp only [ir9]
  have a11 := @ok11 (glW m) t ht.ok
  simp only [tTab, tCells] at a11
  by_cases hs : sm t.rows.length t.rows ≤ 400
  · obtain ⟨s1, s2⟩ := small_rows hs
    have af := @ok22 (glW m) (glW_ok m).p10 t ht hs
    have av := @ok13 (glW m) t ht.ok
    cases hv : vTab t with
    | false =>
      simp only [hv, Bool.false_eq_true, if_false, tTab, tCells] at af av
      simp only [wCo, wFr, wOp, wBi, wLst, wLog, xB_other, Nat.reduceBEq, unT, loadP, storeP, partP, partT, partV, cellsP, mkAgg, allT, setRange, fillP, fieldA, indexS, indexA, indexV, indexStr, elems, lenP, pickV, cviV, nckV, extV, isNil, bound, close, close1, aft, retV, retSl, Go.Pi.one, eqT, eqs, eq1, Nat.reduceEqDiff, Nat.reduceAdd, Nat.reduceSub, Nat.reduceMul, Nat.reduceLeDiff, Nat.reduceLT, Nat.one_ne_zero, Nat.zero_ne_one, reduceIte, reduceCtorEq, bne_self_eq_false, decide_true, decide_false, Int.reduceToNat, Int.cast_ofNat_Int, Int.reduceLT, Int.reduceLE, Int.reduceEq, Int.reduceNeg, Int.reduceAdd, Int.reduceSub, tTab, tCells, ok10 m, a11, hs, af, av]
      repeat' ((with_reducible first | refine xG_dec ?_ ?_ | refine xG_ndec ?_ ?_ | refine xG_nsplit ?_ ?_ | refine xG_split ?_ ?_ | refine xC_dec ?_ ?_ | refine xC_ndec ?_ ?_ | refine xC_nsplit ?_ ?_ | refine xC_split ?_ ?_) <;> intro h <;> (try simp only [wCo, wFr, wOp, wBi, wLst, wLog, xB_other, Nat.reduceBEq, unT, loadP, storeP, partP, partT, partV, cellsP, mkAgg, allT, setRange, fillP, fieldA, indexS, indexA, indexV, indexStr, elems, lenP, pickV, cviV, nckV, extV, isNil, bound, close, close1, aft, retV, retSl, Go.Pi.one, eqT, eqs, eq1, Nat.reduceEqDiff, Nat.reduceAdd, Nat.reduceSub, Nat.reduceMul, Nat.reduceLeDiff, Nat.reduceLT, Nat.one_ne_zero, Nat.zero_ne_one, reduceIte, reduceCtorEq, bne_self_eq_false, decide_true, decide_false, Int.reduceToNat, Int.cast_ofNat_Int, Int.reduceLT, Int.reduceLE, Int.reduceEq, Int.reduceNeg, Int.reduceAdd, Int.reduceSub, tTab, tCells, ok10 m, a11, hs, af, av, h]))
    | true =>
      have hv' := hv
      simp only [vTab, Bool.and_eq_true, decide_eq_true_eq] at hv'
      obtain ⟨⟨⟨⟨⟨v1, v2⟩, v3⟩, v4⟩, v5⟩, v6⟩ := hv'
      have hrw : ∀ r, r ∈ t.rows → rW (r3 r) ∧ (r3 r).1.length ≤ 400 ∧ (r3 r).2.1.length ≤ 400 ∧ (r3 r).2.2.length ≤ 400 := by
        intro r hr
        obtain ⟨b1, b2, b3, b4, b5, b6⟩ := rowV_of ht v4 v6 (s2 r hr) hr
        exact ⟨⟨b1, b2, b3, by simp only [r3]; omega, by simp only [r3]; omega, by simp only [r3]; omega⟩, b4, b5, b6⟩
      have tx := @ok27 (glW m) t ht v2 (by omega) s1 hrw
      have hfl : (fmtT t).length ≤ 900000 := by
        have h1 := rows_len t.rows t.rows.length (by omega) (fun r hr => (hrw r hr).1) hs
        have h2 := @head_len (t.p, t.pub, t.vars) ht.p0 ht.p1 v2 ht.pub1 (by simp only; omega) ht.vars1
        rw [fmtT, headT_X, List.length_append, List.length_append, List.length_singleton]
        omega
      have pr := @ok26 (glW m) (glW_ok m) (fmtT t) hfl
      have sm_ := @ok21 (glW m) t (tabOf (t.p, t.pub, t.vars) (t.rows.map r3)) (by omega) (fun r hr => by
        obtain ⟨c1, c2, c3⟩ := s2 r hr
        exact ⟨by omega, by omega, by omega⟩)
      rw [sameT_back] at sm_
      simp only [prV, parse_fmt ht hv] at pr
      simp only [hv, if_true] at af av
      generalize tabOf (t.p, t.pub, t.vars) (t.rows.map r3) = Z at *
      simp only [tTab, tCells] at af av tx pr sm_
      simp only [wCo, wFr, wOp, wBi, wLst, wLog, xB_other, Nat.reduceBEq, unT, loadP, storeP, partP, partT, partV, cellsP, mkAgg, allT, setRange, fillP, fieldA, indexS, indexA, indexV, indexStr, elems, lenP, pickV, cviV, nckV, extV, isNil, bound, close, close1, aft, retV, retSl, Go.Pi.one, eqT, eqs, eq1, Nat.reduceEqDiff, Nat.reduceAdd, Nat.reduceSub, Nat.reduceMul, Nat.reduceLeDiff, Nat.reduceLT, Nat.one_ne_zero, Nat.zero_ne_one, reduceIte, reduceCtorEq, bne_self_eq_false, decide_true, decide_false, Int.reduceToNat, Int.cast_ofNat_Int, Int.reduceLT, Int.reduceLE, Int.reduceEq, Int.reduceNeg, Int.reduceAdd, Int.reduceSub, tTab, tCells, ok10 m, a11, hs, af, av, tx, pr, sm_]
      repeat' ((with_reducible first | refine xG_dec ?_ ?_ | refine xG_ndec ?_ ?_ | refine xG_nsplit ?_ ?_ | refine xG_split ?_ ?_ | refine xC_dec ?_ ?_ | refine xC_ndec ?_ ?_ | refine xC_nsplit ?_ ?_ | refine xC_split ?_ ?_) <;> intro h <;> (try simp only [wCo, wFr, wOp, wBi, wLst, wLog, xB_other, Nat.reduceBEq, unT, loadP, storeP, partP, partT, partV, cellsP, mkAgg, allT, setRange, fillP, fieldA, indexS, indexA, indexV, indexStr, elems, lenP, pickV, cviV, nckV, extV, isNil, bound, close, close1, aft, retV, retSl, Go.Pi.one, eqT, eqs, eq1, Nat.reduceEqDiff, Nat.reduceAdd, Nat.reduceSub, Nat.reduceMul, Nat.reduceLeDiff, Nat.reduceLT, Nat.one_ne_zero, Nat.zero_ne_one, reduceIte, reduceCtorEq, bne_self_eq_false, decide_true, decide_false, Int.reduceToNat, Int.cast_ofNat_Int, Int.reduceLT, Int.reduceLE, Int.reduceEq, Int.reduceNeg, Int.reduceAdd, Int.reduceSub, tTab, tCells, ok10 m, a11, hs, af, av, tx, pr, sm_, h]))
  · simp only [wCo, wFr, wOp, wBi, wLst, wLog, xB_other, Nat.reduceBEq, unT, loadP, storeP, partP, partT, partV, cellsP, mkAgg, allT, setRange, fillP, fieldA, indexS, indexA, indexV, indexStr, elems, lenP, pickV, cviV, nckV, extV, isNil, bound, close, close1, aft, retV, retSl, Go.Pi.one, eqT, eqs, eq1, Nat.reduceEqDiff, Nat.reduceAdd, Nat.reduceSub, Nat.reduceMul, Nat.reduceLeDiff, Nat.reduceLT, Nat.one_ne_zero, Nat.zero_ne_one, reduceIte, reduceCtorEq, bne_self_eq_false, decide_true, decide_false, Int.reduceToNat, Int.cast_ofNat_Int, Int.reduceLT, Int.reduceLE, Int.reduceEq, Int.reduceNeg, Int.reduceAdd, Int.reduceSub, tTab, tCells, ok10 m, a11, hs]
    repeat' ((with_reducible first | refine xG_dec ?_ ?_ | refine xG_ndec ?_ ?_ | refine xG_nsplit ?_ ?_ | refine xG_split ?_ ?_ | refine xC_dec ?_ ?_ | refine xC_ndec ?_ ?_ | refine xC_nsplit ?_ ?_ | refine xC_split ?_ ?_) <;> intro h <;> (try simp only [wCo, wFr, wOp, wBi, wLst, wLog, xB_other, Nat.reduceBEq, unT, loadP, storeP, partP, partT, partV, cellsP, mkAgg, allT, setRange, fillP, fieldA, indexS, indexA, indexV, indexStr, elems, lenP, pickV, cviV, nckV, extV, isNil, bound, close, close1, aft, retV, retSl, Go.Pi.one, eqT, eqs, eq1, Nat.reduceEqDiff, Nat.reduceAdd, Nat.reduceSub, Nat.reduceMul, Nat.reduceLeDiff, Nat.reduceLT, Nat.one_ne_zero, Nat.zero_ne_one, reduceIte, reduceCtorEq, bne_self_eq_false, decide_true, decide_false, Int.reduceToNat, Int.cast_ofNat_Int, Int.reduceLT, Int.reduceLE, Int.reduceEq, Int.reduceNeg, Int.reduceAdd, Int.reduceSub, tTab, tCells, ok10 m, a11, hs, h]))
theorem args9 {m : Int} (_ : GlK (glW m)) : ∀ xs, ArgsT 140737488355328 [(true, ctTab)] xs → ∃ n sg ow, pcall F (glW m) n 9 (xs.map .t) [] [] = some (.t (.bool true), sg, ow) := by
  intro xs h
  obtain ⟨x, r, rfl, hx, h⟩ := argsT_cons h
  obtain rfl := argsT_nil h
  obtain ⟨a, rfl, ha⟩ := tab_of hx
  exact CallP.law (law9 m a ha)
end Go.Proofs.YtbkphlhmbllbiaaDoor
