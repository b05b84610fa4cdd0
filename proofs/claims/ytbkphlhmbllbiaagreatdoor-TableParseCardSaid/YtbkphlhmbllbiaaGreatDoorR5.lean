/- Contracts of the reference's reader: first, Parse. -/
import Derived.Test.YtbkphlhmbllbiaaGreatDoorR4
set_option maxRecDepth 10000
set_option linter.unusedVariables false
set_option linter.unusedSimpArgs false
namespace Go.Proofs.YtbkphlhmbllbiaaGreatDoor
open Go.Pi
variable {gl : Nat → Option (List T)}
/-- The table that first hands back. -/
def fstTab (s : List UInt8) : Tab := match Lib.split s [32] with
  | [a, b, c, d] => (match mapO rnum [b, c, d] with
    | some [p, u, v] => ⟨(p : Int), least u, least v, true, []⟩
    | _ => zTab)
  | _ => zTab
theorem fstC_map (s : List UInt8) : fstC s = match Lib.split s [32] with
  | [a, b, c, d] => (match mapO rnum [b, c, d] with
    | some [p, u, v] => some ((p : Int), least u, least v)
    | _ => none)
  | _ => none := by
  unfold fstC
  generalize Lib.split s [32] = ps
  split
  · rename_i a b c d
    simp only [mapO]
    cases rnum b with
    | none => rfl
    | some p => cases rnum c with
      | none => rfl
      | some u => cases rnum d with
        | none => rfl
        | some v => rfl
  · rename_i hne
    split
    · rename_i a b c d
      exact absurd rfl (hne a b c d)
    · rfl
def fsV (s : List UInt8) : PV := .tup [.t (tTab (fstTab s)), .t (.bool (fstV hV s).isSome)]
theorem fst_tab {s : List UInt8} {h : Int × Int × Int} (hh : fstV hV s = some h) : fstTab s = ⟨h.1, h.2.1, h.2.2, true, []⟩ ∧ hV h = true := by
  unfold fstV at hh
  rw [fstC_map] at hh
  unfold fstTab
  split at hh
  · rename_i x hx
    split at hh
    · rename_i hc
      injection hh with hh
      subst hh
      refine ⟨?_, hc.1⟩
      split at hx
      · rename_i a b c d he
        split at hx
        · rename_i p u v hm
          try rw [hm]
          injection hx with hx
          subst hx
          rfl
        · cases hx
      · cases hx
    · cases hh
  · cases hh
theorem slc3 (a b c d : T) : sliceP 1 (.own 0 1 [[a], [b], [c], [d]]) (some (.t (.int .i64 1))) none none = some (.t (.sl false [[b], [c], [d]])) := rfl
theorem vTab_h (h : Int × Int × Int) : vTab ⟨h.1, h.2.1, h.2.2, true, []⟩ = hV h := by simp [vTab, hV, vRows]
set_option maxHeartbeats 2000000 in
theorem ok14 {s : List UInt8} (hs : s.length ≤ 900000) {K : PV → Prop} : XcP F gl 14 [.str s] K ⟨⟩ ↔ K (fsV s) := by
  refine Ret.iff (Ret.of F14 rfl ?_)
  simp only [ir14]
  have hcu := @ok13 gl s [32] (by simp) (by omega) (by simp)
  have hp := split_len s [32]
  have h1 : fstTab s = match Lib.split s [32] with
    | [a, b, c, d] => (match mapO rnum [b, c, d] with
      | some [p, u, v] => ⟨(p : Int), least u, least v, true, []⟩
      | _ => zTab)
    | _ => zTab := rfl
  have h2 := fstC_map s
  generalize Lib.split s [32] = ps at *
  by_cases h4 : ps.length = 4
  · match ps, h4 with
    | [a, b, c, d], _ =>
      simp only at h1 h2
      have e4 : strsC [a, b, c, d] = [[.str a], [.str b], [.str c], [.str d]] := rfl
      rw [e4] at hcu
      have hnu := @ok33 gl false [b, c, d] (by simp) (fun p hp' => by
        have := hp p (List.mem_cons_of_mem _ hp')
        omega)
      have e3 : strsC [b, c, d] = [[.str b], [.str c], [.str d]] := rfl
      rw [e3] at hnu
      cases hm : mapO rnum [b, c, d] with
      | none =>
        rw [hm] at h1 h2
        simp only at h1 h2
        simp only [nusV, hm] at hnu
        have hv : fstV hV s = none := by rw [fstV, h2]
        rw [fsV, h1, hv]
        simp only [wCo, wFr, wOp, wBi, wLst, wLog, xB_other, Nat.reduceBEq, unT, loadP, storeP, partP, partT, partV, cellsP, mkAgg, allT, setRange, fillP, fieldA, indexS, indexA, indexV, indexStr, elems, lenP, pickV, cviV, nckV, extV, isNil, bound, close, close1, aft, retV, retSl, Go.Pi.one, eqT, eqs, eq1, Nat.reduceEqDiff, Nat.reduceAdd, Nat.reduceSub, Nat.reduceMul, Nat.reduceLeDiff, Nat.reduceLT, Nat.one_ne_zero, Nat.zero_ne_one, reduceIte, reduceCtorEq, bne_self_eq_false, decide_true, decide_false, Int.reduceToNat, Int.cast_ofNat_Int, Int.reduceLT, Int.reduceLE, Int.reduceEq, Int.reduceNeg, Int.reduceAdd, Int.reduceSub, xR_cell2, hcu, slc3, hnu]
        repeat' ((with_reducible first | refine xG_dec ?_ ?_ | refine xG_ndec ?_ ?_ | refine xG_nsplit ?_ ?_ | refine xG_split ?_ ?_ | refine xC_dec ?_ ?_ | refine xC_ndec ?_ ?_ | refine xC_nsplit ?_ ?_ | refine xC_split ?_ ?_) <;> intro h <;> (try simp only [wCo, wFr, wOp, wBi, wLst, wLog, xB_other, Nat.reduceBEq, unT, loadP, storeP, partP, partT, partV, cellsP, mkAgg, allT, setRange, fillP, fieldA, indexS, indexA, indexV, indexStr, elems, lenP, pickV, cviV, nckV, extV, isNil, bound, close, close1, aft, retV, retSl, Go.Pi.one, eqT, eqs, eq1, Nat.reduceEqDiff, Nat.reduceAdd, Nat.reduceSub, Nat.reduceMul, Nat.reduceLeDiff, Nat.reduceLT, Nat.one_ne_zero, Nat.zero_ne_one, reduceIte, reduceCtorEq, bne_self_eq_false, decide_true, decide_false, Int.reduceToNat, Int.cast_ofNat_Int, Int.reduceLT, Int.reduceLE, Int.reduceEq, Int.reduceNeg, Int.reduceAdd, Int.reduceSub, xR_cell2, hcu, slc3, hnu, h]))
        rfl
      | some ns =>
        have hl3 := mapO_len _ _ hm
        match ns, hl3 with
        | [p, u, v], _ =>
        rw [hm] at h1 h2
        simp only at h1 h2
        simp only [nusV, hm] at hnu
        have lep : p ≤ 18446744073709551615 := by obtain ⟨_, _, e⟩ := mapO_mem _ _ hm p (by simp); exact rnum_le e
        have leu : u ≤ 18446744073709551615 := by obtain ⟨_, _, e⟩ := mapO_mem _ _ hm u (by simp); exact rnum_le e
        have lev : v ≤ 18446744073709551615 := by obtain ⟨_, _, e⟩ := mapO_mem _ _ hm v (by simp); exact rnum_le e
        have n3 : natsC [p, u, v] = [[.int .u64 (p : Int)], [.int .u64 (u : Int)], [.int .u64 (v : Int)]] := rfl
        rw [n3] at hnu
        have k1 := @ok34 gl u leu
        have k2 := @ok34 gl v lev
        have r1 := least_rng u
        have r2 := least_rng v
        have va := @ok35 gl ⟨(p : Int), least u, least v, true, []⟩ ⟨by simp, fun r hr => by cases hr⟩
        rw [vTab_h ((p : Int), least u, least v)] at va
        simp only [tTab, tCells, List.map_nil] at va
        have hd := @ok36 gl ((p : Int), least u, least v) (.sl true []) rfl (by simp only; omega) (by simp only; omega) (by simp only; omega) (by simp only; omega) (by simp only; omega) (by simp only; omega)
        simp only at hd
        have ad : s.length + 1 ≤ 4611686018427387904 := by omega
        cases hv : hV ((p : Int), least u, least v) with
        | false =>
          rw [hv] at va
          have hfv : fstV hV s = none := by rw [fstV, h2]; simp only [hv, Bool.false_eq_true, false_and, if_false]
          rw [fsV, h1, hfv]
          simp only [wCo, wFr, wOp, wBi, wLst, wLog, xB_other, Nat.reduceBEq, unT, loadP, storeP, partP, partT, partV, cellsP, mkAgg, allT, setRange, fillP, fieldA, indexS, indexA, indexV, indexStr, elems, lenP, pickV, cviV, nckV, extV, isNil, bound, close, close1, aft, retV, retSl, Go.Pi.one, eqT, eqs, eq1, Nat.reduceEqDiff, Nat.reduceAdd, Nat.reduceSub, Nat.reduceMul, Nat.reduceLeDiff, Nat.reduceLT, Nat.one_ne_zero, Nat.zero_ne_one, reduceIte, reduceCtorEq, bne_self_eq_false, decide_true, decide_false, Int.reduceToNat, Int.cast_ofNat_Int, Int.reduceLT, Int.reduceLE, Int.reduceEq, Int.reduceNeg, Int.reduceAdd, Int.reduceSub, xR_cell2, hcu, slc3, hnu, k1, k2, va]
          repeat' ((with_reducible first | refine xG_dec ?_ ?_ | refine xG_ndec ?_ ?_ | refine xG_nsplit ?_ ?_ | refine xG_split ?_ ?_ | refine xC_dec ?_ ?_ | refine xC_ndec ?_ ?_ | refine xC_nsplit ?_ ?_ | refine xC_split ?_ ?_) <;> intro h <;> (try simp only [wCo, wFr, wOp, wBi, wLst, wLog, xB_other, Nat.reduceBEq, unT, loadP, storeP, partP, partT, partV, cellsP, mkAgg, allT, setRange, fillP, fieldA, indexS, indexA, indexV, indexStr, elems, lenP, pickV, cviV, nckV, extV, isNil, bound, close, close1, aft, retV, retSl, Go.Pi.one, eqT, eqs, eq1, Nat.reduceEqDiff, Nat.reduceAdd, Nat.reduceSub, Nat.reduceMul, Nat.reduceLeDiff, Nat.reduceLT, Nat.one_ne_zero, Nat.zero_ne_one, reduceIte, reduceCtorEq, bne_self_eq_false, decide_true, decide_false, Int.reduceToNat, Int.cast_ofNat_Int, Int.reduceLT, Int.reduceLE, Int.reduceEq, Int.reduceNeg, Int.reduceAdd, Int.reduceSub, xR_cell2, hcu, slc3, hnu, k1, k2, va, h]))
          rfl
        | true =>
          rw [hv] at va
          by_cases he : headX ((p : Int), least u, least v) = s
          · have hfv : fstV hV s = some ((p : Int), least u, least v) := by rw [fstV, h2]; simp only [hv, he, and_self, if_true]
            have he' : headX ((p : Int), least u, least v) ++ [10] = s ++ [10] := app10.2 he
            rw [fsV, h1, hfv]
            simp only [wCo, wFr, wOp, wBi, wLst, wLog, xB_other, Nat.reduceBEq, unT, loadP, storeP, partP, partT, partV, cellsP, mkAgg, allT, setRange, fillP, fieldA, indexS, indexA, indexV, indexStr, elems, lenP, pickV, cviV, nckV, extV, isNil, bound, close, close1, aft, retV, retSl, Go.Pi.one, eqT, eqs, eq1, Nat.reduceEqDiff, Nat.reduceAdd, Nat.reduceSub, Nat.reduceMul, Nat.reduceLeDiff, Nat.reduceLT, Nat.one_ne_zero, Nat.zero_ne_one, reduceIte, reduceCtorEq, bne_self_eq_false, decide_true, decide_false, Int.reduceToNat, Int.cast_ofNat_Int, Int.reduceLT, Int.reduceLE, Int.reduceEq, Int.reduceNeg, Int.reduceAdd, Int.reduceSub, xR_cell2, hcu, slc3, hnu, k1, k2, va, hd, he', List.length_cons, List.length_nil, ad]
            repeat' (first | ((with_reducible first | refine xG_dec ?_ ?_ | refine xG_ndec ?_ ?_ | refine xG_nsplit ?_ ?_ | refine xG_split ?_ ?_ | refine xC_dec ?_ ?_ | refine xC_ndec ?_ ?_ | refine xC_nsplit ?_ ?_ | refine xC_split ?_ ?_) <;> intro h <;> (try simp only [wCo, wFr, wOp, wBi, wLst, wLog, xB_other, Nat.reduceBEq, unT, loadP, storeP, partP, partT, partV, cellsP, mkAgg, allT, setRange, fillP, fieldA, indexS, indexA, indexV, indexStr, elems, lenP, pickV, cviV, nckV, extV, isNil, bound, close, close1, aft, retV, retSl, Go.Pi.one, eqT, eqs, eq1, Nat.reduceEqDiff, Nat.reduceAdd, Nat.reduceSub, Nat.reduceMul, Nat.reduceLeDiff, Nat.reduceLT, Nat.one_ne_zero, Nat.zero_ne_one, reduceIte, reduceCtorEq, bne_self_eq_false, decide_true, decide_false, Int.reduceToNat, Int.cast_ofNat_Int, Int.reduceLT, Int.reduceLE, Int.reduceEq, Int.reduceNeg, Int.reduceAdd, Int.reduceSub, xR_cell2, hcu, slc3, hnu, k1, k2, va, hd, he', List.length_cons, List.length_nil, ad, h])) | ((with_reducible refine xO_if (by first | omega | (simp only [List.length_append, List.length_cons, List.length_nil]; omega)) ?_); (try simp only [wCo, wFr, wOp, wBi, wLst, wLog, xB_other, Nat.reduceBEq, unT, loadP, storeP, partP, partT, partV, cellsP, mkAgg, allT, setRange, fillP, fieldA, indexS, indexA, indexV, indexStr, elems, lenP, pickV, cviV, nckV, extV, isNil, bound, close, close1, aft, retV, retSl, Go.Pi.one, eqT, eqs, eq1, Nat.reduceEqDiff, Nat.reduceAdd, Nat.reduceSub, Nat.reduceMul, Nat.reduceLeDiff, Nat.reduceLT, Nat.one_ne_zero, Nat.zero_ne_one, reduceIte, reduceCtorEq, bne_self_eq_false, decide_true, decide_false, Int.reduceToNat, Int.cast_ofNat_Int, Int.reduceLT, Int.reduceLE, Int.reduceEq, Int.reduceNeg, Int.reduceAdd, Int.reduceSub, xR_cell2, hcu, slc3, hnu, k1, k2, va, hd, he', List.length_cons, List.length_nil, ad])))
            rfl
          · have hfv : fstV hV s = none := by rw [fstV, h2]; simp only [hv, he, and_false, if_false]
            have he' : ¬ (headX ((p : Int), least u, least v) ++ [10] = s ++ [10]) := fun h => he (app10.1 h)
            rw [fsV, h1, hfv]
            simp only [wCo, wFr, wOp, wBi, wLst, wLog, xB_other, Nat.reduceBEq, unT, loadP, storeP, partP, partT, partV, cellsP, mkAgg, allT, setRange, fillP, fieldA, indexS, indexA, indexV, indexStr, elems, lenP, pickV, cviV, nckV, extV, isNil, bound, close, close1, aft, retV, retSl, Go.Pi.one, eqT, eqs, eq1, Nat.reduceEqDiff, Nat.reduceAdd, Nat.reduceSub, Nat.reduceMul, Nat.reduceLeDiff, Nat.reduceLT, Nat.one_ne_zero, Nat.zero_ne_one, reduceIte, reduceCtorEq, bne_self_eq_false, decide_true, decide_false, Int.reduceToNat, Int.cast_ofNat_Int, Int.reduceLT, Int.reduceLE, Int.reduceEq, Int.reduceNeg, Int.reduceAdd, Int.reduceSub, xR_cell2, hcu, slc3, hnu, k1, k2, va, hd, he', List.length_cons, List.length_nil, ad]
            repeat' (first | ((with_reducible first | refine xG_dec ?_ ?_ | refine xG_ndec ?_ ?_ | refine xG_nsplit ?_ ?_ | refine xG_split ?_ ?_ | refine xC_dec ?_ ?_ | refine xC_ndec ?_ ?_ | refine xC_nsplit ?_ ?_ | refine xC_split ?_ ?_) <;> intro h <;> (try simp only [wCo, wFr, wOp, wBi, wLst, wLog, xB_other, Nat.reduceBEq, unT, loadP, storeP, partP, partT, partV, cellsP, mkAgg, allT, setRange, fillP, fieldA, indexS, indexA, indexV, indexStr, elems, lenP, pickV, cviV, nckV, extV, isNil, bound, close, close1, aft, retV, retSl, Go.Pi.one, eqT, eqs, eq1, Nat.reduceEqDiff, Nat.reduceAdd, Nat.reduceSub, Nat.reduceMul, Nat.reduceLeDiff, Nat.reduceLT, Nat.one_ne_zero, Nat.zero_ne_one, reduceIte, reduceCtorEq, bne_self_eq_false, decide_true, decide_false, Int.reduceToNat, Int.cast_ofNat_Int, Int.reduceLT, Int.reduceLE, Int.reduceEq, Int.reduceNeg, Int.reduceAdd, Int.reduceSub, xR_cell2, hcu, slc3, hnu, k1, k2, va, hd, he', List.length_cons, List.length_nil, ad, h])) | ((with_reducible refine xO_if (by first | omega | (simp only [List.length_append, List.length_cons, List.length_nil]; omega)) ?_); (try simp only [wCo, wFr, wOp, wBi, wLst, wLog, xB_other, Nat.reduceBEq, unT, loadP, storeP, partP, partT, partV, cellsP, mkAgg, allT, setRange, fillP, fieldA, indexS, indexA, indexV, indexStr, elems, lenP, pickV, cviV, nckV, extV, isNil, bound, close, close1, aft, retV, retSl, Go.Pi.one, eqT, eqs, eq1, Nat.reduceEqDiff, Nat.reduceAdd, Nat.reduceSub, Nat.reduceMul, Nat.reduceLeDiff, Nat.reduceLT, Nat.one_ne_zero, Nat.zero_ne_one, reduceIte, reduceCtorEq, bne_self_eq_false, decide_true, decide_false, Int.reduceToNat, Int.cast_ofNat_Int, Int.reduceLT, Int.reduceLE, Int.reduceEq, Int.reduceNeg, Int.reduceAdd, Int.reduceSub, xR_cell2, hcu, slc3, hnu, k1, k2, va, hd, he', List.length_cons, List.length_nil, ad])))
            rfl
  · have c4 : ¬ ((ps.length : Int) = 4) := by omega
    have hf1 : fstTab s = zTab := by
      rw [h1]
      split
      · simp at h4
      · rfl
    have hf2 : fstV hV s = none := by
      have : fstC s = none := by
        rw [h2]
        split
        · simp at h4
        · rfl
      rw [fstV, this]
    rw [fsV, hf1, hf2]
    simp only [wCo, wFr, wOp, wBi, wLst, wLog, xB_other, Nat.reduceBEq, unT, loadP, storeP, partP, partT, partV, cellsP, mkAgg, allT, setRange, fillP, fieldA, indexS, indexA, indexV, indexStr, elems, lenP, pickV, cviV, nckV, extV, isNil, bound, close, close1, aft, retV, retSl, Go.Pi.one, eqT, eqs, eq1, Nat.reduceEqDiff, Nat.reduceAdd, Nat.reduceSub, Nat.reduceMul, Nat.reduceLeDiff, Nat.reduceLT, Nat.one_ne_zero, Nat.zero_ne_one, reduceIte, reduceCtorEq, bne_self_eq_false, decide_true, decide_false, Int.reduceToNat, Int.cast_ofNat_Int, Int.reduceLT, Int.reduceLE, Int.reduceEq, Int.reduceNeg, Int.reduceAdd, Int.reduceSub, xR_cell2, hcu, strsC_len, c4]
    repeat' ((with_reducible first | refine xG_dec ?_ ?_ | refine xG_ndec ?_ ?_ | refine xG_nsplit ?_ ?_ | refine xG_split ?_ ?_ | refine xC_dec ?_ ?_ | refine xC_ndec ?_ ?_ | refine xC_nsplit ?_ ?_ | refine xC_split ?_ ?_) <;> intro h <;> (try simp only [wCo, wFr, wOp, wBi, wLst, wLog, xB_other, Nat.reduceBEq, unT, loadP, storeP, partP, partT, partV, cellsP, mkAgg, allT, setRange, fillP, fieldA, indexS, indexA, indexV, indexStr, elems, lenP, pickV, cviV, nckV, extV, isNil, bound, close, close1, aft, retV, retSl, Go.Pi.one, eqT, eqs, eq1, Nat.reduceEqDiff, Nat.reduceAdd, Nat.reduceSub, Nat.reduceMul, Nat.reduceLeDiff, Nat.reduceLT, Nat.one_ne_zero, Nat.zero_ne_one, reduceIte, reduceCtorEq, bne_self_eq_false, decide_true, decide_false, Int.reduceToNat, Int.cast_ofNat_Int, Int.reduceLT, Int.reduceLE, Int.reduceEq, Int.reduceNeg, Int.reduceAdd, Int.reduceSub, xR_cell2, hcu, strsC_len, c4, h]))
    rfl
/-! ### Parse -/
theorem hV_ok (h : Int × Int × Int) (hh : hV h = true) : hOk h := by
  simp only [hV, Bool.and_eq_true, decide_eq_true_eq] at hh
  obtain ⟨⟨⟨h1, h2⟩, h3⟩, h4⟩ := hh
  have := known_bd h1
  exact ⟨by omega, by omega, by omega, by omega, by omega, by omega⟩
theorem vLin_ok {p vars : Int} (hv : vars ≤ 65536) (hp : p ≤ 18446744073709551615) : ∀ (l : LN) (last : Int), -1 ≤ last → vLin p vars last l = true → (∀ x, x ∈ l → 0 ≤ x.2) → lOk l := by
  intro l
  induction l with
  | nil => intro _ _ _ _ x hx; cases hx
  | cons t r ih =>
    intro last hl h hn x hx
    have ht := hn t List.mem_cons_self
    simp only [vLin] at h
    split at h
    · cases h
    rename_i hc
    have q1 : last < t.1 := by omega
    have q2 : t.1 < vars := by omega
    have q4 : t.2 < p := by omega
    have q5 := h
    rcases List.mem_cons.1 hx with e | e
    · subst e; exact ⟨by omega, by omega, by omega, by omega⟩
    · exact ih t.1 (by omega) q5 (fun y hy => hn y (List.mem_cons_of_mem _ hy)) x e
theorem furR_W {s : List UInt8} {r : R3} (h : furR s = some r) : (∀ x, x ∈ r.1 → tW x) ∧ (∀ x, x ∈ r.2.1 → tW x) ∧ (∀ x, x ∈ r.2.2 → tW x) := by
  unfold furR row3 at h
  split at h
  · rename_i r' hr
    split at h
    · injection h with h
      subst h
      split at hr
      · split at hr
        · split at hr
          · rename_i x y z hx hy hz
            injection hr with hr
            subst hr
            exact ⟨(linR_W hx).1, (linR_W hy).1, (linR_W hz).1⟩
          · cases hr
        · cases hr
      · cases hr
    · cases h
  · cases h
theorem vR_ok {h : Int × Int × Int} (hh : hV h = true) {s : List UInt8} {r : R3} (hr : furR s = some r) (hv : vR h r = true) : rOk r := by
  simp only [hV, Bool.and_eq_true, decide_eq_true_eq] at hh
  obtain ⟨⟨⟨h1, h2⟩, h3⟩, h4⟩ := hh
  have := known_bd h1
  obtain ⟨w1, w2, w3⟩ := furR_W hr
  simp only [vR, vRow, rw3, Bool.and_eq_true] at hv
  obtain ⟨⟨v1, v2⟩, v3⟩ := hv
  exact ⟨vLin_ok h4 (by omega) _ (-1) (by omega) v1 (fun x hx => (w1 x hx).2.2.1), vLin_ok h4 (by omega) _ (-1) (by omega) v2 (fun x hx => (w2 x hx).2.2.1), vLin_ok h4 (by omega) _ (-1) (by omega) v3 (fun x hx => (w3 x hx).2.2.1)⟩
theorem acc_ref {h : Int × Int × Int} (hh : hV h = true) (s : List UInt8) : acc h s = filt (vR h) (furR s) := by
  have key : ∀ r, filt (vR h) (rowO s) = some r ↔ filt (vR h) (furR s) = some r := by
    intro r
    rw [filt_iff, filt_iff]
    constructor
    · rintro ⟨h1, h2⟩
      refine ⟨?_, h2⟩
      obtain ⟨e, ho⟩ := rowO_spec h1
      rw [← e]
      exact furR_text ho
    · rintro ⟨h1, h2⟩
      refine ⟨?_, h2⟩
      have ho := vR_ok hh h1 h2
      rw [← furR_spec h1]
      exact rowO_text ho
  unfold acc
  cases h1 : filt (vR h) (rowO s) with
  | some r => rw [(key r).1 h1]
  | none =>
    cases h2 : filt (vR h) (furR s) with
    | none => rfl
    | some r => rw [(key r).2 h2] at h1; cases h1
/-- The rows that grow, wherever their token is. -/
def LstH (v : PV) (ow : Ow) (rows : List R3) : Prop := (v = .t (.sl true []) ∧ rows = []) ∨ ∃ k, v = .own k 3 (rowsC rows) ∧ ow[k]? = some rows.length ∧ rows ≠ []
theorem LstH.app {v : PV} {ow : Ow} {rows : List R3} (h : LstH v ow rows) (r : R3) (hb : rows.length + 1 ≤ 10000000) : ∃ k ow', (∀ sg : Sg, appendP false sg ow 3 72 v (.lit [[.sl r.1.isEmpty (r.1.map tTerm), .sl r.2.1.isEmpty (r.2.1.map tTerm), .sl r.2.2.isEmpty (r.2.2.map tTerm)]]) = some (.own k 3 (rowsC (rows ++ [r])), ow')) ∧ LstH (.own k 3 (rowsC (rows ++ [r]))) ow' (rows ++ [r]) := by
  have hr : room (rows.length + 1) 72 = true := room72 hb
  have e1 : rowsC (rows ++ [r]) = rowsC rows ++ [[.sl r.1.isEmpty (r.1.map tTerm), .sl r.2.1.isEmpty (r.2.1.map tTerm), .sl r.2.2.isEmpty (r.2.2.map tTerm)]] := by rw [rowsC_app]; rfl
  have h03 : 0 < 3 := by decide
  rcases h with ⟨rfl, rfl⟩ | ⟨k, rfl, h2, h3⟩
  · simp only [List.length_nil, Nat.zero_add] at hr
    refine ⟨ow.length, ow ++ [1], ?_, .inr ⟨ow.length, rfl, by simp, by simp⟩⟩
    intro sg
    rw [e1]
    simp only [appendP, elemsS, elems, List.all_cons, List.all_nil, List.length_cons, List.length_nil, hr, Nat.zero_add, Nat.reduceAdd, beq_self_eq_true, Bool.and_self, and_self, h03, if_true]
    rfl
  · have hk := (List.getElem?_eq_some_iff.1 h2).1
    refine ⟨k, ow.set k (rows.length + 1), ?_, .inr ⟨k, rfl, by simp [hk], by simp⟩⟩
    intro sg
    simp only [appendP, elemsS, elems, e1, List.all_cons, List.all_nil, List.length_cons, List.length_nil, rowsC_len, hr, h2, Nat.zero_add, Nat.reduceAdd, beq_self_eq_true, Bool.and_self, and_self, h03, if_true]
end Go.Proofs.YtbkphlhmbllbiaaGreatDoor
