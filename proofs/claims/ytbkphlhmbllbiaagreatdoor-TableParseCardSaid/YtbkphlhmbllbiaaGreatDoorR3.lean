/- Contracts of the reference's reader: linear, further, first. -/
import Derived.Test.YtbkphlhmbllbiaaGreatDoorR2
import Derived.Test.YtbkphlhmbllbiaaGreatDoorP5
set_option maxRecDepth 10000
set_option linter.unusedVariables false
set_option linter.unusedSimpArgs false
namespace Go.Proofs.YtbkphlhmbllbiaaGreatDoor
open Go.Pi
variable {gl : Nat → Option (List T)}
/-- A list of terms that grows, wherever its token is. -/
def LstG (v : PV) (ow : Ow) (l : LN) : Prop := (v = .t (.sl true []) ∧ l = []) ∨ ∃ k, v = .own k 2 (l.map tTerm) ∧ ow[k]? = some l.length ∧ l ≠ []
theorem LstG.more {v : PV} {ow : Ow} {l : LN} (h : LstG v ow l) (m : Nat) : LstG v (ow ++ [m]) l := by
  rcases h with h | ⟨k, h1, h2, h3⟩
  · exact .inl h
  · exact .inr ⟨k, h1, by rw [List.getElem?_append_left (List.getElem?_eq_some_iff.1 h2).1]; exact h2, h3⟩
theorem LstG.app {v : PV} {ow : Ow} {l : LN} (h : LstG v ow l) (x y : Int) (hb : l.length + 1 ≤ 10000000) (sg : Sg) : ∃ v' ow', appendP true sg ow 2 16 v (.lit [[.int .i64 x, .int .u64 y]]) = some (v', ow') ∧ LstG v' ow' (l ++ [(x, y)]) := by
  have hr : room (l.length + 1) 16 = true := room16 hb
  have e1 : (l ++ [(x, y)]).map tTerm = l.map tTerm ++ [[.int .i64 x, .int .u64 y]] := by simp [tTerm]
  have h02 : 0 < 2 := by decide
  rcases h with ⟨rfl, rfl⟩ | ⟨k, rfl, h2, h3⟩
  · simp only [List.length_nil, Nat.zero_add] at hr
    refine ⟨.own ow.length 2 [[.int .i64 x, .int .u64 y]], ow ++ [1], ?_, .inr ⟨ow.length, rfl, by simp, by simp⟩⟩
    simp only [appendP, elemsS, elems, List.all_cons, List.all_nil, List.length_cons, List.length_nil, hr, Nat.zero_add, Nat.reduceAdd, beq_self_eq_true, Bool.and_self, and_self, h02, if_true]
  · have hk := (List.getElem?_eq_some_iff.1 h2).1
    refine ⟨.own k 2 ((l ++ [(x, y)]).map tTerm), ow.set k (l.length + 1), ?_, .inr ⟨k, rfl, by simp [hk], by simp⟩⟩
    simp only [appendP, elemsS, elems, e1, List.all_cons, List.all_nil, List.length_cons, List.length_nil, List.length_map, hr, h2, Nat.zero_add, Nat.reduceAdd, beq_self_eq_true, Bool.and_self, and_self, h02, if_true]
theorem mapO_mem {α β : Type} {f : α → Option β} : ∀ (ps : List α) (l : List β), mapO f ps = some l → ∀ b, b ∈ l → ∃ a, a ∈ ps ∧ f a = some b := by
  intro ps
  induction ps with
  | nil => intro l h b hb; injection h with h; subst h; cases hb
  | cons a r ih =>
    intro l h b hb
    simp only [mapO] at h
    split at h
    · rename_i x hx
      split at h
      · rename_i l' hl
        injection h with h
        subst h
        rcases List.mem_cons.1 hb with e | e
        · subst e; exact ⟨a, List.mem_cons_self, hx⟩
        · obtain ⟨a', h1, h2⟩ := ih _ hl b e
          exact ⟨a', List.mem_cons_of_mem _ h1, h2⟩
      · cases h
    · cases h
theorem least_rng (n : Nat) : 0 ≤ least n ∧ least n ≤ 1000000 := by
  unfold least
  split <;> omega
theorem termR_W {t : List UInt8} {x : Int × Int} (h : termR t = some x) : tW x := by
  unfold termR at h
  split at h
  · rename_i a b he
    injection h with h
    subst h
    obtain ⟨_, _, hb⟩ := mapO_mem _ _ he b (by simp)
    have := rnum_le hb
    have := least_rng a
    exact ⟨by simp only; omega, by simp only; omega, by simp only; omega, by simp only; omega⟩
  · cases h
theorem linR_W {s : List UInt8} {l : LN} (h : linR s = some l) : (∀ x, x ∈ l → tW x) ∧ l.length ≤ s.length + 2 := by
  unfold linR at h
  split at h
  · injection h with h; subst h; exact ⟨fun x hx => (by cases hx), by simp⟩
  · refine ⟨fun x hx => ?_, by rw [mapO_len _ _ h]; exact split_count s [32]⟩
    obtain ⟨t, _, ht⟩ := mapO_mem _ _ h x hx
    exact termR_W ht
theorem natsC_two (a b : Nat) : natsC [a, b] = [[.int .u64 (a : Int)], [.int .u64 (b : Int)]] := rfl
set_option maxHeartbeats 1000000 in
theorem loop37 (ps : List (List UInt8)) (hps : ps.length ≤ 1000000) (hl : ∀ p, p ∈ ps → p.length ≤ 900000) (sg : Sg) (Q : Ex → S → Prop) : ∀ (rest : List (List UInt8)) (i : Nat) (l : LN) (v : PV) (ow : Ow) (fr : List PV), ps.drop i = rest → l.length = i → LstG v ow l →
    FrAt fr [(4, v), (5, .own 0 1 (strsC ps)), (6, .t (.int .i64 i))] →
    (∀ l' fr' v' ow', mapO termR rest = some l' → LstG v' ow' (l ++ l') → FrAt fr' [(4, v')] → Q (.exit 0) ⟨fr', sg, ow'⟩) →
    (mapO termR rest = none → ∀ fr' ow', FrAt fr' [(2, .t (.sl true [])), (3, .t (.bool false))] → Q .ret ⟨fr', sg, ow'⟩) →
    Xl F gl lb37_0 ⟨fr, sg, ow⟩ Q ⟨⟩ := by
  intro rest
  induction rest with
  | nil =>
    intro i l v ow fr hd hi hv hf h1 h2
    have hd := drop_nil' hd
    simp only [FrAt_cons, FrAt_nil] at hf
    obtain ⟨f4, f5, f6, -⟩ := hf
    refine Xl.step ?_
    simp only [lb37_0]
    have c1 : ¬ ((i : Int) < (ps.length : Int)) := by omega
    simp only [wCo, wFr, wOp, wBi, wLst, wLog, xB_other, Nat.reduceBEq, unT, loadP, storeP, partP, partT, partV, cellsP, mkAgg, allT, setRange, fillP, fieldA, indexS, indexA, indexV, indexStr, elems, lenP, pickV, cviV, nckV, extV, isNil, bound, close, close1, aft, retV, retSl, Go.Pi.one, eqT, eqs, eq1, Nat.reduceEqDiff, Nat.reduceAdd, Nat.reduceSub, Nat.reduceMul, Nat.reduceLeDiff, Nat.reduceLT, Nat.one_ne_zero, Nat.zero_ne_one, reduceIte, reduceCtorEq, bne_self_eq_false, decide_true, decide_false, Int.reduceToNat, Int.cast_ofNat_Int, Int.reduceLT, Int.reduceLE, Int.reduceEq, Int.reduceNeg, Int.reduceAdd, Int.reduceSub, f4, f5, f6, strsC_len, c1]
    repeat' ((with_reducible first | refine xG_dec ?_ ?_ | refine xG_ndec ?_ ?_ | refine xG_nsplit ?_ ?_ | refine xG_split ?_ ?_ | refine xC_dec ?_ ?_ | refine xC_ndec ?_ ?_ | refine xC_nsplit ?_ ?_ | refine xC_split ?_ ?_) <;> intro h <;> (try simp only [wCo, wFr, wOp, wBi, wLst, wLog, xB_other, Nat.reduceBEq, unT, loadP, storeP, partP, partT, partV, cellsP, mkAgg, allT, setRange, fillP, fieldA, indexS, indexA, indexV, indexStr, elems, lenP, pickV, cviV, nckV, extV, isNil, bound, close, close1, aft, retV, retSl, Go.Pi.one, eqT, eqs, eq1, Nat.reduceEqDiff, Nat.reduceAdd, Nat.reduceSub, Nat.reduceMul, Nat.reduceLeDiff, Nat.reduceLT, Nat.one_ne_zero, Nat.zero_ne_one, reduceIte, reduceCtorEq, bne_self_eq_false, decide_true, decide_false, Int.reduceToNat, Int.cast_ofNat_Int, Int.reduceLT, Int.reduceLE, Int.reduceEq, Int.reduceNeg, Int.reduceAdd, Int.reduceSub, f4, f5, f6, strsC_len, c1, h]))
    exact h1 [] _ v ow rfl (by rw [List.append_nil]; exact hv) (by simp only [FrAt_cons, FrAt_nil, wFr, Nat.reduceEqDiff, Nat.one_ne_zero, Nat.zero_ne_one, reduceIte, and_self, and_true, true_and, f4])
  | cons t r ih =>
    intro i l v ow fr hd hi hv hf h1 h2
    obtain ⟨hx, hr, hi'⟩ := drop_cons hd
    have ht := hl t (List.mem_of_getElem? hx)
    simp only [FrAt_cons, FrAt_nil] at hf
    obtain ⟨f4, f5, f6, -⟩ := hf
    have c1 : (i : Int) < (ps.length : Int) := by omega
    have ci : (0 : Int) ≤ (i : Int) := by omega
    have hb := strsC_at hx
    have hw1 : IntKind.wrap .i64 ((i : Int) + 1) = ((i + 1 : Nat) : Int) := by rw [IntWalk.i64_in _ (by omega)]; omega
    have hcu := @ok13 gl t [58] (by simp) (by omega) (by simp)
    have hcl := split_len t [58]
    have hcc := split_count t [58]
    have hnu := @ok33 gl false (Lib.split t [58]) (by omega) (fun p hp => by have := hcl p hp; omega)
    have htr : termR t = match mapO rnum (Lib.split t [58]) with
      | some [a, b] => some (least a, (b : Int))
      | _ => none := rfl
    have hle : ∀ l, mapO rnum (Lib.split t [58]) = some l → ∀ n, n ∈ l → n ≤ 18446744073709551615 := by
      intro l h n hn
      obtain ⟨_, _, e⟩ := mapO_mem _ _ h n hn
      exact rnum_le e
    have bad : termR t = none → mapO termR (t :: r) = none := fun h => by simp only [mapO, h]
    have hv' := hv.more (strsC (Lib.split t [58])).length
    refine Xl.step ?_
    simp only [lb37_0]
    cases hm : mapO rnum (Lib.split t [58]) with
    | none =>
      simp only [nusV, hm] at hnu
      rw [hm] at htr
      simp only at htr
      simp only [wCo, wFr, wOp, wBi, wLst, wLog, xB_other, Nat.reduceBEq, unT, loadP, storeP, partP, partT, partV, cellsP, mkAgg, allT, setRange, fillP, fieldA, indexS, indexA, indexV, indexStr, elems, lenP, pickV, cviV, nckV, extV, isNil, bound, close, close1, aft, retV, retSl, Go.Pi.one, eqT, eqs, eq1, Nat.reduceEqDiff, Nat.reduceAdd, Nat.reduceSub, Nat.reduceMul, Nat.reduceLeDiff, Nat.reduceLT, Nat.one_ne_zero, Nat.zero_ne_one, reduceIte, reduceCtorEq, bne_self_eq_false, decide_true, decide_false, Int.reduceToNat, Int.cast_ofNat_Int, Int.reduceLT, Int.reduceLE, Int.reduceEq, Int.reduceNeg, Int.reduceAdd, Int.reduceSub, f4, f5, f6, strsC_len, c1, ci, hb, hcu, hnu, Int.toNat_natCast]
      repeat' ((with_reducible first | refine xG_dec ?_ ?_ | refine xG_ndec ?_ ?_ | refine xG_nsplit ?_ ?_ | refine xG_split ?_ ?_ | refine xC_dec ?_ ?_ | refine xC_ndec ?_ ?_ | refine xC_nsplit ?_ ?_ | refine xC_split ?_ ?_) <;> intro h <;> (try simp only [wCo, wFr, wOp, wBi, wLst, wLog, xB_other, Nat.reduceBEq, unT, loadP, storeP, partP, partT, partV, cellsP, mkAgg, allT, setRange, fillP, fieldA, indexS, indexA, indexV, indexStr, elems, lenP, pickV, cviV, nckV, extV, isNil, bound, close, close1, aft, retV, retSl, Go.Pi.one, eqT, eqs, eq1, Nat.reduceEqDiff, Nat.reduceAdd, Nat.reduceSub, Nat.reduceMul, Nat.reduceLeDiff, Nat.reduceLT, Nat.one_ne_zero, Nat.zero_ne_one, reduceIte, reduceCtorEq, bne_self_eq_false, decide_true, decide_false, Int.reduceToNat, Int.cast_ofNat_Int, Int.reduceLT, Int.reduceLE, Int.reduceEq, Int.reduceNeg, Int.reduceAdd, Int.reduceSub, f4, f5, f6, strsC_len, c1, ci, hb, hcu, hnu, Int.toNat_natCast, h]))
      exact h2 (bad htr) _ _ (by simp only [FrAt_cons, FrAt_nil, wFr, Nat.reduceEqDiff, Nat.one_ne_zero, Nat.zero_ne_one, reduceIte, and_self, and_true, true_and])
    | some ns =>
      simp only [nusV, hm] at hnu
      by_cases h22 : ns.length = 2
      · match ns, h22 with
        | [a, b], _ =>
          rw [hm] at htr
          simp only at htr
          have la := hle _ hm a (by simp)
          have lb := hle _ hm b (by simp)
          have hls := @ok34 gl a la
          simp only [natsC_two] at hnu
          obtain ⟨v2, ow2, e1, e2⟩ := hv'.app (least a) (b : Int) (by omega) sg
          simp only [strsC_len] at e1
          simp only [wCo, wFr, wOp, wBi, wLst, wLog, xB_other, Nat.reduceBEq, unT, loadP, storeP, partP, partT, partV, cellsP, mkAgg, allT, setRange, fillP, fieldA, indexS, indexA, indexV, indexStr, elems, lenP, pickV, cviV, nckV, extV, isNil, bound, close, close1, aft, retV, retSl, Go.Pi.one, eqT, eqs, eq1, Nat.reduceEqDiff, Nat.reduceAdd, Nat.reduceSub, Nat.reduceMul, Nat.reduceLeDiff, Nat.reduceLT, Nat.one_ne_zero, Nat.zero_ne_one, reduceIte, reduceCtorEq, bne_self_eq_false, decide_true, decide_false, Int.reduceToNat, Int.cast_ofNat_Int, Int.reduceLT, Int.reduceLE, Int.reduceEq, Int.reduceNeg, Int.reduceAdd, Int.reduceSub, f4, f5, f6, strsC_len, c1, ci, hb, hcu, hnu, hls, e1, hw1, Int.toNat_natCast, bslV, chunks, cell1, T.isAgg, List.replicate, List.flatten_cons, List.flatten_nil, List.append_nil]
          repeat' ((with_reducible first | refine xG_dec ?_ ?_ | refine xG_ndec ?_ ?_ | refine xG_nsplit ?_ ?_ | refine xG_split ?_ ?_ | refine xC_dec ?_ ?_ | refine xC_ndec ?_ ?_ | refine xC_nsplit ?_ ?_ | refine xC_split ?_ ?_) <;> intro h <;> (try simp only [wCo, wFr, wOp, wBi, wLst, wLog, xB_other, Nat.reduceBEq, unT, loadP, storeP, partP, partT, partV, cellsP, mkAgg, allT, setRange, fillP, fieldA, indexS, indexA, indexV, indexStr, elems, lenP, pickV, cviV, nckV, extV, isNil, bound, close, close1, aft, retV, retSl, Go.Pi.one, eqT, eqs, eq1, Nat.reduceEqDiff, Nat.reduceAdd, Nat.reduceSub, Nat.reduceMul, Nat.reduceLeDiff, Nat.reduceLT, Nat.one_ne_zero, Nat.zero_ne_one, reduceIte, reduceCtorEq, bne_self_eq_false, decide_true, decide_false, Int.reduceToNat, Int.cast_ofNat_Int, Int.reduceLT, Int.reduceLE, Int.reduceEq, Int.reduceNeg, Int.reduceAdd, Int.reduceSub, f4, f5, f6, strsC_len, c1, ci, hb, hcu, hnu, hls, e1, hw1, Int.toNat_natCast, bslV, chunks, cell1, T.isAgg, List.replicate, List.flatten_cons, List.flatten_nil, List.append_nil, h]))
          refine ih (i + 1) (l ++ [(least a, (b : Int))]) v2 ow2 _ hr (by simp [hi]) e2 (by simp only [FrAt_cons, FrAt_nil, wFr, Nat.reduceEqDiff, Nat.one_ne_zero, Nat.zero_ne_one, reduceIte, and_self, and_true, true_and, f5]) ?_ ?_
          · intro l' fr' v' ow' hm' hv'' hf'
            refine h1 ((least a, (b : Int)) :: l') fr' v' ow' (by simp only [mapO, htr, hm']) ?_ hf'
            rw [List.append_assoc] at hv''
            exact hv''
          · intro hm' fr' ow' hf'
            exact h2 (by simp only [mapO, htr, hm']) fr' ow' hf'
      · have htr' : termR t = none := by
          rw [htr, hm]
          split
          · rename_i he
            injection he with he
            subst he
            simp at h22
          · rfl
        have c2 : ¬ ((ns.length : Int) = 2) := by omega
        simp only [wCo, wFr, wOp, wBi, wLst, wLog, xB_other, Nat.reduceBEq, unT, loadP, storeP, partP, partT, partV, cellsP, mkAgg, allT, setRange, fillP, fieldA, indexS, indexA, indexV, indexStr, elems, lenP, pickV, cviV, nckV, extV, isNil, bound, close, close1, aft, retV, retSl, Go.Pi.one, eqT, eqs, eq1, Nat.reduceEqDiff, Nat.reduceAdd, Nat.reduceSub, Nat.reduceMul, Nat.reduceLeDiff, Nat.reduceLT, Nat.one_ne_zero, Nat.zero_ne_one, reduceIte, reduceCtorEq, bne_self_eq_false, decide_true, decide_false, Int.reduceToNat, Int.cast_ofNat_Int, Int.reduceLT, Int.reduceLE, Int.reduceEq, Int.reduceNeg, Int.reduceAdd, Int.reduceSub, f4, f5, f6, strsC_len, natsC_len, c1, ci, hb, hcu, hnu, c2, Int.toNat_natCast]
        repeat' ((with_reducible first | refine xG_dec ?_ ?_ | refine xG_ndec ?_ ?_ | refine xG_nsplit ?_ ?_ | refine xG_split ?_ ?_ | refine xC_dec ?_ ?_ | refine xC_ndec ?_ ?_ | refine xC_nsplit ?_ ?_ | refine xC_split ?_ ?_) <;> intro h <;> (try simp only [wCo, wFr, wOp, wBi, wLst, wLog, xB_other, Nat.reduceBEq, unT, loadP, storeP, partP, partT, partV, cellsP, mkAgg, allT, setRange, fillP, fieldA, indexS, indexA, indexV, indexStr, elems, lenP, pickV, cviV, nckV, extV, isNil, bound, close, close1, aft, retV, retSl, Go.Pi.one, eqT, eqs, eq1, Nat.reduceEqDiff, Nat.reduceAdd, Nat.reduceSub, Nat.reduceMul, Nat.reduceLeDiff, Nat.reduceLT, Nat.one_ne_zero, Nat.zero_ne_one, reduceIte, reduceCtorEq, bne_self_eq_false, decide_true, decide_false, Int.reduceToNat, Int.cast_ofNat_Int, Int.reduceLT, Int.reduceLE, Int.reduceEq, Int.reduceNeg, Int.reduceAdd, Int.reduceSub, f4, f5, f6, strsC_len, natsC_len, c1, ci, hb, hcu, hnu, c2, Int.toNat_natCast, h]))
        exact h2 (bad htr') _ _ (by simp only [FrAt_cons, FrAt_nil, wFr, Nat.reduceEqDiff, Nat.one_ne_zero, Nat.zero_ne_one, reduceIte, and_self, and_true, true_and])
def plR (t : List UInt8) : PV := match linR t with
  | some l => .tup [.t (tLin (l.isEmpty, l)), .t (.bool true)]
  | none => .tup [.t (.sl true []), .t (.bool false)]
theorem ok37 {t : List UInt8} (ht : t.length ≤ 900000) {K : PV → Prop} : XcP F gl 37 [.str t] K ⟨⟩ ↔ K (plR t) := by
  refine Ret.iff (Ret.of F37 rfl ?_)
  simp only [ir37]
  by_cases h45 : t = [45]
  · have hl : linR t = some [] := by rw [linR, if_pos h45]
    simp only [wCo, wFr, wOp, wBi, wLst, wLog, xB_other, Nat.reduceBEq, unT, loadP, storeP, partP, partT, partV, cellsP, mkAgg, allT, setRange, fillP, fieldA, indexS, indexA, indexV, indexStr, elems, lenP, pickV, cviV, nckV, extV, isNil, bound, close, close1, aft, retV, retSl, Go.Pi.one, eqT, eqs, eq1, Nat.reduceEqDiff, Nat.reduceAdd, Nat.reduceSub, Nat.reduceMul, Nat.reduceLeDiff, Nat.reduceLT, Nat.one_ne_zero, Nat.zero_ne_one, reduceIte, reduceCtorEq, bne_self_eq_false, decide_true, decide_false, Int.reduceToNat, Int.cast_ofNat_Int, Int.reduceLT, Int.reduceLE, Int.reduceEq, Int.reduceNeg, Int.reduceAdd, Int.reduceSub, h45]
    repeat' ((with_reducible first | refine xG_dec ?_ ?_ | refine xG_ndec ?_ ?_ | refine xG_nsplit ?_ ?_ | refine xG_split ?_ ?_ | refine xC_dec ?_ ?_ | refine xC_ndec ?_ ?_ | refine xC_nsplit ?_ ?_ | refine xC_split ?_ ?_) <;> intro h <;> (try simp only [wCo, wFr, wOp, wBi, wLst, wLog, xB_other, Nat.reduceBEq, unT, loadP, storeP, partP, partT, partV, cellsP, mkAgg, allT, setRange, fillP, fieldA, indexS, indexA, indexV, indexStr, elems, lenP, pickV, cviV, nckV, extV, isNil, bound, close, close1, aft, retV, retSl, Go.Pi.one, eqT, eqs, eq1, Nat.reduceEqDiff, Nat.reduceAdd, Nat.reduceSub, Nat.reduceMul, Nat.reduceLeDiff, Nat.reduceLT, Nat.one_ne_zero, Nat.zero_ne_one, reduceIte, reduceCtorEq, bne_self_eq_false, decide_true, decide_false, Int.reduceToNat, Int.cast_ofNat_Int, Int.reduceLT, Int.reduceLE, Int.reduceEq, Int.reduceNeg, Int.reduceAdd, Int.reduceSub, h45, h]))
    rw [← h45, plR, hl]
    rfl
  · have hl : linR t = mapO termR (Lib.split t [32]) := by rw [linR, if_neg h45]
    have hcu := @ok13 gl t [32] (by simp) (by omega) (by simp)
    have hn := split_count t [32]
    have hp := split_len t [32]
    simp only [wCo, wFr, wOp, wBi, wLst, wLog, xB_other, Nat.reduceBEq, unT, loadP, storeP, partP, partT, partV, cellsP, mkAgg, allT, setRange, fillP, fieldA, indexS, indexA, indexV, indexStr, elems, lenP, pickV, cviV, nckV, extV, isNil, bound, close, close1, aft, retV, retSl, Go.Pi.one, eqT, eqs, eq1, Nat.reduceEqDiff, Nat.reduceAdd, Nat.reduceSub, Nat.reduceMul, Nat.reduceLeDiff, Nat.reduceLT, Nat.one_ne_zero, Nat.zero_ne_one, reduceIte, reduceCtorEq, bne_self_eq_false, decide_true, decide_false, Int.reduceToNat, Int.cast_ofNat_Int, Int.reduceLT, Int.reduceLE, Int.reduceEq, Int.reduceNeg, Int.reduceAdd, Int.reduceSub, h45, hcu]
    repeat' ((with_reducible first | refine xG_dec ?_ ?_ | refine xG_ndec ?_ ?_ | refine xG_nsplit ?_ ?_ | refine xG_split ?_ ?_ | refine xC_dec ?_ ?_ | refine xC_ndec ?_ ?_ | refine xC_nsplit ?_ ?_ | refine xC_split ?_ ?_) <;> intro h <;> (try simp only [wCo, wFr, wOp, wBi, wLst, wLog, xB_other, Nat.reduceBEq, unT, loadP, storeP, partP, partT, partV, cellsP, mkAgg, allT, setRange, fillP, fieldA, indexS, indexA, indexV, indexStr, elems, lenP, pickV, cviV, nckV, extV, isNil, bound, close, close1, aft, retV, retSl, Go.Pi.one, eqT, eqs, eq1, Nat.reduceEqDiff, Nat.reduceAdd, Nat.reduceSub, Nat.reduceMul, Nat.reduceLeDiff, Nat.reduceLT, Nat.one_ne_zero, Nat.zero_ne_one, reduceIte, reduceCtorEq, bne_self_eq_false, decide_true, decide_false, Int.reduceToNat, Int.cast_ofNat_Int, Int.reduceLT, Int.reduceLE, Int.reduceEq, Int.reduceNeg, Int.reduceAdd, Int.reduceSub, h45, hcu, h]))
    refine loop37 (Lib.split t [32]) (by omega) (fun p hp' => by have := hp p hp'; omega) _ _ (Lib.split t [32]) 0 [] (.t (.sl true [])) _ _ rfl rfl (.inl ⟨rfl, rfl⟩) (by simp only [FrAt_cons, FrAt_nil, wFr, Nat.reduceEqDiff, Nat.one_ne_zero, Nat.zero_ne_one, reduceIte, and_self, and_true, true_and] <;> try rfl) ?_ ?_
    · intro l' fr' v' ow' hm hv' hf'
      simp only [FrAt_cons, FrAt_nil] at hf'
      obtain ⟨g4, -⟩ := hf'
      rw [plR, hl, hm]
      rw [List.nil_append] at hv'
      rcases hv' with ⟨rfl, rfl⟩ | ⟨k, rfl, _, hne⟩
      · simp only [wCo, wFr, wOp, wBi, wLst, wLog, xB_other, Nat.reduceBEq, unT, loadP, storeP, partP, partT, partV, cellsP, mkAgg, allT, setRange, fillP, fieldA, indexS, indexA, indexV, indexStr, elems, lenP, pickV, cviV, nckV, extV, isNil, bound, close, close1, aft, retV, retSl, Go.Pi.one, eqT, eqs, eq1, Nat.reduceEqDiff, Nat.reduceAdd, Nat.reduceSub, Nat.reduceMul, Nat.reduceLeDiff, Nat.reduceLT, Nat.one_ne_zero, Nat.zero_ne_one, reduceIte, reduceCtorEq, bne_self_eq_false, decide_true, decide_false, Int.reduceToNat, Int.cast_ofNat_Int, Int.reduceLT, Int.reduceLE, Int.reduceEq, Int.reduceNeg, Int.reduceAdd, Int.reduceSub, g4]
        repeat' ((with_reducible first | refine xG_dec ?_ ?_ | refine xG_ndec ?_ ?_ | refine xG_nsplit ?_ ?_ | refine xG_split ?_ ?_ | refine xC_dec ?_ ?_ | refine xC_ndec ?_ ?_ | refine xC_nsplit ?_ ?_ | refine xC_split ?_ ?_) <;> intro h <;> (try simp only [wCo, wFr, wOp, wBi, wLst, wLog, xB_other, Nat.reduceBEq, unT, loadP, storeP, partP, partT, partV, cellsP, mkAgg, allT, setRange, fillP, fieldA, indexS, indexA, indexV, indexStr, elems, lenP, pickV, cviV, nckV, extV, isNil, bound, close, close1, aft, retV, retSl, Go.Pi.one, eqT, eqs, eq1, Nat.reduceEqDiff, Nat.reduceAdd, Nat.reduceSub, Nat.reduceMul, Nat.reduceLeDiff, Nat.reduceLT, Nat.one_ne_zero, Nat.zero_ne_one, reduceIte, reduceCtorEq, bne_self_eq_false, decide_true, decide_false, Int.reduceToNat, Int.cast_ofNat_Int, Int.reduceLT, Int.reduceLE, Int.reduceEq, Int.reduceNeg, Int.reduceAdd, Int.reduceSub, g4, h]))
        rfl
      · have he : l'.isEmpty = false := by cases l' with
          | nil => exact absurd rfl hne
          | cons x y => rfl
        simp only [wCo, wFr, wOp, wBi, wLst, wLog, xB_other, Nat.reduceBEq, unT, loadP, storeP, partP, partT, partV, cellsP, mkAgg, allT, setRange, fillP, fieldA, indexS, indexA, indexV, indexStr, elems, lenP, pickV, cviV, nckV, extV, isNil, bound, close, close1, aft, retV, retSl, Go.Pi.one, eqT, eqs, eq1, Nat.reduceEqDiff, Nat.reduceAdd, Nat.reduceSub, Nat.reduceMul, Nat.reduceLeDiff, Nat.reduceLT, Nat.one_ne_zero, Nat.zero_ne_one, reduceIte, reduceCtorEq, bne_self_eq_false, decide_true, decide_false, Int.reduceToNat, Int.cast_ofNat_Int, Int.reduceLT, Int.reduceLE, Int.reduceEq, Int.reduceNeg, Int.reduceAdd, Int.reduceSub, g4]
        repeat' ((with_reducible first | refine xG_dec ?_ ?_ | refine xG_ndec ?_ ?_ | refine xG_nsplit ?_ ?_ | refine xG_split ?_ ?_ | refine xC_dec ?_ ?_ | refine xC_ndec ?_ ?_ | refine xC_nsplit ?_ ?_ | refine xC_split ?_ ?_) <;> intro h <;> (try simp only [wCo, wFr, wOp, wBi, wLst, wLog, xB_other, Nat.reduceBEq, unT, loadP, storeP, partP, partT, partV, cellsP, mkAgg, allT, setRange, fillP, fieldA, indexS, indexA, indexV, indexStr, elems, lenP, pickV, cviV, nckV, extV, isNil, bound, close, close1, aft, retV, retSl, Go.Pi.one, eqT, eqs, eq1, Nat.reduceEqDiff, Nat.reduceAdd, Nat.reduceSub, Nat.reduceMul, Nat.reduceLeDiff, Nat.reduceLT, Nat.one_ne_zero, Nat.zero_ne_one, reduceIte, reduceCtorEq, bne_self_eq_false, decide_true, decide_false, Int.reduceToNat, Int.cast_ofNat_Int, Int.reduceLT, Int.reduceLE, Int.reduceEq, Int.reduceNeg, Int.reduceAdd, Int.reduceSub, g4, h]))
        simp [tLin, he]
    · intro hm fr' ow' hf'
      simp only [FrAt_cons, FrAt_nil] at hf'
      obtain ⟨g2, g3, -⟩ := hf'
      rw [plR, hl, hm]
      simp only [wCo, wFr, wOp, wBi, wLst, wLog, xB_other, Nat.reduceBEq, unT, loadP, storeP, partP, partT, partV, cellsP, mkAgg, allT, setRange, fillP, fieldA, indexS, indexA, indexV, indexStr, elems, lenP, pickV, cviV, nckV, extV, isNil, bound, close, close1, aft, retV, retSl, Go.Pi.one, eqT, eqs, eq1, Nat.reduceEqDiff, Nat.reduceAdd, Nat.reduceSub, Nat.reduceMul, Nat.reduceLeDiff, Nat.reduceLT, Nat.one_ne_zero, Nat.zero_ne_one, reduceIte, reduceCtorEq, bne_self_eq_false, decide_true, decide_false, Int.reduceToNat, Int.cast_ofNat_Int, Int.reduceLT, Int.reduceLE, Int.reduceEq, Int.reduceNeg, Int.reduceAdd, Int.reduceSub, g2, g3]
      repeat' ((with_reducible first | refine xG_dec ?_ ?_ | refine xG_ndec ?_ ?_ | refine xG_nsplit ?_ ?_ | refine xG_split ?_ ?_ | refine xC_dec ?_ ?_ | refine xC_ndec ?_ ?_ | refine xC_nsplit ?_ ?_ | refine xC_split ?_ ?_) <;> intro h <;> (try simp only [wCo, wFr, wOp, wBi, wLst, wLog, xB_other, Nat.reduceBEq, unT, loadP, storeP, partP, partT, partV, cellsP, mkAgg, allT, setRange, fillP, fieldA, indexS, indexA, indexV, indexStr, elems, lenP, pickV, cviV, nckV, extV, isNil, bound, close, close1, aft, retV, retSl, Go.Pi.one, eqT, eqs, eq1, Nat.reduceEqDiff, Nat.reduceAdd, Nat.reduceSub, Nat.reduceMul, Nat.reduceLeDiff, Nat.reduceLT, Nat.one_ne_zero, Nat.zero_ne_one, reduceIte, reduceCtorEq, bne_self_eq_false, decide_true, decide_false, Int.reduceToNat, Int.cast_ofNat_Int, Int.reduceLT, Int.reduceLE, Int.reduceEq, Int.reduceNeg, Int.reduceAdd, Int.reduceSub, g2, g3, h]))
end Go.Proofs.YtbkphlhmbllbiaaGreatDoor
