/- LexerJoins in the small language. -/
import Derived.Test.YtamkdkieffgpiaaDoorL8
set_option maxRecDepth 10000
set_option linter.unusedVariables false
set_option linter.unusedSimpArgs false
namespace Go.Proofs.YtamkdkieffgpiaaDoor
open Go.Pi Go.Lx
variable {gl : Nat → Option (List T)}

def gapS : List (List UInt8) := [[32], [10], [9, 13], [32, 45, 45, 32, 120, 10], [32, 45, 45, 10], [32, 45, 45, 45, 32, 34, 33, 10, 10]]
def gapAt (gs : List Nat) (i : Nat) : List UInt8 := match gs[i]? with
  | some g => gapS.getD (g % 6) [32]
  | none => [32]
def prs (gs : List Nat) : Nat → List Tok → List (List UInt8 × Tok)
  | _, [] => []
  | i, t :: r => (gapAt gs i, t) :: prs gs (i + 1) r
theorem prs_map (gs : List Nat) : ∀ (r : List Tok) (i : Nat), (prs gs i r).map (·.2) = r := by
  intro r
  induction r with
  | nil => intro i; rfl
  | cons t r ih => intro i; simp only [prs, List.map_cons, ih]
theorem gapS_ok : ∀ g, g ∈ gapS → IsGap g ∧ g.length ≤ 9 := by
  intro g hg
  simp only [gapS, List.mem_cons, List.not_mem_nil, or_false] at hg
  rcases hg with rfl | rfl | rfl | rfl | rfl | rfl
  · exact ⟨⟨⟨_, _, rfl, by decide⟩, fun x => by simp [gapM, isBlk]; omega⟩, by simp⟩
  · exact ⟨⟨⟨_, _, rfl, by decide⟩, fun x => by simp [gapM, isBlk]; omega⟩, by simp⟩
  · exact ⟨⟨⟨_, _, rfl, by decide⟩, fun x => by simp [gapM, isBlk]; omega⟩, by simp⟩
  · exact ⟨⟨⟨_, _, rfl, by decide⟩, fun x => by simp [gapM, isBlk]; omega⟩, by simp⟩
  · exact ⟨⟨⟨_, _, rfl, by decide⟩, fun x => by simp [gapM, isBlk]; omega⟩, by simp⟩
  · exact ⟨⟨⟨_, _, rfl, by decide⟩, fun x => by simp [gapM, isBlk]; omega⟩, by simp⟩
theorem gapAt_mem (gs : List Nat) (i : Nat) : gapAt gs i ∈ gapS := by
  unfold gapAt
  split
  · rename_i g _
    have : ∀ k : Fin 6, gapS.getD k.1 [32] ∈ gapS := by decide
    exact this ⟨g % 6, by omega⟩
  · simp [gapS]
theorem prs_gap (gs : List Nat) : ∀ (r : List Tok) (i : Nat) (p : List UInt8 × Tok), p ∈ prs gs i r → IsGap p.1 := by
  intro r
  induction r with
  | nil => intro i p h; simp [prs] at h
  | cons t r ih =>
    intro i p h
    simp only [prs, List.mem_cons] at h
    rcases h with rfl | h
    · exact (gapS_ok _ (gapAt_mem gs i)).1
    · exact ih _ p h
def texts (l : List Tok) : Nat := (l.map fun t => t.text.length).sum
theorem prs_len (gs : List Nat) : ∀ (r : List Tok) (i : Nat), (joinT (prs gs i r)).length ≤ 9 * r.length + texts r := by
  intro r
  induction r with
  | nil => intro i; simp [prs, joinT]
  | cons t r ih =>
    intro i
    have := ih (i + 1)
    have := (gapS_ok _ (gapAt_mem gs i)).2
    simp only [prs, joinT, List.length_append, List.length_cons, texts, List.map_cons, List.sum_cons] at *
    omega
theorem lexR_texts : ∀ (n : Nat) (s : List UInt8) (pos : Nat) (l : List Tok), s.length = n → lexR pos s = .toks l → texts l ≤ s.length := by
  intro n
  induction n using Nat.strongRecOn with
  | _ n ih =>
    intro s pos l hl h
    rcases lex_cases s with h1 | ⟨h1, ⟨e, hn⟩ | ⟨k, m, v, hn⟩⟩
    · rw [lexR_end h1] at h
      injection h with h; subst h; simp [texts]
    · rw [lexR_err h1 hn] at h; cases h
    · have hp := next_pos hn
      rw [lexR_ok h1 hn] at h
      cases hq : lexR (pos + gap s + m) (s.drop (gap s + m)) with
      | err p e => rw [hq] at h; cases h
      | toks q =>
        rw [hq] at h
        have := ih (s.drop (gap s + m)).length (by simp only [List.length_drop] at hp ⊢; omega) _ _ q rfl hq
        injection h with h
        subst h
        simp only [texts, List.map_cons, List.sum_cons, List.length_take, List.length_drop] at hp this ⊢
        omega
theorem lit6 (g : Nat) : ([[.str [32]], [.str [10]], [.str [9, 13]], [.str [32, 45, 45, 32, 120, 10]], [.str [32, 45, 45, 10]], [.str [32, 45, 45, 45, 32, 34, 33, 10, 10]]] : List (List T))[g % 6]? = some [.str (gapS.getD (g % 6) [32])] := by
  have : g % 6 = 0 ∨ g % 6 = 1 ∨ g % 6 = 2 ∨ g % 6 = 3 ∨ g % 6 = 4 ∨ g % 6 = 5 := by omega
  rcases this with h | h | h | h | h | h <;> rw [h] <;> rfl
def tGs (gs : List Nat) : List (List T) := gs.map fun (n : Nat) => [.int .u8 (n : Int)]
theorem loop5 {A : PV} {nl : Bool} {gs : List Nat} (hgs : gs.length ≤ 100000) (hgb : ∀ g, g ∈ gs → g ≤ 255) {l : List Tok} (hl : l.length ≤ 100000) {ow : Ow} (Q : Ex → S → Prop) : ∀ (r : List Tok) (i : Nat) (out : List UInt8) (fr : List PV) (sg : Sg), l.drop i = r → out.length + (joinT (prs gs i r)).length ≤ 1000000 →
    FrAt fr [(1, .t (.sl nl (tGs gs))), (5, A), (8, .t (.str out)), (33, .t (.sl false (l.map tTok))), (34, .t (.int .i64 l.length)), (35, .t (.int .i64 i))] →
    (∀ fr' sg', FrAt fr' [(5, A), (8, .t (.str (out ++ joinT (prs gs i r))))] → Q (.exit 0) ⟨fr', sg', ow⟩) →
    Xl F gl lb5_0 ⟨fr, sg, ow⟩ Q ⟨⟩ := by
  intro r
  induction r with
  | nil =>
    intro i out fr sg hd hb hf h1
    have hd := drop_nil' hd
    simp only [FrAt_cons, FrAt_nil] at hf
    obtain ⟨f1, f5, f8, f33, f34, f35, -⟩ := hf
    refine Xl.step ?_
    simp only [lb5_0]
    have c1 : ¬ ((i : Int) < (l.length : Int)) := by omega
    simp only [wCo, wFr, wOp, wBi, wLst, wLog, xB_other, Nat.reduceBEq, unT, loadP, storeP, partP, partT, partV, cellsP, mkAgg, allT, setRange, fillP, fieldA, indexS, indexA, indexV, indexStr, elems, lenP, pickV, cviV, nckV, extV, isNil, bound, close, close1, aft, retV, retSl, one, eqT, eqs, eq1, Nat.reduceEqDiff, Nat.reduceAdd, Nat.reduceSub, Nat.reduceMul, Nat.reduceLeDiff, Nat.reduceLT, Nat.one_ne_zero, Nat.zero_ne_one, reduceIte, reduceCtorEq, bne_self_eq_false, decide_true, decide_false, Int.reduceToNat, Int.cast_ofNat_Int, Int.reduceLT, Int.reduceLE, Int.reduceEq, Int.reduceNeg, Int.reduceAdd, Int.reduceSub, f1, f5, f8, f33, f34, f35, c1]
    repeat' ((with_reducible first | refine xG_dec ?_ ?_ | refine xG_ndec ?_ ?_ | refine xG_nsplit ?_ ?_ | refine xG_split ?_ ?_ | refine xC_dec ?_ ?_ | refine xC_ndec ?_ ?_ | refine xC_nsplit ?_ ?_ | refine xC_split ?_ ?_) <;> intro h <;> (try simp only [wCo, wFr, wOp, wBi, wLst, wLog, xB_other, Nat.reduceBEq, unT, loadP, storeP, partP, partT, partV, cellsP, mkAgg, allT, setRange, fillP, fieldA, indexS, indexA, indexV, indexStr, elems, lenP, pickV, cviV, nckV, extV, isNil, bound, close, close1, aft, retV, retSl, one, eqT, eqs, eq1, Nat.reduceEqDiff, Nat.reduceAdd, Nat.reduceSub, Nat.reduceMul, Nat.reduceLeDiff, Nat.reduceLT, Nat.one_ne_zero, Nat.zero_ne_one, reduceIte, reduceCtorEq, bne_self_eq_false, decide_true, decide_false, Int.reduceToNat, Int.cast_ofNat_Int, Int.reduceLT, Int.reduceLE, Int.reduceEq, Int.reduceNeg, Int.reduceAdd, Int.reduceSub, f1, f5, f8, f33, f34, f35, c1, h]))
    exact h1 _ _ (by simp only [FrAt_cons, FrAt_nil, wFr, Nat.reduceEqDiff, Nat.one_ne_zero, Nat.zero_ne_one, reduceIte, and_self, and_true, true_and, f5, f8, prs, joinT, List.append_nil])
  | cons t r ih =>
    intro i out fr sg hd hb hf h1
    obtain ⟨hx, hr, hi⟩ := drop_cons hd
    simp only [FrAt_cons, FrAt_nil] at hf
    obtain ⟨f1, f5, f8, f33, f34, f35, -⟩ := hf
    have c1 : (i : Int) < (l.length : Int) := by omega
    have hw1 : IntKind.wrap .i64 ((i : Int) + 1) = ((i + 1 : Nat) : Int) := by rw [IntWalk.i64_in _ (by omega)]; omega
    have hglen : (tGs gs).length = gs.length := by simp [tGs]
    have ej : joinT (prs gs i (t :: r)) = gapAt gs i ++ (t.text ++ joinT (prs gs (i + 1) r)) := rfl
    rw [ej] at hb h1
    simp only [List.length_append] at hb
    have fin : ∀ fr2 sg2, FrAt fr2 [(1, .t (.sl nl (tGs gs))), (5, A), (8, .t (.str (out ++ (gapAt gs i ++ t.text)))), (33, .t (.sl false (l.map tTok))), (34, .t (.int .i64 l.length)), (35, .t (.int .i64 ((i + 1 : Nat) : Int)))] → Xl F gl lb5_0 ⟨fr2, sg2, ow⟩ Q ⟨⟩ := by
      intro fr2 sg2 hf2
      refine ih (i + 1) _ fr2 sg2 hr (by simp only [List.length_append]; omega) hf2 fun fr' sg' hf' => h1 fr' sg' ?_
      rw [List.append_assoc, List.append_assoc] at hf'
      exact hf'
    obtain ⟨kd, tx, vl, ps⟩ := t
    simp only at hx hb fin
    refine Xl.step ?_
    simp only [lb5_0]
    by_cases c2 : (i : Int) < (gs.length : Int)
    · obtain ⟨g, hgx⟩ : ∃ g, gs[i]? = some g := ⟨gs[i], List.getElem?_eq_getElem (by omega)⟩
      have hgm := hgb g (List.mem_of_getElem? hgx)
      have w1 : (g : Int).tmod 6 = ((g % 6 : Nat) : Int) := by rw [show (6 : Int) = ((6 : Nat) : Int) from rfl, Int.ofNat_tmod]
      have eg : gapAt gs i = gapS.getD (g % 6) [32] := by simp only [gapAt, hgx]
      have l6 := lit6 g
      rw [← eg] at l6
      generalize gapAt gs i = gp at *
      have p1 : gp.length + tx.length ≤ 4611686018427387904 := by omega
      have p2 : out.length + (gp.length + tx.length) ≤ 4611686018427387904 := by omega
      simp only [wCo, wFr, wOp, wBi, wLst, wLog, xB_other, Nat.reduceBEq, unT, loadP, storeP, partP, partT, partV, cellsP, mkAgg, allT, setRange, fillP, fieldA, indexS, indexA, indexV, indexStr, elems, lenP, pickV, cviV, nckV, extV, isNil, bound, close, close1, aft, retV, retSl, one, eqT, eqs, eq1, Nat.reduceEqDiff, Nat.reduceAdd, Nat.reduceSub, Nat.reduceMul, Nat.reduceLeDiff, Nat.reduceLT, Nat.one_ne_zero, Nat.zero_ne_one, reduceIte, reduceCtorEq, bne_self_eq_false, decide_true, decide_false, Int.reduceToNat, Int.cast_ofNat_Int, Int.reduceLT, Int.reduceLE, Int.reduceEq, Int.reduceNeg, Int.reduceAdd, Int.reduceSub, f1, f5, f8, f33, f34, f35, c1, c2, hw1, hglen, tGs, List.getElem?_map, hx, hgx, tTok, w1, bslV, chunks, cell1, T.isAgg, List.replicate, List.flatten_cons, List.flatten_nil, List.append_nil, l6, List.length_append, p1, p2, Int.toNat_natCast]
      repeat' (first | ((with_reducible first | refine xG_dec ?_ ?_ | refine xG_ndec ?_ ?_ | refine xG_nsplit ?_ ?_ | refine xG_split ?_ ?_ | refine xC_dec ?_ ?_ | refine xC_ndec ?_ ?_ | refine xC_nsplit ?_ ?_ | refine xC_split ?_ ?_) <;> intro h <;> (try simp only [wCo, wFr, wOp, wBi, wLst, wLog, xB_other, Nat.reduceBEq, unT, loadP, storeP, partP, partT, partV, cellsP, mkAgg, allT, setRange, fillP, fieldA, indexS, indexA, indexV, indexStr, elems, lenP, pickV, cviV, nckV, extV, isNil, bound, close, close1, aft, retV, retSl, one, eqT, eqs, eq1, Nat.reduceEqDiff, Nat.reduceAdd, Nat.reduceSub, Nat.reduceMul, Nat.reduceLeDiff, Nat.reduceLT, Nat.one_ne_zero, Nat.zero_ne_one, reduceIte, reduceCtorEq, bne_self_eq_false, decide_true, decide_false, Int.reduceToNat, Int.cast_ofNat_Int, Int.reduceLT, Int.reduceLE, Int.reduceEq, Int.reduceNeg, Int.reduceAdd, Int.reduceSub, f1, f5, f8, f33, f34, f35, c1, c2, hw1, hglen, tGs, List.getElem?_map, hx, hgx, tTok, w1, bslV, chunks, cell1, T.isAgg, List.replicate, List.flatten_cons, List.flatten_nil, List.append_nil, l6, List.length_append, p1, p2, Int.toNat_natCast, h])) | ((with_reducible refine xO_if (by first | omega | (simp only [List.length_append, List.length_cons, List.length_nil]; omega)) ?_); (try simp only [wCo, wFr, wOp, wBi, wLst, wLog, xB_other, Nat.reduceBEq, unT, loadP, storeP, partP, partT, partV, cellsP, mkAgg, allT, setRange, fillP, fieldA, indexS, indexA, indexV, indexStr, elems, lenP, pickV, cviV, nckV, extV, isNil, bound, close, close1, aft, retV, retSl, one, eqT, eqs, eq1, Nat.reduceEqDiff, Nat.reduceAdd, Nat.reduceSub, Nat.reduceMul, Nat.reduceLeDiff, Nat.reduceLT, Nat.one_ne_zero, Nat.zero_ne_one, reduceIte, reduceCtorEq, bne_self_eq_false, decide_true, decide_false, Int.reduceToNat, Int.cast_ofNat_Int, Int.reduceLT, Int.reduceLE, Int.reduceEq, Int.reduceNeg, Int.reduceAdd, Int.reduceSub, f1, f5, f8, f33, f34, f35, c1, c2, hw1, hglen, tGs, List.getElem?_map, hx, hgx, tTok, w1, bslV, chunks, cell1, T.isAgg, List.replicate, List.flatten_cons, List.flatten_nil, List.append_nil, l6, List.length_append, p1, p2, Int.toNat_natCast])))
      exact fin _ _ (by simp only [FrAt_cons, FrAt_nil, wFr, Nat.reduceEqDiff, Nat.one_ne_zero, Nat.zero_ne_one, reduceIte, and_self, and_true, true_and, f1, f5, f33, f34, tTok, tGs])
    · have eg : gapAt gs i = [32] := by simp only [gapAt, List.getElem?_eq_none (show gs.length ≤ i by omega)]
      rw [eg] at fin hb
      have p1 : 1 + tx.length ≤ 4611686018427387904 := by omega
      simp only [wCo, wFr, wOp, wBi, wLst, wLog, xB_other, Nat.reduceBEq, unT, loadP, storeP, partP, partT, partV, cellsP, mkAgg, allT, setRange, fillP, fieldA, indexS, indexA, indexV, indexStr, elems, lenP, pickV, cviV, nckV, extV, isNil, bound, close, close1, aft, retV, retSl, one, eqT, eqs, eq1, Nat.reduceEqDiff, Nat.reduceAdd, Nat.reduceSub, Nat.reduceMul, Nat.reduceLeDiff, Nat.reduceLT, Nat.one_ne_zero, Nat.zero_ne_one, reduceIte, reduceCtorEq, bne_self_eq_false, decide_true, decide_false, Int.reduceToNat, Int.cast_ofNat_Int, Int.reduceLT, Int.reduceLE, Int.reduceEq, Int.reduceNeg, Int.reduceAdd, Int.reduceSub, f1, f5, f8, f33, f34, f35, c1, c2, hw1, hglen, tGs, List.getElem?_map, hx, tTok, List.length_append]
      repeat' (first | ((with_reducible first | refine xG_dec ?_ ?_ | refine xG_ndec ?_ ?_ | refine xG_nsplit ?_ ?_ | refine xG_split ?_ ?_ | refine xC_dec ?_ ?_ | refine xC_ndec ?_ ?_ | refine xC_nsplit ?_ ?_ | refine xC_split ?_ ?_) <;> intro h <;> (try simp only [wCo, wFr, wOp, wBi, wLst, wLog, xB_other, Nat.reduceBEq, unT, loadP, storeP, partP, partT, partV, cellsP, mkAgg, allT, setRange, fillP, fieldA, indexS, indexA, indexV, indexStr, elems, lenP, pickV, cviV, nckV, extV, isNil, bound, close, close1, aft, retV, retSl, one, eqT, eqs, eq1, Nat.reduceEqDiff, Nat.reduceAdd, Nat.reduceSub, Nat.reduceMul, Nat.reduceLeDiff, Nat.reduceLT, Nat.one_ne_zero, Nat.zero_ne_one, reduceIte, reduceCtorEq, bne_self_eq_false, decide_true, decide_false, Int.reduceToNat, Int.cast_ofNat_Int, Int.reduceLT, Int.reduceLE, Int.reduceEq, Int.reduceNeg, Int.reduceAdd, Int.reduceSub, f1, f5, f8, f33, f34, f35, c1, c2, hw1, hglen, tGs, List.getElem?_map, hx, tTok, List.length_append, h])) | ((with_reducible refine xO_if (by first | omega | (simp only [List.length_append, List.length_cons, List.length_nil]; omega)) ?_); (try simp only [wCo, wFr, wOp, wBi, wLst, wLog, xB_other, Nat.reduceBEq, unT, loadP, storeP, partP, partT, partV, cellsP, mkAgg, allT, setRange, fillP, fieldA, indexS, indexA, indexV, indexStr, elems, lenP, pickV, cviV, nckV, extV, isNil, bound, close, close1, aft, retV, retSl, one, eqT, eqs, eq1, Nat.reduceEqDiff, Nat.reduceAdd, Nat.reduceSub, Nat.reduceMul, Nat.reduceLeDiff, Nat.reduceLT, Nat.one_ne_zero, Nat.zero_ne_one, reduceIte, reduceCtorEq, bne_self_eq_false, decide_true, decide_false, Int.reduceToNat, Int.cast_ofNat_Int, Int.reduceLT, Int.reduceLE, Int.reduceEq, Int.reduceNeg, Int.reduceAdd, Int.reduceSub, f1, f5, f8, f33, f34, f35, c1, c2, hw1, hglen, tGs, List.getElem?_map, hx, tTok, List.length_append])))
      exact fin _ _ (by simp only [FrAt_cons, FrAt_nil, wFr, Nat.reduceEqDiff, Nat.one_ne_zero, Nat.zero_ne_one, reduceIte, and_self, and_true, true_and, f1, f5, f33, f34, tTok, tGs]; try simp only [List.cons_append, List.nil_append])
theorem law5 (hg : GlOk gl) (s : List UInt8) (hs : s.length ≤ 140737488355328) (nl : Bool) (gs : List Nat) (hgs : gs.length ≤ 140737488355328) (hgb : ∀ g, g ∈ gs → g ≤ 255) : Ret F gl 5 [.str s, .sl nl (tGs gs)] (.t (.bool true)) := by
  refine Ret.of F5 rfl ?_
  simp only [ir5]
  have a10 := @ok10 gl hg
  have hglen : (tGs gs).length = gs.length := by simp [tGs]
  by_cases s1 : (600 : Int) < (s.length : Int)
  · simp only [wCo, wFr, wOp, wBi, wLst, wLog, xB_other, Nat.reduceBEq, unT, loadP, storeP, partP, partT, partV, cellsP, mkAgg, allT, setRange, fillP, fieldA, indexS, indexA, indexV, indexStr, elems, lenP, pickV, cviV, nckV, extV, isNil, bound, close, close1, aft, retV, retSl, one, eqT, eqs, eq1, Nat.reduceEqDiff, Nat.reduceAdd, Nat.reduceSub, Nat.reduceMul, Nat.reduceLeDiff, Nat.reduceLT, Nat.one_ne_zero, Nat.zero_ne_one, reduceIte, reduceCtorEq, bne_self_eq_false, decide_true, decide_false, Int.reduceToNat, Int.cast_ofNat_Int, Int.reduceLT, Int.reduceLE, Int.reduceEq, Int.reduceNeg, Int.reduceAdd, Int.reduceSub, a10, s1]
    repeat' ((with_reducible first | refine xG_dec ?_ ?_ | refine xG_ndec ?_ ?_ | refine xG_nsplit ?_ ?_ | refine xG_split ?_ ?_ | refine xC_dec ?_ ?_ | refine xC_ndec ?_ ?_ | refine xC_nsplit ?_ ?_ | refine xC_split ?_ ?_) <;> intro h <;> (try simp only [wCo, wFr, wOp, wBi, wLst, wLog, xB_other, Nat.reduceBEq, unT, loadP, storeP, partP, partT, partV, cellsP, mkAgg, allT, setRange, fillP, fieldA, indexS, indexA, indexV, indexStr, elems, lenP, pickV, cviV, nckV, extV, isNil, bound, close, close1, aft, retV, retSl, one, eqT, eqs, eq1, Nat.reduceEqDiff, Nat.reduceAdd, Nat.reduceSub, Nat.reduceMul, Nat.reduceLeDiff, Nat.reduceLT, Nat.one_ne_zero, Nat.zero_ne_one, reduceIte, reduceCtorEq, bne_self_eq_false, decide_true, decide_false, Int.reduceToNat, Int.cast_ofNat_Int, Int.reduceLT, Int.reduceLE, Int.reduceEq, Int.reduceNeg, Int.reduceAdd, Int.reduceSub, a10, s1, h]))
  · by_cases s2 : (600 : Int) < (gs.length : Int)
    · simp only [wCo, wFr, wOp, wBi, wLst, wLog, xB_other, Nat.reduceBEq, unT, loadP, storeP, partP, partT, partV, cellsP, mkAgg, allT, setRange, fillP, fieldA, indexS, indexA, indexV, indexStr, elems, lenP, pickV, cviV, nckV, extV, isNil, bound, close, close1, aft, retV, retSl, one, eqT, eqs, eq1, Nat.reduceEqDiff, Nat.reduceAdd, Nat.reduceSub, Nat.reduceMul, Nat.reduceLeDiff, Nat.reduceLT, Nat.one_ne_zero, Nat.zero_ne_one, reduceIte, reduceCtorEq, bne_self_eq_false, decide_true, decide_false, Int.reduceToNat, Int.cast_ofNat_Int, Int.reduceLT, Int.reduceLE, Int.reduceEq, Int.reduceNeg, Int.reduceAdd, Int.reduceSub, a10, s1, hglen, s2]
      repeat' ((with_reducible first | refine xG_dec ?_ ?_ | refine xG_ndec ?_ ?_ | refine xG_nsplit ?_ ?_ | refine xG_split ?_ ?_ | refine xC_dec ?_ ?_ | refine xC_ndec ?_ ?_ | refine xC_nsplit ?_ ?_ | refine xC_split ?_ ?_) <;> intro h <;> (try simp only [wCo, wFr, wOp, wBi, wLst, wLog, xB_other, Nat.reduceBEq, unT, loadP, storeP, partP, partT, partV, cellsP, mkAgg, allT, setRange, fillP, fieldA, indexS, indexA, indexV, indexStr, elems, lenP, pickV, cviV, nckV, extV, isNil, bound, close, close1, aft, retV, retSl, one, eqT, eqs, eq1, Nat.reduceEqDiff, Nat.reduceAdd, Nat.reduceSub, Nat.reduceMul, Nat.reduceLeDiff, Nat.reduceLT, Nat.one_ne_zero, Nat.zero_ne_one, reduceIte, reduceCtorEq, bne_self_eq_false, decide_true, decide_false, Int.reduceToNat, Int.cast_ofNat_Int, Int.reduceLT, Int.reduceLE, Int.reduceEq, Int.reduceNeg, Int.reduceAdd, Int.reduceSub, a10, s1, hglen, s2, h]))
    · rcases lex_two s with ⟨l, e1⟩ | ⟨p, e, e1⟩
      · have c1 := @ok11t gl hg s (by omega) l e1
        have l1 := lexR_len e1
        have b1 := prs_len gs l 0
        have b2 := lexR_texts _ s 0 l rfl e1
        have b3 : (joinT (prs gs 0 l)).length ≤ 16384 := by omega
        have hmap := prs_map gs l 0
        obtain ⟨l', e2, hal⟩ := lexR_join (prs gs 0 l) s 0 0 (by rw [hmap]; exact e1) (prs_gap gs l 0)
        rw [hmap] at hal
        have c2 := @ok11t gl hg _ b3 l' e2
        have c15 := @ok15 gl false false l l' (by omega)
        rw [alikeB_of (alike_symm hal)] at c15
        simp only [wCo, wFr, wOp, wBi, wLst, wLog, xB_other, Nat.reduceBEq, unT, loadP, storeP, partP, partT, partV, cellsP, mkAgg, allT, setRange, fillP, fieldA, indexS, indexA, indexV, indexStr, elems, lenP, pickV, cviV, nckV, extV, isNil, bound, close, close1, aft, retV, retSl, one, eqT, eqs, eq1, Nat.reduceEqDiff, Nat.reduceAdd, Nat.reduceSub, Nat.reduceMul, Nat.reduceLeDiff, Nat.reduceLT, Nat.one_ne_zero, Nat.zero_ne_one, reduceIte, reduceCtorEq, bne_self_eq_false, decide_true, decide_false, Int.reduceToNat, Int.cast_ofNat_Int, Int.reduceLT, Int.reduceLE, Int.reduceEq, Int.reduceNeg, Int.reduceAdd, Int.reduceSub, a10, s1, hglen, s2, c1, List.length_map, Bool.not_true]
        repeat' ((with_reducible first | refine xG_dec ?_ ?_ | refine xG_ndec ?_ ?_ | refine xG_nsplit ?_ ?_ | refine xG_split ?_ ?_ | refine xC_dec ?_ ?_ | refine xC_ndec ?_ ?_ | refine xC_nsplit ?_ ?_ | refine xC_split ?_ ?_) <;> intro h <;> (try simp only [wCo, wFr, wOp, wBi, wLst, wLog, xB_other, Nat.reduceBEq, unT, loadP, storeP, partP, partT, partV, cellsP, mkAgg, allT, setRange, fillP, fieldA, indexS, indexA, indexV, indexStr, elems, lenP, pickV, cviV, nckV, extV, isNil, bound, close, close1, aft, retV, retSl, one, eqT, eqs, eq1, Nat.reduceEqDiff, Nat.reduceAdd, Nat.reduceSub, Nat.reduceMul, Nat.reduceLeDiff, Nat.reduceLT, Nat.one_ne_zero, Nat.zero_ne_one, reduceIte, reduceCtorEq, bne_self_eq_false, decide_true, decide_false, Int.reduceToNat, Int.cast_ofNat_Int, Int.reduceLT, Int.reduceLE, Int.reduceEq, Int.reduceNeg, Int.reduceAdd, Int.reduceSub, a10, s1, hglen, s2, c1, List.length_map, Bool.not_true, h]))
        refine loop5 (A := .t (.sl false (l.map tTok))) (nl := nl) (gs := gs) (by omega) hgb (l := l) (by omega) _ l 0 [] _ _ rfl (by simp; omega) (by simp only [FrAt_cons, FrAt_nil, wFr, Nat.reduceEqDiff, Nat.one_ne_zero, Nat.zero_ne_one, reduceIte, and_self, and_true, true_and]) ?_
        intro fr' sg' hf'
        rw [List.nil_append] at hf'
        simp only [FrAt_cons, FrAt_nil] at hf'
        obtain ⟨f5, f8, -⟩ := hf'
        simp only [wCo, wFr, wOp, wBi, wLst, wLog, xB_other, Nat.reduceBEq, unT, loadP, storeP, partP, partT, partV, cellsP, mkAgg, allT, setRange, fillP, fieldA, indexS, indexA, indexV, indexStr, elems, lenP, pickV, cviV, nckV, extV, isNil, bound, close, close1, aft, retV, retSl, one, eqT, eqs, eq1, Nat.reduceEqDiff, Nat.reduceAdd, Nat.reduceSub, Nat.reduceMul, Nat.reduceLeDiff, Nat.reduceLT, Nat.one_ne_zero, Nat.zero_ne_one, reduceIte, reduceCtorEq, bne_self_eq_false, decide_true, decide_false, Int.reduceToNat, Int.cast_ofNat_Int, Int.reduceLT, Int.reduceLE, Int.reduceEq, Int.reduceNeg, Int.reduceAdd, Int.reduceSub, f5, f8, c2, c15]
        repeat' ((with_reducible first | refine xG_dec ?_ ?_ | refine xG_ndec ?_ ?_ | refine xG_nsplit ?_ ?_ | refine xG_split ?_ ?_ | refine xC_dec ?_ ?_ | refine xC_ndec ?_ ?_ | refine xC_nsplit ?_ ?_ | refine xC_split ?_ ?_) <;> intro h <;> (try simp only [wCo, wFr, wOp, wBi, wLst, wLog, xB_other, Nat.reduceBEq, unT, loadP, storeP, partP, partT, partV, cellsP, mkAgg, allT, setRange, fillP, fieldA, indexS, indexA, indexV, indexStr, elems, lenP, pickV, cviV, nckV, extV, isNil, bound, close, close1, aft, retV, retSl, one, eqT, eqs, eq1, Nat.reduceEqDiff, Nat.reduceAdd, Nat.reduceSub, Nat.reduceMul, Nat.reduceLeDiff, Nat.reduceLT, Nat.one_ne_zero, Nat.zero_ne_one, reduceIte, reduceCtorEq, bne_self_eq_false, decide_true, decide_false, Int.reduceToNat, Int.cast_ofNat_Int, Int.reduceLT, Int.reduceLE, Int.reduceEq, Int.reduceNeg, Int.reduceAdd, Int.reduceSub, f5, f8, c2, c15, h]))
      · have c1 := @ok11e gl hg s (by omega) p e e1
        have he : ¬ ((e : Int) = 0) := by rcases (lexR_at e1).2 with h | h <;> omega
        simp only [wCo, wFr, wOp, wBi, wLst, wLog, xB_other, Nat.reduceBEq, unT, loadP, storeP, partP, partT, partV, cellsP, mkAgg, allT, setRange, fillP, fieldA, indexS, indexA, indexV, indexStr, elems, lenP, pickV, cviV, nckV, extV, isNil, bound, close, close1, aft, retV, retSl, one, eqT, eqs, eq1, Nat.reduceEqDiff, Nat.reduceAdd, Nat.reduceSub, Nat.reduceMul, Nat.reduceLeDiff, Nat.reduceLT, Nat.one_ne_zero, Nat.zero_ne_one, reduceIte, reduceCtorEq, bne_self_eq_false, decide_true, decide_false, Int.reduceToNat, Int.cast_ofNat_Int, Int.reduceLT, Int.reduceLE, Int.reduceEq, Int.reduceNeg, Int.reduceAdd, Int.reduceSub, a10, s1, hglen, s2, c1, he, Bool.not_false]
        repeat' ((with_reducible first | refine xG_dec ?_ ?_ | refine xG_ndec ?_ ?_ | refine xG_nsplit ?_ ?_ | refine xG_split ?_ ?_ | refine xC_dec ?_ ?_ | refine xC_ndec ?_ ?_ | refine xC_nsplit ?_ ?_ | refine xC_split ?_ ?_) <;> intro h <;> (try simp only [wCo, wFr, wOp, wBi, wLst, wLog, xB_other, Nat.reduceBEq, unT, loadP, storeP, partP, partT, partV, cellsP, mkAgg, allT, setRange, fillP, fieldA, indexS, indexA, indexV, indexStr, elems, lenP, pickV, cviV, nckV, extV, isNil, bound, close, close1, aft, retV, retSl, one, eqT, eqs, eq1, Nat.reduceEqDiff, Nat.reduceAdd, Nat.reduceSub, Nat.reduceMul, Nat.reduceLeDiff, Nat.reduceLT, Nat.one_ne_zero, Nat.zero_ne_one, reduceIte, reduceCtorEq, bne_self_eq_false, decide_true, decide_false, Int.reduceToNat, Int.cast_ofNat_Int, Int.reduceLT, Int.reduceLE, Int.reduceEq, Int.reduceNeg, Int.reduceAdd, Int.reduceSub, a10, s1, hglen, s2, c1, he, Bool.not_false, h]))
theorem args5 (hg : GlOk gl) : ∀ xs, ArgsT 140737488355328 [(false, [.str]), (false, [.sl [.int .u8]])] xs → ∃ n sg ow, pcall F gl n 5 (xs.map .t) [] [] = some (.t (.bool true), sg, ow) := by
  intro xs h
  obtain ⟨x, r, rfl, hx, h⟩ := argsT_cons h
  obtain ⟨y, r, rfl, hy, h⟩ := argsT_cons h
  obtain rfl := argsT_nil h
  obtain ⟨a, rfl, ha⟩ := str_of hx
  obtain ⟨nl, es, rfl, hl, hnl, he⟩ := wt_sl (argT_one hy)
  obtain ⟨gs, rfl, hp⟩ := list_enc (enc := fun (n : Nat) => [.int .u8 (n : Int)]) (p := fun n => n ≤ 255) fun e hm => by
    obtain ⟨a, r, rfl, ha, hr⟩ := wts_cons (he e hm)
    obtain rfl := wts_nil hr
    obtain ⟨m, rfl, m1, m2⟩ := wt_u8 ha
    exact ⟨m.toNat, by rw [Int.toNat_of_nonneg m1], by omega⟩
  exact CallP.law (law5 hg a ha nl gs (by simpa using hl) hp)
end Go.Proofs.YtamkdkieffgpiaaDoor
