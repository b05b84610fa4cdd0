/- Contracts: the text of a table. -/
import Derived.Test.YtbkphlhmbllbiaaDoorT1
import Derived.Test.YtbkphlhmbllbiaaDoorB2
import Derived.Test.YtbkphlhmbllbiaaDoorPi31
set_option maxRecDepth 10000
set_option linter.unusedVariables false
set_option linter.unusedSimpArgs false
namespace Go.Proofs.YtbkphlhmbllbiaaDoor
open Go.Pi Go.Lib
variable {gl : Nat → Option (List T)}

abbrev ctLin : CT := .sl [.int .i64, .int .u64]
abbrev ctTab : List CT := [.int .u64, .int .i64, .int .i64, .sl [ctLin, ctLin, ctLin]]
def termWf (t : Int × Int) : Prop := -9223372036854775808 ≤ t.1 ∧ t.1 ≤ 9223372036854775807 ∧ 0 ≤ t.2 ∧ t.2 ≤ 18446744073709551615
def linWf (l : Lin) : Prop := l.2.length ≤ 140737488355328 ∧ (l.1 = true → l.2 = []) ∧ ∀ t, t ∈ l.2 → termWf t
def rowWf (r : Row) : Prop := linWf r.1 ∧ linWf r.2.1 ∧ linWf r.2.2
structure TabWf (t : Tab) : Prop where
  p0 : 0 ≤ t.p
  p1 : t.p ≤ 18446744073709551615
  pub0 : -9223372036854775808 ≤ t.pub
  pub1 : t.pub ≤ 9223372036854775807
  vars0 : -9223372036854775808 ≤ t.vars
  vars1 : t.vars ≤ 9223372036854775807
  nl : t.nl = true → t.rows = []
  len : t.rows.length ≤ 140737488355328
  rows : ∀ r, r ∈ t.rows → rowWf r
theorem TabWf.ok {t : Tab} (h : TabWf t) : TabOk t where
  len := by have := h.len; omega
  rows r hr := by
    obtain ⟨⟨a, _⟩, ⟨b, _⟩, ⟨c, _⟩⟩ := h.rows r hr
    exact ⟨by omega, by omega, by omega⟩
theorem lin_of {x : T} (h : Wt 140737488355328 ctLin x) : ∃ l, x = tLin l ∧ linWf l := by
  obtain ⟨nl, es, rfl, hl, hnl, he⟩ := wt_sl h
  obtain ⟨l, rfl, hp⟩ := list_enc (enc := tTerm) (p := termWf) fun e hm => by
    obtain ⟨a, r, rfl, ha, hr⟩ := wts_cons (he e hm)
    obtain ⟨b, r, rfl, hb, hr⟩ := wts_cons hr
    obtain rfl := wts_nil hr
    obtain ⟨n, rfl, n1, n2⟩ := wt_i64 ha
    obtain ⟨m, rfl, m1, m2⟩ := wt_u64 hb
    exact ⟨(n, m), rfl, n1, n2, m1, m2⟩
  exact ⟨(nl, l), rfl, by simpa using hl, fun hn => by simpa using hnl hn, hp⟩
theorem tab_of {x : T} (h : ArgT 140737488355328 (true, ctTab) x) : ∃ t, x = tTab t ∧ TabWf t := by
  obtain ⟨xs, rfl, hw⟩ := argT_agg h
  clear h
  rename Wts _ _ _ => h
  obtain ⟨a, r, rfl, ha, h⟩ := wts_cons h
  obtain ⟨b, r, rfl, hb, h⟩ := wts_cons h
  obtain ⟨c, r, rfl, hc, h⟩ := wts_cons h
  obtain ⟨d, r, rfl, hd, h⟩ := wts_cons h
  obtain rfl := wts_nil h
  obtain ⟨p, rfl, p1, p2⟩ := wt_u64 ha
  obtain ⟨q, rfl, q1, q2⟩ := wt_i64 hb
  obtain ⟨v, rfl, v1, v2⟩ := wt_i64 hc
  obtain ⟨nl, es, rfl, hl, hnl, he⟩ := wt_sl hd
  obtain ⟨l, rfl, hp⟩ := list_enc (enc := tRow) (p := rowWf) fun e hm => by
    obtain ⟨a, r, rfl, ha, hr⟩ := wts_cons (he e hm)
    obtain ⟨b, r, rfl, hb, hr⟩ := wts_cons hr
    obtain ⟨c, r, rfl, hc, hr⟩ := wts_cons hr
    obtain rfl := wts_nil hr
    obtain ⟨a, rfl, a1⟩ := lin_of ha
    obtain ⟨b, rfl, b1⟩ := lin_of hb
    obtain ⟨c, rfl, c1⟩ := lin_of hc
    exact ⟨(a, b, c), rfl, a1, b1, c1⟩
  exact ⟨⟨p, q, v, nl, l⟩, rfl, p1, p2, q1, q2, v1, v2, fun hn => by simpa using hnl hn, by simpa using hl, hp⟩

def nnW (l : List (Int × Int)) : Prop := ∀ t, t ∈ l → 0 ≤ t.1 ∧ t.1 ≤ 9223372036854775807 ∧ 0 ≤ t.2 ∧ t.2 ≤ 18446744073709551615
theorem termT_len {t : Int × Int} (h1 : 0 ≤ t.1) (h2 : t.1 ≤ 9223372036854775807) (h3 : 0 ≤ t.2) (h4 : t.2 ≤ 18446744073709551615) : (termT t).length ≤ 41 := by
  have a := (dec_len t.1.toNat (by omega)).1
  have b := (dec_len t.2.toNat (by omega)).1
  simp only [termT, List.length_append, List.length_cons]
  omega
theorem loop44 (h2 : gl 2 = some (p10.map (T.int .u64))) {nl : Bool} {l : List (Int × Int)} (hl : l.length ≤ 281474976710656) (ht : nnW l) {Q : Ex → S → Prop} : ∀ (rest : List (Int × Int)) (i : Nat) (b : List UInt8) (n : Nat) (fr : List PV) (sg : Sg), l.drop i = rest → 0 < i → n = b.length → n + 42 * rest.length ≤ 900000000 →
    FrAt fr [(0, .own 0 1 (bytesT b)), (13, .t (tLin (nl, l))), (14, .t (.int .i64 l.length)), (15, .t (.int .i64 i))] →
    (∀ fr' j b' n', b' = b ++ moreT rest → n' = b'.length → FrAt fr' [(0, .own 0 1 (bytesT b'))] → Q (.exit 0) ⟨fr', sg ++ j, [n']⟩) →
    Xl F gl lb44_0 ⟨fr, sg, [n]⟩ Q ⟨⟩ := by
  intro rest
  induction rest with
  | nil =>
    intro i b n fr sg hd hi0 hn hb hf hQ
    have hd := drop_nil' hd
    simp only [FrAt_cons, FrAt_nil] at hf
    obtain ⟨f0, f13, f14, f15, -⟩ := hf
    refine Xl.step ?_
    simp only [lb44_0]
    have c1 : ¬ ((i : Int) < (l.length : Int)) := by omega
    simp only [wCo, wFr, wOp, wBi, wLst, wLog, xB_other, Nat.reduceBEq, unT, loadP, storeP, partP, partT, partV, cellsP, mkAgg, allT, setRange, fillP, fieldA, indexS, indexA, indexV, indexStr, elems, lenP, pickV, cviV, nckV, extV, isNil, bound, close, close1, aft, retV, retSl, Go.Pi.one, eqT, eqs, eq1, Nat.reduceEqDiff, Nat.reduceAdd, Nat.reduceSub, Nat.reduceMul, Nat.reduceLeDiff, Nat.reduceLT, Nat.one_ne_zero, Nat.zero_ne_one, reduceIte, reduceCtorEq, bne_self_eq_false, decide_true, decide_false, Int.reduceToNat, Int.cast_ofNat_Int, Int.reduceLT, Int.reduceLE, Int.reduceEq, Int.reduceNeg, Int.reduceAdd, Int.reduceSub, f14, f15, c1]
    repeat' ((with_reducible first | refine xG_dec ?_ ?_ | refine xG_ndec ?_ ?_ | refine xG_nsplit ?_ ?_ | refine xG_split ?_ ?_ | refine xC_dec ?_ ?_ | refine xC_ndec ?_ ?_ | refine xC_nsplit ?_ ?_ | refine xC_split ?_ ?_) <;> intro h <;> (try simp only [wCo, wFr, wOp, wBi, wLst, wLog, xB_other, Nat.reduceBEq, unT, loadP, storeP, partP, partT, partV, cellsP, mkAgg, allT, setRange, fillP, fieldA, indexS, indexA, indexV, indexStr, elems, lenP, pickV, cviV, nckV, extV, isNil, bound, close, close1, aft, retV, retSl, Go.Pi.one, eqT, eqs, eq1, Nat.reduceEqDiff, Nat.reduceAdd, Nat.reduceSub, Nat.reduceMul, Nat.reduceLeDiff, Nat.reduceLT, Nat.one_ne_zero, Nat.zero_ne_one, reduceIte, reduceCtorEq, bne_self_eq_false, decide_true, decide_false, Int.reduceToNat, Int.cast_ofNat_Int, Int.reduceLT, Int.reduceLE, Int.reduceEq, Int.reduceNeg, Int.reduceAdd, Int.reduceSub, f14, f15, c1, h]))
    have := hQ (fset fr 16 (.t (.bool false))) [] b n (by simp [moreT]) hn (by simp only [FrAt_cons, FrAt_nil, wFr, Nat.reduceEqDiff, Nat.one_ne_zero, Nat.zero_ne_one, reduceIte, and_self, and_true, true_and, f0])
    rw [List.append_nil] at this
    exact this
  | cons x r ih =>
    intro i b n fr sg hd hi0 hn hb hf hQ
    obtain ⟨hx, hr, hi⟩ := drop_cons hd
    obtain ⟨x1, x2, x3, x4⟩ := ht x (List.mem_of_getElem? hx)
    obtain ⟨xa, xb⟩ := x
    simp only at x1 x2 x3 x4
    obtain ⟨a, rfl⟩ := Int.eq_ofNat_of_zero_le x1
    obtain ⟨c, rfl⟩ := Int.eq_ofNat_of_zero_le x3
    simp only [FrAt_cons, FrAt_nil] at hf
    obtain ⟨f0, f13, f14, f15, -⟩ := hf
    simp only [List.length_cons] at hb
    have d1 := (dec_len a (by omega)).1
    have d2 := (dec_len c (by omega)).1
    refine Xl.step ?_
    simp only [lb44_0]
    have c1 : (i : Int) < (l.length : Int) := by omega
    have c2 : 0 < (i : Int) := by omega
    have hw1 : IntKind.wrap .i64 ((i : Int) + 1) = ((i + 1 : Nat) : Int) := by rw [IntWalk.i64_in _ (by omega)]; omega
    have e1 : ∀ sg, appendP false sg [n] 1 1 (.own 0 1 (bytesT b)) (.lit [[.int .u8 32]]) = some (.own 0 1 (bytesT (b ++ [32])), [n + 1]) := own_lit 32 hn (by omega)
    simp only [wCo, wFr, wOp, wBi, wLst, wLog, xB_other, Nat.reduceBEq, unT, loadP, storeP, partP, partT, partV, cellsP, mkAgg, allT, setRange, fillP, fieldA, indexS, indexA, indexV, indexStr, elems, lenP, pickV, cviV, nckV, extV, isNil, bound, close, close1, aft, retV, retSl, Go.Pi.one, eqT, eqs, eq1, Nat.reduceEqDiff, Nat.reduceAdd, Nat.reduceSub, Nat.reduceMul, Nat.reduceLeDiff, Nat.reduceLT, Nat.one_ne_zero, Nat.zero_ne_one, reduceIte, reduceCtorEq, bne_self_eq_false, decide_true, decide_false, Int.reduceToNat, Int.cast_ofNat_Int, Int.reduceLT, Int.reduceLE, Int.reduceEq, Int.reduceNeg, Int.reduceAdd, Int.reduceSub, f0, f13, f14, f15, c1, c2, tLin, List.getElem?_map, hx, tTerm, e1, bslV, chunks, cell1, T.isAgg, List.replicate, List.flatten_cons, List.flatten_nil, List.append_nil]
    repeat' ((with_reducible first | refine xG_dec ?_ ?_ | refine xG_ndec ?_ ?_ | refine xG_nsplit ?_ ?_ | refine xG_split ?_ ?_ | refine xC_dec ?_ ?_ | refine xC_ndec ?_ ?_ | refine xC_nsplit ?_ ?_ | refine xC_split ?_ ?_) <;> intro h <;> (try simp only [wCo, wFr, wOp, wBi, wLst, wLog, xB_other, Nat.reduceBEq, unT, loadP, storeP, partP, partT, partV, cellsP, mkAgg, allT, setRange, fillP, fieldA, indexS, indexA, indexV, indexStr, elems, lenP, pickV, cviV, nckV, extV, isNil, bound, close, close1, aft, retV, retSl, Go.Pi.one, eqT, eqs, eq1, Nat.reduceEqDiff, Nat.reduceAdd, Nat.reduceSub, Nat.reduceMul, Nat.reduceLeDiff, Nat.reduceLT, Nat.one_ne_zero, Nat.zero_ne_one, reduceIte, reduceCtorEq, bne_self_eq_false, decide_true, decide_false, Int.reduceToNat, Int.cast_ofNat_Int, Int.reduceLT, Int.reduceLE, Int.reduceEq, Int.reduceNeg, Int.reduceAdd, Int.reduceSub, f0, f13, f14, f15, c1, c2, tLin, List.getElem?_map, hx, tTerm, e1, bslV, chunks, cell1, T.isAgg, List.replicate, List.flatten_cons, List.flatten_nil, List.append_nil, h]))
    refine app43 h2 (by omega) (by simp [hn]) (by omega) fun j1 b1 n1 eb1 en1 => ?_
    have q1 : n1 = n + 1 + (decDigits a).length := by rw [en1, eb1]; simp only [List.length_append, List.length_cons, List.length_nil, hn]; try omega
    have e2 : ∀ sg, appendP false sg [n1] 1 1 (.own 0 1 (bytesT b1)) (.lit [[.int .u8 58]]) = some (.own 0 1 (bytesT (b1 ++ [58])), [n1 + 1]) := own_lit 58 en1 (by omega)
    simp only [wCo, wFr, wOp, wBi, wLst, wLog, xB_other, Nat.reduceBEq, unT, loadP, storeP, partP, partT, partV, cellsP, mkAgg, allT, setRange, fillP, fieldA, indexS, indexA, indexV, indexStr, elems, lenP, pickV, cviV, nckV, extV, isNil, bound, close, close1, aft, retV, retSl, Go.Pi.one, eqT, eqs, eq1, Nat.reduceEqDiff, Nat.reduceAdd, Nat.reduceSub, Nat.reduceMul, Nat.reduceLeDiff, Nat.reduceLT, Nat.one_ne_zero, Nat.zero_ne_one, reduceIte, reduceCtorEq, bne_self_eq_false, decide_true, decide_false, Int.reduceToNat, Int.cast_ofNat_Int, Int.reduceLT, Int.reduceLE, Int.reduceEq, Int.reduceNeg, Int.reduceAdd, Int.reduceSub, f0, f13, f14, f15, e2, bslV, chunks, cell1, T.isAgg, List.replicate, List.flatten_cons, List.flatten_nil, List.append_nil]
    repeat' ((with_reducible first | refine xG_dec ?_ ?_ | refine xG_ndec ?_ ?_ | refine xG_nsplit ?_ ?_ | refine xG_split ?_ ?_ | refine xC_dec ?_ ?_ | refine xC_ndec ?_ ?_ | refine xC_nsplit ?_ ?_ | refine xC_split ?_ ?_) <;> intro h <;> (try simp only [wCo, wFr, wOp, wBi, wLst, wLog, xB_other, Nat.reduceBEq, unT, loadP, storeP, partP, partT, partV, cellsP, mkAgg, allT, setRange, fillP, fieldA, indexS, indexA, indexV, indexStr, elems, lenP, pickV, cviV, nckV, extV, isNil, bound, close, close1, aft, retV, retSl, Go.Pi.one, eqT, eqs, eq1, Nat.reduceEqDiff, Nat.reduceAdd, Nat.reduceSub, Nat.reduceMul, Nat.reduceLeDiff, Nat.reduceLT, Nat.one_ne_zero, Nat.zero_ne_one, reduceIte, reduceCtorEq, bne_self_eq_false, decide_true, decide_false, Int.reduceToNat, Int.cast_ofNat_Int, Int.reduceLT, Int.reduceLE, Int.reduceEq, Int.reduceNeg, Int.reduceAdd, Int.reduceSub, f0, f13, f14, f15, e2, bslV, chunks, cell1, T.isAgg, List.replicate, List.flatten_cons, List.flatten_nil, List.append_nil, h]))
    refine app66 h2 (by omega) (by simp [en1]) (by omega) fun j2 b2 n2 eb2 en2 => ?_
    have q2 : n2 = n1 + 1 + (decDigits c).length := by rw [en2, eb2]; simp only [List.length_append, List.length_cons, List.length_nil, en1]; try omega
    simp only [wCo, wFr, wOp, wBi, wLst, wLog, xB_other, Nat.reduceBEq, unT, loadP, storeP, partP, partT, partV, cellsP, mkAgg, allT, setRange, fillP, fieldA, indexS, indexA, indexV, indexStr, elems, lenP, pickV, cviV, nckV, extV, isNil, bound, close, close1, aft, retV, retSl, Go.Pi.one, eqT, eqs, eq1, Nat.reduceEqDiff, Nat.reduceAdd, Nat.reduceSub, Nat.reduceMul, Nat.reduceLeDiff, Nat.reduceLT, Nat.one_ne_zero, Nat.zero_ne_one, reduceIte, reduceCtorEq, bne_self_eq_false, decide_true, decide_false, Int.reduceToNat, Int.cast_ofNat_Int, Int.reduceLT, Int.reduceLE, Int.reduceEq, Int.reduceNeg, Int.reduceAdd, Int.reduceSub, f0, f13, f14, f15, hw1]
    repeat' ((with_reducible first | refine xG_dec ?_ ?_ | refine xG_ndec ?_ ?_ | refine xG_nsplit ?_ ?_ | refine xG_split ?_ ?_ | refine xC_dec ?_ ?_ | refine xC_ndec ?_ ?_ | refine xC_nsplit ?_ ?_ | refine xC_split ?_ ?_) <;> intro h <;> (try simp only [wCo, wFr, wOp, wBi, wLst, wLog, xB_other, Nat.reduceBEq, unT, loadP, storeP, partP, partT, partV, cellsP, mkAgg, allT, setRange, fillP, fieldA, indexS, indexA, indexV, indexStr, elems, lenP, pickV, cviV, nckV, extV, isNil, bound, close, close1, aft, retV, retSl, Go.Pi.one, eqT, eqs, eq1, Nat.reduceEqDiff, Nat.reduceAdd, Nat.reduceSub, Nat.reduceMul, Nat.reduceLeDiff, Nat.reduceLT, Nat.one_ne_zero, Nat.zero_ne_one, reduceIte, reduceCtorEq, bne_self_eq_false, decide_true, decide_false, Int.reduceToNat, Int.cast_ofNat_Int, Int.reduceLT, Int.reduceLE, Int.reduceEq, Int.reduceNeg, Int.reduceAdd, Int.reduceSub, f0, f13, f14, f15, hw1, h]))
    refine ih (i + 1) b2 n2 _ _ hr (by omega) en2 (by omega) (by simp only [FrAt_cons, FrAt_nil, wFr, Nat.reduceEqDiff, Nat.one_ne_zero, Nat.zero_ne_one, reduceIte, and_self, and_true, true_and, f13, f14, tLin]) ?_
    intro fr' j b' n' hb' hn' hf'
    rw [List.append_assoc]
    refine hQ fr' _ b' n' ?_ hn' hf'
    rw [hb', eb2, eb1]
    simp [moreT, termT]
def linO (l : List (Int × Int)) : List UInt8 := linT l
/-- appendLinear. -/
theorem app44 (h2 : gl 2 = some (p10.map (T.int .u64))) {nl : Bool} {l : List (Int × Int)} (hl : l.length ≤ 281474976710656) (ht : nnW l) {b : List UInt8} {n : Nat} {sg : Sg} (hn : n = b.length) (hb : n + 42 * l.length + 1 ≤ 900000000) {K : PV → Sg → Ow → Prop}
    (hK : ∀ j b' n', b' = b ++ linT l → n' = b'.length → K (.own 0 1 (bytesT b')) (sg ++ j) [n']) : XcE F gl 44 [.own 0 1 (bytesT b), .t (tLin (nl, l))] sg [n] K ⟨⟩ := by
  refine XcE.of F44 rfl ?_
  simp only [ir44]
  match l, hl, ht, hb, hK with
  | [], hl, ht, hb, hK =>
    have e1 : ∀ sg, appendP false sg [n] 1 1 (.own 0 1 (bytesT b)) (.lit [[.int .u8 45]]) = some (.own 0 1 (bytesT (b ++ [45])), [n + 1]) := own_lit 45 hn (by simp at hb; omega)
    have hk := hK [] (b ++ [45]) (n + 1) rfl (by simp [hn])
    rw [List.append_nil] at hk
    simp only [wCo, wFr, wOp, wBi, wLst, wLog, xB_other, Nat.reduceBEq, unT, loadP, storeP, partP, partT, partV, cellsP, mkAgg, allT, setRange, fillP, fieldA, indexS, indexA, indexV, indexStr, elems, lenP, pickV, cviV, nckV, extV, isNil, bound, close, close1, aft, retV, retSl, Go.Pi.one, eqT, eqs, eq1, Nat.reduceEqDiff, Nat.reduceAdd, Nat.reduceSub, Nat.reduceMul, Nat.reduceLeDiff, Nat.reduceLT, Nat.one_ne_zero, Nat.zero_ne_one, reduceIte, reduceCtorEq, bne_self_eq_false, decide_true, decide_false, Int.reduceToNat, Int.cast_ofNat_Int, Int.reduceLT, Int.reduceLE, Int.reduceEq, Int.reduceNeg, Int.reduceAdd, Int.reduceSub, tLin, e1, bslV, chunks, cell1, T.isAgg, List.replicate, List.flatten_cons, List.flatten_nil, List.append_nil]
    repeat' ((with_reducible first | refine xG_dec ?_ ?_ | refine xG_ndec ?_ ?_ | refine xG_nsplit ?_ ?_ | refine xG_split ?_ ?_ | refine xC_dec ?_ ?_ | refine xC_ndec ?_ ?_ | refine xC_nsplit ?_ ?_ | refine xC_split ?_ ?_) <;> intro h <;> (try simp only [wCo, wFr, wOp, wBi, wLst, wLog, xB_other, Nat.reduceBEq, unT, loadP, storeP, partP, partT, partV, cellsP, mkAgg, allT, setRange, fillP, fieldA, indexS, indexA, indexV, indexStr, elems, lenP, pickV, cviV, nckV, extV, isNil, bound, close, close1, aft, retV, retSl, Go.Pi.one, eqT, eqs, eq1, Nat.reduceEqDiff, Nat.reduceAdd, Nat.reduceSub, Nat.reduceMul, Nat.reduceLeDiff, Nat.reduceLT, Nat.one_ne_zero, Nat.zero_ne_one, reduceIte, reduceCtorEq, bne_self_eq_false, decide_true, decide_false, Int.reduceToNat, Int.cast_ofNat_Int, Int.reduceLT, Int.reduceLE, Int.reduceEq, Int.reduceNeg, Int.reduceAdd, Int.reduceSub, tLin, e1, bslV, chunks, cell1, T.isAgg, List.replicate, List.flatten_cons, List.flatten_nil, List.append_nil, h]))
    exact hk
  | (xa, xb) :: r, hl, ht, hb, hK =>
    obtain ⟨x1, x2, x3, x4⟩ := ht (xa, xb) List.mem_cons_self
    simp only at x1 x2 x3 x4
    obtain ⟨a, rfl⟩ := Int.eq_ofNat_of_zero_le x1
    obtain ⟨c, rfl⟩ := Int.eq_ofNat_of_zero_le x3
    have d1 := (dec_len a (by omega)).1
    have d2 := (dec_len c (by omega)).1
    simp only [List.length_cons] at hb
    have cz : ¬ (((r.length + 1 : Nat) : Int) = 0) := by omega
    have cp : (0 : Int) < ((r.length + 1 : Nat) : Int) := by omega
    have w1 : IntKind.i64.wrap 1 = 1 := by decide
    simp only [wCo, wFr, wOp, wBi, wLst, wLog, xB_other, Nat.reduceBEq, unT, loadP, storeP, partP, partT, partV, cellsP, mkAgg, allT, setRange, fillP, fieldA, indexS, indexA, indexV, indexStr, elems, lenP, pickV, cviV, nckV, extV, isNil, bound, close, close1, aft, retV, retSl, Go.Pi.one, eqT, eqs, eq1, Nat.reduceEqDiff, Nat.reduceAdd, Nat.reduceSub, Nat.reduceMul, Nat.reduceLeDiff, Nat.reduceLT, Nat.one_ne_zero, Nat.zero_ne_one, reduceIte, reduceCtorEq, bne_self_eq_false, decide_true, decide_false, Int.reduceToNat, Int.cast_ofNat_Int, Int.reduceLT, Int.reduceLE, Int.reduceEq, Int.reduceNeg, Int.reduceAdd, Int.reduceSub, tLin, cz]
    repeat' ((with_reducible first | refine xG_dec ?_ ?_ | refine xG_ndec ?_ ?_ | refine xG_nsplit ?_ ?_ | refine xG_split ?_ ?_ | refine xC_dec ?_ ?_ | refine xC_ndec ?_ ?_ | refine xC_nsplit ?_ ?_ | refine xC_split ?_ ?_) <;> intro h <;> (try simp only [wCo, wFr, wOp, wBi, wLst, wLog, xB_other, Nat.reduceBEq, unT, loadP, storeP, partP, partT, partV, cellsP, mkAgg, allT, setRange, fillP, fieldA, indexS, indexA, indexV, indexStr, elems, lenP, pickV, cviV, nckV, extV, isNil, bound, close, close1, aft, retV, retSl, Go.Pi.one, eqT, eqs, eq1, Nat.reduceEqDiff, Nat.reduceAdd, Nat.reduceSub, Nat.reduceMul, Nat.reduceLeDiff, Nat.reduceLT, Nat.one_ne_zero, Nat.zero_ne_one, reduceIte, reduceCtorEq, bne_self_eq_false, decide_true, decide_false, Int.reduceToNat, Int.cast_ofNat_Int, Int.reduceLT, Int.reduceLE, Int.reduceEq, Int.reduceNeg, Int.reduceAdd, Int.reduceSub, tLin, cz, h]))
    refine Xl.step ?_
    simp only [lb44_0]
    simp only [wCo, wFr, wOp, wBi, wLst, wLog, xB_other, Nat.reduceBEq, unT, loadP, storeP, partP, partT, partV, cellsP, mkAgg, allT, setRange, fillP, fieldA, indexS, indexA, indexV, indexStr, elems, lenP, pickV, cviV, nckV, extV, isNil, bound, close, close1, aft, retV, retSl, Go.Pi.one, eqT, eqs, eq1, Nat.reduceEqDiff, Nat.reduceAdd, Nat.reduceSub, Nat.reduceMul, Nat.reduceLeDiff, Nat.reduceLT, Nat.one_ne_zero, Nat.zero_ne_one, reduceIte, reduceCtorEq, bne_self_eq_false, decide_true, decide_false, Int.reduceToNat, Int.cast_ofNat_Int, Int.reduceLT, Int.reduceLE, Int.reduceEq, Int.reduceNeg, Int.reduceAdd, Int.reduceSub, tLin, cp, tTerm]
    repeat' ((with_reducible first | refine xG_dec ?_ ?_ | refine xG_ndec ?_ ?_ | refine xG_nsplit ?_ ?_ | refine xG_split ?_ ?_ | refine xC_dec ?_ ?_ | refine xC_ndec ?_ ?_ | refine xC_nsplit ?_ ?_ | refine xC_split ?_ ?_) <;> intro h <;> (try simp only [wCo, wFr, wOp, wBi, wLst, wLog, xB_other, Nat.reduceBEq, unT, loadP, storeP, partP, partT, partV, cellsP, mkAgg, allT, setRange, fillP, fieldA, indexS, indexA, indexV, indexStr, elems, lenP, pickV, cviV, nckV, extV, isNil, bound, close, close1, aft, retV, retSl, Go.Pi.one, eqT, eqs, eq1, Nat.reduceEqDiff, Nat.reduceAdd, Nat.reduceSub, Nat.reduceMul, Nat.reduceLeDiff, Nat.reduceLT, Nat.one_ne_zero, Nat.zero_ne_one, reduceIte, reduceCtorEq, bne_self_eq_false, decide_true, decide_false, Int.reduceToNat, Int.cast_ofNat_Int, Int.reduceLT, Int.reduceLE, Int.reduceEq, Int.reduceNeg, Int.reduceAdd, Int.reduceSub, tLin, cp, tTerm, h]))
    refine app43 h2 (by omega) hn (by omega) fun j1 b1 n1 eb1 en1 => ?_
    have q1 : n1 = n + (decDigits a).length := by rw [en1, eb1]; simp only [List.length_append, List.length_cons, List.length_nil, hn]; try omega
    have e2 : ∀ sg, appendP false sg [n1] 1 1 (.own 0 1 (bytesT b1)) (.lit [[.int .u8 58]]) = some (.own 0 1 (bytesT (b1 ++ [58])), [n1 + 1]) := own_lit 58 en1 (by omega)
    simp only [wCo, wFr, wOp, wBi, wLst, wLog, xB_other, Nat.reduceBEq, unT, loadP, storeP, partP, partT, partV, cellsP, mkAgg, allT, setRange, fillP, fieldA, indexS, indexA, indexV, indexStr, elems, lenP, pickV, cviV, nckV, extV, isNil, bound, close, close1, aft, retV, retSl, Go.Pi.one, eqT, eqs, eq1, Nat.reduceEqDiff, Nat.reduceAdd, Nat.reduceSub, Nat.reduceMul, Nat.reduceLeDiff, Nat.reduceLT, Nat.one_ne_zero, Nat.zero_ne_one, reduceIte, reduceCtorEq, bne_self_eq_false, decide_true, decide_false, Int.reduceToNat, Int.cast_ofNat_Int, Int.reduceLT, Int.reduceLE, Int.reduceEq, Int.reduceNeg, Int.reduceAdd, Int.reduceSub, e2, bslV, chunks, cell1, T.isAgg, List.replicate, List.flatten_cons, List.flatten_nil, List.append_nil]
    repeat' ((with_reducible first | refine xG_dec ?_ ?_ | refine xG_ndec ?_ ?_ | refine xG_nsplit ?_ ?_ | refine xG_split ?_ ?_ | refine xC_dec ?_ ?_ | refine xC_ndec ?_ ?_ | refine xC_nsplit ?_ ?_ | refine xC_split ?_ ?_) <;> intro h <;> (try simp only [wCo, wFr, wOp, wBi, wLst, wLog, xB_other, Nat.reduceBEq, unT, loadP, storeP, partP, partT, partV, cellsP, mkAgg, allT, setRange, fillP, fieldA, indexS, indexA, indexV, indexStr, elems, lenP, pickV, cviV, nckV, extV, isNil, bound, close, close1, aft, retV, retSl, Go.Pi.one, eqT, eqs, eq1, Nat.reduceEqDiff, Nat.reduceAdd, Nat.reduceSub, Nat.reduceMul, Nat.reduceLeDiff, Nat.reduceLT, Nat.one_ne_zero, Nat.zero_ne_one, reduceIte, reduceCtorEq, bne_self_eq_false, decide_true, decide_false, Int.reduceToNat, Int.cast_ofNat_Int, Int.reduceLT, Int.reduceLE, Int.reduceEq, Int.reduceNeg, Int.reduceAdd, Int.reduceSub, e2, bslV, chunks, cell1, T.isAgg, List.replicate, List.flatten_cons, List.flatten_nil, List.append_nil, h]))
    refine app66 h2 (by omega) (by simp [en1]) (by omega) fun j2 b2 n2 eb2 en2 => ?_
    have q2 : n2 = n1 + 1 + (decDigits c).length := by rw [en2, eb2]; simp only [List.length_append, List.length_cons, List.length_nil, en1]; try omega
    simp only [wCo, wFr, wOp, wBi, wLst, wLog, xB_other, Nat.reduceBEq, unT, loadP, storeP, partP, partT, partV, cellsP, mkAgg, allT, setRange, fillP, fieldA, indexS, indexA, indexV, indexStr, elems, lenP, pickV, cviV, nckV, extV, isNil, bound, close, close1, aft, retV, retSl, Go.Pi.one, eqT, eqs, eq1, Nat.reduceEqDiff, Nat.reduceAdd, Nat.reduceSub, Nat.reduceMul, Nat.reduceLeDiff, Nat.reduceLT, Nat.one_ne_zero, Nat.zero_ne_one, reduceIte, reduceCtorEq, bne_self_eq_false, decide_true, decide_false, Int.reduceToNat, Int.cast_ofNat_Int, Int.reduceLT, Int.reduceLE, Int.reduceEq, Int.reduceNeg, Int.reduceAdd, Int.reduceSub, w1, Int.zero_add]
    repeat' ((with_reducible first | refine xG_dec ?_ ?_ | refine xG_ndec ?_ ?_ | refine xG_nsplit ?_ ?_ | refine xG_split ?_ ?_ | refine xC_dec ?_ ?_ | refine xC_ndec ?_ ?_ | refine xC_nsplit ?_ ?_ | refine xC_split ?_ ?_) <;> intro h <;> (try simp only [wCo, wFr, wOp, wBi, wLst, wLog, xB_other, Nat.reduceBEq, unT, loadP, storeP, partP, partT, partV, cellsP, mkAgg, allT, setRange, fillP, fieldA, indexS, indexA, indexV, indexStr, elems, lenP, pickV, cviV, nckV, extV, isNil, bound, close, close1, aft, retV, retSl, Go.Pi.one, eqT, eqs, eq1, Nat.reduceEqDiff, Nat.reduceAdd, Nat.reduceSub, Nat.reduceMul, Nat.reduceLeDiff, Nat.reduceLT, Nat.one_ne_zero, Nat.zero_ne_one, reduceIte, reduceCtorEq, bne_self_eq_false, decide_true, decide_false, Int.reduceToNat, Int.cast_ofNat_Int, Int.reduceLT, Int.reduceLE, Int.reduceEq, Int.reduceNeg, Int.reduceAdd, Int.reduceSub, w1, Int.zero_add, h]))
    refine loop44 h2 (nl := nl) (l := ((a : Int), (c : Int)) :: r) hl ht r 1 b2 n2 _ _ rfl (by omega) en2 (by omega) ?_ ?_
    · simp only [FrAt_cons, FrAt_nil, wFr, Nat.reduceEqDiff, Nat.one_ne_zero, Nat.zero_ne_one, reduceIte, and_self, and_true, true_and, tLin, tTerm, List.map_cons, List.length_cons]
      rfl
    · intro fr' j b' n' hb' hn' hf'
      simp only [FrAt_cons, FrAt_nil] at hf'
      obtain ⟨g0, -⟩ := hf'
      simp only [wCo, wFr, wOp, wBi, wLst, wLog, xB_other, Nat.reduceBEq, unT, loadP, storeP, partP, partT, partV, cellsP, mkAgg, allT, setRange, fillP, fieldA, indexS, indexA, indexV, indexStr, elems, lenP, pickV, cviV, nckV, extV, isNil, bound, close, close1, aft, retV, retSl, Go.Pi.one, eqT, eqs, eq1, Nat.reduceEqDiff, Nat.reduceAdd, Nat.reduceSub, Nat.reduceMul, Nat.reduceLeDiff, Nat.reduceLT, Nat.one_ne_zero, Nat.zero_ne_one, reduceIte, reduceCtorEq, bne_self_eq_false, decide_true, decide_false, Int.reduceToNat, Int.cast_ofNat_Int, Int.reduceLT, Int.reduceLE, Int.reduceEq, Int.reduceNeg, Int.reduceAdd, Int.reduceSub, g0]
      repeat' ((with_reducible first | refine xG_dec ?_ ?_ | refine xG_ndec ?_ ?_ | refine xG_nsplit ?_ ?_ | refine xG_split ?_ ?_ | refine xC_dec ?_ ?_ | refine xC_ndec ?_ ?_ | refine xC_nsplit ?_ ?_ | refine xC_split ?_ ?_) <;> intro h <;> (try simp only [wCo, wFr, wOp, wBi, wLst, wLog, xB_other, Nat.reduceBEq, unT, loadP, storeP, partP, partT, partV, cellsP, mkAgg, allT, setRange, fillP, fieldA, indexS, indexA, indexV, indexStr, elems, lenP, pickV, cviV, nckV, extV, isNil, bound, close, close1, aft, retV, retSl, Go.Pi.one, eqT, eqs, eq1, Nat.reduceEqDiff, Nat.reduceAdd, Nat.reduceSub, Nat.reduceMul, Nat.reduceLeDiff, Nat.reduceLT, Nat.one_ne_zero, Nat.zero_ne_one, reduceIte, reduceCtorEq, bne_self_eq_false, decide_true, decide_false, Int.reduceToNat, Int.cast_ofNat_Int, Int.reduceLT, Int.reduceLE, Int.reduceEq, Int.reduceNeg, Int.reduceAdd, Int.reduceSub, g0, h]))
      refine hK _ b' n' ?_ hn'
      rw [hb', eb2, eb1]
      simp [linT, termT]

def rowT (r : Row) : List UInt8 := [114, 111, 119, 32] ++ linT r.1.2 ++ [32, 124, 32] ++ linT r.2.1.2 ++ [32, 124, 32] ++ linT r.2.2.2 ++ [10]
def headT (t : Tab) : List UInt8 := [116, 97, 98, 108, 101, 32] ++ decDigits t.p.toNat ++ [32] ++ decDigits t.pub.toNat ++ [32] ++ decDigits t.vars.toNat ++ [10]
def fmtT (t : Tab) : List UInt8 := headT t ++ t.rows.flatMap rowT
theorem moreT_len : ∀ (l : List (Int × Int)), nnW l → (moreT l).length ≤ 42 * l.length := by
  intro l
  induction l with
  | nil => intro _; simp [moreT]
  | cons x r ih =>
    intro h
    obtain ⟨a, b, c, d⟩ := h x List.mem_cons_self
    have h1 := termT_len a b c d
    have h2 := ih fun t ht => h t (List.mem_cons_of_mem _ ht)
    simp only [moreT, List.length_cons, List.length_append]
    omega
theorem linT_len (l : List (Int × Int)) (h : nnW l) : (linT l).length ≤ 42 * l.length + 1 := by
  cases l with
  | nil => simp [linT]
  | cons x r =>
    obtain ⟨a, b, c, d⟩ := h x List.mem_cons_self
    have h1 := termT_len a b c d
    have h2 := moreT_len r fun t ht => h t (List.mem_cons_of_mem _ ht)
    simp only [linT, List.length_cons, List.length_append]
    omega
theorem cp_str {b s : List UInt8} (hs : s ≠ []) (hr : b.length + s.length ≤ 1000000000) (sg : Sg) : appendP false sg [] 1 1 (.cp (bytesT b)) (.t (.str s)) = some (.own 0 1 (bytesT (b ++ s)), [b.length + s.length]) := by
  match s, hs with
  | c :: r, _ =>
    have e0 : bytesT (c :: r) = [.int .u8 c.toNat] :: bytesT r := rfl
    have hb : (([.int .u8 (c.toNat : Int)] : List T) :: bytesT r).all (fun x => x.length == 1) = true := bytes_all (s := c :: r)
    have hb0 := bytes_all (s := b)
    have e1 : (([.int .u8 (c.toNat : Int)] : List T) :: bytesT r).length = r.length + 1 := by simp [bytes_len]
    simp only [List.length_cons] at hr
    have hro : room (b.length + (r.length + 1)) 1 = true := roomB (by omega)
    rw [bytes_app, e0]
    simp only [appendP, e0, hb, hb0, Nat.one_pos, and_self, if_true, e1, bytes_len, hro, List.length_nil, List.nil_append, List.length_cons]
/-- A row of a valid table. -/
def rowV (r : Row) : Prop := nnW r.1.2 ∧ nnW r.2.1.2 ∧ nnW r.2.2.2 ∧ r.1.2.length ≤ 400 ∧ r.2.1.2.length ≤ 400 ∧ r.2.2.2.length ≤ 400
theorem vLin_w {p v : Int} (hv : v ≤ 65536) : ∀ (l : List (Int × Int)) (last : Int), -1 ≤ last → vLin p v last l = true → (∀ t, t ∈ l → termWf t) → nnW l := by
  intro l
  induction l with
  | nil => intro last _ _ _ t ht; cases ht
  | cons x r ih =>
    intro last hl h hw t ht
    simp only [vLin] at h
    split at h
    · cases h
    · rename_i hn
      have hx := hw x List.mem_cons_self
      rcases List.mem_cons.1 ht with e | e
      · subst e
        obtain ⟨q1, q2, q3, q4⟩ := hx
        exact ⟨by omega, q2, q3, q4⟩
      · exact ih x.1 (by omega) h (fun t ht => hw t (List.mem_cons_of_mem _ ht)) t e
theorem vRows_in {p v : Int} : ∀ (l : List Row), vRows p v l = true → ∀ r, r ∈ l → vRow p v r = true := by
  intro l
  induction l with
  | nil => intro _ r hr; cases hr
  | cons x rs ih =>
    intro h r hr
    simp only [vRows, Bool.and_eq_true] at h
    rcases List.mem_cons.1 hr with e | e
    · subst e; exact h.1
    · exact ih h.2 r e
theorem rowV_of {t : Tab} (ht : TabWf t) (v4 : t.vars ≤ 65536) (v6 : vRows t.p t.vars t.rows = true) {r : Row} (hs : r.1.2.length ≤ 400 ∧ r.2.1.2.length ≤ 400 ∧ r.2.2.2.length ≤ 400) (hr : r ∈ t.rows) : rowV r := by
  have hv := vRows_in _ v6 r hr
  simp only [vRow, Bool.and_eq_true] at hv
  obtain ⟨⟨a, b⟩, c⟩ := hv
  obtain ⟨w1, w2, w3⟩ := ht.rows r hr
  exact ⟨vLin_w v4 _ _ (by omega) a w1.2.2, vLin_w v4 _ _ (by omega) b w2.2.2, vLin_w v4 _ _ (by omega) c w3.2.2, hs.1, hs.2.1, hs.2.2⟩
theorem loop22 (h2 : gl 2 = some (p10.map (T.int .u64))) {C : List PV} {nl : Bool} {rows : List Row} (hl : rows.length ≤ 400) (ht : ∀ r, r ∈ rows → rowV r) {Q : Ex → S → Prop} : ∀ (rest : List Row) (i : Nat) (b : List UInt8) (n : Nat) (fr : List PV) (j : Sg), rows.drop i = rest → n = b.length → n + 60000 * rest.length ≤ 800000000 →
    FrAt fr [(4, .own 0 1 (bytesT b)), (37, .t (.sl nl (rows.map tRow))), (38, .t (.int .i64 rows.length)), (39, .t (.int .i64 i))] →
    (∀ fr' j' b' n', b' = b ++ rest.flatMap rowT → n' = b'.length → FrAt fr' [(4, .own 0 1 (bytesT b'))] → Q (.exit 2) ⟨fr', (false, C) :: j', [n']⟩) →
    Xl F gl lb22_0 ⟨fr, (false, C) :: j, [n]⟩ Q ⟨⟩ := by
  intro rest
  induction rest with
  | nil =>
    intro i b n fr j hd hn hb hf hQ
    have hd := drop_nil' hd
    simp only [FrAt_cons, FrAt_nil] at hf
    obtain ⟨f4, f37, f38, f39, -⟩ := hf
    refine Xl.step ?_
    simp only [lb22_0]
    have c1 : ¬ ((i : Int) < (rows.length : Int)) := by omega
    simp only [wCo, wFr, wOp, wBi, wLst, wLog, xB_other, Nat.reduceBEq, unT, loadP, storeP, partP, partT, partV, cellsP, mkAgg, allT, setRange, fillP, fieldA, indexS, indexA, indexV, indexStr, elems, lenP, pickV, cviV, nckV, extV, isNil, bound, close, close1, aft, retV, retSl, Go.Pi.one, eqT, eqs, eq1, Nat.reduceEqDiff, Nat.reduceAdd, Nat.reduceSub, Nat.reduceMul, Nat.reduceLeDiff, Nat.reduceLT, Nat.one_ne_zero, Nat.zero_ne_one, reduceIte, reduceCtorEq, bne_self_eq_false, decide_true, decide_false, Int.reduceToNat, Int.cast_ofNat_Int, Int.reduceLT, Int.reduceLE, Int.reduceEq, Int.reduceNeg, Int.reduceAdd, Int.reduceSub, f38, f39, c1]
    repeat' ((with_reducible first | refine xG_dec ?_ ?_ | refine xG_ndec ?_ ?_ | refine xG_nsplit ?_ ?_ | refine xG_split ?_ ?_ | refine xC_dec ?_ ?_ | refine xC_ndec ?_ ?_ | refine xC_nsplit ?_ ?_ | refine xC_split ?_ ?_) <;> intro h <;> (try simp only [wCo, wFr, wOp, wBi, wLst, wLog, xB_other, Nat.reduceBEq, unT, loadP, storeP, partP, partT, partV, cellsP, mkAgg, allT, setRange, fillP, fieldA, indexS, indexA, indexV, indexStr, elems, lenP, pickV, cviV, nckV, extV, isNil, bound, close, close1, aft, retV, retSl, Go.Pi.one, eqT, eqs, eq1, Nat.reduceEqDiff, Nat.reduceAdd, Nat.reduceSub, Nat.reduceMul, Nat.reduceLeDiff, Nat.reduceLT, Nat.one_ne_zero, Nat.zero_ne_one, reduceIte, reduceCtorEq, bne_self_eq_false, decide_true, decide_false, Int.reduceToNat, Int.cast_ofNat_Int, Int.reduceLT, Int.reduceLE, Int.reduceEq, Int.reduceNeg, Int.reduceAdd, Int.reduceSub, f38, f39, c1, h]))
    exact hQ _ _ b n (by simp) hn (by simp only [FrAt_cons, FrAt_nil, wFr, Nat.reduceEqDiff, Nat.one_ne_zero, Nat.zero_ne_one, reduceIte, and_self, and_true, true_and, f4])
  | cons x r ih =>
    intro i b n fr j hd hn hb hf hQ
    obtain ⟨hx, hr, hi⟩ := drop_cons hd
    obtain ⟨t1, t2, t3, m1, m2, m3⟩ := ht x (List.mem_of_getElem? hx)
    simp only [FrAt_cons, FrAt_nil] at hf
    obtain ⟨f4, f37, f38, f39, -⟩ := hf
    simp only [List.length_cons] at hb
    have k1 := linT_len _ t1
    have k2 := linT_len _ t2
    have k3 := linT_len _ t3
    have c1 : (i : Int) < (rows.length : Int) := by omega
    have hw1 : IntKind.wrap .i64 ((i : Int) + 1) = ((i + 1 : Nat) : Int) := by rw [IntWalk.i64_in _ (by omega)]; omega
    have e1 := own_str (b := b) (s := [114, 111, 119, 32]) hn (by simp) (by simp only [List.length_cons, List.length_nil]; omega)
    refine Xl.step ?_
    simp only [lb22_0]
    simp only [wCo, wFr, wOp, wBi, wLst, wLog, xB_other, Nat.reduceBEq, unT, loadP, storeP, partP, partT, partV, cellsP, mkAgg, allT, setRange, fillP, fieldA, indexS, indexA, indexV, indexStr, elems, lenP, pickV, cviV, nckV, extV, isNil, bound, close, close1, aft, retV, retSl, Go.Pi.one, eqT, eqs, eq1, Nat.reduceEqDiff, Nat.reduceAdd, Nat.reduceSub, Nat.reduceMul, Nat.reduceLeDiff, Nat.reduceLT, Nat.one_ne_zero, Nat.zero_ne_one, reduceIte, reduceCtorEq, bne_self_eq_false, decide_true, decide_false, Int.reduceToNat, Int.cast_ofNat_Int, Int.reduceLT, Int.reduceLE, Int.reduceEq, Int.reduceNeg, Int.reduceAdd, Int.reduceSub, f4, f37, f38, f39, c1, List.getElem?_map, hx, tRow, tLin, e1]
    repeat' ((with_reducible first | refine xG_dec ?_ ?_ | refine xG_ndec ?_ ?_ | refine xG_nsplit ?_ ?_ | refine xG_split ?_ ?_ | refine xC_dec ?_ ?_ | refine xC_ndec ?_ ?_ | refine xC_nsplit ?_ ?_ | refine xC_split ?_ ?_) <;> intro h <;> (try simp only [wCo, wFr, wOp, wBi, wLst, wLog, xB_other, Nat.reduceBEq, unT, loadP, storeP, partP, partT, partV, cellsP, mkAgg, allT, setRange, fillP, fieldA, indexS, indexA, indexV, indexStr, elems, lenP, pickV, cviV, nckV, extV, isNil, bound, close, close1, aft, retV, retSl, Go.Pi.one, eqT, eqs, eq1, Nat.reduceEqDiff, Nat.reduceAdd, Nat.reduceSub, Nat.reduceMul, Nat.reduceLeDiff, Nat.reduceLT, Nat.one_ne_zero, Nat.zero_ne_one, reduceIte, reduceCtorEq, bne_self_eq_false, decide_true, decide_false, Int.reduceToNat, Int.cast_ofNat_Int, Int.reduceLT, Int.reduceLE, Int.reduceEq, Int.reduceNeg, Int.reduceAdd, Int.reduceSub, f4, f37, f38, f39, c1, List.getElem?_map, hx, tRow, tLin, e1, h]))
    have key := fun K => @app44 gl h2 x.1.1 x.1.2 (by omega) t1 (b ++ [114, 111, 119, 32]) (n + 4) ((false, C) :: (j ++ [(false, [.t (tLin x.1), .t (tLin x.2.1), .t (tLin x.2.2)])])) (by simp [hn]) (by omega) K
    simp only [tLin] at key
    refine key _ fun j1 b1 n1 eb1 en1 => ?_
    have q1 : n1 = n + 4 + (linT x.1.2).length := by rw [en1, eb1]; simp only [List.length_append, List.length_cons, List.length_nil, hn]
    have e2 := own_str (b := b1) (s := [32, 124, 32]) en1 (by simp) (by simp only [List.length_cons, List.length_nil]; omega)
    simp only [wCo, wFr, wOp, wBi, wLst, wLog, xB_other, Nat.reduceBEq, unT, loadP, storeP, partP, partT, partV, cellsP, mkAgg, allT, setRange, fillP, fieldA, indexS, indexA, indexV, indexStr, elems, lenP, pickV, cviV, nckV, extV, isNil, bound, close, close1, aft, retV, retSl, Go.Pi.one, eqT, eqs, eq1, Nat.reduceEqDiff, Nat.reduceAdd, Nat.reduceSub, Nat.reduceMul, Nat.reduceLeDiff, Nat.reduceLT, Nat.one_ne_zero, Nat.zero_ne_one, reduceIte, reduceCtorEq, bne_self_eq_false, decide_true, decide_false, Int.reduceToNat, Int.cast_ofNat_Int, Int.reduceLT, Int.reduceLE, Int.reduceEq, Int.reduceNeg, Int.reduceAdd, Int.reduceSub, e2]
    repeat' ((with_reducible first | refine xG_dec ?_ ?_ | refine xG_ndec ?_ ?_ | refine xG_nsplit ?_ ?_ | refine xG_split ?_ ?_ | refine xC_dec ?_ ?_ | refine xC_ndec ?_ ?_ | refine xC_nsplit ?_ ?_ | refine xC_split ?_ ?_) <;> intro h <;> (try simp only [wCo, wFr, wOp, wBi, wLst, wLog, xB_other, Nat.reduceBEq, unT, loadP, storeP, partP, partT, partV, cellsP, mkAgg, allT, setRange, fillP, fieldA, indexS, indexA, indexV, indexStr, elems, lenP, pickV, cviV, nckV, extV, isNil, bound, close, close1, aft, retV, retSl, Go.Pi.one, eqT, eqs, eq1, Nat.reduceEqDiff, Nat.reduceAdd, Nat.reduceSub, Nat.reduceMul, Nat.reduceLeDiff, Nat.reduceLT, Nat.one_ne_zero, Nat.zero_ne_one, reduceIte, reduceCtorEq, bne_self_eq_false, decide_true, decide_false, Int.reduceToNat, Int.cast_ofNat_Int, Int.reduceLT, Int.reduceLE, Int.reduceEq, Int.reduceNeg, Int.reduceAdd, Int.reduceSub, e2, h]))
    have key := fun sg K => @app44 gl h2 x.2.1.1 x.2.1.2 (by omega) t2 (b1 ++ [32, 124, 32]) (n1 + 3) sg (by simp [en1]) (by omega) K
    simp only [tLin] at key
    refine key _ _ fun j2 b2 n2 eb2 en2 => ?_
    have q2 : n2 = n1 + 3 + (linT x.2.1.2).length := by rw [en2, eb2]; simp only [List.length_append, List.length_cons, List.length_nil, en1]
    have e3 := own_str (b := b2) (s := [32, 124, 32]) en2 (by simp) (by simp only [List.length_cons, List.length_nil]; omega)
    simp only [wCo, wFr, wOp, wBi, wLst, wLog, xB_other, Nat.reduceBEq, unT, loadP, storeP, partP, partT, partV, cellsP, mkAgg, allT, setRange, fillP, fieldA, indexS, indexA, indexV, indexStr, elems, lenP, pickV, cviV, nckV, extV, isNil, bound, close, close1, aft, retV, retSl, Go.Pi.one, eqT, eqs, eq1, Nat.reduceEqDiff, Nat.reduceAdd, Nat.reduceSub, Nat.reduceMul, Nat.reduceLeDiff, Nat.reduceLT, Nat.one_ne_zero, Nat.zero_ne_one, reduceIte, reduceCtorEq, bne_self_eq_false, decide_true, decide_false, Int.reduceToNat, Int.cast_ofNat_Int, Int.reduceLT, Int.reduceLE, Int.reduceEq, Int.reduceNeg, Int.reduceAdd, Int.reduceSub, e3]
    repeat' ((with_reducible first | refine xG_dec ?_ ?_ | refine xG_ndec ?_ ?_ | refine xG_nsplit ?_ ?_ | refine xG_split ?_ ?_ | refine xC_dec ?_ ?_ | refine xC_ndec ?_ ?_ | refine xC_nsplit ?_ ?_ | refine xC_split ?_ ?_) <;> intro h <;> (try simp only [wCo, wFr, wOp, wBi, wLst, wLog, xB_other, Nat.reduceBEq, unT, loadP, storeP, partP, partT, partV, cellsP, mkAgg, allT, setRange, fillP, fieldA, indexS, indexA, indexV, indexStr, elems, lenP, pickV, cviV, nckV, extV, isNil, bound, close, close1, aft, retV, retSl, Go.Pi.one, eqT, eqs, eq1, Nat.reduceEqDiff, Nat.reduceAdd, Nat.reduceSub, Nat.reduceMul, Nat.reduceLeDiff, Nat.reduceLT, Nat.one_ne_zero, Nat.zero_ne_one, reduceIte, reduceCtorEq, bne_self_eq_false, decide_true, decide_false, Int.reduceToNat, Int.cast_ofNat_Int, Int.reduceLT, Int.reduceLE, Int.reduceEq, Int.reduceNeg, Int.reduceAdd, Int.reduceSub, e3, h]))
    have key := fun sg K => @app44 gl h2 x.2.2.1 x.2.2.2 (by omega) t3 (b2 ++ [32, 124, 32]) (n2 + 3) sg (by simp [en2]) (by omega) K
    simp only [tLin] at key
    refine key _ _ fun j3 b3 n3 eb3 en3 => ?_
    have q3 : n3 = n2 + 3 + (linT x.2.2.2).length := by rw [en3, eb3]; simp only [List.length_append, List.length_cons, List.length_nil, en2]
    have e4 : ∀ sg, appendP false sg [n3] 1 1 (.own 0 1 (bytesT b3)) (.lit [[.int .u8 10]]) = some (.own 0 1 (bytesT (b3 ++ [10])), [n3 + 1]) := own_lit 10 en3 (by omega)
    simp only [wCo, wFr, wOp, wBi, wLst, wLog, xB_other, Nat.reduceBEq, unT, loadP, storeP, partP, partT, partV, cellsP, mkAgg, allT, setRange, fillP, fieldA, indexS, indexA, indexV, indexStr, elems, lenP, pickV, cviV, nckV, extV, isNil, bound, close, close1, aft, retV, retSl, Go.Pi.one, eqT, eqs, eq1, Nat.reduceEqDiff, Nat.reduceAdd, Nat.reduceSub, Nat.reduceMul, Nat.reduceLeDiff, Nat.reduceLT, Nat.one_ne_zero, Nat.zero_ne_one, reduceIte, reduceCtorEq, bne_self_eq_false, decide_true, decide_false, Int.reduceToNat, Int.cast_ofNat_Int, Int.reduceLT, Int.reduceLE, Int.reduceEq, Int.reduceNeg, Int.reduceAdd, Int.reduceSub, e4, hw1, f37, f38, f39, bslV, chunks, cell1, T.isAgg, List.replicate, List.flatten_cons, List.flatten_nil, List.append_nil]
    repeat' ((with_reducible first | refine xG_dec ?_ ?_ | refine xG_ndec ?_ ?_ | refine xG_nsplit ?_ ?_ | refine xG_split ?_ ?_ | refine xC_dec ?_ ?_ | refine xC_ndec ?_ ?_ | refine xC_nsplit ?_ ?_ | refine xC_split ?_ ?_) <;> intro h <;> (try simp only [wCo, wFr, wOp, wBi, wLst, wLog, xB_other, Nat.reduceBEq, unT, loadP, storeP, partP, partT, partV, cellsP, mkAgg, allT, setRange, fillP, fieldA, indexS, indexA, indexV, indexStr, elems, lenP, pickV, cviV, nckV, extV, isNil, bound, close, close1, aft, retV, retSl, Go.Pi.one, eqT, eqs, eq1, Nat.reduceEqDiff, Nat.reduceAdd, Nat.reduceSub, Nat.reduceMul, Nat.reduceLeDiff, Nat.reduceLT, Nat.one_ne_zero, Nat.zero_ne_one, reduceIte, reduceCtorEq, bne_self_eq_false, decide_true, decide_false, Int.reduceToNat, Int.cast_ofNat_Int, Int.reduceLT, Int.reduceLE, Int.reduceEq, Int.reduceNeg, Int.reduceAdd, Int.reduceSub, e4, hw1, f37, f38, f39, bslV, chunks, cell1, T.isAgg, List.replicate, List.flatten_cons, List.flatten_nil, List.append_nil, h]))
    refine ih (i + 1) (b3 ++ [10]) (n3 + 1) _ _ hr (by simp [en3]) (by omega) (by simp only [FrAt_cons, FrAt_nil, wFr, Nat.reduceEqDiff, Nat.one_ne_zero, Nat.zero_ne_one, reduceIte, and_self, and_true, true_and, f37, f38]) ?_
    intro fr' j' b' n' hb' hn' hf'
    refine hQ fr' j' b' n' ?_ hn' hf'
    rw [hb', eb3, eb2, eb1]
    simp [rowT]
theorem ok22 (h2 : gl 2 = some (p10.map (T.int .u64))) (t : Tab) (ht : TabWf t) (hsm : sm t.rows.length t.rows ≤ 400) {K : PV → Prop} :
    XcP F gl 22 [tTab t] K ⟨⟩ ↔ K (if vTab t = true then .tup [.t (.str (fmtT t)), .t (.int .i64 0)] else .tup [.t (.str []), .t (.int .i64 1)]) := by
  have a1 := @ok12 gl t ht.ok
  simp only [tTab, tCells] at a1
  refine Ret.iff (Ret.of F22 rfl ?_)
  simp only [ir22]
  cases hv : vTab t with
  | false =>
    simp only [wCo, wFr, wOp, wBi, wLst, wLog, xB_other, Nat.reduceBEq, unT, loadP, storeP, partP, partT, partV, cellsP, mkAgg, allT, setRange, fillP, fieldA, indexS, indexA, indexV, indexStr, elems, lenP, pickV, cviV, nckV, extV, isNil, bound, close, close1, aft, retV, retSl, Go.Pi.one, eqT, eqs, eq1, Nat.reduceEqDiff, Nat.reduceAdd, Nat.reduceSub, Nat.reduceMul, Nat.reduceLeDiff, Nat.reduceLT, Nat.one_ne_zero, Nat.zero_ne_one, reduceIte, reduceCtorEq, bne_self_eq_false, decide_true, decide_false, Int.reduceToNat, Int.cast_ofNat_Int, Int.reduceLT, Int.reduceLE, Int.reduceEq, Int.reduceNeg, Int.reduceAdd, Int.reduceSub, tTab, tCells, a1, hv]
    repeat' ((with_reducible first | refine xG_dec ?_ ?_ | refine xG_ndec ?_ ?_ | refine xG_nsplit ?_ ?_ | refine xG_split ?_ ?_ | refine xC_dec ?_ ?_ | refine xC_ndec ?_ ?_ | refine xC_nsplit ?_ ?_ | refine xC_split ?_ ?_) <;> intro h <;> (try simp only [wCo, wFr, wOp, wBi, wLst, wLog, xB_other, Nat.reduceBEq, unT, loadP, storeP, partP, partT, partV, cellsP, mkAgg, allT, setRange, fillP, fieldA, indexS, indexA, indexV, indexStr, elems, lenP, pickV, cviV, nckV, extV, isNil, bound, close, close1, aft, retV, retSl, Go.Pi.one, eqT, eqs, eq1, Nat.reduceEqDiff, Nat.reduceAdd, Nat.reduceSub, Nat.reduceMul, Nat.reduceLeDiff, Nat.reduceLT, Nat.one_ne_zero, Nat.zero_ne_one, reduceIte, reduceCtorEq, bne_self_eq_false, decide_true, decide_false, Int.reduceToNat, Int.cast_ofNat_Int, Int.reduceLT, Int.reduceLE, Int.reduceEq, Int.reduceNeg, Int.reduceAdd, Int.reduceSub, tTab, tCells, a1, hv, h]))
  | true =>
    obtain ⟨s1, s2⟩ := small_rows hsm
    have hv' := hv
    simp only [vTab, Bool.and_eq_true, decide_eq_true_eq] at hv'
    obtain ⟨⟨⟨⟨⟨v1, v2⟩, v3⟩, v4⟩, v5⟩, v6⟩ := hv'
    have hrow : ∀ r, r ∈ t.rows → rowV r := fun r hr => rowV_of ht v4 v6 (s2 r hr) hr
    have hp0 := ht.p0
    have hp1 := ht.p1
    obtain ⟨p, hp⟩ := Int.eq_ofNat_of_zero_le ht.p0
    obtain ⟨q, hq⟩ := Int.eq_ofNat_of_zero_le v2
    obtain ⟨vr, hvr⟩ := Int.eq_ofNat_of_zero_le (a := t.vars) (by omega)
    have d1 := (dec_len p (by omega)).1
    have d2 := (dec_len q (by omega)).1
    have d3 := (dec_len vr (by omega)).1
    have a2 := @ok42 gl h2 p (by omega)
    have e1 := cp_str (b := [116, 97, 98, 108, 101, 32]) (s := decDigits p) (dec_ne p) (by simp only [List.length_cons, List.length_nil]; omega)
    simp only [bytesT, List.map_cons, List.map_nil] at e1
    have w1 : IntKind.i64.wrap 1 = 1 := by decide
    have w2 : IntKind.i64.wrap 2 = 2 := by decide
    have u1 : ((116 : UInt8).toNat : Int) = 116 ∧ ((97 : UInt8).toNat : Int) = 97 ∧ ((98 : UInt8).toNat : Int) = 98 ∧ ((108 : UInt8).toNat : Int) = 108 ∧ ((101 : UInt8).toNat : Int) = 101 ∧ ((32 : UInt8).toNat : Int) = 32 := ⟨rfl, rfl, rfl, rfl, rfl, rfl⟩
    simp only [u1] at e1
    simp only [hp, hq, hvr, hv, if_true] at a1
    obtain ⟨B1, hB1⟩ : ∃ b, b = ([116, 97, 98, 108, 101, 32] : List UInt8) ++ decDigits p := ⟨_, rfl⟩
    obtain ⟨n1, hn1⟩ : ∃ n, n = B1.length := ⟨_, rfl⟩
    have e1' : ∀ (sg : Sg), appendP false sg [] 1 1 (PV.cp [[T.int IntKind.u8 116], [T.int IntKind.u8 97], [T.int IntKind.u8 98], [T.int IntKind.u8 108], [T.int IntKind.u8 101], [T.int IntKind.u8 32]]) (PV.t (T.str (decDigits p))) = some (.own 0 1 (bytesT B1), [n1]) := by
      intro sg
      rw [e1, hn1, hB1, List.length_append]; rfl
    have l1 : n1 ≤ 26 := by rw [hn1, hB1]; simp only [List.length_append, List.length_cons, List.length_nil]; omega
    have e2 : ∀ sg, appendP false sg [n1] 1 1 (.own 0 1 (bytesT B1)) (.lit [[.int .u8 32]]) = some (.own 0 1 (bytesT (B1 ++ [32])), [n1 + 1]) := own_lit 32 hn1 (by omega)
    simp only [wCo, wFr, wOp, wBi, wLst, wLog, xB_other, Nat.reduceBEq, unT, loadP, storeP, partP, partT, partV, cellsP, mkAgg, allT, setRange, fillP, fieldA, indexS, indexA, indexV, indexStr, elems, lenP, pickV, cviV, nckV, extV, isNil, bound, close, close1, aft, retV, retSl, Go.Pi.one, eqT, eqs, eq1, Nat.reduceEqDiff, Nat.reduceAdd, Nat.reduceSub, Nat.reduceMul, Nat.reduceLeDiff, Nat.reduceLT, Nat.one_ne_zero, Nat.zero_ne_one, reduceIte, reduceCtorEq, bne_self_eq_false, decide_true, decide_false, Int.reduceToNat, Int.cast_ofNat_Int, Int.reduceLT, Int.reduceLE, Int.reduceEq, Int.reduceNeg, Int.reduceAdd, Int.reduceSub, tTab, tCells, a1, hv, hp, hq, hvr, a2, e1', cvmV, bslV, chunks, cell1, T.isAgg, List.replicate, List.flatten_cons, List.flatten_nil, List.append_nil]
    repeat' ((with_reducible first | refine xG_dec ?_ ?_ | refine xG_ndec ?_ ?_ | refine xG_nsplit ?_ ?_ | refine xG_split ?_ ?_ | refine xC_dec ?_ ?_ | refine xC_ndec ?_ ?_ | refine xC_nsplit ?_ ?_ | refine xC_split ?_ ?_) <;> intro h <;> (try simp only [wCo, wFr, wOp, wBi, wLst, wLog, xB_other, Nat.reduceBEq, unT, loadP, storeP, partP, partT, partV, cellsP, mkAgg, allT, setRange, fillP, fieldA, indexS, indexA, indexV, indexStr, elems, lenP, pickV, cviV, nckV, extV, isNil, bound, close, close1, aft, retV, retSl, Go.Pi.one, eqT, eqs, eq1, Nat.reduceEqDiff, Nat.reduceAdd, Nat.reduceSub, Nat.reduceMul, Nat.reduceLeDiff, Nat.reduceLT, Nat.one_ne_zero, Nat.zero_ne_one, reduceIte, reduceCtorEq, bne_self_eq_false, decide_true, decide_false, Int.reduceToNat, Int.cast_ofNat_Int, Int.reduceLT, Int.reduceLE, Int.reduceEq, Int.reduceNeg, Int.reduceAdd, Int.reduceSub, tTab, tCells, a1, hv, hp, hq, hvr, a2, e1', cvmV, bslV, chunks, cell1, T.isAgg, List.replicate, List.flatten_cons, List.flatten_nil, List.append_nil, h]))
    refine Xl.step ?_
    simp only [lb22_1]
    simp only [wCo, wFr, wOp, wBi, wLst, wLog, xB_other, Nat.reduceBEq, unT, loadP, storeP, partP, partT, partV, cellsP, mkAgg, allT, setRange, fillP, fieldA, indexS, indexA, indexV, indexStr, elems, lenP, pickV, cviV, nckV, extV, isNil, bound, close, close1, aft, retV, retSl, Go.Pi.one, eqT, eqs, eq1, Nat.reduceEqDiff, Nat.reduceAdd, Nat.reduceSub, Nat.reduceMul, Nat.reduceLeDiff, Nat.reduceLT, Nat.one_ne_zero, Nat.zero_ne_one, reduceIte, reduceCtorEq, bne_self_eq_false, decide_true, decide_false, Int.reduceToNat, Int.cast_ofNat_Int, Int.reduceLT, Int.reduceLE, Int.reduceEq, Int.reduceNeg, Int.reduceAdd, Int.reduceSub, e2, cvmV, bslV, chunks, cell1, T.isAgg, List.replicate, List.flatten_cons, List.flatten_nil, List.append_nil]
    repeat' ((with_reducible first | refine xG_dec ?_ ?_ | refine xG_ndec ?_ ?_ | refine xG_nsplit ?_ ?_ | refine xG_split ?_ ?_ | refine xC_dec ?_ ?_ | refine xC_ndec ?_ ?_ | refine xC_nsplit ?_ ?_ | refine xC_split ?_ ?_) <;> intro h <;> (try simp only [wCo, wFr, wOp, wBi, wLst, wLog, xB_other, Nat.reduceBEq, unT, loadP, storeP, partP, partT, partV, cellsP, mkAgg, allT, setRange, fillP, fieldA, indexS, indexA, indexV, indexStr, elems, lenP, pickV, cviV, nckV, extV, isNil, bound, close, close1, aft, retV, retSl, Go.Pi.one, eqT, eqs, eq1, Nat.reduceEqDiff, Nat.reduceAdd, Nat.reduceSub, Nat.reduceMul, Nat.reduceLeDiff, Nat.reduceLT, Nat.one_ne_zero, Nat.zero_ne_one, reduceIte, reduceCtorEq, bne_self_eq_false, decide_true, decide_false, Int.reduceToNat, Int.cast_ofNat_Int, Int.reduceLT, Int.reduceLE, Int.reduceEq, Int.reduceNeg, Int.reduceAdd, Int.reduceSub, e2, cvmV, bslV, chunks, cell1, T.isAgg, List.replicate, List.flatten_cons, List.flatten_nil, List.append_nil, h]))
    refine app43 h2 (u := q) (by omega) (by simp [hn1]) (by omega) fun j2 b2 n2 eb2 en2 => ?_
    have l2 : n2 = n1 + 1 + (decDigits q).length := by rw [en2, eb2]; simp only [List.length_append, List.length_cons, List.length_nil, hn1]
    have e3 : ∀ sg, appendP false sg [n2] 1 1 (.own 0 1 (bytesT b2)) (.lit [[.int .u8 32]]) = some (.own 0 1 (bytesT (b2 ++ [32])), [n2 + 1]) := own_lit 32 en2 (by omega)
    simp only [wCo, wFr, wOp, wBi, wLst, wLog, xB_other, Nat.reduceBEq, unT, loadP, storeP, partP, partT, partV, cellsP, mkAgg, allT, setRange, fillP, fieldA, indexS, indexA, indexV, indexStr, elems, lenP, pickV, cviV, nckV, extV, isNil, bound, close, close1, aft, retV, retSl, Go.Pi.one, eqT, eqs, eq1, Nat.reduceEqDiff, Nat.reduceAdd, Nat.reduceSub, Nat.reduceMul, Nat.reduceLeDiff, Nat.reduceLT, Nat.one_ne_zero, Nat.zero_ne_one, reduceIte, reduceCtorEq, bne_self_eq_false, decide_true, decide_false, Int.reduceToNat, Int.cast_ofNat_Int, Int.reduceLT, Int.reduceLE, Int.reduceEq, Int.reduceNeg, Int.reduceAdd, Int.reduceSub, w1, w2, cvmV, bslV, chunks, cell1, T.isAgg, List.replicate, List.flatten_cons, List.flatten_nil, List.append_nil]
    repeat' ((with_reducible first | refine xG_dec ?_ ?_ | refine xG_ndec ?_ ?_ | refine xG_nsplit ?_ ?_ | refine xG_split ?_ ?_ | refine xC_dec ?_ ?_ | refine xC_ndec ?_ ?_ | refine xC_nsplit ?_ ?_ | refine xC_split ?_ ?_) <;> intro h <;> (try simp only [wCo, wFr, wOp, wBi, wLst, wLog, xB_other, Nat.reduceBEq, unT, loadP, storeP, partP, partT, partV, cellsP, mkAgg, allT, setRange, fillP, fieldA, indexS, indexA, indexV, indexStr, elems, lenP, pickV, cviV, nckV, extV, isNil, bound, close, close1, aft, retV, retSl, Go.Pi.one, eqT, eqs, eq1, Nat.reduceEqDiff, Nat.reduceAdd, Nat.reduceSub, Nat.reduceMul, Nat.reduceLeDiff, Nat.reduceLT, Nat.one_ne_zero, Nat.zero_ne_one, reduceIte, reduceCtorEq, bne_self_eq_false, decide_true, decide_false, Int.reduceToNat, Int.cast_ofNat_Int, Int.reduceLT, Int.reduceLE, Int.reduceEq, Int.reduceNeg, Int.reduceAdd, Int.reduceSub, w1, w2, cvmV, bslV, chunks, cell1, T.isAgg, List.replicate, List.flatten_cons, List.flatten_nil, List.append_nil, h]))
    refine Xl.step ?_
    try simp only [lb22_1]
    simp only [wCo, wFr, wOp, wBi, wLst, wLog, xB_other, Nat.reduceBEq, unT, loadP, storeP, partP, partT, partV, cellsP, mkAgg, allT, setRange, fillP, fieldA, indexS, indexA, indexV, indexStr, elems, lenP, pickV, cviV, nckV, extV, isNil, bound, close, close1, aft, retV, retSl, Go.Pi.one, eqT, eqs, eq1, Nat.reduceEqDiff, Nat.reduceAdd, Nat.reduceSub, Nat.reduceMul, Nat.reduceLeDiff, Nat.reduceLT, Nat.one_ne_zero, Nat.zero_ne_one, reduceIte, reduceCtorEq, bne_self_eq_false, decide_true, decide_false, Int.reduceToNat, Int.cast_ofNat_Int, Int.reduceLT, Int.reduceLE, Int.reduceEq, Int.reduceNeg, Int.reduceAdd, Int.reduceSub, e3, w1, w2, cvmV, bslV, chunks, cell1, T.isAgg, List.replicate, List.flatten_cons, List.flatten_nil, List.append_nil]
    repeat' ((with_reducible first | refine xG_dec ?_ ?_ | refine xG_ndec ?_ ?_ | refine xG_nsplit ?_ ?_ | refine xG_split ?_ ?_ | refine xC_dec ?_ ?_ | refine xC_ndec ?_ ?_ | refine xC_nsplit ?_ ?_ | refine xC_split ?_ ?_) <;> intro h <;> (try simp only [wCo, wFr, wOp, wBi, wLst, wLog, xB_other, Nat.reduceBEq, unT, loadP, storeP, partP, partT, partV, cellsP, mkAgg, allT, setRange, fillP, fieldA, indexS, indexA, indexV, indexStr, elems, lenP, pickV, cviV, nckV, extV, isNil, bound, close, close1, aft, retV, retSl, Go.Pi.one, eqT, eqs, eq1, Nat.reduceEqDiff, Nat.reduceAdd, Nat.reduceSub, Nat.reduceMul, Nat.reduceLeDiff, Nat.reduceLT, Nat.one_ne_zero, Nat.zero_ne_one, reduceIte, reduceCtorEq, bne_self_eq_false, decide_true, decide_false, Int.reduceToNat, Int.cast_ofNat_Int, Int.reduceLT, Int.reduceLE, Int.reduceEq, Int.reduceNeg, Int.reduceAdd, Int.reduceSub, e3, w1, w2, cvmV, bslV, chunks, cell1, T.isAgg, List.replicate, List.flatten_cons, List.flatten_nil, List.append_nil, h]))
    refine app43 h2 (u := vr) (by omega) (by simp [en2]) (by omega) fun j3 b3 n3 eb3 en3 => ?_
    have l3 : n3 = n2 + 1 + (decDigits vr).length := by rw [en3, eb3]; simp only [List.length_append, List.length_cons, List.length_nil, en2]
    have e4 : ∀ sg, appendP false sg [n3] 1 1 (.own 0 1 (bytesT b3)) (.lit [[.int .u8 10]]) = some (.own 0 1 (bytesT (b3 ++ [10])), [n3 + 1]) := own_lit 10 en3 (by omega)
    simp only [wCo, wFr, wOp, wBi, wLst, wLog, xB_other, Nat.reduceBEq, unT, loadP, storeP, partP, partT, partV, cellsP, mkAgg, allT, setRange, fillP, fieldA, indexS, indexA, indexV, indexStr, elems, lenP, pickV, cviV, nckV, extV, isNil, bound, close, close1, aft, retV, retSl, Go.Pi.one, eqT, eqs, eq1, Nat.reduceEqDiff, Nat.reduceAdd, Nat.reduceSub, Nat.reduceMul, Nat.reduceLeDiff, Nat.reduceLT, Nat.one_ne_zero, Nat.zero_ne_one, reduceIte, reduceCtorEq, bne_self_eq_false, decide_true, decide_false, Int.reduceToNat, Int.cast_ofNat_Int, Int.reduceLT, Int.reduceLE, Int.reduceEq, Int.reduceNeg, Int.reduceAdd, Int.reduceSub, w1, w2, cvmV, bslV, chunks, cell1, T.isAgg, List.replicate, List.flatten_cons, List.flatten_nil, List.append_nil]
    repeat' ((with_reducible first | refine xG_dec ?_ ?_ | refine xG_ndec ?_ ?_ | refine xG_nsplit ?_ ?_ | refine xG_split ?_ ?_ | refine xC_dec ?_ ?_ | refine xC_ndec ?_ ?_ | refine xC_nsplit ?_ ?_ | refine xC_split ?_ ?_) <;> intro h <;> (try simp only [wCo, wFr, wOp, wBi, wLst, wLog, xB_other, Nat.reduceBEq, unT, loadP, storeP, partP, partT, partV, cellsP, mkAgg, allT, setRange, fillP, fieldA, indexS, indexA, indexV, indexStr, elems, lenP, pickV, cviV, nckV, extV, isNil, bound, close, close1, aft, retV, retSl, Go.Pi.one, eqT, eqs, eq1, Nat.reduceEqDiff, Nat.reduceAdd, Nat.reduceSub, Nat.reduceMul, Nat.reduceLeDiff, Nat.reduceLT, Nat.one_ne_zero, Nat.zero_ne_one, reduceIte, reduceCtorEq, bne_self_eq_false, decide_true, decide_false, Int.reduceToNat, Int.cast_ofNat_Int, Int.reduceLT, Int.reduceLE, Int.reduceEq, Int.reduceNeg, Int.reduceAdd, Int.reduceSub, w1, w2, cvmV, bslV, chunks, cell1, T.isAgg, List.replicate, List.flatten_cons, List.flatten_nil, List.append_nil, h]))
    refine Xl.step ?_
    try simp only [lb22_1]
    simp only [wCo, wFr, wOp, wBi, wLst, wLog, xB_other, Nat.reduceBEq, unT, loadP, storeP, partP, partT, partV, cellsP, mkAgg, allT, setRange, fillP, fieldA, indexS, indexA, indexV, indexStr, elems, lenP, pickV, cviV, nckV, extV, isNil, bound, close, close1, aft, retV, retSl, Go.Pi.one, eqT, eqs, eq1, Nat.reduceEqDiff, Nat.reduceAdd, Nat.reduceSub, Nat.reduceMul, Nat.reduceLeDiff, Nat.reduceLT, Nat.one_ne_zero, Nat.zero_ne_one, reduceIte, reduceCtorEq, bne_self_eq_false, decide_true, decide_false, Int.reduceToNat, Int.cast_ofNat_Int, Int.reduceLT, Int.reduceLE, Int.reduceEq, Int.reduceNeg, Int.reduceAdd, Int.reduceSub, e4, w1, w2, cvmV, bslV, chunks, cell1, T.isAgg, List.replicate, List.flatten_cons, List.flatten_nil, List.append_nil]
    repeat' ((with_reducible first | refine xG_dec ?_ ?_ | refine xG_ndec ?_ ?_ | refine xG_nsplit ?_ ?_ | refine xG_split ?_ ?_ | refine xC_dec ?_ ?_ | refine xC_ndec ?_ ?_ | refine xC_nsplit ?_ ?_ | refine xC_split ?_ ?_) <;> intro h <;> (try simp only [wCo, wFr, wOp, wBi, wLst, wLog, xB_other, Nat.reduceBEq, unT, loadP, storeP, partP, partT, partV, cellsP, mkAgg, allT, setRange, fillP, fieldA, indexS, indexA, indexV, indexStr, elems, lenP, pickV, cviV, nckV, extV, isNil, bound, close, close1, aft, retV, retSl, Go.Pi.one, eqT, eqs, eq1, Nat.reduceEqDiff, Nat.reduceAdd, Nat.reduceSub, Nat.reduceMul, Nat.reduceLeDiff, Nat.reduceLT, Nat.one_ne_zero, Nat.zero_ne_one, reduceIte, reduceCtorEq, bne_self_eq_false, decide_true, decide_false, Int.reduceToNat, Int.cast_ofNat_Int, Int.reduceLT, Int.reduceLE, Int.reduceEq, Int.reduceNeg, Int.reduceAdd, Int.reduceSub, e4, w1, w2, cvmV, bslV, chunks, cell1, T.isAgg, List.replicate, List.flatten_cons, List.flatten_nil, List.append_nil, h]))
    refine loop22 h2 (nl := t.nl) s1 hrow t.rows 0 (b3 ++ [10]) (n3 + 1) _ _ rfl (by simp [en3]) (by omega) (by simp only [FrAt_cons, FrAt_nil, wFr, Nat.reduceEqDiff, Nat.one_ne_zero, Nat.zero_ne_one, reduceIte, and_self, and_true, true_and]) ?_
    intro fr' j' b' n' hb' hn' hf'
    simp only [FrAt_cons, FrAt_nil] at hf'
    obtain ⟨f4, -⟩ := hf'
    simp only [wCo, wFr, wOp, wBi, wLst, wLog, xB_other, Nat.reduceBEq, unT, loadP, storeP, partP, partT, partV, cellsP, mkAgg, allT, setRange, fillP, fieldA, indexS, indexA, indexV, indexStr, elems, lenP, pickV, cviV, nckV, extV, isNil, bound, close, close1, aft, retV, retSl, Go.Pi.one, eqT, eqs, eq1, Nat.reduceEqDiff, Nat.reduceAdd, Nat.reduceSub, Nat.reduceMul, Nat.reduceLeDiff, Nat.reduceLT, Nat.one_ne_zero, Nat.zero_ne_one, reduceIte, reduceCtorEq, bne_self_eq_false, decide_true, decide_false, Int.reduceToNat, Int.cast_ofNat_Int, Int.reduceLT, Int.reduceLE, Int.reduceEq, Int.reduceNeg, Int.reduceAdd, Int.reduceSub, f4, elemsS, unbytes_bytes, hn']
    repeat' ((with_reducible first | refine xG_dec ?_ ?_ | refine xG_ndec ?_ ?_ | refine xG_nsplit ?_ ?_ | refine xG_split ?_ ?_ | refine xC_dec ?_ ?_ | refine xC_ndec ?_ ?_ | refine xC_nsplit ?_ ?_ | refine xC_split ?_ ?_) <;> intro h <;> (try simp only [wCo, wFr, wOp, wBi, wLst, wLog, xB_other, Nat.reduceBEq, unT, loadP, storeP, partP, partT, partV, cellsP, mkAgg, allT, setRange, fillP, fieldA, indexS, indexA, indexV, indexStr, elems, lenP, pickV, cviV, nckV, extV, isNil, bound, close, close1, aft, retV, retSl, Go.Pi.one, eqT, eqs, eq1, Nat.reduceEqDiff, Nat.reduceAdd, Nat.reduceSub, Nat.reduceMul, Nat.reduceLeDiff, Nat.reduceLT, Nat.one_ne_zero, Nat.zero_ne_one, reduceIte, reduceCtorEq, bne_self_eq_false, decide_true, decide_false, Int.reduceToNat, Int.cast_ofNat_Int, Int.reduceLT, Int.reduceLE, Int.reduceEq, Int.reduceNeg, Int.reduceAdd, Int.reduceSub, f4, elemsS, unbytes_bytes, hn', h]))
    rw [hb', eb3, eb2, hB1]
    simp only [fmtT, headT, hp, hq, hvr, Int.toNat_natCast, List.append_assoc, List.cons_append, List.nil_append]

end Go.Proofs.YtbkphlhmbllbiaaDoor
