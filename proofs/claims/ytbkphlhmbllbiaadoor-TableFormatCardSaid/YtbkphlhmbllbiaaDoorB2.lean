/- Contracts: decimal numbers: FormatUint, AppendUint, AppendInt. -/
import Derived.Test.YtbkphlhmbllbiaaDoorB1
set_option maxRecDepth 10000
set_option linter.unusedVariables false
set_option linter.unusedSimpArgs false
namespace Go.Proofs.YtbkphlhmbllbiaaDoor
open Go.Pi Go.Lib
variable {gl : Nat → Option (List T)}

theorem bytes_len {s : List UInt8} : (bytesT s).length = s.length := by simp [bytesT]
theorem bytes_app {a b : List UInt8} : bytesT (a ++ b) = bytesT a ++ bytesT b := by simp [bytesT]
theorem bytes_all {s : List UInt8} : (bytesT s).all (fun x => x.length == 1) = true := by simp [bytesT]
theorem unbytes_bytes (s : List UInt8) : unbytes (bytesT s) = some s := by
  induction s with
  | nil => rfl
  | cons a r ih =>
    have e : bytesT (a :: r) = [.int .u8 a.toNat] :: bytesT r := rfl
    rw [e]
    simp only [unbytes, ih, Option.map_some]
    simp
theorem allT_map : ∀ (l : List T), allT (l.map .t) = some l := by
  intro l
  induction l with
  | nil => rfl
  | cons a r ih => simp [allT, ih]
theorem chunks_one : ∀ (l : List T), chunks 1 l.length l = l.map fun x => [x] := by
  intro l
  induction l with
  | nil => rfl
  | cons a r ih => simp [chunks, ih]
theorem elems_ls {sg : Sg} {id n : Nat} {ro : Bool} {s : List UInt8} {D : List PV} (hs : sg[id]? = some (ro, s.map bcell ++ D)) (hn : n = s.length) : elemsS sg 1 (.ls id 0 n 1) = some (bytesT s) := by
  subst hn
  have e : s.map bcell = (s.map fun b => T.int .u8 (b.toNat : Int)).map PV.t := by simp [bcell]
  have hl : (s.map fun b => T.int .u8 (b.toNat : Int)).length = s.length := by simp
  have hany : (s.map fun b => T.int .u8 (b.toNat : Int)).any T.isAgg = false := by simp [T.isAgg]
  have ht : List.take (s.length * 1) (List.drop 0 (s.map bcell ++ D)) = s.map bcell := by
    rw [Nat.mul_one, List.drop_zero, List.take_append_of_le_length (by simp)]
    exact List.take_of_length_le (by simp)
  simp only [elemsS, if_true, hs, ht]
  rw [if_pos (by simp), e, allT_map]
  simp only [hany]
  have := chunks_one (s.map fun b => T.int .u8 (b.toNat : Int))
  rw [hl] at this
  rw [this]
  simp [bytesT]
theorem roomB {n : Nat} (h : n ≤ 1000000000) : room n 1 = true := by
  unfold room
  exact decide_eq_true ⟨by omega, by omega⟩
theorem own_str {b s : List UInt8} {n : Nat} (hn : n = b.length) (hs : s ≠ []) (hr : n + s.length ≤ 1000000000) (sg : Sg) : appendP false sg [n] 1 1 (.own 0 1 (bytesT b)) (.t (.str s)) = some (.own 0 1 (bytesT (b ++ s)), [n + s.length]) := by
  subst hn
  match s, hs with
  | c :: r, _ =>
    have e0 : bytesT (c :: r) = [.int .u8 c.toNat] :: bytesT r := rfl
    have hb : (([.int .u8 (c.toNat : Int)] : List T) :: bytesT r).all (fun x => x.length == 1) = true := bytes_all (s := c :: r)
    have e1 : (([.int .u8 (c.toNat : Int)] : List T) :: bytesT r).length = r.length + 1 := by simp [bytes_len]
    simp only [List.length_cons] at hr
    have hro : room (b.length + (r.length + 1)) 1 = true := roomB (by omega)
    rw [bytes_app, e0]
    simp only [appendP, e0, hb, Nat.one_pos, and_self, if_true, e1, bytes_len, hro, List.getElem?_cons_zero, List.set_cons_zero, List.length_cons]
theorem own_ls {id o m z : Nat} {b s : List UInt8} {n : Nat} (hn : n = b.length) (hs : s ≠ []) (hr : n + s.length ≤ 1000000000) {sg : Sg} (he : elemsS sg 1 (.ls id o m z) = some (bytesT s)) : appendP false sg [n] 1 1 (.own 0 1 (bytesT b)) (.ls id o m z) = some (.own 0 1 (bytesT (b ++ s)), [n + s.length]) := by
  subst hn
  match s, hs with
  | c :: r, _ =>
    have e0 : bytesT (c :: r) = [.int .u8 c.toNat] :: bytesT r := rfl
    have hb : (([.int .u8 (c.toNat : Int)] : List T) :: bytesT r).all (fun x => x.length == 1) = true := bytes_all (s := c :: r)
    have e1 : (([.int .u8 (c.toNat : Int)] : List T) :: bytesT r).length = r.length + 1 := by simp [bytes_len]
    simp only [List.length_cons] at hr
    have hro : room (b.length + (r.length + 1)) 1 = true := roomB (by omega)
    rw [bytes_app, e0]
    rw [e0] at he
    simp only [appendP, he, hb, Nat.one_pos, and_self, if_true, e1, bytes_len, hro, List.getElem?_cons_zero, List.set_cons_zero, List.length_cons]
theorem own_lits {es : List (List T)} {b s : List UInt8} {n : Nat} (hn : n = b.length) (hs : s ≠ []) (hr : n + s.length ≤ 1000000000) {sg : Sg} (he : elemsS sg 1 (.lit es) = some (bytesT s)) : appendP false sg [n] 1 1 (.own 0 1 (bytesT b)) (.lit es) = some (.own 0 1 (bytesT (b ++ s)), [n + s.length]) := by
  subst hn
  match s, hs with
  | c :: r, _ =>
    have e0 : bytesT (c :: r) = [.int .u8 c.toNat] :: bytesT r := rfl
    have hb : (([.int .u8 (c.toNat : Int)] : List T) :: bytesT r).all (fun x => x.length == 1) = true := bytes_all (s := c :: r)
    have e1 : (([.int .u8 (c.toNat : Int)] : List T) :: bytesT r).length = r.length + 1 := by simp [bytes_len]
    simp only [List.length_cons] at hr
    have hro : room (b.length + (r.length + 1)) 1 = true := roomB (by omega)
    rw [bytes_app, e0]
    rw [e0] at he
    simp only [appendP, he, hb, Nat.one_pos, and_self, if_true, e1, bytes_len, hro, List.getElem?_cons_zero, List.set_cons_zero, List.length_cons]
theorem own_lit {b : List UInt8} {n : Nat} (c : UInt8) (hn : n = b.length) (hr : n + 1 ≤ 1000000000) (sg : Sg) : appendP false sg [n] 1 1 (.own 0 1 (bytesT b)) (.lit [[.int .u8 (c.toNat : Int)]]) = some (.own 0 1 (bytesT (b ++ [c])), [n + 1]) :=
  own_lits (s := [c]) hn (by simp) (by simpa using hr) rfl
theorem dec_ne (u : Nat) : decDigits u ≠ [] := by
  intro h
  have := decDigits_length u
  rw [h] at this
  have := nDigits_pos u
  simp at *
  omega
theorem dec_len (u : Nat) (h : u ≤ 18446744073709551615) : (decDigits u).length ≤ 20 ∧ u < 10 ^ (decDigits u).length := by
  rw [decDigits_length]
  refine ⟨?_, lt_pow_nDigits u⟩
  rcases Nat.eq_zero_or_pos u with h0 | h0
  · subst h0; rw [nDigits_small (by omega)]; omega
  · obtain ⟨a, b⟩ := numDigits_eq u h0 (by omega)
    split at a <;> omega
def z24 : List PV := List.replicate 24 (.t (.int .u8 0))
theorem ok64 (h2 : gl 2 = some (p10.map (T.int .u64))) {u : Nat} (hu : u ≤ 18446744073709551615) {K : PV → Prop} : XcP F gl 64 [.int .u64 (u : Int), .int .i64 10] K ⟨⟩ ↔ K (.t (.str (decDigits u))) := by
  refine Ret.iff (Ret.of F64 rfl ?_)
  simp only [ir64]
  by_cases c : (u : Int) < 100
  · have a := @ok79 gl (u : Int) (by omega) c
    rw [Int.toNat_natCast] at a
    have w : IntKind.i64.wrap (u : Int) = (u : Int) := IntWalk.i64_in _ (by omega)
    simp only [wCo, wFr, wOp, wBi, wLst, wLog, xB_other, Nat.reduceBEq, unT, loadP, storeP, partP, partT, partV, cellsP, mkAgg, allT, setRange, fillP, fieldA, indexS, indexA, indexV, indexStr, elems, lenP, pickV, cviV, nckV, extV, isNil, bound, close, close1, aft, retV, retSl, Go.Pi.one, eqT, eqs, eq1, Nat.reduceEqDiff, Nat.reduceAdd, Nat.reduceSub, Nat.reduceMul, Nat.reduceLeDiff, Nat.reduceLT, Nat.one_ne_zero, Nat.zero_ne_one, reduceIte, reduceCtorEq, bne_self_eq_false, decide_true, decide_false, Int.reduceToNat, Int.cast_ofNat_Int, Int.reduceLT, Int.reduceLE, Int.reduceEq, Int.reduceNeg, Int.reduceAdd, Int.reduceSub, c, w, a]
    repeat' ((with_reducible first | refine xG_dec ?_ ?_ | refine xG_ndec ?_ ?_ | refine xG_nsplit ?_ ?_ | refine xG_split ?_ ?_ | refine xC_dec ?_ ?_ | refine xC_ndec ?_ ?_ | refine xC_nsplit ?_ ?_ | refine xC_split ?_ ?_) <;> intro h <;> (try simp only [wCo, wFr, wOp, wBi, wLst, wLog, xB_other, Nat.reduceBEq, unT, loadP, storeP, partP, partT, partV, cellsP, mkAgg, allT, setRange, fillP, fieldA, indexS, indexA, indexV, indexStr, elems, lenP, pickV, cviV, nckV, extV, isNil, bound, close, close1, aft, retV, retSl, Go.Pi.one, eqT, eqs, eq1, Nat.reduceEqDiff, Nat.reduceAdd, Nat.reduceSub, Nat.reduceMul, Nat.reduceLeDiff, Nat.reduceLT, Nat.one_ne_zero, Nat.zero_ne_one, reduceIte, reduceCtorEq, bne_self_eq_false, decide_true, decide_false, Int.reduceToNat, Int.cast_ofNat_Int, Int.reduceLT, Int.reduceLE, Int.reduceEq, Int.reduceNeg, Int.reduceAdd, Int.reduceSub, c, w, a, h]))
  · have a1 := @ok80 gl h2 (u : Int) (by omega) (by omega)
    rw [Int.toNat_natCast] at a1
    obtain ⟨l1, l2⟩ := dec_len u hu
    rw [decDigits_length] at l1 l2
    have hz : z24 = z24.take (nDigits u) ++ z24.drop (nDigits u) := (List.take_append_drop _ _).symm
    have hs : ([(false, z24)] : Sg)[0]? = some (false, z24.take (nDigits u) ++ z24.drop (nDigits u)) := by rw [← hz]; rfl
    have a2 := fun K => @ok81 gl 0 (nDigits u) u (by omega) hu l2 [(false, z24)] [] (z24.take (nDigits u)) (z24.drop (nDigits u)) (by rw [List.length_take]; simp [z24]; omega) hs K
    simp only [z24, List.replicate, List.set_cons_zero] at a2
    have hel : ∀ D, elemsS [(false, (dgs (nDigits u) u).map bcell ++ D)] 1 (.ls 0 0 (nDigits u) 1) = some (bytesT (dgs (nDigits u) u)) := fun D => elems_ls (D := D) rfl (dgs_len _ _).symm
    have l3 : nDigits u ≤ 24 := by omega
    rw [dgs_dec u]
    simp only [wCo, wFr, wOp, wBi, wLst, wLog, xB_other, Nat.reduceBEq, unT, loadP, storeP, partP, partT, partV, cellsP, mkAgg, allT, setRange, fillP, fieldA, indexS, indexA, indexV, indexStr, elems, lenP, pickV, cviV, nckV, extV, isNil, bound, close, close1, aft, retV, retSl, Go.Pi.one, eqT, eqs, eq1, Nat.reduceEqDiff, Nat.reduceAdd, Nat.reduceSub, Nat.reduceMul, Nat.reduceLeDiff, Nat.reduceLT, Nat.one_ne_zero, Nat.zero_ne_one, reduceIte, reduceCtorEq, bne_self_eq_false, decide_true, decide_false, Int.reduceToNat, Int.cast_ofNat_Int, Int.reduceLT, Int.reduceLE, Int.reduceEq, Int.reduceNeg, Int.reduceAdd, Int.reduceSub, c, a1, sliceA, Nat.zero_le, l3, Nat.sub_zero, a2, hel, unbytes_bytes]
    repeat' ((with_reducible first | refine xG_dec ?_ ?_ | refine xG_ndec ?_ ?_ | refine xG_nsplit ?_ ?_ | refine xG_split ?_ ?_ | refine xC_dec ?_ ?_ | refine xC_ndec ?_ ?_ | refine xC_nsplit ?_ ?_ | refine xC_split ?_ ?_) <;> intro h <;> (try simp only [wCo, wFr, wOp, wBi, wLst, wLog, xB_other, Nat.reduceBEq, unT, loadP, storeP, partP, partT, partV, cellsP, mkAgg, allT, setRange, fillP, fieldA, indexS, indexA, indexV, indexStr, elems, lenP, pickV, cviV, nckV, extV, isNil, bound, close, close1, aft, retV, retSl, Go.Pi.one, eqT, eqs, eq1, Nat.reduceEqDiff, Nat.reduceAdd, Nat.reduceSub, Nat.reduceMul, Nat.reduceLeDiff, Nat.reduceLT, Nat.one_ne_zero, Nat.zero_ne_one, reduceIte, reduceCtorEq, bne_self_eq_false, decide_true, decide_false, Int.reduceToNat, Int.cast_ofNat_Int, Int.reduceLT, Int.reduceLE, Int.reduceEq, Int.reduceNeg, Int.reduceAdd, Int.reduceSub, c, a1, sliceA, Nat.zero_le, l3, Nat.sub_zero, a2, hel, unbytes_bytes, h]))

theorem ok42 (h2 : gl 2 = some (p10.map (T.int .u64))) {u : Nat} (hu : u ≤ 18446744073709551615) {K : PV → Prop} : XcP F gl 42 [.int .u64 (u : Int), .int .i64 10] K ⟨⟩ ↔ K (.t (.str (decDigits u))) := by
  refine Ret.iff (Ret.of F42 rfl ?_)
  simp only [ir42]
  simp only [wCo, wFr, wOp, wBi, wLst, wLog, xB_other, Nat.reduceBEq, unT, loadP, storeP, partP, partT, partV, cellsP, mkAgg, allT, setRange, fillP, fieldA, indexS, indexA, indexV, indexStr, elems, lenP, pickV, cviV, nckV, extV, isNil, bound, close, close1, aft, retV, retSl, Go.Pi.one, eqT, eqs, eq1, Nat.reduceEqDiff, Nat.reduceAdd, Nat.reduceSub, Nat.reduceMul, Nat.reduceLeDiff, Nat.reduceLT, Nat.one_ne_zero, Nat.zero_ne_one, reduceIte, reduceCtorEq, bne_self_eq_false, decide_true, decide_false, Int.reduceToNat, Int.cast_ofNat_Int, Int.reduceLT, Int.reduceLE, Int.reduceEq, Int.reduceNeg, Int.reduceAdd, Int.reduceSub, ok64 h2 hu]
  repeat' ((with_reducible first | refine xG_dec ?_ ?_ | refine xG_ndec ?_ ?_ | refine xG_nsplit ?_ ?_ | refine xG_split ?_ ?_ | refine xC_dec ?_ ?_ | refine xC_ndec ?_ ?_ | refine xC_nsplit ?_ ?_ | refine xC_split ?_ ?_) <;> intro h <;> (try simp only [wCo, wFr, wOp, wBi, wLst, wLog, xB_other, Nat.reduceBEq, unT, loadP, storeP, partP, partT, partV, cellsP, mkAgg, allT, setRange, fillP, fieldA, indexS, indexA, indexV, indexStr, elems, lenP, pickV, cviV, nckV, extV, isNil, bound, close, close1, aft, retV, retSl, Go.Pi.one, eqT, eqs, eq1, Nat.reduceEqDiff, Nat.reduceAdd, Nat.reduceSub, Nat.reduceMul, Nat.reduceLeDiff, Nat.reduceLT, Nat.one_ne_zero, Nat.zero_ne_one, reduceIte, reduceCtorEq, bne_self_eq_false, decide_true, decide_false, Int.reduceToNat, Int.cast_ofNat_Int, Int.reduceLT, Int.reduceLE, Int.reduceEq, Int.reduceNeg, Int.reduceAdd, Int.reduceSub, ok64 h2 hu, h]))
theorem app83 (h2 : gl 2 = some (p10.map (T.int .u64))) {u n : Nat} {b : List UInt8} {sg : Sg} (hu : u ≤ 18446744073709551615) (hn : n = b.length) (hb : n + 20 ≤ 1000000000) {K : PV → Sg → Ow → Prop}
    (hK : ∀ j b' n', b' = b ++ decDigits u → n' = b'.length → K (.own 0 1 (bytesT b')) (sg ++ j) [n']) : XcE F gl 83 [.own 0 1 (bytesT b), .t (.int .u64 (u : Int)), .t (.int .i64 10)] sg [n] K ⟨⟩ := by
  refine XcE.of F83 rfl ?_
  simp only [ir83]
  obtain ⟨l1, l2⟩ := dec_len u hu
  by_cases c : (u : Int) < 100
  · have a := @ok79 gl (u : Int) (by omega) c
    rw [Int.toNat_natCast] at a
    have w : IntKind.i64.wrap (u : Int) = (u : Int) := IntWalk.i64_in _ (by omega)
    have e := own_str (b := b) (s := decDigits u) hn (dec_ne u) (by omega)
    have hk := hK [] (b ++ decDigits u) (n + (decDigits u).length) rfl (by simp [hn])
    rw [List.append_nil] at hk
    simp only [wCo, wFr, wOp, wBi, wLst, wLog, xB_other, Nat.reduceBEq, unT, loadP, storeP, partP, partT, partV, cellsP, mkAgg, allT, setRange, fillP, fieldA, indexS, indexA, indexV, indexStr, elems, lenP, pickV, cviV, nckV, extV, isNil, bound, close, close1, aft, retV, retSl, Go.Pi.one, eqT, eqs, eq1, Nat.reduceEqDiff, Nat.reduceAdd, Nat.reduceSub, Nat.reduceMul, Nat.reduceLeDiff, Nat.reduceLT, Nat.one_ne_zero, Nat.zero_ne_one, reduceIte, reduceCtorEq, bne_self_eq_false, decide_true, decide_false, Int.reduceToNat, Int.cast_ofNat_Int, Int.reduceLT, Int.reduceLE, Int.reduceEq, Int.reduceNeg, Int.reduceAdd, Int.reduceSub, c, w, a, e]
    repeat' ((with_reducible first | refine xG_dec ?_ ?_ | refine xG_ndec ?_ ?_ | refine xG_nsplit ?_ ?_ | refine xG_split ?_ ?_ | refine xC_dec ?_ ?_ | refine xC_ndec ?_ ?_ | refine xC_nsplit ?_ ?_ | refine xC_split ?_ ?_) <;> intro h <;> (try simp only [wCo, wFr, wOp, wBi, wLst, wLog, xB_other, Nat.reduceBEq, unT, loadP, storeP, partP, partT, partV, cellsP, mkAgg, allT, setRange, fillP, fieldA, indexS, indexA, indexV, indexStr, elems, lenP, pickV, cviV, nckV, extV, isNil, bound, close, close1, aft, retV, retSl, Go.Pi.one, eqT, eqs, eq1, Nat.reduceEqDiff, Nat.reduceAdd, Nat.reduceSub, Nat.reduceMul, Nat.reduceLeDiff, Nat.reduceLT, Nat.one_ne_zero, Nat.zero_ne_one, reduceIte, reduceCtorEq, bne_self_eq_false, decide_true, decide_false, Int.reduceToNat, Int.cast_ofNat_Int, Int.reduceLT, Int.reduceLE, Int.reduceEq, Int.reduceNeg, Int.reduceAdd, Int.reduceSub, c, w, a, e, h]))
    exact hk
  · have a1 := @ok80 gl h2 (u : Int) (by omega) (by omega)
    rw [Int.toNat_natCast] at a1
    rw [decDigits_length] at l1 l2
    have hz : z24 = z24.take (nDigits u) ++ z24.drop (nDigits u) := (List.take_append_drop _ _).symm
    have hs : (sg ++ [(false, z24)] : Sg)[sg.length]? = some (false, z24.take (nDigits u) ++ z24.drop (nDigits u)) := by rw [← hz, get_app0]; rfl
    have a2 := fun K => @ok81 gl sg.length (nDigits u) u (by omega) hu l2 (sg ++ [(false, z24)]) [n] (z24.take (nDigits u)) (z24.drop (nDigits u)) (by rw [List.length_take]; simp [z24]; omega) hs K
    simp only [z24, List.replicate, set_app0, List.set_cons_zero] at a2
    have hel : ∀ D, elemsS (sg ++ [(false, (dgs (nDigits u) u).map bcell ++ D)]) 1 (.ls sg.length 0 (nDigits u) 1) = some (bytesT (dgs (nDigits u) u)) := fun D => elems_ls (D := D) (by rw [get_app0]; rfl) (dgs_len _ _).symm
    have l3 : nDigits u ≤ 24 := by omega
    have hne := dec_ne u
    rw [dgs_dec u] at hK hne
    have e := fun D => own_ls (b := b) (s := dgs (nDigits u) u) hn hne (by rw [dgs_len]; omega) (hel D)
    simp only [wCo, wFr, wOp, wBi, wLst, wLog, xB_other, Nat.reduceBEq, unT, loadP, storeP, partP, partT, partV, cellsP, mkAgg, allT, setRange, fillP, fieldA, indexS, indexA, indexV, indexStr, elems, lenP, pickV, cviV, nckV, extV, isNil, bound, close, close1, aft, retV, retSl, Go.Pi.one, eqT, eqs, eq1, Nat.reduceEqDiff, Nat.reduceAdd, Nat.reduceSub, Nat.reduceMul, Nat.reduceLeDiff, Nat.reduceLT, Nat.one_ne_zero, Nat.zero_ne_one, reduceIte, reduceCtorEq, bne_self_eq_false, decide_true, decide_false, Int.reduceToNat, Int.cast_ofNat_Int, Int.reduceLT, Int.reduceLE, Int.reduceEq, Int.reduceNeg, Int.reduceAdd, Int.reduceSub, c, a1, sliceA, Nat.zero_le, l3, Nat.sub_zero, a2, e]
    repeat' ((with_reducible first | refine xG_dec ?_ ?_ | refine xG_ndec ?_ ?_ | refine xG_nsplit ?_ ?_ | refine xG_split ?_ ?_ | refine xC_dec ?_ ?_ | refine xC_ndec ?_ ?_ | refine xC_nsplit ?_ ?_ | refine xC_split ?_ ?_) <;> intro h <;> (try simp only [wCo, wFr, wOp, wBi, wLst, wLog, xB_other, Nat.reduceBEq, unT, loadP, storeP, partP, partT, partV, cellsP, mkAgg, allT, setRange, fillP, fieldA, indexS, indexA, indexV, indexStr, elems, lenP, pickV, cviV, nckV, extV, isNil, bound, close, close1, aft, retV, retSl, Go.Pi.one, eqT, eqs, eq1, Nat.reduceEqDiff, Nat.reduceAdd, Nat.reduceSub, Nat.reduceMul, Nat.reduceLeDiff, Nat.reduceLT, Nat.one_ne_zero, Nat.zero_ne_one, reduceIte, reduceCtorEq, bne_self_eq_false, decide_true, decide_false, Int.reduceToNat, Int.cast_ofNat_Int, Int.reduceLT, Int.reduceLE, Int.reduceEq, Int.reduceNeg, Int.reduceAdd, Int.reduceSub, c, a1, sliceA, Nat.zero_le, l3, Nat.sub_zero, a2, e, h]))
    exact hK _ _ _ rfl (by simp [hn])
theorem app66 (h2 : gl 2 = some (p10.map (T.int .u64))) {u n : Nat} {b : List UInt8} {sg : Sg} (hu : u ≤ 18446744073709551615) (hn : n = b.length) (hb : n + 20 ≤ 1000000000) {K : PV → Sg → Ow → Prop}
    (hK : ∀ j b' n', b' = b ++ decDigits u → n' = b'.length → K (.own 0 1 (bytesT b')) (sg ++ j) [n']) : XcE F gl 66 [.own 0 1 (bytesT b), .t (.int .u64 (u : Int)), .t (.int .i64 10)] sg [n] K ⟨⟩ := by
  refine XcE.of F66 rfl ?_
  simp only [ir66]
  simp only [wCo, wFr, wOp, wBi, wLst, wLog, xB_other, Nat.reduceBEq, unT, loadP, storeP, partP, partT, partV, cellsP, mkAgg, allT, setRange, fillP, fieldA, indexS, indexA, indexV, indexStr, elems, lenP, pickV, cviV, nckV, extV, isNil, bound, close, close1, aft, retV, retSl, Go.Pi.one, eqT, eqs, eq1, Nat.reduceEqDiff, Nat.reduceAdd, Nat.reduceSub, Nat.reduceMul, Nat.reduceLeDiff, Nat.reduceLT, Nat.one_ne_zero, Nat.zero_ne_one, reduceIte, reduceCtorEq, bne_self_eq_false, decide_true, decide_false, Int.reduceToNat, Int.cast_ofNat_Int, Int.reduceLT, Int.reduceLE, Int.reduceEq, Int.reduceNeg, Int.reduceAdd, Int.reduceSub]
  repeat' ((with_reducible first | refine xG_dec ?_ ?_ | refine xG_ndec ?_ ?_ | refine xG_nsplit ?_ ?_ | refine xG_split ?_ ?_ | refine xC_dec ?_ ?_ | refine xC_ndec ?_ ?_ | refine xC_nsplit ?_ ?_ | refine xC_split ?_ ?_) <;> intro h <;> (try simp only [wCo, wFr, wOp, wBi, wLst, wLog, xB_other, Nat.reduceBEq, unT, loadP, storeP, partP, partT, partV, cellsP, mkAgg, allT, setRange, fillP, fieldA, indexS, indexA, indexV, indexStr, elems, lenP, pickV, cviV, nckV, extV, isNil, bound, close, close1, aft, retV, retSl, Go.Pi.one, eqT, eqs, eq1, Nat.reduceEqDiff, Nat.reduceAdd, Nat.reduceSub, Nat.reduceMul, Nat.reduceLeDiff, Nat.reduceLT, Nat.one_ne_zero, Nat.zero_ne_one, reduceIte, reduceCtorEq, bne_self_eq_false, decide_true, decide_false, Int.reduceToNat, Int.cast_ofNat_Int, Int.reduceLT, Int.reduceLE, Int.reduceEq, Int.reduceNeg, Int.reduceAdd, Int.reduceSub, h]))
  refine app83 h2 hu hn hb fun j b' n' e1 e2 => ?_
  simp only [wCo, wFr, wOp, wBi, wLst, wLog, xB_other, Nat.reduceBEq, unT, loadP, storeP, partP, partT, partV, cellsP, mkAgg, allT, setRange, fillP, fieldA, indexS, indexA, indexV, indexStr, elems, lenP, pickV, cviV, nckV, extV, isNil, bound, close, close1, aft, retV, retSl, Go.Pi.one, eqT, eqs, eq1, Nat.reduceEqDiff, Nat.reduceAdd, Nat.reduceSub, Nat.reduceMul, Nat.reduceLeDiff, Nat.reduceLT, Nat.one_ne_zero, Nat.zero_ne_one, reduceIte, reduceCtorEq, bne_self_eq_false, decide_true, decide_false, Int.reduceToNat, Int.cast_ofNat_Int, Int.reduceLT, Int.reduceLE, Int.reduceEq, Int.reduceNeg, Int.reduceAdd, Int.reduceSub]
  repeat' ((with_reducible first | refine xG_dec ?_ ?_ | refine xG_ndec ?_ ?_ | refine xG_nsplit ?_ ?_ | refine xG_split ?_ ?_ | refine xC_dec ?_ ?_ | refine xC_ndec ?_ ?_ | refine xC_nsplit ?_ ?_ | refine xC_split ?_ ?_) <;> intro h <;> (try simp only [wCo, wFr, wOp, wBi, wLst, wLog, xB_other, Nat.reduceBEq, unT, loadP, storeP, partP, partT, partV, cellsP, mkAgg, allT, setRange, fillP, fieldA, indexS, indexA, indexV, indexStr, elems, lenP, pickV, cviV, nckV, extV, isNil, bound, close, close1, aft, retV, retSl, Go.Pi.one, eqT, eqs, eq1, Nat.reduceEqDiff, Nat.reduceAdd, Nat.reduceSub, Nat.reduceMul, Nat.reduceLeDiff, Nat.reduceLT, Nat.one_ne_zero, Nat.zero_ne_one, reduceIte, reduceCtorEq, bne_self_eq_false, decide_true, decide_false, Int.reduceToNat, Int.cast_ofNat_Int, Int.reduceLT, Int.reduceLE, Int.reduceEq, Int.reduceNeg, Int.reduceAdd, Int.reduceSub, h]))
  exact hK j b' n' e1 e2
theorem app43 (h2 : gl 2 = some (p10.map (T.int .u64))) {u n : Nat} {b : List UInt8} {sg : Sg} (hu : u ≤ 9223372036854775807) (hn : n = b.length) (hb : n + 20 ≤ 1000000000) {K : PV → Sg → Ow → Prop}
    (hK : ∀ j b' n', b' = b ++ decDigits u → n' = b'.length → K (.own 0 1 (bytesT b')) (sg ++ j) [n']) : XcE F gl 43 [.own 0 1 (bytesT b), .t (.int .i64 (u : Int)), .t (.int .i64 10)] sg [n] K ⟨⟩ := by
  refine XcE.of F43 rfl ?_
  simp only [ir43]
  simp only [wCo, wFr, wOp, wBi, wLst, wLog, xB_other, Nat.reduceBEq, unT, loadP, storeP, partP, partT, partV, cellsP, mkAgg, allT, setRange, fillP, fieldA, indexS, indexA, indexV, indexStr, elems, lenP, pickV, cviV, nckV, extV, isNil, bound, close, close1, aft, retV, retSl, Go.Pi.one, eqT, eqs, eq1, Nat.reduceEqDiff, Nat.reduceAdd, Nat.reduceSub, Nat.reduceMul, Nat.reduceLeDiff, Nat.reduceLT, Nat.one_ne_zero, Nat.zero_ne_one, reduceIte, reduceCtorEq, bne_self_eq_false, decide_true, decide_false, Int.reduceToNat, Int.cast_ofNat_Int, Int.reduceLT, Int.reduceLE, Int.reduceEq, Int.reduceNeg, Int.reduceAdd, Int.reduceSub]
  repeat' ((with_reducible first | refine xG_dec ?_ ?_ | refine xG_ndec ?_ ?_ | refine xG_nsplit ?_ ?_ | refine xG_split ?_ ?_ | refine xC_dec ?_ ?_ | refine xC_ndec ?_ ?_ | refine xC_nsplit ?_ ?_ | refine xC_split ?_ ?_) <;> intro h <;> (try simp only [wCo, wFr, wOp, wBi, wLst, wLog, xB_other, Nat.reduceBEq, unT, loadP, storeP, partP, partT, partV, cellsP, mkAgg, allT, setRange, fillP, fieldA, indexS, indexA, indexV, indexStr, elems, lenP, pickV, cviV, nckV, extV, isNil, bound, close, close1, aft, retV, retSl, Go.Pi.one, eqT, eqs, eq1, Nat.reduceEqDiff, Nat.reduceAdd, Nat.reduceSub, Nat.reduceMul, Nat.reduceLeDiff, Nat.reduceLT, Nat.one_ne_zero, Nat.zero_ne_one, reduceIte, reduceCtorEq, bne_self_eq_false, decide_true, decide_false, Int.reduceToNat, Int.cast_ofNat_Int, Int.reduceLT, Int.reduceLE, Int.reduceEq, Int.reduceNeg, Int.reduceAdd, Int.reduceSub, h]))
  refine XcE.of F65 rfl ?_
  simp only [ir65]
  have w : IntKind.u64.wrap (u : Int) = (u : Int) := IntWalk.u64_in _ (by omega)
  simp only [wCo, wFr, wOp, wBi, wLst, wLog, xB_other, Nat.reduceBEq, unT, loadP, storeP, partP, partT, partV, cellsP, mkAgg, allT, setRange, fillP, fieldA, indexS, indexA, indexV, indexStr, elems, lenP, pickV, cviV, nckV, extV, isNil, bound, close, close1, aft, retV, retSl, Go.Pi.one, eqT, eqs, eq1, Nat.reduceEqDiff, Nat.reduceAdd, Nat.reduceSub, Nat.reduceMul, Nat.reduceLeDiff, Nat.reduceLT, Nat.one_ne_zero, Nat.zero_ne_one, reduceIte, reduceCtorEq, bne_self_eq_false, decide_true, decide_false, Int.reduceToNat, Int.cast_ofNat_Int, Int.reduceLT, Int.reduceLE, Int.reduceEq, Int.reduceNeg, Int.reduceAdd, Int.reduceSub, w]
  repeat' ((with_reducible first | refine xG_dec ?_ ?_ | refine xG_ndec ?_ ?_ | refine xG_nsplit ?_ ?_ | refine xG_split ?_ ?_ | refine xC_dec ?_ ?_ | refine xC_ndec ?_ ?_ | refine xC_nsplit ?_ ?_ | refine xC_split ?_ ?_) <;> intro h <;> (try simp only [wCo, wFr, wOp, wBi, wLst, wLog, xB_other, Nat.reduceBEq, unT, loadP, storeP, partP, partT, partV, cellsP, mkAgg, allT, setRange, fillP, fieldA, indexS, indexA, indexV, indexStr, elems, lenP, pickV, cviV, nckV, extV, isNil, bound, close, close1, aft, retV, retSl, Go.Pi.one, eqT, eqs, eq1, Nat.reduceEqDiff, Nat.reduceAdd, Nat.reduceSub, Nat.reduceMul, Nat.reduceLeDiff, Nat.reduceLT, Nat.one_ne_zero, Nat.zero_ne_one, reduceIte, reduceCtorEq, bne_self_eq_false, decide_true, decide_false, Int.reduceToNat, Int.cast_ofNat_Int, Int.reduceLT, Int.reduceLE, Int.reduceEq, Int.reduceNeg, Int.reduceAdd, Int.reduceSub, w, h]))
  refine app83 h2 (by omega) hn hb fun j b' n' e1 e2 => ?_
  simp only [wCo, wFr, wOp, wBi, wLst, wLog, xB_other, Nat.reduceBEq, unT, loadP, storeP, partP, partT, partV, cellsP, mkAgg, allT, setRange, fillP, fieldA, indexS, indexA, indexV, indexStr, elems, lenP, pickV, cviV, nckV, extV, isNil, bound, close, close1, aft, retV, retSl, Go.Pi.one, eqT, eqs, eq1, Nat.reduceEqDiff, Nat.reduceAdd, Nat.reduceSub, Nat.reduceMul, Nat.reduceLeDiff, Nat.reduceLT, Nat.one_ne_zero, Nat.zero_ne_one, reduceIte, reduceCtorEq, bne_self_eq_false, decide_true, decide_false, Int.reduceToNat, Int.cast_ofNat_Int, Int.reduceLT, Int.reduceLE, Int.reduceEq, Int.reduceNeg, Int.reduceAdd, Int.reduceSub]
  repeat' ((with_reducible first | refine xG_dec ?_ ?_ | refine xG_ndec ?_ ?_ | refine xG_nsplit ?_ ?_ | refine xG_split ?_ ?_ | refine xC_dec ?_ ?_ | refine xC_ndec ?_ ?_ | refine xC_nsplit ?_ ?_ | refine xC_split ?_ ?_) <;> intro h <;> (try simp only [wCo, wFr, wOp, wBi, wLst, wLog, xB_other, Nat.reduceBEq, unT, loadP, storeP, partP, partT, partV, cellsP, mkAgg, allT, setRange, fillP, fieldA, indexS, indexA, indexV, indexStr, elems, lenP, pickV, cviV, nckV, extV, isNil, bound, close, close1, aft, retV, retSl, Go.Pi.one, eqT, eqs, eq1, Nat.reduceEqDiff, Nat.reduceAdd, Nat.reduceSub, Nat.reduceMul, Nat.reduceLeDiff, Nat.reduceLT, Nat.one_ne_zero, Nat.zero_ne_one, reduceIte, reduceCtorEq, bne_self_eq_false, decide_true, decide_false, Int.reduceToNat, Int.cast_ofNat_Int, Int.reduceLT, Int.reduceLE, Int.reduceEq, Int.reduceNeg, Int.reduceAdd, Int.reduceSub, h]))
  exact hK j b' n' e1 e2

end Go.Proofs.YtbkphlhmbllbiaaDoor
