/- Contracts of the reference's reader: cut, number, numbers, least. -/
import Derived.Test.YtbkphlhmbllbiaaDoorT1
import Derived.Test.YtbkphlhmbllbiaaDoorB2
set_option maxRecDepth 10000
set_option linter.unusedVariables false
set_option linter.unusedSimpArgs false
namespace Go.Proofs.YtbkphlhmbllbiaaDoor
open Go.Pi
variable {gl : Nat → Option (List T)}
/-! ### cut -/
def strsC (ps : List (List UInt8)) : List (List T) := ps.map fun x => [.str x]
theorem strsC_len (ps : List (List UInt8)) : (strsC ps).length = ps.length := by simp [strsC]
/-- The pieces that grow. -/
def Lst1 (v : PV) (ow : Ow) (ps : List (List UInt8)) : Prop := (v = .t (.sl true []) ∧ ow = [] ∧ ps = []) ∨ (v = .own 0 1 (strsC ps) ∧ ow = [ps.length] ∧ ps ≠ [])
theorem roomS {n : Nat} (h : n ≤ 10000000) : room n 16 = true := by
  unfold room
  exact decide_eq_true ⟨by omega, by omega⟩
theorem Lst1.app {dr : Bool} {v : PV} {ow : Ow} {ps : List (List UInt8)} (h : Lst1 v ow ps) {x : List UInt8} (hb : ps.length + 1 ≤ 10000000) (sg : Sg) : appendP dr sg ow 1 16 v (.lit [[.str x]]) = some (.own 0 1 (strsC (ps ++ [x])), [ps.length + 1]) := by
  have hr : room (ps.length + 1) 16 = true := roomS hb
  have e1 : strsC (ps ++ [x]) = strsC ps ++ [[.str x]] := by simp [strsC]
  rcases h with ⟨rfl, rfl, rfl⟩ | ⟨rfl, rfl, hne⟩
  · simp only [List.length_nil, Nat.zero_add] at hr
    simp only [appendP, elemsS, elems, e1, List.all_cons, List.all_nil, List.length_cons, List.length_nil, hr, List.nil_append, Nat.zero_add, Nat.reduceAdd, beq_self_eq_true, Bool.and_self, and_self, Nat.zero_lt_one, if_true]
    rfl
  · simp only [appendP, elemsS, elems, e1, List.all_cons, List.all_nil, List.length_cons, List.length_nil, strsC_len, hr, Nat.zero_add, Nat.reduceAdd, beq_self_eq_true, Bool.and_self, and_self, Nat.zero_lt_one, if_true, List.getElem?_cons_zero, List.set_cons_zero]
theorem Lst1.next {ps : List (List UInt8)} {x : List UInt8} : Lst1 (.own 0 1 (strsC (ps ++ [x]))) [ps.length + 1] (ps ++ [x]) := .inr ⟨rfl, by simp, by simp⟩
theorem slice_mid {s : List UInt8} {a b : Nat} (h1 : a ≤ b) (h2 : b ≤ s.length) : sliceS (.t (.str s)) (some (.t (.int .i64 (a : Int)))) (some (.t (.int .i64 (b : Int)))) = some (.t (.str ((s.take b).drop a))) := by
  have ha : (0 : Int) ≤ (a : Int) := by omega
  have hb : (0 : Int) ≤ (b : Int) := by omega
  simp only [sliceS, bound, ha, hb, if_true, Int.toNat_natCast, h1, h2, and_self]
theorem slice_fromR {s : List UInt8} {n : Nat} (h : n ≤ s.length) : sliceS (.t (.str s)) (some (.t (.int .i64 (n : Int)))) none = some (.t (.str (s.drop n))) := by
  have : (0 : Int) ≤ (n : Int) := by omega
  simp only [sliceS, bound, this, if_true, Int.toNat_natCast, h, Nat.le_refl, and_self, List.take_length]
theorem mid_occ {s sep : List UInt8} {i : Nat} (h : i + sep.length ≤ s.length) : ((s.take (i + sep.length)).drop i = sep) ↔ Lib.occAt s sep i = true := by
  unfold Lib.occAt
  rw [List.isPrefixOf_iff_prefix, List.prefix_iff_eq_take, List.drop_take]
  have : i + sep.length - i = sep.length := by omega
  rw [this]
  exact ⟨fun h => h.symm, fun h => h.symm⟩
theorem occ_drop {s sep : List UInt8} {f k : Nat} : Lib.occAt (s.drop f) sep k = Lib.occAt s sep (f + k) := by
  unfold Lib.occAt
  rw [List.drop_drop]
/-! ### number -/
def rnV (s : List UInt8) : PV := match rnum s with
  | some u => .tup [.t (.int .u64 u), .t (.bool true)]
  | none => .tup [.t (.int .u64 0), .t (.bool false)]
end Go.Proofs.YtbkphlhmbllbiaaDoor
