/- Contracts: names, numbers, symbols. -/
import Derived.Test.YtcbgiabippcpaaaGreatDoorM1
set_option maxRecDepth 10000
set_option linter.unusedVariables false
set_option linter.unusedSimpArgs false
namespace Go.Proofs.YtcbgiabippcpaaaGreatDoor
open Go.Pi Go.Lx
variable {gl : Nat → Option (List T)}

def hasP (s p : List UInt8) : Bool := decide (p.length ≤ s.length) && decide (s.take p.length = p)
theorem ok121 (s p : List UInt8) {K : PV → Prop} : XcP F gl 121 [.str s, .str p] K ⟨⟩ ↔ K (.t (.bool (hasP s p))) := by
  refine Ret.iff (Ret.of F121 rfl ?_)
  simp only [ir121]
  by_cases c : p.length ≤ s.length
  · have c' : (p.length : Int) ≤ (s.length : Int) := by omega
    have c2 : (0 : Int) ≤ (p.length : Int) := by omega
    simp only [wA, seval, reduceCtorEq, reduceIte, c', c2, sliceS, bound, Int.toNat_natCast, Nat.zero_le, c, and_self, List.drop_zero, hasP, Bool.true_and]
    repeat' ((with_reducible first | refine xG_dec ?_ ?_ | refine xG_ndec ?_ ?_ | refine xG_nsplit ?_ ?_ | refine xG_split ?_ ?_ | refine xC_dec ?_ ?_ | refine xC_ndec ?_ ?_ | refine xC_nsplit ?_ ?_ | refine xC_split ?_ ?_) <;> intro h <;> (try simp only [wA, seval, reduceCtorEq, reduceIte, c', c2, sliceS, bound, Int.toNat_natCast, Nat.zero_le, c, and_self, List.drop_zero, hasP, Bool.true_and, h]))
  · have c' : ¬ ((p.length : Int) ≤ (s.length : Int)) := by omega
    simp only [wA, seval, reduceCtorEq, reduceIte, c', hasP, c, Bool.false_and]
    repeat' ((with_reducible first | refine xG_dec ?_ ?_ | refine xG_ndec ?_ ?_ | refine xG_nsplit ?_ ?_ | refine xG_split ?_ ?_ | refine xC_dec ?_ ?_ | refine xC_ndec ?_ ?_ | refine xC_nsplit ?_ ?_ | refine xC_split ?_ ?_) <;> intro h <;> (try simp only [wA, seval, reduceCtorEq, reduceIte, c', hasP, c, Bool.false_and, h]))
theorem ok111 (s p : List UInt8) {K : PV → Prop} : XcP F gl 111 [.str s, .str p] K ⟨⟩ ↔ K (.t (.bool (hasP s p))) := by
  refine Ret.iff (Ret.of F111 rfl ?_)
  simp only [ir111]
  simp only [wA, seval, reduceCtorEq, reduceIte, ok121]
  repeat' ((with_reducible first | refine xG_dec ?_ ?_ | refine xG_ndec ?_ ?_ | refine xG_nsplit ?_ ?_ | refine xG_split ?_ ?_ | refine xC_dec ?_ ?_ | refine xC_ndec ?_ ?_ | refine xC_nsplit ?_ ?_ | refine xC_split ?_ ?_) <;> intro h <;> (try simp only [wA, seval, reduceCtorEq, reduceIte, ok121, h]))
end Go.Proofs.YtcbgiabippcpaaaGreatDoor
