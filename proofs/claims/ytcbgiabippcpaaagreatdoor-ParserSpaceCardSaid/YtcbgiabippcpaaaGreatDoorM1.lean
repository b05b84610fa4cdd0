/- Contracts: bytes, lists of names, spans, gaps. -/
import Derived.Test.YtcbgiabippcpaaaGreatDoorK1
import Derived.Test.YtcbgiabippcpaaaGreatDoorLx3
set_option maxRecDepth 10000
set_option linter.unusedVariables false
set_option linter.unusedSimpArgs false
namespace Go.Proofs.YtcbgiabippcpaaaGreatDoor
open Go.Pi Go.Lx
variable {gl : Nat → Option (List T)}

theorem okE112 (c : UInt8) {sg : Sg} {ow : Ow} {K : PV → Sg → Ow → Prop} : XcE F gl 112 [.t (tB c)] sg ow K ⟨⟩ ↔ K (.t (.bool (isDig c))) sg ow := by
  refine CallE.iff (XcE.of F112 rfl ?_)
  simp only [ir112]
  simp only [wA, seval, reduceCtorEq, reduceIte]
  repeat' ((with_reducible first | refine xG_dec ?_ ?_ | refine xG_ndec ?_ ?_ | refine xG_nsplit ?_ ?_ | refine xG_split ?_ ?_ | refine xC_dec ?_ ?_ | refine xC_ndec ?_ ?_ | refine xC_nsplit ?_ ?_ | refine xC_split ?_ ?_) <;> intro h <;> (try simp only [wA, seval, reduceCtorEq, reduceIte, h]))
  all_goals (simp_all [isDig_eq] <;> omega)
theorem ok125 (s : List UInt8) (c : UInt8) {K : PV → Prop} : XcP F gl 125 [.str s, tB c] K ⟨⟩ ↔ K (.t (.int .i64 (Lib.indexByte s c))) := by
  refine Ret.iff (Ret.of F125 rfl ?_)
  simp only [ir125]
  have e : c.toNat.toUInt8 = c := by simp
  simp only [wA, seval, reduceCtorEq, reduceIte, xfun, Int.toNat_natCast, e]
  repeat' ((with_reducible first | refine xG_dec ?_ ?_ | refine xG_ndec ?_ ?_ | refine xG_nsplit ?_ ?_ | refine xG_split ?_ ?_ | refine xC_dec ?_ ?_ | refine xC_ndec ?_ ?_ | refine xC_nsplit ?_ ?_ | refine xC_split ?_ ?_) <;> intro h <;> (try simp only [wA, seval, reduceCtorEq, reduceIte, xfun, Int.toNat_natCast, e, h]))
theorem ok115 (s : List UInt8) (c : UInt8) {K : PV → Prop} : XcP F gl 115 [.str s, tB c] K ⟨⟩ ↔ K (.t (.int .i64 (Lib.indexByte s c))) := by
  refine Ret.iff (Ret.of F115 rfl ?_)
  simp only [ir115]
  simp only [wA, seval, reduceCtorEq, reduceIte, ok125]
  repeat' ((with_reducible first | refine xG_dec ?_ ?_ | refine xG_ndec ?_ ?_ | refine xG_nsplit ?_ ?_ | refine xG_split ?_ ?_ | refine xC_dec ?_ ?_ | refine xC_ndec ?_ ?_ | refine xC_nsplit ?_ ?_ | refine xC_split ?_ ?_) <;> intro h <;> (try simp only [wA, seval, reduceCtorEq, reduceIte, ok125, h]))
end Go.Proofs.YtcbgiabippcpaaaGreatDoor
