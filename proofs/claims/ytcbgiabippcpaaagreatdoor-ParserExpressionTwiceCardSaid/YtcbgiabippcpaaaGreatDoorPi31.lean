/- PI 31: from a tree's kinds to plain data. Program independent. -/
import Derived.Test.YtcbgiabippcpaaaGreatDoorPi30
namespace Go.Pi
theorem wt_str {env : Nat → List CT} {N : Nat} {x : T} (h : Wt env N .str x) : ∃ s, x = .str s ∧ s.length ≤ N := by
  cases h with
  | str s h => exact ⟨s, rfl, h⟩
theorem argT_one {env : Nat → List CT} {N : Nat} {c : CT} {x : T} (h : ArgT env N (false, [c]) x) : Wt env N c x := by
  obtain ⟨c', h1, h2⟩ := h
  injection h1 with h1
  subst h1
  exact h2
theorem argsT_cons {env : Nat → List CT} {N : Nat} {a : Bool × List CT} {as : List (Bool × List CT)} {xs : List T} (h : ArgsT env N (a :: as) xs) : ∃ x r, xs = x :: r ∧ ArgT env N a x ∧ ArgsT env N as r := by
  cases xs with
  | nil => cases h
  | cons x r => exact ⟨x, r, rfl, h.1, h.2⟩
theorem argsT_nil {env : Nat → List CT} {N : Nat} {xs : List T} (h : ArgsT env N [] xs) : xs = [] := by
  cases xs with
  | nil => rfl
  | cons x r => cases h
end Go.Pi
