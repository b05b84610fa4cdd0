/- PI 31: from a tree's kinds to plain data. Program independent. -/
import Derived.Test.YtcbgiabippcpaaaGreatDoorPi30
namespace Go.Pi
def Wts (env : Nat → List CT) (N : Nat) (ct : List CT) (e : List T) : Prop := e.length = ct.length ∧ ∀ (j : Nat) (y : CT) (x : T), ct[j]? = some y → e[j]? = some x → Wt env N y x
theorem wt_sl {env : Nat → List CT} {N : Nat} {ct : List CT} {x : T} (h : Wt env N (.sl ct) x) : ∃ (nl : Bool) (es : List (List T)), x = .sl nl es ∧ es.length ≤ N ∧ (nl = true → es = []) ∧ ∀ e, e ∈ es → Wts env N ct e := by
  cases h with
  | nsl => exact ⟨true, [], rfl, Nat.zero_le _, fun _ => rfl, by simp⟩
  | sl _ es hl hc h => exact ⟨false, es, rfl, hl, by simp, fun e he => ⟨hc e he, h e he⟩⟩
theorem wt_slr {env : Nat → List CT} {N : Nat} {t : Nat} {x : T} (h : Wt env N (.slr t) x) : ∃ (nl : Bool) (es : List (List T)), x = .sl nl es ∧ es.length ≤ N ∧ (nl = true → es = []) ∧ ∀ e, e ∈ es → Wts env N (env t) e := by
  cases h with
  | nslr => exact ⟨true, [], rfl, Nat.zero_le _, fun _ => rfl, by simp⟩
  | slr _ es hl hc h => exact ⟨false, es, rfl, hl, by simp, fun e he => ⟨hc e he, h e he⟩⟩
theorem wts_nil {env : Nat → List CT} {N : Nat} {e : List T} (h : Wts env N [] e) : e = [] := by
  obtain ⟨h, _⟩ := h
  simpa using h
theorem wts_cons {env : Nat → List CT} {N : Nat} {c : CT} {cs : List CT} {e : List T} (h : Wts env N (c :: cs) e) : ∃ x r, e = x :: r ∧ Wt env N c x ∧ Wts env N cs r := by
  obtain ⟨h1, h2⟩ := h
  cases e with
  | nil => simp at h1
  | cons x r => exact ⟨x, r, rfl, h2 0 c x rfl rfl, by simpa using h1, fun j y z hy hz => h2 (j + 1) y z (by simpa using hy) (by simpa using hz)⟩
theorem wt_int {env : Nat → List CT} {N : Nat} {k : IntKind} {x : T} (h : Wt env N (.int k) x) : ∃ n, x = .int k n ∧ k.min ≤ n ∧ n ≤ k.max := by
  cases h with
  | int _ n h1 h2 => exact ⟨n, rfl, h1, h2⟩
theorem wt_i64 {env : Nat → List CT} {N : Nat} {x : T} (h : Wt env N (.int .i64) x) : ∃ n, x = .int .i64 n ∧ -9223372036854775808 ≤ n ∧ n ≤ 9223372036854775807 := wt_int h
theorem wt_u64 {env : Nat → List CT} {N : Nat} {x : T} (h : Wt env N (.int .u64) x) : ∃ n, x = .int .u64 n ∧ 0 ≤ n ∧ n ≤ 18446744073709551615 := wt_int h
theorem wt_u8 {env : Nat → List CT} {N : Nat} {x : T} (h : Wt env N (.int .u8) x) : ∃ n, x = .int .u8 n ∧ 0 ≤ n ∧ n ≤ 255 := wt_int h
theorem wt_u16 {env : Nat → List CT} {N : Nat} {x : T} (h : Wt env N (.int .u16) x) : ∃ n, x = .int .u16 n ∧ 0 ≤ n ∧ n ≤ 65535 := wt_int h
theorem wt_str {env : Nat → List CT} {N : Nat} {x : T} (h : Wt env N .str x) : ∃ s, x = .str s ∧ s.length ≤ N := by
  cases h with
  | str s h => exact ⟨s, rfl, h⟩
theorem wt_bool {env : Nat → List CT} {N : Nat} {x : T} (h : Wt env N .bool x) : ∃ b, x = .bool b := by
  cases h with
  | bool b => exact ⟨b, rfl⟩
theorem list_enc {α : Type} {p : α → Prop} {enc : α → List T} : ∀ {es : List (List T)}, (∀ e, e ∈ es → ∃ a, e = enc a ∧ p a) → ∃ l : List α, es = l.map enc ∧ ∀ a, a ∈ l → p a := by
  intro es
  induction es with
  | nil => intro _; exact ⟨[], rfl, by simp⟩
  | cons e r ih =>
    intro h
    obtain ⟨a, ha, hp⟩ := h e List.mem_cons_self
    obtain ⟨l, hl, hq⟩ := ih fun e he => h e (List.mem_cons_of_mem _ he)
    refine ⟨a :: l, by rw [ha, hl]; rfl, fun b hb => ?_⟩
    rcases List.mem_cons.1 hb with e | e
    · subst e; exact hp
    · exact hq b e
theorem argT_agg {env : Nat → List CT} {N : Nat} {ct : List CT} {x : T} (h : ArgT env N (true, ct) x) : ∃ xs, x = .agg xs ∧ Wts env N ct xs := by
  obtain ⟨xs, h1, h2, h3⟩ := h
  exact ⟨xs, h1, h2, h3⟩
theorem argT_one {env : Nat → List CT} {N : Nat} {c : CT} {x : T} (h : ArgT env N (false, [c]) x) : Wt env N c x := by
  obtain ⟨c', h1, h2⟩ := h
  injection h1 with h1
  subst h1
  exact h2
theorem argsT_cons {env : Nat → List CT} {N : Nat} {a : Bool × List CT} {as : List (Bool × List CT)} {xs : List T} (h : ArgsT env N (a :: as) xs) : ∃ x r, xs = x :: r ∧ ArgT env N a x ∧ ArgsT env N as r := by
  cases xs with
  | nil => cases h
  | cons x r => exact ⟨x, r, rfl, h.1, h.2⟩
theorem argsT_nil {env : Nat → List CT} {N : Nat} {xs : List T} (h : ArgsT env N [] xs) : xs = [] := by
  cases xs with
  | nil => rfl
  | cons x r => cases h
end Go.Pi
