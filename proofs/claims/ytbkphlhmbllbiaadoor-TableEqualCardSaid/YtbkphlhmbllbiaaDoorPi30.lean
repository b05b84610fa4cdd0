/- PI 30: functions without a body, the tables that a row lists, the table of functions. Program independent. -/
import Derived.Test.YtbkphlhmbllbiaaDoorPi29
import Derived.Laws.Externs
namespace Go.Pi
variable {P : Program}

/-- math/bits.Add64. -/
theorem add64_ok {fx : List (Nat × Nat)} {g : Nat} {fn : Func} (hf : P.funcs[g]? = some fn) (hname : (fn.name == "runtime.NumGoroutine") = false) (hb : fn.body.isNone = true) (hn : Extern.findNext fn = none)
    (he : Extern.find fn = (Extern.MathBitsCarry.rows.head?).map (·.2)) (ts : List T) (r : PV) (vs : Array Value) (G : Gh) (w : World) (hx : xfun 0 ts = some r) (hl : vs.size = ts.length)
    (hr : ∀ (i : Nat) (v : Value) (x : T), vs[i]? = some v → ts[i]? = some x → TRep G.st w v x) : ∃ v, (callFunc g vs).run P w = .ok (.value v) w ∧ PRep fx G w v r := by
  unfold xfun at hx
  split at hx
  · rename_i x y c _
    split at hx
    · rename_i hc
      obtain ⟨h1, h2, h3, h4⟩ := hc
      injection hx with hx
      subst hx
      obtain ⟨l⟩ := vs
      match l, hl with
      | [a, b, d], _ =>
        have ha := hr 0 a _ rfl rfl
        have hbb := hr 1 b _ rfl rfl
        have hd := hr 2 d _ rfl rfl
        cases ha
        cases hbb
        cases hd
        refine ⟨.tuple #[.int .u64 ((x + y + c) % 18446744073709551616), .int .u64 ((x + y + c) / 18446744073709551616)], ?_, ?_⟩
        rotate_left
        · exact .tup #[.int .u64 ((x + y + c) % 18446744073709551616), .int .u64 ((x + y + c) / 18446744073709551616)] _ rfl fun i v q hv hq => by
            match i with
            | 0 => simp at hv hq; subst hv hq; exact .t (.int _ _)
            | 1 => simp at hv hq; subst hv hq; exact .t (.int _ _)
            | i + 2 => simp at hv
        · have he' : Extern.find fn = some add64Entry := he
          rw [run_callFunc_extern hf hname hb hn he', run_add64 x y c h1 h2 h3 h4]
          rfl
    · cases hx
  · cases hx

/-- The listed tables. -/
def glOf : List (Nat × IntKind × List Int) → Nat → Option (List T)
  | [], _ => none
  | (g, k, zs) :: r, n => if g = n then some (zs.map (.int k)) else glOf r n
theorem glOf_ok {W : World} : ∀ {l : List (Nat × IntKind × List Int)}, (∀ g k zs, (g, k, zs) ∈ l → ∀ i, i < zs.length → W.cell? ⟨g, i, none⟩ = some (.int k (zs.getD i 0))) → GlobOk (glOf l) W := by
  intro l
  induction l with
  | nil => intro _ g ts j x h; cases h
  | cons p r ih =>
    intro h g ts j x hg hx
    obtain ⟨g0, k, zs⟩ := p
    simp only [glOf] at hg
    split at hg
    · rename_i e
      subst e
      injection hg with hg
      subst hg
      have hj : j < zs.length := by have := (List.getElem?_eq_some_iff.1 hx).1; simpa using this
      have hc := h g0 k zs List.mem_cons_self j hj
      rw [List.getElem?_map, List.getElem?_eq_getElem hj] at hx
      simp only [Option.map_some, Option.some.injEq] at hx
      subst hx
      refine ⟨_, hc, ?_, cell_lt hc⟩
      rw [List.getD_eq_getElem?_getD, List.getElem?_eq_getElem hj]
      exact .int _ _
    · exact ih (fun g k zs hm => h g k zs (List.mem_cons_of_mem _ hm)) g ts j x hg hx

def fxB (P : Program) (l : List (Nat × Nat)) : Bool := l.all fun p => match P.funcs[p.2]? with
  | some fn => fn.body.isSome && !(fn.name == "runtime.NumGoroutine") && p.1 == p.2
  | none => false
theorem fxB_ok {l : List (Nat × Nat)} (h : fxB P l = true) (k g : Nat) (hm : (k, g) ∈ l) : k = g ∧ ∃ fn c, P.funcs[g]? = some fn ∧ fn.body = some c ∧ (fn.name == "runtime.NumGoroutine") = false := by
  have := List.all_eq_true.1 h _ hm
  simp only at this
  split at this
  · rename_i fn hf
    simp only [Bool.and_eq_true, Bool.not_eq_true', beq_iff_eq] at this
    obtain ⟨⟨h1, h2⟩, h3⟩ := this
    obtain ⟨c, hc⟩ := Option.isSome_iff_exists.1 h1
    exact ⟨h3, fn, c, hf, hc, h2⟩
  · cases this
/-- From the list of the functions' forms. -/
theorem fnOk_of {tb : Tb} {irs : List (Nat × Fn)} (ht : TbOk P tb) (hid : ∀ k g, (k, g) ∈ tb.fx → k = g) (hc : ∀ p, p ∈ irs → ∃ fn, P.funcs[p.1]? = some fn ∧ compF P tb fn = some p.2) : FnOk P tb (lookF irs) where
  tbo := ht
  fn k g hkg q hq := by
    have := hid k g hkg
    subst this
    exact hc _ (lookF_mem hq)
theorem CallP.law {F : Nat → Option Fn} {gl : Nat → Option (List T)} {f : Nat} {ts : List T} {b : Bool} (h : Ret F gl f ts (.t (.bool b))) : ∃ n sg ow, pcall F gl n f (ts.map .t) [] [] = some (.t (.bool b), sg, ow) := by
  obtain ⟨n, v, sg, ow, h1, h2⟩ := h
  refine ⟨n, sg, ow, ?_⟩
  rw [h1]
  unfold onO at h2
  split at h2
  · rename_i x hx
    subst h2
    have hv : v = .t (.bool b) := by
      unfold retV at hx
      split at hx
      · split at hx <;> cases hx
      · cases hx
      · rename_i vs
        cases hm : vs.mapM (retSl sg) with
        | none => rw [hm] at hx; cases hx
        | some ts => rw [hm] at hx; cases hx
      · cases v with
        | t y =>
          simp only [retSl, close, close1, Option.map_some, Option.some.injEq] at hx
          exact hx
        | ls id off len sz =>
          simp only [retSl] at hx
          cases hm : elemsS sg sz (.ls id off len sz) with
          | none => rw [hm] at hx; cases hx
          | some es => rw [hm] at hx; cases hx
        | agg cs =>
          simp only [retSl, close] at hx
          cases hm : cs.mapM close1 with
          | none => rw [hm] at hx; cases hx
          | some es => rw [hm] at hx; cases hx
        | _ => simp [retSl, close, close1] at hx
    rw [hv]
  · cases h2
end Go.Pi
