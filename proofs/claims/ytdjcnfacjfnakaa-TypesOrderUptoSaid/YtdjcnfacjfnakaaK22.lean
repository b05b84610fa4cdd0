/- The laws, argument by argument. -/
import Derived.Test.YtdjcnfacjfnakaaK21
import Derived.Test.YtdjcnfacjfnakaaKx18
import Derived.Test.YtdjcnfacjfnakaaPi31
set_option maxRecDepth 10000
set_option linter.unusedVariables false
set_option linter.unusedSimpArgs false
namespace Go.Proofs.Ytdjcnfacjfnakaa
open Go.Pi Go.Lx Go.Ky Go.Lib
variable {gl : Nat → Option (List T)}

theorem arg_pg {x : T} (h : ArgT (envPg 39 41) 1048576 (true, ctPg 39 41) x) (hs : tBk x ≤ 1048576) : ∃ p, x = .agg (tPg p) ∧ PgB p ∧ szSs p.body + 100 ≤ B20 := by
  obtain ⟨xs, rfl, hw⟩ := argT_agg h
  clear h
  have h := hw
  clear hw
  obtain ⟨a, r, rfl, ha, h⟩ := wts_cons h
  obtain ⟨b, r, rfl, hb, h⟩ := wts_cons h
  obtain ⟨c, r, rfl, hc, h⟩ := wts_cons h
  obtain rfl := wts_nil h
  obtain ⟨p, rfl, rfl, rfl, hp⟩ := pg_rep (by decide) envPg_x (envPg_s (by decide)) ha hb hc
  have hz := pg_sizes (p := p) (M := 1048576) hs
  have hb : B20 = 1100000 := rfl
  refine ⟨p, rfl, ⟨hp, by omega, by omega, fun f hf => ?_, by omega⟩, by omega⟩
  have := hz.2.2.1 f hf
  omega
theorem args3 : ∀ xs, ArgsT (envPg 39 41) 1048576 [(true, ctPg 39 41)] xs → tBks xs ≤ 1048576 → ∃ n sg ow, pcall F gl n 3 (xs.map .t) [] [] = some (.t (.bool true), sg, ow) := by
  intro xs h hs
  obtain ⟨x, r, rfl, hx, h⟩ := argsT_cons h
  obtain rfl := argsT_nil h
  obtain ⟨p, rfl, hp, _⟩ := arg_pg hx (by simpa [tBks] using hs)
  exact CallP.law (law3 hp)
theorem args4 : ∀ xs, ArgsT (envPg 39 41) 1048576 [(true, ctPg 39 41)] xs → tBks xs ≤ 1048576 → ∃ n sg ow, pcall F gl n 4 (xs.map .t) [] [] = some (.t (.bool true), sg, ow) := by
  intro xs h hs
  obtain ⟨x, r, rfl, hx, h⟩ := argsT_cons h
  obtain rfl := argsT_nil h
  obtain ⟨p, rfl, hp, h2⟩ := arg_pg hx (by simpa [tBks] using hs)
  exact CallP.law (law4 hp h2)
theorem args5 : ∀ xs, ArgsT (envPg 39 41) 1048576 [(true, ctPg 39 41), (false, [.int .u8])] xs → tBks xs ≤ 1048576 → ∃ n sg ow, pcall F gl n 5 (xs.map .t) [] [] = some (.t (.bool true), sg, ow) := by
  intro xs h hs
  obtain ⟨x, r, rfl, hx, h⟩ := argsT_cons h
  obtain ⟨y, r, rfl, hy, h⟩ := argsT_cons h
  obtain rfl := argsT_nil h
  obtain ⟨p, rfl, hp, _⟩ := arg_pg hx (by simp only [tBks] at hs; omega)
  obtain ⟨a, rfl, a1, a2⟩ := wt_u8 (argT_one hy)
  exact CallP.law (law5 hp a a1 a2)
end Go.Proofs.Ytdjcnfacjfnakaa
