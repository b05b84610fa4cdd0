/- Contracts: positions. -/
import Derived.Test.YtdjcnfacjfnakaaGreatK9
import Derived.Test.YtdjcnfacjfnakaaGreatKx27
import Derived.Test.YtdjcnfacjfnakaaGreatKx27
import Derived.Test.YtdjcnfacjfnakaaGreatKx27
set_option maxRecDepth 10000
set_option linter.unusedVariables false
set_option linter.unusedSimpArgs false
namespace Go.Proofs.YtdjcnfacjfnakaaGreat
open Go.Pi Go.Lx Go.Ky Go.Lib
variable {gl : Nat → Option (List T)}

set_option maxHeartbeats 2000000 in
theorem ok208 {sg : Sg} {c f n : Nat} {fs : Fs} {ns : Ns} {od : PV} {w : Int} (hk : Ck sg c f n fs ns od w) (e : Exp) (he : exB e = true) (len : Int) (ow : Ow) :
    CallE F gl 208 [.lp c 0, .t (.agg (tEx e)), .t (.int .i64 len)] sg ow fun v sg' ow' => v = .tup [.t (.bool (posM ns e len).1), .t (.int .i64 (posM ns e len).2)] ∧ Grow sg sg' := by
  refine XcE.of F208 rfl ?_
  simp only [ir208]
  have hcl := lt_of_get hk.c
  have hnl := lt_of_get hk.n
  have hc := hk.c
  have hn := hk.n
  by_cases o1 : e.op = 1
  · have hM : posM ns e len = (decide (e.val < IntKind.u64.wrap len), 0) := by unfold posM; simp [o1]
    rw [hM]
    simp only [wA, seval, reduceCtorEq, reduceIte, tEx_eq, o1]
    repeat' ((with_reducible first | refine xG_dec ?_ ?_ | refine xG_ndec ?_ ?_ | refine xG_nsplit ?_ ?_ | refine xG_split ?_ ?_ | refine xC_dec ?_ ?_ | refine xC_ndec ?_ ?_ | refine xC_nsplit ?_ ?_ | refine xC_split ?_ ?_) <;> intro h <;> (try simp only [wA, seval, reduceCtorEq, reduceIte, tEx_eq, o1, h]))
    exact Grow.app _ _
  by_cases o12 : e.op = 12
  · obtain ⟨a, b, hab⟩ := exB_two he (.inr (.inl o12))
    by_cases hb : b.op = 1
    · skip
      cases hop : decide (a.op = 2) with
      | false =>
        have hop' : ¬ a.op = 2 := of_decide_eq_false hop
        have hM : posM ns e len = (false, 6) := by unfold posM; simp [o12, hab, hb, hop']
        rw [hM]
        simp only [wA, seval, reduceCtorEq, reduceIte, tEx_eq, o12, hab, tExs, hb, hop', keepsV_cons, keepsV_nil, keepP, keep1_self, loadK]
        repeat' ((with_reducible first | refine xG_dec ?_ ?_ | refine xG_ndec ?_ ?_ | refine xG_nsplit ?_ ?_ | refine xG_split ?_ ?_ | refine xC_dec ?_ ?_ | refine xC_ndec ?_ ?_ | refine xC_nsplit ?_ ?_ | refine xC_split ?_ ?_) <;> intro h <;> (try simp only [wA, seval, reduceCtorEq, reduceIte, tEx_eq, o12, hab, tExs, hb, hop', keepsV_cons, keepsV_nil, keepP, keep1_self, loadK, h]))
        exact Grow.app _ _
      | true =>
        have hop' : a.op = 2 := of_decide_eq_true hop
        cases hl : Ky.look a.name ns with
        | none =>
          have hM : posM ns e len = (false, 4) := by unfold posM; simp [o12, hab, hb, hop', hl]
          rw [hM]
          simp only [wA, seval, reduceCtorEq, reduceIte, tEx_eq, o12, hab, tExs, hb, hop', keepsV_cons, keepsV_nil, keepP, keep1_self, loadK, app_get hcl, app_get hnl, hc, hn, mlkP, mfind_ents, hl, Option.getD_none, Option.isSome_none]
          repeat' ((with_reducible first | refine xG_dec ?_ ?_ | refine xG_ndec ?_ ?_ | refine xG_nsplit ?_ ?_ | refine xG_split ?_ ?_ | refine xC_dec ?_ ?_ | refine xC_ndec ?_ ?_ | refine xC_nsplit ?_ ?_ | refine xC_split ?_ ?_) <;> intro h <;> (try simp only [wA, seval, reduceCtorEq, reduceIte, tEx_eq, o12, hab, tExs, hb, hop', keepsV_cons, keepsV_nil, keepP, keep1_self, loadK, app_get hcl, app_get hnl, hc, hn, mlkP, mfind_ents, hl, Option.getD_none, Option.isSome_none, h]))
          exact Grow.app _ _
        | some s =>
          cases hlo : s.loop with
          | false =>
            have hM : posM ns e len = (false, 6) := by unfold posM; simp [o12, hab, hb, hop', hl, hlo]
            rw [hM]
            simp only [wA, seval, reduceCtorEq, reduceIte, tEx_eq, o12, hab, tExs, hb, hop', keepsV_cons, keepsV_nil, keepP, keep1_self, loadK, app_get hcl, app_get hnl, hc, hn, mlkP, mfind_ents, hl, Option.getD_some, Option.isSome_some, hlo]
            repeat' ((with_reducible first | refine xG_dec ?_ ?_ | refine xG_ndec ?_ ?_ | refine xG_nsplit ?_ ?_ | refine xG_split ?_ ?_ | refine xC_dec ?_ ?_ | refine xC_ndec ?_ ?_ | refine xC_nsplit ?_ ?_ | refine xC_split ?_ ?_) <;> intro h <;> (try simp only [wA, seval, reduceCtorEq, reduceIte, tEx_eq, o12, hab, tExs, hb, hop', keepsV_cons, keepsV_nil, keepP, keep1_self, loadK, app_get hcl, app_get hnl, hc, hn, mlkP, mfind_ents, hl, Option.getD_some, Option.isSome_some, hlo, h]))
            exact Grow.app _ _
          | true =>
            by_cases hlh : s.low = s.high
            · have hM : posM ns e len = (true, 0) := by unfold posM; simp [o12, hab, hb, hop', hl, hlo, hlh]
              rw [hM]
              simp only [wA, seval, reduceCtorEq, reduceIte, tEx_eq, o12, hab, tExs, hb, hop', keepsV_cons, keepsV_nil, keepP, keep1_self, loadK, app_get hcl, app_get hnl, hc, hn, mlkP, mfind_ents, hl, Option.getD_some, Option.isSome_some, hlo, hlh]
              repeat' ((with_reducible first | refine xG_dec ?_ ?_ | refine xG_ndec ?_ ?_ | refine xG_nsplit ?_ ?_ | refine xG_split ?_ ?_ | refine xC_dec ?_ ?_ | refine xC_ndec ?_ ?_ | refine xC_nsplit ?_ ?_ | refine xC_split ?_ ?_) <;> intro h <;> (try simp only [wA, seval, reduceCtorEq, reduceIte, tEx_eq, o12, hab, tExs, hb, hop', keepsV_cons, keepsV_nil, keepP, keep1_self, loadK, app_get hcl, app_get hnl, hc, hn, mlkP, mfind_ents, hl, Option.getD_some, Option.isSome_some, hlo, hlh, h]))
              exact Grow.app _ _
            · have hM : posM ns e len = (decide (b.val < IntKind.u64.wrap len) && decide (IntKind.u64.wrap (IntKind.u64.wrap (IntKind.i64.wrap (s.high - 1)) + b.val) < IntKind.u64.wrap len), 0) := by unfold posM; simp [o12, hab, hb, hop', hl, hlo, hlh]
              rw [hM]
              simp only [wA, seval, reduceCtorEq, reduceIte, tEx_eq, o12, hab, tExs, hb, hop', keepsV_cons, keepsV_nil, keepP, keep1_self, loadK, app_get hcl, app_get hnl, hc, hn, mlkP, mfind_ents, hl, Option.getD_some, Option.isSome_some, hlo, hlh]
              repeat' ((with_reducible first | refine xG_dec ?_ ?_ | refine xG_ndec ?_ ?_ | refine xG_nsplit ?_ ?_ | refine xG_split ?_ ?_ | refine xC_dec ?_ ?_ | refine xC_ndec ?_ ?_ | refine xC_nsplit ?_ ?_ | refine xC_split ?_ ?_) <;> intro h <;> (try simp only [wA, seval, reduceCtorEq, reduceIte, tEx_eq, o12, hab, tExs, hb, hop', keepsV_cons, keepsV_nil, keepP, keep1_self, loadK, app_get hcl, app_get hnl, hc, hn, mlkP, mfind_ents, hl, Option.getD_some, Option.isSome_some, hlo, hlh, h]))
              all_goals simp_all
              all_goals first | exact Grow.app _ _ | skip
    · have hM : posM ns e len = (false, 6) := by unfold posM; simp [o12, hab, hb]
      rw [hM]
      simp only [wA, seval, reduceCtorEq, reduceIte, tEx_eq, o12, hab, tExs, hb, keepsV_cons, keepsV_nil, keepP, keep1_self, loadK]
      repeat' ((with_reducible first | refine xG_dec ?_ ?_ | refine xG_ndec ?_ ?_ | refine xG_nsplit ?_ ?_ | refine xG_split ?_ ?_ | refine xC_dec ?_ ?_ | refine xC_ndec ?_ ?_ | refine xC_nsplit ?_ ?_ | refine xC_split ?_ ?_) <;> intro h <;> (try simp only [wA, seval, reduceCtorEq, reduceIte, tEx_eq, o12, hab, tExs, hb, keepsV_cons, keepsV_nil, keepP, keep1_self, loadK, h]))
      exact Grow.app _ _
  by_cases o13 : e.op = 13
  · obtain ⟨a, b, hab⟩ := exB_two he (.inr (.inr (.inl o13)))
    by_cases hb : b.op = 1
    · skip
      cases hop : decide (a.op = 2) with
      | false =>
        have hop' : ¬ a.op = 2 := of_decide_eq_false hop
        have hM : posM ns e len = (false, 6) := by unfold posM; simp [o13, hab, hb, hop']
        rw [hM]
        simp only [wA, seval, reduceCtorEq, reduceIte, tEx_eq, o13, hab, tExs, hb, hop', keepsV_cons, keepsV_nil, keepP, keep1_self, loadK]
        repeat' ((with_reducible first | refine xG_dec ?_ ?_ | refine xG_ndec ?_ ?_ | refine xG_nsplit ?_ ?_ | refine xG_split ?_ ?_ | refine xC_dec ?_ ?_ | refine xC_ndec ?_ ?_ | refine xC_nsplit ?_ ?_ | refine xC_split ?_ ?_) <;> intro h <;> (try simp only [wA, seval, reduceCtorEq, reduceIte, tEx_eq, o13, hab, tExs, hb, hop', keepsV_cons, keepsV_nil, keepP, keep1_self, loadK, h]))
        exact Grow.app _ _
      | true =>
        have hop' : a.op = 2 := of_decide_eq_true hop
        cases hl : Ky.look a.name ns with
        | none =>
          have hM : posM ns e len = (false, 4) := by unfold posM; simp [o13, hab, hb, hop', hl]
          rw [hM]
          simp only [wA, seval, reduceCtorEq, reduceIte, tEx_eq, o13, hab, tExs, hb, hop', keepsV_cons, keepsV_nil, keepP, keep1_self, loadK, app_get hcl, app_get hnl, hc, hn, mlkP, mfind_ents, hl, Option.getD_none, Option.isSome_none]
          repeat' ((with_reducible first | refine xG_dec ?_ ?_ | refine xG_ndec ?_ ?_ | refine xG_nsplit ?_ ?_ | refine xG_split ?_ ?_ | refine xC_dec ?_ ?_ | refine xC_ndec ?_ ?_ | refine xC_nsplit ?_ ?_ | refine xC_split ?_ ?_) <;> intro h <;> (try simp only [wA, seval, reduceCtorEq, reduceIte, tEx_eq, o13, hab, tExs, hb, hop', keepsV_cons, keepsV_nil, keepP, keep1_self, loadK, app_get hcl, app_get hnl, hc, hn, mlkP, mfind_ents, hl, Option.getD_none, Option.isSome_none, h]))
          exact Grow.app _ _
        | some s =>
          cases hlo : s.loop with
          | false =>
            have hM : posM ns e len = (false, 6) := by unfold posM; simp [o13, hab, hb, hop', hl, hlo]
            rw [hM]
            simp only [wA, seval, reduceCtorEq, reduceIte, tEx_eq, o13, hab, tExs, hb, hop', keepsV_cons, keepsV_nil, keepP, keep1_self, loadK, app_get hcl, app_get hnl, hc, hn, mlkP, mfind_ents, hl, Option.getD_some, Option.isSome_some, hlo]
            repeat' ((with_reducible first | refine xG_dec ?_ ?_ | refine xG_ndec ?_ ?_ | refine xG_nsplit ?_ ?_ | refine xG_split ?_ ?_ | refine xC_dec ?_ ?_ | refine xC_ndec ?_ ?_ | refine xC_nsplit ?_ ?_ | refine xC_split ?_ ?_) <;> intro h <;> (try simp only [wA, seval, reduceCtorEq, reduceIte, tEx_eq, o13, hab, tExs, hb, hop', keepsV_cons, keepsV_nil, keepP, keep1_self, loadK, app_get hcl, app_get hnl, hc, hn, mlkP, mfind_ents, hl, Option.getD_some, Option.isSome_some, hlo, h]))
            exact Grow.app _ _
          | true =>
            by_cases hlh : s.low = s.high
            · have hM : posM ns e len = (true, 0) := by unfold posM; simp [o13, hab, hb, hop', hl, hlo, hlh]
              rw [hM]
              simp only [wA, seval, reduceCtorEq, reduceIte, tEx_eq, o13, hab, tExs, hb, hop', keepsV_cons, keepsV_nil, keepP, keep1_self, loadK, app_get hcl, app_get hnl, hc, hn, mlkP, mfind_ents, hl, Option.getD_some, Option.isSome_some, hlo, hlh]
              repeat' ((with_reducible first | refine xG_dec ?_ ?_ | refine xG_ndec ?_ ?_ | refine xG_nsplit ?_ ?_ | refine xG_split ?_ ?_ | refine xC_dec ?_ ?_ | refine xC_ndec ?_ ?_ | refine xC_nsplit ?_ ?_ | refine xC_split ?_ ?_) <;> intro h <;> (try simp only [wA, seval, reduceCtorEq, reduceIte, tEx_eq, o13, hab, tExs, hb, hop', keepsV_cons, keepsV_nil, keepP, keep1_self, loadK, app_get hcl, app_get hnl, hc, hn, mlkP, mfind_ents, hl, Option.getD_some, Option.isSome_some, hlo, hlh, h]))
              exact Grow.app _ _
            · have hM : posM ns e len = (decide (b.val ≤ IntKind.u64.wrap s.low) && decide (IntKind.u64.wrap (IntKind.u64.wrap (IntKind.i64.wrap (s.high - 1)) - b.val) < IntKind.u64.wrap len), 0) := by unfold posM; simp [o13, hab, hb, hop', hl, hlo, hlh]
              rw [hM]
              simp only [wA, seval, reduceCtorEq, reduceIte, tEx_eq, o13, hab, tExs, hb, hop', keepsV_cons, keepsV_nil, keepP, keep1_self, loadK, app_get hcl, app_get hnl, hc, hn, mlkP, mfind_ents, hl, Option.getD_some, Option.isSome_some, hlo, hlh]
              repeat' ((with_reducible first | refine xG_dec ?_ ?_ | refine xG_ndec ?_ ?_ | refine xG_nsplit ?_ ?_ | refine xG_split ?_ ?_ | refine xC_dec ?_ ?_ | refine xC_ndec ?_ ?_ | refine xC_nsplit ?_ ?_ | refine xC_split ?_ ?_) <;> intro h <;> (try simp only [wA, seval, reduceCtorEq, reduceIte, tEx_eq, o13, hab, tExs, hb, hop', keepsV_cons, keepsV_nil, keepP, keep1_self, loadK, app_get hcl, app_get hnl, hc, hn, mlkP, mfind_ents, hl, Option.getD_some, Option.isSome_some, hlo, hlh, h]))
              all_goals simp_all
              all_goals first | exact Grow.app _ _ | skip
    · have hM : posM ns e len = (false, 6) := by unfold posM; simp [o13, hab, hb]
      rw [hM]
      simp only [wA, seval, reduceCtorEq, reduceIte, tEx_eq, o13, hab, tExs, hb, keepsV_cons, keepsV_nil, keepP, keep1_self, loadK]
      repeat' ((with_reducible first | refine xG_dec ?_ ?_ | refine xG_ndec ?_ ?_ | refine xG_nsplit ?_ ?_ | refine xG_split ?_ ?_ | refine xC_dec ?_ ?_ | refine xC_ndec ?_ ?_ | refine xC_nsplit ?_ ?_ | refine xC_split ?_ ?_) <;> intro h <;> (try simp only [wA, seval, reduceCtorEq, reduceIte, tEx_eq, o13, hab, tExs, hb, keepsV_cons, keepsV_nil, keepP, keep1_self, loadK, h]))
      exact Grow.app _ _
  cases hop : decide (e.op = 2) with
  | false =>
    have hop' : ¬ e.op = 2 := of_decide_eq_false hop
    have hM : posM ns e len = (false, 6) := by unfold posM; simp [o1, o12, o13, hop']
    rw [hM]
    simp only [wA, seval, reduceCtorEq, reduceIte, tEx_eq, o1, o12, o13, hop', keepsV_cons, keepsV_nil, keepP, keep1_self, loadK]
    repeat' ((with_reducible first | refine xG_dec ?_ ?_ | refine xG_ndec ?_ ?_ | refine xG_nsplit ?_ ?_ | refine xG_split ?_ ?_ | refine xC_dec ?_ ?_ | refine xC_ndec ?_ ?_ | refine xC_nsplit ?_ ?_ | refine xC_split ?_ ?_) <;> intro h <;> (try simp only [wA, seval, reduceCtorEq, reduceIte, tEx_eq, o1, o12, o13, hop', keepsV_cons, keepsV_nil, keepP, keep1_self, loadK, h]))
    exact Grow.app _ _
  | true =>
    have hop' : e.op = 2 := of_decide_eq_true hop
    cases hl : Ky.look e.name ns with
    | none =>
      have hM : posM ns e len = (false, 4) := by unfold posM; simp [o1, o12, o13, hop', hl]
      rw [hM]
      simp only [wA, seval, reduceCtorEq, reduceIte, tEx_eq, o1, o12, o13, hop', keepsV_cons, keepsV_nil, keepP, keep1_self, loadK, app_get hcl, app_get hnl, hc, hn, mlkP, mfind_ents, hl, Option.getD_none, Option.isSome_none]
      repeat' ((with_reducible first | refine xG_dec ?_ ?_ | refine xG_ndec ?_ ?_ | refine xG_nsplit ?_ ?_ | refine xG_split ?_ ?_ | refine xC_dec ?_ ?_ | refine xC_ndec ?_ ?_ | refine xC_nsplit ?_ ?_ | refine xC_split ?_ ?_) <;> intro h <;> (try simp only [wA, seval, reduceCtorEq, reduceIte, tEx_eq, o1, o12, o13, hop', keepsV_cons, keepsV_nil, keepP, keep1_self, loadK, app_get hcl, app_get hnl, hc, hn, mlkP, mfind_ents, hl, Option.getD_none, Option.isSome_none, h]))
      exact Grow.app _ _
    | some s =>
      cases hlo : s.loop with
      | false =>
        have hM : posM ns e len = (false, 6) := by unfold posM; simp [o1, o12, o13, hop', hl, hlo]
        rw [hM]
        simp only [wA, seval, reduceCtorEq, reduceIte, tEx_eq, o1, o12, o13, hop', keepsV_cons, keepsV_nil, keepP, keep1_self, loadK, app_get hcl, app_get hnl, hc, hn, mlkP, mfind_ents, hl, Option.getD_some, Option.isSome_some, hlo]
        repeat' ((with_reducible first | refine xG_dec ?_ ?_ | refine xG_ndec ?_ ?_ | refine xG_nsplit ?_ ?_ | refine xG_split ?_ ?_ | refine xC_dec ?_ ?_ | refine xC_ndec ?_ ?_ | refine xC_nsplit ?_ ?_ | refine xC_split ?_ ?_) <;> intro h <;> (try simp only [wA, seval, reduceCtorEq, reduceIte, tEx_eq, o1, o12, o13, hop', keepsV_cons, keepsV_nil, keepP, keep1_self, loadK, app_get hcl, app_get hnl, hc, hn, mlkP, mfind_ents, hl, Option.getD_some, Option.isSome_some, hlo, h]))
        exact Grow.app _ _
      | true =>
        by_cases hlh : s.low = s.high
        · have hM : posM ns e len = (true, 0) := by unfold posM; simp [o1, o12, o13, hop', hl, hlo, hlh]
          rw [hM]
          simp only [wA, seval, reduceCtorEq, reduceIte, tEx_eq, o1, o12, o13, hop', keepsV_cons, keepsV_nil, keepP, keep1_self, loadK, app_get hcl, app_get hnl, hc, hn, mlkP, mfind_ents, hl, Option.getD_some, Option.isSome_some, hlo, hlh]
          repeat' ((with_reducible first | refine xG_dec ?_ ?_ | refine xG_ndec ?_ ?_ | refine xG_nsplit ?_ ?_ | refine xG_split ?_ ?_ | refine xC_dec ?_ ?_ | refine xC_ndec ?_ ?_ | refine xC_nsplit ?_ ?_ | refine xC_split ?_ ?_) <;> intro h <;> (try simp only [wA, seval, reduceCtorEq, reduceIte, tEx_eq, o1, o12, o13, hop', keepsV_cons, keepsV_nil, keepP, keep1_self, loadK, app_get hcl, app_get hnl, hc, hn, mlkP, mfind_ents, hl, Option.getD_some, Option.isSome_some, hlo, hlh, h]))
          exact Grow.app _ _
        · have hM : posM ns e len = (decide (0 < IntKind.u64.wrap len) && decide (IntKind.u64.wrap (IntKind.u64.wrap (IntKind.i64.wrap (s.high - 1)) + 0) < IntKind.u64.wrap len), 0) := by unfold posM; simp [o1, o12, o13, hop', hl, hlo, hlh]
          rw [hM]
          simp only [wA, seval, reduceCtorEq, reduceIte, tEx_eq, o1, o12, o13, hop', keepsV_cons, keepsV_nil, keepP, keep1_self, loadK, app_get hcl, app_get hnl, hc, hn, mlkP, mfind_ents, hl, Option.getD_some, Option.isSome_some, hlo, hlh]
          repeat' ((with_reducible first | refine xG_dec ?_ ?_ | refine xG_ndec ?_ ?_ | refine xG_nsplit ?_ ?_ | refine xG_split ?_ ?_ | refine xC_dec ?_ ?_ | refine xC_ndec ?_ ?_ | refine xC_nsplit ?_ ?_ | refine xC_split ?_ ?_) <;> intro h <;> (try simp only [wA, seval, reduceCtorEq, reduceIte, tEx_eq, o1, o12, o13, hop', keepsV_cons, keepsV_nil, keepP, keep1_self, loadK, app_get hcl, app_get hnl, hc, hn, mlkP, mfind_ents, hl, Option.getD_some, Option.isSome_some, hlo, hlh, h]))
          all_goals simp_all
          all_goals first | exact Grow.app _ _ | skip
end Go.Proofs.YtdjcnfacjfnakaaGreat

/- Contracts: the type of an expression. -/
set_option maxRecDepth 10000
set_option linter.unusedVariables false
set_option linter.unusedSimpArgs false
namespace Go.Proofs.YtdjcnfacjfnakaaGreat
open Go.Pi Go.Lx Go.Ky Go.Lib
variable {gl : Nat → Option (List T)}

abbrev z3 : Bool × List PV := (false, [.t (.int .i64 0), .t (.int .i64 0), .t (.int .i64 0)])
abbrev cEx (e : Exp) : Bool × List PV := (false, [.t (.int .i64 e.op), .t (.int .u64 e.val), .t (.str e.name), .t (.sl e.nl (tExs e.args))])
/-- What the checker says of an expression. -/
def ExSpec (gl : Nat → Option (List T)) (fs : Fs) (ns : Ns) (e : Exp) : Prop :=
  ∀ (sg : Sg) (c f n : Nat) (od : PV) (w : Int) (ow : Ow), Ck sg c f n fs ns od w → CallE F gl 150 [.lp c 0, .t (.agg (tEx e))] sg ow fun v sg' ow' => v = tRt (exM fs ns e w).1 ∧ sg'[c]? = some (false, [.mp f, .mp n, od, .t (.int .i64 (exM fs ns e w).2)]) ∧ Fr c sg sg'
theorem ok187 {fs : Fs} {ns : Ns} {e a b : Exp} (hab : e.args = [a, b]) (ha : ExSpec gl fs ns a) (hb : exB b = true) {sg : Sg} {c f n : Nat} {od : PV} {w : Int} (hk : Ck sg c f n fs ns od w) (ow : Ow) :
    CallE F gl 187 [.lp c 0, .t (.agg (tEx e))] sg ow fun v sg' ow' => v = tRt (idxM ns (exM fs ns a w) b).1 ∧ sg'[c]? = some (false, [.mp f, .mp n, od, .t (.int .i64 (idxM ns (exM fs ns a w) b).2)]) ∧ Fr c sg sg' := by
  refine XcE.of F187 rfl ?_
  simp only [ir187]
  have hcl := lt_of_get hk.c
  simp only [wA, seval, reduceCtorEq, reduceIte, tEx_eq, hab, tExs]
  have g0 : Grow sg (sg ++ [(false, [.t (.int .i64 e.op), .t (.int .u64 e.val), .t (.str e.name), .t (.sl e.nl [tEx a, tEx b])]), z3]) := .app _ _
  have hq := ha _ c f n od w ow (hk.grow g0)
  simp only [tEx_eq] at hq g0
  refine CallE.mono hq ?_
  rintro v sg' ow' ⟨rfl, hc', hfr⟩
  have i3 : (sg ++ [(false, [PV.t (.int .i64 e.op), .t (.int .u64 e.val), .t (.str e.name), .t (.sl e.nl [[.int .i64 a.op, .int .u64 a.val, .str a.name, .sl a.nl (tExs a.args)], [.int .i64 b.op, .int .u64 b.val, .str b.name, .sl b.nl (tExs b.args)]])]), z3])[sg.length]? = some (false, [PV.t (.int .i64 e.op), .t (.int .u64 e.val), .t (.str e.name), .t (.sl e.nl [[.int .i64 a.op, .int .u64 a.val, .str a.name, .sl a.nl (tExs a.args)], [.int .i64 b.op, .int .u64 b.val, .str b.name, .sl b.nl (tExs b.args)]])]) := by simp
  have i4 : (sg ++ [(false, [PV.t (.int .i64 e.op), .t (.int .u64 e.val), .t (.str e.name), .t (.sl e.nl [[.int .i64 a.op, .int .u64 a.val, .str a.name, .sl a.nl (tExs a.args)], [.int .i64 b.op, .int .u64 b.val, .str b.name, .sl b.nl (tExs b.args)]])]), z3])[sg.length + 1]? = some z3 := by simp
  have j3 := hfr.get i3 (by omega)
  have j4 := hfr.get i4 (by omega)
  have l3 := lt_of_get j3
  have l4 := lt_of_get j4
  have lc := lt_of_get hc'
  have hfr' : Fr c sg sg' := (Fr.of g0).trans hfr
  have hk' : Ck sg' c f n fs ns od (exM fs ns a w).2 := hk.fr hfr' hc'
  generalize hr : exM fs ns a w = r at *
  obtain ⟨⟨t, er⟩, w1⟩ := r
  unfold idxM
  by_cases he : er = 0
  · subst he
    simp only [ne_eq, not_true, if_false]
    simp only [wA, seval, reduceCtorEq, reduceIte, app_get l3, app_get l4, j3, j4, xR_ct]
    have g1 : Grow sg' (sg' ++ [(false, cTy t)]) := .app _ _
    have hq2 := ok208 (gl := gl) (hk'.grow g1) b hb t.len ow'
    simp only [tEx_eq] at hq2
    refine CallE.mono hq2 ?_
    rintro v sg2 ow2 ⟨rfl, hg2⟩
    have k3 := hg2.get (g1.get j3)
    have k4 := hg2.get (g1.get j4)
    have k5 := hg2.get (show (sg' ++ [(false, cTy t)])[sg'.length]? = some (false, cTy t) by simp)
    have kc := hg2.get (g1.get hc')
    have m4 := lt_of_get k4
    have hfr2 : Fr c sg sg2 := hfr'.trans (Fr.of (g1.trans hg2))
    generalize hp : posM ns b t.len = q at *
    obtain ⟨ins, e2⟩ := q
    have hset : Fr c sg (sg2.set (sg.length + 1) (false, [PV.t (.int .i64 t.kind), .t (.int .i64 t.bits), .t (.int .i64 0)])) := by
      refine ⟨by simpa using hfr2.1, fun i hi hc => ?_⟩
      rw [List.getElem?_set_ne (by omega)]
      exact hfr2.2 i hi hc
    have hsc : ∀ x, (sg2.set (sg.length + 1) x)[c]? = some (false, [.mp f, .mp n, od, .t (.int .i64 w1)]) := fun x => by
      rw [List.getElem?_set_ne (by omega)]; exact kc
    by_cases he2 : e2 = 0
    · subst he2
      by_cases htl : t.len = 0
      · simp only [wA, seval, reduceCtorEq, reduceIte, k3, k4, k5, xR_ct, htl, set_same k4, ne_eq]
        simp [bad, zTy, htl, kc, hfr2]
      · cases ins with
        | false =>
          simp only [wA, seval, reduceCtorEq, reduceIte, k3, k4, k5, xR_ct, htl, set_same k4, ne_eq]
          simp [bad, zTy, htl, kc, hfr2]
        | true =>
          simp only [wA, seval, reduceCtorEq, reduceIte, k3, k4, k5, xR_ct, htl, get_set k4, ok209, ne_eq]
          simp [htl, hsc, hset]
    · simp only [wA, seval, reduceCtorEq, reduceIte, k3, k4, k5, xR_ct, he2, set_same k4, ne_eq]
      simp [bad, zTy, he2, kc, hfr2]
  · simp only [wA, seval, reduceCtorEq, reduceIte, app_get l3, app_get l4, app_set l4, j3, j4, xR_ct, he, set_same j4, app_get lc]
    simp [he, bad, zTy, app_get lc, hc', hfr'.app]
end Go.Proofs.YtdjcnfacjfnakaaGreat

/- Contracts: the type of an expression, its arguments. -/
set_option maxRecDepth 10000
set_option linter.unusedVariables false
set_option linter.unusedSimpArgs false
namespace Go.Proofs.YtdjcnfacjfnakaaGreat
open Go.Pi Go.Lx Go.Ky Go.Lib
variable {gl : Nat → Option (List T)}

theorem loop150 {fs : Fs} {ns : Ns} {e : Exp} (hrec : ∀ a, a ∈ e.args → ExSpec gl fs ns a) (hn : e.args.length ≤ B47) {c f n : Nat} {od : PV} {v : PV} {sg0 sgB : Sg} {w0 : Int} {b3 b4 a6 : Nat} (q3 : b3 = sg0.length) (q4 : b4 = sg0.length + 1) (q6 : a6 = sg0.length + 2) (hk0 : Ck sg0 c f n fs ns od w0) (g0 : Grow sg0 sgB)
    (h3 : sgB[b3]? = some (cEx e)) (h4 : sgB[b4]? = some z3) (hv : 0 < e.args.length → v = .ls a6 0 e.args.length 3) (Q : Ex → S → Prop) : ∀ (l : List Exp) (i : Nat) (done : List Ty) (w : Int) (fr : List PV) (sg : Sg) (ow : Ow), e.args.drop i = l → i ≤ e.args.length → done.length = i → Fr2 c a6 sgB sg → (0 < e.args.length → Arr sg a6 e.args.length done) → sg[c]? = some (false, [.mp f, .mp n, od, .t (.int .i64 w)]) →
    FrAt fr [(0, .lp c 0), (3, .lp b3 0), (4, .lp b4 0), (6, v), (26, .t (.sl e.nl (tExs e.args))), (27, .t (.int .i64 e.args.length)), (28, .t (.int .i64 i))] →
    ((exsM fs ns l w).1.2 = 0 → ∀ fr' sg' ow', Fr2 c a6 sgB sg' → (0 < e.args.length → Arr sg' a6 e.args.length (done ++ (exsM fs ns l w).1.1)) → (done ++ (exsM fs ns l w).1.1).length = e.args.length → sg'[c]? = some (false, [.mp f, .mp n, od, .t (.int .i64 (exsM fs ns l w).2)]) →
      FrAt fr' [(0, .lp c 0), (3, .lp b3 0), (4, .lp b4 0), (6, v)] → Q (.exit 0) ⟨fr', sg', ow'⟩) →
    ((exsM fs ns l w).1.2 ≠ 0 → ∀ fr' sg' ow', Fr2 c a6 sgB sg' → sg'[c]? = some (false, [.mp f, .mp n, od, .t (.int .i64 (exsM fs ns l w).2)]) → fget fr' 4 = .lp b4 0 → fget fr' 5 = .t (.int .i64 (exsM fs ns l w).1.2) → Q .ret ⟨fr', sg', ow'⟩) →
    Xl F gl lb150_0 ⟨fr, sg, ow⟩ Q ⟨⟩ := by
  intro l
  have hcl := lt_of_get hk0.c
  have hfl := lt_of_get hk0.f
  have hnl := lt_of_get hk0.n
  induction l with
  | nil =>
    intro i done w fr sg ow hd hil hdn hg har hc hf k1 k2
    have hd := drop_nil' hd
    simp only [FrAt_cons, FrAt_nil] at hf
    obtain ⟨f0, f3, f4, f6, f26, f27, f28, -⟩ := hf
    refine Xl.step ?_
    simp only [lb150_0]
    have c1 : ¬ ((i : Int) < (e.args.length : Int)) := by omega
    have hem : exsM fs ns [] w = (([], 0), w) := by rw [exsM]
    simp only [wA, seval, reduceCtorEq, reduceIte, f0, f3, f4, f6, f26, f27, f28, c1]
    rw [hem] at k1
    refine k1 rfl _ _ _ hg ?_ ?_ hc (by simp only [FrAt_cons, FrAt_nil, wFr, Nat.reduceEqDiff, Nat.one_ne_zero, Nat.zero_ne_one, reduceIte, and_self, and_true, true_and, f0, f3, f4, f6])
    · simpa using har
    · simp; omega
  | cons x l ih =>
    intro i done w fr sg ow hd hil hdn hg har hc hf k1 k2
    obtain ⟨hx, hr, hi⟩ := drop_cons hd
    simp only [FrAt_cons, FrAt_nil] at hf
    obtain ⟨f0, f3, f4, f6, f26, f27, f28, -⟩ := hf
    refine Xl.step ?_
    simp only [lb150_0]
    have c1 : (i : Int) < (e.args.length : Int) := by omega
    have hpos : 0 < e.args.length := by omega
    have hvv := hv hpos
    subst hvv
    have hw1 := i64_succ hi (show e.args.length ≤ 281474976710656 by have : B47 = 140737488355328 := rfl; omega)
    rw [exsM_cons] at k1 k2
    have gB := g0.len
    have hk : Ck sg c f n fs ns od w := (hk0.grow g0).fr2 hg (by omega) (by omega) hc
    have hq := fun r => hrec x (List.mem_of_getElem? hx) (sg ++ r) c f n od w ow (hk.grow (.app _ r))
    simp only [tEx_eq] at hq
    simp only [wA, seval, reduceCtorEq, reduceIte, f0, f3, f4, f6, f26, f27, f28, c1, hw1, Int.toNat_natCast, hi, tExs_get, hx, Option.map_some, tEx_eq]
    refine CallE.mono (hq _) ?_
    rintro v sg' ow' ⟨rfl, hc', hfr⟩
    have hFr : Fr c sg sg' := (Fr.of (.app _ _)).trans hfr
    have hg' : Fr2 c a6 sgB sg' := hg.trans (Fr2.of hFr)
    have j4 := hg'.get h4 (by omega) (by omega)
    have m4 := lt_of_get j4
    have mc := lt_of_get hc'
    generalize hxr : exM fs ns x w = q at *
    obtain ⟨⟨t, er⟩, w1⟩ := q
    by_cases he : er = 0
    · subst he
      obtain ⟨cs, ha, hcs1, hcs2⟩ := (har hpos).get (hFr.2 a6 (lt_of_get (har hpos).choose_spec.1) (by omega))
      have ma := lt_of_get ha
      have hle : i * 3 + 3 ≤ cs.length := by omega
      have hp := Arr.put hcs1 hcs2 (by omega) ma t
      rw [hdn] at hp
      simp only [wA, seval, reduceCtorEq, reduceIte, f0, f3, f4, f6, f26, f27, f28, c1, hw1, Int.toNat_natCast, hi, app_get ma, app_set ma, ha, hle]
      simp only [ne_eq, not_true, if_false] at k1 k2
      refine ih (i + 1) (done ++ [t]) w1 _ _ _ hr (by omega) (by simp [hdn]) ((hg'.set _).app _) (fun _ => Arr.get hp (app_get (by simpa using ma) _)) ?_ (by simp only [FrAt_cons, FrAt_nil, wFr, Nat.reduceEqDiff, Nat.one_ne_zero, Nat.zero_ne_one, reduceIte, and_self, and_true, true_and, f0, f3, f4, f6, f26, f27]) ?_ ?_
      · rw [app_get (by simpa using mc), List.getElem?_set_ne (by omega)]; exact hc'
      · intro h0 fr' sg' ow' x1 x2 x3 x4 x5
        rw [if_neg (by simpa using h0)] at k1
        rw [List.append_assoc] at x2 x3
        exact k1 rfl fr' sg' ow' x1 x2 x3 x4 x5
      · intro h0 fr' sg' ow' x1 x2 x3 x4
        rw [if_pos (by simpa using h0)] at k2
        exact k2 h0 fr' sg' ow' x1 x2 x3 x4
    · simp only [wA, seval, reduceCtorEq, reduceIte, f0, f3, f4, f6, f26, f27, f28, he, app_get m4, app_set m4, j4, set_same j4]
      rw [if_pos (by simpa using he)] at k2
      exact k2 he _ _ _ (hg'.app _) (by rw [app_get mc]; exact hc') (by simp only [FrAt_cons, FrAt_nil, wFr, Nat.reduceEqDiff, Nat.one_ne_zero, Nat.zero_ne_one, reduceIte, and_self, and_true, true_and, f4]) (by simp only [FrAt_cons, FrAt_nil, wFr, Nat.reduceEqDiff, Nat.one_ne_zero, Nat.zero_ne_one, reduceIte, and_self, and_true, true_and])
theorem ok150 {fs : Fs} {ns : Ns} : ∀ e, ExpOk e → szE e ≤ B20 → exB e = true → ExSpec gl fs ns e := by
  refine Exp.ind fun e ih hxo hok heb => ?_
  have hrec : ∀ a, a ∈ e.args → ExSpec gl fs ns a := fun a ha => ih a ha (by cases hxo with | mk _ h1 h2 h3 h4 h5 h => exact h a ha) ((szE_args hok).2 a ha) (exB_args heb a ha)
  have hn : e.args.length ≤ B20 := (szE_args hok).1
  have hb20 : B20 = 1100000 := rfl
  have hb47 : B47 = 140737488355328 := rfl
  intro sg c f n od w ow hk
  have hcl := lt_of_get hk.c
  by_cases o8 : e.op = 8
  · obtain ⟨a, b, hab⟩ := exB_two heb (.inl o8)
    have hM : exM fs ns e w = idxM ns (exM fs ns a w) b := by rw [exM_eq, if_pos o8, hab]
    rw [hM]
    refine XcE.of F150 rfl ?_
    simp only [ir150]
    have hq := fun r => ok187 (gl := gl) hab (hrec a (by rw [hab]; simp)) (exB_args heb b (by rw [hab]; simp)) (hk.grow (.app sg r)) ow
    simp only [tEx_eq, o8] at hq
    simp only [wA, seval, reduceCtorEq, reduceIte, tEx_eq, o8]
    refine CallE.mono (hq _) ?_
    rintro v sg' ow' ⟨rfl, hc', hfr⟩
    have hFr : Fr c sg sg' := (Fr.of (.app _ _)).trans hfr
    have j4 := hfr.get (i := sg.length + 1) (x := z3) (by simp) (by omega)
    have m4 := lt_of_get j4
    generalize hxr : idxM ns (exM fs ns a w) b = q at *
    obtain ⟨⟨t, er⟩, w1⟩ := q
    simp only [wA, seval, reduceCtorEq, reduceIte, j4, get_set j4, xR_ct]
    refine ⟨by rw [List.getElem?_set_ne (by omega)]; exact hc', ?_⟩
    exact Fr2.fr (a := sg.length + 1) (Fr.refl c sg) ((Fr2.of hFr).set _) (by omega)
  have hM : exM fs ns e w = if (exsM fs ns e.args w).1.2 ≠ 0 then (bad (exsM fs ns e.args w).1.2, (exsM fs ns e.args w).2) else opM fs ns e.op e.val e.name (exsM fs ns e.args w).1.1 (exsM fs ns e.args w).2 := by rw [exM_eq, if_neg o8]
  rw [hM]
  refine XcE.of F150 rfl ?_
  simp only [ir150]
  simp only [wA, seval, reduceCtorEq, reduceIte, tEx_eq, o8, tExs_len]
  obtain ⟨v, r, ow1, hmk, hv⟩ := mks_ty (sg ++ [(false, [.t (.int .i64 e.op), .t (.int .u64 e.val), .t (.str e.name), .t (.sl e.nl (tExs e.args))]), z3]) ow e.args.length hn
  rw [hmk]
  (simp only [wA, seval, reduceCtorEq, reduceIte, tEx_eq, o8, tExs_len, List.append_assoc])
  have i3 : (sg ++ cEx e :: z3 :: r)[sg.length]? = some (cEx e) := by simp
  have i4 : (sg ++ cEx e :: z3 :: r)[sg.length + 1]? = some z3 := by rw [List.getElem?_append_right (by omega)]; simp
  have hvl : (sg ++ [(false, [PV.t (.int .i64 e.op), .t (.int .u64 e.val), .t (.str e.name), .t (.sl e.nl (tExs e.args))]), z3]).length = sg.length + 2 := by simp
  rw [hvl, List.append_assoc] at hv
  refine loop150 (sg0 := sg) (sgB := sg ++ cEx e :: z3 :: r) hrec (by omega) rfl rfl rfl hk (.app _ _) i3 i4 ?_ _ e.args 0 [] w _ _ _ rfl (by omega) rfl (Fr2.refl _ _ _) ?_ (by rw [app_get hcl]; exact hk.c) (by simp only [FrAt_cons, FrAt_nil, wFr, Nat.reduceEqDiff, Nat.one_ne_zero, Nat.zero_ne_one, reduceIte, and_self, and_true, true_and]; first | done | rfl) ?_ ?_
  · intro h0
    rcases hv with ⟨h1, _⟩ | ⟨_, h1, _⟩
    · omega
    · exact h1
  · intro h0
    rcases hv with ⟨h1, _⟩ | ⟨_, _, h1⟩
    · omega
    · exact h1
  · intro h0 fr' sg' ow' hg har hlen hc hf
    rw [List.nil_append] at har hlen
    rw [if_neg (by simpa using h0)]
    generalize exsM fs ns e.args w = q at *
    obtain ⟨⟨ts, er⟩, w1⟩ := q
    simp only at h0 har hlen hc ⊢
    subst h0
    simp only [FrAt_cons, FrAt_nil] at hf
    obtain ⟨f0, f3, f4, f6, -⟩ := hf
    have hFr : Fr c sg sg' := Fr2.fr (Fr.of (.app _ _)) hg (by omega)
    have hk' := hk.fr hFr hc
    have j3 := hg.get i3 (by omega) (by omega)
    have j4 := hg.get i4 (by omega) (by omega)
    have m3 := lt_of_get j3
    have m4 := lt_of_get j4
    have mc := lt_of_get hc
    have mn := lt_of_get hk'.n
    have hn' := hk'.n
    have htl : ts.length ≤ B47 := by omega
    have hs : SlT sg' v ts := by
      rcases hv with ⟨h1, h2⟩ | ⟨h1, h2, _⟩
      · exact .inl ⟨List.eq_nil_of_length_eq_zero (by omega), h2⟩
      · obtain ⟨cs, x1, x2, x3⟩ := har h1
        exact .inr ⟨_, cs, by rw [hlen]; exact h2, x1, by rw [hlen]; exact x2, x3⟩
    have hfin : ∀ (sg2 : Sg) (x : Bool × List PV), Fr c sg sg2 → Fr c sg (sg2.set (sg.length + 1) x) := fun sg2 x h => Fr2.fr (a := sg.length + 1) (Fr.refl c sg) ((Fr2.of h).set _) (by omega)
    have hfc : ∀ (sg2 : Sg) (x : Bool × List PV), (sg2.set (sg.length + 1) x)[c]? = sg2[c]? := fun sg2 x => List.getElem?_set_ne (by omega)
    clear har hg hv hmk hrec ih
    by_cases o1 : e.op = 1
    · have hM : opM fs ns e.op e.val e.name ts w1 = ((numT e.val, 0), w1) := by unfold opM; simp [o1]
      rw [hM]
      have hu : U64 e.val := by cases hxo with | mk _ h1 h2 h3 h4 h5 h => exact h2
      simp only [wA, seval, reduceCtorEq, reduceIte, f0, f3, f4, f6, j3, j4, xR_ct, app_get m3, app_get m4, app_set m4, app_get mc, get_set j4, hc, o1, ok188 hu]
      first | exact ⟨by rw [hfc]; exact hc, hfin _ _ hFr⟩ | exact ⟨rfl, by rw [hfc]; exact hc, hfin _ _ hFr⟩
    by_cases o3 : e.op = 3
    · have hM : opM fs ns e.op e.val e.name ts w1 = ((boolT, 0), w1) := by unfold opM; simp [o8, o1, o3]
      rw [hM]
      simp only [wA, seval, reduceCtorEq, reduceIte, f0, f3, f4, f6, j3, j4, xR_ct, app_get m3, app_get m4, app_set m4, app_get mc, get_set j4, hc, o8, o1, o3, ok186]
      first | exact ⟨by rw [hfc]; exact hc, hfin _ _ hFr⟩ | exact ⟨rfl, by rw [hfc]; exact hc, hfin _ _ hFr⟩
    by_cases o4 : e.op = 4
    · have hM : opM fs ns e.op e.val e.name ts w1 = ((boolT, 0), w1) := by unfold opM; simp [o8, o1, o3, o4]
      rw [hM]
      simp only [wA, seval, reduceCtorEq, reduceIte, f0, f3, f4, f6, j3, j4, xR_ct, app_get m3, app_get m4, app_set m4, app_get mc, get_set j4, hc, o8, o1, o3, o4, ok186]
      first | exact ⟨by rw [hfc]; exact hc, hfin _ _ hFr⟩ | exact ⟨rfl, by rw [hfc]; exact hc, hfin _ _ hFr⟩
    by_cases o2 : e.op = 2
    · cases hl : Ky.look e.name ns with
      | none =>
        have hM : opM fs ns e.op e.val e.name ts w1 = (bad 4, w1) := by unfold opM; simp [o8, o1, o3, o4, o2, hl]
        rw [hM]
        simp only [wA, seval, reduceCtorEq, reduceIte, f0, f3, f4, f6, j3, j4, xR_ct, app_get m3, app_get m4, app_set m4, app_get mc, get_set j4, hc, o8, o1, o3, o4, o2, app_get mn, hn', mlkP, mfind_ents, hl, Option.getD_none, Option.isSome_none, set_same j4]
        exact ⟨rfl, hFr.app _⟩
      | some sy =>
        have hM : opM fs ns e.op e.val e.name ts w1 = ((sy.typ, 0), w1) := by unfold opM; simp [o8, o1, o3, o4, o2, hl]
        rw [hM]
        simp only [wA, seval, reduceCtorEq, reduceIte, f0, f3, f4, f6, j3, j4, xR_ct, app_get m3, app_get m4, app_set m4, app_get mc, get_set j4, hc, o8, o1, o3, o4, o2, app_get mn, hn', mlkP, mfind_ents, hl, Option.getD_some, Option.isSome_some, gsc m4]
        exact ⟨by rw [app_get (by simpa using mc), hfc]; exact hc, (hfin _ _ hFr).app _⟩
    by_cases o5 : e.op = 5
    · have hM : opM fs ns e.op e.val e.name ts w1 = (callM fs e.name ts, w1) := by unfold opM; simp [o8, o1, o3, o4, o2, o5]
      rw [hM]
      simp only [wA, seval, reduceCtorEq, reduceIte, f0, f3, f4, f6, j3, j4, xR_ct, app_get m3, app_get m4, app_set m4, app_get mc, get_set j4, hc, o8, o1, o3, o4, o2, o5, ok186]
      refine CallE.mono (ok189 htl hk' hs e.name ow') ?_
      rintro x sg2 ow2 ⟨rfl, hg2⟩
      have k4 := hg2.get j4
      generalize callM fs e.name ts = rr at *
      obtain ⟨t, er⟩ := rr
      simp only [wA, seval, reduceCtorEq, reduceIte, f0, f3, f4, f6, k4, get_set k4, xR_ct]
      exact ⟨by rw [hfc]; exact hg2.get hc, hfin _ _ (hFr.trans (Fr.of hg2))⟩
    by_cases o6 : e.op = 6
    · by_cases hv6 : 65536 ≤ e.val
      · have hM : opM fs ns e.op e.val e.name ts w1 = (bad 8, w1) := by unfold opM; simp [o8, o1, o3, o4, o2, o5, o6, hv6]
        rw [hM]
        simp only [wA, seval, reduceCtorEq, reduceIte, f0, f3, f4, f6, j3, j4, xR_ct, app_get m3, app_get m4, app_set m4, app_get mc, get_set j4, hc, o8, o1, o3, o4, o2, o5, o6, hv6, set_same j4]
        exact ⟨rfl, hFr⟩
      · have hM : opM fs ns e.op e.val e.name ts w1 = (allM isSc ts fieldT, w1) := by unfold opM; simp [o8, o1, o3, o4, o2, o5, o6, hv6]
        rw [hM]
        simp only [wA, seval, reduceCtorEq, reduceIte, f0, f3, f4, f6, j3, j4, xR_ct, app_get m3, app_get m4, app_set m4, app_get mc, get_set j4, hc, o8, o1, o3, o4, o2, o5, o6, hv6, ok186]
        refine CallE.mono (ok190 htl sy191 hs fieldT ow') ?_
        rintro x sg2 ow2 ⟨rfl, hg2, -⟩
        have k4 := hg2.get j4
        generalize allM isSc ts fieldT = rr at *
        obtain ⟨t, er⟩ := rr
        simp only [wA, seval, reduceCtorEq, reduceIte, f0, f3, f4, f6, k4, get_set k4, xR_ct]
        exact ⟨by rw [hfc]; exact hg2.get hc, hfin _ _ (hFr.trans (Fr.of hg2))⟩
    by_cases o7 : e.op = 7
    · have hM : opM fs ns e.op e.val e.name ts w1 = (listM ts, w1) := by unfold opM; simp [o8, o1, o3, o4, o2, o5, o6, o7]
      rw [hM]
      simp only [wA, seval, reduceCtorEq, reduceIte, f0, f3, f4, f6, j3, j4, xR_ct, app_get m3, app_get m4, app_set m4, app_get mc, get_set j4, hc, o8, o1, o3, o4, o2, o5, o6, o7, ok186]
      refine CallE.mono (ok192 (by have := exB_some heb o7; omega) htl hs ow') ?_
      rintro x sg2 ow2 ⟨rfl, hg2⟩
      have k4 := hg2.get j4
      generalize listM ts = rr at *
      obtain ⟨t, er⟩ := rr
      simp only [wA, seval, reduceCtorEq, reduceIte, f0, f3, f4, f6, k4, get_set k4, xR_ct]
      exact ⟨by rw [hfc]; exact hg2.get hc, hfin _ _ (hFr.trans (Fr.of hg2))⟩
    by_cases o20 : e.op = 20
    · obtain ⟨xa, xb, xc, hab⟩ := exB_three heb o20
      have hl3 : ts.length = 3 := by rw [hlen, hab]; rfl
      obtain ⟨t1, t2, t3, rfl⟩ : ∃ t1 t2 t3, ts = [t1, t2, t3] := by
        match ts, hl3 with
        | [t1, t2, t3], _ => exact ⟨_, _, _, rfl⟩
      obtain ⟨a6, cs, rfl, ha6, hcs1, hcs2⟩ : ∃ a cs, v = .ls a 0 3 3 ∧ sg'[a]? = some (false, cs) ∧ cs.length = 3 * 3 ∧ ∀ i t, [t1, t2, t3][i]? = some t → (cs.drop (i * 3)).take 3 = [.t (.int .i64 t.kind), .t (.int .i64 t.bits), .t (.int .i64 t.len)] := by
        rcases hs with ⟨h1, _⟩ | h1
        · simp at h1
        · exact h1
      have hcs := cells3 hcs1 hcs2
      subst hcs
      clear hcs1 hcs2
      have m6 := lt_of_get ha6
      have hM : opM fs ns e.op e.val e.name [t1, t2, t3] w1 = (choiceM t1 t2 t3, w1) := by unfold opM; simp [o8, o1, o3, o4, o2, o5, o6, o7, o20]
      rw [hM]
      simp only [wA, seval, reduceCtorEq, reduceIte, f0, f3, f4, f6, j3, j4, xR_ct, app_get m3, app_get m4, app_set m4, app_get mc, get_set j4, hc, o8, o1, o3, o4, o2, o5, o6, o7, o20, ha6, app_get m6, ok193]
      exact ⟨by rw [hfc]; exact hc, hfin _ _ hFr⟩
    by_cases o14 : e.op = 14
    · have hM : opM fs ns e.op e.val e.name ts w1 = (allM isSc ts boolT, w1) := by unfold opM; simp [o8, o1, o3, o4, o2, o5, o6, o7, o20, o14]
      rw [hM]
      simp only [wA, seval, reduceCtorEq, reduceIte, f0, f3, f4, f6, j3, j4, xR_ct, app_get m3, app_get m4, app_set m4, app_get mc, get_set j4, hc, o8, o1, o3, o4, o2, o5, o6, o7, o20, o14, ok186]
      refine CallE.mono (ok190 htl sy191 hs boolT ow') ?_
      rintro x sg2 ow2 ⟨rfl, hg2, -⟩
      have k4 := hg2.get j4
      generalize allM isSc ts boolT = rr at *
      obtain ⟨t, er⟩ := rr
      simp only [wA, seval, reduceCtorEq, reduceIte, f0, f3, f4, f6, k4, get_set k4, xR_ct]
      exact ⟨by rw [hfc]; exact hg2.get hc, hfin _ _ (hFr.trans (Fr.of hg2))⟩
    by_cases o15 : e.op = 15
    · have hM : opM fs ns e.op e.val e.name ts w1 = (allM isSc ts boolT, w1) := by unfold opM; simp [o8, o1, o3, o4, o2, o5, o6, o7, o20, o14, o15]
      rw [hM]
      simp only [wA, seval, reduceCtorEq, reduceIte, f0, f3, f4, f6, j3, j4, xR_ct, app_get m3, app_get m4, app_set m4, app_get mc, get_set j4, hc, o8, o1, o3, o4, o2, o5, o6, o7, o20, o14, o15, ok186]
      refine CallE.mono (ok190 htl sy191 hs boolT ow') ?_
      rintro x sg2 ow2 ⟨rfl, hg2, -⟩
      have k4 := hg2.get j4
      generalize allM isSc ts boolT = rr at *
      obtain ⟨t, er⟩ := rr
      simp only [wA, seval, reduceCtorEq, reduceIte, f0, f3, f4, f6, k4, get_set k4, xR_ct]
      exact ⟨by rw [hfc]; exact hg2.get hc, hfin _ _ (hFr.trans (Fr.of hg2))⟩
    by_cases o16 : e.op = 16
    · obtain ⟨xa, xb, hab⟩ := exB_two heb (.inr (.inr (.inr (.inl o16))))
      have hl2 : ts.length = 2 := by rw [hlen, hab]; rfl
      obtain ⟨t1, t2, rfl⟩ : ∃ t1 t2, ts = [t1, t2] := by
        match ts, hl2 with
        | [t1, t2], _ => exact ⟨_, _, rfl⟩
      obtain ⟨a6, cs, rfl, ha6, hcs1, hcs2⟩ : ∃ a cs, v = .ls a 0 2 3 ∧ sg'[a]? = some (false, cs) ∧ cs.length = 2 * 3 ∧ ∀ i t, [t1, t2][i]? = some t → (cs.drop (i * 3)).take 3 = [.t (.int .i64 t.kind), .t (.int .i64 t.bits), .t (.int .i64 t.len)] := by
        rcases hs with ⟨h1, _⟩ | h1
        · simp at h1
        · exact h1
      have hcs := cells2 hcs1 hcs2
      subst hcs
      clear hcs1 hcs2
      have m6 := lt_of_get ha6
      have hM : opM fs ns e.op e.val e.name [t1, t2] w1 = compM t1 t2 w1 := by unfold opM; simp [o8, o1, o3, o4, o2, o5, o6, o7, o20, o14, o15, o16]
      rw [hM]
      simp only [wA, seval, reduceCtorEq, reduceIte, f0, f3, f4, f6, j3, j4, xR_ct, app_get m3, app_get m4, app_set m4, app_get mc, get_set j4, hc, o8, o1, o3, o4, o2, o5, o6, o7, o20, o14, o15, o16, ha6, app_get m6]
      refine CallE.mono (ok194 hk' t1 t2 ow') ?_
      rintro x sg2 ow2 ⟨rfl, hc2, hg2⟩
      have k4 := hg2.get j4 (by omega)
      generalize compM t1 t2 w1 = rr at *
      obtain ⟨⟨t, er⟩, w2⟩ := rr
      simp only [wA, seval, reduceCtorEq, reduceIte, f0, f3, f4, f6, k4, get_set k4, xR_ct]
      exact ⟨by rw [hfc]; exact hc2, hfin _ _ (hFr.trans hg2)⟩
    by_cases o17 : e.op = 17
    · obtain ⟨xa, xb, hab⟩ := exB_two heb (.inr (.inr (.inr (.inr o17))))
      have hl2 : ts.length = 2 := by rw [hlen, hab]; rfl
      obtain ⟨t1, t2, rfl⟩ : ∃ t1 t2, ts = [t1, t2] := by
        match ts, hl2 with
        | [t1, t2], _ => exact ⟨_, _, rfl⟩
      obtain ⟨a6, cs, rfl, ha6, hcs1, hcs2⟩ : ∃ a cs, v = .ls a 0 2 3 ∧ sg'[a]? = some (false, cs) ∧ cs.length = 2 * 3 ∧ ∀ i t, [t1, t2][i]? = some t → (cs.drop (i * 3)).take 3 = [.t (.int .i64 t.kind), .t (.int .i64 t.bits), .t (.int .i64 t.len)] := by
        rcases hs with ⟨h1, _⟩ | h1
        · simp at h1
        · exact h1
      have hcs := cells2 hcs1 hcs2
      subst hcs
      clear hcs1 hcs2
      have m6 := lt_of_get ha6
      have hM : opM fs ns e.op e.val e.name [t1, t2] w1 = compM t1 t2 w1 := by unfold opM; simp [o8, o1, o3, o4, o2, o5, o6, o7, o20, o14, o15, o16, o17]
      rw [hM]
      simp only [wA, seval, reduceCtorEq, reduceIte, f0, f3, f4, f6, j3, j4, xR_ct, app_get m3, app_get m4, app_set m4, app_get mc, get_set j4, hc, o8, o1, o3, o4, o2, o5, o6, o7, o20, o14, o15, o16, o17, ha6, app_get m6]
      refine CallE.mono (ok194 hk' t1 t2 ow') ?_
      rintro x sg2 ow2 ⟨rfl, hc2, hg2⟩
      have k4 := hg2.get j4 (by omega)
      generalize compM t1 t2 w1 = rr at *
      obtain ⟨⟨t, er⟩, w2⟩ := rr
      simp only [wA, seval, reduceCtorEq, reduceIte, f0, f3, f4, f6, k4, get_set k4, xR_ct]
      exact ⟨by rw [hfc]; exact hc2, hfin _ _ (hFr.trans hg2)⟩
    by_cases o10 : e.op = 10
    · have hM : opM fs ns e.op e.val e.name ts w1 = (allM isBo ts boolT, w1) := by unfold opM; simp [o8, o1, o3, o4, o2, o5, o6, o7, o20, o14, o15, o16, o17, o10]
      rw [hM]
      simp only [wA, seval, reduceCtorEq, reduceIte, f0, f3, f4, f6, j3, j4, xR_ct, app_get m3, app_get m4, app_set m4, app_get mc, get_set j4, hc, o8, o1, o3, o4, o2, o5, o6, o7, o20, o14, o15, o16, o17, o10, ok186]
      refine CallE.mono (ok190 htl sy195 hs boolT ow') ?_
      rintro x sg2 ow2 ⟨rfl, hg2, -⟩
      have k4 := hg2.get j4
      generalize allM isBo ts boolT = rr at *
      obtain ⟨t, er⟩ := rr
      simp only [wA, seval, reduceCtorEq, reduceIte, f0, f3, f4, f6, k4, get_set k4, xR_ct]
      exact ⟨by rw [hfc]; exact hg2.get hc, hfin _ _ (hFr.trans (Fr.of hg2))⟩
    by_cases o18 : e.op = 18
    · have hM : opM fs ns e.op e.val e.name ts w1 = (allM isBo ts boolT, w1) := by unfold opM; simp [o8, o1, o3, o4, o2, o5, o6, o7, o20, o14, o15, o16, o17, o10, o18]
      rw [hM]
      simp only [wA, seval, reduceCtorEq, reduceIte, f0, f3, f4, f6, j3, j4, xR_ct, app_get m3, app_get m4, app_set m4, app_get mc, get_set j4, hc, o8, o1, o3, o4, o2, o5, o6, o7, o20, o14, o15, o16, o17, o10, o18, ok186]
      refine CallE.mono (ok190 htl sy195 hs boolT ow') ?_
      rintro x sg2 ow2 ⟨rfl, hg2, -⟩
      have k4 := hg2.get j4
      generalize allM isBo ts boolT = rr at *
      obtain ⟨t, er⟩ := rr
      simp only [wA, seval, reduceCtorEq, reduceIte, f0, f3, f4, f6, k4, get_set k4, xR_ct]
      exact ⟨by rw [hfc]; exact hg2.get hc, hfin _ _ (hFr.trans (Fr.of hg2))⟩
    by_cases o19 : e.op = 19
    · have hM : opM fs ns e.op e.val e.name ts w1 = (allM isBo ts boolT, w1) := by unfold opM; simp [o8, o1, o3, o4, o2, o5, o6, o7, o20, o14, o15, o16, o17, o10, o18, o19]
      rw [hM]
      simp only [wA, seval, reduceCtorEq, reduceIte, f0, f3, f4, f6, j3, j4, xR_ct, app_get m3, app_get m4, app_set m4, app_get mc, get_set j4, hc, o8, o1, o3, o4, o2, o5, o6, o7, o20, o14, o15, o16, o17, o10, o18, o19, ok186]
      refine CallE.mono (ok190 htl sy195 hs boolT ow') ?_
      rintro x sg2 ow2 ⟨rfl, hg2, -⟩
      have k4 := hg2.get j4
      generalize allM isBo ts boolT = rr at *
      obtain ⟨t, er⟩ := rr
      simp only [wA, seval, reduceCtorEq, reduceIte, f0, f3, f4, f6, k4, get_set k4, xR_ct]
      exact ⟨by rw [hfc]; exact hg2.get hc, hfin _ _ (hFr.trans (Fr.of hg2))⟩
    have hM : opM fs ns e.op e.val e.name ts w1 = (allM isSc ts fieldT, w1) := by unfold opM; simp [o8, o1, o3, o4, o2, o5, o6, o7, o20, o14, o15, o16, o17, o10, o18, o19]
    rw [hM]
    simp only [wA, seval, reduceCtorEq, reduceIte, f0, f3, f4, f6, j3, j4, xR_ct, app_get m3, app_get m4, app_set m4, app_get mc, get_set j4, hc, o8, o1, o3, o4, o2, o5, o6, o7, o20, o14, o15, o16, o17, o10, o18, o19, ok186]
    refine CallE.mono (ok190 htl sy191 hs fieldT ow') ?_
    rintro x sg2 ow2 ⟨rfl, hg2, -⟩
    have k4 := hg2.get j4
    generalize allM isSc ts fieldT = rr at *
    obtain ⟨t, er⟩ := rr
    simp only [wA, seval, reduceCtorEq, reduceIte, f0, f3, f4, f6, k4, get_set k4, xR_ct]
    exact ⟨by rw [hfc]; exact hg2.get hc, hfin _ _ (hFr.trans (Fr.of hg2))⟩
  · intro h0 fr' sg' ow' hg hc f4 f5
    rw [if_pos (by simpa using h0)]
    generalize exsM fs ns e.args w = q at *
    obtain ⟨⟨ts, er⟩, w1⟩ := q
    have j4 := hg.get i4 (by omega) (by omega)
    simp only [wA, seval, reduceCtorEq, reduceIte, f4, f5, j4, xR_ct]
    exact ⟨rfl, hc, Fr2.fr (Fr.of (.app _ _)) hg (by omega)⟩
end Go.Proofs.YtdjcnfacjfnakaaGreat

/- Contracts: names come and go. -/
set_option maxRecDepth 10000
set_option linter.unusedVariables false
set_option linter.unusedSimpArgs false
namespace Go.Proofs.YtdjcnfacjfnakaaGreat
open Go.Pi Go.Lx Go.Ky Go.Lib
variable {gl : Nat → Option (List T)}

theorem ok104 {sg : Sg} {c f n : Nat} {fs : Fs} {ns : Ns} {od : PV} {w : Int} (hk : Cs sg c f n fs ns od w) (nm : Nm) (s : Sy) (hn : ns.length < B47 / 32) (ow : Ow) :
    CallE F gl 104 [.lp c 0, .t (.str nm), .t (.agg (tSy s))] sg ow fun v sg' ow' => Post c f n fs od sg (decM nm s ns w) v sg' := by
  refine XcE.of F104 rfl ?_
  simp only [ir104]
  have hcl := lt_of_get hk.ck.c
  have hnl := lt_of_get hk.ck.n
  have hc := hk.ck.c
  have hnn := hk.ck.n
  have hnc := hk.ck.nc
  have hrm : room (ns.length + 1) 16 = true := by
    have : B47 = 140737488355328 := rfl
    unfold room; simp only [decide_eq_true_eq]; omega
  have hrm0 : room 1 16 = true := by decide
  have h1 : ∀ x r, (sg.set n x ++ r)[c]? = sg[c]? := fun x r => by rw [List.getElem?_append_left (by simpa using hcl), List.getElem?_set_ne hnc]
  have h2 : ∀ x r y, (sg.set n x ++ r).set c y = (sg.set n x).set c y ++ r := fun x r y => List.set_append_left _ _ (by simpa using hcl)
  have hb : bslV 1 1 [T.str []] [(0, 1, .t (.str nm))] = some (.lit [[.str nm]]) := rfl
  unfold decM Post
  cases hl : Ky.look nm ns with
  | some x =>
    simp only [wA, seval, reduceCtorEq, reduceIte, app_get hcl, app_get hnl, hc, hnn, mlkP, mfind_ents, hl, Option.getD_some, Option.isSome_some]
    simp
  | none =>
    have hod := hk.od.2
    rcases hod with ⟨rfl, rfl⟩ | ⟨oid, cs, rfl, o1, o2, o3, o4, o5⟩
    · have hmn := mset_new (fun x => .agg (tSy x)) nm s [] hl
      simp only [wA, seval, reduceCtorEq, reduceIte, app_get hcl, app_get hnl, hc, hnn, mlkP, mfind_ents, hl, Option.getD_none, Option.isSome_none, mupP, app_set hnl, hmn, hrm0, appendB, elemsS, elems, hb, h1, h2]
      intro _
      refine ⟨_, Cs.dec (o := sg.length + 2) (nm := nm) (s := s) (cs := [.t (.str nm)]) hk hl (by simp) ?_ ?_ ?_ rfl (by simp) ?_⟩
      · rw [gsc (by simpa using hcl)]
        simp
      · rw [List.getElem?_append_left (by simpa using hnl), List.getElem?_set_ne hnc.symm, List.getElem?_set_self hnl]; rfl
      · rw [List.getElem?_append_right (by simp)]; simp
      · intro i hi hic hin hib
        rw [List.getElem?_append_left (by simpa using hi), List.getElem?_set_ne (fun e => hic e.symm), List.getElem?_set_ne (fun e => hin e.symm)]
    · have hmn := mset_new (fun x => .agg (tSy x)) nm s ns hl
      have hol := lt_of_get o2
      have hno : n ≠ oid := fun e => by rw [← e, hnn] at o2; simp at o2
      have h3 : ∀ x r, (sg.set n x ++ r)[oid]? = sg[oid]? := fun x r => by rw [List.getElem?_append_left (by simpa using hol), List.getElem?_set_ne hno]
      have h4 : ∀ x r y, (sg.set n x ++ r).set oid y = (sg.set n x).set oid y ++ r := fun x r y => List.set_append_left _ _ (by simpa using hol)
      have h5 : ∀ x y r, ((sg.set n x).set oid y ++ r)[c]? = sg[c]? := fun x y r => by rw [List.getElem?_append_left (by simpa using hcl), List.getElem?_set_ne o1, List.getElem?_set_ne hnc]
      have h6 : ∀ x y r z, ((sg.set n x).set oid y ++ r).set c z = ((sg.set n x).set oid y).set c z ++ r := fun x y r z => List.set_append_left _ _ (by simpa using hcl)
      simp only [wA, seval, reduceCtorEq, reduceIte, app_get hcl, app_get hnl, hc, hnn, mlkP, mfind_ents, hl, Option.getD_none, Option.isSome_none, mupP, app_set hnl, hmn, hrm, appendB, elemsS, elems, hb, h1, h3, h4, h5, h6, o2, o3, o4, Nat.mul_one]
      intro _
      refine ⟨_, Cs.dec (o := sg.length + 2) (nm := nm) (s := s) (cs := cs.take ns.length ++ [.t (.str nm)]) hk hl (by simp) ?_ ?_ ?_ (by rw [cs_take o4 o5]) (by simp) ?_⟩
      · rw [gsc (by simpa using hcl)]
        simp
      · rw [List.getElem?_append_left (by simpa using hnl), List.getElem?_set_ne hnc.symm, List.getElem?_set_ne (fun e => hno e.symm), List.getElem?_set_self hnl]
      · rw [List.getElem?_append_right (by simp)]; simp
      · intro i hi hic hin hib
        rw [List.getElem?_append_left (by simpa using hi), List.getElem?_set_ne (fun e => hic e.symm), List.getElem?_set_ne (fun e => hib ⟨ns.length, by rw [e]⟩), List.getElem?_set_ne (fun e => hin e.symm)]
theorem ok105 {sg : Sg} {c f n : Nat} {fs : Fs} {ns : Ns} {od : PV} {w : Int} (hk : Ck sg c f n fs ns od w) (t : Ty) (ow : Ow) :
    CallE F gl 105 [.lp c 0, .t (.agg (tTy t))] sg ow fun v sg' ow' => sg'[c]? = some (false, [.mp f, .mp n, od, .t (.int .i64 (noteM t w))]) ∧ Fr c sg sg' := by
  refine XcE.of F105 rfl ?_
  simp only [ir105]
  have hcl := lt_of_get hk.c
  have hc := hk.c
  unfold noteM mx
  simp only [wA, seval, reduceCtorEq, reduceIte, app_get hcl, app_set hcl, hc, mxT]
  repeat' ((with_reducible first | refine xG_dec ?_ ?_ | refine xG_ndec ?_ ?_ | refine xG_nsplit ?_ ?_ | refine xG_split ?_ ?_ | refine xC_dec ?_ ?_ | refine xC_ndec ?_ ?_ | refine xC_nsplit ?_ ?_ | refine xC_split ?_ ?_) <;> intro h <;> (try simp only [wA, seval, reduceCtorEq, reduceIte, app_get hcl, app_set hcl, hc, mxT, h]))
  · exact ⟨gsc hcl, Fr.setapp _ _ _ _⟩
  · exact Fr.of (.app _ _)
theorem loop152 {sg0 : Sg} {c f n : Nat} {fs : Fs} {ns : Ns} {od : PV} {w : Int} (hk : Cs sg0 c f n fs ns od w) (hn : ns.length ≤ B47) {m : Nat} (hm : m ≤ ns.length) {v : PV} {ow : Ow}
    (hv : (ns = [] ∧ v = .t (.sl true [])) ∨ ∃ oid cs, od = .bf oid ns.length 1 ∧ oid ≠ n ∧ sg0[oid]? = some (false, cs) ∧ ns.length ≤ cs.length ∧ (∀ (i : Nat) (p : Nm × Sy), ns[i]? = some p → cs[i]? = some (PV.t (T.str p.1))) ∧ ((m = 0 ∧ v = .bf oid ns.length 1) ∨ v = .ls oid m (ns.length - m) 1)) (Q : Ex → S → Prop) : ∀ (r : Ns) (i : Nat) (fr : List PV) (sg : Sg), ns.drop (m + i) = r → m + i ≤ ns.length → sg0.length = sg.length → (∀ j, j ≠ n → sg[j]? = sg0[j]?) → sg[n]? = some (true, ents (fun x => .agg (tSy x)) (ns.take m ++ r)) →
    FrAt fr [(0, .lp c 0), (1, .t (.int .i64 m)), (11, v), (12, .t (.int .i64 ((ns.length - m : Nat) : Int))), (13, .t (.int .i64 i))] →
    (∀ fr' sg', sg0.length = sg'.length → (∀ j, j ≠ n → sg'[j]? = sg0[j]?) → sg'[n]? = some (true, ents (fun x => .agg (tSy x)) (ns.take m)) → FrAt fr' [(0, .lp c 0), (1, .t (.int .i64 m))] → Q (.exit 0) ⟨fr', sg', ow⟩) →
    Xl F gl lb152_0 ⟨fr, sg, ow⟩ Q ⟨⟩ := by
  intro r
  induction r with
  | nil =>
    intro i fr sg hd hil hlen hg hn' hf k1
    have hd := drop_nil' hd
    simp only [FrAt_cons, FrAt_nil] at hf
    obtain ⟨f0, f1, f11, f12, f13, -⟩ := hf
    refine Xl.step ?_
    simp only [lb152_0]
    have c1 : ¬ ((i : Int) < ((ns.length - m : Nat) : Int)) := by omega
    simp only [wA, seval, reduceCtorEq, reduceIte, f0, f1, f11, f12, f13, c1]
    refine k1 _ _ hlen hg (by simpa using hn') (by simp only [FrAt_cons, FrAt_nil, wFr, Nat.reduceEqDiff, Nat.one_ne_zero, Nat.zero_ne_one, reduceIte, and_self, and_true, true_and, f0, f1])
  | cons x r ih =>
    intro i fr sg hd hil hlen hg hn' hf k1
    obtain ⟨hx, hr, hi⟩ := drop_cons hd
    simp only [FrAt_cons, FrAt_nil] at hf
    obtain ⟨f0, f1, f11, f12, f13, -⟩ := hf
    rcases hv with ⟨rfl, _⟩ | ⟨oid, cs, h1, h2, h3, h4, h5, hv⟩
    · simp at hx
    have c1 : (i : Int) < ((ns.length - m : Nat) : Int) := by omega
    have c2 : i < ns.length - m := by omega
    have hw1 := i64_succ c2 (show ns.length - m ≤ 281474976710656 by have : B47 = 140737488355328 := rfl; omega)
    have g3 := (hg oid h2).trans h3
    have gc := (hg c hk.ck.nc.symm).trans hk.ck.c
    have hcs := h5 _ _ hx
    have hnl := lt_of_get hn'
    have hle : m + i + 1 ≤ cs.length := by omega
    have hdr : (cs.drop (m + i)).take 1 = [.t (.str x.1)] := by
      rw [List.take_one, List.head?_drop, hcs]; rfl
    have hnd := hk.od.1
    have hlk : Ky.look x.1 (ns.take m) = none := nd_look hnd hx (by omega)
    have hmd := mdel_last (fun y => T.agg (tSy y)) x.1 x.2 (ns.take m) r hlk
    refine Xl.step ?_
    simp only [lb152_0]
    rcases hv with ⟨rfl, rfl⟩ | rfl
    · rw [Nat.zero_add] at hcs hdr hle
      have c3 : i < ns.length := by omega
      have hmd2 : mdel 2 (T.str x.1) (ents (fun y => T.agg (tSy y)) (x :: r)) = ents (fun y => .agg (tSy y)) r := mdel_last (fun y => T.agg (tSy y)) x.1 x.2 [] r rfl
      simp only [wA, seval, reduceCtorEq, reduceIte, c3, f0, f1, f11, f12, f13, c1, c2, hw1, Int.toNat_natCast, g3, gc, hle, hdr, hcs, hn', mdlP, mfind_ents, hmd, Nat.mul_one]
      rw [hmd2]
      refine ih (i + 1) _ _ hr (by omega) (by simp; omega) ?_ (by rw [List.getElem?_set_self hnl]; rfl) (by simp only [FrAt_cons, FrAt_nil, wFr, Nat.reduceEqDiff, Nat.one_ne_zero, Nat.zero_ne_one, reduceIte, and_self, and_true, true_and, f0, f1, f11, f12]) k1
      intro j hj
      rw [List.getElem?_set_ne (fun e => hj e.symm)]
      exact hg j hj
    · simp only [wA, seval, reduceCtorEq, reduceIte, f0, f1, f11, f12, f13, c1, c2, hw1, Int.toNat_natCast, g3, gc, hle, hdr, hcs, hn', mdlP, mfind_ents, hmd, Nat.mul_one]
      refine ih (i + 1) _ _ hr (by omega) (by simp; omega) ?_ (List.getElem?_set_self hnl) (by simp only [FrAt_cons, FrAt_nil, wFr, Nat.reduceEqDiff, Nat.one_ne_zero, Nat.zero_ne_one, reduceIte, and_self, and_true, true_and, f0, f1, f11, f12]) k1
      intro j hj
      rw [List.getElem?_set_ne (fun e => hj e.symm)]
      exact hg j hj
theorem ok152 {sg : Sg} {c f n : Nat} {fs : Fs} {ns : Ns} {od : PV} {w : Int} (hk : Cs sg c f n fs ns od w) (hn : ns.length ≤ B47) {m : Nat} (hm : m ≤ ns.length) (ow : Ow) :
    CallE F gl 152 [.lp c 0, .t (.int .i64 m)] sg ow fun v sg' ow' => ∃ od', Cs sg' c f n fs (ns.take m) od' w ∧ Fq c n od od' sg sg' := by
  refine XcE.of F152 rfl ?_
  simp only [ir152]
  have hcl := lt_of_get hk.ck.c
  have hc := hk.ck.c
  have hnl := lt_of_get hk.ck.n
  have hod := hk.od.2
  rcases hod with ⟨rfl, rfl⟩ | ⟨oid, cs, rfl, o1, o2, o3, o4, o5⟩
  · have hm0 : m = 0 := by simpa using hm
    subst hm0
    simp only [wA, seval, reduceCtorEq, reduceIte, hc, sliceP, szOk, Int.toNat_natCast]
    refine loop152 hk hn (Nat.le_refl _) (.inl ⟨rfl, rfl⟩) _ [] 0 _ _ rfl (by simp) rfl (fun _ _ => rfl) hk.ck.n (by simp only [FrAt_cons, FrAt_nil, wFr, Nat.reduceEqDiff, Nat.one_ne_zero, Nat.zero_ne_one, reduceIte, and_self, and_true, true_and]; first | done | exact ⟨rfl, rfl⟩ | rfl) ?_
    intro fr' sg' hlen hg hn' hf
    simp only [FrAt_cons, FrAt_nil] at hf
    obtain ⟨f0, f1, -⟩ := hf
    have gc := (hg c hk.ck.nc.symm).trans hk.ck.c
    simp only [wA, seval, reduceCtorEq, reduceIte, f0, f1, gc, sliceP, szOk, Int.toNat_natCast, set_same gc]
    exact ⟨_, hk.cut0 hlen hg hn'⟩
  · have hno : oid ≠ n := fun e => by rw [e, hk.ck.n] at o2; simp at o2
    have hm2 : (m : Int) ≤ (ns.length : Int) := by omega
    have hm3 : (0 : Int) ≤ (m : Int) := by omega
    simp only [wA, seval, reduceCtorEq, reduceIte, hc, sliceP, Int.toNat_natCast, hm, hm2, hm3]
    obtain ⟨v, hv1, hv2, hv3⟩ : ∃ v, (if m = 0 then some (PV.bf oid (List.length ns) 1) else some (PV.ls oid (m * 1) (List.length ns - m) 1)) = some v ∧ ((m = 0 ∧ v = .bf oid ns.length 1) ∨ v = .ls oid m (ns.length - m) 1) ∧ lenP false v = some (ns.length - m) := by
      by_cases h0 : m = 0
      · subst h0
        exact ⟨_, if_pos rfl, .inl ⟨rfl, rfl⟩, rfl⟩
      · exact ⟨_, if_neg h0, .inr (by rw [Nat.mul_one]), rfl⟩
    rw [hv1]
    rcases hv2 with ⟨rfl, rfl⟩ | rfl
    · (simp only [wA, seval, reduceCtorEq, reduceIte, Nat.sub_zero])
      refine loop152 hk hn (Nat.zero_le _) (.inr ⟨oid, cs, rfl, hno, o2, o4, o5, .inl ⟨rfl, rfl⟩⟩) _ ns 0 _ _ rfl hm rfl (fun _ _ => rfl) hk.ck.n (by simp only [FrAt_cons, FrAt_nil, wFr, Nat.reduceEqDiff, Nat.one_ne_zero, Nat.zero_ne_one, reduceIte, and_self, and_true, true_and, Nat.sub_zero]; first | done | exact ⟨rfl, rfl⟩ | rfl) ?_
      intro fr' sg' hlen hg hn' hf
      simp only [FrAt_cons, FrAt_nil] at hf
      obtain ⟨f0, f1, -⟩ := hf
      have gc := (hg c hk.ck.nc.symm).trans hk.ck.c
      simp only [wA, seval, reduceCtorEq, reduceIte, f0, f1, gc, sliceP, Int.toNat_natCast, hm, hm2, hm3]
      have gl := lt_of_get gc
      refine ⟨_, hk.cut hm o1 o2 o3 o4 o5 (by simpa using hlen) (fun j hj hjc => by rw [List.getElem?_set_ne (fun e => hjc e.symm)]; exact hg j hj) (by rw [List.getElem?_set_ne hk.ck.nc.symm]; exact hn') (List.getElem?_set_self gl)⟩
    · have hm4 : 0 ≤ m := Nat.zero_le m
      (simp only [wA, seval, reduceCtorEq, reduceIte, Nat.sub_zero])
      refine loop152 hk hn hm (.inr ⟨oid, cs, rfl, hno, o2, o4, o5, .inr rfl⟩) _ (ns.drop m) 0 _ _ rfl hm rfl (fun _ _ => rfl) (by rw [List.take_append_drop]; exact hk.ck.n) (by simp only [FrAt_cons, FrAt_nil, wFr, Nat.reduceEqDiff, Nat.one_ne_zero, Nat.zero_ne_one, reduceIte, and_self, and_true, true_and]; first | done | rfl) ?_
      intro fr' sg' hlen hg hn' hf
      simp only [FrAt_cons, FrAt_nil] at hf
      obtain ⟨f0, f1, -⟩ := hf
      have gc := (hg c hk.ck.nc.symm).trans hk.ck.c
      simp only [wA, seval, reduceCtorEq, reduceIte, f0, f1, gc, sliceP, Int.toNat_natCast, hm, hm2, hm3, hm4]
      have gl := lt_of_get gc
      refine ⟨_, hk.cut hm o1 o2 o3 o4 o5 (by simpa using hlen) (fun j hj hjc => by rw [List.getElem?_set_ne (fun e => hjc e.symm)]; exact hg j hj) (by rw [List.getElem?_set_ne hk.ck.nc.symm]; exact hn') (List.getElem?_set_self gl)⟩
end Go.Proofs.YtdjcnfacjfnakaaGreat
