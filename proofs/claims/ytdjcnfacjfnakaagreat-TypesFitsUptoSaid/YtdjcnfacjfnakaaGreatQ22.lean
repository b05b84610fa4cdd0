/- The laws of bits, inputs and primes. -/
import Derived.Test.YtdjcnfacjfnakaaGreatQ20
import Derived.Test.YtdjcnfacjfnakaaGreatK20
import Derived.Test.YtdjcnfacjfnakaaGreatKx27
import Derived.Test.YtdjcnfacjfnakaaGreatKx27
import Derived.Test.YtdjcnfacjfnakaaGreatPi31
set_option maxRecDepth 10000
set_option linter.unusedVariables false
set_option linter.unusedSimpArgs false
namespace Go.Proofs.YtdjcnfacjfnakaaGreat
open Go.Pi Go.Lx Go.Ky Go.Lib
variable {gl : Nat → Option (List T)}

theorem PgB.q {p : Pg} (h : PgB p) : PgQ p := ⟨h.ok, h.fl, h.dl, h.fs, h.bs⟩
theorem PgB.g {p : Pg} (h : PgB p) : PG p := ⟨h.ok, fun f hf => (h.fs f hf).2, h.bs⟩
theorem exam_err {p : Pg} (h : (examP p).2.2 ≠ 0) : (examP p).1 = 0 ∧ inpP p = (0, 0) := by
  refine ⟨?_, by unfold inpP; rw [if_pos h]⟩
  revert h
  unfold examP
  split
  · intro _; rfl
  · simp only
    split
    · intro _; rfl
    · split
      · intro _; rfl
      · intro h; exact absurd rfl h
def rowM (n : Int) : Int × Int × Int := if n = 17 then (3, 4, 3) else if n = 97 then (5, 5, 5) else if n = 193 then (5, 6, 5) else if n = 257 then (3, 8, 3) else if n = 12289 then (11, 12, 5) else if n = 65537 then (3, 16, 3) else if n = 18446744069414584321 then (7, 32, 7) else (0, 0, 0)
theorem ok60 (n : Int) {K : PV → Prop} : XcP F gl 60 [.int .u64 n] K ⟨⟩ ↔ K (.t (.agg [.int .u64 (rowM n).1, .int .u64 (rowM n).2.1, .int .u64 (rowM n).2.2])) := by
  refine Ret.iff (Ret.of F60 rfl ?_)
  simp only [ir60]
  by_cases h1 : n = 17
  · subst h1; (simp only [wA, seval, reduceCtorEq, reduceIte]); try rfl
  by_cases h2 : n = 97
  · subst h2; (simp only [wA, seval, reduceCtorEq, reduceIte]); try rfl
  by_cases h3 : n = 193
  · subst h3; (simp only [wA, seval, reduceCtorEq, reduceIte]); try rfl
  by_cases h4 : n = 257
  · subst h4; (simp only [wA, seval, reduceCtorEq, reduceIte]); try rfl
  by_cases h5 : n = 12289
  · subst h5; (simp only [wA, seval, reduceCtorEq, reduceIte]); try rfl
  by_cases h6 : n = 65537
  · subst h6; (simp only [wA, seval, reduceCtorEq, reduceIte]); try rfl
  by_cases h7 : n = 18446744069414584321
  · subst h7; (simp only [wA, seval, reduceCtorEq, reduceIte]); try rfl
  have : rowM n = (0, 0, 0) := by unfold rowM; simp only [h1, h2, h3, h4, h5, h6, h7, if_false]
  rw [this]
  simp only [wA, seval, reduceCtorEq, reduceIte, h1, h2, h3, h4, h5, h6, h7]
theorem row_field (n : Int) : decide ((rowM n).1 > 0) = fieldB n := by
  unfold rowM fieldB
  by_cases h1 : n = 17
  · subst h1; rfl
  by_cases h2 : n = 97
  · subst h2; rfl
  by_cases h3 : n = 193
  · subst h3; rfl
  by_cases h4 : n = 257
  · subst h4; rfl
  by_cases h5 : n = 12289
  · subst h5; rfl
  by_cases h6 : n = 65537
  · subst h6; rfl
  by_cases h7 : n = 18446744069414584321
  · subst h7; rfl
  simp [h1, h2, h3, h4, h5, h6, h7]
theorem ok48 (n : Int) {K : PV → Prop} : XcP F gl 48 [.int .u64 n] K ⟨⟩ ↔ K (.t (.bool (fieldB n))) := by
  refine Ret.iff (Ret.of F48 rfl ?_)
  simp only [ir48]
  have hr := row_field n
  simp only [wA, seval, reduceCtorEq, reduceIte, ok60, hr]
def shV (b : Int) : Int := IntKind.u64.wrap (1 * 2 ^ min b.toNat IntKind.u64.bits)
def fitV (p : Pg) (n : Int) : Bool := decide ((examP p).2.2 = 0) && (fieldB n && decide (n > shV (examP p).1))
theorem fit114 {p : Pg} (hp : PgB p) (n : Int) {K : PV → Prop} : XcP F gl 14 [.agg (tPg p), .int .u64 n] K ⟨⟩ ↔ K (.t (.bool (fitV p n))) := by
  refine Ret.iff (Ret.of F14 rfl ?_)
  simp only [ir14]
  have he2 := fun K => @ok37 gl p hp K
  have hfv := fun K => @ok47 gl n K
  obtain ⟨s1, s2, s3⟩ := exam_sim hp.g
  unfold fitV
  by_cases he : (examP p).2.2 = 0
  · have he' : ((examP p).2.2 = 0) = True := eq_true he
    obtain ⟨t1, t2, t3, t4⟩ := s2 (s1.1 he)
    have hn : ¬ ((examP p).1 < 0) := by omega
    cases hb : fieldB n with
    | false =>
      simp only [wA, seval, reduceCtorEq, reduceIte, he2, hfv, hb, he']
      all_goals simp
    | true =>
      simp only [wA, seval, reduceCtorEq, reduceIte, he2, hfv, hb, he', hn]
      all_goals simp [shV]
  · have he' : ((examP p).2.2 = 0) = False := eq_false he
    simp only [wA, seval, reduceCtorEq, reduceIte, he2, hfv, he']
    all_goals simp
theorem fit215 {p : Pg} (hp : PgB p) (n : Int) {K : PV → Prop} : XcP F gl 15 [.agg (tPg p), .int .u64 n] K ⟨⟩ ↔ K (.t (.bool (fitV p n))) := by
  refine Ret.iff (Ret.of F15 rfl ?_)
  simp only [ir15]
  have he2 := fun K => @ok12 gl p hp.q K
  have hfv := fun K => @ok48 gl n K
  obtain ⟨s1, s2, s3⟩ := exam_sim hp.g
  unfold fitV
  by_cases he : (exmR p).err = 0
  · have he' : ((exmR p).err = 0) = True := eq_true he
    obtain ⟨t1, t2, t3, t4⟩ := s2 he
    have hn : ¬ ((exmR p).bits < 0) := by omega
    have hw : IntKind.wrap .u64 (exmR p).bits = (exmR p).bits := by rw [u64_mod]; omega
    rw [t1, decide_eq_true (s1.2 he)]
    cases hb : fieldB n with
    | false =>
      simp only [wA, seval, reduceCtorEq, reduceIte, he2, hfv, hb, he']
      all_goals simp
    | true =>
      simp only [wA, seval, reduceCtorEq, reduceIte, he2, hfv, hb, he', hw, hn]
      all_goals simp [shV]
  · have he' : ((exmR p).err = 0) = False := eq_false he
    rw [decide_eq_false (fun h => he (s1.1 h))]
    simp only [wA, seval, reduceCtorEq, reduceIte, he2, hfv, he']
    all_goals simp
def knownL : List Int := [17, 97, 193, 257, 12289, 65537, 18446744069414584321]
theorem ok16 {K : PV → Prop} : XcP F gl 16 [] K ⟨⟩ ↔ K (.t (.sl false (knownL.map fun x => [T.int .u64 x]))) := by
  refine Ret.iff (Ret.of F16 rfl ?_)
  simp only [ir16]
  simp only [wA, seval, reduceCtorEq, reduceIte, bslV, chunks, cell1, T.isAgg, List.replicate, List.flatten_cons, List.flatten_nil, List.append_nil]
  try rfl
theorem law3 {p : Pg} (hp : PgB p) : Ret F gl 3 [.agg (tPg p)] (.t (.bool true)) := by
  refine Ret.of F3 rfl ?_
  simp only [ir3]
  have hsm := fun K => @ok10 gl p hp K
  cases hs : smallB p with
  | false =>
    simp only [wA, seval, reduceCtorEq, reduceIte, ok9, hsm, hs]
  | true =>
    have hbi := fun K => @ok11 gl p hp K
    have hex := fun K => @ok12 gl p hp.q K
    obtain ⟨s1, s2, s3⟩ := exam_sim hp.g
    have heq : (examP p).1 = (exmR p).bits := by
      by_cases he : (exmR p).err = 0
      · exact (s2 he).1
      · rw [(s3 he).1, (exam_err (fun h => he (s1.1 h))).1]
    have heq' : ((examP p).1 = (exmR p).bits) = True := eq_true heq
    simp only [wA, seval, reduceCtorEq, reduceIte, ok9, hsm, hs, hbi, hex, heq']
theorem law4 {p : Pg} (hp : PgB p) : Ret F gl 4 [.agg (tPg p)] (.t (.bool true)) := by
  refine Ret.of F4 rfl ?_
  simp only [ir4]
  have hsm := fun K => @ok10 gl p hp K
  cases hs : smallB p with
  | false =>
    simp only [wA, seval, reduceCtorEq, reduceIte, ok9, hsm, hs]
  | true =>
    have hin := fun K => @ok13 gl p hp K
    have hex := fun K => @ok12 gl p hp.q K
    obtain ⟨s1, s2, s3⟩ := exam_sim hp.g
    have heq : inpP p = ((exmR p).pub, (exmR p).sec) := by
      by_cases he : (exmR p).err = 0
      · unfold inpP
        rw [if_neg (fun h => h (s1.2 he))]
        exact (s2 he).2.2.2
      · rw [(exam_err (fun h => he (s1.1 h))).2, (s3 he).2.1, (s3 he).2.2]
    have h1 : ((inpP p).1 = (exmR p).pub) = True := eq_true (by rw [heq])
    have h2 : ((inpP p).2 = (exmR p).sec) = True := eq_true (by rw [heq])
    simp only [wA, seval, reduceCtorEq, reduceIte, ok9, hsm, hs, hin, hex, h1, h2]
theorem loop5 {p : Pg} (hp : PgB p) {sg : Sg} (h0 : sg[0]? = some (false, pgC p)) {ow : Ow} (Q : Ex → S → Prop) : ∀ (l : List Int) (i : Nat) (fr : List PV), knownL.drop i = l →
    FrAt fr [(2, .lp 0 0), (22, .t (.sl false (knownL.map fun x => [T.int .u64 x]))), (23, .t (.int .i64 7)), (24, .t (.int .i64 i))] → (∀ fr', Q (.exit 0) ⟨fr', sg, ow⟩) → Xl F gl lb5_0 ⟨fr, sg, ow⟩ Q ⟨⟩ := by
  intro l
  have h7 : knownL.length = 7 := rfl
  induction l with
  | nil =>
    intro i fr hd hf k1
    have hd := drop_nil' hd
    simp only [FrAt_cons, FrAt_nil] at hf
    obtain ⟨f2, f22, f23, f24, -⟩ := hf
    refine Xl.step ?_
    simp only [lb5_0]
    have c1 : ¬ ((i : Int) < 7) := by omega
    simp only [wA, seval, reduceCtorEq, reduceIte, f2, f22, f23, f24, c1]
    exact k1 _
  | cons x l ih =>
    intro i fr hd hf k1
    obtain ⟨hx, hr, hi⟩ := drop_cons hd
    simp only [FrAt_cons, FrAt_nil] at hf
    obtain ⟨f2, f22, f23, f24, -⟩ := hf
    refine Xl.step ?_
    simp only [lb5_0]
    have c1 : (i : Int) < 7 := by omega
    have hw1 := i64_succ hi (show knownL.length ≤ 281474976710656 by omega)
    have hf1 := fun n K => @fit114 gl p hp n K
    have hf2 := fun n K => @fit215 gl p hp n K
    simp only [wA, seval, reduceCtorEq, reduceIte, f2, f22, f23, f24, c1, hw1, h0, List.length_map, Int.toNat_natCast, hi, List.getElem?_map, hx, Option.map_some, hf1, hf2, beq_self_eq_true]
    refine ih (i + 1) _ hr ?_ k1
    simp only [FrAt_cons, FrAt_nil, wFr, Nat.reduceEqDiff, Nat.one_ne_zero, Nat.zero_ne_one, reduceIte, and_self, and_true, true_and, f2, f22, f23]
theorem law5 {p : Pg} (hp : PgB p) (n : Int) : Ret F gl 5 [.agg (tPg p), .int .u64 n] (.t (.bool true)) := by
  refine Ret.of F5 rfl ?_
  simp only [ir5]
  have hsm := fun K => @ok10 gl p hp K
  cases hs : smallB p with
  | false =>
    simp only [wA, seval, reduceCtorEq, reduceIte, ok9, hsm, hs]
  | true =>
    have hf1 := fun n K => @fit114 gl p hp n K
    have hf2 := fun n K => @fit215 gl p hp n K
    have h7 : (knownL.length : Int) = 7 := rfl
    simp only [wA, seval, reduceCtorEq, reduceIte, ok9, hsm, hs, hf1, hf2, beq_self_eq_true, ok16, List.length_map, h7]
    refine loop5 hp rfl _ knownL 0 _ rfl (by simp only [FrAt_cons, FrAt_nil, wFr, Nat.reduceEqDiff, Nat.one_ne_zero, Nat.zero_ne_one, reduceIte, and_self, and_true, true_and]; first | done | exact ⟨rfl, rfl⟩ | rfl) fun fr' => ?_
    simp only [wA, seval, reduceCtorEq, reduceIte]
end Go.Proofs.YtdjcnfacjfnakaaGreat

/- The laws of bits, inputs and primes, argument by argument. -/
set_option maxRecDepth 10000
set_option linter.unusedVariables false
set_option linter.unusedSimpArgs false
namespace Go.Proofs.YtdjcnfacjfnakaaGreat
open Go.Pi Go.Lx Go.Ky Go.Lib
variable {gl : Nat → Option (List T)}

theorem arg_pg {x : T} (h : ArgT (envPg 44 49) 1048576 (true, ctPg 44 49) x) (hs : tBk x ≤ 1048576) : ∃ p, x = .agg (tPg p) ∧ PgB p := by
  obtain ⟨xs, rfl, hw⟩ := argT_agg h
  clear h
  have h := hw
  clear hw
  obtain ⟨a, r, rfl, ha, h⟩ := wts_cons h
  obtain ⟨b, r, rfl, hb, h⟩ := wts_cons h
  obtain ⟨c, r, rfl, hc, h⟩ := wts_cons h
  obtain rfl := wts_nil h
  obtain ⟨p, rfl, rfl, rfl, hp⟩ := pg_rep (by decide) envPg_x (envPg_s (by decide)) ha hb hc
  have hz := pg_sizes (p := p) (M := 1048576) hs
  have hb : B20 = 1100000 := rfl
  refine ⟨p, rfl, hp, by omega, by omega, fun f hf => ?_, by omega⟩
  have := hz.2.2.1 f hf
  omega
theorem args3 : ∀ xs, ArgsT (envPg 44 49) 1048576 [(true, ctPg 44 49)] xs → tBks xs ≤ 1048576 → ∃ n sg ow, pcall F gl n 3 (xs.map .t) [] [] = some (.t (.bool true), sg, ow) := by
  intro xs h hs
  obtain ⟨x, r, rfl, hx, h⟩ := argsT_cons h
  obtain rfl := argsT_nil h
  obtain ⟨p, rfl, hp⟩ := arg_pg hx (by simpa [tBks] using hs)
  exact CallP.law (law3 hp)
theorem args4 : ∀ xs, ArgsT (envPg 44 49) 1048576 [(true, ctPg 44 49)] xs → tBks xs ≤ 1048576 → ∃ n sg ow, pcall F gl n 4 (xs.map .t) [] [] = some (.t (.bool true), sg, ow) := by
  intro xs h hs
  obtain ⟨x, r, rfl, hx, h⟩ := argsT_cons h
  obtain rfl := argsT_nil h
  obtain ⟨p, rfl, hp⟩ := arg_pg hx (by simpa [tBks] using hs)
  exact CallP.law (law4 hp)
theorem args5 : ∀ xs, ArgsT (envPg 44 49) 1048576 [(true, ctPg 44 49), (false, [.int .u64])] xs → tBks xs ≤ 1048576 → ∃ n sg ow, pcall F gl n 5 (xs.map .t) [] [] = some (.t (.bool true), sg, ow) := by
  intro xs h hs
  obtain ⟨x, r, rfl, hx, h⟩ := argsT_cons h
  obtain ⟨y, r, rfl, hy, h⟩ := argsT_cons h
  obtain rfl := argsT_nil h
  obtain ⟨p, rfl, hp⟩ := arg_pg hx (by simp only [tBks] at hs; omega)
  obtain ⟨a, rfl, a1, a2⟩ := wt_u64 (argT_one hy)
  exact CallP.law (law5 hp a)
end Go.Proofs.YtdjcnfacjfnakaaGreat
