/- Contracts: what the laws call. -/
import Derived.Test.YtdjcnfacjfnakaaGreatK17
import Derived.Test.YtdjcnfacjfnakaaGreatKx27
import Derived.Test.YtdjcnfacjfnakaaGreatKx27
import Derived.KernelRfl
set_option maxRecDepth 10000
set_option linter.unusedVariables false
set_option linter.unusedSimpArgs false
namespace Go.Proofs.YtdjcnfacjfnakaaGreat
open Go.Pi Go.Lx Go.Ky Go.Lib
variable {gl : Nat → Option (List T)}

/-- A program within bounds. -/
structure PgB (p : Pg) : Prop where
  ok : PgOk p
  fl : p.funcs.length ≤ B20
  dl : p.decls.length ≤ B20
  fs : ∀ f, f ∈ p.funcs → f.params.length ≤ B20 ∧ szSs f.body ≤ B20 ∧ szE f.ret ≤ B20
  bs : szSs p.body ≤ B20
theorem PgB.st {p : Pg} (h : PgB p) (hv : validP p = 0) : PgSt p := by
  have hb : (p.funcs.all fuB && p.decls.all deB && p.body.all stB) = true := by
    unfold validP at hv
    cases hc : (p.funcs.all fuB && p.decls.all deB && p.body.all stB) with
    | true => rfl
    | false => rw [hc] at hv; simp at hv
  simp only [Bool.and_eq_true] at hb
  exact ⟨h.ok, hb.1.1, hb.2, h.fl, h.dl, h.fs, h.bs⟩
theorem ok37 {p : Pg} (hp : PgB p) {K : PV → Prop} : XcP F gl 37 [.agg (tPg p)] K ⟨⟩ ↔ K (.tup [.t (.int .i64 (examP p).1), .t (.int .i64 (examP p).2.1), .t (.int .i64 (examP p).2.2)]) := by
  refine Ret.iff (Ret.of F37 rfl ?_)
  simp only [ir37]
  have hv := fun K => @ok61 gl p hp.ok ⟨fun f hf => (hp.fs f hf).2, hp.bs⟩ K
  unfold examP
  by_cases h0 : validP p = 0
  · rw [if_neg (by simpa using h0)]
    have hs := hp.st h0
    have hcs : Cs ([(false, [PV.t (.sl p.fnl (p.funcs.map fun f => tFu f)), .t (.sl p.dnl (p.decls.map fun f => tDe f)), .t (.sl p.bnl (tSts p.body))]), (true, []), (true, []), (false, [PV.mp 1, .mp 2, .t (.sl true []), .t (.int .i64 0)])] : Sg) 3 1 2 [] [] (.t (.sl true [])) 0 := ⟨⟨rfl, rfl, rfl⟩, ⟨by simp, .inl ⟨rfl, rfl⟩⟩, by decide⟩
    simp only [wA, seval, reduceCtorEq, reduceIte, hv, h0]
    refine CallE.mono (ok62 hs hcs _) ?_
    rintro v sg' ow' ⟨rfl, hp1⟩
    by_cases h1 : (progM p).1 = 0
    · obtain ⟨od', hc, hg⟩ := hp1 h1
      have hlk := progM_lk hs.fb hs.bb h1
      have hst := fun K => @ok63 gl p hs hlk.1 hlk.2 K
      have j0 := hg.get (i := 0) (v := (false, [PV.t (.sl p.fnl (p.funcs.map fun f => tFu f)), .t (.sl p.dnl (p.decls.map fun f => tDe f)), .t (.sl p.bnl (tSts p.body))])) rfl (by omega) (by omega) (by omega) (by rintro ⟨l, h⟩; cases h)
      by_cases h2 : stepsP p > 20000
      · simp only [wA, seval, reduceCtorEq, reduceIte, h1, hc, j0, hst, h2]
        all_goals simp [h1, h2]
      · simp only [wA, seval, reduceCtorEq, reduceIte, h1, hc, j0, hst, h2]
        all_goals simp [h1, h2]
    · simp only [wA, seval, reduceCtorEq, reduceIte, h1]
      all_goals simp [h1]
  · rw [if_pos (by simpa using h0)]
    simp only [wA, seval, reduceCtorEq, reduceIte, hv, h0]
theorem ok32 {p : Pg} (hp : PgB p) {K : PV → Prop} : XcP F gl 32 [.agg (tPg p)] K ⟨⟩ ↔ K (.t (.int .i64 (examP p).2.2)) := by
  refine Ret.iff (Ret.of F32 rfl ?_)
  simp only [ir32]
  have he := fun K => @ok37 gl p hp K
  simp only [wA, seval, reduceCtorEq, reduceIte, he]
theorem ok33 {p : Pg} (hp : PgB p) {K : PV → Prop} : XcP F gl 33 [.agg (tPg p)] K ⟨⟩ ↔ K (.t (.int .i64 (examP p).2.1)) := by
  refine Ret.iff (Ret.of F33 rfl ?_)
  simp only [ir33]
  have he := fun K => @ok37 gl p hp K
  simp only [wA, seval, reduceCtorEq, reduceIte, he]
theorem ok11 {p : Pg} (hp : PgB p) {K : PV → Prop} : XcP F gl 11 [.agg (tPg p)] K ⟨⟩ ↔ K (.t (.int .i64 (examP p).1)) := by
  refine Ret.iff (Ret.of F11 rfl ?_)
  simp only [ir11]
  have he := fun K => @ok37 gl p hp K
  simp only [wA, seval, reduceCtorEq, reduceIte, he]
theorem loop13 {ls : List De} {nl : Bool} (hls : ls.length ≤ B20) {ow : Ow} (Q : Ex → S → Prop) : ∀ (l : List De) (i : Nat) (a b : Int) (fr : List PV) (sg : Sg), ls.drop i = l →
    FrAt fr [(4, .t (.int .i64 a)), (5, .t (.int .i64 b)), (13, .t (.sl nl (ls.map fun f => tDe f))), (14, .t (.int .i64 ls.length)), (15, .t (.int .i64 i))] →
    (∀ fr' sg', FrAt fr' [(4, .t (.int .i64 (inGo l a b).1)), (5, .t (.int .i64 (inGo l a b).2))] → Q (.exit 0) ⟨fr', sg', ow⟩) →
    Xl F gl lb13_0 ⟨fr, sg, ow⟩ Q ⟨⟩ := by
  intro l
  induction l with
  | nil =>
    intro i a b fr sg hd hf k1
    have hd := drop_nil' hd
    simp only [FrAt_cons, FrAt_nil] at hf
    obtain ⟨f4, f5, f14, f15, f16, -⟩ := hf
    refine Xl.step ?_
    simp only [lb13_0]
    have c1 : ¬ ((i : Int) < (ls.length : Int)) := by omega
    rw [inGo] at k1
    simp only [wA, seval, reduceCtorEq, reduceIte, f4, f5, f14, f15, f16, c1]
    exact k1 _ _ (by simp only [FrAt_cons, FrAt_nil, wFr, Nat.reduceEqDiff, Nat.one_ne_zero, Nat.zero_ne_one, reduceIte, and_self, and_true, true_and, f4, f5])
  | cons x l ih =>
    intro i a b fr sg hd hf k1
    obtain ⟨hx, hr, hi⟩ := drop_cons hd
    simp only [FrAt_cons, FrAt_nil] at hf
    obtain ⟨f4, f5, f14, f15, f16, -⟩ := hf
    refine Xl.step ?_
    simp only [lb13_0]
    have c1 : (i : Int) < (ls.length : Int) := by omega
    have hw1 := i64_succ hi (show ls.length ≤ 281474976710656 by have : B20 = 1100000 := rfl; omega)
    rw [inGo] at k1
    cases hpub : x.pub with
    | true =>
      rw [hpub] at k1
      simp only [wA, seval, reduceCtorEq, reduceIte, f4, f5, f14, f15, f16, c1, hw1, Int.toNat_natCast, hi, List.getElem?_map, hx, Option.map_some, hpub, mxT]
      exact ih (i + 1) _ b _ _ hr (by simp only [FrAt_cons, FrAt_nil, wFr, Nat.reduceEqDiff, Nat.one_ne_zero, Nat.zero_ne_one, reduceIte, and_self, and_true, true_and, f4, f5, f14, f15]; first | done | rfl) k1
    | false =>
      rw [hpub] at k1
      simp only [wA, seval, reduceCtorEq, reduceIte, f4, f5, f14, f15, f16, c1, hw1, Int.toNat_natCast, hi, List.getElem?_map, hx, Option.map_some, hpub, mxT]
      exact ih (i + 1) a _ _ _ hr (by simp only [FrAt_cons, FrAt_nil, wFr, Nat.reduceEqDiff, Nat.one_ne_zero, Nat.zero_ne_one, reduceIte, and_self, and_true, true_and, f4, f5, f14, f15]; first | done | rfl) k1
theorem ok13 {p : Pg} (hp : PgB p) {K : PV → Prop} : XcP F gl 13 [.agg (tPg p)] K ⟨⟩ ↔ K (.tup [.t (.int .i64 (inpP p).1), .t (.int .i64 (inpP p).2)]) := by
  refine Ret.iff (Ret.of F13 rfl ?_)
  simp only [ir13]
  have he := fun K => @ok32 gl p hp K
  unfold inpP
  by_cases h0 : (examP p).2.2 = 0
  · rw [if_neg (by simpa using h0)]
    simp only [wA, seval, reduceCtorEq, reduceIte, he, h0, List.length_map]
    refine loop13 hp.dl _ p.decls 0 0 0 _ _ rfl (by simp only [FrAt_cons, FrAt_nil, wFr, Nat.reduceEqDiff, Nat.one_ne_zero, Nat.zero_ne_one, reduceIte, and_self, and_true, true_and]; first | done | exact ⟨rfl, rfl⟩ | rfl) ?_
    intro fr' sg' hf
    simp only [FrAt_cons, FrAt_nil] at hf
    obtain ⟨f4, f5, -⟩ := hf
    simp only [wA, seval, reduceCtorEq, reduceIte, f4, f5]
  · rw [if_pos (by simpa using h0)]
    simp only [wA, seval, reduceCtorEq, reduceIte, he, h0]
theorem ok47 (n : Int) {K : PV → Prop} : XcP F gl 47 [.agg [.int .u64 n]] K ⟨⟩ ↔ K (.t (.bool (fieldB n))) := by
  refine Ret.iff (Ret.of F47 rfl ?_)
  simp only [ir47]
  unfold fieldB
  by_cases h1 : n = 18446744069414584321
  · simp only [wA, seval, reduceCtorEq, reduceIte, h1]
    all_goals simp
  by_cases h2 : n = 17
  · simp only [wA, seval, reduceCtorEq, reduceIte, h2]
    all_goals simp
  by_cases h3 : n = 97
  · simp only [wA, seval, reduceCtorEq, reduceIte, h3]
    all_goals simp
  by_cases h4 : n = 193
  · simp only [wA, seval, reduceCtorEq, reduceIte, h4]
    all_goals simp
  by_cases h5 : n = 257
  · simp only [wA, seval, reduceCtorEq, reduceIte, h5]
    all_goals simp
  by_cases h6 : n = 12289
  · simp only [wA, seval, reduceCtorEq, reduceIte, h6]
    all_goals simp
  by_cases h7 : n = 65537
  · simp only [wA, seval, reduceCtorEq, reduceIte, h7]
    all_goals simp
  simp only [wA, seval, reduceCtorEq, reduceIte, h1, h2, h3, h4, h5, h6, h7]
  all_goals simp
theorem ok14 {p : Pg} (hp : PgB p) (he : examP p = (10, 1, 0)) (n : Int) {K : PV → Prop} : XcP F gl 14 [.agg (tPg p), .int .u64 n] K ⟨⟩ ↔ K (.t (.bool (fieldB n && decide (n > 1024)))) := by
  refine Ret.iff (Ret.of F14 rfl ?_)
  simp only [ir14]
  have he2 := fun K => @ok37 gl p hp K
  rw [he] at he2
  have hfv := fun K => @ok47 gl n K
  cases hb : fieldB n with
  | false =>
    simp only [wA, seval, reduceCtorEq, reduceIte, he2, hfv, hb]
    all_goals simp
  | true =>
    simp only [wA, seval, reduceCtorEq, reduceIte, he2, hfv, hb]
    have hsh : IntKind.u64.wrap (1 * 2 ^ min 10 IntKind.u64.bits) = 1024 := by decide
    rw [hsh]
theorem ok29 (n : Int) (nl : Bool) (l : List Exp) {K : PV → Prop} : XcP F gl 29 [.int .i64 n, .sl nl (tExs l)] K ⟨⟩ ↔ K (.t (.agg (tEx (.mk n 0 [] nl l)))) := by
  refine Ret.iff (Ret.of F29 rfl ?_)
  simp only [ir29]
  simp only [wA, seval, reduceCtorEq, reduceIte, tEx_eq]
  rfl
theorem ok30 (n : Nm) {K : PV → Prop} : XcP F gl 30 [.str n] K ⟨⟩ ↔ K (.t (.agg (tEx (.mk 2 0 n true [])))) := by
  refine Ret.iff (Ret.of F30 rfl ?_)
  simp only [ir30]
  simp only [wA, seval, reduceCtorEq, reduceIte, tEx_eq]
  rfl
theorem ok31 (n : Int) {K : PV → Prop} : XcP F gl 31 [.int .u64 n] K ⟨⟩ ↔ K (.t (.agg (tEx (.mk 1 n [] true [])))) := by
  refine Ret.iff (Ret.of F31 rfl ?_)
  simp only [ir31]
  simp only [wA, seval, reduceCtorEq, reduceIte, tEx_eq]
  rfl
theorem ok28 (e : Exp) {K : PV → Prop} : XcP F gl 28 [.agg (tEx e)] K ⟨⟩ ↔ K (.t (.agg (tSt (.mk 2 [] false zTy e 0 0 true [])))) := by
  refine Ret.iff (Ret.of F28 rfl ?_)
  simp only [ir28]
  simp only [wA, seval, reduceCtorEq, reduceIte, tEx_eq, tSt_eq]
  rfl
theorem ok34 (n : Nm) (e : Exp) {K : PV → Prop} : XcP F gl 34 [.str n, .agg (tEx e)] K ⟨⟩ ↔ K (.t (.agg (tSt (.mk 1 n false zTy e 0 0 true [])))) := by
  refine Ret.iff (Ret.of F34 rfl ?_)
  simp only [ir34]
  simp only [wA, seval, reduceCtorEq, reduceIte, tEx_eq, tSt_eq]
  rfl
end Go.Proofs.YtdjcnfacjfnakaaGreat

/- Contracts: how much a program holds. -/
set_option maxRecDepth 10000
set_option linter.unusedVariables false
set_option linter.unusedSimpArgs false
namespace Go.Proofs.YtdjcnfacjfnakaaGreat
open Go.Pi Go.Lx Go.Ky Go.Lib
variable {gl : Nat → Option (List T)}

theorem loop36 {e : Exp} {lim : Int} (hls : e.args.length ≤ B20) (hrec : ∀ a, a ∈ e.args → ∀ (lim : Int) (K : PV → Prop), XcP F gl 36 [.agg (tEx a), .int .i64 lim] K ⟨⟩ ↔ K (.t (.int .i64 (szM a lim)))) {b2 : Nat} {sg : Sg} (h2 : sg[b2]? = some (cEx e)) {ow : Ow} (Q : Ex → S → Prop) : ∀ (l : List Exp) (i : Nat) (n : Int) (fr : List PV), e.args.drop i = l →
    FrAt fr [(1, .t (.int .i64 lim)), (2, .lp b2 0), (5, .t (.int .i64 n)), (6, .t (.int .i64 i))] →
    (∀ fr', fget fr' 5 = .t (.int .i64 (szMs l lim n)) → Q (.exit 0) ⟨fr', sg, ow⟩) →
    Xl F gl lb36_0 ⟨fr, sg, ow⟩ Q ⟨⟩ := by
  intro l
  induction l with
  | nil =>
    intro i n fr hd hf k1
    have hd := drop_nil' hd
    simp only [FrAt_cons, FrAt_nil] at hf
    obtain ⟨f1, f2, f5, f6, -⟩ := hf
    refine Xl.step ?_
    simp only [lb36_0]
    have c1 : ¬ ((i : Int) < (e.args.length : Int)) := by omega
    rw [szMs] at k1
    simp only [wA, seval, reduceCtorEq, reduceIte, f1, f2, f5, f6, c1, h2, tExs_len]
    exact k1 _ (by simp only [FrAt_cons, FrAt_nil, wFr, Nat.reduceEqDiff, Nat.one_ne_zero, Nat.zero_ne_one, reduceIte, and_self, and_true, true_and, f5])
  | cons x l ih =>
    intro i n fr hd hf k1
    obtain ⟨hx, hr, hi⟩ := drop_cons hd
    simp only [FrAt_cons, FrAt_nil] at hf
    obtain ⟨f1, f2, f5, f6, -⟩ := hf
    refine Xl.step ?_
    simp only [lb36_0]
    have c1 : (i : Int) < (e.args.length : Int) := by omega
    have hw1 := i64_succ hi (show e.args.length ≤ 281474976710656 by have : B20 = 1100000 := rfl; omega)
    have hq := fun lim K => hrec x (List.mem_of_getElem? hx) lim K
    simp only [tEx_eq] at hq
    rw [szMs] at k1
    by_cases hn : n ≤ lim
    · rw [if_pos hn] at k1
      simp only [wA, seval, reduceCtorEq, reduceIte, f1, f2, f5, f6, c1, hw1, h2, tExs_len, hn, Int.toNat_natCast, hi, tExs_get, hx, Option.map_some, hq, tEx_eq]
      exact ih (i + 1) _ _ hr (by simp only [FrAt_cons, FrAt_nil, wFr, Nat.reduceEqDiff, Nat.one_ne_zero, Nat.zero_ne_one, reduceIte, and_self, and_true, true_and, f1, f2]; first | done | rfl) k1
    · rw [if_neg hn] at k1
      simp only [wA, seval, reduceCtorEq, reduceIte, f1, f2, f5, f6, c1, hw1, h2, tExs_len, hn]
      exact k1 _ (by simp only [FrAt_cons, FrAt_nil, wFr, Nat.reduceEqDiff, Nat.one_ne_zero, Nat.zero_ne_one, reduceIte, and_self, and_true, true_and, f5])
theorem ok36 : ∀ e, szE e ≤ B20 → ∀ (lim : Int) (K : PV → Prop), XcP F gl 36 [.agg (tEx e), .int .i64 lim] K ⟨⟩ ↔ K (.t (.int .i64 (szM e lim))) := by
  refine Exp.ind fun e ih hsz lim K => ?_
  have hrec := fun a ha => ih a ha ((szE_args hsz).2 a ha)
  refine Ret.iff (Ret.of F36 rfl ?_)
  simp only [ir36]
  rw [szM_eq]
  simp only [wA, seval, reduceCtorEq, reduceIte, tEx_eq]
  refine loop36 (szE_args hsz).1 hrec (b2 := 0) (sg := [cEx e]) rfl _ e.args 0 1 _ rfl (by simp only [FrAt_cons, FrAt_nil, wFr, Nat.reduceEqDiff, Nat.one_ne_zero, Nat.zero_ne_one, reduceIte, and_self, and_true, true_and]; first | done | exact ⟨rfl, rfl⟩ | rfl) ?_
  intro fr' f5
  simp only [wA, seval, reduceCtorEq, reduceIte, f5]
theorem loop35 {ls : List St} {nl : Bool} {lim : Int} (hls : ls.length ≤ B20) (hsz : ∀ s, s ∈ ls → szE s.ex ≤ B20) (hrec : ∀ s, s ∈ ls → ∀ (nl : Bool) (lim : Int) (K : PV → Prop), XcP F gl 35 [.sl nl (tSts s.body), .int .i64 lim] K ⟨⟩ ↔ K (.t (.int .i64 (amMs s.body lim 0)))) {sg : Sg} {ow : Ow} (Q : Ex → S → Prop) : ∀ (l : List St) (i : Nat) (n : Int) (fr : List PV), ls.drop i = l →
    FrAt fr [(0, .t (.sl nl (tSts ls))), (1, .t (.int .i64 lim)), (5, .t (.int .i64 n)), (6, .t (.int .i64 i))] →
    (∀ fr', fget fr' 5 = .t (.int .i64 (amMs l lim n)) → Q (.exit 0) ⟨fr', sg, ow⟩) →
    Xl F gl lb35_0 ⟨fr, sg, ow⟩ Q ⟨⟩ := by
  intro l
  induction l with
  | nil =>
    intro i n fr hd hf k1
    have hd := drop_nil' hd
    simp only [FrAt_cons, FrAt_nil] at hf
    obtain ⟨f1, f2, f5, f6, -⟩ := hf
    refine Xl.step ?_
    simp only [lb35_0]
    have c1 : ¬ ((i : Int) < (ls.length : Int)) := by omega
    rw [amMs] at k1
    simp only [wA, seval, reduceCtorEq, reduceIte, f1, f2, f5, f6, c1, tSts_len]
    exact k1 _ (by simp only [FrAt_cons, FrAt_nil, wFr, Nat.reduceEqDiff, Nat.one_ne_zero, Nat.zero_ne_one, reduceIte, and_self, and_true, true_and, f5])
  | cons x l ih =>
    intro i n fr hd hf k1
    obtain ⟨hx, hr, hi⟩ := drop_cons hd
    simp only [FrAt_cons, FrAt_nil] at hf
    obtain ⟨f1, f2, f5, f6, -⟩ := hf
    refine Xl.step ?_
    simp only [lb35_0]
    have c1 : (i : Int) < (ls.length : Int) := by omega
    have hw1 := i64_succ hi (show ls.length ≤ 281474976710656 by have : B20 = 1100000 := rfl; omega)
    have hm := List.mem_of_getElem? hx
    have hq := fun lim K => ok36 (gl := gl) x.ex (hsz x hm) lim K
    have hq2 := fun nl lim K => hrec x hm nl lim K
    simp only [tEx_eq] at hq
    rw [amMs, am1_eq] at k1
    by_cases hn : n ≤ lim
    · rw [if_pos hn] at k1
      simp only [wA, seval, reduceCtorEq, reduceIte, f1, f2, f5, f6, c1, hw1, tSts_len, hn, Int.toNat_natCast, hi, tSts_get, hx, Option.map_some, hq, hq2, tSt_eq]
      exact ih (i + 1) _ _ hr (by simp only [FrAt_cons, FrAt_nil, wFr, Nat.reduceEqDiff, Nat.one_ne_zero, Nat.zero_ne_one, reduceIte, and_self, and_true, true_and, f1, f2]; first | done | rfl) k1
    · rw [if_neg hn] at k1
      simp only [wA, seval, reduceCtorEq, reduceIte, f1, f2, f5, f6, c1, hw1, tSts_len, hn]
      exact k1 _ (by simp only [FrAt_cons, FrAt_nil, wFr, Nat.reduceEqDiff, Nat.one_ne_zero, Nat.zero_ne_one, reduceIte, and_self, and_true, true_and, f5])
theorem okl35 {ls : List St} (hls : ls.length ≤ B20) (hsz : ∀ s, s ∈ ls → szE s.ex ≤ B20) (hrec : ∀ s, s ∈ ls → ∀ (nl : Bool) (lim : Int) (K : PV → Prop), XcP F gl 35 [.sl nl (tSts s.body), .int .i64 lim] K ⟨⟩ ↔ K (.t (.int .i64 (amMs s.body lim 0)))) (nl : Bool) (lim : Int) (K : PV → Prop) : XcP F gl 35 [.sl nl (tSts ls), .int .i64 lim] K ⟨⟩ ↔ K (.t (.int .i64 (amMs ls lim 0))) := by
  refine Ret.iff (Ret.of F35 rfl ?_)
  simp only [ir35]
  simp only [wA, seval, reduceCtorEq, reduceIte]
  refine loop35 hls hsz hrec _ ls 0 0 _ rfl (by simp only [FrAt_cons, FrAt_nil, wFr, Nat.reduceEqDiff, Nat.one_ne_zero, Nat.zero_ne_one, reduceIte, and_self, and_true, true_and]; first | done | exact ⟨rfl, rfl⟩ | rfl) ?_
  intro fr' f5
  simp only [wA, seval, reduceCtorEq, reduceIte, f5]
theorem okr35 : ∀ s, szS s ≤ B20 → ∀ (nl : Bool) (lim : Int) (K : PV → Prop), XcP F gl 35 [.sl nl (tSts s.body), .int .i64 lim] K ⟨⟩ ↔ K (.t (.int .i64 (amMs s.body lim 0))) := by
  refine St.ind fun s ih hsz => ?_
  have hb := szS_body hsz
  exact okl35 hb.1 (fun x hx => Nat.le_trans (szS_ex x) (hb.2 x hx)) (fun x hx => ih x hx (hb.2 x hx))
theorem ok35 {ls : List St} (h : szSs ls ≤ B20) (nl : Bool) (lim : Int) {K : PV → Prop} : XcP F gl 35 [.sl nl (tSts ls), .int .i64 lim] K ⟨⟩ ↔ K (.t (.int .i64 (amMs ls lim 0))) :=
  okl35 (Nat.le_trans (szSs_len _) h) (fun x hx => Nat.le_trans (szS_ex x) (Nat.le_trans (szSs_mem hx) h)) (fun x hx => okr35 x (Nat.le_trans (szSs_mem hx) h)) nl lim K
theorem loop10 {p : Pg} (hp : PgB p) {sg : Sg} (h1 : sg[0]? = some (false, [PV.t (.sl p.fnl (p.funcs.map fun f => tFu f)), .t (.sl p.dnl (p.decls.map fun f => tDe f)), .t (.sl p.bnl (tSts p.body))])) {ow : Ow} (Q : Ex → S → Prop) : ∀ (l : List Fu) (i : Nat) (n : Int) (fr : List PV), p.funcs.drop i = l →
    FrAt fr [(1, .lp 0 0), (3, .t (.int .i64 n)), (4, .t (.int .i64 i))] →
    (∀ fr', FrAt fr' [(1, .lp 0 0), (3, .t (.int .i64 (smGo l i n)))] → Q (.exit 0) ⟨fr', sg, ow⟩) →
    Xl F gl lb10_0 ⟨fr, sg, ow⟩ Q ⟨⟩ := by
  intro l
  induction l with
  | nil =>
    intro i n fr hd hf k1
    have hd := drop_nil' hd
    simp only [FrAt_cons, FrAt_nil] at hf
    obtain ⟨f1, f3, f4, -⟩ := hf
    refine Xl.step ?_
    simp only [lb10_0]
    have c1 : ¬ ((i : Int) < (p.funcs.length : Int)) := by omega
    rw [smGo] at k1
    simp only [wA, seval, reduceCtorEq, reduceIte, f1, f3, f4, c1, h1, List.length_map]
    exact k1 _ (by simp only [FrAt_cons, FrAt_nil, wFr, Nat.reduceEqDiff, Nat.one_ne_zero, Nat.zero_ne_one, reduceIte, and_self, and_true, true_and, f1, f3])
  | cons x l ih =>
    intro i n fr hd hf k1
    obtain ⟨hx, hr, hi⟩ := drop_cons hd
    simp only [FrAt_cons, FrAt_nil] at hf
    obtain ⟨f1, f3, f4, -⟩ := hf
    refine Xl.step ?_
    simp only [lb10_0]
    have c1 : (i : Int) < (p.funcs.length : Int) := by omega
    have hw1 := i64_succ hi (show p.funcs.length ≤ 281474976710656 by have := hp.fl; have : B20 = 1100000 := rfl; omega)
    obtain ⟨x1, x2, x3⟩ := hp.fs x (List.mem_of_getElem? hx)
    have hq := fun lim K => ok36 (gl := gl) x.ret x3 lim K
    have hq2 := fun nl lim K => @ok35 gl x.body x2 nl lim K
    simp only [tEx_eq] at hq
    rw [smGo] at k1
    by_cases h20 : (i : Int) < 20
    · by_cases hn : n ≤ 400
      · rw [if_pos ⟨by omega, hn⟩] at k1
        simp only [wA, seval, reduceCtorEq, reduceIte, f1, f3, f4, c1, hw1, h1, List.length_map, h20, hn, Int.toNat_natCast, hi, List.getElem?_map, hx, Option.map_some, hq, hq2]
        exact ih (i + 1) _ _ hr (by simp only [FrAt_cons, FrAt_nil, wFr, Nat.reduceEqDiff, Nat.one_ne_zero, Nat.zero_ne_one, reduceIte, and_self, and_true, true_and, f1]; first | done | rfl) k1
      · rw [if_neg (fun h => hn h.2)] at k1
        simp only [wA, seval, reduceCtorEq, reduceIte, f1, f3, f4, c1, hw1, h1, List.length_map, h20, hn]
        exact k1 _ (by simp only [FrAt_cons, FrAt_nil, wFr, Nat.reduceEqDiff, Nat.one_ne_zero, Nat.zero_ne_one, reduceIte, and_self, and_true, true_and, f1, f3])
    · rw [if_neg (fun h => h20 (by omega))] at k1
      simp only [wA, seval, reduceCtorEq, reduceIte, f1, f3, f4, c1, hw1, h1, List.length_map, h20]
      exact k1 _ (by simp only [FrAt_cons, FrAt_nil, wFr, Nat.reduceEqDiff, Nat.one_ne_zero, Nat.zero_ne_one, reduceIte, and_self, and_true, true_and, f1, f3])
theorem ok10 {p : Pg} (hp : PgB p) {K : PV → Prop} : XcP F gl 10 [.agg (tPg p)] K ⟨⟩ ↔ K (.t (.bool (smallB p))) := by
  refine Ret.iff (Ret.of F10 rfl ?_)
  simp only [ir10]
  have hq2 := fun nl lim K => @ok35 gl p.body hp.bs nl lim K
  unfold smallB
  simp only [wA, seval, reduceCtorEq, reduceIte, hq2]
  refine loop10 hp rfl _ p.funcs 0 _ _ rfl (by simp only [FrAt_cons, FrAt_nil, wFr, Nat.reduceEqDiff, Nat.one_ne_zero, Nat.zero_ne_one, reduceIte, and_self, and_true, true_and]; first | done | exact ⟨rfl, rfl⟩ | rfl) ?_
  intro fr' hf
  simp only [FrAt_cons, FrAt_nil] at hf
  obtain ⟨f1, f3, -⟩ := hf
  generalize smGo p.funcs 0 (amMs p.body 400 0) = n at *
  by_cases a1 : n ≤ 400
  · by_cases a2 : (p.funcs.length : Int) ≤ 10
    · by_cases a3 : (p.decls.length : Int) ≤ 20
      · simp only [wA, seval, reduceCtorEq, reduceIte, f1, f3, a1, a2, a3, List.length_map]
        all_goals simp_all
      · simp only [wA, seval, reduceCtorEq, reduceIte, f1, f3, a1, a2, a3, List.length_map]
        all_goals simp_all
    · simp only [wA, seval, reduceCtorEq, reduceIte, f1, f3, a1, a2, List.length_map]
      all_goals simp_all
  · simp only [wA, seval, reduceCtorEq, reduceIte, f1, f3, a1, List.length_map]
    all_goals simp_all
end Go.Proofs.YtdjcnfacjfnakaaGreat

/- Contracts: is the code awake? -/
set_option maxRecDepth 10000
set_option linter.unusedVariables false
set_option linter.unusedSimpArgs false
namespace Go.Proofs.YtdjcnfacjfnakaaGreat
open Go.Pi Go.Lx Go.Ky Go.Lib
variable {gl : Nat → Option (List T)}

theorem rw29 (n : Int) (nl : Bool) (l : List (List T)) {K : PV → Prop} : XcP F gl 29 [.int .i64 n, .sl nl l] K ⟨⟩ ↔ K (.t (.agg [.int .i64 n, .int .u64 0, .str [], .sl nl l])) := by
  refine Ret.iff (Ret.of F29 rfl ?_)
  simp only [ir29]
  simp only [wA, seval, reduceCtorEq, reduceIte]
theorem rw30 (n : Nm) {K : PV → Prop} : XcP F gl 30 [.str n] K ⟨⟩ ↔ K (.t (.agg [.int .i64 2, .int .u64 0, .str n, .sl true []])) := by
  refine Ret.iff (Ret.of F30 rfl ?_)
  simp only [ir30]
  simp only [wA, seval, reduceCtorEq, reduceIte]
theorem rw31 (n : Int) {K : PV → Prop} : XcP F gl 31 [.int .u64 n] K ⟨⟩ ↔ K (.t (.agg [.int .i64 1, .int .u64 n, .str [], .sl true []])) := by
  refine Ret.iff (Ret.of F31 rfl ?_)
  simp only [ir31]
  simp only [wA, seval, reduceCtorEq, reduceIte]
theorem rw28 (o v : Int) (n : Nm) (nl : Bool) (l : List (List T)) {K : PV → Prop} : XcP F gl 28 [.agg [.int .i64 o, .int .u64 v, .str n, .sl nl l]] K ⟨⟩ ↔ K (.t (.agg [.int .i64 2, .str [], .bool false, .int .i64 0, .int .i64 0, .int .i64 0, .int .i64 o, .int .u64 v, .str n, .sl nl l, .int .i64 0, .int .i64 0, .sl true []])) := by
  refine Ret.iff (Ret.of F28 rfl ?_)
  simp only [ir28]
  simp only [wA, seval, reduceCtorEq, reduceIte]
theorem rw34 (m : Nm) (o v : Int) (n : Nm) (nl : Bool) (l : List (List T)) {K : PV → Prop} : XcP F gl 34 [.str m, .agg [.int .i64 o, .int .u64 v, .str n, .sl nl l]] K ⟨⟩ ↔ K (.t (.agg [.int .i64 1, .str m, .bool false, .int .i64 0, .int .i64 0, .int .i64 0, .int .i64 o, .int .u64 v, .str n, .sl nl l, .int .i64 0, .int .i64 0, .sl true []])) := by
  refine Ret.iff (Ret.of F34 rfl ?_)
  simp only [ir34]
  simp only [wA, seval, reduceCtorEq, reduceIte]
/-- A list of so many elements. -/
theorem bsl_ex2 (o v : Int) (n : Nm) (b : Bool) (l : List (List T)) (o' v' : Int) (n' : Nm) (b' : Bool) (l' : List (List T)) : bslV 4 2 [.int .i64 0, .int .u64 0, .str [], .sl true []] [(0, 4, .t (.agg [.int .i64 o, .int .u64 v, .str n, .sl b l])), (4, 4, .t (.agg [.int .i64 o', .int .u64 v', .str n', .sl b' l']))] = some (.lit [[.int .i64 o, .int .u64 v, .str n, .sl b l], [.int .i64 o', .int .u64 v', .str n', .sl b' l']]) := rfl
abbrev zSt : List T := [.int .i64 0, .str [], .bool false, .int .i64 0, .int .i64 0, .int .i64 0, .int .i64 0, .int .u64 0, .str [], .sl true [], .int .i64 0, .int .i64 0, .sl true []]
abbrev cSt (k : Int) (n : Nm) (b : Bool) (x y z o v : Int) (m : Nm) (nl : Bool) (l : List (List T)) (lo hi : Int) (nl2 : Bool) (l2 : List (List T)) : List T := [.int .i64 k, .str n, .bool b, .int .i64 x, .int .i64 y, .int .i64 z, .int .i64 o, .int .u64 v, .str m, .sl nl l, .int .i64 lo, .int .i64 hi, .sl nl2 l2]
theorem bsl_st0 : bslV 13 0 zSt [] = some (.lit []) := rfl
theorem bsl_st1 (k : Int) (n : Nm) (b : Bool) (x y z o v : Int) (m : Nm) (nl : Bool) (l : List (List T)) (lo hi : Int) (nl2 : Bool) (l2 : List (List T)) : bslV 13 1 zSt [(0, 13, .t (.agg (cSt k n b x y z o v m nl l lo hi nl2 l2)))] = some (.lit [cSt k n b x y z o v m nl l lo hi nl2 l2]) := rfl
theorem bsl_st2 (k : Int) (n : Nm) (b : Bool) (x y z o v : Int) (m : Nm) (nl : Bool) (l : List (List T)) (lo hi : Int) (nl2 : Bool) (l2 : List (List T)) (k' : Int) (n' : Nm) (b' : Bool) (x' y' z' o' v' : Int) (m' : Nm) (nl' : Bool) (l' : List (List T)) (lo' hi' : Int) (nl2' : Bool) (l2' : List (List T)) : bslV 13 2 zSt [(0, 13, .t (.agg (cSt k n b x y z o v m nl l lo hi nl2 l2))), (13, 13, .t (.agg (cSt k' n' b' x' y' z' o' v' m' nl' l' lo' hi' nl2' l2')))] = some (.lit [cSt k n b x y z o v m nl l lo hi nl2 l2, cSt k' n' b' x' y' z' o' v' m' nl' l' lo' hi' nl2' l2']) := by kernel_rfl
theorem bsl_lp (n : Nm) (lo hi : Int) (l : List (List T)) : bslV 13 1 zSt [(0, 13, .agg [.t (.int .i64 3), .t (.str n), .t (.bool false), .t (.int .i64 0), .t (.int .i64 0), .t (.int .i64 0), .t (.int .i64 0), .t (.int .u64 0), .t (.str []), .t (.sl true []), .t (.int .i64 lo), .t (.int .i64 hi), .lit l])] = some (.lit [cSt 3 n false 0 0 0 0 0 [] true [] lo hi false l]) := rfl
theorem bsl_de2 (b : Bool) (n : Nm) (x y z : Int) (b' : Bool) (n' : Nm) (x' y' z' : Int) : bslV 5 2 [.bool false, .str [], .int .i64 0, .int .i64 0, .int .i64 0] [(0, 5, .t (.agg [.bool b, .str n, .int .i64 x, .int .i64 y, .int .i64 z])), (5, 5, .t (.agg [.bool b', .str n', .int .i64 x', .int .i64 y', .int .i64 z']))] = some (.lit [[.bool b, .str n, .int .i64 x, .int .i64 y, .int .i64 z], [.bool b', .str n', .int .i64 x', .int .i64 y', .int .i64 z']]) := rfl
theorem awB (p : Pg) (hf : p.funcs = []) (hok : PgOk p) (h2 : p.decls.length ≤ 1000) (h3 : szSs p.body ≤ 1000) : PgB p := by
  have hb : B20 = 1100000 := rfl
  exact ⟨hok, by rw [hf]; simp, by omega, fun f h => (by rw [hf] at h; cases h), by omega⟩
theorem aw1B : PgB aw1 := awB _ rfl (pgOk_of rfl (by decide) (by decide) (by decide) (by decide) (by decide) (by decide)) (by decide) (by decide)
theorem aw2B : PgB aw2 := awB _ rfl (pgOk_of rfl (by decide) (by decide) (by decide) (by decide) (by decide) (by decide)) (by decide) (by decide)
theorem aw3B : PgB aw3 := awB _ rfl (pgOk_of rfl (by decide) (by decide) (by decide) (by decide) (by decide) (by decide)) (by decide) (by decide)
theorem aw4B : PgB aw4 := awB _ rfl (pgOk_of rfl (by decide) (by decide) (by decide) (by decide) (by decide) (by decide)) (by decide) (by decide)
set_option maxHeartbeats 1000000 in
theorem ok9 {K : PV → Prop} : XcP F gl 9 [] K ⟨⟩ ↔ K (.t (.bool true)) := by
  refine Ret.iff (Ret.of F9 rfl ?_)
  simp only [ir9]
  (simp only [wA, seval, reduceCtorEq, reduceIte, rw29, rw30, rw31, rw28, rw34, bsl_ex2, bsl_st0, bsl_st1, bsl_st2, bsl_de2, bsl_lp])
  refine (ok13 aw1B).2 ?_
  rw [aw1_in]
  (simp only [wA, seval, reduceCtorEq, reduceIte, rw29, rw30, rw31, rw28, rw34, bsl_ex2, bsl_st0, bsl_st1, bsl_st2, bsl_de2, bsl_lp])
  refine (ok32 aw1B).2 ?_
  rw [aw1_ex]
  (simp only [wA, seval, reduceCtorEq, reduceIte, rw29, rw30, rw31, rw28, rw34, bsl_ex2, bsl_st0, bsl_st1, bsl_st2, bsl_de2, bsl_lp])
  refine (ok11 aw1B).2 ?_
  rw [aw1_ex]
  (simp only [wA, seval, reduceCtorEq, reduceIte, rw29, rw30, rw31, rw28, rw34, bsl_ex2, bsl_st0, bsl_st1, bsl_st2, bsl_de2, bsl_lp])
  refine (ok33 aw1B).2 ?_
  rw [aw1_ex]
  (simp only [wA, seval, reduceCtorEq, reduceIte, rw29, rw30, rw31, rw28, rw34, bsl_ex2, bsl_st0, bsl_st1, bsl_st2, bsl_de2, bsl_lp])
  refine (ok14 aw1B aw1_ex 12289).2 ?_
  rw [show (fieldB 12289 && decide ((12289 : Int) > 1024)) = true by decide]
  (simp only [wA, seval, reduceCtorEq, reduceIte, rw29, rw30, rw31, rw28, rw34, bsl_ex2, bsl_st0, bsl_st1, bsl_st2, bsl_de2, bsl_lp])
  refine (ok14 aw1B aw1_ex 257).2 ?_
  rw [show (fieldB 257 && decide ((257 : Int) > 1024)) = false by decide]
  (simp only [wA, seval, reduceCtorEq, reduceIte, rw29, rw30, rw31, rw28, rw34, bsl_ex2, bsl_st0, bsl_st1, bsl_st2, bsl_de2, bsl_lp])
  refine (ok32 aw2B).2 ?_
  rw [aw2_ex]
  (simp only [wA, seval, reduceCtorEq, reduceIte, rw29, rw30, rw31, rw28, rw34, bsl_ex2, bsl_st0, bsl_st1, bsl_st2, bsl_de2, bsl_lp])
  refine (ok32 aw3B).2 ?_
  rw [aw3_ex]
  (simp only [wA, seval, reduceCtorEq, reduceIte, rw29, rw30, rw31, rw28, rw34, bsl_ex2, bsl_st0, bsl_st1, bsl_st2, bsl_de2, bsl_lp])
  refine (ok32 aw4B).2 ?_
  rw [aw4_ex.2]
  (simp only [wA, seval, reduceCtorEq, reduceIte, rw29, rw30, rw31, rw28, rw34, bsl_ex2, bsl_st0, bsl_st1, bsl_st2, bsl_de2, bsl_lp])
  refine (ok33 aw4B).2 ?_
  rw [aw4_ex.1]
  (simp only [wA, seval, reduceCtorEq, reduceIte, rw29, rw30, rw31, rw28, rw34, bsl_ex2, bsl_st0, bsl_st1, bsl_st2, bsl_de2, bsl_lp])
  try trace_state
end Go.Proofs.YtdjcnfacjfnakaaGreat
