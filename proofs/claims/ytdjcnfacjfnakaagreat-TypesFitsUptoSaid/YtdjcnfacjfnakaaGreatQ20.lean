/- The reference: what Examine's loops do. -/
import Derived.Test.YtdjcnfacjfnakaaGreatQ18
import Derived.Test.YtdjcnfacjfnakaaGreatKx27
set_option maxRecDepth 10000
set_option linter.unusedVariables false
set_option linter.unusedSimpArgs false
namespace Go.Proofs.YtdjcnfacjfnakaaGreat
open Go.Pi Go.Lx Go.Ky
variable {gl : Nat → Option (List T)}

abbrev z5C : List PV := [.t (.int .i64 0), .t (.int .i64 0), .t (.int .i64 0), .t (.int .i64 0), .t (.int .i64 0)]
abbrev infC (r : Inf) : List PV := [.t (.int .i64 r.err), .t (.int .i64 r.bits), .t (.int .i64 r.pub), .t (.int .i64 r.sec), .t (.int .i64 r.steps)]
abbrev fuC (f : Fu) : List PV := [.t (.str f.name), .t (.sl f.pnl (f.params.map fun x => tPa x)), .t (.int .i64 f.res.kind), .t (.int .i64 f.res.bits), .t (.int .i64 f.res.len), .t (.sl f.bnl (tSts f.body)), .t (.int .i64 f.ret.op), .t (.int .u64 f.ret.val), .t (.str f.ret.name), .t (.sl f.ret.nl (tExs f.ret.args))]
/-- A function of this name is there already. -/
theorem loop212 {fz : Fz} {vf v1 v3 v5 : PV} {ow : Ow} {f : Fu} {cc : Nat} {z0 z2 : Bool × List PV} {sr : Sg} (hlf : fz.length ≤ B20) (hg : Gl 11 vf ow (fz.map tFz)) (hc : sr[cc]? = some (false, fuC f)) (Q : Ex → S → Prop) :
    ∀ (l : Fz) (i : Nat) (fr : List PV), fz.drop i = l → FrAt fr [(1, v1), (2, .lp 1 0), (3, v3), (4, vf), (5, v5), (6, .lp (cc + 1 + 1 + 1) 0), (7, .t (.int .i64 i))] →
    (hasF f.name l = false → ∀ fr', FrAt fr' [(1, v1), (2, .lp 1 0), (3, v3), (4, vf), (5, v5), (6, .lp (cc + 1 + 1 + 1) 0)] → Q (.exit 2) ⟨fr', z0 :: (false, z5C) :: z2 :: sr, ow⟩) →
    (hasF f.name l = true → ∀ fr', FrAt fr' [(2, .lp 1 0)] → Q .ret ⟨fr', z0 :: (false, infC (badI 5)) :: z2 :: sr, ow⟩) →
    Xl F gl lb12_2 ⟨fr, z0 :: (false, z5C) :: z2 :: sr, ow⟩ Q ⟨⟩ := by
  intro l
  induction l with
  | nil =>
    intro i fr hd hf k1 k2
    have hd := drop_nil' hd
    simp only [FrAt_cons, FrAt_nil] at hf
    obtain ⟨f1, f2, f3, f4, f5, f6, f7, -⟩ := hf
    refine Xl.step ?_
    simp only [lb12_2]
    have c1 : ¬ ((i : Int) < (fz.length : Int)) := by omega
    rcases hg with ⟨rfl, hn⟩ | ⟨k, rfl, hk⟩
    · have hn : fz = [] := by simpa using hn
      subst hn
      simp only [wA, seval, reduceCtorEq, reduceIte, f1, f2, f3, f4, f5, f6, f7, c1, List.length_map]
      exact k1 rfl _ (by simp only [FrAt_cons, FrAt_nil, wFr, Nat.reduceEqDiff, Nat.one_ne_zero, Nat.zero_ne_one, reduceIte, and_self, and_true, true_and, f1, f2, f3, f4, f5, f6])
    · simp only [wA, seval, reduceCtorEq, reduceIte, f1, f2, f3, f4, f5, f6, f7, c1, List.length_map]
      exact k1 rfl _ (by simp only [FrAt_cons, FrAt_nil, wFr, Nat.reduceEqDiff, Nat.one_ne_zero, Nat.zero_ne_one, reduceIte, and_self, and_true, true_and, f1, f2, f3, f4, f5, f6])
  | cons p l ih =>
    intro i fr hd hf k1 k2
    obtain ⟨hx, hr, hi⟩ := drop_cons hd
    simp only [FrAt_cons, FrAt_nil] at hf
    obtain ⟨f1, f2, f3, f4, f5, f6, f7, -⟩ := hf
    refine Xl.step ?_
    simp only [lb12_2]
    have c1 : (i : Int) < (fz.length : Int) := by omega
    have hB : B20 = 1100000 := rfl
    have hw1 := i64_succ hi (show fz.length ≤ 281474976710656 by omega)
    obtain ⟨k, rfl, hk⟩ : ∃ k, vf = .own k 11 (fz.map tFz) ∧ ow[k]? = some (fz.map tFz).length := by
      rcases hg with ⟨_, hn⟩ | h
      · have : fz = [] := by simpa using hn
        subst this; simp at hi
      · exact h
    have hh : hasF f.name (p :: l) = (decide (p.1.name = f.name) || hasF f.name l) := rfl
    rw [hh] at k1 k2
    by_cases hn : p.1.name = f.name
    · have hb1 : (p.1.name == f.name) = true := by simpa using hn
      have hn' : (p.1.name = f.name) = True := eq_true hn
      rw [decide_eq_true hn, Bool.true_or] at k1 k2
      simp only [wA, seval, reduceCtorEq, reduceIte, f1, f2, f3, f4, f5, f6, f7, c1, hw1, List.length_map, Int.toNat_natCast, hi, List.getElem?_map, hx, Option.map_some, hc, hn', hb1]
      exact k2 rfl _ (by simp only [FrAt_cons, FrAt_nil, wFr, Nat.reduceEqDiff, Nat.one_ne_zero, Nat.zero_ne_one, reduceIte, and_self, and_true, true_and, f2])
    · have hb1 : (p.1.name == f.name) = false := by simpa using hn
      have hn' : (p.1.name = f.name) = False := eq_false hn
      rw [decide_eq_false hn, Bool.false_or] at k1 k2
      simp only [wA, seval, reduceCtorEq, reduceIte, f1, f2, f3, f4, f5, f6, f7, c1, hw1, List.length_map, Int.toNat_natCast, hi, List.getElem?_map, hx, Option.map_some, hc, hn', hb1]
      refine ih (i + 1) _ hr ?_ k1 k2
      simp only [FrAt_cons, FrAt_nil, wFr, Nat.reduceEqDiff, Nat.one_ne_zero, Nat.zero_ne_one, reduceIte, and_self, and_true, true_and, f1, f2, f3, f4, f5, f6]
/-- The names of the parameters. -/
theorem loop112 {vf v1 v3 v5 : PV} {ow0 : Ow} {k0 : Nat} {f : Fu} {cc : Nat} {z0 z2 : Bool × List PV} {sr : Sg} (hlp : f.params.length ≤ B20) (hc : sr[cc]? = some (false, fuC f)) (Q : Ex → S → Prop) :
    ∀ (l : List Pa) (i : Nat) (ns : Ns) (v : PV) (ow : Ow) (fr : List PV), f.params.drop i = l → ns.length = i → Gk k0 7 v ow (ns.map tSym) → Ok0 k0 ow0 ow →
    FrAt fr [(1, v1), (2, .lp 1 0), (3, v3), (4, vf), (5, v5), (6, .lp (cc + 1 + 1 + 1) 0), (8, v), (9, .t (.int .i64 i))] →
    (∀ s, parsR l ns = some s → ∀ fr' v' ow', Gk k0 7 v' ow' (s.map tSym) → Ok0 k0 ow0 ow' → FrAt fr' [(1, v1), (2, .lp 1 0), (3, v3), (4, vf), (5, v5), (6, .lp (cc + 1 + 1 + 1) 0), (8, v')] → Q (.exit 4) ⟨fr', z0 :: (false, z5C) :: z2 :: sr, ow'⟩) →
    (parsR l ns = none → ∀ fr' ow', FrAt fr' [(2, .lp 1 0)] → Q .ret ⟨fr', z0 :: (false, infC (badI 5)) :: z2 :: sr, ow'⟩) →
    Xl F gl lb12_1 ⟨fr, z0 :: (false, z5C) :: z2 :: sr, ow⟩ Q ⟨⟩ := by
  intro l
  induction l with
  | nil =>
    intro i ns v ow fr hd hln hg hk hf k1 k2
    have hd := drop_nil' hd
    simp only [FrAt_cons, FrAt_nil] at hf
    obtain ⟨f1, f2, f3, f4, f5, f6, f8, f9, -⟩ := hf
    refine Xl.step ?_
    simp only [lb12_1]
    have c1 : ¬ ((i : Int) < (f.params.length : Int)) := by omega
    simp only [wA, seval, reduceCtorEq, reduceIte, f1, f2, f3, f4, f5, f6, f8, f9, c1, hc, List.length_map]
    exact k1 ns (by rw [parsR]) _ v _ hg hk (by simp only [FrAt_cons, FrAt_nil, wFr, Nat.reduceEqDiff, Nat.one_ne_zero, Nat.zero_ne_one, reduceIte, and_self, and_true, true_and, f1, f2, f3, f4, f5, f6, f8])
  | cons p l ih =>
    intro i ns v ow fr hd hln hg hk hf k1 k2
    obtain ⟨hx, hr, hi⟩ := drop_cons hd
    simp only [FrAt_cons, FrAt_nil] at hf
    obtain ⟨f1, f2, f3, f4, f5, f6, f8, f9, -⟩ := hf
    refine Xl.step ?_
    simp only [lb12_1]
    have c1 : (i : Int) < (f.params.length : Int) := by omega
    have hB : B20 = 1100000 := rfl
    have hw1 := i64_succ hi (show f.params.length ≤ 281474976710656 by omega)
    have hlo : ns.length ≤ 4 * B20 := by omega
    have hF := fun k K => @ok39 gl ns false k hlo K
    have hcl := hg.gl.cl
    rw [parsR] at k1 k2
    cases hl : Ky.look p.name ns with
    | some s =>
      obtain ⟨j, nm', hf, hj⟩ := find_some0 hl
      have cj : ((j : Nat) : Int) ≥ 0 := by omega
      rw [hl] at k2
      simp only [wA, seval, reduceCtorEq, reduceIte, f1, f2, f3, f4, f5, f6, f8, f9, c1, hw1, hc, List.length_map, Int.toNat_natCast, hi, List.getElem?_map, hx, Option.map_some, hcl, hF, hf, cj]
      exact k2 rfl _ _ (by simp only [FrAt_cons, FrAt_nil, wFr, Nat.reduceEqDiff, Nat.one_ne_zero, Nat.zero_ne_one, reduceIte, and_self, and_true, true_and, f2])
    | none =>
      rw [hl] at k1 k2
      obtain ⟨v', ow', a1, hg', hk'⟩ := hg.app (bytes := 64) (e := tSym (p.name, ⟨p.ty, false, 0, 0⟩)) hk rfl (by omega) (room7 (by rw [List.length_map]; omega))
      simp only [tSym] at a1
      simp only [wA, seval, reduceCtorEq, reduceIte, f1, f2, f3, f4, f5, f6, f8, f9, c1, hw1, hc, List.length_map, Int.toNat_natCast, hi, List.getElem?_map, hx, Option.map_some, hcl, hF, find_none hl, bslV, chunks, cell1, T.isAgg, List.replicate, List.flatten_cons, List.flatten_nil, List.append_nil, a1]
      refine ih (i + 1) (ns ++ [(p.name, ⟨p.ty, false, 0, 0⟩)]) v' ow' _ hr (by simp [hln]) (by rw [List.map_append]; exact hg') hk' ?_ k1 k2
      simp only [FrAt_cons, FrAt_nil, wFr, Nat.reduceEqDiff, Nat.one_ne_zero, Nat.zero_ne_one, reduceIte, and_self, and_true, true_and, f1, f2, f3, f4, f5, f6]
/-- The declarations. -/
theorem loop012 {p : Pg} {vf : PV} {ow0 : Ow} {k0 : Nat} {z1 : Bool × List PV} (hld : p.decls.length ≤ B20) (hz : z1 = (false, z5C)) (Q : Ex → S → Prop) :
    ∀ (l : List De) (i : Nat) (ns : Ns) (x : Inf) (v : PV) (ow : Ow) (fr : List PV) (sr : Sg), p.decls.drop i = l → ns.length = i → Gk k0 7 v ow (ns.map tSym) → Ok0 k0 ow0 ow →
    FrAt fr [(1, .lp 0 0), (2, .lp 1 0), (3, .lp 2 0), (4, vf), (13, v), (14, .t (.int .i64 i))] →
    (∀ s x', desR l ns x = some (s, x') → ∀ fr' sr' v' ow', Gk k0 7 v' ow' (s.map tSym) → Ok0 k0 ow0 ow' → FrAt fr' [(1, .lp 0 0), (2, .lp 1 0), (3, .lp 2 0), (4, vf), (13, v')] → Q (.exit 6) ⟨fr', (false, [.t (.sl p.fnl (p.funcs.map fun f => tFu f)), .t (.sl p.dnl (p.decls.map fun f => tDe f)), .t (.sl p.bnl (tSts p.body))]) :: z1 :: (false, infC x') :: sr', ow'⟩) →
    (desR l ns x = none → ∀ fr' z2 sr' ow', FrAt fr' [(2, .lp 1 0)] → Q .ret ⟨fr', (false, [.t (.sl p.fnl (p.funcs.map fun f => tFu f)), .t (.sl p.dnl (p.decls.map fun f => tDe f)), .t (.sl p.bnl (tSts p.body))]) :: (false, infC (badI 5)) :: z2 :: sr', ow'⟩) →
    Xl F gl lb12_0 ⟨fr, (false, [.t (.sl p.fnl (p.funcs.map fun f => tFu f)), .t (.sl p.dnl (p.decls.map fun f => tDe f)), .t (.sl p.bnl (tSts p.body))]) :: z1 :: (false, infC x) :: sr, ow⟩ Q ⟨⟩ := by
  subst hz
  intro l
  induction l with
  | nil =>
    intro i ns x v ow fr sr hd hln hg hk hf k1 k2
    have hd := drop_nil' hd
    simp only [FrAt_cons, FrAt_nil] at hf
    obtain ⟨f1, f2, f3, f4, f13, f14, -⟩ := hf
    refine Xl.step ?_
    simp only [lb12_0]
    have c1 : ¬ ((i : Int) < (p.decls.length : Int)) := by omega
    simp only [wA, seval, reduceCtorEq, reduceIte, f1, f2, f3, f4, f13, f14, c1, List.length_map]
    exact k1 ns x (by rw [desR]) _ _ v _ hg hk (by simp only [FrAt_cons, FrAt_nil, wFr, Nat.reduceEqDiff, Nat.one_ne_zero, Nat.zero_ne_one, reduceIte, and_self, and_true, true_and, f1, f2, f3, f4, f13])
  | cons d l ih =>
    intro i ns x v ow fr sr hd hln hg hk hf k1 k2
    obtain ⟨hx, hr, hi⟩ := drop_cons hd
    simp only [FrAt_cons, FrAt_nil] at hf
    obtain ⟨f1, f2, f3, f4, f13, f14, -⟩ := hf
    refine Xl.step ?_
    simp only [lb12_0]
    have c1 : (i : Int) < (p.decls.length : Int) := by omega
    have hB : B20 = 1100000 := rfl
    have hw1 := i64_succ hi (show p.decls.length ≤ 281474976710656 by omega)
    have hlo : ns.length ≤ 4 * B20 := by omega
    have hF := fun k K => @ok39 gl ns false k hlo K
    have hcl := hg.gl.cl
    rw [desR] at k1 k2
    cases hl : Ky.look d.name ns with
    | some s =>
      obtain ⟨j, nm', hf, hj⟩ := find_some0 hl
      have cj : ((j : Nat) : Int) ≥ 0 := by omega
      rw [hl] at k2
      simp only [wA, seval, reduceCtorEq, reduceIte, f1, f2, f3, f4, f13, f14, c1, hw1, List.length_map, Int.toNat_natCast, hi, List.getElem?_map, hx, Option.map_some, hcl, hF, hf, cj]
      exact k2 rfl _ _ _ _ (by simp only [FrAt_cons, FrAt_nil, wFr, Nat.reduceEqDiff, Nat.one_ne_zero, Nat.zero_ne_one, reduceIte, and_self, and_true, true_and, f2])
    | none =>
      rw [hl] at k1 k2
      obtain ⟨v', ow', a1, hg', hk'⟩ := hg.app (bytes := 64) (e := tSym (d.name, ⟨d.ty, false, 0, 0⟩)) hk rfl (by omega) (room7 (by rw [List.length_map]; omega))
      simp only [tSym] at a1
      cases hp : d.pub with
      | true =>
        simp only [wA, seval, reduceCtorEq, reduceIte, f1, f2, f3, f4, f13, f14, c1, hw1, List.length_map, Int.toNat_natCast, hi, List.getElem?_map, hx, Option.map_some, hcl, hF, find_none hl, bslV, chunks, cell1, T.isAgg, List.replicate, List.flatten_cons, List.flatten_nil, List.append_nil, a1, hp, ok45, ok43, ok46]
        have hdx : decI d x = ⟨x.err, grM x.bits (declM d.ty), IntKind.i64.wrap (x.pub + elM d.ty), x.sec, x.steps⟩ := by unfold decI; rw [hp]; rfl
        rw [hdx] at k1 k2
        refine ih (i + 1) (ns ++ [(d.name, ⟨d.ty, false, 0, 0⟩)]) ⟨x.err, grM x.bits (declM d.ty), IntKind.i64.wrap (x.pub + elM d.ty), x.sec, x.steps⟩ v' ow' _ _ hr ?_ ?_ hk' ?_ ?_ ?_
        · simp [hln]
        · rw [List.map_append]; exact hg'
        · simp only [FrAt_cons, FrAt_nil, wFr, Nat.reduceEqDiff, Nat.one_ne_zero, Nat.zero_ne_one, reduceIte, and_self, and_true, true_and, f1, f2, f3, f4]
        · exact k1
        · exact k2
      | false =>
        simp only [wA, seval, reduceCtorEq, reduceIte, f1, f2, f3, f4, f13, f14, c1, hw1, List.length_map, Int.toNat_natCast, hi, List.getElem?_map, hx, Option.map_some, hcl, hF, find_none hl, bslV, chunks, cell1, T.isAgg, List.replicate, List.flatten_cons, List.flatten_nil, List.append_nil, a1, hp, ok45, ok43, ok46]
        have hdx : decI d x = ⟨x.err, grM x.bits (declM d.ty), x.pub, IntKind.i64.wrap (x.sec + elM d.ty), x.steps⟩ := by unfold decI; rw [hp]; rfl
        rw [hdx] at k1 k2
        refine ih (i + 1) (ns ++ [(d.name, ⟨d.ty, false, 0, 0⟩)]) ⟨x.err, grM x.bits (declM d.ty), x.pub, IntKind.i64.wrap (x.sec + elM d.ty), x.steps⟩ v' ow' _ _ hr ?_ ?_ hk' ?_ ?_ ?_
        · simp [hln]
        · rw [List.map_append]; exact hg'
        · simp only [FrAt_cons, FrAt_nil, wFr, Nat.reduceEqDiff, Nat.one_ne_zero, Nat.zero_ne_one, reduceIte, and_self, and_true, true_and, f1, f2, f3, f4]
        · exact k1
        · exact k2
end Go.Proofs.YtdjcnfacjfnakaaGreat

/- The reference: Examine. -/
set_option maxRecDepth 10000
set_option linter.unusedVariables false
set_option linter.unusedSimpArgs false
namespace Go.Proofs.YtdjcnfacjfnakaaGreat
open Go.Pi Go.Lx Go.Ky
variable {gl : Nat → Option (List T)}

abbrev pgC (p : Pg) : List PV := [.t (.sl p.fnl (p.funcs.map fun f => tFu f)), .t (.sl p.dnl (p.decls.map fun f => tDe f)), .t (.sl p.bnl (tSts p.body))]
theorem fu_sg {p : Pg} (hp : PgQ p) {f : Fu} (hf : f ∈ p.funcs) (hv : fuB f = true) : (∀ s, s ∈ f.body → SG s) ∧ EG f.ret := by
  obtain ⟨h1, h2, h3⟩ := hp.fs f hf
  have ho := hp.ok.fo f hf
  unfold fuB at hv
  simp only [Bool.and_eq_true] at hv
  exact ⟨fun s hs => ⟨List.all_eq_true.1 hv.1.2 s hs, ho.bo s hs, Nat.le_trans (szSs_mem hs) h2⟩, hv.2, ho.ret, h3⟩
set_option maxHeartbeats 1000000 in
theorem loop312 {p : Pg} (hp : PgQ p) (hv : p.funcs.all fuB = true) (Q : Ex → S → Prop) : ∀ (l : List Fu) (i : Nat) (fz : Fz) (b : Int) (vf : PV) (ow : Ow) (fr : List PV) (sr : Sg), p.funcs.drop i = l → Gl 11 vf ow (fz.map tFz) → fz.length ≤ i → i ≤ p.funcs.length → (∀ q, q ∈ fz → q.1.params.length ≤ B20) →
    FrAt fr [(1, .lp 0 0), (2, .lp 1 0), (3, .lp 2 0), (4, vf), (5, .t (.int .i64 i))] →
    ((funsR l fz b).1 = 0 → ∀ fr' sr' vf' ow', Gl 11 vf' ow' ((funsR l fz b).2.1.map tFz) → (funsR l fz b).2.1.length ≤ p.funcs.length → (∀ q, q ∈ (funsR l fz b).2.1 → q.1.params.length ≤ B20) → FrAt fr' [(1, .lp 0 0), (2, .lp 1 0), (3, .lp 2 0), (4, vf')] → Q (.exit 0) ⟨fr', (false, pgC p) :: (false, z5C) :: (false, infC ⟨0, (funsR l fz b).2.2, 0, 0, 0⟩) :: sr', ow'⟩) →
    ((funsR l fz b).1 ≠ 0 → ∀ fr' z2 sr' ow', FrAt fr' [(2, .lp 1 0)] → Q .ret ⟨fr', (false, pgC p) :: (false, infC (badI (funsR l fz b).1)) :: z2 :: sr', ow'⟩) →
    Xl F gl lb12_3 ⟨fr, (false, pgC p) :: (false, z5C) :: (false, infC ⟨0, b, 0, 0, 0⟩) :: sr, ow⟩ Q ⟨⟩ := by
  intro l
  induction l with
  | nil =>
    intro i fz b vf ow fr sr hd hg hln hil hlp hf k1 k2
    have hd := drop_nil' hd
    simp only [FrAt_cons, FrAt_nil] at hf
    obtain ⟨f1, f2, f3, f4, f5, -⟩ := hf
    refine Xl.step ?_
    simp only [lb12_3]
    have c1 : ¬ ((i : Int) < (p.funcs.length : Int)) := by omega
    rw [funsR] at k1
    simp only [wA, seval, reduceCtorEq, reduceIte, f1, f2, f3, f4, f5, c1, List.length_map]
    exact k1 rfl _ _ vf _ hg (by show fz.length ≤ _; omega) hlp (by simp only [FrAt_cons, FrAt_nil, wFr, Nat.reduceEqDiff, Nat.one_ne_zero, Nat.zero_ne_one, reduceIte, and_self, and_true, true_and, f1, f2, f3, f4])
  | cons f l ih =>
    intro i fz b vf ow fr sr hd hg hln hil hlp hf k1 k2
    obtain ⟨hx, hr, hi⟩ := drop_cons hd
    simp only [FrAt_cons, FrAt_nil] at hf
    obtain ⟨f1, f2, f3, f4, f5, -⟩ := hf
    refine Xl.step ?_
    simp only [lb12_3]
    have c1 : (i : Int) < (p.funcs.length : Int) := by omega
    have hB : B20 = 1100000 := rfl
    have hfl := hp.fl
    have hw1 := i64_succ hi (show p.funcs.length ≤ 281474976710656 by omega)
    have hm := List.mem_of_getElem? hx
    obtain ⟨q1, q2, q3⟩ := hp.fs f hm
    obtain ⟨hSG, hEG⟩ := fu_sg hp hm (List.all_eq_true.1 hv f hm)
    have hlf : fz.length ≤ B20 := by omega
    rw [funsR] at k1 k2
    simp only [wA, seval, reduceCtorEq, reduceIte, f1, f2, f3, f4, f5, c1, hw1, List.length_map, Int.toNat_natCast, hi, List.getElem?_map, hx, Option.map_some]
    refine loop212 (v1 := .lp 0 0) (v3 := .lp 2 0) (v5 := .t (.int .i64 i)) (f := f) (cc := sr.length) hlf hg (by simp) _ fz 0 _ rfl (by simp only [FrAt_cons, FrAt_nil, wFr, Nat.reduceEqDiff, Nat.one_ne_zero, Nat.zero_ne_one, reduceIte, and_self, and_true, true_and, f1, f2, f3, f4, f5]; first | done | exact ⟨rfl, rfl⟩ | rfl) ?_ ?_
    · intro h0 fr2 hf2
      simp only [FrAt_cons, FrAt_nil] at hf2
      obtain ⟨f1, f2, f3, f4, f5, f6, -⟩ := hf2
      simp only [wA, seval, reduceCtorEq, reduceIte, f1, f2, f3, f4, f5, f6, bslV, chunks, cell1, T.isAgg, List.replicate, List.flatten_cons, List.flatten_nil, List.append_nil]
      refine loop112 (vf := vf) (v1 := .lp 0 0) (v3 := .lp 2 0) (v5 := .t (.int .i64 i)) (f := f) (cc := sr.length) (ow0 := ow) (k0 := ow.length) q1 (by simp) _ f.params 0 [] (.lit []) ow _ rfl rfl (Gk.zero _ _ _) Ok0.refl (by simp only [FrAt_cons, FrAt_nil, wFr, Nat.reduceEqDiff, Nat.one_ne_zero, Nat.zero_ne_one, reduceIte, and_self, and_true, true_and, f1, f2, f3, f4, f5, f6]; first | done | exact ⟨rfl, rfl⟩ | rfl) ?_ ?_
      · intro s hs fr3 v' ow' hg3 hk3 hf3
        simp only [FrAt_cons, FrAt_nil] at hf3
        obtain ⟨f1, f2, f3, f4, f5, f6, f8, -⟩ := hf3
        have hgf := hg.ok0 hk3
        have hcs := hg3.gl.cl
        have hcf := hgf.cl
        have hsl := parsR_len hs
        simp only [List.length_nil, Nat.zero_add] at hsl
        have hfb : f.body.length ≤ B20 := Nat.le_trans (szSs_len _) q2
        have hfb2 := szSs_len f.body
        have hBo := fun nl K => ok40 (gl := gl) (fz := fz) (fl := false) (bl := nl) (nl := false) (sts := f.body) (ns := s) hfb hlf hlp hSG (by simp) (by omega) K
        have hfun : funR fz f b = if (stsR fz f.body zR s).1.err ≠ 0 then ((stsR fz f.body zR s).1.err, fz, b)
            else if (exR fz (stsR fz f.body zR s).2 f.ret).err ≠ 0 then ((exR fz (stsR fz f.body zR s).2 f.ret).err, fz, b)
            else if FitM (exR fz (stsR fz f.body zR s).2 f.ret).t f.res = false then (6, fz, b)
            else (0, fz ++ [(f, capM (IntKind.i64.wrap ((stsR fz f.body zR s).1.steps + (exR fz (stsR fz f.body zR s).2 f.ret).steps)))], grM b (grM (stsR fz f.body zR s).1.bits (exR fz (stsR fz f.body zR s).2 f.ret).bits)) := by
          unfold funR
          rw [h0, if_neg (by simp), hs]
        have hql := stsR_len (fz := fz) f.body zR s
        have hEx := fun nl K => ok41 (gl := gl) (fz := fz) (ns := (stsR fz f.body zR s).2) nl false (by omega) hlf hlp f.ret hEG K
        simp only [tEx_eq] at hEx
        by_cases he : (stsR fz f.body zR s).1.err = 0
        · have he' : ((stsR fz f.body zR s).1.err = 0) = True := eq_true he
          rw [if_neg (show ¬ ((stsR fz f.body zR s).1.err ≠ 0) from fun x => x he)] at hfun
          by_cases hx2 : (exR fz (stsR fz f.body zR s).2 f.ret).err = 0
          · have hx2' : ((exR fz (stsR fz f.body zR s).2 f.ret).err = 0) = True := eq_true hx2
            rw [if_neg (show ¬ ((exR fz (stsR fz f.body zR s).2 f.ret).err ≠ 0) from fun x => x hx2)] at hfun
            cases hfit : FitM (exR fz (stsR fz f.body zR s).2 f.ret).t f.res with
            | false =>
              rw [hfit, if_pos rfl] at hfun
              rw [hfun, if_pos (show (6 : Int) ≠ 0 by decide)] at k2
              simp only [wA, seval, reduceCtorEq, reduceIte, f1, f2, f3, f4, f5, f6, f8, hcs, hcf, hBo, he', hEx, hx2', ok42, hfit]
              exact k2 (by simp) _ _ _ _ (by simp only [FrAt_cons, FrAt_nil, wFr, Nat.reduceEqDiff, Nat.one_ne_zero, Nat.zero_ne_one, reduceIte, and_self, and_true, true_and, f2])
            | true =>
              rw [hfit, if_neg (by simp)] at hfun
              rw [hfun] at k1 k2
              obtain ⟨vf', ow2, a1, hg4⟩ := hgf.app (bytes := 152) (e := tFz (f, capM (IntKind.i64.wrap ((stsR fz f.body zR s).1.steps + (exR fz (stsR fz f.body zR s).2 f.ret).steps)))) rfl (by omega) (room_of (by simp only [List.length_map]; omega) (by simp only [List.length_map]; omega))
              simp only [tFz] at a1
              simp only [wA, seval, reduceCtorEq, reduceIte, f1, f2, f3, f4, f5, f6, f8, hw1, hcs, hcf, hBo, he', hEx, hx2', ok42, hfit, ok43, ok44, bslV, chunks, cell1, T.isAgg, List.replicate, List.flatten_cons, List.flatten_nil, List.append_nil, a1]
              refine ih (i + 1) (fz ++ [(f, capM (IntKind.i64.wrap ((stsR fz f.body zR s).1.steps + (exR fz (stsR fz f.body zR s).2 f.ret).steps)))]) (grM b (grM (stsR fz f.body zR s).1.bits (exR fz (stsR fz f.body zR s).2 f.ret).bits)) vf' ow2 _ _ hr ?_ ?_ (by omega) ?_ ?_ ?_ ?_
              · rw [List.map_append]; exact hg4
              · simp; omega
              · intro q hq
                rcases List.mem_append.1 hq with h | h
                · exact hlp q h
                · rw [List.mem_singleton.1 h]; exact q1
              · simp only [FrAt_cons, FrAt_nil, wFr, Nat.reduceEqDiff, Nat.one_ne_zero, Nat.zero_ne_one, reduceIte, and_self, and_true, true_and, f1, f2, f3]
              · exact k1
              · exact k2
          · rw [if_pos hx2] at hfun
            rw [hfun, if_pos hx2] at k2
            simp only [wA, seval, reduceCtorEq, reduceIte, f1, f2, f3, f4, f5, f6, f8, hcs, hcf, hBo, he', hEx, hx2]
            exact k2 hx2 _ _ _ _ (by simp only [FrAt_cons, FrAt_nil, wFr, Nat.reduceEqDiff, Nat.one_ne_zero, Nat.zero_ne_one, reduceIte, and_self, and_true, true_and, f2])
        · rw [if_pos he] at hfun
          rw [hfun, if_pos he] at k2
          simp only [wA, seval, reduceCtorEq, reduceIte, f1, f2, f3, f4, f5, f6, f8, hcs, hcf, hBo, he]
          exact k2 he _ _ _ _ (by simp only [FrAt_cons, FrAt_nil, wFr, Nat.reduceEqDiff, Nat.one_ne_zero, Nat.zero_ne_one, reduceIte, and_self, and_true, true_and, f2])
      · intro hs fr3 ow' hf3
        have hfun : funR fz f b = (5, fz, b) := by
          unfold funR
          rw [h0, if_neg (by simp), hs]
        rw [hfun, if_pos (show (5 : Int) ≠ 0 by decide)] at k2
        exact k2 (by simp) _ _ _ _ hf3
    · intro h0 fr2 hf2
      have hfun : funR fz f b = (5, fz, b) := by
        unfold funR
        rw [h0, if_pos rfl]
      rw [hfun, if_pos (show (5 : Int) ≠ 0 by decide)] at k2
      exact k2 (by simp) _ _ _ _ hf2
theorem desR_e : ∀ {l : List De} {ns s : Ns} {x y : Inf}, desR l ns x = some (s, y) → y.err = x.err
  | [], ns, s, x, y, h => by rw [desR] at h; injection h with h; injection h with _ h; subst h; rfl
  | p :: r, ns, s, x, y, h => by
    rw [desR] at h
    split at h
    · cases h
    · rw [desR_e h]; rfl
theorem desR_s : ∀ {l : List De} {ns s : Ns} {x y : Inf}, desR l ns x = some (s, y) → y.steps = x.steps
  | [], ns, s, x, y, h => by rw [desR] at h; injection h with h; injection h with _ h; subst h; rfl
  | p :: r, ns, s, x, y, h => by
    rw [desR] at h
    split at h
    · cases h
    · rw [desR_s h]; rfl
theorem rv_fu {p : Pg} (h : rvP p = 0) : p.funcs.all fuB = true ∧ p.decls.all deB = true ∧ p.body.all stB = true := by
  unfold rvP at h
  have h1 : p.funcs.all fmB = true := by
    cases hh : p.funcs.all fmB with
    | true => rfl
    | false => rw [hh, if_pos rfl] at h; exact absurd h (by decide)
  rw [h1, if_neg (by simp)] at h
  have h2 : p.decls.all deB = true := by
    cases hh : p.decls.all deB with
    | true => rfl
    | false => rw [hh, if_pos rfl] at h; exact absurd h (by decide)
  rw [h2, if_neg (by simp)] at h
  refine ⟨?_, h2, ?_⟩
  · rw [← h1]; congr 1; funext f; exact (fmB_eq f).symm
  · cases hh : p.body.all stB with
    | true => rfl
    | false => rw [hh, if_pos rfl] at h; exact absurd h (by decide)
set_option maxHeartbeats 1000000 in
theorem ok12 {p : Pg} (hp : PgQ p) (K : PV → Prop) : XcP F gl 12 [.agg (tPg p)] K ⟨⟩ ↔ K (.t (.agg (tInf (exmR p)))) := by
  refine Ret.iff (Ret.of F12 rfl ?_)
  simp only [ir12]
  have hV := fun K => ok38 (gl := gl) hp K
  by_cases hv : rvP p = 0
  · have hv' : (rvP p = 0) = True := eq_true hv
    obtain ⟨v1, v2, v3⟩ := rv_fu hv
    have hB : B20 = 1100000 := rfl
    have hfl := hp.fl
    have hdl := hp.dl
    have hM : exmR p = if (funsR p.funcs [] 0).1 ≠ 0 then badI (funsR p.funcs [] 0).1
        else match desR p.decls [] ⟨0, (funsR p.funcs [] 0).2.2, 0, 0, 0⟩ with
        | none => badI 5
        | some (ns, x) =>
          if (stsR (funsR p.funcs [] 0).2.1 p.body zR ns).1.err ≠ 0 then badI (stsR (funsR p.funcs [] 0).2.1 p.body zR ns).1.err
          else if (stsR (funsR p.funcs [] 0).2.1 p.body zR ns).1.steps > 20000 then badI 3
          else ⟨0, grM x.bits (stsR (funsR p.funcs [] 0).2.1 p.body zR ns).1.bits, x.pub, x.sec, (stsR (funsR p.funcs [] 0).2.1 p.body zR ns).1.steps⟩ := by
      unfold exmR
      rw [if_neg (show ¬ (rvP p ≠ 0) from fun x => x hv)]; rfl
    rw [hM]
    simp only [wA, seval, reduceCtorEq, reduceIte, hV, hv', bslV, chunks, cell1, T.isAgg, List.replicate, List.flatten_cons, List.flatten_nil, List.append_nil]
    refine loop312 hp v1 _ p.funcs 0 [] 0 (.lit []) _ _ [] rfl (Gl.zero 11 _) (by simp) (by omega) (by simp) (by simp only [FrAt_cons, FrAt_nil, wFr, Nat.reduceEqDiff, Nat.one_ne_zero, Nat.zero_ne_one, reduceIte, and_self, and_true, true_and]; first | done | exact ⟨rfl, rfl⟩ | rfl) ?_ ?_
    · intro he fr1 sr1 vf ow1 hg1 hl1 hq1 hf1
      simp only [FrAt_cons, FrAt_nil] at hf1
      obtain ⟨f1, f2, f3, f4, -⟩ := hf1
      rw [if_neg (show ¬ ((funsR p.funcs [] 0).1 ≠ 0) from fun x => x he)]
      generalize (funsR p.funcs [] 0).2.1 = fz at *
      generalize (funsR p.funcs [] 0).2.2 = b at *
      simp only [wA, seval, reduceCtorEq, reduceIte, f1, f2, f3, f4, bslV, chunks, cell1, T.isAgg, List.replicate, List.flatten_cons, List.flatten_nil, List.append_nil]
      refine loop012 (p := p) (vf := vf) (ow0 := ow1) (k0 := ow1.length) hdl rfl _ p.decls 0 [] ⟨0, b, 0, 0, 0⟩ (.lit []) ow1 _ _ rfl rfl (Gk.zero _ _ _) Ok0.refl (by simp only [FrAt_cons, FrAt_nil, wFr, Nat.reduceEqDiff, Nat.one_ne_zero, Nat.zero_ne_one, reduceIte, and_self, and_true, true_and, f1, f2, f3, f4]; first | done | exact ⟨rfl, rfl⟩ | rfl) ?_ ?_
      · intro s x hs fr2 sr2 v' ow2 hg2 hk2 hf2
        simp only [FrAt_cons, FrAt_nil] at hf2
        obtain ⟨f1, f2, f3, f4, f13, -⟩ := hf2
        rw [hs]
        simp only
        have hcs := hg2.gl.cl
        have hcf := (hg1.ok0 hk2).cl
        have hsl := desR_len hs
        simp only [List.length_nil, Nat.zero_add] at hsl
        have hbs := hp.bs
        have hBo := fun nl K => ok40 (gl := gl) (fz := fz) (fl := false) (bl := nl) (nl := false) (sts := p.body) (ns := s) (Nat.le_trans (szSs_len _) hp.bs) (by omega) hq1 (fun a ha => ⟨List.all_eq_true.1 v3 a ha, hp.ok.bo a ha, Nat.le_trans (szSs_mem ha) hp.bs⟩) (by simp) (by omega) K
        have hxe : x.err = 0 := desR_e hs
        have hxs : x.steps = 0 := desR_s hs
        by_cases he2 : (stsR fz p.body zR s).1.err = 0
        · have he2' : ((stsR fz p.body zR s).1.err = 0) = True := eq_true he2
          rw [if_neg (show ¬ ((stsR fz p.body zR s).1.err ≠ 0) from fun x => x he2)]
          by_cases hst : (stsR fz p.body zR s).1.steps > 20000
          · rw [if_pos hst]
            simp only [wA, seval, reduceCtorEq, reduceIte, f1, f2, f3, f4, f13, hcs, hcf, hBo, he2', hst]
            try rfl
          · rw [if_neg hst]
            simp only [wA, seval, reduceCtorEq, reduceIte, f1, f2, f3, f4, f13, hcs, hcf, hBo, he2', hst, ok43, hxe]
            try rfl
        · rw [if_pos he2]
          simp only [wA, seval, reduceCtorEq, reduceIte, f1, f2, f3, f4, f13, hcs, hcf, hBo, he2]
          try rfl
      · intro hs fr2 z2 sr2 ow2 hf2
        simp only [FrAt_cons, FrAt_nil] at hf2
        obtain ⟨f2, -⟩ := hf2
        rw [hs]
        simp only [wA, seval, reduceCtorEq, reduceIte, f2]
        try rfl
    · intro he fr1 z2 sr1 ow1 hf1
      simp only [FrAt_cons, FrAt_nil] at hf1
      obtain ⟨f2, -⟩ := hf1
      rw [if_pos he]
      simp only [wA, seval, reduceCtorEq, reduceIte, f2]
      try rfl
  · have hM : exmR p = badI 1 := by unfold exmR; rw [if_pos hv]
    rw [hM]
    simp only [wA, seval, reduceCtorEq, reduceIte, hV, hv]
    try rfl
end Go.Proofs.YtdjcnfacjfnakaaGreat
