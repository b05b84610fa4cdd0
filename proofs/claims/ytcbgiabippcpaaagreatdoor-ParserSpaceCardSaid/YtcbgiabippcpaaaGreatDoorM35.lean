/- The reference's Same: a program is the same as itself. -/
import Derived.Test.YtcbgiabippcpaaaGreatDoorM32
import Derived.Test.YtcbgiabippcpaaaGreatDoorKx44
import Derived.Test.YtcbgiabippcpaaaGreatDoorM30
import Derived.Test.YtcbgiabippcpaaaGreatDoorKx44
set_option maxRecDepth 10000
set_option linter.unusedVariables false
set_option linter.unusedSimpArgs false
namespace Go.Proofs.YtcbgiabippcpaaaGreatDoor
open Go.Pi Go.Lx Go.Ky
variable {gl : Nat → Option (List T)}

abbrev eL (e : Exp) : List T := [.int .i64 e.op, .int .u64 e.val, .str e.name, .sl e.nl (tExs e.args)]
abbrev fL (f : Fu) : List T := tFu f
set_option maxHeartbeats 1000000 in
theorem loop13 {e : Exp} (hl : e.args.length ≤ B20) (ih : ∀ a, a ∈ e.args → ∀ K, XcP F gl 13 [.agg (eL a), .agg (eL a)] K ⟨⟩ ↔ K (.t (.bool true))) {ow : Ow} (Q : Ex → S → Prop) : ∀ (r : List Exp) (i : Nat) (fr : List PV), e.args.drop i = r →
    FrAt fr [(2, .lp 0 0), (3, .lp 1 0), (5, .t (.int .i64 i))] → (∀ fr', Q (.exit 0) ⟨fr', [(false, (eL e).map .t), (false, (eL e).map .t)], ow⟩) →
    Xl F gl lb13_0 ⟨fr, [(false, (eL e).map .t), (false, (eL e).map .t)], ow⟩ Q ⟨⟩ := by
  intro r
  have hb : B20 = 1100000 := rfl
  induction r with
  | nil =>
    intro i fr hd hf h1
    have hd := drop_nil' hd
    simp only [FrAt_cons, FrAt_nil] at hf
    obtain ⟨f2, f3, f5, -⟩ := hf
    refine Xl.step ?_
    simp only [lb13_0]
    have c1 : ((i : Int) < (e.args.length : Int)) = False := eq_false (by omega)
    simp only [wA, seval, reduceCtorEq, reduceIte, f2, f3, f5, tExs_len, c1, List.map_cons, List.map_nil]
    exact h1 _
  | cons x r ih2 =>
    intro i fr hd hf h1
    obtain ⟨hx, hr, hi⟩ := drop_cons hd
    simp only [FrAt_cons, FrAt_nil] at hf
    obtain ⟨f2, f3, f5, -⟩ := hf
    refine Xl.step ?_
    simp only [lb13_0]
    have c1 : ((i : Int) < (e.args.length : Int)) = True := eq_true (by omega)
    have hw1 : IntKind.wrap .i64 ((i : Int) + 1) = ((i + 1 : Nat) : Int) := by rw [IntWalk.i64_in _ (by omega)]; omega
    have hc := ih x (List.mem_of_getElem? hx)
    have c0 : (0 ≤ (i : Int)) = True := eq_true (by omega)
    simp only [wA, seval, reduceCtorEq, reduceIte, f2, f3, f5, tExs_len, tExs_get, hx, Option.map_some, tEx_eq, hc, hw1, c0, c1, Int.toNat_natCast, List.map_cons, List.map_nil]
    exact ih2 (i + 1) _ hr (by simp only [FrAt_cons, FrAt_nil, wFr, Nat.reduceEqDiff, Nat.one_ne_zero, Nat.zero_ne_one, reduceIte, and_self, and_true, true_and, f2, f3]) h1
set_option maxHeartbeats 1000000 in
theorem ok13 : ∀ e : Exp, szE e ≤ B20 → ∀ K, XcP F gl 13 [.agg (eL e), .agg (eL e)] K ⟨⟩ ↔ K (.t (.bool true)) := by
  refine Exp.ind fun e ih hs K => ?_
  have hz := szE_eq e
  have hl := szEs_len e.args
  refine Ret.iff (Ret.of F13 rfl ?_)
  simp only [ir13]
  simp only [wA, seval, reduceCtorEq, reduceIte, tExs_len, BEq.rfl, bne_self_eq_false, Bool.not_true, ne_eq, not_true_eq_false, decide_false]
  refine loop13 (e := e) (by omega) (fun a ha => ih a ha (by have := szEs_mem ha; omega)) _ e.args 0 _ rfl (by simp only [FrAt_cons, FrAt_nil, wFr, Nat.reduceEqDiff, Nat.one_ne_zero, Nat.zero_ne_one, reduceIte, and_self, and_true, true_and]) ?_
  intro fr'
  simp only [wA, seval, reduceCtorEq, reduceIte]
set_option maxHeartbeats 2000000 in
theorem loop30 {n1 n2 : Bool} {l : List St} (hl : l.length ≤ B20) (hx : ∀ a, a ∈ l → szE a.ex ≤ B20) (ih : ∀ a, a ∈ l → ∀ n1 n2 K, XcP F gl 30 [.sl n1 (tSts a.body), .sl n2 (tSts a.body)] K ⟨⟩ ↔ K (.t (.bool true))) {ow : Ow} (Q : Ex → S → Prop) : ∀ (r : List St) (i : Nat) (fr : List PV) (sg : Sg), l.drop i = r →
    FrAt fr [(0, .t (.sl n1 (tSts l))), (1, .t (.sl n2 (tSts l))), (5, .t (.int .i64 i))] → (∀ fr' sg', Q (.exit 0) ⟨fr', sg', ow⟩) →
    Xl F gl lb30_0 ⟨fr, sg, ow⟩ Q ⟨⟩ := by
  intro r
  have hb : B20 = 1100000 := rfl
  induction r with
  | nil =>
    intro i fr sg hd hf h1
    have hd := drop_nil' hd
    simp only [FrAt_cons, FrAt_nil] at hf
    obtain ⟨f0, f1, f5, -⟩ := hf
    refine Xl.step ?_
    simp only [lb30_0]
    have c1 : ((i : Int) < (l.length : Int)) = False := eq_false (by omega)
    simp only [wA, seval, reduceCtorEq, reduceIte, f0, f1, f5, tSts_len, c1]
    exact h1 _ _
  | cons x r ih2 =>
    intro i fr sg hd hf h1
    obtain ⟨hxx, hr, hi⟩ := drop_cons hd
    simp only [FrAt_cons, FrAt_nil] at hf
    obtain ⟨f0, f1, f5, -⟩ := hf
    refine Xl.step ?_
    simp only [lb30_0]
    have hm := List.mem_of_getElem? hxx
    have c1 : ((i : Int) < (l.length : Int)) = True := eq_true (by omega)
    have hw1 : IntKind.wrap .i64 ((i : Int) + 1) = ((i + 1 : Nat) : Int) := by rw [IntWalk.i64_in _ (by omega)]; omega
    have hc := ih x hm
    have hE := ok13 (gl := gl) x.ex (hx x hm)
    have c0 : (0 ≤ (i : Int)) = True := eq_true (by omega)
    simp only [wA, seval, reduceCtorEq, reduceIte, f0, f1, f5, tSts_len, tSts_get, hxx, Option.map_some, tSt_eq, hc, hE, hw1, c0, c1, Int.toNat_natCast, keepsV_nil, get_n0, get_n1, set_n0, set_n1, BEq.rfl, bne_self_eq_false, Bool.not_true, ne_eq, not_true_eq_false, decide_false]
    exact ih2 (i + 1) _ _ hr (by simp only [FrAt_cons, FrAt_nil, wFr, Nat.reduceEqDiff, Nat.one_ne_zero, Nat.zero_ne_one, reduceIte, and_self, and_true, true_and, f0, f1]) h1
theorem ok30_aux : ∀ (n : Nat) (l : List St), szSs l ≤ n → n ≤ B20 → ∀ n1 n2 K, XcP F gl 30 [.sl n1 (tSts l), .sl n2 (tSts l)] K ⟨⟩ ↔ K (.t (.bool true)) := by
  intro n
  induction n using Nat.strongRecOn with
  | _ n ih =>
    intro l hs hn n1 n2 K
    have hl := szSs_len l
    refine Ret.iff (Ret.of F30 rfl ?_)
    simp only [ir30]
    simp only [wA, seval, reduceCtorEq, reduceIte, tSts_len, BEq.rfl, bne_self_eq_false, Bool.not_true, ne_eq, not_true_eq_false, decide_false]
    refine loop30 (n1 := n1) (n2 := n2) (l := l) (by omega) (fun a ha => ?_) (fun a ha => ?_) _ l 0 _ _ rfl (by simp only [FrAt_cons, FrAt_nil, wFr, Nat.reduceEqDiff, Nat.one_ne_zero, Nat.zero_ne_one, reduceIte, and_self, and_true, true_and]) ?_
    · have h1 := szSs_mem ha
      rw [szS_eq] at h1
      rw [szE_eq]
      omega
    · have h1 := szSs_mem ha
      rw [szS_eq] at h1
      exact ih (szSs a.body) (by omega) a.body (Nat.le_refl _) (by omega)
    · intro fr' sg'
      simp only [wA, seval, reduceCtorEq, reduceIte]
theorem ok30 {l : List St} (hs : szSs l ≤ B20) (n1 n2 : Bool) (K : PV → Prop) : XcP F gl 30 [.sl n1 (tSts l), .sl n2 (tSts l)] K ⟨⟩ ↔ K (.t (.bool true)) := ok30_aux _ l (Nat.le_refl _) hs n1 n2 K
end Go.Proofs.YtcbgiabippcpaaaGreatDoor

/- The reference's Same: functions and programs. -/
set_option maxRecDepth 10000
set_option linter.unusedVariables false
set_option linter.unusedSimpArgs false
namespace Go.Proofs.YtcbgiabippcpaaaGreatDoor
open Go.Pi Go.Lx Go.Ky
variable {gl : Nat → Option (List T)}

set_option maxHeartbeats 1000000 in
theorem loop31 {f : Fu} (hl : f.params.length ≤ 20000) {ow : Ow} (Q : Ex → S → Prop) : ∀ (r : List Pa) (i : Nat) (fr : List PV), f.params.drop i = r →
    FrAt fr [(2, .lp 0 0), (3, .lp 1 0), (5, .t (.int .i64 i))] → (∀ fr', Q (.exit 0) ⟨fr', [(false, (tFu f).map .t), (false, (tFu f).map .t)], ow⟩) →
    Xl F gl lb31_0 ⟨fr, [(false, (tFu f).map .t), (false, (tFu f).map .t)], ow⟩ Q ⟨⟩ := by
  intro r
  induction r with
  | nil =>
    intro i fr hd hf h1
    have hd := drop_nil' hd
    simp only [FrAt_cons, FrAt_nil] at hf
    obtain ⟨f2, f3, f5, -⟩ := hf
    refine Xl.step ?_
    simp only [lb31_0]
    have c1 : ((i : Int) < (f.params.length : Int)) = False := eq_false (by omega)
    simp only [wA, seval, reduceCtorEq, reduceIte, f2, f3, f5, List.length_map, c1, List.map_cons, List.map_nil]
    exact h1 _
  | cons x r ih2 =>
    intro i fr hd hf h1
    obtain ⟨hx, hr, hi⟩ := drop_cons hd
    simp only [FrAt_cons, FrAt_nil] at hf
    obtain ⟨f2, f3, f5, -⟩ := hf
    refine Xl.step ?_
    simp only [lb31_0]
    have c1 : ((i : Int) < (f.params.length : Int)) = True := eq_true (by omega)
    have hw1 : IntKind.wrap .i64 ((i : Int) + 1) = ((i + 1 : Nat) : Int) := by rw [IntWalk.i64_in _ (by omega)]; omega
    have c0 : (0 ≤ (i : Int)) = True := eq_true (by omega)
    simp only [wA, seval, reduceCtorEq, reduceIte, f2, f3, f5, List.length_map, List.getElem?_map, hx, Option.map_some, hw1, c0, c1, Int.toNat_natCast, List.map_cons, List.map_nil, BEq.rfl, bne_self_eq_false, Bool.not_true, ne_eq, not_true_eq_false, decide_false]
    exact ih2 (i + 1) _ hr (by simp only [FrAt_cons, FrAt_nil, wFr, Nat.reduceEqDiff, Nat.one_ne_zero, Nat.zero_ne_one, reduceIte, and_self, and_true, true_and, f2, f3]) h1
set_option maxHeartbeats 1000000 in
theorem ok31 {f : Fu} (hf : FuB f) (K : PV → Prop) : XcP F gl 31 [.agg (tFu f), .agg (tFu f)] K ⟨⟩ ↔ K (.t (.bool true)) := by
  refine Ret.iff (Ret.of F31 rfl ?_)
  simp only [ir31]
  have hS := ok30 (gl := gl) hf.bd f.bnl f.bnl
  have hE := ok13 (gl := gl) f.ret hf.rt
  simp only [wA, seval, reduceCtorEq, reduceIte, List.length_map, hS, hE, BEq.rfl, bne_self_eq_false, Bool.not_true, ne_eq, not_true_eq_false, decide_false]
  refine loop31 (f := f) hf.ps _ f.params 0 _ rfl (by simp only [FrAt_cons, FrAt_nil, wFr, Nat.reduceEqDiff, Nat.one_ne_zero, Nat.zero_ne_one, reduceIte, and_self, and_true, true_and]) ?_
  intro fr'
  simp only [wA, seval, reduceCtorEq, reduceIte]
set_option maxHeartbeats 1000000 in
theorem loopF11 {p : Pg} (hp : PgR p) {ow : Ow} (Q : Ex → S → Prop) : ∀ (r : List Fu) (i : Nat) (fr : List PV), p.funcs.drop i = r →
    FrAt fr [(2, .lp 0 0), (3, .lp 1 0), (5, .t (.int .i64 i))] → (∀ fr', FrAt fr' [(2, .lp 0 0), (3, .lp 1 0)] → Q (.exit 0) ⟨fr', [(false, (tPg p).map .t), (false, (tPg p).map .t)], ow⟩) →
    Xl F gl lb11_1 ⟨fr, [(false, (tPg p).map .t), (false, (tPg p).map .t)], ow⟩ Q ⟨⟩ := by
  intro r
  have hl := hp.fl
  induction r with
  | nil =>
    intro i fr hd hf h1
    have hd := drop_nil' hd
    simp only [FrAt_cons, FrAt_nil] at hf
    obtain ⟨f2, f3, f5, -⟩ := hf
    refine Xl.step ?_
    simp only [lb11_1]
    have c1 : ((i : Int) < (p.funcs.length : Int)) = False := eq_false (by omega)
    simp only [wA, seval, reduceCtorEq, reduceIte, f2, f3, f5, List.length_map, c1, List.map_cons, List.map_nil]
    exact h1 _ (by simp only [FrAt_cons, FrAt_nil, wFr, Nat.reduceEqDiff, Nat.one_ne_zero, Nat.zero_ne_one, reduceIte, and_self, and_true, true_and, f2, f3])
  | cons x r ih2 =>
    intro i fr hd hf h1
    obtain ⟨hx, hr, hi⟩ := drop_cons hd
    simp only [FrAt_cons, FrAt_nil] at hf
    obtain ⟨f2, f3, f5, -⟩ := hf
    refine Xl.step ?_
    simp only [lb11_1]
    have c1 : ((i : Int) < (p.funcs.length : Int)) = True := eq_true (by omega)
    have hw1 : IntKind.wrap .i64 ((i : Int) + 1) = ((i + 1 : Nat) : Int) := by rw [IntWalk.i64_in _ (by omega)]; omega
    have hc := ok31 (gl := gl) (hp.fs x (List.mem_of_getElem? hx))
    have c0 : (0 ≤ (i : Int)) = True := eq_true (by omega)
    simp only [wA, seval, reduceCtorEq, reduceIte, f2, f3, f5, List.length_map, List.getElem?_map, hx, Option.map_some, hc, hw1, c0, c1, Int.toNat_natCast, List.map_cons, List.map_nil]
    exact ih2 (i + 1) _ hr (by simp only [FrAt_cons, FrAt_nil, wFr, Nat.reduceEqDiff, Nat.one_ne_zero, Nat.zero_ne_one, reduceIte, and_self, and_true, true_and, f2, f3]) h1
set_option maxHeartbeats 1000000 in
theorem loopD11 {p : Pg} (hp : PgR p) {ow : Ow} (Q : Ex → S → Prop) : ∀ (r : List De) (i : Nat) (fr : List PV), p.decls.drop i = r →
    FrAt fr [(2, .lp 0 0), (3, .lp 1 0), (6, .t (.int .i64 i))] → (∀ fr', Q (.exit 2) ⟨fr', [(false, (tPg p).map .t), (false, (tPg p).map .t)], ow⟩) →
    Xl F gl lb11_0 ⟨fr, [(false, (tPg p).map .t), (false, (tPg p).map .t)], ow⟩ Q ⟨⟩ := by
  intro r
  have hl := hp.dl
  induction r with
  | nil =>
    intro i fr hd hf h1
    have hd := drop_nil' hd
    simp only [FrAt_cons, FrAt_nil] at hf
    obtain ⟨f2, f3, f5, -⟩ := hf
    refine Xl.step ?_
    simp only [lb11_0]
    have c1 : ((i : Int) < (p.decls.length : Int)) = False := eq_false (by omega)
    simp only [wA, seval, reduceCtorEq, reduceIte, f2, f3, f5, List.length_map, c1, List.map_cons, List.map_nil]
    exact h1 _
  | cons x r ih2 =>
    intro i fr hd hf h1
    obtain ⟨hx, hr, hi⟩ := drop_cons hd
    simp only [FrAt_cons, FrAt_nil] at hf
    obtain ⟨f2, f3, f5, -⟩ := hf
    refine Xl.step ?_
    simp only [lb11_0]
    have c1 : ((i : Int) < (p.decls.length : Int)) = True := eq_true (by omega)
    have hw1 : IntKind.wrap .i64 ((i : Int) + 1) = ((i + 1 : Nat) : Int) := by rw [IntWalk.i64_in _ (by omega)]; omega
    have c0 : (0 ≤ (i : Int)) = True := eq_true (by omega)
    simp only [wA, seval, reduceCtorEq, reduceIte, f2, f3, f5, List.length_map, List.getElem?_map, hx, Option.map_some, hw1, c0, c1, Int.toNat_natCast, List.map_cons, List.map_nil, BEq.rfl, bne_self_eq_false, Bool.not_true, ne_eq, not_true_eq_false, decide_false]
    exact ih2 (i + 1) _ hr (by simp only [FrAt_cons, FrAt_nil, wFr, Nat.reduceEqDiff, Nat.one_ne_zero, Nat.zero_ne_one, reduceIte, and_self, and_true, true_and, f2, f3]) h1
set_option maxHeartbeats 1000000 in
theorem ok11 {p : Pg} (hp : PgR p) (K : PV → Prop) : XcP F gl 11 [.agg (tPg p), .agg (tPg p)] K ⟨⟩ ↔ K (.t (.bool true)) := by
  refine Ret.iff (Ret.of F11 rfl ?_)
  simp only [ir11]
  have hS := ok30 (gl := gl) hp.bd p.bnl p.bnl
  simp only [wA, seval, reduceCtorEq, reduceIte, List.length_map, hS, BEq.rfl, bne_self_eq_false, Bool.not_true, ne_eq, not_true_eq_false, decide_false]
  refine loopF11 (p := p) hp _ p.funcs 0 _ rfl (by simp only [FrAt_cons, FrAt_nil, wFr, Nat.reduceEqDiff, Nat.one_ne_zero, Nat.zero_ne_one, reduceIte, and_self, and_true, true_and]) ?_
  intro fr' hf
  simp only [FrAt_cons, FrAt_nil] at hf
  obtain ⟨f2, f3, -⟩ := hf
  simp only [wA, seval, reduceCtorEq, reduceIte, f2, f3]
  refine loopD11 (p := p) hp _ p.decls 0 _ rfl (by simp only [FrAt_cons, FrAt_nil, wFr, Nat.reduceEqDiff, Nat.one_ne_zero, Nat.zero_ne_one, reduceIte, and_self, and_true, true_and, f2, f3]) ?_
  intro fr'
  simp only [wA, seval, reduceCtorEq, reduceIte]
end Go.Proofs.YtcbgiabippcpaaaGreatDoor

/- The law of blanks and comments. -/
set_option maxRecDepth 10000
set_option linter.unusedVariables false
set_option linter.unusedSimpArgs false
namespace Go.Proofs.YtcbgiabippcpaaaGreatDoor
open Go.Pi Go.Lx Go.Ky
variable {gl : Nat → Option (List T)}

theorem xO_if {c : Prop} [Decidable c] {α : Type} {x : α} {k : α → Prop} (h : c) (hk : k x) : xO (if c then some x else none) k ⟨⟩ := by rw [if_pos h]; exact hk
def tGs (gs : List Nat) : List (List T) := gs.map fun (n : Nat) => [.int .u8 (n : Int)]
theorem lit5 {k : Nat} (h : k < 5) : ([[.str [32]], [.str [10]], [.str [9, 32]], [.str [32, 45, 45, 32, 97, 32, 99, 111, 109, 109, 101, 110, 116, 59, 32, 102, 110, 32, 40, 10]], [.str [32, 45, 45, 13, 10, 32]]] : List (List T))[k]? = some [.str (gapsP.getD k [32])] := by
  have : k = 0 ∨ k = 1 ∨ k = 2 ∨ k = 3 ∨ k = 4 := by omega
  rcases this with h | h | h | h | h <;> rw [h] <;> rfl
set_option maxHeartbeats 2000000 in
theorem loop3 {nl : Bool} {gs : List Nat} (hgs : gs.length ≤ 140737488355328) (hgb : ∀ g, g ∈ gs → g ≤ 255) {l : List Tok} (hl : l.length ≤ 400) {y : Bool × List PV} {w7 : PV} {ow : Ow} (Q : Ex → S → Prop) : ∀ (r : List Tok) (i : Nat) (out : List UInt8) (fr : List PV) (sg : Sg), l.drop i = r → out.length + (behT (prsP gs i r)).length ≤ 20000 → sg[0]? = some y →
    FrAt fr [(1, .t (.sl nl (tGs gs))), (5, .lp 0 0), (7, w7), (11, .t (.str out)), (46, .t (.sl false (l.map tTok))), (47, .t (.int .i64 l.length)), (48, .t (.int .i64 i))] →
    (∀ fr' sg', sg'[0]? = some y → FrAt fr' [(5, .lp 0 0), (7, w7), (11, .t (.str (out ++ behT (prsP gs i r))))] → Q (.exit 0) ⟨fr', sg', ow⟩) →
    Xl F gl lb3_0 ⟨fr, sg, ow⟩ Q ⟨⟩ := by
  intro r
  induction r with
  | nil =>
    intro i out fr sg hd hb hy hf h1
    have hd := drop_nil' hd
    simp only [FrAt_cons, FrAt_nil] at hf
    obtain ⟨f1, f5, f7, f11, f46, f47, f48, -⟩ := hf
    refine Xl.step ?_
    simp only [lb3_0]
    have c1 : ((i : Int) < (l.length : Int)) = False := eq_false (by omega)
    simp only [wA, seval, reduceCtorEq, reduceIte, f46, f47, f48, c1]
    exact h1 _ _ hy (by simp only [FrAt_cons, FrAt_nil, wFr, Nat.reduceEqDiff, Nat.one_ne_zero, Nat.zero_ne_one, reduceIte, and_self, and_true, true_and, f5, f7, f11, prsP, behT, List.append_nil])
  | cons t r ih =>
    intro i out fr sg hd hb hy hf h1
    obtain ⟨hx, hr, hi⟩ := drop_cons hd
    simp only [FrAt_cons, FrAt_nil] at hf
    obtain ⟨f1, f5, f7, f11, f46, f47, f48, -⟩ := hf
    have c1 : ((i : Int) < (l.length : Int)) = True := eq_true (by omega)
    have c0 : (0 ≤ (i : Int)) = True := eq_true (by omega)
    have hw1 : IntKind.wrap .i64 ((i : Int) + 1) = ((i + 1 : Nat) : Int) := by rw [IntWalk.i64_in _ (by omega)]; omega
    have ej : behT (prsP gs i (t :: r)) = t.text ++ (gapP gs i ++ behT (prsP gs (i + 1) r)) := rfl
    rw [ej] at hb h1
    simp only [List.length_append] at hb
    have hsl := lt_of_get hy
    have hglen : (tGs gs).length = gs.length := by simp [tGs]
    have fin : ∀ fr2, FrAt fr2 [(1, .t (.sl nl (tGs gs))), (5, .lp 0 0), (7, w7), (11, .t (.str (out ++ (t.text ++ gapP gs i)))), (46, .t (.sl false (l.map tTok))), (47, .t (.int .i64 l.length)), (48, .t (.int .i64 ((i + 1 : Nat) : Int)))] → ∀ z, Xl F gl lb3_0 ⟨fr2, sg ++ [z], ow⟩ Q ⟨⟩ := by
      intro fr2 hf2 z
      refine ih (i + 1) _ fr2 _ hr (by simp only [List.length_append]; omega) (by rw [app_get hsl]; exact hy) hf2 fun fr' sg' hy' hf' => h1 fr' sg' hy' ?_
      rw [List.append_assoc, List.append_assoc] at hf'
      exact hf'
    obtain ⟨kd, tx, vl, ps⟩ := t
    simp only at hx hb fin
    refine Xl.step ?_
    simp only [lb3_0]
    by_cases hg : gs = []
    · have eg : gapP gs i = [32] := by unfold gapP; rw [if_pos hg]
      rw [eg] at fin hb
      simp only [List.length_cons, List.length_nil] at hb
      have c2 : ((gs.length : Int) > 0) = False := eq_false (by rw [hg]; decide)
      have p1 : tx.length + 1 ≤ 4611686018427387904 := by omega
      have p2 : out.length + (tx.length + 1) ≤ 4611686018427387904 := by omega
      have l5 := lit5 (k := 0) (by decide)
      simp only [wA, seval, reduceCtorEq, reduceIte, f1, f5, f7, f11, f46, f47, f48, c0, c1, c2, hw1, hglen, List.getElem?_map, hx, Option.map_some, tTok, bslV, chunks, cell1, T.isAgg, List.replicate, List.flatten_cons, List.flatten_nil, List.append_nil, List.length_append, p1, p2, Int.toNat_natCast]
      repeat' (first | ((with_reducible first | refine xG_dec ?_ ?_ | refine xG_ndec ?_ ?_ | refine xG_nsplit ?_ ?_ | refine xG_split ?_ ?_ | refine xC_dec ?_ ?_ | refine xC_ndec ?_ ?_ | refine xC_nsplit ?_ ?_ | refine xC_split ?_ ?_) <;> intro h <;> (try simp only [wA, seval, reduceCtorEq, reduceIte, f1, f5, f7, f11, f46, f47, f48, c0, c1, c2, hw1, hglen, List.getElem?_map, hx, Option.map_some, tTok, bslV, chunks, cell1, T.isAgg, List.replicate, List.flatten_cons, List.flatten_nil, List.append_nil, List.length_append, p1, p2, Int.toNat_natCast, h])) | ((with_reducible refine xO_if (by first | omega | (simp only [List.length_append, List.length_cons, List.length_nil]; omega)) ?_); (try simp only [wA, seval, reduceCtorEq, reduceIte, f1, f5, f7, f11, f46, f47, f48, c0, c1, c2, hw1, hglen, List.getElem?_map, hx, Option.map_some, tTok, bslV, chunks, cell1, T.isAgg, List.replicate, List.flatten_cons, List.flatten_nil, List.append_nil, List.length_append, p1, p2, Int.toNat_natCast])))
      exact fin _ (by simp only [FrAt_cons, FrAt_nil, wFr, Nat.reduceEqDiff, Nat.one_ne_zero, Nat.zero_ne_one, reduceIte, and_self, and_true, true_and, f1, f5, f7, f46, f47]) _
    · have hpos : 0 < gs.length := List.length_pos_iff.2 hg
      have hlt : i % gs.length < gs.length := Nat.mod_lt _ hpos
      obtain ⟨g, hgx⟩ : ∃ g, gs[i % gs.length]? = some g := ⟨_, List.getElem?_eq_getElem hlt⟩
      have hgm := hgb g (List.mem_of_getElem? hgx)
      have c2 : ((gs.length : Int) > 0) = True := eq_true (by omega)
      have cz : ((gs.length : Int) = 0) = False := eq_false (by omega)
      have w0 : (i : Int).tmod (gs.length : Int) = ((i % gs.length : Nat) : Int) := by rw [Int.ofNat_tmod]
      have w1 : (g : Int).tmod 5 = ((g % 5 : Nat) : Int) := by rw [show (5 : Int) = ((5 : Nat) : Int) from rfl, Int.ofNat_tmod]
      have w2 : IntKind.wrap .i64 (g : Int) = (g : Int) := IntWalk.i64_in _ (by omega)
      have w3 : IntKind.wrap .i64 ((i % gs.length : Nat) : Int) = ((i % gs.length : Nat) : Int) := IntWalk.i64_in _ (by omega)
      have w4 : IntKind.wrap .i64 ((g % 5 : Nat) : Int) = ((g % 5 : Nat) : Int) := IntWalk.i64_in _ (by omega)
      have eg : gapP gs i = gapsP.getD (g % 5) [32] := by
        unfold gapP
        rw [if_neg hg, List.getD_eq_getElem?_getD (l := gs), hgx]; rfl
      have d1 : (0 ≤ ((i % gs.length : Nat) : Int)) = True := eq_true (by omega)
      have d2 : (0 ≤ ((g % 5 : Nat) : Int)) = True := eq_true (by omega)
      have l5 := lit5 (k := g % 5) (by omega)
      rw [← eg] at l5
      generalize gapP gs i = gp at *
      have p1 : tx.length + gp.length ≤ 4611686018427387904 := by omega
      have p2 : out.length + (tx.length + gp.length) ≤ 4611686018427387904 := by omega
      simp only [wA, seval, reduceCtorEq, reduceIte, f1, f5, f7, f11, f46, f47, f48, c0, c1, c2, cz, d1, d2, w0, w1, w2, w3, w4, hw1, hglen, tGs, List.length_map, List.getElem?_map, hx, hgx, Option.map_some, tTok, bslV, chunks, cell1, T.isAgg, List.replicate, List.flatten_cons, List.flatten_nil, List.append_nil, l5, List.length_append, p1, p2, Int.toNat_natCast]
      repeat' (first | ((with_reducible first | refine xG_dec ?_ ?_ | refine xG_ndec ?_ ?_ | refine xG_nsplit ?_ ?_ | refine xG_split ?_ ?_ | refine xC_dec ?_ ?_ | refine xC_ndec ?_ ?_ | refine xC_nsplit ?_ ?_ | refine xC_split ?_ ?_) <;> intro h <;> (try simp only [wA, seval, reduceCtorEq, reduceIte, f1, f5, f7, f11, f46, f47, f48, c0, c1, c2, cz, d1, d2, w0, w1, w2, w3, w4, hw1, hglen, tGs, List.length_map, List.getElem?_map, hx, hgx, Option.map_some, tTok, bslV, chunks, cell1, T.isAgg, List.replicate, List.flatten_cons, List.flatten_nil, List.append_nil, l5, List.length_append, p1, p2, Int.toNat_natCast, h])) | ((with_reducible refine xO_if (by first | omega | (simp only [List.length_append, List.length_cons, List.length_nil]; omega)) ?_); (try simp only [wA, seval, reduceCtorEq, reduceIte, f1, f5, f7, f11, f46, f47, f48, c0, c1, c2, cz, d1, d2, w0, w1, w2, w3, w4, hw1, hglen, tGs, List.length_map, List.getElem?_map, hx, hgx, Option.map_some, tTok, bslV, chunks, cell1, T.isAgg, List.replicate, List.flatten_cons, List.flatten_nil, List.append_nil, l5, List.length_append, p1, p2, Int.toNat_natCast])))
      exact fin _ (by simp only [FrAt_cons, FrAt_nil, wFr, Nat.reduceEqDiff, Nat.one_ne_zero, Nat.zero_ne_one, reduceIte, and_self, and_true, true_and, f1, f5, f7, f46, f47, tGs]) _
set_option maxHeartbeats 4000000 in
theorem law3 (hg : GlOk gl) (s : List UInt8) (hs : s.length ≤ 140737488355328) (nl : Bool) (gs : List Nat) (hgs : gs.length ≤ 140737488355328) (hgb : ∀ g, g ∈ gs → g ≤ 255) : Ret F gl 3 [.str s, .sl nl (tGs gs)] (.t (.bool true)) := by
  refine Ret.of F3 rfl ?_
  simp only [ir3]
  have ha := fun K => ok8 (gl := gl) hg (K := K)
  have hP := fun t K => ok9 (gl := gl) hg t (fu_ok t) (K := K)
  have hT := fun K => ok10 (gl := gl) s (K := K)
  by_cases h0 : (s.length : Int) > 3000
  · have h0' : ((s.length : Int) > 3000) = True := eq_true h0
    simp only [wA, seval, reduceCtorEq, reduceIte, ha, h0']
  have h0' : ((s.length : Int) > 3000) = False := eq_false h0
  have hb : ¬ 16384 < s.length := by omega
  have hE := prV_eq fuX s
  have hpr := pr_b fuX s
  cases hl : lexR 0 s with
  | err p e =>
    have he := err_ne _ _ _ _ _ rfl hl
    have he' : ((e : Int) = 0) = False := eq_false (by omega)
    rw [resV_err hb hl] at hT
    generalize prN fuX s = w at *
    simp only [wA, seval, reduceCtorEq, reduceIte, ha, h0', hP, hE, hT, he']
  | toks l =>
    rw [resV_toks hb hl] at hT
    by_cases h4 : (l.length : Int) > 400
    · have h4' : ((l.length : Int) > 400) = True := eq_true h4
      generalize prN fuX s = w at *
      simp only [wA, seval, reduceCtorEq, reduceIte, ha, h0', hP, hE, hT, h4', List.length_map]
    have h4' : ((l.length : Int) > 400) = False := eq_false h4
    obtain ⟨b1, b2, b3⟩ := space_fin fuX (s := s) (by omega) hl (by omega) gs
    have hE2 := prV_eq fuX (behT (prsP gs 0 l))
    rw [b2, b3] at hE2
    generalize (prN fuX (behT (prsP gs 0 l))).2.1 = m2 at hE2
    generalize prN fuX s = w at *
    have hS := ok11 (gl := gl) hpr
    have h5' : (((behT (prsP gs 0 l)).length : Int) > 16384) = False := eq_false (by omega)
    simp only [wA, seval, reduceCtorEq, reduceIte, ha, h0', hP, hE, hT, h4', List.length_map]
    refine loop3 (nl := nl) (gs := gs) hgs hgb (l := l) (by omega) (w7 := .t (.int .i64 w.2.2)) _ l 0 [] _ _ rfl (by simp only [List.length_nil]; omega) rfl (by simp only [FrAt_cons, FrAt_nil, wFr, Nat.reduceEqDiff, Nat.one_ne_zero, Nat.zero_ne_one, reduceIte, and_self, and_true, true_and]) ?_
    intro fr' sg' hy hf
    rw [List.nil_append] at hf
    simp only [FrAt_cons, FrAt_nil] at hf
    obtain ⟨f5, f7, f11, -⟩ := hf
    have hlt := lt_of_get hy
    have hay := fun z => (app_get hlt z).trans hy
    have hly : ∀ z, (sg' ++ [z])[sg'.length]? = some z := fun z => cat_get
    simp only [wA, seval, reduceCtorEq, reduceIte, f5, f7, f11, h5', hP, hE2, hS, hay, BEq.rfl, ne_eq, not_true_eq_false, decide_false]
theorem args3 (hg : GlOk gl) : ∀ xs, ArgsT (fun _ => []) 140737488355328 [(false, [.str]), (false, [.sl [.int .u8]])] xs → ∃ n sg ow, pcall F gl n 3 (xs.map .t) [] [] = some (.t (.bool true), sg, ow) := by
  intro xs h
  obtain ⟨x, r, rfl, hx, h⟩ := argsT_cons h
  obtain ⟨y, r, rfl, hy, h⟩ := argsT_cons h
  obtain rfl := argsT_nil h
  obtain ⟨a, rfl, ha⟩ := wt_str (argT_one hx)
  obtain ⟨nl, es, rfl, hl, hnl, he⟩ := wt_sl (argT_one hy)
  obtain ⟨gs, rfl, hp⟩ := list_enc (enc := fun (n : Nat) => [.int .u8 (n : Int)]) (p := fun n => n ≤ 255) fun e hm => by
    obtain ⟨a, r, rfl, ha, hr⟩ := wts_cons (he e hm)
    obtain rfl := wts_nil hr
    obtain ⟨m, rfl, m1, m2⟩ := wt_u8 ha
    exact ⟨m.toNat, by rw [Int.toNat_of_nonneg m1], by omega⟩
  exact CallP.law (law3 hg a ha nl gs (by simpa using hl) hp)
end Go.Proofs.YtcbgiabippcpaaaGreatDoor
