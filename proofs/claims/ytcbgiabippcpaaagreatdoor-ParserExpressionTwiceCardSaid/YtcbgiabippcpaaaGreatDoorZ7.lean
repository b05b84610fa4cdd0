/- Levels and operators' texts. -/
import Derived.Test.YtcbgiabippcpaaaGreatDoorZ1
import Derived.Test.YtcbgiabippcpaaaGreatDoorZ2
import Derived.Test.YtcbgiabippcpaaaGreatDoorKx58
import Derived.Test.YtcbgiabippcpaaaGreatDoorM29
import Derived.Test.YtcbgiabippcpaaaGreatDoorM36
set_option maxRecDepth 10000
set_option linter.unusedVariables false
set_option linter.unusedSimpArgs false
namespace Go.Proofs.YtcbgiabippcpaaaGreatDoor
open Go.Pi Go.Lx Go.Ky
variable {gl : Nat → Option (List T)}
theorem op_cases (n : Int) : n = 20 ∨ n = 19 ∨ n = 18 ∨ n = 14 ∨ n = 15 ∨ n = 16 ∨ n = 17 ∨ n = 12 ∨ n = 13 ∨ n = 11 ∨ n = 9 ∨ n = 10 ∨ n = 8 ∨
    (¬ n = 20 ∧ ¬ n = 19 ∧ ¬ n = 18 ∧ ¬ n = 14 ∧ ¬ n = 15 ∧ ¬ n = 16 ∧ ¬ n = 17 ∧ ¬ n = 12 ∧ ¬ n = 13 ∧ ¬ n = 11 ∧ ¬ n = 9 ∧ ¬ n = 10 ∧ ¬ n = 8) := by omega
theorem ok69 (e : Exp) {K : PV → Prop} : XcP F gl 69 [.agg (tEx e)] K ⟨⟩ ↔ K (.t (.int .i64 ((lvlO e.op : Nat) : Int))) := by
  refine Ret.iff (Ret.of F69 rfl ?_)
  simp only [ir69]
  rcases op_cases e.op with o | o | o | o | o | o | o | o | o | o | o | o | o | o
  case inr.inr.inr.inr.inr.inr.inr.inr.inr.inr.inr.inr.inr =>
    obtain ⟨a1, a2, a3, a4, a5, a6, a7, a8, a9, b1, b2, b3, b4⟩ := o
    simp only [wA, seval, reduceCtorEq, reduceIte, tEx_eq, a1, a2, a3, a4, a5, a6, a7, a8, a9, b1, b2, b3, b4]
    have : lvlO e.op = 9 := by unfold lvlO; simp [a1, a2, a3, a4, a5, a6, a7, a8, a9, b1, b2, b3, b4]
    rw [this]
    rfl
  all_goals
    simp only [wA, seval, reduceCtorEq, reduceIte, tEx_eq, o]
    rfl
theorem ok119 (n : Int) {K : PV → Prop} : XcP F gl 119 [.int .i64 n] K ⟨⟩ ↔ K (.t (.str (32 :: ((opTok n).text ++ [32])))) := by
  refine Ret.iff (Ret.of F119 rfl ?_)
  simp only [ir119]
  rcases op_cases n with o | o | o | o | o | o | o | o | o | o | o | o | o | o
  case inr.inr.inr.inr.inr.inr.inr.inr.inr.inr.inr.inr.inr =>
    obtain ⟨a1, a2, a3, a4, a5, a6, a7, a8, a9, b1, b2, b3, b4⟩ := o
    simp only [wA, seval, reduceCtorEq, reduceIte, a1, a2, a3, a4, a5, a6, a7, a8, a9, b1, b2, b3, b4]
    have : (opTok n).text = [42] := by unfold opTok; simp [a1, a2, a3, a4, a5, a6, a7, a8, a9, b1, b2, b3, b4, sy]
    rw [this]
    rfl
  all_goals
    subst o
    simp only [wA, seval, reduceCtorEq, reduceIte]
    rfl
theorem decD_lib : ∀ u : Nat, decD u = Lib.decDigits u := by
  intro u
  induction u using Nat.strongRecOn with
  | _ u ih =>
    by_cases h : u < 10
    · rw [decD_small h, Lib.decDigits_one h]
    · rw [decD_big h, Lib.decDigits, dif_neg h, ih (u / 10) (by omega)]
end Go.Proofs.YtcbgiabippcpaaaGreatDoor

/- Lists of expressions are written. -/
set_option maxRecDepth 10000
set_option linter.unusedVariables false
set_option linter.unusedSimpArgs false
namespace Go.Proofs.YtcbgiabippcpaaaGreatDoor
open Go.Pi Go.Lx Go.Ky
variable {gl : Nat → Option (List T)}
def WrE (gl : Nat → Option (List T)) (e : Exp) : Prop := ∀ (r : Nat), r ≤ 9 → ∀ (id : Nat) (s : List UInt8) (sg : Sg) (ow : Ow), Bw sg ow id s → s.length + (txP (parP r (ar e))).length ≤ 1000000 →
  CallE F gl 37 [.lp id 0, .t (.agg (tEx e)), .t (.int .i64 ((r : Nat) : Int))] sg ow fun v sg' ow' => Bw sg' ow' id (s ++ txP (parP r (ar e))) ∧ Fr id sg sg'
def restT : Nat → List Exp → List UInt8
  | _, [] => []
  | i, e :: r => (if 0 < i then [44, 32] else []) ++ (txP (parP 1 (ar e)) ++ restT (i + 1) r)
theorem restT_next (i : Nat) (l : List Exp) : restT (i + 1) l = (l.map ar).flatMap fun a => 44 :: 32 :: txP (parP 1 a) := by
  induction l generalizing i with
  | nil => rfl
  | cons e r ih =>
    rw [restT, if_pos (by omega), ih, List.map_cons, List.flatMap_cons]
    simp
theorem restT_comma (l : List Exp) : restT 0 l = txP (commaP ((l.map ar).map (parP 1))) := by
  cases l with
  | nil => rfl
  | cons e r =>
    rw [restT, if_neg (by omega), restT_next, List.map_cons, List.map_cons, commaP, txP_app, List.nil_append]
    congr 1
    induction r with
    | nil => rfl
    | cons x r ih => rw [List.map_cons, List.map_cons, List.flatMap_cons, List.flatMap_cons, txP_app, ← ih]; rfl
theorem loop97 {id : Nat} {nl : Bool} {l : List Exp} (hl : l.length ≤ B47) (hw : ∀ e, e ∈ l → WrE gl e) {sg0 : Sg} (Q : Ex → S → Prop) : ∀ (r : List Exp) (i : Nat) (fr : List PV) (sg : Sg) (ow : Ow) (s : List UInt8), l.drop i = r → Fr id sg0 sg → Bw sg ow id s →
    s.length + (restT i r).length ≤ 1000000 → FrAt fr [(0, .lp id 0), (6, .t (.sl nl (tExs l))), (7, .t (.int .i64 l.length)), (8, .t (.int .i64 i))] →
    (∀ fr' sg' ow', Bw sg' ow' id (s ++ restT i r) → Fr id sg0 sg' → Q (.exit 0) ⟨fr', sg', ow'⟩) →
    Xl F gl lb97_0 ⟨fr, sg, ow⟩ Q ⟨⟩ := by
  intro r
  induction r with
  | nil =>
    intro i fr sg ow s hd hg hb hlen hf k
    have hd := drop_nil' hd
    simp only [FrAt_cons, FrAt_nil] at hf
    obtain ⟨f0, f6, f7, f8, -⟩ := hf
    refine Xl.step ?_
    simp only [lb97_0]
    have c1 : ¬ ((i : Int) < (l.length : Int)) := by omega
    simp only [wA, seval, reduceCtorEq, reduceIte, f0, f6, f7, f8, c1]
    exact k _ _ _ (by rw [restT, List.append_nil]; exact hb) hg
  | cons x r ih =>
    intro i fr sg ow s hd hg hb hlen hf k
    obtain ⟨hx, hr, hi⟩ := drop_cons hd
    simp only [FrAt_cons, FrAt_nil] at hf
    obtain ⟨f0, f6, f7, f8, -⟩ := hf
    refine Xl.step ?_
    simp only [lb97_0]
    have c1 : (i : Int) < (l.length : Int) := by omega
    have hw1 := i64_succ hi (show l.length ≤ 281474976710656 by have : B47 = 140737488355328 := rfl; omega)
    have hc := hw x (List.mem_of_getElem? hx) 1 (by omega) id
    simp only [tEx_eq] at hc
    have hid := hb.lt
    rw [restT] at hlen k
    simp only [List.length_append] at hlen
    by_cases c2 : (0 : Int) < (i : Int)
    · have hi0 : 0 < i := by omega
      rw [if_pos hi0] at hlen k
      simp only [wA, seval, reduceCtorEq, reduceIte, f0, f6, f7, f8, c1, c2, tExs_get, hx, Option.map_some, tEx_eq, Int.toNat_natCast]
      refine CallE.mono (ok44 (hb.fr (Grow.app _ _)) (by simp only [List.length_cons, List.length_nil] at hlen ⊢; omega)) ?_
      rintro v sg1 ow1 ⟨hb1, hf1⟩
      have z5 := hf1.get (i := sg.length) (by simp; rfl) (by omega)
      simp only [wA, seval, reduceCtorEq, reduceIte, f0, f6, f7, f8, z5]
      refine CallE.mono (hc _ _ _ hb1 (by simp only [List.length_append, List.length_cons, List.length_nil] at hlen ⊢; omega)) ?_
      rintro v2 sg2 ow2 ⟨hb2, hf2⟩
      simp only [wA, seval, reduceCtorEq, reduceIte, f0, f6, f7, f8, hw1]
      refine ih (i + 1) _ _ _ _ hr (hg.trans ((Fr.of (Grow.app _ _)).trans (hf1.trans hf2))) hb2 (by simp only [List.length_append, List.length_cons, List.length_nil] at hlen ⊢; omega) (by simp only [FrAt_cons, FrAt_nil, wFr, Nat.reduceEqDiff, Nat.one_ne_zero, Nat.zero_ne_one, reduceIte, and_self, and_true, true_and, f0, f6, f7]) fun fr' sg' ow' h1 h2 => k _ _ _ ?_ h2
      simpa only [List.append_assoc] using h1
    · have hi0 : ¬ 0 < i := by omega
      rw [if_neg hi0] at hlen k
      simp only [wA, seval, reduceCtorEq, reduceIte, f0, f6, f7, f8, c1, c2, tExs_get, hx, Option.map_some, tEx_eq, Int.toNat_natCast]
      refine CallE.mono (hc _ _ _ (hb.fr (Grow.app _ _)) (by simp only [List.length_nil] at hlen; omega)) ?_
      rintro v2 sg2 ow2 ⟨hb2, hf2⟩
      simp only [wA, seval, reduceCtorEq, reduceIte, f0, f6, f7, f8, hw1]
      refine ih (i + 1) _ _ _ _ hr (hg.trans ((Fr.of (Grow.app _ _)).trans hf2)) hb2 (by simp only [List.length_append, List.length_nil] at hlen ⊢; omega) (by simp only [FrAt_cons, FrAt_nil, wFr, Nat.reduceEqDiff, Nat.one_ne_zero, Nat.zero_ne_one, reduceIte, and_self, and_true, true_and, f0, f6, f7]) fun fr' sg' ow' h1 h2 => k _ _ _ ?_ h2
      simpa only [List.append_assoc, List.nil_append] using h1
theorem ok97 {id : Nat} {nl : Bool} {l : List Exp} (hl : l.length ≤ B47) (hw : ∀ e, e ∈ l → WrE gl e) {s : List UInt8} {sg : Sg} {ow : Ow} (hb : Bw sg ow id s) (hlen : s.length + (txP (commaP ((l.map ar).map (parP 1)))).length ≤ 1000000) :
    CallE F gl 97 [.lp id 0, .t (.sl nl (tExs l))] sg ow fun v sg' ow' => Bw sg' ow' id (s ++ txP (commaP ((l.map ar).map (parP 1)))) ∧ Fr id sg sg' := by
  rw [← restT_comma] at hlen ⊢
  refine XcE.of F97 rfl ?_
  simp only [ir97]
  simp only [wA, seval, reduceCtorEq, reduceIte, tExs_len]
  refine loop97 hl hw (sg0 := sg) _ l 0 _ _ _ s rfl (Fr.refl _ _) hb hlen (by simp only [FrAt_cons, FrAt_nil, wFr, Nat.reduceEqDiff, Nat.one_ne_zero, Nat.zero_ne_one, reduceIte, and_self, and_true, true_and]; exact rfl) ?_
  intro fr' sg' ow' h1 h2
  simp only [wA, seval, reduceCtorEq, reduceIte]
  exact ⟨h1, h2⟩
end Go.Proofs.YtcbgiabippcpaaaGreatDoor

/- Expressions with operators are written. -/
set_option maxRecDepth 10000
set_option linter.unusedVariables false
set_option linter.unusedSimpArgs false
namespace Go.Proofs.YtcbgiabippcpaaaGreatDoor
open Go.Pi Go.Lx Go.Ky
variable {gl : Nat → Option (List T)}
def WrB (gl : Nat → Option (List T)) (f : Nat) (e : Exp) : Prop := ∀ (id : Nat) (s : List UInt8) (sg : Sg) (ow : Ow), Bw sg ow id s → s.length + (txP (bareP e)).length ≤ 1000000 →
  CallE F gl f [.lp id 0, .t (.agg (tEx e))] sg ow fun v sg' ow' => Bw sg' ow' id (s ++ txP (bareP e)) ∧ Fr id sg sg'
theorem bk_box {sg : Sg} {ow : Ow} {id : Nat} {s : List UInt8} (h : Bw sg ow id s) (c : Bool × List PV) : Bw (sg ++ [c]) ow id s := h.fr (Grow.app _ _)
theorem fr_box {id : Nat} {sg sg' : Sg} {c : Bool × List PV} (h : Fr id (sg ++ [c]) sg') : Fr id sg sg' := (Fr.of (Grow.app _ _)).trans h
theorem get_box {id : Nat} {sg sg' : Sg} {c : Bool × List PV} (h : Fr id (sg ++ [c]) sg') (hid : id < sg.length) : sg'[sg.length]? = some c := h.get (by simp) (by omega)
theorem wr_one (e : Exp) (hw : WrE gl e) : ∀ (r : Nat), r ≤ 9 → ∀ (id : Nat) (s : List UInt8) (sg : Sg) (ow : Ow), Bw sg ow id s → s.length + (txP (parP r (ar e))).length ≤ 1000000 →
    CallE F gl 37 [.lp id 0, .t (.agg [.int .i64 e.op, .int .u64 e.val, .str e.name, .sl e.nl (tExs e.args)]), .t (.int .i64 ((r : Nat) : Int))] sg ow fun v sg' ow' => Bw sg' ow' id (s ++ txP (parP r (ar e))) ∧ Fr id sg sg' := by
  have := hw
  unfold WrE at this
  simp only [tEx_eq] at this
  exact this
theorem op898 {e : Exp} (o : e.op = 8) {a b : Exp} (hab : e.args = [a, b]) (ha : WrE gl a) (hb : WrE gl b) : WrB gl 98 e := by
  intro id s sg ow hk hlen
  have ht : txP (bareP e) = txP (parP 8 (ar a)) ++ (91 :: (txP (parP 1 (ar b)) ++ [93])) := by
    rw [bareP_eq, hab, o]
    simp only [bareO, Int.reduceEq, if_false, if_true, List.map_cons, List.map_nil, a0, a1, List.getD_cons_zero, List.getD_cons_succ, txP_app, txP_some, sy]
    rfl
  rw [ht] at hlen ⊢
  simp only [List.length_append, List.length_cons, List.length_nil] at hlen
  have wa := wr_one a ha 8 (by omega) id
  have wb := wr_one b hb 1 (by omega) id
  have hid := hk.lt
  refine XcE.of F98 rfl ?_
  simp only [ir98]
  simp only [wA, seval, reduceCtorEq, reduceIte, tEx_eq, o, hab, tExs]
  refine CallE.mono (wa _ _ _ (bk_box hk _) (by omega)) ?_
  rintro v1 sg1 ow1 ⟨k1, f1⟩
  have z1 := get_box f1 hid
  simp only [wA, seval, reduceCtorEq, reduceIte, z1]
  refine CallE.mono (ok44 k1 (by simp only [List.length_append, List.length_cons, List.length_nil]; omega)) ?_
  rintro v2 sg2 ow2 ⟨k2, f2⟩
  have z2 := get_box (f1.trans f2) hid
  simp only [wA, seval, reduceCtorEq, reduceIte, z2]
  refine CallE.mono (wb _ _ _ k2 (by simp only [List.length_append, List.length_cons, List.length_nil]; omega)) ?_
  rintro v3 sg3 ow3 ⟨k3, f3⟩
  simp only [wA, seval, reduceCtorEq, reduceIte]
  refine CallE.mono (ok44 k3 (by simp only [List.length_append, List.length_cons, List.length_nil]; omega)) ?_
  rintro v4 sg4 ow4 ⟨k4, f4⟩
  simp only [wA, seval, reduceCtorEq, reduceIte]
  exact ⟨by simpa using k4, fr_box (((f1.trans f2).trans f3).trans f4)⟩
theorem op998 {e : Exp} (o : e.op = 9) {a : Exp} (hab : e.args = [a]) (ha : WrE gl a) : WrB gl 98 e := by
  intro id s sg ow hk hlen
  have ht : txP (bareP e) = 45 :: txP (parP (if a.op = 9 then 8 else 7) (ar a)) := by
    rw [bareP_eq, hab, o]
    simp only [bareO, Int.reduceEq, if_false, if_true, List.map_cons, List.map_nil, a0, a1, a2, List.getD_cons_zero, List.getD_cons_succ, txP_app, txP_some, txP_none, sy, kw]
    rfl
  rw [ht] at hlen ⊢
  simp only [List.length_append, List.length_cons, List.length_nil] at hlen
  have hid := hk.lt
  refine XcE.of F98 rfl ?_
  simp only [ir98]
  simp only [wA, seval, reduceCtorEq, reduceIte, tEx_eq, o, hab, tExs]
  refine CallE.mono (ok44 (bk_box hk _) (by simp only [List.length_cons, List.length_nil]; omega)) ?_
  rintro v1 sg1 ow1 ⟨k1, f1⟩
  have z1 := get_box f1 hid
  by_cases c : a.op = 9
  · rw [if_pos c] at hlen ⊢
    have wa := wr_one a ha 8 (by omega) id
    simp only [wA, seval, reduceCtorEq, reduceIte, z1, c]
    simp only [c] at wa
    refine CallE.mono (wa _ _ _ k1 (by simp only [List.length_append, List.length_cons, List.length_nil]; omega)) ?_
    rintro v2 sg2 ow2 ⟨k2, f2⟩
    simp only [wA, seval, reduceCtorEq, reduceIte]
    exact ⟨by simpa using k2, fr_box (f1.trans f2)⟩
  · rw [if_neg c] at hlen ⊢
    have wa := wr_one a ha 7 (by omega) id
    simp only [wA, seval, reduceCtorEq, reduceIte, z1, c]
    refine CallE.mono (wa _ _ _ k1 (by simp only [List.length_append, List.length_cons, List.length_nil]; omega)) ?_
    rintro v2 sg2 ow2 ⟨k2, f2⟩
    simp only [wA, seval, reduceCtorEq, reduceIte]
    exact ⟨by simpa using k2, fr_box (f1.trans f2)⟩
theorem op1098 {e : Exp} (o : e.op = 10) {a : Exp} (hab : e.args = [a]) (ha : WrE gl a) : WrB gl 98 e := by
  intro id s sg ow hk hlen
  have ht : txP (bareP e) = [110, 111, 116, 32] ++ txP (parP 7 (ar a)) := by
    rw [bareP_eq, hab, o]
    simp only [bareO, Int.reduceEq, if_false, if_true, List.map_cons, List.map_nil, a0, a1, a2, List.getD_cons_zero, List.getD_cons_succ, txP_app, txP_some, txP_none, sy, kw]
    rfl
  rw [ht] at hlen ⊢
  simp only [List.length_append, List.length_cons, List.length_nil] at hlen
  have wa := wr_one a ha 7 (by omega) id
  have hid := hk.lt
  refine XcE.of F98 rfl ?_
  simp only [ir98]
  simp only [wA, seval, reduceCtorEq, reduceIte, tEx_eq, o, hab, tExs]
  refine CallE.mono (ok44 (bk_box hk _) (by simp only [List.length_cons, List.length_nil]; omega)) ?_
  rintro v1 sg1 ow1 ⟨k1, f1⟩
  have z1 := get_box f1 hid
  simp only [wA, seval, reduceCtorEq, reduceIte, z1]
  refine CallE.mono (wa _ _ _ k1 (by simp only [List.length_append, List.length_cons, List.length_nil]; omega)) ?_
  rintro v2 sg2 ow2 ⟨k2, f2⟩
  simp only [wA, seval, reduceCtorEq, reduceIte]
  exact ⟨by simpa using k2, fr_box (f1.trans f2)⟩
theorem op2098 {e : Exp} (o : e.op = 20) {a b c : Exp} (hab : e.args = [a, b, c]) (ha : WrE gl a) (hb : WrE gl b) (hc : WrE gl c) : WrB gl 98 e := by
  intro id s sg ow hk hlen
  have ht : txP (bareP e) = txP (parP 2 (ar a)) ++ ([32, 63, 32] ++ (txP (parP 1 (ar b)) ++ ([32, 58, 32] ++ txP (parP 1 (ar c))))) := by
    rw [bareP_eq, hab, o]
    simp only [bareO, Int.reduceEq, if_false, if_true, List.map_cons, List.map_nil, a0, a1, a2, List.getD_cons_zero, List.getD_cons_succ, txP_app, txP_some, txP_none, sy, kw]
    rfl
  rw [ht] at hlen ⊢
  simp only [List.length_append, List.length_cons, List.length_nil] at hlen
  have wa := wr_one a ha 2 (by omega) id
  have wb := wr_one b hb 1 (by omega) id
  have wc := wr_one c hc 1 (by omega) id
  have hid := hk.lt
  refine XcE.of F98 rfl ?_
  simp only [ir98]
  simp only [wA, seval, reduceCtorEq, reduceIte, tEx_eq, o, hab, tExs]
  refine CallE.mono (wa _ _ _ (bk_box hk _) (by omega)) ?_
  rintro v1 sg1 ow1 ⟨k1, f1⟩
  have z1 := get_box f1 hid
  simp only [wA, seval, reduceCtorEq, reduceIte, z1]
  refine CallE.mono (ok44 k1 (by simp only [List.length_append, List.length_cons, List.length_nil]; omega)) ?_
  rintro v2 sg2 ow2 ⟨k2, f2⟩
  have z2 := get_box (f1.trans f2) hid
  simp only [wA, seval, reduceCtorEq, reduceIte, z2]
  refine CallE.mono (wb _ _ _ k2 (by simp only [List.length_append, List.length_cons, List.length_nil]; omega)) ?_
  rintro v3 sg3 ow3 ⟨k3, f3⟩
  have z3 := get_box ((f1.trans f2).trans f3) hid
  simp only [wA, seval, reduceCtorEq, reduceIte, z3]
  refine CallE.mono (ok44 k3 (by simp only [List.length_append, List.length_cons, List.length_nil]; omega)) ?_
  rintro v4 sg4 ow4 ⟨k4, f4⟩
  have z4 := get_box (((f1.trans f2).trans f3).trans f4) hid
  simp only [wA, seval, reduceCtorEq, reduceIte, z4]
  refine CallE.mono (wc _ _ _ k4 (by simp only [List.length_append, List.length_cons, List.length_nil]; omega)) ?_
  rintro v5 sg5 ow5 ⟨k5, f5⟩
  simp only [wA, seval, reduceCtorEq, reduceIte]
  exact ⟨by simpa using k5, fr_box ((((f1.trans f2).trans f3).trans f4).trans f5)⟩
theorem lvl_hi (op : Int) : lvlO op ≤ 9 := by
  unfold lvlO
  repeat' split
  all_goals omega
theorem op298 {e : Exp} (o : 11 ≤ e.op ∧ e.op ≤ 19) {a b : Exp} (hab : e.args = [a, b]) (ha : WrE gl a) (hb : WrE gl b) : WrB gl 98 e := by
  intro id s sg ow hk hlen
  have ht : txP (bareP e) = txP (parP (if lvlO e.op = 4 then 5 else lvlO e.op) (ar a)) ++ ((32 :: ((opTok e.op).text ++ [32])) ++ txP (parP (lvlO e.op + 1) (ar b))) := by
    rw [bareP_eq, hab]
    unfold bareO
    rw [if_neg (by omega), if_neg (by omega), if_neg (by omega), if_neg (by omega), if_neg (by omega), if_neg (by omega), if_neg (by omega), if_neg (by omega), if_neg (by omega), if_neg (by omega), if_neg (by omega)]
    simp only [List.map_cons, List.map_nil, a0, a1, List.getD_cons_zero, List.getD_cons_succ, txP_app, txP_some, txP_none]
    simp
  rw [ht] at hlen ⊢
  simp only [List.length_append, List.length_cons, List.length_nil] at hlen
  have n1 : ¬ e.op = 8 := by omega
  have n2 : ¬ e.op = 9 := by omega
  have n3 : ¬ e.op = 10 := by omega
  have n4 : ¬ e.op = 20 := by omega
  have hL : lvlO e.op ≤ 8 := by
    have : lvlO e.op ≠ 9 := by
      unfold lvlO
      repeat' split
      all_goals omega
    have := lvl_hi e.op
    omega
  have hlv := @ok69 gl e
  simp only [tEx_eq, hab, tExs] at hlv
  have hbt := @ok119 gl e.op
  have hw1 := i64_succ (i := lvlO e.op) (n := 9) (by omega) (by omega)
  have wb := wr_one b hb (lvlO e.op + 1) (by omega) id
  have hid := hk.lt
  refine XcE.of F98 rfl ?_
  simp only [ir98]
  by_cases c : lvlO e.op = 4
  · rw [if_pos c] at hlen ⊢
    have wa := wr_one a ha 5 (by omega) id
    have wb := wr_one b hb 5 (by omega) id
    rw [c] at hlen ⊢
    simp only [Nat.reduceAdd] at hlen ⊢
    simp only [c, Int.cast_ofNat_Int] at hlv
    have w5 : IntKind.i64.wrap 5 = 5 := by decide
    simp only [wA, seval, reduceCtorEq, reduceIte, tEx_eq, n1, n2, n3, n4, hab, tExs, hlv]
    refine CallE.mono (wa _ _ _ (bk_box hk _) (by omega)) ?_
    rintro v1 sg1 ow1 ⟨k1, f1⟩
    have z1 := get_box f1 hid
    simp only [wA, seval, reduceCtorEq, reduceIte, z1, hbt]
    refine CallE.mono (ok44 k1 (by simp only [List.length_append, List.length_cons, List.length_nil]; omega)) ?_
    rintro v2 sg2 ow2 ⟨k2, f2⟩
    have z2 := get_box (f1.trans f2) hid
    simp only [wA, seval, reduceCtorEq, reduceIte, z2, hlv, w5]
    refine CallE.mono (wb _ _ _ k2 (by simp only [List.length_append, List.length_cons, List.length_nil]; omega)) ?_
    rintro v3 sg3 ow3 ⟨k3, f3⟩
    simp only [wA, seval, reduceCtorEq, reduceIte]
    exact ⟨by simpa using k3, fr_box ((f1.trans f2).trans f3)⟩
  · rw [if_neg c] at hlen ⊢
    have wa := wr_one a ha (lvlO e.op) (by omega) id
    have c' : ¬ ((lvlO e.op : Nat) : Int) = 4 := by omega
    simp only [wA, seval, reduceCtorEq, reduceIte, tEx_eq, n1, n2, n3, n4, hab, tExs, hlv, c']
    refine CallE.mono (wa _ _ _ (bk_box hk _) (by omega)) ?_
    rintro v1 sg1 ow1 ⟨k1, f1⟩
    have z1 := get_box f1 hid
    simp only [wA, seval, reduceCtorEq, reduceIte, z1, hbt]
    refine CallE.mono (ok44 k1 (by simp only [List.length_append, List.length_cons, List.length_nil]; omega)) ?_
    rintro v2 sg2 ow2 ⟨k2, f2⟩
    have z2 := get_box (f1.trans f2) hid
    simp only [wA, seval, reduceCtorEq, reduceIte, z2, hlv, hw1]
    refine CallE.mono (wb _ _ _ k2 (by simp only [List.length_append, List.length_cons, List.length_nil]; omega)) ?_
    rintro v3 sg3 ow3 ⟨k3, f3⟩
    simp only [wA, seval, reduceCtorEq, reduceIte]
    exact ⟨by simpa using k3, fr_box ((f1.trans f2).trans f3)⟩
end Go.Proofs.YtcbgiabippcpaaaGreatDoor

/- Expressions are written. -/
set_option maxRecDepth 10000
set_option linter.unusedVariables false
set_option linter.unusedSimpArgs false
namespace Go.Proofs.YtcbgiabippcpaaaGreatDoor
open Go.Pi Go.Lx Go.Ky
variable {gl : Nat → Option (List T)}
theorem wrb_op (e : Exp) {f : Nat} (hw : WrB gl f e) : ∀ (id : Nat) (s : List UInt8) (sg : Sg) (ow : Ow), Bw sg ow id s → s.length + (txP (bareP e)).length ≤ 1000000 →
    CallE F gl f [.lp id 0, .t (.agg [.int .i64 e.op, .int .u64 e.val, .str e.name, .sl e.nl (tExs e.args)])] sg ow fun v sg' ow' => Bw sg' ow' id (s ++ txP (bareP e)) ∧ Fr id sg sg' := by
  have := hw
  unfold WrB at this
  simp only [tEx_eq] at this
  exact this
theorem wr_oper {e : Exp} (hop : e.op = 8 ∨ e.op = 9 ∨ e.op = 10 ∨ e.op = 20 ∨ 11 ≤ e.op ∧ e.op ≤ 19) (hv : exB e = true) (ha : ∀ a, a ∈ e.args → WrE gl a) : WrB gl 98 e := by
  rw [exB_eq, Bool.and_eq_true] at hv
  have hc := opB_cases hv.2
  have two : (e.args.length : Int) = 2 → ∃ a b, e.args = [a, b] := fun h => by
    match hl : e.args, h with
    | [a, b], _ => exact ⟨a, b, rfl⟩
    | [], h => simp at h
    | [_], h => simp at h
    | _ :: _ :: _ :: _, h => simp only [List.length_cons] at h; omega
  have onE : (e.args.length : Int) = 1 → ∃ a, e.args = [a] := fun h => by
    match hl : e.args, h with
    | [a], _ => exact ⟨a, rfl⟩
    | [], h => simp at h
    | _ :: _ :: _, h => simp only [List.length_cons] at h; omega
  have tri : (e.args.length : Int) = 3 → ∃ a b c, e.args = [a, b, c] := fun h => by
    match hl : e.args, h with
    | [a, b, c], _ => exact ⟨a, b, c, rfl⟩
    | [], h => simp at h
    | [_], h => simp at h
    | [_, _], h => simp at h
    | _ :: _ :: _ :: _ :: _, h => simp only [List.length_cons] at h; omega
  rcases hop with o | o | o | o | o
  · obtain ⟨a, b, hab⟩ := two (by omega)
    exact op898 o hab (ha a (by simp [hab])) (ha b (by simp [hab]))
  · obtain ⟨a, hab⟩ := onE (by omega)
    exact op998 o hab (ha a (by simp [hab]))
  · obtain ⟨a, hab⟩ := onE (by omega)
    exact op1098 o hab (ha a (by simp [hab]))
  · obtain ⟨a, b, c, hab⟩ := tri (by omega)
    exact op2098 o hab (ha a (by simp [hab])) (ha b (by simp [hab])) (ha c (by simp [hab]))
  · obtain ⟨a, b, hab⟩ := two (by omega)
    exact op298 o hab (ha a (by simp [hab])) (ha b (by simp [hab]))
theorem wr_bare (h2 : gl 1 = some (p10.map (T.int .u64))) {e : Exp} (hv : exB e = true) (ho : ExpOk e) (ha : ∀ a, a ∈ e.args → WrE gl a) : WrB gl 70 e := by
  have hv0 := hv
  cases ho with | mk _ h1 h2' h3 h4 h5 h6 =>
  rw [exB_eq, Bool.and_eq_true] at hv
  have hc := opB_cases hv.2
  obtain ⟨u, hu⟩ : ∃ u : Nat, e.val = (u : Int) := ⟨e.val.toNat, by have := h2'.1; omega⟩
  have hu2 : u ≤ 18446744073709551615 := by have := h2'.2; omega
  intro id s sg ow hk hlen
  have hid := hk.lt
  have hbe := bareP_eq e
  refine XcE.of F70 rfl ?_
  simp only [ir70]
  by_cases hop : e.op = 8 ∨ e.op = 9 ∨ e.op = 10 ∨ e.op = 20 ∨ 11 ≤ e.op ∧ e.op ≤ 19
  · have hw := wrb_op e (wr_oper hop hv0 ha) id
    have n1 : ¬ e.op = 1 := by omega
    have n2 : ¬ e.op = 2 := by omega
    have n3 : ¬ e.op = 3 := by omega
    have n4 : ¬ e.op = 4 := by omega
    have n5 : ¬ e.op = 5 := by omega
    have n6 : ¬ e.op = 6 := by omega
    have n7 : ¬ e.op = 7 := by omega
    simp only [wA, seval, reduceCtorEq, reduceIte, tEx_eq, n1, n2, n3, n4, n5, n6, n7]
    refine CallE.mono (hw _ _ _ (bk_box hk _) hlen) ?_
    rintro v1 sg1 ow1 ⟨k1, f1⟩
    simp only [wA, seval, reduceCtorEq, reduceIte]
    exact ⟨k1, fr_box f1⟩
  have hop2 : e.op = 1 ∨ e.op = 2 ∨ e.op = 3 ∨ e.op = 4 ∨ e.op = 5 ∨ e.op = 6 ∨ e.op = 7 := by omega
  clear hc hop
  rcases hop2 with o | o | o | o | o | o | o
  · have ht : txP (bareP e) = Lib.decDigits u := by
      rw [hbe, o, hu]
      simp only [bareO, if_true, txP_some, nu, Int.toNat_natCast, decD_lib]
      simp [txP]
    rw [ht] at hlen ⊢
    simp only [wA, seval, reduceCtorEq, reduceIte, tEx_eq, o, hu, ok96 h2 hu2]
    refine CallE.mono (ok44 (bk_box hk _) hlen) ?_
    rintro v1 sg1 ow1 ⟨k1, f1⟩
    simp only [wA, seval, reduceCtorEq, reduceIte]
    exact ⟨k1, fr_box f1⟩
  · have ht : txP (bareP e) = e.name := by
      rw [hbe, o]
      simp only [bareO, Int.reduceEq, if_false, if_true, txP_some, nmT]
      simp [txP]
    rw [ht] at hlen ⊢
    simp only [wA, seval, reduceCtorEq, reduceIte, tEx_eq, o]
    refine CallE.mono (ok44 (bk_box hk _) hlen) ?_
    rintro v1 sg1 ow1 ⟨k1, f1⟩
    simp only [wA, seval, reduceCtorEq, reduceIte]
    exact ⟨k1, fr_box f1⟩
  · have ht : txP (bareP e) = [116, 114, 117, 101] := by
      rw [hbe, o]; rfl
    rw [ht] at hlen ⊢
    simp only [wA, seval, reduceCtorEq, reduceIte, tEx_eq, o]
    refine CallE.mono (ok44 (bk_box hk _) hlen) ?_
    rintro v1 sg1 ow1 ⟨k1, f1⟩
    simp only [wA, seval, reduceCtorEq, reduceIte]
    exact ⟨k1, fr_box f1⟩
  · have ht : txP (bareP e) = [102, 97, 108, 115, 101] := by
      rw [hbe, o]; rfl
    rw [ht] at hlen ⊢
    simp only [wA, seval, reduceCtorEq, reduceIte, tEx_eq, o]
    refine CallE.mono (ok44 (bk_box hk _) hlen) ?_
    rintro v1 sg1 ow1 ⟨k1, f1⟩
    simp only [wA, seval, reduceCtorEq, reduceIte]
    exact ⟨k1, fr_box f1⟩
  · have ht : txP (bareP e) = (e.name ++ [40]) ++ (txP (commaP ((e.args.map ar).map (parP 1))) ++ [41]) := by
      rw [hbe, o]
      simp only [bareO, Int.reduceEq, if_false, if_true, txP_some, txP_app, nmT, sy]
      simp [txP, pcT]
    rw [ht] at hlen ⊢
    simp only [List.length_append, List.length_cons, List.length_nil] at hlen
    have hb : e.name.length + 1 ≤ 4611686018427387904 := by have : B47 = 140737488355328 := rfl; omega
    simp only [wA, seval, reduceCtorEq, reduceIte, tEx_eq, o, binS, hb]
    refine CallE.mono (ok44 (bk_box hk _) (by simp only [List.length_append, List.length_cons, List.length_nil]; omega)) ?_
    rintro v1 sg1 ow1 ⟨k1, f1⟩
    have z1 := get_box f1 hid
    simp only [wA, seval, reduceCtorEq, reduceIte, z1]
    refine CallE.mono (ok97 h4 ha k1 (by simp only [List.length_append, List.length_cons, List.length_nil]; omega)) ?_
    rintro v2 sg2 ow2 ⟨k2, f2⟩
    simp only [wA, seval, reduceCtorEq, reduceIte]
    refine CallE.mono (ok44 k2 (by simp only [List.length_append, List.length_cons, List.length_nil]; omega)) ?_
    rintro v3 sg3 ow3 ⟨k3, f3⟩
    simp only [wA, seval, reduceCtorEq, reduceIte]
    exact ⟨by simpa using k3, fr_box ((f1.trans f2).trans f3)⟩
  · have ht : txP (bareP e) = (([104, 97, 115, 104, 40] ++ Lib.decDigits u) ++ [59, 32]) ++ (txP (commaP ((e.args.map ar).map (parP 1))) ++ [41]) := by
      rw [hbe, o, hu]
      simp only [bareO, Int.reduceEq, if_false, if_true, txP_some, txP_none, txP_app, nu, kw, sy, Int.toNat_natCast, decD_lib]
      simp [txP, pcT]
    rw [ht] at hlen ⊢
    simp only [List.length_append, List.length_cons, List.length_nil] at hlen
    have hd := (dec_len u hu2).1
    have hb1 : 5 + (Lib.decDigits u).length ≤ 4611686018427387904 := by omega
    have hb2 : (Lib.decDigits u).length + 5 + 2 ≤ 4611686018427387904 := by omega
    simp only [wA, seval, reduceCtorEq, reduceIte, tEx_eq, o, hu, ok96 h2 hu2, binS, hb1, hb2]
    have wl := ok44 (gl := gl) (x := 104 :: 97 :: 115 :: 104 :: 40 :: (Lib.decDigits u ++ [59, 32])) (bk_box hk (false, [.t (.int .i64 6), .t (.int .u64 (u : Int)), .t (.str e.name), .t (.sl e.nl (tExs e.args))])) (by simp only [List.length_append, List.length_cons, List.length_nil]; omega)
    refine CallE.mono wl ?_
    rintro v1 sg1 ow1 ⟨k1, f1⟩
    have z1 := get_box f1 hid
    simp only [wA, seval, reduceCtorEq, reduceIte, z1]
    refine CallE.mono (ok97 h4 ha k1 (by simp only [List.length_append, List.length_cons, List.length_nil]; omega)) ?_
    rintro v2 sg2 ow2 ⟨k2, f2⟩
    simp only [wA, seval, reduceCtorEq, reduceIte]
    refine CallE.mono (ok44 k2 (by simp only [List.length_append, List.length_cons, List.length_nil]; omega)) ?_
    rintro v3 sg3 ow3 ⟨k3, f3⟩
    simp only [wA, seval, reduceCtorEq, reduceIte]
    exact ⟨by simpa using k3, fr_box ((f1.trans f2).trans f3)⟩
  · have ht : txP (bareP e) = [91] ++ (txP (commaP ((e.args.map ar).map (parP 1))) ++ [93]) := by
      rw [hbe, o]
      simp only [bareO, Int.reduceEq, if_false, if_true, txP_some, txP_app, sy]
      simp [txP, pcT]
    rw [ht] at hlen ⊢
    simp only [List.length_append, List.length_cons, List.length_nil] at hlen
    simp only [wA, seval, reduceCtorEq, reduceIte, tEx_eq, o]
    refine CallE.mono (ok44 (bk_box hk _) (by simp only [List.length_append, List.length_cons, List.length_nil]; omega)) ?_
    rintro v1 sg1 ow1 ⟨k1, f1⟩
    have z1 := get_box f1 hid
    simp only [wA, seval, reduceCtorEq, reduceIte, z1]
    refine CallE.mono (ok97 h4 ha k1 (by simp only [List.length_append, List.length_cons, List.length_nil]; omega)) ?_
    rintro v2 sg2 ow2 ⟨k2, f2⟩
    simp only [wA, seval, reduceCtorEq, reduceIte]
    refine CallE.mono (ok44 k2 (by simp only [List.length_append, List.length_cons, List.length_nil]; omega)) ?_
    rintro v3 sg3 ow3 ⟨k3, f3⟩
    simp only [wA, seval, reduceCtorEq, reduceIte]
    exact ⟨by simpa using k3, fr_box ((f1.trans f2).trans f3)⟩
theorem wr_all (h2 : gl 1 = some (p10.map (T.int .u64))) : ∀ e : Exp, exB e = true → ExpOk e → WrE gl e := by
  refine Exp.ind fun e ih hv ho => ?_
  have ho' := ho
  cases ho' with | mk _ h1 _ h3 h4 h5 h6 =>
  have hv' := hv
  rw [exB_eq, Bool.and_eq_true, List.all_eq_true] at hv'
  have hw := wrb_op e (wr_bare h2 hv ho fun a h => ih a h (hv'.1 a h) (h6 a h))
  intro r hr id s sg ow hk hlen
  have hlv := @ok69 gl e
  simp only [tEx_eq] at hlv
  have hid := hk.lt
  refine XcE.of F37 rfl ?_
  simp only [ir37]
  by_cases c : lvlO e.op < r
  · have hp : txP (parP r (ar e)) = [40] ++ (txP (bareP e) ++ [41]) := by
      have : parP r (ar e) = some (sy [40]) :: (bareP e ++ [some (sy [41])]) := if_pos c
      rw [this, txP_some, txP_app]
      rfl
    rw [hp] at hlen ⊢
    simp only [List.length_append, List.length_cons, List.length_nil] at hlen
    have c' : ((lvlO e.op : Nat) : Int) < ((r : Nat) : Int) := by omega
    simp only [wA, seval, reduceCtorEq, reduceIte, tEx_eq, hlv, c']
    refine CallE.mono (ok44 (bk_box hk _) (by simp only [List.length_append, List.length_cons, List.length_nil]; omega)) ?_
    rintro v1 sg1 ow1 ⟨k1, f1⟩
    have z1 := get_box f1 hid
    simp only [wA, seval, reduceCtorEq, reduceIte, z1]
    refine CallE.mono (hw _ _ _ _ k1 (by simp only [List.length_append, List.length_cons, List.length_nil]; omega)) ?_
    rintro v2 sg2 ow2 ⟨k2, f2⟩
    simp only [wA, seval, reduceCtorEq, reduceIte]
    refine CallE.mono (ok44 k2 (by simp only [List.length_append, List.length_cons, List.length_nil]; omega)) ?_
    rintro v3 sg3 ow3 ⟨k3, f3⟩
    simp only [wA, seval, reduceCtorEq, reduceIte]
    exact ⟨by simpa using k3, fr_box ((f1.trans f2).trans f3)⟩
  · have hp : txP (parP r (ar e)) = txP (bareP e) := by
      have : parP r (ar e) = bareP e := if_neg c
      rw [this]
    rw [hp] at hlen ⊢
    have c' : ¬ ((lvlO e.op : Nat) : Int) < ((r : Nat) : Int) := by omega
    simp only [wA, seval, reduceCtorEq, reduceIte, tEx_eq, hlv, c']
    refine CallE.mono (hw _ _ _ _ (bk_box hk _) hlen) ?_
    rintro v1 sg1 ow1 ⟨k1, f1⟩
    simp only [wA, seval, reduceCtorEq, reduceIte]
    exact ⟨k1, fr_box f1⟩
end Go.Proofs.YtcbgiabippcpaaaGreatDoor

/- FormatExpr; the law of an expression that is formatted and parsed again. -/
set_option maxRecDepth 10000
set_option linter.unusedVariables false
set_option linter.unusedSimpArgs false
namespace Go.Proofs.YtcbgiabippcpaaaGreatDoor
open Go.Pi Go.Lx Go.Ky
variable {gl : Nat → Option (List T)}
theorem fe_ok (s : List UInt8) : 12 * (tokP s).1.length + 20 ≤ fuE := by
  have := (tokP_wv s).2
  show _ ≤ 4000000
  omega
theorem ok38 {s : List UInt8} (hs : s.length ≤ 16384) {K : PV → Prop} : XcP F gl 38 [.str s] K ⟨⟩ ↔ K (.tup [.t (.str s), .t (.int .i64 0)]) := by
  refine Ret.iff (Ret.of F38 rfl ?_)
  simp only [ir38]
  have c : ((s.length : Int) > 16384) = False := eq_false (by omega)
  simp only [wA, seval, reduceCtorEq, reduceIte, c]
theorem ok14 (h2 : gl 1 = some (p10.map (T.int .u64))) {e : Exp} (hv : exB e = true) (ho : ExpOk e) (hz : szE e ≤ B20) (hd : dEx e ≤ 40) (hl : (fmtE e).length ≤ 16384) {K : PV → Prop} :
    XcP F gl 14 [.agg (tEx e)] K ⟨⟩ ↔ K (.tup [.t (.str (fmtE e)), .t (.int .i64 0)]) := by
  have hE := fun K => (sy35 (gl := gl) e ho).call (K := K)
  have hS := fun K => (sy36 (gl := gl) e hz).call (K := K)
  have hsh : shE e = true := by unfold shE; exact decide_eq_true (by omega)
  rw [hv] at hE
  rw [hsh] at hS
  have hL := @ok38 gl _ hl
  simp only [tEx_eq] at hE hS
  refine Ret.iff (Ret.of F14 rfl ?_)
  simp only [ir14]
  have hw := wr_one e (wr_all h2 e hv ho) 1 (by omega) 1
  simp only [wA, seval, reduceCtorEq, reduceIte, tEx_eq, hE, hS]
  refine CallE.mono (hw [] _ _ ⟨_, rfl, .inl ⟨rfl, rfl⟩⟩ (by have : (fmtE e).length = (txP (parP 1 (ar e))).length := rfl; simp only [List.length_nil]; omega)) ?_
  rintro v sg1 ow1 ⟨k1, f1⟩
  rw [List.nil_append] at k1
  have hst : strW sg1 ow1 5 (.lp 1 0) = some (.t (.str (fmtE e))) := k1.str (by have : (fmtE e).length = (txP (parP 1 (ar e))).length := rfl; omega)
  simp only [wA, seval, reduceCtorEq, reduceIte, hst, hL]
set_option maxHeartbeats 4000000 in
theorem law5 (hg : GlOk gl) (h2 : gl 1 = some (p10.map (T.int .u64))) (s : List UInt8) (hs : s.length ≤ 140737488355328) : Ret F gl 5 [.str s] (.t (.bool true)) := by
  refine Ret.of F5 rfl ?_
  simp only [ir5]
  have ha := fun K => ok8 (gl := gl) hg (K := K)
  have hP := fun t K => ok12 (gl := gl) hg t (n := fuE) (fe_ok t) (K := K)
  by_cases h0 : (s.length : Int) > 3000
  · have h0' : ((s.length : Int) > 3000) = True := eq_true h0
    simp only [wA, seval, reduceCtorEq, reduceIte, ha, h0']
  have h0' : ((s.length : Int) > 3000) = False := eq_false h0
  have hP1 := hP s
  obtain ⟨⟨e, p, q⟩, hE⟩ : ∃ r, exN fuE s = r := ⟨_, rfl⟩
  unfold exV at hP1
  rw [hE] at hP1
  simp only [tEx_eq] at hP1
  by_cases hq : q = 0
  · subst hq
    obtain ⟨hv, ho, hd, hf, hz, h3⟩ := twice_law (by omega) hE
    have hP2 := hP (fmtE e)
    unfold exV at hP2
    rw [h3] at hP2
    simp only [tEx_eq] at hP2
    have hF := fun K => ok14 (gl := gl) h2 hv ho hz hd hf (K := K)
    simp only [tEx_eq] at hF
    have hS := ok13 (gl := gl) e hz
    simp only [wA, seval, reduceCtorEq, reduceIte, ha, h0', hP1, hF, hP2, hS]
  · have he := exN_err hE hq
    subst he
    have hS : ∀ K, XcP F gl 13 [.agg [.int .i64 0, .int .u64 0, .str [], .sl true []], .agg [.int .i64 0, .int .u64 0, .str [], .sl true []]] K ⟨⟩ ↔ K (.t (.bool true)) := ok13 (gl := gl) zEx (by decide)
    have hP3 : ∀ K, XcP F gl 12 [.str s] K ⟨⟩ ↔ K (.tup [.t (.agg [.int .i64 0, .int .u64 0, .str [], .sl true []]), .t (.int .i64 p), .t (.int .i64 q)]) := hP1
    have hq' : (q = 0) = False := eq_false hq
    simp only [wA, seval, reduceCtorEq, reduceIte, ha, h0', hP3, hq', hS]
theorem argx5 (hg : GlOk gl) (h2 : gl 1 = some (p10.map (T.int .u64))) : ∀ xs, ArgsT (fun _ => []) 140737488355328 [(false, [.str])] xs → ∃ n sg ow, pcall F gl n 5 (xs.map .t) [] [] = some (.t (.bool true), sg, ow) := by
  intro xs h
  obtain ⟨x, r, rfl, hx, h⟩ := argsT_cons h
  obtain rfl := argsT_nil h
  obtain ⟨a, rfl, ha⟩ := wt_str (argT_one hx)
  exact CallP.law (law5 hg h2 a ha)
end Go.Proofs.YtcbgiabippcpaaaGreatDoor
