/- The parser's expressions: what is to be shown. -/
import Derived.Test.YtcbgiabippcpaaaGreatDoorM6
import Derived.Test.YtcbgiabippcpaaaGreatDoorKx44
set_option maxRecDepth 10000
set_option linter.unusedVariables false
set_option linter.unusedSimpArgs false
namespace Go.Proofs.YtcbgiabippcpaaaGreatDoor
open Go.Pi Go.Lx Go.Ky
variable {gl : Nat → Option (List T)}

def OwK (ow ow' : Ow) : Prop := ow.length ≤ ow'.length ∧ ∀ j, j < ow.length → ow'[j]? = ow[j]?
theorem OwK.refl {ow : Ow} : OwK ow ow := ⟨Nat.le_refl _, fun _ _ => rfl⟩
theorem OwK.trans {x y z : Ow} (h : OwK x y) (h' : OwK y z) : OwK x z := ⟨Nat.le_trans h.1 h'.1, fun j hj => by rw [h'.2 j (Nat.lt_of_lt_of_le hj h.1), h.2 j hj]⟩
/-- Operands under way: a slice that was written down, or an owned one. -/
def Xk (x : PV) (e : Exp) : Prop := x = .lit (tExs e.args) ∨ ∃ k, x = .own k 4 (tExs e.args)
theorem Xk.al {x : PV} {e : Exp} (h : Xk x e) : allT [x] = none ∧ Go.Pi.one x = true := by
  rcases h with rfl | ⟨k, rfl⟩ <;> exact ⟨rfl, rfl⟩
/-- An expression: its operands as a tree, or under way. -/
abbrev eK (e : Exp) (x : PV) : List PV := [.t (.int .i64 e.op), .t (.int .u64 e.val), .t (.str e.name), x]
abbrev eT (e : Exp) : List PV := [.t (.int .i64 e.op), .t (.int .u64 e.val), .t (.str e.name), .t (.sl e.nl (tExs e.args))]
def Ev (v : PV) (e : Exp) : Prop := v = .t (.agg [.int .i64 e.op, .int .u64 e.val, .str e.name, .sl e.nl (tExs e.args)]) ∨ ∃ k, (Xk k e ∧ e.nl = false) ∧ v = .agg (eK e k)
/-- The cells of an expression. -/
def Ec (cs : List PV) (e : Exp) : Prop := cs = eT e ∨ ∃ k, (Xk k e ∧ e.nl = false) ∧ cs = eK e k
theorem Ev.nod (op : Int) (l : List Exp) : Ev (.t (.agg [.int .i64 op, .int .u64 0, .str [], .sl l.isEmpty (tExs l)])) (nod op l) := .inl rfl
abbrev z4 : List T := [.int .i64 0, .int .u64 0, .str [], .sl true []]
theorem Ev.cells {v : PV} {e : Exp} (h : Ev v e) : ∃ x, cellsP v = eK e x ∧ cell1 x = some (.sl e.nl (tExs e.args)) := by
  rcases h with rfl | ⟨k, ⟨hk, hn⟩, rfl⟩
  · exact ⟨_, rfl, rfl⟩
  · refine ⟨k, rfl, ?_⟩
    rw [hn]; rcases hk with rfl | ⟨_, rfl⟩ <;> rfl
theorem fill_cons {cs : List PV} {o : Nat} {v x : PV} {e : Exp} {r : List (Nat × Nat × PV)} (h : cellsP v = eK e x) (ho : o + 4 ≤ cs.length) : fillP cs ((o, 4, v) :: r) = fillP (setRange cs o (eK e x)) r := by
  rw [fillP, h, if_pos ⟨rfl, ho⟩]
theorem mapK {x : PV} {e : Exp} (h : cell1 x = some (.sl e.nl (tExs e.args))) (r : List PV) : (eK e x ++ r).mapM cell1 = (r.mapM cell1).map ([.int .i64 e.op, .int .u64 e.val, .str e.name, .sl e.nl (tExs e.args)] ++ ·) := by
  simp only [List.cons_append, List.nil_append, List.mapM_cons, h]
  simp only [cell1]
  cases r.mapM cell1 <;> rfl
theorem bsl1 {v : PV} {e : Exp} (h : Ev v e) : bslV 4 1 z4 [(0, 4, v)] = some (.lit (tExs [e])) := by
  have : tExs [e] = [[.int .i64 e.op, .int .u64 e.val, .str e.name, .sl e.nl (tExs e.args)]] := by rw [tExs, tEx_eq]; rfl
  rw [this]
  obtain ⟨x, hx, cx⟩ := h.cells
  unfold bslV
  rw [fill_cons hx (by decide), fillP]
  show ((eK e x ++ []).mapM cell1).map _ = _
  rw [mapK cx]
  rfl
theorem bsl2 {v w : PV} {e f : Exp} (h : Ev v e) (h' : Ev w f) : bslV 4 2 z4 [(0, 4, v), (4, 4, w)] = some (.lit (tExs [e, f])) := by
  have : tExs [e, f] = [[.int .i64 e.op, .int .u64 e.val, .str e.name, .sl e.nl (tExs e.args)], [.int .i64 f.op, .int .u64 f.val, .str f.name, .sl f.nl (tExs f.args)]] := by rw [tExs, tExs, tEx_eq, tEx_eq]; rfl
  rw [this]
  obtain ⟨x, hx, cx⟩ := h.cells
  obtain ⟨y, hy, cy⟩ := h'.cells
  unfold bslV
  rw [fill_cons hx (by decide), fill_cons hy (Nat.le_refl 8), fillP]
  show ((eK e x ++ (eK f y ++ [])).mapM cell1).map _ = _
  rw [mapK cx, mapK cy]
  rfl
theorem bsl3 {v w z : PV} {e f g : Exp} (h : Ev v e) (h' : Ev w f) (h'' : Ev z g) : bslV 4 3 z4 [(0, 4, v), (4, 4, w), (8, 4, z)] = some (.lit (tExs [e, f, g])) := by
  have : tExs [e, f, g] = [[.int .i64 e.op, .int .u64 e.val, .str e.name, .sl e.nl (tExs e.args)], [.int .i64 f.op, .int .u64 f.val, .str f.name, .sl f.nl (tExs f.args)], [.int .i64 g.op, .int .u64 g.val, .str g.name, .sl g.nl (tExs g.args)]] := by rw [tExs, tExs, tExs, tEx_eq, tEx_eq, tEx_eq]; rfl
  rw [this]
  obtain ⟨x, hx, cx⟩ := h.cells
  obtain ⟨y, hy, cy⟩ := h'.cells
  obtain ⟨u, hu, cu⟩ := h''.cells
  unfold bslV
  rw [fill_cons hx (by decide), fill_cons hy (show 4 + 4 ≤ 12 by decide), fill_cons hu (Nat.le_refl 12), fillP]
  show ((eK e x ++ (eK f y ++ (eK g u ++ []))).mapM cell1).map _ = _
  rw [mapK cx, mapK cy, mapK cu]
  rfl
/-- What a function that reads something hands back. -/
def EvR (c : Nat) (a b : Int) (sg : Sg) (ow : Ow) (r : Exp × Ps) : PV → Sg → Ow → Prop := fun v sg' ow' => Ev v r.1 ∧ Q c a b sg r.2 sg' ∧ OwK ow ow'
/-- The list that is built up. -/
def Lv (k0 : Nat) (v : PV) (ow : Ow) (l : List Exp) : Prop := (v = .lit (tExs l)) ∨ ∃ k, v = .own k 4 (tExs l) ∧ ow[k]? = some l.length ∧ k0 ≤ k
structure Pre (c : Nat) (a b : Int) (st : Ps) (sg : Sg) : Prop where
  cell : sg[c]? = some (false, psC st a b)
  wf : WfT st.ts
  ln : st.ts.length ≤ 100000
theorem Pre.lt {c : Nat} {a b : Int} {st : Ps} {sg : Sg} (h : Pre c a b st sg) : c < sg.length := lt_of_get h.cell
theorem Pre.ne {c : Nat} {a b : Int} {st : Ps} {sg : Sg} (h : Pre c a b st sg) : st.ts ≠ [] := h.wf.ne
theorem Pre.app {c : Nat} {a b : Int} {st : Ps} {sg : Sg} (h : Pre c a b st sg) (z : Sg) : Pre c a b st (sg ++ z) := ⟨by rw [app_get h.lt]; exact h.cell, h.wf, h.ln⟩
theorem Pre.next {c : Nat} {a b : Int} {st st' : Ps} {sg sg' s2 : Sg} (h : Pre c a b st sg) (q : Q c a b s2 st' sg') (hs : Suf st st') : Pre c a b st' sg' := ⟨q.cell, hs.wf h.wf, Nat.le_trans hs.le h.ln⟩
structure CAll (gl : Nat → Option (List T)) (n : Nat) : Prop where
  ex : ∀ c a b st sg ow, Pre c a b st sg → 12 * st.ts.length + 11 ≤ n → CallE F gl 32 [.lp c 0] sg ow (EvR c a b sg ow (exprM n st))
  bi : ∀ (lv : Nat) c a b st sg ow, lv ≤ 5 → Pre c a b st sg → 12 * st.ts.length + (10 - lv) ≤ n → CallE F gl 65 [.lp c 0, .t (.int .i64 lv)] sg ow (EvR c a b sg ow (binM n lv st))
  un : ∀ c a b st sg ow, Pre c a b st sg → 12 * st.ts.length + 4 ≤ n → CallE F gl 89 [.lp c 0] sg ow (EvR c a b sg ow (unM n st))
  pr : ∀ c a b st sg ow, Pre c a b st sg → 12 * st.ts.length + 3 ≤ n → CallE F gl 116 [.lp c 0] sg ow (EvR c a b sg ow (priM n st))
  ha : ∀ c a b st sg ow, Pre c a b st sg → 12 * st.ts.length + 13 ≤ n → CallE F gl 127 [.lp c 0] sg ow (EvR c a b sg ow (hashM n st))
  ar : ∀ c a b st sg ow, Pre c a b st sg → 12 * st.ts.length + 13 ≤ n → CallE F gl 126 [.lp c 0] sg ow fun v sg' ow' => ((v = .t (.sl true []) ∧ (argM n st).1 = []) ∨ ((v = .lit (tExs (argM n st).1) ∨ ∃ k, v = .own k 4 (tExs (argM n st).1)) ∧ (argM n st).1 ≠ [])) ∧ Q c a b sg (argM n st).2 sg' ∧ OwK ow ow'
  li : ∀ c a b st sg ow, Pre c a b st sg → 12 * st.ts.length + 12 ≤ n → CallE F gl 128 [.lp c 0] sg ow fun v sg' ow' => Lv ow.length v ow' (lisM n st).1 ∧ (lisM n st).1 ≠ [] ∧ Q c a b sg (lisM n st).2 sg' ∧ OwK ow ow'
theorem setHi {c i : Nat} {sg s : Sg} (h : Fr c sg s) (hi : sg.length ≤ i) (y : Bool × List PV) : Fr c sg (s.set i y) := ⟨by rw [List.length_set]; exact h.1, fun j hj hc => by rw [List.getElem?_set_ne (by omega)]; exact h.2 j hj hc⟩
theorem Q.hi {c : Nat} {a b : Int} {sg s : Sg} {st : Ps} (h : Q c a b sg st s) {i : Nat} (hi : sg.length ≤ i) (hc : i ≠ c) (y : Bool × List PV) : Q c a b sg st (s.set i y) := ⟨by rw [List.getElem?_set_ne hc]; exact h.cell, setHi h.fr hi y⟩
theorem Q.more {c : Nat} {a b : Int} {sg s : Sg} {st : Ps} (h : Q c a b sg st s) (z : Sg) : Q c a b sg st (s ++ z) := ⟨by rw [app_get (lt_of_get h.cell)]; exact h.cell, h.fr.trans (Fr.of (.app _ _))⟩
theorem Q.from {c : Nat} {a b : Int} {sg s z : Sg} {st : Ps} (h : Q c a b (sg ++ z) st s) : Q c a b sg st s := ⟨h.cell, (Fr.of (.app _ _)).trans h.fr⟩
theorem cat_get {sg : Sg} {y : Bool × List PV} : (sg ++ [y])[sg.length]? = some y := List.getElem?_concat_length
abbrev zC : List PV := [.t (.int .i64 0), .t (.int .u64 0), .t (.str []), .t (.sl true [])]
theorem nd (op : Int) (nl : Bool) (l : List Exp) {K : PV → Prop} : XcP F gl 66 [.int .i64 op, .sl nl (tExs l)] K ⟨⟩ ↔ K (.t (.agg [.int .i64 op, .int .u64 0, .str [], .sl nl (tExs l)])) := ok66 op nl l
theorem set_ne {sg : Sg} {i j : Nat} (h : i ≠ j) (y : Bool × List PV) : (sg.set i y)[j]? = sg[j]? := List.getElem?_set_ne h
set_option maxHeartbeats 1000000 in
/-- An expression: a conditional, or a binary one. -/
theorem step_ex {n : Nat} (hn : CAll gl n) {c : Nat} {a b : Int} {st : Ps} {sg : Sg} {ow : Ow} (hp : Pre c a b st sg) (hf : 12 * st.ts.length + 11 ≤ n + 1) : CallE F gl 32 [.lp c 0] sg ow (EvR c a b sg ow (exprM (n + 1) st)) := by
  refine XcE.of F32 rfl ?_
  simp only [ir32]
  have hcl := hp.lt
  simp only [wA, seval, reduceCtorEq, reduceIte]
  have hp1 := hp.app [(false, zC)]
  refine CallE.mono (hn.bi 0 c a b st _ ow (by omega) hp1 (by omega)) fun v sg1 ow1 h => ?_
  obtain ⟨hv, hq, ho⟩ := h
  have rd1 := (rd_all n).bi 0 st hp.wf
  have hp2 := hp1.next hq rd1.suf
  have l1 := rd1.suf.le
  have z2 := hq.fr.get (i := sg.length) cat_get (by omega)
  have g1 := hq.fr.1
  have hq0 := hq.from
  simp only [List.length_append, List.length_cons, List.length_nil, Nat.zero_add] at g1
  have hv0 := hv
  have hEx : exprM (n + 1) st = if atM [63] (binM n 0 st).2 then (nod 20 [(binM n 0 st).1, (exprM n (takeM (binM n 0 st).2)).1, (exprM n (expM [58] (exprM n (takeM (binM n 0 st).2)).2)).1], (exprM n (expM [58] (exprM n (takeM (binM n 0 st).2)).2)).2) else binM n 0 st := by rw [exprM]
  rcases hv with rfl | ⟨k, hnl, rfl⟩
  all_goals
    first | have hax := Xk.al hnl.1 | have hax := @nat_nn
    simp only [wA, seval, reduceCtorEq, reduceIte, hax]
    refine CallE.mono (ok57 (hp2.app _).cell hp2.ne [63]) fun v2 sg2 ow2 h2 => ?_
    obtain ⟨e2, q2, o2⟩ := h2
    subst e2 o2
    have z3 := q2.fr.get (i := sg1.length) cat_get (by omega)
    have z2b := q2.fr.get (i := sg.length) (by rw [app_get (by omega)]; exact z2) (by omega)
    have q2' := hq0.trans q2.from
    unfold accM at q2 q2'
    cases ha : atM [63] (binM n 0 st).2 with
    | false =>
      rw [ha] at q2 q2'
      simp only [Bool.false_eq_true, if_false] at q2 q2'
      rw [hEx, if_neg (by rw [ha]; simp)]
      have gs := fun y => get_set (y := y) z2b
      simp only [wA, seval, reduceCtorEq, reduceIte, z3, z2b, gs, hax]
      refine ⟨?_, q2'.hi (Nat.le_refl _) (by omega) _, ho⟩
      exact hv0
    | true =>
      rw [ha] at q2 q2'
      simp only [reduceIte] at q2 q2'
      rw [hEx, if_pos ha]
      have l2 := take_len hp2.wf (at_kind ha)
      have hp3 := hp2.next q2 (suf_take hp2.wf)
      have g2 := q2.fr.1
      simp only [List.length_append, List.length_cons, List.length_nil, Nat.zero_add] at g2
      simp only [wA, seval, reduceCtorEq, reduceIte, hax]
      refine CallE.mono (hn.ex c a b _ sg2 ow2 hp3 (by omega)) fun v3 sg3 ow3 h3 => ?_
      obtain ⟨hv3, q3, o3⟩ := h3
      have rd3 := (rd_all n).ex _ hp3.wf
      have hp4 := hp3.next q3 rd3.suf
      have l3 := rd3.suf.le
      have g3 := q3.fr.1
      have z3c := q3.fr.get z3 (by omega)
      have z2c := q3.fr.get z2b (by omega)
      have hv3' := hv3
      rcases hv3 with rfl | ⟨k3, hn3, rfl⟩
      all_goals
        first | have hax3 := Xk.al hn3.1 | have hax3 := @nat_nn
        simp only [wA, seval, reduceCtorEq, reduceIte, hax3]
        refine CallE.mono (ok54 (hp4.app _).cell hp4.ne (by have := hp4.ln; omega) [58]) fun v4 sg4 ow4 h4 => ?_
        obtain ⟨e4, q4, o4⟩ := h4
        subst e4 o4
        have l4 := (suf_exp hp4.wf [58]).le
        have hp5 := hp4.next q4 (suf_exp hp4.wf [58])
        have z4d := q4.fr.get (i := sg3.length) cat_get (by omega)
        have z3d := q4.fr.get (i := sg1.length) (by rw [app_get (by omega)]; exact z3c) (by omega)
        have z2d := q4.fr.get (i := sg.length) (by rw [app_get (by omega)]; exact z2c) (by omega)
        simp only [wA, seval, reduceCtorEq, reduceIte, loadK, z3d, z4d, hax, hax3]
        refine CallE.mono (hn.ex c a b _ sg4 _ hp5 (by omega)) fun v5 sg5 ow5 h5 => ?_
        obtain ⟨hv5, q5, o5⟩ := h5
        have z4e := q5.fr.get z4d (by omega)
        have z3e := q5.fr.get z3d (by omega)
        have z2e := q5.fr.get z2d (by omega)
        have hb := bsl3 hv0 hv3' hv5
        have gs := fun y => get_set (y := y) z2e
        have gn1 := fun y => set_ne (sg := sg5) (show sg.length ≠ sg1.length by omega) y
        have gn2 := fun y => set_ne (sg := sg5) (show sg.length ≠ sg3.length by omega) y
        simp only [wA, seval, reduceCtorEq, reduceIte, keepsV_cons, keepsV_nil, keepP, keep1_self, z3d, z3e, z4d, z4e, z2e, hb, nd, gs, gn1, gn2, hax, hax3]
        refine ⟨.inl rfl, ?_, ((ho.trans o3).trans o5)⟩
        exact (((q2'.trans q3).trans q4.from).trans q5).hi (Nat.le_refl _) (by omega) _
end Go.Proofs.YtcbgiabippcpaaaGreatDoor
