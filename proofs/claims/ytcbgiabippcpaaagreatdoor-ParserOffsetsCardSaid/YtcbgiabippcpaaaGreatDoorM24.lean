/- The parser: functions. -/
import Derived.Test.YtcbgiabippcpaaaGreatDoorM23
set_option maxRecDepth 10000
set_option linter.unusedVariables false
set_option linter.unusedSimpArgs false
namespace Go.Proofs.YtcbgiabippcpaaaGreatDoor
open Go.Pi Go.Lx Go.Ky
variable {gl : Nat → Option (List T)}

theorem Lw.one {k0 : Nat} {v : PV} {ow : Ow} {l : List St} (h : Lw k0 v ow l) : Go.Pi.one v = true := by
  rcases h with ⟨rfl, -⟩ | ⟨k, rfl, -, -, -⟩ <;> rfl
theorem Lw.cl {k0 : Nat} {v : PV} {ow : Ow} {l : List St} (h : Lw k0 v ow l) : cellsP v = [v] := by
  rcases h with ⟨rfl, -⟩ | ⟨k, rfl, -, -, -⟩ <;> rfl
theorem Lw.c1 {k0 : Nat} {v : PV} {ow : Ow} {l : List St} (h : Lw k0 v ow l) : cell1 v = some (.sl l.isEmpty (tSts l)) := by
  rcases h with ⟨rfl, rfl⟩ | ⟨k, rfl, hne, -, -⟩
  · rfl
  · rw [List.isEmpty_eq_false_iff.2 hne]; rfl
theorem Lp.c1 {k0 : Nat} {v : PV} {ow : Ow} {l : List Pa} (h : Lp k0 v ow l) : cell1 v = some (.sl l.isEmpty (l.map tPa)) := by
  rcases h with ⟨rfl, rfl⟩ | ⟨k, rfl, hne, -, -⟩
  · rfl
  · rw [List.isEmpty_eq_false_iff.2 hne]; rfl
theorem Xk.c1 {x : PV} {e : Exp} (h : Xk x e) (hn : e.nl = false) : cell1 x = some (.sl e.nl (tExs e.args)) := by
  rw [hn]; rcases h with rfl | ⟨_, rfl⟩ <;> rfl
theorem Xk.al3 {x : PV} {e : Exp} (h : Xk x e) : (∀ r, allT (x :: r) = none) ∧ Go.Pi.one x = true ∧ close1 x = some (.sl false (tExs e.args)) := by
  rcases h with rfl | ⟨k, rfl⟩ <;> exact ⟨fun _ => rfl, rfl, rfl⟩
/-- A function: its cells, some under way. -/
def Fv (v : PV) (f : Fu) : Prop := ∃ p q r, cellsP v = [.t (.str f.name), p, .t (.int .i64 f.res.kind), .t (.int .i64 f.res.bits), .t (.int .i64 f.res.len), q, .t (.int .i64 f.ret.op), .t (.int .u64 f.ret.val), .t (.str f.ret.name), r] ∧ cell1 p = some (.sl f.pnl (f.params.map tPa)) ∧ cell1 q = some (.sl f.bnl (tSts f.body)) ∧ cell1 r = some (.sl f.ret.nl (tExs f.ret.args))
/-- Two segments of one's own: the result, and the function. -/
structure Tf (c : Nat) (a b : Int) (sg0 : Sg) (cs : List PV) (st : Ps) (sg : Sg) : Prop where
  q : Q c a b sg0 st sg
  z2 : sg[sg0.length]? = some (false, fC [] (.t (.sl true [])))
  z3 : sg[sg0.length + 1]? = some (false, cs)
theorem Tf.set {c : Nat} {a b : Int} {sg0 sg : Sg} {cs : List PV} {st : Ps} (t : Tf c a b sg0 cs st sg) (hc : c < sg0.length) (cs' : List PV) : Tf c a b sg0 cs' st (sg.set (sg0.length + 1) (false, cs')) :=
  ⟨t.q.hi (by omega) (by omega) _, by rw [set_ne (by omega)]; exact t.z2, get_set t.z3⟩
theorem Tf.call {c : Nat} {a b : Int} {sg0 sg sg' : Sg} {cs : List PV} {st st' : Ps} (hc : c < sg0.length) (t : Tf c a b sg0 cs st sg) (q : Q c a b sg st' sg') : Tf c a b sg0 cs st' sg' :=
  ⟨t.q.trans q, q.fr.get t.z2 (by omega), q.fr.get t.z3 (by omega)⟩
set_option maxHeartbeats 8000000 in
theorem ok20 (hg : GlOk gl) {n : Nat} {c : Nat} {a b : Int} {st : Ps} {sg : Sg} {ow : Ow} (hp : PreS c a b st sg) (hf : 12 * st.ts.length + 13 ≤ n) : CallE F gl 20 [.lp c 0] sg ow fun v sg' ow' => Fv v (fnM n st).1 ∧ Q c a b sg (fnM n st).2 sg' ∧ OwK ow ow' := by
  refine XcE.of F20 rfl ?_
  simp only [ir20]
  have hcl := hp.pre.lt
  have hln := hp.pre.ln
  have l16 := hp.l16
  simp only [wA, seval, reduceCtorEq, reduceIte]
  refine CallE.mono (ok54 (hp.pre.app _).cell hp.pre.ne (by omega) [102, 110]) fun v0 sg1 ow1 h0 => ?_
  obtain ⟨e0, q0, o0⟩ := h0
  subst e0 o0
  have t0 : Tf c a b sg (fC [] (.t (.sl true []))) (expM [102, 110] st) sg1 := ⟨q0.from, q0.fr.get cat0 (by omega), q0.fr.get cat1 (by omega)⟩
  have s0 := suf_exp hp.pre.wf [102, 110]
  have l0 := s0.le
  have w0 := hp.wv.of s0
  have p0 := hp.pre.next q0 s0
  simp only [wA, seval, reduceCtorEq, reduceIte]
  refine CallE.mono (ok55 t0.q.cell p0.ne (by omega)) fun v1 sg2 ow2 h1 => ?_
  obtain ⟨e1, q1, o1⟩ := h1
  subst e1 o1
  have t1 := Tf.call hcl t0 q1
  have s1 := suf_name p0.wf
  have p1 := p0.next q1 s1
  have w1 := w0.of s1
  have l1 := s1.le
  simp only [wA, seval, reduceCtorEq, reduceIte, t1.z3]
  refine CallE.mono (ok54 (t1.set hcl _).q.cell p1.ne (by omega) [40]) fun v2 sg3 ow3 h2 => ?_
  obtain ⟨e2, q2, o2⟩ := h2
  subst e2 o2
  have t2 := Tf.call hcl (t1.set hcl _) q2
  have s2 := suf_exp p1.wf [40]
  have p2 := p1.next q2 s2
  have w2 := w1.of s2
  have l2 := s2.le
  cases ha : atM [41] (expM [40] (nameM (expM [102, 110] st)).2) with
  | true =>
    have f0 := @nat_nn
    have f2 := @nat_nn
    have f3 := @nat_nn
    have t4 := t2
    have p4 := p2
    have w4 := w2
    have l4 := l2
    have ho0 := OwK.refl (ow := ow3)
    have c0 : cell1 (.t (.sl true [])) = some (.sl true (([] : List Pa).map tPa)) := rfl
    simp only [wA, seval, reduceCtorEq, reduceIte, ok19 t2.q.cell p2.ne, ha]
    have hB : fnM n st = (⟨(nameM (expM [102, 110] st)).1, ([] : List Pa).isEmpty, ([] : List Pa), (tyM (expM [58] (expM [41] (expM [40] (nameM (expM [102, 110] st)).2)))).1, (bodM n true [] (expM [123] (tyM (expM [58] (expM [41] (expM [40] (nameM (expM [102, 110] st)).2)))).2)).1.isEmpty, (bodM n true [] (expM [123] (tyM (expM [58] (expM [41] (expM [40] (nameM (expM [102, 110] st)).2)))).2)).1, (exprM n (expM [114, 101, 116, 117, 114, 110] (bodM n true [] (expM [123] (tyM (expM [58] (expM [41] (expM [40] (nameM (expM [102, 110] st)).2)))).2)).2)).1⟩, expM [125] (expM [59] (depM (bodM n true [] (expM [123] (tyM (expM [58] (expM [41] (expM [40] (nameM (expM [102, 110] st)).2)))).2)).2.hd.pos (decide ((dEx (exprM n (expM [114, 101, 116, 117, 114, 110] (bodM n true [] (expM [123] (tyM (expM [58] (expM [41] (expM [40] (nameM (expM [102, 110] st)).2)))).2)).2)).1 : Int) > 40)) (exprM n (expM [114, 101, 116, 117, 114, 110] (bodM n true [] (expM [123] (tyM (expM [58] (expM [41] (expM [40] (nameM (expM [102, 110] st)).2)))).2)).2)).2))) := by unfold fnM parsPM; simp only [ha]; rfl
    refine CallE.mono (ok54 t4.q.cell p4.ne (by omega) [41]) fun v5 sg5 ow5 h5 => ?_
    obtain ⟨e5, q5, o5⟩ := h5
    subst e5 o5
    have t5 := Tf.call hcl t4 q5
    have s5 := suf_exp p4.wf [41]
    have p5 := p4.next q5 s5
    have w5 := w4.of s5
    have l5 := s5.le
    simp only [wA, seval, reduceCtorEq, reduceIte, f0, f2, f3]
    refine CallE.mono (ok54 t5.q.cell p5.ne (by omega) [58]) fun v6 sg6 ow6 h6 => ?_
    obtain ⟨e6, q6, o6⟩ := h6
    subst e6 o6
    have t6 := Tf.call hcl t5 q6
    have s6 := suf_exp p5.wf [58]
    have p6 := p5.next q6 s6
    have w6 := w5.of s6
    have l6 := s6.le
    simp only [wA, seval, reduceCtorEq, reduceIte, f0, f2, f3]
    refine CallE.mono (ok58 p6) fun v7 sg7 ow7 h7 => ?_
    obtain ⟨e7, q7, o7⟩ := h7
    subst e7 o7
    have t7 := Tf.call hcl t6 q7
    have s7 := suf_ty p6.wf
    have p7 := p6.next q7 s7
    have w7 := w6.of s7
    have l7 := s7.le
    simp only [wA, seval, reduceCtorEq, reduceIte, f0, f2, f3, t7.z3]
    refine CallE.mono (ok54 (t7.set hcl _).q.cell p7.ne (by omega) [123]) fun v8 sg8 ow8 h8 => ?_
    obtain ⟨e8, q8, o8⟩ := h8
    subst e8 o8
    have t8 := Tf.call hcl (t7.set hcl _) q8
    have s8 := suf_exp p7.wf [123]
    have p8 := p7.next q8 s8
    have w8 := w7.of s8
    have l8 := s8.le
    simp only [wA, seval, reduceCtorEq, reduceIte, f0, f2, f3]
    refine CallE.mono ((callS hg n).bd true c a b _ sg8 _ ⟨p8, w8, by omega⟩ (by omega)) fun v9 sg9 ow9 h9 => ?_
    obtain ⟨hv9, q9, o9⟩ := h9
    have t9 := Tf.call hcl t8 q9
    have s9 := ((rds_all n).bd true [] _ p8.wf).suf
    have p9 := p8.next q9 s9
    have w9 := w8.of s9
    have l9 := s9.le
    obtain ⟨rr, hrr⟩ := hd_cons p9.ne
    have hon9 := Lw.one hv9
    have hcl9 := Lw.cl hv9
    have hc9 := (t9.set hcl [.t (.str (nameM (expM [102, 110] st)).1), .t (.sl true []), .t (.int .i64 (tyM (expM [58] (expM [41] (expM [40] (nameM (expM [102, 110] st)).2)))).1.kind), .t (.int .i64 (tyM (expM [58] (expM [41] (expM [40] (nameM (expM [102, 110] st)).2)))).1.bits), .t (.int .i64 (tyM (expM [58] (expM [41] (expM [40] (nameM (expM [102, 110] st)).2)))).1.len), v9, .t (.int .i64 0), .t (.int .u64 0), .t (.str []), .t (.sl true [])]).q.cell
    simp only [psC, hrr, List.map_cons] at hc9
    simp only [wA, seval, reduceCtorEq, reduceIte, f0, f2, f3, t9.z3, hon9, hcl9, hc9, tTok]
    refine CallE.mono (ok54 (t9.set hcl _).q.cell p9.ne (by omega) [114, 101, 116, 117, 114, 110]) fun v10 sg10 ow10 h10 => ?_
    obtain ⟨e10, q10, o10⟩ := h10
    subst e10 o10
    have t10 := Tf.call hcl (t9.set hcl _) q10
    have s10 := suf_exp p9.wf [114, 101, 116, 117, 114, 110]
    have p10 := p9.next q10 s10
    have w10 := w9.of s10
    have l10 := s10.le
    simp only [wA, seval, reduceCtorEq, reduceIte, f0, f2, f3]
    refine CallE.mono ((all hg n).ex c a b _ sg10 _ p10 (by omega)) fun v11 sg11 ow11 h11 => ?_
    obtain ⟨hv11, q11, o11⟩ := h11
    have R11 := (rd_all n).ex _ p10.wf
    have t11 := Tf.call hcl t10 q11
    have p11 := p10.next q11 R11.suf
    have l11 := R11.suf.le
    have hsz : szE (exprM n (expM [114, 101, 116, 117, 114, 110] (bodM n true [] (expM [123] (tyM (expM [58] (expM [41] (expM [40] (nameM (expM [102, 110] st)).2)))).2)).2)).1 ≤ B20 := by have := R11.sz; unfold B20; omega
    have hD := fun K => ok34 (gl := gl) (exprM n (expM [114, 101, 116, 117, 114, 110] (bodM n true [] (expM [123] (tyM (expM [58] (expM [41] (expM [40] (nameM (expM [102, 110] st)).2)))).2)).2)).1 hsz K
    simp only [tEx_eq] at hD
    have hoo := (ho0.trans o9).trans o11
    rcases hv11 with rfl | ⟨pp, ⟨hpp, hnn⟩, rfl⟩
    all_goals
      first | have hax := Xk.al3 hpp | have hax := @nat_nn
      have gs11 := fun y => get_set (y := y) t11.z3
      try rw [hnn] at hD
      simp only [wA, seval, reduceCtorEq, reduceIte, f0, f2, f3, t11.z3, gs11, hax, hD]
      refine CallE.mono (ok33 (t11.set hcl _).q.cell _ (decide ((dEx (exprM n (expM [114, 101, 116, 117, 114, 110] (bodM n true [] (expM [123] (tyM (expM [58] (expM [41] (expM [40] (nameM (expM [102, 110] st)).2)))).2)).2)).1 : Int) > 40))) fun v12 sg12 ow12 h12 => ?_
      obtain ⟨e12, q12, o12⟩ := h12
      subst e12 o12
      have t12 := Tf.call hcl (t11.set hcl _) q12
      have s12 := suf_dep p11.wf (bodM n true [] (expM [123] (tyM (expM [58] (expM [41] (expM [40] (nameM (expM [102, 110] st)).2)))).2)).2.hd.pos (decide ((dEx (exprM n (expM [114, 101, 116, 117, 114, 110] (bodM n true [] (expM [123] (tyM (expM [58] (expM [41] (expM [40] (nameM (expM [102, 110] st)).2)))).2)).2)).1 : Int) > 40))
      have p12 := p11.next q12 s12
      have l12 := s12.le
      simp only [wA, seval, reduceCtorEq, reduceIte, f0, f2, f3]
      refine CallE.mono (ok54 t12.q.cell p12.ne (by omega) [59]) fun v13 sg13 ow13 h13 => ?_
      obtain ⟨e13, q13, o13⟩ := h13
      subst e13 o13
      have t13 := Tf.call hcl t12 q13
      have s13 := suf_exp p12.wf [59]
      have p13 := p12.next q13 s13
      have l13 := s13.le
      simp only [wA, seval, reduceCtorEq, reduceIte, f0, f2, f3]
      refine CallE.mono (ok54 t13.q.cell p13.ne (by omega) [125]) fun v14 sg14 ow14 h14 => ?_
      obtain ⟨e14, q14, o14⟩ := h14
      subst e14 o14
      have t14 := Tf.call hcl t13 q14
      have gs := fun y => get_set (y := y) t14.z2
      have c9 := Lw.c1 hv9
      rw [hB]
      rcases hv9 with ⟨rfl, hA9⟩ | ⟨j9, rfl, hA9, -, -⟩
      all_goals
        simp only [wA, seval, reduceCtorEq, reduceIte, f0, f2, f3, t14.z3, t14.z2, gs, hax]
        first
          | exact ⟨⟨_, _, _, rfl, c0, c9, rfl⟩, t14.q.hi (Nat.le_refl _) (by omega) _, hoo⟩
          | exact ⟨⟨_, _, _, rfl, c0, c9, Xk.c1 hpp hnn⟩, t14.q.hi (Nat.le_refl _) (by omega) _, hoo⟩
  | false =>
    simp only [wA, seval, reduceCtorEq, reduceIte, ok19 t2.q.cell p2.ne, ha, t2.z3, loadK]
    refine CallE.mono (ok56 p2) fun v3 sg4 ow4 h3 => ?_
    obtain ⟨e3, q3, o3⟩ := h3
    subst e3 o3
    have t3 := Tf.call hcl t2 q3
    have s3 := suf_par p2.wf
    have p3 := p2.next q3 s3
    have l3 := s3.le
    have hv00 : Lp ow4.length (.t (.sl true [])) ow4 [] := .inl ⟨rfl, rfl⟩
    obtain ⟨x, hx, hx1, hx2, hx3⟩ := app_lp hv00 (Nat.le_refl _) (by simp) true (parM (expM [40] (nameM (expM [102, 110] st)).2)).1
    have hb := bslPa (parM (expM [40] (nameM (expM [102, 110] st)).2)).1
    have hon2 := hx1.one
    have hcl2 := hx1.cl
    simp only [wA, seval, reduceCtorEq, reduceIte, keepsV_cons, keepsV_nil, keepP, keep1_self, t2.z3, t3.z3, hb, hx, hon2, hcl2]
    have t3s := t3.set hcl (fC (nameM (expM [102, 110] st)).1 x.1)
    refine loop20 (i3 := sg.length + 1) (i2 := sg.length) (w2 := .lp sg.length 0) (sg0 := sg) (ow0 := ow4) (a := a) (b := b) (c := c) hcl (by omega) (by omega) (by omega) _ n _ x.1 (parM (expM [40] (nameM (expM [102, 110] st)).2)).2 _ x.2 _ hx1 ⟨hx2, hx3⟩ (p3.next t3s.q (Suf.refl p3.wf)) (by simp only [List.length_append, List.length_cons, List.length_nil]; omega) t3s.q t3s.z3 t3s.z2 (by omega) ?_ ?_
    · simp only [FrAt_cons, FrAt_nil, wFr, Nat.reduceEqDiff, Nat.one_ne_zero, Nat.zero_ne_one, reduceIte, and_self, and_true, true_and]
    intro fr' sgL owL v0 hv0 qL z3L z2L wL sL hfr ho0
    simp only [FrAt_cons, FrAt_nil] at hfr
    obtain ⟨f0, f2, f3, -⟩ := hfr
    have t4 : Tf c a b sg (fC (nameM (expM [102, 110] st)).1 v0) (parL n [(parM (expM [40] (nameM (expM [102, 110] st)).2)).1] (parM (expM [40] (nameM (expM [102, 110] st)).2)).2).2 sgL := ⟨qL, z2L, z3L⟩
    have l4 : (parL n [(parM (expM [40] (nameM (expM [102, 110] st)).2)).1] (parM (expM [40] (nameM (expM [102, 110] st)).2)).2).2.ts.length ≤ (expM [40] (nameM (expM [102, 110] st)).2).ts.length := (s3.trans sL).le
    have p4 : Pre c a b (parL n [(parM (expM [40] (nameM (expM [102, 110] st)).2)).1] (parM (expM [40] (nameM (expM [102, 110] st)).2)).2).2 sgL := ⟨qL.cell, wL, by omega⟩
    have w4 : Wv (parL n [(parM (expM [40] (nameM (expM [102, 110] st)).2)).1] (parM (expM [40] (nameM (expM [102, 110] st)).2)).2).2 := (w2.of s3).of sL
    have c0 := Lp.c1 hv0
    simp only [wA, seval, reduceCtorEq, reduceIte, f0, f2, f3]
    have hB : fnM n st = (⟨(nameM (expM [102, 110] st)).1, (parL n [(parM (expM [40] (nameM (expM [102, 110] st)).2)).1] (parM (expM [40] (nameM (expM [102, 110] st)).2)).2).1.isEmpty, (parL n [(parM (expM [40] (nameM (expM [102, 110] st)).2)).1] (parM (expM [40] (nameM (expM [102, 110] st)).2)).2).1, (tyM (expM [58] (expM [41] (parL n [(parM (expM [40] (nameM (expM [102, 110] st)).2)).1] (parM (expM [40] (nameM (expM [102, 110] st)).2)).2).2))).1, (bodM n true [] (expM [123] (tyM (expM [58] (expM [41] (parL n [(parM (expM [40] (nameM (expM [102, 110] st)).2)).1] (parM (expM [40] (nameM (expM [102, 110] st)).2)).2).2))).2)).1.isEmpty, (bodM n true [] (expM [123] (tyM (expM [58] (expM [41] (parL n [(parM (expM [40] (nameM (expM [102, 110] st)).2)).1] (parM (expM [40] (nameM (expM [102, 110] st)).2)).2).2))).2)).1, (exprM n (expM [114, 101, 116, 117, 114, 110] (bodM n true [] (expM [123] (tyM (expM [58] (expM [41] (parL n [(parM (expM [40] (nameM (expM [102, 110] st)).2)).1] (parM (expM [40] (nameM (expM [102, 110] st)).2)).2).2))).2)).2)).1⟩, expM [125] (expM [59] (depM (bodM n true [] (expM [123] (tyM (expM [58] (expM [41] (parL n [(parM (expM [40] (nameM (expM [102, 110] st)).2)).1] (parM (expM [40] (nameM (expM [102, 110] st)).2)).2).2))).2)).2.hd.pos (decide ((dEx (exprM n (expM [114, 101, 116, 117, 114, 110] (bodM n true [] (expM [123] (tyM (expM [58] (expM [41] (parL n [(parM (expM [40] (nameM (expM [102, 110] st)).2)).1] (parM (expM [40] (nameM (expM [102, 110] st)).2)).2).2))).2)).2)).1 : Int) > 40)) (exprM n (expM [114, 101, 116, 117, 114, 110] (bodM n true [] (expM [123] (tyM (expM [58] (expM [41] (parL n [(parM (expM [40] (nameM (expM [102, 110] st)).2)).1] (parM (expM [40] (nameM (expM [102, 110] st)).2)).2).2))).2)).2)).2))) := by unfold fnM parsPM; simp only [ha]; rfl
    refine CallE.mono (ok54 t4.q.cell p4.ne (by omega) [41]) fun v5 sg5 ow5 h5 => ?_
    obtain ⟨e5, q5, o5⟩ := h5
    subst e5 o5
    have t5 := Tf.call hcl t4 q5
    have s5 := suf_exp p4.wf [41]
    have p5 := p4.next q5 s5
    have w5 := w4.of s5
    have l5 := s5.le
    simp only [wA, seval, reduceCtorEq, reduceIte, f0, f2, f3]
    refine CallE.mono (ok54 t5.q.cell p5.ne (by omega) [58]) fun v6 sg6 ow6 h6 => ?_
    obtain ⟨e6, q6, o6⟩ := h6
    subst e6 o6
    have t6 := Tf.call hcl t5 q6
    have s6 := suf_exp p5.wf [58]
    have p6 := p5.next q6 s6
    have w6 := w5.of s6
    have l6 := s6.le
    simp only [wA, seval, reduceCtorEq, reduceIte, f0, f2, f3]
    refine CallE.mono (ok58 p6) fun v7 sg7 ow7 h7 => ?_
    obtain ⟨e7, q7, o7⟩ := h7
    subst e7 o7
    have t7 := Tf.call hcl t6 q7
    have s7 := suf_ty p6.wf
    have p7 := p6.next q7 s7
    have w7 := w6.of s7
    have l7 := s7.le
    simp only [wA, seval, reduceCtorEq, reduceIte, f0, f2, f3, t7.z3]
    refine CallE.mono (ok54 (t7.set hcl _).q.cell p7.ne (by omega) [123]) fun v8 sg8 ow8 h8 => ?_
    obtain ⟨e8, q8, o8⟩ := h8
    subst e8 o8
    have t8 := Tf.call hcl (t7.set hcl _) q8
    have s8 := suf_exp p7.wf [123]
    have p8 := p7.next q8 s8
    have w8 := w7.of s8
    have l8 := s8.le
    simp only [wA, seval, reduceCtorEq, reduceIte, f0, f2, f3]
    refine CallE.mono ((callS hg n).bd true c a b _ sg8 _ ⟨p8, w8, by omega⟩ (by omega)) fun v9 sg9 ow9 h9 => ?_
    obtain ⟨hv9, q9, o9⟩ := h9
    have t9 := Tf.call hcl t8 q9
    have s9 := ((rds_all n).bd true [] _ p8.wf).suf
    have p9 := p8.next q9 s9
    have w9 := w8.of s9
    have l9 := s9.le
    obtain ⟨rr, hrr⟩ := hd_cons p9.ne
    have hon9 := Lw.one hv9
    have hcl9 := Lw.cl hv9
    have hc9 := (t9.set hcl [.t (.str (nameM (expM [102, 110] st)).1), v0, .t (.int .i64 (tyM (expM [58] (expM [41] (parL n [(parM (expM [40] (nameM (expM [102, 110] st)).2)).1] (parM (expM [40] (nameM (expM [102, 110] st)).2)).2).2))).1.kind), .t (.int .i64 (tyM (expM [58] (expM [41] (parL n [(parM (expM [40] (nameM (expM [102, 110] st)).2)).1] (parM (expM [40] (nameM (expM [102, 110] st)).2)).2).2))).1.bits), .t (.int .i64 (tyM (expM [58] (expM [41] (parL n [(parM (expM [40] (nameM (expM [102, 110] st)).2)).1] (parM (expM [40] (nameM (expM [102, 110] st)).2)).2).2))).1.len), v9, .t (.int .i64 0), .t (.int .u64 0), .t (.str []), .t (.sl true [])]).q.cell
    simp only [psC, hrr, List.map_cons] at hc9
    simp only [wA, seval, reduceCtorEq, reduceIte, f0, f2, f3, t9.z3, hon9, hcl9, hc9, tTok]
    refine CallE.mono (ok54 (t9.set hcl _).q.cell p9.ne (by omega) [114, 101, 116, 117, 114, 110]) fun v10 sg10 ow10 h10 => ?_
    obtain ⟨e10, q10, o10⟩ := h10
    subst e10 o10
    have t10 := Tf.call hcl (t9.set hcl _) q10
    have s10 := suf_exp p9.wf [114, 101, 116, 117, 114, 110]
    have p10 := p9.next q10 s10
    have w10 := w9.of s10
    have l10 := s10.le
    simp only [wA, seval, reduceCtorEq, reduceIte, f0, f2, f3]
    refine CallE.mono ((all hg n).ex c a b _ sg10 _ p10 (by omega)) fun v11 sg11 ow11 h11 => ?_
    obtain ⟨hv11, q11, o11⟩ := h11
    have R11 := (rd_all n).ex _ p10.wf
    have t11 := Tf.call hcl t10 q11
    have p11 := p10.next q11 R11.suf
    have l11 := R11.suf.le
    have hsz : szE (exprM n (expM [114, 101, 116, 117, 114, 110] (bodM n true [] (expM [123] (tyM (expM [58] (expM [41] (parL n [(parM (expM [40] (nameM (expM [102, 110] st)).2)).1] (parM (expM [40] (nameM (expM [102, 110] st)).2)).2).2))).2)).2)).1 ≤ B20 := by have := R11.sz; unfold B20; omega
    have hD := fun K => ok34 (gl := gl) (exprM n (expM [114, 101, 116, 117, 114, 110] (bodM n true [] (expM [123] (tyM (expM [58] (expM [41] (parL n [(parM (expM [40] (nameM (expM [102, 110] st)).2)).1] (parM (expM [40] (nameM (expM [102, 110] st)).2)).2).2))).2)).2)).1 hsz K
    simp only [tEx_eq] at hD
    have hoo := (ho0.trans o9).trans o11
    rcases hv11 with rfl | ⟨pp, ⟨hpp, hnn⟩, rfl⟩
    all_goals
      first | have hax := Xk.al3 hpp | have hax := @nat_nn
      have gs11 := fun y => get_set (y := y) t11.z3
      try rw [hnn] at hD
      simp only [wA, seval, reduceCtorEq, reduceIte, f0, f2, f3, t11.z3, gs11, hax, hD]
      refine CallE.mono (ok33 (t11.set hcl _).q.cell _ (decide ((dEx (exprM n (expM [114, 101, 116, 117, 114, 110] (bodM n true [] (expM [123] (tyM (expM [58] (expM [41] (parL n [(parM (expM [40] (nameM (expM [102, 110] st)).2)).1] (parM (expM [40] (nameM (expM [102, 110] st)).2)).2).2))).2)).2)).1 : Int) > 40))) fun v12 sg12 ow12 h12 => ?_
      obtain ⟨e12, q12, o12⟩ := h12
      subst e12 o12
      have t12 := Tf.call hcl (t11.set hcl _) q12
      have s12 := suf_dep p11.wf (bodM n true [] (expM [123] (tyM (expM [58] (expM [41] (parL n [(parM (expM [40] (nameM (expM [102, 110] st)).2)).1] (parM (expM [40] (nameM (expM [102, 110] st)).2)).2).2))).2)).2.hd.pos (decide ((dEx (exprM n (expM [114, 101, 116, 117, 114, 110] (bodM n true [] (expM [123] (tyM (expM [58] (expM [41] (parL n [(parM (expM [40] (nameM (expM [102, 110] st)).2)).1] (parM (expM [40] (nameM (expM [102, 110] st)).2)).2).2))).2)).2)).1 : Int) > 40))
      have p12 := p11.next q12 s12
      have l12 := s12.le
      simp only [wA, seval, reduceCtorEq, reduceIte, f0, f2, f3]
      refine CallE.mono (ok54 t12.q.cell p12.ne (by omega) [59]) fun v13 sg13 ow13 h13 => ?_
      obtain ⟨e13, q13, o13⟩ := h13
      subst e13 o13
      have t13 := Tf.call hcl t12 q13
      have s13 := suf_exp p12.wf [59]
      have p13 := p12.next q13 s13
      have l13 := s13.le
      simp only [wA, seval, reduceCtorEq, reduceIte, f0, f2, f3]
      refine CallE.mono (ok54 t13.q.cell p13.ne (by omega) [125]) fun v14 sg14 ow14 h14 => ?_
      obtain ⟨e14, q14, o14⟩ := h14
      subst e14 o14
      have t14 := Tf.call hcl t13 q14
      have gs := fun y => get_set (y := y) t14.z2
      have c9 := Lw.c1 hv9
      rw [hB]
      rcases hv0 with ⟨rfl, hA0⟩ | ⟨j0, rfl, hA0, -, -⟩ <;> rcases hv9 with ⟨rfl, hA9⟩ | ⟨j9, rfl, hA9, -, -⟩
      all_goals
        simp only [wA, seval, reduceCtorEq, reduceIte, f0, f2, f3, t14.z3, t14.z2, gs, hax]
        first
          | exact ⟨⟨_, _, _, rfl, c0, c9, rfl⟩, t14.q.hi (Nat.le_refl _) (by omega) _, hoo⟩
          | exact ⟨⟨_, _, _, rfl, c0, c9, Xk.c1 hpp hnn⟩, t14.q.hi (Nat.le_refl _) (by omega) _, hoo⟩
end Go.Proofs.YtcbgiabippcpaaaGreatDoor
