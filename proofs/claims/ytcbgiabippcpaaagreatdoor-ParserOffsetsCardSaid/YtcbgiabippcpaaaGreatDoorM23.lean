/- The parser: functions, the loop over parameters. -/
import Derived.Test.YtcbgiabippcpaaaGreatDoorM22
set_option maxRecDepth 10000
set_option linter.unusedVariables false
set_option linter.unusedSimpArgs false
namespace Go.Proofs.YtcbgiabippcpaaaGreatDoor
open Go.Pi Go.Lx Go.Ky
variable {gl : Nat → Option (List T)}

/-- The parameters read so far. -/
def Lp (k0 : Nat) (v : PV) (ow : Ow) (l : List Pa) : Prop := (v = .t (.sl true []) ∧ l = []) ∨ ∃ k, v = .own k 4 (l.map tPa) ∧ l ≠ [] ∧ ow[k]? = some l.length ∧ k0 ≤ k
theorem Lp.keep {k0 : Nat} {v : PV} {ow ow' : Ow} {l : List Pa} (h : Lp k0 v ow l) (ho : OwK ow ow') : Lp k0 v ow' l := by
  rcases h with h | ⟨k, rfl, hl, hk, hl0⟩
  · exact .inl h
  · exact .inr ⟨k, rfl, hl, by rw [ho.2 k (List.getElem?_eq_some_iff.1 hk).1]; exact hk, hl0⟩
theorem Lp.one {k0 : Nat} {v : PV} {ow : Ow} {l : List Pa} (h : Lp k0 v ow l) : Go.Pi.one v = true := by
  rcases h with ⟨rfl, -⟩ | ⟨k, rfl, -, -, -⟩ <;> rfl
theorem Lp.cl {k0 : Nat} {v : PV} {ow : Ow} {l : List Pa} (h : Lp k0 v ow l) : cellsP v = [v] := by
  rcases h with ⟨rfl, -⟩ | ⟨k, rfl, -, -, -⟩ <;> rfl
theorem roomPa {n : Nat} (h : n ≤ 1000000) : room n 40 = true := by
  unfold room
  exact decide_eq_true ⟨by omega, by omega⟩
theorem app_lp {k0 : Nat} {v : PV} {ow : Ow} {l : List Pa} (h : Lp k0 v ow l) (hk : k0 ≤ ow.length) (hl : l.length < 1000000) (dr : Bool) (e : Pa) : ∃ x, (∀ sg, appendP dr sg ow 4 40 v (.lit [tPa e]) = some x) ∧ Lp k0 x.1 x.2 (l ++ [e]) ∧ ow.length ≤ x.2.length ∧ ∀ j, j < k0 → x.2[j]? = ow[j]? := by
  have e2 : ∀ sg, elemsS sg 4 (.lit [tPa e]) = some [tPa e] := fun sg => rfl
  have e3 : ([tPa e].all (fun x => x.length == 4)) = true := rfl
  rcases h with ⟨rfl, rfl⟩ | ⟨k, rfl, hne, hkk, hl0⟩
  · refine ⟨(.own ow.length 4 [tPa e], ow ++ [1]), ?_, ?_, ?_, ?_⟩
    · intro sg
      have r : room ([tPa e].length) 40 = true := roomPa (by simp)
      simp only [appendP, e2, e3, r, Nat.zero_lt_succ, and_self, if_true]
      rfl
    · refine .inr ⟨ow.length, rfl, by simp, ?_, hk⟩
      exact List.getElem?_concat_length
    · simp only [List.length_append]; omega
    · intro j hj
      exact List.getElem?_append_left (by omega)
  · refine ⟨(.own k 4 (l.map tPa ++ [tPa e]), ow.set k ((l.map tPa).length + 1)), ?_, ?_, ?_, ?_⟩
    · intro sg
      have r : room ((l.map tPa).length + [tPa e].length) 40 = true := roomPa (by rw [List.length_map]; simp only [List.length_cons, List.length_nil]; omega)
      have hk2 : ow[k]? = some (l.map tPa).length := by rw [List.length_map]; exact hkk
      simp only [appendP, e2, e3, hk2, r, Nat.zero_lt_succ, and_self, if_true]
      rfl
    · refine .inr ⟨k, by rw [List.map_append]; rfl, by simp, ?_, hl0⟩
      show (ow.set k ((l.map tPa).length + 1))[k]? = _
      rw [List.getElem?_set_self (List.getElem?_eq_some_iff.1 hkk).1, List.length_map, List.length_append]; rfl
    · simp only [List.length_set]; omega
    · intro j hj
      exact List.getElem?_set_ne (by omega)
abbrev fC (nm : Nm) (v : PV) : List PV := [.t (.str nm), v, .t (.int .i64 0), .t (.int .i64 0), .t (.int .i64 0), .t (.sl true []), .t (.int .i64 0), .t (.int .u64 0), .t (.str []), .t (.sl true [])]
abbrev z4p : List T := [.str [], .int .i64 0, .int .i64 0, .int .i64 0]
theorem bslPa (p : Pa) : bslV 4 1 z4p [(0, 4, .t (.agg (tPa p)))] = some (.lit [tPa p]) := rfl
set_option maxHeartbeats 2000000 in
theorem loop20 {c i3 : Nat} {w2 : PV} {a b : Int} {sg0 : Sg} {ow0 : Ow} {nm : Nm} (hc0 : c < sg0.length) (h3 : sg0.length ≤ i3) {i2 : Nat} {y2 : Bool × List PV} (h23 : i3 ≠ i2) (h2c : i2 ≠ c) (X : Ex → S → Prop) :
    ∀ (m : Nat) (l : List Pa) (v : PV) (st : Ps) (sg : Sg) (ow : Ow) (fr : List PV), Lp ow0.length v ow l → OwK ow0 ow → Pre c a b st sg → l.length + st.ts.length ≤ 200000 → Q c a b sg0 st sg → sg[i3]? = some (false, fC nm v) → sg[i2]? = some y2 → st.ts.length ≤ m →
    FrAt fr [(0, .lp c 0), (2, w2), (3, .lp i3 0)] →
    (∀ fr' sg' ow' v', Lp ow0.length v' ow' (parL m l st).1 → Q c a b sg0 (parL m l st).2 sg' → sg'[i3]? = some (false, fC nm v') → sg'[i2]? = some y2 → WfT (parL m l st).2.ts → Suf st (parL m l st).2 → FrAt fr' [(0, .lp c 0), (2, w2), (3, .lp i3 0)] → OwK ow0 ow' → X (.exit 0) ⟨fr', sg', ow'⟩) →
    Xl F gl lb20_0 ⟨fr, sg, ow⟩ X ⟨⟩ := by
  intro m
  induction m with
  | zero => intro l v st sg ow fr _ _ hp _ _ _ _ hf; have := hp.wf.len; omega
  | succ m ih =>
    intro l v st sg ow fr hv ho hp hll hq z3 z2 hf hfr k
    simp only [FrAt_cons, FrAt_nil] at hfr
    obtain ⟨f0, f2, f3, -⟩ := hfr
    refine Xl.step ?_
    simp only [lb20_0]
    simp only [wA, seval, reduceCtorEq, reduceIte, f0, f3]
    refine CallE.mono (ok57 hp.cell hp.ne [44]) fun w sg1 ow1 h => ?_
    obtain ⟨e1, q1, o1⟩ := h
    subst e1 o1
    unfold accM at q1
    have z3b := q1.fr.get z3 (by omega)
    have z2b := q1.fr.get z2 h2c
    cases ha : atM [44] st with
    | false =>
      rw [ha] at q1
      simp only [Bool.false_eq_true, if_false] at q1
      have hB : parL (m + 1) l st = (l, st) := by rw [parL, if_neg (by rw [ha]; simp)]
      rw [hB] at k
      simp only [wA, seval, reduceCtorEq, reduceIte, f0, f3]
      refine k _ _ _ v hv (hq.trans q1) z3b z2b hp.wf (Suf.refl hp.wf) ?_ ho
      simp only [FrAt_cons, FrAt_nil, wFr, Nat.reduceEqDiff, Nat.one_ne_zero, Nat.zero_ne_one, reduceIte, and_self, and_true, true_and, f0, f2, f3]
    | true =>
      rw [ha] at q1
      simp only [reduceIte] at q1
      have l1 := take_len hp.wf (at_kind ha)
      have s1 := suf_take hp.wf
      have hp1 := hp.next q1 s1
      have hB : parL (m + 1) l st = parL m (l ++ [(parM (takeM st)).1]) (parM (takeM st)).2 := by rw [parL, if_pos ha]
      rw [hB] at k
      have hon := hv.one
      simp only [wA, seval, reduceCtorEq, reduceIte, f0, f3, loadK, z3b, hon]
      refine CallE.mono (ok56 hp1) fun v2 sg2 ow2 h2 => ?_
      obtain ⟨e2, q2, o2⟩ := h2
      subst e2 o2
      have s2 := suf_par hp1.wf
      have l2 := s2.le
      have z3c := q2.fr.get z3b (by omega)
      have z2c := q2.fr.get z2b h2c
      have gs := fun y => get_set (y := y) z3c
      obtain ⟨x, hx, hx1, hx2, hx3⟩ := app_lp hv ho.1 (by have := hp.wf.len; omega) true (parM (takeM st)).1
      have hon2 := hx1.one
      have hcl2 := hx1.cl
      have hb := bslPa (parM (takeM st)).1
      simp only [wA, seval, reduceCtorEq, reduceIte, f0, f3, keepsV_cons, keepsV_nil, keepP, keep1_self, z3b, z3c, hb, hx, hon2, hon, hcl2]
      have q3 := ((hq.trans q1).trans q2).hi (i := i3) h3 (by omega) (false, fC nm x.1)
      refine ih (l ++ [(parM (takeM st)).1]) x.1 (parM (takeM st)).2 _ x.2 _ hx1 ?_ (hp1.next q3 s2) (by simp only [List.length_append, List.length_cons, List.length_nil]; omega) q3 (gs _) ((set_ne h23 _).trans z2c) (by omega) ?_ ?_
      · exact ⟨Nat.le_trans ho.1 hx2, fun j hj => by rw [hx3 j hj, ho.2 j hj]⟩
      · simp only [FrAt_cons, FrAt_nil, wFr, Nat.reduceEqDiff, Nat.one_ne_zero, Nat.zero_ne_one, reduceIte, and_self, and_true, true_and, f0, f2, f3]
      · intro fr' sg' ow' v' a1 a2 a3 a4 a5 a6 a7 a8
        exact k fr' sg' ow' v' a1 a2 a3 a4 a5 ((s1.trans s2).trans a6) a7 a8
end Go.Proofs.YtcbgiabippcpaaaGreatDoor
