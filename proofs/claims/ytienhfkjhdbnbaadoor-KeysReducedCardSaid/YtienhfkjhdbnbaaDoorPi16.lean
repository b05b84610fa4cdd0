/- PI 16: one operation. Program independent. -/
import Derived.Test.YtienhfkjhdbnbaaDoorPi15
namespace Go.Pi
variable {P : Program} {tb : Tb} {gl : Nat → Option (List T)} {G : Gh} {w : World} {nt : Nat} {a : Act} {K : Act → World → Prop} {Q : Exit → Act → World → Prop} {o : Oper}

theorem wp_value {val : Value} {w' : World} (h : (execOp a.eval o).run P w = .ok (.value val) w') (hK : K (a.put o.dst val) w') : o.wp P a w K Q := by
  unfold Oper.wp
  rw [h]
  exact hK
theorem wp_skip' {w' : World} (h : (execOp a.eval o).run P w = .ok .skip w') (hK : K (a.put o.dst undef) w') : o.wp P a w K Q := by
  unfold Oper.wp
  rw [h]
  exact hK
theorem wp_enter {f : FuncId} {args : Array Value} {w' : World} {R : Value → World → Prop} (h : (execOp a.eval o).run P w = .ok (.enter f args) w') (hc : Calls P f args w' fun e w'' => ∃ v, e = .returned v ∧ R v w'') (hK : ∀ v w'', R v w'' → K (a.put o.dst v) w'') : o.wp P a w K Q := by
  unfold Oper.wp
  rw [h]
  refine hc.mono ?_
  rintro e w'' ⟨v, rfl, hr⟩
  exact hK v w'' hr
theorem orep {x : Option Operand} {y : Option Opd} {fr : List PV} (h : compOpdO tb nt x = some y) (hf : FRep tb.fx G w nt a fr) : ORep tb.fx G w (x.map a.eval) (y.map (Opd.ev fr)) := by
  cases x with
  | none => simp [compOpdO] at h; subst h; trivial
  | some x =>
    simp only [compOpdO, Option.map_eq_some_iff] at h
    obtain ⟨z, hz, rfl⟩ := h
    exact opd_rep hz hf
theorem storeP_ok {sg : Sg} {ow : Ow} (hi : Inv tb.fx gl G w sg ow) {t : TypeId} {n : Nat} {va vv : Value} {xa xv : PV} {sg' : Sg} (hs : tySz P t = some n) (ha : PRep tb.fx G w va xa) (hv : PRep tb.fx G w vv xv) (h : storeP sg n xv xa = some sg') :
    ∃ w', (Instr.storeAt t va vv).run P w = .ok () w' ∧ Ext G w G w' ∧ Inv tb.fx gl G w' sg' ow := by
  unfold storeP at h
  split at h
  · rename_i id off
    split at h
    · rename_i cs hsg
      split at h
      · rename_i hc
        injection h with h
        subst h
        obtain ⟨c1, c2, c3⟩ := hc
        cases ha with | lp _ _ b hb =>
        obtain ⟨c, t', z, e1, e2, e3, e4⟩ := hi.blk id b false cs hb hsg
        obtain ⟨hz, _⟩ := e4 rfl
        obtain ⟨d1, d2⟩ := cells_rep hv
        have hone : ∀ u ∈ vv.cells.toList, u.oneCell' = true := by
          intro u hu
          obtain ⟨j, hj⟩ := List.getElem?_of_mem hu
          have hj' : vv.cells[j]? = some u := by simpa using hj
          have hlt : j < (cellsP xv).length := by rw [← d1]; exact (Array.getElem?_eq_some_iff.1 hj').1
          have hy := List.getElem?_eq_getElem hlt
          have hp := d2 j u _ hj' hy
          have ho := List.all_eq_true.1 c3 _ (List.mem_of_getElem? hy)
          generalize (cellsP xv)[j] = y at hp ho
          cases hp with
          | t ht => cases ht <;> first | rfl | cases ho
          | agg => cases ho
          | tup => cases ho
          | _ => rfl
        have hlen : vv.cells.toList.length = n := by rw [Array.length_toList, d1, c1]
        have hst := run_storeCells (P := P) vv.cells.toList w b off 0 c t' z e1 (by omega) hz hone
        rw [Nat.add_zero] at hst
        have hcr := CRep.set (off := off) (show CRep tb.fx G w c cs from ⟨e2, e3⟩) (show CRep tb.fx G w vv.cells (cellsP xv) from ⟨d1, d2⟩) (by omega)
        obtain ⟨hE, hI⟩ := hi.storeLocal hb hsg e1 (setR c off vv.cells.toList) _ (setR_size _ _ _) hcr.1 hcr.2
        refine ⟨_, ?_, hE, hI⟩
        have hsz : vv.cells.size = n := by rw [d1, c1]
        simp only [Instr.storeAt, Sem.run_bind, run_sureAddr, Result.andThen_ok, storeVar, run_sizeOf hs, hsz, ne_eq, not_true, if_false, hst]
      · cases h
    · cases h
  · cases h
theorem retSl_rep {Gc : Gh} {w' : World} {sg' : Sg} {ow' : Ow} (hI : Inv tb.fx gl Gc w' sg' ow') {u : Value} {x : PV} {y : T} (hu : PRep tb.fx Gc w' u x) (h : retSl sg' x = some y) : TRep (fun b o => Gc.st b o ∨ (b < w'.heap.size ∧ ∃ i : Nat, Gc.mu[i]? = some b)) w' u y := by
  unfold retSl at h
  split at h
  · rename_i id off len sz
    simp only [Option.map_eq_some_iff] at h
    obtain ⟨es, hes, rfl⟩ := h
    have hes' := hes
    unfold elemsS at hes'
    simp only [if_true] at hes'
    split at hes'
    · rename_i ro cs hsg
      split at hes'
      · rename_i hbd
        split at hes'
        case h_2 => cases hes'
        rename_i ts hts
        split at hes'
        · cases hes'
        rename_i hagg
        injection hes' with hes'
        subst hes'
        have hcs := allT_eq hts
        have hno : ∀ x ∈ ts, x.isAgg = false := fun x hx => by
          cases hq : x.isAgg with
          | false => rfl
          | true => exact absurd (List.any_eq_true.2 ⟨x, hx, hq⟩) hagg
        cases hu with | ls _ _ _ _ cap b ad hmu hcap ha =>
        obtain ⟨c, t, z, e1, e2, e3, _⟩ := hI.blk id b ro cs hmu hsg
        have hlt := heap_lt e1
        have htl : ts.length = len * sz := by
          have := congrArg List.length hcs
          simp at this
          omega
        have hcl : (chunks sz len ts).length = len := chunks_length _ _ _
        rcases ha with rfl | rfl
        · have hnil : chunks sz 0 ts = [] := rfl
          rw [hnil]
          exact .sl ad cap sz [] (fun _ _ => undef) (by simp) (by simp) (by simp) (by simp) (by simp) (by simp)
        · rw [show Value.slice (some ⟨b, off, none⟩) len cap = Value.slice (some ⟨b, off, none⟩) (chunks sz len ts).length cap by rw [hcl]]
          refine TRep.ofRow (sz := sz) (vs := (c.toList.drop off).take (len * sz)) (chunks_all sz len ts (by omega)) (chunks_one hno) (by omega) (chunks_vrep (by simp [htl]; omega) htl fun i v y hv hy => ?_) (fun j v hv => ?_) (fun j _ => .inr ⟨hlt, id, hmu⟩)
          · rw [List.getElem?_take, List.getElem?_drop] at hv
            split at hv
            · rename_i hlt'
              have hy' : cs[off + i]? = some (.t y) := by
                have := congrArg (fun l : List PV => l[i]?) hcs
                simp only [List.getElem?_take, List.getElem?_drop, if_pos hlt', List.getElem?_map, hy, Option.map_some] at this
                exact this
              exact (e3 (off + i) v (.t y) (by simpa using hv) hy').t_inv.mono (fun _ _ h => .inl h) (fun _ _ _ => rfl)
            · cases hv
          · rw [List.getElem?_take, List.getElem?_drop] at hv
            split at hv
            · rw [cell_of_row w' b (off + j) c t z e1]
              simpa using hv
            · cases hv
      · cases hes'
    · cases hes'
  · exact (close_rep hu h).mono (fun _ _ h => .inl h) (fun _ _ _ => rfl)
end Go.Pi
