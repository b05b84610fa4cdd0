/- PI 20: which operations may change places. Program independent. -/
import Derived.Test.YtcbgiabippcpaaaGreatDoorPi19
namespace Go.Pi
variable {gl : Nat → Option (List T)} {C : Cal} {dr : Bool}
theorem fset_comm (fr : List PV) (i j : Nat) (x y : PV) (h : i ≠ j) : fset (fset fr i x) j y = fset (fset fr j y) i x := by
  induction fr generalizing i j with
  | nil =>
    induction i generalizing j with
    | zero => cases j with
      | zero => exact absurd rfl h
      | succ j => simp [fset]
    | succ i ih => cases j with
      | zero => simp [fset]
      | succ j => simp only [fset, List.cons.injEq, true_and]; exact ih j (fun e => h (by rw [e]))
  | cons z r ih =>
    cases i with
    | zero => cases j with
      | zero => exact absurd rfl h
      | succ j => simp [fset]
    | succ i => cases j with
      | zero => simp [fset]
      | succ j => simp only [fset, List.cons.injEq, true_and]; exact ih i j (fun e => h (by rw [e]))
theorem put_comm (fr : List PV) (i j : Option Nat) (x y : PV) (h : apartD i j.toList = true) : put (put fr i x) j y = put (put fr j y) i x := by
  cases i with
  | none => rfl
  | some i => cases j with
    | none => rfl
    | some j =>
      simp [apartD] at h
      exact fset_comm fr i j x y h
theorem fget_put_apart (fr : List PV) (d : Option Nat) (x : PV) (l : List Nat) (h : apartD d l = true) (k : Nat) (hk : k ∈ l) : fget (put fr d x) k = fget fr k := by
  cases d with
  | none => rfl
  | some d =>
    simp only [apartD, Bool.not_eq_true', List.contains_eq_mem, decide_eq_false_iff_not] at h
    exact fget_ne fr d k x (fun e => h (e ▸ hk))
def Agree (fr fr' : List PV) (l : List Nat) : Prop := ∀ k ∈ l, fget fr k = fget fr' k
theorem Agree.left {fr fr' : List PV} {l m : List Nat} (h : Agree fr fr' (l ++ m)) : Agree fr fr' l := fun k hk => h k (List.mem_append_left _ hk)
theorem Agree.right {fr fr' : List PV} {l m : List Nat} (h : Agree fr fr' (l ++ m)) : Agree fr fr' m := fun k hk => h k (List.mem_append_right _ hk)
theorem ev_agree {fr fr' : List PV} (x : Opd) (h : Agree fr fr' x.rd) : x.ev fr = x.ev fr' := by
  cases x with
  | s k => exact h k (by simp [Opd.rd])
  | c v => rfl
theorem evO_agree {fr fr' : List PV} (x : Option Opd) (h : Agree fr fr' (opdO x)) : x.map (Opd.ev fr) = x.map (Opd.ev fr') := by
  cases x with
  | none => rfl
  | some x => simp only [Option.map_some, ev_agree x h]
theorem evs_agree {fr fr' : List PV} (xs : List Opd) (h : Agree fr fr' (xs.flatMap Opd.rd)) : xs.map (Opd.ev fr) = xs.map (Opd.ev fr') :=
  List.map_congr_left fun x hx => ev_agree x fun k hk => h k (List.mem_flatMap.2 ⟨x, hx, hk⟩)
theorem opStep_agree (q : O) (fr fr' : List PV) (sg : Sg) (ow : Ow) (h : Agree fr fr' q.rds) : opStep C gl dr q ⟨fr, sg, ow⟩ = opStep C gl dr q ⟨fr', sg, ow⟩ := by
  cases q <;> simp only [O.rds] at h <;> simp only [opStep]
  case mov a => rw [ev_agree a h]
  case pick c a b => rw [ev_agree c h.left, ev_agree a h.right.left, ev_agree b h.right.right]
  case box a => rw [ev_agree a h]
  case build zs ps =>
    have : (ps.map fun p => (p.1, p.2.1, p.2.2.ev fr)) = ps.map fun p => (p.1, p.2.1, p.2.2.ev fr') :=
      List.map_congr_left fun p hp => by rw [ev_agree p.2.2 fun k hk => h k (List.mem_flatMap.2 ⟨p, hp, hk⟩)]
    rw [this]
  case bsl sz len z ps =>
    have : (ps.map fun p => (p.1 * sz, sz, p.2.ev fr)) = ps.map fun p => (p.1 * sz, sz, p.2.ev fr') :=
      List.map_congr_left fun p hp => by rw [ev_agree p.2 fun k hk => h k (List.mem_flatMap.2 ⟨p, hp, hk⟩)]
    rw [this]
  case load ag n a => rw [ev_agree a h]
  case store n a v => rw [ev_agree a h.left, ev_agree v h.right]
  case nck a => rw [ev_agree a h]
  case bin op a b => rw [ev_agree a h.left, ev_agree b h.right]
  case eqv ng ag ks a b => rw [ev_agree a h.left, ev_agree b h.right]
  case isn ng kd a => rw [ev_agree a h]
  case un op a => rw [ev_agree a h]
  case cvi k a => rw [ev_agree a h]
  case cvb a => rw [ev_agree a h]
  case cvs a => rw [ev_agree a h]
  case cvr a => rw [ev_agree a h]
  case cvm a => rw [ev_agree a h]
  case cvt a => rw [ev_agree a h]
  case mks sz by_ z l c => rw [ev_agree l h.left, ev_agree c h.right]
  case slc sz a lo hi mx => rw [ev_agree a h.left, evO_agree lo h.right.left, evO_agree hi h.right.right.left, evO_agree mx h.right.right.right]
  case sls a lo hi => rw [ev_agree a h.left, evO_agree lo h.right.left, evO_agree hi h.right.right]
  case sla n sz a lo hi => rw [ev_agree a h.left, evO_agree lo h.right.left, evO_agree hi h.right.right]
  case fad off a => rw [ev_agree a h]
  case fld ag off n a => rw [ev_agree a h]
  case iaa n sz a i => rw [ev_agree a h.left, ev_agree i h.right]
  case ias sz a i => rw [ev_agree a h.left, ev_agree i h.right]
  case ixa ag n sz a i => rw [ev_agree a h.left, ev_agree i h.right]
  case ixs a i => rw [ev_agree a h.left, ev_agree i h.right]
  case ext k a => rw [ev_agree a h]
  case call f as => rw [evs_agree as h]
  case cale f as => rw [evs_agree as h]
  case calv g as => rw [ev_agree g h.left, evs_agree as h.right]
  case len st a => rw [ev_agree a h]
  case app sz by_ a b => rw [ev_agree a h.left, ev_agree b h.right]
  case mkf f caps => rw [evs_agree caps h]
  case xt k as => rw [evs_agree as h]
  case mlk ck kd z a i => rw [ev_agree a h.left, ev_agree i h.right]
  case mup kd a k v => rw [ev_agree a h.left, ev_agree k h.right.left, ev_agree v h.right.right]
  case mdl kd a k => rw [ev_agree a h.left, ev_agree k h.right]
  case mxn mx a b => rw [ev_agree a h.left, ev_agree b h.right]
  case apb sz by_ a b => rw [ev_agree a h.left, ev_agree b h.right]
  case ldk ag n a k => rw [ev_agree a h.left, show fget fr k = fget fr' k from h.right k (by simp)]
  case ldt ag n a => rw [ev_agree a h]
  case cck ty a => rw [ev_agree a h]
  case apw ty a b => rw [ev_agree a h.left, ev_agree b h.right]
  case bst ty a => rw [ev_agree a h]
  case calk f as ks =>
    rw [evs_agree as h.left]
    have : ∀ sg', keepsB fr ks sg sg' = keepsB fr' ks sg sg' := fun sg' => by
      unfold keepsB
      congr 1
      unfold keeps
      apply propext
      constructor
      · intro hk k hm
        obtain ⟨id, off, h1, h2⟩ := hk k hm
        exact ⟨id, off, (h.right k hm) ▸ h1, h2⟩
      · intro hk k hm
        obtain ⟨id, off, h1, h2⟩ := hk k hm
        exact ⟨id, off, (h.right k hm).trans h1, h2⟩
    split
    · rw [this]
    · rfl
  case stok n a v ks =>
    rw [ev_agree a h.left, ev_agree v h.right.left]
    have : ∀ sg', keepsB fr ks sg sg' = keepsB fr' ks sg sg' := fun sg' => by
      unfold keepsB
      congr 1
      unfold keeps
      apply propext
      constructor
      · intro hk k hm
        obtain ⟨id, off, h1, h2⟩ := hk k hm
        exact ⟨id, off, (h.right.right k hm) ▸ h1, h2⟩
      · intro hk k hm
        obtain ⟨id, off, h1, h2⟩ := hk k hm
        exact ⟨id, off, (h.right.right k hm).trans h1, h2⟩
    split
    · rw [this]
    · rfl
theorem map_st {v : Option PV} {sg sg1 : Sg} {ow ow1 : Ow} : (v.map fun v => (v, sg, ow)) = ((v.map fun v => (v, sg1, ow1)).map fun p => p.1).map fun v => (v, sg, ow) := by
  cases v <;> rfl
theorem opStep_cls0 (q : O) (hq : cls q = 0) (fr : List PV) (sg sg1 : Sg) (ow ow1 : Ow) : opStep C gl true q ⟨fr, sg, ow⟩ = ((opStep C gl true q ⟨fr, sg1, ow1⟩).map (·.1)).map fun v => (v, sg, ow) := by
  cases q <;> first | (simp [cls] at hq; done) | simp only [opStep, if_true]
  case pick c a b => split <;> first | exact map_st | rfl
  case bsl sz len z ps =>
    split
    · rename_i cs _
      cases cs.mapM cell1 <;> rfl
    · rfl
  case cvi k a => split <;> first | exact map_st | rfl
  case cvb a => split <;> first | (split <;> first | exact map_st | rfl) | rfl
  case cvr a => split <;> first | exact map_st | rfl
  case cvm a => split <;> first | exact map_st | rfl
  case cvt a => split <;> first | exact map_st | rfl
  case ext k a => split <;> first | exact map_st | rfl
  case call f as =>
    split
    · split
      · split <;> first | exact map_st | rfl
      · rfl
    · rfl
  case xt k as => split <;> first | exact map_st | rfl
  all_goals first | exact map_st | rfl
theorem opStep_cls1 (q : O) (hq : cls q ≤ 1) {fr : List PV} {sg : Sg} {ow : Ow} {v : PV} {sg' : Sg} {ow' : Ow} (h : opStep C gl true q ⟨fr, sg, ow⟩ = some (v, sg', ow')) : sg' = sg ∧ ow' = ow := by
  rcases Nat.lt_or_ge (cls q) 1 with h0 | h1
  · rw [opStep_cls0 q (by omega) fr sg [] ow []] at h
    simp only [Option.map_eq_some_iff] at h
    obtain ⟨_, _, he⟩ := h
    injection he with _ e2
    injection e2 with e2 e3
    exact ⟨e2.symm, e3.symm⟩
  · cases q <;> simp only [cls, Nat.reduceLeDiff, ge_iff_le, Nat.le_refl] at hq h1
    case load ag n a =>
      simp only [opStep, Option.map_eq_some_iff] at h
      obtain ⟨_, _, he⟩ := h
      injection he with _ e2
      injection e2 with e2 e3
      exact ⟨e2.symm, e3.symm⟩
    case cvs a =>
      simp only [opStep, Option.bind_eq_some_iff, Option.map_eq_some_iff] at h
      obtain ⟨_, _, _, _, he⟩ := h
      injection he with _ e2
      injection e2 with e2 e3
      exact ⟨e2.symm, e3.symm⟩
    case mlk ck kd z a i =>
      simp only [opStep, Option.map_eq_some_iff] at h
      obtain ⟨_, _, he⟩ := h
      injection he with _ e2
      injection e2 with e2 e3
      exact ⟨e2.symm, e3.symm⟩
    case ldk ag n a k =>
      simp only [opStep, Option.map_eq_some_iff] at h
      obtain ⟨_, _, he⟩ := h
      injection he with _ e2
      injection e2 with e2 e3
      exact ⟨e2.symm, e3.symm⟩
noncomputable def insEff (C : Cal) (gl : Nat → Option (List T)) (dr : Bool) (i : Ins) (fr : List PV) (sg : Sg) (ow : Ow) : Option (PV × Sg × Ow) :=
  if wanted fr i.g then opStep C gl dr i.o ⟨fr, sg, ow⟩ else some (und, sg, ow)
theorem insStep_eff (i : Ins) (s : S) : insStep C gl dr i s = (insEff C gl dr i s.fr s.sg s.ow).map fun r => ⟨put s.fr i.d r.1, r.2.1, r.2.2⟩ := by
  unfold insStep insEff
  split
  · cases opStep C gl dr i.o s <;> rfl
  · rfl
theorem wanted_agree {g : Option (Nat × Bool)} {fr fr' : List PV} (h : ∀ k b, g = some (k, b) → fget fr k = fget fr' k) : wanted fr g = wanted fr' g := by
  cases g with
  | none => rfl
  | some p =>
    obtain ⟨k, b⟩ := p
    simp only [wanted]
    rw [h k b rfl]
theorem insEff_agree (i : Ins) (fr fr' : List PV) (sg : Sg) (ow : Ow) (h : Agree fr fr' i.rds) : insEff C gl dr i fr sg ow = insEff C gl dr i fr' sg ow := by
  unfold insEff
  have hw : wanted fr i.g = wanted fr' i.g := wanted_agree fun k b hg => h k (by unfold Ins.rds; rw [hg]; simp)
  have ho : Agree fr fr' i.o.rds := fun k hk => h k (by unfold Ins.rds; split <;> simp [hk])
  rw [hw, opStep_agree i.o fr fr' sg ow ho]
theorem insEff_cls0 (i : Ins) (hq : cls i.o = 0) (fr : List PV) (sg sg1 : Sg) (ow ow1 : Ow) : insEff C gl true i fr sg ow = ((insEff C gl true i fr sg1 ow1).map (·.1)).map fun v => (v, sg, ow) := by
  unfold insEff
  split
  · exact opStep_cls0 i.o hq fr sg sg1 ow ow1
  · rfl
theorem insEff_cls1 (i : Ins) (hq : cls i.o ≤ 1) {fr : List PV} {sg : Sg} {ow : Ow} {v : PV} {sg' : Sg} {ow' : Ow} (h : insEff C gl true i fr sg ow = some (v, sg', ow')) : sg' = sg ∧ ow' = ow := by
  unfold insEff at h
  split at h
  · exact opStep_cls1 i.o hq h
  · injection h with h
    injection h with _ h
    injection h with h1 h2
    exact ⟨h1.symm, h2.symm⟩
theorem get_more {sg r : Sg} {id : Nat} {x : Bool × List PV} (h : sg[id]? = some x) : (sg ++ r)[id]? = some x := by
  rw [List.getElem?_append_left (List.getElem?_eq_some_iff.1 h).1]
  exact h
theorem loadP_more {sg r : Sg} {ag : Bool} {n : Nat} {v x : PV} (h : loadP gl sg ag n v = some x) : loadP gl (sg ++ r) ag n v = some x := by
  cases v with
  | lp id off =>
    simp only [loadP] at h ⊢
    split at h
    · rename_i cs hs
      rw [get_more hs]
      exact h
    · cases h
  | _ => exact h
theorem elemsB_more {sg r : Sg} {sz id off len sz' : Nat} {es : List (List T)} (h : elemsB sg sz id off len sz' = some es) : elemsB (sg ++ r) sz id off len sz' = some es := by
  unfold elemsB at h ⊢
  split at h
  · rename_i he
    rw [if_pos he]
    split at h
    · rename_i cs hs
      rw [get_more hs]
      exact h
    · cases h
  · cases h
theorem elemsS_more {sg r : Sg} {sz : Nat} {v : PV} {es : List (List T)} (h : elemsS sg sz v = some es) : elemsS (sg ++ r) sz v = some es := by
  cases v with
  | ls id off len sz' => exact elemsB_more h
  | bf id len sz' => exact elemsB_more h
  | _ => exact h
theorem mlkP_more {sg r : Sg} {ck : Bool} {kd : Nat} {z : T} {a k v : PV} (h : mlkP sg ck kd z a k = some v) : mlkP (sg ++ r) ck kd z a k = some v := by
  unfold mlkP at h ⊢
  split at h
  · rename_i id k
    split at h
    · rename_i es hs
      rw [get_more hs]
      exact h
    · cases h
  · cases h
theorem loadK_more {sg r : Sg} {ag : Bool} {n : Nat} {b v x : PV} (h : loadK gl sg ag n b v = some x) : loadK gl (sg ++ r) ag n b v = some x := by
  unfold loadK at h ⊢
  split at h
  · split at h
    · split at h
      · rename_i he
        rw [if_pos he]
        exact loadP_more h
      · cases h
    · cases h
  · cases h
theorem opStep_more (p : O) (hp : cls p ≤ 1) {fr : List PV} {sg r : Sg} {ow ow' : Ow} {v : PV} (h : opStep C gl true p ⟨fr, sg, ow⟩ = some (v, sg, ow)) : opStep C gl true p ⟨fr, sg ++ r, ow'⟩ = some (v, sg ++ r, ow') := by
  rcases Nat.lt_or_ge (cls p) 1 with h0 | h1
  · rw [opStep_cls0 p (by omega) fr (sg ++ r) sg ow' ow, h]
    rfl
  · cases p <;> simp only [cls, Nat.reduceLeDiff, ge_iff_le, Nat.le_refl] at hp h1
    case load ag n a =>
      simp only [opStep, Option.map_eq_some_iff, Prod.mk.injEq] at h ⊢
      obtain ⟨x, hx, rfl, _⟩ := h
      exact ⟨x, loadP_more hx, rfl, by simp⟩
    case cvs a =>
      simp only [opStep, Option.bind_eq_some_iff, Option.map_eq_some_iff, Prod.mk.injEq] at h ⊢
      obtain ⟨es, hes, w, hw, rfl, _⟩ := h
      exact ⟨es, elemsS_more hes, w, hw, rfl, by simp⟩
    case mlk ck kd z a i =>
      simp only [opStep, Option.map_eq_some_iff, Prod.mk.injEq] at h ⊢
      obtain ⟨x, hx, rfl, _⟩ := h
      exact ⟨x, mlkP_more hx, rfl, by simp⟩
    case ldk ag n a k =>
      simp only [opStep, Option.map_eq_some_iff, Prod.mk.injEq] at h ⊢
      obtain ⟨x, hx, rfl, _⟩ := h
      exact ⟨x, loadK_more hx, rfl, by simp⟩
theorem late_eff (q : O) (hq : late q = true) {fr : List PV} {sg : Sg} {ow : Ow} {v : PV} {sg' : Sg} {ow' : Ow} (h : opStep C gl true q ⟨fr, sg, ow⟩ = some (v, sg', ow')) : ∃ r, sg' = sg ++ r := by
  cases q <;> simp only [late, Bool.false_eq_true] at hq
  case alloc zs =>
    simp only [opStep, Option.some.injEq, Prod.mk.injEq] at h
    exact ⟨_, h.2.1.symm⟩
  case box a =>
    simp only [opStep, Option.some.injEq, Prod.mk.injEq] at h
    exact ⟨_, h.2.1.symm⟩
  case app sz bytes a b =>
    simp only [opStep, Option.map_eq_some_iff, Prod.mk.injEq] at h
    obtain ⟨_, _, _, h, _⟩ := h
    exact ⟨[], by rw [h, List.append_nil]⟩
  case mkm =>
    simp only [opStep, Option.some.injEq, Prod.mk.injEq] at h
    exact ⟨_, h.2.1.symm⟩
theorem insEff_late {p q : Ins} (hp : cls p.o ≤ 1) (hq : late q.o = true) {fr : List PV} {sg sg' : Sg} {ow ow' : Ow} {vp vq : PV} (h1 : insEff C gl true p fr sg ow = some (vp, sg, ow)) (h2 : insEff C gl true q fr sg ow = some (vq, sg', ow')) : insEff C gl true p fr sg' ow' = some (vp, sg', ow') := by
  have hr : ∃ r, sg' = sg ++ r := by
    unfold insEff at h2
    split at h2
    · exact late_eff q.o hq h2
    · injection h2 with h2
      injection h2 with _ h2
      injection h2 with h2 _
      exact ⟨[], by rw [← h2, List.append_nil]⟩
  obtain ⟨r, rfl⟩ := hr
  unfold insEff at h1 ⊢
  split at h1
  · rename_i hw
    rw [if_pos hw]
    exact opStep_more p.o hp h1
  · rename_i hw
    rw [if_neg hw]
    injection h1 with h1
    injection h1 with h1 _
    rw [h1]
theorem loadK_keep {sg sg' : Sg} {ag : Bool} {n : Nat} {fr : List PV} {k : Nat} {ks : List Nat} {v : PV} (hk : keeps fr ks sg sg') (hm : k ∈ ks) : loadK gl sg' ag n (fget fr k) v = loadK gl sg ag n (fget fr k) v := by
  obtain ⟨id, off, h1, h2⟩ := hk k hm
  rw [h1]
  unfold loadK
  split
  · simp only
    split
    · rename_i he
      subst he
      simp only [loadP, h2]
    · rfl
  · rfl
theorem keepsB_iff {fr : List PV} {ks : List Nat} {sg sg' : Sg} : keepsB fr ks sg sg' = true ↔ keeps fr ks sg sg' := by
  unfold keepsB
  simp
theorem kept_eff {p q : O} (hk : kept p q = true) {fr : List PV} {sg sg' : Sg} {ow ow' : Ow} {v : PV} (h : opStep C gl true q ⟨fr, sg, ow⟩ = some (v, sg', ow')) (ow1 ow2 : Ow) :
    (opStep C gl true p ⟨fr, sg, ow1⟩).map (·.1) = (opStep C gl true p ⟨fr, sg', ow2⟩).map (·.1) ∧ (∀ r, opStep C gl true p ⟨fr, sg, ow1⟩ = some r → r.2.1 = sg ∧ r.2.2 = ow1) ∧ ∀ r, opStep C gl true p ⟨fr, sg', ow2⟩ = some r → r.2.1 = sg' ∧ r.2.2 = ow2 := by
  have key : ∀ (ag : Bool) (n : Nat) (a : Opd) (k : Nat) (ks : List Nat), k ∈ ks → keeps fr ks sg sg' → (opStep C gl true (.ldk ag n a k) ⟨fr, sg, ow1⟩).map (·.1) = (opStep C gl true (.ldk ag n a k) ⟨fr, sg', ow2⟩).map (·.1) ∧ (∀ r, opStep C gl true (.ldk ag n a k) ⟨fr, sg, ow1⟩ = some r → r.2.1 = sg ∧ r.2.2 = ow1) ∧ ∀ r, opStep C gl true (.ldk ag n a k) ⟨fr, sg', ow2⟩ = some r → r.2.1 = sg' ∧ r.2.2 = ow2 := by
    intro ag n a k ks hm hks
    simp only [opStep, loadK_keep hks hm]
    refine ⟨?_, fun r hr => ?_, fun r hr => ?_⟩
    · cases loadK gl sg ag n (fget fr k) (Opd.ev fr a) <;> rfl
    · simp only [Option.map_eq_some_iff] at hr
      obtain ⟨_, _, rfl⟩ := hr
      exact ⟨rfl, rfl⟩
    · simp only [Option.map_eq_some_iff] at hr
      obtain ⟨_, _, rfl⟩ := hr
      exact ⟨rfl, rfl⟩
  unfold kept at hk
  split at hk
  · rename_i ag n a k f as ks
    simp only [opStep] at h
    split at h
    · rename_i v1 sg1 ow1' hc
      split at h
      · rename_i hkb
        injection h with h
        injection h with e1 e2
        injection e2 with e2 e3
        subst e1 e2 e3
        exact key ag n a k ks (by simpa using hk) (keepsB_iff.1 hkb)
      · cases h
    · cases h
  · rename_i ag n a k n' a' v' ks
    simp only [opStep] at h
    split at h
    · rename_i sg1 hc
      split at h
      · rename_i hkb
        injection h with h
        injection h with e1 e2
        injection e2 with e2 e3
        subst e1 e2 e3
        exact key ag n a k ks (by simpa using hk) (keepsB_iff.1 hkb)
      · cases h
    · cases h
  · cases hk
theorem insEff_kept {p q : Ins} (hk : kept p.o q.o = true) {fr : List PV} {sg sg' : Sg} {ow ow' : Ow} {v : PV} (h : insEff C gl true q fr sg ow = some (v, sg', ow')) :
    (∀ vp, insEff C gl true p fr sg ow = some (vp, sg, ow) → insEff C gl true p fr sg' ow' = some (vp, sg', ow')) ∧ (∀ vp, insEff C gl true p fr sg' ow' = some (vp, sg', ow') → insEff C gl true p fr sg ow = some (vp, sg, ow)) := by
  unfold insEff at h ⊢
  split at h
  · obtain ⟨k1, k2, k3⟩ := kept_eff (C := C) (gl := gl) hk h ow ow'
    split
    · refine ⟨fun vp hp => ?_, fun vp hp => ?_⟩
      · rw [hp] at k1
        cases hq : opStep C gl true p.o ⟨fr, sg', ow'⟩ with
        | none => rw [hq] at k1; cases k1
        | some r =>
          rw [hq] at k1
          simp only [Option.map_some, Option.some.injEq] at k1
          obtain ⟨e1, e2⟩ := k3 r hq
          obtain ⟨r1, r2, r3⟩ := r
          simp only at k1 e1 e2
          rw [← k1, e1, e2]
      · rw [hp] at k1
        cases hq : opStep C gl true p.o ⟨fr, sg, ow⟩ with
        | none => rw [hq] at k1; cases k1
        | some r =>
          rw [hq] at k1
          simp only [Option.map_some, Option.some.injEq] at k1
          obtain ⟨e1, e2⟩ := k2 r hq
          obtain ⟨r1, r2, r3⟩ := r
          simp only at k1 e1 e2
          rw [k1, e1, e2]
    · exact ⟨fun vp hp => by injection hp with hp; injection hp with hp _; rw [hp], fun vp hp => by injection hp with hp; injection hp with hp _; rw [hp]⟩
  · injection h with h
    injection h with e1 e2
    injection e2 with e2 e3
    subst e2 e3
    exact ⟨fun vp hp => hp, fun vp hp => hp⟩
theorem kept_cls {p q : O} (h : kept p q = true) : cls p ≤ 1 := by
  unfold kept at h
  split at h
  · exact Nat.le_refl _
  · exact Nat.le_refl _
  · cases h
theorem appendP_more {dr : Bool} {sg r : Sg} {ow : Ow} {sz bytes : Nat} {a b : PV} {x : PV × Ow} (h : appendP dr sg ow sz bytes a b = some x) : appendP dr (sg ++ r) ow sz bytes a b = some x := by
  have key : ∀ {es : List (List T)}, elemsS sg sz b = some es → elemsS (sg ++ r) sz b = some es := fun h => elemsS_more h
  cases b with
  | t y =>
    cases y with
    | str s => exact h
    | _ =>
      unfold appendP at h ⊢
      simp only at h ⊢
      split at h
      · cases h
      · rename_i he; rw [key he]; exact h
      · rename_i he; rw [key he]; exact h
  | _ =>
    unfold appendP at h ⊢
    simp only at h ⊢
    split at h
    · cases h
    · rename_i he; rw [key he]; exact h
    · rename_i he; rw [key he]; exact h
theorem app_eff {p : O} (hp : isApp p = true) {fr : List PV} {sg sg' : Sg} {ow ow' : Ow} {v : PV} (h : opStep C gl true p ⟨fr, sg, ow⟩ = some (v, sg', ow')) : sg' = sg ∧ ∀ r, opStep C gl true p ⟨fr, sg ++ r, ow⟩ = some (v, sg ++ r, ow') := by
  cases p <;> simp only [isApp, Bool.false_eq_true] at hp
  case app sz bytes a b =>
    simp only [opStep, Option.map_eq_some_iff, Prod.mk.injEq] at h
    obtain ⟨x, hx, e1, e2, e3⟩ := h
    refine ⟨e2.symm, fun r => ?_⟩
    simp only [opStep, Option.map_eq_some_iff, Prod.mk.injEq]
    refine ⟨x, ?_, e1, by first | trivial | rw [← e2], e3⟩
    exact appendP_more hx
theorem insEff_app {p : Ins} (hp : isApp p.o = true) {fr : List PV} {sg sg' : Sg} {ow ow' : Ow} {v : PV} (h : insEff C gl true p fr sg ow = some (v, sg', ow')) : sg' = sg ∧ ∀ r, insEff C gl true p fr (sg ++ r) ow = some (v, sg ++ r, ow') := by
  unfold insEff at h ⊢
  split at h
  · rename_i hw
    obtain ⟨h1, h2⟩ := app_eff hp h
    refine ⟨h1, fun r => ?_⟩
    rw [if_pos hw]
    exact h2 r
  · rename_i hw
    injection h with h
    injection h with e1 e2
    injection e2 with e2 e3
    refine ⟨e2.symm, fun r => ?_⟩
    rw [if_neg hw, e1, e3]
theorem insEff_any {q : Ins} (hq : cls q.o ≤ 1) {fr : List PV} {sg : Sg} {ow ow' : Ow} {v : PV} (h : insEff C gl true q fr sg ow = some (v, sg, ow)) : insEff C gl true q fr sg ow' = some (v, sg, ow') := by
  unfold insEff at h ⊢
  split at h
  · rename_i hw
    rw [if_pos hw]
    have := opStep_more (r := []) (ow' := ow') q.o hq h
    simpa using this
  · rename_i hw
    rw [if_neg hw]
    injection h with h
    injection h with h _
    rw [h]
theorem new_eff {q : O} (hq : isNew q = true) {fr : List PV} {sg sg' : Sg} {ow ow' : Ow} {v : PV} (h : opStep C gl true q ⟨fr, sg, ow⟩ = some (v, sg', ow')) : ow' = ow ∧ (∃ r, sg' = sg ++ r) ∧ ∀ ow1, opStep C gl true q ⟨fr, sg, ow1⟩ = some (v, sg', ow1) := by
  cases q <;> simp only [isNew, Bool.false_eq_true] at hq
  all_goals
    simp only [opStep, Option.some.injEq, Prod.mk.injEq] at h ⊢
    obtain ⟨e1, e2, e3⟩ := h
    exact ⟨e3.symm, ⟨_, e2.symm⟩, fun _ => ⟨e1, e2, trivial⟩⟩
theorem insEff_new {q : Ins} (hq : isNew q.o = true) {fr : List PV} {sg sg' : Sg} {ow ow' : Ow} {v : PV} (h : insEff C gl true q fr sg ow = some (v, sg', ow')) : ow' = ow ∧ (∃ r, sg' = sg ++ r) ∧ ∀ ow1, insEff C gl true q fr sg ow1 = some (v, sg', ow1) := by
  unfold insEff at h ⊢
  split at h
  · rename_i hw
    obtain ⟨h1, h2, h3⟩ := new_eff hq h
    refine ⟨h1, h2, fun ow1 => ?_⟩
    rw [if_pos hw]
    exact h3 ow1
  · rename_i hw
    injection h with h
    injection h with e1 e2
    injection e2 with e2 e3
    refine ⟨e3.symm, ⟨[], by rw [← e2, List.append_nil]⟩, fun ow1 => ?_⟩
    rw [if_neg hw, e1, e2]
theorem swap_ok {p q : Ins} (hc : commute p q = true) {s s1 s2 : S} (h1 : insStep C gl true p s = some s1) (h2 : insStep C gl true q s1 = some s2) : ∃ t, insStep C gl true q s = some t ∧ insStep C gl true p t = some s2 := by
  simp only [commute, Bool.and_eq_true, Bool.or_eq_true, decide_eq_true_eq] at hc
  obtain ⟨⟨⟨hpq, hqp⟩, hdd⟩, hcls'⟩ := hc
  rw [insStep_eff] at h1 h2
  simp only [Option.map_eq_some_iff] at h1 h2
  obtain ⟨⟨vp, sg1, ow1⟩, e1, rfl⟩ := h1
  obtain ⟨⟨vq, sg2, ow2⟩, e2, rfl⟩ := h2
  simp only at e2 ⊢
  rw [insEff_agree q (put s.fr p.d vp) s.fr sg1 ow1 (fun k hk => fget_put_apart s.fr p.d vp _ hpq k hk)] at e2
  have hback : ∀ (sgx : Sg) (owx : Ow), insEff C gl true p (put s.fr q.d vq) sgx owx = insEff C gl true p s.fr sgx owx := fun sgx owx => insEff_agree p _ _ _ _ (fun k hk => fget_put_apart s.fr q.d vq _ hqp k hk)
  have hput : put (put s.fr p.d vp) q.d vq = put (put s.fr q.d vq) p.d vp := put_comm s.fr p.d q.d vp vq hdd
  rcases hcls' with hcls | ⟨hp1, hq1⟩ | (hkp | hkp) | ⟨hap, haq | haq⟩
  rotate_left
  · obtain ⟨rfl, rfl⟩ := insEff_cls1 p hp1 e1
    refine ⟨⟨put s.fr q.d vq, sg2, ow2⟩, by rw [insStep_eff, e2]; rfl, ?_⟩
    rw [insStep_eff]
    simp only [hback]
    rw [insEff_late hp1 hq1 e1 e2, hput]
    rfl
  · obtain ⟨rfl, rfl⟩ := insEff_cls1 p (kept_cls hkp) e1
    refine ⟨⟨put s.fr q.d vq, sg2, ow2⟩, by rw [insStep_eff, e2]; rfl, ?_⟩
    rw [insStep_eff]
    simp only [hback]
    rw [(insEff_kept hkp e2).1 vp e1, hput]
    rfl
  · obtain ⟨rfl, rfl⟩ := insEff_cls1 q (kept_cls hkp) e2
    have e3 := (insEff_kept hkp e1).2 vq e2
    refine ⟨⟨put s.fr q.d vq, s.sg, s.ow⟩, by rw [insStep_eff, e3]; rfl, ?_⟩
    rw [insStep_eff]
    simp only [hback, e1, hput]
    rfl
  · obtain ⟨rfl, hpm⟩ := insEff_app hap e1
    obtain ⟨rfl, rfl⟩ := insEff_cls1 q haq e2
    have e3 := insEff_any (ow' := s.ow) haq e2
    refine ⟨⟨put s.fr q.d vq, s.sg, s.ow⟩, by rw [insStep_eff, e3]; rfl, ?_⟩
    rw [insStep_eff]
    simp only [hback, e1, hput]
    rfl
  · obtain ⟨rfl, hpm⟩ := insEff_app hap e1
    obtain ⟨rfl, ⟨r, rfl⟩, hqm⟩ := insEff_new haq e2
    refine ⟨⟨put s.fr q.d vq, s.sg ++ r, s.ow⟩, by rw [insStep_eff, hqm]; rfl, ?_⟩
    rw [insStep_eff]
    simp only [hback, hpm r, hput]
    rfl
  have hcase : cls p.o = 0 ∨ cls q.o = 0 ∨ (cls p.o ≤ 1 ∧ cls q.o ≤ 1) := by
    rcases Nat.eq_zero_or_pos (cls p.o) with h | h
    · exact .inl h
    · rcases Nat.eq_zero_or_pos (cls q.o) with h' | h'
      · exact .inr (.inl h')
      · refine .inr (.inr ⟨?_, ?_⟩)
        · have : cls p.o * 1 ≤ cls p.o * cls q.o := Nat.mul_le_mul_left _ h'
          omega
        · have : 1 * cls q.o ≤ cls p.o * cls q.o := Nat.mul_le_mul_right _ h
          omega
  rcases hcase with h | h | ⟨h, h'⟩
  · obtain ⟨rfl, rfl⟩ := insEff_cls1 p (by omega) e1
    refine ⟨⟨put s.fr q.d vq, sg2, ow2⟩, by rw [insStep_eff, e2]; rfl, ?_⟩
    rw [insStep_eff]
    simp only [hback]
    rw [insEff_cls0 p h s.fr sg2 s.sg ow2 s.ow, e1, hput]
    rfl
  · obtain ⟨rfl, rfl⟩ := insEff_cls1 q (by omega) e2
    have e3 : insEff C gl true q s.fr s.sg s.ow = some (vq, s.sg, s.ow) := by
      rw [insEff_cls0 q h s.fr s.sg sg2 s.ow ow2, e2]
      rfl
    refine ⟨⟨put s.fr q.d vq, s.sg, s.ow⟩, by rw [insStep_eff, e3]; rfl, ?_⟩
    rw [insStep_eff]
    simp only [hback, e1, hput]
    rfl
  · obtain ⟨rfl, rfl⟩ := insEff_cls1 p h e1
    obtain ⟨rfl, rfl⟩ := insEff_cls1 q h' e2
    refine ⟨⟨put s.fr q.d vq, s.sg, s.ow⟩, by rw [insStep_eff, e2]; rfl, ?_⟩
    rw [insStep_eff]
    simp only [hback, e1, hput]
    rfl
noncomputable def runI (C : Cal) (gl : Nat → Option (List T)) (dr : Bool) (is : List Ins) : List Nat → S → Option S
  | [], s => some s
  | i :: r, s => match is[i]? with
    | some q => match insStep C gl dr q s with
      | some s' => runI C gl dr is r s'
      | none => none
    | none => none
theorem runI_append (is : List Ins) (l m : List Nat) (s : S) : runI C gl dr is (l ++ m) s = (runI C gl dr is l s).bind (runI C gl dr is m) := by
  induction l generalizing s with
  | nil => rfl
  | cons i r ih =>
    simp only [List.cons_append, runI]
    cases is[i]? with
    | none => rfl
    | some q =>
      simp only
      cases insStep C gl dr q s with
      | none => rfl
      | some s' => exact ih s'
theorem runIns_runI (is : List Ins) : ∀ (k : Nat) (s : S), runIns C gl dr (is.drop k) s = runI C gl dr is (List.range' k (is.length - k)) s := by
  intro k
  induction hn : is.length - k generalizing k with
  | zero =>
    intro s
    rw [List.drop_eq_nil_of_le (by omega)]
    rfl
  | succ n ih =>
    intro s
    have hlt : k < is.length := by omega
    rw [List.drop_eq_getElem_cons hlt, List.range'_succ]
    simp only [runIns, runI, List.getElem?_eq_getElem hlt]
    cases insStep C gl dr is[k] s with
    | none => rfl
    | some s' => exact ih (k + 1) (by omega) s'
theorem runI_front (is : List Ins) (i : Nat) (q : Ins) (hq : is[i]? = some q) : ∀ (l : List Nat) (s s' : S), (∀ j ∈ l, ∀ p, is[j]? = some p → commute p q = true) → runI C gl true is (l ++ [i]) s = some s' → runI C gl true is (i :: l) s = some s' := by
  intro l
  induction l with
  | nil => intro s s' _ h; exact h
  | cons j l ih =>
    intro s s' hc h
    simp only [List.cons_append, runI] at h
    cases hj : is[j]? with
    | none => rw [hj] at h; cases h
    | some p =>
      rw [hj] at h
      simp only at h
      cases hp : insStep C gl true p s with
      | none => rw [hp] at h; cases h
      | some s1 =>
        rw [hp] at h
        have h2 := ih s1 s' (fun k hk => hc k (List.mem_cons_of_mem _ hk)) h
        simp only [runI, hq] at h2
        cases hq1 : insStep C gl true q s1 with
        | none => rw [hq1] at h2; cases h2
        | some s2 =>
          rw [hq1] at h2
          obtain ⟨t, t1, t2⟩ := swap_ok (hc j (by simp) p hj) hp hq1
          simp only [runI, hq, t1, hj, t2]
          exact h2
end Go.Pi
