/- PI 21: every order that the edges allow comes to the order of the text. Program independent. -/
import Derived.Test.YtcbgiabippcpaaaGreatDoorPi20
namespace Go.Pi
variable {gl : Nat → Option (List T)} {C : Cal}
def rem (n : Nat) (listed : Array Bool) : List Nat := (List.range n).filter fun i => !listed.getD i true
theorem mem_rem {n : Nat} {listed : Array Bool} {i : Nat} : i ∈ rem n listed ↔ i < n ∧ listed.getD i true = false := by
  simp [rem, List.mem_filter]
theorem getD_set_same {l : Array Bool} {i : Nat} (h : i < l.size) (d : Bool) : (l.setIfInBounds i true).getD i d = true := by
  simp [Array.getD, h]
theorem getD_set_other {l : Array Bool} {i j : Nat} (h : i ≠ j) (d : Bool) : (l.setIfInBounds i true).getD j d = l.getD j d := by
  simp only [Array.getD, Array.size_setIfInBounds]
  split
  · rw [Array.getInternal_eq_getElem, Array.getInternal_eq_getElem, Array.getElem_setIfInBounds_ne _ h]
  · rfl
theorem rem_split {n : Nat} {listed : Array Bool} (hs : listed.size = n) {i : Nat} (hi : i ∈ rem n listed) : ∃ r1 r2, rem n listed = r1 ++ i :: r2 ∧ rem n (listed.setIfInBounds i true) = r1 ++ r2 ∧ ∀ j ∈ r1, j < i ∧ j ∈ rem n listed := by
  obtain ⟨hlt, hun⟩ := mem_rem.1 hi
  have hr : List.range n = List.range i ++ i :: (List.range' (i + 1) (n - (i + 1))) := by
    rw [List.range_eq_range', List.range_eq_range', ← List.range'_succ]
    have := List.range'_append (s := 0) (m := i) (n := n - (i + 1) + 1) (step := 1)
    simp only [Nat.one_mul, Nat.zero_add] at this
    rw [this]
    congr 1
    omega
  have hne : ∀ j, j ≠ i → (listed.setIfInBounds i true).getD j true = listed.getD j true := fun j hj => getD_set_other (fun e => hj e.symm) true
  refine ⟨(List.range i).filter fun j => !listed.getD j true, (List.range' (i + 1) (n - (i + 1))).filter fun j => !listed.getD j true, ?_, ?_, ?_⟩
  · unfold rem
    rw [hr, List.filter_append, List.filter_cons, hun]
    rfl
  · unfold rem
    rw [hr, List.filter_append, List.filter_cons, getD_set_same (by omega) true]
    simp only [Bool.not_true, Bool.false_eq_true, if_false]
    congr 1
    · exact List.filter_congr fun j hj => by rw [hne j (by have := List.mem_range.1 hj; omega)]
    · exact List.filter_congr fun j hj => by rw [hne j (by have := (List.mem_range'_1.1 hj).1; omega)]
  · intro j hj
    obtain ⟨h1, h2⟩ := List.mem_filter.1 hj
    have := List.mem_range.1 h1
    exact ⟨this, mem_rem.2 ⟨by omega, by simpa using h2⟩⟩
def readyL (ops : Array Oper) (listed : Array Bool) : List Nat := (List.range ops.size).filter fun i => !listed.getD i true && ((ops[i]?).map (·.after.all fun e => !Region.binds .any e || listed.getD e.on false)).getD false
theorem go_succ (ops : Array Oper) (fuel t : Nat) (listed : Array Bool) (acc : List Nat) : Region.linearise.go .any ops (fuel + 1) t listed acc = match (readyL ops listed)[t % (readyL ops listed).length]? with
    | some i => Region.linearise.go .any ops fuel (t / (readyL ops listed).length) (listed.setIfInBounds i true) (i :: acc)
    | none => acc.reverse := rfl
def Closed (ops : Array Oper) (listed : Array Bool) : Prop := ∀ i, listed.getD i false = true → ∀ o, ops[i]? = some o → ∀ e ∈ o.after, Region.binds .any e = true → listed.getD e.on false = true
theorem before_ok {ops : Array Oper} {listed : Array Bool} (hcl : Closed ops listed) : ∀ (n k j : Nat), before ops n k j = true → (∀ o, ops[k]? = some o → ∀ e ∈ o.after, Region.binds .any e = true → listed.getD e.on false = true) → listed.getD j false = true := by
  intro n
  induction n with
  | zero => intro k j h; cases h
  | succ n ih =>
    intro k j h hk
    unfold before at h
    split at h
    · rename_i o ho
      obtain ⟨e, he, hb⟩ := List.any_eq_true.1 h
      simp only [Bool.and_eq_true, Bool.or_eq_true, beq_iff_eq] at hb
      have hl := hk o ho e (by simpa using he) hb.1
      rcases hb.2 with h1 | h1
      · rw [← h1]; exact hl
      · exact ih e.on j h1 (fun o' ho' => hcl e.on hl o' ho')
    · cases h
theorem lin_ok {ops : Array Oper} {is : List Ins} (hlen : is.length = ops.size) (hc : confl ops is = true) : ∀ (fuel t : Nat) (listed : Array Bool) (acc : List Nat) (s s' : S), listed.size = ops.size → Closed ops listed → (rem ops.size listed).length ≤ fuel → runI C gl true is (rem ops.size listed) s = some s' →
    ∃ l, Region.linearise.go .any ops fuel t listed acc = acc.reverse ++ l ∧ runI C gl true is l s = some s' := by
  have hall : ∀ k, k < ops.size → conflAt ops is k = true := fun k hk => List.all_eq_true.1 hc k (List.mem_range.2 hk)
  intro fuel
  induction fuel with
  | zero =>
    intro t listed acc s s' _ _ hl hr
    have : rem ops.size listed = [] := List.eq_nil_of_length_eq_zero (by omega)
    rw [this] at hr
    exact ⟨[], by simp [Region.linearise.go], hr⟩
  | succ fuel ih =>
    intro t listed acc s s' hs hcl hl hr
    rw [go_succ]
    have hsub : ∀ i ∈ readyL ops listed, i ∈ rem ops.size listed ∧ ∀ o, ops[i]? = some o → ∀ e ∈ o.after, Region.binds .any e = true → listed.getD e.on false = true := by
      intro i hi
      obtain ⟨h1, h2⟩ := List.mem_filter.1 hi
      simp only [Bool.and_eq_true] at h2
      refine ⟨mem_rem.2 ⟨List.mem_range.1 h1, by simpa using h2.1⟩, fun o ho e he hb => ?_⟩
      have h3 := h2.2
      rw [ho] at h3
      simp only [Option.map_some, Option.getD_some] at h3
      have := Array.all_eq_true_iff_forall_mem.1 h3 e he
      simpa [hb] using this
    cases hq : (readyL ops listed)[t % (readyL ops listed).length]? with
    | none =>
      have hnil : readyL ops listed = [] := by
        cases hrl : readyL ops listed with
        | nil => rfl
        | cons x r =>
          rw [hrl] at hq
          rw [List.getElem?_eq_none_iff] at hq
          have := Nat.mod_lt t (show 0 < (x :: r).length by simp)
          omega
      have hrem : rem ops.size listed = [] := by
        cases hrm : rem ops.size listed with
        | nil => rfl
        | cons x r =>
          exfalso
          have hx : x ∈ rem ops.size listed := by rw [hrm]; simp
          obtain ⟨r1, r2, e1, _, e3⟩ := rem_split hs hx
          have hr1 : r1 = [] := by
            cases r1 with
            | nil => rfl
            | cons y ys =>
              rw [hrm] at e1
              simp only [List.cons_append, List.cons.injEq] at e1
              have := (e3 y (by simp)).1
              omega
          obtain ⟨hlt, hun⟩ := mem_rem.1 hx
          have hca := hall x hlt
          unfold conflAt at hca
          rw [Array.getElem?_eq_getElem hlt, List.getElem?_eq_getElem (show x < is.length by omega)] at hca
          simp only [Bool.and_eq_true, List.all_eq_true] at hca
          have hready : x ∈ readyL ops listed := by
            refine List.mem_filter.2 ⟨List.mem_range.2 hlt, ?_⟩
            rw [hun, Array.getElem?_eq_getElem hlt]
            simp only [Bool.not_false, Bool.true_and, Option.map_some, Option.getD_some]
            refine Array.all_eq_true_iff_forall_mem.2 fun e he => ?_
            have h1 := hca.1 e (by simpa using he)
            simp only [Bool.or_eq_true, Bool.not_eq_true', decide_eq_true_eq] at h1 ⊢
            rcases h1 with h1 | h1
            · exact .inl h1
            · refine .inr ?_
              cases hg : listed.getD e.on false with
              | true => rfl
              | false =>
                exfalso
                have hon : e.on < ops.size := by omega
                have hge : listed.getD e.on true = false := by
                  have hls : e.on < listed.size := by omega
                  simp only [Array.getD, hls, dite_true] at hg ⊢
                  exact hg
                have hmem : e.on ∈ rem ops.size listed := mem_rem.2 ⟨hon, hge⟩
                rw [e1, hr1] at hmem
                simp only [List.nil_append, List.mem_cons] at hmem
                rcases hmem with hmem | hmem
                · omega
                · -- what follows x is greater
                  have hsorted : (rem ops.size listed).Pairwise (· < ·) := List.Pairwise.filter _ List.pairwise_lt_range
                  rw [e1, hr1] at hsorted
                  simp only [List.nil_append, List.pairwise_cons] at hsorted
                  have := hsorted.1 e.on hmem
                  omega
          rw [hnil] at hready
          cases hready
      rw [hrem] at hr
      exact ⟨[], by simp, hr⟩
    | some i =>
      have hi := hsub i (List.mem_of_getElem? hq)
      obtain ⟨hmem, hpre⟩ := hi
      obtain ⟨r1, r2, e1, e2, e3⟩ := rem_split hs hmem
      obtain ⟨hlt, hun⟩ := mem_rem.1 hmem
      have hil : i < is.length := by omega
      have hca := hall i hlt
      unfold conflAt at hca
      rw [Array.getElem?_eq_getElem hlt, List.getElem?_eq_getElem hil] at hca
      simp only [Bool.and_eq_true, List.all_eq_true] at hca
      have hcom : ∀ j ∈ r1, ∀ p, is[j]? = some p → commute p is[i] = true := by
        intro j hj p hp
        obtain ⟨hji, hjr⟩ := e3 j hj
        have h1 := hca.2 j (List.mem_range.2 hji)
        rw [hp] at h1
        simp only [Bool.or_eq_true] at h1
        rcases h1 with h1 | h1 | h1
        · exact h1
        · exfalso
          obtain ⟨e, he, hb⟩ := List.any_eq_true.1 h1
          simp only [Bool.and_eq_true, beq_iff_eq] at hb
          have h2 := hpre _ (Array.getElem?_eq_getElem hlt) e (by simpa using he) hb.1
          rw [hb.2] at h2
          have hjs : j < listed.size := by omega
          have h3 := (mem_rem.1 hjr).2
          simp only [Array.getD, hjs, dite_true] at h2 h3
          rw [h2] at h3
          cases h3
        · exfalso
          have h2 := before_ok hcl 8 i j h1 hpre
          have hjs : j < listed.size := by omega
          have h3 := (mem_rem.1 hjr).2
          simp only [Array.getD, hjs, dite_true] at h2 h3
          rw [h2] at h3
          cases h3
      rw [e1] at hr
      have hr' : runI C gl true is ((r1 ++ [i]) ++ r2) s = some s' := by simpa using hr
      rw [runI_append] at hr'
      simp only [Option.bind_eq_some_iff] at hr'
      obtain ⟨s1, h1, h2⟩ := hr'
      have h3 := runI_front is i is[i] (List.getElem?_eq_getElem hil) r1 s s1 hcom h1
      simp only [runI, List.getElem?_eq_getElem hil] at h3
      cases hst : insStep C gl true is[i] s with
      | none => rw [hst] at h3; cases h3
      | some s0 =>
        rw [hst] at h3
        simp only at h3
        have h4 : runI C gl true is (rem ops.size (listed.setIfInBounds i true)) s0 = some s' := by
          rw [e2, runI_append, h3]
          exact h2
        have hcl' : Closed ops (listed.setIfInBounds i true) := by
          intro k hk o ho e he hb
          have up : ∀ m, listed.getD m false = true → (listed.setIfInBounds i true).getD m false = true := by
            intro m hm
            by_cases hmi : i = m
            · subst hmi; exact getD_set_same (by omega) false
            · rw [getD_set_other hmi]; exact hm
          by_cases hki : i = k
          · subst hki
            exact up _ (hpre o ho e he hb)
          · rw [getD_set_other hki] at hk
            exact up _ (hcl k hk o ho e he hb)
        obtain ⟨l, g1, g2⟩ := ih (t / (readyL ops listed).length) (listed.setIfInBounds i true) (i :: acc) s0 s' (by simp [hs]) hcl' (by rw [e2]; rw [e1] at hl; simp at hl ⊢; omega) h4
        refine ⟨i :: l, by simp only; rw [g1]; simp, ?_⟩
        simp only [runI, List.getElem?_eq_getElem hil, hst]
        exact g2
end Go.Pi
