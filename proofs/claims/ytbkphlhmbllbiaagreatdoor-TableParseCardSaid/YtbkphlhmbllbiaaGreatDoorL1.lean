/- TableParse in the small language. -/
import Derived.Test.YtbkphlhmbllbiaaGreatDoorR6
import Derived.Test.YtbkphlhmbllbiaaGreatDoorT3
import Derived.KernelRfl
set_option maxRecDepth 10000
set_option linter.unusedVariables false
set_option linter.unusedSimpArgs false
namespace Go.Proofs.YtbkphlhmbllbiaaGreatDoor
open Go.Pi
def glW (m : Int) : Nat → Option (List T)
  | 6 => some [.ifx]
  | 7 => some [.ifx]
  | 0 => some [.int .i64 m]
  | 1 => some (p10.map (T.int .u64))
  | _ => none
theorem glW_ok (m : Int) : GlK (glW m) := ⟨rfl, rfl, rfl, m, rfl⟩
def isT : Option (PV × Sg × Ow) → Bool
  | some (.t (.bool true), _, _) => true
  | _ => false
theorem awakeT (m : Int) : isT (pcall F (glW m) 100 4 [] [] []) = true := by kernel_rfl
theorem ok4 (m : Int) {K : PV → Prop} : XcP F (glW m) 4 [] K ⟨⟩ ↔ K (.t (.bool true)) := by
  refine Ret.iff ?_
  have h := awakeT m
  unfold isT at h
  split at h
  · rename_i sg ow he
    exact ⟨100, _, sg, ow, he, rfl⟩
  · cases h
theorem eqRow_refl (x : Row) : eqRow x x = true := by simp [eqRow]
theorem eqRows_refl : ∀ (l : List Row), eqRows l l = true := by
  intro l
  induction l with
  | nil => rfl
  | cons x l ih => simp only [eqRows, eqRow_refl, ih, Bool.and_self]
theorem sameT_refl (a : Tab) : sameT a a = true := by simp [sameT, eqRows_refl]
theorem rowO_len {l : List UInt8} {r : R3} (h : rowO l = some r) : r.1.length ≤ l.length + 2 ∧ r.2.1.length ≤ l.length + 2 ∧ r.2.2.length ≤ l.length + 2 := by
  unfold rowO row3 at h
  split at h
  · split at h
    · rename_i a b c he
      have hp := split_len (l.drop 4) [32, 124, 32]
      rw [he] at hp
      have h4 : (l.drop 4).length ≤ l.length := by rw [List.length_drop]; omega
      split at h
      · rename_i x y z hx hy hz
        injection h with h
        subst h
        have := linO_len hx
        have := linO_len hy
        have := linO_len hz
        have := hp a (by simp)
        have := hp b (by simp)
        have := hp c (by simp)
        exact ⟨by simp only; omega, by simp only; omega, by simp only; omega⟩
      · cases h
    · cases h
  · cases h
theorem goR_rows {f : List UInt8 → Option R3} : ∀ (L : List (List UInt8)) (line : Nat) (rows rows' : List R3), goR f line rows L = .inr rows' → rows'.length ≤ rows.length + L.length ∧ ∀ r, r ∈ rows' → r ∈ rows ∨ ∃ l, l ∈ L ∧ f l = some r := by
  intro L
  induction L with
  | nil => intro line rows rows' h; injection h with h; subst h; exact ⟨by simp, fun r hr => .inl hr⟩
  | cons l r ih =>
    intro line rows rows' h
    simp only [goR] at h
    split at h
    · split at h
      · injection h with h; subst h; exact ⟨by simp, fun r hr => .inl hr⟩
      · cases h
    · split at h
      · rename_i x hx
        split at h
        · cases h
        · obtain ⟨h1, h2⟩ := ih _ _ _ h
          refine ⟨by simp at h1 ⊢; omega, fun y hy => ?_⟩
          rcases h2 y hy with e | ⟨l', e1, e2⟩
          · rcases List.mem_append.1 e with e | e
            · exact .inl e
            · simp only [List.mem_singleton] at e
              subst e
              exact .inr ⟨l, List.mem_cons_self, hx⟩
          · exact .inr ⟨l', List.mem_cons_of_mem _ e1, e2⟩
      · cases h
theorem goR_line {f : List UInt8 → Option R3} : ∀ (L : List (List UInt8)) (line k : Nat) (rows : List R3), goR f line rows L = .inl k → line ≤ k := by
  intro L
  induction L with
  | nil => intro line k rows h; cases h
  | cons l r ih =>
    intro line k rows h
    simp only [goR] at h
    split at h
    · split at h
      · cases h
      · injection h with h; omega
    · split at h
      · split at h
        · injection h with h; omega
        · have := ih _ _ _ h; omega
      · injection h with h; omega
theorem parsT_pos {s : List UInt8} {n : Nat} (h : parsT s = .inl n) : 1 ≤ n := by
  unfold parsT at h
  split at h
  · injection h with h; omega
  · split at h
    · split at h
      · injection h with h; omega
      · split at h
        · rename_i hg
          injection h with h
          have := goR_line _ _ _ _ hg
          omega
        · cases h
    · injection h with h; omega
theorem parsT_rows {s : List UInt8} (hs : s.length ≤ 50000) {h : Int × Int × Int} {rows : List R3} (hp : parsT s = .inr (h, rows)) : rows.length ≤ 100000 ∧ ∀ r, r ∈ rows.map rw3 → rowL r := by
  have hc := split_count s [10]
  have hl := split_len s [10]
  unfold parsT at hp
  split at hp
  · cases hp
  · rename_i l0 rest he
    rw [he] at hc hl
    split at hp
    · split at hp
      · cases hp
      · split at hp
        · cases hp
        · rename_i rows' hg
          injection hp with hp
          injection hp with e1 e2
          subst e1 e2
          obtain ⟨h1, h2⟩ := goR_rows _ _ _ _ hg
          simp only [List.length_cons] at hc
          refine ⟨by simp at h1; omega, fun r hr => ?_⟩
          obtain ⟨x, hx, rfl⟩ := List.mem_map.1 hr
          rcases h2 x hx with e | ⟨l, e1, e2⟩
          · cases e
          · have e3 := (filt_iff.1 e2).1
            have := rowO_len e3
            have := hl l (List.mem_cons_of_mem _ e1)
            exact ⟨by simp only [rw3]; omega, by simp only [rw3]; omega, by simp only [rw3]; omega⟩
    · cases hp
theorem law3 (m : Int) (s : List UInt8) : Ret F (glW m) 3 [.str s] (.t (.bool true)) := by
  refine Ret.of F3 rfl ?_
  simp only [ir3]
  by_cases c : s.length ≤ 3000
  · have c' : ¬ (3000 < (s.length : Int)) := by omega
    have a1 := @ok5 (glW m) (glW_ok m) s (by omega)
    have a2 := @ok6 (glW m) s (by omega)
    cases hp : parsT s with
    | inl n =>
      have hn := parsT_pos hp
      have cn : 0 < (n : Int) := by omega
      have sm := @ok7 (glW m) zTab zTab (by simp [zTab]) (fun r hr => by cases hr)
      rw [sameT_refl] at sm
      simp only [prV, rpV, hp, tTab, tCells, zTab, List.map_nil] at a1 a2 sm
      simp only [wCo, wFr, wOp, wBi, wLst, wLog, xB_other, Nat.reduceBEq, unT, loadP, storeP, partP, partT, partV, cellsP, mkAgg, allT, setRange, fillP, fieldA, indexS, indexA, indexV, indexStr, elems, lenP, pickV, cviV, nckV, extV, isNil, bound, close, close1, aft, retV, retSl, Go.Pi.one, eqT, eqs, eq1, Nat.reduceEqDiff, Nat.reduceAdd, Nat.reduceSub, Nat.reduceMul, Nat.reduceLeDiff, Nat.reduceLT, Nat.one_ne_zero, Nat.zero_ne_one, reduceIte, reduceCtorEq, bne_self_eq_false, decide_true, decide_false, Int.reduceToNat, Int.cast_ofNat_Int, Int.reduceLT, Int.reduceLE, Int.reduceEq, Int.reduceNeg, Int.reduceAdd, Int.reduceSub, ok4 m, c', a1, a2, sm, cn]
      repeat' ((with_reducible first | refine xG_dec ?_ ?_ | refine xG_ndec ?_ ?_ | refine xG_nsplit ?_ ?_ | refine xG_split ?_ ?_ | refine xC_dec ?_ ?_ | refine xC_ndec ?_ ?_ | refine xC_nsplit ?_ ?_ | refine xC_split ?_ ?_) <;> intro h <;> (try simp only [wCo, wFr, wOp, wBi, wLst, wLog, xB_other, Nat.reduceBEq, unT, loadP, storeP, partP, partT, partV, cellsP, mkAgg, allT, setRange, fillP, fieldA, indexS, indexA, indexV, indexStr, elems, lenP, pickV, cviV, nckV, extV, isNil, bound, close, close1, aft, retV, retSl, Go.Pi.one, eqT, eqs, eq1, Nat.reduceEqDiff, Nat.reduceAdd, Nat.reduceSub, Nat.reduceMul, Nat.reduceLeDiff, Nat.reduceLT, Nat.one_ne_zero, Nat.zero_ne_one, reduceIte, reduceCtorEq, bne_self_eq_false, decide_true, decide_false, Int.reduceToNat, Int.cast_ofNat_Int, Int.reduceLT, Int.reduceLE, Int.reduceEq, Int.reduceNeg, Int.reduceAdd, Int.reduceSub, ok4 m, c', a1, a2, sm, cn, h]))
    | inr x =>
      obtain ⟨h, rows⟩ := x
      obtain ⟨q1, q2⟩ := parsT_rows (by omega) hp
      have sm := @ok7 (glW m) (tabOf h rows) (tabOf h rows) (by simpa [tabOf] using q1) q2
      rw [sameT_refl] at sm
      have c0 : ¬ ((0 : Int) < 0) := by decide
      simp only [prV, rpV, hp, tTab, tCells] at a1 a2 sm
      generalize tabOf h rows = Z at *
      simp only [wCo, wFr, wOp, wBi, wLst, wLog, xB_other, Nat.reduceBEq, unT, loadP, storeP, partP, partT, partV, cellsP, mkAgg, allT, setRange, fillP, fieldA, indexS, indexA, indexV, indexStr, elems, lenP, pickV, cviV, nckV, extV, isNil, bound, close, close1, aft, retV, retSl, Go.Pi.one, eqT, eqs, eq1, Nat.reduceEqDiff, Nat.reduceAdd, Nat.reduceSub, Nat.reduceMul, Nat.reduceLeDiff, Nat.reduceLT, Nat.one_ne_zero, Nat.zero_ne_one, reduceIte, reduceCtorEq, bne_self_eq_false, decide_true, decide_false, Int.reduceToNat, Int.cast_ofNat_Int, Int.reduceLT, Int.reduceLE, Int.reduceEq, Int.reduceNeg, Int.reduceAdd, Int.reduceSub, ok4 m, c', a1, a2, sm, c0]
      repeat' ((with_reducible first | refine xG_dec ?_ ?_ | refine xG_ndec ?_ ?_ | refine xG_nsplit ?_ ?_ | refine xG_split ?_ ?_ | refine xC_dec ?_ ?_ | refine xC_ndec ?_ ?_ | refine xC_nsplit ?_ ?_ | refine xC_split ?_ ?_) <;> intro h <;> (try simp only [wCo, wFr, wOp, wBi, wLst, wLog, xB_other, Nat.reduceBEq, unT, loadP, storeP, partP, partT, partV, cellsP, mkAgg, allT, setRange, fillP, fieldA, indexS, indexA, indexV, indexStr, elems, lenP, pickV, cviV, nckV, extV, isNil, bound, close, close1, aft, retV, retSl, Go.Pi.one, eqT, eqs, eq1, Nat.reduceEqDiff, Nat.reduceAdd, Nat.reduceSub, Nat.reduceMul, Nat.reduceLeDiff, Nat.reduceLT, Nat.one_ne_zero, Nat.zero_ne_one, reduceIte, reduceCtorEq, bne_self_eq_false, decide_true, decide_false, Int.reduceToNat, Int.cast_ofNat_Int, Int.reduceLT, Int.reduceLE, Int.reduceEq, Int.reduceNeg, Int.reduceAdd, Int.reduceSub, ok4 m, c', a1, a2, sm, c0, h]))
  · have c' : 3000 < (s.length : Int) := by omega
    simp only [wCo, wFr, wOp, wBi, wLst, wLog, xB_other, Nat.reduceBEq, unT, loadP, storeP, partP, partT, partV, cellsP, mkAgg, allT, setRange, fillP, fieldA, indexS, indexA, indexV, indexStr, elems, lenP, pickV, cviV, nckV, extV, isNil, bound, close, close1, aft, retV, retSl, Go.Pi.one, eqT, eqs, eq1, Nat.reduceEqDiff, Nat.reduceAdd, Nat.reduceSub, Nat.reduceMul, Nat.reduceLeDiff, Nat.reduceLT, Nat.one_ne_zero, Nat.zero_ne_one, reduceIte, reduceCtorEq, bne_self_eq_false, decide_true, decide_false, Int.reduceToNat, Int.cast_ofNat_Int, Int.reduceLT, Int.reduceLE, Int.reduceEq, Int.reduceNeg, Int.reduceAdd, Int.reduceSub, ok4 m, c']
    repeat' ((with_reducible first | refine xG_dec ?_ ?_ | refine xG_ndec ?_ ?_ | refine xG_nsplit ?_ ?_ | refine xG_split ?_ ?_ | refine xC_dec ?_ ?_ | refine xC_ndec ?_ ?_ | refine xC_nsplit ?_ ?_ | refine xC_split ?_ ?_) <;> intro h <;> (try simp only [wCo, wFr, wOp, wBi, wLst, wLog, xB_other, Nat.reduceBEq, unT, loadP, storeP, partP, partT, partV, cellsP, mkAgg, allT, setRange, fillP, fieldA, indexS, indexA, indexV, indexStr, elems, lenP, pickV, cviV, nckV, extV, isNil, bound, close, close1, aft, retV, retSl, Go.Pi.one, eqT, eqs, eq1, Nat.reduceEqDiff, Nat.reduceAdd, Nat.reduceSub, Nat.reduceMul, Nat.reduceLeDiff, Nat.reduceLT, Nat.one_ne_zero, Nat.zero_ne_one, reduceIte, reduceCtorEq, bne_self_eq_false, decide_true, decide_false, Int.reduceToNat, Int.cast_ofNat_Int, Int.reduceLT, Int.reduceLE, Int.reduceEq, Int.reduceNeg, Int.reduceAdd, Int.reduceSub, ok4 m, c', h]))
theorem args3 {m : Int} (_ : GlK (glW m)) : ∀ xs, ArgsT 140737488355328 [(false, [.str])] xs → ∃ n sg ow, pcall F (glW m) n 3 (xs.map .t) [] [] = some (.t (.bool true), sg, ow) := by
  intro xs h
  obtain ⟨x, r, rfl, hx, h⟩ := argsT_cons h
  obtain rfl := argsT_nil h
  obtain ⟨s, rfl, hs⟩ := wt_str (argT_one hx)
  exact CallP.law (law3 m s)
end Go.Proofs.YtbkphlhmbllbiaaGreatDoor
