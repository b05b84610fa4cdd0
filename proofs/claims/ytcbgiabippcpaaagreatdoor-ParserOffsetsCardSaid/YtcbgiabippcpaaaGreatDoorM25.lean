/- The parser: lists of functions and of declarations. -/
import Derived.Test.YtcbgiabippcpaaaGreatDoorM24
set_option maxRecDepth 10000
set_option linter.unusedVariables false
set_option linter.unusedSimpArgs false
namespace Go.Proofs.YtcbgiabippcpaaaGreatDoor
open Go.Pi Go.Lx Go.Ky
variable {gl : Nat → Option (List T)}

abbrev z10 : List T := [.str [], .sl true [], .int .i64 0, .int .i64 0, .int .i64 0, .sl true [], .int .i64 0, .int .u64 0, .str [], .sl true []]
theorem bsF {v : PV} {f : Fu} (h : Fv v f) : bslV 10 1 z10 [(0, 10, v)] = some (.lit [tFu f]) := by
  obtain ⟨p, q, r, hx, cp, cq, cr⟩ := h
  unfold bslV
  rw [fillP, hx, if_pos ⟨rfl, Nat.le_refl 10⟩, fillP]
  show (([.t (.str f.name), p, .t (.int .i64 f.res.kind), .t (.int .i64 f.res.bits), .t (.int .i64 f.res.len), q, .t (.int .i64 f.ret.op), .t (.int .u64 f.ret.val), .t (.str f.ret.name), r] : List PV).mapM cell1).map _ = _
  simp only [List.mapM_cons, List.mapM_nil, cp, cq, cr]
  rfl
abbrev z5d : List T := [.bool false, .str [], .int .i64 0, .int .i64 0, .int .i64 0]
theorem bsD (d : De) : bslV 5 1 z5d [(0, 5, .t (.agg (tDe d)))] = some (.lit [tDe d]) := rfl
/-- A list under way, of elements that enc writes. -/
def Lg {α : Type} (enc : α → List T) (sz k0 : Nat) (v : PV) (ow : Ow) (l : List α) : Prop := (v = .t (.sl true []) ∧ l = []) ∨ ∃ k, v = .own k sz (l.map enc) ∧ l ≠ [] ∧ ow[k]? = some l.length ∧ k0 ≤ k
theorem Lg.keep {α : Type} {enc : α → List T} {sz k0 : Nat} {v : PV} {ow ow' : Ow} {l : List α} (h : Lg enc sz k0 v ow l) (ho : OwK ow ow') : Lg enc sz k0 v ow' l := by
  rcases h with h | ⟨k, rfl, hl, hk, hl0⟩
  · exact .inl h
  · exact .inr ⟨k, rfl, hl, by rw [ho.2 k (List.getElem?_eq_some_iff.1 hk).1]; exact hk, hl0⟩
theorem Lg.one {α : Type} {enc : α → List T} {sz k0 : Nat} {v : PV} {ow : Ow} {l : List α} (h : Lg enc sz k0 v ow l) : Go.Pi.one v = true ∧ cellsP v = [v] := by
  rcases h with ⟨rfl, -⟩ | ⟨k, rfl, -, -, -⟩ <;> exact ⟨rfl, rfl⟩
theorem app_lg {α : Type} {enc : α → List T} {sz by' k0 : Nat} {v : PV} {ow : Ow} {l : List α} (hs : ∀ x, (enc x).length = sz) (h0 : 0 < sz) (hb : by' ≤ 200) (h : Lg enc sz k0 v ow l) (hk : k0 ≤ ow.length) (hl : l.length < 1000000) (dr : Bool) (e : α) : ∃ x, (∀ sg, appendP dr sg ow sz by' v (.lit [enc e]) = some x) ∧ Lg enc sz k0 x.1 x.2 (l ++ [e]) ∧ ow.length ≤ x.2.length ∧ ∀ j, j < k0 → x.2[j]? = ow[j]? := by
  have e2 : ∀ sg, elemsS sg sz (.lit [enc e]) = some [enc e] := fun sg => rfl
  have e3 : ([enc e].all (fun x => x.length == sz)) = true := by simp [hs]
  have rm : ∀ n, n ≤ 1000000 → room n by' = true := by
    intro n hn
    unfold room
    have := Nat.mul_le_mul hn hb
    exact decide_eq_true ⟨by omega, by omega⟩
  rcases h with ⟨rfl, rfl⟩ | ⟨k, rfl, hne, hkk, hl0⟩
  · refine ⟨(.own ow.length sz [enc e], ow ++ [1]), ?_, ?_, ?_, ?_⟩
    · intro sg
      have r := rm ([enc e].length) (by simp)
      simp only [appendP, e2, e3, r, h0, and_self, if_true]
      rfl
    · refine .inr ⟨ow.length, rfl, by simp, ?_, hk⟩
      exact List.getElem?_concat_length
    · simp only [List.length_append]; omega
    · intro j hj
      exact List.getElem?_append_left (by omega)
  · refine ⟨(.own k sz (l.map enc ++ [enc e]), ow.set k ((l.map enc).length + 1)), ?_, ?_, ?_, ?_⟩
    · intro sg
      have r := rm ((l.map enc).length + [enc e].length) (by rw [List.length_map]; simp only [List.length_cons, List.length_nil]; omega)
      have hk2 : ow[k]? = some (l.map enc).length := by rw [List.length_map]; exact hkk
      simp only [appendP, e2, e3, hk2, r, h0, and_self, if_true]
      rfl
    · refine .inr ⟨k, by rw [List.map_append]; rfl, by simp, ?_, hl0⟩
      show (ow.set k ((l.map enc).length + 1))[k]? = _
      rw [List.getElem?_set_self (List.getElem?_eq_some_iff.1 hkk).1, List.length_map, List.length_append]; rfl
    · simp only [List.length_set]; omega
    · intro j hj
      exact List.getElem?_set_ne (by omega)
end Go.Proofs.YtcbgiabippcpaaaGreatDoor
