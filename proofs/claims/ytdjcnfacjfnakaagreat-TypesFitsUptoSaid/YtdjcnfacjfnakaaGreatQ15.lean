/- The reference: indexes. -/
import Derived.Test.YtdjcnfacjfnakaaGreatQ11
import Derived.Test.YtdjcnfacjfnakaaGreatKx27
import Derived.Test.YtdjcnfacjfnakaaGreatKx27
set_option maxRecDepth 10000
set_option linter.unusedVariables false
set_option linter.unusedSimpArgs false
namespace Go.Proofs.YtdjcnfacjfnakaaGreat
open Go.Pi Go.Lx Go.Ky
variable {gl : Nat → Option (List T)}

set_option maxHeartbeats 2000000 in
theorem ok76 {e : Exp} (he : exB e = true) {ns : Ns} (nl : Bool) (hls : ns.length ≤ 4 * B20) (len : Int) {K : PV → Prop} : XcP F gl 76 [.agg (tEx e), .sl nl (ns.map tSym), .int .i64 len] K ⟨⟩ ↔ K (.t (.int .i64 (idxR ns e len))) := by
  refine Ret.iff (Ret.of F76 rfl ?_)
  simp only [ir76]
  have hF := fun k K => @ok39 gl ns nl k hls K
  by_cases o1 : e.op = 1
  · by_cases hv : e.val ≥ IntKind.u64.wrap len
    · have hM : idxR ns e len = 8 := by unfold idxR; rw [if_pos o1, if_pos hv]
      rw [hM]
      simp only [wA, seval, reduceCtorEq, reduceIte, tEx_eq, o1, hv]
    · have hM : idxR ns e len = 0 := by unfold idxR; rw [if_pos o1, if_neg hv]
      rw [hM]
      simp only [wA, seval, reduceCtorEq, reduceIte, tEx_eq, o1, hv]
  by_cases o12 : e.op = 12
  · obtain ⟨a, b, hab⟩ := exB_two he (.inr (.inl o12))
    by_cases hop : a.op = 2
    · by_cases hb : b.op = 1
      · skip
        cases hl : Ky.look a.name ns with
        | none =>
          have hM : idxR ns e len = 4 := by unfold idxR idxN; simp [o12, hab, hb, hop, hl]
          rw [hM]
          simp only [wA, seval, reduceCtorEq, reduceIte, tEx_eq, o12, hab, tExs, hb, hop, keepsV_cons, keepsV_nil, keepP, keep1_self, loadK, hF, find_none hl]
          repeat' ((with_reducible first | refine xG_dec ?_ ?_ | refine xG_ndec ?_ ?_ | refine xG_nsplit ?_ ?_ | refine xG_split ?_ ?_ | refine xC_dec ?_ ?_ | refine xC_ndec ?_ ?_ | refine xC_nsplit ?_ ?_ | refine xC_split ?_ ?_) <;> intro h <;> (try simp only [wA, seval, reduceCtorEq, reduceIte, tEx_eq, o12, hab, tExs, hb, hop, keepsV_cons, keepsV_nil, keepP, keep1_self, loadK, hF, find_none hl, h]))
        | some s =>
          obtain ⟨j, nm', hf, hj⟩ := find_some0 hl
          have hjl : j < ns.length := (List.getElem?_eq_some_iff.1 hj).1
          have cj : ¬ ((j : Nat) : Int) < 0 := by omega
          have hR : idxR ns e len = idxS s b.val 1 len := by unfold idxR idxN; simp [o12, hab, hb, hop, hl]
          rw [hR]
          cases hlo : s.loop with
          | false =>
            rw [idxS_6 hlo]
            simp only [wA, seval, reduceCtorEq, reduceIte, tEx_eq, o12, hab, tExs, hb, hop, keepsV_cons, keepsV_nil, keepP, keep1_self, loadK, hF, hf, cj, Int.toNat_natCast, hjl, List.length_map, List.getElem?_map, hj, Option.map_some, hlo]
            repeat' ((with_reducible first | refine xG_dec ?_ ?_ | refine xG_ndec ?_ ?_ | refine xG_nsplit ?_ ?_ | refine xG_split ?_ ?_ | refine xC_dec ?_ ?_ | refine xC_ndec ?_ ?_ | refine xC_nsplit ?_ ?_ | refine xC_split ?_ ?_) <;> intro h <;> (try simp only [wA, seval, reduceCtorEq, reduceIte, tEx_eq, o12, hab, tExs, hb, hop, keepsV_cons, keepsV_nil, keepP, keep1_self, loadK, hF, hf, cj, Int.toNat_natCast, hjl, List.length_map, List.getElem?_map, hj, Option.map_some, hlo, h]))
          | true =>
            by_cases h2 : s.low > IntKind.i64.wrap (s.high - 1)
            · rw [idxS_a hlo h2]
              simp only [wA, seval, reduceCtorEq, reduceIte, tEx_eq, o12, hab, tExs, hb, hop, keepsV_cons, keepsV_nil, keepP, keep1_self, loadK, hF, hf, cj, Int.toNat_natCast, hjl, List.length_map, List.getElem?_map, hj, Option.map_some, hlo, h2]
              repeat' ((with_reducible first | refine xG_dec ?_ ?_ | refine xG_ndec ?_ ?_ | refine xG_nsplit ?_ ?_ | refine xG_split ?_ ?_ | refine xC_dec ?_ ?_ | refine xC_ndec ?_ ?_ | refine xC_nsplit ?_ ?_ | refine xC_split ?_ ?_) <;> intro h <;> (try simp only [wA, seval, reduceCtorEq, reduceIte, tEx_eq, o12, hab, tExs, hb, hop, keepsV_cons, keepsV_nil, keepP, keep1_self, loadK, hF, hf, cj, Int.toNat_natCast, hjl, List.length_map, List.getElem?_map, hj, Option.map_some, hlo, h2, h]))
            by_cases h3 : b.val > 10000000
            · rw [idxS_b hlo h2 h3]
              simp only [wA, seval, reduceCtorEq, reduceIte, tEx_eq, o12, hab, tExs, hb, hop, keepsV_cons, keepsV_nil, keepP, keep1_self, loadK, hF, hf, cj, Int.toNat_natCast, hjl, List.length_map, List.getElem?_map, hj, Option.map_some, hlo, h2, h3]
              repeat' ((with_reducible first | refine xG_dec ?_ ?_ | refine xG_ndec ?_ ?_ | refine xG_nsplit ?_ ?_ | refine xG_split ?_ ?_ | refine xC_dec ?_ ?_ | refine xC_ndec ?_ ?_ | refine xC_nsplit ?_ ?_ | refine xC_split ?_ ?_) <;> intro h <;> (try simp only [wA, seval, reduceCtorEq, reduceIte, tEx_eq, o12, hab, tExs, hb, hop, keepsV_cons, keepsV_nil, keepP, keep1_self, loadK, hF, hf, cj, Int.toNat_natCast, hjl, List.length_map, List.getElem?_map, hj, Option.map_some, hlo, h2, h3, h]))
            by_cases h4 : IntKind.i64.wrap (s.low + IntKind.i64.wrap (1 * IntKind.i64.wrap b.val)) < 0
            · rw [idxS_c hlo h2 h3 (.inl h4)]
              simp only [wA, seval, reduceCtorEq, reduceIte, tEx_eq, o12, hab, tExs, hb, hop, keepsV_cons, keepsV_nil, keepP, keep1_self, loadK, hF, hf, cj, Int.toNat_natCast, hjl, List.length_map, List.getElem?_map, hj, Option.map_some, hlo, h2, h3, h4]
              repeat' ((with_reducible first | refine xG_dec ?_ ?_ | refine xG_ndec ?_ ?_ | refine xG_nsplit ?_ ?_ | refine xG_split ?_ ?_ | refine xC_dec ?_ ?_ | refine xC_ndec ?_ ?_ | refine xC_nsplit ?_ ?_ | refine xC_split ?_ ?_) <;> intro h <;> (try simp only [wA, seval, reduceCtorEq, reduceIte, tEx_eq, o12, hab, tExs, hb, hop, keepsV_cons, keepsV_nil, keepP, keep1_self, loadK, hF, hf, cj, Int.toNat_natCast, hjl, List.length_map, List.getElem?_map, hj, Option.map_some, hlo, h2, h3, h4, h]))
            by_cases h5 : IntKind.i64.wrap (IntKind.i64.wrap (s.high - 1) + IntKind.i64.wrap (1 * IntKind.i64.wrap b.val)) ≥ len
            · rw [idxS_c hlo h2 h3 (.inr h5)]
              simp only [wA, seval, reduceCtorEq, reduceIte, tEx_eq, o12, hab, tExs, hb, hop, keepsV_cons, keepsV_nil, keepP, keep1_self, loadK, hF, hf, cj, Int.toNat_natCast, hjl, List.length_map, List.getElem?_map, hj, Option.map_some, hlo, h2, h3, h4, h5]
              repeat' ((with_reducible first | refine xG_dec ?_ ?_ | refine xG_ndec ?_ ?_ | refine xG_nsplit ?_ ?_ | refine xG_split ?_ ?_ | refine xC_dec ?_ ?_ | refine xC_ndec ?_ ?_ | refine xC_nsplit ?_ ?_ | refine xC_split ?_ ?_) <;> intro h <;> (try simp only [wA, seval, reduceCtorEq, reduceIte, tEx_eq, o12, hab, tExs, hb, hop, keepsV_cons, keepsV_nil, keepP, keep1_self, loadK, hF, hf, cj, Int.toNat_natCast, hjl, List.length_map, List.getElem?_map, hj, Option.map_some, hlo, h2, h3, h4, h5, h]))
            · rw [idxS_d hlo h2 h3 h4 h5]
              simp only [wA, seval, reduceCtorEq, reduceIte, tEx_eq, o12, hab, tExs, hb, hop, keepsV_cons, keepsV_nil, keepP, keep1_self, loadK, hF, hf, cj, Int.toNat_natCast, hjl, List.length_map, List.getElem?_map, hj, Option.map_some, hlo, h2, h3, h4, h5]
              repeat' ((with_reducible first | refine xG_dec ?_ ?_ | refine xG_ndec ?_ ?_ | refine xG_nsplit ?_ ?_ | refine xG_split ?_ ?_ | refine xC_dec ?_ ?_ | refine xC_ndec ?_ ?_ | refine xC_nsplit ?_ ?_ | refine xC_split ?_ ?_) <;> intro h <;> (try simp only [wA, seval, reduceCtorEq, reduceIte, tEx_eq, o12, hab, tExs, hb, hop, keepsV_cons, keepsV_nil, keepP, keep1_self, loadK, hF, hf, cj, Int.toNat_natCast, hjl, List.length_map, List.getElem?_map, hj, Option.map_some, hlo, h2, h3, h4, h5, h]))
      · have hM : idxR ns e len = 6 := by unfold idxR; simp [o12, hab, hb, hop]
        rw [hM]
        simp only [wA, seval, reduceCtorEq, reduceIte, tEx_eq, o12, hab, tExs, hb, hop, keepsV_cons, keepsV_nil, keepP, keep1_self, loadK]
        repeat' ((with_reducible first | refine xG_dec ?_ ?_ | refine xG_ndec ?_ ?_ | refine xG_nsplit ?_ ?_ | refine xG_split ?_ ?_ | refine xC_dec ?_ ?_ | refine xC_ndec ?_ ?_ | refine xC_nsplit ?_ ?_ | refine xC_split ?_ ?_) <;> intro h <;> (try simp only [wA, seval, reduceCtorEq, reduceIte, tEx_eq, o12, hab, tExs, hb, hop, keepsV_cons, keepsV_nil, keepP, keep1_self, loadK, h]))
    · have hM : idxR ns e len = 6 := by unfold idxR; simp [o12, hab, hop]
      rw [hM]
      simp only [wA, seval, reduceCtorEq, reduceIte, tEx_eq, o12, hab, tExs, hop, keepsV_cons, keepsV_nil, keepP, keep1_self, loadK]
      repeat' ((with_reducible first | refine xG_dec ?_ ?_ | refine xG_ndec ?_ ?_ | refine xG_nsplit ?_ ?_ | refine xG_split ?_ ?_ | refine xC_dec ?_ ?_ | refine xC_ndec ?_ ?_ | refine xC_nsplit ?_ ?_ | refine xC_split ?_ ?_) <;> intro h <;> (try simp only [wA, seval, reduceCtorEq, reduceIte, tEx_eq, o12, hab, tExs, hop, keepsV_cons, keepsV_nil, keepP, keep1_self, loadK, h]))
  by_cases o13 : e.op = 13
  · obtain ⟨a, b, hab⟩ := exB_two he (.inr (.inr (.inl o13)))
    by_cases hop : a.op = 2
    · by_cases hb : b.op = 1
      · skip
        cases hl : Ky.look a.name ns with
        | none =>
          have hM : idxR ns e len = 4 := by unfold idxR idxN; simp [o13, hab, hb, hop, hl]
          rw [hM]
          simp only [wA, seval, reduceCtorEq, reduceIte, tEx_eq, o13, hab, tExs, hb, hop, keepsV_cons, keepsV_nil, keepP, keep1_self, loadK, hF, find_none hl]
          repeat' ((with_reducible first | refine xG_dec ?_ ?_ | refine xG_ndec ?_ ?_ | refine xG_nsplit ?_ ?_ | refine xG_split ?_ ?_ | refine xC_dec ?_ ?_ | refine xC_ndec ?_ ?_ | refine xC_nsplit ?_ ?_ | refine xC_split ?_ ?_) <;> intro h <;> (try simp only [wA, seval, reduceCtorEq, reduceIte, tEx_eq, o13, hab, tExs, hb, hop, keepsV_cons, keepsV_nil, keepP, keep1_self, loadK, hF, find_none hl, h]))
        | some s =>
          obtain ⟨j, nm', hf, hj⟩ := find_some0 hl
          have hjl : j < ns.length := (List.getElem?_eq_some_iff.1 hj).1
          have cj : ¬ ((j : Nat) : Int) < 0 := by omega
          have hR : idxR ns e len = idxS s b.val (-1) len := by unfold idxR idxN; simp [o13, hab, hb, hop, hl]
          rw [hR]
          cases hlo : s.loop with
          | false =>
            rw [idxS_6 hlo]
            simp only [wA, seval, reduceCtorEq, reduceIte, tEx_eq, o13, hab, tExs, hb, hop, keepsV_cons, keepsV_nil, keepP, keep1_self, loadK, hF, hf, cj, Int.toNat_natCast, hjl, List.length_map, List.getElem?_map, hj, Option.map_some, hlo]
            repeat' ((with_reducible first | refine xG_dec ?_ ?_ | refine xG_ndec ?_ ?_ | refine xG_nsplit ?_ ?_ | refine xG_split ?_ ?_ | refine xC_dec ?_ ?_ | refine xC_ndec ?_ ?_ | refine xC_nsplit ?_ ?_ | refine xC_split ?_ ?_) <;> intro h <;> (try simp only [wA, seval, reduceCtorEq, reduceIte, tEx_eq, o13, hab, tExs, hb, hop, keepsV_cons, keepsV_nil, keepP, keep1_self, loadK, hF, hf, cj, Int.toNat_natCast, hjl, List.length_map, List.getElem?_map, hj, Option.map_some, hlo, h]))
          | true =>
            by_cases h2 : s.low > IntKind.i64.wrap (s.high - 1)
            · rw [idxS_a hlo h2]
              simp only [wA, seval, reduceCtorEq, reduceIte, tEx_eq, o13, hab, tExs, hb, hop, keepsV_cons, keepsV_nil, keepP, keep1_self, loadK, hF, hf, cj, Int.toNat_natCast, hjl, List.length_map, List.getElem?_map, hj, Option.map_some, hlo, h2]
              repeat' ((with_reducible first | refine xG_dec ?_ ?_ | refine xG_ndec ?_ ?_ | refine xG_nsplit ?_ ?_ | refine xG_split ?_ ?_ | refine xC_dec ?_ ?_ | refine xC_ndec ?_ ?_ | refine xC_nsplit ?_ ?_ | refine xC_split ?_ ?_) <;> intro h <;> (try simp only [wA, seval, reduceCtorEq, reduceIte, tEx_eq, o13, hab, tExs, hb, hop, keepsV_cons, keepsV_nil, keepP, keep1_self, loadK, hF, hf, cj, Int.toNat_natCast, hjl, List.length_map, List.getElem?_map, hj, Option.map_some, hlo, h2, h]))
            by_cases h3 : b.val > 10000000
            · rw [idxS_b hlo h2 h3]
              simp only [wA, seval, reduceCtorEq, reduceIte, tEx_eq, o13, hab, tExs, hb, hop, keepsV_cons, keepsV_nil, keepP, keep1_self, loadK, hF, hf, cj, Int.toNat_natCast, hjl, List.length_map, List.getElem?_map, hj, Option.map_some, hlo, h2, h3]
              repeat' ((with_reducible first | refine xG_dec ?_ ?_ | refine xG_ndec ?_ ?_ | refine xG_nsplit ?_ ?_ | refine xG_split ?_ ?_ | refine xC_dec ?_ ?_ | refine xC_ndec ?_ ?_ | refine xC_nsplit ?_ ?_ | refine xC_split ?_ ?_) <;> intro h <;> (try simp only [wA, seval, reduceCtorEq, reduceIte, tEx_eq, o13, hab, tExs, hb, hop, keepsV_cons, keepsV_nil, keepP, keep1_self, loadK, hF, hf, cj, Int.toNat_natCast, hjl, List.length_map, List.getElem?_map, hj, Option.map_some, hlo, h2, h3, h]))
            by_cases h4 : IntKind.i64.wrap (s.low + IntKind.i64.wrap ((-1) * IntKind.i64.wrap b.val)) < 0
            · rw [idxS_c hlo h2 h3 (.inl h4)]
              simp only [wA, seval, reduceCtorEq, reduceIte, tEx_eq, o13, hab, tExs, hb, hop, keepsV_cons, keepsV_nil, keepP, keep1_self, loadK, hF, hf, cj, Int.toNat_natCast, hjl, List.length_map, List.getElem?_map, hj, Option.map_some, hlo, h2, h3, h4]
              repeat' ((with_reducible first | refine xG_dec ?_ ?_ | refine xG_ndec ?_ ?_ | refine xG_nsplit ?_ ?_ | refine xG_split ?_ ?_ | refine xC_dec ?_ ?_ | refine xC_ndec ?_ ?_ | refine xC_nsplit ?_ ?_ | refine xC_split ?_ ?_) <;> intro h <;> (try simp only [wA, seval, reduceCtorEq, reduceIte, tEx_eq, o13, hab, tExs, hb, hop, keepsV_cons, keepsV_nil, keepP, keep1_self, loadK, hF, hf, cj, Int.toNat_natCast, hjl, List.length_map, List.getElem?_map, hj, Option.map_some, hlo, h2, h3, h4, h]))
            by_cases h5 : IntKind.i64.wrap (IntKind.i64.wrap (s.high - 1) + IntKind.i64.wrap ((-1) * IntKind.i64.wrap b.val)) ≥ len
            · rw [idxS_c hlo h2 h3 (.inr h5)]
              simp only [wA, seval, reduceCtorEq, reduceIte, tEx_eq, o13, hab, tExs, hb, hop, keepsV_cons, keepsV_nil, keepP, keep1_self, loadK, hF, hf, cj, Int.toNat_natCast, hjl, List.length_map, List.getElem?_map, hj, Option.map_some, hlo, h2, h3, h4, h5]
              repeat' ((with_reducible first | refine xG_dec ?_ ?_ | refine xG_ndec ?_ ?_ | refine xG_nsplit ?_ ?_ | refine xG_split ?_ ?_ | refine xC_dec ?_ ?_ | refine xC_ndec ?_ ?_ | refine xC_nsplit ?_ ?_ | refine xC_split ?_ ?_) <;> intro h <;> (try simp only [wA, seval, reduceCtorEq, reduceIte, tEx_eq, o13, hab, tExs, hb, hop, keepsV_cons, keepsV_nil, keepP, keep1_self, loadK, hF, hf, cj, Int.toNat_natCast, hjl, List.length_map, List.getElem?_map, hj, Option.map_some, hlo, h2, h3, h4, h5, h]))
            · rw [idxS_d hlo h2 h3 h4 h5]
              simp only [wA, seval, reduceCtorEq, reduceIte, tEx_eq, o13, hab, tExs, hb, hop, keepsV_cons, keepsV_nil, keepP, keep1_self, loadK, hF, hf, cj, Int.toNat_natCast, hjl, List.length_map, List.getElem?_map, hj, Option.map_some, hlo, h2, h3, h4, h5]
              repeat' ((with_reducible first | refine xG_dec ?_ ?_ | refine xG_ndec ?_ ?_ | refine xG_nsplit ?_ ?_ | refine xG_split ?_ ?_ | refine xC_dec ?_ ?_ | refine xC_ndec ?_ ?_ | refine xC_nsplit ?_ ?_ | refine xC_split ?_ ?_) <;> intro h <;> (try simp only [wA, seval, reduceCtorEq, reduceIte, tEx_eq, o13, hab, tExs, hb, hop, keepsV_cons, keepsV_nil, keepP, keep1_self, loadK, hF, hf, cj, Int.toNat_natCast, hjl, List.length_map, List.getElem?_map, hj, Option.map_some, hlo, h2, h3, h4, h5, h]))
      · have hM : idxR ns e len = 6 := by unfold idxR; simp [o13, hab, hb, hop]
        rw [hM]
        simp only [wA, seval, reduceCtorEq, reduceIte, tEx_eq, o13, hab, tExs, hb, hop, keepsV_cons, keepsV_nil, keepP, keep1_self, loadK]
        repeat' ((with_reducible first | refine xG_dec ?_ ?_ | refine xG_ndec ?_ ?_ | refine xG_nsplit ?_ ?_ | refine xG_split ?_ ?_ | refine xC_dec ?_ ?_ | refine xC_ndec ?_ ?_ | refine xC_nsplit ?_ ?_ | refine xC_split ?_ ?_) <;> intro h <;> (try simp only [wA, seval, reduceCtorEq, reduceIte, tEx_eq, o13, hab, tExs, hb, hop, keepsV_cons, keepsV_nil, keepP, keep1_self, loadK, h]))
    · have hM : idxR ns e len = 6 := by unfold idxR; simp [o13, hab, hop]
      rw [hM]
      simp only [wA, seval, reduceCtorEq, reduceIte, tEx_eq, o13, hab, tExs, hop, keepsV_cons, keepsV_nil, keepP, keep1_self, loadK]
      repeat' ((with_reducible first | refine xG_dec ?_ ?_ | refine xG_ndec ?_ ?_ | refine xG_nsplit ?_ ?_ | refine xG_split ?_ ?_ | refine xC_dec ?_ ?_ | refine xC_ndec ?_ ?_ | refine xC_nsplit ?_ ?_ | refine xC_split ?_ ?_) <;> intro h <;> (try simp only [wA, seval, reduceCtorEq, reduceIte, tEx_eq, o13, hab, tExs, hop, keepsV_cons, keepsV_nil, keepP, keep1_self, loadK, h]))
  by_cases o2 : e.op = 2
  · skip
    cases hl : Ky.look e.name ns with
    | none =>
      have hM : idxR ns e len = 4 := by unfold idxR idxN; simp [o1, o12, o13, o2, hl]
      rw [hM]
      simp only [wA, seval, reduceCtorEq, reduceIte, tEx_eq, o1, o12, o13, o2, keepsV_cons, keepsV_nil, keepP, keep1_self, loadK, hF, find_none hl]
      repeat' ((with_reducible first | refine xG_dec ?_ ?_ | refine xG_ndec ?_ ?_ | refine xG_nsplit ?_ ?_ | refine xG_split ?_ ?_ | refine xC_dec ?_ ?_ | refine xC_ndec ?_ ?_ | refine xC_nsplit ?_ ?_ | refine xC_split ?_ ?_) <;> intro h <;> (try simp only [wA, seval, reduceCtorEq, reduceIte, tEx_eq, o1, o12, o13, o2, keepsV_cons, keepsV_nil, keepP, keep1_self, loadK, hF, find_none hl, h]))
    | some s =>
      obtain ⟨j, nm', hf, hj⟩ := find_some0 hl
      have hjl : j < ns.length := (List.getElem?_eq_some_iff.1 hj).1
      have cj : ¬ ((j : Nat) : Int) < 0 := by omega
      have hR : idxR ns e len = idxS s (0 : Int) 0 len := by unfold idxR idxN; simp [o1, o12, o13, o2, hl]
      rw [hR]
      cases hlo : s.loop with
      | false =>
        rw [idxS_6 hlo]
        simp only [wA, seval, reduceCtorEq, reduceIte, tEx_eq, o1, o12, o13, o2, keepsV_cons, keepsV_nil, keepP, keep1_self, loadK, hF, hf, cj, Int.toNat_natCast, hjl, List.length_map, List.getElem?_map, hj, Option.map_some, hlo]
        repeat' ((with_reducible first | refine xG_dec ?_ ?_ | refine xG_ndec ?_ ?_ | refine xG_nsplit ?_ ?_ | refine xG_split ?_ ?_ | refine xC_dec ?_ ?_ | refine xC_ndec ?_ ?_ | refine xC_nsplit ?_ ?_ | refine xC_split ?_ ?_) <;> intro h <;> (try simp only [wA, seval, reduceCtorEq, reduceIte, tEx_eq, o1, o12, o13, o2, keepsV_cons, keepsV_nil, keepP, keep1_self, loadK, hF, hf, cj, Int.toNat_natCast, hjl, List.length_map, List.getElem?_map, hj, Option.map_some, hlo, h]))
      | true =>
        by_cases h2 : s.low > IntKind.i64.wrap (s.high - 1)
        · rw [idxS_a hlo h2]
          simp only [wA, seval, reduceCtorEq, reduceIte, tEx_eq, o1, o12, o13, o2, keepsV_cons, keepsV_nil, keepP, keep1_self, loadK, hF, hf, cj, Int.toNat_natCast, hjl, List.length_map, List.getElem?_map, hj, Option.map_some, hlo, h2]
          repeat' ((with_reducible first | refine xG_dec ?_ ?_ | refine xG_ndec ?_ ?_ | refine xG_nsplit ?_ ?_ | refine xG_split ?_ ?_ | refine xC_dec ?_ ?_ | refine xC_ndec ?_ ?_ | refine xC_nsplit ?_ ?_ | refine xC_split ?_ ?_) <;> intro h <;> (try simp only [wA, seval, reduceCtorEq, reduceIte, tEx_eq, o1, o12, o13, o2, keepsV_cons, keepsV_nil, keepP, keep1_self, loadK, hF, hf, cj, Int.toNat_natCast, hjl, List.length_map, List.getElem?_map, hj, Option.map_some, hlo, h2, h]))
        by_cases h3 : (0 : Int) > 10000000
        · rw [idxS_b hlo h2 h3]
          simp only [wA, seval, reduceCtorEq, reduceIte, tEx_eq, o1, o12, o13, o2, keepsV_cons, keepsV_nil, keepP, keep1_self, loadK, hF, hf, cj, Int.toNat_natCast, hjl, List.length_map, List.getElem?_map, hj, Option.map_some, hlo, h2, h3]
          repeat' ((with_reducible first | refine xG_dec ?_ ?_ | refine xG_ndec ?_ ?_ | refine xG_nsplit ?_ ?_ | refine xG_split ?_ ?_ | refine xC_dec ?_ ?_ | refine xC_ndec ?_ ?_ | refine xC_nsplit ?_ ?_ | refine xC_split ?_ ?_) <;> intro h <;> (try simp only [wA, seval, reduceCtorEq, reduceIte, tEx_eq, o1, o12, o13, o2, keepsV_cons, keepsV_nil, keepP, keep1_self, loadK, hF, hf, cj, Int.toNat_natCast, hjl, List.length_map, List.getElem?_map, hj, Option.map_some, hlo, h2, h3, h]))
        by_cases h4 : IntKind.i64.wrap (s.low + IntKind.i64.wrap (0 * IntKind.i64.wrap (0 : Int))) < 0
        · rw [idxS_c hlo h2 h3 (.inl h4)]
          simp only [wA, seval, reduceCtorEq, reduceIte, tEx_eq, o1, o12, o13, o2, keepsV_cons, keepsV_nil, keepP, keep1_self, loadK, hF, hf, cj, Int.toNat_natCast, hjl, List.length_map, List.getElem?_map, hj, Option.map_some, hlo, h2, h3, h4]
          repeat' ((with_reducible first | refine xG_dec ?_ ?_ | refine xG_ndec ?_ ?_ | refine xG_nsplit ?_ ?_ | refine xG_split ?_ ?_ | refine xC_dec ?_ ?_ | refine xC_ndec ?_ ?_ | refine xC_nsplit ?_ ?_ | refine xC_split ?_ ?_) <;> intro h <;> (try simp only [wA, seval, reduceCtorEq, reduceIte, tEx_eq, o1, o12, o13, o2, keepsV_cons, keepsV_nil, keepP, keep1_self, loadK, hF, hf, cj, Int.toNat_natCast, hjl, List.length_map, List.getElem?_map, hj, Option.map_some, hlo, h2, h3, h4, h]))
        by_cases h5 : IntKind.i64.wrap (IntKind.i64.wrap (s.high - 1) + IntKind.i64.wrap (0 * IntKind.i64.wrap (0 : Int))) ≥ len
        · rw [idxS_c hlo h2 h3 (.inr h5)]
          simp only [wA, seval, reduceCtorEq, reduceIte, tEx_eq, o1, o12, o13, o2, keepsV_cons, keepsV_nil, keepP, keep1_self, loadK, hF, hf, cj, Int.toNat_natCast, hjl, List.length_map, List.getElem?_map, hj, Option.map_some, hlo, h2, h3, h4, h5]
          repeat' ((with_reducible first | refine xG_dec ?_ ?_ | refine xG_ndec ?_ ?_ | refine xG_nsplit ?_ ?_ | refine xG_split ?_ ?_ | refine xC_dec ?_ ?_ | refine xC_ndec ?_ ?_ | refine xC_nsplit ?_ ?_ | refine xC_split ?_ ?_) <;> intro h <;> (try simp only [wA, seval, reduceCtorEq, reduceIte, tEx_eq, o1, o12, o13, o2, keepsV_cons, keepsV_nil, keepP, keep1_self, loadK, hF, hf, cj, Int.toNat_natCast, hjl, List.length_map, List.getElem?_map, hj, Option.map_some, hlo, h2, h3, h4, h5, h]))
        · rw [idxS_d hlo h2 h3 h4 h5]
          simp only [wA, seval, reduceCtorEq, reduceIte, tEx_eq, o1, o12, o13, o2, keepsV_cons, keepsV_nil, keepP, keep1_self, loadK, hF, hf, cj, Int.toNat_natCast, hjl, List.length_map, List.getElem?_map, hj, Option.map_some, hlo, h2, h3, h4, h5]
          repeat' ((with_reducible first | refine xG_dec ?_ ?_ | refine xG_ndec ?_ ?_ | refine xG_nsplit ?_ ?_ | refine xG_split ?_ ?_ | refine xC_dec ?_ ?_ | refine xC_ndec ?_ ?_ | refine xC_nsplit ?_ ?_ | refine xC_split ?_ ?_) <;> intro h <;> (try simp only [wA, seval, reduceCtorEq, reduceIte, tEx_eq, o1, o12, o13, o2, keepsV_cons, keepsV_nil, keepP, keep1_self, loadK, hF, hf, cj, Int.toNat_natCast, hjl, List.length_map, List.getElem?_map, hj, Option.map_some, hlo, h2, h3, h4, h5, h]))
  · have hM : idxR ns e len = 6 := by unfold idxR; simp [o1, o12, o13, o2]
    rw [hM]
    simp only [wA, seval, reduceCtorEq, reduceIte, tEx_eq, o1, o12, o13, o2, keepsV_cons, keepsV_nil, keepP, keep1_self, loadK]
    repeat' ((with_reducible first | refine xG_dec ?_ ?_ | refine xG_ndec ?_ ?_ | refine xG_nsplit ?_ ?_ | refine xG_split ?_ ?_ | refine xC_dec ?_ ?_ | refine xC_ndec ?_ ?_ | refine xC_nsplit ?_ ?_ | refine xC_split ?_ ?_) <;> intro h <;> (try simp only [wA, seval, reduceCtorEq, reduceIte, tEx_eq, o1, o12, o13, o2, keepsV_cons, keepsV_nil, keepP, keep1_self, loadK, h]))
end Go.Proofs.YtdjcnfacjfnakaaGreat

/- The reference: operands. -/
set_option maxRecDepth 10000
set_option linter.unusedVariables false
set_option linter.unusedSimpArgs false
namespace Go.Proofs.YtdjcnfacjfnakaaGreat
open Go.Pi Go.Lx Go.Ky
variable {gl : Nat → Option (List T)}

theorem loop77 {fz : Fz} {ns : Ns} {nl fl el : Bool} {es : List Exp} (hln : es.length ≤ B20)
    (hrec : ∀ a, a ∈ es → ∀ K : PV → Prop, XcP F gl 41 [.agg (tEx a), .sl nl (ns.map tSym), .sl fl (fz.map tFz)] K ⟨⟩ ↔ K (.t (.agg (tRr (exR fz ns a))))) (Q : Ex → S → Prop) :
    ∀ (l : List Exp) (i : Nat) (acc : List Rr) (v : PV) (ow : Ow) (fr : List PV) (sg : Sg), es.drop i = l → Gl 6 v ow (acc.map tRr) → acc.length = i →
    FrAt fr [(0, .t (.sl el (tExs es))), (1, .t (.sl nl (ns.map tSym))), (2, .t (.sl fl (fz.map tFz))), (8, v), (9, .t (.int .i64 i))] →
    ((opsR fz ns l).2 = 0 → ∀ fr' sg' v' ow', Gl 6 v' ow' ((acc ++ (opsR fz ns l).1).map tRr) → fget fr' 8 = v' → Q (.exit 0) ⟨fr', sg', ow'⟩) →
    ((opsR fz ns l).2 ≠ 0 → ∀ fr' sg' ow', FrAt fr' [(6, .t (.sl true [])), (7, .t (.int .i64 (opsR fz ns l).2))] → Q .ret ⟨fr', sg', ow'⟩) →
    Xl F gl lb77_0 ⟨fr, sg, ow⟩ Q ⟨⟩ := by
  intro l
  induction l with
  | nil =>
    intro i acc v ow fr sg hd hg ha hf k1 k2
    have hd := drop_nil' hd
    simp only [FrAt_cons, FrAt_nil] at hf
    obtain ⟨f0, f1, f2, f8, f9, -⟩ := hf
    refine Xl.step ?_
    simp only [lb77_0]
    have c1 : ¬ ((i : Int) < (es.length : Int)) := by omega
    simp only [wA, seval, reduceCtorEq, reduceIte, f0, f9, c1, tExs_len]
    exact k1 (by rw [opsR]) _ _ v _ (by rw [opsR, List.append_nil]; exact hg) (by simp only [FrAt_cons, FrAt_nil, wFr, Nat.reduceEqDiff, Nat.one_ne_zero, Nat.zero_ne_one, reduceIte, and_self, and_true, true_and, f8])
  | cons x l ih =>
    intro i acc v ow fr sg hd hg ha hf k1 k2
    obtain ⟨hx, hr, hi⟩ := drop_cons hd
    simp only [FrAt_cons, FrAt_nil] at hf
    obtain ⟨f0, f1, f2, f8, f9, -⟩ := hf
    refine Xl.step ?_
    simp only [lb77_0]
    have c1 : (i : Int) < (es.length : Int) := by omega
    have hb : B20 = 1100000 := rfl
    have hw1 := i64_succ hi (show es.length ≤ 281474976710656 by omega)
    have hq := fun K => hrec x (List.mem_of_getElem? hx) K
    simp only [tEx_eq] at hq
    by_cases he : (exR fz ns x).err = 0
    · obtain ⟨v', ow', ha', hg'⟩ := hg.app (bytes := 48) (e := tRr (exR fz ns x)) rfl (by omega) (room_of (by simp only [List.length_map]; omega) (by simp only [List.length_map]; omega))
      simp only [tRr, he] at ha'
      simp only [wA, seval, reduceCtorEq, reduceIte, f0, f1, f2, f8, f9, c1, hw1, tExs_len, Int.toNat_natCast, hi, tExs_get, hx, Option.map_some, hq, tEx_eq, he, bslV, chunks, cell1, T.isAgg, List.replicate, List.flatten_cons, List.flatten_nil, List.append_nil, ha']
      have hop : (opsR fz ns (x :: l)) = if (opsR fz ns l).2 ≠ 0 then ([], (opsR fz ns l).2) else (exR fz ns x :: (opsR fz ns l).1, 0) := by rw [opsR_cons, if_neg (fun h => h he)]
      rw [hop] at k1 k2
      refine ih (i + 1) (acc ++ [exR fz ns x]) v' ow' _ _ hr (by simpa [he] using hg') (by simp [ha]) (by simp only [FrAt_cons, FrAt_nil, wFr, Nat.reduceEqDiff, Nat.one_ne_zero, Nat.zero_ne_one, reduceIte, and_self, and_true, true_and, f0, f1, f2]) ?_ ?_
      · intro h0 fr' sg' v2 ow2 hg2 hf2
        rw [if_neg (fun h => h h0)] at k1
        exact k1 rfl fr' sg' v2 ow2 (by simpa using hg2) hf2
      · intro h0
        rw [if_pos h0] at k2
        exact k2 h0
    · have hop : (opsR fz ns (x :: l)) = ([], (exR fz ns x).err) := by rw [opsR_cons, if_pos he]
      rw [hop] at k1 k2
      simp only [wA, seval, reduceCtorEq, reduceIte, f0, f1, f2, f8, f9, c1, hw1, tExs_len, Int.toNat_natCast, hi, tExs_get, hx, Option.map_some, hq, tEx_eq, he]
      exact k2 he _ _ _ (by simp only [FrAt_cons, FrAt_nil, wFr, Nat.reduceEqDiff, Nat.one_ne_zero, Nat.zero_ne_one, reduceIte, and_self, and_true, true_and])
theorem ok77 {fz : Fz} {ns : Ns} {nl fl el : Bool} {es : List Exp} (hln : es.length ≤ B20)
    (hrec : ∀ a, a ∈ es → ∀ K : PV → Prop, XcP F gl 41 [.agg (tEx a), .sl nl (ns.map tSym), .sl fl (fz.map tFz)] K ⟨⟩ ↔ K (.t (.agg (tRr (exR fz ns a))))) {K : PV → Prop} :
    XcP F gl 77 [.sl el (tExs es), .sl nl (ns.map tSym), .sl fl (fz.map tFz)] K ⟨⟩ ↔ K (.tup [.t (.sl (decide ((opsR fz ns es).2 ≠ 0)) ((opsR fz ns es).1.map tRr)), .t (.int .i64 (opsR fz ns es).2)]) := by
  refine Ret.iff (Ret.of F77 rfl ?_)
  simp only [ir77]
  simp only [wA, seval, reduceCtorEq, reduceIte, bslV, chunks, cell1, T.isAgg, List.replicate, List.flatten_cons, List.flatten_nil, List.append_nil]
  refine loop77 hln hrec _ es 0 [] _ _ _ _ rfl (Gl.zero 6 _) rfl (by simp only [FrAt_cons, FrAt_nil, wFr, Nat.reduceEqDiff, Nat.one_ne_zero, Nat.zero_ne_one, reduceIte, and_self, and_true, true_and]; first | done | exact ⟨rfl, rfl⟩ | rfl) ?_ ?_
  · intro h0 fr' sg' v' ow' hg f8
    rw [h0]
    rcases hg with ⟨rfl, hn⟩ | ⟨k, rfl, hk⟩
    · rw [List.nil_append] at hn
      simp only [wA, seval, reduceCtorEq, reduceIte, f8, xR_two]
      rw [hn]
    · simp only [wA, seval, reduceCtorEq, reduceIte, f8, xR_two]
  · intro h0 fr' sg' ow' hf
    simp only [FrAt_cons, FrAt_nil] at hf
    obtain ⟨f6, f7, -⟩ := hf
    have hn : (opsR fz ns es).1 = [] := by
      cases es with
      | nil => rw [opsR]
      | cons a r =>
        rw [opsR_cons] at h0 ⊢
        split
        · rfl
        · split
          · rfl
          · rename_i h1 h2; rw [if_neg h1, if_neg h2] at h0; exact absurd rfl h0
    simp only [wA, seval, reduceCtorEq, reduceIte, f6, f7, xR_two]
    rw [hn]
    simp [h0]
end Go.Proofs.YtdjcnfacjfnakaaGreat

/- The reference: loops over operands and functions. -/
set_option maxRecDepth 10000
set_option linter.unusedVariables false
set_option linter.unusedSimpArgs false
namespace Go.Proofs.YtdjcnfacjfnakaaGreat
open Go.Pi Go.Lx Go.Ky
variable {gl : Nat → Option (List T)}

/-- The cells of a result under way. -/
abbrev acC (b s : Int) : List PV := [.t (.int .i64 1), .t (.int .i64 0), .t (.int .i64 0), .t (.int .i64 b), .t (.int .i64 s), .t (.int .i64 0)]
abbrev z6C : List PV := [.t (.int .i64 0), .t (.int .i64 0), .t (.int .i64 0), .t (.int .i64 0), .t (.int .i64 0), .t (.int .i64 0)]
abbrev rC (r : Rr) : List PV := [.t (.int .i64 r.t.kind), .t (.int .i64 r.t.bits), .t (.int .i64 r.t.len), .t (.int .i64 r.bits), .t (.int .i64 r.steps), .t (.int .i64 r.err)]
theorem beq_bool (t : Ty) : (t.kind == 2 && (t.bits == 0 && t.len == 0)) = decide (t = boolT) := ty_beq t 2 0 0
set_option maxHeartbeats 1000000 in
theorem loopa41 {rs : List Rr} {x0 x1 : Bool × List PV} {v2 : PV} (hls : rs.length ≤ B20) {ow : Ow} (Q : Ex → S → Prop) : ∀ (l : List Rr) (i : Nat) (a : Ac) (fr : List PV), rs.drop i = l →
    FrAt fr [(2, v2), (3, .lp 0 0), (6, .lp 1 0), (11, .t (.sl false (rs.map tRr))), (13, .lp 2 0), (14, .t (.bool a.sc)), (15, .t (.bool a.bo)), (16, .t (.bool a.ui)), (17, .t (.bool a.sa)), (18, .t (.int .i64 i))] →
    (∀ fr', FrAt fr' [(2, v2), (3, .lp 0 0), (6, .lp 1 0), (11, .t (.sl false (rs.map tRr))), (13, .lp 2 0), (14, .t (.bool (l.foldl (acS (tyR rs 0)) a).sc)), (15, .t (.bool (l.foldl (acS (tyR rs 0)) a).bo)), (16, .t (.bool (l.foldl (acS (tyR rs 0)) a).ui)), (17, .t (.bool (l.foldl (acS (tyR rs 0)) a).sa))] →
      Q (.exit 1) ⟨fr', [x0, x1, (false, acC (l.foldl (acS (tyR rs 0)) a).bits (l.foldl (acS (tyR rs 0)) a).steps)], ow⟩) →
    Xl F gl lb41_2 ⟨fr, [x0, x1, (false, acC a.bits a.steps)], ow⟩ Q ⟨⟩ := by
  intro l
  induction l with
  | nil =>
    intro i a fr hd hf k1
    have hd := drop_nil' hd
    simp only [FrAt_cons, FrAt_nil] at hf
    obtain ⟨f2, f3, f6, f11, f13, f14, f15, f16, f17, f18, -⟩ := hf
    refine Xl.step ?_
    simp only [lb41_2]
    have c1 : ¬ ((i : Int) < (rs.length : Int)) := by omega
    simp only [wA, seval, reduceCtorEq, reduceIte, f11, f18, c1, List.length_map]
    exact k1 _ (by simp only [FrAt_cons, FrAt_nil, wFr, Nat.reduceEqDiff, Nat.one_ne_zero, Nat.zero_ne_one, reduceIte, and_self, and_true, true_and, f2, f3, f6, f11, f13, f14, f15, f16, f17, List.foldl_nil])
  | cons x l ih =>
    intro i a fr hd hf k1
    obtain ⟨hx, hr, hi⟩ := drop_cons hd
    simp only [FrAt_cons, FrAt_nil] at hf
    obtain ⟨f2, f3, f6, f11, f13, f14, f15, f16, f17, f18, -⟩ := hf
    refine Xl.step ?_
    simp only [lb41_2]
    have c1 : (i : Int) < (rs.length : Int) := by omega
    have hb : B20 = 1100000 := rfl
    have hw1 := i64_succ hi (show rs.length ≤ 281474976710656 by omega)
    obtain ⟨r0, hr0⟩ : ∃ r0, rs[0]? = some r0 := ⟨rs[0]'(by omega), List.getElem?_eq_getElem (by omega)⟩
    have ht0 : tyR rs 0 = r0.t := by unfold tyR; rw [List.getD_eq_getElem?_getD, hr0]; rfl
    have h0l : 0 < rs.length := by omega
    have hbq := fun t => beq_bool t
    have hq0 := ty_beq2 x.t r0.t
    rw [List.foldl_cons] at k1
    obtain ⟨ab, as, sc, bo, ui, sa⟩ := a
    simp only at f14 f15 f16 f17
    simp only [wA, seval, reduceCtorEq, reduceIte, f2, f3, f6, f11, f13, f14, f15, f16, f17, f18, c1, hw1, List.length_map, Int.toNat_natCast, hi, h0l, List.getElem?_map, hx, hr0, Option.map_some, ok43, ok44, ok74, ok73, hbq, hq0]
    cases sc
    all_goals
      simp only [wA, seval, reduceCtorEq, reduceIte, f2, f3, f6, f11, f13, f14, f15, f16, f17, f18, c1, hw1, List.length_map, Int.toNat_natCast, hi, h0l, List.getElem?_map, hx, hr0, Option.map_some, ok43, ok44, ok74, ok73, hbq, hq0]
      cases bo
    all_goals
      simp only [wA, seval, reduceCtorEq, reduceIte, f2, f3, f6, f11, f13, f14, f15, f16, f17, f18, c1, hw1, List.length_map, Int.toNat_natCast, hi, h0l, List.getElem?_map, hx, hr0, Option.map_some, ok43, ok44, ok74, ok73, hbq, hq0]
      cases ui
    all_goals
      simp only [wA, seval, reduceCtorEq, reduceIte, f2, f3, f6, f11, f13, f14, f15, f16, f17, f18, c1, hw1, List.length_map, Int.toNat_natCast, hi, h0l, List.getElem?_map, hx, hr0, Option.map_some, ok43, ok44, ok74, ok73, hbq, hq0]
      cases hs : isSc x.t
    all_goals
      try (simp only [wA, seval, reduceCtorEq, reduceIte, f2, f3, f6, f11, f13, f14, f15, f16, f17, f18, c1, hw1, List.length_map, Int.toNat_natCast, hi, h0l, List.getElem?_map, hx, hr0, Option.map_some, ok43, ok44, ok74, ok73, hbq, hq0, hs])
      cases sa
    all_goals
      simp only [wA, seval, reduceCtorEq, reduceIte, f2, f3, f6, f11, f13, f14, f15, f16, f17, f18, c1, hw1, List.length_map, Int.toNat_natCast, hi, h0l, List.getElem?_map, hx, hr0, Option.map_some, ok43, ok44, ok74, ok73, hbq, hq0, hs]
      refine ih (i + 1) (acS (tyR rs 0) ⟨ab, as, _, _, _, _⟩ x) _ hr ?_ k1
      simp only [FrAt_cons, FrAt_nil, wFr, Nat.reduceEqDiff, Nat.one_ne_zero, Nat.zero_ne_one, reduceIte, and_self, and_true, true_and, f2, f3, f6, f11, f13, acS, hs, ht0, Bool.false_and, Bool.true_and, Bool.and_false, Bool.and_true]
end Go.Proofs.YtdjcnfacjfnakaaGreat

/- The reference: calls. -/
set_option maxRecDepth 10000
set_option linter.unusedVariables false
set_option linter.unusedSimpArgs false
namespace Go.Proofs.YtdjcnfacjfnakaaGreat
open Go.Pi Go.Lx Go.Ky
variable {gl : Nat → Option (List T)}

theorem loopc41 {rs : List Rr} {fz : Fz} {fl : Bool} {p : Fu × Int} {kf : Nat} {x0 x2 : Bool × List PV} (hls : rs.length ≤ B20) (hp : fz[kf]? = some p) (hkf : kf < fz.length) (hlp : rs.length = p.1.params.length) {ow : Ow} (Q : Ex → S → Prop) :
    ∀ (l : List Rr) (ps : List Pa) (i : Nat) (fr : List PV), rs.drop i = l → p.1.params.drop i = ps →
    FrAt fr [(2, .t (.sl fl (fz.map tFz))), (3, .lp 0 0), (6, .lp 1 0), (11, .t (.sl false (rs.map tRr))), (13, .lp 2 0), (19, .t (.int .i64 kf)), (20, .t (.int .i64 i))] →
    (fitAll l ps = true → ∀ fr', FrAt fr' [(2, .t (.sl fl (fz.map tFz))), (3, .lp 0 0), (6, .lp 1 0), (11, .t (.sl false (rs.map tRr))), (13, .lp 2 0), (19, .t (.int .i64 kf))] → Q (.exit 6) ⟨fr', [x0, (false, z6C), x2], ow⟩) →
    (fitAll l ps = false → ∀ fr', fget fr' 6 = .lp 1 0 → Q .ret ⟨fr', [x0, (false, rC (failR 6)), x2], ow⟩) →
    Xl F gl lb41_0 ⟨fr, [x0, (false, z6C), x2], ow⟩ Q ⟨⟩ := by
  intro l
  induction l with
  | nil =>
    intro ps i fr hd hd2 hf k1 k2
    have hd := drop_nil' hd
    simp only [FrAt_cons, FrAt_nil] at hf
    obtain ⟨f2, f3, f6, f11, f13, f19, f20, -⟩ := hf
    refine Xl.step ?_
    simp only [lb41_0]
    have c1 : ¬ ((i : Int) < (rs.length : Int)) := by omega
    simp only [wA, seval, reduceCtorEq, reduceIte, f11, f20, c1, List.length_map]
    exact k1 (by simp [fitAll]) _ (by simp only [FrAt_cons, FrAt_nil, wFr, Nat.reduceEqDiff, Nat.one_ne_zero, Nat.zero_ne_one, reduceIte, and_self, and_true, true_and, f2, f3, f6, f11, f13, f19])
  | cons x l ih =>
    intro ps i fr hd hd2 hf k1 k2
    obtain ⟨hx, hr, hi⟩ := drop_cons hd
    simp only [FrAt_cons, FrAt_nil] at hf
    obtain ⟨f2, f3, f6, f11, f13, f19, f20, -⟩ := hf
    refine Xl.step ?_
    simp only [lb41_0]
    have c1 : (i : Int) < (rs.length : Int) := by omega
    have hb : B20 = 1100000 := rfl
    have hw1 := i64_succ hi (show rs.length ≤ 281474976710656 by omega)
    have hip : i < p.1.params.length := by omega
    obtain ⟨q, ps', hps⟩ : ∃ q ps', ps = q :: ps' := by
      cases ps with
      | nil => have := drop_nil' hd2; omega
      | cons q ps' => exact ⟨q, ps', rfl⟩
    subst hps
    obtain ⟨hq, hr2, -⟩ := drop_cons hd2
    rw [fitAll] at k1 k2
    cases hfit : FitM x.t q.ty with
    | true =>
      rw [hfit, Bool.true_and] at k1 k2
      simp only [wA, seval, reduceCtorEq, reduceIte, f2, f3, f6, f11, f13, f19, f20, c1, hw1, List.length_map, Int.toNat_natCast, hi, hip, hkf, List.getElem?_map, hx, hq, hp, Option.map_some, ok42, hfit, Bool.not_true]
      exact ih ps' (i + 1) _ hr hr2 (by simp only [FrAt_cons, FrAt_nil, wFr, Nat.reduceEqDiff, Nat.one_ne_zero, Nat.zero_ne_one, reduceIte, and_self, and_true, true_and, f2, f3, f6, f11, f13, f19]) k1 k2
    | false =>
      rw [hfit, Bool.false_and] at k1 k2
      simp only [wA, seval, reduceCtorEq, reduceIte, f2, f3, f6, f11, f13, f19, f20, c1, hw1, List.length_map, Int.toNat_natCast, hi, hip, hkf, List.getElem?_map, hx, hq, hp, Option.map_some, ok42, hfit, Bool.not_false, ok70]
      exact k2 rfl _ (by simp only [FrAt_cons, FrAt_nil, wFr, Nat.reduceEqDiff, Nat.one_ne_zero, Nat.zero_ne_one, reduceIte, and_self, and_true, true_and, f6])
theorem callR_none {nm : Nm} {l : List Rr} {a : Ac} : ∀ {fz : Fz}, fz.any (fun p => decide (p.1.name = nm)) = false → callR nm l a fz = failR 4
  | [], _ => rfl
  | p :: r, h => by
    simp only [List.any_cons, Bool.or_eq_false_iff, decide_eq_false_iff_not] at h
    rw [callR, if_pos h.1]
    exact callR_none h.2
set_option maxHeartbeats 1000000 in
theorem loopb41 {rs : List Rr} {fz : Fz} {fl : Bool} {op val : Int} {nm : Nm} {args : T} {a : Ac} (hls : rs.length ≤ B20) (hlf : fz.length ≤ B20) (hlp : ∀ p, p ∈ fz → p.1.params.length ≤ B20) {ow : Ow} (Q : Ex → S → Prop) :
    ∀ (l : Fz) (i : Nat) (fr : List PV), fz.drop i = l →
    FrAt fr [(2, .t (.sl fl (fz.map tFz))), (3, .lp 0 0), (6, .lp 1 0), (11, .t (.sl false (rs.map tRr))), (13, .lp 2 0), (19, .t (.int .i64 i))] →
    (l.any (fun p => decide (p.1.name = nm)) = false → ∀ fr', FrAt fr' [(6, .lp 1 0)] → Q (.exit 4) ⟨fr', [(false, [.t (.int .i64 op), .t (.int .u64 val), .t (.str nm), .t args]), (false, z6C), (false, acC a.bits a.steps)], ow⟩) →
    (l.any (fun p => decide (p.1.name = nm)) = true → ∀ fr' x2, fget fr' 6 = .lp 1 0 → Q .ret ⟨fr', [(false, [.t (.int .i64 op), .t (.int .u64 val), .t (.str nm), .t args]), (false, rC (callR nm rs a l)), x2], ow⟩) →
    Xl F gl lb41_1 ⟨fr, [(false, [.t (.int .i64 op), .t (.int .u64 val), .t (.str nm), .t args]), (false, z6C), (false, acC a.bits a.steps)], ow⟩ Q ⟨⟩ := by
  intro l
  induction l with
  | nil =>
    intro i fr hd hf k1 k2
    have hd := drop_nil' hd
    simp only [FrAt_cons, FrAt_nil] at hf
    obtain ⟨f2, f3, f6, f11, f13, f19, -⟩ := hf
    refine Xl.step ?_
    simp only [lb41_1]
    have c1 : ¬ ((i : Int) < (fz.length : Int)) := by omega
    simp only [wA, seval, reduceCtorEq, reduceIte, f2, f19, c1, List.length_map]
    exact k1 rfl _ (by simp only [FrAt_cons, FrAt_nil, wFr, Nat.reduceEqDiff, Nat.one_ne_zero, Nat.zero_ne_one, reduceIte, and_self, and_true, true_and, f6])
  | cons p l ih =>
    intro i fr hd hf k1 k2
    obtain ⟨hx, hr, hi⟩ := drop_cons hd
    simp only [FrAt_cons, FrAt_nil] at hf
    obtain ⟨f2, f3, f6, f11, f13, f19, -⟩ := hf
    refine Xl.step ?_
    simp only [lb41_1]
    have c1 : (i : Int) < (fz.length : Int) := by omega
    have hb : B20 = 1100000 := rfl
    have hw1 := i64_succ hi (show fz.length ≤ 281474976710656 by omega)
    have hlq := hlp p (List.mem_of_getElem? hx)
    rw [List.any_cons] at k1 k2
    by_cases hn : p.1.name = nm
    · have hb1 : (p.1.name == nm) = true := by simpa using hn
      have hn' : (p.1.name = nm) = True := eq_true hn
      rw [decide_eq_true hn, Bool.true_or] at k1 k2
      have hcR : callR nm rs a (p :: l) = if (rs.length : Int) ≠ (p.1.params.length : Int) then failR 6 else if fitAll rs p.1.params = false then failR 6 else ⟨p.1.res, a.bits, capM (IntKind.i64.wrap (IntKind.i64.wrap (a.steps + 1) + p.2)), 0⟩ := by rw [callR, if_neg (by simpa using hn)]
      rw [hcR] at k2
      by_cases hl : (rs.length : Int) = (p.1.params.length : Int)
      · have hl' : ((rs.length : Int) = (p.1.params.length : Int)) = True := eq_true hl
        rw [if_neg (fun h => h hl)] at k2
        simp only [wA, seval, reduceCtorEq, reduceIte, f2, f3, f6, f11, f13, f19, c1, hw1, List.length_map, Int.toNat_natCast, hi, List.getElem?_map, hx, Option.map_some, hn', hb1, hl']
        refine loopc41 hls hx hi (by omega) _ rs p.1.params 0 _ rfl rfl (by simp only [FrAt_cons, FrAt_nil, wFr, Nat.reduceEqDiff, Nat.one_ne_zero, Nat.zero_ne_one, reduceIte, and_self, and_true, true_and, f2, f3, f6, f11, f13, f19]; first | done | exact ⟨rfl, rfl⟩ | rfl) ?_ ?_
        · intro hfit fr' hf'
          simp only [FrAt_cons, FrAt_nil] at hf'
          obtain ⟨f2, f3, f6, f11, f13, f19, -⟩ := hf'
          rw [hfit, if_neg (by simp)] at k2
          simp only [wA, seval, reduceCtorEq, reduceIte, f2, f3, f6, f11, f13, f19, c1, hw1, List.length_map, Int.toNat_natCast, hi, List.getElem?_map, hx, Option.map_some, ok44]
          exact k2 rfl _ _ (by simp only [FrAt_cons, FrAt_nil, wFr, Nat.reduceEqDiff, Nat.one_ne_zero, Nat.zero_ne_one, reduceIte, and_self, and_true, true_and, f6])
        · intro hfit fr' f6
          rw [hfit, if_pos rfl] at k2
          exact k2 rfl _ _ f6
      · have hl' : ((rs.length : Int) = (p.1.params.length : Int)) = False := eq_false hl
        rw [if_pos hl] at k2
        simp only [wA, seval, reduceCtorEq, reduceIte, f2, f3, f6, f11, f13, f19, c1, hw1, List.length_map, Int.toNat_natCast, hi, List.getElem?_map, hx, Option.map_some, hn', hb1, hl', ok70]
        exact k2 rfl _ _ (by simp only [FrAt_cons, FrAt_nil, wFr, Nat.reduceEqDiff, Nat.one_ne_zero, Nat.zero_ne_one, reduceIte, and_self, and_true, true_and, f6])
    · have hb1 : (p.1.name == nm) = false := by simpa using hn
      have hn' : (p.1.name = nm) = False := eq_false hn
      rw [decide_eq_false hn, Bool.false_or] at k1 k2
      have hcR : callR nm rs a (p :: l) = callR nm rs a l := by rw [callR, if_pos hn]
      rw [hcR] at k2
      simp only [wA, seval, reduceCtorEq, reduceIte, f2, f3, f6, f11, f13, f19, c1, hw1, List.length_map, Int.toNat_natCast, hi, List.getElem?_map, hx, Option.map_some, hn', hb1]
      exact ih (i + 1) _ hr (by simp only [FrAt_cons, FrAt_nil, wFr, Nat.reduceEqDiff, Nat.one_ne_zero, Nat.zero_ne_one, reduceIte, and_self, and_true, true_and, f2, f3, f6, f11, f13]) k1 k2
end Go.Proofs.YtdjcnfacjfnakaaGreat
