/- The parser: a new one. -/
import Derived.Test.YtcbgiabippcpaaaGreatDoorM21
import Derived.Test.YtcbgiabippcpaaaGreatDoorKx42
set_option maxRecDepth 10000
set_option linter.unusedVariables false
set_option linter.unusedSimpArgs false
namespace Go.Proofs.YtcbgiabippcpaaaGreatDoor
open Go.Pi Go.Lx Go.Ky
variable {gl : Nat → Option (List T)}

theorem resV_nil : resV [] = .tup [.t (.sl false ([⟨0, [], 0, 0⟩].map tTok)), .t (.int .i64 0), .t (.int .i64 0)] := by
  refine resV_toks (by decide) ?_
  rw [lexR_end rfl]
  rfl
theorem err_ne : ∀ (n : Nat) (s : List UInt8) (pos p e : Nat), s.length = n → lexR pos s = .err p e → e ≠ 0 := by
  intro n
  induction n using Nat.strongRecOn with
  | _ n ih =>
    intro s pos p e hs h
    rcases lex_cases s with h1 | ⟨h1, ⟨e', hn⟩ | ⟨k, m, v, hn⟩⟩
    · rw [lexR_end h1] at h; cases h
    · rw [lexR_err h1 hn] at h
      injection h with h2 h3
      have := next_err hn
      omega
    · rw [lexR_ok h1 hn] at h
      have hp := next_pos hn
      have hl : (s.drop (gap s + m)).length < n := by simp only [List.length_drop] at hp ⊢; omega
      cases hq : lexR (pos + gap s + m) (s.drop (gap s + m)) with
      | toks q => rw [hq] at h; cases h
      | err p' e'' =>
        rw [hq] at h
        injection h with h2 h3
        rw [← h3]
        exact ih _ hl _ _ _ _ rfl hq
set_option maxHeartbeats 1000000 in
theorem ok18 (hg : GlOk gl) (s : List UInt8) {sg : Sg} {ow : Ow} : CallE F gl 18 [.t (.str s)] sg ow fun v sg' ow' => v = .lp sg.length 0 ∧ sg' = sg ++ [(false, psC (st0 (tokP s).1) (tokP s).2.1 (tokP s).2.2)] ∧ ow' = ow := by
  refine XcE.of F18 rfl ?_
  simp only [ir18]
  by_cases hb : 16384 < s.length
  · have hT : tokP s = ([⟨0, [], 0, 0⟩], 3, 0) := by rw [tokP, if_pos hb]
    have sl : sliceS (.t (.str s)) none (some (.t (.int .i64 0))) = some (.t (.str [])) := by
      have := slice_to (s := s) (n := 0) (Nat.zero_le _)
      rw [List.take_zero] at this
      exact this
    rw [hT]
    simp only [wA, seval, reduceCtorEq, reduceIte, ok53 hg, resV_big hb, resV_nil, sl]
    rfl
  · cases hl : lexR 0 s with
    | toks l =>
      have hT : tokP s = (l, 0, 0) := by rw [tokP, if_neg hb]; simp only [hl]
      rw [hT]
      simp only [wA, seval, reduceCtorEq, reduceIte, ok53 hg, resV_toks hb hl]
      rfl
    | err p e =>
      obtain ⟨k, l, h1, h2, h3⟩ := lex_ahead _ _ _ _ _ rfl hl
      rw [Nat.zero_add] at h1
      subst h1
      have hT : tokP s = (l, (e : Int), (p : Int)) := by rw [tokP, if_neg hb]; simp only [hl, h3]
      have he := err_ne _ _ _ _ _ rfl hl
      have he' : ((e : Int) = 0) = False := eq_false (by omega)
      have hb2 : ¬ 16384 < (s.take p).length := by rw [List.length_take]; omega
      rw [hT]
      simp only [wA, seval, reduceCtorEq, reduceIte, ok53 hg, resV_err hb hl, resV_toks hb2 h3, slice_to h2, he']
      rfl
end Go.Proofs.YtcbgiabippcpaaaGreatDoor
