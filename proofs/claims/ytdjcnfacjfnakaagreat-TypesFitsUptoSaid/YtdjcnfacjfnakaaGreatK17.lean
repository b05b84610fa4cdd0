/- Contracts: statements. -/
import Derived.Test.YtdjcnfacjfnakaaGreatK13
import Derived.Test.YtdjcnfacjfnakaaGreatKx27
import Derived.Test.YtdjcnfacjfnakaaGreatKx27
set_option maxRecDepth 10000
set_option linter.unusedVariables false
set_option linter.unusedSimpArgs false
namespace Go.Proofs.YtdjcnfacjfnakaaGreat
open Go.Pi Go.Lx Go.Ky Go.Lib
variable {gl : Nat → Option (List T)}

/-- What the checker says of a statement. -/
def StSpec (gl : Nat → Option (List T)) (fs : Fs) (s : St) : Prop :=
  ∀ (sg : Sg) (c f n : Nat) (ns : Ns) (od : PV) (w : Int) (ow : Ow), Cs sg c f n fs ns od w → ns.length + szS s ≤ 2 * B20 → CallE F gl 149 [.lp c 0, .t (.agg (tSt s))] sg ow fun v sg' ow' => Post c f n fs od sg (stM fs s ns w) v sg'
theorem loop106 {fs : Fs} {ls : List St} {nl : Bool} (hls : ls.length ≤ B20) (hrec : ∀ s, s ∈ ls → StSpec gl fs s) {c f n : Nat} {m : Nat} {od0 : PV} {sg0 : Sg} (Q : Ex → S → Prop) : ∀ (l : List St) (i : Nat) (ns : Ns) (od : PV) (w : Int) (fr : List PV) (sg : Sg) (ow : Ow), ls.drop i = l → Cs sg c f n fs ns od w → Fq c n od0 od sg0 sg → ns.length + szSs l ≤ 2 * B20 →
    FrAt fr [(0, .lp c 0), (5, .t (.int .i64 m)), (14, .t (.sl nl (tSts ls))), (15, .t (.int .i64 ls.length)), (16, .t (.int .i64 i))] →
    ((stsM fs l ns w).1 = 0 → ∀ fr' sg' ow' od', Cs sg' c f n fs (stsM fs l ns w).2.1 od' (stsM fs l ns w).2.2 → Fq c n od0 od' sg0 sg' → FrAt fr' [(0, .lp c 0), (5, .t (.int .i64 m))] → Q (.exit 0) ⟨fr', sg', ow'⟩) →
    ((stsM fs l ns w).1 ≠ 0 → ∀ fr' sg' ow', fget fr' 4 = .t (.int .i64 (stsM fs l ns w).1) → Q .ret ⟨fr', sg', ow'⟩) →
    Xl F gl lb106_0 ⟨fr, sg, ow⟩ Q ⟨⟩ := by
  intro l
  induction l with
  | nil =>
    intro i ns od w fr sg ow hd hk hq hsz hf k1 k2
    have hd := drop_nil' hd
    simp only [FrAt_cons, FrAt_nil] at hf
    obtain ⟨f0, f5, f14, f15, f16, -⟩ := hf
    refine Xl.step ?_
    simp only [lb106_0]
    have c1 : ¬ ((i : Int) < (ls.length : Int)) := by omega
    have hem : stsM fs [] ns w = (0, ns, w) := by rw [stsM]
    rw [hem] at k1
    simp only [wA, seval, reduceCtorEq, reduceIte, f0, f5, f14, f15, f16, c1]
    exact k1 rfl _ _ _ od hk hq (by simp only [FrAt_cons, FrAt_nil, wFr, Nat.reduceEqDiff, Nat.one_ne_zero, Nat.zero_ne_one, reduceIte, and_self, and_true, true_and, f0, f5])
  | cons x l ih =>
    intro i ns od w fr sg ow hd hk hq hsz hf k1 k2
    obtain ⟨hx, hr, hi⟩ := drop_cons hd
    simp only [FrAt_cons, FrAt_nil] at hf
    obtain ⟨f0, f5, f14, f15, f16, -⟩ := hf
    refine Xl.step ?_
    simp only [lb106_0]
    have c1 : (i : Int) < (ls.length : Int) := by omega
    have hw1 := i64_succ hi (show ls.length ≤ 281474976710656 by have : B20 = 1100000 := rfl; omega)
    rw [stsM_cons] at k1 k2
    rw [szSs_cons] at hsz
    have hs := fun r => hrec x (List.mem_of_getElem? hx) (sg ++ r) c f n ns od w ow (hk.grow (.app _ _)) (by omega)
    simp only [tSt_eq] at hs
    simp only [wA, seval, reduceCtorEq, reduceIte, f0, f5, f14, f15, f16, c1, hw1, Int.toNat_natCast, hi, tSts_get, hx, Option.map_some, tSt_eq]
    refine CallE.mono (hs _) ?_
    rintro v sg' ow' ⟨rfl, hp⟩
    by_cases he : (stM fs x ns w).1 = 0
    · obtain ⟨od', hk', hq'⟩ := hp he
      rw [if_neg (by simpa using he)] at k1 k2
      simp only [wA, seval, reduceCtorEq, reduceIte, f0, f5, f14, f15, f16, hw1, he]
      obtain ⟨r, hr1, hr2⟩ := stM_ext fs x ns w he
      have hsx : 1 ≤ szS x := by rw [szS_eq]; omega
      refine ih (i + 1) _ od' _ _ _ _ hr hk' (hq.trans ((Fq.of (Fr.of (.app _ _))).trans hq')) (by rw [hr1, List.length_append]; omega) (by simp only [FrAt_cons, FrAt_nil, wFr, Nat.reduceEqDiff, Nat.one_ne_zero, Nat.zero_ne_one, reduceIte, and_self, and_true, true_and, f0, f5, f14, f15]) k1 k2
    · rw [if_pos (by simpa using he)] at k1 k2
      simp only [wA, seval, reduceCtorEq, reduceIte, f0, f5, f14, f15, f16, he]
      exact k2 he _ _ _ (by simp only [FrAt_cons, FrAt_nil, wFr, Nat.reduceEqDiff, Nat.one_ne_zero, Nat.zero_ne_one, reduceIte, and_self, and_true, true_and])
theorem ok106 {fs : Fs} {ls : List St} {nl : Bool} (hls : ls.length ≤ B20) (hrec : ∀ s, s ∈ ls → StSpec gl fs s) {c f n : Nat} {ns : Ns} {od : PV} {w : Int} {sg : Sg} (hk : Cs sg c f n fs ns od w) (hsz : ns.length + szSs ls ≤ 2 * B20) (ow : Ow) :
    CallE F gl 106 [.lp c 0, .t (.sl nl (tSts ls))] sg ow fun v sg' ow' => Post c f n fs od sg (bodyM fs ls ns w) v sg' := by
  refine XcE.of F106 rfl ?_
  simp only [ir106]
  have hc := hk.ck.c
  have hol := hk.od.len
  have hb : B20 = 1100000 := rfl
  have hb2 : B47 = 140737488355328 := rfl
  rw [bodyM_eq]
  have hn0 : ns.length ≤ 2 * B20 := by omega
  rcases hk.od.2 with ⟨rfl, rfl⟩ | ⟨oid, cs, rfl, o1, o2, o3⟩
  · simp only [wA, seval, reduceCtorEq, reduceIte, hc, tSts_len, List.length_nil]
    refine loop106 hls hrec (m := 0) (od0 := (.t (.sl true []))) (sg0 := sg) _ ls 0 [] (.t (.sl true [])) w _ _ _ rfl hk (Fq.refl _ _ _ _) hsz (by simp only [FrAt_cons, FrAt_nil, wFr, Nat.reduceEqDiff, Nat.one_ne_zero, Nat.zero_ne_one, reduceIte, and_self, and_true, true_and, List.length_nil]; first | done | exact ⟨rfl, rfl⟩ | rfl) ?_ ?_
    · intro h0 fr' sg' ow' od' hk' hq' hf
      rw [if_neg (by simpa using h0)]
      simp only [FrAt_cons, FrAt_nil] at hf
      obtain ⟨f0, f5, -⟩ := hf
      obtain ⟨r, hr1, hr2⟩ := stsM_ext fs ls [] w h0
      rw [hr1] at hk'
      simp only [wA, seval, reduceCtorEq, reduceIte, f0, f5]
      refine CallE.mono (ok152 hk' (by rw [List.length_append]; have := @List.length_nil (Nm × Sy); omega) (m := 0) (by rw [List.length_append]; have := @List.length_nil (Nm × Sy); omega) ow') ?_
      rintro v2 sg2 ow2 ⟨od2, hk2, hq2⟩
      rw [List.take_zero] at hk2
      simp only [wA, seval, reduceCtorEq, reduceIte, f0, f5]
      exact ⟨rfl, fun _ => ⟨od2, hk2, hq'.trans hq2⟩⟩
    · intro h0 fr' sg' ow' f4
      rw [if_pos (by simpa using h0)]
      simp only [wA, seval, reduceCtorEq, reduceIte, f4]
      exact ⟨rfl, fun e => absurd e h0⟩
  · simp only [wA, seval, reduceCtorEq, reduceIte, hc, tSts_len, List.length_nil]
    refine loop106 hls hrec (m := ns.length) (od0 := (.bf oid ns.length 1)) (sg0 := sg) _ ls 0 ns (.bf oid ns.length 1) w _ _ _ rfl hk (Fq.refl _ _ _ _) hsz (by simp only [FrAt_cons, FrAt_nil, wFr, Nat.reduceEqDiff, Nat.one_ne_zero, Nat.zero_ne_one, reduceIte, and_self, and_true, true_and, List.length_nil]; first | done | exact ⟨rfl, rfl⟩ | rfl) ?_ ?_
    · intro h0 fr' sg' ow' od' hk' hq' hf
      rw [if_neg (by simpa using h0)]
      simp only [FrAt_cons, FrAt_nil] at hf
      obtain ⟨f0, f5, -⟩ := hf
      obtain ⟨r, hr1, hr2⟩ := stsM_ext fs ls ns w h0
      rw [hr1] at hk'
      simp only [wA, seval, reduceCtorEq, reduceIte, f0, f5]
      refine CallE.mono (ok152 hk' (by rw [List.length_append]; have := hn0; omega) (m := ns.length) (by rw [List.length_append]; have := hn0; omega) ow') ?_
      rintro v2 sg2 ow2 ⟨od2, hk2, hq2⟩
      rw [List.take_left] at hk2
      simp only [wA, seval, reduceCtorEq, reduceIte, f0, f5]
      exact ⟨rfl, fun _ => ⟨od2, hk2, hq'.trans hq2⟩⟩
    · intro h0 fr' sg' ow' f4
      rw [if_pos (by simpa using h0)]
      simp only [wA, seval, reduceCtorEq, reduceIte, f4]
      exact ⟨rfl, fun e => absurd e h0⟩
theorem ok185 {fs : Fs} {s : St} (h3 : s.kind = 3) (hsz0 : szS s ≤ B20) (hrec : ∀ b, b ∈ s.body → StSpec gl fs b) {c f n : Nat} {ns : Ns} {od : PV} {w : Int} {sg : Sg} (hk : Cs sg c f n fs ns od w) (hsz : ns.length + szS s ≤ 2 * B20) (ow : Ow) :
    CallE F gl 185 [.lp c 0, .t (.agg (tSt s))] sg ow fun v sg' ow' => Post c f n fs od sg (stM fs s ns w) v sg' := by
  refine XcE.of F185 rfl ?_
  simp only [ir185]
  have hcl := lt_of_get hk.ck.c
  have hc := hk.ck.c
  have hb : B20 = 1100000 := rfl
  have hb2 : B47 = 140737488355328 := rfl
  have hsz2 := hsz0
  rw [szS_eq] at hsz hsz2
  have hbl : s.body.length ≤ B20 := by have := szSs_len s.body; omega
  by_cases hlh : s.lo > s.hi
  · rw [stM_loop h3, if_pos hlh]
    simp only [wA, seval, reduceCtorEq, reduceIte, tSt_eq, hlh]
    exact ⟨rfl, fun h => by cases h⟩
  have hdec := fun r o => ok104 (gl := gl) (hk.grow (.app sg r)) s.name ⟨fieldT, true, s.lo, s.hi⟩ (by omega) o
  rcases hk.od.2 with ⟨rfl, rfl⟩ | ⟨oid, cs, rfl, o1, o2, o3⟩
  · simp only [wA, seval, reduceCtorEq, reduceIte, tSt_eq, hlh, app_get hcl, hc, ok186, List.length_nil]
    refine CallE.mono (hdec _ _) ?_
    rintro v sg1 ow1 ⟨rfl, hp1⟩
    by_cases hd : (decM s.name ⟨fieldT, true, s.lo, s.hi⟩ [] w).1 = 0
    · obtain ⟨od1, hk1, hq1⟩ := hp1 hd
      have hqe := decM_ext hd
      rw [hqe] at hk1
      have j3 := hq1.get (i := sg.length) (v := (false, [.t (.int .i64 s.kind), .t (.str s.name), .t (.bool s.typed), .t (.int .i64 s.ty.kind), .t (.int .i64 s.ty.bits), .t (.int .i64 s.ty.len), .t (.int .i64 s.ex.op), .t (.int .u64 s.ex.val), .t (.str s.ex.name), .t (.sl s.ex.nl (tExs s.ex.args)), .t (.int .i64 s.lo), .t (.int .i64 s.hi), .t (.sl s.nl (tSts s.body))])) (by simp) (by omega) (by have := lt_of_get hk.ck.n; omega) (hk.notB2 (Nat.le_refl _))
      simp only [wA, seval, reduceCtorEq, reduceIte, j3, List.length_nil, hd]
      refine CallE.mono (ok106 hbl hrec hk1 (by simp only [List.length_append, List.length_cons, List.length_nil]; simp only [List.length_nil] at hsz; omega) _) ?_
      rintro v sg2 ow2 ⟨rfl, hp2⟩
      by_cases hb0 : (stsM fs s.body ([] ++ [(s.name, ⟨fieldT, true, s.lo, s.hi⟩)]) w).1 = 0
      · have hM : stM fs s [] w = (0, [], (stsM fs s.body ([] ++ [(s.name, ⟨fieldT, true, s.lo, s.hi⟩)]) w).2.2) := by
          rw [stM_loop h3, if_neg hlh, if_neg (by simpa using hd), hqe, if_neg (by simpa using hb0)]
        rw [hM]
        have hB : bodyM fs s.body ([] ++ [(s.name, ⟨fieldT, true, s.lo, s.hi⟩)]) w = (0, [] ++ [(s.name, ⟨fieldT, true, s.lo, s.hi⟩)], (stsM fs s.body ([] ++ [(s.name, ⟨fieldT, true, s.lo, s.hi⟩)]) w).2.2) := by
          rw [bodyM_eq, if_neg (by simpa using hb0)]
        rw [hB] at hp2 ⊢
        obtain ⟨od2, hk2, hq2⟩ := hp2 rfl
        simp only [wA, seval, reduceCtorEq, reduceIte, hb0]
        refine CallE.mono (ok152 hk2 (m := 0) (by simp only [List.length_append, List.length_cons, List.length_nil]; simp only [List.length_nil] at hsz; omega) (by simp) ow2) ?_
        rintro v sg3 ow3 ⟨od3, hk3, hq3⟩
        rw [List.take_zero] at hk3
        simp only [wA, seval, reduceCtorEq, reduceIte]
        exact ⟨rfl, fun _ => ⟨od3, hk3, ((Fq.of (Fr.of (.app _ _))).trans hq1).trans (hq2.trans hq3)⟩⟩
      · have hM : stM fs s [] w = stsM fs s.body ([] ++ [(s.name, ⟨fieldT, true, s.lo, s.hi⟩)]) w := by
          rw [stM_loop h3, if_neg hlh, if_neg (by simpa using hd), hqe, if_pos (by simpa using hb0)]
        rw [hM]
        have hB : bodyM fs s.body ([] ++ [(s.name, ⟨fieldT, true, s.lo, s.hi⟩)]) w = stsM fs s.body ([] ++ [(s.name, ⟨fieldT, true, s.lo, s.hi⟩)]) w := by
          rw [bodyM_eq, if_pos (by simpa using hb0)]
        rw [hB]
        generalize stsM fs s.body ([] ++ [(s.name, ⟨fieldT, true, s.lo, s.hi⟩)]) w = qq at hb0 ⊢
        simp only [wA, seval, reduceCtorEq, reduceIte, hb0]
        exact ⟨rfl, fun e => absurd e hb0⟩
    · have hM : stM fs s [] w = decM s.name ⟨fieldT, true, s.lo, s.hi⟩ [] w := by
        rw [stM_loop h3, if_neg hlh, if_pos (by simpa using hd)]
      rw [hM]
      simp only [wA, seval, reduceCtorEq, reduceIte, hd]
      exact ⟨rfl, fun e => absurd e hd⟩
  · simp only [wA, seval, reduceCtorEq, reduceIte, tSt_eq, hlh, app_get hcl, hc, ok186, List.length_nil]
    refine CallE.mono (hdec _ _) ?_
    rintro v sg1 ow1 ⟨rfl, hp1⟩
    by_cases hd : (decM s.name ⟨fieldT, true, s.lo, s.hi⟩ ns w).1 = 0
    · obtain ⟨od1, hk1, hq1⟩ := hp1 hd
      have hqe := decM_ext hd
      rw [hqe] at hk1
      have j3 := hq1.get (i := sg.length) (v := (false, [.t (.int .i64 s.kind), .t (.str s.name), .t (.bool s.typed), .t (.int .i64 s.ty.kind), .t (.int .i64 s.ty.bits), .t (.int .i64 s.ty.len), .t (.int .i64 s.ex.op), .t (.int .u64 s.ex.val), .t (.str s.ex.name), .t (.sl s.ex.nl (tExs s.ex.args)), .t (.int .i64 s.lo), .t (.int .i64 s.hi), .t (.sl s.nl (tSts s.body))])) (by simp) (by omega) (by have := lt_of_get hk.ck.n; omega) (hk.notB2 (Nat.le_refl _))
      simp only [wA, seval, reduceCtorEq, reduceIte, j3, List.length_nil, hd]
      refine CallE.mono (ok106 hbl hrec hk1 (by simp only [List.length_append, List.length_cons, List.length_nil]; omega) _) ?_
      rintro v sg2 ow2 ⟨rfl, hp2⟩
      by_cases hb0 : (stsM fs s.body (ns ++ [(s.name, ⟨fieldT, true, s.lo, s.hi⟩)]) w).1 = 0
      · have hM : stM fs s ns w = (0, ns, (stsM fs s.body (ns ++ [(s.name, ⟨fieldT, true, s.lo, s.hi⟩)]) w).2.2) := by
          rw [stM_loop h3, if_neg hlh, if_neg (by simpa using hd), hqe, if_neg (by simpa using hb0)]
        rw [hM]
        have hB : bodyM fs s.body (ns ++ [(s.name, ⟨fieldT, true, s.lo, s.hi⟩)]) w = (0, ns ++ [(s.name, ⟨fieldT, true, s.lo, s.hi⟩)], (stsM fs s.body (ns ++ [(s.name, ⟨fieldT, true, s.lo, s.hi⟩)]) w).2.2) := by
          rw [bodyM_eq, if_neg (by simpa using hb0)]
        rw [hB] at hp2 ⊢
        obtain ⟨od2, hk2, hq2⟩ := hp2 rfl
        simp only [wA, seval, reduceCtorEq, reduceIte, hb0]
        refine CallE.mono (ok152 hk2 (m := ns.length) (by simp only [List.length_append, List.length_cons, List.length_nil]; omega) (by simp) ow2) ?_
        rintro v sg3 ow3 ⟨od3, hk3, hq3⟩
        rw [List.take_left] at hk3
        simp only [wA, seval, reduceCtorEq, reduceIte]
        exact ⟨rfl, fun _ => ⟨od3, hk3, ((Fq.of (Fr.of (.app _ _))).trans hq1).trans (hq2.trans hq3)⟩⟩
      · have hM : stM fs s ns w = stsM fs s.body (ns ++ [(s.name, ⟨fieldT, true, s.lo, s.hi⟩)]) w := by
          rw [stM_loop h3, if_neg hlh, if_neg (by simpa using hd), hqe, if_pos (by simpa using hb0)]
        rw [hM]
        have hB : bodyM fs s.body (ns ++ [(s.name, ⟨fieldT, true, s.lo, s.hi⟩)]) w = stsM fs s.body (ns ++ [(s.name, ⟨fieldT, true, s.lo, s.hi⟩)]) w := by
          rw [bodyM_eq, if_pos (by simpa using hb0)]
        rw [hB]
        generalize stsM fs s.body (ns ++ [(s.name, ⟨fieldT, true, s.lo, s.hi⟩)]) w = qq at hb0 ⊢
        simp only [wA, seval, reduceCtorEq, reduceIte, hb0]
        exact ⟨rfl, fun e => absurd e hb0⟩
    · have hM : stM fs s ns w = decM s.name ⟨fieldT, true, s.lo, s.hi⟩ ns w := by
        rw [stM_loop h3, if_neg hlh, if_pos (by simpa using hd)]
      rw [hM]
      simp only [wA, seval, reduceCtorEq, reduceIte, hd]
      exact ⟨rfl, fun e => absurd e hd⟩
theorem ok149 {fs : Fs} : ∀ s, StOk s → stB s = true → szS s ≤ B20 → StSpec gl fs s := by
  refine St.ind fun s ih hok hB hsz0 => ?_
  intro sg c f n ns od w ow hk hsz
  refine XcE.of F149 rfl ?_
  simp only [ir149]
  have hcl := lt_of_get hk.ck.c
  have hb : B20 = 1100000 := rfl
  have hb2 : B47 = 140737488355328 := rfl
  by_cases h3 : s.kind = 3
  · have hrec : ∀ b, b ∈ s.body → StSpec gl fs b := fun b hb => ih b hb (stOk_body hok b hb) (stB_body hB h3 b hb) ((szS_body hsz0).2 b hb)
    have hq := fun r => ok185 (gl := gl) h3 hsz0 hrec (hk.grow (.app sg r)) hsz ow
    simp only [tSt_eq, h3] at hq
    simp only [wA, seval, reduceCtorEq, reduceIte, tSt_eq, h3]
    refine CallE.mono (hq _) ?_
    rintro v sg1 ow1 ⟨rfl, hp⟩
    simp only [wA, seval, reduceCtorEq, reduceIte]
    exact ⟨rfl, fun e => by obtain ⟨od', h1, h2⟩ := hp e; exact ⟨od', h1, (Fq.of (Fr.of (.app _ _))).trans h2⟩⟩
  have hex := fun r => ok150 (gl := gl) (fs := fs) (ns := ns) s.ex (stOk_ex hok) (Nat.le_trans (szS_ex s) hsz0) (stB_ex hB h3) (sg ++ r) c f n od w ow (hk.ck.grow (.app _ _))
  simp only [tEx_eq] at hex
  simp only [wA, seval, reduceCtorEq, reduceIte, tSt_eq, h3]
  refine CallE.mono (hex _) ?_
  rintro v sg1 ow1 ⟨rfl, hc1, hfr1⟩
  have hF : Fr c sg sg1 := (Fr.of (.app _ _)).trans hfr1
  have hk1 := hk.fr hF hc1
  have j3 := hfr1.get (i := sg.length) (x := (false, [.t (.int .i64 s.kind), .t (.str s.name), .t (.bool s.typed), .t (.int .i64 s.ty.kind), .t (.int .i64 s.ty.bits), .t (.int .i64 s.ty.len), .t (.int .i64 s.ex.op), .t (.int .u64 s.ex.val), .t (.str s.ex.name), .t (.sl s.ex.nl (tExs s.ex.args)), .t (.int .i64 s.lo), .t (.int .i64 s.hi), .t (.sl s.nl (tSts s.body))])) (by simp) (by omega)
  have m3 := lt_of_get j3
  rw [stM_let h3]
  generalize exM fs ns s.ex w = q at *
  obtain ⟨⟨t, er⟩, w1⟩ := q
  simp only at hc1 hk1 ⊢
  by_cases he : er = 0
  · subst he
    rw [if_neg (by simp)]
    by_cases h2 : s.kind = 2
    · rw [if_pos h2]
      simp only [wA, seval, reduceCtorEq, reduceIte, h2, app_get m3, j3, ok186]
      repeat' ((with_reducible first | refine xG_dec ?_ ?_ | refine xG_ndec ?_ ?_ | refine xG_nsplit ?_ ?_ | refine xG_split ?_ ?_ | refine xC_dec ?_ ?_ | refine xC_ndec ?_ ?_ | refine xC_nsplit ?_ ?_ | refine xC_split ?_ ?_) <;> intro h <;> (try simp only [wA, seval, reduceCtorEq, reduceIte, h2, app_get m3, j3, ok186, h]))
      · rw [ty_beq] at h
        rw [if_neg (fun e => e (of_decide_eq_true h))]
        exact ⟨rfl, fun _ => ⟨od, hk1.grow (.app _ _), Fq.of (hF.app _)⟩⟩
      · rw [ty_beq] at h
        rw [if_pos (show t ≠ boolT from of_decide_eq_false h)]
        exact ⟨rfl, fun e => by cases e⟩
    · rw [if_neg h2]
      cases hty : s.typed with
      | false =>
        have hdec := fun r => ok104 (gl := gl) (hk1.grow (.app sg1 r)) s.name ⟨t, false, 0, 0⟩ (by omega) ow1
        rw [if_neg (by simp)]
        simp only [wA, seval, reduceCtorEq, reduceIte, h2, app_get m3, j3, hty]
        refine CallE.mono (hdec _) ?_
        rintro v sg2 ow2 ⟨rfl, hp⟩
        simp only [wA, seval, reduceCtorEq, reduceIte]
        exact ⟨rfl, fun e => by obtain ⟨od', x1, x2⟩ := hp e; exact ⟨od', x1, (Fq.of (hF.app _)).trans x2⟩⟩
      | true =>
        rw [if_pos rfl]
        by_cases tl : s.ty.len = 0
        · have tl' : (s.ty.len = 0) = True := eq_true tl
          by_cases t0 : t.len = 0
          · have hnt := fun r => ok105 (gl := gl) (hk1.ck.grow (.app sg1 r)) s.ty ow1
            have t0' : (t.len = 0) = True := eq_true t0
            rw [if_neg (by simp [tl, t0])]
            simp only [wA, seval, reduceCtorEq, reduceIte, h2, app_get m3, j3, hty, tl', t0', ok151]
            refine CallE.mono (hnt _) ?_
            rintro v sg2 ow2 ⟨hc2, hfr2⟩
            have hF2 : Fr c sg sg2 := hF.trans ((Fr.of (.app _ _)).trans hfr2)
            have hk2 := hk.fr hF2 hc2
            have k3 := hfr2.get (i := sg.length) (x := (false, [.t (.int .i64 s.kind), .t (.str s.name), .t (.bool true), .t (.int .i64 s.ty.kind), .t (.int .i64 s.ty.bits), .t (.int .i64 s.ty.len), .t (.int .i64 s.ex.op), .t (.int .u64 s.ex.val), .t (.str s.ex.name), .t (.sl s.ex.nl (tExs s.ex.args)), .t (.int .i64 s.lo), .t (.int .i64 s.hi), .t (.sl s.nl (tSts s.body))])) (by rw [app_get m3]; exact hty ▸ j3) (by omega)
            have k5 := hfr2.get (i := sg1.length) (x := (false, cTy t)) (by simp) (by have := lt_of_get hc1; omega)
            have mc2 := lt_of_get hc2
            have hse : ∀ x, Fr c sg (sg2.set sg1.length x) := fun x => Fr2.fr (a := sg1.length) (Fr.refl c sg) ((Fr2.of hF2).set _) hF.1
            have hk3 : ∀ x, Cs (sg2.set sg1.length x) c f n fs ns od (noteM s.ty w1) := fun x => hk.fr (hse x) (by rw [List.getElem?_set_ne (by have := lt_of_get hc1; omega)]; exact hc2)
            have hdec := fun x => ok104 (gl := gl) (hk3 x) s.name ⟨s.ty, false, 0, 0⟩ (by omega) ow2
            have e3 : ∀ x, (sg2.set sg1.length x)[sg.length]? = sg2[sg.length]? := fun x => List.getElem?_set_ne (by have := lt_of_get j3; omega)
            simp only [wA, seval, reduceCtorEq, reduceIte, k3, k5, get_set k5, e3]
            refine CallE.mono (hdec _) ?_
            rintro v sg3 ow3 ⟨rfl, hp⟩
            simp only [wA, seval, reduceCtorEq, reduceIte]
            exact ⟨rfl, fun e => by obtain ⟨od', x1, x2⟩ := hp e; exact ⟨od', x1, (Fq.of (hse _)).trans x2⟩⟩
          · have t0' : (t.len = 0) = False := eq_false t0
            rw [if_pos (by simp [tl, t0])]
            simp only [wA, seval, reduceCtorEq, reduceIte, h2, app_get m3, j3, hty, tl', t0', ok151]
            exact ⟨rfl, fun e => by cases e⟩
        · cases hfi : fitsB t s.ty with
          | true =>
            have hnt := fun r => ok105 (gl := gl) (hk1.ck.grow (.app sg1 r)) s.ty ow1
            rw [if_neg (by simp [tl, hfi])]
            simp only [wA, seval, reduceCtorEq, reduceIte, h2, app_get m3, j3, hty, tl, hfi, ok151]
            refine CallE.mono (hnt _) ?_
            rintro v sg2 ow2 ⟨hc2, hfr2⟩
            have hF2 : Fr c sg sg2 := hF.trans ((Fr.of (.app _ _)).trans hfr2)
            have hk2 := hk.fr hF2 hc2
            have k3 := hfr2.get (i := sg.length) (x := (false, [.t (.int .i64 s.kind), .t (.str s.name), .t (.bool true), .t (.int .i64 s.ty.kind), .t (.int .i64 s.ty.bits), .t (.int .i64 s.ty.len), .t (.int .i64 s.ex.op), .t (.int .u64 s.ex.val), .t (.str s.ex.name), .t (.sl s.ex.nl (tExs s.ex.args)), .t (.int .i64 s.lo), .t (.int .i64 s.hi), .t (.sl s.nl (tSts s.body))])) (by rw [app_get m3]; exact hty ▸ j3) (by omega)
            have k5 := hfr2.get (i := sg1.length) (x := (false, cTy t)) (by simp) (by have := lt_of_get hc1; omega)
            have mc2 := lt_of_get hc2
            have hse : ∀ x, Fr c sg (sg2.set sg1.length x) := fun x => Fr2.fr (a := sg1.length) (Fr.refl c sg) ((Fr2.of hF2).set _) hF.1
            have hk3 : ∀ x, Cs (sg2.set sg1.length x) c f n fs ns od (noteM s.ty w1) := fun x => hk.fr (hse x) (by rw [List.getElem?_set_ne (by have := lt_of_get hc1; omega)]; exact hc2)
            have hdec := fun x => ok104 (gl := gl) (hk3 x) s.name ⟨s.ty, false, 0, 0⟩ (by omega) ow2
            have e3 : ∀ x, (sg2.set sg1.length x)[sg.length]? = sg2[sg.length]? := fun x => List.getElem?_set_ne (by have := lt_of_get j3; omega)
            simp only [wA, seval, reduceCtorEq, reduceIte, k3, k5, get_set k5, e3]
            refine CallE.mono (hdec _) ?_
            rintro v sg3 ow3 ⟨rfl, hp⟩
            simp only [wA, seval, reduceCtorEq, reduceIte]
            exact ⟨rfl, fun e => by obtain ⟨od', x1, x2⟩ := hp e; exact ⟨od', x1, (Fq.of (hse _)).trans x2⟩⟩
          | false =>
            rw [if_pos (by simp [tl, hfi])]
            simp only [wA, seval, reduceCtorEq, reduceIte, h2, app_get m3, j3, hty, tl, hfi, ok151]
            exact ⟨rfl, fun e => by cases e⟩
  · rw [if_pos (by simpa using he)]
    simp only [wA, seval, reduceCtorEq, reduceIte, he]
    exact ⟨rfl, fun e => absurd e he⟩
end Go.Proofs.YtdjcnfacjfnakaaGreat

/- Contracts: functions. -/
set_option maxRecDepth 10000
set_option linter.unusedVariables false
set_option linter.unusedSimpArgs false
namespace Go.Proofs.YtdjcnfacjfnakaaGreat
open Go.Pi Go.Lx Go.Ky Go.Lib
variable {gl : Nat → Option (List T)}

theorem loopb103 {fs : Fs} {ls : List St} {nl : Bool} (hls : ls.length ≤ B20) (hrec : ∀ s, s ∈ ls → StSpec gl fs s) {c f n : Nat} {b3 : Nat} {m : Nat} {od0 : PV} {sg0 : Sg} (Q : Ex → S → Prop) : ∀ (l : List St) (i : Nat) (ns : Ns) (od : PV) (w : Int) (fr : List PV) (sg : Sg) (ow : Ow), ls.drop i = l → Cs sg c f n fs ns od w → Fq c n od0 od sg0 sg → ns.length + szSs l ≤ 2 * B20 →
    FrAt fr [(0, .lp c 0), (3, .lp b3 0), (7, .t (.int .i64 m)), (51, .t (.sl nl (tSts ls))), (52, .t (.int .i64 ls.length)), (53, .t (.int .i64 i))] →
    ((stsM fs l ns w).1 = 0 → ∀ fr' sg' ow' od', Cs sg' c f n fs (stsM fs l ns w).2.1 od' (stsM fs l ns w).2.2 → Fq c n od0 od' sg0 sg' → FrAt fr' [(0, .lp c 0), (3, .lp b3 0), (7, .t (.int .i64 m))] → Q (.exit 2) ⟨fr', sg', ow'⟩) →
    ((stsM fs l ns w).1 ≠ 0 → ∀ fr' sg' ow', fget fr' 4 = .t (.int .i64 (stsM fs l ns w).1) → Q .ret ⟨fr', sg', ow'⟩) →
    Xl F gl lb103_0 ⟨fr, sg, ow⟩ Q ⟨⟩ := by
  intro l
  induction l with
  | nil =>
    intro i ns od w fr sg ow hd hk hq hsz hf k1 k2
    have hd := drop_nil' hd
    simp only [FrAt_cons, FrAt_nil] at hf
    obtain ⟨f0, f3, f7, f14, f15, f16, -⟩ := hf
    refine Xl.step ?_
    simp only [lb103_0]
    have c1 : ¬ ((i : Int) < (ls.length : Int)) := by omega
    have hem : stsM fs [] ns w = (0, ns, w) := by rw [stsM]
    rw [hem] at k1
    simp only [wA, seval, reduceCtorEq, reduceIte, f0, f3, f7, f14, f15, f16, c1]
    exact k1 rfl _ _ _ od hk hq (by simp only [FrAt_cons, FrAt_nil, wFr, Nat.reduceEqDiff, Nat.one_ne_zero, Nat.zero_ne_one, reduceIte, and_self, and_true, true_and, f0, f3, f7])
  | cons x l ih =>
    intro i ns od w fr sg ow hd hk hq hsz hf k1 k2
    obtain ⟨hx, hr, hi⟩ := drop_cons hd
    simp only [FrAt_cons, FrAt_nil] at hf
    obtain ⟨f0, f3, f7, f14, f15, f16, -⟩ := hf
    refine Xl.step ?_
    simp only [lb103_0]
    have c1 : (i : Int) < (ls.length : Int) := by omega
    have hw1 := i64_succ hi (show ls.length ≤ 281474976710656 by have : B20 = 1100000 := rfl; omega)
    rw [stsM_cons] at k1 k2
    rw [szSs_cons] at hsz
    have hs := fun r => hrec x (List.mem_of_getElem? hx) (sg ++ r) c f n ns od w ow (hk.grow (.app _ _)) (by omega)
    simp only [tSt_eq] at hs
    simp only [wA, seval, reduceCtorEq, reduceIte, f0, f3, f7, f14, f15, f16, c1, hw1, Int.toNat_natCast, hi, tSts_get, hx, Option.map_some, tSt_eq]
    refine CallE.mono (hs _) ?_
    rintro v sg' ow' ⟨rfl, hp⟩
    by_cases he : (stM fs x ns w).1 = 0
    · obtain ⟨od', hk', hq'⟩ := hp he
      rw [if_neg (by simpa using he)] at k1 k2
      simp only [wA, seval, reduceCtorEq, reduceIte, f0, f3, f7, f14, f15, f16, hw1, he]
      obtain ⟨r, hr1, hr2⟩ := stM_ext fs x ns w he
      have hsx : 1 ≤ szS x := by rw [szS_eq]; omega
      refine ih (i + 1) _ od' _ _ _ _ hr hk' (hq.trans ((Fq.of (Fr.of (.app _ _))).trans hq')) (by rw [hr1, List.length_append]; omega) (by simp only [FrAt_cons, FrAt_nil, wFr, Nat.reduceEqDiff, Nat.one_ne_zero, Nat.zero_ne_one, reduceIte, and_self, and_true, true_and, f0, f3, f7, f14, f15]) k1 k2
    · rw [if_pos (by simpa using he)] at k1 k2
      simp only [wA, seval, reduceCtorEq, reduceIte, f0, f3, f7, f14, f15, f16, he]
      exact k2 he _ _ _ (by simp only [FrAt_cons, FrAt_nil, wFr, Nat.reduceEqDiff, Nat.one_ne_zero, Nat.zero_ne_one, reduceIte, and_self, and_true, true_and])
theorem loopa103 {fs : Fs} {ls : List Pa} {nl : Bool} (hls : ls.length ≤ B20) {c f n : Nat} {b3 : Nat} {m : Nat} {od0 : PV} {sg0 : Sg} (Q : Ex → S → Prop) : ∀ (l : List Pa) (i : Nat) (ns : Ns) (od : PV) (w : Int) (fr : List PV) (sg : Sg) (ow : Ow), ls.drop i = l → Cs sg c f n fs ns od w → Fq c n od0 od sg0 sg → ns.length + l.length ≤ 2 * B20 →
    FrAt fr [(0, .lp c 0), (3, .lp b3 0), (7, .t (.int .i64 m)), (33, .t (.sl nl (ls.map tPa))), (34, .t (.int .i64 ls.length)), (35, .t (.int .i64 i))] →
    ((parsM l ns w).1 = 0 → ∀ fr' sg' ow' od', Cs sg' c f n fs (parsM l ns w).2.1 od' (parsM l ns w).2.2 → Fq c n od0 od' sg0 sg' → FrAt fr' [(0, .lp c 0), (3, .lp b3 0), (7, .t (.int .i64 m))] → Q (.exit 0) ⟨fr', sg', ow'⟩) →
    ((parsM l ns w).1 ≠ 0 → ∀ fr' sg' ow', fget fr' 4 = .t (.int .i64 (parsM l ns w).1) → Q .ret ⟨fr', sg', ow'⟩) →
    Xl F gl lb103_1 ⟨fr, sg, ow⟩ Q ⟨⟩ := by
  intro l
  induction l with
  | nil =>
    intro i ns od w fr sg ow hd hk hq hsz hf k1 k2
    have hd := drop_nil' hd
    simp only [FrAt_cons, FrAt_nil] at hf
    obtain ⟨f0, f3, f7, f14, f15, f16, -⟩ := hf
    refine Xl.step ?_
    simp only [lb103_1]
    have c1 : ¬ ((i : Int) < (ls.length : Int)) := by omega
    have hem : parsM [] ns w = (0, ns, w) := by rw [parsM]
    rw [hem] at k1
    simp only [wA, seval, reduceCtorEq, reduceIte, f0, f3, f7, f14, f15, f16, c1]
    exact k1 rfl _ _ _ od hk hq (by simp only [FrAt_cons, FrAt_nil, wFr, Nat.reduceEqDiff, Nat.one_ne_zero, Nat.zero_ne_one, reduceIte, and_self, and_true, true_and, f0, f3, f7])
  | cons x l ih =>
    intro i ns od w fr sg ow hd hk hq hsz hf k1 k2
    obtain ⟨hx, hr, hi⟩ := drop_cons hd
    simp only [FrAt_cons, FrAt_nil] at hf
    obtain ⟨f0, f3, f7, f14, f15, f16, -⟩ := hf
    refine Xl.step ?_
    simp only [lb103_1]
    have c1 : (i : Int) < (ls.length : Int) := by omega
    have hb : B20 = 1100000 := rfl
    have hb2 : B47 = 140737488355328 := rfl
    have hw1 := i64_succ hi (show ls.length ≤ 281474976710656 by omega)
    rw [parsM_cons] at k1 k2
    rw [List.length_cons] at hsz
    have hs := fun r => ok104 (gl := gl) (hk.grow (.app sg r)) x.name ⟨x.ty, false, 0, 0⟩ (by omega) ow
    simp only [wA, seval, reduceCtorEq, reduceIte, f0, f3, f7, f14, f15, f16, c1, hw1, Int.toNat_natCast, hi, List.getElem?_map, hx, Option.map_some]
    refine CallE.mono (hs _) ?_
    rintro v sg' ow' ⟨rfl, hp⟩
    by_cases he : (decM x.name ⟨x.ty, false, 0, 0⟩ ns w).1 = 0
    · obtain ⟨od', hk', hq'⟩ := hp he
      rw [if_neg (by simpa using he)] at k1 k2
      simp only [wA, seval, reduceCtorEq, reduceIte, f0, f3, f7, f14, f15, f16, hw1, he]
      refine ih (i + 1) _ od' _ _ _ _ hr hk' (hq.trans ((Fq.of (Fr.of (.app _ _))).trans hq')) (by rw [decM_ext he]; simp; omega) (by simp only [FrAt_cons, FrAt_nil, wFr, Nat.reduceEqDiff, Nat.one_ne_zero, Nat.zero_ne_one, reduceIte, and_self, and_true, true_and, f0, f3, f7, f14, f15]) k1 k2
    · rw [if_pos (by simpa using he)] at k1 k2
      simp only [wA, seval, reduceCtorEq, reduceIte, f0, f3, f7, f14, f15, f16, he]
      exact k2 he _ _ _ (by simp only [FrAt_cons, FrAt_nil, wFr, Nat.reduceEqDiff, Nat.one_ne_zero, Nat.zero_ne_one, reduceIte, and_self, and_true, true_and])
theorem ok103 {fs : Fs} {fu : Fu} (hok : FuOk fu) (hB : fuB fu = true) (hpl : fu.params.length ≤ B20) (hbs : szSs fu.body ≤ B20) (hrs : szE fu.ret ≤ B20) {c f n : Nat} {od : PV} {w : Int} {sg : Sg} (hk : Cs sg c f n fs [] od w) (ow : Ow) :
    CallE F gl 103 [.lp c 0, .t (.agg (tFu fu))] sg ow fun v sg' ow' => v = .t (.int .i64 (funM fs fu w).1) ∧ ((funM fs fu w).1 = 0 → ∃ od', Cs sg' c f n (funM fs fu w).2.1 [] od' (funM fs fu w).2.2 ∧ Fg c f n od od' sg sg') := by
  refine XcE.of F103 rfl ?_
  simp only [ir103]
  have hcl := lt_of_get hk.ck.c
  have hfl := lt_of_get hk.ck.f
  have hc := hk.ck.c
  have hf := hk.ck.f
  have hb : B20 = 1100000 := rfl
  have hb2 : B47 = 140737488355328 := rfl
  have hbl : fu.body.length ≤ B20 := Nat.le_trans (szSs_len _) hbs
  have hB2 := hB
  unfold fuB at hB2
  simp only [Bool.and_eq_true, List.all_eq_true] at hB2
  have hrec : ∀ s, s ∈ fu.body → StSpec gl fs s := fun s hs => ok149 s (hok.bo s hs) (hB2.1.2 s hs) (Nat.le_trans (szSs_mem hs) hbs)
  cases hl : Ky.look fu.name fs with
  | some x =>
    rw [funM_dup _ _ _ hl]
    simp only [wA, seval, reduceCtorEq, reduceIte, app_get hcl, app_get hfl, hc, hf, mlkP, mfind_ents, hl, Option.getD_some, Option.isSome_some]
    simp
  | none =>
    rw [funM_eq _ _ _ hl]
    have hod : (∃ oid cs, od = .bf oid 0 1 ∧ oid ≠ c ∧ sg[oid]? = some (false, cs)) ∨ od = .t (.sl true []) := by
      rcases hk.od.2 with ⟨_, h⟩ | ⟨oid, cs, h1, h2, h3, _⟩
      · exact .inr h
      · exact .inl ⟨oid, cs, h1, h2, h3⟩
    have hlen : True := trivial
    rcases hod with ⟨oid, cs, rfl, o1, o2⟩ | rfl
    · simp only [wA, seval, reduceCtorEq, reduceIte, app_get hcl, app_get hfl, hc, hf, mlkP, mfind_ents, hl, Option.getD_none, Option.isSome_none, List.length_map, List.length_nil]
      refine loopa103 (fs := fs) hpl (m := 0) (b3 := sg.length) _ fu.params 0 [] (.bf oid 0 1) w _ _ _ rfl (hk.grow (.app _ _)) (Fq.refl _ _ _ _) (by simp only [List.length_nil]; omega) (by simp only [FrAt_cons, FrAt_nil, wFr, Nat.reduceEqDiff, Nat.one_ne_zero, Nat.zero_ne_one, reduceIte, and_self, and_true, true_and]; first | done | exact ⟨rfl, rfl⟩ | rfl) ?_ ?_
      · intro h0 fr1 sg1 ow1 od1 hk1 hq1 hf1
        have hpe := parsM_ext _ _ _ h0
        rw [if_neg (by simpa using h0)]
        generalize parsM fu.params [] w = P at *
        obtain ⟨d, ns1, w1⟩ := P
        simp only [List.length_nil, Nat.zero_add] at h0 hpe hk1 ⊢
        simp only [FrAt_cons, FrAt_nil] at hf1
        obtain ⟨f0, f3, f7, -⟩ := hf1
        have i3 := fun r : Sg => show (sg ++ (false, cFu fu) :: r)[sg.length]? = some (false, cFu fu) by simp
        have j3 := hq1.get (i3 _) (by omega) (by have := lt_of_get hk.ck.n; omega) (hk.notB2 (Nat.le_refl _))
        simp only [wA, seval, reduceCtorEq, reduceIte, f0, f3, f7, j3, tSts_len]
        refine loopb103 (fs := fs) hbl hrec (m := 0) (b3 := sg.length) _ fu.body 0 ns1 od1 w1 _ _ _ rfl hk1 (Fq.refl _ _ _ _) (by omega) (by simp only [FrAt_cons, FrAt_nil, wFr, Nat.reduceEqDiff, Nat.one_ne_zero, Nat.zero_ne_one, reduceIte, and_self, and_true, true_and, f0, f3, f7]; first | done | exact ⟨rfl, rfl⟩ | rfl) ?_ ?_
        · intro h2 fr2 sg2 ow2 od2 hk2 hq2 hf2
          obtain ⟨rr, hr1, hr2⟩ := stsM_ext _ _ _ _ h2
          rw [if_neg (by simpa using h2)]
          generalize stsM fs fu.body ns1 w1 = P2 at *
          obtain ⟨d2, ns2, w2⟩ := P2
          simp only at h2 hr1 hk2 ⊢
          subst hr1
          simp only [FrAt_cons, FrAt_nil] at hf2
          obtain ⟨f0, f3, f7, -⟩ := hf2
          have hq12 := hq1.trans hq2
          have j3 := hq12.get (i3 _) (by omega) (by have := lt_of_get hk.ck.n; omega) (hk.notB2 (Nat.le_refl _))
          have hex := ok150 (gl := gl) (fs := fs) (ns := ns1 ++ rr) fu.ret hok.ret hrs hB2.2 sg2 c f n od2 w2 ow2 hk2.ck
          simp only [tEx_eq] at hex
          simp only [wA, seval, reduceCtorEq, reduceIte, f0, f3, f7, j3]
          refine CallE.mono hex ?_
          rintro v sg3 ow3 ⟨rfl, hc3, hfr3⟩
          have hk3 := hk2.fr hfr3 hc3
          have hq3 := hq12.trans (Fq.of hfr3)
          have j3 := hq3.get (i3 _) (by omega) (by have := lt_of_get hk.ck.n; omega) (hk.notB2 (Nat.le_refl _))
          have m3 := lt_of_get j3
          generalize exM fs (ns1 ++ rr) fu.ret w2 = q at *
          obtain ⟨⟨t, er⟩, w3⟩ := q
          simp only at hc3 hk3 ⊢
          by_cases he : er = 0
          · subst he
            rw [if_neg (by simp)]
            cases hfi : fitsB t fu.res with
            | false =>
              rw [if_pos rfl]
              simp only [wA, seval, reduceCtorEq, reduceIte, f0, f3, f7, app_get m3, j3, ok151, hfi]
              simp
            | true =>
              rw [if_neg (by simp)]
              simp only [wA, seval, reduceCtorEq, reduceIte, f0, f3, f7, app_get m3, j3, ok151, hfi]
              refine CallE.mono (ok152 (hk3.grow (.app _ _)) (by rw [List.length_append]; omega) (m := 0) (Nat.zero_le _) ow3) ?_
              rintro v sg4 ow4 ⟨od4, hk4, hq4⟩
              rw [List.take_zero] at hk4
              have hqa := hq3.trans ((Fq.of (Fr.of (.app _ _))).trans hq4)
              have j3 := hqa.get (i3 _) (by omega) (by have := lt_of_get hk.ck.n; omega) (hk.notB2 (Nat.le_refl _))
              have hmn := mset_new (fun x => .agg (tFu x)) fu.name fu fs hl
              have c4 := hk4.ck.c
              have f4 := hk4.ck.f
              simp only [wA, seval, reduceCtorEq, reduceIte, f0, f3, f7, j3, c4, f4, mupP, mfind_ents]
              intro _
              exact ⟨od4, (hk4.fun _ hmn).1, ((Fg.of (Fq.of (Fr.of (.app _ _)))).trans (Fg.of hqa)).trans (hk4.fun _ hmn).2⟩
          · rw [if_pos (by simpa using he)]
            simp only [wA, seval, reduceCtorEq, reduceIte, f0, f3, f7, he]
            exact fun e => e.elim
        · intro h2 fr2 sg2 ow2 f4
          rw [if_pos (by simpa using h2)]
          simp only [wA, seval, reduceCtorEq, reduceIte, f4]
          exact fun e => absurd e h2
      · intro h0 fr1 sg1 ow1 f4
        rw [if_pos (by simpa using h0)]
        simp only [wA, seval, reduceCtorEq, reduceIte, f4]
        exact fun e => absurd e h0
    · simp only [wA, seval, reduceCtorEq, reduceIte, app_get hcl, app_get hfl, hc, hf, mlkP, mfind_ents, hl, Option.getD_none, Option.isSome_none, List.length_map, List.length_nil]
      refine loopa103 (fs := fs) hpl (m := 0) (b3 := sg.length) _ fu.params 0 [] (.t (.sl true [])) w _ _ _ rfl (hk.grow (.app _ _)) (Fq.refl _ _ _ _) (by simp only [List.length_nil]; omega) (by simp only [FrAt_cons, FrAt_nil, wFr, Nat.reduceEqDiff, Nat.one_ne_zero, Nat.zero_ne_one, reduceIte, and_self, and_true, true_and]; first | done | exact ⟨rfl, rfl⟩ | rfl) ?_ ?_
      · intro h0 fr1 sg1 ow1 od1 hk1 hq1 hf1
        have hpe := parsM_ext _ _ _ h0
        rw [if_neg (by simpa using h0)]
        generalize parsM fu.params [] w = P at *
        obtain ⟨d, ns1, w1⟩ := P
        simp only [List.length_nil, Nat.zero_add] at h0 hpe hk1 ⊢
        simp only [FrAt_cons, FrAt_nil] at hf1
        obtain ⟨f0, f3, f7, -⟩ := hf1
        have i3 := fun r : Sg => show (sg ++ (false, cFu fu) :: r)[sg.length]? = some (false, cFu fu) by simp
        have j3 := hq1.get (i3 _) (by omega) (by have := lt_of_get hk.ck.n; omega) (hk.notB2 (Nat.le_refl _))
        simp only [wA, seval, reduceCtorEq, reduceIte, f0, f3, f7, j3, tSts_len]
        refine loopb103 (fs := fs) hbl hrec (m := 0) (b3 := sg.length) _ fu.body 0 ns1 od1 w1 _ _ _ rfl hk1 (Fq.refl _ _ _ _) (by omega) (by simp only [FrAt_cons, FrAt_nil, wFr, Nat.reduceEqDiff, Nat.one_ne_zero, Nat.zero_ne_one, reduceIte, and_self, and_true, true_and, f0, f3, f7]; first | done | exact ⟨rfl, rfl⟩ | rfl) ?_ ?_
        · intro h2 fr2 sg2 ow2 od2 hk2 hq2 hf2
          obtain ⟨rr, hr1, hr2⟩ := stsM_ext _ _ _ _ h2
          rw [if_neg (by simpa using h2)]
          generalize stsM fs fu.body ns1 w1 = P2 at *
          obtain ⟨d2, ns2, w2⟩ := P2
          simp only at h2 hr1 hk2 ⊢
          subst hr1
          simp only [FrAt_cons, FrAt_nil] at hf2
          obtain ⟨f0, f3, f7, -⟩ := hf2
          have hq12 := hq1.trans hq2
          have j3 := hq12.get (i3 _) (by omega) (by have := lt_of_get hk.ck.n; omega) (hk.notB2 (Nat.le_refl _))
          have hex := ok150 (gl := gl) (fs := fs) (ns := ns1 ++ rr) fu.ret hok.ret hrs hB2.2 sg2 c f n od2 w2 ow2 hk2.ck
          simp only [tEx_eq] at hex
          simp only [wA, seval, reduceCtorEq, reduceIte, f0, f3, f7, j3]
          refine CallE.mono hex ?_
          rintro v sg3 ow3 ⟨rfl, hc3, hfr3⟩
          have hk3 := hk2.fr hfr3 hc3
          have hq3 := hq12.trans (Fq.of hfr3)
          have j3 := hq3.get (i3 _) (by omega) (by have := lt_of_get hk.ck.n; omega) (hk.notB2 (Nat.le_refl _))
          have m3 := lt_of_get j3
          generalize exM fs (ns1 ++ rr) fu.ret w2 = q at *
          obtain ⟨⟨t, er⟩, w3⟩ := q
          simp only at hc3 hk3 ⊢
          by_cases he : er = 0
          · subst he
            rw [if_neg (by simp)]
            cases hfi : fitsB t fu.res with
            | false =>
              rw [if_pos rfl]
              simp only [wA, seval, reduceCtorEq, reduceIte, f0, f3, f7, app_get m3, j3, ok151, hfi]
              simp
            | true =>
              rw [if_neg (by simp)]
              simp only [wA, seval, reduceCtorEq, reduceIte, f0, f3, f7, app_get m3, j3, ok151, hfi]
              refine CallE.mono (ok152 (hk3.grow (.app _ _)) (by rw [List.length_append]; omega) (m := 0) (Nat.zero_le _) ow3) ?_
              rintro v sg4 ow4 ⟨od4, hk4, hq4⟩
              rw [List.take_zero] at hk4
              have hqa := hq3.trans ((Fq.of (Fr.of (.app _ _))).trans hq4)
              have j3 := hqa.get (i3 _) (by omega) (by have := lt_of_get hk.ck.n; omega) (hk.notB2 (Nat.le_refl _))
              have hmn := mset_new (fun x => .agg (tFu x)) fu.name fu fs hl
              have c4 := hk4.ck.c
              have f4 := hk4.ck.f
              simp only [wA, seval, reduceCtorEq, reduceIte, f0, f3, f7, j3, c4, f4, mupP, mfind_ents]
              intro _
              exact ⟨od4, (hk4.fun _ hmn).1, ((Fg.of (Fq.of (Fr.of (.app _ _)))).trans (Fg.of hqa)).trans (hk4.fun _ hmn).2⟩
          · rw [if_pos (by simpa using he)]
            simp only [wA, seval, reduceCtorEq, reduceIte, f0, f3, f7, he]
            exact fun e => e.elim
        · intro h2 fr2 sg2 ow2 f4
          rw [if_pos (by simpa using h2)]
          simp only [wA, seval, reduceCtorEq, reduceIte, f4]
          exact fun e => absurd e h2
      · intro h0 fr1 sg1 ow1 f4
        rw [if_pos (by simpa using h0)]
        simp only [wA, seval, reduceCtorEq, reduceIte, f4]
        exact fun e => absurd e h0
end Go.Proofs.YtdjcnfacjfnakaaGreat

/- Contracts: programs. -/
set_option maxRecDepth 10000
set_option linter.unusedVariables false
set_option linter.unusedSimpArgs false
namespace Go.Proofs.YtdjcnfacjfnakaaGreat
open Go.Pi Go.Lx Go.Ky Go.Lib
variable {gl : Nat → Option (List T)}

theorem loopa62 {ls : List Fu} {nl : Bool} (hls : ls.length ≤ B20) (hfu : ∀ f, f ∈ ls → FuOk f ∧ fuB f = true ∧ f.params.length ≤ B20 ∧ szSs f.body ≤ B20 ∧ szE f.ret ≤ B20) {c f n : Nat} {b3 : Nat} {od0 : PV} {sg0 : Sg} (Q : Ex → S → Prop) : ∀ (l : List Fu) (i : Nat) (fs : Fs) (od : PV) (w : Int) (fr : List PV) (sg : Sg) (ow : Ow), ls.drop i = l → Cs sg c f n fs [] od w → Fg c f n od0 od sg0 sg →
    FrAt fr [(0, .lp c 0), (3, .lp b3 0), (12, .t (.sl nl (ls.map fun f => tFu f))), (13, .t (.int .i64 ls.length)), (14, .t (.int .i64 i))] →
    ((funsM l fs w).1 = 0 → ∀ fr' sg' ow' od', Cs sg' c f n (funsM l fs w).2.1 [] od' (funsM l fs w).2.2 → Fg c f n od0 od' sg0 sg' → FrAt fr' [(0, .lp c 0), (3, .lp b3 0)] → Q (.exit 0) ⟨fr', sg', ow'⟩) →
    ((funsM l fs w).1 ≠ 0 → ∀ fr' sg' ow', fget fr' 4 = .t (.int .i64 (funsM l fs w).1) → Q .ret ⟨fr', sg', ow'⟩) →
    Xl F gl lb62_1 ⟨fr, sg, ow⟩ Q ⟨⟩ := by
  intro l
  induction l with
  | nil =>
    intro i fs od w fr sg ow hd hk hq hf k1 k2
    have hd := drop_nil' hd
    simp only [FrAt_cons, FrAt_nil] at hf
    obtain ⟨f0, f3, f14, f15, f16, -⟩ := hf
    refine Xl.step ?_
    simp only [lb62_1]
    have c1 : ¬ ((i : Int) < (ls.length : Int)) := by omega
    have hem : funsM [] fs w = (0, fs, w) := by rw [funsM]
    rw [hem] at k1
    simp only [wA, seval, reduceCtorEq, reduceIte, f0, f3, f14, f15, f16, c1]
    exact k1 rfl _ _ _ od hk hq (by simp only [FrAt_cons, FrAt_nil, wFr, Nat.reduceEqDiff, Nat.one_ne_zero, Nat.zero_ne_one, reduceIte, and_self, and_true, true_and, f0, f3])
  | cons x l ih =>
    intro i fs od w fr sg ow hd hk hq hf k1 k2
    obtain ⟨hx, hr, hi⟩ := drop_cons hd
    simp only [FrAt_cons, FrAt_nil] at hf
    obtain ⟨f0, f3, f14, f15, f16, -⟩ := hf
    refine Xl.step ?_
    simp only [lb62_1]
    have c1 : (i : Int) < (ls.length : Int) := by omega
    have hw1 := i64_succ hi (show ls.length ≤ 281474976710656 by have : B20 = 1100000 := rfl; omega)
    rw [funsM_cons] at k1 k2
    obtain ⟨x1, x2, x3, x4, x5⟩ := hfu x (List.mem_of_getElem? hx)
    have hs := fun r => ok103 (gl := gl) x1 x2 x3 x4 x5 (hk.grow (.app sg r)) ow
    simp only [wA, seval, reduceCtorEq, reduceIte, f0, f3, f14, f15, f16, c1, hw1, Int.toNat_natCast, hi, List.getElem?_map, hx, Option.map_some]
    refine CallE.mono (hs _) ?_
    rintro v sg' ow' ⟨rfl, hp⟩
    by_cases he : (funM fs x w).1 = 0
    · obtain ⟨od', hk', hq'⟩ := hp he
      rw [if_neg (by simpa using he)] at k1 k2
      simp only [wA, seval, reduceCtorEq, reduceIte, f0, f3, f14, f15, f16, hw1, he]
      refine ih (i + 1) _ od' _ _ _ _ hr hk' (hq.trans ((Fg.of (Fq.of (Fr.of (.app _ _)))).trans hq')) (by simp only [FrAt_cons, FrAt_nil, wFr, Nat.reduceEqDiff, Nat.one_ne_zero, Nat.zero_ne_one, reduceIte, and_self, and_true, true_and, f0, f3, f14, f15]) k1 k2
    · rw [if_pos (by simpa using he)] at k1 k2
      simp only [wA, seval, reduceCtorEq, reduceIte, f0, f3, f14, f15, f16, he]
      exact k2 he _ _ _ (by simp only [FrAt_cons, FrAt_nil, wFr, Nat.reduceEqDiff, Nat.one_ne_zero, Nat.zero_ne_one, reduceIte, and_self, and_true, true_and])
theorem loopb62 {fs : Fs} {ls : List De} {nl : Bool} (hls : ls.length ≤ B20) {c f n : Nat} {b3 : Nat} {od0 : PV} {sg0 : Sg} (Q : Ex → S → Prop) : ∀ (l : List De) (i : Nat) (ns : Ns) (od : PV) (w : Int) (fr : List PV) (sg : Sg) (ow : Ow), ls.drop i = l → Cs sg c f n fs ns od w → Fq c n od0 od sg0 sg → ns.length + l.length ≤ 2 * B20 →
    FrAt fr [(0, .lp c 0), (3, .lp b3 0), (26, .t (.sl nl (ls.map fun f => tDe f))), (27, .t (.int .i64 ls.length)), (28, .t (.int .i64 i))] →
    ((desM l ns w).1 = 0 → ∀ fr' sg' ow' od', Cs sg' c f n fs (desM l ns w).2.1 od' (desM l ns w).2.2 → Fq c n od0 od' sg0 sg' → FrAt fr' [(0, .lp c 0), (3, .lp b3 0)] → Q (.exit 2) ⟨fr', sg', ow'⟩) →
    ((desM l ns w).1 ≠ 0 → ∀ fr' sg' ow', fget fr' 4 = .t (.int .i64 (desM l ns w).1) → Q .ret ⟨fr', sg', ow'⟩) →
    Xl F gl lb62_0 ⟨fr, sg, ow⟩ Q ⟨⟩ := by
  intro l
  induction l with
  | nil =>
    intro i ns od w fr sg ow hd hk hq hsz hf k1 k2
    have hd := drop_nil' hd
    simp only [FrAt_cons, FrAt_nil] at hf
    obtain ⟨f0, f3, f14, f15, f16, -⟩ := hf
    refine Xl.step ?_
    simp only [lb62_0]
    have c1 : ¬ ((i : Int) < (ls.length : Int)) := by omega
    have hem : desM [] ns w = (0, ns, w) := by rw [desM]
    rw [hem] at k1
    simp only [wA, seval, reduceCtorEq, reduceIte, f0, f3, f14, f15, f16, c1]
    exact k1 rfl _ _ _ od hk hq (by simp only [FrAt_cons, FrAt_nil, wFr, Nat.reduceEqDiff, Nat.one_ne_zero, Nat.zero_ne_one, reduceIte, and_self, and_true, true_and, f0, f3])
  | cons x l ih =>
    intro i ns od w fr sg ow hd hk hq hsz hf k1 k2
    obtain ⟨hx, hr, hi⟩ := drop_cons hd
    simp only [FrAt_cons, FrAt_nil] at hf
    obtain ⟨f0, f3, f14, f15, f16, -⟩ := hf
    refine Xl.step ?_
    simp only [lb62_0]
    have c1 : (i : Int) < (ls.length : Int) := by omega
    have hb : B20 = 1100000 := rfl
    have hb2 : B47 = 140737488355328 := rfl
    have hw1 := i64_succ hi (show ls.length ≤ 281474976710656 by omega)
    rw [desM_cons] at k1 k2
    rw [List.length_cons] at hsz
    have hs := fun r => ok104 (gl := gl) (hk.grow (.app sg r)) x.name ⟨x.ty, false, 0, 0⟩ (by omega) ow
    simp only [wA, seval, reduceCtorEq, reduceIte, f0, f3, f14, f15, f16, c1, hw1, Int.toNat_natCast, hi, List.getElem?_map, hx, Option.map_some]
    refine CallE.mono (hs _) ?_
    rintro v sg1 ow1 ⟨rfl, hp⟩
    by_cases he : (decM x.name ⟨x.ty, false, 0, 0⟩ ns w).1 = 0
    · obtain ⟨od1, hk1, hq1⟩ := hp he
      rw [if_neg (by simpa using he)] at k1 k2
      rw [decM_ext he] at hk1 k1 k2
      have j9 := hq1.get (i := sg.length) (v := (false, [.t (.bool x.pub), .t (.str x.name), .t (.int .i64 x.ty.kind), .t (.int .i64 x.ty.bits), .t (.int .i64 x.ty.len)])) (by simp) (by have := lt_of_get hk.ck.c; omega) (by have := lt_of_get hk.ck.n; omega) (hk.notB2 (Nat.le_refl _))
      simp only [wA, seval, reduceCtorEq, reduceIte, f0, f3, f14, f15, f16, hw1, he, j9]
      refine CallE.mono (ok105 hk1.ck x.ty ow1) ?_
      rintro v sg2 ow2 ⟨hc2, hfr2⟩
      simp only [wA, seval, reduceCtorEq, reduceIte, f0, f3, f14, f15, f16, hw1]
      refine ih (i + 1) _ od1 _ _ _ _ hr (hk1.fr hfr2 hc2) ((hq.trans ((Fq.of (Fr.of (.app _ _))).trans hq1)).trans (Fq.of hfr2)) (by simp; omega) (by simp only [FrAt_cons, FrAt_nil, wFr, Nat.reduceEqDiff, Nat.one_ne_zero, Nat.zero_ne_one, reduceIte, and_self, and_true, true_and, f0, f3, f14, f15]) k1 k2
    · rw [if_pos (by simpa using he)] at k1 k2
      simp only [wA, seval, reduceCtorEq, reduceIte, f0, f3, f14, f15, f16, he]
      exact k2 he _ _ _ (by simp only [FrAt_cons, FrAt_nil, wFr, Nat.reduceEqDiff, Nat.one_ne_zero, Nat.zero_ne_one, reduceIte, and_self, and_true, true_and])
/-- What is asked of a program. -/
structure PgSt (p : Pg) : Prop where
  ok : PgOk p
  fb : p.funcs.all fuB = true
  bb : p.body.all stB = true
  fl : p.funcs.length ≤ B20
  dl : p.decls.length ≤ B20
  fs : ∀ f, f ∈ p.funcs → f.params.length ≤ B20 ∧ szSs f.body ≤ B20 ∧ szE f.ret ≤ B20
  bs : szSs p.body ≤ B20
theorem ok62 {p : Pg} (hp : PgSt p) {c f n : Nat} {sg : Sg} (hk : Cs sg c f n [] [] (.t (.sl true [])) 0) (ow : Ow) :
    CallE F gl 62 [.lp c 0, .t (.agg (tPg p))] sg ow fun v sg' ow' => v = .t (.int .i64 (progM p).1) ∧ ((progM p).1 = 0 → ∃ od', sg'[c]? = some (false, [.mp f, .mp n, od', .t (.int .i64 (progM p).2)]) ∧ Fg c f n (.t (.sl true [])) od' sg sg') := by
  refine XcE.of F62 rfl ?_
  simp only [ir62]
  have hcl := lt_of_get hk.ck.c
  have hb : B20 = 1100000 := rfl
  have hb2 : B47 = 140737488355328 := rfl
  have hbl : p.body.length ≤ B20 := Nat.le_trans (szSs_len _) hp.bs
  rw [progM_eq]
  simp only [wA, seval, reduceCtorEq, reduceIte, List.length_map]
  refine loopa62 hp.fl (fun f hf => ⟨hp.ok.fo f hf, List.all_eq_true.1 hp.fb f hf, hp.fs f hf⟩) (b3 := sg.length) _ p.funcs 0 [] _ 0 _ _ _ rfl (hk.grow (.app _ _)) (Fg.refl _ _ _ _ _) (by simp only [FrAt_cons, FrAt_nil, wFr, Nat.reduceEqDiff, Nat.one_ne_zero, Nat.zero_ne_one, reduceIte, and_self, and_true, true_and]; first | done | exact ⟨rfl, rfl⟩ | rfl) ?_ ?_
  · intro h0 fr1 sg1 ow1 od1 hk1 hq1 hf1
    rw [if_neg (by simpa using h0)]
    generalize funsM p.funcs [] 0 = P at *
    obtain ⟨d, fs, w1⟩ := P
    simp only at h0 hk1 ⊢
    simp only [FrAt_cons, FrAt_nil] at hf1
    obtain ⟨f0, f3, -⟩ := hf1
    have i3 := fun r : Sg => show (sg ++ (false, [PV.t (.sl p.fnl (p.funcs.map fun f => tFu f)), .t (.sl p.dnl (p.decls.map fun f => tDe f)), .t (.sl p.bnl (tSts p.body))]) :: r)[sg.length]? = some (false, [PV.t (.sl p.fnl (p.funcs.map fun f => tFu f)), .t (.sl p.dnl (p.decls.map fun f => tDe f)), .t (.sl p.bnl (tSts p.body))]) by simp
    have j3 := hq1.get (i3 _) (by omega) (by have := lt_of_get hk.ck.f; omega) (by have := lt_of_get hk.ck.n; omega) (hk.notB2 (Nat.le_refl _))
    simp only [wA, seval, reduceCtorEq, reduceIte, f0, f3, j3, List.length_map]
    refine loopb62 (fs := fs) hp.dl (b3 := sg.length) _ p.decls 0 [] od1 w1 _ _ _ rfl hk1 (Fq.refl _ _ _ _) (by have := hp.dl; simp only [List.length_nil]; omega) (by simp only [FrAt_cons, FrAt_nil, wFr, Nat.reduceEqDiff, Nat.one_ne_zero, Nat.zero_ne_one, reduceIte, and_self, and_true, true_and, f0, f3]; first | done | exact ⟨rfl, rfl⟩ | rfl) ?_ ?_
    · intro h2 fr2 sg2 ow2 od2 hk2 hq2 hf2
      have hde := desM_ext _ _ _ h2
      rw [if_neg (by simpa using h2)]
      generalize desM p.decls [] w1 = P2 at *
      obtain ⟨d2, ns2, w2⟩ := P2
      simp only [List.length_nil, Nat.zero_add] at h2 hde hk2 ⊢
      simp only [FrAt_cons, FrAt_nil] at hf2
      obtain ⟨f0, f3, -⟩ := hf2
      have hq12 := hq1.trans (Fg.of hq2)
      have j3 := hq12.get (i3 _) (by omega) (by have := lt_of_get hk.ck.f; omega) (by have := lt_of_get hk.ck.n; omega) (hk.notB2 (Nat.le_refl _))
      have hrec : ∀ s, s ∈ p.body → StSpec gl fs s := fun s hs => ok149 s (hp.ok.bo s hs) (List.all_eq_true.1 hp.bb s hs) (Nat.le_trans (szSs_mem hs) hp.bs)
      simp only [wA, seval, reduceCtorEq, reduceIte, f0, f3, j3]
      refine CallE.mono (ok106 hbl hrec hk2 (by have := hp.dl; have := hp.bs; omega) ow2) ?_
      rintro v sg3 ow3 ⟨rfl, hp3⟩
      simp only [wA, seval, reduceCtorEq, reduceIte]
      refine fun e => ?_
      obtain ⟨od3, hk3, hq3⟩ := hp3 e
      exact ⟨od3, hk3.ck.c, (Fg.of (Fq.of (Fr.of (.app _ _)))).trans (hq12.trans (Fg.of hq3))⟩
    · intro h2 fr2 sg2 ow2 f4
      rw [if_pos (by simpa using h2)]
      simp only [wA, seval, reduceCtorEq, reduceIte, f4]
      exact fun e => absurd e h2
  · intro h0 fr1 sg1 ow1 f4
    rw [if_pos (by simpa using h0)]
    simp only [wA, seval, reduceCtorEq, reduceIte, f4]
    exact fun e => absurd e h0
end Go.Proofs.YtdjcnfacjfnakaaGreat

/- Contracts: steps. -/
set_option maxRecDepth 10000
set_option linter.unusedVariables false
set_option linter.unusedSimpArgs false
namespace Go.Proofs.YtdjcnfacjfnakaaGreat
open Go.Pi Go.Lx Go.Ky Go.Lib
variable {gl : Nat → Option (List T)}

abbrev iKs (ks : Ks) : List PV := ents (fun x => T.int .i64 x) ks
/-- The calls' steps of an expression. -/
def CsSpec (gl : Nat → Option (List T)) (e : Exp) : Prop :=
  ∀ (sg : Sg) (k : Nat) (ks : Ks) (ow : Ow), sg[k]? = some (true, iKs ks) → KsB ks → CallE F gl 108 [.t (.agg (tEx e)), .mp k] sg ow fun v sg' ow' => v = .t (.int .i64 (csE ks e)) ∧ Grow sg sg' ∧ ow' = ow
theorem loop108 {ls : List Exp} {nl : Bool} (hls : ls.length ≤ B20) (hrec : ∀ s, s ∈ ls → CsSpec gl s) {k : Nat} {ks : Ks} (hkb : KsB ks) {sg0 : Sg} (hk : sg0[k]? = some (true, iKs ks)) {ow : Ow} (Q : Ex → S → Prop) : ∀ (l : List Exp) (i : Nat) (n : Int) (fr : List PV) (sg : Sg), ls.drop i = l → Grow sg0 sg → 0 ≤ n → n ≤ 20002 →
    FrAt fr [(1, .mp k), (5, .t (.int .i64 n)), (17, .t (.sl nl (tExs ls))), (18, .t (.int .i64 ls.length)), (19, .t (.int .i64 i))] →
    (∀ fr' sg', Grow sg0 sg' → fget fr' 5 = .t (.int .i64 (csEs ks l n)) → Q (.exit 0) ⟨fr', sg', ow⟩) →
    Xl F gl lb108_0 ⟨fr, sg, ow⟩ Q ⟨⟩ := by
  intro l
  induction l with
  | nil =>
    intro i n fr sg hd hg hn0 hn1 hf k1
    have hd := drop_nil' hd
    simp only [FrAt_cons, FrAt_nil] at hf
    obtain ⟨f1, f5, f14, f15, f16, -⟩ := hf
    refine Xl.step ?_
    simp only [lb108_0]
    have c1 : ¬ ((i : Int) < (ls.length : Int)) := by omega
    have hem : csEs ks [] n = n := by rw [csEs]
    rw [hem] at k1
    simp only [wA, seval, reduceCtorEq, reduceIte, f1, f5, f14, f15, f16, c1]
    exact k1 _ _ hg (by simp only [FrAt_cons, FrAt_nil, wFr, Nat.reduceEqDiff, Nat.one_ne_zero, Nat.zero_ne_one, reduceIte, and_self, and_true, true_and, f5])
  | cons x l ih =>
    intro i n fr sg hd hg hn0 hn1 hf k1
    obtain ⟨hx, hr, hi⟩ := drop_cons hd
    simp only [FrAt_cons, FrAt_nil] at hf
    obtain ⟨f1, f5, f14, f15, f16, -⟩ := hf
    refine Xl.step ?_
    simp only [lb108_0]
    have c1 : (i : Int) < (ls.length : Int) := by omega
    have hw1 := i64_succ hi (show ls.length ≤ 281474976710656 by have : B20 = 1100000 := rfl; omega)
    rw [csEs] at k1
    have hcr := csE_range hkb x
    have hw2 : IntKind.wrap .i64 (n + csE ks x) = n + csE ks x := wrap_id (by omega) (by omega)
    have hs := fun r => hrec x (List.mem_of_getElem? hx) (sg ++ r) k ks ow (get_more (hg.get hk)) hkb
    simp only [tEx_eq] at hs
    simp only [wA, seval, reduceCtorEq, reduceIte, f1, f5, f14, f15, f16, c1, hw1, Int.toNat_natCast, hi, tExs_get, hx, Option.map_some, tEx_eq]
    refine CallE.mono (hs _) ?_
    rintro v sg' ow' ⟨rfl, hg', rfl⟩
    simp only [wA, seval, reduceCtorEq, reduceIte, f1, f5, f14, f15, f16, hw1, hw2, mxT]
    exact ih (i + 1) (mn 20001 (n + csE ks x)) _ _ hr (hg.trans ((Grow.app _ _).trans hg')) (mn_ge (by omega) (by omega)) (by have := mn_le 20001 (n + csE ks x); omega) (by simp only [FrAt_cons, FrAt_nil, wFr, Nat.reduceEqDiff, Nat.one_ne_zero, Nat.zero_ne_one, reduceIte, and_self, and_true, true_and, f1, f14, f15]; first | done | rfl) k1
theorem ok108 : ∀ e, szE e ≤ B20 → CsSpec gl e := by
  refine Exp.ind fun e ih hsz => ?_
  have hrec : ∀ a, a ∈ e.args → CsSpec gl a := fun a ha => ih a ha ((szE_args hsz).2 a ha)
  have hn : e.args.length ≤ B20 := (szE_args hsz).1
  intro sg k ks ow hk hkb
  refine XcE.of F108 rfl ?_
  simp only [ir108]
  have hkl := lt_of_get hk
  have hl := hkb e.name
  rw [csE_eq]
  have hr := csEs_range (ks := ks) e.args (fun x _ => csE_range hkb x) (if e.op = 5 then 1 + lookI e.name ks else 0) (by split <;> omega) (by split <;> omega)
  by_cases h5 : e.op = 5
  · have hw : IntKind.wrap .i64 (1 + lookI e.name ks) = 1 + lookI e.name ks := wrap_id (by omega) (by omega)
    rw [if_pos h5]
    have hgd : Option.getD (Option.map (fun x => T.int .i64 x) (Ky.look e.name ks)) (T.int .i64 0) = T.int .i64 (lookI e.name ks) := by
      unfold lookI; cases Ky.look e.name ks <;> rfl
    simp only [wA, seval, reduceCtorEq, reduceIte, tEx_eq, h5, app_get hkl, hk, mlkP, mfind_ents, hgd, hw, tExs_len]
    refine loop108 hn hrec hkb (get_more hk) _ e.args 0 (1 + lookI e.name ks) _ _ rfl (Grow.refl _) (by omega) (by omega) (by simp only [FrAt_cons, FrAt_nil, wFr, Nat.reduceEqDiff, Nat.one_ne_zero, Nat.zero_ne_one, reduceIte, and_self, and_true, true_and]; first | done | exact ⟨rfl, rfl⟩ | rfl) ?_
    intro fr' sg' hg f5
    simp only [wA, seval, reduceCtorEq, reduceIte, f5, mxT]
    exact ⟨rfl, (Grow.app _ _).trans hg⟩
  · rw [if_neg h5]
    simp only [wA, seval, reduceCtorEq, reduceIte, tEx_eq, h5, tExs_len]
    refine loop108 hn hrec hkb (get_more hk) _ e.args 0 0 _ _ rfl (Grow.refl _) (by omega) (by omega) (by simp only [FrAt_cons, FrAt_nil, wFr, Nat.reduceEqDiff, Nat.one_ne_zero, Nat.zero_ne_one, reduceIte, and_self, and_true, true_and]; first | done | exact ⟨rfl, rfl⟩ | rfl) ?_
    intro fr' sg' hg f5
    simp only [wA, seval, reduceCtorEq, reduceIte, f5, mxT]
    exact ⟨rfl, (Grow.app _ _).trans hg⟩
/-- The steps of a list of statements. -/
def LsSpec (gl : Nat → Option (List T)) (l : List St) : Prop :=
  ∀ (nl : Bool) (sg : Sg) (k : Nat) (ks : Ks) (ow : Ow), sg[k]? = some (true, iKs ks) → KsB ks → CallE F gl 107 [.t (.sl nl (tSts l)), .mp k] sg ow fun v sg' ow' => v = .t (.int .i64 (bsSs ks l 0)) ∧ Grow sg sg' ∧ ow' = ow
theorem loop107 {ls : List St} {nl : Bool} (hls : ls.length ≤ B20) (hlk : ls.all lkS = true) (hsz : ∀ s, s ∈ ls → szE s.ex ≤ B20) (hrec : ∀ s, s ∈ ls → s.kind = 3 → LsSpec gl s.body) {k : Nat} {ks : Ks} (hkb : KsB ks) {sg0 : Sg} (hk : sg0[k]? = some (true, iKs ks)) {ow : Ow} (Q : Ex → S → Prop) : ∀ (l : List St) (i : Nat) (n : Int) (fr : List PV) (sg : Sg), ls.drop i = l → Grow sg0 sg → 0 ≤ n → n ≤ 20001 →
    FrAt fr [(1, .mp k), (5, .t (.int .i64 n)), (8, .t (.sl nl (tSts ls))), (9, .t (.int .i64 ls.length)), (10, .t (.int .i64 i))] →
    (∀ fr' sg', Grow sg0 sg' → fget fr' 5 = .t (.int .i64 (bsSs ks l n)) → Q (.exit 0) ⟨fr', sg', ow⟩) →
    Xl F gl lb107_0 ⟨fr, sg, ow⟩ Q ⟨⟩ := by
  intro l
  induction l with
  | nil =>
    intro i n fr sg hd hg hn0 hn1 hf k1
    have hd := drop_nil' hd
    simp only [FrAt_cons, FrAt_nil] at hf
    obtain ⟨f1, f5, f14, f15, f16, -⟩ := hf
    refine Xl.step ?_
    simp only [lb107_0]
    have c1 : ¬ ((i : Int) < (ls.length : Int)) := by omega
    have hem : bsSs ks [] n = n := by rw [bsSs]
    rw [hem] at k1
    simp only [wA, seval, reduceCtorEq, reduceIte, f1, f5, f14, f15, f16, c1]
    exact k1 _ _ hg (by simp only [FrAt_cons, FrAt_nil, wFr, Nat.reduceEqDiff, Nat.one_ne_zero, Nat.zero_ne_one, reduceIte, and_self, and_true, true_and, f5])
  | cons x l ih =>
    intro i n fr sg hd hg hn0 hn1 hf k1
    obtain ⟨hx, hr, hi⟩ := drop_cons hd
    simp only [FrAt_cons, FrAt_nil] at hf
    obtain ⟨f1, f5, f14, f15, f16, -⟩ := hf
    refine Xl.step ?_
    simp only [lb107_0]
    have c1 : (i : Int) < (ls.length : Int) := by omega
    have hw1 := i64_succ hi (show ls.length ≤ 281474976710656 by have : B20 = 1100000 := rfl; omega)
    rw [bsSs] at k1
    have hmem := List.mem_of_getElem? hx
    have hlx := List.all_eq_true.1 hlk x hmem
    have hbr := bsS_range hkb x hlx
    have hw2 : IntKind.wrap .i64 (n + bsS ks x) = n + bsS ks x := wrap_id (by omega) (by omega)
    have hbe := bsS_eq ks x
    have hgk := hg.get hk
    have cell : ∀ r : Sg, ∀ sg', Grow (sg ++ (false, [PV.t (.int .i64 x.kind), .t (.str x.name), .t (.bool x.typed), .t (.int .i64 x.ty.kind), .t (.int .i64 x.ty.bits), .t (.int .i64 x.ty.len), .t (.int .i64 x.ex.op), .t (.int .u64 x.ex.val), .t (.str x.ex.name), .t (.sl x.ex.nl (tExs x.ex.args)), .t (.int .i64 x.lo), .t (.int .i64 x.hi), .t (.sl x.nl (tSts x.body))]) :: r) sg' → sg'[sg.length]? = some (false, [PV.t (.int .i64 x.kind), .t (.str x.name), .t (.bool x.typed), .t (.int .i64 x.ty.kind), .t (.int .i64 x.ty.bits), .t (.int .i64 x.ty.len), .t (.int .i64 x.ex.op), .t (.int .u64 x.ex.val), .t (.str x.ex.name), .t (.sl x.ex.nl (tExs x.ex.args)), .t (.int .i64 x.lo), .t (.int .i64 x.hi), .t (.sl x.nl (tSts x.body))]) := fun r sg' h => h.get (by simp)
    by_cases h3 : x.kind = 3
    · rw [if_pos h3] at hbe
      have hlx2 := hlx
      rw [lkS_eq, if_pos h3] at hlx2
      simp only [Bool.and_eq_true, decide_eq_true_eq] at hlx2
      obtain ⟨⟨⟨l1, l2⟩, l3⟩, l4⟩ := hlx2
      have hw3 : IntKind.wrap .i64 (x.hi - x.lo) = x.hi - x.lo := wrap_id (by omega) (by omega)
      have hw4 : IntKind.wrap .i64 ((x.hi - x.lo) * bsSs ks x.body 0) = bsS ks x := by rw [← hbe]; exact wrap_id (by omega) (by omega)
      have hs := fun r => hrec x hmem h3 x.nl (sg ++ r) k ks ow (get_more hgk) hkb
      simp only [h3] at cell
      simp only [wA, seval, reduceCtorEq, reduceIte, f1, f5, f14, f15, f16, c1, hw1, hw3, Int.toNat_natCast, hi, tSts_get, hx, Option.map_some, tSt_eq, h3, keepsV_cons, keepsV_nil, keepP, keep1_self, loadK]
      refine CallE.mono (hs _) ?_
      rintro v sg' ow' ⟨rfl, hg', rfl⟩
      have jc := cell _ _ hg'
      simp only [wA, seval, reduceCtorEq, reduceIte, f1, f5, f14, f15, f16, hw1, hw2, hw4, mxT, jc, keepsV_cons, keepsV_nil, keepP, keep1_self]
      exact ih (i + 1) (mn (n + bsS ks x) 20001) _ _ hr (hg.trans ((Grow.app _ _).trans hg')) (mn_ge (by omega) (by omega)) (mn_le _ _).2 (by simp only [FrAt_cons, FrAt_nil, wFr, Nat.reduceEqDiff, Nat.one_ne_zero, Nat.zero_ne_one, reduceIte, and_self, and_true, true_and, f1, f14, f15]; first | done | rfl) k1
    · rw [if_neg h3] at hbe
      have hs := fun r => ok108 (gl := gl) x.ex (hsz x hmem) (sg ++ r) k ks ow (get_more hgk) hkb
      have hcr := csE_range hkb x.ex
      have hw3 : IntKind.wrap .i64 (1 + csE ks x.ex) = bsS ks x := by rw [hbe]; exact wrap_id (by omega) (by omega)
      simp only [tEx_eq] at hs
      simp only [wA, seval, reduceCtorEq, reduceIte, f1, f5, f14, f15, f16, c1, hw1, Int.toNat_natCast, hi, tSts_get, hx, Option.map_some, tSt_eq, h3]
      refine CallE.mono (hs _) ?_
      rintro v sg' ow' ⟨rfl, hg', rfl⟩
      simp only [wA, seval, reduceCtorEq, reduceIte, f1, f5, f14, f15, f16, hw1, hw2, hw3, mxT]
      exact ih (i + 1) (mn (n + bsS ks x) 20001) _ _ hr (hg.trans ((Grow.app _ _).trans hg')) (mn_ge (by omega) (by omega)) (mn_le _ _).2 (by simp only [FrAt_cons, FrAt_nil, wFr, Nat.reduceEqDiff, Nat.one_ne_zero, Nat.zero_ne_one, reduceIte, and_self, and_true, true_and, f1, f14, f15]; first | done | rfl) k1
theorem okl107 {ls : List St} (hls : ls.length ≤ B20) (hlk : ls.all lkS = true) (hsz : ∀ s, s ∈ ls → szE s.ex ≤ B20) (hrec : ∀ s, s ∈ ls → s.kind = 3 → LsSpec gl s.body) : LsSpec gl ls := by
  intro nl sg k ks ow hk hkb
  refine XcE.of F107 rfl ?_
  simp only [ir107]
  simp only [wA, seval, reduceCtorEq, reduceIte, tSts_len]
  refine loop107 hls hlk hsz hrec hkb hk _ ls 0 0 _ _ rfl (Grow.refl _) (by omega) (by omega) (by simp only [FrAt_cons, FrAt_nil, wFr, Nat.reduceEqDiff, Nat.one_ne_zero, Nat.zero_ne_one, reduceIte, and_self, and_true, true_and]; first | done | exact ⟨rfl, rfl⟩ | rfl) ?_
  intro fr' sg' hg f5
  simp only [wA, seval, reduceCtorEq, reduceIte, f5]
  exact hg
theorem okr107 : ∀ s, lkS s = true → szS s ≤ B20 → s.kind = 3 → LsSpec gl s.body := by
  refine St.ind fun s ih hlk hsz h3 => ?_
  rw [lkS_eq, if_pos h3] at hlk
  simp only [Bool.and_eq_true] at hlk
  have hb := szS_body hsz
  exact okl107 hb.1 hlk.2 (fun x hx => Nat.le_trans (szS_ex x) (hb.2 x hx)) (fun x hx h => ih x hx (List.all_eq_true.1 hlk.2 x hx) (hb.2 x hx) h)
theorem ok107 {ls : List St} (hlk : ls.all lkS = true) (hsz : szSs ls ≤ B20) : LsSpec gl ls :=
  okl107 (Nat.le_trans (szSs_len _) hsz) hlk (fun x hx => Nat.le_trans (szS_ex x) (Nat.le_trans (szSs_mem hx) hsz)) fun x hx h => okr107 x (List.all_eq_true.1 hlk x hx) (Nat.le_trans (szSs_mem hx) hsz) h
theorem loop63 {ls : List Fu} {nl : Bool} (hls : ls.length ≤ B20) (hlk : ∀ f, f ∈ ls → f.body.all lkS = true ∧ szSs f.body ≤ B20 ∧ szE f.ret ≤ B20) {k : Nat} {b1 : Nat} {sg0 : Sg} (hk0 : k < sg0.length) {ow : Ow} (Q : Ex → S → Prop) : ∀ (l : List Fu) (i : Nat) (ks : Ks) (fr : List PV) (sg : Sg), ls.drop i = l → Fr k sg0 sg → KsB ks → sg[k]? = some (true, iKs ks) →
    FrAt fr [(1, .lp b1 0), (3, .mp k), (8, .t (.sl nl (ls.map fun f => tFu f))), (9, .t (.int .i64 ls.length)), (10, .t (.int .i64 i))] →
    (∀ fr' sg', Fr k sg0 sg' → KsB (stepK l ks) → sg'[k]? = some (true, iKs (stepK l ks)) → FrAt fr' [(1, .lp b1 0), (3, .mp k)] → Q (.exit 0) ⟨fr', sg', ow⟩) →
    Xl F gl lb63_0 ⟨fr, sg, ow⟩ Q ⟨⟩ := by
  intro l
  induction l with
  | nil =>
    intro i ks fr sg hd hg hkb hk hf k1
    have hd := drop_nil' hd
    simp only [FrAt_cons, FrAt_nil] at hf
    obtain ⟨f1, f3, f14, f15, f16, -⟩ := hf
    refine Xl.step ?_
    simp only [lb63_0]
    have c1 : ¬ ((i : Int) < (ls.length : Int)) := by omega
    have hem : stepK [] ks = ks := by rw [stepK]
    rw [hem] at k1
    simp only [wA, seval, reduceCtorEq, reduceIte, f1, f3, f14, f15, f16, c1]
    exact k1 _ _ hg hkb hk (by simp only [FrAt_cons, FrAt_nil, wFr, Nat.reduceEqDiff, Nat.one_ne_zero, Nat.zero_ne_one, reduceIte, and_self, and_true, true_and, f1, f3])
  | cons x l ih =>
    intro i ks fr sg hd hg hkb hk hf k1
    obtain ⟨hx, hr, hi⟩ := drop_cons hd
    simp only [FrAt_cons, FrAt_nil] at hf
    obtain ⟨f1, f3, f14, f15, f16, -⟩ := hf
    refine Xl.step ?_
    simp only [lb63_0]
    have c1 : (i : Int) < (ls.length : Int) := by omega
    have hw1 := i64_succ hi (show ls.length ≤ 281474976710656 by have : B20 = 1100000 := rfl; omega)
    rw [stepK] at k1
    obtain ⟨x1, x2, x3⟩ := hlk x (List.mem_of_getElem? hx)
    have hbr := bsSs_range (ks := ks) x.body (fun s hs => (bsS_range hkb s (List.all_eq_true.1 x1 s hs)).1) 0 (by omega) (by omega)
    have hcr := csE_range hkb x.ret
    have hw2 : IntKind.wrap .i64 (bsSs ks x.body 0 + csE ks x.ret) = bsSs ks x.body 0 + csE ks x.ret := wrap_id (by omega) (by omega)
    have hs1 := fun r => ok107 (gl := gl) x1 x2 x.bnl (sg ++ r) k ks ow (get_more hk) hkb
    have hs2 := fun sg2 (h : sg2[k]? = some (true, iKs ks)) => ok108 (gl := gl) x.ret x3 sg2 k ks ow h hkb
    simp only [tEx_eq] at hs2
    have cell : ∀ r : Sg, ∀ sg', Grow (sg ++ (false, cFu x) :: r) sg' → sg'[sg.length]? = some (false, cFu x) := fun r sg' h => h.get (by simp)
    simp only [wA, seval, reduceCtorEq, reduceIte, f1, f3, f14, f15, f16, c1, hw1, Int.toNat_natCast, hi, List.getElem?_map, hx, Option.map_some, keepsV_cons, keepsV_nil, keepP, keep1_self, loadK]
    refine CallE.mono (hs1 _) ?_
    rintro v sg1 ow1 ⟨rfl, hg1, rfl⟩
    have jc := cell _ _ hg1
    have hk1 := hg1.get (get_more hk)
    simp only [wA, seval, reduceCtorEq, reduceIte, f1, f3, f14, f15, f16, hw1, jc, keepsV_cons, keepsV_nil, keepP, keep1_self, loadK]
    refine CallE.mono (hs2 _ hk1) ?_
    rintro v sg2 ow2 ⟨rfl, hg2, rfl⟩
    have jc2 := hg2.get jc
    have hk2 := hg2.get hk1
    have hmp := mset_put x.name (mn 20001 (bsSs ks x.body 0 + csE ks x.ret)) ks
    have hkl2 := lt_of_get hk2
    simp only [wA, seval, reduceCtorEq, reduceIte, f1, f3, f14, f15, f16, hw1, hw2, jc, jc2, hk2, keepsV_cons, keepsV_nil, keepP, keep1_self, loadK, mxT, mupP, mfind_ents]
    refine ih (i + 1) (putK x.name (mn 20001 (bsSs ks x.body 0 + csE ks x.ret)) ks) _ _ hr ((hg.trans (Fr.of ((Grow.app _ _).trans (hg1.trans hg2)))).set _) (hkb.put _ (mn_ge (by omega) (by omega)) (mn_le _ _).1) (by rw [List.getElem?_set_self hkl2]; exact congrArg (fun y => some (true, y)) hmp) (by simp only [FrAt_cons, FrAt_nil, wFr, Nat.reduceEqDiff, Nat.one_ne_zero, Nat.zero_ne_one, reduceIte, and_self, and_true, true_and, f1, f3, f14, f15]; first | done | rfl) k1
theorem ok63 {p : Pg} (hp : PgSt p) (hl1 : ∀ f, f ∈ p.funcs → f.body.all lkS = true) (hl2 : p.body.all lkS = true) {K : PV → Prop} : XcP F gl 63 [.agg (tPg p)] K ⟨⟩ ↔ K (.t (.int .i64 (stepsP p))) := by
  refine Ret.iff (Ret.of F63 rfl ?_)
  simp only [ir63]
  simp only [wA, seval, reduceCtorEq, reduceIte, List.length_map]
  refine loop63 hp.fl (fun f hf => ⟨hl1 f hf, (hp.fs f hf).2.1, (hp.fs f hf).2.2⟩) (k := 1) (b1 := 0) (sg0 := [(false, [PV.t (.sl p.fnl (p.funcs.map fun f => tFu f)), .t (.sl p.dnl (p.decls.map fun f => tDe f)), .t (.sl p.bnl (tSts p.body))]), (true, [])]) (by simp) _ p.funcs 0 [] _ _ rfl (Fr.refl _ _) KsB.nil rfl (by simp only [FrAt_cons, FrAt_nil, wFr, Nat.reduceEqDiff, Nat.one_ne_zero, Nat.zero_ne_one, reduceIte, and_self, and_true, true_and]; first | done | exact ⟨rfl, rfl⟩ | rfl) ?_
  intro fr' sg' hg hkb hk hf
  simp only [FrAt_cons, FrAt_nil] at hf
  obtain ⟨f1, f3, -⟩ := hf
  have j0 := hg.get (i := 0) (x := (false, [PV.t (.sl p.fnl (p.funcs.map fun f => tFu f)), .t (.sl p.dnl (p.decls.map fun f => tDe f)), .t (.sl p.bnl (tSts p.body))])) rfl (by omega)
  simp only [wA, seval, reduceCtorEq, reduceIte, f1, f3, j0]
  refine CallE.mono (ok107 hl2 hp.bs p.bnl sg' 1 _ _ hk hkb) ?_
  rintro v sg2 ow2 ⟨rfl, hg2, rfl⟩
  simp only [wA, seval, reduceCtorEq, reduceIte]
  rfl
end Go.Proofs.YtdjcnfacjfnakaaGreat
