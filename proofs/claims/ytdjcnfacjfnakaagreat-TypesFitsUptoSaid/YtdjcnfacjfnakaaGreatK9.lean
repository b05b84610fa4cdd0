/- Contracts: depths of statements; Valid. -/
import Derived.Test.YtdjcnfacjfnakaaGreatK5
import Derived.Test.YtdjcnfacjfnakaaGreatPi32
import Derived.Test.YtdjcnfacjfnakaaGreatKx27
set_option maxRecDepth 10000
set_option linter.unusedVariables false
set_option linter.unusedSimpArgs false
namespace Go.Proofs.YtdjcnfacjfnakaaGreat
open Go.Pi Go.Lx Go.Ky
variable {gl : Nat → Option (List T)}

theorem loop148 {l : List St} {nl : Bool} (hs : szSs l ≤ B20) (hd : ∀ x, x ∈ l → ∀ K, XcP F gl 148 [.agg (tSt x)] K ⟨⟩ ↔ K (.t (.int .i64 (dSt x : Nat)))) {ow : Ow} (Q : Ex → S → Prop) : ∀ (r : List St) (i acc : Nat) (fr : List PV) (sg : Sg), l.drop i = r →
    FrAt fr [(3, .t (.int .i64 (acc : Nat))), (7, .t (.sl nl (tSts l))), (8, .t (.int .i64 l.length)), (9, .t (.int .i64 i))] →
    (∀ fr' sg', fget fr' 3 = .t (.int .i64 ((max acc (dSts r) : Nat) : Int)) → Q (.exit 0) ⟨fr', sg', ow⟩) →
    Xl F gl lb148_0 ⟨fr, sg, ow⟩ Q ⟨⟩ := by
  intro r
  induction r with
  | nil =>
    intro i acc fr sg hdr hf h1
    have hdr := drop_nil' hdr
    simp only [FrAt_cons, FrAt_nil] at hf
    obtain ⟨f3, f7, f8, f9, -⟩ := hf
    refine Xl.step ?_
    simp only [lb148_0]
    have c1 : ¬ ((i : Int) < (l.length : Int)) := by omega
    simp only [wA, seval, reduceCtorEq, reduceIte, f3, f7, f8, f9, c1]
    refine h1 _ _ ?_
    simp only [FrAt_cons, FrAt_nil, wFr, Nat.reduceEqDiff, Nat.one_ne_zero, Nat.zero_ne_one, reduceIte, and_self, and_true, true_and, f3, dSts, Nat.max_zero]
  | cons x r ih =>
    intro i acc fr sg hdr hf h1
    obtain ⟨hx, hr, hi⟩ := drop_cons hdr
    simp only [FrAt_cons, FrAt_nil] at hf
    obtain ⟨f3, f7, f8, f9, -⟩ := hf
    refine Xl.step ?_
    simp only [lb148_0]
    have c1 : (i : Int) < (l.length : Int) := by omega
    have hll := szSs_len l
    have hw1 := i64_succ hi (show l.length ≤ 281474976710656 by have : B20 = 1100000 := rfl; omega)
    have hc := hd x (List.mem_of_getElem? hx)
    simp only [tSt_eq] at hc
    simp only [wA, seval, reduceCtorEq, reduceIte, f3, f7, f8, f9, c1, hw1, tSts_get, hx, tSt_eq, Int.toNat_natCast, hc, mxT, imax_nat]
    refine ih (i + 1) (max acc (dSt x)) _ _ hr (by simp only [FrAt_cons, FrAt_nil, wFr, Nat.reduceEqDiff, Nat.one_ne_zero, Nat.zero_ne_one, reduceIte, and_self, and_true, true_and, f7, f8]) fun fr' sg' h => h1 fr' sg' ?_
    rw [h, dSts, Nat.max_assoc]
theorem ok148 : ∀ e : St, szS e ≤ B20 → ∀ K, XcP F gl 148 [.agg (tSt e)] K ⟨⟩ ↔ K (.t (.int .i64 (dSt e : Nat))) := by
  refine St.ind fun e ih hs K => ?_
  refine Ret.iff (Ret.of F148 rfl ?_)
  have hse := szS_eq e
  have hdl := dSt_le e
  have hsl : szSs e.body ≤ B20 := by omega
  simp only [ir148, tSt_eq]
  simp only [wA, seval, reduceCtorEq, reduceIte, tSts_len]
  refine loop148 hsl (fun x hx => ih x hx (Nat.le_trans (szSs_mem hx) hsl)) _ e.body 0 0 _ _ rfl (by simp only [FrAt_cons, FrAt_nil, wFr, Nat.reduceEqDiff, Nat.one_ne_zero, Nat.zero_ne_one, reduceIte, and_self, and_true, true_and]; first | done | exact ⟨rfl, rfl⟩ | exact rfl) fun fr' sg' h => ?_
  have hw : IntKind.wrap .i64 (((max 0 (dSts e.body) : Nat) : Int) + 1) = ((dSt e : Nat) : Int) := by
    have := dSt_eq e
    rw [IntWalk.i64_in _ (by have : B20 = 1100000 := rfl; omega)]
    omega
  simp only [wA, seval, reduceCtorEq, reduceIte, h, hw]
theorem sy147 (e : Exp) (hs : szE e ≤ B20) : Says (gl := gl) 147 (.agg (tEx e)) (shE e) := by
  intro sg ow
  have hd := ok184 (gl := gl) e hs
  simp only [tEx_eq] at hd
  refine XcE.of F147 rfl ?_
  simp only [ir147, tEx_eq]
  simp only [wA, seval, reduceCtorEq, reduceIte, hd]
  exact ⟨rfl, Grow.app _ _⟩
theorem sy102 : ∀ s : St, StOk s → szS s ≤ B20 → Says (gl := gl) 102 (.agg (tSt s)) (shS s) := by
  refine St.ind fun s ih ho hs sg ow => ?_
  have hse := szS_eq s
  have hex := szS_ex s
  cases ho with | mk _ h1 h2 h3 h4 h5 h6 h7 h8 h =>
  have hd := ok148 (gl := gl) s hs
  have hE := fun K => (sy147 (gl := gl) s.ex (by omega)).call (K := K)
  have hev := fun sg' => ok99 (gl := gl) (nl := s.nl) h7 (fun x hx => ih x hx (h x hx) (by have := szSs_mem hx; omega)) sg' ow
  simp only [tSt_eq] at hd
  simp only [tEx_eq] at hE
  refine XcE.of F102 rfl ?_
  rw [shS_eq]
  simp only [ir102, tSt_eq]
  simp only [wA, seval, reduceCtorEq, reduceIte, hd, hE]
  repeat' ((with_reducible first | refine xG_dec ?_ ?_ | refine xG_ndec ?_ ?_ | refine xG_nsplit ?_ ?_ | refine xG_split ?_ ?_ | refine xC_dec ?_ ?_ | refine xC_ndec ?_ ?_ | refine xC_nsplit ?_ ?_ | refine xC_split ?_ ?_) <;> intro h <;> (try simp only [wA, seval, reduceCtorEq, reduceIte, hd, hE, h]))
  any_goals (refine CallE.mono (hev _) ?_; rintro v sg' ow' ⟨rfl, ⟨r, rfl⟩, rfl⟩; ((simp only [wA, seval, reduceCtorEq, reduceIte]); (repeat' ((with_reducible first | refine xG_dec ?_ ?_ | refine xG_ndec ?_ ?_ | refine xG_nsplit ?_ ?_ | refine xG_split ?_ ?_ | refine xC_dec ?_ ?_ | refine xC_ndec ?_ ?_ | refine xC_nsplit ?_ ?_ | refine xC_split ?_ ?_) <;> intro h <;> (try simp only [wA, seval, reduceCtorEq, reduceIte, h])))))
  all_goals (refine ⟨?_, Grow.app _ _⟩; simp only [PV.t.injEq, T.bool.injEq])
  all_goals simp_all
theorem sy101 (f : Fu) (ho : FuOk f) (hb : szSs f.body ≤ B20) (he : szE f.ret ≤ B20) : Says (gl := gl) 101 (.agg (tFu f)) (shF f) := by
  intro sg ow
  have hE := fun K => (sy147 (gl := gl) f.ret he).call (K := K)
  have hev := fun sg' => ok99 (gl := gl) (nl := f.bnl) ho.bl (fun x hx => sy102 x (ho.bo x hx) (by have := szSs_mem hx; omega)) sg' ow
  simp only [tEx_eq] at hE
  refine XcE.of F101 rfl ?_
  simp only [ir101]
  unfold shF
  simp only [wA, seval, reduceCtorEq, reduceIte, hE]
  refine CallE.mono (hev _) ?_
  rintro v sg' ow' ⟨rfl, ⟨r, rfl⟩, rfl⟩
  cases c : f.body.all shS with
  | false =>
    simp only [wA, seval, reduceCtorEq, reduceIte, hE, c, Bool.false_and]
    exact Grow.app _ _
  | true =>
    simp only [wA, seval, reduceCtorEq, reduceIte, hE, c, Bool.true_and]
    exact Grow.app _ _
/-- How much a program's parts hold. -/
structure PgSz (p : Pg) : Prop where
  fu : ∀ f, f ∈ p.funcs → szSs f.body ≤ B20 ∧ szE f.ret ≤ B20
  bo : szSs p.body ≤ B20
set_option maxHeartbeats 1000000 in
theorem ok61 (p : Pg) (ho : PgOk p) (hs : PgSz p) {K : PV → Prop} : XcP F gl 61 [.agg (tPg p)] K ⟨⟩ ↔ K (.t (.int .i64 (validP p))) := by
  refine Ret.iff (Ret.of F61 rfl ?_)
  have h1 := fun sg' ow => ok95 (gl := gl) (nl := p.fnl) ho.fl (fun x hx => sy96 x (ho.fo x hx)) sg' ow
  have h2 := fun sg' ow => ok97 (gl := gl) (nl := p.dnl) ho.dl (fun x hx => sy98 x (ho.dok x hx)) sg' ow
  have h3 := fun sg' ow => ok99 (gl := gl) (nl := p.bnl) ho.bl (fun x hx => sy100 x (ho.bo x hx)) sg' ow
  have h4 := fun sg' ow => ok95 (gl := gl) (nl := p.fnl) ho.fl (fun x hx => sy101 x (ho.fo x hx) (hs.fu x hx).1 (hs.fu x hx).2) sg' ow
  have h5 := fun sg' ow => ok99 (gl := gl) (nl := p.bnl) ho.bl (fun x hx => sy102 x (ho.bo x hx) (by have := szSs_mem hx; have := hs.bo; omega)) sg' ow
  simp only [ir61]
  unfold validP
  simp only [wA, seval, reduceCtorEq, reduceIte]
  refine CallE.mono (h1 _ _) ?_
  rintro v sg' ow' ⟨rfl, ⟨r1, rfl⟩, rfl⟩
  have done : ∀ (sg : Sg) (a : Int), True := fun _ _ => trivial
  cases c1 : p.funcs.all fuB with
  | false =>
    simp only [wA, seval, reduceCtorEq, reduceIte, c1, Bool.false_and]
  | true =>
    simp only [wA, seval, reduceCtorEq, reduceIte, c1, Bool.true_and]
    refine CallE.mono (h2 _ _) ?_
    rintro v sg' ow' ⟨rfl, ⟨r2, rfl⟩, rfl⟩
    cases c2 : p.decls.all deB with
    | false =>
      simp only [wA, seval, reduceCtorEq, reduceIte, c2, Bool.false_and]
    | true =>
      simp only [wA, seval, reduceCtorEq, reduceIte, c2, Bool.true_and]
      refine CallE.mono (h3 _ _) ?_
      rintro v sg' ow' ⟨rfl, ⟨r3, rfl⟩, rfl⟩
      cases c3 : p.body.all stB with
      | false =>
        simp only [wA, seval, reduceCtorEq, reduceIte, c3]
      | true =>
        simp only [wA, seval, reduceCtorEq, reduceIte, c3]
        refine CallE.mono (h4 _ _) ?_
        rintro v sg' ow' ⟨rfl, ⟨r4, rfl⟩, rfl⟩
        cases c4 : p.funcs.all shF with
        | false =>
          simp only [wA, seval, reduceCtorEq, reduceIte, c4, Bool.false_and]
        | true =>
          simp only [wA, seval, reduceCtorEq, reduceIte, c4, Bool.true_and]
          refine CallE.mono (h5 _ _) ?_
          rintro v sg' ow' ⟨rfl, ⟨r5, rfl⟩, rfl⟩
          cases c5 : p.body.all shS with
          | false =>
            simp only [wA, seval, reduceCtorEq, reduceIte, c5]
          | true =>
            simp only [wA, seval, reduceCtorEq, reduceIte, c5]
end Go.Proofs.YtdjcnfacjfnakaaGreat

/- Contracts: types. -/
set_option maxRecDepth 10000
set_option linter.unusedVariables false
set_option linter.unusedSimpArgs false
namespace Go.Proofs.YtdjcnfacjfnakaaGreat
open Go.Pi Go.Lx Go.Ky Go.Lib
variable {gl : Nat → Option (List T)}

/-- The number of bits. -/
def lenI (x : Int) : Int := if x = 0 then 0 else (x.toNat.log2 : Int) + 1
theorem lenI_spec {x : Int} (h : 0 < x) : (2 : Int) ^ (lenI x - 1).toNat ≤ x ∧ x < 2 ^ (lenI x).toNat ∧ 0 < lenI x := by
  have hne : x.toNat ≠ 0 := by omega
  have e : lenI x = (x.toNat.log2 : Int) + 1 := by unfold lenI; rw [if_neg (by omega)]
  have h1 := Nat.log2_self_le hne
  have h2 := @Nat.lt_log2_self x.toNat
  rw [e]
  have e1 : ((x.toNat.log2 : Int) + 1 - 1).toNat = x.toNat.log2 := by omega
  have e2 : ((x.toNat.log2 : Int) + 1).toNat = x.toNat.log2 + 1 := by omega
  rw [e1, e2]
  have c1 : ((2 : Int) ^ x.toNat.log2) = ((2 ^ x.toNat.log2 : Nat) : Int) := by push_cast; rfl
  have c2 : ((2 : Int) ^ (x.toNat.log2 + 1)) = ((2 ^ (x.toNat.log2 + 1) : Nat) : Int) := by push_cast; rfl
  rw [c1, c2]
  omega
theorem lenI_le {x : Int} (h0 : 0 ≤ x) {k : Nat} (h : x < 2 ^ k) : lenI x ≤ k := by
  unfold lenI
  split
  · omega
  · rename_i hne
    have : x.toNat < 2 ^ k := by
      have c1 : ((2 : Int) ^ k) = ((2 ^ k : Nat) : Int) := by push_cast; rfl
      omega
    have := (Nat.log2_lt (n := x.toNat) (k := k) (by omega)).2 this
    omega
theorem lenI_div {x : Int} {k : Nat} (h : (2 : Int) ^ k ≤ x) : lenI x = k + lenI (x / 2 ^ k) := by
  have hp : 0 < 2 ^ k := Nat.two_pow_pos k
  have c1 : ((2 : Int) ^ k) = ((2 ^ k : Nat) : Int) := by push_cast; rfl
  rw [c1] at h ⊢
  have hx : 0 < x := by omega
  obtain ⟨n, rfl⟩ := Int.eq_ofNat_of_zero_le (a := x) (by omega)
  have hn : 2 ^ k ≤ n := by omega
  have hq : 0 < n / 2 ^ k := Nat.div_pos hn hp
  have e : ((n : Int) / ((2 ^ k : Nat) : Int)) = ((n / 2 ^ k : Nat) : Int) := rfl
  rw [e]
  unfold lenI
  rw [if_neg (by omega), if_neg (by omega)]
  simp only [Int.toNat_natCast]
  have : n.log2 = k + (n / 2 ^ k).log2 := by
    have h1 := Nat.log2_self_le (n := n / 2 ^ k) (by omega)
    have h2 := @Nat.lt_log2_self (n / 2 ^ k)
    rw [Nat.le_div_iff_mul_le hp, ← Nat.pow_add] at h1
    rw [Nat.div_lt_iff_lt_mul hp, ← Nat.pow_add] at h2
    have h3 := (Nat.le_log2 (n := n) (k := (n / 2 ^ k).log2 + k) (by omega)).2 h1
    have h4 := (Nat.log2_lt (n := n) (k := (n / 2 ^ k).log2 + 1 + k) (by omega)).2 h2
    omega
  omega
def lenN (n : Nat) : Nat := if n = 0 then 0 else n.log2 + 1
theorem len8_all : ∀ n : Fin 256, st164_0[n.1]? = some (UInt8.ofNat (lenN n.1)) := by decide +kernel
theorem len8_at {x : Int} (h0 : 0 ≤ x) (h1 : x < 256) : ∃ b : UInt8, st164_0[x.toNat]? = some b ∧ ((b.toNat : Nat) : Int) = lenI x := by
  obtain ⟨n, rfl⟩ := Int.eq_ofNat_of_zero_le h0
  have ha := len8_all ⟨n, by omega⟩
  refine ⟨UInt8.ofNat (lenN n), by rw [Int.toNat_natCast]; exact ha, ?_⟩
  have hl := lenI_le h0 (k := 8) (by omega)
  unfold lenI at hl ⊢
  unfold lenN
  split
  · rename_i h
    rw [if_pos (by omega)]
    rfl
  · rename_i h
    rw [if_neg (by omega)] at hl ⊢
    rw [Int.toNat_natCast] at hl ⊢
    rw [UInt8.toNat_ofNat']
    omega
theorem ok164 {x : Int} (h0 : 0 ≤ x) (h1 : x ≤ 18446744073709551615) {K : PV → Prop} : XcP F gl 164 [.int .u64 x] K ⟨⟩ ↔ K (.t (.int .i64 (lenI x))) := by
  refine Ret.iff (Ret.of F164 rfl ?_)
  have e32 : ∀ z : Int, 4294967296 ≤ z → lenI z = 32 + lenI (z / 4294967296) := fun z hz => lenI_div (k := 32) hz
  have e16 : ∀ z : Int, 65536 ≤ z → lenI z = 16 + lenI (z / 65536) := fun z hz => lenI_div (k := 16) hz
  have e8 : ∀ z : Int, 256 ≤ z → lenI z = 8 + lenI (z / 256) := fun z hz => lenI_div (k := 8) hz
  have w48 : IntKind.i64.wrap 48 = 48 := by decide
  have w56 : IntKind.i64.wrap 56 = 56 := by decide
  have w16 : IntKind.i64.wrap 16 = 16 := by decide
  have w24 : IntKind.i64.wrap 24 = 24 := by decide
  have w40 : IntKind.i64.wrap 40 = 40 := by decide
  have w8 : IntKind.i64.wrap 8 = 8 := by decide
  have fin : ∀ (z n : Int), 0 ≤ z → z < 256 → 0 ≤ n → n ≤ 56 → ∃ b : UInt8, st164_0[(IntKind.u8.wrap z).toNat]? = some b ∧ 0 ≤ IntKind.u8.wrap z ∧ IntKind.i64.wrap (n + IntKind.i64.wrap (b.toNat : Int)) = n + lenI z := by
    intro z n hz hz2 hn hn2
    have hw : IntKind.u8.wrap z = z := IntWalk.u8_in z ⟨hz, by omega⟩
    rw [hw]
    obtain ⟨b, hb, hl⟩ := len8_at hz hz2
    refine ⟨b, hb, hz, ?_⟩
    have hle := lenI_le hz (k := 8) (by omega)
    have hb0 : 0 ≤ lenI z := by omega
    rw [hl, IntWalk.i64_in (lenI z) (by omega), IntWalk.i64_in _ (by omega)]
  simp only [ir164]
  simp only [wA, seval, reduceCtorEq, reduceIte, w48, w56, w16, w24, w40, w8, Int.zero_add, IntKind.bits, Nat.min_def, Int.reducePow, Int.fdiv_eq_ediv_of_nonneg, Int.reduceLE]
  repeat' ((with_reducible first | refine xG_dec ?_ ?_ | refine xG_ndec ?_ ?_ | refine xG_nsplit ?_ ?_ | refine xG_split ?_ ?_ | refine xC_dec ?_ ?_ | refine xC_ndec ?_ ?_ | refine xC_nsplit ?_ ?_ | refine xC_split ?_ ?_) <;> intro h <;> (try simp only [wA, seval, reduceCtorEq, reduceIte, w48, w56, w16, w24, w40, w8, Int.zero_add, IntKind.bits, Nat.min_def, Int.reducePow, Int.fdiv_eq_ediv_of_nonneg, Int.reduceLE, h]))
  · obtain ⟨b, hb, hb0, hw⟩ := fin (x / 4294967296 / 65536 / 256) 56 (by omega) (by omega) (by omega) (by omega)
    simp only [wA, seval, reduceCtorEq, reduceIte, hb, hb0, hw, w48, w56, w16, w24, w40, w8]
    repeat' ((with_reducible first | refine xG_dec ?_ ?_ | refine xG_ndec ?_ ?_ | refine xG_nsplit ?_ ?_ | refine xG_split ?_ ?_ | refine xC_dec ?_ ?_ | refine xC_ndec ?_ ?_ | refine xC_nsplit ?_ ?_ | refine xC_split ?_ ?_) <;> intro h <;> (try simp only [wA, seval, reduceCtorEq, reduceIte, hb, hb0, hw, w48, w56, w16, w24, w40, w8, h]))
    all_goals (congr 2; rw [e32 (x) (by omega), e16 (x / 4294967296) (by omega), e8 (x / 4294967296 / 65536) (by omega)]; try omega)
  · obtain ⟨b, hb, hb0, hw⟩ := fin (x / 4294967296 / 65536) 48 (by omega) (by omega) (by omega) (by omega)
    simp only [wA, seval, reduceCtorEq, reduceIte, hb, hb0, hw, w48, w56, w16, w24, w40, w8]
    all_goals (congr 2; rw [e32 (x) (by omega), e16 (x / 4294967296) (by omega)]; try omega)
  · obtain ⟨b, hb, hb0, hw⟩ := fin (x / 4294967296 / 256) 40 (by omega) (by omega) (by omega) (by omega)
    simp only [wA, seval, reduceCtorEq, reduceIte, hb, hb0, hw, w48, w56, w16, w24, w40, w8]
    all_goals (congr 2; rw [e32 (x) (by omega), e8 (x / 4294967296) (by omega)]; try omega)
  · obtain ⟨b, hb, hb0, hw⟩ := fin (x / 4294967296) 32 (by omega) (by omega) (by omega) (by omega)
    simp only [wA, seval, reduceCtorEq, reduceIte, hb, hb0, hw, w48, w56, w16, w24, w40, w8]
    all_goals (congr 2; rw [e32 (x) (by omega)]; try omega)
  · obtain ⟨b, hb, hb0, hw⟩ := fin (x / 65536 / 256) 24 (by omega) (by omega) (by omega) (by omega)
    simp only [wA, seval, reduceCtorEq, reduceIte, hb, hb0, hw, w48, w56, w16, w24, w40, w8]
    all_goals (congr 2; rw [e16 (x) (by omega), e8 (x / 65536) (by omega)]; try omega)
  · obtain ⟨b, hb, hb0, hw⟩ := fin (x / 65536) 16 (by omega) (by omega) (by omega) (by omega)
    simp only [wA, seval, reduceCtorEq, reduceIte, hb, hb0, hw, w48, w56, w16, w24, w40, w8]
    all_goals (congr 2; rw [e16 (x) (by omega)]; try omega)
  · obtain ⟨b, hb, hb0, hw⟩ := fin (x / 256) 8 (by omega) (by omega) (by omega) (by omega)
    simp only [wA, seval, reduceCtorEq, reduceIte, hb, hb0, hw, w48, w56, w16, w24, w40, w8]
    all_goals (congr 2; rw [e8 (x) (by omega)]; try omega)
  · obtain ⟨b, hb, hb0, hw⟩ := fin (x) 0 (by omega) (by omega) (by omega) (by omega)
    simp only [wA, seval, reduceCtorEq, reduceIte, hb, hb0, hw, w48, w56, w16, w24, w40, w8]
    all_goals (congr 2; omega)
theorem lenI_lenZ (x : Int) : lenI x = lenZ x := rfl
theorem ok186 (n : Int) {K : PV → Prop} : XcP F gl 186 [.int .i64 n] K ⟨⟩ ↔ K (.t (.agg [.int .i64 n, .int .i64 0, .int .i64 0])) := by
  refine Ret.iff (Ret.of F186 rfl ?_)
  simp only [ir186]
  simp only [wA, seval, reduceCtorEq, reduceIte]
  repeat' ((with_reducible first | refine xG_dec ?_ ?_ | refine xG_ndec ?_ ?_ | refine xG_nsplit ?_ ?_ | refine xG_split ?_ ?_ | refine xC_dec ?_ ?_ | refine xC_ndec ?_ ?_ | refine xC_nsplit ?_ ?_ | refine xC_split ?_ ?_) <;> intro h <;> (try simp only [wA, seval, reduceCtorEq, reduceIte, h]))
theorem ok209 (t : Ty) {K : PV → Prop} : XcP F gl 209 [.agg (tTy t)] K ⟨⟩ ↔ K (.t (.agg [.int .i64 t.kind, .int .i64 t.bits, .int .i64 0])) := by
  refine Ret.iff (Ret.of F209 rfl ?_)
  simp only [ir209]
  simp only [wA, seval, reduceCtorEq, reduceIte]
  repeat' ((with_reducible first | refine xG_dec ?_ ?_ | refine xG_ndec ?_ ?_ | refine xG_nsplit ?_ ?_ | refine xG_split ?_ ?_ | refine xC_dec ?_ ?_ | refine xC_ndec ?_ ?_ | refine xC_nsplit ?_ ?_ | refine xC_split ?_ ?_) <;> intro h <;> (try simp only [wA, seval, reduceCtorEq, reduceIte, h]))
theorem ok151 (t u : Ty) {K : PV → Prop} : XcP F gl 151 [.agg (tTy t), .agg (tTy u)] K ⟨⟩ ↔ K (.t (.bool (fitsB t u))) := by
  refine Ret.iff (Ret.of F151 rfl ?_)
  simp only [ir151]
  unfold fitsB
  simp only [wA, seval, reduceCtorEq, reduceIte]
  repeat' ((with_reducible first | refine xG_dec ?_ ?_ | refine xG_ndec ?_ ?_ | refine xG_nsplit ?_ ?_ | refine xG_split ?_ ?_ | refine xC_dec ?_ ?_ | refine xC_ndec ?_ ?_ | refine xC_nsplit ?_ ?_ | refine xC_split ?_ ?_) <;> intro h <;> (try simp only [wA, seval, reduceCtorEq, reduceIte, h]))
  all_goals simp_all
theorem sy191 (t : Ty) : Says (gl := gl) 191 (.agg (tTy t)) (isSc t) := by
  intro sg ow
  refine XcE.of F191 rfl ?_
  simp only [ir191]
  simp only [wA, seval, reduceCtorEq, reduceIte]
  repeat' ((with_reducible first | refine xG_dec ?_ ?_ | refine xG_ndec ?_ ?_ | refine xG_nsplit ?_ ?_ | refine xG_split ?_ ?_ | refine xC_dec ?_ ?_ | refine xC_ndec ?_ ?_ | refine xC_nsplit ?_ ?_ | refine xC_split ?_ ?_) <;> intro h <;> (try simp only [wA, seval, reduceCtorEq, reduceIte, h]))
  exact ⟨rfl, Grow.app _ _⟩
theorem sy195 (t : Ty) : Says (gl := gl) 195 (.agg (tTy t)) (isBo t) := by
  intro sg ow
  refine XcE.of F195 rfl ?_
  simp only [ir195]
  simp only [wA, seval, reduceCtorEq, reduceIte, ok186, ty_beq]
  repeat' ((with_reducible first | refine xG_dec ?_ ?_ | refine xG_ndec ?_ ?_ | refine xG_nsplit ?_ ?_ | refine xG_split ?_ ?_ | refine xC_dec ?_ ?_ | refine xC_ndec ?_ ?_ | refine xC_nsplit ?_ ?_ | refine xC_split ?_ ?_) <;> intro h <;> (try simp only [wA, seval, reduceCtorEq, reduceIte, ok186, ty_beq, h]))
  refine ⟨?_, Grow.app _ _⟩
  simp only [PV.t.injEq, T.bool.injEq, Bool.and_true, ty_beq]
  exact decide_eq_decide.2 Iff.rfl
theorem ok188 {n : Int} (h : U64 n) {K : PV → Prop} : XcP F gl 188 [.int .u64 n] K ⟨⟩ ↔ K (.t (.agg (tTy (numT n)))) := by
  refine Ret.iff (Ret.of F188 rfl ?_)
  have a := @ok164 gl n h.1 h.2
  simp only [ir188]
  unfold numT
  simp only [wA, seval, reduceCtorEq, reduceIte, ok186, a, mxT]
  repeat' ((with_reducible first | refine xG_dec ?_ ?_ | refine xG_ndec ?_ ?_ | refine xG_nsplit ?_ ?_ | refine xG_split ?_ ?_ | refine xC_dec ?_ ?_ | refine xC_ndec ?_ ?_ | refine xC_nsplit ?_ ?_ | refine xC_split ?_ ?_) <;> intro h <;> (try simp only [wA, seval, reduceCtorEq, reduceIte, ok186, a, mxT, h]))
  all_goals simp_all [fieldT, lenI_lenZ]
theorem ok193 (c x y : Ty) {K : PV → Prop} : XcP F gl 193 [.agg (tTy c), .agg (tTy x), .agg (tTy y)] K ⟨⟩ ↔ K (.tup [.t (.agg (tTy (choiceM c x y).1)), .t (.int .i64 (choiceM c x y).2)]) := by
  refine Ret.iff (Ret.of F193 rfl ?_)
  have a := fun K => (sy195 (gl := gl) c).call (K := K)
  have b := fun t K => (sy191 (gl := gl) t).call (K := K)
  simp only [ir193]
  unfold choiceM
  cases hb : isBo c with
  | false =>
    rw [hb] at a
    simp only [wA, seval, reduceCtorEq, reduceIte, a, xR_ct]
    simp [bad, zTy]
  | true =>
    rw [hb] at a
    by_cases hxy : x = y
    · subst hxy
      simp only [wA, seval, reduceCtorEq, reduceIte, a, xR_ct, ty_beq2, Bool.and_true, b, ok186]
    · have hq : (x.kind == y.kind && (x.bits == y.bits && x.len == y.len)) = false := by rw [ty_beq2]; simpa using hxy
      cases h1 : isSc x <;> cases h2 : isSc y
      all_goals (simp only [wA, seval, reduceCtorEq, reduceIte, a, xR_ct, hq, Bool.and_true, b, ok186, h1, h2, hxy])
      all_goals simp [bad, zTy, fieldT]
end Go.Proofs.YtdjcnfacjfnakaaGreat

/- Contracts: lists of types. -/
set_option maxRecDepth 10000
set_option linter.unusedVariables false
set_option linter.unusedSimpArgs false
namespace Go.Proofs.YtdjcnfacjfnakaaGreat
open Go.Pi Go.Lx Go.Ky Go.Lib
variable {gl : Nat → Option (List T)}

theorem loop190 {v : PV} {ts : List Ty} {f : Nat} {p : Ty → Bool} (hn : ts.length ≤ B47) (hp : ∀ t, Says (gl := gl) f (.agg (tTy t)) (p t)) {sg0 : Sg} (hs : SlT sg0 v ts) {b6 : Nat} (h6 : sg0[b6]? = some (false, [.t (.int .i64 0), .t (.int .i64 0), .t (.int .i64 0)])) {ow : Ow} (Q : Ex → S → Prop) : ∀ (l : List Ty) (i : Nat) (fr : List PV) (sg : Sg), ts.drop i = l → Grow sg0 sg →
    FrAt fr [(1, .fn f []), (6, .lp b6 0), (10, v), (11, .t (.int .i64 ts.length)), (12, .t (.int .i64 i))] →
    (l.all p = true → ∀ fr' sg', Grow sg0 sg' → fget fr' 5 = fget fr 5 → fget fr' 6 = .lp b6 0 → Q (.exit 0) ⟨fr', sg', ow⟩) →
    (l.all p = false → ∀ fr' sg', Grow sg0 sg' → fget fr' 6 = .lp b6 0 → fget fr' 7 = .t (.int .i64 6) → Q .ret ⟨fr', sg', ow⟩) →
    Xl F gl lb190_0 ⟨fr, sg, ow⟩ Q ⟨⟩ := by
  intro l
  induction l with
  | nil =>
    intro i fr sg hd hg hf h1 h2
    have hd := drop_nil' hd
    simp only [FrAt_cons, FrAt_nil] at hf
    obtain ⟨f1, f6, f10, f11, f12, -⟩ := hf
    refine Xl.step ?_
    simp only [lb190_0]
    have c1 : ¬ ((i : Int) < (ts.length : Int)) := by omega
    simp only [wA, seval, reduceCtorEq, reduceIte, f1, f6, f10, f11, f12, c1]
    exact h1 rfl _ _ hg (by simp only [FrAt_cons, FrAt_nil, wFr, Nat.reduceEqDiff, Nat.one_ne_zero, Nat.zero_ne_one, reduceIte, and_self, and_true, true_and]) (by simp only [FrAt_cons, FrAt_nil, wFr, Nat.reduceEqDiff, Nat.one_ne_zero, Nat.zero_ne_one, reduceIte, and_self, and_true, true_and, f6])
  | cons t l ih =>
    intro i fr sg hd hg hf h1 h2
    obtain ⟨hx, hr, hi⟩ := drop_cons hd
    simp only [FrAt_cons, FrAt_nil] at hf
    obtain ⟨f1, f6, f10, f11, f12, -⟩ := hf
    rcases hs with ⟨rfl, _⟩ | ⟨a, cs, rfl, ha, hcl, hcs⟩
    · simp at hx
    refine Xl.step ?_
    simp only [lb190_0]
    have c1 : (i : Int) < (ts.length : Int) := by omega
    have hw1 := i64_succ hi (show ts.length ≤ 281474976710656 by have : B47 = 140737488355328 := rfl; omega)
    have ha' := hg.get ha
    have hle : i * 3 + 3 ≤ cs.length := by omega
    have hc := hcs i t hx
    have hp' := hp t
    have h6' := hg.get h6
    simp only [wA, seval, reduceCtorEq, reduceIte, f1, f6, f10, f11, f12, c1, Int.toNat_natCast, hi, ha', hle, hc]
    refine CallE.mono (hp' _ _) ?_
    rintro v sg' ow' ⟨rfl, hg', rfl⟩
    cases hq : p t with
    | true =>
      simp only [wA, seval, reduceCtorEq, reduceIte, f1, f6, f10, f11, f12, hw1, hq]
      exact ih (i + 1) _ _ hr (hg.trans ((Grow.app _ _).trans hg')) (by simp only [FrAt_cons, FrAt_nil, wFr, Nat.reduceEqDiff, Nat.one_ne_zero, Nat.zero_ne_one, reduceIte, and_self, and_true, true_and, f1, f6, f10, f11]) (fun h fr' sg' g1 g2 g3 => h1 (by simpa [hq] using h) fr' sg' g1 (by rw [g2]; simp only [FrAt_cons, FrAt_nil, wFr, Nat.reduceEqDiff, Nat.one_ne_zero, Nat.zero_ne_one, reduceIte, and_self, and_true, true_and]) g3) (fun h => h2 (by simpa [hq] using h))
    | false =>
      have h6'' := ((Grow.app _ _).trans hg').get h6'
      simp only [wA, seval, reduceCtorEq, reduceIte, f1, f6, f10, f11, f12, hq, h6'']
      rw [set_same h6'']
      exact h2 (by simp [hq]) _ _ (hg.trans ((Grow.app _ _).trans hg')) (by simp only [FrAt_cons, FrAt_nil, wFr, Nat.reduceEqDiff, Nat.one_ne_zero, Nat.zero_ne_one, reduceIte, and_self, and_true, true_and, f6]) (by simp only [FrAt_cons, FrAt_nil, wFr, Nat.reduceEqDiff, Nat.one_ne_zero, Nat.zero_ne_one, reduceIte, and_self, and_true, true_and])
theorem ok190 {v : PV} {ts : List Ty} {f : Nat} {p : Ty → Bool} (hn : ts.length ≤ B47) (hp : ∀ t, Says (gl := gl) f (.agg (tTy t)) (p t)) {sg : Sg} (hs : SlT sg v ts) (r : Ty) (ow : Ow) :
    CallE F gl 190 [v, .fn f [], .t (.agg (tTy r))] sg ow fun x sg' ow' => x = tRt (allM p ts r) ∧ Grow sg sg' ∧ ow' = ow := by
  refine XcE.of F190 rfl ?_
  simp only [ir190]
  have hlen := hs.len
  have g0 : Grow sg (sg ++ [(false, [.t (.int .i64 r.kind), .t (.int .i64 r.bits), .t (.int .i64 r.len)]), (false, [.t (.int .i64 0), .t (.int .i64 0), .t (.int .i64 0)])]) := .app _ _
  have i5 : (sg ++ [(false, [.t (.int .i64 r.kind), .t (.int .i64 r.bits), .t (.int .i64 r.len)]), (false, [.t (.int .i64 0), .t (.int .i64 0), .t (.int .i64 0)])])[sg.length]? = some (false, [.t (.int .i64 r.kind), .t (.int .i64 r.bits), .t (.int .i64 r.len)]) := by simp
  have i6 : (sg ++ [(false, [.t (.int .i64 r.kind), .t (.int .i64 r.bits), .t (.int .i64 r.len)]), (false, [.t (.int .i64 0), .t (.int .i64 0), .t (.int .i64 0)])])[sg.length + 1]? = some (false, [.t (.int .i64 0), .t (.int .i64 0), .t (.int .i64 0)]) := by simp
  rcases hs with ⟨rfl, k, rfl⟩ | ⟨a, cs, rfl, ha, hcl, hcs⟩
  all_goals (simp only [wA, seval, reduceCtorEq, reduceIte, List.length_nil, i6])
  all_goals skip
  · refine loop190 hn hp (.inl ⟨rfl, k, rfl⟩) i6 _ [] 0 _ _ rfl (Grow.refl _) (by simp only [FrAt_cons, FrAt_nil, wFr, Nat.reduceEqDiff, Nat.one_ne_zero, Nat.zero_ne_one, reduceIte, and_self, and_true, true_and]; first | done | rfl) ?_ ?_
    · intro h fr' sg' hg h5 h6
      have j5 := hg.get i5
      have j6 := hg.get i6
      simp only [FrAt_cons, FrAt_nil, wFr, Nat.reduceEqDiff, Nat.one_ne_zero, Nat.zero_ne_one, reduceIte, and_self, and_true, true_and] at h5
      simp only [wA, seval, reduceCtorEq, reduceIte, h5, h6, j5, j6, xR_ct, get_set j6]
      refine ⟨rfl, ?_⟩
      exact (Fr.of (c := sg.length + 1) hg).set _ |>.grow g0 (by omega)
    · intro h; simp at h
  · refine loop190 hn hp (.inr ⟨a, cs, rfl, g0.get ha, hcl, hcs⟩) i6 _ ts 0 _ _ rfl (Grow.refl _) (by simp only [FrAt_cons, FrAt_nil, wFr, Nat.reduceEqDiff, Nat.one_ne_zero, Nat.zero_ne_one, reduceIte, and_self, and_true, true_and]; first | done | rfl) ?_ ?_
    · intro h fr' sg' hg h5 h6
      have j5 := hg.get i5
      have j6 := hg.get i6
      simp only [FrAt_cons, FrAt_nil, wFr, Nat.reduceEqDiff, Nat.one_ne_zero, Nat.zero_ne_one, reduceIte, and_self, and_true, true_and] at h5
      simp only [wA, seval, reduceCtorEq, reduceIte, h5, h6, j5, j6, xR_ct, get_set j6]
      unfold allM
      rw [h]
      refine ⟨rfl, ?_⟩
      exact (Fr.of (c := sg.length + 1) hg).set _ |>.grow g0 (by omega)
    · intro h fr' sg' hg h6 h7
      have j6 := hg.get i6
      simp only [wA, seval, reduceCtorEq, reduceIte, h6, h7, j6, xR_ct]
      unfold allM
      rw [h]
      exact ⟨rfl, g0.trans hg⟩
end Go.Proofs.YtdjcnfacjfnakaaGreat

/- Contracts: comparisons, lists, calls. -/
set_option maxRecDepth 10000
set_option linter.unusedVariables false
set_option linter.unusedSimpArgs false
namespace Go.Proofs.YtdjcnfacjfnakaaGreat
open Go.Pi Go.Lx Go.Ky Go.Lib
variable {gl : Nat → Option (List T)}

theorem ok194 {sg : Sg} {c f n : Nat} {fs : Fs} {ns : Ns} {od : PV} {w : Int} (hk : Ck sg c f n fs ns od w) (x y : Ty) (ow : Ow) :
    CallE F gl 194 [.lp c 0, .t (.agg (tTy x)), .t (.agg (tTy y))] sg ow fun v sg' ow' => v = tRt (compM x y w).1 ∧ sg'[c]? = some (false, [.mp f, .mp n, od, .t (.int .i64 (compM x y w).2)]) ∧ Fr c sg sg' := by
  refine XcE.of F194 rfl ?_
  simp only [ir194]
  have hcl := lt_of_get hk.c
  have hc := hk.c
  have bad' : ∀ r, sg ++ r = sg ++ r := fun _ => rfl
  unfold compM mx
  simp only [wA, seval, reduceCtorEq, reduceIte, app_get hcl, app_set hcl, hc, gs0, gsk, ss0, ssk, mxT, ok186, xR_ct]
  repeat' ((with_reducible first | refine xG_dec ?_ ?_ | refine xG_ndec ?_ ?_ | refine xG_nsplit ?_ ?_ | refine xG_split ?_ ?_ | refine xC_dec ?_ ?_ | refine xC_ndec ?_ ?_ | refine xC_nsplit ?_ ?_ | refine xC_split ?_ ?_) <;> intro h <;> (try simp only [wA, seval, reduceCtorEq, reduceIte, app_get hcl, app_set hcl, hc, gs0, gsk, ss0, ssk, mxT, ok186, xR_ct, h]))
  all_goals simp only [tRt, bad, zTy, boolT]
  all_goals simp_all [app_get hcl, gsc hcl]
  all_goals first | exact Fr.of (.app _ _) | exact Fr.setapp _ _ _ _ | skip
theorem loop192 {v : PV} {ts : List Ty} {a0 : Ty} (h0 : ts[0]? = some a0) (hn : ts.length ≤ B47) {sg0 : Sg} (hs : SlT sg0 v ts) {b2 b4 : Nat} (hlt : ∀ a m, v = .ls a 0 m 3 → a ≠ b4) (hb : b2 ≠ b4) (hb4 : b4 < sg0.length) (h2 : sg0[b2]? = some (false, [.t (.int .i64 0), .t (.int .i64 0), .t (.int .i64 0)])) {ow : Ow} (Q : Ex → S → Prop) : ∀ (l : List Ty) (i : Nat) (r : Ty) (fr : List PV) (sg : Sg), ts.drop i = l → Fr b4 sg0 sg → sg[b4]? = some (false, cTy r) →
    FrAt fr [(0, v), (2, .lp b2 0), (4, .lp b4 0), (10, v), (11, .t (.int .i64 ts.length)), (12, .t (.int .i64 i))] →
    (∀ r', listGo a0 l r = some r' → ∀ fr' sg', Fr b4 sg0 sg' → sg'[b4]? = some (false, cTy r') → FrAt fr' [(0, v), (2, .lp b2 0), (4, .lp b4 0)] → Q (.exit 0) ⟨fr', sg', ow⟩) →
    (listGo a0 l r = none → ∀ fr' sg', Fr b4 sg0 sg' → fget fr' 2 = .lp b2 0 → fget fr' 3 = .t (.int .i64 6) → Q .ret ⟨fr', sg', ow⟩) →
    Xl F gl lb192_0 ⟨fr, sg, ow⟩ Q ⟨⟩ := by
  intro l
  induction l with
  | nil =>
    intro i r fr sg hd hg hr4 hf k1 k2
    have hd := drop_nil' hd
    simp only [FrAt_cons, FrAt_nil] at hf
    obtain ⟨f0, f2, f4, f10, f11, f12, -⟩ := hf
    refine Xl.step ?_
    simp only [lb192_0]
    have c1 : ¬ ((i : Int) < (ts.length : Int)) := by omega
    simp only [wA, seval, reduceCtorEq, reduceIte, f0, f2, f4, f10, f11, f12, c1]
    exact k1 r rfl _ _ hg hr4 (by simp only [FrAt_cons, FrAt_nil, wFr, Nat.reduceEqDiff, Nat.one_ne_zero, Nat.zero_ne_one, reduceIte, and_self, and_true, true_and, f0, f2, f4])
  | cons t l ih =>
    intro i r fr sg hd hg hr4 hf k1 k2
    obtain ⟨hx, hr, hi⟩ := drop_cons hd
    simp only [FrAt_cons, FrAt_nil] at hf
    obtain ⟨f0, f2, f4, f10, f11, f12, -⟩ := hf
    rcases hs with ⟨rfl, _⟩ | ⟨a, cs, rfl, ha, hcl, hcs⟩
    · simp at hx
    have hab := hlt a _ rfl
    refine Xl.step ?_
    simp only [lb192_0]
    have c1 : (i : Int) < (ts.length : Int) := by omega
    have hpos : 0 < ts.length := by omega
    have hw1 := i64_succ hi (show ts.length ≤ 281474976710656 by have : B47 = 140737488355328 := rfl; omega)
    have ha' := hg.get ha hab
    have hal := lt_of_get ha'
    have h2' := hg.get h2 hb
    have h2l := lt_of_get h2'
    have h4l := lt_of_get hr4
    have hle : i * 3 + 3 ≤ cs.length := by omega
    have hle0 : 3 ≤ cs.length := by omega
    have hc := hcs i t hx
    have hc0 : cs.take 3 = [.t (.int .i64 a0.kind), .t (.int .i64 a0.bits), .t (.int .i64 a0.len)] := by simpa using hcs 0 a0 h0
    by_cases ht : t.len = 0
    · have hgo : listGo a0 (t :: l) r = if t ≠ a0 then listGo a0 l fieldT else listGo a0 l r := by
        show (if t.len ≠ 0 then none else _) = _
        rw [if_neg (by simpa using ht)]
      by_cases hta : t = a0
      · rw [if_neg (by simpa using hta)] at hgo
        subst hta
        simp only [wA, seval, reduceCtorEq, reduceIte, f0, f2, f4, f10, f11, f12, c1, hw1, Int.toNat_natCast, hi, hpos, ha', hle, hle0, hc, hc0, ht, app_get hal, beq_self_eq_true, Bool.and_self]
        refine ih (i + 1) r _ _ hr (hg.app _) (get_more hr4) (by simp only [FrAt_cons, FrAt_nil, wFr, Nat.reduceEqDiff, Nat.one_ne_zero, Nat.zero_ne_one, reduceIte, and_self, and_true, true_and, f0, f2, f4, f10, f11]) (fun r' e => k1 r' (by rw [hgo]; exact e)) (fun e => k2 (by rw [hgo]; exact e))
      · rw [if_pos hta] at hgo
        have hq : (t.kind == a0.kind && (t.bits == a0.bits && t.len == a0.len)) = false := by rw [ty_beq2]; simpa using hta
        rw [ht] at hq
        simp only [wA, seval, reduceCtorEq, reduceIte, f0, f2, f4, f10, f11, f12, c1, hw1, Int.toNat_natCast, hi, hpos, ha', hle, hle0, hc, hc0, ht, app_get hal, app_get h4l, app_set h4l, hr4, hq, Bool.and_true, ok186]
        refine ih (i + 1) fieldT _ _ hr (hg.trans (Fr.setapp _ _ _ _)) (gsc h4l) (by simp only [FrAt_cons, FrAt_nil, wFr, Nat.reduceEqDiff, Nat.one_ne_zero, Nat.zero_ne_one, reduceIte, and_self, and_true, true_and, f0, f2, f4, f10, f11]) (fun r' e => k1 r' (by rw [hgo]; exact e)) (fun e => k2 (by rw [hgo]; exact e))
    · have hgo : listGo a0 (t :: l) r = none := by
        show (if t.len ≠ 0 then none else _) = _
        rw [if_pos ht]
      simp only [wA, seval, reduceCtorEq, reduceIte, f0, f2, f4, f10, f11, f12, c1, Int.toNat_natCast, hi, hpos, ha', hle, hle0, hc, ht, app_get h2l, app_set h2l, h2']
      refine k2 hgo _ _ ?_ (by simp only [FrAt_cons, FrAt_nil, wFr, Nat.reduceEqDiff, Nat.one_ne_zero, Nat.zero_ne_one, reduceIte, and_self, and_true, true_and, f2]) (by simp only [FrAt_cons, FrAt_nil, wFr, Nat.reduceEqDiff, Nat.one_ne_zero, Nat.zero_ne_one, reduceIte, and_self, and_true, true_and])
      rw [set_same h2']
      exact hg.app _
theorem ok192 {v : PV} {ts : List Ty} (hne : 0 < ts.length) (hn : ts.length ≤ B47) {sg : Sg} (hs : SlT sg v ts) (ow : Ow) :
    CallE F gl 192 [v] sg ow fun x sg' ow' => x = tRt (listM ts) ∧ Grow sg sg' := by
  obtain ⟨a0, h0⟩ : ∃ a0, ts[0]? = some a0 := ⟨ts[0], List.getElem?_eq_getElem hne⟩
  refine XcE.of F192 rfl ?_
  simp only [ir192]
  have hs' := hs
  rcases hs with ⟨rfl, _⟩ | ⟨a, cs, rfl, ha, hcl, hcs⟩
  · simp at hne
  have hal := lt_of_get ha
  have hle0 : 3 ≤ cs.length := by omega
  have hc0 : cs.take 3 = [.t (.int .i64 a0.kind), .t (.int .i64 a0.bits), .t (.int .i64 a0.len)] := by simpa using hcs 0 a0 h0
  have hlm : listM ts = match listGo a0 ts a0 with
    | none => bad 6
    | some r => (⟨r.kind, r.bits, (ts.length : Int)⟩, 0) := by
    cases ts with
    | nil => simp at hne
    | cons x r => simp at h0; subst h0; rfl
  simp only [wA, seval, reduceCtorEq, reduceIte, app_get hal, ha, hne, hle0, hc0]
  have g0 : Grow sg (sg ++ [(false, [.t (.int .i64 0), .t (.int .i64 0), .t (.int .i64 0)]), (false, cTy a0)]) := .app _ _
  have i2 : (sg ++ [(false, [.t (.int .i64 0), .t (.int .i64 0), .t (.int .i64 0)]), (false, cTy a0)])[sg.length]? = some (false, [.t (.int .i64 0), .t (.int .i64 0), .t (.int .i64 0)]) := by simp
  have i4 : (sg ++ [(false, [.t (.int .i64 0), .t (.int .i64 0), .t (.int .i64 0)]), (false, cTy a0)])[sg.length + 1]? = some (false, cTy a0) := by simp
  refine loop192 h0 hn (hs'.grow g0) (b2 := sg.length) (b4 := sg.length + 1) (fun a' m e => by injection e with e; omega) (by omega) (lt_of_get i4) i2 _ ts 0 a0 _ _ rfl (Fr.refl _ _) i4 (by simp only [FrAt_cons, FrAt_nil, wFr, Nat.reduceEqDiff, Nat.one_ne_zero, Nat.zero_ne_one, reduceIte, and_self, and_true, true_and]; first | done | rfl) ?_ ?_
  · intro r' hr' fr' sg' hg h4 hf
    simp only [FrAt_cons, FrAt_nil] at hf
    obtain ⟨f0, f2, f4, -⟩ := hf
    have j2 := hg.get i2 (by omega)
    have l2 := lt_of_get j2
    have l4 := lt_of_get h4
    have ne1 : ¬ sg.length + 1 = sg.length := by omega
    have s2 : ∀ x, (sg'.set (sg.length + 1) x)[sg.length]? = some (false, [.t (.int .i64 0), .t (.int .i64 0), .t (.int .i64 0)]) := fun x => by rw [List.getElem?_set_ne (by omega)]; exact j2
    simp only [wA, seval, reduceCtorEq, reduceIte, f0, f2, f4, h4, get_set h4, s2, get_set (s2 _), xR_ct]
    rw [hlm, hr']
    refine ⟨rfl, ?_⟩
    refine grow_of fun i hi => ?_
    rw [List.getElem?_set_ne (by omega), List.getElem?_set_ne (by omega), hg.2 i (by simp; omega) (by omega)]
    exact List.getElem?_append_left hi
  · intro hr' fr' sg' hg f2 f3
    have j2 := hg.get i2 (by omega)
    simp only [wA, seval, reduceCtorEq, reduceIte, f2, f3, j2, xR_ct]
    rw [hlm, hr']
    exact ⟨rfl, hg.grow g0 (by omega)⟩
abbrev cFu (f : Fu) : List PV := [.t (.str f.name), .t (.sl f.pnl (f.params.map tPa)), .t (.int .i64 f.res.kind), .t (.int .i64 f.res.bits), .t (.int .i64 f.res.len), .t (.sl f.bnl (tSts f.body)), .t (.int .i64 f.ret.op), .t (.int .u64 f.ret.val), .t (.str f.ret.name), .t (.sl f.ret.nl (tExs f.ret.args))]
theorem loop189 {v : PV} {ts : List Ty} {ps : List Pa} {pnl : Bool} (hn : ts.length ≤ B47) (hps : ps.length = ts.length) {sg0 : Sg} (hs : SlT sg0 v ts) {b6 b8 : Nat} {cl : List PV} (h6 : sg0[b6]? = some (false, [.t (.int .i64 0), .t (.int .i64 0), .t (.int .i64 0)])) (h8 : sg0[b8]? = some (false, cl)) (hcl : cl[1]? = some (.t (.sl pnl (ps.map tPa)))) {ow : Ow} (Q : Ex → S → Prop) : ∀ (l : List Ty) (qs : List Pa) (i : Nat) (fr : List PV) (sg : Sg), ts.drop i = l → ps.drop i = qs → Grow sg0 sg →
    FrAt fr [(6, .lp b6 0), (8, .lp b8 0), (31, v), (32, .t (.int .i64 ts.length)), (33, .t (.int .i64 i))] →
    (callFit l qs = true → ∀ fr' sg', Grow sg0 sg' → FrAt fr' [(6, .lp b6 0), (8, .lp b8 0)] → Q (.exit 0) ⟨fr', sg', ow⟩) →
    (callFit l qs = false → ∀ fr' sg', Grow sg0 sg' → fget fr' 6 = .lp b6 0 → fget fr' 7 = .t (.int .i64 6) → Q .ret ⟨fr', sg', ow⟩) →
    Xl F gl lb189_0 ⟨fr, sg, ow⟩ Q ⟨⟩ := by
  intro l
  induction l with
  | nil =>
    intro qs i fr sg hd hq hg hf k1 k2
    have hd := drop_nil' hd
    simp only [FrAt_cons, FrAt_nil] at hf
    obtain ⟨f6, f8, f31, f32, f33, -⟩ := hf
    refine Xl.step ?_
    simp only [lb189_0]
    have c1 : ¬ ((i : Int) < (ts.length : Int)) := by omega
    simp only [wA, seval, reduceCtorEq, reduceIte, f6, f8, f31, f32, f33, c1]
    exact k1 rfl _ _ hg (by simp only [FrAt_cons, FrAt_nil, wFr, Nat.reduceEqDiff, Nat.one_ne_zero, Nat.zero_ne_one, reduceIte, and_self, and_true, true_and, f6, f8])
  | cons t l ih =>
    intro qs i fr sg hd hq hg hf k1 k2
    obtain ⟨hx, hr, hi⟩ := drop_cons hd
    simp only [FrAt_cons, FrAt_nil] at hf
    obtain ⟨f6, f8, f31, f32, f33, -⟩ := hf
    rcases hs with ⟨rfl, _⟩ | ⟨a, cs, rfl, ha, hcs0, hcs⟩
    · simp at hx
    cases qs with
    | nil =>
      have := drop_nil' hq
      omega
    | cons p qs =>
    obtain ⟨hpx, hpr, hpi⟩ := drop_cons hq
    refine Xl.step ?_
    simp only [lb189_0]
    have c1 : (i : Int) < (ts.length : Int) := by omega
    have hw1 := i64_succ hi (show ts.length ≤ 281474976710656 by have : B47 = 140737488355328 := rfl; omega)
    have ha' := hg.get ha
    have hal := lt_of_get ha'
    have h6' := hg.get h6
    have h6l := lt_of_get h6'
    have h8' := hg.get h8
    have h8l := lt_of_get h8'
    have hle : i * 3 + 3 ≤ cs.length := by omega
    have hc := hcs i t hx
    have hf := fun K => @ok151 gl t p.ty K
    have hgo : callFit (t :: l) (p :: qs) = (fitsB t p.ty && callFit l qs) := rfl
    cases hft : fitsB t p.ty with
    | true =>
      rw [hft, Bool.true_and] at hgo
      rw [hft] at hf
      simp only [wA, seval, reduceCtorEq, reduceIte, f6, f8, f31, f32, f33, c1, hw1, Int.toNat_natCast, hi, ha', hle, hc, app_get hal, app_get h8l, h8', hcl, List.getElem?_map, hpx, hf]
      exact ih qs (i + 1) _ _ hr hpr (hg.app2 _) (by simp only [FrAt_cons, FrAt_nil, wFr, Nat.reduceEqDiff, Nat.one_ne_zero, Nat.zero_ne_one, reduceIte, and_self, and_true, true_and, f6, f8, f31, f32]) (fun e => k1 (by rw [hgo]; exact e)) (fun e => k2 (by rw [hgo]; exact e))
    | false =>
      rw [hft, Bool.false_and] at hgo
      rw [hft] at hf
      simp only [wA, seval, reduceCtorEq, reduceIte, f6, f8, f31, f32, f33, c1, hw1, Int.toNat_natCast, hi, ha', hle, hc, app_get hal, app_get h8l, app_get h6l, app_set h6l, h6', h8', hcl, List.getElem?_map, hpx, hf]
      refine k2 hgo _ _ ?_ (by simp only [FrAt_cons, FrAt_nil, wFr, Nat.reduceEqDiff, Nat.one_ne_zero, Nat.zero_ne_one, reduceIte, and_self, and_true, true_and, f6]) (by simp only [FrAt_cons, FrAt_nil, wFr, Nat.reduceEqDiff, Nat.one_ne_zero, Nat.zero_ne_one, reduceIte, and_self, and_true, true_and])
      rw [set_same h6']
      exact hg.app2 _
theorem ok189 {v : PV} {ts : List Ty} (hn : ts.length ≤ B47) {sg : Sg} {c f n : Nat} {fs : Fs} {ns : Ns} {od : PV} {w : Int} (hk : Ck sg c f n fs ns od w) (hs : SlT sg v ts) (nm : Nm) (ow : Ow) :
    CallE F gl 189 [.lp c 0, .t (.str nm), v] sg ow fun x sg' ow' => x = tRt (callM fs nm ts) ∧ Grow sg sg' := by
  refine XcE.of F189 rfl ?_
  simp only [ir189]
  have hcl := lt_of_get hk.c
  have hfl := lt_of_get hk.f
  have hc := hk.c
  have hf := hk.f
  have hlen := hs.len
  unfold callM
  cases hl : Ky.look nm fs with
  | none =>
    simp only [wA, seval, reduceCtorEq, reduceIte, app_get hcl, app_get hfl, hc, hf, mlkP, mfind_ents, hl, Option.getD_none, Option.isSome_none, xR_ct]
    exact ⟨rfl, Grow.app _ _⟩
  | some fu =>
    have g0 : Grow sg (sg ++ [(false, [.t (.int .i64 0), .t (.int .i64 0), .t (.int .i64 0)]), (false, cFu fu)]) := .app _ _
    have i6 : (sg ++ [(false, [.t (.int .i64 0), .t (.int .i64 0), .t (.int .i64 0)]), (false, cFu fu)])[sg.length]? = some (false, [.t (.int .i64 0), .t (.int .i64 0), .t (.int .i64 0)]) := by simp
    have i8 : (sg ++ [(false, [.t (.int .i64 0), .t (.int .i64 0), .t (.int .i64 0)]), (false, cFu fu)])[sg.length + 1]? = some (false, cFu fu) := by simp
    by_cases hps : (ts.length : Int) = (fu.params.length : Int)
    · have hps' : fu.params.length = ts.length := by omega
      have hnn : ¬ ((ts.length : Int) ≠ (fu.params.length : Int)) := by simpa using hps
      simp only [if_neg hnn]
      have hs1 := hs.grow g0
      rcases hs with ⟨rfl, k, rfl⟩ | ⟨a, cs, rfl, ha, hcs0, hcs⟩
      · have hp0 : fu.params = [] := List.eq_nil_of_length_eq_zero (by simpa using hps')
        simp only [wA, seval, reduceCtorEq, reduceIte, app_get hcl, app_get hfl, hc, hf, mlkP, mfind_ents, hl, Option.getD_some, Option.isSome_some, xR_ct, hp0]
        rw [hp0]
        simp only [cFu, hp0, List.map_nil] at i6 i8 g0 hs1
        refine loop189 (ts := []) (ps := []) (pnl := fu.pnl) hn rfl hs1 (b6 := sg.length) (b8 := sg.length + 1) i6 i8 rfl _ [] [] 0 _ _ rfl rfl (Grow.refl _) (by simp only [FrAt_cons, FrAt_nil, wFr, Nat.reduceEqDiff, Nat.one_ne_zero, Nat.zero_ne_one, reduceIte, and_self, and_true, true_and]; first | done | rfl) ?_ ?_
        · intro h fr' sg' hg hf'
          simp only [FrAt_cons, FrAt_nil] at hf'
          obtain ⟨f6, f8, -⟩ := hf'
          have j6 := hg.get i6
          have j8 := hg.get i8
          simp only [wA, seval, reduceCtorEq, reduceIte, f6, f8, j6, j8, get_set j6, xR_ct]
          refine ⟨rfl, ?_⟩
          exact ((Fr.of (c := sg.length) hg).set _).grow g0 (by omega)
        · intro h; cases h
      · simp only [wA, seval, reduceCtorEq, reduceIte, app_get hcl, app_get hfl, hc, hf, mlkP, mfind_ents, hl, Option.getD_some, Option.isSome_some, xR_ct, hps]
        rw [← hps]
        refine loop189 (ps := fu.params) (pnl := fu.pnl) hn hps' hs1 (b6 := sg.length) (b8 := sg.length + 1) i6 i8 rfl _ ts fu.params 0 _ _ rfl rfl (Grow.refl _) (by simp only [FrAt_cons, FrAt_nil, wFr, Nat.reduceEqDiff, Nat.one_ne_zero, Nat.zero_ne_one, reduceIte, and_self, and_true, true_and]; first | done | rfl) ?_ ?_
        · intro h fr' sg' hg hf'
          simp only [FrAt_cons, FrAt_nil] at hf'
          obtain ⟨f6, f8, -⟩ := hf'
          have j6 := hg.get i6
          have j8 := hg.get i8
          simp only [wA, seval, reduceCtorEq, reduceIte, f6, f8, j6, j8, get_set j6, xR_ct]
          rw [h]
          refine ⟨by rw [if_neg (by simp)]; rfl, ?_⟩
          exact ((Fr.of (c := sg.length) hg).set _).grow g0 (by omega)
        · intro h fr' sg' hg f6 f7
          have j6 := hg.get i6
          simp only [wA, seval, reduceCtorEq, reduceIte, f6, f7, j6, xR_ct]
          rw [h]
          exact ⟨by rw [if_neg (by simp)]; rfl, g0.trans hg⟩
    · simp only [if_pos (show (ts.length : Int) ≠ (fu.params.length : Int) from hps)]
      rcases hs with ⟨rfl, k, rfl⟩ | ⟨a, cs, rfl, ha, hcs0, hcs⟩
      · have hps2 : ¬ (0 : Int) = (fu.params.length : Int) := by simpa using hps
        simp only [wA, seval, reduceCtorEq, reduceIte, app_get hcl, app_get hfl, hc, hf, mlkP, mfind_ents, hl, Option.getD_some, Option.isSome_some, xR_ct, hps2]
        exact ⟨by rw [if_pos hps2]; rfl, Grow.app _ _⟩
      · simp only [wA, seval, reduceCtorEq, reduceIte, app_get hcl, app_get hfl, hc, hf, mlkP, mfind_ents, hl, Option.getD_some, Option.isSome_some, xR_ct, hps]
        exact ⟨by rw [if_pos hps]; rfl, Grow.app _ _⟩
end Go.Proofs.YtdjcnfacjfnakaaGreat
