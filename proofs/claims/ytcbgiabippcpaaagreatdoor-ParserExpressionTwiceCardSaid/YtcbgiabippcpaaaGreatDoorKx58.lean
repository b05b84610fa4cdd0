/- KX 50: the canonical text of an expression, in pieces (tokens and blanks); what the parser does with it, level by level. No program in sight. -/
import Derived.Test.YtcbgiabippcpaaaGreatDoorKx42
import Derived.Test.YtcbgiabippcpaaaGreatDoorKx42
import Derived.Test.YtcbgiabippcpaaaGreatDoorKx42
set_option linter.unusedSimpArgs false
set_option linter.unusedVariables false
namespace Go.Ky
open Go.Pi Go.Lx
abbrev Pc := Option Tok
def sy (t : Nm) : Tok := ⟨4, t, 0, 0⟩
def kw (t : Nm) : Tok := ⟨2, t, 0, 0⟩
def nmT (t : Nm) : Tok := ⟨1, t, 0, 0⟩
def nu (v : Nat) : Tok := ⟨3, decD v, v, 0⟩
def tks (l : List Pc) : List Tok := l.filterMap id
theorem tks_app (a b : List Pc) : tks (a ++ b) = tks a ++ tks b := List.filterMap_append
theorem tks_some (t : Tok) (l : List Pc) : tks (some t :: l) = t :: tks l := rfl
theorem tks_none (l : List Pc) : tks (none :: l) = tks l := rfl
def lvlO (op : Int) : Nat := if op = 20 then 1 else if op = 19 then 2 else if op = 18 then 3 else if op = 14 ∨ op = 15 ∨ op = 16 ∨ op = 17 then 4 else if op = 12 ∨ op = 13 then 5 else if op = 11 then 6 else if op = 9 ∨ op = 10 then 7 else if op = 8 then 8 else 9
def opTok (op : Int) : Tok := if op = 19 then kw [111, 114] else if op = 18 then kw [97, 110, 100] else if op = 14 then sy [61, 61] else if op = 15 then sy [33, 61] else if op = 16 then sy [60] else if op = 17 then sy [60, 61] else if op = 12 then sy [43] else if op = 13 then sy [45] else sy [42]
structure Ar where
  lv : Nat
  op : Int
  ps : List Pc
def parP (r : Nat) (a : Ar) : List Pc := if a.lv < r then some (sy [40]) :: (a.ps ++ [some (sy [41])]) else a.ps
def commaP : List (List Pc) → List Pc
  | [] => []
  | x :: r => x ++ r.flatMap fun y => some (sy [44]) :: none :: y
def a0 (l : List Ar) : Ar := l.getD 0 ⟨9, 0, []⟩
def a1 (l : List Ar) : Ar := l.getD 1 ⟨9, 0, []⟩
def a2 (l : List Ar) : Ar := l.getD 2 ⟨9, 0, []⟩
def bareO (op v : Int) (n : Nm) (as : List Ar) : List Pc :=
  if op = 1 then [some (nu v.toNat)]
  else if op = 2 then [some (nmT n)]
  else if op = 3 then [some (kw [116, 114, 117, 101])]
  else if op = 4 then [some (kw [102, 97, 108, 115, 101])]
  else if op = 5 then some (nmT n) :: some (sy [40]) :: (commaP (as.map (parP 1)) ++ [some (sy [41])])
  else if op = 6 then some (kw [104, 97, 115, 104]) :: some (sy [40]) :: some (nu v.toNat) :: some (sy [59]) :: none :: (commaP (as.map (parP 1)) ++ [some (sy [41])])
  else if op = 7 then some (sy [91]) :: (commaP (as.map (parP 1)) ++ [some (sy [93])])
  else if op = 8 then parP 8 (a0 as) ++ some (sy [91]) :: (parP 1 (a1 as) ++ [some (sy [93])])
  else if op = 9 then some (sy [45]) :: parP (if (a0 as).op = 9 then 8 else 7) (a0 as)
  else if op = 10 then some (kw [110, 111, 116]) :: none :: parP 7 (a0 as)
  else if op = 20 then parP 2 (a0 as) ++ none :: some (sy [63]) :: none :: (parP 1 (a1 as) ++ none :: some (sy [58]) :: none :: parP 1 (a2 as))
  else parP (if lvlO op = 4 then 5 else lvlO op) (a0 as) ++ none :: some (opTok op) :: none :: parP (lvlO op + 1) (a1 as)
mutual
def bareP : Exp → List Pc
  | .mk op v n _ l => bareO op v n (arsP l)
def arsP : List Exp → List Ar
  | [] => []
  | e :: r => ⟨lvlO e.op, e.op, bareP e⟩ :: arsP r
end
def ar (e : Exp) : Ar := ⟨lvlO e.op, e.op, bareP e⟩
theorem arsP_map (l : List Exp) : arsP l = l.map ar := by
  induction l with
  | nil => rfl
  | cons e r ih => rw [arsP, ih]; rfl
theorem bareP_eq (e : Exp) : bareP e = bareO e.op e.val e.name (e.args.map ar) := by
  cases e; rw [bareP, arsP_map]; rfl
mutual
def canE : Exp → Exp
  | .mk op v n _ l => .mk op v n l.isEmpty (canEs l)
def canEs : List Exp → List Exp
  | [] => []
  | e :: r => canE e :: canEs r
end
theorem canEs_map (l : List Exp) : canEs l = l.map canE := by
  induction l with
  | nil => rfl
  | cons e r ih => rw [canEs, ih]; rfl
theorem canE_eq (e : Exp) : canE e = .mk e.op e.val e.name e.args.isEmpty (e.args.map canE) := by
  cases e; rw [canE, canEs_map]; rfl
mutual
def zn : Exp → Nat
  | .mk _ _ _ _ l => 1 + zns l
def zns : List Exp → Nat
  | [] => 0
  | e :: r => zn e + zns r
end
theorem zn_eq (e : Exp) : zn e = 1 + zns e.args := by cases e; rw [zn]; rfl
def stt (s : Ps) (ts : List Tok) : Ps := { s with ts := ts }
theorem take_stt {s : Ps} {t : Tok} {r : List Tok} (h : r ≠ []) : takeM (stt s (t :: r)) = stt s r := by
  unfold takeM stt
  simp only
  rw [if_pos (by have := List.length_pos_iff.2 h; simp only [List.length_cons]; omega)]
  rfl
theorem exp_stt {s : Ps} {x : Nm} {t : Tok} {r : List Tok} (h : r ≠ []) (ha : atT x t = true) : expM x (stt s (t :: r)) = stt s r := by
  unfold expM
  rw [if_pos (by show atT x t = true; exact ha), take_stt h]
abbrev hdd (l : List Tok) : Tok := l.headD tok0
theorem at_stt (x : Nm) (s : Ps) (l : List Tok) : atM x (stt s l) = atT x (hdd l) := rfl
def Fo (lv : Nat) (h : Tok) : Prop := (∀ j, lv ≤ j → j ≤ 4 → opG h (ops j) = none) ∧ atT [91] h = false ∧ atT [40] h = false
theorem Fo.up {lv : Nat} {h : Tok} (f : Fo lv h) : Fo (lv + 1) h := ⟨fun j hj => f.1 j (by omega), f.2⟩
def Hd (X : List Tok) : Prop := ∃ t r, X = t :: r ∧ atT [45] t = false ∧ atT [110, 111, 116] t = false
def PRc (m : Nat) (X : List Tok) (v : Exp) : Prop := ∀ (s : Ps) (rest : List Tok) (n : Nat), rest ≠ [] → m ≤ n → atT [40] (hdd rest) = false → priM n (stt s (X ++ rest)) = (v, stt s rest)
def IXc (m k : Nat) (X : List Tok) (v : Exp) : Prop := ∀ (s : Ps) (rest : List Tok) (n : Nat), rest ≠ [] → m ≤ n → atT [40] (hdd rest) = false → ∃ n', n ≤ n' + k ∧ unM n (stt s (X ++ rest)) = idxL n' v (stt s rest)
def UMc (m : Nat) (X : List Tok) (v : Exp) : Prop := ∀ (s : Ps) (rest : List Tok) (n : Nat), rest ≠ [] → m ≤ n → Fo 5 (hdd rest) → unM n (stt s (X ++ rest)) = (v, stt s rest)
def BMc (lv m : Nat) (X : List Tok) (v : Exp) : Prop := ∀ (s : Ps) (rest : List Tok) (n : Nat), rest ≠ [] → m ≤ n → Fo lv (hdd rest) → binM n lv (stt s (X ++ rest)) = (v, stt s rest)
def BLc (lv m k : Nat) (X : List Tok) (v : Exp) : Prop := ∀ (s : Ps) (rest : List Tok) (n : Nat), rest ≠ [] → m ≤ n → Fo (lv + 1) (hdd rest) → ∃ n', n ≤ n' + k ∧ binM n lv (stt s (X ++ rest)) = binL n' lv v (stt s rest)
def EMc (m : Nat) (X : List Tok) (v : Exp) : Prop := ∀ (s : Ps) (rest : List Tok) (n : Nat), rest ≠ [] → m ≤ n → Fo 0 (hdd rest) → atT [63] (hdd rest) = false → exprM n (stt s (X ++ rest)) = (v, stt s rest)
theorem succ_of {m n : Nat} (h : m + 1 ≤ n) : ∃ k, n = k + 1 ∧ m ≤ k := ⟨n - 1, by omega, by omega⟩
theorem pr_ix {m : Nat} {X : List Tok} {v : Exp} (hx : Hd X) (h : PRc m X v) : IXc (m + 1) 1 X v := by
  intro s rest n hr hn hp
  obtain ⟨n0, rfl, h0⟩ := succ_of hn
  obtain ⟨t, r, rfl, h1, h2⟩ := hx
  refine ⟨n0, Nat.le_refl _, ?_⟩
  have := h s rest n0 hr h0 hp
  rw [unM, if_neg (by show ¬ atT [45] t = true; rw [h1]; simp), if_neg (by show ¬ atT [110, 111, 116] t = true; rw [h2]; simp), this]
theorem idx_end {n : Nat} {v : Exp} {s : Ps} {rest : List Tok} (h : atT [91] (hdd rest) = false) : idxL n v (stt s rest) = (v, stt s rest) := by
  cases n with
  | zero => rw [idxL]
  | succ n => rw [idxL, if_neg (by rw [at_stt, h]; simp)]
theorem ix_um {m k : Nat} {X : List Tok} {v : Exp} (h : IXc m k X v) : UMc m X v := by
  intro s rest n hr hn hf
  obtain ⟨n', _, e⟩ := h s rest n hr hn hf.2.2
  rw [e, idx_end hf.2.1]
theorem um_bm {m : Nat} {X : List Tok} {v : Exp} (h : UMc m X v) : BMc 5 (m + 1) X v := by
  intro s rest n hr hn hf
  obtain ⟨n0, rfl, h0⟩ := succ_of hn
  rw [binM, if_pos rfl, h s rest n0 hr h0 hf]
theorem bm_bl {lv m : Nat} {X : List Tok} {v : Exp} (hl : lv ≤ 4) (h : BMc (lv + 1) m X v) : BLc lv (m + 1) 1 X v := by
  intro s rest n hr hn hf
  obtain ⟨n0, rfl, h0⟩ := succ_of hn
  refine ⟨n0, Nat.le_refl _, ?_⟩
  rw [binM, if_neg (by omega), h s rest n0 hr h0 hf]
theorem binL_end {n lv : Nat} {v : Exp} {s : Ps} {rest : List Tok} (h : opG (hdd rest) (ops lv) = none) : binL n lv v (stt s rest) = (v, stt s rest) := by
  cases n with
  | zero => rw [binL]
  | succ n =>
    rw [binL]
    have : opL lv (stt s rest) = none := by unfold opL; rw [opGo_G]; exact h
    rw [this]
theorem bl_bm {lv m k : Nat} {X : List Tok} {v : Exp} (hl : lv ≤ 4) (h : BLc lv m k X v) : BMc lv m X v := by
  intro s rest n hr hn hf
  obtain ⟨n', _, e⟩ := h s rest n hr hn hf.up
  rw [e, binL_end (hf.1 lv (Nat.le_refl _) hl)]
theorem bm_em {m : Nat} {X : List Tok} {v : Exp} (h : BMc 0 m X v) : EMc (m + 1) X v := by
  intro s rest n hr hn hf hq
  obtain ⟨n0, rfl, h0⟩ := succ_of hn
  rw [exprM, h s rest n0 hr h0 hf, if_neg (by rw [at_stt, hq]; simp)]
theorem em_pr {m : Nat} {X : List Tok} {v : Exp} (h : EMc m X v) : PRc (m + 1) (sy [40] :: (X ++ [sy [41]])) v := by
  intro s rest n hr hn hp
  obtain ⟨n0, rfl, h0⟩ := succ_of hn
  have e : (sy [40] :: (X ++ [sy [41]])) ++ rest = sy [40] :: (X ++ sy [41] :: rest) := by simp
  rw [e]
  have h1 := h s (sy [41] :: rest) n0 (by simp) h0 ⟨by intro j _ hj; match j, hj with | 0, _ => rfl | 1, _ => rfl | 2, _ => rfl | 3, _ => rfl | 4, _ => rfl, rfl, rfl⟩ rfl
  have hX : X ++ sy [41] :: rest ≠ [] := by simp
  rw [priM, if_neg (by show ¬ (sy [40]).kind = 3; decide), if_neg (by show ¬ (sy [40]).kind = 1; decide)]
  rw [if_neg (by show ¬ atT _ (sy [40]) = true; decide), if_neg (by show ¬ atT _ (sy [40]) = true; decide), if_neg (by show ¬ atT _ (sy [40]) = true; decide), if_neg (by show ¬ atT _ (sy [40]) = true; decide), if_pos (by show atT _ (sy [40]) = true; decide)]
  rw [take_stt hX, h1]
  simp only
  rw [exp_stt hr rfl]
structure Up (L m k : Nat) (X : List Tok) (v : Exp) : Prop where
  ex : EMc m X v
  bm : ∀ lv, lv ≤ 4 → lv + 2 ≤ L → BMc lv m X v
  bl : ∀ lv, lv ≤ 4 → lv ≠ 2 → lv + 2 ≤ L → BLc lv m k X v
  um : 7 ≤ L → UMc m X v
  ix : 8 ≤ L → IXc m k X v
theorem EMc.weak {m m' : Nat} {X : List Tok} {v : Exp} (h : EMc m X v) (hm : m ≤ m') : EMc m' X v := fun s rest n a b c d => h s rest n a (Nat.le_trans hm b) c d
theorem BMc.weak {lv m m' : Nat} {X : List Tok} {v : Exp} (h : BMc lv m X v) (hm : m ≤ m') : BMc lv m' X v := fun s rest n a b c => h s rest n a (Nat.le_trans hm b) c
theorem UMc.weak {m m' : Nat} {X : List Tok} {v : Exp} (h : UMc m X v) (hm : m ≤ m') : UMc m' X v := fun s rest n a b c => h s rest n a (Nat.le_trans hm b) c
theorem BLc.weak {lv m m' k k' : Nat} {X : List Tok} {v : Exp} (h : BLc lv m k X v) (hm : m ≤ m') (hk : k ≤ k') : BLc lv m' k' X v := fun s rest n a b c => by
  obtain ⟨n', h1, h2⟩ := h s rest n a (Nat.le_trans hm b) c
  exact ⟨n', by omega, h2⟩
theorem IXc.weak {m m' k k' : Nat} {X : List Tok} {v : Exp} (h : IXc m k X v) (hm : m ≤ m') (hk : k ≤ k') : IXc m' k' X v := fun s rest n a b c => by
  obtain ⟨n', h1, h2⟩ := h s rest n a (Nat.le_trans hm b) c
  exact ⟨n', by omega, h2⟩
theorem bm_down {X : List Tok} {v : Exp} : ∀ (d lv m : Nat), lv + d ≤ 5 → BMc (lv + d) m X v → BMc lv (m + d) X v
  | 0, lv, m, _, h => h
  | d + 1, lv, m, hl, h => by
    have h1 := bm_down d (lv + 1) m (by omega) (by rw [Nat.add_right_comm]; exact h)
    exact (bl_bm (by omega) (bm_bl (by omega) h1)).weak (by omega)
theorem bm_any {L m : Nat} {X : List Tok} {v : Exp} (hL : L ≤ 5) (h : BMc L m X v) (lv : Nat) (hl : lv ≤ L) : BMc lv (m + 5) X v := by
  have h1 := bm_down (L - lv) lv m (by omega) (by rw [show lv + (L - lv) = L by omega]; exact h)
  exact h1.weak (by omega)
theorem up_em {m k : Nat} {X : List Tok} {v : Exp} (h : EMc m X v) : Up 1 m k X v := ⟨h, fun lv _ h => by omega, fun lv _ _ h => by omega, fun h => by omega, fun h => by omega⟩
theorem up_bm {L m k : Nat} {X : List Tok} {v : Exp} (hL : L ≤ 5) (h : BMc L m X v) (hb : ∀ lv, lv = L → lv ≤ 4 → lv ≠ 2 → BLc lv m k X v) (hu : L = 5 → UMc m X v) : Up (L + 2) (m + 10) (k + 10) X v where
  ex := (bm_em (bm_any hL h 0 (by omega))).weak (by omega)
  bm lv h1 h2 := (bm_any hL h lv (by omega)).weak (by omega)
  bl lv h1 h2 h3 := by
    by_cases e : lv = L
    · exact (hb lv e h1 h2).weak (by omega) (by omega)
    · exact (bm_bl h1 (bm_any hL h (lv + 1) (by omega))).weak (by omega) (by omega)
  um h1 := (hu (by omega)).weak (by omega)
  ix h1 := by omega
theorem up_bl {lv m k : Nat} {X : List Tok} {v : Exp} (hl : lv ≤ 4) (h : BLc lv m k X v) : Up (lv + 2) (m + 10) (k + 10) X v :=
  up_bm (by omega) (bl_bm hl h) (fun j e _ _ => by subst e; exact h) (fun h => by omega)
theorem up_um {m k : Nat} {X : List Tok} {v : Exp} (h : UMc m X v) : Up 7 (m + 11) (k + 10) X v := by
  have := up_bm (L := 5) (k := k) (Nat.le_refl _) (um_bm h) (fun lv e h1 => by omega) (fun _ => h.weak (by omega))
  exact this
theorem up_ix {m k : Nat} {X : List Tok} {v : Exp} (h : IXc m k X v) : Up 8 (m + 11) (k + 10) X v := by
  have u := up_um (k := k) (ix_um h)
  exact ⟨u.ex, fun lv h1 h2 => u.bm lv h1 (by omega), fun lv h1 h2 h3 => u.bl lv h1 h2 (by omega), fun _ => u.um (by omega), fun _ => h.weak (by omega) (by omega)⟩
theorem up_pr {m : Nat} {X : List Tok} {v : Exp} (hx : Hd X) (h : PRc m X v) : Up 9 (m + 12) 11 X v := by
  have u := up_ix (pr_ix hx h)
  exact ⟨u.ex, fun lv h1 h2 => u.bm lv h1 (by omega), fun lv h1 h2 h3 => u.bl lv h1 h2 (by omega), fun _ => u.um (by omega), fun _ => u.ix (by omega)⟩
end Go.Ky

/- KX 51: the parser on the tokens of a canonical text: it finds the expression. -/
set_option linter.unusedSimpArgs false
set_option linter.unusedVariables false
namespace Go.Ky
open Go.Pi Go.Lx
theorem fo_sy (t : Nm) (h : ∀ x : Nm × Int, x ∈ ops 0 ++ (ops 1 ++ (ops 2 ++ (ops 3 ++ ops 4))) → x.1 ≠ t) (h1 : t ≠ [91]) (h2 : t ≠ [40]) : Fo 0 (sy t) := by
  have go : ∀ l : List (Nm × Int), (∀ x ∈ l, x.1 ≠ t) → opG (sy t) l = none := by
    intro l
    induction l with
    | nil => intro _; rfl
    | cons x r ih =>
      intro hx
      obtain ⟨a, b⟩ := x
      rw [opG, if_neg, ih fun y hy => hx y (List.mem_cons_of_mem _ hy)]
      intro q
      unfold atT sy at q
      simp only [Bool.and_eq_true, decide_eq_true_eq] at q
      exact hx (a, b) List.mem_cons_self q.2.symm
  refine ⟨fun j _ hj => ?_, ?_, ?_⟩
  · match j, hj with
    | 0, _ => exact go _ fun x hx => h x (by simp [hx])
    | 1, _ => exact go _ fun x hx => h x (by simp [hx])
    | 2, _ => exact go _ fun x hx => h x (by simp [hx])
    | 3, _ => exact go _ fun x hx => h x (by simp [hx])
    | 4, _ => exact go _ fun x hx => h x (by simp [hx])
  · unfold atT sy; simp [h1]
  · unfold atT sy; simp [h2]
theorem fo_close : Fo 0 (sy [41]) := fo_sy _ (by decide) (by decide) (by decide)
theorem fo_brak : Fo 0 (sy [93]) := fo_sy _ (by decide) (by decide) (by decide)
theorem fo_comma : Fo 0 (sy [44]) := fo_sy _ (by decide) (by decide) (by decide)
theorem fo_quest : Fo 0 (sy [63]) := fo_sy _ (by decide) (by decide) (by decide)
theorem fo_colon : Fo 0 (sy [58]) := fo_sy _ (by decide) (by decide) (by decide)
def moreT (l : List (List Tok × Exp)) : List Tok := l.flatMap fun p => sy [44] :: p.1
theorem lisL_run : ∀ (l : List (List Tok × Exp)) (acc : List Exp) (s : Ps) (rest : List Tok) (n m : Nat), (∀ p, p ∈ l → EMc m p.1 p.2) → rest ≠ [] → Fo 0 (hdd rest) → atT [63] (hdd rest) = false → atT [44] (hdd rest) = false → m + l.length ≤ n →
    lisL n acc (stt s (moreT l ++ rest)) = (acc ++ l.map (·.2), stt s rest)
  | [], acc, s, rest, n, m, _, hr, hf, hq, hc, hn => by
    show lisL n acc (stt s rest) = _
    cases n with
    | zero => rw [lisL]; simp
    | succ n => rw [lisL, if_neg (by rw [at_stt, hc]; simp)]; simp
  | p :: r, acc, s, rest, n, m, hp, hr, hf, hq, hc, hn => by
    obtain ⟨n0, rfl, h0⟩ := succ_of (m := m + r.length) (n := n) (by simp only [List.length_cons] at hn; omega)
    have e : moreT (p :: r) ++ rest = sy [44] :: (p.1 ++ (moreT r ++ rest)) := by simp [moreT]
    have hne : moreT r ++ rest ≠ [] := by simp [hr]
    have hne2 : p.1 ++ (moreT r ++ rest) ≠ [] := by simp [hr]
    have hh : Fo 0 (hdd (moreT r ++ rest)) ∧ atT [63] (hdd (moreT r ++ rest)) = false := by
      cases r with
      | nil => exact ⟨hf, hq⟩
      | cons q r => exact ⟨fo_comma, rfl⟩
    rw [e, lisL, if_pos (by show atT [44] (sy [44]) = true; decide), take_stt hne2, hp p List.mem_cons_self s _ n0 hne (by omega) hh.1 hh.2]
    simp only
    rw [lisL_run r _ s rest n0 m (fun q hq => hp q (List.mem_cons_of_mem _ hq)) hr hf hq hc (by omega)]
    simp
theorem lisM_run {p : List Tok × Exp} {l : List (List Tok × Exp)} {s : Ps} {rest : List Tok} {n m : Nat} (hp : ∀ q, q ∈ p :: l → EMc m q.1 q.2) (hr : rest ≠ []) (hf : Fo 0 (hdd rest)) (hq : atT [63] (hdd rest) = false) (hc : atT [44] (hdd rest) = false) (hn : m + l.length + 1 ≤ n) :
    lisM n (stt s (p.1 ++ (moreT l ++ rest))) = (p.2 :: l.map (·.2), stt s rest) := by
  obtain ⟨n0, rfl, h0⟩ := succ_of hn
  have hne : moreT l ++ rest ≠ [] := by simp [hr]
  have hh : Fo 0 (hdd (moreT l ++ rest)) ∧ atT [63] (hdd (moreT l ++ rest)) = false := by
    cases l with
    | nil => exact ⟨hf, hq⟩
    | cons q r => exact ⟨fo_comma, rfl⟩
  rw [lisM, hp p List.mem_cons_self s _ n0 hne (by omega) hh.1 hh.2]
  simp only
  rw [lisL_run l _ s rest n0 m (fun q hq => hp q (List.mem_cons_of_mem _ hq)) hr hf hq hc (by omega)]
  rfl
structure Pe (e : Exp) : Prop where
  ex : EMc (64 * zn e) (tks (parP 1 (ar e))) (canE e)
  bm : ∀ lv, lv ≤ 4 → BMc lv (64 * zn e) (tks (parP (lv + 2) (ar e))) (canE e)
  bl : ∀ lv, lv ≤ 4 → lv ≠ 2 → BLc lv (64 * zn e) (64 * zn e) (tks (parP (lv + 2) (ar e))) (canE e)
  u7 : UMc (64 * zn e) (tks (parP 7 (ar e))) (canE e)
  u8 : UMc (64 * zn e) (tks (parP 8 (ar e))) (canE e)
  ix : IXc (64 * zn e) (64 * zn e) (tks (parP 8 (ar e))) (canE e)
  hd : ∀ r, ∃ t rr, tks (parP r (ar e)) = t :: rr ∧ atT [41] t = false
theorem par_tks (r : Nat) (e : Exp) : tks (parP r (ar e)) = if lvlO e.op < r then sy [40] :: (tks (bareP e) ++ [sy [41]]) else tks (bareP e) := by
  unfold parP ar
  simp only
  split
  · rw [tks_some, tks_app]; rfl
  · rfl
theorem Up.weak {L m k m' k' : Nat} {X : List Tok} {v : Exp} (u : Up L m k X v) (hm : m ≤ m') (hk : k ≤ k') : Up L m' k' X v :=
  ⟨u.ex.weak hm, fun lv a b => (u.bm lv a b).weak hm, fun lv a b c => (u.bl lv a b c).weak hm hk, fun a => (u.um a).weak hm, fun a => (u.ix a).weak hm hk⟩
theorem pe_of {e : Exp} {m k : Nat} (u : Up (lvlO e.op) m k (tks (bareP e)) (canE e)) (hd : ∃ t rr, tks (bareP e) = t :: rr ∧ atT [41] t = false) (hm : m + 20 ≤ 64 * zn e) (hk : k + 20 ≤ 64 * zn e) : Pe e := by
  have up := up_pr (X := sy [40] :: (tks (bareP e) ++ [sy [41]])) ⟨_, _, rfl, by decide, by decide⟩ (em_pr u.ex)
  have up' := up.weak (m' := 64 * zn e) (k' := 64 * zn e) (by omega) (by omega)
  have u' := u.weak (m' := 64 * zn e) (k' := 64 * zn e) (by omega) (by omega)
  have key : ∀ r, r ≤ 9 → ∃ L, r ≤ L ∧ Up L (64 * zn e) (64 * zn e) (tks (parP r (ar e))) (canE e) := by
    intro r hr
    rw [par_tks]
    split
    · exact ⟨9, hr, up'⟩
    · exact ⟨_, by omega, u'⟩
  refine ⟨?_, fun lv h => ?_, fun lv h h2 => ?_, ?_, ?_, ?_, fun r => ?_⟩
  · obtain ⟨L, h1, h2⟩ := key 1 (by omega); exact h2.ex
  · obtain ⟨L, h1, h2⟩ := key (lv + 2) (by omega); exact h2.bm lv h h1
  · obtain ⟨L, h1, h3⟩ := key (lv + 2) (by omega); exact h3.bl lv h h2 h1
  · obtain ⟨L, h1, h2⟩ := key 7 (by omega); exact h2.um h1
  · obtain ⟨L, h1, h2⟩ := key 8 (by omega); exact h2.um (by omega)
  · obtain ⟨L, h1, h2⟩ := key 8 (by omega); exact h2.ix h1
  · rw [par_tks]
    split
    · exact ⟨_, _, rfl, by decide⟩
    · exact hd
theorem bin_bl {lv m k m1 : Nat} {X0 X1 : List Tok} {v0 v1 : Exp} {op : Int} {t : Tok} (hl : lv ≤ 4) (h2 : lv ≠ 2) (hop : opG t (ops lv) = some op) (hf : Fo (lv + 1) t) (h0 : BLc lv m k X0 v0) (h1 : BMc (lv + 1) m1 X1 v1) {M : Nat} (hM : m ≤ M) (hM2 : k + m1 + 1 ≤ M) : BLc lv M (k + 1) (X0 ++ t :: X1) (nod op [v0, v1]) := by
  intro s rest n hr hn hfr
  have e : (X0 ++ t :: X1) ++ rest = X0 ++ t :: (X1 ++ rest) := by simp
  obtain ⟨n', a, b⟩ := h0 s (t :: (X1 ++ rest)) n (by simp) (by omega) hf
  obtain ⟨n2, rfl, c⟩ := succ_of (m := m1) (n := n') (by omega)
  refine ⟨n2, by omega, ?_⟩
  have ho : opL lv (stt s (t :: (X1 ++ rest))) = some op := by unfold opL; rw [opGo_G]; exact hop
  rw [e, b, binL, ho]
  simp only
  rw [if_neg h2, take_stt (by simp [hr]), h1 s rest n2 hr c hfr]
theorem bin_bm {m m1 : Nat} {X0 X1 : List Tok} {v0 v1 : Exp} {op : Int} {t : Tok} (hop : opG t (ops 2) = some op) (hf : Fo 3 t) (h0 : BMc 3 m X0 v0) (h1 : BMc 3 m1 X1 v1) : BMc 2 (m + m1 + 3) (X0 ++ t :: X1) (nod op [v0, v1]) := by
  intro s rest n hr hn hfr
  have e : (X0 ++ t :: X1) ++ rest = X0 ++ t :: (X1 ++ rest) := by simp
  obtain ⟨n', a, b⟩ := bm_bl (lv := 2) (by decide) h0 s (t :: (X1 ++ rest)) n (by simp) (by omega) hf
  obtain ⟨n2, rfl, c⟩ := succ_of (m := m1) (n := n') (by omega)
  have ho : opL 2 (stt s (t :: (X1 ++ rest))) = some op := by unfold opL; rw [opGo_G]; exact hop
  rw [e, b, binL, ho]
  simp only
  rw [if_pos trivial, take_stt (by simp [hr]), h1 s rest n2 hr c hfr.up]
theorem neg_um {m : Nat} {X : List Tok} {v : Exp} (h : UMc m X v) : UMc (m + 1) (sy [45] :: X) (nod 9 [v]) := by
  intro s rest n hr hn hf
  obtain ⟨n0, rfl, h0⟩ := succ_of hn
  have hne : X ++ rest ≠ [] := by simp [hr]
  show unM (n0 + 1) (stt s (sy [45] :: (X ++ rest))) = _
  rw [unM, if_pos (by show atT _ (sy [45]) = true; decide), take_stt hne, h s rest n0 hr h0 hf]
theorem not_um {m : Nat} {X : List Tok} {v : Exp} (h : UMc m X v) : UMc (m + 1) (kw [110, 111, 116] :: X) (nod 10 [v]) := by
  intro s rest n hr hn hf
  obtain ⟨n0, rfl, h0⟩ := succ_of hn
  have hne : X ++ rest ≠ [] := by simp [hr]
  show unM (n0 + 1) (stt s (kw [110, 111, 116] :: (X ++ rest))) = _
  rw [unM, if_neg (by show ¬ atT _ (kw [110, 111, 116]) = true; decide), if_pos (by show atT _ (kw [110, 111, 116]) = true; decide), take_stt hne, h s rest n0 hr h0 hf]
theorem idx_ix {m k m1 : Nat} {X0 X1 : List Tok} {v0 v1 : Exp} (h0 : IXc m k X0 v0) (h1 : EMc m1 X1 v1) {M : Nat} (hM : m ≤ M) (hM2 : k + m1 + 1 ≤ M) : IXc M (k + 1) (X0 ++ sy [91] :: (X1 ++ [sy [93]])) (nod 8 [v0, v1]) := by
  intro s rest n hr hn hp
  have e : (X0 ++ sy [91] :: (X1 ++ [sy [93]])) ++ rest = X0 ++ sy [91] :: (X1 ++ sy [93] :: rest) := by simp
  obtain ⟨n', a, b⟩ := h0 s (sy [91] :: (X1 ++ sy [93] :: rest)) n (by simp) (by omega) (by show atT _ (sy [91]) = false; decide)
  obtain ⟨n2, rfl, c⟩ := succ_of (m := m1) (n := n') (by omega)
  refine ⟨n2, by omega, ?_⟩
  rw [e, b, idxL, if_pos (by show atT _ (sy [91]) = true; decide), take_stt (by simp), h1 s (sy [93] :: rest) n2 (by simp) c fo_brak rfl]
  simp only
  rw [exp_stt hr (by decide)]
theorem cond_em {m m1 m2 : Nat} {X0 X1 X2 : List Tok} {v0 v1 v2 : Exp} (h0 : BMc 0 m X0 v0) (h1 : EMc m1 X1 v1) (h2 : EMc m2 X2 v2) : EMc (m + m1 + m2 + 1) (X0 ++ sy [63] :: (X1 ++ sy [58] :: X2)) (nod 20 [v0, v1, v2]) := by
  intro s rest n hr hn hf hq
  obtain ⟨n0, rfl, c⟩ := succ_of hn
  have e : (X0 ++ sy [63] :: (X1 ++ sy [58] :: X2)) ++ rest = X0 ++ sy [63] :: (X1 ++ sy [58] :: (X2 ++ rest)) := by simp
  rw [e, exprM, h0 s (sy [63] :: (X1 ++ sy [58] :: (X2 ++ rest))) n0 (by simp) (by omega) fo_quest, if_pos (by show atT _ (sy [63]) = true; decide)]
  simp only
  rw [take_stt (by simp), h1 s (sy [58] :: (X2 ++ rest)) n0 (by simp) (by omega) fo_colon rfl]
  simp only
  rw [exp_stt (by simp [hr]) (by decide), h2 s rest n0 hr (by omega) hf hq]
theorem leaf_nu {v : Nat} : PRc 1 [nu v] (.mk 1 v [] true []) := by
  intro s rest n hr hn hp
  obtain ⟨n0, rfl, h0⟩ := succ_of hn
  show priM (n0 + 1) (stt s (nu v :: rest)) = _
  rw [priM, if_pos (by show (nu v).kind = 3; rfl), take_stt hr]
  rfl
theorem leaf_nm {t : Nm} : PRc 1 [nmT t] (.mk 2 0 t true []) := by
  intro s rest n hr hn hp
  obtain ⟨n0, rfl, h0⟩ := succ_of hn
  show priM (n0 + 1) (stt s (nmT t :: rest)) = _
  rw [priM, if_neg (by show ¬ (1 : Nat) = 3; decide), if_pos (by show (1 : Nat) = 1; rfl), take_stt hr, if_neg (by rw [at_stt, hp]; simp)]
  rfl
theorem leaf_true : PRc 1 [kw [116, 114, 117, 101]] (nod 3 []) := by
  intro s rest n hr hn hp
  obtain ⟨n0, rfl, h0⟩ := succ_of hn
  show priM (n0 + 1) (stt s (kw [116, 114, 117, 101] :: rest)) = _
  rw [priM, if_neg (by show ¬ (2 : Nat) = 3; decide), if_neg (by show ¬ (2 : Nat) = 1; decide), if_pos (by show atT _ (kw [116, 114, 117, 101]) = true; decide), take_stt hr]
theorem leaf_false : PRc 1 [kw [102, 97, 108, 115, 101]] (nod 4 []) := by
  intro s rest n hr hn hp
  obtain ⟨n0, rfl, h0⟩ := succ_of hn
  show priM (n0 + 1) (stt s (kw [102, 97, 108, 115, 101] :: rest)) = _
  rw [priM, if_neg (by show ¬ (2 : Nat) = 3; decide), if_neg (by show ¬ (2 : Nat) = 1; decide), if_neg (by show ¬ atT _ (kw [102, 97, 108, 115, 101]) = true; decide), if_pos (by show atT _ (kw [102, 97, 108, 115, 101]) = true; decide), take_stt hr]
theorem call_none {t : Nm} : PRc 2 (nmT t :: sy [40] :: [sy [41]]) (.mk 5 0 t true []) := by
  intro s rest n hr hn hp
  obtain ⟨n0, rfl, h0⟩ := succ_of hn
  obtain ⟨n1, rfl, h1⟩ := succ_of h0
  show priM (n1 + 1 + 1) (stt s (nmT t :: sy [40] :: sy [41] :: rest)) = _
  rw [priM, if_neg (by show ¬ (1 : Nat) = 3; decide), if_pos (by show (1 : Nat) = 1; rfl), take_stt (by simp), if_pos (by show atT _ (sy [40]) = true; decide), take_stt (by simp), argM, if_pos (by show atT _ (sy [41]) = true; decide), take_stt hr]
  rfl
theorem call_some {t : Nm} {p : List Tok × Exp} {l : List (List Tok × Exp)} {m : Nat} (hp : ∀ q, q ∈ p :: l → EMc m q.1 q.2) (hd : ∃ u r, p.1 = u :: r ∧ atT [41] u = false) : PRc (m + l.length + 3) (nmT t :: sy [40] :: (p.1 ++ (moreT l ++ [sy [41]]))) (.mk 5 0 t false (p.2 :: l.map (·.2))) := by
  intro s rest n hr hn hpp
  obtain ⟨n0, rfl, h0⟩ := succ_of hn
  obtain ⟨n1, rfl, h1⟩ := succ_of h0
  have e : (nmT t :: sy [40] :: (p.1 ++ (moreT l ++ [sy [41]]))) ++ rest = nmT t :: sy [40] :: (p.1 ++ (moreT l ++ sy [41] :: rest)) := by simp
  have hn1 : p.1 ++ (moreT l ++ sy [41] :: rest) ≠ [] := by simp
  have hh : atT [41] (hdd (p.1 ++ (moreT l ++ sy [41] :: rest))) = false := by
    obtain ⟨u, r, e1, e2⟩ := hd
    rw [e1]; exact e2
  rw [e, priM, if_neg (by show ¬ (1 : Nat) = 3; decide), if_pos (by show (1 : Nat) = 1; rfl), take_stt (by simp), if_pos (by show atT _ (sy [40]) = true; decide), take_stt hn1, argM, if_neg (by rw [at_stt, hh]; simp), lisM_run hp (rest := sy [41] :: rest) (by simp) fo_close rfl rfl (by omega)]
  simp only
  rw [exp_stt hr (by decide)]
  rfl
theorem hash_pr {v : Nat} {p : List Tok × Exp} {l : List (List Tok × Exp)} {m : Nat} (hp : ∀ q, q ∈ p :: l → EMc m q.1 q.2) : PRc (m + l.length + 3) (kw [104, 97, 115, 104] :: sy [40] :: nu v :: sy [59] :: (p.1 ++ (moreT l ++ [sy [41]]))) (.mk 6 v [] false (p.2 :: l.map (·.2))) := by
  intro s rest n hr hn hpp
  obtain ⟨n0, rfl, h0⟩ := succ_of hn
  obtain ⟨n1, rfl, h1⟩ := succ_of h0
  have e : (kw [104, 97, 115, 104] :: sy [40] :: nu v :: sy [59] :: (p.1 ++ (moreT l ++ [sy [41]]))) ++ rest = kw [104, 97, 115, 104] :: sy [40] :: nu v :: sy [59] :: (p.1 ++ (moreT l ++ sy [41] :: rest)) := by simp
  have hn1 : p.1 ++ (moreT l ++ sy [41] :: rest) ≠ [] := by simp
  rw [e, priM, if_neg (by show ¬ (2 : Nat) = 3; decide), if_neg (by show ¬ (2 : Nat) = 1; decide), if_neg (by show ¬ atT _ (kw [104, 97, 115, 104]) = true; decide), if_neg (by show ¬ atT _ (kw [104, 97, 115, 104]) = true; decide), if_pos (by show atT _ (kw [104, 97, 115, 104]) = true; decide), take_stt (by simp), hashM, exp_stt (by simp) (by decide), if_neg (by show ¬ (3 : Nat) ≠ 3; decide), take_stt (by simp), exp_stt hn1 (by decide), lisM_run hp (rest := sy [41] :: rest) (by simp) fo_close rfl rfl (by omega)]
  simp only
  rw [exp_stt hr (by decide)]
  rfl
theorem list_pr {p : List Tok × Exp} {l : List (List Tok × Exp)} {m : Nat} (hp : ∀ q, q ∈ p :: l → EMc m q.1 q.2) : PRc (m + l.length + 3) (sy [91] :: (p.1 ++ (moreT l ++ [sy [93]]))) (nod 7 (p.2 :: l.map (·.2))) := by
  intro s rest n hr hn hpp
  obtain ⟨n0, rfl, h0⟩ := succ_of hn
  have e : (sy [91] :: (p.1 ++ (moreT l ++ [sy [93]]))) ++ rest = sy [91] :: (p.1 ++ (moreT l ++ sy [93] :: rest)) := by simp
  have hn1 : p.1 ++ (moreT l ++ sy [93] :: rest) ≠ [] := by simp
  rw [e, priM, if_neg (by show ¬ (4 : Nat) = 3; decide), if_neg (by show ¬ (4 : Nat) = 1; decide), if_neg (by show ¬ atT _ (sy [91]) = true; decide), if_neg (by show ¬ atT _ (sy [91]) = true; decide), if_neg (by show ¬ atT _ (sy [91]) = true; decide), if_pos (by show atT _ (sy [91]) = true; decide), take_stt hn1, lisM_run hp (rest := sy [93] :: rest) (by simp) fo_brak rfl rfl (by omega)]
  simp only
  rw [exp_stt hr (by decide)]
end Go.Ky

/- KX 52: every valid expression is found in its canonical tokens. -/
set_option linter.unusedSimpArgs false
set_option linter.unusedVariables false
namespace Go.Ky
open Go.Pi Go.Lx
theorem opB_cases {op n v : Int} {nm : Nm} (h : opB op n v nm = true) :
    (op = 1 ∧ n = 0 ∧ nm = []) ∨ (op = 2 ∧ n = 0 ∧ v = 0 ∧ nameB nm = true) ∨ (op = 3 ∧ n = 0 ∧ v = 0 ∧ nm = []) ∨ (op = 4 ∧ n = 0 ∧ v = 0 ∧ nm = []) ∨ (op = 5 ∧ v = 0 ∧ nameB nm = true) ∨ (op = 6 ∧ 1 ≤ n ∧ nm = []) ∨ (op = 7 ∧ 1 ≤ n ∧ v = 0 ∧ nm = []) ∨
    (op = 9 ∧ n = 1 ∧ v = 0 ∧ nm = []) ∨ (op = 10 ∧ n = 1 ∧ v = 0 ∧ nm = []) ∨ (op = 20 ∧ n = 3 ∧ v = 0 ∧ nm = []) ∨ (op = 8 ∧ n = 2 ∧ v = 0 ∧ nm = []) ∨ ((op = 11 ∨ op = 12 ∨ op = 13 ∨ op = 14 ∨ op = 15 ∨ op = 16 ∨ op = 17 ∨ op = 18 ∨ op = 19) ∧ n = 2 ∧ v = 0 ∧ nm = []) := by
  unfold opB at h
  by_cases c1 : op = 1
  · rw [if_pos c1] at h; simp only [Bool.and_eq_true, decide_eq_true_eq] at h; exact .inl ⟨c1, h.1, h.2⟩
  rw [if_neg c1] at h
  by_cases c2 : op = 2
  · rw [if_pos c2] at h; simp only [Bool.and_eq_true, decide_eq_true_eq] at h; exact .inr (.inl ⟨c2, h.1.1, h.1.2, h.2⟩)
  rw [if_neg c2] at h
  by_cases c3 : op = 3 ∨ op = 4
  · rw [if_pos c3] at h; simp only [Bool.and_eq_true, decide_eq_true_eq] at h
    rcases c3 with c | c
    · exact .inr (.inr (.inl ⟨c, h.1.1, h.1.2, h.2⟩))
    · exact .inr (.inr (.inr (.inl ⟨c, h.1.1, h.1.2, h.2⟩)))
  rw [if_neg c3] at h
  by_cases c5 : op = 5
  · rw [if_pos c5] at h; simp only [Bool.and_eq_true, decide_eq_true_eq] at h; exact .inr (.inr (.inr (.inr (.inl ⟨c5, h.1, h.2⟩))))
  rw [if_neg c5] at h
  by_cases c6 : op = 6
  · rw [if_pos c6] at h; simp only [Bool.and_eq_true, decide_eq_true_eq] at h; exact .inr (.inr (.inr (.inr (.inr (.inl ⟨c6, h.1, h.2⟩)))))
  rw [if_neg c6] at h
  by_cases c7 : op = 7
  · rw [if_pos c7] at h; simp only [Bool.and_eq_true, decide_eq_true_eq] at h; exact .inr (.inr (.inr (.inr (.inr (.inr (.inl ⟨c7, h.1.1, h.1.2, h.2⟩))))))
  rw [if_neg c7] at h
  by_cases c9 : op = 9 ∨ op = 10
  · rw [if_pos c9] at h; simp only [Bool.and_eq_true, decide_eq_true_eq] at h
    rcases c9 with c | c
    · exact .inr (.inr (.inr (.inr (.inr (.inr (.inr (.inl ⟨c, h.1.1, h.1.2, h.2⟩)))))))
    · exact .inr (.inr (.inr (.inr (.inr (.inr (.inr (.inr (.inl ⟨c, h.1.1, h.1.2, h.2⟩))))))))
  rw [if_neg c9] at h
  by_cases c20 : op = 20
  · rw [if_pos c20] at h; simp only [Bool.and_eq_true, decide_eq_true_eq] at h; exact .inr (.inr (.inr (.inr (.inr (.inr (.inr (.inr (.inr (.inl ⟨c20, h.1.1, h.1.2, h.2⟩)))))))))
  rw [if_neg c20] at h
  by_cases c8 : op = 8 ∨ op = 11 ∨ op = 12 ∨ op = 13 ∨ op = 14 ∨ op = 15 ∨ op = 16 ∨ op = 17 ∨ op = 18 ∨ op = 19
  · rw [if_pos c8] at h; simp only [Bool.and_eq_true, decide_eq_true_eq] at h
    rcases c8 with c | c
    · exact .inr (.inr (.inr (.inr (.inr (.inr (.inr (.inr (.inr (.inr (.inl ⟨c, h.1.1, h.1.2, h.2⟩))))))))))
    · exact .inr (.inr (.inr (.inr (.inr (.inr (.inr (.inr (.inr (.inr (.inr ⟨c, h.1.1, h.1.2, h.2⟩))))))))))
  · rw [if_neg c8] at h; cases h
theorem zns_cons (e : Exp) (r : List Exp) : zns (e :: r) = zn e + zns r := by rw [zns]
theorem zns_nil : zns [] = 0 := by rw [zns]
theorem zn_pos (e : Exp) : 1 ≤ zn e := by rw [zn_eq]; omega
theorem zns_len : ∀ l : List Exp, l.length ≤ zns l
  | [] => Nat.zero_le _
  | e :: r => by have := zn_pos e; have := zns_len r; rw [zns_cons, List.length_cons]; omega
theorem zn_mem : ∀ {l : List Exp} {a : Exp}, a ∈ l → zn a + l.length ≤ zns l + 1
  | e :: r, a, h => by
    rw [zns_cons, List.length_cons]
    rcases List.mem_cons.1 h with rfl | h
    · have := zns_len r; omega
    · have := zn_mem h; have := zn_pos e; omega
def prE (x : Exp) : List Tok × Exp := (tks (parP 1 (ar x)), canE x)
theorem tks_more (r : List Exp) : tks ((r.map fun x => parP 1 (ar x)).flatMap fun y => some (sy [44]) :: none :: y) = moreT (r.map prE) := by
  induction r with
  | nil => rfl
  | cons a r ih =>
    rw [List.map_cons, List.flatMap_cons, tks_app, ih]
    rfl
theorem tks_list (a : Exp) (r : List Exp) : tks (commaP (((a :: r).map ar).map (parP 1))) = tks (parP 1 (ar a)) ++ moreT (r.map prE) := by
  rw [List.map_cons, List.map_cons, commaP, tks_app]
  have : (r.map ar).map (parP 1) = r.map fun x => parP 1 (ar x) := by rw [List.map_map]; rfl
  rw [this, tks_more]
theorem more_em {a : Exp} {r : List Exp} (h : ∀ x, x ∈ a :: r → Pe x) : ∀ q, q ∈ prE a :: r.map prE → EMc (64 * (zns (a :: r) + 1 - (a :: r).length)) q.1 q.2 := by
  intro q hq
  obtain ⟨x, hx, rfl⟩ : ∃ x, x ∈ a :: r ∧ q = prE x := by
    rcases List.mem_cons.1 hq with e | e
    · exact ⟨a, List.mem_cons_self, e⟩
    · obtain ⟨x, h1, h2⟩ := List.mem_map.1 e
      exact ⟨x, List.mem_cons_of_mem _ h1, h2.symm⟩
  have := zn_mem hx
  exact (h x hx).ex.weak (by omega)
theorem snd_pr (r : List Exp) : (r.map prE).map (·.2) = r.map canE := by rw [List.map_map]; rfl
theorem at_nu {x : Nm} {v : Nat} {c : UInt8} (hc : c ∈ x) (hd : isDig c = false) : atT x (nu v) = false := by
  unfold atT nu
  rw [Bool.and_eq_false_iff]
  right
  refine decide_eq_false fun e => ?_
  have := decD_dig v c (by rw [show decD v = x from e]; exact hc)
  rw [hd] at this
  cases this
theorem at_nm {x n : Nm} (hx : nameB x = false) (hn : nameB n = true) : atT x (nmT n) = false := by
  unfold atT nmT
  rw [Bool.and_eq_false_iff]
  right
  refine decide_eq_false fun e => ?_
  rw [show n = x from e, hx] at hn
  cases hn
theorem hd_app {X : List Tok} (h : ∃ t rr, X = t :: rr ∧ atT [41] t = false) (Y : List Tok) : ∃ t rr, X ++ Y = t :: rr ∧ atT [41] t = false := by
  obtain ⟨t, rr, rfl, e⟩ := h
  exact ⟨t, rr ++ Y, rfl, e⟩
theorem pe_all : ∀ e : Exp, exB e = true → ExpOk e → Pe e := by
  refine Exp.ind fun e ih hv ho => ?_
  cases ho with | mk _ h1 h2 h3 h4 h5 h6 =>
  rw [exB_eq, Bool.and_eq_true, List.all_eq_true] at hv
  have hc := opB_cases hv.2
  have ha : ∀ a, a ∈ e.args → Pe a := fun a h => ih a h (hv.1 a h) (h6 a h)
  have hT : bareP e = bareO e.op e.val e.name (e.args.map ar) := bareP_eq e
  have hC := canE_eq e
  have hZ := zn_eq e
  obtain ⟨op, v, n, nl, l⟩ := e
  simp only [Exp.op, Exp.val, Exp.name, Exp.args] at hc ha hT hC hZ h2
  have l0 : ∀ {k : Int}, (l.length : Int) = k → ∀ m : Nat, k = (m : Int) → l.length = m := fun h m e => by omega
  rcases hc with ⟨rfl, hl, rfl⟩ | ⟨rfl, hl, rfl, hn⟩ | ⟨rfl, hl, rfl, rfl⟩ | ⟨rfl, hl, rfl, rfl⟩ | ⟨rfl, rfl, hn⟩ | ⟨rfl, hl, rfl⟩ | ⟨rfl, hl, rfl, rfl⟩ | ⟨rfl, hl, rfl, rfl⟩ | ⟨rfl, hl, rfl, rfl⟩ | ⟨rfl, hl, rfl, rfl⟩ | ⟨rfl, hl, rfl, rfl⟩ | ⟨hop, hl, rfl, rfl⟩
  · obtain rfl : l = [] := List.eq_nil_of_length_eq_zero (by omega)
    have e1 : tks (bareP (.mk 1 v [] nl [])) = [nu v.toNat] := by rw [hT]; rfl
    have e2 : canE (.mk 1 v [] nl []) = .mk 1 ((v.toNat : Nat) : Int) [] true [] := by
      rw [hC, Int.toNat_of_nonneg h2.1]; rfl
    refine pe_of (m := 13) (k := 11) ?_ ?_ (by rw [hZ, zns_nil]; decide) (by rw [hZ, zns_nil]; decide)
    · rw [e1, e2]; exact up_pr ⟨_, _, rfl, at_nu (c := 45) (by simp) (by decide), at_nu (c := 110) (by simp) (by decide)⟩ leaf_nu
    · rw [e1]; exact ⟨_, _, rfl, at_nu (c := 41) (by simp) (by decide)⟩
  · obtain rfl : l = [] := List.eq_nil_of_length_eq_zero (by omega)
    have e1 : tks (bareP (.mk 2 0 n nl [])) = [nmT n] := by rw [hT]; rfl
    have e2 : canE (.mk 2 0 n nl []) = .mk 2 0 n true [] := by rw [hC]; rfl
    refine pe_of (m := 13) (k := 11) ?_ ?_ (by rw [hZ, zns_nil]; decide) (by rw [hZ, zns_nil]; decide)
    · rw [e1, e2]; exact up_pr ⟨_, _, rfl, at_nm (by decide) hn, at_nm (by decide) hn⟩ leaf_nm
    · rw [e1]; exact ⟨_, _, rfl, at_nm (by decide) hn⟩
  · obtain rfl : l = [] := List.eq_nil_of_length_eq_zero (by omega)
    have e1 : tks (bareP (.mk 3 0 [] nl [])) = [kw [116, 114, 117, 101]] := by rw [hT]; rfl
    have e2 : canE (.mk 3 0 [] nl []) = nod 3 [] := by rw [hC]; rfl
    refine pe_of (m := 13) (k := 11) ?_ ?_ (by rw [hZ, zns_nil]; decide) (by rw [hZ, zns_nil]; decide)
    · rw [e1, e2]; exact up_pr ⟨_, _, rfl, by decide, by decide⟩ leaf_true
    · rw [e1]; exact ⟨_, _, rfl, by decide⟩
  · obtain rfl : l = [] := List.eq_nil_of_length_eq_zero (by omega)
    have e1 : tks (bareP (.mk 4 0 [] nl [])) = [kw [102, 97, 108, 115, 101]] := by rw [hT]; rfl
    have e2 : canE (.mk 4 0 [] nl []) = nod 4 [] := by rw [hC]; rfl
    refine pe_of (m := 13) (k := 11) ?_ ?_ (by rw [hZ, zns_nil]; decide) (by rw [hZ, zns_nil]; decide)
    · rw [e1, e2]; exact up_pr ⟨_, _, rfl, by decide, by decide⟩ leaf_false
    · rw [e1]; exact ⟨_, _, rfl, by decide⟩
  · -- a call
    cases l with
    | nil =>
      have e1 : tks (bareP (.mk 5 0 n nl [])) = nmT n :: sy [40] :: [sy [41]] := by rw [hT]; rfl
      have e2 : canE (.mk 5 0 n nl []) = .mk 5 0 n true [] := by rw [hC]; rfl
      refine pe_of (m := 14) (k := 11) ?_ ?_ (by rw [hZ, zns_nil]; decide) (by rw [hZ, zns_nil]; decide)
      · rw [e1, e2]; exact up_pr ⟨_, _, rfl, at_nm (by decide) hn, at_nm (by decide) hn⟩ call_none
      · rw [e1]; exact ⟨_, _, rfl, at_nm (by decide) hn⟩
    | cons a r =>
      have e1 : tks (bareP (.mk 5 0 n nl (a :: r))) = nmT n :: sy [40] :: ((prE a).1 ++ (moreT (r.map prE) ++ [sy [41]])) := by
        rw [hT]
        show nmT n :: sy [40] :: tks (commaP (((a :: r).map ar).map (parP 1)) ++ [some (sy [41])]) = _
        rw [tks_app, tks_list, List.append_assoc]; rfl
      have e2 : canE (.mk 5 0 n nl (a :: r)) = .mk 5 0 n false ((prE a).2 :: (r.map prE).map (·.2)) := by rw [hC, snd_pr]; rfl
      have hlen := zns_len (a :: r)
      simp only [List.length_cons] at hlen
      refine pe_of (m := 64 * (zns (a :: r) + 1 - (a :: r).length) + (r.map prE).length + 3 + 12) (k := 11) ?_ ?_ ?_ ?_
      · rw [e1, e2]; exact up_pr ⟨_, _, rfl, at_nm (by decide) hn, at_nm (by decide) hn⟩ (call_some (more_em ha) ((ha a List.mem_cons_self).hd 1))
      · rw [e1]; exact ⟨_, _, rfl, at_nm (by decide) hn⟩
      · rw [hZ, List.length_map, List.length_cons]; omega
      · rw [hZ]; omega
  · -- a hash
    cases l with
    | nil => simp at hl
    | cons a r =>
      have e1 : tks (bareP (.mk 6 v [] nl (a :: r))) = kw [104, 97, 115, 104] :: sy [40] :: nu v.toNat :: sy [59] :: ((prE a).1 ++ (moreT (r.map prE) ++ [sy [41]])) := by
        rw [hT]
        show kw [104, 97, 115, 104] :: sy [40] :: nu v.toNat :: sy [59] :: tks (commaP (((a :: r).map ar).map (parP 1)) ++ [some (sy [41])]) = _
        rw [tks_app, tks_list, List.append_assoc]; rfl
      have e2 : canE (.mk 6 v [] nl (a :: r)) = .mk 6 ((v.toNat : Nat) : Int) [] false ((prE a).2 :: (r.map prE).map (·.2)) := by rw [hC, snd_pr, Int.toNat_of_nonneg h2.1]; rfl
      have hlen := zns_len (a :: r)
      simp only [List.length_cons] at hlen
      refine pe_of (m := 64 * (zns (a :: r) + 1 - (a :: r).length) + (r.map prE).length + 3 + 12) (k := 11) ?_ ?_ ?_ ?_
      · rw [e1, e2]; exact up_pr ⟨_, _, rfl, by decide, by decide⟩ (hash_pr (more_em ha))
      · rw [e1]; exact ⟨_, _, rfl, by decide⟩
      · rw [hZ, List.length_map, List.length_cons]; omega
      · rw [hZ]; omega
  · -- a list
    cases l with
    | nil => simp at hl
    | cons a r =>
      have e1 : tks (bareP (.mk 7 0 [] nl (a :: r))) = sy [91] :: ((prE a).1 ++ (moreT (r.map prE) ++ [sy [93]])) := by
        rw [hT]
        show sy [91] :: tks (commaP (((a :: r).map ar).map (parP 1)) ++ [some (sy [93])]) = _
        rw [tks_app, tks_list, List.append_assoc]; rfl
      have e2 : canE (.mk 7 0 [] nl (a :: r)) = nod 7 ((prE a).2 :: (r.map prE).map (·.2)) := by rw [hC, snd_pr]; rfl
      have hlen := zns_len (a :: r)
      simp only [List.length_cons] at hlen
      refine pe_of (m := 64 * (zns (a :: r) + 1 - (a :: r).length) + (r.map prE).length + 3 + 12) (k := 11) ?_ ?_ ?_ ?_
      · rw [e1, e2]; exact up_pr ⟨_, _, rfl, by decide, by decide⟩ (list_pr (more_em ha))
      · rw [e1]; exact ⟨_, _, rfl, by decide⟩
      · rw [hZ, List.length_map, List.length_cons]; omega
      · rw [hZ]; omega
  · -- a sign
    match l, hl, ha, hT, hC, hZ with
    | [a], _, ha, hT, hC, hZ =>
    have pa := ha a (by simp)
    have e2 : canE (.mk 9 0 [] nl [a]) = nod 9 [canE a] := by rw [hC]; rfl
    have e1 : tks (bareP (.mk 9 0 [] nl [a])) = sy [45] :: tks (parP (if a.op = 9 then 8 else 7) (ar a)) := by rw [hT]; rfl
    have hz : zns [a] = zn a := by rw [zns_cons, zns_nil, Nat.add_zero]
    have hu : UMc (64 * zn a) (tks (parP (if a.op = 9 then 8 else 7) (ar a))) (canE a) := by
      split
      · exact pa.u8
      · exact pa.u7
    refine pe_of (m := 64 * zn a + 1 + 11) (k := 10) ?_ ?_ (by rw [hZ, hz]; omega) (by rw [hZ]; omega)
    · rw [e1, e2]; exact up_um (k := 0) (neg_um hu)
    · rw [e1]; exact ⟨_, _, rfl, by decide⟩
  · match l, hl, ha, hT, hC, hZ with
    | [a], _, ha, hT, hC, hZ =>
    have pa := ha a (by simp)
    have e2 : canE (.mk 10 0 [] nl [a]) = nod 10 [canE a] := by rw [hC]; rfl
    have e1 : tks (bareP (.mk 10 0 [] nl [a])) = kw [110, 111, 116] :: tks (parP 7 (ar a)) := by rw [hT]; rfl
    have hz : zns [a] = zn a := by rw [zns_cons, zns_nil, Nat.add_zero]
    refine pe_of (m := 64 * zn a + 1 + 11) (k := 10) ?_ ?_ (by rw [hZ, hz]; omega) (by rw [hZ]; omega)
    · rw [e1, e2]; exact up_um (k := 0) (not_um pa.u7)
    · rw [e1]; exact ⟨_, _, rfl, by decide⟩
  · match l, hl, ha, hT, hC, hZ with
    | [a, b, c], _, ha, hT, hC, hZ =>
    have pa := ha a (by simp)
    have pb := ha b (by simp)
    have pc := ha c (by simp)
    have e2 : canE (.mk 20 0 [] nl [a, b, c]) = nod 20 [canE a, canE b, canE c] := by rw [hC]; rfl
    have e1 : tks (bareP (.mk 20 0 [] nl [a, b, c])) = tks (parP 2 (ar a)) ++ sy [63] :: (tks (parP 1 (ar b)) ++ sy [58] :: tks (parP 1 (ar c))) := by
      rw [hT]
      show tks (parP 2 (ar a) ++ none :: some (sy [63]) :: none :: (parP 1 (ar b) ++ none :: some (sy [58]) :: none :: parP 1 (ar c))) = _
      rw [tks_app, tks_none, tks_some, tks_none, tks_app, tks_none, tks_some, tks_none]
    have hz : zns [a, b, c] = zn a + zn b + zn c := by rw [zns_cons, zns_cons, zns_cons, zns_nil]; omega
    refine pe_of (m := 64 * zn a + 64 * zn b + 64 * zn c + 1) (k := 0) ?_ ?_ (by rw [hZ, hz]; omega) (by rw [hZ]; omega)
    · rw [e1, e2]; exact up_em (cond_em (pa.bm 0 (by decide)) pb.ex pc.ex)
    · rw [e1]; exact hd_app (pa.hd 2) _
  · match l, hl, ha, hT, hC, hZ with
    | [a, b], _, ha, hT, hC, hZ =>
    have pa := ha a (by simp)
    have pb := ha b (by simp)
    have e2 : canE (.mk 8 0 [] nl [a, b]) = nod 8 [canE a, canE b] := by rw [hC]; rfl
    have e1 : tks (bareP (.mk 8 0 [] nl [a, b])) = tks (parP 8 (ar a)) ++ sy [91] :: (tks (parP 1 (ar b)) ++ [sy [93]]) := by
      rw [hT]
      show tks (parP 8 (ar a) ++ some (sy [91]) :: (parP 1 (ar b) ++ [some (sy [93])])) = _
      rw [tks_app, tks_some, tks_app]; rfl
    have hz : zns [a, b] = zn a + zn b := by rw [zns_cons, zns_cons, zns_nil]; omega
    refine pe_of (m := 64 * zn a + 64 * zn b + 1 + 11) (k := 64 * zn a + 1 + 10) ?_ ?_ (by rw [hZ, hz]; omega) (by rw [hZ, hz]; omega)
    · rw [e1, e2]; exact up_ix (idx_ix pa.ix pb.ex (by omega) (by omega))
    · rw [e1]; exact hd_app (pa.hd 8) _
  · -- two operands
    match l, hl, ha, hT, hC, hZ with
    | [a, b], _, ha, hT, hC, hZ =>
    have pa := ha a (by simp)
    have pb := ha b (by simp)
    have e2 : canE (.mk op 0 [] nl [a, b]) = nod op [canE a, canE b] := by rw [hC]; rfl
    have hz : zns [a, b] = zn a + zn b := by rw [zns_cons, zns_cons, zns_nil]; omega
    have e1 : tks (bareP (.mk op 0 [] nl [a, b])) = tks (parP (if lvlO op = 4 then 5 else lvlO op) (ar a)) ++ opTok op :: tks (parP (lvlO op + 1) (ar b)) := by
      rw [hT]
      have : bareO op 0 [] ([a, b].map ar) = parP (if lvlO op = 4 then 5 else lvlO op) (ar a) ++ none :: some (opTok op) :: none :: parP (lvlO op + 1) (ar b) := by
        unfold bareO
        rw [if_neg (by omega), if_neg (by omega), if_neg (by omega), if_neg (by omega), if_neg (by omega), if_neg (by omega), if_neg (by omega), if_neg (by omega), if_neg (by omega), if_neg (by omega), if_neg (by omega)]
        rfl
      rw [this, tks_app, tks_none, tks_some, tks_none]
    have hhd : ∃ t rr, tks (bareP (.mk op 0 [] nl [a, b])) = t :: rr ∧ atT [41] t = false := by rw [e1]; exact hd_app (pa.hd _) _
    have chain : ∀ lv, lv ≤ 4 → lv ≠ 2 → lvlO op = lv + 2 → opG (opTok op) (ops lv) = some op → Fo (lv + 1) (opTok op) → (lv ≤ 3 ∨ lv = 4) → Pe (.mk op 0 [] nl [a, b]) := by
      intro lv hl4 hl2 hL ho hf hor
      have hm : BMc (lv + 1) (64 * zn b + 1) (tks (parP (lvlO op + 1) (ar b))) (canE b) := by
        rw [hL]
        rcases hor with h | h
        · exact (pb.bm (lv + 1) (by omega)).weak (by omega)
        · subst h; exact um_bm pb.u7
      have hb0 : BLc lv (64 * zn a) (64 * zn a) (tks (parP (if lvlO op = 4 then 5 else lvlO op) (ar a))) (canE a) := by
        rw [if_neg (by omega), hL]
        exact pa.bl lv hl4 hl2
      have hb := bin_bl hl4 hl2 ho hf hb0 hm (M := 64 * zn a + 64 * zn b + 2) (by omega) (by omega)
      refine pe_of (m := 64 * zn a + 64 * zn b + 2 + 10) (k := 64 * zn a + 1 + 10) ?_ hhd (by rw [hZ, hz]; omega) (by rw [hZ, hz]; omega)
      rw [e1, e2]
      show Up (lvlO op) _ _ _ _
      rw [hL]
      rw [hL] at hb
      exact up_bl hl4 hb
    have comp : lvlO op = 4 → opG (opTok op) (ops 2) = some op → Fo 3 (opTok op) → Pe (.mk op 0 [] nl [a, b]) := by
      intro hL ho hf
      have hb := bin_bm ho hf (pa.bm 3 (by decide)) (pb.bm 3 (by decide))
      refine pe_of (m := 64 * zn a + 64 * zn b + 3 + 10) (k := 10) ?_ hhd (by rw [hZ, hz]; omega) (by rw [hZ]; omega)
      rw [e1, e2]
      show Up (lvlO op) _ _ _ _
      rw [hL, if_pos rfl]
      exact up_bm (L := 2) (k := 0) (by decide) hb (fun lv e _ h => absurd e h) (fun h => by omega)
    have fo : ∀ (lv : Nat) (t : Tok), (∀ j : Fin 5, lv ≤ j.1 → opG t (ops j.1) = none) → atT [91] t = false → atT [40] t = false → Fo lv t := fun lv t h h1 h2 => ⟨fun j hj hj4 => h ⟨j, by omega⟩ hj, h1, h2⟩
    rcases hop with rfl | rfl | rfl | rfl | rfl | rfl | rfl | rfl | rfl
    · exact chain 4 (by decide) (by decide) (by decide) (by decide) (fo _ _ (by decide) (by decide) (by decide)) (.inr rfl)
    · exact chain 3 (by decide) (by decide) (by decide) (by decide) (fo _ _ (by decide) (by decide) (by decide)) (.inl (by decide))
    · exact chain 3 (by decide) (by decide) (by decide) (by decide) (fo _ _ (by decide) (by decide) (by decide)) (.inl (by decide))
    · exact comp (by decide) (by decide) (fo _ _ (by decide) (by decide) (by decide))
    · exact comp (by decide) (by decide) (fo _ _ (by decide) (by decide) (by decide))
    · exact comp (by decide) (by decide) (fo _ _ (by decide) (by decide) (by decide))
    · exact comp (by decide) (by decide) (fo _ _ (by decide) (by decide) (by decide))
    · exact chain 1 (by decide) (by decide) (by decide) (by decide) (fo _ _ (by decide) (by decide) (by decide)) (.inl (by decide))
    · exact chain 0 (by decide) (by decide) (by decide) (by decide) (fo _ _ (by decide) (by decide) (by decide)) (.inl (by decide))
end Go.Ky

/- KX 53: the lexer on a canonical text. -/
set_option linter.unusedSimpArgs false
set_option linter.unusedVariables false
namespace Go.Ky
open Go.Pi Go.Lx
def pcT : Pc → List UInt8
  | none => [32]
  | some t => t.text
def txP (l : List Pc) : List UInt8 := l.flatMap pcT
theorem txP_app (a b : List Pc) : txP (a ++ b) = txP a ++ txP b := List.flatMap_append
theorem txP_some (t : Tok) (l : List Pc) : txP (some t :: l) = t.text ++ txP l := rfl
theorem txP_none (l : List Pc) : txP (none :: l) = 32 :: txP l := rfl
def hdNo (p : UInt8 → Bool) (z : List UInt8) : Prop := ∀ c r, z = c :: r → p c = false
theorem hdNo_cons {p : UInt8 → Bool} {c : UInt8} {r : List UInt8} (h : p c = false) : hdNo p (c :: r) := by
  intro c' r' e
  injection e with e1 _
  rw [← e1]; exact h
structure Bd (t : Tok) (z : List UInt8) : Prop where
  nx : next (t.text ++ z) = .ok t.kind t.text.length t.val
  gp : gap (t.text ++ z) = 0
def LexOk : List Pc → List UInt8 → Prop
  | [], _ => True
  | none :: r, z => LexOk r z
  | some t :: r, z => Bd t (txP r ++ z) ∧ LexOk r z
theorem lexOk_app : ∀ (a b : List Pc) (z : List UInt8), LexOk (a ++ b) z ↔ LexOk a (txP b ++ z) ∧ LexOk b z
  | [], b, z => by simp [LexOk]
  | none :: a, b, z => by
    show LexOk (a ++ b) z ↔ LexOk a _ ∧ _
    exact lexOk_app a b z
  | some t :: a, b, z => by
    show Bd t (txP (a ++ b) ++ z) ∧ LexOk (a ++ b) z ↔ (Bd t (txP a ++ (txP b ++ z)) ∧ LexOk a _) ∧ _
    rw [txP_app, List.append_assoc, lexOk_app a b z]
    exact and_assoc.symm
theorem lexR_blk {c : UInt8} {r : List UInt8} (hb : isBlk c = true) (pos : Nat) : lexR pos (c :: r) = lexR (pos + 1) r := by
  have hg : gap (c :: r) = gap r + 1 := by
    show gapM false (c :: r) = _
    rw [gapM, if_pos hb]
  have hd : ∀ k, (c :: r).drop (k + 1) = r.drop k := fun k => rfl
  rcases lex_cases r with h1 | ⟨h1, ⟨e', hn⟩ | ⟨k, m, v, hn⟩⟩
  · rw [lexR_end (by rw [hg, h1]; rfl), lexR_end h1, List.length_cons, show pos + (r.length + 1) = pos + 1 + r.length by omega]
  · rw [lexR_err (by rw [hg, List.length_cons]; omega) (by rw [hg, hd]; exact hn), lexR_err h1 hn, hg, show pos + (gap r + 1) = pos + 1 + gap r by omega]
  · rw [lexR_ok (by rw [hg, List.length_cons]; omega) (by rw [hg, hd]; exact hn), lexR_ok h1 hn, hg, show gap r + 1 + m = gap r + m + 1 by omega, hd, hd, show pos + (gap r + 1) + m = pos + 1 + gap r + m by omega, show pos + (gap r + 1) = pos + 1 + gap r by omega]
theorem lex_step {t : Tok} {z : List UInt8} (h : Bd t z) (pos : Nat) : lexR pos (t.text ++ z) = (lexR (pos + t.text.length) z).cons ⟨t.kind, t.text, t.val, pos⟩ := by
  have hp := next_pos h.nx
  rw [lexR_ok (by rw [h.gp]; omega) (by rw [h.gp]; exact h.nx), h.gp]
  simp only [Nat.zero_add, List.drop_zero, Nat.add_zero, List.take_left, List.drop_left]
theorem cons_app (t : Tok) (l : List Tok) (q : Res) : (q.app l).cons t = q.app (t :: l) := by cases q <;> rfl
theorem app_nil (q : Res) : q.app [] = q := by cases q <;> rfl
theorem lex_pieces : ∀ (ps : List Pc) (z : List UInt8) (pos : Nat), LexOk ps z → ∃ L, Lx.Alike L (tks ps) ∧ lexR pos (txP ps ++ z) = (lexR (pos + (txP ps).length) z).app L
  | [], z, pos, _ => ⟨[], trivial, by rw [app_nil]; rfl⟩
  | none :: r, z, pos, h => by
    obtain ⟨L, h1, h2⟩ := lex_pieces r z (pos + 1) h
    refine ⟨L, h1, ?_⟩
    show lexR pos (32 :: (txP r ++ z)) = (lexR (pos + (32 :: txP r).length) z).app L
    rw [lexR_blk (by decide), h2, List.length_cons, show pos + 1 + (txP r).length = pos + ((txP r).length + 1) by omega]
  | some t :: r, z, pos, h => by
    obtain ⟨L, h1, h2⟩ := lex_pieces r z (pos + t.text.length) h.2
    refine ⟨⟨t.kind, t.text, t.val, pos⟩ :: L, ⟨⟨rfl, rfl, rfl⟩, h1⟩, ?_⟩
    rw [txP_some, List.append_assoc, lex_step h.1, h2, cons_app, List.length_append, show pos + t.text.length + (txP r).length = pos + (t.text.length + (txP r).length) by omega]
theorem span_app' {p : UInt8 → Bool} {z : List UInt8} (hz : hdNo p z) : ∀ a : List UInt8, (∀ c, c ∈ a → p c = true) → span p (a ++ z) = a.length
  | [], _ => by
    match z, hz with
    | [], _ => rfl
    | c :: r, hz => rw [List.nil_append, span, if_neg (by rw [hz c r rfl]; simp)]; rfl
  | c :: a, h => by
    rw [List.cons_append, span, if_pos (h c List.mem_cons_self), span_app' hz a fun x hx => h x (List.mem_cons_of_mem _ hx)]; rfl
theorem span_all {p : UInt8 → Bool} : ∀ s : List UInt8, span p s = s.length → ∀ c, c ∈ s → p c = true
  | [], _, c, h => by cases h
  | x :: r, h, c, hc => by
    rw [span] at h
    by_cases hx : p x = true
    · rw [if_pos hx, List.length_cons] at h
      rcases List.mem_cons.1 hc with rfl | hc
      · exact hx
      · exact span_all r (by omega) c hc
    · rw [if_neg hx] at h; simp at h
theorem let_gap {c : UInt8} {r : List UInt8} (h : isLet c = true) : gap (c :: r) = 0 := by
  simp only [isLet, Bool.and_eq_true, decide_eq_true_eq, UInt8.le_iff_toNat_le] at h
  have h1 : 97 ≤ c.toNat := h.1
  have ne : ∀ n : Nat, n < 97 → c ≠ UInt8.ofNat n := by
    intro n hn e
    have := congrArg UInt8.toNat e
    rw [UInt8.toNat_ofNat'] at this
    omega
  have n32 := ne 32 (by decide)
  have n9 := ne 9 (by decide)
  have n13 := ne 13 (by decide)
  have n10 := ne 10 (by decide)
  have n45 := ne 45 (by decide)
  show gapM false (c :: r) = 0
  rw [gapM, if_neg (by simp [isBlk]; exact ⟨⟨⟨n32, n9⟩, n13⟩, n10⟩), if_neg (by simp; intro e; exact absurd e n45)]
theorem word_next {c : UInt8} {r z : List UInt8} (hl : isLet c = true) (ha : ∀ x, x ∈ c :: r → isNam x = true) (hz : hdNo isNam z) : next (c :: r ++ z) = if keywords.contains (c :: r) = true then .ok 2 (c :: r).length 0 else if 24 < (c :: r).length then .err 3 else .ok 1 (c :: r).length 0 := by
  have hs := span_app' hz (c :: r) ha
  rw [List.cons_append] at hs
  rw [List.cons_append, next, if_pos hl, nextW, hs]
  have ht : (c :: (r ++ z)).take (c :: r).length = c :: r := by
    rw [← List.cons_append, List.take_left]
  rw [ht]
theorem bd_nm {n : Nm} {z : List UInt8} (hn : nameB n = true) (hz : hdNo isNam z) : Bd (nmT n) z := by
  match n, hn with
  | c :: r, hn =>
    rw [nameB] at hn
    simp only [Bool.and_eq_true, decide_eq_true_eq, Bool.not_eq_true'] at hn
    obtain ⟨⟨⟨h1, h2⟩, h3⟩, h4⟩ := hn
    refine ⟨?_, ?_⟩
    · show next (c :: r ++ z) = .ok 1 (c :: r).length 0
      rw [word_next h2 (span_all _ h3) hz, if_neg (by rw [h4]; simp), if_neg (by omega)]
    · show gap (c :: r ++ z) = 0
      rw [List.cons_append, let_gap h2]
theorem bd_kw {w : Nm} {z : List UInt8} (hw : keywords.contains w = true) (hl : ∃ c r, w = c :: r ∧ isLet c = true) (ha : ∀ x, x ∈ w → isNam x = true) (hz : hdNo isNam z) : Bd (kw w) z := by
  obtain ⟨c, r, rfl, hc⟩ := hl
  refine ⟨?_, ?_⟩
  · show next (c :: r ++ z) = .ok 2 (c :: r).length 0
    rw [word_next hc ha hz, if_pos hw]
  · show gap (c :: r ++ z) = 0
    rw [List.cons_append, let_gap hc]
theorem bd_nu {v : Nat} {z : List UInt8} (hv : v ≤ 18446744073709551615) (hz : hdNo isDig z) : Bd (nu v) z := by
  have hd := decD_dig v
  have hne := decD_ne v
  have hh := decD_head v
  have h1 := @decD_len1 v
  have hval := numV_decD v
  have hs := span_app' hz (decD v) hd
  match hdd : decD v, hne with
  | c :: r, _ =>
    rw [hdd] at hd hh h1 hval hs
    have hc := hd c List.mem_cons_self
    have hnl : isLet c = false := by
      simp only [isDig, Bool.and_eq_true, decide_eq_true_eq, UInt8.le_iff_toNat_le] at hc
      have h57 : c.toNat ≤ 57 := hc.2
      rw [isLet, Bool.and_eq_false_iff]
      left
      refine decide_eq_false fun h => ?_
      rw [UInt8.le_iff_toNat_le] at h
      have : (97 : Nat) ≤ c.toNat := h
      omega
    rw [List.cons_append] at hs
    have ht : (c :: (r ++ z)).take (c :: r).length = c :: r := by
      rw [← List.cons_append, List.take_left]
    refine ⟨?_, ?_⟩
    · show next (decD v ++ z) = .ok 3 (decD v).length v
      rw [hdd, List.cons_append, next, if_neg (by rw [hnl]; simp), if_pos hc, nextD, hs, ht, hval, if_neg, if_neg (by omega)]
      rintro ⟨a, b⟩
      exact hh (h1 b) a
    · show gap (decD v ++ z) = 0
      obtain ⟨g1, g2⟩ := isDig_blk hc
      show gapM false _ = 0
      rw [hdd, List.cons_append, gapM, if_neg (by rw [g1]; simp), if_neg (by simp; intro e; exact absurd e g2)]
theorem bd_one {c : UInt8} {z : List UInt8} (h1 : isLet c = false) (h2 : isDig c = false) (h3 : hdNo (isPair c) z) (h4 : isSing c = true) (h5 : isBlk c = false) (h6 : c = 45 → hdNo (· == 45) z) : Bd (sy [c]) z := by
  have hp : pairH c z = false := by
    match z, h3 with
    | [], _ => rfl
    | d :: r, h3 => exact h3 d r rfl
  refine ⟨?_, ?_⟩
  · show next (c :: z) = .ok 4 1 0
    rw [next, if_neg (by rw [h1]; simp), if_neg (by rw [h2]; simp), if_neg (by rw [hp]; simp), if_pos h4]
  · show gapM false (c :: z) = 0
    rw [gapM, if_neg (by rw [h5]; simp), if_neg]
    intro h
    simp only [Bool.and_eq_true, beq_iff_eq] at h
    match z, h with
    | d :: r, h =>
      have := h6 h.1 d r rfl
      simp at h
      rw [h.2] at this
      simp at this
theorem bd_free {c : UInt8} {z : List UInt8} (h1 : isLet c = false) (h2 : isDig c = false) (h3 : ∀ d, isPair c d = false) (h4 : isSing c = true) (h5 : isBlk c = false) (h6 : c ≠ 45) : Bd (sy [c]) z :=
  bd_one h1 h2 (fun d r _ => h3 d) h4 h5 fun h => absurd h h6
theorem bd_two {c d : UInt8} {z : List UInt8} (h1 : isLet c = false) (h2 : isDig c = false) (h3 : isPair c d = true) (h5 : isBlk c = false) (h6 : c ≠ 45) : Bd (sy [c, d]) z := by
  refine ⟨?_, ?_⟩
  · show next (c :: d :: z) = .ok 4 2 0
    rw [next, if_neg (by rw [h1]; simp), if_neg (by rw [h2]; simp), if_pos (by show isPair c d = true; exact h3)]
  · show gapM false (c :: d :: z) = 0
    rw [gapM, if_neg (by rw [h5]; simp), if_neg (by simp; intro e; exact absurd e h6)]
theorem pair_no {c : UInt8} (h1 : c ≠ 46) (h2 : c ≠ 61) (h3 : c ≠ 33) (h4 : c ≠ 60) (d : UInt8) : isPair c d = false := by
  unfold isPair
  simp [h1, h2, h3, h4]
end Go.Ky

/- KX 54: the lexer finds the tokens of a canonical text. -/
set_option linter.unusedSimpArgs false
set_option linter.unusedVariables false
namespace Go.Ky
open Go.Pi Go.Lx
abbrev Nz (z : List UInt8) : Prop := hdNo isNam z
theorem nz_c {c : UInt8} {r : List UInt8} (h : isNam c = false) : Nz (c :: r) := hdNo_cons h
theorem nz_dig {z : List UInt8} (h : Nz z) : hdNo isDig z := by
  intro c r e
  have := h c r e
  unfold isNam at this
  simp only [Bool.or_eq_false_iff] at this
  exact this.1.2
theorem bd_open (z : List UInt8) : Bd (sy [40]) z := bd_free (by decide) (by decide) (pair_no (by decide) (by decide) (by decide) (by decide)) (by decide) (by decide) (by decide)
theorem bd_close (z : List UInt8) : Bd (sy [41]) z := bd_free (by decide) (by decide) (pair_no (by decide) (by decide) (by decide) (by decide)) (by decide) (by decide) (by decide)
theorem bd_lb (z : List UInt8) : Bd (sy [91]) z := bd_free (by decide) (by decide) (pair_no (by decide) (by decide) (by decide) (by decide)) (by decide) (by decide) (by decide)
theorem bd_rb (z : List UInt8) : Bd (sy [93]) z := bd_free (by decide) (by decide) (pair_no (by decide) (by decide) (by decide) (by decide)) (by decide) (by decide) (by decide)
theorem bd_comma (z : List UInt8) : Bd (sy [44]) z := bd_free (by decide) (by decide) (pair_no (by decide) (by decide) (by decide) (by decide)) (by decide) (by decide) (by decide)
theorem bd_semi (z : List UInt8) : Bd (sy [59]) z := bd_free (by decide) (by decide) (pair_no (by decide) (by decide) (by decide) (by decide)) (by decide) (by decide) (by decide)
theorem bd_colon (z : List UInt8) : Bd (sy [58]) z := bd_free (by decide) (by decide) (pair_no (by decide) (by decide) (by decide) (by decide)) (by decide) (by decide) (by decide)
theorem bd_quest (z : List UInt8) : Bd (sy [63]) z := bd_free (by decide) (by decide) (pair_no (by decide) (by decide) (by decide) (by decide)) (by decide) (by decide) (by decide)
theorem bd_kwb {w : Nm} {z : List UInt8} (hw : keywords.contains w = true) (hl : ∃ c r, w = c :: r ∧ isLet c = true) (ha : ∀ x, x ∈ w → isNam x = true) : Bd (kw w) (32 :: z) := bd_kw hw hl ha (nz_c (by decide))
theorem bd_op {op : Int} (h : op = 11 ∨ op = 12 ∨ op = 13 ∨ op = 14 ∨ op = 15 ∨ op = 16 ∨ op = 17 ∨ op = 18 ∨ op = 19) (z : List UInt8) : Bd (opTok op) (32 :: z) := by
  rcases h with rfl | rfl | rfl | rfl | rfl | rfl | rfl | rfl | rfl
  · exact bd_one (c := 42) (by decide) (by decide) (hdNo_cons (by decide)) (by decide) (by decide) (fun h => absurd h (by decide))
  · exact bd_one (c := 43) (by decide) (by decide) (hdNo_cons (by decide)) (by decide) (by decide) (fun h => absurd h (by decide))
  · exact bd_one (c := 45) (by decide) (by decide) (hdNo_cons (by decide)) (by decide) (by decide) (fun _ => hdNo_cons (by decide))
  · exact bd_two (c := 61) (d := 61) (by decide) (by decide) (by decide) (by decide) (by decide)
  · exact bd_two (c := 33) (d := 61) (by decide) (by decide) (by decide) (by decide) (by decide)
  · exact bd_one (c := 60) (by decide) (by decide) (hdNo_cons (by decide)) (by decide) (by decide) (fun h => absurd h (by decide))
  · exact bd_two (c := 60) (d := 61) (by decide) (by decide) (by decide) (by decide) (by decide)
  · exact bd_kwb (w := [97, 110, 100]) (by decide) ⟨_, _, rfl, by decide⟩ (by decide)
  · exact bd_kwb (w := [111, 114]) (by decide) ⟨_, _, rfl, by decide⟩ (by decide)
def LB (e : Exp) : Prop := ∀ r z, Nz z → LexOk (parP r (ar e)) z
theorem lb_par {e : Exp} (h : ∀ z, Nz z → LexOk (bareP e) z) : LB e := by
  intro r z hz
  unfold parP ar
  simp only
  split
  · refine ⟨bd_open _, ?_⟩
    rw [lexOk_app]
    exact ⟨h _ (nz_c (c := 41) (by decide)), bd_close _, trivial⟩
  · exact h z hz
theorem lex_comma : ∀ (l : List Exp), (∀ a, a ∈ l → LB a) → ∀ z, Nz z → LexOk (commaP ((l.map ar).map (parP 1))) z
  | [], _, z, _ => trivial
  | a :: r, h, z, hz => by
    have more : ∀ r : List Exp, (∀ a, a ∈ r → LB a) → LexOk (((r.map ar).map (parP 1)).flatMap fun y => some (sy [44]) :: none :: y) z ∧ Nz (txP (((r.map ar).map (parP 1)).flatMap fun y => some (sy [44]) :: none :: y) ++ z) := by
      intro r
      induction r with
      | nil => intro _; exact ⟨trivial, hz⟩
      | cons b r ih =>
        intro hb
        obtain ⟨i1, i2⟩ := ih fun a ha => hb a (List.mem_cons_of_mem _ ha)
        refine ⟨?_, nz_c (c := 44) (by decide)⟩
        rw [List.map_cons, List.map_cons, List.flatMap_cons, lexOk_app]
        exact ⟨⟨bd_comma _, hb b List.mem_cons_self 1 _ i2⟩, i1⟩
    obtain ⟨m1, m2⟩ := more r fun a ha => h a (List.mem_cons_of_mem _ ha)
    rw [List.map_cons, List.map_cons, commaP, lexOk_app]
    exact ⟨h a List.mem_cons_self 1 _ m2, m1⟩
theorem head_no : ∀ e : Exp, exB e = true → ExpOk e → 7 ≤ lvlO e.op → e.op ≠ 9 → ∃ c r, txP (bareP e) = c :: r ∧ c ≠ 45 := by
  refine Exp.ind fun e ih hv ho hL h9 => ?_
  cases ho with | mk _ h1 h2 h3 h4 h5 h6 =>
  rw [exB_eq, Bool.and_eq_true, List.all_eq_true] at hv
  have hc := opB_cases hv.2
  have hT : bareP e = bareO e.op e.val e.name (e.args.map ar) := bareP_eq e
  obtain ⟨op, v, n, nl, l⟩ := e
  simp only [Exp.op, Exp.val, Exp.name, Exp.args] at hc hT hL h9 h2 hv h6
  rw [hT]
  have nmH : ∀ n : Nm, nameB n = true → ∃ c r, n = c :: r ∧ c ≠ 45 := by
    intro n hn
    match n, hn with
    | c :: r, hn =>
      refine ⟨c, r, rfl, ?_⟩
      rintro rfl
      rw [nameB] at hn
      simp [isLet] at hn
  rcases hc with ⟨rfl, hl, rfl⟩ | ⟨rfl, hl, rfl, hn⟩ | ⟨rfl, hl, rfl, rfl⟩ | ⟨rfl, hl, rfl, rfl⟩ | ⟨rfl, rfl, hn⟩ | ⟨rfl, hl, rfl⟩ | ⟨rfl, hl, rfl, rfl⟩ | ⟨rfl, hl, rfl, rfl⟩ | ⟨rfl, hl, rfl, rfl⟩ | ⟨rfl, hl, rfl, rfl⟩ | ⟨rfl, hl, rfl, rfl⟩ | ⟨hop, hl, rfl, rfl⟩
  · have hd := decD_dig v.toNat
    have hne := decD_ne v.toNat
    show ∃ c r, decD v.toNat ++ [] = c :: r ∧ c ≠ 45
    match decD v.toNat, hd, hne with
    | c :: r, hd, _ => exact ⟨c, r ++ [], rfl, (isDig_blk (hd c List.mem_cons_self)).2⟩
  · obtain ⟨c, r, rfl, h⟩ := nmH n hn
    exact ⟨c, r ++ [], rfl, h⟩
  · exact ⟨116, _, rfl, by decide⟩
  · exact ⟨102, _, rfl, by decide⟩
  · obtain ⟨c, r, rfl, h⟩ := nmH n hn
    exact ⟨c, _, rfl, h⟩
  · exact ⟨104, _, rfl, by decide⟩
  · exact ⟨91, _, rfl, by decide⟩
  · exact absurd rfl h9
  · exact ⟨110, _, rfl, by decide⟩
  · exact absurd hL (by decide)
  · match l, hl, ih, hv, h6 with
    | [a, b], _, ih, hv, h6 =>
    show ∃ c r, txP (parP 8 (ar a) ++ some (sy [91]) :: (parP 1 (ar b) ++ [some (sy [93])])) = c :: r ∧ c ≠ 45
    rw [txP_app]
    unfold parP ar
    simp only
    split
    · exact ⟨40, _, rfl, by decide⟩
    · rename_i h8
      obtain ⟨c, r, e1, e2⟩ := ih a (by show a ∈ [a, b]; simp) (hv.1 a (by simp)) (h6 a (by simp)) (by omega) (by intro e; rw [e] at h8; exact h8 (by decide))
      exact ⟨c, r ++ _, by rw [e1]; rfl, e2⟩
  · exfalso
    rcases hop with rfl | rfl | rfl | rfl | rfl | rfl | rfl | rfl | rfl <;> revert hL <;> decide
theorem lb_all : ∀ e : Exp, exB e = true → ExpOk e → LB e := by
  refine Exp.ind fun e ih hv ho => ?_
  have ho' := ho
  have hv' := hv
  cases ho with | mk _ h1 h2 h3 h4 h5 h6 =>
  rw [exB_eq, Bool.and_eq_true, List.all_eq_true] at hv
  have hc := opB_cases hv.2
  have ha : ∀ a, a ∈ e.args → LB a := fun a h => ih a h (hv.1 a h) (h6 a h)
  have hT : bareP e = bareO e.op e.val e.name (e.args.map ar) := bareP_eq e
  refine lb_par fun z hz => ?_
  rw [hT]
  obtain ⟨op, v, n, nl, l⟩ := e
  simp only [Exp.op, Exp.val, Exp.name, Exp.args] at hc ha h2 hv h6 ⊢
  have hv64 : v.toNat ≤ 18446744073709551615 := by have := h2.2; omega
  have hsp : ∀ x : List UInt8, Nz (32 :: x) := fun x => nz_c (by decide)
  rcases hc with ⟨rfl, hl, rfl⟩ | ⟨rfl, hl, rfl, hn⟩ | ⟨rfl, hl, rfl, rfl⟩ | ⟨rfl, hl, rfl, rfl⟩ | ⟨rfl, rfl, hn⟩ | ⟨rfl, hl, rfl⟩ | ⟨rfl, hl, rfl, rfl⟩ | ⟨rfl, hl, rfl, rfl⟩ | ⟨rfl, hl, rfl, rfl⟩ | ⟨rfl, hl, rfl, rfl⟩ | ⟨rfl, hl, rfl, rfl⟩ | ⟨hop, hl, rfl, rfl⟩
  · exact ⟨bd_nu hv64 (nz_dig hz), trivial⟩
  · exact ⟨bd_nm hn hz, trivial⟩
  · exact ⟨bd_kw (by decide) ⟨_, _, rfl, by decide⟩ (by decide) hz, trivial⟩
  · exact ⟨bd_kw (by decide) ⟨_, _, rfl, by decide⟩ (by decide) hz, trivial⟩
  · refine ⟨bd_nm hn (nz_c (c := 40) (by decide)), bd_open _, ?_⟩
    rw [lexOk_app]
    exact ⟨lex_comma l ha _ (nz_c (c := 41) (by decide)), bd_close _, trivial⟩
  · refine ⟨bd_kw (by decide) ⟨_, _, rfl, by decide⟩ (by decide) (nz_c (c := 40) (by decide)), bd_open _, bd_nu hv64 (hdNo_cons (c := 59) (by decide)), bd_semi _, ?_⟩
    show LexOk (commaP ((l.map ar).map (parP 1)) ++ [some (sy [41])]) z
    rw [lexOk_app]
    exact ⟨lex_comma l ha _ (nz_c (c := 41) (by decide)), bd_close _, trivial⟩
  · refine ⟨bd_lb _, ?_⟩
    rw [lexOk_app]
    exact ⟨lex_comma l ha _ (nz_c (c := 93) (by decide)), bd_rb _, trivial⟩
  · match l, hl, ha, hv, h6 with
    | [a], _, ha, hv, h6 =>
    show LexOk (some (sy [45]) :: parP (if a.op = 9 then 8 else 7) (ar a)) z
    refine ⟨bd_one (c := 45) (by decide) (by decide) (fun d r _ => by unfold isPair; simp) (by decide) (by decide) (fun _ => ?_), ha a (by simp) _ z hz⟩
    have hq : ∃ c r, txP (parP (if a.op = 9 then 8 else 7) (ar a)) = c :: r ∧ c ≠ 45 := by
      unfold parP ar
      simp only
      by_cases h9 : a.op = 9
      · rw [if_pos h9, if_pos (by rw [h9]; decide)]
        exact ⟨40, _, rfl, by decide⟩
      · rw [if_neg h9]
        by_cases h7 : lvlO a.op < 7
        · rw [if_pos h7]
          exact ⟨40, _, rfl, by decide⟩
        · rw [if_neg h7]
          exact head_no a (hv.1 a (by simp)) (h6 a (by simp)) (by omega) h9
    obtain ⟨c, r, e1, e2⟩ := hq
    rw [e1]
    exact hdNo_cons (by simpa using e2)
  · match l, hl, ha with
    | [a], _, ha =>
    show LexOk (some (kw [110, 111, 116]) :: none :: parP 7 (ar a)) z
    exact ⟨bd_kwb (by decide) ⟨_, _, rfl, by decide⟩ (by decide), ha a (by simp) _ z hz⟩
  · match l, hl, ha with
    | [a, b, c], _, ha =>
    show LexOk (parP 2 (ar a) ++ none :: some (sy [63]) :: none :: (parP 1 (ar b) ++ none :: some (sy [58]) :: none :: parP 1 (ar c))) z
    rw [lexOk_app]
    refine ⟨ha a (by simp) _ _ (hsp _), bd_quest _, ?_⟩
    show LexOk (parP 1 (ar b) ++ none :: some (sy [58]) :: none :: parP 1 (ar c)) z
    rw [lexOk_app]
    exact ⟨ha b (by simp) _ _ (hsp _), bd_colon _, ha c (by simp) _ z hz⟩
  · match l, hl, ha with
    | [a, b], _, ha =>
    show LexOk (parP 8 (ar a) ++ some (sy [91]) :: (parP 1 (ar b) ++ [some (sy [93])])) z
    rw [lexOk_app]
    refine ⟨ha a (by simp) _ _ (nz_c (c := 91) (by decide)), bd_lb _, ?_⟩
    rw [lexOk_app]
    exact ⟨ha b (by simp) _ _ (nz_c (c := 93) (by decide)), bd_rb _, trivial⟩
  · match l, hl, ha with
    | [a, b], _, ha =>
    have : bareO op 0 [] ([a, b].map ar) = parP (if lvlO op = 4 then 5 else lvlO op) (ar a) ++ none :: some (opTok op) :: none :: parP (lvlO op + 1) (ar b) := by
      unfold bareO
      rw [if_neg (by omega), if_neg (by omega), if_neg (by omega), if_neg (by omega), if_neg (by omega), if_neg (by omega), if_neg (by omega), if_neg (by omega), if_neg (by omega), if_neg (by omega), if_neg (by omega)]
      rfl
    rw [this, lexOk_app]
    exact ⟨ha a (by simp) _ _ (hsp _), bd_op hop _, ha b (by simp) _ z hz⟩
theorem exp_tokens {e : Exp} (hv : exB e = true) (ho : ExpOk e) : ∃ L p, lexR 0 (txP (parP 1 (ar e))) = .toks L ∧ Lx.Alike L (tks (parP 1 (ar e)) ++ [⟨0, [], 0, p⟩]) := by
  obtain ⟨L, h1, h2⟩ := lex_pieces (parP 1 (ar e)) [] 0 (lb_all e hv ho 1 [] (fun c r h => by cases h))
  rw [List.append_nil, lexR_end (show gap ([] : List UInt8) = ([] : List UInt8).length from rfl)] at h2
  exact ⟨_, _, h2, alike_app h1 (alike_refl _)⟩
end Go.Ky

/- KX 55: an expression is found again in its canonical text. -/
set_option linter.unusedSimpArgs false
set_option linter.unusedVariables false
namespace Go.Ky
open Go.Pi Go.Lx
theorem dExs_map : ∀ (l : List Exp), (∀ a, a ∈ l → dEx (canE a) = dEx a) → dExs (l.map canE) = dExs l
  | [], _ => rfl
  | a :: r, h => by
    rw [List.map_cons, dExs, dExs, h a List.mem_cons_self, dExs_map r fun x hx => h x (List.mem_cons_of_mem _ hx)]
theorem dEx_can : ∀ e : Exp, dEx (canE e) = dEx e := by
  refine Exp.ind fun e ih => ?_
  rw [dEx_eq, dEx_eq, canE_eq]
  show dExs (e.args.map canE) + 1 = _
  rw [dExs_map _ ih]
abbrev endT (p : Nat) : Tok := ⟨0, [], 0, p⟩
theorem fo_end (p : Nat) : Fo 0 (endT p) := by
  have go : ∀ l : List (Nm × Int), opG (endT p) l = none := by
    intro l
    induction l with
    | nil => rfl
    | cons x r ih =>
      obtain ⟨a, b⟩ := x
      rw [opG, if_neg (by show ¬ (decide ((0 : Nat) ≠ 0) && _) = true; simp), ih]
  exact ⟨fun j _ _ => go _, rfl, rfl⟩
def fmtE (e : Exp) : List UInt8 := txP (parP 1 (ar e))
theorem exp_round {e : Exp} (hv : exB e = true) (ho : ExpOk e) (hd : dEx e ≤ 40) (hl : (fmtE e).length ≤ 16384) {N : Nat} (hN : 64 * zn e ≤ N) : exN N (fmtE e) = (canE e, 0, 0) := by
  obtain ⟨L, p, h1, h2⟩ := exp_tokens hv ho
  have hP := (pe_all e hv ho).ex (st0 []) [endT p] N (by simp) hN (fo_end p) rfl
  have hs : stt (st0 []) (tks (parP 1 (ar e)) ++ [endT p]) = st0 (tks (parP 1 (ar e)) ++ [endT p]) := rfl
  rw [hs] at hP
  obtain ⟨q1, q2⟩ := (eq_all N).ex _ _ (eqv_st0 h2)
  rw [hP] at q1 q2
  simp only at q1 q2
  have hk : (exprM N (st0 L)).2.hd.kind = 0 := by
    have := (eqv_hd q2).1
    rw [this]; rfl
  have he : endM (exprM N (st0 L)).2 = (exprM N (st0 L)).2 := by
    unfold endM
    rw [if_neg (by rw [hk]; simp)]
  have hf : exF N L = (exprM N (st0 L)).2 := by
    unfold exF depM
    rw [he, q1, dEx_can, if_neg]
    simp only [Bool.and_eq_true, decide_eq_true_eq]
    omega
  unfold exN
  have hT : tokP (fmtE e) = (L, 0, 0) := tokP_toks hl h1
  rw [hT]
  simp only
  rw [hf]
  have hr : resM 0 0 (exprM N (st0 L)).2 = (0, 0) := by
    unfold resM
    have e1 : (exprM N (st0 L)).2.err = 0 := q2.err
    have e2 : (exprM N (st0 L)).2.deep = false := q2.deep
    rw [e1, e2]
    simp
  rw [hr, q1]
  simp
end Go.Ky

/- KX 56: what the parser reads without an error is valid, its lists' nil bits are set as it sets them, and its canonical text is not much longer than what was read. -/
set_option linter.unusedSimpArgs false
set_option linter.unusedVariables false
namespace Go.Ky
open Go.Pi Go.Lx
structure GoodT (t : Tok) : Prop where
  nm : t.kind = 1 → nameB t.text = true
  nu : t.kind = 3 → (decD t.val).length ≤ t.text.length
structure Gk (s : Ps) : Prop where
  wf : WfT s.ts
  gd : ∀ t, t ∈ s.ts → GoodT t
theorem Gk.of {s s' : Ps} (h : Gk s) (hs : Suf s s') : Gk s' := by
  obtain ⟨k, hk, e⟩ := id hs
  exact ⟨hs.wf h.wf, fun t ht => h.gd t (by rw [e] at ht; exact List.mem_of_mem_drop ht)⟩
theorem Gk.hd {s : Ps} (h : Gk s) : GoodT s.hd := h.gd _ (hd_mem h.wf.ne)
def wt (l : List Tok) : Nat := (l.map fun t => t.text.length + 2).sum
theorem wt_drop (k : Nat) : ∀ l : List Tok, wt (l.drop k) ≤ wt l := by
  induction k with
  | zero => intro l; simp
  | succ k ih =>
    intro l
    cases l with
    | nil => simp
    | cons a r =>
      have := ih r
      rw [List.drop_succ_cons]
      unfold wt at this ⊢
      rw [List.map_cons, List.sum_cons]
      omega
theorem Suf.wt {s s' : Ps} (h : Suf s s') : wt s'.ts ≤ wt s.ts := by
  obtain ⟨k, _, e⟩ := h
  rw [e]; exact wt_drop k _
theorem take_wt {s : Ps} (h : WfT s.ts) (h0 : s.hd.kind ≠ 0) : wt (takeM s).ts + (s.hd.text.length + 2) = wt s.ts := by
  have h2 := h.two h0
  unfold takeM
  simp only
  rw [if_pos (by omega)]
  unfold Ps.hd at h0 ⊢
  match hts : s.ts, h.ne with
  | a :: r, _ =>
    rw [List.drop_succ_cons, List.drop_zero]
    unfold wt
    rw [List.map_cons, List.sum_cons]
    simp only [List.headD_cons]
    omega
theorem at_len {t : Nm} {s : Ps} (h : atM t s = true) : s.hd.text.length = t.length := by
  unfold atM at h
  simp only [Bool.and_eq_true, decide_eq_true_eq] at h
  rw [h.2]
theorem take_at {t : Nm} {s : Ps} (h : WfT s.ts) (ha : atM t s = true) : wt (takeM s).ts + (t.length + 2) = wt s.ts := by
  rw [← at_len ha]; exact take_wt h (at_kind ha)
theorem exp_ok {t : Nm} {s : Ps} (h : (expM t s).err = 0) : atM t s = true ∧ expM t s = takeM s := by
  unfold expM at h ⊢
  by_cases ha : atM t s = true
  · rw [if_pos ha]; exact ⟨ha, rfl⟩
  · exfalso
    rw [if_neg ha] at h
    change (if s.err = 0 then (2 : Int) else s.err) = 0 at h
    split at h
    · exact absurd h (by decide)
    · rename_i hh; exact hh h
theorem fail_no {e : Int} (he : e ≠ 0) {s : Ps} : (failM e s).err ≠ 0 := by
  show (if s.err = 0 then e else s.err) ≠ 0
  split
  · exact he
  · assumption
theorem err_back {α : Type} {m : Pm α} (h : Gd tt m) {s : Ps} (he : (m s).2.err = 0) : s.err = 0 := by
  refine Decidable.byContradiction fun h0 => ?_
  have := (h.err s trivial h0).1
  rw [this] at he
  exact h0 he
theorem exp_back {t : Nm} {s : Ps} (h : (expM t s).err = 0) : s.err = 0 := by
  obtain ⟨_, e⟩ := exp_ok h
  rw [e] at h; exact h
def pl (r : Nat) (e : Exp) : Nat := (txP (parP r (ar e))).length
theorem pl_eq (r : Nat) (e : Exp) : pl r e = if lvlO e.op < r then (txP (bareP e)).length + 2 else (txP (bareP e)).length := by
  unfold pl parP ar
  simp only
  split
  · rw [txP_some, txP_app]
    simp only [List.length_append]
    show 1 + ((txP (bareP e)).length + 1) = _
    omega
  · rfl
theorem pl_mono {r r' : Nat} (h : r ≤ r') (e : Exp) : pl r e ≤ pl r' e := by
  rw [pl_eq, pl_eq]
  split <;> split <;> omega
theorem pl_par (r r' : Nat) (e : Exp) : pl r e ≤ pl r' e + 2 := by
  rw [pl_eq, pl_eq]
  split <;> split <;> omega
def cw (l : List Exp) : Nat := (txP (commaP ((l.map ar).map (parP 1)))).length
theorem cw_one (e : Exp) : cw [e] = pl 1 e := by
  unfold cw pl
  simp [commaP]
theorem cw_snoc {l : List Exp} (h : l ≠ []) (e : Exp) : cw (l ++ [e]) = cw l + 2 + pl 1 e := by
  match l, h with
  | a :: r, _ =>
    unfold cw pl
    rw [List.cons_append, List.map_cons, List.map_cons, List.map_cons, List.map_cons, commaP, commaP, List.map_append, List.map_append, List.flatMap_append, ← List.append_assoc, txP_app, List.length_append]
    have : (txP (((List.map ar [e]).map (parP 1)).flatMap fun y => some (sy [44]) :: none :: y)).length = 2 + (txP (parP 1 (ar e))).length := by
      rw [List.map_cons, List.map_nil, List.map_cons, List.map_nil, List.flatMap_cons, List.flatMap_nil, List.append_nil, txP_some, txP_none]
      rw [List.length_append, List.length_cons]
      show 1 + ((txP (parP 1 (ar e))).length + 1) = _
      omega
    show _ + (txP (((List.map ar [e]).map (parP 1)).flatMap fun y => some (sy [44]) :: none :: y)).length = _
    rw [this]
    omega
structure Rg (r : Nat) (s : Ps) (e : Exp) (s' : Ps) : Prop where
  v : exB e = true
  c : canE e = e
  w : pl r e + wt s'.ts ≤ wt s.ts
structure Rl (s : Ps) (l : List Exp) (s' : Ps) : Prop where
  ne : l ≠ []
  v : ∀ a, a ∈ l → exB a = true
  c : l.map canE = l
  w : cw l + wt s'.ts ≤ wt s.ts
theorem exB_nod {op : Int} {l : List Exp} (h : opB op (l.length : Int) 0 [] = true) (hl : ∀ a, a ∈ l → exB a = true) : exB (nod op l) = true := by
  rw [exB_eq]
  show (l.all exB && opB op (l.length : Int) 0 []) = true
  rw [h, Bool.and_true, List.all_eq_true]
  exact hl
theorem can_nod {op : Int} {l : List Exp} (h : l.map canE = l) : canE (nod op l) = nod op l := by
  rw [canE_eq]
  show Exp.mk op 0 [] l.isEmpty (l.map canE) = _
  rw [h]; rfl
theorem bare_nod (op : Int) (l : List Exp) : bareP (nod op l) = bareO op 0 [] (l.map ar) := bareP_eq _
theorem map2 {a b : Exp} (ha : canE a = a) (hb : canE b = b) : [a, b].map canE = [a, b] := by simp [ha, hb]
theorem bin_text {op : Int} (h : op = 11 ∨ op = 12 ∨ op = 13 ∨ op = 14 ∨ op = 15 ∨ op = 16 ∨ op = 17 ∨ op = 18 ∨ op = 19) (a b : Exp) : (txP (bareP (nod op [a, b]))).length = pl (if lvlO op = 4 then 5 else lvlO op) a + ((opTok op).text.length + 2) + pl (lvlO op + 1) b := by
  rw [bare_nod]
  have : bareO op 0 [] ([a, b].map ar) = parP (if lvlO op = 4 then 5 else lvlO op) (ar a) ++ none :: some (opTok op) :: none :: parP (lvlO op + 1) (ar b) := by
    unfold bareO
    rw [if_neg (by omega), if_neg (by omega), if_neg (by omega), if_neg (by omega), if_neg (by omega), if_neg (by omega), if_neg (by omega), if_neg (by omega), if_neg (by omega), if_neg (by omega), if_neg (by omega)]
    rfl
  rw [this, txP_app, txP_none, txP_some, txP_none]
  simp only [List.length_append, List.length_cons]
  show _ = pl _ _ + _ + pl _ _
  unfold pl
  omega
theorem opL_found {lv : Nat} {s : Ps} {o : Int} (h : opL lv s = some o) (hl : lv ≤ 4) : (o = 11 ∨ o = 12 ∨ o = 13 ∨ o = 14 ∨ o = 15 ∨ o = 16 ∨ o = 17 ∨ o = 18 ∨ o = 19) ∧ lvlO o = lv + 2 ∧ s.hd.kind ≠ 0 ∧ s.hd.text = (opTok o).text := by
  have hk := opGo_at h
  unfold opL at h
  have at' : ∀ {t : Nm}, atM t s = true → s.hd.text = t := by
    intro t h
    unfold atM at h
    simp only [Bool.and_eq_true, decide_eq_true_eq] at h
    exact h.2
  match lv, hl with
  | 0, _ =>
    simp only [ops, opGo] at h
    split at h
    · rename_i ha; injection h with h; subst h; exact ⟨by simp, by decide, hk, at' ha⟩
    · cases h
  | 1, _ =>
    simp only [ops, opGo] at h
    split at h
    · rename_i ha; injection h with h; subst h; exact ⟨by simp, by decide, hk, at' ha⟩
    · cases h
  | 2, _ =>
    simp only [ops, opGo] at h
    split at h
    · rename_i ha; injection h with h; subst h; exact ⟨by simp, by decide, hk, at' ha⟩
    split at h
    · rename_i ha; injection h with h; subst h; exact ⟨by simp, by decide, hk, at' ha⟩
    split at h
    · rename_i ha; injection h with h; subst h; exact ⟨by simp, by decide, hk, at' ha⟩
    split at h
    · rename_i ha; injection h with h; subst h; exact ⟨by simp, by decide, hk, at' ha⟩
    · cases h
  | 3, _ =>
    simp only [ops, opGo] at h
    split at h
    · rename_i ha; injection h with h; subst h; exact ⟨by simp, by decide, hk, at' ha⟩
    split at h
    · rename_i ha; injection h with h; subst h; exact ⟨by simp, by decide, hk, at' ha⟩
    · cases h
  | 4, _ =>
    simp only [ops, opGo] at h
    split at h
    · rename_i ha; injection h with h; subst h; exact ⟨by simp, by decide, hk, at' ha⟩
    · cases h
end Go.Ky

/- KX 57: what the parser reads without an error: the induction. -/
set_option linter.unusedSimpArgs false
set_option linter.unusedVariables false
namespace Go.Ky
open Go.Pi Go.Lx
structure RgAll (n : Nat) : Prop where
  ex : ∀ s, Gk s → 12 * s.ts.length + 11 ≤ n → (exprM n s).2.err = 0 → Rg 1 s (exprM n s).1 (exprM n s).2
  bi : ∀ lv s, lv ≤ 4 → Gk s → 12 * s.ts.length + (10 - lv) ≤ n → (binM n lv s).2.err = 0 → Rg (lv + 2) s (binM n lv s).1 (binM n lv s).2
  b5 : ∀ s, Gk s → 12 * s.ts.length + 5 ≤ n → (binM n 5 s).2.err = 0 → Rg 7 s (binM n 5 s).1 (binM n 5 s).2
  bl : ∀ lv e s, lv ≤ 4 → Gk s → 12 * s.ts.length + (9 - lv) ≤ n → exB e = true → canE e = e → (binL n lv e s).2.err = 0 → exB (binL n lv e s).1 = true ∧ canE (binL n lv e s).1 = (binL n lv e s).1 ∧ pl (lv + 2) (binL n lv e s).1 + wt (binL n lv e s).2.ts ≤ pl (if lv = 2 then 5 else lv + 2) e + wt s.ts
  un : ∀ s, Gk s → 12 * s.ts.length + 4 ≤ n → (unM n s).2.err = 0 → Rg 7 s (unM n s).1 (unM n s).2
  il : ∀ e s, Gk s → 12 * s.ts.length + 3 ≤ n → exB e = true → canE e = e → (idxL n e s).2.err = 0 → exB (idxL n e s).1 = true ∧ canE (idxL n e s).1 = (idxL n e s).1 ∧ pl 8 (idxL n e s).1 + wt (idxL n e s).2.ts ≤ pl 8 e + wt s.ts
  pr : ∀ s, Gk s → 12 * s.ts.length + 3 ≤ n → (priM n s).2.err = 0 → Rg 9 s (priM n s).1 (priM n s).2
  ar' : ∀ s, Gk s → 12 * s.ts.length + 13 ≤ n → (argM n s).2.err = 0 → (∀ a, a ∈ (argM n s).1 → exB a = true) ∧ (argM n s).1.map canE = (argM n s).1 ∧ cw (argM n s).1 + 3 + wt (argM n s).2.ts ≤ wt s.ts
  ha : ∀ s, Gk s → 12 * s.ts.length + 13 ≤ n → (hashM n s).2.err = 0 → exB (hashM n s).1 = true ∧ canE (hashM n s).1 = (hashM n s).1 ∧ pl 9 (hashM n s).1 + wt (hashM n s).2.ts ≤ wt s.ts + 4
  li : ∀ s, Gk s → 12 * s.ts.length + 12 ≤ n → (lisM n s).2.err = 0 → Rl s (lisM n s).1 (lisM n s).2
  ll : ∀ l s, Gk s → 12 * s.ts.length + 11 ≤ n → l ≠ [] → (∀ a, a ∈ l → exB a = true) → l.map canE = l → (lisL n l s).2.err = 0 → (lisL n l s).1 ≠ [] ∧ (∀ a, a ∈ (lisL n l s).1 → exB a = true) ∧ (lisL n l s).1.map canE = (lisL n l s).1 ∧ cw (lisL n l s).1 + wt (lisL n l s).2.ts ≤ cw l + wt s.ts
theorem rg_zero : RgAll 0 := by
  constructor
  · intro s h hn; have := h.wf.len; omega
  · intro lv s hl h hn; have := h.wf.len; omega
  · intro s h hn; have := h.wf.len; omega
  · intro lv e s hl h hn; have := h.wf.len; omega
  · intro s h hn; have := h.wf.len; omega
  · intro e s h hn; have := h.wf.len; omega
  · intro s h hn; have := h.wf.len; omega
  · intro s h hn; have := h.wf.len; omega
  · intro s h hn; have := h.wf.len; omega
  · intro s h hn; have := h.wf.len; omega
  · intro l s h hn; have := h.wf.len; omega
theorem rg_succ {n : Nat} (ih : RgAll n) : RgAll (n + 1) := by
  have R := rd_all n
  have D := gd_all n
  constructor
  · -- a conditional
    intro s h hn he
    rw [exprM] at he ⊢
    have g1 := h.of (R.bi 0 s h.wf).suf
    have l1 := (R.bi 0 s h.wf).suf.le
    by_cases ha : atM [63] (binM n 0 s).2 = true
    · rw [if_pos ha] at he ⊢
      simp only at he ⊢
      have l2 := take_len g1.wf (at_kind ha)
      have w2 := take_at g1.wf ha
      have g2 := g1.of (suf_take g1.wf)
      have s3 := (R.ex _ g2.wf).suf
      have g3 := g2.of s3
      have l3 := s3.le
      have x4 := err_back D.ex he
      obtain ⟨a4, q4⟩ := exp_ok x4
      have x3 := exp_back x4
      have x2 := err_back D.ex x3
      rw [q4] at he ⊢
      have w4 := take_at g3.wf a4
      have g4 := g3.of (suf_take g3.wf)
      have l4 := take_len g3.wf (at_kind a4)
      have r0 := ih.bi 0 s (by decide) h (by omega) x2
      have r1 := ih.ex _ g2 (by omega) x3
      have r2 := ih.ex _ g4 (by omega) he
      refine ⟨exB_nod rfl fun a hm => ?_, can_nod (by simp [r0.c, r1.c, r2.c]), ?_⟩
      · simp only [List.mem_cons, List.not_mem_nil, or_false] at hm
        rcases hm with rfl | rfl | rfl
        · exact r0.v
        · exact r1.v
        · exact r2.v
      · have e0 : pl 2 (binM n 0 s).1 + wt (binM n 0 s).2.ts ≤ wt s.ts := r0.w
        have e1 := r1.w
        have e2 := r2.w
        have : ∀ a b c : Exp, pl 1 (nod 20 [a, b, c]) = pl 2 a + 3 + pl 1 b + 3 + pl 1 c := by
          intro a b c
          rw [pl_eq, if_neg (by show ¬ lvlO 20 < 1; decide), bare_nod]
          show (txP (parP 2 (Go.Ky.ar a) ++ none :: some (sy [63]) :: none :: (parP 1 (Go.Ky.ar b) ++ none :: some (sy [58]) :: none :: parP 1 (Go.Ky.ar c)))).length = _
          rw [txP_app, txP_none, txP_some, txP_none, txP_app, txP_none, txP_some, txP_none]
          simp only [List.length_append, List.length_cons]
          unfold pl
          show _ + (1 + (_ + (1 + _ + 1) + 1) + 1) = _
          omega
        rw [this]
        simp only [List.length_cons, List.length_nil] at w2 w4
        omega
    · rw [if_neg ha] at he ⊢
      have r0 := ih.bi 0 s (by decide) h (by omega) he
      exact ⟨r0.v, r0.c, by have := pl_mono (show 1 ≤ 0 + 2 by decide) (binM n 0 s).1; have := r0.w; omega⟩
  · -- a level of binary operators
    intro lv s hl h hn he
    rw [binM, if_neg (by omega)] at he ⊢
    have s1 := (R.bi (lv + 1) s h.wf).suf
    have g1 := h.of s1
    have l1 := s1.le
    have x1 := err_back (D.bl lv (binM n (lv + 1) s).1) he
    have r0 : exB (binM n (lv + 1) s).1 = true ∧ canE (binM n (lv + 1) s).1 = (binM n (lv + 1) s).1 ∧ pl (lv + 3) (binM n (lv + 1) s).1 + wt (binM n (lv + 1) s).2.ts ≤ wt s.ts := by
      by_cases h4 : lv = 4
      · subst h4
        have r := ih.b5 s h (by omega) x1
        exact ⟨r.v, r.c, r.w⟩
      · have r := ih.bi (lv + 1) s (by omega) h (by omega) x1
        exact ⟨r.v, r.c, r.w⟩
    obtain ⟨v0, c0, w0⟩ := r0
    obtain ⟨v1, c1, w1⟩ := ih.bl lv _ _ hl g1 (by omega) v0 c0 he
    refine ⟨v1, c1, ?_⟩
    have : pl (if lv = 2 then 5 else lv + 2) (binM n (lv + 1) s).1 ≤ pl (lv + 3) (binM n (lv + 1) s).1 := pl_mono (by split <;> omega) _
    omega
  · intro s h hn he
    rw [binM, if_pos rfl] at he ⊢
    exact ih.un s h (by omega) he
  · -- the operators of a level
    intro lv e s hl h hn hv hc he
    rw [binL] at he ⊢
    cases ho : opL lv s with
    | none =>
      refine ⟨hv, hc, ?_⟩
      have := pl_mono (show lv + 2 ≤ (if lv = 2 then 5 else lv + 2) by split <;> omega) e
      show pl (lv + 2) e + wt s.ts ≤ _
      omega
    | some o =>
      rw [ho] at he
      simp only at he ⊢
      obtain ⟨f1, f2, f3, f4⟩ := opL_found ho hl
      have l2 := take_len h.wf f3
      have w2 := take_wt h.wf f3
      have g2 := h.of (suf_take h.wf)
      have s3 := (R.bi (lv + 1) _ g2.wf).suf
      have g3 := g2.of s3
      have l3 := s3.le
      have hx : (binM n (lv + 1) (takeM s)).2.err = 0 := by
        split at he
        · exact he
        · exact err_back (D.bl lv _) he
      have r0 : exB (binM n (lv + 1) (takeM s)).1 = true ∧ canE (binM n (lv + 1) (takeM s)).1 = (binM n (lv + 1) (takeM s)).1 ∧ pl (lv + 3) (binM n (lv + 1) (takeM s)).1 + wt (binM n (lv + 1) (takeM s)).2.ts ≤ wt (takeM s).ts := by
        by_cases h4 : lv = 4
        · subst h4
          have r := ih.b5 _ g2 (by omega) hx
          exact ⟨r.v, r.c, r.w⟩
        · have r := ih.bi (lv + 1) _ (by omega) g2 (by omega) hx
          exact ⟨r.v, r.c, r.w⟩
      obtain ⟨v0, c0, w0⟩ := r0
      have hN : exB (nod o [e, (binM n (lv + 1) (takeM s)).1]) = true := exB_nod (by rcases f1 with rfl | rfl | rfl | rfl | rfl | rfl | rfl | rfl | rfl <;> rfl) fun a hm => by
        simp only [List.mem_cons, List.not_mem_nil, or_false] at hm
        rcases hm with rfl | rfl
        · exact hv
        · exact v0
      have hC : canE (nod o [e, (binM n (lv + 1) (takeM s)).1]) = nod o [e, (binM n (lv + 1) (takeM s)).1] := can_nod (map2 hc c0)
      have hW : pl (lv + 2) (nod o [e, (binM n (lv + 1) (takeM s)).1]) = pl (if lv = 2 then 5 else lv + 2) e + (s.hd.text.length + 2) + pl (lv + 3) (binM n (lv + 1) (takeM s)).1 := by
        rw [pl_eq, if_neg (by show ¬ lvlO o < lv + 2; omega), bin_text f1, f2, f4]
        have : (if lv + 2 = 4 then 5 else lv + 2) = if lv = 2 then 5 else lv + 2 := by
          split <;> split <;> omega
        rw [this]
      split
      · rename_i h2
        subst h2
        refine ⟨hN, hC, ?_⟩
        have hW' : pl 4 (nod o [e, (binM n 3 (takeM s)).1]) = pl 5 e + (s.hd.text.length + 2) + pl 5 (binM n 3 (takeM s)).1 := hW
        have w0' : pl 5 (binM n 3 (takeM s)).1 + wt (binM n 3 (takeM s)).2.ts ≤ wt (takeM s).ts := w0
        show pl 4 (nod o [e, (binM n 3 (takeM s)).1]) + wt (binM n 3 (takeM s)).2.ts ≤ pl 5 e + wt s.ts
        rw [hW']
        omega
      · rename_i h2
        rw [if_neg h2] at he
        obtain ⟨v1, c1, w1⟩ := ih.bl lv _ _ hl g3 (by omega) hN hC he
        refine ⟨v1, c1, ?_⟩
        rw [if_neg h2] at w1 hW
        rw [hW] at w1
        omega
  · -- signs
    intro s h hn he
    rw [unM] at he ⊢
    by_cases h1 : atM [45] s = true
    · rw [if_pos h1] at he ⊢
      simp only at he ⊢
      have l2 := take_len h.wf (at_kind h1)
      have w2 := take_at h.wf h1
      have g2 := h.of (suf_take h.wf)
      have r := ih.un _ g2 (by omega) he
      refine ⟨exB_nod rfl (fun a hm => by simp only [List.mem_cons, List.not_mem_nil, or_false] at hm; rw [hm]; exact r.v), can_nod (by simp [r.c]), ?_⟩
      have : ∀ a : Exp, pl 7 (nod 9 [a]) = 1 + pl (if a.op = 9 then 8 else 7) a := by
        intro a
        rw [pl_eq, if_neg (by show ¬ lvlO 9 < 7; decide), bare_nod]
        show (txP (some (sy [45]) :: parP (if a.op = 9 then 8 else 7) (Go.Ky.ar a))).length = _
        rw [txP_some, List.length_append]
        rfl
      rw [this]
      have hp : pl (if (unM n (takeM s)).1.op = 9 then 8 else 7) (unM n (takeM s)).1 ≤ pl 7 (unM n (takeM s)).1 + 2 := pl_par _ _ _
      have := r.w
      simp only [List.length_cons, List.length_nil] at w2
      omega
    · rw [if_neg h1] at he ⊢
      by_cases h3 : atM [110, 111, 116] s = true
      · rw [if_pos h3] at he ⊢
        simp only at he ⊢
        have l2 := take_len h.wf (at_kind h3)
        have w2 := take_at h.wf h3
        have g2 := h.of (suf_take h.wf)
        have r := ih.un _ g2 (by omega) he
        refine ⟨exB_nod rfl (fun a hm => by simp only [List.mem_cons, List.not_mem_nil, or_false] at hm; rw [hm]; exact r.v), can_nod (by simp [r.c]), ?_⟩
        have : ∀ a : Exp, pl 7 (nod 10 [a]) = 4 + pl 7 a := by
          intro a
          rw [pl_eq, if_neg (by show ¬ lvlO 10 < 7; decide), bare_nod]
          show (txP (some (kw [110, 111, 116]) :: none :: parP 7 (Go.Ky.ar a))).length = _
          rw [txP_some, txP_none, List.length_append, List.length_cons]
          show 3 + ((txP (parP 7 (Go.Ky.ar a))).length + 1) = 4 + (txP (parP 7 (Go.Ky.ar a))).length
          omega
        rw [this]
        have := r.w
        simp only [List.length_cons, List.length_nil] at w2
        omega
      · rw [if_neg h3] at he ⊢
        have s1 := (R.pr s h.wf).suf
        have g1 := h.of s1
        have l1 := s1.le
        have x1 := err_back (D.il (priM n s).1) he
        have r0 := ih.pr s h (by omega) x1
        obtain ⟨v1, c1, w1⟩ := ih.il _ _ g1 (by omega) r0.v r0.c he
        refine ⟨v1, c1, ?_⟩
        have := pl_mono (show 7 ≤ 8 by decide) (idxL n (priM n s).1 (priM n s).2).1
        have := pl_mono (show 8 ≤ 9 by decide) (priM n s).1
        have := r0.w
        omega
  · -- indices
    intro e s h hn hv hc he
    rw [idxL] at he ⊢
    by_cases h1 : atM [91] s = true
    · rw [if_pos h1] at he ⊢
      have l2 := take_len h.wf (at_kind h1)
      have w2 := take_at h.wf h1
      have g2 := h.of (suf_take h.wf)
      have s3 := (R.ex _ g2.wf).suf
      have g3 := g2.of s3
      have l3 := s3.le
      have x4 := err_back (D.il (nod 8 [e, (exprM n (takeM s)).1])) he
      obtain ⟨a4, q4⟩ := exp_ok x4
      have x3 := exp_back x4
      rw [q4] at he ⊢
      have w4 := take_at g3.wf a4
      have l4 := take_len g3.wf (at_kind a4)
      have g4 := g3.of (suf_take g3.wf)
      have r1 := ih.ex _ g2 (by omega) x3
      have hN : exB (nod 8 [e, (exprM n (takeM s)).1]) = true := exB_nod rfl fun a hm => by
        simp only [List.mem_cons, List.not_mem_nil, or_false] at hm
        rcases hm with rfl | rfl
        · exact hv
        · exact r1.v
      obtain ⟨v1, c1, w1⟩ := ih.il _ _ g4 (by omega) hN (can_nod (map2 hc r1.c)) he
      refine ⟨v1, c1, ?_⟩
      have : ∀ a b : Exp, pl 8 (nod 8 [a, b]) = pl 8 a + 2 + pl 1 b := by
        intro a b
        rw [pl_eq, if_neg (by show ¬ lvlO 8 < 8; decide), bare_nod]
        show (txP (parP 8 (Go.Ky.ar a) ++ some (sy [91]) :: (parP 1 (Go.Ky.ar b) ++ [some (sy [93])]))).length = _
        rw [txP_app, txP_some, txP_app]
        simp only [List.length_append]
        unfold pl
        show _ + (1 + (_ + 1)) = _
        omega
      rw [this] at w1
      have := r1.w
      simp only [List.length_cons, List.length_nil] at w2 w4
      omega
    · rw [if_neg h1] at he ⊢
      exact ⟨hv, hc, Nat.le_refl _⟩
  · -- primaries
    intro s h hn he
    have G := h.hd
    rw [priM] at he ⊢
    by_cases k3 : s.hd.kind = 3
    · rw [if_pos k3] at he ⊢
      have w2 := take_wt h.wf (by omega)
      refine ⟨?_, ?_, ?_⟩
      · rw [exB_eq]; rfl
      · rw [canE_eq]; rfl
      · rw [pl_eq, if_neg (by show ¬ lvlO 1 < 9; decide), bareP_eq]
        show (decD ((s.hd.val : Int).toNat) ++ []).length + wt (takeM s).ts ≤ _
        rw [Int.toNat_natCast, List.append_nil]
        have := G.nu k3
        omega
    rw [if_neg k3] at he ⊢
    by_cases k1 : s.hd.kind = 1
    · rw [if_pos k1] at he ⊢
      have l2 := take_len h.wf (by omega)
      have w2 := take_wt h.wf (by omega)
      have g2 := h.of (suf_take h.wf)
      by_cases h4 : atM [40] (takeM s) = true
      · rw [if_pos h4] at he ⊢
        simp only at he ⊢
        have l3 := take_len g2.wf (at_kind h4)
        have w3 := take_at g2.wf h4
        have g3 := g2.of (suf_take g2.wf)
        obtain ⟨v1, c1, w1⟩ := ih.ar' _ g3 (by omega) he
        refine ⟨?_, ?_, ?_⟩
        · rw [exB_eq]
          show ((argM n (takeM (takeM s))).1.all exB && opB 5 _ 0 s.hd.text) = true
          rw [List.all_eq_true.2 v1]
          show (true && (decide ((0 : Int) = 0) && nameB s.hd.text)) = true
          rw [G.nm k1]; rfl
        · rw [canE_eq]
          show Exp.mk 5 0 s.hd.text (argM n (takeM (takeM s))).1.isEmpty (List.map canE (argM n (takeM (takeM s))).1) = _
          rw [c1]
        · rw [pl_eq, if_neg (by show ¬ lvlO 5 < 9; decide), bareP_eq]
          show (txP (some (nmT s.hd.text) :: some (sy [40]) :: (commaP (((argM n (takeM (takeM s))).1.map Go.Ky.ar).map (parP 1)) ++ [some (sy [41])]))).length + _ ≤ _
          rw [txP_some, txP_some, txP_app]
          simp only [List.length_append]
          unfold cw at w1
          simp only [List.length_cons, List.length_nil] at w3
          show s.hd.text.length + (1 + (_ + 1)) + _ ≤ _
          omega
      · rw [if_neg h4] at he ⊢
        refine ⟨?_, ?_, ?_⟩
        · rw [exB_eq]
          show (([] : List Exp).all exB && (decide ((0 : Int) = 0) && decide ((0 : Int) = 0) && nameB s.hd.text)) = true
          rw [G.nm k1]; rfl
        · rw [canE_eq]; rfl
        · rw [pl_eq, if_neg (by show ¬ lvlO 2 < 9; decide), bareP_eq]
          show (s.hd.text ++ []).length + wt (takeM s).ts ≤ _
          rw [List.append_nil]
          omega
    rw [if_neg k1] at he ⊢
    by_cases h1 : atM [116, 114, 117, 101] s = true
    · rw [if_pos h1] at he ⊢
      have w2 := take_at h.wf h1
      refine ⟨by rw [exB_eq]; rfl, by rw [canE_eq]; rfl, ?_⟩
      simp only [List.length_cons, List.length_nil] at w2
      show 4 + wt (takeM s).ts ≤ _
      omega
    rw [if_neg h1] at he ⊢
    by_cases h2 : atM [102, 97, 108, 115, 101] s = true
    · rw [if_pos h2] at he ⊢
      have w2 := take_at h.wf h2
      refine ⟨by rw [exB_eq]; rfl, by rw [canE_eq]; rfl, ?_⟩
      simp only [List.length_cons, List.length_nil] at w2
      show 5 + wt (takeM s).ts ≤ _
      omega
    rw [if_neg h2] at he ⊢
    by_cases h5 : atM [104, 97, 115, 104] s = true
    · rw [if_pos h5] at he ⊢
      have l2 := take_len h.wf (at_kind h5)
      have w2 := take_at h.wf h5
      have g2 := h.of (suf_take h.wf)
      obtain ⟨v1, c1, w1⟩ := ih.ha _ g2 (by omega) he
      refine ⟨v1, c1, ?_⟩
      simp only [List.length_cons, List.length_nil] at w2
      omega
    rw [if_neg h5] at he ⊢
    by_cases h6 : atM [91] s = true
    · rw [if_pos h6] at he ⊢
      simp only at he ⊢
      have l2 := take_len h.wf (at_kind h6)
      have w2 := take_at h.wf h6
      have g2 := h.of (suf_take h.wf)
      have s3 := (R.li _ g2.wf).suf
      have g3 := g2.of s3
      obtain ⟨a4, q4⟩ := exp_ok he
      have x3 := exp_back he
      have w4 := take_at g3.wf a4
      have r1 := ih.li _ g2 (by omega) x3
      have hlen : 1 ≤ (lisM n (takeM s)).1.length := List.length_pos_iff.2 r1.ne
      refine ⟨exB_nod ?_ r1.v, can_nod r1.c, ?_⟩
      · show (decide ((1 : Int) ≤ ((lisM n (takeM s)).1.length : Int)) && decide ((0 : Int) = 0) && decide (([] : Nm) = [])) = true
        rw [decide_eq_true (show (1 : Int) ≤ ((lisM n (takeM s)).1.length : Int) by omega)]; rfl
      · rw [q4, pl_eq, if_neg (by show ¬ lvlO 7 < 9; decide), bare_nod]
        show (txP (some (sy [91]) :: (commaP (((lisM n (takeM s)).1.map Go.Ky.ar).map (parP 1)) ++ [some (sy [93])]))).length + _ ≤ _
        rw [txP_some, txP_app]
        simp only [List.length_append]
        have := r1.w
        unfold cw at this
        simp only [List.length_cons, List.length_nil] at w2 w4
        show 1 + (_ + 1) + _ ≤ _
        omega
    rw [if_neg h6] at he ⊢
    by_cases h7 : atM [40] s = true
    · rw [if_pos h7] at he ⊢
      simp only at he ⊢
      have l2 := take_len h.wf (at_kind h7)
      have w2 := take_at h.wf h7
      have g2 := h.of (suf_take h.wf)
      have s3 := (R.ex _ g2.wf).suf
      have g3 := g2.of s3
      obtain ⟨a4, q4⟩ := exp_ok he
      have x3 := exp_back he
      have w4 := take_at g3.wf a4
      have r1 := ih.ex _ g2 (by omega) x3
      refine ⟨r1.v, r1.c, ?_⟩
      rw [q4]
      have := pl_par 9 1 (exprM n (takeM s)).1
      have := r1.w
      simp only [List.length_cons, List.length_nil] at w2 w4
      omega
    · rw [if_neg h7] at he
      exact absurd he (fail_no (by decide))
  · -- arguments
    intro s h hn he
    rw [argM] at he ⊢
    by_cases h1 : atM [41] s = true
    · rw [if_pos h1] at he ⊢
      have w2 := take_at h.wf h1
      refine ⟨fun a ha => (by cases ha), rfl, ?_⟩
      simp only [List.length_cons, List.length_nil] at w2
      show 0 + 3 + wt (takeM s).ts ≤ _
      omega
    · rw [if_neg h1] at he ⊢
      simp only at he ⊢
      have s3 := (R.li _ h.wf).suf
      have g3 := h.of s3
      obtain ⟨a4, q4⟩ := exp_ok he
      have x3 := exp_back he
      have w4 := take_at g3.wf a4
      have r1 := ih.li _ h (by omega) x3
      refine ⟨r1.v, r1.c, ?_⟩
      rw [q4]
      have := r1.w
      simp only [List.length_cons, List.length_nil] at w4
      omega
  · -- hash
    intro s h hn he
    rw [hashM] at he ⊢
    by_cases hk : (expM [40] s).hd.kind ≠ 3
    · rw [if_pos hk] at he
      exact absurd he (fail_no (by decide))
    · rw [if_neg hk] at he ⊢
      simp only at he ⊢
      obtain ⟨a6, q6⟩ := exp_ok he
      have x5 := exp_back he
      have x4 := err_back D.li x5
      obtain ⟨a4, q4⟩ := exp_ok x4
      have x3 := exp_back x4
      obtain ⟨a1, q1⟩ := exp_ok (show (expM [40] s).err = 0 from x3)
      have l1 := take_len h.wf (at_kind a1)
      have w1 := take_at h.wf a1
      have g1 := h.of (suf_take h.wf)
      rw [q1] at hk
      have k3 : (takeM s).hd.kind = 3 := Decidable.byContradiction hk
      have l2 := take_len g1.wf (by omega)
      have w2 := take_wt g1.wf (by omega)
      have g2 := g1.of (suf_take g1.wf)
      have G := g1.hd
      rw [q1] at a4 q4 x5 a6 q6 ⊢
      rw [q4] at x5 a6 q6 ⊢
      have l4 := take_len g2.wf (at_kind a4)
      have w4 := take_at g2.wf a4
      have g4 := g2.of (suf_take g2.wf)
      have s5 := (R.li _ g4.wf).suf
      have g5 := g4.of s5
      have w6 := take_at g5.wf a6
      have r1 := ih.li _ g4 (by omega) x5
      have hlen : 1 ≤ (lisM n (takeM (takeM (takeM s)))).1.length := List.length_pos_iff.2 r1.ne
      refine ⟨?_, ?_, ?_⟩
      · rw [exB_eq]
        show ((lisM n (takeM (takeM (takeM s)))).1.all exB && (decide ((1 : Int) ≤ ((lisM n (takeM (takeM (takeM s)))).1.length : Int)) && decide (([] : Nm) = []))) = true
        rw [List.all_eq_true.2 r1.v, decide_eq_true (show (1 : Int) ≤ ((lisM n (takeM (takeM (takeM s)))).1.length : Int) by omega)]; rfl
      · rw [canE_eq]
        show Exp.mk 6 ((takeM s).hd.val : Int) [] (lisM n (takeM (takeM (takeM s)))).1.isEmpty (List.map canE (lisM n (takeM (takeM (takeM s)))).1) = _
        rw [r1.c]
      · rw [q6, pl_eq, if_neg (by show ¬ lvlO 6 < 9; decide), bareP_eq]
        show (txP (some (kw [104, 97, 115, 104]) :: some (sy [40]) :: some (nu ((takeM s).hd.val : Int).toNat) :: some (sy [59]) :: none :: (commaP (((lisM n (takeM (takeM (takeM s)))).1.map Go.Ky.ar).map (parP 1)) ++ [some (sy [41])]))).length + _ ≤ _
        rw [txP_some, txP_some, txP_some, txP_some, txP_none, txP_app, Int.toNat_natCast]
        simp only [List.length_append, List.length_cons]
        have := r1.w
        unfold cw at this
        have := G.nu k3
        simp only [List.length_cons, List.length_nil] at w1 w4 w6
        show 4 + (1 + ((decD (takeM s).hd.val).length + (1 + (_ + 1 + 1)))) + _ ≤ _
        omega
  · intro s h hn he
    rw [lisM] at he ⊢
    have s1 := (R.ex _ h.wf).suf
    have g1 := h.of s1
    have l1 := s1.le
    have x1 := err_back (D.ll [(exprM n s).1]) he
    have r0 := ih.ex s h (by omega) x1
    obtain ⟨a1, a2, a3, a4⟩ := ih.ll _ _ g1 (by omega) (by simp) (fun a hm => by rw [List.mem_singleton] at hm; rw [hm]; exact r0.v) (by simp [r0.c]) he
    refine ⟨a1, a2, a3, ?_⟩
    rw [cw_one] at a4
    have := r0.w
    omega
  · intro l s h hn hl hv hc he
    rw [lisL] at he ⊢
    by_cases h1 : atM [44] s = true
    · rw [if_pos h1] at he ⊢
      have l2 := take_len h.wf (at_kind h1)
      have w2 := take_at h.wf h1
      have g2 := h.of (suf_take h.wf)
      have s3 := (R.ex _ g2.wf).suf
      have g3 := g2.of s3
      have l3 := s3.le
      have x3 := err_back (D.ll (l ++ [(exprM n (takeM s)).1])) he
      have r1 := ih.ex _ g2 (by omega) x3
      obtain ⟨a1, a2, a3, a4⟩ := ih.ll _ _ g3 (by omega) (by simp) (fun a hm => by
        rcases List.mem_append.1 hm with h | h
        · exact hv a h
        · rw [List.mem_singleton] at h; rw [h]; exact r1.v) (by rw [List.map_append, hc]; simp [r1.c]) he
      refine ⟨a1, a2, a3, ?_⟩
      rw [cw_snoc hl] at a4
      have := r1.w
      simp only [List.length_cons, List.length_nil] at w2
      omega
    · rw [if_neg h1] at he ⊢
      exact ⟨hl, hv, hc, Nat.le_refl _⟩
theorem rg_all : ∀ n, RgAll n
  | 0 => rg_zero
  | n + 1 => rg_succ (rg_all n)
end Go.Ky

/- KX 58: an expression that is formatted and parsed again is the same: the plain law. -/
set_option linter.unusedSimpArgs false
set_option linter.unusedVariables false
namespace Go.Ky
open Go.Pi Go.Lx
theorem numF_lt : ∀ (l : List UInt8) (a k : Nat), (∀ c, c ∈ l → isDig c = true) → a < 10 ^ k → l.foldl (fun n c => 10 * n + (c.toNat - 48)) a < 10 ^ (k + l.length)
  | [], a, k, _, h => by simpa using h
  | c :: r, a, k, hd, h => by
    rw [List.foldl_cons, List.length_cons, show k + (r.length + 1) = (k + 1) + r.length by omega]
    refine numF_lt r _ (k + 1) (fun x hx => hd x (List.mem_cons_of_mem _ hx)) ?_
    have hc := hd c List.mem_cons_self
    simp only [isDig, Bool.and_eq_true, decide_eq_true_eq, UInt8.le_iff_toNat_le] at hc
    have h57 : c.toNat ≤ 57 := hc.2
    rw [Nat.pow_succ]
    omega
theorem numV_lt {l : List UInt8} (hd : ∀ c, c ∈ l → isDig c = true) : numV l < 10 ^ l.length := by
  have := numF_lt l 0 0 hd (by decide)
  rw [Nat.zero_add] at this
  exact this
theorem span_mem {p : UInt8 → Bool} : ∀ (s : List UInt8) (c : UInt8), c ∈ s.take (span p s) → p c = true
  | [], c, h => by simp at h
  | x :: r, c, h => by
    rw [span] at h
    by_cases hx : p x = true
    · rw [if_pos hx, List.take_succ_cons] at h
      rcases List.mem_cons.1 h with rfl | h
      · exact hx
      · exact span_mem r c h
    · rw [if_neg hx] at h; simp at h
theorem span_le' (p : UInt8 → Bool) : ∀ s : List UInt8, span p s ≤ s.length
  | [] => Nat.le_refl _
  | c :: r => by
    rw [span]
    have := span_le' p r
    split
    · simp only [List.length_cons]; omega
    · exact Nat.zero_le _
theorem next_good {s : List UInt8} {k m v pos : Nat} (h : next s = .ok k m v) : GoodT ⟨k, s.take m, v, pos⟩ := by
  match s, h with
  | [], h => cases h
  | c :: r, h =>
    rw [next] at h
    by_cases hl : isLet c = true
    · rw [if_pos hl] at h
      unfold nextW at h
      split at h
      · injection h with a b c'; subst a; exact ⟨fun h => (by simp at h), fun h => (by simp at h)⟩
      · split at h
        · cases h
        · rename_i hk h24
          injection h with a b c'
          subst a b
          refine ⟨fun _ => ?_, fun h => (by simp at h)⟩
          show nameB ((c :: r).take (span isNam (c :: r))) = true
          have hs := span_takeN isNam (c :: r) (span isNam (c :: r)) (Nat.le_refl _)
          have hle := span_le' isNam (c :: r)
          have hlen : ((c :: r).take (span isNam (c :: r))).length = span isNam (c :: r) := by rw [List.length_take]; omega
          have h1 : 1 ≤ span isNam (c :: r) := by
            rw [span, if_pos (by unfold isNam; rw [hl]; rfl)]; omega
          obtain ⟨q, hq⟩ : ∃ q, span isNam (c :: r) = q + 1 := ⟨span isNam (c :: r) - 1, by omega⟩
          rw [hq] at hs hlen hk ⊢
          rw [List.take_succ_cons] at hs hlen hk ⊢
          rw [nameB, hl, hs, hlen, decide_eq_true (show q + 1 ≤ 24 by omega)]
          simp only [decide_true, Bool.true_and, Bool.not_eq_true'] at hk ⊢
          simpa using hk
    · rw [if_neg hl] at h
      by_cases hd : isDig c = true
      · rw [if_pos hd] at h
        unfold nextD at h
        split at h
        · cases h
        · split at h
          · cases h
          · injection h with a b c'
            subst a b c'
            refine ⟨fun h => (by simp at h), fun _ => ?_⟩
            show (decD (numV ((c :: r).take (span isDig (c :: r))))).length ≤ ((c :: r).take (span isDig (c :: r))).length
            have h1 : 1 ≤ span isDig (c :: r) := by
              rw [span, if_pos hd]; omega
            have hle := span_le' isDig (c :: r)
            have hlen : ((c :: r).take (span isDig (c :: r))).length = span isDig (c :: r) := by rw [List.length_take]; omega
            obtain ⟨q, hq⟩ : ∃ q, span isDig (c :: r) = q + 1 := ⟨span isDig (c :: r) - 1, by omega⟩
            have hlt := numV_lt (span_mem (p := isDig) (c :: r))
            rw [hlen, hq] at hlt
            rw [hlen, hq]
            exact decD_len q _ hlt
      · rw [if_neg hd] at h
        split at h
        · injection h with a b c'; subst a; exact ⟨fun h => (by simp at h), fun h => (by simp at h)⟩
        · split at h
          · injection h with a b c'; subst a; exact ⟨fun h => (by simp at h), fun h => (by simp at h)⟩
          · cases h
theorem good_lex : ∀ (n : Nat) (s : List UInt8) (pos : Nat) (l : List Tok), s.length = n → lexR pos s = .toks l → ∀ t, t ∈ l → GoodT t := by
  intro n
  induction n using Nat.strongRecOn with
  | _ n ih =>
    intro s pos l hs h t ht
    rcases lex_cases s with h1 | ⟨h1, ⟨e, hn⟩ | ⟨k, m, v, hn⟩⟩
    · rw [lexR_end h1] at h
      injection h with h
      subst h
      rw [List.mem_singleton] at ht
      subst ht
      exact ⟨fun h => (by simp at h), fun h => (by simp at h)⟩
    · rw [lexR_err h1 hn] at h; cases h
    · rw [lexR_ok h1 hn] at h
      have hp := next_pos hn
      cases hq : lexR (pos + gap s + m) (s.drop (gap s + m)) with
      | err p e => rw [hq] at h; cases h
      | toks q =>
        rw [hq] at h
        injection h with h
        subst h
        rcases List.mem_cons.1 ht with e | e
        · subst e; exact next_good hn
        · exact ih (s.drop (gap s + m)).length (by simp only [List.length_drop] at hp ⊢; omega) _ _ q rfl hq t e
theorem zn_sz : ∀ e : Exp, 4 * zn e ≤ szE e := by
  refine Exp.ind fun e ih => ?_
  have key : ∀ l : List Exp, (∀ a, a ∈ l → 4 * zn a ≤ szE a) → 4 * zns l ≤ szEs l := by
    intro l
    induction l with
    | nil => intro _; rw [zns_nil]; exact Nat.zero_le _
    | cons a r ih2 =>
      intro h
      have h1 := h a List.mem_cons_self
      have h2 := ih2 fun x hx => h x (List.mem_cons_of_mem _ hx)
      rw [zns_cons, szEs_cons]
      omega
  have := key e.args ih
  rw [zn_eq, szE_eq]
  omega
theorem wt_len : ∀ l : List Tok, wt l = textsL l + 2 * l.length
  | [] => rfl
  | a :: r => by
    have := wt_len r
    unfold wt textsL at *
    rw [List.map_cons, List.sum_cons, this, List.map_cons, List.sum_cons, List.length_cons]
    omega
abbrev fuE : Nat := 4000000
theorem twice_law {s : List UInt8} (hs : s.length ≤ 3000) {e : Exp} {p : Int} (h : exN fuE s = (e, p, 0)) :
    exB e = true ∧ ExpOk e ∧ dEx e ≤ 40 ∧ (fmtE e).length ≤ 16384 ∧ szE e ≤ B20 ∧ exN fuE (fmtE e) = (e, 0, 0) := by
  have hw := tokP_wv s
  unfold exN at h
  by_cases hr : (resM (tokP s).2.1 (tokP s).2.2 (exF fuE (tokP s).1)).2 ≠ 0
  · rw [if_pos hr] at h
    injection h with h1 h2
    rw [h2] at hr
    exact absurd rfl hr
  · rw [if_neg hr] at h
    injection h with h1 h2
    have hr0 : (resM (tokP s).2.1 (tokP s).2.2 (exF fuE (tokP s).1)).2 = 0 := Decidable.byContradiction hr
    have hst : (tokP s).2.1 = 0 ∧ (exF fuE (tokP s).1).err = 0 ∧ (exF fuE (tokP s).1).deep = false := by
      unfold resM at hr0
      by_cases hc : (exF fuE (tokP s).1).err ≠ 0 ∧ ((tokP s).2.1 = 0 ∨ (exF fuE (tokP s).1).pos < (tokP s).2.2)
      · rw [if_pos hc] at hr0
        exact absurd hr0 hc.1
      · rw [if_neg hc] at hr0
        by_cases hs0 : (tokP s).2.1 = 0
        · rw [if_neg (fun h => h hs0)] at hr0
          have he : (exF fuE (tokP s).1).err = 0 := Decidable.byContradiction fun q => hc ⟨q, .inl hs0⟩
          refine ⟨hs0, he, ?_⟩
          cases hd : (exF fuE (tokP s).1).deep with
          | false => rfl
          | true => rw [hd] at hr0; simp at hr0
        · rw [if_pos hs0] at hr0
          exact absurd hr0 hs0
    obtain ⟨h0, he, hdp⟩ := hst
    obtain ⟨l, hl⟩ : ∃ l, lexR 0 s = .toks l := by
      cases hx : lexR 0 s with
      | toks l => exact ⟨l, rfl⟩
      | err p' e' =>
        exfalso
        have hne := (lex_er _ _ _ _ _ rfl hx).2
        obtain ⟨k, l, g1, g2, g3⟩ := lex_ahead _ _ _ _ _ rfl hx
        rw [Nat.zero_add] at g1
        subst g1
        unfold tokP at h0
        rw [if_neg (by omega), hx] at h0
        simp only [g3] at h0
        omega
    have hT := tokP_toks (by omega) hl
    rw [hT] at he hdp h1 hw
    simp only at he hdp h1 hw
    have hlen := lex_cnt _ _ _ _ rfl hl
    have htx := lex_texts _ _ _ _ rfl hl
    have hg : Gk (st0 l) := ⟨hw.1.wf, good_lex _ _ _ _ rfl hl⟩
    have hts : (st0 l).ts = l := rfl
    have he2 : (exprM fuE (st0 l)).2.err = 0 := by
      unfold exF at he
      rw [(dep_err _ _ _).1] at he
      unfold endM at he
      split at he
      · exact absurd he (fail_no (by decide))
      · exact he
    have hR := (rg_all fuE).ex (st0 l) hg (by rw [hts]; show _ ≤ 4000000; omega) he2
    have hsz := ((rd_all fuE).ex (st0 l) hg.wf).sz
    have hok := (ok_all fuE).ex (st0 l) hw.1
    have hdx : dEx (exprM fuE (st0 l)).1 ≤ 40 := by
      unfold exF at hdp
      refine Decidable.byContradiction fun q => ?_
      unfold depM at hdp
      rw [decide_eq_true (show ((dEx (exprM fuE (st0 l)).1 : Int) > 40) by omega)] at hdp
      cases hd2 : (endM (exprM fuE (st0 l)).2).deep with
      | true => rw [hd2] at hdp; simp [hd2] at hdp
      | false => rw [hd2] at hdp; simp at hdp
    rw [h1] at hR hsz hok hdx
    have hz := zn_sz e
    rw [hts] at hsz
    have hw2 := hR.w
    rw [hts] at hw2
    have hwl := wt_len l
    have hfm : (fmtE e).length ≤ 16384 := by
      have : (fmtE e).length = pl 1 e := rfl
      omega
    refine ⟨hR.v, hok, hdx, hfm, by unfold B20; omega, ?_⟩
    rw [exp_round hR.v hok hdx hfm (N := fuE) (by show _ ≤ 4000000; omega), hR.c]
theorem exN_err {N : Nat} {s : List UInt8} {e : Exp} {p q : Int} (h : exN N s = (e, p, q)) (hq : q ≠ 0) : e = zEx := by
  unfold exN at h
  split at h
  · injection h with h1 h2
    exact h1.symm
  · injection h with h1 h2
    injection h2 with h3 h4
    exact absurd h4.symm hq
end Go.Ky
