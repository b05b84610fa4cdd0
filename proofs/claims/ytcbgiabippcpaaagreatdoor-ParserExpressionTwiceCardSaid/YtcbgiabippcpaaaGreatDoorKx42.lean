/- KX 5: programs of the circuit language as plain data; which are valid. No program in sight. -/
import Derived.Test.YtcbgiabippcpaaaGreatDoorPi31
import Derived.Test.YtcbgiabippcpaaaGreatDoorLx3
import Derived.Test.YtcbgiabippcpaaaGreatDoorLx3
namespace Go.Ky
open Go.Pi
abbrev Nm := List UInt8
structure Ty where
  kind : Int
  bits : Int
  len : Int
deriving DecidableEq
abbrev tTy (t : Ty) : List T := [.int .i64 t.kind, .int .i64 t.bits, .int .i64 t.len]
def zTy : Ty := ⟨0, 0, 0⟩
def fieldT : Ty := ⟨1, 0, 0⟩
def boolT : Ty := ⟨2, 0, 0⟩
inductive Exp where
  | mk (op val : Int) (name : Nm) (nl : Bool) (args : List Exp)
instance : Inhabited Exp := ⟨.mk 0 0 [] true []⟩
def Exp.op : Exp → Int | .mk o _ _ _ _ => o
def Exp.val : Exp → Int | .mk _ v _ _ _ => v
def Exp.name : Exp → Nm | .mk _ _ n _ _ => n
def Exp.nl : Exp → Bool | .mk _ _ _ b _ => b
def Exp.args : Exp → List Exp | .mk _ _ _ _ l => l
theorem Exp.ind {p : Exp → Prop} (h : ∀ e : Exp, (∀ a, a ∈ e.args → p a) → p e) : ∀ e, p e := by
  intro e
  refine Exp.rec (motive_1 := p) (motive_2 := fun l => ∀ a, a ∈ l → p a) ?_ ?_ ?_ e
  · intro o v n b l ih
    exact h (.mk o v n b l) ih
  · intro a ha; cases ha
  · intro x l hx hl a ha
    rcases List.mem_cons.1 ha with e | e
    · subst e; exact hx
    · exact hl a e
mutual
def tEx : Exp → List T
  | .mk o v n nl l => [.int .i64 o, .int .u64 v, .str n, .sl nl (tExs l)]
def tExs : List Exp → List (List T)
  | [] => []
  | e :: r => tEx e :: tExs r
end
theorem tExs_map (l : List Exp) : tExs l = l.map tEx := by
  induction l with
  | nil => rfl
  | cons e r ih => rw [tExs, ih]; rfl
theorem tEx_eq (e : Exp) : tEx e = [.int .i64 e.op, .int .u64 e.val, .str e.name, .sl e.nl (tExs e.args)] := by
  cases e; rfl
theorem tExs_len (l : List Exp) : (tExs l).length = l.length := by rw [tExs_map, List.length_map]
theorem tExs_get (l : List Exp) (i : Nat) : (tExs l)[i]? = l[i]?.map tEx := by rw [tExs_map, List.getElem?_map]
inductive St where
  | mk (kind : Int) (name : Nm) (typed : Bool) (ty : Ty) (ex : Exp) (lo hi : Int) (nl : Bool) (body : List St)
instance : Inhabited St := ⟨.mk 0 [] false zTy default 0 0 true []⟩
def St.kind : St → Int | .mk k _ _ _ _ _ _ _ _ => k
def St.name : St → Nm | .mk _ n _ _ _ _ _ _ _ => n
def St.typed : St → Bool | .mk _ _ b _ _ _ _ _ _ => b
def St.ty : St → Ty | .mk _ _ _ t _ _ _ _ _ => t
def St.ex : St → Exp | .mk _ _ _ _ e _ _ _ _ => e
def St.lo : St → Int | .mk _ _ _ _ _ l _ _ _ => l
def St.hi : St → Int | .mk _ _ _ _ _ _ h _ _ => h
def St.nl : St → Bool | .mk _ _ _ _ _ _ _ b _ => b
def St.body : St → List St | .mk _ _ _ _ _ _ _ _ l => l
theorem St.ind {p : St → Prop} (h : ∀ s : St, (∀ a, a ∈ s.body → p a) → p s) : ∀ s, p s := by
  intro s
  refine St.rec (motive_1 := p) (motive_2 := fun l => ∀ a, a ∈ l → p a) ?_ ?_ ?_ s
  · intro k n b t e lo hi nl l ih
    exact h (.mk k n b t e lo hi nl l) ih
  · intro a ha; cases ha
  · intro x l hx hl a ha
    rcases List.mem_cons.1 ha with e | e
    · subst e; exact hx
    · exact hl a e
mutual
def tSt : St → List T
  | .mk k n b t e lo hi nl l => [.int .i64 k, .str n, .bool b, .int .i64 t.kind, .int .i64 t.bits, .int .i64 t.len, .int .i64 e.op, .int .u64 e.val, .str e.name, .sl e.nl (tExs e.args), .int .i64 lo, .int .i64 hi, .sl nl (tSts l)]
def tSts : List St → List (List T)
  | [] => []
  | e :: r => tSt e :: tSts r
end
theorem tSts_map (l : List St) : tSts l = l.map tSt := by
  induction l with
  | nil => rfl
  | cons e r ih => rw [tSts, ih]; rfl
theorem tSt_eq (s : St) : tSt s = [.int .i64 s.kind, .str s.name, .bool s.typed, .int .i64 s.ty.kind, .int .i64 s.ty.bits, .int .i64 s.ty.len, .int .i64 s.ex.op, .int .u64 s.ex.val, .str s.ex.name, .sl s.ex.nl (tExs s.ex.args), .int .i64 s.lo, .int .i64 s.hi, .sl s.nl (tSts s.body)] := by
  cases s; rfl
theorem tSts_len (l : List St) : (tSts l).length = l.length := by rw [tSts_map, List.length_map]
theorem tSts_get (l : List St) (i : Nat) : (tSts l)[i]? = l[i]?.map tSt := by rw [tSts_map, List.getElem?_map]
structure Pa where
  name : Nm
  ty : Ty
abbrev tPa (p : Pa) : List T := [.str p.name, .int .i64 p.ty.kind, .int .i64 p.ty.bits, .int .i64 p.ty.len]
structure Fu where
  name : Nm
  pnl : Bool
  params : List Pa
  res : Ty
  bnl : Bool
  body : List St
  ret : Exp
abbrev tFu (f : Fu) : List T := [.str f.name, .sl f.pnl (f.params.map tPa), .int .i64 f.res.kind, .int .i64 f.res.bits, .int .i64 f.res.len, .sl f.bnl (tSts f.body), .int .i64 f.ret.op, .int .u64 f.ret.val, .str f.ret.name, .sl f.ret.nl (tExs f.ret.args)]
structure De where
  pub : Bool
  name : Nm
  ty : Ty
abbrev tDe (d : De) : List T := [.bool d.pub, .str d.name, .int .i64 d.ty.kind, .int .i64 d.ty.bits, .int .i64 d.ty.len]
structure Pg where
  fnl : Bool
  funcs : List Fu
  dnl : Bool
  decls : List De
  bnl : Bool
  body : List St
abbrev tPg (p : Pg) : List T := [.sl p.fnl (p.funcs.map tFu), .sl p.dnl (p.decls.map tDe), .sl p.bnl (tSts p.body)]
abbrev B47 : Nat := 140737488355328
def I64 (n : Int) : Prop := -9223372036854775808 ≤ n ∧ n ≤ 9223372036854775807
def U64 (n : Int) : Prop := 0 ≤ n ∧ n ≤ 18446744073709551615
def TyOk (t : Ty) : Prop := I64 t.kind ∧ I64 t.bits ∧ I64 t.len
inductive ExpOk : Exp → Prop where
  | mk (e : Exp) (h1 : I64 e.op) (h2 : U64 e.val) (h3 : e.name.length ≤ B47) (h4 : e.args.length ≤ B47) (h5 : e.nl = true → e.args = []) (h : ∀ a, a ∈ e.args → ExpOk a) : ExpOk e
inductive StOk : St → Prop where
  | mk (s : St) (h1 : I64 s.kind) (h2 : s.name.length ≤ B47) (h3 : TyOk s.ty) (h4 : ExpOk s.ex) (h5 : I64 s.lo) (h6 : I64 s.hi) (h7 : s.body.length ≤ B47) (h8 : s.nl = true → s.body = []) (h : ∀ a, a ∈ s.body → StOk a) : StOk s
def PaOk (p : Pa) : Prop := p.name.length ≤ B47 ∧ TyOk p.ty
structure FuOk (f : Fu) : Prop where
  name : f.name.length ≤ B47
  pl : f.params.length ≤ B47
  pn : f.pnl = true → f.params = []
  pa : ∀ p, p ∈ f.params → PaOk p
  res : TyOk f.res
  bl : f.body.length ≤ B47
  bn : f.bnl = true → f.body = []
  bo : ∀ s, s ∈ f.body → StOk s
  ret : ExpOk f.ret
def DeOk (d : De) : Prop := d.name.length ≤ B47 ∧ TyOk d.ty
structure PgOk (p : Pg) : Prop where
  fl : p.funcs.length ≤ B47
  fn : p.fnl = true → p.funcs = []
  fo : ∀ f, f ∈ p.funcs → FuOk f
  dl : p.decls.length ≤ B47
  dn : p.dnl = true → p.decls = []
  dok : ∀ d, d ∈ p.decls → DeOk d
  bl : p.body.length ≤ B47
  bn : p.bnl = true → p.body = []
  bo : ∀ s, s ∈ p.body → StOk s
section
variable {env : Nat → List CT} {x s : Nat}
end
end Go.Ky

/- KX 6: valid programs, the checker of types, the steps, in plain words. No program in sight. -/
namespace Go.Ky
open Go.Pi Go.Lx
abbrev B20 : Nat := 1100000
def szE (e : Exp) : Nat := tBks (tEx e)
def szEs (l : List Exp) : Nat := tBkss (tExs l)
def szS (s : St) : Nat := tBks (tSt s)
def szSs (l : List St) : Nat := tBkss (tSts l)
theorem szE_eq (e : Exp) : szE e = 4 + e.name.length + szEs e.args := by
  unfold szE szEs
  rw [tEx_eq]
  simp only [tBks, tBk]
  omega
theorem szEs_cons (e : Exp) (r : List Exp) : szEs (e :: r) = szE e + szEs r := rfl
theorem szS_eq (s : St) : szS s = 13 + s.name.length + s.ex.name.length + szEs s.ex.args + szSs s.body := by
  unfold szS szSs szEs
  rw [tSt_eq]
  simp only [tBks, tBk]
  omega
theorem szSs_cons (e : St) (r : List St) : szSs (e :: r) = szS e + szSs r := rfl
theorem szEs_mem {l : List Exp} {e : Exp} (h : e ∈ l) : szE e ≤ szEs l := by
  induction l with
  | nil => cases h
  | cons x r ih =>
    rw [szEs_cons]
    rcases List.mem_cons.1 h with e | e
    · subst e; omega
    · have := ih e; omega
theorem szSs_mem {l : List St} {e : St} (h : e ∈ l) : szS e ≤ szSs l := by
  induction l with
  | nil => cases h
  | cons x r ih =>
    rw [szSs_cons]
    rcases List.mem_cons.1 h with e | e
    · subst e; omega
    · have := ih e; omega
theorem szEs_len (l : List Exp) : l.length ≤ szEs l := by
  induction l with
  | nil => exact Nat.zero_le _
  | cons x r ih => rw [szEs_cons, szE_eq, List.length_cons]; omega
theorem szSs_len (l : List St) : l.length ≤ szSs l := by
  induction l with
  | nil => exact Nat.zero_le _
  | cons x r ih => rw [szSs_cons, szS_eq, List.length_cons]; omega
theorem szS_ex (s : St) : szE s.ex ≤ szS s := by rw [szS_eq, szE_eq]; omega
def nameB : List UInt8 → Bool
  | [] => false
  | c :: r => decide ((c :: r).length ≤ 24) && isLet c && decide (span isNam (c :: r) = (c :: r).length) && !keywords.contains (c :: r)
def tyB (t : Ty) : Bool :=
  if t.len < 0 ∨ 64 < t.len then false else if t.kind = 1 ∨ t.kind = 2 then decide (t.bits = 0) else if t.kind = 3 then decide (1 ≤ t.bits) && decide (t.bits ≤ 62) else false
def opB (op n v : Int) (nm : Nm) : Bool :=
  if op = 1 then decide (n = 0) && decide (nm = [])
  else if op = 2 then decide (n = 0) && decide (v = 0) && nameB nm
  else if op = 3 ∨ op = 4 then decide (n = 0) && decide (v = 0) && decide (nm = [])
  else if op = 5 then decide (v = 0) && nameB nm
  else if op = 6 then decide (1 ≤ n) && decide (nm = [])
  else if op = 7 then decide (1 ≤ n) && decide (v = 0) && decide (nm = [])
  else if op = 9 ∨ op = 10 then decide (n = 1) && decide (v = 0) && decide (nm = [])
  else if op = 20 then decide (n = 3) && decide (v = 0) && decide (nm = [])
  else if op = 8 ∨ op = 11 ∨ op = 12 ∨ op = 13 ∨ op = 14 ∨ op = 15 ∨ op = 16 ∨ op = 17 ∨ op = 18 ∨ op = 19 then decide (n = 2) && decide (v = 0) && decide (nm = [])
  else false
mutual
def exB : Exp → Bool
  | .mk o v n _ l => exsB l && opB o (l.length : Int) v n
def exsB : List Exp → Bool
  | [] => true
  | e :: r => exB e && exsB r
end
theorem exsB_all (l : List Exp) : exsB l = l.all exB := by
  induction l with
  | nil => rfl
  | cons e r ih => rw [exsB, ih]; rfl
theorem exB_eq (e : Exp) : exB e = (e.args.all exB && opB e.op (e.args.length : Int) e.val e.name) := by
  cases e
  rw [exB, exsB_all]; rfl
def emptyE (e : Exp) : Bool := decide (e.op = 0) && decide (e.val = 0) && decide (e.name = []) && decide ((e.args.length : Int) = 0)
def loopN (n : Int) : Bool := decide (0 ≤ n) && decide (n ≤ 1000000)
def untyped (s : St) : Bool := !s.typed && decide (s.ty = zTy)
mutual
def stB : St → Bool
  | .mk k n b t e lo hi _ l =>
    if k = 1 then !(!b && !decide (t = zTy) || b && !tyB t) && nameB n && exB e && decide (lo = 0) && decide (hi = 0) && decide ((l.length : Int) = 0)
    else if k = 2 then decide (n = []) && (!b && decide (t = zTy)) && exB e && decide (lo = 0) && decide (hi = 0) && decide ((l.length : Int) = 0)
    else if k = 3 then nameB n && (!b && decide (t = zTy)) && emptyE e && loopN lo && loopN hi && stsB l
    else false
def stsB : List St → Bool
  | [] => true
  | s :: r => stB s && stsB r
end
theorem stsB_all (l : List St) : stsB l = l.all stB := by
  induction l with
  | nil => rfl
  | cons e r ih => rw [stsB, ih]; rfl
theorem stB_eq (s : St) : stB s = if s.kind = 1 then !(!s.typed && !decide (s.ty = zTy) || s.typed && !tyB s.ty) && nameB s.name && exB s.ex && decide (s.lo = 0) && decide (s.hi = 0) && decide ((s.body.length : Int) = 0)
    else if s.kind = 2 then decide (s.name = []) && untyped s && exB s.ex && decide (s.lo = 0) && decide (s.hi = 0) && decide ((s.body.length : Int) = 0)
    else if s.kind = 3 then nameB s.name && untyped s && emptyE s.ex && loopN s.lo && loopN s.hi && s.body.all stB
    else false := by
  cases s
  rw [stB, stsB_all]; rfl
def paB (p : Pa) : Bool := nameB p.name && tyB p.ty
def deB (d : De) : Bool := nameB d.name && tyB d.ty
def fuB (f : Fu) : Bool := nameB f.name && f.params.all paB && tyB f.res && f.body.all stB && exB f.ret
mutual
def dEx : Exp → Nat
  | .mk _ _ _ _ l => dExs l + 1
def dExs : List Exp → Nat
  | [] => 0
  | e :: r => max (dEx e) (dExs r)
end
mutual
def dSt : St → Nat
  | .mk _ _ _ _ _ _ _ _ l => dSts l + 1
def dSts : List St → Nat
  | [] => 0
  | e :: r => max (dSt e) (dSts r)
end
theorem dEx_eq (e : Exp) : dEx e = dExs e.args + 1 := by cases e; rfl
theorem dSt_eq (s : St) : dSt s = dSts s.body + 1 := by cases s; rfl
theorem dEx_le : ∀ e : Exp, dEx e ≤ szE e := by
  refine Exp.ind fun e ih => ?_
  rw [dEx_eq, szE_eq]
  have : ∀ l : List Exp, (∀ a, a ∈ l → dEx a ≤ szE a) → dExs l ≤ szEs l := by
    intro l
    induction l with
    | nil => intro _; exact Nat.zero_le _
    | cons x r ihr =>
      intro h
      have h1 := h x (by simp)
      have h2 := ihr fun a ha => h a (by simp [ha])
      rw [dExs, szEs_cons]
      omega
  have := this e.args ih
  omega
theorem dSt_le : ∀ e : St, dSt e ≤ szS e := by
  refine St.ind fun e ih => ?_
  rw [dSt_eq, szS_eq]
  have : ∀ l : List St, (∀ a, a ∈ l → dSt a ≤ szS a) → dSts l ≤ szSs l := by
    intro l
    induction l with
    | nil => intro _; exact Nat.zero_le _
    | cons x r ihr =>
      intro h
      have h1 := h x (by simp)
      have h2 := ihr fun a ha => h a (by simp [ha])
      rw [dSts, szSs_cons]
      omega
  have := this e.body ih
  omega
def shE (e : Exp) : Bool := decide ((dEx e : Int) ≤ 40)
mutual
def shS : St → Bool
  | .mk k n b t e lo hi nl l => decide ((dSt (.mk k n b t e lo hi nl l) : Int) ≤ 40) && shE e && shSs l
def shSs : List St → Bool
  | [] => true
  | s :: r => shS s && shSs r
end
theorem shSs_all (l : List St) : shSs l = l.all shS := by
  induction l with
  | nil => rfl
  | cons e r ih => rw [shSs, ih]; rfl
theorem shS_eq (s : St) : shS s = (decide ((dSt s : Int) ≤ 40) && shE s.ex && s.body.all shS) := by
  cases s
  rw [shS, shSs_all]; rfl
def shF (f : Fu) : Bool := f.body.all shS && shE f.ret
def validP (p : Pg) : Int :=
  if (p.funcs.all fuB && p.decls.all deB && p.body.all stB) = false then 1 else if (p.funcs.all shF && p.body.all shS) = false then 3 else 0
structure Sy where
  typ : Ty
  loop : Bool
  low : Int
  high : Int
abbrev Ns := List (Nm × Sy)
abbrev Fs := List (Nm × Fu)
def look {α : Type} (k : Nm) : List (Nm × α) → Option α
  | [] => none
  | (j, x) :: r => if k = j then some x else look k r
abbrev tSy (s : Sy) : List T := [.int .i64 s.typ.kind, .int .i64 s.typ.bits, .int .i64 s.typ.len, .bool s.loop, .int .i64 s.low, .int .i64 s.high]
def fitsB (t u : Ty) : Bool := if t.len ≠ u.len then false else if u.kind = 1 then true else decide (t.kind = u.kind) && decide (t.bits ≤ u.bits)
def lenZ (x : Int) : Int := if x = 0 then 0 else (x.toNat.log2 : Int) + 1
def numT (n : Int) : Ty := if 4611686018427387904 ≤ n then fieldT else ⟨3, if lenZ n > 1 then lenZ n else 1, 0⟩
def isSc (t : Ty) : Bool := decide (t.len = 0)
def isBo (t : Ty) : Bool := decide (t = boolT)
abbrev Rt := Ty × Int
def bad (e : Int) : Rt := (zTy, e)
def allM (p : Ty → Bool) (l : List Ty) (r : Ty) : Rt := if l.all p then (r, 0) else bad 6
def callFit : List Ty → List Pa → Bool
  | t :: r, p :: ps => fitsB t p.ty && callFit r ps
  | _, _ => true
def callM (fs : Fs) (nm : Nm) (l : List Ty) : Rt :=
  match look nm fs with
  | none => bad 4
  | some f => if (l.length : Int) ≠ (f.params.length : Int) then bad 6 else if callFit l f.params then (f.res, 0) else bad 6
def listGo (a : Ty) : List Ty → Ty → Option Ty
  | [], r => some r
  | t :: l, r => if t.len ≠ 0 then none else if t ≠ a then listGo a l fieldT else listGo a l r
def listM (l : List Ty) : Rt :=
  match l with
  | [] => bad 99
  | a :: _ => match listGo a l a with
    | none => bad 6
    | some r => (⟨r.kind, r.bits, (l.length : Int)⟩, 0)
def choiceM (c x y : Ty) : Rt := if isBo c = false then bad 6 else if x = y then (x, 0) else if isSc x && isSc y then (fieldT, 0) else bad 6
def mx (x y : Int) : Int := if y > x then y else x
def compM (x y : Ty) (w : Int) : Rt × Int :=
  if x.kind ≠ 3 ∨ y.kind ≠ 3 ∨ x.len ≠ 0 ∨ y.len ≠ 0 then (bad 6, w) else ((boolT, 0), mx w (IntKind.i64.wrap (mx x.bits y.bits + 1)))
def posM (ns : Ns) (e : Exp) (len : Int) : Bool × Int :=
  let most := IntKind.u64.wrap len
  if e.op = 1 then (decide (e.val < most), 0)
  else
    let two := e.op = 12 ∨ e.op = 13
    let nm := if two then e.args.getD 0 default else e
    let off := if two then (e.args.getD 1 default).val else 0
    if two ∧ (e.args.getD 1 default).op ≠ 1 then (false, 6)
    else if nm.op ≠ 2 then (false, 6)
    else match look nm.name ns with
      | none => (false, 4)
      | some s => if s.loop = false then (false, 6) else if s.low = s.high then (true, 0) else
        let first := IntKind.u64.wrap s.low
        let last := IntKind.u64.wrap (IntKind.i64.wrap (s.high - 1))
        if e.op = 13 then (decide (off ≤ first) && decide (IntKind.u64.wrap (last - off) < most), 0)
        else (decide (off < most) && decide (IntKind.u64.wrap (last + off) < most), 0)
def opM (fs : Fs) (ns : Ns) (op val : Int) (nm : Nm) (l : List Ty) (w : Int) : Rt × Int :=
  if op = 1 then ((numT val, 0), w)
  else if op = 3 ∨ op = 4 then ((boolT, 0), w)
  else if op = 2 then ((match look nm ns with | none => bad 4 | some s => (s.typ, 0)), w)
  else if op = 5 then (callM fs nm l, w)
  else if op = 6 then (if 65536 ≤ val then bad 8 else allM isSc l fieldT, w)
  else if op = 7 then (listM l, w)
  else if op = 20 then (choiceM (l.getD 0 zTy) (l.getD 1 zTy) (l.getD 2 zTy), w)
  else if op = 14 ∨ op = 15 then (allM isSc l boolT, w)
  else if op = 16 ∨ op = 17 then compM (l.getD 0 zTy) (l.getD 1 zTy) w
  else if op = 10 ∨ op = 18 ∨ op = 19 then (allM isBo l boolT, w)
  else (allM isSc l fieldT, w)
def idxM (ns : Ns) (r : Rt × Int) (b : Exp) : Rt × Int :=
  if r.1.2 ≠ 0 then (bad r.1.2, r.2)
  else
    let q := posM ns b r.1.1.len
    if q.2 ≠ 0 then (bad q.2, r.2) else if r.1.1.len = 0 then (bad 6, r.2) else if q.1 = false then (bad 8, r.2) else ((⟨r.1.1.kind, r.1.1.bits, 0⟩, 0), r.2)
mutual
def exM (fs : Fs) (ns : Ns) : Exp → Int → Rt × Int
  | .mk op val nm _ l, w =>
    if op = 8 then (match l with
      | a :: b :: _ => idxM ns (exM fs ns a w) b
      | _ => (bad 99, w))
    else
      let q := exsM fs ns l w
      if q.1.2 ≠ 0 then (bad q.1.2, q.2) else opM fs ns op val nm q.1.1 q.2
def exsM (fs : Fs) (ns : Ns) : List Exp → Int → (List Ty × Int) × Int
  | [], w => (([], 0), w)
  | a :: r, w =>
    let q := exM fs ns a w
    if q.1.2 ≠ 0 then (([], q.1.2), q.2) else
      let q2 := exsM fs ns r q.2
      if q2.1.2 ≠ 0 then (([], q2.1.2), q2.2) else ((q.1.1 :: q2.1.1, 0), q2.2)
end
abbrev Rs := Int × Ns × Int
def decM (nm : Nm) (s : Sy) (ns : Ns) (w : Int) : Rs := match look nm ns with
  | some _ => (5, ns, w)
  | none => (0, ns ++ [(nm, s)], w)
def noteM (t : Ty) (w : Int) : Int := if t.kind = 3 then mx w t.bits else w
mutual
def stM (fs : Fs) : St → Ns → Int → Rs
  | .mk k nm typed ty e lo hi _ l, ns, w =>
    if k = 3 then (if lo > hi then (8, ns, w) else match decM nm ⟨fieldT, true, lo, hi⟩ ns w with
      | (d, ns1, w1) => if d ≠ 0 then (d, ns1, w1) else match stsM fs l ns1 w1 with
        | (d2, ns2, w2) => if d2 ≠ 0 then (d2, ns2, w2) else (0, ns, w2))
    else
      let q := exM fs ns e w
      if q.1.2 ≠ 0 then (q.1.2, ns, q.2)
      else if k = 2 then (if q.1.1 ≠ boolT then 6 else 0, ns, q.2)
      else if typed then (if (ty.len = 0 ∧ q.1.1.len ≠ 0) ∨ (ty.len ≠ 0 ∧ fitsB q.1.1 ty = false) then (6, ns, q.2) else decM nm ⟨ty, false, 0, 0⟩ ns (noteM ty q.2))
      else decM nm ⟨q.1.1, false, 0, 0⟩ ns q.2
def stsM (fs : Fs) : List St → Ns → Int → Rs
  | [], ns, w => (0, ns, w)
  | s :: r, ns, w => match stM fs s ns w with
    | (d, ns1, w1) => if d ≠ 0 then (d, ns1, w1) else stsM fs r ns1 w1
end
def mn (x y : Int) : Int := if y < x then y else x
abbrev Ks := List (Nm × Int)
def lookI (k : Nm) (l : Ks) : Int := (look k l).getD 0
mutual
def csE (ks : Ks) : Exp → Int
  | .mk op _ nm _ l => mn 20001 (csEs ks l (if op = 5 then 1 + lookI nm ks else 0))
def csEs (ks : Ks) : List Exp → Int → Int
  | [], n => n
  | e :: r, n => csEs ks r (mn 20001 (n + csE ks e))
end
mutual
def bsS (ks : Ks) : St → Int
  | .mk k _ _ _ e lo hi _ l => if k = 3 then (hi - lo) * bsSs ks l 0 else 1 + csE ks e
def bsSs (ks : Ks) : List St → Int → Int
  | [], n => n
  | s :: r, n => bsSs ks r (mn (n + bsS ks s) 20001)
end
end Go.Ky

/- KX 7: stores that grow; maps with names for keys; slices of types. -/
namespace Go.Ky
open Go.Pi Go.Lx
def Grow (sg sg' : Sg) : Prop := ∃ r, sg' = sg ++ r
theorem Grow.refl (sg : Sg) : Grow sg sg := ⟨[], by simp⟩
theorem Grow.trans {a b c : Sg} (h : Grow a b) (h' : Grow b c) : Grow a c := by
  obtain ⟨r, rfl⟩ := h
  obtain ⟨r', rfl⟩ := h'
  exact ⟨r ++ r', by rw [List.append_assoc]⟩
theorem Grow.app (sg r : Sg) : Grow sg (sg ++ r) := ⟨r, rfl⟩
theorem Grow.get {sg sg' : Sg} (h : Grow sg sg') {i : Nat} {x : Bool × List PV} (hi : sg[i]? = some x) : sg'[i]? = some x := by
  obtain ⟨r, rfl⟩ := h
  exact get_more hi
theorem Grow.len {sg sg' : Sg} (h : Grow sg sg') : sg.length ≤ sg'.length := by
  obtain ⟨r, rfl⟩ := h
  simp
def Fr (c : Nat) (sg sg' : Sg) : Prop := sg.length ≤ sg'.length ∧ ∀ i, i < sg.length → i ≠ c → sg'[i]? = sg[i]?
theorem Fr.refl (c : Nat) (sg : Sg) : Fr c sg sg := ⟨Nat.le_refl _, fun _ _ _ => rfl⟩
theorem Fr.trans {c : Nat} {a b d : Sg} (h : Fr c a b) (h' : Fr c b d) : Fr c a d :=
  ⟨Nat.le_trans h.1 h'.1, fun i hi hc => (h'.2 i (Nat.lt_of_lt_of_le hi h.1) hc).trans (h.2 i hi hc)⟩
theorem Fr.of {c : Nat} {a b : Sg} (h : Grow a b) : Fr c a b := by
  obtain ⟨r, rfl⟩ := h
  exact ⟨by simp, fun i hi _ => List.getElem?_append_left hi⟩
theorem Fr.get {c : Nat} {a b : Sg} (h : Fr c a b) {i : Nat} {x : Bool × List PV} (hi : a[i]? = some x) (hc : i ≠ c) : b[i]? = some x := by
  rw [h.2 i (List.getElem?_eq_some_iff.1 hi).1 hc]; exact hi
theorem Fr.set {c : Nat} {a b : Sg} (h : Fr c a b) (x : Bool × List PV) : Fr c a (b.set c x) := by
  refine ⟨by simpa using h.1, fun i hi hc => ?_⟩
  rw [List.getElem?_set_ne (fun e => hc e.symm)]
  exact h.2 i hi hc
theorem get_set {sg : Sg} {i : Nat} {x y : Bool × List PV} (h : sg[i]? = some x) : (sg.set i y)[i]? = some y :=
  List.getElem?_set_self (List.getElem?_eq_some_iff.1 h).1
theorem lt_of_get {sg : Sg} {i : Nat} {x : Bool × List PV} (h : sg[i]? = some x) : i < sg.length := (List.getElem?_eq_some_iff.1 h).1
def ents {α : Type} (enc : α → T) (l : List (Nm × α)) : List PV := l.map fun p => .tup [.t (.str p.1), .t (enc p.2)]
theorem ty_beq (s : Ty) (a b c : Int) : (s.kind == a && (s.bits == b && s.len == c)) = decide (s = ⟨a, b, c⟩) := by
  cases s
  simp only [Ty.mk.injEq]
  rw [Bool.eq_iff_iff]
  simp
def SlT (sg : Sg) (v : PV) (ts : List Ty) : Prop :=
  (ts = [] ∧ ∃ k, v = .own k 3 []) ∨ ∃ a cs, v = .ls a 0 ts.length 3 ∧ sg[a]? = some (false, cs) ∧ cs.length = ts.length * 3 ∧ ∀ i t, ts[i]? = some t → (cs.drop (i * 3)).take 3 = [.t (.int .i64 t.kind), .t (.int .i64 t.bits), .t (.int .i64 t.len)]
theorem SlT.grow {sg sg' : Sg} {v : PV} {ts : List Ty} (h : SlT sg v ts) (hg : Grow sg sg') : SlT sg' v ts := by
  rcases h with h | ⟨a, cs, h1, h2, h3⟩
  · exact .inl h
  · exact .inr ⟨a, cs, h1, hg.get h2, h3⟩
theorem SlT.len {sg : Sg} {v : PV} {ts : List Ty} (h : SlT sg v ts) : lenP false v = some ts.length := by
  rcases h with ⟨rfl, k, rfl⟩ | ⟨a, cs, rfl, _⟩
  · rfl
  · rfl
theorem i64_succ {i n : Nat} (h : i < n) (hn : n ≤ 281474976710656) : IntKind.wrap .i64 ((i : Int) + 1) = ((i + 1 : Nat) : Int) := by rw [IntWalk.i64_in _ (by omega)]; omega
end Go.Ky

/- KX 8: the checker's store. -/
namespace Go.Ky
open Go.Pi Go.Lx
theorem grow_of {sg sg' : Sg} (h : ∀ i : Nat, i < sg.length → sg'[i]? = sg[i]?) : Grow sg sg' := by
  refine ⟨sg'.drop sg.length, ?_⟩
  apply List.ext_getElem?
  intro i
  rcases Nat.lt_or_ge i sg.length with hi | hi
  · rw [List.getElem?_append_left hi, h i hi]
  · rw [List.getElem?_append_right hi, List.getElem?_drop]
    congr 1
    omega
theorem Fr.grow {b : Nat} {sg sg0 sg' : Sg} (hg : Grow sg sg0) (h : Fr b sg0 sg') (hb : sg.length ≤ b) : Grow sg sg' := by
  refine grow_of fun i hi => ?_
  rw [h.2 i (Nat.lt_of_lt_of_le hi hg.len) (by omega)]
  obtain ⟨r, rfl⟩ := hg
  exact List.getElem?_append_left hi
theorem set_same {sg : Sg} {i : Nat} {x : Bool × List PV} (h : sg[i]? = some x) : sg.set i x = sg := by
  apply List.ext_getElem?
  intro j
  by_cases hj : i = j
  · subst hj
    rw [List.getElem?_set_self (lt_of_get h), h]
  · rw [List.getElem?_set_ne hj]
structure Ck (sg : Sg) (c f n : Nat) (fs : Fs) (ns : Ns) (od : PV) (w : Int) : Prop where
  c : sg[c]? = some (false, [.mp f, .mp n, od, .t (.int .i64 w)])
  f : sg[f]? = some (true, ents (fun x => .agg (tFu x)) fs)
  n : sg[n]? = some (true, ents (fun x => .agg (tSy x)) ns)
theorem Ck.fc {sg : Sg} {c f n : Nat} {fs : Fs} {ns : Ns} {od : PV} {w : Int} (h : Ck sg c f n fs ns od w) : f ≠ c := fun e => by
  have h1 := h.c
  have h2 := h.f
  rw [e, h1] at h2
  injection h2 with h2
  injection h2 with h2 _
  cases h2
theorem Ck.nc {sg : Sg} {c f n : Nat} {fs : Fs} {ns : Ns} {od : PV} {w : Int} (h : Ck sg c f n fs ns od w) : n ≠ c := fun e => by
  have h1 := h.c
  have h2 := h.n
  rw [e, h1] at h2
  injection h2 with h2
  injection h2 with h2 _
  cases h2
theorem Ck.grow {sg sg' : Sg} {c f n : Nat} {fs : Fs} {ns : Ns} {od : PV} {w : Int} (h : Ck sg c f n fs ns od w) (hg : Grow sg sg') : Ck sg' c f n fs ns od w := ⟨hg.get h.c, hg.get h.f, hg.get h.n⟩
theorem Ck.fr {sg sg' : Sg} {c f n : Nat} {fs : Fs} {ns : Ns} {od : PV} {w w' : Int} (h : Ck sg c f n fs ns od w) (hr : Fr c sg sg') (hc : sg'[c]? = some (false, [.mp f, .mp n, od, .t (.int .i64 w')])) : Ck sg' c f n fs ns od w' := ⟨hc, hr.get h.f h.fc, hr.get h.n h.nc⟩
theorem app_get {sg : Sg} {c : Nat} (h : c < sg.length) (r : Sg) : (sg ++ r)[c]? = sg[c]? := List.getElem?_append_left h
theorem app_set {sg : Sg} {c : Nat} (h : c < sg.length) (r : Sg) (x : Bool × List PV) : (sg ++ r).set c x = sg.set c x ++ r := List.set_append_left _ _ h
theorem gs0 {sg r : Sg} {c : Nat} {x : Bool × List PV} : (sg.set c x ++ r)[sg.length]? = r[0]? := by
  have := @get_app0 _ (sg.set c x) r
  rw [List.length_set] at this
  exact this
theorem gsk {sg r : Sg} {c k : Nat} {x : Bool × List PV} : (sg.set c x ++ r)[sg.length + k]? = r[k]? := by
  have := @get_app _ (sg.set c x) r k
  rw [List.length_set] at this
  exact this
theorem ss0 {sg r : Sg} {c : Nat} {x y : Bool × List PV} : (sg.set c x ++ r).set sg.length y = sg.set c x ++ r.set 0 y := by
  have := @set_app0 _ (sg.set c x) r y
  rw [List.length_set] at this
  exact this
theorem ssk {sg r : Sg} {c k : Nat} {x y : Bool × List PV} : (sg.set c x ++ r).set (sg.length + k) y = sg.set c x ++ r.set k y := by
  have := @set_app _ (sg.set c x) r y k
  rw [List.length_set] at this
  exact this
theorem gsc {sg r : Sg} {c : Nat} {x : Bool × List PV} (h : c < sg.length) : (sg.set c x ++ r)[c]? = some x := by
  rw [List.getElem?_append_left (by simpa using h), List.getElem?_set_self h]
theorem Fr.setapp (c : Nat) (sg : Sg) (x : Bool × List PV) (r : Sg) : Fr c sg (sg.set c x ++ r) := by
  refine ⟨by simp, fun i hi hc => ?_⟩
  rw [List.getElem?_append_left (by simpa using hi), List.getElem?_set_ne (fun e => hc e.symm)]
theorem Fr.app {c : Nat} {sg sg' : Sg} (h : Fr c sg sg') (r : Sg) : Fr c sg (sg' ++ r) := h.trans (Fr.of (.app _ _))
end Go.Ky

/- KX 9: what a region keeps; three cells of a row. -/
namespace Go.Ky
open Go.Pi Go.Lx
noncomputable def keep1 (a b : Option (Bool × List PV)) : Option Unit := @ite _ (a = b) (Classical.propDecidable _) (some ()) none
theorem keep1_self (a : Option (Bool × List PV)) : keep1 a a = some () := by unfold keep1; simp
noncomputable def keepP (sg sg' : Sg) : PV → Option Unit
  | .lp id _ => keep1 sg'[id]? sg[id]?
  | _ => none
theorem keepsV_nil {fr : List PV} {sg sg' : Sg} : keepsV fr [] sg sg' = some () := keepsV_of (fun k h => by cases h)
theorem keepsV_cons {fr : List PV} {k : Nat} {ks : List Nat} {sg sg' : Sg} : keepsV fr (k :: ks) sg sg' = (keepP sg sg' (fget fr k)).bind fun _ => keepsV fr ks sg sg' := by
  by_cases h : keeps fr (k :: ks) sg sg'
  · rw [keepsV_of h]
    obtain ⟨id, off, h1, h2⟩ := h k (by simp)
    rw [h1]
    simp only [keepP, h2, keep1_self, Option.bind_some]
    rw [keepsV_of (fun j hj => h j (by simp [hj]))]
  · have hn : keepsV fr (k :: ks) sg sg' = none := by
      unfold keepsV
      rw [if_neg (fun e => h (keepsB_iff.1 e))]
    rw [hn]
    cases hk : keepP sg sg' (fget fr k) with
    | none => rfl
    | some u =>
      simp only [Option.bind_some]
      by_cases h2 : keeps fr ks sg sg'
      · exfalso
        apply h
        intro j hj
        rcases List.mem_cons.1 hj with e | e
        · subst e
          cases hv : fget fr j <;> rw [hv] at hk <;> simp only [keepP, reduceCtorEq] at hk
          rename_i id off
          refine ⟨id, off, rfl, ?_⟩
          unfold keep1 at hk
          by_cases he : sg'[id]? = sg[id]?
          · exact he
          · simp [he] at hk
        · exact h2 j e
      · unfold keepsV
        rw [if_neg (fun e => h2 (keepsB_iff.1 e))]
def Fr2 (c a : Nat) (sg sg' : Sg) : Prop := sg.length ≤ sg'.length ∧ ∀ i, i < sg.length → i ≠ c → i ≠ a → sg'[i]? = sg[i]?
theorem Fr2.refl (c a : Nat) (sg : Sg) : Fr2 c a sg sg := ⟨Nat.le_refl _, fun _ _ _ _ => rfl⟩
theorem Fr2.trans {c a : Nat} {x y z : Sg} (h : Fr2 c a x y) (h' : Fr2 c a y z) : Fr2 c a x z :=
  ⟨Nat.le_trans h.1 h'.1, fun i hi hc ha => (h'.2 i (Nat.lt_of_lt_of_le hi h.1) hc ha).trans (h.2 i hi hc ha)⟩
theorem Fr2.of {c a : Nat} {x y : Sg} (h : Fr c x y) : Fr2 c a x y := ⟨h.1, fun i hi hc _ => h.2 i hi hc⟩
theorem Fr2.get {c a : Nat} {x y : Sg} (h : Fr2 c a x y) {i : Nat} {v : Bool × List PV} (hi : x[i]? = some v) (hc : i ≠ c) (ha : i ≠ a) : y[i]? = some v := by
  rw [h.2 i (lt_of_get hi) hc ha]; exact hi
theorem Fr2.set {c a : Nat} {x y : Sg} (h : Fr2 c a x y) (v : Bool × List PV) : Fr2 c a x (y.set a v) := by
  refine ⟨by simpa using h.1, fun i hi hc ha => ?_⟩
  rw [List.getElem?_set_ne (fun e => ha e.symm)]
  exact h.2 i hi hc ha
theorem Fr2.fr {c a : Nat} {sg x y : Sg} (hg : Fr c sg x) (h : Fr2 c a x y) (ha : sg.length ≤ a) : Fr c sg y :=
  ⟨Nat.le_trans hg.1 h.1, fun i hi hc => (h.2 i (Nat.lt_of_lt_of_le hi hg.1) hc (by omega)).trans (hg.2 i hi hc)⟩
end Go.Ky

/- KX 30: the parser in plain words. No program in sight. -/
namespace Go.Ky
open Go.Pi Go.Lx
structure Ps where
  ts : List Tok
  err : Int
  pos : Int
  deep : Bool
  dat : Int
def tok0 : Tok := ⟨0, [], 0, 0⟩
def Ps.hd (s : Ps) : Tok := s.ts.headD tok0
def lastL (l : List Tok) : List Tok := l.drop (l.length - 1)
def failM (e : Int) (s : Ps) : Ps := ⟨lastL s.ts, if s.err = 0 then e else s.err, if s.err = 0 then (s.hd.pos : Int) else s.pos, s.deep, s.dat⟩
def takeM (s : Ps) : Ps := { s with ts := if 1 < s.ts.length then s.ts.drop 1 else s.ts }
def atM (t : Nm) (s : Ps) : Bool := decide (s.hd.kind ≠ 0) && decide (s.hd.text = t)
def accM (t : Nm) (s : Ps) : Ps := if atM t s then takeM s else s
def expM (t : Nm) (s : Ps) : Ps := if atM t s then takeM s else failM 2 s
def nameM (s : Ps) : Nm × Ps := if s.hd.kind ≠ 1 then ([], failM 2 s) else (s.hd.text, takeM s)
def numM (lo hi : Nat) (s : Ps) : Int × Ps := if s.hd.kind ≠ 3 ∨ s.hd.val < lo then (0, failM 2 s) else if hi < s.hd.val then (0, failM 3 s) else (IntKind.i64.wrap (s.hd.val : Int), takeM s)
def depM (pos : Int) (b : Bool) (s : Ps) : Ps := if b && !s.deep then { s with deep := true, dat := pos } else s
def ops : Nat → List (Nm × Int)
  | 0 => [([111, 114], 19)]
  | 1 => [([97, 110, 100], 18)]
  | 2 => [([61, 61], 14), ([33, 61], 15), ([60], 16), ([60, 61], 17)]
  | 3 => [([43], 12), ([45], 13)]
  | 4 => [([42], 11)]
  | _ => []
def opGo (s : Ps) : List (Nm × Int) → Option Int
  | [] => none
  | (t, o) :: r => if atM t s then some o else opGo s r
def opL (lv : Nat) (s : Ps) : Option Int := opGo s (ops lv)
def nod (op : Int) (l : List Exp) : Exp := .mk op 0 [] l.isEmpty l
def zEx : Exp := .mk 0 0 [] true []
mutual
def exprM : Nat → Ps → Exp × Ps
  | 0, s => (zEx, s)
  | n + 1, s =>
    if atM [63] (binM n 0 s).2 then
      (nod 20 [(binM n 0 s).1, (exprM n (takeM (binM n 0 s).2)).1, (exprM n (expM [58] (exprM n (takeM (binM n 0 s).2)).2)).1], (exprM n (expM [58] (exprM n (takeM (binM n 0 s).2)).2)).2)
    else binM n 0 s
def binM : Nat → Nat → Ps → Exp × Ps
  | 0, _, s => (zEx, s)
  | n + 1, lv, s => if lv = 5 then unM n s else binL n lv (binM n (lv + 1) s).1 (binM n (lv + 1) s).2
def binL : Nat → Nat → Exp → Ps → Exp × Ps
  | 0, _, e, s => (e, s)
  | n + 1, lv, e, s => match opL lv s with
    | none => (e, s)
    | some o => if lv = 2 then (nod o [e, (binM n (lv + 1) (takeM s)).1], (binM n (lv + 1) (takeM s)).2)
      else binL n lv (nod o [e, (binM n (lv + 1) (takeM s)).1]) (binM n (lv + 1) (takeM s)).2
def unM : Nat → Ps → Exp × Ps
  | 0, s => (zEx, s)
  | n + 1, s =>
    if atM [45] s then (nod 9 [(unM n (takeM s)).1], (unM n (takeM s)).2)
    else if atM [110, 111, 116] s then (nod 10 [(unM n (takeM s)).1], (unM n (takeM s)).2)
    else idxL n (priM n s).1 (priM n s).2
def idxL : Nat → Exp → Ps → Exp × Ps
  | 0, e, s => (e, s)
  | n + 1, e, s => if atM [91] s then idxL n (nod 8 [e, (exprM n (takeM s)).1]) (expM [93] (exprM n (takeM s)).2) else (e, s)
def priM : Nat → Ps → Exp × Ps
  | 0, s => (zEx, s)
  | n + 1, s =>
    if s.hd.kind = 3 then (.mk 1 s.hd.val [] true [], takeM s)
    else if s.hd.kind = 1 then
      (if atM [40] (takeM s) then (.mk 5 0 s.hd.text (argM n (takeM (takeM s))).1.isEmpty (argM n (takeM (takeM s))).1, (argM n (takeM (takeM s))).2) else (.mk 2 0 s.hd.text true [], takeM s))
    else if atM [116, 114, 117, 101] s then (nod 3 [], takeM s)
    else if atM [102, 97, 108, 115, 101] s then (nod 4 [], takeM s)
    else if atM [104, 97, 115, 104] s then hashM n (takeM s)
    else if atM [91] s then (nod 7 (lisM n (takeM s)).1, expM [93] (lisM n (takeM s)).2)
    else if atM [40] s then ((exprM n (takeM s)).1, expM [41] (exprM n (takeM s)).2)
    else (zEx, failM 2 s)
def argM : Nat → Ps → List Exp × Ps
  | 0, s => ([], s)
  | n + 1, s => if atM [41] s then ([], takeM s) else ((lisM n s).1, expM [41] (lisM n s).2)
def hashM : Nat → Ps → Exp × Ps
  | 0, s => (zEx, s)
  | n + 1, s =>
    if (expM [40] s).hd.kind ≠ 3 then (zEx, failM 2 (expM [40] s))
    else (.mk 6 (expM [40] s).hd.val [] (lisM n (expM [59] (takeM (expM [40] s)))).1.isEmpty (lisM n (expM [59] (takeM (expM [40] s)))).1, expM [41] (lisM n (expM [59] (takeM (expM [40] s)))).2)
def lisM : Nat → Ps → List Exp × Ps
  | 0, s => ([], s)
  | n + 1, s => lisL n [(exprM n s).1] (exprM n s).2
def lisL : Nat → List Exp → Ps → List Exp × Ps
  | 0, l, s => (l, s)
  | n + 1, l, s => if atM [44] s then lisL n (l ++ [(exprM n (takeM s)).1]) (exprM n (takeM s)).2 else (l, s)
end
def tyKM (s : Ps) : Ty × Ps :=
  if atM [102, 105, 101, 108, 100] s then (⟨1, 0, 0⟩, takeM s)
  else if atM [98, 111, 111, 108] s then (⟨2, 0, 0⟩, takeM s)
  else if atM [117, 105, 110, 116] s then (⟨3, (numM 1 62 (takeM s)).1, 0⟩, (numM 1 62 (takeM s)).2)
  else (⟨0, 0, 0⟩, failM 2 s)
def tyM (s : Ps) : Ty × Ps :=
  if atM [91] (tyKM s).2 then (⟨(tyKM s).1.kind, (tyKM s).1.bits, (numM 1 64 (takeM (tyKM s).2)).1⟩, expM [93] (numM 1 64 (takeM (tyKM s).2)).2)
  else tyKM s
def parM (s : Ps) : Pa × Ps := (⟨(nameM s).1, (tyM (expM [58] (nameM s).2)).1⟩, (tyM (expM [58] (nameM s).2)).2)
def atS (s : Ps) : Bool := atM [108, 101, 116] s || (atM [97, 115, 115, 101, 114, 116] s || atM [102, 111, 114] s)
def deepS (x : St) : Bool := decide (validP ⟨true, [], true, [], false, [x]⟩ = 3)
def letM (n : Nat) (s : Ps) : St × Ps :=
  let a := nameM s
  let ty := if atM [58] a.2 then tyM (takeM a.2) else (zTy, a.2)
  let e := exprM n (expM [61] ty.2)
  (.mk 1 a.1 (atM [58] a.2) ty.1 e.1 0 0 true [], expM [59] e.2)
def asrM (n : Nat) (s : Ps) : St × Ps :=
  let e := exprM n s
  (.mk 2 [] false zTy e.1 0 0 true [], expM [59] e.2)
mutual
def stmM : Nat → Ps → St × Ps
  | 0, s => (.mk 0 [] false zTy zEx 0 0 true [], s)
  | n + 1, s =>
    if s.hd.text = [108, 101, 116] then letM n (takeM s)
    else if s.hd.text = [97, 115, 115, 101, 114, 116] then asrM n (takeM s)
    else if s.hd.text = [102, 111, 114] then
      (let a := nameM (takeM s)
       let lo := numM 0 1000000 (expM [105, 110] a.2)
       let hi := numM 0 1000000 (expM [46, 46] lo.2)
       let b := bodM n false [] (expM [123] hi.2)
       (.mk 3 a.1 false zTy zEx lo.1 hi.1 b.1.isEmpty b.1, expM [125] b.2))
    else (.mk 0 [] false zTy zEx 0 0 true [], takeM s)
def bodM : Nat → Bool → List St → Ps → List St × Ps
  | 0, _, l, s => (l, s)
  | n + 1, o, l, s =>
    if atS s then bodM n o (l ++ [(stmM n s).1]) (if o then depM s.hd.pos (deepS (stmM n s).1) (stmM n s).2 else (stmM n s).2)
    else (l, s)
end
def parL : Nat → List Pa → Ps → List Pa × Ps
  | 0, l, s => (l, s)
  | n + 1, l, s => if atM [44] s then parL n (l ++ [(parM (takeM s)).1]) (parM (takeM s)).2 else (l, s)
def parsPM (n : Nat) (s : Ps) : List Pa × Ps := if atM [41] s then ([], s) else parL n [(parM s).1] (parM s).2
def fnM (n : Nat) (s : Ps) : Fu × Ps :=
  let a := nameM (expM [102, 110] s)
  let ps := parsPM n (expM [40] a.2)
  let ty := tyM (expM [58] (expM [41] ps.2))
  let b := bodM n true [] (expM [123] ty.2)
  let e := exprM n (expM [114, 101, 116, 117, 114, 110] b.2)
  (⟨a.1, ps.1.isEmpty, ps.1, ty.1, b.1.isEmpty, b.1, e.1⟩, expM [125] (expM [59] (depM b.2.hd.pos (decide ((dEx e.1 : Int) > 40)) e.2)))
def declM' (s : Ps) : De × Ps :=
  let a := nameM (takeM s)
  let ty := tyM (expM [58] a.2)
  (⟨decide (s.hd.text = [112, 117, 98, 108, 105, 99]), a.1, ty.1⟩, expM [59] ty.2)
def fnsM : Nat → List Fu → Ps → List Fu × Ps
  | 0, l, s => (l, s)
  | n + 1, l, s => if atM [102, 110] s then fnsM n (l ++ [(fnM n s).1]) (fnM n s).2 else (l, s)
def decsM : Nat → List De → Ps → List De × Ps
  | 0, l, s => (l, s)
  | n + 1, l, s => if atM [112, 117, 98, 108, 105, 99] s || atM [115, 101, 99, 114, 101, 116] s then decsM n (l ++ [(declM' s).1]) (declM' s).2 else (l, s)
def endM (s : Ps) : Ps := if s.hd.kind ≠ 0 then failM 2 s else s
def resM (stop stopAt : Int) (s : Ps) : Int × Int :=
  if s.err ≠ 0 ∧ (stop = 0 ∨ s.pos < stopAt) then (s.pos, s.err) else if stop ≠ 0 then (stopAt, stop) else if s.deep then (s.dat, 3) else (0, 0)
def prgM (n : Nat) (s : Ps) : Pg × Ps :=
  let f := fnsM n [] s
  let d := decsM n [] f.2
  let b := bodM n true [] d.2
  (⟨f.1.isEmpty, f.1, d.1.isEmpty, d.1, b.1.isEmpty, b.1⟩, endM b.2)
def st0 (l : List Tok) : Ps := ⟨l, 0, 0, false, 0⟩
end Go.Ky

/- KX 31: the parser's states: tokens left, sizes of what is read. -/
set_option linter.unusedSimpArgs false
set_option linter.unusedVariables false
namespace Go.Ky
open Go.Pi Go.Lx
structure WfT (l : List Tok) : Prop where
  ne : l ≠ []
  last : ∀ t, l.getLast? = some t → t.kind = 0
  mid : ∀ t, t ∈ l.dropLast → t.kind ≠ 0
  nam : ∀ t, t ∈ l → t.kind = 1 → t.text.length ≤ 24
theorem WfT.len {l : List Tok} (h : WfT l) : 1 ≤ l.length := by
  cases l with
  | nil => exact absurd rfl h.ne
  | cons a r => simp
theorem WfT.two {l : List Tok} (h : WfT l) (h0 : (l.headD tok0).kind ≠ 0) : 2 ≤ l.length := by
  match l, h with
  | [], h => exact absurd rfl h.ne
  | [a], h => exact absurd (h.last a rfl) h0
  | a :: b :: r, _ => simp
theorem WfT.drop {l : List Tok} (h : WfT l) {k : Nat} (hk : k < l.length) : WfT (l.drop k) := by
  refine ⟨fun e => ?_, fun t ht => ?_, fun t ht => ?_, fun t ht => h.nam t (List.mem_of_mem_drop ht)⟩
  · have := congrArg List.length e
    rw [List.length_drop] at this
    simp at this; omega
  · rw [List.getLast?_drop] at ht
    split at ht
    · cases ht
    · exact h.last t ht
  · refine h.mid t ?_
    have e : (l.drop k).dropLast = l.dropLast.drop k := by
      rw [List.dropLast_eq_take, List.dropLast_eq_take, List.length_drop, List.drop_take]
      congr 1; omega
    rw [e] at ht
    exact List.mem_of_mem_drop ht
def Suf (s s' : Ps) : Prop := ∃ k, k < s.ts.length ∧ s'.ts = s.ts.drop k
theorem Suf.refl {s : Ps} (h : WfT s.ts) : Suf s s := ⟨0, h.len, by simp⟩
theorem Suf.trans {a b c : Ps} (h : Suf a b) (h' : Suf b c) : Suf a c := by
  obtain ⟨k, hk, e⟩ := h
  obtain ⟨j, hj, e'⟩ := h'
  rw [e, List.length_drop] at hj
  refine ⟨k + j, by omega, by rw [e', e, List.drop_drop]⟩
theorem Suf.wf {a b : Ps} (h : Suf a b) (hw : WfT a.ts) : WfT b.ts := by
  obtain ⟨k, hk, e⟩ := h
  rw [e]; exact hw.drop hk
theorem Suf.le {a b : Ps} (h : Suf a b) : b.ts.length ≤ a.ts.length := by
  obtain ⟨k, hk, e⟩ := h
  rw [e, List.length_drop]; omega
theorem suf_fail {s : Ps} (h : WfT s.ts) (e : Int) : Suf s (failM e s) := ⟨s.ts.length - 1, by have := h.len; omega, rfl⟩
theorem suf_take {s : Ps} (h : WfT s.ts) : Suf s (takeM s) := by
  unfold takeM
  by_cases h1 : 1 < s.ts.length
  · exact ⟨1, h1, by simp only [if_pos h1]⟩
  · exact ⟨0, h.len, by simp only [if_neg h1, List.drop_zero]⟩
theorem at_kind {t : Nm} {s : Ps} (h : atM t s = true) : s.hd.kind ≠ 0 := by
  unfold atM at h
  simp only [Bool.and_eq_true, decide_eq_true_eq] at h
  exact h.1
theorem take_len {s : Ps} (h : WfT s.ts) (h0 : s.hd.kind ≠ 0) : (takeM s).ts.length + 1 = s.ts.length := by
  have := h.two h0
  unfold takeM
  simp only
  rw [if_pos (by omega), List.length_drop]; omega
theorem suf_exp {s : Ps} (h : WfT s.ts) (t : Nm) : Suf s (expM t s) := by
  unfold expM
  split
  · exact suf_take h
  · exact suf_fail h 2
theorem suf_name {s : Ps} (h : WfT s.ts) : Suf s (nameM s).2 := by
  unfold nameM
  split
  · exact suf_fail h 2
  · exact suf_take h
theorem suf_num {s : Ps} (h : WfT s.ts) (lo hi : Nat) : Suf s (numM lo hi s).2 := by
  unfold numM
  split
  · exact suf_fail h 2
  · split
    · exact suf_fail h 3
    · exact suf_take h
theorem dep_ts (pos : Int) (b : Bool) (s : Ps) : (depM pos b s).ts = s.ts := by
  unfold depM
  split <;> rfl
theorem suf_dep {s : Ps} (h : WfT s.ts) (pos : Int) (b : Bool) : Suf s (depM pos b s) := ⟨0, h.len, by rw [dep_ts, List.drop_zero]⟩
theorem suf_tyK {s : Ps} (h : WfT s.ts) : Suf s (tyKM s).2 := by
  unfold tyKM
  repeat' split
  · exact suf_take h
  · exact suf_take h
  · exact (suf_take h).trans (suf_num ((suf_take h).wf h) _ _)
  · exact suf_fail h 2
theorem suf_ty {s : Ps} (h : WfT s.ts) : Suf s (tyM s).2 := by
  have h1 := suf_tyK h
  have w1 := h1.wf h
  unfold tyM
  split
  · have h2 := suf_take w1
    have w2 := h2.wf w1
    have h3 := suf_num w2 1 64
    exact ((h1.trans h2).trans h3).trans (suf_exp (h3.wf w2) _)
  · exact h1
theorem suf_par {s : Ps} (h : WfT s.ts) : Suf s (parM s).2 := by
  have h1 := suf_name h
  have w1 := h1.wf h
  have h2 := suf_exp w1 [58]
  exact (h1.trans h2).trans (suf_ty (h2.wf w1))
structure Rd (s : Ps) (z c : Nat) (s' : Ps) : Prop where
  suf : Suf s s'
  sz : z + 64 * s'.ts.length ≤ 64 * s.ts.length + c
theorem nod_sz (o : Int) (l : List Exp) : szE (nod o l) = 4 + szEs l := by
  unfold nod
  rw [szE_eq]; simp [Exp.name, Exp.args]
theorem szEs_app (a b : List Exp) : szEs (a ++ b) = szEs a + szEs b := by
  induction a with
  | nil => rw [List.nil_append]; show _ = 0 + _; omega
  | cons x r ih => rw [List.cons_append, szEs_cons, szEs_cons, ih]; omega
theorem szEs_one (a : Exp) : szEs [a] = szE a := by rw [szEs_cons]; show _ + 0 = _; omega
theorem szEs_two (a b : Exp) : szEs [a, b] = szE a + szE b := by rw [szEs_cons, szEs_one]
theorem szEs_three (a b c : Exp) : szEs [a, b, c] = szE a + szE b + szE c := by rw [szEs_cons, szEs_two]; omega
theorem zEx_sz : szE zEx = 4 := by rw [szE_eq]; rfl
theorem opGo_at {s : Ps} : ∀ {l : List (Nm × Int)} {o : Int}, opGo s l = some o → s.hd.kind ≠ 0
  | [], _, h => by cases h
  | (t, o) :: r, _, h => by
    rw [opGo] at h
    split at h
    · rename_i ha; exact at_kind ha
    · exact opGo_at h
structure RdAll (n : Nat) : Prop where
  ex : ∀ s, WfT s.ts → Rd s (szE (exprM n s).1) 4 (exprM n s).2
  bi : ∀ lv s, WfT s.ts → Rd s (szE (binM n lv s).1) 4 (binM n lv s).2
  bl : ∀ lv e s, WfT s.ts → Rd s (szE (binL n lv e s).1) (szE e) (binL n lv e s).2
  un : ∀ s, WfT s.ts → Rd s (szE (unM n s).1) 4 (unM n s).2
  il : ∀ e s, WfT s.ts → Rd s (szE (idxL n e s).1) (szE e) (idxL n e s).2
  pr : ∀ s, WfT s.ts → Rd s (szE (priM n s).1) 4 (priM n s).2
  ar : ∀ s, WfT s.ts → Rd s (szEs (argM n s).1) 4 (argM n s).2
  ha : ∀ s, WfT s.ts → Rd s (szE (hashM n s).1) 12 (hashM n s).2
  li : ∀ s, WfT s.ts → Rd s (szEs (lisM n s).1) 4 (lisM n s).2
  ll : ∀ l s, WfT s.ts → Rd s (szEs (lisL n l s).1) (szEs l) (lisL n l s).2
theorem rd_zero : RdAll 0 := by
  have z := zEx_sz
  constructor
  · intro s h; rw [exprM]; exact ⟨.refl h, by simp only; omega⟩
  · intro lv s h; rw [binM]; exact ⟨.refl h, by simp only; omega⟩
  · intro lv e s h; rw [binL]; exact ⟨.refl h, by simp only; omega⟩
  · intro s h; rw [unM]; exact ⟨.refl h, by simp only; omega⟩
  · intro e s h; rw [idxL]; exact ⟨.refl h, by simp only; omega⟩
  · intro s h; rw [priM]; exact ⟨.refl h, by simp only; omega⟩
  · intro s h; rw [argM]; exact ⟨.refl h, by show 0 + 64 * s.ts.length ≤ _; omega⟩
  · intro s h; rw [hashM]; exact ⟨.refl h, by simp only; omega⟩
  · intro s h; rw [lisM]; exact ⟨.refl h, by show 0 + 64 * s.ts.length ≤ _; omega⟩
  · intro l s h; rw [lisL]; exact ⟨.refl h, by simp only; omega⟩
theorem rd_succ {n : Nat} (ih : RdAll n) : RdAll (n + 1) := by
  have z := zEx_sz
  constructor
  · intro s h
    rw [exprM]
    have h1 := ih.bi 0 s h
    have w1 := h1.suf.wf h
    split
    · rename_i ha
      have h2 := suf_take w1
      have l2 := take_len w1 (at_kind ha)
      have w2 := h2.wf w1
      have h3 := ih.ex _ w2
      have w3 := h3.suf.wf w2
      have h4 := suf_exp w3 [58]
      have w4 := h4.wf w3
      have h5 := ih.ex _ w4
      refine ⟨((h1.suf.trans h2).trans (h3.suf.trans h4)).trans h5.suf, ?_⟩
      have a1 := h1.sz
      have a3 := h3.sz
      have a4 := h4.le
      have a5 := h5.sz
      simp only [nod_sz, szEs_three]
      omega
    · exact h1
  · intro lv s h
    rw [binM]
    split
    · exact ih.un s h
    · have h1 := ih.bi (lv + 1) s h
      have h2 := ih.bl lv (binM n (lv + 1) s).1 _ (h1.suf.wf h)
      refine ⟨h1.suf.trans h2.suf, ?_⟩
      have a1 := h1.sz
      have a2 := h2.sz
      omega
  · intro lv e s h
    rw [binL]
    cases ho : opL lv s with
    | none => exact ⟨.refl h, by simp only; omega⟩
    | some o =>
      have h2 := suf_take h
      have l2 := take_len h (opGo_at ho)
      have w2 := h2.wf h
      have h3 := ih.bi (lv + 1) _ w2
      have w3 := h3.suf.wf w2
      have a3 := h3.sz
      simp only
      split
      · refine ⟨h2.trans h3.suf, ?_⟩
        simp only [nod_sz, szEs_two]
        omega
      · have h4 := ih.bl lv (nod o [e, (binM n (lv + 1) (takeM s)).1]) _ w3
        refine ⟨(h2.trans h3.suf).trans h4.suf, ?_⟩
        have a4 := h4.sz
        rw [nod_sz, szEs_two] at a4
        omega
  · intro s h
    rw [unM]
    split
    · rename_i ha
      have h2 := suf_take h
      have l2 := take_len h (at_kind ha)
      have h3 := ih.un _ (h2.wf h)
      refine ⟨h2.trans h3.suf, ?_⟩
      have a3 := h3.sz
      simp only [nod_sz, szEs_one]
      omega
    · split
      · rename_i ha
        have h2 := suf_take h
        have l2 := take_len h (at_kind ha)
        have h3 := ih.un _ (h2.wf h)
        refine ⟨h2.trans h3.suf, ?_⟩
        have a3 := h3.sz
        simp only [nod_sz, szEs_one]
        omega
      · have h1 := ih.pr s h
        have h2 := ih.il (priM n s).1 _ (h1.suf.wf h)
        refine ⟨h1.suf.trans h2.suf, ?_⟩
        have a1 := h1.sz
        have a2 := h2.sz
        omega
  · intro e s h
    rw [idxL]
    split
    · rename_i ha
      have h2 := suf_take h
      have l2 := take_len h (at_kind ha)
      have w2 := h2.wf h
      have h3 := ih.ex _ w2
      have w3 := h3.suf.wf w2
      have h4 := suf_exp w3 [93]
      have h5 := ih.il (nod 8 [e, (exprM n (takeM s)).1]) _ (h4.wf w3)
      refine ⟨((h2.trans h3.suf).trans h4).trans h5.suf, ?_⟩
      have a3 := h3.sz
      have a4 := h4.le
      have a5 := h5.sz
      rw [nod_sz, szEs_two] at a5
      omega
    · exact ⟨.refl h, by simp only; omega⟩
  · intro s h
    rw [priM]
    by_cases k3 : s.hd.kind = 3
    · rw [if_pos k3]
      have l2 := take_len h (by omega)
      refine ⟨suf_take h, ?_⟩
      simp only [szE_eq, Exp.name, Exp.args, List.length_nil]
      show 4 + 0 + 0 + _ ≤ _
      omega
    rw [if_neg k3]
    by_cases k1 : s.hd.kind = 1
    · rw [if_pos k1]
      have l2 := take_len h (by omega)
      have h2 := suf_take h
      have w2 := h2.wf h
      have hn : s.hd.text.length ≤ 24 := by
        unfold Ps.hd at k1 ⊢
        match hts : s.ts, h.ne with
        | a :: r, _ =>
          rw [hts] at k1
          exact h.nam a (by rw [hts]; simp) k1
      split
      · rename_i ha
        have l3 := take_len w2 (at_kind ha)
        have h3 := suf_take w2
        have w3 := h3.wf w2
        have h4 := ih.ar _ w3
        refine ⟨(h2.trans h3).trans h4.suf, ?_⟩
        have a4 := h4.sz
        simp only [szE_eq, Exp.name, Exp.args]
        omega
      · refine ⟨h2, ?_⟩
        simp only [szE_eq, Exp.name, Exp.args]
        show 4 + _ + 0 + _ ≤ _
        omega
    rw [if_neg k1]
    split
    · rename_i ha
      have l2 := take_len h (at_kind ha)
      refine ⟨suf_take h, ?_⟩
      simp only [nod_sz]
      show 4 + 0 + _ ≤ _
      omega
    split
    · rename_i ha
      have l2 := take_len h (at_kind ha)
      refine ⟨suf_take h, ?_⟩
      simp only [nod_sz]
      show 4 + 0 + _ ≤ _
      omega
    split
    · rename_i ha
      have l2 := take_len h (at_kind ha)
      have h2 := suf_take h
      have h3 := ih.ha _ (h2.wf h)
      refine ⟨h2.trans h3.suf, ?_⟩
      have := h3.sz
      omega
    split
    · rename_i ha
      have l2 := take_len h (at_kind ha)
      have h2 := suf_take h
      have w2 := h2.wf h
      have h3 := ih.li _ w2
      have h4 := suf_exp (h3.suf.wf w2) [93]
      refine ⟨(h2.trans h3.suf).trans h4, ?_⟩
      have a3 := h3.sz
      have a4 := h4.le
      simp only [nod_sz]
      omega
    split
    · rename_i ha
      have l2 := take_len h (at_kind ha)
      have h2 := suf_take h
      have w2 := h2.wf h
      have h3 := ih.ex _ w2
      have h4 := suf_exp (h3.suf.wf w2) [41]
      refine ⟨(h2.trans h3.suf).trans h4, ?_⟩
      have a3 := h3.sz
      have a4 := h4.le
      simp only
      omega
    · have h2 := suf_fail h 2
      refine ⟨h2, ?_⟩
      have := h2.le
      simp only
      omega
  · intro s h
    rw [argM]
    split
    · have h2 := suf_take h
      refine ⟨h2, ?_⟩
      have := h2.le
      show 0 + _ ≤ _
      simp only
      omega
    · have h3 := ih.li s h
      have h4 := suf_exp (h3.suf.wf h) [41]
      refine ⟨h3.suf.trans h4, ?_⟩
      have a3 := h3.sz
      have a4 := h4.le
      simp only
      omega
  · intro s h
    rw [hashM]
    have h1 := suf_exp h [40]
    have w1 := h1.wf h
    have a1 := h1.le
    split
    · have h2 := suf_fail w1 2
      have a2 := h2.le
      refine ⟨h1.trans h2, ?_⟩
      simp only
      omega
    · have h2 := suf_take w1
      have w2 := h2.wf w1
      have a2 := h2.le
      have h3 := suf_exp w2 [59]
      have w3 := h3.wf w2
      have a3 := h3.le
      have h4 := ih.li _ w3
      have w4 := h4.suf.wf w3
      have h5 := suf_exp w4 [41]
      refine ⟨((h1.trans h2).trans (h3.trans h4.suf)).trans h5, ?_⟩
      have a4 := h4.sz
      have a5 := h5.le
      simp only [szE_eq, Exp.name, Exp.args, List.length_nil]
      omega
  · intro s h
    rw [lisM]
    have h1 := ih.ex s h
    have h2 := ih.ll [(exprM n s).1] _ (h1.suf.wf h)
    refine ⟨h1.suf.trans h2.suf, ?_⟩
    have a1 := h1.sz
    have a2 := h2.sz
    rw [szEs_one] at a2
    omega
  · intro l s h
    rw [lisL]
    split
    · rename_i ha
      have l2 := take_len h (at_kind ha)
      have h2 := suf_take h
      have w2 := h2.wf h
      have h3 := ih.ex _ w2
      have h4 := ih.ll (l ++ [(exprM n (takeM s)).1]) _ (h3.suf.wf w2)
      refine ⟨(h2.trans h3.suf).trans h4.suf, ?_⟩
      have a3 := h3.sz
      have a4 := h4.sz
      rw [szEs_app, szEs_one] at a4
      omega
    · exact ⟨.refl h, by simp only; omega⟩
theorem rd_all : ∀ n, RdAll n
  | 0 => rd_zero
  | n + 1 => rd_succ (rd_all n)
end Go.Ky

/- KX 32: the parser does not look at the places of tokens. -/
set_option linter.unusedSimpArgs false
set_option linter.unusedVariables false
namespace Go.Ky
open Go.Pi Go.Lx
structure Eqv (s s' : Ps) : Prop where
  ts : Lx.Alike s.ts s'.ts
  err : s.err = s'.err
  deep : s.deep = s'.deep
theorem alike_drop : ∀ (k : Nat) {a b : List Tok}, Lx.Alike a b → Lx.Alike (a.drop k) (b.drop k)
  | 0, a, b, h => by simpa using h
  | k + 1, [], [], _ => by simp; trivial
  | k + 1, [], _ :: _, h => by cases h
  | k + 1, _ :: _, [], h => by cases h
  | k + 1, _ :: a, _ :: b, h => by simpa using alike_drop k h.2
theorem eqv_hd {s s' : Ps} (h : Eqv s s') : like s.hd s'.hd := by
  have ht := h.ts
  unfold Ps.hd
  match ha : s.ts, hb : s'.ts, ht with
  | [], [], _ => exact ⟨rfl, rfl, rfl⟩
  | [], _ :: _, h => cases h
  | _ :: _, [], h => cases h
  | a :: _, b :: _, h => exact h.1
theorem eqv_at {s s' : Ps} (h : Eqv s s') (t : Nm) : atM t s = atM t s' := by
  obtain ⟨h1, h2, _⟩ := eqv_hd h
  unfold atM
  rw [h1, h2]
theorem eqv_take {s s' : Ps} (h : Eqv s s') : Eqv (takeM s) (takeM s') := by
  have hl := alike_len h.ts
  refine ⟨?_, h.err, h.deep⟩
  unfold takeM
  simp only [hl]
  split
  · exact alike_drop 1 h.ts
  · exact h.ts
theorem eqv_fail {s s' : Ps} (h : Eqv s s') (e : Int) : Eqv (failM e s) (failM e s') := by
  have hl := alike_len h.ts
  refine ⟨?_, ?_, h.deep⟩
  · show Lx.Alike (lastL s.ts) (lastL s'.ts)
    unfold lastL
    rw [hl]
    exact alike_drop _ h.ts
  · show (if s.err = 0 then e else s.err) = if s'.err = 0 then e else s'.err
    rw [h.err]
theorem eqv_exp {s s' : Ps} (h : Eqv s s') (t : Nm) : Eqv (expM t s) (expM t s') := by
  unfold expM
  rw [eqv_at h t]
  split
  · exact eqv_take h
  · exact eqv_fail h 2
theorem eqv_op {s s' : Ps} (h : Eqv s s') (lv : Nat) : opL lv s = opL lv s' := by
  unfold opL
  generalize ops lv = l
  induction l with
  | nil => rfl
  | cons p r ih =>
    obtain ⟨t, o⟩ := p
    rw [opGo, opGo, eqv_at h t, ih]
abbrev Sm {α : Type} (a b : α × Ps) : Prop := a.1 = b.1 ∧ Eqv a.2 b.2
structure EqAll (n : Nat) : Prop where
  ex : ∀ s s', Eqv s s' → Sm (exprM n s) (exprM n s')
  bi : ∀ lv s s', Eqv s s' → Sm (binM n lv s) (binM n lv s')
  bl : ∀ lv e s s', Eqv s s' → Sm (binL n lv e s) (binL n lv e s')
  un : ∀ s s', Eqv s s' → Sm (unM n s) (unM n s')
  il : ∀ e s s', Eqv s s' → Sm (idxL n e s) (idxL n e s')
  pr : ∀ s s', Eqv s s' → Sm (priM n s) (priM n s')
  ar : ∀ s s', Eqv s s' → Sm (argM n s) (argM n s')
  ha : ∀ s s', Eqv s s' → Sm (hashM n s) (hashM n s')
  li : ∀ s s', Eqv s s' → Sm (lisM n s) (lisM n s')
  ll : ∀ l s s', Eqv s s' → Sm (lisL n l s) (lisL n l s')
theorem eq_all : ∀ n, EqAll n := by
  intro n
  induction n with
  | zero =>
    constructor
    · intro s s' h; rw [exprM, exprM]; exact ⟨rfl, h⟩
    · intro lv s s' h; rw [binM, binM]; exact ⟨rfl, h⟩
    · intro lv e s s' h; rw [binL, binL]; exact ⟨rfl, h⟩
    · intro s s' h; rw [unM, unM]; exact ⟨rfl, h⟩
    · intro e s s' h; rw [idxL, idxL]; exact ⟨rfl, h⟩
    · intro s s' h; rw [priM, priM]; exact ⟨rfl, h⟩
    · intro s s' h; rw [argM, argM]; exact ⟨rfl, h⟩
    · intro s s' h; rw [hashM, hashM]; exact ⟨rfl, h⟩
    · intro s s' h; rw [lisM, lisM]; exact ⟨rfl, h⟩
    · intro l s s' h; rw [lisL, lisL]; exact ⟨rfl, h⟩
  | succ n ih =>
    constructor
    · intro s s' h
      obtain ⟨a1, a2⟩ := ih.bi 0 s s' h
      obtain ⟨b1, b2⟩ := ih.ex _ _ (eqv_take a2)
      obtain ⟨c1, c2⟩ := ih.ex _ _ (eqv_exp b2 [58])
      rw [exprM, exprM, eqv_at a2]
      split
      · exact ⟨by rw [a1, b1, c1], c2⟩
      · exact ⟨a1, a2⟩
    · intro lv s s' h
      rw [binM, binM]
      split
      · exact ih.un s s' h
      · obtain ⟨a1, a2⟩ := ih.bi (lv + 1) s s' h
        rw [a1]
        exact ih.bl lv _ _ _ a2
    · intro lv e s s' h
      rw [binL, binL, eqv_op h lv]
      cases opL lv s' with
      | none => exact ⟨rfl, h⟩
      | some o =>
        obtain ⟨a1, a2⟩ := ih.bi (lv + 1) _ _ (eqv_take h)
        simp only
        split
        · exact ⟨by rw [a1], a2⟩
        · rw [a1]; exact ih.bl lv _ _ _ a2
    · intro s s' h
      obtain ⟨a1, a2⟩ := ih.un _ _ (eqv_take h)
      obtain ⟨b1, b2⟩ := ih.pr _ _ h
      rw [unM, unM, eqv_at h, eqv_at h]
      split
      · exact ⟨by rw [a1], a2⟩
      · split
        · exact ⟨by rw [a1], a2⟩
        · rw [b1]; exact ih.il _ _ _ b2
    · intro e s s' h
      obtain ⟨a1, a2⟩ := ih.ex _ _ (eqv_take h)
      rw [idxL, idxL, eqv_at h]
      split
      · rw [a1]; exact ih.il _ _ _ (eqv_exp a2 _)
      · exact ⟨rfl, h⟩
    · intro s s' h
      obtain ⟨h1, h2, h3⟩ := eqv_hd h
      have ht := eqv_take h
      obtain ⟨a1, a2⟩ := ih.ar _ _ (eqv_take ht)
      obtain ⟨b1, b2⟩ := ih.li _ _ ht
      obtain ⟨c1, c2⟩ := ih.ex _ _ ht
      rw [priM, priM, h1, h2, h3, eqv_at ht, eqv_at h, eqv_at h, eqv_at h, eqv_at h, eqv_at h]
      split
      · exact ⟨rfl, ht⟩
      split
      · split
        · exact ⟨by rw [a1], a2⟩
        · exact ⟨rfl, ht⟩
      split
      · exact ⟨rfl, ht⟩
      split
      · exact ⟨rfl, ht⟩
      split
      · exact ih.ha _ _ ht
      split
      · exact ⟨by rw [b1], eqv_exp b2 _⟩
      split
      · exact ⟨c1, eqv_exp c2 _⟩
      · exact ⟨rfl, eqv_fail h 2⟩
    · intro s s' h
      obtain ⟨b1, b2⟩ := ih.li _ _ h
      rw [argM, argM, eqv_at h]
      split
      · exact ⟨rfl, eqv_take h⟩
      · exact ⟨b1, eqv_exp b2 _⟩
    · intro s s' h
      have h1 := eqv_exp h [40]
      obtain ⟨k1, k2, k3⟩ := eqv_hd h1
      obtain ⟨b1, b2⟩ := ih.li _ _ (eqv_exp (eqv_take h1) [59])
      rw [hashM, hashM, k1, k3]
      split
      · exact ⟨rfl, eqv_fail h1 2⟩
      · exact ⟨by rw [b1], eqv_exp b2 _⟩
    · intro s s' h
      obtain ⟨a1, a2⟩ := ih.ex _ _ h
      rw [lisM, lisM, a1]
      exact ih.ll _ _ _ a2
    · intro l s s' h
      obtain ⟨a1, a2⟩ := ih.ex _ _ (eqv_take h)
      rw [lisL, lisL, eqv_at h]
      split
      · rw [a1]; exact ih.ll _ _ _ a2
      · exact ⟨rfl, h⟩
theorem eqv_st0 {l l' : List Tok} (h : Lx.Alike l l') : Eqv (st0 l) (st0 l') := ⟨h, rfl, rfl⟩
end Go.Ky

/- KX 33: what the lexer hands the parser; blanks and comments between tokens. -/
set_option linter.unusedSimpArgs false
set_option linter.unusedVariables false
namespace Go.Ky
open Go.Pi Go.Lx
theorem next_kind {s : List UInt8} {k n v : Nat} (h : next s = .ok k n v) : k ≠ 0 ∧ (k = 1 → n ≤ 24) := by
  match s with
  | [] => cases h
  | c :: r =>
    rw [next] at h
    split at h
    · unfold nextW at h
      split at h
      · injection h with a b c'; subst a; exact ⟨by decide, fun h => by omega⟩
      · split at h
        · cases h
        · injection h with a b c'; subst a b; exact ⟨by decide, fun _ => by omega⟩
    · split at h
      · unfold nextD at h
        split at h
        · cases h
        · split at h
          · cases h
          · injection h with a b c'; subst a; exact ⟨by decide, fun h => by omega⟩
      · split at h
        · injection h with a b c'; subst a; exact ⟨by decide, fun h => by omega⟩
        · split at h
          · injection h with a b c'; subst a; exact ⟨by decide, fun h => by omega⟩
          · cases h
theorem wf_cons {t : Tok} {l : List Tok} (h : WfT l) (hk : t.kind ≠ 0) (hn : t.kind = 1 → t.text.length ≤ 24) : WfT (t :: l) := by
  refine ⟨by simp, fun x hx => ?_, fun x hx => ?_, fun x hx => ?_⟩
  · match l, h with
    | [], h => exact absurd rfl h.ne
    | a :: r, h => exact h.last x (by simpa [List.getLast?_cons_cons] using hx)
  · match l, h with
    | [], h => exact absurd rfl h.ne
    | a :: r, h =>
      rw [List.dropLast_cons_cons] at hx
      rcases List.mem_cons.1 hx with e | e
      · subst e; exact hk
      · exact h.mid x e
  · rcases List.mem_cons.1 hx with e | e
    · subst e; exact hn
    · exact h.nam x e
theorem wf_lex : ∀ (n : Nat) (s : List UInt8) (pos : Nat) (l : List Tok), s.length = n → lexR pos s = .toks l → WfT l := by
  intro n
  induction n using Nat.strongRecOn with
  | _ n ih =>
    intro s pos l hs h
    rcases lex_cases s with h1 | ⟨h1, ⟨e, hn⟩ | ⟨k, m, v, hn⟩⟩
    · rw [lexR_end h1] at h
      injection h with h
      subst h
      exact ⟨by simp, fun t ht => by simp at ht; subst ht; rfl, fun t ht => by simp at ht, fun t ht hk => by simp at ht; subst ht; simp⟩
    · rw [lexR_err h1 hn] at h; cases h
    · rw [lexR_ok h1 hn] at h
      have hp := next_pos hn
      cases hq : lexR (pos + gap s + m) (s.drop (gap s + m)) with
      | err p e => rw [hq] at h; cases h
      | toks q =>
        rw [hq] at h
        injection h with h
        subst h
        have := ih (s.drop (gap s + m)).length (by simp only [List.length_drop] at hp ⊢; omega) _ _ q rfl hq
        obtain ⟨k0, k1⟩ := next_kind hn
        exact wf_cons this k0 fun h1 => by have := k1 h1; simp only [List.length_take]; omega
theorem lex_cnt : ∀ (n : Nat) (s : List UInt8) (pos : Nat) (l : List Tok), s.length = n → lexR pos s = .toks l → l.length ≤ s.length + 1 := by
  intro n
  induction n using Nat.strongRecOn with
  | _ n ih =>
    intro s pos l hs h
    rcases lex_cases s with h1 | ⟨h1, ⟨e, hn⟩ | ⟨k, m, v, hn⟩⟩
    · rw [lexR_end h1] at h
      injection h with h
      subst h
      simp
    · rw [lexR_err h1 hn] at h; cases h
    · rw [lexR_ok h1 hn] at h
      have hp := next_pos hn
      cases hq : lexR (pos + gap s + m) (s.drop (gap s + m)) with
      | err p e => rw [hq] at h; cases h
      | toks q =>
        rw [hq] at h
        injection h with h
        subst h
        have := ih (s.drop (gap s + m)).length (by simp only [List.length_drop] at hp ⊢; omega) _ _ q rfl hq
        simp only [List.length_drop, List.length_cons] at this hp ⊢
        omega
def ahd (g0 : List UInt8) : List (Tok × List UInt8) → List (List UInt8 × Tok)
  | [] => []
  | (t, g) :: r => (g0, t) :: ahd g r
theorem ahd_mem : ∀ (l : List (Tok × List UInt8)) (g0 : List UInt8) (p : List UInt8 × Tok), p ∈ ahd g0 l → p.1 = g0 ∨ p.1 ∈ l.map (·.2)
  | [], _, p, h => by simp [ahd] at h
  | (t, g) :: r, g0, p, h => by
    rw [ahd] at h
    rcases List.mem_cons.1 h with e | e
    · subst e; exact .inl rfl
    · rcases ahd_mem r g p e with e | e
      · rw [e]; simp
      · right; simp only [List.map_cons, List.mem_cons]; exact .inr e
end Go.Ky

/- KX 34: a text ahead of a lexer's error has tokens; what Program hands back. -/
set_option linter.unusedSimpArgs false
set_option linter.unusedVariables false
namespace Go.Ky
open Go.Pi Go.Lx
theorem span_takeN (p : UInt8 → Bool) : ∀ (s : List UInt8) (n : Nat), span p s ≤ n → span p (s.take n) = span p s
  | [], n, _ => by simp [span]
  | c :: r, 0, h => by
    rw [span] at h
    by_cases hc : p c = true
    · rw [if_pos hc] at h; omega
    · rw [span, if_neg hc]; rfl
  | c :: r, n + 1, h => by
    rw [List.take_succ_cons, span, span]
    rw [span] at h
    by_cases hc : p c = true
    · rw [if_pos hc] at h
      rw [if_pos hc, if_pos hc, span_takeN p r n (by omega)]
    · rw [if_neg hc, if_neg hc]
theorem next_takeN {s : List UInt8} {k m v : Nat} (h : next s = .ok k m v) {n : Nat} (hn : m ≤ n) : next (s.take n) = .ok k m v := by
  have hp := next_pos h
  match s, n, h with
  | [], _, h => cases h
  | c :: r, 0, h => omega
  | c :: r, n + 1, h =>
    have ht : ∀ j, j ≤ n + 1 → ((c :: r).take (n + 1)).take j = (c :: r).take j := fun j hj => by rw [List.take_take]; congr 1; omega
    rw [next] at h
    rw [List.take_succ_cons, next, ← List.take_succ_cons]
    by_cases hl : isLet c = true
    · rw [if_pos hl] at h ⊢
      unfold nextW at h ⊢
      have hm : span isNam (c :: r) ≤ n + 1 := by
        split at h
        · injection h with _ h2 _; omega
        · split at h
          · cases h
          · injection h with _ h2 _; omega
      rw [span_takeN _ _ _ hm, ht _ hm]
      exact h
    · rw [if_neg hl] at h ⊢
      by_cases hd : isDig c = true
      · rw [if_pos hd] at h ⊢
        unfold nextD at h ⊢
        have hm : span isDig (c :: r) ≤ n + 1 := by
          split at h
          · cases h
          · split at h
            · cases h
            · injection h with _ h2 _; omega
        rw [span_takeN _ _ _ hm, ht _ hm]
        rw [List.take_succ_cons, List.head?_cons]
        rw [List.head?_cons] at h
        exact h
      · rw [if_neg hd] at h ⊢
        by_cases hpr : pairH c r = true
        · rw [if_pos hpr] at h
          injection h with h1 h2 h3
          have : pairH c (r.take n) = true := by
            match r, n, hpr with
            | [], _, hpr => cases hpr
            | d :: r', 0, _ => omega
            | d :: r', n' + 1, hpr => exact hpr
          rw [if_pos this, h1, h2, h3]
        · rw [if_neg hpr] at h
          have : ¬ pairH c (r.take n) = true := by
            match r, n, hpr with
            | [], _, _ => simp [pairH]
            | d :: r', 0, _ => simp [pairH]
            | d :: r', n' + 1, hpr => exact hpr
          rw [if_neg this]
          exact h
theorem gap_takeN : ∀ (s : List UInt8) (m : Bool) (n : Nat), gapM m s < n → gapM m (s.take n) = gapM m s
  | [], m, n, _ => by simp
  | c :: r, m, 0, h => by omega
  | c :: r, true, n + 1, h => by
    rw [gapM] at h
    rw [List.take_succ_cons, gapM, gapM, gap_takeN r _ n (by omega)]
  | c :: r, false, n + 1, h => by
    rw [gapM] at h
    rw [List.take_succ_cons, gapM, gapM]
    by_cases hb : isBlk c = true
    · rw [if_pos hb] at h
      rw [if_pos hb, if_pos hb, gap_takeN r _ n (by omega)]
    · rw [if_neg hb] at h
      rw [if_neg hb, if_neg hb]
      by_cases hc : (c == 45 && r.head? == some 45) = true
      · rw [if_pos hc] at h
        have hc2 : (c == 45 && (r.take n).head? == some 45) = true := by
          match r, n, h, hc with
          | [], _, _, hc => simp at hc
          | d :: r', 0, h, _ => omega
          | d :: r', n' + 1, _, hc => exact hc
        rw [if_pos hc, if_pos hc2, gap_takeN r _ n (by omega)]
      · rw [if_neg hc]
        have hc2 : ¬ (c == 45 && (r.take n).head? == some 45) = true := by
          match r, n, hc with
          | [], _, hc => simp
          | d :: r', 0, _ => simp
          | d :: r', n' + 1, hc => exact hc
        rw [if_neg hc2]
theorem lex_ahead : ∀ (n : Nat) (s : List UInt8) (pos p e : Nat), s.length = n → lexR pos s = .err p e → ∃ k l, p = pos + k ∧ k ≤ s.length ∧ lexR pos (s.take k) = .toks l := by
  intro n
  induction n using Nat.strongRecOn with
  | _ n ih =>
    intro s pos p e hs h
    rcases lex_cases s with h1 | ⟨h1, ⟨e', hn⟩ | ⟨k, m, v, hn⟩⟩
    · rw [lexR_end h1] at h; cases h
    · rw [lexR_err h1 hn] at h
      injection h with h2 h3
      have hg : gap (s.take (gap s)) = (s.take (gap s)).length := by
        rw [List.length_take]
        have := gap_take s false
        show gapM false _ = _
        rw [this]
        show gap s = _
        omega
      exact ⟨gap s, _, h2.symm, by omega, lexR_end hg⟩
    · rw [lexR_ok h1 hn] at h
      have hp := next_pos hn
      have hl : (s.drop (gap s + m)).length < n := by simp only [List.length_drop] at hp ⊢; omega
      cases hq : lexR (pos + gap s + m) (s.drop (gap s + m)) with
      | toks q => rw [hq] at h; cases h
      | err p' e'' =>
        rw [hq] at h
        injection h with h2 h3
        obtain ⟨k', l', e1, e2, e3⟩ := ih _ hl _ _ _ _ rfl hq
        simp only [List.length_drop] at hp e2
        refine ⟨gap s + m + k', ⟨k, (s.drop (gap s)).take m, v, pos + gap s⟩ :: l', by omega, by omega, ?_⟩
        have hlen : (s.take (gap s + m + k')).length = gap s + m + k' := by rw [List.length_take]; omega
        have hg : gap (s.take (gap s + m + k')) = gap s := gap_takeN s false _ (by show gap s < _; omega)
        have hd : (s.take (gap s + m + k')).drop (gap s) = (s.drop (gap s)).take (m + k') := by
          rw [List.drop_take]; congr 1; omega
        have hnx : next ((s.take (gap s + m + k')).drop (gap (s.take (gap s + m + k')))) = .ok k m v := by
          rw [hg, hd]; exact next_takeN hn (by omega)
        rw [lexR_ok (by rw [hg, hlen]; omega) hnx, hg, hd]
        have hd2 : (s.take (gap s + m + k')).drop (gap s + m) = (s.drop (gap s + m)).take k' := by
          rw [List.drop_take]; congr 1; omega
        rw [hd2, e3, List.take_take]
        have : min m (m + k') = m := by omega
        rw [this]; rfl
def tokP (s : List UInt8) : List Tok × Int × Int :=
  if 16384 < s.length then ([⟨0, [], 0, 0⟩], 3, 0) else match lexR 0 s with
  | .toks l => (l, 0, 0)
  | .err p e => match lexR 0 (s.take p) with
    | .toks l => (l, (e : Int), (p : Int))
    | .err _ _ => ([], 99, 0)
theorem tokP_wf (s : List UInt8) : WfT (tokP s).1 ∧ (tokP s).1.length ≤ s.length + 1 := by
  unfold tokP
  split
  · exact ⟨⟨by simp, fun t ht => by simp at ht; subst ht; rfl, fun t ht => by simp at ht, fun t ht hk => by simp at ht; subst ht; simp⟩, by simp⟩
  · cases h : lexR 0 s with
    | toks l =>
      simp only
      exact ⟨wf_lex _ _ _ _ rfl h, lex_cnt _ _ _ _ rfl h⟩
    | err p e =>
      obtain ⟨k, l, h1, h2, h3⟩ := lex_ahead _ _ _ _ _ rfl h
      rw [Nat.zero_add] at h1
      subst h1
      simp only [h3]
      have := lex_cnt _ _ _ _ rfl h3
      rw [List.length_take] at this
      exact ⟨wf_lex _ _ _ _ rfl h3, by omega⟩
def zPg : Pg := ⟨true, [], true, [], true, []⟩
def fuel (l : List Tok) : Nat := 12 * l.length + 20
theorem tokP_toks {s : List UInt8} (hs : s.length ≤ 16384) {l : List Tok} (h : lexR 0 s = .toks l) : tokP s = (l, 0, 0) := by
  unfold tokP
  rw [if_neg (by omega), h]
end Go.Ky

/- KX 35: what the parser reads is well formed. -/
set_option linter.unusedSimpArgs false
set_option linter.unusedVariables false
namespace Go.Ky
open Go.Pi Go.Lx
structure Wv (s : Ps) : Prop where
  wf : WfT s.ts
  val : ∀ t, t ∈ s.ts → t.val ≤ 18446744073709551615
  ln : s.ts.length ≤ 100000
theorem Wv.of {s s' : Ps} (h : Wv s) (hs : Suf s s') : Wv s' := by
  obtain ⟨k, hk, e⟩ := id hs
  exact ⟨hs.wf h.wf, fun t ht => h.val t (by rw [e] at ht; exact List.mem_of_mem_drop ht), Nat.le_trans hs.le h.ln⟩
theorem Wv.hd {s : Ps} (h : Wv s) : s.hd.val ≤ 18446744073709551615 := by
  unfold Ps.hd
  match hts : s.ts, h.wf.ne with
  | a :: r, _ => exact h.val a (by rw [hts]; simp)
theorem Wv.nm {s : Ps} (h : Wv s) (k1 : s.hd.kind = 1) : s.hd.text.length ≤ 24 := by
  unfold Ps.hd at k1 ⊢
  match hts : s.ts, h.wf.ne with
  | a :: r, _ =>
    rw [hts] at k1
    exact h.wf.nam a (by rw [hts]; simp) k1
theorem i64_small {n : Int} (h : 0 ≤ n) (h' : n ≤ 1000) : I64 n := ⟨by omega, by omega⟩
theorem u64_zero : U64 0 := ⟨by omega, by omega⟩
theorem ok_z : ExpOk zEx := .mk _ (i64_small (by decide) (by decide)) u64_zero (by decide) (by decide) (fun _ => rfl) (by intro a ha; cases ha)
theorem nl_of {α} {l : List α} : l.isEmpty = true → l = [] := fun h => List.isEmpty_iff.1 h
theorem ok_nod {o : Int} {l : List Exp} (ho : 0 ≤ o) (ho' : o ≤ 1000) (hl : l.length ≤ 100000000) (h : ∀ a, a ∈ l → ExpOk a) : ExpOk (nod o l) :=
  .mk _ (i64_small ho ho') u64_zero (by show 0 ≤ _; omega) (by show l.length ≤ _; unfold B47; omega) nl_of h
theorem ok_one {a : Exp} (h : ExpOk a) : ∀ x, x ∈ [a] → ExpOk x := by intro x hx; simp at hx; rw [hx]; exact h
theorem ok_two {a b : Exp} (h : ExpOk a) (h2 : ExpOk b) : ∀ x, x ∈ [a, b] → ExpOk x := by
  intro x hx; simp at hx; rcases hx with rfl | rfl <;> assumption
theorem ok_three {a b c : Exp} (h : ExpOk a) (h2 : ExpOk b) (h3 : ExpOk c) : ∀ x, x ∈ [a, b, c] → ExpOk x := by
  intro x hx; simp at hx; rcases hx with rfl | rfl | rfl <;> assumption
theorem op_small {lv : Nat} {s : Ps} {o : Int} (h : opL lv s = some o) : 0 ≤ o ∧ o ≤ 1000 := by
  unfold opL at h
  have go : ∀ (l : List (Nm × Int)), (∀ p, p ∈ l → 0 ≤ p.2 ∧ p.2 ≤ 1000) → opGo s l = some o → 0 ≤ o ∧ o ≤ 1000 := by
    intro l
    induction l with
    | nil => intro _ h; cases h
    | cons p r ih =>
      obtain ⟨t, q⟩ := p
      intro hp h
      rw [opGo] at h
      split at h
      · cases h; exact hp (t, o) (by simp)
      · exact ih (fun p hp' => hp p (by simp [hp'])) h
  refine go _ ?_ h
  match lv with
  | 0 => decide
  | 1 => decide
  | 2 => decide
  | 3 => decide
  | 4 => decide
  | n + 5 => intro p hp; cases hp
structure OkAll (n : Nat) : Prop where
  ex : ∀ s, Wv s → ExpOk (exprM n s).1
  bi : ∀ lv s, Wv s → ExpOk (binM n lv s).1
  bl : ∀ lv e s, ExpOk e → Wv s → ExpOk (binL n lv e s).1
  un : ∀ s, Wv s → ExpOk (unM n s).1
  il : ∀ e s, ExpOk e → Wv s → ExpOk (idxL n e s).1
  pr : ∀ s, Wv s → ExpOk (priM n s).1
  ar : ∀ s, Wv s → ∀ a, a ∈ (argM n s).1 → ExpOk a
  ha : ∀ s, Wv s → ExpOk (hashM n s).1
  li : ∀ s, Wv s → ∀ a, a ∈ (lisM n s).1 → ExpOk a
  ll : ∀ l s, (∀ a, a ∈ l → ExpOk a) → Wv s → ∀ a, a ∈ (lisL n l s).1 → ExpOk a
theorem ok_zero : OkAll 0 := by
  constructor
  · intro s h; rw [exprM]; exact ok_z
  · intro lv s h; rw [binM]; exact ok_z
  · intro lv e s he h; rw [binL]; exact he
  · intro s h; rw [unM]; exact ok_z
  · intro e s he h; rw [idxL]; exact he
  · intro s h; rw [priM]; exact ok_z
  · intro s h a ha; rw [argM] at ha; cases ha
  · intro s h; rw [hashM]; exact ok_z
  · intro s h a ha; rw [lisM] at ha; cases ha
  · intro l s hl h a ha; rw [lisL] at ha; exact hl a ha
theorem li_len {n : Nat} {s : Ps} (h : Wv s) : (lisM n s).1.length ≤ 10000000 := by
  have h1 := ((rd_all n).li s h.wf).sz
  have h2 := szEs_len (lisM n s).1
  have := h.ln
  omega
theorem ar_len {n : Nat} {s : Ps} (h : Wv s) : (argM n s).1.length ≤ 10000000 := by
  have h1 := ((rd_all n).ar s h.wf).sz
  have h2 := szEs_len (argM n s).1
  have := h.ln
  omega
theorem ok_succ {n : Nat} (ih : OkAll n) : OkAll (n + 1) := by
  have R := rd_all n
  constructor
  · intro s h
    rw [exprM]
    have w1 := h.of (R.bi 0 s h.wf).suf
    split
    · have w2 := w1.of (suf_take w1.wf)
      have w3 := w2.of (R.ex _ w2.wf).suf
      have w4 := w3.of (suf_exp w3.wf [58])
      exact ok_nod (by decide) (by decide) (by simp) (ok_three (ih.bi 0 s h) (ih.ex _ w2) (ih.ex _ w4))
    · exact ih.bi 0 s h
  · intro lv s h
    rw [binM]
    split
    · exact ih.un s h
    · exact ih.bl lv _ _ (ih.bi _ s h) (h.of (R.bi (lv + 1) s h.wf).suf)
  · intro lv e s he h
    rw [binL]
    cases ho : opL lv s with
    | none => exact he
    | some o =>
      have w2 := h.of (suf_take h.wf)
      have w3 := w2.of (R.bi (lv + 1) _ w2.wf).suf
      have hs := op_small ho
      have hN := ok_nod (l := [e, (binM n (lv + 1) (takeM s)).1]) hs.1 hs.2 (by simp) (ok_two he (ih.bi (lv + 1) _ w2))
      simp only
      split
      · exact hN
      · exact ih.bl lv _ _ hN w3
  · intro s h
    rw [unM]
    split
    · exact ok_nod (by decide) (by decide) (by simp) (ok_one (ih.un _ (h.of (suf_take h.wf))))
    · split
      · exact ok_nod (by decide) (by decide) (by simp) (ok_one (ih.un _ (h.of (suf_take h.wf))))
      · exact ih.il _ _ (ih.pr s h) (h.of (R.pr s h.wf).suf)
  · intro e s he h
    rw [idxL]
    split
    · have w2 := h.of (suf_take h.wf)
      have w3 := w2.of (R.ex _ w2.wf).suf
      exact ih.il _ _ (ok_nod (by decide) (by decide) (by simp) (ok_two he (ih.ex _ w2))) (w3.of (suf_exp w3.wf [93]))
    · exact he
  · intro s h
    rw [priM]
    by_cases k3 : s.hd.kind = 3
    · rw [if_pos k3]
      have hv := h.hd
      exact .mk _ (i64_small (by show (0 : Int) ≤ 1; omega) (by show (1 : Int) ≤ _; omega)) ⟨by show 0 ≤ (s.hd.val : Int); omega, by show (s.hd.val : Int) ≤ _; omega⟩ (by show 0 ≤ _; omega) (by show 0 ≤ _; omega) (fun _ => rfl) (by intro a ha; cases ha)
    rw [if_neg k3]
    by_cases k1 : s.hd.kind = 1
    · rw [if_pos k1]
      have w2 := h.of (suf_take h.wf)
      have w3 := w2.of (suf_take w2.wf)
      have hn := h.nm k1
      split
      · have hl := ar_len (n := n) w3
        exact .mk _ (i64_small (by show (0 : Int) ≤ 5; omega) (by show (5 : Int) ≤ _; omega)) u64_zero (by show s.hd.text.length ≤ _; unfold B47; omega) (by show (argM n (takeM (takeM s))).1.length ≤ _; unfold B47; omega) nl_of (ih.ar _ w3)
      · exact .mk _ (i64_small (by show (0 : Int) ≤ 2; omega) (by show (2 : Int) ≤ _; omega)) u64_zero (by show s.hd.text.length ≤ _; unfold B47; omega) (by show 0 ≤ _; omega) (fun _ => rfl) (by intro a ha; cases ha)
    rw [if_neg k1]
    have w2 := h.of (suf_take h.wf)
    split
    · exact ok_nod (by decide) (by decide) (by simp) (by intro a ha; cases ha)
    split
    · exact ok_nod (by decide) (by decide) (by simp) (by intro a ha; cases ha)
    split
    · exact ih.ha _ w2
    split
    · exact ok_nod (by decide) (by decide) (by have := li_len (n := n) w2; omega) (ih.li _ w2)
    split
    · exact ih.ex _ w2
    · exact ok_z
  · intro s h
    rw [argM]
    split
    · intro a ha; cases ha
    · exact ih.li s h
  · intro s h
    rw [hashM]
    have w1 := h.of (suf_exp h.wf [40])
    split
    · exact ok_z
    · have w2 := w1.of (suf_take w1.wf)
      have w3 := w2.of (suf_exp w2.wf [59])
      have hv := w1.hd
      have hl := li_len (n := n) w3
      exact .mk _ (i64_small (by show (0 : Int) ≤ 6; omega) (by show (6 : Int) ≤ _; omega)) ⟨by show 0 ≤ ((expM [40] s).hd.val : Int); omega, by show ((expM [40] s).hd.val : Int) ≤ _; omega⟩ (by show 0 ≤ _; omega) (by show (lisM n _).1.length ≤ _; unfold B47; omega) nl_of (ih.li _ w3)
  · intro s h
    rw [lisM]
    exact ih.ll _ _ (ok_one (ih.ex s h)) (h.of (R.ex s h.wf).suf)
  · intro l s hl h
    rw [lisL]
    split
    · have w2 := h.of (suf_take h.wf)
      refine ih.ll _ _ ?_ (w2.of (R.ex _ w2.wf).suf)
      intro a ha
      rcases List.mem_append.1 ha with h1 | h1
      · exact hl a h1
      · exact ok_one (ih.ex _ w2) a h1
    · exact hl
theorem ok_all : ∀ n, OkAll n
  | 0 => ok_zero
  | n + 1 => ok_succ (ok_all n)
end Go.Ky

/- KX 36: statements: sizes, well-formedness. -/
set_option linter.unusedSimpArgs false
set_option linter.unusedVariables false
namespace Go.Ky
open Go.Pi Go.Lx
theorem name_len {s : Ps} (h : WfT s.ts) : (nameM s).1.length ≤ 24 := by
  unfold nameM
  by_cases k1 : s.hd.kind = 1
  · rw [if_neg (fun h => h k1)]
    show s.hd.text.length ≤ 24
    unfold Ps.hd at k1 ⊢
    match hts : s.ts, h.ne with
    | a :: r, _ =>
      rw [hts] at k1
      exact h.nam a (by rw [hts]; simp) k1
  · rw [if_pos k1]; exact Nat.zero_le _
theorem szS_e (k : Int) (nm : Nm) (b : Bool) (t : Ty) (e : Exp) (lo hi : Int) (nl : Bool) (l : List St) : szS (.mk k nm b t e lo hi nl l) = 9 + nm.length + szE e + szSs l := by
  rw [szS_eq, szE_eq]
  simp only [St.name, St.ex, St.body]
  omega
theorem rd_let {n : Nat} {s : Ps} (h : WfT s.ts) : Rd s (szS (letM n s).1) 37 (letM n s).2 := by
  unfold letM
  simp only
  have h1 := suf_name h
  have w1 := h1.wf h
  have hT : Suf (nameM s).2 (if atM [58] (nameM s).2 = true then tyM (takeM (nameM s).2) else (zTy, (nameM s).2)).2 := by
    split
    · have h2 := suf_take w1
      exact h2.trans (suf_ty (h2.wf w1))
    · exact .refl w1
  have w2 := hT.wf w1
  have h3 := suf_exp w2 [61]
  have w3 := h3.wf w2
  have h4 := (rd_all n).ex _ w3
  have w4 := h4.suf.wf w3
  have h5 := suf_exp w4 [59]
  refine ⟨(((h1.trans hT).trans h3).trans h4.suf).trans h5, ?_⟩
  have a1 := ((h1.trans hT).trans h3).le
  have a4 := h4.sz
  have a5 := h5.le
  have an := name_len h
  rw [szS_e]
  show 9 + _ + _ + 0 + _ ≤ _
  omega
theorem rd_asr {n : Nat} {s : Ps} (h : WfT s.ts) : Rd s (szS (asrM n s).1) 13 (asrM n s).2 := by
  unfold asrM
  simp only
  have h4 := (rd_all n).ex s h
  have w4 := h4.suf.wf h
  have h5 := suf_exp w4 [59]
  refine ⟨h4.suf.trans h5, ?_⟩
  have a4 := h4.sz
  have a5 := h5.le
  rw [szS_e]
  show 9 + 0 + _ + 0 + _ ≤ _
  omega
theorem szSs_app (a b : List St) : szSs (a ++ b) = szSs a + szSs b := by
  induction a with
  | nil => rw [List.nil_append]; show _ = 0 + _; omega
  | cons x r ih => rw [List.cons_append, szSs_cons, szSs_cons, ih]; omega
theorem szSs_one (a : St) : szSs [a] = szS a := by rw [szSs_cons]; show _ + 0 = _; omega
theorem atS_kind {s : Ps} (h : atS s = true) : s.hd.kind ≠ 0 := by
  unfold atS at h
  simp only [Bool.or_eq_true] at h
  rcases h with h | h | h <;> exact at_kind h
structure RdS (n : Nat) : Prop where
  st : ∀ s, WfT s.ts → s.hd.kind ≠ 0 → Suf s (stmM n s).2 ∧ (1 ≤ n → szS (stmM n s).1 + 64 * (stmM n s).2.ts.length ≤ 64 * s.ts.length)
  bd : ∀ o l s, WfT s.ts → Rd s (szSs (bodM n o l s).1) (szSs l + 13) (bodM n o l s).2
theorem rds_zero : RdS 0 := by
  constructor
  · intro s h hk; rw [stmM]; exact ⟨.refl h, fun h => absurd h (by omega)⟩
  · intro o l s h; rw [bodM]; exact ⟨.refl h, by simp only; omega⟩
theorem rds_succ {n : Nat} (ih : RdS n) : RdS (n + 1) := by
  constructor
  · intro s h hk
    rw [stmM]
    have h2 := suf_take h
    have w2 := h2.wf h
    have l2 := take_len h hk
    have hz : szS (.mk 0 [] false zTy zEx 0 0 true []) = 13 := by rw [szS_e, zEx_sz]; rfl
    split
    · have h3 := rd_let (n := n) w2
      have a3 := h3.sz
      exact ⟨h2.trans h3.suf, fun _ => by omega⟩
    split
    · have h3 := rd_asr (n := n) w2
      have a3 := h3.sz
      exact ⟨h2.trans h3.suf, fun _ => by omega⟩
    split
    · simp only
      have h3 := suf_name w2
      have w3 := h3.wf w2
      have h4 := suf_exp w3 [105, 110]
      have w4 := h4.wf w3
      have h5 := suf_num w4 0 1000000
      have w5 := h5.wf w4
      have h6 := suf_exp w5 [46, 46]
      have w6 := h6.wf w5
      have h7 := suf_num w6 0 1000000
      have w7 := h7.wf w6
      have h8 := suf_exp w7 [123]
      have w8 := h8.wf w7
      have h9 := ih.bd false [] _ w8
      have w9 := h9.suf.wf w8
      have h10 := suf_exp w9 [125]
      have hh := ((((h3.trans h4).trans h5).trans h6).trans h7).trans h8
      refine ⟨((h2.trans hh).trans h9.suf).trans h10, fun _ => ?_⟩
      have a1 := hh.le
      have a9 := h9.sz
      have a10 := h10.le
      have an := name_len w2
      have z0 : szSs [] = 0 := rfl
      rw [szS_e, zEx_sz]
      omega
    · refine ⟨h2, fun _ => ?_⟩
      show szS (.mk 0 [] false zTy zEx 0 0 true []) + _ ≤ _
      rw [hz]
      simp only
      omega
  · intro o l s h
    rw [bodM]
    split
    · rename_i ha
      have h2 := ih.st s h (atS_kind ha)
      have w2 := h2.1.wf h
      have h3 : Suf (stmM n s).2 (if o = true then depM s.hd.pos (deepS (stmM n s).1) (stmM n s).2 else (stmM n s).2) := by
        split
        · exact suf_dep w2 _ _
        · exact .refl w2
      have w3 := h3.wf w2
      have h4 := ih.bd o (l ++ [(stmM n s).1]) _ w3
      refine ⟨(h2.1.trans h3).trans h4.suf, ?_⟩
      have a3 := h3.le
      have a4 := h4.sz
      rw [szSs_app, szSs_one] at a4
      rcases Nat.eq_zero_or_pos n with rfl | hn
      · rw [bodM] at a4 ⊢
        have e0 : (stmM 0 s).1 = .mk 0 [] false zTy zEx 0 0 true [] := by rw [stmM]
        have hz : szS (stmM 0 s).1 = 13 := by rw [e0, szS_e, zEx_sz]; rfl
        have l2 := h2.1.le
        simp only [szSs_app, szSs_one] at a4 ⊢
        omega
      · have a2 := h2.2 hn
        omega
    · exact ⟨.refl h, by simp only; omega⟩
theorem rds_all : ∀ n, RdS n
  | 0 => rds_zero
  | n + 1 => rds_succ (rds_all n)
end Go.Ky

/- KX 37: statements that are read are well formed. -/
set_option linter.unusedSimpArgs false
set_option linter.unusedVariables false
namespace Go.Ky
open Go.Pi Go.Lx
theorem num_small (lo : Nat) {hi : Nat} (hh : hi ≤ 1000000) (s : Ps) : I64 (numM lo hi s).1 := by
  unfold numM
  split
  · exact i64_small (by show (0 : Int) ≤ 0; omega) (by show (0 : Int) ≤ _; omega)
  · split
    · exact i64_small (by show (0 : Int) ≤ 0; omega) (by show (0 : Int) ≤ _; omega)
    · rename_i h
      show I64 (IntKind.wrap .i64 (s.hd.val : Int))
      rw [IntWalk.i64_in _ (by omega)]
      exact ⟨by omega, by omega⟩
theorem ok_zTy : TyOk zTy := ⟨i64_small (by decide) (by decide), i64_small (by decide) (by decide), i64_small (by decide) (by decide)⟩
theorem ok_tyK (s : Ps) : TyOk (tyKM s).1 := by
  have z : ∀ k : Int, 0 ≤ k → k ≤ 1000 → I64 k := fun k => i64_small
  unfold tyKM
  split
  · exact ⟨z 1 (by decide) (by decide), z 0 (by decide) (by decide), z 0 (by decide) (by decide)⟩
  split
  · exact ⟨z 2 (by decide) (by decide), z 0 (by decide) (by decide), z 0 (by decide) (by decide)⟩
  split
  · exact ⟨z 3 (by decide) (by decide), num_small 1 (by decide) _, z 0 (by decide) (by decide)⟩
  · exact ⟨z 0 (by decide) (by decide), z 0 (by decide) (by decide), z 0 (by decide) (by decide)⟩
theorem ok_ty (s : Ps) : TyOk (tyM s).1 := by
  have h := ok_tyK s
  unfold tyM
  split
  · exact ⟨h.1, h.2.1, num_small 1 (by decide) _⟩
  · exact h
theorem ok_st {k lo hi : Int} {nm : Nm} {b : Bool} {t : Ty} {e : Exp} {nl : Bool} {l : List St} (hk : 0 ≤ k) (hk' : k ≤ 1000) (hn : nm.length ≤ 24) (ht : TyOk t) (he : ExpOk e) (h5 : I64 lo) (h6 : I64 hi) (hl : l.length ≤ 100000000) (hnl : nl = true → l = []) (h : ∀ a, a ∈ l → StOk a) : StOk (.mk k nm b t e lo hi nl l) :=
  .mk _ (i64_small hk hk') (by show nm.length ≤ _; unfold B47; omega) ht he h5 h6 (by show l.length ≤ _; unfold B47; omega) hnl h
theorem i64_zero : I64 0 := i64_small (by decide) (by decide)
theorem ok_st0 : StOk (.mk 0 [] false zTy zEx 0 0 true []) := ok_st (by decide) (by decide) (by decide) ok_zTy ok_z i64_zero i64_zero (by decide) (fun _ => rfl) (by intro a ha; cases ha)
theorem ok_let {n : Nat} {s : Ps} (h : Wv s) : StOk (letM n s).1 := by
  unfold letM
  simp only
  have w1 := h.of (suf_name h.wf)
  have hT : Suf (nameM s).2 (if atM [58] (nameM s).2 = true then tyM (takeM (nameM s).2) else (zTy, (nameM s).2)).2 := by
    split
    · have h2 := suf_take w1.wf
      exact h2.trans (suf_ty (h2.wf w1.wf))
    · exact .refl w1.wf
  have w2 := w1.of hT
  have w3 := w2.of (suf_exp w2.wf [61])
  refine ok_st (by decide) (by decide) (name_len h.wf) ?_ ((ok_all n).ex _ w3) i64_zero i64_zero (by decide) (fun _ => rfl) (by intro a ha; cases ha)
  split
  · exact ok_ty _
  · exact ok_zTy
theorem ok_asr {n : Nat} {s : Ps} (h : Wv s) : StOk (asrM n s).1 :=
  ok_st (by decide) (by decide) (by decide) ok_zTy ((ok_all n).ex _ h) i64_zero i64_zero (by decide) (fun _ => rfl) (by intro a ha; cases ha)
structure OkS (n : Nat) : Prop where
  st : ∀ s, Wv s → s.hd.kind ≠ 0 → StOk (stmM n s).1
  bd : ∀ o l s, (∀ a, a ∈ l → StOk a) → Wv s → ∀ a, a ∈ (bodM n o l s).1 → StOk a
theorem oks_zero : OkS 0 := by
  constructor
  · intro s h hk; rw [stmM]; exact ok_st0
  · intro o l s hl h; rw [bodM]; exact hl
theorem bod_len {n : Nat} {o : Bool} {s : Ps} (h : Wv s) : (bodM n o [] s).1.length ≤ 10000000 := by
  have h1 := ((rds_all n).bd o [] s h.wf).sz
  have h2 := szSs_len (bodM n o [] s).1
  have := h.ln
  have z0 : szSs [] = 0 := rfl
  omega
theorem oks_succ {n : Nat} (ih : OkS n) : OkS (n + 1) := by
  constructor
  · intro s h hk
    rw [stmM]
    have w2 := h.of (suf_take h.wf)
    split
    · exact ok_let w2
    split
    · exact ok_asr w2
    split
    · simp only
      have w3 := w2.of (suf_name w2.wf)
      have w4 := w3.of (suf_exp w3.wf [105, 110])
      have w5 := w4.of (suf_num w4.wf 0 1000000)
      have w6 := w5.of (suf_exp w5.wf [46, 46])
      have w7 := w6.of (suf_num w6.wf 0 1000000)
      have w8 := w7.of (suf_exp w7.wf [123])
      have hl := bod_len (n := n) (o := false) w8
      exact ok_st (by decide) (by decide) (name_len w2.wf) ok_zTy ok_z (num_small 0 (by decide) _) (num_small 0 (by decide) _) (by omega) nl_of (ih.bd false [] _ (by intro a ha; cases ha) w8)
    · exact ok_st0
  · intro o l s hl h
    rw [bodM]
    split
    · rename_i ha
      have hk := atS_kind ha
      have w2 := h.of ((rds_all n).st s h.wf hk).1
      have h3 : Suf (stmM n s).2 (if o = true then depM s.hd.pos (deepS (stmM n s).1) (stmM n s).2 else (stmM n s).2) := by
        split
        · exact suf_dep w2.wf _ _
        · exact .refl w2.wf
      refine ih.bd o _ _ ?_ (w2.of h3)
      intro a hm
      rcases List.mem_append.1 hm with h1 | h1
      · exact hl a h1
      · rw [List.mem_singleton] at h1
        rw [h1]; exact ih.st s h hk
    · exact hl
theorem oks_all : ∀ n, OkS n
  | 0 => oks_zero
  | n + 1 => oks_succ (oks_all n)
end Go.Ky

/- KX 38: functions, declarations, programs: tokens left; tokens' values. -/
set_option linter.unusedSimpArgs false
set_option linter.unusedVariables false
namespace Go.Ky
open Go.Pi Go.Lx
theorem suf_parL : ∀ (n : Nat) (l : List Pa) (s : Ps), WfT s.ts → Suf s (parL n l s).2
  | 0, l, s, h => by rw [parL]; exact .refl h
  | n + 1, l, s, h => by
    rw [parL]
    split
    · have h2 := suf_take h
      have h3 := suf_par (h2.wf h)
      exact (h2.trans h3).trans (suf_parL n _ _ ((h2.trans h3).wf h))
    · exact .refl h
theorem suf_parsP (n : Nat) {s : Ps} (h : WfT s.ts) : Suf s (parsPM n s).2 := by
  unfold parsPM
  split
  · exact .refl h
  · have h3 := suf_par h
    exact h3.trans (suf_parL n _ _ (h3.wf h))
theorem suf_fn {n : Nat} {s : Ps} (h : WfT s.ts) : Suf (expM [102, 110] s) (fnM n s).2 := by
  unfold fnM
  simp only
  have w0 := (suf_exp h [102, 110]).wf h
  have h1 := suf_name w0
  have w1 := h1.wf w0
  have h2 := suf_exp w1 [40]
  have w2 := h2.wf w1
  have h3 := suf_parsP n w2
  have w3 := h3.wf w2
  have h4 := suf_exp w3 [41]
  have w4 := h4.wf w3
  have h5 := suf_exp w4 [58]
  have w5 := h5.wf w4
  have h6 := suf_ty w5
  have w6 := h6.wf w5
  have h7 := suf_exp w6 [123]
  have w7 := h7.wf w6
  have h8 := ((rds_all n).bd true [] _ w7).suf
  have w8 := h8.wf w7
  have h9 := suf_exp w8 [114, 101, 116, 117, 114, 110]
  have w9 := h9.wf w8
  have h10 := ((rd_all n).ex _ w9).suf
  have w10 := h10.wf w9
  have h11 := fun p b => suf_dep w10 p b
  have h12 := fun p b => suf_exp ((h11 p b).wf w10) [59]
  have h13 := fun p b => suf_exp ((h12 p b).wf ((h11 p b).wf w10)) [125]
  exact ((((((((((h1.trans h2).trans h3).trans h4).trans h5).trans h6).trans h7).trans h8).trans h9).trans h10).trans (h11 _ _)).trans ((h12 _ _).trans (h13 _ _))
theorem fn_len {n : Nat} {s : Ps} (h : WfT s.ts) (ha : atM [102, 110] s = true) : (fnM n s).2.ts.length + 1 ≤ s.ts.length := by
  have h1 := (suf_fn (n := n) h).le
  have e : expM [102, 110] s = takeM s := by unfold expM; rw [if_pos ha]
  have h2 := take_len h (at_kind ha)
  rw [e] at h1
  omega
theorem suf_fnc {n : Nat} {s : Ps} (h : WfT s.ts) : Suf s (fnM n s).2 := (suf_exp h [102, 110]).trans (suf_fn h)
theorem suf_de {s : Ps} (h : WfT s.ts) : Suf (takeM s) (declM' s).2 := by
  unfold declM'
  simp only
  have w0 := (suf_take h).wf h
  have h1 := suf_name w0
  have w1 := h1.wf w0
  have h2 := suf_exp w1 [58]
  have w2 := h2.wf w1
  have h3 := suf_ty w2
  have w3 := h3.wf w2
  exact ((h1.trans h2).trans h3).trans (suf_exp w3 [59])
theorem de_len {s : Ps} (h : WfT s.ts) (ha : s.hd.kind ≠ 0) : (declM' s).2.ts.length + 1 ≤ s.ts.length := by
  have h1 := (suf_de h).le
  have h2 := take_len h ha
  omega
theorem suf_dec {s : Ps} (h : WfT s.ts) : Suf s (declM' s).2 := (suf_take h).trans (suf_de h)
theorem next_val {s : List UInt8} {k m v : Nat} (h : next s = .ok k m v) : v ≤ 18446744073709551615 := by
  match s with
  | [] => cases h
  | c :: r =>
    rw [next] at h
    unfold nextW nextD at h
    repeat' split at h
    all_goals first | (injection h with h1 h2 h3; omega) | cases h
theorem val_lex : ∀ (n : Nat) (s : List UInt8) (pos : Nat) (l : List Tok), s.length = n → lexR pos s = .toks l → ∀ t, t ∈ l → t.val ≤ 18446744073709551615 := by
  intro n
  induction n using Nat.strongRecOn with
  | _ n ih =>
    intro s pos l hs h t ht
    rcases lex_cases s with h1 | ⟨h1, ⟨e, hn⟩ | ⟨k, m, v, hn⟩⟩
    · rw [lexR_end h1] at h
      injection h with h
      subst h
      rw [List.mem_singleton] at ht
      subst ht
      exact Nat.zero_le _
    · rw [lexR_err h1 hn] at h; cases h
    · rw [lexR_ok h1 hn] at h
      have hp := next_pos hn
      cases hq : lexR (pos + gap s + m) (s.drop (gap s + m)) with
      | err p e => rw [hq] at h; cases h
      | toks q =>
        rw [hq] at h
        injection h with h
        subst h
        rcases List.mem_cons.1 ht with e | e
        · subst e; exact next_val hn
        · exact ih (s.drop (gap s + m)).length (by simp only [List.length_drop] at hp ⊢; omega) _ _ q rfl hq t e
theorem tokP_wv (s : List UInt8) : Wv (st0 (tokP s).1) ∧ (tokP s).1.length ≤ 16400 := by
  have hw := tokP_wf s
  have hl : (tokP s).1.length ≤ 16400 := by
    by_cases hb : 16384 < s.length
    · unfold tokP; rw [if_pos hb]; show 1 ≤ _; omega
    · have := hw.2; omega
  refine ⟨⟨hw.1, ?_, by show (tokP s).1.length ≤ _; omega⟩, hl⟩
  show ∀ t, t ∈ (tokP s).1 → _
  unfold tokP
  split
  · intro t ht; simp only [List.mem_singleton] at ht; subst ht; exact Nat.zero_le _
  · cases h : lexR 0 s with
    | toks l => exact val_lex _ _ _ _ rfl h
    | err p e =>
      simp only
      cases h3 : lexR 0 (s.take p) with
      | toks l => exact val_lex _ _ _ _ rfl h3
      | err _ _ => intro t ht; cases ht
def prN (n : Nat) (s : List UInt8) : Pg × Int × Int :=
  if (resM (tokP s).2.1 (tokP s).2.2 (prgM n (st0 (tokP s).1)).2).2 ≠ 0
  then (zPg, resM (tokP s).2.1 (tokP s).2.2 (prgM n (st0 (tokP s).1)).2)
  else ((prgM n (st0 (tokP s).1)).1, 0, 0)
def exF (n : Nat) (l : List Tok) : Ps := depM (st0 l).hd.pos (decide ((dEx (exprM n (st0 l)).1 : Int) > 40)) (endM (exprM n (st0 l)).2)
def exN (n : Nat) (s : List UInt8) : Exp × Int × Int :=
  if (resM (tokP s).2.1 (tokP s).2.2 (exF n (tokP s).1)).2 ≠ 0 then (zEx, resM (tokP s).2.1 (tokP s).2.2 (exF n (tokP s).1))
  else ((exprM n (st0 (tokP s).1)).1, 0, 0)
end Go.Ky

/- KX 45: the length of the tokens' texts. -/
set_option linter.unusedSimpArgs false
set_option linter.unusedVariables false
namespace Go.Ky
open Go.Pi Go.Lx
def textsL (l : List Tok) : Nat := (l.map fun t => t.text.length).sum
theorem lex_texts : ∀ (n : Nat) (s : List UInt8) (pos : Nat) (l : List Tok), s.length = n → lexR pos s = .toks l → textsL l ≤ s.length := by
  intro n
  induction n using Nat.strongRecOn with
  | _ n ih =>
    intro s pos l hl h
    rcases lex_cases s with h1 | ⟨h1, ⟨e, hn⟩ | ⟨k, m, v, hn⟩⟩
    · rw [lexR_end h1] at h
      injection h with h; subst h; simp [textsL]
    · rw [lexR_err h1 hn] at h; cases h
    · have hp := next_pos hn
      rw [lexR_ok h1 hn] at h
      cases hq : lexR (pos + gap s + m) (s.drop (gap s + m)) with
      | err p e => rw [hq] at h; cases h
      | toks q =>
        rw [hq] at h
        have := ih (s.drop (gap s + m)).length (by simp only [List.length_drop] at hp ⊢; omega) _ _ q rfl hq
        injection h with h
        subst h
        simp only [textsL, List.map_cons, List.sum_cons, List.length_take, List.length_drop] at hp this ⊢
        omega
theorem next_er {s : List UInt8} {e : Nat} (h : next s = .err e) : e = 2 ∨ e = 3 := by
  cases s with
  | nil => simp only [next] at h; injection h with h; exact .inl h.symm
  | cons c r =>
    simp only [next, nextW, nextD] at h
    repeat' split at h
    all_goals first | (injection h with h; omega) | cases h
theorem lex_er : ∀ (n : Nat) (s : List UInt8) (pos p e : Nat), s.length = n → lexR pos s = .err p e → p < pos + s.length ∧ (e = 2 ∨ e = 3) := by
  intro n
  induction n using Nat.strongRecOn with
  | _ n ih =>
    intro s pos p e hs h
    rcases lex_cases s with h1 | ⟨h1, ⟨e', hn⟩ | ⟨k, m, v, hn⟩⟩
    · rw [lexR_end h1] at h; cases h
    · rw [lexR_err h1 hn] at h
      injection h with h2 h3
      have := next_er hn
      exact ⟨by omega, by omega⟩
    · rw [lexR_ok h1 hn] at h
      have hp := next_pos hn
      have hdl : (s.drop (gap s)).length = s.length - gap s := List.length_drop
      have hdl2 : (s.drop (gap s + m)).length = s.length - (gap s + m) := List.length_drop
      cases hq : lexR (pos + gap s + m) (s.drop (gap s + m)) with
      | toks q => rw [hq] at h; cases h
      | err p' e'' =>
        rw [hq] at h
        injection h with h2 h3
        obtain ⟨a, b⟩ := ih _ (by omega) _ _ _ _ rfl hq
        exact ⟨by omega, by rw [← h3]; exact b⟩
end Go.Ky

/- KX 39: places of errors: the parser's steps as computations that keep what is known. No program in sight. -/
set_option linter.unusedSimpArgs false
set_option linter.unusedVariables false
namespace Go.Ky
open Go.Pi Go.Lx
structure Inv (A : List Tok) (s : Ps) : Prop where
  ne : s.ts ≠ []
  mem : ∀ t, t ∈ s.ts → t ∈ A
  er : s.err = 0 ∨ ((s.err = 2 ∨ s.err = 3) ∧ ∃ t, t ∈ A ∧ s.pos = (t.pos : Int) ∧ (s.err = 3 → t.kind ≠ 0))
  dp : s.deep = true → s.err = 0 → ∃ t, t ∈ A ∧ s.dat = (t.pos : Int) ∧ t.kind ≠ 0
structure Af (n : Nat) (s : Ps) : Prop where
  ts : s.ts = [⟨0, [], 0, n⟩]
  er : s.err = 0 ∨ (s.err = 2 ∧ s.pos = (n : Int))
structure Syn (n : Nat) (rest : List Tok) (r : List Tok) (a b : Ps) : Prop where
  ne : r ≠ []
  ps : ∀ t, t ∈ r → t.pos ≠ n
  ta : a.ts = r ++ rest
  tb : b.ts = r ++ [⟨0, [], 0, n⟩]
  ea : a.err = 0
  eb : b.err = 0
def Bad (n : Nat) (a : Ps) : Prop := a.err ≠ 0 ∧ a.pos ≠ (n : Int)
abbrev Pm (α : Type) := Ps → α × Ps
def Rv {α : Type} (n : Nat) (rest : List Tok) (x y : α × Ps) : Prop := (x.1 = y.1 ∧ ∃ r, Syn n rest r x.2 y.2) ∨ Af n y.2 ∨ Bad n x.2
structure Gd {α : Type} (p : Ps → Prop) (m : Pm α) : Prop where
  inv : ∀ A s, Inv A s → p s → Inv A (m s).2
  err : ∀ s, p s → s.err ≠ 0 → (m s).2.err = s.err ∧ (m s).2.pos = s.pos
  af : ∀ n s, Af n s → p s → Af n (m s).2
  sy : ∀ n rest r a b, rest ≠ [] → Syn n rest r a b → p a → p b → Rv n rest (m a) (m b)
def tt (_ : Ps) : Prop := True
def ret {α : Type} (v : α) : Pm α := fun s => (v, s)
def bnd {α β : Type} (m : Pm α) (k : α → Pm β) : Pm β := fun s => k (m s).1 (m s).2
def ite' {α : Type} (c : Tok → Bool) (m k : Pm α) : Pm α := fun s => if c s.hd = true then m s else k s
theorem gd_weak {α : Type} {p q : Ps → Prop} {m : Pm α} (h : Gd p m) (hq : ∀ s, q s → p s) : Gd q m :=
  ⟨fun A s i j => h.inv A s i (hq s j), fun s j => h.err s (hq s j), fun n s i j => h.af n s i (hq s j), fun n rest r a b hr i j k => h.sy n rest r a b hr i (hq a j) (hq b k)⟩
theorem gd_ret {α : Type} {p : Ps → Prop} (v : α) : Gd p (ret v) :=
  ⟨fun A s i _ => i, fun s _ _ => ⟨rfl, rfl⟩, fun n s i _ => i, fun n rest r a b _ i _ _ => .inl ⟨rfl, r, i⟩⟩
theorem bad_keep {α : Type} {p : Ps → Prop} {m : Pm α} (h : Gd p m) {n : Nat} {a : Ps} (hp : p a) (hb : Bad n a) : Bad n (m a).2 := by
  obtain ⟨e1, e2⟩ := h.err a hp hb.1
  exact ⟨by rw [e1]; exact hb.1, by rw [e2]; exact hb.2⟩
theorem gd_bnd {α β : Type} {p : Ps → Prop} {m : Pm α} {k : α → Pm β} (h : Gd p m) (hk : ∀ v, Gd tt (k v)) : Gd p (bnd m k) := by
  refine ⟨fun A s i j => (hk _).inv A _ (h.inv A s i j) trivial, fun s j e => ?_, fun n s i j => (hk _).af n _ (h.af n s i j) trivial, fun n rest r a b hr i j l => ?_⟩
  · obtain ⟨e1, e2⟩ := h.err s j e
    obtain ⟨e3, e4⟩ := (hk (m s).1).err (m s).2 trivial (by rw [e1]; exact e)
    exact ⟨e3.trans e1, e4.trans e2⟩
  · rcases h.sy n rest r a b hr i j l with ⟨e, r', i'⟩ | i' | i'
    · show Rv n rest (k (m a).1 (m a).2) (k (m b).1 (m b).2)
      rw [e]
      exact (hk _).sy n rest r' _ _ hr i' trivial trivial
    · exact .inr (.inl ((hk _).af n _ i' trivial))
    · exact .inr (.inr (bad_keep (hk _) trivial i'))
theorem sy_hd {n : Nat} {rest r : List Tok} {a b : Ps} (h : Syn n rest r a b) : ∃ t r', r = t :: r' ∧ a.hd = t ∧ b.hd = t ∧ t.pos ≠ n := by
  match r, h.ne with
  | t :: r', _ =>
    refine ⟨t, r', rfl, ?_, ?_, h.ps t (by simp)⟩
    · unfold Ps.hd; rw [h.ta]; rfl
    · unfold Ps.hd; rw [h.tb]; rfl
theorem gd_ite {α : Type} {p : Ps → Prop} {c : Tok → Bool} {m k : Pm α} (hm : Gd (fun s => p s ∧ c s.hd = true) m) (hk : Gd (fun s => p s ∧ c s.hd = false) k) : Gd p (ite' c m k) := by
  refine ⟨fun A s i j => ?_, fun s j e => ?_, fun n s i j => ?_, fun n rest r a b hr i j l => ?_⟩
  · unfold ite'
    cases hc : c s.hd with
    | true => exact hm.inv A s i ⟨j, hc⟩
    | false => exact hk.inv A s i ⟨j, hc⟩
  · unfold ite'
    cases hc : c s.hd with
    | true => exact hm.err s ⟨j, hc⟩ e
    | false => exact hk.err s ⟨j, hc⟩ e
  · unfold ite'
    cases hc : c s.hd with
    | true => exact hm.af n s i ⟨j, hc⟩
    | false => exact hk.af n s i ⟨j, hc⟩
  · obtain ⟨t, r', -, e1, e2, -⟩ := sy_hd i
    unfold ite'
    rw [e1, e2]
    cases hc : c t with
    | true => exact hm.sy n rest r a b hr i ⟨j, by rw [e1, hc]⟩ ⟨l, by rw [e2, hc]⟩
    | false => exact hk.sy n rest r a b hr i ⟨j, by rw [e1, hc]⟩ ⟨l, by rw [e2, hc]⟩
def hdB {α : Type} (k : Tok → Pm α) : Pm α := fun s => k s.hd s
theorem gd_hd {α : Type} {p : Ps → Prop} {k : Tok → Pm α} (h : ∀ t, Gd (fun s => p s ∧ s.hd = t) (k t)) : Gd p (hdB k) := by
  refine ⟨fun A s i j => (h _).inv A s i ⟨j, rfl⟩, fun s j e => (h _).err s ⟨j, rfl⟩ e, fun n s i j => (h _).af n s i ⟨j, rfl⟩, fun n rest r a b hr i j l => ?_⟩
  obtain ⟨t, r', -, e1, e2, -⟩ := sy_hd i
  unfold hdB
  rw [e1, e2]
  exact (h t).sy n rest r a b hr i ⟨j, e1⟩ ⟨l, e2⟩
theorem hd_mem {s : Ps} (h : s.ts ≠ []) : s.hd ∈ s.ts := by
  unfold Ps.hd
  match s.ts, h with
  | a :: r, _ => simp
def takeU : Pm Unit := fun s => ((), takeM s)
theorem gd_take {p : Ps → Prop} : Gd p takeU := by
  refine ⟨fun A s i _ => ?_, fun s _ _ => ⟨rfl, rfl⟩, fun n s i _ => ?_, fun n rest r a b hr i _ _ => ?_⟩
  · refine ⟨?_, ?_, i.er, i.dp⟩
    · show (if 1 < s.ts.length then s.ts.drop 1 else s.ts) ≠ []
      split
      · intro e; have := congrArg List.length e; simp only [List.length_drop, List.length_nil] at this; omega
      · exact i.ne
    · intro t ht
      change t ∈ (if 1 < s.ts.length then s.ts.drop 1 else s.ts) at ht
      split at ht
      · exact i.mem t (List.mem_of_mem_drop ht)
      · exact i.mem t ht
  · refine ⟨?_, i.er⟩
    show (if 1 < s.ts.length then s.ts.drop 1 else s.ts) = _
    rw [i.ts, if_neg (by simp)]
  · obtain ⟨t, r', e, -, -, -⟩ := sy_hd i
    subst e
    match rest, hr with
    | x :: rest', _ =>
    have ta : (takeM a).ts = r' ++ x :: rest' := by
      show (if 1 < a.ts.length then a.ts.drop 1 else a.ts) = _
      rw [i.ta, if_pos (by simp only [List.length_append, List.length_cons]; omega)]; rfl
    have tb : (takeM b).ts = r' ++ [⟨0, [], 0, n⟩] := by
      show (if 1 < b.ts.length then b.ts.drop 1 else b.ts) = _
      rw [i.tb, if_pos (by simp)]; rfl
    match r' with
    | [] => exact .inr (.inl ⟨tb, .inl i.eb⟩)
    | u :: r'' => exact .inl ⟨rfl, u :: r'', by simp, fun t ht => i.ps t (List.mem_cons_of_mem _ ht), ta, tb, i.ea, i.eb⟩
def failU (e : Int) : Pm Unit := fun s => ((), failM e s)
theorem gd_fail {p : Ps → Prop} {e : Int} (he : e = 2 ∨ (e = 3 ∧ ∀ s, p s → s.hd.kind ≠ 0)) : Gd p (failU e) := by
  have h0 : e ≠ 0 := by rcases he with h | h <;> omega
  refine ⟨fun A s i j => ?_, fun s _ h => ?_, fun n s i j => ?_, fun n rest r a b hr i _ _ => ?_⟩
  · refine ⟨?_, fun t ht => i.mem t (List.mem_of_mem_drop ht), ?_, fun _ h => ?_⟩
    · show s.ts.drop (s.ts.length - 1) ≠ []
      intro h
      have := congrArg List.length h
      have h1 := List.length_pos_iff.2 i.ne
      simp only [List.length_drop, List.length_nil] at this; omega
    · show (if s.err = 0 then e else s.err) = 0 ∨ (((if s.err = 0 then e else s.err) = 2 ∨ (if s.err = 0 then e else s.err) = 3) ∧ ∃ t, t ∈ A ∧ (if s.err = 0 then (s.hd.pos : Int) else s.pos) = (t.pos : Int) ∧ ((if s.err = 0 then e else s.err) = 3 → t.kind ≠ 0))
      by_cases hs : s.err = 0
      · simp only [if_pos hs]
        refine .inr ⟨by rcases he with h | h; exact .inl h; exact .inr h.1, s.hd, i.mem _ (hd_mem i.ne), rfl, fun h => ?_⟩
        rcases he with h' | h'
        · omega
        · exact h'.2 s j
      · simp only [if_neg hs]
        exact i.er
    · exfalso
      change (if s.err = 0 then e else s.err) = 0 at h
      split at h
      · exact h0 h
      · rename_i hs; exact hs h
  · exact ⟨by show (if s.err = 0 then e else s.err) = _; rw [if_neg h], by show (if s.err = 0 then (s.hd.pos : Int) else s.pos) = _; rw [if_neg h]⟩
  · refine ⟨?_, ?_⟩
    · show s.ts.drop (s.ts.length - 1) = _
      rw [i.ts]; rfl
    · show (if s.err = 0 then e else s.err) = 0 ∨ (if s.err = 0 then e else s.err) = 2 ∧ (if s.err = 0 then (s.hd.pos : Int) else s.pos) = _
      have hh : s.hd = ⟨0, [], 0, n⟩ := by unfold Ps.hd; rw [i.ts]; rfl
      rcases i.er with h | h
      · simp only [if_pos h]
        rcases he with h' | h'
        · exact .inr ⟨h', by rw [hh]⟩
        · exact absurd (by rw [hh]) (h'.2 s j)
      · simp only [if_neg (show s.err ≠ 0 by omega)]
        exact .inr h
  · obtain ⟨t, r', _, e1, _, e3⟩ := sy_hd i
    refine .inr (.inr ⟨?_, ?_⟩)
    · show (if a.err = 0 then e else a.err) ≠ 0
      rw [if_pos i.ea]; exact h0
    · show (if a.err = 0 then (a.hd.pos : Int) else a.pos) ≠ _
      rw [if_pos i.ea, e1]
      omega
theorem dep_err (pos : Int) (b : Bool) (s : Ps) : (depM pos b s).err = s.err ∧ (depM pos b s).pos = s.pos := by
  unfold depM
  split <;> exact ⟨rfl, rfl⟩
def atT (t : Nm) (x : Tok) : Bool := decide (x.kind ≠ 0) && decide (x.text = t)
def expU (t : Nm) : Pm Unit := fun s => ((), expM t s)
theorem expU_eq (t : Nm) : expU t = ite' (atT t) takeU (failU 2) := by
  funext s
  unfold expU ite' takeU failU expM
  show _ = if atM t s = true then _ else _
  split <;> rfl
theorem gd_exp {p : Ps → Prop} (t : Nm) : Gd p (expU t) := by
  rw [expU_eq]; exact gd_ite gd_take (gd_fail (.inl rfl))
end Go.Ky

/- KX 40: all of the parser's functions keep what is known of places. -/
set_option linter.unusedSimpArgs false
set_option linter.unusedVariables false
namespace Go.Ky
open Go.Pi Go.Lx
theorem ite_of {α : Type} (p : Tok → Prop) [DecidablePred p] (m k : Pm α) (s : Ps) : ite' (fun x => decide (p x)) m k s = if p s.hd then m s else k s := by
  unfold ite'
  by_cases h : p s.hd
  · rw [if_pos h, if_pos (decide_eq_true h)]
  · rw [if_neg h, if_neg (fun q => h (of_decide_eq_true q))]
theorem Gd.any {α : Type} {p : Ps → Prop} {m : Pm α} (h : Gd tt m) : Gd p m := gd_weak h fun _ _ => trivial
def opG (x : Tok) : List (Nm × Int) → Option Int
  | [] => none
  | (t, o) :: r => if atT t x = true then some o else opG x r
theorem opGo_G (s : Ps) : ∀ l, opGo s l = opG s.hd l
  | [] => rfl
  | (t, o) :: r => by
    rw [opGo, opG, opGo_G s r]; rfl
theorem e_expr (n : Nat) : exprM (n + 1) = bnd (binM n 0) fun a => ite' (atT [63]) (bnd takeU fun _ => bnd (exprM n) fun b => bnd (expU [58]) fun _ => bnd (exprM n) fun c => ret (nod 20 [a, b, c])) (ret a) := by
  funext s; rw [exprM]; rfl
theorem e_bin (n lv : Nat) : binM (n + 1) lv = if lv = 5 then unM n else bnd (binM n (lv + 1)) fun e => binL n lv e := by
  funext s; rw [binM]; split <;> rfl
def binK (n lv : Nat) (e : Exp) (x : Tok) : Pm Exp := match opG x (ops lv) with
  | none => ret e
  | some o => if lv = 2 then bnd takeU fun _ => bnd (binM n (lv + 1)) fun y => ret (nod o [e, y]) else bnd takeU fun _ => bnd (binM n (lv + 1)) fun y => binL n lv (nod o [e, y])
theorem e_binL (n lv : Nat) (e : Exp) : binL (n + 1) lv e = hdB (binK n lv e) := by
  funext s
  rw [binL]
  unfold hdB binK opL
  rw [opGo_G]
  cases opG s.hd (ops lv) with
  | none => rfl
  | some o =>
    show (if lv = 2 then _ else _) = _
    simp only
    split <;> rfl
theorem e_un (n : Nat) : unM (n + 1) = ite' (atT [45]) (bnd takeU fun _ => bnd (unM n) fun x => ret (nod 9 [x])) (ite' (atT [110, 111, 116]) (bnd takeU fun _ => bnd (unM n) fun x => ret (nod 10 [x])) (bnd (priM n) fun e => idxL n e)) := by
  funext s; rw [unM]; rfl
theorem e_idx (n : Nat) (e : Exp) : idxL (n + 1) e = ite' (atT [91]) (bnd takeU fun _ => bnd (exprM n) fun x => bnd (expU [93]) fun _ => idxL n (nod 8 [e, x])) (ret e) := by
  funext s; rw [idxL]; rfl
def priK (n : Nat) : Pm Exp := ite' (atT [116, 114, 117, 101]) (bnd takeU fun _ => ret (nod 3 [])) (ite' (atT [102, 97, 108, 115, 101]) (bnd takeU fun _ => ret (nod 4 [])) (ite' (atT [104, 97, 115, 104]) (bnd takeU fun _ => hashM n) (ite' (atT [91]) (bnd takeU fun _ => bnd (lisM n) fun l => bnd (expU [93]) fun _ => ret (nod 7 l)) (ite' (atT [40]) (bnd takeU fun _ => bnd (exprM n) fun e => bnd (expU [41]) fun _ => ret e) (bnd (failU 2) fun _ => ret zEx)))))
theorem e_pri (n : Nat) : priM (n + 1) = ite' (fun x => decide (x.kind = 3)) (hdB fun x => bnd takeU fun _ => ret (.mk 1 x.val [] true [])) (ite' (fun x => decide (x.kind = 1)) (hdB fun x => bnd takeU fun _ => ite' (atT [40]) (bnd takeU fun _ => bnd (argM n) fun l => ret (.mk 5 0 x.text l.isEmpty l)) (ret (.mk 2 0 x.text true []))) (priK n)) := by
  funext s
  rw [priM, ite_of (fun x => x.kind = 3)]
  by_cases h : s.hd.kind = 3
  · rw [if_pos h, if_pos h]; rfl
  · rw [if_neg h, if_neg h, ite_of (fun x => x.kind = 1)]
    by_cases h1 : s.hd.kind = 1
    · rw [if_pos h1, if_pos h1]; rfl
    · rw [if_neg h1, if_neg h1]; rfl
theorem e_arg (n : Nat) : argM (n + 1) = ite' (atT [41]) (bnd takeU fun _ => ret []) (bnd (lisM n) fun l => bnd (expU [41]) fun _ => ret l) := by
  funext s; rw [argM]; rfl
theorem e_hash (n : Nat) : hashM (n + 1) = bnd (expU [40]) fun _ => ite' (fun x => decide (x.kind ≠ 3)) (bnd (failU 2) fun _ => ret zEx) (hdB fun x => bnd takeU fun _ => bnd (expU [59]) fun _ => bnd (lisM n) fun l => bnd (expU [41]) fun _ => ret (.mk 6 x.val [] l.isEmpty l)) := by
  funext s
  rw [hashM]
  unfold bnd ite' hdB
  by_cases h : (expM [40] s).hd.kind ≠ 3
  · rw [if_pos h]
    show _ = if decide ((expM [40] s).hd.kind ≠ 3) = true then _ else _
    rw [if_pos (decide_eq_true h)]; rfl
  · rw [if_neg h]
    show _ = if decide ((expM [40] s).hd.kind ≠ 3) = true then _ else _
    rw [if_neg (fun q => h (of_decide_eq_true q))]; rfl
theorem e_lis (n : Nat) : lisM (n + 1) = bnd (exprM n) fun e => lisL n [e] := by
  funext s; rw [lisM]; rfl
theorem e_lisL (n : Nat) (l : List Exp) : lisL (n + 1) l = ite' (atT [44]) (bnd takeU fun _ => bnd (exprM n) fun e => lisL n (l ++ [e])) (ret l) := by
  funext s; rw [lisL]; rfl
structure GdAll (n : Nat) : Prop where
  ex : Gd tt (exprM n)
  bi : ∀ lv, Gd tt (binM n lv)
  bl : ∀ lv e, Gd tt (binL n lv e)
  un : Gd tt (unM n)
  il : ∀ e, Gd tt (idxL n e)
  pr : Gd tt (priM n)
  ar : Gd tt (argM n)
  ha : Gd tt (hashM n)
  li : Gd tt (lisM n)
  ll : ∀ l, Gd tt (lisL n l)
theorem gd_all : ∀ n, GdAll n := by
  intro n
  induction n with
  | zero =>
    have k : ∀ {α : Type} {m : Pm α} (v : α), (∀ s, m s = (v, s)) → Gd tt m := fun v h => by
      have : _ = ret v := funext h
      rw [this]; exact gd_ret v
    constructor
    · exact k zEx fun s => by rw [exprM]
    · exact fun lv => k zEx fun s => by rw [binM]
    · exact fun lv e => k e fun s => by rw [binL]
    · exact k zEx fun s => by rw [unM]
    · exact fun e => k e fun s => by rw [idxL]
    · exact k zEx fun s => by rw [priM]
    · exact k [] fun s => by rw [argM]
    · exact k zEx fun s => by rw [hashM]
    · exact k [] fun s => by rw [lisM]
    · exact fun l => k l fun s => by rw [lisL]
  | succ n ih =>
    constructor
    · rw [e_expr]
      exact gd_bnd (ih.bi 0) fun _ => gd_ite (gd_bnd gd_take fun _ => gd_bnd ih.ex fun _ => gd_bnd (gd_exp _) fun _ => gd_bnd ih.ex fun _ => gd_ret _) (gd_ret _)
    · intro lv
      rw [e_bin]
      split
      · exact ih.un
      · exact gd_bnd (ih.bi _) fun _ => ih.bl _ _
    · intro lv e
      rw [e_binL]
      refine gd_hd fun t => ?_
      unfold binK
      cases opG t (ops lv) with
      | none => exact gd_ret _
      | some o =>
        simp only
        split
        · exact gd_bnd gd_take fun _ => gd_bnd (ih.bi _) fun _ => gd_ret _
        · exact gd_bnd gd_take fun _ => gd_bnd (ih.bi _) fun _ => ih.bl _ _
    · rw [e_un]
      exact gd_ite (gd_bnd gd_take fun _ => gd_bnd ih.un fun _ => gd_ret _) (gd_ite (gd_bnd gd_take fun _ => gd_bnd ih.un fun _ => gd_ret _) (gd_bnd ih.pr.any fun _ => ih.il _))
    · intro e
      rw [e_idx]
      exact gd_ite (gd_bnd gd_take fun _ => gd_bnd ih.ex fun _ => gd_bnd (gd_exp _) fun _ => ih.il _) (gd_ret _)
    · rw [e_pri]
      refine gd_ite (gd_hd fun t => gd_bnd gd_take fun _ => gd_ret _) (gd_ite (gd_hd fun t => gd_bnd gd_take fun _ => gd_ite (gd_bnd gd_take fun _ => gd_bnd ih.ar fun _ => gd_ret _) (gd_ret _)) ?_)
      unfold priK
      exact gd_ite (gd_bnd gd_take fun _ => gd_ret _) (gd_ite (gd_bnd gd_take fun _ => gd_ret _) (gd_ite (gd_bnd gd_take fun _ => ih.ha) (gd_ite (gd_bnd gd_take fun _ => gd_bnd ih.li fun _ => gd_bnd (gd_exp _) fun _ => gd_ret _) (gd_ite (gd_bnd gd_take fun _ => gd_bnd ih.ex fun _ => gd_bnd (gd_exp _) fun _ => gd_ret _) (gd_bnd (gd_fail (.inl rfl)) fun _ => gd_ret _)))))
    · rw [e_arg]
      exact gd_ite (gd_bnd gd_take fun _ => gd_ret _) (gd_bnd ih.li.any fun _ => gd_bnd (gd_exp _) fun _ => gd_ret _)
    · rw [e_hash]
      exact gd_bnd (gd_exp _) fun _ => gd_ite (gd_bnd (gd_fail (.inl rfl)) fun _ => gd_ret _) (gd_hd fun t => gd_bnd gd_take fun _ => gd_bnd (gd_exp _) fun _ => gd_bnd ih.li fun _ => gd_bnd (gd_exp _) fun _ => gd_ret _)
    · rw [e_lis]
      exact gd_bnd ih.ex fun _ => ih.ll _
    · intro l
      rw [e_lisL]
      exact gd_ite (gd_bnd gd_take fun _ => gd_bnd ih.ex fun _ => ih.ll _) (gd_ret _)
structure GdS (n : Nat) : Prop where
  st : Gd tt (stmM n)
  bd : ∀ o l, Gd tt (bodM n o l)
end Go.Ky

/- KX 42: the five sources that every statement of the parser's layer tries first, worked out. -/
set_option linter.unusedSimpArgs false
set_option linter.unusedVariables false
namespace Go.Ky
open Go.Pi Go.Lx
def lexF : Nat → Nat → List UInt8 → Res
  | 0, _, _ => .toks []
  | n + 1, pos, s => if gap s = s.length then .toks [⟨0, [], 0, pos + s.length⟩] else
    match next (s.drop (gap s)) with
    | .err e => .err (pos + gap s) e
    | .ok k m v => (lexF n (pos + gap s + m) (s.drop (gap s + m))).cons ⟨k, (s.drop (gap s)).take m, v, pos + gap s⟩
theorem lexF_eq : ∀ (n pos : Nat) (s : List UInt8), s.length < n → lexF n pos s = lexR pos s
  | 0, pos, s, h => by omega
  | n + 1, pos, s, h => by
    rw [lexF]
    rcases lex_cases s with h1 | ⟨h1, ⟨e', hn⟩ | ⟨k, m, v, hn⟩⟩
    · rw [if_pos h1, lexR_end h1]
    · rw [if_neg (by omega), lexR_err h1 hn, hn]
    · have hp := next_pos hn
      have hdl : (s.drop (gap s)).length = s.length - gap s := List.length_drop
      have hdl2 : (s.drop (gap s + m)).length = s.length - (gap s + m) := List.length_drop
      rw [if_neg (by omega), lexR_ok h1 hn, hn]
      simp only
      rw [lexF_eq n _ _ (by omega)]
def tokF (s : List UInt8) : List Tok × Int × Int :=
  if 16384 < s.length then ([⟨0, [], 0, 0⟩], 3, 0) else match lexF (s.length + 1) 0 s with
  | .toks l => (l, 0, 0)
  | .err p e => match lexF ((s.take p).length + 1) 0 (s.take p) with
    | .toks l => (l, (e : Int), (p : Int))
    | .err _ _ => ([], 99, 0)
theorem tokF_eq (s : List UInt8) : tokP s = tokF s := by
  unfold tokP tokF
  rw [lexF_eq _ _ _ (Nat.lt_succ_self _)]
  split
  · rfl
  · cases lexR 0 s with
    | toks l => rfl
    | err p e =>
      simp only
      rw [lexF_eq _ _ _ (Nat.lt_succ_self _)] <;> (cases lexR 0 (s.take p) <;> rfl)
def exG (n : Nat) (t : List Tok × Int × Int) : Exp × Int × Int :=
  if (resM t.2.1 t.2.2 (exF n t.1)).2 ≠ 0 then (zEx, resM t.2.1 t.2.2 (exF n t.1)) else ((exprM n (st0 t.1)).1, 0, 0)
def prG (n : Nat) (t : List Tok × Int × Int) : Pg × Int × Int :=
  if (resM t.2.1 t.2.2 (prgM n (st0 t.1)).2).2 ≠ 0 then (zPg, resM t.2.1 t.2.2 (prgM n (st0 t.1)).2) else ((prgM n (st0 t.1)).1, 0, 0)
def shape : Exp → Bool
  | .mk op _ _ _ [_, .mk op2 _ _ _ [_, .mk op3 _ _ _ _]] => decide (op = 13) && (decide (op2 = 11) && decide (op3 = 10))
  | _ => false
theorem shape_ex {e : Exp} (h : shape e = true) : ∃ v nm nl x v2 n2 l2 y v3 n3 l3 r, e = .mk 13 v nm nl [x, .mk 11 v2 n2 l2 [y, .mk 10 v3 n3 l3 r]] := by
  unfold shape at h
  split at h
  · simp only [Bool.and_eq_true, decide_eq_true_eq] at h
    obtain ⟨rfl, rfl, rfl⟩ := h
    exact ⟨_, _, _, _, _, _, _, _, _, _, _, _, rfl⟩
  · cases h
abbrev src1 : List UInt8 := [97, 32, 45, 32, 98, 32, 42, 32, 110, 111, 116, 32, 99, 91, 105, 32, 43, 32, 49, 93]
abbrev src2 : List UInt8 := [97, 32, 60, 32, 98, 32, 60, 32, 99]
abbrev src3 : List UInt8 := [97, 32, 43]
abbrev src4 : List UInt8 := [108, 101, 116, 32, 120, 32, 61, 32, 49]
abbrev src5 : List UInt8 := [112, 117, 98, 108, 105, 99, 32, 120, 58, 32, 117, 105, 110, 116, 32, 54, 51, 59]
abbrev fu5 : Nat := 200
theorem len5 : 12 * (tokP src1).1.length + 20 ≤ fu5 ∧ 12 * (tokP src2).1.length + 20 ≤ fu5 ∧ 12 * (tokP src3).1.length + 20 ≤ fu5 ∧ 12 * (tokP src4).1.length + 20 ≤ fu5 ∧ 12 * (tokP src5).1.length + 20 ≤ fu5 := by
  rw [tokF_eq, tokF_eq, tokF_eq, tokF_eq, tokF_eq]
  decide +kernel
theorem ex_1 : shape (exN fu5 src1).1 = true ∧ (exN fu5 src1).2 = (0, 0) := by
  show shape (exG fu5 (tokP src1)).1 = true ∧ (exG fu5 (tokP src1)).2 = (0, 0)
  rw [tokF_eq]
  decide +kernel
theorem ex_2 : (exN fu5 src2).2 = (6, 2) := by
  show (exG fu5 (tokP src2)).2 = _
  rw [tokF_eq]
  decide +kernel
theorem ex_3 : (exN fu5 src3).2 = (3, 2) := by
  show (exG fu5 (tokP src3)).2 = _
  rw [tokF_eq]
  decide +kernel
theorem pr_4 : (prN fu5 src4).2 = (9, 2) := by
  show (prG fu5 (tokP src4)).2 = _
  rw [tokF_eq]
  decide +kernel
theorem pr_5 : (prN fu5 src5).2 = (15, 3) := by
  show (prG fu5 (tokP src5)).2 = _
  rw [tokF_eq]
  decide +kernel
end Go.Ky
