/- KX 5: programs of the circuit language as plain data; which are valid. No program in sight. -/
import Derived.Test.YtdjcnfacjfnakaaPi31
import Derived.Test.YtdjcnfacjfnakaaLx1
import Derived.Test.YtdjcnfacjfnakaaPi29
namespace Go.Ky
open Go.Pi

abbrev Nm := List UInt8
structure Ty where
  kind : Int
  bits : Int
  len : Int
deriving DecidableEq
abbrev tTy (t : Ty) : List T := [.int .i64 t.kind, .int .i64 t.bits, .int .i64 t.len]
def zTy : Ty := ⟨0, 0, 0⟩
def fieldT : Ty := ⟨1, 0, 0⟩
def boolT : Ty := ⟨2, 0, 0⟩

inductive Exp where
  | mk (op val : Int) (name : Nm) (nl : Bool) (args : List Exp)
instance : Inhabited Exp := ⟨.mk 0 0 [] true []⟩
def Exp.op : Exp → Int | .mk o _ _ _ _ => o
def Exp.val : Exp → Int | .mk _ v _ _ _ => v
def Exp.name : Exp → Nm | .mk _ _ n _ _ => n
def Exp.nl : Exp → Bool | .mk _ _ _ b _ => b
def Exp.args : Exp → List Exp | .mk _ _ _ _ l => l
theorem Exp.ind {p : Exp → Prop} (h : ∀ e : Exp, (∀ a, a ∈ e.args → p a) → p e) : ∀ e, p e := by
  intro e
  refine Exp.rec (motive_1 := p) (motive_2 := fun l => ∀ a, a ∈ l → p a) ?_ ?_ ?_ e
  · intro o v n b l ih
    exact h (.mk o v n b l) ih
  · intro a ha; cases ha
  · intro x l hx hl a ha
    rcases List.mem_cons.1 ha with e | e
    · subst e; exact hx
    · exact hl a e
mutual
def tEx : Exp → List T
  | .mk o v n nl l => [.int .i64 o, .int .u64 v, .str n, .sl nl (tExs l)]
def tExs : List Exp → List (List T)
  | [] => []
  | e :: r => tEx e :: tExs r
end
theorem tExs_map (l : List Exp) : tExs l = l.map tEx := by
  induction l with
  | nil => rfl
  | cons e r ih => rw [tExs, ih]; rfl
theorem tEx_eq (e : Exp) : tEx e = [.int .i64 e.op, .int .u64 e.val, .str e.name, .sl e.nl (tExs e.args)] := by
  cases e; rfl
theorem tExs_len (l : List Exp) : (tExs l).length = l.length := by rw [tExs_map, List.length_map]
theorem tExs_get (l : List Exp) (i : Nat) : (tExs l)[i]? = l[i]?.map tEx := by rw [tExs_map, List.getElem?_map]

inductive St where
  | mk (kind : Int) (name : Nm) (typed : Bool) (ty : Ty) (ex : Exp) (lo hi : Int) (nl : Bool) (body : List St)
instance : Inhabited St := ⟨.mk 0 [] false zTy default 0 0 true []⟩
def St.kind : St → Int | .mk k _ _ _ _ _ _ _ _ => k
def St.name : St → Nm | .mk _ n _ _ _ _ _ _ _ => n
def St.typed : St → Bool | .mk _ _ b _ _ _ _ _ _ => b
def St.ty : St → Ty | .mk _ _ _ t _ _ _ _ _ => t
def St.ex : St → Exp | .mk _ _ _ _ e _ _ _ _ => e
def St.lo : St → Int | .mk _ _ _ _ _ l _ _ _ => l
def St.hi : St → Int | .mk _ _ _ _ _ _ h _ _ => h
def St.nl : St → Bool | .mk _ _ _ _ _ _ _ b _ => b
def St.body : St → List St | .mk _ _ _ _ _ _ _ _ l => l
theorem St.ind {p : St → Prop} (h : ∀ s : St, (∀ a, a ∈ s.body → p a) → p s) : ∀ s, p s := by
  intro s
  refine St.rec (motive_1 := p) (motive_2 := fun l => ∀ a, a ∈ l → p a) ?_ ?_ ?_ s
  · intro k n b t e lo hi nl l ih
    exact h (.mk k n b t e lo hi nl l) ih
  · intro a ha; cases ha
  · intro x l hx hl a ha
    rcases List.mem_cons.1 ha with e | e
    · subst e; exact hx
    · exact hl a e
mutual
def tSt : St → List T
  | .mk k n b t e lo hi nl l => [.int .i64 k, .str n, .bool b, .int .i64 t.kind, .int .i64 t.bits, .int .i64 t.len, .int .i64 e.op, .int .u64 e.val, .str e.name, .sl e.nl (tExs e.args), .int .i64 lo, .int .i64 hi, .sl nl (tSts l)]
def tSts : List St → List (List T)
  | [] => []
  | e :: r => tSt e :: tSts r
end
theorem tSts_map (l : List St) : tSts l = l.map tSt := by
  induction l with
  | nil => rfl
  | cons e r ih => rw [tSts, ih]; rfl
theorem tSt_eq (s : St) : tSt s = [.int .i64 s.kind, .str s.name, .bool s.typed, .int .i64 s.ty.kind, .int .i64 s.ty.bits, .int .i64 s.ty.len, .int .i64 s.ex.op, .int .u64 s.ex.val, .str s.ex.name, .sl s.ex.nl (tExs s.ex.args), .int .i64 s.lo, .int .i64 s.hi, .sl s.nl (tSts s.body)] := by
  cases s; rfl
theorem tSts_len (l : List St) : (tSts l).length = l.length := by rw [tSts_map, List.length_map]
theorem tSts_get (l : List St) (i : Nat) : (tSts l)[i]? = l[i]?.map tSt := by rw [tSts_map, List.getElem?_map]
structure Pa where
  name : Nm
  ty : Ty
abbrev tPa (p : Pa) : List T := [.str p.name, .int .i64 p.ty.kind, .int .i64 p.ty.bits, .int .i64 p.ty.len]
structure Fu where
  name : Nm
  pnl : Bool
  params : List Pa
  res : Ty
  bnl : Bool
  body : List St
  ret : Exp
abbrev tFu (f : Fu) : List T := [.str f.name, .sl f.pnl (f.params.map tPa), .int .i64 f.res.kind, .int .i64 f.res.bits, .int .i64 f.res.len, .sl f.bnl (tSts f.body), .int .i64 f.ret.op, .int .u64 f.ret.val, .str f.ret.name, .sl f.ret.nl (tExs f.ret.args)]
structure De where
  pub : Bool
  name : Nm
  ty : Ty
abbrev tDe (d : De) : List T := [.bool d.pub, .str d.name, .int .i64 d.ty.kind, .int .i64 d.ty.bits, .int .i64 d.ty.len]
structure Pg where
  fnl : Bool
  funcs : List Fu
  dnl : Bool
  decls : List De
  bnl : Bool
  body : List St
abbrev tPg (p : Pg) : List T := [.sl p.fnl (p.funcs.map tFu), .sl p.dnl (p.decls.map tDe), .sl p.bnl (tSts p.body)]

/-! ### What an argument's reading promises -/
abbrev B47 : Nat := 140737488355328
def I64 (n : Int) : Prop := -9223372036854775808 ≤ n ∧ n ≤ 9223372036854775807
def U64 (n : Int) : Prop := 0 ≤ n ∧ n ≤ 18446744073709551615
def TyOk (t : Ty) : Prop := I64 t.kind ∧ I64 t.bits ∧ I64 t.len
inductive ExpOk : Exp → Prop where
  | mk (e : Exp) (h1 : I64 e.op) (h2 : U64 e.val) (h3 : e.name.length ≤ B47) (h4 : e.args.length ≤ B47) (h5 : e.nl = true → e.args = []) (h : ∀ a, a ∈ e.args → ExpOk a) : ExpOk e
inductive StOk : St → Prop where
  | mk (s : St) (h1 : I64 s.kind) (h2 : s.name.length ≤ B47) (h3 : TyOk s.ty) (h4 : ExpOk s.ex) (h5 : I64 s.lo) (h6 : I64 s.hi) (h7 : s.body.length ≤ B47) (h8 : s.nl = true → s.body = []) (h : ∀ a, a ∈ s.body → StOk a) : StOk s
def PaOk (p : Pa) : Prop := p.name.length ≤ B47 ∧ TyOk p.ty
structure FuOk (f : Fu) : Prop where
  name : f.name.length ≤ B47
  pl : f.params.length ≤ B47
  pn : f.pnl = true → f.params = []
  pa : ∀ p, p ∈ f.params → PaOk p
  res : TyOk f.res
  bl : f.body.length ≤ B47
  bn : f.bnl = true → f.body = []
  bo : ∀ s, s ∈ f.body → StOk s
  ret : ExpOk f.ret
def DeOk (d : De) : Prop := d.name.length ≤ B47 ∧ TyOk d.ty
structure PgOk (p : Pg) : Prop where
  fl : p.funcs.length ≤ B47
  fn : p.fnl = true → p.funcs = []
  fo : ∀ f, f ∈ p.funcs → FuOk f
  dl : p.decls.length ≤ B47
  dn : p.dnl = true → p.decls = []
  dok : ∀ d, d ∈ p.decls → DeOk d
  bl : p.body.length ≤ B47
  bn : p.bnl = true → p.body = []
  bo : ∀ s, s ∈ p.body → StOk s
abbrev ctTy : List CT := [.int .i64, .int .i64, .int .i64]
/-- The kinds of the cells of expressions, x, and of statements, s: the numbers of their types. -/
abbrev ctEx (x : Nat) : List CT := [.int .i64, .int .u64, .str, .slr x]
abbrev ctSt (x s : Nat) : List CT := [.int .i64, .str, .bool, .int .i64, .int .i64, .int .i64, .int .i64, .int .u64, .str, .slr x, .int .i64, .int .i64, .slr s]
abbrev ctPa : List CT := [.str, .int .i64, .int .i64, .int .i64]
abbrev ctFu (x s : Nat) : List CT := [.str, .sl ctPa, .int .i64, .int .i64, .int .i64, .slr s, .int .i64, .int .u64, .str, .slr x]
abbrev ctDe : List CT := [.bool, .str, .int .i64, .int .i64, .int .i64]
abbrev ctPg (x s : Nat) : List CT := [.sl (ctFu x s), .sl ctDe, .slr s]
def envPg (x s : Nat) (t : Nat) : List CT := if t = x then ctEx x else if t = s then ctSt x s else []
theorem envPg_x {x s : Nat} : envPg x s x = ctEx x := by simp [envPg]
theorem envPg_s {x s : Nat} (h : s ≠ x) : envPg x s s = ctSt x s := by simp [envPg, h]
section
variable {env : Nat → List CT} {x s : Nat}
theorem exs_rep {N : Nat} (hN : N ≤ B47) (hx : env x = ctEx x) : ∀ (c : CT) (y : T), Wt env N c y → c = .slr x → ∃ (nl : Bool) (l : List Exp), y = .sl nl (tExs l) ∧ l.length ≤ N ∧ (nl = true → l = []) ∧ ∀ a, a ∈ l → ExpOk a := by
  intro c y h
  induction h with
  | nslr t => intro _; exact ⟨true, [], rfl, Nat.zero_le _, fun _ => rfl, by simp⟩
  | slr t es hl hc h ih =>
    intro e
    injection e with e
    subst e
    rw [hx] at hc h ih
    obtain ⟨l, h1, h2⟩ := list_enc (enc := tEx) (p := ExpOk) (es := es) fun e he => by
      have hw : Wts env N (ctEx t) e := ⟨hc e he, h e he⟩
      obtain ⟨y1, r1, rfl, w1, hw⟩ := wts_cons hw
      obtain ⟨y2, r2, rfl, w2, hw⟩ := wts_cons hw
      obtain ⟨y3, r3, rfl, w3, hw⟩ := wts_cons hw
      obtain ⟨y4, r4, rfl, w4, hw⟩ := wts_cons hw
      have := wts_nil hw
      subst this
      obtain ⟨op, rfl, o1, o2⟩ := wt_i64 w1
      obtain ⟨v, rfl, v1, v2⟩ := wt_u64 w2
      obtain ⟨n, rfl, n1⟩ := wt_str w3
      obtain ⟨nl, l, rfl, l1, l2, l3⟩ := ih _ he 3 _ y4 rfl rfl rfl
      exact ⟨.mk op v n nl l, rfl, .mk _ ⟨o1, o2⟩ ⟨v1, v2⟩ (Nat.le_trans n1 hN) (Nat.le_trans l1 hN) l2 l3⟩
    subst h1
    exact ⟨false, l, by rw [tExs_map], by simpa using hl, by simp, h2⟩
  | _ => intro e; cases e
theorem ty_rep {N : Nat} {y1 y2 y3 : T} (w1 : Wt env N (.int .i64) y1) (w2 : Wt env N (.int .i64) y2) (w3 : Wt env N (.int .i64) y3) : ∃ t : Ty, y1 = .int .i64 t.kind ∧ y2 = .int .i64 t.bits ∧ y3 = .int .i64 t.len ∧ TyOk t := by
  obtain ⟨a, rfl, a1, a2⟩ := wt_i64 w1
  obtain ⟨b, rfl, b1, b2⟩ := wt_i64 w2
  obtain ⟨c, rfl, c1, c2⟩ := wt_i64 w3
  exact ⟨⟨a, b, c⟩, rfl, rfl, rfl, ⟨a1, a2⟩, ⟨b1, b2⟩, ⟨c1, c2⟩⟩
theorem ex_rep {N : Nat} (hN : N ≤ B47) (hx : env x = ctEx x) {y1 y2 y3 y4 : T} (w1 : Wt env N (.int .i64) y1) (w2 : Wt env N (.int .u64) y2) (w3 : Wt env N .str y3) (w4 : Wt env N (.slr x) y4) :
    ∃ e : Exp, y1 = .int .i64 e.op ∧ y2 = .int .u64 e.val ∧ y3 = .str e.name ∧ y4 = .sl e.nl (tExs e.args) ∧ ExpOk e := by
  obtain ⟨op, rfl, o1, o2⟩ := wt_i64 w1
  obtain ⟨v, rfl, v1, v2⟩ := wt_u64 w2
  obtain ⟨n, rfl, n1⟩ := wt_str w3
  obtain ⟨nl, l, rfl, l1, l2, l3⟩ := exs_rep hN hx _ y4 w4 rfl
  exact ⟨.mk op v n nl l, rfl, rfl, rfl, rfl, .mk _ ⟨o1, o2⟩ ⟨v1, v2⟩ (Nat.le_trans n1 hN) (Nat.le_trans l1 hN) l2 l3⟩
theorem sts_rep {N : Nat} (hN : N ≤ B47) (hx : env x = ctEx x) (hs : env s = ctSt x s) : ∀ (c : CT) (y : T), Wt env N c y → c = .slr s → ∃ (nl : Bool) (l : List St), y = .sl nl (tSts l) ∧ l.length ≤ N ∧ (nl = true → l = []) ∧ ∀ a, a ∈ l → StOk a := by
  intro c y h
  induction h with
  | nslr t => intro _; exact ⟨true, [], rfl, Nat.zero_le _, fun _ => rfl, by simp⟩
  | slr t es hl hc h ih =>
    intro e
    injection e with e
    subst e
    rw [hs] at hc h ih
    obtain ⟨l, h1, h2⟩ := list_enc (enc := tSt) (p := StOk) (es := es) fun e he => by
      have hw : Wts env N (ctSt x t) e := ⟨hc e he, h e he⟩
      obtain ⟨y1, r1, rfl, w1, hw⟩ := wts_cons hw
      obtain ⟨y2, r2, rfl, w2, hw⟩ := wts_cons hw
      obtain ⟨y3, r3, rfl, w3, hw⟩ := wts_cons hw
      obtain ⟨y4, r4, rfl, w4, hw⟩ := wts_cons hw
      obtain ⟨y5, r5, rfl, w5, hw⟩ := wts_cons hw
      obtain ⟨y6, r6, rfl, w6, hw⟩ := wts_cons hw
      obtain ⟨y7, r7, rfl, w7, hw⟩ := wts_cons hw
      obtain ⟨y8, r8, rfl, w8, hw⟩ := wts_cons hw
      obtain ⟨y9, r9, rfl, w9, hw⟩ := wts_cons hw
      obtain ⟨y10, r10, rfl, w10, hw⟩ := wts_cons hw
      obtain ⟨y11, r11, rfl, w11, hw⟩ := wts_cons hw
      obtain ⟨y12, r12, rfl, w12, hw⟩ := wts_cons hw
      obtain ⟨y13, r13, rfl, w13, hw⟩ := wts_cons hw
      have := wts_nil hw
      subst this
      obtain ⟨k, rfl, k1, k2⟩ := wt_i64 w1
      obtain ⟨n, rfl, n1⟩ := wt_str w2
      obtain ⟨b, rfl⟩ := wt_bool w3
      obtain ⟨ty, rfl, rfl, rfl, t1⟩ := ty_rep w4 w5 w6
      obtain ⟨e, rfl, rfl, rfl, rfl, e1⟩ := ex_rep hN hx w7 w8 w9 w10
      obtain ⟨lo, rfl, lo1, lo2⟩ := wt_i64 w11
      obtain ⟨hi, rfl, hi1, hi2⟩ := wt_i64 w12
      obtain ⟨nl, l, rfl, l1, l2, l3⟩ := ih _ he 12 _ y13 rfl rfl rfl
      exact ⟨.mk k n b ty e lo hi nl l, rfl, .mk _ ⟨k1, k2⟩ (Nat.le_trans n1 hN) t1 e1 ⟨lo1, lo2⟩ ⟨hi1, hi2⟩ (Nat.le_trans l1 hN) l2 l3⟩
    subst h1
    exact ⟨false, l, by rw [tSts_map], by simpa using hl, by simp, h2⟩
  | _ => intro e; cases e
theorem pg_rep {N : Nat} (hN : N ≤ B47) (hx : env x = ctEx x) (hs : env s = ctSt x s) {y1 y2 y3 : T} (w1 : Wt env N (.sl (ctFu x s)) y1) (w2 : Wt env N (.sl ctDe) y2) (w3 : Wt env N (.slr s) y3) :
    ∃ p : Pg, y1 = .sl p.fnl (p.funcs.map tFu) ∧ y2 = .sl p.dnl (p.decls.map tDe) ∧ y3 = .sl p.bnl (tSts p.body) ∧ PgOk p := by
  obtain ⟨fnl, fes, rfl, f1, f2, f3⟩ := wt_sl w1
  obtain ⟨dnl, des, rfl, d1, d2, d3⟩ := wt_sl w2
  obtain ⟨bnl, bo, rfl, b1, b2, b3⟩ := sts_rep hN hx hs _ y3 w3 rfl
  obtain ⟨fs, g1, g2⟩ := list_enc (enc := tFu) (p := FuOk) (es := fes) fun e he => by
    obtain ⟨y1, r1, rfl, w1, hw⟩ := wts_cons (f3 e he)
    obtain ⟨y2, r2, rfl, w2, hw⟩ := wts_cons hw
    obtain ⟨y3, r3, rfl, w3, hw⟩ := wts_cons hw
    obtain ⟨y4, r4, rfl, w4, hw⟩ := wts_cons hw
    obtain ⟨y5, r5, rfl, w5, hw⟩ := wts_cons hw
    obtain ⟨y6, r6, rfl, w6, hw⟩ := wts_cons hw
    obtain ⟨y7, r7, rfl, w7, hw⟩ := wts_cons hw
    obtain ⟨y8, r8, rfl, w8, hw⟩ := wts_cons hw
    obtain ⟨y9, r9, rfl, w9, hw⟩ := wts_cons hw
    obtain ⟨y10, r10, rfl, w10, hw⟩ := wts_cons hw
    have := wts_nil hw
    subst this
    obtain ⟨n, rfl, n1⟩ := wt_str w1
    obtain ⟨pnl, pes, rfl, p1, p2, p3⟩ := wt_sl w2
    obtain ⟨ps, q1, q2⟩ := list_enc (enc := tPa) (p := PaOk) (es := pes) fun e he => by
      obtain ⟨y1, r1, rfl, w1, hw⟩ := wts_cons (p3 e he)
      obtain ⟨y2, r2, rfl, w2, hw⟩ := wts_cons hw
      obtain ⟨y3, r3, rfl, w3, hw⟩ := wts_cons hw
      obtain ⟨y4, r4, rfl, w4, hw⟩ := wts_cons hw
      have := wts_nil hw
      subst this
      obtain ⟨n, rfl, n1⟩ := wt_str w1
      obtain ⟨ty, rfl, rfl, rfl, t1⟩ := ty_rep w2 w3 w4
      exact ⟨⟨n, ty⟩, rfl, Nat.le_trans n1 hN, t1⟩
    subst q1
    obtain ⟨ty, rfl, rfl, rfl, t1⟩ := ty_rep w3 w4 w5
    obtain ⟨sn, sl, rfl, s1, s2, s3⟩ := sts_rep hN hx hs _ y6 w6 rfl
    obtain ⟨e, rfl, rfl, rfl, rfl, e1⟩ := ex_rep hN hx w7 w8 w9 w10
    refine ⟨⟨n, pnl, ps, ty, sn, sl, e⟩, rfl, ?_⟩
    exact ⟨Nat.le_trans n1 hN, by simpa using Nat.le_trans p1 hN, fun h => by simpa using p2 h, q2, t1, Nat.le_trans s1 hN, s2, s3, e1⟩
  obtain ⟨ds, h1, h2⟩ := list_enc (enc := tDe) (p := DeOk) (es := des) fun e he => by
    obtain ⟨y1, r1, rfl, w1, hw⟩ := wts_cons (d3 e he)
    obtain ⟨y2, r2, rfl, w2, hw⟩ := wts_cons hw
    obtain ⟨y3, r3, rfl, w3, hw⟩ := wts_cons hw
    obtain ⟨y4, r4, rfl, w4, hw⟩ := wts_cons hw
    obtain ⟨y5, r5, rfl, w5, hw⟩ := wts_cons hw
    have := wts_nil hw
    subst this
    obtain ⟨b, rfl⟩ := wt_bool w1
    obtain ⟨n, rfl, n1⟩ := wt_str w2
    obtain ⟨ty, rfl, rfl, rfl, t1⟩ := ty_rep w3 w4 w5
    exact ⟨⟨b, n, ty⟩, rfl, Nat.le_trans n1 hN, t1⟩
  subst g1 h1
  refine ⟨⟨fnl, fs, dnl, ds, bnl, bo⟩, rfl, rfl, rfl, ?_⟩
  exact ⟨by simpa using Nat.le_trans f1 hN, fun h => by simpa using f2 h, g2, by simpa using Nat.le_trans d1 hN, fun h => by simpa using d2 h, h2, Nat.le_trans b1 hN, b2, b3⟩
end
end Go.Ky

/- KX 6: valid programs, the checker of types, the steps, in plain words. No program in sight. -/
namespace Go.Ky
open Go.Pi Go.Lx

/-! ### Sizes -/
abbrev B20 : Nat := 1100000
def szE (e : Exp) : Nat := tBks (tEx e)
def szEs (l : List Exp) : Nat := tBkss (tExs l)
def szS (s : St) : Nat := tBks (tSt s)
def szSs (l : List St) : Nat := tBkss (tSts l)
theorem szE_eq (e : Exp) : szE e = 4 + e.name.length + szEs e.args := by
  unfold szE szEs
  rw [tEx_eq]
  simp only [tBks, tBk]
  omega
theorem szEs_cons (e : Exp) (r : List Exp) : szEs (e :: r) = szE e + szEs r := rfl
theorem szS_eq (s : St) : szS s = 13 + s.name.length + s.ex.name.length + szEs s.ex.args + szSs s.body := by
  unfold szS szSs szEs
  rw [tSt_eq]
  simp only [tBks, tBk]
  omega
theorem szSs_cons (e : St) (r : List St) : szSs (e :: r) = szS e + szSs r := rfl
theorem szEs_mem {l : List Exp} {e : Exp} (h : e ∈ l) : szE e ≤ szEs l := by
  induction l with
  | nil => cases h
  | cons x r ih =>
    rw [szEs_cons]
    rcases List.mem_cons.1 h with e | e
    · subst e; omega
    · have := ih e; omega
theorem szSs_mem {l : List St} {e : St} (h : e ∈ l) : szS e ≤ szSs l := by
  induction l with
  | nil => cases h
  | cons x r ih =>
    rw [szSs_cons]
    rcases List.mem_cons.1 h with e | e
    · subst e; omega
    · have := ih e; omega
theorem szEs_len (l : List Exp) : l.length ≤ szEs l := by
  induction l with
  | nil => exact Nat.zero_le _
  | cons x r ih => rw [szEs_cons, szE_eq, List.length_cons]; omega
theorem szSs_len (l : List St) : l.length ≤ szSs l := by
  induction l with
  | nil => exact Nat.zero_le _
  | cons x r ih => rw [szSs_cons, szS_eq, List.length_cons]; omega
theorem szS_ex (s : St) : szE s.ex ≤ szS s := by rw [szS_eq, szE_eq]; omega

/-! ### Validity -/
def nameB : List UInt8 → Bool
  | [] => false
  | c :: r => decide ((c :: r).length ≤ 24) && isLet c && decide (span isNam (c :: r) = (c :: r).length) && !keywords.contains (c :: r)
def tyB (t : Ty) : Bool :=
  if t.len < 0 ∨ 64 < t.len then false else if t.kind = 1 ∨ t.kind = 2 then decide (t.bits = 0) else if t.kind = 3 then decide (1 ≤ t.bits) && decide (t.bits ≤ 62) else false
def opB (op n v : Int) (nm : Nm) : Bool :=
  if op = 1 then decide (n = 0) && decide (nm = [])
  else if op = 2 then decide (n = 0) && decide (v = 0) && nameB nm
  else if op = 3 ∨ op = 4 then decide (n = 0) && decide (v = 0) && decide (nm = [])
  else if op = 5 then decide (v = 0) && nameB nm
  else if op = 6 then decide (1 ≤ n) && decide (nm = [])
  else if op = 7 then decide (1 ≤ n) && decide (v = 0) && decide (nm = [])
  else if op = 9 ∨ op = 10 then decide (n = 1) && decide (v = 0) && decide (nm = [])
  else if op = 20 then decide (n = 3) && decide (v = 0) && decide (nm = [])
  else if op = 8 ∨ op = 11 ∨ op = 12 ∨ op = 13 ∨ op = 14 ∨ op = 15 ∨ op = 16 ∨ op = 17 ∨ op = 18 ∨ op = 19 then decide (n = 2) && decide (v = 0) && decide (nm = [])
  else false
mutual
def exB : Exp → Bool
  | .mk o v n _ l => exsB l && opB o (l.length : Int) v n
def exsB : List Exp → Bool
  | [] => true
  | e :: r => exB e && exsB r
end
theorem exsB_all (l : List Exp) : exsB l = l.all exB := by
  induction l with
  | nil => rfl
  | cons e r ih => rw [exsB, ih]; rfl
theorem exB_eq (e : Exp) : exB e = (e.args.all exB && opB e.op (e.args.length : Int) e.val e.name) := by
  cases e
  rw [exB, exsB_all]; rfl
def emptyE (e : Exp) : Bool := decide (e.op = 0) && decide (e.val = 0) && decide (e.name = []) && decide ((e.args.length : Int) = 0)
def loopN (n : Int) : Bool := decide (0 ≤ n) && decide (n ≤ 1000000)
def untyped (s : St) : Bool := !s.typed && decide (s.ty = zTy)
mutual
def stB : St → Bool
  | .mk k n b t e lo hi _ l =>
    if k = 1 then !(!b && !decide (t = zTy) || b && !tyB t) && nameB n && exB e && decide (lo = 0) && decide (hi = 0) && decide ((l.length : Int) = 0)
    else if k = 2 then decide (n = []) && (!b && decide (t = zTy)) && exB e && decide (lo = 0) && decide (hi = 0) && decide ((l.length : Int) = 0)
    else if k = 3 then nameB n && (!b && decide (t = zTy)) && emptyE e && loopN lo && loopN hi && stsB l
    else false
def stsB : List St → Bool
  | [] => true
  | s :: r => stB s && stsB r
end
theorem stsB_all (l : List St) : stsB l = l.all stB := by
  induction l with
  | nil => rfl
  | cons e r ih => rw [stsB, ih]; rfl
theorem stB_eq (s : St) : stB s = if s.kind = 1 then !(!s.typed && !decide (s.ty = zTy) || s.typed && !tyB s.ty) && nameB s.name && exB s.ex && decide (s.lo = 0) && decide (s.hi = 0) && decide ((s.body.length : Int) = 0)
    else if s.kind = 2 then decide (s.name = []) && untyped s && exB s.ex && decide (s.lo = 0) && decide (s.hi = 0) && decide ((s.body.length : Int) = 0)
    else if s.kind = 3 then nameB s.name && untyped s && emptyE s.ex && loopN s.lo && loopN s.hi && s.body.all stB
    else false := by
  cases s
  rw [stB, stsB_all]; rfl
def paB (p : Pa) : Bool := nameB p.name && tyB p.ty
def deB (d : De) : Bool := nameB d.name && tyB d.ty
def fuB (f : Fu) : Bool := nameB f.name && f.params.all paB && tyB f.res && f.body.all stB && exB f.ret
mutual
def dEx : Exp → Nat
  | .mk _ _ _ _ l => dExs l + 1
def dExs : List Exp → Nat
  | [] => 0
  | e :: r => max (dEx e) (dExs r)
end
mutual
def dSt : St → Nat
  | .mk _ _ _ _ _ _ _ _ l => dSts l + 1
def dSts : List St → Nat
  | [] => 0
  | e :: r => max (dSt e) (dSts r)
end
theorem dEx_eq (e : Exp) : dEx e = dExs e.args + 1 := by cases e; rfl
theorem dSt_eq (s : St) : dSt s = dSts s.body + 1 := by cases s; rfl
theorem dEx_le : ∀ e : Exp, dEx e ≤ szE e := by
  refine Exp.ind fun e ih => ?_
  rw [dEx_eq, szE_eq]
  have : ∀ l : List Exp, (∀ a, a ∈ l → dEx a ≤ szE a) → dExs l ≤ szEs l := by
    intro l
    induction l with
    | nil => intro _; exact Nat.zero_le _
    | cons x r ihr =>
      intro h
      have h1 := h x (by simp)
      have h2 := ihr fun a ha => h a (by simp [ha])
      rw [dExs, szEs_cons]
      omega
  have := this e.args ih
  omega
theorem dExs_le (l : List Exp) : dExs l ≤ szEs l := by
  induction l with
  | nil => exact Nat.zero_le _
  | cons x r ih =>
    have := dEx_le x
    rw [dExs, szEs_cons]
    omega
theorem dSt_le : ∀ e : St, dSt e ≤ szS e := by
  refine St.ind fun e ih => ?_
  rw [dSt_eq, szS_eq]
  have : ∀ l : List St, (∀ a, a ∈ l → dSt a ≤ szS a) → dSts l ≤ szSs l := by
    intro l
    induction l with
    | nil => intro _; exact Nat.zero_le _
    | cons x r ihr =>
      intro h
      have h1 := h x (by simp)
      have h2 := ihr fun a ha => h a (by simp [ha])
      rw [dSts, szSs_cons]
      omega
  have := this e.body ih
  omega
theorem dSts_le (l : List St) : dSts l ≤ szSs l := by
  induction l with
  | nil => exact Nat.zero_le _
  | cons x r ih =>
    have := dSt_le x
    rw [dSts, szSs_cons]
    omega
def shE (e : Exp) : Bool := decide ((dEx e : Int) ≤ 40)
mutual
def shS : St → Bool
  | .mk k n b t e lo hi nl l => decide ((dSt (.mk k n b t e lo hi nl l) : Int) ≤ 40) && shE e && shSs l
def shSs : List St → Bool
  | [] => true
  | s :: r => shS s && shSs r
end
theorem shSs_all (l : List St) : shSs l = l.all shS := by
  induction l with
  | nil => rfl
  | cons e r ih => rw [shSs, ih]; rfl
theorem shS_eq (s : St) : shS s = (decide ((dSt s : Int) ≤ 40) && shE s.ex && s.body.all shS) := by
  cases s
  rw [shS, shSs_all]; rfl
def shF (f : Fu) : Bool := f.body.all shS && shE f.ret
/-- 0: valid; 1: malformed; 3: too deep. -/
def validP (p : Pg) : Int :=
  if (p.funcs.all fuB && p.decls.all deB && p.body.all stB) = false then 1 else if (p.funcs.all shF && p.body.all shS) = false then 3 else 0

/-! ### The checker -/
structure Sy where
  typ : Ty
  loop : Bool
  low : Int
  high : Int
abbrev Ns := List (Nm × Sy)
abbrev Fs := List (Nm × Fu)
def look {α : Type} (k : Nm) : List (Nm × α) → Option α
  | [] => none
  | (j, x) :: r => if k = j then some x else look k r
abbrev tSy (s : Sy) : List T := [.int .i64 s.typ.kind, .int .i64 s.typ.bits, .int .i64 s.typ.len, .bool s.loop, .int .i64 s.low, .int .i64 s.high]
abbrev zSy : List T := [.int .i64 0, .int .i64 0, .int .i64 0, .bool false, .int .i64 0, .int .i64 0]
def fitsB (t u : Ty) : Bool := if t.len ≠ u.len then false else if u.kind = 1 then true else decide (t.kind = u.kind) && decide (t.bits ≤ u.bits)
def lenZ (x : Int) : Int := if x = 0 then 0 else (x.toNat.log2 : Int) + 1
def numT (n : Int) : Ty := if 4611686018427387904 ≤ n then fieldT else ⟨3, if lenZ n > 1 then lenZ n else 1, 0⟩
def isSc (t : Ty) : Bool := decide (t.len = 0)
def isBo (t : Ty) : Bool := decide (t = boolT)
/-- A type, or an error. -/
abbrev Rt := Ty × Int
def bad (e : Int) : Rt := (zTy, e)
def allM (p : Ty → Bool) (l : List Ty) (r : Ty) : Rt := if l.all p then (r, 0) else bad 6
def callFit : List Ty → List Pa → Bool
  | t :: r, p :: ps => fitsB t p.ty && callFit r ps
  | _, _ => true
def callM (fs : Fs) (nm : Nm) (l : List Ty) : Rt :=
  match look nm fs with
  | none => bad 4
  | some f => if (l.length : Int) ≠ (f.params.length : Int) then bad 6 else if callFit l f.params then (f.res, 0) else bad 6
def listGo (a : Ty) : List Ty → Ty → Option Ty
  | [], r => some r
  | t :: l, r => if t.len ≠ 0 then none else if t ≠ a then listGo a l fieldT else listGo a l r
def listM (l : List Ty) : Rt :=
  match l with
  | [] => bad 99
  | a :: _ => match listGo a l a with
    | none => bad 6
    | some r => (⟨r.kind, r.bits, (l.length : Int)⟩, 0)
def choiceM (c x y : Ty) : Rt := if isBo c = false then bad 6 else if x = y then (x, 0) else if isSc x && isSc y then (fieldT, 0) else bad 6
def mx (x y : Int) : Int := if y > x then y else x
def compM (x y : Ty) (w : Int) : Rt × Int :=
  if x.kind ≠ 3 ∨ y.kind ≠ 3 ∨ x.len ≠ 0 ∨ y.len ≠ 0 then (bad 6, w) else ((boolT, 0), mx w (IntKind.i64.wrap (mx x.bits y.bits + 1)))
/-- Is an index inside? An error, if it has no permitted form. -/
def posM (ns : Ns) (e : Exp) (len : Int) : Bool × Int :=
  let most := IntKind.u64.wrap len
  if e.op = 1 then (decide (e.val < most), 0)
  else
    let two := e.op = 12 ∨ e.op = 13
    let nm := if two then e.args.getD 0 default else e
    let off := if two then (e.args.getD 1 default).val else 0
    if two ∧ (e.args.getD 1 default).op ≠ 1 then (false, 6)
    else if nm.op ≠ 2 then (false, 6)
    else match look nm.name ns with
      | none => (false, 4)
      | some s => if s.loop = false then (false, 6) else if s.low = s.high then (true, 0) else
        let first := IntKind.u64.wrap s.low
        let last := IntKind.u64.wrap (IntKind.i64.wrap (s.high - 1))
        if e.op = 13 then (decide (off ≤ first) && decide (IntKind.u64.wrap (last - off) < most), 0)
        else (decide (off < most) && decide (IntKind.u64.wrap (last + off) < most), 0)
def opM (fs : Fs) (ns : Ns) (op val : Int) (nm : Nm) (l : List Ty) (w : Int) : Rt × Int :=
  if op = 1 then ((numT val, 0), w)
  else if op = 3 ∨ op = 4 then ((boolT, 0), w)
  else if op = 2 then ((match look nm ns with | none => bad 4 | some s => (s.typ, 0)), w)
  else if op = 5 then (callM fs nm l, w)
  else if op = 6 then (if 65536 ≤ val then bad 8 else allM isSc l fieldT, w)
  else if op = 7 then (listM l, w)
  else if op = 20 then (choiceM (l.getD 0 zTy) (l.getD 1 zTy) (l.getD 2 zTy), w)
  else if op = 14 ∨ op = 15 then (allM isSc l boolT, w)
  else if op = 16 ∨ op = 17 then compM (l.getD 0 zTy) (l.getD 1 zTy) w
  else if op = 10 ∨ op = 18 ∨ op = 19 then (allM isBo l boolT, w)
  else (allM isSc l fieldT, w)
def idxM (ns : Ns) (r : Rt × Int) (b : Exp) : Rt × Int :=
  if r.1.2 ≠ 0 then (bad r.1.2, r.2)
  else
    let q := posM ns b r.1.1.len
    if q.2 ≠ 0 then (bad q.2, r.2) else if r.1.1.len = 0 then (bad 6, r.2) else if q.1 = false then (bad 8, r.2) else ((⟨r.1.1.kind, r.1.1.bits, 0⟩, 0), r.2)
mutual
def exM (fs : Fs) (ns : Ns) : Exp → Int → Rt × Int
  | .mk op val nm _ l, w =>
    if op = 8 then (match l with
      | a :: b :: _ => idxM ns (exM fs ns a w) b
      | _ => (bad 99, w))
    else
      let q := exsM fs ns l w
      if q.1.2 ≠ 0 then (bad q.1.2, q.2) else opM fs ns op val nm q.1.1 q.2
def exsM (fs : Fs) (ns : Ns) : List Exp → Int → (List Ty × Int) × Int
  | [], w => (([], 0), w)
  | a :: r, w =>
    let q := exM fs ns a w
    if q.1.2 ≠ 0 then (([], q.1.2), q.2) else
      let q2 := exsM fs ns r q.2
      if q2.1.2 ≠ 0 then (([], q2.1.2), q2.2) else ((q.1.1 :: q2.1.1, 0), q2.2)
end
theorem exM_eq (fs : Fs) (ns : Ns) (e : Exp) (w : Int) : exM fs ns e w = if e.op = 8 then (match e.args with
      | a :: b :: _ => idxM ns (exM fs ns a w) b
      | _ => (bad 99, w))
    else
      let q := exsM fs ns e.args w
      if q.1.2 ≠ 0 then (bad q.1.2, q.2) else opM fs ns e.op e.val e.name q.1.1 q.2 := by
  cases e with | mk op v n b l =>
  rcases l with _ | ⟨x, _ | ⟨y, r⟩⟩ <;> (simp only [exM]; rfl)
/-- An error, or 0; the names, the width. -/
abbrev Rs := Int × Ns × Int
def decM (nm : Nm) (s : Sy) (ns : Ns) (w : Int) : Rs := match look nm ns with
  | some _ => (5, ns, w)
  | none => (0, ns ++ [(nm, s)], w)
def noteM (t : Ty) (w : Int) : Int := if t.kind = 3 then mx w t.bits else w
mutual
def stM (fs : Fs) : St → Ns → Int → Rs
  | .mk k nm typed ty e lo hi _ l, ns, w =>
    if k = 3 then (if lo > hi then (8, ns, w) else match decM nm ⟨fieldT, true, lo, hi⟩ ns w with
      | (d, ns1, w1) => if d ≠ 0 then (d, ns1, w1) else match stsM fs l ns1 w1 with
        | (d2, ns2, w2) => if d2 ≠ 0 then (d2, ns2, w2) else (0, ns, w2))
    else
      let q := exM fs ns e w
      if q.1.2 ≠ 0 then (q.1.2, ns, q.2)
      else if k = 2 then (if q.1.1 ≠ boolT then 6 else 0, ns, q.2)
      else if typed then (if (ty.len = 0 ∧ q.1.1.len ≠ 0) ∨ (ty.len ≠ 0 ∧ fitsB q.1.1 ty = false) then (6, ns, q.2) else decM nm ⟨ty, false, 0, 0⟩ ns (noteM ty q.2))
      else decM nm ⟨q.1.1, false, 0, 0⟩ ns q.2
def stsM (fs : Fs) : List St → Ns → Int → Rs
  | [], ns, w => (0, ns, w)
  | s :: r, ns, w => match stM fs s ns w with
    | (d, ns1, w1) => if d ≠ 0 then (d, ns1, w1) else stsM fs r ns1 w1
end
/-- Statements whose names are forgotten. -/
def bodyM (fs : Fs) (l : List St) (ns : Ns) (w : Int) : Rs := match stsM fs l ns w with
  | (d, ns1, w1) => if d ≠ 0 then (d, ns1, w1) else (0, ns, w1)
theorem stM_eq (fs : Fs) (s : St) (ns : Ns) (w : Int) : stM fs s ns w =
    if s.kind = 3 then (if s.lo > s.hi then (8, ns, w) else match decM s.name ⟨fieldT, true, s.lo, s.hi⟩ ns w with
      | (d, ns1, w1) => if d ≠ 0 then (d, ns1, w1) else match stsM fs s.body ns1 w1 with
        | (d2, ns2, w2) => if d2 ≠ 0 then (d2, ns2, w2) else (0, ns, w2))
    else
      let q := exM fs ns s.ex w
      if q.1.2 ≠ 0 then (q.1.2, ns, q.2)
      else if s.kind = 2 then (if q.1.1 ≠ boolT then 6 else 0, ns, q.2)
      else if s.typed then (if (s.ty.len = 0 ∧ q.1.1.len ≠ 0) ∨ (s.ty.len ≠ 0 ∧ fitsB q.1.1 s.ty = false) then (6, ns, q.2) else decM s.name ⟨s.ty, false, 0, 0⟩ ns (noteM s.ty q.2))
      else decM s.name ⟨q.1.1, false, 0, 0⟩ ns q.2 := by
  cases s
  rw [stM]; rfl
def parsM : List Pa → Ns → Int → Rs
  | [], ns, w => (0, ns, w)
  | p :: r, ns, w => match decM p.name ⟨p.ty, false, 0, 0⟩ ns w with
    | (d, ns1, w1) => if d ≠ 0 then (d, ns1, w1) else parsM r ns1 w1
/-- An error, or 0; the functions, the width. No name is visible ahead or behind. -/
def funM (fs : Fs) (f : Fu) (w : Int) : Int × Fs × Int :=
  match look f.name fs with
  | some _ => (5, fs, w)
  | none => match parsM f.params [] w with
    | (d, ns1, w1) => if d ≠ 0 then (d, fs, w1) else match stsM fs f.body ns1 w1 with
      | (d2, ns2, w2) => if d2 ≠ 0 then (d2, fs, w2) else
        let q := exM fs ns2 f.ret w2
        if q.1.2 ≠ 0 then (q.1.2, fs, q.2) else if fitsB q.1.1 f.res = false then (6, fs, q.2) else (0, fs ++ [(f.name, f)], q.2)
def funsM : List Fu → Fs → Int → Int × Fs × Int
  | [], fs, w => (0, fs, w)
  | f :: r, fs, w => match funM fs f w with
    | (d, fs1, w1) => if d ≠ 0 then (d, fs1, w1) else funsM r fs1 w1
def desM : List De → Ns → Int → Rs
  | [], ns, w => (0, ns, w)
  | d :: r, ns, w => match decM d.name ⟨d.ty, false, 0, 0⟩ ns w with
    | (e, ns1, w1) => if e ≠ 0 then (e, ns1, w1) else desM r ns1 (noteM d.ty w1)
/-- An error, or 0; the width. -/
def progM (p : Pg) : Int × Int :=
  match funsM p.funcs [] 0 with
  | (d, fs, w) => if d ≠ 0 then (d, w) else match desM p.decls [] w with
    | (d1, ns, w1) => if d1 ≠ 0 then (d1, w1) else match bodyM fs p.body ns w1 with
      | (d2, _, w2) => (d2, w2)

/-! ### Steps -/
def mn (x y : Int) : Int := if y < x then y else x
abbrev Ks := List (Nm × Int)
def lookI (k : Nm) (l : Ks) : Int := (look k l).getD 0
mutual
def csE (ks : Ks) : Exp → Int
  | .mk op _ nm _ l => mn 20001 (csEs ks l (if op = 5 then 1 + lookI nm ks else 0))
def csEs (ks : Ks) : List Exp → Int → Int
  | [], n => n
  | e :: r, n => csEs ks r (mn 20001 (n + csE ks e))
end
theorem csE_eq (ks : Ks) (e : Exp) : csE ks e = mn 20001 (csEs ks e.args (if e.op = 5 then 1 + lookI e.name ks else 0)) := by
  cases e
  rw [csE]; rfl
mutual
def bsS (ks : Ks) : St → Int
  | .mk k _ _ _ e lo hi _ l => if k = 3 then (hi - lo) * bsSs ks l 0 else 1 + csE ks e
def bsSs (ks : Ks) : List St → Int → Int
  | [], n => n
  | s :: r, n => bsSs ks r (mn (n + bsS ks s) 20001)
end
theorem bsS_eq (ks : Ks) (s : St) : bsS ks s = if s.kind = 3 then (s.hi - s.lo) * bsSs ks s.body 0 else 1 + csE ks s.ex := by
  cases s
  rw [bsS]; rfl
/-- A number for a name, over an older one. -/
def putK (k : Nm) (n : Int) : Ks → Ks
  | [] => [(k, n)]
  | (j, m) :: r => if k = j then (k, n) :: r else (j, m) :: putK k n r
def stepK : List Fu → Ks → Ks
  | [], ks => ks
  | f :: r, ks => stepK r (putK f.name (mn 20001 (bsSs ks f.body 0 + csE ks f.ret)) ks)
def stepsP (p : Pg) : Int := bsSs (stepK p.funcs []) p.body 0
/-- The width, the steps, an error. -/
def examP (p : Pg) : Int × Int × Int :=
  if validP p ≠ 0 then (0, 0, 1) else match progM p with
  | (d, w) => if d ≠ 0 then (0, 0, d) else if stepsP p > 20000 then (0, 0, 3) else (w, stepsP p, 0)
end Go.Ky

/- KX 7: stores that grow; maps with names for keys; slices of types. -/
namespace Go.Ky
open Go.Pi Go.Lx

/-- The store has more behind it. -/
def Grow (sg sg' : Sg) : Prop := ∃ r, sg' = sg ++ r
theorem Grow.refl (sg : Sg) : Grow sg sg := ⟨[], by simp⟩
theorem Grow.trans {a b c : Sg} (h : Grow a b) (h' : Grow b c) : Grow a c := by
  obtain ⟨r, rfl⟩ := h
  obtain ⟨r', rfl⟩ := h'
  exact ⟨r ++ r', by rw [List.append_assoc]⟩
theorem Grow.app (sg r : Sg) : Grow sg (sg ++ r) := ⟨r, rfl⟩
theorem Grow.app2 {a b : Sg} (h : Grow a b) (r : Sg) : Grow a (b ++ r) := h.trans (.app _ _)
theorem Grow.get {sg sg' : Sg} (h : Grow sg sg') {i : Nat} {x : Bool × List PV} (hi : sg[i]? = some x) : sg'[i]? = some x := by
  obtain ⟨r, rfl⟩ := h
  exact get_more hi
theorem Grow.len {sg sg' : Sg} (h : Grow sg sg') : sg.length ≤ sg'.length := by
  obtain ⟨r, rfl⟩ := h
  simp
/-- All but one segment stay; more may be behind. -/
def Fr (c : Nat) (sg sg' : Sg) : Prop := sg.length ≤ sg'.length ∧ ∀ i, i < sg.length → i ≠ c → sg'[i]? = sg[i]?
theorem Fr.refl (c : Nat) (sg : Sg) : Fr c sg sg := ⟨Nat.le_refl _, fun _ _ _ => rfl⟩
theorem Fr.trans {c : Nat} {a b d : Sg} (h : Fr c a b) (h' : Fr c b d) : Fr c a d :=
  ⟨Nat.le_trans h.1 h'.1, fun i hi hc => (h'.2 i (Nat.lt_of_lt_of_le hi h.1) hc).trans (h.2 i hi hc)⟩
theorem Fr.of {c : Nat} {a b : Sg} (h : Grow a b) : Fr c a b := by
  obtain ⟨r, rfl⟩ := h
  exact ⟨by simp, fun i hi _ => List.getElem?_append_left hi⟩
theorem Fr.get {c : Nat} {a b : Sg} (h : Fr c a b) {i : Nat} {x : Bool × List PV} (hi : a[i]? = some x) (hc : i ≠ c) : b[i]? = some x := by
  rw [h.2 i (List.getElem?_eq_some_iff.1 hi).1 hc]; exact hi
theorem Fr.set {c : Nat} {a b : Sg} (h : Fr c a b) (x : Bool × List PV) : Fr c a (b.set c x) := by
  refine ⟨by simpa using h.1, fun i hi hc => ?_⟩
  rw [List.getElem?_set_ne (fun e => hc e.symm)]
  exact h.2 i hi hc
theorem get_set {sg : Sg} {i : Nat} {x y : Bool × List PV} (h : sg[i]? = some x) : (sg.set i y)[i]? = some y :=
  List.getElem?_set_self (List.getElem?_eq_some_iff.1 h).1
theorem lt_of_get {sg : Sg} {i : Nat} {x : Bool × List PV} (h : sg[i]? = some x) : i < sg.length := (List.getElem?_eq_some_iff.1 h).1

/-! ### Maps -/
def ents {α : Type} (enc : α → T) (l : List (Nm × α)) : List PV := l.map fun p => .tup [.t (.str p.1), .t (enc p.2)]
theorem eq1_str (a b : List UInt8) : eq1 2 (.str a) (.str b) = some (decide (a = b)) := by
  show some (a == b) = _
  congr 1
  by_cases h : a = b
  · subst h; simp
  · rw [decide_eq_false h]; simpa using h
theorem mfind_ents {α : Type} (enc : α → T) (k : Nm) (l : List (Nm × α)) : mfind 2 (.str k) (ents enc l) = some ((look k l).map enc) := by
  induction l with
  | nil => rfl
  | cons p r ih =>
    obtain ⟨j, x⟩ := p
    show mfind 2 (.str k) (.tup [.t (.str j), .t (enc x)] :: ents enc r) = _
    simp only [mfind, eq1_str, look]
    by_cases h : k = j
    · subst h; simp
    · simp only [decide_eq_false h, if_neg h]; exact ih
theorem mset_new {α : Type} (enc : α → T) (k : Nm) (v : α) (l : List (Nm × α)) (h : look k l = none) : mset 2 (.str k) (enc v) (ents enc l) = ents enc (l ++ [(k, v)]) := by
  induction l with
  | nil => rfl
  | cons p r ih =>
    obtain ⟨j, x⟩ := p
    simp only [look] at h
    split at h
    · cases h
    · rename_i hk
      show mset 2 (.str k) (enc v) (.tup [.t (.str j), .t (enc x)] :: ents enc r) = _
      simp only [mset, eq1_str, decide_eq_false hk, ih h]
      simp [ents]
theorem mset_put (k : Nm) (n : Int) (l : Ks) : mset 2 (.str k) (.int .i64 n) (ents (fun x => .int .i64 x) l) = ents (fun x => .int .i64 x) (putK k n l) := by
  induction l with
  | nil => rfl
  | cons p r ih =>
    obtain ⟨j, x⟩ := p
    show mset 2 (.str k) (.int .i64 n) (.tup [.t (.str j), .t (.int .i64 x)] :: ents _ r) = _
    simp only [mset, eq1_str, putK]
    by_cases h : k = j
    · subst h; simp [ents]
    · simp only [decide_eq_false h, if_neg h, ih]
      simp [ents]
theorem mdel_last {α : Type} (enc : α → T) (k : Nm) (v : α) (l r : List (Nm × α)) (h : look k l = none) : mdel 2 (.str k) (ents enc (l ++ (k, v) :: r)) = ents enc (l ++ r) := by
  induction l with
  | nil => 
    show mdel 2 (.str k) (.tup [.t (.str k), .t (enc v)] :: ents enc r) = _
    simp [mdel, eq1_str]
  | cons p l ih =>
    obtain ⟨j, x⟩ := p
    simp only [look] at h
    split at h
    · cases h
    · rename_i hk
      show mdel 2 (.str k) (.tup [.t (.str j), .t (enc x)] :: ents enc (l ++ (k, v) :: r)) = _
      simp only [mdel, eq1_str, decide_eq_false hk, ih h]
      simp [ents]
theorem look_app {α : Type} (k : Nm) (l r : List (Nm × α)) : look k (l ++ r) = match look k l with | some x => some x | none => look k r := by
  induction l with
  | nil => rfl
  | cons p l ih =>
    obtain ⟨j, x⟩ := p
    simp only [List.cons_append, look]
    split
    · rfl
    · exact ih
theorem look_none {α : Type} {k : Nm} {l : List (Nm × α)} : look k l = none ↔ k ∉ l.map (·.1) := by
  induction l with
  | nil => simp [look]
  | cons p l ih =>
    obtain ⟨j, x⟩ := p
    simp only [look, List.map_cons, List.mem_cons, not_or]
    split
    · rename_i h; simp [h]
    · rename_i h; rw [ih]; simp [h]

theorem ty_beq (s : Ty) (a b c : Int) : (s.kind == a && (s.bits == b && s.len == c)) = decide (s = ⟨a, b, c⟩) := by
  cases s
  simp only [Ty.mk.injEq]
  rw [Bool.eq_iff_iff]
  simp
theorem ty_beq2 (s t : Ty) : (s.kind == t.kind && (s.bits == t.bits && s.len == t.len)) = decide (s = t) := ty_beq s t.kind t.bits t.len
/-! ### Results -/
theorem xR_ct {gl : Nat → Option (List T)} {k l n : Nat} {ag : Bool} {fr : List PV} {sg : Sg} {ow : Ow} {K : PV → Sg → Ow → Prop} : xR gl [(k, some (ag, n)), (l, none)] K ⟨⟩ .ret ⟨fr, sg, ow⟩ ↔ xO (loadP gl sg ag n (fget fr k)) (fun v => K (.tup [v, fget fr l]) sg ow) ⟨⟩ := by
  show resK gl _ K .ret _ ↔ onO _ _
  simp only [resK, resAll, List.mapM_cons, List.mapM_nil, resOne]
  cases loadP gl sg ag n (fget fr k) <;> rfl
/-! ### Slices of types -/
def SlT (sg : Sg) (v : PV) (ts : List Ty) : Prop :=
  (ts = [] ∧ ∃ k, v = .own k 3 []) ∨ ∃ a cs, v = .ls a 0 ts.length 3 ∧ sg[a]? = some (false, cs) ∧ cs.length = ts.length * 3 ∧ ∀ i t, ts[i]? = some t → (cs.drop (i * 3)).take 3 = [.t (.int .i64 t.kind), .t (.int .i64 t.bits), .t (.int .i64 t.len)]
theorem SlT.grow {sg sg' : Sg} {v : PV} {ts : List Ty} (h : SlT sg v ts) (hg : Grow sg sg') : SlT sg' v ts := by
  rcases h with h | ⟨a, cs, h1, h2, h3⟩
  · exact .inl h
  · exact .inr ⟨a, cs, h1, hg.get h2, h3⟩
theorem SlT.len {sg : Sg} {v : PV} {ts : List Ty} (h : SlT sg v ts) : lenP false v = some ts.length := by
  rcases h with ⟨rfl, k, rfl⟩ | ⟨a, cs, rfl, _⟩
  · rfl
  · rfl
/-! ### Integers -/
theorem i64_succ {i n : Nat} (h : i < n) (hn : n ≤ 281474976710656) : IntKind.wrap .i64 ((i : Int) + 1) = ((i + 1 : Nat) : Int) := by rw [IntWalk.i64_in _ (by omega)]; omega
end Go.Ky

/- KX 8: the checker's store. -/
namespace Go.Ky
open Go.Pi Go.Lx

theorem grow_of {sg sg' : Sg} (h : ∀ i : Nat, i < sg.length → sg'[i]? = sg[i]?) : Grow sg sg' := by
  refine ⟨sg'.drop sg.length, ?_⟩
  apply List.ext_getElem?
  intro i
  rcases Nat.lt_or_ge i sg.length with hi | hi
  · rw [List.getElem?_append_left hi, h i hi]
  · rw [List.getElem?_append_right hi, List.getElem?_drop]
    congr 1
    omega
theorem Fr.grow {b : Nat} {sg sg0 sg' : Sg} (hg : Grow sg sg0) (h : Fr b sg0 sg') (hb : sg.length ≤ b) : Grow sg sg' := by
  refine grow_of fun i hi => ?_
  rw [h.2 i (Nat.lt_of_lt_of_le hi hg.len) (by omega)]
  obtain ⟨r, rfl⟩ := hg
  exact List.getElem?_append_left hi
theorem set_same {sg : Sg} {i : Nat} {x : Bool × List PV} (h : sg[i]? = some x) : sg.set i x = sg := by
  apply List.ext_getElem?
  intro j
  by_cases hj : i = j
  · subst hj
    rw [List.getElem?_set_self (lt_of_get h), h]
  · rw [List.getElem?_set_ne hj]
abbrev cTy (t : Ty) : List PV := [.t (.int .i64 t.kind), .t (.int .i64 t.bits), .t (.int .i64 t.len)]
abbrev tRt (r : Rt) : PV := .tup [.t (.agg (tTy r.1)), .t (.int .i64 r.2)]
/-- The checker's segments. -/
structure Ck (sg : Sg) (c f n : Nat) (fs : Fs) (ns : Ns) (od : PV) (w : Int) : Prop where
  c : sg[c]? = some (false, [.mp f, .mp n, od, .t (.int .i64 w)])
  f : sg[f]? = some (true, ents (fun x => .agg (tFu x)) fs)
  n : sg[n]? = some (true, ents (fun x => .agg (tSy x)) ns)
theorem Ck.fc {sg : Sg} {c f n : Nat} {fs : Fs} {ns : Ns} {od : PV} {w : Int} (h : Ck sg c f n fs ns od w) : f ≠ c := fun e => by
  have h1 := h.c
  have h2 := h.f
  rw [e, h1] at h2
  injection h2 with h2
  injection h2 with h2 _
  cases h2
theorem Ck.nc {sg : Sg} {c f n : Nat} {fs : Fs} {ns : Ns} {od : PV} {w : Int} (h : Ck sg c f n fs ns od w) : n ≠ c := fun e => by
  have h1 := h.c
  have h2 := h.n
  rw [e, h1] at h2
  injection h2 with h2
  injection h2 with h2 _
  cases h2
theorem Ck.grow {sg sg' : Sg} {c f n : Nat} {fs : Fs} {ns : Ns} {od : PV} {w : Int} (h : Ck sg c f n fs ns od w) (hg : Grow sg sg') : Ck sg' c f n fs ns od w := ⟨hg.get h.c, hg.get h.f, hg.get h.n⟩
theorem Ck.fr {sg sg' : Sg} {c f n : Nat} {fs : Fs} {ns : Ns} {od : PV} {w w' : Int} (h : Ck sg c f n fs ns od w) (hr : Fr c sg sg') (hc : sg'[c]? = some (false, [.mp f, .mp n, od, .t (.int .i64 w')])) : Ck sg' c f n fs ns od w' := ⟨hc, hr.get h.f h.fc, hr.get h.n h.nc⟩
theorem app_get {sg : Sg} {c : Nat} (h : c < sg.length) (r : Sg) : (sg ++ r)[c]? = sg[c]? := List.getElem?_append_left h
theorem app_set {sg : Sg} {c : Nat} (h : c < sg.length) (r : Sg) (x : Bool × List PV) : (sg ++ r).set c x = sg.set c x ++ r := List.set_append_left _ _ h
theorem gs0 {sg r : Sg} {c : Nat} {x : Bool × List PV} : (sg.set c x ++ r)[sg.length]? = r[0]? := by
  have := @get_app0 _ (sg.set c x) r
  rw [List.length_set] at this
  exact this
theorem gsk {sg r : Sg} {c k : Nat} {x : Bool × List PV} : (sg.set c x ++ r)[sg.length + k]? = r[k]? := by
  have := @get_app _ (sg.set c x) r k
  rw [List.length_set] at this
  exact this
theorem ss0 {sg r : Sg} {c : Nat} {x y : Bool × List PV} : (sg.set c x ++ r).set sg.length y = sg.set c x ++ r.set 0 y := by
  have := @set_app0 _ (sg.set c x) r y
  rw [List.length_set] at this
  exact this
theorem ssk {sg r : Sg} {c k : Nat} {x y : Bool × List PV} : (sg.set c x ++ r).set (sg.length + k) y = sg.set c x ++ r.set k y := by
  have := @set_app _ (sg.set c x) r y k
  rw [List.length_set] at this
  exact this
theorem gsc {sg r : Sg} {c : Nat} {x : Bool × List PV} (h : c < sg.length) : (sg.set c x ++ r)[c]? = some x := by
  rw [List.getElem?_append_left (by simpa using h), List.getElem?_set_self h]
theorem Fr.setapp (c : Nat) (sg : Sg) (x : Bool × List PV) (r : Sg) : Fr c sg (sg.set c x ++ r) := by
  refine ⟨by simp, fun i hi hc => ?_⟩
  rw [List.getElem?_append_left (by simpa using hi), List.getElem?_set_ne (fun e => hc e.symm)]
theorem Fr.app {c : Nat} {sg sg' : Sg} (h : Fr c sg sg') (r : Sg) : Fr c sg (sg' ++ r) := h.trans (Fr.of (.app _ _))
end Go.Ky

/- KX 9: what a region keeps; three cells of a row. -/
namespace Go.Ky
open Go.Pi Go.Lx

noncomputable def keep1 (a b : Option (Bool × List PV)) : Option Unit := @ite _ (a = b) (Classical.propDecidable _) (some ()) none
theorem keep1_self (a : Option (Bool × List PV)) : keep1 a a = some () := by unfold keep1; simp
noncomputable def keepP (sg sg' : Sg) : PV → Option Unit
  | .lp id _ => keep1 sg'[id]? sg[id]?
  | _ => none
theorem keepsV_nil {fr : List PV} {sg sg' : Sg} : keepsV fr [] sg sg' = some () := keepsV_of (fun k h => by cases h)
theorem keepsV_cons {fr : List PV} {k : Nat} {ks : List Nat} {sg sg' : Sg} : keepsV fr (k :: ks) sg sg' = (keepP sg sg' (fget fr k)).bind fun _ => keepsV fr ks sg sg' := by
  by_cases h : keeps fr (k :: ks) sg sg'
  · rw [keepsV_of h]
    obtain ⟨id, off, h1, h2⟩ := h k (by simp)
    rw [h1]
    simp only [keepP, h2, keep1_self, Option.bind_some]
    rw [keepsV_of (fun j hj => h j (by simp [hj]))]
  · have hn : keepsV fr (k :: ks) sg sg' = none := by
      unfold keepsV
      rw [if_neg (fun e => h (keepsB_iff.1 e))]
    rw [hn]
    cases hk : keepP sg sg' (fget fr k) with
    | none => rfl
    | some u =>
      simp only [Option.bind_some]
      by_cases h2 : keeps fr ks sg sg'
      · exfalso
        apply h
        intro j hj
        rcases List.mem_cons.1 hj with e | e
        · subst e
          cases hv : fget fr j <;> rw [hv] at hk <;> simp only [keepP, reduceCtorEq] at hk
          rename_i id off
          refine ⟨id, off, rfl, ?_⟩
          unfold keep1 at hk
          by_cases he : sg'[id]? = sg[id]?
          · exact he
          · simp [he] at hk
        · exact h2 j e
      · unfold keepsV
        rw [if_neg (fun e => h2 (keepsB_iff.1 e))]
/-- All but two segments stay. -/
def Fr2 (c a : Nat) (sg sg' : Sg) : Prop := sg.length ≤ sg'.length ∧ ∀ i, i < sg.length → i ≠ c → i ≠ a → sg'[i]? = sg[i]?
theorem Fr2.refl (c a : Nat) (sg : Sg) : Fr2 c a sg sg := ⟨Nat.le_refl _, fun _ _ _ _ => rfl⟩
theorem Fr2.trans {c a : Nat} {x y z : Sg} (h : Fr2 c a x y) (h' : Fr2 c a y z) : Fr2 c a x z :=
  ⟨Nat.le_trans h.1 h'.1, fun i hi hc ha => (h'.2 i (Nat.lt_of_lt_of_le hi h.1) hc ha).trans (h.2 i hi hc ha)⟩
theorem Fr2.of {c a : Nat} {x y : Sg} (h : Fr c x y) : Fr2 c a x y := ⟨h.1, fun i hi hc _ => h.2 i hi hc⟩
theorem Fr2.get {c a : Nat} {x y : Sg} (h : Fr2 c a x y) {i : Nat} {v : Bool × List PV} (hi : x[i]? = some v) (hc : i ≠ c) (ha : i ≠ a) : y[i]? = some v := by
  rw [h.2 i (lt_of_get hi) hc ha]; exact hi
theorem Fr2.set {c a : Nat} {x y : Sg} (h : Fr2 c a x y) (v : Bool × List PV) : Fr2 c a x (y.set a v) := by
  refine ⟨by simpa using h.1, fun i hi hc ha => ?_⟩
  rw [List.getElem?_set_ne (fun e => ha e.symm)]
  exact h.2 i hi hc ha
/-- A segment that is new does not count. -/
theorem Fr2.fr {c a : Nat} {sg x y : Sg} (hg : Fr c sg x) (h : Fr2 c a x y) (ha : sg.length ≤ a) : Fr c sg y :=
  ⟨Nat.le_trans hg.1 h.1, fun i hi hc => (h.2 i (Nat.lt_of_lt_of_le hi hg.1) hc (by omega)).trans (hg.2 i hi hc)⟩
theorem set3 {cs : List PV} {i : Nat} {a b c : PV} (h : i * 3 + 3 ≤ cs.length) :
    (((cs.set (i * 3) a).set (i * 3 + 1) b).set (i * 3 + 1 + 1) c).length = cs.length ∧ ((((cs.set (i * 3) a).set (i * 3 + 1) b).set (i * 3 + 1 + 1) c).drop (i * 3)).take 3 = [a, b, c] ∧
    ∀ j, j ≠ i → ((((cs.set (i * 3) a).set (i * 3 + 1) b).set (i * 3 + 1 + 1) c).drop (j * 3)).take 3 = (cs.drop (j * 3)).take 3 := by
  refine ⟨by simp, ?_, fun j hj => ?_⟩
  · apply List.ext_getElem?
    intro k
    rw [List.getElem?_take, List.getElem?_drop]
    by_cases hk : k < 3
    · rw [if_pos hk]
      match k, hk with
      | 0, _ => rw [List.getElem?_set_ne (by omega), List.getElem?_set_ne (by omega)]; simp only [Nat.add_zero]; rw [List.getElem?_set_self (by omega)]; rfl
      | 1, _ => rw [List.getElem?_set_ne (by omega), List.getElem?_set_self (by simp; omega)]; rfl
      | 2, _ => rw [List.getElem?_set_self (by simp; omega)]; rfl
    · rw [if_neg hk, List.getElem?_eq_none (by simp; omega)]
  · apply List.ext_getElem?
    intro k
    rw [List.getElem?_take, List.getElem?_take, List.getElem?_drop, List.getElem?_drop]
    by_cases hk : k < 3
    · rw [if_pos hk, if_pos hk, List.getElem?_set_ne (by omega), List.getElem?_set_ne (by omega), List.getElem?_set_ne (by omega)]
    · rw [if_neg hk, if_neg hk]
theorem exB_two {e : Exp} (h : exB e = true) (ho : e.op = 8 ∨ e.op = 12 ∨ e.op = 13 ∨ e.op = 16 ∨ e.op = 17) : ∃ a b, e.args = [a, b] := by
  rw [exB_eq] at h
  simp only [Bool.and_eq_true] at h
  have h2 := h.2
  have hl : e.args.length = 2 := by
    unfold opB at h2
    rcases ho with ho | ho | ho | ho | ho <;> rw [ho] at h2 <;> simp at h2 <;> omega
  match hq : e.args, hl with
  | [a, b], _ => exact ⟨a, b, rfl⟩
theorem exB_three {e : Exp} (h : exB e = true) (ho : e.op = 20) : ∃ a b c, e.args = [a, b, c] := by
  rw [exB_eq] at h
  simp only [Bool.and_eq_true] at h
  have h2 := h.2
  have hl : e.args.length = 3 := by
    unfold opB at h2
    rw [ho] at h2
    simp at h2
    omega
  match hq : e.args, hl with
  | [a, b, c], _ => exact ⟨a, b, c, rfl⟩
theorem exB_some {e : Exp} (h : exB e = true) (ho : e.op = 7) : 0 < e.args.length := by
  rw [exB_eq] at h
  simp only [Bool.and_eq_true] at h
  have h2 := h.2
  unfold opB at h2
  rw [ho] at h2
  simp at h2
  omega
theorem exB_args {e : Exp} (h : exB e = true) : ∀ a, a ∈ e.args → exB a = true := by
  rw [exB_eq] at h
  simp only [Bool.and_eq_true] at h
  exact List.all_eq_true.1 h.1
end Go.Ky

/- KX 10: arrays of types under way. -/
namespace Go.Ky
open Go.Pi Go.Lx

theorem Ck.fr2 {sg sg' : Sg} {c f n a : Nat} {fs : Fs} {ns : Ns} {od : PV} {w w' : Int} (h : Ck sg c f n fs ns od w) (hr : Fr2 c a sg sg') (hf : f ≠ a) (hn : n ≠ a) (hc : sg'[c]? = some (false, [.mp f, .mp n, od, .t (.int .i64 w')])) : Ck sg' c f n fs ns od w' := ⟨hc, hr.get h.f h.fc hf, hr.get h.n h.nc hn⟩
theorem Fr2.app {c a : Nat} {x y : Sg} (h : Fr2 c a x y) (r : Sg) : Fr2 c a x (y ++ r) := h.trans (Fr2.of (Fr.of (.app _ _)))
theorem cells2 {cs : List PV} {a b : Ty} (hl : cs.length = 2 * 3) (h : ∀ i t, [a, b][i]? = some t → (cs.drop (i * 3)).take 3 = cTy t) : cs = cTy a ++ cTy b := by
  have h0 := h 0 a rfl
  have h1 := h 1 b rfl
  match cs, hl with
  | [x1, x2, x3, x4, x5, x6], _ =>
    simp at h0 h1
    simp [h0, h1]
theorem cells3 {cs : List PV} {a b d : Ty} (hl : cs.length = 3 * 3) (h : ∀ i t, [a, b, d][i]? = some t → (cs.drop (i * 3)).take 3 = cTy t) : cs = cTy a ++ (cTy b ++ cTy d) := by
  have h0 := h 0 a rfl
  have h1 := h 1 b rfl
  have h2 := h 2 d rfl
  match cs, hl with
  | [x1, x2, x3, x4, x5, x6, x7, x8, x9], _ =>
    simp at h0 h1 h2
    simp [h0, h1, h2]
theorem zeros3 (n : Nat) : ((List.replicate n [T.int .i64 0, T.int .i64 0, T.int .i64 0]).flatten.map PV.t).length = n * 3 := by
  rw [List.length_map, List.length_flatten]
  simp
/-- The first types of an array are there. -/
def Arr (sg : Sg) (a n : Nat) (ts : List Ty) : Prop := ∃ cs, sg[a]? = some (false, cs) ∧ cs.length = n * 3 ∧ ∀ i t, ts[i]? = some t → (cs.drop (i * 3)).take 3 = cTy t
theorem Arr.get {sg sg' : Sg} {a n : Nat} {ts : List Ty} (h : Arr sg a n ts) (hg : sg'[a]? = sg[a]?) : Arr sg' a n ts := by
  obtain ⟨cs, h1, h2⟩ := h
  exact ⟨cs, by rw [hg]; exact h1, h2⟩
theorem Arr.put {sg : Sg} {a n : Nat} {ts : List Ty} {cs : List PV} (h : cs.length = n * 3) (hcs : ∀ i t, ts[i]? = some t → (cs.drop (i * 3)).take 3 = cTy t) (hn : ts.length < n) (ha : a < sg.length) (t : Ty) :
    Arr (sg.set a (false, (((cs.set (ts.length * 3) (.t (.int .i64 t.kind))).set (ts.length * 3 + 1) (.t (.int .i64 t.bits))).set (ts.length * 3 + 1 + 1) (.t (.int .i64 t.len))))) a n (ts ++ [t]) := by
  have hs := set3 (cs := cs) (i := ts.length) (a := .t (.int .i64 t.kind)) (b := .t (.int .i64 t.bits)) (c := .t (.int .i64 t.len)) (by omega)
  refine ⟨_, List.getElem?_set_self ha, by rw [hs.1, h], fun i u hu => ?_⟩
  by_cases hi : i = ts.length
  · subst hi
    rw [hs.2.1]
    simp at hu
    subst hu
    rfl
  · rw [hs.2.2 i hi]
    have hlt := (List.getElem?_eq_some_iff.1 hu).1
    simp at hlt
    rw [List.getElem?_append_left (by omega)] at hu
    exact hcs i u hu
theorem exsM_cons (fs : Fs) (ns : Ns) (a : Exp) (r : List Exp) (w : Int) : exsM fs ns (a :: r) w = if (exM fs ns a w).1.2 ≠ 0 then (([], (exM fs ns a w).1.2), (exM fs ns a w).2) else
      if (exsM fs ns r (exM fs ns a w).2).1.2 ≠ 0 then (([], (exsM fs ns r (exM fs ns a w).2).1.2), (exsM fs ns r (exM fs ns a w).2).2) else (((exM fs ns a w).1.1 :: (exsM fs ns r (exM fs ns a w).2).1.1, 0), (exsM fs ns r (exM fs ns a w).2).2) := by
  rw [exsM]
theorem mks_ty (sg : Sg) (ow : Ow) (n : Nat) (h : n ≤ B20) : ∃ v r ow', mksV false sg ow 3 24 [.int .i64 0, .int .i64 0, .int .i64 0] (.t (.int .i64 n)) (.t (.int .i64 n)) = some (v, sg ++ r, ow') ∧ ((n = 0 ∧ ∃ k, v = .own k 3 []) ∨ (0 < n ∧ v = .ls sg.length 0 n 3 ∧ Arr (sg ++ r) sg.length n [])) := by
  have hb : B20 = 1100000 := rfl
  have hr : room n 24 = true := by unfold room; simp only [decide_eq_true_eq]; omega
  by_cases h0 : n = 0
  · subst h0
    exact ⟨_, [], _, by simp [mksV, hr]; exact ⟨rfl, rfl⟩, .inl ⟨rfl, _, rfl⟩⟩
  · refine ⟨_, [(false, (List.replicate n [T.int .i64 0, T.int .i64 0, T.int .i64 0]).flatten.map PV.t)], ow, ?_, .inr ⟨by omega, rfl, ?_⟩⟩
    · have h1 : ¬ (n : Int) = 0 := by omega
      simp [mksV, hr]
      exact h0
    · exact ⟨_, List.getElem?_concat_length, zeros3 n, fun i t ht => by simp at ht⟩
theorem szE_args {e : Exp} (h : szE e ≤ B20) : e.args.length ≤ B20 ∧ ∀ a, a ∈ e.args → szE a ≤ B20 := by
  rw [szE_eq] at h
  exact ⟨by have := szEs_len e.args; omega, fun a ha => by have := szEs_mem ha; omega⟩
end Go.Ky

/- KX 11: the order of the names. -/
namespace Go.Ky
open Go.Pi Go.Lx

def isB (od : PV) (i : Nat) : Prop := ∃ l, od = .bf i l 1
/-- What stays when names come and go. -/
structure Fq (c n : Nat) (od od' : PV) (sg sg' : Sg) : Prop where
  len : sg.length ≤ sg'.length
  keep : ∀ i, i < sg.length → i ≠ c → i ≠ n → ¬ isB od i → sg'[i]? = sg[i]?
  od : ∀ i, isB od' i → isB od i ∨ sg.length ≤ i
theorem Fq.of {c n : Nat} {od : PV} {sg sg' : Sg} (h : Fr c sg sg') : Fq c n od od sg sg' := ⟨h.1, fun i hi hc _ _ => h.2 i hi hc, fun _ h => .inl h⟩
theorem Fq.refl (c n : Nat) (od : PV) (sg : Sg) : Fq c n od od sg sg := .of (Fr.refl _ _)
theorem Fq.trans {c n : Nat} {o1 o2 o3 : PV} {x y z : Sg} (h : Fq c n o1 o2 x y) (h' : Fq c n o2 o3 y z) : Fq c n o1 o3 x z := by
  have hl := h.len
  refine ⟨Nat.le_trans h.len h'.len, fun i hi hc hn hb => ?_, fun i hi => ?_⟩
  · rw [h'.keep i (by omega) hc hn (fun hb2 => by rcases h.od i hb2 with h1 | h1; exact hb h1; omega), h.keep i hi hc hn hb]
  · rcases h'.od i hi with h1 | h1
    · exact h.od i h1
    · exact .inr (by omega)
theorem Fq.get {c n : Nat} {o1 o2 : PV} {x y : Sg} (h : Fq c n o1 o2 x y) {i : Nat} {v : Bool × List PV} (hi : x[i]? = some v) (hc : i ≠ c) (hn : i ≠ n) (hb : ¬ isB o1 i) : y[i]? = some v := by
  rw [h.keep i (lt_of_get hi) hc hn hb]; exact hi
def Od (sg : Sg) (c : Nat) (od : PV) (ns : Ns) : Prop := (ns.map (·.1)).Nodup ∧ ((ns = [] ∧ od = .t (.sl true [])) ∨ ∃ oid cs, od = .bf oid ns.length 1 ∧ oid ≠ c ∧ sg[oid]? = some (false, cs) ∧ 0 < cs.length ∧ ns.length ≤ cs.length ∧ ∀ (i : Nat) (p : Nm × Sy), ns[i]? = some p → cs[i]? = some (PV.t (T.str p.1)))
theorem Od.len {sg : Sg} {c : Nat} {od : PV} {ns : Ns} (h : Od sg c od ns) : lenP false od = some ns.length := by
  rcases h.2 with ⟨rfl, rfl⟩ | ⟨oid, cs, rfl, _⟩ <;> rfl
theorem Od.fr {sg sg' : Sg} {c : Nat} {od : PV} {ns : Ns} (h : Od sg c od ns) (hr : Fr c sg sg') : Od sg' c od ns := by
  refine ⟨h.1, ?_⟩
  rcases h.2 with h | ⟨oid, cs, h1, h2, h3, h4⟩
  · exact .inl h
  · exact .inr ⟨oid, cs, h1, h2, hr.get h3 h2, h4⟩
/-- The checker, its names in order. -/
structure Cs (sg : Sg) (c f n : Nat) (fs : Fs) (ns : Ns) (od : PV) (w : Int) : Prop where
  ck : Ck sg c f n fs ns od w
  od : Od sg c od ns
  fn : f ≠ n
theorem Cs.fr {sg sg' : Sg} {c f n : Nat} {fs : Fs} {ns : Ns} {od : PV} {w w' : Int} (h : Cs sg c f n fs ns od w) (hr : Fr c sg sg') (hc : sg'[c]? = some (false, [.mp f, .mp n, od, .t (.int .i64 w')])) : Cs sg' c f n fs ns od w' := ⟨h.ck.fr hr hc, h.od.fr hr, h.fn⟩
theorem Cs.grow {sg sg' : Sg} {c f n : Nat} {fs : Fs} {ns : Ns} {od : PV} {w : Int} (h : Cs sg c f n fs ns od w) (hr : Grow sg sg') : Cs sg' c f n fs ns od w := h.fr (Fr.of hr) (hr.get h.ck.c)
theorem Cs.notB {sg : Sg} {c f n : Nat} {fs : Fs} {ns : Ns} {od : PV} {w : Int} (h : Cs sg c f n fs ns od w) {i : Nat} {es : List PV} (hi : sg[i]? = some (true, es)) : ¬ isB od i := by
  rintro ⟨l, rfl⟩
  rcases h.od.2 with ⟨_, h1⟩ | ⟨oid, cs, h1, _, h2, _⟩
  · cases h1
  · injection h1 with h1
    subst h1
    rw [h2] at hi
    injection hi with hi
    injection hi with hi
    cases hi
theorem Cs.notB2 {sg : Sg} {c f n : Nat} {fs : Fs} {ns : Ns} {od : PV} {w : Int} (h : Cs sg c f n fs ns od w) {i : Nat} (hi : sg.length ≤ i) : ¬ isB od i := by
  rintro ⟨l, rfl⟩
  rcases h.od.2 with ⟨_, h1⟩ | ⟨oid, cs, h1, _, h2, _⟩
  · cases h1
  · injection h1 with h1
    subst h1
    have := lt_of_get h2
    omega
theorem Cs.notc {sg : Sg} {c f n : Nat} {fs : Fs} {ns : Ns} {od : PV} {w : Int} (h : Cs sg c f n fs ns od w) : ¬ isB od c := by
  rintro ⟨l, rfl⟩
  rcases h.od.2 with ⟨_, h1⟩ | ⟨oid, cs, h1, h3, h2, _⟩
  · cases h1
  · injection h1 with h1
    exact h3 h1.symm
/-- A name more. -/
theorem Cs.dec {sg sg' : Sg} {c f n : Nat} {fs : Fs} {ns : Ns} {od : PV} {w : Int} {nm : Nm} {s : Sy} {o : Nat} {cs : List PV} (hk : Cs sg c f n fs ns od w) (hl : look nm ns = none) (hlen : sg.length ≤ sg'.length)
    (hc : sg'[c]? = some (false, [.mp f, .mp n, .bf o (ns.length + 1) 1, .t (.int .i64 w)])) (hn : sg'[n]? = some (true, ents (fun x => .agg (tSy x)) (ns ++ [(nm, s)]))) (ho : sg'[o]? = some (false, cs)) (hcs : cs = ns.map (fun p => PV.t (T.str p.1)) ++ [.t (.str nm)]) (hon : sg.length ≤ o)
    (hkeep : ∀ i, i < sg.length → i ≠ c → i ≠ n → ¬ isB od i → sg'[i]? = sg[i]?) : Cs sg' c f n fs (ns ++ [(nm, s)]) (.bf o (ns.length + 1) 1) w ∧ Fq c n od (.bf o (ns.length + 1) 1) sg sg' := by
  refine ⟨⟨⟨hc, ?_, hn⟩, ⟨?_, .inr ⟨o, cs, by simp, ?_, ho, ?_, ?_, ?_⟩⟩, hk.fn⟩, hlen, hkeep, ?_⟩
  · rw [hkeep f (lt_of_get hk.ck.f) hk.ck.fc hk.fn (hk.notB hk.ck.f)]; exact hk.ck.f
  · rw [List.map_append, List.nodup_append]
    refine ⟨hk.od.1, by simp, ?_⟩
    intro a ha b hb
    simp at hb
    subst hb
    intro e
    exact look_none.1 hl (e ▸ ha)
  · have := lt_of_get hk.ck.c; omega
  · rw [hcs]; simp
  · rw [hcs]; simp
  · intro i p hp
    rw [hcs]
    rcases Nat.lt_or_ge i ns.length with h | h
    · rw [List.getElem?_append_left h] at hp
      rw [List.getElem?_append_left (by simpa using h), List.getElem?_map, hp]; rfl
    · have hlt := (List.getElem?_eq_some_iff.1 hp).1
      simp at hlt
      have : i = ns.length := by omega
      subst this
      simp at hp
      subst hp
      simp
  · rintro i ⟨l, h⟩
    injection h with h
    exact .inr (by omega)
def Post (c f n : Nat) (fs : Fs) (od : PV) (sg : Sg) (r : Rs) (v : PV) (sg' : Sg) : Prop := v = .t (.int .i64 r.1) ∧ (r.1 = 0 → ∃ od', Cs sg' c f n fs r.2.1 od' r.2.2 ∧ Fq c n od od' sg sg')
theorem cs_take {ns : Ns} {cs : List PV} (_ : ns.length ≤ cs.length) (h : ∀ (i : Nat) (p : Nm × Sy), ns[i]? = some p → cs[i]? = some (PV.t (T.str p.1))) : cs.take ns.length = ns.map fun p => PV.t (T.str p.1) := by
  apply List.ext_getElem?
  intro i
  rw [List.getElem?_take, List.getElem?_map]
  by_cases hi : i < ns.length
  · rw [if_pos hi, h i ns[i] (List.getElem?_eq_getElem hi), List.getElem?_eq_getElem hi]; rfl
  · rw [if_neg hi, List.getElem?_eq_none (by omega)]; rfl
theorem nd_look {ns : Ns} (h : (ns.map (·.1)).Nodup) {m j : Nat} {x : Nm × Sy} (hx : ns[j]? = some x) (hm : m ≤ j) : look x.1 (ns.take m) = none := by
  rw [look_none]
  intro hc
  rw [← List.take_append_drop m ns, List.map_append, List.nodup_append] at h
  refine h.2.2 x.1 hc x.1 ?_ rfl
  have : (ns.drop m)[j - m]? = some x := by rw [List.getElem?_drop, show m + (j - m) = j by omega]; exact hx
  exact List.mem_map.2 ⟨x, List.mem_of_getElem? this, rfl⟩
/-- Fewer names. -/
theorem Cs.cut {sg sg' : Sg} {c f n oid : Nat} {fs : Fs} {ns : Ns} {w : Int} {cs : List PV} (hk : Cs sg c f n fs ns (.bf oid ns.length 1) w) {m : Nat} (hm : m ≤ ns.length) (o1 : oid ≠ c) (o2 : sg[oid]? = some (false, cs)) (o3 : 0 < cs.length) (o4 : ns.length ≤ cs.length) (o5 : ∀ (i : Nat) (p : Nm × Sy), ns[i]? = some p → cs[i]? = some (PV.t (T.str p.1))) (hlen : sg.length = sg'.length)
    (hg : ∀ j, j ≠ n → j ≠ c → sg'[j]? = sg[j]?) (hn : sg'[n]? = some (true, ents (fun x => .agg (tSy x)) (ns.take m))) (hc : sg'[c]? = some (false, [.mp f, .mp n, .bf oid m 1, .t (.int .i64 w)])) : Cs sg' c f n fs (ns.take m) (.bf oid m 1) w ∧ Fq c n (.bf oid ns.length 1) (.bf oid m 1) sg sg' := by
  have hno : oid ≠ n := fun e => by rw [e, hk.ck.n] at o2; simp at o2
  refine ⟨⟨⟨hc, ?_, hn⟩, ⟨?_, .inr ⟨oid, cs, ?_, o1, ?_, o3, ?_, ?_⟩⟩, hk.fn⟩, by omega, fun i _ hic hin _ => hg i hin hic, ?_⟩
  · rw [hg f hk.fn hk.ck.fc]; exact hk.ck.f
  · rw [List.map_take]; exact hk.od.1.sublist (List.take_sublist _ _)
  · rw [List.length_take, Nat.min_eq_left hm]
  · rw [hg oid hno o1]; exact o2
  · rw [List.length_take]; omega
  · intro i p hp
    rw [List.getElem?_take] at hp
    split at hp
    · exact o5 i p hp
    · cases hp
  · rintro i ⟨l, h⟩
    injection h with h
    subst h
    exact .inl ⟨_, rfl⟩
theorem Cs.cut0 {sg sg' : Sg} {c f n : Nat} {fs : Fs} {w : Int} (hk : Cs sg c f n fs [] (.t (.sl true [])) w) (hlen : sg.length = sg'.length)
    (hg : ∀ j, j ≠ n → sg'[j]? = sg[j]?) (hn : sg'[n]? = some (true, [])) : Cs sg' c f n fs [] (.t (.sl true [])) w ∧ Fq c n (.t (.sl true [])) (.t (.sl true [])) sg sg' := by
  refine ⟨⟨⟨?_, ?_, hn⟩, ⟨by simp, .inl ⟨rfl, rfl⟩⟩, hk.fn⟩, by omega, fun i _ hic hin _ => hg i hin, ?_⟩
  · rw [hg c hk.ck.nc.symm]; exact hk.ck.c
  · rw [hg f hk.fn]; exact hk.ck.f
  · rintro i ⟨l, h⟩
    cases h
/-! ### Statements add names -/
theorem decM_ext {nm : Nm} {s : Sy} {ns : Ns} {w : Int} (h : (decM nm s ns w).1 = 0) : decM nm s ns w = (0, ns ++ [(nm, s)], w) := by
  unfold decM at h ⊢
  cases hl : look nm ns with
  | none => rfl
  | some x => rw [hl] at h; cases h
theorem stM_ext (fs : Fs) : ∀ (s : St) (ns : Ns) (w : Int), (stM fs s ns w).1 = 0 → ∃ r, (stM fs s ns w).2.1 = ns ++ r ∧ r.length ≤ 1 := by
  intro s ns w
  rw [stM_eq]
  split
  · split
    · intro h; cases h
    · split
      rename_i d ns1 w1 hd
      split
      · intro h; contradiction
      · split
        rename_i d2 ns2 w2 hd2
        split
        · intro h; contradiction
        · intro _; exact ⟨[], by simp, by simp⟩
  · intro h
    revert h
    simp only
    have hdec : ∀ (s2 : Sy) (w2 : Int), (decM s.name s2 ns w2).1 = 0 → ∃ r, (decM s.name s2 ns w2).2.1 = ns ++ r ∧ r.length ≤ 1 := fun s2 w2 h => by
      rw [decM_ext h]; exact ⟨_, rfl, by simp⟩
    split
    · intro h; contradiction
    · split
      · intro _; exact ⟨[], by simp, by simp⟩
      · split
        · split
          · intro h; cases h
          · exact hdec _ _
        · exact hdec _ _
theorem stsM_cons (fs : Fs) (s : St) (r : List St) (ns : Ns) (w : Int) : stsM fs (s :: r) ns w = if (stM fs s ns w).1 ≠ 0 then stM fs s ns w else stsM fs r (stM fs s ns w).2.1 (stM fs s ns w).2.2 := by
  rw [stsM]
theorem stsM_ext (fs : Fs) : ∀ (l : List St) (ns : Ns) (w : Int), (stsM fs l ns w).1 = 0 → ∃ r, (stsM fs l ns w).2.1 = ns ++ r ∧ r.length ≤ l.length := by
  intro l
  induction l with
  | nil => intro ns w _; exact ⟨[], by rw [stsM]; simp, by simp⟩
  | cons s l ih =>
    intro ns w
    rw [stsM_cons]
    split
    · intro h; contradiction
    · rename_i h0
      intro h
      obtain ⟨r1, h1, h2⟩ := stM_ext fs s ns w (by simpa using h0)
      obtain ⟨r2, h3, h4⟩ := ih _ _ h
      exact ⟨r1 ++ r2, by rw [h3, h1, List.append_assoc], by simp; omega⟩
theorem bodyM_eq (fs : Fs) (l : List St) (ns : Ns) (w : Int) : bodyM fs l ns w = if (stsM fs l ns w).1 ≠ 0 then stsM fs l ns w else (0, ns, (stsM fs l ns w).2.2) := by
  unfold bodyM
  rfl
theorem stM_loop {fs : Fs} {s : St} {ns : Ns} {w : Int} (h3 : s.kind = 3) : stM fs s ns w = if s.lo > s.hi then (8, ns, w) else if (decM s.name ⟨fieldT, true, s.lo, s.hi⟩ ns w).1 ≠ 0 then decM s.name ⟨fieldT, true, s.lo, s.hi⟩ ns w
    else if (stsM fs s.body (decM s.name ⟨fieldT, true, s.lo, s.hi⟩ ns w).2.1 (decM s.name ⟨fieldT, true, s.lo, s.hi⟩ ns w).2.2).1 ≠ 0 then stsM fs s.body (decM s.name ⟨fieldT, true, s.lo, s.hi⟩ ns w).2.1 (decM s.name ⟨fieldT, true, s.lo, s.hi⟩ ns w).2.2 else (0, ns, (stsM fs s.body (decM s.name ⟨fieldT, true, s.lo, s.hi⟩ ns w).2.1 (decM s.name ⟨fieldT, true, s.lo, s.hi⟩ ns w).2.2).2.2) := by
  rw [stM_eq, if_pos h3]
theorem stM_let {fs : Fs} {s : St} {ns : Ns} {w : Int} (h3 : s.kind ≠ 3) : stM fs s ns w = if (exM fs ns s.ex w).1.2 ≠ 0 then ((exM fs ns s.ex w).1.2, ns, (exM fs ns s.ex w).2)
      else if s.kind = 2 then (if (exM fs ns s.ex w).1.1 ≠ boolT then 6 else 0, ns, (exM fs ns s.ex w).2)
      else if s.typed then (if (s.ty.len = 0 ∧ (exM fs ns s.ex w).1.1.len ≠ 0) ∨ (s.ty.len ≠ 0 ∧ fitsB (exM fs ns s.ex w).1.1 s.ty = false) then (6, ns, (exM fs ns s.ex w).2) else decM s.name ⟨s.ty, false, 0, 0⟩ ns (noteM s.ty (exM fs ns s.ex w).2))
      else decM s.name ⟨(exM fs ns s.ex w).1.1, false, 0, 0⟩ ns (exM fs ns s.ex w).2 := by
  rw [stM_eq, if_neg h3]
theorem szS_body {s : St} (h : szS s ≤ B20) : s.body.length ≤ B20 ∧ ∀ b, b ∈ s.body → szS b ≤ B20 := by
  rw [szS_eq] at h
  exact ⟨by have := szSs_len s.body; omega, fun a ha => by have := szSs_mem ha; omega⟩
theorem stB_ex {s : St} (h : stB s = true) (h3 : s.kind ≠ 3) : exB s.ex = true := by
  rw [stB_eq, if_neg h3] at h
  split at h
  · simp only [Bool.and_eq_true] at h; exact h.1.1.1.2
  · split at h
    · simp only [Bool.and_eq_true] at h; exact h.1.1.1.2
    · cases h
theorem stB_body {s : St} (h : stB s = true) (h3 : s.kind = 3) : ∀ b, b ∈ s.body → stB b = true := by
  rw [stB_eq] at h
  simp only [h3] at h
  simp at h
  intro b hb
  exact h.2 b hb
theorem stOk_ex {s : St} (h : StOk s) : ExpOk s.ex := by cases h with | mk _ h1 h2 h3 h4 h5 h6 h7 h8 h => exact h4
theorem stOk_body {s : St} (h : StOk s) : ∀ b, b ∈ s.body → StOk b := by cases h with | mk _ h1 h2 h3 h4 h5 h6 h7 h8 h => exact h
end Go.Ky

/- KX 12: functions, declarations, programs. -/
namespace Go.Ky
open Go.Pi Go.Lx

/-- What stays when functions come. -/
structure Fg (c f n : Nat) (od od' : PV) (sg sg' : Sg) : Prop where
  len : sg.length ≤ sg'.length
  keep : ∀ i, i < sg.length → i ≠ c → i ≠ f → i ≠ n → ¬ isB od i → sg'[i]? = sg[i]?
  od : ∀ i, isB od' i → isB od i ∨ sg.length ≤ i
theorem Fg.of {c f n : Nat} {od od' : PV} {sg sg' : Sg} (h : Fq c n od od' sg sg') : Fg c f n od od' sg sg' := ⟨h.len, fun i hi hc _ hn hb => h.keep i hi hc hn hb, h.od⟩
theorem Fg.refl (c f n : Nat) (od : PV) (sg : Sg) : Fg c f n od od sg sg := .of (.refl _ _ _ _)
theorem Fg.trans {c f n : Nat} {o1 o2 o3 : PV} {x y z : Sg} (h : Fg c f n o1 o2 x y) (h' : Fg c f n o2 o3 y z) : Fg c f n o1 o3 x z := by
  have hl := h.len
  refine ⟨Nat.le_trans h.len h'.len, fun i hi hc hf hn hb => ?_, fun i hi => ?_⟩
  · rw [h'.keep i (by omega) hc hf hn (fun hb2 => by rcases h.od i hb2 with h1 | h1; exact hb h1; omega), h.keep i hi hc hf hn hb]
  · rcases h'.od i hi with h1 | h1
    · exact h.od i h1
    · exact .inr (by omega)
theorem Fg.get {c f n : Nat} {o1 o2 : PV} {x y : Sg} (h : Fg c f n o1 o2 x y) {i : Nat} {v : Bool × List PV} (hi : x[i]? = some v) (hc : i ≠ c) (hf : i ≠ f) (hn : i ≠ n) (hb : ¬ isB o1 i) : y[i]? = some v := by
  rw [h.keep i (lt_of_get hi) hc hf hn hb]; exact hi
theorem Cs.fun {sg : Sg} {c f n : Nat} {fs fs' : Fs} {ns : Ns} {od : PV} {w : Int} (hk : Cs sg c f n fs ns od w) (x : List PV) (hx : x = ents (fun x => .agg (tFu x)) fs') : Cs (sg.set f (true, x)) c f n fs' ns od w ∧ Fg c f n od od sg (sg.set f (true, x)) := by
  have hfl := lt_of_get hk.ck.f
  refine ⟨⟨⟨?_, ?_, ?_⟩, ⟨hk.od.1, ?_⟩, hk.fn⟩, by simp, fun i hi hc hf hn _ => List.getElem?_set_ne (fun e => hf e.symm), fun _ h => .inl h⟩
  · rw [List.getElem?_set_ne hk.ck.fc]; exact hk.ck.c
  · rw [List.getElem?_set_self hfl, hx]
  · rw [List.getElem?_set_ne hk.fn]; exact hk.ck.n
  · rcases hk.od.2 with h | ⟨oid, cs, h1, h2, h3, h4⟩
    · exact .inl h
    · refine .inr ⟨oid, cs, h1, h2, ?_, h4⟩
      have : f ≠ oid := fun e => by rw [← e, hk.ck.f] at h3; simp at h3
      rw [List.getElem?_set_ne this]; exact h3
theorem parsM_cons (p : Pa) (r : List Pa) (ns : Ns) (w : Int) : parsM (p :: r) ns w = if (decM p.name ⟨p.ty, false, 0, 0⟩ ns w).1 ≠ 0 then decM p.name ⟨p.ty, false, 0, 0⟩ ns w else parsM r (decM p.name ⟨p.ty, false, 0, 0⟩ ns w).2.1 (decM p.name ⟨p.ty, false, 0, 0⟩ ns w).2.2 := by
  rw [parsM]
theorem parsM_ext : ∀ (l : List Pa) (ns : Ns) (w : Int), (parsM l ns w).1 = 0 → (parsM l ns w).2.1.length = ns.length + l.length := by
  intro l
  induction l with
  | nil => intro ns w _; rw [parsM]; rfl
  | cons p r ih =>
    intro ns w
    rw [parsM_cons]
    split
    · intro h; contradiction
    · rename_i h0
      intro h
      rw [ih _ _ h, decM_ext (by simpa using h0)]
      simp; omega
theorem desM_cons (d : De) (r : List De) (ns : Ns) (w : Int) : desM (d :: r) ns w = if (decM d.name ⟨d.ty, false, 0, 0⟩ ns w).1 ≠ 0 then decM d.name ⟨d.ty, false, 0, 0⟩ ns w else desM r (decM d.name ⟨d.ty, false, 0, 0⟩ ns w).2.1 (noteM d.ty (decM d.name ⟨d.ty, false, 0, 0⟩ ns w).2.2) := by
  rw [desM]
theorem desM_ext : ∀ (l : List De) (ns : Ns) (w : Int), (desM l ns w).1 = 0 → (desM l ns w).2.1.length = ns.length + l.length := by
  intro l
  induction l with
  | nil => intro ns w _; rw [desM]; rfl
  | cons p r ih =>
    intro ns w
    rw [desM_cons]
    split
    · intro h; contradiction
    · rename_i h0
      intro h
      rw [ih _ _ h, decM_ext (by simpa using h0)]
      simp; omega
/-- The functions' part, with no matches. -/
theorem funM_eq (fs : Fs) (f : Fu) (w : Int) (hl : look f.name fs = none) : funM fs f w = if (parsM f.params [] w).1 ≠ 0 then ((parsM f.params [] w).1, fs, (parsM f.params [] w).2.2)
    else if (stsM fs f.body (parsM f.params [] w).2.1 (parsM f.params [] w).2.2).1 ≠ 0 then ((stsM fs f.body (parsM f.params [] w).2.1 (parsM f.params [] w).2.2).1, fs, (stsM fs f.body (parsM f.params [] w).2.1 (parsM f.params [] w).2.2).2.2)
    else if (exM fs (stsM fs f.body (parsM f.params [] w).2.1 (parsM f.params [] w).2.2).2.1 f.ret (stsM fs f.body (parsM f.params [] w).2.1 (parsM f.params [] w).2.2).2.2).1.2 ≠ 0 then ((exM fs (stsM fs f.body (parsM f.params [] w).2.1 (parsM f.params [] w).2.2).2.1 f.ret (stsM fs f.body (parsM f.params [] w).2.1 (parsM f.params [] w).2.2).2.2).1.2, fs, (exM fs (stsM fs f.body (parsM f.params [] w).2.1 (parsM f.params [] w).2.2).2.1 f.ret (stsM fs f.body (parsM f.params [] w).2.1 (parsM f.params [] w).2.2).2.2).2)
    else if fitsB (exM fs (stsM fs f.body (parsM f.params [] w).2.1 (parsM f.params [] w).2.2).2.1 f.ret (stsM fs f.body (parsM f.params [] w).2.1 (parsM f.params [] w).2.2).2.2).1.1 f.res = false then (6, fs, (exM fs (stsM fs f.body (parsM f.params [] w).2.1 (parsM f.params [] w).2.2).2.1 f.ret (stsM fs f.body (parsM f.params [] w).2.1 (parsM f.params [] w).2.2).2.2).2) else (0, fs ++ [(f.name, f)], (exM fs (stsM fs f.body (parsM f.params [] w).2.1 (parsM f.params [] w).2.2).2.1 f.ret (stsM fs f.body (parsM f.params [] w).2.1 (parsM f.params [] w).2.2).2.2).2) := by
  unfold funM
  rw [hl]
theorem funM_dup (fs : Fs) (f : Fu) (w : Int) {x : Fu} (hl : look f.name fs = some x) : funM fs f w = (5, fs, w) := by
  unfold funM
  rw [hl]
theorem funsM_cons (f : Fu) (r : List Fu) (fs : Fs) (w : Int) : funsM (f :: r) fs w = if (funM fs f w).1 ≠ 0 then funM fs f w else funsM r (funM fs f w).2.1 (funM fs f w).2.2 := by
  rw [funsM]
theorem progM_eq (p : Pg) : progM p = if (funsM p.funcs [] 0).1 ≠ 0 then ((funsM p.funcs [] 0).1, (funsM p.funcs [] 0).2.2)
    else if (desM p.decls [] (funsM p.funcs [] 0).2.2).1 ≠ 0 then ((desM p.decls [] (funsM p.funcs [] 0).2.2).1, (desM p.decls [] (funsM p.funcs [] 0).2.2).2.2)
    else ((bodyM (funsM p.funcs [] 0).2.1 p.body (desM p.decls [] (funsM p.funcs [] 0).2.2).2.1 (desM p.decls [] (funsM p.funcs [] 0).2.2).2.2).1, (bodyM (funsM p.funcs [] 0).2.1 p.body (desM p.decls [] (funsM p.funcs [] 0).2.2).2.1 (desM p.decls [] (funsM p.funcs [] 0).2.2).2.2).2.2) := by
  unfold progM
  rfl
end Go.Ky

/- KX 13: steps, in plain words. -/
namespace Go.Ky
open Go.Pi Go.Lx

mutual
def lkS : St → Bool
  | .mk k _ _ _ _ lo hi _ l => if k = 3 then decide (0 ≤ lo) && decide (lo ≤ hi) && decide (hi ≤ 1000000) && lkSs l else true
def lkSs : List St → Bool
  | [] => true
  | s :: r => lkS s && lkSs r
end
theorem lkSs_all (l : List St) : lkSs l = l.all lkS := by
  induction l with
  | nil => rfl
  | cons e r ih => rw [lkSs, ih]; rfl
theorem lkS_eq (s : St) : lkS s = if s.kind = 3 then decide (0 ≤ s.lo) && decide (s.lo ≤ s.hi) && decide (s.hi ≤ 1000000) && s.body.all lkS else true := by
  cases s
  rw [lkS, lkSs_all]; rfl
def KsB (ks : Ks) : Prop := ∀ k, 0 ≤ lookI k ks ∧ lookI k ks ≤ 20001
theorem KsB.nil : KsB [] := fun k => by unfold lookI look; simp
theorem look_put (k j : Nm) (n : Int) (ks : Ks) : look j (putK k n ks) = if j = k then some n else look j ks := by
  induction ks with
  | nil => simp only [putK, look]
  | cons p r ih =>
    obtain ⟨i, x⟩ := p
    simp only [putK]
    split
    · rename_i h
      subst h
      simp only [look]
      split <;> simp_all
    · rename_i h
      simp only [look, ih]
      by_cases h1 : j = i
      · subst h1
        rw [if_pos rfl, if_pos rfl, if_neg (fun e => h e.symm)]
      · rw [if_neg h1, if_neg h1]
theorem KsB.put {ks : Ks} (h : KsB ks) (k : Nm) {n : Int} (h0 : 0 ≤ n) (h1 : n ≤ 20001) : KsB (putK k n ks) := fun j => by
  unfold lookI
  rw [look_put]
  split
  · exact ⟨h0, h1⟩
  · exact h j
theorem mn_le (x y : Int) : mn x y ≤ x ∧ mn x y ≤ y := by unfold mn; split <;> omega
theorem mn_ge {x y z : Int} (h1 : z ≤ x) (h2 : z ≤ y) : z ≤ mn x y := by unfold mn; split <;> omega
theorem csEs_range {ks : Ks} : ∀ (l : List Exp), (∀ e, e ∈ l → 0 ≤ csE ks e ∧ csE ks e ≤ 20001) → ∀ n : Int, 0 ≤ n → n ≤ 20002 → 0 ≤ csEs ks l n ∧ csEs ks l n ≤ 20002 := by
  intro l
  induction l with
  | nil => intro _ n h0 h1; rw [csEs]; exact ⟨h0, h1⟩
  | cons e r ih =>
    intro h n h0 h1
    have he := h e (by simp)
    rw [csEs]
    exact ih (fun x hx => h x (by simp [hx])) _ (mn_ge (by omega) (by omega)) (by have := mn_le 20001 (n + csE ks e); omega)
theorem csE_range {ks : Ks} (hk : KsB ks) : ∀ e, 0 ≤ csE ks e ∧ csE ks e ≤ 20001 := by
  refine Exp.ind fun e ih => ?_
  rw [csE_eq]
  have hl := hk e.name
  have := csEs_range e.args ih (if e.op = 5 then 1 + lookI e.name ks else 0) (by split <;> omega) (by split <;> omega)
  exact ⟨mn_ge (by omega) this.1, (mn_le _ _).1⟩
theorem bsSs_range {ks : Ks} : ∀ (l : List St), (∀ s, s ∈ l → 0 ≤ bsS ks s) → ∀ n : Int, 0 ≤ n → n ≤ 20001 → 0 ≤ bsSs ks l n ∧ bsSs ks l n ≤ 20001 := by
  intro l
  induction l with
  | nil => intro _ n h0 h1; rw [bsSs]; exact ⟨h0, h1⟩
  | cons e r ih =>
    intro h n h0 h1
    have he := h e (by simp)
    rw [bsSs]
    exact ih (fun x hx => h x (by simp [hx])) _ (mn_ge (by omega) (by omega)) (mn_le _ _).2
theorem mul_range {a b : Int} (ha : 0 ≤ a) (ha2 : a ≤ 1000000) (hb : 0 ≤ b) (hb2 : b ≤ 20001) : 0 ≤ a * b ∧ a * b ≤ 20001000000 := by
  refine ⟨Int.mul_nonneg ha hb, ?_⟩
  have := Int.mul_le_mul ha2 hb2 hb (by omega)
  omega
theorem bsS_range {ks : Ks} (hk : KsB ks) : ∀ s, lkS s = true → 0 ≤ bsS ks s ∧ bsS ks s ≤ 20001000000 := by
  refine St.ind fun s ih h => ?_
  rw [bsS_eq]
  rw [lkS_eq] at h
  split
  · rename_i h3
    rw [if_pos h3] at h
    simp only [Bool.and_eq_true, decide_eq_true_eq, List.all_eq_true] at h
    obtain ⟨⟨⟨a, b⟩, c⟩, d⟩ := h
    have := bsSs_range s.body (fun x hx => (ih x hx (d x hx)).1) 0 (by omega) (by omega)
    exact mul_range (by omega) (by omega) this.1 this.2
  · have := csE_range hk s.ex
    omega
theorem wrap_id {x : Int} (h0 : 0 ≤ x) (h1 : x ≤ 281474976710656) : IntKind.wrap .i64 x = x := IntWalk.i64_in _ (by omega)
/-- The checker lets only loops through that go up. -/
theorem stsM_lk (fs : Fs) : ∀ (l : List St), (∀ s, s ∈ l → ∀ ns w, (stM fs s ns w).1 = 0 → lkS s = true) → ∀ ns w, (stsM fs l ns w).1 = 0 → l.all lkS = true := by
  intro l
  induction l with
  | nil => intro _ _ _ _; rfl
  | cons s r ih =>
    intro h ns w
    rw [stsM_cons]
    split
    · intro h; contradiction
    · rename_i h0
      intro h1
      rw [List.all_cons, h s (by simp) ns w (by simpa using h0), ih (fun x hx => h x (by simp [hx])) _ _ h1]; rfl
theorem stM_lk (fs : Fs) : ∀ s, stB s = true → ∀ ns w, (stM fs s ns w).1 = 0 → lkS s = true := by
  refine St.ind fun s ih hB ns w => ?_
  rw [lkS_eq]
  by_cases h3 : s.kind = 3
  · rw [if_pos h3, stM_loop h3]
    rw [stB_eq] at hB
    simp [h3] at hB
    obtain ⟨⟨⟨_, hlo⟩, hhi⟩, hb⟩ := hB
    unfold loopN at hlo hhi
    simp at hlo hhi
    split
    · intro h; cases h
    · rename_i hlh
      split
      · intro h; contradiction
      · split
        · intro h; contradiction
        · rename_i hs
          intro _
          have := stsM_lk fs s.body (fun x hx ns w => ih x hx (hb x hx) ns w) _ _ (by simpa using hs)
          rw [this]
          simp
          omega
  · rw [if_neg h3]; intro _; rfl
theorem funM_lk {fs : Fs} {f : Fu} {w : Int} (hB : fuB f = true) (h : (funM fs f w).1 = 0) : f.body.all lkS = true := by
  unfold fuB at hB
  simp only [Bool.and_eq_true, List.all_eq_true] at hB
  cases hl : look f.name fs with
  | some x => rw [funM_dup _ _ _ hl] at h; cases h
  | none =>
    rw [funM_eq _ _ _ hl] at h
    split at h
    · contradiction
    · split at h
      · contradiction
      · rename_i h2
        exact stsM_lk fs f.body (fun s hs ns w => stM_lk fs s (hB.1.2 s hs) ns w) _ _ (by simpa using h2)
theorem funsM_lk : ∀ (l : List Fu) (fs : Fs) (w : Int), l.all fuB = true → (funsM l fs w).1 = 0 → ∀ f, f ∈ l → f.body.all lkS = true := by
  intro l
  induction l with
  | nil => intro _ _ _ _ f hf; cases hf
  | cons x r ih =>
    intro fs w hB
    rw [List.all_cons, Bool.and_eq_true] at hB
    rw [funsM_cons]
    split
    · intro h; contradiction
    · rename_i h0
      intro h f hf
      rcases List.mem_cons.1 hf with e | e
      · subst e; exact funM_lk hB.1 (by simpa using h0)
      · exact ih _ _ hB.2 h f e
theorem progM_lk {p : Pg} (hf : p.funcs.all fuB = true) (hb : p.body.all stB = true) (h : (progM p).1 = 0) : (∀ f, f ∈ p.funcs → f.body.all lkS = true) ∧ p.body.all lkS = true := by
  rw [progM_eq] at h
  split at h
  · contradiction
  · rename_i h0
    split at h
    · contradiction
    · refine ⟨funsM_lk p.funcs [] 0 hf (by simpa using h0), ?_⟩
      rw [bodyM_eq] at h
      simp only at h
      split at h
      · contradiction
      · rename_i h1
        exact stsM_lk _ p.body (fun s hs ns w => stM_lk _ s (List.all_eq_true.1 hb s hs) ns w) _ _ (by simpa using h1)
end Go.Ky

/- KX 14: what the laws ask, in plain words. -/
namespace Go.Ky
open Go.Pi Go.Lx

mutual
def szM : Exp → Int → Int
  | .mk _ _ _ _ l, lim => szMs l lim 1
def szMs : List Exp → Int → Int → Int
  | [], _, n => n
  | e :: r, lim, n => if n ≤ lim then szMs r lim (IntKind.i64.wrap (n + szM e (IntKind.i64.wrap (lim - n)))) else n
end
theorem szM_eq (e : Exp) (lim : Int) : szM e lim = szMs e.args lim 1 := by cases e; rw [szM]; rfl
mutual
def am1 : St → Int → Int
  | .mk _ _ _ _ e _ _ _ l, lim => IntKind.i64.wrap (IntKind.i64.wrap (1 + szM e lim) + amMs l lim 0)
def amMs : List St → Int → Int → Int
  | [], _, n => n
  | s :: r, lim, n => if n ≤ lim then amMs r lim (IntKind.i64.wrap (n + am1 s lim)) else n
end
theorem am1_eq (s : St) (lim : Int) : am1 s lim = IntKind.i64.wrap (IntKind.i64.wrap (1 + szM s.ex lim) + amMs s.body lim 0) := by cases s; rw [am1]; rfl
def smGo : List Fu → Nat → Int → Int
  | [], _, n => n
  | f :: r, i, n => if i < 20 ∧ n ≤ 400 then smGo r (i + 1) (IntKind.i64.wrap (n + IntKind.i64.wrap (IntKind.i64.wrap (amMs f.body 400 0 + szM f.ret 400) + f.params.length))) else n
def smallB (p : Pg) : Bool := decide (smGo p.funcs 0 (amMs p.body 400 0) ≤ 400) && (decide ((p.funcs.length : Int) ≤ 10) && decide ((p.decls.length : Int) ≤ 20))
def inGo : List De → Int → Int → Int × Int
  | [], a, b => (a, b)
  | d :: r, a, b => if d.pub then inGo r (IntKind.i64.wrap (a + mx d.ty.len 1)) b else inGo r a (IntKind.i64.wrap (b + mx d.ty.len 1))
def inpP (p : Pg) : Int × Int := if (examP p).2.2 ≠ 0 then (0, 0) else inGo p.decls 0 0
def fieldB (n : Int) : Bool := decide (n = 18446744069414584321) || decide (n = 17) || decide (n = 97) || decide (n = 193) || decide (n = 257) || decide (n = 12289) || decide (n = 65537)
end Go.Ky

/- KX 15: a few programs, by hand. -/
namespace Go.Ky
open Go.Pi Go.Lx

def i64B (n : Int) : Bool := decide (-9223372036854775808 ≤ n) && decide (n ≤ 9223372036854775807)
def u64B (n : Int) : Bool := decide (0 ≤ n) && decide (n ≤ 18446744073709551615)
mutual
def okE : Exp → Bool
  | .mk o v n b l => i64B o && u64B v && decide (n.length ≤ 1000) && decide (l.length ≤ 1000) && (!b || l.isEmpty) && okEs l
def okEs : List Exp → Bool
  | [] => true
  | e :: r => okE e && okEs r
end
mutual
def okS : St → Bool
  | .mk k n _ t e lo hi b l => i64B k && decide (n.length ≤ 1000) && i64B t.kind && i64B t.bits && i64B t.len && okE e && i64B lo && i64B hi && decide (l.length ≤ 1000) && (!b || l.isEmpty) && okSs l
def okSs : List St → Bool
  | [] => true
  | s :: r => okS s && okSs r
end
theorem i64B_ok {n : Int} (h : i64B n = true) : I64 n := by unfold i64B at h; simp at h; exact h
theorem u64B_ok {n : Int} (h : u64B n = true) : U64 n := by unfold u64B at h; simp at h; exact h
theorem okEs_all (l : List Exp) : okEs l = l.all okE := by
  induction l with
  | nil => rfl
  | cons e r ih => rw [okEs, ih]; rfl
theorem okSs_all (l : List St) : okSs l = l.all okS := by
  induction l with
  | nil => rfl
  | cons e r ih => rw [okSs, ih]; rfl
theorem okE_ok : ∀ e, okE e = true → ExpOk e := by
  refine Exp.ind fun e ih h => ?_
  cases e with | mk o v n b l =>
  rw [okE, okEs_all] at h
  simp only [Bool.and_eq_true, decide_eq_true_eq] at h
  obtain ⟨⟨⟨⟨⟨h1, h2⟩, h3⟩, h4⟩, h5⟩, h6⟩ := h
  have hb : B47 = 140737488355328 := rfl
  refine .mk _ (i64B_ok h1) (u64B_ok h2) (by show n.length ≤ _; omega) (by show l.length ≤ _; omega) ?_ fun a ha => ih a ha (List.all_eq_true.1 h6 a ha)
  intro hbt
  have : b = true := hbt
  subst this
  have h5 : l = [] := by simpa using h5
  exact h5
theorem okS_ok : ∀ s, okS s = true → StOk s := by
  refine St.ind fun s ih h => ?_
  cases s with | mk k n b t e lo hi nl l =>
  rw [okS, okSs_all] at h
  simp only [Bool.and_eq_true, decide_eq_true_eq] at h
  obtain ⟨⟨⟨⟨⟨⟨⟨⟨⟨⟨h1, h2⟩, h3⟩, h4⟩, h5⟩, h6⟩, h7⟩, h8⟩, h9⟩, h10⟩, h11⟩ := h
  have hb : B47 = 140737488355328 := rfl
  refine .mk _ (i64B_ok h1) (by show n.length ≤ _; omega) ⟨i64B_ok h3, i64B_ok h4, i64B_ok h5⟩ (okE_ok _ h6) (i64B_ok h7) (i64B_ok h8) (by show l.length ≤ _; omega) ?_ fun a ha => ih a ha (List.all_eq_true.1 h11 a ha)
  intro hbt
  have : nl = true := hbt
  subst this
  have h10 : l = [] := by simpa using h10
  exact h10
def exN (n : Nm) : Exp := .mk 2 0 n true []
def exV (n : Int) : Exp := .mk 1 n [] true []
def exO (n : Int) (l : List Exp) : Exp := .mk n 0 [] false l
def stA (e : Exp) : St := .mk 2 [] false zTy e 0 0 true []
def stL (n : Nm) (e : Exp) : St := .mk 1 n false zTy e 0 0 true []
def aw1 : Pg := ⟨true, [], false, [⟨true, [120], ⟨1, 0, 0⟩⟩, ⟨false, [121], ⟨3, 8, 0⟩⟩], false, [.mk 2 [] false zTy (.mk 16 0 [] false [.mk 2 0 [121] true [], .mk 1 300 [] true []]) 0 0 true []]⟩
def aw2 : Pg := ⟨true, [], true, [], false, [.mk 1 [97] false zTy (.mk 7 0 [] false [.mk 1 1 [] true [], .mk 1 2 [] true []]) 0 0 true [], .mk 2 [] false zTy (.mk 14 0 [] false [.mk 8 0 [] false [.mk 2 0 [97] true [], .mk 1 2 [] true []], .mk 1 0 [] true []]) 0 0 true []]⟩
def aw3 : Pg := ⟨true, [], true, [], false, [.mk 1 [97] false zTy (.mk 2 0 [98] true []) 0 0 true []]⟩
def aw4 : Pg := ⟨true, [], true, [], false, [.mk 3 [105] false zTy (.mk 0 0 [] true []) 0 5 false [.mk 1 [97] false zTy (.mk 2 0 [105] true []) 0 0 true [], .mk 2 [] false zTy (.mk 3 0 [] true []) 0 0 true []]]⟩
theorem aw1_ex : examP aw1 = (10, 1, 0) := by decide +kernel
theorem aw1_in : inpP aw1 = (1, 1) := by decide +kernel
theorem aw2_ex : (examP aw2).2.2 = 8 := by decide +kernel
theorem aw3_ex : (examP aw3).2.2 = 4 := by decide +kernel
theorem aw4_ex : (examP aw4).2.1 = 10 ∧ (examP aw4).2.2 = 0 := by decide +kernel
theorem pgOk_of {p : Pg} (hf : p.funcs = []) (h1 : p.decls.all (fun d => decide (d.name.length ≤ 1000) && i64B d.ty.kind && i64B d.ty.bits && i64B d.ty.len) = true) (h2 : p.body.all okS = true) (h3 : p.decls.length ≤ 1000) (h4 : p.body.length ≤ 1000) (h5 : p.dnl = true → p.decls = []) (h6 : p.bnl = true → p.body = []) : PgOk p := by
  have hb : B47 = 140737488355328 := rfl
  refine ⟨by rw [hf]; simp, fun _ => hf, fun f hf' => (by rw [hf] at hf'; cases hf'), by omega, h5, fun d hd => ?_, by omega, h6, fun s hs => okS_ok s (List.all_eq_true.1 h2 s hs)⟩
  have := List.all_eq_true.1 h1 d hd
  simp only [Bool.and_eq_true, decide_eq_true_eq] at this
  exact ⟨by omega, i64B_ok this.1.1.2, i64B_ok this.1.2, i64B_ok this.2⟩
end Go.Ky

/- KX 16: the plain laws: a prefix; a further statement; the order of errors. -/
namespace Go.Ky
open Go.Pi Go.Lx

/-! ### The width grows -/
theorem mx_ge (x y : Int) : x ≤ mx x y ∧ y ≤ mx x y := by unfold mx; split <;> omega
theorem compM_ge (x y : Ty) (w : Int) : w ≤ (compM x y w).2 := by
  unfold compM
  split
  · exact Int.le_refl _
  · exact (mx_ge _ _).1
theorem opM_ge (fs : Fs) (ns : Ns) (op v : Int) (nm : Nm) (l : List Ty) (w : Int) : w ≤ (opM fs ns op v nm l w).2 := by
  unfold opM
  repeat (first | exact Int.le_refl _ | exact compM_ge _ _ _ | split)
theorem idxM_snd (ns : Ns) (r : Rt × Int) (b : Exp) : (idxM ns r b).2 = r.2 := by
  unfold idxM
  simp only
  repeat (first | rfl | split)
theorem exsM_ge (fs : Fs) (ns : Ns) : ∀ (l : List Exp), (∀ e, e ∈ l → ∀ w, w ≤ (exM fs ns e w).2) → ∀ w, w ≤ (exsM fs ns l w).2 := by
  intro l
  induction l with
  | nil => intro _ w; rw [exsM]; exact Int.le_refl _
  | cons a r ih =>
    intro h w
    rw [exsM_cons]
    have h1 := h a (by simp) w
    have h2 := ih (fun x hx => h x (by simp [hx])) (exM fs ns a w).2
    split
    · exact h1
    · split
      · exact Int.le_trans h1 h2
      · exact Int.le_trans h1 h2
theorem exM_ge (fs : Fs) (ns : Ns) : ∀ e, ∀ w, w ≤ (exM fs ns e w).2 := by
  refine Exp.ind fun e ih w => ?_
  rw [exM_eq]
  split
  · split
    · rename_i a b r hab
      rw [idxM_snd]
      exact ih a (by rw [hab]; simp) w
    · exact Int.le_refl _
  · have h1 := exsM_ge fs ns e.args ih w
    simp only
    split
    · exact h1
    · exact Int.le_trans h1 (opM_ge _ _ _ _ _ _ _)
theorem decM_snd (nm : Nm) (s : Sy) (ns : Ns) (w : Int) : (decM nm s ns w).2.2 = w := by
  unfold decM
  split <;> rfl
theorem noteM_ge (t : Ty) (w : Int) : w ≤ noteM t w := by
  unfold noteM
  split
  · exact (mx_ge _ _).1
  · exact Int.le_refl _
theorem stsM_ge (fs : Fs) : ∀ (l : List St), (∀ s, s ∈ l → ∀ ns w, w ≤ (stM fs s ns w).2.2) → ∀ ns w, w ≤ (stsM fs l ns w).2.2 := by
  intro l
  induction l with
  | nil => intro _ ns w; rw [stsM]; exact Int.le_refl _
  | cons s r ih =>
    intro h ns w
    rw [stsM_cons]
    have h1 := h s (by simp) ns w
    split
    · exact h1
    · exact Int.le_trans h1 (ih (fun x hx => h x (by simp [hx])) _ _)
theorem stM_ge (fs : Fs) : ∀ s, ∀ ns w, w ≤ (stM fs s ns w).2.2 := by
  refine St.ind fun s ih ns w => ?_
  by_cases h3 : s.kind = 3
  · rw [stM_loop h3]
    have hd := decM_snd s.name ⟨fieldT, true, s.lo, s.hi⟩ ns w
    have hs := stsM_ge fs s.body ih (decM s.name ⟨fieldT, true, s.lo, s.hi⟩ ns w).2.1 (decM s.name ⟨fieldT, true, s.lo, s.hi⟩ ns w).2.2
    split
    · exact Int.le_refl _
    · split
      · rw [hd]; exact Int.le_refl _
      · split
        · rw [hd] at hs ⊢; exact hs
        · rw [hd] at hs ⊢; exact hs
  · rw [stM_let h3]
    have h1 := exM_ge fs ns s.ex w
    split
    · exact h1
    · split
      · exact h1
      · split
        · split
          · exact h1
          · rw [decM_snd]; exact Int.le_trans h1 (noteM_ge _ _)
        · rw [decM_snd]; exact h1
/-! ### Lists of statements, put together -/
theorem stsM_app (fs : Fs) (a b : List St) : ∀ (ns : Ns) (w : Int), stsM fs (a ++ b) ns w = if (stsM fs a ns w).1 ≠ 0 then stsM fs a ns w else stsM fs b (stsM fs a ns w).2.1 (stsM fs a ns w).2.2 := by
  induction a with
  | nil => intro ns w; rw [stsM]; simp
  | cons s r ih =>
    intro ns w
    rw [List.cons_append, stsM_cons, stsM_cons]
    split
    · rfl
    · exact ih _ _
theorem bsSs_app (ks : Ks) (a b : List St) : ∀ n : Int, bsSs ks (a ++ b) n = bsSs ks b (bsSs ks a n) := by
  induction a with
  | nil => intro n; rw [List.nil_append, bsSs]
  | cons s r ih => intro n; rw [List.cons_append, bsSs, bsSs]; exact ih _
theorem bsSs_ge {ks : Ks} : ∀ (l : List St), (∀ s, s ∈ l → 0 ≤ bsS ks s) → ∀ n : Int, 0 ≤ n → n ≤ 20001 → n ≤ bsSs ks l n := by
  intro l
  induction l with
  | nil => intro _ n _ _; rw [bsSs]; exact Int.le_refl _
  | cons s r ih =>
    intro h n h0 h1
    have hs := h s (by simp)
    rw [bsSs]
    have h2 : n ≤ mn (n + bsS ks s) 20001 := mn_ge (by omega) h1
    exact Int.le_trans h2 (ih (fun x hx => h x (by simp [hx])) _ (by omega) (mn_le _ _).2)
theorem stepK_B : ∀ (l : List Fu) (ks : Ks), (∀ f, f ∈ l → f.body.all lkS = true) → KsB ks → KsB (stepK l ks) := by
  intro l
  induction l with
  | nil => intro ks _ h; rw [stepK]; exact h
  | cons f r ih =>
    intro ks hl h
    rw [stepK]
    refine ih _ (fun x hx => hl x (by simp [hx])) (h.put _ (mn_ge (by omega) ?_) (mn_le _ _).1)
    have h1 := bsSs_range (ks := ks) f.body (fun s hs => (bsS_range h s (List.all_eq_true.1 (hl f (by simp)) s hs)).1) 0 (by omega) (by omega)
    have h2 := csE_range h f.ret
    omega
/-! ### The same program with other statements -/
def wb (p : Pg) (l : List St) : Pg := { p with bnl := false, body := l }
theorem valid_zero {p : Pg} : validP p = 0 ↔ p.funcs.all fuB = true ∧ p.decls.all deB = true ∧ p.body.all stB = true ∧ p.funcs.all shF = true ∧ p.body.all shS = true := by
  unfold validP
  cases p.funcs.all fuB <;> cases p.decls.all deB <;> cases p.body.all stB <;> cases p.funcs.all shF <;> cases p.body.all shS <;> simp
theorem exam_ok {p : Pg} : (examP p).2.2 = 0 ↔ validP p = 0 ∧ (progM p).1 = 0 ∧ stepsP p ≤ 20000 := by
  unfold examP
  by_cases h1 : validP p = 0
  · rw [if_neg (by simpa using h1)]
    simp only
    by_cases h2 : (progM p).1 = 0
    · rw [if_neg (by simpa using h2)]
      by_cases h3 : stepsP p > 20000
      · rw [if_pos h3]; simp; omega
      · rw [if_neg h3]; simp [h1, h2]; omega
    · rw [if_pos (by simpa using h2)]; simp [h2]
  · rw [if_pos (by simpa using h1)]; simp [h1]
theorem exam_val {p : Pg} (h : (examP p).2.2 = 0) : examP p = ((progM p).2, stepsP p, 0) := by
  obtain ⟨h1, h2, h3⟩ := exam_ok.1 h
  unfold examP
  rw [if_neg (by simpa using h1)]
  simp only
  rw [if_neg (by simpa using h2), if_neg (by omega)]
theorem prog_ok {p : Pg} : (progM p).1 = 0 ↔ (funsM p.funcs [] 0).1 = 0 ∧ (desM p.decls [] (funsM p.funcs [] 0).2.2).1 = 0 ∧ (stsM (funsM p.funcs [] 0).2.1 p.body (desM p.decls [] (funsM p.funcs [] 0).2.2).2.1 (desM p.decls [] (funsM p.funcs [] 0).2.2).2.2).1 = 0 := by
  rw [progM_eq, bodyM_eq]
  by_cases h1 : (funsM p.funcs [] 0).1 = 0
  · rw [if_neg (by simpa using h1)]
    by_cases h2 : (desM p.decls [] (funsM p.funcs [] 0).2.2).1 = 0
    · rw [if_neg (by simpa using h2)]
      simp only
      split
      · rename_i h3; simp only [h1, h2, true_and]
      · rename_i h3; simp only [h1, h2, true_and]; simpa using h3
    · rw [if_pos (by simpa using h2)]; simp [h2]
  · rw [if_pos (by simpa using h1)]; simp [h1]
theorem prog_val {p : Pg} (h : (progM p).1 = 0) : (progM p).2 = (stsM (funsM p.funcs [] 0).2.1 p.body (desM p.decls [] (funsM p.funcs [] 0).2.2).2.1 (desM p.decls [] (funsM p.funcs [] 0).2.2).2.2).2.2 := by
  obtain ⟨h1, h2, h3⟩ := prog_ok.1 h
  rw [progM_eq, bodyM_eq, if_neg (by simpa using h1), if_neg (by simpa using h2), if_neg (by simpa using h3)]
theorem inp_same {p : Pg} {l : List St} (h1 : (examP p).2.2 = 0) (h2 : (examP (wb p l)).2.2 = 0) : inpP (wb p l) = inpP p := by
  unfold inpP
  rw [h1, h2]
  rfl
/-! ### The laws -/
theorem prefix_law {p : Pg} (k : Nat) (h : (examP p).2.2 = 0) : (examP (wb p (p.body.take k))).2.2 = 0 ∧ (examP (wb p (p.body.take k))).2.1 ≤ (examP p).2.1 ∧ (examP (wb p (p.body.take k))).1 ≤ (examP p).1 ∧ inpP (wb p (p.body.take k)) = inpP p := by
  obtain ⟨h1, h2, h3⟩ := exam_ok.1 h
  obtain ⟨v1, v2, v3, v4, v5⟩ := valid_zero.1 h1
  obtain ⟨g1, g2, g3⟩ := prog_ok.1 h2
  have hsp := List.take_append_drop k p.body
  have hmem : ∀ s, s ∈ p.body.take k → s ∈ p.body := fun s hs => List.mem_of_mem_take hs
  have w1 : validP (wb p (p.body.take k)) = 0 := valid_zero.2 ⟨v1, v2, List.all_eq_true.2 fun s hs => List.all_eq_true.1 v3 s (hmem s hs), v4, List.all_eq_true.2 fun s hs => List.all_eq_true.1 v5 s (hmem s hs)⟩
  have g3' := g3
  rw [← hsp, stsM_app] at g3'
  have g4 : (stsM (funsM p.funcs [] 0).2.1 (p.body.take k) (desM p.decls [] (funsM p.funcs [] 0).2.2).2.1 (desM p.decls [] (funsM p.funcs [] 0).2.2).2.2).1 = 0 := by
    split at g3'
    · contradiction
    · rename_i h4; simpa using h4
  have w2 : (progM (wb p (p.body.take k))).1 = 0 := prog_ok.2 ⟨g1, g2, g4⟩
  have hlk := progM_lk v1 v3 h2
  have hks := stepK_B p.funcs [] hlk.1 KsB.nil
  have hnn : ∀ s, s ∈ p.body → 0 ≤ bsS (stepK p.funcs []) s := fun s hs => (bsS_range hks s (List.all_eq_true.1 hlk.2 s hs)).1
  have hst : stepsP (wb p (p.body.take k)) ≤ stepsP p := by
    show bsSs (stepK p.funcs []) (p.body.take k) 0 ≤ bsSs (stepK p.funcs []) p.body 0
    have hr := bsSs_range (ks := stepK p.funcs []) (p.body.take k) (fun s hs => hnn s (hmem s hs)) 0 (by omega) (by omega)
    have := bsSs_ge (ks := stepK p.funcs []) (p.body.drop k) (fun s hs => hnn s (List.mem_of_mem_drop hs)) _ hr.1 hr.2
    rw [← bsSs_app, hsp] at this
    exact this
  have w3 : (examP (wb p (p.body.take k))).2.2 = 0 := exam_ok.2 ⟨w1, w2, by omega⟩
  refine ⟨w3, ?_, ?_, inp_same h w3⟩
  · rw [exam_val h, exam_val w3]; exact hst
  · rw [exam_val h, exam_val w3]
    show (progM (wb p (p.body.take k))).2 ≤ (progM p).2
    rw [prog_val h2, prog_val w2]
    show (stsM (funsM p.funcs [] 0).2.1 (p.body.take k) _ _).2.2 ≤ _
    have this := stsM_app (funsM p.funcs [] 0).2.1 (p.body.take k) (p.body.drop k) (desM p.decls [] (funsM p.funcs [] 0).2.2).2.1 (desM p.decls [] (funsM p.funcs [] 0).2.2).2.2
    rw [if_neg (by simpa using g4), hsp] at this
    rw [this]
    exact stsM_ge _ _ (fun s _ => stM_ge _ s) _ _
def tt : St := stA (.mk 3 0 [] true [])
theorem further_law {p : Pg} (h : (examP p).2.2 = 0) : if (examP p).2.1 = 20000 then (examP (wb p (p.body ++ [tt]))).2.2 = 3 ∧ (examP (wb p (p.body ++ [tt]))).2.1 = 0
    else (examP (wb p (p.body ++ [tt]))).2.2 = 0 ∧ (examP (wb p (p.body ++ [tt]))).2.1 = (examP p).2.1 + 1 ∧ (examP (wb p (p.body ++ [tt]))).1 = (examP p).1 := by
  obtain ⟨h1, h2, h3⟩ := exam_ok.1 h
  obtain ⟨v1, v2, v3, v4, v5⟩ := valid_zero.1 h1
  obtain ⟨g1, g2, g3⟩ := prog_ok.1 h2
  have w1 : validP (wb p (p.body ++ [tt])) = 0 := valid_zero.2 ⟨v1, v2, by show (p.body ++ [tt]).all stB = true; rw [List.all_append, v3]; decide, v4, by show (p.body ++ [tt]).all shS = true; rw [List.all_append, v5]; decide⟩
  have htt : ∀ ns w, stM (funsM p.funcs [] 0).2.1 tt ns w = (0, ns, w) := by
    intro ns w
    have hE : exM (funsM p.funcs [] 0).2.1 ns tt.ex w = ((boolT, 0), w) := by
      show exM _ _ (.mk 3 0 [] true []) _ = _
      rw [exM_eq]
      show (if (3 : Int) = 8 then _ else _) = _
      rw [if_neg (by decide)]
      show (if (exsM _ _ [] w).1.2 ≠ 0 then _ else opM _ _ 3 0 [] (exsM _ _ [] w).1.1 (exsM _ _ [] w).2) = _
      rw [exsM]
      rfl
    rw [stM_let (by decide), hE]
    rfl
  have g4 := stsM_app (funsM p.funcs [] 0).2.1 p.body [tt] (desM p.decls [] (funsM p.funcs [] 0).2.2).2.1 (desM p.decls [] (funsM p.funcs [] 0).2.2).2.2
  rw [if_neg (by simpa using g3), stsM_cons, htt] at g4
  simp only [ne_eq, not_true, if_false] at g4
  rw [stsM] at g4
  have w2 : (progM (wb p (p.body ++ [tt]))).1 = 0 := prog_ok.2 ⟨g1, g2, by show (stsM (funsM p.funcs [] 0).2.1 (p.body ++ [tt]) (desM p.decls [] (funsM p.funcs [] 0).2.2).2.1 (desM p.decls [] (funsM p.funcs [] 0).2.2).2.2).1 = 0; rw [g4]⟩
  have w3 : (progM (wb p (p.body ++ [tt]))).2 = (progM p).2 := by
    rw [prog_val w2, prog_val h2]
    show (stsM (funsM p.funcs [] 0).2.1 (p.body ++ [tt]) (desM p.decls [] (funsM p.funcs [] 0).2.2).2.1 (desM p.decls [] (funsM p.funcs [] 0).2.2).2.2).2.2 = _
    rw [g4]
  have hlk := progM_lk v1 v3 h2
  have hks := stepK_B p.funcs [] hlk.1 KsB.nil
  have hr := bsSs_range (ks := stepK p.funcs []) p.body (fun s hs => (bsS_range hks s (List.all_eq_true.1 hlk.2 s hs)).1) 0 (by omega) (by omega)
  have hs : stepsP (wb p (p.body ++ [tt])) = stepsP p + 1 := by
    show bsSs (stepK p.funcs []) (p.body ++ [tt]) 0 = bsSs (stepK p.funcs []) p.body 0 + 1
    have h3' : bsSs (stepK p.funcs []) p.body 0 ≤ 20000 := h3
    rw [bsSs_app, bsSs, bsSs]
    have hb : bsS (stepK p.funcs []) tt = 1 := by
      rw [bsS_eq]
      show (if (2 : Int) = 3 then _ else 1 + csE (stepK p.funcs []) (.mk 3 0 [] true [])) = _
      rw [if_neg (by decide), csE_eq]
      show 1 + mn 20001 (csEs (stepK p.funcs []) [] (if (3 : Int) = 5 then _ else 0)) = 1
      rw [csEs, if_neg (by decide)]
      rfl
    rw [hb]
    unfold mn
    rw [if_neg (by omega)]
  have e1 := exam_val h
  rw [e1]
  simp only
  split
  · rename_i h20
    have : examP (wb p (p.body ++ [tt])) = (0, 0, 3) := by
      unfold examP
      rw [if_neg (by simpa using w1)]
      simp only
      rw [if_neg (by simpa using w2), if_pos (by omega)]
    rw [this]
    exact ⟨rfl, rfl⟩
  · rename_i h20
    have hok : (examP (wb p (p.body ++ [tt]))).2.2 = 0 := exam_ok.2 ⟨w1, w2, by omega⟩
    rw [exam_val hok]
    exact ⟨rfl, hs, w3⟩
/-- An error of a prefix is the whole's. -/
theorem order_law {p : Pg} (k : Nat) (h1 : (examP p).2.2 ≠ 1) (h2 : (examP (wb p (p.body.take k))).2.2 ≠ 1) (h3 : (examP (wb p (p.body.take k))).2.2 ≠ 0) (h4 : (examP (wb p (p.body.take k))).2.2 ≠ 3) : (examP p).2.2 = (examP (wb p (p.body.take k))).2.2 := by
  have v1 : validP p = 0 := by
    by_cases hv : validP p = 0
    · exact hv
    · exfalso; apply h1; unfold examP; rw [if_pos (by simpa using hv)]
  have v2 : validP (wb p (p.body.take k)) = 0 := by
    by_cases hv : validP (wb p (p.body.take k)) = 0
    · exact hv
    · exfalso; apply h2; unfold examP; rw [if_pos (by simpa using hv)]
  have hE : ∀ q : Pg, validP q = 0 → (progM q).1 ≠ 0 → (examP q).2.2 = (progM q).1 := fun q hq hp => by
    unfold examP
    rw [if_neg (by simpa using hq)]
    simp only
    rw [if_pos (by simpa using hp)]
  have p2 : (progM (wb p (p.body.take k))).1 ≠ 0 := by
    intro hp
    by_cases hst : stepsP (wb p (p.body.take k)) > 20000
    · apply h4
      unfold examP
      rw [if_neg (by simpa using v2)]
      simp only
      rw [if_neg (by simpa using hp), if_pos hst]
    · exact h3 (exam_ok.2 ⟨v2, hp, by omega⟩)
  have key : (progM p).1 = (progM (wb p (p.body.take k))).1 := by
    have hsp := List.take_append_drop k p.body
    rw [progM_eq p, progM_eq (wb p (p.body.take k))] 
    rw [progM_eq] at p2
    show (if (funsM p.funcs [] 0).1 ≠ 0 then _ else _ : Int × Int).1 = (if (funsM p.funcs [] 0).1 ≠ 0 then _ else _ : Int × Int).1
    replace p2 : (if (funsM p.funcs [] 0).1 ≠ 0 then ((funsM p.funcs [] 0).1, (funsM p.funcs [] 0).2.2)
      else if (desM p.decls [] (funsM p.funcs [] 0).2.2).1 ≠ 0 then ((desM p.decls [] (funsM p.funcs [] 0).2.2).1, (desM p.decls [] (funsM p.funcs [] 0).2.2).2.2)
      else ((bodyM (funsM p.funcs [] 0).2.1 (p.body.take k) (desM p.decls [] (funsM p.funcs [] 0).2.2).2.1 (desM p.decls [] (funsM p.funcs [] 0).2.2).2.2).1, (bodyM (funsM p.funcs [] 0).2.1 (p.body.take k) (desM p.decls [] (funsM p.funcs [] 0).2.2).2.1 (desM p.decls [] (funsM p.funcs [] 0).2.2).2.2).2.2)).1 ≠ 0 := p2
    split
    · rfl
    · rename_i c1
      rw [if_neg c1] at p2
      show (if (desM p.decls [] (funsM p.funcs [] 0).2.2).1 ≠ 0 then _ else _ : Int × Int).1 = (if (desM p.decls [] (funsM p.funcs [] 0).2.2).1 ≠ 0 then _ else _ : Int × Int).1
      split
      · rfl
      · rename_i c2
        rw [if_neg c2] at p2
        simp only at p2
        show (bodyM (funsM p.funcs [] 0).2.1 p.body (desM p.decls [] (funsM p.funcs [] 0).2.2).2.1 (desM p.decls [] (funsM p.funcs [] 0).2.2).2.2).1 = (bodyM (funsM p.funcs [] 0).2.1 (p.body.take k) (desM p.decls [] (funsM p.funcs [] 0).2.2).2.1 (desM p.decls [] (funsM p.funcs [] 0).2.2).2.2).1
        have hs : (stsM (funsM p.funcs [] 0).2.1 (p.body.take k) (desM p.decls [] (funsM p.funcs [] 0).2.2).2.1 (desM p.decls [] (funsM p.funcs [] 0).2.2).2.2).1 ≠ 0 := by
          intro e
          apply p2
          rw [bodyM_eq, if_neg (by simpa using e)]
        have hb : stsM (funsM p.funcs [] 0).2.1 p.body (desM p.decls [] (funsM p.funcs [] 0).2.2).2.1 (desM p.decls [] (funsM p.funcs [] 0).2.2).2.2 = stsM (funsM p.funcs [] 0).2.1 (p.body.take k) (desM p.decls [] (funsM p.funcs [] 0).2.2).2.1 (desM p.decls [] (funsM p.funcs [] 0).2.2).2.2 := by
          have := stsM_app (funsM p.funcs [] 0).2.1 (p.body.take k) (p.body.drop k) (desM p.decls [] (funsM p.funcs [] 0).2.2).2.1 (desM p.decls [] (funsM p.funcs [] 0).2.2).2.2
          rw [hsp, if_pos (by simpa using hs)] at this
          exact this
        rw [bodyM_eq, bodyM_eq, hb]
  rw [hE p v1 (by rw [key]; exact p2), hE _ v2 p2, key]
theorem steps_ge {p : Pg} (h : (examP p).2.2 = 0) : 0 ≤ (examP p).2.1 ∧ (examP p).2.1 ≤ 20000 := by
  obtain ⟨h1, h2, h3⟩ := exam_ok.1 h
  obtain ⟨v1, v2, v3, v4, v5⟩ := valid_zero.1 h1
  have hlk := progM_lk v1 v3 h2
  have hks := stepK_B p.funcs [] hlk.1 KsB.nil
  have hr := bsSs_range (ks := stepK p.funcs []) p.body (fun s hs => (bsS_range hks s (List.all_eq_true.1 hlk.2 s hs)).1) 0 (by omega) (by omega)
  rw [exam_val h]
  exact ⟨hr.1, h3⟩
end Go.Ky

/- KX 17: a program's statements, cut and put together. -/
namespace Go.Ky
open Go.Pi Go.Lx

theorem sl_sts (nl : Bool) (l : List St) (k : Nat) (hk : k ≤ l.length) : sliceP 13 (.t (.sl nl (tSts l))) none (some (.t (.int .i64 (k : Int)))) none = some (.t (.sl nl (tSts (l.take k)))) := by
  have hlen : (tSts l).length = l.length := tSts_len l
  have h0 : (0 : Int) ≤ (k : Int) := by omega
  have e : ((tSts l).take k).drop 0 = tSts (l.take k) := by rw [List.drop_zero, tSts_map, tSts_map, List.map_take]
  have hsz : szOk 13 (tSts (l.take k)) = true := by
    cases l.take k with
    | nil => rfl
    | cons x r => show ((tSt x).length == 13) = true; rw [tSt_eq]; rfl
  simp only [sliceP, elems, bound, if_pos h0, Int.toNat_natCast, e, hsz, hlen]
  rw [if_pos ⟨Nat.zero_le _, hk, Nat.le_refl _, trivial⟩]
theorem all13 (l : List St) : (tSts l).all (fun x => x.length == 13) = true := by
  rw [tSts_map, List.all_map]
  refine List.all_eq_true.2 fun x _ => ?_
  show ((tSt x).length == 13) = true
  rw [tSt_eq]; rfl
theorem room13 {n : Nat} (h : n ≤ B20 + 10) : room n 152 = true := by
  have hb : B20 = 1100000 := rfl
  unfold room; simp only [decide_eq_true_eq]; omega
theorem app_sts (dr : Bool) (sg : Sg) (ow : Ow) (nl : Bool) (l : List St) (h : l.length ≤ B20) :
    (l = [] ∧ appendP dr sg ow 13 152 (.lit []) (.t (.sl nl (tSts l))) = some (.lit [], ow)) ∨ (l ≠ [] ∧ appendP dr sg ow 13 152 (.lit []) (.t (.sl nl (tSts l))) = some (.own ow.length 13 (tSts l), ow ++ [l.length])) := by
  cases l with
  | nil => exact .inl ⟨rfl, rfl⟩
  | cons x r =>
    refine .inr ⟨by simp, ?_⟩
    have ha := all13 (x :: r)
    have hr := room13 (n := (x :: r).length) (by omega)
    have hl := tSts_len (x :: r)
    show appendP dr sg ow 13 152 (.lit []) (.t (.sl nl (tSt x :: tSts r))) = some (.own ow.length 13 (tSt x :: tSts r), _)
    replace ha : (tSt x :: tSts r).all (fun x => x.length == 13) = true := ha
    replace hl : (tSt x :: tSts r).length = (x :: r).length := hl
    unfold appendP
    simp only [elemsS, elems]
    rw [if_pos ⟨ha, by decide⟩]
    simp only [List.length_nil, Nat.zero_add, hl, hr, List.all_nil, List.nil_append, and_self, if_true]
theorem app_one (dr : Bool) (sg : Sg) (l : List St) (s : St) (h : l.length ≤ B20) : appendP dr sg [l.length] 13 152 (.own 0 13 (tSts l)) (.lit [tSt s]) = some (.own 0 13 (tSts (l ++ [s])), [l.length + 1]) := by
  have hr := room13 (n := l.length + 1) (by omega)
  have hl := tSts_len l
  have ha : [tSt s].all (fun x => x.length == 13) = true := by simp [tSt_eq]
  have he : tSts l ++ [tSt s] = tSts (l ++ [s]) := by rw [tSts_map, tSts_map, List.map_append]; rfl
  unfold appendP
  simp only [elemsS, elems]
  rw [if_pos ⟨ha, by decide⟩]
  simp only [List.length_cons, List.length_nil, Nat.zero_add, hl, hr, he, List.getElem?_cons_zero, and_self, if_true, List.set_cons_zero]
theorem app_one0 (dr : Bool) (sg : Sg) (s : St) : appendP dr sg [] 13 152 (.lit []) (.lit [tSt s]) = some (.own 0 13 (tSts ([] ++ [s])), [1]) := by
  have hr := room13 (n := 1) (by have hb : B20 = 1100000 := rfl; omega)
  have ha : [tSt s].all (fun x => x.length == 13) = true := by simp [tSt_eq]
  unfold appendP
  simp only [elemsS, elems]
  rw [if_pos ⟨ha, by decide⟩]
  simp only [List.length_cons, List.length_nil, Nat.zero_add, hr, List.all_nil, and_self, if_true, List.nil_append]
  rfl
theorem szSs_app (a b : List St) : szSs (a ++ b) = szSs a + szSs b := by
  induction a with
  | nil => show szSs b = 0 + szSs b; omega
  | cons x r ih => rw [List.cons_append, szSs_cons, szSs_cons, ih]; omega
theorem szSs_take (k : Nat) (l : List St) : szSs (l.take k) ≤ szSs l := by
  have := szSs_app (l.take k) (l.drop k)
  rw [List.take_append_drop] at this
  omega
end Go.Ky

/- KX 18: a program that is read: its parts' sizes. -/
namespace Go.Ky
open Go.Pi Go.Lx

theorem tBkss_mem {α : Type} {enc : α → List T} {l : List α} {x : α} (h : x ∈ l) : tBks (enc x) ≤ tBkss (l.map enc) := by
  induction l with
  | nil => cases h
  | cons y r ih =>
    show tBks (enc x) ≤ tBks (enc y) + tBkss (r.map enc)
    rcases List.mem_cons.1 h with e | e
    · subst e; omega
    · have := ih e; omega
theorem tBkss_len {α : Type} {enc : α → List T} (he : ∀ x, 1 ≤ tBks (enc x)) (l : List α) : l.length ≤ tBkss (l.map enc) := by
  induction l with
  | nil => exact Nat.zero_le _
  | cons y r ih =>
    show r.length + 1 ≤ tBks (enc y) + tBkss (r.map enc)
    have := he y
    omega
theorem tFu_sz (f : Fu) : tBks (tFu f) = f.name.length + 1 + (tBkss (f.params.map tPa) + 1) + 3 + (szSs f.body + 1) + szE f.ret := by
  rw [szE_eq]
  unfold szSs szEs
  simp only [tBks, tBk]
  omega
theorem tPg_sz (p : Pg) : tBks (tPg p) = (tBkss (p.funcs.map tFu) + 1) + (tBkss (p.decls.map tDe) + 1) + (szSs p.body + 1) := by
  unfold szSs
  simp only [tBks, tBk]
  omega
theorem pg_sizes {p : Pg} {M : Nat} (h : tBks (tPg p) ≤ M) : p.funcs.length ≤ M ∧ p.decls.length ≤ M ∧ (∀ f, f ∈ p.funcs → f.params.length ≤ M ∧ szSs f.body ≤ M ∧ szE f.ret ≤ M) ∧ szSs p.body ≤ M := by
  rw [tPg_sz] at h
  have h1 := tBkss_len (enc := tFu) (fun x => by rw [tFu_sz]; omega) p.funcs
  have h2 := tBkss_len (enc := tDe) (fun x => by simp only [tBks, tBk]; omega) p.decls
  refine ⟨by omega, by omega, fun f hf => ?_, by omega⟩
  have h3 := tBkss_mem (enc := tFu) hf
  rw [tFu_sz] at h3
  have h4 := tBkss_len (enc := tPa) (fun x => by simp only [tBks, tBk]; omega) f.params
  exact ⟨by omega, by omega, by omega⟩
end Go.Ky
