/- KX 5: programs of the circuit language as plain data; which are valid. No program in sight. -/
import Derived.Test.YtdjcnfacjfnakaaGreatPi31
import Derived.Test.YtdjcnfacjfnakaaGreatLx1
import Derived.Test.YtdjcnfacjfnakaaGreatPi29
namespace Go.Ky
open Go.Pi

abbrev Nm := List UInt8
structure Ty where
  kind : Int
  bits : Int
  len : Int
deriving DecidableEq
abbrev tTy (t : Ty) : List T := [.int .i64 t.kind, .int .i64 t.bits, .int .i64 t.len]
def zTy : Ty := ⟨0, 0, 0⟩
def fieldT : Ty := ⟨1, 0, 0⟩
def boolT : Ty := ⟨2, 0, 0⟩

inductive Exp where
  | mk (op val : Int) (name : Nm) (nl : Bool) (args : List Exp)
instance : Inhabited Exp := ⟨.mk 0 0 [] true []⟩
def Exp.op : Exp → Int | .mk o _ _ _ _ => o
def Exp.val : Exp → Int | .mk _ v _ _ _ => v
def Exp.name : Exp → Nm | .mk _ _ n _ _ => n
def Exp.nl : Exp → Bool | .mk _ _ _ b _ => b
def Exp.args : Exp → List Exp | .mk _ _ _ _ l => l
theorem Exp.ind {p : Exp → Prop} (h : ∀ e : Exp, (∀ a, a ∈ e.args → p a) → p e) : ∀ e, p e := by
  intro e
  refine Exp.rec (motive_1 := p) (motive_2 := fun l => ∀ a, a ∈ l → p a) ?_ ?_ ?_ e
  · intro o v n b l ih
    exact h (.mk o v n b l) ih
  · intro a ha; cases ha
  · intro x l hx hl a ha
    rcases List.mem_cons.1 ha with e | e
    · subst e; exact hx
    · exact hl a e
mutual
def tEx : Exp → List T
  | .mk o v n nl l => [.int .i64 o, .int .u64 v, .str n, .sl nl (tExs l)]
def tExs : List Exp → List (List T)
  | [] => []
  | e :: r => tEx e :: tExs r
end
theorem tExs_map (l : List Exp) : tExs l = l.map tEx := by
  induction l with
  | nil => rfl
  | cons e r ih => rw [tExs, ih]; rfl
theorem tEx_eq (e : Exp) : tEx e = [.int .i64 e.op, .int .u64 e.val, .str e.name, .sl e.nl (tExs e.args)] := by
  cases e; rfl
theorem tExs_len (l : List Exp) : (tExs l).length = l.length := by rw [tExs_map, List.length_map]
theorem tExs_get (l : List Exp) (i : Nat) : (tExs l)[i]? = l[i]?.map tEx := by rw [tExs_map, List.getElem?_map]

inductive St where
  | mk (kind : Int) (name : Nm) (typed : Bool) (ty : Ty) (ex : Exp) (lo hi : Int) (nl : Bool) (body : List St)
instance : Inhabited St := ⟨.mk 0 [] false zTy default 0 0 true []⟩
def St.kind : St → Int | .mk k _ _ _ _ _ _ _ _ => k
def St.name : St → Nm | .mk _ n _ _ _ _ _ _ _ => n
def St.typed : St → Bool | .mk _ _ b _ _ _ _ _ _ => b
def St.ty : St → Ty | .mk _ _ _ t _ _ _ _ _ => t
def St.ex : St → Exp | .mk _ _ _ _ e _ _ _ _ => e
def St.lo : St → Int | .mk _ _ _ _ _ l _ _ _ => l
def St.hi : St → Int | .mk _ _ _ _ _ _ h _ _ => h
def St.nl : St → Bool | .mk _ _ _ _ _ _ _ b _ => b
def St.body : St → List St | .mk _ _ _ _ _ _ _ _ l => l
theorem St.ind {p : St → Prop} (h : ∀ s : St, (∀ a, a ∈ s.body → p a) → p s) : ∀ s, p s := by
  intro s
  refine St.rec (motive_1 := p) (motive_2 := fun l => ∀ a, a ∈ l → p a) ?_ ?_ ?_ s
  · intro k n b t e lo hi nl l ih
    exact h (.mk k n b t e lo hi nl l) ih
  · intro a ha; cases ha
  · intro x l hx hl a ha
    rcases List.mem_cons.1 ha with e | e
    · subst e; exact hx
    · exact hl a e
mutual
def tSt : St → List T
  | .mk k n b t e lo hi nl l => [.int .i64 k, .str n, .bool b, .int .i64 t.kind, .int .i64 t.bits, .int .i64 t.len, .int .i64 e.op, .int .u64 e.val, .str e.name, .sl e.nl (tExs e.args), .int .i64 lo, .int .i64 hi, .sl nl (tSts l)]
def tSts : List St → List (List T)
  | [] => []
  | e :: r => tSt e :: tSts r
end
theorem tSts_map (l : List St) : tSts l = l.map tSt := by
  induction l with
  | nil => rfl
  | cons e r ih => rw [tSts, ih]; rfl
theorem tSt_eq (s : St) : tSt s = [.int .i64 s.kind, .str s.name, .bool s.typed, .int .i64 s.ty.kind, .int .i64 s.ty.bits, .int .i64 s.ty.len, .int .i64 s.ex.op, .int .u64 s.ex.val, .str s.ex.name, .sl s.ex.nl (tExs s.ex.args), .int .i64 s.lo, .int .i64 s.hi, .sl s.nl (tSts s.body)] := by
  cases s; rfl
theorem tSts_len (l : List St) : (tSts l).length = l.length := by rw [tSts_map, List.length_map]
theorem tSts_get (l : List St) (i : Nat) : (tSts l)[i]? = l[i]?.map tSt := by rw [tSts_map, List.getElem?_map]
structure Pa where
  name : Nm
  ty : Ty
abbrev tPa (p : Pa) : List T := [.str p.name, .int .i64 p.ty.kind, .int .i64 p.ty.bits, .int .i64 p.ty.len]
structure Fu where
  name : Nm
  pnl : Bool
  params : List Pa
  res : Ty
  bnl : Bool
  body : List St
  ret : Exp
abbrev tFu (f : Fu) : List T := [.str f.name, .sl f.pnl (f.params.map tPa), .int .i64 f.res.kind, .int .i64 f.res.bits, .int .i64 f.res.len, .sl f.bnl (tSts f.body), .int .i64 f.ret.op, .int .u64 f.ret.val, .str f.ret.name, .sl f.ret.nl (tExs f.ret.args)]
structure De where
  pub : Bool
  name : Nm
  ty : Ty
abbrev tDe (d : De) : List T := [.bool d.pub, .str d.name, .int .i64 d.ty.kind, .int .i64 d.ty.bits, .int .i64 d.ty.len]
structure Pg where
  fnl : Bool
  funcs : List Fu
  dnl : Bool
  decls : List De
  bnl : Bool
  body : List St
abbrev tPg (p : Pg) : List T := [.sl p.fnl (p.funcs.map tFu), .sl p.dnl (p.decls.map tDe), .sl p.bnl (tSts p.body)]

/-! ### What an argument's reading promises -/
abbrev B47 : Nat := 140737488355328
def I64 (n : Int) : Prop := -9223372036854775808 ≤ n ∧ n ≤ 9223372036854775807
def U64 (n : Int) : Prop := 0 ≤ n ∧ n ≤ 18446744073709551615
def TyOk (t : Ty) : Prop := I64 t.kind ∧ I64 t.bits ∧ I64 t.len
inductive ExpOk : Exp → Prop where
  | mk (e : Exp) (h1 : I64 e.op) (h2 : U64 e.val) (h3 : e.name.length ≤ B47) (h4 : e.args.length ≤ B47) (h5 : e.nl = true → e.args = []) (h : ∀ a, a ∈ e.args → ExpOk a) : ExpOk e
inductive StOk : St → Prop where
  | mk (s : St) (h1 : I64 s.kind) (h2 : s.name.length ≤ B47) (h3 : TyOk s.ty) (h4 : ExpOk s.ex) (h5 : I64 s.lo) (h6 : I64 s.hi) (h7 : s.body.length ≤ B47) (h8 : s.nl = true → s.body = []) (h : ∀ a, a ∈ s.body → StOk a) : StOk s
def PaOk (p : Pa) : Prop := p.name.length ≤ B47 ∧ TyOk p.ty
structure FuOk (f : Fu) : Prop where
  name : f.name.length ≤ B47
  pl : f.params.length ≤ B47
  pn : f.pnl = true → f.params = []
  pa : ∀ p, p ∈ f.params → PaOk p
  res : TyOk f.res
  bl : f.body.length ≤ B47
  bn : f.bnl = true → f.body = []
  bo : ∀ s, s ∈ f.body → StOk s
  ret : ExpOk f.ret
def DeOk (d : De) : Prop := d.name.length ≤ B47 ∧ TyOk d.ty
structure PgOk (p : Pg) : Prop where
  fl : p.funcs.length ≤ B47
  fn : p.fnl = true → p.funcs = []
  fo : ∀ f, f ∈ p.funcs → FuOk f
  dl : p.decls.length ≤ B47
  dn : p.dnl = true → p.decls = []
  dok : ∀ d, d ∈ p.decls → DeOk d
  bl : p.body.length ≤ B47
  bn : p.bnl = true → p.body = []
  bo : ∀ s, s ∈ p.body → StOk s
abbrev ctTy : List CT := [.int .i64, .int .i64, .int .i64]
/-- The kinds of the cells of expressions, x, and of statements, s: the numbers of their types. -/
abbrev ctEx (x : Nat) : List CT := [.int .i64, .int .u64, .str, .slr x]
abbrev ctSt (x s : Nat) : List CT := [.int .i64, .str, .bool, .int .i64, .int .i64, .int .i64, .int .i64, .int .u64, .str, .slr x, .int .i64, .int .i64, .slr s]
abbrev ctPa : List CT := [.str, .int .i64, .int .i64, .int .i64]
abbrev ctFu (x s : Nat) : List CT := [.str, .sl ctPa, .int .i64, .int .i64, .int .i64, .slr s, .int .i64, .int .u64, .str, .slr x]
abbrev ctDe : List CT := [.bool, .str, .int .i64, .int .i64, .int .i64]
abbrev ctPg (x s : Nat) : List CT := [.sl (ctFu x s), .sl ctDe, .slr s]
def envPg (x s : Nat) (t : Nat) : List CT := if t = x then ctEx x else if t = s then ctSt x s else []
theorem envPg_x {x s : Nat} : envPg x s x = ctEx x := by simp [envPg]
theorem envPg_s {x s : Nat} (h : s ≠ x) : envPg x s s = ctSt x s := by simp [envPg, h]
section
variable {env : Nat → List CT} {x s : Nat}
theorem exs_rep {N : Nat} (hN : N ≤ B47) (hx : env x = ctEx x) : ∀ (c : CT) (y : T), Wt env N c y → c = .slr x → ∃ (nl : Bool) (l : List Exp), y = .sl nl (tExs l) ∧ l.length ≤ N ∧ (nl = true → l = []) ∧ ∀ a, a ∈ l → ExpOk a := by
  intro c y h
  induction h with
  | nslr t => intro _; exact ⟨true, [], rfl, Nat.zero_le _, fun _ => rfl, by simp⟩
  | slr t es hl hc h ih =>
    intro e
    injection e with e
    subst e
    rw [hx] at hc h ih
    obtain ⟨l, h1, h2⟩ := list_enc (enc := tEx) (p := ExpOk) (es := es) fun e he => by
      have hw : Wts env N (ctEx t) e := ⟨hc e he, h e he⟩
      obtain ⟨y1, r1, rfl, w1, hw⟩ := wts_cons hw
      obtain ⟨y2, r2, rfl, w2, hw⟩ := wts_cons hw
      obtain ⟨y3, r3, rfl, w3, hw⟩ := wts_cons hw
      obtain ⟨y4, r4, rfl, w4, hw⟩ := wts_cons hw
      have := wts_nil hw
      subst this
      obtain ⟨op, rfl, o1, o2⟩ := wt_i64 w1
      obtain ⟨v, rfl, v1, v2⟩ := wt_u64 w2
      obtain ⟨n, rfl, n1⟩ := wt_str w3
      obtain ⟨nl, l, rfl, l1, l2, l3⟩ := ih _ he 3 _ y4 rfl rfl rfl
      exact ⟨.mk op v n nl l, rfl, .mk _ ⟨o1, o2⟩ ⟨v1, v2⟩ (Nat.le_trans n1 hN) (Nat.le_trans l1 hN) l2 l3⟩
    subst h1
    exact ⟨false, l, by rw [tExs_map], by simpa using hl, by simp, h2⟩
  | _ => intro e; cases e
theorem ty_rep {N : Nat} {y1 y2 y3 : T} (w1 : Wt env N (.int .i64) y1) (w2 : Wt env N (.int .i64) y2) (w3 : Wt env N (.int .i64) y3) : ∃ t : Ty, y1 = .int .i64 t.kind ∧ y2 = .int .i64 t.bits ∧ y3 = .int .i64 t.len ∧ TyOk t := by
  obtain ⟨a, rfl, a1, a2⟩ := wt_i64 w1
  obtain ⟨b, rfl, b1, b2⟩ := wt_i64 w2
  obtain ⟨c, rfl, c1, c2⟩ := wt_i64 w3
  exact ⟨⟨a, b, c⟩, rfl, rfl, rfl, ⟨a1, a2⟩, ⟨b1, b2⟩, ⟨c1, c2⟩⟩
theorem ex_rep {N : Nat} (hN : N ≤ B47) (hx : env x = ctEx x) {y1 y2 y3 y4 : T} (w1 : Wt env N (.int .i64) y1) (w2 : Wt env N (.int .u64) y2) (w3 : Wt env N .str y3) (w4 : Wt env N (.slr x) y4) :
    ∃ e : Exp, y1 = .int .i64 e.op ∧ y2 = .int .u64 e.val ∧ y3 = .str e.name ∧ y4 = .sl e.nl (tExs e.args) ∧ ExpOk e := by
  obtain ⟨op, rfl, o1, o2⟩ := wt_i64 w1
  obtain ⟨v, rfl, v1, v2⟩ := wt_u64 w2
  obtain ⟨n, rfl, n1⟩ := wt_str w3
  obtain ⟨nl, l, rfl, l1, l2, l3⟩ := exs_rep hN hx _ y4 w4 rfl
  exact ⟨.mk op v n nl l, rfl, rfl, rfl, rfl, .mk _ ⟨o1, o2⟩ ⟨v1, v2⟩ (Nat.le_trans n1 hN) (Nat.le_trans l1 hN) l2 l3⟩
theorem sts_rep {N : Nat} (hN : N ≤ B47) (hx : env x = ctEx x) (hs : env s = ctSt x s) : ∀ (c : CT) (y : T), Wt env N c y → c = .slr s → ∃ (nl : Bool) (l : List St), y = .sl nl (tSts l) ∧ l.length ≤ N ∧ (nl = true → l = []) ∧ ∀ a, a ∈ l → StOk a := by
  intro c y h
  induction h with
  | nslr t => intro _; exact ⟨true, [], rfl, Nat.zero_le _, fun _ => rfl, by simp⟩
  | slr t es hl hc h ih =>
    intro e
    injection e with e
    subst e
    rw [hs] at hc h ih
    obtain ⟨l, h1, h2⟩ := list_enc (enc := tSt) (p := StOk) (es := es) fun e he => by
      have hw : Wts env N (ctSt x t) e := ⟨hc e he, h e he⟩
      obtain ⟨y1, r1, rfl, w1, hw⟩ := wts_cons hw
      obtain ⟨y2, r2, rfl, w2, hw⟩ := wts_cons hw
      obtain ⟨y3, r3, rfl, w3, hw⟩ := wts_cons hw
      obtain ⟨y4, r4, rfl, w4, hw⟩ := wts_cons hw
      obtain ⟨y5, r5, rfl, w5, hw⟩ := wts_cons hw
      obtain ⟨y6, r6, rfl, w6, hw⟩ := wts_cons hw
      obtain ⟨y7, r7, rfl, w7, hw⟩ := wts_cons hw
      obtain ⟨y8, r8, rfl, w8, hw⟩ := wts_cons hw
      obtain ⟨y9, r9, rfl, w9, hw⟩ := wts_cons hw
      obtain ⟨y10, r10, rfl, w10, hw⟩ := wts_cons hw
      obtain ⟨y11, r11, rfl, w11, hw⟩ := wts_cons hw
      obtain ⟨y12, r12, rfl, w12, hw⟩ := wts_cons hw
      obtain ⟨y13, r13, rfl, w13, hw⟩ := wts_cons hw
      have := wts_nil hw
      subst this
      obtain ⟨k, rfl, k1, k2⟩ := wt_i64 w1
      obtain ⟨n, rfl, n1⟩ := wt_str w2
      obtain ⟨b, rfl⟩ := wt_bool w3
      obtain ⟨ty, rfl, rfl, rfl, t1⟩ := ty_rep w4 w5 w6
      obtain ⟨e, rfl, rfl, rfl, rfl, e1⟩ := ex_rep hN hx w7 w8 w9 w10
      obtain ⟨lo, rfl, lo1, lo2⟩ := wt_i64 w11
      obtain ⟨hi, rfl, hi1, hi2⟩ := wt_i64 w12
      obtain ⟨nl, l, rfl, l1, l2, l3⟩ := ih _ he 12 _ y13 rfl rfl rfl
      exact ⟨.mk k n b ty e lo hi nl l, rfl, .mk _ ⟨k1, k2⟩ (Nat.le_trans n1 hN) t1 e1 ⟨lo1, lo2⟩ ⟨hi1, hi2⟩ (Nat.le_trans l1 hN) l2 l3⟩
    subst h1
    exact ⟨false, l, by rw [tSts_map], by simpa using hl, by simp, h2⟩
  | _ => intro e; cases e
theorem pg_rep {N : Nat} (hN : N ≤ B47) (hx : env x = ctEx x) (hs : env s = ctSt x s) {y1 y2 y3 : T} (w1 : Wt env N (.sl (ctFu x s)) y1) (w2 : Wt env N (.sl ctDe) y2) (w3 : Wt env N (.slr s) y3) :
    ∃ p : Pg, y1 = .sl p.fnl (p.funcs.map tFu) ∧ y2 = .sl p.dnl (p.decls.map tDe) ∧ y3 = .sl p.bnl (tSts p.body) ∧ PgOk p := by
  obtain ⟨fnl, fes, rfl, f1, f2, f3⟩ := wt_sl w1
  obtain ⟨dnl, des, rfl, d1, d2, d3⟩ := wt_sl w2
  obtain ⟨bnl, bo, rfl, b1, b2, b3⟩ := sts_rep hN hx hs _ y3 w3 rfl
  obtain ⟨fs, g1, g2⟩ := list_enc (enc := tFu) (p := FuOk) (es := fes) fun e he => by
    obtain ⟨y1, r1, rfl, w1, hw⟩ := wts_cons (f3 e he)
    obtain ⟨y2, r2, rfl, w2, hw⟩ := wts_cons hw
    obtain ⟨y3, r3, rfl, w3, hw⟩ := wts_cons hw
    obtain ⟨y4, r4, rfl, w4, hw⟩ := wts_cons hw
    obtain ⟨y5, r5, rfl, w5, hw⟩ := wts_cons hw
    obtain ⟨y6, r6, rfl, w6, hw⟩ := wts_cons hw
    obtain ⟨y7, r7, rfl, w7, hw⟩ := wts_cons hw
    obtain ⟨y8, r8, rfl, w8, hw⟩ := wts_cons hw
    obtain ⟨y9, r9, rfl, w9, hw⟩ := wts_cons hw
    obtain ⟨y10, r10, rfl, w10, hw⟩ := wts_cons hw
    have := wts_nil hw
    subst this
    obtain ⟨n, rfl, n1⟩ := wt_str w1
    obtain ⟨pnl, pes, rfl, p1, p2, p3⟩ := wt_sl w2
    obtain ⟨ps, q1, q2⟩ := list_enc (enc := tPa) (p := PaOk) (es := pes) fun e he => by
      obtain ⟨y1, r1, rfl, w1, hw⟩ := wts_cons (p3 e he)
      obtain ⟨y2, r2, rfl, w2, hw⟩ := wts_cons hw
      obtain ⟨y3, r3, rfl, w3, hw⟩ := wts_cons hw
      obtain ⟨y4, r4, rfl, w4, hw⟩ := wts_cons hw
      have := wts_nil hw
      subst this
      obtain ⟨n, rfl, n1⟩ := wt_str w1
      obtain ⟨ty, rfl, rfl, rfl, t1⟩ := ty_rep w2 w3 w4
      exact ⟨⟨n, ty⟩, rfl, Nat.le_trans n1 hN, t1⟩
    subst q1
    obtain ⟨ty, rfl, rfl, rfl, t1⟩ := ty_rep w3 w4 w5
    obtain ⟨sn, sl, rfl, s1, s2, s3⟩ := sts_rep hN hx hs _ y6 w6 rfl
    obtain ⟨e, rfl, rfl, rfl, rfl, e1⟩ := ex_rep hN hx w7 w8 w9 w10
    refine ⟨⟨n, pnl, ps, ty, sn, sl, e⟩, rfl, ?_⟩
    exact ⟨Nat.le_trans n1 hN, by simpa using Nat.le_trans p1 hN, fun h => by simpa using p2 h, q2, t1, Nat.le_trans s1 hN, s2, s3, e1⟩
  obtain ⟨ds, h1, h2⟩ := list_enc (enc := tDe) (p := DeOk) (es := des) fun e he => by
    obtain ⟨y1, r1, rfl, w1, hw⟩ := wts_cons (d3 e he)
    obtain ⟨y2, r2, rfl, w2, hw⟩ := wts_cons hw
    obtain ⟨y3, r3, rfl, w3, hw⟩ := wts_cons hw
    obtain ⟨y4, r4, rfl, w4, hw⟩ := wts_cons hw
    obtain ⟨y5, r5, rfl, w5, hw⟩ := wts_cons hw
    have := wts_nil hw
    subst this
    obtain ⟨b, rfl⟩ := wt_bool w1
    obtain ⟨n, rfl, n1⟩ := wt_str w2
    obtain ⟨ty, rfl, rfl, rfl, t1⟩ := ty_rep w3 w4 w5
    exact ⟨⟨b, n, ty⟩, rfl, Nat.le_trans n1 hN, t1⟩
  subst g1 h1
  refine ⟨⟨fnl, fs, dnl, ds, bnl, bo⟩, rfl, rfl, rfl, ?_⟩
  exact ⟨by simpa using Nat.le_trans f1 hN, fun h => by simpa using f2 h, g2, by simpa using Nat.le_trans d1 hN, fun h => by simpa using d2 h, h2, Nat.le_trans b1 hN, b2, b3⟩
end
end Go.Ky

/- KX 6: valid programs, the checker of types, the steps, in plain words. No program in sight. -/
namespace Go.Ky
open Go.Pi Go.Lx

/-! ### Sizes -/
abbrev B20 : Nat := 1100000
def szE (e : Exp) : Nat := tBks (tEx e)
def szEs (l : List Exp) : Nat := tBkss (tExs l)
def szS (s : St) : Nat := tBks (tSt s)
def szSs (l : List St) : Nat := tBkss (tSts l)
theorem szE_eq (e : Exp) : szE e = 4 + e.name.length + szEs e.args := by
  unfold szE szEs
  rw [tEx_eq]
  simp only [tBks, tBk]
  omega
theorem szEs_cons (e : Exp) (r : List Exp) : szEs (e :: r) = szE e + szEs r := rfl
theorem szS_eq (s : St) : szS s = 13 + s.name.length + s.ex.name.length + szEs s.ex.args + szSs s.body := by
  unfold szS szSs szEs
  rw [tSt_eq]
  simp only [tBks, tBk]
  omega
theorem szSs_cons (e : St) (r : List St) : szSs (e :: r) = szS e + szSs r := rfl
theorem szEs_mem {l : List Exp} {e : Exp} (h : e ∈ l) : szE e ≤ szEs l := by
  induction l with
  | nil => cases h
  | cons x r ih =>
    rw [szEs_cons]
    rcases List.mem_cons.1 h with e | e
    · subst e; omega
    · have := ih e; omega
theorem szSs_mem {l : List St} {e : St} (h : e ∈ l) : szS e ≤ szSs l := by
  induction l with
  | nil => cases h
  | cons x r ih =>
    rw [szSs_cons]
    rcases List.mem_cons.1 h with e | e
    · subst e; omega
    · have := ih e; omega
theorem szEs_len (l : List Exp) : l.length ≤ szEs l := by
  induction l with
  | nil => exact Nat.zero_le _
  | cons x r ih => rw [szEs_cons, szE_eq, List.length_cons]; omega
theorem szSs_len (l : List St) : l.length ≤ szSs l := by
  induction l with
  | nil => exact Nat.zero_le _
  | cons x r ih => rw [szSs_cons, szS_eq, List.length_cons]; omega
theorem szS_ex (s : St) : szE s.ex ≤ szS s := by rw [szS_eq, szE_eq]; omega

/-! ### Validity -/
def nameB : List UInt8 → Bool
  | [] => false
  | c :: r => decide ((c :: r).length ≤ 24) && isLet c && decide (span isNam (c :: r) = (c :: r).length) && !keywords.contains (c :: r)
def tyB (t : Ty) : Bool :=
  if t.len < 0 ∨ 64 < t.len then false else if t.kind = 1 ∨ t.kind = 2 then decide (t.bits = 0) else if t.kind = 3 then decide (1 ≤ t.bits) && decide (t.bits ≤ 62) else false
def opB (op n v : Int) (nm : Nm) : Bool :=
  if op = 1 then decide (n = 0) && decide (nm = [])
  else if op = 2 then decide (n = 0) && decide (v = 0) && nameB nm
  else if op = 3 ∨ op = 4 then decide (n = 0) && decide (v = 0) && decide (nm = [])
  else if op = 5 then decide (v = 0) && nameB nm
  else if op = 6 then decide (1 ≤ n) && decide (nm = [])
  else if op = 7 then decide (1 ≤ n) && decide (v = 0) && decide (nm = [])
  else if op = 9 ∨ op = 10 then decide (n = 1) && decide (v = 0) && decide (nm = [])
  else if op = 20 then decide (n = 3) && decide (v = 0) && decide (nm = [])
  else if op = 8 ∨ op = 11 ∨ op = 12 ∨ op = 13 ∨ op = 14 ∨ op = 15 ∨ op = 16 ∨ op = 17 ∨ op = 18 ∨ op = 19 then decide (n = 2) && decide (v = 0) && decide (nm = [])
  else false
mutual
def exB : Exp → Bool
  | .mk o v n _ l => exsB l && opB o (l.length : Int) v n
def exsB : List Exp → Bool
  | [] => true
  | e :: r => exB e && exsB r
end
theorem exsB_all (l : List Exp) : exsB l = l.all exB := by
  induction l with
  | nil => rfl
  | cons e r ih => rw [exsB, ih]; rfl
theorem exB_eq (e : Exp) : exB e = (e.args.all exB && opB e.op (e.args.length : Int) e.val e.name) := by
  cases e
  rw [exB, exsB_all]; rfl
def emptyE (e : Exp) : Bool := decide (e.op = 0) && decide (e.val = 0) && decide (e.name = []) && decide ((e.args.length : Int) = 0)
def loopN (n : Int) : Bool := decide (0 ≤ n) && decide (n ≤ 1000000)
def untyped (s : St) : Bool := !s.typed && decide (s.ty = zTy)
mutual
def stB : St → Bool
  | .mk k n b t e lo hi _ l =>
    if k = 1 then !(!b && !decide (t = zTy) || b && !tyB t) && nameB n && exB e && decide (lo = 0) && decide (hi = 0) && decide ((l.length : Int) = 0)
    else if k = 2 then decide (n = []) && (!b && decide (t = zTy)) && exB e && decide (lo = 0) && decide (hi = 0) && decide ((l.length : Int) = 0)
    else if k = 3 then nameB n && (!b && decide (t = zTy)) && emptyE e && loopN lo && loopN hi && stsB l
    else false
def stsB : List St → Bool
  | [] => true
  | s :: r => stB s && stsB r
end
theorem stsB_all (l : List St) : stsB l = l.all stB := by
  induction l with
  | nil => rfl
  | cons e r ih => rw [stsB, ih]; rfl
theorem stB_eq (s : St) : stB s = if s.kind = 1 then !(!s.typed && !decide (s.ty = zTy) || s.typed && !tyB s.ty) && nameB s.name && exB s.ex && decide (s.lo = 0) && decide (s.hi = 0) && decide ((s.body.length : Int) = 0)
    else if s.kind = 2 then decide (s.name = []) && untyped s && exB s.ex && decide (s.lo = 0) && decide (s.hi = 0) && decide ((s.body.length : Int) = 0)
    else if s.kind = 3 then nameB s.name && untyped s && emptyE s.ex && loopN s.lo && loopN s.hi && s.body.all stB
    else false := by
  cases s
  rw [stB, stsB_all]; rfl
def paB (p : Pa) : Bool := nameB p.name && tyB p.ty
def deB (d : De) : Bool := nameB d.name && tyB d.ty
def fuB (f : Fu) : Bool := nameB f.name && f.params.all paB && tyB f.res && f.body.all stB && exB f.ret
mutual
def dEx : Exp → Nat
  | .mk _ _ _ _ l => dExs l + 1
def dExs : List Exp → Nat
  | [] => 0
  | e :: r => max (dEx e) (dExs r)
end
mutual
def dSt : St → Nat
  | .mk _ _ _ _ _ _ _ _ l => dSts l + 1
def dSts : List St → Nat
  | [] => 0
  | e :: r => max (dSt e) (dSts r)
end
theorem dEx_eq (e : Exp) : dEx e = dExs e.args + 1 := by cases e; rfl
theorem dSt_eq (s : St) : dSt s = dSts s.body + 1 := by cases s; rfl
theorem dEx_le : ∀ e : Exp, dEx e ≤ szE e := by
  refine Exp.ind fun e ih => ?_
  rw [dEx_eq, szE_eq]
  have : ∀ l : List Exp, (∀ a, a ∈ l → dEx a ≤ szE a) → dExs l ≤ szEs l := by
    intro l
    induction l with
    | nil => intro _; exact Nat.zero_le _
    | cons x r ihr =>
      intro h
      have h1 := h x (by simp)
      have h2 := ihr fun a ha => h a (by simp [ha])
      rw [dExs, szEs_cons]
      omega
  have := this e.args ih
  omega
theorem dExs_le (l : List Exp) : dExs l ≤ szEs l := by
  induction l with
  | nil => exact Nat.zero_le _
  | cons x r ih =>
    have := dEx_le x
    rw [dExs, szEs_cons]
    omega
theorem dSt_le : ∀ e : St, dSt e ≤ szS e := by
  refine St.ind fun e ih => ?_
  rw [dSt_eq, szS_eq]
  have : ∀ l : List St, (∀ a, a ∈ l → dSt a ≤ szS a) → dSts l ≤ szSs l := by
    intro l
    induction l with
    | nil => intro _; exact Nat.zero_le _
    | cons x r ihr =>
      intro h
      have h1 := h x (by simp)
      have h2 := ihr fun a ha => h a (by simp [ha])
      rw [dSts, szSs_cons]
      omega
  have := this e.body ih
  omega
theorem dSts_le (l : List St) : dSts l ≤ szSs l := by
  induction l with
  | nil => exact Nat.zero_le _
  | cons x r ih =>
    have := dSt_le x
    rw [dSts, szSs_cons]
    omega
def shE (e : Exp) : Bool := decide ((dEx e : Int) ≤ 40)
mutual
def shS : St → Bool
  | .mk k n b t e lo hi nl l => decide ((dSt (.mk k n b t e lo hi nl l) : Int) ≤ 40) && shE e && shSs l
def shSs : List St → Bool
  | [] => true
  | s :: r => shS s && shSs r
end
theorem shSs_all (l : List St) : shSs l = l.all shS := by
  induction l with
  | nil => rfl
  | cons e r ih => rw [shSs, ih]; rfl
theorem shS_eq (s : St) : shS s = (decide ((dSt s : Int) ≤ 40) && shE s.ex && s.body.all shS) := by
  cases s
  rw [shS, shSs_all]; rfl
def shF (f : Fu) : Bool := f.body.all shS && shE f.ret
/-- 0: valid; 1: malformed; 3: too deep. -/
def validP (p : Pg) : Int :=
  if (p.funcs.all fuB && p.decls.all deB && p.body.all stB) = false then 1 else if (p.funcs.all shF && p.body.all shS) = false then 3 else 0

/-! ### The checker -/
structure Sy where
  typ : Ty
  loop : Bool
  low : Int
  high : Int
abbrev Ns := List (Nm × Sy)
abbrev Fs := List (Nm × Fu)
def look {α : Type} (k : Nm) : List (Nm × α) → Option α
  | [] => none
  | (j, x) :: r => if k = j then some x else look k r
abbrev tSy (s : Sy) : List T := [.int .i64 s.typ.kind, .int .i64 s.typ.bits, .int .i64 s.typ.len, .bool s.loop, .int .i64 s.low, .int .i64 s.high]
abbrev zSy : List T := [.int .i64 0, .int .i64 0, .int .i64 0, .bool false, .int .i64 0, .int .i64 0]
def fitsB (t u : Ty) : Bool := if t.len ≠ u.len then false else if u.kind = 1 then true else decide (t.kind = u.kind) && decide (t.bits ≤ u.bits)
def lenZ (x : Int) : Int := if x = 0 then 0 else (x.toNat.log2 : Int) + 1
def numT (n : Int) : Ty := if 4611686018427387904 ≤ n then fieldT else ⟨3, if lenZ n > 1 then lenZ n else 1, 0⟩
def isSc (t : Ty) : Bool := decide (t.len = 0)
def isBo (t : Ty) : Bool := decide (t = boolT)
/-- A type, or an error. -/
abbrev Rt := Ty × Int
def bad (e : Int) : Rt := (zTy, e)
def allM (p : Ty → Bool) (l : List Ty) (r : Ty) : Rt := if l.all p then (r, 0) else bad 6
def callFit : List Ty → List Pa → Bool
  | t :: r, p :: ps => fitsB t p.ty && callFit r ps
  | _, _ => true
def callM (fs : Fs) (nm : Nm) (l : List Ty) : Rt :=
  match look nm fs with
  | none => bad 4
  | some f => if (l.length : Int) ≠ (f.params.length : Int) then bad 6 else if callFit l f.params then (f.res, 0) else bad 6
def listGo (a : Ty) : List Ty → Ty → Option Ty
  | [], r => some r
  | t :: l, r => if t.len ≠ 0 then none else if t ≠ a then listGo a l fieldT else listGo a l r
def listM (l : List Ty) : Rt :=
  match l with
  | [] => bad 99
  | a :: _ => match listGo a l a with
    | none => bad 6
    | some r => (⟨r.kind, r.bits, (l.length : Int)⟩, 0)
def choiceM (c x y : Ty) : Rt := if isBo c = false then bad 6 else if x = y then (x, 0) else if isSc x && isSc y then (fieldT, 0) else bad 6
def mx (x y : Int) : Int := if y > x then y else x
def compM (x y : Ty) (w : Int) : Rt × Int :=
  if x.kind ≠ 3 ∨ y.kind ≠ 3 ∨ x.len ≠ 0 ∨ y.len ≠ 0 then (bad 6, w) else ((boolT, 0), mx w (IntKind.i64.wrap (mx x.bits y.bits + 1)))
/-- Is an index inside? An error, if it has no permitted form. -/
def posM (ns : Ns) (e : Exp) (len : Int) : Bool × Int :=
  let most := IntKind.u64.wrap len
  if e.op = 1 then (decide (e.val < most), 0)
  else
    let two := e.op = 12 ∨ e.op = 13
    let nm := if two then e.args.getD 0 default else e
    let off := if two then (e.args.getD 1 default).val else 0
    if two ∧ (e.args.getD 1 default).op ≠ 1 then (false, 6)
    else if nm.op ≠ 2 then (false, 6)
    else match look nm.name ns with
      | none => (false, 4)
      | some s => if s.loop = false then (false, 6) else if s.low = s.high then (true, 0) else
        let first := IntKind.u64.wrap s.low
        let last := IntKind.u64.wrap (IntKind.i64.wrap (s.high - 1))
        if e.op = 13 then (decide (off ≤ first) && decide (IntKind.u64.wrap (last - off) < most), 0)
        else (decide (off < most) && decide (IntKind.u64.wrap (last + off) < most), 0)
def opM (fs : Fs) (ns : Ns) (op val : Int) (nm : Nm) (l : List Ty) (w : Int) : Rt × Int :=
  if op = 1 then ((numT val, 0), w)
  else if op = 3 ∨ op = 4 then ((boolT, 0), w)
  else if op = 2 then ((match look nm ns with | none => bad 4 | some s => (s.typ, 0)), w)
  else if op = 5 then (callM fs nm l, w)
  else if op = 6 then (if 65536 ≤ val then bad 8 else allM isSc l fieldT, w)
  else if op = 7 then (listM l, w)
  else if op = 20 then (choiceM (l.getD 0 zTy) (l.getD 1 zTy) (l.getD 2 zTy), w)
  else if op = 14 ∨ op = 15 then (allM isSc l boolT, w)
  else if op = 16 ∨ op = 17 then compM (l.getD 0 zTy) (l.getD 1 zTy) w
  else if op = 10 ∨ op = 18 ∨ op = 19 then (allM isBo l boolT, w)
  else (allM isSc l fieldT, w)
def idxM (ns : Ns) (r : Rt × Int) (b : Exp) : Rt × Int :=
  if r.1.2 ≠ 0 then (bad r.1.2, r.2)
  else
    let q := posM ns b r.1.1.len
    if q.2 ≠ 0 then (bad q.2, r.2) else if r.1.1.len = 0 then (bad 6, r.2) else if q.1 = false then (bad 8, r.2) else ((⟨r.1.1.kind, r.1.1.bits, 0⟩, 0), r.2)
mutual
def exM (fs : Fs) (ns : Ns) : Exp → Int → Rt × Int
  | .mk op val nm _ l, w =>
    if op = 8 then (match l with
      | a :: b :: _ => idxM ns (exM fs ns a w) b
      | _ => (bad 99, w))
    else
      let q := exsM fs ns l w
      if q.1.2 ≠ 0 then (bad q.1.2, q.2) else opM fs ns op val nm q.1.1 q.2
def exsM (fs : Fs) (ns : Ns) : List Exp → Int → (List Ty × Int) × Int
  | [], w => (([], 0), w)
  | a :: r, w =>
    let q := exM fs ns a w
    if q.1.2 ≠ 0 then (([], q.1.2), q.2) else
      let q2 := exsM fs ns r q.2
      if q2.1.2 ≠ 0 then (([], q2.1.2), q2.2) else ((q.1.1 :: q2.1.1, 0), q2.2)
end
theorem exM_eq (fs : Fs) (ns : Ns) (e : Exp) (w : Int) : exM fs ns e w = if e.op = 8 then (match e.args with
      | a :: b :: _ => idxM ns (exM fs ns a w) b
      | _ => (bad 99, w))
    else
      let q := exsM fs ns e.args w
      if q.1.2 ≠ 0 then (bad q.1.2, q.2) else opM fs ns e.op e.val e.name q.1.1 q.2 := by
  cases e with | mk op v n b l =>
  rcases l with _ | ⟨x, _ | ⟨y, r⟩⟩ <;> (simp only [exM]; rfl)
/-- An error, or 0; the names, the width. -/
abbrev Rs := Int × Ns × Int
def decM (nm : Nm) (s : Sy) (ns : Ns) (w : Int) : Rs := match look nm ns with
  | some _ => (5, ns, w)
  | none => (0, ns ++ [(nm, s)], w)
def noteM (t : Ty) (w : Int) : Int := if t.kind = 3 then mx w t.bits else w
mutual
def stM (fs : Fs) : St → Ns → Int → Rs
  | .mk k nm typed ty e lo hi _ l, ns, w =>
    if k = 3 then (if lo > hi then (8, ns, w) else match decM nm ⟨fieldT, true, lo, hi⟩ ns w with
      | (d, ns1, w1) => if d ≠ 0 then (d, ns1, w1) else match stsM fs l ns1 w1 with
        | (d2, ns2, w2) => if d2 ≠ 0 then (d2, ns2, w2) else (0, ns, w2))
    else
      let q := exM fs ns e w
      if q.1.2 ≠ 0 then (q.1.2, ns, q.2)
      else if k = 2 then (if q.1.1 ≠ boolT then 6 else 0, ns, q.2)
      else if typed then (if (ty.len = 0 ∧ q.1.1.len ≠ 0) ∨ (ty.len ≠ 0 ∧ fitsB q.1.1 ty = false) then (6, ns, q.2) else decM nm ⟨ty, false, 0, 0⟩ ns (noteM ty q.2))
      else decM nm ⟨q.1.1, false, 0, 0⟩ ns q.2
def stsM (fs : Fs) : List St → Ns → Int → Rs
  | [], ns, w => (0, ns, w)
  | s :: r, ns, w => match stM fs s ns w with
    | (d, ns1, w1) => if d ≠ 0 then (d, ns1, w1) else stsM fs r ns1 w1
end
/-- Statements whose names are forgotten. -/
def bodyM (fs : Fs) (l : List St) (ns : Ns) (w : Int) : Rs := match stsM fs l ns w with
  | (d, ns1, w1) => if d ≠ 0 then (d, ns1, w1) else (0, ns, w1)
theorem stM_eq (fs : Fs) (s : St) (ns : Ns) (w : Int) : stM fs s ns w =
    if s.kind = 3 then (if s.lo > s.hi then (8, ns, w) else match decM s.name ⟨fieldT, true, s.lo, s.hi⟩ ns w with
      | (d, ns1, w1) => if d ≠ 0 then (d, ns1, w1) else match stsM fs s.body ns1 w1 with
        | (d2, ns2, w2) => if d2 ≠ 0 then (d2, ns2, w2) else (0, ns, w2))
    else
      let q := exM fs ns s.ex w
      if q.1.2 ≠ 0 then (q.1.2, ns, q.2)
      else if s.kind = 2 then (if q.1.1 ≠ boolT then 6 else 0, ns, q.2)
      else if s.typed then (if (s.ty.len = 0 ∧ q.1.1.len ≠ 0) ∨ (s.ty.len ≠ 0 ∧ fitsB q.1.1 s.ty = false) then (6, ns, q.2) else decM s.name ⟨s.ty, false, 0, 0⟩ ns (noteM s.ty q.2))
      else decM s.name ⟨q.1.1, false, 0, 0⟩ ns q.2 := by
  cases s
  rw [stM]; rfl
def parsM : List Pa → Ns → Int → Rs
  | [], ns, w => (0, ns, w)
  | p :: r, ns, w => match decM p.name ⟨p.ty, false, 0, 0⟩ ns w with
    | (d, ns1, w1) => if d ≠ 0 then (d, ns1, w1) else parsM r ns1 w1
/-- An error, or 0; the functions, the width. No name is visible ahead or behind. -/
def funM (fs : Fs) (f : Fu) (w : Int) : Int × Fs × Int :=
  match look f.name fs with
  | some _ => (5, fs, w)
  | none => match parsM f.params [] w with
    | (d, ns1, w1) => if d ≠ 0 then (d, fs, w1) else match stsM fs f.body ns1 w1 with
      | (d2, ns2, w2) => if d2 ≠ 0 then (d2, fs, w2) else
        let q := exM fs ns2 f.ret w2
        if q.1.2 ≠ 0 then (q.1.2, fs, q.2) else if fitsB q.1.1 f.res = false then (6, fs, q.2) else (0, fs ++ [(f.name, f)], q.2)
def funsM : List Fu → Fs → Int → Int × Fs × Int
  | [], fs, w => (0, fs, w)
  | f :: r, fs, w => match funM fs f w with
    | (d, fs1, w1) => if d ≠ 0 then (d, fs1, w1) else funsM r fs1 w1
def desM : List De → Ns → Int → Rs
  | [], ns, w => (0, ns, w)
  | d :: r, ns, w => match decM d.name ⟨d.ty, false, 0, 0⟩ ns w with
    | (e, ns1, w1) => if e ≠ 0 then (e, ns1, w1) else desM r ns1 (noteM d.ty w1)
/-- An error, or 0; the width. -/
def progM (p : Pg) : Int × Int :=
  match funsM p.funcs [] 0 with
  | (d, fs, w) => if d ≠ 0 then (d, w) else match desM p.decls [] w with
    | (d1, ns, w1) => if d1 ≠ 0 then (d1, w1) else match bodyM fs p.body ns w1 with
      | (d2, _, w2) => (d2, w2)

/-! ### Steps -/
def mn (x y : Int) : Int := if y < x then y else x
abbrev Ks := List (Nm × Int)
def lookI (k : Nm) (l : Ks) : Int := (look k l).getD 0
mutual
def csE (ks : Ks) : Exp → Int
  | .mk op _ nm _ l => mn 20001 (csEs ks l (if op = 5 then 1 + lookI nm ks else 0))
def csEs (ks : Ks) : List Exp → Int → Int
  | [], n => n
  | e :: r, n => csEs ks r (mn 20001 (n + csE ks e))
end
theorem csE_eq (ks : Ks) (e : Exp) : csE ks e = mn 20001 (csEs ks e.args (if e.op = 5 then 1 + lookI e.name ks else 0)) := by
  cases e
  rw [csE]; rfl
mutual
def bsS (ks : Ks) : St → Int
  | .mk k _ _ _ e lo hi _ l => if k = 3 then (hi - lo) * bsSs ks l 0 else 1 + csE ks e
def bsSs (ks : Ks) : List St → Int → Int
  | [], n => n
  | s :: r, n => bsSs ks r (mn (n + bsS ks s) 20001)
end
theorem bsS_eq (ks : Ks) (s : St) : bsS ks s = if s.kind = 3 then (s.hi - s.lo) * bsSs ks s.body 0 else 1 + csE ks s.ex := by
  cases s
  rw [bsS]; rfl
/-- A number for a name, over an older one. -/
def putK (k : Nm) (n : Int) : Ks → Ks
  | [] => [(k, n)]
  | (j, m) :: r => if k = j then (k, n) :: r else (j, m) :: putK k n r
def stepK : List Fu → Ks → Ks
  | [], ks => ks
  | f :: r, ks => stepK r (putK f.name (mn 20001 (bsSs ks f.body 0 + csE ks f.ret)) ks)
def stepsP (p : Pg) : Int := bsSs (stepK p.funcs []) p.body 0
/-- The width, the steps, an error. -/
def examP (p : Pg) : Int × Int × Int :=
  if validP p ≠ 0 then (0, 0, 1) else match progM p with
  | (d, w) => if d ≠ 0 then (0, 0, d) else if stepsP p > 20000 then (0, 0, 3) else (w, stepsP p, 0)
end Go.Ky

/- KX 7: stores that grow; maps with names for keys; slices of types. -/
namespace Go.Ky
open Go.Pi Go.Lx

/-- The store has more behind it. -/
def Grow (sg sg' : Sg) : Prop := ∃ r, sg' = sg ++ r
theorem Grow.refl (sg : Sg) : Grow sg sg := ⟨[], by simp⟩
theorem Grow.trans {a b c : Sg} (h : Grow a b) (h' : Grow b c) : Grow a c := by
  obtain ⟨r, rfl⟩ := h
  obtain ⟨r', rfl⟩ := h'
  exact ⟨r ++ r', by rw [List.append_assoc]⟩
theorem Grow.app (sg r : Sg) : Grow sg (sg ++ r) := ⟨r, rfl⟩
theorem Grow.app2 {a b : Sg} (h : Grow a b) (r : Sg) : Grow a (b ++ r) := h.trans (.app _ _)
theorem Grow.get {sg sg' : Sg} (h : Grow sg sg') {i : Nat} {x : Bool × List PV} (hi : sg[i]? = some x) : sg'[i]? = some x := by
  obtain ⟨r, rfl⟩ := h
  exact get_more hi
theorem Grow.len {sg sg' : Sg} (h : Grow sg sg') : sg.length ≤ sg'.length := by
  obtain ⟨r, rfl⟩ := h
  simp
/-- All but one segment stay; more may be behind. -/
def Fr (c : Nat) (sg sg' : Sg) : Prop := sg.length ≤ sg'.length ∧ ∀ i, i < sg.length → i ≠ c → sg'[i]? = sg[i]?
theorem Fr.refl (c : Nat) (sg : Sg) : Fr c sg sg := ⟨Nat.le_refl _, fun _ _ _ => rfl⟩
theorem Fr.trans {c : Nat} {a b d : Sg} (h : Fr c a b) (h' : Fr c b d) : Fr c a d :=
  ⟨Nat.le_trans h.1 h'.1, fun i hi hc => (h'.2 i (Nat.lt_of_lt_of_le hi h.1) hc).trans (h.2 i hi hc)⟩
theorem Fr.of {c : Nat} {a b : Sg} (h : Grow a b) : Fr c a b := by
  obtain ⟨r, rfl⟩ := h
  exact ⟨by simp, fun i hi _ => List.getElem?_append_left hi⟩
theorem Fr.get {c : Nat} {a b : Sg} (h : Fr c a b) {i : Nat} {x : Bool × List PV} (hi : a[i]? = some x) (hc : i ≠ c) : b[i]? = some x := by
  rw [h.2 i (List.getElem?_eq_some_iff.1 hi).1 hc]; exact hi
theorem Fr.set {c : Nat} {a b : Sg} (h : Fr c a b) (x : Bool × List PV) : Fr c a (b.set c x) := by
  refine ⟨by simpa using h.1, fun i hi hc => ?_⟩
  rw [List.getElem?_set_ne (fun e => hc e.symm)]
  exact h.2 i hi hc
theorem get_set {sg : Sg} {i : Nat} {x y : Bool × List PV} (h : sg[i]? = some x) : (sg.set i y)[i]? = some y :=
  List.getElem?_set_self (List.getElem?_eq_some_iff.1 h).1
theorem lt_of_get {sg : Sg} {i : Nat} {x : Bool × List PV} (h : sg[i]? = some x) : i < sg.length := (List.getElem?_eq_some_iff.1 h).1

/-! ### Maps -/
def ents {α : Type} (enc : α → T) (l : List (Nm × α)) : List PV := l.map fun p => .tup [.t (.str p.1), .t (enc p.2)]
theorem eq1_str (a b : List UInt8) : eq1 2 (.str a) (.str b) = some (decide (a = b)) := by
  show some (a == b) = _
  congr 1
  by_cases h : a = b
  · subst h; simp
  · rw [decide_eq_false h]; simpa using h
theorem mfind_ents {α : Type} (enc : α → T) (k : Nm) (l : List (Nm × α)) : mfind 2 (.str k) (ents enc l) = some ((look k l).map enc) := by
  induction l with
  | nil => rfl
  | cons p r ih =>
    obtain ⟨j, x⟩ := p
    show mfind 2 (.str k) (.tup [.t (.str j), .t (enc x)] :: ents enc r) = _
    simp only [mfind, eq1_str, look]
    by_cases h : k = j
    · subst h; simp
    · simp only [decide_eq_false h, if_neg h]; exact ih
theorem mset_new {α : Type} (enc : α → T) (k : Nm) (v : α) (l : List (Nm × α)) (h : look k l = none) : mset 2 (.str k) (enc v) (ents enc l) = ents enc (l ++ [(k, v)]) := by
  induction l with
  | nil => rfl
  | cons p r ih =>
    obtain ⟨j, x⟩ := p
    simp only [look] at h
    split at h
    · cases h
    · rename_i hk
      show mset 2 (.str k) (enc v) (.tup [.t (.str j), .t (enc x)] :: ents enc r) = _
      simp only [mset, eq1_str, decide_eq_false hk, ih h]
      simp [ents]
theorem mset_put (k : Nm) (n : Int) (l : Ks) : mset 2 (.str k) (.int .i64 n) (ents (fun x => .int .i64 x) l) = ents (fun x => .int .i64 x) (putK k n l) := by
  induction l with
  | nil => rfl
  | cons p r ih =>
    obtain ⟨j, x⟩ := p
    show mset 2 (.str k) (.int .i64 n) (.tup [.t (.str j), .t (.int .i64 x)] :: ents _ r) = _
    simp only [mset, eq1_str, putK]
    by_cases h : k = j
    · subst h; simp [ents]
    · simp only [decide_eq_false h, if_neg h, ih]
      simp [ents]
theorem mdel_last {α : Type} (enc : α → T) (k : Nm) (v : α) (l r : List (Nm × α)) (h : look k l = none) : mdel 2 (.str k) (ents enc (l ++ (k, v) :: r)) = ents enc (l ++ r) := by
  induction l with
  | nil => 
    show mdel 2 (.str k) (.tup [.t (.str k), .t (enc v)] :: ents enc r) = _
    simp [mdel, eq1_str]
  | cons p l ih =>
    obtain ⟨j, x⟩ := p
    simp only [look] at h
    split at h
    · cases h
    · rename_i hk
      show mdel 2 (.str k) (.tup [.t (.str j), .t (enc x)] :: ents enc (l ++ (k, v) :: r)) = _
      simp only [mdel, eq1_str, decide_eq_false hk, ih h]
      simp [ents]
theorem look_app {α : Type} (k : Nm) (l r : List (Nm × α)) : look k (l ++ r) = match look k l with | some x => some x | none => look k r := by
  induction l with
  | nil => rfl
  | cons p l ih =>
    obtain ⟨j, x⟩ := p
    simp only [List.cons_append, look]
    split
    · rfl
    · exact ih
theorem look_none {α : Type} {k : Nm} {l : List (Nm × α)} : look k l = none ↔ k ∉ l.map (·.1) := by
  induction l with
  | nil => simp [look]
  | cons p l ih =>
    obtain ⟨j, x⟩ := p
    simp only [look, List.map_cons, List.mem_cons, not_or]
    split
    · rename_i h; simp [h]
    · rename_i h; rw [ih]; simp [h]

theorem ty_beq (s : Ty) (a b c : Int) : (s.kind == a && (s.bits == b && s.len == c)) = decide (s = ⟨a, b, c⟩) := by
  cases s
  simp only [Ty.mk.injEq]
  rw [Bool.eq_iff_iff]
  simp
theorem ty_beq2 (s t : Ty) : (s.kind == t.kind && (s.bits == t.bits && s.len == t.len)) = decide (s = t) := ty_beq s t.kind t.bits t.len
/-! ### Results -/
theorem xR_ct {gl : Nat → Option (List T)} {k l n : Nat} {ag : Bool} {fr : List PV} {sg : Sg} {ow : Ow} {K : PV → Sg → Ow → Prop} : xR gl [(k, some (ag, n)), (l, none)] K ⟨⟩ .ret ⟨fr, sg, ow⟩ ↔ xO (loadP gl sg ag n (fget fr k)) (fun v => K (.tup [v, fget fr l]) sg ow) ⟨⟩ := by
  show resK gl _ K .ret _ ↔ onO _ _
  simp only [resK, resAll, List.mapM_cons, List.mapM_nil, resOne]
  cases loadP gl sg ag n (fget fr k) <;> rfl
/-! ### Slices of types -/
def SlT (sg : Sg) (v : PV) (ts : List Ty) : Prop :=
  (ts = [] ∧ ∃ k, v = .own k 3 []) ∨ ∃ a cs, v = .ls a 0 ts.length 3 ∧ sg[a]? = some (false, cs) ∧ cs.length = ts.length * 3 ∧ ∀ i t, ts[i]? = some t → (cs.drop (i * 3)).take 3 = [.t (.int .i64 t.kind), .t (.int .i64 t.bits), .t (.int .i64 t.len)]
theorem SlT.grow {sg sg' : Sg} {v : PV} {ts : List Ty} (h : SlT sg v ts) (hg : Grow sg sg') : SlT sg' v ts := by
  rcases h with h | ⟨a, cs, h1, h2, h3⟩
  · exact .inl h
  · exact .inr ⟨a, cs, h1, hg.get h2, h3⟩
theorem SlT.len {sg : Sg} {v : PV} {ts : List Ty} (h : SlT sg v ts) : lenP false v = some ts.length := by
  rcases h with ⟨rfl, k, rfl⟩ | ⟨a, cs, rfl, _⟩
  · rfl
  · rfl
/-! ### Integers -/
theorem i64_succ {i n : Nat} (h : i < n) (hn : n ≤ 281474976710656) : IntKind.wrap .i64 ((i : Int) + 1) = ((i + 1 : Nat) : Int) := by rw [IntWalk.i64_in _ (by omega)]; omega
end Go.Ky

/- KX 8: the checker's store. -/
namespace Go.Ky
open Go.Pi Go.Lx

theorem grow_of {sg sg' : Sg} (h : ∀ i : Nat, i < sg.length → sg'[i]? = sg[i]?) : Grow sg sg' := by
  refine ⟨sg'.drop sg.length, ?_⟩
  apply List.ext_getElem?
  intro i
  rcases Nat.lt_or_ge i sg.length with hi | hi
  · rw [List.getElem?_append_left hi, h i hi]
  · rw [List.getElem?_append_right hi, List.getElem?_drop]
    congr 1
    omega
theorem Fr.grow {b : Nat} {sg sg0 sg' : Sg} (hg : Grow sg sg0) (h : Fr b sg0 sg') (hb : sg.length ≤ b) : Grow sg sg' := by
  refine grow_of fun i hi => ?_
  rw [h.2 i (Nat.lt_of_lt_of_le hi hg.len) (by omega)]
  obtain ⟨r, rfl⟩ := hg
  exact List.getElem?_append_left hi
theorem set_same {sg : Sg} {i : Nat} {x : Bool × List PV} (h : sg[i]? = some x) : sg.set i x = sg := by
  apply List.ext_getElem?
  intro j
  by_cases hj : i = j
  · subst hj
    rw [List.getElem?_set_self (lt_of_get h), h]
  · rw [List.getElem?_set_ne hj]
abbrev cTy (t : Ty) : List PV := [.t (.int .i64 t.kind), .t (.int .i64 t.bits), .t (.int .i64 t.len)]
abbrev tRt (r : Rt) : PV := .tup [.t (.agg (tTy r.1)), .t (.int .i64 r.2)]
/-- The checker's segments. -/
structure Ck (sg : Sg) (c f n : Nat) (fs : Fs) (ns : Ns) (od : PV) (w : Int) : Prop where
  c : sg[c]? = some (false, [.mp f, .mp n, od, .t (.int .i64 w)])
  f : sg[f]? = some (true, ents (fun x => .agg (tFu x)) fs)
  n : sg[n]? = some (true, ents (fun x => .agg (tSy x)) ns)
theorem Ck.fc {sg : Sg} {c f n : Nat} {fs : Fs} {ns : Ns} {od : PV} {w : Int} (h : Ck sg c f n fs ns od w) : f ≠ c := fun e => by
  have h1 := h.c
  have h2 := h.f
  rw [e, h1] at h2
  injection h2 with h2
  injection h2 with h2 _
  cases h2
theorem Ck.nc {sg : Sg} {c f n : Nat} {fs : Fs} {ns : Ns} {od : PV} {w : Int} (h : Ck sg c f n fs ns od w) : n ≠ c := fun e => by
  have h1 := h.c
  have h2 := h.n
  rw [e, h1] at h2
  injection h2 with h2
  injection h2 with h2 _
  cases h2
theorem Ck.grow {sg sg' : Sg} {c f n : Nat} {fs : Fs} {ns : Ns} {od : PV} {w : Int} (h : Ck sg c f n fs ns od w) (hg : Grow sg sg') : Ck sg' c f n fs ns od w := ⟨hg.get h.c, hg.get h.f, hg.get h.n⟩
theorem Ck.fr {sg sg' : Sg} {c f n : Nat} {fs : Fs} {ns : Ns} {od : PV} {w w' : Int} (h : Ck sg c f n fs ns od w) (hr : Fr c sg sg') (hc : sg'[c]? = some (false, [.mp f, .mp n, od, .t (.int .i64 w')])) : Ck sg' c f n fs ns od w' := ⟨hc, hr.get h.f h.fc, hr.get h.n h.nc⟩
theorem app_get {sg : Sg} {c : Nat} (h : c < sg.length) (r : Sg) : (sg ++ r)[c]? = sg[c]? := List.getElem?_append_left h
theorem app_set {sg : Sg} {c : Nat} (h : c < sg.length) (r : Sg) (x : Bool × List PV) : (sg ++ r).set c x = sg.set c x ++ r := List.set_append_left _ _ h
theorem gs0 {sg r : Sg} {c : Nat} {x : Bool × List PV} : (sg.set c x ++ r)[sg.length]? = r[0]? := by
  have := @get_app0 _ (sg.set c x) r
  rw [List.length_set] at this
  exact this
theorem gsk {sg r : Sg} {c k : Nat} {x : Bool × List PV} : (sg.set c x ++ r)[sg.length + k]? = r[k]? := by
  have := @get_app _ (sg.set c x) r k
  rw [List.length_set] at this
  exact this
theorem ss0 {sg r : Sg} {c : Nat} {x y : Bool × List PV} : (sg.set c x ++ r).set sg.length y = sg.set c x ++ r.set 0 y := by
  have := @set_app0 _ (sg.set c x) r y
  rw [List.length_set] at this
  exact this
theorem ssk {sg r : Sg} {c k : Nat} {x y : Bool × List PV} : (sg.set c x ++ r).set (sg.length + k) y = sg.set c x ++ r.set k y := by
  have := @set_app _ (sg.set c x) r y k
  rw [List.length_set] at this
  exact this
theorem gsc {sg r : Sg} {c : Nat} {x : Bool × List PV} (h : c < sg.length) : (sg.set c x ++ r)[c]? = some x := by
  rw [List.getElem?_append_left (by simpa using h), List.getElem?_set_self h]
theorem Fr.setapp (c : Nat) (sg : Sg) (x : Bool × List PV) (r : Sg) : Fr c sg (sg.set c x ++ r) := by
  refine ⟨by simp, fun i hi hc => ?_⟩
  rw [List.getElem?_append_left (by simpa using hi), List.getElem?_set_ne (fun e => hc e.symm)]
theorem Fr.app {c : Nat} {sg sg' : Sg} (h : Fr c sg sg') (r : Sg) : Fr c sg (sg' ++ r) := h.trans (Fr.of (.app _ _))
end Go.Ky

/- KX 9: what a region keeps; three cells of a row. -/
namespace Go.Ky
open Go.Pi Go.Lx

noncomputable def keep1 (a b : Option (Bool × List PV)) : Option Unit := @ite _ (a = b) (Classical.propDecidable _) (some ()) none
theorem keep1_self (a : Option (Bool × List PV)) : keep1 a a = some () := by unfold keep1; simp
noncomputable def keepP (sg sg' : Sg) : PV → Option Unit
  | .lp id _ => keep1 sg'[id]? sg[id]?
  | _ => none
theorem keepsV_nil {fr : List PV} {sg sg' : Sg} : keepsV fr [] sg sg' = some () := keepsV_of (fun k h => by cases h)
theorem keepsV_cons {fr : List PV} {k : Nat} {ks : List Nat} {sg sg' : Sg} : keepsV fr (k :: ks) sg sg' = (keepP sg sg' (fget fr k)).bind fun _ => keepsV fr ks sg sg' := by
  by_cases h : keeps fr (k :: ks) sg sg'
  · rw [keepsV_of h]
    obtain ⟨id, off, h1, h2⟩ := h k (by simp)
    rw [h1]
    simp only [keepP, h2, keep1_self, Option.bind_some]
    rw [keepsV_of (fun j hj => h j (by simp [hj]))]
  · have hn : keepsV fr (k :: ks) sg sg' = none := by
      unfold keepsV
      rw [if_neg (fun e => h (keepsB_iff.1 e))]
    rw [hn]
    cases hk : keepP sg sg' (fget fr k) with
    | none => rfl
    | some u =>
      simp only [Option.bind_some]
      by_cases h2 : keeps fr ks sg sg'
      · exfalso
        apply h
        intro j hj
        rcases List.mem_cons.1 hj with e | e
        · subst e
          cases hv : fget fr j <;> rw [hv] at hk <;> simp only [keepP, reduceCtorEq] at hk
          rename_i id off
          refine ⟨id, off, rfl, ?_⟩
          unfold keep1 at hk
          by_cases he : sg'[id]? = sg[id]?
          · exact he
          · simp [he] at hk
        · exact h2 j e
      · unfold keepsV
        rw [if_neg (fun e => h2 (keepsB_iff.1 e))]
/-- All but two segments stay. -/
def Fr2 (c a : Nat) (sg sg' : Sg) : Prop := sg.length ≤ sg'.length ∧ ∀ i, i < sg.length → i ≠ c → i ≠ a → sg'[i]? = sg[i]?
theorem Fr2.refl (c a : Nat) (sg : Sg) : Fr2 c a sg sg := ⟨Nat.le_refl _, fun _ _ _ _ => rfl⟩
theorem Fr2.trans {c a : Nat} {x y z : Sg} (h : Fr2 c a x y) (h' : Fr2 c a y z) : Fr2 c a x z :=
  ⟨Nat.le_trans h.1 h'.1, fun i hi hc ha => (h'.2 i (Nat.lt_of_lt_of_le hi h.1) hc ha).trans (h.2 i hi hc ha)⟩
theorem Fr2.of {c a : Nat} {x y : Sg} (h : Fr c x y) : Fr2 c a x y := ⟨h.1, fun i hi hc _ => h.2 i hi hc⟩
theorem Fr2.get {c a : Nat} {x y : Sg} (h : Fr2 c a x y) {i : Nat} {v : Bool × List PV} (hi : x[i]? = some v) (hc : i ≠ c) (ha : i ≠ a) : y[i]? = some v := by
  rw [h.2 i (lt_of_get hi) hc ha]; exact hi
theorem Fr2.set {c a : Nat} {x y : Sg} (h : Fr2 c a x y) (v : Bool × List PV) : Fr2 c a x (y.set a v) := by
  refine ⟨by simpa using h.1, fun i hi hc ha => ?_⟩
  rw [List.getElem?_set_ne (fun e => ha e.symm)]
  exact h.2 i hi hc ha
/-- A segment that is new does not count. -/
theorem Fr2.fr {c a : Nat} {sg x y : Sg} (hg : Fr c sg x) (h : Fr2 c a x y) (ha : sg.length ≤ a) : Fr c sg y :=
  ⟨Nat.le_trans hg.1 h.1, fun i hi hc => (h.2 i (Nat.lt_of_lt_of_le hi hg.1) hc (by omega)).trans (hg.2 i hi hc)⟩
theorem set3 {cs : List PV} {i : Nat} {a b c : PV} (h : i * 3 + 3 ≤ cs.length) :
    (((cs.set (i * 3) a).set (i * 3 + 1) b).set (i * 3 + 1 + 1) c).length = cs.length ∧ ((((cs.set (i * 3) a).set (i * 3 + 1) b).set (i * 3 + 1 + 1) c).drop (i * 3)).take 3 = [a, b, c] ∧
    ∀ j, j ≠ i → ((((cs.set (i * 3) a).set (i * 3 + 1) b).set (i * 3 + 1 + 1) c).drop (j * 3)).take 3 = (cs.drop (j * 3)).take 3 := by
  refine ⟨by simp, ?_, fun j hj => ?_⟩
  · apply List.ext_getElem?
    intro k
    rw [List.getElem?_take, List.getElem?_drop]
    by_cases hk : k < 3
    · rw [if_pos hk]
      match k, hk with
      | 0, _ => rw [List.getElem?_set_ne (by omega), List.getElem?_set_ne (by omega)]; simp only [Nat.add_zero]; rw [List.getElem?_set_self (by omega)]; rfl
      | 1, _ => rw [List.getElem?_set_ne (by omega), List.getElem?_set_self (by simp; omega)]; rfl
      | 2, _ => rw [List.getElem?_set_self (by simp; omega)]; rfl
    · rw [if_neg hk, List.getElem?_eq_none (by simp; omega)]
  · apply List.ext_getElem?
    intro k
    rw [List.getElem?_take, List.getElem?_take, List.getElem?_drop, List.getElem?_drop]
    by_cases hk : k < 3
    · rw [if_pos hk, if_pos hk, List.getElem?_set_ne (by omega), List.getElem?_set_ne (by omega), List.getElem?_set_ne (by omega)]
    · rw [if_neg hk, if_neg hk]
theorem exB_two {e : Exp} (h : exB e = true) (ho : e.op = 8 ∨ e.op = 12 ∨ e.op = 13 ∨ e.op = 16 ∨ e.op = 17) : ∃ a b, e.args = [a, b] := by
  rw [exB_eq] at h
  simp only [Bool.and_eq_true] at h
  have h2 := h.2
  have hl : e.args.length = 2 := by
    unfold opB at h2
    rcases ho with ho | ho | ho | ho | ho <;> rw [ho] at h2 <;> simp at h2 <;> omega
  match hq : e.args, hl with
  | [a, b], _ => exact ⟨a, b, rfl⟩
theorem exB_three {e : Exp} (h : exB e = true) (ho : e.op = 20) : ∃ a b c, e.args = [a, b, c] := by
  rw [exB_eq] at h
  simp only [Bool.and_eq_true] at h
  have h2 := h.2
  have hl : e.args.length = 3 := by
    unfold opB at h2
    rw [ho] at h2
    simp at h2
    omega
  match hq : e.args, hl with
  | [a, b, c], _ => exact ⟨a, b, c, rfl⟩
theorem exB_some {e : Exp} (h : exB e = true) (ho : e.op = 7) : 0 < e.args.length := by
  rw [exB_eq] at h
  simp only [Bool.and_eq_true] at h
  have h2 := h.2
  unfold opB at h2
  rw [ho] at h2
  simp at h2
  omega
theorem exB_args {e : Exp} (h : exB e = true) : ∀ a, a ∈ e.args → exB a = true := by
  rw [exB_eq] at h
  simp only [Bool.and_eq_true] at h
  exact List.all_eq_true.1 h.1
end Go.Ky

/- KX 10: arrays of types under way. -/
namespace Go.Ky
open Go.Pi Go.Lx

theorem Ck.fr2 {sg sg' : Sg} {c f n a : Nat} {fs : Fs} {ns : Ns} {od : PV} {w w' : Int} (h : Ck sg c f n fs ns od w) (hr : Fr2 c a sg sg') (hf : f ≠ a) (hn : n ≠ a) (hc : sg'[c]? = some (false, [.mp f, .mp n, od, .t (.int .i64 w')])) : Ck sg' c f n fs ns od w' := ⟨hc, hr.get h.f h.fc hf, hr.get h.n h.nc hn⟩
theorem Fr2.app {c a : Nat} {x y : Sg} (h : Fr2 c a x y) (r : Sg) : Fr2 c a x (y ++ r) := h.trans (Fr2.of (Fr.of (.app _ _)))
theorem cells2 {cs : List PV} {a b : Ty} (hl : cs.length = 2 * 3) (h : ∀ i t, [a, b][i]? = some t → (cs.drop (i * 3)).take 3 = cTy t) : cs = cTy a ++ cTy b := by
  have h0 := h 0 a rfl
  have h1 := h 1 b rfl
  match cs, hl with
  | [x1, x2, x3, x4, x5, x6], _ =>
    simp at h0 h1
    simp [h0, h1]
theorem cells3 {cs : List PV} {a b d : Ty} (hl : cs.length = 3 * 3) (h : ∀ i t, [a, b, d][i]? = some t → (cs.drop (i * 3)).take 3 = cTy t) : cs = cTy a ++ (cTy b ++ cTy d) := by
  have h0 := h 0 a rfl
  have h1 := h 1 b rfl
  have h2 := h 2 d rfl
  match cs, hl with
  | [x1, x2, x3, x4, x5, x6, x7, x8, x9], _ =>
    simp at h0 h1 h2
    simp [h0, h1, h2]
theorem zeros3 (n : Nat) : ((List.replicate n [T.int .i64 0, T.int .i64 0, T.int .i64 0]).flatten.map PV.t).length = n * 3 := by
  rw [List.length_map, List.length_flatten]
  simp
/-- The first types of an array are there. -/
def Arr (sg : Sg) (a n : Nat) (ts : List Ty) : Prop := ∃ cs, sg[a]? = some (false, cs) ∧ cs.length = n * 3 ∧ ∀ i t, ts[i]? = some t → (cs.drop (i * 3)).take 3 = cTy t
theorem Arr.get {sg sg' : Sg} {a n : Nat} {ts : List Ty} (h : Arr sg a n ts) (hg : sg'[a]? = sg[a]?) : Arr sg' a n ts := by
  obtain ⟨cs, h1, h2⟩ := h
  exact ⟨cs, by rw [hg]; exact h1, h2⟩
theorem Arr.put {sg : Sg} {a n : Nat} {ts : List Ty} {cs : List PV} (h : cs.length = n * 3) (hcs : ∀ i t, ts[i]? = some t → (cs.drop (i * 3)).take 3 = cTy t) (hn : ts.length < n) (ha : a < sg.length) (t : Ty) :
    Arr (sg.set a (false, (((cs.set (ts.length * 3) (.t (.int .i64 t.kind))).set (ts.length * 3 + 1) (.t (.int .i64 t.bits))).set (ts.length * 3 + 1 + 1) (.t (.int .i64 t.len))))) a n (ts ++ [t]) := by
  have hs := set3 (cs := cs) (i := ts.length) (a := .t (.int .i64 t.kind)) (b := .t (.int .i64 t.bits)) (c := .t (.int .i64 t.len)) (by omega)
  refine ⟨_, List.getElem?_set_self ha, by rw [hs.1, h], fun i u hu => ?_⟩
  by_cases hi : i = ts.length
  · subst hi
    rw [hs.2.1]
    simp at hu
    subst hu
    rfl
  · rw [hs.2.2 i hi]
    have hlt := (List.getElem?_eq_some_iff.1 hu).1
    simp at hlt
    rw [List.getElem?_append_left (by omega)] at hu
    exact hcs i u hu
theorem exsM_cons (fs : Fs) (ns : Ns) (a : Exp) (r : List Exp) (w : Int) : exsM fs ns (a :: r) w = if (exM fs ns a w).1.2 ≠ 0 then (([], (exM fs ns a w).1.2), (exM fs ns a w).2) else
      if (exsM fs ns r (exM fs ns a w).2).1.2 ≠ 0 then (([], (exsM fs ns r (exM fs ns a w).2).1.2), (exsM fs ns r (exM fs ns a w).2).2) else (((exM fs ns a w).1.1 :: (exsM fs ns r (exM fs ns a w).2).1.1, 0), (exsM fs ns r (exM fs ns a w).2).2) := by
  rw [exsM]
theorem mks_ty (sg : Sg) (ow : Ow) (n : Nat) (h : n ≤ B20) : ∃ v r ow', mksV false sg ow 3 24 [.int .i64 0, .int .i64 0, .int .i64 0] (.t (.int .i64 n)) (.t (.int .i64 n)) = some (v, sg ++ r, ow') ∧ ((n = 0 ∧ ∃ k, v = .own k 3 []) ∨ (0 < n ∧ v = .ls sg.length 0 n 3 ∧ Arr (sg ++ r) sg.length n [])) := by
  have hb : B20 = 1100000 := rfl
  have hr : room n 24 = true := by unfold room; simp only [decide_eq_true_eq]; omega
  by_cases h0 : n = 0
  · subst h0
    exact ⟨_, [], _, by simp [mksV, hr]; exact ⟨rfl, rfl⟩, .inl ⟨rfl, _, rfl⟩⟩
  · refine ⟨_, [(false, (List.replicate n [T.int .i64 0, T.int .i64 0, T.int .i64 0]).flatten.map PV.t)], ow, ?_, .inr ⟨by omega, rfl, ?_⟩⟩
    · have h1 : ¬ (n : Int) = 0 := by omega
      simp [mksV, hr]
      exact h0
    · exact ⟨_, List.getElem?_concat_length, zeros3 n, fun i t ht => by simp at ht⟩
theorem szE_args {e : Exp} (h : szE e ≤ B20) : e.args.length ≤ B20 ∧ ∀ a, a ∈ e.args → szE a ≤ B20 := by
  rw [szE_eq] at h
  exact ⟨by have := szEs_len e.args; omega, fun a ha => by have := szEs_mem ha; omega⟩
end Go.Ky

/- KX 11: the order of the names. -/
namespace Go.Ky
open Go.Pi Go.Lx

def isB (od : PV) (i : Nat) : Prop := ∃ l, od = .bf i l 1
/-- What stays when names come and go. -/
structure Fq (c n : Nat) (od od' : PV) (sg sg' : Sg) : Prop where
  len : sg.length ≤ sg'.length
  keep : ∀ i, i < sg.length → i ≠ c → i ≠ n → ¬ isB od i → sg'[i]? = sg[i]?
  od : ∀ i, isB od' i → isB od i ∨ sg.length ≤ i
theorem Fq.of {c n : Nat} {od : PV} {sg sg' : Sg} (h : Fr c sg sg') : Fq c n od od sg sg' := ⟨h.1, fun i hi hc _ _ => h.2 i hi hc, fun _ h => .inl h⟩
theorem Fq.refl (c n : Nat) (od : PV) (sg : Sg) : Fq c n od od sg sg := .of (Fr.refl _ _)
theorem Fq.trans {c n : Nat} {o1 o2 o3 : PV} {x y z : Sg} (h : Fq c n o1 o2 x y) (h' : Fq c n o2 o3 y z) : Fq c n o1 o3 x z := by
  have hl := h.len
  refine ⟨Nat.le_trans h.len h'.len, fun i hi hc hn hb => ?_, fun i hi => ?_⟩
  · rw [h'.keep i (by omega) hc hn (fun hb2 => by rcases h.od i hb2 with h1 | h1; exact hb h1; omega), h.keep i hi hc hn hb]
  · rcases h'.od i hi with h1 | h1
    · exact h.od i h1
    · exact .inr (by omega)
theorem Fq.get {c n : Nat} {o1 o2 : PV} {x y : Sg} (h : Fq c n o1 o2 x y) {i : Nat} {v : Bool × List PV} (hi : x[i]? = some v) (hc : i ≠ c) (hn : i ≠ n) (hb : ¬ isB o1 i) : y[i]? = some v := by
  rw [h.keep i (lt_of_get hi) hc hn hb]; exact hi
def Od (sg : Sg) (c : Nat) (od : PV) (ns : Ns) : Prop := (ns.map (·.1)).Nodup ∧ ((ns = [] ∧ od = .t (.sl true [])) ∨ ∃ oid cs, od = .bf oid ns.length 1 ∧ oid ≠ c ∧ sg[oid]? = some (false, cs) ∧ 0 < cs.length ∧ ns.length ≤ cs.length ∧ ∀ (i : Nat) (p : Nm × Sy), ns[i]? = some p → cs[i]? = some (PV.t (T.str p.1)))
theorem Od.len {sg : Sg} {c : Nat} {od : PV} {ns : Ns} (h : Od sg c od ns) : lenP false od = some ns.length := by
  rcases h.2 with ⟨rfl, rfl⟩ | ⟨oid, cs, rfl, _⟩ <;> rfl
theorem Od.fr {sg sg' : Sg} {c : Nat} {od : PV} {ns : Ns} (h : Od sg c od ns) (hr : Fr c sg sg') : Od sg' c od ns := by
  refine ⟨h.1, ?_⟩
  rcases h.2 with h | ⟨oid, cs, h1, h2, h3, h4⟩
  · exact .inl h
  · exact .inr ⟨oid, cs, h1, h2, hr.get h3 h2, h4⟩
/-- The checker, its names in order. -/
structure Cs (sg : Sg) (c f n : Nat) (fs : Fs) (ns : Ns) (od : PV) (w : Int) : Prop where
  ck : Ck sg c f n fs ns od w
  od : Od sg c od ns
  fn : f ≠ n
theorem Cs.fr {sg sg' : Sg} {c f n : Nat} {fs : Fs} {ns : Ns} {od : PV} {w w' : Int} (h : Cs sg c f n fs ns od w) (hr : Fr c sg sg') (hc : sg'[c]? = some (false, [.mp f, .mp n, od, .t (.int .i64 w')])) : Cs sg' c f n fs ns od w' := ⟨h.ck.fr hr hc, h.od.fr hr, h.fn⟩
theorem Cs.grow {sg sg' : Sg} {c f n : Nat} {fs : Fs} {ns : Ns} {od : PV} {w : Int} (h : Cs sg c f n fs ns od w) (hr : Grow sg sg') : Cs sg' c f n fs ns od w := h.fr (Fr.of hr) (hr.get h.ck.c)
theorem Cs.notB {sg : Sg} {c f n : Nat} {fs : Fs} {ns : Ns} {od : PV} {w : Int} (h : Cs sg c f n fs ns od w) {i : Nat} {es : List PV} (hi : sg[i]? = some (true, es)) : ¬ isB od i := by
  rintro ⟨l, rfl⟩
  rcases h.od.2 with ⟨_, h1⟩ | ⟨oid, cs, h1, _, h2, _⟩
  · cases h1
  · injection h1 with h1
    subst h1
    rw [h2] at hi
    injection hi with hi
    injection hi with hi
    cases hi
theorem Cs.notB2 {sg : Sg} {c f n : Nat} {fs : Fs} {ns : Ns} {od : PV} {w : Int} (h : Cs sg c f n fs ns od w) {i : Nat} (hi : sg.length ≤ i) : ¬ isB od i := by
  rintro ⟨l, rfl⟩
  rcases h.od.2 with ⟨_, h1⟩ | ⟨oid, cs, h1, _, h2, _⟩
  · cases h1
  · injection h1 with h1
    subst h1
    have := lt_of_get h2
    omega
theorem Cs.notc {sg : Sg} {c f n : Nat} {fs : Fs} {ns : Ns} {od : PV} {w : Int} (h : Cs sg c f n fs ns od w) : ¬ isB od c := by
  rintro ⟨l, rfl⟩
  rcases h.od.2 with ⟨_, h1⟩ | ⟨oid, cs, h1, h3, h2, _⟩
  · cases h1
  · injection h1 with h1
    exact h3 h1.symm
/-- A name more. -/
theorem Cs.dec {sg sg' : Sg} {c f n : Nat} {fs : Fs} {ns : Ns} {od : PV} {w : Int} {nm : Nm} {s : Sy} {o : Nat} {cs : List PV} (hk : Cs sg c f n fs ns od w) (hl : look nm ns = none) (hlen : sg.length ≤ sg'.length)
    (hc : sg'[c]? = some (false, [.mp f, .mp n, .bf o (ns.length + 1) 1, .t (.int .i64 w)])) (hn : sg'[n]? = some (true, ents (fun x => .agg (tSy x)) (ns ++ [(nm, s)]))) (ho : sg'[o]? = some (false, cs)) (hcs : cs = ns.map (fun p => PV.t (T.str p.1)) ++ [.t (.str nm)]) (hon : sg.length ≤ o)
    (hkeep : ∀ i, i < sg.length → i ≠ c → i ≠ n → ¬ isB od i → sg'[i]? = sg[i]?) : Cs sg' c f n fs (ns ++ [(nm, s)]) (.bf o (ns.length + 1) 1) w ∧ Fq c n od (.bf o (ns.length + 1) 1) sg sg' := by
  refine ⟨⟨⟨hc, ?_, hn⟩, ⟨?_, .inr ⟨o, cs, by simp, ?_, ho, ?_, ?_, ?_⟩⟩, hk.fn⟩, hlen, hkeep, ?_⟩
  · rw [hkeep f (lt_of_get hk.ck.f) hk.ck.fc hk.fn (hk.notB hk.ck.f)]; exact hk.ck.f
  · rw [List.map_append, List.nodup_append]
    refine ⟨hk.od.1, by simp, ?_⟩
    intro a ha b hb
    simp at hb
    subst hb
    intro e
    exact look_none.1 hl (e ▸ ha)
  · have := lt_of_get hk.ck.c; omega
  · rw [hcs]; simp
  · rw [hcs]; simp
  · intro i p hp
    rw [hcs]
    rcases Nat.lt_or_ge i ns.length with h | h
    · rw [List.getElem?_append_left h] at hp
      rw [List.getElem?_append_left (by simpa using h), List.getElem?_map, hp]; rfl
    · have hlt := (List.getElem?_eq_some_iff.1 hp).1
      simp at hlt
      have : i = ns.length := by omega
      subst this
      simp at hp
      subst hp
      simp
  · rintro i ⟨l, h⟩
    injection h with h
    exact .inr (by omega)
def Post (c f n : Nat) (fs : Fs) (od : PV) (sg : Sg) (r : Rs) (v : PV) (sg' : Sg) : Prop := v = .t (.int .i64 r.1) ∧ (r.1 = 0 → ∃ od', Cs sg' c f n fs r.2.1 od' r.2.2 ∧ Fq c n od od' sg sg')
theorem cs_take {ns : Ns} {cs : List PV} (_ : ns.length ≤ cs.length) (h : ∀ (i : Nat) (p : Nm × Sy), ns[i]? = some p → cs[i]? = some (PV.t (T.str p.1))) : cs.take ns.length = ns.map fun p => PV.t (T.str p.1) := by
  apply List.ext_getElem?
  intro i
  rw [List.getElem?_take, List.getElem?_map]
  by_cases hi : i < ns.length
  · rw [if_pos hi, h i ns[i] (List.getElem?_eq_getElem hi), List.getElem?_eq_getElem hi]; rfl
  · rw [if_neg hi, List.getElem?_eq_none (by omega)]; rfl
theorem nd_look {ns : Ns} (h : (ns.map (·.1)).Nodup) {m j : Nat} {x : Nm × Sy} (hx : ns[j]? = some x) (hm : m ≤ j) : look x.1 (ns.take m) = none := by
  rw [look_none]
  intro hc
  rw [← List.take_append_drop m ns, List.map_append, List.nodup_append] at h
  refine h.2.2 x.1 hc x.1 ?_ rfl
  have : (ns.drop m)[j - m]? = some x := by rw [List.getElem?_drop, show m + (j - m) = j by omega]; exact hx
  exact List.mem_map.2 ⟨x, List.mem_of_getElem? this, rfl⟩
/-- Fewer names. -/
theorem Cs.cut {sg sg' : Sg} {c f n oid : Nat} {fs : Fs} {ns : Ns} {w : Int} {cs : List PV} (hk : Cs sg c f n fs ns (.bf oid ns.length 1) w) {m : Nat} (hm : m ≤ ns.length) (o1 : oid ≠ c) (o2 : sg[oid]? = some (false, cs)) (o3 : 0 < cs.length) (o4 : ns.length ≤ cs.length) (o5 : ∀ (i : Nat) (p : Nm × Sy), ns[i]? = some p → cs[i]? = some (PV.t (T.str p.1))) (hlen : sg.length = sg'.length)
    (hg : ∀ j, j ≠ n → j ≠ c → sg'[j]? = sg[j]?) (hn : sg'[n]? = some (true, ents (fun x => .agg (tSy x)) (ns.take m))) (hc : sg'[c]? = some (false, [.mp f, .mp n, .bf oid m 1, .t (.int .i64 w)])) : Cs sg' c f n fs (ns.take m) (.bf oid m 1) w ∧ Fq c n (.bf oid ns.length 1) (.bf oid m 1) sg sg' := by
  have hno : oid ≠ n := fun e => by rw [e, hk.ck.n] at o2; simp at o2
  refine ⟨⟨⟨hc, ?_, hn⟩, ⟨?_, .inr ⟨oid, cs, ?_, o1, ?_, o3, ?_, ?_⟩⟩, hk.fn⟩, by omega, fun i _ hic hin _ => hg i hin hic, ?_⟩
  · rw [hg f hk.fn hk.ck.fc]; exact hk.ck.f
  · rw [List.map_take]; exact hk.od.1.sublist (List.take_sublist _ _)
  · rw [List.length_take, Nat.min_eq_left hm]
  · rw [hg oid hno o1]; exact o2
  · rw [List.length_take]; omega
  · intro i p hp
    rw [List.getElem?_take] at hp
    split at hp
    · exact o5 i p hp
    · cases hp
  · rintro i ⟨l, h⟩
    injection h with h
    subst h
    exact .inl ⟨_, rfl⟩
theorem Cs.cut0 {sg sg' : Sg} {c f n : Nat} {fs : Fs} {w : Int} (hk : Cs sg c f n fs [] (.t (.sl true [])) w) (hlen : sg.length = sg'.length)
    (hg : ∀ j, j ≠ n → sg'[j]? = sg[j]?) (hn : sg'[n]? = some (true, [])) : Cs sg' c f n fs [] (.t (.sl true [])) w ∧ Fq c n (.t (.sl true [])) (.t (.sl true [])) sg sg' := by
  refine ⟨⟨⟨?_, ?_, hn⟩, ⟨by simp, .inl ⟨rfl, rfl⟩⟩, hk.fn⟩, by omega, fun i _ hic hin _ => hg i hin, ?_⟩
  · rw [hg c hk.ck.nc.symm]; exact hk.ck.c
  · rw [hg f hk.fn]; exact hk.ck.f
  · rintro i ⟨l, h⟩
    cases h
/-! ### Statements add names -/
theorem decM_ext {nm : Nm} {s : Sy} {ns : Ns} {w : Int} (h : (decM nm s ns w).1 = 0) : decM nm s ns w = (0, ns ++ [(nm, s)], w) := by
  unfold decM at h ⊢
  cases hl : look nm ns with
  | none => rfl
  | some x => rw [hl] at h; cases h
theorem stM_ext (fs : Fs) : ∀ (s : St) (ns : Ns) (w : Int), (stM fs s ns w).1 = 0 → ∃ r, (stM fs s ns w).2.1 = ns ++ r ∧ r.length ≤ 1 := by
  intro s ns w
  rw [stM_eq]
  split
  · split
    · intro h; cases h
    · split
      rename_i d ns1 w1 hd
      split
      · intro h; contradiction
      · split
        rename_i d2 ns2 w2 hd2
        split
        · intro h; contradiction
        · intro _; exact ⟨[], by simp, by simp⟩
  · intro h
    revert h
    simp only
    have hdec : ∀ (s2 : Sy) (w2 : Int), (decM s.name s2 ns w2).1 = 0 → ∃ r, (decM s.name s2 ns w2).2.1 = ns ++ r ∧ r.length ≤ 1 := fun s2 w2 h => by
      rw [decM_ext h]; exact ⟨_, rfl, by simp⟩
    split
    · intro h; contradiction
    · split
      · intro _; exact ⟨[], by simp, by simp⟩
      · split
        · split
          · intro h; cases h
          · exact hdec _ _
        · exact hdec _ _
theorem stsM_cons (fs : Fs) (s : St) (r : List St) (ns : Ns) (w : Int) : stsM fs (s :: r) ns w = if (stM fs s ns w).1 ≠ 0 then stM fs s ns w else stsM fs r (stM fs s ns w).2.1 (stM fs s ns w).2.2 := by
  rw [stsM]
theorem stsM_ext (fs : Fs) : ∀ (l : List St) (ns : Ns) (w : Int), (stsM fs l ns w).1 = 0 → ∃ r, (stsM fs l ns w).2.1 = ns ++ r ∧ r.length ≤ l.length := by
  intro l
  induction l with
  | nil => intro ns w _; exact ⟨[], by rw [stsM]; simp, by simp⟩
  | cons s l ih =>
    intro ns w
    rw [stsM_cons]
    split
    · intro h; contradiction
    · rename_i h0
      intro h
      obtain ⟨r1, h1, h2⟩ := stM_ext fs s ns w (by simpa using h0)
      obtain ⟨r2, h3, h4⟩ := ih _ _ h
      exact ⟨r1 ++ r2, by rw [h3, h1, List.append_assoc], by simp; omega⟩
theorem bodyM_eq (fs : Fs) (l : List St) (ns : Ns) (w : Int) : bodyM fs l ns w = if (stsM fs l ns w).1 ≠ 0 then stsM fs l ns w else (0, ns, (stsM fs l ns w).2.2) := by
  unfold bodyM
  rfl
theorem stM_loop {fs : Fs} {s : St} {ns : Ns} {w : Int} (h3 : s.kind = 3) : stM fs s ns w = if s.lo > s.hi then (8, ns, w) else if (decM s.name ⟨fieldT, true, s.lo, s.hi⟩ ns w).1 ≠ 0 then decM s.name ⟨fieldT, true, s.lo, s.hi⟩ ns w
    else if (stsM fs s.body (decM s.name ⟨fieldT, true, s.lo, s.hi⟩ ns w).2.1 (decM s.name ⟨fieldT, true, s.lo, s.hi⟩ ns w).2.2).1 ≠ 0 then stsM fs s.body (decM s.name ⟨fieldT, true, s.lo, s.hi⟩ ns w).2.1 (decM s.name ⟨fieldT, true, s.lo, s.hi⟩ ns w).2.2 else (0, ns, (stsM fs s.body (decM s.name ⟨fieldT, true, s.lo, s.hi⟩ ns w).2.1 (decM s.name ⟨fieldT, true, s.lo, s.hi⟩ ns w).2.2).2.2) := by
  rw [stM_eq, if_pos h3]
theorem stM_let {fs : Fs} {s : St} {ns : Ns} {w : Int} (h3 : s.kind ≠ 3) : stM fs s ns w = if (exM fs ns s.ex w).1.2 ≠ 0 then ((exM fs ns s.ex w).1.2, ns, (exM fs ns s.ex w).2)
      else if s.kind = 2 then (if (exM fs ns s.ex w).1.1 ≠ boolT then 6 else 0, ns, (exM fs ns s.ex w).2)
      else if s.typed then (if (s.ty.len = 0 ∧ (exM fs ns s.ex w).1.1.len ≠ 0) ∨ (s.ty.len ≠ 0 ∧ fitsB (exM fs ns s.ex w).1.1 s.ty = false) then (6, ns, (exM fs ns s.ex w).2) else decM s.name ⟨s.ty, false, 0, 0⟩ ns (noteM s.ty (exM fs ns s.ex w).2))
      else decM s.name ⟨(exM fs ns s.ex w).1.1, false, 0, 0⟩ ns (exM fs ns s.ex w).2 := by
  rw [stM_eq, if_neg h3]
theorem szS_body {s : St} (h : szS s ≤ B20) : s.body.length ≤ B20 ∧ ∀ b, b ∈ s.body → szS b ≤ B20 := by
  rw [szS_eq] at h
  exact ⟨by have := szSs_len s.body; omega, fun a ha => by have := szSs_mem ha; omega⟩
theorem stB_ex {s : St} (h : stB s = true) (h3 : s.kind ≠ 3) : exB s.ex = true := by
  rw [stB_eq, if_neg h3] at h
  split at h
  · simp only [Bool.and_eq_true] at h; exact h.1.1.1.2
  · split at h
    · simp only [Bool.and_eq_true] at h; exact h.1.1.1.2
    · cases h
theorem stB_body {s : St} (h : stB s = true) (h3 : s.kind = 3) : ∀ b, b ∈ s.body → stB b = true := by
  rw [stB_eq] at h
  simp only [h3] at h
  simp at h
  intro b hb
  exact h.2 b hb
theorem stOk_ex {s : St} (h : StOk s) : ExpOk s.ex := by cases h with | mk _ h1 h2 h3 h4 h5 h6 h7 h8 h => exact h4
theorem stOk_body {s : St} (h : StOk s) : ∀ b, b ∈ s.body → StOk b := by cases h with | mk _ h1 h2 h3 h4 h5 h6 h7 h8 h => exact h
end Go.Ky

/- KX 12: functions, declarations, programs. -/
namespace Go.Ky
open Go.Pi Go.Lx

/-- What stays when functions come. -/
structure Fg (c f n : Nat) (od od' : PV) (sg sg' : Sg) : Prop where
  len : sg.length ≤ sg'.length
  keep : ∀ i, i < sg.length → i ≠ c → i ≠ f → i ≠ n → ¬ isB od i → sg'[i]? = sg[i]?
  od : ∀ i, isB od' i → isB od i ∨ sg.length ≤ i
theorem Fg.of {c f n : Nat} {od od' : PV} {sg sg' : Sg} (h : Fq c n od od' sg sg') : Fg c f n od od' sg sg' := ⟨h.len, fun i hi hc _ hn hb => h.keep i hi hc hn hb, h.od⟩
theorem Fg.refl (c f n : Nat) (od : PV) (sg : Sg) : Fg c f n od od sg sg := .of (.refl _ _ _ _)
theorem Fg.trans {c f n : Nat} {o1 o2 o3 : PV} {x y z : Sg} (h : Fg c f n o1 o2 x y) (h' : Fg c f n o2 o3 y z) : Fg c f n o1 o3 x z := by
  have hl := h.len
  refine ⟨Nat.le_trans h.len h'.len, fun i hi hc hf hn hb => ?_, fun i hi => ?_⟩
  · rw [h'.keep i (by omega) hc hf hn (fun hb2 => by rcases h.od i hb2 with h1 | h1; exact hb h1; omega), h.keep i hi hc hf hn hb]
  · rcases h'.od i hi with h1 | h1
    · exact h.od i h1
    · exact .inr (by omega)
theorem Fg.get {c f n : Nat} {o1 o2 : PV} {x y : Sg} (h : Fg c f n o1 o2 x y) {i : Nat} {v : Bool × List PV} (hi : x[i]? = some v) (hc : i ≠ c) (hf : i ≠ f) (hn : i ≠ n) (hb : ¬ isB o1 i) : y[i]? = some v := by
  rw [h.keep i (lt_of_get hi) hc hf hn hb]; exact hi
theorem Cs.fun {sg : Sg} {c f n : Nat} {fs fs' : Fs} {ns : Ns} {od : PV} {w : Int} (hk : Cs sg c f n fs ns od w) (x : List PV) (hx : x = ents (fun x => .agg (tFu x)) fs') : Cs (sg.set f (true, x)) c f n fs' ns od w ∧ Fg c f n od od sg (sg.set f (true, x)) := by
  have hfl := lt_of_get hk.ck.f
  refine ⟨⟨⟨?_, ?_, ?_⟩, ⟨hk.od.1, ?_⟩, hk.fn⟩, by simp, fun i hi hc hf hn _ => List.getElem?_set_ne (fun e => hf e.symm), fun _ h => .inl h⟩
  · rw [List.getElem?_set_ne hk.ck.fc]; exact hk.ck.c
  · rw [List.getElem?_set_self hfl, hx]
  · rw [List.getElem?_set_ne hk.fn]; exact hk.ck.n
  · rcases hk.od.2 with h | ⟨oid, cs, h1, h2, h3, h4⟩
    · exact .inl h
    · refine .inr ⟨oid, cs, h1, h2, ?_, h4⟩
      have : f ≠ oid := fun e => by rw [← e, hk.ck.f] at h3; simp at h3
      rw [List.getElem?_set_ne this]; exact h3
theorem parsM_cons (p : Pa) (r : List Pa) (ns : Ns) (w : Int) : parsM (p :: r) ns w = if (decM p.name ⟨p.ty, false, 0, 0⟩ ns w).1 ≠ 0 then decM p.name ⟨p.ty, false, 0, 0⟩ ns w else parsM r (decM p.name ⟨p.ty, false, 0, 0⟩ ns w).2.1 (decM p.name ⟨p.ty, false, 0, 0⟩ ns w).2.2 := by
  rw [parsM]
theorem parsM_ext : ∀ (l : List Pa) (ns : Ns) (w : Int), (parsM l ns w).1 = 0 → (parsM l ns w).2.1.length = ns.length + l.length := by
  intro l
  induction l with
  | nil => intro ns w _; rw [parsM]; rfl
  | cons p r ih =>
    intro ns w
    rw [parsM_cons]
    split
    · intro h; contradiction
    · rename_i h0
      intro h
      rw [ih _ _ h, decM_ext (by simpa using h0)]
      simp; omega
theorem desM_cons (d : De) (r : List De) (ns : Ns) (w : Int) : desM (d :: r) ns w = if (decM d.name ⟨d.ty, false, 0, 0⟩ ns w).1 ≠ 0 then decM d.name ⟨d.ty, false, 0, 0⟩ ns w else desM r (decM d.name ⟨d.ty, false, 0, 0⟩ ns w).2.1 (noteM d.ty (decM d.name ⟨d.ty, false, 0, 0⟩ ns w).2.2) := by
  rw [desM]
theorem desM_ext : ∀ (l : List De) (ns : Ns) (w : Int), (desM l ns w).1 = 0 → (desM l ns w).2.1.length = ns.length + l.length := by
  intro l
  induction l with
  | nil => intro ns w _; rw [desM]; rfl
  | cons p r ih =>
    intro ns w
    rw [desM_cons]
    split
    · intro h; contradiction
    · rename_i h0
      intro h
      rw [ih _ _ h, decM_ext (by simpa using h0)]
      simp; omega
/-- The functions' part, with no matches. -/
theorem funM_eq (fs : Fs) (f : Fu) (w : Int) (hl : look f.name fs = none) : funM fs f w = if (parsM f.params [] w).1 ≠ 0 then ((parsM f.params [] w).1, fs, (parsM f.params [] w).2.2)
    else if (stsM fs f.body (parsM f.params [] w).2.1 (parsM f.params [] w).2.2).1 ≠ 0 then ((stsM fs f.body (parsM f.params [] w).2.1 (parsM f.params [] w).2.2).1, fs, (stsM fs f.body (parsM f.params [] w).2.1 (parsM f.params [] w).2.2).2.2)
    else if (exM fs (stsM fs f.body (parsM f.params [] w).2.1 (parsM f.params [] w).2.2).2.1 f.ret (stsM fs f.body (parsM f.params [] w).2.1 (parsM f.params [] w).2.2).2.2).1.2 ≠ 0 then ((exM fs (stsM fs f.body (parsM f.params [] w).2.1 (parsM f.params [] w).2.2).2.1 f.ret (stsM fs f.body (parsM f.params [] w).2.1 (parsM f.params [] w).2.2).2.2).1.2, fs, (exM fs (stsM fs f.body (parsM f.params [] w).2.1 (parsM f.params [] w).2.2).2.1 f.ret (stsM fs f.body (parsM f.params [] w).2.1 (parsM f.params [] w).2.2).2.2).2)
    else if fitsB (exM fs (stsM fs f.body (parsM f.params [] w).2.1 (parsM f.params [] w).2.2).2.1 f.ret (stsM fs f.body (parsM f.params [] w).2.1 (parsM f.params [] w).2.2).2.2).1.1 f.res = false then (6, fs, (exM fs (stsM fs f.body (parsM f.params [] w).2.1 (parsM f.params [] w).2.2).2.1 f.ret (stsM fs f.body (parsM f.params [] w).2.1 (parsM f.params [] w).2.2).2.2).2) else (0, fs ++ [(f.name, f)], (exM fs (stsM fs f.body (parsM f.params [] w).2.1 (parsM f.params [] w).2.2).2.1 f.ret (stsM fs f.body (parsM f.params [] w).2.1 (parsM f.params [] w).2.2).2.2).2) := by
  unfold funM
  rw [hl]
theorem funM_dup (fs : Fs) (f : Fu) (w : Int) {x : Fu} (hl : look f.name fs = some x) : funM fs f w = (5, fs, w) := by
  unfold funM
  rw [hl]
theorem funsM_cons (f : Fu) (r : List Fu) (fs : Fs) (w : Int) : funsM (f :: r) fs w = if (funM fs f w).1 ≠ 0 then funM fs f w else funsM r (funM fs f w).2.1 (funM fs f w).2.2 := by
  rw [funsM]
theorem progM_eq (p : Pg) : progM p = if (funsM p.funcs [] 0).1 ≠ 0 then ((funsM p.funcs [] 0).1, (funsM p.funcs [] 0).2.2)
    else if (desM p.decls [] (funsM p.funcs [] 0).2.2).1 ≠ 0 then ((desM p.decls [] (funsM p.funcs [] 0).2.2).1, (desM p.decls [] (funsM p.funcs [] 0).2.2).2.2)
    else ((bodyM (funsM p.funcs [] 0).2.1 p.body (desM p.decls [] (funsM p.funcs [] 0).2.2).2.1 (desM p.decls [] (funsM p.funcs [] 0).2.2).2.2).1, (bodyM (funsM p.funcs [] 0).2.1 p.body (desM p.decls [] (funsM p.funcs [] 0).2.2).2.1 (desM p.decls [] (funsM p.funcs [] 0).2.2).2.2).2.2) := by
  unfold progM
  rfl
end Go.Ky

/- KX 13: steps, in plain words. -/
namespace Go.Ky
open Go.Pi Go.Lx

mutual
def lkS : St → Bool
  | .mk k _ _ _ _ lo hi _ l => if k = 3 then decide (0 ≤ lo) && decide (lo ≤ hi) && decide (hi ≤ 1000000) && lkSs l else true
def lkSs : List St → Bool
  | [] => true
  | s :: r => lkS s && lkSs r
end
theorem lkSs_all (l : List St) : lkSs l = l.all lkS := by
  induction l with
  | nil => rfl
  | cons e r ih => rw [lkSs, ih]; rfl
theorem lkS_eq (s : St) : lkS s = if s.kind = 3 then decide (0 ≤ s.lo) && decide (s.lo ≤ s.hi) && decide (s.hi ≤ 1000000) && s.body.all lkS else true := by
  cases s
  rw [lkS, lkSs_all]; rfl
def KsB (ks : Ks) : Prop := ∀ k, 0 ≤ lookI k ks ∧ lookI k ks ≤ 20001
theorem KsB.nil : KsB [] := fun k => by unfold lookI look; simp
theorem look_put (k j : Nm) (n : Int) (ks : Ks) : look j (putK k n ks) = if j = k then some n else look j ks := by
  induction ks with
  | nil => simp only [putK, look]
  | cons p r ih =>
    obtain ⟨i, x⟩ := p
    simp only [putK]
    split
    · rename_i h
      subst h
      simp only [look]
      split <;> simp_all
    · rename_i h
      simp only [look, ih]
      by_cases h1 : j = i
      · subst h1
        rw [if_pos rfl, if_pos rfl, if_neg (fun e => h e.symm)]
      · rw [if_neg h1, if_neg h1]
theorem KsB.put {ks : Ks} (h : KsB ks) (k : Nm) {n : Int} (h0 : 0 ≤ n) (h1 : n ≤ 20001) : KsB (putK k n ks) := fun j => by
  unfold lookI
  rw [look_put]
  split
  · exact ⟨h0, h1⟩
  · exact h j
theorem mn_le (x y : Int) : mn x y ≤ x ∧ mn x y ≤ y := by unfold mn; split <;> omega
theorem mn_ge {x y z : Int} (h1 : z ≤ x) (h2 : z ≤ y) : z ≤ mn x y := by unfold mn; split <;> omega
theorem csEs_range {ks : Ks} : ∀ (l : List Exp), (∀ e, e ∈ l → 0 ≤ csE ks e ∧ csE ks e ≤ 20001) → ∀ n : Int, 0 ≤ n → n ≤ 20002 → 0 ≤ csEs ks l n ∧ csEs ks l n ≤ 20002 := by
  intro l
  induction l with
  | nil => intro _ n h0 h1; rw [csEs]; exact ⟨h0, h1⟩
  | cons e r ih =>
    intro h n h0 h1
    have he := h e (by simp)
    rw [csEs]
    exact ih (fun x hx => h x (by simp [hx])) _ (mn_ge (by omega) (by omega)) (by have := mn_le 20001 (n + csE ks e); omega)
theorem csE_range {ks : Ks} (hk : KsB ks) : ∀ e, 0 ≤ csE ks e ∧ csE ks e ≤ 20001 := by
  refine Exp.ind fun e ih => ?_
  rw [csE_eq]
  have hl := hk e.name
  have := csEs_range e.args ih (if e.op = 5 then 1 + lookI e.name ks else 0) (by split <;> omega) (by split <;> omega)
  exact ⟨mn_ge (by omega) this.1, (mn_le _ _).1⟩
theorem bsSs_range {ks : Ks} : ∀ (l : List St), (∀ s, s ∈ l → 0 ≤ bsS ks s) → ∀ n : Int, 0 ≤ n → n ≤ 20001 → 0 ≤ bsSs ks l n ∧ bsSs ks l n ≤ 20001 := by
  intro l
  induction l with
  | nil => intro _ n h0 h1; rw [bsSs]; exact ⟨h0, h1⟩
  | cons e r ih =>
    intro h n h0 h1
    have he := h e (by simp)
    rw [bsSs]
    exact ih (fun x hx => h x (by simp [hx])) _ (mn_ge (by omega) (by omega)) (mn_le _ _).2
theorem mul_range {a b : Int} (ha : 0 ≤ a) (ha2 : a ≤ 1000000) (hb : 0 ≤ b) (hb2 : b ≤ 20001) : 0 ≤ a * b ∧ a * b ≤ 20001000000 := by
  refine ⟨Int.mul_nonneg ha hb, ?_⟩
  have := Int.mul_le_mul ha2 hb2 hb (by omega)
  omega
theorem bsS_range {ks : Ks} (hk : KsB ks) : ∀ s, lkS s = true → 0 ≤ bsS ks s ∧ bsS ks s ≤ 20001000000 := by
  refine St.ind fun s ih h => ?_
  rw [bsS_eq]
  rw [lkS_eq] at h
  split
  · rename_i h3
    rw [if_pos h3] at h
    simp only [Bool.and_eq_true, decide_eq_true_eq, List.all_eq_true] at h
    obtain ⟨⟨⟨a, b⟩, c⟩, d⟩ := h
    have := bsSs_range s.body (fun x hx => (ih x hx (d x hx)).1) 0 (by omega) (by omega)
    exact mul_range (by omega) (by omega) this.1 this.2
  · have := csE_range hk s.ex
    omega
theorem wrap_id {x : Int} (h0 : 0 ≤ x) (h1 : x ≤ 281474976710656) : IntKind.wrap .i64 x = x := IntWalk.i64_in _ (by omega)
/-- The checker lets only loops through that go up. -/
theorem stsM_lk (fs : Fs) : ∀ (l : List St), (∀ s, s ∈ l → ∀ ns w, (stM fs s ns w).1 = 0 → lkS s = true) → ∀ ns w, (stsM fs l ns w).1 = 0 → l.all lkS = true := by
  intro l
  induction l with
  | nil => intro _ _ _ _; rfl
  | cons s r ih =>
    intro h ns w
    rw [stsM_cons]
    split
    · intro h; contradiction
    · rename_i h0
      intro h1
      rw [List.all_cons, h s (by simp) ns w (by simpa using h0), ih (fun x hx => h x (by simp [hx])) _ _ h1]; rfl
theorem stM_lk (fs : Fs) : ∀ s, stB s = true → ∀ ns w, (stM fs s ns w).1 = 0 → lkS s = true := by
  refine St.ind fun s ih hB ns w => ?_
  rw [lkS_eq]
  by_cases h3 : s.kind = 3
  · rw [if_pos h3, stM_loop h3]
    rw [stB_eq] at hB
    simp [h3] at hB
    obtain ⟨⟨⟨_, hlo⟩, hhi⟩, hb⟩ := hB
    unfold loopN at hlo hhi
    simp at hlo hhi
    split
    · intro h; cases h
    · rename_i hlh
      split
      · intro h; contradiction
      · split
        · intro h; contradiction
        · rename_i hs
          intro _
          have := stsM_lk fs s.body (fun x hx ns w => ih x hx (hb x hx) ns w) _ _ (by simpa using hs)
          rw [this]
          simp
          omega
  · rw [if_neg h3]; intro _; rfl
theorem funM_lk {fs : Fs} {f : Fu} {w : Int} (hB : fuB f = true) (h : (funM fs f w).1 = 0) : f.body.all lkS = true := by
  unfold fuB at hB
  simp only [Bool.and_eq_true, List.all_eq_true] at hB
  cases hl : look f.name fs with
  | some x => rw [funM_dup _ _ _ hl] at h; cases h
  | none =>
    rw [funM_eq _ _ _ hl] at h
    split at h
    · contradiction
    · split at h
      · contradiction
      · rename_i h2
        exact stsM_lk fs f.body (fun s hs ns w => stM_lk fs s (hB.1.2 s hs) ns w) _ _ (by simpa using h2)
theorem funsM_lk : ∀ (l : List Fu) (fs : Fs) (w : Int), l.all fuB = true → (funsM l fs w).1 = 0 → ∀ f, f ∈ l → f.body.all lkS = true := by
  intro l
  induction l with
  | nil => intro _ _ _ _ f hf; cases hf
  | cons x r ih =>
    intro fs w hB
    rw [List.all_cons, Bool.and_eq_true] at hB
    rw [funsM_cons]
    split
    · intro h; contradiction
    · rename_i h0
      intro h f hf
      rcases List.mem_cons.1 hf with e | e
      · subst e; exact funM_lk hB.1 (by simpa using h0)
      · exact ih _ _ hB.2 h f e
theorem progM_lk {p : Pg} (hf : p.funcs.all fuB = true) (hb : p.body.all stB = true) (h : (progM p).1 = 0) : (∀ f, f ∈ p.funcs → f.body.all lkS = true) ∧ p.body.all lkS = true := by
  rw [progM_eq] at h
  split at h
  · contradiction
  · rename_i h0
    split at h
    · contradiction
    · refine ⟨funsM_lk p.funcs [] 0 hf (by simpa using h0), ?_⟩
      rw [bodyM_eq] at h
      simp only at h
      split at h
      · contradiction
      · rename_i h1
        exact stsM_lk _ p.body (fun s hs ns w => stM_lk _ s (List.all_eq_true.1 hb s hs) ns w) _ _ (by simpa using h1)
end Go.Ky

/- KX 14: what the laws ask, in plain words. -/
namespace Go.Ky
open Go.Pi Go.Lx

mutual
def szM : Exp → Int → Int
  | .mk _ _ _ _ l, lim => szMs l lim 1
def szMs : List Exp → Int → Int → Int
  | [], _, n => n
  | e :: r, lim, n => if n ≤ lim then szMs r lim (IntKind.i64.wrap (n + szM e (IntKind.i64.wrap (lim - n)))) else n
end
theorem szM_eq (e : Exp) (lim : Int) : szM e lim = szMs e.args lim 1 := by cases e; rw [szM]; rfl
mutual
def am1 : St → Int → Int
  | .mk _ _ _ _ e _ _ _ l, lim => IntKind.i64.wrap (IntKind.i64.wrap (1 + szM e lim) + amMs l lim 0)
def amMs : List St → Int → Int → Int
  | [], _, n => n
  | s :: r, lim, n => if n ≤ lim then amMs r lim (IntKind.i64.wrap (n + am1 s lim)) else n
end
theorem am1_eq (s : St) (lim : Int) : am1 s lim = IntKind.i64.wrap (IntKind.i64.wrap (1 + szM s.ex lim) + amMs s.body lim 0) := by cases s; rw [am1]; rfl
def smGo : List Fu → Nat → Int → Int
  | [], _, n => n
  | f :: r, i, n => if i < 20 ∧ n ≤ 400 then smGo r (i + 1) (IntKind.i64.wrap (n + IntKind.i64.wrap (IntKind.i64.wrap (amMs f.body 400 0 + szM f.ret 400) + f.params.length))) else n
def smallB (p : Pg) : Bool := decide (smGo p.funcs 0 (amMs p.body 400 0) ≤ 400) && (decide ((p.funcs.length : Int) ≤ 10) && decide ((p.decls.length : Int) ≤ 20))
def inGo : List De → Int → Int → Int × Int
  | [], a, b => (a, b)
  | d :: r, a, b => if d.pub then inGo r (IntKind.i64.wrap (a + mx d.ty.len 1)) b else inGo r a (IntKind.i64.wrap (b + mx d.ty.len 1))
def inpP (p : Pg) : Int × Int := if (examP p).2.2 ≠ 0 then (0, 0) else inGo p.decls 0 0
def fieldB (n : Int) : Bool := decide (n = 18446744069414584321) || decide (n = 17) || decide (n = 97) || decide (n = 193) || decide (n = 257) || decide (n = 12289) || decide (n = 65537)
end Go.Ky

/- KX 15: a few programs, by hand. -/
namespace Go.Ky
open Go.Pi Go.Lx

def i64B (n : Int) : Bool := decide (-9223372036854775808 ≤ n) && decide (n ≤ 9223372036854775807)
def u64B (n : Int) : Bool := decide (0 ≤ n) && decide (n ≤ 18446744073709551615)
mutual
def okE : Exp → Bool
  | .mk o v n b l => i64B o && u64B v && decide (n.length ≤ 1000) && decide (l.length ≤ 1000) && (!b || l.isEmpty) && okEs l
def okEs : List Exp → Bool
  | [] => true
  | e :: r => okE e && okEs r
end
mutual
def okS : St → Bool
  | .mk k n _ t e lo hi b l => i64B k && decide (n.length ≤ 1000) && i64B t.kind && i64B t.bits && i64B t.len && okE e && i64B lo && i64B hi && decide (l.length ≤ 1000) && (!b || l.isEmpty) && okSs l
def okSs : List St → Bool
  | [] => true
  | s :: r => okS s && okSs r
end
theorem i64B_ok {n : Int} (h : i64B n = true) : I64 n := by unfold i64B at h; simp at h; exact h
theorem u64B_ok {n : Int} (h : u64B n = true) : U64 n := by unfold u64B at h; simp at h; exact h
theorem okEs_all (l : List Exp) : okEs l = l.all okE := by
  induction l with
  | nil => rfl
  | cons e r ih => rw [okEs, ih]; rfl
theorem okSs_all (l : List St) : okSs l = l.all okS := by
  induction l with
  | nil => rfl
  | cons e r ih => rw [okSs, ih]; rfl
theorem okE_ok : ∀ e, okE e = true → ExpOk e := by
  refine Exp.ind fun e ih h => ?_
  cases e with | mk o v n b l =>
  rw [okE, okEs_all] at h
  simp only [Bool.and_eq_true, decide_eq_true_eq] at h
  obtain ⟨⟨⟨⟨⟨h1, h2⟩, h3⟩, h4⟩, h5⟩, h6⟩ := h
  have hb : B47 = 140737488355328 := rfl
  refine .mk _ (i64B_ok h1) (u64B_ok h2) (by show n.length ≤ _; omega) (by show l.length ≤ _; omega) ?_ fun a ha => ih a ha (List.all_eq_true.1 h6 a ha)
  intro hbt
  have : b = true := hbt
  subst this
  have h5 : l = [] := by simpa using h5
  exact h5
theorem okS_ok : ∀ s, okS s = true → StOk s := by
  refine St.ind fun s ih h => ?_
  cases s with | mk k n b t e lo hi nl l =>
  rw [okS, okSs_all] at h
  simp only [Bool.and_eq_true, decide_eq_true_eq] at h
  obtain ⟨⟨⟨⟨⟨⟨⟨⟨⟨⟨h1, h2⟩, h3⟩, h4⟩, h5⟩, h6⟩, h7⟩, h8⟩, h9⟩, h10⟩, h11⟩ := h
  have hb : B47 = 140737488355328 := rfl
  refine .mk _ (i64B_ok h1) (by show n.length ≤ _; omega) ⟨i64B_ok h3, i64B_ok h4, i64B_ok h5⟩ (okE_ok _ h6) (i64B_ok h7) (i64B_ok h8) (by show l.length ≤ _; omega) ?_ fun a ha => ih a ha (List.all_eq_true.1 h11 a ha)
  intro hbt
  have : nl = true := hbt
  subst this
  have h10 : l = [] := by simpa using h10
  exact h10
def exN (n : Nm) : Exp := .mk 2 0 n true []
def exV (n : Int) : Exp := .mk 1 n [] true []
def exO (n : Int) (l : List Exp) : Exp := .mk n 0 [] false l
def stA (e : Exp) : St := .mk 2 [] false zTy e 0 0 true []
def stL (n : Nm) (e : Exp) : St := .mk 1 n false zTy e 0 0 true []
def aw1 : Pg := ⟨true, [], false, [⟨true, [120], ⟨1, 0, 0⟩⟩, ⟨false, [121], ⟨3, 8, 0⟩⟩], false, [.mk 2 [] false zTy (.mk 16 0 [] false [.mk 2 0 [121] true [], .mk 1 300 [] true []]) 0 0 true []]⟩
def aw2 : Pg := ⟨true, [], true, [], false, [.mk 1 [97] false zTy (.mk 7 0 [] false [.mk 1 1 [] true [], .mk 1 2 [] true []]) 0 0 true [], .mk 2 [] false zTy (.mk 14 0 [] false [.mk 8 0 [] false [.mk 2 0 [97] true [], .mk 1 2 [] true []], .mk 1 0 [] true []]) 0 0 true []]⟩
def aw3 : Pg := ⟨true, [], true, [], false, [.mk 1 [97] false zTy (.mk 2 0 [98] true []) 0 0 true []]⟩
def aw4 : Pg := ⟨true, [], true, [], false, [.mk 3 [105] false zTy (.mk 0 0 [] true []) 0 5 false [.mk 1 [97] false zTy (.mk 2 0 [105] true []) 0 0 true [], .mk 2 [] false zTy (.mk 3 0 [] true []) 0 0 true []]]⟩
theorem aw1_ex : examP aw1 = (10, 1, 0) := by decide +kernel
theorem aw1_in : inpP aw1 = (1, 1) := by decide +kernel
theorem aw2_ex : (examP aw2).2.2 = 8 := by decide +kernel
theorem aw3_ex : (examP aw3).2.2 = 4 := by decide +kernel
theorem aw4_ex : (examP aw4).2.1 = 10 ∧ (examP aw4).2.2 = 0 := by decide +kernel
theorem pgOk_of {p : Pg} (hf : p.funcs = []) (h1 : p.decls.all (fun d => decide (d.name.length ≤ 1000) && i64B d.ty.kind && i64B d.ty.bits && i64B d.ty.len) = true) (h2 : p.body.all okS = true) (h3 : p.decls.length ≤ 1000) (h4 : p.body.length ≤ 1000) (h5 : p.dnl = true → p.decls = []) (h6 : p.bnl = true → p.body = []) : PgOk p := by
  have hb : B47 = 140737488355328 := rfl
  refine ⟨by rw [hf]; simp, fun _ => hf, fun f hf' => (by rw [hf] at hf'; cases hf'), by omega, h5, fun d hd => ?_, by omega, h6, fun s hs => okS_ok s (List.all_eq_true.1 h2 s hs)⟩
  have := List.all_eq_true.1 h1 d hd
  simp only [Bool.and_eq_true, decide_eq_true_eq] at this
  exact ⟨by omega, i64B_ok this.1.1.2, i64B_ok this.1.2, i64B_ok this.2⟩
end Go.Ky

/- KX 16: the plain laws: a prefix; a further statement; the order of errors. -/
namespace Go.Ky
open Go.Pi Go.Lx

/-! ### The width grows -/
theorem mx_ge (x y : Int) : x ≤ mx x y ∧ y ≤ mx x y := by unfold mx; split <;> omega
theorem compM_ge (x y : Ty) (w : Int) : w ≤ (compM x y w).2 := by
  unfold compM
  split
  · exact Int.le_refl _
  · exact (mx_ge _ _).1
theorem opM_ge (fs : Fs) (ns : Ns) (op v : Int) (nm : Nm) (l : List Ty) (w : Int) : w ≤ (opM fs ns op v nm l w).2 := by
  unfold opM
  repeat (first | exact Int.le_refl _ | exact compM_ge _ _ _ | split)
theorem idxM_snd (ns : Ns) (r : Rt × Int) (b : Exp) : (idxM ns r b).2 = r.2 := by
  unfold idxM
  simp only
  repeat (first | rfl | split)
theorem exsM_ge (fs : Fs) (ns : Ns) : ∀ (l : List Exp), (∀ e, e ∈ l → ∀ w, w ≤ (exM fs ns e w).2) → ∀ w, w ≤ (exsM fs ns l w).2 := by
  intro l
  induction l with
  | nil => intro _ w; rw [exsM]; exact Int.le_refl _
  | cons a r ih =>
    intro h w
    rw [exsM_cons]
    have h1 := h a (by simp) w
    have h2 := ih (fun x hx => h x (by simp [hx])) (exM fs ns a w).2
    split
    · exact h1
    · split
      · exact Int.le_trans h1 h2
      · exact Int.le_trans h1 h2
theorem exM_ge (fs : Fs) (ns : Ns) : ∀ e, ∀ w, w ≤ (exM fs ns e w).2 := by
  refine Exp.ind fun e ih w => ?_
  rw [exM_eq]
  split
  · split
    · rename_i a b r hab
      rw [idxM_snd]
      exact ih a (by rw [hab]; simp) w
    · exact Int.le_refl _
  · have h1 := exsM_ge fs ns e.args ih w
    simp only
    split
    · exact h1
    · exact Int.le_trans h1 (opM_ge _ _ _ _ _ _ _)
theorem decM_snd (nm : Nm) (s : Sy) (ns : Ns) (w : Int) : (decM nm s ns w).2.2 = w := by
  unfold decM
  split <;> rfl
theorem noteM_ge (t : Ty) (w : Int) : w ≤ noteM t w := by
  unfold noteM
  split
  · exact (mx_ge _ _).1
  · exact Int.le_refl _
theorem stsM_ge (fs : Fs) : ∀ (l : List St), (∀ s, s ∈ l → ∀ ns w, w ≤ (stM fs s ns w).2.2) → ∀ ns w, w ≤ (stsM fs l ns w).2.2 := by
  intro l
  induction l with
  | nil => intro _ ns w; rw [stsM]; exact Int.le_refl _
  | cons s r ih =>
    intro h ns w
    rw [stsM_cons]
    have h1 := h s (by simp) ns w
    split
    · exact h1
    · exact Int.le_trans h1 (ih (fun x hx => h x (by simp [hx])) _ _)
theorem stM_ge (fs : Fs) : ∀ s, ∀ ns w, w ≤ (stM fs s ns w).2.2 := by
  refine St.ind fun s ih ns w => ?_
  by_cases h3 : s.kind = 3
  · rw [stM_loop h3]
    have hd := decM_snd s.name ⟨fieldT, true, s.lo, s.hi⟩ ns w
    have hs := stsM_ge fs s.body ih (decM s.name ⟨fieldT, true, s.lo, s.hi⟩ ns w).2.1 (decM s.name ⟨fieldT, true, s.lo, s.hi⟩ ns w).2.2
    split
    · exact Int.le_refl _
    · split
      · rw [hd]; exact Int.le_refl _
      · split
        · rw [hd] at hs ⊢; exact hs
        · rw [hd] at hs ⊢; exact hs
  · rw [stM_let h3]
    have h1 := exM_ge fs ns s.ex w
    split
    · exact h1
    · split
      · exact h1
      · split
        · split
          · exact h1
          · rw [decM_snd]; exact Int.le_trans h1 (noteM_ge _ _)
        · rw [decM_snd]; exact h1
/-! ### Lists of statements, put together -/
theorem stsM_app (fs : Fs) (a b : List St) : ∀ (ns : Ns) (w : Int), stsM fs (a ++ b) ns w = if (stsM fs a ns w).1 ≠ 0 then stsM fs a ns w else stsM fs b (stsM fs a ns w).2.1 (stsM fs a ns w).2.2 := by
  induction a with
  | nil => intro ns w; rw [stsM]; simp
  | cons s r ih =>
    intro ns w
    rw [List.cons_append, stsM_cons, stsM_cons]
    split
    · rfl
    · exact ih _ _
theorem bsSs_app (ks : Ks) (a b : List St) : ∀ n : Int, bsSs ks (a ++ b) n = bsSs ks b (bsSs ks a n) := by
  induction a with
  | nil => intro n; rw [List.nil_append, bsSs]
  | cons s r ih => intro n; rw [List.cons_append, bsSs, bsSs]; exact ih _
theorem bsSs_ge {ks : Ks} : ∀ (l : List St), (∀ s, s ∈ l → 0 ≤ bsS ks s) → ∀ n : Int, 0 ≤ n → n ≤ 20001 → n ≤ bsSs ks l n := by
  intro l
  induction l with
  | nil => intro _ n _ _; rw [bsSs]; exact Int.le_refl _
  | cons s r ih =>
    intro h n h0 h1
    have hs := h s (by simp)
    rw [bsSs]
    have h2 : n ≤ mn (n + bsS ks s) 20001 := mn_ge (by omega) h1
    exact Int.le_trans h2 (ih (fun x hx => h x (by simp [hx])) _ (by omega) (mn_le _ _).2)
theorem stepK_B : ∀ (l : List Fu) (ks : Ks), (∀ f, f ∈ l → f.body.all lkS = true) → KsB ks → KsB (stepK l ks) := by
  intro l
  induction l with
  | nil => intro ks _ h; rw [stepK]; exact h
  | cons f r ih =>
    intro ks hl h
    rw [stepK]
    refine ih _ (fun x hx => hl x (by simp [hx])) (h.put _ (mn_ge (by omega) ?_) (mn_le _ _).1)
    have h1 := bsSs_range (ks := ks) f.body (fun s hs => (bsS_range h s (List.all_eq_true.1 (hl f (by simp)) s hs)).1) 0 (by omega) (by omega)
    have h2 := csE_range h f.ret
    omega
/-! ### The same program with other statements -/
def wb (p : Pg) (l : List St) : Pg := { p with bnl := false, body := l }
theorem valid_zero {p : Pg} : validP p = 0 ↔ p.funcs.all fuB = true ∧ p.decls.all deB = true ∧ p.body.all stB = true ∧ p.funcs.all shF = true ∧ p.body.all shS = true := by
  unfold validP
  cases p.funcs.all fuB <;> cases p.decls.all deB <;> cases p.body.all stB <;> cases p.funcs.all shF <;> cases p.body.all shS <;> simp
theorem exam_ok {p : Pg} : (examP p).2.2 = 0 ↔ validP p = 0 ∧ (progM p).1 = 0 ∧ stepsP p ≤ 20000 := by
  unfold examP
  by_cases h1 : validP p = 0
  · rw [if_neg (by simpa using h1)]
    simp only
    by_cases h2 : (progM p).1 = 0
    · rw [if_neg (by simpa using h2)]
      by_cases h3 : stepsP p > 20000
      · rw [if_pos h3]; simp; omega
      · rw [if_neg h3]; simp [h1, h2]; omega
    · rw [if_pos (by simpa using h2)]; simp [h2]
  · rw [if_pos (by simpa using h1)]; simp [h1]
theorem exam_val {p : Pg} (h : (examP p).2.2 = 0) : examP p = ((progM p).2, stepsP p, 0) := by
  obtain ⟨h1, h2, h3⟩ := exam_ok.1 h
  unfold examP
  rw [if_neg (by simpa using h1)]
  simp only
  rw [if_neg (by simpa using h2), if_neg (by omega)]
theorem prog_ok {p : Pg} : (progM p).1 = 0 ↔ (funsM p.funcs [] 0).1 = 0 ∧ (desM p.decls [] (funsM p.funcs [] 0).2.2).1 = 0 ∧ (stsM (funsM p.funcs [] 0).2.1 p.body (desM p.decls [] (funsM p.funcs [] 0).2.2).2.1 (desM p.decls [] (funsM p.funcs [] 0).2.2).2.2).1 = 0 := by
  rw [progM_eq, bodyM_eq]
  by_cases h1 : (funsM p.funcs [] 0).1 = 0
  · rw [if_neg (by simpa using h1)]
    by_cases h2 : (desM p.decls [] (funsM p.funcs [] 0).2.2).1 = 0
    · rw [if_neg (by simpa using h2)]
      simp only
      split
      · rename_i h3; simp only [h1, h2, true_and]
      · rename_i h3; simp only [h1, h2, true_and]; simpa using h3
    · rw [if_pos (by simpa using h2)]; simp [h2]
  · rw [if_pos (by simpa using h1)]; simp [h1]
theorem prog_val {p : Pg} (h : (progM p).1 = 0) : (progM p).2 = (stsM (funsM p.funcs [] 0).2.1 p.body (desM p.decls [] (funsM p.funcs [] 0).2.2).2.1 (desM p.decls [] (funsM p.funcs [] 0).2.2).2.2).2.2 := by
  obtain ⟨h1, h2, h3⟩ := prog_ok.1 h
  rw [progM_eq, bodyM_eq, if_neg (by simpa using h1), if_neg (by simpa using h2), if_neg (by simpa using h3)]
theorem inp_same {p : Pg} {l : List St} (h1 : (examP p).2.2 = 0) (h2 : (examP (wb p l)).2.2 = 0) : inpP (wb p l) = inpP p := by
  unfold inpP
  rw [h1, h2]
  rfl
/-! ### The laws -/
theorem prefix_law {p : Pg} (k : Nat) (h : (examP p).2.2 = 0) : (examP (wb p (p.body.take k))).2.2 = 0 ∧ (examP (wb p (p.body.take k))).2.1 ≤ (examP p).2.1 ∧ (examP (wb p (p.body.take k))).1 ≤ (examP p).1 ∧ inpP (wb p (p.body.take k)) = inpP p := by
  obtain ⟨h1, h2, h3⟩ := exam_ok.1 h
  obtain ⟨v1, v2, v3, v4, v5⟩ := valid_zero.1 h1
  obtain ⟨g1, g2, g3⟩ := prog_ok.1 h2
  have hsp := List.take_append_drop k p.body
  have hmem : ∀ s, s ∈ p.body.take k → s ∈ p.body := fun s hs => List.mem_of_mem_take hs
  have w1 : validP (wb p (p.body.take k)) = 0 := valid_zero.2 ⟨v1, v2, List.all_eq_true.2 fun s hs => List.all_eq_true.1 v3 s (hmem s hs), v4, List.all_eq_true.2 fun s hs => List.all_eq_true.1 v5 s (hmem s hs)⟩
  have g3' := g3
  rw [← hsp, stsM_app] at g3'
  have g4 : (stsM (funsM p.funcs [] 0).2.1 (p.body.take k) (desM p.decls [] (funsM p.funcs [] 0).2.2).2.1 (desM p.decls [] (funsM p.funcs [] 0).2.2).2.2).1 = 0 := by
    split at g3'
    · contradiction
    · rename_i h4; simpa using h4
  have w2 : (progM (wb p (p.body.take k))).1 = 0 := prog_ok.2 ⟨g1, g2, g4⟩
  have hlk := progM_lk v1 v3 h2
  have hks := stepK_B p.funcs [] hlk.1 KsB.nil
  have hnn : ∀ s, s ∈ p.body → 0 ≤ bsS (stepK p.funcs []) s := fun s hs => (bsS_range hks s (List.all_eq_true.1 hlk.2 s hs)).1
  have hst : stepsP (wb p (p.body.take k)) ≤ stepsP p := by
    show bsSs (stepK p.funcs []) (p.body.take k) 0 ≤ bsSs (stepK p.funcs []) p.body 0
    have hr := bsSs_range (ks := stepK p.funcs []) (p.body.take k) (fun s hs => hnn s (hmem s hs)) 0 (by omega) (by omega)
    have := bsSs_ge (ks := stepK p.funcs []) (p.body.drop k) (fun s hs => hnn s (List.mem_of_mem_drop hs)) _ hr.1 hr.2
    rw [← bsSs_app, hsp] at this
    exact this
  have w3 : (examP (wb p (p.body.take k))).2.2 = 0 := exam_ok.2 ⟨w1, w2, by omega⟩
  refine ⟨w3, ?_, ?_, inp_same h w3⟩
  · rw [exam_val h, exam_val w3]; exact hst
  · rw [exam_val h, exam_val w3]
    show (progM (wb p (p.body.take k))).2 ≤ (progM p).2
    rw [prog_val h2, prog_val w2]
    show (stsM (funsM p.funcs [] 0).2.1 (p.body.take k) _ _).2.2 ≤ _
    have this := stsM_app (funsM p.funcs [] 0).2.1 (p.body.take k) (p.body.drop k) (desM p.decls [] (funsM p.funcs [] 0).2.2).2.1 (desM p.decls [] (funsM p.funcs [] 0).2.2).2.2
    rw [if_neg (by simpa using g4), hsp] at this
    rw [this]
    exact stsM_ge _ _ (fun s _ => stM_ge _ s) _ _
def tt : St := stA (.mk 3 0 [] true [])
theorem further_law {p : Pg} (h : (examP p).2.2 = 0) : if (examP p).2.1 = 20000 then (examP (wb p (p.body ++ [tt]))).2.2 = 3 ∧ (examP (wb p (p.body ++ [tt]))).2.1 = 0
    else (examP (wb p (p.body ++ [tt]))).2.2 = 0 ∧ (examP (wb p (p.body ++ [tt]))).2.1 = (examP p).2.1 + 1 ∧ (examP (wb p (p.body ++ [tt]))).1 = (examP p).1 := by
  obtain ⟨h1, h2, h3⟩ := exam_ok.1 h
  obtain ⟨v1, v2, v3, v4, v5⟩ := valid_zero.1 h1
  obtain ⟨g1, g2, g3⟩ := prog_ok.1 h2
  have w1 : validP (wb p (p.body ++ [tt])) = 0 := valid_zero.2 ⟨v1, v2, by show (p.body ++ [tt]).all stB = true; rw [List.all_append, v3]; decide, v4, by show (p.body ++ [tt]).all shS = true; rw [List.all_append, v5]; decide⟩
  have htt : ∀ ns w, stM (funsM p.funcs [] 0).2.1 tt ns w = (0, ns, w) := by
    intro ns w
    have hE : exM (funsM p.funcs [] 0).2.1 ns tt.ex w = ((boolT, 0), w) := by
      show exM _ _ (.mk 3 0 [] true []) _ = _
      rw [exM_eq]
      show (if (3 : Int) = 8 then _ else _) = _
      rw [if_neg (by decide)]
      show (if (exsM _ _ [] w).1.2 ≠ 0 then _ else opM _ _ 3 0 [] (exsM _ _ [] w).1.1 (exsM _ _ [] w).2) = _
      rw [exsM]
      rfl
    rw [stM_let (by decide), hE]
    rfl
  have g4 := stsM_app (funsM p.funcs [] 0).2.1 p.body [tt] (desM p.decls [] (funsM p.funcs [] 0).2.2).2.1 (desM p.decls [] (funsM p.funcs [] 0).2.2).2.2
  rw [if_neg (by simpa using g3), stsM_cons, htt] at g4
  simp only [ne_eq, not_true, if_false] at g4
  rw [stsM] at g4
  have w2 : (progM (wb p (p.body ++ [tt]))).1 = 0 := prog_ok.2 ⟨g1, g2, by show (stsM (funsM p.funcs [] 0).2.1 (p.body ++ [tt]) (desM p.decls [] (funsM p.funcs [] 0).2.2).2.1 (desM p.decls [] (funsM p.funcs [] 0).2.2).2.2).1 = 0; rw [g4]⟩
  have w3 : (progM (wb p (p.body ++ [tt]))).2 = (progM p).2 := by
    rw [prog_val w2, prog_val h2]
    show (stsM (funsM p.funcs [] 0).2.1 (p.body ++ [tt]) (desM p.decls [] (funsM p.funcs [] 0).2.2).2.1 (desM p.decls [] (funsM p.funcs [] 0).2.2).2.2).2.2 = _
    rw [g4]
  have hlk := progM_lk v1 v3 h2
  have hks := stepK_B p.funcs [] hlk.1 KsB.nil
  have hr := bsSs_range (ks := stepK p.funcs []) p.body (fun s hs => (bsS_range hks s (List.all_eq_true.1 hlk.2 s hs)).1) 0 (by omega) (by omega)
  have hs : stepsP (wb p (p.body ++ [tt])) = stepsP p + 1 := by
    show bsSs (stepK p.funcs []) (p.body ++ [tt]) 0 = bsSs (stepK p.funcs []) p.body 0 + 1
    have h3' : bsSs (stepK p.funcs []) p.body 0 ≤ 20000 := h3
    rw [bsSs_app, bsSs, bsSs]
    have hb : bsS (stepK p.funcs []) tt = 1 := by
      rw [bsS_eq]
      show (if (2 : Int) = 3 then _ else 1 + csE (stepK p.funcs []) (.mk 3 0 [] true [])) = _
      rw [if_neg (by decide), csE_eq]
      show 1 + mn 20001 (csEs (stepK p.funcs []) [] (if (3 : Int) = 5 then _ else 0)) = 1
      rw [csEs, if_neg (by decide)]
      rfl
    rw [hb]
    unfold mn
    rw [if_neg (by omega)]
  have e1 := exam_val h
  rw [e1]
  simp only
  split
  · rename_i h20
    have : examP (wb p (p.body ++ [tt])) = (0, 0, 3) := by
      unfold examP
      rw [if_neg (by simpa using w1)]
      simp only
      rw [if_neg (by simpa using w2), if_pos (by omega)]
    rw [this]
    exact ⟨rfl, rfl⟩
  · rename_i h20
    have hok : (examP (wb p (p.body ++ [tt]))).2.2 = 0 := exam_ok.2 ⟨w1, w2, by omega⟩
    rw [exam_val hok]
    exact ⟨rfl, hs, w3⟩
/-- An error of a prefix is the whole's. -/
theorem order_law {p : Pg} (k : Nat) (h1 : (examP p).2.2 ≠ 1) (h2 : (examP (wb p (p.body.take k))).2.2 ≠ 1) (h3 : (examP (wb p (p.body.take k))).2.2 ≠ 0) (h4 : (examP (wb p (p.body.take k))).2.2 ≠ 3) : (examP p).2.2 = (examP (wb p (p.body.take k))).2.2 := by
  have v1 : validP p = 0 := by
    by_cases hv : validP p = 0
    · exact hv
    · exfalso; apply h1; unfold examP; rw [if_pos (by simpa using hv)]
  have v2 : validP (wb p (p.body.take k)) = 0 := by
    by_cases hv : validP (wb p (p.body.take k)) = 0
    · exact hv
    · exfalso; apply h2; unfold examP; rw [if_pos (by simpa using hv)]
  have hE : ∀ q : Pg, validP q = 0 → (progM q).1 ≠ 0 → (examP q).2.2 = (progM q).1 := fun q hq hp => by
    unfold examP
    rw [if_neg (by simpa using hq)]
    simp only
    rw [if_pos (by simpa using hp)]
  have p2 : (progM (wb p (p.body.take k))).1 ≠ 0 := by
    intro hp
    by_cases hst : stepsP (wb p (p.body.take k)) > 20000
    · apply h4
      unfold examP
      rw [if_neg (by simpa using v2)]
      simp only
      rw [if_neg (by simpa using hp), if_pos hst]
    · exact h3 (exam_ok.2 ⟨v2, hp, by omega⟩)
  have key : (progM p).1 = (progM (wb p (p.body.take k))).1 := by
    have hsp := List.take_append_drop k p.body
    rw [progM_eq p, progM_eq (wb p (p.body.take k))] 
    rw [progM_eq] at p2
    show (if (funsM p.funcs [] 0).1 ≠ 0 then _ else _ : Int × Int).1 = (if (funsM p.funcs [] 0).1 ≠ 0 then _ else _ : Int × Int).1
    replace p2 : (if (funsM p.funcs [] 0).1 ≠ 0 then ((funsM p.funcs [] 0).1, (funsM p.funcs [] 0).2.2)
      else if (desM p.decls [] (funsM p.funcs [] 0).2.2).1 ≠ 0 then ((desM p.decls [] (funsM p.funcs [] 0).2.2).1, (desM p.decls [] (funsM p.funcs [] 0).2.2).2.2)
      else ((bodyM (funsM p.funcs [] 0).2.1 (p.body.take k) (desM p.decls [] (funsM p.funcs [] 0).2.2).2.1 (desM p.decls [] (funsM p.funcs [] 0).2.2).2.2).1, (bodyM (funsM p.funcs [] 0).2.1 (p.body.take k) (desM p.decls [] (funsM p.funcs [] 0).2.2).2.1 (desM p.decls [] (funsM p.funcs [] 0).2.2).2.2).2.2)).1 ≠ 0 := p2
    split
    · rfl
    · rename_i c1
      rw [if_neg c1] at p2
      show (if (desM p.decls [] (funsM p.funcs [] 0).2.2).1 ≠ 0 then _ else _ : Int × Int).1 = (if (desM p.decls [] (funsM p.funcs [] 0).2.2).1 ≠ 0 then _ else _ : Int × Int).1
      split
      · rfl
      · rename_i c2
        rw [if_neg c2] at p2
        simp only at p2
        show (bodyM (funsM p.funcs [] 0).2.1 p.body (desM p.decls [] (funsM p.funcs [] 0).2.2).2.1 (desM p.decls [] (funsM p.funcs [] 0).2.2).2.2).1 = (bodyM (funsM p.funcs [] 0).2.1 (p.body.take k) (desM p.decls [] (funsM p.funcs [] 0).2.2).2.1 (desM p.decls [] (funsM p.funcs [] 0).2.2).2.2).1
        have hs : (stsM (funsM p.funcs [] 0).2.1 (p.body.take k) (desM p.decls [] (funsM p.funcs [] 0).2.2).2.1 (desM p.decls [] (funsM p.funcs [] 0).2.2).2.2).1 ≠ 0 := by
          intro e
          apply p2
          rw [bodyM_eq, if_neg (by simpa using e)]
        have hb : stsM (funsM p.funcs [] 0).2.1 p.body (desM p.decls [] (funsM p.funcs [] 0).2.2).2.1 (desM p.decls [] (funsM p.funcs [] 0).2.2).2.2 = stsM (funsM p.funcs [] 0).2.1 (p.body.take k) (desM p.decls [] (funsM p.funcs [] 0).2.2).2.1 (desM p.decls [] (funsM p.funcs [] 0).2.2).2.2 := by
          have := stsM_app (funsM p.funcs [] 0).2.1 (p.body.take k) (p.body.drop k) (desM p.decls [] (funsM p.funcs [] 0).2.2).2.1 (desM p.decls [] (funsM p.funcs [] 0).2.2).2.2
          rw [hsp, if_pos (by simpa using hs)] at this
          exact this
        rw [bodyM_eq, bodyM_eq, hb]
  rw [hE p v1 (by rw [key]; exact p2), hE _ v2 p2, key]
theorem steps_ge {p : Pg} (h : (examP p).2.2 = 0) : 0 ≤ (examP p).2.1 ∧ (examP p).2.1 ≤ 20000 := by
  obtain ⟨h1, h2, h3⟩ := exam_ok.1 h
  obtain ⟨v1, v2, v3, v4, v5⟩ := valid_zero.1 h1
  have hlk := progM_lk v1 v3 h2
  have hks := stepK_B p.funcs [] hlk.1 KsB.nil
  have hr := bsSs_range (ks := stepK p.funcs []) p.body (fun s hs => (bsS_range hks s (List.all_eq_true.1 hlk.2 s hs)).1) 0 (by omega) (by omega)
  rw [exam_val h]
  exact ⟨hr.1, h3⟩
end Go.Ky

/- KX 17: a program's statements, cut and put together. -/
namespace Go.Ky
open Go.Pi Go.Lx

theorem sl_sts (nl : Bool) (l : List St) (k : Nat) (hk : k ≤ l.length) : sliceP 13 (.t (.sl nl (tSts l))) none (some (.t (.int .i64 (k : Int)))) none = some (.t (.sl nl (tSts (l.take k)))) := by
  have hlen : (tSts l).length = l.length := tSts_len l
  have h0 : (0 : Int) ≤ (k : Int) := by omega
  have e : ((tSts l).take k).drop 0 = tSts (l.take k) := by rw [List.drop_zero, tSts_map, tSts_map, List.map_take]
  have hsz : szOk 13 (tSts (l.take k)) = true := by
    cases l.take k with
    | nil => rfl
    | cons x r => show ((tSt x).length == 13) = true; rw [tSt_eq]; rfl
  simp only [sliceP, elems, bound, if_pos h0, Int.toNat_natCast, e, hsz, hlen]
  rw [if_pos ⟨Nat.zero_le _, hk, Nat.le_refl _, trivial⟩]
theorem all13 (l : List St) : (tSts l).all (fun x => x.length == 13) = true := by
  rw [tSts_map, List.all_map]
  refine List.all_eq_true.2 fun x _ => ?_
  show ((tSt x).length == 13) = true
  rw [tSt_eq]; rfl
theorem room13 {n : Nat} (h : n ≤ B20 + 10) : room n 152 = true := by
  have hb : B20 = 1100000 := rfl
  unfold room; simp only [decide_eq_true_eq]; omega
theorem app_sts (dr : Bool) (sg : Sg) (ow : Ow) (nl : Bool) (l : List St) (h : l.length ≤ B20) :
    (l = [] ∧ appendP dr sg ow 13 152 (.lit []) (.t (.sl nl (tSts l))) = some (.lit [], ow)) ∨ (l ≠ [] ∧ appendP dr sg ow 13 152 (.lit []) (.t (.sl nl (tSts l))) = some (.own ow.length 13 (tSts l), ow ++ [l.length])) := by
  cases l with
  | nil => exact .inl ⟨rfl, rfl⟩
  | cons x r =>
    refine .inr ⟨by simp, ?_⟩
    have ha := all13 (x :: r)
    have hr := room13 (n := (x :: r).length) (by omega)
    have hl := tSts_len (x :: r)
    show appendP dr sg ow 13 152 (.lit []) (.t (.sl nl (tSt x :: tSts r))) = some (.own ow.length 13 (tSt x :: tSts r), _)
    replace ha : (tSt x :: tSts r).all (fun x => x.length == 13) = true := ha
    replace hl : (tSt x :: tSts r).length = (x :: r).length := hl
    unfold appendP
    simp only [elemsS, elems]
    rw [if_pos ⟨ha, by decide⟩]
    simp only [List.length_nil, Nat.zero_add, hl, hr, List.all_nil, List.nil_append, and_self, if_true]
theorem app_one (dr : Bool) (sg : Sg) (l : List St) (s : St) (h : l.length ≤ B20) : appendP dr sg [l.length] 13 152 (.own 0 13 (tSts l)) (.lit [tSt s]) = some (.own 0 13 (tSts (l ++ [s])), [l.length + 1]) := by
  have hr := room13 (n := l.length + 1) (by omega)
  have hl := tSts_len l
  have ha : [tSt s].all (fun x => x.length == 13) = true := by simp [tSt_eq]
  have he : tSts l ++ [tSt s] = tSts (l ++ [s]) := by rw [tSts_map, tSts_map, List.map_append]; rfl
  unfold appendP
  simp only [elemsS, elems]
  rw [if_pos ⟨ha, by decide⟩]
  simp only [List.length_cons, List.length_nil, Nat.zero_add, hl, hr, he, List.getElem?_cons_zero, and_self, if_true, List.set_cons_zero]
theorem app_one0 (dr : Bool) (sg : Sg) (s : St) : appendP dr sg [] 13 152 (.lit []) (.lit [tSt s]) = some (.own 0 13 (tSts ([] ++ [s])), [1]) := by
  have hr := room13 (n := 1) (by have hb : B20 = 1100000 := rfl; omega)
  have ha : [tSt s].all (fun x => x.length == 13) = true := by simp [tSt_eq]
  unfold appendP
  simp only [elemsS, elems]
  rw [if_pos ⟨ha, by decide⟩]
  simp only [List.length_cons, List.length_nil, Nat.zero_add, hr, List.all_nil, and_self, if_true, List.nil_append]
  rfl
theorem szSs_app (a b : List St) : szSs (a ++ b) = szSs a + szSs b := by
  induction a with
  | nil => show szSs b = 0 + szSs b; omega
  | cons x r ih => rw [List.cons_append, szSs_cons, szSs_cons, ih]; omega
theorem szSs_take (k : Nat) (l : List St) : szSs (l.take k) ≤ szSs l := by
  have := szSs_app (l.take k) (l.drop k)
  rw [List.take_append_drop] at this
  omega
end Go.Ky

/- KX 18: a program that is read: its parts' sizes. -/
namespace Go.Ky
open Go.Pi Go.Lx

theorem tBkss_mem {α : Type} {enc : α → List T} {l : List α} {x : α} (h : x ∈ l) : tBks (enc x) ≤ tBkss (l.map enc) := by
  induction l with
  | nil => cases h
  | cons y r ih =>
    show tBks (enc x) ≤ tBks (enc y) + tBkss (r.map enc)
    rcases List.mem_cons.1 h with e | e
    · subst e; omega
    · have := ih e; omega
theorem tBkss_len {α : Type} {enc : α → List T} (he : ∀ x, 1 ≤ tBks (enc x)) (l : List α) : l.length ≤ tBkss (l.map enc) := by
  induction l with
  | nil => exact Nat.zero_le _
  | cons y r ih =>
    show r.length + 1 ≤ tBks (enc y) + tBkss (r.map enc)
    have := he y
    omega
theorem tFu_sz (f : Fu) : tBks (tFu f) = f.name.length + 1 + (tBkss (f.params.map tPa) + 1) + 3 + (szSs f.body + 1) + szE f.ret := by
  rw [szE_eq]
  unfold szSs szEs
  simp only [tBks, tBk]
  omega
theorem tPg_sz (p : Pg) : tBks (tPg p) = (tBkss (p.funcs.map tFu) + 1) + (tBkss (p.decls.map tDe) + 1) + (szSs p.body + 1) := by
  unfold szSs
  simp only [tBks, tBk]
  omega
theorem pg_sizes {p : Pg} {M : Nat} (h : tBks (tPg p) ≤ M) : p.funcs.length ≤ M ∧ p.decls.length ≤ M ∧ (∀ f, f ∈ p.funcs → f.params.length ≤ M ∧ szSs f.body ≤ M ∧ szE f.ret ≤ M) ∧ szSs p.body ≤ M := by
  rw [tPg_sz] at h
  have h1 := tBkss_len (enc := tFu) (fun x => by rw [tFu_sz]; omega) p.funcs
  have h2 := tBkss_len (enc := tDe) (fun x => by simp only [tBks, tBk]; omega) p.decls
  refine ⟨by omega, by omega, fun f hf => ?_, by omega⟩
  have h3 := tBkss_mem (enc := tFu) hf
  rw [tFu_sz] at h3
  have h4 := tBkss_len (enc := tPa) (fun x => by simp only [tBks, tBk]; omega) f.params
  exact ⟨by omega, by omega, by omega⟩
end Go.Ky

/- KX 19: the reference's depth, in plain words. -/
namespace Go.Ky
open Go.Pi Go.Lx

mutual
def dpS : St → Nat → Bool
  | .mk k _ _ _ e _ _ _ l, lim => decide (lim = 0) || ((decide (k ≠ 3) && decide ((dEx e : Int) > 40)) || dpSs l (lim - 1))
def dpSs : List St → Nat → Bool
  | [], _ => false
  | s :: r, lim => dpS s lim || dpSs r lim
end
theorem dpS_eq (s : St) (lim : Nat) : dpS s lim = (decide (lim = 0) || ((decide (s.kind ≠ 3) && decide ((dEx s.ex : Int) > 40)) || dpSs s.body (lim - 1))) := by
  cases s
  rw [dpS]; rfl
def fmB (f : Fu) : Bool := f.params.all paB && (nameB f.name && (tyB f.res && (f.body.all stB && exB f.ret)))
theorem fmB_eq (f : Fu) : fmB f = fuB f := by
  unfold fmB fuB
  cases nameB f.name <;> cases f.params.all paB <;> cases tyB f.res <;> cases f.body.all stB <;> simp
def dpF (f : Fu) : Bool := dpSs f.body 40 || decide ((dEx f.ret : Int) > 40)
def rvP (p : Pg) : Int := if p.funcs.all fmB = false then 1 else if p.decls.all deB = false then 1 else if p.body.all stB = false then 1 else if p.funcs.any dpF = true then 3 else if dpSs p.body 40 = true then 3 else 0
end Go.Ky

/- KX 20: the reference's checker of types, in plain words. -/
namespace Go.Ky
open Go.Pi Go.Lx

def capM (n : Int) : Int := if n > 20000 then 20001 else n
def grM (a b : Int) : Int := if a > b then a else b
def timesM (n s : Int) : Int := if n = 0 ∨ s = 0 then 0 else if n > 20000 then 20001 else capM (IntKind.i64.wrap (n * s))
def declM (t : Ty) : Int := if t.kind = 3 then t.bits else 0
def elM (t : Ty) : Int := if t.len = 0 then 1 else t.len
def FitM (a b : Ty) : Bool := if a = b then true else if a.len ≠ b.len then false else if b.kind = 1 then true else decide (a.kind = 3) && (decide (b.kind = 3) && decide (a.bits ≤ b.bits))
abbrev tSym (p : Nm × Sy) : List T := [.str p.1, .int .i64 p.2.typ.kind, .int .i64 p.2.typ.bits, .int .i64 p.2.typ.len, .bool p.2.loop, .int .i64 p.2.low, .int .i64 p.2.high]
def findI (k : Nm) : Ns → Nat → Int
  | [], _ => -1
  | p :: r, i => if p.1 = k then (i : Int) else findI k r (i + 1)
theorem find_none {k : Nm} : ∀ {ns : Ns} {i : Nat}, look k ns = none → findI k ns i = -1
  | [], _, _ => rfl
  | (j, x) :: r, i, h => by
    rw [look] at h
    rw [findI]
    by_cases hk : k = j
    · rw [if_pos hk] at h; cases h
    · rw [if_neg hk] at h
      rw [if_neg (fun e => hk e.symm)]
      exact find_none h
theorem find_some {k : Nm} {s : Sy} : ∀ {ns : Ns} {i : Nat}, look k ns = some s → ∃ j nm, findI k ns i = ((i + j : Nat) : Int) ∧ ns[j]? = some (nm, s)
  | [], _, h => by cases h
  | (j, x) :: r, i, h => by
    rw [look] at h
    rw [findI]
    by_cases hk : k = j
    · rw [if_pos hk] at h
      rw [if_pos hk.symm]
      injection h with h
      exact ⟨0, j, rfl, by rw [h]; rfl⟩
    · rw [if_neg hk] at h
      rw [if_neg (fun e => hk e.symm)]
      obtain ⟨a, nm, h1, h2⟩ := find_some (i := i + 1) h
      exact ⟨a + 1, nm, by rw [h1]; congr 1; omega, by simpa using h2⟩
theorem find_some0 {k : Nm} {s : Sy} {ns : Ns} (h : look k ns = some s) : ∃ j nm, findI k ns 0 = ((j : Nat) : Int) ∧ ns[j]? = some (nm, s) := by
  obtain ⟨j, nm, h1, h2⟩ := find_some (i := 0) h
  exact ⟨j, nm, by rw [h1]; congr 1; omega, h2⟩

/-- A type, bits, steps, an error. -/
structure Rr where
  t : Ty
  bits : Int
  steps : Int
  err : Int
abbrev tRr (r : Rr) : List T := [.int .i64 r.t.kind, .int .i64 r.t.bits, .int .i64 r.t.len, .int .i64 r.bits, .int .i64 r.steps, .int .i64 r.err]
/-- Functions with their steps. -/
abbrev Fz := List (Fu × Int)
abbrev tFz (p : Fu × Int) : List T := [.str p.1.name, .sl p.1.pnl (p.1.params.map tPa), .int .i64 p.1.res.kind, .int .i64 p.1.res.bits, .int .i64 p.1.res.len, .sl p.1.bnl (tSts p.1.body), .int .i64 p.1.ret.op, .int .u64 p.1.ret.val, .str p.1.ret.name, .sl p.1.ret.nl (tExs p.1.ret.args), .int .i64 p.2]
def failR (e : Int) : Rr := ⟨zTy, 0, 0, e⟩
def okR (t : Ty) : Rr := ⟨t, 0, 0, 0⟩
def zR : Rr := ⟨zTy, 0, 0, 0⟩
/-- The error of an index: what stands in it is found. -/
def idxS (s : Sy) (b sg len : Int) : Int :=
  if s.loop = false then 6
  else if s.low > IntKind.i64.wrap (s.high - 1) then 0
  else if b > 10000000 then 8
  else if IntKind.i64.wrap (s.low + IntKind.i64.wrap (sg * IntKind.i64.wrap b)) < 0 ∨ IntKind.i64.wrap (IntKind.i64.wrap (s.high - 1) + IntKind.i64.wrap (sg * IntKind.i64.wrap b)) ≥ len then 8 else 0
def idxN (ns : Ns) (nm : Nm) (b sg len : Int) : Int := match look nm ns with
  | none => 4
  | some s => idxS s b sg len
def idxR (ns : Ns) (e : Exp) (len : Int) : Int :=
  if e.op = 1 then (if e.val ≥ IntKind.u64.wrap len then 8 else 0)
  else if (e.op = 12 ∨ e.op = 13) ∧ (e.args.getD 0 default).op = 2 ∧ (e.args.getD 1 default).op = 1 then idxN ns (e.args.getD 0 default).name (e.args.getD 1 default).val (if e.op = 13 then -1 else 1) len
  else if e.op = 2 then idxN ns e.name 0 0 len
  else 6
/-- What is known of the operands. -/
structure Ac where
  bits : Int
  steps : Int
  sc : Bool
  bo : Bool
  ui : Bool
  sa : Bool
def ac0 : Ac := ⟨0, 0, true, true, true, true⟩
def acS (f : Ty) (a : Ac) (r : Rr) : Ac := ⟨grM a.bits r.bits, capM (IntKind.i64.wrap (a.steps + r.steps)), a.sc && isSc r.t, a.bo && decide (r.t = boolT), a.ui && isSc r.t && decide (r.t.kind = 3), a.sa && decide (r.t = f)⟩
def fitAll : List Rr → List Pa → Bool
  | r :: l, p :: ps => FitM r.t p.ty && fitAll l ps
  | _, _ => true
def callR (nm : Nm) (l : List Rr) (a : Ac) : Fz → Rr
  | [] => failR 4
  | p :: r => if p.1.name ≠ nm then callR nm l a r else if (l.length : Int) ≠ (p.1.params.length : Int) then failR 6 else if fitAll l p.1.params = false then failR 6 else ⟨p.1.res, a.bits, capM (IntKind.i64.wrap (IntKind.i64.wrap (a.steps + 1) + p.2)), 0⟩
def scR (a : Ac) (r : Rr) : Rr := if a.sc = false then failR 6 else r
def tyR (l : List Rr) (i : Nat) : Ty := (l.getD i zR).t
def opR (fs : Fz) (op val : Int) (nm : Nm) (l : List Rr) (a : Ac) : Rr :=
  if op = 5 then callR nm l a fs
  else if op = 6 then (if val ≥ 65536 then failR 8 else scR a ⟨fieldT, a.bits, a.steps, 0⟩)
  else if op = 7 then scR a ⟨⟨(if a.sa then tyR l 0 else fieldT).kind, (if a.sa then tyR l 0 else fieldT).bits, (l.length : Int)⟩, a.bits, a.steps, 0⟩
  else if op = 14 ∨ op = 15 then scR a ⟨boolT, a.bits, a.steps, 0⟩
  else if op = 16 ∨ op = 17 then (if a.ui = false then failR 6 else scR a ⟨boolT, grM a.bits (IntKind.i64.wrap (grM (tyR l 0).bits (tyR l 1).bits + 1)), a.steps, 0⟩)
  else if op = 10 ∨ op = 18 ∨ op = 19 then (if a.bo = false then failR 6 else scR a ⟨boolT, a.bits, a.steps, 0⟩)
  else if op = 20 then (if tyR l 0 ≠ boolT then failR 6 else if tyR l 1 = tyR l 2 then ⟨tyR l 1, a.bits, a.steps, 0⟩ else scR a ⟨fieldT, a.bits, a.steps, 0⟩)
  else scR a ⟨fieldT, a.bits, a.steps, 0⟩
def ixR (ns : Ns) (r : Rr) (b : Exp) : Rr :=
  if r.err ≠ 0 then r
  else if r.t.len = 0 then (if idxR ns b 1 = 4 then failR 4 else failR 6)
  else if idxR ns b r.t.len ≠ 0 then failR (idxR ns b r.t.len) else ⟨⟨r.t.kind, r.t.bits, 0⟩, r.bits, r.steps, r.err⟩
def acL (l : List Rr) : Ac := l.foldl (acS (tyR l 0)) ac0
mutual
def exR (fs : Fz) (ns : Ns) : Exp → Rr
  | .mk op val nm _ l =>
    if op = 1 then (if val ≥ 4611686018427387904 then okR fieldT else okR ⟨3, ((1 + val.toNat.log2 : Nat) : Int), 0⟩)
    else if op = 3 ∨ op = 4 then okR boolT
    else if op = 2 then (match look nm ns with | none => failR 4 | some s => okR s.typ)
    else if op = 8 then (match l with
      | a :: b :: _ => ixR ns (exR fs ns a) b
      | _ => failR 99)
    else if (opsR fs ns l).2 ≠ 0 then failR (opsR fs ns l).2 else opR fs op val nm (opsR fs ns l).1 (acL (opsR fs ns l).1)
def opsR (fs : Fz) (ns : Ns) : List Exp → List Rr × Int
  | [] => ([], 0)
  | a :: r => if (exR fs ns a).err ≠ 0 then ([], (exR fs ns a).err) else if (opsR fs ns r).2 ≠ 0 then ([], (opsR fs ns r).2) else (exR fs ns a :: (opsR fs ns r).1, 0)
end
theorem exR_eq (fs : Fz) (ns : Ns) (e : Exp) : exR fs ns e =
    if e.op = 1 then (if e.val ≥ 4611686018427387904 then okR fieldT else okR ⟨3, ((1 + e.val.toNat.log2 : Nat) : Int), 0⟩)
    else if e.op = 3 ∨ e.op = 4 then okR boolT
    else if e.op = 2 then (match look e.name ns with | none => failR 4 | some s => okR s.typ)
    else if e.op = 8 then (match e.args with
      | a :: b :: _ => ixR ns (exR fs ns a) b
      | _ => failR 99)
    else if (opsR fs ns e.args).2 ≠ 0 then failR (opsR fs ns e.args).2 else opR fs e.op e.val e.name (opsR fs ns e.args).1 (acL (opsR fs ns e.args).1) := by
  cases e with | mk op v n b l =>
  rcases l with _ | ⟨x, _ | ⟨y, r⟩⟩ <;> (simp only [exR]; rfl)
theorem opsR_cons (fs : Fz) (ns : Ns) (a : Exp) (r : List Exp) : opsR fs ns (a :: r) = if (exR fs ns a).err ≠ 0 then ([], (exR fs ns a).err) else if (opsR fs ns r).2 ≠ 0 then ([], (opsR fs ns r).2) else (exR fs ns a :: (opsR fs ns r).1, 0) := by rw [opsR]
/-- A name is declared. -/
def addR (nm : Nm) (s : Sy) (out : Rr) (own : Ns) : Rr × Ns := match look nm own with
  | some _ => (failR 5, [])
  | none => (out, own ++ [(nm, s)])
def letR (nm : Nm) (typed : Bool) (ty : Ty) (r out : Rr) (own : Ns) : Rr × Ns :=
  if typed then (if (isSc ty && !isSc r.t || !isSc ty && !FitM r.t ty) = true then (failR 6, []) else addR nm ⟨ty, false, 0, 0⟩ ⟨out.t, grM out.bits (declM ty), out.steps, out.err⟩ own)
  else addR nm ⟨r.t, false, 0, 0⟩ out own
def outR (out r : Rr) : Rr := ⟨out.t, grM out.bits r.bits, capM (IntKind.i64.wrap (IntKind.i64.wrap (out.steps + 1) + r.steps)), out.err⟩
def lopR (out r : Rr) (n : Int) : Rr := ⟨out.t, grM out.bits r.bits, capM (IntKind.i64.wrap (out.steps + timesM n r.steps)), out.err⟩
mutual
def stR (fs : Fz) : St → Rr → Ns → Rr × Ns
  | .mk k nm typed ty e lo hi _ l, out, own =>
    if k = 3 then (if lo > hi then (failR 8, []) else match look nm own with
      | some _ => (failR 5, [])
      | none => if (stsR fs l zR (own ++ [(nm, ⟨fieldT, true, lo, hi⟩)])).1.err ≠ 0 then ((stsR fs l zR (own ++ [(nm, ⟨fieldT, true, lo, hi⟩)])).1, [])
        else (lopR out (stsR fs l zR (own ++ [(nm, ⟨fieldT, true, lo, hi⟩)])).1 (IntKind.i64.wrap (hi - lo)), own))
    else if (exR fs own e).err ≠ 0 then (exR fs own e, [])
    else if k = 2 then (if (exR fs own e).t ≠ boolT then (failR 6, []) else (outR out (exR fs own e), own))
    else letR nm typed ty (exR fs own e) (outR out (exR fs own e)) own
def stsR (fs : Fz) : List St → Rr → Ns → Rr × Ns
  | [], out, own => (out, own)
  | s :: r, out, own => if (stR fs s out own).1.err ≠ 0 then ((stR fs s out own).1, []) else stsR fs r (stR fs s out own).1 (stR fs s out own).2
end
theorem stR_eq (fs : Fz) (s : St) (out : Rr) (own : Ns) : stR fs s out own =
    if s.kind = 3 then (if s.lo > s.hi then (failR 8, []) else match look s.name own with
      | some _ => (failR 5, [])
      | none => if (stsR fs s.body zR (own ++ [(s.name, ⟨fieldT, true, s.lo, s.hi⟩)])).1.err ≠ 0 then ((stsR fs s.body zR (own ++ [(s.name, ⟨fieldT, true, s.lo, s.hi⟩)])).1, [])
        else (lopR out (stsR fs s.body zR (own ++ [(s.name, ⟨fieldT, true, s.lo, s.hi⟩)])).1 (IntKind.i64.wrap (s.hi - s.lo)), own))
    else if (exR fs own s.ex).err ≠ 0 then (exR fs own s.ex, [])
    else if s.kind = 2 then (if (exR fs own s.ex).t ≠ boolT then (failR 6, []) else (outR out (exR fs own s.ex), own))
    else letR s.name s.typed s.ty (exR fs own s.ex) (outR out (exR fs own s.ex)) own := by
  cases s
  rw [stR]; rfl
def parsR : List Pa → Ns → Option Ns
  | [], s => some s
  | p :: r, s => match look p.name s with
    | some _ => none
    | none => parsR r (s ++ [(p.name, ⟨p.ty, false, 0, 0⟩)])
def hasF (nm : Nm) (fs : Fz) : Bool := fs.any fun p => decide (p.1.name = nm)
/-- An error, or 0; the functions, the bits. -/
def funR (fs : Fz) (f : Fu) (b : Int) : Int × Fz × Int :=
  if hasF f.name fs then (5, fs, b) else match parsR f.params [] with
  | none => (5, fs, b)
  | some s =>
    if (stsR fs f.body zR s).1.err ≠ 0 then ((stsR fs f.body zR s).1.err, fs, b)
    else if (exR fs (stsR fs f.body zR s).2 f.ret).err ≠ 0 then ((exR fs (stsR fs f.body zR s).2 f.ret).err, fs, b)
    else if FitM (exR fs (stsR fs f.body zR s).2 f.ret).t f.res = false then (6, fs, b)
    else (0, fs ++ [(f, capM (IntKind.i64.wrap ((stsR fs f.body zR s).1.steps + (exR fs (stsR fs f.body zR s).2 f.ret).steps)))], grM b (grM (stsR fs f.body zR s).1.bits (exR fs (stsR fs f.body zR s).2 f.ret).bits))
def funsR : List Fu → Fz → Int → Int × Fz × Int
  | [], fs, b => (0, fs, b)
  | f :: r, fs, b => if (funR fs f b).1 ≠ 0 then ((funR fs f b).1, fs, b) else funsR r (funR fs f b).2.1 (funR fs f b).2.2
/-- An error; bits; public; secret; steps. -/
structure Inf where
  err : Int
  bits : Int
  pub : Int
  sec : Int
  steps : Int
abbrev tInf (r : Inf) : List T := [.int .i64 r.err, .int .i64 r.bits, .int .i64 r.pub, .int .i64 r.sec, .int .i64 r.steps]
def badI (e : Int) : Inf := ⟨e, 0, 0, 0, 0⟩
def decI (d : De) (x : Inf) : Inf := ⟨x.err, grM x.bits (declM d.ty), if d.pub then IntKind.i64.wrap (x.pub + elM d.ty) else x.pub, if d.pub then x.sec else IntKind.i64.wrap (x.sec + elM d.ty), x.steps⟩
def desR : List De → Ns → Inf → Option (Ns × Inf)
  | [], ns, x => some (ns, x)
  | d :: r, ns, x => match look d.name ns with
    | some _ => none
    | none => desR r (ns ++ [(d.name, ⟨d.ty, false, 0, 0⟩)]) (decI d x)
def exmR (p : Pg) : Inf :=
  if rvP p ≠ 0 then badI 1
  else if (funsR p.funcs [] 0).1 ≠ 0 then badI (funsR p.funcs [] 0).1
  else match desR p.decls [] ⟨0, (funsR p.funcs [] 0).2.2, 0, 0, 0⟩ with
  | none => badI 5
  | some (ns, x) =>
    if (stsR (funsR p.funcs [] 0).2.1 p.body zR ns).1.err ≠ 0 then badI (stsR (funsR p.funcs [] 0).2.1 p.body zR ns).1.err
    else if (stsR (funsR p.funcs [] 0).2.1 p.body zR ns).1.steps > 20000 then badI 3
    else ⟨0, grM x.bits (stsR (funsR p.funcs [] 0).2.1 p.body zR ns).1.bits, x.pub, x.sec, (stsR (funsR p.funcs [] 0).2.1 p.body zR ns).1.steps⟩
end Go.Ky

/- KX 21: the checker and the reference agree upon expressions. -/
set_option linter.unusedSimpArgs false
namespace Go.Ky
open Go.Pi Go.Lx

theorem tf {α : Type} {a b : α} : (if (true = false) then a else b) = b := if_neg (by simp)
theorem ff {α : Type} {a b : α} : (if (false = false) then a else b) = a := if_pos rfl
theorem grM_eq (a b : Int) : grM a b = max a b := by unfold grM; split <;> omega
theorem mx_eq (a b : Int) : mx a b = max a b := by unfold mx; split <;> omega
theorem mn_eq (a b : Int) : mn a b = min a b := by unfold mn; split <;> omega
theorem capM_eq (n : Int) : capM n = min 20001 n := by unfold capM; split <;> omega
theorem i64_of {x : Int} (h : -9000000000000000000 ≤ x) (h2 : x ≤ 9000000000000000000) : IntKind.wrap .i64 x = x := IntWalk.i64_in _ (by omega)
theorem u64_mod (x : Int) : IntKind.wrap .u64 x = x % 18446744073709551616 := rfl

/-- A type that can come about. -/
structure Gt (t : Ty) : Prop where
  k : t.kind = 1 ∨ t.kind = 2 ∨ t.kind = 3
  b : t.kind = 2 → t.bits = 0
  b0 : 0 ≤ t.bits
  b1 : t.bits ≤ 62
  l0 : 0 ≤ t.len
  l1 : t.len ≤ 1100000
theorem gt_of {t : Ty} (h : tyB t = true) : Gt t := by
  unfold tyB at h
  split at h
  · cases h
  · split at h
    · have := of_decide_eq_true h
      exact ⟨by omega, fun _ => this, by omega, by omega, by omega, by omega⟩
    · split at h
      · simp only [Bool.and_eq_true, decide_eq_true_eq] at h
        exact ⟨by omega, fun _ => by omega, by omega, by omega, by omega, by omega⟩
      · cases h
theorem gt_field : Gt fieldT := ⟨.inl rfl, fun _ => rfl, by decide, by decide, by decide, by decide⟩
theorem gt_bool : Gt boolT := ⟨.inr (.inl rfl), fun _ => rfl, by decide, by decide, by decide, by decide⟩
theorem ty_ext {a b : Ty} (h1 : a.kind = b.kind) (h2 : a.bits = b.bits) (h3 : a.len = b.len) : a = b := by
  cases a; cases b; simp_all
theorem fit_eq {a b : Ty} (ha : Gt a) (hb : Gt b) : FitM a b = fitsB a b := by
  unfold FitM fitsB
  by_cases h : a = b
  · subst h
    simp
  · rw [if_neg h]
    by_cases hl : a.len = b.len
    · have hl' : ¬ (a.len ≠ b.len) := fun h => h hl
      rw [if_neg hl', if_neg hl']
      by_cases h1 : b.kind = 1
      · rw [if_pos h1, if_pos h1]
      · rw [if_neg h1, if_neg h1]
        by_cases h3 : b.kind = 3
        · rw [h3]; simp
        · have h2 : b.kind = 2 := by have := hb.k; omega
          rw [h2]
          by_cases a2 : a.kind = 2
          · exact absurd (ty_ext (a2.trans h2.symm) ((ha.b a2).trans (hb.b h2).symm) hl) h
          · simp [a2]
    · rw [if_pos hl, if_pos hl]
def SyG (s : Sy) : Prop := Gt s.typ ∧ (s.loop = true → 0 ≤ s.low ∧ s.low ≤ s.high ∧ s.high ≤ 1000000)
def NsG (ns : Ns) : Prop := ∀ p, p ∈ ns → SyG p.2
theorem look_mem {α : Type} {k : Nm} {x : α} : ∀ {l : List (Nm × α)}, look k l = some x → (k, x) ∈ l
  | [], h => by cases h
  | (j, y) :: r, h => by
    rw [look] at h
    by_cases hk : k = j
    · rw [if_pos hk] at h
      injection h with h
      simp [hk, h]
    · rw [if_neg hk] at h
      exact List.mem_cons_of_mem _ (look_mem h)
theorem NsG.look {ns : Ns} (h : NsG ns) {k : Nm} {s : Sy} (hl : Ky.look k ns = some s) : SyG s := h _ (look_mem hl)
theorem NsG.add {ns : Ns} (h : NsG ns) (k : Nm) {s : Sy} (hs : SyG s) : NsG (ns ++ [(k, s)]) := by
  intro p hp
  rcases List.mem_append.1 hp with e | e
  · exact h p e
  · rw [List.mem_singleton.1 e]; exact hs
/-- An expression that can be looked at. -/
structure EG (e : Exp) : Prop where
  b : exB e = true
  o : ExpOk e
  s : szE e ≤ B20
theorem EG.arg {e a : Exp} (h : EG e) (ha : a ∈ e.args) : EG a := by
  refine ⟨?_, ?_, ?_⟩
  · have := h.b
    rw [exB_eq, Bool.and_eq_true] at this
    exact List.all_eq_true.1 this.1 a ha
  · cases h.o with
    | mk _ _ _ _ _ _ h => exact h a ha
  · have h1 := h.s
    have h2 := szEs_mem ha
    rw [szE_eq] at h1
    omega
theorem EG.val {e : Exp} (h : EG e) : U64 e.val := by
  cases h.o with
  | mk _ _ h2 => exact h2
theorem EG.len {e : Exp} (h : EG e) : e.args.length ≤ B20 := by
  have h1 := h.s
  have h2 := szEs_len e.args
  rw [szE_eq] at h1
  omega
theorem EG.opB {e : Exp} (h : EG e) : Ky.opB e.op (e.args.length : Int) e.val e.name = true := by
  have := h.b
  rw [exB_eq, Bool.and_eq_true] at this
  exact this.2
theorem EG.none {e : Exp} (h : EG e) (ho : e.op = 1 ∨ e.op = 2 ∨ e.op = 3 ∨ e.op = 4) : e.args = [] := by
  have h2 := h.opB
  have hl : e.args.length = 0 := by
    unfold Ky.opB at h2
    rcases ho with ho | ho | ho | ho <;> rw [ho] at h2 <;> simp at h2
    · rw [h2.1]; rfl
    · rw [h2.1.1]; rfl
    · rw [h2.1.1]; rfl
    · rw [h2.1.1]; rfl
  exact List.length_eq_zero_iff.1 hl
theorem EG.some {e : Exp} (h : EG e) (ho : e.op = 7) : e.args ≠ [] := by
  have h2 := h.opB
  intro hn
  rw [hn, ho] at h2
  unfold Ky.opB at h2
  simp at h2

/-! ### Indexes -/
theorem idxS_eq {s : Sy} (hs : SyG s) {b sg L : Int} (hb : 0 ≤ b) (hb2 : b ≤ 18446744073709551615) (h0 : 0 ≤ L) (h1 : L ≤ 1100000) (hl : s.loop = true) (hlh : s.low ≠ s.high) :
    (sg = 1 → (idxS s b sg L = 0 ↔ (decide (b < IntKind.u64.wrap L) && decide (IntKind.u64.wrap (IntKind.u64.wrap (IntKind.i64.wrap (s.high - 1)) + b) < IntKind.u64.wrap L)) = true)) ∧
    (sg = -1 → (idxS s b sg L = 0 ↔ (decide (b ≤ IntKind.u64.wrap s.low) && decide (IntKind.u64.wrap (IntKind.u64.wrap (IntKind.i64.wrap (s.high - 1)) - b) < IntKind.u64.wrap L)) = true)) ∧
    (sg = 0 → b = 0 → (idxS s b sg L = 0 ↔ (decide (0 < IntKind.u64.wrap L) && decide (IntKind.u64.wrap (IntKind.u64.wrap (IntKind.i64.wrap (s.high - 1)) + 0) < IntKind.u64.wrap L)) = true)) := by
  obtain ⟨g1, g2, g3⟩ := hs.2 hl
  have e1 : IntKind.wrap .i64 (s.high - 1) = s.high - 1 := i64_of (by omega) (by omega)
  have e2 : IntKind.wrap .u64 L = L := by rw [u64_mod]; omega
  have e3 : IntKind.wrap .u64 (s.high - 1) = s.high - 1 := by rw [u64_mod]; omega
  have e4 : IntKind.wrap .u64 s.low = s.low := by rw [u64_mod]; omega
  unfold idxS
  rw [e1, e2, e3, e4, u64_mod, u64_mod, u64_mod, if_neg (by simp [hl]), if_neg (by omega)]
  simp only [Bool.and_eq_true, decide_eq_true_eq]
  by_cases hb7 : b > 10000000
  · rw [if_pos hb7]
    refine ⟨fun _ => ?_, fun _ => ?_, fun _ _ => ?_⟩ <;> (constructor <;> intro h <;> omega)
  · rw [if_neg hb7, show IntKind.wrap .i64 b = b from i64_of (by omega) (by omega)]
    refine ⟨fun hs => ?_, fun hs => ?_, fun hs hb0 => ?_⟩
    · rw [hs, show IntKind.wrap .i64 (1 * b) = b by rw [Int.one_mul]; exact i64_of (by omega) (by omega), show IntKind.wrap .i64 (s.low + b) = s.low + b from i64_of (by omega) (by omega), show IntKind.wrap .i64 (s.high - 1 + b) = s.high - 1 + b from i64_of (by omega) (by omega)]
      split <;> (constructor <;> intro h <;> omega)
    · rw [hs, show IntKind.wrap .i64 (-1 * b) = -b by rw [i64_of (by omega) (by omega)]; omega, show IntKind.wrap .i64 (s.low + -b) = s.low + -b from i64_of (by omega) (by omega), show IntKind.wrap .i64 (s.high - 1 + -b) = s.high - 1 + -b from i64_of (by omega) (by omega)]
      split <;> (constructor <;> intro h <;> omega)
    · rw [hs, hb0, show IntKind.wrap .i64 (0 * 0) = 0 from rfl, show IntKind.wrap .i64 (s.low + 0) = s.low + 0 from i64_of (by omega) (by omega), show IntKind.wrap .i64 (s.high - 1 + 0) = s.high - 1 + 0 from i64_of (by omega) (by omega)]
      split <;> (constructor <;> intro h <;> omega)
theorem idxS_loop {s : Sy} (hs : SyG s) {b sg L : Int} : (s.loop = false → idxS s b sg L = 6) ∧ (s.loop = true → s.low = s.high → idxS s b sg L = 0) := by
  unfold idxS
  refine ⟨fun h => by rw [if_pos h], fun h hl => ?_⟩
  obtain ⟨g1, g2, g3⟩ := hs.2 h
  rw [if_neg (by simp [h]), i64_of (by omega) (by omega), if_pos (by omega)]
theorem pos_eq {ns : Ns} (hn : NsG ns) {e : Exp} (he : EG e) {L : Int} (h0 : 0 ≤ L) (h1 : L ≤ 1100000) : idxR ns e L = 0 ↔ ((posM ns e L).2 = 0 ∧ (posM ns e L).1 = true) := by
  by_cases o1 : e.op = 1
  · unfold idxR posM
    rw [if_pos o1, if_pos o1]
    by_cases h : e.val < IntKind.u64.wrap L
    · rw [if_neg (by omega)]; simp [h]
    · rw [if_pos (by omega)]; simp [h]
  have two : ∀ (a b : Exp), e.args = [a, b] → (e.op = 12 ∨ e.op = 13) → (idxR ns e L = 0 ↔ ((posM ns e L).2 = 0 ∧ (posM ns e L).1 = true)) := by
    intro a b hab ho
    have hbv := (he.arg (a := b) (by simp [hab])).val
    by_cases hb : b.op = 1
    · by_cases ha : a.op = 2
      · have hR : idxR ns e L = idxN ns a.name b.val (if e.op = 13 then -1 else 1) L := by
          unfold idxR
          rw [if_neg o1, hab, if_pos ⟨ho, ha, hb⟩]; rfl
        rw [hR]
        unfold idxN posM
        cases hl : look a.name ns with
        | none => simp [o1, ho, hab, ha, hb, hl]
        | some s =>
          have hs := hn.look hl
          cases hlo : s.loop with
          | false => simp [o1, ho, hab, ha, hb, hl, hlo, (idxS_loop hs).1 hlo]
          | true =>
            by_cases hlh : s.low = s.high
            · have := (idxS_loop hs (b := b.val) (sg := if e.op = 13 then -1 else 1) (L := L)).2 hlo hlh
              simp [o1, ho, hab, ha, hb, hl, hlo, hlh, this]
            · have hq := idxS_eq hs hbv.1 hbv.2 h0 h1 hlo hlh (sg := if e.op = 13 then -1 else 1)
              by_cases o13 : e.op = 13
              · have hq := hq.2.1 (by rw [if_pos o13])
                simp only [o13, if_true] at hq
                simp [o13, hab, ha, hb, hl, hlo, hlh, hq]
              · have o12 : e.op = 12 := by omega
                have hq := hq.1 (by rw [if_neg o13])
                simp only [o12, Int.reduceEq, if_false] at hq
                simp [o12, hab, ha, hb, hl, hlo, hlh, hq]
      · have hR : idxR ns e L = 6 := by
          unfold idxR
          rw [if_neg o1, hab, if_neg (by simp [ha]), if_neg (by omega)]
        rw [hR]
        unfold posM
        simp [o1, ho, hab, ha, hb]
    · have hR : idxR ns e L = 6 := by
        unfold idxR
        rw [if_neg o1, hab, if_neg (by simp [hb]), if_neg (by omega)]
      rw [hR]
      unfold posM
      simp [o1, ho, hab, hb]
  by_cases ho : e.op = 12 ∨ e.op = 13
  · obtain ⟨a, b, hab⟩ := exB_two he.b (by omega)
    exact two a b hab ho
  by_cases o2 : e.op = 2
  · have hR : idxR ns e L = idxN ns e.name 0 0 L := by
      unfold idxR
      rw [if_neg o1, if_neg (by intro h; exact ho h.1), if_pos o2]
    rw [hR]
    unfold idxN posM
    cases hl : look e.name ns with
    | none => simp [o1, ho, o2, hl]
    | some s =>
      have hs := hn.look hl
      cases hlo : s.loop with
      | false => simp [o1, ho, o2, hl, hlo, (idxS_loop hs).1 hlo]
      | true =>
        by_cases hlh : s.low = s.high
        · have := (idxS_loop hs (b := 0) (sg := 0) (L := L)).2 hlo hlh
          simp [o1, ho, o2, hl, hlo, hlh, this]
        · have hq := (idxS_eq hs (b := 0) (by omega) (by omega) h0 h1 hlo hlh (sg := 0)).2.2 rfl rfl
          simp [o1, ho, o2, hl, hlo, hlh, hq]
  · have hR : idxR ns e L = 6 := by
      unfold idxR
      rw [if_neg o1, if_neg (by intro h; exact ho h.1), if_neg o2]
    rw [hR]
    unfold posM
    simp [o1, ho, o2]
theorem pos_form {ns : Ns} {e : Exp} {L : Int} (h : (posM ns e L).2 = 0) : e.op = 1 ∨ e.op = 2 ∨ ((e.op = 12 ∨ e.op = 13) ∧ (e.args.getD 0 default).op = 2 ∧ (e.args.getD 1 default).op = 1) := by
  by_cases o1 : e.op = 1
  · exact .inl o1
  by_cases ho : e.op = 12 ∨ e.op = 13
  · by_cases hb : (e.args.getD 1 default).op = 1
    · by_cases ha : (e.args.getD 0 default).op = 2
      · exact .inr (.inr ⟨ho, ha, hb⟩)
      · unfold posM at h
        simp [o1, ho] at h
        simp at ha hb
        simp [ha, hb] at h
    · unfold posM at h
      simp [o1, ho] at h
      simp at hb
      simp [hb] at h
  · by_cases o2 : e.op = 2
    · exact .inr (.inl o2)
    · unfold posM at h
      simp [o1, ho, o2] at h
theorem csE_none {ks : Ks} {e : Exp} (ho : e.op ≠ 5) (ha : e.args = []) : csE ks e = 0 := by
  rw [csE_eq, if_neg ho, ha]; rfl
theorem pos_cs {ns : Ns} {e : Exp} (he : EG e) {L : Int} (h : (posM ns e L).2 = 0) (ks : Ks) : csE ks e = 0 := by
  rcases pos_form h with o | o | ⟨o, p, q⟩
  · exact csE_none (by omega) (he.none (.inl o))
  · exact csE_none (by omega) (he.none (.inr (.inl o)))
  · obtain ⟨a, b, hab⟩ := exB_two he.b (by omega)
    rw [hab] at p q
    have p : a.op = 2 := p
    have q : b.op = 1 := q
    have ha := he.arg (a := a) (by simp [hab])
    have hb := he.arg (a := b) (by simp [hab])
    rw [csE_eq, if_neg (by omega), hab]
    simp only [csEs, csE_none (ks := ks) (show a.op ≠ 5 by omega) (ha.none (.inr (.inl p))), csE_none (ks := ks) (show b.op ≠ 5 by omega) (hb.none (.inl q))]
    rfl

/-! ### Operands -/
def bsL : List Rr → Int
  | [] => 0
  | r :: l => max r.bits (bsL l)
def skL : List Rr → Int
  | [] => 0
  | r :: l => r.steps + skL l
/-- A result that can come about. -/
structure RG (r : Rr) : Prop where
  e : r.err = 0
  t : Gt r.t
  b0 : 0 ≤ r.bits
  b1 : r.bits ≤ 63
  s0 : 0 ≤ r.steps
  s1 : r.steps ≤ 20001
def RsG (l : List Rr) : Prop := ∀ r, r ∈ l → RG r
theorem bsL_nn : ∀ l, 0 ≤ bsL l
  | [] => by rw [bsL]; omega
  | r :: l => by rw [bsL]; have := bsL_nn l; omega
theorem bsL_le : ∀ {l : List Rr}, RsG l → bsL l ≤ 63
  | [], _ => by rw [bsL]; omega
  | r :: l, h => by rw [bsL]; have := bsL_le (l := l) (fun x hx => h x (by simp [hx])); have := (h r (by simp)).b1; omega
theorem skL_nn : ∀ {l : List Rr}, RsG l → 0 ≤ skL l
  | [], _ => by rw [skL]; omega
  | r :: l, h => by rw [skL]; have := skL_nn (l := l) (fun x hx => h x (by simp [hx])); have := (h r (by simp)).s0; omega
theorem acL_go (f : Ty) : ∀ (l : List Rr) (a : Ac), RsG l → 0 ≤ a.steps → a.steps ≤ 20001 → 0 ≤ a.bits →
    (l.foldl (acS f) a).bits = max a.bits (bsL l) ∧ (l.foldl (acS f) a).steps = min 20001 (a.steps + skL l) ∧ (l.foldl (acS f) a).sc = (a.sc && l.all fun r => isSc r.t) ∧
    (l.foldl (acS f) a).bo = (a.bo && l.all fun r => decide (r.t = boolT)) ∧ (l.foldl (acS f) a).ui = (a.ui && l.all fun r => isSc r.t && decide (r.t.kind = 3)) ∧ (l.foldl (acS f) a).sa = (a.sa && l.all fun r => decide (r.t = f)) := by
  intro l
  induction l with
  | nil =>
    intro a _ h1 h2 h3
    simp only [List.foldl_nil, List.all_nil, Bool.and_true, bsL, skL]
    refine ⟨by omega, by omega, ?_, ?_, ?_, ?_⟩ <;> trivial
  | cons r l ih =>
    intro a hl h1 h2 h3
    have hr := hl r (by simp)
    have hr0 := hr.s0
    have hr1 := hr.s1
    have hb0 := hr.b0
    have hl' : RsG l := fun x hx => hl x (by simp [hx])
    have hs := skL_nn hl'
    have hw : capM (IntKind.i64.wrap (a.steps + r.steps)) = min 20001 (a.steps + r.steps) := by rw [i64_of (by omega) (by omega), capM_eq]
    have h := ih (acS f a r) hl' (by show 0 ≤ capM _; rw [hw]; omega) (by show capM _ ≤ 20001; rw [hw]; omega) (by show 0 ≤ grM _ _; rw [grM_eq]; omega)
    rw [List.foldl_cons]
    obtain ⟨g1, g2, g3, g4, g5, g6⟩ := h
    refine ⟨?_, ?_, ?_, ?_, ?_, ?_⟩
    · rw [g1, bsL]; show max (grM _ _) _ = _; rw [grM_eq]; omega
    · rw [g2, skL]; show min 20001 (capM _ + _) = _; rw [hw]; omega
    · rw [g3, List.all_cons]; show (a.sc && isSc r.t && _) = _; rw [Bool.and_assoc]
    · rw [g4, List.all_cons]; show (a.bo && _ && _) = _; rw [Bool.and_assoc]
    · rw [g5, List.all_cons]; show (a.ui && isSc r.t && _ && _) = _; simp only [Bool.and_assoc]
    · rw [g6, List.all_cons]; show (a.sa && _ && _) = _; rw [Bool.and_assoc]
theorem acL_eq {l : List Rr} (h : RsG l) : acL l = ⟨bsL l, min 20001 (skL l), l.all fun r => isSc r.t, l.all fun r => decide (r.t = boolT), l.all fun r => isSc r.t && decide (r.t.kind = 3), l.all fun r => decide (r.t = tyR l 0)⟩ := by
  obtain ⟨g1, g2, g3, g4, g5, g6⟩ := acL_go (tyR l 0) l ac0 h (by decide) (by decide) (by decide)
  have hb := bsL_nn l
  have e : acL l = ⟨(acL l).bits, (acL l).steps, (acL l).sc, (acL l).bo, (acL l).ui, (acL l).sa⟩ := rfl
  rw [e]
  unfold acL
  rw [g1, g2, g3, g4, g5, g6]
  simp only [ac0, Bool.true_and]
  congr 1
  · omega
  · omega
/-- The functions, seen in three ways. -/
structure Rel (fz : Fz) (fs : Fs) (ks : Ks) : Prop where
  fs : fs = fz.map fun p => (p.1.name, p.1)
  ks : ks = fz.map fun p => (p.1.name, p.2)
  ok : ∀ p, p ∈ fz → Gt p.1.res ∧ (∀ q, q ∈ p.1.params → Gt q.ty) ∧ 0 ≤ p.2 ∧ p.2 ≤ 20001
theorem fitAll_eq : ∀ {l : List Rr} {ps : List Pa}, RsG l → (∀ q, q ∈ ps → Gt q.ty) → callFit (l.map (·.t)) ps = fitAll l ps
  | [], _, _, _ => by simp [callFit, fitAll]
  | _ :: _, [], _, _ => by simp [callFit, fitAll]
  | r :: l, p :: ps, h, hp => by
    rw [List.map_cons, callFit, fitAll, fit_eq (h r (by simp)).t (hp p (by simp)), fitAll_eq (fun x hx => h x (by simp [hx])) (fun x hx => hp x (by simp [hx]))]
theorem call_find {nm : Nm} {l : List Rr} {a : Ac} : ∀ {fz : Fz},
    (look nm (fz.map fun p => (p.1.name, p.1)) = none ∧ callR nm l a fz = failR 4) ∨
    ∃ p, p ∈ fz ∧ look nm (fz.map fun p => (p.1.name, p.1)) = some p.1 ∧ look nm (fz.map fun p => (p.1.name, p.2)) = some p.2 ∧
      callR nm l a fz = if (l.length : Int) ≠ (p.1.params.length : Int) then failR 6 else if fitAll l p.1.params = false then failR 6 else ⟨p.1.res, a.bits, capM (IntKind.i64.wrap (IntKind.i64.wrap (a.steps + 1) + p.2)), 0⟩
  | [] => .inl ⟨rfl, rfl⟩
  | p :: r => by
    by_cases h : p.1.name = nm
    · refine .inr ⟨p, by simp, ?_, ?_, ?_⟩
      · rw [List.map_cons, look, if_pos h.symm]
      · rw [List.map_cons, look, if_pos h.symm]
      · rw [callR, if_neg (by simpa using h)]
    · rw [List.map_cons, look, if_neg (fun e => h e.symm), List.map_cons, look, if_neg (fun e => h e.symm), callR, if_pos h]
      rcases call_find (nm := nm) (l := l) (a := a) (fz := r) with g | ⟨q, g1, g2⟩
      · exact .inl g
      · exact .inr ⟨q, by simp [g1], g2⟩
/-- What the two say of an expression. -/
structure Sim (m : Rt × Int) (r : Rr) (w cs : Int) : Prop where
  err : m.1.2 = 0 ↔ r.err = 0
  val : r.err = 0 → m.1.1 = r.t ∧ m.2 = max w r.bits ∧ r.steps = cs ∧ RG r
theorem Sim.bad {t : Ty} {e w' w cs : Int} {r : Rr} (h : e ≠ 0) (h2 : r.err ≠ 0) : Sim ((t, e), w') r w cs := ⟨⟨fun x => absurd x h, fun x => absurd x h2⟩, fun x => absurd x h2⟩
theorem Sim.ok {t : Ty} {w' w cs b s : Int} (hw : w' = max w b) (hs : s = cs) (ht : Gt t) (hb : 0 ≤ b) (h0 : 0 ≤ s) (h1 : s ≤ 20001) (hb1 : b ≤ 63) : Sim ((t, 0), w') ⟨t, b, s, 0⟩ w cs :=
  ⟨⟨fun _ => rfl, fun _ => rfl⟩, fun _ => ⟨rfl, hw, hs, rfl, ht, hb, hb1, h0, h1⟩⟩
theorem num_eq {n : Int} (h0 : 0 ≤ n) (h1 : n < 4611686018427387904) : numT n = ⟨3, ((1 + n.toNat.log2 : Nat) : Int), 0⟩ := by
  unfold numT lenZ
  rw [if_neg (by omega)]
  by_cases hz : n = 0
  · subst hz; rfl
  · rw [if_neg hz]
    by_cases h : ((n.toNat.log2 : Nat) : Int) + 1 > 1
    · rw [if_pos h]; congr 1; omega
    · rw [if_neg h]; congr 1; omega
theorem num_gt {n : Int} (h0 : 0 ≤ n) (h1 : n < 4611686018427387904) : Gt ⟨3, ((1 + n.toNat.log2 : Nat) : Int), 0⟩ := by
  have : n.toNat.log2 < 62 := by
    by_cases hz : n.toNat = 0
    · rw [hz]; decide
    · exact (Nat.log2_lt hz).2 (by omega)
  exact ⟨.inr (.inr rfl), fun h => by simp at h, by simp only; omega, by simp only; omega, by simp, by simp⟩
theorem allM_sim {p : Ty → Bool} {l : List Rr} {t : Ty} {w cs b s : Int} {P : Bool} (hp : ((l.map (·.t)).all p) = P) (ht : Gt t) (hb : 0 ≤ b) (h0 : 0 ≤ s) (h1 : s ≤ 20001) (hs : s = cs) (hb1 : b ≤ 63) {R : Rr} (hR : R = if P = false then failR 6 else ⟨t, b, s, 0⟩) : Sim (allM p (l.map (·.t)) t, max w b) R w cs := by
  subst hR
  unfold allM
  rw [hp]
  cases P with
  | false => exact Sim.bad (by decide) (by rw [if_pos rfl]; decide)
  | true => rw [if_pos rfl, if_neg (by simp)]; exact Sim.ok rfl hs ht hb h0 h1 hb1
theorem listGo_eq (a : Ty) : ∀ (l : List Ty) (r : Ty), listGo a l r = if l.all isSc = false then none else some (if l.all (fun t => decide (t = a)) then r else fieldT)
  | [], r => by simp [listGo]
  | t :: l, r => by
    rw [listGo]
    by_cases h : t.len = 0
    · rw [if_neg (by simpa using h)]
      by_cases h2 : t = a
      · rw [if_neg (by simpa using h2), listGo_eq a l r]; simp [h, h2, isSc]
        subst h2; simp [h]
      · rw [if_pos h2, listGo_eq a l fieldT]; simp [h, h2, isSc]
    · rw [if_pos h]; simp [h, isSc]
theorem all_map {p : Ty → Bool} {l : List Rr} : (l.map (·.t)).all p = l.all fun r => p r.t := by rw [List.all_map]; rfl
theorem getD_map {l : List Rr} {i : Nat} : (l.map (·.t)).getD i zTy = tyR l i := by
  unfold tyR
  rw [List.getD_eq_getElem?_getD, List.getElem?_map, List.getD_eq_getElem?_getD]
  cases l[i]? <;> rfl
theorem op_sim {fz : Fz} {fs : Fs} {ks : Ks} (hR : Rel fz fs ks) (ns : Ns) {e : Exp} (he : EG e) {l : List Rr} (hl : RsG l) (hlen : l.length = e.args.length) {w : Int} (h1 : e.op ≠ 1) (h2 : e.op ≠ 2) (h34 : ¬ (e.op = 3 ∨ e.op = 4)) (_ : e.op ≠ 8)
    (hcs : csE ks e = min 20001 ((if e.op = 5 then 1 + lookI e.name ks else 0) + skL l)) :
    Sim (opM fs ns e.op e.val e.name (l.map (·.t)) (max w (bsL l))) (opR fz e.op e.val e.name l (acL l)) w (csE ks e) := by
  have hb := bsL_nn l
  have hst := skL_nn hl
  have hb63 := bsL_le hl
  have hA := acL_eq hl
  unfold opM opR
  rw [if_neg h1, if_neg h34, if_neg h2]
  by_cases o5 : e.op = 5
  · rw [if_pos o5, if_pos o5]
    unfold callM
    rw [hR.fs]
    rcases call_find (nm := e.name) (l := l) (a := acL l) (fz := fz) with ⟨g1, g2⟩ | ⟨p, gm, g1, g2, g3⟩
    · rw [g1, g2]
      exact Sim.bad (by decide) (by decide)
    · rw [g1, g3]
      obtain ⟨p1, p2, p3, p4⟩ := hR.ok p gm
      simp only [List.length_map]
      by_cases hn : (l.length : Int) ≠ (p.1.params.length : Int)
      · rw [if_pos hn, if_pos hn]
        exact Sim.bad (by decide) (by decide)
      · rw [if_neg hn, if_neg hn, fitAll_eq hl p2]
        cases hf : fitAll l p.1.params with
        | false => exact Sim.bad (by decide) (by rw [if_pos rfl]; decide)
        | true =>
          rw [if_pos rfl, if_neg (by simp), hA]
          have hk : lookI e.name ks = p.2 := by unfold lookI; rw [hR.ks, g2]; rfl
          rw [if_pos o5, hk] at hcs
          simp only
          rw [show IntKind.wrap .i64 (min 20001 (skL l) + 1) = min 20001 (skL l) + 1 from i64_of (by omega) (by omega), i64_of (by omega) (by omega), capM_eq]
          exact Sim.ok rfl (by rw [hcs]; omega) p1 hb (by omega) (by omega) hb63
  rw [if_neg o5] at hcs
  have hcs' : min 20001 (skL l) = csE ks e := by rw [hcs]; omega
  rw [if_neg o5, if_neg o5]
  have hsc : ((l.map (·.t)).all isSc) = (acL l).sc := by rw [hA, all_map]
  have hbo : ((l.map (·.t)).all isBo) = (acL l).bo := by rw [hA, all_map]; rfl
  have hbits : (acL l).bits = bsL l := by rw [hA]
  have hsteps : (acL l).steps = min 20001 (skL l) := by rw [hA]
  have all1 : ∀ t, Gt t → Sim (allM isSc (l.map (·.t)) t, max w (bsL l)) (scR (acL l) ⟨t, (acL l).bits, (acL l).steps, 0⟩) w (csE ks e) := fun t ht =>
    allM_sim hsc ht (by omega) (by omega) (by omega) hcs' (by omega) (by unfold scR; rw [hbits, hsteps])
  by_cases o6 : e.op = 6
  · rw [if_pos o6, if_pos o6]
    by_cases hv : e.val ≥ 65536
    · rw [if_pos hv, if_pos hv]
      exact Sim.bad (by decide) (by decide)
    · rw [if_neg hv, if_neg (show ¬ 65536 ≤ e.val from hv)]
      exact all1 _ gt_field
  rw [if_neg o6, if_neg o6]
  by_cases o7 : e.op = 7
  · rw [if_pos o7, if_pos o7]
    have hne : l ≠ [] := by
      intro hn
      rw [hn] at hlen
      exact he.some o7 (List.length_eq_zero_iff.1 hlen.symm)
    obtain ⟨r0, l', hl0⟩ : ∃ r l', l = r :: l' := by
      cases l with
      | nil => exact absurd rfl hne
      | cons r l' => exact ⟨r, l', rfl⟩
    have hM : listM (l.map (·.t)) = if (acL l).sc = false then Ky.bad 6 else (⟨(if (acL l).sa then tyR l 0 else fieldT).kind, (if (acL l).sa then tyR l 0 else fieldT).bits, (l.length : Int)⟩, 0) := by
      rw [← hsc]
      have hsa : (acL l).sa = (l.map (·.t)).all fun t => decide (t = tyR l 0) := by rw [hA, all_map]
      rw [hsa]
      have ht0 : tyR l 0 = r0.t := by rw [hl0]; rfl
      rw [ht0]
      have : l.map (·.t) = r0.t :: l'.map (·.t) := by rw [hl0]; rfl
      unfold listM
      rw [this]
      simp only
      rw [← this, listGo_eq]
      cases (l.map (·.t)).all isSc with
      | false => rfl
      | true => simp only [Bool.true_eq_false, if_false, List.length_map]
    rw [hM]
    unfold scR
    cases hs : (acL l).sc with
    | false => rw [ff, ff]; exact Sim.bad (by decide) (by decide)
    | true =>
      rw [tf, tf]
      have hgt : Gt (if (acL l).sa then tyR l 0 else fieldT) := by
        split
        · have : tyR l 0 = r0.t := by rw [hl0]; rfl
          rw [this]; exact (hl r0 (by simp [hl0])).t
        · exact gt_field
      have := he.len
      have hb20 : B20 = 1100000 := rfl
      exact Sim.ok (by rw [hbits]) (by rw [hsteps]; exact hcs') ⟨hgt.k, hgt.b, hgt.b0, hgt.b1, by simp only; omega, by simp only; omega⟩ (by omega) (by omega) (by omega) (by omega)
  rw [if_neg o7, if_neg o7]
  by_cases o20 : e.op = 20
  · obtain ⟨x, y, z, hxyz⟩ := exB_three he.b o20
    have hl3 : ∃ a b c, l = [a, b, c] := by
      rw [hxyz] at hlen
      match l, hlen with
      | [a, b, c], _ => exact ⟨a, b, c, rfl⟩
    obtain ⟨a, b, c, hl3⟩ := hl3
    rw [if_pos o20, if_neg (by omega), if_neg (by omega), if_neg (by omega), if_pos o20, getD_map, getD_map, getD_map]
    have ta : tyR l 0 = a.t := by rw [hl3]; rfl
    have tb : tyR l 1 = b.t := by rw [hl3]; rfl
    have tc : tyR l 2 = c.t := by rw [hl3]; rfl
    rw [ta, tb, tc]
    unfold choiceM isBo
    by_cases hbo : a.t = boolT
    · rw [decide_eq_true hbo, tf, if_neg (show ¬ (a.t ≠ boolT) from fun h => h hbo)]
      by_cases hbc : b.t = c.t
      · rw [if_pos hbc, if_pos hbc]
        exact Sim.ok (by rw [hbits]) (by rw [hsteps]; exact hcs') (hl b (by simp [hl3])).t (by omega) (by omega) (by omega) (by omega)
      · rw [if_neg hbc, if_neg hbc]
        have hsc3 : (acL l).sc = (isSc b.t && isSc c.t) := by rw [hA, hl3]; simp [hbo, isSc, boolT]
        unfold scR
        rw [← hsc3]
        cases hs : (acL l).sc with
        | false => rw [ff]; exact Sim.bad (by decide) (by decide)
        | true =>
          rw [tf, if_pos rfl]
          exact Sim.ok (by rw [hbits]) (by rw [hsteps]; exact hcs') gt_field (by omega) (by omega) (by omega) (by omega)
    · rw [decide_eq_false hbo, ff, if_pos hbo]
      exact Sim.bad (by decide) (by decide)
  rw [if_neg o20]
  by_cases o14 : e.op = 14 ∨ e.op = 15
  · rw [if_pos o14, if_pos o14]
    exact all1 _ gt_bool
  rw [if_neg o14, if_neg o14]
  by_cases o16 : e.op = 16 ∨ e.op = 17
  · obtain ⟨x, y, hxy⟩ := exB_two he.b (by omega)
    have hl2 : ∃ a b, l = [a, b] := by
      rw [hxy] at hlen
      match l, hlen with
      | [a, b], _ => exact ⟨a, b, rfl⟩
    obtain ⟨a, b, hl2⟩ := hl2
    rw [if_pos o16, if_pos o16, getD_map, getD_map]
    have ta : tyR l 0 = a.t := by rw [hl2]; rfl
    have tb : tyR l 1 = b.t := by rw [hl2]; rfl
    rw [ta, tb]
    have hui : (acL l).ui = (isSc a.t && decide (a.t.kind = 3) && (isSc b.t && decide (b.t.kind = 3))) := by rw [hA, hl2]; simp
    have ga := (hl a (by simp [hl2])).t
    have gb := (hl b (by simp [hl2])).t
    have ga1 := ga.b1
    have ga0 := ga.b0
    have gb1 := gb.b1
    have gb0 := gb.b0
    unfold compM
    rw [hui]
    by_cases hc : a.t.kind ≠ 3 ∨ b.t.kind ≠ 3 ∨ a.t.len ≠ 0 ∨ b.t.len ≠ 0
    · rw [if_pos hc, if_pos]
      · exact Sim.bad (by decide) (by decide)
      · unfold isSc
        rcases hc with h | h | h | h <;> simp [h]
    · have hc' : a.t.kind = 3 ∧ b.t.kind = 3 ∧ a.t.len = 0 ∧ b.t.len = 0 := by omega
      obtain ⟨c1, c2, c3, c4⟩ := hc'
      rw [if_neg hc, if_neg (by unfold isSc; simp [c1, c2, c3, c4])]
      have hs : (acL l).sc = true := by rw [hA, hl2]; simp [isSc, c3, c4]
      unfold scR
      rw [hs, if_neg (by simp), hbits, hsteps, mx_eq, mx_eq, grM_eq, grM_eq, i64_of (by omega) (by omega)]
      exact Sim.ok (by omega) hcs' gt_bool (by omega) (by omega) (by omega) (by omega)
  rw [if_neg o16, if_neg o16]
  by_cases o10 : e.op = 10 ∨ e.op = 18 ∨ e.op = 19
  · rw [if_pos o10, if_pos o10]
    refine allM_sim hbo gt_bool (b := bsL l) (s := min 20001 (skL l)) (by omega) (by omega) (by omega) hcs' (by omega) ?_
    cases hs : (acL l).bo with
    | false => rfl
    | true =>
      rw [if_neg (by simp), if_neg (by simp)]
      unfold scR
      have : (acL l).sc = true := by
        rw [hA] at hs ⊢
        simp only [List.all_eq_true, decide_eq_true_eq] at hs ⊢
        intro r hr
        rw [hs r hr]; rfl
      rw [this, if_neg (by simp), hbits, hsteps]
  · rw [if_neg o10, if_neg o10, if_neg o20]
    exact all1 _ gt_field
theorem lookI_nn {fz : Fz} {fs : Fs} {ks : Ks} (hR : Rel fz fs ks) (nm : Nm) : 0 ≤ lookI nm ks := by
  unfold lookI
  cases h : look nm ks with
  | none => exact Int.le_refl _
  | some n =>
    have := look_mem h
    rw [hR.ks] at this
    obtain ⟨p, hp, he⟩ := List.mem_map.1 this
    have := (hR.ok p hp).2.2.1
    have e2 : p.2 = n := congrArg Prod.snd he
    show 0 ≤ n
    omega
theorem ops_sim {fz : Fz} {fs : Fs} {ks : Ks} {ns : Ns} : ∀ (l : List Exp), (∀ a, a ∈ l → ∀ w, 0 ≤ w → Sim (exM fs ns a w) (exR fz ns a) w (csE ks a)) → ∀ w n : Int, 0 ≤ n → 0 ≤ w →
    ((exsM fs ns l w).1.2 = 0 ↔ (opsR fz ns l).2 = 0) ∧ ((opsR fz ns l).2 = 0 → (exsM fs ns l w).1.1 = (opsR fz ns l).1.map (·.t) ∧ (exsM fs ns l w).2 = max w (bsL (opsR fz ns l).1) ∧
      min 20001 (csEs ks l n) = min 20001 (n + skL (opsR fz ns l).1) ∧ RsG (opsR fz ns l).1 ∧ (opsR fz ns l).1.length = l.length) := by
  intro l
  induction l with
  | nil =>
    intro _ w n hn hw
    simp only [exsM, opsR, csEs, List.map_nil, bsL, skL, true_and, List.length_nil]
    refine fun _ => ⟨by omega, by omega, ?_, trivial⟩
    intro r hr; cases hr
  | cons a r ih =>
    intro h w n hn hw
    have ha := h a (by simp) w hw
    rw [exsM_cons, opsR_cons]
    by_cases hae : (exR fz ns a).err = 0
    · obtain ⟨v1, v2, v3, v4⟩ := ha.val hae
      have g0 := v4.s0
      have hb0 := v4.b0
      have g := ih (fun x hx => h x (by simp [hx])) (exM fs ns a w).2 (mn 20001 (n + csE ks a)) (by rw [mn_eq, ← v3]; omega) (by rw [v2]; omega)
      obtain ⟨g1, g2⟩ := g
      rw [if_neg (show ¬ ((exM fs ns a w).1.2 ≠ 0) from fun h => h (ha.err.2 hae)), if_neg (show ¬ ((exR fz ns a).err ≠ 0) from fun h => h hae)]
      by_cases hre : (opsR fz ns r).2 = 0
      · obtain ⟨q1, q2, q3, q4, q5⟩ := g2 hre
        have hq0 := skL_nn q4
        rw [if_neg (show ¬ ((exsM fs ns r (exM fs ns a w).2).1.2 ≠ 0) from fun h => h (g1.2 hre)), if_neg (show ¬ ((opsR fz ns r).2 ≠ 0) from fun h => h hre)]
        refine ⟨by simp, fun _ => ⟨by simp [v1, q1], ?_, ?_, ?_, by simp [q5]⟩⟩
        · rw [bsL]; rw [q2, v2]; omega
        · rw [skL, csEs, q3, mn_eq, ← v3]; omega
        · intro x hx
          rcases List.mem_cons.1 hx with e | e
          · subst e; exact v4
          · exact q4 x e
      · rw [if_pos (show (exsM fs ns r (exM fs ns a w).2).1.2 ≠ 0 from fun e => hre (g1.1 e)), if_pos hre]
        refine ⟨⟨fun e => absurd (g1.1 e) hre, fun e => absurd e hre⟩, fun e => absurd e hre⟩
    · rw [if_pos (show (exM fs ns a w).1.2 ≠ 0 from fun e => hae (ha.err.1 e)), if_pos hae]
      exact ⟨⟨fun e => absurd (ha.err.1 e) hae, fun e => absurd e hae⟩, fun e => absurd e hae⟩
theorem ex_sim {fz : Fz} {fs : Fs} {ks : Ks} (hR : Rel fz fs ks) {ns : Ns} (hn : NsG ns) : ∀ e, EG e → ∀ w : Int, 0 ≤ w → Sim (exM fs ns e w) (exR fz ns e) w (csE ks e) := by
  refine Exp.ind fun e ih he w hw => ?_
  rw [exM_eq, exR_eq]
  have hv := he.val
  by_cases o8 : e.op = 8
  · obtain ⟨a, b, hab⟩ := exB_two he.b (.inl o8)
    rw [if_pos o8, if_neg (by omega), if_neg (by omega), if_neg (by omega), if_pos o8, hab]
    simp only
    have ha := ih a (by simp [hab]) (he.arg (by simp [hab])) w hw
    have hb := he.arg (a := b) (by simp [hab])
    unfold idxM ixR
    by_cases hae : (exR fz ns a).err = 0
    · obtain ⟨v1, v2, v3, v4⟩ := ha.val hae
      have gl0 := v4.t.l0
      have gl1 := v4.t.l1
      rw [if_neg (show ¬ ((exM fs ns a w).1.2 ≠ 0) from fun h => h (ha.err.2 hae)), if_neg (show ¬ ((exR fz ns a).err ≠ 0) from fun h => h hae)]
      simp only
      rw [v1]
      by_cases hl : (exR fz ns a).t.len = 0
      · rw [if_pos hl, if_pos hl]
        have hRe : (if idxR ns b 1 = 4 then failR 4 else failR 6).err ≠ 0 := by split <;> decide
        split
        · rename_i hq
          exact Sim.bad hq hRe
        · exact Sim.bad (by decide) hRe
      · rw [if_neg hl, if_neg hl]
        have hp := pos_eq hn hb gl0 gl1
        by_cases hx : idxR ns b (exR fz ns a).t.len = 0
        · obtain ⟨p1, p2⟩ := hp.1 hx
          rw [if_neg (show ¬ ((posM ns b (exR fz ns a).t.len).2 ≠ 0) from fun h => h p1), p2, tf, if_neg (show ¬ (idxR ns b (exR fz ns a).t.len ≠ 0) from fun h => h hx)]
          have g := v4.t
          have s0 := v4.s0
          have s1 := v4.s1
          have hcs : csE ks e = (exR fz ns a).steps := by
            rw [csE_eq, if_neg (by omega), hab]
            simp only [csEs]
            rw [pos_cs hb p1, mn_eq, mn_eq, mn_eq, ← v3]
            omega
          rw [hae]
          exact Sim.ok v2 hcs.symm ⟨g.k, g.b, g.b0, g.b1, by simp, by simp⟩ v4.b0 s0 s1 v4.b1
        · rw [if_pos hx]
          have hRe : (failR (idxR ns b (exR fz ns a).t.len)).err ≠ 0 := hx
          split
          · rename_i hq
            exact Sim.bad hq hRe
          · rename_i hq
            rw [if_pos]
            · exact Sim.bad (by decide) hRe
            · cases hz : (posM ns b (exR fz ns a).t.len).1 with
              | false => rfl
              | true => exact absurd (hp.2 ⟨by simpa using hq, hz⟩) hx
    · rw [if_pos (show (exM fs ns a w).1.2 ≠ 0 from fun h => hae (ha.err.1 h)), if_pos hae]
      exact Sim.bad (fun h => hae (ha.err.1 h)) hae
  rw [if_neg o8]
  have none' : (e.op = 1 ∨ e.op = 2 ∨ e.op = 3 ∨ e.op = 4) → exsM fs ns e.args w = (([], 0), w) ∧ csE ks e = 0 := fun ho => by
    have := he.none ho
    exact ⟨by rw [this, exsM], csE_none (by omega) this⟩
  by_cases o1 : e.op = 1
  · obtain ⟨n1, n2⟩ := none' (.inl o1)
    rw [n1, n2, if_pos o1]
    simp only
    unfold opM
    rw [if_neg (by simp), if_pos o1]
    by_cases h62 : e.val ≥ 4611686018427387904
    · rw [if_pos h62]
      unfold numT okR
      rw [if_pos h62]
      exact Sim.ok (by omega) rfl gt_field (by omega) (by omega) (by omega) (by omega)
    · rw [if_neg h62, num_eq hv.1 (by omega)]
      exact Sim.ok (by omega) rfl (num_gt hv.1 (by omega)) (by omega) (by omega) (by omega) (by omega)
  rw [if_neg o1]
  by_cases o3 : e.op = 3 ∨ e.op = 4
  · obtain ⟨n1, n2⟩ := none' (by omega)
    rw [n1, n2, if_pos o3]
    simp only
    unfold opM
    rw [if_neg (by simp), if_neg o1, if_pos o3]
    exact Sim.ok (by omega) rfl gt_bool (by omega) (by omega) (by omega) (by omega)
  rw [if_neg o3]
  by_cases o2 : e.op = 2
  · obtain ⟨n1, n2⟩ := none' (by omega)
    rw [n1, n2, if_pos o2]
    simp only
    unfold opM
    rw [if_neg (by simp), if_neg o1, if_neg o3, if_pos o2]
    cases hl : look e.name ns with
    | none => exact Sim.bad (by decide) (by decide)
    | some s => exact Sim.ok (by omega) rfl (hn.look hl).1 (by omega) (by omega) (by omega) (by omega)
  rw [if_neg o2, if_neg o8]
  simp only
  have hk := lookI_nn hR e.name
  obtain ⟨g1, g2⟩ := ops_sim (fz := fz) (fs := fs) (ks := ks) (ns := ns) e.args (fun a ha w' hw' => ih a ha (he.arg ha) w' hw') w (if e.op = 5 then 1 + lookI e.name ks else 0) (by split <;> omega) hw
  by_cases hq : (opsR fz ns e.args).2 = 0
  · obtain ⟨q1, q2, q3, q4, q5⟩ := g2 hq
    rw [if_neg (show ¬ ((exsM fs ns e.args w).1.2 ≠ 0) from fun h => h (g1.2 hq)), if_neg (show ¬ ((opsR fz ns e.args).2 ≠ 0) from fun h => h hq), q1, q2]
    exact op_sim hR ns he q4 q5 o1 o2 o3 o8 (by rw [csE_eq, mn_eq, q3])
  · rw [if_pos (show (exsM fs ns e.args w).1.2 ≠ 0 from fun h => hq (g1.1 h)), if_pos hq]
    exact Sim.bad (fun h => hq (g1.1 h)) hq
end Go.Ky

/- KX 22: the checker and the reference agree upon statements. -/
set_option linter.unusedSimpArgs false
namespace Go.Ky
open Go.Pi Go.Lx

/-- A statement that can be looked at. -/
structure SG (s : St) : Prop where
  b : stB s = true
  o : StOk s
  s : szS s ≤ B20
theorem SG.ex {s : St} (h : SG s) (h3 : s.kind ≠ 3) : EG s.ex := by
  refine ⟨stB_ex h.b h3, ?_, Nat.le_trans (szS_ex s) h.s⟩
  cases h.o with
  | mk _ _ _ _ h4 => exact h4
theorem SG.sub {s a : St} (h : SG s) (h3 : s.kind = 3) (ha : a ∈ s.body) : SG a := by
  refine ⟨?_, ?_, ?_⟩
  · have := h.b
    rw [stB_eq, if_neg (by omega), if_neg (by omega), if_pos h3, Bool.and_eq_true] at this
    exact List.all_eq_true.1 this.2 a ha
  · cases h.o with
    | mk _ _ _ _ _ _ _ _ _ h => exact h a ha
  · have h1 := h.s
    have h2 := szSs_mem ha
    rw [szS_eq] at h1
    omega
theorem SG.ty {s : St} (h : SG s) (h3 : s.kind ≠ 3) (h2 : s.kind ≠ 2) (ht : s.typed = true) : Gt s.ty := by
  have := h.b
  rw [stB_eq] at this
  split at this
  · simp only [Bool.and_eq_true, ht] at this
    refine gt_of ?_
    cases hb : tyB s.ty with
    | true => rfl
    | false => simp [hb] at this
  · cases this
theorem SG.rng {s : St} (h : SG s) (h3 : s.kind = 3) : 0 ≤ s.lo ∧ s.lo ≤ 1000000 ∧ 0 ≤ s.hi ∧ s.hi ≤ 1000000 := by
  have := h.b
  rw [stB_eq, if_neg (by omega), if_neg (by omega), if_pos h3] at this
  simp only [Bool.and_eq_true, loopN, decide_eq_true_eq] at this
  omega
structure OG (r : Rr) : Prop where
  e : r.err = 0
  b0 : 0 ≤ r.bits
  b1 : r.bits ≤ 63
  s0 : 0 ≤ r.steps
  s1 : r.steps ≤ 20001
theorem og_z : OG zR := ⟨rfl, by decide, by decide, by decide, by decide⟩
/-- What the two say of a statement. -/
structure SimS (m : Rs) (q : Rr × Ns) (w0 cs : Int) : Prop where
  err : m.1 = 0 ↔ q.1.err = 0
  val : q.1.err = 0 → m.2.1 = q.2 ∧ m.2.2 = max w0 q.1.bits ∧ q.1.steps = cs ∧ NsG q.2 ∧ OG q.1
theorem SimS.bad {m : Rs} {q : Rr × Ns} {w0 cs : Int} (h : m.1 ≠ 0) (h2 : q.1.err ≠ 0) : SimS m q w0 cs := ⟨⟨fun x => absurd x h, fun x => absurd x h2⟩, fun x => absurd x h2⟩
theorem SimS.ok {ns : Ns} {w w0 cs : Int} {r : Rr} (hw : w = max w0 r.bits) (hs : r.steps = cs) (hn : NsG ns) (ho : OG r) : SimS (0, ns, w) (r, ns) w0 cs :=
  ⟨⟨fun _ => ho.e, fun _ => rfl⟩, fun _ => ⟨rfl, hw, hs, hn, ho⟩⟩
theorem note_eq {w : Int} (t : Ty) (h : 0 ≤ w) : noteM t w = max w (declM t) := by
  unfold noteM declM
  split
  · rw [mx_eq]
  · omega
theorem add_sim {nm : Nm} {s : Sy} {ns : Ns} {w w0 cs : Int} {out : Rr} (hn : NsG ns) (hs : SyG s) (ho : OG out) (hw : w = max w0 out.bits) (hc : out.steps = cs) : SimS (decM nm s ns w) (addR nm s out ns) w0 cs := by
  unfold decM addR
  cases look nm ns with
  | some x => exact SimS.bad (show (5 : Int) ≠ 0 by decide) (show (5 : Int) ≠ 0 by decide)
  | none => exact SimS.ok hw hc (hn.add nm hs) ho
theorem out_og {out r : Rr} (ho : OG out) (hr : RG r) : OG (outR out r) ∧ (outR out r).bits = max out.bits r.bits ∧ (outR out r).steps = min 20001 (out.steps + 1 + r.steps) := by
  have h1 := ho.b0
  have h2 := ho.s0
  have h3 := ho.s1
  have h4 := hr.b0
  have h5 := hr.s0
  have h6 := hr.s1
  have h7 := ho.b1
  have h8 := hr.b1
  have e1 : (outR out r).bits = max out.bits r.bits := grM_eq _ _
  have e2 : (outR out r).steps = min 20001 (out.steps + 1 + r.steps) := by
    show capM _ = _
    rw [show IntKind.wrap .i64 (out.steps + 1) = out.steps + 1 from i64_of (by omega) (by omega), i64_of (by omega) (by omega), capM_eq]
  exact ⟨⟨ho.e, by omega, by omega, by omega, by omega⟩, e1, e2⟩
theorem times_eq {d s o : Int} (h0 : 0 ≤ d) (h1 : d ≤ 1000000) (h2 : 0 ≤ s) (h3 : s ≤ 20001) (h4 : 0 ≤ o) (h5 : o ≤ 20001) : capM (IntKind.i64.wrap (o + timesM d s)) = min (o + d * s) 20001 := by
  have hm := mul_range h0 h1 h2 h3
  by_cases hd : d = 0
  · subst hd
    rw [show timesM 0 s = 0 by unfold timesM; rw [if_pos (.inl rfl)], i64_of (by omega) (by omega), capM_eq]; omega
  by_cases hs : s = 0
  · subst hs
    rw [show timesM d 0 = 0 by unfold timesM; rw [if_pos (.inr rfl)], i64_of (by omega) (by omega), capM_eq]; omega
  have hge : d ≤ d * s := by
    have := Int.mul_le_mul_of_nonneg_left (show (1 : Int) ≤ s by omega) h0
    omega
  unfold timesM
  rw [if_neg (by omega)]
  by_cases hb : d > 20000
  · rw [if_pos hb, i64_of (by omega) (by omega), capM_eq]; omega
  · rw [if_neg hb, show IntKind.wrap .i64 (d * s) = d * s from i64_of (by omega) (by omega), capM_eq (d * s), i64_of (by omega) (by omega), capM_eq]; omega
theorem lop_og {out r : Rr} {d : Int} (ho : OG out) (hr : OG r) (h0 : 0 ≤ d) (h1 : d ≤ 1000000) : OG (lopR out r d) ∧ (lopR out r d).bits = max out.bits r.bits ∧ (lopR out r d).steps = min (out.steps + d * r.steps) 20001 := by
  have e1 : (lopR out r d).bits = max out.bits r.bits := grM_eq _ _
  have e2 : (lopR out r d).steps = min (out.steps + d * r.steps) 20001 := times_eq h0 h1 hr.s0 hr.s1 ho.s0 ho.s1
  have hm := mul_range h0 h1 hr.s0 hr.s1
  have := ho.b0
  have := ho.s0
  have := ho.b1
  have := hr.b1
  exact ⟨⟨ho.e, by omega, by omega, by omega, by omega⟩, e1, e2⟩
theorem stR_loop {fz : Fz} {s : St} {out : Rr} {own : Ns} (h3 : s.kind = 3) : stR fz s out own = if s.lo > s.hi then (failR 8, []) else match look s.name own with
      | some _ => (failR 5, [])
      | none => if (stsR fz s.body zR (own ++ [(s.name, ⟨fieldT, true, s.lo, s.hi⟩)])).1.err ≠ 0 then ((stsR fz s.body zR (own ++ [(s.name, ⟨fieldT, true, s.lo, s.hi⟩)])).1, [])
        else (lopR out (stsR fz s.body zR (own ++ [(s.name, ⟨fieldT, true, s.lo, s.hi⟩)])).1 (IntKind.i64.wrap (s.hi - s.lo)), own) := by
  rw [stR_eq, if_pos h3] <;> rfl
theorem stR_let {fz : Fz} {s : St} {out : Rr} {own : Ns} (h3 : s.kind ≠ 3) : stR fz s out own = if (exR fz own s.ex).err ≠ 0 then (exR fz own s.ex, [])
    else if s.kind = 2 then (if (exR fz own s.ex).t ≠ boolT then (failR 6, []) else (outR out (exR fz own s.ex), own))
    else letR s.name s.typed s.ty (exR fz own s.ex) (outR out (exR fz own s.ex)) own := by
  rw [stR_eq, if_neg h3]
theorem stsR_cons {fz : Fz} {s : St} {r : List St} {out : Rr} {own : Ns} : stsR fz (s :: r) out own = if (stR fz s out own).1.err ≠ 0 then ((stR fz s out own).1, []) else stsR fz r (stR fz s out own).1 (stR fz s out own).2 := by rw [stsR]
theorem sts_sim {fz : Fz} {fs : Fs} {ks : Ks} : ∀ (l : List St), (∀ s, s ∈ l → ∀ ns out w, NsG ns → OG out → 0 ≤ w → SimS (stM fs s ns (max w out.bits)) (stR fz s out ns) w (min (out.steps + bsS ks s) 20001)) →
    ∀ ns out w, NsG ns → OG out → 0 ≤ w → SimS (stsM fs l ns (max w out.bits)) (stsR fz l out ns) w (bsSs ks l out.steps) := by
  intro l
  induction l with
  | nil =>
    intro _ ns out w hn ho hw
    rw [stsM, stsR, bsSs]
    exact SimS.ok rfl rfl hn ho
  | cons s r ih =>
    intro h ns out w hn ho hw
    have hs := h s (by simp) ns out w hn ho hw
    rw [stsM_cons, stsR_cons, bsSs]
    by_cases he : (stR fz s out ns).1.err = 0
    · obtain ⟨v1, v2, v3, v4, v5⟩ := hs.val he
      rw [if_neg (show ¬ ((stM fs s ns (max w out.bits)).1 ≠ 0) from fun x => x (hs.err.2 he)), if_neg (show ¬ ((stR fz s out ns).1.err ≠ 0) from fun x => x he), v1, v2, mn_eq, ← v3]
      exact ih (fun x hx => h x (by simp [hx])) _ _ w v4 v5 hw
    · have hm : (stM fs s ns (max w out.bits)).1 ≠ 0 := fun x => he (hs.err.1 x)
      rw [if_pos hm, if_pos he]
      exact SimS.bad hm he
theorem st_sim {fz : Fz} {fs : Fs} {ks : Ks} (hR : Rel fz fs ks) : ∀ s, SG s → ∀ ns out w, NsG ns → OG out → 0 ≤ w → SimS (stM fs s ns (max w out.bits)) (stR fz s out ns) w (min (out.steps + bsS ks s) 20001) := by
  refine St.ind fun s ih hs ns out w hn ho hw => ?_
  have hb0 := ho.b0
  have hs0 := ho.s0
  have hs1 := ho.s1
  rw [bsS_eq]
  by_cases h3 : s.kind = 3
  · obtain ⟨r1, r2, r3, r4⟩ := hs.rng h3
    rw [stM_loop h3, stR_loop h3, if_pos h3]
    by_cases hlh : s.lo > s.hi
    · rw [if_pos hlh, if_pos hlh]
      exact SimS.bad (by simp) (by simp [failR])
    rw [if_neg hlh, if_neg hlh]
    cases hl : look s.name ns with
    | some x =>
      have hd : decM s.name ⟨fieldT, true, s.lo, s.hi⟩ ns (max w out.bits) = (5, ns, max w out.bits) := by unfold decM; rw [hl]
      rw [hd, if_pos (show (5 : Int) ≠ 0 by decide)]
      exact SimS.bad (by simp) (by simp [failR])
    | none =>
      have hd : decM s.name ⟨fieldT, true, s.lo, s.hi⟩ ns (max w out.bits) = (0, ns ++ [(s.name, ⟨fieldT, true, s.lo, s.hi⟩)], max w out.bits) := by unfold decM; rw [hl]
      rw [hd, if_neg (by simp)]
      simp only
      have hn' : NsG (ns ++ [(s.name, ⟨fieldT, true, s.lo, s.hi⟩)]) := hn.add _ ⟨gt_field, fun _ => ⟨r1, by show s.lo ≤ s.hi; omega, r4⟩⟩
      have hq := sts_sim (fz := fz) (fs := fs) (ks := ks) s.body (fun x hx => ih x hx (hs.sub h3 hx)) _ zR (max w out.bits) hn' og_z (by omega)
      rw [show max (max w out.bits) zR.bits = max w out.bits from by show max (max w out.bits) 0 = _; omega, show zR.steps = 0 from rfl] at hq
      by_cases he : (stsR fz s.body zR (ns ++ [(s.name, ⟨fieldT, true, s.lo, s.hi⟩)])).1.err = 0
      · obtain ⟨v1, v2, v3, v4, v5⟩ := hq.val he
        rw [if_neg (show ¬ ((stsM fs s.body (ns ++ [(s.name, ⟨fieldT, true, s.lo, s.hi⟩)]) (max w out.bits)).1 ≠ 0) from fun x => x (hq.err.2 he)), if_neg (show ¬ ((stsR fz s.body zR (ns ++ [(s.name, ⟨fieldT, true, s.lo, s.hi⟩)])).1.err ≠ 0) from fun x => x he)]
        rw [show IntKind.wrap .i64 (s.hi - s.lo) = s.hi - s.lo from i64_of (by omega) (by omega)]
        obtain ⟨g1, g2, g3⟩ := lop_og (d := s.hi - s.lo) ho v5 (by omega) (by omega)
        exact SimS.ok (by rw [g2, v2]; omega) (by rw [g3, v3]) hn g1
      · have hm : (stsM fs s.body (ns ++ [(s.name, ⟨fieldT, true, s.lo, s.hi⟩)]) (max w out.bits)).1 ≠ 0 := fun x => he (hq.err.1 x)
        rw [if_pos hm, if_pos he]
        exact SimS.bad hm he
  · rw [stM_let h3, stR_let h3, if_neg h3]
    have hx := ex_sim hR hn s.ex (hs.ex h3) (max w out.bits) (by omega)
    by_cases he : (exR fz ns s.ex).err = 0
    · obtain ⟨v1, v2, v3, v4⟩ := hx.val he
      obtain ⟨g1, g2, g3⟩ := out_og ho v4
      have gb := g1.b0
      rw [if_neg (show ¬ ((exM fs ns s.ex (max w out.bits)).1.2 ≠ 0) from fun x => x (hx.err.2 he)), if_neg (show ¬ ((exR fz ns s.ex).err ≠ 0) from fun x => x he), v1, v2, ← v3]
      have hst : (outR out (exR fz ns s.ex)).steps = min (out.steps + (1 + (exR fz ns s.ex).steps)) 20001 := by rw [g3]; omega
      have hbt : max (max w out.bits) (exR fz ns s.ex).bits = max w (outR out (exR fz ns s.ex)).bits := by rw [g2]; omega
      by_cases h2 : s.kind = 2
      · rw [if_pos h2, if_pos h2]
        by_cases hbo : (exR fz ns s.ex).t ≠ boolT
        · rw [if_pos hbo, if_pos hbo]
          exact SimS.bad (by simp) (by simp [failR])
        · rw [if_neg hbo, if_neg hbo]
          exact SimS.ok hbt hst hn g1
      rw [if_neg h2, if_neg h2]
      unfold letR
      cases ht : s.typed with
      | false =>
        simp only [Bool.false_eq_true, if_false]
        exact add_sim hn ⟨v4.t, fun h => by cases h⟩ g1 hbt hst
      | true =>
        simp only [if_true]
        have hty := hs.ty h3 h2 ht
        rw [fit_eq v4.t hty]
        by_cases hc : (s.ty.len = 0 ∧ (exR fz ns s.ex).t.len ≠ 0) ∨ (s.ty.len ≠ 0 ∧ fitsB (exR fz ns s.ex).t s.ty = false)
        · rw [if_pos hc, if_pos]
          · exact SimS.bad (by simp) (by simp [failR])
          · unfold isSc
            rcases hc with ⟨a, b⟩ | ⟨a, b⟩ <;> simp [a, b]
        · rw [if_neg hc, if_neg]
          · rw [note_eq _ (by omega), hbt]
            have hd0 : 0 ≤ declM s.ty := by unfold declM; have := hty.b0; split <;> omega
            have hd1 : declM s.ty ≤ 63 := by unfold declM; have := hty.b1; split <;> omega
            have gb1 := g1.b1
            refine add_sim hn ⟨hty, fun h => by cases h⟩ ⟨g1.e, ?_, ?_, g1.s0, g1.s1⟩ ?_ hst
            · show 0 ≤ grM _ _; rw [grM_eq]; omega
            · show grM _ _ ≤ 63; rw [grM_eq]; omega
            · show _ = max w (grM _ _); rw [grM_eq]; omega
          · unfold isSc
            intro hh
            apply hc
            by_cases a : s.ty.len = 0
            · left; simp [a] at hh; exact ⟨a, by simpa using hh⟩
            · right; simp [a] at hh; exact ⟨a, by simpa using hh⟩
    · have hm : (exM fs ns s.ex (max w out.bits)).1.2 ≠ 0 := fun x => he (hx.err.1 x)
      rw [if_pos hm, if_pos he]
      exact SimS.bad hm he
theorem sts_law {fz : Fz} {fs : Fs} {ks : Ks} (hR : Rel fz fs ks) {l : List St} (hl : ∀ s, s ∈ l → SG s) {ns : Ns} {out : Rr} {w : Int} (hn : NsG ns) (ho : OG out) (hw : 0 ≤ w) : SimS (stsM fs l ns (max w out.bits)) (stsR fz l out ns) w (bsSs ks l out.steps) :=
  sts_sim l (fun s hs => st_sim hR s (hl s hs)) ns out w hn ho hw
end Go.Ky

/- KX 23: lists that grow by one element; what an index is, case by case. -/
namespace Go.Ky
open Go.Pi Go.Lx

/-- A list that a loop lets grow. -/
def Gl (sz : Nat) (v : PV) (ow : Ow) (es : List (List T)) : Prop := (v = .lit [] ∧ es = []) ∨ ∃ k, v = .own k sz es ∧ ow[k]? = some es.length
theorem Gl.zero (sz : Nat) (ow : Ow) : Gl sz (.lit []) ow [] := .inl ⟨rfl, rfl⟩
theorem Gl.app {sz bytes : Nat} {v : PV} {ow : Ow} {es : List (List T)} {e : List T} (h : Gl sz v ow es) (he : e.length = sz) (h0 : 0 < sz) (hr : room (es.length + 1) bytes = true) :
    ∃ v' ow', (∀ dr sg, appendP dr sg ow sz bytes v (.lit [e]) = some (v', ow')) ∧ Gl sz v' ow' (es ++ [e]) := by
  rcases h with ⟨rfl, rfl⟩ | ⟨k, rfl, hk⟩
  · refine ⟨.own ow.length sz [e], ow ++ [1], fun dr sg => ?_, .inr ⟨ow.length, rfl, by simp⟩⟩
    simp only [appendP, elemsS, elems, List.all_cons, List.all_nil, List.length_cons, List.length_nil, List.nil_append, Nat.zero_add, he, beq_self_eq_true, Bool.and_self, and_self, h0, if_true]
    rw [if_pos ⟨trivial, by simpa using hr, trivial⟩]
  · refine ⟨.own k sz (es ++ [e]), ow.set k (es.length + 1), fun dr sg => ?_, .inr ⟨k, rfl, by simp [List.getElem?_set, (List.getElem?_eq_some_iff.1 hk).1]⟩⟩
    simp only [appendP, elemsS, elems, List.all_cons, List.all_nil, List.length_cons, List.length_nil, Nat.zero_add, he, beq_self_eq_true, Bool.and_self, and_self, h0, if_true, hk, hr]
theorem room_of {n b : Nat} (h : n * b ≤ 140737488355328) (h2 : n ≤ 4611686018427387904) : room n b = true := by
  unfold room
  exact decide_eq_true ⟨h, h2⟩
section
variable {s : Sy} {b sg len : Int}
theorem idxS_6 (h : s.loop = false) : idxS s b sg len = 6 := by unfold idxS; rw [if_pos h]
theorem idxS_a (h : s.loop = true) (h2 : s.low > IntKind.i64.wrap (s.high - 1)) : idxS s b sg len = 0 := by unfold idxS; rw [if_neg (by simp [h]), if_pos h2]
theorem idxS_b (h : s.loop = true) (h2 : ¬ s.low > IntKind.i64.wrap (s.high - 1)) (h3 : b > 10000000) : idxS s b sg len = 8 := by unfold idxS; rw [if_neg (by simp [h]), if_neg h2, if_pos h3]
theorem idxS_c (h : s.loop = true) (h2 : ¬ s.low > IntKind.i64.wrap (s.high - 1)) (h3 : ¬ b > 10000000)
    (h4 : IntKind.i64.wrap (s.low + IntKind.i64.wrap (sg * IntKind.i64.wrap b)) < 0 ∨ IntKind.i64.wrap (IntKind.i64.wrap (s.high - 1) + IntKind.i64.wrap (sg * IntKind.i64.wrap b)) ≥ len) : idxS s b sg len = 8 := by
  unfold idxS; rw [if_neg (by simp [h]), if_neg h2, if_neg h3, if_pos h4]
theorem idxS_d (h : s.loop = true) (h2 : ¬ s.low > IntKind.i64.wrap (s.high - 1)) (h3 : ¬ b > 10000000)
    (h4 : ¬ (IntKind.i64.wrap (s.low + IntKind.i64.wrap (sg * IntKind.i64.wrap b)) < 0)) (h5 : ¬ (IntKind.i64.wrap (IntKind.i64.wrap (s.high - 1) + IntKind.i64.wrap (sg * IntKind.i64.wrap b)) ≥ len)) : idxS s b sg len = 0 := by
  unfold idxS; rw [if_neg (by simp [h]), if_neg h2, if_neg h3, if_neg (fun x => x.elim h4 h5)]
end
end Go.Ky

/- KX 24: lists that grow: copies; what a body hands back. -/
namespace Go.Ky
open Go.Pi Go.Lx

theorem Gl.cl {sz : Nat} {v : PV} {ow : Ow} {es : List (List T)} (h : Gl sz v ow es) : close v = some (.sl false es) := by
  rcases h with ⟨rfl, rfl⟩ | ⟨k, rfl, _⟩ <;> rfl
theorem Gl.rsl {sz : Nat} {v : PV} {ow : Ow} {es : List (List T)} (h : Gl sz v ow es) (sg : Sg) : retSl sg v = some (.sl false es) := by
  rcases h with ⟨rfl, rfl⟩ | ⟨k, rfl, _⟩ <;> rfl
/-- A copy of a list that is held, and one element more. -/
theorem Gl.copy1 {sz bytes : Nat} {v : PV} {ow : Ow} {es : List (List T)} {e : List T} (h : Gl sz v ow es) (he : e.length = sz) (h0 : 0 < sz) (hall : es.all (fun x => x.length == sz) = true) (hr : ∀ n, n ≤ es.length + 1 → room n bytes = true) :
    ∃ v1 ow1 k ow2, (∀ dr sg, appendP dr sg ow sz bytes (.lit []) v = some (v1, ow1)) ∧ (∀ dr sg, appendP dr sg ow1 sz bytes v1 (.lit [e]) = some (.own k sz (es ++ [e]), ow2)) ∧ Gl sz v ow2 es := by
  have one : ∀ dr sg, appendP dr sg ow sz bytes (.lit []) (.lit [e]) = some (.own ow.length sz [e], ow ++ [1]) := by
    intro dr sg
    simp only [appendP, elemsS, elems, List.all_cons, List.all_nil, List.length_cons, List.length_nil, List.nil_append, Nat.zero_add, he, beq_self_eq_true, Bool.and_self, and_self, h0, if_true]
    rw [if_pos ⟨trivial, by simpa using hr 1 (by omega), trivial⟩]
  rcases h with ⟨rfl, rfl⟩ | ⟨k, rfl, hk⟩
  · exact ⟨.lit [], ow, ow.length, ow ++ [1], fun dr sg => rfl, one, .inl ⟨rfl, rfl⟩⟩
  · have hkl := (List.getElem?_eq_some_iff.1 hk).1
    cases es with
    | nil => exact ⟨.lit [], ow, ow.length, ow ++ [1], fun dr sg => rfl, one, .inr ⟨k, rfl, by rw [List.getElem?_append_left hkl]; exact hk⟩⟩
    | cons a r =>
      refine ⟨.own ow.length sz (a :: r), ow ++ [(a :: r).length], ow.length, (ow ++ [(a :: r).length]).set ow.length ((a :: r).length + 1), fun dr sg => ?_, fun dr sg => ?_, .inr ⟨k, rfl, ?_⟩⟩
      · simp only [appendP, elemsS, elems]
        rw [if_pos ⟨hall, h0⟩]
        simp only [List.length_nil, List.nil_append, List.all_nil, Nat.zero_add]
        rw [if_pos ⟨trivial, hr _ (by omega), trivial⟩]
      · simp only [appendP, elemsS, elems, List.all_cons, List.all_nil, List.length_cons, List.length_nil, Nat.zero_add, he, beq_self_eq_true, Bool.and_self, and_self, h0, if_true]
        rw [if_pos ⟨by simp, by have := hr ((a :: r).length + 1) (by omega); simpa using this, trivial⟩]
      · rw [List.getElem?_set_ne (by omega), List.getElem?_append_left hkl]; exact hk
/-- A copy of a list that was handed in. -/
theorem gl_copy {sz bytes : Nat} {ow : Ow} {nl : Bool} {es : List (List T)} (hn : nl = true → es = []) (h0 : 0 < sz) (hall : es.all (fun x => x.length == sz) = true) (hr : room es.length bytes = true) :
    ∃ v' ow', (∀ dr sg, appendP dr sg ow sz bytes (.lit []) (.t (.sl nl es)) = some (v', ow')) ∧ Gl sz v' ow' es := by
  cases es with
  | nil => exact ⟨.lit [], ow, fun dr sg => by cases nl <;> rfl, .inl ⟨rfl, rfl⟩⟩
  | cons a r =>
    have hf : nl = false := by
      cases nl with
      | false => rfl
      | true => have := hn rfl; cases this
    subst hf
    refine ⟨.own ow.length sz (a :: r), ow ++ [(a :: r).length], fun dr sg => ?_, .inr ⟨ow.length, rfl, by simp⟩⟩
    simp only [appendP, elemsS, elems]
    rw [if_pos ⟨hall, h0⟩]
    simp only [List.length_nil, List.nil_append, List.all_nil, Nat.zero_add]
    rw [if_pos ⟨trivial, hr, trivial⟩]
theorem all7 (l : Ns) : (l.map tSym).all (fun x => x.length == 7) = true := by
  rw [List.all_map]
  exact List.all_eq_true.2 fun _ _ => rfl
theorem room7 {n : Nat} (h : n ≤ 4 * B20 + 1) : room n 64 = true := by
  have hb : B20 = 1100000 := rfl
  exact room_of (by omega) (by omega)
theorem stsR_err {fz : Fz} : ∀ (l : List St) (out : Rr) (own : Ns), out.err = 0 → (stsR fz l out own).1.err ≠ 0 → (stsR fz l out own).2 = []
  | [], out, own, h, h2 => by rw [stsR] at h2; exact absurd h h2
  | s :: r, out, own, h, h2 => by
    rw [stsR] at h2 ⊢
    by_cases he : (stR fz s out own).1.err = 0
    · rw [if_neg (show ¬ ((stR fz s out own).1.err ≠ 0) from fun x => x he)] at h2 ⊢
      exact stsR_err r _ _ he h2
    · rw [if_pos he]
end Go.Ky

/- KX 25: lists that grow beside older ones; how many names a body leaves. -/
namespace Go.Ky
open Go.Pi Go.Lx

/-- A list whose place is none of the first k0. -/
def Gk (k0 sz : Nat) (v : PV) (ow : Ow) (es : List (List T)) : Prop := (v = .lit [] ∧ es = []) ∨ ∃ k, k0 ≤ k ∧ v = .own k sz es ∧ ow[k]? = some es.length
/-- The first k0 places are as they were. -/
def Ok0 (k0 : Nat) (ow ow' : Ow) : Prop := k0 ≤ ow.length ∧ k0 ≤ ow'.length ∧ ∀ j, j < k0 → ow'[j]? = ow[j]?
theorem Gk.gl {k0 sz : Nat} {v : PV} {ow : Ow} {es : List (List T)} (h : Gk k0 sz v ow es) : Gl sz v ow es := by
  rcases h with h | ⟨k, _, h1, h2⟩
  · exact .inl h
  · exact .inr ⟨k, h1, h2⟩
theorem Gk.zero (k0 sz : Nat) (ow : Ow) : Gk k0 sz (.lit []) ow [] := .inl ⟨rfl, rfl⟩
theorem Ok0.refl {ow : Ow} : Ok0 ow.length ow ow := ⟨Nat.le_refl _, Nat.le_refl _, fun _ _ => rfl⟩
theorem Gl.ok0 {sz : Nat} {v : PV} {ow ow' : Ow} {es : List (List T)} (h : Gl sz v ow es) (h0 : Ok0 ow.length ow ow') : Gl sz v ow' es := by
  rcases h with h | ⟨k, h1, h2⟩
  · exact .inl h
  · exact .inr ⟨k, h1, by rw [h0.2.2 k (List.getElem?_eq_some_iff.1 h2).1]; exact h2⟩
theorem Gk.app {k0 sz bytes : Nat} {v : PV} {ow0 ow : Ow} {es : List (List T)} {e : List T} (h : Gk k0 sz v ow es) (hk : Ok0 k0 ow0 ow) (he : e.length = sz) (h0 : 0 < sz) (hr : room (es.length + 1) bytes = true) :
    ∃ v' ow', (∀ dr sg, appendP dr sg ow sz bytes v (.lit [e]) = some (v', ow')) ∧ Gk k0 sz v' ow' (es ++ [e]) ∧ Ok0 k0 ow0 ow' := by
  obtain ⟨a, b, c⟩ := hk
  rcases h with ⟨rfl, rfl⟩ | ⟨k, hkk, rfl, hk⟩
  · refine ⟨.own ow.length sz [e], ow ++ [1], fun dr sg => ?_, .inr ⟨ow.length, b, rfl, by simp⟩, a, by simp; omega, fun j hj => ?_⟩
    · simp only [appendP, elemsS, elems, List.all_cons, List.all_nil, List.length_cons, List.length_nil, List.nil_append, Nat.zero_add, he, beq_self_eq_true, Bool.and_self, and_self, h0, if_true]
      rw [if_pos ⟨trivial, by simpa using hr, trivial⟩]
    · rw [List.getElem?_append_left (by omega)]; exact c j hj
  · have hkl := (List.getElem?_eq_some_iff.1 hk).1
    refine ⟨.own k sz (es ++ [e]), ow.set k (es.length + 1), fun dr sg => ?_, .inr ⟨k, hkk, rfl, by simp [hkl]⟩, a, by simpa using b, fun j hj => ?_⟩
    · simp only [appendP, elemsS, elems, List.all_cons, List.all_nil, List.length_cons, List.length_nil, Nat.zero_add, he, beq_self_eq_true, Bool.and_self, and_self, h0, if_true, hk, hr]
    · rw [List.getElem?_set_ne (by omega)]; exact c j hj
theorem letR_len {nm : Nm} {typed : Bool} {ty : Ty} {r out : Rr} {own : Ns} : (letR nm typed ty r out own).2.length ≤ own.length + 1 := by
  have h : ∀ s o, (addR nm s o own).2.length ≤ own.length + 1 := by
    intro s o
    unfold addR
    split
    · simp
    · simp
  unfold letR
  split
  · split
    · simp
    · exact h _ _
  · exact h _ _
theorem stR_len {fz : Fz} {s : St} {out : Rr} {own : Ns} : (stR fz s out own).2.length ≤ own.length + 1 := by
  rw [stR_eq]
  repeat' split
  all_goals first | exact letR_len | (simp; done) | (simp; omega)
theorem stsR_len {fz : Fz} : ∀ (l : List St) (out : Rr) (own : Ns), (stsR fz l out own).2.length ≤ own.length + l.length
  | [], out, own => by rw [stsR]; simp
  | s :: r, out, own => by
    rw [stsR]
    split
    · simp
    · have h1 := stsR_len (fz := fz) r (stR fz s out own).1 (stR fz s out own).2
      have h2 := stR_len (fz := fz) (s := s) (out := out) (own := own)
      rw [List.length_cons]; omega
theorem parsR_len : ∀ {l : List Pa} {ns s : Ns}, parsR l ns = some s → s.length = ns.length + l.length
  | [], ns, s, h => by rw [parsR] at h; injection h with h; subst h; rfl
  | p :: r, ns, s, h => by
    rw [parsR] at h
    split at h
    · cases h
    · rw [parsR_len h]; simp; omega
theorem desR_len : ∀ {l : List De} {ns s : Ns} {x y : Inf}, desR l ns x = some (s, y) → s.length = ns.length + l.length
  | [], ns, s, x, y, h => by rw [desR] at h; injection h with h; injection h with h; subst h; rfl
  | p :: r, ns, s, x, y, h => by
    rw [desR] at h
    split at h
    · cases h
    · rw [desR_len h]; simp; omega
end Go.Ky

/- KX 26: the checker and the reference agree upon programs. -/
set_option linter.unusedSimpArgs false
namespace Go.Ky
open Go.Pi Go.Lx

/-! ### Validity -/
theorem dpSs_any (l : List St) (lim : Nat) : dpSs l lim = l.any fun s => dpS s lim := by
  induction l with
  | nil => rfl
  | cons s r ih => rw [dpSs, ih]; rfl
theorem dSts_iff (l : List St) (n : Nat) : dSts l ≤ n ↔ ∀ s, s ∈ l → dSt s ≤ n := by
  induction l with
  | nil => simp [dSts]
  | cons s r ih =>
    rw [dSts]
    constructor
    · intro h x hx
      rcases List.mem_cons.1 hx with e | e
      · subst e; omega
      · exact ih.1 (by omega) x e
    · intro h
      have h1 := h s (by simp)
      have h2 := ih.2 fun x hx => h x (by simp [hx])
      omega
theorem stB_ex3 {s : St} (h : stB s = true) (h3 : s.kind = 3) : dEx s.ex = 1 ∧ ∀ a, a ∈ s.body → stB a = true := by
  rw [stB_eq, if_neg (by omega), if_neg (by omega), if_pos h3] at h
  simp only [Bool.and_eq_true] at h
  obtain ⟨⟨⟨⟨_, he⟩, _⟩, _⟩, hb⟩ := h
  refine ⟨?_, fun a ha => List.all_eq_true.1 hb a ha⟩
  unfold emptyE at he
  simp only [Bool.and_eq_true, decide_eq_true_eq] at he
  have : s.ex.args = [] := List.length_eq_zero_iff.1 (by omega)
  rw [dEx_eq, this]; rfl
theorem stB_sub {s : St} (h : stB s = true) : ∀ a, a ∈ s.body → stB a = true := by
  by_cases h3 : s.kind = 3
  · exact (stB_ex3 h h3).2
  · rw [stB_eq] at h
    have : s.body = [] := by
      split at h
      · simp only [Bool.and_eq_true, decide_eq_true_eq] at h; exact List.length_eq_zero_iff.1 (by omega)
      · split at h
        · simp only [Bool.and_eq_true, decide_eq_true_eq] at h; exact List.length_eq_zero_iff.1 (by omega)
        · first | cases h | (rw [if_neg h3] at h; cases h)
    rw [this]; simp
theorem dp_law : ∀ s, stB s = true → ∀ lim, lim ≤ 40 → (dpS s lim = false ↔ dSt s ≤ lim ∧ shS s = true) := by
  refine St.ind fun s ih hB lim hl => ?_
  have hb := stB_sub hB
  rw [dpS_eq, shS_eq, dSt_eq, dpSs_any]
  have hex : (decide (s.kind ≠ 3) && decide ((dEx s.ex : Int) > 40)) = false ↔ shE s.ex = true := by
    unfold shE
    by_cases h3 : s.kind = 3
    · have := (stB_ex3 hB h3).1
      simp [h3, this]
    · simp [h3]
  by_cases h0 : lim = 0
  · subst h0; simp
  · have hbody : (s.body.any fun a => dpS a (lim - 1)) = false ↔ dSts s.body ≤ lim - 1 ∧ s.body.all shS = true := by
      rw [List.any_eq_false, dSts_iff, List.all_eq_true]
      constructor
      · intro h
        have := fun a ha => (ih a ha (hb a ha) (lim - 1) (by omega)).1 (by simpa using h a ha)
        exact ⟨fun a ha => (this a ha).1, fun a ha => (this a ha).2⟩
      · intro h a ha
        have := (ih a ha (hb a ha) (lim - 1) (by omega)).2 ⟨h.1 a ha, h.2 a ha⟩
        simp [this]
    simp only [Bool.or_eq_false_iff, decide_eq_false_iff_not, Bool.and_eq_true, decide_eq_true_eq]
    rw [← Bool.not_eq_true, Bool.not_eq_true] at *
    constructor
    · rintro ⟨_, h1, h2⟩
      have h1 := hex.1 (by simpa using h1)
      obtain ⟨g1, g2⟩ := hbody.1 h2
      exact ⟨by omega, ⟨by omega, h1⟩, g2⟩
    · rintro ⟨h1, ⟨_, h2⟩, h3⟩
      exact ⟨h0, by have := hex.2 h2; simpa using this, hbody.2 ⟨by omega, h3⟩⟩
theorem dps_law {l : List St} (h : l.all stB = true) : dpSs l 40 = false ↔ l.all shS = true := by
  rw [dpSs_any, List.any_eq_false, List.all_eq_true]
  have hB := List.all_eq_true.1 h
  constructor
  · intro g a ha
    exact ((dp_law a (hB a ha) 40 (by omega)).1 (by simpa using g a ha)).2
  · intro g a ha
    have hs := g a ha
    have : dSt a ≤ 40 := by
      rw [shS_eq] at hs
      simp only [Bool.and_eq_true, decide_eq_true_eq] at hs
      omega
    have := (dp_law a (hB a ha) 40 (by omega)).2 ⟨this, hs⟩
    simp [this]
theorem valid_eq {p : Pg} : rvP p = 0 ↔ validP p = 0 := by
  rw [valid_zero]
  have hfm : p.funcs.all fmB = p.funcs.all fuB := by congr 1; funext f; exact fmB_eq f
  unfold rvP
  rw [hfm]
  cases h1 : p.funcs.all fuB with
  | false => simp
  | true =>
    rw [if_neg (by simp)]
    cases h2 : p.decls.all deB with
    | false => simp
    | true =>
      rw [if_neg (by simp)]
      cases h3 : p.body.all stB with
      | false => simp
      | true =>
        rw [if_neg (by simp)]
        have hf : p.funcs.any dpF = false ↔ p.funcs.all shF = true := by
          rw [List.any_eq_false, List.all_eq_true]
          have hq := List.all_eq_true.1 h1
          have one : ∀ f, f ∈ p.funcs → (dpF f = false ↔ shF f = true) := by
            intro f hf
            have := hq f hf
            unfold fuB at this
            simp only [Bool.and_eq_true] at this
            have hd := dps_law this.1.2
            unfold dpF shF shE
            rw [Bool.or_eq_false_iff, hd, Bool.and_eq_true]
            simp
          constructor
          · intro g f hf; exact (one f hf).1 (by simpa using g f hf)
          · intro g f hf; have := (one f hf).2 (g f hf); simp [this]
        have hb := dps_law h3
        cases h4 : p.funcs.any dpF with
        | true =>
          rw [if_pos rfl]
          have : ¬ p.funcs.all shF = true := fun h => by rw [hf.2 h] at h4; cases h4
          simp [this]
        | false =>
          rw [if_neg (by simp)]
          cases h5 : dpSs p.body 40 with
          | true =>
            rw [if_pos rfl]
            have : ¬ p.body.all shS = true := fun h => by rw [hb.2 h] at h5; cases h5
            simp [this]
          | false =>
            rw [if_neg (by simp)]
            simp [hf.1 h4, hb.1 h5]
end Go.Ky

/- KX 27: the checker and the reference agree upon functions, declarations, programs. -/
set_option linter.unusedSimpArgs false
namespace Go.Ky
open Go.Pi Go.Lx

theorem ft {α : Type} {a b : α} : (if (false = true) then a else b) = b := if_neg (by simp)
theorem hasF_look {nm : Nm} : ∀ {fz : Fz}, look nm (fz.map fun p => (p.1.name, p.1)) = none ↔ hasF nm fz = false
  | [] => by simp [look, hasF]
  | p :: r => by
    have ih := hasF_look (nm := nm) (fz := r)
    have hh : hasF nm (p :: r) = (decide (p.1.name = nm) || hasF nm r) := rfl
    rw [List.map_cons, look, hh]
    by_cases h : nm = p.1.name
    · rw [if_pos h, decide_eq_true h.symm]; simp
    · rw [if_neg h, decide_eq_false (fun e => h e.symm), Bool.false_or]; exact ih
theorem put_new {nm : Nm} {n : Int} : ∀ {l : Ks}, look nm l = none → putK nm n l = l ++ [(nm, n)]
  | [], _ => rfl
  | (j, m) :: r, h => by
    rw [look] at h
    by_cases hj : nm = j
    · rw [if_pos hj] at h; cases h
    · rw [if_neg hj] at h
      rw [putK, if_neg hj, put_new h]; rfl
theorem hasF_ks {nm : Nm} : ∀ {fz : Fz}, hasF nm fz = false → look nm (fz.map fun p => (p.1.name, p.2)) = none
  | [], _ => rfl
  | p :: r, h => by
    have hh : hasF nm (p :: r) = (decide (p.1.name = nm) || hasF nm r) := rfl
    rw [hh, Bool.or_eq_false_iff, decide_eq_false_iff_not] at h
    rw [List.map_cons, look, if_neg (fun e => h.1 e.symm)]
    exact hasF_ks h.2
theorem pars_sim : ∀ (l : List Pa) (ns : Ns) (w : Int), (∀ p, p ∈ l → Gt p.ty) → NsG ns →
    (∀ s, parsR l ns = some s → parsM l ns w = (0, s, w) ∧ NsG s) ∧ (parsR l ns = none → (parsM l ns w).1 ≠ 0) := by
  intro l
  induction l with
  | nil =>
    intro ns w _ hn
    rw [parsR, parsM]
    exact ⟨fun s h => (by injection h with h; subst h; exact ⟨rfl, hn⟩), fun h => (by cases h)⟩
  | cons p r ih =>
    intro ns w hp hn
    rw [parsR, parsM_cons]
    unfold decM
    cases hl : look p.name ns with
    | some x => exact ⟨fun s h => (by cases h), fun _ => by simp⟩
    | none =>
      simp only [ne_eq, not_true_eq_false, if_false]
      exact ih _ w (fun q hq => hp q (by simp [hq])) (hn.add _ ⟨hp p (by simp), fun h => by cases h⟩)
/-- A function that can be looked at. -/
structure FG (f : Fu) : Prop where
  par : ∀ q, q ∈ f.params → Gt q.ty
  res : Gt f.res
  body : ∀ s, s ∈ f.body → SG s
  ret : EG f.ret
theorem fun_sim {fz : Fz} {fs : Fs} {ks : Ks} (hR : Rel fz fs ks) {f : Fu} (hf : FG f) {b : Int} (hb : 0 ≤ b) (hb1 : b ≤ 63) :
    ((funM fs f b).1 = 0 ↔ (funR fz f b).1 = 0) ∧ ((funR fz f b).1 = 0 → Rel (funR fz f b).2.1 (funM fs f b).2.1 (stepK [f] ks) ∧ (funM fs f b).2.2 = (funR fz f b).2.2 ∧ 0 ≤ (funR fz f b).2.2 ∧ (funR fz f b).2.2 ≤ 63) := by
  have hbad : ∀ {x : Int × Fs × Int} {y : Int × Fz × Int}, x.1 ≠ 0 → y.1 ≠ 0 → ((x.1 = 0 ↔ y.1 = 0) ∧ (y.1 = 0 → Rel y.2.1 x.2.1 (stepK [f] ks) ∧ x.2.2 = y.2.2 ∧ 0 ≤ y.2.2 ∧ y.2.2 ≤ 63)) :=
    fun h1 h2 => ⟨⟨fun h => absurd h h1, fun h => absurd h h2⟩, fun h => absurd h h2⟩
  cases hh : hasF f.name fz with
  | true =>
    have hl : ∃ x, look f.name fs = some x := by
      cases hq : look f.name fs with
      | some x => exact ⟨x, rfl⟩
      | none => rw [hR.fs] at hq; rw [hasF_look.1 hq] at hh; cases hh
    obtain ⟨x, hx⟩ := hl
    rw [funM_dup fs f b hx]
    have : funR fz f b = (5, fz, b) := by unfold funR; rw [hh, if_pos rfl]
    rw [this]
    exact hbad (by simp) (by simp)
  | false =>
    have hl : look f.name fs = none := by rw [hR.fs]; exact hasF_look.2 hh
    have hk : look f.name ks = none := by rw [hR.ks]; exact hasF_ks hh
    rw [funM_eq fs f b hl]
    unfold funR
    rw [hh, ft]
    obtain ⟨p1, p2⟩ := pars_sim f.params [] b hf.par (fun p hp => by cases hp)
    cases hp : parsR f.params [] with
    | none =>
      rw [if_pos (p2 hp)]
      exact hbad (p2 hp) (by simp)
    | some s =>
      obtain ⟨e1, hs⟩ := p1 s hp
      rw [e1]
      simp only [ne_eq, not_true_eq_false, if_false]
      have hq := sts_law hR hf.body hs og_z hb
      rw [show max b zR.bits = b from by show max b 0 = b; omega, show zR.steps = 0 from rfl] at hq
      by_cases he : (stsR fz f.body zR s).1.err = 0
      · obtain ⟨v1, v2, v3, v4, v5⟩ := hq.val he
        have hm := hq.err.2 he
        rw [if_neg (show ¬ (¬ (stsM fs f.body s b).1 = 0) from fun x => x hm), if_neg (show ¬ (¬ (stsR fz f.body zR s).1.err = 0) from fun x => x he), v1, v2]
        have hb0 := v5.b0
        have hx := ex_sim hR v4 f.ret hf.ret (max b (stsR fz f.body zR s).1.bits) (by omega)
        by_cases he2 : (exR fz (stsR fz f.body zR s).2 f.ret).err = 0
        · obtain ⟨u1, u2, u3, u4⟩ := hx.val he2
          have hm2 := hx.err.2 he2
          rw [if_neg (show ¬ (¬ (exM fs (stsR fz f.body zR s).2 f.ret (max b (stsR fz f.body zR s).1.bits)).1.2 = 0) from fun x => x hm2), if_neg (show ¬ (¬ (exR fz (stsR fz f.body zR s).2 f.ret).err = 0) from fun x => x he2), u1, u2, fit_eq u4.t hf.res]
          cases hfit : fitsB (exR fz (stsR fz f.body zR s).2 f.ret).t f.res with
          | false => rw [ff, ff]; exact hbad (by simp) (by simp)
          | true =>
            rw [tf, tf]
            have w0 := v5.s0
            have w1 := v5.s1
            have w2 := u4.s0
            have w3 := u4.s1
            have hst : mn 20001 (bsSs ks f.body 0 + csE ks f.ret) = capM (IntKind.i64.wrap ((stsR fz f.body zR s).1.steps + (exR fz (stsR fz f.body zR s).2 f.ret).steps)) := by
              rw [← v3, ← u3, mn_eq, i64_of (by omega) (by omega), capM_eq]
            have c1 := v5.b1
            have c2 := u4.b1
            refine ⟨by simp, fun _ => ⟨⟨?_, ?_, ?_⟩, ?_, ?_, ?_⟩⟩
            · simp only [List.map_append, List.map_cons, List.map_nil, hR.fs]
            · simp only [stepK, List.map_append, List.map_cons, List.map_nil]
              rw [put_new hk, hst, hR.ks]
            · intro p hp
              rcases List.mem_append.1 hp with h | h
              · exact hR.ok p h
              · rw [List.mem_singleton.1 h]
                exact ⟨hf.res, hf.par, by rw [← hst, mn_eq, ← v3, ← u3]; omega, by rw [← hst, mn_eq]; omega⟩
            · simp only; rw [grM_eq, grM_eq]; omega
            · simp only; rw [grM_eq, grM_eq]; omega
            · simp only; rw [grM_eq, grM_eq]; omega
        · have hm2 : (exM fs (stsR fz f.body zR s).2 f.ret (max b (stsR fz f.body zR s).1.bits)).1.2 ≠ 0 := fun x => he2 (hx.err.1 x)
          rw [if_pos hm2, if_pos he2]
          exact hbad hm2 he2
      · have hm : (stsM fs f.body s b).1 ≠ 0 := fun x => he (hq.err.1 x)
        rw [if_pos hm, if_pos he]
        exact hbad hm he
theorem funs_sim : ∀ (l : List Fu) (fz : Fz) (fs : Fs) (ks : Ks) (b : Int), Rel fz fs ks → (∀ f, f ∈ l → FG f) → 0 ≤ b → b ≤ 63 →
    ((funsM l fs b).1 = 0 ↔ (funsR l fz b).1 = 0) ∧ ((funsR l fz b).1 = 0 → Rel (funsR l fz b).2.1 (funsM l fs b).2.1 (stepK l ks) ∧ (funsM l fs b).2.2 = (funsR l fz b).2.2 ∧ 0 ≤ (funsR l fz b).2.2 ∧ (funsR l fz b).2.2 ≤ 63) := by
  intro l
  induction l with
  | nil =>
    intro fz fs ks b hR _ hb hb1
    rw [funsM, funsR, stepK]
    exact ⟨Iff.rfl, fun _ => ⟨hR, rfl, hb, hb1⟩⟩
  | cons f r ih =>
    intro fz fs ks b hR hF hb hb1
    obtain ⟨g1, g2⟩ := fun_sim hR (hF f (by simp)) hb hb1
    rw [funsM_cons, funsR]
    by_cases he : (funR fz f b).1 = 0
    · obtain ⟨h1, h2, h3, h4⟩ := g2 he
      rw [if_neg (show ¬ ((funM fs f b).1 ≠ 0) from fun x => x (g1.2 he)), if_neg (show ¬ ((funR fz f b).1 ≠ 0) from fun x => x he), h2]
      have := ih _ _ _ _ h1 (fun x hx => hF x (by simp [hx])) h3 h4
      simpa only [stepK] using this
    · have hm : (funM fs f b).1 ≠ 0 := fun x => he (g1.1 x)
      rw [if_pos hm, if_pos he]
      exact ⟨⟨fun x => absurd x hm, fun x => absurd x he⟩, fun x => absurd x he⟩
theorem el_eq {t : Ty} (h : Gt t) : mx t.len 1 = elM t := by
  have := h.l0
  unfold elM
  rw [mx_eq]
  split <;> omega
theorem des_sim : ∀ (l : List De) (ns : Ns) (x : Inf), (∀ d, d ∈ l → Gt d.ty) → NsG ns → 0 ≤ x.bits → x.bits ≤ 63 →
    (∀ s y, desR l ns x = some (s, y) → desM l ns x.bits = (0, s, y.bits) ∧ NsG s ∧ 0 ≤ y.bits ∧ y.bits ≤ 63 ∧ inGo l x.pub x.sec = (y.pub, y.sec)) ∧ (desR l ns x = none → (desM l ns x.bits).1 ≠ 0) := by
  intro l
  induction l with
  | nil =>
    intro ns x _ hn hb hb1
    rw [desR, desM]
    refine ⟨fun s y h => ?_, fun h => by cases h⟩
    injection h with h
    injection h with h1 h2
    subst h1 h2
    exact ⟨rfl, hn, hb, hb1, by rw [inGo]⟩
  | cons d r ih =>
    intro ns x hp hn hb hb1
    rw [desR, desM_cons]
    unfold decM
    cases hl : look d.name ns with
    | some z => exact ⟨fun s y h => (by cases h), fun _ => by simp⟩
    | none =>
      simp only [ne_eq, not_true_eq_false, if_false]
      have hd := hp d (by simp)
      have hd0 : 0 ≤ declM d.ty := by unfold declM; have := hd.b0; split <;> omega
      have hd1 : declM d.ty ≤ 63 := by unfold declM; have := hd.b1; split <;> omega
      have hbits : (decI d x).bits = noteM d.ty x.bits := by rw [note_eq _ hb]; exact grM_eq _ _
      have := ih (ns ++ [(d.name, ⟨d.ty, false, 0, 0⟩)]) (decI d x) (fun q hq => hp q (by simp [hq])) (hn.add _ ⟨hd, fun h => by cases h⟩) (by rw [hbits, note_eq _ hb]; omega) (by rw [hbits, note_eq _ hb]; omega)
      rw [hbits] at this
      refine ⟨fun s y h => ?_, this.2⟩
      obtain ⟨a, b, c, c', e⟩ := this.1 s y h
      refine ⟨a, b, c, c', ?_⟩
      rw [inGo, el_eq hd, ← e]
      unfold decI
      cases d.pub <;> simp
/-- A program that can be looked at. -/
structure PG (p : Pg) : Prop where
  ok : PgOk p
  fs : ∀ f, f ∈ p.funcs → szSs f.body ≤ B20 ∧ szE f.ret ≤ B20
  bs : szSs p.body ≤ B20
theorem PG.fun {p : Pg} (hp : PG p) (hv : p.funcs.all fuB = true) : ∀ f, f ∈ p.funcs → FG f := by
  intro f hf
  have h := List.all_eq_true.1 hv f hf
  unfold fuB at h
  simp only [Bool.and_eq_true] at h
  obtain ⟨⟨⟨⟨_, h2⟩, h3⟩, h4⟩, h5⟩ := h
  have ho := hp.ok.fo f hf
  obtain ⟨z1, z2⟩ := hp.fs f hf
  refine ⟨fun q hq => ?_, gt_of h3, fun s hs => ⟨List.all_eq_true.1 h4 s hs, ho.bo s hs, Nat.le_trans (szSs_mem hs) z1⟩, ⟨h5, ho.ret, z2⟩⟩
  have := List.all_eq_true.1 h2 q hq
  unfold paB at this
  rw [Bool.and_eq_true] at this
  exact gt_of this.2
theorem exam_sim {p : Pg} (hp : PG p) : ((examP p).2.2 = 0 ↔ (exmR p).err = 0) ∧ ((exmR p).err = 0 → (examP p).1 = (exmR p).bits ∧ 0 ≤ (exmR p).bits ∧ (exmR p).bits ≤ 63 ∧ inGo p.decls 0 0 = ((exmR p).pub, (exmR p).sec)) ∧ ((exmR p).err ≠ 0 → (exmR p).bits = 0 ∧ (exmR p).pub = 0 ∧ (exmR p).sec = 0) := by
  have hbad : ∀ e : Int, e ≠ 0 → exmR p = badI e → (examP p).2.2 ≠ 0 → (((examP p).2.2 = 0 ↔ (exmR p).err = 0) ∧ ((exmR p).err = 0 → (examP p).1 = (exmR p).bits ∧ 0 ≤ (exmR p).bits ∧ (exmR p).bits ≤ 63 ∧ inGo p.decls 0 0 = ((exmR p).pub, (exmR p).sec)) ∧ ((exmR p).err ≠ 0 → (exmR p).bits = 0 ∧ (exmR p).pub = 0 ∧ (exmR p).sec = 0)) := by
    intro e he h1 h2
    rw [h1]
    exact ⟨⟨fun h => absurd h h2, fun h => absurd h he⟩, fun h => absurd h he, fun _ => ⟨rfl, rfl, rfl⟩⟩
  by_cases hv : validP p = 0
  · obtain ⟨b1, b2, b3, _, _⟩ := valid_zero.1 hv
    have hrv := valid_eq.2 hv
    obtain ⟨g1, g2⟩ := funs_sim p.funcs [] [] [] 0 ⟨rfl, rfl, fun p hp => by cases hp⟩ (hp.fun b1) (by omega) (by omega)
    have hM : exmR p = if (funsR p.funcs [] 0).1 ≠ 0 then badI (funsR p.funcs [] 0).1
        else match desR p.decls [] ⟨0, (funsR p.funcs [] 0).2.2, 0, 0, 0⟩ with
        | none => badI 5
        | some (ns, x) =>
          if (stsR (funsR p.funcs [] 0).2.1 p.body zR ns).1.err ≠ 0 then badI (stsR (funsR p.funcs [] 0).2.1 p.body zR ns).1.err
          else if (stsR (funsR p.funcs [] 0).2.1 p.body zR ns).1.steps > 20000 then badI 3
          else ⟨0, grM x.bits (stsR (funsR p.funcs [] 0).2.1 p.body zR ns).1.bits, x.pub, x.sec, (stsR (funsR p.funcs [] 0).2.1 p.body zR ns).1.steps⟩ := by
      unfold exmR
      rw [if_neg (show ¬ (rvP p ≠ 0) from fun x => x hrv)] <;> rfl
    by_cases hf : (funsR p.funcs [] 0).1 = 0
    · obtain ⟨r1, r2, r3, r4⟩ := g2 hf
      rw [if_neg (show ¬ ((funsR p.funcs [] 0).1 ≠ 0) from fun x => x hf)] at hM
      have hdt : ∀ d, d ∈ p.decls → Gt d.ty := fun d hd => by
        have := List.all_eq_true.1 b2 d hd
        unfold deB at this
        rw [Bool.and_eq_true] at this
        exact gt_of this.2
      obtain ⟨d1, d2⟩ := des_sim p.decls [] ⟨0, (funsR p.funcs [] 0).2.2, 0, 0, 0⟩ hdt (fun p hp => by cases hp) r3 r4
      cases hd : desR p.decls [] ⟨0, (funsR p.funcs [] 0).2.2, 0, 0, 0⟩ with
      | none =>
        rw [hd] at hM
        refine hbad 5 (by decide) hM fun h => d2 hd ?_
        have := (prog_ok.1 (exam_ok.1 h).2.1).2.1
        rw [r2] at this
        exact this
      | some q =>
        obtain ⟨s, y⟩ := q
        rw [hd] at hM
        simp only at hM
        obtain ⟨e1, e2, e3, e5, e4⟩ := d1 s y hd
        simp only at e1 e4
        have hbo : ∀ a, a ∈ p.body → SG a := fun a ha => ⟨List.all_eq_true.1 b3 a ha, hp.ok.bo a ha, Nat.le_trans (szSs_mem ha) hp.bs⟩
        have hq := sts_law r1 hbo e2 og_z e3
        rw [show max y.bits zR.bits = y.bits from by show max y.bits 0 = _; omega, show zR.steps = 0 from rfl] at hq
        by_cases he : (stsR (funsR p.funcs [] 0).2.1 p.body zR s).1.err = 0
        · obtain ⟨v1, v2, v3, v4, v5⟩ := hq.val he
          rw [if_neg (show ¬ ((stsR (funsR p.funcs [] 0).2.1 p.body zR s).1.err ≠ 0) from fun x => x he)] at hM
          have hpr : (progM p).1 = 0 := prog_ok.2 ⟨g1.2 hf, by rw [r2, e1], by rw [r2, e1]; exact hq.err.2 he⟩
          have hsp : stepsP p = (stsR (funsR p.funcs [] 0).2.1 p.body zR s).1.steps := v3.symm
          by_cases hst : (stsR (funsR p.funcs [] 0).2.1 p.body zR s).1.steps > 20000
          · rw [if_pos hst] at hM
            refine hbad 3 (by decide) hM fun h => ?_
            have := (exam_ok.1 h).2.2
            omega
          · rw [if_neg hst] at hM
            have hx : (examP p).2.2 = 0 := exam_ok.2 ⟨hv, hpr, by omega⟩
            rw [hM]
            refine ⟨⟨fun _ => rfl, fun _ => hx⟩, fun _ => ⟨?_, ?_, ?_, e4⟩, fun h => absurd rfl h⟩
            rotate_left
            · show 0 ≤ grM _ _; rw [grM_eq]; omega
            · have := v5.b1; show grM _ _ ≤ 63; rw [grM_eq]; omega
            rw [exam_val hx, prog_val hpr, r2, e1]
            show (stsM _ p.body s y.bits).2.2 = grM _ _
            rw [v2, grM_eq]
        · rw [if_pos he] at hM
          refine hbad _ he hM fun h => he (hq.err.1 ?_)
          have := (prog_ok.1 (exam_ok.1 h).2.1).2.2
          rw [r2, e1] at this
          exact this
    · rw [if_pos hf] at hM
      exact hbad _ hf hM fun h => hf (g1.1 (prog_ok.1 (exam_ok.1 h).2.1).1)
  · have hrv : rvP p ≠ 0 := fun h => hv (valid_eq.1 h)
    refine hbad 1 (by decide) (by unfold exmR; rw [if_pos hrv]) fun h => hv (exam_ok.1 h).1
end Go.Ky
