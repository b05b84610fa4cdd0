/- PI 29: the walk's rules over marked forms: a simplification does not go into what a mark holds. Program independent. -/
import Derived.Test.YtcbgiabippcpaaaGreatDoorPi28
namespace Go.Pi
structure Tg {α β : Type 1} (a : α) (b : β) : Type where
structure Tg0 {α β : Type} (a : α) (b : β) : Type where
structure TgP (a b : Prop) : Type where
section
variable {F : Nat → Option Fn} {gl : Nat → Option (List T)} {dr : Bool} {d : Option Nat} {r : List Ins} {fr : List PV} {sg : Sg} {ow : Ow} {Q : S → Prop}
def Xp (F : Nat → Option Fn) (gl : Nat → Option (List T)) (c : Co) (s : S) (Q : Ex → S → Prop) (_ : Tg0 c Q) : Prop := Wp F gl c s Q
def Xi (F : Nat → Option Fn) (gl : Nat → Option (List T)) (dr : Bool) (is : List Ins) (s : S) (Q : S → Prop) (_ : Tg0 is Q) : Prop := WpI F gl dr is s Q
def Xl (F : Nat → Option Fn) (gl : Nat → Option (List T)) (c : Co) (s : S) (Q : Ex → S → Prop) (_ : Tg0 c Q) : Prop := WpL F gl c s Q
def xN (k : S → Prop) (Q : Ex → S → Prop) (_ : Tg0 k Q) : Ex → S → Prop := onN k Q
def xB (id : Nat) (Q : Ex → S → Prop) (_ : Tg0 id Q) : Ex → S → Prop := onB id Q
def xC (v : PV) (a b : Prop) (_ : TgP a b) : Prop := onC v a b
def xG (v : PV) (q : Bool) (a b : Prop) (_ : TgP a b) : Prop := onG v q a b
def xO {α : Type} (v : Option α) (k : α → Prop) (_ : Tg0 () k) : Prop := onO v k
def XcE (F : Nat → Option Fn) (gl : Nat → Option (List T)) (f : Nat) (args : List PV) (sg : Sg) (ow : Ow) (K : PV → Sg → Ow → Prop) (_ : Tg0 () K) : Prop := CallE F gl f args sg ow K
def XcP (F : Nat → Option Fn) (gl : Nat → Option (List T)) (f : Nat) (ts : List T) (K : PV → Prop) (_ : Tg0 () K) : Prop := CallP F gl f ts K
def xF (v : PV) (K : Nat → List PV → Prop) (_ : Tg0 () K) : Prop := fnK v K
def xR (gl : Nat → Option (List T)) (res : List (Nat × Option (Bool × Nat))) (K : PV → Sg → Ow → Prop) (_ : Tg0 () K) : Ex → S → Prop := resK gl res K
theorem Xp_skip {s : S} {Q : Ex → S → Prop} : Xp F gl .skip s Q ⟨⟩ ↔ Q .normal s := Wp_skip
theorem Xp_exit {id : Nat} {s : S} {Q : Ex → S → Prop} : Xp F gl (.exit id) s Q ⟨⟩ ↔ Q (.exit id) s := Wp_exit
theorem Xp_ret {s : S} {Q : Ex → S → Prop} : Xp F gl .ret s Q ⟨⟩ ↔ Q .ret s := Wp_ret
theorem Xp_reg {is : List Ins} {s : S} {Q : Ex → S → Prop} : Xp F gl (.reg dr is) s Q ⟨⟩ ↔ Xi F gl dr is s (Q .normal) ⟨⟩ := Wp_reg
theorem Xp_seq {a b : Co} {s : S} {Q : Ex → S → Prop} : Xp F gl (.seq a b) s Q ⟨⟩ ↔ Xp F gl a s (xN (fun s' => Xp F gl b s' Q ⟨⟩) Q ⟨⟩) ⟨⟩ := Wp_seq
theorem Xp_block {id : Nat} {b : Co} {s : S} {Q : Ex → S → Prop} : Xp F gl (.block id b) s Q ⟨⟩ ↔ Xp F gl b s (xB id Q ⟨⟩) ⟨⟩ := Wp_block
theorem Xp_cond {c : Opd} {a b : Co} {fr : List PV} {sg : Sg} {ow : Ow} {Q : Ex → S → Prop} : Xp F gl (.cond c a b) ⟨fr, sg, ow⟩ Q ⟨⟩ ↔ xC (c.ev fr) (Xp F gl a ⟨fr, sg, ow⟩ Q ⟨⟩) (Xp F gl b ⟨fr, sg, ow⟩ Q ⟨⟩) ⟨⟩ := Wp_cond
theorem Xp_loop {b : Co} {s : S} {Q : Ex → S → Prop} : Xp F gl (.loop b) s Q ⟨⟩ ↔ Xl F gl b s Q ⟨⟩ := Wp_loop
theorem Xl.step {b : Co} {s : S} {Q : Ex → S → Prop} (h : Xp F gl b s (xN (fun s' => Xl F gl b s' Q ⟨⟩) Q ⟨⟩) ⟨⟩) : Xl F gl b s Q ⟨⟩ := WpL.step h
theorem xN_normal {k : S → Prop} {Q : Ex → S → Prop} {s : S} : xN k Q ⟨⟩ .normal s ↔ k s := Iff.rfl
theorem xN_exit {k : S → Prop} {Q : Ex → S → Prop} {s : S} {id : Nat} : xN k Q ⟨⟩ (.exit id) s ↔ Q (.exit id) s := Iff.rfl
theorem xN_ret {k : S → Prop} {Q : Ex → S → Prop} {s : S} : xN k Q ⟨⟩ .ret s ↔ Q .ret s := Iff.rfl
theorem xB_normal {id : Nat} {Q : Ex → S → Prop} {s : S} : xB id Q ⟨⟩ .normal s ↔ Q .normal s := Iff.rfl
theorem xB_same {id : Nat} {Q : Ex → S → Prop} {s : S} : xB id Q ⟨⟩ (.exit id) s ↔ Q .normal s := by
  show onB id Q (.exit id) s ↔ _
  rw [onB_exit, if_pos rfl]
theorem xB_other {id id' : Nat} {Q : Ex → S → Prop} {s : S} (h : (id' == id) = false) : xB id Q ⟨⟩ (.exit id') s ↔ Q (.exit id') s := by
  show onB id Q (.exit id') s ↔ _
  rw [onB_exit, if_neg (by simpa using h)]
theorem xB_ret {id : Nat} {Q : Ex → S → Prop} {s : S} : xB id Q ⟨⟩ .ret s ↔ Q .ret s := Iff.rfl
theorem xC_true {a b : Prop} : xC (.t (.bool true)) a b ⟨⟩ ↔ a := Iff.rfl
theorem xC_false {a b : Prop} : xC (.t (.bool false)) a b ⟨⟩ ↔ b := Iff.rfl
theorem xG_tt {a b : Prop} : xG (.t (.bool true)) true a b ⟨⟩ ↔ a := Iff.rfl
theorem xG_tf {a b : Prop} : xG (.t (.bool true)) false a b ⟨⟩ ↔ b := Iff.rfl
theorem xG_ft {a b : Prop} : xG (.t (.bool false)) true a b ⟨⟩ ↔ b := Iff.rfl
theorem xG_ff {a b : Prop} : xG (.t (.bool false)) false a b ⟨⟩ ↔ a := Iff.rfl
theorem xG_und {q : Bool} {a b : Prop} : xG (.tup []) q a b ⟨⟩ ↔ b := Iff.rfl
theorem xO_some {α : Type} {x : α} {k : α → Prop} : xO (some x) k ⟨⟩ ↔ k x := Iff.rfl
theorem xF_fn {f : Nat} {caps : List PV} {K : Nat → List PV → Prop} : xF (.fn f caps) K ⟨⟩ ↔ K f caps := Iff.rfl
theorem Xi_nil {s : S} {Q : S → Prop} : Xi F gl dr [] s Q ⟨⟩ ↔ Q s := WpI_nil
theorem Xi_guard {k : Nat} {b : Bool} {o : O} : Xi F gl dr (⟨d, some (k, b), o⟩ :: r) ⟨fr, sg, ow⟩ Q ⟨⟩ ↔ xG (fget fr k) b (Xi F gl dr (⟨d, none, o⟩ :: r) ⟨fr, sg, ow⟩ Q ⟨⟩) (Xi F gl dr r ⟨put fr d und, sg, ow⟩ Q ⟨⟩) ⟨⟩ := WpI_guardT
theorem Xi_mov {a : Opd} : Xi F gl dr (⟨d, none, .mov a⟩ :: r) ⟨fr, sg, ow⟩ Q ⟨⟩ ↔ Xi F gl dr r ⟨put fr d (a.ev fr), sg, ow⟩ Q ⟨⟩ := WpI_mov
theorem Xi_pick {c a b : Opd} : Xi F gl dr (⟨d, none, .pick c a b⟩ :: r) ⟨fr, sg, ow⟩ Q ⟨⟩ ↔ xO (pickV (c.ev fr) (a.ev fr) (b.ev fr)) (fun v => Xi F gl dr r ⟨put fr d v, sg, ow⟩ Q ⟨⟩) ⟨⟩ := WpI_pick
theorem Xi_box {a : Opd} : Xi F gl dr (⟨d, none, .box a⟩ :: r) ⟨fr, sg, ow⟩ Q ⟨⟩ ↔ Xi F gl dr r ⟨put fr d (.lp sg.length 0), sg ++ [(false, cellsP (a.ev fr))], ow⟩ Q ⟨⟩ := WpI_box
theorem Xi_alloc {zs : List T} : Xi F gl dr (⟨d, none, .alloc zs⟩ :: r) ⟨fr, sg, ow⟩ Q ⟨⟩ ↔ Xi F gl dr r ⟨put fr d (.lp sg.length 0), sg ++ [(false, zs.map .t)], ow⟩ Q ⟨⟩ := WpI_alloc
theorem Xi_build {zs : List T} {ps : List (Nat × Nat × Opd)} : Xi F gl dr (⟨d, none, .build zs ps⟩ :: r) ⟨fr, sg, ow⟩ Q ⟨⟩ ↔ xO (fillP (zs.map .t) (ps.map fun p => (p.1, p.2.1, p.2.2.ev fr))) (fun cs => Xi F gl dr r ⟨put fr d (mkAgg cs), sg, ow⟩ Q ⟨⟩) ⟨⟩ := WpI_build
theorem Xi_bsl {sz len : Nat} {z : List T} {ps : List (Nat × Opd)} : Xi F gl dr (⟨d, none, .bsl sz len z ps⟩ :: r) ⟨fr, sg, ow⟩ Q ⟨⟩ ↔ xO (bslV sz len z (ps.map fun p => (p.1 * sz, sz, p.2.ev fr))) (fun v => Xi F gl dr r ⟨put fr d v, sg, ow⟩ Q ⟨⟩) ⟨⟩ := WpI_bsl
theorem Xi_load {ag : Bool} {n : Nat} {a : Opd} : Xi F gl dr (⟨d, none, .load ag n a⟩ :: r) ⟨fr, sg, ow⟩ Q ⟨⟩ ↔ xO (loadP gl sg ag n (a.ev fr)) (fun v => Xi F gl dr r ⟨put fr d v, sg, ow⟩ Q ⟨⟩) ⟨⟩ := WpI_load
theorem Xi_store {n : Nat} {a v : Opd} : Xi F gl dr (⟨d, none, .store n a v⟩ :: r) ⟨fr, sg, ow⟩ Q ⟨⟩ ↔ xO (storeP sg n (v.ev fr) (a.ev fr)) (fun sg' => Xi F gl dr r ⟨put fr d und, sg', ow⟩ Q ⟨⟩) ⟨⟩ := WpI_store
theorem Xi_nck {a : Opd} : Xi F gl dr (⟨d, none, .nck a⟩ :: r) ⟨fr, sg, ow⟩ Q ⟨⟩ ↔ xO (nckV (a.ev fr)) (fun v => Xi F gl dr r ⟨put fr d v, sg, ow⟩ Q ⟨⟩) ⟨⟩ := WpI_nck
theorem Xi_bin {op : BinOp} {a b : Opd} : Xi F gl dr (⟨d, none, .bin op a b⟩ :: r) ⟨fr, sg, ow⟩ Q ⟨⟩ ↔ xO (binT op (a.ev fr) (b.ev fr)) (fun v => Xi F gl dr r ⟨put fr d (.t v), sg, ow⟩ Q ⟨⟩) ⟨⟩ := WpI_bin
theorem Xi_eqv {ng ag : Bool} {ks : List Nat} {a b : Opd} : Xi F gl dr (⟨d, none, .eqv ng ag ks a b⟩ :: r) ⟨fr, sg, ow⟩ Q ⟨⟩ ↔ xO (eqT ag ks (a.ev fr) (b.ev fr)) (fun q => Xi F gl dr r ⟨put fr d (.t (.bool (ng != q))), sg, ow⟩ Q ⟨⟩) ⟨⟩ := WpI_eqv
theorem Xi_isn {ng : Bool} {kd : Nat} {a : Opd} : Xi F gl dr (⟨d, none, .isn ng kd a⟩ :: r) ⟨fr, sg, ow⟩ Q ⟨⟩ ↔ xO (isNil kd (a.ev fr)) (fun q => Xi F gl dr r ⟨put fr d (.t (.bool (ng != q))), sg, ow⟩ Q ⟨⟩) ⟨⟩ := WpI_isn
theorem Xi_un {op : UnOp} {a : Opd} : Xi F gl dr (⟨d, none, .un op a⟩ :: r) ⟨fr, sg, ow⟩ Q ⟨⟩ ↔ xO (unT op (a.ev fr)) (fun v => Xi F gl dr r ⟨put fr d (.t v), sg, ow⟩ Q ⟨⟩) ⟨⟩ := WpI_un
theorem Xi_cvi {k : IntKind} {a : Opd} : Xi F gl dr (⟨d, none, .cvi k a⟩ :: r) ⟨fr, sg, ow⟩ Q ⟨⟩ ↔ xO (cviV k (a.ev fr)) (fun v => Xi F gl dr r ⟨put fr d v, sg, ow⟩ Q ⟨⟩) ⟨⟩ := WpI_cvi
theorem Xi_cvr {a : Opd} : Xi F gl dr (⟨d, none, .cvr a⟩ :: r) ⟨fr, sg, ow⟩ Q ⟨⟩ ↔ xO (cvrV (a.ev fr)) (fun v => Xi F gl dr r ⟨put fr d v, sg, ow⟩ Q ⟨⟩) ⟨⟩ := WpI_cvr
theorem Xi_cvt {a : Opd} : Xi F gl dr (⟨d, none, .cvt a⟩ :: r) ⟨fr, sg, ow⟩ Q ⟨⟩ ↔ xO (cvtV (a.ev fr)) (fun v => Xi F gl dr r ⟨put fr d v, sg, ow⟩ Q ⟨⟩) ⟨⟩ := WpI_cvt
theorem Xi_cvm {a : Opd} : Xi F gl dr (⟨d, none, .cvm a⟩ :: r) ⟨fr, sg, ow⟩ Q ⟨⟩ ↔ xO (cvmV (a.ev fr)) (fun v => Xi F gl dr r ⟨put fr d v, sg, ow⟩ Q ⟨⟩) ⟨⟩ := WpI_cvm
theorem Xi_ext {k : Nat} {a : Opd} : Xi F gl dr (⟨d, none, .ext k a⟩ :: r) ⟨fr, sg, ow⟩ Q ⟨⟩ ↔ xO (extV k (a.ev fr)) (fun v => Xi F gl dr r ⟨put fr d v, sg, ow⟩ Q ⟨⟩) ⟨⟩ := WpI_ext
theorem Xi_cvb {a : Opd} : Xi F gl dr (⟨d, none, .cvb a⟩ :: r) ⟨fr, sg, ow⟩ Q ⟨⟩ ↔ xO (cvbV dr ow (a.ev fr)) (fun v => Xi F gl dr r ⟨put fr d v.1, sg, v.2⟩ Q ⟨⟩) ⟨⟩ := WpI_cvb
theorem Xi_cvs {a : Opd} : Xi F gl dr (⟨d, none, .cvs a⟩ :: r) ⟨fr, sg, ow⟩ Q ⟨⟩ ↔ xO ((elemsS sg 1 (a.ev fr)).bind unbytes) (fun x => Xi F gl dr r ⟨put fr d (.t (.str x)), sg, ow⟩ Q ⟨⟩) ⟨⟩ := WpI_cvs
theorem Xi_mks {sz bytes : Nat} {z : List T} {l c : Opd} : Xi F gl dr (⟨d, none, .mks sz bytes z l c⟩ :: r) ⟨fr, sg, ow⟩ Q ⟨⟩ ↔ xO (mksV dr sg ow sz bytes z (l.ev fr) (c.ev fr)) (fun x => Xi F gl dr r ⟨put fr d x.1, x.2.1, x.2.2⟩ Q ⟨⟩) ⟨⟩ := WpI_mks
theorem Xi_slc {sz : Nat} {a : Opd} {lo hi mx : Option Opd} : Xi F gl dr (⟨d, none, .slc sz a lo hi mx⟩ :: r) ⟨fr, sg, ow⟩ Q ⟨⟩ ↔ xO (sliceP sz (a.ev fr) (lo.map (Opd.ev fr)) (hi.map (Opd.ev fr)) (mx.map (Opd.ev fr))) (fun v => Xi F gl dr r ⟨put fr d v, sg, ow⟩ Q ⟨⟩) ⟨⟩ := WpI_slc
theorem Xi_sls {a : Opd} {lo hi : Option Opd} : Xi F gl dr (⟨d, none, .sls a lo hi⟩ :: r) ⟨fr, sg, ow⟩ Q ⟨⟩ ↔ xO (sliceS (a.ev fr) (lo.map (Opd.ev fr)) (hi.map (Opd.ev fr))) (fun v => Xi F gl dr r ⟨put fr d v, sg, ow⟩ Q ⟨⟩) ⟨⟩ := WpI_sls
theorem Xi_sla {n sz : Nat} {a : Opd} {lo hi : Option Opd} : Xi F gl dr (⟨d, none, .sla n sz a lo hi⟩ :: r) ⟨fr, sg, ow⟩ Q ⟨⟩ ↔ xO (sliceA n sz (a.ev fr) (lo.map (Opd.ev fr)) (hi.map (Opd.ev fr))) (fun v => Xi F gl dr r ⟨put fr d v, sg, ow⟩ Q ⟨⟩) ⟨⟩ := WpI_sla
theorem Xi_fad {off : Nat} {a : Opd} : Xi F gl dr (⟨d, none, .fad off a⟩ :: r) ⟨fr, sg, ow⟩ Q ⟨⟩ ↔ xO (fieldA off (a.ev fr)) (fun v => Xi F gl dr r ⟨put fr d v, sg, ow⟩ Q ⟨⟩) ⟨⟩ := WpI_fad
theorem Xi_fld {ag : Bool} {off n : Nat} {a : Opd} : Xi F gl dr (⟨d, none, .fld ag off n a⟩ :: r) ⟨fr, sg, ow⟩ Q ⟨⟩ ↔ xO (partV ag n off (a.ev fr)) (fun v => Xi F gl dr r ⟨put fr d v, sg, ow⟩ Q ⟨⟩) ⟨⟩ := WpI_fld
theorem Xi_iaa {n sz : Nat} {a i : Opd} : Xi F gl dr (⟨d, none, .iaa n sz a i⟩ :: r) ⟨fr, sg, ow⟩ Q ⟨⟩ ↔ xO (indexA n sz (a.ev fr) (i.ev fr)) (fun v => Xi F gl dr r ⟨put fr d v, sg, ow⟩ Q ⟨⟩) ⟨⟩ := WpI_iaa
theorem Xi_ias {sz : Nat} {a i : Opd} : Xi F gl dr (⟨d, none, .ias sz a i⟩ :: r) ⟨fr, sg, ow⟩ Q ⟨⟩ ↔ xO (indexS sz (a.ev fr) (i.ev fr)) (fun v => Xi F gl dr r ⟨put fr d v, sg, ow⟩ Q ⟨⟩) ⟨⟩ := WpI_ias
theorem Xi_ixa {ag : Bool} {n sz : Nat} {a i : Opd} : Xi F gl dr (⟨d, none, .ixa ag n sz a i⟩ :: r) ⟨fr, sg, ow⟩ Q ⟨⟩ ↔ xO (indexV ag n sz (a.ev fr) (i.ev fr)) (fun v => Xi F gl dr r ⟨put fr d v, sg, ow⟩ Q ⟨⟩) ⟨⟩ := WpI_ixa
theorem Xi_ixs {a i : Opd} : Xi F gl dr (⟨d, none, .ixs a i⟩ :: r) ⟨fr, sg, ow⟩ Q ⟨⟩ ↔ xO (indexStr (a.ev fr) (i.ev fr)) (fun v => Xi F gl dr r ⟨put fr d v, sg, ow⟩ Q ⟨⟩) ⟨⟩ := WpI_ixs
theorem Xi_len {st : Bool} {a : Opd} : Xi F gl dr (⟨d, none, .len st a⟩ :: r) ⟨fr, sg, ow⟩ Q ⟨⟩ ↔ xO (lenP st (a.ev fr)) (fun n => Xi F gl dr r ⟨put fr d (.t (.int .i64 (n : Int))), sg, ow⟩ Q ⟨⟩) ⟨⟩ := WpI_len
theorem Xi_app {sz bytes : Nat} {a b : Opd} : Xi F gl dr (⟨d, none, .app sz bytes a b⟩ :: r) ⟨fr, sg, ow⟩ Q ⟨⟩ ↔ xO (appendP dr sg ow sz bytes (a.ev fr) (b.ev fr)) (fun x => Xi F gl dr r ⟨put fr d x.1, sg, x.2⟩ Q ⟨⟩) ⟨⟩ := WpI_app
theorem Xi_mkm  : Xi F gl dr (⟨d, none, .mkm⟩ :: r) ⟨fr, sg, ow⟩ Q ⟨⟩ ↔ Xi F gl dr r ⟨put fr d (.mp sg.length), sg ++ [(true, [])], ow⟩ Q ⟨⟩ := WpI_mkm
theorem Xi_mlk {ck : Bool} {kd : Nat} {z : T} {a i : Opd} : Xi F gl dr (⟨d, none, .mlk ck kd z a i⟩ :: r) ⟨fr, sg, ow⟩ Q ⟨⟩ ↔ xO (mlkP sg ck kd z (a.ev fr) (i.ev fr)) (fun v => Xi F gl dr r ⟨put fr d v, sg, ow⟩ Q ⟨⟩) ⟨⟩ := WpI_mlk
theorem Xi_mup {kd : Nat} {a k v : Opd} : Xi F gl dr (⟨d, none, .mup kd a k v⟩ :: r) ⟨fr, sg, ow⟩ Q ⟨⟩ ↔ xO (mupP sg kd (a.ev fr) (k.ev fr) (v.ev fr)) (fun sg' => Xi F gl dr r ⟨put fr d und, sg', ow⟩ Q ⟨⟩) ⟨⟩ := WpI_mup
theorem Xi_mdl {kd : Nat} {a k : Opd} : Xi F gl dr (⟨d, none, .mdl kd a k⟩ :: r) ⟨fr, sg, ow⟩ Q ⟨⟩ ↔ xO (mdlP sg kd (a.ev fr) (k.ev fr)) (fun sg' => Xi F gl dr r ⟨put fr d und, sg', ow⟩ Q ⟨⟩) ⟨⟩ := WpI_mdl
theorem Xi_mxn {mx : Bool} {a b : Opd} : Xi F gl dr (⟨d, none, .mxn mx a b⟩ :: r) ⟨fr, sg, ow⟩ Q ⟨⟩ ↔ xO (mxT mx (a.ev fr) (b.ev fr)) (fun v => Xi F gl dr r ⟨put fr d (.t v), sg, ow⟩ Q ⟨⟩) ⟨⟩ := WpI_mxn
theorem Xi_apb {sz bytes : Nat} {a b : Opd} : Xi F gl dr (⟨d, none, .apb sz bytes a b⟩ :: r) ⟨fr, sg, ow⟩ Q ⟨⟩ ↔ xO (appendB sg sz bytes (a.ev fr) (b.ev fr)) (fun x => Xi F gl dr r ⟨put fr d x.1, x.2, ow⟩ Q ⟨⟩) ⟨⟩ := WpI_apb
theorem Xi_ldk {ag : Bool} {n : Nat} {a : Opd} {k : Nat} : Xi F gl dr (⟨d, none, .ldk ag n a k⟩ :: r) ⟨fr, sg, ow⟩ Q ⟨⟩ ↔ xO (loadK gl sg ag n (fget fr k) (a.ev fr)) (fun v => Xi F gl dr r ⟨put fr d v, sg, ow⟩ Q ⟨⟩) ⟨⟩ := WpI_ldk
theorem Xi_ldt {ag : Bool} {n : Nat} {a : Opd} : Xi F gl dr (⟨d, none, .ldt ag n a⟩ :: r) ⟨fr, sg, ow⟩ Q ⟨⟩ ↔ xO (loadP gl [] ag n (a.ev fr)) (fun v => Xi F gl dr r ⟨put fr d v, sg, ow⟩ Q ⟨⟩) ⟨⟩ := WpI_ldt
theorem Xi_stok {n : Nat} {a v : Opd} {ks : List Nat} : Xi F gl dr (⟨d, none, .stok n a v ks⟩ :: r) ⟨fr, sg, ow⟩ Q ⟨⟩ ↔ xO (storeP sg n (v.ev fr) (a.ev fr)) (fun sg' => xO (keepsV fr ks sg sg') (fun _ => Xi F gl dr r ⟨put fr d und, sg', ow⟩ Q ⟨⟩) ⟨⟩) ⟨⟩ := WpI_stok
theorem Xi_alb {ty : Nat} : Xi F gl dr (⟨d, none, .alb ty⟩ :: r) ⟨fr, sg, ow⟩ Q ⟨⟩ ↔ Xi F gl dr r ⟨put fr d (.lp sg.length 0), sg ++ [(false, [.bp sg.length ty, .t (.sl true [])])], ow⟩ Q ⟨⟩ := WpI_alb
theorem Xi_cck {ty : Nat} {a : Opd} : Xi F gl dr (⟨d, none, .cck ty a⟩ :: r) ⟨fr, sg, ow⟩ Q ⟨⟩ ↔ xO (cckP sg ty (a.ev fr)) (fun v => Xi F gl dr r ⟨put fr d v, sg, ow⟩ Q ⟨⟩) ⟨⟩ := WpI_cck
theorem Xi_apw {ty : Nat} {a b : Opd} : Xi F gl dr (⟨d, none, .apw ty a b⟩ :: r) ⟨fr, sg, ow⟩ Q ⟨⟩ ↔ xO (appendW ow ty (a.ev fr) (b.ev fr)) (fun x => Xi F gl dr r ⟨put fr d x.1, sg, x.2⟩ Q ⟨⟩) ⟨⟩ := WpI_apw
theorem Xi_bst {ty : Nat} {a : Opd} : Xi F gl dr (⟨d, none, .bst ty a⟩ :: r) ⟨fr, sg, ow⟩ Q ⟨⟩ ↔ xO (strW sg ow ty (a.ev fr)) (fun v => Xi F gl dr r ⟨put fr d v, sg, ow⟩ Q ⟨⟩) ⟨⟩ := WpI_bst
theorem Xi_mkf {f : Nat} {caps : List Opd} : Xi F gl dr (⟨d, none, .mkf f caps⟩ :: r) ⟨fr, sg, ow⟩ Q ⟨⟩ ↔ Xi F gl dr r ⟨put fr d (.fn f (caps.map (Opd.ev fr))), sg, ow⟩ Q ⟨⟩ := WpI_mkf
theorem Xi_xt {k : Nat} {as : List Opd} : Xi F gl dr (⟨d, none, .xt k as⟩ :: r) ⟨fr, sg, ow⟩ Q ⟨⟩ ↔ xO (((as.map (Opd.ev fr)).mapM close).bind (xfun gl k)) (fun v => Xi F gl dr r ⟨put fr d v, sg, ow⟩ Q ⟨⟩) ⟨⟩ := WpI_xt
theorem Xi_call {f : Nat} {as : List Opd} : Xi F gl dr (⟨d, none, .call f as⟩ :: r) ⟨fr, sg, ow⟩ Q ⟨⟩ ↔ xO ((as.map (Opd.ev fr)).mapM close) (fun ts => XcP F gl f ts (fun v => Xi F gl dr r ⟨put fr d (aft dr ow v).1, sg, (aft dr ow v).2⟩ Q ⟨⟩) ⟨⟩) ⟨⟩ := WpI_call
theorem Xi_cale {f : Nat} {as : List Opd} : Xi F gl dr (⟨d, none, .cale f as⟩ :: r) ⟨fr, sg, ow⟩ Q ⟨⟩ ↔ XcE F gl f (as.map (Opd.ev fr)) sg ow (fun v sg' ow' => Xi F gl dr r ⟨put fr d v, sg', ow'⟩ Q ⟨⟩) ⟨⟩ := WpI_cale
theorem Xi_calk {f : Nat} {as : List Opd} {ks : List Nat} : Xi F gl dr (⟨d, none, .calk f as ks⟩ :: r) ⟨fr, sg, ow⟩ Q ⟨⟩ ↔ XcE F gl f (as.map (Opd.ev fr)) sg ow (fun v sg' ow' => xO (keepsV fr ks sg sg') (fun _ => Xi F gl dr r ⟨put fr d v, sg', ow'⟩ Q ⟨⟩) ⟨⟩) ⟨⟩ := WpI_calk
theorem Xi_calv {g : Opd} {as : List Opd} : Xi F gl dr (⟨d, none, .calv g as⟩ :: r) ⟨fr, sg, ow⟩ Q ⟨⟩ ↔ xF (g.ev fr) (fun f caps => XcE F gl f (as.map (Opd.ev fr) ++ caps) sg ow (fun v sg' ow' => Xi F gl dr r ⟨put fr d v, sg', ow'⟩ Q ⟨⟩) ⟨⟩) ⟨⟩ := WpI_calv
theorem nat_nn {n : Nat} : 0 ≤ (n : Int) := Int.natCast_nonneg n
theorem cast0 : ((0 : Nat) : Int) = 0 := rfl
theorem nat_nneg {n : Nat} : ¬ ((n : Int) < 0) := by omega
theorem xC_split {q : Bool} {a b : Prop} (h1 : q = true → a) (h2 : q = false → b) : xC (.t (.bool q)) a b ⟨⟩ := by
  cases q
  · exact h2 rfl
  · exact h1 rfl
theorem xC_nsplit {q : Bool} {a b : Prop} (h1 : q = true → b) (h2 : q = false → a) : xC (.t (.bool (!q))) a b ⟨⟩ := by
  cases q
  · exact h2 rfl
  · exact h1 rfl
theorem xC_dec {p : Prop} [Decidable p] {a b : Prop} (h1 : p → a) (h2 : ¬ p → b) : xC (.t (.bool (decide p))) a b ⟨⟩ :=
  xC_split (fun h => h1 (of_decide_eq_true h)) (fun h => h2 (of_decide_eq_false h))
theorem xC_ndec {p : Prop} [Decidable p] {a b : Prop} (h1 : p → b) (h2 : ¬ p → a) : xC (.t (.bool (!decide p))) a b ⟨⟩ :=
  xC_nsplit (fun h => h1 (of_decide_eq_true h)) (fun h => h2 (of_decide_eq_false h))
theorem xG_split {q b : Bool} {A B : Prop} (h1 : q = true → xG (.t (.bool true)) b A B ⟨⟩) (h2 : q = false → xG (.t (.bool false)) b A B ⟨⟩) : xG (.t (.bool q)) b A B ⟨⟩ := by
  cases q
  · exact h2 rfl
  · exact h1 rfl
theorem xG_nsplit {q b : Bool} {A B : Prop} (h1 : q = true → xG (.t (.bool false)) b A B ⟨⟩) (h2 : q = false → xG (.t (.bool true)) b A B ⟨⟩) : xG (.t (.bool (!q))) b A B ⟨⟩ := by
  cases q
  · exact h2 rfl
  · exact h1 rfl
theorem xG_dec {p : Prop} [Decidable p] {b : Bool} {A B : Prop} (h1 : p → xG (.t (.bool true)) b A B ⟨⟩) (h2 : ¬ p → xG (.t (.bool false)) b A B ⟨⟩) : xG (.t (.bool (decide p))) b A B ⟨⟩ :=
  xG_split (fun h => h1 (of_decide_eq_true h)) (fun h => h2 (of_decide_eq_false h))
theorem xG_ndec {p : Prop} [Decidable p] {b : Bool} {A B : Prop} (h1 : p → xG (.t (.bool false)) b A B ⟨⟩) (h2 : ¬ p → xG (.t (.bool true)) b A B ⟨⟩) : xG (.t (.bool (!decide p))) b A B ⟨⟩ :=
  xG_nsplit (fun h => h1 (of_decide_eq_true h)) (fun h => h2 (of_decide_eq_false h))
def Ret (F : Nat → Option Fn) (gl : Nat → Option (List T)) (f : Nat) (ts : List T) (v : PV) : Prop := CallP F gl f ts fun v2 => v2 = v
def RetE (F : Nat → Option Fn) (gl : Nat → Option (List T)) (f : Nat) (args : List PV) (sg : Sg) (ow : Ow) (v : PV) (sg' : Sg) (ow' : Ow) : Prop := CallE F gl f args sg ow fun v2 sg2 ow2 => v2 = v ∧ sg2 = sg' ∧ ow2 = ow'
theorem Ret.iff {f : Nat} {ts : List T} {v : PV} {K : PV → Prop} (h : Ret F gl f ts v) : XcP F gl f ts K ⟨⟩ ↔ K v := CallP.iff h
theorem RetE.iff {f : Nat} {args : List PV} {v : PV} {sg' : Sg} {ow' : Ow} {K : PV → Sg → Ow → Prop} (h : RetE F gl f args sg ow v sg' ow') : XcE F gl f args sg ow K ⟨⟩ ↔ K v sg' ow' := CallE.iff h
theorem Ret.of {f : Nat} {fn : Fn} {ts : List T} {v : PV} (hf : F f = some fn) (hl : ts.length = fn.np) (h : Xp F gl fn.body ⟨ts.map .t, [], []⟩ (xR gl fn.res (fun x sg ow => xO (retV sg ow x) (fun v2 => v2 = v) ⟨⟩) ⟨⟩) ⟨⟩) : Ret F gl f ts v := CallP_of hf hl h
theorem RetE.of {f : Nat} {fn : Fn} {args : List PV} {v : PV} {sg' : Sg} {ow' : Ow} (hf : F f = some fn) (hl : args.length = fn.np) (h : Xp F gl fn.body ⟨args, sg, ow⟩ (xR gl fn.res (fun v2 sg2 ow2 => v2 = v ∧ sg2 = sg' ∧ ow2 = ow') ⟨⟩) ⟨⟩) : RetE F gl f args sg ow v sg' ow' := CallE_of hf hl h
theorem XcP.of {f : Nat} {fn : Fn} {ts : List T} {K : PV → Prop} (hf : F f = some fn) (hl : ts.length = fn.np) (h : Xp F gl fn.body ⟨ts.map .t, [], []⟩ (xR gl fn.res (fun x sg ow => xO (retV sg ow x) K ⟨⟩) ⟨⟩) ⟨⟩) : CallP F gl f ts K := CallP_of hf hl h
theorem XcE.of {f : Nat} {fn : Fn} {args : List PV} {K : PV → Sg → Ow → Prop} (hf : F f = some fn) (hl : args.length = fn.np) (h : Xp F gl fn.body ⟨args, sg, ow⟩ (xR gl fn.res K ⟨⟩) ⟨⟩) : CallE F gl f args sg ow K := CallE_of hf hl h
theorem xR_one {k : Nat} {K : PV → Sg → Ow → Prop} : xR gl [(k, none)] K ⟨⟩ .ret ⟨fr, sg, ow⟩ ↔ K (fget fr k) sg ow := Iff.rfl
theorem xR_one' {k : Nat} {K : PV → Sg → Ow → Prop} : xR gl [(k, none)] K ⟨⟩ .normal ⟨fr, sg, ow⟩ ↔ K (fget fr k) sg ow := Iff.rfl
theorem xR_none {K : PV → Sg → Ow → Prop} : xR gl [] K ⟨⟩ .ret ⟨fr, sg, ow⟩ ↔ K (.tup []) sg ow := Iff.rfl
theorem xR_none' {K : PV → Sg → Ow → Prop} : xR gl [] K ⟨⟩ .normal ⟨fr, sg, ow⟩ ↔ K (.tup []) sg ow := Iff.rfl
theorem xR_cell {k n : Nat} {ag : Bool} {K : PV → Sg → Ow → Prop} : xR gl [(k, some (ag, n))] K ⟨⟩ .ret ⟨fr, sg, ow⟩ ↔ xO (loadP gl sg ag n (fget fr k)) (fun v => K v sg ow) ⟨⟩ := resK_cell
theorem xR_two {k l : Nat} {K : PV → Sg → Ow → Prop} : xR gl [(k, none), (l, none)] K ⟨⟩ .ret ⟨fr, sg, ow⟩ ↔ K (.tup [fget fr k, fget fr l]) sg ow := Iff.rfl
theorem xR_three {k l m : Nat} {K : PV → Sg → Ow → Prop} : xR gl [(k, none), (l, none), (m, none)] K ⟨⟩ .ret ⟨fr, sg, ow⟩ ↔ K (.tup [fget fr k, fget fr l, fget fr m]) sg ow := Iff.rfl
end
theorem wCo : type_of% (And.intro @Xp_seq (And.intro @Xp_reg (And.intro @Xp_block (And.intro @Xp_cond (And.intro @Xp_skip (And.intro @Xp_loop (And.intro @Xp_exit (And.intro @Xp_ret (And.intro @xN_normal (And.intro @xN_exit (And.intro @xN_ret (And.intro @xB_normal (And.intro @xB_same (And.intro @xB_ret (And.intro @xC_true (And.intro @xC_false (And.intro @Xi_nil (And.intro @Xi_guard (And.intro @xG_tt (And.intro @xG_tf (And.intro @xG_ft (And.intro @xG_ff (And.intro @xG_und (And.intro @xO_some (And.intro @xF_fn (And.intro @xR_one (And.intro @xR_one' (And.intro @xR_none (And.intro @xR_none' (And.intro @xR_cell (And.intro @xR_two (@xR_three)))))))))))))))))))))))))))))))) := And.intro @Xp_seq (And.intro @Xp_reg (And.intro @Xp_block (And.intro @Xp_cond (And.intro @Xp_skip (And.intro @Xp_loop (And.intro @Xp_exit (And.intro @Xp_ret (And.intro @xN_normal (And.intro @xN_exit (And.intro @xN_ret (And.intro @xB_normal (And.intro @xB_same (And.intro @xB_ret (And.intro @xC_true (And.intro @xC_false (And.intro @Xi_nil (And.intro @Xi_guard (And.intro @xG_tt (And.intro @xG_tf (And.intro @xG_ft (And.intro @xG_ff (And.intro @xG_und (And.intro @xO_some (And.intro @xF_fn (And.intro @xR_one (And.intro @xR_one' (And.intro @xR_none (And.intro @xR_none' (And.intro @xR_cell (And.intro @xR_two (@xR_three)))))))))))))))))))))))))))))))
theorem wFr : type_of% (And.intro @put_some (And.intro @put_none (And.intro @ev_s (And.intro @ev_c (And.intro @fget_fset (And.intro @fget_zero (And.intro @fget_succ (And.intro @cast0 (@List.length_map.{0, 0}))))))))) := And.intro @put_some (And.intro @put_none (And.intro @ev_s (And.intro @ev_c (And.intro @fget_fset (And.intro @fget_zero (And.intro @fget_succ (And.intro @cast0 (@List.length_map.{0, 0}))))))))
theorem wOp : type_of% (And.intro @Xi_mov (And.intro @Xi_pick (And.intro @Xi_box (And.intro @Xi_alloc (And.intro @Xi_build (And.intro @Xi_bsl (And.intro @Xi_load (And.intro @Xi_store (And.intro @Xi_nck (And.intro @Xi_bin (And.intro @Xi_eqv (And.intro @Xi_isn (And.intro @Xi_un (And.intro @Xi_cvi (And.intro @Xi_cvr (And.intro @Xi_cvt (And.intro @Xi_cvm (And.intro @Xi_ext (And.intro @Xi_cvb (And.intro @Xi_cvs (And.intro @Xi_mks (And.intro @Xi_slc (And.intro @Xi_sls (And.intro @Xi_sla (And.intro @Xi_fad (And.intro @Xi_fld (And.intro @Xi_iaa (And.intro @Xi_ias (And.intro @Xi_ixa (And.intro @Xi_ixs (And.intro @Xi_len (And.intro @Xi_app (And.intro @Xi_mkm (And.intro @Xi_mlk (And.intro @Xi_mup (And.intro @Xi_mdl (And.intro @Xi_mxn (And.intro @Xi_apb (And.intro @Xi_ldk (And.intro @Xi_ldt (And.intro @Xi_stok (And.intro @Xi_alb (And.intro @Xi_cck (And.intro @Xi_apw (And.intro @Xi_bst (And.intro @Xi_mkf (And.intro @Xi_xt (And.intro @Xi_call (And.intro @Xi_cale (And.intro @Xi_calk (@Xi_calv))))))))))))))))))))))))))))))))))))))))))))))))))) := And.intro @Xi_mov (And.intro @Xi_pick (And.intro @Xi_box (And.intro @Xi_alloc (And.intro @Xi_build (And.intro @Xi_bsl (And.intro @Xi_load (And.intro @Xi_store (And.intro @Xi_nck (And.intro @Xi_bin (And.intro @Xi_eqv (And.intro @Xi_isn (And.intro @Xi_un (And.intro @Xi_cvi (And.intro @Xi_cvr (And.intro @Xi_cvt (And.intro @Xi_cvm (And.intro @Xi_ext (And.intro @Xi_cvb (And.intro @Xi_cvs (And.intro @Xi_mks (And.intro @Xi_slc (And.intro @Xi_sls (And.intro @Xi_sla (And.intro @Xi_fad (And.intro @Xi_fld (And.intro @Xi_iaa (And.intro @Xi_ias (And.intro @Xi_ixa (And.intro @Xi_ixs (And.intro @Xi_len (And.intro @Xi_app (And.intro @Xi_mkm (And.intro @Xi_mlk (And.intro @Xi_mup (And.intro @Xi_mdl (And.intro @Xi_mxn (And.intro @Xi_apb (And.intro @Xi_ldk (And.intro @Xi_ldt (And.intro @Xi_stok (And.intro @Xi_alb (And.intro @Xi_cck (And.intro @Xi_apw (And.intro @Xi_bst (And.intro @Xi_mkf (And.intro @Xi_xt (And.intro @Xi_call (And.intro @Xi_cale (And.intro @Xi_calk (@Xi_calv))))))))))))))))))))))))))))))))))))))))))))))))))
theorem wBi : type_of% (And.intro @bin_add (And.intro @bin_sub (And.intro @bin_mul (And.intro @bin_quo (And.intro @bin_rem (And.intro @bin_eql (And.intro @bin_neq (And.intro @bin_lss (And.intro @bin_leq (And.intro @bin_gtr (And.intro @bin_geq (And.intro @bin_and (And.intro @bin_or (And.intro @bin_xor (And.intro @bin_shl (And.intro @bin_shr (And.intro @bin_sadd (And.intro @bin_seql (And.intro @bin_sneq (@eq_bool)))))))))))))))))))) := And.intro @bin_add (And.intro @bin_sub (And.intro @bin_mul (And.intro @bin_quo (And.intro @bin_rem (And.intro @bin_eql (And.intro @bin_neq (And.intro @bin_lss (And.intro @bin_leq (And.intro @bin_gtr (And.intro @bin_geq (And.intro @bin_and (And.intro @bin_or (And.intro @bin_xor (And.intro @bin_shl (And.intro @bin_shr (And.intro @bin_sadd (And.intro @bin_seql (And.intro @bin_sneq (@eq_bool)))))))))))))))))))
theorem wLst : type_of% (And.intro @List.map_cons.{0, 0} (And.intro @List.map_nil.{0, 0} (And.intro @List.mapM_cons.{0, 0, 0} (And.intro @List.mapM_nil.{0, 0, 0} (And.intro @List.length_cons.{0} (And.intro @List.length_nil.{0} (And.intro @List.length_append.{0} (And.intro @List.getElem?_cons_zero.{0} (And.intro @List.getElem?_cons_succ.{0} (And.intro @List.nil_append.{0} (And.intro @List.cons_append.{0} (And.intro @List.append_assoc.{0} (And.intro @get_app0 (And.intro @get_app (And.intro @set_app0 (And.intro @set_app (And.intro @List.set_cons_zero.{0} (And.intro @List.set_cons_succ.{0} (And.intro @List.drop_zero.{0} (And.intro @List.drop_succ_cons.{0} (And.intro @List.take_succ_cons.{0} (And.intro @List.take_zero.{0} (And.intro @List.drop_nil.{0} (And.intro @List.take_nil.{0} (And.intro @Option.map_some.{0, 0} (And.intro @Option.map_none.{0, 0} (And.intro @Option.bind_some.{0, 0} (And.intro @Option.bind_none.{0, 0} (And.intro @Option.pure_def.{0} (And.intro @Option.bind_eq_bind.{0} (And.intro @List.all_cons.{0} (@List.all_nil.{0})))))))))))))))))))))))))))))))) := And.intro @List.map_cons.{0, 0} (And.intro @List.map_nil.{0, 0} (And.intro @List.mapM_cons.{0, 0, 0} (And.intro @List.mapM_nil.{0, 0, 0} (And.intro @List.length_cons.{0} (And.intro @List.length_nil.{0} (And.intro @List.length_append.{0} (And.intro @List.getElem?_cons_zero.{0} (And.intro @List.getElem?_cons_succ.{0} (And.intro @List.nil_append.{0} (And.intro @List.cons_append.{0} (And.intro @List.append_assoc.{0} (And.intro @get_app0 (And.intro @get_app (And.intro @set_app0 (And.intro @set_app (And.intro @List.set_cons_zero.{0} (And.intro @List.set_cons_succ.{0} (And.intro @List.drop_zero.{0} (And.intro @List.drop_succ_cons.{0} (And.intro @List.take_succ_cons.{0} (And.intro @List.take_zero.{0} (And.intro @List.drop_nil.{0} (And.intro @List.take_nil.{0} (And.intro @Option.map_some.{0, 0} (And.intro @Option.map_none.{0, 0} (And.intro @Option.bind_some.{0, 0} (And.intro @Option.bind_none.{0, 0} (And.intro @Option.pure_def.{0} (And.intro @Option.bind_eq_bind.{0} (And.intro @List.all_cons.{0} (@List.all_nil.{0})))))))))))))))))))))))))))))))
theorem wLog : type_of% (And.intro @Nat.zero_add (And.intro @Nat.add_zero (And.intro @Nat.zero_mul (And.intro @Nat.le_refl (And.intro @and_self (And.intro @and_true (And.intro @true_and (And.intro @if_true.{1} (And.intro @if_false.{1} (And.intro @Bool.not_true (And.intro @Bool.not_false (And.intro @Bool.not_not (And.intro @Bool.false_bne (And.intro @Bool.true_bne (And.intro @Bool.bne_false (And.intro @Bool.false_eq_true (And.intro @Bool.true_eq_false (And.intro @Bool.and_self (And.intro @Bool.and_true (And.intro @Bool.true_and (And.intro @ite_self.{1} (And.intro @Int.toNat_natCast (And.intro @Int.toNat_zero (And.intro @Int.le_refl (And.intro @nat_nn (@nat_nneg)))))))))))))))))))))))))) := And.intro @Nat.zero_add (And.intro @Nat.add_zero (And.intro @Nat.zero_mul (And.intro @Nat.le_refl (And.intro @and_self (And.intro @and_true (And.intro @true_and (And.intro @if_true.{1} (And.intro @if_false.{1} (And.intro @Bool.not_true (And.intro @Bool.not_false (And.intro @Bool.not_not (And.intro @Bool.false_bne (And.intro @Bool.true_bne (And.intro @Bool.bne_false (And.intro @Bool.false_eq_true (And.intro @Bool.true_eq_false (And.intro @Bool.and_self (And.intro @Bool.and_true (And.intro @Bool.true_and (And.intro @ite_self.{1} (And.intro @Int.toNat_natCast (And.intro @Int.toNat_zero (And.intro @Int.le_refl (And.intro @nat_nn (@nat_nneg)))))))))))))))))))))))))
end Go.Pi
