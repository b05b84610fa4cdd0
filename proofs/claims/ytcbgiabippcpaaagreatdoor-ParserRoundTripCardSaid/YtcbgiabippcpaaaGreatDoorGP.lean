/- The table of functions and the variables are the program's. -/
import Derived.Test.YtcbgiabippcpaaaGreatDoorM30
import Derived.Test.YtcbgiabippcpaaaGreatDoorZ1
import Derived.Test.YtcbgiabippcpaaaGreatDoorFnA
import Derived.Test.YtcbgiabippcpaaaGreatDoorSh
import Derived.Test.YtcbgiabippcpaaaGreatDoorZB
import Derived.Test.YtcbgiabippcpaaaGreatDoorPi30
import Derived.Test.YtcbgiabippcpaaaGreatDoorPi35
import Derived.Test.YtcbgiabippcpaaaGreatDoorTie
import Derived.Test.YtcbgiabippcpaaaGreatDoorCards
import Derived.WalkKit
import Derived.ProofKit
import Derived.OpenShut
import Derived.Deep.DeepHandedRow
import Derived.Lib.LaidTab
import Derived.LaidSub
import Derived.Stop.LaidErr
import Derived.Stop.ErrReads
import Derived.Shelf.Vars
set_option linter.unusedSimpArgs false
set_option linter.unusedVariables false
set_option maxRecDepth 100000
namespace Go.Proofs.YtcbgiabippcpaaaGreatDoor
open Go.Pi Go.ChangeShapes Go.WideShapes Go.ChangeAt Go.RowKit
theorem own:ownKnob Tryz.prog.godebug=none:=by kernel_rfl
theorem fxs:fxB Tryz.prog tb.fx=true:=by kernel_rfl
theorem xfB:Extern.find Tryz.f140=some Extern.BytealgIndexByte.indexByte:=by kernel_rfl
theorem xnB:Extern.findNext Tryz.f140=none:=by kernel_rfl
theorem enPu:∀ args w,(callFunc 113 args).run Tryz.prog w=.ok (.enter 113 args) w:=enters_of Tryz.func113 (by kernel_rfl) rfl
theorem enCo:∀ args w,(callFunc 114 args).run Tryz.prog w=.ok (.enter 114 args) w:=enters_of Tryz.func114 (by kernel_rfl) rfl
theorem f2N {w w':World} {s:ByteArray} (h:w'=w∨w'=Lib.bytesWorld w 5 s):Below w.heap.size w w':=by
 rcases h with rfl|rfl
 ·exact Below.refl _ _
 ·exact Lib.bytesWorld_below w 5 s
theorem tbOk:TbOk Tryz.prog tb where
 fx k g h:=(c9X fxs k g h).2
 xx k g h:=by
  have hm:(k,g)∈[(1,140),(68,114),(12325,113)]:=h
  simp only[g7W,List.not_mem_nil,or_false,Prod.mk.injEq] at hm
  rcases hm with⟨rfl,rfl⟩|⟨rfl,rfl⟩|⟨rfl,rfl⟩
  ·exact c9S Tryz.func140 (by kernel_rfl) (by kernel_rfl) xnB xfB
  ·exact c9T (m:=4) enCo fun s sub n w hs hm=>Any.strings_Contains lays144 s sub n w hs hm
  ·refine c9U (gs:=2) (gr:=3) (tN:=164) (by decide) enPu ?_ ?_ ?_
   ·intro s hs u hu w
    exact(Any.strconv_ParseUint_10_at64_ok laysPu14 s hs u hu w).mono fun e w' h=>⟨h.1,f2N h.2⟩
   ·intro s hs h1 h2 ev w hv hev
    exact(Any.strconv_ParseUint_10_at64_syntax laysPu14 s hs (by
     cases hq:Lib.parseUintB 64 s.data.toList with
     |ok u=>exact absurd hq (h1 u)
     |range=>exact absurd hq h2
     |_=>rfl) ev w hv hev).mono fun e w' ⟨N,he,_,_,hb⟩=>⟨_,he,hb⟩
   ·intro s hs hr ev w hv hev
    exact(Any.strconv_ParseUint_10_at64_range laysPu14 s hs hr ev w hv hev).mono fun e w' ⟨N,he,_,_,hb⟩=>⟨_,he,hb⟩
 bu u h:=by
  have hu:u=⟨82,22,5,80,39⟩:=(Option.some.inj h).symm
  subst hu
  exact f2H lays169 extra169 rfl rfl ⟨_,_,Tryz.func80,rfl,by kernel_rfl⟩ ⟨_,_,Tryz.func39,rfl,by kernel_rfl⟩ cck_used cck_fresh
theorem fnOk:FnOk Tryz.prog tb F:=c9Y tbOk (fun k g h=>(c9X fxs k g h).1) f2D
theorem gs0 : Tryz.prog.globalNamed "strconv.ErrSyntax" = some 2 := by kernel_rfl
theorem gr0 : Tryz.prog.globalNamed "strconv.ErrRange" = some 3 := by kernel_rfl
theorem gp0 : Tryz.prog.globalNamed "internal/strconv.uint64pow10" = some 1 := by kernel_rfl
theorem gpt:(Tryz.prog.globals[1]?).map (·.type)=some 169:=by kernel_rfl
theorem go0 : Tryz.prog.globalNamed "moidore/parser.operators" = some 0 := by kernel_rfl
theorem gst:(Tryz.prog.globals[2]?).map (·.type)=some 92:=by kernel_rfl
theorem grt:(Tryz.prog.globals[3]?).map (·.type)=some 92:=by kernel_rfl
theorem got:(Tryz.prog.globals[0]?).map (·.type)=some 150:=by kernel_rfl
theorem f2O:Tryz.prog.cellsOf 180=1:=by kernel_rfl
theorem f2P:Tryz.prog.cellsOf 9=1:=by kernel_rfl
theorem star : "*" ++ "errors.errorString" = "*errors.errorString" := by decide
theorem rowE (u : TypeId) (h : Tryz.prog.typeName? 3 u = some "*errors.errorString") : u = 178 :=
 typeName_ptr_named (nm := "errors.errorString") (by rw [star]; kernel_rfl) (by kernel_rfl) (by decide) u (by rw [star]; exact h)
abbrev laid6 : List (String × DataW Unit) := [("math/bits.deBruijn32tab", Rows.laid_math_bits_deBruijn32tab), ("math/bits.deBruijn64tab", Rows.laid_math_bits_deBruijn64tab), ("internal/strconv.uint64pow10", Rows.laid_internal_strconv_uint64pow10), ("strconv.ErrRange", Rows.laid_strconv_ErrRange), ("strconv.ErrSyntax", Rows.laid_strconv_ErrSyntax), ("moidore/parser.operators", Rows.laid_moidore_parser_operators)]
theorem var0 {W:World} (h:laidMetH Tryz.prog laid6 W):∃ t v,W.cell? ⟨2,0,none⟩=some (.iface t v):=by
 have h1 := h.filter fun x => x.1 == "strconv.ErrSyntax"
 have e : laid6.filter (fun x => x.1 == "strconv.ErrSyntax") = [("strconv.ErrSyntax", Rows.laid_strconv_ErrSyntax)] := by kernel_rfl
 rw[e] at h1
 obtain⟨a,s,hv,_,_,_⟩:=laid_sentinel (r:=[]) h1 gs0 gst Tryz.underlying92 rowE Tryz.underlying178 Tryz.underlying180 rfl rfl Tryz.underlying9 f2O f2P
 exact⟨_,_,by have:=World.var?_cell gs0 hv 0;simpa using this⟩
theorem var1 {W:World} (h:laidMetH Tryz.prog laid6 W):∃ t v,W.cell? ⟨3,0,none⟩=some (.iface t v):=by
 have h1 := h.filter fun x => x.1 == "strconv.ErrRange"
 have e : laid6.filter (fun x => x.1 == "strconv.ErrRange") = [("strconv.ErrRange", Rows.laid_strconv_ErrRange)] := by kernel_rfl
 rw[e] at h1
 obtain⟨a,s,hv,_,_,_⟩:=laid_sentinel (r:=[]) h1 gr0 grt Tryz.underlying92 rowE Tryz.underlying178 Tryz.underlying180 rfl rfl Tryz.underlying9 f2O f2P
 exact⟨_,_,by have:=World.var?_cell gr0 hv 0;simpa using this⟩
theorem var2 {W:World} (h:W.ShapedOpen Tryz.prog):∃ m,W.cell? ⟨4,0,none⟩=some (.int .i64 m) :=
 Go.Proofs.cell_of_shapedOpen_int (t:=3) (zero:=#[.int .i64 0]) h (by decide +kernel) (by kernel_rfl) rfl (by kernel_rfl) (by kernel_rfl) Tryz.underlying3
abbrev opRows:List (List (List UInt8×Int)):=[[([111,114],19),([],0),([],0),([],0)],[([97,110,100],18),([],0),([],0),([],0)],[([61,61],14),([33,61],15),([60],16),([60,61],17)],[([43],12),([45],13),([],0),([],0)],[([42],11),([],0),([],0),([],0)]]
def dOp (x:List UInt8×Int):DataW Unit:=.agg [.lit (.string x.1),.lit (.int .i64 x.2)]
def tOp (x:List UInt8×Int):List T:=[.str x.1,.int .i64 x.2]
def dRow (r:List (List UInt8×Int)):DataW Unit:=.agg (r.map dOp)
def tRow (r:List (List UInt8×Int)):List T:=(r.map tOp).flatten
theorem f2Q:(Rows.laid_moidore_parser_operators:DataW Unit)=.agg (opRows.map dRow):=by kernel_rfl
theorem f2R:(opRows.map tRow).flatten=e3D:=by rfl
theorem f2S:Tryz.prog.cellsOf 148=2:=by kernel_rfl
theorem f2T:Tryz.prog.cellsOf 149=4 * Tryz.prog.cellsOf 148:=by kernel_rfl
theorem f2U:Tryz.prog.cellsOf 150=5 * Tryz.prog.cellsOf 149:=by kernel_rfl
theorem f2V:Tryz.prog.cellsOf 3=1:=by kernel_rfl
theorem var3 {W:World} (h:laidMetH Tryz.prog laid6 W):∀ (j:Nat) (x:T),e3D[j]?=some x→∃ v,W.cell? ⟨0,j,none⟩=some v∧TRep (b4Q W) W v x:=by
 have h1 := h.filter fun x => x.1 == "moidore/parser.operators"
 have e : laid6.filter (fun x => x.1 == "moidore/parser.operators") = [("moidore/parser.operators", Rows.laid_moidore_parser_operators)] := by kernel_rfl
 rw[e] at h1
 have h2 : laidMet Tryz.prog [("moidore/parser.operators", (Rows.laid_moidore_parser_operators : DataW Unit))] W := h1
 obtain⟨ps,⟨g',t',cs,fuel,p,q,hg',ht',hvar,hd,_,_⟩,_⟩:=h2
 obtain rfl:=Option.some.inj (go0.symm.trans hg')
 obtain rfl:=Option.some.inj (got.symm.trans ht')
 rw[f2Q] at hd
 have hC:=f2L (dE:=dRow) (tE:=tRow) (l:=opRows) Tryz.underlying150 f2U (fun f us a q hq=>f2L (dE:=dOp) (tE:=tOp) (l:=a) Tryz.underlying149 f2T (fun f us a q hq=>f2M Tryz.underlying148 Tryz.underlying9 Tryz.underlying3 f2P f2V rfl rfl f2S hq) hq) hd
 rw[f2R] at hC
 intro j x hx
 have hlt:j < cs.toList.length:=by rw[hC.1];exact(g7B.1 hx).1
 have hv:cs.toList[j]?=some cs.toList[j]:=g6Z hlt
 have hcell:=World.var?_cell go0 hvar j
 refine⟨cs.toList[j],by rw[hcell];simp,?_⟩
 rcases hC.2 j _ x hv hx with⟨s,e1,e2⟩|⟨k,n,e1,e2⟩
 ·rw[e1,e2];exact .str s
 ·rw[e1,e2];exact .int k n
theorem tabP {W : World} (h : laidMetH Tryz.prog laid6 W) : Lib.TabIs Tryz.prog W "internal/strconv.uint64pow10" .u64 p10 := by
 have h1 := h.filter fun x => x.1 == "internal/strconv.uint64pow10"
 have e : laid6.filter (fun x => x.1 == "internal/strconv.uint64pow10") = [("internal/strconv.uint64pow10", Rows.laid_internal_strconv_uint64pow10)] := by kernel_rfl
 rw[e] at h1
 exact Lib.tabIs_of_head (rest:=[]) gp0 gpt Tryz.underlying169 Tryz.underlying35 (by kernel_rfl) (by kernel_rfl) h1
def glW (m:Int):Nat→Option (List T)
 |0=>some e3D
 |2=>some [.ifx]
 |3=>some [.ifx]
 |4=>some [.int .i64 m]
 |1=>some (p10.map (T.int .u64))
 |_=>none
theorem f2W (m:Int):GlOk (glW m):=⟨rfl,rfl,⟨m,rfl⟩,rfl⟩
theorem glob {W:World} {m:Int} (h:laidMetH Tryz.prog laid6 W) (hm:W.cell? ⟨4,0,none⟩=some (.int .i64 m)):b5D (glW m) W:=by
 intro g ts j x hg hx
 obtain⟨t0,v0,h0⟩:=var0 h
 obtain⟨t1,v1,h1⟩:=var1 h
 unfold glW at hg
 split at hg
 ·injection hg with hg
  subst hg
  obtain⟨v,hv,hr⟩:=var3 h j x hx
  exact⟨v,hv,hr,b4T hv⟩
 ·injection hg with hg
  subst hg
  match j,hx with
  |0,hx=>simp at hx;subst hx;exact⟨_,h0,.ifx _ _,b4T h0⟩
  |j+1,hx=>simp at hx
 ·injection hg with hg
  subst hg
  match j,hx with
  |0,hx=>simp at hx;subst hx;exact⟨_,h1,.ifx _ _,b4T h1⟩
  |j+1,hx=>simp at hx
 ·injection hg with hg
  subst hg
  match j,hx with
  |0,hx=>simp at hx;subst hx;exact⟨_,hm,.int _ _,b4T hm⟩
  |j+1,hx=>simp at hx
 ·exact c9W (l:=[(1,.u64,p10)]) (fun g k zs hm i hi=>by
   simp only[g8E,Prod.mk.injEq] at hm
   obtain⟨rfl,rfl,rfl⟩:=hm
   exact(tabP h).cell gp0 i hi) 1 ts j x hg hx
 ·cases hg
theorem f2X:laidOutB Tryz.prog=true:=by kernel_rfl
theorem f2Y {H:Type} (d:DataW H):1≤Rows.uptoBulk d:=by
 cases d with
 |lit l=>cases l <;> simp [Rows.uptoBulk]
 |_=>simp [Rows.uptoBulk]
theorem bkOk {H:Type}:BkOk (H:=H) Rows.uptoBulk Rows.uptoBulkAll where
 one:=f2Y
 str l:=by simp [Rows.uptoBulk]
 sl a b:=by simp only[Rows.uptoBulk];omega
 agg ds:=by simp only[Rows.uptoBulk];omega
 nil:=by simp [Rows.uptoBulkAll]
 cons d r:=by simp [Rows.uptoBulkAll]
abbrev pow10:List Int:=p10
def bru32:List Int:=[0,1,28,2,29,14,24,3,30,22,20,15,25,17,4,8,31,27,13,23,21,19,16,7,26,12,18,6,11,5,10,9]
def bru64:List Int:=[0,1,56,2,57,49,28,3,61,58,42,50,38,29,17,4,62,47,59,36,45,43,51,22,53,39,33,30,24,18,12,5,63,55,48,27,60,41,37,16,46,35,44,21,52,32,23,11,54,26,40,15,34,20,31,10,25,14,19,9,13,8,7,6]
abbrev synS:ByteArray:={ data:=#[105,110,118,97,108,105,100,32,115,121,110,116,97,120] }
abbrev rngS:ByteArray:={ data:=#[118,97,108,117,101,32,111,117,116,32,111,102,32,114,97,110,103,101] }
noncomputable def low:Nat:=(World.holding Tryz.prog default ⟨#[],#[],[]⟩).heap.size
def f2Z (cs:Array Value):Obj→Obj
 |.cells _ t z=>.cells cs t z
 |o=>o
noncomputable def f3A (os:Os):World:=World.holding Tryz.prog os ⟨#[.cells #[.string synS] 180,.cells #[.string rngS] 180],#[],[]⟩
def f3B:Array Value:=(opRows.flatten.map fun x=>[Value.string ⟨x.1.toArray⟩,Value.int .i64 x.2]).flatten.toArray
noncomputable def f3C (os:Os):World :=
 { f3A os with heap:=(((((((f3A os).heap.modify 2 (f2Z #[.iface 178 (.pointer (some ⟨low,0,none⟩))])).modify 3 (f2Z #[.iface 178 (.pointer (some ⟨low+1,0,none⟩))])).modify 1 (f2Z (pow10.map fun z=>Value.int .u64 z).toArray)).modify 5 (f2Z (bru32.map fun z=>Value.int .u8 z).toArray)).modify 6 (f2Z (bru64.map fun z=>Value.int .u8 z).toArray)).modify 0 (f2Z f3B)) }
end Go.Proofs.YtcbgiabippcpaaaGreatDoor
