/- PI 3: from the model's code to the small language. -/
import Derived.Test.YtdjcnfacjfnakaaGreatPi2
set_option linter.unusedSimpArgs false
set_option linter.unusedVariables false
namespace Go.Pi
def a1T:Value->Option T
 |.bool b=>some (.bool b)
 |.int k n=>some (.int k n)
 |.string s=>some (.str s.data.toList)
 |.pointer none=>some .nptr
 |.slice none 0 0=>some (.sl true [])
 |.nilIface=>some .nif
 |.nilFunc=>some .nfn
 |.map none=>some .nmp
 |_=>none
def a1U:Value->Option PV
 |.agg cs=>(cs.toList.mapM a1T).map λl=>.t (.agg l)
 |v=>(a1T v).map .t
structure Bu where
 b:Nat
 s:Nat
 e:Nat
 c:Nat
 f:Nat
structure Tb where
 fx:List (Nat×Nat)
 ef:List Nat
 xx:List (Nat×Nat)
 ba:List Nat
 bu:Option Bu
 fz:List Nat:=[]
 bz:List Nat:=[]
 mz:Bool:=false
 cz:List Nat:=[]
def Tb.z (tb:Tb):Tb:={ tb with bz:=[],mz:=true }
def a1V (l:List (Nat×Nat)) (f:Nat):Option Nat :=
 match l with
 |[]=>none
 |(k,g)::r=>if g=f then some k else a1V r f
def a1W (tb:Tb) (nt:Nat):Operand->Option Opd
 |.tmp k=>if k < nt then some (.s k) else none
 |.const v=>(a1U v).map .c
 |.global g=>some (.c (.gp g 0))
 |.func f=>(a1V tb.fx f).map λk=>.c (.fn k [])
def a1X (tb:Tb) (nt:Nat):Option Operand->Option (Option Opd)
 |none=>some none
 |some x=>(a1W tb nt x).map some
def a1Y (tb:Tb) (nt:Nat):List Operand->Option (List Opd)
 |[]=>some []
 |x::r=>match a1W tb nt x,a1Y tb nt r with
  |some y,some ys=>some (y::ys)
  |_,_=>none
def a1Z (P:Program) (t:TypeId):Option Bool :=
 match P.underlying t with
 |some (.struct _)=>some true
 |some (.array _ _)=>some true
 |some _=>some false
 |none=>none
def a2A (P:Program) (t:TypeId):Option Nat:=(P.info? t).map (·.size)
def a2B (P:Program) (t:TypeId):Option Nat:=(P.info? t).map (·.bytes)
def a2C:List Value->Option (List T)
 |[]=>some []
 |v::r=>match a1T v,a2C r with
  |some x,some xs=>some (x::xs)
  |_,_=>none
def a2D (P:Program) (t:TypeId):Option (List T) :=
 match P.info? t with
 |some i=>match i.zero with
  |some z=>a2C z.cells.toList
  |none=>none
 |none=>none
def tyZ (P:Program) (t:TypeId):Option T :=
 match P.info? t with
 |some i=>(match i.zero with
  |some (.agg cs)=>(a2C cs.toList).map .agg
  |some v=>a1T v
  |none=>none)
 |none=>none
def a2E (P:Program) (t:TypeId):Option Nat :=
 match P.underlying t with
 |some .bool=>some 0
 |some (.int _)=>some 1
 |some .string=>some 2
 |_=>none
def a2F (P:Program) (lv:TypeId->Option (List Nat)):Nat->List Field->Option (List Nat)
 |_,[]=>some []
 | n, f :: r => if (f.name == "_") = false /\ f.offset = n then (match a1Z P f.type, a2A P f.type, lv f.type with
  |some _,some s,some ks=>if s=ks.length then (a2F P lv (n+s) r).map (ks++·) else none
  |_,_,_=>none) else none
def a2G (P:Program):Nat->TypeId->Option (List Nat)
 |0,_=>none
 |d+1,t=>match P.underlying t with
  |some .bool=>some [0]
  |some (.int _)=>some [1]
  |some .string=>some [2]
  |some (.struct fs)=>if P.stoodInHeld t then none else a2F P (a2G P d) 0 fs.toList
  |some (.array k e)=>match a1Z P e,a2A P e,a2G P d e with
   |some _,some s,some ks=>if s=ks.length then some (List.replicate k ks).flatten else none
   |_,_,_=>none
  |_=>none
def a2H (P:Program) (t:TypeId):Option Nat :=
 match P.underlying t with
 |some (.slice _)=>some 0
 |some (.pointer _)=>some 1
 |some (.interface _)=>some 2
 |some (.func _ _ _)=>some 3
 |_=>none
def a2I:Operand->Option Nat
 |.const (.slice none 0 0)=>some 0
 |.const (.pointer none)=>some 1
 |.const .nilIface=>some 2
 |.const .nilFunc=>some 3
 |_=>none
def a2J (P:Program) (tb:Tb) (nt:Nat) (op:BinOp) (t:TypeId) (x y:Operand):Option O :=
 match a1W tb nt x,a1W tb nt y with
 |some a,some b =>
  match P.underlying t with
  |some (.int _)=>some (.bin op a b)
  |some .string=>some (.bin op a b)
  |some .bool=>(match op with|.eql=>some (.eqv false false [0] a b)|.neq=>some (.eqv true false [0] a b)|_=>none)
  |some (.struct _)=>(match a2G P 20 t,op with
   |some ks,.eql=>if P.eqGuardType P.depth t=false then some (.eqv false true ks a b) else none
   |some ks,.neq=>if P.eqGuardType P.depth t=false then some (.eqv true true ks a b) else none
   |_,_=>none)
  |some (.array _ _)=>(match a2G P 20 t,op with
   |some ks,.eql=>if P.eqGuardType P.depth t=false then some (.eqv false true ks a b) else none
   |some ks,.neq=>if P.eqGuardType P.depth t=false then some (.eqv true true ks a b) else none
   |_,_=>none)
  |_=>(match a2H P t,a2I y,op with
   |some n,some m,.eql=>if n=m then some (.isn false n a) else none
   |some n,some m,.neq=>if n=m then some (.isn true n a) else none
   |_,_,_=>none)
 |_,_=>none
def a2K (P:Program) (src dst:TypeId) (a:Opd):Option O :=
 match P.underlying src,P.underlying dst with
 |some (.int _),some (.int k)=>some (.cvi k a)
 |_,_=>none
def a2L (tb:Tb) (nt:Nat) (place:Nat->Option (Nat×Nat)):List (Nat×Operand)->Option (List (Nat×Nat×Opd))
 |[]=>some []
 |(i,x)::r=>match place i,a1W tb nt x,a2L tb nt place r with
  |some (o,s),some a,some l=>some ((o,s,a)::l)
  |_,_,_=>none
def a2M (P:Program):List Field->Option (List (Nat×Nat))
 |[]=>some []
 |f::r=>match a2A P f.type,a2M P r with
  |some s,some l=>some ((f.offset,s)::l)
  |_,_=>none
def a2N (tb:Tb) (t:TypeId) (zs:List T) (l:List (Nat×Nat×Opd)):O:=if tb.bz.contains t then .bldz zs l else .build zs l
def a2O (P:Program) (tb:Tb) (nt:Nat) (t:TypeId) (ps:List (Nat×Operand)):Option O :=
 match a2D P t,P.underlying t with
 |some zs,some (.struct fs)=>(match a2M P fs.toList with
  |some pl=>(a2L tb nt (pl[·]?) ps).map λl=>a2N tb t zs l
  |none=>none)
 |some zs,some (.array _ e)=>(match a2A P e with
  |some s=>(a2L tb nt (λi=>some (i * s,s)) ps).map λl=>.build zs l
  |none=>none)
 |_,_=>none
def a2P (P:Program) (tb:Tb) (nt:Nat) (t:TypeId) (len:Nat) (ps:List (Nat×Operand)):Option O :=
 match P.underlying t with
 |some (.slice e)=>(match a2A P e,a2D P e with
  |some s,some z=>if len * s<=16777216/\z.length=s/\0 < s then (a2L tb nt (λi=>some (i,s)) ps).map λl=>.bsl s len z (l.map λp=>(p.1,p.2.2)) else none
  |_,_=>none)
 |_=>none
def a2Q (P:Program) (tb:Tb) (nt:Nat) (t:TypeId) (x:Operand) (lo hi mx:Option Operand):Option O :=
 match a1W tb nt x,a1X tb nt lo,a1X tb nt hi,a1X tb nt mx with
 |some a,some l,some h,some m=>(match P.underlying t with
  |some (.slice e)=>(match a2A P e,m,h with
   |some _,some _,none=>none
   |some s,_,_=>some (.slc s a l h m)
   |none,_,_=>none)
  |_=>none)
 |_,_,_,_=>none
def a2R (P:Program) (t:Nat):Option O:=(a2D P t).map .alloc
def a2S (P:Program) (tb:Tb) (nt:Nat) (c:Call):Option O :=
 match c.callee,a1Y tb nt c.args.toList with
 |.value (.func f),some as=>(match a1V tb.fx f with
   |some k=>if tb.ef.contains k then some (.cale k as) else if tb.fz.contains k then some (.calz k as []) else some (.call k as)
   |none=>(a1V tb.xx f).map λk=>.xt k as)
 |.value x,some as=>(a1W tb nt x).map λg=>.calv g as
 |.builtin .len,some [a]=>(match (c.argTypes[0]?).bind P.underlying with
  |some .string=>some (.len true a)
  |some (.slice _)=>some (.len false a)
  |some (.array n _)=>some (.mov (.c (.t (.int .i64 n))))
  |_=>none)
 |.builtin .append,some [a,b]=>(match c.argTypes[0]?,(c.argTypes[1]?).bind P.underlying with
  |some t,some u=>(match P.underlying t with
   |some (.slice e)=>(match a2A P e,a2B P e,a2D P e,u with
    |some s,some y,some z,.slice _=>if z.length=s/\0 < s then (if tb.ba.contains t then some (.apb s y a b) else some (.app s y a b)) else none
    |some s,some y,some z,.string=>if z.length=s/\0 < s then some (.app s y a b) else none
    |_,_,_,_=>none)
   |_=>none)
  |_,_=>none)
 |.builtin .delete,some [a,k]=>(match (c.argTypes[0]?).bind P.underlying with
  |some (.map kt _)=>(a2E P kt).map λkd=>.mdl kd a k
  |_=>none)
 |.builtin .max,some [a,b]=>some (.mxn true a b)
 |.builtin .min,some [a,b]=>some (.mxn false a b)
 |_,_=>none
def a2T (P:Program) (tb:Tb) (nt:Nat) (o:Oper):Option O :=
 let e:=a1W tb nt
 match o.op with
 |.move x=>(e x).map .mov
 |.assign x=>(e x).map .mov
 |.pick c a b=>(match e c,e a,e b with
  |some c,some a,some b=>some (.pick c a b)
  |_,_,_=>none)
 |.alloc t=>a2R P t
 |.box _ x=>(e x).map .box
 |.build t ps=>a2O P tb nt t ps.toList
 |.buildSlice t len ps=>a2P P tb nt t len ps.toList
 |.load t a=>(match a1Z P t,a2A P t,e a with
  |some ag,some n,some a=>some (.load ag n a)
  |_,_,_=>none)
 |.store t a v=>(match a2A P t,e a,e v with
  |some n,some a,some v=>some (.store n a v)
  |_,_,_=>none)
 |.nilCheck x=>(e x).map .nck
 |.binOp op t x y _=>a2J P tb nt op t x y
 |.unOp op _ x=>(e x).map (.un op)
 |.convert s d x=>(e x).bind (a2K P s d)
 |.makeSlice t l c=>(match P.underlying t,e l,e c with
  |some (.slice el),some l,some c=>(match a2A P el,a2B P el,a2D P el with
   |some s,some y,some z=>some (if tb.mz&&!z.any T.isAgg then .mkz s y z l c else .mks s y z l c)
   |_,_,_=>none)
  |_,_,_=>none)
 |.slice t x lo hi mx=>a2Q P tb nt t x lo hi mx
 |.fieldAddr t x f=>(match P.underlying t,e x with
  |some (.struct fs),some a=>(match fs[f]? with
   |some f=>(match a2A P f.type with
    |some s=>if s=0 then none else some (.fad f.offset a)
    |none=>none)
   |none=>none)
  |_,_=>none)
 |.field t x f=>(match P.underlying t,e x with
  |some (.struct fs),some a=>(match fs[f]? with
   |some f=>(match a1Z P f.type,a2A P f.type with
    |some ag,some s=>some (.fld ag f.offset s a)
    |_,_=>none)
   |none=>none)
  |_,_=>none)
 |.indexAddr t x i=>(match P.underlying t,e x,e i with
  |some (.array n el),some a,some i=>(a2A P el).map λs=>.iaa n s a i
  |some (.slice el),some a,some i=>(a2A P el).map λs=>.ias s a i
  |_,_,_=>none)
 |.index t x i=>(match P.underlying t,e x,e i with
  |some (.array n el),some a,some i=>(match a1Z P el,a2A P el with
   |some ag,some s=>some (.ixa ag n s a i)
   |_,_=>none)
  |some .string,some a,some i=>some (.ixs a i)
  |_,_,_=>none)
 |.extract x k=>(e x).map (.ext k)
 |.call c=>a2S P tb nt c
 |.makeInterface t x=>(match P.underlying t,e x with
  |some (.interface _),_=>none
  |some _,some _=>some (.mov (.c (.t .ifx)))
  |_,_=>none)
 |.makeFunc (.func f) first caps=>if first.size=0 then (match a1V tb.fx f,a1Y tb nt caps.toList with
  |some k,some cs=>some (.mkf k cs)
  |_,_=>none) else none
 |.makeMap t r=>(match P.underlying t,r with
  |some (.map _ _),none=>some .mkm
  |some (.map _ _),some (.const (.int _ _))=>some .mkm
  |_,_=>none)
 |.lookup t x i ok=>(match P.underlying t,e x,e i with
  |some (.map kt el),some a,some i=>(match a2E P kt,tyZ P el with
   |some kd,some z=>some (.mlk ok kd z a i)
   |_,_=>none)
  |_,_,_=>none)
 |.mapUpdate t x i v=>(match P.underlying t,e x,e i,e v with
  |some (.map kt _),some a,some i,some v=>(a2E P kt).map λkd=>.mup kd a i v
  |_,_,_,_=>none)
 |.insert t x i v=>(match P.underlying t,e x,e i,e v with
  |some (.map kt _),some a,some i,some v=>(a2E P kt).map λkd=>.mup kd a i v
  |_,_,_,_=>none)
 |_=>none
def a2U (nt:Nat):Option Tmp->Bool
 |none=>true
 |some d=>decide (d < nt)
def a2V (nt:Nat) (ops:Array Oper):Option (Nat×Bool)->Option (Option (Nat×Bool))
 |none=>some none
 |some (j,b)=>match (ops[j]?).bind (·.dst) with
  |some d=>if d < nt then some (some (d,b)) else none
  |none=>none
def a2W (P:Program) (tb:Tb) (nt:Nat) (ops:Array Oper) (o:Oper):Ins :=
 match a2V nt ops o.guard,a2U nt o.dst with
 |some g,true=>⟨o.dst,g,(a2T P tb nt o).getD .bad⟩
 |_,_=>⟨none,none,.bad⟩
def cls:O->Nat
 |.box _=>2
 |.alloc _=>2
 |.store _ _ _=>2
 |.mks _ _ _ _ _=>2
 |.cale _ _=>2
 |.calv _ _=>2
 |.app _ _ _ _=>2
 |.mkm=>2
 |.mup _ _ _ _=>2
 |.mdl _ _ _=>2
 |.apb _ _ _ _=>2
 |.calk _ _ _=>2
 |.calz _ _ _=>2
 |.bldz _ _=>2
 |.stok _ _ _ _=>2
 |.ldk _ _ _ _=>1
 |.load _ _ _=>1
 |.mlk _ _ _ _ _=>1
 |_=>0
def Opd.rd:Opd->List Nat
 |.s k=>[k]
 |.c _=>[]
def a2X:Option Opd->List Nat
 |none=>[]
 |some x=>x.rd
def O.rds:O->List Nat
 |.mov a=>a.rd
 |.pick c a b=>c.rd++(a.rd++b.rd)
 |.box a=>a.rd
 |.alloc _=>[]
 |.build _ ps=>ps.flatMap λp=>p.2.2.rd
 |.bldz _ ps=>ps.flatMap λp=>p.2.2.rd
 |.calz _ as ks=>as.flatMap Opd.rd++ks
 |.bsl _ _ _ ps=>ps.flatMap λp=>p.2.rd
 |.load _ _ a=>a.rd
 |.store _ a v=>a.rd++v.rd
 |.nck a=>a.rd
 |.bin _ a b=>a.rd++b.rd
 |.eqv _ _ _ a b=>a.rd++b.rd
 |.isn _ _ a=>a.rd
 |.un _ a=>a.rd
 |.cvi _ a=>a.rd
 |.mks _ _ _ l c=>l.rd++c.rd
 |.mkz _ _ _ l c=>l.rd++c.rd
 |.slc _ a lo hi mx=>a.rd++(a2X lo++(a2X hi++a2X mx))
 |.fad _ a=>a.rd
 |.fld _ _ _ a=>a.rd
 |.iaa _ _ a i=>a.rd++i.rd
 |.ias _ a i=>a.rd++i.rd
 |.ixa _ _ _ a i=>a.rd++i.rd
 |.ixs a i=>a.rd++i.rd
 |.ext _ a=>a.rd
 |.call _ as=>as.flatMap Opd.rd
 |.cale _ as=>as.flatMap Opd.rd
 |.calv g as=>g.rd++as.flatMap Opd.rd
 |.len _ a=>a.rd
 |.app _ _ a b=>a.rd++b.rd
 |.mkf _ caps=>caps.flatMap Opd.rd
 |.xt _ as=>as.flatMap Opd.rd
 |.mkm=>[]
 |.mlk _ _ _ a i=>a.rd++i.rd
 |.mup _ a k v=>a.rd++(k.rd++v.rd)
 |.mdl _ a k=>a.rd++k.rd
 |.mxn _ a b=>a.rd++b.rd
 |.apb _ _ a b=>a.rd++b.rd
 |.ldk _ _ a k=>a.rd++[k]
 |.ldt _ _ a=>a.rd
 |.calk _ as ks=>as.flatMap Opd.rd++ks
 |.stok _ a v ks=>a.rd++(v.rd++ks)
 |.bad=>[]
def Ins.rds (i:Ins):List Nat :=
 match i.g with
 |some (k,_)=>k::i.o.rds
 |none=>i.o.rds
def a2Y (d:Option Nat) (l:List Nat):Bool :=
 match d with
 |none=>true
 |some k=>!l.contains k
def a2Z:O->Bool
 |.alloc _=>true
 |.box _=>true
 |.app _ _ _ _=>true
 |.mkm=>true
 |_=>false
def a3A:O->Bool
 |.app _ _ _ _=>true
 |_=>false
def a3B:O->Bool
 |.alloc _=>true
 |.box _=>true
 |.mkm=>true
 |_=>false
def a3C:O->O->Bool
 |.ldk _ _ _ k,.calk _ _ ks=>ks.contains k
 |.ldk _ _ _ k,.stok _ _ _ ks=>ks.contains k
 |.ldk _ _ _ k,.calz _ _ ks=>ks.contains k
 |_,_=>false
def a3D (i j:Ins):Bool :=
 a2Y i.d j.rds&&a2Y j.d i.rds&&a2Y i.d j.d.toList&&(decide (cls i.o * cls j.o<=1) || ((decide (cls i.o<=1)&&a2Z j.o) || ((a3C i.o j.o || a3C j.o i.o) || (a3A i.o&&(decide (cls j.o<=1) || a3B j.o)))))
def a3E (ops:Array Oper):Nat->Nat->Nat->Bool
 |0,_,_=>false
 |n+1,k,j=>match ops[k]? with
  |some o=>o.after.toList.any λe=>Region.binds .any e&&(e.on == j || a3E ops n e.on j)
  |none=>false
def a3F (ops:Array Oper) (is:List Ins) (k:Nat):Bool :=
 match ops[k]?,is[k]? with
 |some o,some i =>
  o.after.toList.all (λe=>!Region.binds .any e || decide (e.on < k)) &&
  (List.range k).all λj=>match is[j]? with
   |some q=>a3D q i || (o.after.toList.any (λe=>Region.binds .any e&&e.on == j) || a3E ops 8 k j)
   |none=>false
 |_,_=>false
def a3G (ops:Array Oper) (is:List Ins):Bool:=(List.range ops.size).all (a3F ops is)
def a3H:List Ins->Nat->Option O
 |[],_=>none
 |i::r,k=>match i.d with
  |some d=>if d=k then some i.o else a3H r k
  |none=>a3H r k
def a3I (is:List Ins):Nat->Opd->Nat×Nat
 |0,_=>(2,0)
 |_,.c _=>(1,0)
 |n+1,.s k=>match a3H is k with
  |none=>(0,k)
  |some (.fad _ a)=>a3I is n a
  |some (.nck a)=>a3I is n a
  |some (.mov a)=>a3I is n a
  |some (.ias _ _ _)=>(1,0)
  |some _=>(2,0)
def a3J (is:List Ins):List Ins->List Nat
 |[]=>[]
 |i::r=>match i.o with
  |.load _ _ a=>(match a3I is 8 a with
   |(0,k)=>let l:=a3J is r
    if l.contains k then l else k::l
   |_=>a3J is r)
  |_=>a3J is r
def a3K (is:List Ins) (ks:List Nat):O->O
 |.load ag n a=>(match a3I is 8 a with
  |(0,k)=>.ldk ag n a k
  |(1,_)=>.ldt ag n a
  |_=>.load ag n a)
 |.cale f as=>.calk f as ks
 |.store n a v=>.stok n a v (match a3I is 8 a with
  |(0,k)=>ks.filter λj=>!(j == k)
  |_=>ks)
 |.calz f as []=>.calz f as ks
 |o=>o
def a3L (is:List Ins) (ks:List Nat) (i:Ins):Ins:=⟨i.d,i.g,a3K is ks i.o⟩
def a3M (P:Program) (tb:Tb) (nt:Nat) (ops:Array Oper):Option (List Ins) :=
 let is:=ops.toList.map (a2W P tb nt ops)
 if a3G ops is then some is else if a3G ops (is.map (a3L is (a3J is is))) then some (is.map (a3L is (a3J is is))) else none
def compC (P:Program) (tb:Tb) (nt:Nat):Code->Co
 |.skip=>.skip
 |.region _ ops dr =>
  let is:=ops.toList.map (a2W P tb nt ops)
  if dr then (if P.follows .mixedOrders then (match a3M P tb nt ops with
   |some l=>.reg true l
   |none=>match a3M P tb.z nt ops with
    |some l=>.reg true l
    |none=>.bad) else .bad) else .reg false is
 |.seq a b=>.seq (compC P tb nt a) (compC P tb nt b)
 |.cond c a b=>match a1W tb nt c with
  |some c=>.cond c (compC P tb nt a) (compC P tb nt b)
  |none=>.bad
 |.block id b=>.block id (compC P tb nt b)
 |.loop b=>.loop (compC P tb nt b)
 |.exit id=>.exit id
 |.ret=>.ret
 |_=>.bad
def a3N (P:Program) (nt:Nat):List ResultVar->Option (List (Nat×Option (Bool×Nat)))
 |[]=>some []
 |.tmp k::r=>if k < nt then (a3N P nt r).map ((k,none)::·) else none
 |.cell k t::r=>match a1Z P t,a2A P t,a3N P nt r with
  |some ag,some n,some l=>if k < nt/\n < 1000 then some ((k,some (ag,n))::l) else none
  |_,_,_=>none
def a3O (cz:List Nat):List TypeId->List (Nat×Option (Bool×Nat))->List (Nat×Option (Bool×Nat))
 |t::ts,(k,none)::r=>(if cz.contains t then (k,some (true,1000)) else (k,none))::a3O cz ts r
 |t::ts,(k,some (ag,n))::r=>(if cz.contains t/\n≠0 then (k,some (ag,n+1000)) else (k,some (ag,n)))::a3O cz ts r
 |_,l=>l
def a3P (P:Program) (tb:Tb) (fn:Func):Option Fn :=
 match fn.body,a3N P fn.ntmps fn.results.toList with
 | some c, some res => if fn.params.size + fn.nfree <= fn.ntmps /\ (fn.name == "runtime.NumGoroutine") = false then some ⟨fn.params.size + fn.nfree, fn.ntmps, a3O tb.cz fn.resultTypes.toList res, compC P tb fn.ntmps c⟩ else none
 |_,_=>none
end Go.Pi
