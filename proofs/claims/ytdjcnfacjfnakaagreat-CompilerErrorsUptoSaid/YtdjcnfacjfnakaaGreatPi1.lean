/- PI 1: closed trees, values, the small language of regions, and its interpreter. -/
import GoSem.Dispatch
import Derived.Lib.IndexMore
import Derived.Lib.ParseIntB
import Derived.Lib.Join
import Derived.Lib.Split
theorem g4O : type_of% @Array.getElem?_eq_getElem.{0} := @Array.getElem?_eq_getElem
theorem g4P : type_of% @Array.getElem?_eq_some_iff.{0} := @Array.getElem?_eq_some_iff
theorem g4Q : type_of% @Array.getElem?_setIfInBounds_ne.{0} := @Array.getElem?_setIfInBounds_ne
theorem g4R : type_of% @Array.length_toList.{0} := @Array.length_toList
theorem g4S : type_of% @Bool.and_eq_true := @Bool.and_eq_true
theorem g4T : type_of% @Bool.false_eq_true := @Bool.false_eq_true
theorem g4U : type_of% @Bool.not_false := @Bool.not_false
theorem g4V : type_of% @Bool.not_true := @Bool.not_true
theorem g4W : type_of% @Bool.or_eq_false_iff := @Bool.or_eq_false_iff
theorem g4X : type_of% @Bool.true_and := @Bool.true_and
theorem g4Y : type_of% @Iff.rfl := @Iff.rfl
theorem g4Z : type_of% @Int.toNat_natCast := @Int.toNat_natCast
theorem g5A : type_of% @List.all_eq_true.{0} := @List.all_eq_true
theorem g5B : type_of% @List.append_assoc.{0} := @List.append_assoc
theorem g5C : type_of% @List.append_nil.{0} := @List.append_nil
theorem g5D : type_of% @List.cons.injEq.{0} := @List.cons.injEq
theorem g5E : type_of% @List.drop_drop.{0} := @List.drop_drop
theorem g5F : type_of% @List.drop_zero.{0} := @List.drop_zero
theorem g5G : type_of% @List.eq_nil_of_length_eq_zero.{0} := @List.eq_nil_of_length_eq_zero
theorem g5H : type_of% @List.flatten_cons.{0} := @List.flatten_cons
theorem g5I : type_of% @List.flatten_nil.{0} := @List.flatten_nil
theorem g5J : type_of% @List.getElem?_append_left.{0} := @List.getElem?_append_left
theorem g5K : type_of% @List.getElem?_append_right.{0} := @List.getElem?_append_right
theorem g5L : type_of% @List.getElem?_drop.{0} := @List.getElem?_drop
theorem g5M : type_of% @List.getElem?_eq_getElem.{0} := @List.getElem?_eq_getElem
theorem g5N : type_of% @List.getElem?_eq_none.{0} := @List.getElem?_eq_none
theorem g5O : type_of% @List.getElem?_eq_some_iff.{0} := @List.getElem?_eq_some_iff
theorem g5P : type_of% @List.getElem?_map.{0, 0} := @List.getElem?_map
theorem g5Q : type_of% @List.getElem?_of_mem.{0} := @List.getElem?_of_mem
theorem g5R : type_of% @List.getElem?_range := @List.getElem?_range
theorem g5S : type_of% @List.getElem?_set_ne.{0} := @List.getElem?_set_ne
theorem g5T : type_of% @List.getElem?_set_self.{0} := @List.getElem?_set_self
theorem g5U : type_of% @List.getElem?_take.{0} := @List.getElem?_take
theorem g5V : type_of% @List.getElem?_toArray.{0} := @List.getElem?_toArray
theorem g5W : type_of% @List.length_append.{0} := @List.length_append
theorem g5X : type_of% @List.length_cons.{0} := @List.length_cons
theorem g5Y : type_of% @List.length_map.{0, 0} := @List.length_map
theorem g5Z : type_of% @List.length_nil.{0} := @List.length_nil
theorem g6A : type_of% @List.length_set.{0} := @List.length_set
theorem g6B : type_of% @List.length_take.{0} := @List.length_take
theorem g6C : type_of% @List.mapM_cons.{0, 0, 0} := @List.mapM_cons
theorem g6D : type_of% @List.map_append.{0, 0} := @List.map_append
theorem g6E : type_of% @List.map_cons.{0, 0} := @List.map_cons
theorem g6F : type_of% @List.map_nil.{0, 0} := @List.map_nil
theorem g6G : type_of% @List.mem_append.{0} := @List.mem_append
theorem g6H : type_of% @List.mem_cons.{0} := @List.mem_cons
theorem g6I : type_of% @List.mem_cons_of_mem.{0} := @List.mem_cons_of_mem
theorem g6J : type_of% @List.mem_iff_getElem?.{0} := @List.mem_iff_getElem?
theorem g6K : type_of% @List.mem_of_getElem?.{0} := @List.mem_of_getElem?
theorem g6L : type_of% @List.mem_range := @List.mem_range
theorem g6M : type_of% @List.mem_singleton.{0} := @List.mem_singleton
theorem g6N : type_of% @List.not_mem_nil.{0} := @List.not_mem_nil
theorem g6O : type_of% @List.size_toArray.{0} := @List.size_toArray
theorem g6P : type_of% @List.take_append_drop.{0} := @List.take_append_drop
theorem g6Q : type_of% @Nat.add_mul := @Nat.add_mul
theorem g6R : type_of% @Nat.add_zero := @Nat.add_zero
theorem g6S : type_of% @Nat.le_max_left := @Nat.le_max_left
theorem g6T : type_of% @Nat.le_max_right := @Nat.le_max_right
theorem g6U : type_of% @Nat.le_refl := @Nat.le_refl
theorem g6V : type_of% @Nat.le_trans := @Nat.le_trans
theorem g6W : type_of% @Nat.lt_of_lt_of_le := @Nat.lt_of_lt_of_le
theorem g6X : type_of% @Nat.lt_or_ge := @Nat.lt_or_ge
theorem g6Y : type_of% @Nat.mul_le_mul_right := @Nat.mul_le_mul_right
theorem g6Z : type_of% @Nat.mul_one := @Nat.mul_one
theorem g7A : type_of% @Nat.zero_add := @Nat.zero_add
theorem g7B : type_of% @Nat.zero_le := @Nat.zero_le
theorem g7C : type_of% @Option.bind_eq_some_iff.{0, 0} := @Option.bind_eq_some_iff
theorem g7D : type_of% @Option.getD_some.{0} := @Option.getD_some
theorem g7E : type_of% @Option.map_eq_some_iff.{0, 0} := @Option.map_eq_some_iff
theorem g7F : type_of% @Option.map_some.{0, 0} := @Option.map_some
theorem g7G : type_of% @Option.some.injEq.{0} := @Option.some.injEq
theorem g7H : type_of% @and_self := @and_self
theorem g7I : type_of% @decide_eq_false := @decide_eq_false
theorem g7J : type_of% @decide_eq_false_iff_not := @decide_eq_false_iff_not
theorem g7K : type_of% @decide_eq_true := @decide_eq_true
theorem g7L : type_of% @decide_eq_true_eq := @decide_eq_true_eq
theorem g7M : type_of% @eq_false := @eq_false
theorem g7N : type_of% @eq_true := @eq_true
theorem g7O : type_of% @of_decide_eq_false := @of_decide_eq_false
theorem g7P : type_of% @of_decide_eq_true := @of_decide_eq_true
set_option linter.unusedSimpArgs false
set_option linter.unusedVariables false
namespace Go.Pi
theorem zaI {a b:Prop} (x:a) (y:b):a/\b:=⟨x,y⟩
inductive T where
 |bool (b:Bool)
 |int (k:IntKind) (n:Int)
 |str (s:List UInt8)
 |sl (nl:Bool) (es:List (List T))
 |agg (cs:List T)
 |nptr
 |nif
 |ifx
 |nfn
 |nmp
instance:Inhabited T:=⟨.nptr⟩
def T.isAgg:T->Bool
 |.agg _=>true
 |_=>false
inductive PV where
 |t (x:T)
 |agg (cs:List PV)
 |tup (vs:List PV)
 |lp (id off:Nat)
 |ls (id off len sz:Nat)
 |ip (cs:List T) (off:Nat)
 |gp (g off:Nat)
 |cp (es:List (List T))
 |lit (es:List (List T))
 |own (tok sz:Nat) (es:List (List T))
 |fn (f:Nat) (caps:List PV)
 |mp (id:Nat)
 |bf (id len sz:Nat)
instance:Inhabited PV:=⟨.tup []⟩
abbrev und:PV:=.tup []
abbrev Sg:=List (Bool×List PV)
abbrev Ow:=List Nat
structure S where
 fr:List PV
 sg:Sg
 ow:Ow
inductive Opd where
 |s (k:Nat)
 |c (v:PV)
inductive O where
 |mov (a:Opd)
 |pick (c a b:Opd)
 |box (a:Opd)
 |alloc (zs:List T)
 |build (zs:List T) (ps:List (Nat×Nat×Opd))
 |bsl (sz len:Nat) (z:List T) (ps:List (Nat×Opd))
 |load (ag:Bool) (n:Nat) (a:Opd)
 |store (n:Nat) (a v:Opd)
 |nck (a:Opd)
 |bin (op:BinOp) (a b:Opd)
 |eqv (neg ag:Bool) (ks:List Nat) (a b:Opd)
 |isn (neg:Bool) (kd:Nat) (a:Opd)
 |un (op:UnOp) (a:Opd)
 |cvi (k:IntKind) (a:Opd)
 |mks (sz bytes:Nat) (z:List T) (l c:Opd)
 |slc (sz:Nat) (a:Opd) (lo hi mx:Option Opd)
 |fad (off:Nat) (a:Opd)
 |fld (ag:Bool) (off n:Nat) (a:Opd)
 |iaa (n sz:Nat) (a i:Opd)
 |ias (sz:Nat) (a i:Opd)
 |ixa (ag:Bool) (n sz:Nat) (a i:Opd)
 |ixs (a i:Opd)
 |ext (k:Nat) (a:Opd)
 |call (f:Nat) (as:List Opd)
 |cale (f:Nat) (as:List Opd)
 |calv (g:Opd) (as:List Opd)
 |len (st:Bool) (a:Opd)
 |app (sz bytes:Nat) (a b:Opd)
 |mkf (f:Nat) (caps:List Opd)
 |xt (k:Nat) (as:List Opd)
 |mkm
 |mlk (ck:Bool) (kd:Nat) (z:T) (a i:Opd)
 |mup (kd:Nat) (a k v:Opd)
 |mdl (kd:Nat) (a k:Opd)
 |mxn (mx:Bool) (a b:Opd)
 |apb (sz bytes:Nat) (a b:Opd)
 |ldk (ag:Bool) (n:Nat) (a:Opd) (k:Nat)
 |ldt (ag:Bool) (n:Nat) (a:Opd)
 |calk (f:Nat) (as:List Opd) (ks:List Nat)
 |calz (f:Nat) (as:List Opd) (ks:List Nat)
 |bldz (zs:List T) (ps:List (Nat×Nat×Opd))
 |mkz (sz bytes:Nat) (z:List T) (l c:Opd)
 |stok (n:Nat) (a v:Opd) (ks:List Nat)
 |bad
structure Ins where
 d:Option Nat
 g:Option (Nat×Bool)
 o:O
inductive Co where
 |skip
 |reg (dr:Bool) (is:List Ins)
 |seq (a b:Co)
 |cond (c:Opd) (a b:Co)
 |block (id:Nat) (b:Co)
 |loop (b:Co)
 |exit (id:Nat)
 |ret
 |bad
inductive Ex where
 |normal
 |exit (id:Nat)
 |ret
structure Fn where
 np:Nat
 nt:Nat
 res:List (Nat×Option (Bool×Nat))
 body:Co
def a0A:List PV->Nat->PV
 |[],_=>und
 |x::_,0=>x
 |_::r,k+1=>a0A r k
def a0B:List PV->Nat->PV->List PV
 |[],0,v=>[v]
 |[],k+1,v=>und::a0B [] k v
 |_::r,0,v=>v::r
 |x::r,k+1,v=>x::a0B r k v
def put (fr:List PV):Option Nat->PV->List PV
 |some d,v=>a0B fr d v
 |none,_=>fr
def Opd.ev (fr:List PV):Opd->PV
 |.s k=>a0A fr k
 |.c v=>v
def cellsP:PV->List PV
 |.t (.agg cs)=>cs.map .t
 |.agg cs=>cs
 |v=>[v]
def allT:List PV->Option (List T)
 |[]=>some []
 |.t x::r=>(allT r).map (x::·)
 |_::_=>none
def mkAgg (cs:List PV):PV :=
 match allT cs with
 |some ts=>.t (.agg ts)
 |none=>.agg cs
def one:PV->Bool
 |.t (.agg _)=>false
 |.agg _=>false
 |.tup _=>false
 |_=>true
def partP (ag:Bool) (n:Nat) (cs:List PV) (off:Nat):Option PV :=
 if ag then (if off+n<=cs.length then some (mkAgg ((cs.drop off).take n)) else none) else cs[off]?
def partT (ag:Bool) (n:Nat) (cs:List T) (off:Nat):Option PV :=
 if ag then (if off+n<=cs.length then some (.t (.agg ((cs.drop off).take n))) else none) else cs[off]?.map .t
def setRange:List PV->Nat->List PV->List PV
 |cs,_,[]=>cs
 |cs,off,v::r=>setRange (cs.set off v) (off+1) r
def fillP (cs:List PV):List (Nat×Nat×PV)->Option (List PV)
 |[]=>some cs
 |(off,n,v)::r=>if (cellsP v).length=n/\off+n<=cs.length then fillP (setRange cs off (cellsP v)) r else none
def a0C (sz:Nat):Nat->List T->List (List T)
 |0,_=>[]
 |n+1,l=>l.take sz::a0C sz n (l.drop sz)
def a0D (op:BinOp) (k:IntKind) (x y:Int):Option Int :=
 let a:=BitVec.ofInt k.bits x
 let b:=BitVec.ofInt k.bits y
 match op with
 |.and=>some (k.wrap (a&&& b).toNat)
 |.or=>some (k.wrap (a ||| b).toNat)
 |.xor=>some (k.wrap (a ^^^ b).toNat)
 |.andNot=>some (k.wrap (a&&& ~~~b).toNat)
 |_=>none
def a0E (op:BinOp) (k:IntKind) (x y:Int):Option T :=
 match op with
 |.add=>some (.int k (k.wrap (x+y)))
 |.sub=>some (.int k (k.wrap (x - y)))
 |.mul=>some (.int k (k.wrap (x * y)))
 |.quo=>if y=0 then none else some (.int k (k.wrap (x.tdiv y)))
 |.rem=>if y=0 then none else some (.int k (x.tmod y))
 |.and=>(a0D .and k x y).map (.int k)
 |.or=>(a0D .or k x y).map (.int k)
 |.xor=>(a0D .xor k x y).map (.int k)
 |.andNot=>(a0D .andNot k x y).map (.int k)
 |.eql=>some (.bool (x == y))
 |.neq=>some (.bool (x != y))
 |.lss=>some (.bool (x < y))
 |.leq=>some (.bool (x<=y))
 |.gtr=>some (.bool (x > y))
 |.geq=>some (.bool (x>=y))
 |_=>none
def a0F (op:BinOp) (k:IntKind) (x y:Int):Option T :=
 if y < 0 then none else
 match op with
 |.shl=>some (.int k (k.wrap (x * 2 ^ (min y.toNat k.bits))))
 |.shr=>some (.int k (x.fdiv (2 ^ (min y.toNat k.bits))))
 |_=>none
def a0G (op:BinOp) (x y:List UInt8):Option T :=
 match op with
 |.add=>if x.length+y.length<=4611686018427387904 then some (.str (x++y)) else none
 |.eql=>some (.bool (x == y))
 |.neq=>some (.bool !(x == y))
 |.lss=>some (.bool (Op.bytesLess x y))
 |.leq=>some (.bool (Op.bytesLess x y || x == y))
 |.gtr=>some (.bool !(Op.bytesLess x y || x == y))
 |.geq=>some (.bool !(Op.bytesLess x y))
 |_=>none
def a0H (op:BinOp):PV->PV->Option T
 |.t (.int k x),.t (.int k' y) =>
  match op with
  |.shl=>a0F .shl k x y
  |.shr=>a0F .shr k x y
  |_=>if k=k' then a0E op k x y else none
 |.t (.str x),.t (.str y)=>a0G op x y
 |_,_=>none
def eq1 (kd:Nat) (x y:T):Option Bool :=
 match kd,x,y with
 |0,.bool a,.bool b=>some (a == b)
 |1,.int k a,.int k' b=>if k=k' then some (a == b) else none
 |2,.str a,.str b=>some (a == b)
 |_,_,_=>none
def eqs:List Nat->List T->List T->Option Bool
 |[],[],[]=>some true
 |k::ks,x::xs,y::ys=>match eq1 k x y,eqs ks xs ys with
  |some a,some b=>some (a&&b)
  |_,_=>none
 |_,_,_=>none
def eqT (ag:Bool) (ks:List Nat) (a b:PV):Option Bool :=
 match a,b with
 |.t x,.t y=>if ag then (match x,y with|.agg xs,.agg ys=>eqs ks xs ys|_,_=>none) else eqs ks [x] [y]
 |_,_=>none
def isNil (kd:Nat) (v:PV):Option Bool :=
 match kd,v with
 |0,.t (.sl nl _)=>some nl
 |0,.cp _=>some false
 |0,.lit _=>some false
 |0,.own _ _ _=>some false
 |0,.ls _ _ _ _=>some false
 |0,.bf _ _ _=>some false
 |1,.t .nptr=>some true
 |1,.lp _ _=>some false
 |1,.ip _ _=>some false
 |1,.gp _ _=>some false
 |2,.t .nif=>some true
 |2,.t .ifx=>some false
 |3,.t .nfn=>some true
 |3,.fn _ _=>some false
 |_,_=>none
def unT (op:UnOp):PV->Option T
 |.t (.int k n)=>match op with
  |.neg=>some (.int k (k.wrap (0 - n)))
  |.xor=>(a0D .xor k (if k.signed then -1 else k.max) n).map (.int k)
  |_=>none
 |.t (.bool b)=>match op with
  |.not=>some (.bool !b)
  |_=>none
 |_=>none
def a0I (s:List UInt8):List (List T):=s.map λb=>[.int .u8 b.toNat]
def elems:PV->Option (List (List T))
 |.t (.sl _ es)=>some es
 |.cp es=>some es
 |.lit es=>some es
 |.own _ _ es=>some es
 |_=>none
def a0J (sg:Sg) (sz:Nat) (id off len sz':Nat):Option (List (List T)) :=
  if sz'=sz then match sg[id]? with
  |some (false,cs)=>if off+len * sz<=cs.length then (match allT ((cs.drop off).take (len * sz)) with
   |some ts=>if ts.any T.isAgg then none else some (a0C sz len ts)
   |none=>none) else none
  |_=>none else none
def a0K (sg:Sg) (sz:Nat):PV->Option (List (List T))
 |.ls id off len sz'=>a0J sg sz id off len sz'
 |.bf id len sz'=>a0J sg sz id 0 len sz'
 |v=>elems v
def lenP (st:Bool) (v:PV):Option Nat :=
 match st,v with
 |true,.t (.str s)=>some s.length
 |true,_=>none
 |false,.ls _ _ len _=>some len
 |false,.bf _ len _=>some len
 |false,v=>(elems v).map (·.length)
def bound (v:Option PV) (dflt:Nat):Option Nat :=
 match v with
 |none=>some dflt
 |some (.t (.int _ n))=>if 0<=n then some n.toNat else none
 |_=>none
def close1:PV->Option T
 |.t x=>some x
 |.cp es=>some (.sl false es)
 |.lit es=>some (.sl false es)
 |.own _ _ es=>some (.sl false es)
 |_=>none
def a0L (v:PV):Option T :=
 match close1 v with
 |some x=>if x.isAgg then none else some x
 |none=>none
def close:PV->Option T
 |.agg cs=>(cs.mapM close1).map .agg
 |v=>close1 v
def ret1 (sg:Sg):PV->Option T
 |.ls id off len sz=>(a0K sg sz (.ls id off len sz)).map (.sl false)
 |.bf id len sz=>(a0K sg sz (.bf id len sz)).map (.sl false)
 |v=>close1 v
def retSl (sg:Sg):PV->Option T
 |.ls id off len sz=>(a0K sg sz (.ls id off len sz)).map (.sl false)
 |.bf id len sz=>(a0K sg sz (.bf id len sz)).map (.sl false)
 |.agg cs=>(cs.mapM (ret1 sg)).map .agg
 |v=>close v
def clo (v:PV):PV:=match close v with
 |some t=>.t t
 |none=>v
def retV (sg:Sg) (ow:Ow):PV->Option PV
 |.own k z es=>if ow[k]?=some es.length then some (.own k z es) else some (.t (.sl false es))
 |.cp es=>some (.cp es)
 |.tup vs=>(vs.mapM (retSl sg)).map λts=>.tup (ts.map .t)
 |v=>(retSl sg v).map .t
def a0M (n bytes:Nat):Bool:=decide (n * bytes<=140737488355328/\n<=4611686018427387904)
def a0N:List (List T)->Option (List (List UInt8))
 |[]=>some []
 |[.str x]::r=>(a0N r).map (x::·)
 |_::_=>none
def xex:List T->Option PV
 |[.agg [.int .i64 13,.int .u64 0,.str [],.sl false [[.int .i64 1,.int .u64 3,.str [],.sl true []],[.int .i64 1,.int .u64 5,.str [],.sl true []]]],.int .u64 17]=>some (.tup [.t (.int .u64 15),.t (.int .i64 0)])
 |_=>none
def xcon (gl:Nat->Option (List T)) (c g:Nat) (as:List T):Option PV :=
 match c,as with
 |0,[.str a,.str b]=>(match gl g with
  |some [.int .i64 _]=>if a.length < 4294967281 then some (.t (.int .i64 (Lib.index a b))) else none
  |_=>none)
 |1,[.str a,.str b]=>(match gl g with
  |some [.int .i64 _]=>if a.length < 4294967281 then some (.t (.bool (Lib.contains a b))) else none
  |_=>none)
 |2,[.str a,.int .i64 x,.int .i64 y]=>(match gl (g % 256),gl (g / 256) with
  |some [.ifx],some [.ifx]=>if x=10/\y=64/\a.length<=281474976710656 then (match Lib.parseUintB 64 a with
   |.ok u=>some (.tup [.t (.int .u64 u),.t .nif])
   |.range=>some (.tup [.t (.int .u64 18446744073709551615),.t .ifx])
   |_=>some (.tup [.t (.int .u64 0),.t .ifx])) else none
  |_,_=>none)
 |3,[.str a,.str b]=>(match gl g with
  |some [.int .i64 _]=>if a.length < 4294967281 then some (.tup [.t (.str (Lib.cut a b).1),.t (.str (Lib.cut a b).2.1),.t (.bool (Lib.cut a b).2.2)]) else none
  |_=>none)
 |4,[.sl _ es,.str sep]=>(match a0N es with
  |some xs=>if xs.length<=140737488355328/\(Lib.join xs sep).length<=140737488355328 then some (.t (.str (Lib.join xs sep))) else none
  |none=>none)
 |5,[.str a,.str b]=>(match gl g with
  |some [.int .i64 _]=>if a.length < 4294967281/\1<=b.length then some (.t (.sl false ((Lib.split a b).map λx=>[.str x]))) else none
  |_=>none)
 |7,as=>xex as
 |6,[.str a,.str b,.int .i64 n]=>(match gl g with
  |some [.int .i64 _]=>if a.length < 4294967281/\1<=b.length/\1<=n/\n<=9223372036854775807 then some (.t (.sl false ((Lib.splitN a b n.toNat).map λx=>[.str x]))) else none
  |_=>none)
 |_,_=>none
def a0O (gl:Nat->Option (List T)) (k:Nat) (as:List T):Option PV :=
 match k,as with
 |0,[.int .u64 x,.int .u64 y,.int .u64 c]=>if 0<=x/\0<=y/\0<=c/\c<=1 then
   some (.tup [.t (.int .u64 ((x+y+c) % 18446744073709551616)),.t (.int .u64 ((x+y+c) / 18446744073709551616))]) else none
 |1,[.str s,.int .u8 c]=>some (.t (.int .i64 (Lib.indexByte s c.toNat.toUInt8)))
 |2,[.str s,.int .u8 c]=>some (.t (.int .i64 (Lib.countByte s c.toNat.toUInt8)))
 |k+3,as=>xcon gl (k % 16) (k / 16) as
 |_,_=>none
abbrev Cal:=Nat->List PV->Sg->Ow->Option (PV×Sg×Ow)
def loadP (gl:Nat->Option (List T)) (sg:Sg) (ag:Bool) (n:Nat):PV->Option PV
 |.lp id off=>match sg[id]? with
  |some (false,cs)=>partP ag n cs off
  |_=>none
 |.ip cs off=>partT ag n cs off
 |.gp g off=>match gl g with
  |some cs=>partT ag n cs off
  |none=>none
 |_=>none
def storeP (sg:Sg) (n:Nat) (v:PV):PV->Option Sg
 |.lp id off=>match sg[id]? with
  |some (false,cs)=>if (cellsP v).length=n/\off+n<=cs.length/\(cellsP v).all one=true then some (sg.set id (false,setRange cs off (cellsP v))) else none
  |_=>none
 |_=>none
def a0P (sz:Nat):List (List T)->Bool
 |[]=>true
 |e::_=>e.length == sz
def a0Q (sz:Nat) (v:PV) (lo hi mx:Option PV):Option PV :=
 match v with
 |.ls id off len sz'=>match bound lo 0,bound hi len,mx with
  |some l,some h,none=>if l<=h/\h<=len/\sz'=sz then some (.ls id (off+l * sz) (h - l) sz) else none
  |_,_,_=>none
 |.bf id len sz'=>match bound lo 0,bound hi len,mx with
  |some l,some h,none=>if l<=h/\h<=len/\sz'=sz then (if l=0 then some (.bf id h sz) else some (.ls id (l * sz) (h - l) sz)) else none
  |_,_,_=>none
 |v=>match elems v with
  |none=>none
  |some es=>match bound lo 0,bound hi es.length,bound mx es.length with
   |some l,some h,some m=>if l<=h/\h<=m/\m<=es.length/\a0P sz ((es.take h).drop l)=true then
     (match mx with
     |some _=>(match v with
      |.t (.sl true _)=>some (.t (.sl true ((es.take h).drop l)))
      |_=>if m=h then some (.cp ((es.take h).drop l)) else some (.t (.sl false ((es.take h).drop l))))
     |none=>match v with
      |.own k z es=>if l=0/\h=es.length then some (.own k z es) else some (.t (.sl false ((es.take h).drop l)))
      |.cp es=>if h=es.length then some (.cp (es.drop l)) else some (.t (.sl false ((es.take h).drop l)))
      |.lit es=>some (.t (.sl false ((es.take h).drop l)))
      |.t (.sl nl es)=>some (.t (.sl nl ((es.take h).drop l)))
      |_=>none) else none
   |_,_,_=>none
def fieldA (off:Nat):PV->Option PV
 |.lp id o=>some (.lp id (o+off))
 |.ip cs o=>some (.ip cs (o+off))
 |.gp g o=>some (.gp g (o+off))
 |_=>none
def indexS (sz:Nat) (v:PV) (i:PV):Option PV :=
 match i with
 |.t (.int _ n)=>if 0<=n then (match v with
  |.ls id off len sz'=>if n.toNat < len/\sz'=sz then some (.lp id (off+n.toNat * sz)) else none
  |.bf id len sz'=>if n.toNat < len/\sz'=sz then some (.lp id (n.toNat * sz)) else none
  |v=>match elems v with
   |some es=>match es[n.toNat]? with
    |some e=>if e.length=sz then some (.ip e 0) else none
    |none=>none
   |none=>none) else none
 |_=>none
def indexA (n sz:Nat) (v i:PV):Option PV :=
 match i with
 |.t (.int _ m)=>if 0<=m/\m < n then fieldA (m.toNat * sz) v else none
 |_=>none
def partV (ag:Bool) (n off:Nat) (v:PV):Option PV :=
 match v with
 |.t (.agg cs)=>partT ag n cs off
 |.agg cs=>partP ag n cs off
 |_=>none
def indexV (ag:Bool) (n sz:Nat) (v i:PV):Option PV :=
 match i with
 |.t (.int _ m)=>if 0<=m/\m < n then partV ag sz (m.toNat * sz) v else none
 |_=>none
def indexStr (v i:PV):Option PV :=
 match v,i with
 |.t (.str s),.t (.int _ m)=>if 0<=m then (match s[m.toNat]? with
  |some b=>some (.t (.int .u8 b.toNat))
  |none=>none) else none
 |_,_=>none
def a0R (_dr:Bool) (sg:Sg) (ow:Ow) (sz bytes:Nat) (a b:PV):Option (PV×Ow) :=
 let news:=match b with
  |.t (.str s)=>some (a0I s)
  |b=>a0K sg sz b
 match news with
 |none=>none
 |some []=>(match elems a with|some _=>some (a,ow)|none=>none)
 |some (e::r) =>
  if (e::r).all (λx=>x.length == sz)=true/\0 < sz then
   (match a with
   |.own k z es=>if ow[k]?=some es.length/\a0M (es.length+(e::r).length) bytes=true/\z=sz then some (.own k sz (es++e::r),ow.set k (es.length+(e::r).length)) else none
   |.cp es=>if True/\a0M (es.length+(e::r).length) bytes=true/\es.all (λx=>x.length == sz)=true then some (.own ow.length sz (es++e::r),ow++[es.length+(e::r).length]) else none
   |.lit es=>if True/\a0M (es.length+(e::r).length) bytes=true/\es.all (λx=>x.length == sz)=true then some (.own ow.length sz (es++e::r),ow++[es.length+(e::r).length]) else none
   |.t (.sl true [])=>if True/\a0M ((e::r).length) bytes=true then some (.own ow.length sz (e::r),ow++[(e::r).length]) else none
   |_=>none) else none
def a0S (sg:Sg) (sz bytes:Nat) (a b:PV):Option (PV×Sg) :=
 match a0K sg sz b with
 |none=>none
 |some []=>none
 |some (e::r) =>
  if (e::r).all (λx=>x.length == sz)=true/\0 < sz then
   (match a with
   |.lit []=>if a0M ((e::r).length) bytes=true then some (.bf sg.length (e::r).length sz,sg++[(false,((e::r).flatten).map .t)]) else none
   |.t (.sl true [])=>if a0M ((e::r).length) bytes=true then some (.bf sg.length (e::r).length sz,sg++[(false,((e::r).flatten).map .t)]) else none
   |.bf id len sz'=>(match sg[id]? with
    |some (false,cs)=>if sz'=sz/\0 < cs.length/\len * sz<=cs.length/\a0M (len+(e::r).length) bytes=true then
      some (.bf sg.length (len+(e::r).length) sz,sg.set id (false,[])++[(false,cs.take (len * sz)++((e::r).flatten).map .t)]) else none
    |_=>none)
   |_=>none) else none
def nckV:PV->Option PV
 |.lp i o=>some (.lp i o)
 |.ip cs o=>some (.ip cs o)
 |.gp g o=>some (.gp g o)
 |_=>none
def a0T (kd:Nat) (k:T):List PV->Option (Option T)
 |[]=>some none
 |.tup [.t k',.t v]::r=>(match eq1 kd k k' with
  |some true=>some (some v)
  |some false=>a0T kd k r
  |none=>none)
 |_::_=>none
def a0U (kd:Nat) (k v:T):List PV->List PV
 |[]=>[.tup [.t k,.t v]]
 |.tup [.t k',.t v']::r=>if eq1 kd k k'=some true then .tup [.t k,.t v]::r else .tup [.t k',.t v']::a0U kd k v r
 |x::r=>x::a0U kd k v r
def a0V (kd:Nat) (k:T):List PV->List PV
 |[]=>[]
 |.tup [.t k',.t v']::r=>if eq1 kd k k'=some true then r else .tup [.t k',.t v']::a0V kd k r
 |x::r=>x::a0V kd k r
def a0W (sg:Sg) (ck:Bool) (kd:Nat) (z:T) (a k:PV):Option PV :=
 match a,k with
 |.mp id,.t k=>(match sg[id]? with
  |some (true,es)=>(a0T kd k es).map λr=>if ck then .tup [.t (r.getD z),.t (.bool r.isSome)] else .t (r.getD z)
  |_=>none)
 |_,_=>none
def a0X (sg:Sg) (kd:Nat) (a k v:PV):Option Sg :=
 match a,k with
 |.mp id,.t k=>(match sg[id]?,close v with
  |some (true,es),some v=>(a0T kd k es).map λ_=>sg.set id (true,a0U kd k v es)
  |_,_=>none)
 |_,_=>none
def a0Y (sg:Sg) (kd:Nat) (a k:PV):Option Sg :=
 match a,k with
 |.mp id,.t k=>(match sg[id]? with
  |some (true,es)=>(a0T kd k es).map λ_=>sg.set id (true,a0V kd k es)
  |_=>none)
 |_,_=>none
def mxT (mx:Bool):PV->PV->Option T
 |.t (.int k x),.t (.int _ y)=>some (.int k (if mx then (if y > x then y else x) else (if y < x then y else x)))
 |_,_=>none
def lenS:Option (Bool×List PV)->Nat
 |some x=>x.2.length
 |none=>0
def hd0:Option (Bool×List PV)->Option (Option PV)
 |some (false,cs)=>some cs[0]?
 |_=>none
def a0Z (a b:Option (Bool×List PV)):Prop:=a=b\/(lenS a=7/\lenS b=7/\hd0 a=hd0 b)
def a1A (fr:List PV) (ks:List Nat) (sg sg':Sg):Prop:=∀ k,k∈ks->∃ id off,a0A fr k=.lp id off/\a0Z sg'[id]? sg[id]?
noncomputable def a1B (fr:List PV) (ks:List Nat) (sg sg':Sg):Bool:=@decide (a1A fr ks sg sg') (Classical.propDecidable _)
def a1C (gl:Nat->Option (List T)) (sg:Sg) (ag:Bool) (n:Nat) (b:PV):PV->Option PV
 |.lp id off=>match b with
  |.lp id' _=>if id=id' then (if lenS sg[id]?=7 then (if ag=false/\off=0 then loadP gl sg ag n (.lp id off) else none) else loadP gl sg ag n (.lp id off)) else none
  |_=>none
 |_=>none
def a1D (sg:Sg) (id off len sz:Nat):Option (List (List T)) :=
 match sg[id]? with
 |some (false,cs)=>if 0 < cs.length/\off+len * sz<=cs.length/\0 < sz then (((cs.drop off).take (len * sz)).mapM a0L).map (a0C sz len) else none
 |_=>none
def a1E:Sg->List PV->Option (List PV×Sg)
 |sg,[]=>some ([],sg)
 |sg,.ls id off len sz::r=>match a1D sg id off len sz with
  |some es=>(a1E (sg.set id (false,[])) r).map λx=>(.t (.sl false es)::x.1,x.2)
  |none=>none
 |sg,v::r=>(a1E sg r).map λx=>(v::x.1,x.2)
noncomputable def a1F (C:Cal) (gl:Nat->Option (List T)) (dr:Bool) (o:O) (s:S):Option (PV×Sg×Ow) :=
 let e:=Opd.ev s.fr
 let pure1 (v:Option PV):Option (PV×Sg×Ow):=v.map λv=>(v,s.sg,s.ow)
 match o with
 |.mov a=>pure1 (some (e a))
 |.pick c a b=>match e c with
  |.t (.bool q)=>pure1 (some (if q then e a else e b))
  |_=>none
 |.box a=>some (.lp s.sg.length 0,s.sg++[(false,cellsP (e a))],s.ow)
 |.alloc zs=>some (.lp s.sg.length 0,s.sg++[(false,zs.map .t)],s.ow)
 |.build zs ps=>pure1 ((fillP (zs.map .t) (ps.map λp=>(p.1,p.2.1,e p.2.2))).map mkAgg)
 |.bsl sz len z ps=>match (fillP ((List.replicate len z).flatten.map .t) (ps.map λp=>(p.1 * sz,sz,e p.2))) with
  |some cs=>(cs.mapM a0L).bind λts=>pure1 (some (.lit (a0C sz len ts)))
  |none=>none
 |.load ag n a=>pure1 (loadP gl s.sg ag n (e a))
 |.store n a v=>(storeP s.sg n (e v) (e a)).map λsg=>(und,sg,s.ow)
 |.nck a=>pure1 (nckV (e a))
 |.bin op a b=>pure1 ((a0H op (e a) (e b)).map .t)
 |.eqv ng ag ks a b=>pure1 ((eqT ag ks (e a) (e b)).map λq=>.t (.bool (ng != q)))
 |.isn ng kd a=>pure1 ((isNil kd (e a)).map λq=>.t (.bool (ng != q)))
 |.un op a=>pure1 ((unT op (e a)).map .t)
 |.cvi k a=>match e a with
  |.t (.int _ n)=>pure1 (some (.t (.int k (k.wrap n))))
  |_=>none
 |.mks sz bytes z l c=>match e l,e c with
  |.t (.int .i64 l),.t (.int .i64 c)=>if 0<=l/\l<=c/\a0M c.toNat bytes=true/\z.length=sz/\0 < sz then
    (if l=0 then (if dr then none else some (.own s.ow.length sz [],s.sg,s.ow++[0]))
     else some (.ls s.sg.length 0 l.toNat sz,s.sg++[(false,(List.replicate c.toNat z).flatten.map .t)],s.ow)) else none
  |_,_=>none
 |.mkz sz bytes z l c=>match e l,e c with
  |.t (.int .i64 l),.t (.int .i64 c)=>if 0<=l/\l<=c/\a0M c.toNat bytes=true/\z.length=sz/\0 < sz then pure1 (some (.t (.sl false (List.replicate l.toNat z)))) else none
  |_,_=>none
 |.slc sz a lo hi mx=>pure1 (a0Q sz (e a) (lo.map e) (hi.map e) (mx.map e))
 |.fad off a=>pure1 (fieldA off (e a))
 |.fld ag off n a=>pure1 (partV ag n off (e a))
 |.iaa n sz a i=>pure1 (indexA n sz (e a) (e i))
 |.ias sz a i=>pure1 (indexS sz (e a) (e i))
 |.ixa ag n sz a i=>pure1 (indexV ag n sz (e a) (e i))
 |.ixs a i=>pure1 (indexStr (e a) (e i))
 |.ext k a=>match e a with
  |.tup vs=>pure1 vs[k]?
  |_=>none
 |.call f as=>match (as.map e).mapM close with
  |some ts=>match C f (ts.map .t) [] [] with
   |some (r,sg',ow')=>match retV sg' ow' r with
    |some (.own _ z es)=>if dr then pure1 (some (.t (.sl false es))) else some (.own s.ow.length z es,s.sg,s.ow++[es.length])
    |some v=>pure1 (some v)
    |none=>none
   |none=>none
  |none=>none
 |.cale f as=>C f (as.map e) s.sg s.ow
 |.calv g as=>match e g with
  |.fn f caps=>C f (as.map e++caps) s.sg s.ow
  |_=>none
 |.len st a=>pure1 ((lenP st (e a)).map λ(n:Nat)=>.t (.int .i64 (n:Int)))
 |.app sz bytes a b=>(a0R dr s.sg s.ow sz bytes (e a) (e b)).map λr=>(r.1,s.sg,r.2)
 |.mkf f caps=>pure1 (some (.fn f (caps.map e)))
 |.xt k as=>match (as.map e).mapM close with
  |some ts=>pure1 (a0O gl k ts)
  |none=>none
 |.mkm=>some (.mp s.sg.length,s.sg++[(true,[])],s.ow)
 |.mlk ck kd z a i=>pure1 (a0W s.sg ck kd z (e a) (e i))
 |.mup kd a k v=>(a0X s.sg kd (e a) (e k) (e v)).map λsg=>(und,sg,s.ow)
 |.mdl kd a k=>(a0Y s.sg kd (e a) (e k)).map λsg=>(und,sg,s.ow)
 |.mxn mx a b=>pure1 ((mxT mx (e a) (e b)).map .t)
 |.apb sz bytes a b=>(a0S s.sg sz bytes (e a) (e b)).map λr=>(r.1,r.2,s.ow)
 |.ldk ag n a k=>pure1 (a1C gl s.sg ag n (a0A s.fr k) (e a))
 |.ldt ag n a=>pure1 (loadP gl [] ag n (e a))
 |.calk f as ks=>match C f (as.map e) s.sg s.ow with
  |some (v,sg,ow)=>if a1B s.fr ks s.sg sg=true then some (v,sg,ow) else none
  |none=>none
 |.stok n a v ks=>match storeP s.sg n (e v) (e a) with
  |some sg=>if a1B s.fr ks s.sg sg=true then some (und,sg,s.ow) else none
  |none=>none
 |.calz f as ks=>match a1E s.sg (as.map e) with
  |some (vs,sg1)=>(match vs.mapM close with
   |some ts=>(match C f (ts.map .t) [] [] with
    |some (r,sg',ow')=>if a1B s.fr ks s.sg sg1=true then (match retV sg' ow' r with
     |some (.own _ z es)=>if dr then some (.t (.sl false es),sg1,s.ow) else some (.own s.ow.length z es,sg1,s.ow++[es.length])
     |some v=>some (v,sg1,s.ow)
     |none=>none) else none
    |none=>none)
   |none=>none)
  |none=>none
 |.bldz zs ps=>match a1E s.sg (ps.map λp=>e p.2.2) with
  |some (vs,sg1)=>(fillP (zs.map .t) ((ps.zip vs).map λp=>(p.1.1,p.1.2.1,p.2))).map λcs=>(mkAgg cs,sg1,s.ow)
  |none=>none
 |.bad=>none
def wanted (fr:List PV):Option (Nat×Bool)->Bool
 |none=>true
 |some (k,b)=>match a0A fr k with
  |.t (.bool q)=>q == b
  |_=>false
noncomputable def a1G (C:Cal) (gl:Nat->Option (List T)) (dr:Bool) (i:Ins) (s:S):Option S :=
 if wanted s.fr i.g then
  match a1F C gl dr i.o s with
  |some (v,sg,ow)=>some ⟨put s.fr i.d v,sg,ow⟩
  |none=>none
 else some ⟨put s.fr i.d und,s.sg,s.ow⟩
noncomputable def a1H (C:Cal) (gl:Nat->Option (List T)) (dr:Bool):List Ins->S->Option S
 |[],s=>some s
 |i::r,s=>match a1G C gl dr i s with
  |some s'=>a1H C gl dr r s'
  |none=>none
def a1I (body:S->Option (Ex×S)):Nat->S->Option (Ex×S)
 |0,_=>none
 |n+1,s=>match body s with
  |some (.normal,s')=>a1I body n s'
  |r=>r
noncomputable def a1J (C:Cal) (gl:Nat->Option (List T)) (n:Nat):Co->S->Option (Ex×S)
 |.skip,s=>some (.normal,s)
 |.reg dr is,s=>(a1H C gl dr is s).map λs=>(.normal,s)
 |.seq a b,s=>match a1J C gl n a s with
  |some (.normal,s')=>a1J C gl n b s'
  |r=>r
 |.cond c a b,s=>match c.ev s.fr with
  |.t (.bool true)=>a1J C gl n a s
  |.t (.bool false)=>a1J C gl n b s
  |_=>none
 |.block id b,s=>match a1J C gl n b s with
  |some (.exit id',s')=>if id'=id then some (.normal,s') else some (.exit id',s')
  |r=>r
 |.loop b,s=>a1I (a1J C gl n b) n s
 |.exit id,s=>some (.exit id,s)
 |.ret,s=>some (.ret,s)
 |.bad,_=>none
def a1K (gl:Nat->Option (List T)) (s:S):Nat×Option (Bool×Nat)->Option PV
 |(k,none)=>some (a0A s.fr k)
 |(k,some (ag,n))=>if n < 1000 then loadP gl s.sg ag n (a0A s.fr k) else if n=1000 then some (clo (a0A s.fr k)) else (loadP gl s.sg ag (n - 1000) (a0A s.fr k)).map clo
def a1L (gl:Nat->Option (List T)) (s:S) (l:List (Nat×Option (Bool×Nat))):Option PV :=
 match l.mapM (a1K gl s) with
 |some [v]=>some v
 |some vs=>some (.tup vs)
 |none=>none
noncomputable def a1M (F:Nat->Option Fn) (gl:Nat->Option (List T)):Nat->Cal
 |0,_,_,_,_=>none
 |n+1,f,args,sg,ow=>match F f with
  |none=>none
  |some fn=>if args.length=fn.np then
    match a1J (a1M F gl n) gl n fn.body ⟨args,sg,ow⟩ with
    |some (.normal,s)=>(a1L gl s fn.res).map λv=>(v,s.sg,s.ow)
    |some (.ret,s)=>(a1L gl s fn.res).map λv=>(v,s.sg,s.ow)
    |_=>none
   else none
end Go.Pi
