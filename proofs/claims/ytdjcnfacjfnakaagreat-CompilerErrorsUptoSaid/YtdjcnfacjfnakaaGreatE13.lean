/- Contracts: room, checks, scalars. -/
import Derived.Test.YtdjcnfacjfnakaaGreatE8
import Derived.Test.YtdjcnfacjfnakaaGreatK19
import Derived.Test.YtdjcnfacjfnakaaGreatKx89
set_option maxRecDepth 10000
set_option linter.unusedVariables false
set_option linter.unusedSimpArgs false
namespace Go.Proofs.YtdjcnfacjfnakaaGreat
open Go.Pi Go.Lx Go.Ky Go.Lib
variable {gl:Nat->Option (List T)}
theorem f8Z {p:Int} {fa:Fs} {sg:Sg} {c r ri hi fm:Nat} {s:Cst} (h:CS sg c r ri hi fm p fa s) (hs:CsOk s) {n:Int} (h0:0<=n) (h1:n<=1000000000) (ow:Ow) :
  CallE F gl 87 [.lp c 0,.t (.int .i64 n)] sg ow λx sg' ow'=>x=.t (.bool (f2L n s))/\ow'=ow/\CS sg' c r ri hi fm p fa (f2M n s)/\Mv [c,r,ri,hi] [c,r,ri,hi] sg sg':=by
 have hc:=h.hc
 have e1:=hs.r0
 have e2:=hs.le
 have hw1:IntKind.i64.wrap (16384 - s.rows)=16384 - s.rows:=IntWalk.i64_in _ (by omega)
 have hw2:IntKind.i64.wrap (s.rows+n)=s.rows+n:=IntWalk.i64_in _ (by omega)
 have mv:∀ x,Mv [c,r,ri,hi] [c,r,ri,hi] sg (sg.set c x):=λx=>(Mv.refl _ sg).set (.inl (by simp)) x
 refine XcE.of F87 rfl ?_
 simp only[c4L]
 unfold f2M f2L
 cases hf:s.full with
 |true =>
  rw[hf] at hc
  simp only[wA,seval,hc,d4T hc,wC]
  refine⟨by simp,?_,mv _⟩
  exact h.rows _ _
 |false =>
  rw[hf] at hc
  by_cases c1:16384 - s.rows < n
  ·have c2:decide (n > 16384 - s.rows)=true:=g7K c1
   rw[c2]
   simp only[wA,seval,hc,d4T hc,wC,hw1,c1]
   exact⟨by simp,h.rows _ _,mv _⟩
  ·have c2:decide (n > 16384 - s.rows)=false:=g7I c1
   rw[c2]
   simp only[wA,seval,hc,d4T hc,wC,hw1,hw2,c1]
   exact⟨by simp,h.rows _ _,mv _⟩
theorem f9A {n:Int} {s:Cst} (h:f2L n s=true):f2M n s=⟨s.b,s.rows+n,s.full⟩:=by unfold f2M;rw[h];rfl
theorem f9B {n:Int} {s:Cst} (h:f2L n s=false):f2M n s=⟨s.b,s.rows,true⟩:=by unfold f2M;rw[h];rfl
theorem f9C {n:Int} {g:Bd->Li×Bd} {s:Cst} (h:f2L n s=true):f2N n g s=((g s.b).1,⟨(g s.b).2,s.rows+n,s.full⟩):=by unfold f2N;rw[h];rfl
theorem f9D {n:Int} {g:Bd->Li×Bd} {s:Cst} (h:f2L n s=false):f2N n g s=(f0E,⟨s.b,s.rows,true⟩):=by unfold f2N;rw[h];rfl
theorem f9E {n:Int} {g:Bd->Bd} {s:Cst} (h:f2L n s=true):f2O n g s=⟨g s.b,s.rows+n,s.full⟩:=by unfold f2O;rw[h];rfl
theorem f9F {n:Int} {g:Bd->Bd} {s:Cst} (h:f2L n s=false):f2O n g s=⟨s.b,s.rows,true⟩:=by unfold f2O;rw[h];rfl
theorem ok86 {p:Int} (hk:e2X p=true) {fa:Fs} {sg:Sg} {c r ri hi fm:Nat} {s:Cst} (h:CS sg c r ri hi fm p fa s) (hs:CsOk s) {x:Li} (hx:LiOk s.b.vars x) {t:Ty} (ht:t.kind=3->1<=t.bits/\t.bits<=62) (ow:Ow) :
  CallE F gl 86 [.lp c 0,.t (tLi x),.t (.agg (tTy t))] sg ow λv sg' ow'=>Cd sg ow c r ri hi fm p fa (f3A (foF p) x t s) sg' ow':=by
 refine XcE.of F86 rfl ?_
 simp only[c4K]
 have h1:=h.app [(false,[.t (.int .i64 t.kind),.t (.int .i64 t.bits),.t (.int .i64 t.len)])]
 have j5:(sg++[(false,[PV.t (.int .i64 t.kind),.t (.int .i64 t.bits),.t (.int .i64 t.len)])])[sg.length]?=some (false,[.t (.int .i64 t.kind),.t (.int .i64 t.bits),.t (.int .i64 t.len)]):=by simp
 unfold f3A
 by_cases k2:t.kind=2
 ·have k3:¬t.kind=3:=by omega
  rw[if_pos k2]
  simp only[wA,seval,k2]
  rw[k2] at h1 j5
  refine CallE.mono (f8Z h1 hs (n:=1) (by decide) (by decide) ow) ?_
  rintro v sg1 ow1 ⟨rfl,rfl,hcs,hm⟩
  have jj:=hm.get j5 (h.new (g6U _))
  cases hr:f2L 1 s with
  |true =>
   rw[f9A hr] at hcs
   rw[f9E hr]
   have hc:=hcs.hc
   simp only[wA,seval,hc,jj]
   refine CallE.mono (f7I hk hcs.hb hs.b (hs.rm (by decide)) hx ow1) ?_
   intro v sg2 ow2 hG
   simp only[wA,seval]
   exact Cd.app (Cd.pre hm (List.prefix_refl _) (hcs.gd hG))
  |false =>
   rw[f9B hr] at hcs
   rw[f9F hr]
   have k4:¬((2:Int)=3):=by decide
   simp only[wA,seval,jj,k4]
   exact Cd.app (Cd.pre hm (List.prefix_refl _) (.same hcs ow1))
 by_cases k3:t.kind=3
 ·obtain⟨t1,t2⟩:=ht k3
  have hw:IntKind.i64.wrap (t.bits+1)=t.bits+1:=IntWalk.i64_in _ (by omega)
  rw[if_neg k2,if_pos k3]
  simp only[wA,seval,k2,k3,hw]
  rw[k3] at h1 j5
  refine CallE.mono (f8Z h1 hs (n:=t.bits+1) (by omega) (by omega) ow) ?_
  rintro v sg1 ow1 ⟨rfl,rfl,hcs,hm⟩
  have jj:=hm.get j5 (h.new (g6U _))
  cases hr:f2L (t.bits+1) s with
  |true =>
   rw[f9A hr] at hcs
   rw[f9E hr]
   have hc:=hcs.hc
   simp only[wA,seval,hc,jj]
   refine CallE.mono (f7X hk hcs.hb hs.b t1 t2 (hs.rm (by omega)) hx ow1) ?_
   rintro v sg2 ow2 ⟨hG,_⟩
   simp only[wA,seval]
   exact Cd.app (Cd.pre hm (List.prefix_refl _) (hcs.gd hG))
  |false =>
   rw[f9B hr] at hcs
   rw[f9F hr]
   simp only[wA,seval,jj]
   exact Cd.app (Cd.pre hm (List.prefix_refl _) (.same hcs ow1))
 ·rw[if_neg k2,if_neg k3]
  simp only[wA,seval,k2,k3]
  exact Cd.app (.same h1 ow)
theorem f9G {p:Int} (hk:e2X p=true) {fa:Fs} {sg:Sg} {c r ri hi fm:Nat} {s:Cst} (h:CS sg c r ri hi fm p fa s) (hs:CsOk s) {x y:Li} (hx:LiOk s.b.vars x) (hy:LiOk s.b.vars y) (ow:Ow) :
  CallE F gl 170 [.lp c 0,.t (tLi x),.t (tLi y)] sg ow λv sg' ow'=>v=.t (tLi (f2N 1 (f0R (foF p) x y) s).1)/\Cd sg ow c r ri hi fm p fa (f2N 1 (f0R (foF p) x y) s).2 sg' ow':=by
 refine XcE.of F170 rfl ?_
 simp only[c8D]
 simp only[wA,seval]
 refine CallE.mono (f8Z h hs (n:=1) (by decide) (by decide) ow) ?_
 rintro v sg1 ow1 ⟨rfl,rfl,hcs,hm⟩
 cases hr:f2L 1 s with
 |true =>
  rw[f9A hr] at hcs
  rw[f9C hr]
  have hc:=hcs.hc
  simp only[wA,seval,hc]
  refine CallE.mono (f7H hk hcs.hb hs.b (hs.rm (by decide)) hx hy ow1) ?_
  rintro v sg2 ow2 ⟨rfl,hG⟩
  simp only[wA,seval]
  first|exact Cd.pre hm (List.prefix_refl _) (hcs.gd hG)|exact⟨rfl,Cd.pre hm (List.prefix_refl _) (hcs.gd hG)⟩
 |false =>
  rw[f9B hr] at hcs
  rw[f9D hr]
  simp only[wA,seval]
  exact⟨rfl,Cd.pre hm (List.prefix_refl _) (.same hcs ow1)⟩
theorem f9H (l:Li):b4J 1 1 [T.sl true []] [(0,1,PV.t (tLi l))]=some (.lit [[tLi l]]):=rfl
theorem f9I (c:PV) (l:Li) (t:Ty) (sg:Sg) (ow:Ow) :
  CallE F gl 120 [c,.t (tLi l),.t (.agg (tTy t))] sg ow λv sg' ow'=>v=.t (.agg (tVc (f2J l t)))/\Grow sg sg'/\ow'=ow:=by
 have hf:fillP [PV.t (.sl true []),.t (.int .i64 0),.t (.int .i64 0),.t (.int .i64 0),.t (.int .i64 0)] [(0,1,PV.lit [[tLi l]]),(1,3,.t (.agg [.int .i64 t.kind,.int .i64 t.bits,.int .i64 t.len]))]=some [PV.lit [[tLi l]],.t (.int .i64 t.kind),.t (.int .i64 t.bits),.t (.int .i64 t.len),.t (.int .i64 0)]:=rfl
 have hm:mkAgg [PV.lit [[tLi l]],.t (.int .i64 t.kind),.t (.int .i64 t.bits),.t (.int .i64 t.len),.t (.int .i64 0)]=.agg [PV.lit [[tLi l]],.t (.int .i64 t.kind),.t (.int .i64 t.bits),.t (.int .i64 t.len),.t (.int .i64 0)]:=rfl
 have hcl:clo (.agg [PV.lit [[tLi l]],.t (.int .i64 t.kind),.t (.int .i64 t.bits),.t (.int .i64 t.len),.t (.int .i64 0)])=.t (.agg (tVc (f2J l t))):=rfl
 have hpo:Pi.one (PV.lit [[tLi l]])=true:=rfl
 have h5:(1000:Nat) < 1005:=by decide
 refine XcE.of F120 rfl ?_
 simp only[c5W]
 simp only[wA,seval,f9H,a1E,List.zip_cons_cons,List.zip_nil_left,hf,hm,wC,hpo,c1B h5,hcl]
 exact⟨rfl,.app _ _⟩
theorem f9J {n:Int} (h0:0<=n) (h1:n<=18446744073709551615) {K:PV->Prop}:XcP F gl 122 [.int .u64 n] K ⟨⟩↔K (.t (.agg (tTy (d3M n)))):=by
 refine Ret.iff (Ret.of F122 rfl ?_)
 simp only[c5Y]
 unfold d3M
 by_cases c:4611686018427387904<=n
 ·rw[if_pos c]
  simp only[wA,seval,c,wC]
  rfl
 ·rw[if_neg c]
  have hl:=λK=>@e0Z gl n h0 h1 K
  have hmx:mxT true (.t (.int .i64 1)) (.t (.int .i64 (d3L n)))=some (.int .i64 (if d3L n > 1 then d3L n else 1)):=rfl
  rw[<-e1A] at hmx
  simp only[wA,seval,c,wC,hl,hmx]
  rfl
end Go.Proofs.YtdjcnfacjfnakaaGreat

/- Contracts: elements, hash, arithmetic, less, e8M. -/
namespace Go.Proofs.YtdjcnfacjfnakaaGreat
open Go.Pi Go.Lx Go.Ky Go.Lib
variable {gl:Nat->Option (List T)}
theorem f9K {v:Vc} (h:0 < v.els.length):v.els[0]?=some (f2K v):=by
 unfold f2K
 rw[List.getD_eq_getElem?_getD,g5M h];rfl
theorem f9L {vs:List Vc} {nl:Bool} (hls:vs.length<=B20) (hpos:∀ v,v∈vs->0 < v.els.length) {ow:Ow} (Q:Ex->S->Prop):∀ (l:List Vc) (i:Nat) (fr:List PV) (sg:Sg),vs.drop i=l->sg[0]?=some (false,f5J tL1 [.sl true []] vs.length ((vs.take i).map f2K))->i<=vs.length ->
  b6S fr [(3,.ls 0 0 vs.length 1),(9,.t (.sl nl (vs.map tVc))),(10,.t (.int .i64 vs.length)),(11,.t (.int .i64 i))] ->
  (∀ fr' sg',sg'[0]?=some (false,f5J tL1 [.sl true []] vs.length (vs.map f2K))->a0A fr' 3=.ls 0 0 vs.length 1->Q (.exit 0) ⟨fr',sg',ow⟩) ->
  Xl F gl c6C ⟨fr,sg,ow⟩ Q ⟨⟩:=by
 intro l
 induction l with
 |nil =>
  intro i fr sg hd h0 hile hf k1
  have hd:=b6N hd
  simp only[b6U,b6T] at hf
  obtain⟨f3,f9,f10,f11,-⟩:=hf
  refine Xl.step ?_
  simp only[c6C]
  have c1:¬((i:Int) < (vs.length:Int)):=by omega
  simp only[wA,seval,f3,f9,f10,f11,c1]
  refine k1 _ _ ?_ (by simp only[wQ,seval,f3])
  rw[List.take_of_length_le (by omega)] at h0
  exact h0
 |cons x l ih =>
  intro i fr sg hd h0 hile hf k1
  obtain⟨hx,hr,hi⟩:=b6M hd
  simp only[b6U,b6T] at hf
  obtain⟨f3,f9,f10,f11,-⟩:=hf
  refine Xl.step ?_
  simp only[c6C]
  have c1:(i:Int) < (vs.length:Int):=by omega
  have hw1:=d5F hi (show vs.length<=281474976710656 by have:B20=1100000:=rfl;omega)
  have hx0:=f9K (hpos x (g6K hx))
  have h0l:=d4U h0
  have hlen:((vs.take i).map f2K).length=i:=by rw[g5Y,g6B,Nat.min_eq_left (by omega)]
  have hle:i+1<=(f5J tL1 [.sl true []] vs.length ((vs.take i).map f2K)).length:=by rw[f5R f7Q rfl (by omega)];omega
  have hset:=f5S (t:=tL1) (z:=[.sl true []]) f7Q rfl (n:=vs.length) (l:=(vs.take i).map f2K) (by omega) (f2K x)
  rw[hlen,g6Z,show(vs.take i).map f2K++[f2K x]=(vs.take (i+1)).map f2K by rw[List.take_add_one,hx,g6D];rfl] at hset
  simp only[g6E,g6F,setRange] at hset
  simp only[wA,seval,f3,f9,f10,f11,c1,hw1,g4Z,hi,g5P,hx,g7F,f5G,hx0,d5I h0l,h0,hle,hset,wC,g6Z]
  refine ih (i+1) _ _ hr ?_ (by omega) (by simp only[wQ,seval,f3,f9,f10];first|done|rfl) k1
  rw[g5T (by rw[g5W];omega)]
theorem f9M {vs:List Vc} {nl:Bool} (hls:vs.length<=B20) (hpos:∀ v,v∈vs->0 < v.els.length) {K:PV->Prop}:XcP F gl 125 [.sl nl (vs.map tVc)] K ⟨⟩↔K (.t (.sl false (tLs (vs.map f2K)))):=by
 have hb20:B20=1100000:=rfl
 have hroom:a0M vs.length 24=true:=by unfold a0M;simp only[g7L];omega
 refine Ret.iff (Ret.of F125 rfl ?_)
 simp only[c6D]
 obtain⟨v3,q,ow1,e1,e2,e3⟩:=f6D tL1 [.sl true []] (sz:=1) rfl (by decide) [] [] hroom
 rw[List.nil_append] at e1
 rcases e3 with⟨h0,⟨k,rfl⟩,rfl⟩|⟨hp,rfl,rfl⟩
 ·have hv:vs=[]:=List.length_eq_zero_iff.1 h0
  subst hv
  simp only[g5Z,c0K] at e1
  simp only[wA,seval,g6F,e1]
  refine Xl.step ?_
  simp only[c6C]
  simp only[wA,seval]
  rfl
 ·simp only[wA,seval,g5Y,e1]
  refine f9L (nl:=nl) hls hpos _ vs 0 _ _ rfl (by simp) (by omega) (by simp only[wQ,seval];first|done|exact⟨rfl,rfl⟩|rfl) ?_
  intro fr' sg' hg f3
  rw[f5Q (by rw[g5Y])] at hg
  have hr:=f5Z (t:=tL1) (sz:=1) f7Q f7T hg
  rw[g5Y] at hr
  have hcl:clo (.ls 0 0 vs.length 1)=.ls 0 0 vs.length 1:=rfl
  simp only[wA,seval,f3,hr,hcl]
  rfl
theorem f9N {p:Int} (hk:e2X p=true) {fa:Fs} {sg:Sg} {c r ri hi fm:Nat} {s:Cst} (h:CS sg c r ri hi fm p fa s) (hs:CsOk s) {l:List Li} (hn:l.length<=B20) (h0:l≠[]) (hl:∀ x,x∈l->LiOk s.b.vars x) {v:Int} (hv:0<=v) (ow:Ow) :
  CallE F gl 124 [.lp c 0,.t (.int .u64 v),.t (.sl false (tLs l))] sg ow λx sg' ow'=>x=.t (tLi (f2R (foF p) v l s).1)/\Cd sg ow c r ri hi fm p fa (f2R (foF p) v l s).2 sg' ow':=by
 have hb20:B20=1100000:=rfl
 have hc:=h.hc
 have lc:=d4U hc
 have hex:=λK=>e3T (gl:=gl) p (K:=K)
 have hE:(foF p).ex=(e3A p).2.2:=rfl
 have he:=(f6I hk).ex
 have hl1:1<=l.length:=List.length_pos_iff.2 h0
 have hw1:IntKind.i64.wrap ((l.length:Int)+1)=(l.length:Int)+1:=IntWalk.i64_in _ (by omega)
 have hq:((l.length:Int)+1).tdiv 2=((l.length:Int)+1) / 2:=Int.tdiv_eq_ediv_of_nonneg (by omega)
 have hw2:IntKind.i64.wrap (((l.length:Int)+1) / 2)=((l.length:Int)+1) / 2:=IntWalk.i64_in _ (by omega)
 have hw3:IntKind.i64.wrap (((l.length:Int)+1) / 2 * 8)=((l.length:Int)+1) / 2 * 8:=IntWalk.i64_in _ (by omega)
 have hw4:IntKind.i64.wrap (((l.length:Int)+1) / 2 * 8 * 3)=((l.length:Int)+1) / 2 * 8 * 3:=IntWalk.i64_in _ (by omega)
 have hre:2<=f2Q (foF p).ex/\f2Q (foF p).ex<=4:=by
  unfold f2Q
  rcases he with he|he|he <;> rw[he] <;> decide
 have hmap:∀ sg2:Sg,sg2[sg.length]?=some (true,[.tup [.t (.int .u64 3),.t (.int .i64 2)],.tup [.t (.int .u64 5),.t (.int .i64 3)],.tup [.t (.int .u64 7),.t (.int .i64 4)]])->a0W sg2 false 1 (.int .i64 0) (.mp sg.length) (.t (.int .u64 (e3A p).2.2))=some (.t (.int .i64 (f2Q (foF p).ex))):=by
  intro sg2 h2
  rw[hE] at he ⊢
  simp only[a0W,h2]
  unfold f2Q
  rcases he with he|he|he <;> rw[he] <;> rfl
 generalize hR:f2Q (foF p).ex=R at *
 have hm5:((l.length:Int)+1) / 2 * 8 * 3 * R<=((l.length:Int)+1) / 2 * 8 * 3 * 4:=Int.mul_le_mul_of_nonneg_left hre.2 (by omega)
 have hm6:0<=((l.length:Int)+1) / 2 * 8 * 3 * R:=Int.mul_nonneg (by omega) (by omega)
 have hw5:IntKind.i64.wrap (((l.length:Int)+1) / 2 * 8 * 3 * R)=((l.length:Int)+1) / 2 * 8 * 3 * R:=IntWalk.i64_in _ (by omega)
 have hmp1:a0U 1 (.int .u64 3) (.int .i64 2) []=[.tup [.t (.int .u64 3),.t (.int .i64 2)]]:=rfl
 have hmp2:a0U 1 (.int .u64 5) (.int .i64 3) [.tup [.t (.int .u64 3),.t (.int .i64 2)]]=[.tup [.t (.int .u64 3),.t (.int .i64 2)],.tup [.t (.int .u64 5),.t (.int .i64 3)]]:=rfl
 have hmp3:a0U 1 (.int .u64 7) (.int .i64 4) [.tup [.t (.int .u64 3),.t (.int .i64 2)],.tup [.t (.int .u64 5),.t (.int .i64 3)]]=[.tup [.t (.int .u64 3),.t (.int .i64 2)],.tup [.t (.int .u64 5),.t (.int .i64 3)],.tup [.t (.int .u64 7),.t (.int .i64 4)]]:=rfl
 have hmf1:a0T 1 (.int .u64 3) []=some none:=rfl
 have hmf2:a0T 1 (.int .u64 5) [.tup [.t (.int .u64 3),.t (.int .i64 2)]]=some none:=rfl
 have hmf3:a0T 1 (.int .u64 7) [.tup [.t (.int .u64 3),.t (.int .i64 2)],.tup [.t (.int .u64 5),.t (.int .i64 3)]]=some none:=rfl
 have hmm:=hmap (sg++[(true,[.tup [.t (.int .u64 3),.t (.int .i64 2)],.tup [.t (.int .u64 5),.t (.int .i64 3)],.tup [.t (.int .u64 7),.t (.int .i64 4)]])]) (by simp)
 refine XcE.of F124 rfl ?_
 simp only[c6B]
 simp only[wA,seval,d5I lc,hc,a0X,hmp1,hmp2,hmp3,hmf1,hmf2,hmf3,hex,hmm,f5F,hw1,hq,hw2,hw3,hw4,hw5]
 refine CallE.mono (f8Z (h.app _) hs (n:=((l.length:Int)+1) / 2 * 8 * 3 * R) hm6 (by omega) ow) ?_
 rintro v' sg1 ow1 ⟨rfl,rfl,hcs,hm⟩
 unfold f2R
 rw[hR]
 cases hr:f2L (((l.length:Int)+1) / 2 * 8 * 3 * R) s with
 |true =>
  rw[f9A hr] at hcs
  rw[f9C hr]
  have hc1:=hcs.hc
  have hle:=(f3L hr).2
  have hhr:=f3Y (f6I hk).ex l.length
  rw[hR] at hhr
  have hr0:=hs.r0
  simp only[wA,seval,hc1]
  refine CallE.mono (f8M hk hcs.hb hs.b hn h0 (hs.rm (by omega)) hl hv ow1) ?_
  rintro v2 sg2 ow2 ⟨rfl,hG⟩
  simp only[wA,seval]
  first|exact Cd.app (Cd.pre hm (List.prefix_refl _) (hcs.gd hG))|exact⟨rfl,Cd.app (Cd.pre hm (List.prefix_refl _) (hcs.gd hG))⟩
 |false =>
  rw[f9B hr] at hcs
  rw[f9D hr]
  simp only[wA,seval]
  exact⟨rfl,Cd.app (Cd.pre hm (List.prefix_refl _) (.same hcs ow1))⟩
end Go.Proofs.YtdjcnfacjfnakaaGreat

/- Contracts: arithmetic, comparison, e8M. -/
namespace Go.Proofs.YtdjcnfacjfnakaaGreat
open Go.Pi Go.Lx Go.Ky Go.Lib
variable {gl:Nat->Option (List T)}
theorem f9O {x:Li} {l:List Li}:(x::l).getD 0 f0E=x:=rfl
theorem f9P {x y:Li} {l:List Li}:(x::y::l).getD 1 f0E=y:=rfl
theorem f9Q (x:Li) (l:List Li):tLs (x::l)=[tLi x]::tLs l:=rfl
theorem f9R {p:Int} (hk:e2X p=true) {fa:Fs} {sg:Sg} {c r ri hi fm:Nat} {s:Cst} (h:CS sg c r ri hi fm p fa s) (hs:CsOk s) {op:Int} (hop:op=9\/op=11\/op=12\/op=13) {l:List Li} (hn:(op=9->l.length=1)/\(op≠9->l.length=2)) (hl:∀ x,x∈l->LiOk s.b.vars x) (ow:Ow) :
  CallE F gl 128 [.lp c 0,.t (.int .i64 op),.t (.sl false (tLs l))] sg ow λx sg' ow'=>x=.t (tLi (f2S (foF p) op l s).1)/\Cd sg ow c r ri hi fm p fa (f2S (foF p) op l s).2 sg' ow':=by
 have hc:=h.hc
 obtain⟨b1,b2⟩:=e3H hk
 have hw:IntKind.u64.wrap (p - 1)=p - 1:=IntWalk.u64_in _ (by omega)
 have hR:=hs.rm (k:=0) (by decide)
 refine XcE.of F128 rfl ?_
 simp only[c6I]
 unfold f2S
 by_cases o9:op=9
 ·obtain⟨x,rfl⟩:∃ x,l=[x]:=by
   match l,hn.1 o9 with
   |[x],_=>exact⟨x,rfl⟩
  have hx:=hl x (by simp)
  have hsc:=λK=>@f6U gl p (p - 1) hk (by omega) x (LiOk.g' hs.b hR (by decide) hx) K
  rw[if_pos o9]
  simp only[wA,seval,hc,o9,f9Q,hw,hsc,f9O]
  first|exact Cd.same h ow|exact⟨rfl,Cd.same h ow⟩
 obtain⟨x,y,rfl⟩:∃ x y,l=[x,y]:=by
  match l,hn.2 o9 with
  |[x,y],_=>exact⟨x,y,rfl⟩
 have hx:=hl x (by simp)
 have hy:=hl y (by simp)
 rw[if_neg o9]
 by_cases o12:op=12
 ·have ha:=λK=>@f6T gl p hk x y (LiOk.g' hs.b hR (by decide) hx) (LiOk.g' hs.b hR (by decide) hy) K
  rw[if_pos o12]
  simp only[wA,seval,hc,o12,f9Q,ha]
  first|exact Cd.same h ow|exact⟨rfl,Cd.same h ow⟩
 rw[if_neg o12]
 by_cases o13:op=13
 ·have ha:=λK=>@f6V gl p hk x y (LiOk.g' hs.b hR (by decide) hx) (LiOk.g' hs.b hR (by decide) hy) K
  rw[if_pos o13]
  simp only[wA,seval,hc,o13,f9Q,ha,a1E,d5P]
  first|exact Cd.same h ow|exact⟨rfl,Cd.same h ow⟩
 rw[if_neg o13]
 simp only[wA,seval,hc,o9,o12,o13,f9Q]
 refine CallE.mono (f9G hk h hs hx hy ow) ?_
 rintro v sg1 ow1 ⟨rfl,hG⟩
 simp only[wA,seval]
 first|exact hG|exact⟨rfl,hG⟩
theorem f9S {p:Int} (hk:e2X p=true) {fa:Fs} {sg:Sg} {c r ri hi fm:Nat} {s:Cst} (h:CS sg c r ri hi fm p fa s) (hs:CsOk s) {op:Int} {x y:Li} (hx:LiOk s.b.vars x) (hy:LiOk s.b.vars y) {w:Int} (w0:0<=w) (w1:w<=100) (ow:Ow) :
  CallE F gl 129 [.lp c 0,.t (.int .i64 op),.t (.sl false (tLs [x,y])),.t (.int .i64 w)] sg ow λv sg' ow'=>v=.t (tLi (f2T (foF p) op [x,y] w s).1)/\Cd sg ow c r ri hi fm p fa (f2T (foF p) op [x,y] w s).2 sg' ow':=by
 have hw:IntKind.i64.wrap (w+2)=w+2:=IntWalk.i64_in _ (by omega)
 refine XcE.of F129 rfl ?_
 simp only[c6J]
 simp only[wA,seval,hw]
 refine CallE.mono (f8Z h hs (n:=w+2) (by omega) (by omega) ow) ?_
 rintro v sg1 ow1 ⟨rfl,rfl,hcs,hm⟩
 unfold f2T
 cases hr:f2L (w+2) s with
 |true =>
  rw[f9A hr] at hcs
  rw[f9C hr]
  have hc1:=hcs.hc
  simp only[f9O,f9P]
  by_cases o17:op=17
  ·rw[if_pos o17]
   obtain⟨r1,k1,x1,x2,x3⟩:=f4C (foF p) y x w0 s.b
   have lli:=f2D (f6I hk).nn hs.b y x w
   simp only[wA,seval,o17,hc1,a1C,lenS,d5Q,d5P,d5O,d5L,f9Q]
   refine CallE.mono (f7Y hk hcs.hb hs.b w0 (hs.rm (by decide)) hy hx ow1) ?_
   rintro v2 sg2 ow2 ⟨rfl,hG⟩
   have hD:=hcs.gd hG
   obtain⟨q1,ri2,hi2,hcs2,hm2⟩:=hD
   have hc2:=hcs2.hc
   have ho2:=x1.ok hs.b
   have hn:=λK=>RetE.iff (K:=K) (f7K (gl:=gl) hk hcs2.hb ho2 (x1.rm 0 (hs.rm (k:=200) (by decide)) (by omega) (by omega)) lli ow2)
   simp only[wA,seval,hc1,hc2,hn,d5Q,d5P,d5O,d5L]
   first|exact Cd.pre hm (List.prefix_refl _) ⟨q1,ri2,hi2,hcs2,hm2⟩|exact⟨rfl,Cd.pre hm (List.prefix_refl _) ⟨q1,ri2,hi2,hcs2,hm2⟩⟩
  ·rw[if_neg o17]
   simp only[wA,seval,o17,hc1,f9Q]
   refine CallE.mono (f7Y hk hcs.hb hs.b w0 (hs.rm (by decide)) hx hy ow1) ?_
   rintro v2 sg2 ow2 ⟨rfl,hG⟩
   simp only[wA,seval]
   first|exact Cd.pre hm (List.prefix_refl _) (hcs.gd hG)|exact⟨rfl,Cd.pre hm (List.prefix_refl _) (hcs.gd hG)⟩
 |false =>
  rw[f9B hr] at hcs
  rw[f9D hr]
  simp only[wA,seval]
  first|exact Cd.pre hm (List.prefix_refl _) (.same hcs ow1)|exact⟨rfl,Cd.pre hm (List.prefix_refl _) (.same hcs ow1)⟩
theorem f9T {p:Int} (hk:e2X p=true) {fa:Fs} {sg:Sg} {c r ri hi fm:Nat} {s:Cst} (h:CS sg c r ri hi fm p fa s) (hs:CsOk s) {op:Int} {l:List Li} (hn:(op=10->l.length=1)/\(op=14\/op=15\/op=18\/op=19->l.length=2)) (hl:∀ x,x∈l->LiOk s.b.vars x) (ow:Ow) :
  CallE F gl 130 [.lp c 0,.t (.int .i64 op),.t (.sl false (tLs l))] sg ow λx sg' ow'=>x=.t (tLi (f2U (foF p) op l s).1)/\Cd sg ow c r ri hi fm p fa (f2U (foF p) op l s).2 sg' ow':=by
 have hc:=h.hc
 have hR:=hs.rm (k:=0) (by decide)
 refine XcE.of F130 rfl ?_
 simp only[c6K]
 unfold f2U
 by_cases o3:op=3
 ·have h1:=λK=>@f6M gl p 1 hk (by decide) K
  rw[if_pos o3]
  simp only[wA,seval,hc,o3,h1]
  first|exact Cd.same h ow|exact⟨rfl,Cd.same h ow⟩
 rw[if_neg o3]
 by_cases o10:op=10
 ·obtain⟨x,rfl⟩:∃ x,l=[x]:=by
   match l,hn.1 o10 with
   |[x],_=>exact⟨x,rfl⟩
  have hx:=hl x (by simp)
  have hnn:=λK=>RetE.iff (K:=K) (f7K (gl:=gl) hk h.hb hs.b hR hx ow)
  rw[if_pos o10]
  simp only[wA,seval,hc,o10,f9Q,hnn]
  first|exact Cd.same h ow|exact⟨rfl,Cd.same h ow⟩
 rw[if_neg o10]
 by_cases o2:op=14\/op=15\/op=18\/op=19
 ·obtain⟨x,y,rfl⟩:∃ x y,l=[x,y]:=by
   match l,hn.2 o2 with
   |[x,y],_=>exact⟨x,y,rfl⟩
  have hx:=hl x (by simp)
  have hy:=hl y (by simp)
  simp only[f9O,f9P]
  by_cases o18:op=18
  ·rw[if_pos o18]
   simp only[wA,seval,o18]
   refine CallE.mono (f8Z h hs (n:=1) (by decide) (by decide) ow) ?_
   rintro v sg1 ow1 ⟨rfl,rfl,hcs,hm⟩
   cases hr:f2L 1 s with
   |true =>
    rw[f9A hr] at hcs
    rw[f9C hr]
    have hc1:=hcs.hc
    simp only[wA,seval,hc1,f9Q]
    refine CallE.mono (f7N hk hcs.hb hs.b (hs.rm (by decide)) hx hy ow1) ?_
    rintro v2 sg2 ow2 ⟨rfl,hG⟩
    simp only[wA,seval]
    first|exact Cd.pre hm (List.prefix_refl _) (hcs.gd hG)|exact⟨rfl,Cd.pre hm (List.prefix_refl _) (hcs.gd hG)⟩
   |false =>
    rw[f9B hr] at hcs
    rw[f9D hr]
    simp only[wA,seval]
    first|exact Cd.pre hm (List.prefix_refl _) (.same hcs ow1)|exact⟨rfl,Cd.pre hm (List.prefix_refl _) (.same hcs ow1)⟩
  rw[if_neg o18]
  by_cases o19:op=19
  ·have n18:¬((19:Int)=18):=by decide
   rw[if_pos o19]
   simp only[wA,seval,o19,n18]
   refine CallE.mono (f8Z h hs (n:=1) (by decide) (by decide) ow) ?_
   rintro v sg1 ow1 ⟨rfl,rfl,hcs,hm⟩
   cases hr:f2L 1 s with
   |true =>
    rw[f9A hr] at hcs
    rw[f9C hr]
    have hc1:=hcs.hc
    simp only[wA,seval,hc1,f9Q,n18]
    refine CallE.mono (f7O hk hcs.hb hs.b (hs.rm (by decide)) hx hy ow1) ?_
    rintro v2 sg2 ow2 ⟨rfl,hG⟩
    simp only[wA,seval]
    first|exact Cd.pre hm (List.prefix_refl _) (hcs.gd hG)|exact⟨rfl,Cd.pre hm (List.prefix_refl _) (hcs.gd hG)⟩
   |false =>
    rw[f9B hr] at hcs
    rw[f9D hr]
    simp only[wA,seval]
    first|exact Cd.pre hm (List.prefix_refl _) (.same hcs ow1)|exact⟨rfl,Cd.pre hm (List.prefix_refl _) (.same hcs ow1)⟩
  rw[if_neg o19]
  by_cases o14:op=14
  ·rw[if_pos o14]
   simp only[wA,seval,o14]
   refine CallE.mono (f8Z h hs (n:=3) (by decide) (by decide) ow) ?_
   rintro v sg1 ow1 ⟨rfl,rfl,hcs,hm⟩
   cases hr:f2L 3 s with
   |true =>
    rw[f9A hr] at hcs
    rw[f9C hr]
    have hc1:=hcs.hc
    simp only[wA,seval,hc1,f9Q]
    refine CallE.mono (f7M hk hcs.hb hs.b (hs.rm (by decide)) hx hy ow1) ?_
    rintro v2 sg2 ow2 ⟨rfl,hG⟩
    simp only[wA,seval]
    first|exact Cd.pre hm (List.prefix_refl _) (hcs.gd hG)|exact⟨rfl,Cd.pre hm (List.prefix_refl _) (hcs.gd hG)⟩
   |false =>
    rw[f9B hr] at hcs
    rw[f9D hr]
    simp only[wA,seval]
    first|exact Cd.pre hm (List.prefix_refl _) (.same hcs ow1)|exact⟨rfl,Cd.pre hm (List.prefix_refl _) (.same hcs ow1)⟩
  have o15:op=15:=by omega
  rw[if_neg o14,if_pos o15]
  simp only[wA,seval,o15]
  refine CallE.mono (f8Z h hs (n:=3) (by decide) (by decide) ow) ?_
  rintro v sg1 ow1 ⟨rfl,rfl,hcs,hm⟩
  cases hr:f2L 3 s with
  |true =>
   rw[f9A hr] at hcs
   rw[f9C hr]
   have hc1:=hcs.hc
   simp only[wA,seval,hc1,f9Q]
   refine CallE.mono (f7M hk hcs.hb hs.b (hs.rm (by decide)) hx hy ow1) ?_
   rintro v2 sg2 ow2 ⟨rfl,hG⟩
   have hD:=hcs.gd hG
   obtain⟨q1,ri2,hi2,hcs2,hm2⟩:=hD
   have hc2:=hcs2.hc
   have hst:=f1M (foF p) (f0N (foF p) x y) s.b
   have hnn:=λK=>RetE.iff (K:=K) (f7K (gl:=gl) hk hcs2.hb (hst.ok hs.b) (hst.rm 0 (hs.rm (k:=200) (by decide)) (by decide) (by decide)) (f1Y (f6I hk).nn hs.b (f0N (foF p) x y)) ow2)
   have e:(eqB (foF p) x y s.b).1=(f0X (foF p) (f0N (foF p) x y) s.b).1:=rfl
   rw[e]
   simp only[wA,seval,hc2,hnn]
   first|exact Cd.pre hm (List.prefix_refl _) ⟨q1,ri2,hi2,hcs2,hm2⟩|exact⟨rfl,Cd.pre hm (List.prefix_refl _) ⟨q1,ri2,hi2,hcs2,hm2⟩⟩
  |false =>
   rw[f9B hr] at hcs
   rw[f9D hr]
   simp only[wA,seval]
   first|exact Cd.pre hm (List.prefix_refl _) (.same hcs ow1)|exact⟨rfl,Cd.pre hm (List.prefix_refl _) (.same hcs ow1)⟩
 ·have n14:¬op=14:=λe=>o2 (.inl e)
  have n15:¬op=15:=λe=>o2 (.inr (.inl e))
  have n18:¬op=18:=λe=>o2 (.inr (.inr (.inl e)))
  have n19:¬op=19:=λe=>o2 (.inr (.inr (.inr e)))
  rw[if_neg n18,if_neg n19,if_neg n14,if_neg n15]
  simp only[wA,seval,o3,o10,n14,n15,n18,n19]
  first|exact Cd.same h ow|exact⟨rfl,Cd.same h ow⟩
end Go.Proofs.YtdjcnfacjfnakaaGreat

/- Contracts: the value of an index; common types. -/
namespace Go.Proofs.YtdjcnfacjfnakaaGreat
open Go.Pi Go.Lx Go.Ky Go.Lib
variable {gl:Nat->Option (List T)}
theorem Mv.toGrow {x y:Sg} (h:Mv [] [] x y):Grow x y:=d5G λi hi=>h.2.1 i hi (by simp)
set_option maxHeartbeats 1000000 in
theorem f9U {sg:Sg} {m:Nat} {sc:Sx} (hm:sg[m]?=some (true,iC sc)) (e:Exp) (he:exB e=true) (ow:Ow) :
  CallE F gl 121 [.t (.agg (tEx e)),.mp m] sg ow λv sg' ow'=>v=.t (.int .i64 (f2X e sc))/\Grow sg sg'/\ow'=ow:=by
 refine XcE.of F121 rfl ?_
 simp only[c5X]
 have hml:=d4U hm
 by_cases o2:e.op=2
 ·have hP:f2X e sc=(lkC e.name sc).num:=by unfold f2X;rw[if_pos o2]
  rw[hP]
  unfold lkC
  cases hl:Ky.look e.name sc with
  |none =>
   simp only[wA,seval,d1J,o2,d5I hml,hm,a0W,iC,d4X,hl,Option.getD_none,Option.isSome_none,zVc]
   exact Grow.app _ _
  |some v =>
   simp only[wA,seval,d1J,o2,d5I hml,hm,a0W,iC,d4X,hl,g7D,Option.isSome_some]
   exact Grow.app _ _
 by_cases o12:e.op=12
 ·obtain⟨a,b,hab⟩:=d5R he (.inr (.inl o12))
  have hP:f2X e sc=IntKind.i64.wrap ((lkC a.name sc).num+IntKind.i64.wrap b.val):=by unfold f2X;rw[if_neg (by omega),if_pos o12,hab];rfl
  rw[hP]
  unfold lkC
  cases hl:Ky.look a.name sc with
  |none =>
   simp only[wA,seval,d1J,o12,hab,d1H,d5I hml,hm,a0W,iC,d4X,hl,Option.getD_none,Option.isSome_none,zVc]
   exact Grow.app _ _
  |some v =>
   simp only[wA,seval,d1J,o12,hab,d1H,d5I hml,hm,a0W,iC,d4X,hl,g7D,Option.isSome_some]
   exact Grow.app _ _
 by_cases o13:e.op=13
 ·obtain⟨a,b,hab⟩:=d5R he (.inr (.inr (.inl o13)))
  have hP:f2X e sc=IntKind.i64.wrap ((lkC a.name sc).num - IntKind.i64.wrap b.val):=by unfold f2X;rw[if_neg (by omega),if_neg (by omega),if_pos o13,hab];rfl
  rw[hP]
  unfold lkC
  cases hl:Ky.look a.name sc with
  |none =>
   simp only[wA,seval,d1J,o13,hab,d1H,d5I hml,hm,a0W,iC,d4X,hl,Option.getD_none,Option.isSome_none,zVc]
   exact Grow.app _ _
  |some v =>
   simp only[wA,seval,d1J,o13,hab,d1H,d5I hml,hm,a0W,iC,d4X,hl,g7D,Option.isSome_some]
   exact Grow.app _ _
 ·have hP:f2X e sc=IntKind.i64.wrap e.val:=by unfold f2X;rw[if_neg o2,if_neg o12,if_neg o13]
  rw[hP]
  simp only[wA,seval,d1J,o2,o12,o13]
  exact Grow.app _ _
theorem f9V {vs:List Vc} {v0:Vc} (hv0:vs[0]?=some v0) (hls:vs.length<=B20) {a:Nat} {sg0:Sg} (ha:sg0[a]?=some (false,cG tVc vs)) {ow:Ow} (Q:Ex->S->Prop):∀ (l:List Vc) (i:Nat) (fr:List PV) (sg:Sg),vs.drop i=l->Mv [] [] (sg0++[(false,[.t (.int .i64 0),.t (.int .i64 0),.t (.int .i64 0)])]) sg ->
  b6S fr [(0,.ls a 0 vs.length 5),(2,.lp sg0.length 0),(5,.ls a 0 vs.length 5),(6,.t (.int .i64 vs.length)),(7,.t (.int .i64 i))] ->
  (l.all (λv=>decide (v.typ=v0.typ))=true->∀ fr' sg',Mv [] [] (sg0++[(false,[.t (.int .i64 0),.t (.int .i64 0),.t (.int .i64 0)])]) sg'->b6S fr' [(0,.ls a 0 vs.length 5),(2,.lp sg0.length 0)]->Q (.exit 0) ⟨fr',sg',ow⟩) ->
  (l.all (λv=>decide (v.typ=v0.typ))=false->∀ fr' sg',Mv [] [] sg0 sg'->sg'[sg0.length]?=some (false,[.t (.int .i64 1),.t (.int .i64 0),.t (.int .i64 0)])->b6S fr' [(2,.lp sg0.length 0)]->Q .ret ⟨fr',sg',ow⟩) ->
  Xl F gl c6E ⟨fr,sg,ow⟩ Q ⟨⟩:=by
 intro l
 induction l with
 |nil =>
  intro i fr sg hd hM hf k1 k2
  have hd:=b6N hd
  simp only[b6U,b6T] at hf
  obtain⟨f0,f2,f5,f6,f7,-⟩:=hf
  refine Xl.step ?_
  simp only[c6E]
  have c1:¬((i:Int) < (vs.length:Int)):=by omega
  simp only[wA,seval,f0,f2,f5,f6,f7,c1]
  exact k1 rfl _ _ hM (by simp only[wQ,seval,f0,f2])
 |cons x l ih =>
  intro i fr sg hd hM hf k1 k2
  obtain⟨hx,hr,hi⟩:=b6M hd
  simp only[b6U,b6T] at hf
  obtain⟨f0,f2,f5,f6,f7,-⟩:=hf
  have ha1:=hM.get (b0R ha) (by simp)
  have hz1:=hM.get (i:=sg0.length) (v:=(false,[.t (.int .i64 0),.t (.int .i64 0),.t (.int .i64 0)])) (by simp) (by simp)
  have la:=d4U ha1
  have lz:=d4U hz1
  have hlen:=f5N (t:=tVc) f6E vs
  refine Xl.step ?_
  simp only[c6E]
  have c1:(i:Int) < (vs.length:Int):=by omega
  have c0:(0:Int) < (vs.length:Int):=by omega
  have c00:0 < vs.length:=by omega
  have hw1:=d5F hi (show vs.length<=281474976710656 by have:B20=1100000:=rfl;omega)
  have hct:=f5T (t:=tVc) f6E vs i x [] hx
  rw[g5C] at hct
  simp only[g6E,g6F] at hct
  have hle:i * 5+5<=(cG tVc vs).length:=by omega
  have hle0:1+3<=(cG tVc vs).length:=by omega
  have ht0:((cG tVc vs).drop 1).take 3=[.t (.int .i64 v0.typ.kind),.t (.int .i64 v0.typ.bits),.t (.int .i64 v0.typ.len)]:=by
   match vs,hv0 with
   |y::r,hv0 =>
    have:y=v0:=by simpa using hv0
    subst this
    rfl
  rw[List.all_cons] at k1 k2
  have hq:=d5D x.typ v0.typ
  by_cases c:x.typ=v0.typ
  ·rw[g7K c] at k1 k2 hq
   simp only[wA,seval,f0,f2,f5,f6,f7,c1,c0,c00,hi,hw1,g4Z,ha1,d5I la,hct,hle,allT,wC,hle0,ht0,hq,Nat.zero_mul]
   exact ih (i+1) _ _ hr (hM.app2 _) (by simp only[wQ,seval,f0,f2,f5,f6]) (by simpa using k1) (by simpa using k2)
  ·rw[g7I c] at k1 k2 hq
   have hzz:=λt=>show(sg++(t:Sg))[sg0.length]?=_ from b0R hz1
   simp only[wA,seval,f0,f2,f5,f6,f7,c1,c0,c00,hi,hw1,g4Z,ha1,d5I la,hct,hle,allT,wC,hle0,ht0,hq,Nat.zero_mul,hzz,d5J lz]
   refine k2 rfl _ _ ((((Mv.app [] sg0 _).trans hM).set (.inr (g6U _)) _).app2 _) ?_ (by simp only[wQ,seval,f2])
   rw[g5J (by rw[g6A];exact lz),g5T lz]
theorem f9W {vs:List Vc} (h0:vs≠[]) (hls:vs.length<=B20) {sg:Sg} {a:Nat} (ha:sg[a]?=some (false,cG tVc vs)) (ow:Ow) :
  CallE F gl 126 [.ls a 0 vs.length 5] sg ow λv sg' ow'=>v=.t (.agg (tTy (f2P vs)))/\Grow sg sg'/\ow'=ow:=by
 obtain⟨v0,hv0⟩:∃ v0,vs[0]?=some v0:=⟨_,g5M (List.length_pos_iff.2 h0)⟩
 have hg0:vs.getD 0 zVc=v0:=by rw[List.getD_eq_getElem?_getD,hv0];rfl
 have hpos:=List.length_pos_iff.2 h0
 have c0:(0:Int) < (vs.length:Int):=by omega
 refine XcE.of F126 rfl ?_
 simp only[c6F]
 unfold f2P
 rw[hg0]
 simp only[wA,seval]
 refine f9V hv0 hls ha _ vs 0 _ _ rfl (.refl _ _) (by simp only[wQ,seval];first|done|exact⟨rfl,rfl⟩|rfl) ?_ ?_
 ·intro hall fr' sg' hM hf
  simp only[b6U,b6T] at hf
  obtain⟨f0,f2,-⟩:=hf
  have ha1:=hM.get (b0R ha) (by simp)
  have hz1:=hM.get (i:=sg.length) (v:=(false,[.t (.int .i64 0),.t (.int .i64 0),.t (.int .i64 0)])) (by simp) (by simp)
  have hlen:=f5N (t:=tVc) f6E vs
  have hle0:1+3<=(cG tVc vs).length:=by omega
  have ht0:((cG tVc vs).drop 1).take 3=[.t (.int .i64 v0.typ.kind),.t (.int .i64 v0.typ.bits),.t (.int .i64 v0.typ.len)]:=by
   match vs,hv0 with
   |y::r,hv0 =>
    have:y=v0:=by simpa using hv0
    subst this
    rfl
  rw[if_pos hall]
  simp only[wA,seval,f0,f2,c0,hpos,ha1,hle0,ht0,allT,hz1,d4T hz1,wC,Nat.zero_mul]
  exact Mv.toGrow (((Mv.app [] sg _).trans hM).set (.inr (g6U _)) _)
 ·intro hall fr' sg' hM hz hf
  simp only[b6U,b6T] at hf
  obtain⟨f2,-⟩:=hf
  rw[if_neg (by rw[hall];simp)]
  simp only[wA,seval,f2,hz,allT]
  exact⟨rfl,Mv.toGrow hM⟩
theorem f9X (x y:Vc) (sg:Sg) (ow:Ow) :
  CallE F gl 126 [.lit [tVc x,tVc y]] sg ow λv sg' ow'=>v=.t (.agg (tTy (f2P [x,y])))/\Grow sg sg'/\ow'=ow:=by
 have w1:IntKind.i64.wrap 1=1:=by decide
 have w2:IntKind.i64.wrap 2=2:=by decide
 refine XcE.of F126 rfl ?_
 simp only[c6F]
 have hq0:=d5D x.typ x.typ
 rw[g7K rfl] at hq0
 have hq:=d5D y.typ x.typ
 have hE:f2P [x,y]=if y.typ=x.typ then x.typ else fieldT:=by
  unfold f2P
  simp
 rw[hE]
 have hz1:∀ t:Sg,(sg++(false,[.t (.int .i64 0),.t (.int .i64 0),.t (.int .i64 0)])::t)[sg.length]?=some (false,[.t (.int .i64 0),.t (.int .i64 0),.t (.int .i64 0)]):=λt=>by simp
 by_cases c:y.typ=x.typ
 ·rw[g7K c] at hq
  rw[if_pos c]
  simp only[wA,seval]
  refine Xl.step ?_
  try simp only[c6E]
  simp only[wA,seval,hq0,hq,w1,w2,allT,wC]
  refine Xl.step ?_
  try simp only[c6E]
  simp only[wA,seval,hq0,hq,w1,w2,allT,wC]
  refine Xl.step ?_
  try simp only[c6E]
  simp only[wA,seval,hq0,hq,w1,w2,allT,wC]
  exact Grow.app _ _
 ·rw[g7I c] at hq
  rw[if_neg c]
  simp only[wA,seval]
  refine Xl.step ?_
  try simp only[c6E]
  simp only[wA,seval,hq0,hq,w1,w2,allT,wC]
  refine Xl.step ?_
  try simp only[c6E]
  simp only[wA,seval,hq0,hq,w1,w2,allT,wC]
  exact⟨rfl,Grow.app _ _⟩
end Go.Proofs.YtdjcnfacjfnakaaGreat

/- Contracts: a choice. -/
namespace Go.Proofs.YtdjcnfacjfnakaaGreat
open Go.Pi Go.Lx Go.Ky Go.Lib
variable {gl:Nat->Option (List T)}
def Elw (ow:Ow) (v:PV) (l:List Li):Prop:=(l=[]/\v=.t (.sl true []))\/(l≠[]/\∃ k,v=.own k 1 (tLs l)/\ow[k]?=some l.length)
theorem f9Y {ow ow':Ow} (h:ow <+: ow') {k n:Nat} (hk:ow[k]?=some n):ow'[k]?=some n:=by
 obtain⟨t,rfl⟩:=h
 rw[g5J (g5O.1 hk).1];exact hk
theorem Elw.pre {ow ow':Ow} {v:PV} {l:List Li} (h:Elw ow v l) (hp:ow <+: ow'):Elw ow' v l:=by
 rcases h with h|⟨h1,k,h2,h3⟩
 ·exact .inl h
 ·exact .inr ⟨h1,k,h2,f9Y hp h3⟩
theorem f9Z {ow0 ow:Ow} (h:ow0 <+: ow) {k n:Nat} (hk:ow0.length<=k):ow0 <+: ow.set k n:=by
 obtain⟨t,rfl⟩:=h
 rw[List.set_append_right _ _ hk]
 exact List.prefix_append _ _
theorem Elw.app {ow0 ow:Ow} {v:PV} {l:List Li} (h:Elw ow v l) (hp:ow0 <+: ow) (hk:∀ k z es,v=.own k z es->ow0.length<=k) (hl:l.length<=2000000) (x:Li) (dr:Bool) (sg:Sg) :
  ∃ v' ow',a0R dr sg ow 1 24 v (.lit [[tLi x]])=some (v',ow')/\Elw ow' v' (l++[x])/\ow0 <+: ow'/\(∀ k z es,v'=.own k z es->ow0.length<=k)/\Pi.one v'=true/\cellsP v'=[v']:=by
 have hlen0:ow0.length<=ow.length:=hp.length_le
 have ha:[[tLi x]].all (λy=>y.length == 1)=true:=rfl
 rcases h with⟨rfl,rfl⟩|⟨h1,k,rfl,h3⟩
 ·have hr:a0M 1 24=true:=by decide
  refine⟨.own ow.length 1 [[tLi x]],ow++[1],?_,.inr ⟨by simp,ow.length,rfl,by simp⟩,hp.trans (List.prefix_append _ _),λk z es e=>by injection e with e;omega,rfl,rfl⟩
  unfold a0R
  simp only[a0K,elems]
  rw[if_pos ⟨ha,by decide⟩]
  simp only[List.length_singleton,hr,g7H,if_true]
 ·have hr:a0M (l.length+1) 24=true:=by unfold a0M;simp only[g7L];omega
  have hkk:=hk k 1 (tLs l) rfl
  have hlt:=(g5O.1 h3).1
  refine⟨.own k 1 (tLs (l++[x])),ow.set k (l.length+1),?_,.inr ⟨by simp,k,rfl,by rw[g5T hlt];simp⟩,f9Z hp hkk,λk' z es e=>by injection e with e;omega,rfl,rfl⟩
  unfold a0R
  simp only[a0K,elems]
  rw[if_pos ⟨ha,by decide⟩]
  have e:tLs l++[[tLi x]]=tLs (l++[x]):=by unfold tLs;rw[g6D];rfl
  simp only[List.length_singleton,f5F,h3,hr,g7H,if_true,e]
theorem Elw.own {ow:Ow} {v:PV} {l:List Li} (h:Elw ow v l) (h0:l≠[]):∃ k,v=.own k 1 (tLs l):=by
 rcases h with⟨h1,_⟩|⟨_,k,h2,_⟩
 ·exact absurd h1 h0
 ·exact⟨k,h2⟩
abbrev cVc (v:Vc):List PV:=[.t (.sl false (tLs v.els)),.t (.int .i64 v.typ.kind),.t (.int .i64 v.typ.bits),.t (.int .i64 v.typ.len),.t (.int .i64 v.num)]
theorem g0A {p:Int} (hk:e2X p=true) {fa:Fs} {c r fm a6 a7 a8 a9 ri0 hi0:Nat} {cnd:Li} {x y:Vc} {t:Ty} {sg0:Sg} {ow0:Ow} (hxl:x.els.length<=2000000) (hxy:x.els.length=y.els.length)
  (h6:sg0[a6]?=some (false,cVc x)) (h7:sg0[a7]?=some (false,cVc y)) (c6:a6 ∉ [a9,c,r,ri0,hi0]) (c7:a7 ∉ [a9,c,r,ri0,hi0]) (l9:a9 < sg0.length) (c9:a9 ∉ [c,r,ri0,hi0]) (f9:a9≠fm) (Q:Ex->S->Prop):∀ (k:Nat) (i:Nat) (s:Cst) (done:List Li) (ev:PV) (fr:List PV) (sg:Sg) (ow:Ow) (ri hi:Nat),a9 ∉ [c,r,ri,hi]->i+k=x.els.length->done.length=i->CsOk s->LiOk s.b.vars cnd->(∀ l,l∈x.els->LiOk s.b.vars l)->(∀ l,l∈y.els->LiOk s.b.vars l)->CS sg c r ri hi fm p fa s->sg[a9]?=some (false,[ev,.t (.int .i64 t.kind),.t (.int .i64 t.bits),.t (.int .i64 t.len),.t (.int .i64 0)])->Elw ow ev done->(∀ k z es,ev=.own k z es->ow0.length<=k)->Mv [a9,c,r,ri0,hi0] [a9,c,r,ri,hi] sg0 sg->ow0 <+: ow ->
  b6S fr [(0,.lp c 0),(1,.t (tLi cnd)),(6,.lp a6 0),(7,.lp a7 0),(8,.lp a8 0),(9,.lp a9 0),(18,.t (.int .i64 x.els.length)),(19,.t (.int .i64 i))] ->
  (∀ fr' sg' ow' ri' hi' ev',CS sg' c r ri' hi' fm p fa (f2V (foF p) cnd (x.els.drop i) (y.els.drop i) s).2->sg'[a9]?=some (false,[ev',.t (.int .i64 t.kind),.t (.int .i64 t.bits),.t (.int .i64 t.len),.t (.int .i64 0)])->Elw ow' ev' (done++(f2V (foF p) cnd (x.els.drop i) (y.els.drop i) s).1)->Mv [a9,c,r,ri0,hi0] [a9,c,r,ri',hi'] sg0 sg'->ow0 <+: ow'->b6S fr' [(8,.lp a8 0),(9,.lp a9 0)]->Q (.exit 0) ⟨fr',sg',ow'⟩) ->
  Xl F gl c6G ⟨fr,sg,ow⟩ Q ⟨⟩:=by
 intro k
 induction k with
 |zero =>
  intro i s done ev fr sg ow ri hi k9 hik hdn hs hc hx hy h h9 hE hEk hM hO hf k1
  simp only[b6U,b6T] at hf
  obtain⟨f0,f1,f6,f7,f8,f9',f18,f19,-⟩:=hf
  refine Xl.step ?_
  simp only[c6G]
  have c1:¬((i:Int) < (x.els.length:Int)):=by omega
  rw[List.drop_eq_nil_of_le (show x.els.length<=i by omega),List.drop_eq_nil_of_le (show y.els.length<=i by omega),f2V] at k1
  ·simp only[wA,seval,f0,f1,f6,f7,f8,f9',f18,f19,c1]
   exact k1 _ _ _ ri hi ev h h9 (by simpa using hE) hM hO (by simp only[wQ,seval,f8,f9'])
  ·intros;simp_all
 |succ k ih =>
  intro i s done ev fr sg ow ri hi k9 hik hdn hs hc hx hy h h9 hE hEk hM hO hf k1
  simp only[b6U,b6T] at hf
  obtain⟨f0,f1,f6,f7,f8,f9',f18,f19,-⟩:=hf
  have hli:i < x.els.length:=by omega
  obtain⟨xi,hxi⟩:∃ z,x.els[i]?=some z:=⟨_,g5M hli⟩
  obtain⟨yi,hyi⟩:∃ z,y.els[i]?=some z:=⟨_,g5M (by omega)⟩
  have hdx:x.els.drop i=xi::x.els.drop (i+1):=by
   rw[List.drop_eq_getElem_cons hli];congr 1;exact Option.some.inj (by rw[<-hxi,g5M hli])
  have hdy:y.els.drop i=yi::y.els.drop (i+1):=by
   rw[List.drop_eq_getElem_cons (by omega)];congr 1;exact Option.some.inj (by rw[<-hyi,g5M (by omega)])
  rw[hdx,hdy,f2V] at k1
  simp only at k1
  have lxi:=hx xi (g6K hxi)
  have lyi:=hy yi (g6K hyi)
  obtain⟨s1,s2,s3⟩:=f4F (f6I hk) cnd hs lxi lyi
  have c1:((i:Int) < (x.els.length:Int)):=by omega
  have c2:((i:Int) < (y.els.length:Int)):=by omega
  have hli2:i < y.els.length:=by omega
  have hw1:=d5F hli (by omega)
  have l6:=d4U h6
  have l7:=d4U h7
  have k6:=hM.cold l6 c6
  have k7:=hM.cold l7 c7
  have m6:=hM.get h6 c6
  have m7:=hM.get h7 c7
  have n69:a6≠a9:=λe=>k6 (by simp [e])
  have n79:a7≠a9:=λe=>k7 (by simp [e])
  have k6':a6 ∉ [c,r,ri,hi]:=λe=>k6 (g6I _ e)
  have k7':a7 ∉ [c,r,ri,hi]:=λe=>k7 (g6I _ e)
  have nc9:c≠a9:=λe=>k9 (by simp [e])
  refine Xl.step ?_
  simp only[c6G]
  simp only[wA,seval,f0,f1,f6,f7,f8,f9',f18,f19,c1]
  refine CallE.mono (f8Z h hs (n:=1) (by decide) (by decide) ow) ?_
  rintro v sg1 ow1 ⟨rfl,rfl,hcs,hm⟩
  have m61:=hm.get m6 k6'
  have m71:=hm.get m7 k7'
  have m91:=hm.get h9 k9
  have k91:=hm.cold (d4U h9) k9
  have k61:=hm.cold (d4U m6) k6'
  have k71:=hm.cold (d4U m7) k7'
  have l91:=d4U m91
  cases hr:f2L 1 s with
  |false =>
   rw[f9B hr] at hcs
   rw[f9D hr] at k1 s1 s2 s3
   simp only at k1 s1 s2 s3
   obtain⟨v',ow',e1,e2,e3,e4,e5,e6⟩:=hE.app hO hEk (by omega) f0E false sg1
   have bz:b4J 1 1 [T.sl true []] [(0,1,PV.t (T.sl true []))]=some (.lit [[tLi f0E]]):=rfl
   simp only[wA,seval,f0,f1,f6,f7,f8,f9',f18,f19,c1,m91,bz,e1,e5,e6,wC,hw1]
   refine ih (i+1) _ (done++[f0E]) v' _ _ _ ri hi k91 (by omega) (by rw[g5W,List.length_singleton];omega) s1 hc hx hy (hcs.set k91 f9 _) (by rw[g5T l91]) e2 e4 ((hM.trans (hm.cons a9)).set (.inl (by simp)) _) e3 (by simp only[wQ,seval,f0,f1,f6,f7,f8,f9',f18]) ?_
   intro fr' sg' ow2 ri' hi' ev' x1 x2 x3 x4 x5 x6
   refine k1 fr' sg' ow2 ri' hi' ev' x1 x2 ?_ x4 x5 x6
   rw[g5B] at x3
   exact x3
  |true =>
   rw[f9A hr] at hcs
   rw[f9C hr] at k1 s1 s2 s3
   simp only at k1 s1 s2 s3
   have hc1:=hcs.hc
   simp only[wA,seval,f0,f1,f6,f7,f8,f9',f18,f19,c1,c2,hli,hli2,a1C,lenS,m91,hc1,m61,m71,f5G,f5F,hxi,hyi,g7F,g4Z]
   refine CallE.mono (f7P hk hcs.hb hs.b (hs.rm (by decide)) hc lxi lyi ow1) ?_
   rintro v2 sg2 ow2 ⟨rfl,hG⟩
   have hD:=hcs.gd hG
   obtain⟨q1,ri2,hi2,hcs2,hm2⟩:=hD
   have hc2:=hcs2.hc
   have m62:=hm2.get m61 k61
   have m72:=hm2.get m71 k71
   have m92:=hm2.get m91 k91
   have k92:=hm2.cold l91 k91
   have l92:=d4U m92
   obtain⟨v',ow',e1,e2,e3,e4,e5,e6⟩:=(hE.pre q1).app (hO.trans q1) hEk (by omega) (f0Y (foF p) cnd xi yi s.b).1 true sg2
   have g6:∀ z,(sg2.set a9 z)[a6]?=sg2[a6]?:=λz=>g5S (Ne.symm n69)
   have g7:∀ z,(sg2.set a9 z)[a7]?=sg2[a7]?:=λz=>g5S (Ne.symm n79)
   have gc:∀ z,(sg2.set a9 z)[c]?=sg2[c]?:=λz=>g5S (Ne.symm nc9)
   simp only[wA,seval,f0,f1,f6,f7,f8,f9',f18,f19,m91,m61,m71,hc1,m92,m62,m72,hc2,g6,g7,gc,f9H,e1,e5,e6,wC,hw1,d5Q,d5P,d5O,d5L]
   refine ih (i+1) _ (done++[(f0Y (foF p) cnd xi yi s.b).1]) v' _ _ _ ri2 hi2 k92 (by omega) (by rw[g5W,List.length_singleton];omega) s1 (hc.mono s2.vars) (λl hl=>(hx l hl).mono s2.vars) (λl hl=>(hy l hl).mono s2.vars) (hcs2.set k92 f9 _) (by rw[g5T l92]) e2 e4 ((((hM.trans (hm.cons a9))).trans (hm2.cons a9)).set (.inl (by simp)) _) e3 (by simp only[wQ,seval,f0,f1,f6,f7,f8,f9',f18]) ?_
   intro fr' sg' ow3 ri' hi' ev' x1 x2 x3 x4 x5 x6
   refine k1 fr' sg' ow3 ri' hi' ev' x1 x2 ?_ x4 x5 x6
   rw[g5B] at x3
   exact x3
theorem g0B {p:Int} (hk:e2X p=true) {fa:Fs} {sg:Sg} {c r ri hi fm:Nat} {s:Cst} (h:CS sg c r ri hi fm p fa s) (hs:CsOk s) {cnd:Li} (hc:LiOk s.b.vars cnd) {x y:Vc} (hxl:x.els.length<=2000000) (hx0:0 < x.els.length) (hxy:x.els.length=y.els.length) (hx:∀ l,l∈x.els->LiOk s.b.vars l) (hy:∀ l,l∈y.els->LiOk s.b.vars l) (ow:Ow) :
  CallE F gl 127 [.lp c 0,.t (tLi cnd),.t (.agg (tVc x)),.t (.agg (tVc y))] sg ow λv sg' ow'=>v=.t (.agg (tVc (f2W (foF p) cnd x y s).1))/\Cd sg ow c r ri hi fm p fa (f2W (foF p) cnd x y s).2 sg' ow':=by
 have lf:=d4U h.hf
 refine XcE.of F127 rfl ?_
 simp only[c6H]
 have hbs:b4J 5 2 zVt [(0,5,PV.t (.agg (tVc x))),(5,5,.t (.agg (tVc y)))]=some (.lit [tVc x,tVc y]):=rfl
 simp only[wA,seval,allT,hbs]
 refine CallE.mono (f9X x y _ ow) ?_
 rintro v sg1 ow1 ⟨rfl,hg1,rfl⟩
 have h1:=h.grow ((Grow.app sg _).trans hg1)
 have h6:=hg1.get (i:=sg.length) (x:=(false,cVc x)) (by simp)
 have h7:=hg1.get (i:=sg.length+1) (x:=(false,cVc y)) (by rw[g5K (by omega)];simp)
 have h8:=hg1.get (i:=sg.length+2) (x:=(false,[.t (.sl true []),.t (.int .i64 0),.t (.int .i64 0),.t (.int .i64 0),.t (.int .i64 0)])) (by rw[g5K (by omega)];simp)
 generalize hT:f2P [x,y]=t
 have hf1:fillP [PV.t (.sl true []),.t (.int .i64 0),.t (.int .i64 0),.t (.int .i64 0),.t (.int .i64 0)] [(1,3,.t (.agg [.int .i64 t.kind,.int .i64 t.bits,.int .i64 t.len]))]=some [PV.t (.sl true []),.t (.int .i64 t.kind),.t (.int .i64 t.bits),.t (.int .i64 t.len),.t (.int .i64 0)]:=rfl
 have lg:=hg1.len
 simp only[g5W,g5X,g5Z] at lg
 have hl1:=h1.lt
 have h6':=b0R (r:=[(false,[PV.t (.sl true []),.t (.int .i64 t.kind),.t (.int .i64 t.bits),.t (.int .i64 t.len),.t (.int .i64 0)])]) h6
 have h7':=b0R (r:=[(false,[PV.t (.sl true []),.t (.int .i64 t.kind),.t (.int .i64 t.bits),.t (.int .i64 t.len),.t (.int .i64 0)])]) h7
 have n6:sg.length ∉ [sg1.length,c,r,ri,hi]:=λe=>by
  rcases g6H.1 e with e|e
  ·omega
  ·exact h.new (g6U _) e
 have n7:sg.length+1 ∉ [sg1.length,c,r,ri,hi]:=λe=>by
  rcases g6H.1 e with e|e
  ·omega
  ·exact h.new (by omega) e
 have n8:sg.length+2 ∉ [sg1.length,c,r,ri,hi]:=λe=>by
  rcases g6H.1 e with e|e
  ·omega
  ·exact h.new (by omega) e
 simp only[wA,seval,allT,a1E,List.zip_cons_cons,List.zip_nil_left,hf1,wC,d5I (d4U h6),h6,f5F]
 refine g0A (fa:=fa) (r:=r) (fm:=fm) (a6:=sg.length) (a7:=sg.length+1) (a8:=sg.length+2) (a9:=sg1.length) (ri0:=ri) (hi0:=hi) (cnd:=cnd) (x:=x) (y:=y) (t:=t) (sg0:=sg1++[(false,[PV.t (.sl true []),.t (.int .i64 t.kind),.t (.int .i64 t.bits),.t (.int .i64 t.len),.t (.int .i64 0)])]) (ow0:=ow1) hk hxl hxy h6' h7' n6 n7 (by simp) (h1.new (g6U _)) (by omega) _ x.els.length 0 s [] (.t (.sl true [])) _ _ _ ri hi (h1.new (g6U _)) (by omega) rfl hs hc hx hy (h1.app _) (by simp) (.inl ⟨rfl,rfl⟩) (λk z es e=>by cases e) (.refl _ _) (List.prefix_refl _) (by simp only[wQ,seval];first|done|exact⟨rfl,rfl⟩|rfl) ?_
 intro fr' sg' ow' ri' hi' ev' hcs' h9' hE' hM' hO' hf'
 simp only[b6U,b6T] at hf'
 obtain⟨f8,f9,-⟩:=hf'
 rw[g5F,g5F,List.nil_append] at hE'
 rw[g5F,g5F] at hcs'
 obtain⟨_,_,e3,_⟩:=f4G (f6I hk) cnd x.els y.els s hxy hs hx hy
 obtain⟨k,rfl⟩:=hE'.own (λe=>by rw[e] at e3;simp at e3;omega)
 have h8':=hM'.get (b0R h8) n8
 have k8':=hM'.cold (d4U (b0R (r:=[(false,[PV.t (.sl true []),.t (.int .i64 t.kind),.t (.int .i64 t.bits),.t (.int .i64 t.len),.t (.int .i64 0)])]) h8)) n8
 have hE:f2W (foF p) cnd x y s=(⟨(f2V (foF p) cnd x.els y.els s).1,t,0⟩,(f2V (foF p) cnd x.els y.els s).2):=by unfold f2W;rw[hT]
 rw[hE]
 have h5:(1000:Nat) < 1005:=by decide
 have hma:mkAgg [PV.own k 1 (tLs (f2V (foF p) cnd x.els y.els s).1),.t (.int .i64 t.kind),.t (.int .i64 t.bits),.t (.int .i64 t.len),.t (.int .i64 0)]=.agg [PV.own k 1 (tLs (f2V (foF p) cnd x.els y.els s).1),.t (.int .i64 t.kind),.t (.int .i64 t.bits),.t (.int .i64 t.len),.t (.int .i64 0)]:=rfl
 have hcl:clo (.agg [PV.own k 1 (tLs (f2V (foF p) cnd x.els y.els s).1),.t (.int .i64 t.kind),.t (.int .i64 t.bits),.t (.int .i64 t.len),.t (.int .i64 0)])=.t (.agg (tVc ⟨(f2V (foF p) cnd x.els y.els s).1,t,0⟩)):=rfl
 simp only[wA,seval,f8,f9,h9',hma,wC,h8',d4T h8',c1B h5,hcl]
 refine⟨hO',ri',hi',hcs'.set (λe=>k8' (g6I _ e)) (by omega) _,?_⟩
 have hM2:Mv [sg1.length,c,r,ri,hi] [sg1.length,c,r,ri',hi'] sg sg':=(Mv.grow ((Grow.app sg _).trans (hg1.app2 _))).trans hM'
 refine Mv.set ⟨hM2.1,λi hi1 hn=>hM2.2.1 i hi1 λe=>?_,λi hi1=>?_⟩ (.inr (by omega)) _
 ·rcases g6H.1 e with e|e
  ·omega
  ·exact hn e
 ·rcases hM2.2.2 i (g6I _ hi1) with e|e
  ·rcases g6H.1 e with e|e
   ·exact .inr (by omega)
   ·exact .inl e
  ·exact .inr e
end Go.Proofs.YtdjcnfacjfnakaaGreat
