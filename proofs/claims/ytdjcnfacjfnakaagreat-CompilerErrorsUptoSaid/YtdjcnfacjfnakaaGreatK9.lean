/- Contracts: types. -/
import Derived.Test.YtdjcnfacjfnakaaGreatK6
import Derived.Test.YtdjcnfacjfnakaaGreatPi32
import Derived.Test.YtdjcnfacjfnakaaGreatKx19
set_option maxRecDepth 10000
set_option linter.unusedVariables false
set_option linter.unusedSimpArgs false
namespace Go.Proofs.YtdjcnfacjfnakaaGreat
open Go.Pi Go.Lx Go.Ky Go.Lib
variable {gl:Nat->Option (List T)}
def e0S (x:Int):Int:=if x=0 then 0 else (x.toNat.log2:Int)+1
theorem e0T {x:Int} (h:0 < x):(2:Int) ^ (e0S x - 1).toNat<=x/\x < 2 ^ (e0S x).toNat/\0 < e0S x:=by
 have hne:x.toNat≠0:=by omega
 have e:e0S x=(x.toNat.log2:Int)+1:=by unfold e0S;rw[if_neg (by omega)]
 have h1:=Nat.log2_self_le hne
 have h2:=@Nat.lt_log2_self x.toNat
 rw[e]
 have e1:((x.toNat.log2:Int)+1 - 1).toNat=x.toNat.log2:=by omega
 have e2:((x.toNat.log2:Int)+1).toNat=x.toNat.log2+1:=by omega
 rw[e1,e2]
 have c1:((2:Int) ^ x.toNat.log2)=((2 ^ x.toNat.log2:Nat):Int):=by push_cast;rfl
 have c2:((2:Int) ^ (x.toNat.log2+1))=((2 ^ (x.toNat.log2+1):Nat):Int):=by push_cast;rfl
 rw[c1,c2]
 omega
theorem e0U {x:Int} (h0:0<=x) {k:Nat} (h:x < 2 ^ k):e0S x<=k:=by
 unfold e0S
 split
 ·omega
 ·rename_i hne
  have:x.toNat < 2 ^ k:=by
   have c1:((2:Int) ^ k)=((2 ^ k:Nat):Int):=by push_cast;rfl
   omega
  have:=(Nat.log2_lt (n:=x.toNat) (k:=k) (by omega)).2 this
  omega
theorem e0V {x:Int} {k:Nat} (h:(2:Int) ^ k<=x):e0S x=k+e0S (x / 2 ^ k):=by
 have hp:0 < 2 ^ k:=Nat.two_pow_pos k
 have c1:((2:Int) ^ k)=((2 ^ k:Nat):Int):=by push_cast;rfl
 rw[c1] at h ⊢
 have hx:0 < x:=by omega
 obtain⟨n,rfl⟩:=Int.eq_ofNat_of_zero_le (a:=x) (by omega)
 have hn:2 ^ k<=n:=by omega
 have hq:0 < n / 2 ^ k:=Nat.div_pos hn hp
 have e:((n:Int) / ((2 ^ k:Nat):Int))=((n / 2 ^ k:Nat):Int):=rfl
 rw[e]
 unfold e0S
 rw[if_neg (by omega),if_neg (by omega)]
 simp only[g4Z]
 have:n.log2=k+(n / 2 ^ k).log2:=by
  have h1:=Nat.log2_self_le (n:=n / 2 ^ k) (by omega)
  have h2:=@Nat.lt_log2_self (n / 2 ^ k)
  rw[Nat.le_div_iff_mul_le hp,<-Nat.pow_add] at h1
  rw[Nat.div_lt_iff_lt_mul hp,<-Nat.pow_add] at h2
  have h3:=(Nat.le_log2 (n:=n) (k:=(n / 2 ^ k).log2+k) (by omega)).2 h1
  have h4:=(Nat.log2_lt (n:=n) (k:=(n / 2 ^ k).log2+1+k) (by omega)).2 h2
  omega
 omega
def e0W (n:Nat):Nat:=if n=0 then 0 else n.log2+1
theorem e0X:∀ n:Fin 256,c7U[n.1]?=some (UInt8.ofNat (e0W n.1)):=by decide +kernel
theorem e0Y {x:Int} (h0:0<=x) (h1:x < 256):∃ b:UInt8,c7U[x.toNat]?=some b/\((b.toNat:Nat):Int)=e0S x:=by
 obtain⟨n,rfl⟩:=Int.eq_ofNat_of_zero_le h0
 have ha:=e0X ⟨n,by omega⟩
 refine⟨UInt8.ofNat (e0W n),by rw[g4Z];exact ha,?_⟩
 have hl:=e0U h0 (k:=8) (by omega)
 unfold e0S at hl ⊢
 unfold e0W
 split
 ·rename_i h
  rw[if_pos (by omega)]
  rfl
 ·rename_i h
  rw[if_neg (by omega)] at hl ⊢
  rw[g4Z] at hl ⊢
  rw[UInt8.toNat_ofNat']
  omega
theorem e0Z {x:Int} (h0:0<=x) (h1:x<=18446744073709551615) {K:PV->Prop}:XcP F gl 164 [.int .u64 x] K ⟨⟩↔K (.t (.int .i64 (e0S x))):=by
 refine Ret.iff (Ret.of F164 rfl ?_)
 have e32:∀ z:Int,4294967296<=z->e0S z=32+e0S (z / 4294967296):=λz hz=>e0V (k:=32) hz
 have e16:∀ z:Int,65536<=z->e0S z=16+e0S (z / 65536):=λz hz=>e0V (k:=16) hz
 have e8:∀ z:Int,256<=z->e0S z=8+e0S (z / 256):=λz hz=>e0V (k:=8) hz
 have w48:IntKind.i64.wrap 48=48:=by decide
 have w56:IntKind.i64.wrap 56=56:=by decide
 have w16:IntKind.i64.wrap 16=16:=by decide
 have w24:IntKind.i64.wrap 24=24:=by decide
 have w40:IntKind.i64.wrap 40=40:=by decide
 have w8:IntKind.i64.wrap 8=8:=by decide
 have fin:∀ (z n:Int),0<=z->z < 256->0<=n->n<=56->∃ b:UInt8,c7U[(IntKind.u8.wrap z).toNat]?=some b/\0<=IntKind.u8.wrap z/\IntKind.i64.wrap (n+IntKind.i64.wrap (b.toNat:Int))=n+e0S z:=by
  intro z n hz hz2 hn hn2
  have hw:IntKind.u8.wrap z=z:=IntWalk.u8_in z ⟨hz,by omega⟩
  rw[hw]
  obtain⟨b,hb,hl⟩:=e0Y hz hz2
  refine⟨b,hb,hz,?_⟩
  have hle:=e0U hz (k:=8) (by omega)
  have hb0:0<=e0S z:=by omega
  rw[hl,IntWalk.i64_in (e0S z) (by omega),IntWalk.i64_in _ (by omega)]
 simp only[c7V]
 simp only[wA,seval,w48,w56,w16,w24,w40,w8,Int.zero_add,IntKind.bits,Nat.min_def,Int.reducePow,Int.fdiv_eq_ediv_of_nonneg,Int.reduceLE]
 repeat' ((with_reducible first|refine c0S ?_ ?_|refine c0T ?_ ?_|refine c0R ?_ ?_|refine c0Q ?_ ?_|refine c0O ?_ ?_|refine c0P ?_ ?_|refine c0N ?_ ?_|refine c0M ?_ ?_) <;> intro h <;> (try simp only[wA,seval,w48,w56,w16,w24,w40,w8,Int.zero_add,IntKind.bits,Nat.min_def,Int.reducePow,Int.fdiv_eq_ediv_of_nonneg,Int.reduceLE,h]))
 ·obtain⟨b,hb,hb0,hw⟩:=fin (x / 4294967296 / 65536 / 256) 56 (by omega) (by omega) (by omega) (by omega)
  simp only[wA,seval,hb,hb0,hw,w48,w56,w16,w24,w40,w8]
  repeat' ((with_reducible first|refine c0S ?_ ?_|refine c0T ?_ ?_|refine c0R ?_ ?_|refine c0Q ?_ ?_|refine c0O ?_ ?_|refine c0P ?_ ?_|refine c0N ?_ ?_|refine c0M ?_ ?_) <;> intro h <;> (try simp only[wA,seval,hb,hb0,hw,w48,w56,w16,w24,w40,w8,h]))
  all_goals (congr 2;rw[e32 (x) (by omega),e16 (x / 4294967296) (by omega),e8 (x / 4294967296 / 65536) (by omega)];try omega)
 ·obtain⟨b,hb,hb0,hw⟩:=fin (x / 4294967296 / 65536) 48 (by omega) (by omega) (by omega) (by omega)
  simp only[wA,seval,hb,hb0,hw,w48,w56,w16,w24,w40,w8]
  all_goals (congr 2;rw[e32 (x) (by omega),e16 (x / 4294967296) (by omega)];try omega)
 ·obtain⟨b,hb,hb0,hw⟩:=fin (x / 4294967296 / 256) 40 (by omega) (by omega) (by omega) (by omega)
  simp only[wA,seval,hb,hb0,hw,w48,w56,w16,w24,w40,w8]
  all_goals (congr 2;rw[e32 (x) (by omega),e8 (x / 4294967296) (by omega)];try omega)
 ·obtain⟨b,hb,hb0,hw⟩:=fin (x / 4294967296) 32 (by omega) (by omega) (by omega) (by omega)
  simp only[wA,seval,hb,hb0,hw,w48,w56,w16,w24,w40,w8]
  all_goals (congr 2;rw[e32 (x) (by omega)];try omega)
 ·obtain⟨b,hb,hb0,hw⟩:=fin (x / 65536 / 256) 24 (by omega) (by omega) (by omega) (by omega)
  simp only[wA,seval,hb,hb0,hw,w48,w56,w16,w24,w40,w8]
  all_goals (congr 2;rw[e16 (x) (by omega),e8 (x / 65536) (by omega)];try omega)
 ·obtain⟨b,hb,hb0,hw⟩:=fin (x / 65536) 16 (by omega) (by omega) (by omega) (by omega)
  simp only[wA,seval,hb,hb0,hw,w48,w56,w16,w24,w40,w8]
  all_goals (congr 2;rw[e16 (x) (by omega)];try omega)
 ·obtain⟨b,hb,hb0,hw⟩:=fin (x / 256) 8 (by omega) (by omega) (by omega) (by omega)
  simp only[wA,seval,hb,hb0,hw,w48,w56,w16,w24,w40,w8]
  all_goals (congr 2;rw[e8 (x) (by omega)];try omega)
 ·obtain⟨b,hb,hb0,hw⟩:=fin (x) 0 (by omega) (by omega) (by omega) (by omega)
  simp only[wA,seval,hb,hb0,hw,w48,w56,w16,w24,w40,w8]
  all_goals (congr 2;omega)
theorem e1A (x:Int):e0S x=d3L x:=rfl
theorem e1B (n:Int) {K:PV->Prop}:XcP F gl 186 [.int .i64 n] K ⟨⟩↔K (.t (.agg [.int .i64 n,.int .i64 0,.int .i64 0])):=by
 refine Ret.iff (Ret.of F186 rfl ?_)
 simp only[c8X]
 simp only[wA,seval]
 repeat' ((with_reducible first|refine c0S ?_ ?_|refine c0T ?_ ?_|refine c0R ?_ ?_|refine c0Q ?_ ?_|refine c0O ?_ ?_|refine c0P ?_ ?_|refine c0N ?_ ?_|refine c0M ?_ ?_) <;> intro h <;> (try simp only[wA,seval,h]))
theorem e1C (t:Ty) {K:PV->Prop}:XcP F gl 209 [.agg (tTy t)] K ⟨⟩↔K (.t (.agg [.int .i64 t.kind,.int .i64 t.bits,.int .i64 0])):=by
 refine Ret.iff (Ret.of F209 rfl ?_)
 simp only[d0C]
 simp only[wA,seval]
 repeat' ((with_reducible first|refine c0S ?_ ?_|refine c0T ?_ ?_|refine c0R ?_ ?_|refine c0Q ?_ ?_|refine c0O ?_ ?_|refine c0P ?_ ?_|refine c0N ?_ ?_|refine c0M ?_ ?_) <;> intro h <;> (try simp only[wA,seval,h]))
theorem e1D (t u:Ty) {K:PV->Prop}:XcP F gl 151 [.agg (tTy t),.agg (tTy u)] K ⟨⟩↔K (.t (.bool (d3K t u))):=by
 refine Ret.iff (Ret.of F151 rfl ?_)
 simp only[c7K]
 unfold d3K
 simp only[wA,seval]
 repeat' ((with_reducible first|refine c0S ?_ ?_|refine c0T ?_ ?_|refine c0R ?_ ?_|refine c0Q ?_ ?_|refine c0O ?_ ?_|refine c0P ?_ ?_|refine c0N ?_ ?_|refine c0M ?_ ?_) <;> intro h <;> (try simp only[wA,seval,h]))
 all_goals simp_all
theorem e1E (t:Ty):Says (gl:=gl) 191 (.agg (tTy t)) (d3N t):=by
 intro sg ow
 refine XcE.of F191 rfl ?_
 simp only[c9E]
 simp only[wA,seval]
 repeat' ((with_reducible first|refine c0S ?_ ?_|refine c0T ?_ ?_|refine c0R ?_ ?_|refine c0Q ?_ ?_|refine c0O ?_ ?_|refine c0P ?_ ?_|refine c0N ?_ ?_|refine c0M ?_ ?_) <;> intro h <;> (try simp only[wA,seval,h]))
 exact⟨rfl,Grow.app _ _⟩
theorem e1F (t:Ty):Says (gl:=gl) 195 (.agg (tTy t)) (d3O t):=by
 intro sg ow
 refine XcE.of F195 rfl ?_
 simp only[c9J]
 simp only[wA,seval,e1B,d5C]
 repeat' ((with_reducible first|refine c0S ?_ ?_|refine c0T ?_ ?_|refine c0R ?_ ?_|refine c0Q ?_ ?_|refine c0O ?_ ?_|refine c0P ?_ ?_|refine c0N ?_ ?_|refine c0M ?_ ?_) <;> intro h <;> (try simp only[wA,seval,e1B,d5C,h]))
 refine⟨?_,Grow.app _ _⟩
 simp only[PV.t.injEq,T.bool.injEq,Bool.and_true,d5C]
 exact decide_eq_decide.2 g4Y
theorem e1G {n:Int} (h:U64 n) {K:PV->Prop}:XcP F gl 188 [.int .u64 n] K ⟨⟩↔K (.t (.agg (tTy (d3M n)))):=by
 refine Ret.iff (Ret.of F188 rfl ?_)
 have a:=@e0Z gl n h.1 h.2
 simp only[c8Z]
 unfold d3M
 simp only[wA,seval,e1B,a,mxT]
 repeat' ((with_reducible first|refine c0S ?_ ?_|refine c0T ?_ ?_|refine c0R ?_ ?_|refine c0Q ?_ ?_|refine c0O ?_ ?_|refine c0P ?_ ?_|refine c0N ?_ ?_|refine c0M ?_ ?_) <;> intro h <;> (try simp only[wA,seval,e1B,a,mxT,h]))
 all_goals simp_all [fieldT,e1A]
theorem e1H (c x y:Ty) {K:PV->Prop}:XcP F gl 193 [.agg (tTy c),.agg (tTy x),.agg (tTy y)] K ⟨⟩↔K (.tup [.t (.agg (tTy (d3U c x y).1)),.t (.int .i64 (d3U c x y).2)]):=by
 refine Ret.iff (Ret.of F193 rfl ?_)
 have a:=λK=>(e1F (gl:=gl) c).call (K:=K)
 have b:=λt K=>(e1E (gl:=gl) t).call (K:=K)
 simp only[c9H]
 unfold d3U
 cases hb:d3O c with
 |false =>
  rw[hb] at a
  simp only[wA,seval,a,d5E]
  simp [bad,zTy]
 |true =>
  rw[hb] at a
  by_cases hxy:x=y
  ·subst hxy
   simp only[wA,seval,a,d5E,d5D,Bool.and_true,b,e1B]
  ·have hq:(x.kind == y.kind&&(x.bits == y.bits&&x.len == y.len))=false:=by rw[d5D];simpa using hxy
   cases h1:d3N x <;> cases h2:d3N y
   all_goals (simp only[wA,seval,a,d5E,hq,Bool.and_true,b,e1B,h1,h2,hxy])
   all_goals simp [bad,zTy,fieldT]
end Go.Proofs.YtdjcnfacjfnakaaGreat

/- Contracts: lists of types. -/
namespace Go.Proofs.YtdjcnfacjfnakaaGreat
open Go.Pi Go.Lx Go.Ky Go.Lib
variable {gl:Nat->Option (List T)}
theorem e1I {v:PV} {ts:List Ty} {f:Nat} {p:Ty->Bool} (hn:ts.length<=B47) (hp:∀ t,Says (gl:=gl) f (.agg (tTy t)) (p t)) {sg0:Sg} (hs:SlT sg0 v ts) {b6:Nat} (h6:sg0[b6]?=some (false,[.t (.int .i64 0),.t (.int .i64 0),.t (.int .i64 0)])) {ow:Ow} (Q:Ex->S->Prop):∀ (l:List Ty) (i:Nat) (fr:List PV) (sg:Sg),ts.drop i=l->Grow sg0 sg ->
  b6S fr [(1,.fn f []),(6,.lp b6 0),(10,v),(11,.t (.int .i64 ts.length)),(12,.t (.int .i64 i))] ->
  (l.all p=true->∀ fr' sg',Grow sg0 sg'->a0A fr' 5=a0A fr 5->a0A fr' 6=.lp b6 0->Q (.exit 0) ⟨fr',sg',ow⟩) ->
  (l.all p=false->∀ fr' sg',Grow sg0 sg'->a0A fr' 6=.lp b6 0->a0A fr' 7=.t (.int .i64 6)->Q .ret ⟨fr',sg',ow⟩) ->
  Xl F gl c9C ⟨fr,sg,ow⟩ Q ⟨⟩:=by
 intro l
 induction l with
 |nil =>
  intro i fr sg hd hg hf h1 h2
  have hd:=b6N hd
  simp only[b6U,b6T] at hf
  obtain⟨f1,f6,f10,f11,f12,-⟩:=hf
  refine Xl.step ?_
  simp only[c9C]
  have c1:¬((i:Int) < (ts.length:Int)):=by omega
  simp only[wA,seval,f1,f6,f10,f11,f12,c1]
  exact h1 rfl _ _ hg (by simp only[wQ,seval]) (by simp only[wQ,seval,f6])
 |cons t l ih =>
  intro i fr sg hd hg hf h1 h2
  obtain⟨hx,hr,hi⟩:=b6M hd
  simp only[b6U,b6T] at hf
  obtain⟨f1,f6,f10,f11,f12,-⟩:=hf
  rcases hs with⟨rfl,_⟩|⟨a,cs,rfl,ha,hcl,hcs⟩
  ·simp at hx
  refine Xl.step ?_
  simp only[c9C]
  have c1:(i:Int) < (ts.length:Int):=by omega
  have hw1:=d5F hi (show ts.length<=281474976710656 by have:B47=140737488355328:=rfl;omega)
  have ha':=hg.get ha
  have hle:i * 3+3<=cs.length:=by omega
  have hc:=hcs i t hx
  have hp':=hp t
  have h6':=hg.get h6
  simp only[wA,seval,f1,f6,f10,f11,f12,c1,g4Z,hi,ha',hle,hc]
  refine CallE.mono (hp' _ _) ?_
  rintro v sg' ow' ⟨rfl,hg',rfl⟩
  cases hq:p t with
  |true =>
   simp only[wA,seval,f1,f6,f10,f11,f12,hw1,hq]
   exact ih (i+1) _ _ hr (hg.trans ((Grow.app _ _).trans hg')) (by simp only[wQ,seval,f1,f6,f10,f11]) (λh fr' sg' g1 g2 g3=>h1 (by simpa [hq] using h) fr' sg' g1 (by rw[g2];simp only[wQ,seval]) g3) (λh=>h2 (by simpa [hq] using h))
  |false =>
   have h6'':=((Grow.app _ _).trans hg').get h6'
   simp only[wA,seval,f1,f6,f10,f11,f12,hq,h6'']
   rw[d5H h6'']
   exact h2 (by simp [hq]) _ _ (hg.trans ((Grow.app _ _).trans hg')) (by simp only[wQ,seval,f6]) (by simp only[wQ,seval])
theorem e1J {v:PV} {ts:List Ty} {f:Nat} {p:Ty->Bool} (hn:ts.length<=B47) (hp:∀ t,Says (gl:=gl) f (.agg (tTy t)) (p t)) {sg:Sg} (hs:SlT sg v ts) (r:Ty) (ow:Ow) :
  CallE F gl 190 [v,.fn f [],.t (.agg (tTy r))] sg ow λx sg' ow'=>x=tRt (d3P p ts r)/\Grow sg sg'/\ow'=ow:=by
 refine XcE.of F190 rfl ?_
 simp only[c9D]
 have hlen:=hs.len
 have g0:Grow sg (sg++[(false,[.t (.int .i64 r.kind),.t (.int .i64 r.bits),.t (.int .i64 r.len)]),(false,[.t (.int .i64 0),.t (.int .i64 0),.t (.int .i64 0)])]):=.app _ _
 have i5:(sg++[(false,[.t (.int .i64 r.kind),.t (.int .i64 r.bits),.t (.int .i64 r.len)]),(false,[.t (.int .i64 0),.t (.int .i64 0),.t (.int .i64 0)])])[sg.length]?=some (false,[.t (.int .i64 r.kind),.t (.int .i64 r.bits),.t (.int .i64 r.len)]):=by simp
 have i6:(sg++[(false,[.t (.int .i64 r.kind),.t (.int .i64 r.bits),.t (.int .i64 r.len)]),(false,[.t (.int .i64 0),.t (.int .i64 0),.t (.int .i64 0)])])[sg.length+1]?=some (false,[.t (.int .i64 0),.t (.int .i64 0),.t (.int .i64 0)]):=by simp
 rcases hs with⟨rfl,k,rfl⟩|⟨a,cs,rfl,ha,hcl,hcs⟩
 all_goals (simp only[wA,seval,g5Z,i6])
 all_goals skip
 ·refine e1I hn hp (.inl ⟨rfl,k,rfl⟩) i6 _ [] 0 _ _ rfl (Grow.refl _) (by simp only[wQ,seval];first|done|rfl) ?_ ?_
  ·intro h fr' sg' hg h5 h6
   have j5:=hg.get i5
   have j6:=hg.get i6
   simp only[wQ,seval] at h5
   simp only[wA,seval,h5,h6,j5,j6,d5E,d4T j6]
   refine⟨rfl,?_⟩
   exact(Fr.of (c:=sg.length+1) hg).set _ |>.grow g0 (by omega)
  ·intro h;simp at h
 ·refine e1I hn hp (.inr ⟨a,cs,rfl,g0.get ha,hcl,hcs⟩) i6 _ ts 0 _ _ rfl (Grow.refl _) (by simp only[wQ,seval];first|done|rfl) ?_ ?_
  ·intro h fr' sg' hg h5 h6
   have j5:=hg.get i5
   have j6:=hg.get i6
   simp only[wQ,seval] at h5
   simp only[wA,seval,h5,h6,j5,j6,d5E,d4T j6]
   unfold d3P
   rw[h]
   refine⟨rfl,?_⟩
   exact(Fr.of (c:=sg.length+1) hg).set _ |>.grow g0 (by omega)
  ·intro h fr' sg' hg h6 h7
   have j6:=hg.get i6
   simp only[wA,seval,h6,h7,j6,d5E]
   unfold d3P
   rw[h]
   exact⟨rfl,g0.trans hg⟩
end Go.Proofs.YtdjcnfacjfnakaaGreat

/- Contracts: comparisons, lists, calls. -/
namespace Go.Proofs.YtdjcnfacjfnakaaGreat
open Go.Pi Go.Lx Go.Ky Go.Lib
variable {gl:Nat->Option (List T)}
theorem e1K {sg:Sg} {c f n:Nat} {fs:Fs} {ns:Ns} {od:PV} {w:Int} (hk:Ck sg c f n fs ns od w) (x y:Ty) (ow:Ow) :
  CallE F gl 194 [.lp c 0,.t (.agg (tTy x)),.t (.agg (tTy y))] sg ow λv sg' ow'=>v=tRt (d3V x y w).1/\sg'[c]?=some (false,[.mp f,.mp n,od,.t (.int .i64 (d3V x y w).2)])/\Fr c sg sg':=by
 refine XcE.of F194 rfl ?_
 simp only[c9I]
 have hcl:=d4U hk.c
 have hc:=hk.c
 have bad':∀ r,sg++r=sg++r:=λ_=>rfl
 unfold d3V mx
 simp only[wA,seval,d5I hcl,d5J hcl,hc,gs0,gsk,ss0,ssk,mxT,e1B,d5E]
 repeat' ((with_reducible first|refine c0S ?_ ?_|refine c0T ?_ ?_|refine c0R ?_ ?_|refine c0Q ?_ ?_|refine c0O ?_ ?_|refine c0P ?_ ?_|refine c0N ?_ ?_|refine c0M ?_ ?_) <;> intro h <;> (try simp only[wA,seval,d5I hcl,d5J hcl,hc,gs0,gsk,ss0,ssk,mxT,e1B,d5E,h]))
 all_goals simp only[tRt,bad,zTy,d1G]
 all_goals simp_all [d5I hcl,gsc hcl]
 all_goals first|exact Fr.of (.app _ _)|exact Fr.setapp _ _ _ _|skip
theorem e1L {v:PV} {ts:List Ty} {a0:Ty} (h0:ts[0]?=some a0) (hn:ts.length<=B47) {sg0:Sg} (hs:SlT sg0 v ts) {b2 b4:Nat} (hlt:∀ a m,v=.ls a 0 m 3->a≠b4) (hb:b2≠b4) (hb4:b4 < sg0.length) (h2:sg0[b2]?=some (false,[.t (.int .i64 0),.t (.int .i64 0),.t (.int .i64 0)])) {ow:Ow} (Q:Ex->S->Prop):∀ (l:List Ty) (i:Nat) (r:Ty) (fr:List PV) (sg:Sg),ts.drop i=l->Fr b4 sg0 sg->sg[b4]?=some (false,cTy r) ->
  b6S fr [(0,v),(2,.lp b2 0),(4,.lp b4 0),(10,v),(11,.t (.int .i64 ts.length)),(12,.t (.int .i64 i))] ->
  (∀ r',d3S a0 l r=some r'->∀ fr' sg',Fr b4 sg0 sg'->sg'[b4]?=some (false,cTy r')->b6S fr' [(0,v),(2,.lp b2 0),(4,.lp b4 0)]->Q (.exit 0) ⟨fr',sg',ow⟩) ->
  (d3S a0 l r=none->∀ fr' sg',Fr b4 sg0 sg'->a0A fr' 2=.lp b2 0->a0A fr' 3=.t (.int .i64 6)->Q .ret ⟨fr',sg',ow⟩) ->
  Xl F gl c9F ⟨fr,sg,ow⟩ Q ⟨⟩:=by
 intro l
 induction l with
 |nil =>
  intro i r fr sg hd hg hr4 hf k1 k2
  have hd:=b6N hd
  simp only[b6U,b6T] at hf
  obtain⟨f0,f2,f4,f10,f11,f12,-⟩:=hf
  refine Xl.step ?_
  simp only[c9F]
  have c1:¬((i:Int) < (ts.length:Int)):=by omega
  simp only[wA,seval,f0,f2,f4,f10,f11,f12,c1]
  exact k1 r rfl _ _ hg hr4 (by simp only[wQ,seval,f0,f2,f4])
 |cons t l ih =>
  intro i r fr sg hd hg hr4 hf k1 k2
  obtain⟨hx,hr,hi⟩:=b6M hd
  simp only[b6U,b6T] at hf
  obtain⟨f0,f2,f4,f10,f11,f12,-⟩:=hf
  rcases hs with⟨rfl,_⟩|⟨a,cs,rfl,ha,hcl,hcs⟩
  ·simp at hx
  have hab:=hlt a _ rfl
  refine Xl.step ?_
  simp only[c9F]
  have c1:(i:Int) < (ts.length:Int):=by omega
  have hpos:0 < ts.length:=by omega
  have hw1:=d5F hi (show ts.length<=281474976710656 by have:B47=140737488355328:=rfl;omega)
  have ha':=hg.get ha hab
  have hal:=d4U ha'
  have h2':=hg.get h2 hb
  have h2l:=d4U h2'
  have h4l:=d4U hr4
  have hle:i * 3+3<=cs.length:=by omega
  have hle0:3<=cs.length:=by omega
  have hc:=hcs i t hx
  have hc0:cs.take 3=[.t (.int .i64 a0.kind),.t (.int .i64 a0.bits),.t (.int .i64 a0.len)]:=by simpa using hcs 0 a0 h0
  by_cases ht:t.len=0
  ·have hgo:d3S a0 (t::l) r=if t≠a0 then d3S a0 l fieldT else d3S a0 l r:=by
    show(if t.len≠0 then none else _)=_
    rw[if_neg (by simpa using ht)]
   by_cases hta:t=a0
   ·rw[if_neg (by simpa using hta)] at hgo
    subst hta
    simp only[wA,seval,f0,f2,f4,f10,f11,f12,c1,hw1,g4Z,hi,hpos,ha',hle,hle0,hc,hc0,ht,d5I hal,beq_self_eq_true,Bool.and_self]
    refine ih (i+1) r _ _ hr (hg.app _) (b0R hr4) (by simp only[wQ,seval,f0,f2,f4,f10,f11]) (λr' e=>k1 r' (by rw[hgo];exact e)) (λe=>k2 (by rw[hgo];exact e))
   ·rw[if_pos hta] at hgo
    have hq:(t.kind == a0.kind&&(t.bits == a0.bits&&t.len == a0.len))=false:=by rw[d5D];simpa using hta
    rw[ht] at hq
    simp only[wA,seval,f0,f2,f4,f10,f11,f12,c1,hw1,g4Z,hi,hpos,ha',hle,hle0,hc,hc0,ht,d5I hal,d5I h4l,d5J h4l,hr4,hq,Bool.and_true,e1B]
    refine ih (i+1) fieldT _ _ hr (hg.trans (Fr.setapp _ _ _ _)) (gsc h4l) (by simp only[wQ,seval,f0,f2,f4,f10,f11]) (λr' e=>k1 r' (by rw[hgo];exact e)) (λe=>k2 (by rw[hgo];exact e))
  ·have hgo:d3S a0 (t::l) r=none:=by
    show(if t.len≠0 then none else _)=_
    rw[if_pos ht]
   simp only[wA,seval,f0,f2,f4,f10,f11,f12,c1,g4Z,hi,hpos,ha',hle,hle0,hc,ht,d5I h2l,d5J h2l,h2']
   refine k2 hgo _ _ ?_ (by simp only[wQ,seval,f2]) (by simp only[wQ,seval])
   rw[d5H h2']
   exact hg.app _
theorem e1M {v:PV} {ts:List Ty} (hne:0 < ts.length) (hn:ts.length<=B47) {sg:Sg} (hs:SlT sg v ts) (ow:Ow) :
  CallE F gl 192 [v] sg ow λx sg' ow'=>x=tRt (d3T ts)/\Grow sg sg':=by
 obtain⟨a0,h0⟩:∃ a0,ts[0]?=some a0:=⟨ts[0],g5M hne⟩
 refine XcE.of F192 rfl ?_
 simp only[c9G]
 have hs':=hs
 rcases hs with⟨rfl,_⟩|⟨a,cs,rfl,ha,hcl,hcs⟩
 ·simp at hne
 have hal:=d4U ha
 have hle0:3<=cs.length:=by omega
 have hc0:cs.take 3=[.t (.int .i64 a0.kind),.t (.int .i64 a0.bits),.t (.int .i64 a0.len)]:=by simpa using hcs 0 a0 h0
 have hlm:d3T ts=match d3S a0 ts a0 with
  |none=>bad 6
  |some r=>(⟨r.kind,r.bits,(ts.length:Int)⟩,0):=by
  cases ts with
  |nil=>simp at hne
  |cons x r=>simp at h0;subst h0;rfl
 simp only[wA,seval,d5I hal,ha,hne,hle0,hc0]
 have g0:Grow sg (sg++[(false,[.t (.int .i64 0),.t (.int .i64 0),.t (.int .i64 0)]),(false,cTy a0)]):=.app _ _
 have i2:(sg++[(false,[.t (.int .i64 0),.t (.int .i64 0),.t (.int .i64 0)]),(false,cTy a0)])[sg.length]?=some (false,[.t (.int .i64 0),.t (.int .i64 0),.t (.int .i64 0)]):=by simp
 have i4:(sg++[(false,[.t (.int .i64 0),.t (.int .i64 0),.t (.int .i64 0)]),(false,cTy a0)])[sg.length+1]?=some (false,cTy a0):=by simp
 refine e1L h0 hn (hs'.grow g0) (b2:=sg.length) (b4:=sg.length+1) (λa' m e=>by injection e with e;omega) (by omega) (d4U i4) i2 _ ts 0 a0 _ _ rfl (Fr.refl _ _) i4 (by simp only[wQ,seval];first|done|rfl) ?_ ?_
 ·intro r' hr' fr' sg' hg h4 hf
  simp only[b6U,b6T] at hf
  obtain⟨f0,f2,f4,-⟩:=hf
  have j2:=hg.get i2 (by omega)
  have l2:=d4U j2
  have l4:=d4U h4
  have ne1:¬sg.length+1=sg.length:=by omega
  have s2:∀ x,(sg'.set (sg.length+1) x)[sg.length]?=some (false,[.t (.int .i64 0),.t (.int .i64 0),.t (.int .i64 0)]):=λx=>by rw[g5S (by omega)];exact j2
  simp only[wA,seval,f0,f2,f4,h4,d4T h4,s2,d4T (s2 _),d5E]
  rw[hlm,hr']
  refine⟨rfl,?_⟩
  refine d5G λi hi=>?_
  rw[g5S (by omega),g5S (by omega),hg.2 i (by simp;omega) (by omega)]
  exact g5J hi
 ·intro hr' fr' sg' hg f2 f3
  have j2:=hg.get i2 (by omega)
  simp only[wA,seval,f2,f3,j2,d5E]
  rw[hlm,hr']
  exact⟨rfl,hg.grow g0 (by omega)⟩
abbrev cFu (f:Fu):List PV:=[.t (.str f.name),.t (.sl f.pnl (f.params.map tPa)),.t (.int .i64 f.res.kind),.t (.int .i64 f.res.bits),.t (.int .i64 f.res.len),.t (.sl f.bnl (d1M f.body)),.t (.int .i64 f.ret.op),.t (.int .u64 f.ret.val),.t (.str f.ret.name),.t (.sl f.ret.nl (d1H f.ret.args))]
theorem e1N {v:PV} {ts:List Ty} {ps:List Pa} {pnl:Bool} (hn:ts.length<=B47) (hps:ps.length=ts.length) {sg0:Sg} (hs:SlT sg0 v ts) {b6 b8:Nat} {cl:List PV} (h6:sg0[b6]?=some (false,[.t (.int .i64 0),.t (.int .i64 0),.t (.int .i64 0)])) (h8:sg0[b8]?=some (false,cl)) (hcl:cl[1]?=some (.t (.sl pnl (ps.map tPa)))) {ow:Ow} (Q:Ex->S->Prop):∀ (l:List Ty) (qs:List Pa) (i:Nat) (fr:List PV) (sg:Sg),ts.drop i=l->ps.drop i=qs->Grow sg0 sg ->
  b6S fr [(6,.lp b6 0),(8,.lp b8 0),(31,v),(32,.t (.int .i64 ts.length)),(33,.t (.int .i64 i))] ->
  (d3Q l qs=true->∀ fr' sg',Grow sg0 sg'->b6S fr' [(6,.lp b6 0),(8,.lp b8 0)]->Q (.exit 0) ⟨fr',sg',ow⟩) ->
  (d3Q l qs=false->∀ fr' sg',Grow sg0 sg'->a0A fr' 6=.lp b6 0->a0A fr' 7=.t (.int .i64 6)->Q .ret ⟨fr',sg',ow⟩) ->
  Xl F gl c9A ⟨fr,sg,ow⟩ Q ⟨⟩:=by
 intro l
 induction l with
 |nil =>
  intro qs i fr sg hd hq hg hf k1 k2
  have hd:=b6N hd
  simp only[b6U,b6T] at hf
  obtain⟨f6,f8,f31,f32,f33,-⟩:=hf
  refine Xl.step ?_
  simp only[c9A]
  have c1:¬((i:Int) < (ts.length:Int)):=by omega
  simp only[wA,seval,f6,f8,f31,f32,f33,c1]
  exact k1 rfl _ _ hg (by simp only[wQ,seval,f6,f8])
 |cons t l ih =>
  intro qs i fr sg hd hq hg hf k1 k2
  obtain⟨hx,hr,hi⟩:=b6M hd
  simp only[b6U,b6T] at hf
  obtain⟨f6,f8,f31,f32,f33,-⟩:=hf
  rcases hs with⟨rfl,_⟩|⟨a,cs,rfl,ha,hcs0,hcs⟩
  ·simp at hx
  cases qs with
  |nil =>
   have:=b6N hq
   omega
  |cons p qs =>
  obtain⟨hpx,hpr,hpi⟩:=b6M hq
  refine Xl.step ?_
  simp only[c9A]
  have c1:(i:Int) < (ts.length:Int):=by omega
  have hw1:=d5F hi (show ts.length<=281474976710656 by have:B47=140737488355328:=rfl;omega)
  have ha':=hg.get ha
  have hal:=d4U ha'
  have h6':=hg.get h6
  have h6l:=d4U h6'
  have h8':=hg.get h8
  have h8l:=d4U h8'
  have hle:i * 3+3<=cs.length:=by omega
  have hc:=hcs i t hx
  have hf:=λK=>@e1D gl t p.ty K
  have hgo:d3Q (t::l) (p::qs)=(d3K t p.ty&&d3Q l qs):=rfl
  cases hft:d3K t p.ty with
  |true =>
   rw[hft,g4X] at hgo
   rw[hft] at hf
   simp only[wA,seval,f6,f8,f31,f32,f33,c1,hw1,g4Z,hi,ha',hle,hc,d5I hal,d5I h8l,h8',hcl,g5P,hpx,hf]
   exact ih qs (i+1) _ _ hr hpr (hg.app2 _) (by simp only[wQ,seval,f6,f8,f31,f32]) (λe=>k1 (by rw[hgo];exact e)) (λe=>k2 (by rw[hgo];exact e))
  |false =>
   rw[hft,Bool.false_and] at hgo
   rw[hft] at hf
   simp only[wA,seval,f6,f8,f31,f32,f33,c1,hw1,g4Z,hi,ha',hle,hc,d5I hal,d5I h8l,d5I h6l,d5J h6l,h6',h8',hcl,g5P,hpx,hf]
   refine k2 hgo _ _ ?_ (by simp only[wQ,seval,f6]) (by simp only[wQ,seval])
   rw[d5H h6']
   exact hg.app2 _
theorem e1O {v:PV} {ts:List Ty} (hn:ts.length<=B47) {sg:Sg} {c f n:Nat} {fs:Fs} {ns:Ns} {od:PV} {w:Int} (hk:Ck sg c f n fs ns od w) (hs:SlT sg v ts) (nm:Nm) (ow:Ow) :
  CallE F gl 189 [.lp c 0,.t (.str nm),v] sg ow λx sg' ow'=>x=tRt (d3R fs nm ts)/\Grow sg sg':=by
 refine XcE.of F189 rfl ?_
 simp only[c9B]
 have hcl:=d4U hk.c
 have hfl:=d4U hk.f
 have hc:=hk.c
 have hf:=hk.f
 have hlen:=hs.len
 unfold d3R
 cases hl:Ky.look nm fs with
 |none =>
  simp only[wA,seval,d5I hcl,d5I hfl,hc,hf,a0W,d4X,hl,Option.getD_none,Option.isSome_none,d5E]
  exact⟨rfl,Grow.app _ _⟩
 |some fu =>
  have g0:Grow sg (sg++[(false,[.t (.int .i64 0),.t (.int .i64 0),.t (.int .i64 0)]),(false,cFu fu)]):=.app _ _
  have i6:(sg++[(false,[.t (.int .i64 0),.t (.int .i64 0),.t (.int .i64 0)]),(false,cFu fu)])[sg.length]?=some (false,[.t (.int .i64 0),.t (.int .i64 0),.t (.int .i64 0)]):=by simp
  have i8:(sg++[(false,[.t (.int .i64 0),.t (.int .i64 0),.t (.int .i64 0)]),(false,cFu fu)])[sg.length+1]?=some (false,cFu fu):=by simp
  by_cases hps:(ts.length:Int)=(fu.params.length:Int)
  ·have hps':fu.params.length=ts.length:=by omega
   have hnn:¬((ts.length:Int)≠(fu.params.length:Int)):=by simpa using hps
   simp only[if_neg hnn]
   have hs1:=hs.grow g0
   rcases hs with⟨rfl,k,rfl⟩|⟨a,cs,rfl,ha,hcs0,hcs⟩
   ·have hp0:fu.params=[]:=g5G (by simpa using hps')
    simp only[wA,seval,d5I hcl,d5I hfl,hc,hf,a0W,d4X,hl,g7D,Option.isSome_some,d5E,hp0]
    rw[hp0]
    simp only[cFu,hp0,g6F] at i6 i8 g0 hs1
    refine e1N (ts:=[]) (ps:=[]) (pnl:=fu.pnl) hn rfl hs1 (b6:=sg.length) (b8:=sg.length+1) i6 i8 rfl _ [] [] 0 _ _ rfl rfl (Grow.refl _) (by simp only[wQ,seval];first|done|rfl) ?_ ?_
    ·intro h fr' sg' hg hf'
     simp only[b6U,b6T] at hf'
     obtain⟨f6,f8,-⟩:=hf'
     have j6:=hg.get i6
     have j8:=hg.get i8
     simp only[wA,seval,f6,f8,j6,j8,d4T j6,d5E]
     refine⟨rfl,?_⟩
     exact((Fr.of (c:=sg.length) hg).set _).grow g0 (by omega)
    ·intro h;cases h
   ·simp only[wA,seval,d5I hcl,d5I hfl,hc,hf,a0W,d4X,hl,g7D,Option.isSome_some,d5E,hps]
    rw[<-hps]
    refine e1N (ps:=fu.params) (pnl:=fu.pnl) hn hps' hs1 (b6:=sg.length) (b8:=sg.length+1) i6 i8 rfl _ ts fu.params 0 _ _ rfl rfl (Grow.refl _) (by simp only[wQ,seval];first|done|rfl) ?_ ?_
    ·intro h fr' sg' hg hf'
     simp only[b6U,b6T] at hf'
     obtain⟨f6,f8,-⟩:=hf'
     have j6:=hg.get i6
     have j8:=hg.get i8
     simp only[wA,seval,f6,f8,j6,j8,d4T j6,d5E]
     rw[h]
     refine⟨by rw[if_neg (by simp)];rfl,?_⟩
     exact((Fr.of (c:=sg.length) hg).set _).grow g0 (by omega)
    ·intro h fr' sg' hg f6 f7
     have j6:=hg.get i6
     simp only[wA,seval,f6,f7,j6,d5E]
     rw[h]
     exact⟨by rw[if_neg (by simp)];rfl,g0.trans hg⟩
  ·simp only[if_pos (show(ts.length:Int)≠(fu.params.length:Int) from hps)]
   rcases hs with⟨rfl,k,rfl⟩|⟨a,cs,rfl,ha,hcs0,hcs⟩
   ·have hps2:¬(0:Int)=(fu.params.length:Int):=by simpa using hps
    simp only[wA,seval,d5I hcl,d5I hfl,hc,hf,a0W,d4X,hl,g7D,Option.isSome_some,d5E,hps2]
    exact⟨by rw[if_pos hps2];rfl,Grow.app _ _⟩
   ·simp only[wA,seval,d5I hcl,d5I hfl,hc,hf,a0W,d4X,hl,g7D,Option.isSome_some,d5E,hps]
    exact⟨by rw[if_pos hps];rfl,Grow.app _ _⟩
end Go.Proofs.YtdjcnfacjfnakaaGreat
