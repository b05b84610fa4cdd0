/- Contracts: Len64, decimal numbers: small, numDigits, formatBase10, FormatUint. -/
import Derived.Test.YtcbgiabippcpaaaGreatDoorIrA
import Derived.Test.YtcbgiabippcpaaaGreatDoorPi32
import Derived.Lib.ItoaNum
set_option maxRecDepth 10000
set_option linter.unusedVariables false
set_option linter.unusedSimpArgs false
namespace Go.Proofs.YtcbgiabippcpaaaGreatDoor
open Go.Pi Go.Lib
variable {gl:Nat→Option (List T)}
def e6P (x:Int):Int:=if x=0 then 0 else (x.toNat.log2:Int)+1
theorem e6Q {x:Int} (h:0 < x):(2:Int) ^ (e6P x - 1).toNat≤x∧x < 2 ^ (e6P x).toNat∧0 < e6P x:=by
 have hne:x.toNat≠0:=by omega
 have e:e6P x=(x.toNat.log2:Int)+1:=by unfold e6P;rw[if_neg (by omega)]
 have h1:=Nat.log2_self_le hne
 have h2:=@Nat.lt_log2_self x.toNat
 rw[e]
 have e1:((x.toNat.log2:Int)+1 - 1).toNat=x.toNat.log2:=by omega
 have e2:((x.toNat.log2:Int)+1).toNat=x.toNat.log2+1:=by omega
 rw[e1,e2]
 have c1:((2:Int) ^ x.toNat.log2)=((2 ^ x.toNat.log2:Nat):Int):=by push_cast;rfl
 have c2:((2:Int) ^ (x.toNat.log2+1))=((2 ^ (x.toNat.log2+1):Nat):Int):=by push_cast;rfl
 rw[c1,c2]
 omega
theorem e6R {x:Int} (h0:0≤x) {k:Nat} (h:x < 2 ^ k):e6P x≤k:=by
 unfold e6P
 split
 ·omega
 ·rename_i hne
  have:x.toNat < 2 ^ k:=by
   have c1:((2:Int) ^ k)=((2 ^ k:Nat):Int):=by push_cast;rfl
   omega
  have:=(Nat.log2_lt (n:=x.toNat) (k:=k) (by omega)).2 this
  omega
theorem e6S {x:Int} {k:Nat} (h:(2:Int) ^ k≤x):e6P x=k+e6P (x / 2 ^ k):=by
 have hp:0 < 2 ^ k:=Nat.two_pow_pos k
 have c1:((2:Int) ^ k)=((2 ^ k:Nat):Int):=by push_cast;rfl
 rw[c1] at h ⊢
 have hx:0 < x:=by omega
 obtain⟨n,rfl⟩:=Int.eq_ofNat_of_zero_le (a:=x) (by omega)
 have hn:2 ^ k≤n:=by omega
 have hq:0 < n / 2 ^ k:=Nat.div_pos hn hp
 have e:((n:Int) / ((2 ^ k:Nat):Int))=((n / 2 ^ k:Nat):Int):=rfl
 rw[e]
 unfold e6P
 rw[if_neg (by omega),if_neg (by omega)]
 simp only[g6D]
 have:n.log2=k+(n / 2 ^ k).log2:=by
  have h1:=Nat.log2_self_le (n:=n / 2 ^ k) (by omega)
  have h2:=@Nat.lt_log2_self (n / 2 ^ k)
  rw[Nat.le_div_iff_mul_le hp,←Nat.pow_add] at h1
  rw[Nat.div_lt_iff_lt_mul hp,←Nat.pow_add] at h2
  have h3:=(Nat.le_log2 (n:=n) (k:=(n / 2 ^ k).log2+k) (by omega)).2 h1
  have h4:=(Nat.log2_lt (n:=n) (k:=(n / 2 ^ k).log2+1+k) (by omega)).2 h2
  omega
 omega
def e6T (n:Nat):Nat:=if n=0 then 0 else n.log2+1
theorem e6U:∀ n:Fin 256,c9O[n.1]?=some (UInt8.ofNat (e6T n.1)):=by decide +kernel
theorem e6V {x:Int} (h0:0≤x) (h1:x < 256):∃ b:UInt8,c9O[x.toNat]?=some b∧((b.toNat:Nat):Int)=e6P x:=by
 obtain⟨n,rfl⟩:=Int.eq_ofNat_of_zero_le h0
 have ha:=e6U ⟨n,by omega⟩
 refine⟨UInt8.ofNat (e6T n),by rw[g6D];exact ha,?_⟩
 have hl:=e6R h0 (k:=8) (by omega)
 unfold e6P at hl ⊢
 unfold e6T
 split
 ·rename_i h
  rw[if_pos (by omega)]
  rfl
 ·rename_i h
  rw[if_neg (by omega)] at hl ⊢
  rw[g6D] at hl ⊢
  rw[g9H]
  omega
theorem e6W {x:Int} (h0:0≤x) (h1:x≤18446744073709551615) {K:PV→Prop}:XcP F gl 142 [.int .u64 x] K ⟨⟩↔K (.t (.int .i64 (e6P x))):=by
 refine Ret.iff (Ret.of F142 rfl ?_)
 have e32:∀ z:Int,4294967296≤z→e6P z=32+e6P (z / 4294967296):=fun z hz=>e6S (k:=32) hz
 have e16:∀ z:Int,65536≤z→e6P z=16+e6P (z / 65536):=fun z hz=>e6S (k:=16) hz
 have e8:∀ z:Int,256≤z→e6P z=8+e6P (z / 256):=fun z hz=>e6S (k:=8) hz
 have w48:IntKind.i64.wrap 48=48:=by decide
 have w56:IntKind.i64.wrap 56=56:=by decide
 have w16:IntKind.i64.wrap 16=16:=by decide
 have w24:IntKind.i64.wrap 24=24:=by decide
 have w40:IntKind.i64.wrap 40=40:=by decide
 have w8:IntKind.i64.wrap 8=8:=by decide
 have fin:∀ (z n:Int),0≤z→z < 256→0≤n→n≤56→∃ b:UInt8,c9O[(IntKind.u8.wrap z).toNat]?=some b∧0≤IntKind.u8.wrap z∧IntKind.i64.wrap (n+IntKind.i64.wrap (b.toNat:Int))=n+e6P z:=by
  intro z n hz hz2 hn hn2
  have hw:IntKind.u8.wrap z=z:=IntWalk.u8_in z ⟨hz,by omega⟩
  rw[hw]
  obtain⟨b,hb,hl⟩:=e6V hz hz2
  refine⟨b,hb,hz,?_⟩
  have hle:=e6R hz (k:=8) (by omega)
  have hb0:0≤e6P z:=by omega
  rw[hl,IntWalk.i64_in (e6P z) (by omega),IntWalk.i64_in _ (by omega)]
 simp only[c9P]
 simp only[wA,seval,reduceCtorEq,reduceIte,w48,w56,w16,w24,w40,w8,Int.zero_add,IntKind.bits,Nat.min_def,Int.reducePow,Int.fdiv_eq_ediv_of_nonneg,Int.reduceLE]
 repeat' ((with_reducible first|refine c3G ?_ ?_|refine c3H ?_ ?_|refine c3F ?_ ?_|refine c3E ?_ ?_|refine c3C ?_ ?_|refine c3D ?_ ?_|refine c3B ?_ ?_|refine c3A ?_ ?_) <;> intro h <;> (try simp only[wA,seval,reduceCtorEq,reduceIte,w48,w56,w16,w24,w40,w8,Int.zero_add,IntKind.bits,Nat.min_def,Int.reducePow,Int.fdiv_eq_ediv_of_nonneg,Int.reduceLE,h]))
 ·obtain⟨b,hb,hb0,hw⟩:=fin (x / 4294967296 / 65536 / 256) 56 (by omega) (by omega) (by omega) (by omega)
  simp only[wA,seval,reduceCtorEq,reduceIte,hb,hb0,hw,w48,w56,w16,w24,w40,w8]
  repeat' ((with_reducible first|refine c3G ?_ ?_|refine c3H ?_ ?_|refine c3F ?_ ?_|refine c3E ?_ ?_|refine c3C ?_ ?_|refine c3D ?_ ?_|refine c3B ?_ ?_|refine c3A ?_ ?_) <;> intro h <;> (try simp only[wA,seval,reduceCtorEq,reduceIte,hb,hb0,hw,w48,w56,w16,w24,w40,w8,h]))
  all_goals (congr 2;rw[e32 (x) (by omega),e16 (x / 4294967296) (by omega),e8 (x / 4294967296 / 65536) (by omega)];try omega)
 ·obtain⟨b,hb,hb0,hw⟩:=fin (x / 4294967296 / 65536) 48 (by omega) (by omega) (by omega) (by omega)
  simp only[wA,seval,reduceCtorEq,reduceIte,hb,hb0,hw,w48,w56,w16,w24,w40,w8]
  all_goals (congr 2;rw[e32 (x) (by omega),e16 (x / 4294967296) (by omega)];try omega)
 ·obtain⟨b,hb,hb0,hw⟩:=fin (x / 4294967296 / 256) 40 (by omega) (by omega) (by omega) (by omega)
  simp only[wA,seval,reduceCtorEq,reduceIte,hb,hb0,hw,w48,w56,w16,w24,w40,w8]
  all_goals (congr 2;rw[e32 (x) (by omega),e8 (x / 4294967296) (by omega)];try omega)
 ·obtain⟨b,hb,hb0,hw⟩:=fin (x / 4294967296) 32 (by omega) (by omega) (by omega) (by omega)
  simp only[wA,seval,reduceCtorEq,reduceIte,hb,hb0,hw,w48,w56,w16,w24,w40,w8]
  all_goals (congr 2;rw[e32 (x) (by omega)];try omega)
 ·obtain⟨b,hb,hb0,hw⟩:=fin (x / 65536 / 256) 24 (by omega) (by omega) (by omega) (by omega)
  simp only[wA,seval,reduceCtorEq,reduceIte,hb,hb0,hw,w48,w56,w16,w24,w40,w8]
  all_goals (congr 2;rw[e16 (x) (by omega),e8 (x / 65536) (by omega)];try omega)
 ·obtain⟨b,hb,hb0,hw⟩:=fin (x / 65536) 16 (by omega) (by omega) (by omega) (by omega)
  simp only[wA,seval,reduceCtorEq,reduceIte,hb,hb0,hw,w48,w56,w16,w24,w40,w8]
  all_goals (congr 2;rw[e16 (x) (by omega)];try omega)
 ·obtain⟨b,hb,hb0,hw⟩:=fin (x / 256) 8 (by omega) (by omega) (by omega) (by omega)
  simp only[wA,seval,reduceCtorEq,reduceIte,hb,hb0,hw,w48,w56,w16,w24,w40,w8]
  all_goals (congr 2;rw[e8 (x) (by omega)];try omega)
 ·obtain⟨b,hb,hb0,hw⟩:=fin (x) 0 (by omega) (by omega) (by omega) (by omega)
  simp only[wA,seval,reduceCtorEq,reduceIte,hb,hb0,hw,w48,w56,w16,w24,w40,w8]
  all_goals (congr 2;omega)
theorem e6X:∀ i:Fin 10,(st129_0.take (i.1+1)).drop i.1=[UInt8.ofNat (48+i.1)]:=by decide +kernel
theorem e6Y:∀ i:Fin 100,(st129_1.take (i.1 * 2+2)).drop (i.1 * 2)=[UInt8.ofNat (48+i.1 / 10),UInt8.ofNat (48+i.1 % 10)]:=by decide +kernel
theorem e6Z:st129_0.length=36:=by decide +kernel
theorem e7A:st129_1.length=200:=by decide +kernel
theorem e7B {i:Int} (h0:0≤i) (h1:i < 100) {K:PV→Prop}:XcP F gl 129 [.int .i64 i] K ⟨⟩↔K (.t (.str (decDigits i.toNat))):=by
 obtain⟨n,rfl⟩:=Int.eq_ofNat_of_zero_le h0
 refine Ret.iff (Ret.of F129 rfl ?_)
 have w1:IntKind.i64.wrap ((n:Int)+1)=((n+1:Nat):Int):=by rw[IntWalk.i64_in _ (by omega)];omega
 have w2:IntKind.i64.wrap ((n:Int) * 2)=((n * 2:Nat):Int):=by rw[IntWalk.i64_in _ (by omega)];omega
 have w3:IntKind.i64.wrap (((n * 2:Nat):Int)+2)=((n * 2+2:Nat):Int):=by rw[IntWalk.i64_in _ (by omega)];omega
 simp only[c8V]
 by_cases c:(n:Int) < 10
 ·have e:=e6X ⟨n,by omega⟩
  simp only at e
  have l1:n≤n+1:=by omega
  have l2:n+1≤36:=by omega
  simp only[wA,seval,reduceCtorEq,reduceIte,c,w1,a0T,e6Z,l1,l2,e]
  repeat' ((with_reducible first|refine c3G ?_ ?_|refine c3H ?_ ?_|refine c3F ?_ ?_|refine c3E ?_ ?_|refine c3C ?_ ?_|refine c3D ?_ ?_|refine c3B ?_ ?_|refine c3A ?_ ?_) <;> intro h <;> (try simp only[wA,seval,reduceCtorEq,reduceIte,c,w1,a0T,e6Z,l1,l2,e,h]))
  rw[decDigits_one (by omega)]
 ·have e:=e6Y ⟨n,by omega⟩
  simp only at e
  have l1:n * 2≤n * 2+2:=by omega
  have l2:n * 2+2≤200:=by omega
  simp only[wA,seval,reduceCtorEq,reduceIte,c,w2,w3,a0T,e7A,l1,l2,e]
  repeat' ((with_reducible first|refine c3G ?_ ?_|refine c3H ?_ ?_|refine c3F ?_ ?_|refine c3E ?_ ?_|refine c3C ?_ ?_|refine c3D ?_ ?_|refine c3B ?_ ?_|refine c3A ?_ ?_) <;> intro h <;> (try simp only[wA,seval,reduceCtorEq,reduceIte,c,w2,w3,a0T,e7A,l1,l2,e,h]))
  rw[decDigits_two (by omega) (by omega)]
theorem e7C {x:Int} (h0:0≤x) (h1:x≤64) {K:PV→Prop}:XcP F gl 141 [.int .i64 x] K ⟨⟩↔K (.t (.int .i64 ((l10 x.toNat:Nat):Int))):=by
 refine Ret.iff (Ret.of F141 rfl ?_)
 have w1:IntKind.i64.wrap (x * 78913)=x * 78913:=IntWalk.i64_in _ (by omega)
 simp only[c9N]
 simp only[wA,seval,reduceCtorEq,reduceIte,w1,IntKind.bits,Nat.min_def,Int.reducePow,Int.fdiv_eq_ediv_of_nonneg,Int.reduceLE]
 repeat' ((with_reducible first|refine c3G ?_ ?_|refine c3H ?_ ?_|refine c3F ?_ ?_|refine c3E ?_ ?_|refine c3C ?_ ?_|refine c3D ?_ ?_|refine c3B ?_ ?_|refine c3A ?_ ?_) <;> intro h <;> (try simp only[wA,seval,reduceCtorEq,reduceIte,w1,IntKind.bits,Nat.min_def,Int.reducePow,Int.fdiv_eq_ediv_of_nonneg,Int.reduceLE,h]))
 have e:x * 78913 / 262144=((l10 x.toNat:Nat):Int):=by unfold l10;omega
 rw[e]
theorem e7D {b:Bool} {K:PV→Prop}:XcP F gl 143 [.bool b] K ⟨⟩↔K (.t (.int .i64 (if b=true then 1 else 0))):=by
 refine Ret.iff (Ret.of F143 rfl ?_)
 simp only[c9Q]
 cases b
 ·simp only[wA,seval,reduceCtorEq,reduceIte]
  repeat' ((with_reducible first|refine c3G ?_ ?_|refine c3H ?_ ?_|refine c3F ?_ ?_|refine c3E ?_ ?_|refine c3C ?_ ?_|refine c3D ?_ ?_|refine c3B ?_ ?_|refine c3A ?_ ?_) <;> intro h <;> (try simp only[wA,seval,reduceCtorEq,reduceIte,h]))
 ·simp only[wA,seval,reduceCtorEq,reduceIte]
  repeat' ((with_reducible first|refine c3G ?_ ?_|refine c3H ?_ ?_|refine c3F ?_ ?_|refine c3E ?_ ?_|refine c3C ?_ ?_|refine c3D ?_ ?_|refine c3B ?_ ?_|refine c3A ?_ ?_) <;> intro h <;> (try simp only[wA,seval,reduceCtorEq,reduceIte,h]))
theorem numD {u L:Nat} (a:1≤L) (hL:L≤64) (b:2 ^ (L - 1)≤u) (c:u < 2 ^ L):l10 L+(if 10 ^ l10 L≤u then 1 else 0)=nDigits u∧l10 L≤19:=by
 obtain⟨t1,t2,t3⟩:=l10_tab ⟨L,by omega⟩ a
 simp only at t1 t2 t3
 refine⟨?_,t3⟩
 have hu:1≤u:=g8T (Nat.one_le_two_pow) b
 generalize l10 L=q at t1 t2 t3 ⊢
 by_cases hq:10 ^ q≤u
 ·rw[if_pos hq,nDigits_unique q u hq (by omega)]
 ·rw[if_neg hq]
  have hq1:1≤q:=by
   rcases g8O q with e|e
   ·subst e;simp at hq;omega
   ·exact e
  obtain⟨r,rfl⟩:∃ r,q=r+1:=⟨q - 1,by omega⟩
  have:=t2 hq1
  simp only[Nat.add_sub_cancel] at this
  rw[nDigits_unique r u (by omega) (by omega)]
def p10:List Int:=[1,10,100,1000,10000,100000,1000000,10000000,100000000,1000000000,10000000000,100000000000,1000000000000,10000000000000,100000000000000,1000000000000000,10000000000000000,100000000000000000,1000000000000000000,10000000000000000000]
theorem e7E:∀ i:Fin 20,p10[i.1]?=some ((10 ^ i.1:Nat):Int):=by decide +kernel
theorem e7F (i:Fin 20):(p10.map (T.int .u64))[i.1]?=some (T.int .u64 ((10 ^ i.1:Nat):Int)):=by
 rw[g7C,e7E i]
 rfl
theorem e7G (h2:gl 1=some (p10.map (T.int .u64))) {u:Int} (h0:1≤u) (h1:u≤18446744073709551615) {K:PV→Prop}:XcP F gl 130 [.int .u64 u] K ⟨⟩↔K (.t (.int .i64 ((nDigits u.toNat:Nat):Int))):=by
 refine Ret.iff (Ret.of F130 rfl ?_)
 obtain⟨s1,s2,s3⟩:=e6Q (x:=u) (by omega)
 have hl:=e6R (x:=u) (by omega) (k:=64) (by omega)
 obtain⟨n,rfl⟩:=Int.eq_ofNat_of_zero_le (a:=u) (by omega)
 obtain⟨L,hL⟩:∃ L:Nat,e6P (n:Int)=(L:Int):=⟨(e6P (n:Int)).toNat,by omega⟩
 have a90:=@e6W gl (n:Int) (by omega) h1
 rw[hL] at a90 s1 s2 hl s3
 have e1:((L:Int) - 1).toNat=L - 1:=by omega
 rw[e1] at s1
 rw[g6D] at s2
 have c1:((2:Int) ^ (L - 1))=((2 ^ (L - 1):Nat):Int):=by push_cast;rfl
 have c2:((2:Int) ^ L)=((2 ^ L:Nat):Int):=by push_cast;rfl
 rw[c1] at s1
 rw[c2] at s2
 obtain⟨q1,q2⟩:=numD (u:=n) (L:=L) (by omega) (by omega) (by omega) (by omega)
 have a91:=@e7C gl (L:Int) (by omega) (by omega)
 rw[g6D] at a91
 have hp:=e7F ⟨l10 L,by omega⟩
 simp only at hp
 have l1:((l10 L:Nat):Int) < 20:=by omega
 simp only[c8W]
 by_cases c:((10 ^ l10 L:Nat):Int)≤(n:Int)
 ·have hq:10 ^ l10 L≤n:=by omega
  rw[if_pos hq] at q1
  have w:IntKind.i64.wrap (((l10 L:Nat):Int)+1)=((nDigits n:Nat):Int):=by rw[IntWalk.i64_in _ (by omega)];omega
  simp only[wA,seval,reduceCtorEq,reduceIte,a90,a91,h2,hp,l1,c,e7D,w,g8Y]
  repeat' ((with_reducible first|refine c3G ?_ ?_|refine c3H ?_ ?_|refine c3F ?_ ?_|refine c3E ?_ ?_|refine c3C ?_ ?_|refine c3D ?_ ?_|refine c3B ?_ ?_|refine c3A ?_ ?_) <;> intro h <;> (try simp only[wA,seval,reduceCtorEq,reduceIte,a90,a91,h2,hp,l1,c,e7D,w,g8Y,h]))
 ·have hq:¬(10 ^ l10 L≤n):=by omega
  rw[if_neg hq] at q1
  have w:IntKind.i64.wrap (((l10 L:Nat):Int)+0)=((nDigits n:Nat):Int):=by rw[IntWalk.i64_in _ (by omega)];omega
  simp only[wA,seval,reduceCtorEq,reduceIte,a90,a91,h2,hp,l1,c,e7D,w,g8Y]
  repeat' ((with_reducible first|refine c3G ?_ ?_|refine c3H ?_ ?_|refine c3F ?_ ?_|refine c3E ?_ ?_|refine c3C ?_ ?_|refine c3D ?_ ?_|refine c3B ?_ ?_|refine c3A ?_ ?_) <;> intro h <;> (try simp only[wA,seval,reduceCtorEq,reduceIte,a90,a91,h2,hp,l1,c,e7D,w,g8Y,h]))
def dgs:Nat→Nat→List UInt8
 |0,_=>[]
 |k+1,u=>dgs k (u / 10)++[UInt8.ofNat (48+u % 10)]
theorem e7H (u:Nat):decDigits u=dgs (nDigits u) u:=by
 induction u using Nat.strongRecOn with
 |_ u ih =>
  by_cases h:u < 10
  ·rw[decDigits,dif_pos h,nDigits_small h]
   simp [dgs,Nat.mod_eq_of_lt h]
  ·rw[decDigits,dif_neg h,nDigits_big h,ih (u / 10) (by omega)]
   rfl
theorem e7I:∀ (k u:Nat),(dgs k u).length=k:=by
 intro k
 induction k with
 |zero=>intro u;rfl
 |succ k ih=>intro u;simp [dgs,ih]
def e7J (b:UInt8):PV:=.t (.int .u8 (b.toNat:Int))
theorem dgs8 (k u:Nat):dgs (k+8) u=dgs k (u / 100000000)++[UInt8.ofNat (48+u % 100000000 / 10000 / 100 / 10),UInt8.ofNat (48+u % 100000000 / 10000 / 100 % 10),UInt8.ofNat (48+u % 100000000 / 10000 % 100 / 10),UInt8.ofNat (48+u % 100000000 / 10000 % 100 % 10),
  UInt8.ofNat (48+u % 100000000 % 10000 / 100 / 10),UInt8.ofNat (48+u % 100000000 % 10000 / 100 % 10),UInt8.ofNat (48+u % 100000000 % 10000 % 100 / 10),UInt8.ofNat (48+u % 100000000 % 10000 % 100 % 10)]:=by
 have e0:u / 10 / 10 / 10 / 10 / 10 / 10 / 10 / 10=u / 100000000:=by omega
 have e1:u / 10 / 10 / 10 / 10 / 10 / 10 / 10 % 10=u % 100000000 / 10000 / 100 / 10:=by omega
 have e2:u / 10 / 10 / 10 / 10 / 10 / 10 % 10=u % 100000000 / 10000 / 100 % 10:=by omega
 have e3:u / 10 / 10 / 10 / 10 / 10 % 10=u % 100000000 / 10000 % 100 / 10:=by omega
 have e4:u / 10 / 10 / 10 / 10 % 10=u % 100000000 / 10000 % 100 % 10:=by omega
 have e5:u / 10 / 10 / 10 % 10=u % 100000000 % 10000 / 100 / 10:=by omega
 have e6:u / 10 / 10 % 10=u % 100000000 % 10000 / 100 % 10:=by omega
 have e7:u / 10 % 10=u % 100000000 % 10000 % 100 / 10:=by omega
 have e8:u % 10=u % 100000000 % 10000 % 100 % 10:=by omega
 simp only[dgs,e0,e1,e2,e3,e4,e5,e6,e7,g6H,g6L,g8F]
 rw[e8]
theorem e7K:∀ v:Fin 100,st129_1[v.1 * 2]?=some (UInt8.ofNat (48+v.1 / 10))∧st129_1[v.1 * 2+1]?=some (UInt8.ofNat (48+v.1 % 10)):=by decide +kernel
theorem sml {v:Nat} (h:v < 100):st129_1[v * 2]?=some (UInt8.ofNat (48+v / 10))∧st129_1[v * 2+1]?=some (UInt8.ofNat (48+v % 10)):=e7K ⟨v,h⟩
theorem e7L:c8X=st129_1∧c8Y=st129_1∧c8Z=st129_1∧c9A=st129_1∧c9B=st129_1∧c9C=st129_1∧c9D=st129_1∧c9E=st129_1∧c9F=st129_1∧c9G=st129_1∧c9H=st129_1∧c9I=st129_1∧c9J=st129_1∧c9K=st129_1:=⟨rfl,rfl,rfl,rfl,rfl,rfl,rfl,rfl,rfl,rfl,rfl,rfl,rfl,rfl⟩
theorem e7M (a:Nat):(a:Int).tdiv 100000000=((a / 100000000:Nat):Int)∧(a:Int).tdiv 10000=((a / 10000:Nat):Int)∧(a:Int).tdiv 100=((a / 100:Nat):Int):=by
 refine⟨?_,?_,?_⟩ <;> rw[Int.tdiv_eq_ediv_of_nonneg (by omega)] <;> omega
theorem e7N (a:Nat):(a:Int).tmod 100000000=((a % 100000000:Nat):Int)∧(a:Int).tmod 10000=((a % 10000:Nat):Int)∧(a:Int).tmod 100=((a % 100:Nat):Int):=by
 refine⟨?_,?_,?_⟩ <;> rw[Int.tmod_eq_emod_of_nonneg (by omega)] <;> omega
theorem d4Z {sg:Sg} {id:Nat} {x:Bool×List PV} (h:id < sg.length):(sg.set id x)[id]?=some x:=by simp [h]
theorem d5E {sg:Sg} {id:Nat} {x:Bool×List PV} (h:sg[id]?=some x):sg.set id x=sg:=by
 obtain⟨hl,e⟩:=g7B.1 h
 rw[←e]
 exact List.set_getElem_self hl
theorem e7O {A:List PV} {k:Nat} (h:A.length=k+8):∃ B a b c d e f g i,A=B++[a,b,c,d,e,f,g,i]∧B.length=k:=by
 have h1:=g8I k A
 have h2:(A.drop k).length=8:=by rw[g7M];omega
 match hd:A.drop k,h2 with
 |[a,b,c,d,e,f,g,i],_=>exact⟨A.take k,a,b,c,d,e,f,g,i,by rw[←hd];exact h1.symm,by rw[g7Q];omega⟩
set_option maxHeartbeats 2000000 in
theorem e7P (id N:Nat) (hN:N≤1000) (ow:Ow) (Q:Ex→S→Prop):∀ (c m u:Nat) (A D:List PV) (sg:Sg) (fr:List PV),A.length=m+8 * c→m < 8→m+8 * c≤N→u≤18446744073709551615→sg[id]?=some (false,A++D) →
  b8Y fr [(0,.ls id 0 N 1),(1,.t (.int .u64 (u:Int))),(4,.t (.int .i64 ((m+8 * c:Nat):Int)))] →
  (∀ fr' A',A'.length=m→b8Y fr' [(0,.ls id 0 N 1),(1,.t (.int .u64 ((u / 10 ^ (8 * c):Nat):Int))),(4,.t (.int .i64 (m:Int)))]→Q (.exit 0) ⟨fr',sg.set id (false,A'++((dgs (8 * c) u).map e7J++D)),ow⟩) →
  Xl F gl c9L ⟨fr,sg,ow⟩ Q ⟨⟩:=by
 intro c
 induction c with
 |zero =>
  intro m u A D sg fr hA hm hle hu hs hf hQ
  simp only[b9A,b8Z] at hf
  obtain⟨f0,f1,f4,-⟩:=hf
  simp only[Nat.mul_zero,g8N,Nat.pow_zero,Nat.div_one,dgs,g7U,g8F] at hA hle f4 hQ
  have c1:¬((8:Int)≤(m:Int)):=by omega
  refine Xl.step ?_
  simp only[c9L]
  simp only[wA,seval,reduceCtorEq,reduceIte,f4,c1]
  repeat' ((with_reducible first|refine c3G ?_ ?_|refine c3H ?_ ?_|refine c3F ?_ ?_|refine c3E ?_ ?_|refine c3C ?_ ?_|refine c3D ?_ ?_|refine c3B ?_ ?_|refine c3A ?_ ?_) <;> intro h <;> (try simp only[wA,seval,reduceCtorEq,reduceIte,f4,c1,h]))
  rw[←d5E hs]
  exact hQ _ A hA (by simp only[wQ,Nat.reduceEqDiff,reduceIte,f0,f1,f4])
 |succ c ih =>
  intro m u A D sg fr hA hm hle hu hs hf hQ
  simp only[b9A,b8Z] at hf
  obtain⟨f0,f1,f4,-⟩:=hf
  obtain⟨B,a,b,cc,d,e,f,g,i,rfl,hB⟩:=e7O (k:=m+8 * c) (by omega)
  have hid:id < sg.length:=(g7B.1 hs).1
  have c1:(8:Int)≤((m+8 * (c+1):Nat):Int):=by omega
  simp only[g6H,g6L,g8F] at hs
  obtain⟨A0e,A0o⟩:=sml (v:=u % 100000000 % 10000 % 100) (by omega)
  have A0w:IntKind.u32.wrap (((u % 100000000 % 10000 % 100:Nat):Int) * 2)=((u % 100000000 % 10000 % 100 * 2:Nat):Int):=by rw[IntWalk.u32_in _ (by omega)];omega
  have A0x:IntKind.u32.wrap (((u % 100000000 % 10000 % 100 * 2:Nat):Int)+1)=((u % 100000000 % 10000 % 100 * 2+1:Nat):Int):=by rw[IntWalk.u32_in _ (by omega)];omega
  obtain⟨A1e,A1o⟩:=sml (v:=u % 100000000 % 10000 / 100) (by omega)
  have A1w:IntKind.u32.wrap (((u % 100000000 % 10000 / 100:Nat):Int) * 2)=((u % 100000000 % 10000 / 100 * 2:Nat):Int):=by rw[IntWalk.u32_in _ (by omega)];omega
  have A1x:IntKind.u32.wrap (((u % 100000000 % 10000 / 100 * 2:Nat):Int)+1)=((u % 100000000 % 10000 / 100 * 2+1:Nat):Int):=by rw[IntWalk.u32_in _ (by omega)];omega
  obtain⟨B0e,B0o⟩:=sml (v:=u % 100000000 / 10000 % 100) (by omega)
  have B0w:IntKind.u32.wrap (((u % 100000000 / 10000 % 100:Nat):Int) * 2)=((u % 100000000 / 10000 % 100 * 2:Nat):Int):=by rw[IntWalk.u32_in _ (by omega)];omega
  have B0x:IntKind.u32.wrap (((u % 100000000 / 10000 % 100 * 2:Nat):Int)+1)=((u % 100000000 / 10000 % 100 * 2+1:Nat):Int):=by rw[IntWalk.u32_in _ (by omega)];omega
  obtain⟨B1e,B1o⟩:=sml (v:=u % 100000000 / 10000 / 100) (by omega)
  have B1w:IntKind.u32.wrap (((u % 100000000 / 10000 / 100:Nat):Int) * 2)=((u % 100000000 / 10000 / 100 * 2:Nat):Int):=by rw[IntWalk.u32_in _ (by omega)];omega
  have B1x:IntKind.u32.wrap (((u % 100000000 / 10000 / 100 * 2:Nat):Int)+1)=((u % 100000000 / 10000 / 100 * 2+1:Nat):Int):=by rw[IntWalk.u32_in _ (by omega)];omega
  have w0:IntKind.u32.wrap ((u % 100000000:Nat):Int)=((u % 100000000:Nat):Int):=IntWalk.u32_in _ (by omega)
  have w1:IntKind.u64.wrap ((u / 100000000:Nat):Int)=((u / 100000000:Nat):Int):=IntWalk.u64_in _ (by omega)
  have w2:IntKind.u32.wrap ((u % 100000000 / 10000:Nat):Int)=((u % 100000000 / 10000:Nat):Int):=IntWalk.u32_in _ (by omega)
  have w3:IntKind.u32.wrap ((u % 100000000 % 10000 / 100:Nat):Int)=((u % 100000000 % 10000 / 100:Nat):Int):=IntWalk.u32_in _ (by omega)
  have w4:IntKind.u32.wrap ((u % 100000000 / 10000 / 100:Nat):Int)=((u % 100000000 / 10000 / 100:Nat):Int):=IntWalk.u32_in _ (by omega)
  have i1:IntKind.i64.wrap (((m+8 * (c+1):Nat):Int) - 1)=((B.length+7:Nat):Int):=by rw[IntWalk.i64_in _ (by omega)];omega
  have j1:B.length+7 < N:=by omega
  have i2:IntKind.i64.wrap (((m+8 * (c+1):Nat):Int) - 2)=((B.length+6:Nat):Int):=by rw[IntWalk.i64_in _ (by omega)];omega
  have j2:B.length+6 < N:=by omega
  have i3:IntKind.i64.wrap (((m+8 * (c+1):Nat):Int) - 3)=((B.length+5:Nat):Int):=by rw[IntWalk.i64_in _ (by omega)];omega
  have j3:B.length+5 < N:=by omega
  have i4:IntKind.i64.wrap (((m+8 * (c+1):Nat):Int) - 4)=((B.length+4:Nat):Int):=by rw[IntWalk.i64_in _ (by omega)];omega
  have j4:B.length+4 < N:=by omega
  have i5:IntKind.i64.wrap (((m+8 * (c+1):Nat):Int) - 5)=((B.length+3:Nat):Int):=by rw[IntWalk.i64_in _ (by omega)];omega
  have j5:B.length+3 < N:=by omega
  have i6:IntKind.i64.wrap (((m+8 * (c+1):Nat):Int) - 6)=((B.length+2:Nat):Int):=by rw[IntWalk.i64_in _ (by omega)];omega
  have j6:B.length+2 < N:=by omega
  have i7:IntKind.i64.wrap (((m+8 * (c+1):Nat):Int) - 7)=((B.length+1:Nat):Int):=by rw[IntWalk.i64_in _ (by omega)];omega
  have j7:B.length+1 < N:=by omega
  have i8:IntKind.i64.wrap (((m+8 * (c+1):Nat):Int) - 8)=((B.length+0:Nat):Int):=by rw[IntWalk.i64_in _ (by omega)];omega
  have j8:B.length < N:=by omega
  have n1:¬((100000000:Int)=0):=by decide
  have n2:¬((10000:Int)=0):=by decide
  have n3:¬((100:Int)=0):=by decide
  refine Xl.step ?_
  simp only[c9L]
  simp only[wA,seval,reduceCtorEq,reduceIte,f0,f1,f4,c1,n1,n2,n3,e7L,e7M,e7N,A0e,A0o,A0w,A0x,A1e,A1o,A1w,A1x,B0e,B0o,B0w,B0x,B1e,B1o,B1w,B1x,w0,w1,w2,w3,w4,i1,i2,i3,i4,i5,i6,i7,i8,j1,j2,j3,j4,j5,j6,j7,j8,hs,d4Z,hid,g8G,g7P,g8Y,g8K,g8L,g8P]
  repeat' ((with_reducible first|refine c3G ?_ ?_|refine c3H ?_ ?_|refine c3F ?_ ?_|refine c3E ?_ ?_|refine c3C ?_ ?_|refine c3D ?_ ?_|refine c3B ?_ ?_|refine c3A ?_ ?_) <;> intro h <;> (try simp only[wA,seval,reduceCtorEq,reduceIte,f0,f1,f4,c1,n1,n2,n3,e7L,e7M,e7N,A0e,A0o,A0w,A0x,A1e,A1o,A1w,A1x,B0e,B0o,B0w,B0x,B1e,B1o,B1w,B1x,w0,w1,w2,w3,w4,i1,i2,i3,i4,i5,i6,i7,i8,j1,j2,j3,j4,j5,j6,j7,j8,hs,d4Z,hid,g8G,g7P,g8Y,g8K,g8L,g8P,h]))
  refine ih m (u / 100000000) B _ _ _ hB hm (by omega) (by omega) (d4Z hid) (by simp only[wQ,Nat.reduceEqDiff,reduceIte,f0,hB]) ?_
  intro fr' A' hA' hf'
  have e1:u / 100000000 / 10 ^ (8 * c)=u / 10 ^ (8 * (c+1)):=by
   rw[Nat.div_div_eq_div_mul,Nat.mul_add,g8Y,Nat.pow_add,g8W]
  rw[e1] at hf'
  have h3:=hQ fr' A' hA' hf'
  have e2:8 * (c+1)=8 * c+8:=by omega
  rw[e2,dgs8,g7S,g6H] at h3
  rw[g8G]
  exact h3
theorem e7Q:∀ (b a u:Nat),dgs (a+b) u=dgs a (u / 10 ^ b)++dgs b u:=by
 intro b
 induction b with
 |zero=>intro a u;simp [dgs]
 |succ b ih =>
  intro a u
  have e:u / 10 / 10 ^ b=u / 10 ^ (b+1):=by rw[Nat.div_div_eq_div_mul,Nat.pow_succ,g8W]
  rw[←g8K]
  simp only[dgs]
  rw[ih,e,g6H]
theorem dg0 {v:Nat} (h:v < 1):dgs 0 v=[]:=by
 simp only[dgs,g6H,g6L,g8F,g6J]
theorem dg1 {v:Nat} (h:v < 10):dgs 1 v=[UInt8.ofNat (48+v)]:=by
 have e0:v % 10=v:=by omega
 have ez:v / 10=0:=by omega
 simp only[dgs,g6H,g6L,g8F,g6J]
 rw[e0]
theorem dg2 {v:Nat} (h:v < 100):dgs 2 v=[UInt8.ofNat (48+v % 100 / 10),UInt8.ofNat (48+v % 100 % 10)]:=by
 have e1:v / 10 % 10=v % 100 / 10:=by omega
 have e0:v % 10=v % 100 % 10:=by omega
 have ez:v / 10 / 10=0:=by omega
 simp only[dgs,e1,g6H,g6L,g8F,g6J]
 rw[e0]
theorem dg3 {v:Nat} (h:v < 1000):dgs 3 v=[UInt8.ofNat (48+v / 100),UInt8.ofNat (48+v % 100 / 10),UInt8.ofNat (48+v % 100 % 10)]:=by
 have e2:v / 10 / 10 % 10=v / 100:=by omega
 have e1:v / 10 % 10=v % 100 / 10:=by omega
 have e0:v % 10=v % 100 % 10:=by omega
 have ez:v / 10 / 10 / 10=0:=by omega
 simp only[dgs,e2,e1,g6H,g6L,g8F,g6J]
 rw[e0]
theorem dg4 {v:Nat} (h:v < 10000):dgs 4 v=[UInt8.ofNat (48+v % 10000 / 100 / 10),UInt8.ofNat (48+v % 10000 / 100 % 10),UInt8.ofNat (48+v % 10000 % 100 / 10),UInt8.ofNat (48+v % 10000 % 100 % 10)]:=by
 have e3:v / 10 / 10 / 10 % 10=v % 10000 / 100 / 10:=by omega
 have e2:v / 10 / 10 % 10=v % 10000 / 100 % 10:=by omega
 have e1:v / 10 % 10=v % 10000 % 100 / 10:=by omega
 have e0:v % 10=v % 10000 % 100 % 10:=by omega
 have ez:v / 10 / 10 / 10 / 10=0:=by omega
 simp only[dgs,e3,e2,e1,g6H,g6L,g8F,g6J]
 rw[e0]
theorem dg5 {v:Nat} (h:v < 100000):dgs 5 v=[UInt8.ofNat (48+v / 10000),UInt8.ofNat (48+v % 10000 / 100 / 10),UInt8.ofNat (48+v % 10000 / 100 % 10),UInt8.ofNat (48+v % 10000 % 100 / 10),UInt8.ofNat (48+v % 10000 % 100 % 10)]:=by
 have e4:v / 10 / 10 / 10 / 10 % 10=v / 10000:=by omega
 have e3:v / 10 / 10 / 10 % 10=v % 10000 / 100 / 10:=by omega
 have e2:v / 10 / 10 % 10=v % 10000 / 100 % 10:=by omega
 have e1:v / 10 % 10=v % 10000 % 100 / 10:=by omega
 have e0:v % 10=v % 10000 % 100 % 10:=by omega
 have ez:v / 10 / 10 / 10 / 10 / 10=0:=by omega
 simp only[dgs,e4,e3,e2,e1,g6H,g6L,g8F,g6J]
 rw[e0]
theorem dg6 {v:Nat} (h:v < 1000000):dgs 6 v=[UInt8.ofNat (48+v / 10000 % 100 / 10),UInt8.ofNat (48+v / 10000 % 100 % 10),UInt8.ofNat (48+v % 10000 / 100 / 10),UInt8.ofNat (48+v % 10000 / 100 % 10),UInt8.ofNat (48+v % 10000 % 100 / 10),UInt8.ofNat (48+v % 10000 % 100 % 10)]:=by
 have e5:v / 10 / 10 / 10 / 10 / 10 % 10=v / 10000 % 100 / 10:=by omega
 have e4:v / 10 / 10 / 10 / 10 % 10=v / 10000 % 100 % 10:=by omega
 have e3:v / 10 / 10 / 10 % 10=v % 10000 / 100 / 10:=by omega
 have e2:v / 10 / 10 % 10=v % 10000 / 100 % 10:=by omega
 have e1:v / 10 % 10=v % 10000 % 100 / 10:=by omega
 have e0:v % 10=v % 10000 % 100 % 10:=by omega
 have ez:v / 10 / 10 / 10 / 10 / 10 / 10=0:=by omega
 simp only[dgs,e5,e4,e3,e2,e1,g6H,g6L,g8F,g6J]
 rw[e0]
theorem dg7 {v:Nat} (h:v < 10000000):dgs 7 v=[UInt8.ofNat (48+v / 10000 / 100),UInt8.ofNat (48+v / 10000 % 100 / 10),UInt8.ofNat (48+v / 10000 % 100 % 10),UInt8.ofNat (48+v % 10000 / 100 / 10),UInt8.ofNat (48+v % 10000 / 100 % 10),UInt8.ofNat (48+v % 10000 % 100 / 10),UInt8.ofNat (48+v % 10000 % 100 % 10)]:=by
 have e6:v / 10 / 10 / 10 / 10 / 10 / 10 % 10=v / 10000 / 100:=by omega
 have e5:v / 10 / 10 / 10 / 10 / 10 % 10=v / 10000 % 100 / 10:=by omega
 have e4:v / 10 / 10 / 10 / 10 % 10=v / 10000 % 100 % 10:=by omega
 have e3:v / 10 / 10 / 10 % 10=v % 10000 / 100 / 10:=by omega
 have e2:v / 10 / 10 % 10=v % 10000 / 100 % 10:=by omega
 have e1:v / 10 % 10=v % 10000 % 100 / 10:=by omega
 have e0:v % 10=v % 10000 % 100 % 10:=by omega
 have ez:v / 10 / 10 / 10 / 10 / 10 / 10 / 10=0:=by omega
 simp only[dgs,e6,e5,e4,e3,e2,e1,g6H,g6L,g8F,g6J]
 rw[e0]
set_option maxHeartbeats 4000000 in
theorem e7R {id N u:Nat} (hN:N≤1000) (hu:u≤18446744073709551615) (hlt:u < 10 ^ N) {sg:Sg} {ow:Ow} {A D:List PV} (hA:A.length=N) (hs:sg[id]?=some (false,A++D)) {K:PV→Sg→Ow→Prop} :
  XcE F gl 131 [.ls id 0 N 1,.t (.int .u64 (u:Int))] sg ow K ⟨⟩↔K (.tup []) (sg.set id (false,(dgs N u).map e7J++D)) ow:=by
 refine RetE.iff (RetE.of c9R rfl ?_)
 simp only[c9M]
 simp only[wA,seval,reduceCtorEq,reduceIte]
 repeat' ((with_reducible first|refine c3G ?_ ?_|refine c3H ?_ ?_|refine c3F ?_ ?_|refine c3E ?_ ?_|refine c3C ?_ ?_|refine c3D ?_ ?_|refine c3B ?_ ?_|refine c3A ?_ ?_) <;> intro h <;> (try simp only[wA,seval,reduceCtorEq,reduceIte,h]))
 obtain⟨c,m,hc,hm⟩:∃ c m,N=m+8 * c∧m < 8:=⟨N / 8,N % 8,by omega,by omega⟩
 subst hc
 refine e7P id _ hN _ _ c m u A D sg _ hA hm (g8S _) hu hs ?_ ?_
 ·simp only[wQ,Nat.reduceEqDiff,reduceIte]
 intro fr' A' hA' hf
 simp only[b9A,b8Z] at hf
 obtain⟨f0,f1,f4,-⟩:=hf
 have hid:id < sg.length:=(g7B.1 hs).1
 have hs1:(sg.set id (false,A'++((dgs (8 * c) u).map e7J++D)))[id]?=some (false,A'++((dgs (8 * c) u).map e7J++D)):=d4Z hid
 obtain⟨v,hve⟩:∃ v,v=u / 10 ^ (8 * c):=⟨_,rfl⟩
 have hv:v < 10 ^ m:=by
  rw[hve]
  refine Nat.div_lt_of_lt_mul ?_
  rw[←Nat.pow_add,Nat.add_comm]
  exact hlt
 rw[←hve] at f1
 have n2:¬((10000:Int)=0):=by decide
 have n3:¬((100:Int)=0):=by decide
 generalize hNe:m+8 * c=N at *
 generalize hR:(dgs (8 * c) u).map e7J++D=R at hs1 ⊢
 match A',hA' with
 |[],hA' =>
  have hm':m=0:=by simpa using hA'.symm
  subst hm'
  have hv':v < 1:=by simpa using hv
  have wv:IntKind.u32.wrap (v:Int)=(v:Int):=IntWalk.u32_in _ (by omega)
  simp only[g6L,g8F] at hs1 ⊢
  simp only[wA,seval,reduceCtorEq,reduceIte,f0,f1,f4,n2,n3,e7L,e7M,e7N,wv,hs1,d4Z,hid,g8G,g7P,g8Y,g8K,g8L,g8P,g9U]
  repeat' ((with_reducible first|refine c3G ?_ ?_|refine c3H ?_ ?_|refine c3F ?_ ?_|refine c3E ?_ ?_|refine c3C ?_ ?_|refine c3D ?_ ?_|refine c3B ?_ ?_|refine c3A ?_ ?_) <;> intro h <;> (try simp only[wA,seval,reduceCtorEq,reduceIte,f0,f1,f4,n2,n3,e7L,e7M,e7N,wv,hs1,d4Z,hid,g8G,g7P,g8Y,g8K,g8L,g8P,g9U,h]))
  rw[←hNe,e7Q,←hve,dg0 hv',g7S,g6H,hR]
  rfl
 |[a0],hA' =>
  have hm':m=1:=by simpa using hA'.symm
  subst hm'
  have hv':v < 10:=by simpa using hv
  have wv:IntKind.u32.wrap (v:Int)=(v:Int):=IntWalk.u32_in _ (by omega)
  have i0:IntKind.i64.wrap 0=0:=by decide
  have j0:0 < N:=by simp at hA';omega
  have z1:IntKind.u32.wrap (48+((v:Nat):Int))=((48+v:Nat):Int):=by rw[IntWalk.u32_in _ (by omega)];omega
  have z2:IntKind.u8.wrap ((48+v:Nat):Int)=((UInt8.ofNat (48+v)).toNat:Int):=by rw[IntWalk.u8_in _ (by omega),g9H];omega
  simp only[g6L,g8F] at hs1 ⊢
  simp only[wA,seval,reduceCtorEq,reduceIte,f0,f1,f4,n2,n3,e7L,e7M,e7N,wv,i0,j0,z1,z2,hs1,d4Z,hid,g8G,g7P,g8Y,g8K,g8L,g8P,g9U]
  repeat' ((with_reducible first|refine c3G ?_ ?_|refine c3H ?_ ?_|refine c3F ?_ ?_|refine c3E ?_ ?_|refine c3C ?_ ?_|refine c3D ?_ ?_|refine c3B ?_ ?_|refine c3A ?_ ?_) <;> intro h <;> (try simp only[wA,seval,reduceCtorEq,reduceIte,f0,f1,f4,n2,n3,e7L,e7M,e7N,wv,i0,j0,z1,z2,hs1,d4Z,hid,g8G,g7P,g8Y,g8K,g8L,g8P,g9U,h]))
  rw[←hNe,e7Q,←hve,dg1 hv',g7S,g6H,hR]
  rfl
 |[a0,a1],hA' =>
  have hm':m=2:=by simpa using hA'.symm
  subst hm'
  have hv':v < 100:=by simpa using hv
  have wv:IntKind.u32.wrap (v:Int)=(v:Int):=IntWalk.u32_in _ (by omega)
  have i0:IntKind.i64.wrap 0=0:=by decide
  have j0:0 < N:=by simp at hA';omega
  have i1:IntKind.i64.wrap 1=1:=by decide
  have j1:1 < N:=by simp at hA';omega
  obtain⟨Te,To⟩:=sml (v:=v % 100) (by omega)
  have Tw:IntKind.u32.wrap (((v % 100:Nat):Int) * 2)=((v % 100 * 2:Nat):Int):=by rw[IntWalk.u32_in _ (by omega)];omega
  have Tx:IntKind.u32.wrap (((v % 100 * 2:Nat):Int)+1)=((v % 100 * 2+1:Nat):Int):=by rw[IntWalk.u32_in _ (by omega)];omega
  have w3:IntKind.u32.wrap ((v / 100:Nat):Int)=((v / 100:Nat):Int):=IntWalk.u32_in _ (by omega)
  simp only[g6L,g8F] at hs1 ⊢
  simp only[wA,seval,reduceCtorEq,reduceIte,f0,f1,f4,n2,n3,e7L,e7M,e7N,wv,i0,j0,i1,j1,Te,To,Tw,Tx,w3,hs1,d4Z,hid,g8G,g7P,g8Y,g8K,g8L,g8P,g9U]
  repeat' ((with_reducible first|refine c3G ?_ ?_|refine c3H ?_ ?_|refine c3F ?_ ?_|refine c3E ?_ ?_|refine c3C ?_ ?_|refine c3D ?_ ?_|refine c3B ?_ ?_|refine c3A ?_ ?_) <;> intro h <;> (try simp only[wA,seval,reduceCtorEq,reduceIte,f0,f1,f4,n2,n3,e7L,e7M,e7N,wv,i0,j0,i1,j1,Te,To,Tw,Tx,w3,hs1,d4Z,hid,g8G,g7P,g8Y,g8K,g8L,g8P,g9U,h]))
  rw[←hNe,e7Q,←hve,dg2 hv',g7S,g6H,hR]
  rfl
 |[a0,a1,a2],hA' =>
  have hm':m=3:=by simpa using hA'.symm
  subst hm'
  have hv':v < 1000:=by simpa using hv
  have wv:IntKind.u32.wrap (v:Int)=(v:Int):=IntWalk.u32_in _ (by omega)
  have i0:IntKind.i64.wrap 0=0:=by decide
  have j0:0 < N:=by simp at hA';omega
  have i1:IntKind.i64.wrap 1=1:=by decide
  have j1:1 < N:=by simp at hA';omega
  have i2:IntKind.i64.wrap 2=2:=by decide
  have j2:2 < N:=by simp at hA';omega
  obtain⟨Te,To⟩:=sml (v:=v % 100) (by omega)
  have Tw:IntKind.u32.wrap (((v % 100:Nat):Int) * 2)=((v % 100 * 2:Nat):Int):=by rw[IntWalk.u32_in _ (by omega)];omega
  have Tx:IntKind.u32.wrap (((v % 100 * 2:Nat):Int)+1)=((v % 100 * 2+1:Nat):Int):=by rw[IntWalk.u32_in _ (by omega)];omega
  have w3:IntKind.u32.wrap ((v / 100:Nat):Int)=((v / 100:Nat):Int):=IntWalk.u32_in _ (by omega)
  have z1:IntKind.u32.wrap (48+((v / 100:Nat):Int))=((48+v / 100:Nat):Int):=by rw[IntWalk.u32_in _ (by omega)];omega
  have z2:IntKind.u8.wrap ((48+v / 100:Nat):Int)=((UInt8.ofNat (48+v / 100)).toNat:Int):=by rw[IntWalk.u8_in _ (by omega),g9H];omega
  simp only[g6L,g8F] at hs1 ⊢
  simp only[wA,seval,reduceCtorEq,reduceIte,f0,f1,f4,n2,n3,e7L,e7M,e7N,wv,i0,j0,i1,j1,i2,j2,Te,To,Tw,Tx,w3,z1,z2,hs1,d4Z,hid,g8G,g7P,g8Y,g8K,g8L,g8P,g9U]
  repeat' ((with_reducible first|refine c3G ?_ ?_|refine c3H ?_ ?_|refine c3F ?_ ?_|refine c3E ?_ ?_|refine c3C ?_ ?_|refine c3D ?_ ?_|refine c3B ?_ ?_|refine c3A ?_ ?_) <;> intro h <;> (try simp only[wA,seval,reduceCtorEq,reduceIte,f0,f1,f4,n2,n3,e7L,e7M,e7N,wv,i0,j0,i1,j1,i2,j2,Te,To,Tw,Tx,w3,z1,z2,hs1,d4Z,hid,g8G,g7P,g8Y,g8K,g8L,g8P,g9U,h]))
  rw[←hNe,e7Q,←hve,dg3 hv',g7S,g6H,hR]
  rfl
 |[a0,a1,a2,a3],hA' =>
  have hm':m=4:=by simpa using hA'.symm
  subst hm'
  have hv':v < 10000:=by simpa using hv
  have wv:IntKind.u32.wrap (v:Int)=(v:Int):=IntWalk.u32_in _ (by omega)
  have i0:IntKind.i64.wrap 0=0:=by decide
  have j0:0 < N:=by simp at hA';omega
  have i1:IntKind.i64.wrap 1=1:=by decide
  have j1:1 < N:=by simp at hA';omega
  have i2:IntKind.i64.wrap 2=2:=by decide
  have j2:2 < N:=by simp at hA';omega
  have i3:IntKind.i64.wrap 3=3:=by decide
  have j3:3 < N:=by simp at hA';omega
  obtain⟨Pe,Po⟩:=sml (v:=v % 10000 / 100) (by omega)
  have Pw:IntKind.u32.wrap (((v % 10000 / 100:Nat):Int) * 2)=((v % 10000 / 100 * 2:Nat):Int):=by rw[IntWalk.u32_in _ (by omega)];omega
  have Px:IntKind.u32.wrap (((v % 10000 / 100 * 2:Nat):Int)+1)=((v % 10000 / 100 * 2+1:Nat):Int):=by rw[IntWalk.u32_in _ (by omega)];omega
  obtain⟨Re,Ro⟩:=sml (v:=v % 10000 % 100) (by omega)
  have Rw:IntKind.u32.wrap (((v % 10000 % 100:Nat):Int) * 2)=((v % 10000 % 100 * 2:Nat):Int):=by rw[IntWalk.u32_in _ (by omega)];omega
  have Rx:IntKind.u32.wrap (((v % 10000 % 100 * 2:Nat):Int)+1)=((v % 10000 % 100 * 2+1:Nat):Int):=by rw[IntWalk.u32_in _ (by omega)];omega
  have w1:IntKind.u32.wrap ((v % 10000 / 100:Nat):Int)=((v % 10000 / 100:Nat):Int):=IntWalk.u32_in _ (by omega)
  have w2:IntKind.u32.wrap ((v / 10000:Nat):Int)=((v / 10000:Nat):Int):=IntWalk.u32_in _ (by omega)
  simp only[g6L,g8F] at hs1 ⊢
  simp only[wA,seval,reduceCtorEq,reduceIte,f0,f1,f4,n2,n3,e7L,e7M,e7N,wv,i0,j0,i1,j1,i2,j2,i3,j3,Pe,Po,Pw,Px,Re,Ro,Rw,Rx,w1,w2,hs1,d4Z,hid,g8G,g7P,g8Y,g8K,g8L,g8P,g9U]
  repeat' ((with_reducible first|refine c3G ?_ ?_|refine c3H ?_ ?_|refine c3F ?_ ?_|refine c3E ?_ ?_|refine c3C ?_ ?_|refine c3D ?_ ?_|refine c3B ?_ ?_|refine c3A ?_ ?_) <;> intro h <;> (try simp only[wA,seval,reduceCtorEq,reduceIte,f0,f1,f4,n2,n3,e7L,e7M,e7N,wv,i0,j0,i1,j1,i2,j2,i3,j3,Pe,Po,Pw,Px,Re,Ro,Rw,Rx,w1,w2,hs1,d4Z,hid,g8G,g7P,g8Y,g8K,g8L,g8P,g9U,h]))
  rw[←hNe,e7Q,←hve,dg4 hv',g7S,g6H,hR]
  rfl
 |[a0,a1,a2,a3,a4],hA' =>
  have hm':m=5:=by simpa using hA'.symm
  subst hm'
  have hv':v < 100000:=by simpa using hv
  have wv:IntKind.u32.wrap (v:Int)=(v:Int):=IntWalk.u32_in _ (by omega)
  have i0:IntKind.i64.wrap 0=0:=by decide
  have j0:0 < N:=by simp at hA';omega
  have i1:IntKind.i64.wrap 1=1:=by decide
  have j1:1 < N:=by simp at hA';omega
  have i2:IntKind.i64.wrap 2=2:=by decide
  have j2:2 < N:=by simp at hA';omega
  have i3:IntKind.i64.wrap 3=3:=by decide
  have j3:3 < N:=by simp at hA';omega
  have i4:IntKind.i64.wrap 4=4:=by decide
  have j4:4 < N:=by simp at hA';omega
  obtain⟨Pe,Po⟩:=sml (v:=v % 10000 / 100) (by omega)
  have Pw:IntKind.u32.wrap (((v % 10000 / 100:Nat):Int) * 2)=((v % 10000 / 100 * 2:Nat):Int):=by rw[IntWalk.u32_in _ (by omega)];omega
  have Px:IntKind.u32.wrap (((v % 10000 / 100 * 2:Nat):Int)+1)=((v % 10000 / 100 * 2+1:Nat):Int):=by rw[IntWalk.u32_in _ (by omega)];omega
  obtain⟨Re,Ro⟩:=sml (v:=v % 10000 % 100) (by omega)
  have Rw:IntKind.u32.wrap (((v % 10000 % 100:Nat):Int) * 2)=((v % 10000 % 100 * 2:Nat):Int):=by rw[IntWalk.u32_in _ (by omega)];omega
  have Rx:IntKind.u32.wrap (((v % 10000 % 100 * 2:Nat):Int)+1)=((v % 10000 % 100 * 2+1:Nat):Int):=by rw[IntWalk.u32_in _ (by omega)];omega
  have w1:IntKind.u32.wrap ((v % 10000 / 100:Nat):Int)=((v % 10000 / 100:Nat):Int):=IntWalk.u32_in _ (by omega)
  have w2:IntKind.u32.wrap ((v / 10000:Nat):Int)=((v / 10000:Nat):Int):=IntWalk.u32_in _ (by omega)
  have z1:IntKind.u32.wrap (48+((v / 10000:Nat):Int))=((48+v / 10000:Nat):Int):=by rw[IntWalk.u32_in _ (by omega)];omega
  have z2:IntKind.u8.wrap ((48+v / 10000:Nat):Int)=((UInt8.ofNat (48+v / 10000)).toNat:Int):=by rw[IntWalk.u8_in _ (by omega),g9H];omega
  simp only[g6L,g8F] at hs1 ⊢
  simp only[wA,seval,reduceCtorEq,reduceIte,f0,f1,f4,n2,n3,e7L,e7M,e7N,wv,i0,j0,i1,j1,i2,j2,i3,j3,i4,j4,Pe,Po,Pw,Px,Re,Ro,Rw,Rx,w1,w2,z1,z2,hs1,d4Z,hid,g8G,g7P,g8Y,g8K,g8L,g8P,g9U]
  repeat' ((with_reducible first|refine c3G ?_ ?_|refine c3H ?_ ?_|refine c3F ?_ ?_|refine c3E ?_ ?_|refine c3C ?_ ?_|refine c3D ?_ ?_|refine c3B ?_ ?_|refine c3A ?_ ?_) <;> intro h <;> (try simp only[wA,seval,reduceCtorEq,reduceIte,f0,f1,f4,n2,n3,e7L,e7M,e7N,wv,i0,j0,i1,j1,i2,j2,i3,j3,i4,j4,Pe,Po,Pw,Px,Re,Ro,Rw,Rx,w1,w2,z1,z2,hs1,d4Z,hid,g8G,g7P,g8Y,g8K,g8L,g8P,g9U,h]))
  rw[←hNe,e7Q,←hve,dg5 hv',g7S,g6H,hR]
  rfl
 |[a0,a1,a2,a3,a4,a5],hA' =>
  have hm':m=6:=by simpa using hA'.symm
  subst hm'
  have hv':v < 1000000:=by simpa using hv
  have wv:IntKind.u32.wrap (v:Int)=(v:Int):=IntWalk.u32_in _ (by omega)
  have i0:IntKind.i64.wrap 0=0:=by decide
  have j0:0 < N:=by simp at hA';omega
  have i1:IntKind.i64.wrap 1=1:=by decide
  have j1:1 < N:=by simp at hA';omega
  have i2:IntKind.i64.wrap 2=2:=by decide
  have j2:2 < N:=by simp at hA';omega
  have i3:IntKind.i64.wrap 3=3:=by decide
  have j3:3 < N:=by simp at hA';omega
  have i4:IntKind.i64.wrap 4=4:=by decide
  have j4:4 < N:=by simp at hA';omega
  have i5:IntKind.i64.wrap 5=5:=by decide
  have j5:5 < N:=by simp at hA';omega
  obtain⟨Pe,Po⟩:=sml (v:=v % 10000 / 100) (by omega)
  have Pw:IntKind.u32.wrap (((v % 10000 / 100:Nat):Int) * 2)=((v % 10000 / 100 * 2:Nat):Int):=by rw[IntWalk.u32_in _ (by omega)];omega
  have Px:IntKind.u32.wrap (((v % 10000 / 100 * 2:Nat):Int)+1)=((v % 10000 / 100 * 2+1:Nat):Int):=by rw[IntWalk.u32_in _ (by omega)];omega
  obtain⟨Re,Ro⟩:=sml (v:=v % 10000 % 100) (by omega)
  have Rw:IntKind.u32.wrap (((v % 10000 % 100:Nat):Int) * 2)=((v % 10000 % 100 * 2:Nat):Int):=by rw[IntWalk.u32_in _ (by omega)];omega
  have Rx:IntKind.u32.wrap (((v % 10000 % 100 * 2:Nat):Int)+1)=((v % 10000 % 100 * 2+1:Nat):Int):=by rw[IntWalk.u32_in _ (by omega)];omega
  have w1:IntKind.u32.wrap ((v % 10000 / 100:Nat):Int)=((v % 10000 / 100:Nat):Int):=IntWalk.u32_in _ (by omega)
  have w2:IntKind.u32.wrap ((v / 10000:Nat):Int)=((v / 10000:Nat):Int):=IntWalk.u32_in _ (by omega)
  obtain⟨Te,To⟩:=sml (v:=v / 10000 % 100) (by omega)
  have Tw:IntKind.u32.wrap (((v / 10000 % 100:Nat):Int) * 2)=((v / 10000 % 100 * 2:Nat):Int):=by rw[IntWalk.u32_in _ (by omega)];omega
  have Tx:IntKind.u32.wrap (((v / 10000 % 100 * 2:Nat):Int)+1)=((v / 10000 % 100 * 2+1:Nat):Int):=by rw[IntWalk.u32_in _ (by omega)];omega
  have w3:IntKind.u32.wrap ((v / 10000 / 100:Nat):Int)=((v / 10000 / 100:Nat):Int):=IntWalk.u32_in _ (by omega)
  simp only[g6L,g8F] at hs1 ⊢
  simp only[wA,seval,reduceCtorEq,reduceIte,f0,f1,f4,n2,n3,e7L,e7M,e7N,wv,i0,j0,i1,j1,i2,j2,i3,j3,i4,j4,i5,j5,Pe,Po,Pw,Px,Re,Ro,Rw,Rx,w1,w2,Te,To,Tw,Tx,w3,hs1,d4Z,hid,g8G,g7P,g8Y,g8K,g8L,g8P,g9U]
  repeat' ((with_reducible first|refine c3G ?_ ?_|refine c3H ?_ ?_|refine c3F ?_ ?_|refine c3E ?_ ?_|refine c3C ?_ ?_|refine c3D ?_ ?_|refine c3B ?_ ?_|refine c3A ?_ ?_) <;> intro h <;> (try simp only[wA,seval,reduceCtorEq,reduceIte,f0,f1,f4,n2,n3,e7L,e7M,e7N,wv,i0,j0,i1,j1,i2,j2,i3,j3,i4,j4,i5,j5,Pe,Po,Pw,Px,Re,Ro,Rw,Rx,w1,w2,Te,To,Tw,Tx,w3,hs1,d4Z,hid,g8G,g7P,g8Y,g8K,g8L,g8P,g9U,h]))
  rw[←hNe,e7Q,←hve,dg6 hv',g7S,g6H,hR]
  rfl
 |[a0,a1,a2,a3,a4,a5,a6],hA' =>
  have hm':m=7:=by simpa using hA'.symm
  subst hm'
  have hv':v < 10000000:=by simpa using hv
  have wv:IntKind.u32.wrap (v:Int)=(v:Int):=IntWalk.u32_in _ (by omega)
  have i0:IntKind.i64.wrap 0=0:=by decide
  have j0:0 < N:=by simp at hA';omega
  have i1:IntKind.i64.wrap 1=1:=by decide
  have j1:1 < N:=by simp at hA';omega
  have i2:IntKind.i64.wrap 2=2:=by decide
  have j2:2 < N:=by simp at hA';omega
  have i3:IntKind.i64.wrap 3=3:=by decide
  have j3:3 < N:=by simp at hA';omega
  have i4:IntKind.i64.wrap 4=4:=by decide
  have j4:4 < N:=by simp at hA';omega
  have i5:IntKind.i64.wrap 5=5:=by decide
  have j5:5 < N:=by simp at hA';omega
  have i6:IntKind.i64.wrap 6=6:=by decide
  have j6:6 < N:=by simp at hA';omega
  obtain⟨Pe,Po⟩:=sml (v:=v % 10000 / 100) (by omega)
  have Pw:IntKind.u32.wrap (((v % 10000 / 100:Nat):Int) * 2)=((v % 10000 / 100 * 2:Nat):Int):=by rw[IntWalk.u32_in _ (by omega)];omega
  have Px:IntKind.u32.wrap (((v % 10000 / 100 * 2:Nat):Int)+1)=((v % 10000 / 100 * 2+1:Nat):Int):=by rw[IntWalk.u32_in _ (by omega)];omega
  obtain⟨Re,Ro⟩:=sml (v:=v % 10000 % 100) (by omega)
  have Rw:IntKind.u32.wrap (((v % 10000 % 100:Nat):Int) * 2)=((v % 10000 % 100 * 2:Nat):Int):=by rw[IntWalk.u32_in _ (by omega)];omega
  have Rx:IntKind.u32.wrap (((v % 10000 % 100 * 2:Nat):Int)+1)=((v % 10000 % 100 * 2+1:Nat):Int):=by rw[IntWalk.u32_in _ (by omega)];omega
  have w1:IntKind.u32.wrap ((v % 10000 / 100:Nat):Int)=((v % 10000 / 100:Nat):Int):=IntWalk.u32_in _ (by omega)
  have w2:IntKind.u32.wrap ((v / 10000:Nat):Int)=((v / 10000:Nat):Int):=IntWalk.u32_in _ (by omega)
  obtain⟨Te,To⟩:=sml (v:=v / 10000 % 100) (by omega)
  have Tw:IntKind.u32.wrap (((v / 10000 % 100:Nat):Int) * 2)=((v / 10000 % 100 * 2:Nat):Int):=by rw[IntWalk.u32_in _ (by omega)];omega
  have Tx:IntKind.u32.wrap (((v / 10000 % 100 * 2:Nat):Int)+1)=((v / 10000 % 100 * 2+1:Nat):Int):=by rw[IntWalk.u32_in _ (by omega)];omega
  have w3:IntKind.u32.wrap ((v / 10000 / 100:Nat):Int)=((v / 10000 / 100:Nat):Int):=IntWalk.u32_in _ (by omega)
  have z1:IntKind.u32.wrap (48+((v / 10000 / 100:Nat):Int))=((48+v / 10000 / 100:Nat):Int):=by rw[IntWalk.u32_in _ (by omega)];omega
  have z2:IntKind.u8.wrap ((48+v / 10000 / 100:Nat):Int)=((UInt8.ofNat (48+v / 10000 / 100)).toNat:Int):=by rw[IntWalk.u8_in _ (by omega),g9H];omega
  simp only[g6L,g8F] at hs1 ⊢
  simp only[wA,seval,reduceCtorEq,reduceIte,f0,f1,f4,n2,n3,e7L,e7M,e7N,wv,i0,j0,i1,j1,i2,j2,i3,j3,i4,j4,i5,j5,i6,j6,Pe,Po,Pw,Px,Re,Ro,Rw,Rx,w1,w2,Te,To,Tw,Tx,w3,z1,z2,hs1,d4Z,hid,g8G,g7P,g8Y,g8K,g8L,g8P,g9U]
  repeat' ((with_reducible first|refine c3G ?_ ?_|refine c3H ?_ ?_|refine c3F ?_ ?_|refine c3E ?_ ?_|refine c3C ?_ ?_|refine c3D ?_ ?_|refine c3B ?_ ?_|refine c3A ?_ ?_) <;> intro h <;> (try simp only[wA,seval,reduceCtorEq,reduceIte,f0,f1,f4,n2,n3,e7L,e7M,e7N,wv,i0,j0,i1,j1,i2,j2,i3,j3,i4,j4,i5,j5,i6,j6,Pe,Po,Pw,Px,Re,Ro,Rw,Rx,w1,w2,Te,To,Tw,Tx,w3,z1,z2,hs1,d4Z,hid,g8G,g7P,g8Y,g8K,g8L,g8P,g9U,h]))
  rw[←hNe,e7Q,←hve,dg7 hv',g7S,g6H,hR]
  rfl
 |_::_::_::_::_::_::_::_::_,hA'=>simp at hA';omega
theorem e7S (s:List UInt8):a0J (a0I s)=some s:=by
 induction s with
 |nil=>rfl
 |cons a r ih =>
  have e:a0I (a::r)=[.int .u8 a.toNat]::a0I r:=rfl
  rw[e]
  simp only[a0J,ih,g9F]
  simp
theorem a4Y:∀ (l:List T),allT (l.map .t)=some l:=by
 intro l
 induction l with
 |nil=>rfl
 |cons a r ih=>simp [allT,ih]
theorem a7C:∀ (l:List T),a0C 1 l.length l=l.map fun x=>[x]:=by
 intro l
 induction l with
 |nil=>rfl
 |cons a r ih=>simp [a0C,ih]
theorem e7T {sg:Sg} {id n:Nat} {s:List UInt8} {D:List PV} (hs:sg[id]?=some (false,s.map e7J++D)) (hn:n=s.length):a0L sg 1 (.ls id 0 n 1)=some (a0I s):=by
 subst hn
 have e:s.map e7J=(s.map fun b=>T.int .u8 (b.toNat:Int)).map PV.t:=by simp [e7J]
 have hl:(s.map fun b=>T.int .u8 (b.toNat:Int)).length=s.length:=by simp
 have hany:(s.map fun b=>T.int .u8 (b.toNat:Int)).any T.isAgg=false:=by simp [T.isAgg]
 have ht:List.take (s.length * 1) (List.drop 0 (s.map e7J++D))=s.map e7J:=by
  rw[g8Y,g6O,List.take_append_of_le_length (by simp)]
  exact List.take_of_length_le (by simp)
 simp only[a0L,a0K,if_true,hs,ht]
 rw[if_pos (by simp),e,a4Y]
 simp only[hany]
 have:=a7C (s.map fun b=>T.int .u8 (b.toNat:Int))
 rw[hl] at this
 rw[this]
 simp [a0I]
theorem e7U (u:Nat) (h:u≤18446744073709551615):(decDigits u).length≤20∧u < 10 ^ (decDigits u).length:=by
 rw[decDigits_length]
 refine⟨?_,lt_pow_nDigits u⟩
 rcases g8O u with h0|h0
 ·subst h0;rw[nDigits_small (by omega)];omega
 ·obtain⟨a,b⟩:=numDigits_eq u h0 (by omega)
  split at a <;> omega
def z24:List PV:=List.replicate 24 (.t (.int .u8 0))
theorem e7V (h2:gl 1=some (p10.map (T.int .u64))) {u:Nat} (hu:u≤18446744073709551615) {K:PV→Prop}:XcP F gl 118 [.int .u64 (u:Int),.int .i64 10] K ⟨⟩↔K (.t (.str (decDigits u))):=by
 refine Ret.iff (Ret.of F118 rfl ?_)
 simp only[c8M]
 by_cases c:(u:Int) < 100
 ·have a:=@e7B gl (u:Int) (by omega) c
  rw[g6D] at a
  have w:IntKind.i64.wrap (u:Int)=(u:Int):=IntWalk.i64_in _ (by omega)
  simp only[wA,seval,reduceCtorEq,reduceIte,c,w,a]
  repeat' ((with_reducible first|refine c3G ?_ ?_|refine c3H ?_ ?_|refine c3F ?_ ?_|refine c3E ?_ ?_|refine c3C ?_ ?_|refine c3D ?_ ?_|refine c3B ?_ ?_|refine c3A ?_ ?_) <;> intro h <;> (try simp only[wA,seval,reduceCtorEq,reduceIte,c,w,a,h]))
 ·have a1:=@e7G gl h2 (u:Int) (by omega) (by omega)
  rw[g6D] at a1
  obtain⟨l1,l2⟩:=e7U u hu
  rw[decDigits_length] at l1 l2
  have hz:z24=z24.take (nDigits u)++z24.drop (nDigits u):=(g8I _ _).symm
  have hs:([(false,z24)]:Sg)[0]?=some (false,z24.take (nDigits u)++z24.drop (nDigits u)):=by rw[←hz];rfl
  have a2:=fun K=>@e7R gl 0 (nDigits u) u (by omega) hu l2 [(false,z24)] [] (z24.take (nDigits u)) (z24.drop (nDigits u)) (by rw[g7Q];simp [z24];omega) hs K
  simp only[z24,List.replicate,List.set_cons_zero] at a2
  have hel:∀ D,a0L [(false,(dgs (nDigits u) u).map e7J++D)] 1 (.ls 0 0 (nDigits u) 1)=some (a0I (dgs (nDigits u) u)):=fun D=>e7T (D:=D) rfl (e7I _ _).symm
  have l3:nDigits u≤24:=by omega
  rw[e7H u]
  simp only[wA,seval,reduceCtorEq,reduceIte,c,a1,a0U,g9A,l3,Nat.sub_zero,a2,hel,e7S]
  repeat' ((with_reducible first|refine c3G ?_ ?_|refine c3H ?_ ?_|refine c3F ?_ ?_|refine c3E ?_ ?_|refine c3C ?_ ?_|refine c3D ?_ ?_|refine c3B ?_ ?_|refine c3A ?_ ?_) <;> intro h <;> (try simp only[wA,seval,reduceCtorEq,reduceIte,c,a1,a0U,g9A,l3,Nat.sub_zero,a2,hel,e7S,h]))
theorem ok96 (h2:gl 1=some (p10.map (T.int .u64))) {u:Nat} (hu:u≤18446744073709551615) {K:PV→Prop}:XcP F gl 96 [.int .u64 (u:Int),.int .i64 10] K ⟨⟩↔K (.t (.str (decDigits u))):=by
 refine Ret.iff (Ret.of F96 rfl ?_)
 simp only[c7P]
 simp only[wA,seval,reduceCtorEq,reduceIte,e7V h2 hu]
 repeat' ((with_reducible first|refine c3G ?_ ?_|refine c3H ?_ ?_|refine c3F ?_ ?_|refine c3E ?_ ?_|refine c3C ?_ ?_|refine c3D ?_ ?_|refine c3B ?_ ?_|refine c3A ?_ ?_) <;> intro h <;> (try simp only[wA,seval,reduceCtorEq,reduceIte,e7V h2 hu,h]))
end Go.Proofs.YtcbgiabippcpaaaGreatDoor
