/- PI 32: integers: masks, shifts, the arithmetic of math/bits.Mul64 and Div64. -/
import Derived.Test.YtdjcnfacjfnakaaGreatPi31
import Derived.Lib.Mul64
set_option linter.unusedSimpArgs false
set_option linter.unusedVariables false
namespace Go.Pi
theorem e0H (n:Int):IntKind.u64.wrap n=n % 18446744073709551616:=by
 unfold IntKind.wrap
 simp [IntKind.bits,IntKind.signed]
theorem e0I {x:Int} (h0:0<=x) (h1:x<=18446744073709551615):(BitVec.ofInt 64 x).toNat=x.toNat:=by
 rw[BitVec.toNat_ofInt]
 have:((2 ^ 64:Nat):Int)=18446744073709551616:=by decide
 rw[this]
 congr 1
 omega
theorem e0J {x:Int} (h0:0<=x) (h1:x<=18446744073709551615):a0D .and .u64 x 4294967295=some (x % 4294967296):=by
 show some (IntKind.u64.wrap ((BitVec.ofInt 64 x&&& BitVec.ofInt 64 4294967295).toNat:Int))=_
 rw[BitVec.toNat_and,e0I h0 h1,e0I (x:=4294967295) (by decide) (by decide)]
 have e:x.toNat&&& (4294967295:Int).toNat=x.toNat % 2 ^ 32:=Nat.and_two_pow_sub_one_eq_mod x.toNat 32
 rw[e,e0H]
 congr 1
 omega
theorem e0K {a b:Int} {s:Nat} (ha:0<=a) (hb0:0<=b) (hb:b < 2 ^ s) (hs:a * 2 ^ s+b<=18446744073709551615):a0D .or .u64 (a * 2 ^ s) b=some (a * 2 ^ s+b):=by
 have hp:(0:Int) < 2 ^ s:=Int.pow_pos (by decide)
 have ha2:0<=a * 2 ^ s:=Int.mul_nonneg ha (by omega)
 show some (IntKind.u64.wrap ((BitVec.ofInt 64 (a * 2 ^ s) ||| BitVec.ofInt 64 b).toNat:Int))=_
 rw[BitVec.toNat_or,e0I ha2 (by omega),e0I hb0 (by omega)]
 obtain⟨A,rfl⟩:=Int.eq_ofNat_of_zero_le ha
 obtain⟨C,rfl⟩:=Int.eq_ofNat_of_zero_le hb0
 have e1:(((A:Int) * 2 ^ s).toNat)=2 ^ s * A:=by
  rw[Int.mul_comm]
  have:((2:Int) ^ s * (A:Int))=((2 ^ s * A:Nat):Int):=by push_cast;rfl
  rw[this,g4Z]
 have hC:C < 2 ^ s:=by
  have:((2:Int) ^ s)=((2 ^ s:Nat):Int):=by push_cast;rfl
  omega
 rw[e1,g4Z,<-Nat.two_pow_add_eq_or_of_lt hC,e0H]
 have e2:((2 ^ s * A+C:Nat):Int)=(A:Int) * 2 ^ s+(C:Int):=by push_cast;rw[Int.mul_comm]
 rw[e2]
 congr 1
 omega
theorem e0L {x y:Int} (hx0:0<=x) (hx:x<=18446744073709551615) (hy0:0<=y) (hy:y<=18446744073709551615) :
  0<=(x % 4294967296) * (y % 4294967296)/\(x % 4294967296) * (y % 4294967296)<=18446744073709551615 /\
  0<=(x / 4294967296) * (y % 4294967296)/\(x / 4294967296) * (y % 4294967296)<=18446744065119617025/\ 
  (x / 4294967296) * (y % 4294967296)+(x % 4294967296) * (y % 4294967296) / 4294967296<=18446744073709551615 /\
  0<=(x % 4294967296) * (y / 4294967296)/\(x % 4294967296) * (y / 4294967296)<=18446744065119617025/\ 
  ((x / 4294967296) * (y % 4294967296)+(x % 4294967296) * (y % 4294967296) / 4294967296) % 4294967296+(x % 4294967296) * (y / 4294967296)<=18446744073709551615 /\
  0<=(x / 4294967296) * (y / 4294967296)/\(x / 4294967296) * (y / 4294967296)<=18446744065119617025/\ 
  (x / 4294967296) * (y / 4294967296)+((x / 4294967296) * (y % 4294967296)+(x % 4294967296) * (y % 4294967296) / 4294967296) / 4294967296 +
   (((x / 4294967296) * (y % 4294967296)+(x % 4294967296) * (y % 4294967296) / 4294967296) % 4294967296+(x % 4294967296) * (y / 4294967296)) / 4294967296=x * y / 18446744073709551616:=by
 obtain⟨X,rfl⟩:=Int.eq_ofNat_of_zero_le hx0
 obtain⟨Y,rfl⟩:=Int.eq_ofNat_of_zero_le hy0
 obtain⟨h1,h2,h3,h4⟩:=Lib.mul64_hi X Y (by omega) (by omega)
 have ha:=Lib.half_mul_le (a:=X / 4294967296) (b:=Y / 4294967296) (by omega) (by omega)
 have hb:=Lib.half_mul_le (a:=X / 4294967296) (b:=Y % 4294967296) (by omega) (by omega)
 have hc:=Lib.half_mul_le (a:=X % 4294967296) (b:=Y / 4294967296) (by omega) (by omega)
 have hd:=Lib.half_mul_le (a:=X % 4294967296) (b:=Y % 4294967296) (by omega) (by omega)
 have c1:((X:Int) % 4294967296)=((X % 4294967296:Nat):Int):=by omega
 have c2:((Y:Int) % 4294967296)=((Y % 4294967296:Nat):Int):=by omega
 have c3:((X:Int) / 4294967296)=((X / 4294967296:Nat):Int):=by omega
 have c4:((Y:Int) / 4294967296)=((Y / 4294967296:Nat):Int):=by omega
 rw[c1,c2,c3,c4]
 simp only[<-Int.natCast_mul]
 generalize hA:(X / 4294967296) * (Y / 4294967296)=a at *
 generalize hB:(X / 4294967296) * (Y % 4294967296)=b at *
 generalize hC:(X % 4294967296) * (Y / 4294967296)=c at *
 generalize hD:(X % 4294967296) * (Y % 4294967296)=d at *
 generalize hE:X * Y=e at *
 omega
theorem e0M {u un yn1 yn0 q r:Int} (h:q * yn1+r=u) (hx:q * yn0<=4294967296 * r+un):q * (yn1 * 4294967296+yn0)<=u * 4294967296+un:=by
 have e:q * (yn1 * 4294967296+yn0)=(q * yn1) * 4294967296+q * yn0:=by rw[Int.mul_add,Int.mul_assoc]
 rw[e]
 generalize q * yn1=a at *
 generalize q * yn0=b at *
 omega
theorem e0N {u un yn1 yn0 q r:Int} (h:q * yn1+r=u) (hx:4294967296 * r+un < q * yn0):u * 4294967296+un < q * (yn1 * 4294967296+yn0):=by
 have e:q * (yn1 * 4294967296+yn0)=(q * yn1) * 4294967296+q * yn0:=by rw[Int.mul_add,Int.mul_assoc]
 rw[e]
 generalize q * yn1=a at *
 generalize q * yn0=b at *
 omega
theorem e0O {u un y q:Int} (hy:0 < y) (hu:u < y) (hun:un < 4294967296) (hq:4294967296<=q):u * 4294967296+un < q * y:=by
 have:4294967296 * y<=q * y:=Int.mul_le_mul_of_nonneg_right hq (by omega)
 omega
theorem e0P {hi lo y:Int} {S:Nat} (h0:0<=hi) (h1:hi < y) (l0:0<=lo) (l1:lo<=18446744073709551615) (hS:S<=64) (_y0:9223372036854775808<=y * 2 ^ S) (_y1:y * 2 ^ S<=18446744073709551615) :
  0<=hi * 2 ^ S/\hi * 2 ^ S+lo / 2 ^ (64 - S) < y * 2 ^ S/\0<=lo / 2 ^ (64 - S)/\lo / 2 ^ (64 - S) < 2 ^ S /\
  0<=lo * 2 ^ S % 18446744073709551616/\(hi * 18446744073709551616+lo) * 2 ^ S=(hi * 2 ^ S+lo / 2 ^ (64 - S)) * 18446744073709551616+lo * 2 ^ S % 18446744073709551616:=by
 have hp:(0:Int) < 2 ^ S:=Int.pow_pos (by decide)
 have hp':(0:Int) < 2 ^ (64 - S):=Int.pow_pos (by decide)
 have hzz:(2:Int) ^ (64 - S) * 2 ^ S=18446744073709551616:=by
  rw[<-Int.pow_add]
  have:64 - S+S=64:=by omega
  rw[this]
  decide
 generalize (2:Int) ^ S=z at *
 generalize (2:Int) ^ (64 - S)=z' at *
 have hh0:0<=hi * z:=Int.mul_nonneg h0 (by omega)
 have hh1:(hi+1) * z<=y * z:=Int.mul_le_mul_of_nonneg_right (by omega) (by omega)
 rw[Int.add_mul,Int.one_mul] at hh1
 have ha0:0<=lo / z':=Int.ediv_nonneg l0 (by omega)
 have ha1:lo / z' < z:=by
  apply Int.ediv_lt_of_lt_mul hp'
  rw[Int.mul_comm]
  omega
 have hlo:lo=z' * (lo / z')+lo % z':=(Int.mul_ediv_add_emod lo z').symm
 have hr0:0<=lo % z':=Int.emod_nonneg _ (by omega)
 have hr1:lo % z' < z':=Int.emod_lt_of_pos _ hp'
 have hb0:0<=lo % z' * z:=Int.mul_nonneg hr0 (by omega)
 have hb1:(lo % z'+1) * z<=z' * z:=Int.mul_le_mul_of_nonneg_right (by omega) (by omega)
 rw[Int.add_mul,Int.one_mul,hzz] at hb1
 have hlz:lo * z=(lo / z') * 18446744073709551616+lo % z' * z:=by
  have e1:lo * z=(z' * (lo / z')+lo % z') * z:=by rw[<-hlo]
  rw[e1,Int.add_mul,Int.mul_right_comm,hzz,Int.mul_comm]
 refine⟨hh0,by omega,ha0,ha1,by omega,?_⟩
 have e2:(hi * 18446744073709551616+lo) * z=(hi * z) * 18446744073709551616+lo * z:=by rw[Int.add_mul,Int.mul_right_comm]
 rw[e2]
 generalize hi * z=c at *
 generalize lo * z=d at *
 generalize lo % z' * z=e at *
 omega
theorem e0Q {hi lo y u l0 q1 u2 q0 r2:Int} {S:Nat} (hy:0 < y) (hU:(hi * 18446744073709551616+lo) * 2 ^ S=u * 18446744073709551616+l0) (h1:u * 4294967296+l0 / 4294967296=q1 * (y * 2 ^ S)+u2) (h2:u2 * 4294967296+l0 % 4294967296=q0 * (y * 2 ^ S)+r2)
  (hr0:0<=r2) (hr1:r2 < y * 2 ^ S):q1 * 4294967296+q0=(hi * 18446744073709551616+lo) / y/\r2 / 2 ^ S=(hi * 18446744073709551616+lo) % y:=by
 have hp:(0:Int) < 2 ^ S:=Int.pow_pos (by decide)
 generalize (2:Int) ^ S=z at *
 generalize hN:hi * 18446744073709551616+lo=N at *
 have e:N * z=(q1 * 4294967296+q0) * y * z+r2:=by
  have e1:(q1 * 4294967296+q0) * y * z=q1 * (y * z) * 4294967296+q0 * (y * z):=by
   rw[Int.mul_assoc,Int.add_mul,Int.mul_right_comm]
  rw[e1,hU]
  generalize q1 * (y * z)=a at *
  generalize q0 * (y * z)=b at *
  omega
 have hr:r2=(N - (q1 * 4294967296+q0) * y) * z:=by rw[Int.sub_mul,e];omega
 have hd:r2 / z=N - (q1 * 4294967296+q0) * y:=by rw[hr,Int.mul_ediv_cancel _ (by omega)]
 have hm0:0<=r2 / z:=Int.ediv_nonneg hr0 (by omega)
 have hm1:r2 / z < y:=Int.ediv_lt_of_lt_mul hp hr1
 rw[hd] at hm0 hm1 ⊢
 have hu:=(Int.ediv_emod_unique (a:=N) (b:=y) (r:=N - (q1 * 4294967296+q0) * y) (q:=q1 * 4294967296+q0) hy).2 ⟨by rw[Int.mul_comm y];omega,hm0,hm1⟩
 exact⟨hu.1.symm,hu.2.symm⟩
theorem e0R {u un yn1 yn0:Int} (h1:2147483648<=yn1) (h3:0<=yn0) (h5:un<=4294967295) (h7:0<=u) (h8:u<=18446744073709551615) :
  0<=u / yn1/\u / yn1<=8589934592/\0<=u % yn1/\u % yn1 < yn1/\u / yn1 * yn1+u % yn1=u/\u * 4294967296+un < u / yn1 * (yn1 * 4294967296+yn0)+(yn1 * 4294967296+yn0):=by
 have a1:0<=u / yn1:=Int.ediv_nonneg h7 (by omega)
 have a2:u / yn1 < 8589934593:=by
  apply Int.ediv_lt_of_lt_mul (by omega)
  have:8589934593 * 2147483648<=8589934593 * yn1:=Int.mul_le_mul_of_nonneg_left h1 (by decide)
  omega
 have a3:0<=u % yn1:=Int.emod_nonneg _ (by omega)
 have a4:u % yn1 < yn1:=Int.emod_lt_of_pos _ (by omega)
 have a5:u / yn1 * yn1+u % yn1=u:=Int.ediv_mul_add_emod u yn1
 refine⟨a1,by omega,a3,a4,a5,?_⟩
 have e:u / yn1 * (yn1 * 4294967296+yn0)=(u / yn1 * yn1) * 4294967296+u / yn1 * yn0:=by rw[Int.mul_add,Int.mul_assoc]
 have e2:0<=u / yn1 * yn0:=Int.mul_nonneg a1 h3
 rw[e]
 generalize u / yn1 * yn1=a at *
 generalize u / yn1 * yn0=b at *
 omega
end Go.Pi
