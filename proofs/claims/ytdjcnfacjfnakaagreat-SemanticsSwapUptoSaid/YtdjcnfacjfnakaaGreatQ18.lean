/- The reference: expressions. -/
import Derived.Test.YtdjcnfacjfnakaaGreatQ15
import Derived.Test.YtdjcnfacjfnakaaGreatKx27
import Derived.Test.YtdjcnfacjfnakaaGreatKx27
import Derived.Test.YtdjcnfacjfnakaaGreatKx27
set_option maxRecDepth 10000
set_option linter.unusedVariables false
set_option linter.unusedSimpArgs false
namespace Go.Proofs.YtdjcnfacjfnakaaGreat
open Go.Pi Go.Lx Go.Ky
variable {gl:Nat→Option (List T)}
theorem f9P {fz:Fz} {ns:Ns}:∀ (l:List Exp),(e8A fz ns l).2=0→(e8A fz ns l).1.length=l.length
 |[],_=>by rw[e8A];rfl
 |a::r,h=>by
  rw[e8C] at h ⊢
  by_cases h1:(exR fz ns a).err=0
  ·rw[if_neg (show ¬((exR fz ns a).err≠0) from fun x=>x h1)] at h ⊢
   by_cases h2:(e8A fz ns r).2=0
   ·rw[if_neg (show ¬((e8A fz ns r).2≠0) from fun x=>x h2)]
    simp [f9P r h2]
   ·rw[if_pos h2] at h;exact absurd h h2
  ·rw[if_pos h1] at h;exact absurd h h1
set_option maxHeartbeats 4000000 in
theorem ok41 {fz:Fz} {ns:Ns} (nl fl:Bool) (hls:ns.length≤4 * B20) (hlf:fz.length≤B20) (hlp:∀ p,p∈fz→p.1.params.length≤B20):∀ e,EG e→∀ K:PV→Prop,XcP F gl 41 [.agg (tEx e),.sl nl (ns.map e7P),.sl fl (fz.map tFz)] K ⟨⟩↔K (.t (.agg (tRr (exR fz ns e)))):=by
 refine Exp.ind fun e ih hE K=>?_
 have hrec:=fun a ha=>ih a ha (hE.arg ha)
 refine Ret.iff (Ret.of F41 rfl ?_)
 simp only[c5N]
 have hF:=fun k K=>@f9H gl ns nl k hls K
 by_cases o1:e.op=1
 ·obtain⟨n,hn⟩:=Int.eq_ofNat_of_zero_le hE.val.1
  have hn64:n < 2 ^ 64:=by have:=hE.val.2;rw[hn] at this;omega
  by_cases hv:(n:Int)≥4611686018427387904
  ·have hM:exR fz ns e=⟨⟨1,0,0⟩,0,0,0⟩:=by rw[e8B,if_pos o1,hn,if_pos hv];rfl
   rw[hM]
   simp only[wA,seval,reduceCtorEq,reduceIte,d3D,o1,hn,hv,f9C]
   try rfl
  ·have hM:exR fz ns e=⟨⟨3,((1+n.log2:Nat):Int),0⟩,0,0,0⟩:=by rw[e8B,if_pos o1,hn,if_neg hv];rfl
   rw[hM]
   simp only[wA,seval,reduceCtorEq,reduceIte,d3D,o1,hn,hv,ok75 n hn64]
   try rfl
 by_cases o3:e.op=3
 ·have hM:exR fz ns e=⟨⟨2,0,0⟩,0,0,0⟩:=by rw[e8B,if_neg o1,if_pos (.inl o3)];rfl
  rw[hM]
  simp only[wA,seval,reduceCtorEq,reduceIte,d3D,o3,f9D]
  try rfl
 by_cases o4:e.op=4
 ·have hM:exR fz ns e=⟨⟨2,0,0⟩,0,0,0⟩:=by rw[e8B,if_neg o1,if_pos (.inr o4)];rfl
  rw[hM]
  simp only[wA,seval,reduceCtorEq,reduceIte,d3D,o4,f9D]
  try rfl
 have o34:¬(e.op=3∨e.op=4):=fun h=>h.elim o3 o4
 by_cases o2:e.op=2
 ·cases hl:Ky.look e.name ns with
  |none =>
   have hM:exR fz ns e=e7U 4:=by rw[e8B,if_neg o1,if_neg o34,if_pos o2,hl]
   rw[hM]
   simp only[wA,seval,reduceCtorEq,reduceIte,d3D,o2,hF,e7R hl,f9E]
   try rfl
  |some s =>
   have hM:exR fz ns e=⟨s.typ,0,0,0⟩:=by rw[e8B,if_neg o1,if_neg o34,if_pos o2,hl];rfl
   obtain⟨j,nm',hf,hj⟩:=e7T hl
   have hjl:j < ns.length:=(g4A.1 hj).1
   have cj:¬((j:Nat):Int) < 0:=by omega
   rw[hM]
   simp only[wA,seval,reduceCtorEq,reduceIte,d3D,o2,hF,hf,cj,g3K,hjl,g4L,g4B,hj,g5V]
   try rfl
 by_cases o8:e.op=8
 ·obtain⟨a,b,hab⟩:=d7K hE.b (.inl o8)
  have hM:exR fz ns e=ixR ns (exR fz ns a) b:=by rw[e8B,if_neg o1,if_neg o34,if_neg o2,if_pos o8,hab]
  have hA:=fun K=>hrec a (by simp [hab]) K
  simp only[d3D] at hA
  have hI:=fun len K=>ok76 (gl:=gl) (hE.arg (a:=b) (by simp [hab])).b nl hls len (K:=K)
  simp only[d3D] at hI
  rw[hM]
  unfold ixR
  by_cases he:(exR fz ns a).err=0
  ·have he':((exR fz ns a).err=0)=True:=g6D he
   rw[if_neg (fun h=>h he)]
   by_cases hl:(exR fz ns a).t.len=0
   ·have hl':((exR fz ns a).t.len=0)=True:=g6D hl
    rw[if_pos hl]
    by_cases h4:e7X ns b 1=4
    ·rw[if_pos h4]
     simp only[wA,seval,reduceCtorEq,reduceIte,d3D,o8,hab,d3B,hA,hI,he',hl',h4,f9E]
     try rfl
    ·rw[if_neg h4]
     simp only[wA,seval,reduceCtorEq,reduceIte,d3D,o8,hab,d3B,hA,hI,he',hl',h4,f9E]
     try rfl
   ·rw[if_neg hl]
    by_cases h4:e7X ns b (exR fz ns a).t.len=0
    ·have h4':(e7X ns b (exR fz ns a).t.len=0)=True:=g6D h4
     rw[if_neg (fun h=>h h4)]
     simp only[wA,seval,reduceCtorEq,reduceIte,d3D,o8,hab,d3B,hA,hI,he',hl,h4',f9E]
     try rfl
    ·rw[if_pos h4]
     simp only[wA,seval,reduceCtorEq,reduceIte,d3D,o8,hab,d3B,hA,hI,he',hl,h4,f9E]
     try rfl
  ·rw[if_pos he]
   simp only[wA,seval,reduceCtorEq,reduceIte,d3D,o8,hab,d3B,hA,hI,he]
   try rfl
 have hO:=fun K=>@ok77 gl fz ns nl fl e.nl e.args hE.len hrec K
 by_cases hq:(e8A fz ns e.args).2=0
 ·have hM:exR fz ns e=opR fz e.op e.val e.name (e8A fz ns e.args).1 (acL (e8A fz ns e.args).1):=by rw[e8B,if_neg o1,if_neg o34,if_neg o2,if_neg o8,if_neg (fun h=>h hq)]
  have hlen:=f9P e.args hq
  rw[hM]
  simp only[wA,seval,reduceCtorEq,reduceIte,d3D,o1,o3,o4,o2,o8,hO,hq,f9C]
  generalize (e8A fz ns e.args).1=rs at *
  have hrl:rs.length≤B20:=by rw[hlen];exact hE.len
  refine f9L (rs:=rs) (v2:=.t (.sl fl (fz.map tFz))) hrl _ rs 0 ac0 _ rfl (by simp only[wQ,Nat.reduceEqDiff,reduceIte];first|done|exact⟨rfl,rfl,rfl,rfl⟩|rfl) ?_
  intro fr' hf'
  rw[show rs.foldl (acS (tyR rs 0)) ac0=acL rs from rfl] at *
  generalize acL rs=a at *
  simp only[b9L,b9K] at hf'
  obtain⟨f2,f3,f6,f11,f13,f14,f15,f16,f17,-⟩:=hf'
  unfold opR
  by_cases o5:e.op=5
  ·rw[if_pos o5]
   simp only[wA,seval,reduceCtorEq,reduceIte,f2,f3,f6,f11,f13,f14,f15,f16,f17,o5]
   refine f9O (a:=a) hrl hlf hlp _ fz 0 _ rfl (by simp only[wQ,Nat.reduceEqDiff,reduceIte,f2,f3,f6,f11,f13];first|done|exact⟨rfl,rfl⟩|rfl) ?_ ?_
   ·intro h0 fr2 hf2
    rw[f9N h0]
    simp only[b9L,b9K] at hf2
    obtain⟨g6,-⟩:=hf2
    simp only[wA,seval,reduceCtorEq,reduceIte,g6,f9E]
    try rfl
   ·intro h0 fr2 x2 g6
    simp only[wA,seval,reduceCtorEq,reduceIte,g6]
    try rfl
  rw[if_neg o5]
  by_cases o6:e.op=6
  ·rw[if_pos o6]
   by_cases hv:e.val≥65536
   ·rw[if_pos hv]
    simp only[wA,seval,reduceCtorEq,reduceIte,f2,f3,f6,f11,f13,f14,f15,f16,f17,o6,hv,f9E]
    try rfl
   ·rw[if_neg hv]
    cases hsc:a.sc with
    |false =>
     rw[hsc] at f14
     unfold scR
     rw[hsc,ff]
     simp only[wA,seval,reduceCtorEq,reduceIte,f2,f3,f6,f11,f13,f14,f15,f16,f17,o6,hv,f9E]
     try rfl
    |true =>
     rw[hsc] at f14
     unfold scR
     rw[hsc,tf]
     simp only[wA,seval,reduceCtorEq,reduceIte,f2,f3,f6,f11,f13,f14,f15,f16,f17,o6,hv]
     try rfl
  rw[if_neg o6]
  by_cases o7:e.op=7
  ·rw[if_pos o7]
   obtain⟨r0,rs',hrs⟩:∃ r rs',rs=r::rs':=by
    cases rs with
    |nil=>exact absurd (List.length_eq_zero_iff.1 hlen.symm) (hE.some o7)
    |cons r rs'=>exact⟨r,rs',rfl⟩
   have ht0:tyR rs 0=r0.t:=by rw[hrs];rfl
   have hr0:rs[0]?=some r0:=by rw[hrs];rfl
   have h0l:0 < rs.length:=by rw[hrs];simp
   rw[ht0]
   cases hsa:a.sa with
   |false =>
    rw[hsa] at f17
    simp only[g3D,if_false,fieldT]
    cases hsc:a.sc with
    |false =>
     rw[hsc] at f14
     unfold scR
     rw[hsc,ff]
     simp only[wA,seval,reduceCtorEq,reduceIte,f2,f3,f6,f11,f13,f14,f15,f16,f17,o7,g4L,h0l,g4B,hr0,g5V,Int.reduceToNat,f9E]
     try rfl
    |true =>
     rw[hsc] at f14
     unfold scR
     rw[hsc,tf]
     simp only[wA,seval,reduceCtorEq,reduceIte,f2,f3,f6,f11,f13,f14,f15,f16,f17,o7,g4L,h0l,g4B,hr0,g5V,Int.reduceToNat]
     try rfl
   |true =>
    rw[hsa] at f17
    try simp only[reduceIte]
    cases hsc:a.sc with
    |false =>
     rw[hsc] at f14
     unfold scR
     rw[hsc,ff]
     simp only[wA,seval,reduceCtorEq,reduceIte,f2,f3,f6,f11,f13,f14,f15,f16,f17,o7,g4L,h0l,g4B,hr0,g5V,Int.reduceToNat,f9E]
     try rfl
    |true =>
     rw[hsc] at f14
     unfold scR
     rw[hsc,tf]
     simp only[wA,seval,reduceCtorEq,reduceIte,f2,f3,f6,f11,f13,f14,f15,f16,f17,o7,g4L,h0l,g4B,hr0,g5V,Int.reduceToNat]
     try rfl
  rw[if_neg o7]
  by_cases o14:e.op=14
  ·rw[if_pos (.inl o14)]
   simp only[d3A]
   cases hsc:a.sc with
   |false =>
    rw[hsc] at f14
    unfold scR
    rw[hsc,ff]
    simp only[wA,seval,reduceCtorEq,reduceIte,f2,f3,f6,f11,f13,f14,f15,f16,f17,o14,f9D,f9E]
    try rfl
   |true =>
    rw[hsc] at f14
    unfold scR
    rw[hsc,tf]
    simp only[wA,seval,reduceCtorEq,reduceIte,f2,f3,f6,f11,f13,f14,f15,f16,f17,o14,f9D]
    try rfl
  by_cases o15:e.op=15
  ·rw[if_pos (.inr o15)]
   simp only[d3A]
   cases hsc:a.sc with
   |false =>
    rw[hsc] at f14
    unfold scR
    rw[hsc,ff]
    simp only[wA,seval,reduceCtorEq,reduceIte,f2,f3,f6,f11,f13,f14,f15,f16,f17,o15,f9D,f9E]
    try rfl
   |true =>
    rw[hsc] at f14
    unfold scR
    rw[hsc,tf]
    simp only[wA,seval,reduceCtorEq,reduceIte,f2,f3,f6,f11,f13,f14,f15,f16,f17,o15,f9D]
    try rfl
  rw[if_neg (show ¬(e.op=14∨e.op=15) from fun h=>h.elim o14 o15)]
  by_cases o16:e.op=16
  ·rw[if_pos (.inl o16)]
   obtain⟨r0,r1,hrs⟩:∃ r0 r1,rs=[r0,r1]:=by
    obtain⟨x,y,hxy⟩:=d7K hE.b (by omega)
    rw[hxy] at hlen
    match rs,hlen with
    |[r0,r1],_=>exact⟨r0,r1,rfl⟩
   subst hrs
   simp only[d3A,show tyR [r0,r1] 0=r0.t from rfl,show tyR [r0,r1] 1=r1.t from rfl]
   cases hui:a.ui with
   |false =>
    rw[hui] at f16
    rw[ff]
    simp only[wA,seval,reduceCtorEq,reduceIte,f2,f3,f6,f11,f13,f14,f15,f16,f17,o16,f9E]
    try rfl
   |true =>
    rw[hui] at f16
    rw[tf]
    cases hsc:a.sc with
    |false =>
     rw[hsc] at f14
     unfold scR
     rw[hsc,ff]
     simp only[wA,seval,reduceCtorEq,reduceIte,f2,f3,f6,f11,f13,f14,f15,f16,f17,o16,f9D,f8Z,f9E]
     try rfl
    |true =>
     rw[hsc] at f14
     unfold scR
     rw[hsc,tf]
     simp only[wA,seval,reduceCtorEq,reduceIte,f2,f3,f6,f11,f13,f14,f15,f16,f17,o16,f9D,f8Z]
     try rfl
  by_cases o17:e.op=17
  ·rw[if_pos (.inr o17)]
   obtain⟨r0,r1,hrs⟩:∃ r0 r1,rs=[r0,r1]:=by
    obtain⟨x,y,hxy⟩:=d7K hE.b (by omega)
    rw[hxy] at hlen
    match rs,hlen with
    |[r0,r1],_=>exact⟨r0,r1,rfl⟩
   subst hrs
   simp only[d3A,show tyR [r0,r1] 0=r0.t from rfl,show tyR [r0,r1] 1=r1.t from rfl]
   cases hui:a.ui with
   |false =>
    rw[hui] at f16
    rw[ff]
    simp only[wA,seval,reduceCtorEq,reduceIte,f2,f3,f6,f11,f13,f14,f15,f16,f17,o17,f9E]
    try rfl
   |true =>
    rw[hui] at f16
    rw[tf]
    cases hsc:a.sc with
    |false =>
     rw[hsc] at f14
     unfold scR
     rw[hsc,ff]
     simp only[wA,seval,reduceCtorEq,reduceIte,f2,f3,f6,f11,f13,f14,f15,f16,f17,o17,f9D,f8Z,f9E]
     try rfl
    |true =>
     rw[hsc] at f14
     unfold scR
     rw[hsc,tf]
     simp only[wA,seval,reduceCtorEq,reduceIte,f2,f3,f6,f11,f13,f14,f15,f16,f17,o17,f9D,f8Z]
     try rfl
  rw[if_neg (show ¬(e.op=16∨e.op=17) from fun h=>h.elim o16 o17)]
  by_cases o10:e.op=10
  ·rw[if_pos (.inl o10)]
   simp only[d3A]
   cases hbo:a.bo with
   |false =>
    rw[hbo] at f15
    rw[ff]
    simp only[wA,seval,reduceCtorEq,reduceIte,f2,f3,f6,f11,f13,f14,f15,f16,f17,o10,f9E]
    try rfl
   |true =>
    rw[hbo] at f15
    rw[tf]
    cases hsc:a.sc with
    |false =>
     rw[hsc] at f14
     unfold scR
     rw[hsc,ff]
     simp only[wA,seval,reduceCtorEq,reduceIte,f2,f3,f6,f11,f13,f14,f15,f16,f17,o10,f9D,f9E]
     try rfl
    |true =>
     rw[hsc] at f14
     unfold scR
     rw[hsc,tf]
     simp only[wA,seval,reduceCtorEq,reduceIte,f2,f3,f6,f11,f13,f14,f15,f16,f17,o10,f9D]
     try rfl
  by_cases o18:e.op=18
  ·rw[if_pos (.inr (.inl o18))]
   simp only[d3A]
   cases hbo:a.bo with
   |false =>
    rw[hbo] at f15
    rw[ff]
    simp only[wA,seval,reduceCtorEq,reduceIte,f2,f3,f6,f11,f13,f14,f15,f16,f17,o18,f9E]
    try rfl
   |true =>
    rw[hbo] at f15
    rw[tf]
    cases hsc:a.sc with
    |false =>
     rw[hsc] at f14
     unfold scR
     rw[hsc,ff]
     simp only[wA,seval,reduceCtorEq,reduceIte,f2,f3,f6,f11,f13,f14,f15,f16,f17,o18,f9D,f9E]
     try rfl
    |true =>
     rw[hsc] at f14
     unfold scR
     rw[hsc,tf]
     simp only[wA,seval,reduceCtorEq,reduceIte,f2,f3,f6,f11,f13,f14,f15,f16,f17,o18,f9D]
     try rfl
  by_cases o19:e.op=19
  ·rw[if_pos (.inr (.inr o19))]
   simp only[d3A]
   cases hbo:a.bo with
   |false =>
    rw[hbo] at f15
    rw[ff]
    simp only[wA,seval,reduceCtorEq,reduceIte,f2,f3,f6,f11,f13,f14,f15,f16,f17,o19,f9E]
    try rfl
   |true =>
    rw[hbo] at f15
    rw[tf]
    cases hsc:a.sc with
    |false =>
     rw[hsc] at f14
     unfold scR
     rw[hsc,ff]
     simp only[wA,seval,reduceCtorEq,reduceIte,f2,f3,f6,f11,f13,f14,f15,f16,f17,o19,f9D,f9E]
     try rfl
    |true =>
     rw[hsc] at f14
     unfold scR
     rw[hsc,tf]
     simp only[wA,seval,reduceCtorEq,reduceIte,f2,f3,f6,f11,f13,f14,f15,f16,f17,o19,f9D]
     try rfl
  rw[if_neg (show ¬(e.op=10∨e.op=18∨e.op=19) from fun h=>h.elim o10 fun h=>h.elim o18 o19)]
  by_cases o20:e.op=20
  ·rw[if_pos o20]
   obtain⟨r0,r1,r2,hrs⟩:∃ r0 r1 r2,rs=[r0,r1,r2]:=by
    obtain⟨x,y,z,hxy⟩:=d7L hE.b o20
    rw[hxy] at hlen
    match rs,hlen with
    |[r0,r1,r2],_=>exact⟨r0,r1,r2,rfl⟩
   subst hrs
   rw[show tyR [r0,r1,r2] 0=r0.t from rfl,show tyR [r0,r1,r2] 1=r1.t from rfl,show tyR [r0,r1,r2] 2=r2.t from rfl]
   have hbq:=f9K r0.t
   have hq12:=d6Y r1.t r2.t
   by_cases hb:r0.t=d3A
   ·rw[g6A hb] at hbq
    rw[if_neg (fun h=>h hb)]
    by_cases h12:r1.t=r2.t
    ·rw[g6A h12] at hq12
     rw[if_pos h12]
     simp only[wA,seval,reduceCtorEq,reduceIte,f2,f3,f6,f11,f13,f14,f15,f16,f17,o20,f9D,hbq,hq12]
     try rfl
    ·rw[g5Y h12] at hq12
     rw[if_neg h12]
     simp only[fieldT]
     cases hsc:a.sc with
     |false =>
      rw[hsc] at f14
      unfold scR
      rw[hsc,ff]
      simp only[wA,seval,reduceCtorEq,reduceIte,f2,f3,f6,f11,f13,f14,f15,f16,f17,o20,f9D,hbq,hq12,f9E]
      try rfl
     |true =>
      rw[hsc] at f14
      unfold scR
      rw[hsc,tf]
      simp only[wA,seval,reduceCtorEq,reduceIte,f2,f3,f6,f11,f13,f14,f15,f16,f17,o20,f9D,hbq,hq12]
      try rfl
   ·rw[g5Y hb] at hbq
    rw[if_pos hb]
    simp only[wA,seval,reduceCtorEq,reduceIte,f2,f3,f6,f11,f13,f14,f15,f16,f17,o20,f9D,hbq,f9E]
    try rfl
  rw[if_neg o20]
  simp only[fieldT]
  cases hsc:a.sc with
  |false =>
   rw[hsc] at f14
   unfold scR
   rw[hsc,ff]
   simp only[wA,seval,reduceCtorEq,reduceIte,f2,f3,f6,f11,f13,f14,f15,f16,f17,o5,o6,o7,o14,o15,o16,o17,o10,o18,o19,o20,f9E]
   try rfl
  |true =>
   rw[hsc] at f14
   unfold scR
   rw[hsc,tf]
   simp only[wA,seval,reduceCtorEq,reduceIte,f2,f3,f6,f11,f13,f14,f15,f16,f17,o5,o6,o7,o14,o15,o16,o17,o10,o18,o19,o20]
   try rfl
 ·have hM:exR fz ns e=e7U (e8A fz ns e.args).2:=by rw[e8B,if_neg o1,if_neg o34,if_neg o2,if_neg o8,if_pos hq]
  rw[hM]
  simp only[wA,seval,reduceCtorEq,reduceIte,d3D,o1,o3,o4,o2,o8,hO,hq,f9E]
  try rfl
end Go.Proofs.YtdjcnfacjfnakaaGreat

/- The reference: statements. -/
namespace Go.Proofs.YtdjcnfacjfnakaaGreat
open Go.Pi Go.Lx Go.Ky
variable {gl:Nat→Option (List T)}
abbrev oC (r:Rr):List PV:=[.t (.int .i64 0),.t (.int .i64 0),.t (.int .i64 0),.t (.int .i64 r.bits),.t (.int .i64 r.steps),.t (.int .i64 0)]
abbrev boV (q:Rr×Ns):PV:=.tup [.t (.agg (tRr q.1)),.t (.sl (decide (q.1.err≠0)) (q.2.map e7P))]
set_option maxHeartbeats 4000000 in
theorem f9Q {fz:Fz} {fl bl:Bool} {sts:List St} (hln:sts.length≤B20) (hlf:fz.length≤B20) (hlp:∀ p,p∈fz→p.1.params.length≤B20) (hSG:∀ s,s∈sts→SG s)
  (hrec:∀ s,s∈sts→s.kind=3→∀ (ns:Ns),ns.length+d4B s.body≤3 * B20→∀ K:PV→Prop,XcP F gl 40 [.sl s.nl (d3G s.body),.sl false (ns.map e7P),.sl fl (fz.map tFz)] K ⟨⟩↔K (boV (e8H fz s.body zR ns))) (Q:Ex→S→Prop) :
  ∀ (l:List St) (i:Nat) (out:Rr) (own:Ns) (v:PV) (ow:Ow) (fr:List PV) (sr:Sg),sts.drop i=l→out.err=0→out.t=zTy→Gl 7 v ow (own.map e7P)→own.length+d4B l≤3 * B20 →
  b9J fr [(0,.t (.sl bl (d3G sts))),(2,.t (.sl fl (fz.map tFz))),(6,.lp 0 0),(8,.lp 1 0),(9,v),(10,.t (.int .i64 i))] →
  ((e8H fz l out own).1.err=0→(e8H fz l out own).1.t=zTy→∀ fr' sr' v' ow',Gl 7 v' ow' ((e8H fz l out own).2.map e7P)→b9J fr' [(6,.lp 0 0),(8,.lp 1 0),(9,v')]→Q (.exit 0) ⟨fr',(false,z6C)::(false,oC (e8H fz l out own).1)::sr',ow'⟩) →
  ((e8H fz l out own).1.err≠0→∀ fr' sr' ow',b9J fr' [(6,.lp 0 0),(7,.t (.sl true []))]→Q .ret ⟨fr',(false,rC (e8H fz l out own).1)::sr',ow'⟩) →
  Xl F gl c5I ⟨fr,(false,z6C)::(false,oC out)::sr,ow⟩ Q ⟨⟩:=by
 intro l
 induction l with
 |nil =>
  intro i out own v ow fr sr hd ho hz hg hb hf k1 k2
  have hd:=b9E hd
  simp only[b9L,b9K] at hf
  obtain⟨f0,f2,f6,f8,f9,f10,-⟩:=hf
  refine Xl.step ?_
  simp only[c5I]
  have c1:¬((i:Int) < (sts.length:Int)):=by omega
  rw[e8H] at k1
  simp only[wA,seval,reduceCtorEq,reduceIte,f0,f10,c1,d3J]
  exact k1 ho hz _ _ v _ hg (by simp only[wQ,Nat.reduceEqDiff,reduceIte,f6,f8,f9])
 |cons x l ih =>
  intro i out own v ow fr sr hd ho hz hg hb hf k1 k2
  obtain⟨hx,hr,hi⟩:=b9D hd
  simp only[b9L,b9K] at hf
  obtain⟨f0,f2,f6,f8,f9,f10,-⟩:=hf
  refine Xl.step ?_
  simp only[c5I]
  have c1:(i:Int) < (sts.length:Int):=by omega
  have hB:B20=1100000:=rfl
  have hw1:=d7A hi (show sts.length≤281474976710656 by omega)
  have hm:=g4Y hx
  have hsx:=hSG x hm
  rw[d4F] at hb
  have hsz:=d4E x
  have hlo:own.length≤4 * B20:=by omega
  have hF:=fun k K=>@f9H gl own false k hlo K
  have hcl:=hg.cl
  have hroom:∀ n,n≤(own.map e7P).length+1→a0N n 64=true:=fun n hn=>f0S (by rw[g4L] at hn;omega)
  rw[f0H] at k1 k2
  by_cases h3:x.kind=3
  ·have h3':(x.kind=3)=True:=g6D h3
   rw[f0F h3] at k1 k2
   by_cases hlh:x.lo > x.hi
   ·rw[if_pos hlh] at k1 k2
    simp only[wA,seval,reduceCtorEq,reduceIte,f0,f2,f6,f8,f9,f10,c1,hw1,d3J,g3K,hi,d3K,hx,g5V,d3I,h3,hlh,f9E]
    exact k2 (by simp [e7U]) _ _ _ (by simp only[wQ,Nat.reduceEqDiff,reduceIte,f6])
   rw[if_neg hlh] at k1 k2
   cases hl:Ky.look x.name own with
   |some s =>
    obtain⟨j,nm',hf,hj⟩:=e7T hl
    have cj:((j:Nat):Int)≥0:=by omega
    rw[hl] at k1 k2
    simp only[wA,seval,reduceCtorEq,reduceIte,f0,f2,f6,f8,f9,f10,c1,hw1,d3J,g3K,hi,d3K,hx,g5V,d3I,h3,hlh,hcl,hF,hf,cj,f9E]
    exact k2 (by simp [e7U]) _ _ _ (by simp only[wQ,Nat.reduceEqDiff,reduceIte,f6])
   |none =>
    rw[hl] at k1 k2
    simp only at k1 k2
    obtain⟨v1,ow1,kk,ow2,a1,a2,hg2⟩:=hg.copy1 (bytes:=64) (e:=e7P (x.name,⟨fieldT,true,x.lo,x.hi⟩)) rfl (by omega) (all7 own) hroom
    have hq:=fun K=>hrec x hm h3 (own++[(x.name,⟨fieldT,true,x.lo,x.hi⟩)]) (by rw[g4I];simp only[g4J,g4M];omega) K
    have fk:fieldT.kind=1:=rfl
    have fb:fieldT.bits=0:=rfl
    have fl':fieldT.len=0:=rfl
    simp only[e7P,fk,fb,fl'] at a2
    simp only[g4Q,g4R,g4S,e7P,fk,fb,fl'] at hq
    by_cases he:(e8H fz x.body zR (own++[(x.name,⟨fieldT,true,x.lo,x.hi⟩)])).1.err=0
    ·have he':((e8H fz x.body zR (own++[(x.name,⟨fieldT,true,x.lo,x.hi⟩)])).1.err=0)=True:=g6D he
     rw[if_neg (show ¬((e8H fz x.body zR (own++[(x.name,⟨fieldT,true,x.lo,x.hi⟩)])).1.err≠0) from fun x=>x he)] at k1 k2
     rw[if_neg (show ¬((e8G out (e8H fz x.body zR (own++[(x.name,⟨fieldT,true,x.lo,x.hi⟩)])).1 (IntKind.i64.wrap (x.hi - x.lo))).err≠0) from fun x=>x ho)] at k1 k2
     simp only[wA,seval,reduceCtorEq,reduceIte,f0,f2,f6,f8,f9,f10,c1,hw1,d3J,g3K,hi,d3K,hx,g5V,d3I,h3,hlh,hcl,hF,e7R hl,b6Q,a0C,a0M,T.isAgg,List.replicate,g3S,g3T,g3O,f9C,a1,a2,hq,he',f8Z,ok72,f8Y]
     refine ih (i+1) (e8G out (e8H fz x.body zR (own++[(x.name,⟨fieldT,true,x.lo,x.hi⟩)])).1 (IntKind.i64.wrap (x.hi - x.lo))) own v ow2 _ _ hr ?_ ?_ ?_ ?_ ?_ ?_ ?_
     ·exact ho
     ·exact hz
     ·exact hg2
     ·omega
     ·simp only[wQ,Nat.reduceEqDiff,reduceIte,f0,f2,f6,f8,f9]
     ·exact k1
     ·exact k2
    ·rw[if_pos he,if_pos he] at k2
     simp only[wA,seval,reduceCtorEq,reduceIte,f0,f2,f6,f8,f9,f10,c1,hw1,d3J,g3K,hi,d3K,hx,g5V,d3I,h3,hlh,hcl,hF,e7R hl,b6Q,a0C,a0M,T.isAgg,List.replicate,g3S,g3T,g3O,f9C,a1,a2,hq,he]
     exact k2 he _ _ _ (by simp only[wQ,Nat.reduceEqDiff,reduceIte,f6])
  ·have h3':(x.kind=3)=False:=g6C h3
   have hE:=fun K=>ok41 (gl:=gl) (fz:=fz) (ns:=own) false fl hlo hlf hlp x.ex (hsx.ex h3) K
   simp only[d3D] at hE
   rw[f0G h3] at k1 k2
   by_cases he:(exR fz own x.ex).err=0
   ·have he':((exR fz own x.ex).err=0)=True:=g6D he
    rw[if_neg (show ¬((exR fz own x.ex).err≠0) from fun x=>x he)] at k1 k2
    by_cases h2:x.kind=2
    ·rw[if_pos h2] at k1 k2
     have hbq:=f9K (exR fz own x.ex).t
     by_cases hb2:(exR fz own x.ex).t=d3A
     ·rw[g6A hb2] at hbq
      rw[if_neg (show ¬((exR fz own x.ex).t≠d3A) from fun x=>x hb2)] at k1 k2
      rw[if_neg (show ¬((e8F out (exR fz own x.ex)).err≠0) from fun x=>x ho)] at k1 k2
      simp only[wA,seval,reduceCtorEq,reduceIte,f0,f2,f6,f8,f9,f10,c1,hw1,d3J,g3K,hi,d3K,hx,g5V,d3I,hcl,hF,h2,hE,he',hbq,f8Z,f8Y,f9D]
      refine ih (i+1) (e8F out (exR fz own x.ex)) own v ow _ _ hr ?_ ?_ ?_ ?_ ?_ ?_ ?_
      ·exact ho
      ·exact hz
      ·exact hg
      ·omega
      ·simp only[wQ,Nat.reduceEqDiff,reduceIte,f0,f2,f6,f8,f9]
      ·exact k1
      ·exact k2
     ·rw[g5Y hb2] at hbq
      rw[if_pos hb2] at k1 k2
      simp only[wA,seval,reduceCtorEq,reduceIte,f0,f2,f6,f8,f9,f10,c1,hw1,d3J,g3K,hi,d3K,hx,g5V,d3I,hcl,hF,h2,hE,he',hbq,f8Z,f8Y,f9D,f9E]
      exact k2 (by simp [e7U]) _ _ _ (by simp only[wQ,Nat.reduceEqDiff,reduceIte,f6])
    ·rw[if_neg h2] at k1 k2
     have h2':(x.kind=2)=False:=g6C h2
     unfold e8E at k1 k2
     cases ht:x.typed with
     |false =>
      rw[ht] at k1 k2
      simp only[g3D,if_false] at k1 k2
      cases hl:Ky.look x.name own with
      |some s =>
       obtain⟨j,nm',hf,hj⟩:=e7T hl
       have cj:((j:Nat):Int)≥0:=by omega
       have hadd:e8D x.name ⟨(exR fz own x.ex).t,false,0,0⟩ (e8F out (exR fz own x.ex)) own=(e7U 5,[]):=by unfold e8D;rw[hl]
       rw[hadd] at k1 k2
       simp only[wA,seval,reduceCtorEq,reduceIte,f0,f2,f6,f8,f9,f10,c1,hw1,d3J,g3K,hi,d3K,hx,g5V,d3I,hcl,hF,h3',h2',hE,he',f8Z,f8Y,ht,hf,cj,f9E]
       exact k2 (by simp [e7U]) _ _ _ (by simp only[wQ,Nat.reduceEqDiff,reduceIte,f6])
      |none =>
       obtain⟨v',ow',a1,hg'⟩:=hg.app (bytes:=64) (e:=e7P (x.name,⟨(exR fz own x.ex).t,false,0,0⟩)) rfl (by omega) (hroom _ (by omega))
       have hadd:e8D x.name ⟨(exR fz own x.ex).t,false,0,0⟩ (e8F out (exR fz own x.ex)) own=((e8F out (exR fz own x.ex)),own++[(x.name,⟨(exR fz own x.ex).t,false,0,0⟩)]):=by unfold e8D;rw[hl]
       rw[hadd] at k1 k2
       rw[if_neg (show ¬((e8F out (exR fz own x.ex)).err≠0) from fun x=>x ho)] at k1 k2
       simp only[e7P] at a1
       simp only[wA,seval,reduceCtorEq,reduceIte,f0,f2,f6,f8,f9,f10,c1,hw1,d3J,g3K,hi,d3K,hx,g5V,d3I,hcl,hF,h3',h2',hE,he',f8Z,f8Y,ht,e7R hl,b6Q,a0C,a0M,T.isAgg,List.replicate,g3S,g3T,g3O,a1]
       refine ih (i+1) (e8F out (exR fz own x.ex)) (own++[(x.name,⟨(exR fz own x.ex).t,false,0,0⟩)]) v' ow' _ _ hr ?_ ?_ ?_ ?_ ?_ ?_ ?_
       ·exact ho
       ·exact hz
       ·rw[g4Q];exact hg'
       ·rw[g4I];simp only[g4J,g4M];omega
       ·simp only[wQ,Nat.reduceEqDiff,reduceIte,f0,f2,f6,f8,f9]
       ·exact k1
       ·exact k2
     |true =>
      rw[ht] at k1 k2
      simp only[reduceIte] at k1 k2
      cases hs:d5I x.ty with
      |true =>
       cases hs2:d5I (exR fz own x.ex).t with
       |false =>
        rw[hs,hs2] at k1 k2
        simp only[g3F,g3E,Bool.and_self,Bool.true_or,reduceIte] at k1 k2
        simp only[wA,seval,reduceCtorEq,reduceIte,f0,f2,f6,f8,f9,f10,c1,hw1,d3J,g3K,hi,d3K,hx,g5V,d3I,hcl,hF,h3',h2',hE,he',f8Z,f8Y,ht,f9B,hs,hs2,f9E]
        exact k2 (by simp [e7U]) _ _ _ (by simp only[wQ,Nat.reduceEqDiff,reduceIte,f6])
       |true =>
        rw[hs,hs2] at k1 k2
        simp only[g3F,Bool.and_false,Bool.false_and,Bool.false_or,g3D,if_false] at k1 k2
        cases hl:Ky.look x.name own with
        |some s =>
         obtain⟨j,nm',hf,hj⟩:=e7T hl
         have cj:((j:Nat):Int)≥0:=by omega
         have hadd:e8D x.name ⟨x.ty,false,0,0⟩ (⟨(e8F out (exR fz own x.ex)).t,grM (e8F out (exR fz own x.ex)).bits (e7N x.ty),(e8F out (exR fz own x.ex)).steps,(e8F out (exR fz own x.ex)).err⟩:Rr) own=(e7U 5,[]):=by unfold e8D;rw[hl]
         rw[hadd] at k1 k2
         simp only[wA,seval,reduceCtorEq,reduceIte,f0,f2,f6,f8,f9,f10,c1,hw1,d3J,g3K,hi,d3K,hx,g5V,d3I,hcl,hF,h3',h2',hE,he',f8Z,f8Y,ht,f9B,hs,hs2,f9A,hf,cj,f9E]
         exact k2 (by simp [e7U]) _ _ _ (by simp only[wQ,Nat.reduceEqDiff,reduceIte,f6])
        |none =>
         obtain⟨v',ow',a1,hg'⟩:=hg.app (bytes:=64) (e:=e7P (x.name,⟨x.ty,false,0,0⟩)) rfl (by omega) (hroom _ (by omega))
         have hadd:e8D x.name ⟨x.ty,false,0,0⟩ (⟨(e8F out (exR fz own x.ex)).t,grM (e8F out (exR fz own x.ex)).bits (e7N x.ty),(e8F out (exR fz own x.ex)).steps,(e8F out (exR fz own x.ex)).err⟩:Rr) own=((⟨(e8F out (exR fz own x.ex)).t,grM (e8F out (exR fz own x.ex)).bits (e7N x.ty),(e8F out (exR fz own x.ex)).steps,(e8F out (exR fz own x.ex)).err⟩:Rr),own++[(x.name,⟨x.ty,false,0,0⟩)]):=by unfold e8D;rw[hl]
         rw[hadd] at k1 k2
         rw[if_neg (show ¬((⟨(e8F out (exR fz own x.ex)).t,grM (e8F out (exR fz own x.ex)).bits (e7N x.ty),(e8F out (exR fz own x.ex)).steps,(e8F out (exR fz own x.ex)).err⟩:Rr).err≠0) from fun x=>x ho)] at k1 k2
         simp only[e7P] at a1
         simp only[wA,seval,reduceCtorEq,reduceIte,f0,f2,f6,f8,f9,f10,c1,hw1,d3J,g3K,hi,d3K,hx,g5V,d3I,hcl,hF,h3',h2',hE,he',f8Z,f8Y,ht,f9B,hs,hs2,f9A,e7R hl,b6Q,a0C,a0M,T.isAgg,List.replicate,g3S,g3T,g3O,a1]
         refine ih (i+1) (⟨(e8F out (exR fz own x.ex)).t,grM (e8F out (exR fz own x.ex)).bits (e7N x.ty),(e8F out (exR fz own x.ex)).steps,(e8F out (exR fz own x.ex)).err⟩:Rr) (own++[(x.name,⟨x.ty,false,0,0⟩)]) v' ow' _ _ hr ?_ ?_ ?_ ?_ ?_ ?_ ?_
         ·exact ho
         ·exact hz
         ·rw[g4Q];exact hg'
         ·rw[g4I];simp only[g4J,g4M];omega
         ·simp only[wQ,Nat.reduceEqDiff,reduceIte,f0,f2,f6,f8,f9]
         ·exact k1
         ·exact k2
      |false =>
       cases hs2:e7O (exR fz own x.ex).t x.ty with
       |false =>
        rw[hs,hs2] at k1 k2
        simp only[g3E,Bool.and_self,Bool.false_and,Bool.false_or,reduceIte] at k1 k2
        simp only[wA,seval,reduceCtorEq,reduceIte,f0,f2,f6,f8,f9,f10,c1,hw1,d3J,g3K,hi,d3K,hx,g5V,d3I,hcl,hF,h3',h2',hE,he',f8Z,f8Y,ht,f9B,f9F,hs,hs2,f9E]
        exact k2 (by simp [e7U]) _ _ _ (by simp only[wQ,Nat.reduceEqDiff,reduceIte,f6])
       |true =>
        rw[hs,hs2] at k1 k2
        simp only[g3F,Bool.and_false,Bool.false_and,Bool.false_or,g3D,if_false] at k1 k2
        cases hl:Ky.look x.name own with
        |some s =>
         obtain⟨j,nm',hf,hj⟩:=e7T hl
         have cj:((j:Nat):Int)≥0:=by omega
         have hadd:e8D x.name ⟨x.ty,false,0,0⟩ (⟨(e8F out (exR fz own x.ex)).t,grM (e8F out (exR fz own x.ex)).bits (e7N x.ty),(e8F out (exR fz own x.ex)).steps,(e8F out (exR fz own x.ex)).err⟩:Rr) own=(e7U 5,[]):=by unfold e8D;rw[hl]
         rw[hadd] at k1 k2
         simp only[wA,seval,reduceCtorEq,reduceIte,f0,f2,f6,f8,f9,f10,c1,hw1,d3J,g3K,hi,d3K,hx,g5V,d3I,hcl,hF,h3',h2',hE,he',f8Z,f8Y,ht,f9B,f9F,hs,hs2,f9A,hf,cj,f9E]
         exact k2 (by simp [e7U]) _ _ _ (by simp only[wQ,Nat.reduceEqDiff,reduceIte,f6])
        |none =>
         obtain⟨v',ow',a1,hg'⟩:=hg.app (bytes:=64) (e:=e7P (x.name,⟨x.ty,false,0,0⟩)) rfl (by omega) (hroom _ (by omega))
         have hadd:e8D x.name ⟨x.ty,false,0,0⟩ (⟨(e8F out (exR fz own x.ex)).t,grM (e8F out (exR fz own x.ex)).bits (e7N x.ty),(e8F out (exR fz own x.ex)).steps,(e8F out (exR fz own x.ex)).err⟩:Rr) own=((⟨(e8F out (exR fz own x.ex)).t,grM (e8F out (exR fz own x.ex)).bits (e7N x.ty),(e8F out (exR fz own x.ex)).steps,(e8F out (exR fz own x.ex)).err⟩:Rr),own++[(x.name,⟨x.ty,false,0,0⟩)]):=by unfold e8D;rw[hl]
         rw[hadd] at k1 k2
         rw[if_neg (show ¬((⟨(e8F out (exR fz own x.ex)).t,grM (e8F out (exR fz own x.ex)).bits (e7N x.ty),(e8F out (exR fz own x.ex)).steps,(e8F out (exR fz own x.ex)).err⟩:Rr).err≠0) from fun x=>x ho)] at k1 k2
         simp only[e7P] at a1
         simp only[wA,seval,reduceCtorEq,reduceIte,f0,f2,f6,f8,f9,f10,c1,hw1,d3J,g3K,hi,d3K,hx,g5V,d3I,hcl,hF,h3',h2',hE,he',f8Z,f8Y,ht,f9B,f9F,hs,hs2,f9A,e7R hl,b6Q,a0C,a0M,T.isAgg,List.replicate,g3S,g3T,g3O,a1]
         refine ih (i+1) (⟨(e8F out (exR fz own x.ex)).t,grM (e8F out (exR fz own x.ex)).bits (e7N x.ty),(e8F out (exR fz own x.ex)).steps,(e8F out (exR fz own x.ex)).err⟩:Rr) (own++[(x.name,⟨x.ty,false,0,0⟩)]) v' ow' _ _ hr ?_ ?_ ?_ ?_ ?_ ?_ ?_
         ·exact ho
         ·exact hz
         ·rw[g4Q];exact hg'
         ·rw[g4I];simp only[g4J,g4M];omega
         ·simp only[wQ,Nat.reduceEqDiff,reduceIte,f0,f2,f6,f8,f9]
         ·exact k1
         ·exact k2
   ·rw[if_pos he,if_pos he] at k2
    simp only[wA,seval,reduceCtorEq,reduceIte,f0,f2,f6,f8,f9,f10,c1,hw1,d3J,g3K,hi,d3K,hx,g5V,d3I,hcl,hF,h3',hE,he]
    exact k2 he _ _ _ (by simp only[wQ,Nat.reduceEqDiff,reduceIte,f6])
end Go.Proofs.YtdjcnfacjfnakaaGreat

/- The reference: bodies. -/
namespace Go.Proofs.YtdjcnfacjfnakaaGreat
open Go.Pi Go.Lx Go.Ky
variable {gl:Nat→Option (List T)}
theorem f9R {fz:Fz} {fl bl nl:Bool} {sts:List St} {ns:Ns} (hln:sts.length≤B20) (hlf:fz.length≤B20) (hlp:∀ p,p∈fz→p.1.params.length≤B20) (hSG:∀ s,s∈sts→SG s) (hnl:nl=true→ns=[]) (hb:ns.length+d4B sts≤3 * B20)
  (hrec:∀ s,s∈sts→s.kind=3→∀ (ns:Ns),ns.length+d4B s.body≤3 * B20→∀ K:PV→Prop,XcP F gl 40 [.sl s.nl (d3G s.body),.sl false (ns.map e7P),.sl fl (fz.map tFz)] K ⟨⟩↔K (boV (e8H fz s.body zR ns))) (K:PV→Prop) :
  XcP F gl 40 [.sl bl (d3G sts),.sl nl (ns.map e7P),.sl fl (fz.map tFz)] K ⟨⟩↔K (boV (e8H fz sts zR ns)):=by
 refine Ret.iff (Ret.of F40 rfl ?_)
 simp only[c5J]
 obtain⟨v0,ow0,a0,hg0⟩:=f0R (sz:=7) (bytes:=64) (ow:=[]) (nl:=nl) (es:=ns.map e7P) (fun h=>by rw[hnl h];rfl) (by omega) (all7 ns) (f0S (by rw[g4L];omega))
 simp only[wA,seval,reduceCtorEq,reduceIte,b6Q,a0C,a0M,T.isAgg,List.replicate,g3S,g3T,g3O,a0]
 refine f9Q hln hlf hlp hSG hrec _ sts 0 zR ns v0 ow0 _ [] rfl rfl rfl hg0 hb (by simp only[wQ,Nat.reduceEqDiff,reduceIte];first|done|exact⟨rfl,rfl⟩|rfl) ?_ ?_
 ·intro he hz fr' sr' v' ow' hg' hf'
  simp only[b9L,b9K] at hf'
  obtain⟨f6,f8,f9,-⟩:=hf'
  have hr:=hg'.rsl
  simp only[wA,seval,reduceCtorEq,reduceIte,f6,f8,f9,d6Z,hr]
  simp only[boV,tRr,he,hz]
  simp [zTy]
 ·intro he fr' sr' ow' hf'
  simp only[b9L,b9K] at hf'
  obtain⟨f6,f7,-⟩:=hf'
  have hn:=f0T sts zR ns rfl he
  simp only[wA,seval,reduceCtorEq,reduceIte,f6,f7,d6Z]
  simp only[boV,hn]
  simp [he]
theorem f9S {fz:Fz} {fl:Bool} (hlf:fz.length≤B20) (hlp:∀ p,p∈fz→p.1.params.length≤B20):∀ s,SG s→s.kind=3→∀ (ns:Ns),ns.length+d4B s.body≤3 * B20→∀ K:PV→Prop,XcP F gl 40 [.sl s.nl (d3G s.body),.sl false (ns.map e7P),.sl fl (fz.map tFz)] K ⟨⟩↔K (boV (e8H fz s.body zR ns)):=by
 refine St.ind fun s ih hs h3 ns hb K=>?_
 exact f9R (d8E hs.s).1 hlf hlp (fun a ha=>hs.sub h3 ha) (by simp) hb (fun a ha h=>ih a ha (hs.sub h3 ha) h) K
theorem ok40 {fz:Fz} {fl bl nl:Bool} {sts:List St} {ns:Ns} (hln:sts.length≤B20) (hlf:fz.length≤B20) (hlp:∀ p,p∈fz→p.1.params.length≤B20) (hSG:∀ s,s∈sts→SG s) (hnl:nl=true→ns=[]) (hb:ns.length+d4B sts≤3 * B20) (K:PV→Prop) :
  XcP F gl 40 [.sl bl (d3G sts),.sl nl (ns.map e7P),.sl fl (fz.map tFz)] K ⟨⟩↔K (boV (e8H fz sts zR ns)) :=
 f9R hln hlf hlp hSG hnl hb (fun s hs h3=>f9S hlf hlp s (hSG s hs) h3) K
end Go.Proofs.YtdjcnfacjfnakaaGreat
