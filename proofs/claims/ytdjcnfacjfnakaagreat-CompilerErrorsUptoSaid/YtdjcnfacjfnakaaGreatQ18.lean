/- The reference: expressions. -/
import Derived.Test.YtdjcnfacjfnakaaGreatQ15
import Derived.Test.YtdjcnfacjfnakaaGreatKx27
import Derived.Test.YtdjcnfacjfnakaaGreatKx27
import Derived.Test.YtdjcnfacjfnakaaGreatKx27
set_option maxRecDepth 10000
set_option linter.unusedVariables false
set_option linter.unusedSimpArgs false
namespace Go.Proofs.YtdjcnfacjfnakaaGreat
open Go.Pi Go.Lx Go.Ky
variable {gl:Nat->Option (List T)}
theorem g2L {fz:Fz} {ns:Ns}:∀ (l:List Exp),(e4O fz ns l).2=0->(e4O fz ns l).1.length=l.length
 |[],_=>by rw[e4O];rfl
 |a::r,h=>by
  rw[e4Q] at h ⊢
  by_cases h1:(exR fz ns a).err=0
  ·rw[if_neg (show ¬((exR fz ns a).err≠0) from λx=>x h1)] at h ⊢
   by_cases h2:(e4O fz ns r).2=0
   ·rw[if_neg (show ¬((e4O fz ns r).2≠0) from λx=>x h2)]
    simp [g2L r h2]
   ·rw[if_pos h2] at h;exact absurd h h2
  ·rw[if_pos h1] at h;exact absurd h h1
set_option maxHeartbeats 4000000 in
theorem ok41 {fz:Fz} {ns:Ns} (nl fl:Bool) (hls:ns.length<=4 * B20) (hlf:fz.length<=B20) (hlp:∀ p,p∈fz->p.1.params.length<=B20):∀ e,EG e->∀ K:PV->Prop,XcP F gl 41 [.agg (tEx e),.sl nl (ns.map e4D),.sl fl (fz.map tFz)] K ⟨⟩↔K (.t (.agg (tRr (exR fz ns e)))):=by
 refine Exp.ind λe ih hE K=>?_
 have hrec:=λa ha=>ih a ha (hE.arg ha)
 refine Ret.iff (Ret.of F41 rfl ?_)
 simp only[c2M]
 have hF:=λk K=>@g2D gl ns nl k hls K
 by_cases o1:e.op=1
 ·obtain⟨n,hn⟩:=Int.eq_ofNat_of_zero_le hE.val.1
  have hn64:n < 2 ^ 64:=by have:=hE.val.2;rw[hn] at this;omega
  by_cases hv:(n:Int)>=4611686018427387904
  ·have hM:exR fz ns e=⟨⟨1,0,0⟩,0,0,0⟩:=by rw[e4P,if_pos o1,hn,if_pos hv];rfl
   rw[hM]
   simp only[wA,seval,d1J,o1,hn,hv,g1Y]
   try rfl
  ·have hM:exR fz ns e=⟨⟨3,((1+n.log2:Nat):Int),0⟩,0,0,0⟩:=by rw[e4P,if_pos o1,hn,if_neg hv];rfl
   rw[hM]
   simp only[wA,seval,d1J,o1,hn,hv,ok75 n hn64]
   try rfl
 by_cases o3:e.op=3
 ·have hM:exR fz ns e=⟨⟨2,0,0⟩,0,0,0⟩:=by rw[e4P,if_neg o1,if_pos (.inl o3)];rfl
  rw[hM]
  simp only[wA,seval,d1J,o3,g1Z]
  try rfl
 by_cases o4:e.op=4
 ·have hM:exR fz ns e=⟨⟨2,0,0⟩,0,0,0⟩:=by rw[e4P,if_neg o1,if_pos (.inr o4)];rfl
  rw[hM]
  simp only[wA,seval,d1J,o4,g1Z]
  try rfl
 have o34:¬(e.op=3\/e.op=4):=λh=>h.elim o3 o4
 by_cases o2:e.op=2
 ·cases hl:Ky.look e.name ns with
  |none =>
   have hM:exR fz ns e=e4I 4:=by rw[e4P,if_neg o1,if_neg o34,if_pos o2,hl]
   rw[hM]
   simp only[wA,seval,d1J,o2,hF,e4F hl,g2A]
   try rfl
  |some s =>
   have hM:exR fz ns e=⟨s.typ,0,0,0⟩:=by rw[e4P,if_neg o1,if_neg o34,if_pos o2,hl];rfl
   obtain⟨j,nm',hf,hj⟩:=e4H hl
   have hjl:j < ns.length:=(g5O.1 hj).1
   have cj:¬((j:Nat):Int) < 0:=by omega
   rw[hM]
   simp only[wA,seval,d1J,o2,hF,hf,cj,g4Z,hjl,g5Y,g5P,hj,g7F]
   try rfl
 by_cases o8:e.op=8
 ·obtain⟨a,b,hab⟩:=d5R hE.b (.inl o8)
  have hM:exR fz ns e=ixR ns (exR fz ns a) b:=by rw[e4P,if_neg o1,if_neg o34,if_neg o2,if_pos o8,hab]
  have hA:=λK=>hrec a (by simp [hab]) K
  simp only[d1J] at hA
  have hI:=λlen K=>ok76 (gl:=gl) (hE.arg (a:=b) (by simp [hab])).b nl hls len (K:=K)
  simp only[d1J] at hI
  rw[hM]
  unfold ixR
  by_cases he:(exR fz ns a).err=0
  ·have he':((exR fz ns a).err=0)=True:=g7N he
   rw[if_neg (λh=>h he)]
   by_cases hl:(exR fz ns a).t.len=0
   ·have hl':((exR fz ns a).t.len=0)=True:=g7N hl
    rw[if_pos hl]
    by_cases h4:e4L ns b 1=4
    ·rw[if_pos h4]
     simp only[wA,seval,d1J,o8,hab,d1H,hA,hI,he',hl',h4,g2A]
     try rfl
    ·rw[if_neg h4]
     simp only[wA,seval,d1J,o8,hab,d1H,hA,hI,he',hl',h4,g2A]
     try rfl
   ·rw[if_neg hl]
    by_cases h4:e4L ns b (exR fz ns a).t.len=0
    ·have h4':(e4L ns b (exR fz ns a).t.len=0)=True:=g7N h4
     rw[if_neg (λh=>h h4)]
     simp only[wA,seval,d1J,o8,hab,d1H,hA,hI,he',hl,h4',g2A]
     try rfl
    ·rw[if_pos h4]
     simp only[wA,seval,d1J,o8,hab,d1H,hA,hI,he',hl,h4,g2A]
     try rfl
  ·rw[if_pos he]
   simp only[wA,seval,d1J,o8,hab,d1H,hA,hI,he]
   try rfl
 have hO:=λK=>@ok77 gl fz ns nl fl e.nl e.args hE.len hrec K
 by_cases hq:(e4O fz ns e.args).2=0
 ·have hM:exR fz ns e=opR fz e.op e.val e.name (e4O fz ns e.args).1 (acL (e4O fz ns e.args).1):=by rw[e4P,if_neg o1,if_neg o34,if_neg o2,if_neg o8,if_neg (λh=>h hq)]
  have hlen:=g2L e.args hq
  rw[hM]
  simp only[wA,seval,d1J,o1,o3,o4,o2,o8,hO,hq,g1Y]
  generalize (e4O fz ns e.args).1=rs at *
  have hrl:rs.length<=B20:=by rw[hlen];exact hE.len
  refine g2H (rs:=rs) (v2:=.t (.sl fl (fz.map tFz))) hrl _ rs 0 ac0 _ rfl (by simp only[wQ,seval];first|done|exact⟨rfl,rfl,rfl,rfl⟩|rfl) ?_
  intro fr' hf'
  rw[show rs.foldl (acS (tyR rs 0)) ac0=acL rs from rfl] at *
  generalize acL rs=a at *
  simp only[b6U,b6T] at hf'
  obtain⟨f2,f3,f6,f11,f13,f14,f15,f16,f17,-⟩:=hf'
  unfold opR
  by_cases o5:e.op=5
  ·rw[if_pos o5]
   simp only[wA,seval,f2,f3,f6,f11,f13,f14,f15,f16,f17,o5]
   refine g2K (a:=a) hrl hlf hlp _ fz 0 _ rfl (by simp only[wQ,seval,f2,f3,f6,f11,f13];first|done|exact⟨rfl,rfl⟩|rfl) ?_ ?_
   ·intro h0 fr2 hf2
    rw[g2J h0]
    simp only[b6U,b6T] at hf2
    obtain⟨g6,-⟩:=hf2
    simp only[wA,seval,g6,g2A]
    try rfl
   ·intro h0 fr2 x2 g6
    simp only[wA,seval,g6]
    try rfl
  rw[if_neg o5]
  by_cases o6:e.op=6
  ·rw[if_pos o6]
   by_cases hv:e.val>=65536
   ·rw[if_pos hv]
    simp only[wA,seval,f2,f3,f6,f11,f13,f14,f15,f16,f17,o6,hv,g2A]
    try rfl
   ·rw[if_neg hv]
    cases hsc:a.sc with
    |false =>
     rw[hsc] at f14
     unfold scR
     rw[hsc,ff]
     simp only[wA,seval,f2,f3,f6,f11,f13,f14,f15,f16,f17,o6,hv,g2A]
     try rfl
    |true =>
     rw[hsc] at f14
     unfold scR
     rw[hsc,tf]
     simp only[wA,seval,f2,f3,f6,f11,f13,f14,f15,f16,f17,o6,hv]
     try rfl
  rw[if_neg o6]
  by_cases o7:e.op=7
  ·rw[if_pos o7]
   obtain⟨r0,rs',hrs⟩:∃ r rs',rs=r::rs':=by
    cases rs with
    |nil=>exact absurd (List.length_eq_zero_iff.1 hlen.symm) (hE.some o7)
    |cons r rs'=>exact⟨r,rs',rfl⟩
   have ht0:tyR rs 0=r0.t:=by rw[hrs];rfl
   have hr0:rs[0]?=some r0:=by rw[hrs];rfl
   have h0l:0 < rs.length:=by rw[hrs];simp
   rw[ht0]
   cases hsa:a.sa with
   |false =>
    rw[hsa] at f17
    simp only[g4T,if_false,fieldT]
    cases hsc:a.sc with
    |false =>
     rw[hsc] at f14
     unfold scR
     rw[hsc,ff]
     simp only[wA,seval,f2,f3,f6,f11,f13,f14,f15,f16,f17,o7,g5Y,h0l,g5P,hr0,g7F,Int.reduceToNat,g2A]
     try rfl
    |true =>
     rw[hsc] at f14
     unfold scR
     rw[hsc,tf]
     simp only[wA,seval,f2,f3,f6,f11,f13,f14,f15,f16,f17,o7,g5Y,h0l,g5P,hr0,g7F,Int.reduceToNat]
     try rfl
   |true =>
    rw[hsa] at f17
    try simp only[reduceIte]
    cases hsc:a.sc with
    |false =>
     rw[hsc] at f14
     unfold scR
     rw[hsc,ff]
     simp only[wA,seval,f2,f3,f6,f11,f13,f14,f15,f16,f17,o7,g5Y,h0l,g5P,hr0,g7F,Int.reduceToNat,g2A]
     try rfl
    |true =>
     rw[hsc] at f14
     unfold scR
     rw[hsc,tf]
     simp only[wA,seval,f2,f3,f6,f11,f13,f14,f15,f16,f17,o7,g5Y,h0l,g5P,hr0,g7F,Int.reduceToNat]
     try rfl
  rw[if_neg o7]
  by_cases o14:e.op=14
  ·rw[if_pos (.inl o14)]
   simp only[d1G]
   cases hsc:a.sc with
   |false =>
    rw[hsc] at f14
    unfold scR
    rw[hsc,ff]
    simp only[wA,seval,f2,f3,f6,f11,f13,f14,f15,f16,f17,o14,g1Z,g2A]
    try rfl
   |true =>
    rw[hsc] at f14
    unfold scR
    rw[hsc,tf]
    simp only[wA,seval,f2,f3,f6,f11,f13,f14,f15,f16,f17,o14,g1Z]
    try rfl
  by_cases o15:e.op=15
  ·rw[if_pos (.inr o15)]
   simp only[d1G]
   cases hsc:a.sc with
   |false =>
    rw[hsc] at f14
    unfold scR
    rw[hsc,ff]
    simp only[wA,seval,f2,f3,f6,f11,f13,f14,f15,f16,f17,o15,g1Z,g2A]
    try rfl
   |true =>
    rw[hsc] at f14
    unfold scR
    rw[hsc,tf]
    simp only[wA,seval,f2,f3,f6,f11,f13,f14,f15,f16,f17,o15,g1Z]
    try rfl
  rw[if_neg (show ¬(e.op=14\/e.op=15) from λh=>h.elim o14 o15)]
  by_cases o16:e.op=16
  ·rw[if_pos (.inl o16)]
   obtain⟨r0,r1,hrs⟩:∃ r0 r1,rs=[r0,r1]:=by
    obtain⟨x,y,hxy⟩:=d5R hE.b (by omega)
    rw[hxy] at hlen
    match rs,hlen with
    |[r0,r1],_=>exact⟨r0,r1,rfl⟩
   subst hrs
   simp only[d1G,show tyR [r0,r1] 0=r0.t from rfl,show tyR [r0,r1] 1=r1.t from rfl]
   cases hui:a.ui with
   |false =>
    rw[hui] at f16
    rw[ff]
    simp only[wA,seval,f2,f3,f6,f11,f13,f14,f15,f16,f17,o16,g2A]
    try rfl
   |true =>
    rw[hui] at f16
    rw[tf]
    cases hsc:a.sc with
    |false =>
     rw[hsc] at f14
     unfold scR
     rw[hsc,ff]
     simp only[wA,seval,f2,f3,f6,f11,f13,f14,f15,f16,f17,o16,g1Z,g1V,g2A]
     try rfl
    |true =>
     rw[hsc] at f14
     unfold scR
     rw[hsc,tf]
     simp only[wA,seval,f2,f3,f6,f11,f13,f14,f15,f16,f17,o16,g1Z,g1V]
     try rfl
  by_cases o17:e.op=17
  ·rw[if_pos (.inr o17)]
   obtain⟨r0,r1,hrs⟩:∃ r0 r1,rs=[r0,r1]:=by
    obtain⟨x,y,hxy⟩:=d5R hE.b (by omega)
    rw[hxy] at hlen
    match rs,hlen with
    |[r0,r1],_=>exact⟨r0,r1,rfl⟩
   subst hrs
   simp only[d1G,show tyR [r0,r1] 0=r0.t from rfl,show tyR [r0,r1] 1=r1.t from rfl]
   cases hui:a.ui with
   |false =>
    rw[hui] at f16
    rw[ff]
    simp only[wA,seval,f2,f3,f6,f11,f13,f14,f15,f16,f17,o17,g2A]
    try rfl
   |true =>
    rw[hui] at f16
    rw[tf]
    cases hsc:a.sc with
    |false =>
     rw[hsc] at f14
     unfold scR
     rw[hsc,ff]
     simp only[wA,seval,f2,f3,f6,f11,f13,f14,f15,f16,f17,o17,g1Z,g1V,g2A]
     try rfl
    |true =>
     rw[hsc] at f14
     unfold scR
     rw[hsc,tf]
     simp only[wA,seval,f2,f3,f6,f11,f13,f14,f15,f16,f17,o17,g1Z,g1V]
     try rfl
  rw[if_neg (show ¬(e.op=16\/e.op=17) from λh=>h.elim o16 o17)]
  by_cases o10:e.op=10
  ·rw[if_pos (.inl o10)]
   simp only[d1G]
   cases hbo:a.bo with
   |false =>
    rw[hbo] at f15
    rw[ff]
    simp only[wA,seval,f2,f3,f6,f11,f13,f14,f15,f16,f17,o10,g2A]
    try rfl
   |true =>
    rw[hbo] at f15
    rw[tf]
    cases hsc:a.sc with
    |false =>
     rw[hsc] at f14
     unfold scR
     rw[hsc,ff]
     simp only[wA,seval,f2,f3,f6,f11,f13,f14,f15,f16,f17,o10,g1Z,g2A]
     try rfl
    |true =>
     rw[hsc] at f14
     unfold scR
     rw[hsc,tf]
     simp only[wA,seval,f2,f3,f6,f11,f13,f14,f15,f16,f17,o10,g1Z]
     try rfl
  by_cases o18:e.op=18
  ·rw[if_pos (.inr (.inl o18))]
   simp only[d1G]
   cases hbo:a.bo with
   |false =>
    rw[hbo] at f15
    rw[ff]
    simp only[wA,seval,f2,f3,f6,f11,f13,f14,f15,f16,f17,o18,g2A]
    try rfl
   |true =>
    rw[hbo] at f15
    rw[tf]
    cases hsc:a.sc with
    |false =>
     rw[hsc] at f14
     unfold scR
     rw[hsc,ff]
     simp only[wA,seval,f2,f3,f6,f11,f13,f14,f15,f16,f17,o18,g1Z,g2A]
     try rfl
    |true =>
     rw[hsc] at f14
     unfold scR
     rw[hsc,tf]
     simp only[wA,seval,f2,f3,f6,f11,f13,f14,f15,f16,f17,o18,g1Z]
     try rfl
  by_cases o19:e.op=19
  ·rw[if_pos (.inr (.inr o19))]
   simp only[d1G]
   cases hbo:a.bo with
   |false =>
    rw[hbo] at f15
    rw[ff]
    simp only[wA,seval,f2,f3,f6,f11,f13,f14,f15,f16,f17,o19,g2A]
    try rfl
   |true =>
    rw[hbo] at f15
    rw[tf]
    cases hsc:a.sc with
    |false =>
     rw[hsc] at f14
     unfold scR
     rw[hsc,ff]
     simp only[wA,seval,f2,f3,f6,f11,f13,f14,f15,f16,f17,o19,g1Z,g2A]
     try rfl
    |true =>
     rw[hsc] at f14
     unfold scR
     rw[hsc,tf]
     simp only[wA,seval,f2,f3,f6,f11,f13,f14,f15,f16,f17,o19,g1Z]
     try rfl
  rw[if_neg (show ¬(e.op=10\/e.op=18\/e.op=19) from λh=>h.elim o10 λh=>h.elim o18 o19)]
  by_cases o20:e.op=20
  ·rw[if_pos o20]
   obtain⟨r0,r1,r2,hrs⟩:∃ r0 r1 r2,rs=[r0,r1,r2]:=by
    obtain⟨x,y,z,hxy⟩:=d5S hE.b o20
    rw[hxy] at hlen
    match rs,hlen with
    |[r0,r1,r2],_=>exact⟨r0,r1,r2,rfl⟩
   subst hrs
   rw[show tyR [r0,r1,r2] 0=r0.t from rfl,show tyR [r0,r1,r2] 1=r1.t from rfl,show tyR [r0,r1,r2] 2=r2.t from rfl]
   have hbq:=g2G r0.t
   have hq12:=d5D r1.t r2.t
   by_cases hb:r0.t=d1G
   ·rw[g7K hb] at hbq
    rw[if_neg (λh=>h hb)]
    by_cases h12:r1.t=r2.t
    ·rw[g7K h12] at hq12
     rw[if_pos h12]
     simp only[wA,seval,f2,f3,f6,f11,f13,f14,f15,f16,f17,o20,g1Z,hbq,hq12]
     try rfl
    ·rw[g7I h12] at hq12
     rw[if_neg h12]
     simp only[fieldT]
     cases hsc:a.sc with
     |false =>
      rw[hsc] at f14
      unfold scR
      rw[hsc,ff]
      simp only[wA,seval,f2,f3,f6,f11,f13,f14,f15,f16,f17,o20,g1Z,hbq,hq12,g2A]
      try rfl
     |true =>
      rw[hsc] at f14
      unfold scR
      rw[hsc,tf]
      simp only[wA,seval,f2,f3,f6,f11,f13,f14,f15,f16,f17,o20,g1Z,hbq,hq12]
      try rfl
   ·rw[g7I hb] at hbq
    rw[if_pos hb]
    simp only[wA,seval,f2,f3,f6,f11,f13,f14,f15,f16,f17,o20,g1Z,hbq,g2A]
    try rfl
  rw[if_neg o20]
  simp only[fieldT]
  cases hsc:a.sc with
  |false =>
   rw[hsc] at f14
   unfold scR
   rw[hsc,ff]
   simp only[wA,seval,f2,f3,f6,f11,f13,f14,f15,f16,f17,o5,o6,o7,o14,o15,o16,o17,o10,o18,o19,o20,g2A]
   try rfl
  |true =>
   rw[hsc] at f14
   unfold scR
   rw[hsc,tf]
   simp only[wA,seval,f2,f3,f6,f11,f13,f14,f15,f16,f17,o5,o6,o7,o14,o15,o16,o17,o10,o18,o19,o20]
   try rfl
 ·have hM:exR fz ns e=e4I (e4O fz ns e.args).2:=by rw[e4P,if_neg o1,if_neg o34,if_neg o2,if_neg o8,if_pos hq]
  rw[hM]
  simp only[wA,seval,d1J,o1,o3,o4,o2,o8,hO,hq,g2A]
  try rfl
end Go.Proofs.YtdjcnfacjfnakaaGreat

/- The reference: statements. -/
namespace Go.Proofs.YtdjcnfacjfnakaaGreat
open Go.Pi Go.Lx Go.Ky
variable {gl:Nat->Option (List T)}
abbrev oC (r:Rr):List PV:=[.t (.int .i64 0),.t (.int .i64 0),.t (.int .i64 0),.t (.int .i64 r.bits),.t (.int .i64 r.steps),.t (.int .i64 0)]
abbrev boV (q:Rr×Ns):PV:=.tup [.t (.agg (tRr q.1)),.t (.sl (decide (q.1.err≠0)) (q.2.map e4D))]
set_option maxHeartbeats 4000000 in
theorem g2M {fz:Fz} {fl bl:Bool} {sts:List St} (hln:sts.length<=B20) (hlf:fz.length<=B20) (hlp:∀ p,p∈fz->p.1.params.length<=B20) (hSG:∀ s,s∈sts->SG s)
  (hrec:∀ s,s∈sts->s.kind=3->∀ (ns:Ns),ns.length+d2G s.body<=3 * B20->∀ K:PV->Prop,XcP F gl 40 [.sl s.nl (d1M s.body),.sl false (ns.map e4D),.sl fl (fz.map tFz)] K ⟨⟩↔K (boV (e4V fz s.body zR ns))) (Q:Ex->S->Prop) :
  ∀ (l:List St) (i:Nat) (out:Rr) (own:Ns) (v:PV) (ow:Ow) (fr:List PV) (sr:Sg),sts.drop i=l->out.err=0->out.t=zTy->Gl 7 v ow (own.map e4D)->own.length+d2G l<=3 * B20 ->
  b6S fr [(0,.t (.sl bl (d1M sts))),(2,.t (.sl fl (fz.map tFz))),(6,.lp 0 0),(8,.lp 1 0),(9,v),(10,.t (.int .i64 i))] ->
  ((e4V fz l out own).1.err=0->(e4V fz l out own).1.t=zTy->∀ fr' sr' v' ow',Gl 7 v' ow' ((e4V fz l out own).2.map e4D)->b6S fr' [(6,.lp 0 0),(8,.lp 1 0),(9,v')]->Q (.exit 0) ⟨fr',(false,z6C)::(false,oC (e4V fz l out own).1)::sr',ow'⟩) ->
  ((e4V fz l out own).1.err≠0->∀ fr' sr' ow',b6S fr' [(6,.lp 0 0),(7,.t (.sl true []))]->Q .ret ⟨fr',(false,rC (e4V fz l out own).1)::sr',ow'⟩) ->
  Xl F gl c2H ⟨fr,(false,z6C)::(false,oC out)::sr,ow⟩ Q ⟨⟩:=by
 intro l
 induction l with
 |nil =>
  intro i out own v ow fr sr hd ho hz hg hb hf k1 k2
  have hd:=b6N hd
  simp only[b6U,b6T] at hf
  obtain⟨f0,f2,f6,f8,f9,f10,-⟩:=hf
  refine Xl.step ?_
  simp only[c2H]
  have c1:¬((i:Int) < (sts.length:Int)):=by omega
  rw[e4V] at k1
  simp only[wA,seval,f0,f10,c1,d1P]
  exact k1 ho hz _ _ v _ hg (by simp only[wQ,seval,f6,f8,f9])
 |cons x l ih =>
  intro i out own v ow fr sr hd ho hz hg hb hf k1 k2
  obtain⟨hx,hr,hi⟩:=b6M hd
  simp only[b6U,b6T] at hf
  obtain⟨f0,f2,f6,f8,f9,f10,-⟩:=hf
  refine Xl.step ?_
  simp only[c2H]
  have c1:(i:Int) < (sts.length:Int):=by omega
  have hB:B20=1100000:=rfl
  have hw1:=d5F hi (show sts.length<=281474976710656 by omega)
  have hm:=g6K hx
  have hsx:=hSG x hm
  rw[d2K] at hb
  have hsz:=d2J x
  have hlo:own.length<=4 * B20:=by omega
  have hF:=λk K=>@g2D gl own false k hlo K
  have hcl:=hg.cl
  have hroom:∀ n,n<=(own.map e4D).length+1->a0M n 64=true:=λn hn=>e7J (by rw[g5Y] at hn;omega)
  rw[e6Y] at k1 k2
  by_cases h3:x.kind=3
  ·have h3':(x.kind=3)=True:=g7N h3
   rw[e6W h3] at k1 k2
   by_cases hlh:x.lo > x.hi
   ·rw[if_pos hlh] at k1 k2
    simp only[wA,seval,f0,f2,f6,f8,f9,f10,c1,hw1,d1P,g4Z,hi,d1Q,hx,g7F,d1O,h3,hlh,g2A]
    exact k2 (by simp [e4I]) _ _ _ (by simp only[wQ,seval,f6])
   rw[if_neg hlh] at k1 k2
   cases hl:Ky.look x.name own with
   |some s =>
    obtain⟨j,nm',hf,hj⟩:=e4H hl
    have cj:((j:Nat):Int)>=0:=by omega
    rw[hl] at k1 k2
    simp only[wA,seval,f0,f2,f6,f8,f9,f10,c1,hw1,d1P,g4Z,hi,d1Q,hx,g7F,d1O,h3,hlh,hcl,hF,hf,cj,g2A]
    exact k2 (by simp [e4I]) _ _ _ (by simp only[wQ,seval,f6])
   |none =>
    rw[hl] at k1 k2
    simp only at k1 k2
    obtain⟨v1,ow1,kk,ow2,a1,a2,hg2⟩:=hg.copy1 (bytes:=64) (e:=e4D (x.name,⟨fieldT,true,x.lo,x.hi⟩)) rfl (by omega) (all7 own) hroom
    have hq:=λK=>hrec x hm h3 (own++[(x.name,⟨fieldT,true,x.lo,x.hi⟩)]) (by rw[g5W];simp only[g5X,g5Z];omega) K
    have fk:fieldT.kind=1:=rfl
    have fb:fieldT.bits=0:=rfl
    have fl':fieldT.len=0:=rfl
    simp only[e4D,fk,fb,fl'] at a2
    simp only[g6D,g6E,g6F,e4D,fk,fb,fl'] at hq
    by_cases he:(e4V fz x.body zR (own++[(x.name,⟨fieldT,true,x.lo,x.hi⟩)])).1.err=0
    ·have he':((e4V fz x.body zR (own++[(x.name,⟨fieldT,true,x.lo,x.hi⟩)])).1.err=0)=True:=g7N he
     rw[if_neg (show ¬((e4V fz x.body zR (own++[(x.name,⟨fieldT,true,x.lo,x.hi⟩)])).1.err≠0) from λx=>x he)] at k1 k2
     rw[if_neg (show ¬((e4U out (e4V fz x.body zR (own++[(x.name,⟨fieldT,true,x.lo,x.hi⟩)])).1 (IntKind.i64.wrap (x.hi - x.lo))).err≠0) from λx=>x ho)] at k1 k2
     simp only[wA,seval,f0,f2,f6,f8,f9,f10,c1,hw1,d1P,g4Z,hi,d1Q,hx,g7F,d1O,h3,hlh,hcl,hF,e4F hl,b4J,a0C,a0L,T.isAgg,List.replicate,g5H,g5I,g5C,g1Y,a1,a2,hq,he',g1V,ok72,g1U]
     refine ih (i+1) (e4U out (e4V fz x.body zR (own++[(x.name,⟨fieldT,true,x.lo,x.hi⟩)])).1 (IntKind.i64.wrap (x.hi - x.lo))) own v ow2 _ _ hr ?_ ?_ ?_ ?_ ?_ ?_ ?_
     ·exact ho
     ·exact hz
     ·exact hg2
     ·omega
     ·simp only[wQ,seval,f0,f2,f6,f8,f9]
     ·exact k1
     ·exact k2
    ·rw[if_pos he,if_pos he] at k2
     simp only[wA,seval,f0,f2,f6,f8,f9,f10,c1,hw1,d1P,g4Z,hi,d1Q,hx,g7F,d1O,h3,hlh,hcl,hF,e4F hl,b4J,a0C,a0L,T.isAgg,List.replicate,g5H,g5I,g5C,g1Y,a1,a2,hq,he]
     exact k2 he _ _ _ (by simp only[wQ,seval,f6])
  ·have h3':(x.kind=3)=False:=g7M h3
   have hE:=λK=>ok41 (gl:=gl) (fz:=fz) (ns:=own) false fl hlo hlf hlp x.ex (hsx.ex h3) K
   simp only[d1J] at hE
   rw[e6X h3] at k1 k2
   by_cases he:(exR fz own x.ex).err=0
   ·have he':((exR fz own x.ex).err=0)=True:=g7N he
    rw[if_neg (show ¬((exR fz own x.ex).err≠0) from λx=>x he)] at k1 k2
    by_cases h2:x.kind=2
    ·rw[if_pos h2] at k1 k2
     have hbq:=g2G (exR fz own x.ex).t
     by_cases hb2:(exR fz own x.ex).t=d1G
     ·rw[g7K hb2] at hbq
      rw[if_neg (show ¬((exR fz own x.ex).t≠d1G) from λx=>x hb2)] at k1 k2
      rw[if_neg (show ¬((e4T out (exR fz own x.ex)).err≠0) from λx=>x ho)] at k1 k2
      simp only[wA,seval,f0,f2,f6,f8,f9,f10,c1,hw1,d1P,g4Z,hi,d1Q,hx,g7F,d1O,hcl,hF,h2,hE,he',hbq,g1V,g1U,g1Z]
      refine ih (i+1) (e4T out (exR fz own x.ex)) own v ow _ _ hr ?_ ?_ ?_ ?_ ?_ ?_ ?_
      ·exact ho
      ·exact hz
      ·exact hg
      ·omega
      ·simp only[wQ,seval,f0,f2,f6,f8,f9]
      ·exact k1
      ·exact k2
     ·rw[g7I hb2] at hbq
      rw[if_pos hb2] at k1 k2
      simp only[wA,seval,f0,f2,f6,f8,f9,f10,c1,hw1,d1P,g4Z,hi,d1Q,hx,g7F,d1O,hcl,hF,h2,hE,he',hbq,g1V,g1U,g1Z,g2A]
      exact k2 (by simp [e4I]) _ _ _ (by simp only[wQ,seval,f6])
    ·rw[if_neg h2] at k1 k2
     have h2':(x.kind=2)=False:=g7M h2
     unfold e4S at k1 k2
     cases ht:x.typed with
     |false =>
      rw[ht] at k1 k2
      simp only[g4T,if_false] at k1 k2
      cases hl:Ky.look x.name own with
      |some s =>
       obtain⟨j,nm',hf,hj⟩:=e4H hl
       have cj:((j:Nat):Int)>=0:=by omega
       have hadd:e4R x.name ⟨(exR fz own x.ex).t,false,0,0⟩ (e4T out (exR fz own x.ex)) own=(e4I 5,[]):=by unfold e4R;rw[hl]
       rw[hadd] at k1 k2
       simp only[wA,seval,f0,f2,f6,f8,f9,f10,c1,hw1,d1P,g4Z,hi,d1Q,hx,g7F,d1O,hcl,hF,h3',h2',hE,he',g1V,g1U,ht,hf,cj,g2A]
       exact k2 (by simp [e4I]) _ _ _ (by simp only[wQ,seval,f6])
      |none =>
       obtain⟨v',ow',a1,hg'⟩:=hg.app (bytes:=64) (e:=e4D (x.name,⟨(exR fz own x.ex).t,false,0,0⟩)) rfl (by omega) (hroom _ (by omega))
       have hadd:e4R x.name ⟨(exR fz own x.ex).t,false,0,0⟩ (e4T out (exR fz own x.ex)) own=((e4T out (exR fz own x.ex)),own++[(x.name,⟨(exR fz own x.ex).t,false,0,0⟩)]):=by unfold e4R;rw[hl]
       rw[hadd] at k1 k2
       rw[if_neg (show ¬((e4T out (exR fz own x.ex)).err≠0) from λx=>x ho)] at k1 k2
       simp only[e4D] at a1
       simp only[wA,seval,f0,f2,f6,f8,f9,f10,c1,hw1,d1P,g4Z,hi,d1Q,hx,g7F,d1O,hcl,hF,h3',h2',hE,he',g1V,g1U,ht,e4F hl,b4J,a0C,a0L,T.isAgg,List.replicate,g5H,g5I,g5C,a1]
       refine ih (i+1) (e4T out (exR fz own x.ex)) (own++[(x.name,⟨(exR fz own x.ex).t,false,0,0⟩)]) v' ow' _ _ hr ?_ ?_ ?_ ?_ ?_ ?_ ?_
       ·exact ho
       ·exact hz
       ·rw[g6D];exact hg'
       ·rw[g5W];simp only[g5X,g5Z];omega
       ·simp only[wQ,seval,f0,f2,f6,f8,f9]
       ·exact k1
       ·exact k2
     |true =>
      rw[ht] at k1 k2
      simp only[reduceIte] at k1 k2
      cases hs:d3N x.ty with
      |true =>
       cases hs2:d3N (exR fz own x.ex).t with
       |false =>
        rw[hs,hs2] at k1 k2
        simp only[g4V,g4U,Bool.and_self,Bool.true_or,reduceIte] at k1 k2
        simp only[wA,seval,f0,f2,f6,f8,f9,f10,c1,hw1,d1P,g4Z,hi,d1Q,hx,g7F,d1O,hcl,hF,h3',h2',hE,he',g1V,g1U,ht,g1X,hs,hs2,g2A]
        exact k2 (by simp [e4I]) _ _ _ (by simp only[wQ,seval,f6])
       |true =>
        rw[hs,hs2] at k1 k2
        simp only[g4V,Bool.and_false,Bool.false_and,Bool.false_or,g4T,if_false] at k1 k2
        cases hl:Ky.look x.name own with
        |some s =>
         obtain⟨j,nm',hf,hj⟩:=e4H hl
         have cj:((j:Nat):Int)>=0:=by omega
         have hadd:e4R x.name ⟨x.ty,false,0,0⟩ (⟨(e4T out (exR fz own x.ex)).t,grM (e4T out (exR fz own x.ex)).bits (e4B x.ty),(e4T out (exR fz own x.ex)).steps,(e4T out (exR fz own x.ex)).err⟩:Rr) own=(e4I 5,[]):=by unfold e4R;rw[hl]
         rw[hadd] at k1 k2
         simp only[wA,seval,f0,f2,f6,f8,f9,f10,c1,hw1,d1P,g4Z,hi,d1Q,hx,g7F,d1O,hcl,hF,h3',h2',hE,he',g1V,g1U,ht,g1X,hs,hs2,g1W,hf,cj,g2A]
         exact k2 (by simp [e4I]) _ _ _ (by simp only[wQ,seval,f6])
        |none =>
         obtain⟨v',ow',a1,hg'⟩:=hg.app (bytes:=64) (e:=e4D (x.name,⟨x.ty,false,0,0⟩)) rfl (by omega) (hroom _ (by omega))
         have hadd:e4R x.name ⟨x.ty,false,0,0⟩ (⟨(e4T out (exR fz own x.ex)).t,grM (e4T out (exR fz own x.ex)).bits (e4B x.ty),(e4T out (exR fz own x.ex)).steps,(e4T out (exR fz own x.ex)).err⟩:Rr) own=((⟨(e4T out (exR fz own x.ex)).t,grM (e4T out (exR fz own x.ex)).bits (e4B x.ty),(e4T out (exR fz own x.ex)).steps,(e4T out (exR fz own x.ex)).err⟩:Rr),own++[(x.name,⟨x.ty,false,0,0⟩)]):=by unfold e4R;rw[hl]
         rw[hadd] at k1 k2
         rw[if_neg (show ¬((⟨(e4T out (exR fz own x.ex)).t,grM (e4T out (exR fz own x.ex)).bits (e4B x.ty),(e4T out (exR fz own x.ex)).steps,(e4T out (exR fz own x.ex)).err⟩:Rr).err≠0) from λx=>x ho)] at k1 k2
         simp only[e4D] at a1
         simp only[wA,seval,f0,f2,f6,f8,f9,f10,c1,hw1,d1P,g4Z,hi,d1Q,hx,g7F,d1O,hcl,hF,h3',h2',hE,he',g1V,g1U,ht,g1X,hs,hs2,g1W,e4F hl,b4J,a0C,a0L,T.isAgg,List.replicate,g5H,g5I,g5C,a1]
         refine ih (i+1) (⟨(e4T out (exR fz own x.ex)).t,grM (e4T out (exR fz own x.ex)).bits (e4B x.ty),(e4T out (exR fz own x.ex)).steps,(e4T out (exR fz own x.ex)).err⟩:Rr) (own++[(x.name,⟨x.ty,false,0,0⟩)]) v' ow' _ _ hr ?_ ?_ ?_ ?_ ?_ ?_ ?_
         ·exact ho
         ·exact hz
         ·rw[g6D];exact hg'
         ·rw[g5W];simp only[g5X,g5Z];omega
         ·simp only[wQ,seval,f0,f2,f6,f8,f9]
         ·exact k1
         ·exact k2
      |false =>
       cases hs2:e4C (exR fz own x.ex).t x.ty with
       |false =>
        rw[hs,hs2] at k1 k2
        simp only[g4U,Bool.and_self,Bool.false_and,Bool.false_or,reduceIte] at k1 k2
        simp only[wA,seval,f0,f2,f6,f8,f9,f10,c1,hw1,d1P,g4Z,hi,d1Q,hx,g7F,d1O,hcl,hF,h3',h2',hE,he',g1V,g1U,ht,g1X,g2B,hs,hs2,g2A]
        exact k2 (by simp [e4I]) _ _ _ (by simp only[wQ,seval,f6])
       |true =>
        rw[hs,hs2] at k1 k2
        simp only[g4V,Bool.and_false,Bool.false_and,Bool.false_or,g4T,if_false] at k1 k2
        cases hl:Ky.look x.name own with
        |some s =>
         obtain⟨j,nm',hf,hj⟩:=e4H hl
         have cj:((j:Nat):Int)>=0:=by omega
         have hadd:e4R x.name ⟨x.ty,false,0,0⟩ (⟨(e4T out (exR fz own x.ex)).t,grM (e4T out (exR fz own x.ex)).bits (e4B x.ty),(e4T out (exR fz own x.ex)).steps,(e4T out (exR fz own x.ex)).err⟩:Rr) own=(e4I 5,[]):=by unfold e4R;rw[hl]
         rw[hadd] at k1 k2
         simp only[wA,seval,f0,f2,f6,f8,f9,f10,c1,hw1,d1P,g4Z,hi,d1Q,hx,g7F,d1O,hcl,hF,h3',h2',hE,he',g1V,g1U,ht,g1X,g2B,hs,hs2,g1W,hf,cj,g2A]
         exact k2 (by simp [e4I]) _ _ _ (by simp only[wQ,seval,f6])
        |none =>
         obtain⟨v',ow',a1,hg'⟩:=hg.app (bytes:=64) (e:=e4D (x.name,⟨x.ty,false,0,0⟩)) rfl (by omega) (hroom _ (by omega))
         have hadd:e4R x.name ⟨x.ty,false,0,0⟩ (⟨(e4T out (exR fz own x.ex)).t,grM (e4T out (exR fz own x.ex)).bits (e4B x.ty),(e4T out (exR fz own x.ex)).steps,(e4T out (exR fz own x.ex)).err⟩:Rr) own=((⟨(e4T out (exR fz own x.ex)).t,grM (e4T out (exR fz own x.ex)).bits (e4B x.ty),(e4T out (exR fz own x.ex)).steps,(e4T out (exR fz own x.ex)).err⟩:Rr),own++[(x.name,⟨x.ty,false,0,0⟩)]):=by unfold e4R;rw[hl]
         rw[hadd] at k1 k2
         rw[if_neg (show ¬((⟨(e4T out (exR fz own x.ex)).t,grM (e4T out (exR fz own x.ex)).bits (e4B x.ty),(e4T out (exR fz own x.ex)).steps,(e4T out (exR fz own x.ex)).err⟩:Rr).err≠0) from λx=>x ho)] at k1 k2
         simp only[e4D] at a1
         simp only[wA,seval,f0,f2,f6,f8,f9,f10,c1,hw1,d1P,g4Z,hi,d1Q,hx,g7F,d1O,hcl,hF,h3',h2',hE,he',g1V,g1U,ht,g1X,g2B,hs,hs2,g1W,e4F hl,b4J,a0C,a0L,T.isAgg,List.replicate,g5H,g5I,g5C,a1]
         refine ih (i+1) (⟨(e4T out (exR fz own x.ex)).t,grM (e4T out (exR fz own x.ex)).bits (e4B x.ty),(e4T out (exR fz own x.ex)).steps,(e4T out (exR fz own x.ex)).err⟩:Rr) (own++[(x.name,⟨x.ty,false,0,0⟩)]) v' ow' _ _ hr ?_ ?_ ?_ ?_ ?_ ?_ ?_
         ·exact ho
         ·exact hz
         ·rw[g6D];exact hg'
         ·rw[g5W];simp only[g5X,g5Z];omega
         ·simp only[wQ,seval,f0,f2,f6,f8,f9]
         ·exact k1
         ·exact k2
   ·rw[if_pos he,if_pos he] at k2
    simp only[wA,seval,f0,f2,f6,f8,f9,f10,c1,hw1,d1P,g4Z,hi,d1Q,hx,g7F,d1O,hcl,hF,h3',hE,he]
    exact k2 he _ _ _ (by simp only[wQ,seval,f6])
end Go.Proofs.YtdjcnfacjfnakaaGreat

/- The reference: bodies. -/
namespace Go.Proofs.YtdjcnfacjfnakaaGreat
open Go.Pi Go.Lx Go.Ky
variable {gl:Nat->Option (List T)}
theorem g2N {fz:Fz} {fl bl nl:Bool} {sts:List St} {ns:Ns} (hln:sts.length<=B20) (hlf:fz.length<=B20) (hlp:∀ p,p∈fz->p.1.params.length<=B20) (hSG:∀ s,s∈sts->SG s) (hnl:nl=true->ns=[]) (hb:ns.length+d2G sts<=3 * B20)
  (hrec:∀ s,s∈sts->s.kind=3->∀ (ns:Ns),ns.length+d2G s.body<=3 * B20->∀ K:PV->Prop,XcP F gl 40 [.sl s.nl (d1M s.body),.sl false (ns.map e4D),.sl fl (fz.map tFz)] K ⟨⟩↔K (boV (e4V fz s.body zR ns))) (K:PV->Prop) :
  XcP F gl 40 [.sl bl (d1M sts),.sl nl (ns.map e4D),.sl fl (fz.map tFz)] K ⟨⟩↔K (boV (e4V fz sts zR ns)):=by
 refine Ret.iff (Ret.of F40 rfl ?_)
 simp only[c2I]
 obtain⟨v0,ow0,a0,hg0⟩:=e7I (sz:=7) (bytes:=64) (ow:=[]) (nl:=nl) (es:=ns.map e4D) (λh=>by rw[hnl h];rfl) (by omega) (all7 ns) (e7J (by rw[g5Y];omega))
 simp only[wA,seval,b4J,a0C,a0L,T.isAgg,List.replicate,g5H,g5I,g5C,a0]
 refine g2M hln hlf hlp hSG hrec _ sts 0 zR ns v0 ow0 _ [] rfl rfl rfl hg0 hb (by simp only[wQ,seval];first|done|exact⟨rfl,rfl⟩|rfl) ?_ ?_
 ·intro he hz fr' sr' v' ow' hg' hf'
  simp only[b6U,b6T] at hf'
  obtain⟨f6,f8,f9,-⟩:=hf'
  have hr:=hg'.rsl
  simp only[wA,seval,f6,f8,f9,d5E,hr]
  simp only[boV,tRr,he,hz]
  simp [zTy]
 ·intro he fr' sr' ow' hf'
  simp only[b6U,b6T] at hf'
  obtain⟨f6,f7,-⟩:=hf'
  have hn:=e7K sts zR ns rfl he
  simp only[wA,seval,f6,f7,d5E]
  simp only[boV,hn]
  simp [he]
theorem g2O {fz:Fz} {fl:Bool} (hlf:fz.length<=B20) (hlp:∀ p,p∈fz->p.1.params.length<=B20):∀ s,SG s->s.kind=3->∀ (ns:Ns),ns.length+d2G s.body<=3 * B20->∀ K:PV->Prop,XcP F gl 40 [.sl s.nl (d1M s.body),.sl false (ns.map e4D),.sl fl (fz.map tFz)] K ⟨⟩↔K (boV (e4V fz s.body zR ns)):=by
 refine St.ind λs ih hs h3 ns hb K=>?_
 exact g2N (d6L hs.s).1 hlf hlp (λa ha=>hs.sub h3 ha) (by simp) hb (λa ha h=>ih a ha (hs.sub h3 ha) h) K
theorem ok40 {fz:Fz} {fl bl nl:Bool} {sts:List St} {ns:Ns} (hln:sts.length<=B20) (hlf:fz.length<=B20) (hlp:∀ p,p∈fz->p.1.params.length<=B20) (hSG:∀ s,s∈sts->SG s) (hnl:nl=true->ns=[]) (hb:ns.length+d2G sts<=3 * B20) (K:PV->Prop) :
  XcP F gl 40 [.sl bl (d1M sts),.sl nl (ns.map e4D),.sl fl (fz.map tFz)] K ⟨⟩↔K (boV (e4V fz sts zR ns)) :=
 g2N hln hlf hlp hSG hnl hb (λs hs h3=>g2O hlf hlp s (hSG s hs) h3) K
end Go.Proofs.YtdjcnfacjfnakaaGreat
