/- The reference: indexes. -/
import Derived.Test.YtdjcnfacjfnakaaGreatQ11
import Derived.Test.YtdjcnfacjfnakaaGreatKx27
import Derived.Test.YtdjcnfacjfnakaaGreatKx19
set_option maxRecDepth 10000
set_option linter.unusedVariables false
set_option linter.unusedSimpArgs false
namespace Go.Proofs.YtdjcnfacjfnakaaGreat
open Go.Pi Go.Lx Go.Ky
variable {gl:Nat->Option (List T)}
set_option maxHeartbeats 2000000 in
theorem ok76 {e:Exp} (he:exB e=true) {ns:Ns} (nl:Bool) (hls:ns.length<=4 * B20) (len:Int) {K:PV->Prop}:XcP F gl 76 [.agg (tEx e),.sl nl (ns.map e4D),.int .i64 len] K ⟨⟩↔K (.t (.int .i64 (e4L ns e len))):=by
 refine Ret.iff (Ret.of F76 rfl ?_)
 simp only[c4F]
 have hF:=λk K=>@g2D gl ns nl k hls K
 by_cases o1:e.op=1
 ·by_cases hv:e.val>=IntKind.u64.wrap len
  ·have hM:e4L ns e len=8:=by unfold e4L;rw[if_pos o1,if_pos hv]
   rw[hM]
   simp only[wA,seval,d1J,o1,hv]
  ·have hM:e4L ns e len=0:=by unfold e4L;rw[if_pos o1,if_neg hv]
   rw[hM]
   simp only[wA,seval,d1J,o1,hv]
 by_cases o12:e.op=12
 ·obtain⟨a,b,hab⟩:=d5R he (.inr (.inl o12))
  by_cases hop:a.op=2
  ·by_cases hb:b.op=1
   ·skip
    cases hl:Ky.look a.name ns with
    |none =>
     have hM:e4L ns e len=4:=by unfold e4L e4K;simp [o12,hab,hb,hop,hl]
     rw[hM]
     simp only[wA,seval,d1J,o12,hab,d1H,hb,hop,d5Q,d5P,d5O,d5L,a1C,hF,e4F hl]
    |some s =>
     obtain⟨j,nm',hf,hj⟩:=e4H hl
     have hjl:j < ns.length:=(g5O.1 hj).1
     have cj:¬((j:Nat):Int) < 0:=by omega
     have hR:e4L ns e len=e4J s b.val 1 len:=by unfold e4L e4K;simp [o12,hab,hb,hop,hl]
     rw[hR]
     cases hlo:s.loop with
     |false =>
      rw[e7D hlo]
      simp only[wA,seval,d1J,o12,hab,d1H,hb,hop,d5Q,d5P,d5O,d5L,a1C,hF,hf,cj,g4Z,hjl,g5Y,g5P,hj,g7F,hlo]
     |true =>
      by_cases h2:s.low > IntKind.i64.wrap (s.high - 1)
      ·rw[e7E hlo h2]
       simp only[wA,seval,d1J,o12,hab,d1H,hb,hop,d5Q,d5P,d5O,d5L,a1C,hF,hf,cj,g4Z,hjl,g5Y,g5P,hj,g7F,hlo,h2]
      by_cases h3:b.val > 10000000
      ·rw[e7F hlo h2 h3]
       simp only[wA,seval,d1J,o12,hab,d1H,hb,hop,d5Q,d5P,d5O,d5L,a1C,hF,hf,cj,g4Z,hjl,g5Y,g5P,hj,g7F,hlo,h2,h3]
      by_cases h4:IntKind.i64.wrap (s.low+IntKind.i64.wrap (1 * IntKind.i64.wrap b.val)) < 0
      ·rw[e7G hlo h2 h3 (.inl h4)]
       simp only[wA,seval,d1J,o12,hab,d1H,hb,hop,d5Q,d5P,d5O,d5L,a1C,hF,hf,cj,g4Z,hjl,g5Y,g5P,hj,g7F,hlo,h2,h3,h4]
      by_cases h5:IntKind.i64.wrap (IntKind.i64.wrap (s.high - 1)+IntKind.i64.wrap (1 * IntKind.i64.wrap b.val))>=len
      ·rw[e7G hlo h2 h3 (.inr h5)]
       simp only[wA,seval,d1J,o12,hab,d1H,hb,hop,d5Q,d5P,d5O,d5L,a1C,hF,hf,cj,g4Z,hjl,g5Y,g5P,hj,g7F,hlo,h2,h3,h4,h5]
      ·rw[e7H hlo h2 h3 h4 h5]
       simp only[wA,seval,d1J,o12,hab,d1H,hb,hop,d5Q,d5P,d5O,d5L,a1C,hF,hf,cj,g4Z,hjl,g5Y,g5P,hj,g7F,hlo,h2,h3,h4,h5]
   ·have hM:e4L ns e len=6:=by unfold e4L;simp [o12,hab,hb,hop]
    rw[hM]
    simp only[wA,seval,d1J,o12,hab,d1H,hb,hop,d5Q,d5P,d5O,d5L,a1C]
  ·have hM:e4L ns e len=6:=by unfold e4L;simp [o12,hab,hop]
   rw[hM]
   simp only[wA,seval,d1J,o12,hab,d1H,hop,d5Q,d5P,d5O,d5L,a1C]
 by_cases o13:e.op=13
 ·obtain⟨a,b,hab⟩:=d5R he (.inr (.inr (.inl o13)))
  by_cases hop:a.op=2
  ·by_cases hb:b.op=1
   ·skip
    cases hl:Ky.look a.name ns with
    |none =>
     have hM:e4L ns e len=4:=by unfold e4L e4K;simp [o13,hab,hb,hop,hl]
     rw[hM]
     simp only[wA,seval,d1J,o13,hab,d1H,hb,hop,d5Q,d5P,d5O,d5L,a1C,hF,e4F hl]
    |some s =>
     obtain⟨j,nm',hf,hj⟩:=e4H hl
     have hjl:j < ns.length:=(g5O.1 hj).1
     have cj:¬((j:Nat):Int) < 0:=by omega
     have hR:e4L ns e len=e4J s b.val (-1) len:=by unfold e4L e4K;simp [o13,hab,hb,hop,hl]
     rw[hR]
     cases hlo:s.loop with
     |false =>
      rw[e7D hlo]
      simp only[wA,seval,d1J,o13,hab,d1H,hb,hop,d5Q,d5P,d5O,d5L,a1C,hF,hf,cj,g4Z,hjl,g5Y,g5P,hj,g7F,hlo]
     |true =>
      by_cases h2:s.low > IntKind.i64.wrap (s.high - 1)
      ·rw[e7E hlo h2]
       simp only[wA,seval,d1J,o13,hab,d1H,hb,hop,d5Q,d5P,d5O,d5L,a1C,hF,hf,cj,g4Z,hjl,g5Y,g5P,hj,g7F,hlo,h2]
      by_cases h3:b.val > 10000000
      ·rw[e7F hlo h2 h3]
       simp only[wA,seval,d1J,o13,hab,d1H,hb,hop,d5Q,d5P,d5O,d5L,a1C,hF,hf,cj,g4Z,hjl,g5Y,g5P,hj,g7F,hlo,h2,h3]
      by_cases h4:IntKind.i64.wrap (s.low+IntKind.i64.wrap ((-1) * IntKind.i64.wrap b.val)) < 0
      ·rw[e7G hlo h2 h3 (.inl h4)]
       simp only[wA,seval,d1J,o13,hab,d1H,hb,hop,d5Q,d5P,d5O,d5L,a1C,hF,hf,cj,g4Z,hjl,g5Y,g5P,hj,g7F,hlo,h2,h3,h4]
      by_cases h5:IntKind.i64.wrap (IntKind.i64.wrap (s.high - 1)+IntKind.i64.wrap ((-1) * IntKind.i64.wrap b.val))>=len
      ·rw[e7G hlo h2 h3 (.inr h5)]
       simp only[wA,seval,d1J,o13,hab,d1H,hb,hop,d5Q,d5P,d5O,d5L,a1C,hF,hf,cj,g4Z,hjl,g5Y,g5P,hj,g7F,hlo,h2,h3,h4,h5]
      ·rw[e7H hlo h2 h3 h4 h5]
       simp only[wA,seval,d1J,o13,hab,d1H,hb,hop,d5Q,d5P,d5O,d5L,a1C,hF,hf,cj,g4Z,hjl,g5Y,g5P,hj,g7F,hlo,h2,h3,h4,h5]
   ·have hM:e4L ns e len=6:=by unfold e4L;simp [o13,hab,hb,hop]
    rw[hM]
    simp only[wA,seval,d1J,o13,hab,d1H,hb,hop,d5Q,d5P,d5O,d5L,a1C]
  ·have hM:e4L ns e len=6:=by unfold e4L;simp [o13,hab,hop]
   rw[hM]
   simp only[wA,seval,d1J,o13,hab,d1H,hop,d5Q,d5P,d5O,d5L,a1C]
 by_cases o2:e.op=2
 ·skip
  cases hl:Ky.look e.name ns with
  |none =>
   have hM:e4L ns e len=4:=by unfold e4L e4K;simp [o1,o12,o13,o2,hl]
   rw[hM]
   simp only[wA,seval,d1J,o1,o12,o13,o2,d5Q,d5P,d5O,d5L,a1C,hF,e4F hl]
  |some s =>
   obtain⟨j,nm',hf,hj⟩:=e4H hl
   have hjl:j < ns.length:=(g5O.1 hj).1
   have cj:¬((j:Nat):Int) < 0:=by omega
   have hR:e4L ns e len=e4J s (0:Int) 0 len:=by unfold e4L e4K;simp [o1,o12,o13,o2,hl]
   rw[hR]
   cases hlo:s.loop with
   |false =>
    rw[e7D hlo]
    simp only[wA,seval,d1J,o1,o12,o13,o2,d5Q,d5P,d5O,d5L,a1C,hF,hf,cj,g4Z,hjl,g5Y,g5P,hj,g7F,hlo]
   |true =>
    by_cases h2:s.low > IntKind.i64.wrap (s.high - 1)
    ·rw[e7E hlo h2]
     simp only[wA,seval,d1J,o1,o12,o13,o2,d5Q,d5P,d5O,d5L,a1C,hF,hf,cj,g4Z,hjl,g5Y,g5P,hj,g7F,hlo,h2]
    by_cases h3:(0:Int) > 10000000
    ·rw[e7F hlo h2 h3]
     simp only[wA,seval,d1J,o1,o12,o13,o2,d5Q,d5P,d5O,d5L,a1C,hF,hf,cj,g4Z,hjl,g5Y,g5P,hj,g7F,hlo,h2,h3]
    by_cases h4:IntKind.i64.wrap (s.low+IntKind.i64.wrap (0 * IntKind.i64.wrap (0:Int))) < 0
    ·rw[e7G hlo h2 h3 (.inl h4)]
     simp only[wA,seval,d1J,o1,o12,o13,o2,d5Q,d5P,d5O,d5L,a1C,hF,hf,cj,g4Z,hjl,g5Y,g5P,hj,g7F,hlo,h2,h3,h4]
    by_cases h5:IntKind.i64.wrap (IntKind.i64.wrap (s.high - 1)+IntKind.i64.wrap (0 * IntKind.i64.wrap (0:Int)))>=len
    ·rw[e7G hlo h2 h3 (.inr h5)]
     simp only[wA,seval,d1J,o1,o12,o13,o2,d5Q,d5P,d5O,d5L,a1C,hF,hf,cj,g4Z,hjl,g5Y,g5P,hj,g7F,hlo,h2,h3,h4,h5]
    ·rw[e7H hlo h2 h3 h4 h5]
     simp only[wA,seval,d1J,o1,o12,o13,o2,d5Q,d5P,d5O,d5L,a1C,hF,hf,cj,g4Z,hjl,g5Y,g5P,hj,g7F,hlo,h2,h3,h4,h5]
 ·have hM:e4L ns e len=6:=by unfold e4L;simp [o1,o12,o13,o2]
  rw[hM]
  simp only[wA,seval,d1J,o1,o12,o13,o2,d5Q,d5P,d5O,d5L,a1C]
end Go.Proofs.YtdjcnfacjfnakaaGreat

/- The reference: operands. -/
namespace Go.Proofs.YtdjcnfacjfnakaaGreat
open Go.Pi Go.Lx Go.Ky
variable {gl:Nat->Option (List T)}
theorem g2F {fz:Fz} {ns:Ns} {nl fl el:Bool} {es:List Exp} (hln:es.length<=B20)
  (hrec:∀ a,a∈es->∀ K:PV->Prop,XcP F gl 41 [.agg (tEx a),.sl nl (ns.map e4D),.sl fl (fz.map tFz)] K ⟨⟩↔K (.t (.agg (tRr (exR fz ns a))))) (Q:Ex->S->Prop) :
  ∀ (l:List Exp) (i:Nat) (acc:List Rr) (v:PV) (ow:Ow) (fr:List PV) (sg:Sg),es.drop i=l->Gl 6 v ow (acc.map tRr)->acc.length=i ->
  b6S fr [(0,.t (.sl el (d1H es))),(1,.t (.sl nl (ns.map e4D))),(2,.t (.sl fl (fz.map tFz))),(8,v),(9,.t (.int .i64 i))] ->
  ((e4O fz ns l).2=0->∀ fr' sg' v' ow',Gl 6 v' ow' ((acc++(e4O fz ns l).1).map tRr)->a0A fr' 8=v'->Q (.exit 0) ⟨fr',sg',ow'⟩) ->
  ((e4O fz ns l).2≠0->∀ fr' sg' ow',b6S fr' [(6,.t (.sl true [])),(7,.t (.int .i64 (e4O fz ns l).2))]->Q .ret ⟨fr',sg',ow'⟩) ->
  Xl F gl c4G ⟨fr,sg,ow⟩ Q ⟨⟩:=by
 intro l
 induction l with
 |nil =>
  intro i acc v ow fr sg hd hg ha hf k1 k2
  have hd:=b6N hd
  simp only[b6U,b6T] at hf
  obtain⟨f0,f1,f2,f8,f9,-⟩:=hf
  refine Xl.step ?_
  simp only[c4G]
  have c1:¬((i:Int) < (es.length:Int)):=by omega
  simp only[wA,seval,f0,f9,c1,d1K]
  exact k1 (by rw[e4O]) _ _ v _ (by rw[e4O,g5C];exact hg) (by simp only[wQ,seval,f8])
 |cons x l ih =>
  intro i acc v ow fr sg hd hg ha hf k1 k2
  obtain⟨hx,hr,hi⟩:=b6M hd
  simp only[b6U,b6T] at hf
  obtain⟨f0,f1,f2,f8,f9,-⟩:=hf
  refine Xl.step ?_
  simp only[c4G]
  have c1:(i:Int) < (es.length:Int):=by omega
  have hb:B20=1100000:=rfl
  have hw1:=d5F hi (show es.length<=281474976710656 by omega)
  have hq:=λK=>hrec x (g6K hx) K
  simp only[d1J] at hq
  by_cases he:(exR fz ns x).err=0
  ·obtain⟨v',ow',ha',hg'⟩:=hg.app (bytes:=48) (e:=tRr (exR fz ns x)) rfl (by omega) (e7C (by simp only[g5Y];omega) (by simp only[g5Y];omega))
   simp only[tRr,he] at ha'
   simp only[wA,seval,f0,f1,f2,f8,f9,c1,hw1,d1K,g4Z,hi,d1L,hx,g7F,hq,d1J,he,b4J,a0C,a0L,T.isAgg,List.replicate,g5H,g5I,g5C,ha']
   have hop:(e4O fz ns (x::l))=if (e4O fz ns l).2≠0 then ([],(e4O fz ns l).2) else (exR fz ns x::(e4O fz ns l).1,0):=by rw[e4Q,if_neg (λh=>h he)]
   rw[hop] at k1 k2
   refine ih (i+1) (acc++[exR fz ns x]) v' ow' _ _ hr (by simpa [he] using hg') (by simp [ha]) (by simp only[wQ,seval,f0,f1,f2]) ?_ ?_
   ·intro h0 fr' sg' v2 ow2 hg2 hf2
    rw[if_neg (λh=>h h0)] at k1
    exact k1 rfl fr' sg' v2 ow2 (by simpa using hg2) hf2
   ·intro h0
    rw[if_pos h0] at k2
    exact k2 h0
  ·have hop:(e4O fz ns (x::l))=([],(exR fz ns x).err):=by rw[e4Q,if_pos he]
   rw[hop] at k1 k2
   simp only[wA,seval,f0,f1,f2,f8,f9,c1,hw1,d1K,g4Z,hi,d1L,hx,g7F,hq,d1J,he]
   exact k2 he _ _ _ (by simp only[wQ,seval])
theorem ok77 {fz:Fz} {ns:Ns} {nl fl el:Bool} {es:List Exp} (hln:es.length<=B20)
  (hrec:∀ a,a∈es->∀ K:PV->Prop,XcP F gl 41 [.agg (tEx a),.sl nl (ns.map e4D),.sl fl (fz.map tFz)] K ⟨⟩↔K (.t (.agg (tRr (exR fz ns a))))) {K:PV->Prop} :
  XcP F gl 77 [.sl el (d1H es),.sl nl (ns.map e4D),.sl fl (fz.map tFz)] K ⟨⟩↔K (.tup [.t (.sl (decide ((e4O fz ns es).2≠0)) ((e4O fz ns es).1.map tRr)),.t (.int .i64 (e4O fz ns es).2)]):=by
 refine Ret.iff (Ret.of F77 rfl ?_)
 simp only[c4H]
 simp only[wA,seval,b4J,a0C,a0L,T.isAgg,List.replicate,g5H,g5I,g5C]
 refine g2F hln hrec _ es 0 [] _ _ _ _ rfl (Gl.zero 6 _) rfl (by simp only[wQ,seval];first|done|exact⟨rfl,rfl⟩|rfl) ?_ ?_
 ·intro h0 fr' sg' v' ow' hg f8
  rw[h0]
  rcases hg with⟨rfl,hn⟩|⟨k,rfl,hk⟩
  ·rw[List.nil_append] at hn
   simp only[wA,seval,f8,c1C]
   rw[hn]
  ·simp only[wA,seval,f8,c1C]
 ·intro h0 fr' sg' ow' hf
  simp only[b6U,b6T] at hf
  obtain⟨f6,f7,-⟩:=hf
  have hn:(e4O fz ns es).1=[]:=by
   cases es with
   |nil=>rw[e4O]
   |cons a r =>
    rw[e4Q] at h0 ⊢
    split
    ·rfl
    ·split
     ·rfl
     ·rename_i h1 h2;rw[if_neg h1,if_neg h2] at h0;exact absurd rfl h0
  simp only[wA,seval,f6,f7,c1C]
  rw[hn]
  simp [h0]
end Go.Proofs.YtdjcnfacjfnakaaGreat

/- The reference: loops over operands and functions. -/
namespace Go.Proofs.YtdjcnfacjfnakaaGreat
open Go.Pi Go.Lx Go.Ky
variable {gl:Nat->Option (List T)}
abbrev acC (b s:Int):List PV:=[.t (.int .i64 1),.t (.int .i64 0),.t (.int .i64 0),.t (.int .i64 b),.t (.int .i64 s),.t (.int .i64 0)]
abbrev z6C:List PV:=[.t (.int .i64 0),.t (.int .i64 0),.t (.int .i64 0),.t (.int .i64 0),.t (.int .i64 0),.t (.int .i64 0)]
abbrev rC (r:Rr):List PV:=[.t (.int .i64 r.t.kind),.t (.int .i64 r.t.bits),.t (.int .i64 r.t.len),.t (.int .i64 r.bits),.t (.int .i64 r.steps),.t (.int .i64 r.err)]
theorem g2G (t:Ty):(t.kind == 2&&(t.bits == 0&&t.len == 0))=decide (t=d1G):=d5C t 2 0 0
set_option maxHeartbeats 1000000 in
theorem g2H {rs:List Rr} {x0 x1:Bool×List PV} {v2:PV} (hls:rs.length<=B20) {ow:Ow} (Q:Ex->S->Prop):∀ (l:List Rr) (i:Nat) (a:Ac) (fr:List PV),rs.drop i=l ->
  b6S fr [(2,v2),(3,.lp 0 0),(6,.lp 1 0),(11,.t (.sl false (rs.map tRr))),(13,.lp 2 0),(14,.t (.bool a.sc)),(15,.t (.bool a.bo)),(16,.t (.bool a.ui)),(17,.t (.bool a.sa)),(18,.t (.int .i64 i))] ->
  (∀ fr',b6S fr' [(2,v2),(3,.lp 0 0),(6,.lp 1 0),(11,.t (.sl false (rs.map tRr))),(13,.lp 2 0),(14,.t (.bool (l.foldl (acS (tyR rs 0)) a).sc)),(15,.t (.bool (l.foldl (acS (tyR rs 0)) a).bo)),(16,.t (.bool (l.foldl (acS (tyR rs 0)) a).ui)),(17,.t (.bool (l.foldl (acS (tyR rs 0)) a).sa))] ->
   Q (.exit 1) ⟨fr',[x0,x1,(false,acC (l.foldl (acS (tyR rs 0)) a).bits (l.foldl (acS (tyR rs 0)) a).steps)],ow⟩) ->
  Xl F gl c2L ⟨fr,[x0,x1,(false,acC a.bits a.steps)],ow⟩ Q ⟨⟩:=by
 intro l
 induction l with
 |nil =>
  intro i a fr hd hf k1
  have hd:=b6N hd
  simp only[b6U,b6T] at hf
  obtain⟨f2,f3,f6,f11,f13,f14,f15,f16,f17,f18,-⟩:=hf
  refine Xl.step ?_
  simp only[c2L]
  have c1:¬((i:Int) < (rs.length:Int)):=by omega
  simp only[wA,seval,f11,f18,c1,g5Y]
  exact k1 _ (by simp only[wQ,seval,f2,f3,f6,f11,f13,f14,f15,f16,f17,List.foldl_nil])
 |cons x l ih =>
  intro i a fr hd hf k1
  obtain⟨hx,hr,hi⟩:=b6M hd
  simp only[b6U,b6T] at hf
  obtain⟨f2,f3,f6,f11,f13,f14,f15,f16,f17,f18,-⟩:=hf
  refine Xl.step ?_
  simp only[c2L]
  have c1:(i:Int) < (rs.length:Int):=by omega
  have hb:B20=1100000:=rfl
  have hw1:=d5F hi (show rs.length<=281474976710656 by omega)
  obtain⟨r0,hr0⟩:∃ r0,rs[0]?=some r0:=⟨rs[0]'(by omega),g5M (by omega)⟩
  have ht0:tyR rs 0=r0.t:=by unfold tyR;rw[List.getD_eq_getElem?_getD,hr0];rfl
  have h0l:0 < rs.length:=by omega
  have hbq:=λt=>g2G t
  have hq0:=d5D x.t r0.t
  rw[List.foldl_cons] at k1
  obtain⟨ab,as,sc,bo,ui,sa⟩:=a
  simp only at f14 f15 f16 f17
  simp only[wA,seval,f2,f3,f6,f11,f13,f14,f15,f16,f17,f18,c1,hw1,g5Y,g4Z,hi,h0l,g5P,hx,hr0,g7F,g1V,g1U,g1X,g1Z,hbq,hq0]
  cases sc
  all_goals
   simp only[wA,seval,f2,f3,f6,f11,f13,f14,f15,f16,f17,f18,c1,hw1,g5Y,g4Z,hi,h0l,g5P,hx,hr0,g7F,g1V,g1U,g1X,g1Z,hbq,hq0]
   cases bo
  all_goals
   simp only[wA,seval,f2,f3,f6,f11,f13,f14,f15,f16,f17,f18,c1,hw1,g5Y,g4Z,hi,h0l,g5P,hx,hr0,g7F,g1V,g1U,g1X,g1Z,hbq,hq0]
   cases ui
  all_goals
   simp only[wA,seval,f2,f3,f6,f11,f13,f14,f15,f16,f17,f18,c1,hw1,g5Y,g4Z,hi,h0l,g5P,hx,hr0,g7F,g1V,g1U,g1X,g1Z,hbq,hq0]
   cases hs:d3N x.t
  all_goals
   try (simp only[wA,seval,f2,f3,f6,f11,f13,f14,f15,f16,f17,f18,c1,hw1,g5Y,g4Z,hi,h0l,g5P,hx,hr0,g7F,g1V,g1U,g1X,g1Z,hbq,hq0,hs])
   cases sa
  all_goals
   simp only[wA,seval,f2,f3,f6,f11,f13,f14,f15,f16,f17,f18,c1,hw1,g5Y,g4Z,hi,h0l,g5P,hx,hr0,g7F,g1V,g1U,g1X,g1Z,hbq,hq0,hs]
   refine ih (i+1) (acS (tyR rs 0) ⟨ab,as,_,_,_,_⟩ x) _ hr ?_ k1
   simp only[wQ,seval,f2,f3,f6,f11,f13,acS,hs,ht0,Bool.false_and,g4X,Bool.and_false,Bool.and_true]
end Go.Proofs.YtdjcnfacjfnakaaGreat

/- The reference: calls. -/
namespace Go.Proofs.YtdjcnfacjfnakaaGreat
open Go.Pi Go.Lx Go.Ky
variable {gl:Nat->Option (List T)}
theorem g2I {rs:List Rr} {fz:Fz} {fl:Bool} {p:Fu×Int} {kf:Nat} {x0 x2:Bool×List PV} (hls:rs.length<=B20) (hp:fz[kf]?=some p) (hkf:kf < fz.length) (hlp:rs.length=p.1.params.length) {ow:Ow} (Q:Ex->S->Prop) :
  ∀ (l:List Rr) (ps:List Pa) (i:Nat) (fr:List PV),rs.drop i=l->p.1.params.drop i=ps ->
  b6S fr [(2,.t (.sl fl (fz.map tFz))),(3,.lp 0 0),(6,.lp 1 0),(11,.t (.sl false (rs.map tRr))),(13,.lp 2 0),(19,.t (.int .i64 kf)),(20,.t (.int .i64 i))] ->
  (e4M l ps=true->∀ fr',b6S fr' [(2,.t (.sl fl (fz.map tFz))),(3,.lp 0 0),(6,.lp 1 0),(11,.t (.sl false (rs.map tRr))),(13,.lp 2 0),(19,.t (.int .i64 kf))]->Q (.exit 6) ⟨fr',[x0,(false,z6C),x2],ow⟩) ->
  (e4M l ps=false->∀ fr',a0A fr' 6=.lp 1 0->Q .ret ⟨fr',[x0,(false,rC (e4I 6)),x2],ow⟩) ->
  Xl F gl c2J ⟨fr,[x0,(false,z6C),x2],ow⟩ Q ⟨⟩:=by
 intro l
 induction l with
 |nil =>
  intro ps i fr hd hd2 hf k1 k2
  have hd:=b6N hd
  simp only[b6U,b6T] at hf
  obtain⟨f2,f3,f6,f11,f13,f19,f20,-⟩:=hf
  refine Xl.step ?_
  simp only[c2J]
  have c1:¬((i:Int) < (rs.length:Int)):=by omega
  simp only[wA,seval,f11,f20,c1,g5Y]
  exact k1 (by simp [e4M]) _ (by simp only[wQ,seval,f2,f3,f6,f11,f13,f19])
 |cons x l ih =>
  intro ps i fr hd hd2 hf k1 k2
  obtain⟨hx,hr,hi⟩:=b6M hd
  simp only[b6U,b6T] at hf
  obtain⟨f2,f3,f6,f11,f13,f19,f20,-⟩:=hf
  refine Xl.step ?_
  simp only[c2J]
  have c1:(i:Int) < (rs.length:Int):=by omega
  have hb:B20=1100000:=rfl
  have hw1:=d5F hi (show rs.length<=281474976710656 by omega)
  have hip:i < p.1.params.length:=by omega
  obtain⟨q,ps',hps⟩:∃ q ps',ps=q::ps':=by
   cases ps with
   |nil=>have:=b6N hd2;omega
   |cons q ps'=>exact⟨q,ps',rfl⟩
  subst hps
  obtain⟨hq,hr2,-⟩:=b6M hd2
  rw[e4M] at k1 k2
  cases hfit:e4C x.t q.ty with
  |true =>
   rw[hfit,g4X] at k1 k2
   simp only[wA,seval,f2,f3,f6,f11,f13,f19,f20,c1,hw1,g5Y,g4Z,hi,hip,hkf,g5P,hx,hq,hp,g7F,g2B,hfit,g4V]
   exact ih ps' (i+1) _ hr hr2 (by simp only[wQ,seval,f2,f3,f6,f11,f13,f19]) k1 k2
  |false =>
   rw[hfit,Bool.false_and] at k1 k2
   simp only[wA,seval,f2,f3,f6,f11,f13,f19,f20,c1,hw1,g5Y,g4Z,hi,hip,hkf,g5P,hx,hq,hp,g7F,g2B,hfit,g4U,g2A]
   exact k2 rfl _ (by simp only[wQ,seval,f6])
theorem g2J {nm:Nm} {l:List Rr} {a:Ac}:∀ {fz:Fz},fz.any (λp=>decide (p.1.name=nm))=false->e4N nm l a fz=e4I 4
 |[],_=>rfl
 |p::r,h=>by
  simp only[List.any_cons,g4W,g7J] at h
  rw[e4N,if_pos h.1]
  exact g2J h.2
set_option maxHeartbeats 1000000 in
theorem g2K {rs:List Rr} {fz:Fz} {fl:Bool} {op val:Int} {nm:Nm} {args:T} {a:Ac} (hls:rs.length<=B20) (hlf:fz.length<=B20) (hlp:∀ p,p∈fz->p.1.params.length<=B20) {ow:Ow} (Q:Ex->S->Prop) :
  ∀ (l:Fz) (i:Nat) (fr:List PV),fz.drop i=l ->
  b6S fr [(2,.t (.sl fl (fz.map tFz))),(3,.lp 0 0),(6,.lp 1 0),(11,.t (.sl false (rs.map tRr))),(13,.lp 2 0),(19,.t (.int .i64 i))] ->
  (l.any (λp=>decide (p.1.name=nm))=false->∀ fr',b6S fr' [(6,.lp 1 0)]->Q (.exit 4) ⟨fr',[(false,[.t (.int .i64 op),.t (.int .u64 val),.t (.str nm),.t args]),(false,z6C),(false,acC a.bits a.steps)],ow⟩) ->
  (l.any (λp=>decide (p.1.name=nm))=true->∀ fr' x2,a0A fr' 6=.lp 1 0->Q .ret ⟨fr',[(false,[.t (.int .i64 op),.t (.int .u64 val),.t (.str nm),.t args]),(false,rC (e4N nm rs a l)),x2],ow⟩) ->
  Xl F gl c2K ⟨fr,[(false,[.t (.int .i64 op),.t (.int .u64 val),.t (.str nm),.t args]),(false,z6C),(false,acC a.bits a.steps)],ow⟩ Q ⟨⟩:=by
 intro l
 induction l with
 |nil =>
  intro i fr hd hf k1 k2
  have hd:=b6N hd
  simp only[b6U,b6T] at hf
  obtain⟨f2,f3,f6,f11,f13,f19,-⟩:=hf
  refine Xl.step ?_
  simp only[c2K]
  have c1:¬((i:Int) < (fz.length:Int)):=by omega
  simp only[wA,seval,f2,f19,c1,g5Y]
  exact k1 rfl _ (by simp only[wQ,seval,f6])
 |cons p l ih =>
  intro i fr hd hf k1 k2
  obtain⟨hx,hr,hi⟩:=b6M hd
  simp only[b6U,b6T] at hf
  obtain⟨f2,f3,f6,f11,f13,f19,-⟩:=hf
  refine Xl.step ?_
  simp only[c2K]
  have c1:(i:Int) < (fz.length:Int):=by omega
  have hb:B20=1100000:=rfl
  have hw1:=d5F hi (show fz.length<=281474976710656 by omega)
  have hlq:=hlp p (g6K hx)
  rw[List.any_cons] at k1 k2
  by_cases hn:p.1.name=nm
  ·have hb1:(p.1.name == nm)=true:=by simpa using hn
   have hn':(p.1.name=nm)=True:=g7N hn
   rw[g7K hn,Bool.true_or] at k1 k2
   have hcR:e4N nm rs a (p::l)=if (rs.length:Int)≠(p.1.params.length:Int) then e4I 6 else if e4M rs p.1.params=false then e4I 6 else ⟨p.1.res,a.bits,e3Z (IntKind.i64.wrap (IntKind.i64.wrap (a.steps+1)+p.2)),0⟩:=by rw[e4N,if_neg (by simpa using hn)]
   rw[hcR] at k2
   by_cases hl:(rs.length:Int)=(p.1.params.length:Int)
   ·have hl':((rs.length:Int)=(p.1.params.length:Int))=True:=g7N hl
    rw[if_neg (λh=>h hl)] at k2
    simp only[wA,seval,f2,f3,f6,f11,f13,f19,c1,hw1,g5Y,g4Z,hi,g5P,hx,g7F,hn',hb1,hl']
    refine g2I hls hx hi (by omega) _ rs p.1.params 0 _ rfl rfl (by simp only[wQ,seval,f2,f3,f6,f11,f13,f19];first|done|exact⟨rfl,rfl⟩|rfl) ?_ ?_
    ·intro hfit fr' hf'
     simp only[b6U,b6T] at hf'
     obtain⟨f2,f3,f6,f11,f13,f19,-⟩:=hf'
     rw[hfit,if_neg (by simp)] at k2
     simp only[wA,seval,f2,f3,f6,f11,f13,f19,c1,hw1,g5Y,g4Z,hi,g5P,hx,g7F,g1U]
     exact k2 rfl _ _ (by simp only[wQ,seval,f6])
    ·intro hfit fr' f6
     rw[hfit,if_pos rfl] at k2
     exact k2 rfl _ _ f6
   ·have hl':((rs.length:Int)=(p.1.params.length:Int))=False:=g7M hl
    rw[if_pos hl] at k2
    simp only[wA,seval,f2,f3,f6,f11,f13,f19,c1,hw1,g5Y,g4Z,hi,g5P,hx,g7F,hn',hb1,hl',g2A]
    exact k2 rfl _ _ (by simp only[wQ,seval,f6])
  ·have hb1:(p.1.name == nm)=false:=by simpa using hn
   have hn':(p.1.name=nm)=False:=g7M hn
   rw[g7I hn,Bool.false_or] at k1 k2
   have hcR:e4N nm rs a (p::l)=e4N nm rs a l:=by rw[e4N,if_pos hn]
   rw[hcR] at k2
   simp only[wA,seval,f2,f3,f6,f11,f13,f19,c1,hw1,g5Y,g4Z,hi,g5P,hx,g7F,hn',hb1]
   exact ih (i+1) _ hr (by simp only[wQ,seval,f2,f3,f6,f11,f13]) k1 k2
end Go.Proofs.YtdjcnfacjfnakaaGreat
