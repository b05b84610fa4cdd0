/- The law of what Program returns. -/
import Derived.Test.YtcbgiabippcpaaaGreatDoorV4
import Derived.Test.YtcbgiabippcpaaaGreatDoorY4
import Derived.Test.YtcbgiabippcpaaaGreatDoorM34
import Derived.Test.YtcbgiabippcpaaaGreatDoorKx67
set_option maxRecDepth 10000
set_option linter.unusedVariables false
set_option linter.unusedSimpArgs false
namespace Go.Proofs.YtcbgiabippcpaaaGreatDoor
open Go.Pi Go.Lx Go.Ky
variable {gl:Nat→Option (List T)}
set_option maxHeartbeats 4000000 in
theorem law7 (hg:GlOk gl) (h2:gl 1=some (p10.map (T.int .u64))) (s:List UInt8) (hs:s.length≤140737488355328):Ret F gl 7 [.str s] (.t (.bool true)):=by
 refine Ret.of F7 rfl ?_
 simp only[ir7]
 have ha:=fun K=>ok8 (gl:=gl) hg (K:=K)
 have hP:=fun t n (hn:12 * (d8N t).1.length+20≤n) K=>ok9 (gl:=gl) hg t hn (K:=K)
 by_cases h0:(s.length:Int) > 3000
 ·have h0':((s.length:Int) > 3000)=True:=h4V h0
  simp only[wA,seval,reduceCtorEq,reduceIte,ha,h0']
 have h0':((s.length:Int) > 3000)=False:=h4U h0
 have hP1:=hP s fuX (e9B s)
 have hpr:=pr_b fuX s
 obtain⟨⟨p,q,e⟩,hE⟩:∃ r,prN fuX s=r:=⟨_,rfl⟩
 unfold prV at hP1
 rw[hE] at hP1 hpr
 have hpr:PgR p:=hpr
 simp only at hP1
 by_cases he:e=0
 ·subst he
  obtain⟨hv,ho,hc,hf,h3⟩:=g6M (by omega) (by show 40000≤200000;omega) hE
  have hz:PgSz p:=⟨fun f h=>⟨(hpr.fs f h).bd,(hpr.fs f h).rt⟩,hpr.bd⟩
  have hP2:=hP (g3O p) (fuX+wP p) (h3W (e9B _) (Nat.le_add_right _ _))
  unfold prV at hP2
  rw[h3 _ (h3S _ _)] at hP2
  simp only at hP2
  have hF:=fun K=>ok16 (gl:=gl) h2 ho hz (fun _=>by omega) (K:=K)
  have eF:g9Y p=.tup [.t (.str (g3O p)),.t (.int .i64 0)]:=by
   unfold g9Y
   rw[if_neg (fun h=>h hv),if_neg (by omega)]
  rw[eF] at hF
  have hV:=ok17 (gl:=gl) hv ho hz
  have hS:=ok11 (gl:=gl) hpr
  simp only[wA,seval,reduceCtorEq,reduceIte,ha,h0',hP1,hV,hF,hP2,hS]
 ·have hp:=g6N hE he
  subst hp
  have he':(e=0)=False:=h4U he
  have hS:∀ K,XcP F gl 11 [.agg [.sl true [],.sl true [],.sl true []],.agg [.sl true [],.sl true [],.sl true []]] K ⟨⟩↔K (.t (.bool true)):=ok11 (gl:=gl) (p:=zPg) hpr
  have hP3:∀ K,XcP F gl 9 [.str s] K ⟨⟩↔K (.tup [.t (.agg [.sl true [],.sl true [],.sl true []]),.t (.int .i64 q),.t (.int .i64 e)]):=hP1
  simp only[wA,seval,reduceCtorEq,reduceIte,ha,h0',hP3,he',hS]
theorem h0E (hg:GlOk gl) (h2:gl 1=some (p10.map (T.int .u64))):∀ xs,b4Z (fun _=>[]) 140737488355328 [(false,[.str])] xs→∃ n sg ow,a1Q F gl n 7 (xs.map .t) [] []=some (.t (.bool true),sg,ow):=by
 intro xs h
 obtain⟨x,r,rfl,hx,h⟩:=d0J h
 obtain rfl:=d0K h
 obtain⟨a,rfl,ha⟩:=d0H (d0I hx)
 exact CallP.law (law7 hg h2 a ha)
end Go.Proofs.YtcbgiabippcpaaaGreatDoor
