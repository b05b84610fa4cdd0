/- Contracts: the value of an operator, a list, a hash, a choice, a call. -/
import Derived.Test.YtdjcnfacjfnakaaGreatU8
import Derived.Test.YtdjcnfacjfnakaaGreatKx81
set_option maxRecDepth 10000
set_option linter.unusedVariables false
set_option linter.unusedSimpArgs false
namespace Go.Proofs.YtdjcnfacjfnakaaGreat
open Go.Pi Go.Lx Go.Ky Go.Lib
variable {gl:Nat→Option (List T)}
def f7K (sg:Sg) (v:PV) (vs:List Vl):Prop:=(vs=[]∧∃ k,v=.own k 3 [])∨(vs≠[]∧∃ a,v=.ls a 0 vs.length 3∧sg[a]?=some (false,cV vs))
def f7L (gl:Nat→Option (List T)) (p:Int) (fa fs:Fs) (Φ:Fi):Prop:=∀ (nm:Nm) (f:Fu),Ky.look nm fs=some f→Ky.look nm fa=some f∧∀ (sg:Sg) (r fm:Nat) (fl:Bool) (ow:Ow) (vs:List Vl) (v:PV),sg[r]?=some (cR p fm fl)→sg[fm]?=some (true,iFu fa)→f7K sg v vs→vs.length≤B20→PsOk f.params vs →
  CallE F gl 116 [.lp r 0,.t (.agg (tFu f)),v] sg ow fun x sg' ow'=>x=.t (.agg (tV (Φ nm vs fl).1))∧sg'[r]?=some (cR p fm (Φ nm vs fl).2)∧Fr r sg sg'
theorem f7M (sg:Sg) (ow:Ow) (n:Nat) (h:n≤B20):∃ v r ow',b6N false sg ow 3 40 [.sl true [],.bool false,.int .i64 0] (.t (.int .i64 n)) (.t (.int .i64 n))=some (v,sg++r,ow')∧((n=0∧∃ k,v=.own k 3 [])∨(0 < n∧v=.ls sg.length 0 n 3))∧(0 < n→(sg++r)[sg.length]?=some (false,f5K [] n)):=by
 have hb:B20=1100000:=rfl
 have hr:a0N n 40=true:=by unfold a0N;simp only[g6B];omega
 by_cases h0:n=0
 ·subst h0
  exact⟨_,[],_,by simp [b6N,hr];exact⟨rfl,rfl⟩,.inl ⟨rfl,_,rfl⟩,fun h=>absurd h (by omega)⟩
 ·refine⟨_,[(false,(List.replicate n zV).flatten.map PV.t)],ow,?_,.inr ⟨by omega,rfl⟩,fun _=>?_⟩
  ·have h1:¬(n:Int)=0:=by omega
   simp [b6N,hr]
   exact h0
  ·rw[List.getElem?_concat_length,f5L]
theorem f7N {p:Int} (hk:known p=true) {fa fs:Fs} {ns:Ns} {Φ:Fi} (hΦ:FiOk fs Φ) (hR:f7L gl p fa fs Φ) {e:Exp} (o2:e.op≠2) (o8:e.op≠8) (hxo:ExpOk e) (hsz:szE e≤B20) (heb:exB e=true) (hrec:∀ a,a∈e.args→f7G gl p fa fs ns Φ a):f7G gl p fa fs ns Φ e:=by
 intro sg r fm m fl sc ow w hr hf hm hsc he
 have hP:evV (oF p) Φ sc e fl=opV (oF p) Φ e.op e.val e.name (f2C (oF p) Φ sc e.args fl).1 (f2C (oF p) Φ sc e.args fl).2:=by rw[f2D,if_neg o2,if_neg o8]
 rw[hP]
 rw[d5U,if_neg o8] at he
 simp only at he
 have e1:(d5T fs ns e.args w).1.2=0:=by
  by_cases c:(d5T fs ns e.args w).1.2≠0
  ·rw[if_pos c] at he;exact absurd he c
  ·simpa using c
 rw[if_neg (by simpa using e1)] at he
 have hmr:m≠r:=fun h=>by rw[h,hr] at hm;cases hm
 have hfr:fm≠r:=fun h=>by rw[h,hr] at hf;cases hf
 have hml:=d6P hm
 have hrl:=d6P hr
 have hfl:=d6P hf
 have hn:e.args.length≤B20:=(d7T hsz).1
 have hb20:B20=1100000:=rfl
 have hb47:B47=140737488355328:=rfl
 refine XcE.of F84 rfl ?_
 simp only[c7N]
 simp only[wA,seval,reduceCtorEq,reduceIte,d3D,o2,o8,d3E]
 obtain⟨v,rr,ow1,hmk,hv,hcel⟩:=f7M (sg++[(false,[.t (.int .i64 e.op),.t (.int .u64 e.val),.t (.str e.name),.t (.sl e.nl (d3B e.args))]),(false,[PV.t (.sl true []),.t (.bool false),.t (.int .i64 0)])]) ow e.args.length hn
 rw[hmk]
 (simp only[wA,seval,reduceCtorEq,reduceIte,d3D,o2,o8,d3E,g3N])
 have hvl:(sg++[(false,[PV.t (.int .i64 e.op),.t (.int .u64 e.val),.t (.str e.name),.t (.sl e.nl (d3B e.args))]),(false,[PV.t (.sl true []),.t (.bool false),.t (.int .i64 0)])]).length=sg.length+2:=by simp
 rw[hvl] at hv
 rw[hvl,g3N] at hcel
 have hv':0 < e.args.length→v=.ls (sg.length+2) 0 e.args.length 3:=fun h=>by
  rcases hv with⟨h0,_⟩|⟨_,h1⟩
  ·omega
  ·exact h1
 refine f7H (p:=p) (fa:=fa) (fs:=fs) (ns:=ns) (Φ:=Φ) (fm:=fm) (sgB:=sg++((false,[PV.t (.int .i64 e.op),.t (.int .u64 e.val),.t (.str e.name),.t (.sl e.nl (d3B e.args))])::(false,[PV.t (.sl true []),.t (.bool false),.t (.int .i64 0)])::rr)) (a:=sg.length+2) (b4:=sg.length) (b6:=sg.length+1) hrec (by omega) hsc (b1U hf) (b1U hm) (by omega) (by omega) (by omega) hmr hfr hv' _ e.args 0 [] w fl _ _ _ rfl (by omega) rfl (Fr2.refl _ _ _) (fun h=>by simpa using hcel h) (b1U hr) e1 (by simp only[wQ,Nat.reduceEqDiff,reduceIte];first|done|exact⟨rfl,rfl⟩|rfl) ?_
 intro fr' sg' ow' hg ha hc hf'
 simp only[b9L,b9K] at hf'
 obtain⟨f0,f2,f4,f6,f9,-⟩:=hf'
 have j4:=hg.get (i:=sg.length) (v:=(false,[PV.t (.int .i64 e.op),.t (.int .u64 e.val),.t (.str e.name),.t (.sl e.nl (d3B e.args))])) (by simp) (by omega) (by omega)
 have j6:=hg.get (i:=sg.length+1) (v:=(false,[PV.t (.sl true []),.t (.bool false),.t (.int .i64 0)])) (by rw[g3V (by omega)];simp) (by omega) (by omega)
 have hVs:=f3A (O:=oF p) (Φ:=Φ) (sc:=sc) (fs:=fs) (ns:=ns) e.args (fun a ha w fl he=>f3E (f6Z hk) hΦ hsc a ((f3B hxo).2.2 a ha) (d7N heb a ha) w fl he) w fl e1
 have hlen:=hVs.len
 rw[f2Z _ _ _ _ e1] at hlen
 simp only[g5C] at ha
 generalize hq:f2C (oF p) Φ sc e.args fl=q at *
 obtain⟨vs,fl'⟩:=q
 simp only at ha hc hlen hVs
 have hFr0:Fr r sg sg':=Fr2.fr (a:=sg.length+2) (Fr.of (.app _ _)) hg (by omega)
 have hff:=hFr0.get hf hfr
 have harg:f7K sg' v vs:=by
  by_cases h0:vs=[]
  ·rw[h0] at hlen
   rcases hv with⟨_,h1⟩|⟨h1,_⟩
   ·exact .inl ⟨h0,h1⟩
   ·simp at hlen;omega
  ·have hp:0 < e.args.length:=by rw[←hlen];exact List.length_pos_iff.2 h0
   exact .inr ⟨h0,_,by rw[hlen];exact hv' hp,ha hp⟩
 by_cases o5:e.op=5
 ·have hP5:opV (oF p) Φ e.op e.val e.name vs fl'=Φ e.name vs fl':=by unfold opV;rw[if_pos o5]
  rw[hP5]
  obtain⟨f,hlk,hps⟩:∃ f,Ky.look e.name fs=some f∧PsOk f.params vs:=by
   unfold opM at he
   rw[if_neg (by omega),if_neg (by omega),if_neg o2,if_pos o5] at he
   simp only at he
   unfold d5M at he
   cases hx:Ky.look e.name fs with
   |none=>rw[hx] at he;cases he
   |some f =>
    rw[hx] at he
    simp only at he
    split at he
    ·cases he
    ·rename_i c
     split at he
     ·rename_i cf
      exact⟨f,rfl,f2T _ _ _ hVs (by omega) cf⟩
     ·cases he
  obtain⟨hlf,hcall⟩:=hR e.name f hlk
  have hcl:=hcall sg' r fm fl' ow' vs v hc hff harg (by omega) hps
  simp only[tFu] at hcl
  simp only[wA,seval,reduceCtorEq,reduceIte,f0,f2,f4,f6,f9,j4,o5,hc,hff,d7J,d7I,d7H,d7G,a1I,a1D,iFu,d6S,hlf,g5T,Option.isSome_some]
  refine CallE.mono hcl ?_
  rintro y sg2 ow2 ⟨rfl,hc2,hfr2⟩
  have j6':=hfr2.get j6 (by omega)
  simp only[wA,seval,reduceCtorEq,reduceIte,f0,f2,f4,f6,f9,j6',d6O j6',d6Z,cellsP,setRange,Go.Pi.one]
  refine⟨?_,?_⟩
  ·rw[g4E (by omega)];exact hc2
  ·exact Fr2.fr (a:=sg.length+1) (Fr.refl r sg) ((Fr2.of (hFr0.trans hfr2)).set _) (by omega)
 have hels:∀ K,XcP F gl 118 [.sl false (vs.map fun v=>tV v)] K ⟨⟩↔K (elV vs):=fun K=>f7E (by omega) (fun x hx=>(hVs.mem x hx).choose_spec.pos)
 by_cases o7:e.op=7
 ·have hP7:opV (oF p) Φ e.op e.val e.name vs fl'=(⟨vs.map Ky.fst,true,0⟩,fl'):=by unfold opV;rw[if_neg o5,if_neg (by omega),if_pos o7]
  rw[hP7]
  have hne:vs≠[]:=by
   have hb:=(f3C heb).2
   rw[o7] at hb
   unfold opB at hb
   simp at hb
   intro h
   rw[h] at hlen
   simp at hlen
   omega
  have hp:0 < e.args.length:=by rw[←hlen];exact List.length_pos_iff.2 hne
  have hvv:=hv' hp
  subst hvv
  have hfz:=f5S (ha hp) hne
  rw[hlen] at hfz
  have hev:elV vs=.t (.sl false (uL (vs.map Ky.fst))):=by unfold elV;rw[if_neg hne]
  have ha':=ha hp
  have ma:=d6P ha'
  have j6':(sg'.set (sg.length+2) (false,[]))[sg.length+1]?=some (false,[PV.t (.sl true []),.t (.bool false),.t (.int .i64 0)]):=by rw[g4E (by omega)];exact j6
  have hb1:fillP [PV.t (.sl true []),.t (.bool false),.t (.int .i64 0)] [(0,1,PV.t (.sl false (uL (vs.map Ky.fst)))),(1,1,PV.t (.bool true))]=some [PV.t (.sl false (uL (vs.map Ky.fst))),.t (.bool true),.t (.int .i64 0)]:=rfl
  have hb2:mkAgg [PV.t (.sl false (uL (vs.map Ky.fst))),.t (.bool true),.t (.int .i64 0)]=.t (.agg [.sl false (uL (vs.map Ky.fst)),.bool true,.int .i64 0]):=rfl
  simp only[wA,seval,reduceCtorEq,reduceIte,f0,f2,f4,f6,f9,j4,o5,o7,a1K,hfz,hels,hev,d7I,List.zip_cons_cons,List.zip_nil_left,hb1,hb2,j6',d6O j6',d6Z,cellsP,setRange,Go.Pi.one]
  refine⟨?_,?_⟩
  ·rw[g4E (by omega),g4E (by omega)];exact hc
  ·exact Fr2.fr (a:=sg.length+1) (Fr.refl r sg) ((Fr2.of (Fr2.fr (a:=sg.length+2) hFr0 ((Fr2.refl r (sg.length+2) sg').set _) (by have:=hFr0.1;omega))).set _) (by omega)
 by_cases o20:e.op=20
 ·have h3:e.args.length=3:=by
   have hb:=(f3C heb).2
   rw[o20] at hb
   unfold opB at hb
   simp at hb
   omega
  have hp:0 < e.args.length:=by omega
  have hvv:=hv' hp
  subst hvv
  have ha':=ha hp
  obtain⟨x,y,z,rfl⟩:∃ x y z,vs=[x,y,z]:=by
   have h4:vs.length=3:=by omega
   match vs,h4 with
   |[x,y,z],_=>exact⟨x,y,z,rfl⟩
  have hx0:=f4R (hVs.mem x (by simp)).choose_spec.pos
  have hP20:opV (oF p) Φ e.op e.val e.name [x,y,z] fl'=(if Ky.fst x≠0 then y else z,fl'):=by unfold opV;rw[if_neg o5,if_neg (by omega),if_neg o7,if_pos o20];rfl
  rw[hP20]
  replace ha':sg'[sg.length+2]?=some (false,[PV.t (.sl false (uL x.els)),.t (.bool x.arr),.t (.int .i64 x.num),.t (.sl false (uL y.els)),.t (.bool y.arr),.t (.int .i64 y.num),.t (.sl false (uL z.els)),.t (.bool z.arr),.t (.int .i64 z.num)]):=ha'
  by_cases c0:Ky.fst x=0
  ·rw[if_neg (by simpa using c0)]
   simp only[wA,seval,reduceCtorEq,reduceIte,f0,f2,f4,f6,f9,j4,o5,o7,o20,h3,ha',f4O,hx0,c0,g5V,j6,d6O j6,d6Z,cellsP,setRange,Go.Pi.one]
   refine⟨?_,?_⟩
   ·rw[g4E (by omega)];exact hc
   ·exact Fr2.fr (a:=sg.length+1) (Fr.refl r sg) ((Fr2.of hFr0).set _) (by omega)
  ·rw[if_pos (by simpa using c0)]
   simp only[wA,seval,reduceCtorEq,reduceIte,f0,f2,f4,f6,f9,j4,o5,o7,o20,h3,ha',f4O,hx0,c0,g5V,j6,d6O j6,d6Z,cellsP,setRange,Go.Pi.one]
   refine⟨?_,?_⟩
   ·rw[g4E (by omega)];exact hc
   ·exact Fr2.fr (a:=sg.length+1) (Fr.refl r sg) ((Fr2.of hFr0).set _) (by omega)
 have hx:=f3B hxo
 have ma2:sg.length+1 < sg'.length:=d6P j6
 have hs:=fun n K=>f6N (gl:=gl) n (K:=K)
 have hcs:(sg'.set (sg.length+2) (false,[]))[r]?=some (cR p fm fl'):=by rw[g4E (by omega)];exact hc
 have j4s:(sg'.set (sg.length+2) (false,[]))[sg.length]?=some (false,[PV.t (.int .i64 e.op),.t (.int .u64 e.val),.t (.str e.name),.t (.sl e.nl (d3B e.args))]):=by rw[g4E (by omega)];exact j4
 have j6s:(sg'.set (sg.length+2) (false,[]))[sg.length+1]?=some (false,[PV.t (.sl true []),.t (.bool false),.t (.int .i64 0)]):=by rw[g4E (by omega)];exact j6
 have hcs2:∀ y,((sg'.set (sg.length+2) (false,[])).set (sg.length+1) y)[r]?=some (cR p fm fl'):=fun y=>by rw[g4E (by omega)];exact hcs
 have j4s2:∀ y,((sg'.set (sg.length+2) (false,[])).set (sg.length+1) y)[sg.length]?=some (false,[PV.t (.int .i64 e.op),.t (.int .u64 e.val),.t (.str e.name),.t (.sl e.nl (d3B e.args))]):=fun y=>by rw[g4E (by omega)];exact j4s
 by_cases o6:e.op=6
 ·have hP6:opV (oF p) Φ e.op e.val e.name vs fl'=(f1Y (hash p e.val (vs.map Ky.fst)),fl'):=by unfold opV;rw[if_neg o5,if_pos o6];rfl
  rw[hP6]
  have hne:vs≠[]:=by
   have hb:=(f3C heb).2
   rw[o6] at hb
   unfold opB at hb
   simp at hb
   intro h
   rw[h] at hlen
   simp at hlen
   omega
  have hp:0 < e.args.length:=by rw[←hlen];exact List.length_pos_iff.2 hne
  have hvv:=hv' hp
  subst hvv
  have hfz:=f5S (ha hp) hne
  rw[hlen] at hfz
  have hev:elV vs=.t (.sl false (uL (vs.map Ky.fst))):=by unfold elV;rw[if_neg hne]
  have hh:∀ K,XcP F gl 117 [.int .u64 p,.int .u64 e.val,.sl false (uL (vs.map Ky.fst))] K ⟨⟩↔K (.t (.int .u64 (hash p e.val (vs.map Ky.fst)))):=fun K=>e7K hx.1 (by rw[g4L];omega) hVs.fsts
  rw[o6] at j4 j4s
  simp only[o6] at j4s2
  simp only[wA,seval,reduceCtorEq,reduceIte,f0,f2,f4,f6,f9,j4,j4s,o5,o6,hc,hcs,a1K,hfz,hels,hev,d7J,d7I,d7H,d7G,a1I,hh,hs,j6s,hcs2,j4s2,d6O j6s,d6Z,cellsP,setRange,Go.Pi.one]
  exact Fr2.fr (a:=sg.length+1) (Fr.refl r sg) ((Fr2.of (Fr2.fr (a:=sg.length+2) hFr0 ((Fr2.refl r (sg.length+2) sg').set _) (by have:=hFr0.1;omega))).set _) (by omega)
 have hPr:opV (oF p) Φ e.op e.val e.name vs fl'=(f1Y (f2A (oF p) e.op e.val (vs.map Ky.fst)),fl'):=by unfold opV;rw[if_neg o5,if_neg o6,if_neg o7,if_neg o20]
 rw[hPr]
 by_cases hne:vs=[]
 ·subst hne
  obtain⟨k,rfl⟩:∃ k,v=.own k 3 []:=by
   rcases hv with⟨_,h1⟩|⟨h1,_⟩
   ·exact h1
   ·simp at hlen;omega
  have hels0:∀ K,XcP F gl 118 [.sl false []] K ⟨⟩↔K (.own 0 1 []):=fun K=>hels K
  have hca:=fun v ow=>f7C (gl:=gl) hk hc e hx.1 (xs:=[]) (by simpa using hlen) (by simp) (f3C heb).2 o2 o5 o6 o7 o8 o20 (v:=v) (fun h=>absurd rfl h) ow
  simp only[d3D] at hca
  simp only[wA,seval,reduceCtorEq,reduceIte,f0,f2,f4,f6,f9,j4,o5,o6,o7,o20,hc,a1K,hels0,d7J,d7I,d7H,d7G,a1I]
  refine CallE.mono (hca _ _) ?_
  rintro y sg2 ow2 ⟨rfl,hg2,rfl⟩
  have j42:=hg2.get j4
  have j62:=hg2.get j6
  have j43:∀ y,(sg2.set (sg.length+1) y)[sg.length]?=some (false,[PV.t (.int .i64 e.op),.t (.int .u64 e.val),.t (.str e.name),.t (.sl e.nl (d3B e.args))]):=fun y=>by rw[g4E (by omega)];exact j42
  simp only[wA,seval,reduceCtorEq,reduceIte,f0,f2,f4,f6,f9,j4,j42,hs,j62,j43,d7J,d7I,d7H,d7G,a1I,d6O j62,d6Z,cellsP,setRange,Go.Pi.one]
  refine⟨?_,?_⟩
  ·rw[g4E (by omega)];exact hg2.get hc
  ·exact Fr2.fr (a:=sg.length+1) (Fr.refl r sg) ((Fr2.of (hFr0.trans (Fr.of hg2))).set _) (by omega)
 ·have hp:0 < e.args.length:=by rw[←hlen];exact List.length_pos_iff.2 hne
  have hvv:=hv' hp
  subst hvv
  have hfz:=f5S (ha hp) hne
  rw[hlen] at hfz
  have hev:elV vs=.t (.sl false (uL (vs.map Ky.fst))):=by unfold elV;rw[if_neg hne]
  have hca:=fun ow=>f7C (gl:=gl) hk hcs e hx.1 (xs:=vs.map Ky.fst) (by rw[g4L];exact hlen) hVs.fsts (f3C heb).2 o2 o5 o6 o7 o8 o20 (v:=.t (.sl false (uL (vs.map Ky.fst)))) (fun _=>rfl) ow
  simp only[d3D] at hca
  simp only[wA,seval,reduceCtorEq,reduceIte,f0,f2,f4,f6,f9,j4,j4s,o5,o6,o7,o20,hc,hcs,a1K,hfz,hels,hev,d7J,d7I,d7H,d7G,a1I]
  refine CallE.mono (hca _) ?_
  rintro y sg2 ow2 ⟨rfl,hg2,rfl⟩
  have j42:=hg2.get j4s
  have j62:=hg2.get j6s
  have j43:∀ y,(sg2.set (sg.length+1) y)[sg.length]?=some (false,[PV.t (.int .i64 e.op),.t (.int .u64 e.val),.t (.str e.name),.t (.sl e.nl (d3B e.args))]):=fun y=>by rw[g4E (by omega)];exact j42
  simp only[wA,seval,reduceCtorEq,reduceIte,f0,f2,f4,f6,f9,j4s,j42,hs,j62,j43,d7J,d7I,d7H,d7G,a1I,d6O j62,d6Z,cellsP,setRange,Go.Pi.one]
  refine⟨?_,?_⟩
  ·rw[g4E (by omega)];exact hg2.get hcs
  ·exact Fr2.fr (a:=sg.length+1) (Fr.refl r sg) ((Fr2.of ((Fr2.fr (a:=sg.length+2) hFr0 ((Fr2.refl r (sg.length+2) sg').set _) (by have:=hFr0.1;omega)).trans (Fr.of hg2))).set _) (by omega)
theorem f7O {p:Int} (hk:known p=true) {fa fs:Fs} {ns:Ns} {Φ:Fi} (hΦ:FiOk fs Φ) (hR:f7L gl p fa fs Φ):∀ e,ExpOk e→szE e≤B20→exB e=true→f7G gl p fa fs ns Φ e:=by
 refine Exp.ind fun e ih hxo hsz heb=>?_
 have hrec:∀ a,a∈e.args→f7G gl p fa fs ns Φ a:=fun a ha=>ih a ha ((f3B hxo).2.2 a ha) ((d7T hsz).2 a ha) (d7N heb a ha)
 by_cases o2:e.op=2
 ·exact f7I o2
 by_cases o8:e.op=8
 ·obtain⟨a,b,hab⟩:=d7K heb (.inl o8)
  exact f7J hk hΦ o8 hab hxo heb (hrec a (by rw[hab];simp))
 ·exact f7N hk hΦ hR o2 o8 hxo hsz heb hrec
end Go.Proofs.YtdjcnfacjfnakaaGreat

/- Contracts: statements are executed. -/
namespace Go.Proofs.YtdjcnfacjfnakaaGreat
open Go.Pi Go.Lx Go.Ky Go.Lib
variable {gl:Nat→Option (List T)}
abbrev cSt (s:St):List PV:=[.t (.int .i64 s.kind),.t (.str s.name),.t (.bool s.typed),.t (.int .i64 s.ty.kind),.t (.int .i64 s.ty.bits),.t (.int .i64 s.ty.len),.t (.int .i64 s.ex.op),.t (.int .u64 s.ex.val),.t (.str s.ex.name),.t (.sl s.ex.nl (d3B s.ex.args)),.t (.int .i64 s.lo),.t (.int .i64 s.hi),.t (.sl s.nl (d3G s.body))]
def f7P (gl:Nat→Option (List T)) (p:Int) (fa fs:Fs) (Φ:Fi) (ls:List St) (nl:Bool):Prop :=
 ∀ (ns:Ns) (w:Int) (sg:Sg) (r fm m:Nat) (fl:Bool) (sc:Sc) (ow:Ow),sg[r]?=some (cR p fm fl)→sg[fm]?=some (true,iFu fa)→fm≠m→sg[m]?=some (true,iV sc)→(fl=false→ScOk ns sc)→(d5X fs ls ns w).1=0 →
  CallE F gl 82 [.lp r 0,.t (.sl nl (d3G ls)),.mp m] sg ow fun x sg' ow'=>x=.t (.bool (!(f2H (oF p) Φ ls sc fl).2))∧sg'[r]?=some (cR p fm (f2H (oF p) Φ ls sc fl).2)∧sg'[m]?=some (true,iV (f2H (oF p) Φ ls sc fl).1)∧Fr2 r m sg sg'
def f7Q (gl:Nat→Option (List T)) (p:Int) (fa fs:Fs) (Φ:Fi) (s:St):Prop :=
 ∀ (ns:Ns) (w:Int) (sg:Sg) (r fm m:Nat) (sc:Sc) (ow:Ow),sg[r]?=some (cR p fm false)→sg[fm]?=some (true,iFu fa)→fm≠m→sg[m]?=some (true,iV sc)→ScOk ns sc→(stM fs s ns w).1=0 →
  CallE F gl 113 [.lp r 0,.t (.agg (tSt s)),.mp m] sg ow fun x sg' ow'=>sg'[r]?=some (cR p fm (stV (oF p) Φ s sc false).2)∧sg'[m]?=some (true,iV (stV (oF p) Φ s sc false).1)∧Fr2 r m sg sg'
theorem f7R {p:Int} (hk:known p=true) {fa fs:Fs} {Φ:Fi} (hΦ:FiOk fs Φ) (hR:f7L gl p fa fs Φ) {ls:List St} {nl:Bool} (hls:ls.length≤B20) (hst:∀ s,s∈ls→StOk s∧stB s=true∧szS s≤B20) (hrec:∀ s,s∈ls→s.kind=3→f7Q gl p fa fs Φ s) {r fm m:Nat} (hmr:m≠r) (hfr:fm≠r) (hfm:fm≠m) {sg0:Sg} (hf0:sg0[fm]?=some (true,iFu fa)) (Q:Ex→S→Prop):∀ (l:List St) (i:Nat) (ns:Ns) (w:Int) (fl:Bool) (sc:Sc) (fr:List PV) (sg:Sg) (ow:Ow),ls.drop i=l→Fr2 r m sg0 sg→sg[r]?=some (cR p fm fl)→sg[m]?=some (true,iV sc)→(fl=false→ScOk ns sc)→(d5X fs l ns w).1=0 →
  b9J fr [(0,.lp r 0),(2,.mp m),(10,.t (.sl nl (d3G ls))),(11,.t (.int .i64 ls.length)),(12,.t (.int .i64 i))] →
  (∀ fr' sg' ow',Fr2 r m sg0 sg'→sg'[r]?=some (cR p fm (f2H (oF p) Φ l sc fl).2)→sg'[m]?=some (true,iV (f2H (oF p) Φ l sc fl).1)→b9J fr' [(0,.lp r 0)]→Q (.exit 0) ⟨fr',sg',ow'⟩) →
  ((f2H (oF p) Φ l sc fl).2=true→∀ fr' sg' ow',Fr2 r m sg0 sg'→sg'[r]?=some (cR p fm true)→sg'[m]?=some (true,iV (f2H (oF p) Φ l sc fl).1)→a0A fr' 6=.t (.bool false)→Q .ret ⟨fr',sg',ow'⟩) →
  Xl F gl c7J ⟨fr,sg,ow⟩ Q ⟨⟩:=by
 intro l
 induction l with
 |nil =>
  intro i ns w fl sc fr sg ow hd hg hc hm hsc he hf k1 k2
  have hd:=b9E hd
  simp only[b9L,b9K] at hf
  obtain⟨f0,f2,f10,f11,f12,-⟩:=hf
  refine Xl.step ?_
  simp only[c7J]
  have c1:¬((i:Int) < (ls.length:Int)):=by omega
  have hem:f2H (oF p) Φ [] sc fl=(sc,fl):=by rw[f2H]
  rw[hem] at k1
  simp only[wA,seval,reduceCtorEq,reduceIte,f0,f2,f10,f11,f12,c1]
  exact k1 _ _ _ hg hc hm (by simp only[wQ,Nat.reduceEqDiff,reduceIte,f0])
 |cons x l ih =>
  intro i ns w fl sc fr sg ow hd hg hc hm hsc he hf k1 k2
  obtain⟨hx,hr,hi⟩:=b9D hd
  simp only[b9L,b9K] at hf
  obtain⟨f0,f2,f10,f11,f12,-⟩:=hf
  refine Xl.step ?_
  simp only[c7J]
  have c1:(i:Int) < (ls.length:Int):=by omega
  have hw1:=d7A hi (show ls.length≤281474976710656 by have:B20=1100000:=rfl;omega)
  have hff:=hg.get hf0 hfr hfm
  have lc:=d6P hc
  have lm:=d6P hm
  have lf:=d6P hff
  cases fl with
  |true =>
   rw[f3K] at k2
   simp only[wA,seval,reduceCtorEq,reduceIte,f0,f2,f10,f11,f12,c1,hw1,g3K,hi,d3K,hx,g5V,d3I,d7D lc,hc]
   exact k2 rfl _ _ _ (hg.app _) (by rw[d7D lc];exact hc) (by rw[d7D lm];exact hm) (by simp only[wQ,Nat.reduceEqDiff,reduceIte])
  |false =>
   obtain⟨he1,he2⟩:=f5Z he
   obtain⟨hxo,hxb,hxs⟩:=hst x (g4Y hx)
   have hsc0:=hsc rfl
   have hnext:=f3P (f6Z hk) hΦ x hxo hxb ns sc w hsc0 he1
   rw[f5Y] at k1 k2
   have hsc1:(stV (oF p) Φ x sc false).2=false→ScOk (stM fs x ns w).2.1 (stV (oF p) Φ x sc false).1:=fun h=>hnext.resolve_left (by rw[h];simp)
   have hB20:B20=1100000:=rfl
   by_cases h3:x.kind=3
   ·have hq:=fun t=>hrec x (g4Y hx) h3 ns w (sg++t) r fm m sc ow (b1U hc) (b1U hff) hfm (b1U hm) hsc0 he1
    simp only[d3I,h3] at hq
    generalize hQ:stV (oF p) Φ x sc false=q at *
    obtain⟨sc1,fl1⟩:=q
    simp only[wA,seval,reduceCtorEq,reduceIte,f0,f2,f10,f11,f12,c1,hw1,g3K,hi,d3K,hx,g5V,d3I,d7D lc,hc,h3]
    refine CallE.mono (hq _) ?_
    rintro y sg' ow' ⟨hc',hm',hfr'⟩
    simp only[wA,seval,reduceCtorEq,reduceIte,f0,f2,f10,f11,f12,hw1]
    exact ih (i+1) _ _ fl1 sc1 _ _ _ hr ((hg.app _).trans hfr') hc' hm' hsc1 he2 (by simp only[wQ,Nat.reduceEqDiff,reduceIte,f0,f2,f10,f11];first|done|rfl) k1 k2
   have he3:=f5T h3 he1
   have hxe:=d8F hxb h3
   have hv:=f3E (f6Z hk) hΦ hsc0 x.ex (d8H hxo) hxe w false he3
   have hq:=fun t=>f7O (gl:=gl) hk hΦ hR x.ex (d8H hxo) (g5L (d4K x) hxs) hxe (sg++t) r fm m false sc ow w (b1U hc) (b1U hff) (b1U hm) hsc0 he3
   simp only[d3D] at hq
   by_cases h2:x.kind=2
   ·have hV:stV (oF p) Φ x sc false=(sc,(evV (oF p) Φ sc x.ex false).2 || decide (Ky.fst (evV (oF p) Φ sc x.ex false).1=0)):=by rw[f2I,if_neg (by omega),if_pos h2]
    rw[hV] at k1 k2 hsc1
    generalize evV (oF p) Φ sc x.ex false=q at *
    obtain⟨v,fl1⟩:=q
    have hx0:=f4R hv.pos
    simp only at hsc1 k1 k2
    simp only[wA,seval,reduceCtorEq,reduceIte,f0,f2,f10,f11,f12,c1,hw1,g3K,hi,d3K,hx,g5V,d3I,d7D lc,hc,h2]
    refine CallE.mono (hq _) ?_
    rintro y sg' ow' ⟨rfl,hc',hfr'⟩
    have hm':=hfr'.get (b1U hm) hmr
    have lc':=d6P hc'
    by_cases h0:Ky.fst v=0
    ·rw[show(fl1 || decide (Ky.fst v=0))=true by simp [h0]] at k1 k2 hsc1
     simp only[wA,seval,reduceCtorEq,reduceIte,f0,f2,f10,f11,f12,hw1,f4O,hx0,h0,g5V,hc',d6O hc']
     refine ih (i+1) _ _ true sc _ _ _ hr (hg.trans (Fr2.of ((Fr.of (.app _ _)).trans (hfr'.set _)))) (by rw[g4F lc']) (by rw[g4E (Ne.symm hmr)];exact hm') (fun e=>by cases e) he2 (by simp only[wQ,Nat.reduceEqDiff,reduceIte,f0,f2,f10,f11];first|done|rfl) k1 k2
    ·rw[show(fl1 || decide (Ky.fst v=0))=fl1 by simp [h0]] at k1 k2 hsc1
     simp only[wA,seval,reduceCtorEq,reduceIte,f0,f2,f10,f11,f12,hw1,f4O,hx0,h0,g5V]
     refine ih (i+1) _ _ fl1 sc _ _ _ hr (hg.trans (Fr2.of ((Fr.of (.app _ _)).trans hfr'))) hc' hm' hsc1 he2 (by simp only[wQ,Nat.reduceEqDiff,reduceIte,f0,f2,f10,f11];first|done|rfl) k1 k2
   have h1:=f3O hxb h3 h2
   have hV:stV (oF p) Φ x sc false=(f1Z x.name (evV (oF p) Φ sc x.ex false).1 sc,(evV (oF p) Φ sc x.ex false).2 || (x.typed&&!inR (evV (oF p) Φ sc x.ex false).1.els x.ty)):=by rw[f2I,if_pos h1]
   rw[hV] at k1 k2 hsc1
   have hty:=fun ht=>f5U h3 h2 ht hxb he1
   generalize (exM fs ns x.ex w).1.1=ty at *
   generalize evV (oF p) Φ sc x.ex false=q at *
   obtain⟨v,fl1⟩:=q
   simp only at hsc1 k1 k2 hv
   simp only[wA,seval,reduceCtorEq,reduceIte,f0,f2,f10,f11,f12,c1,hw1,g3K,hi,d3K,hx,g5V,d3I,d7D lc,hc,h1]
   refine CallE.mono (hq _) ?_
   rintro y sg' ow' ⟨rfl,hc',hfr'⟩
   have hm':=hfr'.get (b1U hm) hmr
   have lc':=d6P hc'
   have lm':=d6P hm'
   have j8:=hfr'.get (i:=sg.length) (x:=(false,[PV.t (.int .i64 1),.t (.str x.name),.t (.bool x.typed),.t (.int .i64 x.ty.kind),.t (.int .i64 x.ty.bits),.t (.int .i64 x.ty.len),.t (.int .i64 x.ex.op),.t (.int .u64 x.ex.val),.t (.str x.ex.name),.t (.sl x.ex.nl (d3B x.ex.args)),.t (.int .i64 x.lo),.t (.int .i64 x.hi),.t (.sl x.nl (d3G x.body))])) (by simp) (by omega)
   have l8:=d6P j8
   have hmp:=f5C (fun v=>T.agg (tV v)) x.name v sc
   cases ht:x.typed with
   |false =>
    rw[ht] at k1 k2 hsc1 j8
    rw[show(fl1 || (false&&!inR v.els x.ty))=fl1 by simp] at k1 k2 hsc1
    simp only[wA,seval,reduceCtorEq,reduceIte,f0,f2,f10,f11,f12,hw1,d7D l8,j8,d7D lm',hm',a1E,d6S,iV,hmp]
    refine ih (i+1) _ _ fl1 _ _ _ _ hr ?_ ?_ ?_ hsc1 he2 (by simp only[wQ,Nat.reduceEqDiff,reduceIte,f0,f2,f10,f11];first|done|rfl) k1 k2
    ·exact Fr2.set ((hg.app _).trans (Fr2.of (hfr'.app _))) _
    ·rw[g4E hmr,d7D lc'];exact hc'
    ·rw[g4F (by rw[g4I];omega)]
   |true =>
    obtain⟨t1,t2⟩:=hty ht
    rw[ht] at k1 k2 hsc1 j8
    have hlen:v.els.length≤B20:=by
     have h64:=f3M t2
     have:=hv.2.2.1
     rw[t1] at this
     unfold f2K at this
     split at this <;> omega
    have hir:=fun K=>f6S (gl:=gl) hlen hv.2.2.2 (f5V t2) (K:=K)
    cases hin:inR v.els x.ty with
    |true =>
     rw[hin] at k1 k2 hsc1 hir
     rw[show(fl1 || (true&&!true))=fl1 by simp] at k1 k2 hsc1
     simp only[wA,seval,reduceCtorEq,reduceIte,f0,f2,f10,f11,f12,hw1,d7D l8,j8,d7D lm',hm',a1E,d6S,iV,hmp,hir]
     refine ih (i+1) _ _ fl1 _ _ _ _ hr ?_ ?_ ?_ hsc1 he2 (by simp only[wQ,Nat.reduceEqDiff,reduceIte,f0,f2,f10,f11];first|done|rfl) k1 k2
     ·exact Fr2.set ((hg.app _).trans (Fr2.of (hfr'.app _))) _
     ·rw[g4E hmr,d7D lc'];exact hc'
     ·rw[g4F (by rw[g4I];omega)]
    |false =>
     rw[hin] at k1 k2 hsc1 hir
     rw[show(fl1 || (true&&!false))=true by simp] at k1 k2 hsc1
     have hcc:∀ t,(sg'++t)[r]?=some (cR p fm fl1):=fun t=>b1U hc'
     have e8:∀ t y,((sg'++t).set r y)[sg.length]?=sg'[sg.length]?:=fun t y=>by rw[g4E (by omega),d7D l8]
     have e9:∀ z t y,((sg'++z::t).set r y)[sg'.length]?=some z:=fun z t y=>by rw[g4E (by omega)];simp
     have em:∀ t y,((sg'++t).set r y)[m]?=some (true,iV sc):=fun t y=>by rw[g4E (Ne.symm hmr),d7D lm',hm']
     simp only[wA,seval,reduceCtorEq,reduceIte,f0,f2,f10,f11,f12,hw1,d7D l8,j8,d7D lc',hc',d6O (hcc _),e8,e9,em,a1E,d6S,iV,hmp,hir]
     refine ih (i+1) _ _ true _ _ _ _ hr ?_ ?_ ?_ (fun e=>by cases e) he2 (by simp only[wQ,Nat.reduceEqDiff,reduceIte,f0,f2,f10,f11];first|done|rfl) k1 k2
     ·exact Fr2.set ((hg.app _).trans (Fr2.of ((hfr'.app _).set _))) _
     ·rw[g4E hmr,g4F (by rw[g4I];omega)]
     ·rw[g4F (by rw[List.length_set,g4I];omega)]
theorem ok82 {p:Int} (hk:known p=true) {fa fs:Fs} {Φ:Fi} (hΦ:FiOk fs Φ) (hR:f7L gl p fa fs Φ) {ls:List St} {nl:Bool} (hls:ls.length≤B20) (hst:∀ s,s∈ls→StOk s∧stB s=true∧szS s≤B20) (hrec:∀ s,s∈ls→s.kind=3→f7Q gl p fa fs Φ s):f7P gl p fa fs Φ ls nl:=by
 intro ns w sg r fm m fl sc ow hc hf hfm hm hsc he
 have hmr:m≠r:=fun h=>by rw[h,hc] at hm;cases hm
 have hfr:fm≠r:=fun h=>by rw[h,hc] at hf;cases hf
 refine XcE.of F82 rfl ?_
 simp only[c7K]
 simp only[wA,seval,reduceCtorEq,reduceIte,d3J]
 refine f7R (nl:=nl) hk hΦ hR hls hst hrec hmr hfr hfm hf _ ls 0 ns w fl sc _ _ _ rfl (Fr2.refl _ _ _) hc hm hsc he (by simp only[wQ,Nat.reduceEqDiff,reduceIte];first|done|exact⟨rfl,rfl⟩|rfl) ?_ ?_
 ·intro fr' sg' ow' hg hc' hm' hf'
  simp only[b9L,b9K] at hf'
  obtain⟨f0,-⟩:=hf'
  simp only[wA,seval,reduceCtorEq,reduceIte,f0,hc']
  exact⟨hm',hg⟩
 ·intro h fr' sg' ow' hg hc' hm' f6
  rw[h]
  simp only[wA,seval,reduceCtorEq,reduceIte,f6]
  exact⟨hc',hm',hg⟩
end Go.Proofs.YtdjcnfacjfnakaaGreat
