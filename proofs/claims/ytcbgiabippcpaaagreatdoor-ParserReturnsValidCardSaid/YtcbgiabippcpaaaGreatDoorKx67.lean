/- KX 50: the canonical text of an expression, in pieces (tokens and blanks); what the parser does with it, level by level. No program in sight. -/
import Derived.Test.YtcbgiabippcpaaaGreatDoorKx43
import Derived.Test.YtcbgiabippcpaaaGreatDoorKx43
import Derived.Test.YtcbgiabippcpaaaGreatDoorKx43
import Derived.Test.YtcbgiabippcpaaaGreatDoorKx43
set_option linter.unusedSimpArgs false
set_option linter.unusedVariables false
namespace Go.Ky
open Go.Pi Go.Lx
abbrev Pc:=Option Tok
def sy (t:Nm):Tok:=⟨4,t,0,0⟩
def kw (t:Nm):Tok:=⟨2,t,0,0⟩
def nmT (t:Nm):Tok:=⟨1,t,0,0⟩
def nu (v:Nat):Tok:=⟨3,d1M v,v,0⟩
def tks (l:List Pc):List Tok:=l.filterMap id
theorem f5R (a b:List Pc):tks (a++b)=tks a++tks b:=List.filterMap_append
theorem f5S (t:Tok) (l:List Pc):tks (some t::l)=t::tks l:=rfl
theorem f5T (l:List Pc):tks (none::l)=tks l:=rfl
def f5U (op:Int):Nat:=if op=20 then 1 else if op=19 then 2 else if op=18 then 3 else if op=14∨op=15∨op=16∨op=17 then 4 else if op=12∨op=13 then 5 else if op=11 then 6 else if op=9∨op=10 then 7 else if op=8 then 8 else 9
def f5V (op:Int):Tok:=if op=19 then kw [111,114] else if op=18 then kw [97,110,100] else if op=14 then sy [61,61] else if op=15 then sy [33,61] else if op=16 then sy [60] else if op=17 then sy [60,61] else if op=12 then sy [43] else if op=13 then sy [45] else sy [42]
structure Ar where
 lv:Nat
 op:Int
 ps:List Pc
def f5W (r:Nat) (a:Ar):List Pc:=if a.lv < r then some (sy [40])::(a.ps++[some (sy [41])]) else a.ps
def f5X:List (List Pc)→List Pc
 |[]=>[]
 |x::r=>x++r.flatMap fun y=>some (sy [44])::none::y
def a0 (l:List Ar):Ar:=l.getD 0 ⟨9,0,[]⟩
def a1 (l:List Ar):Ar:=l.getD 1 ⟨9,0,[]⟩
def a2 (l:List Ar):Ar:=l.getD 2 ⟨9,0,[]⟩
def f5Y (op v:Int) (n:Nm) (as:List Ar):List Pc :=
 if op=1 then [some (nu v.toNat)]
 else if op=2 then [some (nmT n)]
 else if op=3 then [some (kw [116,114,117,101])]
 else if op=4 then [some (kw [102,97,108,115,101])]
 else if op=5 then some (nmT n)::some (sy [40])::(f5X (as.map (f5W 1))++[some (sy [41])])
 else if op=6 then some (kw [104,97,115,104])::some (sy [40])::some (nu v.toNat)::some (sy [59])::none::(f5X (as.map (f5W 1))++[some (sy [41])])
 else if op=7 then some (sy [91])::(f5X (as.map (f5W 1))++[some (sy [93])])
 else if op=8 then f5W 8 (a0 as)++some (sy [91])::(f5W 1 (a1 as)++[some (sy [93])])
 else if op=9 then some (sy [45])::f5W (if (a0 as).op=9 then 8 else 7) (a0 as)
 else if op=10 then some (kw [110,111,116])::none::f5W 7 (a0 as)
 else if op=20 then f5W 2 (a0 as)++none::some (sy [63])::none::(f5W 1 (a1 as)++none::some (sy [58])::none::f5W 1 (a2 as))
 else f5W (if f5U op=4 then 5 else f5U op) (a0 as)++none::some (f5V op)::none::f5W (f5U op+1) (a1 as)
mutual
def f5Z:Exp→List Pc
 |.mk op v n _ l=>f5Y op v n (f6A l)
def f6A:List Exp→List Ar
 |[]=>[]
 |e::r=>⟨f5U e.op,e.op,f5Z e⟩::f6A r
end
def ar (e:Exp):Ar:=⟨f5U e.op,e.op,f5Z e⟩
theorem f6B (l:List Exp):f6A l=l.map ar:=by
 induction l with
 |nil=>rfl
 |cons e r ih=>rw[f6A,ih];rfl
theorem f6C (e:Exp):f5Z e=f5Y e.op e.val e.name (e.args.map ar):=by
 cases e;rw[f5Z,f6B];rfl
mutual
def f6D:Exp→Exp
 |.mk op v n _ l=>.mk op v n l.isEmpty (f6E l)
def f6E:List Exp→List Exp
 |[]=>[]
 |e::r=>f6D e::f6E r
end
theorem f6F (l:List Exp):f6E l=l.map f6D:=by
 induction l with
 |nil=>rfl
 |cons e r ih=>rw[f6E,ih];rfl
theorem f6G (e:Exp):f6D e=.mk e.op e.val e.name e.args.isEmpty (e.args.map f6D):=by
 cases e;rw[f6D,f6F];rfl
mutual
def zn:Exp→Nat
 |.mk _ _ _ _ l=>1+zns l
def zns:List Exp→Nat
 |[]=>0
 |e::r=>zn e+zns r
end
theorem f6H (e:Exp):zn e=1+zns e.args:=by cases e;rw[zn];rfl
def stt (s:Ps) (ts:List Tok):Ps:={ s with ts:=ts }
theorem f6I {s:Ps} {t:Tok} {r:List Tok} (h:r≠[]):d5F (stt s (t::r))=stt s r:=by
 unfold d5F stt
 simp only
 rw[if_pos (by have:=List.length_pos_iff.2 h;simp only[h2M];omega)]
 rfl
theorem f6J {s:Ps} {x:Nm} {t:Tok} {r:List Tok} (h:r≠[]) (ha:atT x t=true):d5H x (stt s (t::r))=stt s r:=by
 unfold d5H
 rw[if_pos (by show atT x t=true;exact ha),f6I h]
abbrev hdd (l:List Tok):Tok:=l.headD d5C
theorem f6K (x:Nm) (s:Ps) (l:List Tok):atM x (stt s l)=atT x (hdd l):=rfl
def Fo (lv:Nat) (h:Tok):Prop:=(∀ j,lv≤j→j≤4→opG h (ops j)=none)∧atT [91] h=false∧atT [40] h=false
theorem Fo.up {lv:Nat} {h:Tok} (f:Fo lv h):Fo (lv+1) h:=⟨fun j hj=>f.1 j (by omega),f.2⟩
def Hd (X:List Tok):Prop:=∃ t r,X=t::r∧atT [45] t=false∧atT [110,111,116] t=false
def PRc (m:Nat) (X:List Tok) (v:Exp):Prop:=∀ (s:Ps) (rest:List Tok) (n:Nat),rest≠[]→m≤n→atT [40] (hdd rest)=false→d5Q n (stt s (X++rest))=(v,stt s rest)
def IXc (m k:Nat) (X:List Tok) (v:Exp):Prop:=∀ (s:Ps) (rest:List Tok) (n:Nat),rest≠[]→m≤n→atT [40] (hdd rest)=false→∃ n',n≤n'+k∧unM n (stt s (X++rest))=d5P n' v (stt s rest)
def UMc (m:Nat) (X:List Tok) (v:Exp):Prop:=∀ (s:Ps) (rest:List Tok) (n:Nat),rest≠[]→m≤n→Fo 5 (hdd rest)→unM n (stt s (X++rest))=(v,stt s rest)
def BMc (lv m:Nat) (X:List Tok) (v:Exp):Prop:=∀ (s:Ps) (rest:List Tok) (n:Nat),rest≠[]→m≤n→Fo lv (hdd rest)→d5N n lv (stt s (X++rest))=(v,stt s rest)
def BLc (lv m k:Nat) (X:List Tok) (v:Exp):Prop:=∀ (s:Ps) (rest:List Tok) (n:Nat),rest≠[]→m≤n→Fo (lv+1) (hdd rest)→∃ n',n≤n'+k∧d5N n lv (stt s (X++rest))=d5O n' lv v (stt s rest)
def EMc (m:Nat) (X:List Tok) (v:Exp):Prop:=∀ (s:Ps) (rest:List Tok) (n:Nat),rest≠[]→m≤n→Fo 0 (hdd rest)→atT [63] (hdd rest)=false→d5M n (stt s (X++rest))=(v,stt s rest)
theorem f6L {m n:Nat} (h:m+1≤n):∃ k,n=k+1∧m≤k:=⟨n - 1,by omega,by omega⟩
theorem f6M {m:Nat} {X:List Tok} {v:Exp} (hx:Hd X) (h:PRc m X v):IXc (m+1) 1 X v:=by
 intro s rest n hr hn hp
 obtain⟨n0,rfl,h0⟩:=f6L hn
 obtain⟨t,r,rfl,h1,h2⟩:=hx
 refine⟨n0,h3V _,?_⟩
 have:=h s rest n0 hr h0 hp
 rw[unM,if_neg (by show ¬atT [45] t=true;rw[h1];simp),if_neg (by show ¬atT [110,111,116] t=true;rw[h2];simp),this]
theorem f6N {n:Nat} {v:Exp} {s:Ps} {rest:List Tok} (h:atT [91] (hdd rest)=false):d5P n v (stt s rest)=(v,stt s rest):=by
 cases n with
 |zero=>rw[d5P]
 |succ n=>rw[d5P,if_neg (by rw[f6K,h];simp)]
theorem f6O {m k:Nat} {X:List Tok} {v:Exp} (h:IXc m k X v):UMc m X v:=by
 intro s rest n hr hn hf
 obtain⟨n',_,e⟩:=h s rest n hr hn hf.2.2
 rw[e,f6N hf.2.1]
theorem f6P {m:Nat} {X:List Tok} {v:Exp} (h:UMc m X v):BMc 5 (m+1) X v:=by
 intro s rest n hr hn hf
 obtain⟨n0,rfl,h0⟩:=f6L hn
 rw[d5N,if_pos rfl,h s rest n0 hr h0 hf]
theorem f6Q {lv m:Nat} {X:List Tok} {v:Exp} (hl:lv≤4) (h:BMc (lv+1) m X v):BLc lv (m+1) 1 X v:=by
 intro s rest n hr hn hf
 obtain⟨n0,rfl,h0⟩:=f6L hn
 refine⟨n0,h3V _,?_⟩
 rw[d5N,if_neg (by omega),h s rest n0 hr h0 hf]
theorem f6R {n lv:Nat} {v:Exp} {s:Ps} {rest:List Tok} (h:opG (hdd rest) (ops lv)=none):d5O n lv v (stt s rest)=(v,stt s rest):=by
 cases n with
 |zero=>rw[d5O]
 |succ n =>
  rw[d5O]
  have:opL lv (stt s rest)=none:=by unfold opL;rw[e1V];exact h
  rw[this]
theorem f6S {lv m k:Nat} {X:List Tok} {v:Exp} (hl:lv≤4) (h:BLc lv m k X v):BMc lv m X v:=by
 intro s rest n hr hn hf
 obtain⟨n',_,e⟩:=h s rest n hr hn hf.up
 rw[e,f6R (hf.1 lv (h3V _) hl)]
theorem f6T {m:Nat} {X:List Tok} {v:Exp} (h:BMc 0 m X v):EMc (m+1) X v:=by
 intro s rest n hr hn hf hq
 obtain⟨n0,rfl,h0⟩:=f6L hn
 rw[d5M,h s rest n0 hr h0 hf,if_neg (by rw[f6K,hq];simp)]
theorem f6U {m:Nat} {X:List Tok} {v:Exp} (h:EMc m X v):PRc (m+1) (sy [40]::(X++[sy [41]])) v:=by
 intro s rest n hr hn hp
 obtain⟨n0,rfl,h0⟩:=f6L hn
 have e:(sy [40]::(X++[sy [41]]))++rest=sy [40]::(X++sy [41]::rest):=by simp
 rw[e]
 have h1:=h s (sy [41]::rest) n0 (by simp) h0 ⟨by intro j _ hj;match j,hj with|0,_=>rfl|1,_=>rfl|2,_=>rfl|3,_=>rfl|4,_=>rfl,rfl,rfl⟩ rfl
 have hX:X++sy [41]::rest≠[]:=by simp
 rw[d5Q,if_neg (by show ¬(sy [40]).kind=3;decide),if_neg (by show ¬(sy [40]).kind=1;decide)]
 rw[if_neg (by show ¬atT _ (sy [40])=true;decide),if_neg (by show ¬atT _ (sy [40])=true;decide),if_neg (by show ¬atT _ (sy [40])=true;decide),if_neg (by show ¬atT _ (sy [40])=true;decide),if_pos (by show atT _ (sy [40])=true;decide)]
 rw[f6I hX,h1]
 simp only
 rw[f6J hr rfl]
structure Up (L m k:Nat) (X:List Tok) (v:Exp):Prop where
 ex:EMc m X v
 bm:∀ lv,lv≤4→lv+2≤L→BMc lv m X v
 bl:∀ lv,lv≤4→lv≠2→lv+2≤L→BLc lv m k X v
 um:7≤L→UMc m X v
 ix:8≤L→IXc m k X v
theorem EMc.weak {m m':Nat} {X:List Tok} {v:Exp} (h:EMc m X v) (hm:m≤m'):EMc m' X v:=fun s rest n a b c d=>h s rest n a (h3W hm b) c d
theorem BMc.weak {lv m m':Nat} {X:List Tok} {v:Exp} (h:BMc lv m X v) (hm:m≤m'):BMc lv m' X v:=fun s rest n a b c=>h s rest n a (h3W hm b) c
theorem UMc.weak {m m':Nat} {X:List Tok} {v:Exp} (h:UMc m X v) (hm:m≤m'):UMc m' X v:=fun s rest n a b c=>h s rest n a (h3W hm b) c
theorem BLc.weak {lv m m' k k':Nat} {X:List Tok} {v:Exp} (h:BLc lv m k X v) (hm:m≤m') (hk:k≤k'):BLc lv m' k' X v:=fun s rest n a b c=>by
 obtain⟨n',h1,h2⟩:=h s rest n a (h3W hm b) c
 exact⟨n',by omega,h2⟩
theorem IXc.weak {m m' k k':Nat} {X:List Tok} {v:Exp} (h:IXc m k X v) (hm:m≤m') (hk:k≤k'):IXc m' k' X v:=fun s rest n a b c=>by
 obtain⟨n',h1,h2⟩:=h s rest n a (h3W hm b) c
 exact⟨n',by omega,h2⟩
theorem f6V {X:List Tok} {v:Exp}:∀ (d lv m:Nat),lv+d≤5→BMc (lv+d) m X v→BMc lv (m+d) X v
 |0,lv,m,_,h=>h
 |d+1,lv,m,hl,h=>by
  have h1:=f6V d (lv+1) m (by omega) (by rw[Nat.add_right_comm];exact h)
  exact(f6S (by omega) (f6Q (by omega) h1)).weak (by omega)
theorem f6W {L m:Nat} {X:List Tok} {v:Exp} (hL:L≤5) (h:BMc L m X v) (lv:Nat) (hl:lv≤L):BMc lv (m+5) X v:=by
 have h1:=f6V (L - lv) lv m (by omega) (by rw[show lv+(L - lv)=L by omega];exact h)
 exact h1.weak (by omega)
theorem f6X {m k:Nat} {X:List Tok} {v:Exp} (h:EMc m X v):Up 1 m k X v:=⟨h,fun lv _ h=>by omega,fun lv _ _ h=>by omega,fun h=>by omega,fun h=>by omega⟩
theorem f6Y {L m k:Nat} {X:List Tok} {v:Exp} (hL:L≤5) (h:BMc L m X v) (hb:∀ lv,lv=L→lv≤4→lv≠2→BLc lv m k X v) (hu:L=5→UMc m X v):Up (L+2) (m+10) (k+10) X v where
 ex:=(f6T (f6W hL h 0 (by omega))).weak (by omega)
 bm lv h1 h2:=(f6W hL h lv (by omega)).weak (by omega)
 bl lv h1 h2 h3:=by
  by_cases e:lv=L
  ·exact(hb lv e h1 h2).weak (by omega) (by omega)
  ·exact(f6Q h1 (f6W hL h (lv+1) (by omega))).weak (by omega) (by omega)
 um h1:=(hu (by omega)).weak (by omega)
 ix h1:=by omega
theorem f6Z {lv m k:Nat} {X:List Tok} {v:Exp} (hl:lv≤4) (h:BLc lv m k X v):Up (lv+2) (m+10) (k+10) X v :=
 f6Y (by omega) (f6S hl h) (fun j e _ _=>by subst e;exact h) (fun h=>by omega)
theorem f7A {m k:Nat} {X:List Tok} {v:Exp} (h:UMc m X v):Up 7 (m+11) (k+10) X v:=by
 have:=f6Y (L:=5) (k:=k) (h3V _) (f6P h) (fun lv e h1=>by omega) (fun _=>h.weak (by omega))
 exact this
theorem f7B {m k:Nat} {X:List Tok} {v:Exp} (h:IXc m k X v):Up 8 (m+11) (k+10) X v:=by
 have u:=f7A (k:=k) (f6O h)
 exact⟨u.ex,fun lv h1 h2=>u.bm lv h1 (by omega),fun lv h1 h2 h3=>u.bl lv h1 h2 (by omega),fun _=>u.um (by omega),fun _=>h.weak (by omega) (by omega)⟩
theorem f7C {m:Nat} {X:List Tok} {v:Exp} (hx:Hd X) (h:PRc m X v):Up 9 (m+12) 11 X v:=by
 have u:=f7B (f6M hx h)
 exact⟨u.ex,fun lv h1 h2=>u.bm lv h1 (by omega),fun lv h1 h2 h3=>u.bl lv h1 h2 (by omega),fun _=>u.um (by omega),fun _=>u.ix (by omega)⟩
end Go.Ky

/- KX 51: the parser on the tokens of a canonical text: it finds the expression. -/
namespace Go.Ky
open Go.Pi Go.Lx
theorem f7D (t:Nm) (h:∀ x:Nm×Int,x∈ops 0++(ops 1++(ops 2++(ops 3++ops 4)))→x.1≠t) (h1:t≠[91]) (h2:t≠[40]):Fo 0 (sy t):=by
 have go:∀ l:List (Nm×Int),(∀ x∈l,x.1≠t)→opG (sy t) l=none:=by
  intro l
  induction l with
  |nil=>intro _;rfl
  |cons x r ih =>
   intro hx
   obtain⟨a,b⟩:=x
   rw[opG,if_neg,ih fun y hy=>hx y (h2Y _ hy)]
   intro q
   unfold atT sy at q
   simp only[h0S,h4S] at q
   exact hx (a,b) h2Z q.2.symm
 refine⟨fun j _ hj=>?_,?_,?_⟩
 ·match j,hj with
  |0,_=>exact go _ fun x hx=>h x (by simp [hx])
  |1,_=>exact go _ fun x hx=>h x (by simp [hx])
  |2,_=>exact go _ fun x hx=>h x (by simp [hx])
  |3,_=>exact go _ fun x hx=>h x (by simp [hx])
  |4,_=>exact go _ fun x hx=>h x (by simp [hx])
 ·unfold atT sy;simp [h1]
 ·unfold atT sy;simp [h2]
theorem f7E:Fo 0 (sy [41]):=f7D _ (by decide) (by decide) (by decide)
theorem f7F:Fo 0 (sy [93]):=f7D _ (by decide) (by decide) (by decide)
theorem f7G:Fo 0 (sy [44]):=f7D _ (by decide) (by decide) (by decide)
theorem f7H:Fo 0 (sy [63]):=f7D _ (by decide) (by decide) (by decide)
theorem f7I:Fo 0 (sy [58]):=f7D _ (by decide) (by decide) (by decide)
def f7J (l:List (List Tok×Exp)):List Tok:=l.flatMap fun p=>sy [44]::p.1
theorem f7K:∀ (l:List (List Tok×Exp)) (acc:List Exp) (s:Ps) (rest:List Tok) (n m:Nat),(∀ p,p∈l→EMc m p.1 p.2)→rest≠[]→Fo 0 (hdd rest)→atT [63] (hdd rest)=false→atT [44] (hdd rest)=false→m+l.length≤n →
  d5U n acc (stt s (f7J l++rest))=(acc++l.map (·.2),stt s rest)
 |[],acc,s,rest,n,m,_,hr,hf,hq,hc,hn=>by
  show d5U n acc (stt s rest)=_
  cases n with
  |zero=>rw[d5U];simp
  |succ n=>rw[d5U,if_neg (by rw[f6K,hc];simp)];simp
 |p::r,acc,s,rest,n,m,hp,hr,hf,hq,hc,hn=>by
  obtain⟨n0,rfl,h0⟩:=f6L (m:=m+r.length) (n:=n) (by simp only[h2M] at hn;omega)
  have e:f7J (p::r)++rest=sy [44]::(p.1++(f7J r++rest)):=by simp [f7J]
  have hne:f7J r++rest≠[]:=by simp [hr]
  have hne2:p.1++(f7J r++rest)≠[]:=by simp [hr]
  have hh:Fo 0 (hdd (f7J r++rest))∧atT [63] (hdd (f7J r++rest))=false:=by
   cases r with
   |nil=>exact⟨hf,hq⟩
   |cons q r=>exact⟨f7G,rfl⟩
  rw[e,d5U,if_pos (by show atT [44] (sy [44])=true;decide),f6I hne2,hp p h2Z s _ n0 hne (by omega) hh.1 hh.2]
  simp only
  rw[f7K r _ s rest n0 m (fun q hq=>hp q (h2Y _ hq)) hr hf hq hc (by omega)]
  simp
theorem f7L {p:List Tok×Exp} {l:List (List Tok×Exp)} {s:Ps} {rest:List Tok} {n m:Nat} (hp:∀ q,q∈p::l→EMc m q.1 q.2) (hr:rest≠[]) (hf:Fo 0 (hdd rest)) (hq:atT [63] (hdd rest)=false) (hc:atT [44] (hdd rest)=false) (hn:m+l.length+1≤n) :
  d5T n (stt s (p.1++(f7J l++rest)))=(p.2::l.map (·.2),stt s rest):=by
 obtain⟨n0,rfl,h0⟩:=f6L hn
 have hne:f7J l++rest≠[]:=by simp [hr]
 have hh:Fo 0 (hdd (f7J l++rest))∧atT [63] (hdd (f7J l++rest))=false:=by
  cases l with
  |nil=>exact⟨hf,hq⟩
  |cons q r=>exact⟨f7G,rfl⟩
 rw[d5T,hp p h2Z s _ n0 hne (by omega) hh.1 hh.2]
 simp only
 rw[f7K l _ s rest n0 m (fun q hq=>hp q (h2Y _ hq)) hr hf hq hc (by omega)]
 rfl
structure Pe (e:Exp):Prop where
 ex:EMc (64 * zn e) (tks (f5W 1 (ar e))) (f6D e)
 bm:∀ lv,lv≤4→BMc lv (64 * zn e) (tks (f5W (lv+2) (ar e))) (f6D e)
 bl:∀ lv,lv≤4→lv≠2→BLc lv (64 * zn e) (64 * zn e) (tks (f5W (lv+2) (ar e))) (f6D e)
 u7:UMc (64 * zn e) (tks (f5W 7 (ar e))) (f6D e)
 u8:UMc (64 * zn e) (tks (f5W 8 (ar e))) (f6D e)
 ix:IXc (64 * zn e) (64 * zn e) (tks (f5W 8 (ar e))) (f6D e)
 hd:∀ r,∃ t rr,tks (f5W r (ar e))=t::rr∧atT [41] t=false
theorem f7M (r:Nat) (e:Exp):tks (f5W r (ar e))=if f5U e.op < r then sy [40]::(tks (f5Z e)++[sy [41]]) else tks (f5Z e):=by
 unfold f5W ar
 simp only
 split
 ·rw[f5S,f5R];rfl
 ·rfl
theorem Up.weak {L m k m' k':Nat} {X:List Tok} {v:Exp} (u:Up L m k X v) (hm:m≤m') (hk:k≤k'):Up L m' k' X v :=
 ⟨u.ex.weak hm,fun lv a b=>(u.bm lv a b).weak hm,fun lv a b c=>(u.bl lv a b c).weak hm hk,fun a=>(u.um a).weak hm,fun a=>(u.ix a).weak hm hk⟩
theorem f7N {e:Exp} {m k:Nat} (u:Up (f5U e.op) m k (tks (f5Z e)) (f6D e)) (hd:∃ t rr,tks (f5Z e)=t::rr∧atT [41] t=false) (hm:m+20≤64 * zn e) (hk:k+20≤64 * zn e):Pe e:=by
 have up:=f7C (X:=sy [40]::(tks (f5Z e)++[sy [41]])) ⟨_,_,rfl,by decide,by decide⟩ (f6U u.ex)
 have up':=up.weak (m':=64 * zn e) (k':=64 * zn e) (by omega) (by omega)
 have u':=u.weak (m':=64 * zn e) (k':=64 * zn e) (by omega) (by omega)
 have key:∀ r,r≤9→∃ L,r≤L∧Up L (64 * zn e) (64 * zn e) (tks (f5W r (ar e))) (f6D e):=by
  intro r hr
  rw[f7M]
  split
  ·exact⟨9,hr,up'⟩
  ·exact⟨_,by omega,u'⟩
 refine⟨?_,fun lv h=>?_,fun lv h h2=>?_,?_,?_,?_,fun r=>?_⟩
 ·obtain⟨L,h1,h2⟩:=key 1 (by omega);exact h2.ex
 ·obtain⟨L,h1,h2⟩:=key (lv+2) (by omega);exact h2.bm lv h h1
 ·obtain⟨L,h1,h3⟩:=key (lv+2) (by omega);exact h3.bl lv h h2 h1
 ·obtain⟨L,h1,h2⟩:=key 7 (by omega);exact h2.um h1
 ·obtain⟨L,h1,h2⟩:=key 8 (by omega);exact h2.um (by omega)
 ·obtain⟨L,h1,h2⟩:=key 8 (by omega);exact h2.ix h1
 ·rw[f7M]
  split
  ·exact⟨_,_,rfl,by decide⟩
  ·exact hd
theorem f7O {lv m k m1:Nat} {X0 X1:List Tok} {v0 v1:Exp} {op:Int} {t:Tok} (hl:lv≤4) (h2:lv≠2) (hop:opG t (ops lv)=some op) (hf:Fo (lv+1) t) (h0:BLc lv m k X0 v0) (h1:BMc (lv+1) m1 X1 v1) {M:Nat} (hM:m≤M) (hM2:k+m1+1≤M):BLc lv M (k+1) (X0++t::X1) (nod op [v0,v1]):=by
 intro s rest n hr hn hfr
 have e:(X0++t::X1)++rest=X0++t::(X1++rest):=by simp
 obtain⟨n',a,b⟩:=h0 s (t::(X1++rest)) n (by simp) (by omega) hf
 obtain⟨n2,rfl,c⟩:=f6L (m:=m1) (n:=n') (by omega)
 refine⟨n2,by omega,?_⟩
 have ho:opL lv (stt s (t::(X1++rest)))=some op:=by unfold opL;rw[e1V];exact hop
 rw[e,b,d5O,ho]
 simp only
 rw[if_neg h2,f6I (by simp [hr]),h1 s rest n2 hr c hfr]
theorem f7P {m m1:Nat} {X0 X1:List Tok} {v0 v1:Exp} {op:Int} {t:Tok} (hop:opG t (ops 2)=some op) (hf:Fo 3 t) (h0:BMc 3 m X0 v0) (h1:BMc 3 m1 X1 v1):BMc 2 (m+m1+3) (X0++t::X1) (nod op [v0,v1]):=by
 intro s rest n hr hn hfr
 have e:(X0++t::X1)++rest=X0++t::(X1++rest):=by simp
 obtain⟨n',a,b⟩:=f6Q (lv:=2) (by decide) h0 s (t::(X1++rest)) n (by simp) (by omega) hf
 obtain⟨n2,rfl,c⟩:=f6L (m:=m1) (n:=n') (by omega)
 have ho:opL 2 (stt s (t::(X1++rest)))=some op:=by unfold opL;rw[e1V];exact hop
 rw[e,b,d5O,ho]
 simp only
 rw[if_pos trivial,f6I (by simp [hr]),h1 s rest n2 hr c hfr.up]
theorem f7Q {m:Nat} {X:List Tok} {v:Exp} (h:UMc m X v):UMc (m+1) (sy [45]::X) (nod 9 [v]):=by
 intro s rest n hr hn hf
 obtain⟨n0,rfl,h0⟩:=f6L hn
 have hne:X++rest≠[]:=by simp [hr]
 show unM (n0+1) (stt s (sy [45]::(X++rest)))=_
 rw[unM,if_pos (by show atT _ (sy [45])=true;decide),f6I hne,h s rest n0 hr h0 hf]
theorem f7R {m:Nat} {X:List Tok} {v:Exp} (h:UMc m X v):UMc (m+1) (kw [110,111,116]::X) (nod 10 [v]):=by
 intro s rest n hr hn hf
 obtain⟨n0,rfl,h0⟩:=f6L hn
 have hne:X++rest≠[]:=by simp [hr]
 show unM (n0+1) (stt s (kw [110,111,116]::(X++rest)))=_
 rw[unM,if_neg (by show ¬atT _ (kw [110,111,116])=true;decide),if_pos (by show atT _ (kw [110,111,116])=true;decide),f6I hne,h s rest n0 hr h0 hf]
theorem f7S {m k m1:Nat} {X0 X1:List Tok} {v0 v1:Exp} (h0:IXc m k X0 v0) (h1:EMc m1 X1 v1) {M:Nat} (hM:m≤M) (hM2:k+m1+1≤M):IXc M (k+1) (X0++sy [91]::(X1++[sy [93]])) (nod 8 [v0,v1]):=by
 intro s rest n hr hn hp
 have e:(X0++sy [91]::(X1++[sy [93]]))++rest=X0++sy [91]::(X1++sy [93]::rest):=by simp
 obtain⟨n',a,b⟩:=h0 s (sy [91]::(X1++sy [93]::rest)) n (by simp) (by omega) (by show atT _ (sy [91])=false;decide)
 obtain⟨n2,rfl,c⟩:=f6L (m:=m1) (n:=n') (by omega)
 refine⟨n2,by omega,?_⟩
 rw[e,b,d5P,if_pos (by show atT _ (sy [91])=true;decide),f6I (by simp),h1 s (sy [93]::rest) n2 (by simp) c f7F rfl]
 simp only
 rw[f6J hr (by decide)]
theorem f7T {m m1 m2:Nat} {X0 X1 X2:List Tok} {v0 v1 v2:Exp} (h0:BMc 0 m X0 v0) (h1:EMc m1 X1 v1) (h2:EMc m2 X2 v2):EMc (m+m1+m2+1) (X0++sy [63]::(X1++sy [58]::X2)) (nod 20 [v0,v1,v2]):=by
 intro s rest n hr hn hf hq
 obtain⟨n0,rfl,c⟩:=f6L hn
 have e:(X0++sy [63]::(X1++sy [58]::X2))++rest=X0++sy [63]::(X1++sy [58]::(X2++rest)):=by simp
 rw[e,d5M,h0 s (sy [63]::(X1++sy [58]::(X2++rest))) n0 (by simp) (by omega) f7H,if_pos (by show atT _ (sy [63])=true;decide)]
 simp only
 rw[f6I (by simp),h1 s (sy [58]::(X2++rest)) n0 (by simp) (by omega) f7I rfl]
 simp only
 rw[f6J (by simp [hr]) (by decide),h2 s rest n0 hr (by omega) hf hq]
theorem f7U {v:Nat}:PRc 1 [nu v] (.mk 1 v [] true []):=by
 intro s rest n hr hn hp
 obtain⟨n0,rfl,h0⟩:=f6L hn
 show d5Q (n0+1) (stt s (nu v::rest))=_
 rw[d5Q,if_pos (by show(nu v).kind=3;rfl),f6I hr]
 rfl
theorem f7V {t:Nm}:PRc 1 [nmT t] (.mk 2 0 t true []):=by
 intro s rest n hr hn hp
 obtain⟨n0,rfl,h0⟩:=f6L hn
 show d5Q (n0+1) (stt s (nmT t::rest))=_
 rw[d5Q,if_neg (by show ¬(1:Nat)=3;decide),if_pos (by show(1:Nat)=1;rfl),f6I hr,if_neg (by rw[f6K,hp];simp)]
 rfl
theorem f7W:PRc 1 [kw [116,114,117,101]] (nod 3 []):=by
 intro s rest n hr hn hp
 obtain⟨n0,rfl,h0⟩:=f6L hn
 show d5Q (n0+1) (stt s (kw [116,114,117,101]::rest))=_
 rw[d5Q,if_neg (by show ¬(2:Nat)=3;decide),if_neg (by show ¬(2:Nat)=1;decide),if_pos (by show atT _ (kw [116,114,117,101])=true;decide),f6I hr]
theorem f7X:PRc 1 [kw [102,97,108,115,101]] (nod 4 []):=by
 intro s rest n hr hn hp
 obtain⟨n0,rfl,h0⟩:=f6L hn
 show d5Q (n0+1) (stt s (kw [102,97,108,115,101]::rest))=_
 rw[d5Q,if_neg (by show ¬(2:Nat)=3;decide),if_neg (by show ¬(2:Nat)=1;decide),if_neg (by show ¬atT _ (kw [102,97,108,115,101])=true;decide),if_pos (by show atT _ (kw [102,97,108,115,101])=true;decide),f6I hr]
theorem f7Y {t:Nm}:PRc 2 (nmT t::sy [40]::[sy [41]]) (.mk 5 0 t true []):=by
 intro s rest n hr hn hp
 obtain⟨n0,rfl,h0⟩:=f6L hn
 obtain⟨n1,rfl,h1⟩:=f6L h0
 show d5Q (n1+1+1) (stt s (nmT t::sy [40]::sy [41]::rest))=_
 rw[d5Q,if_neg (by show ¬(1:Nat)=3;decide),if_pos (by show(1:Nat)=1;rfl),f6I (by simp),if_pos (by show atT _ (sy [40])=true;decide),f6I (by simp),d5R,if_pos (by show atT _ (sy [41])=true;decide),f6I hr]
 rfl
theorem f7Z {t:Nm} {p:List Tok×Exp} {l:List (List Tok×Exp)} {m:Nat} (hp:∀ q,q∈p::l→EMc m q.1 q.2) (hd:∃ u r,p.1=u::r∧atT [41] u=false):PRc (m+l.length+3) (nmT t::sy [40]::(p.1++(f7J l++[sy [41]]))) (.mk 5 0 t false (p.2::l.map (·.2))):=by
 intro s rest n hr hn hpp
 obtain⟨n0,rfl,h0⟩:=f6L hn
 obtain⟨n1,rfl,h1⟩:=f6L h0
 have e:(nmT t::sy [40]::(p.1++(f7J l++[sy [41]])))++rest=nmT t::sy [40]::(p.1++(f7J l++sy [41]::rest)):=by simp
 have hn1:p.1++(f7J l++sy [41]::rest)≠[]:=by simp
 have hh:atT [41] (hdd (p.1++(f7J l++sy [41]::rest)))=false:=by
  obtain⟨u,r,e1,e2⟩:=hd
  rw[e1];exact e2
 rw[e,d5Q,if_neg (by show ¬(1:Nat)=3;decide),if_pos (by show(1:Nat)=1;rfl),f6I (by simp),if_pos (by show atT _ (sy [40])=true;decide),f6I hn1,d5R,if_neg (by rw[f6K,hh];simp),f7L hp (rest:=sy [41]::rest) (by simp) f7E rfl rfl (by omega)]
 simp only
 rw[f6J hr (by decide)]
 rfl
theorem f8A {v:Nat} {p:List Tok×Exp} {l:List (List Tok×Exp)} {m:Nat} (hp:∀ q,q∈p::l→EMc m q.1 q.2):PRc (m+l.length+3) (kw [104,97,115,104]::sy [40]::nu v::sy [59]::(p.1++(f7J l++[sy [41]]))) (.mk 6 v [] false (p.2::l.map (·.2))):=by
 intro s rest n hr hn hpp
 obtain⟨n0,rfl,h0⟩:=f6L hn
 obtain⟨n1,rfl,h1⟩:=f6L h0
 have e:(kw [104,97,115,104]::sy [40]::nu v::sy [59]::(p.1++(f7J l++[sy [41]])))++rest=kw [104,97,115,104]::sy [40]::nu v::sy [59]::(p.1++(f7J l++sy [41]::rest)):=by simp
 have hn1:p.1++(f7J l++sy [41]::rest)≠[]:=by simp
 rw[e,d5Q,if_neg (by show ¬(2:Nat)=3;decide),if_neg (by show ¬(2:Nat)=1;decide),if_neg (by show ¬atT _ (kw [104,97,115,104])=true;decide),if_neg (by show ¬atT _ (kw [104,97,115,104])=true;decide),if_pos (by show atT _ (kw [104,97,115,104])=true;decide),f6I (by simp),d5S,f6J (by simp) (by decide),if_neg (by show ¬(3:Nat)≠3;decide),f6I (by simp),f6J hn1 (by decide),f7L hp (rest:=sy [41]::rest) (by simp) f7E rfl rfl (by omega)]
 simp only
 rw[f6J hr (by decide)]
 rfl
theorem f8B {p:List Tok×Exp} {l:List (List Tok×Exp)} {m:Nat} (hp:∀ q,q∈p::l→EMc m q.1 q.2):PRc (m+l.length+3) (sy [91]::(p.1++(f7J l++[sy [93]]))) (nod 7 (p.2::l.map (·.2))):=by
 intro s rest n hr hn hpp
 obtain⟨n0,rfl,h0⟩:=f6L hn
 have e:(sy [91]::(p.1++(f7J l++[sy [93]])))++rest=sy [91]::(p.1++(f7J l++sy [93]::rest)):=by simp
 have hn1:p.1++(f7J l++sy [93]::rest)≠[]:=by simp
 rw[e,d5Q,if_neg (by show ¬(4:Nat)=3;decide),if_neg (by show ¬(4:Nat)=1;decide),if_neg (by show ¬atT _ (sy [91])=true;decide),if_neg (by show ¬atT _ (sy [91])=true;decide),if_neg (by show ¬atT _ (sy [91])=true;decide),if_pos (by show atT _ (sy [91])=true;decide),f6I hn1,f7L hp (rest:=sy [93]::rest) (by simp) f7F rfl rfl (by omega)]
 simp only
 rw[f6J hr (by decide)]
end Go.Ky

/- KX 52: every valid expression is found in its canonical tokens. -/
namespace Go.Ky
open Go.Pi Go.Lx
theorem f8C {op n v:Int} {nm:Nm} (h:opB op n v nm=true) :
  (op=1∧n=0∧nm=[])∨(op=2∧n=0∧v=0∧d3I nm=true)∨(op=3∧n=0∧v=0∧nm=[])∨(op=4∧n=0∧v=0∧nm=[])∨(op=5∧v=0∧d3I nm=true)∨(op=6∧1≤n∧nm=[])∨(op=7∧1≤n∧v=0∧nm=[]) ∨
  (op=9∧n=1∧v=0∧nm=[])∨(op=10∧n=1∧v=0∧nm=[])∨(op=20∧n=3∧v=0∧nm=[])∨(op=8∧n=2∧v=0∧nm=[])∨((op=11∨op=12∨op=13∨op=14∨op=15∨op=16∨op=17∨op=18∨op=19)∧n=2∧v=0∧nm=[]):=by
 unfold opB at h
 by_cases c1:op=1
 ·rw[if_pos c1] at h;simp only[h0S,h4S] at h;exact .inl ⟨c1,h.1,h.2⟩
 rw[if_neg c1] at h
 by_cases c2:op=2
 ·rw[if_pos c2] at h;simp only[h0S,h4S] at h;exact .inr (.inl ⟨c2,h.1.1,h.1.2,h.2⟩)
 rw[if_neg c2] at h
 by_cases c3:op=3∨op=4
 ·rw[if_pos c3] at h;simp only[h0S,h4S] at h
  rcases c3 with c|c
  ·exact .inr (.inr (.inl ⟨c,h.1.1,h.1.2,h.2⟩))
  ·exact .inr (.inr (.inr (.inl ⟨c,h.1.1,h.1.2,h.2⟩)))
 rw[if_neg c3] at h
 by_cases c5:op=5
 ·rw[if_pos c5] at h;simp only[h0S,h4S] at h;exact .inr (.inr (.inr (.inr (.inl ⟨c5,h.1,h.2⟩))))
 rw[if_neg c5] at h
 by_cases c6:op=6
 ·rw[if_pos c6] at h;simp only[h0S,h4S] at h;exact .inr (.inr (.inr (.inr (.inr (.inl ⟨c6,h.1,h.2⟩)))))
 rw[if_neg c6] at h
 by_cases c7:op=7
 ·rw[if_pos c7] at h;simp only[h0S,h4S] at h;exact .inr (.inr (.inr (.inr (.inr (.inr (.inl ⟨c7,h.1.1,h.1.2,h.2⟩))))))
 rw[if_neg c7] at h
 by_cases c9:op=9∨op=10
 ·rw[if_pos c9] at h;simp only[h0S,h4S] at h
  rcases c9 with c|c
  ·exact .inr (.inr (.inr (.inr (.inr (.inr (.inr (.inl ⟨c,h.1.1,h.1.2,h.2⟩)))))))
  ·exact .inr (.inr (.inr (.inr (.inr (.inr (.inr (.inr (.inl ⟨c,h.1.1,h.1.2,h.2⟩))))))))
 rw[if_neg c9] at h
 by_cases c20:op=20
 ·rw[if_pos c20] at h;simp only[h0S,h4S] at h;exact .inr (.inr (.inr (.inr (.inr (.inr (.inr (.inr (.inr (.inl ⟨c20,h.1.1,h.1.2,h.2⟩)))))))))
 rw[if_neg c20] at h
 by_cases c8:op=8∨op=11∨op=12∨op=13∨op=14∨op=15∨op=16∨op=17∨op=18∨op=19
 ·rw[if_pos c8] at h;simp only[h0S,h4S] at h
  rcases c8 with c|c
  ·exact .inr (.inr (.inr (.inr (.inr (.inr (.inr (.inr (.inr (.inr (.inl ⟨c,h.1.1,h.1.2,h.2⟩))))))))))
  ·exact .inr (.inr (.inr (.inr (.inr (.inr (.inr (.inr (.inr (.inr (.inr ⟨c,h.1.1,h.1.2,h.2⟩))))))))))
 ·rw[if_neg c8] at h;cases h
theorem f8D (e:Exp) (r:List Exp):zns (e::r)=zn e+zns r:=by rw[zns]
theorem f8E:zns []=0:=by rw[zns]
theorem f8F (e:Exp):1≤zn e:=by rw[f6H];omega
theorem f8G:∀ l:List Exp,l.length≤zns l
 |[]=>h4D _
 |e::r=>by have:=f8F e;have:=f8G r;rw[f8D,h2M];omega
theorem f8H:∀ {l:List Exp} {a:Exp},a∈l→zn a+l.length≤zns l+1
 |e::r,a,h=>by
  rw[f8D,h2M]
  rcases h2X.1 h with rfl|h
  ·have:=f8G r;omega
  ·have:=f8H h;have:=f8F e;omega
def prE (x:Exp):List Tok×Exp:=(tks (f5W 1 (ar x)),f6D x)
theorem f8I (r:List Exp):tks ((r.map fun x=>f5W 1 (ar x)).flatMap fun y=>some (sy [44])::none::y)=f7J (r.map prE):=by
 induction r with
 |nil=>rfl
 |cons a r ih =>
  rw[h2U,h1R,f5R,ih]
  rfl
theorem f8J (a:Exp) (r:List Exp):tks (f5X (((a::r).map ar).map (f5W 1)))=tks (f5W 1 (ar a))++f7J (r.map prE):=by
 rw[h2U,h2U,f5X,f5R]
 have:(r.map ar).map (f5W 1)=r.map fun x=>f5W 1 (ar x):=by rw[List.map_map];rfl
 rw[this,f8I]
theorem f8K {a:Exp} {r:List Exp} (h:∀ x,x∈a::r→Pe x):∀ q,q∈prE a::r.map prE→EMc (64 * (zns (a::r)+1 - (a::r).length)) q.1 q.2:=by
 intro q hq
 obtain⟨x,hx,rfl⟩:∃ x,x∈a::r∧q=prE x:=by
  rcases h2X.1 hq with e|e
  ·exact⟨a,h2Z,e⟩
  ·obtain⟨x,h1,h2⟩:=List.mem_map.1 e
   exact⟨x,h2Y _ h1,h2.symm⟩
 have:=f8H hx
 exact(h x hx).ex.weak (by omega)
theorem f8L (r:List Exp):(r.map prE).map (·.2)=r.map f6D:=by rw[List.map_map];rfl
theorem f8M {x:Nm} {v:Nat} {c:UInt8} (hc:c∈x) (hd:d0M c=false):atT x (nu v)=false:=by
 unfold atT nu
 rw[h0R]
 right
 refine h4P fun e=>?_
 have:=d1R v c (by rw[show d1M v=x from e];exact hc)
 rw[hd] at this
 cases this
theorem f8N {x n:Nm} (hx:d3I x=false) (hn:d3I n=true):atT x (nmT n)=false:=by
 unfold atT nmT
 rw[h0R]
 right
 refine h4P fun e=>?_
 rw[show n=x from e,hx] at hn
 cases hn
theorem f8O {X:List Tok} (h:∃ t rr,X=t::rr∧atT [41] t=false) (Y:List Tok):∃ t rr,X++Y=t::rr∧atT [41] t=false:=by
 obtain⟨t,rr,rfl,e⟩:=h
 exact⟨t,rr++Y,rfl,e⟩
theorem f8P:∀ e:Exp,exB e=true→ExpOk e→Pe e:=by
 refine Exp.ind fun e ih hv ho=>?_
 cases ho with|mk _ h1 h2 h3 h4 h5 h6 =>
 rw[d3L,h0S,h1F] at hv
 have hc:=f8C hv.2
 have ha:∀ a,a∈e.args→Pe a:=fun a h=>ih a h (hv.1 a h) (h6 a h)
 have hT:f5Z e=f5Y e.op e.val e.name (e.args.map ar):=f6C e
 have hC:=f6G e
 have hZ:=f6H e
 obtain⟨op,v,n,nl,l⟩:=e
 simp only[Exp.op,Exp.val,Exp.name,Exp.args] at hc ha hT hC hZ h2
 have l0:∀ {k:Int},(l.length:Int)=k→∀ m:Nat,k=(m:Int)→l.length=m:=fun h m e=>by omega
 rcases hc with⟨rfl,hl,rfl⟩|⟨rfl,hl,rfl,hn⟩|⟨rfl,hl,rfl,rfl⟩|⟨rfl,hl,rfl,rfl⟩|⟨rfl,rfl,hn⟩|⟨rfl,hl,rfl⟩|⟨rfl,hl,rfl,rfl⟩|⟨rfl,hl,rfl,rfl⟩|⟨rfl,hl,rfl,rfl⟩|⟨rfl,hl,rfl,rfl⟩|⟨rfl,hl,rfl,rfl⟩|⟨hop,hl,rfl,rfl⟩
 ·obtain rfl:l=[]:=h1P (by omega)
  have e1:tks (f5Z (.mk 1 v [] nl []))=[nu v.toNat]:=by rw[hT];rfl
  have e2:f6D (.mk 1 v [] nl [])=.mk 1 ((v.toNat:Nat):Int) [] true []:=by
   rw[hC,h1E h2.1];rfl
  refine f7N (m:=13) (k:=11) ?_ ?_ (by rw[hZ,f8E];decide) (by rw[hZ,f8E];decide)
  ·rw[e1,e2];exact f7C ⟨_,_,rfl,f8M (c:=45) (by simp) (by decide),f8M (c:=110) (by simp) (by decide)⟩ f7U
  ·rw[e1];exact⟨_,_,rfl,f8M (c:=41) (by simp) (by decide)⟩
 ·obtain rfl:l=[]:=h1P (by omega)
  have e1:tks (f5Z (.mk 2 0 n nl []))=[nmT n]:=by rw[hT];rfl
  have e2:f6D (.mk 2 0 n nl [])=.mk 2 0 n true []:=by rw[hC];rfl
  refine f7N (m:=13) (k:=11) ?_ ?_ (by rw[hZ,f8E];decide) (by rw[hZ,f8E];decide)
  ·rw[e1,e2];exact f7C ⟨_,_,rfl,f8N (by decide) hn,f8N (by decide) hn⟩ f7V
  ·rw[e1];exact⟨_,_,rfl,f8N (by decide) hn⟩
 ·obtain rfl:l=[]:=h1P (by omega)
  have e1:tks (f5Z (.mk 3 0 [] nl []))=[kw [116,114,117,101]]:=by rw[hT];rfl
  have e2:f6D (.mk 3 0 [] nl [])=nod 3 []:=by rw[hC];rfl
  refine f7N (m:=13) (k:=11) ?_ ?_ (by rw[hZ,f8E];decide) (by rw[hZ,f8E];decide)
  ·rw[e1,e2];exact f7C ⟨_,_,rfl,by decide,by decide⟩ f7W
  ·rw[e1];exact⟨_,_,rfl,by decide⟩
 ·obtain rfl:l=[]:=h1P (by omega)
  have e1:tks (f5Z (.mk 4 0 [] nl []))=[kw [102,97,108,115,101]]:=by rw[hT];rfl
  have e2:f6D (.mk 4 0 [] nl [])=nod 4 []:=by rw[hC];rfl
  refine f7N (m:=13) (k:=11) ?_ ?_ (by rw[hZ,f8E];decide) (by rw[hZ,f8E];decide)
  ·rw[e1,e2];exact f7C ⟨_,_,rfl,by decide,by decide⟩ f7X
  ·rw[e1];exact⟨_,_,rfl,by decide⟩
 ·-- a call
  cases l with
  |nil =>
   have e1:tks (f5Z (.mk 5 0 n nl []))=nmT n::sy [40]::[sy [41]]:=by rw[hT];rfl
   have e2:f6D (.mk 5 0 n nl [])=.mk 5 0 n true []:=by rw[hC];rfl
   refine f7N (m:=14) (k:=11) ?_ ?_ (by rw[hZ,f8E];decide) (by rw[hZ,f8E];decide)
   ·rw[e1,e2];exact f7C ⟨_,_,rfl,f8N (by decide) hn,f8N (by decide) hn⟩ f7Y
   ·rw[e1];exact⟨_,_,rfl,f8N (by decide) hn⟩
  |cons a r =>
   have e1:tks (f5Z (.mk 5 0 n nl (a::r)))=nmT n::sy [40]::((prE a).1++(f7J (r.map prE)++[sy [41]])):=by
    rw[hT]
    show nmT n::sy [40]::tks (f5X (((a::r).map ar).map (f5W 1))++[some (sy [41])])=_
    rw[f5R,f8J,h1H];rfl
   have e2:f6D (.mk 5 0 n nl (a::r))=.mk 5 0 n false ((prE a).2::(r.map prE).map (·.2)):=by rw[hC,f8L];rfl
   have hlen:=f8G (a::r)
   simp only[h2M] at hlen
   refine f7N (m:=64 * (zns (a::r)+1 - (a::r).length)+(r.map prE).length+3+12) (k:=11) ?_ ?_ ?_ ?_
   ·rw[e1,e2];exact f7C ⟨_,_,rfl,f8N (by decide) hn,f8N (by decide) hn⟩ (f7Z (f8K ha) ((ha a h2Z).hd 1))
   ·rw[e1];exact⟨_,_,rfl,f8N (by decide) hn⟩
   ·rw[hZ,h2O,h2M];omega
   ·rw[hZ];omega
 ·-- a hash
  cases l with
  |nil=>simp at hl
  |cons a r =>
   have e1:tks (f5Z (.mk 6 v [] nl (a::r)))=kw [104,97,115,104]::sy [40]::nu v.toNat::sy [59]::((prE a).1++(f7J (r.map prE)++[sy [41]])):=by
    rw[hT]
    show kw [104,97,115,104]::sy [40]::nu v.toNat::sy [59]::tks (f5X (((a::r).map ar).map (f5W 1))++[some (sy [41])])=_
    rw[f5R,f8J,h1H];rfl
   have e2:f6D (.mk 6 v [] nl (a::r))=.mk 6 ((v.toNat:Nat):Int) [] false ((prE a).2::(r.map prE).map (·.2)):=by rw[hC,f8L,h1E h2.1];rfl
   have hlen:=f8G (a::r)
   simp only[h2M] at hlen
   refine f7N (m:=64 * (zns (a::r)+1 - (a::r).length)+(r.map prE).length+3+12) (k:=11) ?_ ?_ ?_ ?_
   ·rw[e1,e2];exact f7C ⟨_,_,rfl,by decide,by decide⟩ (f8A (f8K ha))
   ·rw[e1];exact⟨_,_,rfl,by decide⟩
   ·rw[hZ,h2O,h2M];omega
   ·rw[hZ];omega
 ·-- a list
  cases l with
  |nil=>simp at hl
  |cons a r =>
   have e1:tks (f5Z (.mk 7 0 [] nl (a::r)))=sy [91]::((prE a).1++(f7J (r.map prE)++[sy [93]])):=by
    rw[hT]
    show sy [91]::tks (f5X (((a::r).map ar).map (f5W 1))++[some (sy [93])])=_
    rw[f5R,f8J,h1H];rfl
   have e2:f6D (.mk 7 0 [] nl (a::r))=nod 7 ((prE a).2::(r.map prE).map (·.2)):=by rw[hC,f8L];rfl
   have hlen:=f8G (a::r)
   simp only[h2M] at hlen
   refine f7N (m:=64 * (zns (a::r)+1 - (a::r).length)+(r.map prE).length+3+12) (k:=11) ?_ ?_ ?_ ?_
   ·rw[e1,e2];exact f7C ⟨_,_,rfl,by decide,by decide⟩ (f8B (f8K ha))
   ·rw[e1];exact⟨_,_,rfl,by decide⟩
   ·rw[hZ,h2O,h2M];omega
   ·rw[hZ];omega
 ·-- a sign
  match l,hl,ha,hT,hC,hZ with
  |[a],_,ha,hT,hC,hZ =>
  have pa:=ha a (by simp)
  have e2:f6D (.mk 9 0 [] nl [a])=nod 9 [f6D a]:=by rw[hC];rfl
  have e1:tks (f5Z (.mk 9 0 [] nl [a]))=sy [45]::tks (f5W (if a.op=9 then 8 else 7) (ar a)):=by rw[hT];rfl
  have hz:zns [a]=zn a:=by rw[f8D,f8E,h3Q]
  have hu:UMc (64 * zn a) (tks (f5W (if a.op=9 then 8 else 7) (ar a))) (f6D a):=by
   split
   ·exact pa.u8
   ·exact pa.u7
  refine f7N (m:=64 * zn a+1+11) (k:=10) ?_ ?_ (by rw[hZ,hz];omega) (by rw[hZ];omega)
  ·rw[e1,e2];exact f7A (k:=0) (f7Q hu)
  ·rw[e1];exact⟨_,_,rfl,by decide⟩
 ·match l,hl,ha,hT,hC,hZ with
  |[a],_,ha,hT,hC,hZ =>
  have pa:=ha a (by simp)
  have e2:f6D (.mk 10 0 [] nl [a])=nod 10 [f6D a]:=by rw[hC];rfl
  have e1:tks (f5Z (.mk 10 0 [] nl [a]))=kw [110,111,116]::tks (f5W 7 (ar a)):=by rw[hT];rfl
  have hz:zns [a]=zn a:=by rw[f8D,f8E,h3Q]
  refine f7N (m:=64 * zn a+1+11) (k:=10) ?_ ?_ (by rw[hZ,hz];omega) (by rw[hZ];omega)
  ·rw[e1,e2];exact f7A (k:=0) (f7R pa.u7)
  ·rw[e1];exact⟨_,_,rfl,by decide⟩
 ·match l,hl,ha,hT,hC,hZ with
  |[a,b,c],_,ha,hT,hC,hZ =>
  have pa:=ha a (by simp)
  have pb:=ha b (by simp)
  have pc:=ha c (by simp)
  have e2:f6D (.mk 20 0 [] nl [a,b,c])=nod 20 [f6D a,f6D b,f6D c]:=by rw[hC];rfl
  have e1:tks (f5Z (.mk 20 0 [] nl [a,b,c]))=tks (f5W 2 (ar a))++sy [63]::(tks (f5W 1 (ar b))++sy [58]::tks (f5W 1 (ar c))):=by
   rw[hT]
   show tks (f5W 2 (ar a)++none::some (sy [63])::none::(f5W 1 (ar b)++none::some (sy [58])::none::f5W 1 (ar c)))=_
   rw[f5R,f5T,f5S,f5T,f5R,f5T,f5S,f5T]
  have hz:zns [a,b,c]=zn a+zn b+zn c:=by rw[f8D,f8D,f8D,f8E];omega
  refine f7N (m:=64 * zn a+64 * zn b+64 * zn c+1) (k:=0) ?_ ?_ (by rw[hZ,hz];omega) (by rw[hZ];omega)
  ·rw[e1,e2];exact f6X (f7T (pa.bm 0 (by decide)) pb.ex pc.ex)
  ·rw[e1];exact f8O (pa.hd 2) _
 ·match l,hl,ha,hT,hC,hZ with
  |[a,b],_,ha,hT,hC,hZ =>
  have pa:=ha a (by simp)
  have pb:=ha b (by simp)
  have e2:f6D (.mk 8 0 [] nl [a,b])=nod 8 [f6D a,f6D b]:=by rw[hC];rfl
  have e1:tks (f5Z (.mk 8 0 [] nl [a,b]))=tks (f5W 8 (ar a))++sy [91]::(tks (f5W 1 (ar b))++[sy [93]]):=by
   rw[hT]
   show tks (f5W 8 (ar a)++some (sy [91])::(f5W 1 (ar b)++[some (sy [93])]))=_
   rw[f5R,f5S,f5R];rfl
  have hz:zns [a,b]=zn a+zn b:=by rw[f8D,f8D,f8E];omega
  refine f7N (m:=64 * zn a+64 * zn b+1+11) (k:=64 * zn a+1+10) ?_ ?_ (by rw[hZ,hz];omega) (by rw[hZ,hz];omega)
  ·rw[e1,e2];exact f7B (f7S pa.ix pb.ex (by omega) (by omega))
  ·rw[e1];exact f8O (pa.hd 8) _
 ·-- two operands
  match l,hl,ha,hT,hC,hZ with
  |[a,b],_,ha,hT,hC,hZ =>
  have pa:=ha a (by simp)
  have pb:=ha b (by simp)
  have e2:f6D (.mk op 0 [] nl [a,b])=nod op [f6D a,f6D b]:=by rw[hC];rfl
  have hz:zns [a,b]=zn a+zn b:=by rw[f8D,f8D,f8E];omega
  have e1:tks (f5Z (.mk op 0 [] nl [a,b]))=tks (f5W (if f5U op=4 then 5 else f5U op) (ar a))++f5V op::tks (f5W (f5U op+1) (ar b)):=by
   rw[hT]
   have:f5Y op 0 [] ([a,b].map ar)=f5W (if f5U op=4 then 5 else f5U op) (ar a)++none::some (f5V op)::none::f5W (f5U op+1) (ar b):=by
    unfold f5Y
    rw[if_neg (by omega),if_neg (by omega),if_neg (by omega),if_neg (by omega),if_neg (by omega),if_neg (by omega),if_neg (by omega),if_neg (by omega),if_neg (by omega),if_neg (by omega),if_neg (by omega)]
    rfl
   rw[this,f5R,f5T,f5S,f5T]
  have hhd:∃ t rr,tks (f5Z (.mk op 0 [] nl [a,b]))=t::rr∧atT [41] t=false:=by rw[e1];exact f8O (pa.hd _) _
  have chain:∀ lv,lv≤4→lv≠2→f5U op=lv+2→opG (f5V op) (ops lv)=some op→Fo (lv+1) (f5V op)→(lv≤3∨lv=4)→Pe (.mk op 0 [] nl [a,b]):=by
   intro lv hl4 hl2 hL ho hf hor
   have hm:BMc (lv+1) (64 * zn b+1) (tks (f5W (f5U op+1) (ar b))) (f6D b):=by
    rw[hL]
    rcases hor with h|h
    ·exact(pb.bm (lv+1) (by omega)).weak (by omega)
    ·subst h;exact f6P pb.u7
   have hb0:BLc lv (64 * zn a) (64 * zn a) (tks (f5W (if f5U op=4 then 5 else f5U op) (ar a))) (f6D a):=by
    rw[if_neg (by omega),hL]
    exact pa.bl lv hl4 hl2
   have hb:=f7O hl4 hl2 ho hf hb0 hm (M:=64 * zn a+64 * zn b+2) (by omega) (by omega)
   refine f7N (m:=64 * zn a+64 * zn b+2+10) (k:=64 * zn a+1+10) ?_ hhd (by rw[hZ,hz];omega) (by rw[hZ,hz];omega)
   rw[e1,e2]
   show Up (f5U op) _ _ _ _
   rw[hL]
   rw[hL] at hb
   exact f6Z hl4 hb
  have comp:f5U op=4→opG (f5V op) (ops 2)=some op→Fo 3 (f5V op)→Pe (.mk op 0 [] nl [a,b]):=by
   intro hL ho hf
   have hb:=f7P ho hf (pa.bm 3 (by decide)) (pb.bm 3 (by decide))
   refine f7N (m:=64 * zn a+64 * zn b+3+10) (k:=10) ?_ hhd (by rw[hZ,hz];omega) (by rw[hZ];omega)
   rw[e1,e2]
   show Up (f5U op) _ _ _ _
   rw[hL,if_pos rfl]
   exact f6Y (L:=2) (k:=0) (by decide) hb (fun lv e _ h=>absurd e h) (fun h=>by omega)
  have fo:∀ (lv:Nat) (t:Tok),(∀ j:Fin 5,lv≤j.1→opG t (ops j.1)=none)→atT [91] t=false→atT [40] t=false→Fo lv t:=fun lv t h h1 h2=>⟨fun j hj hj4=>h ⟨j,by omega⟩ hj,h1,h2⟩
  rcases hop with rfl|rfl|rfl|rfl|rfl|rfl|rfl|rfl|rfl
  ·exact chain 4 (by decide) (by decide) (by decide) (by decide) (fo _ _ (by decide) (by decide) (by decide)) (.inr rfl)
  ·exact chain 3 (by decide) (by decide) (by decide) (by decide) (fo _ _ (by decide) (by decide) (by decide)) (.inl (by decide))
  ·exact chain 3 (by decide) (by decide) (by decide) (by decide) (fo _ _ (by decide) (by decide) (by decide)) (.inl (by decide))
  ·exact comp (by decide) (by decide) (fo _ _ (by decide) (by decide) (by decide))
  ·exact comp (by decide) (by decide) (fo _ _ (by decide) (by decide) (by decide))
  ·exact comp (by decide) (by decide) (fo _ _ (by decide) (by decide) (by decide))
  ·exact comp (by decide) (by decide) (fo _ _ (by decide) (by decide) (by decide))
  ·exact chain 1 (by decide) (by decide) (by decide) (by decide) (fo _ _ (by decide) (by decide) (by decide)) (.inl (by decide))
  ·exact chain 0 (by decide) (by decide) (by decide) (by decide) (fo _ _ (by decide) (by decide) (by decide)) (.inl (by decide))
end Go.Ky

/- KX 53: the lexer on a canonical text. -/
namespace Go.Ky
open Go.Pi Go.Lx
def pcT:Pc→List UInt8
 |none=>[32]
 |some t=>t.text
def txP (l:List Pc):List UInt8:=l.flatMap pcT
theorem f8Q (a b:List Pc):txP (a++b)=txP a++txP b:=h1Q
theorem f8R (t:Tok) (l:List Pc):txP (some t::l)=t.text++txP l:=rfl
theorem f8S (l:List Pc):txP (none::l)=32::txP l:=rfl
def f8T (p:UInt8→Bool) (z:List UInt8):Prop:=∀ c r,z=c::r→p c=false
theorem f8U {p:UInt8→Bool} {c:UInt8} {r:List UInt8} (h:p c=false):f8T p (c::r):=by
 intro c' r' e
 injection e with e1 _
 rw[←e1];exact h
structure Bd (t:Tok) (z:List UInt8):Prop where
 nx:next (t.text++z)=.ok t.kind t.text.length t.val
 gp:gap (t.text++z)=0
def f8V:List Pc→List UInt8→Prop
 |[],_=>True
 |none::r,z=>f8V r z
 |some t::r,z=>Bd t (txP r++z)∧f8V r z
theorem f8W:∀ (a b:List Pc) (z:List UInt8),f8V (a++b) z↔f8V a (txP b++z)∧f8V b z
 |[],b,z=>by simp [f8V]
 |none::a,b,z=>by
  show f8V (a++b) z↔f8V a _∧_
  exact f8W a b z
 |some t::a,b,z=>by
  show Bd t (txP (a++b)++z)∧f8V (a++b) z↔(Bd t (txP a++(txP b++z))∧f8V a _)∧_
  rw[f8Q,h1H,f8W a b z]
  exact and_assoc.symm
theorem f8X {c:UInt8} {r:List UInt8} (hb:d0O c=true) (pos:Nat):d0X pos (c::r)=d0X (pos+1) r:=by
 have hg:gap (c::r)=gap r+1:=by
  show d0Q false (c::r)=_
  rw[d0Q,if_pos hb]
 have hd:∀ k,(c::r).drop (k+1)=r.drop k:=fun k=>rfl
 rcases d1G r with h1|⟨h1,⟨e',hn⟩|⟨k,m,v,hn⟩⟩
 ·rw[d1D (by rw[hg,h1];rfl),d1D h1,h2M,show pos+(r.length+1)=pos+1+r.length by omega]
 ·rw[d1E (by rw[hg,h2M];omega) (by rw[hg,hd];exact hn),d1E h1 hn,hg,show pos+(gap r+1)=pos+1+gap r by omega]
 ·rw[d1F (by rw[hg,h2M];omega) (by rw[hg,hd];exact hn),d1F h1 hn,hg,show gap r+1+m=gap r+m+1 by omega,hd,hd,show pos+(gap r+1)+m=pos+1+gap r+m by omega,show pos+(gap r+1)=pos+1+gap r by omega]
theorem f8Y {t:Tok} {z:List UInt8} (h:Bd t z) (pos:Nat):d0X pos (t.text++z)=(d0X (pos+t.text.length) z).cons ⟨t.kind,t.text,t.val,pos⟩:=by
 have hp:=d1C h.nx
 rw[d1F (by rw[h.gp];omega) (by rw[h.gp];exact h.nx),h.gp]
 simp only[h4C,h1O,h3Q,List.take_left,List.drop_left]
theorem f8Z (t:Tok) (l:List Tok) (q:Res):(q.app l).cons t=q.app (t::l):=by cases q <;> rfl
theorem f9A (q:Res):q.app []=q:=by cases q <;> rfl
theorem f9B:∀ (ps:List Pc) (z:List UInt8) (pos:Nat),f8V ps z→∃ L,Lx.Alike L (tks ps)∧d0X pos (txP ps++z)=(d0X (pos+(txP ps).length) z).app L
 |[],z,pos,_=>⟨[],trivial,by rw[f9A];rfl⟩
 |none::r,z,pos,h=>by
  obtain⟨L,h1,h2⟩:=f9B r z (pos+1) h
  refine⟨L,h1,?_⟩
  show d0X pos (32::(txP r++z))=(d0X (pos+(32::txP r).length) z).app L
  rw[f8X (by decide),h2,h2M,show pos+1+(txP r).length=pos+((txP r).length+1) by omega]
 |some t::r,z,pos,h=>by
  obtain⟨L,h1,h2⟩:=f9B r z (pos+t.text.length) h.2
  refine⟨⟨t.kind,t.text,t.val,pos⟩::L,⟨⟨rfl,rfl,rfl⟩,h1⟩,?_⟩
  rw[f8R,h1H,f8Y h.1,h2,f8Z,h2L,show pos+t.text.length+(txP r).length=pos+(t.text.length+(txP r).length) by omega]
theorem f9C {p:UInt8→Bool} {z:List UInt8} (hz:f8T p z):∀ a:List UInt8,(∀ c,c∈a→p c=true)→d0P p (a++z)=a.length
 |[],_=>by
  match z,hz with
  |[],_=>rfl
  |c::r,hz=>rw[h3G,d0P,if_neg (by rw[hz c r rfl];simp)];rfl
 |c::a,h=>by
  rw[h1L,d0P,if_pos (h c h2Z),f9C hz a fun x hx=>h x (h2Y _ hx)];rfl
theorem d1B {p:UInt8→Bool}:∀ s:List UInt8,d0P p s=s.length→∀ c,c∈s→p c=true
 |[],_,c,h=>by cases h
 |x::r,h,c,hc=>by
  rw[d0P] at h
  by_cases hx:p x=true
  ·rw[if_pos hx,h2M] at h
   rcases h2X.1 hc with rfl|hc
   ·exact hx
   ·exact d1B r (by omega) c hc
  ·rw[if_neg hx] at h;simp at h
theorem f9D {c:UInt8} {r:List UInt8} (h:d0L c=true):gap (c::r)=0:=by
 simp only[d0L,h0S,h4S,h4K] at h
 have h1:97≤c.toNat:=h.1
 have ne:∀ n:Nat,n < 97→c≠UInt8.ofNat n:=by
  intro n hn e
  have:=congrArg UInt8.toNat e
  rw[h4L] at this
  omega
 have n32:=ne 32 (by decide)
 have n9:=ne 9 (by decide)
 have n13:=ne 13 (by decide)
 have n10:=ne 10 (by decide)
 have n45:=ne 45 (by decide)
 show d0Q false (c::r)=0
 rw[d0Q,if_neg (by simp [d0O];exact⟨⟨⟨n32,n9⟩,n13⟩,n10⟩),if_neg (by simp;intro e;exact absurd e n45)]
theorem f9E {c:UInt8} {r z:List UInt8} (hl:d0L c=true) (ha:∀ x,x∈c::r→d0N x=true) (hz:f8T d0N z):next (c::r++z)=if keywords.contains (c::r)=true then .ok 2 (c::r).length 0 else if 24 < (c::r).length then .err 3 else .ok 1 (c::r).length 0:=by
 have hs:=f9C hz (c::r) ha
 rw[h1L] at hs
 rw[h1L,next,if_pos hl,d0V,hs]
 have ht:(c::(r++z)).take (c::r).length=c::r:=by
  rw[←h1L,List.take_left]
 rw[ht]
theorem f9F {n:Nm} {z:List UInt8} (hn:d3I n=true) (hz:f8T d0N z):Bd (nmT n) z:=by
 match n,hn with
 |c::r,hn =>
  rw[d3I] at hn
  simp only[h0S,h4S,h0U] at hn
  obtain⟨⟨⟨h1,h2⟩,h3⟩,h4⟩:=hn
  refine⟨?_,?_⟩
  ·show next (c::r++z)=.ok 1 (c::r).length 0
   rw[f9E h2 (d1B _ h3) hz,if_neg (by rw[h4];simp),if_neg (by omega)]
  ·show gap (c::r++z)=0
   rw[h1L,f9D h2]
theorem f9G {w:Nm} {z:List UInt8} (hw:keywords.contains w=true) (hl:∃ c r,w=c::r∧d0L c=true) (ha:∀ x,x∈w→d0N x=true) (hz:f8T d0N z):Bd (kw w) z:=by
 obtain⟨c,r,rfl,hc⟩:=hl
 refine⟨?_,?_⟩
 ·show next (c::r++z)=.ok 2 (c::r).length 0
  rw[f9E hc ha hz,if_pos hw]
 ·show gap (c::r++z)=0
  rw[h1L,f9D hc]
theorem f9H {v:Nat} {z:List UInt8} (hv:v≤18446744073709551615) (hz:f8T d0M z):Bd (nu v) z:=by
 have hd:=d1R v
 have hne:=d1U v
 have hh:=d1V v
 have h1:=@d1X v
 have hval:=d1T v
 have hs:=f9C hz (d1M v) hd
 match hdd:d1M v,hne with
 |c::r,_ =>
  rw[hdd] at hd hh h1 hval hs
  have hc:=hd c h2Z
  have hnl:d0L c=false:=by
   simp only[d0M,h0S,h4S,h4K] at hc
   have h57:c.toNat≤57:=hc.2
   rw[d0L,h0R]
   left
   refine h4P fun h=>?_
   rw[h4K] at h
   have:(97:Nat)≤c.toNat:=h
   omega
  rw[h1L] at hs
  have ht:(c::(r++z)).take (c::r).length=c::r:=by
   rw[←h1L,List.take_left]
  refine⟨?_,?_⟩
  ·show next (d1M v++z)=.ok 3 (d1M v).length v
   rw[hdd,h1L,next,if_neg (by rw[hnl];simp),if_pos hc,d0W,hs,ht,hval,if_neg,if_neg (by omega)]
   rintro⟨a,b⟩
   exact hh (h1 b) a
  ·show gap (d1M v++z)=0
   obtain⟨g1,g2⟩:=d1Y hc
   show d0Q false _=0
   rw[hdd,h1L,d0Q,if_neg (by rw[g1];simp),if_neg (by simp;intro e;exact absurd e g2)]
theorem f9I {c:UInt8} {z:List UInt8} (h1:d0L c=false) (h2:d0M c=false) (h3:f8T (d0R c) z) (h4:d0T c=true) (h5:d0O c=false) (h6:c=45→f8T (· == 45) z):Bd (sy [c]) z:=by
 have hp:d0S c z=false:=by
  match z,h3 with
  |[],_=>rfl
  |d::r,h3=>exact h3 d r rfl
 refine⟨?_,?_⟩
 ·show next (c::z)=.ok 4 1 0
  rw[next,if_neg (by rw[h1];simp),if_neg (by rw[h2];simp),if_neg (by rw[hp];simp),if_pos h4]
 ·show d0Q false (c::z)=0
  rw[d0Q,if_neg (by rw[h5];simp),if_neg]
  intro h
  simp only[h0S,beq_iff_eq] at h
  match z,h with
  |d::r,h =>
   have:=h6 h.1 d r rfl
   simp at h
   rw[h.2] at this
   simp at this
theorem f9J {c:UInt8} {z:List UInt8} (h1:d0L c=false) (h2:d0M c=false) (h3:∀ d,d0R c d=false) (h4:d0T c=true) (h5:d0O c=false) (h6:c≠45):Bd (sy [c]) z :=
 f9I h1 h2 (fun d r _=>h3 d) h4 h5 fun h=>absurd h h6
theorem f9K {c d:UInt8} {z:List UInt8} (h1:d0L c=false) (h2:d0M c=false) (h3:d0R c d=true) (h5:d0O c=false) (h6:c≠45):Bd (sy [c,d]) z:=by
 refine⟨?_,?_⟩
 ·show next (c::d::z)=.ok 4 2 0
  rw[next,if_neg (by rw[h1];simp),if_neg (by rw[h2];simp),if_pos (by show d0R c d=true;exact h3)]
 ·show d0Q false (c::d::z)=0
  rw[d0Q,if_neg (by rw[h5];simp),if_neg (by simp;intro e;exact absurd e h6)]
theorem f9L {c:UInt8} (h1:c≠46) (h2:c≠61) (h3:c≠33) (h4:c≠60) (d:UInt8):d0R c d=false:=by
 unfold d0R
 simp [h1,h2,h3,h4]
end Go.Ky

/- KX 54: the lexer finds the tokens of a canonical text. -/
namespace Go.Ky
open Go.Pi Go.Lx
abbrev Nz (z:List UInt8):Prop:=f8T d0N z
theorem f9M {c:UInt8} {r:List UInt8} (h:d0N c=false):Nz (c::r):=f8U h
theorem f9N {z:List UInt8} (h:Nz z):f8T d0M z:=by
 intro c r e
 have:=h c r e
 unfold d0N at this
 simp only[h0X] at this
 exact this.1.2
theorem f9O (z:List UInt8):Bd (sy [40]) z:=f9J (by decide) (by decide) (f9L (by decide) (by decide) (by decide) (by decide)) (by decide) (by decide) (by decide)
theorem f9P (z:List UInt8):Bd (sy [41]) z:=f9J (by decide) (by decide) (f9L (by decide) (by decide) (by decide) (by decide)) (by decide) (by decide) (by decide)
theorem f9Q (z:List UInt8):Bd (sy [91]) z:=f9J (by decide) (by decide) (f9L (by decide) (by decide) (by decide) (by decide)) (by decide) (by decide) (by decide)
theorem f9R (z:List UInt8):Bd (sy [93]) z:=f9J (by decide) (by decide) (f9L (by decide) (by decide) (by decide) (by decide)) (by decide) (by decide) (by decide)
theorem f9S (z:List UInt8):Bd (sy [44]) z:=f9J (by decide) (by decide) (f9L (by decide) (by decide) (by decide) (by decide)) (by decide) (by decide) (by decide)
theorem f9T (z:List UInt8):Bd (sy [59]) z:=f9J (by decide) (by decide) (f9L (by decide) (by decide) (by decide) (by decide)) (by decide) (by decide) (by decide)
theorem f9U (z:List UInt8):Bd (sy [58]) z:=f9J (by decide) (by decide) (f9L (by decide) (by decide) (by decide) (by decide)) (by decide) (by decide) (by decide)
theorem f9V (z:List UInt8):Bd (sy [63]) z:=f9J (by decide) (by decide) (f9L (by decide) (by decide) (by decide) (by decide)) (by decide) (by decide) (by decide)
theorem f9W {w:Nm} {z:List UInt8} (hw:keywords.contains w=true) (hl:∃ c r,w=c::r∧d0L c=true) (ha:∀ x,x∈w→d0N x=true):Bd (kw w) (32::z):=f9G hw hl ha (f9M (by decide))
theorem f9X {op:Int} (h:op=11∨op=12∨op=13∨op=14∨op=15∨op=16∨op=17∨op=18∨op=19) (z:List UInt8):Bd (f5V op) (32::z):=by
 rcases h with rfl|rfl|rfl|rfl|rfl|rfl|rfl|rfl|rfl
 ·exact f9I (c:=42) (by decide) (by decide) (f8U (by decide)) (by decide) (by decide) (fun h=>absurd h (by decide))
 ·exact f9I (c:=43) (by decide) (by decide) (f8U (by decide)) (by decide) (by decide) (fun h=>absurd h (by decide))
 ·exact f9I (c:=45) (by decide) (by decide) (f8U (by decide)) (by decide) (by decide) (fun _=>f8U (by decide))
 ·exact f9K (c:=61) (d:=61) (by decide) (by decide) (by decide) (by decide) (by decide)
 ·exact f9K (c:=33) (d:=61) (by decide) (by decide) (by decide) (by decide) (by decide)
 ·exact f9I (c:=60) (by decide) (by decide) (f8U (by decide)) (by decide) (by decide) (fun h=>absurd h (by decide))
 ·exact f9K (c:=60) (d:=61) (by decide) (by decide) (by decide) (by decide) (by decide)
 ·exact f9W (w:=[97,110,100]) (by decide) ⟨_,_,rfl,by decide⟩ (by decide)
 ·exact f9W (w:=[111,114]) (by decide) ⟨_,_,rfl,by decide⟩ (by decide)
def LB (e:Exp):Prop:=∀ r z,Nz z→f8V (f5W r (ar e)) z
theorem f9Y {e:Exp} (h:∀ z,Nz z→f8V (f5Z e) z):LB e:=by
 intro r z hz
 unfold f5W ar
 simp only
 split
 ·refine⟨f9O _,?_⟩
  rw[f8W]
  exact⟨h _ (f9M (c:=41) (by decide)),f9P _,trivial⟩
 ·exact h z hz
theorem f9Z:∀ (l:List Exp),(∀ a,a∈l→LB a)→∀ z,Nz z→f8V (f5X ((l.map ar).map (f5W 1))) z
 |[],_,z,_=>trivial
 |a::r,h,z,hz=>by
  have more:∀ r:List Exp,(∀ a,a∈r→LB a)→f8V (((r.map ar).map (f5W 1)).flatMap fun y=>some (sy [44])::none::y) z∧Nz (txP (((r.map ar).map (f5W 1)).flatMap fun y=>some (sy [44])::none::y)++z):=by
   intro r
   induction r with
   |nil=>intro _;exact⟨trivial,hz⟩
   |cons b r ih =>
    intro hb
    obtain⟨i1,i2⟩:=ih fun a ha=>hb a (h2Y _ ha)
    refine⟨?_,f9M (c:=44) (by decide)⟩
    rw[h2U,h2U,h1R,f8W]
    exact⟨⟨f9S _,hb b h2Z 1 _ i2⟩,i1⟩
  obtain⟨m1,m2⟩:=more r fun a ha=>h a (h2Y _ ha)
  rw[h2U,h2U,f5X,f8W]
  exact⟨h a h2Z 1 _ m2,m1⟩
theorem g0A:∀ e:Exp,exB e=true→ExpOk e→7≤f5U e.op→e.op≠9→∃ c r,txP (f5Z e)=c::r∧c≠45:=by
 refine Exp.ind fun e ih hv ho hL h9=>?_
 cases ho with|mk _ h1 h2 h3 h4 h5 h6 =>
 rw[d3L,h0S,h1F] at hv
 have hc:=f8C hv.2
 have hT:f5Z e=f5Y e.op e.val e.name (e.args.map ar):=f6C e
 obtain⟨op,v,n,nl,l⟩:=e
 simp only[Exp.op,Exp.val,Exp.name,Exp.args] at hc hT hL h9 h2 hv h6
 rw[hT]
 have nmH:∀ n:Nm,d3I n=true→∃ c r,n=c::r∧c≠45:=by
  intro n hn
  match n,hn with
  |c::r,hn =>
   refine⟨c,r,rfl,?_⟩
   rintro rfl
   rw[d3I] at hn
   simp [d0L] at hn
 rcases hc with⟨rfl,hl,rfl⟩|⟨rfl,hl,rfl,hn⟩|⟨rfl,hl,rfl,rfl⟩|⟨rfl,hl,rfl,rfl⟩|⟨rfl,rfl,hn⟩|⟨rfl,hl,rfl⟩|⟨rfl,hl,rfl,rfl⟩|⟨rfl,hl,rfl,rfl⟩|⟨rfl,hl,rfl,rfl⟩|⟨rfl,hl,rfl,rfl⟩|⟨rfl,hl,rfl,rfl⟩|⟨hop,hl,rfl,rfl⟩
 ·have hd:=d1R v.toNat
  have hne:=d1U v.toNat
  show ∃ c r,d1M v.toNat++[]=c::r∧c≠45
  match d1M v.toNat,hd,hne with
  |c::r,hd,_=>exact⟨c,r++[],rfl,(d1Y (hd c h2Z)).2⟩
 ·obtain⟨c,r,rfl,h⟩:=nmH n hn
  exact⟨c,r++[],rfl,h⟩
 ·exact⟨116,_,rfl,by decide⟩
 ·exact⟨102,_,rfl,by decide⟩
 ·obtain⟨c,r,rfl,h⟩:=nmH n hn
  exact⟨c,_,rfl,h⟩
 ·exact⟨104,_,rfl,by decide⟩
 ·exact⟨91,_,rfl,by decide⟩
 ·exact absurd rfl h9
 ·exact⟨110,_,rfl,by decide⟩
 ·exact absurd hL (by decide)
 ·match l,hl,ih,hv,h6 with
  |[a,b],_,ih,hv,h6 =>
  show ∃ c r,txP (f5W 8 (ar a)++some (sy [91])::(f5W 1 (ar b)++[some (sy [93])]))=c::r∧c≠45
  rw[f8Q]
  unfold f5W ar
  simp only
  split
  ·exact⟨40,_,rfl,by decide⟩
  ·rename_i h8
   obtain⟨c,r,e1,e2⟩:=ih a (by show a∈[a,b];simp) (hv.1 a (by simp)) (h6 a (by simp)) (by omega) (by intro e;rw[e] at h8;exact h8 (by decide))
   exact⟨c,r++_,by rw[e1];rfl,e2⟩
 ·exfalso
  rcases hop with rfl|rfl|rfl|rfl|rfl|rfl|rfl|rfl|rfl <;> revert hL <;> decide
theorem g0B:∀ e:Exp,exB e=true→ExpOk e→LB e:=by
 refine Exp.ind fun e ih hv ho=>?_
 have ho':=ho
 have hv':=hv
 cases ho with|mk _ h1 h2 h3 h4 h5 h6 =>
 rw[d3L,h0S,h1F] at hv
 have hc:=f8C hv.2
 have ha:∀ a,a∈e.args→LB a:=fun a h=>ih a h (hv.1 a h) (h6 a h)
 have hT:f5Z e=f5Y e.op e.val e.name (e.args.map ar):=f6C e
 refine f9Y fun z hz=>?_
 rw[hT]
 obtain⟨op,v,n,nl,l⟩:=e
 simp only[Exp.op,Exp.val,Exp.name,Exp.args] at hc ha h2 hv h6 ⊢
 have hv64:v.toNat≤18446744073709551615:=by have:=h2.2;omega
 have hsp:∀ x:List UInt8,Nz (32::x):=fun x=>f9M (by decide)
 rcases hc with⟨rfl,hl,rfl⟩|⟨rfl,hl,rfl,hn⟩|⟨rfl,hl,rfl,rfl⟩|⟨rfl,hl,rfl,rfl⟩|⟨rfl,rfl,hn⟩|⟨rfl,hl,rfl⟩|⟨rfl,hl,rfl,rfl⟩|⟨rfl,hl,rfl,rfl⟩|⟨rfl,hl,rfl,rfl⟩|⟨rfl,hl,rfl,rfl⟩|⟨rfl,hl,rfl,rfl⟩|⟨hop,hl,rfl,rfl⟩
 ·exact⟨f9H hv64 (f9N hz),trivial⟩
 ·exact⟨f9F hn hz,trivial⟩
 ·exact⟨f9G (by decide) ⟨_,_,rfl,by decide⟩ (by decide) hz,trivial⟩
 ·exact⟨f9G (by decide) ⟨_,_,rfl,by decide⟩ (by decide) hz,trivial⟩
 ·refine⟨f9F hn (f9M (c:=40) (by decide)),f9O _,?_⟩
  rw[f8W]
  exact⟨f9Z l ha _ (f9M (c:=41) (by decide)),f9P _,trivial⟩
 ·refine⟨f9G (by decide) ⟨_,_,rfl,by decide⟩ (by decide) (f9M (c:=40) (by decide)),f9O _,f9H hv64 (f8U (c:=59) (by decide)),f9T _,?_⟩
  show f8V (f5X ((l.map ar).map (f5W 1))++[some (sy [41])]) z
  rw[f8W]
  exact⟨f9Z l ha _ (f9M (c:=41) (by decide)),f9P _,trivial⟩
 ·refine⟨f9Q _,?_⟩
  rw[f8W]
  exact⟨f9Z l ha _ (f9M (c:=93) (by decide)),f9R _,trivial⟩
 ·match l,hl,ha,hv,h6 with
  |[a],_,ha,hv,h6 =>
  show f8V (some (sy [45])::f5W (if a.op=9 then 8 else 7) (ar a)) z
  refine⟨f9I (c:=45) (by decide) (by decide) (fun d r _=>by unfold d0R;simp) (by decide) (by decide) (fun _=>?_),ha a (by simp) _ z hz⟩
  have hq:∃ c r,txP (f5W (if a.op=9 then 8 else 7) (ar a))=c::r∧c≠45:=by
   unfold f5W ar
   simp only
   by_cases h9:a.op=9
   ·rw[if_pos h9,if_pos (by rw[h9];decide)]
    exact⟨40,_,rfl,by decide⟩
   ·rw[if_neg h9]
    by_cases h7:f5U a.op < 7
    ·rw[if_pos h7]
     exact⟨40,_,rfl,by decide⟩
    ·rw[if_neg h7]
     exact g0A a (hv.1 a (by simp)) (h6 a (by simp)) (by omega) h9
  obtain⟨c,r,e1,e2⟩:=hq
  rw[e1]
  exact f8U (by simpa using e2)
 ·match l,hl,ha with
  |[a],_,ha =>
  show f8V (some (kw [110,111,116])::none::f5W 7 (ar a)) z
  exact⟨f9W (by decide) ⟨_,_,rfl,by decide⟩ (by decide),ha a (by simp) _ z hz⟩
 ·match l,hl,ha with
  |[a,b,c],_,ha =>
  show f8V (f5W 2 (ar a)++none::some (sy [63])::none::(f5W 1 (ar b)++none::some (sy [58])::none::f5W 1 (ar c))) z
  rw[f8W]
  refine⟨ha a (by simp) _ _ (hsp _),f9V _,?_⟩
  show f8V (f5W 1 (ar b)++none::some (sy [58])::none::f5W 1 (ar c)) z
  rw[f8W]
  exact⟨ha b (by simp) _ _ (hsp _),f9U _,ha c (by simp) _ z hz⟩
 ·match l,hl,ha with
  |[a,b],_,ha =>
  show f8V (f5W 8 (ar a)++some (sy [91])::(f5W 1 (ar b)++[some (sy [93])])) z
  rw[f8W]
  refine⟨ha a (by simp) _ _ (f9M (c:=91) (by decide)),f9Q _,?_⟩
  rw[f8W]
  exact⟨ha b (by simp) _ _ (f9M (c:=93) (by decide)),f9R _,trivial⟩
 ·match l,hl,ha with
  |[a,b],_,ha =>
  have:f5Y op 0 [] ([a,b].map ar)=f5W (if f5U op=4 then 5 else f5U op) (ar a)++none::some (f5V op)::none::f5W (f5U op+1) (ar b):=by
   unfold f5Y
   rw[if_neg (by omega),if_neg (by omega),if_neg (by omega),if_neg (by omega),if_neg (by omega),if_neg (by omega),if_neg (by omega),if_neg (by omega),if_neg (by omega),if_neg (by omega),if_neg (by omega)]
   rfl
  rw[this,f8W]
  exact⟨ha a (by simp) _ _ (hsp _),f9X hop _,ha b (by simp) _ z hz⟩
end Go.Ky

/- KX 55: an expression is found again in its canonical text. -/
namespace Go.Ky
open Go.Pi Go.Lx
theorem g0C:∀ (l:List Exp),(∀ a,a∈l→dEx (f6D a)=dEx a)→d3S (l.map f6D)=d3S l
 |[],_=>rfl
 |a::r,h=>by
  rw[h2U,d3S,d3S,h a h2Z,g0C r fun x hx=>h x (h2Y _ hx)]
theorem g0D:∀ e:Exp,dEx (f6D e)=dEx e:=by
 refine Exp.ind fun e ih=>?_
 rw[d3U,d3U,f6G]
 show d3S (e.args.map f6D)+1=_
 rw[g0C _ ih]
abbrev g0E (p:Nat):Tok:=⟨0,[],0,p⟩
end Go.Ky

/- KX 56: what the parser reads without an error is valid, its lists' nil bits are set as it sets them, and its canonical text is not much longer than what was read. -/
namespace Go.Ky
open Go.Pi Go.Lx
structure GoodT (t:Tok):Prop where
 nm:t.kind=1→d3I t.text=true
 nu:t.kind=3→(d1M t.val).length≤t.text.length
structure Gk (s:Ps):Prop where
 wf:WfT s.ts
 gd:∀ t,t∈s.ts→GoodT t
theorem Gk.of {s s':Ps} (h:Gk s) (hs:Suf s s'):Gk s':=by
 obtain⟨k,hk,e⟩:=id hs
 exact⟨hs.wf h.wf,fun t ht=>h.gd t (by rw[e] at ht;exact h3D ht)⟩
theorem Gk.hd {s:Ps} (h:Gk s):GoodT s.hd:=h.gd _ (e0X h.wf.ne)
def wt (l:List Tok):Nat:=(l.map fun t=>t.text.length+2).sum
theorem g0F (k:Nat):∀ l:List Tok,wt (l.drop k)≤wt l:=by
 induction k with
 |zero=>intro l;simp
 |succ k ih =>
  intro l
  cases l with
  |nil=>simp
  |cons a r =>
   have:=ih r
   rw[h1N]
   unfold wt at this ⊢
   rw[h2U,h3K]
   omega
theorem Suf.wt {s s':Ps} (h:Suf s s'):wt s'.ts≤wt s.ts:=by
 obtain⟨k,_,e⟩:=h
 rw[e];exact g0F k _
theorem g0G {s:Ps} (h:WfT s.ts) (h0:s.hd.kind≠0):wt (d5F s).ts+(s.hd.text.length+2)=wt s.ts:=by
 have h2:=h.two h0
 unfold d5F
 simp only
 rw[if_pos (by omega)]
 unfold Ps.hd at h0 ⊢
 match hts:s.ts,h.ne with
 |a::r,_ =>
  rw[h1N,h1O]
  unfold wt
  rw[h2U,h3K]
  simp only[List.headD_cons]
  omega
theorem g0H {t:Nm} {s:Ps} (h:atM t s=true):s.hd.text.length=t.length:=by
 unfold atM at h
 simp only[h0S,h4S] at h
 rw[h.2]
theorem g0I {t:Nm} {s:Ps} (h:WfT s.ts) (ha:atM t s=true):wt (d5F s).ts+(t.length+2)=wt s.ts:=by
 rw[←g0H ha];exact g0G h (d6M ha)
theorem g0J {t:Nm} {s:Ps} (h:(d5H t s).err=0):atM t s=true∧d5H t s=d5F s:=by
 unfold d5H at h ⊢
 by_cases ha:atM t s=true
 ·rw[if_pos ha];exact⟨ha,rfl⟩
 ·exfalso
  rw[if_neg ha] at h
  change (if s.err=0 then (2:Int) else s.err)=0 at h
  split at h
  ·exact absurd h (by decide)
  ·rename_i hh;exact hh h
theorem g0K {e:Int} (he:e≠0) {s:Ps}:(d5E e s).err≠0:=by
 show(if s.err=0 then e else s.err)≠0
 split
 ·exact he
 ·assumption
theorem g0L {α:Type} {m:Pm α} (h:Gd tt m) {s:Ps} (he:(m s).2.err=0):s.err=0:=by
 refine h1A fun h0=>?_
 have:=(h.err s trivial h0).1
 rw[this] at he
 exact h0 he
theorem g0M {t:Nm} {s:Ps} (h:(d5H t s).err=0):s.err=0:=by
 obtain⟨_,e⟩:=g0J h
 rw[e] at h;exact h
def pl (r:Nat) (e:Exp):Nat:=(txP (f5W r (ar e))).length
theorem g0N (r:Nat) (e:Exp):pl r e=if f5U e.op < r then (txP (f5Z e)).length+2 else (txP (f5Z e)).length:=by
 unfold pl f5W ar
 simp only
 split
 ·rw[f8R,f8Q]
  simp only[h2L]
  show 1+((txP (f5Z e)).length+1)=_
  omega
 ·rfl
theorem g0O {r r':Nat} (h:r≤r') (e:Exp):pl r e≤pl r' e:=by
 rw[g0N,g0N]
 split <;> split <;> omega
theorem g0P (r r':Nat) (e:Exp):pl r e≤pl r' e+2:=by
 rw[g0N,g0N]
 split <;> split <;> omega
def cw (l:List Exp):Nat:=(txP (f5X ((l.map ar).map (f5W 1)))).length
theorem g0Q (e:Exp):cw [e]=pl 1 e:=by
 unfold cw pl
 simp [f5X]
theorem g0R {l:List Exp} (h:l≠[]) (e:Exp):cw (l++[e])=cw l+2+pl 1 e:=by
 match l,h with
 |a::r,_ =>
  unfold cw pl
  rw[h1L,h2U,h2U,h2U,h2U,f5X,f5X,h2T,h2T,h1Q,←h1H,f8Q,h2L]
  have:(txP (((List.map ar [e]).map (f5W 1)).flatMap fun y=>some (sy [44])::none::y)).length=2+(txP (f5W 1 (ar e))).length:=by
   rw[h2U,h2V,h2U,h2V,h1R,List.flatMap_nil,h1J,f8R,f8S]
   rw[h2L,h2M]
   show 1+((txP (f5W 1 (ar e))).length+1)=_
   omega
  show _+(txP (((List.map ar [e]).map (f5W 1)).flatMap fun y=>some (sy [44])::none::y)).length=_
  rw[this]
  omega
structure Rg (r:Nat) (s:Ps) (e:Exp) (s':Ps):Prop where
 v:exB e=true
 c:f6D e=e
 w:pl r e+wt s'.ts≤wt s.ts
structure Rl (s:Ps) (l:List Exp) (s':Ps):Prop where
 ne:l≠[]
 v:∀ a,a∈l→exB a=true
 c:l.map f6D=l
 w:cw l+wt s'.ts≤wt s.ts
theorem g0S {op:Int} {l:List Exp} (h:opB op (l.length:Int) 0 []=true) (hl:∀ a,a∈l→exB a=true):exB (nod op l)=true:=by
 rw[d3L]
 show(l.all exB&&opB op (l.length:Int) 0 [])=true
 rw[h,Bool.and_true,h1F]
 exact hl
theorem g0T {op:Int} {l:List Exp} (h:l.map f6D=l):f6D (nod op l)=nod op l:=by
 rw[f6G]
 show Exp.mk op 0 [] l.isEmpty (l.map f6D)=_
 rw[h];rfl
theorem g0U (op:Int) (l:List Exp):f5Z (nod op l)=f5Y op 0 [] (l.map ar):=f6C _
theorem map2 {a b:Exp} (ha:f6D a=a) (hb:f6D b=b):[a,b].map f6D=[a,b]:=by simp [ha,hb]
theorem g0V {op:Int} (h:op=11∨op=12∨op=13∨op=14∨op=15∨op=16∨op=17∨op=18∨op=19) (a b:Exp):(txP (f5Z (nod op [a,b]))).length=pl (if f5U op=4 then 5 else f5U op) a+((f5V op).text.length+2)+pl (f5U op+1) b:=by
 rw[g0U]
 have:f5Y op 0 [] ([a,b].map ar)=f5W (if f5U op=4 then 5 else f5U op) (ar a)++none::some (f5V op)::none::f5W (f5U op+1) (ar b):=by
  unfold f5Y
  rw[if_neg (by omega),if_neg (by omega),if_neg (by omega),if_neg (by omega),if_neg (by omega),if_neg (by omega),if_neg (by omega),if_neg (by omega),if_neg (by omega),if_neg (by omega),if_neg (by omega)]
  rfl
 rw[this,f8Q,f8S,f8R,f8S]
 simp only[h2L,h2M]
 show _=pl _ _+_+pl _ _
 unfold pl
 omega
theorem g0W {lv:Nat} {s:Ps} {o:Int} (h:opL lv s=some o) (hl:lv≤4):(o=11∨o=12∨o=13∨o=14∨o=15∨o=16∨o=17∨o=18∨o=19)∧f5U o=lv+2∧s.hd.kind≠0∧s.hd.text=(f5V o).text:=by
 have hk:=d7C h
 unfold opL at h
 have at':∀ {t:Nm},atM t s=true→s.hd.text=t:=by
  intro t h
  unfold atM at h
  simp only[h0S,h4S] at h
  exact h.2
 match lv,hl with
 |0,_ =>
  simp only[ops,d5L] at h
  split at h
  ·rename_i ha;injection h with h;subst h;exact⟨by simp,by decide,hk,at' ha⟩
  ·cases h
 |1,_ =>
  simp only[ops,d5L] at h
  split at h
  ·rename_i ha;injection h with h;subst h;exact⟨by simp,by decide,hk,at' ha⟩
  ·cases h
 |2,_ =>
  simp only[ops,d5L] at h
  split at h
  ·rename_i ha;injection h with h;subst h;exact⟨by simp,by decide,hk,at' ha⟩
  split at h
  ·rename_i ha;injection h with h;subst h;exact⟨by simp,by decide,hk,at' ha⟩
  split at h
  ·rename_i ha;injection h with h;subst h;exact⟨by simp,by decide,hk,at' ha⟩
  split at h
  ·rename_i ha;injection h with h;subst h;exact⟨by simp,by decide,hk,at' ha⟩
  ·cases h
 |3,_ =>
  simp only[ops,d5L] at h
  split at h
  ·rename_i ha;injection h with h;subst h;exact⟨by simp,by decide,hk,at' ha⟩
  split at h
  ·rename_i ha;injection h with h;subst h;exact⟨by simp,by decide,hk,at' ha⟩
  ·cases h
 |4,_ =>
  simp only[ops,d5L] at h
  split at h
  ·rename_i ha;injection h with h;subst h;exact⟨by simp,by decide,hk,at' ha⟩
  ·cases h
end Go.Ky

/- KX 57: what the parser reads without an error: the induction. -/
namespace Go.Ky
open Go.Pi Go.Lx
structure RgAll (n:Nat):Prop where
 ex:∀ s,Gk s→12 * s.ts.length+11≤n→(d5M n s).2.err=0→Rg 1 s (d5M n s).1 (d5M n s).2
 bi:∀ lv s,lv≤4→Gk s→12 * s.ts.length+(10 - lv)≤n→(d5N n lv s).2.err=0→Rg (lv+2) s (d5N n lv s).1 (d5N n lv s).2
 b5:∀ s,Gk s→12 * s.ts.length+5≤n→(d5N n 5 s).2.err=0→Rg 7 s (d5N n 5 s).1 (d5N n 5 s).2
 bl:∀ lv e s,lv≤4→Gk s→12 * s.ts.length+(9 - lv)≤n→exB e=true→f6D e=e→(d5O n lv e s).2.err=0→exB (d5O n lv e s).1=true∧f6D (d5O n lv e s).1=(d5O n lv e s).1∧pl (lv+2) (d5O n lv e s).1+wt (d5O n lv e s).2.ts≤pl (if lv=2 then 5 else lv+2) e+wt s.ts
 un:∀ s,Gk s→12 * s.ts.length+4≤n→(unM n s).2.err=0→Rg 7 s (unM n s).1 (unM n s).2
 il:∀ e s,Gk s→12 * s.ts.length+3≤n→exB e=true→f6D e=e→(d5P n e s).2.err=0→exB (d5P n e s).1=true∧f6D (d5P n e s).1=(d5P n e s).1∧pl 8 (d5P n e s).1+wt (d5P n e s).2.ts≤pl 8 e+wt s.ts
 pr:∀ s,Gk s→12 * s.ts.length+3≤n→(d5Q n s).2.err=0→Rg 9 s (d5Q n s).1 (d5Q n s).2
 ar':∀ s,Gk s→12 * s.ts.length+13≤n→(d5R n s).2.err=0→(∀ a,a∈(d5R n s).1→exB a=true)∧(d5R n s).1.map f6D=(d5R n s).1∧cw (d5R n s).1+3+wt (d5R n s).2.ts≤wt s.ts
 ha:∀ s,Gk s→12 * s.ts.length+13≤n→(d5S n s).2.err=0→exB (d5S n s).1=true∧f6D (d5S n s).1=(d5S n s).1∧pl 9 (d5S n s).1+wt (d5S n s).2.ts≤wt s.ts+4
 li:∀ s,Gk s→12 * s.ts.length+12≤n→(d5T n s).2.err=0→Rl s (d5T n s).1 (d5T n s).2
 ll:∀ l s,Gk s→12 * s.ts.length+11≤n→l≠[]→(∀ a,a∈l→exB a=true)→l.map f6D=l→(d5U n l s).2.err=0→(d5U n l s).1≠[]∧(∀ a,a∈(d5U n l s).1→exB a=true)∧(d5U n l s).1.map f6D=(d5U n l s).1∧cw (d5U n l s).1+wt (d5U n l s).2.ts≤cw l+wt s.ts
theorem g0X:RgAll 0:=by
 constructor
 ·intro s h hn;have:=h.wf.len;omega
 ·intro lv s hl h hn;have:=h.wf.len;omega
 ·intro s h hn;have:=h.wf.len;omega
 ·intro lv e s hl h hn;have:=h.wf.len;omega
 ·intro s h hn;have:=h.wf.len;omega
 ·intro e s h hn;have:=h.wf.len;omega
 ·intro s h hn;have:=h.wf.len;omega
 ·intro s h hn;have:=h.wf.len;omega
 ·intro s h hn;have:=h.wf.len;omega
 ·intro s h hn;have:=h.wf.len;omega
 ·intro l s h hn;have:=h.wf.len;omega
theorem g0Y {n:Nat} (ih:RgAll n):RgAll (n+1):=by
 have R:=d7F n
 have D:=e2H n
 constructor
 ·-- a conditional
  intro s h hn he
  rw[d5M] at he ⊢
  have g1:=h.of (R.bi 0 s h.wf).suf
  have l1:=(R.bi 0 s h.wf).suf.le
  by_cases ha:atM [63] (d5N n 0 s).2=true
  ·rw[if_pos ha] at he ⊢
   simp only at he ⊢
   have l2:=d6N g1.wf (d6M ha)
   have w2:=g0I g1.wf ha
   have g2:=g1.of (d6L g1.wf)
   have s3:=(R.ex _ g2.wf).suf
   have g3:=g2.of s3
   have l3:=s3.le
   have x4:=g0L D.ex he
   obtain⟨a4,q4⟩:=g0J x4
   have x3:=g0M x4
   have x2:=g0L D.ex x3
   rw[q4] at he ⊢
   have w4:=g0I g3.wf a4
   have g4:=g3.of (d6L g3.wf)
   have l4:=d6N g3.wf (d6M a4)
   have r0:=ih.bi 0 s (by decide) h (by omega) x2
   have r1:=ih.ex _ g2 (by omega) x3
   have r2:=ih.ex _ g4 (by omega) he
   refine⟨g0S rfl fun a hm=>?_,g0T (by simp [r0.c,r1.c,r2.c]),?_⟩
   ·simp only[h2X,h3H,or_false] at hm
    rcases hm with rfl|rfl|rfl
    ·exact r0.v
    ·exact r1.v
    ·exact r2.v
   ·have e0:pl 2 (d5N n 0 s).1+wt (d5N n 0 s).2.ts≤wt s.ts:=r0.w
    have e1:=r1.w
    have e2:=r2.w
    have:∀ a b c:Exp,pl 1 (nod 20 [a,b,c])=pl 2 a+3+pl 1 b+3+pl 1 c:=by
     intro a b c
     rw[g0N,if_neg (by show ¬f5U 20 < 1;decide),g0U]
     show(txP (f5W 2 (Go.Ky.ar a)++none::some (sy [63])::none::(f5W 1 (Go.Ky.ar b)++none::some (sy [58])::none::f5W 1 (Go.Ky.ar c)))).length=_
     rw[f8Q,f8S,f8R,f8S,f8Q,f8S,f8R,f8S]
     simp only[h2L,h2M]
     unfold pl
     show _+(1+(_+(1+_+1)+1)+1)=_
     omega
    rw[this]
    simp only[h2M,h2P] at w2 w4
    omega
  ·rw[if_neg ha] at he ⊢
   have r0:=ih.bi 0 s (by decide) h (by omega) he
   exact⟨r0.v,r0.c,by have:=g0O (show 1≤0+2 by decide) (d5N n 0 s).1;have:=r0.w;omega⟩
 ·-- a level of binary operators
  intro lv s hl h hn he
  rw[d5N,if_neg (by omega)] at he ⊢
  have s1:=(R.bi (lv+1) s h.wf).suf
  have g1:=h.of s1
  have l1:=s1.le
  have x1:=g0L (D.bl lv (d5N n (lv+1) s).1) he
  have r0:exB (d5N n (lv+1) s).1=true∧f6D (d5N n (lv+1) s).1=(d5N n (lv+1) s).1∧pl (lv+3) (d5N n (lv+1) s).1+wt (d5N n (lv+1) s).2.ts≤wt s.ts:=by
   by_cases h4:lv=4
   ·subst h4
    have r:=ih.b5 s h (by omega) x1
    exact⟨r.v,r.c,r.w⟩
   ·have r:=ih.bi (lv+1) s (by omega) h (by omega) x1
    exact⟨r.v,r.c,r.w⟩
  obtain⟨v0,c0,w0⟩:=r0
  obtain⟨v1,c1,w1⟩:=ih.bl lv _ _ hl g1 (by omega) v0 c0 he
  refine⟨v1,c1,?_⟩
  have:pl (if lv=2 then 5 else lv+2) (d5N n (lv+1) s).1≤pl (lv+3) (d5N n (lv+1) s).1:=g0O (by split <;> omega) _
  omega
 ·intro s h hn he
  rw[d5N,if_pos rfl] at he ⊢
  exact ih.un s h (by omega) he
 ·-- the operators of a level
  intro lv e s hl h hn hv hc he
  rw[d5O] at he ⊢
  cases ho:opL lv s with
  |none =>
   refine⟨hv,hc,?_⟩
   have:=g0O (show lv+2≤(if lv=2 then 5 else lv+2) by split <;> omega) e
   show pl (lv+2) e+wt s.ts≤_
   omega
  |some o =>
   rw[ho] at he
   simp only at he ⊢
   obtain⟨f1,f2,f3,f4⟩:=g0W ho hl
   have l2:=d6N h.wf f3
   have w2:=g0G h.wf f3
   have g2:=h.of (d6L h.wf)
   have s3:=(R.bi (lv+1) _ g2.wf).suf
   have g3:=g2.of s3
   have l3:=s3.le
   have hx:(d5N n (lv+1) (d5F s)).2.err=0:=by
    split at he
    ·exact he
    ·exact g0L (D.bl lv _) he
   have r0:exB (d5N n (lv+1) (d5F s)).1=true∧f6D (d5N n (lv+1) (d5F s)).1=(d5N n (lv+1) (d5F s)).1∧pl (lv+3) (d5N n (lv+1) (d5F s)).1+wt (d5N n (lv+1) (d5F s)).2.ts≤wt (d5F s).ts:=by
    by_cases h4:lv=4
    ·subst h4
     have r:=ih.b5 _ g2 (by omega) hx
     exact⟨r.v,r.c,r.w⟩
    ·have r:=ih.bi (lv+1) _ (by omega) g2 (by omega) hx
     exact⟨r.v,r.c,r.w⟩
   obtain⟨v0,c0,w0⟩:=r0
   have hN:exB (nod o [e,(d5N n (lv+1) (d5F s)).1])=true:=g0S (by rcases f1 with rfl|rfl|rfl|rfl|rfl|rfl|rfl|rfl|rfl <;> rfl) fun a hm=>by
    simp only[h2X,h3H,or_false] at hm
    rcases hm with rfl|rfl
    ·exact hv
    ·exact v0
   have hC:f6D (nod o [e,(d5N n (lv+1) (d5F s)).1])=nod o [e,(d5N n (lv+1) (d5F s)).1]:=g0T (map2 hc c0)
   have hW:pl (lv+2) (nod o [e,(d5N n (lv+1) (d5F s)).1])=pl (if lv=2 then 5 else lv+2) e+(s.hd.text.length+2)+pl (lv+3) (d5N n (lv+1) (d5F s)).1:=by
    rw[g0N,if_neg (by show ¬f5U o < lv+2;omega),g0V f1,f2,f4]
    have:(if lv+2=4 then 5 else lv+2)=if lv=2 then 5 else lv+2:=by
     split <;> split <;> omega
    rw[this]
   split
   ·rename_i h2
    subst h2
    refine⟨hN,hC,?_⟩
    have hW':pl 4 (nod o [e,(d5N n 3 (d5F s)).1])=pl 5 e+(s.hd.text.length+2)+pl 5 (d5N n 3 (d5F s)).1:=hW
    have w0':pl 5 (d5N n 3 (d5F s)).1+wt (d5N n 3 (d5F s)).2.ts≤wt (d5F s).ts:=w0
    show pl 4 (nod o [e,(d5N n 3 (d5F s)).1])+wt (d5N n 3 (d5F s)).2.ts≤pl 5 e+wt s.ts
    rw[hW']
    omega
   ·rename_i h2
    rw[if_neg h2] at he
    obtain⟨v1,c1,w1⟩:=ih.bl lv _ _ hl g3 (by omega) hN hC he
    refine⟨v1,c1,?_⟩
    rw[if_neg h2] at w1 hW
    rw[hW] at w1
    omega
 ·-- signs
  intro s h hn he
  rw[unM] at he ⊢
  by_cases h1:atM [45] s=true
  ·rw[if_pos h1] at he ⊢
   simp only at he ⊢
   have l2:=d6N h.wf (d6M h1)
   have w2:=g0I h.wf h1
   have g2:=h.of (d6L h.wf)
   have r:=ih.un _ g2 (by omega) he
   refine⟨g0S rfl (fun a hm=>by simp only[h2X,h3H,or_false] at hm;rw[hm];exact r.v),g0T (by simp [r.c]),?_⟩
   have:∀ a:Exp,pl 7 (nod 9 [a])=1+pl (if a.op=9 then 8 else 7) a:=by
    intro a
    rw[g0N,if_neg (by show ¬f5U 9 < 7;decide),g0U]
    show(txP (some (sy [45])::f5W (if a.op=9 then 8 else 7) (Go.Ky.ar a))).length=_
    rw[f8R,h2L]
    rfl
   rw[this]
   have hp:pl (if (unM n (d5F s)).1.op=9 then 8 else 7) (unM n (d5F s)).1≤pl 7 (unM n (d5F s)).1+2:=g0P _ _ _
   have:=r.w
   simp only[h2M,h2P] at w2
   omega
  ·rw[if_neg h1] at he ⊢
   by_cases h3:atM [110,111,116] s=true
   ·rw[if_pos h3] at he ⊢
    simp only at he ⊢
    have l2:=d6N h.wf (d6M h3)
    have w2:=g0I h.wf h3
    have g2:=h.of (d6L h.wf)
    have r:=ih.un _ g2 (by omega) he
    refine⟨g0S rfl (fun a hm=>by simp only[h2X,h3H,or_false] at hm;rw[hm];exact r.v),g0T (by simp [r.c]),?_⟩
    have:∀ a:Exp,pl 7 (nod 10 [a])=4+pl 7 a:=by
     intro a
     rw[g0N,if_neg (by show ¬f5U 10 < 7;decide),g0U]
     show(txP (some (kw [110,111,116])::none::f5W 7 (Go.Ky.ar a))).length=_
     rw[f8R,f8S,h2L,h2M]
     show 3+((txP (f5W 7 (Go.Ky.ar a))).length+1)=4+(txP (f5W 7 (Go.Ky.ar a))).length
     omega
    rw[this]
    have:=r.w
    simp only[h2M,h2P] at w2
    omega
   ·rw[if_neg h3] at he ⊢
    have s1:=(R.pr s h.wf).suf
    have g1:=h.of s1
    have l1:=s1.le
    have x1:=g0L (D.il (d5Q n s).1) he
    have r0:=ih.pr s h (by omega) x1
    obtain⟨v1,c1,w1⟩:=ih.il _ _ g1 (by omega) r0.v r0.c he
    refine⟨v1,c1,?_⟩
    have:=g0O (show 7≤8 by decide) (d5P n (d5Q n s).1 (d5Q n s).2).1
    have:=g0O (show 8≤9 by decide) (d5Q n s).1
    have:=r0.w
    omega
 ·-- indices
  intro e s h hn hv hc he
  rw[d5P] at he ⊢
  by_cases h1:atM [91] s=true
  ·rw[if_pos h1] at he ⊢
   have l2:=d6N h.wf (d6M h1)
   have w2:=g0I h.wf h1
   have g2:=h.of (d6L h.wf)
   have s3:=(R.ex _ g2.wf).suf
   have g3:=g2.of s3
   have l3:=s3.le
   have x4:=g0L (D.il (nod 8 [e,(d5M n (d5F s)).1])) he
   obtain⟨a4,q4⟩:=g0J x4
   have x3:=g0M x4
   rw[q4] at he ⊢
   have w4:=g0I g3.wf a4
   have l4:=d6N g3.wf (d6M a4)
   have g4:=g3.of (d6L g3.wf)
   have r1:=ih.ex _ g2 (by omega) x3
   have hN:exB (nod 8 [e,(d5M n (d5F s)).1])=true:=g0S rfl fun a hm=>by
    simp only[h2X,h3H,or_false] at hm
    rcases hm with rfl|rfl
    ·exact hv
    ·exact r1.v
   obtain⟨v1,c1,w1⟩:=ih.il _ _ g4 (by omega) hN (g0T (map2 hc r1.c)) he
   refine⟨v1,c1,?_⟩
   have:∀ a b:Exp,pl 8 (nod 8 [a,b])=pl 8 a+2+pl 1 b:=by
    intro a b
    rw[g0N,if_neg (by show ¬f5U 8 < 8;decide),g0U]
    show(txP (f5W 8 (Go.Ky.ar a)++some (sy [91])::(f5W 1 (Go.Ky.ar b)++[some (sy [93])]))).length=_
    rw[f8Q,f8R,f8Q]
    simp only[h2L]
    unfold pl
    show _+(1+(_+1))=_
    omega
   rw[this] at w1
   have:=r1.w
   simp only[h2M,h2P] at w2 w4
   omega
  ·rw[if_neg h1] at he ⊢
   exact⟨hv,hc,h3V _⟩
 ·-- primaries
  intro s h hn he
  have G:=h.hd
  rw[d5Q] at he ⊢
  by_cases k3:s.hd.kind=3
  ·rw[if_pos k3] at he ⊢
   have w2:=g0G h.wf (by omega)
   refine⟨?_,?_,?_⟩
   ·rw[d3L];rfl
   ·rw[f6G];rfl
   ·rw[g0N,if_neg (by show ¬f5U 1 < 9;decide),f6C]
    show(d1M ((s.hd.val:Int).toNat)++[]).length+wt (d5F s).ts≤_
    rw[h1D,h1J]
    have:=G.nu k3
    omega
  rw[if_neg k3] at he ⊢
  by_cases k1:s.hd.kind=1
  ·rw[if_pos k1] at he ⊢
   have l2:=d6N h.wf (by omega)
   have w2:=g0G h.wf (by omega)
   have g2:=h.of (d6L h.wf)
   by_cases h4:atM [40] (d5F s)=true
   ·rw[if_pos h4] at he ⊢
    simp only at he ⊢
    have l3:=d6N g2.wf (d6M h4)
    have w3:=g0I g2.wf h4
    have g3:=g2.of (d6L g2.wf)
    obtain⟨v1,c1,w1⟩:=ih.ar' _ g3 (by omega) he
    refine⟨?_,?_,?_⟩
    ·rw[d3L]
     show((d5R n (d5F (d5F s))).1.all exB&&opB 5 _ 0 s.hd.text)=true
     rw[h1F.2 v1]
     show(true&&(decide ((0:Int)=0)&&d3I s.hd.text))=true
     rw[G.nm k1];rfl
    ·rw[f6G]
     show Exp.mk 5 0 s.hd.text (d5R n (d5F (d5F s))).1.isEmpty (List.map f6D (d5R n (d5F (d5F s))).1)=_
     rw[c1]
    ·rw[g0N,if_neg (by show ¬f5U 5 < 9;decide),f6C]
     show(txP (some (nmT s.hd.text)::some (sy [40])::(f5X (((d5R n (d5F (d5F s))).1.map Go.Ky.ar).map (f5W 1))++[some (sy [41])]))).length+_≤_
     rw[f8R,f8R,f8Q]
     simp only[h2L]
     unfold cw at w1
     simp only[h2M,h2P] at w3
     show s.hd.text.length+(1+(_+1))+_≤_
     omega
   ·rw[if_neg h4] at he ⊢
    refine⟨?_,?_,?_⟩
    ·rw[d3L]
     show(([]:List Exp).all exB&&(decide ((0:Int)=0)&&decide ((0:Int)=0)&&d3I s.hd.text))=true
     rw[G.nm k1];rfl
    ·rw[f6G];rfl
    ·rw[g0N,if_neg (by show ¬f5U 2 < 9;decide),f6C]
     show(s.hd.text++[]).length+wt (d5F s).ts≤_
     rw[h1J]
     omega
  rw[if_neg k1] at he ⊢
  by_cases h1:atM [116,114,117,101] s=true
  ·rw[if_pos h1] at he ⊢
   have w2:=g0I h.wf h1
   refine⟨by rw[d3L];rfl,by rw[f6G];rfl,?_⟩
   simp only[h2M,h2P] at w2
   show 4+wt (d5F s).ts≤_
   omega
  rw[if_neg h1] at he ⊢
  by_cases h2:atM [102,97,108,115,101] s=true
  ·rw[if_pos h2] at he ⊢
   have w2:=g0I h.wf h2
   refine⟨by rw[d3L];rfl,by rw[f6G];rfl,?_⟩
   simp only[h2M,h2P] at w2
   show 5+wt (d5F s).ts≤_
   omega
  rw[if_neg h2] at he ⊢
  by_cases h5:atM [104,97,115,104] s=true
  ·rw[if_pos h5] at he ⊢
   have l2:=d6N h.wf (d6M h5)
   have w2:=g0I h.wf h5
   have g2:=h.of (d6L h.wf)
   obtain⟨v1,c1,w1⟩:=ih.ha _ g2 (by omega) he
   refine⟨v1,c1,?_⟩
   simp only[h2M,h2P] at w2
   omega
  rw[if_neg h5] at he ⊢
  by_cases h6:atM [91] s=true
  ·rw[if_pos h6] at he ⊢
   simp only at he ⊢
   have l2:=d6N h.wf (d6M h6)
   have w2:=g0I h.wf h6
   have g2:=h.of (d6L h.wf)
   have s3:=(R.li _ g2.wf).suf
   have g3:=g2.of s3
   obtain⟨a4,q4⟩:=g0J he
   have x3:=g0M he
   have w4:=g0I g3.wf a4
   have r1:=ih.li _ g2 (by omega) x3
   have hlen:1≤(d5T n (d5F s)).1.length:=List.length_pos_iff.2 r1.ne
   refine⟨g0S ?_ r1.v,g0T r1.c,?_⟩
   ·show(decide ((1:Int)≤((d5T n (d5F s)).1.length:Int))&&decide ((0:Int)=0)&&decide (([]:Nm)=[]))=true
    rw[h4R (show(1:Int)≤((d5T n (d5F s)).1.length:Int) by omega)];rfl
   ·rw[q4,g0N,if_neg (by show ¬f5U 7 < 9;decide),g0U]
    show(txP (some (sy [91])::(f5X (((d5T n (d5F s)).1.map Go.Ky.ar).map (f5W 1))++[some (sy [93])]))).length+_≤_
    rw[f8R,f8Q]
    simp only[h2L]
    have:=r1.w
    unfold cw at this
    simp only[h2M,h2P] at w2 w4
    show 1+(_+1)+_≤_
    omega
  rw[if_neg h6] at he ⊢
  by_cases h7:atM [40] s=true
  ·rw[if_pos h7] at he ⊢
   simp only at he ⊢
   have l2:=d6N h.wf (d6M h7)
   have w2:=g0I h.wf h7
   have g2:=h.of (d6L h.wf)
   have s3:=(R.ex _ g2.wf).suf
   have g3:=g2.of s3
   obtain⟨a4,q4⟩:=g0J he
   have x3:=g0M he
   have w4:=g0I g3.wf a4
   have r1:=ih.ex _ g2 (by omega) x3
   refine⟨r1.v,r1.c,?_⟩
   rw[q4]
   have:=g0P 9 1 (d5M n (d5F s)).1
   have:=r1.w
   simp only[h2M,h2P] at w2 w4
   omega
  ·rw[if_neg h7] at he
   exact absurd he (g0K (by decide))
 ·-- arguments
  intro s h hn he
  rw[d5R] at he ⊢
  by_cases h1:atM [41] s=true
  ·rw[if_pos h1] at he ⊢
   have w2:=g0I h.wf h1
   refine⟨fun a ha=>(by cases ha),rfl,?_⟩
   simp only[h2M,h2P] at w2
   show 0+3+wt (d5F s).ts≤_
   omega
  ·rw[if_neg h1] at he ⊢
   simp only at he ⊢
   have s3:=(R.li _ h.wf).suf
   have g3:=h.of s3
   obtain⟨a4,q4⟩:=g0J he
   have x3:=g0M he
   have w4:=g0I g3.wf a4
   have r1:=ih.li _ h (by omega) x3
   refine⟨r1.v,r1.c,?_⟩
   rw[q4]
   have:=r1.w
   simp only[h2M,h2P] at w4
   omega
 ·-- hash
  intro s h hn he
  rw[d5S] at he ⊢
  by_cases hk:(d5H [40] s).hd.kind≠3
  ·rw[if_pos hk] at he
   exact absurd he (g0K (by decide))
  ·rw[if_neg hk] at he ⊢
   simp only at he ⊢
   obtain⟨a6,q6⟩:=g0J he
   have x5:=g0M he
   have x4:=g0L D.li x5
   obtain⟨a4,q4⟩:=g0J x4
   have x3:=g0M x4
   obtain⟨a1,q1⟩:=g0J (show(d5H [40] s).err=0 from x3)
   have l1:=d6N h.wf (d6M a1)
   have w1:=g0I h.wf a1
   have g1:=h.of (d6L h.wf)
   rw[q1] at hk
   have k3:(d5F s).hd.kind=3:=h1A hk
   have l2:=d6N g1.wf (by omega)
   have w2:=g0G g1.wf (by omega)
   have g2:=g1.of (d6L g1.wf)
   have G:=g1.hd
   rw[q1] at a4 q4 x5 a6 q6 ⊢
   rw[q4] at x5 a6 q6 ⊢
   have l4:=d6N g2.wf (d6M a4)
   have w4:=g0I g2.wf a4
   have g4:=g2.of (d6L g2.wf)
   have s5:=(R.li _ g4.wf).suf
   have g5:=g4.of s5
   have w6:=g0I g5.wf a6
   have r1:=ih.li _ g4 (by omega) x5
   have hlen:1≤(d5T n (d5F (d5F (d5F s)))).1.length:=List.length_pos_iff.2 r1.ne
   refine⟨?_,?_,?_⟩
   ·rw[d3L]
    show((d5T n (d5F (d5F (d5F s)))).1.all exB&&(decide ((1:Int)≤((d5T n (d5F (d5F (d5F s)))).1.length:Int))&&decide (([]:Nm)=[])))=true
    rw[h1F.2 r1.v,h4R (show(1:Int)≤((d5T n (d5F (d5F (d5F s)))).1.length:Int) by omega)];rfl
   ·rw[f6G]
    show Exp.mk 6 ((d5F s).hd.val:Int) [] (d5T n (d5F (d5F (d5F s)))).1.isEmpty (List.map f6D (d5T n (d5F (d5F (d5F s)))).1)=_
    rw[r1.c]
   ·rw[q6,g0N,if_neg (by show ¬f5U 6 < 9;decide),f6C]
    show(txP (some (kw [104,97,115,104])::some (sy [40])::some (nu ((d5F s).hd.val:Int).toNat)::some (sy [59])::none::(f5X (((d5T n (d5F (d5F (d5F s)))).1.map Go.Ky.ar).map (f5W 1))++[some (sy [41])]))).length+_≤_
    rw[f8R,f8R,f8R,f8R,f8S,f8Q,h1D]
    simp only[h2L,h2M]
    have:=r1.w
    unfold cw at this
    have:=G.nu k3
    simp only[h2M,h2P] at w1 w4 w6
    show 4+(1+((d1M (d5F s).hd.val).length+(1+(_+1+1))))+_≤_
    omega
 ·intro s h hn he
  rw[d5T] at he ⊢
  have s1:=(R.ex _ h.wf).suf
  have g1:=h.of s1
  have l1:=s1.le
  have x1:=g0L (D.ll [(d5M n s).1]) he
  have r0:=ih.ex s h (by omega) x1
  obtain⟨a1,a2,a3,a4⟩:=ih.ll _ _ g1 (by omega) (by simp) (fun a hm=>by rw[h3F] at hm;rw[hm];exact r0.v) (by simp [r0.c]) he
  refine⟨a1,a2,a3,?_⟩
  rw[g0Q] at a4
  have:=r0.w
  omega
 ·intro l s h hn hl hv hc he
  rw[d5U] at he ⊢
  by_cases h1:atM [44] s=true
  ·rw[if_pos h1] at he ⊢
   have l2:=d6N h.wf (d6M h1)
   have w2:=g0I h.wf h1
   have g2:=h.of (d6L h.wf)
   have s3:=(R.ex _ g2.wf).suf
   have g3:=g2.of s3
   have l3:=s3.le
   have x3:=g0L (D.ll (l++[(d5M n (d5F s)).1])) he
   have r1:=ih.ex _ g2 (by omega) x3
   obtain⟨a1,a2,a3,a4⟩:=ih.ll _ _ g3 (by omega) (by simp) (fun a hm=>by
    rcases h2W.1 hm with h|h
    ·exact hv a h
    ·rw[h3F] at h;rw[h];exact r1.v) (by rw[h2T,hc];simp [r1.c]) he
   refine⟨a1,a2,a3,?_⟩
   rw[g0R hl] at a4
   have:=r1.w
   simp only[h2M,h2P] at w2
   omega
  ·rw[if_neg h1] at he ⊢
   exact⟨hl,hv,hc,h3V _⟩
theorem g0Z:∀ n,RgAll n
 |0=>g0X
 |n+1=>g0Y (g0Z n)
end Go.Ky

/- KX 58: an expression that is formatted and parsed again is the same: the plain law. -/
namespace Go.Ky
open Go.Pi Go.Lx
theorem g1A:∀ (l:List UInt8) (a k:Nat),(∀ c,c∈l→d0M c=true)→a < 10 ^ k→l.foldl (fun n c=>10 * n+(c.toNat - 48)) a < 10 ^ (k+l.length)
 |[],a,k,_,h=>by simpa using h
 |c::r,a,k,hd,h=>by
  rw[List.foldl_cons,h2M,show k+(r.length+1)=(k+1)+r.length by omega]
  refine g1A r _ (k+1) (fun x hx=>hd x (h2Y _ hx)) ?_
  have hc:=hd c h2Z
  simp only[d0M,h0S,h4S,h4K] at hc
  have h57:c.toNat≤57:=hc.2
  rw[Nat.pow_succ]
  omega
theorem g1B {l:List UInt8} (hd:∀ c,c∈l→d0M c=true):d0U l < 10 ^ l.length:=by
 have:=g1A l 0 0 hd (by decide)
 rw[h4C] at this
 exact this
theorem g1C {p:UInt8→Bool}:∀ (s:List UInt8) (c:UInt8),c∈s.take (d0P p s)→p c=true
 |[],c,h=>by simp at h
 |x::r,c,h=>by
  rw[d0P] at h
  by_cases hx:p x=true
  ·rw[if_pos hx,h3M] at h
   rcases h2X.1 h with rfl|h
   ·exact hx
   ·exact g1C r c h
  ·rw[if_neg hx] at h;simp at h
theorem g1D (p:UInt8→Bool):∀ s:List UInt8,d0P p s≤s.length
 |[]=>h3V _
 |c::r=>by
  rw[d0P]
  have:=g1D p r
  split
  ·simp only[h2M];omega
  ·exact h4D _
theorem g1E {s:List UInt8} {k m v pos:Nat} (h:next s=.ok k m v):GoodT ⟨k,s.take m,v,pos⟩:=by
 match s,h with
 |[],h=>cases h
 |c::r,h =>
  rw[next] at h
  by_cases hl:d0L c=true
  ·rw[if_pos hl] at h
   unfold d0V at h
   split at h
   ·injection h with a b c';subst a;exact⟨fun h=>(by simp at h),fun h=>(by simp at h)⟩
   ·split at h
    ·cases h
    ·rename_i hk h24
     injection h with a b c'
     subst a b
     refine⟨fun _=>?_,fun h=>(by simp at h)⟩
     show d3I ((c::r).take (d0P d0N (c::r)))=true
     have hs:=d8J d0N (c::r) (d0P d0N (c::r)) (h3V _)
     have hle:=g1D d0N (c::r)
     have hlen:((c::r).take (d0P d0N (c::r))).length=d0P d0N (c::r):=by rw[h2R];omega
     have h1:1≤d0P d0N (c::r):=by
      rw[d0P,if_pos (by unfold d0N;rw[hl];rfl)];omega
     obtain⟨q,hq⟩:∃ q,d0P d0N (c::r)=q+1:=⟨d0P d0N (c::r) - 1,by omega⟩
     rw[hq] at hs hlen hk ⊢
     rw[h3M] at hs hlen hk ⊢
     rw[d3I,hl,hs,hlen,h4R (show q+1≤24 by omega)]
     simp only[decide_true,h0Z,h0U] at hk ⊢
     simpa using hk
  ·rw[if_neg hl] at h
   by_cases hd:d0M c=true
   ·rw[if_pos hd] at h
    unfold d0W at h
    split at h
    ·cases h
    ·split at h
     ·cases h
     ·injection h with a b c'
      subst a b c'
      refine⟨fun h=>(by simp at h),fun _=>?_⟩
      show(d1M (d0U ((c::r).take (d0P d0M (c::r))))).length≤((c::r).take (d0P d0M (c::r))).length
      have h1:1≤d0P d0M (c::r):=by
       rw[d0P,if_pos hd];omega
      have hle:=g1D d0M (c::r)
      have hlen:((c::r).take (d0P d0M (c::r))).length=d0P d0M (c::r):=by rw[h2R];omega
      obtain⟨q,hq⟩:∃ q,d0P d0M (c::r)=q+1:=⟨d0P d0M (c::r) - 1,by omega⟩
      have hlt:=g1B (g1C (p:=d0M) (c::r))
      rw[hlen,hq] at hlt
      rw[hlen,hq]
      exact d1W q _ hlt
   ·rw[if_neg hd] at h
    split at h
    ·injection h with a b c';subst a;exact⟨fun h=>(by simp at h),fun h=>(by simp at h)⟩
    ·split at h
     ·injection h with a b c';subst a;exact⟨fun h=>(by simp at h),fun h=>(by simp at h)⟩
     ·cases h
theorem g1F:∀ (n:Nat) (s:List UInt8) (pos:Nat) (l:List Tok),s.length=n→d0X pos s=.toks l→∀ t,t∈l→GoodT t:=by
 intro n
 induction n using Nat.strongRecOn with
 |_ n ih =>
  intro s pos l hs h t ht
  rcases d1G s with h1|⟨h1,⟨e,hn⟩|⟨k,m,v,hn⟩⟩
  ·rw[d1D h1] at h
   injection h with h
   subst h
   rw[h3F] at ht
   subst ht
   exact⟨fun h=>(by simp at h),fun h=>(by simp at h)⟩
  ·rw[d1E h1 hn] at h;cases h
  ·rw[d1F h1 hn] at h
   have hp:=d1C hn
   cases hq:d0X (pos+gap s+m) (s.drop (gap s+m)) with
   |err p e=>rw[hq] at h;cases h
   |toks q =>
    rw[hq] at h
    injection h with h
    subst h
    rcases h2X.1 ht with e|e
    ·subst e;exact g1E hn
    ·exact ih (s.drop (gap s+m)).length (by simp only[h2N] at hp ⊢;omega) _ _ q rfl hq t e
theorem g1G:∀ l:List Tok,wt l=e0L l+2 * l.length
 |[]=>rfl
 |a::r=>by
  have:=g1G r
  unfold wt e0L at *
  rw[h2U,h3K,this,h2U,h3K,h2M]
  omega
end Go.Ky

/- KX 60: the canonical texts of types and statements, in pieces; what the parser does with them. No program in sight. -/
namespace Go.Ky
open Go.Pi Go.Lx
def tyP (t:Ty):List Pc :=
 (if t.kind=2 then [some (kw [98,111,111,108])] else if t.kind=3 then [some (kw [117,105,110,116]),none,some (nu t.bits.toNat)] else [some (kw [102,105,101,108,100])]) ++
 (if 0 < t.len then [some (sy [91]),some (nu t.len.toNat),some (sy [93])] else [])
def tyO (b:Bool) (t:Ty):List Pc:=if b=true then some (sy [58])::none::tyP t else []
def stO (k:Int) (n:Nm) (b:Bool) (t:Ty) (e:Exp) (lo hi:Int) (body:List Pc):List Pc :=
 if k=1 then some (kw [108,101,116])::none::some (nmT n)::(tyO b t++none::some (sy [61])::none::(f5W 1 (ar e)++[some (sy [59])]))
 else if k=2 then some (kw [97,115,115,101,114,116])::none::(f5W 1 (ar e)++[some (sy [59])])
 else some (kw [102,111,114])::none::some (nmT n)::none::some (kw [105,110])::none::some (nu lo.toNat)::some (sy [46,46])::some (nu hi.toNat)::none::some (sy [123])::none::(body++[some (sy [125])])
mutual
def stP:St→List Pc
 |.mk k n b t e lo hi _ l=>stO k n b t e lo hi (g1H l)
def g1H:List St→List Pc
 |[]=>[]
 |s::r=>stP s++none::g1H r
end
theorem g1I (s:St):stP s=stO s.kind s.name s.typed s.ty s.ex s.lo s.hi (g1H s.body):=by cases s;rw[stP];rfl
mutual
def g1J:St→St
 |.mk k n b t e lo hi _ l=>.mk k n b t (f6D e) lo hi l.isEmpty (g1K l)
def g1K:List St→List St
 |[]=>[]
 |s::r=>g1J s::g1K r
end
theorem g1L (l:List St):g1K l=l.map g1J:=by
 induction l with
 |nil=>rfl
 |cons e r ih=>rw[g1K,ih];rfl
theorem g1M (s:St):g1J s=.mk s.kind s.name s.typed s.ty (f6D s.ex) s.lo s.hi s.body.isEmpty (s.body.map g1J):=by
 cases s;rw[g1J,g1L];rfl
mutual
def wS:St→Nat
 |.mk _ _ _ _ e _ _ _ l=>64 * zn e+2+wSs l
def wSs:List St→Nat
 |[]=>1
 |s::r=>wS s+1+wSs r
end
theorem g1N (l:List St):1≤wSs l:=by cases l <;> rw[wSs] <;> omega
theorem g1O {s:Ps} {v lo hi:Nat} {r:List Tok} (hr:r≠[]) (h1:lo≤v) (h2:v≤hi) (h3:hi≤1000000):d5J lo hi (stt s (nu v::r))=((v:Int),stt s r):=by
 unfold d5J
 rw[if_neg (by rintro(h|h);exact h rfl;exact absurd h (by show ¬v < lo;omega)),if_neg (by show ¬hi < v;omega),f6I hr]
 show(IntKind.i64.wrap (v:Int),_)=_
 rw[IntWalk.i64_in _ (by omega)]
theorem g1P {s:Ps} {n:Nm} {r:List Tok} (hr:r≠[]):d5I (stt s (nmT n::r))=(n,stt s r):=by
 unfold d5I
 rw[if_neg (by show ¬(1:Nat)≠1;decide),f6I hr]
 rfl
theorem g1Q (t:Ty):tks (tyP t)=(if t.kind=2 then [kw [98,111,111,108]] else if t.kind=3 then [kw [117,105,110,116],nu t.bits.toNat] else [kw [102,105,101,108,100]])++(if 0 < t.len then [sy [91],nu t.len.toNat,sy [93]] else []):=by
 unfold tyP
 rw[f5R]
 congr 1
 ·repeat' split
  all_goals rfl
 ·split <;> rfl
theorem g1R {t:Ty} (hv:tyB t=true) {s:Ps} {rest:List Tok} (hr:rest≠[]) :
  d5V (stt s ((if t.kind=2 then [kw [98,111,111,108]] else if t.kind=3 then [kw [117,105,110,116],nu t.bits.toNat] else [kw [102,105,101,108,100]])++rest))=(⟨t.kind,t.bits,0⟩,stt s rest):=by
 unfold tyB at hv
 split at hv
 ·cases hv
 rename_i hl
 split at hv
 ·rename_i hk
  rw[h4S] at hv
  rw[hv]
  rcases hk with hk|hk
  ·rw[hk,if_neg (by decide),if_neg (by decide)]
   unfold d5V
   rw[if_pos (by show atT _ (kw [102,105,101,108,100])=true;decide),h1L,h3G,f6I hr]
  ·rw[hk,if_pos rfl]
   unfold d5V
   rw[if_neg (by show ¬atT _ (kw [98,111,111,108])=true;decide),if_pos (by show atT _ (kw [98,111,111,108])=true;decide),h1L,h3G,f6I hr]
 ·split at hv
  ·rename_i hk
   rw[h0S,h4S,h4S] at hv
   rw[hk,if_neg (by decide),if_pos rfl]
   unfold d5V
   rw[if_neg (by show ¬atT _ (kw [117,105,110,116])=true;decide),if_neg (by show ¬atT _ (kw [117,105,110,116])=true;decide),if_pos (by show atT _ (kw [117,105,110,116])=true;decide)]
   rw[h1L,h1L,h3G,f6I (by simp),g1O hr (by omega) (by omega) (by omega),h1E (by omega)]
  ·cases hv
theorem g1S {t:Ty} (hv:tyB t=true) {s:Ps} {rest:List Tok} (hr:rest≠[]) (h9:atT [91] (hdd rest)=false):tyM (stt s (tks (tyP t)++rest))=(t,stt s rest):=by
 have hl:0≤t.len∧t.len≤64:=by
  unfold tyB at hv
  split at hv
  ·cases hv
  ·omega
 rw[g1Q,h1H]
 unfold tyM
 by_cases c:0 < t.len
 ·rw[if_pos c,g1R hv (by simp)]
  simp only
  rw[if_pos (by show atT [91] (sy [91])=true;decide),h1L,h1L,h1L,h3G,f6I (by simp),g1O (by simp) (by omega) (by omega) (by omega)]
  simp only
  rw[f6J hr rfl,h1E (by omega)]
 ·rw[if_neg c,h3G,g1R hv hr]
  simp only
  rw[if_neg (by rw[f6K,h9];simp)]
  have:t.len=0:=by omega
  obtain⟨a,b,l⟩:=t
  simp only at this
  subst this
  rfl
def g1T (t:Tok):Bool:=atT [108,101,116] t || (atT [97,115,115,101,114,116] t || atT [102,111,114] t)
theorem g1U (s:Ps) (l:List Tok):atS (stt s l)=g1T (hdd l):=rfl
structure Smt (x:St):Prop where
 ps:∀ (s:Ps) (rest:List Tok) (n:Nat),rest≠[]→wS x≤n→d6A n (stt s (tks (stP x)++rest))=(g1J x,stt s rest)
 hd:∃ t r,tks (stP x)=t::r∧g1T t=true
theorem g1V:Fo 0 (sy [59]):=⟨by intro j _ hj;match j,hj with|0,_=>rfl|1,_=>rfl|2,_=>rfl|3,_=>rfl|4,_=>rfl,rfl,rfl⟩
theorem g1W {e:Exp} (hv:exB e=true) (ho:ExpOk e) {s:Ps} {rest:List Tok} {n:Nat} (hr:rest≠[]) (hn:64 * zn e≤n):d5M n (stt s (tks (f5W 1 (ar e))++sy [59]::rest))=(f6D e,stt s (sy [59]::rest)) :=
 (f8P e hv ho).ex s (sy [59]::rest) n (by simp) hn g1V rfl
theorem g1X:∀ (l:List St),(∀ a,a∈l→dSt (g1J a)=dSt a)→d3T (l.map g1J)=d3T l
 |[],_=>rfl
 |a::r,h=>by
  rw[h2U,d3T,d3T,h a h2Z,g1X r fun x hx=>h x (h2Y _ hx)]
theorem g1Y:∀ s:St,dSt (g1J s)=dSt s:=by
 refine St.ind fun s ih=>?_
 rw[d3V,d3V,g1M]
 show d3T (s.body.map g1J)+1=_
 rw[g1X _ ih]
theorem g1Z (e:Exp):shE (f6D e)=shE e:=by unfold shE;rw[g0D]
theorem g2A:∀ s:St,shS (g1J s)=shS s:=by
 refine St.ind fun s ih=>?_
 rw[d4A,d4A s,g1Y,g1M]
 show(decide _&&shE (f6D s.ex)&&(s.body.map g1J).all shS)=_
 rw[g1Z,List.all_map]
 congr 1
 have key:∀ l:List St,(∀ a,a∈l→shS (g1J a)=shS a)→l.all (shS ∘ g1J)=l.all shS:=by
  intro l
  induction l with
  |nil=>intro _;rfl
  |cons a r ih2 =>
   intro ih
   rw[List.all_cons,List.all_cons,ih2 fun x hx=>ih x (h2Y _ hx),Function.comp_apply,ih a h2Z]
 exact key s.body ih
theorem g2B {x:St} (h:shS x=true):d5X x=false:=by
 unfold d5X d4B
 refine h4P ?_
 simp only[List.all_nil,List.all_cons,h0Z,Bool.and_true,h]
 split
 ·decide
 ·rw[if_neg (by simp)];decide
theorem g2C (p:Int) (s:Ps):d5K p false s=s:=by unfold d5K;simp
theorem g2D:∀ (l:List St),(∀ a,a∈l→Smt a)→∀ (o:Bool),(o=true→∀ a,a∈l→shS a=true)→∀ (s:Ps) (rest:List Tok) (n:Nat) (acc:List St),rest≠[]→wSs l≤n→g1T (hdd rest)=false →
  d6B n o acc (stt s (tks (g1H l)++rest))=(acc++l.map g1J,stt s rest)
 |[],_,o,_,s,rest,n,acc,hr,hn,h9=>by
  obtain⟨n0,rfl,h0⟩:=f6L (m:=0) (n:=n) (by rw[wSs] at hn;omega)
  rw[show tks (g1H [])++rest=rest from rfl,d6B,if_neg (by rw[g1U,h9];simp),h2V,h1J]
 |a::r,hl,o,ho,s,rest,n,acc,hr,hn,h9=>by
  rw[wSs] at hn
  have hw:=g1N r
  obtain⟨n0,rfl,h0⟩:=f6L (m:=wS a+wSs r) (n:=n) (by omega)
  have ha:=hl a h2Z
  obtain⟨t,q,e1,e2⟩:=ha.hd
  have hrest:tks (g1H r)++rest≠[]:=fun e=>hr (h1I.1 e).2
  have e3:tks (g1H (a::r))++rest=tks (stP a)++(tks (g1H r)++rest):=by rw[g1H,f5R,f5T,h1H]
  have hs:=ha.ps s (tks (g1H r)++rest) n0 hrest (by omega)
  rw[e3,d6B,if_pos (by rw[g1U,e1];exact e2),hs]
  simp only
  have hd:(if o=true then d5K (stt s (tks (stP a)++(tks (g1H r)++rest))).hd.pos (d5X (g1J a)) (stt s (tks (g1H r)++rest)) else stt s (tks (g1H r)++rest))=stt s (tks (g1H r)++rest):=by
   split
   ·rename_i h
    rw[g2B (by rw[g2A];exact ho h a h2Z),g2C]
   ·rfl
  rw[hd,g2D r (fun x hx=>hl x (h2Y _ hx)) o (fun h x hx=>ho h x (h2Y _ hx)) s rest n0 (acc++[g1J a]) hr (by omega) h9]
  simp
theorem g2E (n:Nm) (b:Bool) (t:Ty) (e:Exp) (lo hi:Int) (body:List Pc):tks (stO 1 n b t e lo hi body)=kw [108,101,116]::nmT n::(tks (tyO b t)++sy [61]::(tks (f5W 1 (ar e))++[sy [59]])):=by
 unfold stO
 rw[if_pos rfl]
 simp only[f5S,f5T,f5R]
 rfl
theorem g2F (n:Nm) (b:Bool) (t:Ty) (e:Exp) (lo hi:Int) (body:List Pc):tks (stO 2 n b t e lo hi body)=kw [97,115,115,101,114,116]::(tks (f5W 1 (ar e))++[sy [59]]):=by
 unfold stO
 rw[if_neg (by decide),if_pos rfl]
 simp only[f5S,f5T,f5R]
 rfl
theorem g2G (n:Nm) (b:Bool) (t:Ty) (e:Exp) (lo hi:Int) (body:List Pc):tks (stO 3 n b t e lo hi body)=kw [102,111,114]::nmT n::kw [105,110]::nu lo.toNat::sy [46,46]::nu hi.toNat::sy [123]::(tks body++[sy [125]]):=by
 unfold stO
 rw[if_neg (by decide),if_neg (by decide)]
 simp only[f5S,f5T,f5R]
 rfl
theorem g2H {e:Exp} (h:d3M e=true):f6D e=zEx∧e.args=[]:=by
 unfold d3M at h
 simp only[h0S,h4S] at h
 obtain⟨⟨⟨h1,h2⟩,h3⟩,h4⟩:=h
 have h5:e.args=[]:=h1P (by omega)
 rw[f6G,h1,h2,h3,h5]
 exact⟨rfl,rfl⟩
theorem g2I:∀ s:St,stB s=true→StOk s→Smt s:=by
 refine St.ind fun s ih hv ho=>?_
 obtain⟨k,n,b,t,e,lo,hi,nl,l⟩:=s
 cases ho with|mk _ h1 h2 h3 h4 h5 h6 h7 h8 h =>
 have h4:ExpOk e:=h4
 have h:∀ a,a∈l→StOk a:=h
 have ih:∀ a,a∈l→stB a=true→StOk a→Smt a:=ih
 rw[stB] at hv
 by_cases k1:k=1
 ·subst k1
  rw[if_pos rfl] at hv
  simp only[h0S,h4S] at hv
  obtain⟨⟨⟨⟨⟨g1,g2⟩,g3⟩,g4⟩,g5⟩,g6⟩:=hv
  obtain rfl:l=[]:=h1P (by omega)
  subst g4 g5
  refine⟨fun s rest m hr hm=>?_,by rw[stP];exact⟨_,_,g2E _ _ _ _ _ _ _,rfl⟩⟩
  rw[wS] at hm
  obtain⟨n0,rfl,h0⟩:=f6L (m:=64 * zn e) (n:=m) (by omega)
  rw[stP,g2E,d6A,if_pos (by rfl),h1L,f6I (by simp),h1L]
  have hX:(tks (tyO b t)++sy [61]::(tks (f5W 1 (ar e))++[sy [59]]))++rest=tks (tyO b t)++sy [61]::(tks (f5W 1 (ar e))++sy [59]::rest):=by simp
  rw[hX]
  unfold d5Y
  simp only
  have hne:tks (tyO b t)++sy [61]::(tks (f5W 1 (ar e))++sy [59]::rest)≠[]:=by simp
  rw[g1P hne]
  simp only
  cases b with
  |false =>
   have ht:t=zTy:=by simpa using g1
   have e0:tks (tyO false t)=[]:=rfl
   rw[e0,h3G]
   have ha:atM [58] (stt s (sy [61]::(tks (f5W 1 (ar e))++sy [59]::rest)))=false:=rfl
   rw[ha]
   simp only[h0T,if_false]
   rw[f6J (by simp) rfl,g1W g3 h4 hr h0]
   simp only
   rw[f6J hr rfl,g1M,ht]
   rfl
  |true =>
   have ht:tyB t=true:=by simpa using g1
   have e0:tks (tyO true t)=sy [58]::tks (tyP t):=rfl
   rw[e0,h1L]
   have ha:atM [58] (stt s (sy [58]::(tks (tyP t)++sy [61]::(tks (f5W 1 (ar e))++sy [59]::rest))))=true:=rfl
   rw[ha]
   simp only[if_true]
   rw[f6I (by simp),g1S ht (by simp) rfl]
   simp only
   rw[f6J (by simp) rfl,g1W g3 h4 hr h0]
   simp only
   rw[f6J hr rfl,g1M]
   rfl
 rw[if_neg k1] at hv
 by_cases k2:k=2
 ·subst k2
  rw[if_pos rfl] at hv
  simp only[h0S,h4S,h0U] at hv
  obtain⟨⟨⟨⟨⟨g1,g2,g2'⟩,g3⟩,g4⟩,g5⟩,g6⟩:=hv
  obtain rfl:l=[]:=h1P (by omega)
  subst g4 g5 g1 g2 g2'
  refine⟨fun s rest m hr hm=>?_,by rw[stP];exact⟨_,_,g2F _ _ _ _ _ _ _,rfl⟩⟩
  rw[wS] at hm
  obtain⟨n0,rfl,h0⟩:=f6L (m:=64 * zn e) (n:=m) (by omega)
  have hX:(kw [97,115,115,101,114,116]::(tks (f5W 1 (ar e))++[sy [59]]))++rest=kw [97,115,115,101,114,116]::(tks (f5W 1 (ar e))++sy [59]::rest):=by simp
  rw[stP,g2F,hX,d6A,if_neg (by show ¬(kw [97,115,115,101,114,116]).text=_;decide),if_pos (by rfl),f6I (by simp)]
  unfold d5Z
  simp only
  rw[g1W g3 h4 hr h0]
  simp only
  rw[f6J hr rfl,g1M]
  rfl
 rw[if_neg k2] at hv
 split at hv
 ·rename_i k3
  subst k3
  simp only[h0S,h4S,h0U,d3N] at hv
  obtain⟨⟨⟨⟨⟨g1,g2,g2'⟩,g3⟩,g4,g4'⟩,g5,g5'⟩,g6⟩:=hv
  subst g2 g2'
  rw[d3Q,h1F] at g6
  obtain⟨ce,_⟩:=g2H g3
  have hl:∀ a,a∈l→Smt a:=fun a ha=>ih a ha (g6 a ha) (h a ha)
  refine⟨fun s rest m hr hm=>?_,by rw[stP];exact⟨_,_,g2G _ _ _ _ _ _ _,rfl⟩⟩
  rw[wS] at hm
  obtain⟨n0,rfl,h0⟩:=f6L (m:=wSs l) (n:=m) (by omega)
  have hX:(kw [102,111,114]::nmT n::kw [105,110]::nu lo.toNat::sy [46,46]::nu hi.toNat::sy [123]::(tks (g1H l)++[sy [125]]))++rest=kw [102,111,114]::nmT n::kw [105,110]::nu lo.toNat::sy [46,46]::nu hi.toNat::sy [123]::(tks (g1H l)++sy [125]::rest):=by simp
  rw[stP,g2G,hX,d6A,if_neg (by show ¬(kw [102,111,114]).text=_;decide),if_neg (by show ¬(kw [102,111,114]).text=_;decide),if_pos (by rfl),f6I (by simp)]
  simp only
  rw[g1P (by simp)]
  simp only
  rw[f6J (by simp) rfl,g1O (by simp) (by omega) (by omega) (by omega)]
  simp only
  rw[f6J (by simp) rfl,g1O (by simp) (by omega) (by omega) (by omega)]
  simp only
  rw[f6J (by simp) rfl,g2D l hl false (by simp) s (sy [125]::rest) n0 [] (by simp) h0 rfl]
  simp only
  rw[f6J hr rfl,g1M,h1E (by omega),h1E (by omega),h3G]
  show _=(St.mk 3 n false zTy (f6D e) lo hi l.isEmpty (l.map g1J),_)
  rw[ce]
  cases l <;> rfl
 ·cases hv
end Go.Ky

/- KX 61: the canonical texts of functions, declarations and programs, in pieces; what the parser does with them. No program in sight. -/
namespace Go.Ky
open Go.Pi Go.Lx
def paP (p:Pa):List Pc:=some (nmT p.name)::some (sy [58])::none::tyP p.ty
def fnP (f:Fu):List Pc :=
 some (kw [102,110])::none::some (nmT f.name)::some (sy [40])::(f5X (f.params.map paP)++some (sy [41])::some (sy [58])::none::(tyP f.res++none::some (sy [123])::none::(g1H f.body++some (kw [114,101,116,117,114,110])::none::(f5W 1 (ar f.ret)++[some (sy [59]),none,some (sy [125])]))))
def g2J (b:Bool):Nm:=if b=true then [112,117,98,108,105,99] else [115,101,99,114,101,116]
def deP (d:De):List Pc:=some (kw (g2J d.pub))::none::some (nmT d.name)::some (sy [58])::none::(tyP d.ty++[some (sy [59])])
def g2K (f:Fu):Fu:=⟨f.name,f.params.isEmpty,f.params,f.res,f.body.isEmpty,f.body.map g1J,f6D f.ret⟩
def g2L (p:Pg):Pg:=⟨p.funcs.isEmpty,p.funcs.map g2K,p.decls.isEmpty,p.decls,p.body.isEmpty,p.body.map g1J⟩
def wF (f:Fu):Nat:=f.params.length+wSs f.body+64 * zn f.ret+2
def wFs:List Fu→Nat
 |[]=>1
 |f::r=>wF f+1+wFs r
def wP (p:Pg):Nat:=wFs p.funcs+p.decls.length+wSs p.body+2
theorem g2M {p:Pa} (hv:paB p=true) {s:Ps} {rest:List Tok} (hr:rest≠[]) (h9:atT [91] (hdd rest)=false):d5W (stt s (tks (paP p)++rest))=(p,stt s rest):=by
 unfold paB at hv
 rw[h0S] at hv
 have e:tks (paP p)++rest=nmT p.name::sy [58]::(tks (tyP p.ty)++rest):=rfl
 have hne:tks (tyP p.ty)++rest≠[]:=fun e=>hr (h1I.1 e).2
 rw[e]
 unfold d5W
 rw[g1P (by simp)]
 simp only
 rw[f6J hne rfl,g1S hv.2 hr h9]
theorem g2N:∀ (l:List Pa),(∀ a,a∈l→paB a=true)→∀ (s:Ps) (rest:List Tok) (n:Nat) (acc:List Pa),rest≠[]→l.length+1≤n→atT [44] (hdd rest)=false→atT [91] (hdd rest)=false →
  d6C n acc (stt s (tks ((l.map paP).flatMap fun y=>some (sy [44])::none::y)++rest))=(acc++l,stt s rest)
 |[],_,s,rest,n,acc,hr,hn,h9,h8=>by
  obtain⟨n0,rfl,h0⟩:=f6L (m:=0) (n:=n) (by simpa using hn)
  rw[show tks (([].map paP).flatMap fun y=>some (sy [44])::none::y)++rest=rest from rfl,d6C,if_neg (by rw[f6K,h9];simp),h1J]
 |a::r,hl,s,rest,n,acc,hr,hn,h9,h8=>by
  simp only[h2M] at hn
  obtain⟨n0,rfl,h0⟩:=f6L (m:=r.length+1) (n:=n) (by omega)
  have e:tks (((a::r).map paP).flatMap fun y=>some (sy [44])::none::y)++rest=sy [44]::(tks (paP a)++(tks ((r.map paP).flatMap fun y=>some (sy [44])::none::y)++rest)):=by
   rw[h2U,h1R,f5R,f5S,f5T,h1H]
   rfl
  have hrest:tks ((r.map paP).flatMap fun y=>some (sy [44])::none::y)++rest≠[]:=fun e=>hr (h1I.1 e).2
  have h91:atT [91] (hdd (tks ((r.map paP).flatMap fun y=>some (sy [44])::none::y)++rest))=false:=by
   cases r with
   |nil=>exact h8
   |cons b r=>rfl
  rw[e,d6C,if_pos (by show atT [44] (sy [44])=true;decide),f6I (fun e=>hrest (h1I.1 e).2),g2M (hl a h2Z) hrest h91]
  simp only
  rw[g2N r (fun x hx=>hl x (h2Y _ hx)) s rest n0 (acc++[a]) hr h0 h9 h8]
  simp
theorem g2O {l:List Pa} (hl:∀ a,a∈l→paB a=true) {s:Ps} {rest:List Tok} {n:Nat} (hr:rest≠[]) (hn:l.length+1≤n):d6D n (stt s (tks (f5X (l.map paP))++sy [41]::rest))=(l,stt s (sy [41]::rest)):=by
 unfold d6D
 cases l with
 |nil=>rw[show tks (f5X (([]:List Pa).map paP))++sy [41]::rest=sy [41]::rest from rfl,if_pos (by show atT [41] (sy [41])=true;decide)]
 |cons a r =>
  simp only[h2M] at hn
  have e:tks (f5X ((a::r).map paP))++sy [41]::rest=tks (paP a)++(tks ((r.map paP).flatMap fun y=>some (sy [44])::none::y)++sy [41]::rest):=by
   rw[h2U,f5X,f5R,h1H]
  have h91:atT [91] (hdd (tks ((r.map paP).flatMap fun y=>some (sy [44])::none::y)++sy [41]::rest))=false:=by
   cases r with
   |nil=>rfl
   |cons b r=>rfl
  rw[e,if_neg (by show ¬atT [41] (nmT a.name)=true;unfold atT;intro h;simp only[h0S,h4S] at h;have:=hl a h2Z;unfold paB at this;rw[h0S] at this;have h1:=this.1;rw[show a.name=[41] from h.2] at h1;exact absurd h1 (by decide))]
  rw[g2M (hl a h2Z) (by simp) h91]
  simp only
  rw[g2N r (fun x hx=>hl x (h2Y _ hx)) s (sy [41]::rest) n [a] (by simp) (by omega) rfl rfl]
  rfl
theorem g2P (f:Fu):tks (fnP f)=kw [102,110]::nmT f.name::sy [40]::(tks (f5X (f.params.map paP))++sy [41]::sy [58]::(tks (tyP f.res)++sy [123]::(tks (g1H f.body)++kw [114,101,116,117,114,110]::(tks (f5W 1 (ar f.ret))++[sy [59],sy [125]])))):=by
 unfold fnP
 simp only[f5S,f5T,f5R]
 rfl
theorem g2Q {f:Fu} (hv:fuB f=true) (hs:shF f=true) (ho:FuOk f) {s:Ps} {rest:List Tok} {n:Nat} (hr:rest≠[]) (hn:wF f≤n):fnM n (stt s (tks (fnP f)++rest))=(g2K f,stt s rest):=by
 unfold fuB at hv
 simp only[h0S,h1F] at hv
 obtain⟨⟨⟨⟨g1,g2⟩,g3⟩,g4⟩,g5⟩:=hv
 unfold shF at hs
 rw[h0S,h1F] at hs
 unfold wF at hn
 have hw:=g1N f.body
 have hd:¬((dEx (f6D f.ret):Int) > 40):=by
  have:=hs.2
  unfold shE at this
  rw[h4S] at this
  rw[g0D];omega
 have e:tks (fnP f)++rest=kw [102,110]::nmT f.name::sy [40]::(tks (f5X (f.params.map paP))++sy [41]::sy [58]::(tks (tyP f.res)++sy [123]::(tks (g1H f.body)++kw [114,101,116,117,114,110]::(tks (f5W 1 (ar f.ret))++sy [59]::sy [125]::rest)))):=by
  rw[g2P]
  simp
 rw[e]
 unfold fnM
 simp only
 rw[f6J (by simp) rfl,g1P (by simp)]
 simp only
 rw[f6J (by simp) rfl,g2O g2 (by simp) (by omega)]
 simp only
 rw[f6J (by simp) rfl,f6J (by simp) rfl,g1S g3 (by simp) rfl]
 simp only
 rw[f6J (by simp) rfl,g2D f.body (fun a ha=>g2I a (g4 a ha) (ho.bo a ha)) true (fun _=>hs.1) s _ n [] (by simp) (by omega) rfl]
 simp only
 rw[f6J (by simp) rfl,g1W g5 ho.ret (by simp) (by omega)]
 simp only
 rw[h4P hd,g2C,f6J (by simp) rfl,f6J hr rfl,h3G]
 unfold g2K
 cases f.body <;> rfl
theorem g2R {d:De} (hv:deB d=true) {s:Ps} {rest:List Tok} (hr:rest≠[]):d6E (stt s (tks (deP d)++rest))=(d,stt s rest):=by
 unfold deB at hv
 rw[h0S] at hv
 have e:tks (deP d)++rest=kw (g2J d.pub)::nmT d.name::sy [58]::(tks (tyP d.ty)++sy [59]::rest):=by
  unfold deP
  simp only[f5S,f5T,f5R,h1L,h1H]
  rfl
 rw[e]
 unfold d6E
 simp only
 rw[f6I (by simp),g1P (by simp)]
 simp only
 rw[f6J (by simp) rfl,g1S hv.2 (by simp) rfl]
 simp only
 rw[f6J hr rfl]
 have:decide ((stt s (kw (g2J d.pub)::nmT d.name::sy [58]::(tks (tyP d.ty)++sy [59]::rest))).hd.text=[112,117,98,108,105,99])=d.pub:=by
  show decide (g2J d.pub=[112,117,98,108,105,99])=d.pub
  cases d.pub <;> decide
 rw[this]
def g2S (l:List Fu):List Tok:=l.flatMap fun f=>tks (fnP f)
def g2T (l:List De):List Tok:=l.flatMap fun d=>tks (deP d)
theorem g2U:∀ (l:List Fu),(∀ a,a∈l→fuB a=true∧shF a=true∧FuOk a)→∀ (s:Ps) (rest:List Tok) (n:Nat) (acc:List Fu),rest≠[]→wFs l≤n→atT [102,110] (hdd rest)=false →
  d6F n acc (stt s (g2S l++rest))=(acc++l.map g2K,stt s rest)
 |[],_,s,rest,n,acc,hr,hn,h9=>by
  obtain⟨n0,rfl,h0⟩:=f6L (m:=0) (n:=n) (by simpa [wFs] using hn)
  rw[show g2S []++rest=rest from rfl,d6F,if_neg (by rw[f6K,h9];simp),h2V,h1J]
 |a::r,hl,s,rest,n,acc,hr,hn,h9=>by
  rw[wFs] at hn
  obtain⟨n0,rfl,h0⟩:=f6L (m:=wF a+wFs r) (n:=n) (by omega)
  obtain⟨v1,v2,v3⟩:=hl a h2Z
  have e:g2S (a::r)++rest=tks (fnP a)++(g2S r++rest):=by unfold g2S;rw[h1R,h1H]
  have hrest:g2S r++rest≠[]:=fun e=>hr (h1I.1 e).2
  have hf:=g2Q v1 v2 v3 (s:=s) (rest:=g2S r++rest) (n:=n0) hrest (by omega)
  rw[e,d6F,if_pos (by rw[f6K,g2P];rfl),hf]
  simp only
  rw[g2U r (fun x hx=>hl x (h2Y _ hx)) s rest n0 (acc++[g2K a]) hr (by omega) h9]
  simp
theorem g2V:∀ (l:List De),(∀ a,a∈l→deB a=true)→∀ (s:Ps) (rest:List Tok) (n:Nat) (acc:List De),rest≠[]→l.length+1≤n→(atT [112,117,98,108,105,99] (hdd rest) || atT [115,101,99,114,101,116] (hdd rest))=false →
  d6G n acc (stt s (g2T l++rest))=(acc++l,stt s rest)
 |[],_,s,rest,n,acc,hr,hn,h9=>by
  obtain⟨n0,rfl,h0⟩:=f6L (m:=0) (n:=n) (by simpa using hn)
  rw[show g2T []++rest=rest from rfl,d6G,if_neg (by rw[f6K,f6K,h9];simp),h1J]
 |a::r,hl,s,rest,n,acc,hr,hn,h9=>by
  simp only[h2M] at hn
  obtain⟨n0,rfl,h0⟩:=f6L (m:=r.length+1) (n:=n) (by omega)
  have e:g2T (a::r)++rest=tks (deP a)++(g2T r++rest):=by unfold g2T;rw[h1R,h1H]
  have hrest:g2T r++rest≠[]:=fun e=>hr (h1I.1 e).2
  rw[e,d6G,if_pos (by rw[f6K,f6K];show(atT _ (kw (g2J a.pub)) || atT _ (kw (g2J a.pub)))=true;cases a.pub <;> decide),g2R (hl a h2Z) hrest]
  simp only
  rw[g2V r (fun x hx=>hl x (h2Y _ hx)) s rest n0 (acc++[a]) hr h0 h9]
  simp
def g2W (p:Pg):List Tok:=g2S p.funcs++(g2T p.decls++tks (g1H p.body))
theorem g2X {l:List St} (hl:∀ a,a∈l→Smt a) (p:Nat) (t:Nm) (h:∀ x,g1T x=true→atT t x=false):atT t (hdd (tks (g1H l)++[g0E p]))=false:=by
 cases l with
 |nil=>rfl
 |cons a r =>
  obtain⟨x,q,e1,e2⟩:=(hl a h2Z).hd
  have:tks (g1H (a::r))++[g0E p]=x::(q++(tks (g1H r)++[g0E p])):=by rw[g1H,f5R,f5T,e1];simp
  rw[this]
  exact h x e2
theorem g2Y {t:Nm} (h:t≠[108,101,116]∧t≠[97,115,115,101,114,116]∧t≠[102,111,114]):∀ x,g1T x=true→atT t x=false:=by
 intro x hx
 unfold g1T atT at hx
 simp only[h0Y,h0S,h4S] at hx
 unfold atT
 rw[h0R]
 right
 refine h4P fun e=>?_
 rw[e] at hx
 rcases hx with⟨_,h1⟩|⟨_,h1⟩|⟨_,h1⟩
 ·exact h.1 h1
 ·exact h.2.1 h1
 ·exact h.2.2 h1
theorem g2Z {p:Pg} (hv:d4B p=0) (ho:PgOk p) {s:Ps} {q n:Nat} (hn:wP p≤n):d6J n (stt s (g2W p++[g0E q]))=(g2L p,stt s [g0E q]):=by
 unfold d4B at hv
 split at hv
 ·cases hv
 rename_i h1
 split at hv
 ·cases hv
 rename_i h2
 rw[Bool.not_eq_false] at h1 h2
 simp only[h0S,h1F] at h1 h2
 obtain⟨⟨a1,a2⟩,a3⟩:=h1
 obtain⟨b1,b2⟩:=h2
 have hm:∀ a,a∈p.body→Smt a:=fun a ha=>g2I a (a3 a ha) (ho.bo a ha)
 unfold wP at hn
 have hw:=g1N p.body
 have e:g2W p++[g0E q]=g2S p.funcs++(g2T p.decls++(tks (g1H p.body)++[g0E q])):=by unfold g2W;simp
 rw[e]
 unfold d6J
 simp only
 have hb0:tks (g1H p.body)++[g0E q]≠[]:=by simp
 have hfn:atT [102,110] (hdd (g2T p.decls++(tks (g1H p.body)++[g0E q])))=false:=by
  cases hd:p.decls with
  |nil=>exact g2X hm q _ (g2Y (by decide))
  |cons d r =>
   show atT [102,110] (kw (g2J d.pub))=false
   cases d.pub <;> decide
 rw[g2U p.funcs (fun a ha=>⟨a1 a ha,b1 a ha,ho.fo a ha⟩) s _ n [] (by simp) (by omega) hfn]
 simp only
 rw[g2V p.decls a2 s _ n [] hb0 (by omega) (by rw[g2X hm q _ (g2Y (by decide)),g2X hm q _ (g2Y (by decide))];rfl)]
 simp only
 rw[g2D p.body hm true (fun _=>b2) s [g0E q] n [] (by simp) (by omega) rfl]
 simp only[h3G]
 have he:d6H (stt s [g0E q])=stt s [g0E q]:=by
  unfold d6H
  rw[if_neg (by show ¬(0:Nat)≠0;decide)]
 rw[he]
 unfold g2L
 cases p.funcs <;> cases p.decls <;> cases p.body <;> rfl
end Go.Ky

/- KX 62: the lexer finds the tokens of a program's canonical text. No program in sight. -/
namespace Go.Ky
open Go.Pi Go.Lx
theorem g3A (z:List UInt8):Bd (sy [123]) z:=f9J (by decide) (by decide) (f9L (by decide) (by decide) (by decide) (by decide)) (by decide) (by decide) (by decide)
theorem g3B (z:List UInt8):Bd (sy [125]) z:=f9J (by decide) (by decide) (f9L (by decide) (by decide) (by decide) (by decide)) (by decide) (by decide) (by decide)
theorem g3C (z:List UInt8):Bd (sy [61]) (32::z):=f9I (by decide) (by decide) (f8U (by decide)) (by decide) (by decide) (fun h=>absurd h (by decide))
theorem g3D (z:List UInt8):Bd (sy [46,46]) z:=f9K (by decide) (by decide) (by decide) (by decide) (by decide)
theorem g3E (z:List UInt8):Nz (32::z):=f9M (by decide)
theorem g3F {t:Ty} (hv:tyB t=true):∀ z,Nz z→f8V (tyP t) z:=by
 intro z hz
 unfold tyB at hv
 split at hv
 ·cases hv
 rename_i hl
 unfold tyP
 rw[f8W]
 have hb:Nz (txP (if 0 < t.len then [some (sy [91]),some (nu t.len.toNat),some (sy [93])] else [])++z):=by
  split
  ·exact f9M (c:=91) (by decide)
  ·exact hz
 refine⟨?_,?_⟩
 ·split
  ·exact⟨f9G (by decide) ⟨_,_,rfl,by decide⟩ (by decide) hb,trivial⟩
  ·split at hv
   ·rw[if_neg (by omega)]
    exact⟨f9G (by decide) ⟨_,_,rfl,by decide⟩ (by decide) hb,trivial⟩
   ·split at hv
    ·rename_i hk
     rw[h0S,h4S,h4S] at hv
     rw[if_pos hk]
     exact⟨f9W (by decide) ⟨_,_,rfl,by decide⟩ (by decide),f9H (by omega) (f9N hb),trivial⟩
    ·cases hv
 ·split
  ·exact⟨f9Q _,f9H (by omega) (f8U (c:=93) (by decide)),f9R _,trivial⟩
  ·trivial
theorem g3G {p:Pa} (hv:paB p=true):∀ z,Nz z→f8V (paP p) z:=by
 intro z hz
 unfold paB at hv
 rw[h0S] at hv
 exact⟨f9F hv.1 (f9M (c:=58) (by decide)),f9U _,g3F hv.2 z hz⟩
theorem g3H:∀ (l:List Pa),(∀ a,a∈l→paB a=true)→∀ z,Nz z→f8V (f5X (l.map paP)) z
 |[],_,z,_=>trivial
 |a::r,h,z,hz=>by
  have more:∀ r:List Pa,(∀ a,a∈r→paB a=true)→f8V ((r.map paP).flatMap fun y=>some (sy [44])::none::y) z∧Nz (txP ((r.map paP).flatMap fun y=>some (sy [44])::none::y)++z):=by
   intro r
   induction r with
   |nil=>intro _;exact⟨trivial,hz⟩
   |cons b r ih =>
    intro hb
    obtain⟨i1,i2⟩:=ih fun a ha=>hb a (h2Y _ ha)
    refine⟨?_,f9M (c:=44) (by decide)⟩
    rw[h2U,h1R,f8W]
    exact⟨⟨f9S _,g3G (hb b h2Z) _ i2⟩,i1⟩
  obtain⟨m1,m2⟩:=more r fun a ha=>h a (h2Y _ ha)
  rw[h2U,f5X,f8W]
  exact⟨g3G (h a h2Z) _ m2,m1⟩
theorem g3I:∀ (l:List St),(∀ a,a∈l→∀ z,f8V (stP a) z)→∀ z,f8V (g1H l) z
 |[],_,z=>trivial
 |a::r,h,z=>by
  rw[g1H,f8W]
  exact⟨h a h2Z _,g3I r (fun x hx=>h x (h2Y _ hx)) z⟩
theorem g3J:∀ s:St,stB s=true→StOk s→∀ z,f8V (stP s) z:=by
 refine St.ind fun s ih hv ho z=>?_
 obtain⟨k,n,b,t,e,lo,hi,nl,l⟩:=s
 cases ho with|mk _ h1 h2 h3 h4 h5 h6 h7 h8 h =>
 have h4:ExpOk e:=h4
 have h:∀ a,a∈l→StOk a:=h
 have ih:∀ a,a∈l→stB a=true→StOk a→∀ z,f8V (stP a) z:=ih
 rw[stB] at hv
 rw[stP]
 unfold stO
 by_cases k1:k=1
 ·rw[if_pos k1] at hv ⊢
  simp only[h0S,h4S] at hv
  obtain⟨⟨⟨⟨⟨g1,g2⟩,g3⟩,g4⟩,g5⟩,g6⟩:=hv
  refine⟨f9W (by decide) ⟨_,_,rfl,by decide⟩ (by decide),?_⟩
  have hE:f8V (none::some (sy [61])::none::(f5W 1 (ar e)++[some (sy [59])])) z:=by
   refine⟨g3C _,?_⟩
   show f8V (f5W 1 (ar e)++[some (sy [59])]) z
   rw[f8W]
   exact⟨g0B e g3 h4 1 _ (f9M (c:=59) (by decide)),f9T _,trivial⟩
  cases b with
  |false=>exact⟨f9F g2 (g3E _),hE⟩
  |true =>
   have ht:tyB t=true:=by simpa using g1
   refine⟨f9F g2 (f9M (c:=58) (by decide)),?_⟩
   rw[f8W]
   exact⟨⟨f9U _,g3F ht _ (g3E _)⟩,hE⟩
 rw[if_neg k1] at hv ⊢
 by_cases k2:k=2
 ·rw[if_pos k2] at hv ⊢
  simp only[h0S,h4S] at hv
  obtain⟨⟨⟨⟨⟨g1,g2⟩,g3⟩,g4⟩,g5⟩,g6⟩:=hv
  refine⟨f9W (by decide) ⟨_,_,rfl,by decide⟩ (by decide),?_⟩
  show f8V (f5W 1 (ar e)++[some (sy [59])]) z
  rw[f8W]
  exact⟨g0B e g3 h4 1 _ (f9M (c:=59) (by decide)),f9T _,trivial⟩
 rw[if_neg k2] at hv ⊢
 split at hv
 ·simp only[h0S,h4S,d3N] at hv
  obtain⟨⟨⟨⟨⟨g1,g2⟩,g3⟩,g4,g4'⟩,g5,g5'⟩,g6⟩:=hv
  rw[d3Q,h1F] at g6
  refine⟨f9W (by decide) ⟨_,_,rfl,by decide⟩ (by decide),f9F g1 (g3E _),f9W (by decide) ⟨_,_,rfl,by decide⟩ (by decide),f9H (by omega) (f8U (c:=46) (by decide)),g3D _,f9H (by omega) (f8U (c:=32) (by decide)),g3A _,?_⟩
  show f8V (g1H l++[some (sy [125])]) z
  rw[f8W]
  exact⟨g3I l (fun a ha=>ih a ha (g6 a ha) (h a ha)) _,g3B _,trivial⟩
 ·cases hv
theorem g3K {f:Fu} (hv:fuB f=true) (ho:FuOk f) (z:List UInt8):f8V (fnP f) z:=by
 unfold fuB at hv
 simp only[h0S,h1F] at hv
 obtain⟨⟨⟨⟨g1,g2⟩,g3⟩,g4⟩,g5⟩:=hv
 unfold fnP
 refine⟨f9W (by decide) ⟨_,_,rfl,by decide⟩ (by decide),f9F g1 (f9M (c:=40) (by decide)),f9O _,?_⟩
 rw[f8W]
 refine⟨g3H f.params g2 _ (f9M (c:=41) (by decide)),f9P _,f9U _,?_⟩
 show f8V (tyP f.res++none::some (sy [123])::none::(g1H f.body++some (kw [114,101,116,117,114,110])::none::(f5W 1 (ar f.ret)++[some (sy [59]),none,some (sy [125])]))) z
 rw[f8W]
 refine⟨g3F g3 _ (g3E _),g3A _,?_⟩
 show f8V (g1H f.body++some (kw [114,101,116,117,114,110])::none::(f5W 1 (ar f.ret)++[some (sy [59]),none,some (sy [125])])) z
 rw[f8W]
 refine⟨g3I f.body (fun a ha=>g3J a (g4 a ha) (ho.bo a ha)) _,f9W (by decide) ⟨_,_,rfl,by decide⟩ (by decide),?_⟩
 show f8V (f5W 1 (ar f.ret)++[some (sy [59]),none,some (sy [125])]) z
 rw[f8W]
 exact⟨g0B f.ret g5 ho.ret 1 _ (f9M (c:=59) (by decide)),f9T _,g3B _,trivial⟩
theorem g3L {d:De} (hv:deB d=true) (z:List UInt8):f8V (deP d) z:=by
 unfold deB at hv
 rw[h0S] at hv
 unfold deP
 refine⟨?_,f9F hv.1 (f9M (c:=58) (by decide)),f9U _,?_⟩
 ·unfold g2J
  cases d.pub
  ·exact f9W (by decide) ⟨_,_,rfl,by decide⟩ (by decide)
  ·exact f9W (by decide) ⟨_,_,rfl,by decide⟩ (by decide)
 ·show f8V (tyP d.ty++[some (sy [59])]) z
  rw[f8W]
  exact⟨g3F hv.2 _ (f9M (c:=59) (by decide)),f9T _,trivial⟩
def lnT (l:List (List Pc)):List UInt8:=l.flatMap fun ps=>txP ps++[10]
theorem g3M (a b:List (List Pc)):lnT (a++b)=lnT a++lnT b:=h1Q
theorem g3N:∀ (l:List (List Pc)),(∀ ps,ps∈l→∀ z,f8V ps z)→∀ (z:List UInt8) (pos:Nat),∃ L,Lx.Alike L (l.flatMap tks)∧d0X pos (lnT l++z)=(d0X (pos+(lnT l).length) z).app L
 |[],_,z,pos=>⟨[],trivial,by rw[f9A];rfl⟩
 |ps::r,h,z,pos=>by
  obtain⟨L1,a1,b1⟩:=f9B ps (10::(lnT r++z)) pos (h ps h2Z _)
  obtain⟨L2,a2,b2⟩:=g3N r (fun x hx=>h x (h2Y _ hx)) z (pos+(txP ps).length+1)
  refine⟨L1++L2,?_,?_⟩
  ·rw[h1R]
   exact d1K a1 a2
  ·have e:lnT (ps::r)++z=txP ps++10::(lnT r++z):=by unfold lnT;rw[h1R];simp
   have e2:(lnT (ps::r)).length=(txP ps).length+1+(lnT r).length:=by unfold lnT;rw[h1R];simp;omega
   rw[e,b1,f8X (by decide),b2,e2,show pos+(txP ps).length+1+(lnT r).length=pos+((txP ps).length+1+(lnT r).length) by omega]
   cases d0X (pos+((txP ps).length+1+(lnT r).length)) z with
   |toks q=>show Res.toks _=Res.toks _;rw[h1H]
   |err a b=>rfl
def lnP (p:Pg):List (List Pc):=p.funcs.map fnP++(p.decls.map deP++p.body.map stP)
def g3O (p:Pg):List UInt8:=lnT (lnP p)
theorem g3P (p:Pg):(lnP p).flatMap tks=g2W p:=by
 unfold lnP g2W g2S g2T
 rw[h1Q,h1Q,List.flatMap_map,List.flatMap_map,List.flatMap_map]
 congr 2
 induction p.body with
 |nil=>rfl
 |cons a r ih=>rw[h1R,g1H,f5R,f5T,ih]
theorem g3Q {p:Pg} (hv:d4B p=0) (ho:PgOk p) (hl:(g3O p).length≤16384) {N:Nat} (hN:wP p≤N):prN N (g3O p)=(g2L p,0,0):=by
 have hv':=hv
 unfold d4B at hv'
 split at hv'
 ·cases hv'
 rename_i h1
 rw[Bool.not_eq_false] at h1
 simp only[h0S,h1F] at h1
 obtain⟨⟨a1,a2⟩,a3⟩:=h1
 obtain⟨L,b1,b2⟩:=g3N (lnP p) (fun ps hps z=>by
  unfold lnP at hps
  simp only[h2W,List.mem_map] at hps
  rcases hps with⟨f,hf,rfl⟩|⟨d,hd,rfl⟩|⟨s,hs,rfl⟩
  ·exact g3K (a1 f hf) (ho.fo f hf) z
  ·exact g3L (a2 d hd) z
  ·exact g3J s (a3 s hs) (ho.bo s hs) z) [] 0
 rw[h1J,d1D (show gap ([]:List UInt8)=([]:List UInt8).length from rfl)] at b2
 have hT:d8N (g3O p)=(_,0,0):=d8P hl b2
 have hal:=d1K b1 (d1J [(⟨0,[],0,0+(lnT (lnP p)).length+([]:List UInt8).length⟩:Tok)])
 rw[g3P] at hal
 have hP:=g2Z hv ho (s:=st0 []) (q:=0+(lnT (lnP p)).length+([]:List UInt8).length) hN
 obtain⟨q1,q2⟩:=d8D (n:=N) (d8E hal)
 have hs:stt (st0 []) (g2W p++[g0E (0+(lnT (lnP p)).length+([]:List UInt8).length)])=st0 (g2W p++[g0E (0+(lnT (lnP p)).length+([]:List UInt8).length)]):=rfl
 rw[hs] at hP
 rw[hP] at q1 q2
 unfold prN
 rw[hT]
 simp only
 have hr:∀ L,(d6J N (st0 L)).2.err=0→(d6J N (st0 L)).2.deep=false→d6I 0 0 (d6J N (st0 L)).2=(0,0):=by
  intro L e1 e2
  unfold d6I
  rw[e1,e2]
  simp
 rw[hr _ q2.err q2.deep,q1]
 simp
end Go.Ky

/- KX 63: what is too deep stays noted. No program in sight. -/
namespace Go.Ky
open Go.Pi Go.Lx
def Dm {α:Type} (m:Pm α):Prop:=∀ s,s.deep=true→(m s).2.deep=true
theorem Dm.no {α:Type} {m:Pm α} (h:Dm m) {s:Ps} (h0:(m s).2.deep=false):s.deep=false:=by
 cases hd:s.deep with
 |false=>rfl
 |true=>rw[h s hd] at h0;cases h0
theorem g3R {α:Type} (v:α):Dm (ret v):=fun _ h=>h
theorem g3S {α β:Type} {m:Pm α} {k:α→Pm β} (h:Dm m) (hk:∀ v,Dm (k v)):Dm (bnd m k):=fun s hs=>hk _ _ (h s hs)
theorem g3T {α:Type} {c:Tok→Bool} {m k:Pm α} (hm:Dm m) (hk:Dm k):Dm (e0P c m k):=fun s hs=>by
 unfold e0P
 split
 ·exact hm s hs
 ·exact hk s hs
theorem g3U {α:Type} {k:Tok→Pm α} (h:∀ t,Dm (k t)):Dm (hdB k):=fun s hs=>h _ s hs
theorem g3V:Dm e0Y:=fun _ h=>h
theorem g3W (e:Int):Dm (e1A e):=fun _ h=>h
theorem g3X (p:Int) (b:Bool) (s:Ps):(d5K p b s).deep=(s.deep || b):=by
 unfold d5K
 cases b <;> cases h:s.deep <;> simp [h]
theorem g3Y {α:Type} {m:Pm α} {d:α→Bool} (h:Dm m):Dm (e1C m d):=fun s hs=>by
 show(d5K _ _ _).deep=true
 rw[g3X,h s hs];rfl
theorem g3Z (t:Nm):Dm (e1G t):=fun s h=>by
 show(d5H t s).deep=true
 unfold d5H
 split
 ·exact h
 ·exact h
theorem g4A (lo hi:Nat):Dm (d5J lo hi):=fun s h=>by
 unfold d5J
 split
 ·exact h
 ·split
  ·exact h
  ·exact h
theorem g4B:Dm d5I:=fun s h=>by
 unfold d5I
 split
 ·exact h
 ·exact h
theorem g4C:Dm d5V:=fun s h=>by
 unfold d5V
 split
 ·exact h
 ·split
  ·exact h
  ·split
   ·exact g4A 1 62 (d5F s) h
   ·exact h
theorem g4D:Dm tyM:=fun s h=>by
 have h1:=g4C s h
 unfold tyM
 split
 ·exact g3Z [93] _ (g4A 1 64 _ h1)
 ·exact h1
theorem g4E:Dm d5W:=fun s h=>g4D _ (g3Z [58] _ (g4B s h))
structure DmAll (n:Nat):Prop where
 ex:Dm (d5M n)
 bi:∀ lv,Dm (d5N n lv)
 bl:∀ lv e,Dm (d5O n lv e)
 un:Dm (unM n)
 il:∀ e,Dm (d5P n e)
 pr:Dm (d5Q n)
 ar:Dm (d5R n)
 ha:Dm (d5S n)
 li:Dm (d5T n)
 ll:∀ l,Dm (d5U n l)
theorem g4F:∀ n,DmAll n:=by
 intro n
 induction n with
 |zero =>
  have k:∀ {α:Type} {m:Pm α} (v:α),(∀ s,m s=(v,s))→Dm m:=fun v h=>by
   have:_=ret v:=funext h
   rw[this];exact g3R v
  constructor
  ·exact k zEx fun s=>by rw[d5M]
  ·exact fun lv=>k zEx fun s=>by rw[d5N]
  ·exact fun lv e=>k e fun s=>by rw[d5O]
  ·exact k zEx fun s=>by rw[unM]
  ·exact fun e=>k e fun s=>by rw[d5P]
  ·exact k zEx fun s=>by rw[d5Q]
  ·exact k [] fun s=>by rw[d5R]
  ·exact k zEx fun s=>by rw[d5S]
  ·exact k [] fun s=>by rw[d5T]
  ·exact fun l=>k l fun s=>by rw[d5U]
 |succ n ih =>
  constructor
  ·rw[e1W]
   exact g3S (ih.bi 0) fun _=>g3T (g3S g3V fun _=>g3S ih.ex fun _=>g3S (g3Z _) fun _=>g3S ih.ex fun _=>g3R _) (g3R _)
  ·intro lv
   rw[e1X]
   split
   ·exact ih.un
   ·exact g3S (ih.bi _) fun _=>ih.bl _ _
  ·intro lv e
   rw[e1Z]
   refine g3U fun t=>?_
   unfold e1Y
   cases opG t (ops lv) with
   |none=>exact g3R _
   |some o =>
    simp only
    split
    ·exact g3S g3V fun _=>g3S (ih.bi _) fun _=>g3R _
    ·exact g3S g3V fun _=>g3S (ih.bi _) fun _=>ih.bl _ _
  ·rw[e_un]
   exact g3T (g3S g3V fun _=>g3S ih.un fun _=>g3R _) (g3T (g3S g3V fun _=>g3S ih.un fun _=>g3R _) (g3S ih.pr fun _=>ih.il _))
  ·intro e
   rw[e2A]
   exact g3T (g3S g3V fun _=>g3S ih.ex fun _=>g3S (g3Z _) fun _=>ih.il _) (g3R _)
  ·rw[e2C]
   refine g3T (g3U fun t=>g3S g3V fun _=>g3R _) (g3T (g3U fun t=>g3S g3V fun _=>g3T (g3S g3V fun _=>g3S ih.ar fun _=>g3R _) (g3R _)) ?_)
   unfold e2B
   exact g3T (g3S g3V fun _=>g3R _) (g3T (g3S g3V fun _=>g3R _) (g3T (g3S g3V fun _=>ih.ha) (g3T (g3S g3V fun _=>g3S ih.li fun _=>g3S (g3Z _) fun _=>g3R _) (g3T (g3S g3V fun _=>g3S ih.ex fun _=>g3S (g3Z _) fun _=>g3R _) (g3S (g3W _) fun _=>g3R _)))))
  ·rw[e2D]
   exact g3T (g3S g3V fun _=>g3R _) (g3S ih.li fun _=>g3S (g3Z _) fun _=>g3R _)
  ·rw[e2E]
   exact g3S (g3Z _) fun _=>g3T (g3S (g3W _) fun _=>g3R _) (g3U fun t=>g3S g3V fun _=>g3S (g3Z _) fun _=>g3S ih.li fun _=>g3S (g3Z _) fun _=>g3R _)
  ·rw[e2F]
   exact g3S ih.ex fun _=>ih.ll _
  ·intro l
   rw[e2G]
   exact g3T (g3S g3V fun _=>g3S ih.ex fun _=>ih.ll _) (g3R _)
theorem g4G (n:Nat):Dm (d5Y n):=by
 rw[e2I]
 exact g3S g4B fun _=>g3U fun t=>g3S (g3T (g3S g3V fun _=>g4D) (g3R _)) fun _=>g3S (g3Z _) fun _=>g3S (g4F n).ex fun _=>g3S (g3Z _) fun _=>g3R _
theorem g4H (n:Nat):Dm (d5Z n):=by
 rw[e2K]
 exact g3S (g4F n).ex fun _=>g3S (g3Z _) fun _=>g3R _
structure DmS (n:Nat):Prop where
 st:Dm (d6A n)
 bd:∀ o l,Dm (d6B n o l)
theorem g4I:∀ n,DmS n:=by
 intro n
 induction n with
 |zero =>
  have k:∀ {α:Type} {m:Pm α} (v:α),(∀ s,m s=(v,s))→Dm m:=fun v h=>by
   have:_=ret v:=funext h
   rw[this];exact g3R v
  constructor
  ·exact k (.mk 0 [] false zTy zEx 0 0 true []) fun s=>by rw[d6A]
  ·exact fun o l=>k l fun s=>by rw[d6B]
 |succ n ih =>
  constructor
  ·rw[e2M]
   exact g3T (g3S g3V fun _=>g4G _) (g3T (g3S g3V fun _=>g4H _) (g3T (g3S g3V fun _=>g3S g4B fun _=>g3S (g3Z _) fun _=>g3S (g4A _ _) fun _=>g3S (g3Z _) fun _=>g3S (g4A _ _) fun _=>g3S (g3Z _) fun _=>g3S (ih.bd _ _) fun _=>g3S (g3Z _) fun _=>g3R _) (g3S g3V fun _=>g3R _)))
  ·intro o l
   rw[e2N]
   refine g3T (g3S ?_ fun _=>ih.bd _ _) (g3R _)
   split
   ·exact g3Y ih.st
   ·exact ih.st
theorem g4J:∀ (n:Nat) (l:List Pa),Dm (d6C n l)
 |0,l=>by
  have:d6C 0 l=ret l:=by funext s;rw[d6C];rfl
  rw[this];exact g3R _
 |n+1,l=>by
  rw[e2P]
  exact g3T (g3S g3V fun _=>g3S g4E fun _=>g4J n _) (g3R _)
theorem g4K (n:Nat):Dm (d6D n):=by
 rw[e2R];exact g3T (g3R _) (g3S g4E fun _=>g4J _ _)
theorem g4L (n:Nat):Dm (fnM n):=by
 rw[e_fn]
 exact g3S (g3Z _) fun _=>g3S g4B fun _=>g3S (g3Z _) fun _=>g3S (g4K _) fun _=>g3S (g3Z _) fun _=>g3S (g3Z _) fun _=>g3S g4D fun _=>g3S (g3Z _) fun _=>g3S ((g4I n).bd _ _) fun _=>g3S (g3Y (g3S (g3Z _) fun _=>(g4F n).ex)) fun _=>g3S (g3Z _) fun _=>g3S (g3Z _) fun _=>g3R _
theorem g4M:Dm d6E:=by
 rw[e2W]
 exact g3U fun t=>g3S g3V fun _=>g3S g4B fun _=>g3S (g3Z _) fun _=>g3S g4D fun _=>g3S (g3Z _) fun _=>g3R _
theorem g4N:∀ (n:Nat) (l:List Fu),Dm (d6F n l)
 |0,l=>by
  have:d6F 0 l=ret l:=by funext s;rw[d6F];rfl
  rw[this];exact g3R _
 |n+1,l=>by
  rw[e2Y]
  exact g3T (g3S (g4L _) fun _=>g4N n _) (g3R _)
theorem g4O:∀ (n:Nat) (l:List De),Dm (d6G n l)
 |0,l=>by
  have:d6G 0 l=ret l:=by funext s;rw[d6G];rfl
  rw[this];exact g3R _
 |n+1,l=>by
  rw[e3A]
  exact g3T (g3S g4M fun _=>g4O n _) (g3R _)
theorem dm_end:Dm e3C:=by
 rw[e3D];exact g3T (g3W _) (g3R _)
end Go.Ky

/- KX 64: types and statements that are read without an error: valid, their lists' nil bits as the parser sets them, their text not much longer than what was read. -/
namespace Go.Ky
open Go.Pi Go.Lx
def tl (l:List Pc):Nat:=(txP l).length
theorem g4P (t:Tok) (l:List Pc):tl (some t::l)=t.text.length+tl l:=by unfold tl;rw[f8R,h2L]
theorem g4Q (l:List Pc):tl (none::l)=1+tl l:=by unfold tl;rw[f8S,h2M];omega
theorem g4R (a b:List Pc):tl (a++b)=tl a+tl b:=by unfold tl;rw[f8Q,h2L]
theorem g4S:tl []=0:=rfl
theorem g4T (e:Exp):tl (f5W 1 (ar e))=pl 1 e:=rfl
theorem g4U {lo hi:Nat} {s:Ps} (h:Gk s) (hh:hi≤1000000) (he:(d5J lo hi s).2.err=0) :
  ∃ v:Nat,(d5J lo hi s).1=(v:Int)∧lo≤v∧v≤hi∧(d5J lo hi s).2=d5F s∧(d1M v).length+2+wt (d5F s).ts≤wt s.ts∧s.hd.kind≠0:=by
 unfold d5J at he ⊢
 by_cases h1:s.hd.kind≠3∨s.hd.val < lo
 ·rw[if_pos h1] at he;exact absurd he (g0K (by decide))
 rw[if_neg h1] at he ⊢
 by_cases h2:hi < s.hd.val
 ·rw[if_pos h2] at he;exact absurd he (g0K (by decide))
 rw[if_neg h2] at he ⊢
 have k3:s.hd.kind=3:=h1A fun q=>h1 (.inl q)
 have w:=g0G h.wf (by omega)
 have g:=h.hd.nu k3
 have hl:¬s.hd.val < lo:=fun q=>h1 (.inr q)
 refine⟨s.hd.val,?_,by omega,by omega,rfl,by omega,by omega⟩
 show IntKind.wrap .i64 (s.hd.val:Int)=_
 rw[IntWalk.i64_in _ (by omega)]
theorem g4V {s:Ps} (h:Gk s) (he:(d5I s).2.err=0) :
  d3I (d5I s).1=true∧(d5I s).2=d5F s∧(d5I s).1.length+2+wt (d5F s).ts=wt s.ts∧s.hd.kind≠0:=by
 unfold d5I at he ⊢
 by_cases h1:s.hd.kind≠1
 ·rw[if_pos h1] at he;exact absurd he (g0K (by decide))
 rw[if_neg h1]
 have k1:s.hd.kind=1:=h1A h1
 have w:=g0G h.wf (by omega)
 exact⟨h.hd.nm k1,rfl,by show s.hd.text.length+2+_=_;omega,by omega⟩
theorem g4W {s:Ps} (h:Gk s) (he:(d5V s).2.err=0):(d5V s).1.len=0∧tyB (d5V s).1=true∧tl (tyP (d5V s).1)+wt (d5V s).2.ts≤wt s.ts:=by
 unfold d5V at he ⊢
 by_cases h1:atM [102,105,101,108,100] s=true
 ·rw[if_pos h1]
  have w:=g0I h.wf h1
  refine⟨rfl,rfl,?_⟩
  show 5+wt (d5F s).ts≤_
  simp only[h2M,h2P] at w
  omega
 rw[if_neg h1] at he ⊢
 by_cases h2:atM [98,111,111,108] s=true
 ·rw[if_pos h2]
  have w:=g0I h.wf h2
  refine⟨rfl,rfl,?_⟩
  show 4+wt (d5F s).ts≤_
  simp only[h2M,h2P] at w
  omega
 rw[if_neg h2] at he ⊢
 by_cases h3:atM [117,105,110,116] s=true
 ·rw[if_pos h3] at he ⊢
  have w:=g0I h.wf h3
  simp only[h2M,h2P] at w
  have g:=h.of (d6L h.wf)
  obtain⟨v,e1,e2,e3,e4,e5,-⟩:=g4U g (by decide) he
  show(0:Int)=0∧tyB ⟨3,(d5J 1 62 (d5F s)).1,0⟩=true∧tl (tyP ⟨3,(d5J 1 62 (d5F s)).1,0⟩)+wt (d5J 1 62 (d5F s)).2.ts≤_
  rw[e1,e4]
  refine⟨rfl,?_,?_⟩
  ·unfold tyB
   rw[if_neg (by show ¬((0:Int) < 0∨(64:Int) < 0);decide),if_neg (by show ¬((3:Int)=1∨(3:Int)=2);decide),if_pos rfl,h4R (show(1:Int)≤(v:Int) by omega),h4R (show(v:Int)≤62 by omega)]
   rfl
  ·have:tl (tyP ⟨3,(v:Int),0⟩)=4+(1+((d1M v).length+0)):=by
    unfold tyP
    rw[if_neg (by show ¬(3:Int)=2;decide),if_pos rfl,if_neg (by show ¬(0:Int) < 0;decide),h1J,g4P,g4Q,g4P,g4S]
    rfl
   rw[this]
   omega
 ·rw[if_neg h3] at he;exact absurd he (g0K (by decide))
theorem g4X {k b:Int} {v:Nat} (hv:1≤v):tl (tyP ⟨k,b,(v:Int)⟩)=tl (tyP ⟨k,b,0⟩)+(1+((d1M v).length+1)):=by
 unfold tyP
 rw[if_pos (show 0 < (v:Int) by omega),if_neg (show ¬(0:Int) < 0 by decide),h1J,g4R,g4P,g4P,g4P,g4S]
 show _+(1+((d1M (v:Int).toNat).length+(1+0)))=_
 rw[h1D]
theorem g4Y {k b:Int} {v:Nat} (hv:v≤64):tyB ⟨k,b,(v:Int)⟩=tyB ⟨k,b,0⟩:=by
 unfold tyB
 rw[if_neg (show ¬((v:Int) < 0∨64 < (v:Int)) by omega),if_neg (show ¬((0:Int) < 0∨64 < (0:Int)) by decide)]
theorem g4Z {s:Ps} (h:Gk s) (he:(tyM s).2.err=0):tyB (tyM s).1=true∧tl (tyP (tyM s).1)+wt (tyM s).2.ts≤wt s.ts:=by
 unfold tyM at he ⊢
 by_cases ha:atM [91] (d5V s).2=true
 ·rw[if_pos ha] at he ⊢
  have x1:=g0M he
  have x0':(d5F (d5V s).2).err=0:=g0L (e1K (p:=tt) 1 64) x1
  have x0:(d5V s).2.err=0:=x0'
  obtain⟨a1,a2,a3⟩:=g4W h x0
  have g1:=h.of (d6T h.wf)
  have g2:=g1.of (d6L g1.wf)
  have w1:=g0I g1.wf ha
  obtain⟨v,e1,e2,e3,e4,e5,-⟩:=g4U g2 (by decide) x1
  obtain⟨b1,b2⟩:=g0J he
  have g3:=g2.of (d6L g2.wf)
  rw[e4] at b1
  have w3:=g0I g3.wf b1
  simp only[e1]
  rw[e4] at b2
  simp only[e4,b2]
  simp only[h2M,h2P] at w1 w3
  have hz:(d5V s).1=⟨(d5V s).1.kind,(d5V s).1.bits,0⟩:=by
   have:(d5V s).1=⟨(d5V s).1.kind,(d5V s).1.bits,(d5V s).1.len⟩:=rfl
   rw[a1] at this;exact this
  rw[hz] at a2 a3
  refine⟨by rw[g4Y e3];exact a2,?_⟩
  rw[g4X e2]
  omega
 ·rw[if_neg ha] at he ⊢
  exact(g4W h he).2
structure Rstm (s:Ps) (x:St) (s':Ps):Prop where
 v:stB x=true
 c:g1J x=x
 w:tl (stP x)+1+wt s'.ts≤wt s.ts
theorem g5A {n:Nat} {s:Ps} (h:Gk s) (hn:12 * s.ts.length+11≤n) (he:(d5Y n s).2.err=0) :
  stB (d5Y n s).1=true∧g1J (d5Y n s).1=(d5Y n s).1∧tl (stP (d5Y n s).1)+wt (d5Y n s).2.ts≤wt s.ts:=by
 unfold d5Y at he ⊢
 simp only at he ⊢
 have x4:=g0M he
 have x3:=g0L (e2H n).ex x4
 have x2:=g0M x3
 have x1:(d5I s).2.err=0:=by
  split at x2
  ·have x1':(d5F (d5I s).2).err=0:=g0L (e1R (p:=tt)) x2
   exact x1'
  ·exact x2
 obtain⟨n1,n2,n3,n4⟩:=g4V h x1
 have g1:=h.of (d6L h.wf)
 have l1:=(d6L h.wf).le
 have hT:∃ t s2,(if atM [58] (d5I s).2=true then tyM (d5F (d5I s).2) else (zTy,(d5I s).2))=(t,s2)∧Suf (d5F s) s2∧(if atM [58] (d5I s).2=true then tyB t=true else t=zTy)∧tl (tyO (atM [58] (d5I s).2) t)+wt s2.ts≤wt (d5F s).ts:=by
  rw[n2] at x2 ⊢
  by_cases ha:atM [58] (d5F s)=true
  ·rw[if_pos ha] at x2 ⊢
   have g2:=g1.of (d6L g1.wf)
   obtain⟨t1,t2⟩:=g4Z g2 x2
   have w2:=g0I g1.wf ha
   refine⟨(tyM (d5F (d5F s))).1,(tyM (d5F (d5F s))).2,rfl,(d6L g1.wf).trans (d6U g2.wf),by rw[if_pos ha];exact t1,?_⟩
   rw[ha]
   unfold tyO
   rw[if_pos rfl,g4P,g4Q]
   simp only[h2M,h2P] at w2
   show 1+(1+_)+_≤_
   omega
  ·rw[if_neg ha]
   refine⟨zTy,d5F s,rfl,.refl g1.wf,by rw[if_neg ha],?_⟩
   have:atM [58] (d5F s)=false:=by simpa using ha
   rw[this]
   show 0+_≤_
   omega
 obtain⟨t,s2,q1,q2,q3,q4⟩:=hT
 rw[q1] at x2 x3 x4 he ⊢
 simp only at x2 x3 x4 he ⊢
 have g2:=g1.of q2
 obtain⟨a3,b3⟩:=g0J x3
 have w3:=g0I g2.wf a3
 have g3:=g2.of (d6L g2.wf)
 have l2:=q2.le
 have l3:=(d6L g2.wf).le
 rw[b3] at x4 he ⊢
 have R:=(g0Z n).ex _ g3 (by omega) x4
 have g4:=g3.of ((d7F n).ex _ g3.wf).suf
 obtain⟨a4,b4⟩:=g0J he
 have w4:=g0I g4.wf a4
 rw[b4]
 simp only[h2M,h2P] at w3 w4
 have r1:=R.v
 have r2:=R.c
 have r3:=R.w
 refine⟨?_,?_,?_⟩
 ·rw[stB,if_pos rfl]
  have:(!(!(atM [58] (d5I s).2)&&!decide (t=zTy) || atM [58] (d5I s).2&&!tyB t))=true:=by
   cases hb:atM [58] (d5I s).2 with
   |true=>rw[if_pos hb] at q3;simp [q3]
   |false=>rw[if_neg (by simp [hb])] at q3;simp [q3]
  rw[this,n1,r1]
  rfl
 ·rw[g1J,r2];rfl
 ·rw[stP,stO,if_pos rfl,g4P,g4Q,g4P,g4R,g4Q,g4P,g4Q,g4R,g4P,g4S,g4T]
  show 3+(1+((d5I s).1.length+(_+(1+(1+(1+(_+(1+0))))))))+_≤_
  omega
theorem g5B {n:Nat} {s:Ps} (h:Gk s) (hn:12 * s.ts.length+11≤n) (he:(d5Z n s).2.err=0) :
  stB (d5Z n s).1=true∧g1J (d5Z n s).1=(d5Z n s).1∧tl (stP (d5Z n s).1)+wt (d5Z n s).2.ts≤wt s.ts+5:=by
 unfold d5Z at he ⊢
 simp only at he ⊢
 have x4:=g0M he
 have R:=(g0Z n).ex _ h hn x4
 have g4:=h.of ((d7F n).ex _ h.wf).suf
 obtain⟨a4,b4⟩:=g0J he
 have w4:=g0I g4.wf a4
 rw[b4]
 simp only[h2M,h2P] at w4
 have r1:=R.v
 have r2:=R.c
 have r3:=R.w
 refine⟨?_,?_,?_⟩
 ·rw[stB,if_neg (by decide),if_pos rfl,r1]
  rfl
 ·rw[g1J,r2];rfl
 ·rw[stP,stO,if_neg (by decide),if_pos rfl,g4P,g4Q,g4R,g4P,g4S,g4T]
  show 6+(1+(_+(1+0)))+_≤_
  omega
theorem g5C (a b:List St):g1H (a++b)=g1H a++g1H b:=by
 induction a with
 |nil=>rfl
 |cons x r ih=>rw[h1L,g1H,ih,g1H,h1H];rfl
theorem g5D (x:St):tl (g1H [x])=tl (stP x)+1:=by
 rw[g1H,g4R,g4Q];rfl
structure RgS (n:Nat):Prop where
 st:∀ s,Gk s→atS s=true→12 * s.ts.length≤n→(d6A n s).2.err=0→Rstm s (d6A n s).1 (d6A n s).2
 bd:∀ o l s,Gk s→12 * s.ts.length+1≤n→(d6B n o l s).2.err=0→(∀ a,a∈l→stB a=true)→l.map g1J=l →
  (∀ a,a∈(d6B n o l s).1→stB a=true)∧(d6B n o l s).1.map g1J=(d6B n o l s).1∧tl (g1H (d6B n o l s).1)+wt (d6B n o l s).2.ts≤tl (g1H l)+wt s.ts ∧
  (o=true→(d6B n o l s).2.deep=false→(∀ a,a∈l→shS a=true)→∀ a,a∈(d6B n o l s).1→shS a=true)
theorem g5E {x:St} (hv:stB x=true) (h:d5X x=false):shS x=true:=by
 unfold d5X d4B at h
 simp only[List.all_nil,List.all_cons,h0Z,Bool.and_true,hv] at h
 cases hs:shS x with
 |true=>rfl
 |false=>rw[hs] at h;simp at h
theorem g5F {s:Ps} (h:atS s=true):s.hd.text=[108,101,116]∨s.hd.text=[97,115,115,101,114,116]∨s.hd.text=[102,111,114]:=by
 have at':∀ {t:Nm},atM t s=true→s.hd.text=t:=by
  intro t h
  unfold atM at h
  simp only[h0S,h4S] at h
  exact h.2
 unfold atS at h
 simp only[h0Y] at h
 rcases h with h|h|h
 ·exact .inl (at' h)
 ·exact .inr (.inl (at' h))
 ·exact .inr (.inr (at' h))
theorem g5G:RgS 0:=by
 constructor
 ·intro s h ha hn;have:=h.wf.len;omega
 ·intro o l s h hn;have:=h.wf.len;omega
theorem g5H {n:Nat} (ih:RgS n):RgS (n+1):=by
 constructor
 ·intro s h ha hn he
  have hk:=d9J ha
  have ht:=g5F ha
  have hw:=g0G h.wf hk
  have g1:=h.of (d6L h.wf)
  have l1:=d6N h.wf hk
  rw[d6A] at he ⊢
  by_cases c1:s.hd.text=[108,101,116]
  ·rw[if_pos c1] at he ⊢
   rw[c1] at hw
   simp only[h2M,h2P] at hw
   obtain⟨a1,a2,a3⟩:=g5A g1 (by omega) he
   exact⟨a1,a2,by omega⟩
  rw[if_neg c1] at he ⊢
  by_cases c2:s.hd.text=[97,115,115,101,114,116]
  ·rw[if_pos c2] at he ⊢
   rw[c2] at hw
   simp only[h2M,h2P] at hw
   obtain⟨a1,a2,a3⟩:=g5B g1 (by omega) he
   exact⟨a1,a2,by omega⟩
  rw[if_neg c2] at he ⊢
  by_cases c3:s.hd.text=[102,111,114]
  ·rw[if_pos c3] at he ⊢
   rw[c3] at hw
   simp only[h2M,h2P] at hw
   simp only at he ⊢
   have x8:=g0M he
   have x7:=g0L ((e2O n).bd false []) x8
   have x6:=g0M x7
   have x5:=g0L (e1K (p:=tt) 0 1000000) x6
   have x4:=g0M x5
   have x3:=g0L (e1K (p:=tt) 0 1000000) x4
   have x2:=g0M x3
   obtain⟨n1,n2,n3,n4⟩:=g4V g1 x2
   have g2:=g1.of (d6L g1.wf)
   have l2:=(d6L g1.wf).le
   rw[n2] at x3 x4 x5 x6 x7 x8 he ⊢
   obtain⟨a3,b3⟩:=g0J x3
   have w3:=g0I g2.wf a3
   have g3:=g2.of (d6L g2.wf)
   have l3:=(d6L g2.wf).le
   rw[b3] at x4 x5 x6 x7 x8 he ⊢
   obtain⟨v1,p1,p2,p3,p4,p5,-⟩:=g4U g3 (by decide) x4
   have g4:=g3.of (d6L g3.wf)
   have l4:=(d6L g3.wf).le
   rw[p4] at x5 x6 x7 x8 he ⊢
   obtain⟨a5,b5⟩:=g0J x5
   have w5:=g0I g4.wf a5
   have g5:=g4.of (d6L g4.wf)
   have l5:=(d6L g4.wf).le
   rw[b5] at x6 x7 x8 he ⊢
   obtain⟨v2,q1,q2,q3,q4,q5,-⟩:=g4U g5 (by decide) x6
   have g6:=g5.of (d6L g5.wf)
   have l6:=(d6L g5.wf).le
   rw[q4] at x7 x8 he ⊢
   obtain⟨a7,b7⟩:=g0J x7
   have w7:=g0I g6.wf a7
   have g7:=g6.of (d6L g6.wf)
   have l7:=(d6L g6.wf).le
   rw[b7] at x8 he ⊢
   obtain⟨r1,r2,r3,-⟩:=ih.bd false [] _ g7 (by omega) x8 (by intro a h;cases h) rfl
   have g8:=g7.of ((d9M n).bd false [] _ g7.wf).suf
   obtain⟨a9,b9⟩:=g0J he
   have w9:=g0I g8.wf a9
   rw[b9,p1,q1]
   simp only[h2M,h2P] at w3 w5 w7 w9
   have z:tl (g1H [])=0:=rfl
   refine⟨?_,?_,?_⟩
   ·rw[stB,if_neg (by decide),if_neg (by decide),if_pos rfl,n1,d3Q,h1F.2 r1]
    have z1:d3N (v1:Int)=true:=by unfold d3N;rw[h4R (show(0:Int)≤v1 by omega),h4R (show(v1:Int)≤1000000 by omega)];rfl
    have z2:d3N (v2:Int)=true:=by unfold d3N;rw[h4R (show(0:Int)≤v2 by omega),h4R (show(v2:Int)≤1000000 by omega)];rfl
    rw[z1,z2]
    rfl
   ·rw[g1J,g1L,r2];rfl
   ·rw[stP,stO,if_neg (by decide),if_neg (by decide)]
    simp only[g4P,g4Q,g4R,g4S,h1D]
    show 3+(1+((d5I (d5F s)).1.length+(1+(2+(1+((d1M v1).length+(2+((d1M v2).length+(1+(1+(1+(_+(1+0)))))))))))))+1+_≤_
    omega
  ·exfalso
   rcases ht with e|e|e
   ·exact c1 e
   ·exact c2 e
   ·exact c3 e
 ·intro o l s h hn he hv hc
  rw[d6B] at he ⊢
  by_cases ha:atS s=true
  ·rw[if_pos ha] at he ⊢
   have hk:=d9J ha
   have h2:=(d9M n).st s h.wf hk
   have w2:=h2.1.wf h.wf
   have h3:Suf (d6A n s).2 (if o=true then d5K s.hd.pos (d5X (d6A n s).1) (d6A n s).2 else (d6A n s).2):=by
    split
    ·exact d6S w2 _ _
    ·exact .refl w2
   have ets:(if o=true then d5K s.hd.pos (d5X (d6A n s).1) (d6A n s).2 else (d6A n s).2).ts=(d6A n s).2.ts:=by
    split
    ·exact d6R _ _ _
    ·rfl
   have eer:(if o=true then d5K s.hd.pos (d5X (d6A n s).1) (d6A n s).2 else (d6A n s).2).err=(d6A n s).2.err:=by
    split
    ·exact(e1D _ _ _).1
    ·rfl
   have x1:=g0L ((e2O n).bd o (l++[(d6A n s).1])) he
   rw[eer] at x1
   have R:=ih.st s h ha (by omega) x1
   have g3:=(h.of h2.1).of h3
   have hlt:(d6A n s).2.ts.length+1≤s.ts.length:=by
    rcases h3R n with rfl|hp
    ·have:=h.wf.len;omega
    ·have:=h2.2 hp
     have:=d3B (d6A n s).1
     omega
   obtain⟨a1,a2,a3,a4⟩:=ih.bd o (l++[(d6A n s).1]) _ g3 (by rw[ets];omega) he (fun a hm=>by
    rcases h2W.1 hm with h|h
    ·exact hv a h
    ·rw[h3F] at h;rw[h];exact R.v) (by rw[h2T,hc,h2U,R.c];rfl)
   refine⟨a1,a2,?_,?_⟩
   ·rw[g5C,g4R,g5D,ets] at a3
    have:=R.w
    omega
   ·intro ho hd hs
    refine a4 ho hd fun a hm=>?_
    rcases h2W.1 hm with h|h
    ·exact hs a h
    ·rw[h3F] at h
     rw[h]
     have hd2:=((g4I n).bd o (l++[(d6A n s).1])).no hd
     rw[if_pos ho,g3X,h0X] at hd2
     exact g5E R.v hd2.2
  ·rw[if_neg ha] at he ⊢
   exact⟨hv,hc,h3V _,fun _ _ h=>h⟩
theorem g5I:∀ n,RgS n
 |0=>g5G
 |n+1=>g5H (g5I n)
end Go.Ky

/- KX 65: functions, declarations, programs that are read without an error; the plain law of what Program returns. -/
namespace Go.Ky
open Go.Pi Go.Lx
theorem g5J {s:Ps} (h:Gk s) (he:(d5W s).2.err=0):paB (d5W s).1=true∧tl (paP (d5W s).1)+3+wt (d5W s).2.ts≤wt s.ts:=by
 unfold d5W at he ⊢
 simp only at he ⊢
 have x2:=g0L (e1R (p:=tt)) he
 have x1:=g0M x2
 obtain⟨n1,n2,n3,n4⟩:=g4V h x1
 have g1:=h.of (d6L h.wf)
 rw[n2] at x2 he ⊢
 obtain⟨a3,b3⟩:=g0J x2
 have w3:=g0I g1.wf a3
 have g2:=g1.of (d6L g1.wf)
 rw[b3] at he ⊢
 obtain⟨t1,t2⟩:=g4Z g2 he
 simp only[h2M,h2P] at w3
 refine⟨?_,?_⟩
 ·unfold paB
  rw[n1,t1];rfl
 ·unfold paP
  rw[g4P,g4P,g4Q]
  show(d5I s).1.length+(1+(1+tl (tyP (tyM (d5F (d5F s))).1)))+3+_≤_
  omega
def pw (l:List Pa):Nat:=tl (f5X (l.map paP))
theorem g5K (p:Pa):pw [p]=tl (paP p):=by unfold pw;simp [f5X]
theorem g5L {l:List Pa} (h:l≠[]) (p:Pa):pw (l++[p])=pw l+2+tl (paP p):=by
 match l,h with
 |a::r,_ =>
  unfold pw
  rw[h1L,h2U,h2U,f5X,f5X,h2T,h1Q,←h1H,g4R]
  have:tl (([p].map paP).flatMap fun y=>some (sy [44])::none::y)=2+tl (paP p):=by
   rw[h2U,h2V,h1R,List.flatMap_nil,h1J,g4P,g4Q]
   show 1+(1+_)=_
   omega
  rw[this]
  omega
theorem g5M:∀ (n:Nat) (l:List Pa) (s:Ps),l≠[]→(∀ a,a∈l→paB a=true)→Gk s→(d6C n l s).2.err=0 →
  (∀ a,a∈(d6C n l s).1→paB a=true)∧pw (d6C n l s).1+wt (d6C n l s).2.ts≤pw l+wt s.ts
 |0,l,s,hn,hv,h,he=>by rw[d6C];exact⟨hv,h3V _⟩
 |n+1,l,s,hn,hv,h,he=>by
  rw[d6C] at he ⊢
  by_cases ha:atM [44] s=true
  ·rw[if_pos ha] at he ⊢
   have w1:=g0I h.wf ha
   have g1:=h.of (d6L h.wf)
   have x1:=g0L (e2Q (p:=tt) n (l++[(d5W (d5F s)).1])) he
   obtain⟨a1,a2⟩:=g5J g1 x1
   obtain⟨b1,b2⟩:=g5M n (l++[(d5W (d5F s)).1]) _ (by simp) (fun a hm=>by
    rcases h2W.1 hm with h|h
    ·exact hv a h
    ·rw[h3F] at h;rw[h];exact a1) (g1.of (d6V g1.wf)) he
   refine⟨b1,?_⟩
   rw[g5L hn] at b2
   simp only[h2M,h2P] at w1
   omega
  ·rw[if_neg ha] at he ⊢
   exact⟨hv,h3V _⟩
theorem g5N {n:Nat} {s:Ps} (h:Gk s) (he:(d6D n s).2.err=0):(∀ a,a∈(d6D n s).1→paB a=true)∧pw (d6D n s).1+wt (d6D n s).2.ts≤wt s.ts:=by
 unfold d6D at he ⊢
 by_cases ha:atM [41] s=true
 ·rw[if_pos ha]
  exact⟨fun a h=>(by cases h),by show 0+wt s.ts≤_;omega⟩
 ·rw[if_neg ha] at he ⊢
  have x1:=g0L (e2Q (p:=tt) n [(d5W s).1]) he
  obtain⟨a1,a2⟩:=g5J h x1
  obtain⟨b1,b2⟩:=g5M n [(d5W s).1] _ (by simp) (fun a hm=>by rw[h3F] at hm;rw[hm];exact a1) (h.of (d6V h.wf)) he
  refine⟨b1,?_⟩
  rw[g5K] at b2
  omega
theorem g5O (f:Fu):tl (fnP f)=f.name.length+pw f.params+tl (tyP f.res)+tl (g1H f.body)+pl 1 f.ret+20:=by
 unfold fnP pw
 simp only[g4P,g4Q,g4R,g4S,g4T]
 show 2+(1+(f.name.length+(1+(_+(1+(1+(1+(_+(1+(1+(1+(_+(6+(1+(_+(1+(1+(1+0))))))))))))))))))=_
 omega
structure Rf (s:Ps) (f:Fu) (s':Ps):Prop where
 v:fuB f=true
 c:g2K f=f
 w:tl (fnP f)+1+wt s'.ts≤wt s.ts
 d:s'.deep=false→shF f=true
theorem g5P {p:Int} {b:Bool} {s:Ps} (h:Gk s):Gk (d5K p b s):=h.of (d6S h.wf p b)
theorem g5Q {n:Nat} {s:Ps} (h:Gk s) (hn:12 * s.ts.length+1≤n) (he:(fnM n s).2.err=0):Rf s (fnM n s).1 (fnM n s).2:=by
 unfold fnM at he ⊢
 simp only at he ⊢
 have x12:=g0M he
 have x11:=g0M x12
 rw[(e1D _ _ _).1] at x11
 have x10:=g0L (e2H n).ex x11
 have x9:=g0M x10
 have x8:=g0L ((e2O n).bd true []) x9
 have x7:=g0M x8
 have x6:=g0L (e1R (p:=tt)) x7
 have x5:=g0M x6
 have x4:=g0M x5
 have x3:=g0L (e2S (p:=tt) n) x4
 have x2:=g0M x3
 have x1:=g0L (e1N (p:=tt)) x2
 obtain⟨a1,b1⟩:=g0J x1
 have w1:=g0I h.wf a1
 have l1:=d6N h.wf (d6M a1)
 have g1:=h.of (d6L h.wf)
 rw[b1] at x2 x3 x4 x5 x6 x7 x8 x9 x10 x11 x12 he ⊢
 obtain⟨n1,n2,n3,n4⟩:=g4V g1 x2
 have g2:=g1.of (d6L g1.wf)
 have l2:=(d6L g1.wf).le
 rw[n2] at x3 x4 x5 x6 x7 x8 x9 x10 x11 x12 he ⊢
 obtain⟨a3,b3⟩:=g0J x3
 have w3:=g0I g2.wf a3
 have g3:=g2.of (d6L g2.wf)
 have l3:=(d6L g2.wf).le
 rw[b3] at x4 x5 x6 x7 x8 x9 x10 x11 x12 he ⊢
 obtain⟨p1,p2⟩:=g5N g3 x4
 have s4:=e0B n g3.wf
 have g4:=g3.of s4
 have l4:=s4.le
 obtain⟨a5,b5⟩:=g0J x5
 have w5:=g0I g4.wf a5
 have g5:=g4.of (d6L g4.wf)
 have l5:=(d6L g4.wf).le
 rw[b5] at x6 x7 x8 x9 x10 x11 x12 he ⊢
 obtain⟨a6,b6⟩:=g0J x6
 have w6:=g0I g5.wf a6
 have g6:=g5.of (d6L g5.wf)
 have l6:=(d6L g5.wf).le
 rw[b6] at x7 x8 x9 x10 x11 x12 he ⊢
 obtain⟨t1,t2⟩:=g4Z g6 x7
 have g7:=g6.of (d6U g6.wf)
 have l7:=(d6U g6.wf).le
 obtain⟨a8,b8⟩:=g0J x8
 have w8:=g0I g7.wf a8
 have g8:=g7.of (d6L g7.wf)
 have l8:=(d6L g7.wf).le
 rw[b8] at x9 x10 x11 x12 he ⊢
 obtain⟨r1,r2,r3,r4⟩:=(g5I n).bd true [] _ g8 (by omega) x9 (by intro a h;cases h) rfl
 have s9:=((d9M n).bd true [] _ g8.wf).suf
 have g9:=g8.of s9
 have l9:=s9.le
 obtain⟨a10,b10⟩:=g0J x10
 have w10:=g0I g9.wf a10
 have g10:=g9.of (d6L g9.wf)
 have l10:=(d6L g9.wf).le
 rw[b10] at x11 x12 he ⊢
 have R:=(g0Z n).ex _ g10 (by omega) x11
 have g11:=g10.of ((d7F n).ex _ g10.wf).suf
 obtain⟨a12,b12⟩:=g0J x12
 have g12:=g5P (p:=(d6B n true [] (d5F (tyM (d5F (d5F (d6D n (d5F (d5F (d5F s)))).2))).2)).2.hd.pos) (b:=decide ((dEx (d5M n (d5F (d6B n true [] (d5F (tyM (d5F (d5F (d6D n (d5F (d5F (d5F s)))).2))).2)).2)).1:Int) > 40)) g11
 have w12:=g0I g12.wf a12
 have g13:=g12.of (d6L g12.wf)
 rw[b12] at he ⊢
 obtain⟨a13,b13⟩:=g0J he
 have w13:=g0I g13.wf a13
 rw[b13]
 rw[d6R] at w12
 simp only[h2M,h2P] at w1 w3 w5 w6 w8 w10 w12 w13
 have q1:=R.v
 have q2:=R.c
 have q3:=R.w
 have z:tl (g1H [])=0:=rfl
 refine⟨?_,?_,?_,?_⟩
 ·unfold fuB
  simp only[n1,t1,q1,h1F.2 p1,h1F.2 r1,Bool.and_self]
 ·unfold g2K
  simp only[r2,q2]
 ·rw[g5O]
  simp only
  omega
 ·intro hd
  have hd1:(d5K (d6B n true [] (d5F (tyM (d5F (d5F (d6D n (d5F (d5F (d5F s)))).2))).2)).2.hd.pos (decide ((dEx (d5M n (d5F (d6B n true [] (d5F (tyM (d5F (d5F (d6D n (d5F (d5F (d5F s)))).2))).2)).2)).1:Int) > 40)) (d5M n (d5F (d6B n true [] (d5F (tyM (d5F (d5F (d6D n (d5F (d5F (d5F s)))).2))).2)).2)).2).deep=false:=hd
  rw[g3X,h0X] at hd1
  have hd2':(d5F (d6B n true [] (d5F (tyM (d5F (d5F (d6D n (d5F (d5F (d5F s)))).2))).2)).2).deep=false:=(g4F n).ex.no hd1.1
  have hd2:(d6B n true [] (d5F (tyM (d5F (d5F (d6D n (d5F (d5F (d5F s)))).2))).2)).2.deep=false:=hd2'
  have hs:=r4 rfl hd2 (by intro a h;cases h)
  unfold shF
  simp only[h1F.2 hs,h0Z]
  unfold shE
  have:=h4Y hd1.2
  exact h4R (by omega)
theorem g5R {s:Ps} (h:Gk s) (ha:(atM [112,117,98,108,105,99] s || atM [115,101,99,114,101,116] s)=true) (he:(d6E s).2.err=0):deB (d6E s).1=true∧tl (deP (d6E s).1)+1+wt (d6E s).2.ts≤wt s.ts:=by
 have hw:wt (d5F s).ts+8=wt s.ts:=by
  rw[h0Y] at ha
  rcases ha with h1|h1
  ·exact g0I h.wf h1
  ·exact g0I h.wf h1
 unfold d6E at he ⊢
 simp only at he ⊢
 have x4:=g0M he
 have x3:=g0L (e1R (p:=tt)) x4
 have x2:=g0M x3
 have g1:=h.of (d6L h.wf)
 obtain⟨n1,n2,n3,n4⟩:=g4V g1 x2
 have g2:=g1.of (d6L g1.wf)
 rw[n2] at x3 x4 he ⊢
 obtain⟨a3,b3⟩:=g0J x3
 have w3:=g0I g2.wf a3
 have g3:=g2.of (d6L g2.wf)
 rw[b3] at x4 he ⊢
 obtain⟨t1,t2⟩:=g4Z g3 x4
 have g4:=g3.of (d6U g3.wf)
 obtain⟨a5,b5⟩:=g0J he
 have w5:=g0I g4.wf a5
 rw[b5]
 simp only[h2M,h2P] at w3 w5
 refine⟨?_,?_⟩
 ·unfold deB
  simp only[n1,t1,Bool.and_self]
 ·have hp:∀ b,(g2J b).length=6:=by intro b;cases b <;> rfl
  unfold deP
  rw[g4P,g4Q,g4P,g4P,g4Q,g4R,g4P,g4S]
  show(g2J _).length+(1+((d5I (d5F s)).1.length+(1+(1+(tl (tyP (tyM (d5F (d5F (d5F s)))).1)+(1+0))))))+1+_≤_
  rw[hp]
  omega
def fw (l:List Fu):Nat:=(lnT (l.map fnP)).length
theorem g5S (a b:List Fu):fw (a++b)=fw a+fw b:=by unfold fw;rw[h2T,g3M,h2L]
theorem g5T (f:Fu):fw [f]=tl (fnP f)+1:=by
 unfold fw lnT tl
 simp
def dw (l:List De):Nat:=(lnT (l.map deP)).length
theorem g5U (a b:List De):dw (a++b)=dw a+dw b:=by unfold dw;rw[h2T,g3M,h2L]
theorem g5V (f:De):dw [f]=tl (deP f)+1:=by
 unfold dw lnT tl
 simp
theorem g5W:∀ (n:Nat) (l:List Fu) (s:Ps),Gk s→12 * s.ts.length+2≤n→(d6F n l s).2.err=0→(∀ f,f∈l→fuB f=true)→l.map g2K=l →
  (∀ f,f∈(d6F n l s).1→fuB f=true)∧(d6F n l s).1.map g2K=(d6F n l s).1∧fw (d6F n l s).1+wt (d6F n l s).2.ts≤fw l+wt s.ts ∧
  ((d6F n l s).2.deep=false→(∀ f,f∈l→shF f=true)→∀ f,f∈(d6F n l s).1→shF f=true)
 |0,l,s,h,hn,he,hv,hc=>by have:=h.wf.len;omega
 |n+1,l,s,h,hn,he,hv,hc=>by
  rw[d6F] at he ⊢
  by_cases ha:atM [102,110] s=true
  ·rw[if_pos ha] at he ⊢
   have x1:=g0L (e2Z (p:=tt) n (l++[(fnM n s).1])) he
   have R:=g5Q h (by omega) x1
   have s1:=e0E (n:=n) h.wf
   have l1:=e0D (n:=n) h.wf ha
   obtain⟨a1,a2,a3,a4⟩:=g5W n (l++[(fnM n s).1]) _ (h.of s1) (by omega) he (fun a hm=>by
    rcases h2W.1 hm with h|h
    ·exact hv a h
    ·rw[h3F] at h;rw[h];exact R.v) (by rw[h2T,hc,h2U,R.c];rfl)
   refine⟨a1,a2,?_,fun hd hs=>a4 hd fun a hm=>?_⟩
   ·rw[g5S,g5T] at a3
    have:=R.w
    omega
   ·rcases h2W.1 hm with h|h
    ·exact hs a h
    ·rw[h3F] at h
     rw[h]
     exact R.d ((g4N n (l++[(fnM n s).1])).no hd)
  ·rw[if_neg ha] at he ⊢
   exact⟨hv,hc,h3V _,fun _ h=>h⟩
theorem g5X:∀ (n:Nat) (l:List De) (s:Ps),Gk s→(d6G n l s).2.err=0→(∀ f,f∈l→deB f=true) →
  (∀ f,f∈(d6G n l s).1→deB f=true)∧dw (d6G n l s).1+wt (d6G n l s).2.ts≤dw l+wt s.ts
 |0,l,s,h,he,hv=>by rw[d6G];exact⟨hv,h3V _⟩
 |n+1,l,s,h,he,hv=>by
  rw[d6G] at he ⊢
  by_cases ha:(atM [112,117,98,108,105,99] s || atM [115,101,99,114,101,116] s)=true
  ·rw[if_pos ha] at he ⊢
   have x1:=g0L (e3B (p:=tt) n (l++[(d6E s).1])) he
   obtain⟨r1,r2⟩:=g5R h ha x1
   obtain⟨a1,a2⟩:=g5X n (l++[(d6E s).1]) _ (h.of (e0H h.wf)) he (fun a hm=>by
    rcases h2W.1 hm with h|h
    ·exact hv a h
    ·rw[h3F] at h;rw[h];exact r1)
   refine⟨a1,?_⟩
   rw[g5U,g5V] at a2
   omega
  ·rw[if_neg ha] at he ⊢
   exact⟨hv,h3V _⟩
theorem g5Y:∀ l:List St,(lnT (l.map stP)).length=tl (g1H l)
 |[]=>rfl
 |a::r=>by
  have:=g5Y r
  rw[g1H,g4R,g4Q,←this]
  unfold lnT tl
  simp
  omega
theorem g5Z (p:Pg):(g3O p).length=fw p.funcs+(dw p.decls+tl (g1H p.body)):=by
 unfold g3O lnP
 rw[g3M,g3M,h2L,h2L,g5Y]
 rfl
theorem g6A:∀ (n:Nat) (l:List Fu) (s:Ps),WfT s.ts→Suf s (d6F n l s).2
 |0,l,s,h=>by rw[d6F];exact .refl h
 |n+1,l,s,h=>by
  rw[d6F]
  split
  ·have h1:=e0E (n:=n) h
   exact h1.trans (g6A n _ _ (h1.wf h))
  ·exact .refl h
theorem g6B (n:Nat) (l:List De) (s:Ps) (h:WfT s.ts):Suf s (d6G n l s).2:=(e3S n l s h).1
theorem g6C {n:Nat} {s:Ps} (h:Gk s) (hn:12 * s.ts.length+2≤n) (he:(d6J n s).2.err=0) (hd:(d6J n s).2.deep=false) :
  d4B (d6J n s).1=0∧g2L (d6J n s).1=(d6J n s).1∧(g3O (d6J n s).1).length≤wt s.ts:=by
 unfold d6J at he hd ⊢
 simp only at he hd ⊢
 have x3:=g0L (e3E (p:=tt)) (s:=(d6B n true [] (d6G n [] (d6F n [] s).2).2).2) he
 have x2:=g0L ((e2O n).bd true []) x3
 have x1:=g0L (e3B (p:=tt) n []) x2
 have d3:(d6B n true [] (d6G n [] (d6F n [] s).2).2).2.deep=false:=dm_end.no (s:=(d6B n true [] (d6G n [] (d6F n [] s).2).2).2) hd
 have d2:=((g4I n).bd true []).no d3
 have d1:=(g4O n []).no d2
 have l0:=h.wf.len
 obtain⟨a1,a2,a3,a4⟩:=g5W n [] s h hn x1 (by intro a h;cases h) rfl
 have s1:Suf s (d6F n [] s).2:=g6A n [] s h.wf
 have g1:=h.of s1
 have l1:=s1.le
 obtain⟨b1,b2⟩:=g5X n [] _ g1 x2 (by intro a h;cases h)
 have s2:Suf (d6F n [] s).2 (d6G n [] (d6F n [] s).2).2:=g6B n [] _ g1.wf
 have g2:=g1.of s2
 have l2:=s2.le
 obtain⟨c1,c2,c3,c4⟩:=(g5I n).bd true [] _ g2 (by omega) x3 (by intro a h;cases h) rfl
 refine⟨?_,?_,?_⟩
 ·unfold d4B
  simp only[h1F.2 a1,h1F.2 b1,h1F.2 c1,h1F.2 (a4 d1 (by intro a h;cases h)),h1F.2 (c4 rfl d3 (by intro a h;cases h)),Bool.and_self]
  simp
 ·unfold g2L
  simp only[a2,c2]
 ·rw[g5Z]
  simp only
  have z1:fw []=0:=rfl
  have z2:dw []=0:=rfl
  have z3:tl (g1H [])=0:=rfl
  omega
end Go.Ky

/- KX 67: the plain law of what Program returns: valid, and found again in its canonical text. -/
namespace Go.Ky
open Go.Pi Go.Lx
theorem g6D {n:Nm} (h:n.length≤24):n.length≤B47:=by unfold B47;omega
theorem g6E {s:Ps} (h:Wv s):d2V (d5W s).1:=⟨g6D (d9D h.wf),d9Q _⟩
theorem g6F:∀ (n:Nat) (l:List Pa) (s:Ps),(∀ a,a∈l→d2V a)→Wv s→∀ a,a∈(d6C n l s).1→d2V a
 |0,l,s,hl,h=>by rw[d6C];exact hl
 |n+1,l,s,hl,h=>by
  rw[d6C]
  split
  ·have g1:=h.of (d6L h.wf)
   refine g6F n _ _ (fun a hm=>?_) (g1.of (d6V g1.wf))
   rcases h2W.1 hm with q|q
   ·exact hl a q
   ·rw[h3F] at q;rw[q];exact g6E g1
  ·exact hl
theorem g6G {n:Nat} {s:Ps} (h:Wv s):∀ a,a∈(d6D n s).1→d2V a:=by
 unfold d6D
 split
 ·intro a hm;cases hm
 ·exact g6F n _ _ (fun a hm=>by rw[h3F] at hm;rw[hm];exact g6E h) (h.of (d6V h.wf))
theorem g6H {n:Nat} {s:Ps} (h:Wv s) (hl:s.ts.length≤16400):FuOk (fnM n s).1:=by
 have hB:=e3Q (n:=n) h.wf hl
 have w0:=h.of (d6O h.wf [102,110])
 have w1:=w0.of (d6P w0.wf)
 have w2:=w1.of (d6O w1.wf [40])
 have w3:=w2.of (e0B n w2.wf)
 have w4:=w3.of (d6O w3.wf [41])
 have w5:=w4.of (d6O w4.wf [58])
 have w6:=w5.of (d6U w5.wf)
 have w7:=w6.of (d6O w6.wf [123])
 have w8:=w7.of ((d9M n).bd true [] _ w7.wf).suf
 have w9:=w8.of (d6O w8.wf [114,101,116,117,114,110])
 have hb:=d3G (fnM n s).1.body
 have h1:=hB.bd
 have h2:=hB.ps
 have e47:B47=140737488355328:=rfl
 have e20:B20=1100000:=rfl
 exact⟨g6D (d9D w0.wf),by omega,d8T,g6G w2,d9Q _,by omega,d8T,(d9Z n).bd true [] _ (fun a h=>by cases h) w7,(d9C n).ex _ w9⟩
theorem g6I:∀ (n:Nat) (l:List Fu) (s:Ps),Wv s→s.ts.length≤16400→(∀ f,f∈l→FuOk f)→∀ f,f∈(d6F n l s).1→FuOk f
 |0,l,s,h,hs,hl=>by rw[d6F];exact hl
 |n+1,l,s,h,hs,hl=>by
  rw[d6F]
  split
  ·have h1:=e0E (n:=n) h.wf
   have:=h1.le
   refine g6I n _ _ (h.of h1) (by omega) fun f hm=>?_
   rcases h2W.1 hm with q|q
   ·exact hl f q
   ·rw[h3F] at q;rw[q];exact g6H h hs
  ·exact hl
theorem g6J {s:Ps} (h:Wv s):d2W (d6E s).1:=⟨g6D (d9D (h.of (d6L h.wf)).wf),d9Q _⟩
theorem g6K:∀ (n:Nat) (l:List De) (s:Ps),Wv s→(∀ f,f∈l→d2W f)→∀ f,f∈(d6G n l s).1→d2W f
 |0,l,s,h,hl=>by rw[d6G];exact hl
 |n+1,l,s,h,hl=>by
  rw[d6G]
  split
  ·refine g6K n _ _ (h.of (e0H h.wf)) fun f hm=>?_
   rcases h2W.1 hm with q|q
   ·exact hl f q
   ·rw[h3F] at q;rw[q];exact g6J h
  ·exact hl
theorem g6L {n:Nat} {l:List Tok} (h:Wv (st0 l)) (hl:l.length≤16400):PgOk (d6J n (st0 l)).1:=by
 have hR:PgR (d6J n (st0 l)).1:=e3T (l:=l) h.wf hl
 have s1:=g6A n [] (st0 l) h.wf
 have w1:=h.of s1
 have s2:=g6B n [] _ w1.wf
 have w2:=w1.of s2
 have hb:=d3G (d6J n (st0 l)).1.body
 have a1:=hR.fl
 have a2:=hR.dl
 have a3:=hR.bd
 have e47:B47=140737488355328:=rfl
 have e20:B20=1100000:=rfl
 exact⟨by omega,d8T,g6I n [] _ h hl (fun f h=>by cases h),by omega,d8T,g6K n [] _ w1 (fun f h=>by cases h),by omega,d8T,(d9Z n).bd true [] _ (fun a h=>by cases h) w2⟩
theorem g6M {s:List UInt8} (hs:s.length≤3000) {N:Nat} (hN:40000≤N) {p:Pg} {q:Int} (h:prN N s=(p,q,0)) :
  d4B p=0∧PgOk p∧g2L p=p∧(g3O p).length≤16384∧∀ M,wP p≤M→prN M (g3O p)=(p,0,0):=by
 have hw:=e0K s
 unfold prN at h
 by_cases hr:(d6I (d8N s).2.1 (d8N s).2.2 (d6J N (st0 (d8N s).1)).2).2≠0
 ·rw[if_pos hr] at h
  injection h with h1 h2
  rw[h2] at hr
  exact absurd rfl hr
 ·rw[if_neg hr] at h
  injection h with h1 h2
  have hr0:(d6I (d8N s).2.1 (d8N s).2.2 (d6J N (st0 (d8N s).1)).2).2=0:=h1A hr
  have hst:(d8N s).2.1=0∧(d6J N (st0 (d8N s).1)).2.err=0∧(d6J N (st0 (d8N s).1)).2.deep=false:=by
   unfold d6I at hr0
   by_cases hc:(d6J N (st0 (d8N s).1)).2.err≠0∧((d8N s).2.1=0∨(d6J N (st0 (d8N s).1)).2.pos < (d8N s).2.2)
   ·rw[if_pos hc] at hr0
    exact absurd hr0 hc.1
   ·rw[if_neg hc] at hr0
    by_cases hs0:(d8N s).2.1=0
    ·rw[if_neg (fun h=>h hs0)] at hr0
     have he:(d6J N (st0 (d8N s).1)).2.err=0:=h1A fun q=>hc ⟨q,.inl hs0⟩
     refine⟨hs0,he,?_⟩
     cases hd:(d6J N (st0 (d8N s).1)).2.deep with
     |false=>rfl
     |true=>rw[hd] at hr0;simp at hr0
    ·rw[if_pos hs0] at hr0
     exact absurd hr0 hs0
  obtain⟨h0,he,hdp⟩:=hst
  obtain⟨l,hl⟩:∃ l,d0X 0 s=.toks l:=by
   cases hx:d0X 0 s with
   |toks l=>exact⟨l,rfl⟩
   |err p' e' =>
    exfalso
    have hne:=(e0O _ _ _ _ _ rfl hx).2
    obtain⟨k,l,g1,g2,g3⟩:=d8M _ _ _ _ _ rfl hx
    rw[h4C] at g1
    subst g1
    unfold d8N at h0
    rw[if_neg (by omega),hx] at h0
    simp only[g3] at h0
    omega
  have hT:=d8P (by omega) hl
  rw[hT] at he hdp h1 hw
  simp only at he hdp h1 hw
  have hlen:=d8I _ _ _ _ rfl hl
  have htx:=e0M _ _ _ _ rfl hl
  have hg:Gk (st0 l):=⟨hw.1.wf,g1F _ _ _ _ rfl hl⟩
  have hts:(st0 l).ts=l:=rfl
  obtain⟨r1,r2,r3⟩:=g6C hg (by rw[hts];omega) he hdp
  have ho:=g6L (n:=N) hw.1 hw.2
  rw[h1] at r1 r2 r3 ho
  have hwl:=g1G l
  rw[hts] at r3
  have hfm:(g3O p).length≤16384:=by omega
  refine⟨r1,ho,r2,hfm,fun M hM=>?_⟩
  rw[g3Q r1 ho hfm hM,r2]
theorem g6N {N:Nat} {s:List UInt8} {p:Pg} {a b:Int} (h:prN N s=(p,a,b)) (hb:b≠0):p=zPg:=by
 unfold prN at h
 split at h
 ·injection h with h1 h2
  exact h1.symm
 ·injection h with h1 h2
  injection h2 with h3 h4
  exact absurd h4.symm hb
end Go.Ky
