/- KX 50: the canonical text of an expression, in pieces (tokens and blanks); what the parser does with it, level by level. No program in sight. -/
import Derived.Test.YtcbgiabippcpaaaGreatDoorKx43
import Derived.Test.YtcbgiabippcpaaaGreatDoorKx43
import Derived.Test.YtcbgiabippcpaaaGreatDoorKx43
set_option linter.unusedSimpArgs false
set_option linter.unusedVariables false
namespace Go.Ky
open Go.Pi Go.Lx
abbrev Pc:=Option Tok
def sy (t:Nm):Tok:=⟨4,t,0,0⟩
def kw (t:Nm):Tok:=⟨2,t,0,0⟩
def nmT (t:Nm):Tok:=⟨1,t,0,0⟩
def nu (v:Nat):Tok:=⟨3,d1M v,v,0⟩
def tks (l:List Pc):List Tok:=l.filterMap id
theorem f3D (a b:List Pc):tks (a++b)=tks a++tks b:=List.filterMap_append
theorem f3E (t:Tok) (l:List Pc):tks (some t::l)=t::tks l:=rfl
theorem f3F (l:List Pc):tks (none::l)=tks l:=rfl
def f3G (op:Int):Nat:=if op=20 then 1 else if op=19 then 2 else if op=18 then 3 else if op=14∨op=15∨op=16∨op=17 then 4 else if op=12∨op=13 then 5 else if op=11 then 6 else if op=9∨op=10 then 7 else if op=8 then 8 else 9
def f3H (op:Int):Tok:=if op=19 then kw [111,114] else if op=18 then kw [97,110,100] else if op=14 then sy [61,61] else if op=15 then sy [33,61] else if op=16 then sy [60] else if op=17 then sy [60,61] else if op=12 then sy [43] else if op=13 then sy [45] else sy [42]
structure Ar where
 lv:Nat
 op:Int
 ps:List Pc
def f3I (r:Nat) (a:Ar):List Pc:=if a.lv < r then some (sy [40])::(a.ps++[some (sy [41])]) else a.ps
def f3J:List (List Pc)→List Pc
 |[]=>[]
 |x::r=>x++r.flatMap fun y=>some (sy [44])::none::y
def a0 (l:List Ar):Ar:=l.getD 0 ⟨9,0,[]⟩
def a1 (l:List Ar):Ar:=l.getD 1 ⟨9,0,[]⟩
def a2 (l:List Ar):Ar:=l.getD 2 ⟨9,0,[]⟩
def f3K (op v:Int) (n:Nm) (as:List Ar):List Pc :=
 if op=1 then [some (nu v.toNat)]
 else if op=2 then [some (nmT n)]
 else if op=3 then [some (kw [116,114,117,101])]
 else if op=4 then [some (kw [102,97,108,115,101])]
 else if op=5 then some (nmT n)::some (sy [40])::(f3J (as.map (f3I 1))++[some (sy [41])])
 else if op=6 then some (kw [104,97,115,104])::some (sy [40])::some (nu v.toNat)::some (sy [59])::none::(f3J (as.map (f3I 1))++[some (sy [41])])
 else if op=7 then some (sy [91])::(f3J (as.map (f3I 1))++[some (sy [93])])
 else if op=8 then f3I 8 (a0 as)++some (sy [91])::(f3I 1 (a1 as)++[some (sy [93])])
 else if op=9 then some (sy [45])::f3I (if (a0 as).op=9 then 8 else 7) (a0 as)
 else if op=10 then some (kw [110,111,116])::none::f3I 7 (a0 as)
 else if op=20 then f3I 2 (a0 as)++none::some (sy [63])::none::(f3I 1 (a1 as)++none::some (sy [58])::none::f3I 1 (a2 as))
 else f3I (if f3G op=4 then 5 else f3G op) (a0 as)++none::some (f3H op)::none::f3I (f3G op+1) (a1 as)
mutual
def f3L:Exp→List Pc
 |.mk op v n _ l=>f3K op v n (f3M l)
def f3M:List Exp→List Ar
 |[]=>[]
 |e::r=>⟨f3G e.op,e.op,f3L e⟩::f3M r
end
def ar (e:Exp):Ar:=⟨f3G e.op,e.op,f3L e⟩
theorem f3N (l:List Exp):f3M l=l.map ar:=by
 induction l with
 |nil=>rfl
 |cons e r ih=>rw[f3M,ih];rfl
theorem f3O (e:Exp):f3L e=f3K e.op e.val e.name (e.args.map ar):=by
 cases e;rw[f3L,f3N];rfl
mutual
def f3P:Exp→Exp
 |.mk op v n _ l=>.mk op v n l.isEmpty (f3Q l)
def f3Q:List Exp→List Exp
 |[]=>[]
 |e::r=>f3P e::f3Q r
end
theorem f3R (l:List Exp):f3Q l=l.map f3P:=by
 induction l with
 |nil=>rfl
 |cons e r ih=>rw[f3Q,ih];rfl
theorem f3S (e:Exp):f3P e=.mk e.op e.val e.name e.args.isEmpty (e.args.map f3P):=by
 cases e;rw[f3P,f3R];rfl
mutual
def zn:Exp→Nat
 |.mk _ _ _ _ l=>1+zns l
def zns:List Exp→Nat
 |[]=>0
 |e::r=>zn e+zns r
end
theorem f3T (e:Exp):zn e=1+zns e.args:=by cases e;rw[zn];rfl
def stt (s:Ps) (ts:List Tok):Ps:={ s with ts:=ts }
theorem f3U {s:Ps} {t:Tok} {r:List Tok} (h:r≠[]):d5P (stt s (t::r))=stt s r:=by
 unfold d5P stt
 simp only
 rw[if_pos (by have:=List.length_pos_iff.2 h;simp only[g7L];omega)]
 rfl
theorem f3V {s:Ps} {x:Nm} {t:Tok} {r:List Tok} (h:r≠[]) (ha:atT x t=true):d5R x (stt s (t::r))=stt s r:=by
 unfold d5R
 rw[if_pos (by show atT x t=true;exact ha),f3U h]
abbrev hdd (l:List Tok):Tok:=l.headD d5M
theorem f3W (x:Nm) (s:Ps) (l:List Tok):atM x (stt s l)=atT x (hdd l):=rfl
def Fo (lv:Nat) (h:Tok):Prop:=(∀ j,lv≤j→j≤4→opG h (ops j)=none)∧atT [91] h=false∧atT [40] h=false
theorem Fo.up {lv:Nat} {h:Tok} (f:Fo lv h):Fo (lv+1) h:=⟨fun j hj=>f.1 j (by omega),f.2⟩
def Hd (X:List Tok):Prop:=∃ t r,X=t::r∧atT [45] t=false∧atT [110,111,116] t=false
def PRc (m:Nat) (X:List Tok) (v:Exp):Prop:=∀ (s:Ps) (rest:List Tok) (n:Nat),rest≠[]→m≤n→atT [40] (hdd rest)=false→d6A n (stt s (X++rest))=(v,stt s rest)
def IXc (m k:Nat) (X:List Tok) (v:Exp):Prop:=∀ (s:Ps) (rest:List Tok) (n:Nat),rest≠[]→m≤n→atT [40] (hdd rest)=false→∃ n',n≤n'+k∧unM n (stt s (X++rest))=d5Z n' v (stt s rest)
def UMc (m:Nat) (X:List Tok) (v:Exp):Prop:=∀ (s:Ps) (rest:List Tok) (n:Nat),rest≠[]→m≤n→Fo 5 (hdd rest)→unM n (stt s (X++rest))=(v,stt s rest)
def BMc (lv m:Nat) (X:List Tok) (v:Exp):Prop:=∀ (s:Ps) (rest:List Tok) (n:Nat),rest≠[]→m≤n→Fo lv (hdd rest)→d5X n lv (stt s (X++rest))=(v,stt s rest)
def BLc (lv m k:Nat) (X:List Tok) (v:Exp):Prop:=∀ (s:Ps) (rest:List Tok) (n:Nat),rest≠[]→m≤n→Fo (lv+1) (hdd rest)→∃ n',n≤n'+k∧d5X n lv (stt s (X++rest))=d5Y n' lv v (stt s rest)
def EMc (m:Nat) (X:List Tok) (v:Exp):Prop:=∀ (s:Ps) (rest:List Tok) (n:Nat),rest≠[]→m≤n→Fo 0 (hdd rest)→atT [63] (hdd rest)=false→d5W n (stt s (X++rest))=(v,stt s rest)
theorem f3X {m n:Nat} (h:m+1≤n):∃ k,n=k+1∧m≤k:=⟨n - 1,by omega,by omega⟩
theorem f3Y {m:Nat} {X:List Tok} {v:Exp} (hx:Hd X) (h:PRc m X v):IXc (m+1) 1 X v:=by
 intro s rest n hr hn hp
 obtain⟨n0,rfl,h0⟩:=f3X hn
 obtain⟨t,r,rfl,h1,h2⟩:=hx
 refine⟨n0,g8S _,?_⟩
 have:=h s rest n0 hr h0 hp
 rw[unM,if_neg (by show ¬atT [45] t=true;rw[h1];simp),if_neg (by show ¬atT [110,111,116] t=true;rw[h2];simp),this]
theorem f3Z {n:Nat} {v:Exp} {s:Ps} {rest:List Tok} (h:atT [91] (hdd rest)=false):d5Z n v (stt s rest)=(v,stt s rest):=by
 cases n with
 |zero=>rw[d5Z]
 |succ n=>rw[d5Z,if_neg (by rw[f3W,h];simp)]
theorem f4A {m k:Nat} {X:List Tok} {v:Exp} (h:IXc m k X v):UMc m X v:=by
 intro s rest n hr hn hf
 obtain⟨n',_,e⟩:=h s rest n hr hn hf.2.2
 rw[e,f3Z hf.2.1]
theorem f4B {m:Nat} {X:List Tok} {v:Exp} (h:UMc m X v):BMc 5 (m+1) X v:=by
 intro s rest n hr hn hf
 obtain⟨n0,rfl,h0⟩:=f3X hn
 rw[d5X,if_pos rfl,h s rest n0 hr h0 hf]
theorem f4C {lv m:Nat} {X:List Tok} {v:Exp} (hl:lv≤4) (h:BMc (lv+1) m X v):BLc lv (m+1) 1 X v:=by
 intro s rest n hr hn hf
 obtain⟨n0,rfl,h0⟩:=f3X hn
 refine⟨n0,g8S _,?_⟩
 rw[d5X,if_neg (by omega),h s rest n0 hr h0 hf]
theorem f4D {n lv:Nat} {v:Exp} {s:Ps} {rest:List Tok} (h:opG (hdd rest) (ops lv)=none):d5Y n lv v (stt s rest)=(v,stt s rest):=by
 cases n with
 |zero=>rw[d5Y]
 |succ n =>
  rw[d5Y]
  have:opL lv (stt s rest)=none:=by unfold opL;rw[e0X];exact h
  rw[this]
theorem f4E {lv m k:Nat} {X:List Tok} {v:Exp} (hl:lv≤4) (h:BLc lv m k X v):BMc lv m X v:=by
 intro s rest n hr hn hf
 obtain⟨n',_,e⟩:=h s rest n hr hn hf.up
 rw[e,f4D (hf.1 lv (g8S _) hl)]
theorem f4F {m:Nat} {X:List Tok} {v:Exp} (h:BMc 0 m X v):EMc (m+1) X v:=by
 intro s rest n hr hn hf hq
 obtain⟨n0,rfl,h0⟩:=f3X hn
 rw[d5W,h s rest n0 hr h0 hf,if_neg (by rw[f3W,hq];simp)]
theorem f4G {m:Nat} {X:List Tok} {v:Exp} (h:EMc m X v):PRc (m+1) (sy [40]::(X++[sy [41]])) v:=by
 intro s rest n hr hn hp
 obtain⟨n0,rfl,h0⟩:=f3X hn
 have e:(sy [40]::(X++[sy [41]]))++rest=sy [40]::(X++sy [41]::rest):=by simp
 rw[e]
 have h1:=h s (sy [41]::rest) n0 (by simp) h0 ⟨by intro j _ hj;match j,hj with|0,_=>rfl|1,_=>rfl|2,_=>rfl|3,_=>rfl|4,_=>rfl,rfl,rfl⟩ rfl
 have hX:X++sy [41]::rest≠[]:=by simp
 rw[d6A,if_neg (by show ¬(sy [40]).kind=3;decide),if_neg (by show ¬(sy [40]).kind=1;decide)]
 rw[if_neg (by show ¬atT _ (sy [40])=true;decide),if_neg (by show ¬atT _ (sy [40])=true;decide),if_neg (by show ¬atT _ (sy [40])=true;decide),if_neg (by show ¬atT _ (sy [40])=true;decide),if_pos (by show atT _ (sy [40])=true;decide)]
 rw[f3U hX,h1]
 simp only
 rw[f3V hr rfl]
structure Up (L m k:Nat) (X:List Tok) (v:Exp):Prop where
 ex:EMc m X v
 bm:∀ lv,lv≤4→lv+2≤L→BMc lv m X v
 bl:∀ lv,lv≤4→lv≠2→lv+2≤L→BLc lv m k X v
 um:7≤L→UMc m X v
 ix:8≤L→IXc m k X v
theorem EMc.weak {m m':Nat} {X:List Tok} {v:Exp} (h:EMc m X v) (hm:m≤m'):EMc m' X v:=fun s rest n a b c d=>h s rest n a (g8T hm b) c d
theorem BMc.weak {lv m m':Nat} {X:List Tok} {v:Exp} (h:BMc lv m X v) (hm:m≤m'):BMc lv m' X v:=fun s rest n a b c=>h s rest n a (g8T hm b) c
theorem UMc.weak {m m':Nat} {X:List Tok} {v:Exp} (h:UMc m X v) (hm:m≤m'):UMc m' X v:=fun s rest n a b c=>h s rest n a (g8T hm b) c
theorem BLc.weak {lv m m' k k':Nat} {X:List Tok} {v:Exp} (h:BLc lv m k X v) (hm:m≤m') (hk:k≤k'):BLc lv m' k' X v:=fun s rest n a b c=>by
 obtain⟨n',h1,h2⟩:=h s rest n a (g8T hm b) c
 exact⟨n',by omega,h2⟩
theorem IXc.weak {m m' k k':Nat} {X:List Tok} {v:Exp} (h:IXc m k X v) (hm:m≤m') (hk:k≤k'):IXc m' k' X v:=fun s rest n a b c=>by
 obtain⟨n',h1,h2⟩:=h s rest n a (g8T hm b) c
 exact⟨n',by omega,h2⟩
theorem f4H {X:List Tok} {v:Exp}:∀ (d lv m:Nat),lv+d≤5→BMc (lv+d) m X v→BMc lv (m+d) X v
 |0,lv,m,_,h=>h
 |d+1,lv,m,hl,h=>by
  have h1:=f4H d (lv+1) m (by omega) (by rw[Nat.add_right_comm];exact h)
  exact(f4E (by omega) (f4C (by omega) h1)).weak (by omega)
theorem f4I {L m:Nat} {X:List Tok} {v:Exp} (hL:L≤5) (h:BMc L m X v) (lv:Nat) (hl:lv≤L):BMc lv (m+5) X v:=by
 have h1:=f4H (L - lv) lv m (by omega) (by rw[show lv+(L - lv)=L by omega];exact h)
 exact h1.weak (by omega)
theorem f4J {m k:Nat} {X:List Tok} {v:Exp} (h:EMc m X v):Up 1 m k X v:=⟨h,fun lv _ h=>by omega,fun lv _ _ h=>by omega,fun h=>by omega,fun h=>by omega⟩
theorem f4K {L m k:Nat} {X:List Tok} {v:Exp} (hL:L≤5) (h:BMc L m X v) (hb:∀ lv,lv=L→lv≤4→lv≠2→BLc lv m k X v) (hu:L=5→UMc m X v):Up (L+2) (m+10) (k+10) X v where
 ex:=(f4F (f4I hL h 0 (by omega))).weak (by omega)
 bm lv h1 h2:=(f4I hL h lv (by omega)).weak (by omega)
 bl lv h1 h2 h3:=by
  by_cases e:lv=L
  ·exact(hb lv e h1 h2).weak (by omega) (by omega)
  ·exact(f4C h1 (f4I hL h (lv+1) (by omega))).weak (by omega) (by omega)
 um h1:=(hu (by omega)).weak (by omega)
 ix h1:=by omega
theorem f4L {lv m k:Nat} {X:List Tok} {v:Exp} (hl:lv≤4) (h:BLc lv m k X v):Up (lv+2) (m+10) (k+10) X v :=
 f4K (by omega) (f4E hl h) (fun j e _ _=>by subst e;exact h) (fun h=>by omega)
theorem f4M {m k:Nat} {X:List Tok} {v:Exp} (h:UMc m X v):Up 7 (m+11) (k+10) X v:=by
 have:=f4K (L:=5) (k:=k) (g8S _) (f4B h) (fun lv e h1=>by omega) (fun _=>h.weak (by omega))
 exact this
theorem f4N {m k:Nat} {X:List Tok} {v:Exp} (h:IXc m k X v):Up 8 (m+11) (k+10) X v:=by
 have u:=f4M (k:=k) (f4A h)
 exact⟨u.ex,fun lv h1 h2=>u.bm lv h1 (by omega),fun lv h1 h2 h3=>u.bl lv h1 h2 (by omega),fun _=>u.um (by omega),fun _=>h.weak (by omega) (by omega)⟩
theorem f4O {m:Nat} {X:List Tok} {v:Exp} (hx:Hd X) (h:PRc m X v):Up 9 (m+12) 11 X v:=by
 have u:=f4N (f3Y hx h)
 exact⟨u.ex,fun lv h1 h2=>u.bm lv h1 (by omega),fun lv h1 h2 h3=>u.bl lv h1 h2 (by omega),fun _=>u.um (by omega),fun _=>u.ix (by omega)⟩
end Go.Ky

/- KX 51: the parser on the tokens of a canonical text: it finds the expression. -/
namespace Go.Ky
open Go.Pi Go.Lx
theorem f4P (t:Nm) (h:∀ x:Nm×Int,x∈ops 0++(ops 1++(ops 2++(ops 3++ops 4)))→x.1≠t) (h1:t≠[91]) (h2:t≠[40]):Fo 0 (sy t):=by
 have go:∀ l:List (Nm×Int),(∀ x∈l,x.1≠t)→opG (sy t) l=none:=by
  intro l
  induction l with
  |nil=>intro _;rfl
  |cons x r ih =>
   intro hx
   obtain⟨a,b⟩:=x
   rw[opG,if_neg,ih fun y hy=>hx y (g7X _ hy)]
   intro q
   unfold atT sy at q
   simp only[g5U,g9N] at q
   exact hx (a,b) g7Y q.2.symm
 refine⟨fun j _ hj=>?_,?_,?_⟩
 ·match j,hj with
  |0,_=>exact go _ fun x hx=>h x (by simp [hx])
  |1,_=>exact go _ fun x hx=>h x (by simp [hx])
  |2,_=>exact go _ fun x hx=>h x (by simp [hx])
  |3,_=>exact go _ fun x hx=>h x (by simp [hx])
  |4,_=>exact go _ fun x hx=>h x (by simp [hx])
 ·unfold atT sy;simp [h1]
 ·unfold atT sy;simp [h2]
theorem f4Q:Fo 0 (sy [41]):=f4P _ (by decide) (by decide) (by decide)
theorem f4R:Fo 0 (sy [93]):=f4P _ (by decide) (by decide) (by decide)
theorem f4S:Fo 0 (sy [44]):=f4P _ (by decide) (by decide) (by decide)
theorem f4T:Fo 0 (sy [63]):=f4P _ (by decide) (by decide) (by decide)
theorem f4U:Fo 0 (sy [58]):=f4P _ (by decide) (by decide) (by decide)
def f4V (l:List (List Tok×Exp)):List Tok:=l.flatMap fun p=>sy [44]::p.1
theorem f4W:∀ (l:List (List Tok×Exp)) (acc:List Exp) (s:Ps) (rest:List Tok) (n m:Nat),(∀ p,p∈l→EMc m p.1 p.2)→rest≠[]→Fo 0 (hdd rest)→atT [63] (hdd rest)=false→atT [44] (hdd rest)=false→m+l.length≤n →
  d6E n acc (stt s (f4V l++rest))=(acc++l.map (·.2),stt s rest)
 |[],acc,s,rest,n,m,_,hr,hf,hq,hc,hn=>by
  show d6E n acc (stt s rest)=_
  cases n with
  |zero=>rw[d6E];simp
  |succ n=>rw[d6E,if_neg (by rw[f3W,hc];simp)];simp
 |p::r,acc,s,rest,n,m,hp,hr,hf,hq,hc,hn=>by
  obtain⟨n0,rfl,h0⟩:=f3X (m:=m+r.length) (n:=n) (by simp only[g7L] at hn;omega)
  have e:f4V (p::r)++rest=sy [44]::(p.1++(f4V r++rest)):=by simp [f4V]
  have hne:f4V r++rest≠[]:=by simp [hr]
  have hne2:p.1++(f4V r++rest)≠[]:=by simp [hr]
  have hh:Fo 0 (hdd (f4V r++rest))∧atT [63] (hdd (f4V r++rest))=false:=by
   cases r with
   |nil=>exact⟨hf,hq⟩
   |cons q r=>exact⟨f4S,rfl⟩
  rw[e,d6E,if_pos (by show atT [44] (sy [44])=true;decide),f3U hne2,hp p g7Y s _ n0 hne (by omega) hh.1 hh.2]
  simp only
  rw[f4W r _ s rest n0 m (fun q hq=>hp q (g7X _ hq)) hr hf hq hc (by omega)]
  simp
theorem f4X {p:List Tok×Exp} {l:List (List Tok×Exp)} {s:Ps} {rest:List Tok} {n m:Nat} (hp:∀ q,q∈p::l→EMc m q.1 q.2) (hr:rest≠[]) (hf:Fo 0 (hdd rest)) (hq:atT [63] (hdd rest)=false) (hc:atT [44] (hdd rest)=false) (hn:m+l.length+1≤n) :
  d6D n (stt s (p.1++(f4V l++rest)))=(p.2::l.map (·.2),stt s rest):=by
 obtain⟨n0,rfl,h0⟩:=f3X hn
 have hne:f4V l++rest≠[]:=by simp [hr]
 have hh:Fo 0 (hdd (f4V l++rest))∧atT [63] (hdd (f4V l++rest))=false:=by
  cases l with
  |nil=>exact⟨hf,hq⟩
  |cons q r=>exact⟨f4S,rfl⟩
 rw[d6D,hp p g7Y s _ n0 hne (by omega) hh.1 hh.2]
 simp only
 rw[f4W l _ s rest n0 m (fun q hq=>hp q (g7X _ hq)) hr hf hq hc (by omega)]
 rfl
structure Pe (e:Exp):Prop where
 ex:EMc (64 * zn e) (tks (f3I 1 (ar e))) (f3P e)
 bm:∀ lv,lv≤4→BMc lv (64 * zn e) (tks (f3I (lv+2) (ar e))) (f3P e)
 bl:∀ lv,lv≤4→lv≠2→BLc lv (64 * zn e) (64 * zn e) (tks (f3I (lv+2) (ar e))) (f3P e)
 u7:UMc (64 * zn e) (tks (f3I 7 (ar e))) (f3P e)
 u8:UMc (64 * zn e) (tks (f3I 8 (ar e))) (f3P e)
 ix:IXc (64 * zn e) (64 * zn e) (tks (f3I 8 (ar e))) (f3P e)
 hd:∀ r,∃ t rr,tks (f3I r (ar e))=t::rr∧atT [41] t=false
theorem f4Y (r:Nat) (e:Exp):tks (f3I r (ar e))=if f3G e.op < r then sy [40]::(tks (f3L e)++[sy [41]]) else tks (f3L e):=by
 unfold f3I ar
 simp only
 split
 ·rw[f3E,f3D];rfl
 ·rfl
theorem Up.weak {L m k m' k':Nat} {X:List Tok} {v:Exp} (u:Up L m k X v) (hm:m≤m') (hk:k≤k'):Up L m' k' X v :=
 ⟨u.ex.weak hm,fun lv a b=>(u.bm lv a b).weak hm,fun lv a b c=>(u.bl lv a b c).weak hm hk,fun a=>(u.um a).weak hm,fun a=>(u.ix a).weak hm hk⟩
theorem f4Z {e:Exp} {m k:Nat} (u:Up (f3G e.op) m k (tks (f3L e)) (f3P e)) (hd:∃ t rr,tks (f3L e)=t::rr∧atT [41] t=false) (hm:m+20≤64 * zn e) (hk:k+20≤64 * zn e):Pe e:=by
 have up:=f4O (X:=sy [40]::(tks (f3L e)++[sy [41]])) ⟨_,_,rfl,by decide,by decide⟩ (f4G u.ex)
 have up':=up.weak (m':=64 * zn e) (k':=64 * zn e) (by omega) (by omega)
 have u':=u.weak (m':=64 * zn e) (k':=64 * zn e) (by omega) (by omega)
 have key:∀ r,r≤9→∃ L,r≤L∧Up L (64 * zn e) (64 * zn e) (tks (f3I r (ar e))) (f3P e):=by
  intro r hr
  rw[f4Y]
  split
  ·exact⟨9,hr,up'⟩
  ·exact⟨_,by omega,u'⟩
 refine⟨?_,fun lv h=>?_,fun lv h h2=>?_,?_,?_,?_,fun r=>?_⟩
 ·obtain⟨L,h1,h2⟩:=key 1 (by omega);exact h2.ex
 ·obtain⟨L,h1,h2⟩:=key (lv+2) (by omega);exact h2.bm lv h h1
 ·obtain⟨L,h1,h3⟩:=key (lv+2) (by omega);exact h3.bl lv h h2 h1
 ·obtain⟨L,h1,h2⟩:=key 7 (by omega);exact h2.um h1
 ·obtain⟨L,h1,h2⟩:=key 8 (by omega);exact h2.um (by omega)
 ·obtain⟨L,h1,h2⟩:=key 8 (by omega);exact h2.ix h1
 ·rw[f4Y]
  split
  ·exact⟨_,_,rfl,by decide⟩
  ·exact hd
theorem f5A {lv m k m1:Nat} {X0 X1:List Tok} {v0 v1:Exp} {op:Int} {t:Tok} (hl:lv≤4) (h2:lv≠2) (hop:opG t (ops lv)=some op) (hf:Fo (lv+1) t) (h0:BLc lv m k X0 v0) (h1:BMc (lv+1) m1 X1 v1) {M:Nat} (hM:m≤M) (hM2:k+m1+1≤M):BLc lv M (k+1) (X0++t::X1) (nod op [v0,v1]):=by
 intro s rest n hr hn hfr
 have e:(X0++t::X1)++rest=X0++t::(X1++rest):=by simp
 obtain⟨n',a,b⟩:=h0 s (t::(X1++rest)) n (by simp) (by omega) hf
 obtain⟨n2,rfl,c⟩:=f3X (m:=m1) (n:=n') (by omega)
 refine⟨n2,by omega,?_⟩
 have ho:opL lv (stt s (t::(X1++rest)))=some op:=by unfold opL;rw[e0X];exact hop
 rw[e,b,d5Y,ho]
 simp only
 rw[if_neg h2,f3U (by simp [hr]),h1 s rest n2 hr c hfr]
theorem f5B {m m1:Nat} {X0 X1:List Tok} {v0 v1:Exp} {op:Int} {t:Tok} (hop:opG t (ops 2)=some op) (hf:Fo 3 t) (h0:BMc 3 m X0 v0) (h1:BMc 3 m1 X1 v1):BMc 2 (m+m1+3) (X0++t::X1) (nod op [v0,v1]):=by
 intro s rest n hr hn hfr
 have e:(X0++t::X1)++rest=X0++t::(X1++rest):=by simp
 obtain⟨n',a,b⟩:=f4C (lv:=2) (by decide) h0 s (t::(X1++rest)) n (by simp) (by omega) hf
 obtain⟨n2,rfl,c⟩:=f3X (m:=m1) (n:=n') (by omega)
 have ho:opL 2 (stt s (t::(X1++rest)))=some op:=by unfold opL;rw[e0X];exact hop
 rw[e,b,d5Y,ho]
 simp only
 rw[if_pos trivial,f3U (by simp [hr]),h1 s rest n2 hr c hfr.up]
theorem f5C {m:Nat} {X:List Tok} {v:Exp} (h:UMc m X v):UMc (m+1) (sy [45]::X) (nod 9 [v]):=by
 intro s rest n hr hn hf
 obtain⟨n0,rfl,h0⟩:=f3X hn
 have hne:X++rest≠[]:=by simp [hr]
 show unM (n0+1) (stt s (sy [45]::(X++rest)))=_
 rw[unM,if_pos (by show atT _ (sy [45])=true;decide),f3U hne,h s rest n0 hr h0 hf]
theorem f5D {m:Nat} {X:List Tok} {v:Exp} (h:UMc m X v):UMc (m+1) (kw [110,111,116]::X) (nod 10 [v]):=by
 intro s rest n hr hn hf
 obtain⟨n0,rfl,h0⟩:=f3X hn
 have hne:X++rest≠[]:=by simp [hr]
 show unM (n0+1) (stt s (kw [110,111,116]::(X++rest)))=_
 rw[unM,if_neg (by show ¬atT _ (kw [110,111,116])=true;decide),if_pos (by show atT _ (kw [110,111,116])=true;decide),f3U hne,h s rest n0 hr h0 hf]
theorem f5E {m k m1:Nat} {X0 X1:List Tok} {v0 v1:Exp} (h0:IXc m k X0 v0) (h1:EMc m1 X1 v1) {M:Nat} (hM:m≤M) (hM2:k+m1+1≤M):IXc M (k+1) (X0++sy [91]::(X1++[sy [93]])) (nod 8 [v0,v1]):=by
 intro s rest n hr hn hp
 have e:(X0++sy [91]::(X1++[sy [93]]))++rest=X0++sy [91]::(X1++sy [93]::rest):=by simp
 obtain⟨n',a,b⟩:=h0 s (sy [91]::(X1++sy [93]::rest)) n (by simp) (by omega) (by show atT _ (sy [91])=false;decide)
 obtain⟨n2,rfl,c⟩:=f3X (m:=m1) (n:=n') (by omega)
 refine⟨n2,by omega,?_⟩
 rw[e,b,d5Z,if_pos (by show atT _ (sy [91])=true;decide),f3U (by simp),h1 s (sy [93]::rest) n2 (by simp) c f4R rfl]
 simp only
 rw[f3V hr (by decide)]
theorem f5F {m m1 m2:Nat} {X0 X1 X2:List Tok} {v0 v1 v2:Exp} (h0:BMc 0 m X0 v0) (h1:EMc m1 X1 v1) (h2:EMc m2 X2 v2):EMc (m+m1+m2+1) (X0++sy [63]::(X1++sy [58]::X2)) (nod 20 [v0,v1,v2]):=by
 intro s rest n hr hn hf hq
 obtain⟨n0,rfl,c⟩:=f3X hn
 have e:(X0++sy [63]::(X1++sy [58]::X2))++rest=X0++sy [63]::(X1++sy [58]::(X2++rest)):=by simp
 rw[e,d5W,h0 s (sy [63]::(X1++sy [58]::(X2++rest))) n0 (by simp) (by omega) f4T,if_pos (by show atT _ (sy [63])=true;decide)]
 simp only
 rw[f3U (by simp),h1 s (sy [58]::(X2++rest)) n0 (by simp) (by omega) f4U rfl]
 simp only
 rw[f3V (by simp [hr]) (by decide),h2 s rest n0 hr (by omega) hf hq]
theorem f5G {v:Nat}:PRc 1 [nu v] (.mk 1 v [] true []):=by
 intro s rest n hr hn hp
 obtain⟨n0,rfl,h0⟩:=f3X hn
 show d6A (n0+1) (stt s (nu v::rest))=_
 rw[d6A,if_pos (by show(nu v).kind=3;rfl),f3U hr]
 rfl
theorem f5H {t:Nm}:PRc 1 [nmT t] (.mk 2 0 t true []):=by
 intro s rest n hr hn hp
 obtain⟨n0,rfl,h0⟩:=f3X hn
 show d6A (n0+1) (stt s (nmT t::rest))=_
 rw[d6A,if_neg (by show ¬(1:Nat)=3;decide),if_pos (by show(1:Nat)=1;rfl),f3U hr,if_neg (by rw[f3W,hp];simp)]
 rfl
theorem f5I:PRc 1 [kw [116,114,117,101]] (nod 3 []):=by
 intro s rest n hr hn hp
 obtain⟨n0,rfl,h0⟩:=f3X hn
 show d6A (n0+1) (stt s (kw [116,114,117,101]::rest))=_
 rw[d6A,if_neg (by show ¬(2:Nat)=3;decide),if_neg (by show ¬(2:Nat)=1;decide),if_pos (by show atT _ (kw [116,114,117,101])=true;decide),f3U hr]
theorem f5J:PRc 1 [kw [102,97,108,115,101]] (nod 4 []):=by
 intro s rest n hr hn hp
 obtain⟨n0,rfl,h0⟩:=f3X hn
 show d6A (n0+1) (stt s (kw [102,97,108,115,101]::rest))=_
 rw[d6A,if_neg (by show ¬(2:Nat)=3;decide),if_neg (by show ¬(2:Nat)=1;decide),if_neg (by show ¬atT _ (kw [102,97,108,115,101])=true;decide),if_pos (by show atT _ (kw [102,97,108,115,101])=true;decide),f3U hr]
theorem f5K {t:Nm}:PRc 2 (nmT t::sy [40]::[sy [41]]) (.mk 5 0 t true []):=by
 intro s rest n hr hn hp
 obtain⟨n0,rfl,h0⟩:=f3X hn
 obtain⟨n1,rfl,h1⟩:=f3X h0
 show d6A (n1+1+1) (stt s (nmT t::sy [40]::sy [41]::rest))=_
 rw[d6A,if_neg (by show ¬(1:Nat)=3;decide),if_pos (by show(1:Nat)=1;rfl),f3U (by simp),if_pos (by show atT _ (sy [40])=true;decide),f3U (by simp),d6B,if_pos (by show atT _ (sy [41])=true;decide),f3U hr]
 rfl
theorem f5L {t:Nm} {p:List Tok×Exp} {l:List (List Tok×Exp)} {m:Nat} (hp:∀ q,q∈p::l→EMc m q.1 q.2) (hd:∃ u r,p.1=u::r∧atT [41] u=false):PRc (m+l.length+3) (nmT t::sy [40]::(p.1++(f4V l++[sy [41]]))) (.mk 5 0 t false (p.2::l.map (·.2))):=by
 intro s rest n hr hn hpp
 obtain⟨n0,rfl,h0⟩:=f3X hn
 obtain⟨n1,rfl,h1⟩:=f3X h0
 have e:(nmT t::sy [40]::(p.1++(f4V l++[sy [41]])))++rest=nmT t::sy [40]::(p.1++(f4V l++sy [41]::rest)):=by simp
 have hn1:p.1++(f4V l++sy [41]::rest)≠[]:=by simp
 have hh:atT [41] (hdd (p.1++(f4V l++sy [41]::rest)))=false:=by
  obtain⟨u,r,e1,e2⟩:=hd
  rw[e1];exact e2
 rw[e,d6A,if_neg (by show ¬(1:Nat)=3;decide),if_pos (by show(1:Nat)=1;rfl),f3U (by simp),if_pos (by show atT _ (sy [40])=true;decide),f3U hn1,d6B,if_neg (by rw[f3W,hh];simp),f4X hp (rest:=sy [41]::rest) (by simp) f4Q rfl rfl (by omega)]
 simp only
 rw[f3V hr (by decide)]
 rfl
theorem f5M {v:Nat} {p:List Tok×Exp} {l:List (List Tok×Exp)} {m:Nat} (hp:∀ q,q∈p::l→EMc m q.1 q.2):PRc (m+l.length+3) (kw [104,97,115,104]::sy [40]::nu v::sy [59]::(p.1++(f4V l++[sy [41]]))) (.mk 6 v [] false (p.2::l.map (·.2))):=by
 intro s rest n hr hn hpp
 obtain⟨n0,rfl,h0⟩:=f3X hn
 obtain⟨n1,rfl,h1⟩:=f3X h0
 have e:(kw [104,97,115,104]::sy [40]::nu v::sy [59]::(p.1++(f4V l++[sy [41]])))++rest=kw [104,97,115,104]::sy [40]::nu v::sy [59]::(p.1++(f4V l++sy [41]::rest)):=by simp
 have hn1:p.1++(f4V l++sy [41]::rest)≠[]:=by simp
 rw[e,d6A,if_neg (by show ¬(2:Nat)=3;decide),if_neg (by show ¬(2:Nat)=1;decide),if_neg (by show ¬atT _ (kw [104,97,115,104])=true;decide),if_neg (by show ¬atT _ (kw [104,97,115,104])=true;decide),if_pos (by show atT _ (kw [104,97,115,104])=true;decide),f3U (by simp),d6C,f3V (by simp) (by decide),if_neg (by show ¬(3:Nat)≠3;decide),f3U (by simp),f3V hn1 (by decide),f4X hp (rest:=sy [41]::rest) (by simp) f4Q rfl rfl (by omega)]
 simp only
 rw[f3V hr (by decide)]
 rfl
theorem f5N {p:List Tok×Exp} {l:List (List Tok×Exp)} {m:Nat} (hp:∀ q,q∈p::l→EMc m q.1 q.2):PRc (m+l.length+3) (sy [91]::(p.1++(f4V l++[sy [93]]))) (nod 7 (p.2::l.map (·.2))):=by
 intro s rest n hr hn hpp
 obtain⟨n0,rfl,h0⟩:=f3X hn
 have e:(sy [91]::(p.1++(f4V l++[sy [93]])))++rest=sy [91]::(p.1++(f4V l++sy [93]::rest)):=by simp
 have hn1:p.1++(f4V l++sy [93]::rest)≠[]:=by simp
 rw[e,d6A,if_neg (by show ¬(4:Nat)=3;decide),if_neg (by show ¬(4:Nat)=1;decide),if_neg (by show ¬atT _ (sy [91])=true;decide),if_neg (by show ¬atT _ (sy [91])=true;decide),if_neg (by show ¬atT _ (sy [91])=true;decide),if_pos (by show atT _ (sy [91])=true;decide),f3U hn1,f4X hp (rest:=sy [93]::rest) (by simp) f4R rfl rfl (by omega)]
 simp only
 rw[f3V hr (by decide)]
end Go.Ky

/- KX 52: every valid expression is found in its canonical tokens. -/
namespace Go.Ky
open Go.Pi Go.Lx
theorem f5O {op n v:Int} {nm:Nm} (h:opB op n v nm=true) :
  (op=1∧n=0∧nm=[])∨(op=2∧n=0∧v=0∧d3S nm=true)∨(op=3∧n=0∧v=0∧nm=[])∨(op=4∧n=0∧v=0∧nm=[])∨(op=5∧v=0∧d3S nm=true)∨(op=6∧1≤n∧nm=[])∨(op=7∧1≤n∧v=0∧nm=[]) ∨
  (op=9∧n=1∧v=0∧nm=[])∨(op=10∧n=1∧v=0∧nm=[])∨(op=20∧n=3∧v=0∧nm=[])∨(op=8∧n=2∧v=0∧nm=[])∨((op=11∨op=12∨op=13∨op=14∨op=15∨op=16∨op=17∨op=18∨op=19)∧n=2∧v=0∧nm=[]):=by
 unfold opB at h
 by_cases c1:op=1
 ·rw[if_pos c1] at h;simp only[g5U,g9N] at h;exact .inl ⟨c1,h.1,h.2⟩
 rw[if_neg c1] at h
 by_cases c2:op=2
 ·rw[if_pos c2] at h;simp only[g5U,g9N] at h;exact .inr (.inl ⟨c2,h.1.1,h.1.2,h.2⟩)
 rw[if_neg c2] at h
 by_cases c3:op=3∨op=4
 ·rw[if_pos c3] at h;simp only[g5U,g9N] at h
  rcases c3 with c|c
  ·exact .inr (.inr (.inl ⟨c,h.1.1,h.1.2,h.2⟩))
  ·exact .inr (.inr (.inr (.inl ⟨c,h.1.1,h.1.2,h.2⟩)))
 rw[if_neg c3] at h
 by_cases c5:op=5
 ·rw[if_pos c5] at h;simp only[g5U,g9N] at h;exact .inr (.inr (.inr (.inr (.inl ⟨c5,h.1,h.2⟩))))
 rw[if_neg c5] at h
 by_cases c6:op=6
 ·rw[if_pos c6] at h;simp only[g5U,g9N] at h;exact .inr (.inr (.inr (.inr (.inr (.inl ⟨c6,h.1,h.2⟩)))))
 rw[if_neg c6] at h
 by_cases c7:op=7
 ·rw[if_pos c7] at h;simp only[g5U,g9N] at h;exact .inr (.inr (.inr (.inr (.inr (.inr (.inl ⟨c7,h.1.1,h.1.2,h.2⟩))))))
 rw[if_neg c7] at h
 by_cases c9:op=9∨op=10
 ·rw[if_pos c9] at h;simp only[g5U,g9N] at h
  rcases c9 with c|c
  ·exact .inr (.inr (.inr (.inr (.inr (.inr (.inr (.inl ⟨c,h.1.1,h.1.2,h.2⟩)))))))
  ·exact .inr (.inr (.inr (.inr (.inr (.inr (.inr (.inr (.inl ⟨c,h.1.1,h.1.2,h.2⟩))))))))
 rw[if_neg c9] at h
 by_cases c20:op=20
 ·rw[if_pos c20] at h;simp only[g5U,g9N] at h;exact .inr (.inr (.inr (.inr (.inr (.inr (.inr (.inr (.inr (.inl ⟨c20,h.1.1,h.1.2,h.2⟩)))))))))
 rw[if_neg c20] at h
 by_cases c8:op=8∨op=11∨op=12∨op=13∨op=14∨op=15∨op=16∨op=17∨op=18∨op=19
 ·rw[if_pos c8] at h;simp only[g5U,g9N] at h
  rcases c8 with c|c
  ·exact .inr (.inr (.inr (.inr (.inr (.inr (.inr (.inr (.inr (.inr (.inl ⟨c,h.1.1,h.1.2,h.2⟩))))))))))
  ·exact .inr (.inr (.inr (.inr (.inr (.inr (.inr (.inr (.inr (.inr (.inr ⟨c,h.1.1,h.1.2,h.2⟩))))))))))
 ·rw[if_neg c8] at h;cases h
theorem f5P (e:Exp) (r:List Exp):zns (e::r)=zn e+zns r:=by rw[zns]
theorem f5Q:zns []=0:=by rw[zns]
theorem f5R (e:Exp):1≤zn e:=by rw[f3T];omega
theorem f5S:∀ l:List Exp,l.length≤zns l
 |[]=>g9A _
 |e::r=>by have:=f5R e;have:=f5S r;rw[f5P,g7L];omega
theorem f5T:∀ {l:List Exp} {a:Exp},a∈l→zn a+l.length≤zns l+1
 |e::r,a,h=>by
  rw[f5P,g7L]
  rcases g7W.1 h with rfl|h
  ·have:=f5S r;omega
  ·have:=f5T h;have:=f5R e;omega
def prE (x:Exp):List Tok×Exp:=(tks (f3I 1 (ar x)),f3P x)
theorem f5U (r:List Exp):tks ((r.map fun x=>f3I 1 (ar x)).flatMap fun y=>some (sy [44])::none::y)=f4V (r.map prE):=by
 induction r with
 |nil=>rfl
 |cons a r ih =>
  rw[g7T,g6Q,f3D,ih]
  rfl
theorem f5V (a:Exp) (r:List Exp):tks (f3J (((a::r).map ar).map (f3I 1)))=tks (f3I 1 (ar a))++f4V (r.map prE):=by
 rw[g7T,g7T,f3J,f3D]
 have:(r.map ar).map (f3I 1)=r.map fun x=>f3I 1 (ar x):=by rw[List.map_map];rfl
 rw[this,f5U]
theorem f5W {a:Exp} {r:List Exp} (h:∀ x,x∈a::r→Pe x):∀ q,q∈prE a::r.map prE→EMc (64 * (zns (a::r)+1 - (a::r).length)) q.1 q.2:=by
 intro q hq
 obtain⟨x,hx,rfl⟩:∃ x,x∈a::r∧q=prE x:=by
  rcases g7W.1 hq with e|e
  ·exact⟨a,g7Y,e⟩
  ·obtain⟨x,h1,h2⟩:=List.mem_map.1 e
   exact⟨x,g7X _ h1,h2.symm⟩
 have:=f5T hx
 exact(h x hx).ex.weak (by omega)
theorem f5X (r:List Exp):(r.map prE).map (·.2)=r.map f3P:=by rw[List.map_map];rfl
theorem f5Y {x:Nm} {v:Nat} {c:UInt8} (hc:c∈x) (hd:d0M c=false):atT x (nu v)=false:=by
 unfold atT nu
 rw[g5T]
 right
 refine g9L fun e=>?_
 have:=d1R v c (by rw[show d1M v=x from e];exact hc)
 rw[hd] at this
 cases this
theorem f5Z {x n:Nm} (hx:d3S x=false) (hn:d3S n=true):atT x (nmT n)=false:=by
 unfold atT nmT
 rw[g5T]
 right
 refine g9L fun e=>?_
 rw[show n=x from e,hx] at hn
 cases hn
theorem f6A {X:List Tok} (h:∃ t rr,X=t::rr∧atT [41] t=false) (Y:List Tok):∃ t rr,X++Y=t::rr∧atT [41] t=false:=by
 obtain⟨t,rr,rfl,e⟩:=h
 exact⟨t,rr++Y,rfl,e⟩
theorem f6B:∀ e:Exp,exB e=true→ExpOk e→Pe e:=by
 refine Exp.ind fun e ih hv ho=>?_
 cases ho with|mk _ h1 h2 h3 h4 h5 h6 =>
 rw[d3V,g5U,g6F] at hv
 have hc:=f5O hv.2
 have ha:∀ a,a∈e.args→Pe a:=fun a h=>ih a h (hv.1 a h) (h6 a h)
 have hT:f3L e=f3K e.op e.val e.name (e.args.map ar):=f3O e
 have hC:=f3S e
 have hZ:=f3T e
 obtain⟨op,v,n,nl,l⟩:=e
 simp only[Exp.op,Exp.val,Exp.name,Exp.args] at hc ha hT hC hZ h2
 have l0:∀ {k:Int},(l.length:Int)=k→∀ m:Nat,k=(m:Int)→l.length=m:=fun h m e=>by omega
 rcases hc with⟨rfl,hl,rfl⟩|⟨rfl,hl,rfl,hn⟩|⟨rfl,hl,rfl,rfl⟩|⟨rfl,hl,rfl,rfl⟩|⟨rfl,rfl,hn⟩|⟨rfl,hl,rfl⟩|⟨rfl,hl,rfl,rfl⟩|⟨rfl,hl,rfl,rfl⟩|⟨rfl,hl,rfl,rfl⟩|⟨rfl,hl,rfl,rfl⟩|⟨rfl,hl,rfl,rfl⟩|⟨hop,hl,rfl,rfl⟩
 ·obtain rfl:l=[]:=g6P (by omega)
  have e1:tks (f3L (.mk 1 v [] nl []))=[nu v.toNat]:=by rw[hT];rfl
  have e2:f3P (.mk 1 v [] nl [])=.mk 1 ((v.toNat:Nat):Int) [] true []:=by
   rw[hC,g6E h2.1];rfl
  refine f4Z (m:=13) (k:=11) ?_ ?_ (by rw[hZ,f5Q];decide) (by rw[hZ,f5Q];decide)
  ·rw[e1,e2];exact f4O ⟨_,_,rfl,f5Y (c:=45) (by simp) (by decide),f5Y (c:=110) (by simp) (by decide)⟩ f5G
  ·rw[e1];exact⟨_,_,rfl,f5Y (c:=41) (by simp) (by decide)⟩
 ·obtain rfl:l=[]:=g6P (by omega)
  have e1:tks (f3L (.mk 2 0 n nl []))=[nmT n]:=by rw[hT];rfl
  have e2:f3P (.mk 2 0 n nl [])=.mk 2 0 n true []:=by rw[hC];rfl
  refine f4Z (m:=13) (k:=11) ?_ ?_ (by rw[hZ,f5Q];decide) (by rw[hZ,f5Q];decide)
  ·rw[e1,e2];exact f4O ⟨_,_,rfl,f5Z (by decide) hn,f5Z (by decide) hn⟩ f5H
  ·rw[e1];exact⟨_,_,rfl,f5Z (by decide) hn⟩
 ·obtain rfl:l=[]:=g6P (by omega)
  have e1:tks (f3L (.mk 3 0 [] nl []))=[kw [116,114,117,101]]:=by rw[hT];rfl
  have e2:f3P (.mk 3 0 [] nl [])=nod 3 []:=by rw[hC];rfl
  refine f4Z (m:=13) (k:=11) ?_ ?_ (by rw[hZ,f5Q];decide) (by rw[hZ,f5Q];decide)
  ·rw[e1,e2];exact f4O ⟨_,_,rfl,by decide,by decide⟩ f5I
  ·rw[e1];exact⟨_,_,rfl,by decide⟩
 ·obtain rfl:l=[]:=g6P (by omega)
  have e1:tks (f3L (.mk 4 0 [] nl []))=[kw [102,97,108,115,101]]:=by rw[hT];rfl
  have e2:f3P (.mk 4 0 [] nl [])=nod 4 []:=by rw[hC];rfl
  refine f4Z (m:=13) (k:=11) ?_ ?_ (by rw[hZ,f5Q];decide) (by rw[hZ,f5Q];decide)
  ·rw[e1,e2];exact f4O ⟨_,_,rfl,by decide,by decide⟩ f5J
  ·rw[e1];exact⟨_,_,rfl,by decide⟩
 ·-- a call
  cases l with
  |nil =>
   have e1:tks (f3L (.mk 5 0 n nl []))=nmT n::sy [40]::[sy [41]]:=by rw[hT];rfl
   have e2:f3P (.mk 5 0 n nl [])=.mk 5 0 n true []:=by rw[hC];rfl
   refine f4Z (m:=14) (k:=11) ?_ ?_ (by rw[hZ,f5Q];decide) (by rw[hZ,f5Q];decide)
   ·rw[e1,e2];exact f4O ⟨_,_,rfl,f5Z (by decide) hn,f5Z (by decide) hn⟩ f5K
   ·rw[e1];exact⟨_,_,rfl,f5Z (by decide) hn⟩
  |cons a r =>
   have e1:tks (f3L (.mk 5 0 n nl (a::r)))=nmT n::sy [40]::((prE a).1++(f4V (r.map prE)++[sy [41]])):=by
    rw[hT]
    show nmT n::sy [40]::tks (f3J (((a::r).map ar).map (f3I 1))++[some (sy [41])])=_
    rw[f3D,f5V,g6H];rfl
   have e2:f3P (.mk 5 0 n nl (a::r))=.mk 5 0 n false ((prE a).2::(r.map prE).map (·.2)):=by rw[hC,f5X];rfl
   have hlen:=f5S (a::r)
   simp only[g7L] at hlen
   refine f4Z (m:=64 * (zns (a::r)+1 - (a::r).length)+(r.map prE).length+3+12) (k:=11) ?_ ?_ ?_ ?_
   ·rw[e1,e2];exact f4O ⟨_,_,rfl,f5Z (by decide) hn,f5Z (by decide) hn⟩ (f5L (f5W ha) ((ha a g7Y).hd 1))
   ·rw[e1];exact⟨_,_,rfl,f5Z (by decide) hn⟩
   ·rw[hZ,g7N,g7L];omega
   ·rw[hZ];omega
 ·-- a hash
  cases l with
  |nil=>simp at hl
  |cons a r =>
   have e1:tks (f3L (.mk 6 v [] nl (a::r)))=kw [104,97,115,104]::sy [40]::nu v.toNat::sy [59]::((prE a).1++(f4V (r.map prE)++[sy [41]])):=by
    rw[hT]
    show kw [104,97,115,104]::sy [40]::nu v.toNat::sy [59]::tks (f3J (((a::r).map ar).map (f3I 1))++[some (sy [41])])=_
    rw[f3D,f5V,g6H];rfl
   have e2:f3P (.mk 6 v [] nl (a::r))=.mk 6 ((v.toNat:Nat):Int) [] false ((prE a).2::(r.map prE).map (·.2)):=by rw[hC,f5X,g6E h2.1];rfl
   have hlen:=f5S (a::r)
   simp only[g7L] at hlen
   refine f4Z (m:=64 * (zns (a::r)+1 - (a::r).length)+(r.map prE).length+3+12) (k:=11) ?_ ?_ ?_ ?_
   ·rw[e1,e2];exact f4O ⟨_,_,rfl,by decide,by decide⟩ (f5M (f5W ha))
   ·rw[e1];exact⟨_,_,rfl,by decide⟩
   ·rw[hZ,g7N,g7L];omega
   ·rw[hZ];omega
 ·-- a list
  cases l with
  |nil=>simp at hl
  |cons a r =>
   have e1:tks (f3L (.mk 7 0 [] nl (a::r)))=sy [91]::((prE a).1++(f4V (r.map prE)++[sy [93]])):=by
    rw[hT]
    show sy [91]::tks (f3J (((a::r).map ar).map (f3I 1))++[some (sy [93])])=_
    rw[f3D,f5V,g6H];rfl
   have e2:f3P (.mk 7 0 [] nl (a::r))=nod 7 ((prE a).2::(r.map prE).map (·.2)):=by rw[hC,f5X];rfl
   have hlen:=f5S (a::r)
   simp only[g7L] at hlen
   refine f4Z (m:=64 * (zns (a::r)+1 - (a::r).length)+(r.map prE).length+3+12) (k:=11) ?_ ?_ ?_ ?_
   ·rw[e1,e2];exact f4O ⟨_,_,rfl,by decide,by decide⟩ (f5N (f5W ha))
   ·rw[e1];exact⟨_,_,rfl,by decide⟩
   ·rw[hZ,g7N,g7L];omega
   ·rw[hZ];omega
 ·-- a sign
  match l,hl,ha,hT,hC,hZ with
  |[a],_,ha,hT,hC,hZ =>
  have pa:=ha a (by simp)
  have e2:f3P (.mk 9 0 [] nl [a])=nod 9 [f3P a]:=by rw[hC];rfl
  have e1:tks (f3L (.mk 9 0 [] nl [a]))=sy [45]::tks (f3I (if a.op=9 then 8 else 7) (ar a)):=by rw[hT];rfl
  have hz:zns [a]=zn a:=by rw[f5P,f5Q,g8N]
  have hu:UMc (64 * zn a) (tks (f3I (if a.op=9 then 8 else 7) (ar a))) (f3P a):=by
   split
   ·exact pa.u8
   ·exact pa.u7
  refine f4Z (m:=64 * zn a+1+11) (k:=10) ?_ ?_ (by rw[hZ,hz];omega) (by rw[hZ];omega)
  ·rw[e1,e2];exact f4M (k:=0) (f5C hu)
  ·rw[e1];exact⟨_,_,rfl,by decide⟩
 ·match l,hl,ha,hT,hC,hZ with
  |[a],_,ha,hT,hC,hZ =>
  have pa:=ha a (by simp)
  have e2:f3P (.mk 10 0 [] nl [a])=nod 10 [f3P a]:=by rw[hC];rfl
  have e1:tks (f3L (.mk 10 0 [] nl [a]))=kw [110,111,116]::tks (f3I 7 (ar a)):=by rw[hT];rfl
  have hz:zns [a]=zn a:=by rw[f5P,f5Q,g8N]
  refine f4Z (m:=64 * zn a+1+11) (k:=10) ?_ ?_ (by rw[hZ,hz];omega) (by rw[hZ];omega)
  ·rw[e1,e2];exact f4M (k:=0) (f5D pa.u7)
  ·rw[e1];exact⟨_,_,rfl,by decide⟩
 ·match l,hl,ha,hT,hC,hZ with
  |[a,b,c],_,ha,hT,hC,hZ =>
  have pa:=ha a (by simp)
  have pb:=ha b (by simp)
  have pc:=ha c (by simp)
  have e2:f3P (.mk 20 0 [] nl [a,b,c])=nod 20 [f3P a,f3P b,f3P c]:=by rw[hC];rfl
  have e1:tks (f3L (.mk 20 0 [] nl [a,b,c]))=tks (f3I 2 (ar a))++sy [63]::(tks (f3I 1 (ar b))++sy [58]::tks (f3I 1 (ar c))):=by
   rw[hT]
   show tks (f3I 2 (ar a)++none::some (sy [63])::none::(f3I 1 (ar b)++none::some (sy [58])::none::f3I 1 (ar c)))=_
   rw[f3D,f3F,f3E,f3F,f3D,f3F,f3E,f3F]
  have hz:zns [a,b,c]=zn a+zn b+zn c:=by rw[f5P,f5P,f5P,f5Q];omega
  refine f4Z (m:=64 * zn a+64 * zn b+64 * zn c+1) (k:=0) ?_ ?_ (by rw[hZ,hz];omega) (by rw[hZ];omega)
  ·rw[e1,e2];exact f4J (f5F (pa.bm 0 (by decide)) pb.ex pc.ex)
  ·rw[e1];exact f6A (pa.hd 2) _
 ·match l,hl,ha,hT,hC,hZ with
  |[a,b],_,ha,hT,hC,hZ =>
  have pa:=ha a (by simp)
  have pb:=ha b (by simp)
  have e2:f3P (.mk 8 0 [] nl [a,b])=nod 8 [f3P a,f3P b]:=by rw[hC];rfl
  have e1:tks (f3L (.mk 8 0 [] nl [a,b]))=tks (f3I 8 (ar a))++sy [91]::(tks (f3I 1 (ar b))++[sy [93]]):=by
   rw[hT]
   show tks (f3I 8 (ar a)++some (sy [91])::(f3I 1 (ar b)++[some (sy [93])]))=_
   rw[f3D,f3E,f3D];rfl
  have hz:zns [a,b]=zn a+zn b:=by rw[f5P,f5P,f5Q];omega
  refine f4Z (m:=64 * zn a+64 * zn b+1+11) (k:=64 * zn a+1+10) ?_ ?_ (by rw[hZ,hz];omega) (by rw[hZ,hz];omega)
  ·rw[e1,e2];exact f4N (f5E pa.ix pb.ex (by omega) (by omega))
  ·rw[e1];exact f6A (pa.hd 8) _
 ·-- two operands
  match l,hl,ha,hT,hC,hZ with
  |[a,b],_,ha,hT,hC,hZ =>
  have pa:=ha a (by simp)
  have pb:=ha b (by simp)
  have e2:f3P (.mk op 0 [] nl [a,b])=nod op [f3P a,f3P b]:=by rw[hC];rfl
  have hz:zns [a,b]=zn a+zn b:=by rw[f5P,f5P,f5Q];omega
  have e1:tks (f3L (.mk op 0 [] nl [a,b]))=tks (f3I (if f3G op=4 then 5 else f3G op) (ar a))++f3H op::tks (f3I (f3G op+1) (ar b)):=by
   rw[hT]
   have:f3K op 0 [] ([a,b].map ar)=f3I (if f3G op=4 then 5 else f3G op) (ar a)++none::some (f3H op)::none::f3I (f3G op+1) (ar b):=by
    unfold f3K
    rw[if_neg (by omega),if_neg (by omega),if_neg (by omega),if_neg (by omega),if_neg (by omega),if_neg (by omega),if_neg (by omega),if_neg (by omega),if_neg (by omega),if_neg (by omega),if_neg (by omega)]
    rfl
   rw[this,f3D,f3F,f3E,f3F]
  have hhd:∃ t rr,tks (f3L (.mk op 0 [] nl [a,b]))=t::rr∧atT [41] t=false:=by rw[e1];exact f6A (pa.hd _) _
  have chain:∀ lv,lv≤4→lv≠2→f3G op=lv+2→opG (f3H op) (ops lv)=some op→Fo (lv+1) (f3H op)→(lv≤3∨lv=4)→Pe (.mk op 0 [] nl [a,b]):=by
   intro lv hl4 hl2 hL ho hf hor
   have hm:BMc (lv+1) (64 * zn b+1) (tks (f3I (f3G op+1) (ar b))) (f3P b):=by
    rw[hL]
    rcases hor with h|h
    ·exact(pb.bm (lv+1) (by omega)).weak (by omega)
    ·subst h;exact f4B pb.u7
   have hb0:BLc lv (64 * zn a) (64 * zn a) (tks (f3I (if f3G op=4 then 5 else f3G op) (ar a))) (f3P a):=by
    rw[if_neg (by omega),hL]
    exact pa.bl lv hl4 hl2
   have hb:=f5A hl4 hl2 ho hf hb0 hm (M:=64 * zn a+64 * zn b+2) (by omega) (by omega)
   refine f4Z (m:=64 * zn a+64 * zn b+2+10) (k:=64 * zn a+1+10) ?_ hhd (by rw[hZ,hz];omega) (by rw[hZ,hz];omega)
   rw[e1,e2]
   show Up (f3G op) _ _ _ _
   rw[hL]
   rw[hL] at hb
   exact f4L hl4 hb
  have comp:f3G op=4→opG (f3H op) (ops 2)=some op→Fo 3 (f3H op)→Pe (.mk op 0 [] nl [a,b]):=by
   intro hL ho hf
   have hb:=f5B ho hf (pa.bm 3 (by decide)) (pb.bm 3 (by decide))
   refine f4Z (m:=64 * zn a+64 * zn b+3+10) (k:=10) ?_ hhd (by rw[hZ,hz];omega) (by rw[hZ];omega)
   rw[e1,e2]
   show Up (f3G op) _ _ _ _
   rw[hL,if_pos rfl]
   exact f4K (L:=2) (k:=0) (by decide) hb (fun lv e _ h=>absurd e h) (fun h=>by omega)
  have fo:∀ (lv:Nat) (t:Tok),(∀ j:Fin 5,lv≤j.1→opG t (ops j.1)=none)→atT [91] t=false→atT [40] t=false→Fo lv t:=fun lv t h h1 h2=>⟨fun j hj hj4=>h ⟨j,by omega⟩ hj,h1,h2⟩
  rcases hop with rfl|rfl|rfl|rfl|rfl|rfl|rfl|rfl|rfl
  ·exact chain 4 (by decide) (by decide) (by decide) (by decide) (fo _ _ (by decide) (by decide) (by decide)) (.inr rfl)
  ·exact chain 3 (by decide) (by decide) (by decide) (by decide) (fo _ _ (by decide) (by decide) (by decide)) (.inl (by decide))
  ·exact chain 3 (by decide) (by decide) (by decide) (by decide) (fo _ _ (by decide) (by decide) (by decide)) (.inl (by decide))
  ·exact comp (by decide) (by decide) (fo _ _ (by decide) (by decide) (by decide))
  ·exact comp (by decide) (by decide) (fo _ _ (by decide) (by decide) (by decide))
  ·exact comp (by decide) (by decide) (fo _ _ (by decide) (by decide) (by decide))
  ·exact comp (by decide) (by decide) (fo _ _ (by decide) (by decide) (by decide))
  ·exact chain 1 (by decide) (by decide) (by decide) (by decide) (fo _ _ (by decide) (by decide) (by decide)) (.inl (by decide))
  ·exact chain 0 (by decide) (by decide) (by decide) (by decide) (fo _ _ (by decide) (by decide) (by decide)) (.inl (by decide))
end Go.Ky

/- KX 53: the lexer on a canonical text. -/
namespace Go.Ky
open Go.Pi Go.Lx
def pcT:Pc→List UInt8
 |none=>[32]
 |some t=>t.text
def txP (l:List Pc):List UInt8:=l.flatMap pcT
theorem f6C (a b:List Pc):txP (a++b)=txP a++txP b:=List.flatMap_append
theorem f6D (t:Tok) (l:List Pc):txP (some t::l)=t.text++txP l:=rfl
theorem f6E (l:List Pc):txP (none::l)=32::txP l:=rfl
def f6F (p:UInt8→Bool) (z:List UInt8):Prop:=∀ c r,z=c::r→p c=false
theorem f6G {p:UInt8→Bool} {c:UInt8} {r:List UInt8} (h:p c=false):f6F p (c::r):=by
 intro c' r' e
 injection e with e1 _
 rw[←e1];exact h
structure Bd (t:Tok) (z:List UInt8):Prop where
 nx:next (t.text++z)=.ok t.kind t.text.length t.val
 gp:gap (t.text++z)=0
def f6H:List Pc→List UInt8→Prop
 |[],_=>True
 |none::r,z=>f6H r z
 |some t::r,z=>Bd t (txP r++z)∧f6H r z
theorem f6I:∀ (a b:List Pc) (z:List UInt8),f6H (a++b) z↔f6H a (txP b++z)∧f6H b z
 |[],b,z=>by simp [f6H]
 |none::a,b,z=>by
  show f6H (a++b) z↔f6H a _∧_
  exact f6I a b z
 |some t::a,b,z=>by
  show Bd t (txP (a++b)++z)∧f6H (a++b) z↔(Bd t (txP a++(txP b++z))∧f6H a _)∧_
  rw[f6C,g6H,f6I a b z]
  exact and_assoc.symm
theorem f6J {c:UInt8} {r:List UInt8} (hb:d0O c=true) (pos:Nat):d0X pos (c::r)=d0X (pos+1) r:=by
 have hg:gap (c::r)=gap r+1:=by
  show d0Q false (c::r)=_
  rw[d0Q,if_pos hb]
 have hd:∀ k,(c::r).drop (k+1)=r.drop k:=fun k=>rfl
 rcases d1G r with h1|⟨h1,⟨e',hn⟩|⟨k,m,v,hn⟩⟩
 ·rw[d1D (by rw[hg,h1];rfl),d1D h1,g7L,show pos+(r.length+1)=pos+1+r.length by omega]
 ·rw[d1E (by rw[hg,g7L];omega) (by rw[hg,hd];exact hn),d1E h1 hn,hg,show pos+(gap r+1)=pos+1+gap r by omega]
 ·rw[d1F (by rw[hg,g7L];omega) (by rw[hg,hd];exact hn),d1F h1 hn,hg,show gap r+1+m=gap r+m+1 by omega,hd,hd,show pos+(gap r+1)+m=pos+1+gap r+m by omega,show pos+(gap r+1)=pos+1+gap r by omega]
theorem f6K {t:Tok} {z:List UInt8} (h:Bd t z) (pos:Nat):d0X pos (t.text++z)=(d0X (pos+t.text.length) z).cons ⟨t.kind,t.text,t.val,pos⟩:=by
 have hp:=d1C h.nx
 rw[d1F (by rw[h.gp];omega) (by rw[h.gp];exact h.nx),h.gp]
 simp only[g8Z,g6O,g8N,List.take_left,List.drop_left]
theorem f6L (t:Tok) (l:List Tok) (q:Res):(q.app l).cons t=q.app (t::l):=by cases q <;> rfl
theorem f6M (q:Res):q.app []=q:=by cases q <;> rfl
theorem f6N:∀ (ps:List Pc) (z:List UInt8) (pos:Nat),f6H ps z→∃ L,Lx.Alike L (tks ps)∧d0X pos (txP ps++z)=(d0X (pos+(txP ps).length) z).app L
 |[],z,pos,_=>⟨[],trivial,by rw[f6M];rfl⟩
 |none::r,z,pos,h=>by
  obtain⟨L,h1,h2⟩:=f6N r z (pos+1) h
  refine⟨L,h1,?_⟩
  show d0X pos (32::(txP r++z))=(d0X (pos+(32::txP r).length) z).app L
  rw[f6J (by decide),h2,g7L,show pos+1+(txP r).length=pos+((txP r).length+1) by omega]
 |some t::r,z,pos,h=>by
  obtain⟨L,h1,h2⟩:=f6N r z (pos+t.text.length) h.2
  refine⟨⟨t.kind,t.text,t.val,pos⟩::L,⟨⟨rfl,rfl,rfl⟩,h1⟩,?_⟩
  rw[f6D,g6H,f6K h.1,h2,f6L,g7K,show pos+t.text.length+(txP r).length=pos+(t.text.length+(txP r).length) by omega]
theorem f6O {p:UInt8→Bool} {z:List UInt8} (hz:f6F p z):∀ a:List UInt8,(∀ c,c∈a→p c=true)→d0P p (a++z)=a.length
 |[],_=>by
  match z,hz with
  |[],_=>rfl
  |c::r,hz=>rw[g8F,d0P,if_neg (by rw[hz c r rfl];simp)];rfl
 |c::a,h=>by
  rw[g6L,d0P,if_pos (h c g7Y),f6O hz a fun x hx=>h x (g7X _ hx)];rfl
theorem d1B {p:UInt8→Bool}:∀ s:List UInt8,d0P p s=s.length→∀ c,c∈s→p c=true
 |[],_,c,h=>by cases h
 |x::r,h,c,hc=>by
  rw[d0P] at h
  by_cases hx:p x=true
  ·rw[if_pos hx,g7L] at h
   rcases g7W.1 hc with rfl|hc
   ·exact hx
   ·exact d1B r (by omega) c hc
  ·rw[if_neg hx] at h;simp at h
theorem f6P {c:UInt8} {r:List UInt8} (h:d0L c=true):gap (c::r)=0:=by
 simp only[d0L,g5U,g9N,UInt8.le_iff_toNat_le] at h
 have h1:97≤c.toNat:=h.1
 have ne:∀ n:Nat,n < 97→c≠UInt8.ofNat n:=by
  intro n hn e
  have:=congrArg UInt8.toNat e
  rw[g9H] at this
  omega
 have n32:=ne 32 (by decide)
 have n9:=ne 9 (by decide)
 have n13:=ne 13 (by decide)
 have n10:=ne 10 (by decide)
 have n45:=ne 45 (by decide)
 show d0Q false (c::r)=0
 rw[d0Q,if_neg (by simp [d0O];exact⟨⟨⟨n32,n9⟩,n13⟩,n10⟩),if_neg (by simp;intro e;exact absurd e n45)]
theorem f6Q {c:UInt8} {r z:List UInt8} (hl:d0L c=true) (ha:∀ x,x∈c::r→d0N x=true) (hz:f6F d0N z):next (c::r++z)=if keywords.contains (c::r)=true then .ok 2 (c::r).length 0 else if 24 < (c::r).length then .err 3 else .ok 1 (c::r).length 0:=by
 have hs:=f6O hz (c::r) ha
 rw[g6L] at hs
 rw[g6L,next,if_pos hl,d0V,hs]
 have ht:(c::(r++z)).take (c::r).length=c::r:=by
  rw[←g6L,List.take_left]
 rw[ht]
theorem f6R {n:Nm} {z:List UInt8} (hn:d3S n=true) (hz:f6F d0N z):Bd (nmT n) z:=by
 match n,hn with
 |c::r,hn =>
  rw[d3S] at hn
  simp only[g5U,g9N,g5W] at hn
  obtain⟨⟨⟨h1,h2⟩,h3⟩,h4⟩:=hn
  refine⟨?_,?_⟩
  ·show next (c::r++z)=.ok 1 (c::r).length 0
   rw[f6Q h2 (d1B _ h3) hz,if_neg (by rw[h4];simp),if_neg (by omega)]
  ·show gap (c::r++z)=0
   rw[g6L,f6P h2]
theorem f6S {w:Nm} {z:List UInt8} (hw:keywords.contains w=true) (hl:∃ c r,w=c::r∧d0L c=true) (ha:∀ x,x∈w→d0N x=true) (hz:f6F d0N z):Bd (kw w) z:=by
 obtain⟨c,r,rfl,hc⟩:=hl
 refine⟨?_,?_⟩
 ·show next (c::r++z)=.ok 2 (c::r).length 0
  rw[f6Q hc ha hz,if_pos hw]
 ·show gap (c::r++z)=0
  rw[g6L,f6P hc]
theorem f6T {v:Nat} {z:List UInt8} (hv:v≤18446744073709551615) (hz:f6F d0M z):Bd (nu v) z:=by
 have hd:=d1R v
 have hne:=d1U v
 have hh:=d1V v
 have h1:=@d1X v
 have hval:=d1T v
 have hs:=f6O hz (d1M v) hd
 match hdd:d1M v,hne with
 |c::r,_ =>
  rw[hdd] at hd hh h1 hval hs
  have hc:=hd c g7Y
  have hnl:d0L c=false:=by
   simp only[d0M,g5U,g9N,UInt8.le_iff_toNat_le] at hc
   have h57:c.toNat≤57:=hc.2
   rw[d0L,g5T]
   left
   refine g9L fun h=>?_
   rw[UInt8.le_iff_toNat_le] at h
   have:(97:Nat)≤c.toNat:=h
   omega
  rw[g6L] at hs
  have ht:(c::(r++z)).take (c::r).length=c::r:=by
   rw[←g6L,List.take_left]
  refine⟨?_,?_⟩
  ·show next (d1M v++z)=.ok 3 (d1M v).length v
   rw[hdd,g6L,next,if_neg (by rw[hnl];simp),if_pos hc,d0W,hs,ht,hval,if_neg,if_neg (by omega)]
   rintro⟨a,b⟩
   exact hh (h1 b) a
  ·show gap (d1M v++z)=0
   obtain⟨g1,g2⟩:=d1Y hc
   show d0Q false _=0
   rw[hdd,g6L,d0Q,if_neg (by rw[g1];simp),if_neg (by simp;intro e;exact absurd e g2)]
theorem f6U {c:UInt8} {z:List UInt8} (h1:d0L c=false) (h2:d0M c=false) (h3:f6F (d0R c) z) (h4:d0T c=true) (h5:d0O c=false) (h6:c=45→f6F (· == 45) z):Bd (sy [c]) z:=by
 have hp:d0S c z=false:=by
  match z,h3 with
  |[],_=>rfl
  |d::r,h3=>exact h3 d r rfl
 refine⟨?_,?_⟩
 ·show next (c::z)=.ok 4 1 0
  rw[next,if_neg (by rw[h1];simp),if_neg (by rw[h2];simp),if_neg (by rw[hp];simp),if_pos h4]
 ·show d0Q false (c::z)=0
  rw[d0Q,if_neg (by rw[h5];simp),if_neg]
  intro h
  simp only[g5U,beq_iff_eq] at h
  match z,h with
  |d::r,h =>
   have:=h6 h.1 d r rfl
   simp at h
   rw[h.2] at this
   simp at this
theorem f6V {c:UInt8} {z:List UInt8} (h1:d0L c=false) (h2:d0M c=false) (h3:∀ d,d0R c d=false) (h4:d0T c=true) (h5:d0O c=false) (h6:c≠45):Bd (sy [c]) z :=
 f6U h1 h2 (fun d r _=>h3 d) h4 h5 fun h=>absurd h h6
theorem f6W {c d:UInt8} {z:List UInt8} (h1:d0L c=false) (h2:d0M c=false) (h3:d0R c d=true) (h5:d0O c=false) (h6:c≠45):Bd (sy [c,d]) z:=by
 refine⟨?_,?_⟩
 ·show next (c::d::z)=.ok 4 2 0
  rw[next,if_neg (by rw[h1];simp),if_neg (by rw[h2];simp),if_pos (by show d0R c d=true;exact h3)]
 ·show d0Q false (c::d::z)=0
  rw[d0Q,if_neg (by rw[h5];simp),if_neg (by simp;intro e;exact absurd e h6)]
theorem f6X {c:UInt8} (h1:c≠46) (h2:c≠61) (h3:c≠33) (h4:c≠60) (d:UInt8):d0R c d=false:=by
 unfold d0R
 simp [h1,h2,h3,h4]
end Go.Ky

/- KX 54: the lexer finds the tokens of a canonical text. -/
namespace Go.Ky
open Go.Pi Go.Lx
abbrev Nz (z:List UInt8):Prop:=f6F d0N z
theorem f6Y {c:UInt8} {r:List UInt8} (h:d0N c=false):Nz (c::r):=f6G h
theorem f6Z {z:List UInt8} (h:Nz z):f6F d0M z:=by
 intro c r e
 have:=h c r e
 unfold d0N at this
 simp only[Bool.or_eq_false_iff] at this
 exact this.1.2
theorem f7A (z:List UInt8):Bd (sy [40]) z:=f6V (by decide) (by decide) (f6X (by decide) (by decide) (by decide) (by decide)) (by decide) (by decide) (by decide)
theorem f7B (z:List UInt8):Bd (sy [41]) z:=f6V (by decide) (by decide) (f6X (by decide) (by decide) (by decide) (by decide)) (by decide) (by decide) (by decide)
theorem f7C (z:List UInt8):Bd (sy [91]) z:=f6V (by decide) (by decide) (f6X (by decide) (by decide) (by decide) (by decide)) (by decide) (by decide) (by decide)
theorem f7D (z:List UInt8):Bd (sy [93]) z:=f6V (by decide) (by decide) (f6X (by decide) (by decide) (by decide) (by decide)) (by decide) (by decide) (by decide)
theorem f7E (z:List UInt8):Bd (sy [44]) z:=f6V (by decide) (by decide) (f6X (by decide) (by decide) (by decide) (by decide)) (by decide) (by decide) (by decide)
theorem f7F (z:List UInt8):Bd (sy [59]) z:=f6V (by decide) (by decide) (f6X (by decide) (by decide) (by decide) (by decide)) (by decide) (by decide) (by decide)
theorem f7G (z:List UInt8):Bd (sy [58]) z:=f6V (by decide) (by decide) (f6X (by decide) (by decide) (by decide) (by decide)) (by decide) (by decide) (by decide)
theorem f7H (z:List UInt8):Bd (sy [63]) z:=f6V (by decide) (by decide) (f6X (by decide) (by decide) (by decide) (by decide)) (by decide) (by decide) (by decide)
theorem f7I {w:Nm} {z:List UInt8} (hw:keywords.contains w=true) (hl:∃ c r,w=c::r∧d0L c=true) (ha:∀ x,x∈w→d0N x=true):Bd (kw w) (32::z):=f6S hw hl ha (f6Y (by decide))
theorem f7J {op:Int} (h:op=11∨op=12∨op=13∨op=14∨op=15∨op=16∨op=17∨op=18∨op=19) (z:List UInt8):Bd (f3H op) (32::z):=by
 rcases h with rfl|rfl|rfl|rfl|rfl|rfl|rfl|rfl|rfl
 ·exact f6U (c:=42) (by decide) (by decide) (f6G (by decide)) (by decide) (by decide) (fun h=>absurd h (by decide))
 ·exact f6U (c:=43) (by decide) (by decide) (f6G (by decide)) (by decide) (by decide) (fun h=>absurd h (by decide))
 ·exact f6U (c:=45) (by decide) (by decide) (f6G (by decide)) (by decide) (by decide) (fun _=>f6G (by decide))
 ·exact f6W (c:=61) (d:=61) (by decide) (by decide) (by decide) (by decide) (by decide)
 ·exact f6W (c:=33) (d:=61) (by decide) (by decide) (by decide) (by decide) (by decide)
 ·exact f6U (c:=60) (by decide) (by decide) (f6G (by decide)) (by decide) (by decide) (fun h=>absurd h (by decide))
 ·exact f6W (c:=60) (d:=61) (by decide) (by decide) (by decide) (by decide) (by decide)
 ·exact f7I (w:=[97,110,100]) (by decide) ⟨_,_,rfl,by decide⟩ (by decide)
 ·exact f7I (w:=[111,114]) (by decide) ⟨_,_,rfl,by decide⟩ (by decide)
def LB (e:Exp):Prop:=∀ r z,Nz z→f6H (f3I r (ar e)) z
theorem f7K {e:Exp} (h:∀ z,Nz z→f6H (f3L e) z):LB e:=by
 intro r z hz
 unfold f3I ar
 simp only
 split
 ·refine⟨f7A _,?_⟩
  rw[f6I]
  exact⟨h _ (f6Y (c:=41) (by decide)),f7B _,trivial⟩
 ·exact h z hz
theorem f7L:∀ (l:List Exp),(∀ a,a∈l→LB a)→∀ z,Nz z→f6H (f3J ((l.map ar).map (f3I 1))) z
 |[],_,z,_=>trivial
 |a::r,h,z,hz=>by
  have more:∀ r:List Exp,(∀ a,a∈r→LB a)→f6H (((r.map ar).map (f3I 1)).flatMap fun y=>some (sy [44])::none::y) z∧Nz (txP (((r.map ar).map (f3I 1)).flatMap fun y=>some (sy [44])::none::y)++z):=by
   intro r
   induction r with
   |nil=>intro _;exact⟨trivial,hz⟩
   |cons b r ih =>
    intro hb
    obtain⟨i1,i2⟩:=ih fun a ha=>hb a (g7X _ ha)
    refine⟨?_,f6Y (c:=44) (by decide)⟩
    rw[g7T,g7T,g6Q,f6I]
    exact⟨⟨f7E _,hb b g7Y 1 _ i2⟩,i1⟩
  obtain⟨m1,m2⟩:=more r fun a ha=>h a (g7X _ ha)
  rw[g7T,g7T,f3J,f6I]
  exact⟨h a g7Y 1 _ m2,m1⟩
theorem f7M:∀ e:Exp,exB e=true→ExpOk e→7≤f3G e.op→e.op≠9→∃ c r,txP (f3L e)=c::r∧c≠45:=by
 refine Exp.ind fun e ih hv ho hL h9=>?_
 cases ho with|mk _ h1 h2 h3 h4 h5 h6 =>
 rw[d3V,g5U,g6F] at hv
 have hc:=f5O hv.2
 have hT:f3L e=f3K e.op e.val e.name (e.args.map ar):=f3O e
 obtain⟨op,v,n,nl,l⟩:=e
 simp only[Exp.op,Exp.val,Exp.name,Exp.args] at hc hT hL h9 h2 hv h6
 rw[hT]
 have nmH:∀ n:Nm,d3S n=true→∃ c r,n=c::r∧c≠45:=by
  intro n hn
  match n,hn with
  |c::r,hn =>
   refine⟨c,r,rfl,?_⟩
   rintro rfl
   rw[d3S] at hn
   simp [d0L] at hn
 rcases hc with⟨rfl,hl,rfl⟩|⟨rfl,hl,rfl,hn⟩|⟨rfl,hl,rfl,rfl⟩|⟨rfl,hl,rfl,rfl⟩|⟨rfl,rfl,hn⟩|⟨rfl,hl,rfl⟩|⟨rfl,hl,rfl,rfl⟩|⟨rfl,hl,rfl,rfl⟩|⟨rfl,hl,rfl,rfl⟩|⟨rfl,hl,rfl,rfl⟩|⟨rfl,hl,rfl,rfl⟩|⟨hop,hl,rfl,rfl⟩
 ·have hd:=d1R v.toNat
  have hne:=d1U v.toNat
  show ∃ c r,d1M v.toNat++[]=c::r∧c≠45
  match d1M v.toNat,hd,hne with
  |c::r,hd,_=>exact⟨c,r++[],rfl,(d1Y (hd c g7Y)).2⟩
 ·obtain⟨c,r,rfl,h⟩:=nmH n hn
  exact⟨c,r++[],rfl,h⟩
 ·exact⟨116,_,rfl,by decide⟩
 ·exact⟨102,_,rfl,by decide⟩
 ·obtain⟨c,r,rfl,h⟩:=nmH n hn
  exact⟨c,_,rfl,h⟩
 ·exact⟨104,_,rfl,by decide⟩
 ·exact⟨91,_,rfl,by decide⟩
 ·exact absurd rfl h9
 ·exact⟨110,_,rfl,by decide⟩
 ·exact absurd hL (by decide)
 ·match l,hl,ih,hv,h6 with
  |[a,b],_,ih,hv,h6 =>
  show ∃ c r,txP (f3I 8 (ar a)++some (sy [91])::(f3I 1 (ar b)++[some (sy [93])]))=c::r∧c≠45
  rw[f6C]
  unfold f3I ar
  simp only
  split
  ·exact⟨40,_,rfl,by decide⟩
  ·rename_i h8
   obtain⟨c,r,e1,e2⟩:=ih a (by show a∈[a,b];simp) (hv.1 a (by simp)) (h6 a (by simp)) (by omega) (by intro e;rw[e] at h8;exact h8 (by decide))
   exact⟨c,r++_,by rw[e1];rfl,e2⟩
 ·exfalso
  rcases hop with rfl|rfl|rfl|rfl|rfl|rfl|rfl|rfl|rfl <;> revert hL <;> decide
theorem f7N:∀ e:Exp,exB e=true→ExpOk e→LB e:=by
 refine Exp.ind fun e ih hv ho=>?_
 have ho':=ho
 have hv':=hv
 cases ho with|mk _ h1 h2 h3 h4 h5 h6 =>
 rw[d3V,g5U,g6F] at hv
 have hc:=f5O hv.2
 have ha:∀ a,a∈e.args→LB a:=fun a h=>ih a h (hv.1 a h) (h6 a h)
 have hT:f3L e=f3K e.op e.val e.name (e.args.map ar):=f3O e
 refine f7K fun z hz=>?_
 rw[hT]
 obtain⟨op,v,n,nl,l⟩:=e
 simp only[Exp.op,Exp.val,Exp.name,Exp.args] at hc ha h2 hv h6 ⊢
 have hv64:v.toNat≤18446744073709551615:=by have:=h2.2;omega
 have hsp:∀ x:List UInt8,Nz (32::x):=fun x=>f6Y (by decide)
 rcases hc with⟨rfl,hl,rfl⟩|⟨rfl,hl,rfl,hn⟩|⟨rfl,hl,rfl,rfl⟩|⟨rfl,hl,rfl,rfl⟩|⟨rfl,rfl,hn⟩|⟨rfl,hl,rfl⟩|⟨rfl,hl,rfl,rfl⟩|⟨rfl,hl,rfl,rfl⟩|⟨rfl,hl,rfl,rfl⟩|⟨rfl,hl,rfl,rfl⟩|⟨rfl,hl,rfl,rfl⟩|⟨hop,hl,rfl,rfl⟩
 ·exact⟨f6T hv64 (f6Z hz),trivial⟩
 ·exact⟨f6R hn hz,trivial⟩
 ·exact⟨f6S (by decide) ⟨_,_,rfl,by decide⟩ (by decide) hz,trivial⟩
 ·exact⟨f6S (by decide) ⟨_,_,rfl,by decide⟩ (by decide) hz,trivial⟩
 ·refine⟨f6R hn (f6Y (c:=40) (by decide)),f7A _,?_⟩
  rw[f6I]
  exact⟨f7L l ha _ (f6Y (c:=41) (by decide)),f7B _,trivial⟩
 ·refine⟨f6S (by decide) ⟨_,_,rfl,by decide⟩ (by decide) (f6Y (c:=40) (by decide)),f7A _,f6T hv64 (f6G (c:=59) (by decide)),f7F _,?_⟩
  show f6H (f3J ((l.map ar).map (f3I 1))++[some (sy [41])]) z
  rw[f6I]
  exact⟨f7L l ha _ (f6Y (c:=41) (by decide)),f7B _,trivial⟩
 ·refine⟨f7C _,?_⟩
  rw[f6I]
  exact⟨f7L l ha _ (f6Y (c:=93) (by decide)),f7D _,trivial⟩
 ·match l,hl,ha,hv,h6 with
  |[a],_,ha,hv,h6 =>
  show f6H (some (sy [45])::f3I (if a.op=9 then 8 else 7) (ar a)) z
  refine⟨f6U (c:=45) (by decide) (by decide) (fun d r _=>by unfold d0R;simp) (by decide) (by decide) (fun _=>?_),ha a (by simp) _ z hz⟩
  have hq:∃ c r,txP (f3I (if a.op=9 then 8 else 7) (ar a))=c::r∧c≠45:=by
   unfold f3I ar
   simp only
   by_cases h9:a.op=9
   ·rw[if_pos h9,if_pos (by rw[h9];decide)]
    exact⟨40,_,rfl,by decide⟩
   ·rw[if_neg h9]
    by_cases h7:f3G a.op < 7
    ·rw[if_pos h7]
     exact⟨40,_,rfl,by decide⟩
    ·rw[if_neg h7]
     exact f7M a (hv.1 a (by simp)) (h6 a (by simp)) (by omega) h9
  obtain⟨c,r,e1,e2⟩:=hq
  rw[e1]
  exact f6G (by simpa using e2)
 ·match l,hl,ha with
  |[a],_,ha =>
  show f6H (some (kw [110,111,116])::none::f3I 7 (ar a)) z
  exact⟨f7I (by decide) ⟨_,_,rfl,by decide⟩ (by decide),ha a (by simp) _ z hz⟩
 ·match l,hl,ha with
  |[a,b,c],_,ha =>
  show f6H (f3I 2 (ar a)++none::some (sy [63])::none::(f3I 1 (ar b)++none::some (sy [58])::none::f3I 1 (ar c))) z
  rw[f6I]
  refine⟨ha a (by simp) _ _ (hsp _),f7H _,?_⟩
  show f6H (f3I 1 (ar b)++none::some (sy [58])::none::f3I 1 (ar c)) z
  rw[f6I]
  exact⟨ha b (by simp) _ _ (hsp _),f7G _,ha c (by simp) _ z hz⟩
 ·match l,hl,ha with
  |[a,b],_,ha =>
  show f6H (f3I 8 (ar a)++some (sy [91])::(f3I 1 (ar b)++[some (sy [93])])) z
  rw[f6I]
  refine⟨ha a (by simp) _ _ (f6Y (c:=91) (by decide)),f7C _,?_⟩
  rw[f6I]
  exact⟨ha b (by simp) _ _ (f6Y (c:=93) (by decide)),f7D _,trivial⟩
 ·match l,hl,ha with
  |[a,b],_,ha =>
  have:f3K op 0 [] ([a,b].map ar)=f3I (if f3G op=4 then 5 else f3G op) (ar a)++none::some (f3H op)::none::f3I (f3G op+1) (ar b):=by
   unfold f3K
   rw[if_neg (by omega),if_neg (by omega),if_neg (by omega),if_neg (by omega),if_neg (by omega),if_neg (by omega),if_neg (by omega),if_neg (by omega),if_neg (by omega),if_neg (by omega),if_neg (by omega)]
   rfl
  rw[this,f6I]
  exact⟨ha a (by simp) _ _ (hsp _),f7J hop _,ha b (by simp) _ z hz⟩
end Go.Ky

/- KX 55: an expression is found again in its canonical text. -/
namespace Go.Ky
open Go.Pi Go.Lx
theorem f7O:∀ (l:List Exp),(∀ a,a∈l→dEx (f3P a)=dEx a)→d4C (l.map f3P)=d4C l
 |[],_=>rfl
 |a::r,h=>by
  rw[g7T,d4C,d4C,h a g7Y,f7O r fun x hx=>h x (g7X _ hx)]
theorem f7P:∀ e:Exp,dEx (f3P e)=dEx e:=by
 refine Exp.ind fun e ih=>?_
 rw[d4E,d4E,f3S]
 show d4C (e.args.map f3P)+1=_
 rw[f7O _ ih]
abbrev f7Q (p:Nat):Tok:=⟨0,[],0,p⟩
end Go.Ky

/- KX 56: what the parser reads without an error is valid, its lists' nil bits are set as it sets them, and its canonical text is not much longer than what was read. -/
namespace Go.Ky
open Go.Pi Go.Lx
structure GoodT (t:Tok):Prop where
 nm:t.kind=1→d3S t.text=true
 nu:t.kind=3→(d1M t.val).length≤t.text.length
structure Gk (s:Ps):Prop where
 wf:WfT s.ts
 gd:∀ t,t∈s.ts→GoodT t
theorem Gk.of {s s':Ps} (h:Gk s) (hs:Suf s s'):Gk s':=by
 obtain⟨k,hk,e⟩:=id hs
 exact⟨hs.wf h.wf,fun t ht=>h.gd t (by rw[e] at ht;exact g8C ht)⟩
theorem Gk.hd {s:Ps} (h:Gk s):GoodT s.hd:=h.gd _ (e0W h.wf.ne)
def wt (l:List Tok):Nat:=(l.map fun t=>t.text.length+2).sum
theorem f7R (k:Nat):∀ l:List Tok,wt (l.drop k)≤wt l:=by
 induction k with
 |zero=>intro l;simp
 |succ k ih =>
  intro l
  cases l with
  |nil=>simp
  |cons a r =>
   have:=ih r
   rw[g6N]
   unfold wt at this ⊢
   rw[g7T,List.sum_cons]
   omega
theorem Suf.wt {s s':Ps} (h:Suf s s'):wt s'.ts≤wt s.ts:=by
 obtain⟨k,_,e⟩:=h
 rw[e];exact f7R k _
def pl (r:Nat) (e:Exp):Nat:=(txP (f3I r (ar e))).length
def cw (l:List Exp):Nat:=(txP (f3J ((l.map ar).map (f3I 1)))).length
structure Rg (r:Nat) (s:Ps) (e:Exp) (s':Ps):Prop where
 v:exB e=true
 c:f3P e=e
 w:pl r e+wt s'.ts≤wt s.ts
structure Rl (s:Ps) (l:List Exp) (s':Ps):Prop where
 ne:l≠[]
 v:∀ a,a∈l→exB a=true
 c:l.map f3P=l
 w:cw l+wt s'.ts≤wt s.ts
end Go.Ky

/- KX 57: what the parser reads without an error: the induction. -/
namespace Go.Ky
open Go.Pi Go.Lx
structure RgAll (n:Nat):Prop where
 ex:∀ s,Gk s→12 * s.ts.length+11≤n→(d5W n s).2.err=0→Rg 1 s (d5W n s).1 (d5W n s).2
 bi:∀ lv s,lv≤4→Gk s→12 * s.ts.length+(10 - lv)≤n→(d5X n lv s).2.err=0→Rg (lv+2) s (d5X n lv s).1 (d5X n lv s).2
 b5:∀ s,Gk s→12 * s.ts.length+5≤n→(d5X n 5 s).2.err=0→Rg 7 s (d5X n 5 s).1 (d5X n 5 s).2
 bl:∀ lv e s,lv≤4→Gk s→12 * s.ts.length+(9 - lv)≤n→exB e=true→f3P e=e→(d5Y n lv e s).2.err=0→exB (d5Y n lv e s).1=true∧f3P (d5Y n lv e s).1=(d5Y n lv e s).1∧pl (lv+2) (d5Y n lv e s).1+wt (d5Y n lv e s).2.ts≤pl (if lv=2 then 5 else lv+2) e+wt s.ts
 un:∀ s,Gk s→12 * s.ts.length+4≤n→(unM n s).2.err=0→Rg 7 s (unM n s).1 (unM n s).2
 il:∀ e s,Gk s→12 * s.ts.length+3≤n→exB e=true→f3P e=e→(d5Z n e s).2.err=0→exB (d5Z n e s).1=true∧f3P (d5Z n e s).1=(d5Z n e s).1∧pl 8 (d5Z n e s).1+wt (d5Z n e s).2.ts≤pl 8 e+wt s.ts
 pr:∀ s,Gk s→12 * s.ts.length+3≤n→(d6A n s).2.err=0→Rg 9 s (d6A n s).1 (d6A n s).2
 ar':∀ s,Gk s→12 * s.ts.length+13≤n→(d6B n s).2.err=0→(∀ a,a∈(d6B n s).1→exB a=true)∧(d6B n s).1.map f3P=(d6B n s).1∧cw (d6B n s).1+3+wt (d6B n s).2.ts≤wt s.ts
 ha:∀ s,Gk s→12 * s.ts.length+13≤n→(d6C n s).2.err=0→exB (d6C n s).1=true∧f3P (d6C n s).1=(d6C n s).1∧pl 9 (d6C n s).1+wt (d6C n s).2.ts≤wt s.ts+4
 li:∀ s,Gk s→12 * s.ts.length+12≤n→(d6D n s).2.err=0→Rl s (d6D n s).1 (d6D n s).2
 ll:∀ l s,Gk s→12 * s.ts.length+11≤n→l≠[]→(∀ a,a∈l→exB a=true)→l.map f3P=l→(d6E n l s).2.err=0→(d6E n l s).1≠[]∧(∀ a,a∈(d6E n l s).1→exB a=true)∧(d6E n l s).1.map f3P=(d6E n l s).1∧cw (d6E n l s).1+wt (d6E n l s).2.ts≤cw l+wt s.ts
end Go.Ky

/- KX 58: an expression that is formatted and parsed again is the same: the plain law. -/
namespace Go.Ky
open Go.Pi Go.Lx
end Go.Ky

/- KX 60: the canonical texts of types and statements, in pieces; what the parser does with them. No program in sight. -/
namespace Go.Ky
open Go.Pi Go.Lx
def tyP (t:Ty):List Pc :=
 (if t.kind=2 then [some (kw [98,111,111,108])] else if t.kind=3 then [some (kw [117,105,110,116]),none,some (nu t.bits.toNat)] else [some (kw [102,105,101,108,100])]) ++
 (if 0 < t.len then [some (sy [91]),some (nu t.len.toNat),some (sy [93])] else [])
def tyO (b:Bool) (t:Ty):List Pc:=if b=true then some (sy [58])::none::tyP t else []
def stO (k:Int) (n:Nm) (b:Bool) (t:Ty) (e:Exp) (lo hi:Int) (body:List Pc):List Pc :=
 if k=1 then some (kw [108,101,116])::none::some (nmT n)::(tyO b t++none::some (sy [61])::none::(f3I 1 (ar e)++[some (sy [59])]))
 else if k=2 then some (kw [97,115,115,101,114,116])::none::(f3I 1 (ar e)++[some (sy [59])])
 else some (kw [102,111,114])::none::some (nmT n)::none::some (kw [105,110])::none::some (nu lo.toNat)::some (sy [46,46])::some (nu hi.toNat)::none::some (sy [123])::none::(body++[some (sy [125])])
mutual
def stP:St→List Pc
 |.mk k n b t e lo hi _ l=>stO k n b t e lo hi (f7S l)
def f7S:List St→List Pc
 |[]=>[]
 |s::r=>stP s++none::f7S r
end
theorem f7T (s:St):stP s=stO s.kind s.name s.typed s.ty s.ex s.lo s.hi (f7S s.body):=by cases s;rw[stP];rfl
mutual
def f7U:St→St
 |.mk k n b t e lo hi _ l=>.mk k n b t (f3P e) lo hi l.isEmpty (f7V l)
def f7V:List St→List St
 |[]=>[]
 |s::r=>f7U s::f7V r
end
theorem f7W (l:List St):f7V l=l.map f7U:=by
 induction l with
 |nil=>rfl
 |cons e r ih=>rw[f7V,ih];rfl
theorem f7X (s:St):f7U s=.mk s.kind s.name s.typed s.ty (f3P s.ex) s.lo s.hi s.body.isEmpty (s.body.map f7U):=by
 cases s;rw[f7U,f7W];rfl
mutual
def wS:St→Nat
 |.mk _ _ _ _ e _ _ _ l=>64 * zn e+2+wSs l
def wSs:List St→Nat
 |[]=>1
 |s::r=>wS s+1+wSs r
end
theorem f7Y (l:List St):1≤wSs l:=by cases l <;> rw[wSs] <;> omega
theorem f7Z {s:Ps} {v lo hi:Nat} {r:List Tok} (hr:r≠[]) (h1:lo≤v) (h2:v≤hi) (h3:hi≤1000000):d5T lo hi (stt s (nu v::r))=((v:Int),stt s r):=by
 unfold d5T
 rw[if_neg (by rintro(h|h);exact h rfl;exact absurd h (by show ¬v < lo;omega)),if_neg (by show ¬hi < v;omega),f3U hr]
 show(IntKind.i64.wrap (v:Int),_)=_
 rw[IntWalk.i64_in _ (by omega)]
theorem f8A {s:Ps} {n:Nm} {r:List Tok} (hr:r≠[]):d5S (stt s (nmT n::r))=(n,stt s r):=by
 unfold d5S
 rw[if_neg (by show ¬(1:Nat)≠1;decide),f3U hr]
 rfl
theorem f8B (t:Ty):tks (tyP t)=(if t.kind=2 then [kw [98,111,111,108]] else if t.kind=3 then [kw [117,105,110,116],nu t.bits.toNat] else [kw [102,105,101,108,100]])++(if 0 < t.len then [sy [91],nu t.len.toNat,sy [93]] else []):=by
 unfold tyP
 rw[f3D]
 congr 1
 ·repeat' split
  all_goals rfl
 ·split <;> rfl
theorem f8C {t:Ty} (hv:tyB t=true) {s:Ps} {rest:List Tok} (hr:rest≠[]) :
  d6F (stt s ((if t.kind=2 then [kw [98,111,111,108]] else if t.kind=3 then [kw [117,105,110,116],nu t.bits.toNat] else [kw [102,105,101,108,100]])++rest))=(⟨t.kind,t.bits,0⟩,stt s rest):=by
 unfold tyB at hv
 split at hv
 ·cases hv
 rename_i hl
 split at hv
 ·rename_i hk
  rw[g9N] at hv
  rw[hv]
  rcases hk with hk|hk
  ·rw[hk,if_neg (by decide),if_neg (by decide)]
   unfold d6F
   rw[if_pos (by show atT _ (kw [102,105,101,108,100])=true;decide),g6L,g8F,f3U hr]
  ·rw[hk,if_pos rfl]
   unfold d6F
   rw[if_neg (by show ¬atT _ (kw [98,111,111,108])=true;decide),if_pos (by show atT _ (kw [98,111,111,108])=true;decide),g6L,g8F,f3U hr]
 ·split at hv
  ·rename_i hk
   rw[g5U,g9N,g9N] at hv
   rw[hk,if_neg (by decide),if_pos rfl]
   unfold d6F
   rw[if_neg (by show ¬atT _ (kw [117,105,110,116])=true;decide),if_neg (by show ¬atT _ (kw [117,105,110,116])=true;decide),if_pos (by show atT _ (kw [117,105,110,116])=true;decide)]
   rw[g6L,g6L,g8F,f3U (by simp),f7Z hr (by omega) (by omega) (by omega),g6E (by omega)]
  ·cases hv
theorem f8D {t:Ty} (hv:tyB t=true) {s:Ps} {rest:List Tok} (hr:rest≠[]) (h9:atT [91] (hdd rest)=false):tyM (stt s (tks (tyP t)++rest))=(t,stt s rest):=by
 have hl:0≤t.len∧t.len≤64:=by
  unfold tyB at hv
  split at hv
  ·cases hv
  ·omega
 rw[f8B,g6H]
 unfold tyM
 by_cases c:0 < t.len
 ·rw[if_pos c,f8C hv (by simp)]
  simp only
  rw[if_pos (by show atT [91] (sy [91])=true;decide),g6L,g6L,g6L,g8F,f3U (by simp),f7Z (by simp) (by omega) (by omega) (by omega)]
  simp only
  rw[f3V hr rfl,g6E (by omega)]
 ·rw[if_neg c,g8F,f8C hv hr]
  simp only
  rw[if_neg (by rw[f3W,h9];simp)]
  have:t.len=0:=by omega
  obtain⟨a,b,l⟩:=t
  simp only at this
  subst this
  rfl
def f8E (t:Tok):Bool:=atT [108,101,116] t || (atT [97,115,115,101,114,116] t || atT [102,111,114] t)
theorem f8F (s:Ps) (l:List Tok):atS (stt s l)=f8E (hdd l):=rfl
structure Smt (x:St):Prop where
 ps:∀ (s:Ps) (rest:List Tok) (n:Nat),rest≠[]→wS x≤n→d6K n (stt s (tks (stP x)++rest))=(f7U x,stt s rest)
 hd:∃ t r,tks (stP x)=t::r∧f8E t=true
theorem f8G:Fo 0 (sy [59]):=⟨by intro j _ hj;match j,hj with|0,_=>rfl|1,_=>rfl|2,_=>rfl|3,_=>rfl|4,_=>rfl,rfl,rfl⟩
theorem f8H {e:Exp} (hv:exB e=true) (ho:ExpOk e) {s:Ps} {rest:List Tok} {n:Nat} (hr:rest≠[]) (hn:64 * zn e≤n):d5W n (stt s (tks (f3I 1 (ar e))++sy [59]::rest))=(f3P e,stt s (sy [59]::rest)) :=
 (f6B e hv ho).ex s (sy [59]::rest) n (by simp) hn f8G rfl
theorem f8I:∀ (l:List St),(∀ a,a∈l→dSt (f7U a)=dSt a)→d4D (l.map f7U)=d4D l
 |[],_=>rfl
 |a::r,h=>by
  rw[g7T,d4D,d4D,h a g7Y,f8I r fun x hx=>h x (g7X _ hx)]
theorem f8J:∀ s:St,dSt (f7U s)=dSt s:=by
 refine St.ind fun s ih=>?_
 rw[d4F,d4F,f7X]
 show d4D (s.body.map f7U)+1=_
 rw[f8I _ ih]
theorem f8K (e:Exp):shE (f3P e)=shE e:=by unfold shE;rw[f7P]
theorem f8L:∀ s:St,shS (f7U s)=shS s:=by
 refine St.ind fun s ih=>?_
 rw[d4K,d4K s,f8J,f7X]
 show(decide _&&shE (f3P s.ex)&&(s.body.map f7U).all shS)=_
 rw[f8K,List.all_map]
 congr 1
 have key:∀ l:List St,(∀ a,a∈l→shS (f7U a)=shS a)→l.all (shS ∘ f7U)=l.all shS:=by
  intro l
  induction l with
  |nil=>intro _;rfl
  |cons a r ih2 =>
   intro ih
   rw[List.all_cons,List.all_cons,ih2 fun x hx=>ih x (g7X _ hx),Function.comp_apply,ih a g7Y]
 exact key s.body ih
theorem f8M {x:St} (h:shS x=true):d6H x=false:=by
 unfold d6H d4L
 refine g9L ?_
 simp only[List.all_nil,List.all_cons,g6A,Bool.and_true,h]
 split
 ·decide
 ·rw[if_neg (by simp)];decide
theorem f8N (p:Int) (s:Ps):d5U p false s=s:=by unfold d5U;simp
theorem f8O:∀ (l:List St),(∀ a,a∈l→Smt a)→∀ (o:Bool),(o=true→∀ a,a∈l→shS a=true)→∀ (s:Ps) (rest:List Tok) (n:Nat) (acc:List St),rest≠[]→wSs l≤n→f8E (hdd rest)=false →
  d6L n o acc (stt s (tks (f7S l)++rest))=(acc++l.map f7U,stt s rest)
 |[],_,o,_,s,rest,n,acc,hr,hn,h9=>by
  obtain⟨n0,rfl,h0⟩:=f3X (m:=0) (n:=n) (by rw[wSs] at hn;omega)
  rw[show tks (f7S [])++rest=rest from rfl,d6L,if_neg (by rw[f8F,h9];simp),g7U,g6J]
 |a::r,hl,o,ho,s,rest,n,acc,hr,hn,h9=>by
  rw[wSs] at hn
  have hw:=f7Y r
  obtain⟨n0,rfl,h0⟩:=f3X (m:=wS a+wSs r) (n:=n) (by omega)
  have ha:=hl a g7Y
  obtain⟨t,q,e1,e2⟩:=ha.hd
  have hrest:tks (f7S r)++rest≠[]:=fun e=>hr (g6I.1 e).2
  have e3:tks (f7S (a::r))++rest=tks (stP a)++(tks (f7S r)++rest):=by rw[f7S,f3D,f3F,g6H]
  have hs:=ha.ps s (tks (f7S r)++rest) n0 hrest (by omega)
  rw[e3,d6L,if_pos (by rw[f8F,e1];exact e2),hs]
  simp only
  have hd:(if o=true then d5U (stt s (tks (stP a)++(tks (f7S r)++rest))).hd.pos (d6H (f7U a)) (stt s (tks (f7S r)++rest)) else stt s (tks (f7S r)++rest))=stt s (tks (f7S r)++rest):=by
   split
   ·rename_i h
    rw[f8M (by rw[f8L];exact ho h a g7Y),f8N]
   ·rfl
  rw[hd,f8O r (fun x hx=>hl x (g7X _ hx)) o (fun h x hx=>ho h x (g7X _ hx)) s rest n0 (acc++[f7U a]) hr (by omega) h9]
  simp
theorem f8P (n:Nm) (b:Bool) (t:Ty) (e:Exp) (lo hi:Int) (body:List Pc):tks (stO 1 n b t e lo hi body)=kw [108,101,116]::nmT n::(tks (tyO b t)++sy [61]::(tks (f3I 1 (ar e))++[sy [59]])):=by
 unfold stO
 rw[if_pos rfl]
 simp only[f3E,f3F,f3D]
 rfl
theorem f8Q (n:Nm) (b:Bool) (t:Ty) (e:Exp) (lo hi:Int) (body:List Pc):tks (stO 2 n b t e lo hi body)=kw [97,115,115,101,114,116]::(tks (f3I 1 (ar e))++[sy [59]]):=by
 unfold stO
 rw[if_neg (by decide),if_pos rfl]
 simp only[f3E,f3F,f3D]
 rfl
theorem f8R (n:Nm) (b:Bool) (t:Ty) (e:Exp) (lo hi:Int) (body:List Pc):tks (stO 3 n b t e lo hi body)=kw [102,111,114]::nmT n::kw [105,110]::nu lo.toNat::sy [46,46]::nu hi.toNat::sy [123]::(tks body++[sy [125]]):=by
 unfold stO
 rw[if_neg (by decide),if_neg (by decide)]
 simp only[f3E,f3F,f3D]
 rfl
theorem f8S {e:Exp} (h:d3W e=true):f3P e=zEx∧e.args=[]:=by
 unfold d3W at h
 simp only[g5U,g9N] at h
 obtain⟨⟨⟨h1,h2⟩,h3⟩,h4⟩:=h
 have h5:e.args=[]:=g6P (by omega)
 rw[f3S,h1,h2,h3,h5]
 exact⟨rfl,rfl⟩
theorem f8T:∀ s:St,stB s=true→StOk s→Smt s:=by
 refine St.ind fun s ih hv ho=>?_
 obtain⟨k,n,b,t,e,lo,hi,nl,l⟩:=s
 cases ho with|mk _ h1 h2 h3 h4 h5 h6 h7 h8 h =>
 have h4:ExpOk e:=h4
 have h:∀ a,a∈l→StOk a:=h
 have ih:∀ a,a∈l→stB a=true→StOk a→Smt a:=ih
 rw[stB] at hv
 by_cases k1:k=1
 ·subst k1
  rw[if_pos rfl] at hv
  simp only[g5U,g9N] at hv
  obtain⟨⟨⟨⟨⟨g1,g2⟩,g3⟩,g4⟩,g5⟩,g6⟩:=hv
  obtain rfl:l=[]:=g6P (by omega)
  subst g4 g5
  refine⟨fun s rest m hr hm=>?_,by rw[stP];exact⟨_,_,f8P _ _ _ _ _ _ _,rfl⟩⟩
  rw[wS] at hm
  obtain⟨n0,rfl,h0⟩:=f3X (m:=64 * zn e) (n:=m) (by omega)
  rw[stP,f8P,d6K,if_pos (by rfl),g6L,f3U (by simp),g6L]
  have hX:(tks (tyO b t)++sy [61]::(tks (f3I 1 (ar e))++[sy [59]]))++rest=tks (tyO b t)++sy [61]::(tks (f3I 1 (ar e))++sy [59]::rest):=by simp
  rw[hX]
  unfold d6I
  simp only
  have hne:tks (tyO b t)++sy [61]::(tks (f3I 1 (ar e))++sy [59]::rest)≠[]:=by simp
  rw[f8A hne]
  simp only
  cases b with
  |false =>
   have ht:t=zTy:=by simpa using g1
   have e0:tks (tyO false t)=[]:=rfl
   rw[e0,g8F]
   have ha:atM [58] (stt s (sy [61]::(tks (f3I 1 (ar e))++sy [59]::rest)))=false:=rfl
   rw[ha]
   simp only[g5V,if_false]
   rw[f3V (by simp) rfl,f8H g3 h4 hr h0]
   simp only
   rw[f3V hr rfl,f7X,ht]
   rfl
  |true =>
   have ht:tyB t=true:=by simpa using g1
   have e0:tks (tyO true t)=sy [58]::tks (tyP t):=rfl
   rw[e0,g6L]
   have ha:atM [58] (stt s (sy [58]::(tks (tyP t)++sy [61]::(tks (f3I 1 (ar e))++sy [59]::rest))))=true:=rfl
   rw[ha]
   simp only[if_true]
   rw[f3U (by simp),f8D ht (by simp) rfl]
   simp only
   rw[f3V (by simp) rfl,f8H g3 h4 hr h0]
   simp only
   rw[f3V hr rfl,f7X]
   rfl
 rw[if_neg k1] at hv
 by_cases k2:k=2
 ·subst k2
  rw[if_pos rfl] at hv
  simp only[g5U,g9N,g5W] at hv
  obtain⟨⟨⟨⟨⟨g1,g2,g2'⟩,g3⟩,g4⟩,g5⟩,g6⟩:=hv
  obtain rfl:l=[]:=g6P (by omega)
  subst g4 g5 g1 g2 g2'
  refine⟨fun s rest m hr hm=>?_,by rw[stP];exact⟨_,_,f8Q _ _ _ _ _ _ _,rfl⟩⟩
  rw[wS] at hm
  obtain⟨n0,rfl,h0⟩:=f3X (m:=64 * zn e) (n:=m) (by omega)
  have hX:(kw [97,115,115,101,114,116]::(tks (f3I 1 (ar e))++[sy [59]]))++rest=kw [97,115,115,101,114,116]::(tks (f3I 1 (ar e))++sy [59]::rest):=by simp
  rw[stP,f8Q,hX,d6K,if_neg (by show ¬(kw [97,115,115,101,114,116]).text=_;decide),if_pos (by rfl),f3U (by simp)]
  unfold d6J
  simp only
  rw[f8H g3 h4 hr h0]
  simp only
  rw[f3V hr rfl,f7X]
  rfl
 rw[if_neg k2] at hv
 split at hv
 ·rename_i k3
  subst k3
  simp only[g5U,g9N,g5W,d3X] at hv
  obtain⟨⟨⟨⟨⟨g1,g2,g2'⟩,g3⟩,g4,g4'⟩,g5,g5'⟩,g6⟩:=hv
  subst g2 g2'
  rw[d4A,g6F] at g6
  obtain⟨ce,_⟩:=f8S g3
  have hl:∀ a,a∈l→Smt a:=fun a ha=>ih a ha (g6 a ha) (h a ha)
  refine⟨fun s rest m hr hm=>?_,by rw[stP];exact⟨_,_,f8R _ _ _ _ _ _ _,rfl⟩⟩
  rw[wS] at hm
  obtain⟨n0,rfl,h0⟩:=f3X (m:=wSs l) (n:=m) (by omega)
  have hX:(kw [102,111,114]::nmT n::kw [105,110]::nu lo.toNat::sy [46,46]::nu hi.toNat::sy [123]::(tks (f7S l)++[sy [125]]))++rest=kw [102,111,114]::nmT n::kw [105,110]::nu lo.toNat::sy [46,46]::nu hi.toNat::sy [123]::(tks (f7S l)++sy [125]::rest):=by simp
  rw[stP,f8R,hX,d6K,if_neg (by show ¬(kw [102,111,114]).text=_;decide),if_neg (by show ¬(kw [102,111,114]).text=_;decide),if_pos (by rfl),f3U (by simp)]
  simp only
  rw[f8A (by simp)]
  simp only
  rw[f3V (by simp) rfl,f7Z (by simp) (by omega) (by omega) (by omega)]
  simp only
  rw[f3V (by simp) rfl,f7Z (by simp) (by omega) (by omega) (by omega)]
  simp only
  rw[f3V (by simp) rfl,f8O l hl false (by simp) s (sy [125]::rest) n0 [] (by simp) h0 rfl]
  simp only
  rw[f3V hr rfl,f7X,g6E (by omega),g6E (by omega),g8F]
  show _=(St.mk 3 n false zTy (f3P e) lo hi l.isEmpty (l.map f7U),_)
  rw[ce]
  cases l <;> rfl
 ·cases hv
end Go.Ky

/- KX 61: the canonical texts of functions, declarations and programs, in pieces; what the parser does with them. No program in sight. -/
namespace Go.Ky
open Go.Pi Go.Lx
def paP (p:Pa):List Pc:=some (nmT p.name)::some (sy [58])::none::tyP p.ty
def fnP (f:Fu):List Pc :=
 some (kw [102,110])::none::some (nmT f.name)::some (sy [40])::(f3J (f.params.map paP)++some (sy [41])::some (sy [58])::none::(tyP f.res++none::some (sy [123])::none::(f7S f.body++some (kw [114,101,116,117,114,110])::none::(f3I 1 (ar f.ret)++[some (sy [59]),none,some (sy [125])]))))
def f8U (b:Bool):Nm:=if b=true then [112,117,98,108,105,99] else [115,101,99,114,101,116]
def deP (d:De):List Pc:=some (kw (f8U d.pub))::none::some (nmT d.name)::some (sy [58])::none::(tyP d.ty++[some (sy [59])])
def f8V (f:Fu):Fu:=⟨f.name,f.params.isEmpty,f.params,f.res,f.body.isEmpty,f.body.map f7U,f3P f.ret⟩
def f8W (p:Pg):Pg:=⟨p.funcs.isEmpty,p.funcs.map f8V,p.decls.isEmpty,p.decls,p.body.isEmpty,p.body.map f7U⟩
def wF (f:Fu):Nat:=f.params.length+wSs f.body+64 * zn f.ret+2
def wFs:List Fu→Nat
 |[]=>1
 |f::r=>wF f+1+wFs r
def wP (p:Pg):Nat:=wFs p.funcs+p.decls.length+wSs p.body+2
theorem f8X {p:Pa} (hv:paB p=true) {s:Ps} {rest:List Tok} (hr:rest≠[]) (h9:atT [91] (hdd rest)=false):d6G (stt s (tks (paP p)++rest))=(p,stt s rest):=by
 unfold paB at hv
 rw[g5U] at hv
 have e:tks (paP p)++rest=nmT p.name::sy [58]::(tks (tyP p.ty)++rest):=rfl
 have hne:tks (tyP p.ty)++rest≠[]:=fun e=>hr (g6I.1 e).2
 rw[e]
 unfold d6G
 rw[f8A (by simp)]
 simp only
 rw[f3V hne rfl,f8D hv.2 hr h9]
theorem f8Y:∀ (l:List Pa),(∀ a,a∈l→paB a=true)→∀ (s:Ps) (rest:List Tok) (n:Nat) (acc:List Pa),rest≠[]→l.length+1≤n→atT [44] (hdd rest)=false→atT [91] (hdd rest)=false →
  d6M n acc (stt s (tks ((l.map paP).flatMap fun y=>some (sy [44])::none::y)++rest))=(acc++l,stt s rest)
 |[],_,s,rest,n,acc,hr,hn,h9,h8=>by
  obtain⟨n0,rfl,h0⟩:=f3X (m:=0) (n:=n) (by simpa using hn)
  rw[show tks (([].map paP).flatMap fun y=>some (sy [44])::none::y)++rest=rest from rfl,d6M,if_neg (by rw[f3W,h9];simp),g6J]
 |a::r,hl,s,rest,n,acc,hr,hn,h9,h8=>by
  simp only[g7L] at hn
  obtain⟨n0,rfl,h0⟩:=f3X (m:=r.length+1) (n:=n) (by omega)
  have e:tks (((a::r).map paP).flatMap fun y=>some (sy [44])::none::y)++rest=sy [44]::(tks (paP a)++(tks ((r.map paP).flatMap fun y=>some (sy [44])::none::y)++rest)):=by
   rw[g7T,g6Q,f3D,f3E,f3F,g6H]
   rfl
  have hrest:tks ((r.map paP).flatMap fun y=>some (sy [44])::none::y)++rest≠[]:=fun e=>hr (g6I.1 e).2
  have h91:atT [91] (hdd (tks ((r.map paP).flatMap fun y=>some (sy [44])::none::y)++rest))=false:=by
   cases r with
   |nil=>exact h8
   |cons b r=>rfl
  rw[e,d6M,if_pos (by show atT [44] (sy [44])=true;decide),f3U (fun e=>hrest (g6I.1 e).2),f8X (hl a g7Y) hrest h91]
  simp only
  rw[f8Y r (fun x hx=>hl x (g7X _ hx)) s rest n0 (acc++[a]) hr h0 h9 h8]
  simp
theorem f8Z {l:List Pa} (hl:∀ a,a∈l→paB a=true) {s:Ps} {rest:List Tok} {n:Nat} (hr:rest≠[]) (hn:l.length+1≤n):d6N n (stt s (tks (f3J (l.map paP))++sy [41]::rest))=(l,stt s (sy [41]::rest)):=by
 unfold d6N
 cases l with
 |nil=>rw[show tks (f3J (([]:List Pa).map paP))++sy [41]::rest=sy [41]::rest from rfl,if_pos (by show atT [41] (sy [41])=true;decide)]
 |cons a r =>
  simp only[g7L] at hn
  have e:tks (f3J ((a::r).map paP))++sy [41]::rest=tks (paP a)++(tks ((r.map paP).flatMap fun y=>some (sy [44])::none::y)++sy [41]::rest):=by
   rw[g7T,f3J,f3D,g6H]
  have h91:atT [91] (hdd (tks ((r.map paP).flatMap fun y=>some (sy [44])::none::y)++sy [41]::rest))=false:=by
   cases r with
   |nil=>rfl
   |cons b r=>rfl
  rw[e,if_neg (by show ¬atT [41] (nmT a.name)=true;unfold atT;intro h;simp only[g5U,g9N] at h;have:=hl a g7Y;unfold paB at this;rw[g5U] at this;have h1:=this.1;rw[show a.name=[41] from h.2] at h1;exact absurd h1 (by decide))]
  rw[f8X (hl a g7Y) (by simp) h91]
  simp only
  rw[f8Y r (fun x hx=>hl x (g7X _ hx)) s (sy [41]::rest) n [a] (by simp) (by omega) rfl rfl]
  rfl
theorem f9A (f:Fu):tks (fnP f)=kw [102,110]::nmT f.name::sy [40]::(tks (f3J (f.params.map paP))++sy [41]::sy [58]::(tks (tyP f.res)++sy [123]::(tks (f7S f.body)++kw [114,101,116,117,114,110]::(tks (f3I 1 (ar f.ret))++[sy [59],sy [125]])))):=by
 unfold fnP
 simp only[f3E,f3F,f3D]
 rfl
theorem f9B {f:Fu} (hv:fuB f=true) (hs:shF f=true) (ho:FuOk f) {s:Ps} {rest:List Tok} {n:Nat} (hr:rest≠[]) (hn:wF f≤n):fnM n (stt s (tks (fnP f)++rest))=(f8V f,stt s rest):=by
 unfold fuB at hv
 simp only[g5U,g6F] at hv
 obtain⟨⟨⟨⟨g1,g2⟩,g3⟩,g4⟩,g5⟩:=hv
 unfold shF at hs
 rw[g5U,g6F] at hs
 unfold wF at hn
 have hw:=f7Y f.body
 have hd:¬((dEx (f3P f.ret):Int) > 40):=by
  have:=hs.2
  unfold shE at this
  rw[g9N] at this
  rw[f7P];omega
 have e:tks (fnP f)++rest=kw [102,110]::nmT f.name::sy [40]::(tks (f3J (f.params.map paP))++sy [41]::sy [58]::(tks (tyP f.res)++sy [123]::(tks (f7S f.body)++kw [114,101,116,117,114,110]::(tks (f3I 1 (ar f.ret))++sy [59]::sy [125]::rest)))):=by
  rw[f9A]
  simp
 rw[e]
 unfold fnM
 simp only
 rw[f3V (by simp) rfl,f8A (by simp)]
 simp only
 rw[f3V (by simp) rfl,f8Z g2 (by simp) (by omega)]
 simp only
 rw[f3V (by simp) rfl,f3V (by simp) rfl,f8D g3 (by simp) rfl]
 simp only
 rw[f3V (by simp) rfl,f8O f.body (fun a ha=>f8T a (g4 a ha) (ho.bo a ha)) true (fun _=>hs.1) s _ n [] (by simp) (by omega) rfl]
 simp only
 rw[f3V (by simp) rfl,f8H g5 ho.ret (by simp) (by omega)]
 simp only
 rw[g9L hd,f8N,f3V (by simp) rfl,f3V hr rfl,g8F]
 unfold f8V
 cases f.body <;> rfl
theorem f9C {d:De} (hv:deB d=true) {s:Ps} {rest:List Tok} (hr:rest≠[]):d6O (stt s (tks (deP d)++rest))=(d,stt s rest):=by
 unfold deB at hv
 rw[g5U] at hv
 have e:tks (deP d)++rest=kw (f8U d.pub)::nmT d.name::sy [58]::(tks (tyP d.ty)++sy [59]::rest):=by
  unfold deP
  simp only[f3E,f3F,f3D,g6L,g6H]
  rfl
 rw[e]
 unfold d6O
 simp only
 rw[f3U (by simp),f8A (by simp)]
 simp only
 rw[f3V (by simp) rfl,f8D hv.2 (by simp) rfl]
 simp only
 rw[f3V hr rfl]
 have:decide ((stt s (kw (f8U d.pub)::nmT d.name::sy [58]::(tks (tyP d.ty)++sy [59]::rest))).hd.text=[112,117,98,108,105,99])=d.pub:=by
  show decide (f8U d.pub=[112,117,98,108,105,99])=d.pub
  cases d.pub <;> decide
 rw[this]
def f9D (l:List Fu):List Tok:=l.flatMap fun f=>tks (fnP f)
def f9E (l:List De):List Tok:=l.flatMap fun d=>tks (deP d)
theorem f9F:∀ (l:List Fu),(∀ a,a∈l→fuB a=true∧shF a=true∧FuOk a)→∀ (s:Ps) (rest:List Tok) (n:Nat) (acc:List Fu),rest≠[]→wFs l≤n→atT [102,110] (hdd rest)=false →
  d6P n acc (stt s (f9D l++rest))=(acc++l.map f8V,stt s rest)
 |[],_,s,rest,n,acc,hr,hn,h9=>by
  obtain⟨n0,rfl,h0⟩:=f3X (m:=0) (n:=n) (by simpa [wFs] using hn)
  rw[show f9D []++rest=rest from rfl,d6P,if_neg (by rw[f3W,h9];simp),g7U,g6J]
 |a::r,hl,s,rest,n,acc,hr,hn,h9=>by
  rw[wFs] at hn
  obtain⟨n0,rfl,h0⟩:=f3X (m:=wF a+wFs r) (n:=n) (by omega)
  obtain⟨v1,v2,v3⟩:=hl a g7Y
  have e:f9D (a::r)++rest=tks (fnP a)++(f9D r++rest):=by unfold f9D;rw[g6Q,g6H]
  have hrest:f9D r++rest≠[]:=fun e=>hr (g6I.1 e).2
  have hf:=f9B v1 v2 v3 (s:=s) (rest:=f9D r++rest) (n:=n0) hrest (by omega)
  rw[e,d6P,if_pos (by rw[f3W,f9A];rfl),hf]
  simp only
  rw[f9F r (fun x hx=>hl x (g7X _ hx)) s rest n0 (acc++[f8V a]) hr (by omega) h9]
  simp
theorem f9G:∀ (l:List De),(∀ a,a∈l→deB a=true)→∀ (s:Ps) (rest:List Tok) (n:Nat) (acc:List De),rest≠[]→l.length+1≤n→(atT [112,117,98,108,105,99] (hdd rest) || atT [115,101,99,114,101,116] (hdd rest))=false →
  d6Q n acc (stt s (f9E l++rest))=(acc++l,stt s rest)
 |[],_,s,rest,n,acc,hr,hn,h9=>by
  obtain⟨n0,rfl,h0⟩:=f3X (m:=0) (n:=n) (by simpa using hn)
  rw[show f9E []++rest=rest from rfl,d6Q,if_neg (by rw[f3W,f3W,h9];simp),g6J]
 |a::r,hl,s,rest,n,acc,hr,hn,h9=>by
  simp only[g7L] at hn
  obtain⟨n0,rfl,h0⟩:=f3X (m:=r.length+1) (n:=n) (by omega)
  have e:f9E (a::r)++rest=tks (deP a)++(f9E r++rest):=by unfold f9E;rw[g6Q,g6H]
  have hrest:f9E r++rest≠[]:=fun e=>hr (g6I.1 e).2
  rw[e,d6Q,if_pos (by rw[f3W,f3W];show(atT _ (kw (f8U a.pub)) || atT _ (kw (f8U a.pub)))=true;cases a.pub <;> decide),f9C (hl a g7Y) hrest]
  simp only
  rw[f9G r (fun x hx=>hl x (g7X _ hx)) s rest n0 (acc++[a]) hr h0 h9]
  simp
def f9H (p:Pg):List Tok:=f9D p.funcs++(f9E p.decls++tks (f7S p.body))
theorem f9I {l:List St} (hl:∀ a,a∈l→Smt a) (p:Nat) (t:Nm) (h:∀ x,f8E x=true→atT t x=false):atT t (hdd (tks (f7S l)++[f7Q p]))=false:=by
 cases l with
 |nil=>rfl
 |cons a r =>
  obtain⟨x,q,e1,e2⟩:=(hl a g7Y).hd
  have:tks (f7S (a::r))++[f7Q p]=x::(q++(tks (f7S r)++[f7Q p])):=by rw[f7S,f3D,f3F,e1];simp
  rw[this]
  exact h x e2
theorem f9J {t:Nm} (h:t≠[108,101,116]∧t≠[97,115,115,101,114,116]∧t≠[102,111,114]):∀ x,f8E x=true→atT t x=false:=by
 intro x hx
 unfold f8E atT at hx
 simp only[g5Z,g5U,g9N] at hx
 unfold atT
 rw[g5T]
 right
 refine g9L fun e=>?_
 rw[e] at hx
 rcases hx with⟨_,h1⟩|⟨_,h1⟩|⟨_,h1⟩
 ·exact h.1 h1
 ·exact h.2.1 h1
 ·exact h.2.2 h1
theorem f9K {p:Pg} (hv:d4L p=0) (ho:PgOk p) {s:Ps} {q n:Nat} (hn:wP p≤n):d6T n (stt s (f9H p++[f7Q q]))=(f8W p,stt s [f7Q q]):=by
 unfold d4L at hv
 split at hv
 ·cases hv
 rename_i h1
 split at hv
 ·cases hv
 rename_i h2
 rw[Bool.not_eq_false] at h1 h2
 simp only[g5U,g6F] at h1 h2
 obtain⟨⟨a1,a2⟩,a3⟩:=h1
 obtain⟨b1,b2⟩:=h2
 have hm:∀ a,a∈p.body→Smt a:=fun a ha=>f8T a (a3 a ha) (ho.bo a ha)
 unfold wP at hn
 have hw:=f7Y p.body
 have e:f9H p++[f7Q q]=f9D p.funcs++(f9E p.decls++(tks (f7S p.body)++[f7Q q])):=by unfold f9H;simp
 rw[e]
 unfold d6T
 simp only
 have hb0:tks (f7S p.body)++[f7Q q]≠[]:=by simp
 have hfn:atT [102,110] (hdd (f9E p.decls++(tks (f7S p.body)++[f7Q q])))=false:=by
  cases hd:p.decls with
  |nil=>exact f9I hm q _ (f9J (by decide))
  |cons d r =>
   show atT [102,110] (kw (f8U d.pub))=false
   cases d.pub <;> decide
 rw[f9F p.funcs (fun a ha=>⟨a1 a ha,b1 a ha,ho.fo a ha⟩) s _ n [] (by simp) (by omega) hfn]
 simp only
 rw[f9G p.decls a2 s _ n [] hb0 (by omega) (by rw[f9I hm q _ (f9J (by decide)),f9I hm q _ (f9J (by decide))];rfl)]
 simp only
 rw[f8O p.body hm true (fun _=>b2) s [f7Q q] n [] (by simp) (by omega) rfl]
 simp only[g8F]
 have he:d6R (stt s [f7Q q])=stt s [f7Q q]:=by
  unfold d6R
  rw[if_neg (by show ¬(0:Nat)≠0;decide)]
 rw[he]
 unfold f8W
 cases p.funcs <;> cases p.decls <;> cases p.body <;> rfl
end Go.Ky

/- KX 62: the lexer finds the tokens of a program's canonical text. No program in sight. -/
namespace Go.Ky
open Go.Pi Go.Lx
theorem f9L (z:List UInt8):Bd (sy [123]) z:=f6V (by decide) (by decide) (f6X (by decide) (by decide) (by decide) (by decide)) (by decide) (by decide) (by decide)
theorem f9M (z:List UInt8):Bd (sy [125]) z:=f6V (by decide) (by decide) (f6X (by decide) (by decide) (by decide) (by decide)) (by decide) (by decide) (by decide)
theorem f9N (z:List UInt8):Bd (sy [61]) (32::z):=f6U (by decide) (by decide) (f6G (by decide)) (by decide) (by decide) (fun h=>absurd h (by decide))
theorem f9O (z:List UInt8):Bd (sy [46,46]) z:=f6W (by decide) (by decide) (by decide) (by decide) (by decide)
theorem f9P (z:List UInt8):Nz (32::z):=f6Y (by decide)
theorem f9Q {t:Ty} (hv:tyB t=true):∀ z,Nz z→f6H (tyP t) z:=by
 intro z hz
 unfold tyB at hv
 split at hv
 ·cases hv
 rename_i hl
 unfold tyP
 rw[f6I]
 have hb:Nz (txP (if 0 < t.len then [some (sy [91]),some (nu t.len.toNat),some (sy [93])] else [])++z):=by
  split
  ·exact f6Y (c:=91) (by decide)
  ·exact hz
 refine⟨?_,?_⟩
 ·split
  ·exact⟨f6S (by decide) ⟨_,_,rfl,by decide⟩ (by decide) hb,trivial⟩
  ·split at hv
   ·rw[if_neg (by omega)]
    exact⟨f6S (by decide) ⟨_,_,rfl,by decide⟩ (by decide) hb,trivial⟩
   ·split at hv
    ·rename_i hk
     rw[g5U,g9N,g9N] at hv
     rw[if_pos hk]
     exact⟨f7I (by decide) ⟨_,_,rfl,by decide⟩ (by decide),f6T (by omega) (f6Z hb),trivial⟩
    ·cases hv
 ·split
  ·exact⟨f7C _,f6T (by omega) (f6G (c:=93) (by decide)),f7D _,trivial⟩
  ·trivial
theorem f9R {p:Pa} (hv:paB p=true):∀ z,Nz z→f6H (paP p) z:=by
 intro z hz
 unfold paB at hv
 rw[g5U] at hv
 exact⟨f6R hv.1 (f6Y (c:=58) (by decide)),f7G _,f9Q hv.2 z hz⟩
theorem f9S:∀ (l:List Pa),(∀ a,a∈l→paB a=true)→∀ z,Nz z→f6H (f3J (l.map paP)) z
 |[],_,z,_=>trivial
 |a::r,h,z,hz=>by
  have more:∀ r:List Pa,(∀ a,a∈r→paB a=true)→f6H ((r.map paP).flatMap fun y=>some (sy [44])::none::y) z∧Nz (txP ((r.map paP).flatMap fun y=>some (sy [44])::none::y)++z):=by
   intro r
   induction r with
   |nil=>intro _;exact⟨trivial,hz⟩
   |cons b r ih =>
    intro hb
    obtain⟨i1,i2⟩:=ih fun a ha=>hb a (g7X _ ha)
    refine⟨?_,f6Y (c:=44) (by decide)⟩
    rw[g7T,g6Q,f6I]
    exact⟨⟨f7E _,f9R (hb b g7Y) _ i2⟩,i1⟩
  obtain⟨m1,m2⟩:=more r fun a ha=>h a (g7X _ ha)
  rw[g7T,f3J,f6I]
  exact⟨f9R (h a g7Y) _ m2,m1⟩
theorem f9T:∀ (l:List St),(∀ a,a∈l→∀ z,f6H (stP a) z)→∀ z,f6H (f7S l) z
 |[],_,z=>trivial
 |a::r,h,z=>by
  rw[f7S,f6I]
  exact⟨h a g7Y _,f9T r (fun x hx=>h x (g7X _ hx)) z⟩
theorem f9U:∀ s:St,stB s=true→StOk s→∀ z,f6H (stP s) z:=by
 refine St.ind fun s ih hv ho z=>?_
 obtain⟨k,n,b,t,e,lo,hi,nl,l⟩:=s
 cases ho with|mk _ h1 h2 h3 h4 h5 h6 h7 h8 h =>
 have h4:ExpOk e:=h4
 have h:∀ a,a∈l→StOk a:=h
 have ih:∀ a,a∈l→stB a=true→StOk a→∀ z,f6H (stP a) z:=ih
 rw[stB] at hv
 rw[stP]
 unfold stO
 by_cases k1:k=1
 ·rw[if_pos k1] at hv ⊢
  simp only[g5U,g9N] at hv
  obtain⟨⟨⟨⟨⟨g1,g2⟩,g3⟩,g4⟩,g5⟩,g6⟩:=hv
  refine⟨f7I (by decide) ⟨_,_,rfl,by decide⟩ (by decide),?_⟩
  have hE:f6H (none::some (sy [61])::none::(f3I 1 (ar e)++[some (sy [59])])) z:=by
   refine⟨f9N _,?_⟩
   show f6H (f3I 1 (ar e)++[some (sy [59])]) z
   rw[f6I]
   exact⟨f7N e g3 h4 1 _ (f6Y (c:=59) (by decide)),f7F _,trivial⟩
  cases b with
  |false=>exact⟨f6R g2 (f9P _),hE⟩
  |true =>
   have ht:tyB t=true:=by simpa using g1
   refine⟨f6R g2 (f6Y (c:=58) (by decide)),?_⟩
   rw[f6I]
   exact⟨⟨f7G _,f9Q ht _ (f9P _)⟩,hE⟩
 rw[if_neg k1] at hv ⊢
 by_cases k2:k=2
 ·rw[if_pos k2] at hv ⊢
  simp only[g5U,g9N] at hv
  obtain⟨⟨⟨⟨⟨g1,g2⟩,g3⟩,g4⟩,g5⟩,g6⟩:=hv
  refine⟨f7I (by decide) ⟨_,_,rfl,by decide⟩ (by decide),?_⟩
  show f6H (f3I 1 (ar e)++[some (sy [59])]) z
  rw[f6I]
  exact⟨f7N e g3 h4 1 _ (f6Y (c:=59) (by decide)),f7F _,trivial⟩
 rw[if_neg k2] at hv ⊢
 split at hv
 ·simp only[g5U,g9N,d3X] at hv
  obtain⟨⟨⟨⟨⟨g1,g2⟩,g3⟩,g4,g4'⟩,g5,g5'⟩,g6⟩:=hv
  rw[d4A,g6F] at g6
  refine⟨f7I (by decide) ⟨_,_,rfl,by decide⟩ (by decide),f6R g1 (f9P _),f7I (by decide) ⟨_,_,rfl,by decide⟩ (by decide),f6T (by omega) (f6G (c:=46) (by decide)),f9O _,f6T (by omega) (f6G (c:=32) (by decide)),f9L _,?_⟩
  show f6H (f7S l++[some (sy [125])]) z
  rw[f6I]
  exact⟨f9T l (fun a ha=>ih a ha (g6 a ha) (h a ha)) _,f9M _,trivial⟩
 ·cases hv
theorem f9V {f:Fu} (hv:fuB f=true) (ho:FuOk f) (z:List UInt8):f6H (fnP f) z:=by
 unfold fuB at hv
 simp only[g5U,g6F] at hv
 obtain⟨⟨⟨⟨g1,g2⟩,g3⟩,g4⟩,g5⟩:=hv
 unfold fnP
 refine⟨f7I (by decide) ⟨_,_,rfl,by decide⟩ (by decide),f6R g1 (f6Y (c:=40) (by decide)),f7A _,?_⟩
 rw[f6I]
 refine⟨f9S f.params g2 _ (f6Y (c:=41) (by decide)),f7B _,f7G _,?_⟩
 show f6H (tyP f.res++none::some (sy [123])::none::(f7S f.body++some (kw [114,101,116,117,114,110])::none::(f3I 1 (ar f.ret)++[some (sy [59]),none,some (sy [125])]))) z
 rw[f6I]
 refine⟨f9Q g3 _ (f9P _),f9L _,?_⟩
 show f6H (f7S f.body++some (kw [114,101,116,117,114,110])::none::(f3I 1 (ar f.ret)++[some (sy [59]),none,some (sy [125])])) z
 rw[f6I]
 refine⟨f9T f.body (fun a ha=>f9U a (g4 a ha) (ho.bo a ha)) _,f7I (by decide) ⟨_,_,rfl,by decide⟩ (by decide),?_⟩
 show f6H (f3I 1 (ar f.ret)++[some (sy [59]),none,some (sy [125])]) z
 rw[f6I]
 exact⟨f7N f.ret g5 ho.ret 1 _ (f6Y (c:=59) (by decide)),f7F _,f9M _,trivial⟩
theorem f9W {d:De} (hv:deB d=true) (z:List UInt8):f6H (deP d) z:=by
 unfold deB at hv
 rw[g5U] at hv
 unfold deP
 refine⟨?_,f6R hv.1 (f6Y (c:=58) (by decide)),f7G _,?_⟩
 ·unfold f8U
  cases d.pub
  ·exact f7I (by decide) ⟨_,_,rfl,by decide⟩ (by decide)
  ·exact f7I (by decide) ⟨_,_,rfl,by decide⟩ (by decide)
 ·show f6H (tyP d.ty++[some (sy [59])]) z
  rw[f6I]
  exact⟨f9Q hv.2 _ (f6Y (c:=59) (by decide)),f7F _,trivial⟩
def lnT (l:List (List Pc)):List UInt8:=l.flatMap fun ps=>txP ps++[10]
theorem f9X (a b:List (List Pc)):lnT (a++b)=lnT a++lnT b:=List.flatMap_append
theorem f9Y:∀ (l:List (List Pc)),(∀ ps,ps∈l→∀ z,f6H ps z)→∀ (z:List UInt8) (pos:Nat),∃ L,Lx.Alike L (l.flatMap tks)∧d0X pos (lnT l++z)=(d0X (pos+(lnT l).length) z).app L
 |[],_,z,pos=>⟨[],trivial,by rw[f6M];rfl⟩
 |ps::r,h,z,pos=>by
  obtain⟨L1,a1,b1⟩:=f6N ps (10::(lnT r++z)) pos (h ps g7Y _)
  obtain⟨L2,a2,b2⟩:=f9Y r (fun x hx=>h x (g7X _ hx)) z (pos+(txP ps).length+1)
  refine⟨L1++L2,?_,?_⟩
  ·rw[g6Q]
   exact d1K a1 a2
  ·have e:lnT (ps::r)++z=txP ps++10::(lnT r++z):=by unfold lnT;rw[g6Q];simp
   have e2:(lnT (ps::r)).length=(txP ps).length+1+(lnT r).length:=by unfold lnT;rw[g6Q];simp;omega
   rw[e,b1,f6J (by decide),b2,e2,show pos+(txP ps).length+1+(lnT r).length=pos+((txP ps).length+1+(lnT r).length) by omega]
   cases d0X (pos+((txP ps).length+1+(lnT r).length)) z with
   |toks q=>show Res.toks _=Res.toks _;rw[g6H]
   |err a b=>rfl
def lnP (p:Pg):List (List Pc):=p.funcs.map fnP++(p.decls.map deP++p.body.map stP)
def f9Z (p:Pg):List UInt8:=lnT (lnP p)
theorem g0A (p:Pg):(lnP p).flatMap tks=f9H p:=by
 unfold lnP f9H f9D f9E
 rw[List.flatMap_append,List.flatMap_append,List.flatMap_map,List.flatMap_map,List.flatMap_map]
 congr 2
 induction p.body with
 |nil=>rfl
 |cons a r ih=>rw[g6Q,f7S,f3D,f3F,ih]
theorem g0B {p:Pg} (hv:d4L p=0) (ho:PgOk p) (hl:(f9Z p).length≤16384) {N:Nat} (hN:wP p≤N):prN N (f9Z p)=(f8W p,0,0):=by
 have hv':=hv
 unfold d4L at hv'
 split at hv'
 ·cases hv'
 rename_i h1
 rw[Bool.not_eq_false] at h1
 simp only[g5U,g6F] at h1
 obtain⟨⟨a1,a2⟩,a3⟩:=h1
 obtain⟨L,b1,b2⟩:=f9Y (lnP p) (fun ps hps z=>by
  unfold lnP at hps
  simp only[g7V,List.mem_map] at hps
  rcases hps with⟨f,hf,rfl⟩|⟨d,hd,rfl⟩|⟨s,hs,rfl⟩
  ·exact f9V (a1 f hf) (ho.fo f hf) z
  ·exact f9W (a2 d hd) z
  ·exact f9U s (a3 s hs) (ho.bo s hs) z) [] 0
 rw[g6J,d1D (show gap ([]:List UInt8)=([]:List UInt8).length from rfl)] at b2
 have hT:d8X (f9Z p)=(_,0,0):=d8Z hl b2
 have hal:=d1K b1 (d1J [(⟨0,[],0,0+(lnT (lnP p)).length+([]:List UInt8).length⟩:Tok)])
 rw[g0A] at hal
 have hP:=f9K hv ho (s:=st0 []) (q:=0+(lnT (lnP p)).length+([]:List UInt8).length) hN
 obtain⟨q1,q2⟩:=d8N (n:=N) (d8O hal)
 have hs:stt (st0 []) (f9H p++[f7Q (0+(lnT (lnP p)).length+([]:List UInt8).length)])=st0 (f9H p++[f7Q (0+(lnT (lnP p)).length+([]:List UInt8).length)]):=rfl
 rw[hs] at hP
 rw[hP] at q1 q2
 unfold prN
 rw[hT]
 simp only
 have hr:∀ L,(d6T N (st0 L)).2.err=0→(d6T N (st0 L)).2.deep=false→d6S 0 0 (d6T N (st0 L)).2=(0,0):=by
  intro L e1 e2
  unfold d6S
  rw[e1,e2]
  simp
 rw[hr _ q2.err q2.deep,q1]
 simp
end Go.Ky

/- KX 66: how much a program's text, its sizes and the parser's fuel can be, by the number of its parts and the bytes of its names. No program in sight. -/
namespace Go.Ky
open Go.Pi Go.Lx
mutual
def wgE:Exp→Nat
 |.mk _ _ n _ l=>1+n.length+g0C l
def g0C:List Exp→Nat
 |[]=>0
 |e::r=>wgE e+g0C r
end
theorem g0D (e:Exp):wgE e=1+e.name.length+g0C e.args:=by cases e;rw[wgE];rfl
mutual
def wgS:St→Nat
 |.mk _ n _ _ e _ _ _ l=>1+n.length+wgE e+g0E l
def g0E:List St→Nat
 |[]=>0
 |s::r=>wgS s+g0E r
end
theorem g0F (s:St):wgS s=1+s.name.length+wgE s.ex+g0E s.body:=by cases s;rw[wgS];rfl
def wgN:List Pa→Nat
 |[]=>0
 |p::r=>p.name.length+wgN r
def wgF (f:Fu):Nat:=f.name.length+f.params.length+g0E f.body+wgE f.ret+wgN f.params
def g0G:List Fu→Nat
 |[]=>0
 |f::r=>wgF f+g0G r
def wgD:List De→Nat
 |[]=>0
 |d::r=>d.name.length+wgD r
def wgP (p:Pg):Nat:=g0E p.body+p.decls.length+p.funcs.length+g0G p.funcs+wgD p.decls
theorem g0H:∀ e:Exp,szE e≤4 * wgE e:=by
 refine Exp.ind fun e ih=>?_
 have key:∀ l:List Exp,(∀ a,a∈l→szE a≤4 * wgE a)→d3H l≤4 * g0C l:=by
  intro l
  induction l with
  |nil=>intro _;exact g9A _
  |cons a r ih2 =>
   intro h
   have h1:=h a g7Y
   have h2:=ih2 fun x hx=>h x (g7X _ hx)
   rw[d3K,g0C];omega
 have:=key e.args ih
 rw[d3J,g0D];omega
theorem g0I:∀ s:St,szS s≤13 * wgS s:=by
 refine St.ind fun s ih=>?_
 have key:∀ l:List St,(∀ a,a∈l→szS a≤13 * wgS a)→d3I l≤13 * g0E l:=by
  intro l
  induction l with
  |nil=>intro _;exact g9A _
  |cons a r ih2 =>
   intro h
   have h1:=h a g7Y
   have h2:=ih2 fun x hx=>h x (g7X _ hx)
   rw[d3M,g0E];omega
 have:=key s.body ih
 have h3:=g0H s.ex
 rw[d3J] at h3
 rw[d3L,g0F];omega
theorem g0J:∀ l:List St,d3I l≤13 * g0E l
 |[]=>g9A _
 |a::r=>by
  have h1:=g0I a
  have h2:=g0J r
  rw[d3M,g0E];omega
theorem g0K:∀ {l:List Fu} {f:Fu},f∈l→wgF f≤g0G l
 |a::r,f,h=>by
  rw[g0G]
  rcases g7W.1 h with e|e
  ·subst e;omega
  ·have:=g0K e;omega
theorem g0L {v:Nat} (h:v≤18446744073709551615):(d1M v).length≤20:=d1W 19 v (by omega)
def tx (l:List Pc):Nat:=(txP l).length
theorem g0M (t:Tok) (l:List Pc):tx (some t::l)=t.text.length+tx l:=by unfold tx;rw[f6D,g7K]
theorem g0N (l:List Pc):tx (none::l)=1+tx l:=by unfold tx;rw[f6E,g7L];omega
theorem g0O (a b:List Pc):tx (a++b)=tx a+tx b:=by unfold tx;rw[f6C,g7K]
theorem g0P:tx []=0:=rfl
theorem g0Q (r:Nat) (a:Ar):tx (f3I r a)≤tx a.ps+2:=by
 unfold f3I
 split
 ·rw[g0M,g0O,g0M,g0P]
  show 1+(_+(1+0))≤_
  omega
 ·omega
def txs:List Ar→Nat
 |[]=>0
 |a::r=>tx a.ps+txs r
def rsP (l:List (List Pc)):List Pc:=l.flatMap fun y=>some (sy [44])::none::y
theorem g0R (x:List Pc) (r:List (List Pc)):tx (rsP (x::r))=1+1+tx x+tx (rsP r):=by
 have:rsP (x::r)=(some (sy [44])::none::x)++rsP r:=g6Q
 rw[this,g0O,g0M,g0N,←g8K]
 rfl
theorem g0S (x:List Pc) (r:List (List Pc)):f3J (x::r)=x++rsP r:=rfl
theorem g0T:∀ l:List Ar,tx (rsP (l.map (f3I 1)))≤txs l+4 * l.length
 |[]=>g9A _
 |a::r=>by
  have h1:=g0T r
  have h2:=g0Q 1 a
  rw[g7T,g0R,txs,g7L]
  omega
theorem g0U (l:List Ar):tx (f3J (l.map (f3I 1)))≤txs l+4 * l.length:=by
 cases l with
 |nil=>exact g9A _
 |cons a r =>
  have h1:=g0T r
  have h2:=g0Q 1 a
  rw[g7T,g0S,g0O,txs,g7L]
  omega
theorem g0V:∀ l:List Ar,tx (a0 l).ps+tx (a1 l).ps+tx (a2 l).ps≤txs l
 |[]=>g8S _
 |[a]=>by show tx a.ps+0+0≤tx a.ps+0;omega
 |[a,b]=>by show tx a.ps+tx b.ps+0≤tx a.ps+(tx b.ps+0);omega
 |a::b::c::r=>by show tx a.ps+tx b.ps+tx c.ps≤tx a.ps+(tx b.ps+(tx c.ps+txs r));omega
theorem g0W {c:Prop} [Decidable c] {a b:Tok} (ha:a.text.length≤3) (hb:b.text.length≤3):(if c then a else b).text.length≤3:=by
 by_cases h:c
 ·rw[if_pos h];exact ha
 ·rw[if_neg h];exact hb
theorem g0X (op:Int):(f3H op).text.length≤3 :=
 g0W (by decide) (g0W (by decide) (g0W (by decide) (g0W (by decide) (g0W (by decide) (g0W (by decide) (g0W (by decide) (g0W (by decide) (by decide))))))))
theorem g0Y {op v:Int} {n:Nm} {as:List Ar} (hv:v.toNat≤18446744073709551615):tx (f3K op v n as)≤n.length+36+txs as+4 * as.length:=by
 have h3:=g0V as
 have hc:=g0U as
 have hd:=g0L hv
 have ho:=g0X op
 have q0:=fun r=>g0Q r (a0 as)
 have q1:=fun r=>g0Q r (a1 as)
 have q2:=fun r=>g0Q r (a2 as)
 unfold f3K
 by_cases o1:op=1
 ·rw[if_pos o1]
  rw[g0M,g0P];show(d1M v.toNat).length+0≤_;omega
 rw[if_neg o1]
 by_cases o2:op=2
 ·rw[if_pos o2]
  rw[g0M,g0P];show n.length+0≤_;omega
 rw[if_neg o2]
 by_cases o3:op=3
 ·rw[if_pos o3]
  rw[g0M,g0P];show 4+0≤_;omega
 rw[if_neg o3]
 by_cases o4:op=4
 ·rw[if_pos o4]
  rw[g0M,g0P];show 5+0≤_;omega
 rw[if_neg o4]
 by_cases o5:op=5
 ·rw[if_pos o5]
  rw[g0M,g0M,g0O,g0M,g0P];show n.length+(1+(_+(1+0)))≤_;omega
 rw[if_neg o5]
 by_cases o6:op=6
 ·rw[if_pos o6]
  rw[g0M,g0M,g0M,g0M,g0N,g0O,g0M,g0P];show 4+(1+((d1M v.toNat).length+(1+(1+(_+(1+0))))))≤_;omega
 rw[if_neg o6]
 by_cases o7:op=7
 ·rw[if_pos o7]
  rw[g0M,g0O,g0M,g0P];show 1+(_+(1+0))≤_;omega
 rw[if_neg o7]
 by_cases o8:op=8
 ·rw[if_pos o8]
  have:=q0 8
  have:=q1 1
  rw[g0O,g0M,g0O,g0M,g0P];show _+(1+(_+(1+0)))≤_;omega
 rw[if_neg o8]
 by_cases o9:op=9
 ·rw[if_pos o9]
  have:=q0 (if (a0 as).op=9 then 8 else 7)
  rw[g0M];show 1+_≤_;omega
 rw[if_neg o9]
 by_cases o10:op=10
 ·rw[if_pos o10]
  have:=q0 7
  rw[g0M,g0N];show 3+(1+_)≤_;omega
 rw[if_neg o10]
 by_cases o11:op=20
 ·rw[if_pos o11]
  have:=q0 2
  have:=q1 1
  have:=q2 1
  rw[g0O,g0N,g0M,g0N,g0O,g0N,g0M,g0N];show _+(1+(1+(1+(_+(1+(1+(1+_)))))))≤_;omega
 ·rw[if_neg o11]
  have:=q0 (if f3G op=4 then 5 else f3G op)
  have:=q1 (f3G op+1)
  rw[g0O,g0N,g0M,g0N];omega
theorem g0Z:∀ e:Exp,ExpOk e→tx (f3L e)+4≤40 * wgE e:=by
 refine Exp.ind fun e ih ho=>?_
 cases ho with|mk _ h1 h2 h3 h4 h5 h =>
 have key:∀ l:List Exp,(∀ a,a∈l→tx (f3L a)+4≤40 * wgE a)→txs (l.map ar)+4 * l.length≤40 * g0C l:=by
  intro l
  induction l with
  |nil=>intro _;exact g9A _
  |cons a r ih2 =>
   intro h
   have h1:=h a g7Y
   have h2:=ih2 fun x hx=>h x (g7X _ hx)
   rw[g7T,txs,g0C,g7L]
   show tx (f3L a)+_+_≤_
   omega
 have k:=key e.args fun a ha=>ih a ha (h a ha)
 have:=g0Y (op:=e.op) (v:=e.val) (n:=e.name) (as:=e.args.map ar) (by have:=h2.1;have:=h2.2;omega)
 rw[f3O,g0D]
 rw[g7N] at this
 omega
theorem g1A {e:Exp} (h:ExpOk e):tx (f3I 1 (ar e))≤40 * wgE e:=by
 have h1:=g0Q 1 (ar e)
 have h2:=g0Z e h
 have:tx (ar e).ps=tx (f3L e):=rfl
 omega
theorem toN {n:Int} (h:I64 n):n.toNat≤18446744073709551615:=by have:=h.2;omega
theorem g1B {t:Ty} (h:d2U t):tx (tyP t)≤47:=by
 have h1:=g0L (toN h.2.1)
 have h2:=g0L (toN h.2.2)
 unfold tyP
 rw[g0O]
 have a1:tx (if t.kind=2 then [some (kw [98,111,111,108])] else if t.kind=3 then [some (kw [117,105,110,116]),none,some (nu t.bits.toNat)] else [some (kw [102,105,101,108,100])])≤25:=by
  split
  ·decide
  ·split
   ·rw[g0M,g0N,g0M,g0P];show 4+(1+((d1M t.bits.toNat).length+0))≤_;omega
   ·decide
 have a2:tx (if 0 < t.len then [some (sy [91]),some (nu t.len.toNat),some (sy [93])] else [])≤22:=by
  split
  ·rw[g0M,g0M,g0M,g0P];show 1+((d1M t.len.toNat).length+(1+0))≤_;omega
  ·decide
 omega
theorem g1C {k:Int} {n:Nm} {b:Bool} {t:Ty} {e:Exp} {lo hi:Int} {body:List Pc} (ht:d2U t) (he:ExpOk e) (h1:I64 lo) (h2:I64 hi):tx (stO k n b t e lo hi body)≤n.length+60+40 * wgE e+tx body:=by
 have a1:=g1B ht
 have a2:=g1A he
 have a3:=g0L (toN h1)
 have a4:=g0L (toN h2)
 have a5:tx (tyO b t)≤49:=by
  unfold tyO
  split
  ·rw[g0M,g0N];show 1+(1+_)≤_;omega
  ·exact g9A _
 unfold stO
 split
 ·rw[g0M,g0N,g0M,g0O,g0N,g0M,g0N,g0O,g0M,g0P]
  show 3+(1+(n.length+(_+(1+(1+(1+(_+(1+0))))))))≤_
  omega
 split
 ·rw[g0M,g0N,g0O,g0M,g0P]
  show 6+(1+(_+(1+0)))≤_
  omega
 ·rw[g0M,g0N,g0M,g0N,g0M,g0N,g0M,g0M,g0M,g0N,g0M,g0N,g0O,g0M,g0P]
  show 3+(1+(n.length+(1+(2+(1+((d1M lo.toNat).length+(2+((d1M hi.toNat).length+(1+(1+(1+(_+(1+0)))))))))))))≤_
  omega
theorem g1D:∀ s:St,StOk s→tx (stP s)+1≤100 * wgS s:=by
 refine St.ind fun s ih ho=>?_
 cases ho with|mk _ h1 h2 h3 h4 h5 h6 h7 h8 h =>
 have key:∀ l:List St,(∀ a,a∈l→tx (stP a)+1≤100 * wgS a)→tx (f7S l)≤100 * g0E l:=by
  intro l
  induction l with
  |nil=>intro _;exact g9A _
  |cons a r ih2 =>
   intro h
   have h1:=h a g7Y
   have h2:=ih2 fun x hx=>h x (g7X _ hx)
   rw[f7S,g0O,g0N,g0E]
   omega
 have k:=key s.body fun a ha=>ih a ha (h a ha)
 have:=g1C (k:=s.kind) (n:=s.name) (b:=s.typed) (t:=s.ty) (e:=s.ex) (lo:=s.lo) (hi:=s.hi) (body:=f7S s.body) h3 h4 h5 h6
 rw[f7T,g0F]
 omega
theorem g1E:∀ l:List St,(∀ a,a∈l→StOk a)→tx (f7S l)≤100 * g0E l
 |[],_=>g9A _
 |a::r,h=>by
  have h1:=g1D a (h a g7Y)
  have h2:=g1E r fun x hx=>h x (g7X _ hx)
  rw[f7S,g0O,g0N,g0E]
  omega
theorem g1F {p:Pa} (h:d2V p):tx (paP p)≤p.name.length+49:=by
 have:=g1B h.2
 unfold paP
 rw[g0M,g0M,g0N]
 show p.name.length+(1+(1+_))≤_
 omega
theorem g1G:∀ l:List Pa,(∀ a,a∈l→d2V a)→tx (rsP (l.map paP))≤wgN l+51 * l.length
 |[],_=>g9A _
 |a::r,h=>by
  have h1:=g1F (h a g7Y)
  have h2:=g1G r fun x hx=>h x (g7X _ hx)
  rw[g7T,g0R,wgN,g7L]
  omega
theorem g1H {l:List Pa} (h:∀ a,a∈l→d2V a):tx (f3J (l.map paP))≤wgN l+51 * l.length:=by
 cases l with
 |nil=>exact g9A _
 |cons a r =>
  have h1:=g1F (h a g7Y)
  have h2:=g1G r fun x hx=>h x (g7X _ hx)
  rw[g7T,g0S,g0O,wgN,g7L]
  omega
theorem g1I {f:Fu} (h:FuOk f):tx (fnP f)+1≤68+100 * wgF f:=by
 have a1:=g1B h.res
 have a2:=g1A h.ret
 have a3:=g1E f.body h.bo
 have a4:=g1H h.pa
 unfold fnP wgF
 simp only[g0M,g0N,g0O,g0P]
 show 2+(1+(f.name.length+(1+(_+(1+(1+(1+(_+(1+(1+(1+(_+(6+(1+(_+(1+(1+(1+0))))))))))))))))))+1≤_
 omega
theorem g1J {d:De} (h:d2W d):tx (deP d)+1≤100+d.name.length:=by
 have a1:=g1B h.2
 have hp:(f8U d.pub).length=6:=by cases d.pub <;> rfl
 unfold deP
 simp only[g0M,g0N,g0O,g0P]
 show(f8U d.pub).length+(1+(d.name.length+(1+(1+(_+(1+0))))))+1≤_
 omega
theorem g1K (a:List Pc) (r:List (List Pc)):(lnT (a::r)).length=tx a+1+(lnT r).length:=by
 unfold lnT tx
 simp
 omega
theorem g1L {p:Pg} (h:PgOk p):(f9Z p).length≤100 * wgP p:=by
 have k1:∀ l:List Fu,(∀ a,a∈l→FuOk a)→(lnT (l.map fnP)).length≤68 * l.length+100 * g0G l:=by
  intro l
  induction l with
  |nil=>intro _;exact g9A _
  |cons a r ih =>
   intro h
   have h1:=g1I (h a g7Y)
   have h2:=ih fun x hx=>h x (g7X _ hx)
   rw[g7T,g1K,g0G,g7L]
   omega
 have k2:∀ l:List De,(∀ a,a∈l→d2W a)→(lnT (l.map deP)).length≤100 * l.length+wgD l:=by
  intro l
  induction l with
  |nil=>intro _;exact g9A _
  |cons a r ih =>
   intro h
   have h1:=g1J (h a g7Y)
   have h2:=ih fun x hx=>h x (g7X _ hx)
   rw[g7T,g1K,wgD,g7L]
   omega
 have k3:∀ l:List St,(∀ a,a∈l→StOk a)→(lnT (l.map stP)).length≤100 * g0E l:=by
  intro l
  induction l with
  |nil=>intro _;exact g9A _
  |cons a r ih =>
   intro h
   have h1:=g1D a (h a g7Y)
   have h2:=ih fun x hx=>h x (g7X _ hx)
   rw[g7T,g1K,g0E]
   omega
 have b1:=k1 p.funcs h.fo
 have b2:=k2 p.decls h.dok
 have b3:=k3 p.body h.bo
 unfold f9Z lnP wgP
 rw[f9X,f9X,g7K,g7K]
 omega
end Go.Ky

/- KX 68: the reference's measure of a program, with its limit, in plain words; a small program's parts. No program in sight. -/
namespace Go.Ky
open Go.Pi Go.Lx
mutual
def wM:Exp→Int→Int
 |.mk _ _ n _ l,lim=>wMs l lim (IntKind.i64.wrap (1+(n.length:Int)))
def wMs:List Exp→Int→Int→Int
 |[],_,n=>n
 |e::r,lim,n=>if n≤lim then wMs r lim (IntKind.i64.wrap (n+wM e (IntKind.i64.wrap (lim - n)))) else n
end
theorem g1M (e:Exp) (lim:Int):wM e lim=wMs e.args lim (IntKind.i64.wrap (1+(e.name.length:Int))):=by cases e;rw[wM];rfl
mutual
def stW:St→Int→Int→Int
 |.mk _ nm _ _ e _ _ _ l,lim,n =>
  if IntKind.i64.wrap (IntKind.i64.wrap (n+(nm.length:Int))+wM e lim)≤lim
  then IntKind.i64.wrap (IntKind.i64.wrap (IntKind.i64.wrap (n+(nm.length:Int))+wM e lim)+g1N l (IntKind.i64.wrap (lim - IntKind.i64.wrap (IntKind.i64.wrap (n+(nm.length:Int))+wM e lim))) (l.length:Int))
  else IntKind.i64.wrap (IntKind.i64.wrap (n+(nm.length:Int))+wM e lim)
def g1N:List St→Int→Int→Int
 |[],_,n=>n
 |s::r,lim,n=>if n≤lim then g1N r lim (stW s lim n) else n
end
theorem g1O (s:St) (lim n:Int):stW s lim n =
  if IntKind.i64.wrap (IntKind.i64.wrap (n+(s.name.length:Int))+wM s.ex lim)≤lim
  then IntKind.i64.wrap (IntKind.i64.wrap (IntKind.i64.wrap (n+(s.name.length:Int))+wM s.ex lim)+g1N s.body (IntKind.i64.wrap (lim - IntKind.i64.wrap (IntKind.i64.wrap (n+(s.name.length:Int))+wM s.ex lim))) (s.body.length:Int))
  else IntKind.i64.wrap (IntKind.i64.wrap (n+(s.name.length:Int))+wM s.ex lim):=by cases s;rw[stW];rfl
def paW:List Pa→Int→Int
 |[],n=>n
 |p::r,n=>if n≤600 then paW r (IntKind.i64.wrap (n+(p.name.length:Int))) else n
def fuW (f:Fu) (n:Int):Int:=paW f.params (IntKind.i64.wrap (IntKind.i64.wrap (IntKind.i64.wrap (IntKind.i64.wrap (n+(f.name.length:Int))+(f.params.length:Int))+g1N f.body 600 (f.body.length:Int))+wM f.ret 600))
def g1P:List Fu→Int→Int
 |[],n=>n
 |f::r,n=>if n≤600 then g1P r (fuW f n) else n
def deW:List De→Int→Int
 |[],n=>n
 |d::r,n=>if n≤600 then deW r (IntKind.i64.wrap (n+(d.name.length:Int))) else n
def smW (p:Pg):Int:=deW p.decls (g1P p.funcs (IntKind.i64.wrap (IntKind.i64.wrap (g1N p.body 600 (p.body.length:Int)+(p.decls.length:Int))+(p.funcs.length:Int))))
theorem g1Q:∀ (l:List Exp),(∀ a,a∈l→∀ lim:Int,0≤lim→lim≤600→1≤wM a lim∧wM a lim≤lim+B47+1∧(wM a lim≤lim→wM a lim=(wgE a:Int))) →
  ∀ lim n:Int,0≤lim→lim≤600→1≤n→n≤lim+B47+1→n≤wMs l lim n∧wMs l lim n≤lim+B47+1∧(wMs l lim n≤lim→wMs l lim n=n+(g0C l:Int))
 |[],_,lim,n,h0,h1,h2,h3=>by
  rw[wMs,g0C]
  exact⟨Int.le_refl _,h3,fun _=>by omega⟩
 |a::r,h,lim,n,h0,h1,h2,h3=>by
  have e47:(B47:Int)=140737488355328:=rfl
  rw[wMs,g0C]
  by_cases c:n≤lim
  ·rw[if_pos c,IntWalk.i64_in (lim - n) (by omega)]
   obtain⟨a1,a2,a3⟩:=h a g7Y (lim - n) (by omega) (by omega)
   rw[IntWalk.i64_in _ (by omega)]
   obtain⟨b1,b2,b3⟩:=g1Q r (fun x hx=>h x (g7X _ hx)) lim (n+wM a (lim - n)) h0 h1 (by omega) (by omega)
   refine⟨by omega,b2,fun q=>?_⟩
   have:=b3 q
   have:=a3 (by omega)
   omega
  ·rw[if_neg c]
   exact⟨Int.le_refl _,h3,fun q=>absurd q c⟩
theorem g1R:∀ e:Exp,ExpOk e→∀ lim:Int,0≤lim→lim≤600→1≤wM e lim∧wM e lim≤lim+B47+1∧(wM e lim≤lim→wM e lim=(wgE e:Int)):=by
 refine Exp.ind fun e ih ho lim h0 h1=>?_
 cases ho with|mk _ q1 q2 q3 q4 q5 q =>
 have e47:(B47:Int)=140737488355328:=rfl
 have q3':(e.name.length:Int)≤140737488355328:=by have:B47=140737488355328:=rfl;omega
 rw[g1M,IntWalk.i64_in _ (by omega)]
 obtain⟨b1,b2,b3⟩:=g1Q e.args (fun a ha=>ih a ha (q a ha)) lim (1+(e.name.length:Int)) h0 h1 (by omega) (by omega)
 refine⟨by omega,b2,fun c=>?_⟩
 rw[b3 c,g0D]
 omega
abbrev C47:Int:=281474976711300
theorem g1S {s:St} (ho:StOk s) (hb:∀ lim n:Int,0≤lim→lim≤600→0≤n→n≤lim+C47→n≤g1N s.body lim n∧g1N s.body lim n≤lim+C47∧(g1N s.body lim n≤lim→g1N s.body lim n+(s.body.length:Int)=n+(g0E s.body:Int)))
  {lim n:Int} (h0:0≤lim) (h1:lim≤600) (h2:0≤n) (h3:n≤lim):n≤stW s lim n∧stW s lim n≤lim+C47∧(stW s lim n≤lim→stW s lim n+1=n+(wgS s:Int)):=by
 cases ho with|mk _ p1 p2 p3 p4 p5 p6 p7 p8 p =>
 have e47:(B47:Int)=140737488355328:=rfl
 have eC:C47=281474976711300:=rfl
 have p2':(s.name.length:Int)≤140737488355328:=by have:B47=140737488355328:=rfl;omega
 have p7':(s.body.length:Int)≤140737488355328:=by have:B47=140737488355328:=rfl;omega
 obtain⟨a1,a2,a3⟩:=g1R s.ex p4 lim h0 h1
 rw[g1O,IntWalk.i64_in (n+(s.name.length:Int)) (by omega),IntWalk.i64_in (n+(s.name.length:Int)+wM s.ex lim) (by omega),g0F]
 by_cases c:n+(s.name.length:Int)+wM s.ex lim≤lim
 ·rw[if_pos c,IntWalk.i64_in (lim - _) (by omega)]
  obtain⟨b1,b2,b3⟩:=hb (lim - (n+(s.name.length:Int)+wM s.ex lim)) (s.body.length:Int) (by omega) (by omega) (by omega) (by omega)
  rw[IntWalk.i64_in _ (by omega)]
  refine⟨by omega,by omega,fun q=>?_⟩
  have:=a3 (by omega)
  have:=b3 (by omega)
  omega
 ·rw[if_neg c]
  exact⟨by omega,by omega,fun q=>absurd q c⟩
theorem g1T:∀ (l:List St),(∀ a,a∈l→StOk a∧∀ lim n:Int,0≤lim→lim≤600→0≤n→n≤lim→n≤stW a lim n∧stW a lim n≤lim+C47∧(stW a lim n≤lim→stW a lim n+1=n+(wgS a:Int))) →
  ∀ lim n:Int,0≤lim→lim≤600→0≤n→n≤lim+C47→n≤g1N l lim n∧g1N l lim n≤lim+C47∧(g1N l lim n≤lim→g1N l lim n+(l.length:Int)=n+(g0E l:Int))
 |[],_,lim,n,h0,h1,h2,h3=>by
  rw[g1N,g0E]
  exact⟨Int.le_refl _,h3,fun _=>by simp⟩
 |a::r,h,lim,n,h0,h1,h2,h3=>by
  rw[g1N,g0E,g7L]
  by_cases c:n≤lim
  ·rw[if_pos c]
   obtain⟨a1,a2,a3⟩:=(h a g7Y).2 lim n h0 h1 h2 c
   obtain⟨b1,b2,b3⟩:=g1T r (fun x hx=>h x (g7X _ hx)) lim (stW a lim n) h0 h1 (by omega) a2
   refine⟨by omega,b2,fun q=>?_⟩
   have:=b3 q
   have:=a3 (by omega)
   omega
  ·rw[if_neg c]
   exact⟨Int.le_refl _,h3,fun q=>absurd q c⟩
theorem g1U:∀ s:St,StOk s→∀ lim n:Int,0≤lim→lim≤600→0≤n→n≤lim→n≤stW s lim n∧stW s lim n≤lim+C47∧(stW s lim n≤lim→stW s lim n+1=n+(wgS s:Int)):=by
 refine St.ind fun s ih ho lim n h0 h1 h2 h3=>?_
 have ho':=ho
 cases ho' with|mk _ p1 p2 p3 p4 p5 p6 p7 p8 p =>
 exact g1S ho (g1T s.body fun a ha=>⟨p a ha,ih a ha (p a ha)⟩) h0 h1 h2 h3
theorem g1V {l:List St} (hl:l.length≤B47) (h:∀ a,a∈l→StOk a):0≤g1N l 600 (l.length:Int)∧g1N l 600 (l.length:Int)≤600+C47∧(g1N l 600 (l.length:Int)≤600→g1N l 600 (l.length:Int)=(g0E l:Int)):=by
 have hl':(l.length:Int)≤140737488355328:=by have:B47=140737488355328:=rfl;omega
 have eC:C47=281474976711300:=rfl
 obtain⟨b1,b2,b3⟩:=g1T l (fun a ha=>⟨h a ha,g1U a (h a ha)⟩) 600 (l.length:Int) (by omega) (by omega) (by omega) (by omega)
 refine⟨by omega,b2,fun q=>?_⟩
 have:=b3 q
 omega
abbrev D47:Int:=4611686018427387904
theorem g1W:∀ (l:List Pa),(∀ a,a∈l→a.name.length≤B47)→∀ n:Int,0≤n→n≤D47→n≤paW l n∧paW l n≤D47∧(paW l n≤600→paW l n=n+(wgN l:Int))
 |[],_,n,h0,h1=>by rw[paW,wgN];exact⟨Int.le_refl _,h1,fun _=>by omega⟩
 |a::r,h,n,h0,h1=>by
  rw[paW,wgN]
  have ha:(a.name.length:Int)≤140737488355328:=by have:=h a g7Y;have:B47=140737488355328:=rfl;omega
  have eD:D47=4611686018427387904:=rfl
  by_cases c:n≤600
  ·rw[if_pos c,IntWalk.i64_in _ (by omega)]
   obtain⟨b1,b2,b3⟩:=g1W r (fun x hx=>h x (g7X _ hx)) (n+(a.name.length:Int)) (by omega) (by omega)
   exact⟨by omega,b2,fun q=>by have:=b3 q;omega⟩
  ·rw[if_neg c]
   exact⟨Int.le_refl _,h1,fun q=>absurd q c⟩
theorem g1X:∀ (l:List De),(∀ a,a∈l→a.name.length≤B47)→∀ n:Int,0≤n→n≤D47→n≤deW l n∧deW l n≤D47∧(deW l n≤600→deW l n=n+(wgD l:Int))
 |[],_,n,h0,h1=>by rw[deW,wgD];exact⟨Int.le_refl _,h1,fun _=>by omega⟩
 |a::r,h,n,h0,h1=>by
  rw[deW,wgD]
  have ha:(a.name.length:Int)≤140737488355328:=by have:=h a g7Y;have:B47=140737488355328:=rfl;omega
  have eD:D47=4611686018427387904:=rfl
  by_cases c:n≤600
  ·rw[if_pos c,IntWalk.i64_in _ (by omega)]
   obtain⟨b1,b2,b3⟩:=g1X r (fun x hx=>h x (g7X _ hx)) (n+(a.name.length:Int)) (by omega) (by omega)
   exact⟨by omega,b2,fun q=>by have:=b3 q;omega⟩
  ·rw[if_neg c]
   exact⟨Int.le_refl _,h1,fun q=>absurd q c⟩
theorem g1Y {f:Fu} (ho:FuOk f) {n:Int} (h0:0≤n) (h1:n≤600):n≤fuW f n∧fuW f n≤D47∧(fuW f n≤600→fuW f n=n+(wgF f:Int)):=by
 have eB:B47=140737488355328:=rfl
 have eB':(B47:Int)=140737488355328:=rfl
 have eC:C47=281474976711300:=rfl
 have eD:D47=4611686018427387904:=rfl
 have a1:=ho.name
 have a2:=ho.pl
 obtain⟨s1,s2,s3⟩:=g1V ho.bl ho.bo
 obtain⟨w1,w2,w3⟩:=g1R f.ret ho.ret 600 (by omega) (by omega)
 unfold fuW
 rw[IntWalk.i64_in (n+(f.name.length:Int)) (by omega),IntWalk.i64_in (n+(f.name.length:Int)+(f.params.length:Int)) (by omega),IntWalk.i64_in (n+(f.name.length:Int)+(f.params.length:Int)+g1N f.body 600 (f.body.length:Int)) (by omega),IntWalk.i64_in _ (by omega)]
 obtain⟨b1,b2,b3⟩:=g1W f.params (fun a ha=>(ho.pa a ha).1) (n+(f.name.length:Int)+(f.params.length:Int)+g1N f.body 600 (f.body.length:Int)+wM f.ret 600) (by omega) (by omega)
 refine⟨by omega,b2,fun q=>?_⟩
 have:=b3 q
 have:=s3 (by omega)
 have:=w3 (by omega)
 unfold wgF
 omega
theorem g1Z:∀ (l:List Fu),(∀ a,a∈l→FuOk a)→∀ n:Int,0≤n→n≤D47→n≤g1P l n∧g1P l n≤D47∧(g1P l n≤600→g1P l n=n+(g0G l:Int))
 |[],_,n,h0,h1=>by rw[g1P,g0G];exact⟨Int.le_refl _,h1,fun _=>by omega⟩
 |a::r,h,n,h0,h1=>by
  rw[g1P,g0G]
  by_cases c:n≤600
  ·rw[if_pos c]
   obtain⟨a1,a2,a3⟩:=g1Y (h a g7Y) h0 c
   obtain⟨b1,b2,b3⟩:=g1Z r (fun x hx=>h x (g7X _ hx)) (fuW a n) (by omega) a2
   exact⟨by omega,b2,fun q=>by have:=b3 q;have:=a3 (by omega);omega⟩
  ·rw[if_neg c]
   exact⟨Int.le_refl _,h1,fun q=>absurd q c⟩
theorem g2A {p:Pg} (ho:PgOk p) (h:smW p≤600):wgP p≤600:=by
 have eB:B47=140737488355328:=rfl
 have eC:C47=281474976711300:=rfl
 have eD:D47=4611686018427387904:=rfl
 have a1:=ho.fl
 have a2:=ho.dl
 obtain⟨s1,s2,s3⟩:=g1V ho.bl ho.bo
 unfold smW at h
 rw[IntWalk.i64_in (g1N p.body 600 (p.body.length:Int)+(p.decls.length:Int)) (by omega),IntWalk.i64_in _ (by omega)] at h
 obtain⟨f1,f2,f3⟩:=g1Z p.funcs ho.fo (g1N p.body 600 (p.body.length:Int)+(p.decls.length:Int)+(p.funcs.length:Int)) (by omega) (by omega)
 obtain⟨d1,d2,d3⟩:=g1X p.decls (fun a ha=>(ho.dok a ha).1) _ (by omega) f2
 have:=d3 h
 have:=f3 (by omega)
 have:=s3 (by omega)
 unfold wgP
 omega
theorem g2B {p:Pg} (h:wgP p≤600):(∀ f,f∈p.funcs→d3I f.body≤7800∧szE f.ret≤2400∧f.params.length≤600)∧p.funcs.length≤600∧p.decls.length≤600∧d3I p.body≤7800:=by
 unfold wgP at h
 refine⟨fun f hf=>?_,by omega,by omega,by have:=g0J p.body;omega⟩
 have h1:=g0K hf
 have h2:=g0J f.body
 have h3:=g0H f.ret
 unfold wgF at h1
 exact⟨by omega,by omega,by omega⟩
end Go.Ky
