/- LX 1: the lexer in plain words. No program in sight. -/
import Derived.Lib.Bytealg
import Derived.Lib.Index
set_option linter.unusedSimpArgs false
set_option linter.unusedVariables false
namespace Go.Lx
def d0L (c:UInt8):Bool:=decide (97≤c)&&decide (c≤122)
def d0M (c:UInt8):Bool:=decide (48≤c)&&decide (c≤57)
def d0N (c:UInt8):Bool:=d0L c || d0M c || c == 95
def d0O (c:UInt8):Bool:=c == 32 || c == 9 || c == 13 || c == 10
def d0P (p:UInt8→Bool):List UInt8→Nat
 |[]=>0
 |c::r=>if p c then d0P p r+1 else 0
def d0Q:Bool→List UInt8→Nat
 |_,[]=>0
 |true,c::r=>d0Q (c != 10) r+1
 |false,c::r=>if d0O c then d0Q false r+1 else if c == 45&&r.head? == some 45 then d0Q true r+1 else 0
abbrev gap (s:List UInt8):Nat:=d0Q false s
def keywords:List (List UInt8) :=
 [[97,110,100],[97,115,115,101,114,116],[98,111,111,108],[102,97,108,115,101],[102,105,101,108,100],[102,110],[102,111,114],[104,97,115,104],[105,110],
  [108,101,116],[110,111,116],[111,114],[112,117,98,108,105,99],[114,101,116,117,114,110],[115,101,99,114,101,116],[116,114,117,101],[117,105,110,116]]
def d0R (c d:UInt8):Bool:=(c == 46&&d == 46) || (c == 61&&d == 61) || (c == 33&&d == 61) || (c == 60&&d == 61)
def d0S (c:UInt8):List UInt8→Bool
 |[]=>false
 |d::_=>d0R c d
def singles:List UInt8:=[40,41,123,125,91,93,44,59,58,63,61,60,43,45,42]
def d0T (c:UInt8):Bool:=singles.contains c
def d0U (l:List UInt8):Nat:=l.foldl (fun n c=>10 * n+(c.toNat - 48)) 0
structure Tok where
 kind:Nat
 text:List UInt8
 val:Nat
 pos:Nat
inductive Nx where
 |err (e:Nat)
 |ok (k n v:Nat)
def d0V (s:List UInt8):Nx :=
 if keywords.contains (s.take (d0P d0N s)) then .ok 2 (d0P d0N s) 0 else if 24 < d0P d0N s then .err 3 else .ok 1 (d0P d0N s) 0
def d0W (s:List UInt8):Nx :=
 if s.head?=some 48∧1 < d0P d0M s then .err 2 else if 18446744073709551615 < d0U (s.take (d0P d0M s)) then .err 3 else .ok 3 (d0P d0M s) (d0U (s.take (d0P d0M s)))
def next:List UInt8→Nx
 |[]=>.err 2
 |c::r=>if d0L c then d0V (c::r) else if d0M c then d0W (c::r) else if d0S c r then .ok 4 2 0 else if d0T c then .ok 4 1 0 else .err 2
inductive Res where
 |toks (l:List Tok)
 |err (p e:Nat)
def Res.cons (t:Tok):Res→Res
 |.toks l=>.toks (t::l)
 |.err p e=>.err p e
def d0X (pos:Nat) (s:List UInt8):Res :=
 match _h:s.drop (gap s) with
 |[]=>.toks [⟨0,[],0,pos+s.length⟩]
 |c::r=>match next (c::r) with
  |.err e=>.err (pos+gap s) e
  |.ok k n v=>(d0X (pos+gap s+(n - 1+1)) (r.drop (n - 1))).cons ⟨k,(c::r).take n,v,pos+gap s⟩
termination_by s.length
decreasing_by
 have h1:=congrArg List.length _h
 simp only[List.length_drop,List.length_cons] at h1 ⊢
 omega
theorem d0Y:∀ (s:List UInt8) (m:Bool),d0Q m s≤s.length:=by
 intro s
 induction s with
 |nil=>intro m;cases m <;> simp [d0Q]
 |cons c r ih =>
  intro m
  cases m with
  |true=>have:=ih (c != 10);simp only[d0Q,List.length_cons];omega
  |false =>
   have h1:=ih false
   have h2:=ih true
   simp only[d0Q,List.length_cons]
   split
   ·omega
   ·split <;> omega
theorem d0Z:∀ (s:List UInt8) (m:Bool),d0Q m (s.take (d0Q m s))=d0Q m s:=by
 intro s
 induction s with
 |nil=>intro m;simp
 |cons c r ih =>
  intro m
  cases m with
  |true=>simp only[d0Q,List.take_succ_cons];rw[ih]
  |false =>
   simp only[d0Q]
   split
   ·rename_i hb
    simp only[List.take_succ_cons,d0Q,if_pos hb]
    rw[ih]
   ·rename_i hb
    split
    ·rename_i hc
     have hc':(c == 45&&(r.take (d0Q true r)).head? == some 45)=true:=by
      cases r with
      |nil=>simp at hc
      |cons d r=>simpa [d0Q] using hc
     simp only[List.take_succ_cons,d0Q,if_neg hb,if_pos hc']
     rw[ih]
    ·simp [d0Q]
theorem d1A (p:UInt8→Bool):∀ (s:List UInt8),d0P p s≤s.length:=by
 intro s
 induction s with
 |nil=>simp [d0P]
 |cons c r ih=>simp only[d0P,List.length_cons];split <;> omega
theorem d1B (p:UInt8→Bool):∀ (s:List UInt8) (c:UInt8),c∈s.take (d0P p s)→p c=true:=by
 intro s
 induction s with
 |nil=>intro c h;simp at h
 |cons x r ih =>
  intro c h
  simp only[d0P] at h
  split at h
  ·rename_i hx
   simp only[List.take_succ_cons,List.mem_cons] at h
   rcases h with rfl|h
   ·exact hx
   ·exact ih c h
  ·simp at h
theorem d1C {s:List UInt8} {k n v:Nat} (h:next s=.ok k n v):1≤n∧n≤s.length:=by
 cases s with
 |nil=>simp [next] at h
 |cons c r =>
  have l1:=d1A d0N (c::r)
  have l2:=d1A d0M (c::r)
  simp only[next] at h
  split at h
  ·rename_i hl
   have hp:1≤d0P d0N (c::r):=by simp [d0P,d0N,hl]
   simp only[d0V] at h
   split at h
   ·injection h;omega
   ·split at h
    ·cases h
    ·injection h;omega
  ·split at h
   ·rename_i hl
    have hp:1≤d0P d0M (c::r):=by simp [d0P,hl]
    simp only[d0W] at h
    split at h
    ·cases h
    ·split at h
     ·cases h
     ·injection h;omega
   ·split at h
    ·rename_i hp
     have:1≤r.length:=by cases r with
      |nil=>simp [d0S] at hp
      |cons d r=>simp
     injection h
     simp only[List.length_cons];omega
    ·split at h
     ·injection h;simp only[List.length_cons];omega
     ·cases h
theorem d1D {pos:Nat} {s:List UInt8} (h:gap s=s.length):d0X pos s=.toks [⟨0,[],0,pos+s.length⟩]:=by
 rw[d0X]
 split
 ·rfl
 ·rename_i c r hd
  rw[h,List.drop_length] at hd
  cases hd
theorem d1E {pos:Nat} {s:List UInt8} (h:gap s < s.length) {e:Nat} (hn:next (s.drop (gap s))=.err e):d0X pos s=.err (pos+gap s) e:=by
 rw[d0X]
 split
 ·rename_i hd
  have:=congrArg List.length hd
  simp only[List.length_drop,List.length_nil] at this
  omega
 ·rename_i c r hd
  rw[hd] at hn
  rw[hn]
theorem d1F {pos:Nat} {s:List UInt8} (h:gap s < s.length) {k n v:Nat} (hn:next (s.drop (gap s))=.ok k n v) :
  d0X pos s=(d0X (pos+gap s+n) (s.drop (gap s+n))).cons ⟨k,(s.drop (gap s)).take n,v,pos+gap s⟩:=by
 have hp:=d1C hn
 rw[d0X]
 split
 ·rename_i hd
  have:=congrArg List.length hd
  simp only[List.length_drop,List.length_nil] at this
  omega
 ·rename_i c r hd
  obtain⟨m,rfl⟩:∃ m,n=m+1:=⟨n - 1,by omega⟩
  have e:s.drop (gap s+(m+1))=r.drop m:=by rw[←List.drop_drop,hd,List.drop_succ_cons]
  rw[e]
  rw[hd] at hn
  rw[hn,hd]
  simp only[Nat.add_sub_cancel]
theorem d1G (s:List UInt8):gap s=s.length∨(gap s < s.length∧((∃ e,next (s.drop (gap s))=.err e)∨∃ k n v,next (s.drop (gap s))=.ok k n v)):=by
 have h1:=d0Y s false
 rcases Nat.lt_or_ge (gap s) s.length with h|h
 ·right
  refine⟨h,?_⟩
  cases hn:next (s.drop (gap s)) with
  |err e=>exact .inl ⟨e,rfl⟩
  |ok k n v=>exact .inr ⟨k,n,v,rfl⟩
 ·left;exact Nat.le_antisymm h1 h
def d1H (d:Nat) (t:Tok):Tok:={ t with pos:=t.pos+d }
def Res.shift (d:Nat):Res→Res
 |.toks l=>.toks (l.map (d1H d))
 |.err p e=>.err (p+d) e
def Res.app (l:List Tok):Res→Res
 |.toks m=>.toks (l++m)
 |.err p e=>.err p e
def Res.then (r:Res) (q:Res):Res :=
 match r with
 |.toks l=>q.app l.dropLast
 |.err p e=>.err p e
theorem d1I {s:List UInt8} {pos:Nat} {l:List Tok} (h:d0X pos s=.toks l):l≠[]:=by
 rcases d1G s with h1|⟨h1,⟨e,hn⟩|⟨k,m,v,hn⟩⟩
 ·rw[d1D h1] at h;injection h with h;subst h;simp
 ·rw[d1E h1 hn] at h;cases h
 ·rw[d1F h1 hn] at h
  cases hq:d0X (pos+gap s+m) (s.drop (gap s+m)) with
  |toks m=>rw[hq] at h;injection h with h;subst h;simp
  |err p e=>rw[hq] at h;cases h
end Go.Lx

/- LX 2: tokens joined again; numbers. No program in sight. -/
namespace Go.Lx
structure IsGap (g:List UInt8):Prop where
 head:∃ b g',g=b::g'∧d0O b=true
 skip:∀ x,d0Q false (g++x)=g.length+d0Q false x
def like (a b:Tok):Prop:=a.kind=b.kind∧a.text=b.text∧a.val=b.val
def Alike:List Tok→List Tok→Prop
 |[],[]=>True
 |a::l,b::m=>like a b∧Alike l m
 |_,_=>False
theorem d1J:∀ l,Alike l l:=by
 intro l
 induction l with
 |nil=>trivial
 |cons a l ih=>exact⟨⟨rfl,rfl,rfl⟩,ih⟩
theorem d1K:∀ {a b c d:List Tok},Alike a b→Alike c d→Alike (a++c) (b++d):=by
 intro a
 induction a with
 |nil=>intro b c d h1 h2;cases b with
  |nil=>exact h2
  |cons x b=>cases h1
 |cons x a ih=>intro b c d h1 h2;cases b with
  |nil=>cases h1
  |cons y b=>exact⟨h1.1,ih h1.2 h2⟩
theorem d1L:∀ {a b:List Tok},Alike a b→a.length=b.length:=by
 intro a
 induction a with
 |nil=>intro b h1;cases b with
  |nil=>rfl
  |cons x b=>cases h1
 |cons x a ih=>intro b h1;cases b with
  |nil=>cases h1
  |cons y b=>simp [ih h1.2]
def d1M (u:Nat):List UInt8 :=
 if _h:u < 10 then [UInt8.ofNat (48+u)] else d1M (u / 10)++[UInt8.ofNat (48+u % 10)]
termination_by u
decreasing_by omega
theorem d1N {u:Nat} (h:u < 10):d1M u=[UInt8.ofNat (48+u)]:=by rw[d1M,dif_pos h]
theorem d1O {u:Nat} (h:¬u < 10):d1M u=d1M (u / 10)++[UInt8.ofNat (48+u % 10)]:=by rw[d1M,dif_neg h]
theorem d1P {d:Nat} (h:d < 10):(UInt8.ofNat (48+d)).toNat=48+d:=by rw[UInt8.toNat_ofNat'];omega
theorem d1Q {d:Nat} (h:d < 10):d0M (UInt8.ofNat (48+d))=true:=by
 have:=d1P h
 simp only[d0M,Bool.and_eq_true,decide_eq_true_eq,UInt8.le_iff_toNat_le,this]
 exact⟨by show 48≤_;omega,by show _≤57;omega⟩
theorem d1R:∀ (u:Nat) (c:UInt8),c∈d1M u→d0M c=true:=by
 intro u
 induction u using Nat.strongRecOn with
 |_ u ih =>
  intro c hc
  by_cases h:u < 10
  ·rw[d1N h] at hc
   simp only[List.mem_cons,List.not_mem_nil,or_false] at hc
   subst hc
   exact d1Q h
  ·rw[d1O h] at hc
   rcases List.mem_append.1 hc with hc|hc
   ·exact ih (u / 10) (by omega) c hc
   ·simp only[List.mem_cons,List.not_mem_nil,or_false] at hc
    subst hc
    exact d1Q (by omega)
theorem d1S (l:List UInt8) (c:UInt8):d0U (l++[c])=10 * d0U l+(c.toNat - 48):=by simp [d0U]
theorem d1T:∀ (u:Nat),d0U (d1M u)=u:=by
 intro u
 induction u using Nat.strongRecOn with
 |_ u ih =>
  by_cases h:u < 10
  ·rw[d1N h]
   simp only[d0U,List.foldl_cons,List.foldl_nil,d1P h]
   omega
  ·rw[d1O h,d1S,ih (u / 10) (by omega),d1P (by omega)]
   omega
theorem d1U (u:Nat):d1M u≠[]:=by
 by_cases h:u < 10
 ·rw[d1N h];simp
 ·rw[d1O h];simp
theorem d1V:∀ (u:Nat),0 < u→(d1M u).head?≠some 48:=by
 intro u
 induction u using Nat.strongRecOn with
 |_ u ih =>
  intro h0
  by_cases h:u < 10
  ·rw[d1N h]
   simp only[List.head?_cons,ne_eq,Option.some.injEq]
   intro e
   have:=congrArg UInt8.toNat e
   rw[d1P h] at this
   have:(48+u)=48:=this
   omega
  ·rw[d1O h]
   have hne:=d1U (u / 10)
   cases hd:d1M (u / 10) with
   |nil=>exact absurd hd hne
   |cons c r =>
    have:=ih (u / 10) (by omega) (by omega)
    rw[hd] at this
    exact this
theorem d1W:∀ (k u:Nat),u < 10 ^ (k+1)→(d1M u).length≤k+1:=by
 intro k
 induction k with
 |zero=>intro u h;rw[d1N (by simpa using h)];simp
 |succ k ih =>
  intro u h
  by_cases h':u < 10
  ·rw[d1N h'];simp
  ·rw[d1O h',List.length_append]
   have:u / 10 < 10 ^ (k+1):=by rw[Nat.pow_succ] at h;omega
   have:=ih _ this
   simp only[List.length_cons,List.length_nil];omega
theorem d1X {u:Nat} (h:1 < (d1M u).length):0 < u:=by
 rcases Nat.eq_zero_or_pos u with e|e
 ·subst e;rw[d1N (by omega)] at h;simp at h
 ·exact e
theorem d1Y {c:UInt8} (h:d0M c=true):d0O c=false∧c≠45:=by
 simp only[d0M,Bool.and_eq_true,decide_eq_true_eq,UInt8.le_iff_toNat_le] at h
 have h1:48≤c.toNat:=h.1
 constructor
 ·simp only[d0O,Bool.or_eq_false_iff,beq_eq_false_iff_ne]
  refine⟨⟨⟨?_,?_⟩,?_⟩,?_⟩ <;> (intro e;subst e;exact absurd h1 (by decide))
 ·intro e;subst e;exact absurd h1 (by decide)
end Go.Lx

/- LX 3: what the code reckons, in plain words: values, symbols, lists of names. No program in sight. -/
namespace Go.Lx
def d1Z (n:Nat) (l:List UInt8):Nat:=l.foldl (fun n c=>10 * n+(c.toNat - 48)) n
theorem d2A (l:List UInt8):d1Z 0 l=d0U l:=by simp only[d1Z,d0U]
theorem d2B (n:Nat) (c:UInt8) (l:List UInt8):d1Z n (c::l)=d1Z (10 * n+(c.toNat - 48)) l:=by simp only[d1Z,List.foldl_cons]
theorem d2C (n:Nat):d1Z n []=n:=rfl
theorem d2D:∀ (l:List UInt8) (n:Nat),n≤d1Z n l:=by
 intro l
 induction l with
 |nil=>intro n;exact Nat.le_refl _
 |cons c l ih=>intro n;rw[d2B];have:=ih (10 * n+(c.toNat - 48));omega
theorem d2E {c:UInt8} (h:d0M c=true):48≤c.toNat∧c.toNat≤57:=by
 simp only[d0M,Bool.and_eq_true,decide_eq_true_eq,UInt8.le_iff_toNat_le] at h
 exact h
def d2F:List UInt8:=[32,46,46,32,61,61,32,33,61,32,60,61,32]
theorem d2G (a b:UInt8):(decide (0≤Lib.index d2F [32,a,b,32]))=d0R a b:=by
 simp only[d2F,Lib.index,List.isPrefixOf,List.isEmpty_cons,d0R]
 have f1:((32:UInt8) == 32)=true:=rfl
 have f2:((32:UInt8) == 46)=false:=rfl
 have f3:((32:UInt8) == 61)=false:=rfl
 have f4:((32:UInt8) == 33)=false:=rfl
 have f5:((32:UInt8) == 60)=false:=rfl
 simp only[f1,f2,f3,f4,f5,Bool.true_and,Bool.and_true,Bool.and_false,Bool.false_eq_true,if_false]
 by_cases h1:a=46∧b=46
 ·obtain⟨rfl,rfl⟩:=h1;decide
 ·by_cases h2:a=61∧b=61
  ·obtain⟨rfl,rfl⟩:=h2;decide
  ·by_cases h3:a=33∧b=61
   ·obtain⟨rfl,rfl⟩:=h3;decide
   ·by_cases h4:a=60∧b=61
    ·obtain⟨rfl,rfl⟩:=h4;decide
    ·have g1:(a == 46&&b == 46)=false:=by simpa using h1
     have g2:(a == 61&&b == 61)=false:=by simpa using h2
     have g3:(a == 33&&b == 61)=false:=by simpa using h3
     have g4:(a == 60&&b == 61)=false:=by simpa using h4
     simp only[g1,g2,g3,g4,Bool.or_self,Bool.false_eq_true,if_false]
     decide
theorem d2H (c:UInt8):(decide (0≤Lib.indexByte singles c))=d0T c:=by
 have key:∀ l:List UInt8,decide (0≤Lib.indexByte l c)=l.contains c:=by
  intro l
  induction l with
  |nil=>rfl
  |cons b l ih =>
   have hg:=Lib.indexByte_ge l c
   rw[List.contains_cons,←ih,Lib.indexByte]
   by_cases h:b=c
   ·subst h;simp
   ·have h1:(b == c)=false:=by simpa using h
    have h2:(c == b)=false:=by simpa using fun e:c=b=>h e.symm
    rw[h1,h2]
    simp only[Bool.false_eq_true,if_false,Bool.false_or,beq_iff_eq]
    split
    ·rename_i e;rw[e]
    ·congr 1;apply propext;omega
 exact key singles
end Go.Lx
