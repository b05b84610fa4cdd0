/- PI 20: which operations may change places. -/
import Derived.Test.YtdjcnfacjfnakaaGreatPi19
set_option linter.unusedSimpArgs false
set_option linter.unusedVariables false
namespace Go.Pi
variable {gl:Nat->Option (List T)} {C:Cal} {dr:Bool}
theorem b0B (fr:List PV) (i j:Nat) (x y:PV) (h:i≠j):a0B (a0B fr i x) j y=a0B (a0B fr j y) i x:=by
 induction fr generalizing i j with
 |nil =>
  induction i generalizing j with
  |zero=>cases j with
   |zero=>exact absurd rfl h
   |succ j=>simp [a0B]
  |succ i ih=>cases j with
   |zero=>simp [a0B]
   |succ j=>simp only[a0B,g5D,true_and];exact ih j (λe=>h (by rw[e]))
 |cons z r ih =>
  cases i with
  |zero=>cases j with
   |zero=>exact absurd rfl h
   |succ j=>simp [a0B]
  |succ i=>cases j with
   |zero=>simp [a0B]
   |succ j=>simp only[a0B,g5D,true_and];exact ih i j (λe=>h (by rw[e]))
theorem b0C (fr:List PV) (i j:Option Nat) (x y:PV) (h:a2Y i j.toList=true):put (put fr i x) j y=put (put fr j y) i x:=by
 cases i with
 |none=>rfl
 |some i=>cases j with
  |none=>rfl
  |some j =>
   simp [a2Y] at h
   exact b0B fr i j x y h
theorem b0D (fr:List PV) (d:Option Nat) (x:PV) (l:List Nat) (h:a2Y d l=true) (k:Nat) (hk:k∈l):a0A (put fr d x) k=a0A fr k:=by
 cases d with
 |none=>rfl
 |some d =>
  simp only[a2Y,Bool.not_eq_true',List.contains_eq_mem,g7J] at h
  exact a1Q fr d k x (λe=>h (e ▸ hk))
def Agree (fr fr':List PV) (l:List Nat):Prop:=∀ k∈l,a0A fr k=a0A fr' k
theorem Agree.left {fr fr':List PV} {l m:List Nat} (h:Agree fr fr' (l++m)):Agree fr fr' l:=λk hk=>h k (List.mem_append_left _ hk)
theorem Agree.right {fr fr':List PV} {l m:List Nat} (h:Agree fr fr' (l++m)):Agree fr fr' m:=λk hk=>h k (List.mem_append_right _ hk)
theorem b0E {fr fr':List PV} (x:Opd) (h:Agree fr fr' x.rd):x.ev fr=x.ev fr':=by
 cases x with
 |s k=>exact h k (by simp [Opd.rd])
 |c v=>rfl
theorem b0F {fr fr':List PV} (x:Option Opd) (h:Agree fr fr' (a2X x)):x.map (Opd.ev fr)=x.map (Opd.ev fr'):=by
 cases x with
 |none=>rfl
 |some x=>simp only[g7F,b0E x h]
theorem b0G {fr fr':List PV} (xs:List Opd) (h:Agree fr fr' (xs.flatMap Opd.rd)):xs.map (Opd.ev fr)=xs.map (Opd.ev fr') :=
 List.map_congr_left λx hx=>b0E x λk hk=>h k (List.mem_flatMap.2 ⟨x,hx,hk⟩)
theorem b0H (q:O) (fr fr':List PV) (sg:Sg) (ow:Ow) (h:Agree fr fr' q.rds):a1F C gl dr q ⟨fr,sg,ow⟩=a1F C gl dr q ⟨fr',sg,ow⟩:=by
 cases q <;> simp only[O.rds] at h <;> simp only[a1F]
 case mov a=>rw[b0E a h]
 case pick c a b=>rw[b0E c h.left,b0E a h.right.left,b0E b h.right.right]
 case box a=>rw[b0E a h]
 case build zs ps =>
  have:(ps.map λp=>(p.1,p.2.1,p.2.2.ev fr))=ps.map λp=>(p.1,p.2.1,p.2.2.ev fr') :=
   List.map_congr_left λp hp=>by rw[b0E p.2.2 λk hk=>h k (List.mem_flatMap.2 ⟨p,hp,hk⟩)]
  rw[this]
 case bsl sz len z ps =>
  have:(ps.map λp=>(p.1 * sz,sz,p.2.ev fr))=ps.map λp=>(p.1 * sz,sz,p.2.ev fr') :=
   List.map_congr_left λp hp=>by rw[b0E p.2 λk hk=>h k (List.mem_flatMap.2 ⟨p,hp,hk⟩)]
  rw[this]
 case load ag n a=>rw[b0E a h]
 case store n a v=>rw[b0E a h.left,b0E v h.right]
 case nck a=>rw[b0E a h]
 case bin op a b=>rw[b0E a h.left,b0E b h.right]
 case eqv ng ag ks a b=>rw[b0E a h.left,b0E b h.right]
 case isn ng kd a=>rw[b0E a h]
 case un op a=>rw[b0E a h]
 case cvi k a=>rw[b0E a h]
 case mks sz by_ z l c=>rw[b0E l h.left,b0E c h.right]
 case mkz sz by_ z l c=>rw[b0E l h.left,b0E c h.right]
 case slc sz a lo hi mx=>rw[b0E a h.left,b0F lo h.right.left,b0F hi h.right.right.left,b0F mx h.right.right.right]
 case fad off a=>rw[b0E a h]
 case fld ag off n a=>rw[b0E a h]
 case iaa n sz a i=>rw[b0E a h.left,b0E i h.right]
 case ias sz a i=>rw[b0E a h.left,b0E i h.right]
 case ixa ag n sz a i=>rw[b0E a h.left,b0E i h.right]
 case ixs a i=>rw[b0E a h.left,b0E i h.right]
 case ext k a=>rw[b0E a h]
 case call f as=>rw[b0G as h]
 case cale f as=>rw[b0G as h]
 case calv g as=>rw[b0E g h.left,b0G as h.right]
 case len st a=>rw[b0E a h]
 case app sz by_ a b=>rw[b0E a h.left,b0E b h.right]
 case mkf f caps=>rw[b0G caps h]
 case xt k as=>rw[b0G as h]
 case mlk ck kd z a i=>rw[b0E a h.left,b0E i h.right]
 case mup kd a k v=>rw[b0E a h.left,b0E k h.right.left,b0E v h.right.right]
 case mdl kd a k=>rw[b0E a h.left,b0E k h.right]
 case mxn mx a b=>rw[b0E a h.left,b0E b h.right]
 case apb sz by_ a b=>rw[b0E a h.left,b0E b h.right]
 case ldk ag n a k=>rw[b0E a h.left,show a0A fr k=a0A fr' k from h.right k (by simp)]
 case ldt ag n a=>rw[b0E a h]
 case calk f as ks =>
  rw[b0G as h.left]
  have:∀ sg',a1B fr ks sg sg'=a1B fr' ks sg sg':=λsg'=>by
   unfold a1B
   congr 1
   unfold a1A
   apply propext
   constructor
   ·intro hk k hm
    obtain⟨id,off,h1,h2⟩:=hk k hm
    exact⟨id,off,(h.right k hm) ▸ h1,h2⟩
   ·intro hk k hm
    obtain⟨id,off,h1,h2⟩:=hk k hm
    exact⟨id,off,(h.right k hm).trans h1,h2⟩
  split
  ·rw[this]
  ·rfl
 case calz f as ks =>
  rw[b0G as h.left]
  have:∀ sg',a1B fr ks sg sg'=a1B fr' ks sg sg':=λsg'=>by
   unfold a1B
   congr 1
   unfold a1A
   apply propext
   constructor
   ·intro hk k hm
    obtain⟨id,off,h1,h2⟩:=hk k hm
    exact⟨id,off,(h.right k hm) ▸ h1,h2⟩
   ·intro hk k hm
    obtain⟨id,off,h1,h2⟩:=hk k hm
    exact⟨id,off,(h.right k hm).trans h1,h2⟩
  simp only[this]
 case bldz zs ps =>
  have:(ps.map λp=>p.2.2.ev fr)=ps.map λp=>p.2.2.ev fr' :=
   List.map_congr_left λp hp=>by rw[b0E p.2.2 λk hk=>h k (List.mem_flatMap.2 ⟨p,hp,hk⟩)]
  rw[this]
 case stok n a v ks =>
  rw[b0E a h.left,b0E v h.right.left]
  have:∀ sg',a1B fr ks sg sg'=a1B fr' ks sg sg':=λsg'=>by
   unfold a1B
   congr 1
   unfold a1A
   apply propext
   constructor
   ·intro hk k hm
    obtain⟨id,off,h1,h2⟩:=hk k hm
    exact⟨id,off,(h.right.right k hm) ▸ h1,h2⟩
   ·intro hk k hm
    obtain⟨id,off,h1,h2⟩:=hk k hm
    exact⟨id,off,(h.right.right k hm).trans h1,h2⟩
  split
  ·rw[this]
  ·rfl
theorem b0I {v:Option PV} {sg sg1:Sg} {ow ow1:Ow}:(v.map λv=>(v,sg,ow))=((v.map λv=>(v,sg1,ow1)).map λp=>p.1).map λv=>(v,sg,ow):=by
 cases v <;> rfl
theorem b0J (q:O) (hq:cls q=0) (fr:List PV) (sg sg1:Sg) (ow ow1:Ow):a1F C gl true q ⟨fr,sg,ow⟩=((a1F C gl true q ⟨fr,sg1,ow1⟩).map (·.1)).map λv=>(v,sg,ow):=by
 cases q <;> first|(simp [cls] at hq;done)|simp only[a1F,if_true]
 case pick c a b=>split <;> first|exact b0I|rfl
 case bsl sz len z ps =>
  split
  ·rename_i cs _
   cases cs.mapM a0L <;> rfl
  ·rfl
 case mkz sz by_ z l c=>split <;> first|(split <;> first|exact b0I|rfl)|rfl
 case cvi k a=>split <;> first|exact b0I|rfl
 case ext k a=>split <;> first|exact b0I|rfl
 case call f as =>
  split
  ·split
   ·split <;> first|exact b0I|rfl
   ·rfl
  ·rfl
 case xt k as=>split <;> first|exact b0I|rfl
 all_goals first|exact b0I|rfl
theorem b0K (q:O) (hq:cls q<=1) {fr:List PV} {sg:Sg} {ow:Ow} {v:PV} {sg':Sg} {ow':Ow} (h:a1F C gl true q ⟨fr,sg,ow⟩=some (v,sg',ow')):sg'=sg/\ow'=ow:=by
 rcases g6X (cls q) 1 with h0|h1
 ·rw[b0J q (by omega) fr sg [] ow []] at h
  simp only[g7E] at h
  obtain⟨_,_,he⟩:=h
  injection he with _ e2
  injection e2 with e2 e3
  exact⟨e2.symm,e3.symm⟩
 ·cases q <;> simp only[cls,Nat.reduceLeDiff,ge_iff_le,g6U] at hq h1
  case load ag n a =>
   simp only[a1F,g7E] at h
   obtain⟨_,_,he⟩:=h
   injection he with _ e2
   injection e2 with e2 e3
   exact⟨e2.symm,e3.symm⟩
  case mlk ck kd z a i =>
   simp only[a1F,g7E] at h
   obtain⟨_,_,he⟩:=h
   injection he with _ e2
   injection e2 with e2 e3
   exact⟨e2.symm,e3.symm⟩
  case ldk ag n a k =>
   simp only[a1F,g7E] at h
   obtain⟨_,_,he⟩:=h
   injection he with _ e2
   injection e2 with e2 e3
   exact⟨e2.symm,e3.symm⟩
noncomputable def b0L (C:Cal) (gl:Nat->Option (List T)) (dr:Bool) (i:Ins) (fr:List PV) (sg:Sg) (ow:Ow):Option (PV×Sg×Ow) :=
 if wanted fr i.g then a1F C gl dr i.o ⟨fr,sg,ow⟩ else some (und,sg,ow)
theorem b0M (i:Ins) (s:S):a1G C gl dr i s=(b0L C gl dr i s.fr s.sg s.ow).map λr=>⟨put s.fr i.d r.1,r.2.1,r.2.2⟩:=by
 unfold a1G b0L
 split
 ·cases a1F C gl dr i.o s <;> rfl
 ·rfl
theorem b0N {g:Option (Nat×Bool)} {fr fr':List PV} (h:∀ k b,g=some (k,b)->a0A fr k=a0A fr' k):wanted fr g=wanted fr' g:=by
 cases g with
 |none=>rfl
 |some p =>
  obtain⟨k,b⟩:=p
  simp only[wanted]
  rw[h k b rfl]
theorem b0O (i:Ins) (fr fr':List PV) (sg:Sg) (ow:Ow) (h:Agree fr fr' i.rds):b0L C gl dr i fr sg ow=b0L C gl dr i fr' sg ow:=by
 unfold b0L
 have hw:wanted fr i.g=wanted fr' i.g:=b0N λk b hg=>h k (by unfold Ins.rds;rw[hg];simp)
 have ho:Agree fr fr' i.o.rds:=λk hk=>h k (by unfold Ins.rds;split <;> simp [hk])
 rw[hw,b0H i.o fr fr' sg ow ho]
theorem b0P (i:Ins) (hq:cls i.o=0) (fr:List PV) (sg sg1:Sg) (ow ow1:Ow):b0L C gl true i fr sg ow=((b0L C gl true i fr sg1 ow1).map (·.1)).map λv=>(v,sg,ow):=by
 unfold b0L
 split
 ·exact b0J i.o hq fr sg sg1 ow ow1
 ·rfl
theorem b0Q (i:Ins) (hq:cls i.o<=1) {fr:List PV} {sg:Sg} {ow:Ow} {v:PV} {sg':Sg} {ow':Ow} (h:b0L C gl true i fr sg ow=some (v,sg',ow')):sg'=sg/\ow'=ow:=by
 unfold b0L at h
 split at h
 ·exact b0K i.o hq h
 ·injection h with h
  injection h with _ h
  injection h with h1 h2
  exact⟨h1.symm,h2.symm⟩
theorem b0R {sg r:Sg} {id:Nat} {x:Bool×List PV} (h:sg[id]?=some x):(sg++r)[id]?=some x:=by
 rw[g5J (g5O.1 h).1]
 exact h
theorem b0S {sg r:Sg} {ag:Bool} {n:Nat} {v x:PV} (h:loadP gl sg ag n v=some x):loadP gl (sg++r) ag n v=some x:=by
 cases v with
 |lp id off =>
  simp only[loadP] at h ⊢
  split at h
  ·rename_i cs hs
   rw[b0R hs]
   exact h
  ·cases h
 |_=>exact h
theorem b0T {sg r:Sg} {sz id off len sz':Nat} {es:List (List T)} (h:a0J sg sz id off len sz'=some es):a0J (sg++r) sz id off len sz'=some es:=by
 unfold a0J at h ⊢
 split at h
 ·rename_i he
  rw[if_pos he]
  split at h
  ·rename_i cs hs
   rw[b0R hs]
   exact h
  ·cases h
 ·cases h
theorem b0U {sg r:Sg} {sz:Nat} {v:PV} {es:List (List T)} (h:a0K sg sz v=some es):a0K (sg++r) sz v=some es:=by
 cases v with
 |ls id off len sz'=>exact b0T h
 |bf id len sz'=>exact b0T h
 |_=>exact h
theorem b0V {sg r:Sg} {ck:Bool} {kd:Nat} {z:T} {a k v:PV} (h:a0W sg ck kd z a k=some v):a0W (sg++r) ck kd z a k=some v:=by
 unfold a0W at h ⊢
 split at h
 ·rename_i id k
  split at h
  ·rename_i es hs
   rw[b0R hs]
   exact h
  ·cases h
 ·cases h
theorem b0W {sg r:Sg} {ag:Bool} {n:Nat} {b v x:PV} (h:a1C gl sg ag n b v=some x):a1C gl (sg++r) ag n b v=some x:=by
 unfold a1C at h ⊢
 split at h
 ·split at h
  ·split at h
   ·rename_i he
    rw[if_pos he]
    have hx:∀ {i:Nat},lenS (sg++r)[i]?=lenS sg[i]?\/sg[i]?=none:=λ{i}=>by
     rcases g6X i sg.length with hl|hl
     ·left;rw[g5J hl]
     ·right;exact g5N hl
    rcases hx with hx|hx
    ·rw[hx]
     split at h
     ·rename_i hn
      rw[if_pos hn]
      split at h
      ·rename_i h2
       rw[if_pos h2]
       exact b0S h
      ·cases h
     ·rename_i hn
      rw[if_neg hn]
      exact b0S h
    ·simp [loadP,hx] at h
   ·cases h
  ·cases h
 ·cases h
theorem b0X (p:O) (hp:cls p<=1) {fr:List PV} {sg r:Sg} {ow ow':Ow} {v:PV} (h:a1F C gl true p ⟨fr,sg,ow⟩=some (v,sg,ow)):a1F C gl true p ⟨fr,sg++r,ow'⟩=some (v,sg++r,ow'):=by
 rcases g6X (cls p) 1 with h0|h1
 ·rw[b0J p (by omega) fr (sg++r) sg ow' ow,h]
  rfl
 ·cases p <;> simp only[cls,Nat.reduceLeDiff,ge_iff_le,g6U] at hp h1
  case load ag n a =>
   simp only[a1F,g7E,Prod.mk.injEq] at h ⊢
   obtain⟨x,hx,rfl,_⟩:=h
   exact⟨x,b0S hx,rfl,by simp⟩
  case mlk ck kd z a i =>
   simp only[a1F,g7E,Prod.mk.injEq] at h ⊢
   obtain⟨x,hx,rfl,_⟩:=h
   exact⟨x,b0V hx,rfl,by simp⟩
  case ldk ag n a k =>
   simp only[a1F,g7E,Prod.mk.injEq] at h ⊢
   obtain⟨x,hx,rfl,_⟩:=h
   exact⟨x,b0W hx,rfl,by simp⟩
theorem b0Y (q:O) (hq:a2Z q=true) {fr:List PV} {sg:Sg} {ow:Ow} {v:PV} {sg':Sg} {ow':Ow} (h:a1F C gl true q ⟨fr,sg,ow⟩=some (v,sg',ow')):∃ r,sg'=sg++r:=by
 cases q <;> simp only[a2Z,g4T] at hq
 case alloc zs =>
  simp only[a1F,g7G,Prod.mk.injEq] at h
  exact⟨_,h.2.1.symm⟩
 case box a =>
  simp only[a1F,g7G,Prod.mk.injEq] at h
  exact⟨_,h.2.1.symm⟩
 case app sz bytes a b =>
  simp only[a1F,g7E,Prod.mk.injEq] at h
  obtain⟨_,_,_,h,_⟩:=h
  exact⟨[],by rw[h,g5C]⟩
 case mkm =>
  simp only[a1F,g7G,Prod.mk.injEq] at h
  exact⟨_,h.2.1.symm⟩
theorem b0Z {p q:Ins} (hp:cls p.o<=1) (hq:a2Z q.o=true) {fr:List PV} {sg sg':Sg} {ow ow':Ow} {vp vq:PV} (h1:b0L C gl true p fr sg ow=some (vp,sg,ow)) (h2:b0L C gl true q fr sg ow=some (vq,sg',ow')):b0L C gl true p fr sg' ow'=some (vp,sg',ow'):=by
 have hr:∃ r,sg'=sg++r:=by
  unfold b0L at h2
  split at h2
  ·exact b0Y q.o hq h2
  ·injection h2 with h2
   injection h2 with _ h2
   injection h2 with h2 _
   exact⟨[],by rw[<-h2,g5C]⟩
 obtain⟨r,rfl⟩:=hr
 unfold b0L at h1 ⊢
 split at h1
 ·rename_i hw
  rw[if_pos hw]
  exact b0X p.o hp h1
 ·rename_i hw
  rw[if_neg hw]
  injection h1 with h1
  injection h1 with h1 _
  rw[h1]
theorem b1A {sg sg':Sg} {ag:Bool} {n:Nat} {fr:List PV} {k:Nat} {ks:List Nat} {v:PV} (hk:a1A fr ks sg sg') (hm:k∈ks):a1C gl sg' ag n (a0A fr k) v=a1C gl sg ag n (a0A fr k) v:=by
 obtain⟨id,off,h1,h2⟩:=hk k hm
 rw[h1]
 unfold a1C
 split
 ·simp only
  split
  ·rename_i he
   subst he
   rcases h2 with h2|⟨h2,h3,h4⟩
   ·simp only[loadP,h2]
   ·rw[h2,h3,if_pos rfl,if_pos rfl]
    split
    ·rename_i q
     obtain⟨rfl,rfl⟩:=q
     simp only[loadP]
     unfold hd0 at h4
     split at h4
     ·rename_i cs hcs
      split at h4
      ·rename_i cs' hcs'
       simp only[partP,g4T,if_false]
       injection h4
      ·cases h4
     ·rename_i hx
      split at h4
      ·cases h4
      ·rename_i hx'
       rfl
    ·rfl
  ·rfl
 ·rfl
theorem keepsB_iff {fr:List PV} {ks:List Nat} {sg sg':Sg}:a1B fr ks sg sg'=true↔a1A fr ks sg sg':=by
 unfold a1B
 simp
theorem b1B {p q:O} (hk:a3C p q=true) {fr:List PV} {sg sg':Sg} {ow ow':Ow} {v:PV} (h:a1F C gl true q ⟨fr,sg,ow⟩=some (v,sg',ow')) (ow1 ow2:Ow) :
  (a1F C gl true p ⟨fr,sg,ow1⟩).map (·.1)=(a1F C gl true p ⟨fr,sg',ow2⟩).map (·.1)/\(∀ r,a1F C gl true p ⟨fr,sg,ow1⟩=some r->r.2.1=sg/\r.2.2=ow1)/\∀ r,a1F C gl true p ⟨fr,sg',ow2⟩=some r->r.2.1=sg'/\r.2.2=ow2:=by
 have key:∀ (ag:Bool) (n:Nat) (a:Opd) (k:Nat) (ks:List Nat),k∈ks->a1A fr ks sg sg'->(a1F C gl true (.ldk ag n a k) ⟨fr,sg,ow1⟩).map (·.1)=(a1F C gl true (.ldk ag n a k) ⟨fr,sg',ow2⟩).map (·.1)/\(∀ r,a1F C gl true (.ldk ag n a k) ⟨fr,sg,ow1⟩=some r->r.2.1=sg/\r.2.2=ow1)/\∀ r,a1F C gl true (.ldk ag n a k) ⟨fr,sg',ow2⟩=some r->r.2.1=sg'/\r.2.2=ow2:=by
  intro ag n a k ks hm hks
  simp only[a1F,b1A hks hm]
  refine⟨?_,λr hr=>?_,λr hr=>?_⟩
  ·cases a1C gl sg ag n (a0A fr k) (Opd.ev fr a) <;> rfl
  ·simp only[g7E] at hr
   obtain⟨_,_,rfl⟩:=hr
   exact⟨rfl,rfl⟩
  ·simp only[g7E] at hr
   obtain⟨_,_,rfl⟩:=hr
   exact⟨rfl,rfl⟩
 unfold a3C at hk
 split at hk
 ·rename_i ag n a k f as ks
  simp only[a1F] at h
  split at h
  ·rename_i v1 sg1 ow1' hc
   split at h
   ·rename_i hkb
    injection h with h
    injection h with e1 e2
    injection e2 with e2 e3
    subst e1 e2 e3
    exact key ag n a k ks (by simpa using hk) (keepsB_iff.1 hkb)
   ·cases h
  ·cases h
 ·rename_i ag n a k n' a' v' ks
  simp only[a1F] at h
  split at h
  ·rename_i sg1 hc
   split at h
   ·rename_i hkb
    injection h with h
    injection h with e1 e2
    injection e2 with e2 e3
    subst e1 e2 e3
    exact key ag n a k ks (by simpa using hk) (keepsB_iff.1 hkb)
   ·cases h
  ·cases h
 ·rename_i ag n a k f as ks
  simp only[a1F] at h
  split at h
  case h_2=>cases h
  rename_i ys sgz hf
  split at h
  case h_2=>cases h
  split at h
  case h_2=>cases h
  split at h
  case isFalse=>cases h
  rename_i hkb
  have e:sg'=sgz:=by
   split at h
   ·split at h <;> (injection h with h;injection h with _ h;injection h with h _;exact h.symm)
   ·injection h with h
    injection h with _ h
    injection h with h _
    exact h.symm
   ·cases h
  subst e
  exact key ag n a k ks (by simpa using hk) (keepsB_iff.1 hkb)
 ·cases hk
theorem b1C {p q:Ins} (hk:a3C p.o q.o=true) {fr:List PV} {sg sg':Sg} {ow ow':Ow} {v:PV} (h:b0L C gl true q fr sg ow=some (v,sg',ow')) :
  (∀ vp,b0L C gl true p fr sg ow=some (vp,sg,ow)->b0L C gl true p fr sg' ow'=some (vp,sg',ow'))/\(∀ vp,b0L C gl true p fr sg' ow'=some (vp,sg',ow')->b0L C gl true p fr sg ow=some (vp,sg,ow)):=by
 unfold b0L at h ⊢
 split at h
 ·obtain⟨k1,k2,k3⟩:=b1B (C:=C) (gl:=gl) hk h ow ow'
  split
  ·refine⟨λvp hp=>?_,λvp hp=>?_⟩
   ·rw[hp] at k1
    cases hq:a1F C gl true p.o ⟨fr,sg',ow'⟩ with
    |none=>rw[hq] at k1;cases k1
    |some r =>
     rw[hq] at k1
     simp only[g7F,g7G] at k1
     obtain⟨e1,e2⟩:=k3 r hq
     obtain⟨r1,r2,r3⟩:=r
     simp only at k1 e1 e2
     rw[<-k1,e1,e2]
   ·rw[hp] at k1
    cases hq:a1F C gl true p.o ⟨fr,sg,ow⟩ with
    |none=>rw[hq] at k1;cases k1
    |some r =>
     rw[hq] at k1
     simp only[g7F,g7G] at k1
     obtain⟨e1,e2⟩:=k2 r hq
     obtain⟨r1,r2,r3⟩:=r
     simp only at k1 e1 e2
     rw[k1,e1,e2]
  ·exact⟨λvp hp=>by injection hp with hp;injection hp with hp _;rw[hp],λvp hp=>by injection hp with hp;injection hp with hp _;rw[hp]⟩
 ·injection h with h
  injection h with e1 e2
  injection e2 with e2 e3
  subst e2 e3
  exact⟨λvp hp=>hp,λvp hp=>hp⟩
theorem b1D {p q:O} (h:a3C p q=true):cls p<=1:=by
 unfold a3C at h
 split at h
 ·exact g6U _
 ·exact g6U _
 ·exact g6U _
 ·cases h
theorem b1E {dr:Bool} {sg r:Sg} {ow:Ow} {sz bytes:Nat} {a b:PV} {x:PV×Ow} (h:a0R dr sg ow sz bytes a b=some x):a0R dr (sg++r) ow sz bytes a b=some x:=by
 have key:∀ {es:List (List T)},a0K sg sz b=some es->a0K (sg++r) sz b=some es:=λh=>b0U h
 cases b with
 |t y =>
  cases y with
  |str s=>exact h
  |_ =>
   unfold a0R at h ⊢
   simp only at h ⊢
   split at h
   ·cases h
   ·rename_i he;rw[key he];exact h
   ·rename_i he;rw[key he];exact h
 |_ =>
  unfold a0R at h ⊢
  simp only at h ⊢
  split at h
  ·cases h
  ·rename_i he;rw[key he];exact h
  ·rename_i he;rw[key he];exact h
theorem b1F {p:O} (hp:a3A p=true) {fr:List PV} {sg sg':Sg} {ow ow':Ow} {v:PV} (h:a1F C gl true p ⟨fr,sg,ow⟩=some (v,sg',ow')):sg'=sg/\∀ r,a1F C gl true p ⟨fr,sg++r,ow⟩=some (v,sg++r,ow'):=by
 cases p <;> simp only[a3A,g4T] at hp
 case app sz bytes a b =>
  simp only[a1F,g7E,Prod.mk.injEq] at h
  obtain⟨x,hx,e1,e2,e3⟩:=h
  refine⟨e2.symm,λr=>?_⟩
  simp only[a1F,g7E,Prod.mk.injEq]
  refine⟨x,?_,e1,by first|trivial|rw[<-e2],e3⟩
  exact b1E hx
theorem b1G {p:Ins} (hp:a3A p.o=true) {fr:List PV} {sg sg':Sg} {ow ow':Ow} {v:PV} (h:b0L C gl true p fr sg ow=some (v,sg',ow')):sg'=sg/\∀ r,b0L C gl true p fr (sg++r) ow=some (v,sg++r,ow'):=by
 unfold b0L at h ⊢
 split at h
 ·rename_i hw
  obtain⟨h1,h2⟩:=b1F hp h
  refine⟨h1,λr=>?_⟩
  rw[if_pos hw]
  exact h2 r
 ·rename_i hw
  injection h with h
  injection h with e1 e2
  injection e2 with e2 e3
  refine⟨e2.symm,λr=>?_⟩
  rw[if_neg hw,e1,e3]
theorem b1H {q:Ins} (hq:cls q.o<=1) {fr:List PV} {sg:Sg} {ow ow':Ow} {v:PV} (h:b0L C gl true q fr sg ow=some (v,sg,ow)):b0L C gl true q fr sg ow'=some (v,sg,ow'):=by
 unfold b0L at h ⊢
 split at h
 ·rename_i hw
  rw[if_pos hw]
  have:=b0X (r:=[]) (ow':=ow') q.o hq h
  simpa using this
 ·rename_i hw
  rw[if_neg hw]
  injection h with h
  injection h with h _
  rw[h]
theorem b1I {q:O} (hq:a3B q=true) {fr:List PV} {sg sg':Sg} {ow ow':Ow} {v:PV} (h:a1F C gl true q ⟨fr,sg,ow⟩=some (v,sg',ow')):ow'=ow/\(∃ r,sg'=sg++r)/\∀ ow1,a1F C gl true q ⟨fr,sg,ow1⟩=some (v,sg',ow1):=by
 cases q <;> simp only[a3B,g4T] at hq
 all_goals
  simp only[a1F,g7G,Prod.mk.injEq] at h ⊢
  obtain⟨e1,e2,e3⟩:=h
  exact⟨e3.symm,⟨_,e2.symm⟩,λ_=>⟨e1,e2,trivial⟩⟩
theorem b1J {q:Ins} (hq:a3B q.o=true) {fr:List PV} {sg sg':Sg} {ow ow':Ow} {v:PV} (h:b0L C gl true q fr sg ow=some (v,sg',ow')):ow'=ow/\(∃ r,sg'=sg++r)/\∀ ow1,b0L C gl true q fr sg ow1=some (v,sg',ow1):=by
 unfold b0L at h ⊢
 split at h
 ·rename_i hw
  obtain⟨h1,h2,h3⟩:=b1I hq h
  refine⟨h1,h2,λow1=>?_⟩
  rw[if_pos hw]
  exact h3 ow1
 ·rename_i hw
  injection h with h
  injection h with e1 e2
  injection e2 with e2 e3
  refine⟨e3.symm,⟨[],by rw[<-e2,g5C]⟩,λow1=>?_⟩
  rw[if_neg hw,e1,e2]
theorem b1K {p q:Ins} (hc:a3D p q=true) {s s1 s2:S} (h1:a1G C gl true p s=some s1) (h2:a1G C gl true q s1=some s2):∃ t,a1G C gl true q s=some t/\a1G C gl true p t=some s2:=by
 simp only[a3D,g4S,Bool.or_eq_true,g7L] at hc
 obtain⟨⟨⟨hpq,hqp⟩,hdd⟩,hcls'⟩:=hc
 rw[b0M] at h1 h2
 simp only[g7E] at h1 h2
 obtain⟨⟨vp,sg1,ow1⟩,e1,rfl⟩:=h1
 obtain⟨⟨vq,sg2,ow2⟩,e2,rfl⟩:=h2
 simp only at e2 ⊢
 rw[b0O q (put s.fr p.d vp) s.fr sg1 ow1 (λk hk=>b0D s.fr p.d vp _ hpq k hk)] at e2
 have hback:∀ (sgx:Sg) (owx:Ow),b0L C gl true p (put s.fr q.d vq) sgx owx=b0L C gl true p s.fr sgx owx:=λsgx owx=>b0O p _ _ _ _ (λk hk=>b0D s.fr q.d vq _ hqp k hk)
 have hput:put (put s.fr p.d vp) q.d vq=put (put s.fr q.d vq) p.d vp:=b0C s.fr p.d q.d vp vq hdd
 rcases hcls' with hcls|⟨hp1,hq1⟩|(hkp|hkp)|⟨hap,haq|haq⟩
 rotate_left
 ·obtain⟨rfl,rfl⟩:=b0Q p hp1 e1
  refine⟨⟨put s.fr q.d vq,sg2,ow2⟩,by rw[b0M,e2];rfl,?_⟩
  rw[b0M]
  simp only[hback]
  rw[b0Z hp1 hq1 e1 e2,hput]
  rfl
 ·obtain⟨rfl,rfl⟩:=b0Q p (b1D hkp) e1
  refine⟨⟨put s.fr q.d vq,sg2,ow2⟩,by rw[b0M,e2];rfl,?_⟩
  rw[b0M]
  simp only[hback]
  rw[(b1C hkp e2).1 vp e1,hput]
  rfl
 ·obtain⟨rfl,rfl⟩:=b0Q q (b1D hkp) e2
  have e3:=(b1C hkp e1).2 vq e2
  refine⟨⟨put s.fr q.d vq,s.sg,s.ow⟩,by rw[b0M,e3];rfl,?_⟩
  rw[b0M]
  simp only[hback,e1,hput]
  rfl
 ·obtain⟨rfl,hpm⟩:=b1G hap e1
  obtain⟨rfl,rfl⟩:=b0Q q haq e2
  have e3:=b1H (ow':=s.ow) haq e2
  refine⟨⟨put s.fr q.d vq,s.sg,s.ow⟩,by rw[b0M,e3];rfl,?_⟩
  rw[b0M]
  simp only[hback,e1,hput]
  rfl
 ·obtain⟨rfl,hpm⟩:=b1G hap e1
  obtain⟨rfl,⟨r,rfl⟩,hqm⟩:=b1J haq e2
  refine⟨⟨put s.fr q.d vq,s.sg++r,s.ow⟩,by rw[b0M,hqm];rfl,?_⟩
  rw[b0M]
  simp only[hback,hpm r,hput]
  rfl
 have hcase:cls p.o=0\/cls q.o=0\/(cls p.o<=1/\cls q.o<=1):=by
  rcases Nat.eq_zero_or_pos (cls p.o) with h|h
  ·exact .inl h
  ·rcases Nat.eq_zero_or_pos (cls q.o) with h'|h'
   ·exact .inr (.inl h')
   ·refine .inr (.inr ⟨?_,?_⟩)
    ·have:cls p.o * 1<=cls p.o * cls q.o:=Nat.mul_le_mul_left _ h'
     omega
    ·have:1 * cls q.o<=cls p.o * cls q.o:=g6Y _ h
     omega
 rcases hcase with h|h|⟨h,h'⟩
 ·obtain⟨rfl,rfl⟩:=b0Q p (by omega) e1
  refine⟨⟨put s.fr q.d vq,sg2,ow2⟩,by rw[b0M,e2];rfl,?_⟩
  rw[b0M]
  simp only[hback]
  rw[b0P p h s.fr sg2 s.sg ow2 s.ow,e1,hput]
  rfl
 ·obtain⟨rfl,rfl⟩:=b0Q q (by omega) e2
  have e3:b0L C gl true q s.fr s.sg s.ow=some (vq,s.sg,s.ow):=by
   rw[b0P q h s.fr s.sg sg2 s.ow ow2,e2]
   rfl
  refine⟨⟨put s.fr q.d vq,s.sg,s.ow⟩,by rw[b0M,e3];rfl,?_⟩
  rw[b0M]
  simp only[hback,e1,hput]
  rfl
 ·obtain⟨rfl,rfl⟩:=b0Q p h e1
  obtain⟨rfl,rfl⟩:=b0Q q h' e2
  refine⟨⟨put s.fr q.d vq,s.sg,s.ow⟩,by rw[b0M,e2];rfl,?_⟩
  rw[b0M]
  simp only[hback,e1,hput]
  rfl
noncomputable def b1L (C:Cal) (gl:Nat->Option (List T)) (dr:Bool) (is:List Ins):List Nat->S->Option S
 |[],s=>some s
 |i::r,s=>match is[i]? with
  |some q=>match a1G C gl dr q s with
   |some s'=>b1L C gl dr is r s'
   |none=>none
  |none=>none
theorem b1M (is:List Ins) (l m:List Nat) (s:S):b1L C gl dr is (l++m) s=(b1L C gl dr is l s).bind (b1L C gl dr is m):=by
 induction l generalizing s with
 |nil=>rfl
 |cons i r ih =>
  simp only[List.cons_append,b1L]
  cases is[i]? with
  |none=>rfl
  |some q =>
   simp only
   cases a1G C gl dr q s with
   |none=>rfl
   |some s'=>exact ih s'
theorem b1N (is:List Ins):∀ (k:Nat) (s:S),a1H C gl dr (is.drop k) s=b1L C gl dr is (List.range' k (is.length - k)) s:=by
 intro k
 induction hn:is.length - k generalizing k with
 |zero =>
  intro s
  rw[List.drop_eq_nil_of_le (by omega)]
  rfl
 |succ n ih =>
  intro s
  have hlt:k < is.length:=by omega
  rw[List.drop_eq_getElem_cons hlt,List.range'_succ]
  simp only[a1H,b1L,g5M hlt]
  cases a1G C gl dr is[k] s with
  |none=>rfl
  |some s'=>exact ih (k+1) (by omega) s'
theorem b1O (is:List Ins) (i:Nat) (q:Ins) (hq:is[i]?=some q):∀ (l:List Nat) (s s':S),(∀ j∈l,∀ p,is[j]?=some p->a3D p q=true)->b1L C gl true is (l++[i]) s=some s'->b1L C gl true is (i::l) s=some s':=by
 intro l
 induction l with
 |nil=>intro s s' _ h;exact h
 |cons j l ih =>
  intro s s' hc h
  simp only[List.cons_append,b1L] at h
  cases hj:is[j]? with
  |none=>rw[hj] at h;cases h
  |some p =>
   rw[hj] at h
   simp only at h
   cases hp:a1G C gl true p s with
   |none=>rw[hp] at h;cases h
   |some s1 =>
    rw[hp] at h
    have h2:=ih s1 s' (λk hk=>hc k (g6I _ hk)) h
    simp only[b1L,hq] at h2
    cases hq1:a1G C gl true q s1 with
    |none=>rw[hq1] at h2;cases h2
    |some s2 =>
     rw[hq1] at h2
     obtain⟨t,t1,t2⟩:=b1K (hc j (by simp) p hj) hp hq1
     simp only[b1L,hq,t1,hj,t2]
     exact h2
end Go.Pi
