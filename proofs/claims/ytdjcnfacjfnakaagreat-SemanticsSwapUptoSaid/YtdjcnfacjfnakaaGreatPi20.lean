/- PI 20: which operations may change places. Program independent. -/
import Derived.Test.YtdjcnfacjfnakaaGreatPi19
set_option linter.unusedSimpArgs false
set_option linter.unusedVariables false
namespace Go.Pi
variable {gl:Nat→Option (List T)} {C:Cal} {dr:Bool}
theorem b1E (fr:List PV) (i j:Nat) (x y:PV) (h:i≠j):a0B (a0B fr i x) j y=a0B (a0B fr j y) i x:=by
 induction fr generalizing i j with
 |nil =>
  induction i generalizing j with
  |zero=>cases j with
   |zero=>exact absurd rfl h
   |succ j=>simp [a0B]
  |succ i ih=>cases j with
   |zero=>simp [a0B]
   |succ j=>simp only[a0B,g3P,true_and];exact ih j (fun e=>h (by rw[e]))
 |cons z r ih =>
  cases i with
  |zero=>cases j with
   |zero=>exact absurd rfl h
   |succ j=>simp [a0B]
  |succ i=>cases j with
   |zero=>simp [a0B]
   |succ j=>simp only[a0B,g3P,true_and];exact ih i j (fun e=>h (by rw[e]))
theorem b1F (fr:List PV) (i j:Option Nat) (x y:PV) (h:a3F i j.toList=true):put (put fr i x) j y=put (put fr j y) i x:=by
 cases i with
 |none=>rfl
 |some i=>cases j with
  |none=>rfl
  |some j =>
   simp [a3F] at h
   exact b1E fr i j x y h
theorem b1G (fr:List PV) (d:Option Nat) (x:PV) (l:List Nat) (h:a3F d l=true) (k:Nat) (hk:k∈l):a0A (put fr d x) k=a0A fr k:=by
 cases d with
 |none=>rfl
 |some d =>
  simp only[a3F,Bool.not_eq_true',List.contains_eq_mem,g5Z] at h
  exact a1W fr d k x (fun e=>h (e ▸ hk))
def Agree (fr fr':List PV) (l:List Nat):Prop:=∀ k∈l,a0A fr k=a0A fr' k
theorem Agree.left {fr fr':List PV} {l m:List Nat} (h:Agree fr fr' (l++m)):Agree fr fr' l:=fun k hk=>h k (List.mem_append_left _ hk)
theorem Agree.right {fr fr':List PV} {l m:List Nat} (h:Agree fr fr' (l++m)):Agree fr fr' m:=fun k hk=>h k (List.mem_append_right _ hk)
theorem b1H {fr fr':List PV} (x:Opd) (h:Agree fr fr' x.rd):x.ev fr=x.ev fr':=by
 cases x with
 |s k=>exact h k (by simp [Opd.rd])
 |c v=>rfl
theorem b1I {fr fr':List PV} (x:Option Opd) (h:Agree fr fr' (a3E x)):x.map (Opd.ev fr)=x.map (Opd.ev fr'):=by
 cases x with
 |none=>rfl
 |some x=>simp only[g5V,b1H x h]
theorem b1J {fr fr':List PV} (xs:List Opd) (h:Agree fr fr' (xs.flatMap Opd.rd)):xs.map (Opd.ev fr)=xs.map (Opd.ev fr') :=
 List.map_congr_left fun x hx=>b1H x fun k hk=>h k (List.mem_flatMap.2 ⟨x,hx,hk⟩)
theorem b1K (q:O) (fr fr':List PV) (sg:Sg) (ow:Ow) (h:Agree fr fr' q.rds):a1L C gl dr q ⟨fr,sg,ow⟩=a1L C gl dr q ⟨fr',sg,ow⟩:=by
 cases q <;> simp only[O.rds] at h <;> simp only[a1L]
 case mov a=>rw[b1H a h]
 case pick c a b=>rw[b1H c h.left,b1H a h.right.left,b1H b h.right.right]
 case box a=>rw[b1H a h]
 case build zs ps =>
  have:(ps.map fun p=>(p.1,p.2.1,p.2.2.ev fr))=ps.map fun p=>(p.1,p.2.1,p.2.2.ev fr') :=
   List.map_congr_left fun p hp=>by rw[b1H p.2.2 fun k hk=>h k (List.mem_flatMap.2 ⟨p,hp,hk⟩)]
  rw[this]
 case bsl sz len z ps =>
  have:(ps.map fun p=>(p.1 * sz,sz,p.2.ev fr))=ps.map fun p=>(p.1 * sz,sz,p.2.ev fr') :=
   List.map_congr_left fun p hp=>by rw[b1H p.2 fun k hk=>h k (List.mem_flatMap.2 ⟨p,hp,hk⟩)]
  rw[this]
 case load ag n a=>rw[b1H a h]
 case store n a v=>rw[b1H a h.left,b1H v h.right]
 case nck a=>rw[b1H a h]
 case bin op a b=>rw[b1H a h.left,b1H b h.right]
 case eqv ng ag ks a b=>rw[b1H a h.left,b1H b h.right]
 case isn ng kd a=>rw[b1H a h]
 case un op a=>rw[b1H a h]
 case cvi k a=>rw[b1H a h]
 case cvb a=>rw[b1H a h]
 case cvs a=>rw[b1H a h]
 case cvr a=>rw[b1H a h]
 case cvm a=>rw[b1H a h]
 case cvt a=>rw[b1H a h]
 case mks sz by_ z l c=>rw[b1H l h.left,b1H c h.right]
 case mkz sz by_ z l c=>rw[b1H l h.left,b1H c h.right]
 case slc sz a lo hi mx=>rw[b1H a h.left,b1I lo h.right.left,b1I hi h.right.right.left,b1I mx h.right.right.right]
 case sls a lo hi=>rw[b1H a h.left,b1I lo h.right.left,b1I hi h.right.right]
 case sla n sz a lo hi=>rw[b1H a h.left,b1I lo h.right.left,b1I hi h.right.right]
 case fad off a=>rw[b1H a h]
 case fld ag off n a=>rw[b1H a h]
 case iaa n sz a i=>rw[b1H a h.left,b1H i h.right]
 case ias sz a i=>rw[b1H a h.left,b1H i h.right]
 case ixa ag n sz a i=>rw[b1H a h.left,b1H i h.right]
 case ixs a i=>rw[b1H a h.left,b1H i h.right]
 case ext k a=>rw[b1H a h]
 case call f as=>rw[b1J as h]
 case cale f as=>rw[b1J as h]
 case calv g as=>rw[b1H g h.left,b1J as h.right]
 case len st a=>rw[b1H a h]
 case app sz by_ a b=>rw[b1H a h.left,b1H b h.right]
 case mkf f caps=>rw[b1J caps h]
 case xt k as=>rw[b1J as h]
 case mlk ck kd z a i=>rw[b1H a h.left,b1H i h.right]
 case mup kd a k v=>rw[b1H a h.left,b1H k h.right.left,b1H v h.right.right]
 case mdl kd a k=>rw[b1H a h.left,b1H k h.right]
 case mxn mx a b=>rw[b1H a h.left,b1H b h.right]
 case apb sz by_ a b=>rw[b1H a h.left,b1H b h.right]
 case ldk ag n a k=>rw[b1H a h.left,show a0A fr k=a0A fr' k from h.right k (by simp)]
 case ldt ag n a=>rw[b1H a h]
 case cck ty a=>rw[b1H a h]
 case apw ty a b=>rw[b1H a h.left,b1H b h.right]
 case bst ty a=>rw[b1H a h]
 case calk f as ks =>
  rw[b1J as h.left]
  have:∀ sg',a1H fr ks sg sg'=a1H fr' ks sg sg':=fun sg'=>by
   unfold a1H
   congr 1
   unfold a1G
   apply propext
   constructor
   ·intro hk k hm
    obtain⟨id,off,h1,h2⟩:=hk k hm
    exact⟨id,off,(h.right k hm) ▸ h1,h2⟩
   ·intro hk k hm
    obtain⟨id,off,h1,h2⟩:=hk k hm
    exact⟨id,off,(h.right k hm).trans h1,h2⟩
  split
  ·rw[this]
  ·rfl
 case calz f as ks =>
  rw[b1J as h.left]
  have:∀ sg',a1H fr ks sg sg'=a1H fr' ks sg sg':=fun sg'=>by
   unfold a1H
   congr 1
   unfold a1G
   apply propext
   constructor
   ·intro hk k hm
    obtain⟨id,off,h1,h2⟩:=hk k hm
    exact⟨id,off,(h.right k hm) ▸ h1,h2⟩
   ·intro hk k hm
    obtain⟨id,off,h1,h2⟩:=hk k hm
    exact⟨id,off,(h.right k hm).trans h1,h2⟩
  simp only[this]
 case bldz zs ps =>
  have:(ps.map fun p=>p.2.2.ev fr)=ps.map fun p=>p.2.2.ev fr' :=
   List.map_congr_left fun p hp=>by rw[b1H p.2.2 fun k hk=>h k (List.mem_flatMap.2 ⟨p,hp,hk⟩)]
  rw[this]
 case stok n a v ks =>
  rw[b1H a h.left,b1H v h.right.left]
  have:∀ sg',a1H fr ks sg sg'=a1H fr' ks sg sg':=fun sg'=>by
   unfold a1H
   congr 1
   unfold a1G
   apply propext
   constructor
   ·intro hk k hm
    obtain⟨id,off,h1,h2⟩:=hk k hm
    exact⟨id,off,(h.right.right k hm) ▸ h1,h2⟩
   ·intro hk k hm
    obtain⟨id,off,h1,h2⟩:=hk k hm
    exact⟨id,off,(h.right.right k hm).trans h1,h2⟩
  split
  ·rw[this]
  ·rfl
theorem b1L {v:Option PV} {sg sg1:Sg} {ow ow1:Ow}:(v.map fun v=>(v,sg,ow))=((v.map fun v=>(v,sg1,ow1)).map fun p=>p.1).map fun v=>(v,sg,ow):=by
 cases v <;> rfl
theorem b1M (q:O) (hq:cls q=0) (fr:List PV) (sg sg1:Sg) (ow ow1:Ow):a1L C gl true q ⟨fr,sg,ow⟩=((a1L C gl true q ⟨fr,sg1,ow1⟩).map (·.1)).map fun v=>(v,sg,ow):=by
 cases q <;> first|(simp [cls] at hq;done)|simp only[a1L,if_true]
 case pick c a b=>split <;> first|exact b1L|rfl
 case bsl sz len z ps =>
  split
  ·rename_i cs _
   cases cs.mapM a0M <;> rfl
  ·rfl
 case mkz sz by_ z l c=>split <;> first|(split <;> first|exact b1L|rfl)|rfl
 case cvi k a=>split <;> first|exact b1L|rfl
 case cvb a=>split <;> first|(split <;> first|exact b1L|rfl)|rfl
 case cvr a=>split <;> first|exact b1L|rfl
 case cvm a=>split <;> first|exact b1L|rfl
 case cvt a=>split <;> first|exact b1L|rfl
 case ext k a=>split <;> first|exact b1L|rfl
 case call f as =>
  split
  ·split
   ·split <;> first|exact b1L|rfl
   ·rfl
  ·rfl
 case xt k as=>split <;> first|exact b1L|rfl
 all_goals first|exact b1L|rfl
theorem b1N (q:O) (hq:cls q≤1) {fr:List PV} {sg:Sg} {ow:Ow} {v:PV} {sg':Sg} {ow':Ow} (h:a1L C gl true q ⟨fr,sg,ow⟩=some (v,sg',ow')):sg'=sg∧ow'=ow:=by
 rcases g5N (cls q) 1 with h0|h1
 ·rw[b1M q (by omega) fr sg [] ow []] at h
  simp only[g5U] at h
  obtain⟨_,_,he⟩:=h
  injection he with _ e2
  injection e2 with e2 e3
  exact⟨e2.symm,e3.symm⟩
 ·cases q <;> simp only[cls,Nat.reduceLeDiff,ge_iff_le,g5K] at hq h1
  case load ag n a =>
   simp only[a1L,g5U] at h
   obtain⟨_,_,he⟩:=h
   injection he with _ e2
   injection e2 with e2 e3
   exact⟨e2.symm,e3.symm⟩
  case cvs a =>
   simp only[a1L,g5S,g5U] at h
   obtain⟨_,_,_,_,he⟩:=h
   injection he with _ e2
   injection e2 with e2 e3
   exact⟨e2.symm,e3.symm⟩
  case mlk ck kd z a i =>
   simp only[a1L,g5U] at h
   obtain⟨_,_,he⟩:=h
   injection he with _ e2
   injection e2 with e2 e3
   exact⟨e2.symm,e3.symm⟩
  case ldk ag n a k =>
   simp only[a1L,g5U] at h
   obtain⟨_,_,he⟩:=h
   injection he with _ e2
   injection e2 with e2 e3
   exact⟨e2.symm,e3.symm⟩
noncomputable def b1O (C:Cal) (gl:Nat→Option (List T)) (dr:Bool) (i:Ins) (fr:List PV) (sg:Sg) (ow:Ow):Option (PV×Sg×Ow) :=
 if wanted fr i.g then a1L C gl dr i.o ⟨fr,sg,ow⟩ else some (und,sg,ow)
theorem b1P (i:Ins) (s:S):a1M C gl dr i s=(b1O C gl dr i s.fr s.sg s.ow).map fun r=>⟨put s.fr i.d r.1,r.2.1,r.2.2⟩:=by
 unfold a1M b1O
 split
 ·cases a1L C gl dr i.o s <;> rfl
 ·rfl
theorem b1Q {g:Option (Nat×Bool)} {fr fr':List PV} (h:∀ k b,g=some (k,b)→a0A fr k=a0A fr' k):wanted fr g=wanted fr' g:=by
 cases g with
 |none=>rfl
 |some p =>
  obtain⟨k,b⟩:=p
  simp only[wanted]
  rw[h k b rfl]
theorem b1R (i:Ins) (fr fr':List PV) (sg:Sg) (ow:Ow) (h:Agree fr fr' i.rds):b1O C gl dr i fr sg ow=b1O C gl dr i fr' sg ow:=by
 unfold b1O
 have hw:wanted fr i.g=wanted fr' i.g:=b1Q fun k b hg=>h k (by unfold Ins.rds;rw[hg];simp)
 have ho:Agree fr fr' i.o.rds:=fun k hk=>h k (by unfold Ins.rds;split <;> simp [hk])
 rw[hw,b1K i.o fr fr' sg ow ho]
theorem b1S (i:Ins) (hq:cls i.o=0) (fr:List PV) (sg sg1:Sg) (ow ow1:Ow):b1O C gl true i fr sg ow=((b1O C gl true i fr sg1 ow1).map (·.1)).map fun v=>(v,sg,ow):=by
 unfold b1O
 split
 ·exact b1M i.o hq fr sg sg1 ow ow1
 ·rfl
theorem b1T (i:Ins) (hq:cls i.o≤1) {fr:List PV} {sg:Sg} {ow:Ow} {v:PV} {sg':Sg} {ow':Ow} (h:b1O C gl true i fr sg ow=some (v,sg',ow')):sg'=sg∧ow'=ow:=by
 unfold b1O at h
 split at h
 ·exact b1N i.o hq h
 ·injection h with h
  injection h with _ h
  injection h with h1 h2
  exact⟨h1.symm,h2.symm⟩
theorem b1U {sg r:Sg} {id:Nat} {x:Bool×List PV} (h:sg[id]?=some x):(sg++r)[id]?=some x:=by
 rw[g3U (g4A.1 h).1]
 exact h
theorem b1V {sg r:Sg} {ag:Bool} {n:Nat} {v x:PV} (h:loadP gl sg ag n v=some x):loadP gl (sg++r) ag n v=some x:=by
 cases v with
 |lp id off =>
  simp only[loadP] at h ⊢
  split at h
  ·rename_i cs hs
   rw[b1U hs]
   exact h
  ·cases h
 |_=>exact h
theorem b1W {sg r:Sg} {sz id off len sz':Nat} {es:List (List T)} (h:a0K sg sz id off len sz'=some es):a0K (sg++r) sz id off len sz'=some es:=by
 unfold a0K at h ⊢
 split at h
 ·rename_i he
  rw[if_pos he]
  split at h
  ·rename_i cs hs
   rw[b1U hs]
   exact h
  ·cases h
 ·cases h
theorem b1X {sg r:Sg} {sz:Nat} {v:PV} {es:List (List T)} (h:a0L sg sz v=some es):a0L (sg++r) sz v=some es:=by
 cases v with
 |ls id off len sz'=>exact b1W h
 |bf id len sz'=>exact b1W h
 |_=>exact h
theorem b1Y {sg r:Sg} {ck:Bool} {kd:Nat} {z:T} {a k v:PV} (h:a1D sg ck kd z a k=some v):a1D (sg++r) ck kd z a k=some v:=by
 unfold a1D at h ⊢
 split at h
 ·rename_i id k
  split at h
  ·rename_i es hs
   rw[b1U hs]
   exact h
  ·cases h
 ·cases h
theorem b1Z {sg r:Sg} {ag:Bool} {n:Nat} {b v x:PV} (h:a1I gl sg ag n b v=some x):a1I gl (sg++r) ag n b v=some x:=by
 unfold a1I at h ⊢
 split at h
 ·split at h
  ·split at h
   ·rename_i he
    rw[if_pos he]
    exact b1V h
   ·cases h
  ·cases h
 ·cases h
theorem b2A (p:O) (hp:cls p≤1) {fr:List PV} {sg r:Sg} {ow ow':Ow} {v:PV} (h:a1L C gl true p ⟨fr,sg,ow⟩=some (v,sg,ow)):a1L C gl true p ⟨fr,sg++r,ow'⟩=some (v,sg++r,ow'):=by
 rcases g5N (cls p) 1 with h0|h1
 ·rw[b1M p (by omega) fr (sg++r) sg ow' ow,h]
  rfl
 ·cases p <;> simp only[cls,Nat.reduceLeDiff,ge_iff_le,g5K] at hp h1
  case load ag n a =>
   simp only[a1L,g5U,Prod.mk.injEq] at h ⊢
   obtain⟨x,hx,rfl,_⟩:=h
   exact⟨x,b1V hx,rfl,by simp⟩
  case cvs a =>
   simp only[a1L,g5S,g5U,Prod.mk.injEq] at h ⊢
   obtain⟨es,hes,w,hw,rfl,_⟩:=h
   exact⟨es,b1X hes,w,hw,rfl,by simp⟩
  case mlk ck kd z a i =>
   simp only[a1L,g5U,Prod.mk.injEq] at h ⊢
   obtain⟨x,hx,rfl,_⟩:=h
   exact⟨x,b1Y hx,rfl,by simp⟩
  case ldk ag n a k =>
   simp only[a1L,g5U,Prod.mk.injEq] at h ⊢
   obtain⟨x,hx,rfl,_⟩:=h
   exact⟨x,b1Z hx,rfl,by simp⟩
theorem b2B (q:O) (hq:a3G q=true) {fr:List PV} {sg:Sg} {ow:Ow} {v:PV} {sg':Sg} {ow':Ow} (h:a1L C gl true q ⟨fr,sg,ow⟩=some (v,sg',ow')):∃ r,sg'=sg++r:=by
 cases q <;> simp only[a3G,g3D] at hq
 case alloc zs =>
  simp only[a1L,g5W,Prod.mk.injEq] at h
  exact⟨_,h.2.1.symm⟩
 case box a =>
  simp only[a1L,g5W,Prod.mk.injEq] at h
  exact⟨_,h.2.1.symm⟩
 case app sz bytes a b =>
  simp only[a1L,g5U,Prod.mk.injEq] at h
  obtain⟨_,_,_,h,_⟩:=h
  exact⟨[],by rw[h,g3O]⟩
 case mkm =>
  simp only[a1L,g5W,Prod.mk.injEq] at h
  exact⟨_,h.2.1.symm⟩
theorem b2C {p q:Ins} (hp:cls p.o≤1) (hq:a3G q.o=true) {fr:List PV} {sg sg':Sg} {ow ow':Ow} {vp vq:PV} (h1:b1O C gl true p fr sg ow=some (vp,sg,ow)) (h2:b1O C gl true q fr sg ow=some (vq,sg',ow')):b1O C gl true p fr sg' ow'=some (vp,sg',ow'):=by
 have hr:∃ r,sg'=sg++r:=by
  unfold b1O at h2
  split at h2
  ·exact b2B q.o hq h2
  ·injection h2 with h2
   injection h2 with _ h2
   injection h2 with h2 _
   exact⟨[],by rw[←h2,g3O]⟩
 obtain⟨r,rfl⟩:=hr
 unfold b1O at h1 ⊢
 split at h1
 ·rename_i hw
  rw[if_pos hw]
  exact b2A p.o hp h1
 ·rename_i hw
  rw[if_neg hw]
  injection h1 with h1
  injection h1 with h1 _
  rw[h1]
theorem b2D {sg sg':Sg} {ag:Bool} {n:Nat} {fr:List PV} {k:Nat} {ks:List Nat} {v:PV} (hk:a1G fr ks sg sg') (hm:k∈ks):a1I gl sg' ag n (a0A fr k) v=a1I gl sg ag n (a0A fr k) v:=by
 obtain⟨id,off,h1,h2⟩:=hk k hm
 rw[h1]
 unfold a1I
 split
 ·simp only
  split
  ·rename_i he
   subst he
   simp only[loadP,h2]
  ·rfl
 ·rfl
theorem keepsB_iff {fr:List PV} {ks:List Nat} {sg sg':Sg}:a1H fr ks sg sg'=true↔a1G fr ks sg sg':=by
 unfold a1H
 simp
theorem b2E {p q:O} (hk:a3J p q=true) {fr:List PV} {sg sg':Sg} {ow ow':Ow} {v:PV} (h:a1L C gl true q ⟨fr,sg,ow⟩=some (v,sg',ow')) (ow1 ow2:Ow) :
  (a1L C gl true p ⟨fr,sg,ow1⟩).map (·.1)=(a1L C gl true p ⟨fr,sg',ow2⟩).map (·.1)∧(∀ r,a1L C gl true p ⟨fr,sg,ow1⟩=some r→r.2.1=sg∧r.2.2=ow1)∧∀ r,a1L C gl true p ⟨fr,sg',ow2⟩=some r→r.2.1=sg'∧r.2.2=ow2:=by
 have key:∀ (ag:Bool) (n:Nat) (a:Opd) (k:Nat) (ks:List Nat),k∈ks→a1G fr ks sg sg'→(a1L C gl true (.ldk ag n a k) ⟨fr,sg,ow1⟩).map (·.1)=(a1L C gl true (.ldk ag n a k) ⟨fr,sg',ow2⟩).map (·.1)∧(∀ r,a1L C gl true (.ldk ag n a k) ⟨fr,sg,ow1⟩=some r→r.2.1=sg∧r.2.2=ow1)∧∀ r,a1L C gl true (.ldk ag n a k) ⟨fr,sg',ow2⟩=some r→r.2.1=sg'∧r.2.2=ow2:=by
  intro ag n a k ks hm hks
  simp only[a1L,b2D hks hm]
  refine⟨?_,fun r hr=>?_,fun r hr=>?_⟩
  ·cases a1I gl sg ag n (a0A fr k) (Opd.ev fr a) <;> rfl
  ·simp only[g5U] at hr
   obtain⟨_,_,rfl⟩:=hr
   exact⟨rfl,rfl⟩
  ·simp only[g5U] at hr
   obtain⟨_,_,rfl⟩:=hr
   exact⟨rfl,rfl⟩
 unfold a3J at hk
 split at hk
 ·rename_i ag n a k f as ks
  simp only[a1L] at h
  split at h
  ·rename_i v1 sg1 ow1' hc
   split at h
   ·rename_i hkb
    injection h with h
    injection h with e1 e2
    injection e2 with e2 e3
    subst e1 e2 e3
    exact key ag n a k ks (by simpa using hk) (keepsB_iff.1 hkb)
   ·cases h
  ·cases h
 ·rename_i ag n a k n' a' v' ks
  simp only[a1L] at h
  split at h
  ·rename_i sg1 hc
   split at h
   ·rename_i hkb
    injection h with h
    injection h with e1 e2
    injection e2 with e2 e3
    subst e1 e2 e3
    exact key ag n a k ks (by simpa using hk) (keepsB_iff.1 hkb)
   ·cases h
  ·cases h
 ·rename_i ag n a k f as ks
  simp only[a1L] at h
  split at h
  case h_2=>cases h
  rename_i ys sgz hf
  split at h
  case h_2=>cases h
  split at h
  case h_2=>cases h
  split at h
  case isFalse=>cases h
  rename_i hkb
  have e:sg'=sgz:=by
   split at h
   ·split at h <;> (injection h with h;injection h with _ h;injection h with h _;exact h.symm)
   ·injection h with h
    injection h with _ h
    injection h with h _
    exact h.symm
   ·cases h
  subst e
  exact key ag n a k ks (by simpa using hk) (keepsB_iff.1 hkb)
 ·cases hk
theorem b2F {p q:Ins} (hk:a3J p.o q.o=true) {fr:List PV} {sg sg':Sg} {ow ow':Ow} {v:PV} (h:b1O C gl true q fr sg ow=some (v,sg',ow')) :
  (∀ vp,b1O C gl true p fr sg ow=some (vp,sg,ow)→b1O C gl true p fr sg' ow'=some (vp,sg',ow'))∧(∀ vp,b1O C gl true p fr sg' ow'=some (vp,sg',ow')→b1O C gl true p fr sg ow=some (vp,sg,ow)):=by
 unfold b1O at h ⊢
 split at h
 ·obtain⟨k1,k2,k3⟩:=b2E (C:=C) (gl:=gl) hk h ow ow'
  split
  ·refine⟨fun vp hp=>?_,fun vp hp=>?_⟩
   ·rw[hp] at k1
    cases hq:a1L C gl true p.o ⟨fr,sg',ow'⟩ with
    |none=>rw[hq] at k1;cases k1
    |some r =>
     rw[hq] at k1
     simp only[g5V,g5W] at k1
     obtain⟨e1,e2⟩:=k3 r hq
     obtain⟨r1,r2,r3⟩:=r
     simp only at k1 e1 e2
     rw[←k1,e1,e2]
   ·rw[hp] at k1
    cases hq:a1L C gl true p.o ⟨fr,sg,ow⟩ with
    |none=>rw[hq] at k1;cases k1
    |some r =>
     rw[hq] at k1
     simp only[g5V,g5W] at k1
     obtain⟨e1,e2⟩:=k2 r hq
     obtain⟨r1,r2,r3⟩:=r
     simp only at k1 e1 e2
     rw[k1,e1,e2]
  ·exact⟨fun vp hp=>by injection hp with hp;injection hp with hp _;rw[hp],fun vp hp=>by injection hp with hp;injection hp with hp _;rw[hp]⟩
 ·injection h with h
  injection h with e1 e2
  injection e2 with e2 e3
  subst e2 e3
  exact⟨fun vp hp=>hp,fun vp hp=>hp⟩
theorem b2G {p q:O} (h:a3J p q=true):cls p≤1:=by
 unfold a3J at h
 split at h
 ·exact g5K _
 ·exact g5K _
 ·exact g5K _
 ·cases h
theorem b2H {dr:Bool} {sg r:Sg} {ow:Ow} {sz bytes:Nat} {a b:PV} {x:PV×Ow} (h:a0V dr sg ow sz bytes a b=some x):a0V dr (sg++r) ow sz bytes a b=some x:=by
 have key:∀ {es:List (List T)},a0L sg sz b=some es→a0L (sg++r) sz b=some es:=fun h=>b1X h
 cases b with
 |t y =>
  cases y with
  |str s=>exact h
  |_ =>
   unfold a0V at h ⊢
   simp only at h ⊢
   split at h
   ·cases h
   ·rename_i he;rw[key he];exact h
   ·rename_i he;rw[key he];exact h
 |_ =>
  unfold a0V at h ⊢
  simp only at h ⊢
  split at h
  ·cases h
  ·rename_i he;rw[key he];exact h
  ·rename_i he;rw[key he];exact h
theorem b2I {p:O} (hp:a3H p=true) {fr:List PV} {sg sg':Sg} {ow ow':Ow} {v:PV} (h:a1L C gl true p ⟨fr,sg,ow⟩=some (v,sg',ow')):sg'=sg∧∀ r,a1L C gl true p ⟨fr,sg++r,ow⟩=some (v,sg++r,ow'):=by
 cases p <;> simp only[a3H,g3D] at hp
 case app sz bytes a b =>
  simp only[a1L,g5U,Prod.mk.injEq] at h
  obtain⟨x,hx,e1,e2,e3⟩:=h
  refine⟨e2.symm,fun r=>?_⟩
  simp only[a1L,g5U,Prod.mk.injEq]
  refine⟨x,?_,e1,by first|trivial|rw[←e2],e3⟩
  exact b2H hx
theorem b2J {p:Ins} (hp:a3H p.o=true) {fr:List PV} {sg sg':Sg} {ow ow':Ow} {v:PV} (h:b1O C gl true p fr sg ow=some (v,sg',ow')):sg'=sg∧∀ r,b1O C gl true p fr (sg++r) ow=some (v,sg++r,ow'):=by
 unfold b1O at h ⊢
 split at h
 ·rename_i hw
  obtain⟨h1,h2⟩:=b2I hp h
  refine⟨h1,fun r=>?_⟩
  rw[if_pos hw]
  exact h2 r
 ·rename_i hw
  injection h with h
  injection h with e1 e2
  injection e2 with e2 e3
  refine⟨e2.symm,fun r=>?_⟩
  rw[if_neg hw,e1,e3]
theorem b2K {q:Ins} (hq:cls q.o≤1) {fr:List PV} {sg:Sg} {ow ow':Ow} {v:PV} (h:b1O C gl true q fr sg ow=some (v,sg,ow)):b1O C gl true q fr sg ow'=some (v,sg,ow'):=by
 unfold b1O at h ⊢
 split at h
 ·rename_i hw
  rw[if_pos hw]
  have:=b2A (r:=[]) (ow':=ow') q.o hq h
  simpa using this
 ·rename_i hw
  rw[if_neg hw]
  injection h with h
  injection h with h _
  rw[h]
theorem b2L {q:O} (hq:a3I q=true) {fr:List PV} {sg sg':Sg} {ow ow':Ow} {v:PV} (h:a1L C gl true q ⟨fr,sg,ow⟩=some (v,sg',ow')):ow'=ow∧(∃ r,sg'=sg++r)∧∀ ow1,a1L C gl true q ⟨fr,sg,ow1⟩=some (v,sg',ow1):=by
 cases q <;> simp only[a3I,g3D] at hq
 all_goals
  simp only[a1L,g5W,Prod.mk.injEq] at h ⊢
  obtain⟨e1,e2,e3⟩:=h
  exact⟨e3.symm,⟨_,e2.symm⟩,fun _=>⟨e1,e2,trivial⟩⟩
theorem b2M {q:Ins} (hq:a3I q.o=true) {fr:List PV} {sg sg':Sg} {ow ow':Ow} {v:PV} (h:b1O C gl true q fr sg ow=some (v,sg',ow')):ow'=ow∧(∃ r,sg'=sg++r)∧∀ ow1,b1O C gl true q fr sg ow1=some (v,sg',ow1):=by
 unfold b1O at h ⊢
 split at h
 ·rename_i hw
  obtain⟨h1,h2,h3⟩:=b2L hq h
  refine⟨h1,h2,fun ow1=>?_⟩
  rw[if_pos hw]
  exact h3 ow1
 ·rename_i hw
  injection h with h
  injection h with e1 e2
  injection e2 with e2 e3
  refine⟨e3.symm,⟨[],by rw[←e2,g3O]⟩,fun ow1=>?_⟩
  rw[if_neg hw,e1,e2]
theorem b2N {p q:Ins} (hc:a3K p q=true) {s s1 s2:S} (h1:a1M C gl true p s=some s1) (h2:a1M C gl true q s1=some s2):∃ t,a1M C gl true q s=some t∧a1M C gl true p t=some s2:=by
 simp only[a3K,g3C,g3G,g6B] at hc
 obtain⟨⟨⟨hpq,hqp⟩,hdd⟩,hcls'⟩:=hc
 rw[b1P] at h1 h2
 simp only[g5U] at h1 h2
 obtain⟨⟨vp,sg1,ow1⟩,e1,rfl⟩:=h1
 obtain⟨⟨vq,sg2,ow2⟩,e2,rfl⟩:=h2
 simp only at e2 ⊢
 rw[b1R q (put s.fr p.d vp) s.fr sg1 ow1 (fun k hk=>b1G s.fr p.d vp _ hpq k hk)] at e2
 have hback:∀ (sgx:Sg) (owx:Ow),b1O C gl true p (put s.fr q.d vq) sgx owx=b1O C gl true p s.fr sgx owx:=fun sgx owx=>b1R p _ _ _ _ (fun k hk=>b1G s.fr q.d vq _ hqp k hk)
 have hput:put (put s.fr p.d vp) q.d vq=put (put s.fr q.d vq) p.d vp:=b1F s.fr p.d q.d vp vq hdd
 rcases hcls' with hcls|⟨hp1,hq1⟩|(hkp|hkp)|⟨hap,haq|haq⟩
 rotate_left
 ·obtain⟨rfl,rfl⟩:=b1T p hp1 e1
  refine⟨⟨put s.fr q.d vq,sg2,ow2⟩,by rw[b1P,e2];rfl,?_⟩
  rw[b1P]
  simp only[hback]
  rw[b2C hp1 hq1 e1 e2,hput]
  rfl
 ·obtain⟨rfl,rfl⟩:=b1T p (b2G hkp) e1
  refine⟨⟨put s.fr q.d vq,sg2,ow2⟩,by rw[b1P,e2];rfl,?_⟩
  rw[b1P]
  simp only[hback]
  rw[(b2F hkp e2).1 vp e1,hput]
  rfl
 ·obtain⟨rfl,rfl⟩:=b1T q (b2G hkp) e2
  have e3:=(b2F hkp e1).2 vq e2
  refine⟨⟨put s.fr q.d vq,s.sg,s.ow⟩,by rw[b1P,e3];rfl,?_⟩
  rw[b1P]
  simp only[hback,e1,hput]
  rfl
 ·obtain⟨rfl,hpm⟩:=b2J hap e1
  obtain⟨rfl,rfl⟩:=b1T q haq e2
  have e3:=b2K (ow':=s.ow) haq e2
  refine⟨⟨put s.fr q.d vq,s.sg,s.ow⟩,by rw[b1P,e3];rfl,?_⟩
  rw[b1P]
  simp only[hback,e1,hput]
  rfl
 ·obtain⟨rfl,hpm⟩:=b2J hap e1
  obtain⟨rfl,⟨r,rfl⟩,hqm⟩:=b2M haq e2
  refine⟨⟨put s.fr q.d vq,s.sg++r,s.ow⟩,by rw[b1P,hqm];rfl,?_⟩
  rw[b1P]
  simp only[hback,hpm r,hput]
  rfl
 have hcase:cls p.o=0∨cls q.o=0∨(cls p.o≤1∧cls q.o≤1):=by
  rcases Nat.eq_zero_or_pos (cls p.o) with h|h
  ·exact .inl h
  ·rcases Nat.eq_zero_or_pos (cls q.o) with h'|h'
   ·exact .inr (.inl h')
   ·refine .inr (.inr ⟨?_,?_⟩)
    ·have:cls p.o * 1≤cls p.o * cls q.o:=Nat.mul_le_mul_left _ h'
     omega
    ·have:1 * cls q.o≤cls p.o * cls q.o:=g5O _ h
     omega
 rcases hcase with h|h|⟨h,h'⟩
 ·obtain⟨rfl,rfl⟩:=b1T p (by omega) e1
  refine⟨⟨put s.fr q.d vq,sg2,ow2⟩,by rw[b1P,e2];rfl,?_⟩
  rw[b1P]
  simp only[hback]
  rw[b1S p h s.fr sg2 s.sg ow2 s.ow,e1,hput]
  rfl
 ·obtain⟨rfl,rfl⟩:=b1T q (by omega) e2
  have e3:b1O C gl true q s.fr s.sg s.ow=some (vq,s.sg,s.ow):=by
   rw[b1S q h s.fr s.sg sg2 s.ow ow2,e2]
   rfl
  refine⟨⟨put s.fr q.d vq,s.sg,s.ow⟩,by rw[b1P,e3];rfl,?_⟩
  rw[b1P]
  simp only[hback,e1,hput]
  rfl
 ·obtain⟨rfl,rfl⟩:=b1T p h e1
  obtain⟨rfl,rfl⟩:=b1T q h' e2
  refine⟨⟨put s.fr q.d vq,s.sg,s.ow⟩,by rw[b1P,e2];rfl,?_⟩
  rw[b1P]
  simp only[hback,e1,hput]
  rfl
noncomputable def b2O (C:Cal) (gl:Nat→Option (List T)) (dr:Bool) (is:List Ins):List Nat→S→Option S
 |[],s=>some s
 |i::r,s=>match is[i]? with
  |some q=>match a1M C gl dr q s with
   |some s'=>b2O C gl dr is r s'
   |none=>none
  |none=>none
theorem b2P (is:List Ins) (l m:List Nat) (s:S):b2O C gl dr is (l++m) s=(b2O C gl dr is l s).bind (b2O C gl dr is m):=by
 induction l generalizing s with
 |nil=>rfl
 |cons i r ih =>
  simp only[g3Q,b2O]
  cases is[i]? with
  |none=>rfl
  |some q =>
   simp only
   cases a1M C gl dr q s with
   |none=>rfl
   |some s'=>exact ih s'
theorem b2Q (is:List Ins):∀ (k:Nat) (s:S),a1N C gl dr (is.drop k) s=b2O C gl dr is (List.range' k (is.length - k)) s:=by
 intro k
 induction hn:is.length - k generalizing k with
 |zero =>
  intro s
  rw[List.drop_eq_nil_of_le (by omega)]
  rfl
 |succ n ih =>
  intro s
  have hlt:k < is.length:=by omega
  rw[List.drop_eq_getElem_cons hlt,List.range'_succ]
  simp only[a1N,b2O,g3Y hlt]
  cases a1M C gl dr is[k] s with
  |none=>rfl
  |some s'=>exact ih (k+1) (by omega) s'
theorem b2R (is:List Ins) (i:Nat) (q:Ins) (hq:is[i]?=some q):∀ (l:List Nat) (s s':S),(∀ j∈l,∀ p,is[j]?=some p→a3K p q=true)→b2O C gl true is (l++[i]) s=some s'→b2O C gl true is (i::l) s=some s':=by
 intro l
 induction l with
 |nil=>intro s s' _ h;exact h
 |cons j l ih =>
  intro s s' hc h
  simp only[g3Q,b2O] at h
  cases hj:is[j]? with
  |none=>rw[hj] at h;cases h
  |some p =>
   rw[hj] at h
   simp only at h
   cases hp:a1M C gl true p s with
   |none=>rw[hp] at h;cases h
   |some s1 =>
    rw[hp] at h
    have h2:=ih s1 s' (fun k hk=>hc k (g4V _ hk)) h
    simp only[b2O,hq] at h2
    cases hq1:a1M C gl true q s1 with
    |none=>rw[hq1] at h2;cases h2
    |some s2 =>
     rw[hq1] at h2
     obtain⟨t,t1,t2⟩:=b2N (hc j (by simp) p hj) hp hq1
     simp only[b2O,hq,t1,hj,t2]
     exact h2
end Go.Pi
