/- PI 38: strings.Builder's copyCheck and String, over any program that bears their bodies: what they do to the store (the proofs of the worked contracts, turned: the world behind is told exactly). -/
import Derived.Shelf.Strings.Builder1
import Derived.Test.YtcbgiabippcpaaaGreatDoorPi37
set_option linter.unusedSimpArgs false
set_option linter.unusedVariables false
namespace Go.Proofs
open Go.Shelf Go.RowKit
variable {P:Program} {ρ:Ren}
theorem f2E (w:World) (a:Addr) (n:Nat):(w.drew.freeze a n).heap=(w.freeze a n).heap∧(w.drew.freeze a n).os=w.os∧(w.drew.freeze a n).tape=w.tape∧(w.drew.freeze a n).output=w.output:=by
 unfold World.freeze
 split <;> exact⟨rfl,rfl,rfl,rfl⟩
set_option maxHeartbeats 2000000 in
set_option maxRecDepth 100000 in
theorem f2F (L:Lays.n169 P ρ) (X:Builder.Extra P ρ) (b g cap:Nat) (w:World) (c cur:Array Value) (t:TypeId) (z y:Nat×Nat) (l:List UInt8) (hb:w.heap[b]?=some (.cells c t z)) (hc:c[1]?=some (.slice (some ⟨g,0,none⟩) l.length cap))
  (hg:w.heap[g]?=some (.cells cur (ρ.t 5) y)) (h0:l≠[]) (h1:l.length≤cap) (h2:l.length≤cur.size) (h3:l.length≤4611686018427387904) (hcell:∀ (j:Nat) (x:UInt8),l[j]?=some x→w.cell? ⟨g,j,none⟩=some (.int .u8 x.toNat)) :
  Calls P (ρ.f 169) #[.pointer (some ⟨b,0,none⟩)] w fun e w'=>e=.returned (.string ⟨l.toArray⟩)∧w'.heap=(w.freeze ⟨g,0,none⟩ l.length).heap∧w'.os=w.os∧w'.tape=w.tape∧w'.output=w.output:=by
 have hl0:l.length≠0:=by simpa using h0
 have c1:w.drew.cell? ⟨b,1,none⟩=some (.slice (some ⟨g,0,none⟩) l.length cap):=by
  have:w.drew.heap[b]?=some (.cells c t z):=hb
  rw[Lib.cell_of_heap this];exact hc
 have hSD:(Builtin.unsafeSliceData_ #[(ρ.t 37)] (ρ.t 127) #[.slice (some ⟨g,0,none⟩) l.length cap]).run P w.drew=.ok (.pointer (some ⟨g,0,none⟩)) w.drew :=
  Lib.run_unsafeSliceData_row _ _ _ _ _ _ (by omega)
 have hUS:(Builtin.unsafeString_ #[(ρ.t 127),(ρ.t 3)] (ρ.t 9) #[.pointer (some ⟨g,0,none⟩),.int .i64 l.length]).run P w.drew=.ok (.string ⟨l.toArray⟩) (w.drew.freeze ⟨g,0,none⟩ l.length):=by
  refine Lib.run_unsafeString_row w.drew (ρ.t 127) (ρ.t 3) (ρ.t 9) (ρ.t 5) L.t127 X.cellsByte g cur.size (by have hg':w.drew.heap[g]?=some (.cells cur (ρ.t 5) y):=hg;simp [World.shape?,hg']) l h0 h2 (by omega) ?_
  intro j x hx
  rw[Pi.add_plain,g8Z]
  exact hcell j x hx
 have mixed:=L.mixed
 have t72:=L.t72;have a72:=L.a72;have z72:=L.z72;have v72:=L.v72;have u72:=run_underlying L.t72
 have t70:=L.t70;have a70:=L.a70;have z70:=L.z70;have v70:=L.v70;have u70:=run_underlying L.t70
 have t37:=L.t37;have a37:=L.a37;have z37:=L.z37;have v37:=L.v37;have u37:=run_underlying L.t37
 have t127:=L.t127;have a127:=L.a127;have z127:=L.z127;have v127:=L.v127;have u127:=run_underlying L.t127
 have t3:=L.t3;have a3:=L.a3;have z3:=L.z3;have v3:=L.v3;have u3:=run_underlying L.t3
 have t9:=L.t9;have a9:=L.a9;have z9:=L.z9;have v9:=L.v9;have u9:=run_underlying L.t9
 have t5:=X.t5;have a5:=X.a5;have z5:=X.z5;have v5:=X.v5;have u5:=run_underlying X.t5
 go_enter L.f169,Body.n169_ntmps ρ
 go_wp2
 go_region_o
 all_goals (go_wp2;go_ret;exact⟨rfl,f2E w _ _⟩)
set_option maxHeartbeats 2000000 in
set_option maxRecDepth 100000 in
theorem f2G (L:Lays.n169 P ρ) (X:Builder.Extra P ρ) (b:Nat) (w:World) (c:Array Value) (t:TypeId) (z:Nat×Nat) (hb:w.heap[b]?=some (.cells c t z)) (hc:c[1]?=some (.slice none 0 0)) :
  Calls P (ρ.f 169) #[.pointer (some ⟨b,0,none⟩)] w fun e w'=>e=.returned (.string ⟨#[]⟩)∧w'.heap=w.heap∧w'.os=w.os∧w'.tape=w.tape∧w'.output=w.output:=by
 have hUS:=Any.unsafeString_none L X
 have c1:w.drew.cell? ⟨b,1,none⟩=some (.slice none 0 0):=by
  have:w.drew.heap[b]?=some (.cells c t z):=hb
  rw[Lib.cell_of_heap this];exact hc
 have hSD:(Builtin.unsafeSliceData_ #[(ρ.t 37)] (ρ.t 127) #[.slice none 0 0]).run P w.drew=.ok (.pointer none) w.drew:=rfl
 have mixed:=L.mixed
 have t72:=L.t72;have a72:=L.a72;have z72:=L.z72;have v72:=L.v72;have u72:=run_underlying L.t72
 have t70:=L.t70;have a70:=L.a70;have z70:=L.z70;have v70:=L.v70;have u70:=run_underlying L.t70
 have t37:=L.t37;have a37:=L.a37;have z37:=L.z37;have v37:=L.v37;have u37:=run_underlying L.t37
 have t127:=L.t127;have a127:=L.a127;have z127:=L.z127;have v127:=L.v127;have u127:=run_underlying L.t127
 have t3:=L.t3;have a3:=L.a3;have z3:=L.z3;have v3:=L.v3;have u3:=run_underlying L.t3
 have t9:=L.t9;have a9:=L.a9;have z9:=L.z9;have v9:=L.v9;have u9:=run_underlying L.t9
 have t5:=X.t5;have a5:=X.a5;have z5:=X.z5;have v5:=X.v5;have u5:=run_underlying X.t5
 go_enter L.f169,Body.n169_ntmps ρ
 go_wp2
 go_region_o
 all_goals (go_wp2;go_ret;exact⟨rfl,rfl,rfl,rfl,rfl⟩)
theorem f2H {u:Pi.Bu} (L':Lays.n169 P ρ) (X':Builder.Extra P ρ) (e3:u.e=ρ.t 5) (e4:u.f=ρ.f 169)
  (hc : ∃ fn c, P.funcs[u.c]? = some fn ∧ fn.body = some c ∧ (fn.name == "runtime.NumGoroutine") = false) (hf : ∃ fn c, P.funcs[u.f]? = some fn ∧ fn.body = some c ∧ (fn.name == "runtime.NumGoroutine") = false)
  (used:∀ (b:Nat) (w:World),w.cell? ⟨b,0,none⟩=some (.pointer (some ⟨b,0,none⟩))→Calls P u.c #[.pointer (some ⟨b,0,none⟩)] w fun e w'=>e=.returned (.tuple #[])∧w'=w)
  (fresh:∀ (b:Nat) (w:World),w.cell? ⟨b,0,none⟩=some (.pointer none)→w.shape? b=some (u.b,2)→w.frozen? ⟨b,0,none⟩=false→Calls P u.c #[.pointer (some ⟨b,0,none⟩)] w fun e w'=>e=.returned (.tuple #[])∧w'=w.setCell ⟨b,0,none⟩ (.pointer (some ⟨b,0,none⟩))):Pi.BuOk P u where
 hc:=hc
 hf:=hf
 cck b w c z hb hs hz h0:=by
  have hcc:w.cell? ⟨b,0,none⟩=c[0]?:=by rw[Lib.cell_of_heap hb]
  rcases h0 with h0|h0
  ·refine(fresh b w (hcc.trans h0) (by simp [World.shape?,hb,hs]) ?_).mono ?_
   ·simp only[World.frozen?,hb,g5T,decide_eq_false_iff_not]
    omega
   ·rintro e w' ⟨rfl,rfl⟩
    exact⟨rfl,.inr rfl⟩
  ·refine(used b w (hcc.trans h0)).mono ?_
   rintro e w' ⟨rfl,rfl⟩
   exact⟨rfl,.inl rfl⟩
 nil:=by rw[e4];exact f2G L' X'
 str:=by rw[e3,e4];exact f2F L' X'
end Go.Proofs
