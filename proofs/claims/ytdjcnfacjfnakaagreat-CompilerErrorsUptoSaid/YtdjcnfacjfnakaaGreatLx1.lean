/- LX 1: the lexer in plain words. -/
import Derived.Lib.Bytealg
set_option linter.unusedSimpArgs false
set_option linter.unusedVariables false
namespace Go.Lx
def d1A (c:UInt8):Bool:=decide (97<=c)&&decide (c<=122)
def d1B (c:UInt8):Bool:=decide (48<=c)&&decide (c<=57)
def d1C (c:UInt8):Bool:=d1A c || d1B c || c == 95
def d1D (p:UInt8->Bool):List UInt8->Nat
 |[]=>0
 |c::r=>if p c then d1D p r+1 else 0
def keywords:List (List UInt8) :=
 [[97,110,100],[97,115,115,101,114,116],[98,111,111,108],[102,97,108,115,101],[102,105,101,108,100],[102,110],[102,111,114],[104,97,115,104],[105,110],
  [108,101,116],[110,111,116],[111,114],[112,117,98,108,105,99],[114,101,116,117,114,110],[115,101,99,114,101,116],[116,114,117,101],[117,105,110,116]]
structure Tok where
 kind:Nat
 text:List UInt8
 val:Nat
 pos:Nat
inductive Nx where
 |err (e:Nat)
 |ok (k n v:Nat)
inductive Res where
 |toks (l:List Tok)
 |err (p e:Nat)
def Res.cons (t:Tok):Res->Res
 |.toks l=>.toks (t::l)
 |.err p e=>.err p e
theorem d1E (p:UInt8->Bool):∀ (s:List UInt8) (c:UInt8),c∈s.take (d1D p s)->p c=true:=by
 intro s
 induction s with
 |nil=>intro c h;simp at h
 |cons x r ih =>
  intro c h
  simp only[d1D] at h
  split at h
  ·rename_i hx
   simp only[List.take_succ_cons,List.mem_cons] at h
   rcases h with rfl|h
   ·exact hx
   ·exact ih c h
  ·simp at h
def d1F (d:Nat) (t:Tok):Tok:={ t with pos:=t.pos+d }
def Res.shift (d:Nat):Res->Res
 |.toks l=>.toks (l.map (d1F d))
 |.err p e=>.err (p+d) e
def Res.app (l:List Tok):Res->Res
 |.toks m=>.toks (l++m)
 |.err p e=>.err p e
end Go.Lx
