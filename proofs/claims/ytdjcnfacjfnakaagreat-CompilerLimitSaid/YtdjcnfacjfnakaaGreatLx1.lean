/- LX 1: the lexer in plain words. No program in sight. -/
import Derived.Lib.Bytealg
set_option linter.unusedSimpArgs false
set_option linter.unusedVariables false
namespace Go.Lx
def d1Q (c:UInt8):Bool:=decide (97≤c)&&decide (c≤122)
def d1R (c:UInt8):Bool:=decide (48≤c)&&decide (c≤57)
def d1S (c:UInt8):Bool:=d1Q c || d1R c || c == 95
def d1T (p:UInt8→Bool):List UInt8→Nat
 |[]=>0
 |c::r=>if p c then d1T p r+1 else 0
def keywords:List (List UInt8) :=
 [[97,110,100],[97,115,115,101,114,116],[98,111,111,108],[102,97,108,115,101],[102,105,101,108,100],[102,110],[102,111,114],[104,97,115,104],[105,110],
  [108,101,116],[110,111,116],[111,114],[112,117,98,108,105,99],[114,101,116,117,114,110],[115,101,99,114,101,116],[116,114,117,101],[117,105,110,116]]
structure Tok where
 kind:Nat
 text:List UInt8
 val:Nat
 pos:Nat
inductive Nx where
 |err (e:Nat)
 |ok (k n v:Nat)
inductive Res where
 |toks (l:List Tok)
 |err (p e:Nat)
def Res.cons (t:Tok):Res→Res
 |.toks l=>.toks (t::l)
 |.err p e=>.err p e
def d1U (d:Nat) (t:Tok):Tok:={ t with pos:=t.pos+d }
def Res.shift (d:Nat):Res→Res
 |.toks l=>.toks (l.map (d1U d))
 |.err p e=>.err (p+d) e
def Res.app (l:List Tok):Res→Res
 |.toks m=>.toks (l++m)
 |.err p e=>.err p e
def Res.then (r:Res) (q:Res):Res :=
 match r with
 |.toks l=>q.app l.dropLast
 |.err p e=>.err p e
end Go.Lx
