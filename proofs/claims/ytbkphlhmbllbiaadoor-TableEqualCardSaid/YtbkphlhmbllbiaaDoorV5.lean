/- What the arguments of the laws are: tables, lists of numbers. -/
import Derived.Test.YtbkphlhmbllbiaaDoorV4
import Derived.Test.YtbkphlhmbllbiaaDoorPi31
namespace Go.Proofs.YtbkphlhmbllbiaaDoor
open Go.Pi

abbrev ctLin : CT := .sl [.int .i64, .int .u64]
abbrev ctTab : List CT := [.int .u64, .int .i64, .int .i64, .sl [ctLin, ctLin, ctLin]]
def termWf (t : Int × Int) : Prop := -9223372036854775808 ≤ t.1 ∧ t.1 ≤ 9223372036854775807 ∧ 0 ≤ t.2 ∧ t.2 ≤ 18446744073709551615
def linWf (l : Lin) : Prop := l.2.length ≤ 140737488355328 ∧ (l.1 = true → l.2 = []) ∧ ∀ t, t ∈ l.2 → termWf t
def rowWf (r : Row) : Prop := linWf r.1 ∧ linWf r.2.1 ∧ linWf r.2.2
structure TabWf (t : Tab) : Prop where
  p0 : 0 ≤ t.p
  p1 : t.p ≤ 18446744073709551615
  pub0 : -9223372036854775808 ≤ t.pub
  pub1 : t.pub ≤ 9223372036854775807
  vars0 : -9223372036854775808 ≤ t.vars
  vars1 : t.vars ≤ 9223372036854775807
  nl : t.nl = true → t.rows = []
  len : t.rows.length ≤ 140737488355328
  rows : ∀ r, r ∈ t.rows → rowWf r
theorem TabWf.ok {t : Tab} (h : TabWf t) : TabOk t where
  len := by have := h.len; omega
  rows r hr := by
    obtain ⟨⟨a, _⟩, ⟨b, _⟩, ⟨c, _⟩⟩ := h.rows r hr
    exact ⟨by omega, by omega, by omega⟩
theorem lin_of {x : T} (h : Wt 140737488355328 ctLin x) : ∃ l, x = tLin l ∧ linWf l := by
  obtain ⟨nl, es, rfl, hl, hnl, he⟩ := wt_sl h
  obtain ⟨l, rfl, hp⟩ := list_enc (enc := tTerm) (p := termWf) fun e hm => by
    obtain ⟨a, r, rfl, ha, hr⟩ := wts_cons (he e hm)
    obtain ⟨b, r, rfl, hb, hr⟩ := wts_cons hr
    obtain rfl := wts_nil hr
    obtain ⟨n, rfl, n1, n2⟩ := wt_i64 ha
    obtain ⟨m, rfl, m1, m2⟩ := wt_u64 hb
    exact ⟨(n, m), rfl, n1, n2, m1, m2⟩
  exact ⟨(nl, l), rfl, by simpa using hl, fun hn => by simpa using hnl hn, hp⟩
theorem tab_of {x : T} (h : ArgT 140737488355328 (true, ctTab) x) : ∃ t, x = tTab t ∧ TabWf t := by
  obtain ⟨xs, rfl, hw⟩ := argT_agg h
  clear h
  rename Wts _ _ _ => h
  obtain ⟨a, r, rfl, ha, h⟩ := wts_cons h
  obtain ⟨b, r, rfl, hb, h⟩ := wts_cons h
  obtain ⟨c, r, rfl, hc, h⟩ := wts_cons h
  obtain ⟨d, r, rfl, hd, h⟩ := wts_cons h
  obtain rfl := wts_nil h
  obtain ⟨p, rfl, p1, p2⟩ := wt_u64 ha
  obtain ⟨q, rfl, q1, q2⟩ := wt_i64 hb
  obtain ⟨v, rfl, v1, v2⟩ := wt_i64 hc
  obtain ⟨nl, es, rfl, hl, hnl, he⟩ := wt_sl hd
  obtain ⟨l, rfl, hp⟩ := list_enc (enc := tRow) (p := rowWf) fun e hm => by
    obtain ⟨a, r, rfl, ha, hr⟩ := wts_cons (he e hm)
    obtain ⟨b, r, rfl, hb, hr⟩ := wts_cons hr
    obtain ⟨c, r, rfl, hc, hr⟩ := wts_cons hr
    obtain rfl := wts_nil hr
    obtain ⟨a, rfl, a1⟩ := lin_of ha
    obtain ⟨b, rfl, b1⟩ := lin_of hb
    obtain ⟨c, rfl, c1⟩ := lin_of hc
    exact ⟨(a, b, c), rfl, a1, b1, c1⟩
  exact ⟨⟨p, q, v, nl, l⟩, rfl, p1, p2, q1, q2, v1, v2, fun hn => by simpa using hnl hn, by simpa using hl, hp⟩
def tU (l : List Int) : List (List T) := l.map fun n => [.int .u64 n]
def u64s (l : List Int) : Prop := ∀ n, n ∈ l → 0 ≤ n ∧ n ≤ 18446744073709551615
theorem nums_of {x : T} (h : Wt 140737488355328 (.sl [.int .u64]) x) : ∃ nl l, x = .sl nl (tU l) ∧ l.length ≤ 140737488355328 ∧ u64s l := by
  obtain ⟨nl, es, rfl, hl, hnl, he⟩ := wt_sl h
  obtain ⟨l, rfl, hp⟩ := list_enc (enc := fun n => [.int .u64 n]) (p := fun n => 0 ≤ n ∧ n ≤ 18446744073709551615) fun e hm => by
    obtain ⟨a, r, rfl, ha, hr⟩ := wts_cons (he e hm)
    obtain rfl := wts_nil hr
    obtain ⟨m, rfl, m1, m2⟩ := wt_u64 ha
    exact ⟨m, rfl, m1, m2⟩
  exact ⟨nl, l, rfl, by simpa using hl, hp⟩
theorem args3 : ∀ xs, ArgsT 140737488355328 [(true, ctTab)] xs → ∃ n sg ow, pcall F gl n 3 (xs.map .t) [] [] = some (.t (.bool true), sg, ow) := by
  intro xs h
  obtain ⟨x, r, rfl, hx, h⟩ := argsT_cons h
  obtain rfl := argsT_nil h
  obtain ⟨t, rfl, ht⟩ := tab_of hx
  exact CallP.law (law3 t ht.ok)
end Go.Proofs.YtbkphlhmbllbiaaDoor
