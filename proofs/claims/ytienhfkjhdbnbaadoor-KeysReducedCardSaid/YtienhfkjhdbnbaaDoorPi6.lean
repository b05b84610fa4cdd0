/- PI 6: integers, strings, comparison, parts, indexes, slices. Program independent. -/
import Derived.Test.YtienhfkjhdbnbaaDoorPi5
import Derived.Laws.StructEq
import Derived.ChangeKeysEq
import Derived.Lib.Strings
namespace Go.Pi
variable {P : Program} {tb : Tb} {fx : List (Nat × Nat)} {gl : Nat → Option (List T)} {G : Gh} {w : World} {sg : Sg} {ow : Ow} {nt : Nat} {a : Act} {fr : List PV}

theorem run_binI {op : BinOp} {k : IntKind} {x y : Int} {r : T} (t : TypeId) (h : binI op k x y = some r) (w : World) : ∃ v, (binOp op t (.int k x) (.int k y)).run P w = .ok v w ∧ PRep fx G w v (.t r) := by
  cases op <;> simp only [binI, ibits, Option.map_some, Option.some.injEq, reduceCtorEq] at h
  case quo =>
    split at h
    · cases h
    · rename_i hy
      injection h with h
      subst h
      exact ⟨_, by simp [binOp, Op.intDiv, hy], .tint _ _⟩
  case rem =>
    split at h
    · cases h
    · rename_i hy
      injection h with h
      subst h
      exact ⟨_, by simp [binOp, Op.intDiv, hy], .tint _ _⟩
  all_goals subst h
  case add => exact ⟨_, by simp [binOp, Op.intArith], .tint _ _⟩
  case sub => exact ⟨_, by simp [binOp, Op.intArith], .tint _ _⟩
  case mul => exact ⟨_, by simp [binOp, Op.intArith], .tint _ _⟩
  case and => exact ⟨_, by simp [binOp, Op.intBits], .tint _ _⟩
  case or => exact ⟨_, by simp [binOp, Op.intBits], .tint _ _⟩
  case xor => exact ⟨_, by simp [binOp, Op.intBits], .tint _ _⟩
  case andNot => exact ⟨_, by simp [binOp, Op.intBits], .tint _ _⟩
  all_goals exact ⟨_, by simp [binOp, Op.intCmp], .tbool _⟩
theorem run_shiftI {op : BinOp} {k k' : IntKind} {x y : Int} {r : T} (t : TypeId) (hop : op = .shl ∨ op = .shr) (h : shiftI op k x y = some r) (w : World) : ∃ v, (binOp op t (.int k x) (.int k' y)).run P w = .ok v w ∧ PRep fx G w v (.t r) := by
  unfold shiftI at h
  split at h
  · cases h
  · rename_i hy
    rcases hop with rfl | rfl
    · simp only [Option.some.injEq] at h
      subst h
      exact ⟨_, by simp [binOp, Op.shift, hy], .tint _ _⟩
    · simp only [Option.some.injEq] at h
      subst h
      exact ⟨_, by simp [binOp, Op.shift, hy], .tint _ _⟩
theorem append_data (a b : ByteArray) : (a ++ b).data.toList = a.data.toList ++ b.data.toList := by simp
theorem run_binS {op : BinOp} {x y : ByteArray} {r : T} (t : TypeId) (h : binS op x.data.toList y.data.toList = some r) (w : World) : ∃ v, (binOp op t (.string x) (.string y)).run P w = .ok v w ∧ PRep fx G w v (.t r) := by
  cases op <;> simp only [binS, Option.some.injEq, reduceCtorEq] at h
  case add =>
    split at h
    · rename_i hb
      injection h with h
      subst h
      refine ⟨.string (x ++ y), ?_, .tstr (append_data x y)⟩
      have hb' : x.size + y.size ≤ 4611686018427387904 := by rw [Lib.size_eq, Lib.size_eq]; exact hb
      have hmax : ¬ ((x.size + y.size : Nat) : Int) > IntKind.i64.max := by rw [IntKind.max_i64]; omega
      simp only [binOp, Op.stringOp]
      rw [if_neg hmax]
      rfl
    · cases h
  all_goals subst h
  all_goals exact ⟨_, by simp [binOp, Op.stringOp, ByteArray.toList_eq], .tbool _⟩
theorem run_binT {op : BinOp} {v1 v2 : Value} {x1 x2 : PV} {r : T} (t : TypeId) (h1 : PRep fx G w v1 x1) (h2 : PRep fx G w v2 x2) (h : binT op x1 x2 = some r) (e1 e2 : Operand) :
    ∃ v, (do eqGuard op t e1 e2 v1 v2; binOp op t v1 v2 : Sem Value).run P w = .ok v w ∧ PRep fx G w v (.t r) := by
  unfold binT at h
  split at h
  · rename_i k x k' y
    have := h1.int_inv
    have := h2.int_inv
    subst v1 v2
    split at h
    · obtain ⟨v, e, hp⟩ := run_shiftI (P := P) (fx := fx) (G := G) (k' := k') t (.inl rfl) h w
      exact ⟨v, by simp only [eqGuard_at_int, Sem.run_bind, Sem.run_pure, Result.andThen_ok, e], hp⟩
    · obtain ⟨v, e, hp⟩ := run_shiftI (P := P) (fx := fx) (G := G) (k' := k') t (.inr rfl) h w
      exact ⟨v, by simp only [eqGuard_at_int, Sem.run_bind, Sem.run_pure, Result.andThen_ok, e], hp⟩
    · split at h
      · rename_i hk
        subst hk
        obtain ⟨v, e, hp⟩ := run_binI (P := P) (fx := fx) (G := G) t h w
        exact ⟨v, by simp only [eqGuard_at_int, Sem.run_bind, Sem.run_pure, Result.andThen_ok, e], hp⟩
      · cases h
  · obtain ⟨s1, rfl, e1⟩ := h1.str_inv
    obtain ⟨s2, rfl, e2⟩ := h2.str_inv
    subst e1 e2
    obtain ⟨v, e, hp⟩ := run_binS (P := P) (fx := fx) (G := G) t h w
    exact ⟨v, by simp only [eqGuard_at_string, Sem.run_bind, Sem.run_pure, Result.andThen_ok, e], hp⟩
  · cases h

/-! ### Equality -/
theorem beq_data (a b : ByteArray) : (a == b) = (a.data.toList == b.data.toList) := by rw [beq_toListBytes, ByteArray.toList_eq, ByteArray.toList_eq]
theorem run_equal_bool {d : Nat} {t : TypeId} {a b : Bool} (ht : P.underlying t = some .bool) (w : World) : (Op.equalIn (d + 1) t (.bool a) (.bool b)).run P w = .ok (a == b) w := by
  simp [Op.equalIn, run_underlying ht]
theorem eq1_0 {x y : T} {b : Bool} (h : eq1 0 x y = some b) : ∃ a c, x = .bool a ∧ y = .bool c ∧ b = (a == c) := by
  cases x <;> cases y <;> simp [eq1] at h
  exact ⟨_, _, rfl, rfl, by rw [← h]⟩
theorem eq1_1 {x y : T} {b : Bool} (h : eq1 1 x y = some b) : ∃ k a c, x = .int k a ∧ y = .int k c ∧ b = (a == c) := by
  cases x <;> cases y <;> simp only [eq1, reduceCtorEq] at h
  split at h
  · rename_i hk
    injection h with h
    subst hk
    exact ⟨_, _, _, rfl, rfl, h.symm⟩
  · cases h
theorem eq1_2 {x y : T} {b : Bool} (h : eq1 2 x y = some b) : ∃ a c, x = .str a ∧ y = .str c ∧ b = (a == c) := by
  cases x <;> cases y <;> simp only [eq1, reduceCtorEq, Option.some.injEq] at h
  exact ⟨_, _, rfl, rfl, h.symm⟩
theorem eqs_one {k : Nat} {x y : T} {b : Bool} (h : eqs [k] [x] [y] = some b) : eq1 k x y = some b := by
  simp only [eqs] at h
  cases h1 : eq1 k x y with
  | none => rw [h1] at h; cases h
  | some a => rw [h1] at h; simpa using h
/-- The cells of a value, as a list of trees. -/
def Flat (st : Nat → Nat → Prop) (w : World) (ag : Bool) (v : Value) (xs : List T) : Prop :=
  if ag then ∃ cs : Array Value, v = .agg cs ∧ cs.size = xs.length ∧ ∀ (i : Nat) (u : Value) (x : T), cs[i]? = some u → xs[i]? = some x → TRep st w u x
  else ∃ x, xs = [x] ∧ TRep st w v x
theorem eqs_append {k1 k2 : List Nat} {x1 x2 y1 y2 : List T} (h1 : x1.length = k1.length) (h2 : y1.length = k1.length) : eqs (k1 ++ k2) (x1 ++ x2) (y1 ++ y2) = (match eqs k1 x1 y1, eqs k2 x2 y2 with | some a, some b => some (a && b) | _, _ => none) := by
  induction k1 generalizing x1 y1 with
  | nil =>
    obtain rfl := List.eq_nil_of_length_eq_zero h1
    obtain rfl := List.eq_nil_of_length_eq_zero h2
    simp only [List.nil_append, eqs]
    cases eqs k2 x2 y2 <;> simp
  | cons k r ih =>
    cases x1 with
    | nil => simp at h1
    | cons x xs => cases y1 with
      | nil => simp at h2
      | cons y ys =>
        simp only [List.cons_append, eqs]
        rw [ih (by simpa using h1) (by simpa using h2)]
        cases eq1 k x y <;> cases eqs r xs ys <;> cases eqs k2 x2 y2 <;> simp [Bool.and_assoc]
theorem eqs_length {ks : List Nat} {xs ys : List T} {b : Bool} (h : eqs ks xs ys = some b) : xs.length = ks.length ∧ ys.length = ks.length := by
  induction ks generalizing xs ys b with
  | nil => cases xs <;> cases ys <;> simp [eqs] at h ⊢
  | cons k r ih =>
    cases xs with
    | nil => cases ys <;> simp [eqs] at h
    | cons x xs => cases ys with
      | nil => simp [eqs] at h
      | cons y ys =>
        simp only [eqs] at h
        split at h
        · rename_i h1 h2
          have := ih h2
          simp [this]
        · cases h
/-- A part of a flat aggregate is flat. -/
theorem flat_part {t : TypeId} {ag : Bool} {cs : Array Value} {xs : List T} {off n : Nat} (hag : tyAg P t = some ag) (hsz : tySz P t = some n) (hl : cs.size = xs.length)
    (hr : ∀ (i : Nat) (u : Value) (x : T), cs[i]? = some u → xs[i]? = some x → TRep G.st w u x) (hb : off + n ≤ xs.length) (hone : ag = false → n = 1) :
    ∃ v, (part t cs off).run P w = .ok v w ∧ Flat G.st w ag v ((xs.drop off).take n) := by
  rw [run_part hag hsz]
  cases ag with
  | true =>
    refine ⟨_, rfl, ?_⟩
    simp only [Flat, if_true]
    refine ⟨_, rfl, by simp; omega, fun i u x hu hx => ?_⟩
    rw [List.getElem?_take, List.getElem?_drop] at hx
    split at hx
    · refine hr (off + i) u x ?_ hx
      rw [← hu]
      simp [Array.getElem?_extract]
      omega
    · cases hx
  | false =>
    obtain rfl := hone rfl
    have hlt : off < cs.size := by omega
    refine ⟨cs[off], by simp [Array.getElem?_eq_getElem hlt], ?_⟩
    simp only [Flat, Bool.false_eq_true, if_false]
    refine ⟨xs[off]'(by omega), ?_, hr off _ _ (Array.getElem?_eq_getElem hlt) (List.getElem?_eq_getElem (by omega))⟩
    rw [List.drop_eq_getElem_cons (by omega)]
    rfl
theorem leaves_one {d : Nat} {t : TypeId} {ks : List Nat} (h : leaves P d t = some ks) (hag : tyAg P t = some false) : ks.length = 1 := by
  cases d with
  | zero => cases h
  | succ d =>
    simp only [leaves] at h
    unfold tyAg at hag
    cases h2 : P.underlying t with
    | none => rw [h2] at hag; cases hag
    | some ds =>
      rw [h2] at hag h
      cases ds <;> simp at hag h <;> subst h <;> rfl
theorem run_equalIn_flat : ∀ (d D : Nat) (t : TypeId) (ks : List Nat) (ag : Bool) (u v : Value) (xs ys : List T) (b : Bool), leaves P d t = some ks → d ≤ D → tyAg P t = some ag →
    Flat G.st w ag u xs → Flat G.st w ag v ys → eqs ks xs ys = some b → (Op.equalIn D t u v).run P w = .ok b w := by
  intro d
  induction d with
  | zero => intro D t ks ag u v xs ys b h; cases h
  | succ d ih =>
    intro D t ks ag u v xs ys b h hD hag hu hv he
    obtain ⟨D, rfl⟩ : ∃ E, D = E + 1 := ⟨D - 1, by omega⟩
    have hall : ∀ (t' : TypeId) (ks' : List Nat) (off n : Nat) (ag' : Bool) (cx cy : Array Value) (b' : Bool), leaves P d t' = some ks' → tyAg P t' = some ag' → tySz P t' = some n → n = ks'.length →
        cx.size = xs.length → cy.size = ys.length → (∀ (i : Nat) (u : Value) (x : T), cx[i]? = some u → xs[i]? = some x → TRep G.st w u x) → (∀ (i : Nat) (u : Value) (x : T), cy[i]? = some u → ys[i]? = some x → TRep G.st w u x) →
        off + n ≤ xs.length → off + n ≤ ys.length → eqs ks' ((xs.drop off).take n) ((ys.drop off).take n) = some b' →
        ∃ a1 a2, (part t' cx off).run P w = .ok a1 w ∧ (part t' cy off).run P w = .ok a2 w ∧ (Op.equalIn D t' a1 a2).run P w = .ok b' w := by
      intro t' ks' off n ag' cx cy b' h1 h2 h3 h4 hx hy rx ry bx by_ heq
      have hone : ag' = false → n = 1 := fun e => by subst e; rw [h4]; exact leaves_one h1 h2
      obtain ⟨a1, e1, f1⟩ := flat_part (P := P) h2 h3 hx rx bx hone
      obtain ⟨a2, e2, f2⟩ := flat_part (P := P) h2 h3 hy ry by_ hone
      exact ⟨a1, a2, e1, e2, ih D t' ks' ag' a1 a2 _ _ b' h1 (by omega) h2 f1 f2 heq⟩
    simp only [leaves] at h
    unfold tyAg at hag
    cases h2 : P.underlying t with
    | none => rw [h2] at hag; cases hag
    | some ds =>
    rw [h2] at hag h
    cases ds
    case bool =>
      simp only [Option.some.injEq] at h hag
      subst h hag
      simp only [Flat, Bool.false_eq_true, if_false] at hu hv
      obtain ⟨x, rfl, hu⟩ := hu
      obtain ⟨y, rfl, hv⟩ := hv
      obtain ⟨p, q, rfl, rfl, rfl⟩ := eq1_0 (eqs_one he)
      cases hu; cases hv
      simp [Op.equalIn, run_underlying h2]
    case int k0 =>
      simp only [Option.some.injEq] at h hag
      subst h hag
      simp only [Flat, Bool.false_eq_true, if_false] at hu hv
      obtain ⟨x, rfl, hu⟩ := hu
      obtain ⟨y, rfl, hv⟩ := hv
      obtain ⟨k, p, q, rfl, rfl, rfl⟩ := eq1_1 (eqs_one he)
      cases hu; cases hv
      simp [Op.equalIn, run_underlying h2]
    case string =>
      simp only [Option.some.injEq] at h hag
      subst h hag
      simp only [Flat, Bool.false_eq_true, if_false] at hu hv
      obtain ⟨x, rfl, hu⟩ := hu
      obtain ⟨y, rfl, hv⟩ := hv
      obtain ⟨p, q, rfl, rfl, rfl⟩ := eq1_2 (eqs_one he)
      cases hu; cases hv
      simp [Op.equalIn, run_underlying h2, beq_data]
    case struct fs =>
      simp only [Option.some.injEq] at hag
      subst hag
      simp only at h
      split at h
      · cases h
      · rename_i hst
        simp only [Flat, if_true] at hu hv
        obtain ⟨cx, rfl, lx, rx⟩ := hu
        obtain ⟨cy, rfl, ly, ry⟩ := hv
        have hfo : P.fieldsOf t = fs := by simp [Program.fieldsOf, h2]
        rw [run_equalIn_struct w D t cx cy (by rw [hfo]; exact h2) (by simpa using hst), hfo]
        have key : ∀ (l : List Field) (n : Nat) (ks : List Nat) (b : Bool), leavesF P (leaves P d) n l = some ks → eqs ks (xs.drop n) (ys.drop n) = some b → n ≤ xs.length → n ≤ ys.length → (Op.eqFields D cx cy l).run P w = .ok b w := by
          intro l
          induction l with
          | nil =>
            intro n ks b hk he _ _
            simp only [leavesF, Option.some.injEq] at hk
            subst hk
            have hlen := eqs_length he
            have e1 := List.eq_nil_of_length_eq_zero hlen.1
            have e2 := List.eq_nil_of_length_eq_zero hlen.2
            rw [e1, e2] at he
            simp only [eqs, Option.some.injEq] at he
            subst he
            rfl
          | cons f r ihr =>
            intro n ks b hk he hnx hny
            simp only [leavesF] at hk
            split at hk
            · rename_i hcond
              obtain ⟨hname, hoff⟩ := hcond
              split at hk
              · rename_i ag' s ks' q1 q2 q3
                split at hk
                · rename_i hs
                  simp only [Option.map_eq_some_iff] at hk
                  obtain ⟨ks2, hk2, rfl⟩ := hk
                  have hlen := eqs_length he
                  simp only [List.length_append, List.length_drop] at hlen
                  have ex : xs.drop n = (xs.drop n).take s ++ xs.drop (n + s) := by rw [← List.drop_drop, List.take_append_drop]
                  have ey : ys.drop n = (ys.drop n).take s ++ ys.drop (n + s) := by rw [← List.drop_drop, List.take_append_drop]
                  rw [ex, ey, eqs_append (by simp; omega) (by simp; omega)] at he
                  split at he
                  · rename_i b1 b2 r1 r2
                    injection he with he
                    subst he
                    obtain ⟨a1, a2, p1, p2, p3⟩ := hall f.type ks' n s ag' cx cy b1 q3 q1 q2 hs lx ly rx ry (by omega) (by omega) r1
                    have hr := ihr (n + s) ks2 b2 hk2 r2 (by omega) (by omega)
                    have hne : f.name ≠ "_" := by simpa using hname
                    subst hoff
                    simp only [Op.eqFields, if_pos hne, Sem.run_bind, p1, p2, p3, Result.andThen_ok]
                    cases b1 with
                    | true => simpa using hr
                    | false => simp
                  · cases he
                · cases hk
              · cases hk
            · cases hk
        exact key fs.toList 0 ks b h (by simpa using he) (Nat.zero_le _) (Nat.zero_le _)
    case array k e =>
      simp only [Option.some.injEq] at hag
      subst hag
      simp only at h
      split at h
      · rename_i ag' s ks' q1 q2 q3
        split at h
        · rename_i hs
          simp only [Option.some.injEq] at h
          subst h
          simp only [Flat, if_true] at hu hv
          obtain ⟨cx, rfl, lx, rx⟩ := hu
          obtain ⟨cy, rfl, ly, ry⟩ := hv
          have q2' := q2
          simp only [tySz, Option.map_eq_some_iff] at q2'
          obtain ⟨ii, hii, hsz⟩ := q2'
          have hco : P.cellsOf e = s := by simp [Program.cellsOf, hii, hsz]
          rw [run_equalIn_array w D cx cy h2 hii, hco, List.range_eq_range']
          have key : ∀ (m j : Nat) (b : Bool), eqs (List.replicate m ks').flatten (xs.drop (j * s)) (ys.drop (j * s)) = some b → j * s ≤ xs.length → j * s ≤ ys.length → (Op.eqItems D e s cx cy (List.range' j m)).run P w = .ok b w := by
            intro m
            induction m with
            | zero =>
              intro j b he _ _
              have hlen := eqs_length he
              simp only [List.replicate_zero, List.flatten_nil, List.length_nil] at hlen
              have e1 := List.eq_nil_of_length_eq_zero hlen.1
              have e2 := List.eq_nil_of_length_eq_zero hlen.2
              rw [e1, e2] at he
              simp only [List.replicate_zero, List.flatten_nil, eqs, Option.some.injEq] at he
              subst he
              rfl
            | succ m ihm =>
              intro j b he hnx hny
              have hlen := eqs_length he
              rw [List.replicate_succ, List.flatten_cons] at he
              simp only [List.replicate_succ, List.flatten_cons, List.length_append, List.length_drop] at hlen
              have hjs : (j + 1) * s = j * s + s := by rw [Nat.add_mul, Nat.one_mul]
              have ex : xs.drop (j * s) = (xs.drop (j * s)).take s ++ xs.drop ((j + 1) * s) := by rw [hjs, ← List.drop_drop, List.take_append_drop]
              have ey : ys.drop (j * s) = (ys.drop (j * s)).take s ++ ys.drop ((j + 1) * s) := by rw [hjs, ← List.drop_drop, List.take_append_drop]
              rw [ex, ey, eqs_append (by simp; omega) (by simp; omega)] at he
              split at he
              · rename_i b1 b2 r1 r2
                injection he with he
                subst he
                obtain ⟨a1, a2, p1, p2, p3⟩ := hall e ks' (j * s) s ag' cx cy b1 q3 q1 q2 hs lx ly rx ry (by omega) (by omega) r1
                have hr := ihm (j + 1) b2 r2 (by omega) (by omega)
                simp only [List.range'_succ, Op.eqItems, Sem.run_bind, p1, p2, p3, Result.andThen_ok]
                cases b1 with
                | true => simpa using hr
                | false => simp
              · cases he
          exact key k 0 b (by simpa using he) (by omega) (by omega)
        · cases h
      · cases h
    all_goals cases h
end Go.Pi
