import Derived.Test.YtegjcghcknpjeaaBase0
import Derived.Maps.OwnOps
import Derived.Maps.OwnSet
import Derived.Maps.Ext
namespace Go.Proofs.Ytegjcghcknpjeaa
open Go.RowKit Go.Maps

theorem Try.lawInt : Keyed Try.prog 3 := int_keyed Try.underlying3
theorem zeroInt (w : World) : (zeroValue 3).run Try.prog w = .ok (.int .i64 0) w := by kernel_rfl
theorem litKey (k : Int) : WideAt.IsKeyLit (.int .i64 k) := by first | trivial | exact .int _ _ | simp [WideAt.IsKeyLit]

/-- Block B is a map of the call's own that holds what M says. -/
def MapI (B n : Nat) (M : Int → Option Int) (w : World) : Prop :=
  ∃ D : DataW Unit, w.ownsMap Try.prog 3 (plainElem Try.prog 3) B n D ∧ IsMap D ∧ ∀ k, (M k = none → has D (.int .i64 k) = false) ∧ ∀ v, M k = some v → has D (.int .i64 k) = true ∧ D.atKey (.int .i64 k) (.lit (.int .i64 0)) = .lit (.int .i64 v)
theorem MapI.made (w : World) : MapI w.heap.size 0 (fun _ => none) (w.alloc (.map #[] 0)) :=
  ⟨.map [], World.ownsMap_made _ _ _ _, isMap_empty, fun k => ⟨fun _ => rfl, (fun v h => by cases h)⟩⟩
theorem MapI.kept {B n : Nat} {M : Int → Option Int} {w w' : World} (h : MapI B n M w) (hb : w'.heap[B]? = w.heap[B]?) : MapI B n M w' := by
  obtain ⟨D, ⟨es, clock, h1, h2⟩, h3⟩ := h
  exact ⟨D, ⟨es, clock, hb.trans h1, h2⟩, h3⟩
theorem MapI.lt {B n : Nat} {M : Int → Option Int} {w : World} (h : MapI B n M w) : B < w.heap.size := by
  obtain ⟨D, ⟨es, clock, h1, h2⟩, h3⟩ := h
  exact (Array.getElem?_eq_some_iff.1 h1).1
theorem MapI.below {B n : Nat} {M : Int → Option Int} {w w' : World} (h : MapI B n M w) (hb : Below w.heap.size w w') : MapI B n M w' := h.kept (hb.block B h.lt)

/-- m[k] = v -/
def putM (M : Int → Option Int) (k v : Int) : Int → Option Int := fun j => if j = k then some v else M j
/-- delete(m, k) -/
def delM (M : Int → Option Int) (k : Int) : Int → Option Int := fun j => if j = k then none else M j
theorem litNe {j k : Int} (h : j ≠ k) : (Lit.int .i64 j) ≠ .int .i64 k := fun e => h (by cases e; rfl)

theorem grown_setBlock (w : World) (b : Nat) (o : Obj) : w.grownBy { w with heap := w.heap.setIfInBounds b o } (some b) :=
  ⟨rfl, rfl, rfl, by simp, fun k _ hne => Array.getElem?_setIfInBounds_ne (fun e => hne (by rw [e]))⟩

section
variable {P : Program} {ops : Array Oper} {rest : List Oper} {o : Oper} {a : Act} {Q : Exit → Act → World → Prop} {w : World}
theorem mapI_put {B n : Nat} {M : Int → Option Int} (hg : o.guard = none) (m x v : Operand) (hop : o.op = Op.mapUpdate 52 m x v) (hm : a.eval m = .map (some B)) (h : MapI B n M w) (hn : n < maxLen)
    (k y : Int) (hx : a.eval x = .int .i64 k) (hv : a.eval v = .int .i64 y) (wk : (Lit.int .i64 k).wf = true) (wy : (Lit.int .i64 y).wf = true)
    (hK : ∀ w', MapI B (n + 1) (putM M k y) w' → w.grownBy w' (some B) → wpList Try.prog ops Q rest (a.put o.dst undef) w') : wpList Try.prog ops Q (o :: rest) a w := by
  obtain ⟨D, hD, hi, hM⟩ := h
  refine wpList_mapUpdate_own w hg m x v 52 hop 3 3 Try.lawInt Try.underlying52 _ B n D hm hD hn _ _ _ hx hv (keyOf_int_mk Try.underlying3 wk) _ [] (plainElem_int Try.underlying3 wy) fun w' h1 h2 => hK w' ⟨_, h1, hi.put _ _, fun j => ?_⟩ h2
  unfold putM
  by_cases hj : j = k
  · subst hj
    simp only [if_true]
    exact ⟨(fun e => by cases e), fun v e => by cases e; exact ⟨has_put_same hi (litKey _) _, atKey_put_same hi (litKey _) _ _⟩⟩
  · rw [if_neg hj, has_put_other (litNe hj), atKey_put_other (litNe hj)]
    exact hM j
theorem mapI_del {B n : Nat} {M : Int → Option Int} (hg : o.guard = none) (m x : Operand) (hop : o.op = Op.call { callee := Callee.builtin Builtin.delete, args := #[m, x], argTypes := #[52, 3] }) (hm : a.eval m = .map (some B)) (h : MapI B n M w)
    (k : Int) (hx : a.eval x = .int .i64 k) (wk : (Lit.int .i64 k).wf = true)
    (hK : ∀ w', MapI B n (delM M k) w' → w.grownBy w' (some B) → wpList Try.prog ops Q rest (a.put o.dst (.tuple #[])) w') : wpList Try.prog ops Q (o :: rest) a w := by
  obtain ⟨D, hD, hi, hM⟩ := h
  refine wpList_delete_own w hg m x 52 3 hop 3 Try.lawInt Try.underlying52 _ B n D hm hD _ _ hx (keyOf_int_mk Try.underlying3 wk) fun w' h1 h2 => hK w' ⟨_, h1, hi.del _, fun j => ?_⟩ ?_
  · unfold delM
    by_cases hj : j = k
    · subst hj
      simp only [if_true]
      exact ⟨fun _ => has_del_same, (fun v e => by cases e)⟩
    · rw [if_neg hj, has_del_other (litNe hj), atKey_del_other (litNe hj)]
      exact hM j
  · obtain ⟨es, clock, es', clock', hb, rfl⟩ := h2
    exact grown_setBlock _ _ _
theorem mapI_get {B n : Nat} {M : Int → Option Int} (hg : o.guard = none) (m x : Operand) (hop : o.op = Op.lookup 52 m x true) (hm : a.eval m = .map (some B)) (h : MapI B n M w)
    (k : Int) (hx : a.eval x = .int .i64 k) (wk : (Lit.int .i64 k).wf = true)
    (hK : ∀ c : Int, (∀ v, M k = some v → c = v) → (Lit.int .i64 c).wf = true → wpList Try.prog ops Q rest (a.put o.dst (.tuple #[.int .i64 c, .bool (M k).isSome])) w) : wpList Try.prog ops Q (o :: rest) a w := by
  obtain ⟨D, hD, hi, hM⟩ := h
  refine wpList_lookup_own_ok_int w hg m x 52 hop 3 3 .i64 Try.lawInt Try.underlying52 Try.underlying3 (zeroInt _) B n D hm hD _ _ hx (keyOf_int_mk Try.underlying3 wk) fun c h1 h2 => ?_
  have hh : has D (.int .i64 k) = (M k).isSome := by
    cases hMk : M k with
    | none => exact (hM k).1 hMk
    | some v => exact ((hM k).2 v hMk).1
  rw [hh]
  refine hK c (fun v hv => ?_) h2
  have := ((hM k).2 v hv).2
  rw [h1] at this
  cases this; rfl
theorem mapI_none {B n : Nat} {M : Int → Option Int} (hg : o.guard = none) (m x : Operand) (hop : o.op = Op.lookup 52 m x true) (hm : a.eval m = .map (some B)) (h : MapI B n M w)
    (k : Int) (hx : a.eval x = .int .i64 k) (wk : (Lit.int .i64 k).wf = true) (hMk : M k = none)
    (hK : ∀ c : Int, wpList Try.prog ops Q rest (a.put o.dst (.tuple #[.int .i64 c, .bool false])) w) : wpList Try.prog ops Q (o :: rest) a w :=
  mapI_get hg m x hop hm h k hx wk fun c _ _ => by rw [hMk]; exact hK c
theorem mapI_some {B n : Nat} {M : Int → Option Int} (hg : o.guard = none) (m x : Operand) (hop : o.op = Op.lookup 52 m x true) (hm : a.eval m = .map (some B)) (h : MapI B n M w)
    (k : Int) (hx : a.eval x = .int .i64 k) (wk : (Lit.int .i64 k).wf = true) (v : Int) (hMk : M k = some v)
    (hK : wpList Try.prog ops Q rest (a.put o.dst (.tuple #[.int .i64 v, .bool true])) w) : wpList Try.prog ops Q (o :: rest) a w :=
  mapI_get hg m x hop hm h k hx wk fun c hc _ => by rw [hMk, hc v hMk]; exact hK
end
/-- clear, at such a map -/
theorem run_clear {B n : Nat} {M : Int → Option Int} {w : World} (h : MapI B n M w) (ty : TypeId) (k : Array Bool) : ∃ u w', (invoke (.builtin .clear #[52] ty k) #[.map (some B)]).run Try.prog w = .ok (.value u) w' ∧ w.grownBy w' (some B) := by
  obtain ⟨D, ⟨es, clock, h1, h2⟩, h3⟩ := h
  refine ⟨.tuple #[], { w with heap := w.heap.setIfInBounds B (.map #[] clock) }, ?_, grown_setBlock _ _ _⟩
  simp [invoke, builtin, Builtin.clear_, run_underlying Try.underlying52, MapKept.run_getObj_map h1, MapKept.run_setObj_map _ h1, Result.andThen]
end Go.Proofs.Ytegjcghcknpjeaa
