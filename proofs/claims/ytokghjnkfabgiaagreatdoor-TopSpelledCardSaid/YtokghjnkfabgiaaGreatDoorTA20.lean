import Derived.Test.YtokghjnkfabgiaaGreatDoorTA19
import Derived.Maps.OwnOps
import Derived.Maps.OwnSet
import Derived.Maps.Ext
import Derived.Maps.StringElems
namespace Go.Proofs.YtokghjnkfabgiaaGreatDoor
set_option maxRecDepth 100000
open Go.RowKit Go.Lib Go.Maps
set_option linter.unusedVariables false
set_option linter.unusedSimpArgs false

/-! A map of the call's own with keys of a kind of integers and strings as values: what it holds (nothing: the empty string). -/
section
variable {kt mt : TypeId} {q : IntKind}
def MapS (kt : TypeId) (q : IntKind) (B n : Nat) (M : Int → Str) (w : World) : Prop :=
  ∃ D : DataW Unit, w.ownsMap Tryz.prog kt (plainElem Tryz.prog 9) B n D ∧ IsMap D ∧ ∀ k, D.atKey (.int q k) (.lit (.string [])) = .lit (.string (M k))
theorem litKeyQ (q : IntKind) (k : Int) : WideAt.IsKeyLit (.int q k) := by first | trivial | exact .int _ _ | simp [WideAt.IsKeyLit]
theorem litNeQ {q : IntKind} {j k : Int} (h : j ≠ k) : (Lit.int q j) ≠ .int q k := fun e => h (by cases e; rfl)
theorem zeroStr (w : World) : (zeroValue 9).run Tryz.prog w = .ok (.string (str [])) w := by kernel_rfl
theorem MapS.made (w : World) : MapS kt q w.heap.size 0 (fun _ => []) (w.alloc (.map #[] 0)) :=
  ⟨.map [], World.ownsMap_made _ _ _ _, isMap_empty, fun k => rfl⟩
theorem MapS.kept {B n : Nat} {M : Int → Str} {w w' : World} (h : MapS kt q B n M w) (hb : w'.heap[B]? = w.heap[B]?) : MapS kt q B n M w' := by
  obtain ⟨D, ⟨es, clock, h1, h2⟩, h3⟩ := h
  exact ⟨D, ⟨es, clock, hb.trans h1, h2⟩, h3⟩
theorem MapS.lt {B n : Nat} {M : Int → Str} {w : World} (h : MapS kt q B n M w) : B < w.heap.size := by
  obtain ⟨D, ⟨es, clock, h1, h2⟩, h3⟩ := h
  exact (Array.getElem?_eq_some_iff.1 h1).1
theorem MapS.below {B n : Nat} {M : Int → Str} {w w' : World} (h : MapS kt q B n M w) (hb : Below w.heap.size w w') : MapS kt q B n M w' := h.kept (hb.block B h.lt)
/-- m[k] = v -/
def putS (M : Int → Str) (k : Int) (v : Str) : Int → Str := fun j => if j = k then v else M j
theorem MapS.put {B n : Nat} {M : Int → Str} {w : World} (hk : Tryz.prog.underlying kt = some (.int q)) (hm : Tryz.prog.underlying mt = some (.map kt 9)) (h : MapS kt q B n M w) (hn : n < maxLen) (k : Int) (wk : (Lit.int q k).wf = true) (v : Str) (hv : v.length ≤ maxLen) :
    ∃ w', (Instr.mapUpdate mt (.map (some B)) (.int q k) (.string (str v))).run Tryz.prog w = .ok () w' ∧ MapS kt q B (n + 1) (putS M k v) w' ∧ w.grownBy w' (some B) := by
  obtain ⟨D, hD, hi, hM⟩ := h
  obtain ⟨w', h1, h2, h3⟩ := hD.update (int_keyed hk) hm hn (keyOf_int_mk hk wk) (plainElem_string (s := str v) (H := Unit) (by kernel_rfl) (by rw [str_size]; exact hv))
  refine ⟨w', h1, ⟨_, h2, hi.put _ _, fun j => ?_⟩, h3⟩
  unfold putS
  by_cases hj : j = k
  · subst hj
    rw [if_pos rfl, atKey_put_same hi (litKeyQ _ _)]
    rfl
  · rw [if_neg hj, atKey_put_other (litNeQ hj)]
    exact hM j
theorem MapS.get {B n : Nat} {M : Int → Str} {w : World} (hk : Tryz.prog.underlying kt = some (.int q)) (hm : Tryz.prog.underlying mt = some (.map kt 9)) (h : MapS kt q B n M w) (k : Int) (wk : (Lit.int q k).wf = true) :
    (Instr.lookup mt (.map (some B)) (.int q k) false).run Tryz.prog w = .ok (.string (str (M k))) w := by
  obtain ⟨D, hD, hi, hM⟩ := h
  have hs : Tryz.prog.underlying 9 = some .string := by kernel_rfl
  obtain ⟨v, ps, hr, hv⟩ := hD.lookup (int_keyed hk) hm (zeroStr w) (plainElem_string (s := str []) (H := Unit) hs (by decide)) (keyOf_int_mk hk wk)
  obtain ⟨s, rfl, hz, _⟩ := plainElem_string_inv hs hv
  simp only [Prod.mk.injEq] at hz
  have e := (hM k).symm.trans hz.1
  injection e with e
  injection e with e
  rw [hr, e]
  rfl
end
end Go.Proofs.YtokghjnkfabgiaaGreatDoor

namespace Go.Proofs.YtokghjnkfabgiaaGreatDoor
set_option maxRecDepth 100000
open Go.RowKit Go.Lib
set_option linter.unusedVariables false
set_option linter.unusedSimpArgs false
attribute [local go_sem] str_size str_get str_toList
attribute [local go_sem high] run_str_add

/-! (*shower).verb. -/
def itV (i : Itm) (a : Int) (nm nu : Value) : Value := .agg #[.int .i64 i.how, .int .i64 a, .int .u8 i.fn, nm, nu]
def FnOk (i : Itm) : Prop := (Lit.int .u8 i.fn).wf = true
set_option maxHeartbeats 4000000 in
theorem showverb_three (w : World) (b B1 n1 : Nat) (i : Itm) (a : Int) (nm nu : Value) (one : Int → Str) (hb : b < w.heap.size)
    (hc0 : w.cell? ⟨b, 0, none⟩ = some (.map (some B1))) (h1 : MapS 119 .u8 B1 n1 one w) (hf : FnOk i) (h3 : i.how = 3) :
    Calls Tryz.prog 104 #[.pointer (some ⟨b, 0, none⟩), itV i a nm nu] w fun e w' => e = .returned (.tuple #[.string (str (one i.fn)), .int .i64 1]) ∧ Below w.heap.size w w' := by
  obtain ⟨how, fn, name, nums⟩ := i
  dsimp only at h3
  subst h3
  have hg := fun (W : World) (hW : Below w.heap.size w W) => (h1.below hW).get (mt := 96) (by kernel_rfl) (by kernel_rfl) fn hf
  unfold itV
  dsimp only
  have hB := (Below.refl w.heap.size w).alloc (Nat.le_refl _) (.cells #[.int .i64 3, .int .i64 a, .int .u8 fn, nm, nu] 121)
  have HB := Lib.hid hB
  have hg1 := hg _ (Below.drew hB)
  have c0 : (w.alloc (.cells #[.int .i64 3, .int .i64 a, .int .u8 fn, nm, nu] 121)).drew.cell? ⟨b, 0, none⟩ = some (.map (some B1)) := by
    show (w.alloc _).cell? _ = _
    rw [← hc0]
    exact Below.cell hB hb
  clear hB hg h1
  go_enter Tryz.func104, Tryz.ntmps104
  go_wp2
  go_region
  all_goals (go_wp2)
  all_goals (go_ret2; exact ⟨rfl, Below.drew HB.out⟩)
set_option maxHeartbeats 4000000 in
theorem showverb_rest (w : World) (b B2 n2 : Nat) (i : Itm) (a : Int) (nm nu : Value) (two : Int → Str) (hb : b < w.heap.size)
    (hc0 : w.cell? ⟨b, 1, none⟩ = some (.map (some B2))) (h1 : MapS 119 .u8 B2 n2 two w) (hf : FnOk i) (hl : (two i.fn).length ≤ 60000) (h3 : i.how = 4 ∨ i.how = 5 ∨ i.how = 6 ∨ i.how = 7) :
    Calls Tryz.prog 104 #[.pointer (some ⟨b, 0, none⟩), itV i a nm nu] w fun e w' => e = .returned (if two i.fn = [] ∨ i.how = 4 then .tuple #[.string (str (two i.fn)), .int .i64 1] else if 17 < i.fn then .tuple #[.string (str []), .int .i64 0] else .tuple #[.string (str (two i.fn ++ (if i.how = 5 then [47] else if i.how = 6 then [92] else [46]))), .int .i64 2]) ∧ Below w.heap.size w w' := by
  obtain ⟨how, fn, name, nums⟩ := i
  dsimp only at h3 hl ⊢
  have hg := fun (W : World) (hW : Below w.heap.size w W) => (h1.below hW).get (mt := 96) (by kernel_rfl) (by kernel_rfl) fn hf
  unfold itV
  dsimp only
  have hB := (Below.refl w.heap.size w).alloc (Nat.le_refl _) (.cells #[.int .i64 how, .int .i64 a, .int .u8 fn, nm, nu] 121)
  have HB := Lib.hid hB
  have hg1 := hg _ (Below.drew hB)
  have c0 : (w.alloc (.cells #[.int .i64 how, .int .i64 a, .int .u8 fn, nm, nu] 121)).drew.cell? ⟨b, 1, none⟩ = some (.map (some B2)) := by
    show (w.alloc _).cell? _ = _
    rw [← hc0]
    exact Below.cell hB hb
  clear hB hg h1
  generalize two fn = t at hg1 hl ⊢
  have hn3 : (how == 3) = false := by rcases h3 with rfl | rfl | rfl | rfl <;> rfl
  by_cases ht : t = []
  · subst ht
    rw [if_pos (Or.inl rfl)]
    go_enter Tryz.func104, Tryz.ntmps104
    go_wp2
    go_region
    all_goals (go_wp2)
    all_goals (go_ret2; exact ⟨rfl, Below.drew HB.out⟩)
  have et : t.isEmpty = false := by
    cases t with
    | nil => exact absurd rfl ht
    | cons x r => rfl
  by_cases h4 : how = 4
  · subst h4
    rw [if_pos (Or.inr rfl)]
    go_enter Tryz.func104, Tryz.ntmps104
    go_wp2
    go_region
    all_goals (go_wp2)
    all_goals (go_ret2; exact ⟨rfl, Below.drew HB.out⟩)
  rw [if_neg (by simp [ht, h4])]
  by_cases h17 : 17 < fn
  · rw [if_pos h17]
    have h4b : (how == 4) = false := beq_eq_false_iff_ne.2 h4
    go_enter Tryz.func104, Tryz.ntmps104
    go_wp2
    go_region
    all_goals (go_wp2)
    all_goals (go_ret2; exact ⟨rfl, Below.drew HB.out⟩)
  rw [if_neg h17]
  have hs : (w.alloc (.cells #[.int .i64 how, .int .i64 a, .int .u8 fn, nm, nu] 121)).heap.size = w.heap.size + 1 := by simp
  have hm0 : MapS 3 .i64 (w.heap.size + 1) 0 (fun _ => []) ((w.alloc (.cells #[.int .i64 how, .int .i64 a, .int .u8 fn, nm, nu] 121)).alloc (.map #[] 0)).drew := by
    have h := MapS.made (kt := 3) (q := .i64) (w.alloc (.cells #[.int .i64 how, .int .i64 a, .int .u8 fn, nm, nu] 121))
    rw [hs] at h
    exact h.kept rfl
  have hW0 : Below w.heap.size w ((w.alloc (.cells #[.int .i64 how, .int .i64 a, .int .u8 fn, nm, nu] 121)).alloc (.map #[] 0)).drew := Below.drew (HB.out.alloc (by rw [hs]; omega) _)
  have hcell : ((w.alloc (.cells #[.int .i64 how, .int .i64 a, .int .u8 fn, nm, nu] 121)).alloc (.map #[] 0)).drew.heap[w.heap.size]? = some (.cells #[.int .i64 how, .int .i64 a, .int .u8 fn, nm, nu] 121 (0, 0)) := by
    show ((w.heap.push _).push _)[w.heap.size]? = _
    rw [Array.getElem?_push_lt (by simp), Array.getElem_push_eq]
  have hz0 : ((w.alloc (.cells #[.int .i64 how, .int .i64 a, .int .u8 fn, nm, nu] 121)).alloc (.map #[] 0)).drew.heap.size = w.heap.size + 2 := by simp [World.drew]
  have hmm := @run_makeMap Tryz.prog
  obtain ⟨W0, eW⟩ : ∃ W0, W0 = ((w.alloc (.cells #[.int .i64 how, .int .i64 a, .int .u8 fn, nm, nu] 121)).alloc (.map #[] 0)).drew := ⟨_, rfl⟩
  rw [← eW] at hm0 hW0 hcell hz0
  obtain ⟨W1, r1, m1, g1⟩ := hm0.put (mt := 224) (by kernel_rfl) (by kernel_rfl) (by decide) 5 (by decide) [47] (by decide)
  obtain ⟨W2, r2, m2, g2⟩ := m1.put (mt := 224) (by kernel_rfl) (by kernel_rfl) (by decide) 6 (by decide) [92] (by decide)
  obtain ⟨W3, r3, m3, g3⟩ := m2.put (mt := 224) (by kernel_rfl) (by kernel_rfl) (by decide) 7 (by decide) [46] (by decide)
  have b1 := hW0.grown g1 (by omega) (fun k hk => by cases hk; omega)
  have b2 := b1.grown g2 (by have := b1.size; omega) (fun k hk => by cases hk; omega)
  have b3 := b2.grown g3 (by have := b2.size; omega) (fun k hk => by cases hk; omega)
  have l1 := g1.size; have l2 := g2.size
  have ch : W3.heap[w.heap.size]? = some (.cells #[.int .i64 how, .int .i64 a, .int .u8 fn, nm, nu] 121 (0, 0)) := by
    rw [g3.block _ (by omega) (fun e => by have := Option.some.inj e; omega), g2.block _ (by omega) (fun e => by have := Option.some.inj e; omega), g1.block _ (by omega) (fun e => by have := Option.some.inj e; omega)]
    exact hcell
  have ch0 : W3.cell? ⟨w.heap.size, 0, none⟩ = some (.int .i64 how) := by rw [Lib.cell_of_heap ch]; rfl
  have gt := m3.get (mt := 224) (by kernel_rfl) (by kernel_rfl) how (by rcases h3 with rfl | rfl | rfl | rfl <;> decide)
  have r1' : (Instr.mapUpdate 224 (.map (some (w.heap.size + 1))) (.int .i64 5) (.string ⟨#[47]⟩)).run Tryz.prog W0 = .ok () W1 := r1
  have r2' : (Instr.mapUpdate 224 (.map (some (w.heap.size + 1))) (.int .i64 6) (.string ⟨#[92]⟩)).run Tryz.prog W1 = .ok () W2 := r2
  have r3' : (Instr.mapUpdate 224 (.map (some (w.heap.size + 1))) (.int .i64 7) (.string ⟨#[46]⟩)).run Tryz.prog W2 = .ok () W3 := r3
  have B3 := Lib.hid b3
  rw [eW] at r1'
  clear eW hm0 hW0 hcell hz0 m1 m2 m3 g1 g2 g3 b1 b2 b3 ch r1 r2 r3 l1 l2
  have eu : putS (putS (putS (fun x => []) 5 [47]) 6 [92]) 7 [46] how = (if how = 5 then [47] else if how = 6 then [92] else [46]) := by
    rcases h3 with rfl | rfl | rfl | rfl
    · exact absurd rfl h4
    all_goals rfl
  rw [eu] at gt
  have hu : (if how = 5 then [47] else if how = 6 then [92] else [46] : Str).length ≤ 1 := by
    split
    · simp
    · split <;> simp
  generalize (if how = 5 then [47] else if how = 6 then [92] else [46] : Str) = u at gt hu ⊢
  have h4b : (how == 4) = false := beq_eq_false_iff_ne.2 h4
  clear eu h3
  go_enter Tryz.func104, Tryz.ntmps104
  go_wp2
  go_region
  go_wp2
  all_goals (go_ret2; exact ⟨rfl, B3.out⟩)
end Go.Proofs.YtokghjnkfabgiaaGreatDoor
