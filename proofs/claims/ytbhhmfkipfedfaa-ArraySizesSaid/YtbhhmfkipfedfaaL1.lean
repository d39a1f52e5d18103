/-
  ArraySizes: for every sides and every array the law returns true, and what was handed in reads as it did. No condition.
-/
import Derived.Test.YtbhhmfkipfedfaaShown
import Derived.Test.YtbhhmfkipfedfaaOpen
namespace Go.Proofs.Ytbhhmfkipfedfaa
open Go.ChangeShapes Go.WideShapes Go.ChangeAt Go.RowKit Go.Joins
set_option linter.unusedVariables false

set_option maxRecDepth 100000 in
set_option maxHeartbeats 4000000 in
theorem ArraySizes_walk (w : World) (v0 : Value) (xs : List Int) (v1 v2 : Value) (s d : List Int) (q0 : SlI .i64 w v0 xs) (q1 : SlI .i64 w v1 s) (q2 : SlI .i64 w v2 d) :
    Calls Try.prog 3 #[v0, .agg #[v1, v2]] w fun e w' => e = .returned (.bool true) ∧ Below w.heap.size w w' := by
  obtain ⟨a, c, rfl, hm1, hm2, h, -⟩ := q0
  obtain ⟨a0, c0, rfl, hs1, hs2, h0, -⟩ := q1
  obtain ⟨a1, c1, rfl, -, -, -, -⟩ := q2
  have hm := Nat.le_trans hm1 hm2
  have hs := Nat.le_trans hs1 hs2
  have k1 := fun W (hB : Below w.heap.size w W) => size_any W a c xs hm (h.below hB (Nat.le_refl _))
  have k2 := fun W (hB : Below w.heap.size w W) => rsize_any W a c xs hm (h.below hB (Nat.le_refl _))
  have k3 := fun W (hB : Below w.heap.size w W) => right_any W a0 a1 c0 c1 s d hs (h0.below hB (Nat.le_refl _))
  have k4 := fun W (hB : Below w.heap.size w W) => rright_any W a0 a1 c0 c1 s d hs (h0.below hB (Nat.le_refl _))
  unfold two at k1 k2
  generalize right s d = rt at k3 k4
  generalize size xs = p at k1 k2
  obtain ⟨n, er⟩ := p
  have K1 := Lib.hid k1; have K2 := Lib.hid k2; have K3 := Lib.hid k3; have K4 := Lib.hid k4; clear k1 k2 k3 k4 h h0
  go_enter Try.func3, Try.ntmps3
  go_wp2_with fail
  refine (shown_any _).mono ?_
  rintro e w1 ⟨rfl, hb⟩
  have hB1 : Below w.heap.size w w1 := bAfter ((Below.refl _ _).alloc (Nat.le_refl _) _) (by simp) hb
  have hc0 : w1.cell? ⟨w.heap.size, 0, none⟩ = some (.slice a0 s.length c0) := (hb.cell (p := ⟨w.heap.size, 0, none⟩) (by simp)).trans (by simp [go_sem])
  have hc1 : w1.cell? ⟨w.heap.size, 1, none⟩ = some (.slice a1 d.length c1) := (hb.cell (p := ⟨w.heap.size, 1, none⟩) (by simp)).trans (by simp [go_sem])
  have hz1 : w.heap.size < w1.heap.size := by have := hb.size; simp at this; omega
  clear hb
  go_wp2_with fail
  refine (K1.out _ hB1).mono ?_
  rintro e w2 ⟨rfl, hb⟩
  have hB2 : Below w.heap.size w w2 := bAfter hB1 hB1.size hb
  have hd0 := (hb.cell (p := ⟨w.heap.size, 0, none⟩) hz1).trans hc0
  have hd1 := (hb.cell (p := ⟨w.heap.size, 1, none⟩) hz1).trans hc1
  have hz2 : w.heap.size < w2.heap.size := by have := hb.size; omega
  clear hb hB1 hc0 hc1 hz1
  go_wp2_with fail
  refine (K2.out _ hB2).mono ?_
  rintro e w3 ⟨rfl, rfl⟩
  go_wp2_with fail
  refine (K3.out _ hB2).mono ?_
  rintro e w3 ⟨rfl, hb⟩
  have hB3 : Below w.heap.size w w3 := bAfter hB2 hB2.size hb
  have he0 := (hb.cell (p := ⟨w.heap.size, 0, none⟩) hz2).trans hd0
  have he1 := (hb.cell (p := ⟨w.heap.size, 1, none⟩) hz2).trans hd1
  clear hb hB2 hd0 hd1 hz2
  go_wp2_with fail
  refine (K4.out _ hB3).mono ?_
  rintro e w4 ⟨rfl, hb⟩
  have hB4 : Below w.heap.size w w4 := bAfter hB3 hB3.size hb
  clear hb
  go_wp2_with fail
  go_ret
  exact ⟨ret_bool (by simp), hB4⟩

set_option maxRecDepth 100000 in
theorem ArraySizes_lifted (os : Os) (started : os.Started) (H : Type) (enc : TypeId × Value → H) :
    ReturnsInHanded {} Try.checked os 3 .any (Rows.arraySizesSpec.pre6 enc Try.prog Try.f3 Rows.arraySizesRow.domain false) (Rows.arraySizesSpec.post enc Try.prog Try.f3 false true false false) := by
  refine returnsInHanded_of_change (C := Try.checked) own started (by kernel_rfl) Try.func3
    (ChangeSpec.witness6 (enc := enc) (C := Try.checked) false ⟨#[], #[.slice none 0 0, .agg #[.slice none 0 0, .slice none 0 0]], []⟩ 8 (by kernel_rfl) (by kernel_rfl) (by kernel_rfl) (by kernel_rfl)) ?_
  intro W base args ds gs before hval0 hW hcnd _
  have hval : ∀ (j : Nat) t v, Try.f3.params[j]? = some t → args[j]? = some v → Value.okWide Try.prog W .any base t v := hval0
  have hW' := hW
  obtain ⟨p, q, hA0, hV, rfl, hfz, hnd⟩ := hW
  have hA : DataW.TrodAll enc Try.prog W 0 (fun _ => true) true Try.f3.params.toList args.toList ds p := hA0
  rw [Try.params3] at hA hval
  obtain ⟨v0, vs0, d0, ds0, p0, q0, hargs, rfl, rfl, h0, r0⟩ := trodAll_cons hA
  obtain ⟨v1, vs1, d1, ds1, p1, q1, rfl, rfl, rfl, h1, r1⟩ := trodAll_cons r0
  obtain ⟨rfl, rfl, rfl⟩ := trodAll_nil r1
  obtain rfl : args = #[v0, v1] := by cases args; simp_all
  obtain ⟨rfl, rfl⟩ := trodVars_none hV
  have k0 := h0
  have lt0 : ∀ x ∈ p0, x.block < W.heap.size := by obtain ⟨m, hm⟩ := k0; exact DataW.trod_lt m _ _ _ hm
  obtain ⟨xs0, s0⟩ := sl_of_Trod Try.underlying22 Try.underlying2 (by kernel_rfl) (hval 0 22 v0 rfl rfl) h0
  have k1 := h1
  have lt1 : ∀ x ∈ p1, x.block < W.heap.size := by obtain ⟨m, hm⟩ := k1; exact DataW.trod_lt m _ _ _ hm
  obtain ⟨va1, vb1, ya1, yb1, n1, rfl, -, -, ta1, tb1⟩ := open_agg2 Try.underlying24 (by kernel_rfl) (by kernel_rfl) (hval 1 24 v1 rfl rfl) h1
  obtain ⟨xs1, s1⟩ := sl_of_trod Try.underlying22 Try.underlying2 (by kernel_rfl) ta1
  obtain ⟨ys1, u1⟩ := sl_of_trod Try.underlying22 Try.underlying2 (by kernel_rfl) tb1
  clear hA0 hval0
  refine (ArraySizes_walk W v0 xs0 va1 vb1 xs1 ys1 s0 s1 u1).mono fun e W' ⟨he, bel⟩ => ?_
  subst he
  exact ⟨_, rfl, _, _, _, [], _, [], hW', trodAll_mk1 (shut_bool Try.underlying4 _), (trodAll_cons_mk (Below.trod laidOut (by kernel_rfl) (of_decide_eq_true (by kernel_rfl)) k0 bel lt0) (trodAll_cons_mk (Below.trod laidOut (by kernel_rfl) (of_decide_eq_true (by kernel_rfl)) k1 bel lt1) trodAll_mk0)), rfl, bel.frame _, fun h => by cases h⟩

/-- The given statement. -/
theorem ArraySizes_holds : Rows.ArraySizesSaid :=
  OpenClaim.holds_of_wide 3 Try.f3 rfl rfl rfl rfl rfl rfl rfl ⟨rfl, rfl, rfl, rfl, rfl⟩ rfl rfl rfl rfl rfl (by kernel_rfl) Try.func3 (by kernel_rfl)
    (of_decide_eq_true (by kernel_rfl)) (by unfold Func.isWrapper; rw [if_neg (by decide +kernel)]; exact ⟨rfl, rfl⟩)
    (fun os started H enc _ => ArraySizes_lifted os started H enc)
#print axioms ArraySizes_holds
end Go.Proofs.Ytbhhmfkipfedfaa
