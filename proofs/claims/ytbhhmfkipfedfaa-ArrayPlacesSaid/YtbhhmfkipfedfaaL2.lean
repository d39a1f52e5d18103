/-
  ArrayPlaces: for every sides, every index and every place the law returns true, and what was handed in reads as it did. No condition.
-/
import Derived.Test.YtbhhmfkipfedfaaShown
import Derived.Test.YtbhhmfkipfedfaaOpen
import Derived.Test.YtbhhmfkipfedfaaLaws
namespace Go.Proofs.Ytbhhmfkipfedfaa
open Go.ChangeShapes Go.WideShapes Go.ChangeAt Go.RowKit Go.Joins
set_option linter.unusedVariables false

set_option maxRecDepth 100000 in
set_option maxHeartbeats 4000000 in
theorem ArrayPlaces_walk (w : World) (v0 : Value) (xs : List Int) (v1 : Value) (ys : List Int) (p : Int) (q0 : SlI .i64 w v0 xs) (q1 : SlI .i64 w v1 ys) (_ : (Lit.int .i64 p).wf = true) :
    Calls Try.prog 4 #[v0, v1, .int .i64 p] w fun e w' => e = .returned (.bool true) ∧ Below w.heap.size w w' := by
  obtain ⟨a, c, rfl, hm1, hm2, h, -⟩ := q0
  obtain ⟨b, d, rfl, hs1, hs2, h0, -⟩ := q1
  have hm := Nat.le_trans hm1 hm2
  have hs := Nat.le_trans hs1 hs2
  have k1 := fun W (hB : Below w.heap.size w W) => place_any W a b c d xs ys hm hs (h.below hB (Nat.le_refl _)) (h0.below hB (Nat.le_refl _))
  have k2 := fun W (hB : Below w.heap.size w W) => rplace_any W a b c d xs ys hm hs (h.below hB (Nat.le_refl _)) (h0.below hB (Nat.le_refl _))
  have k3 := fun W (hB : Below w.heap.size w W) => index_any W a c xs p hm (h.below hB (Nat.le_refl _))
  have k4 := fun W (hB : Below w.heap.size w W) => rindex_any W a c xs p hm (h.below hB (Nat.le_refl _))
  unfold two at k1 k2
  unfold RetRow at k3 k4
  generalize place xs ys = pl at k1 k2
  generalize index xs p = ix at k3 k4
  obtain ⟨n, er⟩ := pl
  obtain ⟨i, er2⟩ := ix
  have K1 := Lib.hid k1; have K2 := Lib.hid k2; have K3 := Lib.hid k3; have K4 := Lib.hid k4; clear k1 k2 k3 k4 h h0
  go_enter Try.func4, Try.ntmps4
  go_wp2_with fail
  refine (shown_any _).mono ?_
  rintro e w1 ⟨rfl, hB1⟩
  go_wp2_with fail
  refine (K1.out _ hB1).mono ?_
  rintro e w2 ⟨rfl, hb⟩
  have hB2 : Below w.heap.size w w2 := bAfter hB1 hB1.size hb
  clear hb hB1
  go_wp2_with fail
  refine (K2.out _ hB2).mono ?_
  rintro e w3 ⟨rfl, hb⟩
  have hB3 : Below w.heap.size w w3 := bAfter hB2 hB2.size hb
  clear hb hB2
  go_wp2_with fail
  refine (K3.out _ hB3).mono ?_
  rintro e w4 ⟨⟨v, rfl, hv⟩, hb⟩
  obtain ⟨av, cv, rfl, hvl, hvi⟩ := hv.slice
  have hB4 : Below w.heap.size w w4 := bAfter hB3 hB3.size hb
  clear hb hB3 hv
  have Hvi := Lib.hid hvi; clear hvi
  go_wp2_with fail
  refine (K4.out _ hB4).mono ?_
  rintro e w5 ⟨⟨v, rfl, hv⟩, hb⟩
  obtain ⟨au, cu, rfl, hul, hui⟩ := hv.slice
  have hB5 : Below w.heap.size w w5 := bAfter hB4 hB4.size hb
  have Hvi5 := Lib.hid (Hvi.out.below hb (Nat.le_refl _))
  clear hb hB4 hv Hvi
  have Hui := Lib.hid hui; clear hui
  go_wp2_with fail
  refine (ints_any _ av au cv cu i i hvl hul Hvi5.out Hui.out).mono ?_
  rintro e w6 ⟨he, n6, rfl⟩
  rw [show ints i i = true from by simp [ints]] at he
  subst he
  go_wp2_with fail
  go_ret
  exact ⟨ret_bool (by simp), hB5.trans (Below.drewN _ _)⟩

set_option maxRecDepth 100000 in
theorem ArrayPlaces_lifted (os : Os) (started : os.Started) (H : Type) (enc : TypeId × Value → H) :
    ReturnsInHanded {} Try.checked os 4 .any (Rows.arrayPlacesSpec.pre6 enc Try.prog Try.f4 Rows.arrayPlacesRow.domain false) (Rows.arrayPlacesSpec.post enc Try.prog Try.f4 false true false false) := by
  refine returnsInHanded_of_change (C := Try.checked) own started (by kernel_rfl) Try.func4
    (ChangeSpec.witness6 (enc := enc) (C := Try.checked) false ⟨#[], #[.slice none 0 0, .slice none 0 0, .int .i64 0], []⟩ 8 (by kernel_rfl) (by kernel_rfl) (by kernel_rfl) (by kernel_rfl)) ?_
  intro W base args ds gs before hval0 hW hcnd _
  have hval : ∀ (j : Nat) t v, Try.f4.params[j]? = some t → args[j]? = some v → Value.okWide Try.prog W .any base t v := hval0
  have hW' := hW
  obtain ⟨p, q, hA0, hV, rfl, hfz, hnd⟩ := hW
  have hA : DataW.TrodAll enc Try.prog W 0 (fun _ => true) true Try.f4.params.toList args.toList ds p := hA0
  rw [Try.params4] at hA hval
  obtain ⟨v0, vs0, d0, ds0, p0, q0, hargs, rfl, rfl, h0, r0⟩ := trodAll_cons hA
  obtain ⟨v1, vs1, d1, ds1, p1, q1, rfl, rfl, rfl, h1, r1⟩ := trodAll_cons r0
  obtain ⟨v2, vs2, d2, ds2, p2, q2, rfl, rfl, rfl, h2, r2⟩ := trodAll_cons r1
  obtain ⟨rfl, rfl, rfl⟩ := trodAll_nil r2
  obtain rfl : args = #[v0, v1, v2] := by cases args; simp_all
  obtain ⟨rfl, rfl⟩ := trodVars_none hV
  have k0 := h0
  have lt0 : ∀ x ∈ p0, x.block < W.heap.size := by obtain ⟨m, hm⟩ := k0; exact DataW.trod_lt m _ _ _ hm
  obtain ⟨xs0, s0⟩ := sl_of_Trod Try.underlying22 Try.underlying2 (by kernel_rfl) (hval 0 22 v0 rfl rfl) h0
  have k1 := h1
  have lt1 : ∀ x ∈ p1, x.block < W.heap.size := by obtain ⟨m, hm⟩ := k1; exact DataW.trod_lt m _ _ _ hm
  obtain ⟨xs1, s1⟩ := sl_of_Trod Try.underlying22 Try.underlying2 (by kernel_rfl) (hval 1 22 v1 rfl rfl) h1
  obtain ⟨a2, rfl, rfl, rfl, w2⟩ := open_int Try.underlying2 (hval 2 2 v2 rfl rfl) h2
  clear hA0 hval0
  refine (ArrayPlaces_walk W v0 xs0 v1 xs1 a2 s0 s1 w2).mono fun e W' ⟨he, bel⟩ => ?_
  subst he
  exact ⟨_, rfl, _, _, _, [], _, [], hW', trodAll_mk1 (shut_bool Try.underlying4 _), (trodAll_cons_mk (Below.trod laidOut (by kernel_rfl) (of_decide_eq_true (by kernel_rfl)) k0 bel lt0) (trodAll_cons_mk (Below.trod laidOut (by kernel_rfl) (of_decide_eq_true (by kernel_rfl)) k1 bel lt1) (trodAll_cons_mk (shut_int Try.underlying2 w2) trodAll_mk0))), rfl, bel.frame _, fun h => by cases h⟩

/-- The given statement. -/
theorem ArrayPlaces_holds : Rows.ArrayPlacesSaid :=
  OpenClaim.holds_of_wide 4 Try.f4 rfl rfl rfl rfl rfl rfl rfl ⟨rfl, rfl, rfl, rfl, rfl⟩ rfl rfl rfl rfl rfl (by kernel_rfl) Try.func4 (by kernel_rfl)
    (of_decide_eq_true (by kernel_rfl)) (by unfold Func.isWrapper; rw [if_neg (by decide +kernel)]; exact ⟨rfl, rfl⟩)
    (fun os started H enc _ => ArrayPlaces_lifted os started H enc)
#print axioms ArrayPlaces_holds
end Go.Proofs.Ytbhhmfkipfedfaa
