/-
  ImageWrites: the law returns true for every input, and what was handed in reads as it did. No condition.
-/
import Derived.Test.YtiogopichcnihaaJI
namespace Go.Proofs.Ytiogopichcnihaa
set_option maxRecDepth 100000
open Go.ChangeShapes Go.WideShapes Go.ChangeAt Go.RowKit Go.Joins
set_option linter.unusedVariables false
set_option linter.unusedSimpArgs false

set_option maxHeartbeats 8000000 in
theorem ImageWrites_walk (w : World) (m : Img) (vd vi vo vc : Value) (h : ImgAt w vd vi vo vc m) :
    Calls Try.prog 3 #[.agg #[vd, .int .i64 m.mem, vi, vo, vc]] w fun e w' => e = .returned (.bool true) ∧ Below w.heap.size w w' := by
  have H := Lib.hid h
  obtain ⟨⟨da, dc, rfl, -, -, -⟩, ⟨ia, ic, rfl, -, -, -, -⟩, ⟨oa, oc, rfl, -, -, -, -⟩, ⟨ca, cc, rfl, -, -, -, -⟩, -⟩ := h
  go_enter Try.func3, Try.ntmps3
  go_wp2_with fail
  refine (shown_any _).mono ?_
  rintro e W1 ⟨rfl, hb1⟩
  have hM := new1 hb1
  have x0 := cell_of_row W1 w.heap.size 0 _ _ _ hM; have x1 := cell_of_row W1 w.heap.size 1 _ _ _ hM; have x2 := cell_of_row W1 w.heap.size 2 _ _ _ hM; have x3 := cell_of_row W1 w.heap.size 3 _ _ _ hM; have x4 := cell_of_row W1 w.heap.size 4 _ _ _ hM
  have hb := bNext hb1 ((Below.refl _ _).alloc (Nat.le_refl _) _)
  have HB1 := Lib.hid hb; have HM1 := Lib.hid hM
  have h1 := writeO_any W1 _ _ _ _ m (ImgAt.below H.out hb)
  have H1 := Lib.hid h1
  clear hb1 hb hM h1
  go_wp2_with fail
  refine H1.out.mono ?_
  rintro e W2 ⟨v1, rfl, hr1, hb2⟩
  have y0 := keepCell hb2 x0; have y1 := keepCell hb2 x1; have y2 := keepCell hb2 x2; have y3 := keepCell hb2 x3; have y4 := keepCell hb2 x4
  have HB2 := Lib.hid (bNext hb2 HB1.out)
  obtain ⟨a1, c1, rfl, hlc1, hmx1, hi1⟩ := hr1.slice
  have HI1 := Lib.hid hi1
  have h2 := rwriteO_any W2 _ _ _ _ m (ImgAt.below H.out HB2.out)
  have H2 := Lib.hid h2
  clear hb2 hr1 hi1 h2 H1 x0 x1 x2 x3 x4
  go_wp2_with fail
  refine H2.out.mono ?_
  rintro e W3 ⟨v2, rfl, hr2, hb3⟩
  have z0 := keepCell hb3 y0; have z1 := keepCell hb3 y1; have z2 := keepCell hb3 y2; have z3 := keepCell hb3 y3; have z4 := keepCell hb3 y4
  have HB3 := Lib.hid (bNext hb3 HB2.out)
  obtain ⟨a2, c2, rfl, hlc2, hmx2, hi2⟩ := hr2.slice
  have HI2 := Lib.hid hi2; have HI13 := Lib.hid (HI1.out.below hb3 (Nat.le_refl _))
  have hbt := outB_byts m
  have cv1 : ∀ p : BelowW W3, _ := fun p => conv_str p.world a1 c1 _ (HI13.out.below p.below (Nat.le_refl _)) hbt
  have cv2 : ∀ p : BelowW W3, _ := fun p => conv_str p.world a2 c2 _ (HI2.out.below p.below (Nat.le_refl _)) hbt
  have q1 : ∀ p : BelowW W3, _ := fun p => iright_any p.world _ _ _ _ m (ImgAt.below H.out (bNext p.below HB3.out))
  have q2 : ∀ p : BelowW W3, _ := fun p => rright20_any p.world _ _ _ _ m (ImgAt.below H.out (bNext p.below HB3.out))
  have f0 := cellBW z0; have f1 := cellBW z1; have f2 := cellBW z2; have f3 := cellBW z3; have f4 := cellBW z4
  generalize imgRight m = rr at q1 q2
  have Q1 := Lib.hid q1; have Q2 := Lib.hid q2
  clear hb3 hr2 hi2 HI1 HI2 HI13 H2 q1 q2 y0 y1 y2 y3 y4 hbt z0 z1 z2 z3 z4
  go_upto_region 4 with fail
  refine wp_region_below (by kernel_rfl) (by kernel_rfl) ?_
  repeat (go_big_quiet_step (first | (go_at_call 12; refine callsBW (Q1.out _)) | (go_at_call 13; refine callsBW (Q2.out _))))
  refine wpQuiet_nil ?_
  rintro _ ⟨⟨wq, hwq⟩, rfl⟩
  have HQ := Lib.hid (bNext hwq HB3.out)
  clear f0 f1 f2 f3 f4 cv1 cv2
  go_wp2_with fail
  go_ret
  exact ⟨rfl, HQ.out⟩

set_option maxRecDepth 100000 in
theorem ImageWrites_lifted (os : Os) (started : os.Started) (H : Type) (enc : TypeId × Value → H) :
    ReturnsInHanded {} Try.checked os 3 .any (Rows.imageWritesSpec.pre6 enc Try.prog Try.f3 Rows.imageWritesRow.domain false) (Rows.imageWritesSpec.post enc Try.prog Try.f3 false true false false) := by
  refine returnsInHanded_of_change (C := Try.checked) own started (by kernel_rfl) Try.func3
    (ChangeSpec.witness6 (enc := enc) (C := Try.checked) false ⟨#[], #[.agg #[.slice none 0 0, .int .i64 0, .slice none 0 0, .slice none 0 0, .slice none 0 0]], []⟩ 8 (by kernel_rfl) (by kernel_rfl) (by kernel_rfl) (by kernel_rfl)) ?_
  intro W base args ds gs before hval0 hW hcnd _
  have hval : ∀ (j : Nat) t v, Try.f3.params[j]? = some t → args[j]? = some v → Value.okWide Try.prog W .any base t v := hval0
  have hW' := hW
  obtain ⟨p, q, hA0, hV, rfl, hfz, hnd⟩ := hW
  have hA : DataW.TrodAll enc Try.prog W 0 (fun _ => true) true Try.f3.params.toList args.toList ds p := hA0
  rw [Try.params3] at hA hval
  obtain ⟨v0, vs0, d0, ds0, p0, q0, hargs, rfl, rfl, h0, r0⟩ := trodAll_cons hA
  obtain ⟨rfl, rfl, rfl⟩ := trodAll_nil r0
  obtain rfl : args = #[v0] := by cases args; simp_all
  obtain ⟨rfl, rfl⟩ := trodVars_none hV
  have k0 := h0
  have lt0 : ∀ x ∈ p0, x.block < W.heap.size := by obtain ⟨m, hm⟩ := k0; exact DataW.trod_lt m _ _ _ hm
  obtain ⟨m0, vd0, vi0, vo0, vc0, rfl, s0⟩ := open_image (hval 0 26 v0 rfl rfl) h0
  clear hA0 hval0
  refine (ImageWrites_walk W m0 vd0 vi0 vo0 vc0 s0).mono fun e W' ⟨he, bel⟩ => ?_
  subst he
  exact ⟨_, rfl, _, _, _, [], _, [], hW', trodAll_mk1 (shut_bool Try.underlying4 _), (trodAll_cons_mk (Below.trod laidOut (by kernel_rfl) (of_decide_eq_true (by kernel_rfl)) k0 bel lt0) trodAll_mk0), rfl, bel.frame _, fun h => by cases h⟩

/-- The given statement. -/
theorem ImageWrites_holds : Rows.ImageWritesSaid :=
  OpenClaim.holds_of_wide 3 Try.f3 rfl rfl rfl rfl rfl rfl rfl ⟨rfl, rfl, rfl, rfl, rfl⟩ rfl rfl rfl rfl rfl (by kernel_rfl) Try.func3 (by kernel_rfl)
    (of_decide_eq_true (by kernel_rfl)) (by unfold Func.isWrapper; rw [if_neg (by decide +kernel)]; exact ⟨rfl, rfl⟩)
    (fun os started H enc _ => ImageWrites_lifted os started H enc)
#print axioms ImageWrites_holds
end Go.Proofs.Ytiogopichcnihaa
