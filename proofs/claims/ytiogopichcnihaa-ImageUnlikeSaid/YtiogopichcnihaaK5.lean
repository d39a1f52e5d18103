/-
  ImageUnlike: the law returns true for every input, and what was handed in reads as it did. No condition.
-/
import Derived.Test.YtiogopichcnihaaJI
namespace Go.Proofs.Ytiogopichcnihaa
set_option maxRecDepth 100000
open Go.ChangeShapes Go.WideShapes Go.ChangeAt Go.RowKit Go.Joins
set_option linter.unusedVariables false
set_option linter.unusedSimpArgs false

set_option maxHeartbeats 8000000 in
theorem ImageUnlike_walk (w : World) (m : Img) (vd vi vo vc : Value) (n : Img) (ud ui uo uc : Value) (h : ImgAt w vd vi vo vc m) (h2 : ImgAt w ud ui uo uc n) :
    Calls Try.prog 7 #[.agg #[vd, .int .i64 m.mem, vi, vo, vc], .agg #[ud, .int .i64 n.mem, ui, uo, uc]] w fun e w' => e = .returned (.bool true) ∧ Below w.heap.size w w' := by
  have H := Lib.hid h; have K := Lib.hid h2
  obtain ⟨⟨da, dc, rfl, -, -, -⟩, ⟨ia, ic, rfl, -, -, -, -⟩, ⟨oa, oc, rfl, -, -, -, -⟩, ⟨ca, cc, rfl, -, -, -, -⟩, -⟩ := h
  obtain ⟨⟨da', dc', rfl, -, -, -⟩, ⟨ia', ic', rfl, -, -, -, -⟩, ⟨oa', oc', rfl, -, -, -, -⟩, ⟨ca', cc', rfl, -, -, -, -⟩, -⟩ := h2
  go_enter Try.func7, Try.ntmps7
  go_wp2_with fail
  refine (shown_any _).mono ?_
  rintro e W1 ⟨rfl, hb1⟩
  obtain ⟨hM, hN⟩ := new2 hb1
  have hM : BoxI W1 w.heap.size _ _ _ _ _ := hM
  have hN : BoxI W1 (w.heap.size + 1) _ _ _ _ _ := hN
  have x0 := hM.c0; have x1 := hM.c1; have x2 := hM.c2; have x3 := hM.c3; have x4 := hM.c4
  have hb := bNext hb1 (((Below.refl w.heap.size w).alloc (Nat.le_refl _) _).alloc (by simp) _)
  have HB1 := Lib.hid hb; have HM1 := Lib.hid hM; have HN1 := Lib.hid hN
  have h1 := writeO_any W1 _ _ _ _ m (ImgAt.below H.out hb)
  have H1 := Lib.hid h1
  clear hb1 hb hM hN h1
  go_wp2_with fail
  refine H1.out.mono ?_
  rintro e W2 ⟨v1, rfl, hr1, hb2⟩
  have HB2 := Lib.hid (bNext hb2 HB1.out); have HM2 := Lib.hid (HM1.out.below hb2); have HN2 := Lib.hid (HN1.out.below hb2)
  have y0 := HN2.out.c0; have y1 := HN2.out.c1; have y2 := HN2.out.c2; have y3 := HN2.out.c3; have y4 := HN2.out.c4
  obtain ⟨a1, c1, rfl, hlc1, hmx1, hi1⟩ := hr1.slice
  have HI1 := Lib.hid hi1
  have h2 := writeO_any W2 _ _ _ _ n (ImgAt.below K.out HB2.out)
  have H2 := Lib.hid h2
  clear hb2 hr1 hi1 h2 H1 x0 x1 x2 x3 x4 HM1 HN1
  go_wp2_with fail
  refine H2.out.mono ?_
  rintro e W3 ⟨v2, rfl, hr2, hb3⟩
  have HB3 := Lib.hid (bNext hb3 HB2.out); have HM3 := Lib.hid (HM2.out.below hb3); have HN3 := Lib.hid (HN2.out.below hb3)
  obtain ⟨a2, c2, rfl, hlc2, hmx2, hi2⟩ := hr2.slice
  have HI2 := Lib.hid hi2; have HI13 := Lib.hid (HI1.out.below hb3 (Nat.le_refl _))
  clear hb3 hr2 hi2 HI1 H2 y0 y1 y2 y3 y4 HM2 HN2
  cases hm : imgRight m with
  | false =>
    rw [outE_f hm, outB_f hm]
    cases hn : imgRight n with
    | false =>
      rw [outE_f hn, outB_f hn]
      clear hlc1 hlc2
      go_wp2_with fail
      go_ret
      exact ⟨rfl, HB3.out⟩
    | true =>
      rw [outE_t hn]
      clear hlc1 hlc2
      go_wp2_with fail
      go_ret
      exact ⟨rfl, HB3.out⟩
  | true =>
    cases hn : imgRight n with
    | false =>
      rw [outE_t hm, outE_f hn, outB_f hn]
      clear hlc1 hlc2
      go_wp2_with fail
      go_ret
      exact ⟨rfl, HB3.out⟩
    | true =>
      have hse := str_eq (writeB_byts m) (writeB_byts n)
      rw [write_inj hm H.out.wf hn K.out.wf] at hse
      have cv1 : ∀ p : BelowW W3, _ := fun p => conv_str p.world a1 c1 _ (HI13.out.below p.below (Nat.le_refl _)) (outB_byts m)
      have cv2 : ∀ p : BelowW W3, _ := fun p => conv_str p.world a2 c2 _ (HI2.out.below p.below (Nat.le_refl _)) (outB_byts n)
      rw [outB_t hm] at cv1 hlc1
      rw [outB_t hn] at cv2 hlc2
      rw [outE_t hm, outE_t hn, outB_t hm, outB_t hn]
      have q1 : ∀ p : BelowW W3, _ := fun p => rsame_any p.world _ _ _ _ _ _ _ _ m n (ImgAt.below H.out (bNext p.below HB3.out)) (ImgAt.below K.out (bNext p.below HB3.out))
      have f0 := cellBW HM3.out.c0; have f1 := cellBW HM3.out.c1; have f2 := cellBW HM3.out.c2; have f3 := cellBW HM3.out.c3; have f4 := cellBW HM3.out.c4
      have g0 := cellBW HN3.out.c0; have g1 := cellBW HN3.out.c1; have g2 := cellBW HN3.out.c2; have g3 := cellBW HN3.out.c3; have g4 := cellBW HN3.out.c4
      generalize writeB m = bm at hse cv1 hlc1
      generalize writeB n = bn at hse cv2 hlc2
      generalize decide (m = n) = dd at q1 hse
      have Q1 := Lib.hid q1
      clear q1 hm hn HM3 HN3 HI2 HI13
      go_upto_region 6 with fail
      refine wp_region_below (by kernel_rfl) (by kernel_rfl) ?_
      repeat (go_big_quiet_step ((go_at_call 16; refine callsBW (Q1.out _))))
      refine wpQuiet_nil ?_
      rintro _ ⟨⟨wq, hwq⟩, rfl⟩
      have HQ := Lib.hid (bNext hwq HB3.out)
      clear f0 f1 f2 f3 f4 g0 g1 g2 g3 g4 cv1 cv2
      cases dd
      all_goals
        go_wp2_with fail
        go_ret
        exact ⟨rfl, HQ.out⟩

set_option maxRecDepth 100000 in
theorem ImageUnlike_lifted (os : Os) (started : os.Started) (H : Type) (enc : TypeId × Value → H) :
    ReturnsInHanded {} Try.checked os 7 .any (Rows.imageUnlikeSpec.pre6 enc Try.prog Try.f7 Rows.imageUnlikeRow.domain false) (Rows.imageUnlikeSpec.post enc Try.prog Try.f7 false true false false) := by
  refine returnsInHanded_of_change (C := Try.checked) own started (by kernel_rfl) Try.func7
    (ChangeSpec.witness6 (enc := enc) (C := Try.checked) false ⟨#[], #[.agg #[.slice none 0 0, .int .i64 0, .slice none 0 0, .slice none 0 0, .slice none 0 0], .agg #[.slice none 0 0, .int .i64 0, .slice none 0 0, .slice none 0 0, .slice none 0 0]], []⟩ 8 (by kernel_rfl) (by kernel_rfl) (by kernel_rfl) (by kernel_rfl)) ?_
  intro W base args ds gs before hval0 hW hcnd _
  have hval : ∀ (j : Nat) t v, Try.f7.params[j]? = some t → args[j]? = some v → Value.okWide Try.prog W .any base t v := hval0
  have hW' := hW
  obtain ⟨p, q, hA0, hV, rfl, hfz, hnd⟩ := hW
  have hA : DataW.TrodAll enc Try.prog W 0 (fun _ => true) true Try.f7.params.toList args.toList ds p := hA0
  rw [Try.params7] at hA hval
  obtain ⟨v0, vs0, d0, ds0, p0, q0, hargs, rfl, rfl, h0, r0⟩ := trodAll_cons hA
  obtain ⟨v1, vs1, d1, ds1, p1, q1, rfl, rfl, rfl, h1, r1⟩ := trodAll_cons r0
  obtain ⟨rfl, rfl, rfl⟩ := trodAll_nil r1
  obtain rfl : args = #[v0, v1] := by cases args; simp_all
  obtain ⟨rfl, rfl⟩ := trodVars_none hV
  have k0 := h0
  have lt0 : ∀ x ∈ p0, x.block < W.heap.size := by obtain ⟨m, hm⟩ := k0; exact DataW.trod_lt m _ _ _ hm
  obtain ⟨m0, vd0, vi0, vo0, vc0, rfl, s0⟩ := open_image (hval 0 26 v0 rfl rfl) h0
  have k1 := h1
  have lt1 : ∀ x ∈ p1, x.block < W.heap.size := by obtain ⟨m, hm⟩ := k1; exact DataW.trod_lt m _ _ _ hm
  obtain ⟨m1, vd1, vi1, vo1, vc1, rfl, s1⟩ := open_image (hval 1 26 v1 rfl rfl) h1
  clear hA0 hval0
  refine (ImageUnlike_walk W m0 vd0 vi0 vo0 vc0 m1 vd1 vi1 vo1 vc1 s0 s1).mono fun e W' ⟨he, bel⟩ => ?_
  subst he
  exact ⟨_, rfl, _, _, _, [], _, [], hW', trodAll_mk1 (shut_bool Try.underlying4 _), (trodAll_cons_mk (Below.trod laidOut (by kernel_rfl) (of_decide_eq_true (by kernel_rfl)) k0 bel lt0) (trodAll_cons_mk (Below.trod laidOut (by kernel_rfl) (of_decide_eq_true (by kernel_rfl)) k1 bel lt1) trodAll_mk0)), rfl, bel.frame _, fun h => by cases h⟩

/-- The given statement. -/
theorem ImageUnlike_holds : Rows.ImageUnlikeSaid :=
  OpenClaim.holds_of_wide 7 Try.f7 rfl rfl rfl rfl rfl rfl rfl ⟨rfl, rfl, rfl, rfl, rfl⟩ rfl rfl rfl rfl rfl (by kernel_rfl) Try.func7 (by kernel_rfl)
    (of_decide_eq_true (by kernel_rfl)) (by unfold Func.isWrapper; rw [if_neg (by decide +kernel)]; exact ⟨rfl, rfl⟩)
    (fun os started H enc _ => ImageUnlike_lifted os started H enc)
#print axioms ImageUnlike_holds
end Go.Proofs.Ytiogopichcnihaa
