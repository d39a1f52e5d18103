/-
  ImageBack: the law returns true for every input, and what was handed in reads as it did. No condition.
-/
import Derived.Test.YtiogopichcnihaaJI
namespace Go.Proofs.Ytiogopichcnihaa
set_option maxRecDepth 100000
open Go.ChangeShapes Go.WideShapes Go.ChangeAt Go.RowKit Go.Joins
set_option linter.unusedVariables false
set_option linter.unusedSimpArgs false

set_option maxHeartbeats 8000000 in
theorem ImageBack_walk (w : World) (m : Img) (vd vi vo vc : Value) (vb : Value) (bs : List Int) (h : ImgAt w vd vi vo vc m) (hbs : (Rep.int .u8).Sl w vb bs) :
    Calls Try.prog 5 #[.agg #[vd, .int .i64 m.mem, vi, vo, vc], vb] w fun e w' => e = .returned (.bool true) ∧ Below w.heap.size w w' := by
  have H := Lib.hid h; have HBY := Lib.hid (Byts.of hbs)
  obtain ⟨⟨da, dc, rfl, -, -, -⟩, ⟨ia, ic, rfl, -, -, -, -⟩, ⟨oa, oc, rfl, -, -, -, -⟩, ⟨ca, cc, rfl, -, -, -, -⟩, -⟩ := h
  obtain ⟨ba, bc, rfl, hbl, hbm, hbi⟩ := IntSl.of hbs
  have HBI := Lib.hid hbi; have HBL := Lib.hid hbl; have HBM := Lib.hid hbm
  clear hbs hbi hbl hbm
  go_enter Try.func5, Try.ntmps5
  go_wp2_with fail
  refine (shown_any _).mono ?_
  rintro e W1 ⟨rfl, hb1⟩
  have hM : BoxI W1 w.heap.size _ _ _ _ _ := new1 hb1
  have x0 := hM.c0; have x1 := hM.c1; have x2 := hM.c2; have x3 := hM.c3; have x4 := hM.c4
  have hb := bNext hb1 ((Below.refl w.heap.size w).alloc (Nat.le_refl _) _)
  have HB1 := Lib.hid hb; have HM1 := Lib.hid hM
  have h1 := writeO_any W1 _ _ _ _ m (ImgAt.below H.out hb)
  have H1 := Lib.hid h1
  clear hb1 hb hM h1
  go_wp2_with fail
  refine H1.out.mono ?_
  rintro e W2 ⟨v1, rfl, hr1, hb2⟩
  have HB2 := Lib.hid (bNext hb2 HB1.out); have HM2 := Lib.hid (HM1.out.below hb2)
  obtain ⟨a1, c1, rfl, hlc1, hmx1, hi1, hcm1⟩ := hr1.slice2
  have HR1 := Lib.hid hr1
  clear hb2 H1 x0 x1 x2 x3 x4 HM1
  cases hm : imgRight m with
  | false =>
    rw [outE_f hm, outB_f hm]
    clear hlc1 hmx1 hi1 hcm1 HR1 hm
    have h3 := fun (res : Option Img) hres => readO_any W2 ba bc bs.length bs rfl (HBI.out.below (Hid.out HB2) (Nat.le_refl _)) HBL.out HBM.out HBY.out res hres
    have H3 := Lib.hid h3
    clear h3
    cases hres : readB bs with
    | none =>
      have h4 := H3.out none hres
      dsimp only [Option.getD, Option.isSome] at h4
      have H4 := Lib.hid h4
      clear h4 H3 hres
      go_wp2_with fail
      refine H4.out.mono ?_
      rintro e W5 ⟨da5, dc5, ia5, ic5, oa5, oc5, ca5, cc5, rfl, -, -, hb5⟩
      have HB5 := Lib.hid ((bNext hb5 (Hid.out HB2)).alloc (bNext hb5 (Hid.out HB2)).size (.cells #[.slice da5 img0.dims.length dc5, .int .i64 img0.mem, .slice ia5 img0.ins.length ic5, .slice oa5 img0.outs.length oc5, .slice ca5 img0.code.length cc5] 26))
      clear hb5
      go_wp2_with fail
      go_ret
      exact ⟨rfl, HB5.out⟩
    | some n =>
      have h4 := H3.out (some n) hres
      dsimp only [Option.getD, Option.isSome] at h4
      obtain ⟨hwn, hrn, -⟩ := read_back HBY.out hres
      have H4 := Lib.hid h4
      clear h4 H3 hres
      go_wp2_with fail
      refine H4.out.mono ?_
      rintro e W5 ⟨da5, dc5, ia5, ic5, oa5, oc5, ca5, cc5, rfl, -, hat5, hb5⟩
      have hba : Below W5.heap.size W5 (W5.alloc (.cells #[.slice da5 n.dims.length dc5, .int .i64 n.mem, .slice ia5 n.ins.length ic5, .slice oa5 n.outs.length oc5, .slice ca5 n.code.length cc5] 26)) := (Below.refl _ _).alloc (Nat.le_refl _) _
      have HB5 := Lib.hid (bNext hba (bNext hb5 (Hid.out HB2)))
      have hat6 := ImgAt.below hat5 hba
      have hN : BoxI (W5.alloc (.cells #[.slice da5 n.dims.length dc5, .int .i64 n.mem, .slice ia5 n.ins.length ic5, .slice oa5 n.outs.length oc5, .slice ca5 n.code.length cc5] 26)) W5.heap.size _ _ _ _ _ := World.alloc_heap_new _ _
      have h6 := writeO_any _ _ _ _ _ n hat6
      have H6 := Lib.hid h6; have HAT := Lib.hid hat6; have HN := Lib.hid hN
      clear h6 hat5 hat6 hb5 hba hN H4
      go_wp2_with fail
      refine H6.out.mono ?_
      rintro e W7 ⟨v7, rfl, hr7, hb7⟩
      obtain ⟨a7, c7, rfl, hlc7, hmx7, hi7⟩ := hr7.slice
      have hN7 := HN.out.below hb7
      have z0 := hN7.c0; have z1 := hN7.c1; have z2 := hN7.c2; have z3 := hN7.c3; have z4 := hN7.c4
      have h8 := iright_any W7 _ _ _ _ n (ImgAt.below HAT.out hb7)
      have HB7 := Lib.hid (bNext hb7 HB5.out); have HI7 := Lib.hid hi7
      rw [outE_t hrn, outB_t hrn, hwn]
      rw [outB_t hrn, hwn] at HI7 hlc7 hmx7
      rw [hrn] at h8
      have H8 := Lib.hid h8
      clear hr7 hb7 hi7 h8 H6 HN HAT hN7 hwn hrn
      go_wp2_with fail
      refine H8.out.mono ?_
      rintro e W8 ⟨rfl, hb8⟩
      have HB8 := Lib.hid (bNext hb8 HB7.out)
      have cv1 := conv_str W8 a7 c7 bs (HI7.out.below hb8 (Nat.le_refl _)) HBY.out
      have cv2 := conv_str W8 ba bc bs (HBI.out.below HB8.out (Nat.le_refl _)) HBY.out
      clear hb8 H8 z0 z1 z2 z3 z4
      go_wp2_with fail
      go_ret
      exact ⟨rfl, HB8.out⟩
  | true =>
    rw [outE_t hm, outB_t hm]
    rw [outB_t hm] at hlc1 hmx1 hi1
    have h3 := readO_any W2 a1 c1 (writeB m).length (writeB m) rfl hi1 hlc1 hcm1 (writeB_byts m) (some m) (write_back hm H.out.wf)
    dsimp only [Option.getD, Option.isSome] at h3
    have H3 := Lib.hid h3
    clear h3 hi1 HR1 hm
    go_wp2_with fail
    refine H3.out.mono ?_
    rintro e W3 ⟨da3, dc3, ia3, ic3, oa3, oc3, ca3, cc3, rfl, -, hat3, hb3⟩
    have hba : Below W3.heap.size W3 (W3.alloc (.cells #[.slice da3 m.dims.length dc3, .int .i64 m.mem, .slice ia3 m.ins.length ic3, .slice oa3 m.outs.length oc3, .slice ca3 m.code.length cc3] 26)) := (Below.refl _ _).alloc (Nat.le_refl _) _
    have HB3 := Lib.hid (bNext hba (bNext hb3 HB2.out)); have HM3 := Lib.hid (HM2.out.below hb3)
    have hW3 : w.heap.size < W3.heap.size := World.block_lt_of_cell? _ _ HM3.out.c0
    have x0 := HM3.out.c0; have x1 := HM3.out.c1; have x2 := HM3.out.c2; have x3 := HM3.out.c3; have x4 := HM3.out.c4
    have h4 := rsame_any _ _ _ _ _ _ _ _ _ m m (ImgAt.below H.out HB3.out) (ImgAt.below hat3 hba)
    rw [decide_eq_true rfl] at h4
    have H4 := Lib.hid h4
    clear h4 hat3 hb3 H3 hba HM2
    go_wp2_with fail
    refine H4.out.mono ?_
    rintro e W4 ⟨rfl, hb4⟩
    have HB4 := Lib.hid (bNext hb4 HB3.out)
    clear hb4 H4 HB3 HM3 x0 x1 x2 x3 x4 hW3
    have h3 := fun (res : Option Img) hres => readO_any W4 ba bc bs.length bs rfl (HBI.out.below (Hid.out HB4) (Nat.le_refl _)) HBL.out HBM.out HBY.out res hres
    have H3 := Lib.hid h3
    clear h3
    cases hres : readB bs with
    | none =>
      have h4 := H3.out none hres
      dsimp only [Option.getD, Option.isSome] at h4
      have H4 := Lib.hid h4
      clear h4 H3 hres
      go_wp2_with fail
      refine H4.out.mono ?_
      rintro e W5 ⟨da5, dc5, ia5, ic5, oa5, oc5, ca5, cc5, rfl, -, -, hb5⟩
      have HB5 := Lib.hid ((bNext hb5 (Hid.out HB4)).alloc (bNext hb5 (Hid.out HB4)).size (.cells #[.slice da5 img0.dims.length dc5, .int .i64 img0.mem, .slice ia5 img0.ins.length ic5, .slice oa5 img0.outs.length oc5, .slice ca5 img0.code.length cc5] 26))
      clear hb5
      go_wp2_with fail
      go_ret
      exact ⟨rfl, HB5.out⟩
    | some n =>
      have h4 := H3.out (some n) hres
      dsimp only [Option.getD, Option.isSome] at h4
      obtain ⟨hwn, hrn, -⟩ := read_back HBY.out hres
      have H4 := Lib.hid h4
      clear h4 H3 hres
      go_wp2_with fail
      refine H4.out.mono ?_
      rintro e W5 ⟨da5, dc5, ia5, ic5, oa5, oc5, ca5, cc5, rfl, -, hat5, hb5⟩
      have hba : Below W5.heap.size W5 (W5.alloc (.cells #[.slice da5 n.dims.length dc5, .int .i64 n.mem, .slice ia5 n.ins.length ic5, .slice oa5 n.outs.length oc5, .slice ca5 n.code.length cc5] 26)) := (Below.refl _ _).alloc (Nat.le_refl _) _
      have HB5 := Lib.hid (bNext hba (bNext hb5 (Hid.out HB4)))
      have hat6 := ImgAt.below hat5 hba
      have hN : BoxI (W5.alloc (.cells #[.slice da5 n.dims.length dc5, .int .i64 n.mem, .slice ia5 n.ins.length ic5, .slice oa5 n.outs.length oc5, .slice ca5 n.code.length cc5] 26)) W5.heap.size _ _ _ _ _ := World.alloc_heap_new _ _
      have h6 := writeO_any _ _ _ _ _ n hat6
      have H6 := Lib.hid h6; have HAT := Lib.hid hat6; have HN := Lib.hid hN
      clear h6 hat5 hat6 hb5 hba hN H4
      go_wp2_with fail
      refine H6.out.mono ?_
      rintro e W7 ⟨v7, rfl, hr7, hb7⟩
      obtain ⟨a7, c7, rfl, hlc7, hmx7, hi7⟩ := hr7.slice
      have hN7 := HN.out.below hb7
      have z0 := hN7.c0; have z1 := hN7.c1; have z2 := hN7.c2; have z3 := hN7.c3; have z4 := hN7.c4
      have h8 := iright_any W7 _ _ _ _ n (ImgAt.below HAT.out hb7)
      have HB7 := Lib.hid (bNext hb7 HB5.out); have HI7 := Lib.hid hi7
      rw [outE_t hrn, outB_t hrn, hwn]
      rw [outB_t hrn, hwn] at HI7 hlc7 hmx7
      rw [hrn] at h8
      have H8 := Lib.hid h8
      clear hr7 hb7 hi7 h8 H6 HN HAT hN7 hwn hrn
      go_wp2_with fail
      refine H8.out.mono ?_
      rintro e W8 ⟨rfl, hb8⟩
      have HB8 := Lib.hid (bNext hb8 HB7.out)
      have cv1 := conv_str W8 a7 c7 bs (HI7.out.below hb8 (Nat.le_refl _)) HBY.out
      have cv2 := conv_str W8 ba bc bs (HBI.out.below HB8.out (Nat.le_refl _)) HBY.out
      clear hb8 H8 z0 z1 z2 z3 z4
      go_wp2_with fail
      go_ret
      exact ⟨rfl, HB8.out⟩

set_option maxRecDepth 100000 in
theorem ImageBack_lifted (os : Os) (started : os.Started) (H : Type) (enc : TypeId × Value → H) :
    ReturnsInHanded {} Try.checked os 5 .any (Rows.imageBackSpec.pre6 enc Try.prog Try.f5 Rows.imageBackRow.domain false) (Rows.imageBackSpec.post enc Try.prog Try.f5 false true false false) := by
  refine returnsInHanded_of_change (C := Try.checked) own started (by kernel_rfl) Try.func5
    (ChangeSpec.witness6 (enc := enc) (C := Try.checked) false ⟨#[], #[.agg #[.slice none 0 0, .int .i64 0, .slice none 0 0, .slice none 0 0, .slice none 0 0], .slice none 0 0], []⟩ 8 (by kernel_rfl) (by kernel_rfl) (by kernel_rfl) (by kernel_rfl)) ?_
  intro W base args ds gs before hval0 hW hcnd _
  have hval : ∀ (j : Nat) t v, Try.f5.params[j]? = some t → args[j]? = some v → Value.okWide Try.prog W .any base t v := hval0
  have hW' := hW
  obtain ⟨p, q, hA0, hV, rfl, hfz, hnd⟩ := hW
  have hA : DataW.TrodAll enc Try.prog W 0 (fun _ => true) true Try.f5.params.toList args.toList ds p := hA0
  rw [Try.params5] at hA hval
  obtain ⟨v0, vs0, d0, ds0, p0, q0, hargs, rfl, rfl, h0, r0⟩ := trodAll_cons hA
  obtain ⟨v1, vs1, d1, ds1, p1, q1, rfl, rfl, rfl, h1, r1⟩ := trodAll_cons r0
  obtain ⟨rfl, rfl, rfl⟩ := trodAll_nil r1
  obtain rfl : args = #[v0, v1] := by cases args; simp_all
  obtain ⟨rfl, rfl⟩ := trodVars_none hV
  have k0 := h0
  have lt0 : ∀ x ∈ p0, x.block < W.heap.size := by obtain ⟨m, hm⟩ := k0; exact DataW.trod_lt m _ _ _ hm
  obtain ⟨m0, vd0, vi0, vo0, vc0, rfl, s0⟩ := open_image (hval 0 26 v0 rfl rfl) h0
  have k1 := h1
  have lt1 : ∀ x ∈ p1, x.block < W.heap.size := by obtain ⟨m, hm⟩ := k1; exact DataW.trod_lt m _ _ _ hm
  obtain ⟨xs1, s1⟩ := opens_sl Try.underlying28 opens_u8s (hval 1 28 v1 rfl rfl) h1
  clear hA0 hval0
  refine (ImageBack_walk W m0 vd0 vi0 vo0 vc0 v1 xs1 s0 s1).mono fun e W' ⟨he, bel⟩ => ?_
  subst he
  exact ⟨_, rfl, _, _, _, [], _, [], hW', trodAll_mk1 (shut_bool Try.underlying4 _), (trodAll_cons_mk (Below.trod laidOut (by kernel_rfl) (of_decide_eq_true (by kernel_rfl)) k0 bel lt0) (trodAll_cons_mk (Below.trod laidOut (by kernel_rfl) (of_decide_eq_true (by kernel_rfl)) k1 bel lt1) trodAll_mk0)), rfl, bel.frame _, fun h => by cases h⟩

/-- The given statement. -/
theorem ImageBack_holds : Rows.ImageBackSaid :=
  OpenClaim.holds_of_wide 5 Try.f5 rfl rfl rfl rfl rfl rfl rfl ⟨rfl, rfl, rfl, rfl, rfl⟩ rfl rfl rfl rfl rfl (by kernel_rfl) Try.func5 (by kernel_rfl)
    (of_decide_eq_true (by kernel_rfl)) (by unfold Func.isWrapper; rw [if_neg (by decide +kernel)]; exact ⟨rfl, rfl⟩)
    (fun os started H enc _ => ImageBack_lifted os started H enc)
#print axioms ImageBack_holds
end Go.Proofs.Ytiogopichcnihaa
