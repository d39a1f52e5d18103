/-
  ImageReads: the law returns true for every input, and what was handed in reads as it did. No condition.
-/
import Derived.Test.YtiogopichcnihaaJP
namespace Go.Proofs.Ytiogopichcnihaa
set_option maxRecDepth 100000
open Go.ChangeShapes Go.WideShapes Go.ChangeAt Go.RowKit Go.Joins
set_option linter.unusedVariables false
set_option linter.unusedSimpArgs false

set_option maxHeartbeats 8000000 in
theorem ImageReads_walk (w : World) (vb : Value) (bs : List Int) (hbs : (Rep.int .u8).Sl w vb bs) :
    Calls Try.prog 4 #[vb] w fun e w' => e = .returned (.bool true) ∧ Below w.heap.size w w' := by
  have HBY := Lib.hid (Byts.of hbs)
  obtain ⟨ba, bc, rfl, hbl, hbm, hbi⟩ := IntSl.of hbs
  have HBI := Lib.hid hbi; have HBL := Lib.hid hbl; have HBM := Lib.hid hbm
  clear hbs hbi hbl hbm
  have h1 := fun W (hb : Below w.heap.size w W) => readO_any W ba bc bs.length bs rfl (HBI.out.below hb (Nat.le_refl _)) HBL.out HBM.out HBY.out _ rfl
  have h2 := fun W (hb : Below w.heap.size w W) => rreadO_any W ba bc bs.length bs rfl (HBI.out.below hb (Nat.le_refl _)) HBL.out HBM.out HBY.out _ rfl
  generalize (readB bs).getD img0 = m at h1 h2
  generalize (if (readB bs).isSome = true then (0 : Int) else 191) = er at h1 h2
  have H1 := Lib.hid h1; have H2 := Lib.hid h2
  clear h1 h2
  go_enter Try.func4, Try.ntmps4
  go_wp2_with fail
  refine (shown_any _).mono ?_
  rintro e W1 ⟨rfl, hb1⟩
  have HB1 := Lib.hid hb1
  clear hb1
  go_wp2_with fail
  refine (H1.out _ HB1.out).mono ?_
  rintro e W2 ⟨da, dc, ia, ic, oa, oc, ca, cc, rfl, -, hat, hb2⟩
  have hba : Below W2.heap.size W2 (W2.alloc (.cells #[.slice da m.dims.length dc, .int .i64 m.mem, .slice ia m.ins.length ic, .slice oa m.outs.length oc, .slice ca m.code.length cc] 26)) := (Below.refl _ _).alloc (Nat.le_refl _) _
  have HB2 := Lib.hid (bNext hba (bNext hb2 HB1.out))
  have hat2 := ImgAt.below hat hba
  have hN : BoxI (W2.alloc (.cells #[.slice da m.dims.length dc, .int .i64 m.mem, .slice ia m.ins.length ic, .slice oa m.outs.length oc, .slice ca m.code.length cc] 26)) W2.heap.size _ _ _ _ _ := World.alloc_heap_new _ _
  have HAT := Lib.hid hat2; have HN := Lib.hid hN
  clear hat hat2 hb2 hba hN H1
  go_wp2_with fail
  refine (H2.out _ HB2.out).mono ?_
  rintro e W3 ⟨da3, dc3, ia3, ic3, oa3, oc3, ca3, cc3, rfl, -, hat, hb3⟩
  have hba : Below W3.heap.size W3 (W3.alloc (.cells #[.slice da3 m.dims.length dc3, .int .i64 m.mem, .slice ia3 m.ins.length ic3, .slice oa3 m.outs.length oc3, .slice ca3 m.code.length cc3] 26)) := (Below.refl _ _).alloc (Nat.le_refl _) _
  have hN3 := BoxI.below (BoxI.below HN.out hb3) hba
  have hN4 : BoxI (W3.alloc (.cells #[.slice da3 m.dims.length dc3, .int .i64 m.mem, .slice ia3 m.ins.length ic3, .slice oa3 m.outs.length oc3, .slice ca3 m.code.length cc3] 26)) W3.heap.size _ _ _ _ _ := World.alloc_heap_new _ _
  have h4 := rsame_any _ _ _ _ _ _ _ _ _ m m (ImgAt.below (ImgAt.below HAT.out hb3) hba) (ImgAt.below hat hba)
  rw [decide_eq_true rfl] at h4
  have HB3 := Lib.hid (bNext hba (bNext hb3 HB2.out))
  have H4 := Lib.hid h4
  have hlt : W2.heap.size < W3.heap.size := by have := hb3.size; simp at this; omega
  have x0 := BoxI.c0 (HN.out.below hb3); have x1 := BoxI.c1 (HN.out.below hb3); have x2 := BoxI.c2 (HN.out.below hb3); have x3 := BoxI.c3 (HN.out.below hb3); have x4 := BoxI.c4 (HN.out.below hb3)
  clear hat hb3 hba hN3 hN4 h4 H2 HAT HN
  go_wp2_with fail
  refine H4.out.mono ?_
  rintro e W5 ⟨rfl, hb5⟩
  have HB5 := Lib.hid (bNext hb5 HB3.out)
  clear hb5 H4 HB3
  go_wp2_with fail
  go_ret
  exact ⟨rfl, HB5.out⟩

set_option maxRecDepth 100000 in
theorem ImageReads_lifted (os : Os) (started : os.Started) (H : Type) (enc : TypeId × Value → H) :
    ReturnsInHanded {} Try.checked os 4 .any (Rows.imageReadsSpec.pre6 enc Try.prog Try.f4 Rows.imageReadsRow.domain false) (Rows.imageReadsSpec.post enc Try.prog Try.f4 false true false false) := by
  refine returnsInHanded_of_change (C := Try.checked) own started (by kernel_rfl) Try.func4
    (ChangeSpec.witness6 (enc := enc) (C := Try.checked) false ⟨#[], #[.slice none 0 0], []⟩ 8 (by kernel_rfl) (by kernel_rfl) (by kernel_rfl) (by kernel_rfl)) ?_
  intro W base args ds gs before hval0 hW hcnd _
  have hval : ∀ (j : Nat) t v, Try.f4.params[j]? = some t → args[j]? = some v → Value.okWide Try.prog W .any base t v := hval0
  have hW' := hW
  obtain ⟨p, q, hA0, hV, rfl, hfz, hnd⟩ := hW
  have hA : DataW.TrodAll enc Try.prog W 0 (fun _ => true) true Try.f4.params.toList args.toList ds p := hA0
  rw [Try.params4] at hA hval
  obtain ⟨v0, vs0, d0, ds0, p0, q0, hargs, rfl, rfl, h0, r0⟩ := trodAll_cons hA
  obtain ⟨rfl, rfl, rfl⟩ := trodAll_nil r0
  obtain rfl : args = #[v0] := by cases args; simp_all
  obtain ⟨rfl, rfl⟩ := trodVars_none hV
  have k0 := h0
  have lt0 : ∀ x ∈ p0, x.block < W.heap.size := by obtain ⟨m, hm⟩ := k0; exact DataW.trod_lt m _ _ _ hm
  obtain ⟨xs0, s0⟩ := opens_sl Try.underlying28 opens_u8s (hval 0 28 v0 rfl rfl) h0
  clear hA0 hval0
  refine (ImageReads_walk W v0 xs0 s0).mono fun e W' ⟨he, bel⟩ => ?_
  subst he
  exact ⟨_, rfl, _, _, _, [], _, [], hW', trodAll_mk1 (shut_bool Try.underlying4 _), (trodAll_cons_mk (Below.trod laidOut (by kernel_rfl) (of_decide_eq_true (by kernel_rfl)) k0 bel lt0) trodAll_mk0), rfl, bel.frame _, fun h => by cases h⟩

/-- The given statement. -/
theorem ImageReads_holds : Rows.ImageReadsSaid :=
  OpenClaim.holds_of_wide 4 Try.f4 rfl rfl rfl rfl rfl rfl rfl ⟨rfl, rfl, rfl, rfl, rfl⟩ rfl rfl rfl rfl rfl (by kernel_rfl) Try.func4 (by kernel_rfl)
    (of_decide_eq_true (by kernel_rfl)) (by unfold Func.isWrapper; rw [if_neg (by decide +kernel)]; exact ⟨rfl, rfl⟩)
    (fun os started H enc _ => ImageReads_lifted os started H enc)
#print axioms ImageReads_holds
end Go.Proofs.Ytiogopichcnihaa
