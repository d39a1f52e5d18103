/-
  CoreCells: the law returns true for every input, and what was handed in reads as it did. No condition.
-/
import Derived.Test.YtabodlhlanolcaaA32
namespace Go.Proofs.Ytabodlhlanolcaa
set_option maxRecDepth 100000
open Go.ChangeShapes Go.WideShapes Go.ChangeAt Go.RowKit Go.Joins
set_option linter.unusedVariables false
set_option linter.unusedSimpArgs false

set_option maxRecDepth 100000 in
set_option maxHeartbeats 8000000 in
theorem CoreCells_walk (w : World) (c : Cor) (vb vs vo : Value) (v1 : Value) (D : List Int) (q : CorAt w vb vs vo c) (q1 : (Rep.int .i64).Sl w v1 D) :
    Calls Try.prog 4 #[.agg #[.int .i64 c.vars, vb, vs, vo], v1] w fun e w' => e = .returned (.bool true) ∧ Below w.heap.size w w' := by
  obtain ⟨ba, bc, sa, sc, oa, oc, rfl, rfl, rfl, he, -, -⟩ := q.els
  obtain ⟨vars, bufs, steps, outs⟩ := c
  dsimp only at he ⊢
  obtain ⟨ad, cd, rfl, d1, d2, -, -⟩ := id q1
  have hld : D.length ≤ 9223372036854775807 := by unfold maxLen at d2; omega
  have HD := Lib.hid (int_at q1).2
  clear d1 d2 q1
  have HE := Lib.hid he
  have HN := Lib.hid (rgIn_new w vars (.slice ba bufs.length bc) (.slice sa steps.length sc) (.slice oa outs.length oc))
  clear he q
  go_enter Try.func4, Try.ntmps4
  go_upto_region 1 with fail
  refine gen_worldA (fun W => RgIn w W w.heap.size vars (.slice ba bufs.length bc) (.slice sa steps.length sc) (.slice oa outs.length oc)) HN.out ?_
  clear HN
  intro W hin
  have HIN := Lib.hid hin
  clear hin
  go_wp2_with fail
  refine (shown_any _).mono ?_
  rintro e w1 ⟨rfl, hb1⟩
  have hin1 := HIN.out.next hb1
  have HIN1 := Lib.hid hin1
  obtain ⟨hbW, x0, x1, x2, x3, hxx⟩ := hin1
  have hq := ccells_any w1 ⟨vars, bufs, steps, outs⟩ ba sa oa bc sc oc (HE.out.below hbW) ad cd D (HD.out.below hbW (Nat.le_refl _)) hld
  unfold corV two at hq
  dsimp only at hq
  have HQ := Lib.hid hq
  clear hb1 HIN hbW hq
  go_wp2_with fail
  refine HQ.out.mono ?_
  rintro e w2 ⟨rfl, hb2⟩
  have hin2 := HIN1.out.next hb2
  have HIN2 := Lib.hid hin2
  clear x0 x1 x2 x3 hxx hb2 HIN1 HQ
  obtain ⟨hbW, x0, x1, x2, x3, hxx⟩ := hin2
  have hq := rcells_any w2 ⟨vars, bufs, steps, outs⟩ ba sa oa bc sc oc (HE.out.below hbW) ad cd D (HD.out.below hbW (Nat.le_refl _)) hld
  unfold corV two at hq
  dsimp only at hq
  have HQ := Lib.hid hq
  clear hbW hq
  go_wp2_with fail
  refine HQ.out.mono ?_
  rintro e w3 ⟨rfl, hb3⟩
  have HB := Lib.hid (HIN2.out.next hb3).below
  clear x0 x1 x2 x3 hxx hb3 HIN2 HQ
  go_wp2_with fail
  go_ret
  exact ⟨ret_bool (by simp), HB.out⟩

set_option maxRecDepth 100000 in
theorem CoreCells_lifted (os : Os) (started : os.Started) (H : Type) (enc : TypeId × Value → H) :
    ReturnsInHanded {} Try.checked os 4 .any (Rows.coreCellsSpec.pre6 enc Try.prog Try.f4 Rows.coreCellsRow.domain false) (Rows.coreCellsSpec.post enc Try.prog Try.f4 false true false false) := by
  refine returnsInHanded_of_change (C := Try.checked) own started (by kernel_rfl) Try.func4
    (ChangeSpec.witness6 (enc := enc) (C := Try.checked) false ⟨#[], #[.agg #[.int .i64 0, .slice none 0 0, .slice none 0 0, .slice none 0 0], .slice none 0 0], []⟩ 8 (by kernel_rfl) (by kernel_rfl) (by kernel_rfl) (by kernel_rfl)) ?_
  intro W base args ds gs before hval0 hW hcnd _
  have hval : ∀ (j : Nat) t v, Try.f4.params[j]? = some t → args[j]? = some v → Value.okWide Try.prog W .any base t v := hval0
  have hW' := hW
  obtain ⟨p, q, hA0, hV, rfl, hfz, hnd⟩ := hW
  have hA : DataW.TrodAll enc Try.prog W 0 (fun _ => true) true Try.f4.params.toList args.toList ds p := hA0
  rw [Try.params4] at hA hval
  obtain ⟨v0, vs0, d0, ds0, p0, q0, hargs, rfl, rfl, h0, r0⟩ := trodAll_cons hA
  obtain ⟨v1, vs1, d1, ds1, p1, q1, rfl, rfl, rfl, h1, r1⟩ := trodAll_cons r0
  obtain ⟨rfl, rfl, rfl⟩ := trodAll_nil r1
  obtain rfl : args = #[v0, v1] := by cases args; simp_all
  obtain ⟨rfl, rfl⟩ := trodVars_none hV
  have k0 := h0
  have lt0 : ∀ x ∈ p0, x.block < W.heap.size := by obtain ⟨m, hm⟩ := k0; exact DataW.trod_lt m _ _ _ hm
  obtain ⟨c0, vb0, vs0', vo0, rfl, s0⟩ := open_core (hval 0 26 v0 rfl rfl) h0
  have k1 := h1
  have lt1 : ∀ x ∈ p1, x.block < W.heap.size := by obtain ⟨m, hm⟩ := k1; exact DataW.trod_lt m _ _ _ hm
  obtain ⟨xs1, s1⟩ := opens_sl Try.underlying29 opens_i64 (hval 1 29 v1 rfl rfl) h1
  clear hA0 hval0
  refine (CoreCells_walk W c0 vb0 vs0' vo0 v1 xs1 s0 s1).mono fun e W' ⟨he, bel⟩ => ?_
  subst he
  exact ⟨_, rfl, _, _, _, [], _, [], hW', trodAll_mk1 (shut_bool Try.underlying4 _), (trodAll_cons_mk (Below.trod laidOut (by kernel_rfl) (of_decide_eq_true (by kernel_rfl)) k0 bel lt0) (trodAll_cons_mk (Below.trod laidOut (by kernel_rfl) (of_decide_eq_true (by kernel_rfl)) k1 bel lt1) trodAll_mk0)), rfl, bel.frame _, fun h => by cases h⟩

/-- The given statement. -/
theorem CoreCells_holds : Rows.CoreCellsSaid :=
  OpenClaim.holds_of_wide 4 Try.f4 rfl rfl rfl rfl rfl rfl rfl ⟨rfl, rfl, rfl, rfl, rfl⟩ rfl rfl rfl rfl rfl (by kernel_rfl) Try.func4 (by kernel_rfl)
    (of_decide_eq_true (by kernel_rfl)) (by unfold Func.isWrapper; rw [if_neg (by decide +kernel)]; exact ⟨rfl, rfl⟩)
    (fun os started H enc _ => CoreCells_lifted os started H enc)
#print axioms CoreCells_holds
end Go.Proofs.Ytabodlhlanolcaa
