/-
  SimpOps: the law returns true for every input, and what was handed in reads as it did. No condition.
-/
import Derived.Test.YtmlfeocdcjhhaaaPE23
namespace Go.Proofs.Ytmlfeocdcjhhaaa
set_option maxRecDepth 100000
open Go.ChangeShapes Go.WideShapes Go.ChangeAt Go.RowKit Go.Joins
set_option linter.unusedVariables false
set_option linter.unusedSimpArgs false

set_option maxHeartbeats 8000000 in
theorem SimpOps_walk (w : World) (v0 : Value) (l : List Cop) (q0 : copRep.Sl w v0 l) (hl : l.length ≤ 2513169434843) :
    Calls Try.prog 3 #[v0] w fun e w' => e = .returned (.bool true) ∧ Below w.heap.size w w' := by
  obtain ⟨pa, pc, rfl, -, -⟩ := q0.form
  have HA := Lib.hid q0; have HL := Lib.hid hl
  clear q0 hl
  go_enter Try.func3, Try.ntmps3
  go_wp2_with fail
  refine (shown_any _).mono ?_
  rintro e w1 ⟨rfl, hb1⟩
  have HB := Lib.hid hb1
  have HQ := Lib.hid (ops13_any w1 pa pc l (HA.out.below _ hb1 (Nat.le_refl _)) HL.out)
  clear hb1
  go_wp2_with fail
  refine HQ.out.mono ?_
  rintro e w2 ⟨⟨v2, rfl, hv2⟩, hb2⟩
  obtain ⟨a2, c2, rfl, -, -⟩ := hv2.form
  have HB := Lib.hid (bNext hb2 HB.out); have HV2 := Lib.hid hv2
  have HQ := Lib.hid (rops13_any w2 pa pc l (HA.out.below _ HB.out (Nat.le_refl _)) HL.out)
  clear hb2 hv2
  go_wp2_with fail
  refine HQ.out.mono ?_
  rintro e w3 ⟨⟨v3, rfl, hv3⟩, hb3⟩
  obtain ⟨a3, c3, rfl, -, -⟩ := hv3.form
  have HB := Lib.hid (bNext hb3 HB.out)
  have hq := rops11_at w3 _ _ _ _ _ _ _ _ (HV2.out.below _ hb3 (Nat.le_refl _)) hv3
  rw [show sameL (opsC l).1 (opsC l).1 = true from decide_eq_true rfl] at hq
  have HQ := Lib.hid hq
  clear hb3 hv3 hq HV2
  go_wp2_with fail
  refine HQ.out.mono ?_
  rintro e w4 ⟨rfl, hb4⟩
  have HB := Lib.hid (bNext hb4 HB.out)
  clear hb4
  go_wp2_with fail
  go_ret
  exact ⟨ret_bool (by simp), HB.out⟩

set_option maxRecDepth 100000 in
theorem SimpOps_lifted (os : Os) (started : os.Started) (H : Type) (enc : TypeId × Value → H) :
    ReturnsInHanded {} Try.checked os 3 .any (Rows.simpOpsSpec.pre6 enc Try.prog Try.f3 Rows.simpOpsRow.domain false) (Rows.simpOpsSpec.post enc Try.prog Try.f3 false true false false) := by
  refine returnsInHanded_of_change_sized (C := Try.checked) own started (by kernel_rfl) Try.func3
    (ChangeSpec.witness6 (enc := enc) (C := Try.checked) false ⟨#[], #[.slice none 0 0], []⟩ 8 (by kernel_rfl) (by kernel_rfl) (by kernel_rfl) (by kernel_rfl)) ?_
  intro W base args ds gs before hval0 hW hcnd hsz _
  have hval : ∀ (j : Nat) t v, Try.f3.params[j]? = some t → args[j]? = some v → Value.okWide Try.prog W .any base t v := hval0
  have hW' := hW
  obtain ⟨p, q, hA0, hV, rfl, hfz, hnd⟩ := hW
  have hA : DataW.TrodAll enc Try.prog W 0 (fun _ => true) true Try.f3.params.toList args.toList ds p := hA0
  rw [Try.params3] at hA hval
  obtain ⟨v0, vs0, d0, ds0, p0, q0, hargs, rfl, rfl, h0, r0⟩ := trodAll_cons hA
  obtain ⟨rfl, rfl, rfl⟩ := trodAll_nil r0
  obtain rfl : args = #[v0] := by cases args; simp_all
  obtain ⟨rfl, rfl⟩ := trodVars_none hV
  have k0 := h0
  have lt0 : ∀ x ∈ p0, x.block < W.heap.size := by obtain ⟨m, hm⟩ := k0; exact DataW.trod_lt m _ _ _ hm
  obtain ⟨xs0, s0, hb0⟩ := open_copsS (hval 0 22 v0 rfl rfl) h0
  have bb0 := hb0 (fun n hn => of_decide_eq_true (List.all_eq_true.1 hsz n (DataW.weights_mem_each (j := 0) rfl rfl n hn)))
  clear hA0 hval0
  refine (SimpOps_walk W v0 xs0 s0 bb0).mono fun e W' ⟨he, bel⟩ => ?_
  subst he
  exact ⟨_, rfl, _, _, _, [], _, [], hW', trodAll_mk1 (shut_bool Try.underlying4 _), (trodAll_cons_mk (Below.trod laidOut (by kernel_rfl) (of_decide_eq_true (by kernel_rfl)) k0 bel lt0) trodAll_mk0), rfl, bel.frame _, fun h => by cases h⟩

/-- The given statement. -/
theorem SimpOps_holds : Rows.SimpOpsSaid :=
  OpenClaim.holds_of_wide 3 Try.f3 rfl rfl rfl rfl rfl rfl rfl ⟨rfl, rfl, rfl, rfl, rfl⟩ rfl rfl rfl rfl rfl (by kernel_rfl) Try.func3 (by kernel_rfl)
    (of_decide_eq_true (by kernel_rfl)) (by unfold Func.isWrapper; rw [if_neg (by decide +kernel)]; exact ⟨rfl, rfl⟩)
    (fun os started H enc _ => SimpOps_lifted os started H enc)
#print axioms SimpOps_holds
end Go.Proofs.Ytmlfeocdcjhhaaa
