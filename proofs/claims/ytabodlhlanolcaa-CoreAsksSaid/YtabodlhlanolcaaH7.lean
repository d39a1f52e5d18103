/-
  CoreAsks: the law returns true for every input, and what was handed in reads as it did. No condition.
-/
import Derived.Test.YtabodlhlanolcaaPB11
import Derived.Test.YtabodlhlanolcaaPB15
namespace Go.Proofs.Ytabodlhlanolcaa
set_option maxRecDepth 100000
open Go.ChangeShapes Go.WideShapes Go.ChangeAt Go.RowKit Go.Joins
set_option linter.unusedVariables false
set_option linter.unusedSimpArgs false

set_option maxHeartbeats 8000000 in
theorem CoreAsks_walk (w : World) (v0 : Value) (l : List Cop) (q0 : copRep.Sl w v0 l) (hm : l.length ≤ 2513169434843) :
    Calls Try.prog 7 #[v0] w fun e w' => e = .returned (.bool true) ∧ Below w.heap.size w w' := by
  obtain ⟨pa, ac, rfl, -, -, -, ha⟩ := q0
  have HA := Lib.hid ha
  clear ha
  have hul := uses_len l
  go_enter Try.func7, Try.ntmps7
  go_wp2_with fail
  refine (shown_any _).mono ?_
  rintro e w1 ⟨rfl, hb1⟩
  have HB1 := Lib.hid hb1
  clear hb1
  have hda := depth_any w1 pa ac l (HA.out.below copRep HB1.out (Nat.le_refl _)) (by omega)
  obtain ⟨d, hd⟩ : ∃ d, depthI l = d := ⟨_, rfl⟩
  rw [hd] at hda
  have HDA := Lib.hid hda; have HD := Lib.hid hd
  clear hda hd
  go_wp2_with fail
  refine HDA.out.mono ?_
  rintro e w2 ⟨rfl, hb2⟩
  have HB2 := Lib.hid (bNext hb2 HB1.out)
  clear hb2 HDA HB1
  have hcu := cuses_any w2 pa ac l (HA.out.below copRep HB2.out (Nat.le_refl _)) (by omega)
  have hru := fun W hB => ruses_any W pa ac l (HA.out.below copRep (w' := W) (B := w.heap.size) hB (Nat.le_refl _)) (by omega)
  generalize usesS l = us at hcu hru hul
  have HCU := Lib.hid hcu; have HRU := Lib.hid hru
  clear hcu hru
  go_wp2_with fail
  refine HCU.out.mono ?_
  rintro e w3 ⟨ua, uc, rfl, hui, hb3⟩
  have HB3 := Lib.hid (bNext hb3 HB2.out); have HUI := Lib.hid hui
  clear hb3 hui HCU HB2
  have hta := ctotal_any w3 pa ac l (HA.out.below copRep HB3.out (Nat.le_refl _)) (by unfold maxLen; omega)
  have hrt := fun W hB => rtotal10_any W pa ac l (HA.out.below copRep (w' := W) (B := w.heap.size) hB (Nat.le_refl _)) (by omega)
  have hrd := fun W hB => rdepth_any W pa ac l (HA.out.below copRep (w' := W) (B := w.heap.size) hB (Nat.le_refl _)) (by omega)
  rw [HD.out] at hrd
  generalize totS l = tl at hta hrt
  have HTA := Lib.hid hta; have HRT := Lib.hid hrt; have HRD := Lib.hid hrd
  clear hta hrt hrd HD
  go_wp2_with fail
  refine HTA.out.mono ?_
  rintro e w4 ⟨rfl, hb4⟩
  have HB4 := Lib.hid (bNext hb4 HB3.out); have HUI4 := Lib.hid (HUI.out.below hb4 (Nat.le_refl _))
  clear hb4 HTA HB3 HUI
  go_wp2_with fail
  refine (HRU.out _ HB4.out).mono ?_
  rintro e w5 ⟨va, vc, rfl, hvi, hb5⟩
  have HB5 := Lib.hid (bNext hb5 HB4.out); have HUI5 := Lib.hid (HUI4.out.below hb5 (Nat.le_refl _)); have HVI := Lib.hid hvi
  clear hb5 hvi HRU HB4 HUI4
  go_wp2_with fail
  go_loopw [25] (fun i wr => ∃ k : Nat, k ≤ us.length ∧ i = .int .i64 k ∧ ∃ nd, wr = w5.drewN nd) (fun i _ => us.length - (intOf i).toNat)
  case atStart => exact ⟨0, Nat.zero_le _, rfl, 0, rfl⟩
  case round =>
    obtain ⟨k, hk, rfl, nd, rfl⟩ := hrel
    by_cases hlt : k < us.length
    · obtain ⟨b1, o1, rfl, x0⟩ := HUI5.out k hlt
      obtain ⟨b2, o2, rfl, y0⟩ := HVI.out k hlt
      obtain ⟨x, hx⟩ : ∃ x, us[k] = x := ⟨_, rfl⟩
      rw [hx] at x0 y0
      have hk0 : (0 : Int) ≤ (k : Int) := by omega
      have hk1 : (k : Int) < (us.length : Int) := by omega
      clear hx
      go_wp2_with fail
      go_upto_region 11 with fail
      go_quiet (fail)
      go_wp2_with fail
      go_roundw
      case rel => exact ⟨k + 1, by omega, by go_num, _, rfl⟩
      case measure => simp [intOf]; omega
    · obtain rfl : k = us.length := by omega
      have hdr : Below w.heap.size w (w5.drewN nd) := bNext (Below.drewN _ _) HB5.out
      have HB6 := Lib.hid hdr
      clear hdr HB5 HUI5 HVI
      go_wp2_with fail
      refine (HRD.out _ HB6.out).mono ?_
      rintro e w7 ⟨rfl, hb7⟩
      have HB7 := Lib.hid (bNext hb7 HB6.out)
      clear hb7 HRD HB6
      go_wp2_with fail
      refine (HRT.out _ HB7.out).mono ?_
      rintro e w8 ⟨rfl, hb8⟩
      have HB8 := Lib.hid (bNext hb8 HB7.out)
      clear hb8 HRT HB7
      cases tl
      all_goals
        go_wp2_with fail
        go_ret
        exact ⟨rfl, HB8.out⟩

set_option maxRecDepth 100000 in
theorem CoreAsks_lifted (os : Os) (started : os.Started) (H : Type) (enc : TypeId × Value → H) :
    ReturnsInHanded {} Try.checked os 7 .any (Rows.coreAsksSpec.pre6 enc Try.prog Try.f7 Rows.coreAsksRow.domain false) (Rows.coreAsksSpec.post enc Try.prog Try.f7 false true false false) := by
  refine returnsInHanded_of_change_sized (C := Try.checked) own started (by kernel_rfl) Try.func7
    (ChangeSpec.witness6 (enc := enc) (C := Try.checked) false ⟨#[], #[.slice none 0 0], []⟩ 8 (by kernel_rfl) (by kernel_rfl) (by kernel_rfl) (by kernel_rfl)) ?_
  intro W base args ds gs before hval0 hW hcnd hsz _
  have hval : ∀ (j : Nat) t v, Try.f7.params[j]? = some t → args[j]? = some v → Value.okWide Try.prog W .any base t v := hval0
  have hW' := hW
  obtain ⟨p, q, hA0, hV, rfl, hfz, hnd⟩ := hW
  have hA : DataW.TrodAll enc Try.prog W 0 (fun _ => true) true Try.f7.params.toList args.toList ds p := hA0
  rw [Try.params7] at hA hval
  obtain ⟨v0, vs0, d0, ds0, p0, q0, hargs, rfl, rfl, h0, r0⟩ := trodAll_cons hA
  obtain ⟨rfl, rfl, rfl⟩ := trodAll_nil r0
  obtain rfl : args = #[v0] := by cases args; simp_all
  obtain ⟨rfl, rfl⟩ := trodVars_none hV
  have k0 := h0
  have lt0 : ∀ x ∈ p0, x.block < W.heap.size := by obtain ⟨m, hm⟩ := k0; exact DataW.trod_lt m _ _ _ hm
  obtain ⟨xs0, s0, hb0⟩ := open_copsS (hval 0 42 v0 rfl rfl) h0
  have bb0 := hb0 (fun n hn => of_decide_eq_true (List.all_eq_true.1 hsz n (DataW.weights_mem_each (j := 0) rfl rfl n hn)))
  clear hA0 hval0
  refine (CoreAsks_walk W v0 xs0 s0 bb0).mono fun e W' ⟨he, bel⟩ => ?_
  subst he
  exact ⟨_, rfl, _, _, _, [], _, [], hW', trodAll_mk1 (shut_bool Try.underlying4 _), (trodAll_cons_mk (Below.trod laidOut (by kernel_rfl) (of_decide_eq_true (by kernel_rfl)) k0 bel lt0) trodAll_mk0), rfl, bel.frame _, fun h => by cases h⟩

/-- The given statement. -/
theorem CoreAsks_holds : Rows.CoreAsksSaid :=
  OpenClaim.holds_of_wide 7 Try.f7 rfl rfl rfl rfl rfl rfl rfl ⟨rfl, rfl, rfl, rfl, rfl⟩ rfl rfl rfl rfl rfl (by kernel_rfl) Try.func7 (by kernel_rfl)
    (of_decide_eq_true (by kernel_rfl)) (by unfold Func.isWrapper; rw [if_neg (by decide +kernel)]; exact ⟨rfl, rfl⟩)
    (fun os started H enc _ => CoreAsks_lifted os started H enc)
#print axioms CoreAsks_holds
end Go.Proofs.Ytabodlhlanolcaa
