/-
  SimpFewer: the law returns true for every input, and what was handed in reads as it did. No condition.
-/
import Derived.Test.YtmlfeocdcjhhaaaD22
namespace Go.Proofs.Ytmlfeocdcjhhaaa
set_option maxRecDepth 100000
open Go.ChangeShapes Go.WideShapes Go.ChangeAt Go.RowKit Go.Joins
set_option linter.unusedVariables false
set_option linter.unusedSimpArgs false

set_option maxHeartbeats 16000000 in
theorem SimpFewer_walk (w : World) (v0 : Value) (l : List Cop) (q0 : copRep.Sl w v0 l) (hl : l.length ≤ 2513169434843) :
    Calls Try.prog 6 #[v0] w fun e w' => e = .returned (.bool true) ∧ Below w.heap.size w w' := by
  obtain ⟨pa, pc, rfl, -, -⟩ := q0.form
  cases hf : fitC l with
  | false =>
    have HA := Lib.hid q0; have HL := Lib.hid hl; have HF := Lib.hid hf
    clear q0 hl hf
    go_enter Try.func6, Try.ntmps6
    go_wp2_with fail
    refine (shown_any _).mono ?_
    rintro e w1 ⟨rfl, hb1⟩
    have HB := Lib.hid hb1
    have hq := ops13_any w1 pa pc l (HA.out.below _ hb1 (Nat.le_refl _)) HL.out
    rw [opsC_not HF.out] at hq
    have HQ := Lib.hid hq
    clear hb1 hq
    go_wp2_with fail
    refine HQ.out.mono ?_
    rintro e w2 ⟨⟨v2, rfl, hv2⟩, hb2⟩
    obtain ⟨a2, c2, rfl, -, -⟩ := hv2.form
    have HB := Lib.hid (bNext hb2 HB.out)
    clear hb2 hv2
    go_wp2_with fail
    go_ret
    exact ⟨ret_bool (by simp), HB.out⟩
  | true =>
    obtain ⟨n, hn⟩ : ∃ n, l.length = n := ⟨_, rfl⟩
    obtain ⟨m, hm⟩ : ∃ m, (simpleC l).length = m := ⟨_, rfl⟩
    obtain ⟨-, f1, f2, f3, -, -⟩ := simple_facts (fit_depth hf)
    obtain ⟨d, hd⟩ : ∃ d, depthI l = d := ⟨_, rfl⟩
    obtain ⟨d2, hd2⟩ : ∃ d, depthI (simpleC l) = d := ⟨_, rfl⟩
    rw [hm, hn] at f1; rw [hd2] at f2; rw [hd2, hd] at f3
    have hu1 := uses_len13 l; have hu2 := uses_len13 (simpleC l)
    obtain ⟨us, hus⟩ : ∃ us, usesS l = us := ⟨_, rfl⟩
    obtain ⟨vs, hvs⟩ : ∃ us, usesS (simpleC l) = us := ⟨_, rfl⟩
    have HSUB := Lib.hid (fun x (hx : x ∈ vs) => show x ∈ us by rw [← hus]; exact uses_simple (fit_depth hf) (by rw [hvs]; exact hx))
    rw [hus, hn] at hu1; rw [hvs, hm] at hu2
    have hnl : n ≤ 2513169434843 := by omega
    have HA := Lib.hid q0; have HF := Lib.hid hf; have HN := Lib.hid hn; have HM := Lib.hid hm; have HD := Lib.hid hd; have HD2 := Lib.hid hd2; have HUS := Lib.hid hus; have HVS := Lib.hid hvs
    rw [hn] at HA ⊢
    clear q0 hl hf hn hm hd hd2 hus hvs
    go_enter Try.func6, Try.ntmps6
    go_wp2_with fail
    refine (shown_any _).mono ?_
    rintro e w1 ⟨rfl, hb1⟩
    have HB := Lib.hid hb1
    have hq := ops13_at w1 pa n pc l (HA.out.below _ hb1 (Nat.le_refl _)) hnl
    rw [opsC_fit HF.out] at hq
    have HQ := Lib.hid hq
    clear hb1 hq
    go_wp2_with fail
    refine HQ.out.mono ?_
    rintro e w2 ⟨⟨v2, rfl, hv2⟩, hb2⟩
    have hv2 : copRep.Sl w2 v2 (simpleC l) := hv2
    obtain ⟨a2, c2, rfl, -, -⟩ := hv2.form
    rw [HM.out] at hv2 ⊢
    have HB := Lib.hid (bNext hb2 HB.out); have HV := Lib.hid hv2
    have hq := ops13_at w2 a2 m c2 (simpleC l) hv2 (by omega)
    rw [opsC_again HF.out] at hq
    have HQ := Lib.hid hq
    clear hb2 hv2 hq
    go_wp2_with fail
    refine HQ.out.mono ?_
    rintro e w3 ⟨⟨v3, rfl, hv3⟩, hb3⟩
    have hv3 : copRep.Sl w3 v3 (simpleC l) := hv3
    obtain ⟨a3, c3, rfl, -, -⟩ := hv3.form
    rw [HM.out] at hv3 ⊢
    have HB := Lib.hid (bNext hb3 HB.out); have HV := Lib.hid (HV.out.below _ hb3 (Nat.le_refl _)); have HV3 := Lib.hid hv3
    have hq := cuses_any w3 pa pc l (sl_els (HA.out.below _ HB.out (Nat.le_refl _))).1 (by rw [HN.out]; omega)
    rw [HUS.out, HN.out] at hq
    have HQ := Lib.hid hq
    clear hb3 hv3 hq
    go_wp2_with fail
    refine HQ.out.mono ?_
    rintro e w4 ⟨ua, uc, rfl, hui, hb4⟩
    have HB := Lib.hid (bNext hb4 HB.out); have HV := Lib.hid (HV.out.below _ hb4 (Nat.le_refl _)); have HV3 := Lib.hid (HV3.out.below _ hb4 (Nat.le_refl _)); have HUI := Lib.hid hui
    have hq := cuses_any w4 a2 c2 (simpleC l) (sl_els HV.out).1 (by rw [HM.out]; omega)
    rw [HVS.out, HM.out] at hq
    have HQ := Lib.hid hq
    clear hb4 hui hq
    go_wp2_with fail
    refine HQ.out.mono ?_
    rintro e w5 ⟨va, vc, rfl, hvi, hb5⟩
    have HB := Lib.hid (bNext hb5 HB.out); have HV := Lib.hid (HV.out.below _ hb5 (Nat.le_refl _)); have HV3 := Lib.hid (HV3.out.below _ hb5 (Nat.le_refl _)); have HUI := Lib.hid (HUI.out.below hb5 (Nat.le_refl _)); have HVI := Lib.hid hvi
    clear hb5 hvi HQ
    have hul : us.length ≤ 9223372036854775807 := by omega
    have hvl : vs.length ≤ 9223372036854775807 := by omega
    go_wp2_with fail
    go_loop [39] (fun i => ∃ k : Nat, k ≤ vs.length ∧ i = .int .i64 k) (fun i => vs.length - (intOf i).toNat)
    case atStart => exact ⟨0, Nat.zero_le _, rfl⟩
    case round =>
      obtain ⟨k, hk, rfl⟩ := hrel
      by_cases hlt : k < vs.length
      · obtain ⟨b1, o1, rfl, x0⟩ := HVI.out k hlt
        have HMEM := Lib.hid (HSUB.out _ (List.getElem_mem hlt))
        obtain ⟨x, hx⟩ : ∃ x, vs[k] = x := ⟨_, rfl⟩
        rw [hx] at x0 HMEM
        have hk0 : (0 : Int) ≤ (k : Int) := by omega
        have hk1 : (k : Int) < (vs.length : Int) := by omega
        clear hx
        go_wp2_with fail
        go_loop [11, 45] (fun s j => ∃ q : Nat, q ≤ us.length ∧ j = .int .i64 q ∧ s = .bool ((us.take q).any (· == x))) (fun _ j => us.length - (intOf j).toNat)
        case atStart => exact ⟨0, Nat.zero_le _, rfl, rfl⟩
        case round =>
          obtain ⟨q, hq, rfl, rfl⟩ := hrel
          by_cases hlt2 : q < us.length
          · obtain ⟨b2, o2, rfl, y0⟩ := HUI.out q hlt2
            have hst := any_snoc hlt2 x
            obtain ⟨y, hy⟩ : ∃ y, us[q] = y := ⟨_, rfl⟩
            rw [hy] at y0 hst
            generalize (us.take q).any (· == x) = t at hst
            have HST := Lib.hid hst
            have hq0 : (0 : Int) ≤ (q : Int) := by omega
            have hq1 : (q : Int) < (us.length : Int) := by omega
            clear hy hst
            cases t with
            | true =>
              go_wp2_with fail
              go_round
              case rel => exact ⟨q + 1, by omega, by go_num, by rw [HST.out]; rfl⟩
              case measure => simp [intOf]; omega
            | false =>
              go_wp2_with fail
              go_round
              case rel => exact ⟨q + 1, by omega, by go_num, by rw [HST.out]; rfl⟩
              case measure => simp [intOf]; omega
          · obtain rfl : q = us.length := by omega
            rw [any_here HMEM.out]
            go_wp2_with fail
            go_round
            case rel => exact ⟨k + 1, by omega, by go_num⟩
            case measure => simp [intOf]; omega
      · obtain rfl : k = vs.length := by omega
        have hq := depth_any w5 a2 c2 (simpleC l) (sl_els HV.out).1 (by rw [HM.out]; omega)
        rw [HD2.out, HM.out] at hq
        have HQ := Lib.hid hq
        clear hq
        go_wp2_with fail
        refine HQ.out.mono ?_
        rintro e w6 ⟨rfl, hb6⟩
        have HB := Lib.hid (bNext hb6 HB.out); have HV := Lib.hid (HV.out.below _ hb6 (Nat.le_refl _)); have HV3 := Lib.hid (HV3.out.below _ hb6 (Nat.le_refl _))
        have hq := depth_any w6 pa pc l (sl_els (HA.out.below _ HB.out (Nat.le_refl _))).1 (by rw [HN.out]; omega)
        rw [HD.out, HN.out] at hq
        have HQ := Lib.hid hq
        clear hb6 hq
        go_wp2_with fail
        refine HQ.out.mono ?_
        rintro e w7 ⟨rfl, hb7⟩
        have HB := Lib.hid (bNext hb7 HB.out); have HV := Lib.hid (HV.out.below _ hb7 (Nat.le_refl _)); have HV3 := Lib.hid (HV3.out.below _ hb7 (Nat.le_refl _))
        have hq := rops11_at w7 _ _ _ _ _ _ _ _ HV.out HV3.out
        rw [show sameL (simpleC l) (simpleC l) = true from decide_eq_true rfl] at hq
        have HQ := Lib.hid hq
        clear hb7 hq
        go_wp2_with fail
        refine HQ.out.mono ?_
        rintro e w8 ⟨rfl, hb8⟩
        have HB := Lib.hid (bNext hb8 HB.out)
        clear hb8
        go_wp2_with fail
        go_ret
        exact ⟨ret_bool (by simp), HB.out⟩

set_option maxRecDepth 100000 in
theorem SimpFewer_lifted (os : Os) (started : os.Started) (H : Type) (enc : TypeId × Value → H) :
    ReturnsInHanded {} Try.checked os 6 .any (Rows.simpFewerSpec.pre6 enc Try.prog Try.f6 Rows.simpFewerRow.domain false) (Rows.simpFewerSpec.post enc Try.prog Try.f6 false true false false) := by
  refine returnsInHanded_of_change_sized (C := Try.checked) own started (by kernel_rfl) Try.func6
    (ChangeSpec.witness6 (enc := enc) (C := Try.checked) false ⟨#[], #[.slice none 0 0], []⟩ 8 (by kernel_rfl) (by kernel_rfl) (by kernel_rfl) (by kernel_rfl)) ?_
  intro W base args ds gs before hval0 hW hcnd hsz _
  have hval : ∀ (j : Nat) t v, Try.f6.params[j]? = some t → args[j]? = some v → Value.okWide Try.prog W .any base t v := hval0
  have hW' := hW
  obtain ⟨p, q, hA0, hV, rfl, hfz, hnd⟩ := hW
  have hA : DataW.TrodAll enc Try.prog W 0 (fun _ => true) true Try.f6.params.toList args.toList ds p := hA0
  rw [Try.params6] at hA hval
  obtain ⟨v0, vs0, d0, ds0, p0, q0, hargs, rfl, rfl, h0, r0⟩ := trodAll_cons hA
  obtain ⟨rfl, rfl, rfl⟩ := trodAll_nil r0
  obtain rfl : args = #[v0] := by cases args; simp_all
  obtain ⟨rfl, rfl⟩ := trodVars_none hV
  have k0 := h0
  have lt0 : ∀ x ∈ p0, x.block < W.heap.size := by obtain ⟨m, hm⟩ := k0; exact DataW.trod_lt m _ _ _ hm
  obtain ⟨xs0, s0, hb0⟩ := open_copsS (hval 0 22 v0 rfl rfl) h0
  have bb0 := hb0 (fun n hn => of_decide_eq_true (List.all_eq_true.1 hsz n (DataW.weights_mem_each (j := 0) rfl rfl n hn)))
  clear hA0 hval0
  refine (SimpFewer_walk W v0 xs0 s0 bb0).mono fun e W' ⟨he, bel⟩ => ?_
  subst he
  exact ⟨_, rfl, _, _, _, [], _, [], hW', trodAll_mk1 (shut_bool Try.underlying4 _), (trodAll_cons_mk (Below.trod laidOut (by kernel_rfl) (of_decide_eq_true (by kernel_rfl)) k0 bel lt0) trodAll_mk0), rfl, bel.frame _, fun h => by cases h⟩

/-- The given statement. -/
theorem SimpFewer_holds : Rows.SimpFewerSaid :=
  OpenClaim.holds_of_wide 6 Try.f6 rfl rfl rfl rfl rfl rfl rfl ⟨rfl, rfl, rfl, rfl, rfl⟩ rfl rfl rfl rfl rfl (by kernel_rfl) Try.func6 (by kernel_rfl)
    (of_decide_eq_true (by kernel_rfl)) (by unfold Func.isWrapper; rw [if_neg (by decide +kernel)]; exact ⟨rfl, rfl⟩)
    (fun os started H enc _ => SimpFewer_lifted os started H enc)
#print axioms SimpFewer_holds
end Go.Proofs.Ytmlfeocdcjhhaaa
