import Derived.Test.YtabodlhlanolcaaAF
namespace Go.Proofs.Ytabodlhlanolcaa
set_option maxRecDepth 100000
open Go.RowKit
set_option linter.unusedVariables false
set_option linter.unusedSimpArgs false
attribute [local go_sem ↓] Go.wp_at_zero Go.wp_at_succ

set_option maxHeartbeats 8000000 in
theorem rright_any (w : World) (a : Option Addr) (c : Nat) (p : List Mono) (h : monoRep.Els w a p) (hm : p.length ≤ 9223372036854775807) :
    Calls Try.prog 60 #[.slice a p.length c] w fun e w' => e = .returned (.bool (polyB p)) ∧ Below w.heap.size w w' := by
  by_cases hbig : 48 < p.length
  · have t0 : decide ((48 : Int) < (p.length : Int)) = true := by simp; omega
    have HG := Lib.hid (polyB_big hbig)
    clear h
    go_enter Try.func60, Try.ntmps60
    go_wp2_with fail
    go_ret
    exact ⟨ret_bool HG.out.symm, Below.refl _ _⟩
  have t0 : decide ((48 : Int) < (p.length : Int)) = false := by simp; omega
  have hb48 : p.length ≤ 48 := by omega
  have HE := Lib.hid h; have HW := Lib.hid (wf_mono h)
  clear h hbig
  go_enter Try.func60, Try.ntmps60
  go_wp2_with fail
  clear t0
  go_loopw [3] (fun i wr => ∃ k : Nat, k ≤ p.length ∧ i = .int .i64 k ∧ (∀ j, j < k → fineAt p j = true) ∧ Below w.heap.size w wr) (fun i _ => p.length - (intOf i).toNat)
  case atStart => exact ⟨0, Nat.zero_le _, rfl, fun j h => absurd h (Nat.not_lt_zero j), Below.refl _ _⟩
  case round =>
    obtain ⟨k, hk, rfl, hall, hB⟩ := hrel
    have HALL := Lib.hid hall; have HB := Lib.hid hB
    clear hall hB
    by_cases hlt : k < p.length
    · obtain ⟨b, off, rfl, hw, x0, x1, x2, x3, x4, x5, x6⟩ := els_mono (HE.out.below monoRep HB.out (Nat.le_refl _)) hlt
      have hz0 : (0 : Int) ≤ (k : Int) := by omega
      have hz1 : (k : Int) < (p.length : Int) := by omega
      have hfine : fineAt p k = (smallB p[k] && (k == 0 || decide (cmpI p[k].E (p.getD (k - 1) zeroM).E < 0))) := by unfold fineAt; rw [getD_at hlt]
      obtain ⟨m, hmk⟩ : ∃ m, p[k] = m := ⟨_, rfl⟩
      rw [hmk] at hw hfine x0 x1 x2 x3 x4 x5 x6
      have hq1 := fun W' => degree_any W' m hw
      unfold Mono.V at hq1
      have hsmall : smallB m = (m.n != 0 && decide (m.n ≤ 16777216) && decide (-16777216 ≤ m.n) && decide (degF m ≤ 8)) := rfl
      obtain ⟨n, hn⟩ : ∃ n, m.n = n := ⟨_, rfl⟩
      obtain ⟨d, hd⟩ : ∃ d, degF m = d := ⟨_, rfl⟩
      rw [hn, hd] at hsmall
      rw [hn] at x0 hq1
      rw [hd] at hq1
      have HQ1 := Lib.hid hq1; have HSM := Lib.hid hsmall; have HF := Lib.hid hfine; have HWM := Lib.hid hw; have HMK := Lib.hid hmk; have HN := Lib.hid hn
      clear hq1 hsmall hfine hw hmk hd hn
      by_cases g0 : n = 0
      · have HR := Lib.hid (polyB_bad hlt (by rw [HF.out, HSM.out, g0]; simp))
        rw [g0] at x0
        clear g0
        go_wp2_with fail
        go_ret
        exact ⟨ret_bool HR.out.symm, HB.out⟩
      have g0' : (n == 0) = false := by simpa using g0
      by_cases g1 : 16777216 < n
      · have HR := Lib.hid (polyB_bad hlt (by rw [HF.out, HSM.out, decide_eq_false (by omega : ¬ n ≤ 16777216)]; simp))
        go_wp2_with fail
        go_ret
        exact ⟨ret_bool HR.out.symm, HB.out⟩
      have g1' : decide (16777216 < n) = false := by simpa using g1
      by_cases g2 : n < -16777216
      · have HR := Lib.hid (polyB_bad hlt (by rw [HF.out, HSM.out, decide_eq_false (by omega : ¬ -16777216 ≤ n)]; simp))
        go_wp2_with fail
        go_ret
        exact ⟨ret_bool HR.out.symm, HB.out⟩
      have g2' : decide (n < -16777216) = false := by simpa using g2
      by_cases g3 : 8 < d
      · have HR := Lib.hid (polyB_bad hlt (by rw [HF.out, HSM.out, decide_eq_false (by omega : ¬ d ≤ 8)]; simp))
        go_wp2_with fail
        refine (HQ1.out _).mono ?_
        rintro e w2 ⟨rfl, hb2⟩
        go_wp2_with fail
        go_ret
        exact ⟨ret_bool HR.out.symm, bNext hb2 HB.out⟩
      have g3' : decide (8 < d) = false := by simpa using g3
      have hsm : smallB m = true := by rw [HSM.out, decide_eq_true (by omega : n ≤ 16777216), decide_eq_true (by omega : -16777216 ≤ n), decide_eq_true (by omega : d ≤ 8)]; simp [g0]
      have hfine := HF.out
      rw [hsm] at hfine
      have HF2 := Lib.hid hfine
      clear hfine hsm HF HSM g0 g1 g2 g3
      go_wp2_with fail
      refine (HQ1.out _).mono ?_
      rintro e w2 ⟨rfl, hb2⟩
      have HB2 := Lib.hid (bNext hb2 HB.out)
      clear hb2 HB HQ1 x0 x1 x2 x3 x4 x5 x6 g0' g1' g2'
      go_upto_region 8 with fail
      clear g3'
      obtain ⟨b1, off1, eb1, -, x0, x1, x2, x3, x4, x5, x6⟩ := els_mono (HE.out.below monoRep HB2.out (Nat.le_refl _)) hlt
      cases eb1
      rw [HMK.out] at x0 x1 x2 x3 x4 x5 x6
      have f0 := cellBW x0; have f1 := cellBW x1; have f2 := cellBW x2; have f3 := cellBW x3; have f4 := cellBW x4; have f5 := cellBW x5; have f6 := cellBW x6
      by_cases hk0 : k = 0
      · subst hk0
        clear x0 x1 x2 x3 x4 x5 x6
        refine wp_region_below (by kernel_rfl) (by kernel_rfl) ?_
        repeat (go_big_quiet_step (fail))
        refine wpQuiet_nil ?_
        rintro _ ⟨⟨wq, hwq⟩, rfl⟩
        clear f0 f1 f2 f3 f4 f5 f6
        go_wp2_with fail
        go_roundw
        case rel => exact ⟨0 + 1, by omega, by go_num, fun j hj => by rw [show j = 0 from by omega, HF2.out]; rfl, bNext hwq HB2.out⟩
        case measure => simp [intOf]; omega
      · have hlt' : k - 1 < p.length := by omega
        clear x0 x1 x2 x3 x4 x5 x6
        obtain ⟨b', off', eb, hw', x0, x1, x2, x3, x4, x5, x6⟩ := els_mono (HE.out.below monoRep HB2.out (Nat.le_refl _)) hlt'
        cases eb
        have hfine := HF2.out
        rw [getD_at hlt'] at hfine
        obtain ⟨q, hqk⟩ : ∃ q, p[k - 1] = q := ⟨_, rfl⟩
        rw [hqk] at hfine hw' x0 x1 x2 x3 x4 x5 x6
        have hq2 := fun W' => above_any W' q m hw' HWM.out
        unfold Mono.V at hq2
        have h0 := cellBW x0; have h1 := cellBW x1; have h2 := cellBW x2; have h3 := cellBW x3; have h4 := cellBW x4; have h5 := cellBW x5; have h6 := cellBW x6
        have hkp : 0 < (k : Int) := by omega
        have hkn : 0 < k := by omega
        have hkt : ((k : Int) - 1).toNat = k - 1 := by omega
        have hkz : (0 : Int) ≤ (k : Int) - 1 := by omega
        have hkz2 : (k : Int) - 1 < (p.length : Int) := by omega
        have hkz3 : (k - 1) < p.length := by omega
        have hsw := cmpI_swap m.E q.E
        have hrg := cmpI_range q.E m.E
        rw [hsw] at hfine
        obtain ⟨cc, hcc⟩ : ∃ cc, cmpI q.E m.E = cc := ⟨_, rfl⟩
        rw [hcc] at hq2 hfine hrg
        have HQ2 := Lib.hid hq2
        clear hq2 hqk hcc x0 x1 x2 x3 x4 x5 x6 hw' hsw
        by_cases hneg : cc = 1
        · have HF : Hid (fineAt p k = true) := Lib.hid (by rw [hfine, hneg]; simp)
          clear hfine hrg
          subst hneg
          refine wp_region_below (by kernel_rfl) (by kernel_rfl) ?_
          repeat (go_big_quiet_step (refine callsBW (HQ2.out _)))
          refine wpQuiet_nil ?_
          rintro _ ⟨⟨wq, hwq⟩, rfl⟩
          clear f0 f1 f2 f3 f4 f5 f6 h0 h1 h2 h3 h4 h5 h6
          go_wp2_with fail
          go_roundw
          case rel => exact ⟨k + 1, by omega, by go_num, fun j hj => by
            by_cases e : j = k
            · rw [e]; exact HF.out
            · exact HALL.out j (by omega), bNext hwq HB2.out⟩
          case measure => simp [intOf]; omega
        · have hneg' : (cc == 1) = false := by simpa using hneg
          have HF : Hid (polyB p = false) := Lib.hid (polyB_bad hlt (by rw [hfine, decide_eq_false (by omega : ¬ -cc < 0)]; simp [hk0]))
          clear hfine hrg hneg
          refine wp_region_below (by kernel_rfl) (by kernel_rfl) ?_
          repeat (go_big_quiet_step (refine callsBW (HQ2.out _)))
          refine wpQuiet_nil ?_
          rintro _ ⟨⟨wq, hwq⟩, rfl⟩
          clear f0 f1 f2 f3 f4 f5 f6 h0 h1 h2 h3 h4 h5 h6
          go_wp2_with fail
          go_ret
          exact ⟨ret_bool HF.out.symm, bNext hwq HB2.out⟩
    · have HF := Lib.hid (polyB_good hb48 (fun j hj => HALL.out j (by omega)))
      go_wp2_with fail
      go_ret
      exact ⟨ret_bool HF.out.symm, HB.out⟩
end Go.Proofs.Ytabodlhlanolcaa
