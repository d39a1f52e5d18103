import Derived.Test.YtabodlhlanolcaaA10
namespace Go.Proofs.Ytabodlhlanolcaa
set_option maxRecDepth 100000
open Go.RowKit
set_option linter.unusedVariables false
set_option linter.unusedSimpArgs false
attribute [local go_sem ↓] Go.wp_at_zero Go.wp_at_succ

theorem dims_long {D : List Int} (h : 6 < D.length) : dimsB D = false := dims_bad (k := 6) h (.inl (Nat.le_refl _))
set_option maxHeartbeats 16000000 in
theorem reval_any (w : World) (a : Option Addr) (c : Nat) (p : List Mono) (ad : Option Addr) (cd : Nat) (D : List Int) (h : monoRep.Els w a p) (hm : p.length ≤ 9223372036854775807) (hd : IntsAt .i64 w ad D) (hld : D.length ≤ 9223372036854775807) :
    Calls Try.prog 53 #[.slice a p.length c, .slice ad D.length cd] w fun e w' => e = two (evalS p D) ∧ Below w.heap.size w w' := by
  have hr := rright_any w a c p h hm
  cases hp : polyB p with
  | false =>
    have hg : evalS p D = (0, 20) := by unfold evalS; rw [hp]; rfl
    rw [hp] at hr
    have HR := Lib.hid hr; have HG := Lib.hid hg
    clear hr hg hp h hd
    go_enter Try.func53, Try.ntmps53
    go_wp2_with (go_at_call 60; refine HR.out.mono ?_; rintro e w1 ⟨rfl, hb1⟩)
    go_ret2
    exact ⟨ret_two HG.out, hb1⟩
  | true =>
    have hg : evalS p D = if dimsB D then evalK D p 0 0 else (0, 23) := by unfold evalS; rw [hp]; rfl
    rw [hp] at hr
    have hsmall := fun k hk => poly_small hp (k := k) hk
    have HR := Lib.hid hr; have HG := Lib.hid hg; have HE := Lib.hid h; have HI := Lib.hid hd; have HSM := Lib.hid hsmall; have HWF := Lib.hid (wf_mono h)
    clear hr hg hp h hd hsmall
    by_cases hl6 : 6 < D.length
    · have t6 : decide ((6 : Int) < (D.length : Int)) = true := by simp; omega
      have HG2 : Hid (evalS p D = (0, 23)) := Lib.hid (HG.out.trans (by rw [dims_long hl6]; rfl))
      go_enter Try.func53, Try.ntmps53
      go_wp2_with (go_at_call 60; refine HR.out.mono ?_; rintro e w1 ⟨rfl, hb1⟩)
      go_ret2
      exact ⟨ret_two HG2.out, hb1⟩
    have t6 : decide ((6 : Int) < (D.length : Int)) = false := by simp; omega
    have hk6 : D.length ≤ 6 := by omega
    go_enter Try.func53, Try.ntmps53
    go_wp2_with (go_at_call 60; refine HR.out.mono ?_; rintro e w1 ⟨rfl, hb1⟩)
    have HB2 := Lib.hid hb1
    clear t6 hb1 HR hl6
    go_loop [6] (fun i => ∃ k : Nat, k ≤ D.length ∧ i = .int .i64 k ∧ (∀ j, (hj : j < D.length) → j < k → 0 ≤ D[j] ∧ D[j] ≤ 2147483648)) (fun i => D.length - (intOf i).toNat)
    case atStart => exact ⟨0, Nat.zero_le _, rfl, fun j _ h => absurd h (Nat.not_lt_zero j)⟩
    case round =>
      obtain ⟨k, hk, rfl, hall⟩ := hrel
      have HALL := Lib.hid hall
      clear hall
      by_cases hlt : k < D.length
      · obtain ⟨b, off, rfl, x0⟩ := (HI.out.below HB2.out (Nat.le_refl _)) k hlt
        have hz0 : (0 : Int) ≤ (k : Int) := by omega
        have hz1 : (k : Int) < (D.length : Int) := by omega
        have hbad := fun h => dims_bad (D := D) hlt h
        obtain ⟨d, hdd⟩ : ∃ d, D[k] = d := ⟨_, rfl⟩
        rw [hdd] at x0 hbad
        have HDD := Lib.hid hdd; have HBAD := Lib.hid hbad
        clear hdd hbad
        by_cases hneg : d < 0
        · have HG2 : Hid (evalS p D = (0, 23)) := Lib.hid (HG.out.trans (by rw [HBAD.out (.inr (.inl hneg))]; rfl))
          go_wp2_with fail
          go_ret2
          exact ⟨ret_two HG2.out, HB2.out⟩
        have hneg' : decide (d < 0) = false := by simpa using hneg
        by_cases hbg : 2147483648 < d
        · have HG2 : Hid (evalS p D = (0, 23)) := Lib.hid (HG.out.trans (by rw [HBAD.out (.inr (.inr hbg))]; rfl))
          go_wp2_with fail
          go_ret2
          exact ⟨ret_two HG2.out, HB2.out⟩
        have hbg' : decide (2147483648 < d) = false := by simpa using hbg
        have HNB := Lib.hid (show 0 ≤ d ∧ d ≤ 2147483648 by omega)
        clear hneg hbg
        go_wp2_with fail
        go_round
        case rel => exact ⟨k + 1, by omega, by go_num, fun j hj h => by
          by_cases e : j = k
          · subst e; rw [HDD.out]; exact HNB.out
          · exact HALL.out j hj (by omega)⟩
        case measure => simp [intOf]; omega
      · obtain rfl : k = D.length := by omega
        have hdg := dims_good hk6 (fun j hj => HALL.out j hj hj)
        have hdf := (dims_facts hdg).2
        have HG2 : Hid (evalS p D = evalK D p 0 0) := Lib.hid (HG.out.trans (if_pos hdg))
        have HDF := Lib.hid hdf
        clear hdg hdf HG
        go_wp2_with fail
        go_loopw [7, 8, 9] (fun l s i wx => ∃ (k : Nat) (su si : Int), k ≤ p.length ∧ i = .int .i64 k ∧ s = .int .i64 su ∧ l = .int .i64 (4611686018427387904 - si) ∧ evalK D p 0 0 = evalK D (p.drop k) su si ∧ 0 ≤ si ∧ si ≤ 4611686018427387904 ∧ -si ≤ su ∧ su ≤ si ∧ Below w.heap.size w wx) (fun _ _ i _ => p.length - (intOf i).toNat)
        case atStart => exact ⟨0, 0, 0, Nat.zero_le _, rfl, rfl, rfl, rfl, by omega, by omega, by omega, by omega, HB2.out⟩
        case round =>
          obtain ⟨k, su, si, hk, rfl, rfl, rfl, hev, hs0, hs1, hu0, hu1, hB⟩ := hrel
          have HEV := Lib.hid hev; have HB3 := Lib.hid hB
          clear hev hB
          have hz0 : (0 : Int) ≤ (k : Int) := by omega
          by_cases hlt : k < p.length
          · obtain ⟨b, off, rfl, hw, x0, x1, x2, x3, x4, x5, x6⟩ := els_mono (HE.out.below monoRep HB3.out (Nat.le_refl _)) hlt
            have hz1 : (k : Int) < (p.length : Int) := by omega
            have hev1 := evalK_none (D := D) hlt su si
            have hev2 := fun n => evalK_big (D := D) hlt su si (n := n)
            have hev3 := fun n => evalK_step (D := D) hlt su si (n := n)
            have hsm := HSM.out k hlt
            have hbd := fun n => valO_bd (D := D) hw hsm (fun j => (dimAt_bd HDF.out j).1) (n := n)
            obtain ⟨m, hmk⟩ : ∃ m, p[k] = m := ⟨_, rfl⟩
            rw [hmk] at hw x0 x1 x2 x3 x4 x5 x6 hev1 hev2 hev3 hsm hbd
            have hval := size_any wr m ad cd D hw hsm (HI.out.below HB3.out (Nat.le_refl _)) HDF.out (by omega)
            unfold Mono.V at hval
            obtain ⟨o, ho⟩ : ∃ o, valO m D = o := ⟨_, rfl⟩
            rw [ho] at hev1 hev2 hev3 hbd hval
            have HVAL := Lib.hid hval; have HV1 := Lib.hid hev1; have HV2 := Lib.hid hev2; have HV3 := Lib.hid hev3; have HBD := Lib.hid hbd
            clear hval hw hsm hmk ho hev1 hev2 hev3 hbd
            go_wp2_with fail
            refine HVAL.out.mono ?_
            rintro e w5 ⟨rfl, hb5⟩
            have y0' := keepCell hb5 x0
            have HB5 := Lib.hid (bNext hb5 HB3.out)
            clear x0 x1 x2 x3 x4 x5 x6 hb5 HB3 HVAL
            unfold sizeI
            cases o with
            | none =>
              have HG3 := Lib.hid (HG2.out.trans (HEV.out.trans (HV1.out rfl)))
              have hgt' : decide (4611686018427387904 - si < 4611686018427387905) = true := by simp; omega
              dsimp only [Option.getD_none]
              go_wp2_with fail
              go_ret2
              exact ⟨ret_two HG3.out, HB5.out⟩
            | some n =>
              obtain ⟨hn0, hn1⟩ := HBD.out n rfl
              by_cases hgt : 4611686018427387904 - si < n
              · have HG3 := Lib.hid (HG2.out.trans (HEV.out.trans (HV2.out n rfl (by omega))))
                dsimp only [Option.getD_some]
                go_wp2_with fail
                go_ret2
                exact ⟨ret_two HG3.out, HB5.out⟩
              · have hgt' : decide (4611686018427387904 - si < n) = false := by simpa using hgt
                have HG3 := Lib.hid (HEV.out.trans (HV3.out n rfl (by omega)))
                have hsum : si + n ≤ 4611686018427387904 := by omega
                clear hgt
                dsimp only [Option.getD_some]
                by_cases hmn : m.n < 0
                · have HG4 := Lib.hid (HG3.out.trans (by rw [if_pos hmn]))
                  go_wp2_with fail
                  go_roundw
                  case rel => exact ⟨k + 1, su - n, si + n, by omega, by go_num, rfl, by rw [show 4611686018427387904 - (si + n) = 4611686018427387904 - si - n from by omega], HG4.out, by omega, by omega, by omega, by omega, HB5.out⟩
                  case measure => simp [intOf]; omega
                · have hmn' : decide (m.n < 0) = false := by simpa using hmn
                  have HG4 := Lib.hid (HG3.out.trans (by rw [if_neg hmn]))
                  clear hmn
                  go_wp2_with fail
                  go_roundw
                  case rel => exact ⟨k + 1, su + n, si + n, by omega, by go_num, rfl, by rw [show 4611686018427387904 - (si + n) = 4611686018427387904 - si - n from by omega], HG4.out, by omega, by omega, by omega, by omega, HB5.out⟩
                  case measure => simp [intOf]; omega
          · obtain rfl : k = p.length := by omega
            have HG3 : Hid (evalS p D = (su, 0)) := Lib.hid (HG2.out.trans (HEV.out.trans (by rw [List.drop_length, evalK])))
            go_wp2_with fail
            go_ret2
            exact ⟨ret_two HG3.out, HB3.out⟩
end Go.Proofs.Ytabodlhlanolcaa
