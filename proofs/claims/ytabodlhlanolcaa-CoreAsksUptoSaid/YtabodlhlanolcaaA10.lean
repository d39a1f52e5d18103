import Derived.Test.YtabodlhlanolcaaA9
namespace Go.Proofs.Ytabodlhlanolcaa
set_option maxRecDepth 100000
open Go.RowKit
set_option linter.unusedVariables false
set_option linter.unusedSimpArgs false
attribute [local go_sem ↓] Go.wp_at_zero Go.wp_at_succ

theorem Try.size6 : (Try.prog.info? 90).map (·.size) = some 6 := by kernel_rfl
theorem padK_zero (D : List Int) : padK D 0 = [0, 0, 0, 0, 0, 0] := by simp [padK, List.range_succ]
set_option maxHeartbeats 16000000 in
theorem eval_any (w : World) (a : Option Addr) (c : Nat) (p : List Mono) (ad : Option Addr) (cd : Nat) (D : List Int) (h : monoRep.Els w a p) (hm : p.length ≤ 9223372036854775807) (hd : IntsAt .i64 w ad D) (hld : D.length ≤ 9223372036854775807) :
    Calls Try.prog 51 #[.slice a p.length c, .slice ad D.length cd] w fun e w' => e = two (evalS p D) ∧ Below w.heap.size w w' := by
  have hr := right_any w a c p h hm
  cases hp : polyB p with
  | false =>
    have hg : evalS p D = (0, 20) := by unfold evalS; rw [hp]; rfl
    rw [hp] at hr
    have HR := Lib.hid hr; have HG := Lib.hid hg
    clear hr hg hp h hd
    go_enter Try.func51, Try.ntmps51
    go_wp2_with (go_at_call 57; refine HR.out.mono ?_; rintro e w1 ⟨rfl, hb1⟩)
    go_ret2
    exact ⟨ret_two HG.out, hb1⟩
  | true =>
    have hg : evalS p D = if dimsB D then evalK D p 0 0 else (0, 23) := by unfold evalS; rw [hp]; rfl
    rw [hp] at hr
    have hsmall := fun k hk => poly_small hp (k := k) hk
    have HR := Lib.hid hr; have HG := Lib.hid hg; have HE := Lib.hid h; have HI := Lib.hid hd; have HSM := Lib.hid hsmall; have HWF := Lib.hid (wf_mono h)
    clear hr hg hp h hd hsmall
    go_enter Try.func51, Try.ntmps51
    go_wp2_with fail
    refine HR.out.mono ?_
    rintro e w1 ⟨rfl, hb1⟩
    obtain ⟨z, hz⟩ : ∃ z, w1.heap.size = z := ⟨_, rfl⟩
    have hn0 := World.alloc_heap_new w1 (.cells ((padK D 0).map (Value.int .i64)).toArray 90)
    rw [hz] at hn0
    have hbw : Below w.heap.size w (w1.alloc (.cells ((padK D 0).map (Value.int .i64)).toArray 90)) := hb1.alloc hb1.size _
    have hzw : w.heap.size ≤ z := by have := hb1.size; omega
    have HN0 := Lib.hid hn0; have HBW := Lib.hid hbw
    clear hn0 hbw hb1 HR
    go_upto_region 4 with fail
    refine gen_worldA (fun W => Below w.heap.size w W ∧ SixB W z (padK D 0)) ⟨by have := HBW.out; rw [padK_zero] at this; exact this, by have := HN0.out; rw [padK_zero] at this ⊢; exact ⟨this, rfl⟩⟩ ?_
    rintro W ⟨hbW, g0⟩
    have HB := Lib.hid hbW; have G0 := Lib.hid g0
    clear hbW g0 HN0 HBW hz
    go_wp2_with fail
    go_loopw [20] (fun i wr => ∃ k : Nat, k ≤ D.length ∧ k ≤ 6 ∧ i = .int .i64 k ∧ SixB wr z (padK D k) ∧ (∀ j, (hj : j < D.length) → j < k → 0 ≤ D[j] ∧ D[j] ≤ 2147483648) ∧ Below w.heap.size w wr) (fun i _ => D.length - (intOf i).toNat)
    case atStart => exact ⟨0, Nat.zero_le _, by omega, rfl, G0.out, fun j _ h => absurd h (Nat.not_lt_zero j), HB.out⟩
    case round =>
      obtain ⟨k, hk, hk6, rfl, hsix, hall, hB⟩ := hrel
      have HALL := Lib.hid hall; have HB2 := Lib.hid hB; have HSX := Lib.hid hsix
      clear hall hB hsix HB G0
      by_cases hlt : k < D.length
      · obtain ⟨b, off, rfl, x0⟩ := (HI.out.below HB2.out (Nat.le_refl _)) k hlt
        have hz0 : (0 : Int) ≤ (k : Int) := by omega
        have hz1 : (k : Int) < (D.length : Int) := by omega
        have hdim := dimAt_in (D := D) hlt
        have hbad := fun h => dims_bad (D := D) hlt h
        obtain ⟨d, hdd⟩ : ∃ d, D[k] = d := ⟨_, rfl⟩
        rw [hdd] at x0 hdim hbad
        have HDD := Lib.hid hdd; have HBAD := Lib.hid hbad; have HDIM := Lib.hid hdim
        clear hdd hbad hdim
        by_cases h6 : k = 6
        · subst h6
          have HG2 := Lib.hid (HG.out.trans (by rw [HBAD.out (.inl (Nat.le_refl _))]))
          simp only [Int.cast_ofNat_Int] at *
          go_wp2_with fail
          go_ret2
          exact ⟨ret_two HG2.out, HB2.out⟩
        have h6' : decide ((6 : Int) ≤ (k : Int)) = false := by simp; omega
        have h6n : decide (6 ≤ k) = false := by simp; omega
        have h6z : (k : Int) < 6 := by omega
        by_cases hneg : d < 0
        · have HG2 := Lib.hid (HG.out.trans (by rw [HBAD.out (.inr (.inl hneg))]))
          go_wp2_with fail
          go_ret2
          exact ⟨ret_two HG2.out, HB2.out⟩
        have hneg' : decide (d < 0) = false := by simpa using hneg
        by_cases hbg : 2147483648 < d
        · have HG2 := Lib.hid (HG.out.trans (by rw [HBAD.out (.inr (.inr hbg))]))
          go_wp2_with fail
          go_ret2
          exact ⟨ret_two HG2.out, HB2.out⟩
        have hbg' : decide (2147483648 < d) = false := by simpa using hbg
        have cz := HSX.out.at (k := k) (by omega)
        have fz := HSX.out.frozen k
        have hset := HSX.out.set (k := k) d
        rw [show d = dimAt D k from HDIM.out.symm ▸ rfl, padK_set D (by omega)] at hset
        have HST := Lib.hid hset
        have HNB := Lib.hid (show 0 ≤ d ∧ d ≤ 2147483648 by omega)
        clear hset hneg hbg
        go_wp2_with fail
        go_roundw
        case rel => exact ⟨k + 1, by omega, by omega, by go_num, by rw [← HDIM.out]; exact HST.out, fun j hj h => by
          by_cases e : j = k
          · subst e; rw [HDD.out]; exact HNB.out
          · exact HALL.out j hj (by omega), HB2.out.setCell (p := ⟨z, k, none⟩) hzw _⟩
        case measure => simp [intOf]; omega
      · obtain rfl : k = D.length := by omega
        have hdg := dims_good hk6 (fun j hj => HALL.out j hj hj)
        have hdf := (dims_facts hdg).2
        have HG2 : Hid (evalS p D = evalK D p 0 0) := Lib.hid (HG.out.trans (if_pos hdg))
        have HDF := Lib.hid hdf; have HPA := Lib.hid (pad_all hk6)
        clear hdg hdf HG
        go_wp2_with fail
        go_loopw [9, 10, 41] (fun s sz i wx => ∃ (k : Nat) (su si : Int), k ≤ p.length ∧ i = .int .i64 k ∧ s = .int .i64 su ∧ sz = .int .i64 si ∧ evalK D p 0 0 = evalK D (p.drop k) su si ∧ 0 ≤ si ∧ si ≤ 4611686018427387904 ∧ -si ≤ su ∧ su ≤ si ∧ SixB wx z (padK D D.length) ∧ Below w.heap.size w wx) (fun _ _ i _ => p.length - (intOf i).toNat)
        case atStart => exact ⟨0, 0, 0, Nat.zero_le _, rfl, rfl, rfl, rfl, by omega, by omega, by omega, by omega, HSX.out, HB2.out⟩
        case round =>
          obtain ⟨k, su, si, hk, rfl, rfl, rfl, hev, hs0, hs1, hu0, hu1, hsix, hB⟩ := hrel
          have HEV := Lib.hid hev; have HSX3 := Lib.hid hsix; have HB3 := Lib.hid hB
          clear hev hsix hB
          have hz0 : (0 : Int) ≤ (k : Int) := by omega
          by_cases hlt : k < p.length
          · obtain ⟨b, off, rfl, hw, x0, x1, x2, x3, x4, x5, x6⟩ := els_mono (HE.out.below monoRep HB3.out (Nat.le_refl _)) hlt
            have hz1 : (k : Int) < (p.length : Int) := by omega
            have hev1 := evalK_none (D := D) hlt su si
            have hev2 := fun n => evalK_big (D := D) hlt su si (n := n)
            have hev3 := fun n => evalK_step (D := D) hlt su si (n := n)
            have hsm := HSM.out k hlt
            have hbd := fun n => valO_bd (D := D) hw hsm (fun j => (dimAt_bd HDF.out j).1) (n := n)
            obtain ⟨m, hmk⟩ : ∃ m, p[k] = m := ⟨_, rfl⟩
            rw [hmk] at hw x0 x1 x2 x3 x4 x5 x6 hev1 hev2 hev3 hsm hbd
            have hval := fun W' => value_any W' m (padK D D.length) hw hsm (padK_len D _) (fun y hy => by
              simp only [padK, List.mem_map, List.mem_range] at hy
              obtain ⟨j, _, rfl⟩ := hy
              split
              · exact dimAt_bd HDF.out j
              · omega)
            rw [valO_pad m HPA.out] at hval
            unfold Mono.V RetVal at hval
            obtain ⟨o, ho⟩ : ∃ o, valO m D = o := ⟨_, rfl⟩
            rw [ho] at hev1 hev2 hev3 hbd hval
            have HVAL := Lib.hid hval; have HV1 := Lib.hid hev1; have HV2 := Lib.hid hev2; have HV3 := Lib.hid hev3; have HBD := Lib.hid hbd
            clear hval hw hsm hmk ho hev1 hev2 hev3 hbd
            obtain ⟨zm, hzm⟩ : ∃ zm, wr.heap.size = zm := ⟨_, rfl⟩
            have hn0 := World.alloc_heap_new wr (.cells m.enc.toArray 39)
            rw [hzm] at hn0
            have hbw := HB3.out.alloc HB3.out.size (.cells m.enc.toArray 39)
            have hsx4 := HSX3.out.below ((Below.refl _ _).alloc (Nat.le_refl _) (.cells m.enc.toArray 39))
            have HN0 := Lib.hid hn0; have HBW := Lib.hid hbw; have HSX4 := Lib.hid hsx4
            clear hn0 hbw hsx4
            go_upto_region 15 with fail
            refine gen_worldA (fun W => Below w.heap.size w W ∧ W.heap[zm]? = some (.cells m.enc.toArray 39 (0, 0)) ∧ SixB W z (padK D D.length)) ⟨HBW.out, HN0.out, HSX4.out⟩ ?_
            clear HN0 HBW HSX4 x0 x1 x2 x3 x4 x5 x6 HB3 HSX3 hzm
            rintro W4 ⟨hbW, g0, g1⟩
            have y0 : W4.cell? ⟨zm, 0, none⟩ = some (.int .i64 m.n) := blockCells g0 0
            have y1 : W4.cell? ⟨zm, 1, none⟩ = some (.int .u8 m.e0) := blockCells g0 1
            have y2 : W4.cell? ⟨zm, 2, none⟩ = some (.int .u8 m.e1) := blockCells g0 2
            have y3 : W4.cell? ⟨zm, 3, none⟩ = some (.int .u8 m.e2) := blockCells g0 3
            have y4 : W4.cell? ⟨zm, 4, none⟩ = some (.int .u8 m.e3) := blockCells g0 4
            have y5 : W4.cell? ⟨zm, 5, none⟩ = some (.int .u8 m.e4) := blockCells g0 5
            have y6 : W4.cell? ⟨zm, 6, none⟩ = some (.int .u8 m.e5) := blockCells g0 6
            have HBW := Lib.hid hbW; have G0 := Lib.hid g0; have G1 := Lib.hid g1
            clear hbW g0 g1
            go_wp2_with ((with_reducible show wpList _ _ _ ({ dst := some _, op := Op.load 90 (.tmp 6), type := _, pos := _, after := _, guard := _ } :: _) _ _); (refine wpList_load_row rfl 90 _ rfl z rfl 90 _ (0, 0) _ G1.out.1 Try.underlying90 rfl (by rw [Try.size6]; simp [G1.out.2]) ?_))
            refine (HVAL.out _).mono ?_
            rintro e w5 ⟨rfl, hb5⟩
            have y0' := keepCell hb5 y0
            have HB5 := Lib.hid (bNext hb5 HBW.out); have HSX5 := Lib.hid (G1.out.below hb5)
            clear y0 y1 y2 y3 y4 y5 y6 hb5 HBW G0 G1 HVAL
            cases o with
            | none =>
              have HG3 := Lib.hid (HG2.out.trans (HEV.out.trans (HV1.out rfl)))
              go_wp2_with fail
              go_ret2
              exact ⟨ret_two HG3.out, HB5.out⟩
            | some n =>
              obtain ⟨hn0, hn1⟩ := HBD.out n rfl
              by_cases hgt : 4611686018427387904 - si < n
              · have HG3 := Lib.hid (HG2.out.trans (HEV.out.trans (HV2.out n rfl (by omega))))
                dsimp only [Option.getD_some, Option.isSome_some]
                go_wp2_with fail
                go_ret2
                exact ⟨ret_two HG3.out, HB5.out⟩
              · have hgt' : decide (4611686018427387904 - si < n) = false := by simpa using hgt
                have HG3 := Lib.hid (HEV.out.trans (HV3.out n rfl (by omega)))
                have hsum : si + n ≤ 4611686018427387904 := by omega
                clear hgt
                dsimp only [Option.getD_some, Option.isSome_some]
                by_cases hmn : m.n < 0
                · have HG4 := Lib.hid (HG3.out.trans (by rw [if_pos hmn]))
                  go_wp2_with fail
                  go_roundw
                  case rel => exact ⟨k + 1, su - n, si + n, by omega, by go_num, by first | rfl | (rw [Int.sub_eq_add_neg]), rfl, HG4.out, by omega, by omega, by omega, by omega, HSX5.out, HB5.out⟩
                  case measure => simp [intOf]; omega
                · have hmn' : decide (m.n < 0) = false := by simpa using hmn
                  have HG4 := Lib.hid (HG3.out.trans (by rw [if_neg hmn]))
                  clear hmn
                  go_wp2_with fail
                  go_roundw
                  case rel => exact ⟨k + 1, su + n, si + n, by omega, by go_num, rfl, rfl, HG4.out, by omega, by omega, by omega, by omega, HSX5.out, HB5.out⟩
                  case measure => simp [intOf]; omega
          · obtain rfl : k = p.length := by omega
            have HG3 : Hid (evalS p D = (su, 0)) := Lib.hid (HG2.out.trans (HEV.out.trans (by rw [List.drop_length, evalK])))
            go_wp2_with fail
            go_ret2
            exact ⟨ret_two HG3.out, HB3.out⟩
end Go.Proofs.Ytabodlhlanolcaa
