import Derived.Test.YtabodlhlanolcaaA7
namespace Go.Proofs.Ytabodlhlanolcaa
set_option maxRecDepth 100000
open Go.RowKit
set_option linter.unusedVariables false
set_option linter.unusedSimpArgs false
attribute [local go_sem ↓] Go.wp_at_zero Go.wp_at_succ

theorem boxX {w : World} {G : Nat} {m : Mono} {t : TypeId} (h : w.heap[G]? = some (.cells m.enc.toArray t (0, 0))) {k : Nat} (hk : k < 6) : w.cell? ⟨G, 1 + k, none⟩ = some (.int .u8 (m.ex k)) := boxE h hk
theorem dimAt_out {D : List Int} {k : Nat} (h : D.length ≤ k) : dimAt D k = 0 := by unfold dimAt; simp [List.getD_eq_getElem?_getD, List.getElem?_eq_none h]
theorem dimAt_in {D : List Int} {k : Nat} (h : k < D.length) : dimAt D k = D[k] := by unfold dimAt; simp [List.getD_eq_getElem?_getD, List.getElem?_eq_getElem h]
theorem side_any (w : World) (a : Option Addr) (n c : Nat) (D : List Int) (hn : n = D.length) (h : IntsAt .i64 w a D) (k : Nat) : Calls Try.prog 80 #[.slice a n c, .int .i64 (k : Int)] w fun e w' => e = .returned (.int .i64 (dimAt D k)) ∧ w = w' := by
  by_cases hlt : k < n
  · obtain ⟨b, off, rfl, hc⟩ := h k (by omega)
    have hz0 : (0 : Int) ≤ (k : Int) := by omega
    have hz1 : (k : Int) < (n : Int) := by omega
    have HD := Lib.hid (dimAt_in (D := D) (k := k) (by omega))
    clear h
    go_enter Try.func80, Try.ntmps80
    go_wp2_with fail
    go_ret
    exact ⟨ret_int HD.out.symm, rfl⟩
  · have hd : decide (k < n) = false := by simpa using hlt
    have HD := Lib.hid (dimAt_out (D := D) (k := k) (by omega))
    clear h
    go_enter Try.func80, Try.ntmps80
    go_wp2_with fail
    go_ret
    exact ⟨ret_int HD.out.symm, rfl⟩
/-- what the reference says of a value -/
def sizeI (o : Option Int) : Int := o.getD 4611686018427387905
set_option maxHeartbeats 16000000 in
theorem size_any (w : World) (m : Mono) (a : Option Addr) (c : Nat) (D : List Int) (hm : m.wf) (hs : smallB m = true) (h : IntsAt .i64 w a D) (hd : ∀ x ∈ D, 0 ≤ x ∧ x ≤ 2147483648) (hl : D.length ≤ 9223372036854775807) :
    Calls Try.prog 63 #[m.V, .slice a D.length c] w fun e w' => e = .returned (.int .i64 (sizeI (valO m D))) ∧ Below w.heap.size w w' := by
  have hn : (m.n ≠ 0 ∧ m.n ≤ 16777216 ∧ -16777216 ≤ m.n) := by
    unfold smallB at hs
    simp only [Bool.and_eq_true, decide_eq_true_eq, bne_iff_ne] at hs
    exact ⟨hs.1.1.1, hs.1.1.2, hs.1.2⟩
  obtain ⟨hn0, hn1, hn2⟩ := hn
  have n0 := World.alloc_heap_new w (.cells m.enc.toArray 39)
  have hbel : Below w.heap.size w (w.alloc (.cells m.enc.toArray 39)) := (Below.refl _ _).alloc (Nat.le_refl _) _
  obtain ⟨x, hx⟩ : ∃ x, w.heap.size = x := ⟨_, rfl⟩
  rw [hx] at n0
  have hdk : ∀ k, 0 ≤ dimAt D k ∧ dimAt D k ≤ 2147483648 := fun k => by
    unfold dimAt
    rw [List.getD_eq_getElem?_getD]
    cases hc : D[k]? with
    | none => simp
    | some y => exact hd y (List.mem_of_getElem? hc)
  have hsd := fun W (hb : Below w.heap.size w W) k => side_any W a D.length c D rfl (h.below hb (Nat.le_refl _)) k
  have N0 := Lib.hid n0; have HB := Lib.hid hbel; have HM := Lib.hid hm; have HD := Lib.hid hdk; have HSD := Lib.hid hsd
  clear n0 hbel hm hs hd hdk h hsd
  unfold Mono.V
  go_enter Try.func63, Try.ntmps63
  go_upto_region 1 with fail
  refine gen_worldA (fun W => Below w.heap.size w W ∧ W.heap[x]? = some (.cells m.enc.toArray 39 (0, 0))) ⟨HB.out, N0.out⟩ ?_
  rintro W ⟨hbW, g0⟩
  have y0 : W.cell? ⟨x, 0, none⟩ = some (.int .i64 m.n) := blockCells g0 0
  have HBW := Lib.hid hbW; have G0 := Lib.hid g0
  have SD := Lib.hid (HSD.out W hbW)
  clear hbW g0 N0 HB hx HSD
  by_cases hpos : 0 < m.n
  · have hm0 : decide (m.n < -m.n) = false := by simp; omega
    have hm1 : -m.n ≤ m.n := by omega
    have HP0 : Hid (prodK m D 0 = some m.n) := Lib.hid (by unfold prodK; rw [Int.max_eq_left (by omega)])
    have HN0 : Hid (1 ≤ m.n ∧ m.n ≤ 4611686018427387904) := Lib.hid (by omega)
    go_upto_region 2 with fail
    clear y0 hm0 hm1
    go_wp2_with fail
    go_loop [6] (fun i => ∃ k : Nat, k ≤ 6 ∧ i = .int .i64 k ∧ ∀ j, j < k → zeroAt m D j = false) (fun i => 6 - (intOf i).toNat)
    case atStart => exact ⟨0, by omega, rfl, fun j h => absurd h (Nat.not_lt_zero j)⟩
    case round =>
      obtain ⟨k, hk, rfl, hall⟩ := hrel
      have HALL := Lib.hid hall
      clear hall
      have hz0 : (0 : Int) ≤ (k : Int) := by omega
      by_cases hlt : k < 6
      · have hc := boxX G0.out hlt
        obtain ⟨he0, he1⟩ := ex_at HM.out k
        have hz1 : (k : Int) < 6 := by omega
        have hsk := SD.out k
        by_cases hep : 0 < m.ex k
        · by_cases hd0 : dimAt D k = 0
          · have HV := Lib.hid (valO_zero hlt (show zeroAt m D k = true from by unfold zeroAt; rw [decide_eq_true hep, hd0]; rfl))
            rw [hd0] at hsk
            have HSK := Lib.hid hsk
            clear hd0 hsk
            go_wp2_with (go_at_call 80; refine HSK.out.mono ?_; rintro e w1 ⟨rfl, rfl⟩)
            go_ret
            exact ⟨ret_int (by rw [HV.out]; rfl), HBW.out⟩
          · have hd0' : (dimAt D k == 0) = false := by simpa using hd0
            have HZ := Lib.hid (show zeroAt m D k = false from by unfold zeroAt; rw [hd0', Bool.and_false])
            have HSK := Lib.hid hsk
            clear hd0 hsk
            go_wp2_with (go_at_call 80; refine HSK.out.mono ?_; rintro e w1 ⟨rfl, rfl⟩)
            go_round
            case rel => exact ⟨k + 1, by omega, by go_num, fun j hj => by
              by_cases e : j = k
              · rw [e]; exact HZ.out
              · exact HALL.out j (by omega)⟩
            case measure => simp [intOf]; omega
        · have hep' : decide (0 < m.ex k) = false := by simpa using hep
          have HZ := Lib.hid (show zeroAt m D k = false from by unfold zeroAt; rw [hep', Bool.false_and])
          clear hep hsk
          go_wp2_with fail
          go_round
          case rel => exact ⟨k + 1, by omega, by go_num, fun j hj => by
            by_cases e : j = k
            · rw [e]; exact HZ.out
            · exact HALL.out j (by omega)⟩
          case measure => simp [intOf]; omega
      · obtain rfl : k = 6 := by omega
        have HV := Lib.hid (valO_prod (m := m) (D := D) HALL.out)
        go_wp2_with fail
        go_loop [5, 7] (fun n i => ∃ (k : Nat) (v : Int), k ≤ 6 ∧ i = .int .i64 k ∧ n = .int .i64 v ∧ prodK m D k = some v ∧ 1 ≤ v ∧ v ≤ 4611686018427387904) (fun _ i => 6 - (intOf i).toNat)
        case atStart => exact ⟨0, m.n, by omega, rfl, rfl, HP0.out, HN0.out.1, HN0.out.2⟩
        case round =>
          obtain ⟨k, v, hk, rfl, rfl, hp, hv0, hv1⟩ := hrel
          have HP := Lib.hid hp
          clear hp
          have hz0 : (0 : Int) ≤ (k : Int) := by omega
          by_cases hlt : k < 6
          · have hc := boxX G0.out hlt
            obtain ⟨he0, he1⟩ := ex_at HM.out k
            have hz1 : (k : Int) < 6 := by omega
            have HS := Lib.hid (show prodK m D (k + 1) = mulO (dimAt D k) (m.ex k).toNat v from by rw [prodK, HP.out]; rfl)
            have hdz := HALL.out k hlt
            obtain ⟨hd0, hd1⟩ := HD.out k
            have hdd : 0 < m.ex k → 0 < dimAt D k := fun h => by
              unfold zeroAt at hdz
              rw [decide_eq_true h, Bool.true_and] at hdz
              have : dimAt D k ≠ 0 := by simpa using hdz
              omega
            obtain ⟨E, hE⟩ := Int.eq_ofNat_of_zero_le he0
            have HEE := Lib.hid hE; have HDD := Lib.hid hdd; have HSK := Lib.hid (SD.out k)
            rw [hE] at hc
            clear hdz hdd hE
            go_wp2_with fail
            go_loop [5, 8] (fun n j => ∃ (q : Nat) (u : Int), q ≤ E ∧ j = .int .i64 q ∧ n = .int .i64 u ∧ mulO (dimAt D k) E v = mulO (dimAt D k) (E - q) u ∧ 1 ≤ u ∧ u ≤ 4611686018427387904) (fun _ j => E - (intOf j).toNat)
            case atStart => exact ⟨0, v, Nat.zero_le _, rfl, rfl, rfl, hv0, hv1⟩
            case round =>
              obtain ⟨q, u, hq, rfl, rfl, hmq, hu0, hu1⟩ := hrel
              have HMQ := Lib.hid hmq
              clear hmq
              have hE255 : E ≤ 255 := by have := HEE.out; omega
              by_cases hql : q < E
              · have hdp : 0 < dimAt D k := HDD.out (by rw [HEE.out]; omega)
                have hzq : (0 : Int) ≤ (q : Int) := by omega
                have hzq1 : (q : Int) < (E : Int) := by omega
                have hquo : (0 : Int) ≤ 4611686018427387904 / dimAt D k := Int.ediv_nonneg (by decide) (by omega)
                have hstep : mulO (dimAt D k) (E - q) u = if 4611686018427387904 / dimAt D k < u then none else mulO (dimAt D k) (E - (q + 1)) (u * dimAt D k) := by rw [show E - q = (E - (q + 1)) + 1 from by omega, mulO]
                by_cases hgt : 4611686018427387904 / dimAt D k < u
                · have hnone : prodK m D (k + 1) = none := by rw [HS.out, HEE.out, Int.toNat_natCast, HMQ.out, hstep, if_pos hgt]
                  have HV2 := Lib.hid (HV.out.trans (prodK_none (by omega) hnone))
                  clear hstep hnone
                  go_wp2_with (go_at_call 80; refine HSK.out.mono ?_; rintro e w1 ⟨rfl, rfl⟩)
                  go_ret
                  exact ⟨ret_int (by rw [HV2.out]; rfl), HBW.out⟩
                · have hgt' : decide (4611686018427387904 / dimAt D k < u) = false := by simpa using hgt
                  obtain ⟨hm0, hm1⟩ := mul_fits hu0 (by omega) hgt
                  rw [if_neg hgt] at hstep
                  have HST := Lib.hid hstep
                  clear hstep hgt
                  go_wp2_with (go_at_call 80; refine HSK.out.mono ?_; rintro e w1 ⟨rfl, rfl⟩)
                  go_round
                  case rel => exact ⟨q + 1, u * dimAt D k, by omega, by go_num, rfl, HMQ.out.trans HST.out, hm0, hm1⟩
                  case measure => simp [intOf]; omega
              · obtain rfl : q = E := by omega
                have HN := Lib.hid (show prodK m D (k + 1) = some u from by rw [HS.out, HEE.out, Int.toNat_natCast, HMQ.out, Nat.sub_self, mulO])
                go_wp2_with fail
                go_round
                case rel => exact ⟨k + 1, u, by omega, by go_num, rfl, HN.out, hu0, hu1⟩
                case measure => simp [intOf]; omega
          · obtain rfl : k = 6 := by omega
            have HV2 := Lib.hid (HV.out.trans HP.out)
            go_wp2_with fail
            go_ret
            exact ⟨ret_int (by rw [HV2.out]; rfl), HBW.out⟩
  · have hm0 : m.n < -m.n := by omega
    have hm1 : m.n ≤ -m.n := by omega
    have HP0 : Hid (prodK m D 0 = some (-m.n)) := Lib.hid (by unfold prodK; rw [Int.max_eq_right (by omega)])
    have HN0 : Hid (1 ≤ -m.n ∧ -m.n ≤ 4611686018427387904) := Lib.hid (by omega)
    go_upto_region 2 with fail
    clear y0 hm0 hm1
    go_wp2_with fail
    go_loop [6] (fun i => ∃ k : Nat, k ≤ 6 ∧ i = .int .i64 k ∧ ∀ j, j < k → zeroAt m D j = false) (fun i => 6 - (intOf i).toNat)
    case atStart => exact ⟨0, by omega, rfl, fun j h => absurd h (Nat.not_lt_zero j)⟩
    case round =>
      obtain ⟨k, hk, rfl, hall⟩ := hrel
      have HALL := Lib.hid hall
      clear hall
      have hz0 : (0 : Int) ≤ (k : Int) := by omega
      by_cases hlt : k < 6
      · have hc := boxX G0.out hlt
        obtain ⟨he0, he1⟩ := ex_at HM.out k
        have hz1 : (k : Int) < 6 := by omega
        have hsk := SD.out k
        by_cases hep : 0 < m.ex k
        · by_cases hd0 : dimAt D k = 0
          · have HV := Lib.hid (valO_zero hlt (show zeroAt m D k = true from by unfold zeroAt; rw [decide_eq_true hep, hd0]; rfl))
            rw [hd0] at hsk
            have HSK := Lib.hid hsk
            clear hd0 hsk
            go_wp2_with (go_at_call 80; refine HSK.out.mono ?_; rintro e w1 ⟨rfl, rfl⟩)
            go_ret
            exact ⟨ret_int (by rw [HV.out]; rfl), HBW.out⟩
          · have hd0' : (dimAt D k == 0) = false := by simpa using hd0
            have HZ := Lib.hid (show zeroAt m D k = false from by unfold zeroAt; rw [hd0', Bool.and_false])
            have HSK := Lib.hid hsk
            clear hd0 hsk
            go_wp2_with (go_at_call 80; refine HSK.out.mono ?_; rintro e w1 ⟨rfl, rfl⟩)
            go_round
            case rel => exact ⟨k + 1, by omega, by go_num, fun j hj => by
              by_cases e : j = k
              · rw [e]; exact HZ.out
              · exact HALL.out j (by omega)⟩
            case measure => simp [intOf]; omega
        · have hep' : decide (0 < m.ex k) = false := by simpa using hep
          have HZ := Lib.hid (show zeroAt m D k = false from by unfold zeroAt; rw [hep', Bool.false_and])
          clear hep hsk
          go_wp2_with fail
          go_round
          case rel => exact ⟨k + 1, by omega, by go_num, fun j hj => by
            by_cases e : j = k
            · rw [e]; exact HZ.out
            · exact HALL.out j (by omega)⟩
          case measure => simp [intOf]; omega
      · obtain rfl : k = 6 := by omega
        have HV := Lib.hid (valO_prod (m := m) (D := D) HALL.out)
        go_wp2_with fail
        go_loop [5, 7] (fun n i => ∃ (k : Nat) (v : Int), k ≤ 6 ∧ i = .int .i64 k ∧ n = .int .i64 v ∧ prodK m D k = some v ∧ 1 ≤ v ∧ v ≤ 4611686018427387904) (fun _ i => 6 - (intOf i).toNat)
        case atStart => exact ⟨0, -m.n, by omega, rfl, rfl, HP0.out, HN0.out.1, HN0.out.2⟩
        case round =>
          obtain ⟨k, v, hk, rfl, rfl, hp, hv0, hv1⟩ := hrel
          have HP := Lib.hid hp
          clear hp
          have hz0 : (0 : Int) ≤ (k : Int) := by omega
          by_cases hlt : k < 6
          · have hc := boxX G0.out hlt
            obtain ⟨he0, he1⟩ := ex_at HM.out k
            have hz1 : (k : Int) < 6 := by omega
            have HS := Lib.hid (show prodK m D (k + 1) = mulO (dimAt D k) (m.ex k).toNat v from by rw [prodK, HP.out]; rfl)
            have hdz := HALL.out k hlt
            obtain ⟨hd0, hd1⟩ := HD.out k
            have hdd : 0 < m.ex k → 0 < dimAt D k := fun h => by
              unfold zeroAt at hdz
              rw [decide_eq_true h, Bool.true_and] at hdz
              have : dimAt D k ≠ 0 := by simpa using hdz
              omega
            obtain ⟨E, hE⟩ := Int.eq_ofNat_of_zero_le he0
            have HEE := Lib.hid hE; have HDD := Lib.hid hdd; have HSK := Lib.hid (SD.out k)
            rw [hE] at hc
            clear hdz hdd hE
            go_wp2_with fail
            go_loop [5, 8] (fun n j => ∃ (q : Nat) (u : Int), q ≤ E ∧ j = .int .i64 q ∧ n = .int .i64 u ∧ mulO (dimAt D k) E v = mulO (dimAt D k) (E - q) u ∧ 1 ≤ u ∧ u ≤ 4611686018427387904) (fun _ j => E - (intOf j).toNat)
            case atStart => exact ⟨0, v, Nat.zero_le _, rfl, rfl, rfl, hv0, hv1⟩
            case round =>
              obtain ⟨q, u, hq, rfl, rfl, hmq, hu0, hu1⟩ := hrel
              have HMQ := Lib.hid hmq
              clear hmq
              have hE255 : E ≤ 255 := by have := HEE.out; omega
              by_cases hql : q < E
              · have hdp : 0 < dimAt D k := HDD.out (by rw [HEE.out]; omega)
                have hzq : (0 : Int) ≤ (q : Int) := by omega
                have hzq1 : (q : Int) < (E : Int) := by omega
                have hquo : (0 : Int) ≤ 4611686018427387904 / dimAt D k := Int.ediv_nonneg (by decide) (by omega)
                have hstep : mulO (dimAt D k) (E - q) u = if 4611686018427387904 / dimAt D k < u then none else mulO (dimAt D k) (E - (q + 1)) (u * dimAt D k) := by rw [show E - q = (E - (q + 1)) + 1 from by omega, mulO]
                by_cases hgt : 4611686018427387904 / dimAt D k < u
                · have hnone : prodK m D (k + 1) = none := by rw [HS.out, HEE.out, Int.toNat_natCast, HMQ.out, hstep, if_pos hgt]
                  have HV2 := Lib.hid (HV.out.trans (prodK_none (by omega) hnone))
                  clear hstep hnone
                  go_wp2_with (go_at_call 80; refine HSK.out.mono ?_; rintro e w1 ⟨rfl, rfl⟩)
                  go_ret
                  exact ⟨ret_int (by rw [HV2.out]; rfl), HBW.out⟩
                · have hgt' : decide (4611686018427387904 / dimAt D k < u) = false := by simpa using hgt
                  obtain ⟨hm0, hm1⟩ := mul_fits hu0 (by omega) hgt
                  rw [if_neg hgt] at hstep
                  have HST := Lib.hid hstep
                  clear hstep hgt
                  go_wp2_with (go_at_call 80; refine HSK.out.mono ?_; rintro e w1 ⟨rfl, rfl⟩)
                  go_round
                  case rel => exact ⟨q + 1, u * dimAt D k, by omega, by go_num, rfl, HMQ.out.trans HST.out, hm0, hm1⟩
                  case measure => simp [intOf]; omega
              · obtain rfl : q = E := by omega
                have HN := Lib.hid (show prodK m D (k + 1) = some u from by rw [HS.out, HEE.out, Int.toNat_natCast, HMQ.out, Nat.sub_self, mulO])
                go_wp2_with fail
                go_round
                case rel => exact ⟨k + 1, u, by omega, by go_num, rfl, HN.out, hu0, hu1⟩
                case measure => simp [intOf]; omega
          · obtain rfl : k = 6 := by omega
            have HV2 := Lib.hid (HV.out.trans HP.out)
            go_wp2_with fail
            go_ret
            exact ⟨ret_int (by rw [HV2.out]; rfl), HBW.out⟩
end Go.Proofs.Ytabodlhlanolcaa
