import Derived.Test.YtabodlhlanolcaaA2
namespace Go.Proofs.Ytabodlhlanolcaa
set_option maxRecDepth 100000
open Go.RowKit
set_option linter.unusedVariables false
set_option linter.unusedSimpArgs false
attribute [local go_sem ↓] Go.wp_at_zero Go.wp_at_succ

def zeroM : Mono := ⟨0, 0, 0, 0, 0, 0, 0⟩
def fineAt (p : List Mono) (k : Nat) : Bool := smallB (p.getD k zeroM) && (k == 0 || decide (cmpI (p.getD k zeroM).E (p.getD (k - 1) zeroM).E < 0))
/-- a polynomial? -/
def polyB (p : List Mono) : Bool := decide (p.length ≤ 48) && (List.range p.length).all (fineAt p)
theorem polyB_big {p : List Mono} (h : 48 < p.length) : polyB p = false := by unfold polyB; rw [decide_eq_false (by omega)]; rfl
theorem polyB_bad {p : List Mono} {k : Nat} (hk : k < p.length) (h : fineAt p k = false) : polyB p = false := by
  unfold polyB
  rw [show (List.range p.length).all (fineAt p) = false from List.all_eq_false.2 ⟨k, List.mem_range.2 hk, by simp [h]⟩, Bool.and_false]
theorem polyB_good {p : List Mono} (hl : p.length ≤ 48) (h : ∀ k, k < p.length → fineAt p k = true) : polyB p = true := by
  unfold polyB
  rw [decide_eq_true hl, show (List.range p.length).all (fineAt p) = true from List.all_eq_true.2 fun k hk => h k (List.mem_range.1 hk)]
  rfl
theorem getD_at {p : List Mono} {k : Nat} (h : k < p.length) : p.getD k zeroM = p[k] := by simp [List.getD_eq_getElem?_getD, List.getElem?_eq_getElem h]

set_option maxHeartbeats 8000000 in
theorem right_any (w : World) (a : Option Addr) (c : Nat) (p : List Mono) (h : monoRep.Els w a p) (hm : p.length ≤ 9223372036854775807) :
    Calls Try.prog 57 #[.slice a p.length c] w fun e w' => e = .returned (.bool (polyB p)) ∧ Below w.heap.size w w' := by
  by_cases hbig : 48 < p.length
  · have t0 : decide ((48 : Int) < (p.length : Int)) = true := by simp; omega
    have HG := Lib.hid (polyB_big hbig)
    clear h
    go_enter Try.func57, Try.ntmps57
    go_wp2_with fail
    go_ret
    exact ⟨ret_bool HG.out.symm, Below.refl _ _⟩
  have t0 : decide ((48 : Int) < (p.length : Int)) = false := by simp; omega
  have hb48 : p.length ≤ 48 := by omega
  have HE := Lib.hid h; have HW := Lib.hid (wf_mono h)
  clear h hbig
  go_enter Try.func57, Try.ntmps57
  go_wp2_with fail
  clear t0
  go_loopw [10] (fun i wr => ∃ k : Nat, k ≤ p.length ∧ i = .int .i64 k ∧ (∀ j, j < k → fineAt p j = true) ∧ Below w.heap.size w wr) (fun i _ => p.length - (intOf i).toNat)
  case atStart => exact ⟨0, Nat.zero_le _, rfl, fun j h => absurd h (Nat.not_lt_zero j), Below.refl _ _⟩
  case round =>
    obtain ⟨k, hk, rfl, hall, hB⟩ := hrel
    have HALL := Lib.hid hall; have HB := Lib.hid hB
    clear hall hB
    by_cases hlt : k < p.length
    · obtain ⟨b, off, rfl, hw, x0, x1, x2, x3, x4, x5, x6⟩ := els_mono (HE.out.below monoRep HB.out (Nat.le_refl _)) hlt
      have hz0 : (0 : Int) ≤ (k : Int) := by omega
      have hz1 : (k : Int) < (p.length : Int) := by omega
      go_upto_region 6 with fail
      have hfine : fineAt p k = (smallB p[k] && (k == 0 || decide (cmpI p[k].E (p.getD (k - 1) zeroM).E < 0))) := by unfold fineAt; rw [getD_at hlt]
      have hn0 := World.alloc_heap_new wr (.cells p[k].enc.toArray 39)
      obtain ⟨z, hz⟩ : ∃ z, wr.heap.size = z := ⟨_, rfl⟩
      have hbw : Below w.heap.size w (wr.alloc (.cells p[k].enc.toArray 39)) := HB.out.alloc HB.out.size _
      have hkw := (Below.refl wr.heap.size wr).alloc (Nat.le_refl _) (.cells p[k].enc.toArray 39)
      obtain ⟨m, hmk⟩ : ∃ m, p[k] = m := ⟨_, rfl⟩
      rw [hmk] at hw hn0 hbw hfine hkw ⊢
      rw [hz] at hn0 ⊢
      refine gen_worldA (fun W => Below w.heap.size w W ∧ W.heap[z]? = some (.cells m.enc.toArray 39 (0, 0))) ⟨hbw, hn0⟩ ?_
      have HWM := Lib.hid hw
      clear hn0 hbw hkw x0 x1 x2 x3 x4 x5 x6 hz HB
      rintro W ⟨hbW, g0⟩
      have HBW := Lib.hid hbW
      have y0 : W.cell? ⟨z, 0, none⟩ = some (.int .i64 m.n) := blockCells g0 0
      have y1 : W.cell? ⟨z, 1, none⟩ = some (.int .u8 m.e0) := blockCells g0 1
      have y2 : W.cell? ⟨z, 2, none⟩ = some (.int .u8 m.e1) := blockCells g0 2
      have y3 : W.cell? ⟨z, 3, none⟩ = some (.int .u8 m.e2) := blockCells g0 3
      have y4 : W.cell? ⟨z, 4, none⟩ = some (.int .u8 m.e3) := blockCells g0 4
      have y5 : W.cell? ⟨z, 5, none⟩ = some (.int .u8 m.e4) := blockCells g0 5
      have y6 : W.cell? ⟨z, 6, none⟩ = some (.int .u8 m.e5) := blockCells g0 6
      have hq1 := fun W' => small_any W' m HWM.out
      unfold Mono.V at hq1
      have f0 := cellBW y0; have f1 := cellBW y1; have f2 := cellBW y2; have f3 := cellBW y3; have f4 := cellBW y4; have f5 := cellBW y5; have f6 := cellBW y6
      clear hbW g0 y0 y1 y2 y3 y4 y5 y6 hw
      cases hsm : smallB m with
      | false =>
        rw [hsm] at hq1 hfine
        have HQ1 := Lib.hid hq1
        have HF := Lib.hid (polyB_bad hlt (by rw [hfine]; rfl))
        clear hq1 hfine hsm hmk
        refine wp_region_below (by kernel_rfl) (by kernel_rfl) ?_
        repeat (go_big_quiet_step (refine callsBW (HQ1.out _)))
        refine wpQuiet_nil ?_
        rintro _ ⟨⟨wq, hwq⟩, rfl⟩
        clear f0 f1 f2 f3 f4 f5 f6
        go_wp2_with fail
        go_ret
        exact ⟨ret_bool HF.out.symm, bNext hwq HBW.out⟩
      | true =>
        rw [hsm] at hq1 hfine
        by_cases hk0 : k = 0
        · subst hk0
          have HQ1 := Lib.hid hq1
          have HF := Lib.hid hfine
          clear hq1 hfine hsm hmk
          refine wp_region_below (by kernel_rfl) (by kernel_rfl) ?_
          repeat (go_big_quiet_step (refine callsBW (HQ1.out _)))
          refine wpQuiet_nil ?_
          rintro _ ⟨⟨wq, hwq⟩, rfl⟩
          clear f0 f1 f2 f3 f4 f5 f6
          go_wp2_with fail
          go_roundw
          case rel => exact ⟨0 + 1, by omega, by go_num, fun j hj => by rw [show j = 0 from by omega, HF.out]; rfl, bNext hwq HBW.out⟩
          case measure => simp [intOf]; omega
        · have hlt' : k - 1 < p.length := by omega
          obtain ⟨b', off', eb, hw', x0, x1, x2, x3, x4, x5, x6⟩ := els_mono (HE.out.below monoRep HBW.out (Nat.le_refl _)) hlt'
          cases eb
          rw [getD_at hlt'] at hfine
          have hk1 : ((k - 1 : Nat) : Int) = (k : Int) - 1 := by omega
          obtain ⟨q, hqk⟩ : ∃ q, p[k - 1] = q := ⟨_, rfl⟩
          rw [hqk] at hfine hw' x0 x1 x2 x3 x4 x5 x6
          have hq2 := fun W' => order_any W' q m hw' HWM.out
          unfold Mono.V at hq2
          have h0 := cellBW x0; have h1 := cellBW x1; have h2 := cellBW x2; have h3 := cellBW x3; have h4 := cellBW x4; have h5 := cellBW x5; have h6 := cellBW x6
          have hkp : 0 < (k : Int) := by omega
          have hkn : 0 < k := by omega
          have hkt : ((k : Int) - 1).toNat = k - 1 := by omega
          have hkz : (0 : Int) ≤ (k : Int) - 1 := by omega
          have hkz2 : (k : Int) - 1 < (p.length : Int) := by omega
          have hkz3 : (k - 1) < p.length := by omega
          obtain ⟨cc, hcc⟩ : ∃ cc, cmpI m.E q.E = cc := ⟨_, rfl⟩
          rw [hcc] at hq2 hfine
          have HQ1 := Lib.hid hq1; have HQ2 := Lib.hid hq2
          clear hq1 hq2 hsm hmk hqk hcc x0 x1 x2 x3 x4 x5 x6 hw' hk1
          by_cases hneg : cc < 0
          · have hneg' : decide (0 ≤ cc) = false := by simp; omega
            have HF : Hid (fineAt p k = true) := Lib.hid (by rw [hfine, decide_eq_true hneg]; simp)
            clear hfine
            refine wp_region_below (by kernel_rfl) (by kernel_rfl) ?_
            repeat (go_big_quiet_step (first | refine callsBW (HQ1.out _) | refine callsBW (HQ2.out _)))
            refine wpQuiet_nil ?_
            rintro _ ⟨⟨wq, hwq⟩, rfl⟩
            clear f0 f1 f2 f3 f4 f5 f6 h0 h1 h2 h3 h4 h5 h6
            go_wp2_with fail
            go_roundw
            case rel => exact ⟨k + 1, by omega, by go_num, fun j hj => by
              by_cases e : j = k
              · rw [e]; exact HF.out
              · exact HALL.out j (by omega), bNext hwq HBW.out⟩
            case measure => simp [intOf]; omega
          · have hneg' : decide (0 ≤ cc) = true := by simp; omega
            have HF : Hid (polyB p = false) := Lib.hid (polyB_bad hlt (by rw [hfine, decide_eq_false hneg]; simp [hk0]))
            clear hfine
            refine wp_region_below (by kernel_rfl) (by kernel_rfl) ?_
            repeat (go_big_quiet_step (first | refine callsBW (HQ1.out _) | refine callsBW (HQ2.out _)))
            refine wpQuiet_nil ?_
            rintro _ ⟨⟨wq, hwq⟩, rfl⟩
            clear f0 f1 f2 f3 f4 f5 f6 h0 h1 h2 h3 h4 h5 h6
            go_wp2_with fail
            go_ret
            exact ⟨ret_bool HF.out.symm, bNext hwq HBW.out⟩
    · have HF := Lib.hid (polyB_good hb48 (fun j hj => HALL.out j (by omega)))
      go_wp2_with fail
      go_ret
      exact ⟨ret_bool HF.out.symm, HB.out⟩
end Go.Proofs.Ytabodlhlanolcaa
