import Derived.Test.YtmlfeocdcjhhaaaPG5
-- DROPS
namespace Go.Proofs.Ytmlfeocdcjhhaaa
set_option maxRecDepth 100000
open Go.RowKit
set_option linter.unusedVariables false
set_option linter.unusedSimpArgs false
attribute [local go_sem ↓] Go.wp_at_zero Go.wp_at_succ

def evalK (D : List Int) : List Mono → Int → Int → Int × Int
  | [], sum, _ => (sum, 0)
  | m :: r, sum, size => match valO m D with
    | none => (0, 22)
    | some n => if 4611686018427387904 - size < n then (0, 22) else evalK D r (if m.n < 0 then sum - n else sum + n) (size + n)
def dimsB (D : List Int) : Bool := decide (D.length ≤ 6) && D.all fun d => decide (0 ≤ d) && decide (d ≤ 2147483648)
def evalS (p : List Mono) (D : List Int) : Int × Int := if polyB p then (if dimsB D then evalK D p 0 0 else (0, 23)) else (0, 20)
theorem evalK_none {D : List Int} {p : List Mono} {k : Nat} (hk : k < p.length) (sum size : Int) (h : valO p[k] D = none) : evalK D (p.drop k) sum size = (0, 22) := by rw [List.drop_eq_getElem_cons hk, evalK, h]
theorem evalK_big {D : List Int} {p : List Mono} {k : Nat} (hk : k < p.length) (sum size : Int) {n : Int} (h : valO p[k] D = some n) (hb : 4611686018427387904 - size < n) : evalK D (p.drop k) sum size = (0, 22) := by
  rw [List.drop_eq_getElem_cons hk, evalK, h]
  exact if_pos hb
theorem evalK_step {D : List Int} {p : List Mono} {k : Nat} (hk : k < p.length) (sum size : Int) {n : Int} (h : valO p[k] D = some n) (hb : ¬ 4611686018427387904 - size < n) : evalK D (p.drop k) sum size = evalK D (p.drop (k + 1)) (if p[k].n < 0 then sum - n else sum + n) (size + n) := by
  rw [List.drop_eq_getElem_cons hk, evalK, h]
  exact if_neg hb
theorem dims_facts {D : List Int} (h : dimsB D = true) : D.length ≤ 6 ∧ ∀ x ∈ D, 0 ≤ x ∧ x ≤ 2147483648 := by
  unfold dimsB at h
  simp only [Bool.and_eq_true, decide_eq_true_eq, List.all_eq_true] at h
  exact h
theorem dims_bad {D : List Int} {k : Nat} (hk : k < D.length) (h : 6 ≤ k ∨ D[k] < 0 ∨ 2147483648 < D[k]) : dimsB D = false := by
  cases hb : dimsB D with
  | false => rfl
  | true =>
    obtain ⟨h1, h2⟩ := dims_facts hb
    have := h2 _ (List.getElem_mem hk)
    omega
theorem dims_good {D : List Int} (hl : D.length ≤ 6) (h : ∀ k, (hk : k < D.length) → 0 ≤ D[k] ∧ D[k] ≤ 2147483648) : dimsB D = true := by
  unfold dimsB
  rw [decide_eq_true hl, List.all_eq_true.2 fun x hx => by
    obtain ⟨k, hk, rfl⟩ := List.getElem_of_mem hx
    have := h k hk
    simp [this.1, this.2]]
  rfl
theorem dimAt_bd {D : List Int} (h : ∀ x ∈ D, 0 ≤ x ∧ x ≤ 2147483648) (k : Nat) : 0 ≤ dimAt D k ∧ dimAt D k ≤ 2147483648 := by
  unfold dimAt
  rw [List.getD_eq_getElem?_getD]
  cases hc : D[k]? with
  | none => simp
  | some y => exact h y (List.mem_of_getElem? hc)
theorem prodK_bd {m : Mono} {D : List Int} (hm : m.wf) (h0 : 1 ≤ max m.n (-m.n) ∧ max m.n (-m.n) ≤ 4611686018427387904) (hz : ∀ k, k < 6 → zeroAt m D k = false) (hd : ∀ k, 0 ≤ dimAt D k) : ∀ (k : Nat) {v : Int}, k ≤ 6 → prodK m D k = some v → 1 ≤ v ∧ v ≤ 4611686018427387904
  | 0, v, _, h => by cases h; exact h0
  | k + 1, v, hk, h => by
    rw [prodK] at h
    cases hp : prodK m D k with
    | none => rw [hp] at h; cases h
    | some u =>
      rw [hp] at h
      obtain ⟨b1, b2⟩ := prodK_bd hm h0 hz hd k (by omega) hp
      by_cases he : 0 < m.ex k
      · have hz := hz k (by omega)
        unfold zeroAt at hz
        rw [decide_eq_true he, Bool.true_and] at hz
        have : dimAt D k ≠ 0 := by simpa using hz
        have := hd k
        exact mulO_bd (by omega) _ b1 b2 h
      · have he0 := (ex_at hm k).1
        have : (m.ex k).toNat = 0 := by omega
        rw [this] at h
        cases h
        exact ⟨b1, b2⟩
theorem valO_bd {m : Mono} {D : List Int} (hm : m.wf) (hs : smallB m = true) (hd : ∀ k, 0 ≤ dimAt D k) {n : Int} (h : valO m D = some n) : 0 ≤ n ∧ n ≤ 4611686018427387904 := by
  unfold smallB at hs
  simp only [Bool.and_eq_true, decide_eq_true_eq, bne_iff_ne] at hs
  obtain ⟨⟨⟨hs1, hs2⟩, hs3⟩, -⟩ := hs
  unfold valO at h
  split at h
  · cases h; omega
  · rename_i hz
    have hz : ∀ k, k < 6 → zeroAt m D k = false := fun k hk => by
      cases hc : zeroAt m D k with
      | false => rfl
      | true => exact absurd (List.any_eq_true.2 ⟨k, List.mem_range.2 hk, hc⟩) hz
    have := prodK_bd hm (by omega) hz hd 6 (Nat.le_refl _) h
    omega
theorem poly_small {p : List Mono} (h : polyB p = true) {k : Nat} (hk : k < p.length) : smallB p[k] = true := by
  unfold polyB at h
  simp only [Bool.and_eq_true, List.all_eq_true, List.mem_range] at h
  have := h.2 k hk
  unfold fineAt at this
  rw [getD_at hk] at this
  simp only [Bool.and_eq_true] at this
  exact this.1
/-- the first k sides, the others 0 -/
def padK (D : List Int) (k : Nat) : List Int := (List.range 6).map fun j => if j < k then dimAt D j else 0
theorem padK_len (D : List Int) (k : Nat) : (padK D k).length = 6 := by simp [padK]
theorem padK_at (D : List Int) (k : Nat) {j : Nat} (hj : j < 6) : dimAt (padK D k) j = if j < k then dimAt D j else 0 := by
  have : (padK D k)[j]? = some (if j < k then dimAt D j else 0) := by unfold padK; simp [hj]
  unfold dimAt at this ⊢
  rw [List.getD_eq_getElem?_getD, this]
  rfl
theorem padK_set (D : List Int) {k : Nat} (hk : k < 6) : (padK D k).set k (dimAt D k) = padK D (k + 1) := by
  refine List.ext_getElem (by simp [padK]) fun j h1 h2 => ?_
  simp only [padK, List.getElem_set, List.getElem_map, List.getElem_range]
  by_cases e : k = j
  · subst e; simp
  · rw [if_neg e]
    by_cases h : j < k
    · rw [if_pos h, if_pos (by omega)]
    · rw [if_neg h, if_neg (by omega)]
theorem prodK_pad (m : Mono) (D D' : List Int) (h : ∀ j, j < 6 → dimAt D' j = dimAt D j) : ∀ k, k ≤ 6 → prodK m D' k = prodK m D k
  | 0, _ => rfl
  | k + 1, hk => by rw [prodK, prodK, prodK_pad m D D' h k (by omega), h k (by omega)]
theorem valO_pad (m : Mono) {D D' : List Int} (h : ∀ j, j < 6 → dimAt D' j = dimAt D j) : valO m D' = valO m D := by
  unfold valO
  rw [prodK_pad m D D' h 6 (Nat.le_refl _)]
  have : (List.range 6).any (zeroAt m D') = (List.range 6).any (zeroAt m D) := by
    rw [Bool.eq_iff_iff, List.any_eq_true, List.any_eq_true]
    constructor
    · rintro ⟨k, hk, hz⟩
      exact ⟨k, hk, by unfold zeroAt at hz ⊢; rwa [h k (List.mem_range.1 hk)] at hz⟩
    · rintro ⟨k, hk, hz⟩
      exact ⟨k, hk, by unfold zeroAt at hz ⊢; rwa [h k (List.mem_range.1 hk)]⟩
  rw [this]
theorem pad_all {D : List Int} (hl : D.length ≤ 6) : ∀ j, j < 6 → dimAt (padK D D.length) j = dimAt D j := fun j hj => by
  rw [padK_at D _ hj]
  split
  · rfl
  · exact (dimAt_out (by omega)).symm
theorem SixB.set {W : World} {z : Nat} {D : List Int} (h : SixB W z D) {k : Nat} (x : Int) : SixB (W.setCell ⟨z, k, none⟩ (.int .i64 x)) z (D.set k x) := by
  refine ⟨?_, by simpa using h.2⟩
  rw [heap_setCell_same W z k _ _ _ h.1]
  simp [List.map_set]
theorem SixB.frozen {W : World} {z : Nat} {D : List Int} (h : SixB W z D) (k : Nat) : W.frozen? ⟨z, k, none⟩ = false := frozen_of_row W z k _ _ h.1
theorem SixB.below {W W' : World} {z : Nat} {D : List Int} (h : SixB W z D) (hb : Below W.heap.size W W') : SixB W' z D := ⟨keepBlock h.1 hb, h.2⟩
end Go.Proofs.Ytmlfeocdcjhhaaa

namespace Go.Proofs.Ytmlfeocdcjhhaaa
set_option maxRecDepth 100000
open Go.RowKit
set_option linter.unusedVariables false
set_option linter.unusedSimpArgs false
attribute [local go_sem ↓] Go.wp_at_zero Go.wp_at_succ

theorem Try.size6 : (Try.prog.info? 166).map (·.size) = some 6 := by kernel_rfl
theorem padK_zero (D : List Int) : padK D 0 = [0, 0, 0, 0, 0, 0] := by simp [padK, List.range_succ]
set_option maxHeartbeats 16000000 in
theorem eval_any (w : World) (a : Option Addr) (c : Nat) (p : List Mono) (ad : Option Addr) (cd : Nat) (D : List Int) (h : monoRep.Els w a p) (hm : p.length ≤ 9223372036854775807) (hd : IntsAt .i64 w ad D) (hld : D.length ≤ 9223372036854775807) :
    Calls Try.prog 121 #[.slice a p.length c, .slice ad D.length cd] w fun e w' => e = two (evalS p D) ∧ Below w.heap.size w w' := by
  have hr := right_any w a c p h hm
  cases hp : polyB p with
  | false =>
    have hg : evalS p D = (0, 20) := by unfold evalS; rw [hp]; rfl
    rw [hp] at hr
    have HR := Lib.hid hr; have HG := Lib.hid hg
    clear hr hg hp h hd
    go_enter Try.func121, Try.ntmps121
    go_wp2_with (go_at_call 24; refine HR.out.mono ?_; rintro e w1 ⟨rfl, hb1⟩)
    go_ret2
    exact ⟨ret_two HG.out, hb1⟩
  | true =>
    have hg : evalS p D = if dimsB D then evalK D p 0 0 else (0, 23) := by unfold evalS; rw [hp]; rfl
    rw [hp] at hr
    have hsmall := fun k hk => poly_small hp (k := k) hk
    have HR := Lib.hid hr; have HG := Lib.hid hg; have HE := Lib.hid h; have HI := Lib.hid hd; have HSM := Lib.hid hsmall; have HWF := Lib.hid (wf_mono h)
    clear hr hg hp h hd hsmall
    go_enter Try.func121, Try.ntmps121
    go_wp2_with fail
    refine HR.out.mono ?_
    rintro e w1 ⟨rfl, hb1⟩
    obtain ⟨z, hz⟩ : ∃ z, w1.heap.size = z := ⟨_, rfl⟩
    have hn0 := World.alloc_heap_new w1 (.cells ((padK D 0).map (Value.int .i64)).toArray 166)
    rw [hz] at hn0
    have hbw : Below w.heap.size w (w1.alloc (.cells ((padK D 0).map (Value.int .i64)).toArray 166)) := hb1.alloc hb1.size _
    have hzw : w.heap.size ≤ z := by have := hb1.size; omega
    have HN0 := Lib.hid hn0; have HBW := Lib.hid hbw
    clear hn0 hbw hb1 HR
    go_upto_region 4 with fail
    refine gen_worldA (fun W => Below w.heap.size w W ∧ SixB W z (padK D 0)) ⟨by have := HBW.out; rw [padK_zero] at this; exact this, by have := HN0.out; rw [padK_zero] at this ⊢; exact ⟨this, rfl⟩⟩ ?_
    rintro W ⟨hbW, g0⟩
    have HB := Lib.hid hbW; have G0 := Lib.hid g0
    clear hbW g0 HN0 HBW hz
    go_wp2_with fail
    go_loopw [20] (fun i wr => ∃ k : Nat, k ≤ D.length ∧ k ≤ 6 ∧ i = .int .i64 k ∧ SixB wr z (padK D k) ∧ (∀ j, (hj : j < D.length) → j < k → 0 ≤ D[j] ∧ D[j] ≤ 2147483648) ∧ Below w.heap.size w wr) (fun i _ => D.length - (intOf i).toNat)
    case atStart => exact ⟨0, Nat.zero_le _, by omega, rfl, G0.out, fun j _ h => absurd h (Nat.not_lt_zero j), HB.out⟩
    case round =>
      obtain ⟨k, hk, hk6, rfl, hsix, hall, hB⟩ := hrel
      have HALL := Lib.hid hall; have HB2 := Lib.hid hB; have HSX := Lib.hid hsix
      clear hall hB hsix HB G0
      by_cases hlt : k < D.length
      · obtain ⟨b, off, rfl, x0⟩ := (HI.out.below HB2.out (Nat.le_refl _)) k hlt
        have hz0 : (0 : Int) ≤ (k : Int) := by omega
        have hz1 : (k : Int) < (D.length : Int) := by omega
        have hdim := dimAt_in (D := D) hlt
        have hbad := fun h => dims_bad (D := D) hlt h
        obtain ⟨d, hdd⟩ : ∃ d, D[k] = d := ⟨_, rfl⟩
        rw [hdd] at x0 hdim hbad
        have HDD := Lib.hid hdd; have HBAD := Lib.hid hbad; have HDIM := Lib.hid hdim
        clear hdd hbad hdim
        by_cases h6 : k = 6
        · subst h6
          have HG2 := Lib.hid (HG.out.trans (by rw [HBAD.out (.inl (Nat.le_refl _))]))
          simp only [Int.cast_ofNat_Int] at *
          go_wp2_with fail
          go_ret2
          exact ⟨ret_two HG2.out, HB2.out⟩
        have h6' : decide ((6 : Int) ≤ (k : Int)) = false := by simp; omega
        have h6n : decide (6 ≤ k) = false := by simp; omega
        have h6z : (k : Int) < 6 := by omega
        by_cases hneg : d < 0
        · have HG2 := Lib.hid (HG.out.trans (by rw [HBAD.out (.inr (.inl hneg))]))
          go_wp2_with fail
          go_ret2
          exact ⟨ret_two HG2.out, HB2.out⟩
        have hneg' : decide (d < 0) = false := by simpa using hneg
        by_cases hbg : 2147483648 < d
        · have HG2 := Lib.hid (HG.out.trans (by rw [HBAD.out (.inr (.inr hbg))]))
          go_wp2_with fail
          go_ret2
          exact ⟨ret_two HG2.out, HB2.out⟩
        have hbg' : decide (2147483648 < d) = false := by simpa using hbg
        have cz := HSX.out.at (k := k) (by omega)
        have fz := HSX.out.frozen k
        have hset := HSX.out.set (k := k) d
        rw [show d = dimAt D k from HDIM.out.symm ▸ rfl, padK_set D (by omega)] at hset
        have HST := Lib.hid hset
        have HNB := Lib.hid (show 0 ≤ d ∧ d ≤ 2147483648 by omega)
        clear hset hneg hbg
        go_wp2_with fail
        go_roundw
        case rel => exact ⟨k + 1, by omega, by omega, by go_num, by rw [← HDIM.out]; exact HST.out, fun j hj h => by
          by_cases e : j = k
          · subst e; rw [HDD.out]; exact HNB.out
          · exact HALL.out j hj (by omega), HB2.out.setCell (p := ⟨z, k, none⟩) hzw _⟩
        case measure => simp [intOf]; omega
      · obtain rfl : k = D.length := by omega
        have hdg := dims_good hk6 (fun j hj => HALL.out j hj hj)
        have hdf := (dims_facts hdg).2
        have HG2 : Hid (evalS p D = evalK D p 0 0) := Lib.hid (HG.out.trans (if_pos hdg))
        have HDF := Lib.hid hdf; have HPA := Lib.hid (pad_all hk6)
        clear hdg hdf HG
        go_wp2_with fail
        go_loopw [9, 10, 41] (fun s sz i wx => ∃ (k : Nat) (su si : Int), k ≤ p.length ∧ i = .int .i64 k ∧ s = .int .i64 su ∧ sz = .int .i64 si ∧ evalK D p 0 0 = evalK D (p.drop k) su si ∧ 0 ≤ si ∧ si ≤ 4611686018427387904 ∧ -si ≤ su ∧ su ≤ si ∧ SixB wx z (padK D D.length) ∧ Below w.heap.size w wx) (fun _ _ i _ => p.length - (intOf i).toNat)
        case atStart => exact ⟨0, 0, 0, Nat.zero_le _, rfl, rfl, rfl, rfl, by omega, by omega, by omega, by omega, HSX.out, HB2.out⟩
        case round =>
          obtain ⟨k, su, si, hk, rfl, rfl, rfl, hev, hs0, hs1, hu0, hu1, hsix, hB⟩ := hrel
          have HEV := Lib.hid hev; have HSX3 := Lib.hid hsix; have HB3 := Lib.hid hB
          clear hev hsix hB
          have hz0 : (0 : Int) ≤ (k : Int) := by omega
          by_cases hlt : k < p.length
          · obtain ⟨b, off, rfl, hw, x0, x1, x2, x3, x4, x5, x6⟩ := els_mono (HE.out.below monoRep HB3.out (Nat.le_refl _)) hlt
            have hz1 : (k : Int) < (p.length : Int) := by omega
            have hev1 := evalK_none (D := D) hlt su si
            have hev2 := fun n => evalK_big (D := D) hlt su si (n := n)
            have hev3 := fun n => evalK_step (D := D) hlt su si (n := n)
            have hsm := HSM.out k hlt
            have hbd := fun n => valO_bd (D := D) hw hsm (fun j => (dimAt_bd HDF.out j).1) (n := n)
            obtain ⟨m, hmk⟩ : ∃ m, p[k] = m := ⟨_, rfl⟩
            rw [hmk] at hw x0 x1 x2 x3 x4 x5 x6 hev1 hev2 hev3 hsm hbd
            have hval := fun W' => value_any W' m (padK D D.length) hw hsm (padK_len D _) (fun y hy => by
              simp only [padK, List.mem_map, List.mem_range] at hy
              obtain ⟨j, _, rfl⟩ := hy
              split
              · exact dimAt_bd HDF.out j
              · omega)
            rw [valO_pad m HPA.out] at hval
            unfold Mono.V RetVal at hval
            obtain ⟨o, ho⟩ : ∃ o, valO m D = o := ⟨_, rfl⟩
            rw [ho] at hev1 hev2 hev3 hbd hval
            have HVAL := Lib.hid hval; have HV1 := Lib.hid hev1; have HV2 := Lib.hid hev2; have HV3 := Lib.hid hev3; have HBD := Lib.hid hbd
            clear hval hw hsm hmk ho hev1 hev2 hev3 hbd
            obtain ⟨zm, hzm⟩ : ∃ zm, wr.heap.size = zm := ⟨_, rfl⟩
            have hn0 := World.alloc_heap_new wr (.cells m.enc.toArray 47)
            rw [hzm] at hn0
            have hbw := HB3.out.alloc HB3.out.size (.cells m.enc.toArray 47)
            have hsx4 := HSX3.out.below ((Below.refl _ _).alloc (Nat.le_refl _) (.cells m.enc.toArray 47))
            have HN0 := Lib.hid hn0; have HBW := Lib.hid hbw; have HSX4 := Lib.hid hsx4
            clear hn0 hbw hsx4
            go_upto_region 15 with fail
            refine gen_worldA (fun W => Below w.heap.size w W ∧ W.heap[zm]? = some (.cells m.enc.toArray 47 (0, 0)) ∧ SixB W z (padK D D.length)) ⟨HBW.out, HN0.out, HSX4.out⟩ ?_
            clear HN0 HBW HSX4 x0 x1 x2 x3 x4 x5 x6 HB3 HSX3 hzm
            rintro W4 ⟨hbW, g0, g1⟩
            have y0 : W4.cell? ⟨zm, 0, none⟩ = some (.int .i64 m.n) := blockCells g0 0
            have y1 : W4.cell? ⟨zm, 1, none⟩ = some (.int .u8 m.e0) := blockCells g0 1
            have y2 : W4.cell? ⟨zm, 2, none⟩ = some (.int .u8 m.e1) := blockCells g0 2
            have y3 : W4.cell? ⟨zm, 3, none⟩ = some (.int .u8 m.e2) := blockCells g0 3
            have y4 : W4.cell? ⟨zm, 4, none⟩ = some (.int .u8 m.e3) := blockCells g0 4
            have y5 : W4.cell? ⟨zm, 5, none⟩ = some (.int .u8 m.e4) := blockCells g0 5
            have y6 : W4.cell? ⟨zm, 6, none⟩ = some (.int .u8 m.e5) := blockCells g0 6
            have HBW := Lib.hid hbW; have G0 := Lib.hid g0; have G1 := Lib.hid g1
            clear hbW g0 g1
            go_wp2_with ((with_reducible show wpList _ _ _ ({ dst := some _, op := Op.load 166 (.tmp 6), type := _, pos := _, after := _, guard := _ } :: _) _ _); (refine wpList_load_row rfl 166 _ rfl z rfl 166 _ (0, 0) _ G1.out.1 Try.underlying166 rfl (by rw [Try.size6]; simp [G1.out.2]) ?_))
            refine (HVAL.out _).mono ?_
            rintro e w5 ⟨rfl, hb5⟩
            have y0' := keepCell hb5 y0
            have HB5 := Lib.hid (bNext hb5 HBW.out); have HSX5 := Lib.hid (G1.out.below hb5)
            clear y0 y1 y2 y3 y4 y5 y6 hb5 HBW G0 G1 HVAL
            cases o with
            | none =>
              have HG3 := Lib.hid (HG2.out.trans (HEV.out.trans (HV1.out rfl)))
              go_wp2_with fail
              go_ret2
              exact ⟨ret_two HG3.out, HB5.out⟩
            | some n =>
              obtain ⟨hn0, hn1⟩ := HBD.out n rfl
              by_cases hgt : 4611686018427387904 - si < n
              · have HG3 := Lib.hid (HG2.out.trans (HEV.out.trans (HV2.out n rfl (by omega))))
                dsimp only [Option.getD_some, Option.isSome_some]
                go_wp2_with fail
                go_ret2
                exact ⟨ret_two HG3.out, HB5.out⟩
              · have hgt' : decide (4611686018427387904 - si < n) = false := by simpa using hgt
                have HG3 := Lib.hid (HEV.out.trans (HV3.out n rfl (by omega)))
                have hsum : si + n ≤ 4611686018427387904 := by omega
                clear hgt
                dsimp only [Option.getD_some, Option.isSome_some]
                by_cases hmn : m.n < 0
                · have HG4 := Lib.hid (HG3.out.trans (by rw [if_pos hmn]))
                  go_wp2_with fail
                  go_roundw
                  case rel => exact ⟨k + 1, su - n, si + n, by omega, by go_num, by first | rfl | (rw [Int.sub_eq_add_neg]), rfl, HG4.out, by omega, by omega, by omega, by omega, HSX5.out, HB5.out⟩
                  case measure => simp [intOf]; omega
                · have hmn' : decide (m.n < 0) = false := by simpa using hmn
                  have HG4 := Lib.hid (HG3.out.trans (by rw [if_neg hmn]))
                  clear hmn
                  go_wp2_with fail
                  go_roundw
                  case rel => exact ⟨k + 1, su + n, si + n, by omega, by go_num, rfl, rfl, HG4.out, by omega, by omega, by omega, by omega, HSX5.out, HB5.out⟩
                  case measure => simp [intOf]; omega
          · obtain rfl : k = p.length := by omega
            have HG3 : Hid (evalS p D = (su, 0)) := Lib.hid (HG2.out.trans (HEV.out.trans (by rw [List.drop_length, evalK])))
            go_wp2_with fail
            go_ret2
            exact ⟨ret_two HG3.out, HB3.out⟩
end Go.Proofs.Ytmlfeocdcjhhaaa

-- DROPS
namespace Go.Proofs.Ytmlfeocdcjhhaaa
set_option maxRecDepth 100000
open Go.RowKit
set_option linter.unusedVariables false
set_option linter.unusedSimpArgs false
attribute [local go_sem ↓] Go.wp_at_zero Go.wp_at_succ

theorem dims_long {D : List Int} (h : 6 < D.length) : dimsB D = false := dims_bad (k := 6) h (.inl (Nat.le_refl _))
end Go.Proofs.Ytmlfeocdcjhhaaa
