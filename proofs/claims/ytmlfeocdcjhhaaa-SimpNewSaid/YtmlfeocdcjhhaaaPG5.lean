import Derived.Test.YtmlfeocdcjhhaaaPG4
namespace Go.Proofs.Ytmlfeocdcjhhaaa
set_option maxRecDepth 100000
open Go.RowKit
set_option linter.unusedVariables false
set_option linter.unusedSimpArgs false
attribute [local go_sem ↓] Go.wp_at_zero Go.wp_at_succ

/-- a polynomial without a factor below 0? -/
def growsB (p : List Mono) : Bool := polyB p && !(p.any fun m => decide (m.n < 0))

theorem grows1_any (w : World) (x : Mono) (hx : x.wf) : Calls Try.prog 129 #[x.V] w fun e w' => e = .returned (.bool (decide (x.n < 0))) ∧ Below w.heap.size w w' := by
  clear hx
  unfold Mono.V
  go_enter Try.func129, Try.ntmps129
  go_wp2
  go_ret
  exact ⟨rfl, (Below.refl _ _).alloc (Nat.le_refl _) _⟩
theorem grows1_in (args : Array Value) (w : World) : (callFunc 129 args).run Try.prog w = .ok (.enter 129 args) w := callFunc_enter Try.func129 (by kernel_rfl) rfl args w
set_option maxHeartbeats 4000000 in
theorem grows_any (w : World) (a : Option Addr) (c : Nat) (p : List Mono) (h : monoRep.Els w a p) (hm : p.length ≤ 9223372036854775807) :
    Calls Try.prog 86 #[.slice a p.length c] w fun e w' => e = .returned (.bool (growsB p)) ∧ Below w.heap.size w w' := by
  have hr := right_any w a c p h hm
  have hcf := fun W (hb : Below w.heap.size w W) => containsFuncM W a c p 129 _ grows1_in (by unfold maxLen; omega) (h.below monoRep hb (Nat.le_refl _)) (fun x hx w' => grows1_any w' x hx)
  have HCF := Lib.hid hcf
  clear hcf h
  cases hp : polyB p with
  | false =>
    have hg : growsB p = false := by unfold growsB; rw [hp]; rfl
    rw [hp] at hr
    have HR := Lib.hid hr; have HG := Lib.hid hg
    clear hr hg hp
    go_enter Try.func86, Try.ntmps86
    go_wp2_with (go_at_call 24; refine HR.out.mono ?_; rintro e w1 ⟨rfl, hb1⟩)
    go_ret
    exact ⟨ret_bool HG.out.symm, hb1⟩
  | true =>
    have hg : growsB p = !(p.any fun m => decide (m.n < 0)) := by unfold growsB; rw [hp]; rfl
    rw [hp] at hr
    have HR := Lib.hid hr; have HG := Lib.hid hg
    clear hr hg hp
    go_enter Try.func86, Try.ntmps86
    go_wp2_with fail
    refine HR.out.mono ?_
    rintro e w1 ⟨rfl, hb1⟩
    go_wp2_with fail
    refine (HCF.out _ hb1).mono ?_
    rintro e w2 ⟨rfl, hb2⟩
    go_wp2_with fail
    go_ret
    exact ⟨ret_bool HG.out.symm, bNext hb2 hb1⟩
theorem growsB_neg {p : List Mono} {k : Nat} (hk : k < p.length) (h : p[k].n < 0) : growsB p = false := by
  unfold growsB
  rw [show (p.any fun m => decide (m.n < 0)) = true from List.any_eq_true.2 ⟨_, List.getElem_mem hk, by simpa using h⟩]
  simp
theorem growsB_pos {p : List Mono} (h : ∀ k, (hk : k < p.length) → ¬ p[k].n < 0) : growsB p = polyB p := by
  unfold growsB
  rw [show (p.any fun m => decide (m.n < 0)) = false from List.any_eq_false.2 fun x hx => by
    obtain ⟨k, hk, rfl⟩ := List.getElem_of_mem hx
    simpa using h k hk]
  simp
set_option maxHeartbeats 4000000 in
theorem rgrows_any (w : World) (a : Option Addr) (c : Nat) (p : List Mono) (h : monoRep.Els w a p) (hm : p.length ≤ 9223372036854775807) :
    Calls Try.prog 107 #[.slice a p.length c] w fun e w' => e = .returned (.bool (growsB p)) ∧ Below w.heap.size w w' := by
  have hr := rright_any w a c p h hm
  have HR := Lib.hid hr; have HE := Lib.hid h
  clear hr h
  go_enter Try.func107, Try.ntmps107
  go_wp2_with fail
  go_loop [3] (fun i => ∃ k : Nat, k ≤ p.length ∧ i = .int .i64 k ∧ (∀ j, (hj : j < p.length) → j < k → ¬ p[j].n < 0)) (fun i => p.length - (intOf i).toNat)
  case atStart => exact ⟨0, Nat.zero_le _, rfl, fun j _ h => absurd h (Nat.not_lt_zero j)⟩
  case round =>
    obtain ⟨k, hk, rfl, hall⟩ := hrel
    have HALL := Lib.hid hall
    clear hall
    by_cases hlt : k < p.length
    · obtain ⟨b, off, rfl, hw, x0, -⟩ := els_mono HE.out hlt
      have hz0 : (0 : Int) ≤ (k : Int) := by omega
      have hz1 : (k : Int) < (p.length : Int) := by omega
      clear hw
      by_cases hn : p[k].n < 0
      · have HG := Lib.hid (growsB_neg hlt hn)
        go_wp2_with fail
        go_ret
        exact ⟨ret_bool HG.out.symm, Below.refl _ _⟩
      · have hn' : decide (p[k].n < 0) = false := by simpa using hn
        have HN := Lib.hid hn; clear hn
        go_wp2_with fail
        go_round
        case rel => exact ⟨k + 1, by omega, by go_num, fun j hj h => by
          by_cases e : j = k
          · subst e; exact HN.out
          · exact HALL.out j hj (by omega)⟩
        case measure => simp [intOf]; omega
    · have HG := Lib.hid (growsB_pos (fun j hj => HALL.out j hj (by omega)))
      go_wp2_with fail
      refine HR.out.mono ?_
      rintro e w1 ⟨rfl, hb1⟩
      go_wp2_with fail
      go_ret
      exact ⟨ret_bool HG.out.symm, hb1⟩
end Go.Proofs.Ytmlfeocdcjhhaaa

namespace Go.Proofs.Ytmlfeocdcjhhaaa
set_option maxRecDepth 100000
open Go.RowKit
set_option linter.unusedVariables false
set_option linter.unusedSimpArgs false
attribute [local go_sem ↓] Go.wp_at_zero Go.wp_at_succ

def Mono.ex (m : Mono) (k : Nat) : Int := m.E.getD k 0
def dimAt (D : List Int) (k : Nat) : Int := D.getD k 0
theorem ex_at {m : Mono} (h : m.wf) (k : Nat) : 0 ≤ m.ex k ∧ m.ex k ≤ 255 := E_at h k
/-- n times d, e times over; none: it is above 2^62 -/
def mulO (d : Int) : Nat → Int → Option Int
  | 0, n => some n
  | e + 1, n => if 4611686018427387904 / d < n then none else mulO d e (n * d)
def prodK (m : Mono) (D : List Int) : Nat → Option Int
  | 0 => some (max m.n (-m.n))
  | k + 1 => (prodK m D k).bind (mulO (dimAt D k) (m.ex k).toNat)
def zeroAt (m : Mono) (D : List Int) (k : Nat) : Bool := decide (0 < m.ex k) && dimAt D k == 0
def valO (m : Mono) (D : List Int) : Option Int := if (List.range 6).any (zeroAt m D) then some 0 else prodK m D 6
theorem valO_zero {m : Mono} {D : List Int} {k : Nat} (hk : k < 6) (h : zeroAt m D k = true) : valO m D = some 0 := by
  unfold valO
  rw [if_pos (List.any_eq_true.2 ⟨k, List.mem_range.2 hk, h⟩)]
theorem valO_prod {m : Mono} {D : List Int} (h : ∀ k, k < 6 → zeroAt m D k = false) : valO m D = prodK m D 6 := by
  unfold valO
  rw [if_neg]
  rw [List.any_eq_true]
  rintro ⟨k, hk, hz⟩
  rw [h k (List.mem_range.1 hk)] at hz
  cases hz
theorem prodK_none {m : Mono} {D : List Int} : ∀ {j k : Nat}, k ≤ j → prodK m D k = none → prodK m D j = none
  | 0, k, h, hn => by obtain rfl : k = 0 := by omega
                      exact hn
  | j + 1, k, h, hn => by
    by_cases e : k = j + 1
    · rw [← e]; exact hn
    · rw [prodK, prodK_none (by omega : k ≤ j) hn]; rfl
theorem mul_fits {n d : Int} (h1 : 1 ≤ n) (hd : 1 ≤ d) (h : ¬ 4611686018427387904 / d < n) : 1 ≤ n * d ∧ n * d ≤ 4611686018427387904 := by
  have h2 : n ≤ 4611686018427387904 / d := by omega
  have h3 : n * d ≤ (4611686018427387904 / d) * d := Int.mul_le_mul_of_nonneg_right h2 (by omega)
  have h4 : (4611686018427387904 / d) * d ≤ 4611686018427387904 := Int.ediv_mul_le _ (by omega)
  have h5 : 1 * 1 ≤ n * d := Int.mul_le_mul h1 hd (by omega) (by omega)
  omega
theorem mulO_bd {d : Int} (hd : 1 ≤ d) : ∀ (e : Nat) {n x : Int}, 1 ≤ n → n ≤ 4611686018427387904 → mulO d e n = some x → 1 ≤ x ∧ x ≤ 4611686018427387904
  | 0, n, x, h1, h2, h => by cases h; exact ⟨h1, h2⟩
  | e + 1, n, x, h1, h2, h => by
    rw [mulO] at h
    split at h
    · cases h
    · rename_i hh
      have := mul_fits h1 hd hh
      exact mulO_bd hd e this.1 this.2 h

theorem ixm (m : Mono) (k : Nat) (hk : k < 6) (W : World) : (Instr.index 45 (.agg #[.int .u8 m.e0, .int .u8 m.e1, .int .u8 m.e2, .int .u8 m.e3, .int .u8 m.e4, .int .u8 m.e5]) (.int .i64 (k : Int))).run Try.prog W = .ok (.int .u8 (m.ex k)) W := by
  have hcs : k = 0 ∨ k = 1 ∨ k = 2 ∨ k = 3 ∨ k = 4 ∨ k = 5 := by omega
  rcases hcs with rfl | rfl | rfl | rfl | rfl | rfl
  · exact ix0 _ _ _ _ _ _ W
  · exact ix1 _ _ _ _ _ _ W
  · exact ix2 _ _ _ _ _ _ W
  · exact ix3 _ _ _ _ _ _ W
  · exact ix4 _ _ _ _ _ _ W
  · exact ix5 _ _ _ _ _ _ W
attribute [local go_sem] ixm
/-- six sides, in their box -/
def SixB (W : World) (z : Nat) (D : List Int) : Prop := W.heap[z]? = some (.cells (D.map (Value.int .i64)).toArray 166 (0, 0)) ∧ D.length = 6
theorem SixB.at {W : World} {z : Nat} {D : List Int} (h : SixB W z D) {k : Nat} (hk : k < 6) : W.cell? ⟨z, k, none⟩ = some (.int .i64 (dimAt D k)) := by
  rw [cell_of_row W z k _ _ _ h.1]
  unfold dimAt
  simp [List.getD_eq_getElem?_getD, List.getElem?_eq_getElem (show k < D.length by rw [h.2]; exact hk)]

def RetVal (o : Option Int) (w : World) (e : Ending) (w' : World) : Prop := e = .returned (.tuple #[.int .i64 (o.getD 0), .bool o.isSome]) ∧ Below w.heap.size w w'
set_option maxHeartbeats 16000000 in
theorem value_any (w : World) (m : Mono) (D : List Int) (hm : m.wf) (hs : smallB m = true) (hD : D.length = 6) (hd : ∀ x ∈ D, 0 ≤ x ∧ x ≤ 2147483648) :
    Calls Try.prog 147 #[m.V, .agg (D.map (Value.int .i64)).toArray] w (RetVal (valO m D) w) := by
  have hn : (m.n ≠ 0 ∧ m.n ≤ 16777216 ∧ -16777216 ≤ m.n) := by
    unfold smallB at hs
    simp only [Bool.and_eq_true, decide_eq_true_eq, bne_iff_ne] at hs
    exact ⟨hs.1.1.1, hs.1.1.2, hs.1.2⟩
  obtain ⟨hn0, hn1, hn2⟩ := hn
  have n0 := oldBlock (World.alloc_heap_new w (.cells m.enc.toArray 47)) (.cells (D.map (Value.int .i64)).toArray 166)
  have n1 := World.alloc_heap_new (w.alloc (.cells m.enc.toArray 47)) (.cells (D.map (Value.int .i64)).toArray 166)
  have hbel : Below w.heap.size w ((w.alloc (.cells m.enc.toArray 47)).alloc (.cells (D.map (Value.int .i64)).toArray 166)) := ((Below.refl _ _).alloc (Nat.le_refl _) _).alloc (by simp) _
  rw [show (w.alloc (.cells m.enc.toArray 47)).heap.size = w.heap.size + 1 from by simp] at n1
  obtain ⟨x, hx⟩ : ∃ x, w.heap.size = x := ⟨_, rfl⟩
  rw [hx] at n0 n1
  have hdk : ∀ k, 0 ≤ dimAt D k ∧ dimAt D k ≤ 2147483648 := fun k => by
    unfold dimAt
    rw [List.getD_eq_getElem?_getD]
    cases hc : D[k]? with
    | none => simp
    | some y => exact hd y (List.mem_of_getElem? hc)
  have N0 := Lib.hid n0; have N1 := Lib.hid (show SixB _ (x + 1) D from ⟨n1, hD⟩); have HB := Lib.hid hbel; have HM := Lib.hid hm; have HD := Lib.hid hdk
  clear n0 n1 hbel hm hs hD hd hdk
  unfold Mono.V
  go_enter Try.func147, Try.ntmps147
  go_upto_region 1 with fail
  refine gen_worldA (fun W => Below w.heap.size w W ∧ W.heap[x]? = some (.cells m.enc.toArray 47 (0, 0)) ∧ SixB W (x + 1) D) ⟨HB.out, N0.out, N1.out⟩ ?_
  rintro W ⟨hbW, g0, g1⟩
  have y0 : W.cell? ⟨x, 0, none⟩ = some (.int .i64 m.n) := blockCells g0 0
  have y1 : W.cell? ⟨x, 1, none⟩ = some (.int .u8 m.e0) := blockCells g0 1
  have y2 : W.cell? ⟨x, 2, none⟩ = some (.int .u8 m.e1) := blockCells g0 2
  have y3 : W.cell? ⟨x, 3, none⟩ = some (.int .u8 m.e2) := blockCells g0 3
  have y4 : W.cell? ⟨x, 4, none⟩ = some (.int .u8 m.e3) := blockCells g0 4
  have y5 : W.cell? ⟨x, 5, none⟩ = some (.int .u8 m.e4) := blockCells g0 5
  have y6 : W.cell? ⟨x, 6, none⟩ = some (.int .u8 m.e5) := blockCells g0 6
  have HBW := Lib.hid hbW; have G1 := Lib.hid g1
  clear hbW g0 g1 N0 N1 HB hx
  have Y1 := Lib.hid y1; have Y2 := Lib.hid y2; have Y3 := Lib.hid y3; have Y4 := Lib.hid y4; have Y5 := Lib.hid y5; have Y6 := Lib.hid y6
  by_cases hpos : 0 < m.n
  · have hm0 : decide (m.n < -m.n) = false := by simp; omega
    have hm1 : -m.n ≤ m.n := by omega
    have HP0 : Hid (prodK m D 0 = some m.n) := Lib.hid (by unfold prodK; rw [Int.max_eq_left (by omega)])
    have HN0 : Hid (1 ≤ m.n ∧ m.n ≤ 4611686018427387904) := Lib.hid (by omega)
    go_upto_region 2 with fail
    clear y0 hm0 hm1
    go_wp2_with fail
    clear y1 y2 y3 y4 y5 y6
    go_loop [19] (fun i => ∃ k : Nat, k ≤ 6 ∧ i = .int .i64 k ∧ ∀ j, j < k → zeroAt m D j = false) (fun i => 6 - (intOf i).toNat)
    case atStart => exact ⟨0, by omega, rfl, fun j h => absurd h (Nat.not_lt_zero j)⟩
    case round =>
      obtain ⟨k, hk, rfl, hall⟩ := hrel
      have HALL := Lib.hid hall
      clear hall
      have hz0 : (0 : Int) ≤ (k : Int) := by omega
      by_cases hlt : k < 6
      · have hc := G1.out.at hlt
        obtain ⟨he0, he1⟩ := ex_at HM.out k
        have hz1 : (k : Int) < 6 := by omega
        by_cases hep : 0 < m.ex k
        · by_cases hd0 : dimAt D k = 0
          · have HV := Lib.hid (valO_zero hlt (show zeroAt m D k = true from by unfold zeroAt; rw [decide_eq_true hep, hd0]; rfl))
            rw [hd0] at hc
            clear hd0
            go_wp2_with fail
            go_ret2
            exact ⟨by rw [HV.out]; rfl, HBW.out⟩
          · have hd0' : (dimAt D k == 0) = false := by simpa using hd0
            have HZ := Lib.hid (show zeroAt m D k = false from by unfold zeroAt; rw [hd0', Bool.and_false])
            clear hd0
            go_wp2_with fail
            go_round
            case rel => exact ⟨k + 1, by omega, by go_num, fun j hj => by
              by_cases e : j = k
              · rw [e]; exact HZ.out
              · exact HALL.out j (by omega)⟩
            case measure => simp [intOf]; omega
        · have hep' : decide (0 < m.ex k) = false := by simpa using hep
          have HZ := Lib.hid (show zeroAt m D k = false from by unfold zeroAt; rw [hep', Bool.false_and])
          clear hep
          go_wp2_with fail
          go_round
          case rel => exact ⟨k + 1, by omega, by go_num, fun j hj => by
            by_cases e : j = k
            · rw [e]; exact HZ.out
            · exact HALL.out j (by omega)⟩
          case measure => simp [intOf]; omega
      · obtain rfl : k = 6 := by omega
        have HV := Lib.hid (valO_prod (m := m) (D := D) HALL.out)
        have y1 := Y1.out; have y2 := Y2.out; have y3 := Y3.out; have y4 := Y4.out; have y5 := Y5.out; have y6 := Y6.out
        go_wp2_with fail
        clear y1 y2 y3 y4 y5 y6
        go_loop [6, 34] (fun n i => ∃ (k : Nat) (v : Int), k ≤ 6 ∧ i = .int .i64 k ∧ n = .int .i64 v ∧ prodK m D k = some v ∧ 1 ≤ v ∧ v ≤ 4611686018427387904) (fun _ i => 6 - (intOf i).toNat)
        case atStart => exact ⟨0, m.n, by omega, rfl, rfl, HP0.out, HN0.out.1, HN0.out.2⟩
        case round =>
          obtain ⟨k, v, hk, rfl, rfl, hp, hv0, hv1⟩ := hrel
          have HP := Lib.hid hp
          clear hp
          have hz0 : (0 : Int) ≤ (k : Int) := by omega
          by_cases hlt : k < 6
          · have hc := G1.out.at hlt
            obtain ⟨he0, he1⟩ := ex_at HM.out k
            have hz1 : (k : Int) < 6 := by omega
            have HS := Lib.hid (show prodK m D (k + 1) = mulO (dimAt D k) (m.ex k).toNat v from by rw [prodK, HP.out]; rfl)
            have hdz := HALL.out k hlt
            obtain ⟨hd0, hd1⟩ := HD.out k
            have hdd : 0 < m.ex k → 0 < dimAt D k := fun h => by
              unfold zeroAt at hdz
              rw [decide_eq_true h, Bool.true_and] at hdz
              have : dimAt D k ≠ 0 := by simpa using hdz
              omega
            obtain ⟨E, hE⟩ := Int.eq_ofNat_of_zero_le he0
            have HEE := Lib.hid hE; have HDD := Lib.hid hdd
            clear hdz hdd
            go_wp2_with fail
            clear hE
            go_loop [6, 39] (fun n j => ∃ (q : Nat) (u : Int), q ≤ E ∧ j = .int .u8 q ∧ n = .int .i64 u ∧ mulO (dimAt D k) E v = mulO (dimAt D k) (E - q) u ∧ 1 ≤ u ∧ u ≤ 4611686018427387904) (fun _ j => E - (intOf j).toNat)
            case atStart => exact ⟨0, v, Nat.zero_le _, rfl, rfl, rfl, hv0, hv1⟩
            case round =>
              obtain ⟨q, u, hq, rfl, rfl, hmq, hu0, hu1⟩ := hrel
              have HMQ := Lib.hid hmq
              clear hmq
              by_cases hql : q < E
              · have hdp : 0 < dimAt D k := HDD.out (by rw [HEE.out]; omega)
                have hzq : (0 : Int) ≤ (q : Int) := by omega
                have hzq1 : (q : Int) < (E : Int) := by omega
                have hzq2 : (q : Int) + 1 ≤ 255 := by have := HEE.out; omega
                have hquo : (0 : Int) ≤ 4611686018427387904 / dimAt D k := Int.ediv_nonneg (by decide) (by omega)
                have hstep : mulO (dimAt D k) (E - q) u = if 4611686018427387904 / dimAt D k < u then none else mulO (dimAt D k) (E - (q + 1)) (u * dimAt D k) := by rw [show E - q = (E - (q + 1)) + 1 from by omega, mulO]
                by_cases hgt : 4611686018427387904 / dimAt D k < u
                · have hnone : prodK m D (k + 1) = none := by rw [HS.out, HEE.out, Int.toNat_natCast, HMQ.out, hstep, if_pos hgt]
                  have HV2 := Lib.hid (HV.out.trans (prodK_none (by omega) hnone))
                  clear hstep hnone
                  go_wp2_with fail
                  go_ret2
                  exact ⟨by rw [HV2.out]; rfl, HBW.out⟩
                · have hgt' : decide (4611686018427387904 / dimAt D k < u) = false := by simpa using hgt
                  obtain ⟨hm0, hm1⟩ := mul_fits hu0 (by omega) hgt
                  rw [if_neg hgt] at hstep
                  have HST := Lib.hid hstep
                  clear hstep hgt
                  go_wp2_with fail
                  go_round
                  case rel => exact ⟨q + 1, u * dimAt D k, by omega, by go_num, rfl, HMQ.out.trans HST.out, hm0, hm1⟩
                  case measure => simp [intOf]; omega
              · obtain rfl : q = E := by omega
                have HN := Lib.hid (show prodK m D (k + 1) = some u from by rw [HS.out, HEE.out, Int.toNat_natCast, HMQ.out, Nat.sub_self, mulO])
                go_wp2_with fail
                go_round
                case rel => exact ⟨k + 1, u, by omega, by go_num, rfl, HN.out, hu0, hu1⟩
                case measure => simp [intOf]; omega
          · obtain rfl : k = 6 := by omega
            have HV2 := Lib.hid (HV.out.trans HP.out)
            go_wp2_with fail
            go_ret2
            exact ⟨by rw [HV2.out]; rfl, HBW.out⟩
  · have hm0 : m.n < -m.n := by omega
    have hm1 : m.n ≤ -m.n := by omega
    have HP0 : Hid (prodK m D 0 = some (-m.n)) := Lib.hid (by unfold prodK; rw [Int.max_eq_right (by omega)])
    have HN0 : Hid (1 ≤ -m.n ∧ -m.n ≤ 4611686018427387904) := Lib.hid (by omega)
    go_upto_region 2 with fail
    clear y0 hm0 hm1
    go_wp2_with fail
    clear y1 y2 y3 y4 y5 y6
    go_loop [19] (fun i => ∃ k : Nat, k ≤ 6 ∧ i = .int .i64 k ∧ ∀ j, j < k → zeroAt m D j = false) (fun i => 6 - (intOf i).toNat)
    case atStart => exact ⟨0, by omega, rfl, fun j h => absurd h (Nat.not_lt_zero j)⟩
    case round =>
      obtain ⟨k, hk, rfl, hall⟩ := hrel
      have HALL := Lib.hid hall
      clear hall
      have hz0 : (0 : Int) ≤ (k : Int) := by omega
      by_cases hlt : k < 6
      · have hc := G1.out.at hlt
        obtain ⟨he0, he1⟩ := ex_at HM.out k
        have hz1 : (k : Int) < 6 := by omega
        by_cases hep : 0 < m.ex k
        · by_cases hd0 : dimAt D k = 0
          · have HV := Lib.hid (valO_zero hlt (show zeroAt m D k = true from by unfold zeroAt; rw [decide_eq_true hep, hd0]; rfl))
            rw [hd0] at hc
            clear hd0
            go_wp2_with fail
            go_ret2
            exact ⟨by rw [HV.out]; rfl, HBW.out⟩
          · have hd0' : (dimAt D k == 0) = false := by simpa using hd0
            have HZ := Lib.hid (show zeroAt m D k = false from by unfold zeroAt; rw [hd0', Bool.and_false])
            clear hd0
            go_wp2_with fail
            go_round
            case rel => exact ⟨k + 1, by omega, by go_num, fun j hj => by
              by_cases e : j = k
              · rw [e]; exact HZ.out
              · exact HALL.out j (by omega)⟩
            case measure => simp [intOf]; omega
        · have hep' : decide (0 < m.ex k) = false := by simpa using hep
          have HZ := Lib.hid (show zeroAt m D k = false from by unfold zeroAt; rw [hep', Bool.false_and])
          clear hep
          go_wp2_with fail
          go_round
          case rel => exact ⟨k + 1, by omega, by go_num, fun j hj => by
            by_cases e : j = k
            · rw [e]; exact HZ.out
            · exact HALL.out j (by omega)⟩
          case measure => simp [intOf]; omega
      · obtain rfl : k = 6 := by omega
        have HV := Lib.hid (valO_prod (m := m) (D := D) HALL.out)
        have y1 := Y1.out; have y2 := Y2.out; have y3 := Y3.out; have y4 := Y4.out; have y5 := Y5.out; have y6 := Y6.out
        go_wp2_with fail
        clear y1 y2 y3 y4 y5 y6
        go_loop [6, 34] (fun n i => ∃ (k : Nat) (v : Int), k ≤ 6 ∧ i = .int .i64 k ∧ n = .int .i64 v ∧ prodK m D k = some v ∧ 1 ≤ v ∧ v ≤ 4611686018427387904) (fun _ i => 6 - (intOf i).toNat)
        case atStart => exact ⟨0, -m.n, by omega, rfl, rfl, HP0.out, HN0.out.1, HN0.out.2⟩
        case round =>
          obtain ⟨k, v, hk, rfl, rfl, hp, hv0, hv1⟩ := hrel
          have HP := Lib.hid hp
          clear hp
          have hz0 : (0 : Int) ≤ (k : Int) := by omega
          by_cases hlt : k < 6
          · have hc := G1.out.at hlt
            obtain ⟨he0, he1⟩ := ex_at HM.out k
            have hz1 : (k : Int) < 6 := by omega
            have HS := Lib.hid (show prodK m D (k + 1) = mulO (dimAt D k) (m.ex k).toNat v from by rw [prodK, HP.out]; rfl)
            have hdz := HALL.out k hlt
            obtain ⟨hd0, hd1⟩ := HD.out k
            have hdd : 0 < m.ex k → 0 < dimAt D k := fun h => by
              unfold zeroAt at hdz
              rw [decide_eq_true h, Bool.true_and] at hdz
              have : dimAt D k ≠ 0 := by simpa using hdz
              omega
            obtain ⟨E, hE⟩ := Int.eq_ofNat_of_zero_le he0
            have HEE := Lib.hid hE; have HDD := Lib.hid hdd
            clear hdz hdd
            go_wp2_with fail
            clear hE
            go_loop [6, 39] (fun n j => ∃ (q : Nat) (u : Int), q ≤ E ∧ j = .int .u8 q ∧ n = .int .i64 u ∧ mulO (dimAt D k) E v = mulO (dimAt D k) (E - q) u ∧ 1 ≤ u ∧ u ≤ 4611686018427387904) (fun _ j => E - (intOf j).toNat)
            case atStart => exact ⟨0, v, Nat.zero_le _, rfl, rfl, rfl, hv0, hv1⟩
            case round =>
              obtain ⟨q, u, hq, rfl, rfl, hmq, hu0, hu1⟩ := hrel
              have HMQ := Lib.hid hmq
              clear hmq
              by_cases hql : q < E
              · have hdp : 0 < dimAt D k := HDD.out (by rw [HEE.out]; omega)
                have hzq : (0 : Int) ≤ (q : Int) := by omega
                have hzq1 : (q : Int) < (E : Int) := by omega
                have hzq2 : (q : Int) + 1 ≤ 255 := by have := HEE.out; omega
                have hquo : (0 : Int) ≤ 4611686018427387904 / dimAt D k := Int.ediv_nonneg (by decide) (by omega)
                have hstep : mulO (dimAt D k) (E - q) u = if 4611686018427387904 / dimAt D k < u then none else mulO (dimAt D k) (E - (q + 1)) (u * dimAt D k) := by rw [show E - q = (E - (q + 1)) + 1 from by omega, mulO]
                by_cases hgt : 4611686018427387904 / dimAt D k < u
                · have hnone : prodK m D (k + 1) = none := by rw [HS.out, HEE.out, Int.toNat_natCast, HMQ.out, hstep, if_pos hgt]
                  have HV2 := Lib.hid (HV.out.trans (prodK_none (by omega) hnone))
                  clear hstep hnone
                  go_wp2_with fail
                  go_ret2
                  exact ⟨by rw [HV2.out]; rfl, HBW.out⟩
                · have hgt' : decide (4611686018427387904 / dimAt D k < u) = false := by simpa using hgt
                  obtain ⟨hm0, hm1⟩ := mul_fits hu0 (by omega) hgt
                  rw [if_neg hgt] at hstep
                  have HST := Lib.hid hstep
                  clear hstep hgt
                  go_wp2_with fail
                  go_round
                  case rel => exact ⟨q + 1, u * dimAt D k, by omega, by go_num, rfl, HMQ.out.trans HST.out, hm0, hm1⟩
                  case measure => simp [intOf]; omega
              · obtain rfl : q = E := by omega
                have HN := Lib.hid (show prodK m D (k + 1) = some u from by rw [HS.out, HEE.out, Int.toNat_natCast, HMQ.out, Nat.sub_self, mulO])
                go_wp2_with fail
                go_round
                case rel => exact ⟨k + 1, u, by omega, by go_num, rfl, HN.out, hu0, hu1⟩
                case measure => simp [intOf]; omega
          · obtain rfl : k = 6 := by omega
            have HV2 := Lib.hid (HV.out.trans HP.out)
            go_wp2_with fail
            go_ret2
            exact ⟨by rw [HV2.out]; rfl, HBW.out⟩
end Go.Proofs.Ytmlfeocdcjhhaaa

-- DROPS
namespace Go.Proofs.Ytmlfeocdcjhhaaa
set_option maxRecDepth 100000
open Go.RowKit
set_option linter.unusedVariables false
set_option linter.unusedSimpArgs false
attribute [local go_sem ↓] Go.wp_at_zero Go.wp_at_succ

theorem boxX {w : World} {G : Nat} {m : Mono} {t : TypeId} (h : w.heap[G]? = some (.cells m.enc.toArray t (0, 0))) {k : Nat} (hk : k < 6) : w.cell? ⟨G, 1 + k, none⟩ = some (.int .u8 (m.ex k)) := boxE h hk
theorem dimAt_out {D : List Int} {k : Nat} (h : D.length ≤ k) : dimAt D k = 0 := by unfold dimAt; simp [List.getD_eq_getElem?_getD, List.getElem?_eq_none h]
theorem dimAt_in {D : List Int} {k : Nat} (h : k < D.length) : dimAt D k = D[k] := by unfold dimAt; simp [List.getD_eq_getElem?_getD, List.getElem?_eq_getElem h]
/-- what the reference says of a value -/
def sizeI (o : Option Int) : Int := o.getD 4611686018427387905
end Go.Proofs.Ytmlfeocdcjhhaaa
