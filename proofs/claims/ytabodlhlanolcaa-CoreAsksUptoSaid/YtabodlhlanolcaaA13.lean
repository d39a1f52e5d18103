import Derived.Test.YtabodlhlanolcaaA12
namespace Go.Proofs.Ytabodlhlanolcaa
set_option maxRecDepth 100000
open Go.RowKit
set_option linter.unusedVariables false
set_option linter.unusedSimpArgs false
attribute [local go_sem ↓] Go.wp_at_zero Go.wp_at_succ

/-- no variable from V on -/
def freeB (V : Nat) (m : Mono) : Bool := (List.range 6).all fun k => decide (k < V) || decide (m.ex k ≤ 0)
def ownB (V : Nat) (p : List Mono) : Bool := polyB p && p.all (freeB V)
theorem free_bad {V : Nat} {m : Mono} {k : Nat} (hk : k < 6) (hV : V ≤ k) (h : 0 < m.ex k) : freeB V m = false := by
  unfold freeB
  exact List.all_eq_false.2 ⟨k, List.mem_range.2 hk, by simp; omega⟩
theorem free_good {V : Nat} {m : Mono} (h : ∀ k, k < 6 → V ≤ k → m.ex k ≤ 0) : freeB V m = true := by
  unfold freeB
  exact List.all_eq_true.2 fun k hk => by
    have hk := List.mem_range.1 hk
    by_cases hV : k < V
    · simp [hV]
    · simp [hV, h k hk (by omega)]
theorem own_bad {V : Nat} {p : List Mono} {i : Nat} (hi : i < p.length) (h : freeB V p[i] = false) : ownB V p = false := by
  unfold ownB
  rw [show p.all (freeB V) = false from List.all_eq_false.2 ⟨_, List.getElem_mem hi, by simp [h]⟩, Bool.and_false]
theorem own_good {V : Nat} {p : List Mono} (h : ∀ i, (hi : i < p.length) → freeB V p[i] = true) : ownB V p = polyB p := by
  unfold ownB
  rw [show p.all (freeB V) = true from List.all_eq_true.2 fun m hm => by
    obtain ⟨i, hi, rfl⟩ := List.getElem_of_mem hm
    exact h i hi, Bool.and_true]
theorem els_ex {w : World} {a : Option Addr} {p : List Mono} (h : monoRep.Els w a p) {i k : Nat} (hi : i < p.length) (hk : k < 6) : ∃ b off, a = some ⟨b, off, none⟩ ∧ w.cell? ⟨b, off + i * 7 + 1 + k, none⟩ = some (.int .u8 (p[i].ex k)) := by
  obtain ⟨b, off, cs, e, ⟨rfl, hw⟩, hc⟩ := h i hi
  refine ⟨b, off, e, ?_⟩
  have := hc (1 + k) (.int .u8 (p[i].ex k)) (by
    have hcs : k = 0 ∨ k = 1 ∨ k = 2 ∨ k = 3 ∨ k = 4 ∨ k = 5 := by omega
    rcases hcs with rfl | rfl | rfl | rfl | rfl | rfl <;> rfl)
  rw [show off + i * 7 + 1 + k = off + i * monoRep.n + (1 + k) from by show off + i * 7 + 1 + k = off + i * 7 + (1 + k); omega]
  exact this

set_option maxHeartbeats 8000000 in
theorem rown_any (w : World) (a : Option Addr) (c : Nat) (p : List Mono) (V : Nat) (hV : V ≤ 6) (h : monoRep.Els w a p) (hm : p.length ≤ 9223372036854775807) :
    Calls Try.prog 46 #[.slice a p.length c, .int .i64 (V : Int)] w fun e w' => e = .returned (.bool (ownB V p)) ∧ Below w.heap.size w w' := by
  have hr := rright_any w a c p h hm
  cases hp : polyB p with
  | false =>
    have HG := Lib.hid (show ownB V p = false from by unfold ownB; rw [hp]; rfl)
    rw [hp] at hr
    have HR := Lib.hid hr
    clear hr hp h
    go_enter Try.func46, Try.ntmps46
    go_wp2_with (go_at_call 60; refine HR.out.mono ?_; rintro e w1 ⟨rfl, hb1⟩)
    go_ret
    exact ⟨ret_bool HG.out.symm, hb1⟩
  | true =>
    rw [hp] at hr
    have HR := Lib.hid hr; have HE := Lib.hid h; have HP := Lib.hid hp; have HWF := Lib.hid (wf_mono h)
    clear hr hp h
    go_enter Try.func46, Try.ntmps46
    go_wp2_with (go_at_call 60; refine HR.out.mono ?_; rintro e w1 ⟨rfl, hb1⟩)
    have HB := Lib.hid hb1
    clear hb1 HR
    go_loop [5] (fun i => ∃ k : Nat, k ≤ p.length ∧ i = .int .i64 k ∧ (∀ j, (hj : j < p.length) → j < k → freeB V p[j] = true)) (fun i => p.length - (intOf i).toNat)
    case atStart => exact ⟨0, Nat.zero_le _, rfl, fun j _ h => absurd h (Nat.not_lt_zero j)⟩
    case round =>
      obtain ⟨i, hi, rfl, hall⟩ := hrel
      have HALL := Lib.hid hall
      clear hall
      have hz0 : (0 : Int) ≤ (i : Int) := by omega
      by_cases hlt : i < p.length
      · have hz1 : (i : Int) < (p.length : Int) := by omega
        go_wp2_with fail
        go_loop [6] (fun t => ∃ k : Nat, V ≤ k ∧ k ≤ 6 ∧ t = .int .i64 k ∧ (∀ j, j < k → V ≤ j → p[i].ex j ≤ 0)) (fun t => 6 - (intOf t).toNat)
        case atStart => exact ⟨V, Nat.le_refl _, hV, rfl, fun j h1 h2 => by omega⟩
        case round =>
          obtain ⟨k, hVk, hk6, rfl, hfr⟩ := hrel
          have HFR := Lib.hid hfr
          clear hfr
          have hk0 : (0 : Int) ≤ (k : Int) := by omega
          by_cases hk : k < 6
          · obtain ⟨b, off, rfl, x0⟩ := els_ex (HE.out.below monoRep HB.out (Nat.le_refl _)) hlt hk
            have hk1 : (k : Int) < 6 := by omega
            obtain ⟨e, he⟩ : ∃ e, p[i].ex k = e := ⟨_, rfl⟩
            rw [he] at x0
            by_cases hpos : 0 < e
            · have HG := Lib.hid (own_bad hlt (free_bad (m := p[i]) hk hVk (by rw [he]; exact hpos)))
              clear he
              go_wp2_with fail
              go_ret
              exact ⟨ret_bool HG.out.symm, HB.out⟩
            · have hpos' : decide (0 < e) = false := by simpa using hpos
              have HEE := Lib.hid (show p[i].ex k ≤ 0 from by rw [he]; omega)
              clear he hpos
              go_wp2_with fail
              go_round
              case rel => exact ⟨k + 1, by omega, by omega, by go_num, fun j h1 h2 => by
                by_cases ej : j = k
                · rw [ej]; exact HEE.out
                · exact HFR.out j (by omega) h2⟩
              case measure => simp [intOf]; omega
          · have HF := Lib.hid (free_good (V := V) (m := p[i]) (fun j hj hVj => HFR.out j (by omega) hVj))
            go_wp2_with fail
            go_round
            case rel => exact ⟨i + 1, by omega, by go_num, fun j hj h => by
              by_cases ej : j = i
              · subst ej; exact HF.out
              · exact HALL.out j hj (by omega)⟩
            case measure => simp [intOf]; omega
      · have HG := Lib.hid ((own_good (V := V) (p := p) (fun j hj => HALL.out j hj (by omega))).trans HP.out)
        go_wp2_with fail
        go_ret
        exact ⟨ret_bool HG.out.symm, HB.out⟩

set_option maxHeartbeats 8000000 in
theorem of_any (w : World) (a : Option Addr) (c : Nat) (p : List Mono) (V : Nat) (hV : V ≤ 6) (h : monoRep.Els w a p) (hm : p.length ≤ 9223372036854775807) :
    Calls Try.prog 41 #[.slice a p.length c, .int .i64 (V : Int)] w fun e w' => e = .returned (.bool (ownB V p)) ∧ Below w.heap.size w w' := by
  have hr := fun W (hb : Below w.heap.size w W) => right_any W a c p (h.below monoRep hb (Nat.le_refl _)) hm
  have HR := Lib.hid hr; have HE := Lib.hid h; have HWF := Lib.hid (wf_mono h)
  clear hr h
  have hv0 : (0 : Int) ≤ (V : Int) := by omega
  have hv6 : (V : Int) ≤ 6 := by omega
  have hvd : decide ((V : Int) < 0) = false := by simp
  go_enter Try.func41, Try.ntmps41
  go_wp2_with fail
  go_loopw [11] (fun i wr => ∃ k : Nat, k ≤ p.length ∧ i = .int .i64 k ∧ (∀ j, (hj : j < p.length) → j < k → freeB V p[j] = true) ∧ Below w.heap.size w wr) (fun i _ => p.length - (intOf i).toNat)
  case atStart => exact ⟨0, Nat.zero_le _, rfl, fun j _ h => absurd h (Nat.not_lt_zero j), Below.refl _ _⟩
  case round =>
    obtain ⟨i, hi, rfl, hall, hB⟩ := hrel
    have HALL := Lib.hid hall; have HB := Lib.hid hB
    clear hall hB
    have hz0 : (0 : Int) ≤ (i : Int) := by omega
    by_cases hlt : i < p.length
    · obtain ⟨b, off, rfl, hw, x0, x1, x2, x3, x4, x5, x6⟩ := els_mono (HE.out.below monoRep HB.out (Nat.le_refl _)) hlt
      have hz1 : (i : Int) < (p.length : Int) := by omega
      have hn0 := World.alloc_heap_new wr (.cells p[i].enc.toArray 39)
      obtain ⟨z, hz⟩ : ∃ z, wr.heap.size = z := ⟨_, rfl⟩
      rw [hz] at hn0
      have hbw : Below w.heap.size w (wr.alloc (.cells p[i].enc.toArray 39)) := HB.out.alloc HB.out.size _
      have HN0 := Lib.hid hn0; have HBW := Lib.hid hbw
      clear hn0 hbw hw
      go_upto_region 4 with fail
      refine gen_worldA (fun W => Below w.heap.size w W ∧ W.heap[z]? = some (.cells p[i].enc.toArray 39 (0, 0))) ⟨HBW.out, HN0.out⟩ ?_
      clear HN0 HBW x0 x1 x2 x3 x4 x5 x6 HB hz
      rintro W ⟨hbW, g0⟩
      have HB := Lib.hid hbW; have G0 := Lib.hid g0
      clear hbW g0
      by_cases hV6 : V = 6
      · have HF := Lib.hid (free_good (V := V) (m := p[i]) (fun j h1 h2 => by omega))
        subst hV6
        go_wp2_with fail
        go_loop [21] (fun t => t = .int .i64 0) (fun _ => 0)
        case atStart => rfl
        case round =>
          subst hrel
          go_wp2_with fail
          go_roundw
          case rel => exact ⟨i + 1, by omega, by go_num, fun j hj h => by
            by_cases ej : j = i
            · subst ej; exact HF.out
            · exact HALL.out j hj (by omega), HB.out⟩
          case measure => simp [intOf]; omega
      · have h6 : ¬ 6 = V := fun e => hV6 e.symm
        clear hV6
        go_wp2_with fail
        go_loop [8, 21] (fun _ t => ∃ k : Nat, V + k ≤ 6 ∧ t = .int .i64 k ∧ ∀ j, j < k → p[i].ex (V + j) ≤ 0) (fun _ t => 6 - (intOf t).toNat)
        case atStart => exact ⟨0, by omega, rfl, fun j h => absurd h (Nat.not_lt_zero j)⟩
        case round =>
          obtain ⟨k, hk6, rfl, hfr⟩ := hrel
          have HFR := Lib.hid hfr
          clear hfr
          have hk0 : (0 : Int) ≤ (k : Int) := by omega
          by_cases hk : V + k < 6
          · have x0 := boxX G0.out hk
            rw [← Nat.add_assoc] at x0
            have hk1 : (k : Int) < 6 - (V : Int) := by omega
            have hk2 : k < 6 - V := by omega
            obtain ⟨e, he⟩ : ∃ e, p[i].ex (V + k) = e := ⟨_, rfl⟩
            rw [he] at x0
            by_cases hpos : 0 < e
            · have HG := Lib.hid (own_bad hlt (free_bad (m := p[i]) hk (Nat.le_add_right V k) (by rw [he]; exact hpos)))
              clear he
              go_wp2_with fail
              go_ret
              exact ⟨ret_bool HG.out.symm, HB.out⟩
            · have hpos' : decide (0 < e) = false := by simpa using hpos
              have HEE := Lib.hid (show p[i].ex (V + k) ≤ 0 from by rw [he]; omega)
              clear he hpos
              go_wp2_with fail
              go_round
              case rel => exact ⟨k + 1, by omega, by go_num, fun j h1 => by
                by_cases ej : j = k
                · rw [ej]; exact HEE.out
                · exact HFR.out j (by omega)⟩
              case measure => simp [intOf]; omega
          · have HF := Lib.hid (free_good (V := V) (m := p[i]) (fun j hj hVj => by
              have := HFR.out (j - V) (by omega)
              rwa [show V + (j - V) = j from by omega] at this))
            have hk1 : ¬ ((k : Int) < 6 - (V : Int)) := by omega
            have hk2 : ¬ (k < 6 - V) := by omega
            go_wp2_with fail
            go_roundw
            case rel => exact ⟨i + 1, by omega, by go_num, fun j hj h => by
              by_cases ej : j = i
              · subst ej; exact HF.out
              · exact HALL.out j hj (by omega), HB.out⟩
            case measure => simp [intOf]; omega
    · have HG := Lib.hid (own_good (V := V) (p := p) (fun j hj => HALL.out j hj (by omega)))
      go_wp2_with fail
      refine (HR.out _ HB.out).mono ?_
      rintro e w1 ⟨rfl, hb1⟩
      go_wp2_with fail
      go_ret
      exact ⟨ret_bool HG.out.symm, bNext hb1 HB.out⟩
end Go.Proofs.Ytabodlhlanolcaa
