import Derived.Test.YtabodlhlanolcaaA5
namespace Go.Proofs.Ytabodlhlanolcaa
set_option maxRecDepth 100000
open Go.RowKit
set_option linter.unusedVariables false
set_option linter.unusedSimpArgs false
attribute [local go_sem ↓] Go.wp_at_zero Go.wp_at_succ

/-- a polynomial without a factor below 0? -/
def growsB (p : List Mono) : Bool := polyB p && !(p.any fun m => decide (m.n < 0))

theorem grows1_any (w : World) (x : Mono) (hx : x.wf) : Calls Try.prog 59 #[x.V] w fun e w' => e = .returned (.bool (decide (x.n < 0))) ∧ Below w.heap.size w w' := by
  clear hx
  unfold Mono.V
  go_enter Try.func59, Try.ntmps59
  go_wp2
  go_ret
  exact ⟨rfl, (Below.refl _ _).alloc (Nat.le_refl _) _⟩
theorem grows1_in (args : Array Value) (w : World) : (callFunc 59 args).run Try.prog w = .ok (.enter 59 args) w := callFunc_enter Try.func59 (by kernel_rfl) rfl args w
set_option maxHeartbeats 4000000 in
theorem grows_any (w : World) (a : Option Addr) (c : Nat) (p : List Mono) (h : monoRep.Els w a p) (hm : p.length ≤ 9223372036854775807) :
    Calls Try.prog 42 #[.slice a p.length c] w fun e w' => e = .returned (.bool (growsB p)) ∧ Below w.heap.size w w' := by
  have hr := right_any w a c p h hm
  have hcf := fun W (hb : Below w.heap.size w W) => containsFuncM W a c p 59 _ grows1_in (by unfold maxLen; omega) (h.below monoRep hb (Nat.le_refl _)) (fun x hx w' => grows1_any w' x hx)
  have HCF := Lib.hid hcf
  clear hcf h
  cases hp : polyB p with
  | false =>
    have hg : growsB p = false := by unfold growsB; rw [hp]; rfl
    rw [hp] at hr
    have HR := Lib.hid hr; have HG := Lib.hid hg
    clear hr hg hp
    go_enter Try.func42, Try.ntmps42
    go_wp2_with (go_at_call 57; refine HR.out.mono ?_; rintro e w1 ⟨rfl, hb1⟩)
    go_ret
    exact ⟨ret_bool HG.out.symm, hb1⟩
  | true =>
    have hg : growsB p = !(p.any fun m => decide (m.n < 0)) := by unfold growsB; rw [hp]; rfl
    rw [hp] at hr
    have HR := Lib.hid hr; have HG := Lib.hid hg
    clear hr hg hp
    go_enter Try.func42, Try.ntmps42
    go_wp2_with fail
    refine HR.out.mono ?_
    rintro e w1 ⟨rfl, hb1⟩
    go_wp2_with fail
    refine (HCF.out _ hb1).mono ?_
    rintro e w2 ⟨rfl, hb2⟩
    go_wp2_with fail
    go_ret
    exact ⟨ret_bool HG.out.symm, bNext hb2 hb1⟩
theorem growsB_neg {p : List Mono} {k : Nat} (hk : k < p.length) (h : p[k].n < 0) : growsB p = false := by
  unfold growsB
  rw [show (p.any fun m => decide (m.n < 0)) = true from List.any_eq_true.2 ⟨_, List.getElem_mem hk, by simpa using h⟩]
  simp
theorem growsB_pos {p : List Mono} (h : ∀ k, (hk : k < p.length) → ¬ p[k].n < 0) : growsB p = polyB p := by
  unfold growsB
  rw [show (p.any fun m => decide (m.n < 0)) = false from List.any_eq_false.2 fun x hx => by
    obtain ⟨k, hk, rfl⟩ := List.getElem_of_mem hx
    simpa using h k hk]
  simp
set_option maxHeartbeats 4000000 in
theorem rgrows_any (w : World) (a : Option Addr) (c : Nat) (p : List Mono) (h : monoRep.Els w a p) (hm : p.length ≤ 9223372036854775807) :
    Calls Try.prog 47 #[.slice a p.length c] w fun e w' => e = .returned (.bool (growsB p)) ∧ Below w.heap.size w w' := by
  have hr := rright_any w a c p h hm
  have HR := Lib.hid hr; have HE := Lib.hid h
  clear hr h
  go_enter Try.func47, Try.ntmps47
  go_wp2_with fail
  go_loop [3] (fun i => ∃ k : Nat, k ≤ p.length ∧ i = .int .i64 k ∧ (∀ j, (hj : j < p.length) → j < k → ¬ p[j].n < 0)) (fun i => p.length - (intOf i).toNat)
  case atStart => exact ⟨0, Nat.zero_le _, rfl, fun j _ h => absurd h (Nat.not_lt_zero j)⟩
  case round =>
    obtain ⟨k, hk, rfl, hall⟩ := hrel
    have HALL := Lib.hid hall
    clear hall
    by_cases hlt : k < p.length
    · obtain ⟨b, off, rfl, hw, x0, -⟩ := els_mono HE.out hlt
      have hz0 : (0 : Int) ≤ (k : Int) := by omega
      have hz1 : (k : Int) < (p.length : Int) := by omega
      clear hw
      by_cases hn : p[k].n < 0
      · have HG := Lib.hid (growsB_neg hlt hn)
        go_wp2_with fail
        go_ret
        exact ⟨ret_bool HG.out.symm, Below.refl _ _⟩
      · have hn' : decide (p[k].n < 0) = false := by simpa using hn
        have HN := Lib.hid hn; clear hn
        go_wp2_with fail
        go_round
        case rel => exact ⟨k + 1, by omega, by go_num, fun j hj h => by
          by_cases e : j = k
          · subst e; exact HN.out
          · exact HALL.out j hj (by omega)⟩
        case measure => simp [intOf]; omega
    · have HG := Lib.hid (growsB_pos (fun j hj => HALL.out j hj (by omega)))
      go_wp2_with fail
      refine HR.out.mono ?_
      rintro e w1 ⟨rfl, hb1⟩
      go_wp2_with fail
      go_ret
      exact ⟨ret_bool HG.out.symm, hb1⟩
end Go.Proofs.Ytabodlhlanolcaa
