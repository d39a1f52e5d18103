import Derived.Test.YtiogopichcnihaaV1
namespace Go.Proofs.Ytiogopichcnihaa
set_option maxRecDepth 100000
open Go.RowKit

def Drew (w w' : World) : Prop := ∃ n, w' = w.drewN n
theorem Drew.refl (w : World) : Drew w w := ⟨0, rfl⟩
theorem Drew.mk (w : World) (n : Nat) : Drew w (w.drewN n) := ⟨n, rfl⟩
theorem Drew.mk2 (w : World) (n m : Nat) : Drew w ((w.drewN n).drewN m) := ⟨n + m, by rw [World.drewN_drewN]⟩
theorem Drew.below {B : Nat} {w w' : World} (h : Drew w w') : Below B w w' := by obtain ⟨n, rfl⟩ := h; exact Below.drewN w n

theorem u64_bit (a : Int) (h : In64 a) : (decide (1 < IntKind.u64.wrap a)) = !isBit a := by
  unfold In64 at h
  have : IntKind.u64.wrap a = a % 18446744073709551616 := by rw [IntKind.wrap_u64]
  rw [this]
  unfold isBit
  by_cases h0 : a = 0
  · subst h0; decide
  · by_cases h1 : a = 1
    · subst h1; decide
    · have e0 : (a == 0) = false := by simpa using h0
      have e1 : (a == 1) = false := by simpa using h1
      rw [e0, e1]; simp; omega

set_option maxHeartbeats 1000000 in
theorem takes_any (w : World) (f : Int) (two : Bool) : Calls Try.prog 61 #[.int .u8 f, .bool two] w fun e w' => e = .returned (.bool (takes f two)) ∧ w = w' := by
  have ht : takes f two = if f < 1 ∨ 17 < f then false else if f = 16 then !two else two || decide (f ≤ 7) := rfl
  have Ht := Lib.hid ht; clear ht
  by_cases h1 : f < 1
  · go_enter Try.func61, Try.ntmps61
    go_wp2
    go_ret
    exact ⟨ret_bool (by rw [Ht.out, if_pos (Or.inl h1)]), rfl⟩
  · have h1' : decide (f < 1) = false := by simpa using h1
    by_cases h2 : 17 < f
    · go_enter Try.func61, Try.ntmps61
      go_wp2
      go_ret
      exact ⟨ret_bool (by rw [Ht.out, if_pos (Or.inr h2)]), rfl⟩
    · have h2' : decide (17 < f) = false := by simpa using h2
      by_cases h3 : f = 16
      · have Hf : Hid (takes f two = !two) := by unfold Hid; rw [Ht.out, if_neg (by omega), if_pos h3]
        subst h3
        cases two
        all_goals
          go_enter Try.func61, Try.ntmps61
          go_wp2
          go_ret
          exact ⟨ret_bool (by rw [Hf.out]; try rfl), rfl⟩
      · have Hf : Hid (takes f two = (two || decide (f ≤ 7))) := by unfold Hid; rw [Ht.out, if_neg (by omega), if_neg h3]
        have h3' : (f == 16) = false := by simpa using h3
        cases two
        all_goals
          go_enter Try.func61, Try.ntmps61
          go_wp2
          go_ret
          exact ⟨ret_bool (by rw [Hf.out]; try rfl), rfl⟩

set_option maxHeartbeats 1000000 in
theorem rtakes_any (w : World) (f : Int) (two : Bool) : Calls Try.prog 62 #[.int .u8 f, .bool two] w fun e w' => e = .returned (.bool (takes f two)) ∧ w = w' := by
  have ht : takes f two = if f < 1 ∨ 17 < f then false else if f = 16 then !two else two || decide (f ≤ 7) := rfl
  have Ht := Lib.hid ht; clear ht
  by_cases h1 : f < 1
  · have Hf : Hid (takes f two = false) := by unfold Hid; rw [Ht.out, if_pos (Or.inl h1)]
    have h1' : decide (1 ≤ f) = false := by simp; omega
    have h3' : (f == 16) = false := by simp; omega
    cases two
    all_goals
      go_enter Try.func62, Try.ntmps62
      go_wp2
      go_ret
      exact ⟨ret_bool (by rw [Hf.out]; try rfl), rfl⟩
  · by_cases h2 : 17 < f
    · have Hf : Hid (takes f two = false) := by unfold Hid; rw [Ht.out, if_pos (Or.inr h2)]
      have h1' : decide (1 ≤ f) = true := by simp; omega
      have h2' : decide (f ≤ 17) = false := by simp; omega
      have h2'' : decide (f ≤ 7) = false := by simp; omega
      have h3' : (f == 16) = false := by simp; omega
      cases two
      all_goals
        go_enter Try.func62, Try.ntmps62
        go_wp2
        go_ret
        exact ⟨ret_bool (by rw [Hf.out]; try rfl), rfl⟩
    · have h1' : decide (1 ≤ f) = true := by simp; omega
      have h2' : decide (f ≤ 17) = true := by simp; omega
      by_cases h3 : f = 16
      · have Hf : Hid (takes f two = !two) := by unfold Hid; rw [Ht.out, if_neg (by omega), if_pos h3]
        subst h3
        cases two
        all_goals
          go_enter Try.func62, Try.ntmps62
          go_wp2
          go_ret
          exact ⟨ret_bool (by rw [Hf.out]; try rfl), rfl⟩
      · have Hf : Hid (takes f two = (two || decide (f ≤ 7))) := by unfold Hid; rw [Ht.out, if_neg (by omega), if_neg h3]
        have h3' : (f == 16) = false := by simpa using h3
        have h4' : (f != 16) = true := by simpa using h3
        by_cases h7 : f ≤ 7
        all_goals
          cases two
          all_goals
            go_enter Try.func62, Try.ntmps62
            go_wp2
            go_ret
            exact ⟨ret_bool (by rw [Hf.out]; simp [h7]), rfl⟩

end Go.Proofs.Ytiogopichcnihaa
