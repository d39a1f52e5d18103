import Derived.Test.YtkgbjmmiomggbaaV4
namespace Go.Proofs.Ytkgbjmmiomggbaa
open Go.RowKit

theorem takesT {f : Int} (h : takes f true = true) : f = 1 ∨ f = 2 ∨ f = 3 ∨ f = 4 ∨ f = 5 ∨ f = 6 ∨ f = 7 ∨ f = 8 ∨ f = 9 ∨ f = 10 ∨ f = 11 ∨ f = 12 ∨ f = 13 ∨ f = 14 ∨ f = 15 ∨ f = 17 := by
  have h1 := takes_in h
  have hf16 : f ≠ 16 := by rintro rfl; simp [takes] at h
  omega
theorem takesF {f : Int} (h : takes f false = true) : f = 1 ∨ f = 2 ∨ f = 3 ∨ f = 4 ∨ f = 5 ∨ f = 6 ∨ f = 7 ∨ f = 16 := by
  have h1 := takes_in h
  unfold takes at h
  rw [if_neg (by omega)] at h
  split at h
  · omega
  · simp at h; omega

set_option maxHeartbeats 2000000 in
theorem rdyad_no (w : World) (f a b : Int) (hx : takes f true = false) : Calls Try.prog 37 #[.int .u8 f, .int .i64 a, .int .i64 b] w fun e w' => e = two (dyadF f a b) ∧ Drew w w' := by
  have ht := fun W => rtakes_any W f true
  rw [hx] at ht
  have Ht := Lib.hid ht
  have Hf : Hid (dyadF f a b = (0, 10)) := by unfold Hid dyadF; rw [hx]; rfl
  clear ht hx
  go_enter Try.func37, Try.ntmps37
  go_wp2_with (go_at_call 42; refine (Ht.out _).mono ?_; rintro e w' ⟨rfl, rfl⟩)
  go_ret2
  exact ⟨ret_two Hf.out, Drew.refl _⟩

theorem wrap_bits {a b : Int} (ha : isBit a = true) (hb : isBit b = true) : wrap64 (a * b) = a * b := by
  unfold isBit at ha hb
  simp at ha hb
  rcases ha with rfl | rfl <;> rcases hb with rfl | rfl <;> exact wrap_id (by unfold In64; omega)

theorem rtakes_at (W : World) (f : Int) (two b : Bool) (h : takes f two = b) : Calls Try.prog 42 #[.int .u8 f, .bool two] W fun e w' => e = .returned (.bool b) ∧ W = w' := by
  rw [← h]; exact rtakes_any W f two

set_option maxHeartbeats 4000000 in
theorem rdyad_yes (w : World) (f a b : Int) (hx : takes f true = true) (ha : In64 a) (hb : In64 b) : Calls Try.prog 37 #[.int .u8 f, .int .i64 a, .int .i64 b] w fun e w' => e = two (dyadF f a b) ∧ Drew w w' := by
  have Ha := Lib.hid ha; have Hb := Lib.hid hb; clear ha hb
  have hc := takesT hx
  clear hx
  rcases hc with rfl | rfl | rfl | rfl | rfl | rfl | rfl | rfl | rfl | rfl | rfl | rfl | rfl | rfl | rfl | rfl
  iterate 3
    · go_enter Try.func37, Try.ntmps37
      go_wp2_with (go_at_call 42; refine (rtakes_at _ _ _ true rfl).mono ?_; rintro e w' ⟨rfl, rfl⟩)
      go_ret2
      exact ⟨ret_two (by simp [dyadF, takes, refusesB, dyv]), by first | exact Drew.refl _ | exact Drew.mk _ _⟩
  -- divide
  · by_cases h0 : b = 0
    · have h0' : (b == 0) = true := by simpa using h0
      have H0 := Lib.hid h0; clear h0
      go_enter Try.func37, Try.ntmps37
      go_wp2_with (go_at_call 42; refine (rtakes_at _ _ _ true rfl).mono ?_; rintro e w' ⟨rfl, rfl⟩)
      go_ret2
      exact ⟨ret_two (by simp [dyadF, takes, refusesB, H0.out]), by first | exact Drew.refl _ | exact Drew.mk _ _⟩
    · have h0' : (b == 0) = false := by simpa using h0
      have Hr := Lib.hid (fun W => floor_any W a b h0)
      have H0 := Lib.hid h0; clear h0
      go_enter Try.func37, Try.ntmps37
      go_wp2_with (first | (go_at_call 42; refine (rtakes_at _ _ _ true rfl).mono ?_; rintro e w' ⟨rfl, rfl⟩) | (go_at_call 44; refine (Hr.out _).mono ?_; rintro e w' ⟨rfl, n, rfl⟩))
      go_ret2
      exact ⟨ret_two (by simp [dyadF, takes, refusesB, dyv, H0.out]), by first | exact Drew.refl _ | exact Drew.mk _ _⟩
  -- residue
  · have Hr := Lib.hid (fun W => residue_any W a b Ha.out Hb.out)
    have Hf : Hid (dyadF 5 a b = (if a = 0 then b else b.fmod a, 0)) := by unfold Hid; simp [dyadF, takes, refusesB, dyv]
    generalize (if a = 0 then b else b.fmod a) = r at Hr Hf
    go_enter Try.func37, Try.ntmps37
    go_wp2_with (first | (go_at_call 42; refine (rtakes_at _ _ _ true rfl).mono ?_; rintro e w' ⟨rfl, rfl⟩) | (go_at_call 45; refine (Hr.out _).mono ?_; rintro e w' ⟨rfl, n, rfl⟩))
    go_ret2
    exact ⟨ret_two Hf.out, by first | exact Drew.refl _ | exact Drew.mk _ _⟩
  -- min, max
  iterate 2
    · go_enter Try.func37, Try.ntmps37
      go_wp2_with (go_at_call 42; refine (rtakes_at _ _ _ true rfl).mono ?_; rintro e w' ⟨rfl, rfl⟩)
      all_goals
        go_ret2
        exact ⟨ret_two (by simp [dyadF, takes, refusesB, dyv]; try omega), by first | exact Drew.refl _ | exact Drew.mk _ _⟩
  iterate 6
    · go_enter Try.func37, Try.ntmps37
      go_wp2_with (first | (go_at_call 42; refine (rtakes_at _ _ _ true rfl).mono ?_; rintro e w' ⟨rfl, rfl⟩) | (go_at_call 46; refine (bit_any _ _).mono ?_; rintro e w' ⟨rfl, rfl⟩))
      go_ret2
      exact ⟨ret_two (by simp [dyadF, takes, refusesB, dyv]), by first | exact Drew.refl _ | exact Drew.mk _ _⟩
  iterate 2
    · have Hw := Lib.hid (wrap_bits (a := a) (b := b))
      have hab := fun W => boolean_any W a
      have hbb := fun W => boolean_any W b
      cases hx : isBit a
      all_goals
        cases hy : isBit b
        all_goals
          rw [hx] at hab
          rw [hy] at hbb
          have Hab := Lib.hid hab; have Hbb := Lib.hid hbb
          have Hx := Lib.hid hx; have Hy := Lib.hid hy
          clear hab hbb hx hy
          go_enter Try.func37, Try.ntmps37
          go_wp2_with (first | (go_at_call 42; refine (rtakes_at _ _ _ true rfl).mono ?_; rintro e w' ⟨rfl, rfl⟩) | (go_at_call 43; refine (Hab.out _).mono ?_; rintro e w' ⟨rfl, rfl⟩) | (go_at_call 43; refine (Hbb.out _).mono ?_; rintro e w' ⟨rfl, rfl⟩))
          all_goals
            go_ret2
            exact ⟨ret_two (by simp [dyadF, takes, refusesB, dyv, Hx.out, Hy.out]; try first | exact (Hw.out Hx.out Hy.out).symm | omega), by first | exact Drew.refl _ | exact Drew.mk _ _⟩
  -- power
  · by_cases h0 : b < 0
    · have H0 := Lib.hid h0
      go_enter Try.func37, Try.ntmps37
      go_wp2_with (go_at_call 42; refine (rtakes_at _ _ _ true rfl).mono ?_; rintro e w' ⟨rfl, rfl⟩)
      go_ret2
      exact ⟨ret_two (by simp [dyadF, takes, refusesB, H0.out]), by first | exact Drew.refl _ | exact Drew.mk _ _⟩
    · have Hr := Lib.hid (fun W => power_any W a b (by omega) Hb.out.2)
      have Hf : Hid (dyadF 17 a b = (wrap64 (a ^ b.toNat), 0)) := by unfold Hid; simp [dyadF, takes, refusesB, dyv, h0]
      go_enter Try.func37, Try.ntmps37
      go_wp2_with (first | (go_at_call 42; refine (rtakes_at _ _ _ true rfl).mono ?_; rintro e w' ⟨rfl, rfl⟩) | (go_at_call 47; refine (Hr.out _).mono ?_; rintro e w' ⟨rfl, rfl⟩))
      go_ret2
      exact ⟨ret_two Hf.out, by first | exact Drew.refl _ | exact Drew.mk _ _⟩

theorem rdyad_any (w : World) (f a b : Int) (ha : In64 a) (hb : In64 b) : Calls Try.prog 37 #[.int .u8 f, .int .i64 a, .int .i64 b] w fun e w' => e = two (dyadF f a b) ∧ Drew w w' := by
  cases hx : takes f true with
  | false => exact rdyad_no w f a b hx
  | true => exact rdyad_yes w f a b hx ha hb
end Go.Proofs.Ytkgbjmmiomggbaa
