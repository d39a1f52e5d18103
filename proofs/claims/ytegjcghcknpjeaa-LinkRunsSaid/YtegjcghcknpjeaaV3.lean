import Derived.Test.YtegjcghcknpjeaaV2
namespace Go.Proofs.Ytegjcghcknpjeaa
open Go.RowKit

set_option maxHeartbeats 2000000 in
theorem pdyad_div (w : World) (a b : Int) (hb0 : ¬ b = 0) (hb : In64 b) : Calls Try.prog 50 #[.int .u8 4, .int .i64 a, .int .i64 b] w fun e w' => e = .returned (.int .i64 (wrap64 (a.fdiv b))) ∧ Drew w w' := by
  have hd := fdiv_eq (a := a) hb0
  have hr := fun W => (rest_any W a b hb0 hb).mono (R' := fun e w' => e = .returned (.int .i64 (a.fmod b)) ∧ w' = W) fun _ _ ⟨x, y⟩ => ⟨x, y.symm⟩
  have Hr := Lib.hid hr; have Hd := Lib.hid hd; clear hr hd hb
  by_cases hne : a.fmod b = a.tmod b
  · have Hf : Hid (wrap64 (a.tdiv b) = wrap64 (a.fdiv b)) := by unfold Hid; rw [Hd.out, if_neg (by simp [hne])]
    have hne' : (a.fmod b != a.tmod b) = false := by simpa using hne
    have Hne := Lib.hid hne; clear hne
    go_enter Try.func50, Try.ntmps50
    go_wp2_with fail
    go_quiet ((go_at_call 52; exact Calls.quiet_of_same (Hr.out _)))
    go_wp2_with fail
    go_ret
    exact ⟨ret_int Hf.out, Drew.mk _ _⟩
  · have Hf : Hid (wrap64 (wrap64 (a.tdiv b) - 1) = wrap64 (a.fdiv b)) := by unfold Hid; rw [Hd.out, if_pos hne, wrap_sub_l]
    have hne' : (a.fmod b != a.tmod b) = true := by simpa using hne
    have Hne := Lib.hid hne; clear hne
    go_enter Try.func50, Try.ntmps50
    go_wp2_with fail
    go_quiet ((go_at_call 52; exact Calls.quiet_of_same (Hr.out _)))
    go_wp2_with fail
    go_ret
    exact ⟨ret_int Hf.out, Drew.mk _ _⟩

theorem bits_and_bit {a b : Int} (ha : isBit a = true) (hb : isBit b = true) : bits BinOp.and IntKind.i64 a b = a * b := by
  unfold isBit at ha hb
  simp at ha hb
  rcases ha with rfl | rfl <;> rcases hb with rfl | rfl <;> decide
theorem bits_or_bit {a b : Int} (ha : isBit a = true) (hb : isBit b = true) : bits BinOp.or IntKind.i64 a b = max a b := by
  unfold isBit at ha hb
  simp at ha hb
  rcases ha with rfl | rfl <;> rcases hb with rfl | rfl <;> decide

set_option maxHeartbeats 4000000 in
theorem pdyad_any (w : World) (f a b : Int) (hf : takes f true = true) (ha : In64 a) (hb : In64 b) (hr : refusesB f a b = false) : Calls Try.prog 50 #[.int .u8 f, .int .i64 a, .int .i64 b] w fun e w' => e = .returned (.int .i64 (dyv f a b)) ∧ Drew w w' := by
  have hf1 := takes_in hf
  have hf16 : f ≠ 16 := by rintro rfl; simp [takes] at hf
  clear hf
  rcases (by omega : f = 1 ∨ f = 2 ∨ f = 3 ∨ f = 4 ∨ f = 5 ∨ f = 6 ∨ f = 7 ∨ (8 ≤ f ∧ f ≤ 13) ∨ f = 14 ∨ f = 15 ∨ f = 17) with rfl | rfl | rfl | rfl | rfl | rfl | rfl | hcmp | rfl | rfl | rfl
  iterate 3
    · go_enter Try.func50, Try.ntmps50
      go_wp2
      go_ret
      exact ⟨ret_int (by simp [dyv]), Drew.refl _⟩
  · have hb0 : ¬ b = 0 := by simpa [refusesB] using hr
    exact (pdyad_div w a b hb0 hb).mono fun e w' ⟨h1, h2⟩ => ⟨by rw [h1]; simp [dyv], h2⟩
  · by_cases h0 : a = 0
    · have h0' : (a == 0) = true := by simpa using h0
      have Hf : Hid (b = dyv 5 a b) := by unfold Hid; simp [dyv, h0]
      have H0 := Lib.hid h0; clear h0 hr hf1 hf16
      go_enter Try.func50, Try.ntmps50
      go_wp2_with fail
      go_ret
      exact ⟨ret_int Hf.out, Drew.refl _⟩
    · have h0' : (a == 0) = false := by simpa using h0
      have Hf : Hid (b.fmod a = dyv 5 a b) := by unfold Hid; simp [dyv, h0]
      have Hr := Lib.hid (fun W => rest_any W b a h0 ha)
      clear hr hf1 hf16
      go_enter Try.func50, Try.ntmps50
      go_wp2_with (go_at_call 52; refine (Hr.out _).mono ?_; rintro e w' ⟨rfl, rfl⟩)
      go_ret
      exact ⟨ret_int Hf.out, Drew.refl _⟩
  iterate 2
    · clear hr hf1 hf16
      go_enter Try.func50, Try.ntmps50
      go_wp2
      all_goals
        go_ret
        exact ⟨ret_int (by simp [dyv]; try omega), Drew.refl _⟩
  · have Hh := Lib.hid (fun W => holds_any W f a b hcmp)
    have h1 : (f == 1) = false := by simp; omega
    have h2 : (f == 2) = false := by simp; omega
    have h3 : (f == 3) = false := by simp; omega
    have h4 : (f == 4) = false := by simp; omega
    have h5 : (f == 5) = false := by simp; omega
    have h6 : (f == 6) = false := by simp; omega
    have h7 : (f == 7) = false := by simp; omega
    have h14 : (f == 14) = false := by simp; omega
    have h15 : (f == 15) = false := by simp; omega
    have h17 : (f == 17) = false := by simp; omega
    have Hf : Hid (truthI (if f = 8 then a == b else if f = 9 then a != b else if f = 10 then decide (a < b) else if f = 11 then decide (a ≤ b) else if f = 12 then decide (b ≤ a) else decide (b < a)) = dyv f a b) := by
      unfold Hid dyv
      rcases (by omega : f = 8 ∨ f = 9 ∨ f = 10 ∨ f = 11 ∨ f = 12 ∨ f = 13) with rfl | rfl | rfl | rfl | rfl | rfl <;> simp
    generalize (if f = 8 then a == b else if f = 9 then a != b else if f = 10 then decide (a < b) else if f = 11 then decide (a ≤ b) else if f = 12 then decide (b ≤ a) else decide (b < a)) = tt at Hf Hh
    clear hr hf1 hf16 hcmp
    go_enter Try.func50, Try.ntmps50
    go_wp2_with (first
      | (go_at_call 54; refine (Hh.out _).mono ?_; rintro e w' ⟨rfl, rfl⟩)
      | (go_at_call 51; refine (truth_any _ _).mono ?_; rintro e w' ⟨rfl, rfl⟩))
    go_ret
    exact ⟨ret_int Hf.out, Drew.refl _⟩
  · have hab : isBit a = true ∧ isBit b = true := by simpa [refusesB] using hr
    have hx := bits_and_bit hab.1 hab.2
    clear hr hf1 hf16 hab
    go_enter Try.func50, Try.ntmps50
    go_wp2
    go_ret
    exact ⟨ret_int (by simp [dyv]), Drew.refl _⟩
  · have hab : isBit a = true ∧ isBit b = true := by simpa [refusesB] using hr
    have hx := bits_or_bit hab.1 hab.2
    clear hr hf1 hf16 hab
    go_enter Try.func50, Try.ntmps50
    go_wp2
    go_ret
    exact ⟨ret_int (by simp [dyv]), Drew.refl _⟩
  · have hb0 : 0 ≤ b := by simpa [refusesB] using hr
    have Hr := Lib.hid (fun W => raised_any W a b hb0 hb.2)
    clear hr hf1 hf16
    go_enter Try.func50, Try.ntmps50
    go_wp2_with (go_at_call 53; refine (Hr.out _).mono ?_; rintro e w' ⟨rfl, rfl⟩)
    go_ret
    exact ⟨ret_int (by simp [dyv]), Drew.refl _⟩

set_option maxHeartbeats 2000000 in
theorem dyad_any (w : World) (f a b : Int) (ha : In64 a) (hb : In64 b) : Calls Try.prog 47 #[.int .u8 f, .int .i64 a, .int .i64 b] w fun e w' => e = two (dyadF f a b) ∧ Drew w w' := by
  have hd : dyadF f a b = if takes f true then (if refusesB f a b then (0, 11) else (dyv f a b, 0)) else (0, 10) := rfl
  have Hd := Lib.hid hd; clear hd
  have ht := fun W => takes_any W f true
  cases hx : takes f true with
  | false =>
    rw [hx] at ht
    have Ht := Lib.hid ht
    have Hf : Hid (dyadF f a b = (0, 10)) := by unfold Hid; rw [Hd.out, hx]; rfl
    clear ht hx ha hb
    go_enter Try.func47, Try.ntmps47
    go_wp2_with (go_at_call 40; refine (Ht.out _).mono ?_; rintro e w' ⟨rfl, rfl⟩)
    go_ret2
    exact ⟨ret_two Hf.out, Drew.refl _⟩
  | true =>
    rw [hx] at ht
    have Ht := Lib.hid ht
    have hr := fun W => refuses_any W f a b (takes_in hx) ha hb
    cases hy : refusesB f a b with
    | true =>
      rw [hy] at hr
      have Hr := Lib.hid hr
      have Hf : Hid (dyadF f a b = (0, 11)) := by unfold Hid; rw [Hd.out, hx, hy]; rfl
      clear ht hx ha hb hr hy
      go_enter Try.func47, Try.ntmps47
      go_wp2_with (first
        | (go_at_call 40; refine (Ht.out _).mono ?_; rintro e w' ⟨rfl, rfl⟩)
        | (go_at_call 49; refine (Hr.out _).mono ?_; rintro e w' ⟨rfl, rfl⟩))
      go_ret2
      exact ⟨ret_two Hf.out, Drew.refl _⟩
    | false =>
      have hv := fun W => pdyad_any W f a b hx ha hb hy
      rw [hy] at hr
      have Hr := Lib.hid hr; have Hv := Lib.hid hv
      have Hf : Hid (dyadF f a b = (dyv f a b, 0)) := by unfold Hid; rw [Hd.out, hx, hy]; rfl
      clear ht hx ha hb hr hy hv
      go_enter Try.func47, Try.ntmps47
      go_wp2_with (first
        | (go_at_call 40; refine (Ht.out _).mono ?_; rintro e w' ⟨rfl, rfl⟩)
        | (go_at_call 49; refine (Hr.out _).mono ?_; rintro e w' ⟨rfl, rfl⟩)
        | (go_at_call 50; refine (Hv.out _).mono ?_; rintro e w' ⟨rfl, n, rfl⟩))
      go_ret2
      exact ⟨ret_two Hf.out, Drew.mk _ _⟩
end Go.Proofs.Ytegjcghcknpjeaa
