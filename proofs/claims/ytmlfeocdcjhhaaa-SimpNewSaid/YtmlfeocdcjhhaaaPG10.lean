import Derived.Test.YtmlfeocdcjhhaaaPG9
namespace Go.Proofs.Ytmlfeocdcjhhaaa
set_option linter.unusedVariables false
set_option linter.unusedSimpArgs false
set_option maxRecDepth 100000
open Go.RowKit

set_option maxHeartbeats 2000000 in
theorem pdyad_div (w : World) (a b : Int) (hb0 : ¬ b = 0) (hb : In64 b) : Calls Try.prog 127 #[.int .u8 4, .int .i64 a, .int .i64 b] w fun e w' => e = .returned (.int .i64 (wrap64 (a.fdiv b))) ∧ Drew w w' := by
  have hd := fdiv_eq (a := a) hb0
  have hr := fun W => (rest_any W a b hb0 hb).mono (R' := fun e w' => e = .returned (.int .i64 (a.fmod b)) ∧ w' = W) fun _ _ ⟨x, y⟩ => ⟨x, y.symm⟩
  have Hr := Lib.hid hr; have Hd := Lib.hid hd; clear hr hd hb
  by_cases hne : a.fmod b = a.tmod b
  · have Hf : Hid (wrap64 (a.tdiv b) = wrap64 (a.fdiv b)) := by unfold Hid; rw [Hd.out, if_neg (by simp [hne])]
    have hne' : (a.fmod b != a.tmod b) = false := by simpa using hne
    have Hne := Lib.hid hne; clear hne
    go_enter Try.func127, Try.ntmps127
    go_wp2_with fail
    go_quiet ((go_at_call 149; exact Calls.quiet_of_same (Hr.out _)))
    go_wp2_with fail
    go_ret
    exact ⟨ret_int Hf.out, Drew.mk _ _⟩
  · have Hf : Hid (wrap64 (wrap64 (a.tdiv b) - 1) = wrap64 (a.fdiv b)) := by unfold Hid; rw [Hd.out, if_pos hne, wrap_sub_l]
    have hne' : (a.fmod b != a.tmod b) = true := by simpa using hne
    have Hne := Lib.hid hne; clear hne
    go_enter Try.func127, Try.ntmps127
    go_wp2_with fail
    go_quiet ((go_at_call 149; exact Calls.quiet_of_same (Hr.out _)))
    go_wp2_with fail
    go_ret
    exact ⟨ret_int Hf.out, Drew.mk _ _⟩

theorem bits_and_bit {a b : Int} (ha : isBit a = true) (hb : isBit b = true) : bits BinOp.and IntKind.i64 a b = a * b := by
  unfold isBit at ha hb
  simp at ha hb
  rcases ha with rfl | rfl <;> rcases hb with rfl | rfl <;> decide
theorem bits_or_bit {a b : Int} (ha : isBit a = true) (hb : isBit b = true) : bits BinOp.or IntKind.i64 a b = max a b := by
  unfold isBit at ha hb
  simp at ha hb
  rcases ha with rfl | rfl <;> rcases hb with rfl | rfl <;> decide

set_option maxHeartbeats 4000000 in
theorem pdyad_any (w : World) (f a b : Int) (hf : takes f true = true) (ha : In64 a) (hb : In64 b) (hr : refusesB f a b = false) : Calls Try.prog 127 #[.int .u8 f, .int .i64 a, .int .i64 b] w fun e w' => e = .returned (.int .i64 (dyv f a b)) ∧ Drew w w' := by
  have hf1 := takes_in hf
  have hf16 : f ≠ 16 := by rintro rfl; simp [takes] at hf
  clear hf
  rcases (by omega : f = 1 ∨ f = 2 ∨ f = 3 ∨ f = 4 ∨ f = 5 ∨ f = 6 ∨ f = 7 ∨ (8 ≤ f ∧ f ≤ 13) ∨ f = 14 ∨ f = 15 ∨ f = 17) with rfl | rfl | rfl | rfl | rfl | rfl | rfl | hcmp | rfl | rfl | rfl
  iterate 3
    · go_enter Try.func127, Try.ntmps127
      go_wp2
      go_ret
      exact ⟨ret_int (by simp [dyv]), Drew.refl _⟩
  · have hb0 : ¬ b = 0 := by simpa [refusesB] using hr
    exact (pdyad_div w a b hb0 hb).mono fun e w' ⟨h1, h2⟩ => ⟨by rw [h1]; simp [dyv], h2⟩
  · by_cases h0 : a = 0
    · have h0' : (a == 0) = true := by simpa using h0
      have Hf : Hid (b = dyv 5 a b) := by unfold Hid; simp [dyv, h0]
      have H0 := Lib.hid h0; clear h0 hr hf1 hf16
      go_enter Try.func127, Try.ntmps127
      go_wp2_with fail
      go_ret
      exact ⟨ret_int Hf.out, Drew.refl _⟩
    · have h0' : (a == 0) = false := by simpa using h0
      have Hf : Hid (b.fmod a = dyv 5 a b) := by unfold Hid; simp [dyv, h0]
      have Hr := Lib.hid (fun W => rest_any W b a h0 ha)
      clear hr hf1 hf16
      go_enter Try.func127, Try.ntmps127
      go_wp2_with (go_at_call 149; refine (Hr.out _).mono ?_; rintro e w' ⟨rfl, rfl⟩)
      go_ret
      exact ⟨ret_int Hf.out, Drew.refl _⟩
  iterate 2
    · clear hr hf1 hf16
      go_enter Try.func127, Try.ntmps127
      go_wp2
      all_goals
        go_ret
        exact ⟨ret_int (by simp [dyv]; try omega), Drew.refl _⟩
  · have Hh := Lib.hid (fun W => holds_any W f a b hcmp)
    have h1 : (f == 1) = false := by simp; omega
    have h2 : (f == 2) = false := by simp; omega
    have h3 : (f == 3) = false := by simp; omega
    have h4 : (f == 4) = false := by simp; omega
    have h5 : (f == 5) = false := by simp; omega
    have h6 : (f == 6) = false := by simp; omega
    have h7 : (f == 7) = false := by simp; omega
    have h14 : (f == 14) = false := by simp; omega
    have h15 : (f == 15) = false := by simp; omega
    have h17 : (f == 17) = false := by simp; omega
    have Hf : Hid (truthI (if f = 8 then a == b else if f = 9 then a != b else if f = 10 then decide (a < b) else if f = 11 then decide (a ≤ b) else if f = 12 then decide (b ≤ a) else decide (b < a)) = dyv f a b) := by
      unfold Hid dyv
      rcases (by omega : f = 8 ∨ f = 9 ∨ f = 10 ∨ f = 11 ∨ f = 12 ∨ f = 13) with rfl | rfl | rfl | rfl | rfl | rfl <;> simp
    generalize (if f = 8 then a == b else if f = 9 then a != b else if f = 10 then decide (a < b) else if f = 11 then decide (a ≤ b) else if f = 12 then decide (b ≤ a) else decide (b < a)) = tt at Hf Hh
    clear hr hf1 hf16 hcmp
    go_enter Try.func127, Try.ntmps127
    go_wp2_with (first
      | (go_at_call 151; refine (Hh.out _).mono ?_; rintro e w' ⟨rfl, rfl⟩)
      | (go_at_call 132; refine (truth_any _ _).mono ?_; rintro e w' ⟨rfl, rfl⟩))
    go_ret
    exact ⟨ret_int Hf.out, Drew.refl _⟩
  · have hab : isBit a = true ∧ isBit b = true := by simpa [refusesB] using hr
    have hx := bits_and_bit hab.1 hab.2
    clear hr hf1 hf16 hab
    go_enter Try.func127, Try.ntmps127
    go_wp2
    go_ret
    exact ⟨ret_int (by simp [dyv]), Drew.refl _⟩
  · have hab : isBit a = true ∧ isBit b = true := by simpa [refusesB] using hr
    have hx := bits_or_bit hab.1 hab.2
    clear hr hf1 hf16 hab
    go_enter Try.func127, Try.ntmps127
    go_wp2
    go_ret
    exact ⟨ret_int (by simp [dyv]), Drew.refl _⟩
  · have hb0 : 0 ≤ b := by simpa [refusesB] using hr
    have Hr := Lib.hid (fun W => raised_any W a b hb0 hb.2)
    clear hr hf1 hf16
    go_enter Try.func127, Try.ntmps127
    go_wp2_with (go_at_call 150; refine (Hr.out _).mono ?_; rintro e w' ⟨rfl, rfl⟩)
    go_ret
    exact ⟨ret_int (by simp [dyv]), Drew.refl _⟩

set_option maxHeartbeats 2000000 in
theorem dyad_any (w : World) (f a b : Int) (ha : In64 a) (hb : In64 b) : Calls Try.prog 82 #[.int .u8 f, .int .i64 a, .int .i64 b] w fun e w' => e = two (dyadF f a b) ∧ Drew w w' := by
  have hd : dyadF f a b = if takes f true then (if refusesB f a b then (0, 11) else (dyv f a b, 0)) else (0, 10) := rfl
  have Hd := Lib.hid hd; clear hd
  have ht := fun W => takes_any W f true
  cases hx : takes f true with
  | false =>
    rw [hx] at ht
    have Ht := Lib.hid ht
    have Hf : Hid (dyadF f a b = (0, 10)) := by unfold Hid; rw [Hd.out, hx]; rfl
    clear ht hx ha hb
    go_enter Try.func82, Try.ntmps82
    go_wp2_with (go_at_call 23; refine (Ht.out _).mono ?_; rintro e w' ⟨rfl, rfl⟩)
    go_ret2
    exact ⟨ret_two Hf.out, Drew.refl _⟩
  | true =>
    rw [hx] at ht
    have Ht := Lib.hid ht
    have hr := fun W => refuses_any W f a b (takes_in hx) ha hb
    cases hy : refusesB f a b with
    | true =>
      rw [hy] at hr
      have Hr := Lib.hid hr
      have Hf : Hid (dyadF f a b = (0, 11)) := by unfold Hid; rw [Hd.out, hx, hy]; rfl
      clear ht hx ha hb hr hy
      go_enter Try.func82, Try.ntmps82
      go_wp2_with (first
        | (go_at_call 23; refine (Ht.out _).mono ?_; rintro e w' ⟨rfl, rfl⟩)
        | (go_at_call 126; refine (Hr.out _).mono ?_; rintro e w' ⟨rfl, rfl⟩))
      go_ret2
      exact ⟨ret_two Hf.out, Drew.refl _⟩
    | false =>
      have hv := fun W => pdyad_any W f a b hx ha hb hy
      rw [hy] at hr
      have Hr := Lib.hid hr; have Hv := Lib.hid hv
      have Hf : Hid (dyadF f a b = (dyv f a b, 0)) := by unfold Hid; rw [Hd.out, hx, hy]; rfl
      clear ht hx ha hb hr hy hv
      go_enter Try.func82, Try.ntmps82
      go_wp2_with (first
        | (go_at_call 23; refine (Ht.out _).mono ?_; rintro e w' ⟨rfl, rfl⟩)
        | (go_at_call 126; refine (Hr.out _).mono ?_; rintro e w' ⟨rfl, rfl⟩)
        | (go_at_call 127; refine (Hv.out _).mono ?_; rintro e w' ⟨rfl, n, rfl⟩))
      go_ret2
      exact ⟨ret_two Hf.out, Drew.mk _ _⟩
end Go.Proofs.Ytmlfeocdcjhhaaa

namespace Go.Proofs.Ytmlfeocdcjhhaaa
set_option maxRecDepth 100000
open Go.RowKit
set_option linter.unusedVariables false
set_option linter.unusedSimpArgs false

theorem flipC {P : Program} {f : FuncId} {args : Array Value} {w : World} {E : Ending → Prop} (h : Calls P f args w fun e w' => E e ∧ w = w') : Calls P f args w fun e w' => E e ∧ w' = w :=
  h.mono fun _ _ ⟨x, y⟩ => ⟨x, y.symm⟩

theorem fdiv_neg_one (a : Int) : a.fdiv (-1) = -a := by
  have h := fdiv_eq (a := a) (b := -1) (by omega)
  have h2 := rest_eq (a := a) (b := -1) (by omega)
  have h3 := tmod_lt (a := a) (b := -1) (by omega)
  have h4 := Int.tmod_add_mul_tdiv a (-1)
  have h5 : a.tmod (-1) = 0 := by have : (-1 : Int).natAbs = 1 := rfl; omega
  have h6 : a.fmod (-1) = a.tmod (-1) := by rw [h2, if_neg (fun h => h.1 h5)]
  rw [if_neg (fun h => h h6)] at h
  omega

theorem tmod_sign {a b : Int} (h : a.tmod b ≠ 0) : (a.tmod b < 0) = (a < 0) := by
  by_cases ha : 0 ≤ a
  · have := Int.tmod_nonneg b ha
    simp; omega
  · have h1 := Int.tmod_nonneg b (a := -a) (by omega)
    rw [Int.neg_tmod] at h1
    simp; omega

theorem floor_eq {a b : Int} (hb : b ≠ 0) : a.fdiv b = if a.tmod b ≠ 0 ∧ (decide (a < 0) ≠ decide (b < 0)) then a.tdiv b - 1 else a.tdiv b := by
  have h := fdiv_eq (a := a) hb
  have h2 := rest_eq (a := a) hb
  by_cases h0 : a.tmod b = 0
  · have h6 : a.fmod b = a.tmod b := by rw [h2, if_neg (fun h => h.1 h0)]
    rw [if_neg (fun h => h h6)] at h
    rw [if_neg (fun h => h.1 h0)]
    exact h
  · have hs := tmod_sign h0
    simp only [hs] at h2
    by_cases hc : decide (a < 0) ≠ decide (b < 0)
    · rw [if_pos ⟨h0, hc⟩] at h2 ⊢
      rw [h, if_pos (by omega)]
    · rw [if_neg (fun h => hc h.2)] at h2 ⊢
      rw [h, if_neg (fun h => h h2)]

set_option maxHeartbeats 2000000 in
theorem floor_any (w : World) (a b : Int) (hb0 : ¬ b = 0) : Calls Try.prog 137 #[.int .i64 a, .int .i64 b] w fun e w' => e = .returned (.int .i64 (wrap64 (a.fdiv b))) ∧ Drew w w' := by
  by_cases h1 : b = -1
  · have Hf : Hid (-a = a.fdiv b) := by unfold Hid; rw [h1, fdiv_neg_one]
    have h1' : (b == -1) = true := by simpa using h1
    have H1 := Lib.hid h1; clear h1
    go_enter Try.func137, Try.ntmps137
    go_wp2
    go_ret
    exact ⟨ret_int (by rw [← Hf.out]), Drew.refl _⟩
  · have h1' : (b == -1) = false := by simpa using h1
    have hd := floor_eq (a := a) hb0
    by_cases h0 : a.tmod b = 0
    · have Hf : Hid (wrap64 (a.tdiv b) = wrap64 (a.fdiv b)) := by unfold Hid; rw [hd, if_neg (by simp [h0])]
      clear hd h1
      go_enter Try.func137, Try.ntmps137
      go_wp2
      all_goals
        go_ret
        exact ⟨ret_int Hf.out, Drew.refl _⟩
    · by_cases hs : decide (a < 0) = decide (b < 0)
      · have Hf : Hid (wrap64 (a.tdiv b) = wrap64 (a.fdiv b)) := by unfold Hid; rw [hd, if_neg (fun h => h.2 hs)]
        have hs2 : (!(decide (a < 0) == decide (b < 0))) = false := by simpa using hs
        have h0' : (a.tmod b != 0) = true := by simpa using h0
        clear hd h1 hs
        go_enter Try.func137, Try.ntmps137
        go_wp2
        all_goals
          go_ret
          exact ⟨ret_int Hf.out, Drew.refl _⟩
      · have Hf : Hid (wrap64 (wrap64 (a.tdiv b) - 1) = wrap64 (a.fdiv b)) := by unfold Hid; rw [hd, if_pos ⟨h0, hs⟩, wrap_sub_l]
        have hs2 : (!(decide (a < 0) == decide (b < 0))) = true := by simpa using hs
        have h0' : (a.tmod b != 0) = true := by simpa using h0
        clear hd h1 hs
        go_enter Try.func137, Try.ntmps137
        go_wp2
        all_goals
          go_ret
          exact ⟨ret_int Hf.out, Drew.refl _⟩

set_option maxHeartbeats 2000000 in
theorem residue_any (w : World) (a b : Int) (ha : In64 a) (hb : In64 b) : Calls Try.prog 138 #[.int .i64 a, .int .i64 b] w fun e w' => e = .returned (.int .i64 (if a = 0 then b else b.fmod a)) ∧ Drew w w' := by
  by_cases h0 : a = 0
  · subst h0
    clear ha hb
    go_enter Try.func138, Try.ntmps138
    go_wp2
    go_ret
    exact ⟨rfl, Drew.refl _⟩
  · have Hf : Hid (wrap64 (b - wrap64 (a * wrap64 (b.fdiv a))) = b.fmod a) := by
      unfold Hid
      rw [wrap_mul_r, wrap_sub_r]
      have := Int.fmod_add_mul_fdiv b a
      rw [show b - a * b.fdiv a = b.fmod a by omega]
      exact wrap_id (fmod_in h0 ha)
    rw [if_neg h0]
    have Hr := Lib.hid (fun W => floor_any W b a h0)
    clear ha hb
    go_enter Try.func138, Try.ntmps138
    go_wp2_with (go_at_call 137; refine (Hr.out _).mono ?_; rintro e w' ⟨rfl, n, rfl⟩)
    go_ret
    exact ⟨ret_int Hf.out, Drew.mk _ _⟩
end Go.Proofs.Ytmlfeocdcjhhaaa

namespace Go.Proofs.Ytmlfeocdcjhhaaa
set_option linter.unusedVariables false
set_option linter.unusedSimpArgs false
set_option maxRecDepth 100000
open Go.RowKit

theorem takesT {f : Int} (h : takes f true = true) : f = 1 ∨ f = 2 ∨ f = 3 ∨ f = 4 ∨ f = 5 ∨ f = 6 ∨ f = 7 ∨ f = 8 ∨ f = 9 ∨ f = 10 ∨ f = 11 ∨ f = 12 ∨ f = 13 ∨ f = 14 ∨ f = 15 ∨ f = 17 := by
  have h1 := takes_in h
  have hf16 : f ≠ 16 := by rintro rfl; simp [takes] at h
  omega
theorem takesF {f : Int} (h : takes f false = true) : f = 1 ∨ f = 2 ∨ f = 3 ∨ f = 4 ∨ f = 5 ∨ f = 6 ∨ f = 7 ∨ f = 16 := by
  have h1 := takes_in h
  unfold takes at h
  rw [if_neg (by omega)] at h
  split at h
  · omega
  · simp at h; omega

set_option maxHeartbeats 2000000 in
theorem rdyad_no (w : World) (f a b : Int) (hx : takes f true = false) : Calls Try.prog 103 #[.int .u8 f, .int .i64 a, .int .i64 b] w fun e w' => e = two (dyadF f a b) ∧ Drew w w' := by
  have ht := fun W => rtakes_any W f true
  rw [hx] at ht
  have Ht := Lib.hid ht
  have Hf : Hid (dyadF f a b = (0, 10)) := by unfold Hid dyadF; rw [hx]; rfl
  clear ht hx
  go_enter Try.func103, Try.ntmps103
  go_wp2_with (go_at_call 57; refine (Ht.out _).mono ?_; rintro e w' ⟨rfl, rfl⟩)
  go_ret2
  exact ⟨ret_two Hf.out, Drew.refl _⟩

theorem wrap_bits {a b : Int} (ha : isBit a = true) (hb : isBit b = true) : wrap64 (a * b) = a * b := by
  unfold isBit at ha hb
  simp at ha hb
  rcases ha with rfl | rfl <;> rcases hb with rfl | rfl <;> exact wrap_id (by unfold In64; omega)

theorem rtakes_at (W : World) (f : Int) (two b : Bool) (h : takes f two = b) : Calls Try.prog 57 #[.int .u8 f, .bool two] W fun e w' => e = .returned (.bool b) ∧ W = w' := by
  rw [← h]; exact rtakes_any W f two

set_option maxHeartbeats 4000000 in
theorem rdyad_yes (w : World) (f a b : Int) (hx : takes f true = true) (ha : In64 a) (hb : In64 b) : Calls Try.prog 103 #[.int .u8 f, .int .i64 a, .int .i64 b] w fun e w' => e = two (dyadF f a b) ∧ Drew w w' := by
  have Ha := Lib.hid ha; have Hb := Lib.hid hb; clear ha hb
  have hc := takesT hx
  clear hx
  rcases hc with rfl | rfl | rfl | rfl | rfl | rfl | rfl | rfl | rfl | rfl | rfl | rfl | rfl | rfl | rfl | rfl
  iterate 3
    · go_enter Try.func103, Try.ntmps103
      go_wp2_with (go_at_call 57; refine (rtakes_at _ _ _ true rfl).mono ?_; rintro e w' ⟨rfl, rfl⟩)
      go_ret2
      exact ⟨ret_two (by simp [dyadF, takes, refusesB, dyv]), by first | exact Drew.refl _ | exact Drew.mk _ _⟩
  -- divide
  · by_cases h0 : b = 0
    · have h0' : (b == 0) = true := by simpa using h0
      have H0 := Lib.hid h0; clear h0
      go_enter Try.func103, Try.ntmps103
      go_wp2_with (go_at_call 57; refine (rtakes_at _ _ _ true rfl).mono ?_; rintro e w' ⟨rfl, rfl⟩)
      go_ret2
      exact ⟨ret_two (by simp [dyadF, takes, refusesB, H0.out]), by first | exact Drew.refl _ | exact Drew.mk _ _⟩
    · have h0' : (b == 0) = false := by simpa using h0
      have Hr := Lib.hid (fun W => floor_any W a b h0)
      have H0 := Lib.hid h0; clear h0
      go_enter Try.func103, Try.ntmps103
      go_wp2_with (first | (go_at_call 57; refine (rtakes_at _ _ _ true rfl).mono ?_; rintro e w' ⟨rfl, rfl⟩) | (go_at_call 137; refine (Hr.out _).mono ?_; rintro e w' ⟨rfl, n, rfl⟩))
      go_ret2
      exact ⟨ret_two (by simp [dyadF, takes, refusesB, dyv, H0.out]), by first | exact Drew.refl _ | exact Drew.mk _ _⟩
  -- residue
  · have Hr := Lib.hid (fun W => residue_any W a b Ha.out Hb.out)
    have Hf : Hid (dyadF 5 a b = (if a = 0 then b else b.fmod a, 0)) := by unfold Hid; simp [dyadF, takes, refusesB, dyv]
    generalize (if a = 0 then b else b.fmod a) = r at Hr Hf
    go_enter Try.func103, Try.ntmps103
    go_wp2_with (first | (go_at_call 57; refine (rtakes_at _ _ _ true rfl).mono ?_; rintro e w' ⟨rfl, rfl⟩) | (go_at_call 138; refine (Hr.out _).mono ?_; rintro e w' ⟨rfl, n, rfl⟩))
    go_ret2
    exact ⟨ret_two Hf.out, by first | exact Drew.refl _ | exact Drew.mk _ _⟩
  -- min, max
  iterate 2
    · go_enter Try.func103, Try.ntmps103
      go_wp2_with (go_at_call 57; refine (rtakes_at _ _ _ true rfl).mono ?_; rintro e w' ⟨rfl, rfl⟩)
      all_goals
        go_ret2
        exact ⟨ret_two (by simp [dyadF, takes, refusesB, dyv]; try omega), by first | exact Drew.refl _ | exact Drew.mk _ _⟩
  iterate 6
    · go_enter Try.func103, Try.ntmps103
      go_wp2_with (first | (go_at_call 57; refine (rtakes_at _ _ _ true rfl).mono ?_; rintro e w' ⟨rfl, rfl⟩) | (go_at_call 135; refine (bit_any _ _).mono ?_; rintro e w' ⟨rfl, rfl⟩))
      go_ret2
      exact ⟨ret_two (by simp [dyadF, takes, refusesB, dyv]), by first | exact Drew.refl _ | exact Drew.mk _ _⟩
  iterate 2
    · have Hw := Lib.hid (wrap_bits (a := a) (b := b))
      have hab := fun W => boolean_any W a
      have hbb := fun W => boolean_any W b
      cases hx : isBit a
      all_goals
        cases hy : isBit b
        all_goals
          rw [hx] at hab
          rw [hy] at hbb
          have Hab := Lib.hid hab; have Hbb := Lib.hid hbb
          have Hx := Lib.hid hx; have Hy := Lib.hid hy
          clear hab hbb hx hy
          go_enter Try.func103, Try.ntmps103
          go_wp2_with (first | (go_at_call 57; refine (rtakes_at _ _ _ true rfl).mono ?_; rintro e w' ⟨rfl, rfl⟩) | (go_at_call 136; refine (Hab.out _).mono ?_; rintro e w' ⟨rfl, rfl⟩) | (go_at_call 136; refine (Hbb.out _).mono ?_; rintro e w' ⟨rfl, rfl⟩))
          all_goals
            go_ret2
            exact ⟨ret_two (by simp [dyadF, takes, refusesB, dyv, Hx.out, Hy.out]; try first | exact (Hw.out Hx.out Hy.out).symm | omega), by first | exact Drew.refl _ | exact Drew.mk _ _⟩
  -- power
  · by_cases h0 : b < 0
    · have H0 := Lib.hid h0
      go_enter Try.func103, Try.ntmps103
      go_wp2_with (go_at_call 57; refine (rtakes_at _ _ _ true rfl).mono ?_; rintro e w' ⟨rfl, rfl⟩)
      go_ret2
      exact ⟨ret_two (by simp [dyadF, takes, refusesB, H0.out]), by first | exact Drew.refl _ | exact Drew.mk _ _⟩
    · have Hr := Lib.hid (fun W => power_any W a b (by omega) Hb.out.2)
      have Hf : Hid (dyadF 17 a b = (wrap64 (a ^ b.toNat), 0)) := by unfold Hid; simp [dyadF, takes, refusesB, dyv, h0]
      go_enter Try.func103, Try.ntmps103
      go_wp2_with (first | (go_at_call 57; refine (rtakes_at _ _ _ true rfl).mono ?_; rintro e w' ⟨rfl, rfl⟩) | (go_at_call 139; refine (Hr.out _).mono ?_; rintro e w' ⟨rfl, rfl⟩))
      go_ret2
      exact ⟨ret_two Hf.out, by first | exact Drew.refl _ | exact Drew.mk _ _⟩

theorem rdyad_any (w : World) (f a b : Int) (ha : In64 a) (hb : In64 b) : Calls Try.prog 103 #[.int .u8 f, .int .i64 a, .int .i64 b] w fun e w' => e = two (dyadF f a b) ∧ Drew w w' := by
  cases hx : takes f true with
  | false => exact rdyad_no w f a b hx
  | true => exact rdyad_yes w f a b hx ha hb
end Go.Proofs.Ytmlfeocdcjhhaaa
