import Derived.Test.YtmjkncmpanhgjaaPA7
namespace Go.Proofs.Ytmjkncmpanhgjaa
set_option linter.unusedVariables false
set_option linter.unusedSimpArgs false
set_option maxRecDepth 100000
open Go.RowKit

theorem takesT {f : Int} (h : takes f true = true) : f = 1 ∨ f = 2 ∨ f = 3 ∨ f = 4 ∨ f = 5 ∨ f = 6 ∨ f = 7 ∨ f = 8 ∨ f = 9 ∨ f = 10 ∨ f = 11 ∨ f = 12 ∨ f = 13 ∨ f = 14 ∨ f = 15 ∨ f = 17 := by
  have h1 := takes_in h
  have hf16 : f ≠ 16 := by rintro rfl; simp [takes] at h
  omega
theorem takesF {f : Int} (h : takes f false = true) : f = 1 ∨ f = 2 ∨ f = 3 ∨ f = 4 ∨ f = 5 ∨ f = 6 ∨ f = 7 ∨ f = 16 := by
  have h1 := takes_in h
  unfold takes at h
  rw [if_neg (by omega)] at h
  split at h
  · omega
  · simp at h; omega

set_option maxHeartbeats 2000000 in
theorem rdyad_no (w : World) (f a b : Int) (hx : takes f true = false) : Calls Try.prog 66 #[.int .u8 f, .int .i64 a, .int .i64 b] w fun e w' => e = two (dyadF f a b) ∧ Drew w w' := by
  have ht := fun W => rtakes_any W f true
  rw [hx] at ht
  have Ht := Lib.hid ht
  have Hf : Hid (dyadF f a b = (0, 10)) := by unfold Hid dyadF; rw [hx]; rfl
  clear ht hx
  go_enter Try.func66, Try.ntmps66
  go_wp2_with (go_at_call 46; refine (Ht.out _).mono ?_; rintro e w' ⟨rfl, rfl⟩)
  go_ret2
  exact ⟨ret_two Hf.out, Drew.refl _⟩

theorem wrap_bits {a b : Int} (ha : isBit a = true) (hb : isBit b = true) : wrap64 (a * b) = a * b := by
  unfold isBit at ha hb
  simp at ha hb
  rcases ha with rfl | rfl <;> rcases hb with rfl | rfl <;> exact wrap_id (by unfold In64; omega)

theorem rtakes_at (W : World) (f : Int) (two b : Bool) (h : takes f two = b) : Calls Try.prog 46 #[.int .u8 f, .bool two] W fun e w' => e = .returned (.bool b) ∧ W = w' := by
  rw [← h]; exact rtakes_any W f two

set_option maxHeartbeats 4000000 in
theorem rdyad_yes (w : World) (f a b : Int) (hx : takes f true = true) (ha : In64 a) (hb : In64 b) : Calls Try.prog 66 #[.int .u8 f, .int .i64 a, .int .i64 b] w fun e w' => e = two (dyadF f a b) ∧ Drew w w' := by
  have Ha := Lib.hid ha; have Hb := Lib.hid hb; clear ha hb
  have hc := takesT hx
  clear hx
  rcases hc with rfl | rfl | rfl | rfl | rfl | rfl | rfl | rfl | rfl | rfl | rfl | rfl | rfl | rfl | rfl | rfl
  iterate 3
    · go_enter Try.func66, Try.ntmps66
      go_wp2_with (go_at_call 46; refine (rtakes_at _ _ _ true rfl).mono ?_; rintro e w' ⟨rfl, rfl⟩)
      go_ret2
      exact ⟨ret_two (by simp [dyadF, takes, refusesB, dyv]), by first | exact Drew.refl _ | exact Drew.mk _ _⟩
  -- divide
  · by_cases h0 : b = 0
    · have h0' : (b == 0) = true := by simpa using h0
      have H0 := Lib.hid h0; clear h0
      go_enter Try.func66, Try.ntmps66
      go_wp2_with (go_at_call 46; refine (rtakes_at _ _ _ true rfl).mono ?_; rintro e w' ⟨rfl, rfl⟩)
      go_ret2
      exact ⟨ret_two (by simp [dyadF, takes, refusesB, H0.out]), by first | exact Drew.refl _ | exact Drew.mk _ _⟩
    · have h0' : (b == 0) = false := by simpa using h0
      have Hr := Lib.hid (fun W => floor_any W a b h0)
      have H0 := Lib.hid h0; clear h0
      go_enter Try.func66, Try.ntmps66
      go_wp2_with (first | (go_at_call 46; refine (rtakes_at _ _ _ true rfl).mono ?_; rintro e w' ⟨rfl, rfl⟩) | (go_at_call 85; refine (Hr.out _).mono ?_; rintro e w' ⟨rfl, n, rfl⟩))
      go_ret2
      exact ⟨ret_two (by simp [dyadF, takes, refusesB, dyv, H0.out]), by first | exact Drew.refl _ | exact Drew.mk _ _⟩
  -- residue
  · have Hr := Lib.hid (fun W => residue_any W a b Ha.out Hb.out)
    have Hf : Hid (dyadF 5 a b = (if a = 0 then b else b.fmod a, 0)) := by unfold Hid; simp [dyadF, takes, refusesB, dyv]
    generalize (if a = 0 then b else b.fmod a) = r at Hr Hf
    go_enter Try.func66, Try.ntmps66
    go_wp2_with (first | (go_at_call 46; refine (rtakes_at _ _ _ true rfl).mono ?_; rintro e w' ⟨rfl, rfl⟩) | (go_at_call 86; refine (Hr.out _).mono ?_; rintro e w' ⟨rfl, n, rfl⟩))
    go_ret2
    exact ⟨ret_two Hf.out, by first | exact Drew.refl _ | exact Drew.mk _ _⟩
  -- min, max
  iterate 2
    · go_enter Try.func66, Try.ntmps66
      go_wp2_with (go_at_call 46; refine (rtakes_at _ _ _ true rfl).mono ?_; rintro e w' ⟨rfl, rfl⟩)
      all_goals
        go_ret2
        exact ⟨ret_two (by simp [dyadF, takes, refusesB, dyv]; try omega), by first | exact Drew.refl _ | exact Drew.mk _ _⟩
  iterate 6
    · go_enter Try.func66, Try.ntmps66
      go_wp2_with (first | (go_at_call 46; refine (rtakes_at _ _ _ true rfl).mono ?_; rintro e w' ⟨rfl, rfl⟩) | (go_at_call 76; refine (bit_any _ _).mono ?_; rintro e w' ⟨rfl, rfl⟩))
      go_ret2
      exact ⟨ret_two (by simp [dyadF, takes, refusesB, dyv]), by first | exact Drew.refl _ | exact Drew.mk _ _⟩
  iterate 2
    · have Hw := Lib.hid (wrap_bits (a := a) (b := b))
      have hab := fun W => boolean_any W a
      have hbb := fun W => boolean_any W b
      cases hx : isBit a
      all_goals
        cases hy : isBit b
        all_goals
          rw [hx] at hab
          rw [hy] at hbb
          have Hab := Lib.hid hab; have Hbb := Lib.hid hbb
          have Hx := Lib.hid hx; have Hy := Lib.hid hy
          clear hab hbb hx hy
          go_enter Try.func66, Try.ntmps66
          go_wp2_with (first | (go_at_call 46; refine (rtakes_at _ _ _ true rfl).mono ?_; rintro e w' ⟨rfl, rfl⟩) | (go_at_call 77; refine (Hab.out _).mono ?_; rintro e w' ⟨rfl, rfl⟩) | (go_at_call 77; refine (Hbb.out _).mono ?_; rintro e w' ⟨rfl, rfl⟩))
          all_goals
            go_ret2
            exact ⟨ret_two (by simp [dyadF, takes, refusesB, dyv, Hx.out, Hy.out]; try first | exact (Hw.out Hx.out Hy.out).symm | omega), by first | exact Drew.refl _ | exact Drew.mk _ _⟩
  -- power
  · by_cases h0 : b < 0
    · have H0 := Lib.hid h0
      go_enter Try.func66, Try.ntmps66
      go_wp2_with (go_at_call 46; refine (rtakes_at _ _ _ true rfl).mono ?_; rintro e w' ⟨rfl, rfl⟩)
      go_ret2
      exact ⟨ret_two (by simp [dyadF, takes, refusesB, H0.out]), by first | exact Drew.refl _ | exact Drew.mk _ _⟩
    · have Hr := Lib.hid (fun W => power_any W a b (by omega) Hb.out.2)
      have Hf : Hid (dyadF 17 a b = (wrap64 (a ^ b.toNat), 0)) := by unfold Hid; simp [dyadF, takes, refusesB, dyv, h0]
      go_enter Try.func66, Try.ntmps66
      go_wp2_with (first | (go_at_call 46; refine (rtakes_at _ _ _ true rfl).mono ?_; rintro e w' ⟨rfl, rfl⟩) | (go_at_call 87; refine (Hr.out _).mono ?_; rintro e w' ⟨rfl, rfl⟩))
      go_ret2
      exact ⟨ret_two Hf.out, by first | exact Drew.refl _ | exact Drew.mk _ _⟩

theorem rdyad_any (w : World) (f a b : Int) (ha : In64 a) (hb : In64 b) : Calls Try.prog 66 #[.int .u8 f, .int .i64 a, .int .i64 b] w fun e w' => e = two (dyadF f a b) ∧ Drew w w' := by
  cases hx : takes f true with
  | false => exact rdyad_no w f a b hx
  | true => exact rdyad_yes w f a b hx ha hb
end Go.Proofs.Ytmjkncmpanhgjaa

namespace Go.Proofs.Ytmjkncmpanhgjaa
set_option linter.unusedVariables false
set_option linter.unusedSimpArgs false
set_option maxRecDepth 100000
open Go.RowKit

theorem takes_at (W : World) (f : Int) (two b : Bool) (h : takes f two = b) : Calls Try.prog 29 #[.int .u8 f, .bool two] W fun e w' => e = .returned (.bool b) ∧ W = w' := by
  rw [← h]; exact takes_any W f two

theorem wrap_truths (x y : Bool) : wrap64 (truthI x - truthI y) = truthI x - truthI y := by
  cases x <;> cases y <;> exact wrap_id (by unfold In64 truthI; simp)

theorem xor_bit {a : Int} (ha : isBit a = true) : bits BinOp.xor IntKind.i64 a 1 = 1 - a := by
  unfold isBit at ha
  simp at ha
  rcases ha with rfl | rfl <;> decide

set_option maxHeartbeats 2000000 in
theorem monad_any (w : World) (f a : Int) (ha : In64 a) : Calls Try.prog 40 #[.int .u8 f, .int .i64 a] w fun e w' => e = two (monadF f a) ∧ Drew w w' := by
  have Ha := Lib.hid ha
  cases hx : takes f false with
  | false =>
    have Hf : Hid (monadF f a = (0, 10)) := by unfold Hid monadF; rw [hx]; rfl
    have Hx := Lib.hid hx; clear hx ha
    go_enter Try.func40, Try.ntmps40
    go_wp2_with (go_at_call 29; refine (takes_at _ _ _ false Hx.out).mono ?_; rintro e w' ⟨rfl, rfl⟩)
    go_ret2
    exact ⟨ret_two Hf.out, Drew.refl _⟩
  | true =>
    have hu := u64_bit a ha
    have hc := takesF hx
    clear hx ha
    rcases hc with rfl | rfl | rfl | rfl | rfl | rfl | rfl | rfl
    iterate 3
      · clear hu
        go_enter Try.func40, Try.ntmps40
        go_wp2_with (first | (go_at_call 29; refine (takes_at _ _ _ true rfl).mono ?_; rintro e w' ⟨rfl, rfl⟩) | (go_at_call 71; refine (truth_any _ _).mono ?_; rintro e w' ⟨rfl, rfl⟩))
        go_ret2
        exact ⟨ret_two (by simp [monadF, takes]; try exact (wrap_truths _ _).symm), Drew.refl _⟩
    · clear hu
      have Hd := Lib.hid (fun W => dyad_any W 4 1 a (by unfold In64; omega) Ha.out)
      have Hf : Hid (monadF 4 a = dyadF 4 1 a) := by unfold Hid; simp [monadF, takes]
      generalize dyadF 4 1 a = r at Hd Hf
      obtain ⟨r1, r2⟩ := r
      unfold two at Hd
      go_enter Try.func40, Try.ntmps40
      go_wp2_with (first | (go_at_call 29; refine (takes_at _ _ _ true rfl).mono ?_; rintro e w' ⟨rfl, rfl⟩) | (go_at_call 72; refine (Hd.out _).mono ?_; rintro e w' ⟨rfl, n, rfl⟩))
      go_ret2
      exact ⟨ret_two Hf.out, Drew.mk _ _⟩
    · clear hu
      go_enter Try.func40, Try.ntmps40
      go_wp2_with (go_at_call 29; refine (takes_at _ _ _ true rfl).mono ?_; rintro e w' ⟨rfl, rfl⟩)
      all_goals
        go_ret2
        exact ⟨ret_two (by simp [monadF, takes]; try omega), Drew.refl _⟩
    iterate 2
      · clear hu
        go_enter Try.func40, Try.ntmps40
        go_wp2_with (go_at_call 29; refine (takes_at _ _ _ true rfl).mono ?_; rintro e w' ⟨rfl, rfl⟩)
        go_ret2
        exact ⟨ret_two (by simp [monadF, takes]; try exact (wrap_truths _ _).symm), Drew.refl _⟩
    · cases hb : isBit a with
      | false =>
        rw [hb] at hu
        have Hb := Lib.hid hb; clear hb
        go_enter Try.func40, Try.ntmps40
        go_wp2_with (go_at_call 29; refine (takes_at _ _ _ true rfl).mono ?_; rintro e w' ⟨rfl, rfl⟩)
        go_ret2
        exact ⟨ret_two (by simp [monadF, takes, Hb.out]), Drew.refl _⟩
      | true =>
        rw [hb] at hu
        have hz := xor_bit hb
        have Hb := Lib.hid hb; clear hb
        go_enter Try.func40, Try.ntmps40
        go_wp2_with (go_at_call 29; refine (takes_at _ _ _ true rfl).mono ?_; rintro e w' ⟨rfl, rfl⟩)
        go_ret2
        exact ⟨ret_two (by simp [monadF, takes, Hb.out]), Drew.refl _⟩

set_option maxHeartbeats 2000000 in
theorem rmonad_any (w : World) (f a : Int) (ha : In64 a) : Calls Try.prog 47 #[.int .u8 f, .int .i64 a] w fun e w' => e = two (monadF f a) ∧ Drew w w' := by
  have Ha := Lib.hid ha
  clear ha
  cases hx : takes f false with
  | false =>
    have Hf : Hid (monadF f a = (0, 10)) := by unfold Hid monadF; rw [hx]; rfl
    have Hx := Lib.hid hx; clear hx
    go_enter Try.func47, Try.ntmps47
    go_wp2_with (go_at_call 46; refine (rtakes_at _ _ _ false Hx.out).mono ?_; rintro e w' ⟨rfl, rfl⟩)
    go_ret2
    exact ⟨ret_two Hf.out, Drew.refl _⟩
  | true =>
    have hc := takesF hx
    clear hx
    rcases hc with rfl | rfl | rfl | rfl | rfl | rfl | rfl | rfl
    iterate 3
      · go_enter Try.func47, Try.ntmps47
        go_wp2_with (first | (go_at_call 46; refine (rtakes_at _ _ _ true rfl).mono ?_; rintro e w' ⟨rfl, rfl⟩) | (go_at_call 76; refine (bit_any _ _).mono ?_; rintro e w' ⟨rfl, rfl⟩))
        go_ret2
        exact ⟨ret_two (by simp [monadF, takes]; try exact (wrap_truths _ _).symm), Drew.refl _⟩
    · have Hd := Lib.hid (fun W => rdyad_any W 4 1 a (by unfold In64; omega) Ha.out)
      have Hf : Hid (monadF 4 a = dyadF 4 1 a) := by unfold Hid; simp [monadF, takes]
      generalize dyadF 4 1 a = r at Hd Hf
      obtain ⟨r1, r2⟩ := r
      unfold two at Hd
      go_enter Try.func47, Try.ntmps47
      go_wp2_with (first | (go_at_call 46; refine (rtakes_at _ _ _ true rfl).mono ?_; rintro e w' ⟨rfl, rfl⟩) | (go_at_call 66; refine (Hd.out _).mono ?_; rintro e w' ⟨rfl, n, rfl⟩))
      go_ret2
      exact ⟨ret_two Hf.out, Drew.mk _ _⟩
    · by_cases h0 : a < 0
      · have H0 : Hid (max a (wrap64 (-a)) = wrap64 (-a)) := by unfold Hid wrap64; have := Ha.out; unfold In64 at this; omega
        go_enter Try.func47, Try.ntmps47
        go_wp2_with (go_at_call 46; refine (rtakes_at _ _ _ true rfl).mono ?_; rintro e w' ⟨rfl, rfl⟩)
        go_ret2
        exact ⟨ret_two (by simp [monadF, takes, H0.out]), Drew.refl _⟩
      · have H0 : Hid (max a (wrap64 (-a)) = a) := by unfold Hid wrap64; have := Ha.out; unfold In64 at this; omega
        go_enter Try.func47, Try.ntmps47
        go_wp2_with (go_at_call 46; refine (rtakes_at _ _ _ true rfl).mono ?_; rintro e w' ⟨rfl, rfl⟩)
        go_ret2
        exact ⟨ret_two (by simp [monadF, takes, H0.out]), Drew.refl _⟩
    iterate 2
      · go_enter Try.func47, Try.ntmps47
        go_wp2_with (go_at_call 46; refine (rtakes_at _ _ _ true rfl).mono ?_; rintro e w' ⟨rfl, rfl⟩)
        go_ret2
        exact ⟨ret_two (by simp [monadF, takes]; try exact (wrap_truths _ _).symm), Drew.refl _⟩
    · have hbb := fun W => boolean_any W a
      cases hb : isBit a with
      | false =>
        rw [hb] at hbb
        have Hbb := Lib.hid hbb
        have Hb := Lib.hid hb; clear hb hbb
        go_enter Try.func47, Try.ntmps47
        go_wp2_with (first | (go_at_call 46; refine (rtakes_at _ _ _ true rfl).mono ?_; rintro e w' ⟨rfl, rfl⟩) | (go_at_call 77; refine (Hbb.out _).mono ?_; rintro e w' ⟨rfl, rfl⟩))
        go_ret2
        exact ⟨ret_two (by simp [monadF, takes, Hb.out]), Drew.refl _⟩
      | true =>
        rw [hb] at hbb
        have hw : wrap64 (1 - a) = 1 - a := by unfold isBit at hb; simp at hb; unfold wrap64; omega
        have Hw := Lib.hid hw; clear hw
        have Hbb := Lib.hid hbb
        have Hb := Lib.hid hb; clear hb hbb
        go_enter Try.func47, Try.ntmps47
        go_wp2_with (first | (go_at_call 46; refine (rtakes_at _ _ _ true rfl).mono ?_; rintro e w' ⟨rfl, rfl⟩) | (go_at_call 77; refine (Hbb.out _).mono ?_; rintro e w' ⟨rfl, rfl⟩))
        go_ret2
        exact ⟨ret_two (by simp [monadF, takes, Hb.out, Hw.out]), Drew.refl _⟩
end Go.Proofs.Ytmjkncmpanhgjaa

namespace Go.Proofs.Ytmjkncmpanhgjaa
set_option linter.unusedVariables false
set_option linter.unusedSimpArgs false
set_option maxRecDepth 100000
open Go.RowKit

def ub (p : Int × Bool) : Ending := .returned (.tuple #[.int .i64 p.1, .bool p.2])
theorem ret_ub {a : Int} {b : Bool} {p : Int × Bool} (h : p = (a, b)) : Ending.returned (.tuple #[.int .i64 a, .bool b]) = ub p := by subst h; rfl

theorem unit_no {f : Int} (h : takes f true = false) : unitF f = (0, false) := by
  have : ¬ (f = 6 ∨ f = 7 ∨ f = 3 ∨ f = 4 ∨ f = 8 ∨ f = 11 ∨ f = 12 ∨ f = 14 ∨ f = 17) := by
    rintro (rfl | rfl | rfl | rfl | rfl | rfl | rfl | rfl | rfl) <;> simp [takes] at h
  unfold unitF
  rw [if_neg (by omega), if_neg (by omega), if_neg (by omega), h]
theorem eqs_no {f : Int} (h : takes f true = false) : (f == 1) = false ∧ (f == 2) = false ∧ (f == 3) = false ∧ (f == 4) = false ∧ (f == 5) = false ∧ (f == 6) = false ∧ (f == 7) = false ∧ (f == 8) = false ∧ (f == 9) = false ∧ (f == 10) = false ∧ (f == 11) = false ∧ (f == 12) = false ∧ (f == 13) = false ∧ (f == 14) = false ∧ (f == 15) = false ∧ (f == 17) = false := by
  have : ¬ (f = 1 ∨ f = 2 ∨ f = 3 ∨ f = 4 ∨ f = 5 ∨ f = 6 ∨ f = 7 ∨ f = 8 ∨ f = 9 ∨ f = 10 ∨ f = 11 ∨ f = 12 ∨ f = 13 ∨ f = 14 ∨ f = 15 ∨ f = 17) := by
    rintro (rfl | rfl | rfl | rfl | rfl | rfl | rfl | rfl | rfl | rfl | rfl | rfl | rfl | rfl | rfl | rfl) <;> simp [takes] at h
  simp
  omega

set_option maxHeartbeats 2000000 in
theorem unit_any (w : World) (f : Int) : Calls Try.prog 61 #[.int .u8 f] w fun e w' => e = ub (unitF f) ∧ Drew w w' := by
  cases hx : takes f true with
  | false =>
    have Hf : Hid (unitF f = (0, false)) := unit_no hx
    obtain ⟨h1, h2, h3, h4, h5, h6, h7, h8, h9, h10, h11, h12, h13, h14, h15, h17⟩ := eqs_no hx
    clear h1 h2 h5 h9 h10 h13 h15
    have Hx := Lib.hid hx; clear hx
    go_enter Try.func61, Try.ntmps61
    go_wp2_with (go_at_call 29; refine (takes_at _ _ _ false Hx.out).mono ?_; rintro e w' ⟨rfl, rfl⟩)
    go_ret2
    exact ⟨ret_ub Hf.out, Drew.refl _⟩
  | true =>
    rcases takesT hx with rfl | rfl | rfl | rfl | rfl | rfl | rfl | rfl | rfl | rfl | rfl | rfl | rfl | rfl | rfl | rfl
    all_goals
      clear hx
      go_enter Try.func61, Try.ntmps61
      go_wp2_with (go_at_call 29; refine (takes_at _ _ _ true rfl).mono ?_; rintro e w' ⟨rfl, rfl⟩)
      go_ret2
      exact ⟨ret_ub (by rfl), Drew.refl _⟩

set_option maxHeartbeats 2000000 in
theorem runit_any (w : World) (f : Int) : Calls Try.prog 63 #[.int .u8 f] w fun e w' => e = ub (unitF f) ∧ Drew w w' := by
  cases hx : takes f true with
  | false =>
    have Hf : Hid (unitF f = (0, false)) := unit_no hx
    obtain ⟨h1, h2, h3, h4, h5, h6, h7, h8, h9, h10, h11, h12, h13, h14, h15, h17⟩ := eqs_no hx
    clear hx
    go_enter Try.func63, Try.ntmps63
    go_wp2
    go_ret2
    exact ⟨ret_ub Hf.out, Drew.refl _⟩
  | true =>
    rcases takesT hx with rfl | rfl | rfl | rfl | rfl | rfl | rfl | rfl | rfl | rfl | rfl | rfl | rfl | rfl | rfl | rfl
    all_goals
      clear hx
      go_enter Try.func63, Try.ntmps63
      go_wp2
      go_ret2
      exact ⟨ret_ub (by rfl), Drew.refl _⟩

theorem eqs_scan {f : Int} (h : scansB f = false) : (f == 1) = false ∧ (f == 3) = false ∧ (f == 6) = false ∧ (f == 7) = false ∧ (f == 14) = false ∧ (f == 15) = false := by
  simp [scansB] at h; simp; omega
theorem eqs_scan1 {f : Int} (h : scansB f = true) : f = 1 ∨ f = 3 ∨ f = 6 ∨ f = 7 ∨ f = 14 ∨ f = 15 := by
  simp [scansB] at h; omega

set_option maxHeartbeats 2000000 in
theorem scans_any (w : World) (f : Int) : Calls Try.prog 30 #[.int .u8 f] w fun e w' => e = .returned (.bool (scansB f)) ∧ Drew w w' := by
  cases hx : scansB f with
  | false =>
    obtain ⟨h1, h3, h6, h7, h14, h15⟩ := eqs_scan hx
    clear hx
    go_enter Try.func30, Try.ntmps30
    go_wp2
    go_ret
    exact ⟨rfl, Drew.refl _⟩
  | true =>
    rcases eqs_scan1 hx with rfl | rfl | rfl | rfl | rfl | rfl
    all_goals
      clear hx
      go_enter Try.func30, Try.ntmps30
      go_wp2
      go_ret
      exact ⟨rfl, Drew.refl _⟩

set_option maxHeartbeats 2000000 in
theorem total_any (w : World) (f : Int) (two : Bool) : Calls Try.prog 31 #[.int .u8 f, .bool two] w fun e w' => e = .returned (.bool (totalB f two)) ∧ Drew w w' := by
  by_cases hs : f = 4 ∨ f = 14 ∨ f = 15 ∨ f = 17 ∨ f = 16
  · rcases hs with rfl | rfl | rfl | rfl | rfl
    all_goals
      go_enter Try.func31, Try.ntmps31
      go_wp2
      go_ret
      exact ⟨rfl, Drew.refl _⟩
  · have Hf : Hid (takes f two = totalB f two) := by unfold Hid totalB; rw [if_neg hs]
    have h4 : (f == 4) = false := by simp; omega
    have h14 : (f == 14) = false := by simp; omega
    have h15 : (f == 15) = false := by simp; omega
    have h17 : (f == 17) = false := by simp; omega
    have h16 : (f == 16) = false := by simp; omega
    clear hs
    generalize totalB f two = r at Hf
    go_enter Try.func31, Try.ntmps31
    go_wp2_with (go_at_call 29; refine (takes_at _ _ _ r Hf.out).mono ?_; rintro e w' ⟨rfl, rfl⟩)
    go_ret
    exact ⟨rfl, Drew.refl _⟩

/-- a call with known values -/
theorem dyad_at (W : World) (f a b n e0 : Int) (ha : In64 a) (hb : In64 b) (h : dyadF f a b = (n, e0)) : Calls Try.prog 72 #[.int .u8 f, .int .i64 a, .int .i64 b] W fun e w' => e = .returned (.tuple #[.int .i64 n, .int .i64 e0]) ∧ ∃ n, w' = W.drewN n :=
  (dyad_any W f a b ha hb).mono fun _ _ ⟨h1, h2⟩ => ⟨by rw [h1, h]; rfl, h2⟩
theorem monad_at (W : World) (f a n e0 : Int) (ha : In64 a) (h : monadF f a = (n, e0)) : Calls Try.prog 40 #[.int .u8 f, .int .i64 a] W fun e w' => e = .returned (.tuple #[.int .i64 n, .int .i64 e0]) ∧ ∃ n, w' = W.drewN n :=
  (monad_any W f a ha).mono fun _ _ ⟨h1, h2⟩ => ⟨by rw [h1, h]; rfl, h2⟩
theorem rdyad_at (W : World) (f a b n e0 : Int) (ha : In64 a) (hb : In64 b) (h : dyadF f a b = (n, e0)) : Calls Try.prog 66 #[.int .u8 f, .int .i64 a, .int .i64 b] W fun e w' => e = .returned (.tuple #[.int .i64 n, .int .i64 e0]) ∧ ∃ n, w' = W.drewN n :=
  (rdyad_any W f a b ha hb).mono fun _ _ ⟨h1, h2⟩ => ⟨by rw [h1, h]; rfl, h2⟩
theorem rmonad_at (W : World) (f a n e0 : Int) (ha : In64 a) (h : monadF f a = (n, e0)) : Calls Try.prog 47 #[.int .u8 f, .int .i64 a] W fun e w' => e = .returned (.tuple #[.int .i64 n, .int .i64 e0]) ∧ ∃ n, w' = W.drewN n :=
  (rmonad_any W f a ha).mono fun _ _ ⟨h1, h2⟩ => ⟨by rw [h1, h]; rfl, h2⟩
theorem unit_at (W : World) (f n : Int) (b : Bool) (h : unitF f = (n, b)) : Calls Try.prog 61 #[.int .u8 f] W fun e w' => e = .returned (.tuple #[.int .i64 n, .bool b]) ∧ ∃ n, w' = W.drewN n :=
  (unit_any W f).mono fun _ _ ⟨h1, h2⟩ => ⟨by rw [h1, h]; rfl, h2⟩
theorem runit_at (W : World) (f n : Int) (b : Bool) (h : unitF f = (n, b)) : Calls Try.prog 63 #[.int .u8 f] W fun e w' => e = .returned (.tuple #[.int .i64 n, .bool b]) ∧ ∃ n, w' = W.drewN n :=
  (runit_any W f).mono fun _ _ ⟨h1, h2⟩ => ⟨by rw [h1, h]; rfl, h2⟩
theorem scans_at (W : World) (f : Int) (b : Bool) (h : scansB f = b) : Calls Try.prog 30 #[.int .u8 f] W fun e w' => e = .returned (.bool b) ∧ ∃ n, w' = W.drewN n :=
  (scans_any W f).mono fun _ _ ⟨h1, h2⟩ => ⟨by rw [h1, h], h2⟩
theorem total_at (W : World) (f : Int) (two b : Bool) (h : totalB f two = b) : Calls Try.prog 31 #[.int .u8 f, .bool two] W fun e w' => e = .returned (.bool b) ∧ ∃ n, w' = W.drewN n :=
  (total_any W f two).mono fun _ _ ⟨h1, h2⟩ => ⟨by rw [h1, h], h2⟩
end Go.Proofs.Ytmjkncmpanhgjaa

namespace Go.Proofs.Ytmjkncmpanhgjaa
set_option linter.unusedVariables false
set_option linter.unusedSimpArgs false
set_option maxRecDepth 100000
open Go.RowKit

theorem ex1 : dyadF 4 (-7) 2 = (-4, 0) := by decide +kernel
theorem ex2 : dyadF 5 (-3) 7 = (-2, 0) := by simp [dyadF, takes, refusesB, dyv]
theorem ex3 : dyadF 17 2 10 = (1024, 0) := by decide +kernel
theorem ex4 : dyadF 14 1 2 = (0, 11) := by decide +kernel
theorem ex5 : monadF 8 1 = (0, 10) := by decide +kernel
theorem ex6 : unitF 4 = (1, true) := by decide +kernel

end Go.Proofs.Ytmjkncmpanhgjaa
