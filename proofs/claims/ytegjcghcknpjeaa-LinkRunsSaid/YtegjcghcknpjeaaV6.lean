import Derived.Test.YtegjcghcknpjeaaV5
namespace Go.Proofs.Ytegjcghcknpjeaa
open Go.RowKit

theorem takes_at (W : World) (f : Int) (two b : Bool) (h : takes f two = b) : Calls Try.prog 40 #[.int .u8 f, .bool two] W fun e w' => e = .returned (.bool b) ∧ W = w' := by
  rw [← h]; exact takes_any W f two

theorem wrap_truths (x y : Bool) : wrap64 (truthI x - truthI y) = truthI x - truthI y := by
  cases x <;> cases y <;> exact wrap_id (by unfold In64 truthI; simp)

theorem xor_bit {a : Int} (ha : isBit a = true) : bits BinOp.xor IntKind.i64 a 1 = 1 - a := by
  unfold isBit at ha
  simp at ha
  rcases ha with rfl | rfl <;> decide

set_option maxHeartbeats 2000000 in
theorem monad_any (w : World) (f a : Int) (ha : In64 a) : Calls Try.prog 48 #[.int .u8 f, .int .i64 a] w fun e w' => e = two (monadF f a) ∧ Drew w w' := by
  have Ha := Lib.hid ha
  cases hx : takes f false with
  | false =>
    have Hf : Hid (monadF f a = (0, 10)) := by unfold Hid monadF; rw [hx]; rfl
    have Hx := Lib.hid hx; clear hx ha
    go_enter Try.func48, Try.ntmps48
    go_wp2_with (go_at_call 40; refine (takes_at _ _ _ false Hx.out).mono ?_; rintro e w' ⟨rfl, rfl⟩)
    go_ret2
    exact ⟨ret_two Hf.out, Drew.refl _⟩
  | true =>
    have hu := u64_bit a ha
    have hc := takesF hx
    clear hx ha
    rcases hc with rfl | rfl | rfl | rfl | rfl | rfl | rfl | rfl
    iterate 3
      · clear hu
        go_enter Try.func48, Try.ntmps48
        go_wp2_with (first | (go_at_call 40; refine (takes_at _ _ _ true rfl).mono ?_; rintro e w' ⟨rfl, rfl⟩) | (go_at_call 51; refine (truth_any _ _).mono ?_; rintro e w' ⟨rfl, rfl⟩))
        go_ret2
        exact ⟨ret_two (by simp [monadF, takes]; try exact (wrap_truths _ _).symm), Drew.refl _⟩
    · clear hu
      have Hd := Lib.hid (fun W => dyad_any W 4 1 a (by unfold In64; omega) Ha.out)
      have Hf : Hid (monadF 4 a = dyadF 4 1 a) := by unfold Hid; simp [monadF, takes]
      generalize dyadF 4 1 a = r at Hd Hf
      obtain ⟨r1, r2⟩ := r
      unfold two at Hd
      go_enter Try.func48, Try.ntmps48
      go_wp2_with (first | (go_at_call 40; refine (takes_at _ _ _ true rfl).mono ?_; rintro e w' ⟨rfl, rfl⟩) | (go_at_call 47; refine (Hd.out _).mono ?_; rintro e w' ⟨rfl, n, rfl⟩))
      go_ret2
      exact ⟨ret_two Hf.out, Drew.mk _ _⟩
    · clear hu
      go_enter Try.func48, Try.ntmps48
      go_wp2_with (go_at_call 40; refine (takes_at _ _ _ true rfl).mono ?_; rintro e w' ⟨rfl, rfl⟩)
      all_goals
        go_ret2
        exact ⟨ret_two (by simp [monadF, takes]; try omega), Drew.refl _⟩
    iterate 2
      · clear hu
        go_enter Try.func48, Try.ntmps48
        go_wp2_with (go_at_call 40; refine (takes_at _ _ _ true rfl).mono ?_; rintro e w' ⟨rfl, rfl⟩)
        go_ret2
        exact ⟨ret_two (by simp [monadF, takes]; try exact (wrap_truths _ _).symm), Drew.refl _⟩
    · cases hb : isBit a with
      | false =>
        rw [hb] at hu
        have Hb := Lib.hid hb; clear hb
        go_enter Try.func48, Try.ntmps48
        go_wp2_with (go_at_call 40; refine (takes_at _ _ _ true rfl).mono ?_; rintro e w' ⟨rfl, rfl⟩)
        go_ret2
        exact ⟨ret_two (by simp [monadF, takes, Hb.out]), Drew.refl _⟩
      | true =>
        rw [hb] at hu
        have hz := xor_bit hb
        have Hb := Lib.hid hb; clear hb
        go_enter Try.func48, Try.ntmps48
        go_wp2_with (go_at_call 40; refine (takes_at _ _ _ true rfl).mono ?_; rintro e w' ⟨rfl, rfl⟩)
        go_ret2
        exact ⟨ret_two (by simp [monadF, takes, Hb.out]), Drew.refl _⟩

end Go.Proofs.Ytegjcghcknpjeaa
