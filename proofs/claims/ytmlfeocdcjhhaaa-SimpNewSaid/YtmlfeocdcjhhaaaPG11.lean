import Derived.Test.YtmlfeocdcjhhaaaPG10
import Derived.Test.YtmlfeocdcjhhaaaPG9
import Derived.Test.YtmlfeocdcjhhaaaPG8
namespace Go.Proofs.Ytmlfeocdcjhhaaa
set_option linter.unusedVariables false
set_option linter.unusedSimpArgs false
set_option maxRecDepth 100000
open Go.RowKit

theorem takes_at (W : World) (f : Int) (two b : Bool) (h : takes f two = b) : Calls Try.prog 23 #[.int .u8 f, .bool two] W fun e w' => e = .returned (.bool b) ∧ W = w' := by
  rw [← h]; exact takes_any W f two

theorem wrap_truths (x y : Bool) : wrap64 (truthI x - truthI y) = truthI x - truthI y := by
  cases x <;> cases y <;> exact wrap_id (by unfold In64 truthI; simp)

theorem xor_bit {a : Int} (ha : isBit a = true) : bits BinOp.xor IntKind.i64 a 1 = 1 - a := by
  unfold isBit at ha
  simp at ha
  rcases ha with rfl | rfl <;> decide

set_option maxHeartbeats 2000000 in
theorem monad_any (w : World) (f a : Int) (ha : In64 a) : Calls Try.prog 94 #[.int .u8 f, .int .i64 a] w fun e w' => e = two (monadF f a) ∧ Drew w w' := by
  have Ha := Lib.hid ha
  cases hx : takes f false with
  | false =>
    have Hf : Hid (monadF f a = (0, 10)) := by unfold Hid monadF; rw [hx]; rfl
    have Hx := Lib.hid hx; clear hx ha
    go_enter Try.func94, Try.ntmps94
    go_wp2_with (go_at_call 23; refine (takes_at _ _ _ false Hx.out).mono ?_; rintro e w' ⟨rfl, rfl⟩)
    go_ret2
    exact ⟨ret_two Hf.out, Drew.refl _⟩
  | true =>
    have hu := u64_bit a ha
    have hc := takesF hx
    clear hx ha
    rcases hc with rfl | rfl | rfl | rfl | rfl | rfl | rfl | rfl
    iterate 3
      · clear hu
        go_enter Try.func94, Try.ntmps94
        go_wp2_with (first | (go_at_call 23; refine (takes_at _ _ _ true rfl).mono ?_; rintro e w' ⟨rfl, rfl⟩) | (go_at_call 132; refine (truth_any _ _).mono ?_; rintro e w' ⟨rfl, rfl⟩))
        go_ret2
        exact ⟨ret_two (by simp [monadF, takes]; try exact (wrap_truths _ _).symm), Drew.refl _⟩
    · clear hu
      have Hd := Lib.hid (fun W => dyad_any W 4 1 a (by unfold In64; omega) Ha.out)
      have Hf : Hid (monadF 4 a = dyadF 4 1 a) := by unfold Hid; simp [monadF, takes]
      generalize dyadF 4 1 a = r at Hd Hf
      obtain ⟨r1, r2⟩ := r
      unfold two at Hd
      go_enter Try.func94, Try.ntmps94
      go_wp2_with (first | (go_at_call 23; refine (takes_at _ _ _ true rfl).mono ?_; rintro e w' ⟨rfl, rfl⟩) | (go_at_call 82; refine (Hd.out _).mono ?_; rintro e w' ⟨rfl, n, rfl⟩))
      go_ret2
      exact ⟨ret_two Hf.out, Drew.mk _ _⟩
    · clear hu
      go_enter Try.func94, Try.ntmps94
      go_wp2_with (go_at_call 23; refine (takes_at _ _ _ true rfl).mono ?_; rintro e w' ⟨rfl, rfl⟩)
      all_goals
        go_ret2
        exact ⟨ret_two (by simp [monadF, takes]; try omega), Drew.refl _⟩
    iterate 2
      · clear hu
        go_enter Try.func94, Try.ntmps94
        go_wp2_with (go_at_call 23; refine (takes_at _ _ _ true rfl).mono ?_; rintro e w' ⟨rfl, rfl⟩)
        go_ret2
        exact ⟨ret_two (by simp [monadF, takes]; try exact (wrap_truths _ _).symm), Drew.refl _⟩
    · cases hb : isBit a with
      | false =>
        rw [hb] at hu
        have Hb := Lib.hid hb; clear hb
        go_enter Try.func94, Try.ntmps94
        go_wp2_with (go_at_call 23; refine (takes_at _ _ _ true rfl).mono ?_; rintro e w' ⟨rfl, rfl⟩)
        go_ret2
        exact ⟨ret_two (by simp [monadF, takes, Hb.out]), Drew.refl _⟩
      | true =>
        rw [hb] at hu
        have hz := xor_bit hb
        have Hb := Lib.hid hb; clear hb
        go_enter Try.func94, Try.ntmps94
        go_wp2_with (go_at_call 23; refine (takes_at _ _ _ true rfl).mono ?_; rintro e w' ⟨rfl, rfl⟩)
        go_ret2
        exact ⟨ret_two (by simp [monadF, takes, Hb.out]), Drew.refl _⟩

set_option maxHeartbeats 2000000 in
theorem rmonad_any (w : World) (f a : Int) (ha : In64 a) : Calls Try.prog 102 #[.int .u8 f, .int .i64 a] w fun e w' => e = two (monadF f a) ∧ Drew w w' := by
  have Ha := Lib.hid ha
  clear ha
  cases hx : takes f false with
  | false =>
    have Hf : Hid (monadF f a = (0, 10)) := by unfold Hid monadF; rw [hx]; rfl
    have Hx := Lib.hid hx; clear hx
    go_enter Try.func102, Try.ntmps102
    go_wp2_with (go_at_call 57; refine (rtakes_at _ _ _ false Hx.out).mono ?_; rintro e w' ⟨rfl, rfl⟩)
    go_ret2
    exact ⟨ret_two Hf.out, Drew.refl _⟩
  | true =>
    have hc := takesF hx
    clear hx
    rcases hc with rfl | rfl | rfl | rfl | rfl | rfl | rfl | rfl
    iterate 3
      · go_enter Try.func102, Try.ntmps102
        go_wp2_with (first | (go_at_call 57; refine (rtakes_at _ _ _ true rfl).mono ?_; rintro e w' ⟨rfl, rfl⟩) | (go_at_call 135; refine (bit_any _ _).mono ?_; rintro e w' ⟨rfl, rfl⟩))
        go_ret2
        exact ⟨ret_two (by simp [monadF, takes]; try exact (wrap_truths _ _).symm), Drew.refl _⟩
    · have Hd := Lib.hid (fun W => rdyad_any W 4 1 a (by unfold In64; omega) Ha.out)
      have Hf : Hid (monadF 4 a = dyadF 4 1 a) := by unfold Hid; simp [monadF, takes]
      generalize dyadF 4 1 a = r at Hd Hf
      obtain ⟨r1, r2⟩ := r
      unfold two at Hd
      go_enter Try.func102, Try.ntmps102
      go_wp2_with (first | (go_at_call 57; refine (rtakes_at _ _ _ true rfl).mono ?_; rintro e w' ⟨rfl, rfl⟩) | (go_at_call 103; refine (Hd.out _).mono ?_; rintro e w' ⟨rfl, n, rfl⟩))
      go_ret2
      exact ⟨ret_two Hf.out, Drew.mk _ _⟩
    · by_cases h0 : a < 0
      · have H0 : Hid (max a (wrap64 (-a)) = wrap64 (-a)) := by unfold Hid wrap64; have := Ha.out; unfold In64 at this; omega
        go_enter Try.func102, Try.ntmps102
        go_wp2_with (go_at_call 57; refine (rtakes_at _ _ _ true rfl).mono ?_; rintro e w' ⟨rfl, rfl⟩)
        go_ret2
        exact ⟨ret_two (by simp [monadF, takes, H0.out]), Drew.refl _⟩
      · have H0 : Hid (max a (wrap64 (-a)) = a) := by unfold Hid wrap64; have := Ha.out; unfold In64 at this; omega
        go_enter Try.func102, Try.ntmps102
        go_wp2_with (go_at_call 57; refine (rtakes_at _ _ _ true rfl).mono ?_; rintro e w' ⟨rfl, rfl⟩)
        go_ret2
        exact ⟨ret_two (by simp [monadF, takes, H0.out]), Drew.refl _⟩
    iterate 2
      · go_enter Try.func102, Try.ntmps102
        go_wp2_with (go_at_call 57; refine (rtakes_at _ _ _ true rfl).mono ?_; rintro e w' ⟨rfl, rfl⟩)
        go_ret2
        exact ⟨ret_two (by simp [monadF, takes]; try exact (wrap_truths _ _).symm), Drew.refl _⟩
    · have hbb := fun W => boolean_any W a
      cases hb : isBit a with
      | false =>
        rw [hb] at hbb
        have Hbb := Lib.hid hbb
        have Hb := Lib.hid hb; clear hb hbb
        go_enter Try.func102, Try.ntmps102
        go_wp2_with (first | (go_at_call 57; refine (rtakes_at _ _ _ true rfl).mono ?_; rintro e w' ⟨rfl, rfl⟩) | (go_at_call 136; refine (Hbb.out _).mono ?_; rintro e w' ⟨rfl, rfl⟩))
        go_ret2
        exact ⟨ret_two (by simp [monadF, takes, Hb.out]), Drew.refl _⟩
      | true =>
        rw [hb] at hbb
        have hw : wrap64 (1 - a) = 1 - a := by unfold isBit at hb; simp at hb; unfold wrap64; omega
        have Hw := Lib.hid hw; clear hw
        have Hbb := Lib.hid hbb
        have Hb := Lib.hid hb; clear hb hbb
        go_enter Try.func102, Try.ntmps102
        go_wp2_with (first | (go_at_call 57; refine (rtakes_at _ _ _ true rfl).mono ?_; rintro e w' ⟨rfl, rfl⟩) | (go_at_call 136; refine (Hbb.out _).mono ?_; rintro e w' ⟨rfl, rfl⟩))
        go_ret2
        exact ⟨ret_two (by simp [monadF, takes, Hb.out, Hw.out]), Drew.refl _⟩
end Go.Proofs.Ytmlfeocdcjhhaaa

namespace Go.Proofs.Ytmlfeocdcjhhaaa
set_option linter.unusedVariables false
set_option linter.unusedSimpArgs false
set_option maxRecDepth 100000
open Go.RowKit

def ub (p : Int × Bool) : Ending := .returned (.tuple #[.int .i64 p.1, .bool p.2])
theorem ret_ub {a : Int} {b : Bool} {p : Int × Bool} (h : p = (a, b)) : Ending.returned (.tuple #[.int .i64 a, .bool b]) = ub p := by subst h; rfl

theorem unit_no {f : Int} (h : takes f true = false) : unitF f = (0, false) := by
  have : ¬ (f = 6 ∨ f = 7 ∨ f = 3 ∨ f = 4 ∨ f = 8 ∨ f = 11 ∨ f = 12 ∨ f = 14 ∨ f = 17) := by
    rintro (rfl | rfl | rfl | rfl | rfl | rfl | rfl | rfl | rfl) <;> simp [takes] at h
  unfold unitF
  rw [if_neg (by omega), if_neg (by omega), if_neg (by omega), h]
theorem eqs_no {f : Int} (h : takes f true = false) : (f == 1) = false ∧ (f == 2) = false ∧ (f == 3) = false ∧ (f == 4) = false ∧ (f == 5) = false ∧ (f == 6) = false ∧ (f == 7) = false ∧ (f == 8) = false ∧ (f == 9) = false ∧ (f == 10) = false ∧ (f == 11) = false ∧ (f == 12) = false ∧ (f == 13) = false ∧ (f == 14) = false ∧ (f == 15) = false ∧ (f == 17) = false := by
  have : ¬ (f = 1 ∨ f = 2 ∨ f = 3 ∨ f = 4 ∨ f = 5 ∨ f = 6 ∨ f = 7 ∨ f = 8 ∨ f = 9 ∨ f = 10 ∨ f = 11 ∨ f = 12 ∨ f = 13 ∨ f = 14 ∨ f = 15 ∨ f = 17) := by
    rintro (rfl | rfl | rfl | rfl | rfl | rfl | rfl | rfl | rfl | rfl | rfl | rfl | rfl | rfl | rfl | rfl) <;> simp [takes] at h
  simp
  omega

set_option maxHeartbeats 2000000 in
theorem unit_any (w : World) (f : Int) : Calls Try.prog 83 #[.int .u8 f] w fun e w' => e = ub (unitF f) ∧ Drew w w' := by
  cases hx : takes f true with
  | false =>
    have Hf : Hid (unitF f = (0, false)) := unit_no hx
    obtain ⟨h1, h2, h3, h4, h5, h6, h7, h8, h9, h10, h11, h12, h13, h14, h15, h17⟩ := eqs_no hx
    clear h1 h2 h5 h9 h10 h13 h15
    have Hx := Lib.hid hx; clear hx
    go_enter Try.func83, Try.ntmps83
    go_wp2_with (go_at_call 23; refine (takes_at _ _ _ false Hx.out).mono ?_; rintro e w' ⟨rfl, rfl⟩)
    go_ret2
    exact ⟨ret_ub Hf.out, Drew.refl _⟩
  | true =>
    rcases takesT hx with rfl | rfl | rfl | rfl | rfl | rfl | rfl | rfl | rfl | rfl | rfl | rfl | rfl | rfl | rfl | rfl
    all_goals
      clear hx
      go_enter Try.func83, Try.ntmps83
      go_wp2_with (go_at_call 23; refine (takes_at _ _ _ true rfl).mono ?_; rintro e w' ⟨rfl, rfl⟩)
      go_ret2
      exact ⟨ret_ub (by rfl), Drew.refl _⟩

theorem eqs_scan {f : Int} (h : scansB f = false) : (f == 1) = false ∧ (f == 3) = false ∧ (f == 6) = false ∧ (f == 7) = false ∧ (f == 14) = false ∧ (f == 15) = false := by
  simp [scansB] at h; simp; omega
theorem eqs_scan1 {f : Int} (h : scansB f = true) : f = 1 ∨ f = 3 ∨ f = 6 ∨ f = 7 ∨ f = 14 ∨ f = 15 := by
  simp [scansB] at h; omega

set_option maxHeartbeats 2000000 in
theorem total_any (w : World) (f : Int) (two : Bool) : Calls Try.prog 154 #[.int .u8 f, .bool two] w fun e w' => e = .returned (.bool (totalB f two)) ∧ Drew w w' := by
  by_cases hs : f = 4 ∨ f = 14 ∨ f = 15 ∨ f = 17 ∨ f = 16
  · rcases hs with rfl | rfl | rfl | rfl | rfl
    all_goals
      go_enter Try.func154, Try.ntmps154
      go_wp2
      go_ret
      exact ⟨rfl, Drew.refl _⟩
  · have Hf : Hid (takes f two = totalB f two) := by unfold Hid totalB; rw [if_neg hs]
    have h4 : (f == 4) = false := by simp; omega
    have h14 : (f == 14) = false := by simp; omega
    have h15 : (f == 15) = false := by simp; omega
    have h17 : (f == 17) = false := by simp; omega
    have h16 : (f == 16) = false := by simp; omega
    clear hs
    generalize totalB f two = r at Hf
    go_enter Try.func154, Try.ntmps154
    go_wp2_with (go_at_call 23; refine (takes_at _ _ _ r Hf.out).mono ?_; rintro e w' ⟨rfl, rfl⟩)
    go_ret
    exact ⟨rfl, Drew.refl _⟩

set_option maxHeartbeats 2000000 in
theorem rtotal_any (w : World) (f : Int) (two : Bool) : Calls Try.prog 155 #[.int .u8 f, .bool two] w fun e w' => e = .returned (.bool (totalB f two)) ∧ Drew w w' := by
  by_cases hs : f = 4 ∨ f = 14 ∨ f = 15 ∨ f = 17 ∨ f = 16
  · rcases hs with rfl | rfl | rfl | rfl | rfl
    all_goals
      go_enter Try.func155, Try.ntmps155
      go_wp2
      go_ret
      exact ⟨rfl, Drew.refl _⟩
  · have Hf : Hid (takes f two = totalB f two) := by unfold Hid totalB; rw [if_neg hs]
    have h4 : (f == 4) = false := by simp; omega
    have h14 : (f == 14) = false := by simp; omega
    have h15 : (f == 15) = false := by simp; omega
    have h17 : (f == 17) = false := by simp; omega
    have h16 : (f == 16) = false := by simp; omega
    clear hs
    generalize totalB f two = r at Hf
    go_enter Try.func155, Try.ntmps155
    go_wp2_with (go_at_call 57; refine (rtakes_at _ _ _ r Hf.out).mono ?_; rintro e w' ⟨rfl, rfl⟩)
    go_ret
    exact ⟨rfl, Drew.refl _⟩

/-- a call with known values -/
theorem dyad_at (W : World) (f a b n e0 : Int) (ha : In64 a) (hb : In64 b) (h : dyadF f a b = (n, e0)) : Calls Try.prog 82 #[.int .u8 f, .int .i64 a, .int .i64 b] W fun e w' => e = .returned (.tuple #[.int .i64 n, .int .i64 e0]) ∧ ∃ n, w' = W.drewN n :=
  (dyad_any W f a b ha hb).mono fun _ _ ⟨h1, h2⟩ => ⟨by rw [h1, h]; rfl, h2⟩
theorem monad_at (W : World) (f a n e0 : Int) (ha : In64 a) (h : monadF f a = (n, e0)) : Calls Try.prog 94 #[.int .u8 f, .int .i64 a] W fun e w' => e = .returned (.tuple #[.int .i64 n, .int .i64 e0]) ∧ ∃ n, w' = W.drewN n :=
  (monad_any W f a ha).mono fun _ _ ⟨h1, h2⟩ => ⟨by rw [h1, h]; rfl, h2⟩
theorem rdyad_at (W : World) (f a b n e0 : Int) (ha : In64 a) (hb : In64 b) (h : dyadF f a b = (n, e0)) : Calls Try.prog 103 #[.int .u8 f, .int .i64 a, .int .i64 b] W fun e w' => e = .returned (.tuple #[.int .i64 n, .int .i64 e0]) ∧ ∃ n, w' = W.drewN n :=
  (rdyad_any W f a b ha hb).mono fun _ _ ⟨h1, h2⟩ => ⟨by rw [h1, h]; rfl, h2⟩
theorem rmonad_at (W : World) (f a n e0 : Int) (ha : In64 a) (h : monadF f a = (n, e0)) : Calls Try.prog 102 #[.int .u8 f, .int .i64 a] W fun e w' => e = .returned (.tuple #[.int .i64 n, .int .i64 e0]) ∧ ∃ n, w' = W.drewN n :=
  (rmonad_any W f a ha).mono fun _ _ ⟨h1, h2⟩ => ⟨by rw [h1, h]; rfl, h2⟩
theorem unit_at (W : World) (f n : Int) (b : Bool) (h : unitF f = (n, b)) : Calls Try.prog 83 #[.int .u8 f] W fun e w' => e = .returned (.tuple #[.int .i64 n, .bool b]) ∧ ∃ n, w' = W.drewN n :=
  (unit_any W f).mono fun _ _ ⟨h1, h2⟩ => ⟨by rw [h1, h]; rfl, h2⟩
theorem total_at (W : World) (f : Int) (two b : Bool) (h : totalB f two = b) : Calls Try.prog 154 #[.int .u8 f, .bool two] W fun e w' => e = .returned (.bool b) ∧ ∃ n, w' = W.drewN n :=
  (total_any W f two).mono fun _ _ ⟨h1, h2⟩ => ⟨by rw [h1, h], h2⟩
end Go.Proofs.Ytmlfeocdcjhhaaa

namespace Go.Proofs.Ytmlfeocdcjhhaaa
set_option maxRecDepth 100000
open Go.RowKit
set_option linter.unusedVariables false
set_option linter.unusedSimpArgs false
attribute [local go_sem ↓] Go.wp_at_zero Go.wp_at_succ

/-! Which operations are total. -/
def totO (o : Cop) : Bool := (o.how == 5 || o.how == 6) && !totalB o.fn (o.how == 6)
def totS (l : List Cop) : Bool := !l.any totO
theorem totO_5 (k n fn : Int) (p : List Mono) : totO ⟨5, k, n, p, fn⟩ = !totalB fn false := rfl
theorem totO_6 (k n fn : Int) (p : List Mono) : totO ⟨6, k, n, p, fn⟩ = !totalB fn true := rfl
theorem totO_no {o : Cop} (h5 : o.how ≠ 5) (h6 : o.how ≠ 6) : totO o = false := by unfold totO; rw [beq_eq_false_iff_ne.2 h5, beq_eq_false_iff_ne.2 h6]; rfl
set_option maxHeartbeats 4000000 in
theorem totlam_any (w : World) (o : Cop) (pa : Option Addr) (pl pc : Nat) : Calls Try.prog 153 #[.agg #[.int .i64 o.how, .int .i64 o.k, .int .i64 o.n, .slice pa pl pc, .int .u8 o.fn]] w fun e w' => e = .returned (.bool (totO o)) ∧ Below w.heap.size w w' := by
  obtain ⟨how, k, n, p, fn⟩ := o
  dsimp only
  by_cases h5 : how = 5
  · subst h5
    rw [totO_5]
    obtain ⟨r, hr⟩ : ∃ r, totalB fn false = r := ⟨_, rfl⟩
    have ht := fun W => total_any W fn false
    rw [hr] at ht ⊢
    have HT := Lib.hid ht
    clear ht hr
    go_enter Try.func153, Try.ntmps153
    go_wp2_with fail
    refine (HT.out _).mono ?_
    rintro e w1 ⟨rfl, hd⟩
    have HB := Lib.hid (bNext hd.below ((Below.refl w.heap.size w).alloc (Nat.le_refl _) _))
    clear hd HT
    go_wp2_with fail
    go_ret
    exact ⟨rfl, HB.out⟩
  · by_cases h6 : how = 6
    · subst h6
      rw [totO_6]
      obtain ⟨r, hr⟩ : ∃ r, totalB fn true = r := ⟨_, rfl⟩
      have ht := fun W => total_any W fn true
      rw [hr] at ht ⊢
      have HT := Lib.hid ht
      clear ht hr h5
      go_enter Try.func153, Try.ntmps153
      go_wp2_with fail
      refine (HT.out _).mono ?_
      rintro e w1 ⟨rfl, hd⟩
      have HB := Lib.hid (bNext hd.below ((Below.refl w.heap.size w).alloc (Nat.le_refl _) _))
      clear hd HT
      go_wp2_with fail
      go_ret
      exact ⟨rfl, HB.out⟩
    · rw [totO_no (o := ⟨how, k, n, p, fn⟩) h5 h6]
      have g5 : (how == 5) = false := beq_eq_false_iff_ne.2 h5
      have g6 : (how == 6) = false := beq_eq_false_iff_ne.2 h6
      clear h5 h6
      go_enter Try.func153, Try.ntmps153
      go_wp2_with fail
      go_ret
      exact ⟨rfl, (Below.refl _ _).alloc (Nat.le_refl _) _⟩
set_option maxHeartbeats 4000000 in
theorem indexFuncT (w : World) (a : Option Addr) (cap : Nat) (xs : List Cop) (p : Cop → Bool) (hm : xs.length ≤ maxLen) (h : copRep.Els w a xs)
    (hp : ∀ i, (hi : i < xs.length) → ∀ w' pa pc, Below w.heap.size w w' → monoRep.Els w' pa xs[i].p → xs[i].p.length ≤ 9223372036854775807 →
      Calls Try.prog 153 #[.agg #[.int .i64 xs[i].how, .int .i64 xs[i].k, .int .i64 xs[i].n, .slice pa xs[i].p.length pc, .int .u8 xs[i].fn]] w' fun e w'' => e = .returned (.bool (p xs[i])) ∧ Below w'.heap.size w' w'') :
    Calls Try.prog 52 #[.slice a xs.length cap, .func (.func 153) #[] #[]] w fun e w' => e = .returned (.int .i64 (firstO p 0 xs)) ∧ Below w.heap.size w w' := by
  unfold maxLen at hm
  have HI := Lib.hid h; have HP := Lib.hid hp; clear h hp
  go_enter Try.func52, Try.ntmps52
  go_wp2
  go_loopw [8] (fun i wr => ∃ k : Nat, k ≤ xs.length ∧ i = .int .i64 k ∧ firstO p 0 xs = firstO p k (xs.drop k) ∧ Below w.heap.size w wr) (fun i _ => xs.length - (intOf i).toNat)
  case atStart => exact ⟨0, Nat.zero_le _, rfl, rfl, Below.refl _ _⟩
  case round =>
    obtain ⟨k, hk, rfl, hr, hbel⟩ := hrel
    by_cases hlt : k < xs.length
    · rw [firstO_step hlt] at hr
      obtain ⟨b, off, cs, rfl, ⟨v, rfl, hs, hh, -⟩, hc⟩ := (HI.out.below copRep hbel (Nat.le_refl _)) k hlt
      have x0 := hc 0 _ rfl; have x1 := hc 1 _ rfl; have x2 := hc 2 _ rfl; have x3 := hc 3 _ rfl; have x4 := hc 4 _ rfl
      simp only [show copRep.n = 5 from rfl, Nat.add_zero] at x0 x1 x2 x3 x4
      obtain ⟨pa, pc, rfl, hpl, hpe⟩ := Rep.Sl.form hs
      have hq := HP.out k hlt wr pa pc hbel hpe hpl
      have Hr := Lib.hid hr; clear hr hs hpe hc
      cases hv : p xs[k] with
      | true =>
        rw [hv] at hq
        have HQ := Lib.hid hq; have Hv := Lib.hid hv; clear hq hv
        go_wp2_with (refine HQ.out.mono ?_; rintro e w' ⟨rfl, hb1⟩)
        go_ret
        exact ⟨ret_int (by rw [Hr.out, if_pos Hv.out]), bNext hb1 hbel⟩
      | false =>
        rw [hv] at hq
        have HQ := Lib.hid hq; have Hv := Lib.hid hv; clear hq hv
        go_wp2_with (refine HQ.out.mono ?_; rintro e w' ⟨rfl, hb1⟩)
        go_roundw
        case rel => exact ⟨k + 1, by omega, by go_num, by rw [Hr.out, if_neg (by rw [Hv.out]; simp)], bNext hb1 hbel⟩
        case measure => simp [intOf]; omega
    · have Hr := Lib.hid hr; clear hr
      go_wp2
      go_ret
      exact ⟨ret_int (by rw [Hr.out, List.drop_eq_nil_of_le (by omega)]; rfl), hbel⟩

theorem containsFuncT (w : World) (a : Option Addr) (cap : Nat) (xs : List Cop) (p : Cop → Bool) (hm : xs.length ≤ maxLen) (h : copRep.Els w a xs)
    (hp : ∀ i, (hi : i < xs.length) → ∀ w' pa pc, Below w.heap.size w w' → monoRep.Els w' pa xs[i].p → xs[i].p.length ≤ 9223372036854775807 →
      Calls Try.prog 153 #[.agg #[.int .i64 xs[i].how, .int .i64 xs[i].k, .int .i64 xs[i].n, .slice pa xs[i].p.length pc, .int .u8 xs[i].fn]] w' fun e w'' => e = .returned (.bool (p xs[i])) ∧ Below w'.heap.size w' w'') :
    Calls Try.prog 25 #[.slice a xs.length cap, .func (.func 153) #[] #[]] w fun e w' => e = .returned (.bool (xs.any p)) ∧ Below w.heap.size w w' := by
  have hq := Lib.hid (indexFuncT w a cap xs p hm h hp)
  clear hp h
  go_enter Try.func25, Try.ntmps25
  go_wp2_with (go_at_call 52; refine hq.out.mono ?_; rintro e w' ⟨rfl, hb1⟩)
  go_ret
  exact ⟨ret_bool (firstO_nonneg _ _), hb1⟩

theorem ctotal_any (w : World) (a : Option Addr) (c : Nat) (l : List Cop) (h : copRep.Els w a l) (hm : l.length ≤ maxLen) :
    Calls Try.prog 133 #[.slice a l.length c] w fun e w' => e = .returned (.bool (totS l)) ∧ Below w.heap.size w w' := by
  have hq := Lib.hid (containsFuncT w a c l totO hm h (fun i hi w' pa pc _ _ _ => totlam_any w' l[i] pa l[i].p.length pc))
  clear h
  go_enter Try.func133, Try.ntmps133
  go_wp2_with (go_at_call 25; refine hq.out.mono ?_; rintro e w' ⟨rfl, hb1⟩)
  go_ret
  exact ⟨rfl, hb1⟩
theorem totS_bad {l : List Cop} {k : Nat} (hk : k < l.length) (h : totO l[k] = true) : totS l = false := by
  unfold totS
  rw [List.any_eq_true.2 ⟨_, List.getElem_mem hk, h⟩]
  rfl
theorem totS_good {l : List Cop} (h : ∀ k, (hk : k < l.length) → totO l[k] = false) : totS l = true := by
  unfold totS
  rw [List.any_eq_false.2 fun o ho => by
    obtain ⟨k, hk, rfl⟩ := List.getElem_of_mem ho
    simp [h k hk]]
  rfl
set_option maxHeartbeats 4000000 in
theorem rtotal10_any (w : World) (a : Option Addr) (c : Nat) (l : List Cop) (h : copRep.Els w a l) (hm : l.length ≤ 9223372036854775807) :
    Calls Try.prog 140 #[.slice a l.length c] w fun e w' => e = .returned (.bool (totS l)) ∧ Below w.heap.size w w' := by
  have HE := Lib.hid h
  clear h
  go_enter Try.func140, Try.ntmps140
  go_wp2_with fail
  go_loopw [3] (fun i wr => ∃ k : Nat, k ≤ l.length ∧ i = .int .i64 k ∧ (∀ j, (hj : j < l.length) → j < k → totO l[j] = false) ∧ Below w.heap.size w wr) (fun i _ => l.length - (intOf i).toNat)
  case atStart => exact ⟨0, Nat.zero_le _, rfl, (fun j _ h => absurd h (Nat.not_lt_zero j)), Below.refl _ _⟩
  case round =>
    obtain ⟨k, hk, rfl, hall, hbel⟩ := hrel
    have HB := Lib.hid hbel
    by_cases hlt : k < l.length
    · have hbad := totS_bad hlt
      have hnext : totO l[k] = false → ∀ j, (hj : j < l.length) → j < k + 1 → totO l[j] = false := fun h j hj hjk => by
        by_cases e : j = k
        · subst e; exact h
        · exact hall j hj (by omega)
      obtain ⟨b, off, cs, rfl, ⟨v, rfl, hs, hh, -⟩, hc⟩ := (HE.out.below copRep hbel (Nat.le_refl _)) k hlt
      have x0 := hc 0 _ rfl; have x4 := hc 4 _ rfl
      simp only [show copRep.n = 5 from rfl, Nat.add_zero] at x0 x4
      obtain ⟨o, ho⟩ : ∃ o, l[k] = o := ⟨_, rfl⟩
      rw [ho] at x0 x4 hbad hnext
      obtain ⟨how, ok, n, p, fn⟩ := o
      dsimp only at x0 x4
      have hz0 : (0 : Int) ≤ (k : Int) := by omega
      have hz1 : (k : Int) < (l.length : Int) := by omega
      have HBAD := Lib.hid hbad; have HN := Lib.hid hnext
      clear hbad hnext hall hs hh hc ho hbel
      by_cases h5 : how = 5
      · subst h5
        rw [totO_5] at HBAD HN
        obtain ⟨r, hr⟩ : ∃ r, totalB fn false = r := ⟨_, rfl⟩
        have ht := fun W => rtotal_any W fn false
        rw [hr] at ht HBAD HN
        have HT := Lib.hid ht
        clear ht hr
        cases r with
        | true =>
          go_wp2_with fail
          refine (HT.out _).mono ?_
          rintro e w1 ⟨rfl, hd⟩
          have HB1 := Lib.hid (bNext hd.below HB.out)
          have y0 := keepCell hd.below x0
          clear hd HT x0 x4
          go_wp2_with fail
          go_roundw
          case rel => exact ⟨k + 1, by omega, by go_num, HN.out rfl, HB1.out⟩
          case measure => simp [intOf]; omega
        | false =>
          go_wp2_with fail
          refine (HT.out _).mono ?_
          rintro e w1 ⟨rfl, hd⟩
          have HB1 := Lib.hid (bNext hd.below HB.out)
          clear hd HT x0 x4
          go_wp2_with fail
          go_ret
          exact ⟨ret_bool (HBAD.out rfl).symm, HB1.out⟩
      · by_cases h6 : how = 6
        · subst h6
          rw [totO_6] at HBAD HN
          obtain ⟨r, hr⟩ : ∃ r, totalB fn true = r := ⟨_, rfl⟩
          have ht := fun W => rtotal_any W fn true
          rw [hr] at ht HBAD HN
          have HT := Lib.hid ht
          clear ht hr h5
          cases r with
          | true =>
            go_wp2_with fail
            refine (HT.out _).mono ?_
            rintro e w1 ⟨rfl, hd⟩
            have HB1 := Lib.hid (bNext hd.below HB.out)
            clear hd HT x0 x4
            go_wp2_with fail
            go_roundw
            case rel => exact ⟨k + 1, by omega, by go_num, HN.out rfl, HB1.out⟩
            case measure => simp [intOf]; omega
          | false =>
            go_wp2_with fail
            refine (HT.out _).mono ?_
            rintro e w1 ⟨rfl, hd⟩
            have HB1 := Lib.hid (bNext hd.below HB.out)
            clear hd HT x0 x4
            go_wp2_with fail
            go_ret
            exact ⟨ret_bool (HBAD.out rfl).symm, HB1.out⟩
        · have hno := HN.out (totO_no h5 h6)
          have HNO := Lib.hid hno
          have g5 : (how == 5) = false := beq_eq_false_iff_ne.2 h5
          have g6 : (how == 6) = false := beq_eq_false_iff_ne.2 h6
          clear h5 h6 hno HN HBAD
          go_wp2_with fail
          go_roundw
          case rel => exact ⟨k + 1, by omega, by go_num, HNO.out, HB.out⟩
          case measure => simp [intOf]; omega
    · have HG := Lib.hid (totS_good fun j hj => hall j hj (by omega))
      clear hall
      go_wp2_with fail
      go_ret
      exact ⟨ret_bool HG.out.symm, hbel⟩
end Go.Proofs.Ytmlfeocdcjhhaaa
