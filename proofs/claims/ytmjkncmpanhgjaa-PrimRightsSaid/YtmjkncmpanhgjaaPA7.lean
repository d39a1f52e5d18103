import Derived.Test.YtmjkncmpanhgjaaPA6
namespace Go.Proofs.Ytmjkncmpanhgjaa
set_option linter.unusedVariables false
set_option linter.unusedSimpArgs false
set_option maxRecDepth 100000
open Go.RowKit

set_option maxHeartbeats 400000 in
theorem truth_any (w : World) (b : Bool) : Calls Try.prog 71 #[.bool b] w fun e w' => e = .returned (.int .i64 (truthI b)) ∧ w = w' := by
  cases b
  all_goals
    go_enter Try.func71, Try.ntmps71
    go_wp2
    go_ret
    exact ⟨rfl, rfl⟩

set_option maxHeartbeats 400000 in
theorem bit_any (w : World) (b : Bool) : Calls Try.prog 76 #[.bool b] w fun e w' => e = .returned (.int .i64 (truthI b)) ∧ w = w' := by
  cases b
  all_goals
    go_enter Try.func76, Try.ntmps76
    go_wp2
    go_ret
    exact ⟨rfl, rfl⟩

set_option maxHeartbeats 400000 in
theorem raised_any (w : World) (a n : Int) (hn0 : 0 ≤ n) (hn : n ≤ 9223372036854775807) : Calls Try.prog 96 #[.int .i64 a, .int .i64 n] w fun e w' => e = .returned (.int .i64 (wrap64 (a ^ n.toNat))) ∧ w = w' := by
  go_enter Try.func96, Try.ntmps96
  go_wp2
  go_loop [0, 1, 5] (fun x i p => ∃ (m y q : Int), 0 ≤ m ∧ m ≤ n ∧ x = .int .i64 y ∧ i = .int .i64 m ∧ p = .int .i64 q ∧ wrap64 q = q ∧ wrap64 (q * y ^ m.toNat) = wrap64 (a ^ n.toNat)) (fun _ i _ => (intOf i).toNat)
  case atStart => exact ⟨n, a, 1, hn0, Int.le_refl _, rfl, rfl, rfl, wrap_id (by unfold In64; omega), by rw [Int.one_mul]⟩
  case round =>
    obtain ⟨m, y, q, hm0, hm1, rfl, rfl, rfl, hq, hr⟩ := hrel
    have Hq := Lib.hid hq; have Hr := Lib.hid hr; clear hq hr
    by_cases h : 0 < m
    · have hm2 : (m / 2).toNat = m.toNat / 2 := by omega
      have Hm2 := Lib.hid hm2; clear hm2
      by_cases hodd : m % 2 = 1
      · have ho : m.toNat % 2 = 1 := by omega
        have hb : (bits BinOp.and IntKind.i64 m 1 == 1) = true := by rw [and_one m hm0 (by omega)]; simpa using hodd
        have Ho := Lib.hid ho; clear ho hodd
        go_wp2
        go_round
        case rel => exact ⟨m / 2, wrap64 (y * y), wrap64 (q * y), by omega, by omega, rfl, rfl, rfl, wrap_wrap _, by rw [Hm2.out, pow_odd _ _ _ Ho.out]; exact Hr.out⟩
        case measure => simp [intOf]; omega
      · have ho : m.toNat % 2 = 0 := by omega
        have hb : (bits BinOp.and IntKind.i64 m 1 == 1) = false := by rw [and_one m hm0 (by omega)]; simpa using hodd
        have Ho := Lib.hid ho; clear ho hodd
        go_wp2
        go_round
        case rel => exact ⟨m / 2, wrap64 (y * y), q, by omega, by omega, rfl, rfl, rfl, Hq.out, by rw [Hm2.out, pow_even _ _ _ Ho.out]; exact Hr.out⟩
        case measure => simp [intOf]; omega
    · have hm : m = 0 := by omega
      have Hm := Lib.hid hm; clear hm
      go_wp2
      go_ret
      exact ⟨ret_int (by have := Hr.out; rw [Hm.out] at this; simpa [Hq.out] using this), rfl⟩

set_option maxHeartbeats 400000 in
theorem power_any (w : World) (a n : Int) (hn0 : 0 ≤ n) (hn : n ≤ 9223372036854775807) : Calls Try.prog 87 #[.int .i64 a, .int .i64 n] w fun e w' => e = .returned (.int .i64 (wrap64 (a ^ n.toNat))) ∧ w = w' := by
  go_enter Try.func87, Try.ntmps87
  go_wp2
  go_loop [0, 1, 5] (fun x i p => ∃ (m y q : Int), 0 ≤ m ∧ m ≤ n ∧ x = .int .i64 y ∧ i = .int .i64 m ∧ p = .int .i64 q ∧ wrap64 q = q ∧ wrap64 (q * y ^ m.toNat) = wrap64 (a ^ n.toNat)) (fun _ i _ => (intOf i).toNat)
  case atStart => exact ⟨n, a, 1, hn0, Int.le_refl _, rfl, rfl, rfl, wrap_id (by unfold In64; omega), by rw [Int.one_mul]⟩
  case round =>
    obtain ⟨m, y, q, hm0, hm1, rfl, rfl, rfl, hq, hr⟩ := hrel
    have Hq := Lib.hid hq; have Hr := Lib.hid hr; clear hq hr
    by_cases h : 0 < m
    · have hm2 : (m / 2).toNat = m.toNat / 2 := by omega
      have Hm2 := Lib.hid hm2; clear hm2
      by_cases hodd : m % 2 = 1
      · have ho : m.toNat % 2 = 1 := by omega
        have hb : (m % 2 == 1) = true := by simpa using hodd
        have Ho := Lib.hid ho; clear ho hodd
        go_wp2
        go_round
        case rel => exact ⟨m / 2, wrap64 (y * y), wrap64 (q * y), by omega, by omega, rfl, rfl, rfl, wrap_wrap _, by rw [Hm2.out, pow_odd _ _ _ Ho.out]; exact Hr.out⟩
        case measure => simp [intOf]; omega
      · have ho : m.toNat % 2 = 0 := by omega
        have hb : (m % 2 == 1) = false := by simpa using hodd
        have Ho := Lib.hid ho; clear ho hodd
        go_wp2
        go_round
        case rel => exact ⟨m / 2, wrap64 (y * y), q, by omega, by omega, rfl, rfl, rfl, Hq.out, by rw [Hm2.out, pow_even _ _ _ Ho.out]; exact Hr.out⟩
        case measure => simp [intOf]; omega
    · have hm : m = 0 := by omega
      have Hm := Lib.hid hm; clear hm
      go_wp2
      go_ret
      exact ⟨ret_int (by have := Hr.out; rw [Hm.out] at this; simpa [Hq.out] using this), rfl⟩

set_option maxHeartbeats 400000 in
theorem rest_any (w : World) (a b : Int) (hb : ¬ b = 0) (hi : In64 b) : Calls Try.prog 95 #[.int .i64 a, .int .i64 b] w fun e w' => e = .returned (.int .i64 (a.fmod b)) ∧ w = w' := by
  have hr := rest_eq (a := a) hb
  have ht := tmod_lt (a := a) hb
  have Hr := Lib.hid hr; clear hr
  unfold In64 at hi
  by_cases h0 : a.tmod b = 0
  · have Hf : Hid (a.fmod b = 0) := by unfold Hid; rw [Hr.out, if_neg (by omega)]; exact h0
    clear hi ht
    go_enter Try.func95, Try.ntmps95
    go_wp2
    go_ret
    exact ⟨ret_int Hf.out.symm, rfl⟩
  · have h0' : (a.tmod b != 0) = true := by simpa using h0
    by_cases hs : (!(decide (a.tmod b < 0) == decide (b < 0))) = true
    · have Hf : Hid (wrap64 (a.tmod b + b) = a.fmod b) := by
        unfold Hid
        have hs' : decide (a.tmod b < 0) ≠ decide (b < 0) := by simpa using hs
        rw [Hr.out, if_pos ⟨h0, hs'⟩]
        refine wrap_id ?_
        unfold In64
        simp at hs'
        omega
      clear hi ht
      go_enter Try.func95, Try.ntmps95
      go_wp2
      go_ret
      exact ⟨ret_int Hf.out, rfl⟩
    · have Hf : Hid (a.tmod b = a.fmod b) := by
        unfold Hid
        have hs' : ¬ decide (a.tmod b < 0) ≠ decide (b < 0) := by simpa using hs
        rw [Hr.out, if_neg (fun h => hs' h.2)]
      have hs2 : (!(decide (a.tmod b < 0) == decide (b < 0))) = false := by simpa using hs
      clear hi ht hs
      go_enter Try.func95, Try.ntmps95
      go_wp2
      go_ret
      exact ⟨ret_int Hf.out, rfl⟩
end Go.Proofs.Ytmjkncmpanhgjaa

namespace Go.Proofs.Ytmjkncmpanhgjaa
set_option linter.unusedVariables false
set_option linter.unusedSimpArgs false
set_option maxRecDepth 100000
open Go.RowKit

def Drew (w w' : World) : Prop := ∃ n, w' = w.drewN n
theorem Drew.refl (w : World) : Drew w w := ⟨0, rfl⟩
theorem Drew.mk (w : World) (n : Nat) : Drew w (w.drewN n) := ⟨n, rfl⟩
theorem Drew.mk2 (w : World) (n m : Nat) : Drew w ((w.drewN n).drewN m) := ⟨n + m, by rw [World.drewN_drewN]⟩
theorem Drew.below {B : Nat} {w w' : World} (h : Drew w w') : Below B w w' := by obtain ⟨n, rfl⟩ := h; exact Below.drewN w n

theorem u64_bit (a : Int) (h : In64 a) : (decide (1 < IntKind.u64.wrap a)) = !isBit a := by
  unfold In64 at h
  have : IntKind.u64.wrap a = a % 18446744073709551616 := by rw [IntKind.wrap_u64]
  rw [this]
  unfold isBit
  by_cases h0 : a = 0
  · subst h0; decide
  · by_cases h1 : a = 1
    · subst h1; decide
    · have e0 : (a == 0) = false := by simpa using h0
      have e1 : (a == 1) = false := by simpa using h1
      rw [e0, e1]; simp; omega

set_option maxHeartbeats 1000000 in
theorem holds_any (w : World) (f a b : Int) (hf : 8 ≤ f ∧ f ≤ 13) : Calls Try.prog 97 #[.int .u8 f, .int .i64 a, .int .i64 b] w fun e w' => e = .returned (.bool (
    if f = 8 then a == b else if f = 9 then a != b else if f = 10 then decide (a < b) else if f = 11 then decide (a ≤ b) else if f = 12 then decide (b ≤ a) else decide (b < a))) ∧ w = w' := by
  rcases (by omega : f = 8 ∨ f = 9 ∨ f = 10 ∨ f = 11 ∨ f = 12 ∨ f = 13) with rfl | rfl | rfl | rfl | rfl | rfl
  all_goals
    go_enter Try.func97, Try.ntmps97
    go_wp2
    go_ret
    exact ⟨by simp, rfl⟩


set_option maxHeartbeats 1000000 in
theorem takes_any (w : World) (f : Int) (two : Bool) : Calls Try.prog 29 #[.int .u8 f, .bool two] w fun e w' => e = .returned (.bool (takes f two)) ∧ w = w' := by
  have ht : takes f two = if f < 1 ∨ 17 < f then false else if f = 16 then !two else two || decide (f ≤ 7) := rfl
  have Ht := Lib.hid ht; clear ht
  by_cases h1 : f < 1
  · go_enter Try.func29, Try.ntmps29
    go_wp2
    go_ret
    exact ⟨ret_bool (by rw [Ht.out, if_pos (Or.inl h1)]), rfl⟩
  · have h1' : decide (f < 1) = false := by simpa using h1
    by_cases h2 : 17 < f
    · go_enter Try.func29, Try.ntmps29
      go_wp2
      go_ret
      exact ⟨ret_bool (by rw [Ht.out, if_pos (Or.inr h2)]), rfl⟩
    · have h2' : decide (17 < f) = false := by simpa using h2
      by_cases h3 : f = 16
      · have Hf : Hid (takes f two = !two) := by unfold Hid; rw [Ht.out, if_neg (by omega), if_pos h3]
        subst h3
        cases two
        all_goals
          go_enter Try.func29, Try.ntmps29
          go_wp2
          go_ret
          exact ⟨ret_bool (by rw [Hf.out]; try rfl), rfl⟩
      · have Hf : Hid (takes f two = (two || decide (f ≤ 7))) := by unfold Hid; rw [Ht.out, if_neg (by omega), if_neg h3]
        have h3' : (f == 16) = false := by simpa using h3
        cases two
        all_goals
          go_enter Try.func29, Try.ntmps29
          go_wp2
          go_ret
          exact ⟨ret_bool (by rw [Hf.out]; try rfl), rfl⟩

set_option maxHeartbeats 1000000 in
theorem rtakes_any (w : World) (f : Int) (two : Bool) : Calls Try.prog 46 #[.int .u8 f, .bool two] w fun e w' => e = .returned (.bool (takes f two)) ∧ w = w' := by
  have ht : takes f two = if f < 1 ∨ 17 < f then false else if f = 16 then !two else two || decide (f ≤ 7) := rfl
  have Ht := Lib.hid ht; clear ht
  by_cases h1 : f < 1
  · have Hf : Hid (takes f two = false) := by unfold Hid; rw [Ht.out, if_pos (Or.inl h1)]
    have h1' : decide (1 ≤ f) = false := by simp; omega
    have h3' : (f == 16) = false := by simp; omega
    cases two
    all_goals
      go_enter Try.func46, Try.ntmps46
      go_wp2
      go_ret
      exact ⟨ret_bool (by rw [Hf.out]; try rfl), rfl⟩
  · by_cases h2 : 17 < f
    · have Hf : Hid (takes f two = false) := by unfold Hid; rw [Ht.out, if_pos (Or.inr h2)]
      have h1' : decide (1 ≤ f) = true := by simp; omega
      have h2' : decide (f ≤ 17) = false := by simp; omega
      have h2'' : decide (f ≤ 7) = false := by simp; omega
      have h3' : (f == 16) = false := by simp; omega
      cases two
      all_goals
        go_enter Try.func46, Try.ntmps46
        go_wp2
        go_ret
        exact ⟨ret_bool (by rw [Hf.out]; try rfl), rfl⟩
    · have h1' : decide (1 ≤ f) = true := by simp; omega
      have h2' : decide (f ≤ 17) = true := by simp; omega
      by_cases h3 : f = 16
      · have Hf : Hid (takes f two = !two) := by unfold Hid; rw [Ht.out, if_neg (by omega), if_pos h3]
        subst h3
        cases two
        all_goals
          go_enter Try.func46, Try.ntmps46
          go_wp2
          go_ret
          exact ⟨ret_bool (by rw [Hf.out]; try rfl), rfl⟩
      · have Hf : Hid (takes f two = (two || decide (f ≤ 7))) := by unfold Hid; rw [Ht.out, if_neg (by omega), if_neg h3]
        have h3' : (f == 16) = false := by simpa using h3
        have h4' : (f != 16) = true := by simpa using h3
        by_cases h7 : f ≤ 7
        all_goals
          cases two
          all_goals
            go_enter Try.func46, Try.ntmps46
            go_wp2
            go_ret
            exact ⟨ret_bool (by rw [Hf.out]; simp [h7]), rfl⟩

set_option maxHeartbeats 1000000 in
theorem boolean_any (w : World) (a : Int) : Calls Try.prog 77 #[.int .i64 a] w fun e w' => e = .returned (.bool (isBit a)) ∧ w = w' := by
  by_cases h : a = 0
  · subst h
    go_enter Try.func77, Try.ntmps77
    go_wp2
    go_ret
    exact ⟨rfl, rfl⟩
  · have h' : (a == 0) = false := by simpa using h
    have Hf : Hid (isBit a = (a == 1)) := by unfold Hid isBit; rw [h']; rfl
    go_enter Try.func77, Try.ntmps77
    go_wp2
    go_ret
    exact ⟨ret_bool (by rw [Hf.out]), rfl⟩

set_option maxHeartbeats 2000000 in
theorem refuses_any (w : World) (f a b : Int) (hf : 1 ≤ f ∧ f ≤ 17) (ha : In64 a) (hb : In64 b) : Calls Try.prog 90 #[.int .u8 f, .int .i64 a, .int .i64 b] w fun e w' => e = .returned (.bool (refusesB f a b)) ∧ w = w' := by
  have ua := u64_bit a ha
  have ub := u64_bit b hb
  clear ha hb
  by_cases hs : f = 4 ∨ f = 17 ∨ f = 14 ∨ f = 15
  · rcases hs with rfl | rfl | rfl | rfl
    · go_enter Try.func90, Try.ntmps90
      go_wp2
      go_ret
      exact ⟨ret_bool (by simp [refusesB]), rfl⟩
    · go_enter Try.func90, Try.ntmps90
      go_wp2
      go_ret
      exact ⟨ret_bool (by simp [refusesB]), rfl⟩
    all_goals
      cases hx : isBit a
      all_goals
        rw [hx] at ua
        have Hx := Lib.hid hx; clear hx
        go_enter Try.func90, Try.ntmps90
        go_wp2
        go_ret
        exact ⟨ret_bool (by simp [refusesB, Hx.out]), rfl⟩
  · have h4 : (f == 4) = false := by simp; omega
    have h17 : (f == 17) = false := by simp; omega
    have h14 : (f == 14) = false := by simp; omega
    have h15 : (f == 15) = false := by simp; omega
    have Hf : Hid (refusesB f a b = false) := by unfold Hid refusesB; rw [if_neg (by omega), if_neg (by omega), if_neg (by omega)]
    clear hs ua ub
    go_enter Try.func90, Try.ntmps90
    go_wp2
    go_ret
    exact ⟨ret_bool Hf.out.symm, rfl⟩
end Go.Proofs.Ytmjkncmpanhgjaa

namespace Go.Proofs.Ytmjkncmpanhgjaa
set_option linter.unusedVariables false
set_option linter.unusedSimpArgs false
set_option maxRecDepth 100000
open Go.RowKit

set_option maxHeartbeats 2000000 in
theorem pdyad_div (w : World) (a b : Int) (hb0 : ¬ b = 0) (hb : In64 b) : Calls Try.prog 91 #[.int .u8 4, .int .i64 a, .int .i64 b] w fun e w' => e = .returned (.int .i64 (wrap64 (a.fdiv b))) ∧ Drew w w' := by
  have hd := fdiv_eq (a := a) hb0
  have hr := fun W => (rest_any W a b hb0 hb).mono (R' := fun e w' => e = .returned (.int .i64 (a.fmod b)) ∧ w' = W) fun _ _ ⟨x, y⟩ => ⟨x, y.symm⟩
  have Hr := Lib.hid hr; have Hd := Lib.hid hd; clear hr hd hb
  by_cases hne : a.fmod b = a.tmod b
  · have Hf : Hid (wrap64 (a.tdiv b) = wrap64 (a.fdiv b)) := by unfold Hid; rw [Hd.out, if_neg (by simp [hne])]
    have hne' : (a.fmod b != a.tmod b) = false := by simpa using hne
    have Hne := Lib.hid hne; clear hne
    go_enter Try.func91, Try.ntmps91
    go_wp2_with fail
    go_quiet ((go_at_call 95; exact Calls.quiet_of_same (Hr.out _)))
    go_wp2_with fail
    go_ret
    exact ⟨ret_int Hf.out, Drew.mk _ _⟩
  · have Hf : Hid (wrap64 (wrap64 (a.tdiv b) - 1) = wrap64 (a.fdiv b)) := by unfold Hid; rw [Hd.out, if_pos hne, wrap_sub_l]
    have hne' : (a.fmod b != a.tmod b) = true := by simpa using hne
    have Hne := Lib.hid hne; clear hne
    go_enter Try.func91, Try.ntmps91
    go_wp2_with fail
    go_quiet ((go_at_call 95; exact Calls.quiet_of_same (Hr.out _)))
    go_wp2_with fail
    go_ret
    exact ⟨ret_int Hf.out, Drew.mk _ _⟩

theorem bits_and_bit {a b : Int} (ha : isBit a = true) (hb : isBit b = true) : bits BinOp.and IntKind.i64 a b = a * b := by
  unfold isBit at ha hb
  simp at ha hb
  rcases ha with rfl | rfl <;> rcases hb with rfl | rfl <;> decide
theorem bits_or_bit {a b : Int} (ha : isBit a = true) (hb : isBit b = true) : bits BinOp.or IntKind.i64 a b = max a b := by
  unfold isBit at ha hb
  simp at ha hb
  rcases ha with rfl | rfl <;> rcases hb with rfl | rfl <;> decide

set_option maxHeartbeats 4000000 in
theorem pdyad_any (w : World) (f a b : Int) (hf : takes f true = true) (ha : In64 a) (hb : In64 b) (hr : refusesB f a b = false) : Calls Try.prog 91 #[.int .u8 f, .int .i64 a, .int .i64 b] w fun e w' => e = .returned (.int .i64 (dyv f a b)) ∧ Drew w w' := by
  have hf1 := takes_in hf
  have hf16 : f ≠ 16 := by rintro rfl; simp [takes] at hf
  clear hf
  rcases (by omega : f = 1 ∨ f = 2 ∨ f = 3 ∨ f = 4 ∨ f = 5 ∨ f = 6 ∨ f = 7 ∨ (8 ≤ f ∧ f ≤ 13) ∨ f = 14 ∨ f = 15 ∨ f = 17) with rfl | rfl | rfl | rfl | rfl | rfl | rfl | hcmp | rfl | rfl | rfl
  iterate 3
    · go_enter Try.func91, Try.ntmps91
      go_wp2
      go_ret
      exact ⟨ret_int (by simp [dyv]), Drew.refl _⟩
  · have hb0 : ¬ b = 0 := by simpa [refusesB] using hr
    exact (pdyad_div w a b hb0 hb).mono fun e w' ⟨h1, h2⟩ => ⟨by rw [h1]; simp [dyv], h2⟩
  · by_cases h0 : a = 0
    · have h0' : (a == 0) = true := by simpa using h0
      have Hf : Hid (b = dyv 5 a b) := by unfold Hid; simp [dyv, h0]
      have H0 := Lib.hid h0; clear h0 hr hf1 hf16
      go_enter Try.func91, Try.ntmps91
      go_wp2_with fail
      go_ret
      exact ⟨ret_int Hf.out, Drew.refl _⟩
    · have h0' : (a == 0) = false := by simpa using h0
      have Hf : Hid (b.fmod a = dyv 5 a b) := by unfold Hid; simp [dyv, h0]
      have Hr := Lib.hid (fun W => rest_any W b a h0 ha)
      clear hr hf1 hf16
      go_enter Try.func91, Try.ntmps91
      go_wp2_with (go_at_call 95; refine (Hr.out _).mono ?_; rintro e w' ⟨rfl, rfl⟩)
      go_ret
      exact ⟨ret_int Hf.out, Drew.refl _⟩
  iterate 2
    · clear hr hf1 hf16
      go_enter Try.func91, Try.ntmps91
      go_wp2
      all_goals
        go_ret
        exact ⟨ret_int (by simp [dyv]; try omega), Drew.refl _⟩
  · have Hh := Lib.hid (fun W => holds_any W f a b hcmp)
    have h1 : (f == 1) = false := by simp; omega
    have h2 : (f == 2) = false := by simp; omega
    have h3 : (f == 3) = false := by simp; omega
    have h4 : (f == 4) = false := by simp; omega
    have h5 : (f == 5) = false := by simp; omega
    have h6 : (f == 6) = false := by simp; omega
    have h7 : (f == 7) = false := by simp; omega
    have h14 : (f == 14) = false := by simp; omega
    have h15 : (f == 15) = false := by simp; omega
    have h17 : (f == 17) = false := by simp; omega
    have Hf : Hid (truthI (if f = 8 then a == b else if f = 9 then a != b else if f = 10 then decide (a < b) else if f = 11 then decide (a ≤ b) else if f = 12 then decide (b ≤ a) else decide (b < a)) = dyv f a b) := by
      unfold Hid dyv
      rcases (by omega : f = 8 ∨ f = 9 ∨ f = 10 ∨ f = 11 ∨ f = 12 ∨ f = 13) with rfl | rfl | rfl | rfl | rfl | rfl <;> simp
    generalize (if f = 8 then a == b else if f = 9 then a != b else if f = 10 then decide (a < b) else if f = 11 then decide (a ≤ b) else if f = 12 then decide (b ≤ a) else decide (b < a)) = tt at Hf Hh
    clear hr hf1 hf16 hcmp
    go_enter Try.func91, Try.ntmps91
    go_wp2_with (first
      | (go_at_call 97; refine (Hh.out _).mono ?_; rintro e w' ⟨rfl, rfl⟩)
      | (go_at_call 71; refine (truth_any _ _).mono ?_; rintro e w' ⟨rfl, rfl⟩))
    go_ret
    exact ⟨ret_int Hf.out, Drew.refl _⟩
  · have hab : isBit a = true ∧ isBit b = true := by simpa [refusesB] using hr
    have hx := bits_and_bit hab.1 hab.2
    clear hr hf1 hf16 hab
    go_enter Try.func91, Try.ntmps91
    go_wp2
    go_ret
    exact ⟨ret_int (by simp [dyv]), Drew.refl _⟩
  · have hab : isBit a = true ∧ isBit b = true := by simpa [refusesB] using hr
    have hx := bits_or_bit hab.1 hab.2
    clear hr hf1 hf16 hab
    go_enter Try.func91, Try.ntmps91
    go_wp2
    go_ret
    exact ⟨ret_int (by simp [dyv]), Drew.refl _⟩
  · have hb0 : 0 ≤ b := by simpa [refusesB] using hr
    have Hr := Lib.hid (fun W => raised_any W a b hb0 hb.2)
    clear hr hf1 hf16
    go_enter Try.func91, Try.ntmps91
    go_wp2_with (go_at_call 96; refine (Hr.out _).mono ?_; rintro e w' ⟨rfl, rfl⟩)
    go_ret
    exact ⟨ret_int (by simp [dyv]), Drew.refl _⟩

set_option maxHeartbeats 2000000 in
theorem dyad_any (w : World) (f a b : Int) (ha : In64 a) (hb : In64 b) : Calls Try.prog 72 #[.int .u8 f, .int .i64 a, .int .i64 b] w fun e w' => e = two (dyadF f a b) ∧ Drew w w' := by
  have hd : dyadF f a b = if takes f true then (if refusesB f a b then (0, 11) else (dyv f a b, 0)) else (0, 10) := rfl
  have Hd := Lib.hid hd; clear hd
  have ht := fun W => takes_any W f true
  cases hx : takes f true with
  | false =>
    rw [hx] at ht
    have Ht := Lib.hid ht
    have Hf : Hid (dyadF f a b = (0, 10)) := by unfold Hid; rw [Hd.out, hx]; rfl
    clear ht hx ha hb
    go_enter Try.func72, Try.ntmps72
    go_wp2_with (go_at_call 29; refine (Ht.out _).mono ?_; rintro e w' ⟨rfl, rfl⟩)
    go_ret2
    exact ⟨ret_two Hf.out, Drew.refl _⟩
  | true =>
    rw [hx] at ht
    have Ht := Lib.hid ht
    have hr := fun W => refuses_any W f a b (takes_in hx) ha hb
    cases hy : refusesB f a b with
    | true =>
      rw [hy] at hr
      have Hr := Lib.hid hr
      have Hf : Hid (dyadF f a b = (0, 11)) := by unfold Hid; rw [Hd.out, hx, hy]; rfl
      clear ht hx ha hb hr hy
      go_enter Try.func72, Try.ntmps72
      go_wp2_with (first
        | (go_at_call 29; refine (Ht.out _).mono ?_; rintro e w' ⟨rfl, rfl⟩)
        | (go_at_call 90; refine (Hr.out _).mono ?_; rintro e w' ⟨rfl, rfl⟩))
      go_ret2
      exact ⟨ret_two Hf.out, Drew.refl _⟩
    | false =>
      have hv := fun W => pdyad_any W f a b hx ha hb hy
      rw [hy] at hr
      have Hr := Lib.hid hr; have Hv := Lib.hid hv
      have Hf : Hid (dyadF f a b = (dyv f a b, 0)) := by unfold Hid; rw [Hd.out, hx, hy]; rfl
      clear ht hx ha hb hr hy hv
      go_enter Try.func72, Try.ntmps72
      go_wp2_with (first
        | (go_at_call 29; refine (Ht.out _).mono ?_; rintro e w' ⟨rfl, rfl⟩)
        | (go_at_call 90; refine (Hr.out _).mono ?_; rintro e w' ⟨rfl, rfl⟩)
        | (go_at_call 91; refine (Hv.out _).mono ?_; rintro e w' ⟨rfl, n, rfl⟩))
      go_ret2
      exact ⟨ret_two Hf.out, Drew.mk _ _⟩
end Go.Proofs.Ytmjkncmpanhgjaa

namespace Go.Proofs.Ytmjkncmpanhgjaa
set_option maxRecDepth 100000
open Go.RowKit
set_option linter.unusedVariables false
set_option linter.unusedSimpArgs false

theorem flipC {P : Program} {f : FuncId} {args : Array Value} {w : World} {E : Ending → Prop} (h : Calls P f args w fun e w' => E e ∧ w = w') : Calls P f args w fun e w' => E e ∧ w' = w :=
  h.mono fun _ _ ⟨x, y⟩ => ⟨x, y.symm⟩

theorem fdiv_neg_one (a : Int) : a.fdiv (-1) = -a := by
  have h := fdiv_eq (a := a) (b := -1) (by omega)
  have h2 := rest_eq (a := a) (b := -1) (by omega)
  have h3 := tmod_lt (a := a) (b := -1) (by omega)
  have h4 := Int.tmod_add_mul_tdiv a (-1)
  have h5 : a.tmod (-1) = 0 := by have : (-1 : Int).natAbs = 1 := rfl; omega
  have h6 : a.fmod (-1) = a.tmod (-1) := by rw [h2, if_neg (fun h => h.1 h5)]
  rw [if_neg (fun h => h h6)] at h
  omega

theorem tmod_sign {a b : Int} (h : a.tmod b ≠ 0) : (a.tmod b < 0) = (a < 0) := by
  by_cases ha : 0 ≤ a
  · have := Int.tmod_nonneg b ha
    simp; omega
  · have h1 := Int.tmod_nonneg b (a := -a) (by omega)
    rw [Int.neg_tmod] at h1
    simp; omega

theorem floor_eq {a b : Int} (hb : b ≠ 0) : a.fdiv b = if a.tmod b ≠ 0 ∧ (decide (a < 0) ≠ decide (b < 0)) then a.tdiv b - 1 else a.tdiv b := by
  have h := fdiv_eq (a := a) hb
  have h2 := rest_eq (a := a) hb
  by_cases h0 : a.tmod b = 0
  · have h6 : a.fmod b = a.tmod b := by rw [h2, if_neg (fun h => h.1 h0)]
    rw [if_neg (fun h => h h6)] at h
    rw [if_neg (fun h => h.1 h0)]
    exact h
  · have hs := tmod_sign h0
    simp only [hs] at h2
    by_cases hc : decide (a < 0) ≠ decide (b < 0)
    · rw [if_pos ⟨h0, hc⟩] at h2 ⊢
      rw [h, if_pos (by omega)]
    · rw [if_neg (fun h => hc h.2)] at h2 ⊢
      rw [h, if_neg (fun h => h h2)]

set_option maxHeartbeats 2000000 in
theorem floor_any (w : World) (a b : Int) (hb0 : ¬ b = 0) : Calls Try.prog 85 #[.int .i64 a, .int .i64 b] w fun e w' => e = .returned (.int .i64 (wrap64 (a.fdiv b))) ∧ Drew w w' := by
  by_cases h1 : b = -1
  · have Hf : Hid (-a = a.fdiv b) := by unfold Hid; rw [h1, fdiv_neg_one]
    have h1' : (b == -1) = true := by simpa using h1
    have H1 := Lib.hid h1; clear h1
    go_enter Try.func85, Try.ntmps85
    go_wp2
    go_ret
    exact ⟨ret_int (by rw [← Hf.out]), Drew.refl _⟩
  · have h1' : (b == -1) = false := by simpa using h1
    have hd := floor_eq (a := a) hb0
    by_cases h0 : a.tmod b = 0
    · have Hf : Hid (wrap64 (a.tdiv b) = wrap64 (a.fdiv b)) := by unfold Hid; rw [hd, if_neg (by simp [h0])]
      clear hd h1
      go_enter Try.func85, Try.ntmps85
      go_wp2
      all_goals
        go_ret
        exact ⟨ret_int Hf.out, Drew.refl _⟩
    · by_cases hs : decide (a < 0) = decide (b < 0)
      · have Hf : Hid (wrap64 (a.tdiv b) = wrap64 (a.fdiv b)) := by unfold Hid; rw [hd, if_neg (fun h => h.2 hs)]
        have hs2 : (!(decide (a < 0) == decide (b < 0))) = false := by simpa using hs
        have h0' : (a.tmod b != 0) = true := by simpa using h0
        clear hd h1 hs
        go_enter Try.func85, Try.ntmps85
        go_wp2
        all_goals
          go_ret
          exact ⟨ret_int Hf.out, Drew.refl _⟩
      · have Hf : Hid (wrap64 (wrap64 (a.tdiv b) - 1) = wrap64 (a.fdiv b)) := by unfold Hid; rw [hd, if_pos ⟨h0, hs⟩, wrap_sub_l]
        have hs2 : (!(decide (a < 0) == decide (b < 0))) = true := by simpa using hs
        have h0' : (a.tmod b != 0) = true := by simpa using h0
        clear hd h1 hs
        go_enter Try.func85, Try.ntmps85
        go_wp2
        all_goals
          go_ret
          exact ⟨ret_int Hf.out, Drew.refl _⟩

set_option maxHeartbeats 2000000 in
theorem residue_any (w : World) (a b : Int) (ha : In64 a) (hb : In64 b) : Calls Try.prog 86 #[.int .i64 a, .int .i64 b] w fun e w' => e = .returned (.int .i64 (if a = 0 then b else b.fmod a)) ∧ Drew w w' := by
  by_cases h0 : a = 0
  · subst h0
    clear ha hb
    go_enter Try.func86, Try.ntmps86
    go_wp2
    go_ret
    exact ⟨rfl, Drew.refl _⟩
  · have Hf : Hid (wrap64 (b - wrap64 (a * wrap64 (b.fdiv a))) = b.fmod a) := by
      unfold Hid
      rw [wrap_mul_r, wrap_sub_r]
      have := Int.fmod_add_mul_fdiv b a
      rw [show b - a * b.fdiv a = b.fmod a by omega]
      exact wrap_id (fmod_in h0 ha)
    rw [if_neg h0]
    have Hr := Lib.hid (fun W => floor_any W b a h0)
    clear ha hb
    go_enter Try.func86, Try.ntmps86
    go_wp2_with (go_at_call 85; refine (Hr.out _).mono ?_; rintro e w' ⟨rfl, n, rfl⟩)
    go_ret
    exact ⟨ret_int Hf.out, Drew.mk _ _⟩
end Go.Proofs.Ytmjkncmpanhgjaa
