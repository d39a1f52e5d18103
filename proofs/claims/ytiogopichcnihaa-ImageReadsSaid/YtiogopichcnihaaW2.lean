import Derived.Test.YtiogopichcnihaaW1
import Derived.Test.YtiogopichcnihaaSpec
namespace Go.Proofs.Ytiogopichcnihaa
set_option maxRecDepth 100000
open Go.RowKit

set_option maxHeartbeats 400000 in
theorem size1_any (w : World) (s : Int) : Calls Try.prog 45 #[.int .i64 s] w fun e w' => e = .returned (.bool (badSide s)) ∧ w = w' := by
  by_cases h : s < 0
  · go_enter Try.func45, Try.ntmps45
    go_wp2
    go_ret
    exact ⟨ret_bool (by simp [badSide, h]), rfl⟩
  · have h' : decide (s < 0) = false := by simpa using h
    go_enter Try.func45, Try.ntmps45
    go_wp2
    go_ret
    exact ⟨ret_bool (by simp only [badSide, h']; rfl), rfl⟩

theorem size1_all (xs : List Int) (w : World) : ∀ x ∈ xs, ∀ w', Below w.heap.size w w' → Calls Try.prog 45 (#[.int .i64 x] ++ #[]) w' fun e w'' => e = .returned (.bool (badSide x)) ∧ Below w.heap.size w' w'' :=
  fun x _ w' _ => (size1_any w' x).mono fun _ _ ⟨he, hw⟩ => ⟨he, hw ▸ Below.refl _ _⟩

theorem size1_in (args : Array Value) (w : World) : (callFunc 45 args).run Try.prog w = .ok (.enter 45 args) w :=
  callFunc_enter Try.func45 (by kernel_rfl) rfl args w

set_option maxHeartbeats 800000 in
theorem size_any (w : World) (a : Option Addr) (cap : Nat) (xs : List Int) (hm : xs.length ≤ maxLen) (h : IntsAt .i64 w a xs) :
    Calls Try.prog 28 #[.slice a xs.length cap] w fun e w' => e = two (size xs) ∧ Below w.heap.size w w' := by
  have hq := containsFunc_any w a cap xs 45 #[] badSide size1_in hm h (size1_all xs w)
  have hsz : size xs = size xs := rfl
  conv at hsz => rhs; unfold size
  have Hsz := Lib.hid hsz; clear hsz
  unfold maxLen at hm
  by_cases h4 : (4 : Int) < (xs.length : Int)
  · clear hq h
    go_enter Try.func28, Try.ntmps28
    go_wp2
    go_ret2
    exact ⟨ret_two (by rw [Hsz.out, if_pos (by omega)]), Below.refl _ _⟩
  · have h4' : decide ((4 : Int) < (xs.length : Int)) = false := by simpa using h4
    cases hb : xs.any badSide with
    | true =>
      rw [hb] at hq
      have Hq := Lib.hid hq; have Hb := Lib.hid hb
      clear hq h hb
      go_enter Try.func28, Try.ntmps28
      go_wp2_with (go_at_call 29; refine Hq.out.mono ?_; rintro e w' ⟨rfl, hb1⟩)
      go_ret2
      exact ⟨ret_two (by rw [Hsz.out, if_neg (by omega), if_pos Hb.out]), hb1⟩
    | false =>
      rw [hb] at hq
      have Hq := Lib.hid hq; have Hb := Lib.hid hb
      clear hq hb
      have hc := fun w' (hw : Below w.heap.size w w') => contains_any w' a cap xs 0 hm (h.below hw (Nat.le_refl _))
      cases hz : xs.any ((0 : Int) == ·) with
      | true =>
        rw [hz] at hc
        have Hc := Lib.hid hc; have Hz := Lib.hid hz
        clear hc hz h
        go_enter Try.func28, Try.ntmps28
        go_wp2_with (first
          | (go_at_call 29; refine Hq.out.mono ?_; rintro e w1 ⟨rfl, hb1⟩)
          | (go_at_call 46; refine (Hc.out _ (by assumption)).mono ?_; rintro e w2 ⟨rfl, rfl⟩))
        go_ret2
        exact ⟨ret_two (by rw [Hsz.out, if_neg (by omega), if_neg (by rw [Hb.out]; simp), if_pos Hz.out]), by assumption⟩
      | false =>
        rw [hz] at hc
        have Hc := Lib.hid hc; have Hz := Lib.hid hz
        have Hsz2 : Hid (size xs = prodTo 1 xs) := by
          unfold Hid; rw [Hsz.out, if_neg (by omega), if_neg (by rw [Hb.out]; simp), if_neg (by rw [hz]; simp)]
        clear hc hz
        have HI := Lib.hid h; clear h
        go_enter Try.func28, Try.ntmps28
        go_wp2_with (first
          | (go_at_call 29; refine Hq.out.mono ?_; rintro e w1 ⟨rfl, hb1⟩)
          | (go_at_call 46; refine (Hc.out _ (by assumption)).mono ?_; rintro e w2 ⟨rfl, rfl⟩))
        go_loop [4, 18] (fun n i => ∃ (k : Nat) (m : Int), k ≤ xs.length ∧ i = .int .i64 k ∧ n = .int .i64 m ∧ 0 ≤ m ∧ m ≤ 65536 ∧ size xs = prodTo m (xs.drop k)) (fun _ i => xs.length - (intOf i).toNat)
        case atStart => exact ⟨0, 1, Nat.zero_le _, rfl, rfl, by omega, by omega, by simpa using Hsz2.out⟩
        case round =>
          obtain ⟨k, m, hk, rfl, rfl, hm0, hm1, hr⟩ := hrel
          by_cases hlt : k < xs.length
          · obtain ⟨b, off, rfl, hcell⟩ := (HI.out.below hb1 (Nat.le_refl _)) k hlt
            rw [prodTo_step hlt] at hr
            obtain ⟨hs0, hs1⟩ := badSide_false (any_false_get Hb.out k hlt)
            obtain ⟨hp0, hp1⟩ := mul_bd hm0 hm1 hs0 hs1
            have Hr := Lib.hid hr; clear hr
            by_cases hgt : 65536 < m * xs[k]
            · go_wp2
              go_ret2
              exact ⟨ret_two (by rw [Hr.out, if_pos hgt]), hb1⟩
            · go_wp2
              go_round
              case rel => exact ⟨k + 1, m * xs[k], by omega, by go_num, rfl, hp0, by omega, by rw [Hr.out, if_neg hgt]⟩
              case measure => simp [intOf]; omega
          · have Hr := Lib.hid hr; clear hr
            go_wp2
            go_ret2
            exact ⟨ret_two (by rw [Hr.out, List.drop_eq_nil_of_le (by omega)]; rfl), hb1⟩
end Go.Proofs.Ytiogopichcnihaa
