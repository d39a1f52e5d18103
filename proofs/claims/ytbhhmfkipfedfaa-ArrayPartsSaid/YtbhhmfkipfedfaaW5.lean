import Derived.Test.YtbhhmfkipfedfaaW4
namespace Go.Proofs.Ytbhhmfkipfedfaa
open Go.RowKit

set_option maxHeartbeats 1000000 in
theorem place_any (w : World) (a b : Option Addr) (c d : Nat) (xs ys : List Int) (hm : xs.length ≤ maxLen) (_hm2 : ys.length ≤ maxLen) (h : IntsAt .i64 w a xs) (h2 : IntsAt .i64 w b ys) :
    Calls Try.prog 14 #[.slice a xs.length c, .slice b ys.length d] w fun e w' => e = two (place xs ys) ∧ Below w.heap.size w w' := by
  have hq := size_any w a c xs hm h
  have hr : place xs ys = if (size xs).2 = 0 then (if ys.length = xs.length then placeTo 0 xs ys else (0, 62)) else (0, (size xs).2) := rfl
  unfold maxLen at hm
  unfold two at hq
  rcases size_err xs with he | ⟨n, he⟩
  · rw [he] at hq hr
    have Hq := Lib.hid hq; have Hr := Lib.hid hr; clear hq hr he h h2
    go_enter Try.func14, Try.ntmps14
    go_wp2_with (go_at_call 10; refine (Hq.out).mono ?_; rintro e w1 ⟨rfl, hb1⟩)
    go_ret2
    exact ⟨ret_two (by rw [Hr.out]; simp), hb1⟩
  · have g := size_good he
    rw [he] at hq hr
    have Hq := Lib.hid hq; have Hr := Lib.hid hr; clear hq hr he
    have HI := Lib.hid h; have HJ := Lib.hid h2; clear h h2
    by_cases hl : xs.length = ys.length
    · have hl' : ((ys.length : Int) != (xs.length : Int)) = false := by simp [hl]
      have Hl := Lib.hid hl; clear hl
      go_enter Try.func14, Try.ntmps14
      go_wp2_with (go_at_call 10; refine (Hq.out).mono ?_; rintro e w1 ⟨rfl, hb1⟩)
      go_loop [8, 26] (fun n i => ∃ (k : Nat) (m : Int), k ≤ xs.length ∧ i = .int .i64 k ∧ n = .int .i64 m ∧ 0 ≤ m ∧ m < prodL (xs.take k) ∧ place xs ys = placeTo m (xs.drop k) (ys.drop k)) (fun _ i => xs.length - (intOf i).toNat)
      case atStart => exact ⟨0, 0, Nat.zero_le _, rfl, rfl, by omega, by simp [prodL], by rw [Hr.out]; simp [Hl.out]⟩
      case round =>
        obtain ⟨k, m, hk, rfl, rfl, hm0, hm1, hr⟩ := hrel
        by_cases hlt : k < xs.length
        · have hlt2 : k < ys.length := Hl.out ▸ hlt
          obtain ⟨b0, off, rfl, hcell⟩ := (HI.out.below hb1 (Nat.le_refl _)) k hlt
          obtain ⟨b2, off2, rfl, hcell2⟩ := (HJ.out.below hb1 (Nat.le_refl _)) k hlt2
          rw [placeTo_step hlt hlt2] at hr
          have Hr := Lib.hid hr; clear hr
          by_cases hneg : ys[k] < 0
          · go_wp2
            go_ret2
            exact ⟨ret_two (by rw [Hr.out, if_pos (Or.inl hneg)]), hb1⟩
          · have hneg' : decide (ys[k] < 0) = false := by simpa using hneg
            by_cases hbig : xs[k] ≤ ys[k]
            · go_wp2
              go_ret2
              exact ⟨ret_two (by rw [Hr.out, if_pos (Or.inr hbig)]), hb1⟩
            · obtain ⟨p0, p1, p2⟩ := place_bd hm0 hm1 (by omega : 0 ≤ ys[k]) (by omega : ys[k] < xs[k])
              rw [← prodL_take_succ hlt] at p2
              have p3 := prodL_take_le g (k := k + 1)
              go_wp2
              go_round
              case rel => exact ⟨k + 1, m * xs[k] + ys[k], by omega, by go_num, rfl, p1, p2, by rw [Hr.out, if_neg (by omega)]⟩
              case measure => simp [intOf]; omega
        · have hlt' : ¬ k < ys.length := by have := Hl.out; omega
          have Hr := Lib.hid hr; clear hr
          go_wp2
          go_ret2
          exact ⟨ret_two (by rw [Hr.out, List.drop_eq_nil_of_le (by omega)]; rfl), hb1⟩
    · have hl' : ((ys.length : Int) != (xs.length : Int)) = true := by simp; omega
      have Hf : Hid (place xs ys = (0, 62)) := by unfold Hid; rw [Hr.out, if_pos rfl, if_neg (fun e => hl e.symm)]
      go_enter Try.func14, Try.ntmps14
      go_wp2_with (go_at_call 10; refine (Hq.out).mono ?_; rintro e w1 ⟨rfl, hb1⟩)
      go_ret2
      exact ⟨ret_two Hf.out, hb1⟩

theorem placeTo_all : ∀ (xs ys : List Int) (m : Int), xs.length = ys.length → (∃ k, ∃ h : k < xs.length, ∃ h' : k < ys.length, ys[k] < 0 ∨ xs[k] ≤ ys[k]) → placeTo m xs ys = (0, 62)
  | [], _, _, _, ⟨_, h, _⟩ => absurd h (by simp)
  | x :: xs, [], _, hl, _ => by simp at hl
  | x :: xs, y :: ys, m, hl, ⟨k, h, h', hk⟩ => by
    rw [placeTo]
    split
    · rfl
    · rename_i hxy
      cases k with
      | zero => exact absurd hk hxy
      | succ k => exact placeTo_all xs ys _ (by simpa using hl) ⟨k, by simpa using h, by simpa using h', by simpa using hk⟩

set_option maxHeartbeats 1600000 in
theorem rplace_any (w : World) (a b : Option Addr) (c d : Nat) (xs ys : List Int) (hm : xs.length ≤ maxLen) (_hm2 : ys.length ≤ maxLen) (h : IntsAt .i64 w a xs) (h2 : IntsAt .i64 w b ys) :
    Calls Try.prog 15 #[.slice a xs.length c, .slice b ys.length d] w fun e w' => e = two (place xs ys) ∧ Below w.heap.size w w' := by
  have hq := rsize_any w a c xs hm h
  have hr : place xs ys = if (size xs).2 = 0 then (if ys.length = xs.length then placeTo 0 xs ys else (0, 62)) else (0, (size xs).2) := rfl
  unfold maxLen at hm
  unfold two at hq
  rcases size_err xs with he | ⟨n, he⟩
  · rw [he] at hq hr
    have Hq := Lib.hid hq; have Hr := Lib.hid hr; clear hq hr he h h2
    go_enter Try.func15, Try.ntmps15
    go_wp2_with (go_at_call 11; refine (Hq.out).mono ?_; rintro e w1 ⟨rfl, rfl⟩)
    go_ret2
    exact ⟨ret_two (by rw [Hr.out]; simp), Below.refl _ _⟩
  · have g := size_good he
    rw [he] at hq hr
    have Hq := Lib.hid hq; have Hr := Lib.hid hr; clear hq hr he
    have HI := Lib.hid h; have HJ := Lib.hid h2; clear h h2
    by_cases hl : xs.length = ys.length
    · have hl' : ((ys.length : Int) != (xs.length : Int)) = false := by simp [hl]
      have Hl := Lib.hid hl; clear hl
      have Hp : Hid (place xs ys = placeTo 0 xs ys) := by unfold Hid; rw [Hr.out, if_pos rfl, if_pos Hl.out.symm]
      go_enter Try.func15, Try.ntmps15
      go_wp2_with (go_at_call 11; refine (Hq.out).mono ?_; rintro e w1 ⟨rfl, rfl⟩)
      go_loopw [9] (fun i wr => ∃ (k n : Nat), k ≤ xs.length ∧ i = .int .i64 k ∧ wr = w.drewN n ∧ ∀ j, j < k → ∀ (h : j < xs.length) (h' : j < ys.length), ¬ (ys[j] < 0 ∨ xs[j] ≤ ys[j])) (fun i _ => xs.length - (intOf i).toNat)
      case atStart => exact ⟨0, 0, Nat.zero_le _, rfl, rfl, fun j hj => absurd hj (Nat.not_lt_zero _)⟩
      case round =>
        obtain ⟨k, nd, hk, rfl, rfl, hall⟩ := hrel
        have Hall := Lib.hid hall; clear hall
        by_cases hlt : k < xs.length
        · have hlt2 : k < ys.length := Hl.out ▸ hlt
          obtain ⟨b0, off, rfl, hcell⟩ := HI.out k hlt
          obtain ⟨b2, off2, rfl, hcell2⟩ := HJ.out k hlt2
          have hz0 : (0 : Int) ≤ (k : Int) := by omega
          have hz1 : (k : Int) < (xs.length : Int) := by omega
          have hz2 : (k : Int) < (ys.length : Int) := by omega
          by_cases hneg : ys[k] < 0
          · go_wp2_with fail
            go_quiet (fail)
            go_wp2
            go_ret2
            exact ⟨ret_two (by rw [Hp.out, placeTo_all xs ys 0 Hl.out ⟨k, hlt, hlt2, .inl hneg⟩]), (Below.drewN _ _).trans (Below.drewN _ _)⟩
          · have hneg' : decide (ys[k] < 0) = false := by simpa using hneg
            by_cases hbig : xs[k] ≤ ys[k]
            · go_wp2_with fail
              go_quiet (fail)
              go_wp2
              go_ret2
              exact ⟨ret_two (by rw [Hp.out, placeTo_all xs ys 0 Hl.out ⟨k, hlt, hlt2, .inr hbig⟩]), (Below.drewN _ _).trans (Below.drewN _ _)⟩
            · go_wp2_with fail
              go_quiet (fail)
              go_wp2
              go_roundw
              case rel =>
                refine ⟨k + 1, _, by omega, by go_num, rfl, fun j hj h h' => ?_⟩
                by_cases e : j = k
                · subst e; omega
                · exact Hall.out j (by omega) h h'
              case measure => simp [intOf]; omega
        · have hlt' : ¬ k < ys.length := by have := Hl.out; omega
          have Hall2 : Hid (∀ j, (h : j < xs.length) → (h' : j < ys.length) → ¬ (ys[j] < 0 ∨ xs[j] ≤ ys[j])) := fun j h h' => Hall.out j (by omega) h h'
          clear Hall
          go_wp2
          go_loopw [8, 10] (fun n i wr => ∃ (k nd : Nat) (m : Int), k ≤ xs.length ∧ i = .int .i64 k ∧ n = .int .i64 m ∧ wr = w.drewN nd ∧ 0 ≤ m ∧ m < prodL (xs.take k) ∧ place xs ys = placeTo m (xs.drop k) (ys.drop k)) (fun _ i _ => xs.length - (intOf i).toNat)
          case atStart => exact ⟨0, _, 0, Nat.zero_le _, rfl, rfl, rfl, by omega, by simp [prodL], by rw [Hp.out]; simp⟩
          case round =>
            obtain ⟨k, nd, m, hk, rfl, rfl, rfl, hm0, hm1, hr⟩ := hrel
            by_cases hlt : k < xs.length
            · have hlt2 : k < ys.length := Hl.out ▸ hlt
              obtain ⟨b0, off, rfl, hcell⟩ := HI.out k hlt
              obtain ⟨b2, off2, rfl, hcell2⟩ := HJ.out k hlt2
              have hz0 : (0 : Int) ≤ (k : Int) := by omega
              have hz1 : (k : Int) < (xs.length : Int) := by omega
              have hz2 : (k : Int) < (ys.length : Int) := by omega
              rw [placeTo_step hlt hlt2] at hr
              have hno := Hall2.out k hlt hlt2
              rw [if_neg hno] at hr
              have Hr := Lib.hid hr; clear hr
              obtain ⟨p0, p1, p2⟩ := place_bd hm0 hm1 (by omega : 0 ≤ ys[k]) (by omega : ys[k] < xs[k])
              rw [← prodL_take_succ hlt] at p2
              have p3 := prodL_take_le g (k := k + 1)
              have hy0 : 0 ≤ ys[k] := by omega
              clear hno
              have e1 : IntKind.i64.wrap (m * xs[k]) = m * xs[k] := IntWalk.i64_in _ (by omega)
              have e2 : IntKind.i64.wrap (m * xs[k] + ys[k]) = m * xs[k] + ys[k] := IntWalk.i64_in _ (by omega)
              go_wp2_with fail
              go_quiet (fail)
              clear e1 e2
              go_wp2
              go_roundw
              case rel => exact ⟨k + 1, _, m * xs[k] + ys[k], by omega, by go_num, rfl, rfl, p1, p2, by rw [Hr.out]⟩
              case measure => simp [intOf]; omega
            · have Hr := Lib.hid hr; clear hr
              go_wp2
              go_ret2
              exact ⟨ret_two (by rw [Hr.out, List.drop_eq_nil_of_le (by omega)]; rfl), Below.drewN _ _⟩
    · have hl' : ((ys.length : Int) != (xs.length : Int)) = true := by simp; omega
      have Hf : Hid (place xs ys = (0, 62)) := by unfold Hid; rw [Hr.out, if_pos rfl, if_neg (fun e => hl e.symm)]
      go_enter Try.func15, Try.ntmps15
      go_wp2_with (go_at_call 11; refine (Hq.out).mono ?_; rintro e w1 ⟨rfl, rfl⟩)
      go_ret2
      exact ⟨ret_two Hf.out, Below.refl _ _⟩
end Go.Proofs.Ytbhhmfkipfedfaa
