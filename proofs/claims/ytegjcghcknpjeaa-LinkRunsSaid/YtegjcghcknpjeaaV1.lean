import Derived.Test.YtegjcghcknpjeaaWord
namespace Go.Proofs.Ytegjcghcknpjeaa
open Go.RowKit

set_option maxHeartbeats 400000 in
theorem truth_any (w : World) (b : Bool) : Calls Try.prog 51 #[.bool b] w fun e w' => e = .returned (.int .i64 (truthI b)) ∧ w = w' := by
  cases b
  all_goals
    go_enter Try.func51, Try.ntmps51
    go_wp2
    go_ret
    exact ⟨rfl, rfl⟩

set_option maxHeartbeats 400000 in
theorem raised_any (w : World) (a n : Int) (hn0 : 0 ≤ n) (hn : n ≤ 9223372036854775807) : Calls Try.prog 53 #[.int .i64 a, .int .i64 n] w fun e w' => e = .returned (.int .i64 (wrap64 (a ^ n.toNat))) ∧ w = w' := by
  go_enter Try.func53, Try.ntmps53
  go_wp2
  go_loop [0, 1, 5] (fun x i p => ∃ (m y q : Int), 0 ≤ m ∧ m ≤ n ∧ x = .int .i64 y ∧ i = .int .i64 m ∧ p = .int .i64 q ∧ wrap64 q = q ∧ wrap64 (q * y ^ m.toNat) = wrap64 (a ^ n.toNat)) (fun _ i _ => (intOf i).toNat)
  case atStart => exact ⟨n, a, 1, hn0, Int.le_refl _, rfl, rfl, rfl, wrap_id (by unfold In64; omega), by rw [Int.one_mul]⟩
  case round =>
    obtain ⟨m, y, q, hm0, hm1, rfl, rfl, rfl, hq, hr⟩ := hrel
    have Hq := Lib.hid hq; have Hr := Lib.hid hr; clear hq hr
    by_cases h : 0 < m
    · have hm2 : (m / 2).toNat = m.toNat / 2 := by omega
      have Hm2 := Lib.hid hm2; clear hm2
      by_cases hodd : m % 2 = 1
      · have ho : m.toNat % 2 = 1 := by omega
        have hb : (bits BinOp.and IntKind.i64 m 1 == 1) = true := by rw [and_one m hm0 (by omega)]; simpa using hodd
        have Ho := Lib.hid ho; clear ho hodd
        go_wp2
        go_round
        case rel => exact ⟨m / 2, wrap64 (y * y), wrap64 (q * y), by omega, by omega, rfl, rfl, rfl, wrap_wrap _, by rw [Hm2.out, pow_odd _ _ _ Ho.out]; exact Hr.out⟩
        case measure => simp [intOf]; omega
      · have ho : m.toNat % 2 = 0 := by omega
        have hb : (bits BinOp.and IntKind.i64 m 1 == 1) = false := by rw [and_one m hm0 (by omega)]; simpa using hodd
        have Ho := Lib.hid ho; clear ho hodd
        go_wp2
        go_round
        case rel => exact ⟨m / 2, wrap64 (y * y), q, by omega, by omega, rfl, rfl, rfl, Hq.out, by rw [Hm2.out, pow_even _ _ _ Ho.out]; exact Hr.out⟩
        case measure => simp [intOf]; omega
    · have hm : m = 0 := by omega
      have Hm := Lib.hid hm; clear hm
      go_wp2
      go_ret
      exact ⟨ret_int (by have := Hr.out; rw [Hm.out] at this; simpa [Hq.out] using this), rfl⟩

set_option maxHeartbeats 400000 in
theorem rest_any (w : World) (a b : Int) (hb : ¬ b = 0) (hi : In64 b) : Calls Try.prog 52 #[.int .i64 a, .int .i64 b] w fun e w' => e = .returned (.int .i64 (a.fmod b)) ∧ w = w' := by
  have hr := rest_eq (a := a) hb
  have ht := tmod_lt (a := a) hb
  have Hr := Lib.hid hr; clear hr
  unfold In64 at hi
  by_cases h0 : a.tmod b = 0
  · have Hf : Hid (a.fmod b = 0) := by unfold Hid; rw [Hr.out, if_neg (by omega)]; exact h0
    clear hi ht
    go_enter Try.func52, Try.ntmps52
    go_wp2
    go_ret
    exact ⟨ret_int Hf.out.symm, rfl⟩
  · have h0' : (a.tmod b != 0) = true := by simpa using h0
    by_cases hs : (!(decide (a.tmod b < 0) == decide (b < 0))) = true
    · have Hf : Hid (wrap64 (a.tmod b + b) = a.fmod b) := by
        unfold Hid
        have hs' : decide (a.tmod b < 0) ≠ decide (b < 0) := by simpa using hs
        rw [Hr.out, if_pos ⟨h0, hs'⟩]
        refine wrap_id ?_
        unfold In64
        simp at hs'
        omega
      clear hi ht
      go_enter Try.func52, Try.ntmps52
      go_wp2
      go_ret
      exact ⟨ret_int Hf.out, rfl⟩
    · have Hf : Hid (a.tmod b = a.fmod b) := by
        unfold Hid
        have hs' : ¬ decide (a.tmod b < 0) ≠ decide (b < 0) := by simpa using hs
        rw [Hr.out, if_neg (fun h => hs' h.2)]
      have hs2 : (!(decide (a.tmod b < 0) == decide (b < 0))) = false := by simpa using hs
      clear hi ht hs
      go_enter Try.func52, Try.ntmps52
      go_wp2
      go_ret
      exact ⟨ret_int Hf.out, rfl⟩
end Go.Proofs.Ytegjcghcknpjeaa
