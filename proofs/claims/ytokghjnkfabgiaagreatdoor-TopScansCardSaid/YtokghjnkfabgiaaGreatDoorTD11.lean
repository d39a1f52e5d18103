import Derived.Test.YtokghjnkfabgiaaGreatDoorTD10
import Derived.Test.YtokghjnkfabgiaaGreatDoorTD1
set_option linter.unusedVariables false
set_option linter.unusedSimpArgs false
set_option maxRecDepth 100000
namespace Go.Proofs.YtokghjnkfabgiaaGreatDoor
open Go.RowKit Go.Lib
attribute [local go_sem] str_size str_get

theorem letter_plain : ∀ n : Nat, n < 256 → (decide ((97 : Int) ≤ bits .or .u8 (n : Int) 32) && decide (bits .or .u8 (n : Int) 32 ≤ (122 : Int))) = isLetter (UInt8.ofNat n) := by decide +kernel
theorem letter_any (b : UInt8) (w : World) : Calls Tryz.prog 42 #[.int .u8 (b.toNat : Int)] w fun e w' => e = .returned (.bool (isLetter b)) ∧ w' = w := by
 have h := letter_plain b.toNat (UInt8.toNat_lt b)
 rw [UInt8.ofNat_toNat] at h
 have H := Lib.hid h; clear h
 go_enter Tryz.func42, Tryz.ntmps42
 go_wp2
 all_goals (go_ret; refine ⟨ret_bool ?_, rfl⟩; rw [← H.out])
 ·rename_i h; rw [decide_eq_true h]; rfl
 ·rename_i h; rw [decide_eq_false (by omega)]; rfl
theorem digit_any (b : UInt8) (w : World) : Calls Tryz.prog 44 #[.int .u8 (b.toNat : Int)] w fun e w' => e = .returned (.bool (isDigit b)) ∧ w' = w := by
 go_enter Tryz.func44, Tryz.ntmps44
 go_wp2
 all_goals (go_ret; refine ⟨ret_bool ?_, rfl⟩; unfold isDigit; rename_i h)
 ·rw [decide_eq_true (show 48 ≤ b.toNat by omega)]
  show decide _ = decide _
  exact decide_eq_decide.2 (by omega)
 ·rw [decide_eq_false (show ¬ 48 ≤ b.toNat by omega)]; rfl
theorem span_step {p : UInt8 → Bool} {l : Str} {k : Nat} (h : k < l.length) : spanN p (l.drop k) = if p l[k] = true then spanN p (l.drop (k + 1)) + 1 else 0 := by
 rw [List.drop_eq_getElem_cons h, spanN]
set_option maxHeartbeats 4000000 in
theorem run_any (w : World) (l : Str) (g : FuncId) (p : UInt8 → Bool) (hg : ∀ args w, (callFunc g args).run Tryz.prog w = .ok (.enter g args) w) (hm : l.length ≤ 9223372036854775807)
  (hp : ∀ b w', Calls Tryz.prog g #[.int .u8 (b.toNat : Int)] w' fun e w'' => e = .returned (.bool (p b)) ∧ w'' = w') :
  Calls Tryz.prog 23 #[.string (str l), .func (.func g) #[] #[]] w fun e w' => e = .returned (.int .i64 (spanN p l)) ∧ w' = w := by
 have HP := Lib.hid hp; clear hp
 go_enter Tryz.func23, Tryz.ntmps23
 go_wp2
 go_loop [5] (fun i => ∃ k : Nat, k ≤ l.length ∧ i = .int .i64 k ∧ spanN p l = k + spanN p (l.drop k)) (fun i => l.length - (RowKit.intOf i).toNat)
 case atStart => exact ⟨0, Nat.zero_le _, rfl, by simp⟩
 case round =>
  obtain ⟨k, hk, rfl, hr⟩ := hrel
  by_cases hlt : k < l.length
  ·rw [span_step hlt] at hr
   have hq := HP.out l[k] w
   have Hr := Lib.hid hr; clear hr
   cases hv : p l[k] with
   | true =>
    rw [hv] at hq
    have HQ := Lib.hid hq; have Hv := Lib.hid hv; clear hq hv
    go_wp2_with (refine HQ.out.mono ?_; rintro e w' ⟨rfl, rfl⟩)
    go_round
    case rel => exact ⟨k + 1, by omega, by go_num, by rw [Hr.out, if_pos Hv.out]; omega⟩
    case measure => simp [RowKit.intOf]; omega
   | false =>
    rw [hv] at hq
    have HQ := Lib.hid hq; have Hv := Lib.hid hv; clear hq hv
    go_wp2_with (refine HQ.out.mono ?_; rintro e w' ⟨rfl, rfl⟩)
    go_ret
    exact ⟨ret_int (by rw [Hr.out, if_neg (by rw [Hv.out]; simp)]; rfl), rfl⟩
  ·have Hr := Lib.hid hr; clear hr
   go_wp2
   go_ret
   exact ⟨ret_int (by rw [Hr.out, List.drop_eq_nil_of_le (by omega)]; rfl), rfl⟩
end Go.Proofs.YtokghjnkfabgiaaGreatDoor
