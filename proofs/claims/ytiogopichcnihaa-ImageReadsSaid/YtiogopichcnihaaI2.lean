-- DROPS
import Derived.Test.YtiogopichcnihaaI1
namespace Go.Proofs.Ytiogopichcnihaa
set_option maxRecDepth 100000
open Go.RowKit
set_option linter.unusedVariables false
set_option linter.unusedSimpArgs false

/-- the letters of its fields, in the reference -/
def rletS : Nat → ByteArray
  | 2 => ⟨#[73]⟩
  | 3 => ⟨#[65, 73]⟩
  | 4 => ⟨#[65, 66]⟩
  | 5 => ⟨#[65, 66, 73]⟩
  | 6 => ⟨#[70, 65, 66, 67]⟩
  | 7 => ⟨#[70, 65, 66]⟩
  | _ => ⟨#[]⟩

set_option maxHeartbeats 4000000 in
theorem rhas_any (w : World) (op : Int) (h0 : 0 ≤ op) (h1 : op ≤ 255) : Calls Try.prog 51 #[.int .u8 op] w (HasP (kind op) (rletS (kind op)) w) := by
  have hc : op = 0 ∨ op = 1 ∨ op = 2 ∨ op = 3 ∨ op = 4 ∨ op = 5 ∨ op = 6 ∨ op = 7 ∨ op = 8 ∨ op = 9 ∨ op = 10 ∨ (11 ≤ op ∧ op < 64) ∨ (64 ≤ op ∧ op < 128) ∨ 128 ≤ op := by omega
  rcases hc with rfl | rfl | rfl | rfl | rfl | rfl | rfl | rfl | rfl | rfl | rfl | ⟨ha, hb⟩ | ⟨ha, hb⟩ | ha
  iterate 11
    · go_enter Try.func51, Try.ntmps51
      go_wp2
      go_ret2
      exact ⟨⟨_, rfl, by kernel_rfl⟩, rfl⟩
  · have hk : kind op = 0 := by unfold kind; rw [if_neg (by omega), if_neg (by omega), if_neg (by omega), if_neg (by omega), if_neg (by omega), if_neg (by omega), if_neg (by omega)]
    rw [hk]
    clear hk
    go_enter Try.func51, Try.ntmps51
    go_wp2
    go_ret2
    exact ⟨⟨_, rfl, by kernel_rfl⟩, rfl⟩
  · have hk : kind op = if takes (op - 64) false then 7 else 0 := by unfold kind; rw [if_neg (by omega), if_neg (by omega), if_neg (by omega), if_neg (by omega), if_neg (by omega), if_neg (by omega), if_pos (by omega)]
    have ht := rtakes_any w (op - 64) false
    cases hx : takes (op - 64) false with
    | true =>
      rw [hx] at ht hk
      rw [hk]
      have HT := Lib.hid ht
      clear hk ht hx
      go_enter Try.func51, Try.ntmps51
      go_wp2_with (go_at_call 62; refine HT.out.mono ?_; rintro e w1 ⟨rfl, rfl⟩)
      go_ret2
      exact ⟨⟨_, rfl, by kernel_rfl⟩, rfl⟩
    | false =>
      rw [hx] at ht hk
      rw [hk]
      have HT := Lib.hid ht
      clear hk ht hx
      go_enter Try.func51, Try.ntmps51
      go_wp2_with (go_at_call 62; refine HT.out.mono ?_; rintro e w1 ⟨rfl, rfl⟩)
      go_ret2
      exact ⟨⟨_, rfl, by kernel_rfl⟩, rfl⟩
  · have hk : kind op = if takes (op - 128) true then 6 else 0 := by unfold kind; rw [if_neg (by omega), if_neg (by omega), if_neg (by omega), if_neg (by omega), if_neg (by omega), if_pos (by omega)]
    have ht := rtakes_any w (op - 128) true
    cases hx : takes (op - 128) true with
    | true =>
      rw [hx] at ht hk
      rw [hk]
      have HT := Lib.hid ht
      clear hk ht hx
      go_enter Try.func51, Try.ntmps51
      go_wp2_with (go_at_call 62; refine HT.out.mono ?_; rintro e w1 ⟨rfl, rfl⟩)
      go_ret2
      exact ⟨⟨_, rfl, by kernel_rfl⟩, rfl⟩
    | false =>
      rw [hx] at ht hk
      rw [hk]
      have HT := Lib.hid ht
      clear hk ht hx
      go_enter Try.func51, Try.ntmps51
      go_wp2_with (go_at_call 62; refine HT.out.mono ?_; rintro e w1 ⟨rfl, rfl⟩)
      go_ret2
      exact ⟨⟨_, rfl, by kernel_rfl⟩, rfl⟩

def inS (s : ByteArray) (c : UInt8) : Bool := decide (c ∈ s.data.toList)
set_option maxHeartbeats 4000000 in
theorem in_any (w : World) (s : ByteArray) (c : UInt8) (hs : s.size ≤ maxLen) : Calls Try.prog 52 #[.string s, .int .u8 (c.toNat : Int)] w fun e w' => e = .returned (.bool (inS s c)) ∧ w = w' := by
  unfold maxLen at hs
  obtain ⟨y, hy⟩ : ∃ y : Int, (c.toNat : Int) = y := ⟨_, rfl⟩
  rw [hy]
  have Hy := Lib.hid hy; clear hy
  go_enter Try.func52, Try.ntmps52
  go_wp2
  go_loop [5] (fun i => ∃ k : Nat, k ≤ s.size ∧ i = .int .i64 k ∧ ¬ c ∈ s.data.toList.take k) (fun i => s.size - (intOf i).toNat)
  case atStart => exact ⟨0, Nat.zero_le _, rfl, by simp⟩
  case round =>
    obtain ⟨k, hk, rfl, hn⟩ := hrel
    have Hn := Lib.hid hn; clear hn
    by_cases hlt : k < s.size
    · have hts := take_snocB s k hlt
      have Hts := Lib.hid hts; clear hts
      by_cases he : c = s[k]
      · have hq : ((s[k].toNat : Int) == y) = true := by rw [← Hy.out, he]; simp
        have He := Lib.hid he; clear he
        go_wp2
        go_ret
        refine ⟨ret_bool ?_, rfl⟩
        have : c ∈ s.data.toList := by
          have h1 : c ∈ s.data.toList.take (k + 1) := by rw [Hts.out]; simp [He.out]
          exact List.mem_of_mem_take h1
        exact (decide_eq_true this).symm
      · have hq : ((s[k].toNat : Int) == y) = false := by
          rw [← Hy.out]
          simp only [beq_eq_false_iff_ne, ne_eq]
          exact fun e => he (UInt8.toNat_inj.1 (by omega))
        have He := Lib.hid he; clear he
        go_wp2
        go_round
        case rel => exact ⟨k + 1, by omega, by go_num, by rw [Hts.out]; simp only [List.mem_append, List.mem_singleton, not_or]; exact ⟨Hn.out, He.out⟩⟩
        case measure => simp [intOf]; omega
    · go_wp2
      go_ret
      refine ⟨ret_bool ?_, rfl⟩
      have := Hn.out
      rw [List.take_of_length_le (by simp; omega)] at this
      exact (decide_eq_false this).symm

set_option maxHeartbeats 4000000 in
theorem rRight_early (w : World) (op a b c imm : Int) (h0 : 0 ≤ op) (h1 : op ≤ 255) (h : kind op = 0 ∨ 16 ≤ a ∨ 16 ≤ b ∨ 16 ≤ c) :
    Calls Try.prog 35 #[.agg #[.int .u8 op, .int .u8 a, .int .u8 b, .int .u8 c, .int .i32 imm]] w fun e w' => e = .returned (.bool false) ∧ Below w.heap.size w w' := by
  have hk := fun o => rhas_any (w.alloc o) op h0 h1
  have HK := Lib.hid hk; clear hk
  cases hz : (kind op == 0) with
  | true =>
    have Hz := Lib.hid hz; clear hz h
    go_enter Try.func35, Try.ntmps35
    go_wp2_with fail
    refine (HK.out _).mono ?_
    rintro e w1 ⟨⟨nm, rfl, hn⟩, rfl⟩
    rw [Hz.out] at hn
    go_wp2_with fail
    go_ret
    exact ⟨rfl, (Below.refl _ _).alloc (Nat.le_refl _) _⟩
  | false =>
    have h' : 16 ≤ a ∨ 16 ≤ b ∨ 16 ≤ c := by rcases h with h | h; · rw [h] at hz; cases hz
                                             · exact h
    have Hz := Lib.hid hz; clear hz h
    by_cases ha : 16 ≤ a
    · clear h'
      go_enter Try.func35, Try.ntmps35
      go_wp2_with fail
      refine (HK.out _).mono ?_
      rintro e w1 ⟨⟨nm, rfl, hn⟩, rfl⟩
      rw [Hz.out] at hn
      go_wp2_with fail
      go_ret
      exact ⟨rfl, (Below.refl _ _).alloc (Nat.le_refl _) _⟩
    · have ha' : decide (16 ≤ a) = false := by simpa using ha
      by_cases hb : 16 ≤ b
      · clear h'
        go_enter Try.func35, Try.ntmps35
        go_wp2_with fail
        refine (HK.out _).mono ?_
        rintro e w1 ⟨⟨nm, rfl, hn⟩, rfl⟩
        rw [Hz.out] at hn
        go_wp2_with fail
        go_ret
        exact ⟨rfl, (Below.refl _ _).alloc (Nat.le_refl _) _⟩
      · have hb' : decide (16 ≤ b) = false := by simpa using hb
        have hc : 16 ≤ c := by omega
        clear h'
        go_enter Try.func35, Try.ntmps35
        go_wp2_with fail
        refine (HK.out _).mono ?_
        rintro e w1 ⟨⟨nm, rfl, hn⟩, rfl⟩
        rw [Hz.out] at hn
        go_wp2_with fail
        go_ret
        exact ⟨rfl, (Below.refl _ _).alloc (Nat.le_refl _) _⟩


theorem in_at (W : World) (k : Nat) (c : UInt8) (y : Int) (b : Bool) (hy : (c.toNat : Int) = y) (hb : inS (rletS k) c = b) : Calls Try.prog 52 #[.string (rletS k), .int .u8 y] W fun e w' => e = .returned (.bool b) ∧ W = w' := by
  subst hy; subst hb
  exact in_any W (rletS k) c (by unfold rletS maxLen; split <;> decide)

set_option maxHeartbeats 8000000 in
theorem rRight_late (w : World) (op a b c imm : Int) (k : Nat) (hk1 : 1 ≤ k) (hk7 : k ≤ 7) (h0 : 0 ≤ op) (h1 : op ≤ 255) (ha : a < 16) (hb : b < 16) (hc : c < 16) (hk : ∀ W, Calls Try.prog 51 #[.int .u8 op] W (HasP 1 (rletS k) W)) :
    Calls Try.prog 35 #[.agg #[.int .u8 op, .int .u8 a, .int .u8 b, .int .u8 c, .int .i32 imm]] w fun e w' =>
      e = .returned (.bool ((decide (3 ≤ k) || a == 0) && (decide (4 ≤ k) || b == 0) && (k == 6 || c == 0) && (k == 2 || k == 3 || k == 5 || imm == 0))) ∧ Below w.heap.size w w' := by
  have h : k = 1 ∨ k = 2 ∨ k = 3 ∨ k = 4 ∨ k = 5 ∨ k = 6 ∨ k = 7 := by omega
  have HK := Lib.hid hk; clear hk hk1 hk7
  have hA := fun W => in_at W k 65 65 _ rfl rfl
  have hB := fun W => in_at W k 66 66 _ rfl rfl
  have hC := fun W => in_at W k 67 67 _ rfl rfl
  have hI := fun W => in_at W k 73 73 _ rfl rfl
  obtain ⟨fa, hfa⟩ : ∃ b, inS (rletS k) 65 = b := ⟨_, rfl⟩
  obtain ⟨fb, hfb⟩ : ∃ b, inS (rletS k) 66 = b := ⟨_, rfl⟩
  obtain ⟨fc, hfc⟩ : ∃ b, inS (rletS k) 67 = b := ⟨_, rfl⟩
  obtain ⟨fi, hfi⟩ : ∃ b, inS (rletS k) 73 = b := ⟨_, rfl⟩
  rw [hfa] at hA; rw [hfb] at hB; rw [hfc] at hC; rw [hfi] at hI
  have hres : ((decide (3 ≤ k) || a == 0) && (decide (4 ≤ k) || b == 0) && (k == 6 || c == 0) && (k == 2 || k == 3 || k == 5 || imm == 0)) = ((fa || a == 0) && (fb || b == 0) && (fc || c == 0) && (fi || imm == 0)) := by
    rw [← hfa, ← hfb, ← hfc, ← hfi]
    rcases h with rfl | rfl | rfl | rfl | rfl | rfl | rfl <;> rfl
  rw [hres]
  have HA := Lib.hid hA; have HB := Lib.hid hB; have HC := Lib.hid hC; have HI := Lib.hid hI
  clear hA hB hC hI h hres hfa hfb hfc hfi
  obtain ⟨l, hl⟩ : ∃ l, rletS k = l := ⟨_, rfl⟩
  rw [hl] at HK HA HB HC HI
  clear hl
  go_enter Try.func35, Try.ntmps35
  go_wp2_with fail
  refine (HK.out _).mono ?_
  rintro e w1 ⟨⟨nm, rfl, hn⟩, rfl⟩
  have hn1 : nm.toList.isEmpty = false := hn
  clear hn
  go_wp2_with fail
  refine (HA.out _).mono ?_
  rintro e w1 ⟨rfl, rfl⟩
  go_wp2_with (first
    | (go_at_call 52; ((with_reducible refine (HB.out _).mono ?_); rintro e w1 ⟨rfl, rfl⟩))
    | (go_at_call 52; ((with_reducible refine (HC.out _).mono ?_); rintro e w1 ⟨rfl, rfl⟩))
    | (go_at_call 52; ((with_reducible refine (HI.out _).mono ?_); rintro e w1 ⟨rfl, rfl⟩)))
  all_goals
    go_ret
    refine ⟨ret_bool ?_, (Below.refl _ _).alloc (Nat.le_refl _) _⟩
    first | done | simp_all | skip

theorem rRight_any (w : World) (op a b c imm : Int) (h0 : 0 ≤ op) (h1 : op ≤ 255) :
    Calls Try.prog 35 #[.agg #[.int .u8 op, .int .u8 a, .int .u8 b, .int .u8 c, .int .i32 imm]] w fun e w' => e = .returned (.bool (insRight op a b c imm)) ∧ Below w.heap.size w w' := by
  by_cases h : kind op = 0 ∨ 16 ≤ a ∨ 16 ≤ b ∨ 16 ≤ c
  · have e : insRight op a b c imm = false := by
      unfold insRight
      rcases h with h | h | h | h
      · simp [h]
      · rw [show decide (a < 16) = false from by simpa using h]; simp
      · rw [show decide (b < 16) = false from by simpa using h]; simp
      · rw [show decide (c < 16) = false from by simpa using h]; simp
    rw [e]
    exact rRight_early w op a b c imm h0 h1 h
  · have hk : kind op ≠ 0 := fun e => h (.inl e)
    have e : insRight op a b c imm = ((decide (3 ≤ kind op) || a == 0) && (decide (4 ≤ kind op) || b == 0) && (kind op == 6 || c == 0) && (kind op == 2 || kind op == 3 || kind op == 5 || imm == 0)) := by
      unfold insRight
      rw [show (kind op != 0) = true from by simpa using hk, show decide (a < 16) = true from by simp; omega, show decide (b < 16) = true from by simp; omega, show decide (c < 16) = true from by simp; omega]
      simp only [Bool.true_and]
    rw [e]
    refine rRight_late w op a b c imm _ (by omega) (kind_le op) h0 h1 (by omega) (by omega) (by omega) fun W => ?_
    have := rhas_any W op h0 h1
    refine this.mono fun e w' ⟨⟨nm, h1, h2⟩, h3⟩ => ⟨⟨nm, h1, ?_⟩, h3⟩
    rw [h2]
    simpa using hk
end Go.Proofs.Ytiogopichcnihaa
