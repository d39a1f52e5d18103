import Derived.Test.YtokghjnkfabgiaaGreatDoorTA7
import Derived.Test.YtokghjnkfabgiaaGreatDoorTA1
import Derived.Lib.ParseIntB
namespace Go.Proofs.YtokghjnkfabgiaaGreatDoor
set_option maxRecDepth 100000
open Go.RowKit Go.Lib
set_option linter.unusedVariables false
set_option linter.unusedSimpArgs false
attribute [local go_sem] str_size str_get

/-! lex.letter, lex.digit, lex.run. -/
theorem letter_plain : ∀ n : Nat, n < 256 → (decide ((97 : Int) ≤ bits .or .u8 (n : Int) 32) && decide (bits .or .u8 (n : Int) 32 ≤ (122 : Int))) = isLetter (UInt8.ofNat n) := by decide +kernel
theorem letter_any (b : UInt8) (w : World) : Calls Tryz.prog 42 #[.int .u8 (b.toNat : Int)] w fun e w' => e = .returned (.bool (isLetter b)) ∧ w' = w := by
  have h := letter_plain b.toNat (UInt8.toNat_lt b)
  rw [UInt8.ofNat_toNat] at h
  have H := Lib.hid h; clear h
  go_enter Tryz.func42, Tryz.ntmps42
  go_wp2
  all_goals (go_ret; refine ⟨ret_bool ?_, rfl⟩; rw [← H.out])
  · rename_i h; rw [decide_eq_true h]; rfl
  · rename_i h; rw [decide_eq_false (by omega)]; rfl
theorem digit_any (b : UInt8) (w : World) : Calls Tryz.prog 44 #[.int .u8 (b.toNat : Int)] w fun e w' => e = .returned (.bool (isDigit b)) ∧ w' = w := by
  go_enter Tryz.func44, Tryz.ntmps44
  go_wp2
  all_goals (go_ret; refine ⟨ret_bool ?_, rfl⟩; unfold isDigit; rename_i h)
  · rw [decide_eq_true (show 48 ≤ b.toNat by omega)]
    show decide _ = decide _
    exact decide_eq_decide.2 (by omega)
  · rw [decide_eq_false (show ¬ 48 ≤ b.toNat by omega)]; rfl
theorem span_step {p : UInt8 → Bool} {l : Str} {k : Nat} (h : k < l.length) : spanN p (l.drop k) = if p l[k] = true then spanN p (l.drop (k + 1)) + 1 else 0 := by
  rw [List.drop_eq_getElem_cons h, spanN]
set_option maxHeartbeats 4000000 in
theorem run_any (w : World) (l : Str) (g : FuncId) (p : UInt8 → Bool) (hg : ∀ args w, (callFunc g args).run Tryz.prog w = .ok (.enter g args) w) (hm : l.length ≤ 9223372036854775807)
    (hp : ∀ b w', Calls Tryz.prog g #[.int .u8 (b.toNat : Int)] w' fun e w'' => e = .returned (.bool (p b)) ∧ w'' = w') :
    Calls Tryz.prog 23 #[.string (str l), .func (.func g) #[] #[]] w fun e w' => e = .returned (.int .i64 (spanN p l)) ∧ w' = w := by
  have HP := Lib.hid hp; clear hp
  go_enter Tryz.func23, Tryz.ntmps23
  go_wp2
  go_loop [5] (fun i => ∃ k : Nat, k ≤ l.length ∧ i = .int .i64 k ∧ spanN p l = k + spanN p (l.drop k)) (fun i => l.length - (RowKit.intOf i).toNat)
  case atStart => exact ⟨0, Nat.zero_le _, rfl, by simp⟩
  case round =>
    obtain ⟨k, hk, rfl, hr⟩ := hrel
    by_cases hlt : k < l.length
    · rw [span_step hlt] at hr
      have hq := HP.out l[k] w
      have Hr := Lib.hid hr; clear hr
      cases hv : p l[k] with
      | true =>
        rw [hv] at hq
        have HQ := Lib.hid hq; have Hv := Lib.hid hv; clear hq hv
        go_wp2_with (refine HQ.out.mono ?_; rintro e w' ⟨rfl, rfl⟩)
        go_round
        case rel => exact ⟨k + 1, by omega, by go_num, by rw [Hr.out, if_pos Hv.out]; omega⟩
        case measure => simp [RowKit.intOf]; omega
      | false =>
        rw [hv] at hq
        have HQ := Lib.hid hq; have Hv := Lib.hid hv; clear hq hv
        go_wp2_with (refine HQ.out.mono ?_; rintro e w' ⟨rfl, rfl⟩)
        go_ret
        exact ⟨ret_int (by rw [Hr.out, if_neg (by rw [Hv.out]; simp)]; rfl), rfl⟩
    · have Hr := Lib.hid hr; clear hr
      go_wp2
      go_ret
      exact ⟨ret_int (by rw [Hr.out, List.drop_eq_nil_of_le (by omega)]; rfl), rfl⟩
end Go.Proofs.YtokghjnkfabgiaaGreatDoor

namespace Go.Proofs.YtokghjnkfabgiaaGreatDoor
set_option maxRecDepth 100000
open Go.Lib
set_option linter.unusedVariables false
set_option linter.unusedSimpArgs false

/-! Numerals: what ParseInt says of them. -/
theorem dec_some : ∀ (w : Str) (acc : Nat), (∀ b ∈ w, isDigit b = true) → ∃ u, decFrom acc w = some u ∧ acc ≤ u
  | [], acc, _ => ⟨acc, rfl, Nat.le_refl _⟩
  | b :: w, acc, h => by
    have hb := h b List.mem_cons_self
    unfold isDigit at hb
    simp only [Bool.and_eq_true, decide_eq_true_eq] at hb
    have hd : digitVal b = some (b.toNat - 48) := by unfold digitVal; rw [if_pos (by omega)]
    obtain ⟨u, h1, h2⟩ := dec_some w (acc * 10 + (b.toNat - 48)) fun c hc => h c (List.mem_cons_of_mem _ hc)
    exact ⟨u, by rw [decFrom, hd]; exact h1, by omega⟩
theorem uint_digits : ∀ (w : Str) (acc u : Nat), (∀ b ∈ w, isDigit b = true) → decFrom acc w = some u → acc ≤ 18446744073709551615 → parseUintM 18446744073709551615 acc w = if u ≤ 18446744073709551615 then .ok u else .range
  | [], acc, u, _, h, ha => by cases h; rw [if_pos ha]; rfl
  | b :: w, acc, u, hw, h, ha => by
    have hb := hw b List.mem_cons_self
    unfold isDigit at hb
    simp only [Bool.and_eq_true, decide_eq_true_eq] at hb
    have hd : digitVal b = some (b.toNat - 48) := by unfold digitVal; rw [if_pos (by omega)]
    rw [decFrom, hd] at h
    have hw' : ∀ c ∈ w, isDigit c = true := fun c hc => hw c (List.mem_cons_of_mem _ hc)
    obtain ⟨u', h1, h2⟩ := dec_some w (acc * 10 + (b.toNat - 48)) hw'
    have e : u' = u := by
      have h : decFrom (acc * 10 + (b.toNat - 48)) w = some u := h
      rw [h1] at h; exact Option.some.inj h
    subst e
    rw [parseUintM, if_pos (by omega)]
    by_cases h3 : 1844674407370955162 ≤ acc
    · rw [if_pos h3, if_neg (by omega)]
    rw [if_neg h3]
    by_cases h4 : 18446744073709551615 < acc * 10 + (b.toNat - 48)
    · rw [if_pos h4, if_neg (by omega)]
    rw [if_neg h4]
    exact uint_digits w _ u' hw' h1 (by omega)
theorem dec_val_some {w : Str} (hw : ∀ b ∈ w, isDigit b = true) : decFrom 0 w = some (decV w) := by
  obtain ⟨u, h, _⟩ := dec_some w 0 hw
  unfold decV
  rw [h]; rfl
theorem int_digits {w : Str} (hw : ∀ b ∈ w, isDigit b = true) (hne : w ≠ []) : parseIntB 64 w = if in64B (decV w : Int) = true then .ok (decV w : Int) else .range := by
  cases w with
  | nil => exact absurd rfl hne
  | cons b w =>
    have hb := hw b List.mem_cons_self
    unfold isDigit at hb
    simp only [Bool.and_eq_true, decide_eq_true_eq] at hb
    have hu := uint_digits (b :: w) 0 _ hw (dec_val_some hw) (by decide)
    generalize decV (b :: w) = u at hu
    unfold parseIntB
    dsimp only
    rw [if_neg (show ¬ (b.toNat = 43 ∨ b.toNat = 45) by omega)]
    unfold parseUintB
    rw [if_neg (by simp), show (2 ^ 64 - 1 : Nat) = 18446744073709551615 from rfl, hu]
    unfold in64B
    by_cases h1 : u ≤ 18446744073709551615
    · rw [if_pos h1]
      dsimp only
      by_cases h2 : u ≤ 9223372036854775807
      · rw [if_neg (by omega), if_neg (by omega), if_neg (by omega), if_pos (by simp; omega)]
      · rw [if_pos (by omega), if_neg (by simp; omega)]
    · rw [if_neg h1, if_neg (by simp; omega)]
theorem int_minus {w : Str} (hw : ∀ b ∈ w, isDigit b = true) (hne : w ≠ []) : parseIntB 64 (45 :: w) = if in64B (-(decV w : Int)) = true then .ok (-(decV w : Int)) else .range := by
  have hu := uint_digits w 0 _ hw (dec_val_some hw) (by decide)
  generalize decV w = u at hu
  unfold parseIntB
  dsimp only
  rw [if_pos (show ((45 : UInt8).toNat = 43 ∨ (45 : UInt8).toNat = 45) by decide)]
  unfold parseUintB
  rw [if_neg hne, show (2 ^ 64 - 1 : Nat) = 18446744073709551615 from rfl, hu]
  unfold in64B
  have h45 : (45 : UInt8).toNat = 45 := rfl
  by_cases h1 : u ≤ 18446744073709551615
  · rw [if_pos h1]
    dsimp only
    rw [h45, if_neg (by omega)]
    by_cases h2 : u ≤ 9223372036854775808
    · rw [if_neg (by omega), if_pos rfl, if_pos (by simp; omega)]
    · rw [if_pos (by omega), if_neg (by simp; omega)]
  · rw [if_neg h1, if_neg (by simp; omega)]
/-- the number ahead, how long it is; its fault: 1 if it is none of 64 bits -/
def numQ (b : UInt8) (r : Str) : Int × Nat × Bool :=
  if spanN isDigit (if b = 95 then r else b :: r) = 0 then (0, 0, false)
  else if in64B (if b = 95 then -(decV ((if b = 95 then r else b :: r).take (spanN isDigit (if b = 95 then r else b :: r))) : Int) else (decV ((if b = 95 then r else b :: r).take (spanN isDigit (if b = 95 then r else b :: r))) : Int)) = true then
    (if b = 95 then -(decV ((if b = 95 then r else b :: r).take (spanN isDigit (if b = 95 then r else b :: r))) : Int) else (decV ((if b = 95 then r else b :: r).take (spanN isDigit (if b = 95 then r else b :: r))) : Int), spanN isDigit (if b = 95 then r else b :: r) + (if b = 95 then 1 else 0), false)
  else (0, 0, true)
/-- how long the sign ahead is -/
def signN (b : UInt8) (r : Str) : Nat := if (b = 60 ∨ b = 62) ∧ r.head? = some 61 then 2 else if isSignB b = true then 1 else 0
theorem signN_Q (b : UInt8) (r : Str) : signQ b r = if signN b r = 0 then none else some (⟨3, (b :: r).take (signN b r), 0⟩, signN b r) := by
  unfold signQ signN
  by_cases h : (b = 60 ∨ b = 62) ∧ r.head? = some 61
  · rw [if_pos h, if_pos h, if_neg (by decide)]
    cases r with
    | nil => cases h.2
    | cons c r => cases h.2; rfl
  · rw [if_neg h, if_neg h]
    by_cases h1 : isSignB b = true
    · rw [if_pos h1, if_pos h1, if_neg (by decide)]; rfl
    · rw [if_neg h1, if_neg h1]; rfl
/-- the token ahead, by its parts -/
theorem tok_parts (b : UInt8) (r : Str) : tokQ (b :: r) =
    if b = 10 then some (lineT, 1)
    else if isLetter b = true then (if 16 < spanN isNameB (b :: r) then none else some (⟨1, (b :: r).take (spanN isNameB (b :: r)), 0⟩, spanN isNameB (b :: r)))
    else if (numQ b r).2.2 = true then none
    else if (numQ b r).2.1 ≠ 0 then some (⟨2, [], (numQ b r).1⟩, (numQ b r).2.1)
    else if signN b r = 0 then none else some (⟨3, (b :: r).take (signN b r), 0⟩, signN b r) := by
  rw [tokQ]
  by_cases h10 : b = 10
  · rw [if_pos h10, if_pos h10]
  rw [if_neg h10, if_neg h10]
  by_cases hl : isLetter b = true
  · rw [if_pos hl, if_pos hl]
  rw [if_neg hl, if_neg hl, ← signN_Q]
  by_cases h95 : b = 95
  · rw [if_pos h95]
    unfold numQ
    rw [if_pos h95, if_pos h95]
    generalize decV (r.take (spanN isDigit r)) = u
    by_cases h0 : spanN isDigit r = 0
    · rw [if_pos h0, if_pos h0]; simp
    · rw [if_neg h0, if_neg h0]
      by_cases hi : in64B (-(u : Int)) = true
      · rw [if_pos hi, if_pos hi]; simp [h95]
      · rw [if_neg hi, if_neg hi]; simp
  · rw [if_neg h95]
    unfold numQ
    rw [if_neg h95, if_neg h95]
    generalize decV ((b :: r).take (spanN isDigit (b :: r))) = u
    by_cases h0 : spanN isDigit (b :: r) = 0
    · rw [if_pos h0, if_pos h0]; simp
    · rw [if_neg h0, if_neg h0]
      by_cases hi : in64B (u : Int) = true
      · rw [if_pos hi, if_pos hi]; simp [h0, h95]
      · rw [if_neg hi, if_neg hi]; simp
end Go.Proofs.YtokghjnkfabgiaaGreatDoor
