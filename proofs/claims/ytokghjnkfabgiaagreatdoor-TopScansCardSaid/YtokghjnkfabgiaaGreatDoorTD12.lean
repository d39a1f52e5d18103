import Derived.Test.YtokghjnkfabgiaaGreatDoorTD10
import Derived.Lib.ParseIntB
set_option linter.unusedVariables false
set_option linter.unusedSimpArgs false
set_option maxRecDepth 100000
namespace Go.Proofs.YtokghjnkfabgiaaGreatDoor
open Go.Lib

theorem dec_some : ∀ (w : Str) (acc : Nat), (∀ b ∈ w, isDigit b = true) → ∃ u, decFrom acc w = some u ∧ acc ≤ u
 | [], acc, _ => ⟨acc, rfl, Nat.le_refl _⟩
 | b :: w, acc, h => by
  have hb := h b List.mem_cons_self
  unfold isDigit at hb
  simp only [Bool.and_eq_true, decide_eq_true_eq] at hb
  have hd : digitVal b = some (b.toNat - 48) := by unfold digitVal; rw [if_pos (by omega)]
  obtain ⟨u, h1, h2⟩ := dec_some w (acc * 10 + (b.toNat - 48)) fun c hc => h c (List.mem_cons_of_mem _ hc)
  exact ⟨u, by rw [decFrom, hd]; exact h1, by omega⟩
theorem uint_digits : ∀ (w : Str) (acc u : Nat), (∀ b ∈ w, isDigit b = true) → decFrom acc w = some u → acc ≤ 18446744073709551615 → parseUintM 18446744073709551615 acc w = if u ≤ 18446744073709551615 then .ok u else .range
 | [], acc, u, _, h, ha => by cases h; rw [if_pos ha]; rfl
 | b :: w, acc, u, hw, h, ha => by
  have hb := hw b List.mem_cons_self
  unfold isDigit at hb
  simp only [Bool.and_eq_true, decide_eq_true_eq] at hb
  have hd : digitVal b = some (b.toNat - 48) := by unfold digitVal; rw [if_pos (by omega)]
  rw [decFrom, hd] at h
  have hw' : ∀ c ∈ w, isDigit c = true := fun c hc => hw c (List.mem_cons_of_mem _ hc)
  obtain ⟨u', h1, h2⟩ := dec_some w (acc * 10 + (b.toNat - 48)) hw'
  have e : u' = u := by
   have h : decFrom (acc * 10 + (b.toNat - 48)) w = some u := h
   rw [h1] at h; exact Option.some.inj h
  subst e
  rw [parseUintM, if_pos (by omega)]
  by_cases h3 : 1844674407370955162 ≤ acc
  ·rw [if_pos h3, if_neg (by omega)]
  rw [if_neg h3]
  by_cases h4 : 18446744073709551615 < acc * 10 + (b.toNat - 48)
  ·rw [if_pos h4, if_neg (by omega)]
  rw [if_neg h4]
  exact uint_digits w _ u' hw' h1 (by omega)
theorem dec_val_some {w : Str} (hw : ∀ b ∈ w, isDigit b = true) : decFrom 0 w = some (decV w) := by
 obtain ⟨u, h, _⟩ := dec_some w 0 hw
 unfold decV
 rw [h]; rfl
theorem int_digits {w : Str} (hw : ∀ b ∈ w, isDigit b = true) (hne : w ≠ []) : parseIntB 64 w = if in64B (decV w : Int) = true then .ok (decV w : Int) else .range := by
 cases w with
 | nil => exact absurd rfl hne
 | cons b w =>
  have hb := hw b List.mem_cons_self
  unfold isDigit at hb
  simp only [Bool.and_eq_true, decide_eq_true_eq] at hb
  have hu := uint_digits (b :: w) 0 _ hw (dec_val_some hw) (by decide)
  generalize decV (b :: w) = u at hu
  unfold parseIntB
  dsimp only
  rw [if_neg (show ¬ (b.toNat = 43 ∨ b.toNat = 45) by omega)]
  unfold parseUintB
  rw [if_neg (by simp), show (2 ^ 64 - 1 : Nat) = 18446744073709551615 from rfl, hu]
  unfold in64B
  by_cases h1 : u ≤ 18446744073709551615
  ·rw [if_pos h1]
   dsimp only
   by_cases h2 : u ≤ 9223372036854775807
   ·rw [if_neg (by omega), if_neg (by omega), if_neg (by omega), if_pos (by simp; omega)]
   ·rw [if_pos (by omega), if_neg (by simp; omega)]
  ·rw [if_neg h1, if_neg (by simp; omega)]
theorem int_minus {w : Str} (hw : ∀ b ∈ w, isDigit b = true) (hne : w ≠ []) : parseIntB 64 (45 :: w) = if in64B (-(decV w : Int)) = true then .ok (-(decV w : Int)) else .range := by
 have hu := uint_digits w 0 _ hw (dec_val_some hw) (by decide)
 generalize decV w = u at hu
 unfold parseIntB
 dsimp only
 rw [if_pos (show ((45 : UInt8).toNat = 43 ∨ (45 : UInt8).toNat = 45) by decide)]
 unfold parseUintB
 rw [if_neg hne, show (2 ^ 64 - 1 : Nat) = 18446744073709551615 from rfl, hu]
 unfold in64B
 have h45 : (45 : UInt8).toNat = 45 := rfl
 by_cases h1 : u ≤ 18446744073709551615
 ·rw [if_pos h1]
  dsimp only
  rw [h45, if_neg (by omega)]
  by_cases h2 : u ≤ 9223372036854775808
  ·rw [if_neg (by omega), if_pos rfl, if_pos (by simp; omega)]
  ·rw [if_pos (by omega), if_neg (by simp; omega)]
 ·rw [if_neg h1, if_neg (by simp; omega)]
def numQ (b : UInt8) (r : Str) : Int × Nat × Bool :=
 if spanN isDigit (if b = 95 then r else b :: r) = 0 then (0, 0, false)
 else if in64B (if b = 95 then -(decV ((if b = 95 then r else b :: r).take (spanN isDigit (if b = 95 then r else b :: r))) : Int) else (decV ((if b = 95 then r else b :: r).take (spanN isDigit (if b = 95 then r else b :: r))) : Int)) = true then
  (if b = 95 then -(decV ((if b = 95 then r else b :: r).take (spanN isDigit (if b = 95 then r else b :: r))) : Int) else (decV ((if b = 95 then r else b :: r).take (spanN isDigit (if b = 95 then r else b :: r))) : Int), spanN isDigit (if b = 95 then r else b :: r) + (if b = 95 then 1 else 0), false)
 else (0, 0, true)
def signN (b : UInt8) (r : Str) : Nat := if (b = 60 ∨ b = 62) ∧ r.head? = some 61 then 2 else if isSignB b = true then 1 else 0
theorem signN_Q (b : UInt8) (r : Str) : signQ b r = if signN b r = 0 then none else some (⟨3, (b :: r).take (signN b r), 0⟩, signN b r) := by
 unfold signQ signN
 by_cases h : (b = 60 ∨ b = 62) ∧ r.head? = some 61
 ·rw [if_pos h, if_pos h, if_neg (by decide)]
  cases r with
  | nil => cases h.2
  | cons c r => cases h.2; rfl
 ·rw [if_neg h, if_neg h]
  by_cases h1 : isSignB b = true
  ·rw [if_pos h1, if_pos h1, if_neg (by decide)]; rfl
  ·rw [if_neg h1, if_neg h1]; rfl
theorem tok_parts (b : UInt8) (r : Str) : tokQ (b :: r) =
  if b = 10 then some (lineT, 1)
  else if isLetter b = true then (if 16 < spanN isNameB (b :: r) then none else some (⟨1, (b :: r).take (spanN isNameB (b :: r)), 0⟩, spanN isNameB (b :: r)))
  else if (numQ b r).2.2 = true then none
  else if (numQ b r).2.1 ≠ 0 then some (⟨2, [], (numQ b r).1⟩, (numQ b r).2.1)
  else if signN b r = 0 then none else some (⟨3, (b :: r).take (signN b r), 0⟩, signN b r) := by
 rw [tokQ]
 by_cases h10 : b = 10
 ·rw [if_pos h10, if_pos h10]
 rw [if_neg h10, if_neg h10]
 by_cases hl : isLetter b = true
 ·rw [if_pos hl, if_pos hl]
 rw [if_neg hl, if_neg hl, ← signN_Q]
 by_cases h95 : b = 95
 ·rw [if_pos h95]
  unfold numQ
  rw [if_pos h95, if_pos h95]
  generalize decV (r.take (spanN isDigit r)) = u
  by_cases h0 : spanN isDigit r = 0
  ·rw [if_pos h0, if_pos h0]; simp
  ·rw [if_neg h0, if_neg h0]
   by_cases hi : in64B (-(u : Int)) = true
   ·rw [if_pos hi, if_pos hi]; simp [h95]
   ·rw [if_neg hi, if_neg hi]; simp
 ·rw [if_neg h95]
  unfold numQ
  rw [if_neg h95, if_neg h95]
  generalize decV ((b :: r).take (spanN isDigit (b :: r))) = u
  by_cases h0 : spanN isDigit (b :: r) = 0
  ·rw [if_pos h0, if_pos h0]; simp
  ·rw [if_neg h0, if_neg h0]
   by_cases hi : in64B (u : Int) = true
   ·rw [if_pos hi, if_pos hi]; simp [h0, h95]
   ·rw [if_neg hi, if_neg hi]; simp
end Go.Proofs.YtokghjnkfabgiaaGreatDoor
