import Derived.Test.YtiogopichcnihaaBase0
namespace Go.Proofs.Ytiogopichcnihaa
set_option maxRecDepth 100000
open Go.RowKit

def In64 (x : Int) : Prop := -9223372036854775808 ≤ x ∧ x ≤ 9223372036854775807
theorem wrap_id {x : Int} (h : In64 x) : wrap64 x = x := by unfold In64 at h; unfold wrap64; omega
theorem wrap_in (x : Int) : In64 (wrap64 x) := by unfold In64 wrap64; omega
theorem wrap_ex (x : Int) : ∃ k, wrap64 x = x + k * 18446744073709551616 := ⟨-((x + 9223372036854775808) / 18446744073709551616), by unfold wrap64; omega⟩
theorem wrap_add_mul (x k : Int) : wrap64 (x + k * 18446744073709551616) = wrap64 x := by unfold wrap64; omega
theorem wrap_of_ex {x y : Int} (h : ∃ k, x = y + k * 18446744073709551616) : wrap64 x = wrap64 y := by obtain ⟨k, rfl⟩ := h; exact wrap_add_mul y k
theorem wrap_wrap (x : Int) : wrap64 (wrap64 x) = wrap64 x := wrap_id (wrap_in x)
theorem wrap_add_l (x y : Int) : wrap64 (wrap64 x + y) = wrap64 (x + y) := by obtain ⟨k, h⟩ := wrap_ex x; exact wrap_of_ex ⟨k, by rw [h]; omega⟩
theorem wrap_add_r (x y : Int) : wrap64 (x + wrap64 y) = wrap64 (x + y) := by obtain ⟨k, h⟩ := wrap_ex y; exact wrap_of_ex ⟨k, by rw [h]; omega⟩
theorem wrap_sub_l (x y : Int) : wrap64 (wrap64 x - y) = wrap64 (x - y) := by obtain ⟨k, h⟩ := wrap_ex x; exact wrap_of_ex ⟨k, by rw [h]; omega⟩
theorem wrap_sub_r (x y : Int) : wrap64 (x - wrap64 y) = wrap64 (x - y) := by obtain ⟨k, h⟩ := wrap_ex y; exact wrap_of_ex ⟨-k, by rw [h]; omega⟩
theorem wrap_mul_l (x y : Int) : wrap64 (wrap64 x * y) = wrap64 (x * y) := by
  obtain ⟨k, h⟩ := wrap_ex x
  exact wrap_of_ex ⟨k * y, by rw [h, Int.add_mul, Int.mul_assoc k, Int.mul_comm 18446744073709551616 y, Int.mul_assoc]⟩
theorem wrap_mul_r (x y : Int) : wrap64 (x * wrap64 y) = wrap64 (x * y) := by rw [Int.mul_comm, wrap_mul_l, Int.mul_comm]
theorem wrap_pow (x z : Int) (k : Nat) : wrap64 (x * wrap64 z ^ k) = wrap64 (x * z ^ k) := by
  induction k generalizing x with
  | zero => simp
  | succ k ih => rw [Int.pow_succ, Int.mul_comm (wrap64 z ^ k), ← Int.mul_assoc, ih, Int.mul_assoc, Int.mul_comm (wrap64 z), ← Int.mul_assoc, wrap_mul_r, Int.pow_succ, Int.mul_assoc]

/-- does a function take one number, or two? -/
def takes (f : Int) (two : Bool) : Bool := if f < 1 ∨ 17 < f then false else if f = 16 then !two else two || decide (f ≤ 7)
def truthI (b : Bool) : Int := if b then 1 else 0
def isBit (a : Int) : Bool := a == 0 || a == 1
/-- does a function of two numbers refuse these? -/
def refusesB (f a b : Int) : Bool :=
  if f = 4 then b == 0 else if f = 17 then decide (b < 0) else if f = 14 ∨ f = 15 then !isBit a || !isBit b else false
/-- a function of two numbers that does not refuse them -/
def dyv (f a b : Int) : Int :=
  if f = 1 then wrap64 (a + b) else if f = 2 then wrap64 (a - b) else if f = 3 then wrap64 (a * b) else if f = 4 then wrap64 (a.fdiv b)
  else if f = 5 then (if a = 0 then b else b.fmod a) else if f = 6 then min a b else if f = 7 then max a b
  else if f = 8 then truthI (a == b) else if f = 9 then truthI (a != b) else if f = 10 then truthI (decide (a < b)) else if f = 11 then truthI (decide (a ≤ b))
  else if f = 12 then truthI (decide (b ≤ a)) else if f = 14 then a * b else if f = 15 then max a b else if f = 17 then wrap64 (a ^ b.toNat) else truthI (decide (b < a))
def dyadF (f a b : Int) : Int × Int := if takes f true then (if refusesB f a b then (0, 11) else (dyv f a b, 0)) else (0, 10)
def monadF (f a : Int) : Int × Int :=
  if takes f false then
    (if f = 2 then (wrap64 (-a), 0) else if f = 3 then (truthI (decide (0 < a)) - truthI (decide (a < 0)), 0) else if f = 4 then dyadF 4 1 a
      else if f = 5 then (max a (wrap64 (-a)), 0) else if f = 16 then (if isBit a then (1 - a, 0) else (0, 11)) else (a, 0))
  else (0, 10)
def unitF (f : Int) : Int × Bool :=
  if f = 6 then (9223372036854775807, true) else if f = 7 then (-9223372036854775808, true)
  else if f = 3 ∨ f = 4 ∨ f = 8 ∨ f = 11 ∨ f = 12 ∨ f = 14 ∨ f = 17 then (1, true) else (0, takes f true)
def scansB (f : Int) : Bool := f == 1 || f == 3 || f == 6 || f == 7 || f == 14 || f == 15
def totalB (f : Int) (two : Bool) : Bool := if f = 4 ∨ f = 14 ∨ f = 15 ∨ f = 17 ∨ f = 16 then false else takes f two

/-- what rest computes -/
theorem rest_eq {a b : Int} (hb : b ≠ 0) : a.fmod b = if a.tmod b ≠ 0 ∧ ((decide (a.tmod b < 0)) ≠ decide (b < 0)) then a.tmod b + b else a.tmod b := by
  have h1 := Int.tmod_add_mul_tdiv a b
  have h2 := Int.fmod_add_mul_fdiv a b
  have h3 : (a.tmod b).natAbs < b.natAbs := by rw [Int.natAbs_tmod]; exact Nat.mod_lt _ (by omega)
  by_cases hp : 0 < b
  · have f1 := Int.fmod_nonneg_of_pos a hp
    have f2 := Int.fmod_lt_of_pos a hp
    split
    · rename_i hc
      have hneg : a.tmod b < 0 := by have := hc.2; simp at this; omega
      have hk : b * (a.tdiv b - a.fdiv b) = a.fmod b - a.tmod b := by rw [Int.mul_sub]; omega
      have : a.tdiv b - a.fdiv b = 1 := by
        have l1 : 0 < a.fmod b - a.tmod b := by omega
        have l2 : a.fmod b - a.tmod b < b * 2 := by omega
        rw [← hk] at l1 l2
        have m1 := Int.pos_of_mul_pos_right l1 hp
        have m2 := Int.lt_of_mul_lt_mul_left l2 (Int.le_of_lt hp)
        omega
      rw [this] at hk; omega
    · rename_i hc
      have hnn : 0 ≤ a.tmod b := by
        by_cases h : a.tmod b < 0
        · exact absurd ⟨by omega, by simp; omega⟩ hc
        · omega
      have hk : b * (a.tdiv b - a.fdiv b) = a.fmod b - a.tmod b := by rw [Int.mul_sub]; omega
      have : a.tdiv b - a.fdiv b = 0 := by
        have l1 : b * (-1) < a.fmod b - a.tmod b := by omega
        have l2 : a.fmod b - a.tmod b < b * 1 := by omega
        rw [← hk] at l1 l2
        have m1 := Int.lt_of_mul_lt_mul_left l1 (Int.le_of_lt hp)
        have m2 := Int.lt_of_mul_lt_mul_left l2 (Int.le_of_lt hp)
        omega
      rw [this] at hk; omega
  · have hn : b < 0 := by omega
    have f1 : a.fmod b ≤ 0 := by
      rw [Int.fmod_eq_emod]
      have := Int.emod_lt_of_neg a hn
      split
      · rename_i h; rcases h with h | h
        · omega
        · rw [Int.emod_eq_zero_of_dvd h]; omega
      · omega
    have f2 : b < a.fmod b := by
      rw [Int.fmod_eq_emod]
      have h0 := Int.emod_nonneg a hb
      split
      · omega
      · rename_i h
        have : a % b ≠ 0 := fun e => h (.inr (Int.dvd_of_emod_eq_zero e))
        omega
    split
    · rename_i hc
      have hpos : 0 < a.tmod b := by have := hc.2; simp at this; omega
      have hk : (-b) * (a.fdiv b - a.tdiv b) = a.fmod b - a.tmod b := by rw [Int.mul_sub, Int.neg_mul, Int.neg_mul]; omega
      have : a.fdiv b - a.tdiv b = -1 := by
        have l1 : (-b) * (-2) < a.fmod b - a.tmod b := by omega
        have l2 : a.fmod b - a.tmod b < (-b) * 0 := by omega
        rw [← hk] at l1 l2
        have m1 := Int.lt_of_mul_lt_mul_left l1 (by omega)
        have m2 := Int.lt_of_mul_lt_mul_left l2 (by omega)
        omega
      rw [this] at hk; omega
    · rename_i hc
      have hnn : a.tmod b ≤ 0 := by
        by_cases h : 0 < a.tmod b
        · exact absurd ⟨by omega, by simp; omega⟩ hc
        · omega
      have hk : (-b) * (a.fdiv b - a.tdiv b) = a.fmod b - a.tmod b := by rw [Int.mul_sub, Int.neg_mul, Int.neg_mul]; omega
      have : a.fdiv b - a.tdiv b = 0 := by
        have l1 : (-b) * (-1) < a.fmod b - a.tmod b := by omega
        have l2 : a.fmod b - a.tmod b < (-b) * 1 := by omega
        rw [← hk] at l1 l2
        have m1 := Int.lt_of_mul_lt_mul_left l1 (by omega)
        have m2 := Int.lt_of_mul_lt_mul_left l2 (by omega)
        omega
      rw [this] at hk; omega

/-- the quotient that is rounded down, from the one that is cut -/
theorem fdiv_eq {a b : Int} (hb : b ≠ 0) : a.fdiv b = if a.fmod b ≠ a.tmod b then a.tdiv b - 1 else a.tdiv b := by
  have h1 := Int.tmod_add_mul_tdiv a b
  have h2 := Int.fmod_add_mul_fdiv a b
  have h3 := rest_eq (a := a) hb
  split
  · rename_i hne
    have hm : a.fmod b = a.tmod b + b := by
      rw [h3] at hne ⊢
      split
      · rfl
      · rename_i h; rw [if_neg h] at hne; exact absurd rfl hne
    have hk : b * (a.tdiv b - a.fdiv b) = b * 1 := by rw [Int.mul_sub]; omega
    have := Int.eq_of_mul_eq_mul_left hb hk
    omega
  · rename_i he
    have he : a.fmod b = a.tmod b := by omega
    have hk : b * a.fdiv b = b * a.tdiv b := by omega
    exact Int.eq_of_mul_eq_mul_left hb hk

theorem tmod_lt {a b : Int} (hb : b ≠ 0) : (a.tmod b).natAbs < b.natAbs := by rw [Int.natAbs_tmod]; exact Nat.mod_lt _ (by omega)
theorem fmod_in {a b : Int} (h0 : b ≠ 0) (hb : In64 b) : In64 (a.fmod b) := by
  have := tmod_lt (a := a) h0
  unfold In64 at *
  rw [rest_eq h0]
  split
  · rename_i h; have := h.2; simp at this; omega
  · omega

theorem wrap_eq_of {x y : Int} (h : x = y) : wrap64 x = wrap64 y := by rw [h]
theorem sq_pow (y : Int) (k : Nat) : (y * y) ^ k = y ^ (2 * k) := by
  induction k with
  | zero => simp
  | succ k ih => rw [Int.pow_succ, ih, show 2 * (k + 1) = 2 * k + 1 + 1 from by omega, Int.pow_succ, Int.pow_succ, Int.mul_assoc]
/-- the step of a power by halves -/
theorem pow_odd (q y : Int) (m : Nat) (h : m % 2 = 1) : wrap64 (wrap64 (q * y) * wrap64 (y * y) ^ (m / 2)) = wrap64 (q * y ^ m) := by
  rw [wrap_pow, wrap_mul_l, sq_pow]
  refine wrap_eq_of ?_
  have : m = 2 * (m / 2) + 1 := by omega
  conv => rhs; rw [this]
  rw [Int.pow_succ, Int.mul_comm (y ^ _) y, Int.mul_assoc]
theorem pow_even (q y : Int) (m : Nat) (h : m % 2 = 0) : wrap64 (q * wrap64 (y * y) ^ (m / 2)) = wrap64 (q * y ^ m) := by
  rw [wrap_pow, sq_pow]
  refine wrap_eq_of ?_
  have : 2 * (m / 2) = m := by omega
  rw [this]
theorem takes_in {f : Int} {t : Bool} (h : takes f t = true) : 1 ≤ f ∧ f ≤ 17 := by
  unfold takes at h
  split at h
  · cases h
  · omega

theorem two63 : (2 : Int) ^ 63 = 9223372036854775808 := by decide
theorem and_one (m : Int) (h0 : 0 ≤ m) (h1 : m ≤ 9223372036854775807) : bits BinOp.and IntKind.i64 m 1 = m % 2 := by
  have h := bits_mask .i64 63 (by decide) (fun n h0 h1 => by rw [two63] at h1; rw [IntKind.wrap_i64]; omega) 1 (by decide) m (by omega) (by rw [two63]; omega)
  have e : ((2 : Int) ^ 1 - 1) = 1 := by decide
  rw [e] at h
  rw [h]
  omega
end Go.Proofs.Ytiogopichcnihaa
