import Derived.Test.YtmlfeocdcjhhaaaPG7
import Derived.Test.YtmlfeocdcjhhaaaPG1
namespace Go.Proofs.Ytmlfeocdcjhhaaa
set_option maxRecDepth 100000
open Go.RowKit
set_option linter.unusedVariables false
set_option linter.unusedSimpArgs false
attribute [local go_sem ↓] Go.wp_at_zero Go.wp_at_succ

/-- how many numbers an operation takes -/
def takesI (how : Int) : Int := if how = 1 ∨ how = 2 ∨ how = 3 then 0 else if how = 4 ∨ how = 5 then 1 else if how = 6 then 2 else -1
theorem takesI_range (h : Int) : -1 ≤ takesI h ∧ takesI h ≤ 2 := by unfold takesI; split <;> (try split) <;> (try split) <;> omega
def depthK : List Cop → Int → Int → Int
  | [], now, most => if now = 1 then most else -1
  | o :: r, now, most => if takesI o.how < 0 ∨ now < takesI o.how then -1 else depthK r (now + (1 - takesI o.how)) (max most (now + (1 - takesI o.how)))
def depthI (l : List Cop) : Int := depthK l 0 0
theorem depthK_step {l : List Cop} {k : Nat} (h : k < l.length) (now most : Int) : depthK (l.drop k) now most = if takesI l[k].how < 0 ∨ now < takesI l[k].how then -1 else depthK (l.drop (k + 1)) (now + (1 - takesI l[k].how)) (max most (now + (1 - takesI l[k].how))) := by rw [List.drop_eq_getElem_cons h, depthK]
set_option maxHeartbeats 4000000 in
theorem ctakes_any (w : World) (how k n fn : Int) (a : Option Addr) (l c : Nat) : Calls Try.prog 38 #[.agg #[.int .i64 how, .int .i64 k, .int .i64 n, .slice a l c, .int .u8 fn]] w fun e w' => e = .returned (.int .i64 (takesI how)) ∧ Below w.heap.size w w' := by
  by_cases h0 : how = 1 ∨ how = 2 ∨ how = 3 ∨ how = 4 ∨ how = 5 ∨ how = 6
  · rcases h0 with rfl | rfl | rfl | rfl | rfl | rfl
    all_goals
      go_enter Try.func38, Try.ntmps38
      go_wp2_with fail
      go_ret
      exact ⟨ret_int rfl, (Below.refl _ _).alloc (Nat.le_refl _) _⟩
  have HV := Lib.hid (show takesI how = -1 from by unfold takesI; rw [if_neg (by omega), if_neg (by omega), if_neg (by omega)])
  have g1 : (how == 1) = false := by simp; omega
  have g2 : (how == 2) = false := by simp; omega
  have g3 : (how == 3) = false := by simp; omega
  have g4 : (how == 4) = false := by simp; omega
  have g5 : (how == 5) = false := by simp; omega
  have g6 : (how == 6) = false := by simp; omega
  clear h0
  go_enter Try.func38, Try.ntmps38
  go_wp2_with fail
  go_ret
  exact ⟨ret_int HV.out.symm, (Below.refl _ _).alloc (Nat.le_refl _) _⟩
set_option maxHeartbeats 4000000 in
theorem rctakes_any (w : World) (how k n fn : Int) (a : Option Addr) (l c : Nat) : Calls Try.prog 99 #[.agg #[.int .i64 how, .int .i64 k, .int .i64 n, .slice a l c, .int .u8 fn]] w fun e w' => e = .returned (.int .i64 (takesI how)) ∧ Below w.heap.size w w' := by
  by_cases h0 : how = 1 ∨ how = 2 ∨ how = 3 ∨ how = 4 ∨ how = 5 ∨ how = 6
  · rcases h0 with rfl | rfl | rfl | rfl | rfl | rfl
    all_goals
      go_enter Try.func99, Try.ntmps99
      go_wp2_with fail
      go_ret
      exact ⟨ret_int rfl, (Below.refl _ _).alloc (Nat.le_refl _) _⟩
  have HV := Lib.hid (show takesI how = -1 from by unfold takesI; rw [if_neg (by omega), if_neg (by omega), if_neg (by omega)])
  have g1 : (how == 1) = false := by simp; omega
  have g2 : (how == 2) = false := by simp; omega
  have g3 : (how == 3) = false := by simp; omega
  have g4 : (how == 4) = false := by simp; omega
  have g5 : (how == 5) = false := by simp; omega
  have g6 : (how == 6) = false := by simp; omega
  clear h0
  go_enter Try.func99, Try.ntmps99
  go_wp2_with fail
  go_ret
  exact ⟨ret_int HV.out.symm, (Below.refl _ _).alloc (Nat.le_refl _) _⟩
set_option maxHeartbeats 16000000 in
theorem depth_any (w : World) (a : Option Addr) (c : Nat) (l : List Cop) (h : copRep.Els w a l) (hm : l.length ≤ 9223372036854775807) :
    Calls Try.prog 17 #[.slice a l.length c] w fun e w' => e = .returned (.int .i64 (depthI l)) ∧ Below w.heap.size w w' := by
  have HE := Lib.hid h
  clear h
  go_enter Try.func17, Try.ntmps17
  go_wp2_with fail
  go_loopw [3, 4, 10] (fun m n i wr => ∃ (k : Nat) (mo no : Int), k ≤ l.length ∧ i = .int .i64 k ∧ m = .int .i64 mo ∧ n = .int .i64 no ∧ depthI l = depthK (l.drop k) no mo ∧ 0 ≤ no ∧ no ≤ k ∧ 0 ≤ mo ∧ mo ≤ k ∧ Below w.heap.size w wr) (fun _ _ i _ => l.length - (intOf i).toNat)
  case atStart => exact ⟨0, 0, 0, Nat.zero_le _, rfl, rfl, rfl, rfl, by omega, by omega, by omega, by omega, Below.refl _ _⟩
  case round =>
    obtain ⟨k, mo, no, hk, rfl, rfl, rfl, hd, hn0, hn1, hm0, hm1, hB⟩ := hrel
    have HD := Lib.hid hd; have HB := Lib.hid hB
    clear hd hB
    have hz0 : (0 : Int) ≤ (k : Int) := by omega
    by_cases hlt : k < l.length
    · have hz1 : (k : Int) < (l.length : Int) := by omega
      obtain ⟨b, off, cs, rfl, ⟨v, rfl, hs, hh, -⟩, hc⟩ := (HE.out.below copRep HB.out (Nat.le_refl _)) k hlt
      have x0 := hc 0 _ rfl; have x1 := hc 1 _ rfl; have x2 := hc 2 _ rfl; have x3 := hc 3 _ rfl; have x4 := hc 4 _ rfl
      simp only [show copRep.n = 5 from rfl, Nat.add_zero] at x0 x1 x2 x3 x4
      obtain ⟨va, vc, rfl⟩ := hs.form0
      have hst := depthK_step hlt no mo
      have hq := fun W => ctakes_any W l[k].how l[k].k l[k].n l[k].fn va l[k].p.length vc
      have hrg := takesI_range l[k].how
      obtain ⟨t, ht⟩ : ∃ t, takesI l[k].how = t := ⟨_, rfl⟩
      rw [ht] at hst hq hrg
      have HQ := Lib.hid hq; have HST := Lib.hid (HD.out.trans hst)
      obtain ⟨hr0, hr1⟩ := hrg
      clear hst hq ht hc hs hh
      by_cases ht0 : t < 0
      · have HG := Lib.hid (HST.out.trans (if_pos (.inl ht0)))
        go_wp2_with fail
        refine (HQ.out _).mono ?_
        rintro e w1 ⟨rfl, hb1⟩
        have hB1 := Lib.hid (HB.out.trans ((((Below.refl wr.heap.size wr).alloc (Nat.le_refl _) _).trans (hb1.mono (by simp))).mono HB.out.size))
        go_wp2_with fail
        go_ret
        exact ⟨ret_int HG.out.symm, hB1.out⟩
      have ht0' : decide (t < 0) = false := by simpa using ht0
      by_cases hnt : no < t
      · have HG := Lib.hid (HST.out.trans (if_pos (.inr hnt)))
        go_wp2_with fail
        refine (HQ.out _).mono ?_
        rintro e w1 ⟨rfl, hb1⟩
        have hB1 := Lib.hid (HB.out.trans ((((Below.refl wr.heap.size wr).alloc (Nat.le_refl _) _).trans (hb1.mono (by simp))).mono HB.out.size))
        go_wp2_with fail
        go_ret
        exact ⟨ret_int HG.out.symm, hB1.out⟩
      have hnt' : decide (no < t) = false := by simpa using hnt
      have HG := Lib.hid (HST.out.trans (if_neg (by omega)))
      have hn2 : 0 ≤ no + (1 - t) := by omega
      have hn3 : no + (1 - t) ≤ (k : Int) + 1 := by omega
      clear hnt ht0 HST
      by_cases hmx : mo < no + (1 - t)
      · have HG2 : Hid (depthI l = depthK (l.drop (k + 1)) (no + (1 - t)) (no + (1 - t))) := Lib.hid (HG.out.trans (by rw [Int.max_eq_right (by omega)]))
        go_wp2_with fail
        refine (HQ.out _).mono ?_
        rintro e w1 ⟨rfl, hb1⟩
        have hB1 := Lib.hid (HB.out.trans ((((Below.refl wr.heap.size wr).alloc (Nat.le_refl _) _).trans (hb1.mono (by simp))).mono HB.out.size))
        go_wp2_with fail
        go_roundw
        case rel => exact ⟨k + 1, no + (1 - t), no + (1 - t), by omega, by go_num, rfl, rfl, HG2.out, by omega, by omega, by omega, by omega, hB1.out⟩
        case measure => simp [intOf]; omega
      · have hmx' : decide (mo < no + (1 - t)) = false := by simpa using hmx
        have HG2 : Hid (depthI l = depthK (l.drop (k + 1)) (no + (1 - t)) mo) := Lib.hid (HG.out.trans (by rw [Int.max_eq_left (by omega)]))
        go_wp2_with fail
        refine (HQ.out _).mono ?_
        rintro e w1 ⟨rfl, hb1⟩
        have hB1 := Lib.hid (HB.out.trans ((((Below.refl wr.heap.size wr).alloc (Nat.le_refl _) _).trans (hb1.mono (by simp))).mono HB.out.size))
        go_wp2_with fail
        go_roundw
        case rel => exact ⟨k + 1, mo, no + (1 - t), by omega, by go_num, rfl, rfl, HG2.out, by omega, by omega, by omega, by omega, hB1.out⟩
        case measure => simp [intOf]; omega
    · obtain rfl : k = l.length := by omega
      by_cases h1 : no = 1
      · have HG := Lib.hid (HD.out.trans (by rw [List.drop_length, depthK, if_pos h1]))
        subst h1
        go_wp2_with fail
        go_ret
        exact ⟨ret_int HG.out.symm, HB.out⟩
      · have HG := Lib.hid (HD.out.trans (by rw [List.drop_length, depthK, if_neg h1]))
        have h1' : (no == 1) = false := by simpa using h1
        go_wp2_with fail
        go_ret
        exact ⟨ret_int HG.out.symm, HB.out⟩
set_option maxHeartbeats 16000000 in
theorem rdepth_any (w : World) (a : Option Addr) (c : Nat) (l : List Cop) (h : copRep.Els w a l) (hm : l.length ≤ 9223372036854775807) :
    Calls Try.prog 59 #[.slice a l.length c] w fun e w' => e = .returned (.int .i64 (depthI l)) ∧ Below w.heap.size w w' := by
  have HE := Lib.hid h
  clear h
  go_enter Try.func59, Try.ntmps59
  go_wp2_with fail
  go_loopw [3, 4, 5] (fun n m i wr => ∃ (k : Nat) (mo no : Int), k ≤ l.length ∧ i = .int .i64 k ∧ m = .int .i64 mo ∧ n = .int .i64 no ∧ depthI l = depthK (l.drop k) no mo ∧ 0 ≤ no ∧ no ≤ k ∧ 0 ≤ mo ∧ mo ≤ k ∧ Below w.heap.size w wr) (fun _ _ i _ => l.length - (intOf i).toNat)
  case atStart => exact ⟨0, 0, 0, Nat.zero_le _, rfl, rfl, rfl, rfl, by omega, by omega, by omega, by omega, Below.refl _ _⟩
  case round =>
    obtain ⟨k, mo, no, hk, rfl, rfl, rfl, hd, hn0, hn1, hm0, hm1, hB⟩ := hrel
    have HD := Lib.hid hd; have HB := Lib.hid hB
    clear hd hB
    have hz0 : (0 : Int) ≤ (k : Int) := by omega
    by_cases hlt : k < l.length
    · have hz1 : (k : Int) < (l.length : Int) := by omega
      obtain ⟨b, off, cs, rfl, ⟨v, rfl, hs, hh, -⟩, hc⟩ := (HE.out.below copRep HB.out (Nat.le_refl _)) k hlt
      have x0 := hc 0 _ rfl; have x1 := hc 1 _ rfl; have x2 := hc 2 _ rfl; have x3 := hc 3 _ rfl; have x4 := hc 4 _ rfl
      simp only [show copRep.n = 5 from rfl, Nat.add_zero] at x0 x1 x2 x3 x4
      obtain ⟨va, vc, rfl⟩ := hs.form0
      have hst := depthK_step hlt no mo
      have hq := fun W => rctakes_any W l[k].how l[k].k l[k].n l[k].fn va l[k].p.length vc
      have hrg := takesI_range l[k].how
      obtain ⟨t, ht⟩ : ∃ t, takesI l[k].how = t := ⟨_, rfl⟩
      rw [ht] at hst hq hrg
      have HQ := Lib.hid hq; have HST := Lib.hid (HD.out.trans hst)
      obtain ⟨hr0, hr1⟩ := hrg
      clear hst hq ht hc hs hh
      by_cases ht0 : t < 0
      · have HG := Lib.hid (HST.out.trans (if_pos (.inl ht0)))
        go_wp2_with fail
        refine (HQ.out _).mono ?_
        rintro e w1 ⟨rfl, hb1⟩
        have hB1 := Lib.hid (HB.out.trans ((hb1).mono HB.out.size))
        go_wp2_with fail
        go_ret
        exact ⟨ret_int HG.out.symm, hB1.out⟩
      have ht0' : decide (t < 0) = false := by simpa using ht0
      by_cases hnt : no < t
      · have HG := Lib.hid (HST.out.trans (if_pos (.inr hnt)))
        go_wp2_with fail
        refine (HQ.out _).mono ?_
        rintro e w1 ⟨rfl, hb1⟩
        have hB1 := Lib.hid (HB.out.trans ((hb1).mono HB.out.size))
        go_wp2_with fail
        go_ret
        exact ⟨ret_int HG.out.symm, hB1.out⟩
      have hnt' : decide (no < t) = false := by simpa using hnt
      have HG := Lib.hid (HST.out.trans (if_neg (by omega)))
      have hn2 : 0 ≤ no + (1 - t) := by omega
      have hn3 : no + (1 - t) ≤ (k : Int) + 1 := by omega
      clear hnt ht0 HST
      by_cases hmx : mo < no - t + 1
      · have HG2 : Hid (depthI l = depthK (l.drop (k + 1)) (no + (1 - t)) (no + (1 - t))) := Lib.hid (HG.out.trans (by rw [Int.max_eq_right (by omega)]))
        go_wp2_with fail
        refine (HQ.out _).mono ?_
        rintro e w1 ⟨rfl, hb1⟩
        have hB1 := Lib.hid (HB.out.trans ((hb1).mono HB.out.size))
        go_wp2_with fail
        go_roundw
        case rel => exact ⟨k + 1, no + (1 - t), no + (1 - t), by omega, by go_num, by rw [show no - t + 1 = no + (1 - t) from by omega], by rw [show no - t + 1 = no + (1 - t) from by omega], HG2.out, by omega, by omega, by omega, by omega, hB1.out⟩
        case measure => simp [intOf]; omega
      · have hmx' : decide (mo < no - t + 1) = false := by simpa using hmx
        have HG2 : Hid (depthI l = depthK (l.drop (k + 1)) (no + (1 - t)) mo) := Lib.hid (HG.out.trans (by rw [Int.max_eq_left (by omega)]))
        go_wp2_with fail
        refine (HQ.out _).mono ?_
        rintro e w1 ⟨rfl, hb1⟩
        have hB1 := Lib.hid (HB.out.trans ((hb1).mono HB.out.size))
        go_wp2_with fail
        go_roundw
        case rel => exact ⟨k + 1, mo, no + (1 - t), by omega, by go_num, rfl, by rw [show no - t + 1 = no + (1 - t) from by omega], HG2.out, by omega, by omega, by omega, by omega, hB1.out⟩
        case measure => simp [intOf]; omega
    · obtain rfl : k = l.length := by omega
      by_cases h1 : no = 1
      · have HG := Lib.hid (HD.out.trans (by rw [List.drop_length, depthK, if_pos h1]))
        subst h1
        go_wp2_with fail
        go_ret
        exact ⟨ret_int HG.out.symm, HB.out⟩
      · have HG := Lib.hid (HD.out.trans (by rw [List.drop_length, depthK, if_neg h1]))
        have h1' : (no == 1) = false := by simpa using h1
        go_wp2_with fail
        go_ret
        exact ⟨ret_int HG.out.symm, HB.out⟩
end Go.Proofs.Ytmlfeocdcjhhaaa

namespace Go.Proofs.Ytmlfeocdcjhhaaa
set_option linter.unusedVariables false
set_option linter.unusedSimpArgs false
set_option maxRecDepth 100000
open Go.RowKit

def In64 (x : Int) : Prop := -9223372036854775808 ≤ x ∧ x ≤ 9223372036854775807
theorem wrap_id {x : Int} (h : In64 x) : wrap64 x = x := by unfold In64 at h; unfold wrap64; omega
theorem wrap_in (x : Int) : In64 (wrap64 x) := by unfold In64 wrap64; omega
theorem wrap_ex (x : Int) : ∃ k, wrap64 x = x + k * 18446744073709551616 := ⟨-((x + 9223372036854775808) / 18446744073709551616), by unfold wrap64; omega⟩
theorem wrap_add_mul (x k : Int) : wrap64 (x + k * 18446744073709551616) = wrap64 x := by unfold wrap64; omega
theorem wrap_of_ex {x y : Int} (h : ∃ k, x = y + k * 18446744073709551616) : wrap64 x = wrap64 y := by obtain ⟨k, rfl⟩ := h; exact wrap_add_mul y k
theorem wrap_wrap (x : Int) : wrap64 (wrap64 x) = wrap64 x := wrap_id (wrap_in x)
theorem wrap_add_l (x y : Int) : wrap64 (wrap64 x + y) = wrap64 (x + y) := by obtain ⟨k, h⟩ := wrap_ex x; exact wrap_of_ex ⟨k, by rw [h]; omega⟩
theorem wrap_add_r (x y : Int) : wrap64 (x + wrap64 y) = wrap64 (x + y) := by obtain ⟨k, h⟩ := wrap_ex y; exact wrap_of_ex ⟨k, by rw [h]; omega⟩
theorem wrap_sub_l (x y : Int) : wrap64 (wrap64 x - y) = wrap64 (x - y) := by obtain ⟨k, h⟩ := wrap_ex x; exact wrap_of_ex ⟨k, by rw [h]; omega⟩
theorem wrap_sub_r (x y : Int) : wrap64 (x - wrap64 y) = wrap64 (x - y) := by obtain ⟨k, h⟩ := wrap_ex y; exact wrap_of_ex ⟨-k, by rw [h]; omega⟩
theorem wrap_mul_l (x y : Int) : wrap64 (wrap64 x * y) = wrap64 (x * y) := by
  obtain ⟨k, h⟩ := wrap_ex x
  exact wrap_of_ex ⟨k * y, by rw [h, Int.add_mul, Int.mul_assoc k, Int.mul_comm 18446744073709551616 y, Int.mul_assoc]⟩
theorem wrap_mul_r (x y : Int) : wrap64 (x * wrap64 y) = wrap64 (x * y) := by rw [Int.mul_comm, wrap_mul_l, Int.mul_comm]
theorem wrap_pow (x z : Int) (k : Nat) : wrap64 (x * wrap64 z ^ k) = wrap64 (x * z ^ k) := by
  induction k generalizing x with
  | zero => simp
  | succ k ih => rw [Int.pow_succ, Int.mul_comm (wrap64 z ^ k), ← Int.mul_assoc, ih, Int.mul_assoc, Int.mul_comm (wrap64 z), ← Int.mul_assoc, wrap_mul_r, Int.pow_succ, Int.mul_assoc]

/-- does a function take one number, or two? -/
def takes (f : Int) (two : Bool) : Bool := if f < 1 ∨ 17 < f then false else if f = 16 then !two else two || decide (f ≤ 7)
def truthI (b : Bool) : Int := if b then 1 else 0
def isBit (a : Int) : Bool := a == 0 || a == 1
/-- does a function of two numbers refuse these? -/
def refusesB (f a b : Int) : Bool :=
  if f = 4 then b == 0 else if f = 17 then decide (b < 0) else if f = 14 ∨ f = 15 then !isBit a || !isBit b else false
/-- a function of two numbers that does not refuse them -/
def dyv (f a b : Int) : Int :=
  if f = 1 then wrap64 (a + b) else if f = 2 then wrap64 (a - b) else if f = 3 then wrap64 (a * b) else if f = 4 then wrap64 (a.fdiv b)
  else if f = 5 then (if a = 0 then b else b.fmod a) else if f = 6 then min a b else if f = 7 then max a b
  else if f = 8 then truthI (a == b) else if f = 9 then truthI (a != b) else if f = 10 then truthI (decide (a < b)) else if f = 11 then truthI (decide (a ≤ b))
  else if f = 12 then truthI (decide (b ≤ a)) else if f = 14 then a * b else if f = 15 then max a b else if f = 17 then wrap64 (a ^ b.toNat) else truthI (decide (b < a))
def dyadF (f a b : Int) : Int × Int := if takes f true then (if refusesB f a b then (0, 11) else (dyv f a b, 0)) else (0, 10)
def monadF (f a : Int) : Int × Int :=
  if takes f false then
    (if f = 2 then (wrap64 (-a), 0) else if f = 3 then (truthI (decide (0 < a)) - truthI (decide (a < 0)), 0) else if f = 4 then dyadF 4 1 a
      else if f = 5 then (max a (wrap64 (-a)), 0) else if f = 16 then (if isBit a then (1 - a, 0) else (0, 11)) else (a, 0))
  else (0, 10)
def unitF (f : Int) : Int × Bool :=
  if f = 6 then (9223372036854775807, true) else if f = 7 then (-9223372036854775808, true)
  else if f = 3 ∨ f = 4 ∨ f = 8 ∨ f = 11 ∨ f = 12 ∨ f = 14 ∨ f = 17 then (1, true) else (0, takes f true)
def scansB (f : Int) : Bool := f == 1 || f == 3 || f == 6 || f == 7 || f == 14 || f == 15
def totalB (f : Int) (two : Bool) : Bool := if f = 4 ∨ f = 14 ∨ f = 15 ∨ f = 17 ∨ f = 16 then false else takes f two

/-- what rest computes -/
theorem rest_eq {a b : Int} (hb : b ≠ 0) : a.fmod b = if a.tmod b ≠ 0 ∧ ((decide (a.tmod b < 0)) ≠ decide (b < 0)) then a.tmod b + b else a.tmod b := by
  have h1 := Int.tmod_add_mul_tdiv a b
  have h2 := Int.fmod_add_mul_fdiv a b
  have h3 : (a.tmod b).natAbs < b.natAbs := by rw [Int.natAbs_tmod]; exact Nat.mod_lt _ (by omega)
  by_cases hp : 0 < b
  · have f1 := Int.fmod_nonneg_of_pos a hp
    have f2 := Int.fmod_lt_of_pos a hp
    split
    · rename_i hc
      have hneg : a.tmod b < 0 := by have := hc.2; simp at this; omega
      have hk : b * (a.tdiv b - a.fdiv b) = a.fmod b - a.tmod b := by rw [Int.mul_sub]; omega
      have : a.tdiv b - a.fdiv b = 1 := by
        have l1 : 0 < a.fmod b - a.tmod b := by omega
        have l2 : a.fmod b - a.tmod b < b * 2 := by omega
        rw [← hk] at l1 l2
        have m1 := Int.pos_of_mul_pos_right l1 hp
        have m2 := Int.lt_of_mul_lt_mul_left l2 (Int.le_of_lt hp)
        omega
      rw [this] at hk; omega
    · rename_i hc
      have hnn : 0 ≤ a.tmod b := by
        by_cases h : a.tmod b < 0
        · exact absurd ⟨by omega, by simp; omega⟩ hc
        · omega
      have hk : b * (a.tdiv b - a.fdiv b) = a.fmod b - a.tmod b := by rw [Int.mul_sub]; omega
      have : a.tdiv b - a.fdiv b = 0 := by
        have l1 : b * (-1) < a.fmod b - a.tmod b := by omega
        have l2 : a.fmod b - a.tmod b < b * 1 := by omega
        rw [← hk] at l1 l2
        have m1 := Int.lt_of_mul_lt_mul_left l1 (Int.le_of_lt hp)
        have m2 := Int.lt_of_mul_lt_mul_left l2 (Int.le_of_lt hp)
        omega
      rw [this] at hk; omega
  · have hn : b < 0 := by omega
    have f1 : a.fmod b ≤ 0 := by
      rw [Int.fmod_eq_emod]
      have := Int.emod_lt_of_neg a hn
      split
      · rename_i h; rcases h with h | h
        · omega
        · rw [Int.emod_eq_zero_of_dvd h]; omega
      · omega
    have f2 : b < a.fmod b := by
      rw [Int.fmod_eq_emod]
      have h0 := Int.emod_nonneg a hb
      split
      · omega
      · rename_i h
        have : a % b ≠ 0 := fun e => h (.inr (Int.dvd_of_emod_eq_zero e))
        omega
    split
    · rename_i hc
      have hpos : 0 < a.tmod b := by have := hc.2; simp at this; omega
      have hk : (-b) * (a.fdiv b - a.tdiv b) = a.fmod b - a.tmod b := by rw [Int.mul_sub, Int.neg_mul, Int.neg_mul]; omega
      have : a.fdiv b - a.tdiv b = -1 := by
        have l1 : (-b) * (-2) < a.fmod b - a.tmod b := by omega
        have l2 : a.fmod b - a.tmod b < (-b) * 0 := by omega
        rw [← hk] at l1 l2
        have m1 := Int.lt_of_mul_lt_mul_left l1 (by omega)
        have m2 := Int.lt_of_mul_lt_mul_left l2 (by omega)
        omega
      rw [this] at hk; omega
    · rename_i hc
      have hnn : a.tmod b ≤ 0 := by
        by_cases h : 0 < a.tmod b
        · exact absurd ⟨by omega, by simp; omega⟩ hc
        · omega
      have hk : (-b) * (a.fdiv b - a.tdiv b) = a.fmod b - a.tmod b := by rw [Int.mul_sub, Int.neg_mul, Int.neg_mul]; omega
      have : a.fdiv b - a.tdiv b = 0 := by
        have l1 : (-b) * (-1) < a.fmod b - a.tmod b := by omega
        have l2 : a.fmod b - a.tmod b < (-b) * 1 := by omega
        rw [← hk] at l1 l2
        have m1 := Int.lt_of_mul_lt_mul_left l1 (by omega)
        have m2 := Int.lt_of_mul_lt_mul_left l2 (by omega)
        omega
      rw [this] at hk; omega

/-- the quotient that is rounded down, from the one that is cut -/
theorem fdiv_eq {a b : Int} (hb : b ≠ 0) : a.fdiv b = if a.fmod b ≠ a.tmod b then a.tdiv b - 1 else a.tdiv b := by
  have h1 := Int.tmod_add_mul_tdiv a b
  have h2 := Int.fmod_add_mul_fdiv a b
  have h3 := rest_eq (a := a) hb
  split
  · rename_i hne
    have hm : a.fmod b = a.tmod b + b := by
      rw [h3] at hne ⊢
      split
      · rfl
      · rename_i h; rw [if_neg h] at hne; exact absurd rfl hne
    have hk : b * (a.tdiv b - a.fdiv b) = b * 1 := by rw [Int.mul_sub]; omega
    have := Int.eq_of_mul_eq_mul_left hb hk
    omega
  · rename_i he
    have he : a.fmod b = a.tmod b := by omega
    have hk : b * a.fdiv b = b * a.tdiv b := by omega
    exact Int.eq_of_mul_eq_mul_left hb hk

theorem tmod_lt {a b : Int} (hb : b ≠ 0) : (a.tmod b).natAbs < b.natAbs := by rw [Int.natAbs_tmod]; exact Nat.mod_lt _ (by omega)
theorem fmod_in {a b : Int} (h0 : b ≠ 0) (hb : In64 b) : In64 (a.fmod b) := by
  have := tmod_lt (a := a) h0
  unfold In64 at *
  rw [rest_eq h0]
  split
  · rename_i h; have := h.2; simp at this; omega
  · omega

theorem wrap_eq_of {x y : Int} (h : x = y) : wrap64 x = wrap64 y := by rw [h]
theorem sq_pow (y : Int) (k : Nat) : (y * y) ^ k = y ^ (2 * k) := by
  induction k with
  | zero => simp
  | succ k ih => rw [Int.pow_succ, ih, show 2 * (k + 1) = 2 * k + 1 + 1 from by omega, Int.pow_succ, Int.pow_succ, Int.mul_assoc]
/-- the step of a power by halves -/
theorem pow_odd (q y : Int) (m : Nat) (h : m % 2 = 1) : wrap64 (wrap64 (q * y) * wrap64 (y * y) ^ (m / 2)) = wrap64 (q * y ^ m) := by
  rw [wrap_pow, wrap_mul_l, sq_pow]
  refine wrap_eq_of ?_
  have : m = 2 * (m / 2) + 1 := by omega
  conv => rhs; rw [this]
  rw [Int.pow_succ, Int.mul_comm (y ^ _) y, Int.mul_assoc]
theorem pow_even (q y : Int) (m : Nat) (h : m % 2 = 0) : wrap64 (q * wrap64 (y * y) ^ (m / 2)) = wrap64 (q * y ^ m) := by
  rw [wrap_pow, sq_pow]
  refine wrap_eq_of ?_
  have : 2 * (m / 2) = m := by omega
  rw [this]
theorem takes_in {f : Int} {t : Bool} (h : takes f t = true) : 1 ≤ f ∧ f ≤ 17 := by
  unfold takes at h
  split at h
  · cases h
  · omega

theorem two63 : (2 : Int) ^ 63 = 9223372036854775808 := by decide
theorem and_one (m : Int) (h0 : 0 ≤ m) (h1 : m ≤ 9223372036854775807) : bits BinOp.and IntKind.i64 m 1 = m % 2 := by
  have h := bits_mask .i64 63 (by decide) (fun n h0 h1 => by rw [two63] at h1; rw [IntKind.wrap_i64]; omega) 1 (by decide) m (by omega) (by rw [two63]; omega)
  have e : ((2 : Int) ^ 1 - 1) = 1 := by decide
  rw [e] at h
  rw [h]
  omega
end Go.Proofs.Ytmlfeocdcjhhaaa

namespace Go.Proofs.Ytmlfeocdcjhhaaa
set_option linter.unusedVariables false
set_option linter.unusedSimpArgs false
set_option maxRecDepth 100000
open Go.RowKit

set_option maxHeartbeats 400000 in
theorem truth_any (w : World) (b : Bool) : Calls Try.prog 132 #[.bool b] w fun e w' => e = .returned (.int .i64 (truthI b)) ∧ w = w' := by
  cases b
  all_goals
    go_enter Try.func132, Try.ntmps132
    go_wp2
    go_ret
    exact ⟨rfl, rfl⟩

set_option maxHeartbeats 400000 in
theorem bit_any (w : World) (b : Bool) : Calls Try.prog 135 #[.bool b] w fun e w' => e = .returned (.int .i64 (truthI b)) ∧ w = w' := by
  cases b
  all_goals
    go_enter Try.func135, Try.ntmps135
    go_wp2
    go_ret
    exact ⟨rfl, rfl⟩

set_option maxHeartbeats 400000 in
theorem raised_any (w : World) (a n : Int) (hn0 : 0 ≤ n) (hn : n ≤ 9223372036854775807) : Calls Try.prog 150 #[.int .i64 a, .int .i64 n] w fun e w' => e = .returned (.int .i64 (wrap64 (a ^ n.toNat))) ∧ w = w' := by
  go_enter Try.func150, Try.ntmps150
  go_wp2
  go_loop [0, 1, 5] (fun x i p => ∃ (m y q : Int), 0 ≤ m ∧ m ≤ n ∧ x = .int .i64 y ∧ i = .int .i64 m ∧ p = .int .i64 q ∧ wrap64 q = q ∧ wrap64 (q * y ^ m.toNat) = wrap64 (a ^ n.toNat)) (fun _ i _ => (intOf i).toNat)
  case atStart => exact ⟨n, a, 1, hn0, Int.le_refl _, rfl, rfl, rfl, wrap_id (by unfold In64; omega), by rw [Int.one_mul]⟩
  case round =>
    obtain ⟨m, y, q, hm0, hm1, rfl, rfl, rfl, hq, hr⟩ := hrel
    have Hq := Lib.hid hq; have Hr := Lib.hid hr; clear hq hr
    by_cases h : 0 < m
    · have hm2 : (m / 2).toNat = m.toNat / 2 := by omega
      have Hm2 := Lib.hid hm2; clear hm2
      by_cases hodd : m % 2 = 1
      · have ho : m.toNat % 2 = 1 := by omega
        have hb : (bits BinOp.and IntKind.i64 m 1 == 1) = true := by rw [and_one m hm0 (by omega)]; simpa using hodd
        have Ho := Lib.hid ho; clear ho hodd
        go_wp2
        go_round
        case rel => exact ⟨m / 2, wrap64 (y * y), wrap64 (q * y), by omega, by omega, rfl, rfl, rfl, wrap_wrap _, by rw [Hm2.out, pow_odd _ _ _ Ho.out]; exact Hr.out⟩
        case measure => simp [intOf]; omega
      · have ho : m.toNat % 2 = 0 := by omega
        have hb : (bits BinOp.and IntKind.i64 m 1 == 1) = false := by rw [and_one m hm0 (by omega)]; simpa using hodd
        have Ho := Lib.hid ho; clear ho hodd
        go_wp2
        go_round
        case rel => exact ⟨m / 2, wrap64 (y * y), q, by omega, by omega, rfl, rfl, rfl, Hq.out, by rw [Hm2.out, pow_even _ _ _ Ho.out]; exact Hr.out⟩
        case measure => simp [intOf]; omega
    · have hm : m = 0 := by omega
      have Hm := Lib.hid hm; clear hm
      go_wp2
      go_ret
      exact ⟨ret_int (by have := Hr.out; rw [Hm.out] at this; simpa [Hq.out] using this), rfl⟩

set_option maxHeartbeats 400000 in
theorem power_any (w : World) (a n : Int) (hn0 : 0 ≤ n) (hn : n ≤ 9223372036854775807) : Calls Try.prog 139 #[.int .i64 a, .int .i64 n] w fun e w' => e = .returned (.int .i64 (wrap64 (a ^ n.toNat))) ∧ w = w' := by
  go_enter Try.func139, Try.ntmps139
  go_wp2
  go_loop [0, 1, 5] (fun x i p => ∃ (m y q : Int), 0 ≤ m ∧ m ≤ n ∧ x = .int .i64 y ∧ i = .int .i64 m ∧ p = .int .i64 q ∧ wrap64 q = q ∧ wrap64 (q * y ^ m.toNat) = wrap64 (a ^ n.toNat)) (fun _ i _ => (intOf i).toNat)
  case atStart => exact ⟨n, a, 1, hn0, Int.le_refl _, rfl, rfl, rfl, wrap_id (by unfold In64; omega), by rw [Int.one_mul]⟩
  case round =>
    obtain ⟨m, y, q, hm0, hm1, rfl, rfl, rfl, hq, hr⟩ := hrel
    have Hq := Lib.hid hq; have Hr := Lib.hid hr; clear hq hr
    by_cases h : 0 < m
    · have hm2 : (m / 2).toNat = m.toNat / 2 := by omega
      have Hm2 := Lib.hid hm2; clear hm2
      by_cases hodd : m % 2 = 1
      · have ho : m.toNat % 2 = 1 := by omega
        have hb : (m % 2 == 1) = true := by simpa using hodd
        have Ho := Lib.hid ho; clear ho hodd
        go_wp2
        go_round
        case rel => exact ⟨m / 2, wrap64 (y * y), wrap64 (q * y), by omega, by omega, rfl, rfl, rfl, wrap_wrap _, by rw [Hm2.out, pow_odd _ _ _ Ho.out]; exact Hr.out⟩
        case measure => simp [intOf]; omega
      · have ho : m.toNat % 2 = 0 := by omega
        have hb : (m % 2 == 1) = false := by simpa using hodd
        have Ho := Lib.hid ho; clear ho hodd
        go_wp2
        go_round
        case rel => exact ⟨m / 2, wrap64 (y * y), q, by omega, by omega, rfl, rfl, rfl, Hq.out, by rw [Hm2.out, pow_even _ _ _ Ho.out]; exact Hr.out⟩
        case measure => simp [intOf]; omega
    · have hm : m = 0 := by omega
      have Hm := Lib.hid hm; clear hm
      go_wp2
      go_ret
      exact ⟨ret_int (by have := Hr.out; rw [Hm.out] at this; simpa [Hq.out] using this), rfl⟩

set_option maxHeartbeats 400000 in
theorem rest_any (w : World) (a b : Int) (hb : ¬ b = 0) (hi : In64 b) : Calls Try.prog 149 #[.int .i64 a, .int .i64 b] w fun e w' => e = .returned (.int .i64 (a.fmod b)) ∧ w = w' := by
  have hr := rest_eq (a := a) hb
  have ht := tmod_lt (a := a) hb
  have Hr := Lib.hid hr; clear hr
  unfold In64 at hi
  by_cases h0 : a.tmod b = 0
  · have Hf : Hid (a.fmod b = 0) := by unfold Hid; rw [Hr.out, if_neg (by omega)]; exact h0
    clear hi ht
    go_enter Try.func149, Try.ntmps149
    go_wp2
    go_ret
    exact ⟨ret_int Hf.out.symm, rfl⟩
  · have h0' : (a.tmod b != 0) = true := by simpa using h0
    by_cases hs : (!(decide (a.tmod b < 0) == decide (b < 0))) = true
    · have Hf : Hid (wrap64 (a.tmod b + b) = a.fmod b) := by
        unfold Hid
        have hs' : decide (a.tmod b < 0) ≠ decide (b < 0) := by simpa using hs
        rw [Hr.out, if_pos ⟨h0, hs'⟩]
        refine wrap_id ?_
        unfold In64
        simp at hs'
        omega
      clear hi ht
      go_enter Try.func149, Try.ntmps149
      go_wp2
      go_ret
      exact ⟨ret_int Hf.out, rfl⟩
    · have Hf : Hid (a.tmod b = a.fmod b) := by
        unfold Hid
        have hs' : ¬ decide (a.tmod b < 0) ≠ decide (b < 0) := by simpa using hs
        rw [Hr.out, if_neg (fun h => hs' h.2)]
      have hs2 : (!(decide (a.tmod b < 0) == decide (b < 0))) = false := by simpa using hs
      clear hi ht hs
      go_enter Try.func149, Try.ntmps149
      go_wp2
      go_ret
      exact ⟨ret_int Hf.out, rfl⟩
end Go.Proofs.Ytmlfeocdcjhhaaa
