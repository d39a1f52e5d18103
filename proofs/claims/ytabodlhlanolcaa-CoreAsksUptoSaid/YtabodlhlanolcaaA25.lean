import Derived.Test.YtabodlhlanolcaaA24
namespace Go.Proofs.Ytabodlhlanolcaa
set_option maxRecDepth 100000
open Go.RowKit
set_option linter.unusedVariables false
set_option linter.unusedSimpArgs false
attribute [local go_sem ↓] Go.wp_at_zero Go.wp_at_succ

/-! Sizes of buffers: plain; slices of int64 searched. -/
def sideO (D : List Int) (p : List Mono) : Option Int := if (evalS p D).2 = 0 ∧ 0 ≤ (evalS p D).1 ∧ (evalS p D).1 ≤ 65536 then some (evalS p D).1 else none
def valsO (D : List Int) : List (List Mono) → List Int → Option (List Int)
  | [], l => some l
  | p :: r, l => match sideO D p with
    | none => none
    | some n => valsO D r (l ++ [n])
def prodO : List Int → Int → Option Int
  | [], a => some a
  | n :: r, a => if 65536 < a * n then none else prodO r (a * n)
def prodE : Option Int → Int × Bool
  | none => (0, false)
  | some v => (v, true)
def sizeP (l : List Int) : Int × Bool := if l.any (fun x => x == 0) then (0, true) else prodE (prodO l 1)
def sizeS (D : List Int) (sides : List (List Mono)) : Int × Bool := match valsO D sides [] with
  | none => (0, false)
  | some l => sizeP l
theorem vals_none {D : List Int} {sides : List (List Mono)} {k : Nat} (hk : k < sides.length) (l : List Int) (h : sideO D sides[k] = none) : valsO D (sides.drop k) l = none := by rw [List.drop_eq_getElem_cons hk, valsO, h]
theorem vals_step {D : List Int} {sides : List (List Mono)} {k : Nat} (hk : k < sides.length) (l : List Int) {n : Int} (h : sideO D sides[k] = some n) : valsO D (sides.drop k) l = valsO D (sides.drop (k + 1)) (l ++ [n]) := by rw [List.drop_eq_getElem_cons hk, valsO, h]
theorem side_bad {D : List Int} {p : List Mono} (h : (evalS p D).2 ≠ 0 ∨ (evalS p D).1 < 0 ∨ 65536 < (evalS p D).1) : sideO D p = none := by unfold sideO; rw [if_neg (by omega)]
theorem side_good {D : List Int} {p : List Mono} (h : (evalS p D).2 = 0) (h1 : 0 ≤ (evalS p D).1) (h2 : (evalS p D).1 ≤ 65536) : sideO D p = some (evalS p D).1 := by unfold sideO; rw [if_pos ⟨h, h1, h2⟩]
theorem prod_step {l : List Int} {k : Nat} (hk : k < l.length) (a : Int) : prodO (l.drop k) a = if 65536 < a * l[k] then none else prodO (l.drop (k + 1)) (a * l[k]) := by rw [List.drop_eq_getElem_cons hk, prodO]
def twoB (p : Int × Bool) : Ending := .returned (.tuple #[.int .i64 p.1, .bool p.2])
theorem ret_twoB {a : Int} {b : Bool} {p : Int × Bool} (h : p = (a, b)) : Ending.returned (.tuple #[.int .i64 a, .bool b]) = twoB p := by subst h; rfl
set_option maxHeartbeats 4000000 in
theorem indexN (w : World) (a : Option Addr) (cap : Nat) (xs : List Int) (v : Int) (hm : xs.length ≤ 9223372036854775807) (h : IntsAt .i64 w a xs) :
    Calls Try.prog 62 #[.slice a xs.length cap, .int .i64 v] w fun e w' => e = .returned (.int .i64 (firstZ (fun x => x == v) 0 xs)) ∧ w = w' := by
  have HI := Lib.hid h; clear h
  go_enter Try.func62, Try.ntmps62
  go_wp2
  go_loop [8] (fun i => ∃ k : Nat, k ≤ xs.length ∧ i = .int .i64 k ∧ firstZ (fun x => x == v) 0 xs = firstZ (fun x => x == v) k (xs.drop k)) (fun i => xs.length - (intOf i).toNat)
  case atStart => exact ⟨0, Nat.zero_le _, rfl, rfl⟩
  case round =>
    obtain ⟨k, hk, rfl, hr⟩ := hrel
    by_cases hlt : k < xs.length
    · rw [firstZ_step hlt] at hr
      obtain ⟨b, off, rfl, x0⟩ := HI.out k hlt
      have hz1 : (k : Int) < (xs.length : Int) := by omega
      obtain ⟨x, hx⟩ : ∃ x, xs[k] = x := ⟨_, rfl⟩
      rw [hx] at hr x0
      have Hr := Lib.hid hr; clear hr hx
      by_cases e : v = x
      · have e1 : (v == x) = true := by simp [e]
        have HG := Lib.hid (show firstZ (fun x => x == v) 0 xs = k from by rw [Hr.out, if_pos (by simp [e])])
        clear e Hr
        go_wp2_with fail
        go_ret
        exact ⟨ret_int HG.out.symm, rfl⟩
      · have e1 : (v == x) = false := by simp [e]
        have HG := Lib.hid (show firstZ (fun x => x == v) 0 xs = firstZ (fun x => x == v) (k + 1) (xs.drop (k + 1)) from by rw [Hr.out, if_neg (by simp; omega)])
        clear e Hr
        go_wp2_with fail
        go_round
        case rel => exact ⟨k + 1, by omega, by go_num, HG.out⟩
        case measure => simp [intOf]; omega
    · have Hr := Lib.hid hr; clear hr
      go_wp2
      go_ret
      exact ⟨ret_int (by rw [Hr.out, List.drop_eq_nil_of_le (by omega)]; rfl), rfl⟩
theorem containsN (w : World) (a : Option Addr) (cap : Nat) (xs : List Int) (v : Int) (hm : xs.length ≤ 9223372036854775807) (h : IntsAt .i64 w a xs) :
    Calls Try.prog 52 #[.slice a xs.length cap, .int .i64 v] w fun e w' => e = .returned (.bool (xs.any fun x => x == v)) ∧ w = w' := by
  have hq := Lib.hid (indexN w a cap xs v hm h)
  clear h
  go_enter Try.func52, Try.ntmps52
  go_wp2_with (go_at_call 62; refine hq.out.mono ?_; rintro e w' ⟨rfl, rfl⟩)
  go_ret
  exact ⟨ret_bool (firstZ_nonneg _ _), rfl⟩
/-- which values of variables are right, but for their number -/
def dimQ (d : Int) : Bool := decide (d < 0) || decide (65536 < d)
theorem dimq_any (w : World) (d : Int) : Calls Try.prog 29 #[.int .i64 d] w fun e w' => e = .returned (.bool (dimQ d)) ∧ w = w' := by
  by_cases h0 : d < 0
  · have HG := Lib.hid (show dimQ d = true from by unfold dimQ; rw [decide_eq_true h0]; rfl)
    go_enter Try.func29, Try.ntmps29
    go_wp2_with fail
    go_ret
    exact ⟨ret_bool HG.out.symm, rfl⟩
  have h0' : decide (d < 0) = false := by simpa using h0
  have HG := Lib.hid (show dimQ d = decide (65536 < d) from by unfold dimQ; rw [decide_eq_false h0]; rfl)
  go_enter Try.func29, Try.ntmps29
  go_wp2_with fail
  all_goals
    go_ret
    exact ⟨ret_bool HG.out.symm, rfl⟩
set_option maxHeartbeats 4000000 in
theorem indexFuncN (w : World) (a : Option Addr) (cap : Nat) (xs : List Int) (hm : xs.length ≤ 9223372036854775807) (h : IntsAt .i64 w a xs) :
    Calls Try.prog 50 #[.slice a xs.length cap, .func (.func 29) #[] #[]] w fun e w' => e = .returned (.int .i64 (firstZ dimQ 0 xs)) ∧ w = w' := by
  have HI := Lib.hid h; clear h
  go_enter Try.func50, Try.ntmps50
  go_wp2
  go_loop [8] (fun i => ∃ k : Nat, k ≤ xs.length ∧ i = .int .i64 k ∧ firstZ dimQ 0 xs = firstZ dimQ k (xs.drop k)) (fun i => xs.length - (intOf i).toNat)
  case atStart => exact ⟨0, Nat.zero_le _, rfl, rfl⟩
  case round =>
    obtain ⟨k, hk, rfl, hr⟩ := hrel
    by_cases hlt : k < xs.length
    · rw [firstZ_step hlt] at hr
      obtain ⟨b, off, rfl, x0⟩ := HI.out k hlt
      have hz1 : (k : Int) < (xs.length : Int) := by omega
      obtain ⟨x, hx⟩ : ∃ x, xs[k] = x := ⟨_, rfl⟩
      rw [hx] at hr x0
      have hq := dimq_any w x
      have Hr := Lib.hid hr; clear hr hx
      cases hv : dimQ x with
      | true =>
        rw [hv] at hq
        have HQ := Lib.hid hq; have Hv := Lib.hid hv; clear hq hv
        go_wp2_with (refine HQ.out.mono ?_; rintro e w' ⟨rfl, rfl⟩)
        go_ret
        exact ⟨ret_int (by rw [Hr.out, if_pos Hv.out]), rfl⟩
      | false =>
        rw [hv] at hq
        have HQ := Lib.hid hq; have Hv := Lib.hid hv; clear hq hv
        go_wp2_with (refine HQ.out.mono ?_; rintro e w' ⟨rfl, rfl⟩)
        go_round
        case rel => exact ⟨k + 1, by omega, by go_num, by rw [Hr.out, if_neg (by rw [Hv.out]; simp)]⟩
        case measure => simp [intOf]; omega
    · have Hr := Lib.hid hr; clear hr
      go_wp2
      go_ret
      exact ⟨ret_int (by rw [Hr.out, List.drop_eq_nil_of_le (by omega)]; rfl), rfl⟩
theorem containsFuncN (w : World) (a : Option Addr) (cap : Nat) (xs : List Int) (hm : xs.length ≤ 9223372036854775807) (h : IntsAt .i64 w a xs) :
    Calls Try.prog 28 #[.slice a xs.length cap, .func (.func 29) #[] #[]] w fun e w' => e = .returned (.bool (xs.any dimQ)) ∧ w = w' := by
  have hq := Lib.hid (indexFuncN w a cap xs hm h)
  clear h
  go_enter Try.func28, Try.ntmps28
  go_wp2_with (go_at_call 50; refine hq.out.mono ?_; rintro e w' ⟨rfl, rfl⟩)
  go_ret
  exact ⟨ret_bool (firstZ_nonneg _ _), rfl⟩
end Go.Proofs.Ytabodlhlanolcaa
