import Derived.Test.YtabodlhlanolcaaA12
namespace Go.Proofs.Ytabodlhlanolcaa
set_option maxRecDepth 100000
open Go.RowKit
set_option linter.unusedVariables false
set_option linter.unusedSimpArgs false
attribute [local go_sem ↓] Go.wp_at_zero Go.wp_at_succ

/-! slices.IndexFunc and ContainsFunc over operations, with a closure that has one variable of its own. -/
def firstO (p : Cop → Bool) : Nat → List Cop → Int
  | _, [] => -1
  | k, x :: xs => if p x then k else firstO p (k + 1) xs
theorem firstO_step {p : Cop → Bool} {k : Nat} {xs : List Cop} (h : k < xs.length) : firstO p k (xs.drop k) = if p xs[k] then (k : Int) else firstO p (k + 1) (xs.drop (k + 1)) := by
  rw [List.drop_eq_getElem_cons h, firstO]
theorem firstO_nonneg {p : Cop → Bool} : ∀ (xs : List Cop) (k : Nat), decide (0 ≤ firstO p k xs) = xs.any p
  | [], k => by simp [firstO]
  | x :: xs, k => by
    rw [firstO]
    by_cases h : p x
    · simp [h]
    · simp [h, firstO_nonneg xs (k + 1)]
set_option maxHeartbeats 4000000 in
theorem indexFuncO (w : World) (a : Option Addr) (cap : Nat) (xs : List Cop) (cv : Value) (p : Cop → Bool) (hm : xs.length ≤ maxLen) (h : copRep.Els w a xs)
    (hp : ∀ i, (hi : i < xs.length) → ∀ w' pa pc, Below w.heap.size w w' → monoRep.Els w' pa xs[i].p → xs[i].p.length ≤ 9223372036854775807 →
      Calls Try.prog 43 #[.agg #[.int .i64 xs[i].how, .int .i64 xs[i].k, .int .i64 xs[i].n, .slice pa xs[i].p.length pc, .int .u8 xs[i].fn], cv] w' fun e w'' => e = .returned (.bool (p xs[i])) ∧ Below w'.heap.size w' w'') :
    Calls Try.prog 56 #[.slice a xs.length cap, .func (.func 43) #[] #[cv]] w fun e w' => e = .returned (.int .i64 (firstO p 0 xs)) ∧ Below w.heap.size w w' := by
  unfold maxLen at hm
  have HI := Lib.hid h; have HP := Lib.hid hp; clear h hp
  go_enter Try.func56, Try.ntmps56
  go_wp2
  go_loopw [8] (fun i wr => ∃ k : Nat, k ≤ xs.length ∧ i = .int .i64 k ∧ firstO p 0 xs = firstO p k (xs.drop k) ∧ Below w.heap.size w wr) (fun i _ => xs.length - (intOf i).toNat)
  case atStart => exact ⟨0, Nat.zero_le _, rfl, rfl, Below.refl _ _⟩
  case round =>
    obtain ⟨k, hk, rfl, hr, hbel⟩ := hrel
    by_cases hlt : k < xs.length
    · rw [firstO_step hlt] at hr
      obtain ⟨b, off, cs, rfl, ⟨v, rfl, hs, hh, -⟩, hc⟩ := (HI.out.below copRep hbel (Nat.le_refl _)) k hlt
      have x0 := hc 0 _ rfl; have x1 := hc 1 _ rfl; have x2 := hc 2 _ rfl; have x3 := hc 3 _ rfl; have x4 := hc 4 _ rfl
      simp only [show copRep.n = 5 from rfl, Nat.add_zero] at x0 x1 x2 x3 x4
      obtain ⟨pa, pc, rfl, hpl, hpe⟩ := Rep.Sl.form hs
      have hq := HP.out k hlt wr pa pc hbel hpe hpl
      have Hr := Lib.hid hr; clear hr hs hpe hc
      cases hv : p xs[k] with
      | true =>
        rw [hv] at hq
        have HQ := Lib.hid hq; have Hv := Lib.hid hv; clear hq hv
        go_wp2_with (refine HQ.out.mono ?_; rintro e w' ⟨rfl, hb1⟩)
        go_ret
        exact ⟨ret_int (by rw [Hr.out, if_pos Hv.out]), bNext hb1 hbel⟩
      | false =>
        rw [hv] at hq
        have HQ := Lib.hid hq; have Hv := Lib.hid hv; clear hq hv
        go_wp2_with (refine HQ.out.mono ?_; rintro e w' ⟨rfl, hb1⟩)
        go_roundw
        case rel => exact ⟨k + 1, by omega, by go_num, by rw [Hr.out, if_neg (by rw [Hv.out]; simp)], bNext hb1 hbel⟩
        case measure => simp [intOf]; omega
    · have Hr := Lib.hid hr; clear hr
      go_wp2
      go_ret
      exact ⟨ret_int (by rw [Hr.out, List.drop_eq_nil_of_le (by omega)]; rfl), hbel⟩

theorem containsFuncO (w : World) (a : Option Addr) (cap : Nat) (xs : List Cop) (cv : Value) (p : Cop → Bool) (hm : xs.length ≤ maxLen) (h : copRep.Els w a xs)
    (hp : ∀ i, (hi : i < xs.length) → ∀ w' pa pc, Below w.heap.size w w' → monoRep.Els w' pa xs[i].p → xs[i].p.length ≤ 9223372036854775807 →
      Calls Try.prog 43 #[.agg #[.int .i64 xs[i].how, .int .i64 xs[i].k, .int .i64 xs[i].n, .slice pa xs[i].p.length pc, .int .u8 xs[i].fn], cv] w' fun e w'' => e = .returned (.bool (p xs[i])) ∧ Below w'.heap.size w' w'') :
    Calls Try.prog 36 #[.slice a xs.length cap, .func (.func 43) #[] #[cv]] w fun e w' => e = .returned (.bool (xs.any p)) ∧ Below w.heap.size w w' := by
  have hq := Lib.hid (indexFuncO w a cap xs cv p hm h hp)
  clear hp h
  go_enter Try.func36, Try.ntmps36
  go_wp2_with (go_at_call 56; refine hq.out.mono ?_; rintro e w' ⟨rfl, hb1⟩)
  go_ret
  exact ⟨ret_bool (firstO_nonneg _ _), hb1⟩
end Go.Proofs.Ytabodlhlanolcaa
