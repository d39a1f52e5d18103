import Derived.Test.YtiogopichcnihaaIns
namespace Go.Proofs.Ytiogopichcnihaa
set_option maxRecDepth 100000
open Go.RowKit
set_option linter.unusedVariables false
set_option linter.unusedSimpArgs false

/-- the first place from k on that p tells of, or -1 -/
def firstI (p : Ins → Bool) : Nat → List Ins → Int
  | _, [] => -1
  | k, x :: xs => if p x then k else firstI p (k + 1) xs
theorem firstI_step {p : Ins → Bool} {k : Nat} {xs : List Ins} (h : k < xs.length) : firstI p k (xs.drop k) = if p xs[k] then (k : Int) else firstI p (k + 1) (xs.drop (k + 1)) := by
  rw [List.drop_eq_getElem_cons h, firstI]
theorem firstI_nonneg {p : Ins → Bool} : ∀ (xs : List Ins) (k : Nat), decide (0 ≤ firstI p k xs) = xs.any p
  | [], k => by simp [firstI]
  | x :: xs, k => by
    rw [firstI]
    by_cases h : p x
    · simp [h]
    · simp [h, firstI_nonneg xs (k + 1)]

set_option maxHeartbeats 4000000 in
theorem indexFuncI (w : World) (a : Option Addr) (cap : Nat) (xs : List Ins) (g : FuncId) (p : Ins → Bool) (hg : ∀ args w, (callFunc g args).run Try.prog w = .ok (.enter g args) w) (hm : xs.length ≤ maxLen) (h : insRep.Els w a xs)
    (hp : ∀ x, x.wf → ∀ w', Calls Try.prog g #[x.V] w' fun e w'' => e = .returned (.bool (p x)) ∧ Below w'.heap.size w' w'') :
    Calls Try.prog 49 #[.slice a xs.length cap, .func (.func g) #[] #[]] w fun e w' => e = .returned (.int .i64 (firstI p 0 xs)) ∧ Below w.heap.size w w' := by
  unfold maxLen at hm
  have HI := Lib.hid h; have HP := Lib.hid hp; clear h hp
  go_enter Try.func49, Try.ntmps49
  go_wp2
  go_loopw [8] (fun i wr => ∃ k : Nat, k ≤ xs.length ∧ i = .int .i64 k ∧ firstI p 0 xs = firstI p k (xs.drop k) ∧ Below w.heap.size w wr) (fun i _ => xs.length - (intOf i).toNat)
  case atStart => exact ⟨0, Nat.zero_le _, rfl, rfl, Below.refl _ _⟩
  case round =>
    obtain ⟨k, hk, rfl, hr, hbel⟩ := hrel
    by_cases hlt : k < xs.length
    · rw [firstI_step hlt] at hr
      obtain ⟨b, off, rfl, hw, x0, x1, x2, x3, x4⟩ := els_ins (HI.out.below insRep hbel (Nat.le_refl _)) hlt
      have hq := HP.out xs[k] hw wr
      unfold Ins.V at hq
      have Hr := Lib.hid hr; clear hr
      cases hv : p xs[k] with
      | true =>
        rw [hv] at hq
        have HQ := Lib.hid hq; have Hv := Lib.hid hv; clear hq hv
        go_wp2_with (refine HQ.out.mono ?_; rintro e w' ⟨rfl, hb1⟩)
        go_ret
        exact ⟨ret_int (by rw [Hr.out, if_pos Hv.out]), bNext hb1 hbel⟩
      | false =>
        rw [hv] at hq
        have HQ := Lib.hid hq; have Hv := Lib.hid hv; clear hq hv
        go_wp2_with (refine HQ.out.mono ?_; rintro e w' ⟨rfl, hb1⟩)
        go_roundw
        case rel => exact ⟨k + 1, by omega, by go_num, by rw [Hr.out, if_neg (by rw [Hv.out]; simp)], bNext hb1 hbel⟩
        case measure => simp [intOf]; omega
    · have Hr := Lib.hid hr; clear hr
      go_wp2
      go_ret
      exact ⟨ret_int (by rw [Hr.out, List.drop_eq_nil_of_le (by omega)]; rfl), hbel⟩

theorem containsFuncI (w : World) (a : Option Addr) (cap : Nat) (xs : List Ins) (g : FuncId) (p : Ins → Bool) (hg : ∀ args w, (callFunc g args).run Try.prog w = .ok (.enter g args) w) (hm : xs.length ≤ maxLen) (h : insRep.Els w a xs)
    (hp : ∀ x, x.wf → ∀ w', Calls Try.prog g #[x.V] w' fun e w'' => e = .returned (.bool (p x)) ∧ Below w'.heap.size w' w'') :
    Calls Try.prog 32 #[.slice a xs.length cap, .func (.func g) #[] #[]] w fun e w' => e = .returned (.bool (xs.any p)) ∧ Below w.heap.size w w' := by
  have hq := Lib.hid (indexFuncI w a cap xs g p hg hm h hp)
  clear hp h
  go_enter Try.func32, Try.ntmps32
  go_wp2_with (go_at_call 49; refine hq.out.mono ?_; rintro e w' ⟨rfl, hb1⟩)
  go_ret
  exact ⟨ret_bool (firstI_nonneg _ _), hb1⟩
end Go.Proofs.Ytiogopichcnihaa
