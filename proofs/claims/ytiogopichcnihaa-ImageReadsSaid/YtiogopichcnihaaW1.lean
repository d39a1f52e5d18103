import Derived.Test.YtiogopichcnihaaBase
namespace Go.Proofs.Ytiogopichcnihaa
set_option maxRecDepth 100000
open Go.RowKit

/-- the first place from k on that p tells of, or -1 -/
def firstP (p : Int → Bool) : Nat → List Int → Int
  | _, [] => -1
  | k, x :: xs => if p x then k else firstP p (k + 1) xs

theorem firstP_step {p : Int → Bool} {k : Nat} {xs : List Int} (h : k < xs.length) : firstP p k (xs.drop k) = if p xs[k] then (k : Int) else firstP p (k + 1) (xs.drop (k + 1)) := by
  rw [List.drop_eq_getElem_cons h, firstP]

theorem firstP_nonneg {p : Int → Bool} : ∀ (xs : List Int) (k : Nat), decide (0 ≤ firstP p k xs) = xs.any p
  | [], k => by simp [firstP]
  | x :: xs, k => by
    rw [firstP]
    by_cases h : p x
    · simp [h]
    · simp [h, firstP_nonneg xs (k + 1)]

set_option maxHeartbeats 400000 in
theorem sindex_any (w : World) (a : Option Addr) (cap : Nat) (xs : List Int) (v : Int) (hm : xs.length ≤ maxLen) (h : IntsAt .i64 w a xs) :
    Calls Try.prog 60 #[.slice a xs.length cap, .int .i64 v] w fun e w' => e = .returned (.int .i64 (firstP (v == ·) 0 xs)) ∧ w = w' := by
  unfold maxLen at hm
  go_enter Try.func60, Try.ntmps60
  go_wp2
  go_loop [8] (fun i => ∃ k : Nat, k ≤ xs.length ∧ i = .int .i64 k ∧ firstP (v == ·) 0 xs = firstP (v == ·) k (xs.drop k)) (fun i => xs.length - (intOf i).toNat)
  case atStart => exact ⟨0, Nat.zero_le _, rfl, rfl⟩
  case round =>
    obtain ⟨k, hk, rfl, hr⟩ := hrel
    by_cases hlt : k < xs.length
    · obtain ⟨b, off, rfl, hc⟩ := h k hlt
      rw [firstP_step hlt] at hr
      have Hr := Lib.hid hr; clear hr h
      by_cases hv : (v == xs[k]) = true
      · go_wp2
        go_ret
        exact ⟨ret_int (by rw [Hr.out, if_pos hv]), rfl⟩
      · have hv' : (v == xs[k]) = false := by simpa using hv
        go_wp2
        go_round
        case rel => exact ⟨k + 1, by omega, by go_num, by rw [Hr.out, if_neg hv]⟩
        case measure => simp [intOf]; omega
    · have Hr := Lib.hid hr; clear hr h
      go_wp2
      go_ret
      exact ⟨ret_int (by rw [Hr.out, List.drop_eq_nil_of_le (by omega)]; rfl), rfl⟩

set_option maxHeartbeats 400000 in
theorem contains_any (w : World) (a : Option Addr) (cap : Nat) (xs : List Int) (v : Int) (hm : xs.length ≤ maxLen) (h : IntsAt .i64 w a xs) :
    Calls Try.prog 46 #[.slice a xs.length cap, .int .i64 v] w fun e w' => e = .returned (.bool (xs.any (v == ·))) ∧ w = w' := by
  go_enter Try.func46, Try.ntmps46
  go_wp2_with (go_at_call 60; refine (sindex_any _ a cap xs v hm h).mono ?_; rintro e w' ⟨rfl, rfl⟩)
  go_ret
  exact ⟨ret_bool (firstP_nonneg _ _), rfl⟩

set_option maxHeartbeats 400000 in
theorem indexFunc_any (w : World) (a : Option Addr) (cap : Nat) (xs : List Int) (g : FuncId) (cs : Array Value) (p : Int → Bool) (hg : ∀ args w, (callFunc g args).run Try.prog w = .ok (.enter g args) w) (hm : xs.length ≤ maxLen) (h : IntsAt .i64 w a xs)
    (hp : ∀ x ∈ xs, ∀ w', Below w.heap.size w w' → Calls Try.prog g (#[.int .i64 x] ++ cs) w' fun e w'' => e = .returned (.bool (p x)) ∧ Below w.heap.size w' w'') :
    Calls Try.prog 47 #[.slice a xs.length cap, .func (.func g) #[] cs] w fun e w' => e = .returned (.int .i64 (firstP p 0 xs)) ∧ Below w.heap.size w w' := by
  unfold maxLen at hm
  go_enter Try.func47, Try.ntmps47
  go_wp2
  go_loopw [8] (fun i wr => ∃ k : Nat, k ≤ xs.length ∧ i = .int .i64 k ∧ firstP p 0 xs = firstP p k (xs.drop k) ∧ Below w.heap.size w wr) (fun i _ => xs.length - (intOf i).toNat)
  case atStart => exact ⟨0, Nat.zero_le _, rfl, rfl, Below.refl _ _⟩
  case round =>
    obtain ⟨k, hk, rfl, hr, hbel⟩ := hrel
    by_cases hlt : k < xs.length
    · obtain ⟨b, off, rfl, hc⟩ := (h.below hbel (Nat.le_refl _)) k hlt
      rw [firstP_step hlt] at hr
      have Hr := Lib.hid hr; clear hr h
      have hq := Lib.hid (hp xs[k] (List.getElem_mem hlt) wr hbel)
      clear hp
      by_cases hv : p xs[k] = true
      · rw [hv] at hq
        go_wp2_with (refine hq.out.mono ?_; rintro e w' ⟨rfl, hb1⟩)
        go_ret
        exact ⟨ret_int (by rw [Hr.out, if_pos hv]), hbel.trans hb1⟩
      · have hv' : p xs[k] = false := by simpa using hv
        rw [hv'] at hq
        go_wp2_with (refine hq.out.mono ?_; rintro e w' ⟨rfl, hb1⟩)
        go_roundw
        case rel => exact ⟨k + 1, by omega, by go_num, by rw [Hr.out, if_neg hv], hbel.trans hb1⟩
        case measure => simp [intOf]; omega
    · have Hr := Lib.hid hr; clear hr h hp
      go_wp2
      go_ret
      exact ⟨ret_int (by rw [Hr.out, List.drop_eq_nil_of_le (by omega)]; rfl), hbel⟩

set_option maxHeartbeats 400000 in
theorem containsFunc_any (w : World) (a : Option Addr) (cap : Nat) (xs : List Int) (g : FuncId) (cs : Array Value) (p : Int → Bool) (hg : ∀ args w, (callFunc g args).run Try.prog w = .ok (.enter g args) w) (hm : xs.length ≤ maxLen) (h : IntsAt .i64 w a xs)
    (hp : ∀ x ∈ xs, ∀ w', Below w.heap.size w w' → Calls Try.prog g (#[.int .i64 x] ++ cs) w' fun e w'' => e = .returned (.bool (p x)) ∧ Below w.heap.size w' w'') :
    Calls Try.prog 29 #[.slice a xs.length cap, .func (.func g) #[] cs] w fun e w' => e = .returned (.bool (xs.any p)) ∧ Below w.heap.size w w' := by
  have hq := Lib.hid (indexFunc_any w a cap xs g cs p hg hm h hp)
  clear hp h
  go_enter Try.func29, Try.ntmps29
  go_wp2_with (go_at_call 47; refine hq.out.mono ?_; rintro e w' ⟨rfl, hb1⟩)
  go_ret
  exact ⟨ret_bool (firstP_nonneg _ _), hb1⟩

end Go.Proofs.Ytiogopichcnihaa
