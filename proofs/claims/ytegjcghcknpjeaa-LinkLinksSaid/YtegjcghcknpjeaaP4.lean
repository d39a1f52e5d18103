import Derived.Test.YtegjcghcknpjeaaP3
namespace Go.Proofs.Ytegjcghcknpjeaa
open Go.RowKit
set_option linter.unusedVariables false

/-- the first place from k on that p tells of, or -1 -/
def firstI (p : Ins → Bool) : Nat → List Ins → Int
  | _, [] => -1
  | k, x :: xs => if p x then k else firstI p (k + 1) xs
theorem firstI_step {p : Ins → Bool} {k : Nat} {xs : List Ins} (h : k < xs.length) : firstI p k (xs.drop k) = if p xs[k] then (k : Int) else firstI p (k + 1) (xs.drop (k + 1)) := by
  rw [List.drop_eq_getElem_cons h, firstI]
theorem firstI_nonneg {p : Ins → Bool} : ∀ (xs : List Ins) (k : Nat), decide (0 ≤ firstI p k xs) = xs.any p
  | [], k => by simp [firstI]
  | x :: xs, k => by
    rw [firstI]
    by_cases h : p x
    · simp [h]
    · simp [h, firstI_nonneg xs (k + 1)]

set_option maxHeartbeats 4000000 in
theorem indexFuncI (w : World) (a : Option Addr) (cap : Nat) (xs : List Ins) (g : FuncId) (p : Ins → Bool) (hg : ∀ args w, (callFunc g args).run Try.prog w = .ok (.enter g args) w) (hm : xs.length ≤ maxLen) (h : insRep.Els w a xs)
    (hp : ∀ x, x.wf → ∀ w', Calls Try.prog g #[x.V] w' fun e w'' => e = .returned (.bool (p x)) ∧ Below w'.heap.size w' w'') :
    Calls Try.prog 39 #[.slice a xs.length cap, .func (.func g) #[] #[]] w fun e w' => e = .returned (.int .i64 (firstI p 0 xs)) ∧ Below w.heap.size w w' := by
  unfold maxLen at hm
  have HI := Lib.hid h; have HP := Lib.hid hp; clear h hp
  go_enter Try.func39, Try.ntmps39
  go_wp2
  go_loopw [8] (fun i wr => ∃ k : Nat, k ≤ xs.length ∧ i = .int .i64 k ∧ firstI p 0 xs = firstI p k (xs.drop k) ∧ Below w.heap.size w wr) (fun i _ => xs.length - (intOf i).toNat)
  case atStart => exact ⟨0, Nat.zero_le _, rfl, rfl, Below.refl _ _⟩
  case round =>
    obtain ⟨k, hk, rfl, hr, hbel⟩ := hrel
    by_cases hlt : k < xs.length
    · rw [firstI_step hlt] at hr
      obtain ⟨b, off, rfl, hw, x0, x1, x2, x3, x4⟩ := els_ins (HI.out.below insRep hbel (Nat.le_refl _)) hlt
      have hq := HP.out xs[k] hw wr
      unfold Ins.V at hq
      have Hr := Lib.hid hr; clear hr
      cases hv : p xs[k] with
      | true =>
        rw [hv] at hq
        have HQ := Lib.hid hq; have Hv := Lib.hid hv; clear hq hv
        go_wp2_with (refine HQ.out.mono ?_; rintro e w' ⟨rfl, hb1⟩)
        go_ret
        exact ⟨ret_int (by rw [Hr.out, if_pos Hv.out]), bNext hb1 hbel⟩
      | false =>
        rw [hv] at hq
        have HQ := Lib.hid hq; have Hv := Lib.hid hv; clear hq hv
        go_wp2_with (refine HQ.out.mono ?_; rintro e w' ⟨rfl, hb1⟩)
        go_roundw
        case rel => exact ⟨k + 1, by omega, by go_num, by rw [Hr.out, if_neg (by rw [Hv.out]; simp)], bNext hb1 hbel⟩
        case measure => simp [intOf]; omega
    · have Hr := Lib.hid hr; clear hr
      go_wp2
      go_ret
      exact ⟨ret_int (by rw [Hr.out, List.drop_eq_nil_of_le (by omega)]; rfl), hbel⟩

theorem containsFuncI (w : World) (a : Option Addr) (cap : Nat) (xs : List Ins) (g : FuncId) (p : Ins → Bool) (hg : ∀ args w, (callFunc g args).run Try.prog w = .ok (.enter g args) w) (hm : xs.length ≤ maxLen) (h : insRep.Els w a xs)
    (hp : ∀ x, x.wf → ∀ w', Calls Try.prog g #[x.V] w' fun e w'' => e = .returned (.bool (p x)) ∧ Below w'.heap.size w' w'') :
    Calls Try.prog 26 #[.slice a xs.length cap, .func (.func g) #[] #[]] w fun e w' => e = .returned (.bool (xs.any p)) ∧ Below w.heap.size w w' := by
  have hq := Lib.hid (indexFuncI w a cap xs g p hg hm h hp)
  clear hp h
  go_enter Try.func26, Try.ntmps26
  go_wp2_with (go_at_call 39; refine hq.out.mono ?_; rintro e w' ⟨rfl, hb1⟩)
  go_ret
  exact ⟨ret_bool (firstI_nonneg _ _), hb1⟩

theorem unlink1_any (w : World) (x : Ins) (hx : x.wf) : Calls Try.prog 27 #[x.V] w fun e w' => e = .returned (.bool (!x.right)) ∧ Below w.heap.size w w' := by
  obtain ⟨op, a, b, c, imm⟩ := x
  have ho := hx.op
  simp only [] at ho
  have hr := fun o => isaRight_any (w.alloc o) op a b c imm ho.1 ho.2
  have he : Ins.right ⟨op, a, b, c, imm⟩ = insRight op a b c imm := rfl
  rw [he]
  generalize insRight op a b c imm = r at hr
  have HR := Lib.hid hr; clear hr he hx ho
  unfold Ins.V
  simp only []
  go_enter Try.func27, Try.ntmps27
  go_wp2_with fail
  refine (HR.out _).mono ?_
  rintro e w' ⟨rfl, hb⟩
  go_wp2_with fail
  go_ret
  exact ⟨rfl, bAfter ((Below.refl _ _).alloc (Nat.le_refl _) _) (by simp) hb⟩
theorem unlink1_in (args : Array Value) (w : World) : (callFunc 27 args).run Try.prog w = .ok (.enter 27 args) w := callFunc_enter Try.func27 (by kernel_rfl) rfl args w
/-- where an instruction leads -/
def leadsTo (n : Nat) (i : Ins) : Option Nat := if leadsB i.op = true ∧ 0 ≤ i.imm ∧ i.imm < n then some i.imm.toNat else none

set_option maxHeartbeats 4000000 in
theorem unlink2_any (w : World) (x : Ins) (hx : x.wf) (Bc Bo G n c : Nat) (ac : Option Addr) (hn : n ≤ 32768) (hcb : w.cell? ⟨Bc, 0, none⟩ = some (.slice ac n c)) (hob : w.cell? ⟨Bo, 0, none⟩ = some (.slice (some ⟨G, 0, none⟩) n n)) :
    Calls Try.prog 28 #[x.V, .pointer (some ⟨Bc, 0, none⟩), .pointer (some ⟨Bo, 0, none⟩)] w fun e w' => e = .returned (.pointer ((leadsTo n x).map fun k => ⟨G, k * 7, none⟩)) ∧ Below w.heap.size w w' := by
  obtain ⟨op, a, b, c', imm⟩ := x
  have himm := hx.imm.2
  simp only [] at himm
  have hl := fun o => leads_any (w.alloc o) op a b c' imm
  have hb1 := World.block_lt_of_cell? w _ hcb
  have hb2 := World.block_lt_of_cell? w _ hob
  simp only [] at hb1 hb2
  cases hlb : leadsB op with
  | false =>
    have he : leadsTo n ⟨op, a, b, c', imm⟩ = none := by unfold leadsTo; rw [if_neg (by simp [hlb])]
    rw [hlb] at hl
    rw [he]
    have HL := Lib.hid hl; clear hl he hlb
    unfold Ins.V
    simp only []
    go_enter Try.func28, Try.ntmps28
    go_wp2_with fail
    refine (HL.out _).mono ?_
    rintro e w' ⟨rfl, hb⟩
    go_wp2_with fail
    go_ret
    exact ⟨rfl, bAfter ((Below.refl _ _).alloc (Nat.le_refl _) _) (by simp) hb⟩
  | true =>
    rw [hlb] at hl
    have HL := Lib.hid hl; clear hl
    by_cases hi0 : imm < 0
    · have he : leadsTo n ⟨op, a, b, c', imm⟩ = none := by unfold leadsTo; rw [if_neg (by simp; omega)]
      rw [he]
      clear he hlb
      unfold Ins.V
      simp only []
      go_enter Try.func28, Try.ntmps28
      go_wp2_with fail
      refine (HL.out _).mono ?_
      rintro e w' ⟨rfl, hb⟩
      have d4 : w'.cell? ⟨w.heap.size, 4, none⟩ = some (.int .i32 imm) := by rw [hb.cell (p := ⟨w.heap.size, 4, none⟩) (by simp)]; simp [go_sem]
      go_wp2_with fail
      go_ret
      exact ⟨rfl, bAfter ((Below.refl _ _).alloc (Nat.le_refl _) _) (by simp) hb⟩
    · have hi0' : decide (imm < 0) = false := by simpa using hi0
      by_cases hin : imm < n
      · have he : leadsTo n ⟨op, a, b, c', imm⟩ = some imm.toNat := by unfold leadsTo; rw [if_pos ⟨hlb, by simp; omega, by simp; omega⟩]
        rw [he]
        clear he hlb
        obtain ⟨k, hk⟩ := Int.eq_ofNat_of_zero_le (show 0 ≤ imm by omega)
        subst hk
        have hkn : k < n := by omega
        unfold Ins.V
        simp only []
        go_enter Try.func28, Try.ntmps28
        go_wp2_with fail
        refine (HL.out _).mono ?_
        rintro e w' ⟨rfl, hb⟩
        have d4 : w'.cell? ⟨w.heap.size, 4, none⟩ = some (.int .i32 (k : Int)) := by rw [hb.cell (p := ⟨w.heap.size, 4, none⟩) (by simp)]; simp [go_sem]
        have e1 : w'.cell? ⟨Bc, 0, none⟩ = some (.slice ac n c) := (hb.cell (p := ⟨Bc, 0, none⟩) (by simp; omega)).trans ((World.cell?_alloc_lt _ _ _ hb1).trans hcb)
        have e2 : w'.cell? ⟨Bo, 0, none⟩ = some (.slice (some ⟨G, 0, none⟩) n n) := (hb.cell (p := ⟨Bo, 0, none⟩) (by simp; omega)).trans ((World.cell?_alloc_lt _ _ _ hb2).trans hob)
        go_wp2_with fail
        go_ret
        exact ⟨by simp, bAfter ((Below.refl _ _).alloc (Nat.le_refl _) _) (by simp) hb⟩
      · have he : leadsTo n ⟨op, a, b, c', imm⟩ = none := by unfold leadsTo; rw [if_neg (by simp; omega)]
        rw [he]
        clear he hlb
        unfold Ins.V
        simp only []
        go_enter Try.func28, Try.ntmps28
        go_wp2_with fail
        refine (HL.out _).mono ?_
        rintro e w' ⟨rfl, hb⟩
        have d4 : w'.cell? ⟨w.heap.size, 4, none⟩ = some (.int .i32 imm) := by rw [hb.cell (p := ⟨w.heap.size, 4, none⟩) (by simp)]; simp [go_sem]
        have e1 : w'.cell? ⟨Bc, 0, none⟩ = some (.slice ac n c) := (hb.cell (p := ⟨Bc, 0, none⟩) (by simp; omega)).trans ((World.cell?_alloc_lt _ _ _ hb1).trans hcb)
        go_wp2_with fail
        go_ret
        exact ⟨rfl, bAfter ((Below.refl _ _).alloc (Nat.le_refl _) _) (by simp) hb⟩
theorem unlink2_in (args : Array Value) (w : World) : (callFunc 28 args).run Try.prog w = .ok (.enter 28 args) w := callFunc_enter Try.func28 (by kernel_rfl) rfl args w
end Go.Proofs.Ytegjcghcknpjeaa
