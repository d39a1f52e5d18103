import Derived.Test.YtegjcghcknpjeaaP3
import Derived.Test.YtegjcghcknpjeaaCF
namespace Go.Proofs.Ytegjcghcknpjeaa
open Go.RowKit
set_option linter.unusedVariables false

theorem unlink1_any (w : World) (x : Ins) (hx : x.wf) : Calls Try.prog 27 #[x.V] w fun e w' => e = .returned (.bool (!x.right)) ∧ Below w.heap.size w w' := by
  obtain ⟨op, a, b, c, imm⟩ := x
  have ho := hx.op
  simp only [] at ho
  have hr := fun o => isaRight_any (w.alloc o) op a b c imm ho.1 ho.2
  have he : Ins.right ⟨op, a, b, c, imm⟩ = insRight op a b c imm := rfl
  rw [he]
  generalize insRight op a b c imm = r at hr
  have HR := Lib.hid hr; clear hr he hx ho
  unfold Ins.V
  simp only []
  go_enter Try.func27, Try.ntmps27
  go_wp2_with fail
  refine (HR.out _).mono ?_
  rintro e w' ⟨rfl, hb⟩
  go_wp2_with fail
  go_ret
  exact ⟨rfl, bAfter ((Below.refl _ _).alloc (Nat.le_refl _) _) (by simp) hb⟩
theorem unlink1_in (args : Array Value) (w : World) : (callFunc 27 args).run Try.prog w = .ok (.enter 27 args) w := callFunc_enter Try.func27 (by kernel_rfl) rfl args w
/-- where an instruction leads -/
def leadsTo (n : Nat) (i : Ins) : Option Nat := if leadsB i.op = true ∧ 0 ≤ i.imm ∧ i.imm < n then some i.imm.toNat else none

set_option maxHeartbeats 4000000 in
theorem unlink2_any (w : World) (x : Ins) (hx : x.wf) (Bc Bo G n c : Nat) (ac : Option Addr) (hn : n ≤ 32768) (hcb : w.cell? ⟨Bc, 0, none⟩ = some (.slice ac n c)) (hob : w.cell? ⟨Bo, 0, none⟩ = some (.slice (some ⟨G, 0, none⟩) n n)) :
    Calls Try.prog 28 #[x.V, .pointer (some ⟨Bc, 0, none⟩), .pointer (some ⟨Bo, 0, none⟩)] w fun e w' => e = .returned (.pointer ((leadsTo n x).map fun k => ⟨G, k * 7, none⟩)) ∧ Below w.heap.size w w' := by
  obtain ⟨op, a, b, c', imm⟩ := x
  have himm := hx.imm.2
  simp only [] at himm
  have hl := fun o => leads_any (w.alloc o) op a b c' imm
  have hb1 := World.block_lt_of_cell? w _ hcb
  have hb2 := World.block_lt_of_cell? w _ hob
  simp only [] at hb1 hb2
  cases hlb : leadsB op with
  | false =>
    have he : leadsTo n ⟨op, a, b, c', imm⟩ = none := by unfold leadsTo; rw [if_neg (by simp [hlb])]
    rw [hlb] at hl
    rw [he]
    have HL := Lib.hid hl; clear hl he hlb
    unfold Ins.V
    simp only []
    go_enter Try.func28, Try.ntmps28
    go_wp2_with fail
    refine (HL.out _).mono ?_
    rintro e w' ⟨rfl, hb⟩
    go_wp2_with fail
    go_ret
    exact ⟨rfl, bAfter ((Below.refl _ _).alloc (Nat.le_refl _) _) (by simp) hb⟩
  | true =>
    rw [hlb] at hl
    have HL := Lib.hid hl; clear hl
    by_cases hi0 : imm < 0
    · have he : leadsTo n ⟨op, a, b, c', imm⟩ = none := by unfold leadsTo; rw [if_neg (by simp; omega)]
      rw [he]
      clear he hlb
      unfold Ins.V
      simp only []
      go_enter Try.func28, Try.ntmps28
      go_wp2_with fail
      refine (HL.out _).mono ?_
      rintro e w' ⟨rfl, hb⟩
      have d4 : w'.cell? ⟨w.heap.size, 4, none⟩ = some (.int .i32 imm) := by rw [hb.cell (p := ⟨w.heap.size, 4, none⟩) (by simp)]; simp [go_sem]
      go_wp2_with fail
      go_ret
      exact ⟨rfl, bAfter ((Below.refl _ _).alloc (Nat.le_refl _) _) (by simp) hb⟩
    · have hi0' : decide (imm < 0) = false := by simpa using hi0
      by_cases hin : imm < n
      · have he : leadsTo n ⟨op, a, b, c', imm⟩ = some imm.toNat := by unfold leadsTo; rw [if_pos ⟨hlb, by simp; omega, by simp; omega⟩]
        rw [he]
        clear he hlb
        obtain ⟨k, hk⟩ := Int.eq_ofNat_of_zero_le (show 0 ≤ imm by omega)
        subst hk
        have hkn : k < n := by omega
        unfold Ins.V
        simp only []
        go_enter Try.func28, Try.ntmps28
        go_wp2_with fail
        refine (HL.out _).mono ?_
        rintro e w' ⟨rfl, hb⟩
        have d4 : w'.cell? ⟨w.heap.size, 4, none⟩ = some (.int .i32 (k : Int)) := by rw [hb.cell (p := ⟨w.heap.size, 4, none⟩) (by simp)]; simp [go_sem]
        have e1 : w'.cell? ⟨Bc, 0, none⟩ = some (.slice ac n c) := (hb.cell (p := ⟨Bc, 0, none⟩) (by simp; omega)).trans ((World.cell?_alloc_lt _ _ _ hb1).trans hcb)
        have e2 : w'.cell? ⟨Bo, 0, none⟩ = some (.slice (some ⟨G, 0, none⟩) n n) := (hb.cell (p := ⟨Bo, 0, none⟩) (by simp; omega)).trans ((World.cell?_alloc_lt _ _ _ hb2).trans hob)
        go_wp2_with fail
        go_ret
        exact ⟨by simp, bAfter ((Below.refl _ _).alloc (Nat.le_refl _) _) (by simp) hb⟩
      · have he : leadsTo n ⟨op, a, b, c', imm⟩ = none := by unfold leadsTo; rw [if_neg (by simp; omega)]
        rw [he]
        clear he hlb
        unfold Ins.V
        simp only []
        go_enter Try.func28, Try.ntmps28
        go_wp2_with fail
        refine (HL.out _).mono ?_
        rintro e w' ⟨rfl, hb⟩
        have d4 : w'.cell? ⟨w.heap.size, 4, none⟩ = some (.int .i32 imm) := by rw [hb.cell (p := ⟨w.heap.size, 4, none⟩) (by simp)]; simp [go_sem]
        have e1 : w'.cell? ⟨Bc, 0, none⟩ = some (.slice ac n c) := (hb.cell (p := ⟨Bc, 0, none⟩) (by simp; omega)).trans ((World.cell?_alloc_lt _ _ _ hb1).trans hcb)
        go_wp2_with fail
        go_ret
        exact ⟨rfl, bAfter ((Below.refl _ _).alloc (Nat.le_refl _) _) (by simp) hb⟩
theorem unlink2_in (args : Array Value) (w : World) : (callFunc 28 args).run Try.prog w = .ok (.enter 28 args) w := callFunc_enter Try.func28 (by kernel_rfl) rfl args w
end Go.Proofs.Ytegjcghcknpjeaa
