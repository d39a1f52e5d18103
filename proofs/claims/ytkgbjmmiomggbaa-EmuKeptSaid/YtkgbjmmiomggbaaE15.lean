import Derived.Test.YtkgbjmmiomggbaaE9
import Derived.Test.YtkgbjmmiomggbaaV7
import Derived.Outline
namespace Go.Proofs.Ytkgbjmmiomggbaa
open Go.RowKit
set_option linter.unusedVariables false
attribute [local go_sem ↓] Go.wp_at_zero Go.wp_at_succ

set_option maxRecDepth 100000 in
set_option maxHeartbeats 8000000 in
/-- what the reference reckons -/
theorem reckoned_any (w : World) (v : Value) (s : St) (op an bn cn imm : Int) (ho : 64 ≤ op) (ho1 : op ≤ 255) (hb0 : 0 ≤ bn) (hb : bn < 16) (hc0 : 0 ≤ cn) (hc : cn < 16) (hl : s.regs.length = 16) (hs : ∀ x ∈ s.regs, In64 x) :
    Calls Try.prog 30 #[.agg #[.int .u8 op, .int .u8 an, .int .u8 bn, .int .u8 cn, .int .i32 imm], .agg (cellsSt v s).toArray] w fun e w' => e = .returned (.tuple #[.int .i64 (reckS ⟨op, an, bn, cn, imm⟩ s).1, .int .i64 (reckS ⟨op, an, bn, cn, imm⟩ s).2]) ∧ Below w.heap.size w w' := by
  obtain ⟨bn, rfl⟩ := Int.eq_ofNat_of_zero_le hb0
  obtain ⟨cn, rfl⟩ := Int.eq_ofNat_of_zero_le hc0
  have hbbn : bn < 16 := by omega
  have hbcn : cn < 16 := by omega
  have hz1 : (0 : Int) ≤ (bn : Int) := by omega
  have hz2 : (0 : Int) ≤ (cn : Int) := by omega
  have rb := R_in hs (bn : Int)
  have rc := R_in hs (cn : Int)
  obtain ⟨x, hx⟩ : ∃ x, s.R (bn : Int) = x := ⟨_, rfl⟩
  obtain ⟨y, hy⟩ : ∃ y, s.R (cn : Int) = y := ⟨_, rfl⟩
  rw [hx] at rb
  rw [hy] at rc
  have hnew := StB.new (w.alloc (.cells #[.int .u8 op, .int .u8 an, .int .u8 (bn : Int), .int .u8 (cn : Int), .int .i32 imm] 42)) v s 26 hl
  have hrow : ((w.alloc (.cells #[.int .u8 op, .int .u8 an, .int .u8 (bn : Int), .int .u8 (cn : Int), .int .i32 imm] 42)).alloc (.cells (cellsSt v s).toArray 26)).heap[w.heap.size]? = some (.cells #[.int .u8 op, .int .u8 an, .int .u8 (bn : Int), .int .u8 (cn : Int), .int .i32 imm] 42 (0, 0)) := block_alloc (World.alloc_heap_new w _) _
  have hbel : Below w.heap.size w ((w.alloc (.cells #[.int .u8 op, .int .u8 an, .int .u8 (bn : Int), .int .u8 (cn : Int), .int .i32 imm] 42)).alloc (.cells (cellsSt v s).toArray 26)) := ((Below.refl _ _).alloc (Nat.le_refl _) _).alloc (by simp) _
  rw [show (w.alloc (.cells #[.int .u8 op, .int .u8 an, .int .u8 (bn : Int), .int .u8 (cn : Int), .int .i32 imm] 42)).heap.size = w.heap.size + 1 from by simp] at hnew
  have HN := Lib.hid hnew; have HRO := Lib.hid hrow; have HB := Lib.hid hbel
  clear hnew hrow hbel
  by_cases h2 : 128 ≤ op
  · obtain ⟨m, e0, hd⟩ : ∃ m e0, dyadF (op - 128) x y = (m, e0) := ⟨_, _, rfl⟩
    have hq := fun W => rdyad_at W (op - 128) x y m e0 rb rc hd
    have hcs : reckS ⟨op, an, (bn : Int), (cn : Int), imm⟩ s = (m, e0) := by unfold reckS; dsimp only; rw [if_pos h2, hx, hy, hd]
    rw [hcs]
    have HQ := Lib.hid hq; have HX := Lib.hid hx; have HY := Lib.hid hy
    clear hq hcs hx hy hd rb rc hs
    go_enter Try.func30, Try.ntmps30
    go_upto_region 1 with fail
    refine gen_world (fun W => Below w.heap.size w W ∧ W.heap[w.heap.size]? = some (.cells #[.int .u8 op, .int .u8 an, .int .u8 (bn : Int), .int .u8 (cn : Int), .int .i32 imm] 42 (0, 0)) ∧ StB W (w.heap.size + 1) 26 v [] s) ⟨HB.out, HRO.out, HN.out⟩ ?_
    rintro W ⟨hb1, hi, hst⟩
    have cb := hst.reg hbbn
    have cc := hst.reg hbcn
    rw [HX.out] at cb
    rw [HY.out] at cc
    have hic := fun j => cell_of_row W w.heap.size j _ _ _ hi
    have i0 := hic 0; have i2 := hic 2; have i3 := hic 3
    simp only [List.getElem?_toArray, List.getElem?_cons_succ, List.getElem?_cons_zero] at i0 i2 i3
    have HB1 := Lib.hid hb1
    clear hic hi hst hb1
    go_wp2_with fail
    go_quiet ((exact Calls.quiet_of (HQ.out _)))
    go_wp2_with fail
    go_ret2
    exact ⟨rfl, HB1.out.trans (Below.drewN _ _)⟩
  · have h2' : decide (128 ≤ op) = false := by simpa using h2
    obtain ⟨m, e0, hd⟩ : ∃ m e0, monadF (op - 64) x = (m, e0) := ⟨_, _, rfl⟩
    have hq := fun W => rmonad_at W (op - 64) x m e0 rb hd
    have hcs : reckS ⟨op, an, (bn : Int), (cn : Int), imm⟩ s = (m, e0) := by unfold reckS; dsimp only; rw [if_neg h2, hx, hd]
    rw [hcs]
    have HQ := Lib.hid hq; have HX := Lib.hid hx; have HY := Lib.hid hy
    clear hq hcs hx hy hd rb rc hs
    go_enter Try.func30, Try.ntmps30
    go_upto_region 1 with fail
    refine gen_world (fun W => Below w.heap.size w W ∧ W.heap[w.heap.size]? = some (.cells #[.int .u8 op, .int .u8 an, .int .u8 (bn : Int), .int .u8 (cn : Int), .int .i32 imm] 42 (0, 0)) ∧ StB W (w.heap.size + 1) 26 v [] s) ⟨HB.out, HRO.out, HN.out⟩ ?_
    rintro W ⟨hb1, hi, hst⟩
    have cb := hst.reg hbbn
    rw [HX.out] at cb
    have hic := fun j => cell_of_row W w.heap.size j _ _ _ hi
    have i0 := hic 0; have i2 := hic 2
    simp only [List.getElem?_toArray, List.getElem?_cons_succ, List.getElem?_cons_zero] at i0 i2
    have HB1 := Lib.hid hb1
    clear hic hi hst hb1
    go_wp2_with fail
    go_quiet ((exact Calls.quiet_of (HQ.out _)))
    go_wp2_with fail
    go_ret2
    exact ⟨rfl, HB1.out.trans (Below.drewN _ _)⟩
end Go.Proofs.Ytkgbjmmiomggbaa
