import Derived.Test.YtkgbjmmiomggbaaE21
import Derived.Laws.StructEq
namespace Go.Proofs.Ytkgbjmmiomggbaa
open Go.RowKit
set_option linter.unusedVariables false
attribute [local go_sem ↓] Go.wp_at_zero Go.wp_at_succ

theorem StB.rangeR {w : World} {g : Nat} {t : TypeId} {v : Value} {more : List Value} {s : St} (h : StB w g t v more s) : w.rangeAt g 0 (s.regs.map (Value.int .i64)) := fun j u hj => by
  have hlt := (List.getElem?_eq_some_iff.1 hj).1
  rw [List.length_map, h.2] at hlt
  rw [Nat.zero_add, h.reg hlt, ← hj, List.getElem?_map, List.getElem?_eq_getElem (by rw [h.2]; exact hlt)]
  unfold St.R
  simp [List.getD_eq_getElem?_getD, List.getElem?_eq_getElem (show j < s.regs.length by rw [h.2]; exact hlt)]
theorem Try.size16 : (Try.prog.info? 23).map (·.size) = some 16 := by kernel_rfl
set_option maxRecDepth 100000 in
set_option maxHeartbeats 4000000 in
theorem eq16 (W : World) (r0 r1 r2 r3 r4 r5 r6 r7 r8 r9 r10 r11 r12 r13 r14 r15 : Int) : (Op.equalIn 10000 23 (.agg #[.int .i64 r0, .int .i64 r1, .int .i64 r2, .int .i64 r3, .int .i64 r4, .int .i64 r5, .int .i64 r6, .int .i64 r7, .int .i64 r8, .int .i64 r9, .int .i64 r10, .int .i64 r11, .int .i64 r12, .int .i64 r13, .int .i64 r14, .int .i64 r15]) (.agg #[.int .i64 r0, .int .i64 r1, .int .i64 r2, .int .i64 r3, .int .i64 r4, .int .i64 r5, .int .i64 r6, .int .i64 r7, .int .i64 r8, .int .i64 r9, .int .i64 r10, .int .i64 r11, .int .i64 r12, .int .i64 r13, .int .i64 r14, .int .i64 r15])).run Try.prog W = .ok true W := by
  have u2 := Try.underlying2
  have a2 := Try.isAgg2
  have z2 := Try.sizeOf2
  rw [show (10000 : Nat) = 9999 + 1 from rfl, Op.equalIn]
  simp only [Sem.run_bind, run_underlying Try.underlying23, Result.andThen_ok]
  simp only [Std.Legacy.Range.forIn_eq_forIn_range', Std.Legacy.Range.size, Nat.sub_zero, Nat.add_sub_cancel, Nat.div_one, List.range'_succ, List.range'_zero, List.forIn_cons, List.forIn_nil]
  go_simp
theorem neq16 (W : World) (l : List Int) (hl : l.length = 16) : (binOp .neq 23 (.agg (l.map (Value.int .i64)).toArray) (.agg (l.map (Value.int .i64)).toArray)).run Try.prog W = .ok (.bool false) W := by
  match l, hl with
  | [r0, r1, r2, r3, r4, r5, r6, r7, r8, r9, r10, r11, r12, r13, r14, r15], _ =>
    rw [run_neq_struct]
    simp only [List.map_cons, List.map_nil, eq16, Result.andThen_ok, Bool.not_true]

set_option maxRecDepth 100000 in
set_option maxHeartbeats 8000000 in
/-- equal states are told so -/
theorem same_any (w : World) (a b : Option Addr) (c d : Nat) (s : St) (hl : s.regs.length = 16) (hm : s.mem.length ≤ 9223372036854775806) (hx : IntsAt .i64 w a s.mem) (hy : IntsAt .i64 w b s.mem) :
    Calls Try.prog 14 #[.agg (cellsSt (.slice a s.mem.length c) s).toArray, .agg (cellsSt (.slice b s.mem.length d) s).toArray] w fun e w' => e = .returned (.bool true) ∧ Below w.heap.size w w' := by
  have h0 := StB.new w (.slice a s.mem.length c) s 26 hl
  have h1 := StB.new (w.alloc (.cells (cellsSt (.slice a s.mem.length c) s).toArray 26)) (.slice b s.mem.length d) s 26 hl
  have hb : Below w.heap.size w ((w.alloc (.cells (cellsSt (.slice a s.mem.length c) s).toArray 26)).alloc (.cells (cellsSt (.slice b s.mem.length d) s).toArray 26)) := ((Below.refl _ _).alloc (Nat.le_refl _) _).alloc (by simp) _
  have h0' := h0.alloc (.cells (cellsSt (.slice b s.mem.length d) s).toArray 26)
  rw [show (w.alloc (.cells (cellsSt (.slice a s.mem.length c) s).toArray 26)).heap.size = w.heap.size + 1 from by simp] at h1
  obtain ⟨xb, hxb⟩ : ∃ xb, w.heap.size = xb := ⟨_, rfl⟩
  rw [hxb] at h0' h1
  have H0 := Lib.hid h0'; have H1 := Lib.hid h1; have HB := Lib.hid hb; have HX := Lib.hid hx; have HY := Lib.hid hy; have HL := Lib.hid hl; have Hxb := Lib.hid hxb
  clear h0 h1 hb h0' hx hy hl
  go_enter Try.func14, Try.ntmps14
  go_upto_region 1 with fail
  refine gen_world (fun W => Below w.heap.size w W ∧ StB W xb 26 (.slice a s.mem.length c) [] s ∧ StB W (xb + 1) 26 (.slice b s.mem.length d) [] s) ⟨HB.out, H0.out, H1.out⟩ ?_
  rintro W ⟨hbW, g0, g1⟩
  have c16 := g0.memv; have c17 := g0.pc; have c18 := g0.fin; have c19 := g0.told
  have d16 := g1.memv; have d17 := g1.pc; have d18 := g1.fin; have d19 := g1.told
  have hne := fun W => neq16 W s.regs HL.out
  have HBW := Lib.hid hbW; have R0 := Lib.hid g0.rangeR; have R1 := Lib.hid g1.rangeR
  clear hbW g0 g1 H0 H1 HB hxb
  go_wp2_with (first
    | ((with_reducible show wpList _ _ _ ({ dst := some _, op := Op.load 23 (.tmp 6), type := _, pos := _, after := _, guard := _ } :: _) _ _); (refine wpList_load_mid rfl 23 _ rfl xb 0 rfl (s.regs.map (Value.int .i64)) _ R0.out Try.underlying23 rfl (by rw [Try.size16, List.length_map, HL.out]) ?_))
    | ((with_reducible show wpList _ _ _ ({ dst := some _, op := Op.load 23 (.tmp 8), type := _, pos := _, after := _, guard := _ } :: _) _ _); (refine wpList_load_mid rfl 23 _ rfl (xb + 1) 0 rfl (s.regs.map (Value.int .i64)) _ R1.out Try.underlying23 rfl (by rw [Try.size16, List.length_map, HL.out]) ?_)))
  clear hne
  go_loopw [5] (fun i wr => ∃ (k n : Nat), k ≤ s.mem.length ∧ i = .int .i64 k ∧ wr = W.drewN n) (fun i _ => s.mem.length - (intOf i).toNat)
  case atStart => exact ⟨0, 0, Nat.zero_le _, rfl, rfl⟩
  case round =>
    obtain ⟨k, n, hk, rfl, rfl⟩ := hrel
    by_cases hlt : k < s.mem.length
    · obtain ⟨b0, off, rfl, x0⟩ := (HX.out.below HBW.out (Nat.le_refl _)) k hlt
      obtain ⟨b2, off2, rfl, y0⟩ := (HY.out.below HBW.out (Nat.le_refl _)) k hlt
      have hz0 : (0 : Int) ≤ (k : Int) := by omega
      have hz1 : (k : Int) < (s.mem.length : Int) := by omega
      go_wp2_with fail
      go_quiet (fail)
      go_wp2_with fail
      go_roundw
      case rel => exact ⟨k + 1, _, by omega, by go_num, rfl⟩
      case measure => simp [intOf]; omega
    · go_wp2_with fail
      go_ret
      exact ⟨rfl, HBW.out.trans (Below.drewN _ _)⟩
end Go.Proofs.Ytkgbjmmiomggbaa
