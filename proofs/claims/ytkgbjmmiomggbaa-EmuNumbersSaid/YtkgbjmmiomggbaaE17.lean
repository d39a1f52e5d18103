import Derived.Test.YtkgbjmmiomggbaaE9
import Derived.Outline
namespace Go.Proofs.Ytkgbjmmiomggbaa
open Go.RowKit
set_option linter.unusedVariables false
attribute [local go_sem ↓] Go.wp_at_zero Go.wp_at_succ

set_option maxRecDepth 100000 in
set_option maxHeartbeats 16000000 in
theorem rstep_neg (w : World) (B : Nat) (am : Option Addr) (cm : Nat) (ca : Option Addr) (cc : Nat) (code : List Ins) (s : St) (hwf : s.wf) (hm : MemR B w (.slice am s.mem.length cm) s.mem) (hlen : code.length ≤ 9223372036854775807) (hz0 : s.pc < 0) :
    Calls Try.prog 21 #[.slice ca code.length cc, .agg (cellsSt (.slice am s.mem.length cm) s).toArray] w (ROut B am cm s.mem.length w { s with fin := 5 }) := by
  have hst := fun c2 hc2 => RIn.start (c := c2) (ca := none) (code := []) hwf.len hm (fun i hi => absurd hi (by simp)) hc2
  obtain ⟨xb, hxb⟩ : ∃ xb, w.heap.size = xb := ⟨_, rfl⟩
  rw [hxb] at hst
  have HCB := Lib.hid (show ∀ b o, (none : Option Addr) = some ⟨b, o, none⟩ → b ≠ xb from fun b o e => by cases e)
  have HST := Lib.hid hst; have Hwf := Lib.hid hwf; have Hxb := Lib.hid hxb
  clear hst hwf hm hxb
  go_enter Try.func21, Try.ntmps21
  go_upto_region 1 with fail
  rw [Hxb.out]
  refine gen_world (fun W => RIn w W xb (xb + 1) B am cm none [] s.mem.length s) (HST.out _ (by rfl)) ?_
  intro W hW
  have c17 := hW.st.pc
  have c18 := hW.st.fin
  have f18 := hW.st.frozen 18
  have H3 := Lib.hid hW; clear hW HST
  go_upto_region 3 with fail
  obtain ⟨S1, hS1⟩ : ∃ S1 : St, S1 = { s with fin := 5 } := ⟨_, rfl⟩
  refine gen_world (fun W => RIn w W xb (xb + 1) B am cm none [] s.mem.length S1) (by rw [hS1]; exact (H3.out.setFin HCB.out _)) ?_
  intro W4 h4
  have HS1 := Lib.hid hS1; clear hS1
  have hrow := h4.row
  obtain ⟨c', hc', hres⟩ := h4.res
  have hl4 := h4.st.2
  have HRW := Lib.hid hrow; have HRS := Lib.hid hres; have H4 := Lib.hid h4; have HC4 := Lib.hid hc'; have HL4 := Lib.hid hl4
  clear hrow hres h4 hc' hl4 c17 c18 f18
  go_wp2_with (first
    | ((with_reducible show wpList _ _ _ ({ dst := some _, op := Op.load 26 (.tmp 3), type := _, pos := _, after := _, guard := _ } :: _) _ _); (refine wpList_load_row rfl 26 _ rfl xb rfl 26 _ (0, 0) _ HRW.out Try.underlying26 rfl (by rw [Try.sizeSt, List.size_toArray, cellsSt_len HL4.out]) ?_))
    | ((with_reducible show wpList _ _ _ ({ dst := none, op := Op.store 26 (.tmp 4) (.tmp _), type := _, pos := _, after := _, guard := _ } :: _) _ _); (refine wpList_store_whole rfl 26 _ _ rfl (xb + 1) rfl c' _ rfl 26 HRS.out (by rw [Try.sizeSt, List.size_toArray, cellsSt_len HL4.out]) (by rw [HC4.out, List.size_toArray, cellsSt_len HL4.out]) (by simpa using cellsSt_one rfl _) ?_); intro w' hr5 hg5))
  obtain ⟨o1, o2⟩ := H4.out.out hg5
  refine bodyPost_ret (v := .agg (cellsSt (.slice am s.mem.length cm) S1).toArray) (results_cell_row rfl _ _ (xb + 1) 26 _ (0, 0) _ rfl hr5 Try.underlying26 rfl (by rw [Try.sizeSt, List.size_toArray, cellsSt_len HL4.out])) rfl ?_
  rw [← HS1.out]
  exact ⟨rfl, o1, o2⟩

set_option maxRecDepth 100000 in
set_option maxHeartbeats 16000000 in
theorem rstep_over (w : World) (B : Nat) (am : Option Addr) (cm : Nat) (ca : Option Addr) (cc : Nat) (code : List Ins) (s : St) (hwf : s.wf) (hm : MemR B w (.slice am s.mem.length cm) s.mem) (hlen : code.length ≤ 9223372036854775807) (hz0 : 0 ≤ s.pc) (hz1 : (code.length : Int) ≤ s.pc) :
    Calls Try.prog 21 #[.slice ca code.length cc, .agg (cellsSt (.slice am s.mem.length cm) s).toArray] w (ROut B am cm s.mem.length w { s with fin := 5 }) := by
  have hst := fun c2 hc2 => RIn.start (c := c2) (ca := none) (code := []) hwf.len hm (fun i hi => absurd hi (by simp)) hc2
  obtain ⟨xb, hxb⟩ : ∃ xb, w.heap.size = xb := ⟨_, rfl⟩
  rw [hxb] at hst
  have HCB := Lib.hid (show ∀ b o, (none : Option Addr) = some ⟨b, o, none⟩ → b ≠ xb from fun b o e => by cases e)
  have HST := Lib.hid hst; have Hwf := Lib.hid hwf; have Hxb := Lib.hid hxb
  clear hst hwf hm hxb
  go_enter Try.func21, Try.ntmps21
  go_upto_region 1 with fail
  rw [Hxb.out]
  refine gen_world (fun W => RIn w W xb (xb + 1) B am cm none [] s.mem.length s) (HST.out _ (by rfl)) ?_
  intro W hW
  have c17 := hW.st.pc
  have c18 := hW.st.fin
  have f18 := hW.st.frozen 18
  have H3 := Lib.hid hW; clear hW HST
  go_upto_region 3 with fail
  obtain ⟨S1, hS1⟩ : ∃ S1 : St, S1 = { s with fin := 5 } := ⟨_, rfl⟩
  refine gen_world (fun W => RIn w W xb (xb + 1) B am cm none [] s.mem.length S1) (by rw [hS1]; exact (H3.out.setFin HCB.out _)) ?_
  intro W4 h4
  have HS1 := Lib.hid hS1; clear hS1
  have hrow := h4.row
  obtain ⟨c', hc', hres⟩ := h4.res
  have hl4 := h4.st.2
  have HRW := Lib.hid hrow; have HRS := Lib.hid hres; have H4 := Lib.hid h4; have HC4 := Lib.hid hc'; have HL4 := Lib.hid hl4
  clear hrow hres h4 hc' hl4 c17 c18 f18
  go_wp2_with (first
    | ((with_reducible show wpList _ _ _ ({ dst := some _, op := Op.load 26 (.tmp 3), type := _, pos := _, after := _, guard := _ } :: _) _ _); (refine wpList_load_row rfl 26 _ rfl xb rfl 26 _ (0, 0) _ HRW.out Try.underlying26 rfl (by rw [Try.sizeSt, List.size_toArray, cellsSt_len HL4.out]) ?_))
    | ((with_reducible show wpList _ _ _ ({ dst := none, op := Op.store 26 (.tmp 4) (.tmp _), type := _, pos := _, after := _, guard := _ } :: _) _ _); (refine wpList_store_whole rfl 26 _ _ rfl (xb + 1) rfl c' _ rfl 26 HRS.out (by rw [Try.sizeSt, List.size_toArray, cellsSt_len HL4.out]) (by rw [HC4.out, List.size_toArray, cellsSt_len HL4.out]) (by simpa using cellsSt_one rfl _) ?_); intro w' hr5 hg5))
  obtain ⟨o1, o2⟩ := H4.out.out hg5
  refine bodyPost_ret (v := .agg (cellsSt (.slice am s.mem.length cm) S1).toArray) (results_cell_row rfl _ _ (xb + 1) 26 _ (0, 0) _ rfl hr5 Try.underlying26 rfl (by rw [Try.sizeSt, List.size_toArray, cellsSt_len HL4.out])) rfl ?_
  rw [← HS1.out]
  exact ⟨rfl, o1, o2⟩

set_option maxRecDepth 100000 in
set_option maxHeartbeats 16000000 in
theorem rstep_bad (w : World) (B : Nat) (am : Option Addr) (cm : Nat) (ca : Option Addr) (cc : Nat) (code : List Ins) (s : St) (hwf : s.wf) (hm : MemR B w (.slice am s.mem.length cm) s.mem) (hlen : code.length ≤ 9223372036854775807) (he : insRep.Els w ca code) (i : Ins) (k : Nat) (hlt : k < code.length) (hpc : s.pc = (k : Int)) (hat : code[k] = i) (hr : i.right = false) :
    Calls Try.prog 21 #[.slice ca code.length cc, .agg (cellsSt (.slice am s.mem.length cm) s).toArray] w (ROut B am cm s.mem.length w { s with fin := 5 }) := by
  obtain ⟨op, a, b, c, imm⟩ := i
  have hst := fun c2 hc2 => RIn.start (c := c2) hwf.len hm he hc2
  obtain ⟨bb, off, rfl, hw, x0, -⟩ := els_ins he hlt
  have hbl := World.block_lt_of_cell? _ _ x0
  rw [hat] at hw
  have hz0 : (0 : Int) ≤ (k : Int) := by omega
  have hz1 : (k : Int) < (code.length : Int) := by omega
  have hz4 : decide ((code.length : Int) ≤ (k : Int)) = false := by simp; omega
  have hq := fun W => rRight_any W op a b c imm hw.op.1 hw.op.2
  rw [show insRight op a b c imm = false from hr] at hq
  obtain ⟨xb, hxb⟩ : ∃ xb, w.heap.size = xb := ⟨_, rfl⟩
  rw [hxb] at hst hbl
  have HST := Lib.hid hst; have HQ := Lib.hid hq; have Hpc := Lib.hid hpc; have Hat := Lib.hid hat; have Hwf := Lib.hid hwf; have Hxb := Lib.hid hxb
  have hcb : ∀ b o, (some ⟨bb, off, none⟩ : Option Addr) = some ⟨b, o, none⟩ → b ≠ xb := fun b o e => by cases e; dsimp only at hbl; omega
  have HCB := Lib.hid hcb
  clear hst hq hpc hat hw x0 hr hwf hm he hcb hxb
  go_enter Try.func21, Try.ntmps21
  go_upto_region 1 with fail
  rw [Hxb.out]
  refine gen_world (fun W => RIn w W xb (xb + 1) B am cm (some ⟨bb, off, none⟩) code s.mem.length s) (HST.out _ (by rfl)) ?_
  intro W hW
  have c17 := hW.st.pc
  rw [Hpc.out] at c17
  obtain ⟨bb', off', e', -, x0, x1, x2, x3, x4⟩ := els_ins hW.codeE hlt
  cases e'
  rw [Hat.out] at x0 x1 x2 x3 x4
  dsimp only at x0 x1 x2 x3 x4
  have H0 := Lib.hid hW; clear hW
  go_wp2_with fail
  refine (HQ.out _).mono ?_
  rintro e W1 ⟨rfl, hb1⟩
  have hW1 := H0.out.below hb1
  clear c17 x0 x1 x2 x3 x4
  have c18 := hW1.st.fin
  have f18 := hW1.st.frozen 18
  have H3 := Lib.hid hW1
  clear hb1 hW1 H0 HQ HST
  go_upto_region 3 with fail
  obtain ⟨S1, hS1⟩ : ∃ S1 : St, S1 = { s with fin := 5 } := ⟨_, rfl⟩
  refine gen_world (fun W => RIn w W xb (xb + 1) B am cm (some ⟨bb, off, none⟩) code s.mem.length S1) (by rw [hS1]; exact (H3.out.setFin HCB.out _)) ?_
  intro W4 h4
  have HS1 := Lib.hid hS1; clear hS1
  have hrow := h4.row
  obtain ⟨c', hc', hres⟩ := h4.res
  have hl4 := h4.st.2
  have HRW := Lib.hid hrow; have HRS := Lib.hid hres; have H4 := Lib.hid h4; have HC4 := Lib.hid hc'; have HL4 := Lib.hid hl4
  clear hrow hres h4 hc' hl4 c18 f18
  go_wp2_with (first
    | ((with_reducible show wpList _ _ _ ({ dst := some _, op := Op.load 26 (.tmp 3), type := _, pos := _, after := _, guard := _ } :: _) _ _); (refine wpList_load_row rfl 26 _ rfl xb rfl 26 _ (0, 0) _ HRW.out Try.underlying26 rfl (by rw [Try.sizeSt, List.size_toArray, cellsSt_len HL4.out]) ?_))
    | ((with_reducible show wpList _ _ _ ({ dst := none, op := Op.store 26 (.tmp 4) (.tmp _), type := _, pos := _, after := _, guard := _ } :: _) _ _); (refine wpList_store_whole rfl 26 _ _ rfl (xb + 1) rfl c' _ rfl 26 HRS.out (by rw [Try.sizeSt, List.size_toArray, cellsSt_len HL4.out]) (by rw [HC4.out, List.size_toArray, cellsSt_len HL4.out]) (by simpa using cellsSt_one rfl _) ?_); intro w' hr5 hg5))
  obtain ⟨o1, o2⟩ := H4.out.out hg5
  refine bodyPost_ret (v := .agg (cellsSt (.slice am s.mem.length cm) S1).toArray) (results_cell_row rfl _ _ (xb + 1) 26 _ (0, 0) _ rfl hr5 Try.underlying26 rfl (by rw [Try.sizeSt, List.size_toArray, cellsSt_len HL4.out])) rfl ?_
  rw [← HS1.out]
  exact ⟨rfl, o1, o2⟩
end Go.Proofs.Ytkgbjmmiomggbaa
