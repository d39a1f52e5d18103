import Derived.Test.YtkgbjmmiomggbaaE15
import Derived.Outline
namespace Go.Proofs.Ytkgbjmmiomggbaa
open Go.RowKit
set_option linter.unusedVariables false
attribute [local go_sem ↓] Go.wp_at_zero Go.wp_at_succ

set_option maxRecDepth 100000 in
set_option maxHeartbeats 16000000 in
theorem rstep_calla (w : World) (B : Nat) (am : Option Addr) (cm : Nat) (ca : Option Addr) (cc : Nat) (code : List Ins) (s : St) (hwf : s.wf) (hm : MemR B w (.slice am s.mem.length cm) s.mem) (he : insRep.Els w ca code) (hlen : code.length ≤ 9223372036854775807) (i : Ins) (k : Nat) (hi : At i k code s) (hr : i.right = true) (hcB : ∀ b off, ca = some ⟨b, off, none⟩ → b < B) (ho : 64 ≤ i.op) (m : Int) (hl : reckS i s = (m, 0)) :
    Calls Try.prog 21 #[.slice ca code.length cc, .agg (cellsSt (.slice am s.mem.length cm) s).toArray] w (ROut B am cm s.mem.length w { s.setR i.a m with pc := (k : Int) + 1 }) := by
  obtain ⟨hlt, hpc, hat, hop, ha, hb, hc⟩ := hi
  obtain ⟨op, a, b, c, imm⟩ := i
  dsimp only at ho ha hb hc hop hl ⊢
  have hst := fun c2 hc2 => RIn.start (c := c2) hwf.len hm he hc2
  obtain ⟨bb, off, rfl, hw, x0, -⟩ := els_ins he hlt
  have hbl := World.block_lt_of_cell? _ _ x0
  rw [hat] at hw
  have ha0 := hw.a.1; have hb0 := hw.b.1; have himm := hw.imm; have ho0 := hw.op
  dsimp only at ha0 hb0 himm ho0 hbl
  obtain ⟨an, rfl⟩ := Int.eq_ofNat_of_zero_le ha0
  obtain ⟨bn, rfl⟩ := Int.eq_ofNat_of_zero_le hb0
  have han : an < 16 := by omega
  have hbn : bn < 16 := by omega
  have hz0 : (0 : Int) ≤ (k : Int) := by omega
  have hz1 : (k : Int) < (code.length : Int) := by omega
  have hz4 : decide ((code.length : Int) ≤ (k : Int)) = false := by simp; omega
  have hz2 : (0 : Int) ≤ (an : Int) := by omega
  have hz3 : (0 : Int) ≤ (bn : Int) := by omega
  have hq := fun W => rRight_any W op an bn c imm (by omega) (by omega)
  rw [show insRight op an bn c imm = true from hr] at hq
  obtain ⟨xb, hxb⟩ : ∃ xb, w.heap.size = xb := ⟨_, rfl⟩
  rw [hxb] at hst hbl
  have HST := Lib.hid hst; have HQ := Lib.hid hq; have Hpc := Lib.hid hpc; have Hat := Lib.hid hat; have HW := Lib.hid hw; have Hwf := Lib.hid hwf; have Hxb := Lib.hid hxb
  have hcb : ∀ b o, (some ⟨bb, off, none⟩ : Option Addr) = some ⟨b, o, none⟩ → b ≠ xb := fun b o e => by cases e; omega
  have HCB := Lib.hid hcb
  clear hst hq hpc hat hw x0 hr hwf hm he hcb hxb
  have t0 : (op == 0) = false := by simp; omega
  have t1 : (op == 1) = false := by simp; omega
  have t2 : (op == 2) = false := by simp; omega
  have t3 : (op == 3) = false := by simp; omega
  have t4 : (op == 4) = false := by simp; omega
  have t5 : (op == 5) = false := by simp; omega
  have t6 : (op == 6) = false := by simp; omega
  have t7 : (op == 7) = false := by simp; omega
  have t8 : (op == 8) = false := by simp; omega
  have t9 : (op == 9) = false := by simp; omega
  have t10 : (op == 10) = false := by simp; omega
  go_enter Try.func21, Try.ntmps21
  go_upto_region 1 with fail
  rw [Hxb.out]
  refine gen_world (fun W => RIn w W xb (xb + 1) B am cm (some ⟨bb, off, none⟩) code s.mem.length s) (HST.out _ (by rfl)) ?_
  intro W hW
  have c17 := hW.st.pc
  rw [Hpc.out] at c17
  obtain ⟨bb', off', e', -, x0, x1, x2, x3, x4⟩ := els_ins hW.codeE hlt
  cases e'
  rw [Hat.out] at x0 x1 x2 x3 x4
  dsimp only at x0 x1 x2 x3 x4
  have H0 := Lib.hid hW; clear hW
  go_wp2_with fail
  refine (HQ.out _).mono ?_
  rintro e W1 ⟨rfl, hb1⟩
  have hW1 := H0.out.below hb1
  replace c17 := keepCell hb1 c17
  replace x0 := keepCell hb1 x0; replace x1 := keepCell hb1 x1; replace x2 := keepCell hb1 x2; replace x3 := keepCell hb1 x3; replace x4 := keepCell hb1 x4
  have H1 := Lib.hid hW1
  clear hb1 hW1 H0 HQ HST
  go_upto_region 5 with fail
  obtain ⟨ib, hib⟩ : ∃ ib, W1.heap.size = ib := ⟨_, rfl⟩
  have hnew : ∀ o, (W1.alloc o).heap[ib]? = some o := fun o => by rw [← hib]; exact World.alloc_heap_new W1 o
  have hxi : xb < ib := by rw [← hib]; exact H1.out.st.lt
  rw [hib]
  refine gen_world (fun W => RIn w W xb (xb + 1) B am cm (some ⟨bb, off, none⟩) code s.mem.length s ∧ W.heap[ib]? = some (.cells #[.int .u8 op, .int .u8 (an : Int), .int .u8 (bn : Int), .int .u8 c, .int .i32 imm] 42 (0, 0))) ⟨H1.out.alloc _, hnew _⟩ ?_
  intro W2 hW2
  obtain ⟨hW2, hI2⟩ := hW2
  have c16 := hW2.st.memv
  have crb := hW2.st.reg hbn
  have c17' := hW2.st.pc
  rw [Hpc.out] at c17'
  obtain ⟨cl, hcl⟩ : ∃ cl, wrap64 (s.R (bn : Int) + imm) = cl := ⟨_, rfl⟩
  have hs : IntKind.i64.wrap (s.R (bn : Int) + imm) = cl := (wrap_is _).trans hcl
  have hic := fun j => cell_of_row W2 ib j _ _ _ hI2
  have i0 := hic 0; have i1 := hic 1; have i2 := hic 2; have i3 := hic 3; have i4 := hic 4
  simp only [List.getElem?_toArray, List.getElem?_cons_succ, List.getElem?_cons_zero] at i0 i1 i2 i3 i4
  have H2 := Lib.hid hW2; have HI2 := Lib.hid hI2; have HCL := Lib.hid hcl
  clear hW2 hI2 hcl hic hib hnew c17 x0 x1 x2 x3 x4
  go_upto_if 42 with fail
  go_cut [6] (fun s6 wx => s6 = .int .i64 (low32 imm) ∧ W2 = wx)
  case first =>
    by_cases hneg : imm < 0
    · go_wp2_with fail
      go_meet
      exact ⟨by rw [show low32 imm = imm + 4294967296 from by unfold low32; rw [if_pos (by omega)]], rfl⟩
    · have hneg' : decide (imm < 0) = false := by simpa using hneg
      go_wp2_with fail
      go_meet
      exact ⟨by rw [show low32 imm = imm from by unfold low32; rw [if_neg (by omega)]], rfl⟩
  case rest =>
  obtain ⟨rfl, rfl⟩ := hcut
  go_wp2_with fail
  go_quiet (fail)
  clear hs
  go_upto_region 9 with fail
  refine gen_world (fun W => RIn w W xb (xb + 1) B am cm (some ⟨bb, off, none⟩) code s.mem.length s ∧ W.heap[ib]? = some (.cells #[.int .u8 op, .int .u8 (an : Int), .int .u8 (bn : Int), .int .u8 c, .int .i32 imm] 42 (0, 0))) ⟨H2.out.drewN nq, HI2.out⟩ ?_
  intro W3 hW3
  obtain ⟨hW3, hI3⟩ := hW3
  clear c16 crb c17' i0 i1 i2 i3 i4
  have c16 := hW3.st.memv
  have cra := hW3.st.reg han
  have crb := hW3.st.reg hbn
  have fra := hW3.st.frozen an
  have c17 := hW3.st.pc
  have f17 := hW3.st.frozen 17
  have c18 := hW3.st.fin
  have f18 := hW3.st.frozen 18
  have c19 := hW3.st.told
  have f19 := hW3.st.frozen 19
  rw [Hpc.out] at c17
  have hic := fun j => cell_of_row W3 ib j _ _ _ hI3
  have i0 := hic 0; have i1 := hic 1; have i2 := hic 2; have i3 := hic 3; have i4 := hic 4
  simp only [List.getElem?_toArray, List.getElem?_cons_succ, List.getElem?_cons_zero] at i0 i1 i2 i3 i4
  have H3 := Lib.hid hW3; have HI3 := Lib.hid hI3
  clear hW3 hI3 hic H2 HI2
  go_cut [8] (fun s8 wx => s8 = .bool (decide (0 ≤ cl) && decide (cl < (s.mem.length : Int))) ∧ W3 = wx)
  case first =>
    by_cases h0 : 0 ≤ cl
    · by_cases h1 : cl < (s.mem.length : Int)
      · go_wp2_with fail
        go_meet
        exact ⟨by simp [h0, h1], rfl⟩
      · have h1' : decide (cl < (s.mem.length : Int)) = false := by simpa using h1
        go_wp2_with fail
        go_meet
        exact ⟨by simp [h0, h1], rfl⟩
    · have h0' : decide (0 ≤ cl) = false := by simpa using h0
      go_wp2_with fail
      go_meet
      exact ⟨by rw [h0']; rfl, rfl⟩
  case rest =>
  obtain ⟨rfl, rfl⟩ := hcut
  have hk := fun W => reckoned_any W (.slice am s.mem.length cm) s op (an : Int) (bn : Int) c imm ho HW.out.op.2 hz3 (by omega) HW.out.c.1 hc Hwf.out.len Hwf.out.regs
  simp only [hl] at hk
  have HK := Lib.hid hk; clear hk hl
  go_upto_region 12 with fail
  go_wp2_with (first
    | ((with_reducible show wpList _ _ _ ({ dst := some _, op := Op.load 26 (.tmp 3), type := _, pos := _, after := _, guard := _ } :: _) _ _); (refine wpList_load_row rfl 26 _ rfl xb rfl 26 _ (0, 0) _ H3.out.row Try.underlying26 rfl (by rw [Try.sizeSt, List.size_toArray, cellsSt_len Hwf.out.len]) ?_)))
  refine (HK.out _).mono ?_
  rintro e W5 ⟨rfl, hb5⟩
  have hW3 := H3.out.below hb5
  have hI3 := block_below HI3.out hb5
  clear c16 cra crb fra c17 f17 c18 f18 c19 f19 i0 i1 i2 i3 i4 H3 HI3 hb5
  have c16 := hW3.st.memv
  have cra := hW3.st.reg han
  have crb := hW3.st.reg hbn
  have fra := hW3.st.frozen an
  have c17 := hW3.st.pc
  have f17 := hW3.st.frozen 17
  have c18 := hW3.st.fin
  have f18 := hW3.st.frozen 18
  have c19 := hW3.st.told
  have f19 := hW3.st.frozen 19
  rw [Hpc.out] at c17
  have hic := fun j => cell_of_row W5 ib j _ _ _ hI3
  have i0 := hic 0; have i1 := hic 1; have i2 := hic 2; have i3 := hic 3; have i4 := hic 4
  simp only [List.getElem?_toArray, List.getElem?_cons_succ, List.getElem?_cons_zero] at i0 i1 i2 i3 i4
  have H3 := Lib.hid hW3
  clear hW3 hI3 hic HK
  go_upto_region 49 with fail
  obtain ⟨S1, hS1⟩ : ∃ S1 : St, S1 = { s.setR (an : Int) m with pc := (k : Int) + 1 } := ⟨_, rfl⟩
  refine gen_world (fun W => RIn w W xb (xb + 1) B am cm (some ⟨bb, off, none⟩) code s.mem.length S1) (by rw [hS1]; exact ((H3.out.setR HCB.out han _).setPc HCB.out _)) ?_
  intro W4 h4
  have HS1 := Lib.hid hS1; clear hS1
  have hrow := h4.row
  obtain ⟨c', hc', hres⟩ := h4.res
  have hl4 := h4.st.2
  have HRW := Lib.hid hrow; have HRS := Lib.hid hres; have H4 := Lib.hid h4; have HC4 := Lib.hid hc'; have HL4 := Lib.hid hl4
  clear hrow hres h4 hc' hl4 c16 cra crb fra c17 f17 c18 f18 c19 f19 i0 i1 i2 i3 i4
  go_wp2_with (first
    | ((with_reducible show wpList _ _ _ ({ dst := some _, op := Op.load 26 (.tmp 3), type := _, pos := _, after := _, guard := _ } :: _) _ _); (refine wpList_load_row rfl 26 _ rfl xb rfl 26 _ (0, 0) _ HRW.out Try.underlying26 rfl (by rw [Try.sizeSt, List.size_toArray, cellsSt_len HL4.out]) ?_))
    | ((with_reducible show wpList _ _ _ ({ dst := none, op := Op.store 26 (.tmp 4) (.tmp _), type := _, pos := _, after := _, guard := _ } :: _) _ _); (refine wpList_store_whole rfl 26 _ _ rfl (xb + 1) rfl c' _ rfl 26 HRS.out (by rw [Try.sizeSt, List.size_toArray, cellsSt_len HL4.out]) (by rw [HC4.out, List.size_toArray, cellsSt_len HL4.out]) (by simpa using cellsSt_one rfl _) ?_); intro w' hr5 hg5))
  obtain ⟨o1, o2⟩ := H4.out.out hg5
  refine bodyPost_ret (v := .agg (cellsSt (.slice am s.mem.length cm) S1).toArray) (results_cell_row rfl _ _ (xb + 1) 26 _ (0, 0) _ rfl hr5 Try.underlying26 rfl (by rw [Try.sizeSt, List.size_toArray, cellsSt_len HL4.out])) rfl ?_
  rw [← HS1.out]
  exact ⟨rfl, o1, o2⟩

set_option maxRecDepth 100000 in
set_option maxHeartbeats 16000000 in
theorem rstep_callb (w : World) (B : Nat) (am : Option Addr) (cm : Nat) (ca : Option Addr) (cc : Nat) (code : List Ins) (s : St) (hwf : s.wf) (hm : MemR B w (.slice am s.mem.length cm) s.mem) (he : insRep.Els w ca code) (hlen : code.length ≤ 9223372036854775807) (i : Ins) (k : Nat) (hi : At i k code s) (hr : i.right = true) (hcB : ∀ b off, ca = some ⟨b, off, none⟩ → b < B) (ho : 64 ≤ i.op) (m e0 : Int) (hne : ¬ e0 = 0) (hl : reckS i s = (m, e0)) :
    Calls Try.prog 21 #[.slice ca code.length cc, .agg (cellsSt (.slice am s.mem.length cm) s).toArray] w (ROut B am cm s.mem.length w { s with fin := 4 }) := by
  obtain ⟨hlt, hpc, hat, hop, ha, hb, hc⟩ := hi
  obtain ⟨op, a, b, c, imm⟩ := i
  dsimp only at ho ha hb hc hop hl ⊢
  have hst := fun c2 hc2 => RIn.start (c := c2) hwf.len hm he hc2
  obtain ⟨bb, off, rfl, hw, x0, -⟩ := els_ins he hlt
  have hbl := World.block_lt_of_cell? _ _ x0
  rw [hat] at hw
  have ha0 := hw.a.1; have hb0 := hw.b.1; have himm := hw.imm; have ho0 := hw.op
  dsimp only at ha0 hb0 himm ho0 hbl
  obtain ⟨an, rfl⟩ := Int.eq_ofNat_of_zero_le ha0
  obtain ⟨bn, rfl⟩ := Int.eq_ofNat_of_zero_le hb0
  have han : an < 16 := by omega
  have hbn : bn < 16 := by omega
  have hz0 : (0 : Int) ≤ (k : Int) := by omega
  have hz1 : (k : Int) < (code.length : Int) := by omega
  have hz4 : decide ((code.length : Int) ≤ (k : Int)) = false := by simp; omega
  have hz2 : (0 : Int) ≤ (an : Int) := by omega
  have hz3 : (0 : Int) ≤ (bn : Int) := by omega
  have hq := fun W => rRight_any W op an bn c imm (by omega) (by omega)
  rw [show insRight op an bn c imm = true from hr] at hq
  obtain ⟨xb, hxb⟩ : ∃ xb, w.heap.size = xb := ⟨_, rfl⟩
  rw [hxb] at hst hbl
  have HST := Lib.hid hst; have HQ := Lib.hid hq; have Hpc := Lib.hid hpc; have Hat := Lib.hid hat; have HW := Lib.hid hw; have Hwf := Lib.hid hwf; have Hxb := Lib.hid hxb
  have hcb : ∀ b o, (some ⟨bb, off, none⟩ : Option Addr) = some ⟨b, o, none⟩ → b ≠ xb := fun b o e => by cases e; omega
  have HCB := Lib.hid hcb
  clear hst hq hpc hat hw x0 hr hwf hm he hcb hxb
  have t0 : (op == 0) = false := by simp; omega
  have t1 : (op == 1) = false := by simp; omega
  have t2 : (op == 2) = false := by simp; omega
  have t3 : (op == 3) = false := by simp; omega
  have t4 : (op == 4) = false := by simp; omega
  have t5 : (op == 5) = false := by simp; omega
  have t6 : (op == 6) = false := by simp; omega
  have t7 : (op == 7) = false := by simp; omega
  have t8 : (op == 8) = false := by simp; omega
  have t9 : (op == 9) = false := by simp; omega
  have t10 : (op == 10) = false := by simp; omega
  go_enter Try.func21, Try.ntmps21
  go_upto_region 1 with fail
  rw [Hxb.out]
  refine gen_world (fun W => RIn w W xb (xb + 1) B am cm (some ⟨bb, off, none⟩) code s.mem.length s) (HST.out _ (by rfl)) ?_
  intro W hW
  have c17 := hW.st.pc
  rw [Hpc.out] at c17
  obtain ⟨bb', off', e', -, x0, x1, x2, x3, x4⟩ := els_ins hW.codeE hlt
  cases e'
  rw [Hat.out] at x0 x1 x2 x3 x4
  dsimp only at x0 x1 x2 x3 x4
  have H0 := Lib.hid hW; clear hW
  go_wp2_with fail
  refine (HQ.out _).mono ?_
  rintro e W1 ⟨rfl, hb1⟩
  have hW1 := H0.out.below hb1
  replace c17 := keepCell hb1 c17
  replace x0 := keepCell hb1 x0; replace x1 := keepCell hb1 x1; replace x2 := keepCell hb1 x2; replace x3 := keepCell hb1 x3; replace x4 := keepCell hb1 x4
  have H1 := Lib.hid hW1
  clear hb1 hW1 H0 HQ HST
  go_upto_region 5 with fail
  obtain ⟨ib, hib⟩ : ∃ ib, W1.heap.size = ib := ⟨_, rfl⟩
  have hnew : ∀ o, (W1.alloc o).heap[ib]? = some o := fun o => by rw [← hib]; exact World.alloc_heap_new W1 o
  have hxi : xb < ib := by rw [← hib]; exact H1.out.st.lt
  rw [hib]
  refine gen_world (fun W => RIn w W xb (xb + 1) B am cm (some ⟨bb, off, none⟩) code s.mem.length s ∧ W.heap[ib]? = some (.cells #[.int .u8 op, .int .u8 (an : Int), .int .u8 (bn : Int), .int .u8 c, .int .i32 imm] 42 (0, 0))) ⟨H1.out.alloc _, hnew _⟩ ?_
  intro W2 hW2
  obtain ⟨hW2, hI2⟩ := hW2
  have c16 := hW2.st.memv
  have crb := hW2.st.reg hbn
  have c17' := hW2.st.pc
  rw [Hpc.out] at c17'
  obtain ⟨cl, hcl⟩ : ∃ cl, wrap64 (s.R (bn : Int) + imm) = cl := ⟨_, rfl⟩
  have hs : IntKind.i64.wrap (s.R (bn : Int) + imm) = cl := (wrap_is _).trans hcl
  have hic := fun j => cell_of_row W2 ib j _ _ _ hI2
  have i0 := hic 0; have i1 := hic 1; have i2 := hic 2; have i3 := hic 3; have i4 := hic 4
  simp only [List.getElem?_toArray, List.getElem?_cons_succ, List.getElem?_cons_zero] at i0 i1 i2 i3 i4
  have H2 := Lib.hid hW2; have HI2 := Lib.hid hI2; have HCL := Lib.hid hcl
  clear hW2 hI2 hcl hic hib hnew c17 x0 x1 x2 x3 x4
  go_upto_if 42 with fail
  go_cut [6] (fun s6 wx => s6 = .int .i64 (low32 imm) ∧ W2 = wx)
  case first =>
    by_cases hneg : imm < 0
    · go_wp2_with fail
      go_meet
      exact ⟨by rw [show low32 imm = imm + 4294967296 from by unfold low32; rw [if_pos (by omega)]], rfl⟩
    · have hneg' : decide (imm < 0) = false := by simpa using hneg
      go_wp2_with fail
      go_meet
      exact ⟨by rw [show low32 imm = imm from by unfold low32; rw [if_neg (by omega)]], rfl⟩
  case rest =>
  obtain ⟨rfl, rfl⟩ := hcut
  go_wp2_with fail
  go_quiet (fail)
  clear hs
  go_upto_region 9 with fail
  refine gen_world (fun W => RIn w W xb (xb + 1) B am cm (some ⟨bb, off, none⟩) code s.mem.length s ∧ W.heap[ib]? = some (.cells #[.int .u8 op, .int .u8 (an : Int), .int .u8 (bn : Int), .int .u8 c, .int .i32 imm] 42 (0, 0))) ⟨H2.out.drewN nq, HI2.out⟩ ?_
  intro W3 hW3
  obtain ⟨hW3, hI3⟩ := hW3
  clear c16 crb c17' i0 i1 i2 i3 i4
  have c16 := hW3.st.memv
  have cra := hW3.st.reg han
  have crb := hW3.st.reg hbn
  have fra := hW3.st.frozen an
  have c17 := hW3.st.pc
  have f17 := hW3.st.frozen 17
  have c18 := hW3.st.fin
  have f18 := hW3.st.frozen 18
  have c19 := hW3.st.told
  have f19 := hW3.st.frozen 19
  rw [Hpc.out] at c17
  have hic := fun j => cell_of_row W3 ib j _ _ _ hI3
  have i0 := hic 0; have i1 := hic 1; have i2 := hic 2; have i3 := hic 3; have i4 := hic 4
  simp only [List.getElem?_toArray, List.getElem?_cons_succ, List.getElem?_cons_zero] at i0 i1 i2 i3 i4
  have H3 := Lib.hid hW3; have HI3 := Lib.hid hI3
  clear hW3 hI3 hic H2 HI2
  go_cut [8] (fun s8 wx => s8 = .bool (decide (0 ≤ cl) && decide (cl < (s.mem.length : Int))) ∧ W3 = wx)
  case first =>
    by_cases h0 : 0 ≤ cl
    · by_cases h1 : cl < (s.mem.length : Int)
      · go_wp2_with fail
        go_meet
        exact ⟨by simp [h0, h1], rfl⟩
      · have h1' : decide (cl < (s.mem.length : Int)) = false := by simpa using h1
        go_wp2_with fail
        go_meet
        exact ⟨by simp [h0, h1], rfl⟩
    · have h0' : decide (0 ≤ cl) = false := by simpa using h0
      go_wp2_with fail
      go_meet
      exact ⟨by rw [h0']; rfl, rfl⟩
  case rest =>
  obtain ⟨rfl, rfl⟩ := hcut
  have hk := fun W => reckoned_any W (.slice am s.mem.length cm) s op (an : Int) (bn : Int) c imm ho HW.out.op.2 hz3 (by omega) HW.out.c.1 hc Hwf.out.len Hwf.out.regs
  simp only [hl] at hk
  have HK := Lib.hid hk; clear hk hl
  go_upto_region 12 with fail
  go_wp2_with (first
    | ((with_reducible show wpList _ _ _ ({ dst := some _, op := Op.load 26 (.tmp 3), type := _, pos := _, after := _, guard := _ } :: _) _ _); (refine wpList_load_row rfl 26 _ rfl xb rfl 26 _ (0, 0) _ H3.out.row Try.underlying26 rfl (by rw [Try.sizeSt, List.size_toArray, cellsSt_len Hwf.out.len]) ?_)))
  refine (HK.out _).mono ?_
  rintro e W5 ⟨rfl, hb5⟩
  have hW3 := H3.out.below hb5
  have hI3 := block_below HI3.out hb5
  clear c16 cra crb fra c17 f17 c18 f18 c19 f19 i0 i1 i2 i3 i4 H3 HI3 hb5
  have c16 := hW3.st.memv
  have cra := hW3.st.reg han
  have crb := hW3.st.reg hbn
  have fra := hW3.st.frozen an
  have c17 := hW3.st.pc
  have f17 := hW3.st.frozen 17
  have c18 := hW3.st.fin
  have f18 := hW3.st.frozen 18
  have c19 := hW3.st.told
  have f19 := hW3.st.frozen 19
  rw [Hpc.out] at c17
  have hic := fun j => cell_of_row W5 ib j _ _ _ hI3
  have i0 := hic 0; have i1 := hic 1; have i2 := hic 2; have i3 := hic 3; have i4 := hic 4
  simp only [List.getElem?_toArray, List.getElem?_cons_succ, List.getElem?_cons_zero] at i0 i1 i2 i3 i4
  have H3 := Lib.hid hW3
  clear hW3 hI3 hic HK
  go_upto_region 15 with fail
  obtain ⟨S1, hS1⟩ : ∃ S1 : St, S1 = { s with fin := 4 } := ⟨_, rfl⟩
  refine gen_world (fun W => RIn w W xb (xb + 1) B am cm (some ⟨bb, off, none⟩) code s.mem.length S1) (by rw [hS1]; exact (H3.out.setFin HCB.out _)) ?_
  intro W4 h4
  have HS1 := Lib.hid hS1; clear hS1
  have hrow := h4.row
  obtain ⟨c', hc', hres⟩ := h4.res
  have hl4 := h4.st.2
  have HRW := Lib.hid hrow; have HRS := Lib.hid hres; have H4 := Lib.hid h4; have HC4 := Lib.hid hc'; have HL4 := Lib.hid hl4
  clear hrow hres h4 hc' hl4 c16 cra crb fra c17 f17 c18 f18 c19 f19 i0 i1 i2 i3 i4
  go_wp2_with (first
    | ((with_reducible show wpList _ _ _ ({ dst := some _, op := Op.load 26 (.tmp 3), type := _, pos := _, after := _, guard := _ } :: _) _ _); (refine wpList_load_row rfl 26 _ rfl xb rfl 26 _ (0, 0) _ HRW.out Try.underlying26 rfl (by rw [Try.sizeSt, List.size_toArray, cellsSt_len HL4.out]) ?_))
    | ((with_reducible show wpList _ _ _ ({ dst := none, op := Op.store 26 (.tmp 4) (.tmp _), type := _, pos := _, after := _, guard := _ } :: _) _ _); (refine wpList_store_whole rfl 26 _ _ rfl (xb + 1) rfl c' _ rfl 26 HRS.out (by rw [Try.sizeSt, List.size_toArray, cellsSt_len HL4.out]) (by rw [HC4.out, List.size_toArray, cellsSt_len HL4.out]) (by simpa using cellsSt_one rfl _) ?_); intro w' hr5 hg5))
  obtain ⟨o1, o2⟩ := H4.out.out hg5
  refine bodyPost_ret (v := .agg (cellsSt (.slice am s.mem.length cm) S1).toArray) (results_cell_row rfl _ _ (xb + 1) 26 _ (0, 0) _ rfl hr5 Try.underlying26 rfl (by rw [Try.sizeSt, List.size_toArray, cellsSt_len HL4.out])) rfl ?_
  rw [← HS1.out]
  exact ⟨rfl, o1, o2⟩
end Go.Proofs.Ytkgbjmmiomggbaa
