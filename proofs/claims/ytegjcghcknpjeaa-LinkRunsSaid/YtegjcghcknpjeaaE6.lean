import Derived.Test.YtegjcghcknpjeaaE3
namespace Go.Proofs.Ytegjcghcknpjeaa
open Go.RowKit
set_option linter.unusedVariables false
attribute [local go_sem ↓] Go.wp_at_zero Go.wp_at_succ

set_option maxRecDepth 100000 in
set_option maxHeartbeats 8000000 in
theorem mstep_5a (w : World) (g B : Nat) (am : Option Addr) (cm : Nat) (ca : Option Addr) (cc : Nat) (code : List Ins) (s : St) (h : SIn w g B am cm ca cc code s) (i : Ins) (k : Nat) (hi : At i k code s) (ho : i.op = 5) (q : Nat) (hl : wrap64 (s.R i.b + i.imm) = (q : Int)) (hq : q < s.mem.length) :
    Calls Try.prog 36 #[.pointer (some ⟨g, 0, none⟩)] w fun e w' => e = .returned (.bool true) ∧ SOut g B am cm ca cc code s.mem.length w { s.setR i.a (s.mem.getD q 0) with pc := (k : Int) + 1 } w' := by
  obtain ⟨hlt, hpc, hat, hop, ha, hb, hc⟩ := hi
  obtain ⟨op, a, b, c, imm⟩ := i
  dsimp only at ho ha hb hc hop hl ⊢
  subst ho
  have c17 := h.st.pc
  rw [hpc] at c17
  have c20 : w.cell? ⟨g, 20, none⟩ = some (.slice ca code.length cc) := h.st.rest 0
  have hlen := h.len
  have hz0 : (0 : Int) ≤ (k : Int) := by omega
  have hz1 : (k : Int) < (code.length : Int) := by omega
  have hz4 : decide ((code.length : Int) ≤ (k : Int)) = false := by simp; omega
  have H := Lib.hid h; have Hpc := Lib.hid hpc; have Hat := Lib.hid hat
  clear h hpc hat
  go_enter Try.func36, Try.ntmps36
  go_wp2_with fail
  go_quiet (fail)
  have h1 := H.out.drewN nq
  have hk1 : KB (fun b => b = g ∨ (Value.slice am s.mem.length cm).ownBlock = some b) w (w.drewN nq) := (KB.refl _ w).drewN nq
  clear c17 c20 H
  generalize w.drewN nq = w1 at h1 hk1 ⊢
  obtain ⟨bb, off, rfl, hw, x0, x1, x2, x3, x4⟩ := els_ins h1.codeE hlt
  rw [Hat.out] at hw x0 x1 x2 x3 x4
  have ha0 := hw.a.1; have hb0 := hw.b.1; have himm := hw.imm
  dsimp only at ha0 hb0 himm x0 x1 x2 x3 x4
  obtain ⟨an, rfl⟩ := Int.eq_ofNat_of_zero_le ha0
  obtain ⟨bn, rfl⟩ := Int.eq_ofNat_of_zero_le hb0
  have han : an < 16 := by omega
  have hbn : bn < 16 := by omega
  have c17 := h1.st.pc
  rw [Hpc.out] at c17
  have c20 : w1.cell? ⟨g, 20, none⟩ = some (.slice (some ⟨bb, off, none⟩) code.length cc) := h1.st.rest 0
  have cra := h1.st.reg han
  have crb := h1.st.reg hbn
  have fra := h1.st.frozen an
  have f17 := h1.st.frozen 17
  have hgl := h1.st.lt
  have hbl : bb < w1.heap.size := World.block_lt_of_cell? _ _ x0
  have hz2 : (0 : Int) ≤ (an : Int) := by omega
  have hz3 : (0 : Int) ≤ (bn : Int) := by omega
  have H1 := Lib.hid h1; have HK1 := Lib.hid hk1; have HW := Lib.hid hw
  clear h1 hk1 hw
  go_wp2_with fail
  go_region_held3 (fun w' => w'.cell? ⟨g, 20, none⟩ = some (.slice (some ⟨bb, off, none⟩) code.length cc) ∧ w'.cell? ⟨g, 17, none⟩ = some (.int .i64 (k : Int)) ∧ w'.cell? ⟨bb, off + k * 5, none⟩ = some (.int .u8 5) ∧ w'.cell? ⟨bb, off + k * 5 + 1, none⟩ = some (.int .u8 (an : Int)) ∧ w'.cell? ⟨bb, off + k * 5 + 2, none⟩ = some (.int .u8 (bn : Int)) ∧ w'.cell? ⟨bb, off + k * 5 + 3, none⟩ = some (.int .u8 c) ∧ w'.cell? ⟨bb, off + k * 5 + 4, none⟩ = some (.int .i32 imm)) (go_keep) (fail)
  go_wp2_with fail
  go_quiet (fail)
  have hcell := fun (W : World) (h : StB W g 72 (.slice am s.mem.length cm) [.slice (some ⟨bb, off, none⟩) code.length cc] s) => mcell_any W g am s.mem.length cm _ s ⟨5, an, bn, c, imm⟩ HW.out hb h
  unfold Ins.V at hcell
  dsimp only at hcell
  rw [hl] at hcell
  rw [show (decide (0 ≤ (q : Int)) && decide ((q : Int) < (s.mem.length : Int))) = true from by simp; omega] at hcell
  have HC := Lib.hid hcell; have HLL := Lib.hid hl
  clear hcell hl
  go_wp2_with fail
  refine (HC.out _ ((H1.out.st.alloc _).drewN _)).mono ?_
  rintro e w2 ⟨rfl, hb2⟩
  have O2 := (((H1.out.start HK1.out).alloc _).drewN _).below hb2
  obtain ⟨G, c', eg, -, hG, cq, fq, -⟩ := MemR.at O2.2.1 hq
  have eg' := eg
  cases eg
  have d16 := O2.1.memv
  have d17 := O2.1.pc
  rw [Hpc.out] at d17
  have dra := O2.1.reg han
  have era := O2.1.frozen an
  have e17 := O2.1.frozen 17
  obtain ⟨y, hy⟩ : ∃ y, s.mem.getD q 0 = y := ⟨_, rfl⟩
  rw [hy] at cq
  have hgg : G ≠ g := H1.out.apart G rfl
  have hq0 : (0 : Int) ≤ (q : Int) := by omega
  have hq1 : (q : Int) < (s.mem.length : Int) := by omega
  have HO2 := Lib.hid O2; have Hy := Lib.hid hy
  clear O2 hy eg' hb2 HC cra crb fra f17 x0 x1 x2 x3 x4 c20 c17
  go_wp2_with fail
  go_ret
  refine ⟨rfl, ?_⟩
  first | rw [Hy.out] | rw [show s.mem[q]?.getD 0 = y from by rw [← Hy.out, List.getD_eq_getElem?_getD]]
  exact (HO2.out.setR H1.out.apart han _).setPc H1.out.apart _

set_option maxRecDepth 100000 in
set_option maxHeartbeats 8000000 in
theorem mstep_5b (w : World) (g B : Nat) (am : Option Addr) (cm : Nat) (ca : Option Addr) (cc : Nat) (code : List Ins) (s : St) (h : SIn w g B am cm ca cc code s) (i : Ins) (k : Nat) (hi : At i k code s) (ho : i.op = 5) (hl : ¬ (0 ≤ wrap64 (s.R i.b + i.imm) ∧ wrap64 (s.R i.b + i.imm) < (s.mem.length : Int))) :
    Calls Try.prog 36 #[.pointer (some ⟨g, 0, none⟩)] w fun e w' => e = .returned (.bool false) ∧ SOut g B am cm ca cc code s.mem.length w { s with fin := 3 } w' := by
  obtain ⟨hlt, hpc, hat, hop, ha, hb, hc⟩ := hi
  obtain ⟨op, a, b, c, imm⟩ := i
  dsimp only at ho ha hb hc hop hl ⊢
  subst ho
  have c17 := h.st.pc
  rw [hpc] at c17
  have c20 : w.cell? ⟨g, 20, none⟩ = some (.slice ca code.length cc) := h.st.rest 0
  have hlen := h.len
  have hz0 : (0 : Int) ≤ (k : Int) := by omega
  have hz1 : (k : Int) < (code.length : Int) := by omega
  have hz4 : decide ((code.length : Int) ≤ (k : Int)) = false := by simp; omega
  have H := Lib.hid h; have Hpc := Lib.hid hpc; have Hat := Lib.hid hat
  clear h hpc hat
  go_enter Try.func36, Try.ntmps36
  go_wp2_with fail
  go_quiet (fail)
  have h1 := H.out.drewN nq
  have hk1 : KB (fun b => b = g ∨ (Value.slice am s.mem.length cm).ownBlock = some b) w (w.drewN nq) := (KB.refl _ w).drewN nq
  clear c17 c20 H
  generalize w.drewN nq = w1 at h1 hk1 ⊢
  obtain ⟨bb, off, rfl, hw, x0, x1, x2, x3, x4⟩ := els_ins h1.codeE hlt
  rw [Hat.out] at hw x0 x1 x2 x3 x4
  have ha0 := hw.a.1; have hb0 := hw.b.1; have himm := hw.imm
  dsimp only at ha0 hb0 himm x0 x1 x2 x3 x4
  obtain ⟨an, rfl⟩ := Int.eq_ofNat_of_zero_le ha0
  obtain ⟨bn, rfl⟩ := Int.eq_ofNat_of_zero_le hb0
  have han : an < 16 := by omega
  have hbn : bn < 16 := by omega
  have c17 := h1.st.pc
  rw [Hpc.out] at c17
  have c20 : w1.cell? ⟨g, 20, none⟩ = some (.slice (some ⟨bb, off, none⟩) code.length cc) := h1.st.rest 0
  have cra := h1.st.reg han
  have crb := h1.st.reg hbn
  have fra := h1.st.frozen an
  have f17 := h1.st.frozen 17
  have hgl := h1.st.lt
  have hbl : bb < w1.heap.size := World.block_lt_of_cell? _ _ x0
  have hz2 : (0 : Int) ≤ (an : Int) := by omega
  have hz3 : (0 : Int) ≤ (bn : Int) := by omega
  have H1 := Lib.hid h1; have HK1 := Lib.hid hk1; have HW := Lib.hid hw
  clear h1 hk1 hw
  go_wp2_with fail
  go_region_held3 (fun w' => w'.cell? ⟨g, 20, none⟩ = some (.slice (some ⟨bb, off, none⟩) code.length cc) ∧ w'.cell? ⟨g, 17, none⟩ = some (.int .i64 (k : Int)) ∧ w'.cell? ⟨bb, off + k * 5, none⟩ = some (.int .u8 5) ∧ w'.cell? ⟨bb, off + k * 5 + 1, none⟩ = some (.int .u8 (an : Int)) ∧ w'.cell? ⟨bb, off + k * 5 + 2, none⟩ = some (.int .u8 (bn : Int)) ∧ w'.cell? ⟨bb, off + k * 5 + 3, none⟩ = some (.int .u8 c) ∧ w'.cell? ⟨bb, off + k * 5 + 4, none⟩ = some (.int .i32 imm)) (go_keep) (fail)
  go_wp2_with fail
  go_quiet (fail)
  have hcell := fun (W : World) (h : StB W g 72 (.slice am s.mem.length cm) [.slice (some ⟨bb, off, none⟩) code.length cc] s) => mcell_any W g am s.mem.length cm _ s ⟨5, an, bn, c, imm⟩ HW.out hb h
  unfold Ins.V at hcell
  dsimp only at hcell
  obtain ⟨k', hk'⟩ : ∃ k', wrap64 (s.R (bn : Int) + imm) = k' := ⟨_, rfl⟩
  rw [hk'] at hcell hl
  rw [show (decide (0 ≤ k') && decide (k' < (s.mem.length : Int))) = false from by rw [← Bool.decide_and]; exact decide_eq_false hl] at hcell
  have HC := Lib.hid hcell; have HLL := Lib.hid hl
  clear hcell hl hk'
  go_wp2_with fail
  refine (HC.out _ ((H1.out.st.alloc _).drewN _)).mono ?_
  rintro e w2 ⟨rfl, hb2⟩
  have O2 := (((H1.out.start HK1.out).alloc _).drewN _).below hb2
  have HO2 := Lib.hid O2
  clear O2 hb2 HC
  go_wp2_with fail
  refine (stop_any _ g 3 HO2.out.1).mono ?_
  rintro e w' ⟨rfl, rfl⟩
  go_wp2_with fail
  go_ret
  exact ⟨rfl, HO2.out.setFin H1.out.apart _⟩

set_option maxRecDepth 100000 in
set_option maxHeartbeats 8000000 in
theorem mstep_6a (w : World) (g B : Nat) (am : Option Addr) (cm : Nat) (ca : Option Addr) (cc : Nat) (code : List Ins) (s : St) (h : SIn w g B am cm ca cc code s) (i : Ins) (k : Nat) (hi : At i k code s) (ho : i.op = 6) (q : Nat) (hl : wrap64 (s.R i.b + i.imm) = (q : Int)) (hq : q < s.mem.length) :
    Calls Try.prog 36 #[.pointer (some ⟨g, 0, none⟩)] w fun e w' => e = .returned (.bool true) ∧ SOut g B am cm ca cc code s.mem.length w { s with mem := s.mem.set q (s.R i.a), pc := (k : Int) + 1 } w' := by
  obtain ⟨hlt, hpc, hat, hop, ha, hb, hc⟩ := hi
  obtain ⟨op, a, b, c, imm⟩ := i
  dsimp only at ho ha hb hc hop hl ⊢
  subst ho
  have c17 := h.st.pc
  rw [hpc] at c17
  have c20 : w.cell? ⟨g, 20, none⟩ = some (.slice ca code.length cc) := h.st.rest 0
  have hlen := h.len
  have hz0 : (0 : Int) ≤ (k : Int) := by omega
  have hz1 : (k : Int) < (code.length : Int) := by omega
  have hz4 : decide ((code.length : Int) ≤ (k : Int)) = false := by simp; omega
  have H := Lib.hid h; have Hpc := Lib.hid hpc; have Hat := Lib.hid hat
  clear h hpc hat
  go_enter Try.func36, Try.ntmps36
  go_wp2_with fail
  go_quiet (fail)
  have h1 := H.out.drewN nq
  have hk1 : KB (fun b => b = g ∨ (Value.slice am s.mem.length cm).ownBlock = some b) w (w.drewN nq) := (KB.refl _ w).drewN nq
  clear c17 c20 H
  generalize w.drewN nq = w1 at h1 hk1 ⊢
  obtain ⟨bb, off, rfl, hw, x0, x1, x2, x3, x4⟩ := els_ins h1.codeE hlt
  rw [Hat.out] at hw x0 x1 x2 x3 x4
  have ha0 := hw.a.1; have hb0 := hw.b.1; have himm := hw.imm
  dsimp only at ha0 hb0 himm x0 x1 x2 x3 x4
  obtain ⟨an, rfl⟩ := Int.eq_ofNat_of_zero_le ha0
  obtain ⟨bn, rfl⟩ := Int.eq_ofNat_of_zero_le hb0
  have han : an < 16 := by omega
  have hbn : bn < 16 := by omega
  have c17 := h1.st.pc
  rw [Hpc.out] at c17
  have c20 : w1.cell? ⟨g, 20, none⟩ = some (.slice (some ⟨bb, off, none⟩) code.length cc) := h1.st.rest 0
  have cra := h1.st.reg han
  have crb := h1.st.reg hbn
  have fra := h1.st.frozen an
  have f17 := h1.st.frozen 17
  have hgl := h1.st.lt
  have hbl : bb < w1.heap.size := World.block_lt_of_cell? _ _ x0
  have hz2 : (0 : Int) ≤ (an : Int) := by omega
  have hz3 : (0 : Int) ≤ (bn : Int) := by omega
  have H1 := Lib.hid h1; have HK1 := Lib.hid hk1; have HW := Lib.hid hw
  clear h1 hk1 hw
  go_wp2_with fail
  go_region_held3 (fun w' => w'.cell? ⟨g, 20, none⟩ = some (.slice (some ⟨bb, off, none⟩) code.length cc) ∧ w'.cell? ⟨g, 17, none⟩ = some (.int .i64 (k : Int)) ∧ w'.cell? ⟨bb, off + k * 5, none⟩ = some (.int .u8 6) ∧ w'.cell? ⟨bb, off + k * 5 + 1, none⟩ = some (.int .u8 (an : Int)) ∧ w'.cell? ⟨bb, off + k * 5 + 2, none⟩ = some (.int .u8 (bn : Int)) ∧ w'.cell? ⟨bb, off + k * 5 + 3, none⟩ = some (.int .u8 c) ∧ w'.cell? ⟨bb, off + k * 5 + 4, none⟩ = some (.int .i32 imm)) (go_keep) (fail)
  go_wp2_with fail
  go_quiet (fail)
  have hcell := fun (W : World) (h : StB W g 72 (.slice am s.mem.length cm) [.slice (some ⟨bb, off, none⟩) code.length cc] s) => mcell_any W g am s.mem.length cm _ s ⟨6, an, bn, c, imm⟩ HW.out hb h
  unfold Ins.V at hcell
  dsimp only at hcell
  rw [hl] at hcell
  rw [show (decide (0 ≤ (q : Int)) && decide ((q : Int) < (s.mem.length : Int))) = true from by simp; omega] at hcell
  have HC := Lib.hid hcell; have HLL := Lib.hid hl
  clear hcell hl
  go_wp2_with fail
  refine (HC.out _ ((H1.out.st.alloc _).drewN _)).mono ?_
  rintro e w2 ⟨rfl, hb2⟩
  have O2 := (((H1.out.start HK1.out).alloc _).drewN _).below hb2
  obtain ⟨G, c', eg, -, hG, cq, fq, -⟩ := MemR.at O2.2.1 hq
  have eg' := eg
  cases eg
  have d16 := O2.1.memv
  have d17 := O2.1.pc
  rw [Hpc.out] at d17
  have dra := O2.1.reg han
  have era := O2.1.frozen an
  have e17 := O2.1.frozen 17
  obtain ⟨y, hy⟩ : ∃ y, s.mem.getD q 0 = y := ⟨_, rfl⟩
  rw [hy] at cq
  have hgg : G ≠ g := H1.out.apart G rfl
  have hq0 : (0 : Int) ≤ (q : Int) := by omega
  have hq1 : (q : Int) < (s.mem.length : Int) := by omega
  have HO2 := Lib.hid O2; have Hy := Lib.hid hy
  clear O2 hy eg' hb2 HC cra crb fra f17 x0 x1 x2 x3 x4 c20 c17
  go_wp2_with fail
  go_region
  go_wp2_with fail
  go_ret
  exact ⟨rfl, ((HO2.out.drewN 1).setMem rfl H1.out.apart hq _).setPc H1.out.apart _⟩

set_option maxRecDepth 100000 in
set_option maxHeartbeats 8000000 in
theorem mstep_6b (w : World) (g B : Nat) (am : Option Addr) (cm : Nat) (ca : Option Addr) (cc : Nat) (code : List Ins) (s : St) (h : SIn w g B am cm ca cc code s) (i : Ins) (k : Nat) (hi : At i k code s) (ho : i.op = 6) (hl : ¬ (0 ≤ wrap64 (s.R i.b + i.imm) ∧ wrap64 (s.R i.b + i.imm) < (s.mem.length : Int))) :
    Calls Try.prog 36 #[.pointer (some ⟨g, 0, none⟩)] w fun e w' => e = .returned (.bool false) ∧ SOut g B am cm ca cc code s.mem.length w { s with fin := 3 } w' := by
  obtain ⟨hlt, hpc, hat, hop, ha, hb, hc⟩ := hi
  obtain ⟨op, a, b, c, imm⟩ := i
  dsimp only at ho ha hb hc hop hl ⊢
  subst ho
  have c17 := h.st.pc
  rw [hpc] at c17
  have c20 : w.cell? ⟨g, 20, none⟩ = some (.slice ca code.length cc) := h.st.rest 0
  have hlen := h.len
  have hz0 : (0 : Int) ≤ (k : Int) := by omega
  have hz1 : (k : Int) < (code.length : Int) := by omega
  have hz4 : decide ((code.length : Int) ≤ (k : Int)) = false := by simp; omega
  have H := Lib.hid h; have Hpc := Lib.hid hpc; have Hat := Lib.hid hat
  clear h hpc hat
  go_enter Try.func36, Try.ntmps36
  go_wp2_with fail
  go_quiet (fail)
  have h1 := H.out.drewN nq
  have hk1 : KB (fun b => b = g ∨ (Value.slice am s.mem.length cm).ownBlock = some b) w (w.drewN nq) := (KB.refl _ w).drewN nq
  clear c17 c20 H
  generalize w.drewN nq = w1 at h1 hk1 ⊢
  obtain ⟨bb, off, rfl, hw, x0, x1, x2, x3, x4⟩ := els_ins h1.codeE hlt
  rw [Hat.out] at hw x0 x1 x2 x3 x4
  have ha0 := hw.a.1; have hb0 := hw.b.1; have himm := hw.imm
  dsimp only at ha0 hb0 himm x0 x1 x2 x3 x4
  obtain ⟨an, rfl⟩ := Int.eq_ofNat_of_zero_le ha0
  obtain ⟨bn, rfl⟩ := Int.eq_ofNat_of_zero_le hb0
  have han : an < 16 := by omega
  have hbn : bn < 16 := by omega
  have c17 := h1.st.pc
  rw [Hpc.out] at c17
  have c20 : w1.cell? ⟨g, 20, none⟩ = some (.slice (some ⟨bb, off, none⟩) code.length cc) := h1.st.rest 0
  have cra := h1.st.reg han
  have crb := h1.st.reg hbn
  have fra := h1.st.frozen an
  have f17 := h1.st.frozen 17
  have hgl := h1.st.lt
  have hbl : bb < w1.heap.size := World.block_lt_of_cell? _ _ x0
  have hz2 : (0 : Int) ≤ (an : Int) := by omega
  have hz3 : (0 : Int) ≤ (bn : Int) := by omega
  have H1 := Lib.hid h1; have HK1 := Lib.hid hk1; have HW := Lib.hid hw
  clear h1 hk1 hw
  go_wp2_with fail
  go_region_held3 (fun w' => w'.cell? ⟨g, 20, none⟩ = some (.slice (some ⟨bb, off, none⟩) code.length cc) ∧ w'.cell? ⟨g, 17, none⟩ = some (.int .i64 (k : Int)) ∧ w'.cell? ⟨bb, off + k * 5, none⟩ = some (.int .u8 6) ∧ w'.cell? ⟨bb, off + k * 5 + 1, none⟩ = some (.int .u8 (an : Int)) ∧ w'.cell? ⟨bb, off + k * 5 + 2, none⟩ = some (.int .u8 (bn : Int)) ∧ w'.cell? ⟨bb, off + k * 5 + 3, none⟩ = some (.int .u8 c) ∧ w'.cell? ⟨bb, off + k * 5 + 4, none⟩ = some (.int .i32 imm)) (go_keep) (fail)
  go_wp2_with fail
  go_quiet (fail)
  have hcell := fun (W : World) (h : StB W g 72 (.slice am s.mem.length cm) [.slice (some ⟨bb, off, none⟩) code.length cc] s) => mcell_any W g am s.mem.length cm _ s ⟨6, an, bn, c, imm⟩ HW.out hb h
  unfold Ins.V at hcell
  dsimp only at hcell
  obtain ⟨k', hk'⟩ : ∃ k', wrap64 (s.R (bn : Int) + imm) = k' := ⟨_, rfl⟩
  rw [hk'] at hcell hl
  rw [show (decide (0 ≤ k') && decide (k' < (s.mem.length : Int))) = false from by rw [← Bool.decide_and]; exact decide_eq_false hl] at hcell
  have HC := Lib.hid hcell; have HLL := Lib.hid hl
  clear hcell hl hk'
  go_wp2_with fail
  refine (HC.out _ ((H1.out.st.alloc _).drewN _)).mono ?_
  rintro e w2 ⟨rfl, hb2⟩
  have O2 := (((H1.out.start HK1.out).alloc _).drewN _).below hb2
  have HO2 := Lib.hid O2
  clear O2 hb2 HC
  go_wp2_with fail
  refine (stop_any _ g 3 HO2.out.1).mono ?_
  rintro e w' ⟨rfl, rfl⟩
  go_wp2_with fail
  go_ret
  exact ⟨rfl, HO2.out.setFin H1.out.apart _⟩
end Go.Proofs.Ytegjcghcknpjeaa
