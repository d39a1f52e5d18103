import Derived.Test.YtegjcghcknpjeaaE3
namespace Go.Proofs.Ytegjcghcknpjeaa
open Go.RowKit
set_option linter.unusedVariables false
attribute [local go_sem ↓] Go.wp_at_zero Go.wp_at_succ

set_option maxRecDepth 100000 in
set_option maxHeartbeats 8000000 in
theorem mstep_10 (w : World) (g B : Nat) (am : Option Addr) (cm : Nat) (ca : Option Addr) (cc : Nat) (code : List Ins) (s : St) (h : SIn w g B am cm ca cc code s) (i : Ins) (k : Nat) (hi : At i k code s) (ho : i.op = 10) :
    Calls Try.prog 36 #[.pointer (some ⟨g, 0, none⟩)] w fun e w' => e = .returned (.bool true) ∧ SOut g B am cm ca cc code s.mem.length w { s.setR i.a (wrap64 (s.R i.b + i.imm)) with pc := (k : Int) + 1 } w' := by
  obtain ⟨hlt, hpc, hat, hop, ha, hb, hc⟩ := hi
  obtain ⟨op, a, b, c, imm⟩ := i
  dsimp only at ho ha hb hc hop ⊢
  subst ho
  have c17 := h.st.pc
  rw [hpc] at c17
  have c20 : w.cell? ⟨g, 20, none⟩ = some (.slice ca code.length cc) := h.st.rest 0
  have hlen := h.len
  have hz0 : (0 : Int) ≤ (k : Int) := by omega
  have hz1 : (k : Int) < (code.length : Int) := by omega
  have hz4 : decide ((code.length : Int) ≤ (k : Int)) = false := by simp; omega
  have H := Lib.hid h; have Hpc := Lib.hid hpc; have Hat := Lib.hid hat
  clear h hpc hat
  go_enter Try.func36, Try.ntmps36
  go_wp2_with fail
  go_quiet (fail)
  have h1 := H.out.drewN nq
  have hk1 : KB (fun b => b = g ∨ (Value.slice am s.mem.length cm).ownBlock = some b) w (w.drewN nq) := (KB.refl _ w).drewN nq
  clear c17 c20 H
  generalize w.drewN nq = w1 at h1 hk1 ⊢
  obtain ⟨bb, off, rfl, hw, x0, x1, x2, x3, x4⟩ := els_ins h1.codeE hlt
  rw [Hat.out] at hw x0 x1 x2 x3 x4
  have ha0 := hw.a.1; have hb0 := hw.b.1; have himm := hw.imm
  dsimp only at ha0 hb0 himm x0 x1 x2 x3 x4
  obtain ⟨an, rfl⟩ := Int.eq_ofNat_of_zero_le ha0
  obtain ⟨bn, rfl⟩ := Int.eq_ofNat_of_zero_le hb0
  have han : an < 16 := by omega
  have hbn : bn < 16 := by omega
  have c17 := h1.st.pc
  rw [Hpc.out] at c17
  have c20 : w1.cell? ⟨g, 20, none⟩ = some (.slice (some ⟨bb, off, none⟩) code.length cc) := h1.st.rest 0
  have cra := h1.st.reg han
  have crb := h1.st.reg hbn
  have fra := h1.st.frozen an
  have f17 := h1.st.frozen 17
  have hgl := h1.st.lt
  have hbl : bb < w1.heap.size := World.block_lt_of_cell? _ _ x0
  have hz2 : (0 : Int) ≤ (an : Int) := by omega
  have hz3 : (0 : Int) ≤ (bn : Int) := by omega
  have H1 := Lib.hid h1; have HK1 := Lib.hid hk1; have HW := Lib.hid hw
  clear h1 hk1 hw
  go_wp2_with fail
  go_region_held3 (fun w' => w'.cell? ⟨g, 20, none⟩ = some (.slice (some ⟨bb, off, none⟩) code.length cc) ∧ w'.cell? ⟨g, 17, none⟩ = some (.int .i64 (k : Int)) ∧ w'.cell? ⟨bb, off + k * 5, none⟩ = some (.int .u8 10) ∧ w'.cell? ⟨bb, off + k * 5 + 1, none⟩ = some (.int .u8 (an : Int)) ∧ w'.cell? ⟨bb, off + k * 5 + 2, none⟩ = some (.int .u8 (bn : Int)) ∧ w'.cell? ⟨bb, off + k * 5 + 3, none⟩ = some (.int .u8 c) ∧ w'.cell? ⟨bb, off + k * 5 + 4, none⟩ = some (.int .i32 imm)) (go_keep) (fail)
  go_wp2_with fail
  go_quiet (fail)
  go_wp2_with fail
  go_region
  go_wp2_with fail
  go_ret
  exact ⟨rfl, ((((H1.out.start HK1.out).alloc _).drewN _).setR H1.out.apart han _).setPc H1.out.apart _⟩

set_option maxRecDepth 100000 in
set_option maxHeartbeats 8000000 in
theorem mstep_3 (w : World) (g B : Nat) (am : Option Addr) (cm : Nat) (ca : Option Addr) (cc : Nat) (code : List Ins) (s : St) (h : SIn w g B am cm ca cc code s) (i : Ins) (k : Nat) (hi : At i k code s) (ho : i.op = 3) :
    Calls Try.prog 36 #[.pointer (some ⟨g, 0, none⟩)] w fun e w' => e = .returned (.bool true) ∧ SOut g B am cm ca cc code s.mem.length w { s.setR i.a (wrap64 (s.R i.a * 4294967296 + low32 i.imm)) with pc := (k : Int) + 1 } w' := by
  obtain ⟨hlt, hpc, hat, hop, ha, hb, hc⟩ := hi
  obtain ⟨op, a, b, c, imm⟩ := i
  dsimp only at ho ha hb hc hop ⊢
  subst ho
  have c17 := h.st.pc
  rw [hpc] at c17
  have c20 : w.cell? ⟨g, 20, none⟩ = some (.slice ca code.length cc) := h.st.rest 0
  have hlen := h.len
  have hz0 : (0 : Int) ≤ (k : Int) := by omega
  have hz1 : (k : Int) < (code.length : Int) := by omega
  have hz4 : decide ((code.length : Int) ≤ (k : Int)) = false := by simp; omega
  have H := Lib.hid h; have Hpc := Lib.hid hpc; have Hat := Lib.hid hat
  clear h hpc hat
  go_enter Try.func36, Try.ntmps36
  go_wp2_with fail
  go_quiet (fail)
  have h1 := H.out.drewN nq
  have hk1 : KB (fun b => b = g ∨ (Value.slice am s.mem.length cm).ownBlock = some b) w (w.drewN nq) := (KB.refl _ w).drewN nq
  clear c17 c20 H
  generalize w.drewN nq = w1 at h1 hk1 ⊢
  obtain ⟨bb, off, rfl, hw, x0, x1, x2, x3, x4⟩ := els_ins h1.codeE hlt
  rw [Hat.out] at hw x0 x1 x2 x3 x4
  have ha0 := hw.a.1; have hb0 := hw.b.1; have himm := hw.imm
  dsimp only at ha0 hb0 himm x0 x1 x2 x3 x4
  obtain ⟨an, rfl⟩ := Int.eq_ofNat_of_zero_le ha0
  obtain ⟨bn, rfl⟩ := Int.eq_ofNat_of_zero_le hb0
  have han : an < 16 := by omega
  have hbn : bn < 16 := by omega
  have c17 := h1.st.pc
  rw [Hpc.out] at c17
  have c20 : w1.cell? ⟨g, 20, none⟩ = some (.slice (some ⟨bb, off, none⟩) code.length cc) := h1.st.rest 0
  have cra := h1.st.reg han
  have crb := h1.st.reg hbn
  have fra := h1.st.frozen an
  have f17 := h1.st.frozen 17
  have hgl := h1.st.lt
  have hbl : bb < w1.heap.size := World.block_lt_of_cell? _ _ x0
  have hz2 : (0 : Int) ≤ (an : Int) := by omega
  have hz3 : (0 : Int) ≤ (bn : Int) := by omega
  have H1 := Lib.hid h1; have HK1 := Lib.hid hk1; have HW := Lib.hid hw
  clear h1 hk1 hw
  go_wp2_with fail
  go_region_held3 (fun w' => w'.cell? ⟨g, 20, none⟩ = some (.slice (some ⟨bb, off, none⟩) code.length cc) ∧ w'.cell? ⟨g, 17, none⟩ = some (.int .i64 (k : Int)) ∧ w'.cell? ⟨bb, off + k * 5, none⟩ = some (.int .u8 3) ∧ w'.cell? ⟨bb, off + k * 5 + 1, none⟩ = some (.int .u8 (an : Int)) ∧ w'.cell? ⟨bb, off + k * 5 + 2, none⟩ = some (.int .u8 (bn : Int)) ∧ w'.cell? ⟨bb, off + k * 5 + 3, none⟩ = some (.int .u8 c) ∧ w'.cell? ⟨bb, off + k * 5 + 4, none⟩ = some (.int .i32 imm)) (go_keep) (fail)
  go_wp2_with fail
  go_quiet (fail)
  go_wp2_with fail
  go_region
  go_wp2_with fail
  go_ret
  rw [khigh _ _ ⟨by omega, by omega⟩]
  exact ⟨rfl, ((((H1.out.start HK1.out).alloc _).drewN _).setR H1.out.apart han _).setPc H1.out.apart _⟩

set_option maxRecDepth 100000 in
set_option maxHeartbeats 8000000 in
theorem mstep_8a (w : World) (g B : Nat) (am : Option Addr) (cm : Nat) (ca : Option Addr) (cc : Nat) (code : List Ins) (s : St) (h : SIn w g B am cm ca cc code s) (i : Ins) (k : Nat) (hi : At i k code s) (ho : i.op = 8) (hl : s.R i.a < s.R i.b) :
    Calls Try.prog 36 #[.pointer (some ⟨g, 0, none⟩)] w fun e w' => e = .returned (.bool true) ∧ SOut g B am cm ca cc code s.mem.length w { s with pc := i.imm } w' := by
  obtain ⟨hlt, hpc, hat, hop, ha, hb, hc⟩ := hi
  obtain ⟨op, a, b, c, imm⟩ := i
  dsimp only at ho ha hb hc hop hl ⊢
  subst ho
  have c17 := h.st.pc
  rw [hpc] at c17
  have c20 : w.cell? ⟨g, 20, none⟩ = some (.slice ca code.length cc) := h.st.rest 0
  have hlen := h.len
  have hz0 : (0 : Int) ≤ (k : Int) := by omega
  have hz1 : (k : Int) < (code.length : Int) := by omega
  have hz4 : decide ((code.length : Int) ≤ (k : Int)) = false := by simp; omega
  have H := Lib.hid h; have Hpc := Lib.hid hpc; have Hat := Lib.hid hat
  clear h hpc hat
  go_enter Try.func36, Try.ntmps36
  go_wp2_with fail
  go_quiet (fail)
  have h1 := H.out.drewN nq
  have hk1 : KB (fun b => b = g ∨ (Value.slice am s.mem.length cm).ownBlock = some b) w (w.drewN nq) := (KB.refl _ w).drewN nq
  clear c17 c20 H
  generalize w.drewN nq = w1 at h1 hk1 ⊢
  obtain ⟨bb, off, rfl, hw, x0, x1, x2, x3, x4⟩ := els_ins h1.codeE hlt
  rw [Hat.out] at hw x0 x1 x2 x3 x4
  have ha0 := hw.a.1; have hb0 := hw.b.1; have himm := hw.imm
  dsimp only at ha0 hb0 himm x0 x1 x2 x3 x4
  obtain ⟨an, rfl⟩ := Int.eq_ofNat_of_zero_le ha0
  obtain ⟨bn, rfl⟩ := Int.eq_ofNat_of_zero_le hb0
  have han : an < 16 := by omega
  have hbn : bn < 16 := by omega
  have c17 := h1.st.pc
  rw [Hpc.out] at c17
  have c20 : w1.cell? ⟨g, 20, none⟩ = some (.slice (some ⟨bb, off, none⟩) code.length cc) := h1.st.rest 0
  have cra := h1.st.reg han
  have crb := h1.st.reg hbn
  have fra := h1.st.frozen an
  have f17 := h1.st.frozen 17
  have hgl := h1.st.lt
  have hbl : bb < w1.heap.size := World.block_lt_of_cell? _ _ x0
  have hz2 : (0 : Int) ≤ (an : Int) := by omega
  have hz3 : (0 : Int) ≤ (bn : Int) := by omega
  have H1 := Lib.hid h1; have HK1 := Lib.hid hk1; have HW := Lib.hid hw
  clear h1 hk1 hw
  go_wp2_with fail
  go_region_held3 (fun w' => w'.cell? ⟨g, 20, none⟩ = some (.slice (some ⟨bb, off, none⟩) code.length cc) ∧ w'.cell? ⟨g, 17, none⟩ = some (.int .i64 (k : Int)) ∧ w'.cell? ⟨bb, off + k * 5, none⟩ = some (.int .u8 8) ∧ w'.cell? ⟨bb, off + k * 5 + 1, none⟩ = some (.int .u8 (an : Int)) ∧ w'.cell? ⟨bb, off + k * 5 + 2, none⟩ = some (.int .u8 (bn : Int)) ∧ w'.cell? ⟨bb, off + k * 5 + 3, none⟩ = some (.int .u8 c) ∧ w'.cell? ⟨bb, off + k * 5 + 4, none⟩ = some (.int .i32 imm)) (go_keep) (fail)
  go_wp2_with fail
  go_quiet (fail)
  go_wp2_with fail
  go_quiet (fail)
  go_wp2_with fail
  go_ret
  exact ⟨rfl, (((H1.out.start HK1.out).alloc _).drewN _).setPc H1.out.apart _⟩

set_option maxRecDepth 100000 in
set_option maxHeartbeats 8000000 in
theorem mstep_8b (w : World) (g B : Nat) (am : Option Addr) (cm : Nat) (ca : Option Addr) (cc : Nat) (code : List Ins) (s : St) (h : SIn w g B am cm ca cc code s) (i : Ins) (k : Nat) (hi : At i k code s) (ho : i.op = 8) (hl : ¬ s.R i.a < s.R i.b) :
    Calls Try.prog 36 #[.pointer (some ⟨g, 0, none⟩)] w fun e w' => e = .returned (.bool true) ∧ SOut g B am cm ca cc code s.mem.length w { s with pc := (k : Int) + 1 } w' := by
  obtain ⟨hlt, hpc, hat, hop, ha, hb, hc⟩ := hi
  obtain ⟨op, a, b, c, imm⟩ := i
  dsimp only at ho ha hb hc hop hl ⊢
  subst ho
  have c17 := h.st.pc
  rw [hpc] at c17
  have c20 : w.cell? ⟨g, 20, none⟩ = some (.slice ca code.length cc) := h.st.rest 0
  have hlen := h.len
  have hz0 : (0 : Int) ≤ (k : Int) := by omega
  have hz1 : (k : Int) < (code.length : Int) := by omega
  have hz4 : decide ((code.length : Int) ≤ (k : Int)) = false := by simp; omega
  have H := Lib.hid h; have Hpc := Lib.hid hpc; have Hat := Lib.hid hat
  clear h hpc hat
  go_enter Try.func36, Try.ntmps36
  go_wp2_with fail
  go_quiet (fail)
  have h1 := H.out.drewN nq
  have hk1 : KB (fun b => b = g ∨ (Value.slice am s.mem.length cm).ownBlock = some b) w (w.drewN nq) := (KB.refl _ w).drewN nq
  clear c17 c20 H
  generalize w.drewN nq = w1 at h1 hk1 ⊢
  obtain ⟨bb, off, rfl, hw, x0, x1, x2, x3, x4⟩ := els_ins h1.codeE hlt
  rw [Hat.out] at hw x0 x1 x2 x3 x4
  have ha0 := hw.a.1; have hb0 := hw.b.1; have himm := hw.imm
  dsimp only at ha0 hb0 himm x0 x1 x2 x3 x4
  obtain ⟨an, rfl⟩ := Int.eq_ofNat_of_zero_le ha0
  obtain ⟨bn, rfl⟩ := Int.eq_ofNat_of_zero_le hb0
  have han : an < 16 := by omega
  have hbn : bn < 16 := by omega
  have c17 := h1.st.pc
  rw [Hpc.out] at c17
  have c20 : w1.cell? ⟨g, 20, none⟩ = some (.slice (some ⟨bb, off, none⟩) code.length cc) := h1.st.rest 0
  have cra := h1.st.reg han
  have crb := h1.st.reg hbn
  have fra := h1.st.frozen an
  have f17 := h1.st.frozen 17
  have hgl := h1.st.lt
  have hbl : bb < w1.heap.size := World.block_lt_of_cell? _ _ x0
  have hz2 : (0 : Int) ≤ (an : Int) := by omega
  have hz3 : (0 : Int) ≤ (bn : Int) := by omega
  have H1 := Lib.hid h1; have HK1 := Lib.hid hk1; have HW := Lib.hid hw
  clear h1 hk1 hw
  go_wp2_with fail
  go_region_held3 (fun w' => w'.cell? ⟨g, 20, none⟩ = some (.slice (some ⟨bb, off, none⟩) code.length cc) ∧ w'.cell? ⟨g, 17, none⟩ = some (.int .i64 (k : Int)) ∧ w'.cell? ⟨bb, off + k * 5, none⟩ = some (.int .u8 8) ∧ w'.cell? ⟨bb, off + k * 5 + 1, none⟩ = some (.int .u8 (an : Int)) ∧ w'.cell? ⟨bb, off + k * 5 + 2, none⟩ = some (.int .u8 (bn : Int)) ∧ w'.cell? ⟨bb, off + k * 5 + 3, none⟩ = some (.int .u8 c) ∧ w'.cell? ⟨bb, off + k * 5 + 4, none⟩ = some (.int .i32 imm)) (go_keep) (fail)
  go_wp2_with fail
  go_quiet (fail)
  have hl' : decide (s.R (an : Int) < s.R (bn : Int)) = false := by simpa using hl
  go_wp2_with fail
  go_quiet (fail)
  go_wp2_with fail
  go_ret
  exact ⟨rfl, (((H1.out.start HK1.out).alloc _).drewN _).setPc H1.out.apart _⟩

set_option maxRecDepth 100000 in
set_option maxHeartbeats 8000000 in
theorem mstep_9a (w : World) (g B : Nat) (am : Option Addr) (cm : Nat) (ca : Option Addr) (cc : Nat) (code : List Ins) (s : St) (h : SIn w g B am cm ca cc code s) (i : Ins) (k : Nat) (hi : At i k code s) (ho : i.op = 9) (hl : s.R i.a = 0) :
    Calls Try.prog 36 #[.pointer (some ⟨g, 0, none⟩)] w fun e w' => e = .returned (.bool true) ∧ SOut g B am cm ca cc code s.mem.length w { s with pc := i.imm } w' := by
  obtain ⟨hlt, hpc, hat, hop, ha, hb, hc⟩ := hi
  obtain ⟨op, a, b, c, imm⟩ := i
  dsimp only at ho ha hb hc hop hl ⊢
  subst ho
  have c17 := h.st.pc
  rw [hpc] at c17
  have c20 : w.cell? ⟨g, 20, none⟩ = some (.slice ca code.length cc) := h.st.rest 0
  have hlen := h.len
  have hz0 : (0 : Int) ≤ (k : Int) := by omega
  have hz1 : (k : Int) < (code.length : Int) := by omega
  have hz4 : decide ((code.length : Int) ≤ (k : Int)) = false := by simp; omega
  have H := Lib.hid h; have Hpc := Lib.hid hpc; have Hat := Lib.hid hat
  clear h hpc hat
  go_enter Try.func36, Try.ntmps36
  go_wp2_with fail
  go_quiet (fail)
  have h1 := H.out.drewN nq
  have hk1 : KB (fun b => b = g ∨ (Value.slice am s.mem.length cm).ownBlock = some b) w (w.drewN nq) := (KB.refl _ w).drewN nq
  clear c17 c20 H
  generalize w.drewN nq = w1 at h1 hk1 ⊢
  obtain ⟨bb, off, rfl, hw, x0, x1, x2, x3, x4⟩ := els_ins h1.codeE hlt
  rw [Hat.out] at hw x0 x1 x2 x3 x4
  have ha0 := hw.a.1; have hb0 := hw.b.1; have himm := hw.imm
  dsimp only at ha0 hb0 himm x0 x1 x2 x3 x4
  obtain ⟨an, rfl⟩ := Int.eq_ofNat_of_zero_le ha0
  obtain ⟨bn, rfl⟩ := Int.eq_ofNat_of_zero_le hb0
  have han : an < 16 := by omega
  have hbn : bn < 16 := by omega
  have c17 := h1.st.pc
  rw [Hpc.out] at c17
  have c20 : w1.cell? ⟨g, 20, none⟩ = some (.slice (some ⟨bb, off, none⟩) code.length cc) := h1.st.rest 0
  have cra := h1.st.reg han
  have crb := h1.st.reg hbn
  have fra := h1.st.frozen an
  have f17 := h1.st.frozen 17
  have hgl := h1.st.lt
  have hbl : bb < w1.heap.size := World.block_lt_of_cell? _ _ x0
  have hz2 : (0 : Int) ≤ (an : Int) := by omega
  have hz3 : (0 : Int) ≤ (bn : Int) := by omega
  have H1 := Lib.hid h1; have HK1 := Lib.hid hk1; have HW := Lib.hid hw
  clear h1 hk1 hw
  go_wp2_with fail
  go_region_held3 (fun w' => w'.cell? ⟨g, 20, none⟩ = some (.slice (some ⟨bb, off, none⟩) code.length cc) ∧ w'.cell? ⟨g, 17, none⟩ = some (.int .i64 (k : Int)) ∧ w'.cell? ⟨bb, off + k * 5, none⟩ = some (.int .u8 9) ∧ w'.cell? ⟨bb, off + k * 5 + 1, none⟩ = some (.int .u8 (an : Int)) ∧ w'.cell? ⟨bb, off + k * 5 + 2, none⟩ = some (.int .u8 (bn : Int)) ∧ w'.cell? ⟨bb, off + k * 5 + 3, none⟩ = some (.int .u8 c) ∧ w'.cell? ⟨bb, off + k * 5 + 4, none⟩ = some (.int .i32 imm)) (go_keep) (fail)
  go_wp2_with fail
  go_quiet (fail)
  rw [hl] at cra
  clear hl
  go_wp2_with fail
  go_ret
  exact ⟨rfl, (((H1.out.start HK1.out).alloc _).drewN _).setPc H1.out.apart _⟩

set_option maxRecDepth 100000 in
set_option maxHeartbeats 8000000 in
theorem mstep_9b (w : World) (g B : Nat) (am : Option Addr) (cm : Nat) (ca : Option Addr) (cc : Nat) (code : List Ins) (s : St) (h : SIn w g B am cm ca cc code s) (i : Ins) (k : Nat) (hi : At i k code s) (ho : i.op = 9) (hl : ¬ s.R i.a = 0) :
    Calls Try.prog 36 #[.pointer (some ⟨g, 0, none⟩)] w fun e w' => e = .returned (.bool true) ∧ SOut g B am cm ca cc code s.mem.length w { s with pc := (k : Int) + 1 } w' := by
  obtain ⟨hlt, hpc, hat, hop, ha, hb, hc⟩ := hi
  obtain ⟨op, a, b, c, imm⟩ := i
  dsimp only at ho ha hb hc hop hl ⊢
  subst ho
  have c17 := h.st.pc
  rw [hpc] at c17
  have c20 : w.cell? ⟨g, 20, none⟩ = some (.slice ca code.length cc) := h.st.rest 0
  have hlen := h.len
  have hz0 : (0 : Int) ≤ (k : Int) := by omega
  have hz1 : (k : Int) < (code.length : Int) := by omega
  have hz4 : decide ((code.length : Int) ≤ (k : Int)) = false := by simp; omega
  have H := Lib.hid h; have Hpc := Lib.hid hpc; have Hat := Lib.hid hat
  clear h hpc hat
  go_enter Try.func36, Try.ntmps36
  go_wp2_with fail
  go_quiet (fail)
  have h1 := H.out.drewN nq
  have hk1 : KB (fun b => b = g ∨ (Value.slice am s.mem.length cm).ownBlock = some b) w (w.drewN nq) := (KB.refl _ w).drewN nq
  clear c17 c20 H
  generalize w.drewN nq = w1 at h1 hk1 ⊢
  obtain ⟨bb, off, rfl, hw, x0, x1, x2, x3, x4⟩ := els_ins h1.codeE hlt
  rw [Hat.out] at hw x0 x1 x2 x3 x4
  have ha0 := hw.a.1; have hb0 := hw.b.1; have himm := hw.imm
  dsimp only at ha0 hb0 himm x0 x1 x2 x3 x4
  obtain ⟨an, rfl⟩ := Int.eq_ofNat_of_zero_le ha0
  obtain ⟨bn, rfl⟩ := Int.eq_ofNat_of_zero_le hb0
  have han : an < 16 := by omega
  have hbn : bn < 16 := by omega
  have c17 := h1.st.pc
  rw [Hpc.out] at c17
  have c20 : w1.cell? ⟨g, 20, none⟩ = some (.slice (some ⟨bb, off, none⟩) code.length cc) := h1.st.rest 0
  have cra := h1.st.reg han
  have crb := h1.st.reg hbn
  have fra := h1.st.frozen an
  have f17 := h1.st.frozen 17
  have hgl := h1.st.lt
  have hbl : bb < w1.heap.size := World.block_lt_of_cell? _ _ x0
  have hz2 : (0 : Int) ≤ (an : Int) := by omega
  have hz3 : (0 : Int) ≤ (bn : Int) := by omega
  have H1 := Lib.hid h1; have HK1 := Lib.hid hk1; have HW := Lib.hid hw
  clear h1 hk1 hw
  go_wp2_with fail
  go_region_held3 (fun w' => w'.cell? ⟨g, 20, none⟩ = some (.slice (some ⟨bb, off, none⟩) code.length cc) ∧ w'.cell? ⟨g, 17, none⟩ = some (.int .i64 (k : Int)) ∧ w'.cell? ⟨bb, off + k * 5, none⟩ = some (.int .u8 9) ∧ w'.cell? ⟨bb, off + k * 5 + 1, none⟩ = some (.int .u8 (an : Int)) ∧ w'.cell? ⟨bb, off + k * 5 + 2, none⟩ = some (.int .u8 (bn : Int)) ∧ w'.cell? ⟨bb, off + k * 5 + 3, none⟩ = some (.int .u8 c) ∧ w'.cell? ⟨bb, off + k * 5 + 4, none⟩ = some (.int .i32 imm)) (go_keep) (fail)
  go_wp2_with fail
  go_quiet (fail)
  have hl' : (s.R (an : Int) == 0) = false := by simpa using hl
  go_wp2_with fail
  go_ret
  exact ⟨rfl, (((H1.out.start HK1.out).alloc _).drewN _).setPc H1.out.apart _⟩
end Go.Proofs.Ytegjcghcknpjeaa
