import Derived.Test.YtegjcghcknpjeaaP0
namespace Go.Proofs.Ytegjcghcknpjeaa
open Go.RowKit

def leadsB (op : Int) : Bool := op == 7 || op == 8 || op == 9
/-- is a piece right? -/
def Piece.right (p : Piece) : Bool := decide (0 ≤ p.mark) && decide (0 ≤ p.to) && p.ins.right && (p.to == 0 || (leadsB p.ins.op && p.ins.imm == 0))

theorem leads_any (w : World) (op a b c imm : Int) : Calls Try.prog 29 #[.agg #[.int .u8 op, .int .u8 a, .int .u8 b, .int .u8 c, .int .i32 imm]] w fun e w' => e = .returned (.bool (leadsB op)) ∧ Below w.heap.size w w' := by
  by_cases h7 : (op == 7) = true
  · go_enter Try.func29, Try.ntmps29
    go_wp2
    go_ret
    exact ⟨ret_bool (by simp [leadsB, h7]), (Below.refl _ _).alloc (Nat.le_refl _) _⟩
  · have h7' : (op == 7) = false := by simpa using h7
    by_cases h8 : (op == 8) = true
    · go_enter Try.func29, Try.ntmps29
      go_wp2
      go_ret
      exact ⟨ret_bool (by simp [leadsB, h8]), (Below.refl _ _).alloc (Nat.le_refl _) _⟩
    · have h8' : (op == 8) = false := by simpa using h8
      go_enter Try.func29, Try.ntmps29
      go_wp2
      go_ret
      exact ⟨ret_bool (by simp only [leadsB, h7', h8', Bool.false_or]), (Below.refl _ _).alloc (Nat.le_refl _) _⟩
theorem rleads_any (w : World) (op : Int) : Calls Try.prog 32 #[.int .u8 op] w fun e w' => e = .returned (.bool (leadsB op)) ∧ Below w.heap.size w w' := by
  by_cases h7 : (op == 7) = true
  · go_enter Try.func32, Try.ntmps32
    go_wp2
    go_ret
    exact ⟨ret_bool (by simp [leadsB, h7]), Below.refl _ _⟩
  · have h7' : (op == 7) = false := by simpa using h7
    by_cases h8 : (op == 8) = true
    · go_enter Try.func32, Try.ntmps32
      go_wp2
      go_ret
      exact ⟨ret_bool (by simp [leadsB, h8]), Below.refl _ _⟩
    · have h8' : (op == 8) = false := by simpa using h8
      go_enter Try.func32, Try.ntmps32
      go_wp2
      go_ret
      exact ⟨ret_bool (by simp only [leadsB, h7', h8', Bool.false_or]), Below.refl _ _⟩

set_option maxHeartbeats 4000000 in
theorem pright_any (w : World) (p : Piece) (hp : p.wf) : Calls Try.prog 22 #[p.V] w fun e w' => e = .returned (.bool p.right) ∧ Below w.heap.size w w' := by
  obtain ⟨m, ⟨op, a, b, c, imm⟩, t⟩ := p
  obtain ⟨-, ⟨ho, -, -, -, -⟩, -⟩ := hp
  simp only [] at ho
  have hr := fun o => isaRight_any (w.alloc o) op a b c imm ho.1 ho.2
  have hb0 : ∀ o, Below w.heap.size w (w.alloc o) := fun o => (Below.refl _ _).alloc (Nat.le_refl _) o
  have he : Piece.right ⟨m, ⟨op, a, b, c, imm⟩, t⟩ = (decide (0 ≤ m) && decide (0 ≤ t) && insRight op a b c imm && (t == 0 || (leadsB op && imm == 0))) := rfl
  generalize insRight op a b c imm = r at hr he
  have HR := Lib.hid hr; have HB := Lib.hid hb0; have HE := Lib.hid he; clear hr hb0 he ho
  unfold Piece.V
  simp only []
  by_cases hm : m < 0
  · go_enter Try.func22, Try.ntmps22
    go_wp2
    go_ret
    exact ⟨ret_bool (by rw [HE.out]; simp; omega), HB.out _⟩
  · have hm' : decide (m < 0) = false := by simpa using hm
    by_cases ht : t < 0
    · go_enter Try.func22, Try.ntmps22
      go_wp2
      go_ret
      exact ⟨ret_bool (by rw [HE.out]; simp; omega), HB.out _⟩
    · have ht' : decide (t < 0) = false := by simpa using ht
      have h1 : decide (0 ≤ m) = true := by simpa using hm
      have h2 : decide (0 ≤ t) = true := by simpa using ht
      cases r with
      | false =>
        have HE2 := Lib.hid (HE.out.trans (show _ = false from by simp)); clear HE
        clear h1 h2
        go_enter Try.func22, Try.ntmps22
        go_wp2_with fail
        refine (HR.out _).mono ?_
        rintro e w1 ⟨rfl, hb⟩
        go_wp2_with fail
        go_ret
        exact ⟨ret_bool HE2.out.symm, (HB.out _).trans (hb.mono (by simp))⟩
      | true =>
        rw [h1, h2] at HE
        have H2 := Lib.hid h1; have H3 := Lib.hid h2
        clear h1 h2
        by_cases h0 : (t == 0) = true
        · go_enter Try.func22, Try.ntmps22
          go_wp2_with fail
          refine (HR.out _).mono ?_
          rintro e w1 ⟨rfl, hb⟩
          have hc : w1.cell? ⟨w.heap.size, 6, none⟩ = some (.int .i64 t) := by rw [hb.cell (p := ⟨w.heap.size, 6, none⟩) (by simp)]; simp [go_sem]
          go_wp2_with fail
          go_ret
          exact ⟨ret_bool (by rw [HE.out, h0]; rfl), (HB.out _).trans (hb.mono (by simp))⟩
        · have h0' : (t == 0) = false := by simpa using h0
          have hl := fun W => leads_any W op a b c imm
          cases hlb : leadsB op with
          | false =>
            rw [hlb] at hl
            have HL := Lib.hid hl; have HLB := Lib.hid hlb; clear hl hlb
            go_enter Try.func22, Try.ntmps22
            go_wp2_with fail
            refine (HR.out _).mono ?_
            rintro e w1 ⟨rfl, hb⟩
            have hcc : ∀ j, w1.cell? ⟨w.heap.size, j, none⟩ = #[Value.int .i64 m, .int .u8 op, .int .u8 a, .int .u8 b, .int .u8 c, .int .i32 imm, .int .i64 t][j]? := fun j => by
              rw [hb.cell (p := ⟨w.heap.size, j, none⟩) (by simp), cell_of_row _ w.heap.size j _ _ _ (World.alloc_heap_new w _)]
            have c6 := hcc 6; have c1 := hcc 1; have c2 := hcc 2; have c3 := hcc 3; have c4 := hcc 4; have c5 := hcc 5
            clear hcc
            simp only [List.getElem?_toArray, List.getElem?_cons_succ, List.getElem?_cons_zero] at c1 c2 c3 c4 c5 c6
            go_wp2_with fail
            refine (HL.out _).mono ?_
            rintro e w2 ⟨rfl, hb2⟩
            go_wp2_with fail
            go_ret
            exact ⟨ret_bool (by rw [HE.out, h0', HLB.out]; rfl), bNext hb2 ((HB.out _).trans (hb.mono (by simp)))⟩
          | true =>
            rw [hlb] at hl
            have HL := Lib.hid hl; have HLB := Lib.hid hlb; clear hl hlb
            go_enter Try.func22, Try.ntmps22
            go_wp2_with fail
            refine (HR.out _).mono ?_
            rintro e w1 ⟨rfl, hb⟩
            have hcc : ∀ j, w1.cell? ⟨w.heap.size, j, none⟩ = #[Value.int .i64 m, .int .u8 op, .int .u8 a, .int .u8 b, .int .u8 c, .int .i32 imm, .int .i64 t][j]? := fun j => by
              rw [hb.cell (p := ⟨w.heap.size, j, none⟩) (by simp), cell_of_row _ w.heap.size j _ _ _ (World.alloc_heap_new w _)]
            have c6 := hcc 6; have c1 := hcc 1; have c2 := hcc 2; have c3 := hcc 3; have c4 := hcc 4; have c5 := hcc 5
            clear hcc
            simp only [List.getElem?_toArray, List.getElem?_cons_succ, List.getElem?_cons_zero] at c1 c2 c3 c4 c5 c6
            go_wp2_with fail
            refine (HL.out _).mono ?_
            rintro e w2 ⟨rfl, hb2⟩
            have hlt : w.heap.size < w1.heap.size := by have := hb.size; simp at this; omega
            have d5 := (hb2.cell (p := ⟨w.heap.size, 5, none⟩) hlt).trans c5
            go_wp2_with fail
            go_ret
            exact ⟨ret_bool (by rw [HE.out, h0', HLB.out]; rfl), bNext hb2 ((HB.out _).trans (hb.mono (by simp)))⟩
set_option maxHeartbeats 4000000 in
theorem rpright_any (w : World) (p : Piece) (hp : p.wf) : Calls Try.prog 23 #[p.V] w fun e w' => e = .returned (.bool p.right) ∧ Below w.heap.size w w' := by
  obtain ⟨m, ⟨op, a, b, c, imm⟩, t⟩ := p
  obtain ⟨-, ⟨ho, -, -, -, -⟩, -⟩ := hp
  simp only [] at ho
  have hr := fun o => rRight_any (w.alloc o) op a b c imm ho.1 ho.2
  have hb0 : ∀ o, Below w.heap.size w (w.alloc o) := fun o => (Below.refl _ _).alloc (Nat.le_refl _) o
  have he : Piece.right ⟨m, ⟨op, a, b, c, imm⟩, t⟩ = (decide (0 ≤ m) && decide (0 ≤ t) && insRight op a b c imm && (t == 0 || (leadsB op && imm == 0))) := rfl
  generalize insRight op a b c imm = r at hr he
  have HR := Lib.hid hr; have HB := Lib.hid hb0; have HE := Lib.hid he; clear hr hb0 he ho
  unfold Piece.V
  simp only []
  by_cases hm : m < 0
  · go_enter Try.func23, Try.ntmps23
    go_wp2
    go_ret
    exact ⟨ret_bool (by rw [HE.out]; simp; omega), HB.out _⟩
  · have hm' : decide (m < 0) = false := by simpa using hm
    by_cases ht : t < 0
    · go_enter Try.func23, Try.ntmps23
      go_wp2
      go_ret
      exact ⟨ret_bool (by rw [HE.out]; simp; omega), HB.out _⟩
    · have ht' : decide (t < 0) = false := by simpa using ht
      have h1 : decide (0 ≤ m) = true := by simpa using hm
      have h2 : decide (0 ≤ t) = true := by simpa using ht
      cases r with
      | false =>
        have HE2 := Lib.hid (HE.out.trans (show _ = false from by simp)); clear HE
        clear h1 h2
        go_enter Try.func23, Try.ntmps23
        go_wp2_with fail
        refine (HR.out _).mono ?_
        rintro e w1 ⟨rfl, hb⟩
        go_wp2_with fail
        go_ret
        exact ⟨ret_bool HE2.out.symm, (HB.out _).trans (hb.mono (by simp))⟩
      | true =>
        rw [h1, h2] at HE
        have H2 := Lib.hid h1; have H3 := Lib.hid h2
        clear h1 h2
        by_cases h0 : (t == 0) = true
        · go_enter Try.func23, Try.ntmps23
          go_wp2_with fail
          refine (HR.out _).mono ?_
          rintro e w1 ⟨rfl, hb⟩
          have hc : w1.cell? ⟨w.heap.size, 6, none⟩ = some (.int .i64 t) := by rw [hb.cell (p := ⟨w.heap.size, 6, none⟩) (by simp)]; simp [go_sem]
          go_wp2_with fail
          go_ret
          exact ⟨ret_bool (by rw [HE.out, h0]; rfl), (HB.out _).trans (hb.mono (by simp))⟩
        · have h0' : (t == 0) = false := by simpa using h0
          have hl := fun W => rleads_any W op
          cases hlb : leadsB op with
          | false =>
            rw [hlb] at hl
            have HL := Lib.hid hl; have HLB := Lib.hid hlb; clear hl hlb
            go_enter Try.func23, Try.ntmps23
            go_wp2_with fail
            refine (HR.out _).mono ?_
            rintro e w1 ⟨rfl, hb⟩
            have hcc : ∀ j, w1.cell? ⟨w.heap.size, j, none⟩ = #[Value.int .i64 m, .int .u8 op, .int .u8 a, .int .u8 b, .int .u8 c, .int .i32 imm, .int .i64 t][j]? := fun j => by
              rw [hb.cell (p := ⟨w.heap.size, j, none⟩) (by simp), cell_of_row _ w.heap.size j _ _ _ (World.alloc_heap_new w _)]
            have c6 := hcc 6; have c1 := hcc 1; have c2 := hcc 2; have c3 := hcc 3; have c4 := hcc 4; have c5 := hcc 5
            clear hcc
            simp only [List.getElem?_toArray, List.getElem?_cons_succ, List.getElem?_cons_zero] at c1 c2 c3 c4 c5 c6
            go_wp2_with fail
            refine (HL.out _).mono ?_
            rintro e w2 ⟨rfl, hb2⟩
            go_wp2_with fail
            go_ret
            exact ⟨ret_bool (by rw [HE.out, h0', HLB.out]; rfl), bNext hb2 ((HB.out _).trans (hb.mono (by simp)))⟩
          | true =>
            rw [hlb] at hl
            have HL := Lib.hid hl; have HLB := Lib.hid hlb; clear hl hlb
            go_enter Try.func23, Try.ntmps23
            go_wp2_with fail
            refine (HR.out _).mono ?_
            rintro e w1 ⟨rfl, hb⟩
            have hcc : ∀ j, w1.cell? ⟨w.heap.size, j, none⟩ = #[Value.int .i64 m, .int .u8 op, .int .u8 a, .int .u8 b, .int .u8 c, .int .i32 imm, .int .i64 t][j]? := fun j => by
              rw [hb.cell (p := ⟨w.heap.size, j, none⟩) (by simp), cell_of_row _ w.heap.size j _ _ _ (World.alloc_heap_new w _)]
            have c6 := hcc 6; have c1 := hcc 1; have c2 := hcc 2; have c3 := hcc 3; have c4 := hcc 4; have c5 := hcc 5
            clear hcc
            simp only [List.getElem?_toArray, List.getElem?_cons_succ, List.getElem?_cons_zero] at c1 c2 c3 c4 c5 c6
            go_wp2_with fail
            refine (HL.out _).mono ?_
            rintro e w2 ⟨rfl, hb2⟩
            have hlt : w.heap.size < w1.heap.size := by have := hb.size; simp at this; omega
            have d5 := (hb2.cell (p := ⟨w.heap.size, 5, none⟩) hlt).trans c5
            go_wp2_with fail
            go_ret
            exact ⟨ret_bool (by rw [HE.out, h0', HLB.out]; rfl), bNext hb2 ((HB.out _).trans (hb.mono (by simp)))⟩
end Go.Proofs.Ytegjcghcknpjeaa
