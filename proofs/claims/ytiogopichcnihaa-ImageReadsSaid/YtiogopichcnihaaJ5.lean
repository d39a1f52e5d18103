import Derived.Test.YtiogopichcnihaaJ4
namespace Go.Proofs.Ytiogopichcnihaa
set_option maxRecDepth 100000
open Go.RowKit
set_option linter.unusedVariables false
set_option linter.unusedSimpArgs false

/-! image.Right. -/
theorem offB_e {mem : Int} {s : Slo} (h : (size s.sides).2 = 61) : offB mem s = true := by unfold offB; rw [h]; rfl
theorem offB_ok {mem n : Int} {s : Slo} (h : size s.sides = (n, 0)) : offB mem s = (decide (s.pos < 0) || decide (mem < s.pos) || decide (mem - s.pos < n)) := by unfold offB; rw [h]; simp
set_option maxHeartbeats 4000000 in
theorem off_any (w : World) (mb : Nat) (mem : Int) (x : Slo) (pa : Option Addr) (pc : Nat) (hm : x.sides.length ≤ maxLen) (hi : IntsAt .i64 w pa x.sides) (hp : I64 x.pos) (hc : w.cell? ⟨mb, 1, none⟩ = some (.int .i64 mem)) (h0 : 0 ≤ mem) (h1 : mem ≤ 2097152) :
    Calls Try.prog 27 #[.agg #[.int .i64 x.pos, .slice pa x.sides.length pc], .pointer (some ⟨mb, 0, none⟩)] w fun e w' => e = .returned (.bool (offB mem x)) ∧ Below w.heap.size w w' := by
  have hq := fun o => size_any (w.alloc o) pa pc x.sides hm (hi.below ((Below.refl _ _).alloc (Nat.le_refl _) o) (Nat.le_refl _))
  obtain ⟨pos, sides⟩ := x
  dsimp only at hm hi hp hq ⊢
  obtain ⟨hp0, hp1⟩ := hp
  obtain ⟨r, hr⟩ : ∃ r, offB mem ⟨pos, sides⟩ = r := ⟨_, rfl⟩
  rw [hr]
  rcases size_err sides with he | ⟨n, he⟩
  · rw [offB_e (by dsimp only; rw [he])] at hr
    rw [he] at hq
    subst hr
    have HQ := Lib.hid hq
    clear hq hi he
    go_enter Try.func27, Try.ntmps27
    go_wp2_with fail
    refine (HQ.out _).mono ?_
    rintro e w1 ⟨rfl, hb1⟩
    unfold two
    have HB1 := Lib.hid (bNext hb1 ((Below.refl _ _).alloc (Nat.le_refl _) _))
    clear hb1 HQ
    go_wp2_with fail
    go_ret
    exact ⟨rfl, HB1.out⟩
  · rw [offB_ok (by dsimp only; exact he)] at hr
    rw [he] at hq
    have HQ := Lib.hid hq; have HR := Lib.hid hr
    clear hq hi he hr
    go_enter Try.func27, Try.ntmps27
    go_wp2_with fail
    refine (HQ.out _).mono ?_
    rintro e w1 ⟨rfl, hb1⟩
    unfold two
    have hcc := cell_of_row w1 w.heap.size 0 _ _ _ (new1 hb1)
    have hc1 : w1.cell? ⟨mb, 1, none⟩ = some (.int .i64 mem) := keepCell (bNext hb1 ((Below.refl _ _).alloc (Nat.le_refl _) _)) hc
    have HB1 := Lib.hid (bNext hb1 ((Below.refl _ _).alloc (Nat.le_refl _) _))
    clear hb1 HQ hc
    by_cases c0 : pos < 0
    · have HG := Lib.hid (show true = r by rw [← HR.out]; simp [c0])
      go_wp2_with fail
      go_ret
      exact ⟨ret_bool HG.out, HB1.out⟩
    have c0' : decide (pos < 0) = false := by simpa using c0
    by_cases c1 : mem < pos
    · have HG := Lib.hid (show true = r by rw [← HR.out]; simp [c1])
      go_wp2_with fail
      go_ret
      exact ⟨ret_bool HG.out, HB1.out⟩
    have c1' : decide (mem < pos) = false := by simpa using c1
    by_cases c2 : mem - pos < n
    · have HG := Lib.hid (show true = r by rw [← HR.out]; simp [c2])
      have c2' : decide (mem - pos < n) = true := by simpa using c2
      go_wp2_with fail
      go_ret
      exact ⟨ret_bool HG.out, HB1.out⟩
    · have HG := Lib.hid (show false = r by rw [← HR.out]; simp [c0, c1, c2])
      have c2' : decide (mem - pos < n) = false := by simpa using c2
      go_wp2_with fail
      go_ret
      exact ⟨ret_bool HG.out, HB1.out⟩
theorem right2_any (w : World) (s : Int) : Calls Try.prog 30 #[.int .i64 s] w fun e w' => e = .returned (.bool (badSide s)) ∧ w = w' := by
  by_cases c0 : s < 0
  · go_enter Try.func30, Try.ntmps30
    go_wp2_with fail
    go_ret
    exact ⟨ret_bool (by simp [badSide, c0]), rfl⟩
  · have c0' : decide (s < 0) = false := by simpa using c0
    go_enter Try.func30, Try.ntmps30
    go_wp2_with fail
    go_ret
    exact ⟨ret_bool (by rw [badSide, c0', Bool.false_or]), rfl⟩
theorem right3_any (w : World) (x : Ins) (hx : x.wf) : Calls Try.prog 33 #[x.V] w fun e w' => e = .returned (.bool (!x.right)) ∧ Below w.heap.size w w' := by
  obtain ⟨op, a, b, c, imm⟩ := x
  have ho := hx.op
  simp only [] at ho
  have hr := fun o => isaRight_any (w.alloc o) op a b c imm ho.1 ho.2
  have he : Ins.right ⟨op, a, b, c, imm⟩ = insRight op a b c imm := rfl
  rw [he]
  obtain ⟨r, hrr⟩ : ∃ r, insRight op a b c imm = r := ⟨_, rfl⟩
  rw [hrr] at hr ⊢
  have HR := Lib.hid hr
  clear hr he hrr ho
  show Calls Try.prog 33 #[.agg #[.int .u8 op, .int .u8 a, .int .u8 b, .int .u8 c, .int .i32 imm]] w _
  go_enter Try.func33, Try.ntmps33
  go_wp2_with fail
  refine (HR.out _).mono ?_
  rintro e w1 ⟨rfl, hb1⟩
  have HB1 := Lib.hid (bNext hb1 ((Below.refl _ _).alloc (Nat.le_refl _) _))
  clear hb1
  go_wp2_with fail
  go_ret
  exact ⟨rfl, HB1.out⟩
theorem imgRight_sizes {m : Img} (h : imgSizes m = false) : imgRight m = false := by unfold imgRight; rw [h]; rfl
theorem enters {f : FuncId} {fn : Func} {c : Code} (hf : Try.prog.funcs[f]? = some fn) (hname : (fn.name == "runtime.NumGoroutine") = false) (hb : fn.body = some c) : ∀ (args : Array Value) (w : World), (callFunc f args).run Try.prog w = .ok (.enter f args) w :=
  fun args w => callFunc_enter hf hname hb args w
set_option maxHeartbeats 8000000 in
theorem iright_any (w : World) (vd vi vo vc : Value) (m : Img) (h : ImgAt w vd vi vo vc m) :
    Calls Try.prog 12 #[.agg #[vd, .int .i64 m.mem, vi, vo, vc]] w fun e w' => e = .returned (.bool (imgRight m)) ∧ Below w.heap.size w w' := by
  obtain ⟨⟨da, dc, rfl, d1, d2, d3⟩, ⟨ia, ic, rfl, i1, i2, i3, i4⟩, ⟨oa, oc, rfl, o1, o2, o3, o4⟩, ⟨ca, cc, rfl, c1, c2, c3, c4⟩, hm⟩ := h
  have HD := Lib.hid d3; have HI := Lib.hid i4; have HO := Lib.hid o4; have HC := Lib.hid c4
  have hdl : m.dims.length ≤ maxLen := Nat.le_trans d1 d2
  have hil : m.ins.length ≤ maxLen := Nat.le_trans i1 i2
  have hol : m.outs.length ≤ maxLen := Nat.le_trans o1 o2
  have hcl : m.code.length ≤ maxLen := Nat.le_trans c1 c2
  have HDL := Lib.hid hdl; have HIL := Lib.hid hil; have HOL := Lib.hid hol; have HCL := Lib.hid hcl
  clear d1 d2 d3 i1 i2 i3 i4 o1 o2 o3 o4 c1 c2 c3 c4 hdl hil hol hcl
  have HS := Lib.hid (@imgRight_sizes m)
  have hr : imgSizes m = true → imgRight m = (!m.dims.any badSide && !m.ins.any (offB m.mem) && !m.outs.any (offB m.mem) && !m.code.any (fun i => !i.right)) := fun h => by unfold imgRight; rw [h]; rfl
  have HR := Lib.hid hr
  clear hr
  obtain ⟨hm0, hm1⟩ := hm
  obtain ⟨res, hres⟩ : ∃ r, imgRight m = r := ⟨_, rfl⟩
  rw [hres]
  have HRES := Lib.hid hres
  clear hres
  obtain ⟨mem, hmem⟩ : ∃ x, m.mem = x := ⟨_, rfl⟩
  rw [hmem] at hm0 hm1 ⊢
  have HMEM := Lib.hid hmem
  clear hmem
  go_enter Try.func12, Try.ntmps12
  go_upto_region 1 with fail
  refine gen_worldA (fun W => Below w.heap.size w W ∧ W.heap.size = w.heap.size + 1 ∧ W.heap[w.heap.size]? = some (.cells #[.slice da m.dims.length dc, .int .i64 mem, .slice ia m.ins.length ic, .slice oa m.outs.length oc, .slice ca m.code.length cc] 26 (0, 0))) ⟨(Below.refl _ _).alloc (Nat.le_refl _) _, by simp, World.alloc_heap_new _ _⟩ ?_
  rintro W ⟨hb, hsz, hM⟩
  have x0 := cell_of_row W w.heap.size 0 _ _ _ hM; have x1 := cell_of_row W w.heap.size 1 _ _ _ hM; have x2 := cell_of_row W w.heap.size 2 _ _ _ hM; have x3 := cell_of_row W w.heap.size 3 _ _ _ hM; have x4 := cell_of_row W w.heap.size 4 _ _ _ hM
  have HB := Lib.hid hb; have HM := Lib.hid hM
  clear hb hM
  by_cases a0 : 6 < m.dims.length
  · have HG := Lib.hid (show false = res from by rw [← HRES.out]; exact (HS.out (by unfold imgSizes; simp [show ¬ m.dims.length ≤ 6 from by omega])).symm)
    have a0' : decide ((6 : Int) < (m.dims.length : Int)) = true := by rw [decide_eq_true_iff]; omega
    go_wp2_with fail
    go_ret
    exact ⟨ret_bool HG.out, HB.out⟩
  have a0' : decide ((6 : Int) < (m.dims.length : Int)) = false := by rw [decide_eq_false_iff_not]; omega
  by_cases a1 : mem < 0
  · have HG := Lib.hid (show false = res from by rw [← HRES.out]; exact (HS.out (by unfold imgSizes; rw [HMEM.out]; simp [show ¬ 0 ≤ mem from by omega])).symm)
    go_wp2_with fail
    go_ret
    exact ⟨ret_bool HG.out, HB.out⟩
  have a1' : decide (mem < 0) = false := by simpa using a1
  by_cases a2 : 2097152 < mem
  · have HG := Lib.hid (show false = res from by rw [← HRES.out]; exact (HS.out (by unfold imgSizes; rw [HMEM.out]; simp [show ¬ mem ≤ 2097152 from by omega])).symm)
    go_wp2_with fail
    go_ret
    exact ⟨ret_bool HG.out, HB.out⟩
  have a2' : decide (2097152 < mem) = false := by simpa using a2
  by_cases a3 : 64 < m.ins.length
  · have HG := Lib.hid (show false = res from by rw [← HRES.out]; exact (HS.out (by unfold imgSizes; simp [show ¬ m.ins.length ≤ 64 from by omega])).symm)
    have a3' : decide ((64 : Int) < (m.ins.length : Int)) = true := by rw [decide_eq_true_iff]; omega
    go_wp2_with fail
    go_ret
    exact ⟨ret_bool HG.out, HB.out⟩
  have a3' : decide ((64 : Int) < (m.ins.length : Int)) = false := by rw [decide_eq_false_iff_not]; omega
  by_cases a4 : 64 < m.outs.length
  · have HG := Lib.hid (show false = res from by rw [← HRES.out]; exact (HS.out (by unfold imgSizes; simp [show ¬ m.outs.length ≤ 64 from by omega])).symm)
    have a4' : decide ((64 : Int) < (m.outs.length : Int)) = true := by rw [decide_eq_true_iff]; omega
    go_wp2_with fail
    go_ret
    exact ⟨ret_bool HG.out, HB.out⟩
  have a4' : decide ((64 : Int) < (m.outs.length : Int)) = false := by rw [decide_eq_false_iff_not]; omega
  by_cases a5 : 32768 < m.code.length
  · have HG := Lib.hid (show false = res from by rw [← HRES.out]; exact (HS.out (by unfold imgSizes; simp [show ¬ m.code.length ≤ 32768 from by omega])).symm)
    have a5' : decide ((32768 : Int) < (m.code.length : Int)) = true := by rw [decide_eq_true_iff]; omega
    go_wp2_with fail
    go_ret
    exact ⟨ret_bool HG.out, HB.out⟩
  have a5' : decide ((32768 : Int) < (m.code.length : Int)) = false := by rw [decide_eq_false_iff_not]; omega
  have hrr := HR.out (by unfold imgSizes; rw [HMEM.out]; simp; omega)
  rw [HRES.out, HMEM.out] at hrr
  have q1 := containsFunc_any W da dc m.dims 30 #[] badSide (enters Try.func30 (by kernel_rfl) rfl) HDL.out (HD.out.below HB.out (Nat.le_refl _)) (fun x _ w' _ => (right2_any w' x).mono fun _ _ ⟨he, hw⟩ => ⟨he, hw ▸ Below.refl _ _⟩)
  have tells : ∀ W2, Below W.heap.size W W2 → TellsS W2 27 #[.pointer (some ⟨w.heap.size, 0, none⟩)] (offB mem) := fun W2 hb2 x w' hb' pa pc hl hi hp =>
    off_any w' w.heap.size mem x pa pc hl hi hp (keepCell hb' (keepCell hb2 x1)) (by omega) (by omega)
  have q2 := fun W2 (hb2 : Below W.heap.size W W2) => containsFuncS W2 ia ic m.ins 27 #[.pointer (some ⟨w.heap.size, 0, none⟩)] (offB mem) (enters Try.func27 (by kernel_rfl) rfl) HIL.out (HI.out.below slotRep (bNext hb2 HB.out) (Nat.le_refl _)) (tells W2 hb2)
  have q3 := fun W2 (hb2 : Below W.heap.size W W2) => containsFuncS W2 oa oc m.outs 27 #[.pointer (some ⟨w.heap.size, 0, none⟩)] (offB mem) (enters Try.func27 (by kernel_rfl) rfl) HOL.out (HO.out.below slotRep (bNext hb2 HB.out) (Nat.le_refl _)) (tells W2 hb2)
  have q4 := fun W2 (hb2 : Below W.heap.size W W2) => containsFuncI W2 ca cc m.code 33 (fun i => !i.right) (enters Try.func33 (by kernel_rfl) rfl) HCL.out (HC.out.below insRep (bNext hb2 HB.out) (Nat.le_refl _)) (fun x hx w' => right3_any w' x hx)
  generalize m.dims.any badSide = b1 at q1 hrr
  generalize m.ins.any (offB mem) = b2 at q2 hrr
  generalize m.outs.any (offB mem) = b3 at q3 hrr
  generalize (m.code.any fun i => !i.right) = b4 at q4 hrr
  have Q1 := Lib.hid q1; have Q2 := Lib.hid q2; have Q3 := Lib.hid q3; have Q4 := Lib.hid q4; have HRR := Lib.hid hrr
  clear q1 q2 q3 q4 tells hrr
  cases b1 with
  | true =>
    go_wp2_with fail
    refine Q1.out.mono ?_
    rintro e W1 ⟨rfl, hb1⟩
    have HB1 := Lib.hid (bNext hb1 HB.out)
    clear hb1
    go_wp2_with fail
    go_ret
    exact ⟨ret_bool (by rw [HRR.out]; rfl), HB1.out⟩
  | false =>
    go_wp2_with fail
    refine Q1.out.mono ?_
    rintro e W1 ⟨rfl, hb1⟩
    have HB1 := Lib.hid hb1
    have y2 := keepCell hb1 x2; have y3 := keepCell hb1 x3; have y4 := keepCell hb1 x4
    clear hb1 x0 x1 x2 x3 x4
    go_wp2_with fail
    refine (Q2.out _ HB1.out).mono ?_
    rintro e W2 ⟨rfl, hb2⟩
    have HB2 := Lib.hid (HB1.out.trans (hb2.mono HB1.out.size))
    have z3 := keepCell hb2 y3; have z4 := keepCell hb2 y4
    clear hb2 y2 y3 y4
    cases b2 with
    | true =>
      go_wp2_with fail
      go_ret
      exact ⟨ret_bool (by rw [HRR.out]; rfl), bNext HB2.out HB.out⟩
    | false =>
      go_wp2_with fail
      refine (Q3.out _ HB2.out).mono ?_
      rintro e W3 ⟨rfl, hb3⟩
      have HB3 := Lib.hid (HB2.out.trans (hb3.mono HB2.out.size))
      have t4 := keepCell hb3 z4
      clear hb3 z3 z4
      cases b3 with
      | true =>
        go_wp2_with fail
        go_ret
        exact ⟨ret_bool (by rw [HRR.out]; rfl), bNext HB3.out HB.out⟩
      | false =>
        go_wp2_with fail
        refine (Q4.out _ HB3.out).mono ?_
        rintro e W4 ⟨rfl, hb4⟩
        have HB4 := Lib.hid (HB3.out.trans (hb4.mono HB3.out.size))
        clear hb4 t4
        go_wp2_with fail
        go_ret
        exact ⟨ret_bool (by rw [HRR.out]; cases b4 <;> rfl), bNext HB4.out HB.out⟩
end Go.Proofs.Ytiogopichcnihaa
