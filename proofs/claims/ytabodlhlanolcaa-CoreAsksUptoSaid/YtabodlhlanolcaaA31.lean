import Derived.Test.YtabodlhlanolcaaA30
namespace Go.Proofs.Ytabodlhlanolcaa
set_option maxRecDepth 100000
open Go.RowKit
set_option linter.unusedVariables false
set_option linter.unusedSimpArgs false
attribute [local go_sem ↓] Go.wp_at_zero Go.wp_at_succ

/-! windrowlaw10.shown. -/
def shOp0 : Cop := ⟨1, 0, 2, [], 0⟩
def shOp1 : Cop := ⟨1, 0, 3, [], 0⟩
def shOp2 : Cop := ⟨6, 0, 0, [], 1⟩
def CopCs (o : Cop) : List Value := [.int .i64 o.how, .int .i64 o.k, .int .i64 o.n, .slice none 0 0, .int .u8 o.fn]
theorem copCs_at (w : World) (o : Cop) (hp : o.p = []) (h1 : I64 o.how) (h2 : I64 o.k) (h3 : I64 o.n) (h4 : U8 o.fn) : copRep.At w (CopCs o) o := ⟨_, rfl, by rw [hp]; exact Rep.Sl.nil _ _, h1, h2, h3, h4⟩
theorem sh_els {w : World} {g : Nat} (h : w.heap[g]? = some (.cells (CopCs shOp0 ++ CopCs shOp1 ++ CopCs shOp2).toArray 48 (0, 0))) : copRep.Els w (some ⟨g, 0, none⟩) [shOp0, shOp1, shOp2] ∧ copRep.Els w (some ⟨g, 10, none⟩) [shOp2] := by
  have a0 := copCs_at w shOp0 rfl (by unfold I64; decide) (by unfold I64; decide) (by unfold I64; decide) (by unfold U8; decide)
  have a1 := copCs_at w shOp1 rfl (by unfold I64; decide) (by unfold I64; decide) (by unfold I64; decide) (by unfold U8; decide)
  have a2 := copCs_at w shOp2 rfl (by unfold I64; decide) (by unfold I64; decide) (by unfold I64; decide) (by unfold U8; decide)
  refine ⟨Rep.lit_els h fun i hi => ?_, fun i hi => ?_⟩
  · match i, hi with
    | 0, _ => exact ⟨_, a0, fun j v hj => by
        match j with
        | 0 => exact hj
        | 1 => exact hj
        | 2 => exact hj
        | 3 => exact hj
        | 4 => exact hj
        | j + 5 => cases hj⟩
    | 1, _ => exact ⟨_, a1, fun j v hj => by
        match j with
        | 0 => exact hj
        | 1 => exact hj
        | 2 => exact hj
        | 3 => exact hj
        | 4 => exact hj
        | j + 5 => cases hj⟩
    | 2, _ => exact ⟨_, a2, fun j v hj => by
        match j with
        | 0 => exact hj
        | 1 => exact hj
        | 2 => exact hj
        | 3 => exact hj
        | 4 => exact hj
        | j + 5 => cases hj⟩
  · have : i = 0 := by simpa using hi
    subst this
    refine ⟨g, 10, _, rfl, a2, fun j v hj => (blockCells h _).trans ?_⟩
    match j with
    | 0 => exact hj
    | 1 => exact hj
    | 2 => exact hj
    | 3 => exact hj
    | 4 => exact hj
    | j + 5 => cases hj
theorem in1 (w : World) : Calls Try.prog 21 #[.int .i64 1] w fun e w' => (∃ ba bc, e = .returned (corV (inCor 1) ba none none bc 0 0) ∧ CorEls w' (inCor 1) ba none none) ∧ Below w.heap.size w w' := input_any w 1 (by decide)
theorem in2 (w : World) : Calls Try.prog 21 #[.int .i64 2] w fun e w' => (∃ ba bc, e = .returned (corV (inCor 2) ba none none bc 0 0) ∧ CorEls w' (inCor 2) ba none none) ∧ Below w.heap.size w w' := input_any w 2 (by decide)
theorem cells_5 : cellsS (inCor 1) [5] = (25, 0) := by kernel_rfl
theorem cells_65537 : cellsS (inCor 1) [65537] = (0, 101) := by kernel_rfl
theorem cells_300 : cellsS (inCor 2) [300] = (0, 102) := by kernel_rfl
theorem right_1 : rightB (inCor 1) = true := by kernel_rfl
theorem depth_3 : depthI [shOp0, shOp1, shOp2] = 2 := by kernel_rfl
theorem depth_1 : depthI [shOp2] = -1 := by kernel_rfl
theorem depth_0 : depthI [] = -1 := by kernel_rfl
theorem ccells_lit (w : World) (c : Cor) (ba sa oa : Option Addr) (bc sc oc : Nat) (h : CorEls w c ba sa oa) (d a b : Int) (hc : cellsS c [d] = (a, b)) (g : Nat) (hg : w.heap.size = g) :
    Calls Try.prog 12 #[corV c ba sa oa bc sc oc, .slice (some ⟨g, 0, none⟩) 1 1] (w.alloc (.cells #[.int .i64 d] 2)) fun e w' => e = .returned (.tuple #[.int .i64 a, .int .i64 b]) ∧ Below w.heap.size w w' := by
  subst hg
  have hb : Below w.heap.size w (w.alloc (.cells #[.int .i64 d] 2)) := (Below.refl _ _).alloc (Nat.le_refl _) _
  have := ccells_any (w.alloc (.cells #[.int .i64 d] 2)) c ba sa oa bc sc oc (h.below hb) (some ⟨w.heap.size, 0, none⟩) 1 [d] (IntsAt.lit .i64 w 2 [d]) (by simp)
  rw [hc] at this
  exact this.mono fun e w' hw => ⟨hw.1, bNext hw.2 hb⟩
set_option maxHeartbeats 16000000 in
theorem shown_any (w : World) : Calls Try.prog 9 #[] w fun e w' => e = .returned (.bool true) ∧ Below w.heap.size w w' := by
  have n0 := World.alloc_heap_new w (.cells (CopCs shOp0 ++ CopCs shOp1 ++ CopCs shOp2).toArray 48)
  have HE := Lib.hid (sh_els n0)
  clear n0
  go_enter Try.func9, Try.ntmps9
  go_upto_region 2 with fail
  refine gen_worldA (fun W => Below w.heap.size w W ∧ copRep.Els W (some ⟨w.heap.size, 0, none⟩) [shOp0, shOp1, shOp2] ∧ copRep.Els W (some ⟨w.heap.size, 10, none⟩) [shOp2]) ⟨(Below.refl _ _).alloc (Nat.le_refl _) _, HE.out⟩ ?_
  clear HE
  rintro W ⟨hB, hE3, hE1⟩
  have HB := Lib.hid hB; have HE3 := Lib.hid hE3; have HE1 := Lib.hid hE1
  clear hB hE3 hE1
  go_wp2_with fail
  refine (in1 _).mono ?_
  rintro e w1 ⟨⟨b1, c1, rfl, hc1⟩, hb1⟩
  have HC1 := Lib.hid hc1; have HB1 := Lib.hid hb1
  clear hc1 hb1
  go_wp2_with fail
  refine (ccells_lit w1 _ _ _ _ _ _ _ HC1.out 5 _ _ cells_5 _ rfl).mono ?_
  rintro e w2 ⟨rfl, hb2⟩
  have HB2 := Lib.hid (bNext hb2 HB1.out)
  clear hb2 HC1 HB1
  go_wp2_with fail
  refine (in1 _).mono ?_
  rintro e w3 ⟨⟨b3, c3, rfl, hc3⟩, hb3⟩
  have HC3 := Lib.hid hc3; have HB3 := Lib.hid (bNext hb3 HB2.out)
  clear hc3 hb3 HB2
  go_wp2_with fail
  refine (ccells_lit w3 _ _ _ _ _ _ _ HC3.out 65537 _ _ cells_65537 _ rfl).mono ?_
  rintro e w4 ⟨rfl, hb4⟩
  have HB4 := Lib.hid (bNext hb4 HB3.out)
  clear hb4 HC3 HB3
  go_wp2_with fail
  refine (in2 _).mono ?_
  rintro e w5 ⟨⟨b5, c5, rfl, hc5⟩, hb5⟩
  have HC5 := Lib.hid hc5; have HB5 := Lib.hid (bNext hb5 HB4.out)
  clear hc5 hb5 HB4
  go_wp2_with fail
  refine (ccells_lit w5 _ _ _ _ _ _ _ HC5.out 300 _ _ cells_300 _ rfl).mono ?_
  rintro e w6 ⟨rfl, hb6⟩
  have HB6 := Lib.hid (bNext hb6 HB5.out)
  clear hb6 HC5 HB5
  go_wp2_with fail
  have hd3 := depth_any w6 (some ⟨w.heap.size, 0, none⟩) 3 [shOp0, shOp1, shOp2] (HE3.out.below copRep HB6.out (Nat.le_refl _)) (by decide)
  rw [depth_3] at hd3
  refine hd3.mono ?_
  rintro e w7 ⟨rfl, hb7⟩
  have HB7 := Lib.hid (bNext hb7 HB6.out)
  clear hb7 hd3
  go_wp2_with fail
  have hd1 := depth_any w7 (some ⟨w.heap.size, 10, none⟩) 1 [shOp2] (HE1.out.below copRep HB7.out (Nat.le_refl _)) (by decide)
  rw [depth_1] at hd1
  refine hd1.mono ?_
  rintro e w8 ⟨rfl, hb8⟩
  have HB8 := Lib.hid (bNext hb8 HB7.out)
  clear hb8 hd1
  go_wp2_with fail
  have hd0 := depth_any w8 none 0 [] (Rep.Els.nil _ _ _) (by decide)
  rw [depth_0] at hd0
  refine hd0.mono ?_
  rintro e w9 ⟨rfl, hb9⟩
  have HB9 := Lib.hid (bNext hb9 HB8.out)
  clear hb9 hd0
  go_wp2_with fail
  refine (in1 _).mono ?_
  rintro e w10 ⟨⟨b10, c10, rfl, hc10⟩, hb10⟩
  have HB10 := Lib.hid (bNext hb10 HB9.out)
  clear hb10
  go_wp2_with fail
  have hr := cright_at w10 (inCor 1) b10 none none c10 0 0 hc10
  rw [right_1] at hr
  refine hr.mono ?_
  rintro e w11 ⟨rfl, hb11⟩
  have HB11 := Lib.hid (bNext hb11 HB10.out)
  clear hb11 hc10 hr
  go_wp2_with fail
  go_ret
  exact ⟨rfl, bNext HB11.out HB.out⟩
end Go.Proofs.Ytabodlhlanolcaa
