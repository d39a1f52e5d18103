import Derived.Test.YtiogopichcnihaaJG
import Derived.Laws.StructEq
namespace Go.Proofs.Ytiogopichcnihaa
set_option maxRecDepth 100000
open Go.RowKit
set_option linter.unusedVariables false
set_option linter.unusedSimpArgs false

/-! windrowref20.Same. -/
theorem neqIns (W : World) (x y : Ins) : (binOp .neq 43 x.V y.V).run Try.prog W = .ok (.bool (!decide (x = y))) W := by
  obtain ⟨o, a, b, c, i⟩ := x
  obtain ⟨o', a', b', c', i'⟩ := y
  unfold Ins.V
  simp only [Ins.mk.injEq]
  simp [go_sem]
  repeat' split
  all_goals simp_all
theorem take_eq_allL {α : Type} {xs ys : List α} {k : Nat} (hl : xs.length = ys.length) (hk : k < xs.length) (h : xs.take k = ys.take k) (he : xs[k] = ys[k]'(hl ▸ hk)) : xs.take (k + 1) = ys.take (k + 1) := by
  rw [List.take_succ_eq_append_getElem hk, List.take_succ_eq_append_getElem (hl ▸ hk), h, he]
theorem ne_at {α : Type} {xs ys : List α} {k : Nat} (hk : k < xs.length) (hk2 : k < ys.length) (he : xs[k] ≠ ys[k]) : ¬ xs = ys := fun e => he (by subst e; rfl)
set_option maxHeartbeats 4000000 in
theorem slotsSame_any (w : World) (a b : Option Addr) (c d : Nat) (xs ys : List Slo) (hm : xs.length ≤ maxLen) (hm2 : ys.length ≤ maxLen) (h : slotRep.Els w a xs) (h2 : slotRep.Els w b ys) :
    Calls Try.prog 59 #[.slice a xs.length c, .slice b ys.length d] w fun e w' => e = .returned (.bool (decide (xs = ys))) ∧ Below w.heap.size w w' := by
  unfold maxLen at hm hm2
  have HI := Lib.hid h; have HJ := Lib.hid h2; clear h h2
  by_cases hl : xs.length = ys.length
  · have hl' : ((xs.length : Int) != (ys.length : Int)) = false := by simp [hl]
    have Hl := Lib.hid hl; clear hl
    go_enter Try.func59, Try.ntmps59
    go_wp2_with fail
    go_loopw [5] (fun i wr => ∃ k : Nat, k ≤ xs.length ∧ i = .int .i64 k ∧ xs.take k = ys.take k ∧ Below w.heap.size w wr) (fun i _ => xs.length - (intOf i).toNat)
    case atStart => exact ⟨0, Nat.zero_le _, rfl, rfl, Below.refl _ _⟩
    case round =>
      obtain ⟨k, hk, rfl, ht, hbel⟩ := hrel
      by_cases hlt : k < xs.length
      · have hlt2 : k < ys.length := Hl.out ▸ hlt
        obtain ⟨b0, off, pa, pc, rfl, -, hs1, -, hi1, x0, x1⟩ := els_slot (HI.out.below slotRep hbel (Nat.le_refl _)) hlt
        obtain ⟨b2, off2, qa, qc, rfl, -, hs2, -, hi2, y0, y1⟩ := els_slot (HJ.out.below slotRep hbel (Nat.le_refl _)) hlt2
        have hz0 : (0 : Int) ≤ (k : Int) := by omega
        have hz1 : (k : Int) < (xs.length : Int) := by omega
        have hz2 : (k : Int) < (ys.length : Int) := by omega
        have hnx := fun he => take_eq_allL Hl.out hlt ht he
        have hnot := fun he => ne_at (α := Slo) hlt hlt2 he
        have HBEL := Lib.hid hbel
        generalize xs[k] = x at hs1 hi1 x0 x1 hnx hnot
        generalize ys[k] = y at hs2 hi2 y0 y1 hnx hnot
        obtain ⟨p, s⟩ := x
        obtain ⟨q, t⟩ := y
        dsimp only at hs1 hi1 x0 x1 hs2 hi2 y0 y1
        have f0 := cellBW x0; have f1 := cellBW x1; have g0 := cellBW y0; have g1 := cellBW y1
        have hin : ∀ p' : BelowW wr, Calls Try.prog 58 #[.slice pa s.length pc, .slice qa t.length qc] p'.world fun e w' => e = .returned (.bool (ints s t)) ∧ Below p'.world.heap.size p'.world w' := fun p' => (ints_any p'.world pa qa pc qc s t hs1 hs2 (hi1.below p'.below (Nat.le_refl _)) (hi2.below p'.below (Nat.le_refl _))).mono fun e w' ⟨h1, n, h2⟩ => ⟨h1, h2 ▸ Below.drewN _ _⟩
        have HNX := Lib.hid hnx; have HNOT := Lib.hid hnot
        clear hi1 hi2 ht hbel x0 x1 y0 y1 hnx hnot hs1 hs2
        go_upto_region 6 with fail
        by_cases hp : p = q
        case neg =>
          have hp' : (p != q) = true := by simp [hp]
          have HG := Lib.hid (HNOT.out (fun e => hp (by injection e)))
          clear hin hp
          refine wp_region_below (by kernel_rfl) (by kernel_rfl) ?_
          repeat (go_big_quiet_step (fail))
          refine wpQuiet_nil ?_
          rintro _ ⟨⟨wq, hwq⟩, rfl⟩
          have HQ := Lib.hid (bNext hwq HBEL.out)
          clear f0 f1 g0 g1
          go_wp2_with fail
          go_ret
          exact ⟨ret_bool (decide_eq_false HG.out).symm, HQ.out⟩
        subst hp
        have hp' : (p != p) = false := by simp
        have hin' : ints s t = decide (s = t) := rfl
        rw [hin'] at hin
        by_cases hst : s = t
        · rw [decide_eq_true hst] at hin
          have HIN := Lib.hid hin
          have HG := Lib.hid (HNX.out (by rw [hst]))
          clear hin hin' hst
          refine wp_region_below (by kernel_rfl) (by kernel_rfl) ?_
          repeat (go_big_quiet_step ((go_at_call 58; refine callsBW (HIN.out _))))
          refine wpQuiet_nil ?_
          rintro _ ⟨⟨wq, hwq⟩, rfl⟩
          have HQ := Lib.hid (bNext hwq HBEL.out)
          clear f0 f1 g0 g1
          go_wp2_with fail
          go_roundw
          case rel => exact ⟨k + 1, by omega, by go_num, HG.out, HQ.out⟩
          case measure => simp [intOf] <;> omega
        · rw [decide_eq_false hst] at hin
          have HIN := Lib.hid hin
          have HG := Lib.hid (HNOT.out (fun e => hst (by injection e)))
          clear hin hin' hst
          refine wp_region_below (by kernel_rfl) (by kernel_rfl) ?_
          repeat (go_big_quiet_step ((go_at_call 58; refine callsBW (HIN.out _))))
          refine wpQuiet_nil ?_
          rintro _ ⟨⟨wq, hwq⟩, rfl⟩
          have HQ := Lib.hid (bNext hwq HBEL.out)
          clear f0 f1 g0 g1
          go_wp2_with fail
          go_ret
          exact ⟨ret_bool (decide_eq_false HG.out).symm, HQ.out⟩
      · obtain rfl : k = xs.length := by omega
        have HG := Lib.hid (show xs = ys by rw [List.take_length] at ht; rw [ht, Hl.out, List.take_length])
        have HB := Lib.hid hbel
        clear ht hbel
        go_wp2_with fail
        go_ret
        exact ⟨ret_bool (decide_eq_true HG.out).symm, HB.out⟩
  · have hl' : ((xs.length : Int) != (ys.length : Int)) = true := by simp; omega
    have HG := Lib.hid (show ¬ xs = ys from fun e => hl (by rw [e]))
    clear hl
    go_enter Try.func59, Try.ntmps59
    go_wp2_with fail
    go_ret
    exact ⟨ret_bool (decide_eq_false HG.out).symm, Below.refl _ _⟩
/-- the same images but for code and cells -/
def frameB (m n : Img) : Bool := decide (m.dims = n.dims) && decide (m.ins = n.ins) && decide (m.outs = n.outs)
set_option maxHeartbeats 4000000 in
theorem frames_any (w : World) (vd vi vo vc ud ui uo uc : Value) (m n : Img) (h : ImgAt w vd vi vo vc m) (h2 : ImgAt w ud ui uo uc n) :
    Calls Try.prog 44 #[.agg #[vd, .int .i64 m.mem, vi, vo, vc], .agg #[ud, .int .i64 n.mem, ui, uo, uc]] w fun e w' => e = .returned (.bool (frameB m n)) ∧ Below w.heap.size w w' := by
  obtain ⟨⟨da, dc, rfl, d1, d2, d3⟩, ⟨ia, ic, rfl, i1, i2, i3, i4⟩, ⟨oa, oc, rfl, o1, o2, o3, o4⟩, ⟨ca, cc, rfl, c1, c2, c3, c4⟩, hm⟩ := h
  obtain ⟨⟨da', dc', rfl, d1', d2', d3'⟩, ⟨ia', ic', rfl, i1', i2', i3', i4'⟩, ⟨oa', oc', rfl, o1', o2', o3', o4'⟩, ⟨ca', cc', rfl, c1', c2', c3', c4'⟩, hm'⟩ := h2
  have hq1 := fun W (hb : Below w.heap.size w W) => ints_any W da da' dc dc' m.dims n.dims (Nat.le_trans d1 d2) (Nat.le_trans d1' d2') (d3.below hb (Nat.le_refl _)) (d3'.below hb (Nat.le_refl _))
  have hq2 := fun W (hb : Below w.heap.size w W) => slotsSame_any W ia ia' ic ic' m.ins n.ins (Nat.le_trans i1 i2) (Nat.le_trans i1' i2') (i4.below slotRep hb (Nat.le_refl _)) (i4'.below slotRep hb (Nat.le_refl _))
  have hq3 := fun W (hb : Below w.heap.size w W) => slotsSame_any W oa oa' oc oc' m.outs n.outs (Nat.le_trans o1 o2) (Nat.le_trans o1' o2') (o4.below slotRep hb (Nat.le_refl _)) (o4'.below slotRep hb (Nat.le_refl _))
  have hin' : ints m.dims n.dims = decide (m.dims = n.dims) := rfl
  rw [hin'] at hq1
  unfold frameB
  generalize decide (m.dims = n.dims) = b1 at hq1 ⊢
  generalize decide (m.ins = n.ins) = b2 at hq2 ⊢
  generalize decide (m.outs = n.outs) = b3 at hq3 ⊢
  have H1 := Lib.hid hq1; have H2 := Lib.hid hq2; have H3 := Lib.hid hq3
  clear hq1 hq2 hq3 hin' d1 d2 d3 i1 i2 i3 i4 o1 o2 o3 o4 c1 c2 c3 c4 hm d1' d2' d3' i1' i2' i3' i4' o1' o2' o3' o4' c1' c2' c3' c4' hm'
  have hba : ∀ o1 o2, Below w.heap.size w ((w.alloc o1).alloc o2) := fun o1 o2 => ((Below.refl _ _).alloc (Nat.le_refl _) _).alloc (by simp) _
  have hm1 : ∀ W, Below ((w.alloc (.cells #[.slice da m.dims.length dc, .int .i64 m.mem, .slice ia m.ins.length ic, .slice oa m.outs.length oc, .slice ca m.code.length cc] 26)).alloc (.cells #[.slice da' n.dims.length dc', .int .i64 n.mem, .slice ia' n.ins.length ic', .slice oa' n.outs.length oc', .slice ca' n.code.length cc'] 26)).heap.size _ W → _ := fun W hb => new2 (w := w) (w1 := W) hb
  have HM := Lib.hid hm1
  clear hm1
  go_enter Try.func44, Try.ntmps44
  go_wp2_with fail
  refine (H1.out _ (hba _ _)).mono ?_
  rintro e w1 ⟨rfl, n1, rfl⟩
  obtain ⟨r1, r2⟩ := HM.out _ (Below.drewN _ n1)
  have hb1 := bNext (Below.drewN _ n1) (hba (.cells #[.slice da m.dims.length dc, .int .i64 m.mem, .slice ia m.ins.length ic, .slice oa m.outs.length oc, .slice ca m.code.length cc] 26) (.cells #[.slice da' n.dims.length dc', .int .i64 n.mem, .slice ia' n.ins.length ic', .slice oa' n.outs.length oc', .slice ca' n.code.length cc'] 26))
  generalize World.drewN _ n1 = W1 at r1 r2 hb1 ⊢
  have x2 := cell_of_row W1 w.heap.size 2 _ _ _ r1; have x3 := cell_of_row W1 w.heap.size 3 _ _ _ r1
  have y2 := cell_of_row W1 (w.heap.size + 1) 2 _ _ _ r2; have y3 := cell_of_row W1 (w.heap.size + 1) 3 _ _ _ r2
  have HB1 := Lib.hid hb1
  clear hb1 HM r1 r2 hba
  cases b1 with
  | false =>
    go_wp2_with fail
    go_ret
    exact ⟨rfl, HB1.out⟩
  | true =>
    go_wp2_with fail
    refine (H2.out _ HB1.out).mono ?_
    rintro e w2 ⟨rfl, hb2⟩
    have z3 := keepCell hb2 x3; have t3 := keepCell hb2 y3
    have HB2 := Lib.hid (bNext hb2 HB1.out)
    clear hb2 x2 x3 y2 y3
    cases b2 with
    | false =>
      go_wp2_with fail
      go_ret
      exact ⟨rfl, HB2.out⟩
    | true =>
      go_wp2_with fail
      refine (H3.out _ HB2.out).mono ?_
      rintro e w3 ⟨rfl, hb3⟩
      have HB3 := Lib.hid (bNext hb3 HB2.out)
      clear hb3
      go_wp2_with fail
      go_ret
      exact ⟨rfl, HB3.out⟩
theorem img_eq (m n : Img) : decide (m = n) = (decide (m.mem = n.mem) && frameB m n && decide (m.code = n.code)) := by
  unfold frameB
  by_cases h : m = n
  · subst h; simp
  · rw [decide_eq_false h]
    symm
    rw [← Bool.not_eq_true]
    intro hh
    simp only [Bool.and_eq_true, decide_eq_true_eq] at hh
    exact h (Img.ext' hh.1.2.1.1 hh.1.1 hh.1.2.1.2 hh.1.2.2 hh.2)
end Go.Proofs.Ytiogopichcnihaa
