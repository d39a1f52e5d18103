import Derived.Test.YtiogopichcnihaaJH
namespace Go.Proofs.Ytiogopichcnihaa
set_option maxRecDepth 100000
open Go.RowKit
set_option linter.unusedVariables false
set_option linter.unusedSimpArgs false

/-! windrowref20.Same. -/
set_option maxHeartbeats 8000000 in
theorem rsame_any (w : World) (vd vi vo vc ud ui uo uc : Value) (m n : Img) (h : ImgAt w vd vi vo vc m) (h2 : ImgAt w ud ui uo uc n) :
    Calls Try.prog 16 #[.agg #[vd, .int .i64 m.mem, vi, vo, vc], .agg #[ud, .int .i64 n.mem, ui, uo, uc]] w fun e w' => e = .returned (.bool (decide (m = n))) ∧ Below w.heap.size w w' := by
  have hba : ∀ o1 o2, Below w.heap.size w ((w.alloc o1).alloc o2) := fun o1 o2 => ((Below.refl _ _).alloc (Nat.le_refl _) _).alloc (by simp) _
  have hfr := fun o1 o2 => frames_any ((w.alloc o1).alloc o2) vd vi vo vc ud ui uo uc m n (h.below (hba o1 o2)) (h2.below (hba o1 o2))
  obtain ⟨⟨da, dc, rfl, -, -, -⟩, ⟨ia, ic, rfl, -, -, -, -⟩, ⟨oa, oc, rfl, -, -, -, -⟩, ⟨ca, cc, rfl, c1, c2, c3, c4⟩, -⟩ := h
  obtain ⟨⟨da', dc', rfl, -, -, -⟩, ⟨ia', ic', rfl, -, -, -, -⟩, ⟨oa', oc', rfl, -, -, -, -⟩, ⟨ca', cc', rfl, c1', c2', c3', c4'⟩, -⟩ := h2
  have HC := Lib.hid c4; have HC' := Lib.hid c4'
  have hcl : m.code.length ≤ 9223372036854775807 := Nat.le_trans c1 c2
  have hcl' : n.code.length ≤ 9223372036854775807 := Nat.le_trans c1' c2'
  obtain ⟨res, hres⟩ : ∃ r, decide (m = n) = r := ⟨_, rfl⟩
  rw [hres]
  have hre := img_eq m n
  rw [hres] at hre
  have hm1 : ∀ W, Below ((w.alloc (.cells #[.slice da m.dims.length dc, .int .i64 m.mem, .slice ia m.ins.length ic, .slice oa m.outs.length oc, .slice ca m.code.length cc] 26)).alloc (.cells #[.slice da' n.dims.length dc', .int .i64 n.mem, .slice ia' n.ins.length ic', .slice oa' n.outs.length oc', .slice ca' n.code.length cc'] 26)).heap.size _ W → _ := fun W hb => new2 (w := w) (w1 := W) hb
  have HM := Lib.hid hm1; have HBA := Lib.hid hba
  generalize frameB m n = fb at hfr hre
  clear hres hm1 c1 c2 c3 c4 c1' c2' c3' c4' hba
  by_cases hmm : m.mem = n.mem
  case neg =>
    have hmm' : (m.mem != n.mem) = true := by simp [hmm]
    rw [decide_eq_false hmm] at hre
    obtain rfl : res = false := hre
    clear hfr hmm
    go_enter Try.func16, Try.ntmps16
    go_wp2_with fail
    go_ret
    exact ⟨rfl, HBA.out _ _⟩
  have hmm' : (m.mem != n.mem) = false := by simp [hmm]
  rw [decide_eq_true hmm, Bool.true_and] at hre
  have HFR := Lib.hid hfr
  clear hfr hmm
  cases fb with
  | false =>
    obtain rfl : res = false := hre
    go_enter Try.func16, Try.ntmps16
    go_wp2_with fail
    refine (HFR.out _ _).mono ?_
    rintro e w1 ⟨rfl, hb1⟩
    have HB1 := Lib.hid (bNext hb1 (HBA.out _ _))
    clear hb1 HM
    go_wp2_with fail
    go_ret
    exact ⟨rfl, HB1.out⟩
  | true =>
    rw [Bool.true_and] at hre
    go_enter Try.func16, Try.ntmps16
    go_wp2_with fail
    refine (HFR.out _ _).mono ?_
    rintro e W1 ⟨rfl, hb1⟩
    obtain ⟨r1, r2⟩ := HM.out _ hb1
    have HB1 := Lib.hid (bNext hb1 (HBA.out _ _))
    have x4 := cell_of_row W1 w.heap.size 4 _ _ _ r1; have y4 := cell_of_row W1 (w.heap.size + 1) 4 _ _ _ r2
    have hZ1 : w.heap.size < W1.heap.size := World.block_lt_of_cell? _ _ x4
    clear hb1 HM r1 r2 HFR HBA
    by_cases hl : m.code.length = n.code.length
    case neg =>
      have hl' : ((m.code.length : Int) != (n.code.length : Int)) = true := by simp; omega
      obtain rfl : res = false := by rw [hre, decide_eq_false (fun e => hl (by rw [e]))]
      clear hre hl
      go_wp2_with fail
      go_ret
      exact ⟨rfl, HB1.out⟩
    have hl' : ((m.code.length : Int) != (n.code.length : Int)) = false := by simp [hl]
    have HL := Lib.hid hl; have HRE := Lib.hid hre
    have HX4 := Lib.hid x4; have HY4 := Lib.hid y4
    clear hl hre
    go_wp2_with fail
    go_loopw [5] (fun i wr => ∃ k : Nat, k ≤ m.code.length ∧ i = .int .i64 k ∧ m.code.take k = n.code.take k ∧ Below W1.heap.size W1 wr) (fun i _ => m.code.length - (intOf i).toNat)
    case atStart => exact ⟨0, Nat.zero_le _, rfl, rfl, Below.refl _ _⟩
    case round =>
      obtain ⟨k, hk, rfl, ht, hbel⟩ := hrel
      have z4 := keepCell hbel HX4.out; have t4 := keepCell hbel HY4.out
      clear x4 y4
      by_cases hlt : k < m.code.length
      · have hlt2 : k < n.code.length := HL.out ▸ hlt
        obtain ⟨b0, off, rfl, -, x0, x1, x2, x3, x4⟩ := els_ins (HC.out.below insRep (bNext hbel HB1.out) (Nat.le_refl _)) hlt
        obtain ⟨b2, off2, rfl, -, y0, y1, y2, y3, y4⟩ := els_ins (HC'.out.below insRep (bNext hbel HB1.out) (Nat.le_refl _)) hlt2
        have hz0 : (0 : Int) ≤ (k : Int) := by omega
        have hz1 : (k : Int) < (m.code.length : Int) := by omega
        have hz2 : (k : Int) < (n.code.length : Int) := by omega
        have hnx := fun he => take_eq_allL HL.out hlt ht he
        have hnot := fun he => ne_at (α := Ins) hlt hlt2 he
        have HBEL := Lib.hid hbel
        have hne := fun W => neqIns W m.code[k] n.code[k]
        generalize m.code[k] = x at x0 x1 x2 x3 x4 hnx hnot hne
        generalize n.code[k] = y at y0 y1 y2 y3 y4 hnx hnot hne
        unfold Ins.V at hne
        have f0 := cellBW x0; have f1 := cellBW x1; have f2 := cellBW x2; have f3 := cellBW x3; have f4 := cellBW x4
        have g0 := cellBW y0; have g1 := cellBW y1; have g2 := cellBW y2; have g3 := cellBW y3; have g4 := cellBW y4
        have fz := cellBW z4; have ft := cellBW t4
        have HNX := Lib.hid hnx; have HNOT := Lib.hid hnot
        clear ht hbel x0 x1 x2 x3 x4 y0 y1 y2 y3 y4 hnx hnot
        go_upto_region 6 with fail
        by_cases he : x = y
        · rw [decide_eq_true he] at hne
          have HG := Lib.hid (HNX.out he)
          clear he z4 t4
          refine wp_region_below (by kernel_rfl) (by kernel_rfl) ?_
          repeat (go_big_quiet_step (fail))
          refine wpQuiet_nil ?_
          rintro _ ⟨⟨wq, hwq⟩, rfl⟩
          have HQ := Lib.hid (HBEL.out.trans (hwq.mono HBEL.out.size))
          clear f0 f1 f2 f3 f4 g0 g1 g2 g3 g4 fz ft
          go_wp2_with fail
          go_roundw
          case rel => exact ⟨k + 1, by omega, by go_num, HG.out, HQ.out⟩
          case measure => simp [intOf] <;> omega
        · rw [decide_eq_false he] at hne
          have HG := Lib.hid (show res = false by rw [HRE.out, decide_eq_false (HNOT.out he)])
          clear he z4 t4
          refine wp_region_below (by kernel_rfl) (by kernel_rfl) ?_
          repeat (go_big_quiet_step (fail))
          refine wpQuiet_nil ?_
          rintro _ ⟨⟨wq, hwq⟩, rfl⟩
          have HQ := Lib.hid (HBEL.out.trans (hwq.mono HBEL.out.size))
          clear f0 f1 f2 f3 f4 g0 g1 g2 g3 g4 fz ft
          go_wp2_with fail
          go_ret
          exact ⟨ret_bool HG.out.symm, bNext HQ.out HB1.out⟩
      · obtain rfl : k = m.code.length := by omega
        have HG := Lib.hid (show res = true by rw [HRE.out, decide_eq_true (by rw [List.take_length] at ht; rw [ht, HL.out, List.take_length])])
        have HB := Lib.hid hbel
        clear ht hbel
        go_wp2_with fail
        go_ret
        exact ⟨ret_bool HG.out.symm, bNext HB.out HB1.out⟩
/-! what Write hands back, by names -/
def outB (m : Img) : List Int := if imgRight m then writeB m else []
def outE (m : Img) : Int := if imgRight m then 0 else 190
theorem outB_byts (m : Img) : Byts (outB m) := by
  unfold outB
  cases h : imgRight m
  · intro x hx; rw [if_neg (by simp)] at hx; cases hx
  · rw [if_pos rfl]; exact writeB_byts m
def WriteO (w : World) (m : Img) (e : Ending) (w' : World) : Prop := ∃ v, e = .returned (.tuple #[v, .int .i64 (outE m)]) ∧ RowU w.heap.size w' v (outB m) ∧ Below w.heap.size w w'
theorem writeO_any (w : World) (vd vi vo vc : Value) (m : Img) (h : ImgAt w vd vi vo vc m) : Calls Try.prog 10 #[.agg #[vd, .int .i64 m.mem, vi, vo, vc]] w (WriteO w m) := write_any w vd vi vo vc m h
theorem rwriteO_any (w : World) (vd vi vo vc : Value) (m : Img) (h : ImgAt w vd vi vo vc m) : Calls Try.prog 11 #[.agg #[vd, .int .i64 m.mem, vi, vo, vc]] w (WriteO w m) := rwrite_any w vd vi vo vc m h
theorem outE_t {m : Img} (h : imgRight m = true) : outE m = 0 := by unfold outE; rw [if_pos h]
theorem outE_f {m : Img} (h : imgRight m = false) : outE m = 190 := by unfold outE; rw [h]; rfl
theorem outB_t {m : Img} (h : imgRight m = true) : outB m = writeB m := by unfold outB; rw [if_pos h]
theorem outB_f {m : Img} (h : imgRight m = false) : outB m = [] := by unfold outB; rw [h]; rfl
theorem ImgAt.wf {w : World} {vd vi vo vc : Value} {m : Img} (h : ImgAt w vd vi vo vc m) : ∀ i ∈ m.code, i.wf := by
  obtain ⟨a, c, _, _, _, _, he⟩ := h.c
  exact ins_wf he
theorem write_inj {m n : Img} (h1 : imgRight m = true) (w1 : ∀ i ∈ m.code, i.wf) (h2 : imgRight n = true) (w2 : ∀ i ∈ n.code, i.wf) : decide (writeB m = writeB n) = decide (m = n) := by
  by_cases h : m = n
  · subst h; simp
  · rw [decide_eq_false h, decide_eq_false]
    intro e
    have := write_back h1 w1
    rw [e, write_back h2 w2] at this
    exact h (by injection this with this; exact this.symm)
/-- an image's box -/
def BoxI (W : World) (X : Nat) (vd : Value) (mem : Int) (vi vo vc : Value) : Prop := W.heap[X]? = some (.cells #[vd, .int .i64 mem, vi, vo, vc] 26 (0, 0))
theorem BoxI.below {W W' : World} {X : Nat} {vd vi vo vc : Value} {mem : Int} (h : BoxI W X vd mem vi vo vc) (hb : Below W.heap.size W W') : BoxI W' X vd mem vi vo vc := block_below h hb
theorem BoxI.c0 {W : World} {X : Nat} {vd vi vo vc : Value} {mem : Int} (h : BoxI W X vd mem vi vo vc) : W.cell? ⟨X, 0, none⟩ = some vd := cell_of_row W X 0 _ _ _ h
theorem BoxI.c1 {W : World} {X : Nat} {vd vi vo vc : Value} {mem : Int} (h : BoxI W X vd mem vi vo vc) : W.cell? ⟨X, 1, none⟩ = some (.int .i64 mem) := cell_of_row W X 1 _ _ _ h
theorem BoxI.c2 {W : World} {X : Nat} {vd vi vo vc : Value} {mem : Int} (h : BoxI W X vd mem vi vo vc) : W.cell? ⟨X, 2, none⟩ = some vi := cell_of_row W X 2 _ _ _ h
theorem BoxI.c3 {W : World} {X : Nat} {vd vi vo vc : Value} {mem : Int} (h : BoxI W X vd mem vi vo vc) : W.cell? ⟨X, 3, none⟩ = some vo := cell_of_row W X 3 _ _ _ h
theorem BoxI.c4 {W : World} {X : Nat} {vd vi vo vc : Value} {mem : Int} (h : BoxI W X vd mem vi vo vc) : W.cell? ⟨X, 4, none⟩ = some vc := cell_of_row W X 4 _ _ _ h
/-! what Read hands back, by names -/
def ReadO (w : World) (m : Img) (err : Int) (e : Ending) (w' : World) : Prop := ∃ da dc ia ic oa oc ca cc, e = .returned (.tuple #[.agg #[.slice da m.dims.length dc, .int .i64 m.mem, .slice ia m.ins.length ic, .slice oa m.outs.length oc, .slice ca m.code.length cc], .int .i64 err]) ∧
  ImgOwn w.heap.size w' (.slice da m.dims.length dc) (.slice ia m.ins.length ic) (.slice oa m.outs.length oc) (.slice ca m.code.length cc) m ∧ ImgAt w' (.slice da m.dims.length dc) (.slice ia m.ins.length ic) (.slice oa m.outs.length oc) (.slice ca m.code.length cc) m ∧ Below w.heap.size w w'
theorem readO_any (w : World) (a : Option Addr) (c n : Nat) (l : List Int) (hn : l.length = n) (hi : IntsAt .u8 w a l) (hc : n ≤ c) (hc2 : c ≤ maxLen) (hb : Byts l) (res : Option Img) (hr : readB l = res) :
    Calls Try.prog 14 #[.slice a n c] w (ReadO w (res.getD img0) (if res.isSome then 0 else 191)) := by
  subst hn hr
  refine (read_any w a c l hi hc hc2 hb).mono ?_
  rintro e w' ⟨vd, vi, vo, vc, rfl, h1, h2, h3, h4⟩
  obtain ⟨da, dc, ia, ic, oa, oc, ca, cc, rfl, rfl, rfl, rfl⟩ := h1.forms
  exact ⟨_, _, _, _, _, _, _, _, rfl, h1, h1.at h2 h3, h4⟩
theorem RowU.slice2 {B : Nat} {w : World} {v : Value} {xs : List Int} (h : RowU B w v xs) : ∃ a cap, v = .slice a xs.length cap ∧ xs.length ≤ cap ∧ xs.length ≤ maxLen ∧ IntsAt .u8 w a xs ∧ cap ≤ maxLen := by
  obtain ⟨a, c, e, h1, h2, h3⟩ := h.slice
  refine ⟨a, c, e, h1, h2, h3, ?_⟩
  obtain ⟨-, ⟨e2, _⟩ | ⟨g, cap, cur, e2, _, _, _, hm, _⟩⟩ := h
  · rw [e2] at e; simp only [Value.slice.injEq] at e; unfold maxLen; omega
  · rw [e2] at e; simp only [Value.slice.injEq] at e; omega
end Go.Proofs.Ytiogopichcnihaa
