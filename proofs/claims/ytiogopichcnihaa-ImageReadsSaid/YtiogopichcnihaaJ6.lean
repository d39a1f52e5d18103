import Derived.Test.YtiogopichcnihaaJ5
import Derived.Test.YtiogopichcnihaaW3
namespace Go.Proofs.Ytiogopichcnihaa
set_option maxRecDepth 100000
open Go.RowKit
set_option linter.unusedVariables false
set_option linter.unusedSimpArgs false

/-! windrowref20.Right. -/
theorem any_drop {α : Type} {p : α → Bool} {l : List α} {k : Nat} (h : k < l.length) : (l.drop k).any p = (p l[k] || (l.drop (k + 1)).any p) := by rw [List.drop_eq_getElem_cons h, List.any_cons]
set_option maxHeartbeats 4000000 in
theorem rslots_any (w : World) (a : Option Addr) (cap : Nat) (l : List Slo) (mem : Int) (h : slotRep.Els w a l) (hm : l.length ≤ maxLen) (h0 : 0 ≤ mem) (h1 : mem ≤ 2097152) :
    Calls Try.prog 36 #[.slice a l.length cap, .int .i64 mem] w fun e w' => e = .returned (.bool (!l.any (offB mem))) ∧ w' = w := by
  unfold maxLen at hm
  have HI := Lib.hid h
  clear h
  go_enter Try.func36, Try.ntmps36
  go_wp2_with fail
  go_loop [5] (fun i => ∃ k : Nat, k ≤ l.length ∧ i = .int .i64 k ∧ l.any (offB mem) = (l.drop k).any (offB mem)) (fun i => l.length - (intOf i).toNat)
  case atStart => exact ⟨0, Nat.zero_le _, rfl, rfl⟩
  case round =>
    obtain ⟨k, hk, rfl, hr⟩ := hrel
    by_cases hlt : k < l.length
    · obtain ⟨b, off, pa, pc, rfl, hp, hsl, -, hsi, x0, x1⟩ := els_slot HI.out hlt
      rw [any_drop hlt] at hr
      have hq := rsize_any w pa pc l[k].sides hsl hsi
      generalize l[k] = x at hr hp hsl hsi x0 x1 hq
      obtain ⟨pos, sides⟩ := x
      dsimp only at hp hsl hsi x0 x1 hq
      obtain ⟨hp0, hp1⟩ := hp
      obtain ⟨r, hrr⟩ : ∃ r, offB mem ⟨pos, sides⟩ = r := ⟨_, rfl⟩
      rw [hrr] at hr
      have Hr := Lib.hid hr
      have hk0 : (0 : Int) ≤ (k : Int) := by omega
      have hk1 : (k : Int) < (l.length : Int) := by omega
      clear hr hsi hsl
      rcases size_err sides with he | ⟨n, he⟩
      · rw [offB_e (by dsimp only; rw [he])] at hrr
        rw [he] at hq
        subst hrr
        have HQ := Lib.hid hq
        clear hq he
        go_wp2_with fail
        refine HQ.out.mono ?_
        rintro e w1 ⟨rfl, rfl⟩
        unfold two
        go_wp2_with fail
        go_ret
        exact ⟨ret_bool (by rw [Hr.out]; rfl), rfl⟩
      · rw [offB_ok (by dsimp only; exact he)] at hrr
        rw [he] at hq
        have HQ := Lib.hid hq; have HR := Lib.hid hrr
        clear hq he hrr
        go_wp2_with fail
        refine HQ.out.mono ?_
        rintro e w1 ⟨rfl, rfl⟩
        unfold two
        clear HQ
        by_cases c0 : pos < 0
        · have HG := Lib.hid (show true = r by rw [← HR.out]; simp [c0])
          go_wp2_with fail
          go_ret
          exact ⟨ret_bool (by rw [Hr.out, ← HG.out]; rfl), rfl⟩
        have c0' : decide (pos < 0) = false := by simpa using c0
        by_cases c1 : mem < pos
        · have HG := Lib.hid (show true = r by rw [← HR.out]; simp [c1])
          go_wp2_with fail
          go_ret
          exact ⟨ret_bool (by rw [Hr.out, ← HG.out]; rfl), rfl⟩
        have c1' : decide (mem < pos) = false := by simpa using c1
        by_cases c2 : mem - pos < n
        · have HG := Lib.hid (show true = r by rw [← HR.out]; simp [c2])
          have c2' : decide (mem - pos < n) = true := by simpa using c2
          go_wp2_with fail
          go_ret
          exact ⟨ret_bool (by rw [Hr.out, ← HG.out]; rfl), rfl⟩
        · have HG := Lib.hid (show false = r by rw [← HR.out]; simp [c0, c1, c2])
          have c2' : decide (mem - pos < n) = false := by simpa using c2
          go_wp2_with fail
          go_round
          case rel => exact ⟨k + 1, by omega, by go_num, by rw [Hr.out, ← HG.out, Bool.false_or]⟩
          case measure => simp [intOf] <;> omega
    · have Hr := Lib.hid hr; clear hr
      go_wp2_with fail
      go_ret
      exact ⟨ret_bool (by rw [Hr.out, List.drop_eq_nil_of_le (by omega)]; rfl), rfl⟩
set_option maxHeartbeats 8000000 in
theorem rright20_any (w : World) (vd vi vo vc : Value) (m : Img) (h : ImgAt w vd vi vo vc m) :
    Calls Try.prog 13 #[.agg #[vd, .int .i64 m.mem, vi, vo, vc]] w fun e w' => e = .returned (.bool (imgRight m)) ∧ Below w.heap.size w w' := by
  obtain ⟨⟨da, dc, rfl, d1, d2, d3⟩, ⟨ia, ic, rfl, i1, i2, i3, i4⟩, ⟨oa, oc, rfl, o1, o2, o3, o4⟩, ⟨ca, cc, rfl, c1, c2, c3, c4⟩, hm⟩ := h
  have HD := Lib.hid d3; have HI := Lib.hid i4; have HO := Lib.hid o4; have HC := Lib.hid c4
  have hdl : m.dims.length ≤ maxLen := Nat.le_trans d1 d2
  have hil : m.ins.length ≤ maxLen := Nat.le_trans i1 i2
  have hol : m.outs.length ≤ maxLen := Nat.le_trans o1 o2
  have hcl : m.code.length ≤ maxLen := Nat.le_trans c1 c2
  have HDL := Lib.hid hdl; have HIL := Lib.hid hil; have HOL := Lib.hid hol; have HCL := Lib.hid hcl
  clear d1 d2 d3 i1 i2 i3 i4 o1 o2 o3 o4 c1 c2 c3 c4 hdl hil hol hcl
  have HS := Lib.hid (@imgRight_sizes m)
  have hr : imgSizes m = true → imgRight m = (!m.dims.any badSide && !m.ins.any (offB m.mem) && !m.outs.any (offB m.mem) && !m.code.any (fun i => !i.right)) := fun h => by unfold imgRight; rw [h]; rfl
  have HR := Lib.hid hr
  clear hr
  obtain ⟨hm0, hm1⟩ := hm
  obtain ⟨res, hres⟩ : ∃ r, imgRight m = r := ⟨_, rfl⟩
  rw [hres]
  have HRES := Lib.hid hres
  clear hres
  obtain ⟨mem, hmem⟩ : ∃ x, m.mem = x := ⟨_, rfl⟩
  rw [hmem] at hm0 hm1 ⊢
  have HMEM := Lib.hid hmem
  clear hmem
  go_enter Try.func13, Try.ntmps13
  go_upto_region 1 with fail
  refine gen_worldA (fun W => Below w.heap.size w W ∧ W.heap.size = w.heap.size + 1 ∧ W.heap[w.heap.size]? = some (.cells #[.slice da m.dims.length dc, .int .i64 mem, .slice ia m.ins.length ic, .slice oa m.outs.length oc, .slice ca m.code.length cc] 26 (0, 0))) ⟨(Below.refl _ _).alloc (Nat.le_refl _) _, by simp, World.alloc_heap_new _ _⟩ ?_
  rintro W ⟨hb, hsz, hM⟩
  have x0 := cell_of_row W w.heap.size 0 _ _ _ hM; have x1 := cell_of_row W w.heap.size 1 _ _ _ hM; have x2 := cell_of_row W w.heap.size 2 _ _ _ hM; have x3 := cell_of_row W w.heap.size 3 _ _ _ hM; have x4 := cell_of_row W w.heap.size 4 _ _ _ hM
  have HB := Lib.hid hb; have HM := Lib.hid hM
  clear hb hM
  by_cases a0 : 6 < m.dims.length
  · have HG := Lib.hid (show false = res from by rw [← HRES.out]; exact (HS.out (by unfold imgSizes; simp [show ¬ m.dims.length ≤ 6 from by omega])).symm)
    have a0' : decide ((6 : Int) < (m.dims.length : Int)) = true := by rw [decide_eq_true_iff]; omega
    go_wp2_with fail
    go_ret
    exact ⟨ret_bool HG.out, HB.out⟩
  have a0' : decide ((6 : Int) < (m.dims.length : Int)) = false := by rw [decide_eq_false_iff_not]; omega
  by_cases a1 : mem < 0
  · have HG := Lib.hid (show false = res from by rw [← HRES.out]; exact (HS.out (by unfold imgSizes; rw [HMEM.out]; simp [show ¬ 0 ≤ mem from by omega])).symm)
    go_wp2_with fail
    go_ret
    exact ⟨ret_bool HG.out, HB.out⟩
  have a1' : decide (mem < 0) = false := by simpa using a1
  by_cases a2 : 2097152 < mem
  · have HG := Lib.hid (show false = res from by rw [← HRES.out]; exact (HS.out (by unfold imgSizes; rw [HMEM.out]; simp [show ¬ mem ≤ 2097152 from by omega])).symm)
    go_wp2_with fail
    go_ret
    exact ⟨ret_bool HG.out, HB.out⟩
  have a2' : decide (2097152 < mem) = false := by simpa using a2
  by_cases a3 : 64 < m.ins.length
  · have HG := Lib.hid (show false = res from by rw [← HRES.out]; exact (HS.out (by unfold imgSizes; simp [show ¬ m.ins.length ≤ 64 from by omega])).symm)
    have a3' : decide ((64 : Int) < (m.ins.length : Int)) = true := by rw [decide_eq_true_iff]; omega
    go_wp2_with fail
    go_ret
    exact ⟨ret_bool HG.out, HB.out⟩
  have a3' : decide ((64 : Int) < (m.ins.length : Int)) = false := by rw [decide_eq_false_iff_not]; omega
  by_cases a4 : 64 < m.outs.length
  · have HG := Lib.hid (show false = res from by rw [← HRES.out]; exact (HS.out (by unfold imgSizes; simp [show ¬ m.outs.length ≤ 64 from by omega])).symm)
    have a4' : decide ((64 : Int) < (m.outs.length : Int)) = true := by rw [decide_eq_true_iff]; omega
    go_wp2_with fail
    go_ret
    exact ⟨ret_bool HG.out, HB.out⟩
  have a4' : decide ((64 : Int) < (m.outs.length : Int)) = false := by rw [decide_eq_false_iff_not]; omega
  by_cases a5 : 32768 < m.code.length
  · have HG := Lib.hid (show false = res from by rw [← HRES.out]; exact (HS.out (by unfold imgSizes; simp [show ¬ m.code.length ≤ 32768 from by omega])).symm)
    have a5' : decide ((32768 : Int) < (m.code.length : Int)) = true := by rw [decide_eq_true_iff]; omega
    go_wp2_with fail
    go_ret
    exact ⟨ret_bool HG.out, HB.out⟩
  have a5' : decide ((32768 : Int) < (m.code.length : Int)) = false := by rw [decide_eq_false_iff_not]; omega
  have hrr := HR.out (by unfold imgSizes; rw [HMEM.out]; simp; omega)
  rw [HRES.out, HMEM.out] at hrr
  have q2 := fun W2 (hb2 : Below W.heap.size W W2) => rslots_any W2 ia ic m.ins mem (HI.out.below slotRep (bNext hb2 HB.out) (Nat.le_refl _)) HIL.out (by omega) (by omega)
  have q3 := fun W2 (hb2 : Below W.heap.size W W2) => rslots_any W2 oa oc m.outs mem (HO.out.below slotRep (bNext hb2 HB.out) (Nat.le_refl _)) HOL.out (by omega) (by omega)
  generalize m.ins.any (offB mem) = b2 at q2 hrr
  generalize m.outs.any (offB mem) = b3 at q3 hrr
  have Q2 := Lib.hid q2; have Q3 := Lib.hid q3
  clear q2 q3
  obtain ⟨b1, hb1e⟩ : ∃ b, m.dims.any badSide = b := ⟨_, rfl⟩
  obtain ⟨b4, hb4e⟩ : ∃ b, (m.code.any fun i => !i.right) = b := ⟨_, rfl⟩
  rw [hb1e, hb4e] at hrr
  have HRR := Lib.hid hrr; have HB1E := Lib.hid hb1e; have HB4E := Lib.hid hb4e
  clear hrr hb1e hb4e
  go_wp2_with fail
  go_loop [3] (fun i => ∃ k : Nat, k ≤ m.dims.length ∧ i = .int .i64 k ∧ b1 = (m.dims.drop k).any badSide) (fun i => m.dims.length - (intOf i).toNat)
  case atStart => exact ⟨0, Nat.zero_le _, rfl, HB1E.out.symm⟩
  case round =>
    obtain ⟨k, hk, rfl, hr⟩ := hrel
    by_cases hlt : k < m.dims.length
    · rw [any_drop hlt] at hr
      obtain ⟨b, off, rfl, y0⟩ := (HD.out.below HB.out (Nat.le_refl _)) k hlt
      obtain ⟨x, hx⟩ : ∃ x, m.dims[k] = x := ⟨_, rfl⟩
      rw [hx] at y0 hr
      have Hr := Lib.hid hr
      have hk0 : (0 : Int) ≤ (k : Int) := by omega
      have hk1 : (k : Int) < (m.dims.length : Int) := by omega
      clear hr hx
      by_cases c0 : x < 0
      · have HG := Lib.hid (show badSide x = true by simp [badSide, c0])
        go_wp2_with fail
        go_ret
        exact ⟨ret_bool (by rw [HRR.out, Hr.out, HG.out]; rfl), HB.out⟩
      have c0' : decide (x < 0) = false := by simpa using c0
      by_cases c1 : 65536 < x
      · have HG := Lib.hid (show badSide x = true by simp [badSide, c1])
        have c1' : decide (65536 < x) = true := by simpa using c1
        go_wp2_with fail
        go_ret
        exact ⟨ret_bool (by rw [HRR.out, Hr.out, HG.out]; rfl), HB.out⟩
      · have HG := Lib.hid (show badSide x = false by simp [badSide, c0, c1])
        have c1' : decide (65536 < x) = false := by simpa using c1
        go_wp2_with fail
        go_round
        case rel => exact ⟨k + 1, by omega, by go_num, by rw [Hr.out, HG.out, Bool.false_or]⟩
        case measure => simp [intOf] <;> omega
    · have hr1 : b1 = false := by rw [hr, List.drop_eq_nil_of_le (by omega)]; rfl
      subst hr1
      clear hr
      go_wp2_with fail
      go_loopw [4] (fun i wr => ∃ k : Nat, k ≤ m.code.length ∧ i = .int .i64 k ∧ b4 = (m.code.drop k).any (fun i => !i.right) ∧ Below W.heap.size W wr) (fun i _ => m.code.length - (intOf i).toNat)
      case atStart => exact ⟨0, Nat.zero_le _, rfl, HB4E.out.symm, Below.refl _ _⟩
      case round =>
        obtain ⟨n, hn, rfl, hr, hbw⟩ := hrel
        have y1 := keepCell hbw x1; have y2 := keepCell hbw x2; have y3 := keepCell hbw x3; have y4 := keepCell hbw x4
        have HBW := Lib.hid hbw
        clear x0 x1 x2 x3 x4 hbw
        by_cases hnl : n < m.code.length
        · rw [any_drop hnl] at hr
          obtain ⟨b, off, rfl, hwf, e0, e1, e2, e3, e4⟩ := els_ins (HC.out.below insRep (bNext HBW.out HB.out) (Nat.le_refl _)) hnl
          have hq := rRight_any wr m.code[n].op m.code[n].a m.code[n].b m.code[n].c m.code[n].imm hwf.op.1 hwf.op.2
          have hD : m.code[n].right = insRight m.code[n].op m.code[n].a m.code[n].b m.code[n].c m.code[n].imm := rfl
          rw [← hD] at hq
          generalize m.code[n] = ii at hr hq e0 e1 e2 e3 e4
          generalize ii.right = rr at hr hq
          have HQ := Lib.hid hq; have Hr := Lib.hid hr
          have hn0 : (0 : Int) ≤ (n : Int) := by omega
          have hn1 : (n : Int) < (m.code.length : Int) := by omega
          clear hq hr hwf hD
          cases rr with
          | false =>
            go_wp2_with fail
            refine HQ.out.mono ?_
            rintro e w3 ⟨rfl, hb3⟩
            have HB3 := Lib.hid (bNext hb3 (bNext HBW.out HB.out))
            clear hb3
            go_wp2_with fail
            go_ret
            exact ⟨ret_bool (by rw [HRR.out, Hr.out]; simp), HB3.out⟩
          | true =>
            go_wp2_with fail
            refine HQ.out.mono ?_
            rintro e w3 ⟨rfl, hb3⟩
            have HB3 := Lib.hid (HBW.out.trans (hb3.mono HBW.out.size))
            clear hb3
            go_wp2_with fail
            go_roundw
            case rel => exact ⟨n + 1, by omega, by go_num, by rw [Hr.out]; rfl, HB3.out⟩
            case measure => simp [intOf] <;> omega
        · have hr4 : b4 = false := by rw [hr, List.drop_eq_nil_of_le (by omega)]; rfl
          subst hr4
          clear hr
          cases b2 with
          | true =>
            go_wp2_with fail
            refine (Q2.out _ HBW.out).mono ?_
            rintro e w3 ⟨rfl, rfl⟩
            go_wp2_with fail
            go_ret
            exact ⟨ret_bool (by rw [HRR.out]; rfl), bNext HBW.out HB.out⟩
          | false =>
            go_wp2_with fail
            refine (Q2.out _ HBW.out).mono ?_
            rintro e w3 ⟨rfl, rfl⟩
            go_wp2_with fail
            refine (Q3.out _ HBW.out).mono ?_
            rintro e w3 ⟨rfl, rfl⟩
            go_wp2_with fail
            go_ret
            exact ⟨ret_bool (by rw [HRR.out]; cases b3 <;> rfl), bNext HBW.out HB.out⟩
end Go.Proofs.Ytiogopichcnihaa
