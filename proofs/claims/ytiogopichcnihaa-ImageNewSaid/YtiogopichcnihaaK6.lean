/-
  ImageNew: the law returns true for every input, and what was handed in reads as it did. No condition.
-/
import Derived.Test.YtiogopichcnihaaJL
namespace Go.Proofs.Ytiogopichcnihaa
set_option maxRecDepth 100000
open Go.ChangeShapes Go.WideShapes Go.ChangeAt Go.RowKit Go.Joins
set_option linter.unusedVariables false
set_option linter.unusedSimpArgs false

theorem writeB_len {m : Img} (h : imgRight m = true) : (writeB m).length ≤ 300000 := by
  obtain ⟨⟨z1, z2, z3, z4, z5, z6⟩, pd, pi, po, pr⟩ := right_parts h
  have l1 := numI_len (x := (m.dims.length : Int)) (by unfold Pos; omega)
  have l2 := numI_len (x := m.mem) (by unfold Pos; omega)
  have l3 := numI_len (x := (m.code.length : Int)) (by unfold Pos; omega)
  have f1 := flat_len (e := numI) (n := 9) (l := m.dims) (fun x hx => numI_len (pd x hx))
  have s1 := slotsB_len z4 pi
  have s2 := slotsB_len z5 po
  have f2 := flat8 m.code
  have h4 := highB_len (checkB (headB m)) 4
  have h3 : ([87, 82, 1] : List Int).length = 3 := rfl
  unfold writeB
  rw [List.length_append, h4]
  unfold headB
  simp only [List.length_append]
  omega
theorem writeB_pos (m : Img) : 0 < (writeB m).length := by unfold writeB headB; simp only [List.length_append]; have : ([87, 82, 1] : List Int).length = 3 := rfl; omega
theorem one_u8s {xs : List Int} : ∀ u ∈ xs.map (Value.int .u8), u.oneCell' = true := fun u hu => by obtain ⟨x, _, rfl⟩ := List.mem_map.1 hu; rfl
set_option maxHeartbeats 16000000 in
theorem ImageNew_walk (w : World) (m : Img) (vd vi vo vc : Value) (h : ImgAt w vd vi vo vc m) :
    Calls Try.prog 8 #[.agg #[vd, .int .i64 m.mem, vi, vo, vc]] w fun e w' => e = .returned (.bool true) ∧ Below w.heap.size w w' := by
  have H := Lib.hid h
  obtain ⟨i0, hi, hz0, hz1, hz2⟩ := info_parts Try.infoU8
  have Hi := Lib.hid hi; have Hz0 := Lib.hid hz0; have Hz1 := Lib.hid hz1; have Hz2 := Lib.hid hz2
  clear hi hz0 hz1 hz2
  obtain ⟨⟨da, dc, rfl, ld1, ld2, -⟩, ⟨ia, ic, rfl, li1, li2, -, -⟩, ⟨oa, oc, rfl, -, -, -, -⟩, ⟨ca, cc, rfl, lc1, lc2, -, -⟩, -⟩ := h
  have HLD := Lib.hid (show m.dims.length ≤ 9223372036854775807 from Nat.le_trans ld1 ld2); have HLI := Lib.hid (show m.ins.length ≤ 9223372036854775807 from Nat.le_trans li1 li2); have HLC := Lib.hid (show m.code.length ≤ 9223372036854775807 from Nat.le_trans lc1 lc2)
  clear ld1 ld2 li1 li2 lc1 lc2
  go_enter Try.func8, Try.ntmps8
  go_wp2_with fail
  refine (shown_any _).mono ?_
  rintro e W1 ⟨rfl, hb1⟩
  have hM : BoxI W1 w.heap.size _ _ _ _ _ := new1 hb1
  have x0 := hM.c0; have x1 := hM.c1; have x2 := hM.c2; have x3 := hM.c3; have x4 := hM.c4
  have hb := bNext hb1 ((Below.refl w.heap.size w).alloc (Nat.le_refl _) _)
  have HB1 := Lib.hid hb; have HM1 := Lib.hid hM
  have h1 := writeO_any W1 _ _ _ _ m (ImgAt.below H.out hb)
  have H1 := Lib.hid h1
  clear hb1 hb hM h1
  go_wp2_with fail
  refine H1.out.mono ?_
  rintro e W2 ⟨v1, rfl, hr1, hb2⟩
  have HB2 := Lib.hid (bNext hb2 HB1.out); have HM2 := Lib.hid (HM1.out.below hb2)
  obtain ⟨a1, c1, rfl, hlc1, hmx1, hi1, hcm1⟩ := hr1.slice2
  have h12 := hb2.size
  cases hm : imgRight m with
  | false =>
    rw [outE_f hm, outB_f hm]
    clear hlc1 hmx1 hi1 hcm1 hr1 hb2 H1 x0 x1 x2 x3 x4 HM1 HM2 h12
    go_wp2_with fail
    go_ret
    exact ⟨rfl, HB2.out⟩
  | true =>
    rw [outE_t hm, outB_t hm]
    rw [outB_t hm] at hlc1 hmx1 hi1 hr1
    have hp := writeB_pos m
    obtain ⟨L, hL⟩ : ∃ L, (writeB m).length = L := ⟨_, rfl⟩
    have hLs : L ≤ 300000 := by rw [← hL]; exact writeB_len hm
    obtain ⟨g1, ea, hg1, cur1, hcur1, hsz1⟩ : ∃ g, a1 = some ⟨g, 0, none⟩ ∧ W1.heap.size ≤ g ∧ ∃ cur, W2.heap[g]? = some (.cells cur 5 (0, 0)) ∧ L ≤ cur.size := by
      obtain ⟨-, ⟨e, h0⟩ | ⟨g, cap, cur, e, hB, hg, hnc, hcm, hcs, ht⟩⟩ := hr1
      · omega
      · simp only [Value.slice.injEq] at e
        exact ⟨g, e.1, hB, cur, hg, by rw [Nat.mul_one] at hcs; omega⟩
    subst ea
    have hg12 : g1 < W2.heap.size := (Array.getElem?_eq_some_iff.1 hcur1).1
    have hw1 : w.heap.size < W1.heap.size := World.block_lt_of_cell? _ _ x0
    rw [hL] at hp hlc1 ⊢
    have HL := Lib.hid hL; have HHM := Lib.hid hm; have HI1 := Lib.hid hi1; have HR1 := Lib.hid hr1; have HMX := Lib.hid hcm1; have HCU := Lib.hid hcur1
    have hsrc : Src W2 (.slice (some ⟨g1, 0, none⟩) L c1) L ((writeB m).map (Value.int .u8)) := by have := ownsRow_src hr1; rw [hL] at this; exact this
    have HSRC := Lib.hid hsrc
    clear hL hi1 hr1 hmx1 hcm1 hb2 H1 x0 x1 x2 x3 x4 HM1 hcur1 hsrc hm
    have hba : ∀ o, Below W2.heap.size W2 (W2.alloc o) := fun o => (Below.refl _ _).alloc (Nat.le_refl _) o
    have HBA := Lib.hid hba
    clear hba
    go_wp2_with (at_builtin; (refine wpList_append_src _ rfl _ _ 28 rfl W2.heap.size 5 i0 _ 1 1 Try.underlying28 Hi.out Hz0.out Hz1.out Hz2.out rfl (by decide) _ 0 [] rfl (World.ownsRow_lit W2 #[] 0 (Nat.le_refl _) (Nat.zero_le _) rfl) _ L ((writeB m).map (Value.int .u8)) rfl (HSRC.out.below (HBA.out _)) (by rw [List.length_map, HL.out, Nat.mul_one]) one_u8s (by unfold maxLen; omega) (by omega) (by simp) ?_))
    intro v3 W3 hown3 hg3 hn3
    have hb3 : Below W2.heap.size W2 W3 := (HBA.out _).grown hg3 (by simp) (fun q hq => by cases hq; exact Nat.le_refl _)
    have hr3 : RowU W2.heap.size W3 v3 (writeB m) := RowU.of hown3
    obtain ⟨a3, c3, rfl, hlc3, hmx3, hi3, hcm3⟩ := hr3.slice2
    have h23 := hb3.size
    rw [HL.out] at hlc3 ⊢
    have HR3 := Lib.hid hr3; have HB3 := Lib.hid hb3; have HMX3 := Lib.hid hcm3
    have h4 := readO_any W3 (some ⟨g1, 0, none⟩) c1 L (writeB m) HL.out (HI1.out.below hb3 (Nat.le_refl _)) hlc1 HMX.out (writeB_byts m) (some m) (write_back HHM.out H.out.wf)
    dsimp only [Option.getD, Option.isSome] at h4
    have H4 := Lib.hid h4
    clear h4 hown3 hg3 hn3 hb3 hr3 hi3 hmx3 hcm3 HSRC HBA
    go_wp2_with fail
    refine H4.out.mono ?_
    rintro e W4 ⟨d3, d3', i3, i3', o3, o3', e3, e3', rfl, hown4, hat4, hb4⟩
    clear H4
    have h34 := hb4.size
    obtain ⟨BN, hBN⟩ : ∃ g, W4.heap.size = g := ⟨_, rfl⟩
    go_upto_region 7 with fail
    refine gen_worldA (fun W => Wipe w W2.heap.size W3.heap.size w.heap.size BN g1 L (.slice da m.dims.length dc) (.slice ia m.ins.length ic) (.slice oa m.outs.length oc) (.slice ca m.code.length cc) (.slice d3 m.dims.length d3') (.slice i3 m.ins.length i3') (.slice o3 m.outs.length o3') (.slice e3 m.code.length e3') (.slice a3 L c3) m (writeB m) W ∧ W3.heap.size ≤ BN ∧ BN < W.heap.size) ?_ ?_
    · have hba : Below W4.heap.size W4 (W4.alloc (.cells #[.slice d3 m.dims.length d3', .int .i64 m.mem, .slice i3 m.ins.length i3', .slice o3 m.outs.length o3', .slice e3 m.code.length e3'] 26)) := (Below.refl _ _).alloc (Nat.le_refl _) _
      have hb24 : Below W2.heap.size W2 W4 := bNext hb4 HB3.out
      have hr3 := HR3.out
      rw [HL.out] at hr3
      refine ⟨⟨bNext hba (bNext hb24 HB2.out), (HM2.out.below hb24).below hba, hBN ▸ World.alloc_heap_new _ _, hown4.below hba, (hr3.below hb4).below hba, ⟨_, block_below (block_below HCU.out hb24) hba, hsz1⟩⟩, by omega, by simp; omega⟩
    have HRB := Lib.hid HR3.out.blk
    have HWF := Lib.hid H.out.wf
    have HMM := Lib.hid hat4
    clear hown4 hat4 hb4 hBN HB2 HM2 HI1 HR1 HR3 HB3 HCU hsz1 hlc1 HMX
    rintro W5 ⟨hW5, hBN3, hBN5⟩
    have HW5 := Lib.hid hW5
    clear hW5
    go_wp2_with fail
    go_loopw [37] (fun i wr => ∃ k : Nat, k ≤ L ∧ i = .int .i64 k ∧ Wipe w W2.heap.size W3.heap.size w.heap.size BN g1 L (.slice da m.dims.length dc) (.slice ia m.ins.length ic) (.slice oa m.outs.length oc) (.slice ca m.code.length cc) (.slice d3 m.dims.length d3') (.slice i3 m.ins.length i3') (.slice o3 m.outs.length o3') (.slice e3 m.code.length e3') (.slice a3 L c3) m (writeB m) wr) (fun i _ => L - (intOf i).toNat)
    case atStart => exact ⟨0, Nat.zero_le _, rfl, HW5.out⟩
    case round =>
      obtain ⟨k, hk, rfl, hw⟩ := hrel
      by_cases hlt : k < L
      · obtain ⟨cur, ha, hcL⟩ := hw.a
        obtain ⟨⟨x, hck⟩, hcf⟩ := Wr.cell ha (k := k) (by omega)
        have hz0 : (0 : Int) ≤ (k : Int) := by omega
        have hz1 : (k : Int) < (L : Int) := by omega
        have HW := Lib.hid (hw.put (by omega) hg12 k (.int .u8 0))
        clear hw ha
        go_wp2_with fail
        go_roundw
        case rel => exact ⟨k + 1, by omega, by go_num, HW.out⟩
        case measure => simp [intOf] <;> omega
      · obtain rfl : L = k := by omega
        obtain ⟨WL, rfl⟩ : ∃ W : World, W = wr := ⟨_, rfl⟩
        have hbm := hw.bm; have hbn := hw.bn
        have x0 := hbm.c0; have x1 := hbm.c1; have x2 := hbm.c2; have x3 := hbm.c3; have x4 := hbm.c4
        have z0 := hbn.c0; have z1 := hbn.c1; have z2 := hbn.c2; have z3 := hbn.c3; have z4 := hbn.c4
        have h5 := rsame_any _ _ _ _ _ _ _ _ _ m m (hw.own.at HWF.out HMM.out.mem) (ImgAt.below H.out hw.below)
        rw [decide_eq_true rfl] at h5
        have H5 := Lib.hid h5; have HW := Lib.hid hw
        clear h5 hbm hbn hw
        go_wp2_with fail
        refine H5.out.mono ?_
        rintro e W6 ⟨rfl, hb6⟩
        have hBL : BN < WL.heap.size := World.block_lt_of_cell? _ _ z0
        have h5L : W3.heap.size ≤ WL.heap.size := by omega
        have hni : NewIn W3.heap.size WL W6 BN (.slice d3 m.dims.length d3') m.mem (.slice i3 m.ins.length i3') (.slice o3 m.outs.length o3') (.slice e3 m.code.length e3') m := NewIn.new0 (hb6.mono h5L) (HW.out.bn.below hb6) hBN3 (HW.out.own.below hb6)
        have HNI := Lib.hid hni
        clear hb6 hni x0 x1 x2 x3 x4 z0 z1 z2 z3 z4 H5
        have z0 := HNI.out.box.c0
        go_wp2_with fail
        have hdl := HLD.out
        go_loopw [51] (fun i wr => ∃ k : Nat, k ≤ m.dims.length ∧ i = .int .i64 k ∧ NewIn W3.heap.size WL wr BN (.slice d3 m.dims.length d3') m.mem (.slice i3 m.ins.length i3') (.slice o3 m.outs.length o3') (.slice e3 m.code.length e3') m) (fun i _ => m.dims.length - (intOf i).toNat)
        case atStart => exact ⟨0, Nat.zero_le _, rfl, HNI.out⟩
        case round =>
          obtain ⟨k, hk, rfl, hn⟩ := hrel
          clear z0
          have z0 := hn.box.c0
          by_cases hlt : k < m.dims.length
          · obtain ⟨g, cur, rfl, hgB, hgc, hks⟩ := hn.dims.at hlt
            obtain ⟨⟨x, hck⟩, hcf⟩ := Wr.cell hgc hks
            have hz0 : (0 : Int) ≤ (k : Int) := by omega
            have hz1 : (k : Int) < (m.dims.length : Int) := by omega
            have HN := Lib.hid (hn.put hgc hgB (by decide) (by decide) (k := k) (.int .i64 (-7)))
            clear hn hgc
            go_wp2_with fail
            go_roundw
            case rel => exact ⟨k + 1, by omega, by go_num, HN.out⟩
            case measure => simp [intOf] <;> omega
          · obtain rfl : k = m.dims.length := by omega
            have z2 := hn.box.c2
            have HN2 := Lib.hid hn
            have hil := HLI.out
            clear hn hdl
            obtain ⟨wp, rfl⟩ : ∃ wo : World, wo = wr := ⟨_, rfl⟩
            go_wp2_with fail
            go_loopw [62] (fun i wr => ∃ k : Nat, k ≤ m.ins.length ∧ i = .int .i64 k ∧ NewIn W3.heap.size WL wr BN (.slice d3 m.dims.length d3') m.mem (.slice i3 m.ins.length i3') (.slice o3 m.outs.length o3') (.slice e3 m.code.length e3') m) (fun i _ => m.ins.length - (intOf i).toNat)
            case atStart => exact ⟨0, Nat.zero_le _, rfl, HN2.out⟩
            case round =>
              obtain ⟨k, hk, rfl, hn⟩ := hrel
              clear z0 z2
              have z2 := hn.box.c2
              by_cases hlt : k < m.ins.length
              · obtain ⟨g, a2, c2, hsl, rfl, hcs, -⟩ := hn.slot hlt
                have hsl' : m.ins[k].sides.length ≤ 9223372036854775807 := hsl
                obtain ⟨wo, rfl⟩ : ∃ wo : World, wo = wr := ⟨_, rfl⟩
                have hz0 : (0 : Int) ≤ (k : Int) := by omega
                have hz1 : (k : Int) < (m.ins.length : Int) := by omega
                have HN := Lib.hid hn
                clear hn hsl
                go_wp2_with fail
                go_loopw [72] (fun i wr => ∃ j : Nat, j ≤ m.ins[k].sides.length ∧ i = .int .i64 j ∧ NewIn W3.heap.size WL wr BN (.slice d3 m.dims.length d3') m.mem (.slice (some ⟨g, 0, none⟩) m.ins.length i3') (.slice o3 m.outs.length o3') (.slice e3 m.code.length e3') m) (fun i _ => m.ins[k].sides.length - (intOf i).toNat)
                case atStart => exact ⟨0, Nat.zero_le _, rfl, HN.out⟩
                case round =>
                  obtain ⟨j, hj, rfl, hn⟩ := hrel
                  clear z2 hcs
                  have z2 := hn.box.c2
                  obtain ⟨g', a2, c2, -, hgg, hcs, hal⟩ := hn.slot hlt
                  simp only [Option.some.injEq, Addr.mk.injEq, and_true] at hgg
                  obtain rfl := hgg
                  by_cases hltj : j < m.ins[k].sides.length
                  · obtain ⟨g2, cur, rfl, hgB, hgc, hks⟩ := hal j hltj
                    obtain ⟨⟨x, hck⟩, hcf⟩ := Wr.cell hgc hks
                    have hy0 : (0 : Int) ≤ (j : Int) := by omega
                    have hy1 : (j : Int) < (m.ins[k].sides.length : Int) := by omega
                    have HN3 := Lib.hid (hn.put hgc hgB (by decide) (by decide) (k := j) (.int .i64 (-7)))
                    clear hn hgc hal
                    go_wp2_with fail
                    go_roundw
                    case rel => exact ⟨j + 1, by omega, by go_num, HN3.out⟩
                    case measure => simp [intOf] <;> omega
                  · obtain rfl : j = m.ins[k].sides.length := by omega
                    have HN3 := Lib.hid hn
                    clear hn hal
                    go_wp2_with fail
                    go_roundw
                    case rel => exact ⟨k + 1, by omega, by go_num, HN3.out⟩
                    case measure => simp [intOf] <;> omega
              · obtain rfl : k = m.ins.length := by omega
                have z4 := hn.box.c4
                have HN4 := Lib.hid hn
                have hcl := HLC.out
                clear hn hil z2
                obtain ⟨wo, rfl⟩ : ∃ wo : World, wo = wr := ⟨_, rfl⟩
                go_wp2_with fail
                go_loopw [88] (fun i wr => ∃ k : Nat, k ≤ m.code.length ∧ i = .int .i64 k ∧ NewIn W3.heap.size WL wr BN (.slice d3 m.dims.length d3') m.mem (.slice i3 m.ins.length i3') (.slice o3 m.outs.length o3') (.slice e3 m.code.length e3') m) (fun i _ => m.code.length - (intOf i).toNat)
                case atStart => exact ⟨0, Nat.zero_le _, rfl, HN4.out⟩
                case round =>
                  obtain ⟨k, hk, rfl, hn⟩ := hrel
                  clear z4
                  have z4 := hn.box.c4
                  by_cases hlt : k < m.code.length
                  · obtain ⟨g, cur, rfl, hgB, hgc, hks⟩ := hn.code.at (k := k * 5) (by omega)
                    obtain ⟨⟨x, hck⟩, hcf⟩ := Wr.cell hgc hks
                    have hz0 : (0 : Int) ≤ (k : Int) := by omega
                    have hz1 : (k : Int) < (m.code.length : Int) := by omega
                    have HN := Lib.hid (hn.put hgc hgB (by decide) (by decide) (k := k * 5) (.int .u8 77))
                    clear hn hgc
                    go_wp2_with fail
                    go_roundw
                    case rel => exact ⟨k + 1, by omega, by go_num, HN.out⟩
                    case measure => simp [intOf] <;> omega
                  · obtain rfl : k = m.code.length := by omega
                    obtain ⟨W9, rfl⟩ : ∃ wo : World, wo = wr := ⟨_, rfl⟩
                    have h3w : w.heap.size < W3.heap.size := by omega
                    have hM9 := HW.out.bm.lowB h3w hn.below
                    have x0 := hM9.c0; have x1 := hM9.c1; have x2 := hM9.c2; have x3 := hM9.c3; have x4 := hM9.c4
                    have hb9 : Below w.heap.size w W9 := HW.out.below.trans (hn.below.mono (Nat.le_of_lt h3w))
                    have h9 := writeO_any W9 _ _ _ _ m (ImgAt.below H.out hb9)
                    have hr9 := HW.out.b.lowB (by have := HRB.out; rw [HL.out] at this; exact this) hn.below
                    have H9 := Lib.hid h9; have HB9 := Lib.hid hb9; have HR9 := Lib.hid hr9; have HM9 := Lib.hid hM9
                    clear hM9 hb9 h9 hr9 hn hcl z4
                    go_wp2_with fail
                    refine H9.out.mono ?_
                    rintro e W10 ⟨v10, rfl, hr10, hb10⟩
                    rw [outE_t HHM.out]
                    rw [outB_t HHM.out] at hr10
                    obtain ⟨a10, c10, rfl, -, -, hi10, -⟩ := hr10.slice2
                    obtain ⟨a3', c3', e3', hl3, -, hi3, hc3⟩ := (HR9.out.below hb10).slice2
                    rw [HL.out] at e3' hl3 ⊢
                    simp only [Value.slice.injEq] at e3'
                    obtain ⟨rfl, -, rfl⟩ := e3'
                    have h10 := readO_any W10 a3 c3 L (writeB m) HL.out hi3 hl3 hc3 (writeB_byts m) (some m) (write_back HHM.out H.out.wf)
                    dsimp only [Option.getD, Option.isSome] at h10
                    have H10 := Lib.hid h10; have HB10 := Lib.hid (bNext hb10 HB9.out); have HM10 := Lib.hid (HM9.out.below hb10); have HI10 := Lib.hid hi10; have HI3 := Lib.hid hi3
                    clear h10 hr10 hb10 hi10 hi3 hc3 hl3 x0 x1 x2 x3 x4
                    go_wp2_with fail
                    refine H10.out.mono ?_
                    rintro e W11 ⟨d5, d5', i5, i5', o5, o5', e5, e5', rfl, -, hat11, hb11⟩
                    clear H10
                    obtain ⟨BK, hBK⟩ : ∃ g, W11.heap.size = g := ⟨_, rfl⟩
                    go_upto_region 35 with fail
                    refine gen_worldA (fun W => Below w.heap.size w W ∧ BoxI W w.heap.size (.slice da m.dims.length dc) m.mem (.slice ia m.ins.length ic) (.slice oa m.outs.length oc) (.slice ca m.code.length cc) ∧ BoxI W BK (.slice d5 m.dims.length d5') m.mem (.slice i5 m.ins.length i5') (.slice o5 m.outs.length o5') (.slice e5 m.code.length e5') ∧
                      ImgAt W (.slice d5 m.dims.length d5') (.slice i5 m.ins.length i5') (.slice o5 m.outs.length o5') (.slice e5 m.code.length e5') m ∧ IntsAt .u8 W a3 (writeB m) ∧ IntsAt .u8 W a10 (writeB m)) ?_ ?_
                    · have hba : Below W11.heap.size W11 (W11.alloc (.cells #[.slice d5 m.dims.length d5', .int .i64 m.mem, .slice i5 m.ins.length i5', .slice o5 m.outs.length o5', .slice e5 m.code.length e5'] 26)) := (Below.refl _ _).alloc (Nat.le_refl _) _
                      have hbb := bNext hba hb11
                      exact ⟨bNext hbb HB10.out, HM10.out.below hbb, hBK ▸ World.alloc_heap_new _ _, hat11.below hba, HI3.out.below hbb (Nat.le_refl _), HI10.out.below hbb (Nat.le_refl _)⟩
                    clear hat11 hb11 hBK HB10 HM10 HI10 HI3
                    rintro W12 ⟨hb12, hM12, hK12, hat12, hi3, hi10⟩
                    have cv1 := conv_str W12 a3 c3 (writeB m) hi3 (writeB_byts m)
                    have cv2 := conv_str W12 a10 c10 (writeB m) hi10 (writeB_byts m)
                    rw [HL.out] at cv1 cv2
                    have h12 := rsame_any W12 _ _ _ _ _ _ _ _ m m hat12 (ImgAt.below H.out hb12)
                    rw [decide_eq_true rfl] at h12
                    have x0 := hM12.c0; have x1 := hM12.c1; have x2 := hM12.c2; have x3 := hM12.c3; have x4 := hM12.c4
                    have y0 := hK12.c0; have y1 := hK12.c1; have y2 := hK12.c2; have y3 := hK12.c3; have y4 := hK12.c4
                    have H12 := Lib.hid h12; have HB12 := Lib.hid hb12
                    clear h12 hi3 hi10 hM12 hK12 hat12 hb12
                    go_wp2_with fail
                    refine H12.out.mono ?_
                    rintro e W13 ⟨rfl, hb13⟩
                    have HB13 := Lib.hid (bNext hb13 HB12.out)
                    clear hb13
                    go_wp2_with fail
                    go_ret
                    exact ⟨rfl, HB13.out⟩

set_option maxRecDepth 100000 in
theorem ImageNew_lifted (os : Os) (started : os.Started) (H : Type) (enc : TypeId × Value → H) :
    ReturnsInHanded {} Try.checked os 8 .any (Rows.imageNewSpec.pre6 enc Try.prog Try.f8 Rows.imageNewRow.domain false) (Rows.imageNewSpec.post enc Try.prog Try.f8 false true false false) := by
  refine returnsInHanded_of_change (C := Try.checked) own started (by kernel_rfl) Try.func8
    (ChangeSpec.witness6 (enc := enc) (C := Try.checked) false ⟨#[], #[.agg #[.slice none 0 0, .int .i64 0, .slice none 0 0, .slice none 0 0, .slice none 0 0]], []⟩ 8 (by kernel_rfl) (by kernel_rfl) (by kernel_rfl) (by kernel_rfl)) ?_
  intro W base args ds gs before hval0 hW hcnd _
  have hval : ∀ (j : Nat) t v, Try.f8.params[j]? = some t → args[j]? = some v → Value.okWide Try.prog W .any base t v := hval0
  have hW' := hW
  obtain ⟨p, q, hA0, hV, rfl, hfz, hnd⟩ := hW
  have hA : DataW.TrodAll enc Try.prog W 0 (fun _ => true) true Try.f8.params.toList args.toList ds p := hA0
  rw [Try.params8] at hA hval
  obtain ⟨v0, vs0, d0, ds0, p0, q0, hargs, rfl, rfl, h0, r0⟩ := trodAll_cons hA
  obtain ⟨rfl, rfl, rfl⟩ := trodAll_nil r0
  obtain rfl : args = #[v0] := by cases args; simp_all
  obtain ⟨rfl, rfl⟩ := trodVars_none hV
  have k0 := h0
  have lt0 : ∀ x ∈ p0, x.block < W.heap.size := by obtain ⟨m, hm⟩ := k0; exact DataW.trod_lt m _ _ _ hm
  obtain ⟨m0, vd0, vi0, vo0, vc0, rfl, s0⟩ := open_image (hval 0 26 v0 rfl rfl) h0
  clear hA0 hval0
  refine (ImageNew_walk W m0 vd0 vi0 vo0 vc0 s0).mono fun e W' ⟨he, bel⟩ => ?_
  subst he
  exact ⟨_, rfl, _, _, _, [], _, [], hW', trodAll_mk1 (shut_bool Try.underlying4 _), (trodAll_cons_mk (Below.trod laidOut (by kernel_rfl) (of_decide_eq_true (by kernel_rfl)) k0 bel lt0) trodAll_mk0), rfl, bel.frame _, fun h => by cases h⟩

/-- The given statement. -/
theorem ImageNew_holds : Rows.ImageNewSaid :=
  OpenClaim.holds_of_wide 8 Try.f8 rfl rfl rfl rfl rfl rfl rfl ⟨rfl, rfl, rfl, rfl, rfl⟩ rfl rfl rfl rfl rfl (by kernel_rfl) Try.func8 (by kernel_rfl)
    (of_decide_eq_true (by kernel_rfl)) (by unfold Func.isWrapper; rw [if_neg (by decide +kernel)]; exact ⟨rfl, rfl⟩)
    (fun os started H enc _ => ImageNew_lifted os started H enc)
#print axioms ImageNew_holds
end Go.Proofs.Ytiogopichcnihaa
