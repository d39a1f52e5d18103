/-
  ImageCuts: the law returns true for every input, and what was handed in reads as it did. No condition.
-/
import Derived.Test.YtiogopichcnihaaJI
namespace Go.Proofs.Ytiogopichcnihaa
set_option maxRecDepth 100000
open Go.ChangeShapes Go.WideShapes Go.ChangeAt Go.RowKit Go.Joins
set_option linter.unusedVariables false
set_option linter.unusedSimpArgs false

theorem cut_no {m : Img} {k : Nat} (hk : k < (writeB m).length) {x : Img} (h : readB ((writeB m).take k) = some x) : x ≠ m := by
  intro e
  subst e
  have hb : Byts ((writeB x).take k) := fun y hy => writeB_byts x y (List.mem_of_mem_take hy)
  have h1 := congrArg List.length (read_back hb h).1
  rw [List.length_take] at h1
  omega
theorem more_no {m : Img} {b : Int} (hb : Byt b) {x : Img} (h : readB (writeB m ++ [b]) = some x) : x ≠ m := by
  intro e
  subst e
  have hb : Byts (writeB x ++ [b]) := (writeB_byts x).app (fun y hy => by rw [List.mem_singleton.1 hy]; exact hb)
  have h1 := congrArg List.length (read_back hb h).1
  simp at h1
theorem turn_no {m : Img} {k : Nat} {b : Int} (hk : k < (writeB m).length) (hb : Byt b) (hne : b ≠ (writeB m)[k]) {x : Img} (h : readB ((writeB m).set k b) = some x) : x ≠ m := by
  intro e
  subst e
  have hb : Byts ((writeB x).set k b) := fun y hy => by
    rcases List.mem_or_eq_of_mem_set hy with h | h
    · exact writeB_byts x y h
    · rw [h]; exact hb
  have h1 := (read_back hb h).1
  have h2 : ((writeB x).set k b)[k]? = some b := by rw [List.getElem?_set_self (by omega)]
  rw [← h1, List.getElem?_eq_getElem hk] at h2
  injection h2 with h2
  exact hne h2.symm
theorem xor_u8 (x y : Nat) (hx : x < 256) (hy : y < 256) : ∃ z : Nat, bits BinOp.xor IntKind.u8 (x : Int) (y : Int) = (z : Int) ∧ z < 256 ∧ (z = x ↔ y = 0) := by
  have hlt : x ^^^ y < 256 := Nat.xor_lt_two_pow (n := 8) hx hy
  refine ⟨x ^^^ y, ?_, hlt, ?_⟩
  · have e : bits BinOp.xor IntKind.u8 (x : Int) (y : Int) = IntKind.u8.wrap (((BitVec.ofInt 8 (x : Int) ^^^ BitVec.ofInt 8 (y : Int)).toNat : Nat) : Int) := rfl
    rw [e, BitVec.toNat_xor, BitVec.toNat_ofInt, BitVec.toNat_ofInt]
    have h8 : ((2 ^ 8 : Nat) : Int) = 256 := by decide
    have h1 : ((x : Int) % ((2 ^ 8 : Nat) : Int)).toNat = x := by rw [h8]; omega
    have h2 : ((y : Int) % ((2 ^ 8 : Nat) : Int)).toNat = y := by rw [h8]; omega
    rw [h1, h2]
    generalize x ^^^ y = n at hlt ⊢
    have : IntKind.u8.wrap (n : Int) = (n : Int) % 256 := by simp [IntKind.wrap, IntKind.signed, IntKind.bits]
    rw [this]
    omega
  · constructor
    · intro h
      have h2 : x ^^^ (x ^^^ y) = x ^^^ x := by rw [h]
      rw [← Nat.xor_assoc, Nat.xor_self, Nat.zero_xor] at h2
      exact h2
    · intro h; subst h; simp
theorem writeB_len {m : Img} (h : imgRight m = true) : (writeB m).length ≤ 300000 := by
  obtain ⟨⟨z1, z2, z3, z4, z5, z6⟩, pd, pi, po, pr⟩ := right_parts h
  have l1 := numI_len (x := (m.dims.length : Int)) (by unfold Pos; omega)
  have l2 := numI_len (x := m.mem) (by unfold Pos; omega)
  have l3 := numI_len (x := (m.code.length : Int)) (by unfold Pos; omega)
  have f1 := flat_len (e := numI) (n := 9) (l := m.dims) (fun x hx => numI_len (pd x hx))
  have s1 := slotsB_len z4 pi
  have s2 := slotsB_len z5 po
  have f2 := flat8 m.code
  have h4 := highB_len (checkB (headB m)) 4
  have h3 : ([87, 82, 1] : List Int).length = 3 := rfl
  unfold writeB
  rw [List.length_append, h4]
  unfold headB
  simp only [List.length_append]
  omega
theorem writeB_pos (m : Img) : 0 < (writeB m).length := by unfold writeB headB; simp only [List.length_append]; have : ([87, 82, 1] : List Int).length = 3 := rfl; omega
theorem RowU.set {B g n c k : Nat} {w : World} {xs : List Int} (h : RowU B w (.slice (some ⟨g, 0, none⟩) n c) xs) (hn : n = xs.length) (hk : k < n) (z : Int) : RowU B (w.setCell ⟨g, k, none⟩ (.int .u8 z)) (.slice (some ⟨g, 0, none⟩) n c) (xs.set k z) := by
  subst hn
  obtain ⟨h1, ⟨hv, hn⟩ | ⟨g', cap, cur, hv, hB, hg, hnc, hcm, hcs, ht⟩⟩ := h
  · cases hv
  · cases hv
    refine RowU.of (n := xs.length) ⟨by simp, .inr ⟨g, c, cur.setIfInBounds k (.int .u8 z), rfl, hB, by rw [heap_setCell_same w g k _ _ _ hg], hnc, hcm, by simp [hcs], ?_⟩⟩
    have e : (cur.setIfInBounds k (.int .u8 z)).toList = cur.toList.set k (.int .u8 z) := by simp
    rw [e, List.take_set, ht, List.map_set]
theorem one_u8s {xs : List Int} : ∀ u ∈ xs.map (Value.int .u8), u.oneCell' = true := fun u hu => by obtain ⟨x, _, rfl⟩ := List.mem_map.1 hu; rfl
/-- what a Read tells of an image that it is not -/
theorem notSame {l : List Int} {m : Img} (h : ∀ x, readB l = some x → x ≠ m) (res : Option Img) (hr : readB l = res) : (if res.isSome then (0 : Int) else 191) = 0 → decide (res.getD img0 = m) = false := by
  intro he
  cases res with
  | none => simp at he
  | some x => exact decide_eq_false (h x hr)
set_option maxHeartbeats 16000000 in
theorem ImageCuts_walk (w : World) (m : Img) (vd vi vo vc : Value) (pos b : Int) (h : ImgAt w vd vi vo vc m) (hpos : (Lit.int .u16 pos).wf = true) (hb : (Lit.int .u8 b).wf = true) :
    Calls Try.prog 6 #[.agg #[vd, .int .i64 m.mem, vi, vo, vc], .int .u16 pos, .int .u8 b] w fun e w' => e = .returned (.bool true) ∧ Below w.heap.size w w' := by
  have H := Lib.hid h
  have hpos0 : 0 ≤ pos ∧ pos ≤ 65535 := by simpa [Lit.wf, IntKind.min, IntKind.max, IntKind.signed, IntKind.bits] using hpos
  have hby := wf_u8 hb
  obtain ⟨pn, rfl⟩ : ∃ n : Nat, pos = n := ⟨pos.toNat, by omega⟩
  obtain ⟨bn, rfl⟩ : ∃ n : Nat, b = n := ⟨b.toNat, by omega⟩
  obtain ⟨hp0, hp1⟩ := hpos0
  obtain ⟨hb0, hb1⟩ := hby
  obtain ⟨i0, hi, hz0, hz1, hz2⟩ := info_parts Try.infoU8
  have Hi := Lib.hid hi; have Hz0 := Lib.hid hz0; have Hz1 := Lib.hid hz1; have Hz2 := Lib.hid hz2
  clear hi hz0 hz1 hz2 hpos hb
  obtain ⟨⟨da, dc, rfl, -, -, -⟩, ⟨ia, ic, rfl, -, -, -, -⟩, ⟨oa, oc, rfl, -, -, -, -⟩, ⟨ca, cc, rfl, -, -, -, -⟩, -⟩ := h
  go_enter Try.func6, Try.ntmps6
  go_wp2_with fail
  refine (shown_any _).mono ?_
  rintro e W1 ⟨rfl, hb1⟩
  have hM : BoxI W1 w.heap.size _ _ _ _ _ := new1 hb1
  have x0 := hM.c0; have x1 := hM.c1; have x2 := hM.c2; have x3 := hM.c3; have x4 := hM.c4
  have hb := bNext hb1 ((Below.refl w.heap.size w).alloc (Nat.le_refl _) _)
  have HB1 := Lib.hid hb; have HM1 := Lib.hid hM
  have h1 := writeO_any W1 _ _ _ _ m (ImgAt.below H.out hb)
  have H1 := Lib.hid h1
  clear hb1 hb hM h1
  go_wp2_with fail
  refine H1.out.mono ?_
  rintro e W2 ⟨v1, rfl, hr1, hb2⟩
  have HB2 := Lib.hid (bNext hb2 HB1.out); have HM2 := Lib.hid (HM1.out.below hb2)
  obtain ⟨a1, c1, rfl, hlc1, hmx1, hi1, hcm1⟩ := hr1.slice2
  cases hm : imgRight m with
  | false =>
    rw [outE_f hm, outB_f hm]
    clear hlc1 hmx1 hi1 hcm1 hr1 hb2 H1 x0 x1 x2 x3 x4 HM1 HM2
    go_wp2_with fail
    go_ret
    exact ⟨rfl, HB2.out⟩
  | true =>
    rw [outE_t hm, outB_t hm]
    rw [outB_t hm] at hlc1 hmx1 hi1 hr1
    have hp := writeB_pos m
    obtain ⟨L, hL⟩ : ∃ L, (writeB m).length = L := ⟨_, rfl⟩
    obtain ⟨k, hk⟩ : ∃ k : Nat, (pn : Int) % (L : Int) = (k : Int) := ⟨pn % L, by omega⟩
    have hkL : k < L := by
      have : (pn : Int) % (L : Int) < (L : Int) := Int.emod_lt_of_pos _ (by omega)
      omega
    have hLs : L ≤ 300000 := by rw [← hL]; exact writeB_len hm
    have hmx1' : L ≤ 9223372036854775807 := by rw [← hL]; exact hmx1
    rw [hL] at hp hlc1 ⊢
    have HL := Lib.hid hL; have HHM := Lib.hid hm; have HI1 := Lib.hid hi1; have HR1 := Lib.hid hr1; have HMX := Lib.hid hcm1
    have hL0 : ((L : Int) == 0) = false := by rw [beq_eq_false_iff_ne]; omega
    have HK := Lib.hid hk
    clear hm hL hi1 hr1 hmx1 hcm1 hb2 H1 x0 x1 x2 x3 x4 HM1 hk
    go_upto_region 6 with fail
    rw [HK.out]
    -- cut off
    have s1 := fun W => slice_hiB W a1 L c1 (k : Int) (by omega) (by omega)
    rw [Int.toNat_natCast] at s1
    have hcut := HI1.out.cut (l := 0) (n := k) (m := c1) (by rw [HL.out]; exact hlc1)
    rw [List.drop_zero] at hcut
    generalize subA a1 c1 0 = a2 at s1 hcut
    obtain ⟨rx, hrx⟩ : ∃ r, readB ((writeB m).take k) = r := ⟨_, rfl⟩
    have hns := notSame (l := (writeB m).take k) (m := m) (fun x hx => cut_no (by rw [HL.out]; exact hkL) hx) rx hrx
    have h3 := readO_any W2 a2 c1 k _ (by rw [List.length_take, HL.out]; omega) hcut (by omega) HMX.out (fun y hy => writeB_byts m y (List.mem_of_mem_take hy)) rx hrx
    generalize (if rx.isSome then (0 : Int) else 191) = ex at hns h3
    generalize rx.getD img0 = X at hns h3
    have H3 := Lib.hid h3; have HNX := Lib.hid hns
    clear h3 hns hcut hrx HK
    go_wp2_with fail
    refine H3.out.mono ?_
    rintro e W3 ⟨d3, d3', i3, i3', o3, o3', e3, e3', rfl, -, hat3, hb3⟩
    clear H3 s1
    obtain ⟨BX, hBX⟩ : ∃ g, W3.heap.size = g := ⟨_, rfl⟩
    go_upto_region 7 with fail
    refine gen_worldA (fun W => Below w.heap.size w W ∧ BoxI W w.heap.size (.slice da m.dims.length dc) m.mem (.slice ia m.ins.length ic) (.slice oa m.outs.length oc) (.slice ca m.code.length cc) ∧ BoxI W BX (.slice d3 X.dims.length d3') X.mem (.slice i3 X.ins.length i3') (.slice o3 X.outs.length o3') (.slice e3 X.code.length e3') ∧
      ImgAt W (.slice d3 X.dims.length d3') (.slice i3 X.ins.length i3') (.slice o3 X.outs.length o3') (.slice e3 X.code.length e3') X ∧ RowU W1.heap.size W (.slice a1 L c1) (writeB m)) ?_ ?_
    · have hba : Below W3.heap.size W3 (W3.alloc (.cells #[.slice d3 X.dims.length d3', .int .i64 X.mem, .slice i3 X.ins.length i3', .slice o3 X.outs.length o3', .slice e3 X.code.length e3'] 26)) := (Below.refl _ _).alloc (Nat.le_refl _) _
      have hr3 : RowU W1.heap.size W3 (.slice a1 L c1) (writeB m) := by have := HR1.out.below hb3; rw [HL.out] at this; exact this
      exact ⟨bNext hba (bNext hb3 HB2.out), (HM2.out.below hb3).below hba, hBX ▸ World.alloc_heap_new _ _, hat3.below hba, hr3.below hba⟩
    clear hat3 hb3 hBX HB2 HM2 HI1 HR1
    rintro W4 ⟨hb4, hM4, hX4, hat4, hr4⟩
    -- with one more
    have hsrc : Src W4 (.slice a1 L c1) L ((writeB m).map (Value.int .u8)) := by have := ownsRow_src hr4; rw [HL.out] at this; exact this
    have HSRC := Lib.hid hsrc; have HB4 := Lib.hid hb4; have HM4 := Lib.hid hM4; have HX4 := Lib.hid hX4; have HAT4 := Lib.hid hat4; have HR4 := Lib.hid hr4
    clear hsrc hb4 hM4 hX4 hat4 hr4
    have hba : ∀ o, Below W4.heap.size W4 (W4.alloc o) := fun o => (Below.refl _ _).alloc (Nat.le_refl _) o
    have HBA := Lib.hid hba
    clear hba
    go_wp2_with (at_builtin; (refine wpList_append_src _ rfl _ _ 28 rfl W4.heap.size 5 i0 _ 1 1 Try.underlying28 Hi.out Hz0.out Hz1.out Hz2.out rfl (by decide) _ 0 [] rfl (World.ownsRow_lit W4 #[] 0 (Nat.le_refl _) (Nat.zero_le _) rfl) _ L ((writeB m).map (Value.int .u8)) rfl (HSRC.out.below (HBA.out _)) (by rw [List.length_map, HL.out, Nat.mul_one]) one_u8s (by unfold maxLen; omega) (by omega) (by simp) ?_))
    intro v5 W5 hown5 hg5 hn5
    have hb5 : Below W4.heap.size W4 W5 := (HBA.out _).grown hg5 (by simp) (fun q hq => by cases hq; exact Nat.le_refl _)
    have HO5 := Lib.hid hown5; have HB5 := Lib.hid hb5
    clear hown5 hg5 hn5 hb5
    go_wp2_with (at_builtin; (refine wpList_append_src _ rfl _ _ 28 rfl W4.heap.size 5 i0 _ 1 1 Try.underlying28 Hi.out Hz0.out Hz1.out Hz2.out rfl (by decide) _ L ((writeB m).map (Value.int .u8)) rfl (World.ownsRow.alloc HO5.out _) _ 1 [.int .u8 (bn : Int)] rfl (src_lit1 _ _ _ _ _ _ rfl rfl) rfl ?h1 (by unfold maxLen; omega) (by omega) (by have := HB5.out.size; simp; omega) ?_))
    case h1 => intro u hu; cases List.mem_singleton.1 hu; rfl
    intro v6 W6 hown6 hg6 hn6
    have hb6 : Below W4.heap.size W4 W6 := (HB5.out.alloc HB5.out.size _).grown hg6 (by have := HB5.out.size; simp; omega) (fun q hq => (World.ownsRow.lt HO5.out q hq).1)
    have hr6 : RowU W4.heap.size W6 v6 (writeB m ++ [(bn : Int)]) := RowU.app hown6
    obtain ⟨a6, c6, rfl, hlc6, hmx6, hi6, hcm6⟩ := hr6.slice2
    have hl6 : (writeB m ++ [(bn : Int)]).length = L + 1 := by rw [List.length_append, HL.out]; rfl
    rw [hl6] at hlc6 hmx6
    obtain ⟨ry, hry⟩ : ∃ r, readB (writeB m ++ [(bn : Int)]) = r := ⟨_, rfl⟩
    have hns := notSame (l := writeB m ++ [(bn : Int)]) (m := m) (fun x hx => more_no (by unfold Byt; omega) hx) ry hry
    have h7 := readO_any W6 a6 c6 (L + 1) _ hl6 hi6 hlc6 hcm6 ((writeB_byts m).app (fun y hy => by rw [List.mem_singleton.1 hy]; unfold Byt; omega)) ry hry
    generalize (if ry.isSome then (0 : Int) else 191) = ey at hns h7
    generalize ry.getD img0 = Y at hns h7
    have H7 := Lib.hid h7; have HNY := Lib.hid hns; have HB6 := Lib.hid hb6
    rw [hl6]
    clear hns h7 hry hl6 hr6 hi6 hb6 hown6 hg6 hn6 HO5 HB5
    go_wp2_with fail
    refine H7.out.mono ?_
    rintro e W7 ⟨d7, d7', i7, i7', o7, o7', e7, e7', rfl, -, hat7, hb7⟩
    clear H7
    have hb47 : Below W4.heap.size W4 W7 := HB6.out.trans (hb7.mono HB6.out.size)
    obtain ⟨BY, hBY⟩ : ∃ g, W7.heap.size = g := ⟨_, rfl⟩
    go_upto_region 8 with fail
    refine gen_worldA (fun W => Below w.heap.size w W ∧ BoxI W w.heap.size (.slice da m.dims.length dc) m.mem (.slice ia m.ins.length ic) (.slice oa m.outs.length oc) (.slice ca m.code.length cc) ∧ BoxI W BX (.slice d3 X.dims.length d3') X.mem (.slice i3 X.ins.length i3') (.slice o3 X.outs.length o3') (.slice e3 X.code.length e3') ∧
      ImgAt W (.slice d3 X.dims.length d3') (.slice i3 X.ins.length i3') (.slice o3 X.outs.length o3') (.slice e3 X.code.length e3') X ∧ BoxI W BY (.slice d7 Y.dims.length d7') Y.mem (.slice i7 Y.ins.length i7') (.slice o7 Y.outs.length o7') (.slice e7 Y.code.length e7') ∧
      ImgAt W (.slice d7 Y.dims.length d7') (.slice i7 Y.ins.length i7') (.slice o7 Y.outs.length o7') (.slice e7 Y.code.length e7') Y ∧ Src W (.slice a1 L c1) L ((writeB m).map (Value.int .u8))) ?_ ?_
    · have hba : Below W7.heap.size W7 (W7.alloc (.cells #[.slice d7 Y.dims.length d7', .int .i64 Y.mem, .slice i7 Y.ins.length i7', .slice o7 Y.outs.length o7', .slice e7 Y.code.length e7'] 26)) := (Below.refl _ _).alloc (Nat.le_refl _) _
      have hb48 := bNext hba hb47
      exact ⟨bNext hb48 HB4.out, HM4.out.below hb48, HX4.out.below hb48, HAT4.out.below hb48, hBY ▸ World.alloc_heap_new _ _, hat7.below hba, HSRC.out.below hb48⟩
    clear hat7 hb7 hBY hb47 HB4 HM4 HX4 HAT4 HSRC HR4 HBA HB6 hlc6 hmx6 hcm6
    rintro W8 ⟨hb8, hM8, hX8, hat8, hY8, hay8, hsrc8⟩
    have HB8 := Lib.hid hb8; have HM8 := Lib.hid hM8; have HX8 := Lib.hid hX8; have HAX8 := Lib.hid hat8; have HY8 := Lib.hid hY8; have HAY8 := Lib.hid hay8; have HSRC := Lib.hid hsrc8
    clear hb8 hM8 hX8 hat8 hY8 hay8 hsrc8
    have hba : ∀ o, Below W8.heap.size W8 (W8.alloc o) := fun o => (Below.refl _ _).alloc (Nat.le_refl _) o
    have HBA := Lib.hid hba
    clear hba
    go_wp2_with (at_builtin; (refine wpList_append_src _ rfl _ _ 28 rfl W8.heap.size 5 i0 _ 1 1 Try.underlying28 Hi.out Hz0.out Hz1.out Hz2.out rfl (by decide) _ 0 [] rfl (World.ownsRow_lit W8 #[] 0 (Nat.le_refl _) (Nat.zero_le _) rfl) _ L ((writeB m).map (Value.int .u8)) rfl (HSRC.out.below (HBA.out _)) (by rw [List.length_map, HL.out, Nat.mul_one]) one_u8s (by unfold maxLen; omega) (by omega) (by simp) ?_))
    intro v9 W9 hown9 hg9 hn9
    have hb9 : Below W8.heap.size W8 W9 := (HBA.out _).grown hg9 (by simp) (fun q hq => by cases hq; exact Nat.le_refl _)
    have hr9 : RowU W8.heap.size W9 v9 (writeB m) := RowU.of hown9
    obtain ⟨g9, c9, rfl, hgB, hgh⟩ : ∃ g c, v9 = .slice (some ⟨g, 0, none⟩) L c ∧ W8.heap.size ≤ g ∧ ∃ cur, W9.heap[g]? = some (.cells cur 5 (0, 0)) := by
      obtain ⟨-, ⟨e, h0⟩ | ⟨g, cap, cur, e, hB, hg, _⟩⟩ := hown9
      · omega
      · exact ⟨g, cap, e, hB, cur, hg⟩
    obtain ⟨cur9, hcur9⟩ := hgh
    obtain ⟨xk, hxk⟩ : ∃ x : Nat, (writeB m)[k]'(by rw [HL.out]; exact hkL) = (x : Int) := by
      have := writeB_byts m ((writeB m)[k]'(by rw [HL.out]; exact hkL)) (List.getElem_mem _)
      exact ⟨((writeB m)[k]'(by rw [HL.out]; exact hkL)).toNat, by unfold Byt at this; omega⟩
    have hxb : xk < 256 := by
      have := writeB_byts m ((writeB m)[k]'(by rw [HL.out]; exact hkL)) (List.getElem_mem _)
      rw [hxk] at this; unfold Byt at this; omega
    obtain ⟨z, hz, hzl, hzi⟩ := xor_u8 xk bn hxb (by omega)
    have hck : W9.cell? ⟨g9, k, none⟩ = some (.int .u8 (xk : Int)) := by
      obtain ⟨a, c, e, _, _, hi⟩ := hr9.slice
      simp only [Value.slice.injEq] at e
      obtain ⟨b', off', e', hc⟩ := hi k (by rw [HL.out]; exact hkL)
      rw [← e.1] at e'
      simp only [Option.some.injEq, Addr.mk.injEq] at e'
      obtain ⟨rfl, rfl, -⟩ := e'
      rw [Nat.zero_add, hxk] at hc
      exact hc
    have hcf := frozen_of_row W9 g9 k _ _ hcur9
    have hkI : (k : Int) < (L : Int) := by omega
    have HR9 := Lib.hid hr9; have HB9 := Lib.hid hb9; have HXK := Lib.hid hxk; have HZI := Lib.hid hzi
    clear hown9 hg9 hn9 hr9 hb9 hxk hzi hcur9
    have hrt := HR9.out.set HL.out.symm hkL (z : Int)
    have hbt : Below W8.heap.size W8 (W9.setCell ⟨g9, k, none⟩ (.int .u8 (z : Int))) := HB9.out.setCell (p := ⟨g9, k, none⟩) hgB _
    obtain ⟨aT, cT, eT, hlT, -, hiT, hcT⟩ := hrt.slice2
    have hlen : ((writeB m).set k (z : Int)).length = L := by rw [List.length_set, HL.out]
    rw [hlen] at eT hlT
    simp only [Value.slice.injEq, true_and] at eT
    obtain ⟨rfl, rfl⟩ := eT
    obtain ⟨rz, hrz⟩ : ∃ r, readB ((writeB m).set k (z : Int)) = r := ⟨_, rfl⟩
    have hbT : Byts ((writeB m).set k (z : Int)) := fun y hy => by
      rcases List.mem_or_eq_of_mem_set hy with h | h
      · exact writeB_byts m y h
      · rw [h]; unfold Byt; omega
    have hzs : (¬ bn = 0 → ((if rz.isSome then (0 : Int) else 191) = 0 → decide (rz.getD img0 = m) = false)) ∧ (bn = 0 → (if rz.isSome then (0 : Int) else 191) = 0 ∧ rz.getD img0 = m) := by
      constructor
      · intro hb0 he
        refine notSame (l := (writeB m).set k (z : Int)) (m := m) (fun x hx => turn_no (by rw [HL.out]; exact hkL) (by unfold Byt; omega) (fun e => hb0 (HZI.out.1 (by rw [HXK.out] at e; omega))) hx) rz hrz he
      · intro hb0
        have hzx : z = xk := HZI.out.2 hb0
        have hset : (writeB m).set k (z : Int) = writeB m := by
          rw [hzx, ← HXK.out]
          exact List.set_getElem_self _
        have hrs : rz = some m := by rw [← hrz, hset]; exact write_back HHM.out H.out.wf
        rw [hrs]
        exact ⟨rfl, rfl⟩
    have hz3 := readO_any (W9.setCell ⟨g9, k, none⟩ (.int .u8 (z : Int))) (some ⟨g9, 0, none⟩) c9 L _ hlen hiT hlT hcT hbT rz hrz
    generalize (if rz.isSome then (0 : Int) else 191) = ez at hzs hz3
    generalize rz.getD img0 = Q at hzs hz3
    have HZ3 := Lib.hid hz3; have HZS := Lib.hid hzs; have HBT := Lib.hid hbt
    clear hrt hiT hlT hcT hlen hbT hrz hzs hz3 hbt HR9 HB9 HXK HZI HSRC HBA hxb hzl
    go_wp2_with fail
    refine HZ3.out.mono ?_
    rintro e WA ⟨dA, dA', iA, iA', oA, oA', eA, eA', rfl, -, hatA, hbA⟩
    clear HZ3
    obtain ⟨BZ, hBZ⟩ : ∃ g, WA.heap.size = g := ⟨_, rfl⟩
    have hb8A : Below W8.heap.size W8 WA := bNext hbA HBT.out
    go_upto_region 11 with fail
    refine gen_worldA (fun W => Below w.heap.size w W ∧ BoxI W w.heap.size (.slice da m.dims.length dc) m.mem (.slice ia m.ins.length ic) (.slice oa m.outs.length oc) (.slice ca m.code.length cc) ∧ BoxI W BX (.slice d3 X.dims.length d3') X.mem (.slice i3 X.ins.length i3') (.slice o3 X.outs.length o3') (.slice e3 X.code.length e3') ∧
      ImgAt W (.slice d3 X.dims.length d3') (.slice i3 X.ins.length i3') (.slice o3 X.outs.length o3') (.slice e3 X.code.length e3') X ∧ BoxI W BY (.slice d7 Y.dims.length d7') Y.mem (.slice i7 Y.ins.length i7') (.slice o7 Y.outs.length o7') (.slice e7 Y.code.length e7') ∧
      ImgAt W (.slice d7 Y.dims.length d7') (.slice i7 Y.ins.length i7') (.slice o7 Y.outs.length o7') (.slice e7 Y.code.length e7') Y ∧ BoxI W BZ (.slice dA Q.dims.length dA') Q.mem (.slice iA Q.ins.length iA') (.slice oA Q.outs.length oA') (.slice eA Q.code.length eA') ∧
      ImgAt W (.slice dA Q.dims.length dA') (.slice iA Q.ins.length iA') (.slice oA Q.outs.length oA') (.slice eA Q.code.length eA') Q) ?_ ?_
    · have hba : Below WA.heap.size WA (WA.alloc (.cells #[.slice dA Q.dims.length dA', .int .i64 Q.mem, .slice iA Q.ins.length iA', .slice oA Q.outs.length oA', .slice eA Q.code.length eA'] 26)) := (Below.refl _ _).alloc (Nat.le_refl _) _
      have hb8B := bNext hba hb8A
      exact ⟨bNext hb8B HB8.out, HM8.out.below hb8B, HX8.out.below hb8B, HAX8.out.below hb8B, HY8.out.below hb8B, HAY8.out.below hb8B, hBZ ▸ World.alloc_heap_new _ _, hatA.below hba⟩
    clear hatA hbA hBZ hb8A HB8 HM8 HX8 HAX8 HY8 HAY8 HBT
    rintro WB ⟨hbB, hMB, hXB, hxB, hYB, hyB, hZB, hzB⟩
    have HATM := Lib.hid (ImgAt.below H.out hbB)
    have HBW := Lib.hid hbB; have HM := Lib.hid hMB; have HX := Lib.hid hXB; have HATX := Lib.hid hxB; have HY := Lib.hid hYB; have HATY := Lib.hid hyB; have HZ := Lib.hid hZB; have HATZ := Lib.hid hzB
    have HR0 := Lib.hid (Below.refl WB.heap.size WB)
    clear hbB hMB hXB hxB hYB hyB hZB hzB hck hcf hz hkI
    by_cases hex : ex = 0
    · subst hex
      have hq1 := rsame_any WB _ _ _ _ _ _ _ _ X m HATX.out HATM.out
      rw [HNX.out rfl] at hq1
      have HQ1 := Lib.hid hq1
      have y0 := HM.out.c0; have y1 := HM.out.c1; have y2 := HM.out.c2; have y3 := HM.out.c3; have y4 := HM.out.c4
      have z0 := HX.out.c0; have z1 := HX.out.c1; have z2 := HX.out.c2; have z3 := HX.out.c3; have z4 := HX.out.c4
      clear hq1
      go_wp2_with fail
      refine HQ1.out.mono ?_
      rintro e WD ⟨rfl, hbD⟩
      have HBD := Lib.hid hbD
      clear hbD y0 y1 y2 y3 y4 z0 z1 z2 z3 z4
      by_cases hey : ey = 0
      · subst hey
        have hq2 := rsame_any WD _ _ _ _ _ _ _ _ Y m (ImgAt.below HATY.out (Hid.out HBD)) (ImgAt.below HATM.out (Hid.out HBD))
        rw [HNY.out rfl] at hq2
        have HQ2 := Lib.hid hq2
        have y0 := (HM.out.below (Hid.out HBD)).c0; have y1 := (HM.out.below (Hid.out HBD)).c1; have y2 := (HM.out.below (Hid.out HBD)).c2; have y3 := (HM.out.below (Hid.out HBD)).c3; have y4 := (HM.out.below (Hid.out HBD)).c4
        have z0 := (HY.out.below (Hid.out HBD)).c0; have z1 := (HY.out.below (Hid.out HBD)).c1; have z2 := (HY.out.below (Hid.out HBD)).c2; have z3 := (HY.out.below (Hid.out HBD)).c3; have z4 := (HY.out.below (Hid.out HBD)).c4
        clear hq2
        go_wp2_with fail
        refine HQ2.out.mono ?_
        rintro e WE ⟨rfl, hbE⟩
        have HBE := Lib.hid (Below.trans (Hid.out HBD) (hbE.mono (Below.size (Hid.out HBD))))
        clear hbE y0 y1 y2 y3 y4 z0 z1 z2 z3 z4
        by_cases hbn : bn = 0
        · obtain ⟨rfl, rfl⟩ := HZS.out.2 hbn
          subst hbn
          have hq3 := rsame_any WE _ _ _ _ _ _ _ _ Q Q (ImgAt.below HATZ.out (Hid.out HBE)) (ImgAt.below HATM.out (Hid.out HBE))
          rw [decide_eq_true rfl] at hq3
          have HQ3 := Lib.hid hq3
          have y0 := (HM.out.below (Hid.out HBE)).c0; have y1 := (HM.out.below (Hid.out HBE)).c1; have y2 := (HM.out.below (Hid.out HBE)).c2; have y3 := (HM.out.below (Hid.out HBE)).c3; have y4 := (HM.out.below (Hid.out HBE)).c4
          have z0 := (HZ.out.below (Hid.out HBE)).c0; have z1 := (HZ.out.below (Hid.out HBE)).c1; have z2 := (HZ.out.below (Hid.out HBE)).c2; have z3 := (HZ.out.below (Hid.out HBE)).c3; have z4 := (HZ.out.below (Hid.out HBE)).c4
          clear hq3
          go_wp2_with fail
          refine HQ3.out.mono ?_
          rintro e WF ⟨rfl, hbF⟩
          have HBF := Lib.hid (bNext hbF (bNext (Hid.out HBE) HBW.out))
          clear hbF
          go_wp2_with fail
          go_ret
          exact ⟨rfl, HBF.out⟩
        · have hbne : ((bn : Int) == 0) = false := by rw [beq_eq_false_iff_ne]; omega
          by_cases hez : ez = 0
          · subst hez
            have hq3 := rsame_any WE _ _ _ _ _ _ _ _ Q m (ImgAt.below HATZ.out (Hid.out HBE)) (ImgAt.below HATM.out (Hid.out HBE))
            rw [HZS.out.1 hbn rfl] at hq3
            have HQ3 := Lib.hid hq3
            have y0 := (HM.out.below (Hid.out HBE)).c0; have y1 := (HM.out.below (Hid.out HBE)).c1; have y2 := (HM.out.below (Hid.out HBE)).c2; have y3 := (HM.out.below (Hid.out HBE)).c3; have y4 := (HM.out.below (Hid.out HBE)).c4
            have z0 := (HZ.out.below (Hid.out HBE)).c0; have z1 := (HZ.out.below (Hid.out HBE)).c1; have z2 := (HZ.out.below (Hid.out HBE)).c2; have z3 := (HZ.out.below (Hid.out HBE)).c3; have z4 := (HZ.out.below (Hid.out HBE)).c4
            clear hq3
            go_wp2_with fail
            refine HQ3.out.mono ?_
            rintro e WF ⟨rfl, hbF⟩
            have HBF := Lib.hid (bNext hbF (bNext (Hid.out HBE) HBW.out))
            clear hbF
            go_wp2_with fail
            go_ret
            exact ⟨rfl, HBF.out⟩
          · have hez' : (ez == 0) = false := by rw [beq_eq_false_iff_ne]; exact hez
            go_wp2_with fail
            go_ret
            exact ⟨rfl, bNext (Hid.out HBE) HBW.out⟩
      · have hey' : (ey == 0) = false := by rw [beq_eq_false_iff_ne]; exact hey
        by_cases hbn : bn = 0
        · obtain ⟨rfl, rfl⟩ := HZS.out.2 hbn
          subst hbn
          have hq3 := rsame_any WD _ _ _ _ _ _ _ _ Q Q (ImgAt.below HATZ.out (Hid.out HBD)) (ImgAt.below HATM.out (Hid.out HBD))
          rw [decide_eq_true rfl] at hq3
          have HQ3 := Lib.hid hq3
          have y0 := (HM.out.below (Hid.out HBD)).c0; have y1 := (HM.out.below (Hid.out HBD)).c1; have y2 := (HM.out.below (Hid.out HBD)).c2; have y3 := (HM.out.below (Hid.out HBD)).c3; have y4 := (HM.out.below (Hid.out HBD)).c4
          have z0 := (HZ.out.below (Hid.out HBD)).c0; have z1 := (HZ.out.below (Hid.out HBD)).c1; have z2 := (HZ.out.below (Hid.out HBD)).c2; have z3 := (HZ.out.below (Hid.out HBD)).c3; have z4 := (HZ.out.below (Hid.out HBD)).c4
          clear hq3
          go_wp2_with fail
          refine HQ3.out.mono ?_
          rintro e WF ⟨rfl, hbF⟩
          have HBF := Lib.hid (bNext hbF (bNext (Hid.out HBD) HBW.out))
          clear hbF
          go_wp2_with fail
          go_ret
          exact ⟨rfl, HBF.out⟩
        · have hbne : ((bn : Int) == 0) = false := by rw [beq_eq_false_iff_ne]; omega
          by_cases hez : ez = 0
          · subst hez
            have hq3 := rsame_any WD _ _ _ _ _ _ _ _ Q m (ImgAt.below HATZ.out (Hid.out HBD)) (ImgAt.below HATM.out (Hid.out HBD))
            rw [HZS.out.1 hbn rfl] at hq3
            have HQ3 := Lib.hid hq3
            have y0 := (HM.out.below (Hid.out HBD)).c0; have y1 := (HM.out.below (Hid.out HBD)).c1; have y2 := (HM.out.below (Hid.out HBD)).c2; have y3 := (HM.out.below (Hid.out HBD)).c3; have y4 := (HM.out.below (Hid.out HBD)).c4
            have z0 := (HZ.out.below (Hid.out HBD)).c0; have z1 := (HZ.out.below (Hid.out HBD)).c1; have z2 := (HZ.out.below (Hid.out HBD)).c2; have z3 := (HZ.out.below (Hid.out HBD)).c3; have z4 := (HZ.out.below (Hid.out HBD)).c4
            clear hq3
            go_wp2_with fail
            refine HQ3.out.mono ?_
            rintro e WF ⟨rfl, hbF⟩
            have HBF := Lib.hid (bNext hbF (bNext (Hid.out HBD) HBW.out))
            clear hbF
            go_wp2_with fail
            go_ret
            exact ⟨rfl, HBF.out⟩
          · have hez' : (ez == 0) = false := by rw [beq_eq_false_iff_ne]; exact hez
            go_wp2_with fail
            go_ret
            exact ⟨rfl, bNext (Hid.out HBD) HBW.out⟩
        done
    · have hex' : (ex == 0) = false := by rw [beq_eq_false_iff_ne]; exact hex
      by_cases hey : ey = 0
      · subst hey
        have hq2 := rsame_any WB _ _ _ _ _ _ _ _ Y m (ImgAt.below HATY.out (Hid.out HR0)) (ImgAt.below HATM.out (Hid.out HR0))
        rw [HNY.out rfl] at hq2
        have HQ2 := Lib.hid hq2
        have y0 := (HM.out.below (Hid.out HR0)).c0; have y1 := (HM.out.below (Hid.out HR0)).c1; have y2 := (HM.out.below (Hid.out HR0)).c2; have y3 := (HM.out.below (Hid.out HR0)).c3; have y4 := (HM.out.below (Hid.out HR0)).c4
        have z0 := (HY.out.below (Hid.out HR0)).c0; have z1 := (HY.out.below (Hid.out HR0)).c1; have z2 := (HY.out.below (Hid.out HR0)).c2; have z3 := (HY.out.below (Hid.out HR0)).c3; have z4 := (HY.out.below (Hid.out HR0)).c4
        clear hq2
        go_wp2_with fail
        refine HQ2.out.mono ?_
        rintro e WE ⟨rfl, hbE⟩
        have HBE := Lib.hid (Below.trans (Hid.out HR0) (hbE.mono (Below.size (Hid.out HR0))))
        clear hbE y0 y1 y2 y3 y4 z0 z1 z2 z3 z4
        by_cases hbn : bn = 0
        · obtain ⟨rfl, rfl⟩ := HZS.out.2 hbn
          subst hbn
          have hq3 := rsame_any WE _ _ _ _ _ _ _ _ Q Q (ImgAt.below HATZ.out (Hid.out HBE)) (ImgAt.below HATM.out (Hid.out HBE))
          rw [decide_eq_true rfl] at hq3
          have HQ3 := Lib.hid hq3
          have y0 := (HM.out.below (Hid.out HBE)).c0; have y1 := (HM.out.below (Hid.out HBE)).c1; have y2 := (HM.out.below (Hid.out HBE)).c2; have y3 := (HM.out.below (Hid.out HBE)).c3; have y4 := (HM.out.below (Hid.out HBE)).c4
          have z0 := (HZ.out.below (Hid.out HBE)).c0; have z1 := (HZ.out.below (Hid.out HBE)).c1; have z2 := (HZ.out.below (Hid.out HBE)).c2; have z3 := (HZ.out.below (Hid.out HBE)).c3; have z4 := (HZ.out.below (Hid.out HBE)).c4
          clear hq3
          go_wp2_with fail
          refine HQ3.out.mono ?_
          rintro e WF ⟨rfl, hbF⟩
          have HBF := Lib.hid (bNext hbF (bNext (Hid.out HBE) HBW.out))
          clear hbF
          go_wp2_with fail
          go_ret
          exact ⟨rfl, HBF.out⟩
        · have hbne : ((bn : Int) == 0) = false := by rw [beq_eq_false_iff_ne]; omega
          by_cases hez : ez = 0
          · subst hez
            have hq3 := rsame_any WE _ _ _ _ _ _ _ _ Q m (ImgAt.below HATZ.out (Hid.out HBE)) (ImgAt.below HATM.out (Hid.out HBE))
            rw [HZS.out.1 hbn rfl] at hq3
            have HQ3 := Lib.hid hq3
            have y0 := (HM.out.below (Hid.out HBE)).c0; have y1 := (HM.out.below (Hid.out HBE)).c1; have y2 := (HM.out.below (Hid.out HBE)).c2; have y3 := (HM.out.below (Hid.out HBE)).c3; have y4 := (HM.out.below (Hid.out HBE)).c4
            have z0 := (HZ.out.below (Hid.out HBE)).c0; have z1 := (HZ.out.below (Hid.out HBE)).c1; have z2 := (HZ.out.below (Hid.out HBE)).c2; have z3 := (HZ.out.below (Hid.out HBE)).c3; have z4 := (HZ.out.below (Hid.out HBE)).c4
            clear hq3
            go_wp2_with fail
            refine HQ3.out.mono ?_
            rintro e WF ⟨rfl, hbF⟩
            have HBF := Lib.hid (bNext hbF (bNext (Hid.out HBE) HBW.out))
            clear hbF
            go_wp2_with fail
            go_ret
            exact ⟨rfl, HBF.out⟩
          · have hez' : (ez == 0) = false := by rw [beq_eq_false_iff_ne]; exact hez
            go_wp2_with fail
            go_ret
            exact ⟨rfl, bNext (Hid.out HBE) HBW.out⟩
      · have hey' : (ey == 0) = false := by rw [beq_eq_false_iff_ne]; exact hey
        by_cases hbn : bn = 0
        · obtain ⟨rfl, rfl⟩ := HZS.out.2 hbn
          subst hbn
          have hq3 := rsame_any WB _ _ _ _ _ _ _ _ Q Q (ImgAt.below HATZ.out (Hid.out HR0)) (ImgAt.below HATM.out (Hid.out HR0))
          rw [decide_eq_true rfl] at hq3
          have HQ3 := Lib.hid hq3
          have y0 := (HM.out.below (Hid.out HR0)).c0; have y1 := (HM.out.below (Hid.out HR0)).c1; have y2 := (HM.out.below (Hid.out HR0)).c2; have y3 := (HM.out.below (Hid.out HR0)).c3; have y4 := (HM.out.below (Hid.out HR0)).c4
          have z0 := (HZ.out.below (Hid.out HR0)).c0; have z1 := (HZ.out.below (Hid.out HR0)).c1; have z2 := (HZ.out.below (Hid.out HR0)).c2; have z3 := (HZ.out.below (Hid.out HR0)).c3; have z4 := (HZ.out.below (Hid.out HR0)).c4
          clear hq3
          go_wp2_with fail
          refine HQ3.out.mono ?_
          rintro e WF ⟨rfl, hbF⟩
          have HBF := Lib.hid (bNext hbF (bNext (Hid.out HR0) HBW.out))
          clear hbF
          go_wp2_with fail
          go_ret
          exact ⟨rfl, HBF.out⟩
        · have hbne : ((bn : Int) == 0) = false := by rw [beq_eq_false_iff_ne]; omega
          by_cases hez : ez = 0
          · subst hez
            have hq3 := rsame_any WB _ _ _ _ _ _ _ _ Q m (ImgAt.below HATZ.out (Hid.out HR0)) (ImgAt.below HATM.out (Hid.out HR0))
            rw [HZS.out.1 hbn rfl] at hq3
            have HQ3 := Lib.hid hq3
            have y0 := (HM.out.below (Hid.out HR0)).c0; have y1 := (HM.out.below (Hid.out HR0)).c1; have y2 := (HM.out.below (Hid.out HR0)).c2; have y3 := (HM.out.below (Hid.out HR0)).c3; have y4 := (HM.out.below (Hid.out HR0)).c4
            have z0 := (HZ.out.below (Hid.out HR0)).c0; have z1 := (HZ.out.below (Hid.out HR0)).c1; have z2 := (HZ.out.below (Hid.out HR0)).c2; have z3 := (HZ.out.below (Hid.out HR0)).c3; have z4 := (HZ.out.below (Hid.out HR0)).c4
            clear hq3
            go_wp2_with fail
            refine HQ3.out.mono ?_
            rintro e WF ⟨rfl, hbF⟩
            have HBF := Lib.hid (bNext hbF (bNext (Hid.out HR0) HBW.out))
            clear hbF
            go_wp2_with fail
            go_ret
            exact ⟨rfl, HBF.out⟩
          · have hez' : (ez == 0) = false := by rw [beq_eq_false_iff_ne]; exact hez
            go_wp2_with fail
            go_ret
            exact ⟨rfl, bNext (Hid.out HR0) HBW.out⟩
        done

set_option maxRecDepth 100000 in
theorem ImageCuts_lifted (os : Os) (started : os.Started) (H : Type) (enc : TypeId × Value → H) :
    ReturnsInHanded {} Try.checked os 6 .any (Rows.imageCutsSpec.pre6 enc Try.prog Try.f6 Rows.imageCutsRow.domain false) (Rows.imageCutsSpec.post enc Try.prog Try.f6 false true false false) := by
  refine returnsInHanded_of_change (C := Try.checked) own started (by kernel_rfl) Try.func6
    (ChangeSpec.witness6 (enc := enc) (C := Try.checked) false ⟨#[], #[.agg #[.slice none 0 0, .int .i64 0, .slice none 0 0, .slice none 0 0, .slice none 0 0], .int .u16 0, .int .u8 0], []⟩ 8 (by kernel_rfl) (by kernel_rfl) (by kernel_rfl) (by kernel_rfl)) ?_
  intro W base args ds gs before hval0 hW hcnd _
  have hval : ∀ (j : Nat) t v, Try.f6.params[j]? = some t → args[j]? = some v → Value.okWide Try.prog W .any base t v := hval0
  have hW' := hW
  obtain ⟨p, q, hA0, hV, rfl, hfz, hnd⟩ := hW
  have hA : DataW.TrodAll enc Try.prog W 0 (fun _ => true) true Try.f6.params.toList args.toList ds p := hA0
  rw [Try.params6] at hA hval
  obtain ⟨v0, vs0, d0, ds0, p0, q0, hargs, rfl, rfl, h0, r0⟩ := trodAll_cons hA
  obtain ⟨v1, vs1, d1, ds1, p1, q1, rfl, rfl, rfl, h1, r1⟩ := trodAll_cons r0
  obtain ⟨v2, vs2, d2, ds2, p2, q2, rfl, rfl, rfl, h2, r2⟩ := trodAll_cons r1
  obtain ⟨rfl, rfl, rfl⟩ := trodAll_nil r2
  obtain rfl : args = #[v0, v1, v2] := by cases args; simp_all
  obtain ⟨rfl, rfl⟩ := trodVars_none hV
  have k0 := h0
  have lt0 : ∀ x ∈ p0, x.block < W.heap.size := by obtain ⟨m, hm⟩ := k0; exact DataW.trod_lt m _ _ _ hm
  obtain ⟨m0, vd0, vi0, vo0, vc0, rfl, s0⟩ := open_image (hval 0 26 v0 rfl rfl) h0
  obtain ⟨a1, rfl, rfl, rfl, w1⟩ := open_int Try.underlying38 (hval 1 38 v1 rfl rfl) h1
  obtain ⟨a2, rfl, rfl, rfl, w2⟩ := open_int Try.underlying5 (hval 2 5 v2 rfl rfl) h2
  clear hA0 hval0
  refine (ImageCuts_walk W m0 vd0 vi0 vo0 vc0 a1 a2 s0 w1 w2).mono fun e W' ⟨he, bel⟩ => ?_
  subst he
  exact ⟨_, rfl, _, _, _, [], _, [], hW', trodAll_mk1 (shut_bool Try.underlying4 _), (trodAll_cons_mk (Below.trod laidOut (by kernel_rfl) (of_decide_eq_true (by kernel_rfl)) k0 bel lt0) (trodAll_cons_mk (shut_int Try.underlying38 w1) (trodAll_cons_mk (shut_int Try.underlying5 w2) trodAll_mk0))), rfl, bel.frame _, fun h => by cases h⟩

/-- The given statement. -/
theorem ImageCuts_holds : Rows.ImageCutsSaid :=
  OpenClaim.holds_of_wide 6 Try.f6 rfl rfl rfl rfl rfl rfl rfl ⟨rfl, rfl, rfl, rfl, rfl⟩ rfl rfl rfl rfl rfl (by kernel_rfl) Try.func6 (by kernel_rfl)
    (of_decide_eq_true (by kernel_rfl)) (by unfold Func.isWrapper; rw [if_neg (by decide +kernel)]; exact ⟨rfl, rfl⟩)
    (fun os started H enc _ => ImageCuts_lifted os started H enc)
#print axioms ImageCuts_holds
end Go.Proofs.Ytiogopichcnihaa
