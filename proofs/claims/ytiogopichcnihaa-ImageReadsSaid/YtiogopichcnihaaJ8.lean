import Derived.Test.YtiogopichcnihaaJ7
import Derived.Lib.SlBytesConst
namespace Go.Proofs.Ytiogopichcnihaa
set_option maxRecDepth 100000
open Go.RowKit
set_option linter.unusedVariables false
set_option linter.unusedSimpArgs false

/-! windrowref20.Write, image.Write. -/
/-- what right images' parts are -/
theorem right_parts {m : Img} (h : imgRight m = true) : (m.dims.length ≤ 6 ∧ 0 ≤ m.mem ∧ m.mem ≤ 2097152 ∧ m.ins.length ≤ 64 ∧ m.outs.length ≤ 64 ∧ m.code.length ≤ 32768) ∧ (∀ x ∈ m.dims, Pos x) ∧ (∀ s ∈ m.ins, SloPos s) ∧ (∀ s ∈ m.outs, SloPos s) ∧ (∀ i ∈ m.code, i.right = true) := by
  unfold imgRight imgSizes at h
  simp only [Bool.and_eq_true, decide_eq_true_eq, Bool.not_eq_true'] at h
  obtain ⟨⟨⟨⟨⟨⟨⟨⟨⟨h1, h2⟩, h3⟩, h4⟩, h5⟩, h6⟩, h7⟩, h8⟩, h9⟩, h10⟩ := h
  have hs : ∀ l : List Slo, l.any (offB m.mem) = false → ∀ s ∈ l, SloPos s := by
    intro l hl s hs
    rw [List.any_eq_false] at hl
    have h := hl s hs
    unfold offB at h
    simp only [Bool.or_eq_true, bne_iff_ne, decide_eq_true_eq, not_or] at h
    obtain ⟨⟨⟨a1, a2⟩, a3⟩, a4⟩ := h
    obtain ⟨b1, b2⟩ := size_sides (Classical.not_not.1 a1)
    refine ⟨by unfold Pos; omega, b1, fun x hx => ?_⟩
    have := b2 x hx
    unfold Pos
    omega
  refine ⟨⟨h1, h2, h3, h4, h5, h6⟩, fun x hx => ?_, hs _ h8, hs _ h9, fun i hi => ?_⟩
  · rw [List.any_eq_false] at h7
    have hb : badSide x = false := by
      cases hb : badSide x with
      | false => rfl
      | true => exact absurd hb (h7 x hx)
    have := badSide_false hb
    unfold Pos
    omega
  · rw [List.any_eq_false] at h10
    have := h10 i hi
    simpa using this
theorem insB_len (i : Ins) : (insB i).length = 8 := highB_len _ 8
theorem flat8 (l : List Ins) : (l.flatMap insB).length = 8 * l.length := by
  induction l with
  | nil => rfl
  | cons x l ih => rw [List.flatMap_cons, List.length_append, ih, insB_len, List.length_cons]; omega
theorem slotsB_len {l : List Slo} (hl : l.length ≤ 64) (h : ∀ s ∈ l, SloPos s) : (slotsB l).length ≤ 3500 := by
  have h1 := numI_len (x := (l.length : Int)) (by unfold Pos; omega)
  have h2 := flat_len (e := slotB) (n := 54) (l := l) (fun x hx => slotB_len (h x hx))
  have : 54 * l.length ≤ 54 * 64 := Nat.mul_le_mul_left _ hl
  unfold slotsB
  rw [List.length_append]
  omega
theorem numB_byts : ∀ (n : Nat), Byts (numB n) := by
  intro n
  induction n using Nat.strongRecOn with
  | ind n ih =>
    rw [numB]
    split
    · intro x hx
      rcases List.mem_cons.1 hx with rfl | hx
      · unfold Byt; omega
      · exact ih (n / 128) (by omega) x hx
    · intro x hx
      rw [List.mem_singleton.1 hx]
      unfold Byt; omega
theorem flat_byts {α : Type} {e : α → List Int} {l : List α} (h : ∀ x, Byts (e x)) : Byts (l.flatMap e) := by
  intro x hx
  obtain ⟨y, _, hy⟩ := List.mem_flatMap.1 hx
  exact h y x hy
theorem Byts.app {a b : List Int} (ha : Byts a) (hb : Byts b) : Byts (a ++ b) := fun x hx => (List.mem_append.1 hx).elim (ha x) (hb x)
theorem slotsB_byts (l : List Slo) : Byts (slotsB l) := (numB_byts _).app (flat_byts fun s => ((numB_byts _).app (numB_byts _)).app (flat_byts fun x => numB_byts _))
theorem headB_byts (m : Img) : Byts (headB m) := by
  have h0 : Byts [87, 82, 1] := by
    intro x hx
    simp at hx
    rcases hx with rfl | rfl | rfl <;> (unfold Byt; omega)
  exact (((((((h0.app (numB_byts _)).app (flat_byts fun x => numB_byts _)).app (numB_byts _)).app (slotsB_byts _)).app (slotsB_byts _)).app (numB_byts _)).app (flat_byts fun i => highB_byts _ _))
theorem writeB_byts (m : Img) : Byts (writeB m) := (headB_byts m).app (highB_byts _ _)
/-- what Write tells -/
def WriteE (w : World) (m : Img) (e : Ending) (w' : World) : Prop := ∃ v, e = .returned (.tuple #[v, .int .i64 (if imgRight m then 0 else 190)]) ∧ RowU w.heap.size w' v (if imgRight m then writeB m else []) ∧ Below w.heap.size w w'
theorem ins_wf {w : World} {a : Option Addr} {l : List Ins} (h : insRep.Els w a l) : ∀ i ∈ l, i.wf := by
  intro i hi
  obtain ⟨k, hk, rfl⟩ := List.getElem_of_mem hi
  exact (els_ins h hk).choose_spec.choose_spec.2.1
theorem row_lit3 (W : World) (x y z : Int) : RowU W.heap.size (W.alloc (.cells #[.int .u8 x, .int .u8 y, .int .u8 z] 5)) (.slice (some ⟨W.heap.size, 0, none⟩) 3 3) [x, y, z] :=
  World.ownsRow_lit W #[.int .u8 x, .int .u8 y, .int .u8 z] 3 (Nat.le_refl _) (by unfold maxLen; omega) rfl

set_option maxHeartbeats 8000000 in
theorem rwrite_any (w : World) (vd vi vo vc : Value) (m : Img) (h : ImgAt w vd vi vo vc m) :
    Calls Try.prog 11 #[.agg #[vd, .int .i64 m.mem, vi, vo, vc]] w (WriteE w m) := by
  have hri := fun o => rright20_any (w.alloc o) vd vi vo vc m (h.below ((Below.refl _ _).alloc (Nat.le_refl _) o))
  obtain ⟨⟨da, dc, rfl, d1, d2, d3⟩, ⟨ia, ic, rfl, i1, i2, i3, i4⟩, ⟨oa, oc, rfl, o1, o2, o3, o4⟩, ⟨ca, cc, rfl, c1, c2, c3, c4⟩, hm⟩ := h
  have HD := Lib.hid d3; have HI := Lib.hid i4; have HO := Lib.hid o4; have HC := Lib.hid c4
  unfold WriteE
  clear d1 d2 d3 i1 i2 i3 i4 o1 o2 o3 o4 c1 c2 c3 c4 hm
  cases hr : imgRight m with
  | false =>
    rw [hr] at hri
    have HRI := Lib.hid hri
    clear hri hr
    go_enter Try.func11, Try.ntmps11
    go_wp2_with fail
    refine (HRI.out _).mono ?_
    rintro e w1 ⟨rfl, hb1⟩
    have HB1 := Lib.hid (bNext hb1 ((Below.refl _ _).alloc (Nat.le_refl _) _))
    clear hb1
    go_wp2_with fail
    go_ret2
    exact ⟨_, rfl, RowU.nil _ _, HB1.out⟩
  | true =>
    rw [hr] at hri
    obtain ⟨⟨z1, z2, z3, z4, z5, z6⟩, pd, pi, po, pr⟩ := right_parts hr
    have HRI := Lib.hid hri; have PD := Lib.hid pd; have PI := Lib.hid pi; have PO := Lib.hid po; have PR := Lib.hid pr
    have hws : writeB m = headB m ++ highB (checkB (headB m)) 4 := rfl
    have HWS := Lib.hid hws
    have hhd : headB m = [87, 82, 1] ++ numI m.dims.length ++ m.dims.flatMap numI ++ numI m.mem ++ slotsB m.ins ++ slotsB m.outs ++ numI m.code.length ++ m.code.flatMap insB := rfl
    have HHD := Lib.hid hhd; have HBY := Lib.hid (headB_byts m)
    clear hri hr pd pi po pr hws hhd
    go_enter Try.func11, Try.ntmps11
    go_wp2_with fail
    refine (HRI.out _).mono ?_
    rintro e W ⟨rfl, hb1⟩
    have hM := new1 hb1
    have x0 := cell_of_row W w.heap.size 0 _ _ _ hM; have x1 := cell_of_row W w.heap.size 1 _ _ _ hM; have x2 := cell_of_row W w.heap.size 2 _ _ _ hM; have x3 := cell_of_row W w.heap.size 3 _ _ _ hM; have x4 := cell_of_row W w.heap.size 4 _ _ _ hM
    have hb := bNext hb1 ((Below.refl _ _).alloc (Nat.le_refl _) _)
    have HB := Lib.hid hb
    have HD2 := Lib.hid (HD.out.below hb (Nat.le_refl _)); have HI2 := Lib.hid (HI.out.below slotRep hb (Nat.le_refl _)); have HO2 := Lib.hid (HO.out.below slotRep hb (Nat.le_refl _)); have HC2 := Lib.hid (HC.out.below insRep hb (Nat.le_refl _))
    have hMl : w.heap.size < W.heap.size := World.block_lt_of_cell? W _ x0
    obtain ⟨M, hM⟩ : ∃ M, w.heap.size = M := ⟨_, rfl⟩
    rw [hM] at hMl x0 x1 x2 x3 x4 ⊢
    have HX0 := Lib.hid x0; have HX1 := Lib.hid x1; have HX2 := Lib.hid x2; have HX3 := Lib.hid x3; have HX4 := Lib.hid x4
    clear hb1 hb HRI HD HI HO HC hM
    have l1 := numI_len (x := (m.dims.length : Int)) (by unfold Pos; omega)
    have h1 := rnumberI (W.alloc (.cells #[.int .u8 87, .int .u8 82, .int .u8 1] 5)) W.heap.size _ _ (m.dims.length : Int) (by unfold Pos; omega) (row_lit3 W 87 82 1) (by simp) (by simp)
    have H1 := Lib.hid h1
    clear h1
    go_wp2_with fail
    refine H1.out.mono ?_
    rintro e w1 ⟨v1, rfl, hr1, hg1⟩
    have hb1 : Below W.heap.size W w1 := ((Below.refl _ _).alloc (Nat.le_refl _) _).trans (hg1.toBelow (by simp) (row_lit3 W 87 82 1).ge)
    have HR1 := Lib.hid hr1; have HB1 := Lib.hid hb1
    clear hr1 hg1 hb1 H1 x0 x1 x2 x3 x4
    go_wp2_with fail
    go_loopw [4, 5] (fun b i wr => ∃ k : Nat, k ≤ m.dims.length ∧ i = .int .i64 k ∧ RowU W.heap.size wr b ([87, 82, 1] ++ numI m.dims.length ++ (m.dims.take k).flatMap numI) ∧ Below W.heap.size W wr) (fun _ i _ => m.dims.length - (intOf i).toNat)
    case atStart => exact ⟨0, Nat.zero_le _, rfl, by simpa using HR1.out, HB1.out⟩
    case round =>
      obtain ⟨k, hk, rfl, hrow, hbw⟩ := hrel
      have y0 := keepCellB hbw (Nat.le_refl _) HX0.out; have y1 := keepCellB hbw (Nat.le_refl _) HX1.out
      have hfl := flat_len (e := numI) (n := 9) (l := m.dims.take k) (fun x hx => numI_len (PD.out x (List.mem_of_mem_take hx)))
      have hlen : ([87, 82, 1] ++ numI m.dims.length ++ (m.dims.take k).flatMap numI).length ≤ 66 := by
        simp only [List.length_append]
        rw [List.length_take] at hfl
        have : ([87, 82, 1] : List Int).length = 3 := rfl
        omega
      have hsz := hbw.size
      by_cases hlt : k < m.dims.length
      · have hst := flat_take (e := numI) hlt
        obtain ⟨b, off, rfl, z0⟩ := (HD2.out.below hbw (Nat.le_refl _)) k hlt
        have hpx := PD.out m.dims[k] (List.getElem_mem hlt)
        obtain ⟨x, hx⟩ : ∃ x, m.dims[k] = x := ⟨_, rfl⟩
        rw [hx] at z0 hpx hst
        have hqq := rnumberI wr W.heap.size u4 _ x hpx hrow hsz (by omega)
        rw [List.append_assoc _ _ (numI x), ← hst] at hqq
        have HQQ := Lib.hid hqq; have HROW := Lib.hid hrow; have HBW := Lib.hid hbw
        have hk0 : (0 : Int) ≤ (k : Int) := by omega
        have hk1 : (k : Int) < (m.dims.length : Int) := by omega
        clear hqq hrow hbw hst hfl hlen hpx hx
        go_wp2_with fail
        refine HQQ.out.mono ?_
        rintro e w5 ⟨v5, rfl, hr5, hg5⟩
        have HR5 := Lib.hid hr5; have HB5 := Lib.hid (HBW.out.trans (hg5.toBelow hsz HROW.out.ge))
        clear hr5 hg5
        go_wp2_with fail
        go_roundw
        case rel => exact ⟨k + 1, by omega, by go_num, HR5.out, HB5.out⟩
        case measure => simp [intOf] <;> omega
      · obtain rfl : k = m.dims.length := by omega
        rw [List.take_length] at hrow hlen
        have h2 := rnumberI wr W.heap.size u4 _ m.mem (by unfold Pos; omega) hrow hsz (by omega)
        have l2 := numI_len (x := m.mem) (by unfold Pos; omega)
        have H2 := Lib.hid h2; have HROW := Lib.hid hrow; have HBW := Lib.hid hbw
        clear h2 hrow hbw hfl
        go_wp2_with fail
        refine H2.out.mono ?_
        rintro e w2 ⟨v2, rfl, hr2, hg2⟩
        have hb2 := HBW.out.trans (hg2.toBelow hsz HROW.out.ge)
        have HR2 := Lib.hid hr2; have HB2 := Lib.hid hb2
        have hl2 : ([87, 82, 1] ++ numI m.dims.length ++ m.dims.flatMap numI ++ numI m.mem).length ≤ 75 := by rw [List.length_append]; omega
        have q2 := keepCellB hb2 (Nat.le_refl _) HX2.out
        clear hr2 hg2 hb2 H2 HROW HBW y0 y1 l2 hlen
        have h3 := rslotB_any w2 W.heap.size v2 _ W ia ic m.ins HI2.out HB2.out (Nat.le_refl _) z4 PI.out HR2.out HB2.out.size (by omega)
        have H3 := Lib.hid h3
        clear h3
        go_wp2_with fail
        refine H3.out.mono ?_
        rintro e w3 ⟨v3, rfl, hr3, hg3⟩
        have hb3 := HB2.out.trans (hg3.toBelow HB2.out.size HR2.out.ge)
        have HR3 := Lib.hid hr3; have HB3 := Lib.hid hb3
        have sl3 := slotsB_len z4 PI.out
        have hl3 : ([87, 82, 1] ++ numI m.dims.length ++ m.dims.flatMap numI ++ numI m.mem ++ slotsB m.ins).length ≤ 3575 := by rw [List.length_append]; omega
        have q3 := keepCellB hb3 (Nat.le_refl _) HX3.out
        clear hr3 hg3 hb3 H3 q2 hl2 sl3 HR2 HB2
        have h4 := rslotB_any w3 W.heap.size v3 _ W oa oc m.outs HO2.out HB3.out (Nat.le_refl _) z5 PO.out HR3.out HB3.out.size (by omega)
        have H4 := Lib.hid h4
        clear h4
        go_wp2_with fail
        refine H4.out.mono ?_
        rintro e w4 ⟨v4, rfl, hr4, hg4⟩
        have hb4 := HB3.out.trans (hg4.toBelow HB3.out.size HR3.out.ge)
        have HR4 := Lib.hid hr4; have HB4 := Lib.hid hb4
        have sl4 := slotsB_len z5 PO.out
        have hl4 : ([87, 82, 1] ++ numI m.dims.length ++ m.dims.flatMap numI ++ numI m.mem ++ slotsB m.ins ++ slotsB m.outs).length ≤ 7075 := by rw [List.length_append]; omega
        have q4 := keepCellB hb4 (Nat.le_refl _) HX4.out
        clear hr4 hg4 hb4 H4 q3 hl3 sl4 HR3 HB3
        have h5 := rnumberI w4 W.heap.size v4 _ (m.code.length : Int) (by unfold Pos; omega) HR4.out HB4.out.size (by omega)
        have H5 := Lib.hid h5
        clear h5
        go_wp2_with fail
        refine H5.out.mono ?_
        rintro e w5 ⟨v5, rfl, hr5, hg5⟩
        have hb5 := HB4.out.trans (hg5.toBelow HB4.out.size HR4.out.ge)
        have HB5 := Lib.hid hb5
        have l5 := numI_len (x := (m.code.length : Int)) (by unfold Pos; omega)
        have hl5 : ([87, 82, 1] ++ numI m.dims.length ++ m.dims.flatMap numI ++ numI m.mem ++ slotsB m.ins ++ slotsB m.outs ++ numI m.code.length).length ≤ 7084 := by rw [List.length_append]; omega
        have hhd := HHD.out
        obtain ⟨ys, hys⟩ : ∃ ys, [87, 82, 1] ++ numI m.dims.length ++ m.dims.flatMap numI ++ numI m.mem ++ slotsB m.ins ++ slotsB m.outs ++ numI m.code.length = ys := ⟨_, rfl⟩
        rw [hys] at hhd hl5 hr5
        have HR5 := Lib.hid hr5; have HHD2 := Lib.hid hhd
        clear hr5 hg5 hb5 H5 q4 hl4 l5 HR4 HB4 HHD hys hhd
        go_wp2_with fail
        go_loopw [4, 6] (fun b i wx => ∃ j : Nat, j ≤ m.code.length ∧ i = .int .i64 j ∧ RowU W.heap.size wx b (ys ++ (m.code.take j).flatMap insB) ∧ Below W.heap.size W wx) (fun _ i _ => m.code.length - (intOf i).toNat)
        case atStart => exact ⟨0, Nat.zero_le _, rfl, by simpa using HR5.out, HB5.out⟩
        case round =>
          obtain ⟨j, hj, rfl, hrow, hbw⟩ := hrel
          have y4 := keepCellB hbw (Nat.le_refl _) HX4.out
          have hfl := flat8 (m.code.take j)
          have hlen : (ys ++ (m.code.take j).flatMap insB).length ≤ 300000 := by
            rw [List.length_append, hfl, List.length_take]
            omega
          have hsz := hbw.size
          by_cases hjl : j < m.code.length
          · have hst := flat_take (e := insB) hjl
            obtain ⟨b, off, rfl, hwf, e0, e1, e2, e3, e4⟩ := els_ins (HC2.out.below insRep hbw (Nat.le_refl _)) hjl
            have hpr := PR.out m.code[j] (List.getElem_mem hjl)
            generalize m.code[j] = i at hst hwf e0 e1 e2 e3 e4 hpr
            have he := renc_any wr i hwf hpr
            have hel := encN_lt hwf
            have HE := Lib.hid he; have HST := Lib.hid hst; have HROW := Lib.hid hrow; have HBW := Lib.hid hbw
            have hj0 : (0 : Int) ≤ (j : Int) := by omega
            have hj1 : (j : Int) < (m.code.length : Int) := by omega
            clear he hst hrow hbw hwf hpr hfl
            go_wp2_with fail
            refine HE.out.mono ?_
            rintro e w6 ⟨rfl, hb6⟩
            have hrow6 := HROW.out.below hb6
            have hbw6 := HBW.out.trans (hb6.mono hsz)
            have h7 := rhigh_any w6 W.heap.size u4 _ (encN i) 8 (by omega) (by omega) hrow6 hbw6.size (by omega)
            have H7 := Lib.hid h7; have HR6 := Lib.hid hrow6; have HB6 := Lib.hid hbw6
            clear h7 hrow6 hbw6 hb6 HE HROW HBW
            go_wp2_with fail
            refine H7.out.mono ?_
            rintro e w7 ⟨v7, rfl, hr7, hg7⟩
            have HR7 := Lib.hid hr7; have HB7 := Lib.hid (HB6.out.trans (hg7.toBelow HB6.out.size HR6.out.ge))
            clear hr7 hg7 H7
            go_wp2_with fail
            go_roundw
            case rel => exact ⟨j + 1, by omega, by go_num, by rw [HST.out, ← List.append_assoc]; exact HR7.out, HB7.out⟩
            case measure => simp [intOf] <;> omega
          · obtain rfl : j = m.code.length := by omega
            rw [List.take_length] at hrow hlen
            rw [← HHD2.out] at hrow hlen
            have hbyt := HBY.out
            have hcl := checkB_lt (headB m)
            generalize headB m = hd at hrow hlen hbyt hcl HWS
            obtain ⟨ra, rc, rfl, _, _, hri⟩ := hrow.slice
            have hch := rcheck_any wr ra rc hd hri hbyt (by omega)
            have h8 := rhigh_any wr W.heap.size (.slice ra hd.length rc) hd (checkB hd) 4 (by omega) (by omega) hrow hsz (by omega)
            generalize checkB hd = ck at hch h8 hcl HWS
            have HCH := Lib.hid hch; have H8 := Lib.hid h8; have HROW := Lib.hid hrow; have HBW := Lib.hid hbw
            clear hch h8 hrow hbw hbyt hri hfl
            go_wp2_with fail
            refine HCH.out.mono ?_
            rintro e w8 ⟨rfl, rfl⟩
            go_wp2_with fail
            refine H8.out.mono ?_
            rintro e w9 ⟨v9, rfl, hr9, hg9⟩
            have HR9 := Lib.hid hr9; have HB9 := Lib.hid (HBW.out.trans (hg9.toBelow hsz HROW.out.ge))
            clear hr9 hg9
            go_wp2_with fail
            go_ret2
            exact ⟨_, rfl, by show RowU w.heap.size w9 v9 (writeB m); rw [HWS.out]; exact HR9.out.mono (by have := HB.out.size; omega), bNext HB9.out HB.out⟩
/-! image.number behind a literal of bytes of a text: the row is full, whatever is appended lies anew. -/
section
variable {P : Program}
theorem wpList_append_full {w : World} {ops : Array Oper} {rest : List Oper} {o : Oper} {a : Act} {Q : Exit → Act → World → Prop} (hgd : o.guard = none) (s x : Operand) (t : TypeId)
    (ho : o.op = .call { callee := .builtin .append, args := #[s, x], argTypes := #[t, t] })
    (e : TypeId) (i : TypeInfo) (z : Value) (size bytes : Nat) (ht : P.underlying t = some (.slice e)) (hi : P.info? e = some i) (hz : i.zero = some z)
    (hsize : i.size = size) (hby : i.bytes = bytes) (hzs : z.cells.size = size) (hsz : 0 < size)
    (b : Addr) (n : Nat) (xs : List Value) (hs : a.eval s = .slice (some b) n n) (hlo : xs.length = n * size) (holds : ∀ j v, xs[j]? = some v → w.cell? (b.add j) = some v)
    (ad : Addr) (m c : Nat) (news : List Value) (hx : a.eval x = .slice (some ad) m c) (hl : news.length = m * size) (hnews : ∀ j u, news[j]? = some u → w.cell? (ad.add j) = some u)
    (hm : 0 < m) (h63 : n + m ≤ maxLen) (hbytes : (n + m) * bytes ≤ 140737488355328)
    (h : ∀ v' w', w'.ownsRow w.heap.size e size v' (n + m) (xs ++ news) → w.grownBy w' none → wpList P ops Q rest (a.put o.dst v') w') : wpList P ops Q (o :: rest) a w := by
  refine wpList_plain hgd fun _ hK => ?_
  subst hsize
  subst hby
  have hsmall : n + m ≤ 9223372036854775807 := by simp only [maxLen] at h63; omega
  have hr := run_append_grow (P := P) w t o.type e i z ht hi hz b n n xs hlo holds ad m c news hl hnews (by omega) (by omega) (growslice_fits (by omega) hbytes)
  have hlen : (xs ++ news).length = (n + m) * i.size := by rw [List.length_append, hlo, hl, Nat.add_mul]
  have hge := grownCap_ge w (n + m) n e
  have hcm : grownCap w (n + m) n e ≤ maxLen := grownCap_le_maxLen w (n + m) n e h63
  unfold Oper.wp execOp
  simp only [ho, resolve, invoke, builtin, Sem.run_bind, Sem.run_pure, Result.andThen_ok, List.map_toArray, List.map_cons, List.map_nil, hs, hx, hr]
  refine hK _ _ (h _ _ ⟨hlen, .inr ⟨w.heap.size, _, _, rfl, Nat.le_refl _, heap_alloc_new w.drew _, hge, hcm, ?_, ?_⟩⟩ ⟨rfl, rfl, rfl, by simp, fun k hk _ => Below.heap_alloc w.drew _ k hk⟩)
  · simp only [Array.size_append, List.size_toArray, size_zeroCells, hzs, hlo, hl, ← Nat.add_mul]
    congr 1
    omega
  · simp only [Array.toList_append, List.append_assoc]
    rw [← List.append_assoc, ← hlen]
    exact List.take_left
end
set_option maxHeartbeats 4000000 in
theorem number_full (w : World) (a : Addr) (xs : List Int) (n : Nat) (hn : n ≤ 127) (h : ∀ j v, (xs.map (Value.int .u8))[j]? = some v → w.cell? (a.add j) = some v) (hl : xs.length ≤ 1000) :
    Calls Try.prog 17 #[.slice (some a) xs.length xs.length, .int .i64 n] w fun e w' => ∃ v', e = .returned v' ∧ RowU w.heap.size w' v' (xs ++ numI n) ∧ Below w.heap.size w w' := by
  have HR := Lib.hid h
  obtain ⟨i0, hi, hz0, hz1, hz2⟩ := info_parts Try.infoU8
  have Hi := Lib.hid hi; have Hz0 := Lib.hid hz0; have Hz1 := Lib.hid hz1; have Hz2 := Lib.hid hz2; clear hi hz0 hz1 hz2 h
  have hnb : numI n = [(n : Int)] := by unfold numI; rw [Int.toNat_natCast, numB, if_neg (by omega)]
  have HNB := Lib.hid hnb
  clear hnb
  have hmI : (n : Int) ≤ 127 := by omega
  go_enter Try.func17, Try.ntmps17
  go_wp2_with fail
  go_loopw [0, 1] (fun b q wr => b = .slice (some a) xs.length xs.length ∧ q = .int .i64 n ∧ wr = w) (fun _ q _ => (intOf q).toNat)
  case atStart => exact ⟨rfl, rfl, rfl⟩
  case round =>
    obtain ⟨rfl, rfl, rfl⟩ := hrel
    go_wp2_with (at_builtin; (refine wpList_append_full rfl _ _ 28 rfl 5 i0 _ 1 1 Try.underlying28 Hi.out Hz0.out Hz1.out Hz2.out rfl (by decide) a xs.length (xs.map (Value.int .u8)) rfl (by simp) (fun j v hv => keepCell ((Below.refl _ _).alloc (Nat.le_refl _) _) (HR.out j v hv)) ⟨_, 0, none⟩ 1 1 [.int .u8 (n : Int)] rfl rfl ?hs (by decide) (by unfold maxLen; omega) (by omega) ?_))
    case hs =>
      intro j u hu
      have hj : j = 0 := by
        rcases j with _ | j
        · rfl
        · simp at hu
      subst hj
      rw [show (Addr.mk wr.heap.size 0 none).add 0 = ⟨wr.heap.size, 0, none⟩ from rfl, cell_of_row _ _ 0 _ _ _ (World.alloc_heap_new wr _)]
      simpa using hu
    intro v' w' hown hgr
    have hrow' := RowU.app hown
    have hb : Below wr.heap.size wr w' := ((Below.refl _ _).alloc (Nat.le_refl _) _).grown hgr (by simp) (fun k hk => by cases hk)
    have HROW' := Lib.hid hrow'; have HB := Lib.hid hb
    clear hown hgr hrow' hb
    go_wp2_with fail
    go_ret
    exact ⟨_, rfl, by rw [HNB.out]; exact HROW'.out.mono (by simp), HB.out⟩
set_option maxHeartbeats 8000000 in
theorem write_any (w : World) (vd vi vo vc : Value) (m : Img) (h : ImgAt w vd vi vo vc m) :
    Calls Try.prog 10 #[.agg #[vd, .int .i64 m.mem, vi, vo, vc]] w (WriteE w m) := by
  have hri := fun o => iright_any (w.alloc o) vd vi vo vc m (h.below ((Below.refl _ _).alloc (Nat.le_refl _) o))
  obtain ⟨⟨da, dc, rfl, d1, d2, d3⟩, ⟨ia, ic, rfl, i1, i2, i3, i4⟩, ⟨oa, oc, rfl, o1, o2, o3, o4⟩, ⟨ca, cc, rfl, c1, c2, c3, c4⟩, hm⟩ := h
  have HD := Lib.hid d3; have HI := Lib.hid i4; have HO := Lib.hid o4; have HC := Lib.hid c4
  unfold WriteE
  clear d1 d2 d3 i1 i2 i3 i4 o1 o2 o3 o4 c1 c2 c3 c4 hm
  cases hr : imgRight m with
  | false =>
    rw [hr] at hri
    have HRI := Lib.hid hri
    clear hri hr
    go_enter Try.func10, Try.ntmps10
    go_wp2_with fail
    refine (HRI.out _).mono ?_
    rintro e w1 ⟨rfl, hb1⟩
    have HB1 := Lib.hid (bNext hb1 ((Below.refl _ _).alloc (Nat.le_refl _) _))
    clear hb1
    go_wp2_with fail
    go_ret2
    exact ⟨_, rfl, RowU.nil _ _, HB1.out⟩
  | true =>
    rw [hr] at hri
    obtain ⟨⟨z1, z2, z3, z4, z5, z6⟩, pd, pi, po, pr⟩ := right_parts hr
    have HRI := Lib.hid hri; have PD := Lib.hid pd; have PI := Lib.hid pi; have PO := Lib.hid po; have PR := Lib.hid pr
    have hws : writeB m = headB m ++ highB (checkB (headB m)) 4 := rfl
    have HWS := Lib.hid hws
    have hhd : headB m = [87, 82, 1] ++ numI m.dims.length ++ m.dims.flatMap numI ++ numI m.mem ++ slotsB m.ins ++ slotsB m.outs ++ numI m.code.length ++ m.code.flatMap insB := rfl
    have HHD := Lib.hid hhd; have HBY := Lib.hid (headB_byts m)
    clear hri hr pd pi po pr hws hhd
    have hcv := fun (w : World) (C : Array Value) (n c : Nat) => Lib.run_convert_bytes_const (P := Try.prog) w 28 5 C n c Try.underlying28 Try.underlying5
    go_enter Try.func10, Try.ntmps10
    go_wp2_with fail
    refine (HRI.out _).mono ?_
    rintro e W ⟨rfl, hb1⟩
    have hM := new1 hb1
    have x0 := cell_of_row W w.heap.size 0 _ _ _ hM; have x1 := cell_of_row W w.heap.size 1 _ _ _ hM; have x2 := cell_of_row W w.heap.size 2 _ _ _ hM; have x3 := cell_of_row W w.heap.size 3 _ _ _ hM; have x4 := cell_of_row W w.heap.size 4 _ _ _ hM
    have hb := bNext hb1 ((Below.refl _ _).alloc (Nat.le_refl _) _)
    have HB := Lib.hid hb
    have HD2 := Lib.hid (HD.out.below hb (Nat.le_refl _)); have HI2 := Lib.hid (HI.out.below slotRep hb (Nat.le_refl _)); have HO2 := Lib.hid (HO.out.below slotRep hb (Nat.le_refl _)); have HC2 := Lib.hid (HC.out.below insRep hb (Nat.le_refl _))
    have hMl : w.heap.size < W.heap.size := World.block_lt_of_cell? W _ x0
    obtain ⟨M, hM⟩ : ∃ M, w.heap.size = M := ⟨_, rfl⟩
    rw [hM] at hMl x0 x1 x2 x3 x4 ⊢
    have HX0 := Lib.hid x0; have HX1 := Lib.hid x1; have HX2 := Lib.hid x2; have HX3 := Lib.hid x3; have HX4 := Lib.hid x4
    clear hb1 hb HRI HD HI HO HC hM
    have l1 := numI_len (x := (m.dims.length : Int)) (by unfold Pos; omega)
    have h1 := number_full (W.alloc (.cells #[.int .u8 87, .int .u8 82, .int .u8 1] 5 (3, 4))) ⟨W.heap.size, 0, none⟩ [87, 82, 1] m.dims.length (by omega) (fun j v hv => by
      have e : (⟨W.heap.size, 0, none⟩ : Addr).add j = ⟨W.heap.size, j, none⟩ := by unfold Addr.add; split <;> simp_all
      rw [e, cell_of_row _ _ j _ _ _ (World.alloc_heap_new W _)]
      simpa using hv) (by simp)
    have H1 := Lib.hid h1
    clear h1
    go_wp2_with fail
    refine H1.out.mono ?_
    rintro e w1 ⟨v1, rfl, hr1, hg1⟩
    have hr1 := hr1.mono (show W.heap.size ≤ _ by simp)
    have hb1 : Below W.heap.size W w1 := ((Below.refl _ _).alloc (Nat.le_refl _) _).trans (hg1.mono (by simp))
    have HR1 := Lib.hid hr1; have HB1 := Lib.hid hb1
    have q0 := keepCellB hb1 (Nat.le_refl _) HX0.out
    clear hr1 hg1 hb1 H1 hcv x0 x1 x2 x3 x4
    go_wp2_with fail
    go_loopw [4, 23] (fun b i wr => ∃ k : Nat, k ≤ m.dims.length ∧ i = .int .i64 k ∧ RowU W.heap.size wr b ([87, 82, 1] ++ numI m.dims.length ++ (m.dims.take k).flatMap numI) ∧ Below W.heap.size W wr) (fun _ i _ => m.dims.length - (intOf i).toNat)
    case atStart => exact ⟨0, Nat.zero_le _, rfl, by simpa using HR1.out, HB1.out⟩
    case round =>
      obtain ⟨k, hk, rfl, hrow, hbw⟩ := hrel
      have y0 := keepCellB hbw (Nat.le_refl _) HX0.out; have y1 := keepCellB hbw (Nat.le_refl _) HX1.out
      have hfl := flat_len (e := numI) (n := 9) (l := m.dims.take k) (fun x hx => numI_len (PD.out x (List.mem_of_mem_take hx)))
      have hlen : ([87, 82, 1] ++ numI m.dims.length ++ (m.dims.take k).flatMap numI).length ≤ 66 := by
        simp only [List.length_append]
        rw [List.length_take] at hfl
        have : ([87, 82, 1] : List Int).length = 3 := rfl
        omega
      have hsz := hbw.size
      by_cases hlt : k < m.dims.length
      · have hst := flat_take (e := numI) hlt
        obtain ⟨b, off, rfl, z0⟩ := (HD2.out.below hbw (Nat.le_refl _)) k hlt
        have hpx := PD.out m.dims[k] (List.getElem_mem hlt)
        obtain ⟨x, hx⟩ : ∃ x, m.dims[k] = x := ⟨_, rfl⟩
        rw [hx] at z0 hpx hst
        have hqq := numberI wr W.heap.size u4 _ x hpx hrow hsz (by omega)
        rw [List.append_assoc _ _ (numI x), ← hst] at hqq
        have HQQ := Lib.hid hqq; have HROW := Lib.hid hrow; have HBW := Lib.hid hbw
        have hk0 : (0 : Int) ≤ (k : Int) := by omega
        have hk1 : (k : Int) < (m.dims.length : Int) := by omega
        clear hqq hrow hbw hst hfl hlen hpx hx
        go_wp2_with fail
        refine HQQ.out.mono ?_
        rintro e w5 ⟨v5, rfl, hr5, hg5⟩
        have HR5 := Lib.hid hr5; have HB5 := Lib.hid (HBW.out.trans (hg5.toBelow hsz HROW.out.ge))
        clear hr5 hg5
        go_wp2_with fail
        go_roundw
        case rel => exact ⟨k + 1, by omega, by go_num, HR5.out, HB5.out⟩
        case measure => simp [intOf] <;> omega
      · obtain rfl : k = m.dims.length := by omega
        rw [List.take_length] at hrow hlen
        have l2 := numI_len (x := m.mem) (by unfold Pos; omega)
        have y2 := keepCellB hbw (Nat.le_refl _) HX2.out; have y3 := keepCellB hbw (Nat.le_refl _) HX3.out
        have HROW := Lib.hid hrow; have HBW := Lib.hid hbw
        clear hrow hbw hfl
        go_upto_region 9 with fail
        refine wp_region_Z (S := fun W' => W'.cell? ⟨M, 1, none⟩ = some (.int .i64 m.mem) ∧ W'.cell? ⟨M, 2, none⟩ = some (.slice ia m.ins.length ic) ∧ W'.cell? ⟨M, 3, none⟩ = some (.slice oa m.outs.length oc)) (z := 11) (by kernel_rfl) ?_
        have hSS : (fun W' : World => W'.cell? ⟨M, 1, none⟩ = some (.int .i64 m.mem) ∧ W'.cell? ⟨M, 2, none⟩ = some (.slice ia m.ins.length ic) ∧ W'.cell? ⟨M, 3, none⟩ = some (.slice oa m.outs.length oc)) wr.drew := ⟨y1, y2, y3⟩
        refine wpAnyZ_take (i := 0) (v := ?_) rfl (by kernel_rfl) (by kernel_rfl) (by kernel_rfl) (fun _ _ _ h => h) (by kernel_rfl) (Or.inl ⟨by rfl, ?_⟩) (by assumption) ?_
        rotate_left
        · intro w' hSw
          try dsimp only at hSw
          try obtain ⟨hSw, hSw2⟩ := hSw
          go_simp
          try with_reducible rfl
        show wpAnyZ _ _ _ _ _ _ _ _ (Act.put _ (some 31) _) _
        simp only [Act.put, List.setIfInBounds_toArray, List.set_cons_zero, List.set_cons_succ]
        refine wpAnyZ_take (i := 1) (v := ?_) rfl (by kernel_rfl) (by kernel_rfl) (by kernel_rfl) (fun _ _ _ h => h) (by kernel_rfl) (Or.inl ⟨by rfl, ?_⟩) (by assumption) ?_
        rotate_left
        · intro w' hSw
          try dsimp only at hSw
          try obtain ⟨hSw, hSw2⟩ := hSw
          go_simp
          try with_reducible rfl
        show wpAnyZ _ _ _ _ _ _ _ _ (Act.put _ (some 32) _) _
        simp only [Act.put, List.setIfInBounds_toArray, List.set_cons_zero, List.set_cons_succ]
        refine wpAnyZ_take (i := 2) (v := ?_) rfl (by kernel_rfl) (by kernel_rfl) (by kernel_rfl) (fun _ _ _ h => h) (by kernel_rfl) (Or.inl ⟨by rfl, ?_⟩) (by assumption) ?_
        rotate_left
        · intro w' hSw
          try dsimp only at hSw
          try obtain ⟨hSw, hSw2⟩ := hSw
          go_simp
          try with_reducible rfl
        show wpAnyZ _ _ _ _ _ _ _ _ (Act.put _ (some 33) _) _
        simp only [Act.put, List.setIfInBounds_toArray, List.set_cons_zero, List.set_cons_succ]
        refine wpAnyZ_take (i := 4) (v := ?_) rfl (by kernel_rfl) (by kernel_rfl) (by kernel_rfl) (fun _ _ _ h => h) (by kernel_rfl) (Or.inl ⟨by rfl, ?_⟩) (by assumption) ?_
        rotate_left
        · intro w' hSw
          try dsimp only at hSw
          try obtain ⟨hSw, hSw2⟩ := hSw
          go_simp
          try with_reducible rfl
        show wpAnyZ _ _ _ _ _ _ _ _ (Act.put _ (some 35) _) _
        simp only [Act.put, List.setIfInBounds_toArray, List.set_cons_zero, List.set_cons_succ]
        refine wpAnyZ_take (i := 5) (v := ?_) rfl (by kernel_rfl) (by kernel_rfl) (by kernel_rfl) (fun _ _ _ h => h) (by kernel_rfl) (Or.inl ⟨by rfl, ?_⟩) (by assumption) ?_
        rotate_left
        · intro w' hSw
          try dsimp only at hSw
          try obtain ⟨hSw, hSw2⟩ := hSw
          go_simp
          try with_reducible rfl
        show wpAnyZ _ _ _ _ _ _ _ _ (Act.put _ (some 36) _) _
        simp only [Act.put, List.setIfInBounds_toArray, List.set_cons_zero, List.set_cons_succ]
        refine wpAnyZ_take (i := 7) (v := ?_) rfl (by kernel_rfl) (by kernel_rfl) (by kernel_rfl) (fun _ _ _ h => h) (by kernel_rfl) (Or.inl ⟨by rfl, ?_⟩) (by assumption) ?_
        rotate_left
        · intro w' hSw
          try dsimp only at hSw
          try obtain ⟨hSw, hSw2⟩ := hSw
          go_simp
          try with_reducible rfl
        show wpAnyZ _ _ _ _ _ _ _ _ (Act.put _ (some 38) _) _
        simp only [Act.put, List.setIfInBounds_toArray, List.set_cons_zero, List.set_cons_succ]
        refine wpAnyZ_take (i := 8) (v := ?_) rfl (by kernel_rfl) (by kernel_rfl) (by kernel_rfl) (fun _ _ _ h => h) (by kernel_rfl) (Or.inl ⟨by rfl, ?_⟩) (by assumption) ?_
        rotate_left
        · intro w' hSw
          try dsimp only at hSw
          try obtain ⟨hSw, hSw2⟩ := hSw
          go_simp
          try with_reducible rfl
        show wpAnyZ _ _ _ _ _ _ _ _ (Act.put _ (some 39) _) _
        simp only [Act.put, List.setIfInBounds_toArray, List.set_cons_zero, List.set_cons_succ]
        clear hSS
        refine wpAnyZ_one (i := 3) (by kernel_rfl) rfl rfl (fun K hK => ?_)
        go_simp
        refine (numberI wr.drew W.heap.size u4 _ m.mem (by unfold Pos; omega) HROW.out hsz (by omega)).mono ?_
        rintro e w2 ⟨v2, rfl, hr2, hg2⟩
        have hg2 := hg2.ofDrew
        have hb2 := HBW.out.trans (hg2.toBelow hsz HROW.out.ge)
        show K _ w2
        refine hK.out _ _ (.inr ⟨keepCellB hb2 (Nat.le_refl _) HX1.out, keepCellB hb2 (Nat.le_refl _) HX2.out, keepCellB hb2 (Nat.le_refl _) HX3.out⟩) ?_
        have HR2 := Lib.hid hr2; have HB2 := Lib.hid hb2
        have hl2 : ([87, 82, 1] ++ numI m.dims.length ++ m.dims.flatMap numI ++ numI m.mem).length ≤ 75 := by rw [List.length_append]; omega
        clear hK hr2 hg2 hb2 HROW HBW y0 y1 y2 y3 l2 hlen
        have h3 := slots_any w2 W.heap.size v2 _ W ia ic m.ins HI2.out HB2.out (Nat.le_refl _) z4 PI.out HR2.out HB2.out.size (by omega)
        have H3 := Lib.hid h3
        clear h3
        refine wpAnyZ_one (i := 6) (by kernel_rfl) rfl rfl (fun K hK => ?_)
        go_simp
        refine H3.out.mono ?_
        rintro e w3 ⟨v3, rfl, hr3, hg3⟩
        have hb3 := HB2.out.trans (hg3.toBelow HB2.out.size HR2.out.ge)
        show K _ w3
        refine hK.out _ _ (.inr ⟨keepCellB hb3 (Nat.le_refl _) HX1.out, keepCellB hb3 (Nat.le_refl _) HX2.out, keepCellB hb3 (Nat.le_refl _) HX3.out⟩) ?_
        have HR3 := Lib.hid hr3; have HB3 := Lib.hid hb3
        have sl3 := slotsB_len z4 PI.out
        have hl3 : ([87, 82, 1] ++ numI m.dims.length ++ m.dims.flatMap numI ++ numI m.mem ++ slotsB m.ins).length ≤ 3575 := by rw [List.length_append]; omega
        clear hK hr3 hg3 hb3 H3 hl2 sl3 HR2 HB2
        have h4 := slots_any w3 W.heap.size v3 _ W oa oc m.outs HO2.out HB3.out (Nat.le_refl _) z5 PO.out HR3.out HB3.out.size (by omega)
        have H4 := Lib.hid h4
        clear h4
        refine wpAnyZ_one (i := 9) (by kernel_rfl) rfl rfl (fun K hK => ?_)
        go_simp
        refine H4.out.mono ?_
        rintro e w4 ⟨v4, rfl, hr4, hg4⟩
        have hb4 := HB3.out.trans (hg4.toBelow HB3.out.size HR3.out.ge)
        show K _ w4
        refine hK.out _ _ (.inr ⟨keepCellB hb4 (Nat.le_refl _) HX1.out, keepCellB hb4 (Nat.le_refl _) HX2.out, keepCellB hb4 (Nat.le_refl _) HX3.out⟩) ?_
        have HR4 := Lib.hid hr4; have HB4 := Lib.hid hb4
        have sl4 := slotsB_len z5 PO.out
        have hl4 : ([87, 82, 1] ++ numI m.dims.length ++ m.dims.flatMap numI ++ numI m.mem ++ slotsB m.ins ++ slotsB m.outs).length ≤ 7075 := by rw [List.length_append]; omega
        clear hK hr4 hg4 hb4 H4 hl3 sl4 HR3 HB3
        refine wpAnyZ_one (i := 10) (by kernel_rfl) rfl rfl (fun K hK => ?_)
        go_simp
        refine hK.out _ _ (.inr ⟨keepCellB HB4.out (Nat.le_refl _) HX1.out, keepCellB HB4.out (Nat.le_refl _) HX2.out, keepCellB HB4.out (Nat.le_refl _) HX3.out⟩) ?_
        clear hK
        refine wpAnyZ_done (by kernel_rfl) ?_ _
        have q4 := keepCellB HB4.out (Nat.le_refl _) HX4.out
        have h5 := numberI w4 W.heap.size v4 _ (m.code.length : Int) (by unfold Pos; omega) HR4.out HB4.out.size (by omega)
        have H5 := Lib.hid h5
        clear h5
        go_wp2_with fail
        refine H5.out.mono ?_
        rintro e w5 ⟨v5, rfl, hr5, hg5⟩
        have hb5 := HB4.out.trans (hg5.toBelow HB4.out.size HR4.out.ge)
        have HB5 := Lib.hid hb5
        have l5 := numI_len (x := (m.code.length : Int)) (by unfold Pos; omega)
        have hl5 : ([87, 82, 1] ++ numI m.dims.length ++ m.dims.flatMap numI ++ numI m.mem ++ slotsB m.ins ++ slotsB m.outs ++ numI m.code.length).length ≤ 7084 := by rw [List.length_append]; omega
        have hhd := HHD.out
        obtain ⟨ys, hys⟩ : ∃ ys, [87, 82, 1] ++ numI m.dims.length ++ m.dims.flatMap numI ++ numI m.mem ++ slotsB m.ins ++ slotsB m.outs ++ numI m.code.length = ys := ⟨_, rfl⟩
        rw [hys] at hhd hl5 hr5
        have HR5 := Lib.hid hr5; have HHD2 := Lib.hid hhd
        have q5 := keepCellB hb5 (Nat.le_refl _) HX4.out
        clear hr5 hg5 hb5 H5 q4 hl4 l5 HR4 HB4 HHD hys hhd
        go_wp2_with fail
        go_loopw [4, 49] (fun b i wx => ∃ j : Nat, j ≤ m.code.length ∧ i = .int .i64 j ∧ RowU W.heap.size wx b (ys ++ (m.code.take j).flatMap insB) ∧ Below W.heap.size W wx) (fun _ i _ => m.code.length - (intOf i).toNat)
        case atStart => exact ⟨0, Nat.zero_le _, rfl, by simpa using HR5.out, HB5.out⟩
        case round =>
          obtain ⟨j, hj, rfl, hrow, hbw⟩ := hrel
          have y4 := keepCellB hbw (Nat.le_refl _) HX4.out
          have hfl := flat8 (m.code.take j)
          have hlen : (ys ++ (m.code.take j).flatMap insB).length ≤ 300000 := by
            rw [List.length_append, hfl, List.length_take]
            omega
          have hsz := hbw.size
          by_cases hjl : j < m.code.length
          · have hst := flat_take (e := insB) hjl
            obtain ⟨b, off, rfl, hwf, e0, e1, e2, e3, e4⟩ := els_ins (HC2.out.below insRep hbw (Nat.le_refl _)) hjl
            have hpr := PR.out m.code[j] (List.getElem_mem hjl)
            generalize m.code[j] = i at hst hwf e0 e1 e2 e3 e4 hpr
            have hba : ∀ o, Below wr.heap.size wr (wr.alloc o) := fun o => (Below.refl _ _).alloc (Nat.le_refl _) o
            have he := fun o => enc_any (wr.alloc o) i hwf hpr
            have hel := encN_lt hwf
            have HE := Lib.hid he; have HST := Lib.hid hst; have HROW := Lib.hid hrow; have HBW := Lib.hid hbw
            have hj0 : (0 : Int) ≤ (j : Int) := by omega
            have hj1 : (j : Int) < (m.code.length : Int) := by omega
            clear he hst hrow hbw hwf hpr hfl
            go_wp2_with fail
            refine (HE.out _).mono ?_
            rintro e w6 ⟨rfl, hb6⟩
            have hb6 := bNext hb6 (hba _)
            have hrow6 := HROW.out.below hb6
            have hbw6 := HBW.out.trans (hb6.mono hsz)
            have h7 := high_any w6 W.heap.size u4 _ (encN i) 8 (by omega) (by omega) hrow6 hbw6.size (by omega)
            have H7 := Lib.hid h7; have HR6 := Lib.hid hrow6; have HB6 := Lib.hid hbw6
            clear h7 hrow6 hbw6 hb6 HE HROW HBW
            go_wp2_with fail
            refine H7.out.mono ?_
            rintro e w7 ⟨v7, rfl, hr7, hg7⟩
            have HR7 := Lib.hid hr7; have HB7 := Lib.hid (HB6.out.trans (hg7.toBelow HB6.out.size HR6.out.ge))
            clear hr7 hg7 H7
            go_wp2_with fail
            go_roundw
            case rel => exact ⟨j + 1, by omega, by go_num, by rw [HST.out, ← List.append_assoc]; exact HR7.out, HB7.out⟩
            case measure => simp [intOf] <;> omega
          · obtain rfl : j = m.code.length := by omega
            rw [List.take_length] at hrow hlen
            rw [← HHD2.out] at hrow hlen
            have hbyt := HBY.out
            have hcl := checkB_lt (headB m)
            generalize headB m = hd at hrow hlen hbyt hcl HWS
            obtain ⟨ra, rc, rfl, _, _, hri⟩ := hrow.slice
            have hch := check_any wr ra rc hd hri hbyt (by omega)
            have h8 := high_any wr W.heap.size (.slice ra hd.length rc) hd (checkB hd) 4 (by omega) (by omega) hrow hsz (by omega)
            generalize checkB hd = ck at hch h8 hcl HWS
            have HCH := Lib.hid hch; have H8 := Lib.hid h8; have HROW := Lib.hid hrow; have HBW := Lib.hid hbw
            clear hch h8 hrow hbw hbyt hri hfl
            go_wp2_with fail
            refine HCH.out.mono ?_
            rintro e w8 ⟨rfl, rfl⟩
            go_wp2_with fail
            refine H8.out.mono ?_
            rintro e w9 ⟨v9, rfl, hr9, hg9⟩
            have HR9 := Lib.hid hr9; have HB9 := Lib.hid (HBW.out.trans (hg9.toBelow hsz HROW.out.ge))
            clear hr9 hg9
            go_wp2_with fail
            go_ret2
            exact ⟨_, rfl, by show RowU w.heap.size w9 v9 (writeB m); rw [HWS.out]; exact HR9.out.mono (by have := HB.out.size; omega), bNext HB9.out HB.out⟩
end Go.Proofs.Ytiogopichcnihaa
