/-
  PrimRavels: the law returns true for every input, and what was handed in reads as it did. No condition.
-/
import Derived.Test.YtmjkncmpanhgjaaBZ
import Derived.BigQuiet
namespace Go.Proofs.Ytmjkncmpanhgjaa
set_option maxRecDepth 100000
open Go.ChangeShapes Go.WideShapes Go.ChangeAt Go.RowKit Go.Joins
set_option linter.unusedVariables false
set_option linter.unusedSimpArgs false

set_option maxHeartbeats 8000000 in
theorem PrimRavels_no (w : World) (va vb : Value) (s d : List Int) (vc : Value) (t : List Int) (hs : SlA w va s) (hd : SlA w vb d) (ht : SlA w vc t) (hr : right s d = false) :
    Calls Try.prog 9 #[.agg #[va, vb], vc] w fun e w' => e = .returned (.bool true) ∧ Below w.heap.size w w' := by
  have HS := Lib.hid hs; have HD := Lib.hid hd; have HT := Lib.hid ht
  have HR := Lib.hid hr
  have HM0 := Lib.hid (mon_bad 33 hr); have HM1 := Lib.hid (mon_bad 34 hr)
  have HT0 := Lib.hid (Rt.noA (e := 60) (by decide))
  unfold noA at HM0 HM1 HT0
  obtain ⟨a0, c0, rfl, -⟩ := hs
  obtain ⟨a1, c1, rfl, -⟩ := hd
  obtain ⟨a2, c2, rfl, -⟩ := ht
  clear hr
  go_enter Try.func9, Try.ntmps9
  go_upto_region 1 with fail
  refine gen_worldA (fun W => BoxA w W (.slice a0 s.length c0) (.slice a1 d.length c1)) (BoxA.mk0 _ _ _) ?_
  rintro W hO
  have HO := Lib.hid hO
  clear hO
  go_wp2_with fail
  refine (shown_any _).mono ?_
  rintro e' V0 ⟨rfl, hb⟩
  have HO := Lib.hid (HO.out.next hb)
  clear hb
  go_upto_region 2 with fail
  refine gen_worldA (fun W => BoxA w W (.slice a0 s.length c0) (.slice a1 d.length c1)) HO.out ?_
  rintro V1 hHO
  clear HO
  have HO := Lib.hid hHO
  clear hHO
  have x0 := HO.out.c0; have x1 := HO.out.c1
  have hq := pm_any V1 33 _ _ s d (HS.out.below HO.out.b) (HD.out.below HO.out.b)
  rw [HM0.out] at hq
  have HQ := Lib.hid hq
  clear hq
  go_wp2_with fail
  refine HQ.out.mono ?_
  rintro e' X0 ⟨hr, hb⟩
  obtain ⟨p0, q0, r0, t0, rfl, hs0, hd0⟩ := ret_own (S := []) (D := []) (E := 60) hr
  obtain ⟨b0, hb0⟩ : ∃ b, X0.heap.size = b := ⟨_, rfl⟩
  have hba : Below X0.heap.size X0 (X0.alloc (.cells #[.slice p0 0 q0, .slice r0 0 t0] 24)) := (Below.refl _ _).alloc (Nat.le_refl _) _
  have hbc := bNext hba hb
  have HO := Lib.hid (HO.out.next hbc)
  have K0 := Lib.hid (KeptR.new (b := b0) hb0 hs0 hd0 HT0.out.i1 HT0.out.i2)
  clear hr hs0 hd0 hb hba hbc HQ x0 x1
  go_upto_region 3 with fail
  refine gen_worldA (fun W => BoxA w W (.slice a0 s.length c0) (.slice a1 d.length c1) ∧ KeptR W b0 (.slice p0 0 q0) (.slice r0 0 t0) [] []) ⟨HO.out, K0.out⟩ ?_
  rintro V3 ⟨hHO, hK0⟩
  clear HO K0
  have HO := Lib.hid hHO
  have K0 := Lib.hid hK0
  clear hHO hK0
  have x0 := HO.out.c0; have x1 := HO.out.c1
  have hq := pm_any V3 34 _ _ s d (HS.out.below HO.out.b) (HD.out.below HO.out.b)
  rw [HM1.out] at hq
  have HQ := Lib.hid hq
  clear hq
  go_wp2_with fail
  refine HQ.out.mono ?_
  rintro e' X1 ⟨hr, hb⟩
  obtain ⟨p1, q1, r1, t1, rfl, hs1, hd1⟩ := ret_own (S := []) (D := []) (E := 60) hr
  obtain ⟨b1, hb1⟩ : ∃ b, X1.heap.size = b := ⟨_, rfl⟩
  have hba : Below X1.heap.size X1 (X1.alloc (.cells #[.slice p1 0 q1, .slice r1 0 t1] 24)) := (Below.refl _ _).alloc (Nat.le_refl _) _
  have hbc := bNext hba hb
  have HO := Lib.hid (HO.out.next hbc)
  have K0 := Lib.hid (K0.out.next hbc)
  have K1 := Lib.hid (KeptR.new (b := b1) hb1 hs1 hd1 HT0.out.i1 HT0.out.i2)
  clear hr hs1 hd1 hb hba hbc HQ x0 x1
  go_upto_region 4 with fail
  refine gen_worldA (fun W => BoxA w W (.slice a0 s.length c0) (.slice a1 d.length c1) ∧ KeptR W b0 (.slice p0 0 q0) (.slice r0 0 t0) [] [] ∧ KeptR W b1 (.slice p1 0 q1) (.slice r1 0 t1) [] []) ⟨HO.out, K0.out, K1.out⟩ ?_
  rintro V4 ⟨hHO, hK0, hK1⟩
  clear HO K0 K1
  have HO := Lib.hid hHO
  have K0 := Lib.hid hK0
  have K1 := Lib.hid hK1
  clear hHO hK0 hK1
  have x0 := HO.out.c0; have x1 := HO.out.c1
  have hq := aright_sl V4 _ _ s d (HS.out.below HO.out.b) (HD.out.below HO.out.b)
  rw [HR.out] at hq
  have HQ := Lib.hid hq
  clear hq
  go_wp2_with fail
  refine HQ.out.mono ?_
  rintro e' V6 ⟨rfl, hb⟩
  have HO := Lib.hid (HO.out.next hb)
  clear HQ hb x0 x1
  go_wp2_with fail
  go_ret
  exact ⟨rfl, HO.out.b⟩
set_option maxHeartbeats 16000000 in
theorem PrimRavels_big (w : World) (va vb : Value) (s d : List Int) (vc : Value) (t : List Int) (hs : SlA w va s) (hd : SlA w vb d) (ht : SlA w vc t) (hr : right s d = true) (hbig : 4 < t.length) :
    Calls Try.prog 9 #[.agg #[va, vb], vc] w fun e w' => e = .returned (.bool true) ∧ Below w.heap.size w w' := by
  have HS := Lib.hid hs; have HD := Lib.hid hd; have HT := Lib.hid ht
  have HT0 := Lib.hid (Rt.okA (shape_in hr) (side_in hr)); have HT1 := Lib.hid (Rt.okA (right_one rfl (right_len hr)) (in_of hd)); have HT2 := Lib.hid (Rt.okA hr (in_of hd))
  have HR := Lib.hid hr
  have HM0 := Lib.hid (mon_shape hr); have HM1 := Lib.hid (mon_ravel hr); have HM2 := Lib.hid (rho_back hr)
  unfold okA at HM0 HM1 HM2 HT0 HT1 HT2
  obtain ⟨ls, hls⟩ : ∃ l : List Int, [(s.length : Int)] = l := ⟨_, rfl⟩
  obtain ⟨ld, hld⟩ : ∃ l : List Int, [(d.length : Int)] = l := ⟨_, rfl⟩
  rw [hls] at HM0 HM2 HT0; rw [hld] at HM1 HM2 HT1
  have hbig1 : (4 : Int) < (t.length : Int) := by omega
  obtain ⟨a0, c0, rfl, -⟩ := hs
  obtain ⟨a1, c1, rfl, -⟩ := hd
  obtain ⟨a2, c2, rfl, -⟩ := ht
  clear hr hls hld hbig
  go_enter Try.func9, Try.ntmps9
  go_upto_region 1 with fail
  refine gen_worldA (fun W => BoxA w W (.slice a0 s.length c0) (.slice a1 d.length c1)) (BoxA.mk0 _ _ _) ?_
  rintro W hO
  have HO := Lib.hid hO
  clear hO
  go_wp2_with fail
  refine (shown_any _).mono ?_
  rintro e' V0 ⟨rfl, hb⟩
  have HO := Lib.hid (HO.out.next hb)
  clear hb
  go_upto_region 2 with fail
  refine gen_worldA (fun W => BoxA w W (.slice a0 s.length c0) (.slice a1 d.length c1)) HO.out ?_
  rintro V1 hHO
  clear HO
  have HO := Lib.hid hHO
  clear hHO
  have x0 := HO.out.c0; have x1 := HO.out.c1
  have hq := pm_any V1 33 _ _ s d (HS.out.below HO.out.b) (HD.out.below HO.out.b)
  rw [HM0.out] at hq
  have HQ := Lib.hid hq
  clear hq
  go_wp2_with fail
  refine HQ.out.mono ?_
  rintro e' X0 ⟨hr, hb⟩
  obtain ⟨p0, q0, r0, t0, rfl, hs0, hd0⟩ := ret_own (S := ls) (D := s) (E := 0) hr
  obtain ⟨b0, hb0⟩ : ∃ b, X0.heap.size = b := ⟨_, rfl⟩
  have hba : Below X0.heap.size X0 (X0.alloc (.cells #[.slice p0 ls.length q0, .slice r0 s.length t0] 24)) := (Below.refl _ _).alloc (Nat.le_refl _) _
  have hbc := bNext hba hb
  have HO := Lib.hid (HO.out.next hbc)
  have K0 := Lib.hid (KeptR.new (b := b0) hb0 hs0 hd0 HT0.out.i1 HT0.out.i2)
  clear hr hs0 hd0 hb hba hbc HQ x0 x1
  go_upto_region 3 with fail
  refine gen_worldA (fun W => BoxA w W (.slice a0 s.length c0) (.slice a1 d.length c1) ∧ KeptR W b0 (.slice p0 ls.length q0) (.slice r0 s.length t0) ls s) ⟨HO.out, K0.out⟩ ?_
  rintro V3 ⟨hHO, hK0⟩
  clear HO K0
  have HO := Lib.hid hHO
  have K0 := Lib.hid hK0
  clear hHO hK0
  have x0 := HO.out.c0; have x1 := HO.out.c1
  have hq := pm_any V3 34 _ _ s d (HS.out.below HO.out.b) (HD.out.below HO.out.b)
  rw [HM1.out] at hq
  have HQ := Lib.hid hq
  clear hq
  go_wp2_with fail
  refine HQ.out.mono ?_
  rintro e' X1 ⟨hr, hb⟩
  obtain ⟨p1, q1, r1, t1, rfl, hs1, hd1⟩ := ret_own (S := ld) (D := d) (E := 0) hr
  obtain ⟨b1, hb1⟩ : ∃ b, X1.heap.size = b := ⟨_, rfl⟩
  have hba : Below X1.heap.size X1 (X1.alloc (.cells #[.slice p1 ld.length q1, .slice r1 d.length t1] 24)) := (Below.refl _ _).alloc (Nat.le_refl _) _
  have hbc := bNext hba hb
  have HO := Lib.hid (HO.out.next hbc)
  have K0 := Lib.hid (K0.out.next hbc)
  have K1 := Lib.hid (KeptR.new (b := b1) hb1 hs1 hd1 HT1.out.i1 HT1.out.i2)
  clear hr hs1 hd1 hb hba hbc HQ x0 x1
  go_upto_region 4 with fail
  refine gen_worldA (fun W => BoxA w W (.slice a0 s.length c0) (.slice a1 d.length c1) ∧ KeptR W b0 (.slice p0 ls.length q0) (.slice r0 s.length t0) ls s ∧ KeptR W b1 (.slice p1 ld.length q1) (.slice r1 d.length t1) ld d) ⟨HO.out, K0.out, K1.out⟩ ?_
  rintro V4 ⟨hHO, hK0, hK1⟩
  clear HO K0 K1
  have HO := Lib.hid hHO
  have K0 := Lib.hid hK0
  have K1 := Lib.hid hK1
  clear hHO hK0 hK1
  go_upto_region 6 with fail
  have y0K0 := K0.out.c0; have y1K0 := K0.out.c1
  have y0K1 := K1.out.c0; have y1K1 := K1.out.c1
  have hq := pd_any V4 37 _ _ _ _ _ _ _ _ K0.out.sv K0.out.su K1.out.sv K1.out.su
  rw [HM2.out] at hq
  have HQ := Lib.hid hq
  clear hq
  go_wp2_with fail
  refine HQ.out.mono ?_
  rintro e' X2 ⟨hr, hb⟩
  obtain ⟨p2, q2, r2, t2, rfl, hs2, hd2⟩ := ret_own (S := s) (D := d) (E := 0) hr
  obtain ⟨b2, hb2⟩ : ∃ b, X2.heap.size = b := ⟨_, rfl⟩
  have hba : Below X2.heap.size X2 (X2.alloc (.cells #[.slice p2 s.length q2, .slice r2 d.length t2] 24)) := (Below.refl _ _).alloc (Nat.le_refl _) _
  have hbc := bNext hba hb
  have HO := Lib.hid (HO.out.next hbc)
  have K0 := Lib.hid (K0.out.next hbc)
  have K1 := Lib.hid (K1.out.next hbc)
  have K2 := Lib.hid (KeptR.new (b := b2) hb2 hs2 hd2 HT2.out.i1 HT2.out.i2)
  clear hr hs2 hd2 hb hba hbc HQ y0K0 y1K0 y0K1 y1K1
  clear K0 K1
  go_upto_region 7 with fail
  refine gen_worldA (fun W => BoxA w W (.slice a0 s.length c0) (.slice a1 d.length c1) ∧ KeptR W b2 (.slice p2 s.length q2) (.slice r2 d.length t2) s d) ⟨HO.out, K2.out⟩ ?_
  rintro V7 ⟨hHO, hK2⟩
  clear HO K2
  have HO := Lib.hid hHO
  have K2 := Lib.hid hK2
  clear hHO hK2
  have x0 := HO.out.c0; have x1 := HO.out.c1
  have y0K2 := K2.out.c0; have y1K2 := K2.out.c1
  have HQ := Lib.hid (same_is K2.out.sv K2.out.su (HS.out.below HO.out.b) (HD.out.below HO.out.b))
  go_wp2_with fail
  refine HQ.out.mono ?_
  rintro e' Z ⟨rfl, hb⟩
  have HO := Lib.hid (HO.out.next hb)
  have K2 := Lib.hid (K2.out.next hb)
  clear HQ hb x0 x1 y0K2 y1K2
  have x0 := HO.out.c0; have x1 := HO.out.c1
  have y0K2 := K2.out.c0; have y1K2 := K2.out.c1
  have HQ := Lib.hid (same_is K2.out.sv K2.out.su (HS.out.below HO.out.b) (HD.out.below HO.out.b))
  go_wp2_with fail
  refine HQ.out.mono ?_
  rintro e' Z2 ⟨rfl, hb⟩
  have HO := Lib.hid (HO.out.next hb)
  clear HQ hb
  go_wp2_with fail
  go_ret
  exact ⟨rfl, HO.out.b⟩
set_option maxHeartbeats 16000000 in
theorem PrimRavels_err (w : World) (va vb : Value) (s d : List Int) (vc : Value) (t : List Int) (hs : SlA w va s) (hd : SlA w vb d) (ht : SlA w vc t) (hr : right s d = true) (h4 : t.length ≤ 4) (er : Int) (he : er ≠ 0) (h5 : dyadA 37 [(t.length : Int)] t s d = noA er) :
    Calls Try.prog 9 #[.agg #[va, vb], vc] w fun e w' => e = .returned (.bool true) ∧ Below w.heap.size w w' := by
  have HS := Lib.hid hs; have HD := Lib.hid hd; have HT := Lib.hid ht
  have HT0 := Lib.hid (Rt.okA (shape_in hr) (side_in hr)); have HT1 := Lib.hid (Rt.okA (right_one rfl (right_len hr)) (in_of hd)); have HT2 := Lib.hid (Rt.okA hr (in_of hd))
  have HR := Lib.hid hr
  have HM0 := Lib.hid (mon_shape hr); have HM1 := Lib.hid (mon_ravel hr); have HM2 := Lib.hid (rho_back hr)
  unfold okA at HM0 HM1 HM2 HT0 HT1 HT2
  obtain ⟨ls, hls⟩ : ∃ l : List Int, [(s.length : Int)] = l := ⟨_, rfl⟩
  obtain ⟨ld, hld⟩ : ∃ l : List Int, [(d.length : Int)] = l := ⟨_, rfl⟩
  rw [hls] at HM0 HM2 HT0; rw [hld] at HM1 HM2 HT1
  have hbig1 : ¬ (4 : Int) < (t.length : Int) := by omega
  have HTL := Lib.hid ht.le
  have HT3 := Lib.hid (Rt.noA he)
  unfold noA at h5 HT3
  have HM3 := Lib.hid h5
  have hee : (er != 0) = true := by simpa using he
  obtain ⟨a0, c0, rfl, -⟩ := hs
  obtain ⟨a1, c1, rfl, -⟩ := hd
  obtain ⟨a2, c2, rfl, -⟩ := ht
  clear hr hls hld h4 h5 he
  go_enter Try.func9, Try.ntmps9
  go_upto_region 1 with fail
  refine gen_worldA (fun W => BoxA w W (.slice a0 s.length c0) (.slice a1 d.length c1)) (BoxA.mk0 _ _ _) ?_
  rintro W hO
  have HO := Lib.hid hO
  clear hO
  go_wp2_with fail
  refine (shown_any _).mono ?_
  rintro e' V0 ⟨rfl, hb⟩
  have HO := Lib.hid (HO.out.next hb)
  clear hb
  go_upto_region 2 with fail
  refine gen_worldA (fun W => BoxA w W (.slice a0 s.length c0) (.slice a1 d.length c1)) HO.out ?_
  rintro V1 hHO
  clear HO
  have HO := Lib.hid hHO
  clear hHO
  have x0 := HO.out.c0; have x1 := HO.out.c1
  have hq := pm_any V1 33 _ _ s d (HS.out.below HO.out.b) (HD.out.below HO.out.b)
  rw [HM0.out] at hq
  have HQ := Lib.hid hq
  clear hq
  go_wp2_with fail
  refine HQ.out.mono ?_
  rintro e' X0 ⟨hr, hb⟩
  obtain ⟨p0, q0, r0, t0, rfl, hs0, hd0⟩ := ret_own (S := ls) (D := s) (E := 0) hr
  obtain ⟨b0, hb0⟩ : ∃ b, X0.heap.size = b := ⟨_, rfl⟩
  have hba : Below X0.heap.size X0 (X0.alloc (.cells #[.slice p0 ls.length q0, .slice r0 s.length t0] 24)) := (Below.refl _ _).alloc (Nat.le_refl _) _
  have hbc := bNext hba hb
  have HO := Lib.hid (HO.out.next hbc)
  have K0 := Lib.hid (KeptR.new (b := b0) hb0 hs0 hd0 HT0.out.i1 HT0.out.i2)
  clear hr hs0 hd0 hb hba hbc HQ x0 x1
  go_upto_region 3 with fail
  refine gen_worldA (fun W => BoxA w W (.slice a0 s.length c0) (.slice a1 d.length c1) ∧ KeptR W b0 (.slice p0 ls.length q0) (.slice r0 s.length t0) ls s) ⟨HO.out, K0.out⟩ ?_
  rintro V3 ⟨hHO, hK0⟩
  clear HO K0
  have HO := Lib.hid hHO
  have K0 := Lib.hid hK0
  clear hHO hK0
  have x0 := HO.out.c0; have x1 := HO.out.c1
  have hq := pm_any V3 34 _ _ s d (HS.out.below HO.out.b) (HD.out.below HO.out.b)
  rw [HM1.out] at hq
  have HQ := Lib.hid hq
  clear hq
  go_wp2_with fail
  refine HQ.out.mono ?_
  rintro e' X1 ⟨hr, hb⟩
  obtain ⟨p1, q1, r1, t1, rfl, hs1, hd1⟩ := ret_own (S := ld) (D := d) (E := 0) hr
  obtain ⟨b1, hb1⟩ : ∃ b, X1.heap.size = b := ⟨_, rfl⟩
  have hba : Below X1.heap.size X1 (X1.alloc (.cells #[.slice p1 ld.length q1, .slice r1 d.length t1] 24)) := (Below.refl _ _).alloc (Nat.le_refl _) _
  have hbc := bNext hba hb
  have HO := Lib.hid (HO.out.next hbc)
  have K0 := Lib.hid (K0.out.next hbc)
  have K1 := Lib.hid (KeptR.new (b := b1) hb1 hs1 hd1 HT1.out.i1 HT1.out.i2)
  clear hr hs1 hd1 hb hba hbc HQ x0 x1
  go_upto_region 4 with fail
  refine gen_worldA (fun W => BoxA w W (.slice a0 s.length c0) (.slice a1 d.length c1) ∧ KeptR W b0 (.slice p0 ls.length q0) (.slice r0 s.length t0) ls s ∧ KeptR W b1 (.slice p1 ld.length q1) (.slice r1 d.length t1) ld d) ⟨HO.out, K0.out, K1.out⟩ ?_
  rintro V4 ⟨hHO, hK0, hK1⟩
  clear HO K0 K1
  have HO := Lib.hid hHO
  have K0 := Lib.hid hK0
  have K1 := Lib.hid hK1
  clear hHO hK0 hK1
  go_upto_region 6 with fail
  have y0K0 := K0.out.c0; have y1K0 := K0.out.c1
  have y0K1 := K1.out.c0; have y1K1 := K1.out.c1
  have hq := pd_any V4 37 _ _ _ _ _ _ _ _ K0.out.sv K0.out.su K1.out.sv K1.out.su
  rw [HM2.out] at hq
  have HQ := Lib.hid hq
  clear hq
  go_wp2_with fail
  refine HQ.out.mono ?_
  rintro e' X2 ⟨hr, hb⟩
  obtain ⟨p2, q2, r2, t2, rfl, hs2, hd2⟩ := ret_own (S := s) (D := d) (E := 0) hr
  obtain ⟨b2, hb2⟩ : ∃ b, X2.heap.size = b := ⟨_, rfl⟩
  have hba : Below X2.heap.size X2 (X2.alloc (.cells #[.slice p2 s.length q2, .slice r2 d.length t2] 24)) := (Below.refl _ _).alloc (Nat.le_refl _) _
  have hbc := bNext hba hb
  have HO := Lib.hid (HO.out.next hbc)
  have K0 := Lib.hid (K0.out.next hbc)
  have K1 := Lib.hid (K1.out.next hbc)
  have K2 := Lib.hid (KeptR.new (b := b2) hb2 hs2 hd2 HT2.out.i1 HT2.out.i2)
  clear hr hs2 hd2 hb hba hbc HQ y0K0 y1K0 y0K1 y1K1
  clear K0 K1
  go_upto_region 7 with fail
  refine gen_worldA (fun W => BoxA w W (.slice a0 s.length c0) (.slice a1 d.length c1) ∧ KeptR W b2 (.slice p2 s.length q2) (.slice r2 d.length t2) s d) ⟨HO.out, K2.out⟩ ?_
  rintro V7 ⟨hHO, hK2⟩
  clear HO K2
  have HO := Lib.hid hHO
  have K2 := Lib.hid hK2
  clear hHO hK2
  have x0 := HO.out.c0; have x1 := HO.out.c1
  have y0K2 := K2.out.c0; have y1K2 := K2.out.c1
  have HQ := Lib.hid (same_is K2.out.sv K2.out.su (HS.out.below HO.out.b) (HD.out.below HO.out.b))
  go_wp2_with fail
  refine HQ.out.mono ?_
  rintro e' Z ⟨rfl, hb⟩
  have HO := Lib.hid (HO.out.next hb)
  have K2 := Lib.hid (K2.out.next hb)
  clear HQ hb x0 x1 y0K2 y1K2
  clear K2
  go_upto_region 9 with fail
  refine gen_worldA (fun W => BoxA w W (.slice a0 s.length c0) (.slice a1 d.length c1)) HO.out ?_
  rintro V3 hHO
  clear HO
  have HO := Lib.hid hHO
  clear hHO
  go_cut [12, 11] (fun s12 s11 wx => ∃ b3 p3 q3 r3 t3, s12 = .pointer (some ⟨b3, 0, none⟩) ∧ s11 = .int .i64 er ∧ w.heap.size < b3 ∧ BoxA w wx (.slice a0 s.length c0) (.slice a1 d.length c1) ∧ KeptR wx b3 (.slice p3 0 q3) (.slice r3 0 t3) [] [])
  case first =>
    refine wp_region_Z (S := fun W' => W'.cell? ⟨w.heap.size, 0, none⟩ = some (.slice a0 s.length c0) ∧ W'.cell? ⟨w.heap.size, 1, none⟩ = some (.slice a1 d.length c1)) (z := 9) (by kernel_rfl) ?_
    have hdr : Below V3.heap.size V3 V3.drew := (Below.refl _ _).drew
    have HO := Lib.hid (HO.out.next hdr)
    clear hdr
    generalize V3.drew = Y at HO ⊢
    have hSS : (fun W' : World => W'.cell? ⟨w.heap.size, 0, none⟩ = some (.slice a0 s.length c0) ∧ W'.cell? ⟨w.heap.size, 1, none⟩ = some (.slice a1 d.length c1)) Y := ⟨HO.out.c0, HO.out.c1⟩
    refine wpAnyZ_take (i := 0) (v := ?_) rfl (by kernel_rfl) (by kernel_rfl) (by kernel_rfl) (fun _ _ _ h => h) (by kernel_rfl) (Or.inl ⟨by rfl, ?_⟩) (by assumption) ?_
    rotate_left
    · intro w' hSw
      try dsimp only at hSw
      try obtain ⟨hSw, hSw2⟩ := hSw
      go_simp
      try with_reducible rfl
    show wpAnyZ _ _ _ _ _ _ _ _ (Act.put _ (some 72) _) _
    simp only [Act.put, List.setIfInBounds_toArray, List.set_cons_zero, List.set_cons_succ]
    refine wpAnyZ_take (i := 2) (v := ?_) rfl (by kernel_rfl) (by kernel_rfl) (by kernel_rfl) (fun _ _ _ h => h) (by kernel_rfl) (Or.inl ⟨by rfl, ?_⟩) (by assumption) ?_
    rotate_left
    · intro w' hSw
      try dsimp only at hSw
      try obtain ⟨hSw, hSw2⟩ := hSw
      go_simp
      try with_reducible rfl
    show wpAnyZ _ _ _ _ _ _ _ _ (Act.put _ (some 74) _) _
    simp only [Act.put, List.setIfInBounds_toArray, List.set_cons_zero, List.set_cons_succ]
    clear hSS
    refine wpAnyZ_twoG (i := 1) (j := 7) (by kernel_rfl) rfl rfl (by rfl) (by rfl) (fun K hK => ?_) (fun K hK => ?_)
    · skip
      go_simp
      refine (vec_arg Y a2 c2 t HTL.out).mono ?_
      rintro e' Y1 ⟨a9, c9, rfl, hd9, hb⟩
      have HO := Lib.hid (HO.out.next hb)
      show K _ Y1
      refine hK.out _ _ (.inr ⟨HO.out.c0, HO.out.c1⟩) ?_
      clear hK hb
      refine wpAnyZ_twoG (i := 3) (j := 7) (by kernel_rfl) rfl rfl (by rfl) (by rfl) (fun K hK => ?_) (fun K hK => ?_)
      · skip
        go_simp
        have hq := pd_any Y1 37 _ _ _ _ [(t.length : Int)] t s d hd9 (HT.out.below HO.out.b) (HS.out.below HO.out.b) (HD.out.below HO.out.b)
        rw [HM3.out] at hq
        refine hq.mono ?_
        rintro e' Y2 ⟨hr, hb⟩
        obtain ⟨p3, q3, r3, t3, rfl, hs3, hd3⟩ := ret_own (S := []) (D := []) (E := er) hr
        have HO := Lib.hid (HO.out.next hb)
        show K _ Y2
        refine hK.out _ _ (.inr ⟨HO.out.c0, HO.out.c1⟩) ?_
        clear hK hb hq hr hd9
        have hSS : (fun W' : World => W'.cell? ⟨w.heap.size, 0, none⟩ = some (.slice a0 s.length c0) ∧ W'.cell? ⟨w.heap.size, 1, none⟩ = some (.slice a1 d.length c1)) Y2 := ⟨HO.out.c0, HO.out.c1⟩
        refine wpAnyZ_take (i := 4) (v := ?_) rfl (by kernel_rfl) (by kernel_rfl) (by kernel_rfl) (fun _ _ _ h => h) (by kernel_rfl) (Or.inl ⟨by rfl, ?_⟩) (by assumption) ?_
        rotate_left
        · intro w' hSw
          try dsimp only at hSw
          try obtain ⟨hSw, hSw2⟩ := hSw
          go_simp
          try with_reducible rfl
        show wpAnyZ _ _ _ _ _ _ _ _ (Act.put _ (some 71) _) _
        simp only [Act.put, List.setIfInBounds_toArray, List.set_cons_zero, List.set_cons_succ]
        refine wpAnyZ_take (i := 5) (v := ?_) rfl (by kernel_rfl) (by kernel_rfl) (by kernel_rfl) (fun _ _ _ h => h) (by kernel_rfl) (Or.inl ⟨by rfl, ?_⟩) (by assumption) ?_
        rotate_left
        · intro w' hSw
          try dsimp only at hSw
          try obtain ⟨hSw, hSw2⟩ := hSw
          go_simp
          try with_reducible rfl
        show wpAnyZ _ _ _ _ _ _ _ _ (Act.put _ (some 76) _) _
        simp only [Act.put, List.setIfInBounds_toArray, List.set_cons_zero, List.set_cons_succ]
        refine wpAnyZ_take (i := 6) (v := ?_) rfl (by kernel_rfl) (by kernel_rfl) (by kernel_rfl) (fun _ _ _ h => h) (by kernel_rfl) (Or.inl ⟨by rfl, ?_⟩) (by assumption) ?_
        rotate_left
        · intro w' hSw
          try dsimp only at hSw
          try obtain ⟨hSw, hSw2⟩ := hSw
          go_simp
          try with_reducible rfl
        show wpAnyZ _ _ _ _ _ _ _ _ (Act.put _ (some 77) _) _
        simp only [Act.put, List.setIfInBounds_toArray, List.set_cons_zero, List.set_cons_succ]
        clear hSS
        refine wpAnyZ_oneG (i := 7) (by kernel_rfl) rfl (by rfl) (fun K hK => ?_)
        go_simp
        obtain ⟨b3, hb3⟩ : ∃ b, Y2.heap.size = b := ⟨_, rfl⟩
        have hba : Below Y2.heap.size Y2 (Y2.alloc (.cells #[.slice none 0 0, .slice none 0 0] 24)) := (Below.refl _ _).alloc (Nat.le_refl _) _
        have hbw := HO.out.lt; rw [hb3] at hbw
        have HO := Lib.hid (HO.out.next hba)
        have HB := Lib.hid (Boxed.new hb3)
        have hs3 := hs3.below hba; have hd3 := hd3.below hba
        rw [hb3]
        refine hK.out _ _ (.inr ⟨HO.out.c0, HO.out.c1⟩) ?_
        clear hK hba hb3
        generalize Y2.alloc (.cells #[.slice none 0 0, .slice none 0 0] 24) = Y3 at *
        have g0 := frozen_of_row Y3 b3 0 _ _ HB.out; have g1 := frozen_of_row Y3 b3 1 _ _ HB.out
        have y0 := cell_of_row Y3 b3 0 _ _ _ HB.out; have y1 := cell_of_row Y3 b3 1 _ _ _ HB.out
        refine wpAnyZ_oneG (i := 8) (by kernel_rfl) rfl (by rfl) (fun K hK => ?_)
        go_simp
        refine hK.out _ _ (.inr (by have h := HO.out.put (v' := .slice p3 0 q3) (u' := .slice r3 0 t3) hbw; exact ⟨h.c0, h.c1⟩)) ?_
        clear hK y0 y1 g0 g1
        refine wpAnyZ_one (i := 9) (by kernel_rfl) rfl rfl (fun K hK => ?_)
        go_simp
        refine hK.out _ _ (.inl (by omega)) ?_
        clear hK
        refine wpAnyZ_done (by kernel_rfl) ?_ _
        go_wp2_with fail
        go_meet
        exact ⟨b3, p3, q3, r3, t3, rfl, rfl, hbw, HO.out.put hbw, KeptR.put (v' := .slice none 0 0) (u' := .slice none 0 0) (s' := []) (d' := []) HB.out hs3 hd3 HT3.out.i1 HT3.out.i2⟩
      · skip
        go_simp
        obtain ⟨b3, hb3⟩ : ∃ b, Y1.heap.size = b := ⟨_, rfl⟩
        have hba : Below Y1.heap.size Y1 (Y1.alloc (.cells #[.slice none 0 0, .slice none 0 0] 24)) := (Below.refl _ _).alloc (Nat.le_refl _) _
        have hbw := HO.out.lt; rw [hb3] at hbw
        have HO := Lib.hid (HO.out.next hba)
        have HB := Lib.hid (Boxed.new hb3)
        have hd9 := hd9.below hba
        rw [hb3]
        refine hK.out _ _ (.inr ⟨HO.out.c0, HO.out.c1⟩) ?_
        clear hK hba hb3
        generalize Y1.alloc (.cells #[.slice none 0 0, .slice none 0 0] 24) = Y4 at *
        refine wpAnyZ_oneG (i := 3) (by kernel_rfl) rfl (by rfl) (fun K hK => ?_)
        go_simp
        have hq := pd_any Y4 37 _ _ _ _ [(t.length : Int)] t s d hd9 (HT.out.below HO.out.b) (HS.out.below HO.out.b) (HD.out.below HO.out.b)
        rw [HM3.out] at hq
        refine hq.mono ?_
        rintro e' Y5 ⟨hr, hb⟩
        obtain ⟨p3, q3, r3, t3, rfl, hs3, hd3⟩ := ret_own (S := []) (D := []) (E := er) hr
        have HO := Lib.hid (HO.out.next hb)
        have HB := Lib.hid (HB.out.next hb)
        show K _ Y5
        refine hK.out _ _ (.inr ⟨HO.out.c0, HO.out.c1⟩) ?_
        clear hK hb hq hr hd9
        have hSS : (fun W' : World => W'.cell? ⟨w.heap.size, 0, none⟩ = some (.slice a0 s.length c0) ∧ W'.cell? ⟨w.heap.size, 1, none⟩ = some (.slice a1 d.length c1)) Y5 := ⟨HO.out.c0, HO.out.c1⟩
        refine wpAnyZ_take (i := 4) (v := ?_) rfl (by kernel_rfl) (by kernel_rfl) (by kernel_rfl) (fun _ _ _ h => h) (by kernel_rfl) (Or.inl ⟨by rfl, ?_⟩) (by assumption) ?_
        rotate_left
        · intro w' hSw
          try dsimp only at hSw
          try obtain ⟨hSw, hSw2⟩ := hSw
          go_simp
          try with_reducible rfl
        show wpAnyZ _ _ _ _ _ _ _ _ (Act.put _ (some 71) _) _
        simp only [Act.put, List.setIfInBounds_toArray, List.set_cons_zero, List.set_cons_succ]
        refine wpAnyZ_take (i := 5) (v := ?_) rfl (by kernel_rfl) (by kernel_rfl) (by kernel_rfl) (fun _ _ _ h => h) (by kernel_rfl) (Or.inl ⟨by rfl, ?_⟩) (by assumption) ?_
        rotate_left
        · intro w' hSw
          try dsimp only at hSw
          try obtain ⟨hSw, hSw2⟩ := hSw
          go_simp
          try with_reducible rfl
        show wpAnyZ _ _ _ _ _ _ _ _ (Act.put _ (some 76) _) _
        simp only [Act.put, List.setIfInBounds_toArray, List.set_cons_zero, List.set_cons_succ]
        refine wpAnyZ_take (i := 6) (v := ?_) rfl (by kernel_rfl) (by kernel_rfl) (by kernel_rfl) (fun _ _ _ h => h) (by kernel_rfl) (Or.inl ⟨by rfl, ?_⟩) (by assumption) ?_
        rotate_left
        · intro w' hSw
          try dsimp only at hSw
          try obtain ⟨hSw, hSw2⟩ := hSw
          go_simp
          try with_reducible rfl
        show wpAnyZ _ _ _ _ _ _ _ _ (Act.put _ (some 77) _) _
        simp only [Act.put, List.setIfInBounds_toArray, List.set_cons_zero, List.set_cons_succ]
        clear hSS
        have g0 := frozen_of_row Y5 b3 0 _ _ HB.out; have g1 := frozen_of_row Y5 b3 1 _ _ HB.out
        have y0 := cell_of_row Y5 b3 0 _ _ _ HB.out; have y1 := cell_of_row Y5 b3 1 _ _ _ HB.out
        refine wpAnyZ_oneG (i := 8) (by kernel_rfl) rfl (by rfl) (fun K hK => ?_)
        go_simp
        refine hK.out _ _ (.inr (by have h := HO.out.put (v' := .slice p3 0 q3) (u' := .slice r3 0 t3) hbw; exact ⟨h.c0, h.c1⟩)) ?_
        clear hK y0 y1 g0 g1
        refine wpAnyZ_one (i := 9) (by kernel_rfl) rfl rfl (fun K hK => ?_)
        go_simp
        refine hK.out _ _ (.inl (by omega)) ?_
        clear hK
        refine wpAnyZ_done (by kernel_rfl) ?_ _
        go_wp2_with fail
        go_meet
        exact ⟨b3, p3, q3, r3, t3, rfl, rfl, hbw, HO.out.put hbw, KeptR.put (v' := .slice none 0 0) (u' := .slice none 0 0) (s' := []) (d' := []) HB.out hs3 hd3 HT3.out.i1 HT3.out.i2⟩
    · skip
      go_simp
      obtain ⟨b3, hb3⟩ : ∃ b, Y.heap.size = b := ⟨_, rfl⟩
      have hba : Below Y.heap.size Y (Y.alloc (.cells #[.slice none 0 0, .slice none 0 0] 24)) := (Below.refl _ _).alloc (Nat.le_refl _) _
      have hbw := HO.out.lt; rw [hb3] at hbw
      have HO := Lib.hid (HO.out.next hba)
      have HB := Lib.hid (Boxed.new hb3)
      rw [hb3]
      refine hK.out _ _ (.inr ⟨HO.out.c0, HO.out.c1⟩) ?_
      clear hK hba hb3
      generalize Y.alloc (.cells #[.slice none 0 0, .slice none 0 0] 24) = Y6 at *
      refine wpAnyZ_oneG (i := 1) (by kernel_rfl) rfl (by rfl) (fun K hK => ?_)
      go_simp
      refine (vec_arg Y6 a2 c2 t HTL.out).mono ?_
      rintro e' Y7 ⟨a9, c9, rfl, hd9, hb⟩
      have HO := Lib.hid (HO.out.next hb)
      have HB := Lib.hid (HB.out.next hb)
      show K _ Y7
      refine hK.out _ _ (.inr ⟨HO.out.c0, HO.out.c1⟩) ?_
      clear hK hb
      refine wpAnyZ_oneG (i := 3) (by kernel_rfl) rfl (by rfl) (fun K hK => ?_)
      go_simp
      have hq := pd_any Y7 37 _ _ _ _ [(t.length : Int)] t s d hd9 (HT.out.below HO.out.b) (HS.out.below HO.out.b) (HD.out.below HO.out.b)
      rw [HM3.out] at hq
      refine hq.mono ?_
      rintro e' Y8 ⟨hr, hb⟩
      obtain ⟨p3, q3, r3, t3, rfl, hs3, hd3⟩ := ret_own (S := []) (D := []) (E := er) hr
      have HO := Lib.hid (HO.out.next hb)
      have HB := Lib.hid (HB.out.next hb)
      show K _ Y8
      refine hK.out _ _ (.inr ⟨HO.out.c0, HO.out.c1⟩) ?_
      clear hK hb hq hr hd9
      have hSS : (fun W' : World => W'.cell? ⟨w.heap.size, 0, none⟩ = some (.slice a0 s.length c0) ∧ W'.cell? ⟨w.heap.size, 1, none⟩ = some (.slice a1 d.length c1)) Y8 := ⟨HO.out.c0, HO.out.c1⟩
      refine wpAnyZ_take (i := 4) (v := ?_) rfl (by kernel_rfl) (by kernel_rfl) (by kernel_rfl) (fun _ _ _ h => h) (by kernel_rfl) (Or.inl ⟨by rfl, ?_⟩) (by assumption) ?_
      rotate_left
      · intro w' hSw
        try dsimp only at hSw
        try obtain ⟨hSw, hSw2⟩ := hSw
        go_simp
        try with_reducible rfl
      show wpAnyZ _ _ _ _ _ _ _ _ (Act.put _ (some 71) _) _
      simp only [Act.put, List.setIfInBounds_toArray, List.set_cons_zero, List.set_cons_succ]
      refine wpAnyZ_take (i := 5) (v := ?_) rfl (by kernel_rfl) (by kernel_rfl) (by kernel_rfl) (fun _ _ _ h => h) (by kernel_rfl) (Or.inl ⟨by rfl, ?_⟩) (by assumption) ?_
      rotate_left
      · intro w' hSw
        try dsimp only at hSw
        try obtain ⟨hSw, hSw2⟩ := hSw
        go_simp
        try with_reducible rfl
      show wpAnyZ _ _ _ _ _ _ _ _ (Act.put _ (some 76) _) _
      simp only [Act.put, List.setIfInBounds_toArray, List.set_cons_zero, List.set_cons_succ]
      refine wpAnyZ_take (i := 6) (v := ?_) rfl (by kernel_rfl) (by kernel_rfl) (by kernel_rfl) (fun _ _ _ h => h) (by kernel_rfl) (Or.inl ⟨by rfl, ?_⟩) (by assumption) ?_
      rotate_left
      · intro w' hSw
        try dsimp only at hSw
        try obtain ⟨hSw, hSw2⟩ := hSw
        go_simp
        try with_reducible rfl
      show wpAnyZ _ _ _ _ _ _ _ _ (Act.put _ (some 77) _) _
      simp only [Act.put, List.setIfInBounds_toArray, List.set_cons_zero, List.set_cons_succ]
      clear hSS
      have g0 := frozen_of_row Y8 b3 0 _ _ HB.out; have g1 := frozen_of_row Y8 b3 1 _ _ HB.out
      have y0 := cell_of_row Y8 b3 0 _ _ _ HB.out; have y1 := cell_of_row Y8 b3 1 _ _ _ HB.out
      refine wpAnyZ_oneG (i := 8) (by kernel_rfl) rfl (by rfl) (fun K hK => ?_)
      go_simp
      refine hK.out _ _ (.inr (by have h := HO.out.put (v' := .slice p3 0 q3) (u' := .slice r3 0 t3) hbw; exact ⟨h.c0, h.c1⟩)) ?_
      clear hK y0 y1 g0 g1
      refine wpAnyZ_one (i := 9) (by kernel_rfl) rfl rfl (fun K hK => ?_)
      go_simp
      refine hK.out _ _ (.inl (by omega)) ?_
      clear hK
      refine wpAnyZ_done (by kernel_rfl) ?_ _
      go_wp2_with fail
      go_meet
      exact ⟨b3, p3, q3, r3, t3, rfl, rfl, hbw, HO.out.put hbw, KeptR.put (v' := .slice none 0 0) (u' := .slice none 0 0) (s' := []) (d' := []) HB.out hs3 hd3 HT3.out.i1 HT3.out.i2⟩
  case rest =>
    clear HO
    obtain ⟨b3, p3, q3, r3, t3, rfl, rfl, hbw3, hHO, hK3⟩ := hcut
    have HO := Lib.hid hHO
    have K3 := Lib.hid hK3
    clear hHO hK3
    have y0K3 := K3.out.c0; have y1K3 := K3.out.c1
    go_wp2_with fail
    go_ret
    exact ⟨rfl, HO.out.b⟩
set_option maxHeartbeats 16000000 in
theorem PrimRavels_ok (w : World) (va vb : Value) (s d : List Int) (vc : Value) (t : List Int) (hs : SlA w va s) (hd : SlA w vb d) (ht : SlA w vc t) (hr : right s d = true) (h4 : t.length ≤ 4) (n : Nat) (hn : n ≤ 65536) (hpos : 0 < n → 0 < d.length) (h5 : dyadA 37 [(t.length : Int)] t s d = okA t (roundL d n)) (hr2 : right t (roundL d n) = true) :
    Calls Try.prog 9 #[.agg #[va, vb], vc] w fun e w' => e = .returned (.bool true) ∧ Below w.heap.size w w' := by
  have HS := Lib.hid hs; have HD := Lib.hid hd; have HT := Lib.hid ht
  have HT0 := Lib.hid (Rt.okA (shape_in hr) (side_in hr)); have HT1 := Lib.hid (Rt.okA (right_one rfl (right_len hr)) (in_of hd)); have HT2 := Lib.hid (Rt.okA hr (in_of hd))
  have HR := Lib.hid hr
  have HM0 := Lib.hid (mon_shape hr); have HM1 := Lib.hid (mon_ravel hr); have HM2 := Lib.hid (rho_back hr)
  unfold okA at HM0 HM1 HM2 HT0 HT1 HT2
  obtain ⟨ls, hls⟩ : ∃ l : List Int, [(s.length : Int)] = l := ⟨_, rfl⟩
  obtain ⟨ld, hld⟩ : ∃ l : List Int, [(d.length : Int)] = l := ⟨_, rfl⟩
  rw [hls] at HM0 HM2 HT0; rw [hld] at HM1 HM2 HT1
  have hbig1 : ¬ (4 : Int) < (t.length : Int) := by omega
  have HTL := Lib.hid ht.le
  have HT3 := Lib.hid (h5 ▸ dyadA_rt 37 (s := [(t.length : Int)]) (t := s) (in_of ht) (in_of hd))
  have HDL := Lib.hid (right_len hr)
  unfold okA at h5 HT3
  have HM3 := Lib.hid h5; have HR2 := Lib.hid hr2; have HP := Lib.hid hpos
  have HXL := Lib.hid (roundL_len d n)
  have HXG := Lib.hid (fun k (hk : k < n) => show (roundL d n).getD k 0 = d.getD (k % d.length) 0 by unfold roundL; rw [List.getD_eq_getElem?_getD, List.getElem?_map, List.getElem?_range hk]; rfl)
  obtain ⟨X, hX⟩ : ∃ X, roundL d n = X := ⟨_, rfl⟩
  rw [hX] at HM3 HT3 HR2 HXL HXG
  obtain ⟨a0, c0, rfl, -⟩ := hs
  obtain ⟨a1, c1, rfl, -⟩ := hd
  obtain ⟨a2, c2, rfl, -⟩ := ht
  clear hr hls hld h4 h5 hr2 hpos hX
  go_enter Try.func9, Try.ntmps9
  go_upto_region 1 with fail
  refine gen_worldA (fun W => BoxA w W (.slice a0 s.length c0) (.slice a1 d.length c1)) (BoxA.mk0 _ _ _) ?_
  rintro W hO
  have HO := Lib.hid hO
  clear hO
  go_wp2_with fail
  refine (shown_any _).mono ?_
  rintro e' V0 ⟨rfl, hb⟩
  have HO := Lib.hid (HO.out.next hb)
  clear hb
  go_upto_region 2 with fail
  refine gen_worldA (fun W => BoxA w W (.slice a0 s.length c0) (.slice a1 d.length c1)) HO.out ?_
  rintro V1 hHO
  clear HO
  have HO := Lib.hid hHO
  clear hHO
  have x0 := HO.out.c0; have x1 := HO.out.c1
  have hq := pm_any V1 33 _ _ s d (HS.out.below HO.out.b) (HD.out.below HO.out.b)
  rw [HM0.out] at hq
  have HQ := Lib.hid hq
  clear hq
  go_wp2_with fail
  refine HQ.out.mono ?_
  rintro e' X0 ⟨hr, hb⟩
  obtain ⟨p0, q0, r0, t0, rfl, hs0, hd0⟩ := ret_own (S := ls) (D := s) (E := 0) hr
  obtain ⟨b0, hb0⟩ : ∃ b, X0.heap.size = b := ⟨_, rfl⟩
  have hba : Below X0.heap.size X0 (X0.alloc (.cells #[.slice p0 ls.length q0, .slice r0 s.length t0] 24)) := (Below.refl _ _).alloc (Nat.le_refl _) _
  have hbc := bNext hba hb
  have HO := Lib.hid (HO.out.next hbc)
  have K0 := Lib.hid (KeptR.new (b := b0) hb0 hs0 hd0 HT0.out.i1 HT0.out.i2)
  clear hr hs0 hd0 hb hba hbc HQ x0 x1
  go_upto_region 3 with fail
  refine gen_worldA (fun W => BoxA w W (.slice a0 s.length c0) (.slice a1 d.length c1) ∧ KeptR W b0 (.slice p0 ls.length q0) (.slice r0 s.length t0) ls s) ⟨HO.out, K0.out⟩ ?_
  rintro V3 ⟨hHO, hK0⟩
  clear HO K0
  have HO := Lib.hid hHO
  have K0 := Lib.hid hK0
  clear hHO hK0
  have x0 := HO.out.c0; have x1 := HO.out.c1
  have hq := pm_any V3 34 _ _ s d (HS.out.below HO.out.b) (HD.out.below HO.out.b)
  rw [HM1.out] at hq
  have HQ := Lib.hid hq
  clear hq
  go_wp2_with fail
  refine HQ.out.mono ?_
  rintro e' X1 ⟨hr, hb⟩
  obtain ⟨p1, q1, r1, t1, rfl, hs1, hd1⟩ := ret_own (S := ld) (D := d) (E := 0) hr
  obtain ⟨b1, hb1⟩ : ∃ b, X1.heap.size = b := ⟨_, rfl⟩
  have hba : Below X1.heap.size X1 (X1.alloc (.cells #[.slice p1 ld.length q1, .slice r1 d.length t1] 24)) := (Below.refl _ _).alloc (Nat.le_refl _) _
  have hbc := bNext hba hb
  have HO := Lib.hid (HO.out.next hbc)
  have K0 := Lib.hid (K0.out.next hbc)
  have K1 := Lib.hid (KeptR.new (b := b1) hb1 hs1 hd1 HT1.out.i1 HT1.out.i2)
  clear hr hs1 hd1 hb hba hbc HQ x0 x1
  go_upto_region 4 with fail
  refine gen_worldA (fun W => BoxA w W (.slice a0 s.length c0) (.slice a1 d.length c1) ∧ KeptR W b0 (.slice p0 ls.length q0) (.slice r0 s.length t0) ls s ∧ KeptR W b1 (.slice p1 ld.length q1) (.slice r1 d.length t1) ld d) ⟨HO.out, K0.out, K1.out⟩ ?_
  rintro V4 ⟨hHO, hK0, hK1⟩
  clear HO K0 K1
  have HO := Lib.hid hHO
  have K0 := Lib.hid hK0
  have K1 := Lib.hid hK1
  clear hHO hK0 hK1
  go_upto_region 6 with fail
  have y0K0 := K0.out.c0; have y1K0 := K0.out.c1
  have y0K1 := K1.out.c0; have y1K1 := K1.out.c1
  have hq := pd_any V4 37 _ _ _ _ _ _ _ _ K0.out.sv K0.out.su K1.out.sv K1.out.su
  rw [HM2.out] at hq
  have HQ := Lib.hid hq
  clear hq
  go_wp2_with fail
  refine HQ.out.mono ?_
  rintro e' X2 ⟨hr, hb⟩
  obtain ⟨p2, q2, r2, t2, rfl, hs2, hd2⟩ := ret_own (S := s) (D := d) (E := 0) hr
  obtain ⟨b2, hb2⟩ : ∃ b, X2.heap.size = b := ⟨_, rfl⟩
  have hba : Below X2.heap.size X2 (X2.alloc (.cells #[.slice p2 s.length q2, .slice r2 d.length t2] 24)) := (Below.refl _ _).alloc (Nat.le_refl _) _
  have hbc := bNext hba hb
  have HO := Lib.hid (HO.out.next hbc)
  have K0 := Lib.hid (K0.out.next hbc)
  have K1 := Lib.hid (K1.out.next hbc)
  have K2 := Lib.hid (KeptR.new (b := b2) hb2 hs2 hd2 HT2.out.i1 HT2.out.i2)
  clear hr hs2 hd2 hb hba hbc HQ y0K0 y1K0 y0K1 y1K1
  clear K0 K1
  go_upto_region 7 with fail
  refine gen_worldA (fun W => BoxA w W (.slice a0 s.length c0) (.slice a1 d.length c1) ∧ KeptR W b2 (.slice p2 s.length q2) (.slice r2 d.length t2) s d) ⟨HO.out, K2.out⟩ ?_
  rintro V7 ⟨hHO, hK2⟩
  clear HO K2
  have HO := Lib.hid hHO
  have K2 := Lib.hid hK2
  clear hHO hK2
  have x0 := HO.out.c0; have x1 := HO.out.c1
  have y0K2 := K2.out.c0; have y1K2 := K2.out.c1
  have HQ := Lib.hid (same_is K2.out.sv K2.out.su (HS.out.below HO.out.b) (HD.out.below HO.out.b))
  go_wp2_with fail
  refine HQ.out.mono ?_
  rintro e' Z ⟨rfl, hb⟩
  have HO := Lib.hid (HO.out.next hb)
  have K2 := Lib.hid (K2.out.next hb)
  clear HQ hb x0 x1 y0K2 y1K2
  clear K2
  go_upto_region 9 with fail
  refine gen_worldA (fun W => BoxA w W (.slice a0 s.length c0) (.slice a1 d.length c1)) HO.out ?_
  rintro V3 hHO
  clear HO
  have HO := Lib.hid hHO
  clear hHO
  go_cut [12, 11] (fun s12 s11 wx => ∃ b3 p3 q3 r3 t3, s12 = .pointer (some ⟨b3, 0, none⟩) ∧ s11 = .int .i64 0 ∧ w.heap.size < b3 ∧ BoxA w wx (.slice a0 s.length c0) (.slice a1 d.length c1) ∧ KeptR wx b3 (.slice p3 t.length q3) (.slice r3 X.length t3) t X)
  case first =>
    refine wp_region_Z (S := fun W' => W'.cell? ⟨w.heap.size, 0, none⟩ = some (.slice a0 s.length c0) ∧ W'.cell? ⟨w.heap.size, 1, none⟩ = some (.slice a1 d.length c1)) (z := 9) (by kernel_rfl) ?_
    have hdr : Below V3.heap.size V3 V3.drew := (Below.refl _ _).drew
    have HO := Lib.hid (HO.out.next hdr)
    clear hdr
    generalize V3.drew = Y at HO ⊢
    have hSS : (fun W' : World => W'.cell? ⟨w.heap.size, 0, none⟩ = some (.slice a0 s.length c0) ∧ W'.cell? ⟨w.heap.size, 1, none⟩ = some (.slice a1 d.length c1)) Y := ⟨HO.out.c0, HO.out.c1⟩
    refine wpAnyZ_take (i := 0) (v := ?_) rfl (by kernel_rfl) (by kernel_rfl) (by kernel_rfl) (fun _ _ _ h => h) (by kernel_rfl) (Or.inl ⟨by rfl, ?_⟩) (by assumption) ?_
    rotate_left
    · intro w' hSw
      try dsimp only at hSw
      try obtain ⟨hSw, hSw2⟩ := hSw
      go_simp
      try with_reducible rfl
    show wpAnyZ _ _ _ _ _ _ _ _ (Act.put _ (some 72) _) _
    simp only [Act.put, List.setIfInBounds_toArray, List.set_cons_zero, List.set_cons_succ]
    refine wpAnyZ_take (i := 2) (v := ?_) rfl (by kernel_rfl) (by kernel_rfl) (by kernel_rfl) (fun _ _ _ h => h) (by kernel_rfl) (Or.inl ⟨by rfl, ?_⟩) (by assumption) ?_
    rotate_left
    · intro w' hSw
      try dsimp only at hSw
      try obtain ⟨hSw, hSw2⟩ := hSw
      go_simp
      try with_reducible rfl
    show wpAnyZ _ _ _ _ _ _ _ _ (Act.put _ (some 74) _) _
    simp only [Act.put, List.setIfInBounds_toArray, List.set_cons_zero, List.set_cons_succ]
    clear hSS
    refine wpAnyZ_twoG (i := 1) (j := 7) (by kernel_rfl) rfl rfl (by rfl) (by rfl) (fun K hK => ?_) (fun K hK => ?_)
    · skip
      go_simp
      refine (vec_arg Y a2 c2 t HTL.out).mono ?_
      rintro e' Y1 ⟨a9, c9, rfl, hd9, hb⟩
      have HO := Lib.hid (HO.out.next hb)
      show K _ Y1
      refine hK.out _ _ (.inr ⟨HO.out.c0, HO.out.c1⟩) ?_
      clear hK hb
      refine wpAnyZ_twoG (i := 3) (j := 7) (by kernel_rfl) rfl rfl (by rfl) (by rfl) (fun K hK => ?_) (fun K hK => ?_)
      · skip
        go_simp
        have hq := pd_any Y1 37 _ _ _ _ [(t.length : Int)] t s d hd9 (HT.out.below HO.out.b) (HS.out.below HO.out.b) (HD.out.below HO.out.b)
        rw [HM3.out] at hq
        refine hq.mono ?_
        rintro e' Y2 ⟨hr, hb⟩
        obtain ⟨p3, q3, r3, t3, rfl, hs3, hd3⟩ := ret_own (S := t) (D := X) (E := 0) hr
        have HO := Lib.hid (HO.out.next hb)
        show K _ Y2
        refine hK.out _ _ (.inr ⟨HO.out.c0, HO.out.c1⟩) ?_
        clear hK hb hq hr hd9
        have hSS : (fun W' : World => W'.cell? ⟨w.heap.size, 0, none⟩ = some (.slice a0 s.length c0) ∧ W'.cell? ⟨w.heap.size, 1, none⟩ = some (.slice a1 d.length c1)) Y2 := ⟨HO.out.c0, HO.out.c1⟩
        refine wpAnyZ_take (i := 4) (v := ?_) rfl (by kernel_rfl) (by kernel_rfl) (by kernel_rfl) (fun _ _ _ h => h) (by kernel_rfl) (Or.inl ⟨by rfl, ?_⟩) (by assumption) ?_
        rotate_left
        · intro w' hSw
          try dsimp only at hSw
          try obtain ⟨hSw, hSw2⟩ := hSw
          go_simp
          try with_reducible rfl
        show wpAnyZ _ _ _ _ _ _ _ _ (Act.put _ (some 71) _) _
        simp only [Act.put, List.setIfInBounds_toArray, List.set_cons_zero, List.set_cons_succ]
        refine wpAnyZ_take (i := 5) (v := ?_) rfl (by kernel_rfl) (by kernel_rfl) (by kernel_rfl) (fun _ _ _ h => h) (by kernel_rfl) (Or.inl ⟨by rfl, ?_⟩) (by assumption) ?_
        rotate_left
        · intro w' hSw
          try dsimp only at hSw
          try obtain ⟨hSw, hSw2⟩ := hSw
          go_simp
          try with_reducible rfl
        show wpAnyZ _ _ _ _ _ _ _ _ (Act.put _ (some 76) _) _
        simp only [Act.put, List.setIfInBounds_toArray, List.set_cons_zero, List.set_cons_succ]
        refine wpAnyZ_take (i := 6) (v := ?_) rfl (by kernel_rfl) (by kernel_rfl) (by kernel_rfl) (fun _ _ _ h => h) (by kernel_rfl) (Or.inl ⟨by rfl, ?_⟩) (by assumption) ?_
        rotate_left
        · intro w' hSw
          try dsimp only at hSw
          try obtain ⟨hSw, hSw2⟩ := hSw
          go_simp
          try with_reducible rfl
        show wpAnyZ _ _ _ _ _ _ _ _ (Act.put _ (some 77) _) _
        simp only [Act.put, List.setIfInBounds_toArray, List.set_cons_zero, List.set_cons_succ]
        clear hSS
        refine wpAnyZ_oneG (i := 7) (by kernel_rfl) rfl (by rfl) (fun K hK => ?_)
        go_simp
        obtain ⟨b3, hb3⟩ : ∃ b, Y2.heap.size = b := ⟨_, rfl⟩
        have hba : Below Y2.heap.size Y2 (Y2.alloc (.cells #[.slice none 0 0, .slice none 0 0] 24)) := (Below.refl _ _).alloc (Nat.le_refl _) _
        have hbw := HO.out.lt; rw [hb3] at hbw
        have HO := Lib.hid (HO.out.next hba)
        have HB := Lib.hid (Boxed.new hb3)
        have hs3 := hs3.below hba; have hd3 := hd3.below hba
        rw [hb3]
        refine hK.out _ _ (.inr ⟨HO.out.c0, HO.out.c1⟩) ?_
        clear hK hba hb3
        generalize Y2.alloc (.cells #[.slice none 0 0, .slice none 0 0] 24) = Y3 at *
        have g0 := frozen_of_row Y3 b3 0 _ _ HB.out; have g1 := frozen_of_row Y3 b3 1 _ _ HB.out
        have y0 := cell_of_row Y3 b3 0 _ _ _ HB.out; have y1 := cell_of_row Y3 b3 1 _ _ _ HB.out
        refine wpAnyZ_oneG (i := 8) (by kernel_rfl) rfl (by rfl) (fun K hK => ?_)
        go_simp
        refine hK.out _ _ (.inr (by have h := HO.out.put (v' := .slice p3 t.length q3) (u' := .slice r3 X.length t3) hbw; exact ⟨h.c0, h.c1⟩)) ?_
        clear hK y0 y1 g0 g1
        refine wpAnyZ_one (i := 9) (by kernel_rfl) rfl rfl (fun K hK => ?_)
        go_simp
        refine hK.out _ _ (.inl (by omega)) ?_
        clear hK
        refine wpAnyZ_done (by kernel_rfl) ?_ _
        go_wp2_with fail
        go_meet
        exact ⟨b3, p3, q3, r3, t3, rfl, rfl, hbw, HO.out.put hbw, KeptR.put (v' := .slice none 0 0) (u' := .slice none 0 0) (s' := []) (d' := []) HB.out hs3 hd3 HT3.out.i1 HT3.out.i2⟩
      · skip
        go_simp
        obtain ⟨b3, hb3⟩ : ∃ b, Y1.heap.size = b := ⟨_, rfl⟩
        have hba : Below Y1.heap.size Y1 (Y1.alloc (.cells #[.slice none 0 0, .slice none 0 0] 24)) := (Below.refl _ _).alloc (Nat.le_refl _) _
        have hbw := HO.out.lt; rw [hb3] at hbw
        have HO := Lib.hid (HO.out.next hba)
        have HB := Lib.hid (Boxed.new hb3)
        have hd9 := hd9.below hba
        rw [hb3]
        refine hK.out _ _ (.inr ⟨HO.out.c0, HO.out.c1⟩) ?_
        clear hK hba hb3
        generalize Y1.alloc (.cells #[.slice none 0 0, .slice none 0 0] 24) = Y4 at *
        refine wpAnyZ_oneG (i := 3) (by kernel_rfl) rfl (by rfl) (fun K hK => ?_)
        go_simp
        have hq := pd_any Y4 37 _ _ _ _ [(t.length : Int)] t s d hd9 (HT.out.below HO.out.b) (HS.out.below HO.out.b) (HD.out.below HO.out.b)
        rw [HM3.out] at hq
        refine hq.mono ?_
        rintro e' Y5 ⟨hr, hb⟩
        obtain ⟨p3, q3, r3, t3, rfl, hs3, hd3⟩ := ret_own (S := t) (D := X) (E := 0) hr
        have HO := Lib.hid (HO.out.next hb)
        have HB := Lib.hid (HB.out.next hb)
        show K _ Y5
        refine hK.out _ _ (.inr ⟨HO.out.c0, HO.out.c1⟩) ?_
        clear hK hb hq hr hd9
        have hSS : (fun W' : World => W'.cell? ⟨w.heap.size, 0, none⟩ = some (.slice a0 s.length c0) ∧ W'.cell? ⟨w.heap.size, 1, none⟩ = some (.slice a1 d.length c1)) Y5 := ⟨HO.out.c0, HO.out.c1⟩
        refine wpAnyZ_take (i := 4) (v := ?_) rfl (by kernel_rfl) (by kernel_rfl) (by kernel_rfl) (fun _ _ _ h => h) (by kernel_rfl) (Or.inl ⟨by rfl, ?_⟩) (by assumption) ?_
        rotate_left
        · intro w' hSw
          try dsimp only at hSw
          try obtain ⟨hSw, hSw2⟩ := hSw
          go_simp
          try with_reducible rfl
        show wpAnyZ _ _ _ _ _ _ _ _ (Act.put _ (some 71) _) _
        simp only [Act.put, List.setIfInBounds_toArray, List.set_cons_zero, List.set_cons_succ]
        refine wpAnyZ_take (i := 5) (v := ?_) rfl (by kernel_rfl) (by kernel_rfl) (by kernel_rfl) (fun _ _ _ h => h) (by kernel_rfl) (Or.inl ⟨by rfl, ?_⟩) (by assumption) ?_
        rotate_left
        · intro w' hSw
          try dsimp only at hSw
          try obtain ⟨hSw, hSw2⟩ := hSw
          go_simp
          try with_reducible rfl
        show wpAnyZ _ _ _ _ _ _ _ _ (Act.put _ (some 76) _) _
        simp only [Act.put, List.setIfInBounds_toArray, List.set_cons_zero, List.set_cons_succ]
        refine wpAnyZ_take (i := 6) (v := ?_) rfl (by kernel_rfl) (by kernel_rfl) (by kernel_rfl) (fun _ _ _ h => h) (by kernel_rfl) (Or.inl ⟨by rfl, ?_⟩) (by assumption) ?_
        rotate_left
        · intro w' hSw
          try dsimp only at hSw
          try obtain ⟨hSw, hSw2⟩ := hSw
          go_simp
          try with_reducible rfl
        show wpAnyZ _ _ _ _ _ _ _ _ (Act.put _ (some 77) _) _
        simp only [Act.put, List.setIfInBounds_toArray, List.set_cons_zero, List.set_cons_succ]
        clear hSS
        have g0 := frozen_of_row Y5 b3 0 _ _ HB.out; have g1 := frozen_of_row Y5 b3 1 _ _ HB.out
        have y0 := cell_of_row Y5 b3 0 _ _ _ HB.out; have y1 := cell_of_row Y5 b3 1 _ _ _ HB.out
        refine wpAnyZ_oneG (i := 8) (by kernel_rfl) rfl (by rfl) (fun K hK => ?_)
        go_simp
        refine hK.out _ _ (.inr (by have h := HO.out.put (v' := .slice p3 t.length q3) (u' := .slice r3 X.length t3) hbw; exact ⟨h.c0, h.c1⟩)) ?_
        clear hK y0 y1 g0 g1
        refine wpAnyZ_one (i := 9) (by kernel_rfl) rfl rfl (fun K hK => ?_)
        go_simp
        refine hK.out _ _ (.inl (by omega)) ?_
        clear hK
        refine wpAnyZ_done (by kernel_rfl) ?_ _
        go_wp2_with fail
        go_meet
        exact ⟨b3, p3, q3, r3, t3, rfl, rfl, hbw, HO.out.put hbw, KeptR.put (v' := .slice none 0 0) (u' := .slice none 0 0) (s' := []) (d' := []) HB.out hs3 hd3 HT3.out.i1 HT3.out.i2⟩
    · skip
      go_simp
      obtain ⟨b3, hb3⟩ : ∃ b, Y.heap.size = b := ⟨_, rfl⟩
      have hba : Below Y.heap.size Y (Y.alloc (.cells #[.slice none 0 0, .slice none 0 0] 24)) := (Below.refl _ _).alloc (Nat.le_refl _) _
      have hbw := HO.out.lt; rw [hb3] at hbw
      have HO := Lib.hid (HO.out.next hba)
      have HB := Lib.hid (Boxed.new hb3)
      rw [hb3]
      refine hK.out _ _ (.inr ⟨HO.out.c0, HO.out.c1⟩) ?_
      clear hK hba hb3
      generalize Y.alloc (.cells #[.slice none 0 0, .slice none 0 0] 24) = Y6 at *
      refine wpAnyZ_oneG (i := 1) (by kernel_rfl) rfl (by rfl) (fun K hK => ?_)
      go_simp
      refine (vec_arg Y6 a2 c2 t HTL.out).mono ?_
      rintro e' Y7 ⟨a9, c9, rfl, hd9, hb⟩
      have HO := Lib.hid (HO.out.next hb)
      have HB := Lib.hid (HB.out.next hb)
      show K _ Y7
      refine hK.out _ _ (.inr ⟨HO.out.c0, HO.out.c1⟩) ?_
      clear hK hb
      refine wpAnyZ_oneG (i := 3) (by kernel_rfl) rfl (by rfl) (fun K hK => ?_)
      go_simp
      have hq := pd_any Y7 37 _ _ _ _ [(t.length : Int)] t s d hd9 (HT.out.below HO.out.b) (HS.out.below HO.out.b) (HD.out.below HO.out.b)
      rw [HM3.out] at hq
      refine hq.mono ?_
      rintro e' Y8 ⟨hr, hb⟩
      obtain ⟨p3, q3, r3, t3, rfl, hs3, hd3⟩ := ret_own (S := t) (D := X) (E := 0) hr
      have HO := Lib.hid (HO.out.next hb)
      have HB := Lib.hid (HB.out.next hb)
      show K _ Y8
      refine hK.out _ _ (.inr ⟨HO.out.c0, HO.out.c1⟩) ?_
      clear hK hb hq hr hd9
      have hSS : (fun W' : World => W'.cell? ⟨w.heap.size, 0, none⟩ = some (.slice a0 s.length c0) ∧ W'.cell? ⟨w.heap.size, 1, none⟩ = some (.slice a1 d.length c1)) Y8 := ⟨HO.out.c0, HO.out.c1⟩
      refine wpAnyZ_take (i := 4) (v := ?_) rfl (by kernel_rfl) (by kernel_rfl) (by kernel_rfl) (fun _ _ _ h => h) (by kernel_rfl) (Or.inl ⟨by rfl, ?_⟩) (by assumption) ?_
      rotate_left
      · intro w' hSw
        try dsimp only at hSw
        try obtain ⟨hSw, hSw2⟩ := hSw
        go_simp
        try with_reducible rfl
      show wpAnyZ _ _ _ _ _ _ _ _ (Act.put _ (some 71) _) _
      simp only [Act.put, List.setIfInBounds_toArray, List.set_cons_zero, List.set_cons_succ]
      refine wpAnyZ_take (i := 5) (v := ?_) rfl (by kernel_rfl) (by kernel_rfl) (by kernel_rfl) (fun _ _ _ h => h) (by kernel_rfl) (Or.inl ⟨by rfl, ?_⟩) (by assumption) ?_
      rotate_left
      · intro w' hSw
        try dsimp only at hSw
        try obtain ⟨hSw, hSw2⟩ := hSw
        go_simp
        try with_reducible rfl
      show wpAnyZ _ _ _ _ _ _ _ _ (Act.put _ (some 76) _) _
      simp only [Act.put, List.setIfInBounds_toArray, List.set_cons_zero, List.set_cons_succ]
      refine wpAnyZ_take (i := 6) (v := ?_) rfl (by kernel_rfl) (by kernel_rfl) (by kernel_rfl) (fun _ _ _ h => h) (by kernel_rfl) (Or.inl ⟨by rfl, ?_⟩) (by assumption) ?_
      rotate_left
      · intro w' hSw
        try dsimp only at hSw
        try obtain ⟨hSw, hSw2⟩ := hSw
        go_simp
        try with_reducible rfl
      show wpAnyZ _ _ _ _ _ _ _ _ (Act.put _ (some 77) _) _
      simp only [Act.put, List.setIfInBounds_toArray, List.set_cons_zero, List.set_cons_succ]
      clear hSS
      have g0 := frozen_of_row Y8 b3 0 _ _ HB.out; have g1 := frozen_of_row Y8 b3 1 _ _ HB.out
      have y0 := cell_of_row Y8 b3 0 _ _ _ HB.out; have y1 := cell_of_row Y8 b3 1 _ _ _ HB.out
      refine wpAnyZ_oneG (i := 8) (by kernel_rfl) rfl (by rfl) (fun K hK => ?_)
      go_simp
      refine hK.out _ _ (.inr (by have h := HO.out.put (v' := .slice p3 t.length q3) (u' := .slice r3 X.length t3) hbw; exact ⟨h.c0, h.c1⟩)) ?_
      clear hK y0 y1 g0 g1
      refine wpAnyZ_one (i := 9) (by kernel_rfl) rfl rfl (fun K hK => ?_)
      go_simp
      refine hK.out _ _ (.inl (by omega)) ?_
      clear hK
      refine wpAnyZ_done (by kernel_rfl) ?_ _
      go_wp2_with fail
      go_meet
      exact ⟨b3, p3, q3, r3, t3, rfl, rfl, hbw, HO.out.put hbw, KeptR.put (v' := .slice none 0 0) (u' := .slice none 0 0) (s' := []) (d' := []) HB.out hs3 hd3 HT3.out.i1 HT3.out.i2⟩
  case rest =>
    clear HO
    obtain ⟨b3, p3, q3, r3, t3, rfl, rfl, hbw3, hHO, hK3⟩ := hcut
    have HO := Lib.hid hHO
    have K3 := Lib.hid hK3
    clear hHO hK3
    go_upto_region 12 with fail
    rw [HXL.out] at K3
    have x0 := HO.out.c0; have x1 := HO.out.c1
    have y0K3 := K3.out.c0; have y1K3 := K3.out.c1
    go_wp2_with fail
    clear x0 x1 y0K3 y1K3
    go_loopw [90] (fun i wr => ∃ k : Nat, k ≤ n ∧ i = .int .i64 k ∧ BoxA w wr (.slice a0 s.length c0) (.slice a1 d.length c1) ∧ KeptR wr b3 (.slice p3 t.length q3) (.slice r3 n t3) t X) (fun i _ => n - (intOf i).toNat)
    case atStart => exact ⟨0, by omega, rfl, HO.out, K3.out⟩
    case round =>
      obtain ⟨k, hk, rfl, hO, hK⟩ := hrel
      clear HO K3
      by_cases hlt : k < n
      · have hdp := HP.out (by omega)
        have hdl := HDL.out
        obtain ⟨q, hq⟩ : ∃ q, k % d.length = q := ⟨_, rfl⟩
        have hqe : q < d.length := hq ▸ Nat.mod_lt _ hdp
        obtain ⟨bx, ox, rfl, hcx⟩ := hK.du.atD (k := k) (by rw [HXL.out]; exact hlt)
        obtain ⟨by', oy, rfl, hcy⟩ := (HD.out.below hO.b).ints.atD hqe
        rw [HXG.out k hlt, hq] at hcx
        generalize d.getD q 0 = y at hcx hcy
        have hrem : (k : Int).tmod (d.length : Int) = (q : Int) := by rw [Int.tmod_eq_emod_of_nonneg (by omega), ← hq]; exact_mod_cast rfl
        have hq0 : (0 : Int) ≤ (q : Int) := by omega
        have hqI : (q : Int) < (d.length : Int) := by omega
        have hk0 : (0 : Int) ≤ (k : Int) := by omega
        have hkI : (k : Int) < (n : Int) := by omega
        have hdz : ((d.length : Int) == 0) = false := by rw [beq_eq_false_iff_ne]; omega
        have hdz2 : ¬ (d.length : Int) = 0 := by omega
        have hdz3 : ¬ d.length = 0 := by omega
        have hyy : (y != y) = false := by simp
        have HO := Lib.hid hO; have K3 := Lib.hid hK
        clear hO hK hq
        have x0 := HO.out.c0; have x1 := HO.out.c1
        have y0K3 := K3.out.c0; have y1K3 := K3.out.c1
        go_upto_region 15 with fail
        have f0 := cellBW x0; have f1 := cellBW x1; have f2 := cellBW y0K3; have f3 := cellBW y1K3; have f4 := cellBW hcx; have f5 := cellBW hcy
        refine wp_region_below (by kernel_rfl) (by kernel_rfl) ?_
        repeat (go_big_quiet_step (fail))
        refine wpQuiet_nil ?_
        rintro wq ⟨⟨_, hwq⟩, rfl⟩
        have HO := Lib.hid (HO.out.next hwq)
        have K3 := Lib.hid (K3.out.next hwq)
        clear hwq f0 f1 f2 f3 f4 f5 x0 x1 y0K3 y1K3 hcx hcy
        go_wp2_with fail
        go_roundw
        case rel => exact ⟨k + 1, by omega, by go_num, HO.out, K3.out⟩
        case measure => simp [intOf] <;> omega
      · obtain rfl : k = n := by omega
        have HO := Lib.hid hO; have K3 := Lib.hid hK
        clear hO hK hlt
        have x0 := HO.out.c0; have x1 := HO.out.c1
        have y0K3 := K3.out.c0; have y1K3 := K3.out.c1
        have hq := ints_any' K3.out.sv (HT.out.below HO.out.b)
        rw [show ints t t = true by unfold ints; simp] at hq
        have HQ := Lib.hid hq
        clear hq
        go_wp2_with fail
        refine HQ.out.mono ?_
        rintro e' Z ⟨rfl, nz, rfl⟩
        have hb := Below.drewN (B := wr.heap.size) wr nz
        have HO := Lib.hid (HO.out.next hb)
        have K3 := Lib.hid (K3.out.next hb)
        clear HQ hb x0 x1 y0K3 y1K3
        have x0 := HO.out.c0; have x1 := HO.out.c1
        have y0K3 := K3.out.c0; have y1K3 := K3.out.c1
        have hq := aright_sl _ _ _ t X K3.out.sv K3.out.su
        rw [HR2.out] at hq
        have HQ := Lib.hid hq
        clear hq
        go_wp2_with fail
        refine HQ.out.mono ?_
        rintro e' Z2 ⟨rfl, hb⟩
        have HO := Lib.hid (HO.out.next hb)
        clear HQ hb
        go_wp2_with fail
        go_ret
        exact ⟨rfl, HO.out.b⟩
theorem PrimRavels_walk (w : World) (va vb : Value) (s d : List Int) (vc : Value) (t : List Int) (hs : SlA w va s) (hd : SlA w vb d) (ht : SlA w vc t) :
    Calls Try.prog 9 #[.agg #[va, vb], vc] w fun e w' => e = .returned (.bool true) ∧ Below w.heap.size w w' := by
  cases hr : right s d with
  | false => exact PrimRavels_no w va vb s d vc t hs hd ht hr
  | true =>
    by_cases h4 : t.length ≤ 4
    · rcases rho_round hr h4 with ⟨e, he, h5⟩ | ⟨n, hn, hp, h5, hr2⟩
      · exact PrimRavels_err w va vb s d vc t hs hd ht hr h4 e he h5
      · exact PrimRavels_ok w va vb s d vc t hs hd ht hr h4 n hn hp h5 hr2
    · exact PrimRavels_big w va vb s d vc t hs hd ht hr (by omega)

set_option maxRecDepth 100000 in
theorem PrimRavels_lifted (os : Os) (started : os.Started) (H : Type) (enc : TypeId × Value → H) :
    ReturnsInHanded {} Try.checked os 9 .any (Rows.primRavelsSpec.pre6 enc Try.prog Try.f9 Rows.primRavelsRow.domain false) (Rows.primRavelsSpec.post enc Try.prog Try.f9 false true false false) := by
  refine returnsInHanded_of_change (C := Try.checked) own started (by kernel_rfl) Try.func9
    (ChangeSpec.witness6 (enc := enc) (C := Try.checked) false ⟨#[], #[.agg #[.slice none 0 0, .slice none 0 0], .slice none 0 0], []⟩ 8 (by kernel_rfl) (by kernel_rfl) (by kernel_rfl) (by kernel_rfl)) ?_
  intro W base args ds gs before hval0 hW hcnd _
  have hval : ∀ (j : Nat) t v, Try.f9.params[j]? = some t → args[j]? = some v → Value.okWide Try.prog W .any base t v := hval0
  have hW' := hW
  obtain ⟨p, q, hA0, hV, rfl, hfz, hnd⟩ := hW
  have hA : DataW.TrodAll enc Try.prog W 0 (fun _ => true) true Try.f9.params.toList args.toList ds p := hA0
  rw [Try.params9] at hA hval
  obtain ⟨v0, vs0, d0, ds0, p0, q0, hargs, rfl, rfl, h0, r0⟩ := trodAll_cons hA
  obtain ⟨v1, vs1, d1, ds1, p1, q1, rfl, rfl, rfl, h1, r1⟩ := trodAll_cons r0
  obtain ⟨rfl, rfl, rfl⟩ := trodAll_nil r1
  obtain rfl : args = #[v0, v1] := by cases args; simp_all
  obtain ⟨rfl, rfl⟩ := trodVars_none hV
  have k0 := h0
  have lt0 : ∀ x ∈ p0, x.block < W.heap.size := by obtain ⟨m, hm⟩ := k0; exact DataW.trod_lt m _ _ _ hm
  obtain ⟨xs0, ys0, va0, vb0, rfl, s0, u0⟩ := open_arrA (hval 0 24 v0 rfl rfl) h0
  have k1 := h1
  have lt1 : ∀ x ∈ p1, x.block < W.heap.size := by obtain ⟨m, hm⟩ := k1; exact DataW.trod_lt m _ _ _ hm
  obtain ⟨xs1, s1⟩ := sla_of_Trod (hval 1 22 v1 rfl rfl) h1
  clear hA0 hval0
  refine (PrimRavels_walk W va0 vb0 xs0 ys0 v1 xs1 s0 u0 s1).mono fun e W' ⟨he, bel⟩ => ?_
  subst he
  exact ⟨_, rfl, _, _, _, [], _, [], hW', trodAll_mk1 (shut_bool Try.underlying4 _), (trodAll_cons_mk (Below.trod laidOut (by kernel_rfl) (of_decide_eq_true (by kernel_rfl)) k0 bel lt0) (trodAll_cons_mk (Below.trod laidOut (by kernel_rfl) (of_decide_eq_true (by kernel_rfl)) k1 bel lt1) trodAll_mk0)), rfl, bel.frame _, fun h => by cases h⟩

/-- The given statement. -/
theorem PrimRavels_holds : Rows.PrimRavelsSaid :=
  OpenClaim.holds_of_wide 9 Try.f9 rfl rfl rfl rfl rfl rfl rfl ⟨rfl, rfl, rfl, rfl, rfl⟩ rfl rfl rfl rfl rfl (by kernel_rfl) Try.func9 (by kernel_rfl)
    (of_decide_eq_true (by kernel_rfl)) (by unfold Func.isWrapper; rw [if_neg (by decide +kernel)]; exact ⟨rfl, rfl⟩)
    (fun os started H enc _ => PrimRavels_lifted os started H enc)
#print axioms PrimRavels_holds
end Go.Proofs.Ytmjkncmpanhgjaa
