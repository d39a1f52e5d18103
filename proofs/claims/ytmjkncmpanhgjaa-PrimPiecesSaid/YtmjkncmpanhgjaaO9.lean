/-
  PrimPieces: the law returns true for every input, and what was handed in reads as it did. No condition.
-/
import Derived.Test.YtmjkncmpanhgjaaBZ
import Derived.BigQuiet
namespace Go.Proofs.Ytmjkncmpanhgjaa
set_option maxRecDepth 100000
open Go.ChangeShapes Go.WideShapes Go.ChangeAt Go.RowKit Go.Joins
set_option linter.unusedVariables false
set_option linter.unusedSimpArgs false

structure JustB (w W : World) : Prop where
  b : Below w.heap.size w W
theorem JustB.next {w W W' : World} (h : JustB w W) (hb : Below W.heap.size W W') : JustB w W' := ⟨bNext hb h.b⟩
theorem word_no {r : ArrE} {e : Int} (h : r = noA e) : r = (([], []), e) := h
theorem word_ok {r : ArrE} {s d : List Int} (h : r = okA s d) : r = ((s, d), 0) := h
set_option maxHeartbeats 16000000 in
theorem PrimPieces_biga (w : World) (f : Int) (va : Value) (a : List Int) (vb : Value) (b : List Int) (ha : SlA w va a) (hb : SlA w vb b) (h1 : 30000 < a.length) :
    Calls Try.prog 12 #[.int .u8 f, va, vb] w fun e w' => e = .returned (.bool true) ∧ Below w.heap.size w w' := by
  have HA := Lib.hid ha; have HB0 := Lib.hid hb
  have HAL := Lib.hid ha.le; have HBL := Lib.hid hb.le
  have h1I : (30000 : Int) < (a.length : Int) := by omega
  obtain ⟨a0, c0, rfl, -⟩ := ha
  obtain ⟨a1, c1, rfl, -⟩ := hb
  clear h1
  go_enter Try.func12, Try.ntmps12
  go_upto_region 1 with fail
  refine gen_worldA (fun W => JustB w W) ⟨Below.refl _ _⟩ ?_
  rintro W hO
  have HO := Lib.hid hO
  clear hO
  go_wp2_with fail
  refine (shown_any _).mono ?_
  rintro e' V0 ⟨rfl, hb⟩
  have HO := Lib.hid (HO.out.next hb)
  clear hb
  go_wp2_with fail
  go_ret
  exact ⟨rfl, HO.out.b⟩
set_option maxHeartbeats 16000000 in
theorem PrimPieces_bigb (w : World) (f : Int) (va : Value) (a : List Int) (vb : Value) (b : List Int) (ha : SlA w va a) (hb : SlA w vb b) (h1 : ¬ 30000 < a.length) (h2 : 30000 < b.length) :
    Calls Try.prog 12 #[.int .u8 f, va, vb] w fun e w' => e = .returned (.bool true) ∧ Below w.heap.size w w' := by
  have HA := Lib.hid ha; have HB0 := Lib.hid hb
  have HAL := Lib.hid ha.le; have HBL := Lib.hid hb.le
  have h1I : ¬ (30000 : Int) < (a.length : Int) := by omega
  have h2I : (30000 : Int) < (b.length : Int) := by omega
  obtain ⟨a0, c0, rfl, -⟩ := ha
  obtain ⟨a1, c1, rfl, -⟩ := hb
  clear h1 h2
  go_enter Try.func12, Try.ntmps12
  go_upto_region 1 with fail
  refine gen_worldA (fun W => JustB w W) ⟨Below.refl _ _⟩ ?_
  rintro W hO
  have HO := Lib.hid hO
  clear hO
  go_wp2_with fail
  refine (shown_any _).mono ?_
  rintro e' V0 ⟨rfl, hb⟩
  have HO := Lib.hid (HO.out.next hb)
  clear hb
  go_wp2_with fail
  go_ret
  exact ⟨rfl, HO.out.b⟩
set_option maxHeartbeats 16000000 in
theorem PrimPieces_no (w : World) (f : Int) (va : Value) (a : List Int) (vb : Value) (b : List Int) (ha : SlA w va a) (hb : SlA w vb b) (h1 : ¬ 30000 < a.length) (h2 : ¬ 30000 < b.length) (htk : takes f true = false) :
    Calls Try.prog 12 #[.int .u8 f, va, vb] w fun e w' => e = .returned (.bool true) ∧ Below w.heap.size w w' := by
  have HA := Lib.hid ha; have HB0 := Lib.hid hb
  have HAL := Lib.hid ha.le; have HBL := Lib.hid hb.le
  have h1I : ¬ (30000 : Int) < (a.length : Int) := by omega
  have h2I : ¬ (30000 : Int) < (b.length : Int) := by omega
  have hab : a.length + b.length ≤ 65536 := by omega
  have hin : ∀ x ∈ a ++ b, In64 x := fun x hx => (List.mem_append.1 hx).elim (in_of ha x) (in_of hb x)
  have hxl : (a ++ b).length ≤ 65536 := by rw [List.length_append]; omega
  have hm0 := word_ok (cat_vec hab)
  have ht0 := Rt.okA (vec_right hxl) hin
  unfold okA at ht0
  have hm1 := word_no (fold_no (vec_right hxl) htk)
  have hm2 := word_no (scan_no (vec_right hxl) htk)
  have HT1 := Lib.hid (Rt.noA (e := 70) (by decide))
  unfold noA at HT1
  obtain ⟨ls, hls⟩ : ∃ l : List Int, [((a ++ b).length : Int)] = l := ⟨_, rfl⟩
  rw [hls] at hm0 hm1 hm2 ht0
  obtain ⟨X, hX⟩ : ∃ X, a ++ b = X := ⟨_, rfl⟩
  rw [hX] at hm0 hm1 hm2 ht0
  have HM0 := Lib.hid hm0; have HM1 := Lib.hid hm1; have HM2 := Lib.hid hm2; have HT0 := Lib.hid ht0
  have HK := Lib.hid (fun W => takes_at W f true false htk)
  obtain ⟨a0, c0, rfl, -⟩ := ha
  obtain ⟨a1, c1, rfl, -⟩ := hb
  clear h1 h2 htk hab hin hxl hm0 hm1 hm2 ht0 hls hX
  go_enter Try.func12, Try.ntmps12
  go_upto_region 1 with fail
  refine gen_worldA (fun W => JustB w W) ⟨Below.refl _ _⟩ ?_
  rintro W hO
  have HO := Lib.hid hO
  clear hO
  go_wp2_with fail
  refine (shown_any _).mono ?_
  rintro e' V0 ⟨rfl, hb⟩
  have HO := Lib.hid (HO.out.next hb)
  clear hb
  go_upto_region 4 with fail
  refine gen_worldA (fun W => JustB w W) HO.out ?_
  rintro V4 hHO
  clear HO
  have HO := Lib.hid hHO
  clear hHO
  go_wp2_with fail
  refine (vec_arg V4 a0 c0 a HAL.out).mono ?_
  rintro e' V5 ⟨p8, q8, rfl, hd8, hb⟩
  have HO := Lib.hid (HO.out.next hb)
  have HD8 := Lib.hid hd8
  clear hd8 hb
  go_wp2_with fail
  refine (vec_arg V5 a1 c1 b HBL.out).mono ?_
  rintro e' V6 ⟨p9, q9, rfl, hd9, hb⟩
  have HO := Lib.hid (HO.out.next hb)
  have HD9 := Lib.hid hd9; have HD8 := Lib.hid (HD8.out.below hb)
  clear hd9 hb
  have hq := pd_any V6 40 _ _ _ _ _ a _ b HD8.out (HA.out.below HO.out.b) HD9.out (HB0.out.below HO.out.b)
  rw [HM0.out] at hq
  have HQ := Lib.hid hq
  clear hq HD8 HD9
  go_wp2_with fail
  refine HQ.out.mono ?_
  rintro e' X0 ⟨hr, hb⟩
  obtain ⟨p0, q0, r0, t0, rfl, hs0, hd0⟩ := ret_own (S := ls) (D := X) (E := 0) hr
  obtain ⟨b0, hb0⟩ : ∃ b, X0.heap.size = b := ⟨_, rfl⟩
  have hba : Below X0.heap.size X0 (X0.alloc (.cells #[.slice p0 ls.length q0, .slice r0 X.length t0] 24)) := (Below.refl _ _).alloc (Nat.le_refl _) _
  have hbc := bNext hba hb
  have HO := Lib.hid (HO.out.next hbc)
  have K0 := Lib.hid (KeptR.new (b := b0) hb0 hs0 hd0 HT0.out.i1 HT0.out.i2)
  clear hr hs0 hd0 hb hba hbc HQ
  go_upto_region 5 with fail
  refine gen_worldA (fun W => JustB w W ∧ KeptR W b0 (.slice p0 ls.length q0) (.slice r0 X.length t0) ls X) ⟨HO.out, K0.out⟩ ?_
  rintro V7 ⟨hHO, hK0⟩
  clear HO K0
  have HO := Lib.hid hHO
  have K0 := Lib.hid hK0
  clear hHO hK0
  have y0K0 := K0.out.c0; have y1K0 := K0.out.c1
  have hq := pf_any V7 f _ _ _ _ K0.out.sv K0.out.su
  rw [HM1.out] at hq
  have HQ := Lib.hid hq
  clear hq
  go_wp2_with fail
  refine HQ.out.mono ?_
  rintro e' X1 ⟨hr, hb⟩
  obtain ⟨p1, q1, r1, t1, rfl, hs1, hd1⟩ := ret_own (S := []) (D := []) (E := 70) hr
  obtain ⟨b1, hb1⟩ : ∃ b, X1.heap.size = b := ⟨_, rfl⟩
  have hba : Below X1.heap.size X1 (X1.alloc (.cells #[.slice p1 0 q1, .slice r1 0 t1] 24)) := (Below.refl _ _).alloc (Nat.le_refl _) _
  have hbc := bNext hba hb
  have HO := Lib.hid (HO.out.next hbc)
  have K0 := Lib.hid (K0.out.next hbc)
  have K1 := Lib.hid (KeptR.new (b := b1) hb1 hs1 hd1 HT1.out.i1 HT1.out.i2)
  clear hr hs1 hd1 hb hba hbc HQ y0K0 y1K0
  go_upto_region 6 with fail
  refine gen_worldA (fun W => JustB w W ∧ KeptR W b0 (.slice p0 ls.length q0) (.slice r0 X.length t0) ls X ∧ KeptR W b1 (.slice p1 0 q1) (.slice r1 0 t1) [] []) ⟨HO.out, K0.out, K1.out⟩ ?_
  rintro V8 ⟨hHO, hK0, hK1⟩
  clear HO K0 K1
  have HO := Lib.hid hHO
  have K0 := Lib.hid hK0
  have K1 := Lib.hid hK1
  clear hHO hK0 hK1
  have y0K0 := K0.out.c0; have y1K0 := K0.out.c1
  have hq := ps_any V8 f _ _ _ _ K0.out.sv K0.out.su
  rw [HM2.out] at hq
  have HQ := Lib.hid hq
  clear hq
  go_wp2_with fail
  refine HQ.out.mono ?_
  rintro e' X2 ⟨hr, hb⟩
  obtain ⟨p2, q2, r2, t2, rfl, hs2, hd2⟩ := ret_own (S := []) (D := []) (E := 70) hr
  obtain ⟨b2, hb2⟩ : ∃ b, X2.heap.size = b := ⟨_, rfl⟩
  have hba : Below X2.heap.size X2 (X2.alloc (.cells #[.slice p2 0 q2, .slice r2 0 t2] 24)) := (Below.refl _ _).alloc (Nat.le_refl _) _
  have hbc := bNext hba hb
  have HO := Lib.hid (HO.out.next hbc)
  have K0 := Lib.hid (K0.out.next hbc)
  have K1 := Lib.hid (K1.out.next hbc)
  have K2 := Lib.hid (KeptR.new (b := b2) hb2 hs2 hd2 HT1.out.i1 HT1.out.i2)
  clear hr hs2 hd2 hb hba hbc HQ y0K0 y1K0
  clear K0
  go_upto_region 7 with fail
  refine gen_worldA (fun W => JustB w W ∧ KeptR W b1 (.slice p1 0 q1) (.slice r1 0 t1) [] [] ∧ KeptR W b2 (.slice p2 0 q2) (.slice r2 0 t2) [] []) ⟨HO.out, K1.out, K2.out⟩ ?_
  rintro V9 ⟨hHO, hK1, hK2⟩
  clear HO K1 K2
  have HO := Lib.hid hHO
  have K1 := Lib.hid hK1
  have K2 := Lib.hid hK2
  clear hHO hK1 hK2
  have y0K1 := K1.out.c0; have y1K1 := K1.out.c1
  have y0K2 := K2.out.c0; have y1K2 := K2.out.c1
  have HQ0 := Lib.hid (HK.out V9)
  go_wp2_with fail
  refine HQ0.out.mono ?_
  rintro e' V10 ⟨rfl, rfl⟩
  clear HQ0 HK
  go_wp2_with fail
  go_ret
  exact ⟨rfl, HO.out.b⟩
set_option maxHeartbeats 16000000 in
theorem PrimPieces_bad (w : World) (f : Int) (va : Value) (a : List Int) (vb : Value) (b : List Int) (ha : SlA w va a) (hb : SlA w vb b) (h1 : ¬ 30000 < a.length) (h2 : ¬ 30000 < b.length) (htk : takes f true = true) (hbd : (laneL f (a ++ b)).2 = true) :
    Calls Try.prog 12 #[.int .u8 f, va, vb] w fun e w' => e = .returned (.bool true) ∧ Below w.heap.size w w' := by
  have HA := Lib.hid ha; have HB0 := Lib.hid hb
  have HAL := Lib.hid ha.le; have HBL := Lib.hid hb.le
  have h1I : ¬ (30000 : Int) < (a.length : Int) := by omega
  have h2I : ¬ (30000 : Int) < (b.length : Int) := by omega
  have hab : a.length + b.length ≤ 65536 := by omega
  have hin : ∀ x ∈ a ++ b, In64 x := fun x hx => (List.mem_append.1 hx).elim (in_of ha x) (in_of hb x)
  have hxl : (a ++ b).length ≤ 65536 := by rw [List.length_append]; omega
  have hm0 := word_ok (cat_vec hab)
  have ht0 := Rt.okA (vec_right hxl) hin
  unfold okA at ht0
  have hm1 := word_no ((fold_vec htk hxl).trans (if_pos hbd))
  have hm2 := word_no ((scan_vec htk hxl).trans (if_pos hbd))
  have HT1 := Lib.hid (Rt.noA (e := 11) (by decide))
  unfold noA at HT1
  obtain ⟨ls, hls⟩ : ∃ l : List Int, [((a ++ b).length : Int)] = l := ⟨_, rfl⟩
  rw [hls] at hm0 hm1 hm2 ht0
  obtain ⟨X, hX⟩ : ∃ X, a ++ b = X := ⟨_, rfl⟩
  rw [hX] at hm0 hm1 hm2 ht0
  have HM0 := Lib.hid hm0; have HM1 := Lib.hid hm1; have HM2 := Lib.hid hm2; have HT0 := Lib.hid ht0
  have HK := Lib.hid (fun W => takes_at W f true true htk)
  obtain ⟨a0, c0, rfl, -⟩ := ha
  obtain ⟨a1, c1, rfl, -⟩ := hb
  clear h1 h2 htk hab hin hxl hm0 hm1 hm2 ht0 hls hX hbd
  go_enter Try.func12, Try.ntmps12
  go_upto_region 1 with fail
  refine gen_worldA (fun W => JustB w W) ⟨Below.refl _ _⟩ ?_
  rintro W hO
  have HO := Lib.hid hO
  clear hO
  go_wp2_with fail
  refine (shown_any _).mono ?_
  rintro e' V0 ⟨rfl, hb⟩
  have HO := Lib.hid (HO.out.next hb)
  clear hb
  go_upto_region 4 with fail
  refine gen_worldA (fun W => JustB w W) HO.out ?_
  rintro V4 hHO
  clear HO
  have HO := Lib.hid hHO
  clear hHO
  go_wp2_with fail
  refine (vec_arg V4 a0 c0 a HAL.out).mono ?_
  rintro e' V5 ⟨p8, q8, rfl, hd8, hb⟩
  have HO := Lib.hid (HO.out.next hb)
  have HD8 := Lib.hid hd8
  clear hd8 hb
  go_wp2_with fail
  refine (vec_arg V5 a1 c1 b HBL.out).mono ?_
  rintro e' V6 ⟨p9, q9, rfl, hd9, hb⟩
  have HO := Lib.hid (HO.out.next hb)
  have HD9 := Lib.hid hd9; have HD8 := Lib.hid (HD8.out.below hb)
  clear hd9 hb
  have hq := pd_any V6 40 _ _ _ _ _ a _ b HD8.out (HA.out.below HO.out.b) HD9.out (HB0.out.below HO.out.b)
  rw [HM0.out] at hq
  have HQ := Lib.hid hq
  clear hq HD8 HD9
  go_wp2_with fail
  refine HQ.out.mono ?_
  rintro e' X0 ⟨hr, hb⟩
  obtain ⟨p0, q0, r0, t0, rfl, hs0, hd0⟩ := ret_own (S := ls) (D := X) (E := 0) hr
  obtain ⟨b0, hb0⟩ : ∃ b, X0.heap.size = b := ⟨_, rfl⟩
  have hba : Below X0.heap.size X0 (X0.alloc (.cells #[.slice p0 ls.length q0, .slice r0 X.length t0] 24)) := (Below.refl _ _).alloc (Nat.le_refl _) _
  have hbc := bNext hba hb
  have HO := Lib.hid (HO.out.next hbc)
  have K0 := Lib.hid (KeptR.new (b := b0) hb0 hs0 hd0 HT0.out.i1 HT0.out.i2)
  clear hr hs0 hd0 hb hba hbc HQ
  go_upto_region 5 with fail
  refine gen_worldA (fun W => JustB w W ∧ KeptR W b0 (.slice p0 ls.length q0) (.slice r0 X.length t0) ls X) ⟨HO.out, K0.out⟩ ?_
  rintro V7 ⟨hHO, hK0⟩
  clear HO K0
  have HO := Lib.hid hHO
  have K0 := Lib.hid hK0
  clear hHO hK0
  have y0K0 := K0.out.c0; have y1K0 := K0.out.c1
  have hq := pf_any V7 f _ _ _ _ K0.out.sv K0.out.su
  rw [HM1.out] at hq
  have HQ := Lib.hid hq
  clear hq
  go_wp2_with fail
  refine HQ.out.mono ?_
  rintro e' X1 ⟨hr, hb⟩
  obtain ⟨p1, q1, r1, t1, rfl, hs1, hd1⟩ := ret_own (S := []) (D := []) (E := 11) hr
  obtain ⟨b1, hb1⟩ : ∃ b, X1.heap.size = b := ⟨_, rfl⟩
  have hba : Below X1.heap.size X1 (X1.alloc (.cells #[.slice p1 0 q1, .slice r1 0 t1] 24)) := (Below.refl _ _).alloc (Nat.le_refl _) _
  have hbc := bNext hba hb
  have HO := Lib.hid (HO.out.next hbc)
  have K0 := Lib.hid (K0.out.next hbc)
  have K1 := Lib.hid (KeptR.new (b := b1) hb1 hs1 hd1 HT1.out.i1 HT1.out.i2)
  clear hr hs1 hd1 hb hba hbc HQ y0K0 y1K0
  go_upto_region 6 with fail
  refine gen_worldA (fun W => JustB w W ∧ KeptR W b0 (.slice p0 ls.length q0) (.slice r0 X.length t0) ls X ∧ KeptR W b1 (.slice p1 0 q1) (.slice r1 0 t1) [] []) ⟨HO.out, K0.out, K1.out⟩ ?_
  rintro V8 ⟨hHO, hK0, hK1⟩
  clear HO K0 K1
  have HO := Lib.hid hHO
  have K0 := Lib.hid hK0
  have K1 := Lib.hid hK1
  clear hHO hK0 hK1
  have y0K0 := K0.out.c0; have y1K0 := K0.out.c1
  have hq := ps_any V8 f _ _ _ _ K0.out.sv K0.out.su
  rw [HM2.out] at hq
  have HQ := Lib.hid hq
  clear hq
  go_wp2_with fail
  refine HQ.out.mono ?_
  rintro e' X2 ⟨hr, hb⟩
  obtain ⟨p2, q2, r2, t2, rfl, hs2, hd2⟩ := ret_own (S := []) (D := []) (E := 11) hr
  obtain ⟨b2, hb2⟩ : ∃ b, X2.heap.size = b := ⟨_, rfl⟩
  have hba : Below X2.heap.size X2 (X2.alloc (.cells #[.slice p2 0 q2, .slice r2 0 t2] 24)) := (Below.refl _ _).alloc (Nat.le_refl _) _
  have hbc := bNext hba hb
  have HO := Lib.hid (HO.out.next hbc)
  have K0 := Lib.hid (K0.out.next hbc)
  have K1 := Lib.hid (K1.out.next hbc)
  have K2 := Lib.hid (KeptR.new (b := b2) hb2 hs2 hd2 HT1.out.i1 HT1.out.i2)
  clear hr hs2 hd2 hb hba hbc HQ y0K0 y1K0
  clear K0
  go_upto_region 7 with fail
  refine gen_worldA (fun W => JustB w W ∧ KeptR W b1 (.slice p1 0 q1) (.slice r1 0 t1) [] [] ∧ KeptR W b2 (.slice p2 0 q2) (.slice r2 0 t2) [] []) ⟨HO.out, K1.out, K2.out⟩ ?_
  rintro V9 ⟨hHO, hK1, hK2⟩
  clear HO K1 K2
  have HO := Lib.hid hHO
  have K1 := Lib.hid hK1
  have K2 := Lib.hid hK2
  clear hHO hK1 hK2
  have y0K1 := K1.out.c0; have y1K1 := K1.out.c1
  have y0K2 := K2.out.c0; have y1K2 := K2.out.c1
  have HQ0 := Lib.hid (HK.out V9)
  go_wp2_with fail
  refine HQ0.out.mono ?_
  rintro e' V10 ⟨rfl, rfl⟩
  clear HQ0 HK
  go_wp2_with fail
  go_ret
  exact ⟨rfl, HO.out.b⟩
set_option maxHeartbeats 16000000 in
theorem PrimPieces_nos (w : World) (f : Int) (va : Value) (a : List Int) (vb : Value) (b : List Int) (ha : SlA w va a) (hb : SlA w vb b) (h1 : ¬ 30000 < a.length) (h2 : ¬ 30000 < b.length) (htk : takes f true = true) (hbd : (laneL f (a ++ b)).2 = false) (hsc : scansB f = false) :
    Calls Try.prog 12 #[.int .u8 f, va, vb] w fun e w' => e = .returned (.bool true) ∧ Below w.heap.size w w' := by
  have HA := Lib.hid ha; have HB0 := Lib.hid hb
  have HAL := Lib.hid ha.le; have HBL := Lib.hid hb.le
  have h1I : ¬ (30000 : Int) < (a.length : Int) := by omega
  have h2I : ¬ (30000 : Int) < (b.length : Int) := by omega
  have hab : a.length + b.length ≤ 65536 := by omega
  have hin : ∀ x ∈ a ++ b, In64 x := fun x hx => (List.mem_append.1 hx).elim (in_of ha x) (in_of hb x)
  have hxl : (a ++ b).length ≤ 65536 := by rw [List.length_append]; omega
  have hm0 := word_ok (cat_vec hab)
  have ht0 := Rt.okA (vec_right hxl) hin
  unfold okA at ht0
  have hba : (laneL f a).2 = false := by cases h : (laneL f a).2 with | false => rfl | true => exact absurd (laneL_bad f a b h) (by rw [hbd]; decide)
  have hm1 := word_ok ((fold_vec htk hxl).trans (if_neg (by rw [hbd]; decide)))
  have hm2 := word_ok ((scan_vec htk hxl).trans (if_neg (by rw [hbd]; decide)))
  have hma := word_ok ((fold_vec (d := a) htk (by omega)).trans (if_neg (by rw [hba]; decide)))
  have ht1 := foldA_rt f (s := [((a ++ b).length : Int)]) hin; have ht2 := scanA_rt f (s := [((a ++ b).length : Int)]) hin; have hta := foldA_rt f (s := [(a.length : Int)]) (in_of ha)
  rw [hm1] at ht1; rw [hm2] at ht2; rw [hma] at hta
  have htb := foldA_rt f (s := [(b.length : Int)]) (in_of hb)
  obtain ⟨rb, hrb⟩ : ∃ r, foldA f [(b.length : Int)] b = r := ⟨_, rfl⟩
  rw [hrb] at htb
  obtain ⟨⟨Sb, Db⟩, Eb⟩ := rb
  have HMB := Lib.hid hrb; have HTB := Lib.hid htb
  have HSC := Lib.hid (fun W => scans_at W f false hsc)
  have hlast := fun h => scan_last (f := f) (d := a ++ b) h
  have hsl := scanR_len f (a ++ b)
  obtain ⟨ls, hls⟩ : ∃ l : List Int, [((a ++ b).length : Int)] = l := ⟨_, rfl⟩
  rw [hls] at hm0 hm1 hm2 ht0 ht2
  obtain ⟨m, hmm⟩ : ∃ m, (a ++ b).length = m := ⟨_, rfl⟩
  rw [hmm] at hsl hlast hxl
  obtain ⟨X, hX⟩ : ∃ X, a ++ b = X := ⟨_, rfl⟩
  rw [hX] at hm0 hm1 hm2 ht0 ht1 ht2 hlast hsl
  obtain ⟨T, hT⟩ : ∃ T, scanR f X = T := ⟨_, rfl⟩
  rw [hT] at hm2 ht2 hlast hsl
  obtain ⟨V, hV⟩ : ∃ V, vF f X = V := ⟨_, rfl⟩
  rw [hV] at hm1 ht1 hlast
  obtain ⟨Va, hVa⟩ : ∃ V, vF f a = V := ⟨_, rfl⟩
  rw [hVa] at hma hta
  have HM0 := Lib.hid hm0; have HM1 := Lib.hid hm1; have HM2 := Lib.hid hm2; have HMA := Lib.hid hma; have HT0 := Lib.hid ht0; have HT1 := Lib.hid ht1; have HT2 := Lib.hid ht2; have HTA := Lib.hid hta
  have HTL := Lib.hid hsl; have HLAST := Lib.hid hlast; have HML := Lib.hid hxl
  obtain ⟨a0, c0, rfl, -⟩ := ha
  obtain ⟨a1, c1, rfl, -⟩ := hb
  clear h1 h2 htk hab hin hxl hm0 hm1 hm2 hma ht0 ht1 ht2 hta hls hX hT hV hVa hbd hba hsl hlast hmm hsc htb hrb
  go_enter Try.func12, Try.ntmps12
  go_upto_region 1 with fail
  refine gen_worldA (fun W => JustB w W) ⟨Below.refl _ _⟩ ?_
  rintro W hO
  have HO := Lib.hid hO
  clear hO
  go_wp2_with fail
  refine (shown_any _).mono ?_
  rintro e' V0 ⟨rfl, hb⟩
  have HO := Lib.hid (HO.out.next hb)
  clear hb
  go_upto_region 4 with fail
  refine gen_worldA (fun W => JustB w W) HO.out ?_
  rintro V4 hHO
  clear HO
  have HO := Lib.hid hHO
  clear hHO
  go_wp2_with fail
  refine (vec_arg V4 a0 c0 a HAL.out).mono ?_
  rintro e' V5 ⟨p8, q8, rfl, hd8, hb⟩
  have HO := Lib.hid (HO.out.next hb)
  have HD8 := Lib.hid hd8
  clear hd8 hb
  go_wp2_with fail
  refine (vec_arg V5 a1 c1 b HBL.out).mono ?_
  rintro e' V6 ⟨p9, q9, rfl, hd9, hb⟩
  have HO := Lib.hid (HO.out.next hb)
  have HD9 := Lib.hid hd9; have HD8 := Lib.hid (HD8.out.below hb)
  clear hd9 hb
  have hq := pd_any V6 40 _ _ _ _ _ a _ b HD8.out (HA.out.below HO.out.b) HD9.out (HB0.out.below HO.out.b)
  rw [HM0.out] at hq
  have HQ := Lib.hid hq
  clear hq HD8 HD9
  go_wp2_with fail
  refine HQ.out.mono ?_
  rintro e' X0 ⟨hr, hb⟩
  obtain ⟨p0, q0, r0, t0, rfl, hs0, hd0⟩ := ret_own (S := ls) (D := X) (E := 0) hr
  obtain ⟨b0, hb0⟩ : ∃ b, X0.heap.size = b := ⟨_, rfl⟩
  have hba : Below X0.heap.size X0 (X0.alloc (.cells #[.slice p0 ls.length q0, .slice r0 X.length t0] 24)) := (Below.refl _ _).alloc (Nat.le_refl _) _
  have hbc := bNext hba hb
  have HO := Lib.hid (HO.out.next hbc)
  have K0 := Lib.hid (KeptR.new (b := b0) hb0 hs0 hd0 HT0.out.i1 HT0.out.i2)
  clear hr hs0 hd0 hb hba hbc HQ
  go_upto_region 5 with fail
  refine gen_worldA (fun W => JustB w W ∧ KeptR W b0 (.slice p0 ls.length q0) (.slice r0 X.length t0) ls X) ⟨HO.out, K0.out⟩ ?_
  rintro V7 ⟨hHO, hK0⟩
  clear HO K0
  have HO := Lib.hid hHO
  have K0 := Lib.hid hK0
  clear hHO hK0
  have y0K0 := K0.out.c0; have y1K0 := K0.out.c1
  have hq := pf_any V7 f _ _ _ _ K0.out.sv K0.out.su
  rw [HM1.out] at hq
  have HQ := Lib.hid hq
  clear hq
  go_wp2_with fail
  refine HQ.out.mono ?_
  rintro e' X1 ⟨hr, hb⟩
  obtain ⟨p1, q1, r1, t1, rfl, hs1, hd1⟩ := ret_own (S := []) (D := [V]) (E := 0) hr
  obtain ⟨b1, hb1⟩ : ∃ b, X1.heap.size = b := ⟨_, rfl⟩
  have hba : Below X1.heap.size X1 (X1.alloc (.cells #[.slice p1 0 q1, .slice r1 1 t1] 24)) := (Below.refl _ _).alloc (Nat.le_refl _) _
  have hbc := bNext hba hb
  have HO := Lib.hid (HO.out.next hbc)
  have K0 := Lib.hid (K0.out.next hbc)
  have K1 := Lib.hid (KeptR.new (b := b1) hb1 hs1 hd1 HT1.out.i1 HT1.out.i2)
  clear hr hs1 hd1 hb hba hbc HQ y0K0 y1K0
  go_upto_region 6 with fail
  refine gen_worldA (fun W => JustB w W ∧ KeptR W b0 (.slice p0 ls.length q0) (.slice r0 X.length t0) ls X ∧ KeptR W b1 (.slice p1 0 q1) (.slice r1 1 t1) [] [V]) ⟨HO.out, K0.out, K1.out⟩ ?_
  rintro V8 ⟨hHO, hK0, hK1⟩
  clear HO K0 K1
  have HO := Lib.hid hHO
  have K0 := Lib.hid hK0
  have K1 := Lib.hid hK1
  clear hHO hK0 hK1
  have y0K0 := K0.out.c0; have y1K0 := K0.out.c1
  have hq := ps_any V8 f _ _ _ _ K0.out.sv K0.out.su
  rw [HM2.out] at hq
  have HQ := Lib.hid hq
  clear hq
  go_wp2_with fail
  refine HQ.out.mono ?_
  rintro e' X2 ⟨hr, hb⟩
  obtain ⟨p2, q2, r2, t2, rfl, hs2, hd2⟩ := ret_own (S := ls) (D := T) (E := 0) hr
  obtain ⟨b2, hb2⟩ : ∃ b, X2.heap.size = b := ⟨_, rfl⟩
  have hba : Below X2.heap.size X2 (X2.alloc (.cells #[.slice p2 ls.length q2, .slice r2 T.length t2] 24)) := (Below.refl _ _).alloc (Nat.le_refl _) _
  have hbc := bNext hba hb
  have HO := Lib.hid (HO.out.next hbc)
  have K0 := Lib.hid (K0.out.next hbc)
  have K1 := Lib.hid (K1.out.next hbc)
  have K2 := Lib.hid (KeptR.new (b := b2) hb2 hs2 hd2 HT2.out.i1 HT2.out.i2)
  clear hr hs2 hd2 hb hba hbc HQ y0K0 y1K0
  clear K0
  go_upto_region 7 with fail
  refine gen_worldA (fun W => JustB w W ∧ KeptR W b1 (.slice p1 0 q1) (.slice r1 1 t1) [] [V] ∧ KeptR W b2 (.slice p2 ls.length q2) (.slice r2 T.length t2) ls T) ⟨HO.out, K1.out, K2.out⟩ ?_
  rintro V9 ⟨hHO, hK1, hK2⟩
  clear HO K1 K2
  have HO := Lib.hid hHO
  have K1 := Lib.hid hK1
  have K2 := Lib.hid hK2
  clear hHO hK1 hK2
  rw [HTL.out] at K2
  have y0K1 := K1.out.c0; have y1K1 := K1.out.c1
  have y0K2 := K2.out.c0; have y1K2 := K2.out.c1
  go_upto_region 12 with fail
  skip
  by_cases hm0 : m = 0
  · subst hm0
    have f2 := cellBW y0K1; have f3 := cellBW y1K1; have f4 := cellBW y0K2; have f5 := cellBW y1K2
    refine wp_region_below (by kernel_rfl) (by kernel_rfl) ?_
    repeat (go_big_quiet_step (fail))
    refine wpQuiet_nil ?_
    rintro wq ⟨⟨_, hwq⟩, rfl⟩
    have HO := Lib.hid (HO.out.next hwq)
    have K1 := Lib.hid (K1.out.next hwq)
    have K2 := Lib.hid (K2.out.next hwq)
    clear hwq f2 f3 f4 f5 y0K1 y1K1 y0K2 y1K2
    clear K2
    go_upto_region 14 with fail
    refine gen_worldA (fun W => JustB w W ∧ KeptR W b1 (.slice p1 0 q1) (.slice r1 1 t1) [] [V]) ⟨HO.out, K1.out⟩ ?_
    rintro V14 ⟨hHO, hK1⟩
    clear HO K1
    have HO := Lib.hid hHO
    have K1 := Lib.hid hK1
    clear hHO hK1
    go_wp2_with fail
    refine (vec_arg V14 a0 c0 a HAL.out).mono ?_
    rintro e' V15 ⟨p8, q8, rfl, hd8, hb⟩
    have HO := Lib.hid (HO.out.next hb)
    have K1 := Lib.hid (K1.out.next hb)
    have HD8 := Lib.hid hd8
    clear hd8 hb
    have hq := pf_any V15 f _ _ _ a HD8.out (HA.out.below HO.out.b)
    rw [HMA.out] at hq
    have HQ := Lib.hid hq
    clear hq HD8
    go_wp2_with fail
    refine HQ.out.mono ?_
    rintro e' X3 ⟨hr, hb⟩
    obtain ⟨p3, q3, r3, t3, rfl, hs3, hd3⟩ := ret_own (S := []) (D := [Va]) (E := 0) hr
    obtain ⟨b3, hb3⟩ : ∃ b, X3.heap.size = b := ⟨_, rfl⟩
    have hba : Below X3.heap.size X3 (X3.alloc (.cells #[.slice p3 0 q3, .slice r3 1 t3] 24)) := (Below.refl _ _).alloc (Nat.le_refl _) _
    have hbc := bNext hba hb
    have HO := Lib.hid (HO.out.next hbc)
    have K1 := Lib.hid (K1.out.next hbc)
    have K3 := Lib.hid (KeptR.new (b := b3) hb3 hs3 hd3 HTA.out.i1 HTA.out.i2)
    clear hr hs3 hd3 hb hba hbc HQ
    go_upto_region 15 with fail
    refine gen_worldA (fun W => JustB w W ∧ KeptR W b1 (.slice p1 0 q1) (.slice r1 1 t1) [] [V] ∧ KeptR W b3 (.slice p3 0 q3) (.slice r3 1 t3) [] [Va]) ⟨HO.out, K1.out, K3.out⟩ ?_
    rintro V16 ⟨hHO, hK1, hK3⟩
    clear HO K1 K3
    have HO := Lib.hid hHO
    have K1 := Lib.hid hK1
    have K3 := Lib.hid hK3
    clear hHO hK1 hK3
    go_wp2_with fail
    refine (vec_arg V16 a1 c1 b HBL.out).mono ?_
    rintro e' V17 ⟨p9, q9, rfl, hd9, hb⟩
    have HO := Lib.hid (HO.out.next hb)
    have K1 := Lib.hid (K1.out.next hb)
    have K3 := Lib.hid (K3.out.next hb)
    have HD9 := Lib.hid hd9
    clear hd9 hb
    have hq := pf_any V17 f _ _ _ b HD9.out (HB0.out.below HO.out.b)
    rw [HMB.out] at hq
    have HQ := Lib.hid hq
    clear hq HD9
    go_wp2_with fail
    refine HQ.out.mono ?_
    rintro e' X4 ⟨hr, hb⟩
    obtain ⟨p4, q4, r4, t4, rfl, hs4, hd4⟩ := ret_own (S := Sb) (D := Db) (E := Eb) hr
    obtain ⟨b4, hb4⟩ : ∃ b, X4.heap.size = b := ⟨_, rfl⟩
    have hba : Below X4.heap.size X4 (X4.alloc (.cells #[.slice p4 Sb.length q4, .slice r4 Db.length t4] 24)) := (Below.refl _ _).alloc (Nat.le_refl _) _
    have hbc := bNext hba hb
    have HO := Lib.hid (HO.out.next hbc)
    have K1 := Lib.hid (K1.out.next hbc)
    have K3 := Lib.hid (K3.out.next hbc)
    have K4 := Lib.hid (KeptR.new (b := b4) hb4 hs4 hd4 HTB.out.i1 HTB.out.i2)
    clear hr hs4 hd4 hb hba hbc HQ
    go_upto_region 16 with fail
    refine gen_worldA (fun W => JustB w W ∧ KeptR W b1 (.slice p1 0 q1) (.slice r1 1 t1) [] [V] ∧ KeptR W b3 (.slice p3 0 q3) (.slice r3 1 t3) [] [Va] ∧ KeptR W b4 (.slice p4 Sb.length q4) (.slice r4 Db.length t4) Sb Db) ⟨HO.out, K1.out, K3.out, K4.out⟩ ?_
    rintro V18 ⟨hHO, hK1, hK3, hK4⟩
    clear HO K1 K3 K4
    have HO := Lib.hid hHO
    have K1 := Lib.hid hK1
    have K3 := Lib.hid hK3
    have K4 := Lib.hid hK4
    clear hHO hK1 hK3 hK4
    have HQ0 := Lib.hid (HSC.out V18)
    go_wp2_with fail
    refine HQ0.out.mono ?_
    rintro e' V19 ⟨rfl, ns, rfl⟩
    have hb := Below.drewN (B := V18.heap.size) V18 ns
    have HO := Lib.hid (HO.out.next hb)
    have K1 := Lib.hid (K1.out.next hb)
    have K3 := Lib.hid (K3.out.next hb)
    have K4 := Lib.hid (K4.out.next hb)
    clear HQ0 HSC hb
    go_wp2_with fail
    go_ret
    exact ⟨rfl, HO.out.b⟩
  · obtain ⟨p, rfl⟩ : ∃ p, m = p + 1 := ⟨m - 1, by omega⟩
    have hml := HML.out
    obtain ⟨bx, ox, rfl, hcx⟩ := K2.out.du.atD (k := p) (by rw [HTL.out]; omega)
    obtain ⟨bw, ow, rfl, hcw⟩ := K1.out.du.atD (k := 0) (by simp)
    have hla := HLAST.out (by omega)
    rw [Nat.add_sub_cancel] at hla
    rw [hla] at hcx
    rw [show [V].getD 0 0 = V from rfl, Nat.add_zero] at hcw
    clear hla hm0
    have hpp : (p : Int) < (p : Int) + 1 := by omega
    have hp0 : (0 : Int) < (p : Int) + 1 := by omega
    have hp1 : (0 : Int) ≤ (p : Int) := by omega
    have hvv : (V != V) = false := by simp
    have f2 := cellBW y0K1; have f3 := cellBW y1K1; have f4 := cellBW y0K2; have f5 := cellBW y1K2; have f6 := cellBW hcx; have f7 := cellBW hcw
    refine wp_region_below (by kernel_rfl) (by kernel_rfl) ?_
    repeat (go_big_quiet_step (fail))
    refine wpQuiet_nil ?_
    rintro wq ⟨⟨_, hwq⟩, rfl⟩
    have HO := Lib.hid (HO.out.next hwq)
    have K1 := Lib.hid (K1.out.next hwq)
    have K2 := Lib.hid (K2.out.next hwq)
    clear hwq f2 f3 f4 f5 f6 f7 y0K1 y1K1 y0K2 y1K2 hcx hcw hpp hp0 hp1 hvv hml
    clear K2
    go_upto_region 14 with fail
    refine gen_worldA (fun W => JustB w W ∧ KeptR W b1 (.slice p1 0 q1) (.slice (some ⟨bw, ow, none⟩) 1 t1) [] [V]) ⟨HO.out, K1.out⟩ ?_
    rintro V14 ⟨hHO, hK1⟩
    clear HO K1
    have HO := Lib.hid hHO
    have K1 := Lib.hid hK1
    clear hHO hK1
    go_wp2_with fail
    refine (vec_arg V14 a0 c0 a HAL.out).mono ?_
    rintro e' V15 ⟨p8, q8, rfl, hd8, hb⟩
    have HO := Lib.hid (HO.out.next hb)
    have K1 := Lib.hid (K1.out.next hb)
    have HD8 := Lib.hid hd8
    clear hd8 hb
    have hq := pf_any V15 f _ _ _ a HD8.out (HA.out.below HO.out.b)
    rw [HMA.out] at hq
    have HQ := Lib.hid hq
    clear hq HD8
    go_wp2_with fail
    refine HQ.out.mono ?_
    rintro e' X3 ⟨hr, hb⟩
    obtain ⟨p3, q3, r3, t3, rfl, hs3, hd3⟩ := ret_own (S := []) (D := [Va]) (E := 0) hr
    obtain ⟨b3, hb3⟩ : ∃ b, X3.heap.size = b := ⟨_, rfl⟩
    have hba : Below X3.heap.size X3 (X3.alloc (.cells #[.slice p3 0 q3, .slice r3 1 t3] 24)) := (Below.refl _ _).alloc (Nat.le_refl _) _
    have hbc := bNext hba hb
    have HO := Lib.hid (HO.out.next hbc)
    have K1 := Lib.hid (K1.out.next hbc)
    have K3 := Lib.hid (KeptR.new (b := b3) hb3 hs3 hd3 HTA.out.i1 HTA.out.i2)
    clear hr hs3 hd3 hb hba hbc HQ
    go_upto_region 15 with fail
    refine gen_worldA (fun W => JustB w W ∧ KeptR W b1 (.slice p1 0 q1) (.slice (some ⟨bw, ow, none⟩) 1 t1) [] [V] ∧ KeptR W b3 (.slice p3 0 q3) (.slice r3 1 t3) [] [Va]) ⟨HO.out, K1.out, K3.out⟩ ?_
    rintro V16 ⟨hHO, hK1, hK3⟩
    clear HO K1 K3
    have HO := Lib.hid hHO
    have K1 := Lib.hid hK1
    have K3 := Lib.hid hK3
    clear hHO hK1 hK3
    go_wp2_with fail
    refine (vec_arg V16 a1 c1 b HBL.out).mono ?_
    rintro e' V17 ⟨p9, q9, rfl, hd9, hb⟩
    have HO := Lib.hid (HO.out.next hb)
    have K1 := Lib.hid (K1.out.next hb)
    have K3 := Lib.hid (K3.out.next hb)
    have HD9 := Lib.hid hd9
    clear hd9 hb
    have hq := pf_any V17 f _ _ _ b HD9.out (HB0.out.below HO.out.b)
    rw [HMB.out] at hq
    have HQ := Lib.hid hq
    clear hq HD9
    go_wp2_with fail
    refine HQ.out.mono ?_
    rintro e' X4 ⟨hr, hb⟩
    obtain ⟨p4, q4, r4, t4, rfl, hs4, hd4⟩ := ret_own (S := Sb) (D := Db) (E := Eb) hr
    obtain ⟨b4, hb4⟩ : ∃ b, X4.heap.size = b := ⟨_, rfl⟩
    have hba : Below X4.heap.size X4 (X4.alloc (.cells #[.slice p4 Sb.length q4, .slice r4 Db.length t4] 24)) := (Below.refl _ _).alloc (Nat.le_refl _) _
    have hbc := bNext hba hb
    have HO := Lib.hid (HO.out.next hbc)
    have K1 := Lib.hid (K1.out.next hbc)
    have K3 := Lib.hid (K3.out.next hbc)
    have K4 := Lib.hid (KeptR.new (b := b4) hb4 hs4 hd4 HTB.out.i1 HTB.out.i2)
    clear hr hs4 hd4 hb hba hbc HQ
    go_upto_region 16 with fail
    refine gen_worldA (fun W => JustB w W ∧ KeptR W b1 (.slice p1 0 q1) (.slice (some ⟨bw, ow, none⟩) 1 t1) [] [V] ∧ KeptR W b3 (.slice p3 0 q3) (.slice r3 1 t3) [] [Va] ∧ KeptR W b4 (.slice p4 Sb.length q4) (.slice r4 Db.length t4) Sb Db) ⟨HO.out, K1.out, K3.out, K4.out⟩ ?_
    rintro V18 ⟨hHO, hK1, hK3, hK4⟩
    clear HO K1 K3 K4
    have HO := Lib.hid hHO
    have K1 := Lib.hid hK1
    have K3 := Lib.hid hK3
    have K4 := Lib.hid hK4
    clear hHO hK1 hK3 hK4
    have HQ0 := Lib.hid (HSC.out V18)
    go_wp2_with fail
    refine HQ0.out.mono ?_
    rintro e' V19 ⟨rfl, ns, rfl⟩
    have hb := Below.drewN (B := V18.heap.size) V18 ns
    have HO := Lib.hid (HO.out.next hb)
    have K1 := Lib.hid (K1.out.next hb)
    have K3 := Lib.hid (K3.out.next hb)
    have K4 := Lib.hid (K4.out.next hb)
    clear HQ0 HSC hb
    go_wp2_with fail
    go_ret
    exact ⟨rfl, HO.out.b⟩
set_option maxHeartbeats 16000000 in
theorem PrimPieces_badb (w : World) (f : Int) (va : Value) (a : List Int) (vb : Value) (b : List Int) (ha : SlA w va a) (hb : SlA w vb b) (h1 : ¬ 30000 < a.length) (h2 : ¬ 30000 < b.length) (htk : takes f true = true) (hbd : (laneL f (a ++ b)).2 = false) (hsc : scansB f = true) (hbb : (laneL f b).2 = true) :
    Calls Try.prog 12 #[.int .u8 f, va, vb] w fun e w' => e = .returned (.bool true) ∧ Below w.heap.size w w' := by
  have HA := Lib.hid ha; have HB0 := Lib.hid hb
  have HAL := Lib.hid ha.le; have HBL := Lib.hid hb.le
  have h1I : ¬ (30000 : Int) < (a.length : Int) := by omega
  have h2I : ¬ (30000 : Int) < (b.length : Int) := by omega
  have hab : a.length + b.length ≤ 65536 := by omega
  have hin : ∀ x ∈ a ++ b, In64 x := fun x hx => (List.mem_append.1 hx).elim (in_of ha x) (in_of hb x)
  have hxl : (a ++ b).length ≤ 65536 := by rw [List.length_append]; omega
  have hm0 := word_ok (cat_vec hab)
  have ht0 := Rt.okA (vec_right hxl) hin
  unfold okA at ht0
  have hba : (laneL f a).2 = false := by cases h : (laneL f a).2 with | false => rfl | true => exact absurd (laneL_bad f a b h) (by rw [hbd]; decide)
  have hm1 := word_ok ((fold_vec htk hxl).trans (if_neg (by rw [hbd]; decide)))
  have hm2 := word_ok ((scan_vec htk hxl).trans (if_neg (by rw [hbd]; decide)))
  have hma := word_ok ((fold_vec (d := a) htk (by omega)).trans (if_neg (by rw [hba]; decide)))
  have ht1 := foldA_rt f (s := [((a ++ b).length : Int)]) hin; have ht2 := scanA_rt f (s := [((a ++ b).length : Int)]) hin; have hta := foldA_rt f (s := [(a.length : Int)]) (in_of ha)
  rw [hm1] at ht1; rw [hm2] at ht2; rw [hma] at hta
  have hmb := word_no ((fold_vec (d := b) htk (by omega)).trans (if_pos hbb))
  have HTB := Lib.hid (Rt.noA (e := 11) (by decide))
  unfold noA at HTB
  have HMB := Lib.hid hmb
  have HSC := Lib.hid (fun W => scans_at W f true hsc)
  have hlast := fun h => scan_last (f := f) (d := a ++ b) h
  have hsl := scanR_len f (a ++ b)
  obtain ⟨ls, hls⟩ : ∃ l : List Int, [((a ++ b).length : Int)] = l := ⟨_, rfl⟩
  rw [hls] at hm0 hm1 hm2 ht0 ht2
  obtain ⟨m, hmm⟩ : ∃ m, (a ++ b).length = m := ⟨_, rfl⟩
  rw [hmm] at hsl hlast hxl
  obtain ⟨X, hX⟩ : ∃ X, a ++ b = X := ⟨_, rfl⟩
  rw [hX] at hm0 hm1 hm2 ht0 ht1 ht2 hlast hsl
  obtain ⟨T, hT⟩ : ∃ T, scanR f X = T := ⟨_, rfl⟩
  rw [hT] at hm2 ht2 hlast hsl
  obtain ⟨V, hV⟩ : ∃ V, vF f X = V := ⟨_, rfl⟩
  rw [hV] at hm1 ht1 hlast
  obtain ⟨Va, hVa⟩ : ∃ V, vF f a = V := ⟨_, rfl⟩
  rw [hVa] at hma hta
  have HM0 := Lib.hid hm0; have HM1 := Lib.hid hm1; have HM2 := Lib.hid hm2; have HMA := Lib.hid hma; have HT0 := Lib.hid ht0; have HT1 := Lib.hid ht1; have HT2 := Lib.hid ht2; have HTA := Lib.hid hta
  have HTL := Lib.hid hsl; have HLAST := Lib.hid hlast; have HML := Lib.hid hxl
  obtain ⟨a0, c0, rfl, -⟩ := ha
  obtain ⟨a1, c1, rfl, -⟩ := hb
  clear h1 h2 htk hab hin hxl hm0 hm1 hm2 hma ht0 ht1 ht2 hta hls hX hT hV hVa hbd hba hsl hlast hmm hsc hbb hmb
  go_enter Try.func12, Try.ntmps12
  go_upto_region 1 with fail
  refine gen_worldA (fun W => JustB w W) ⟨Below.refl _ _⟩ ?_
  rintro W hO
  have HO := Lib.hid hO
  clear hO
  go_wp2_with fail
  refine (shown_any _).mono ?_
  rintro e' V0 ⟨rfl, hb⟩
  have HO := Lib.hid (HO.out.next hb)
  clear hb
  go_upto_region 4 with fail
  refine gen_worldA (fun W => JustB w W) HO.out ?_
  rintro V4 hHO
  clear HO
  have HO := Lib.hid hHO
  clear hHO
  go_wp2_with fail
  refine (vec_arg V4 a0 c0 a HAL.out).mono ?_
  rintro e' V5 ⟨p8, q8, rfl, hd8, hb⟩
  have HO := Lib.hid (HO.out.next hb)
  have HD8 := Lib.hid hd8
  clear hd8 hb
  go_wp2_with fail
  refine (vec_arg V5 a1 c1 b HBL.out).mono ?_
  rintro e' V6 ⟨p9, q9, rfl, hd9, hb⟩
  have HO := Lib.hid (HO.out.next hb)
  have HD9 := Lib.hid hd9; have HD8 := Lib.hid (HD8.out.below hb)
  clear hd9 hb
  have hq := pd_any V6 40 _ _ _ _ _ a _ b HD8.out (HA.out.below HO.out.b) HD9.out (HB0.out.below HO.out.b)
  rw [HM0.out] at hq
  have HQ := Lib.hid hq
  clear hq HD8 HD9
  go_wp2_with fail
  refine HQ.out.mono ?_
  rintro e' X0 ⟨hr, hb⟩
  obtain ⟨p0, q0, r0, t0, rfl, hs0, hd0⟩ := ret_own (S := ls) (D := X) (E := 0) hr
  obtain ⟨b0, hb0⟩ : ∃ b, X0.heap.size = b := ⟨_, rfl⟩
  have hba : Below X0.heap.size X0 (X0.alloc (.cells #[.slice p0 ls.length q0, .slice r0 X.length t0] 24)) := (Below.refl _ _).alloc (Nat.le_refl _) _
  have hbc := bNext hba hb
  have HO := Lib.hid (HO.out.next hbc)
  have K0 := Lib.hid (KeptR.new (b := b0) hb0 hs0 hd0 HT0.out.i1 HT0.out.i2)
  clear hr hs0 hd0 hb hba hbc HQ
  go_upto_region 5 with fail
  refine gen_worldA (fun W => JustB w W ∧ KeptR W b0 (.slice p0 ls.length q0) (.slice r0 X.length t0) ls X) ⟨HO.out, K0.out⟩ ?_
  rintro V7 ⟨hHO, hK0⟩
  clear HO K0
  have HO := Lib.hid hHO
  have K0 := Lib.hid hK0
  clear hHO hK0
  have y0K0 := K0.out.c0; have y1K0 := K0.out.c1
  have hq := pf_any V7 f _ _ _ _ K0.out.sv K0.out.su
  rw [HM1.out] at hq
  have HQ := Lib.hid hq
  clear hq
  go_wp2_with fail
  refine HQ.out.mono ?_
  rintro e' X1 ⟨hr, hb⟩
  obtain ⟨p1, q1, r1, t1, rfl, hs1, hd1⟩ := ret_own (S := []) (D := [V]) (E := 0) hr
  obtain ⟨b1, hb1⟩ : ∃ b, X1.heap.size = b := ⟨_, rfl⟩
  have hba : Below X1.heap.size X1 (X1.alloc (.cells #[.slice p1 0 q1, .slice r1 1 t1] 24)) := (Below.refl _ _).alloc (Nat.le_refl _) _
  have hbc := bNext hba hb
  have HO := Lib.hid (HO.out.next hbc)
  have K0 := Lib.hid (K0.out.next hbc)
  have K1 := Lib.hid (KeptR.new (b := b1) hb1 hs1 hd1 HT1.out.i1 HT1.out.i2)
  clear hr hs1 hd1 hb hba hbc HQ y0K0 y1K0
  go_upto_region 6 with fail
  refine gen_worldA (fun W => JustB w W ∧ KeptR W b0 (.slice p0 ls.length q0) (.slice r0 X.length t0) ls X ∧ KeptR W b1 (.slice p1 0 q1) (.slice r1 1 t1) [] [V]) ⟨HO.out, K0.out, K1.out⟩ ?_
  rintro V8 ⟨hHO, hK0, hK1⟩
  clear HO K0 K1
  have HO := Lib.hid hHO
  have K0 := Lib.hid hK0
  have K1 := Lib.hid hK1
  clear hHO hK0 hK1
  have y0K0 := K0.out.c0; have y1K0 := K0.out.c1
  have hq := ps_any V8 f _ _ _ _ K0.out.sv K0.out.su
  rw [HM2.out] at hq
  have HQ := Lib.hid hq
  clear hq
  go_wp2_with fail
  refine HQ.out.mono ?_
  rintro e' X2 ⟨hr, hb⟩
  obtain ⟨p2, q2, r2, t2, rfl, hs2, hd2⟩ := ret_own (S := ls) (D := T) (E := 0) hr
  obtain ⟨b2, hb2⟩ : ∃ b, X2.heap.size = b := ⟨_, rfl⟩
  have hba : Below X2.heap.size X2 (X2.alloc (.cells #[.slice p2 ls.length q2, .slice r2 T.length t2] 24)) := (Below.refl _ _).alloc (Nat.le_refl _) _
  have hbc := bNext hba hb
  have HO := Lib.hid (HO.out.next hbc)
  have K0 := Lib.hid (K0.out.next hbc)
  have K1 := Lib.hid (K1.out.next hbc)
  have K2 := Lib.hid (KeptR.new (b := b2) hb2 hs2 hd2 HT2.out.i1 HT2.out.i2)
  clear hr hs2 hd2 hb hba hbc HQ y0K0 y1K0
  clear K0
  go_upto_region 7 with fail
  refine gen_worldA (fun W => JustB w W ∧ KeptR W b1 (.slice p1 0 q1) (.slice r1 1 t1) [] [V] ∧ KeptR W b2 (.slice p2 ls.length q2) (.slice r2 T.length t2) ls T) ⟨HO.out, K1.out, K2.out⟩ ?_
  rintro V9 ⟨hHO, hK1, hK2⟩
  clear HO K1 K2
  have HO := Lib.hid hHO
  have K1 := Lib.hid hK1
  have K2 := Lib.hid hK2
  clear hHO hK1 hK2
  rw [HTL.out] at K2
  have y0K1 := K1.out.c0; have y1K1 := K1.out.c1
  have y0K2 := K2.out.c0; have y1K2 := K2.out.c1
  go_upto_region 12 with fail
  skip
  by_cases hm0 : m = 0
  · subst hm0
    have f2 := cellBW y0K1; have f3 := cellBW y1K1; have f4 := cellBW y0K2; have f5 := cellBW y1K2
    refine wp_region_below (by kernel_rfl) (by kernel_rfl) ?_
    repeat (go_big_quiet_step (fail))
    refine wpQuiet_nil ?_
    rintro wq ⟨⟨_, hwq⟩, rfl⟩
    have HO := Lib.hid (HO.out.next hwq)
    have K1 := Lib.hid (K1.out.next hwq)
    have K2 := Lib.hid (K2.out.next hwq)
    clear hwq f2 f3 f4 f5 y0K1 y1K1 y0K2 y1K2
    clear K2
    go_upto_region 14 with fail
    refine gen_worldA (fun W => JustB w W ∧ KeptR W b1 (.slice p1 0 q1) (.slice r1 1 t1) [] [V]) ⟨HO.out, K1.out⟩ ?_
    rintro V14 ⟨hHO, hK1⟩
    clear HO K1
    have HO := Lib.hid hHO
    have K1 := Lib.hid hK1
    clear hHO hK1
    go_wp2_with fail
    refine (vec_arg V14 a0 c0 a HAL.out).mono ?_
    rintro e' V15 ⟨p8, q8, rfl, hd8, hb⟩
    have HO := Lib.hid (HO.out.next hb)
    have K1 := Lib.hid (K1.out.next hb)
    have HD8 := Lib.hid hd8
    clear hd8 hb
    have hq := pf_any V15 f _ _ _ a HD8.out (HA.out.below HO.out.b)
    rw [HMA.out] at hq
    have HQ := Lib.hid hq
    clear hq HD8
    go_wp2_with fail
    refine HQ.out.mono ?_
    rintro e' X3 ⟨hr, hb⟩
    obtain ⟨p3, q3, r3, t3, rfl, hs3, hd3⟩ := ret_own (S := []) (D := [Va]) (E := 0) hr
    obtain ⟨b3, hb3⟩ : ∃ b, X3.heap.size = b := ⟨_, rfl⟩
    have hba : Below X3.heap.size X3 (X3.alloc (.cells #[.slice p3 0 q3, .slice r3 1 t3] 24)) := (Below.refl _ _).alloc (Nat.le_refl _) _
    have hbc := bNext hba hb
    have HO := Lib.hid (HO.out.next hbc)
    have K1 := Lib.hid (K1.out.next hbc)
    have K3 := Lib.hid (KeptR.new (b := b3) hb3 hs3 hd3 HTA.out.i1 HTA.out.i2)
    clear hr hs3 hd3 hb hba hbc HQ
    go_upto_region 15 with fail
    refine gen_worldA (fun W => JustB w W ∧ KeptR W b1 (.slice p1 0 q1) (.slice r1 1 t1) [] [V] ∧ KeptR W b3 (.slice p3 0 q3) (.slice r3 1 t3) [] [Va]) ⟨HO.out, K1.out, K3.out⟩ ?_
    rintro V16 ⟨hHO, hK1, hK3⟩
    clear HO K1 K3
    have HO := Lib.hid hHO
    have K1 := Lib.hid hK1
    have K3 := Lib.hid hK3
    clear hHO hK1 hK3
    go_wp2_with fail
    refine (vec_arg V16 a1 c1 b HBL.out).mono ?_
    rintro e' V17 ⟨p9, q9, rfl, hd9, hb⟩
    have HO := Lib.hid (HO.out.next hb)
    have K1 := Lib.hid (K1.out.next hb)
    have K3 := Lib.hid (K3.out.next hb)
    have HD9 := Lib.hid hd9
    clear hd9 hb
    have hq := pf_any V17 f _ _ _ b HD9.out (HB0.out.below HO.out.b)
    rw [HMB.out] at hq
    have HQ := Lib.hid hq
    clear hq HD9
    go_wp2_with fail
    refine HQ.out.mono ?_
    rintro e' X4 ⟨hr, hb⟩
    obtain ⟨p4, q4, r4, t4, rfl, hs4, hd4⟩ := ret_own (S := []) (D := []) (E := 11) hr
    obtain ⟨b4, hb4⟩ : ∃ b, X4.heap.size = b := ⟨_, rfl⟩
    have hba : Below X4.heap.size X4 (X4.alloc (.cells #[.slice p4 0 q4, .slice r4 0 t4] 24)) := (Below.refl _ _).alloc (Nat.le_refl _) _
    have hbc := bNext hba hb
    have HO := Lib.hid (HO.out.next hbc)
    have K1 := Lib.hid (K1.out.next hbc)
    have K3 := Lib.hid (K3.out.next hbc)
    have K4 := Lib.hid (KeptR.new (b := b4) hb4 hs4 hd4 HTB.out.i1 HTB.out.i2)
    clear hr hs4 hd4 hb hba hbc HQ
    go_upto_region 16 with fail
    refine gen_worldA (fun W => JustB w W ∧ KeptR W b1 (.slice p1 0 q1) (.slice r1 1 t1) [] [V] ∧ KeptR W b3 (.slice p3 0 q3) (.slice r3 1 t3) [] [Va] ∧ KeptR W b4 (.slice p4 0 q4) (.slice r4 0 t4) [] []) ⟨HO.out, K1.out, K3.out, K4.out⟩ ?_
    rintro V18 ⟨hHO, hK1, hK3, hK4⟩
    clear HO K1 K3 K4
    have HO := Lib.hid hHO
    have K1 := Lib.hid hK1
    have K3 := Lib.hid hK3
    have K4 := Lib.hid hK4
    clear hHO hK1 hK3 hK4
    have HQ0 := Lib.hid (HSC.out V18)
    go_wp2_with fail
    refine HQ0.out.mono ?_
    rintro e' V19 ⟨rfl, ns, rfl⟩
    have hb := Below.drewN (B := V18.heap.size) V18 ns
    have HO := Lib.hid (HO.out.next hb)
    have K1 := Lib.hid (K1.out.next hb)
    have K3 := Lib.hid (K3.out.next hb)
    have K4 := Lib.hid (K4.out.next hb)
    clear HQ0 HSC hb
    go_wp2_with fail
    go_ret
    exact ⟨rfl, HO.out.b⟩
  · obtain ⟨p, rfl⟩ : ∃ p, m = p + 1 := ⟨m - 1, by omega⟩
    have hml := HML.out
    obtain ⟨bx, ox, rfl, hcx⟩ := K2.out.du.atD (k := p) (by rw [HTL.out]; omega)
    obtain ⟨bw, ow, rfl, hcw⟩ := K1.out.du.atD (k := 0) (by simp)
    have hla := HLAST.out (by omega)
    rw [Nat.add_sub_cancel] at hla
    rw [hla] at hcx
    rw [show [V].getD 0 0 = V from rfl, Nat.add_zero] at hcw
    clear hla hm0
    have hpp : (p : Int) < (p : Int) + 1 := by omega
    have hp0 : (0 : Int) < (p : Int) + 1 := by omega
    have hp1 : (0 : Int) ≤ (p : Int) := by omega
    have hvv : (V != V) = false := by simp
    have f2 := cellBW y0K1; have f3 := cellBW y1K1; have f4 := cellBW y0K2; have f5 := cellBW y1K2; have f6 := cellBW hcx; have f7 := cellBW hcw
    refine wp_region_below (by kernel_rfl) (by kernel_rfl) ?_
    repeat (go_big_quiet_step (fail))
    refine wpQuiet_nil ?_
    rintro wq ⟨⟨_, hwq⟩, rfl⟩
    have HO := Lib.hid (HO.out.next hwq)
    have K1 := Lib.hid (K1.out.next hwq)
    have K2 := Lib.hid (K2.out.next hwq)
    clear hwq f2 f3 f4 f5 f6 f7 y0K1 y1K1 y0K2 y1K2 hcx hcw hpp hp0 hp1 hvv hml
    clear K2
    go_upto_region 14 with fail
    refine gen_worldA (fun W => JustB w W ∧ KeptR W b1 (.slice p1 0 q1) (.slice (some ⟨bw, ow, none⟩) 1 t1) [] [V]) ⟨HO.out, K1.out⟩ ?_
    rintro V14 ⟨hHO, hK1⟩
    clear HO K1
    have HO := Lib.hid hHO
    have K1 := Lib.hid hK1
    clear hHO hK1
    go_wp2_with fail
    refine (vec_arg V14 a0 c0 a HAL.out).mono ?_
    rintro e' V15 ⟨p8, q8, rfl, hd8, hb⟩
    have HO := Lib.hid (HO.out.next hb)
    have K1 := Lib.hid (K1.out.next hb)
    have HD8 := Lib.hid hd8
    clear hd8 hb
    have hq := pf_any V15 f _ _ _ a HD8.out (HA.out.below HO.out.b)
    rw [HMA.out] at hq
    have HQ := Lib.hid hq
    clear hq HD8
    go_wp2_with fail
    refine HQ.out.mono ?_
    rintro e' X3 ⟨hr, hb⟩
    obtain ⟨p3, q3, r3, t3, rfl, hs3, hd3⟩ := ret_own (S := []) (D := [Va]) (E := 0) hr
    obtain ⟨b3, hb3⟩ : ∃ b, X3.heap.size = b := ⟨_, rfl⟩
    have hba : Below X3.heap.size X3 (X3.alloc (.cells #[.slice p3 0 q3, .slice r3 1 t3] 24)) := (Below.refl _ _).alloc (Nat.le_refl _) _
    have hbc := bNext hba hb
    have HO := Lib.hid (HO.out.next hbc)
    have K1 := Lib.hid (K1.out.next hbc)
    have K3 := Lib.hid (KeptR.new (b := b3) hb3 hs3 hd3 HTA.out.i1 HTA.out.i2)
    clear hr hs3 hd3 hb hba hbc HQ
    go_upto_region 15 with fail
    refine gen_worldA (fun W => JustB w W ∧ KeptR W b1 (.slice p1 0 q1) (.slice (some ⟨bw, ow, none⟩) 1 t1) [] [V] ∧ KeptR W b3 (.slice p3 0 q3) (.slice r3 1 t3) [] [Va]) ⟨HO.out, K1.out, K3.out⟩ ?_
    rintro V16 ⟨hHO, hK1, hK3⟩
    clear HO K1 K3
    have HO := Lib.hid hHO
    have K1 := Lib.hid hK1
    have K3 := Lib.hid hK3
    clear hHO hK1 hK3
    go_wp2_with fail
    refine (vec_arg V16 a1 c1 b HBL.out).mono ?_
    rintro e' V17 ⟨p9, q9, rfl, hd9, hb⟩
    have HO := Lib.hid (HO.out.next hb)
    have K1 := Lib.hid (K1.out.next hb)
    have K3 := Lib.hid (K3.out.next hb)
    have HD9 := Lib.hid hd9
    clear hd9 hb
    have hq := pf_any V17 f _ _ _ b HD9.out (HB0.out.below HO.out.b)
    rw [HMB.out] at hq
    have HQ := Lib.hid hq
    clear hq HD9
    go_wp2_with fail
    refine HQ.out.mono ?_
    rintro e' X4 ⟨hr, hb⟩
    obtain ⟨p4, q4, r4, t4, rfl, hs4, hd4⟩ := ret_own (S := []) (D := []) (E := 11) hr
    obtain ⟨b4, hb4⟩ : ∃ b, X4.heap.size = b := ⟨_, rfl⟩
    have hba : Below X4.heap.size X4 (X4.alloc (.cells #[.slice p4 0 q4, .slice r4 0 t4] 24)) := (Below.refl _ _).alloc (Nat.le_refl _) _
    have hbc := bNext hba hb
    have HO := Lib.hid (HO.out.next hbc)
    have K1 := Lib.hid (K1.out.next hbc)
    have K3 := Lib.hid (K3.out.next hbc)
    have K4 := Lib.hid (KeptR.new (b := b4) hb4 hs4 hd4 HTB.out.i1 HTB.out.i2)
    clear hr hs4 hd4 hb hba hbc HQ
    go_upto_region 16 with fail
    refine gen_worldA (fun W => JustB w W ∧ KeptR W b1 (.slice p1 0 q1) (.slice (some ⟨bw, ow, none⟩) 1 t1) [] [V] ∧ KeptR W b3 (.slice p3 0 q3) (.slice r3 1 t3) [] [Va] ∧ KeptR W b4 (.slice p4 0 q4) (.slice r4 0 t4) [] []) ⟨HO.out, K1.out, K3.out, K4.out⟩ ?_
    rintro V18 ⟨hHO, hK1, hK3, hK4⟩
    clear HO K1 K3 K4
    have HO := Lib.hid hHO
    have K1 := Lib.hid hK1
    have K3 := Lib.hid hK3
    have K4 := Lib.hid hK4
    clear hHO hK1 hK3 hK4
    have HQ0 := Lib.hid (HSC.out V18)
    go_wp2_with fail
    refine HQ0.out.mono ?_
    rintro e' V19 ⟨rfl, ns, rfl⟩
    have hb := Below.drewN (B := V18.heap.size) V18 ns
    have HO := Lib.hid (HO.out.next hb)
    have K1 := Lib.hid (K1.out.next hb)
    have K3 := Lib.hid (K3.out.next hb)
    have K4 := Lib.hid (K4.out.next hb)
    clear HQ0 HSC hb
    go_wp2_with fail
    go_ret
    exact ⟨rfl, HO.out.b⟩
set_option maxHeartbeats 16000000 in
theorem PrimPieces_refs (w : World) (f : Int) (va : Value) (a : List Int) (vb : Value) (b : List Int) (ha : SlA w va a) (hb : SlA w vb b) (h1 : ¬ 30000 < a.length) (h2 : ¬ 30000 < b.length) (htk : takes f true = true) (hbd : (laneL f (a ++ b)).2 = false) (hsc : scansB f = true) (hbb : (laneL f b).2 = false) (hrf : refusesB f (vF f a) (vF f b) = true) :
    Calls Try.prog 12 #[.int .u8 f, va, vb] w fun e w' => e = .returned (.bool true) ∧ Below w.heap.size w w' := by
  have HA := Lib.hid ha; have HB0 := Lib.hid hb
  have HAL := Lib.hid ha.le; have HBL := Lib.hid hb.le
  have h1I : ¬ (30000 : Int) < (a.length : Int) := by omega
  have h2I : ¬ (30000 : Int) < (b.length : Int) := by omega
  have hab : a.length + b.length ≤ 65536 := by omega
  have hin : ∀ x ∈ a ++ b, In64 x := fun x hx => (List.mem_append.1 hx).elim (in_of ha x) (in_of hb x)
  have hxl : (a ++ b).length ≤ 65536 := by rw [List.length_append]; omega
  have hm0 := word_ok (cat_vec hab)
  have ht0 := Rt.okA (vec_right hxl) hin
  unfold okA at ht0
  have hba : (laneL f a).2 = false := by cases h : (laneL f a).2 with | false => rfl | true => exact absurd (laneL_bad f a b h) (by rw [hbd]; decide)
  have hm1 := word_ok ((fold_vec htk hxl).trans (if_neg (by rw [hbd]; decide)))
  have hm2 := word_ok ((scan_vec htk hxl).trans (if_neg (by rw [hbd]; decide)))
  have hma := word_ok ((fold_vec (d := a) htk (by omega)).trans (if_neg (by rw [hba]; decide)))
  have ht1 := foldA_rt f (s := [((a ++ b).length : Int)]) hin; have ht2 := scanA_rt f (s := [((a ++ b).length : Int)]) hin; have hta := foldA_rt f (s := [(a.length : Int)]) (in_of ha)
  rw [hm1] at ht1; rw [hm2] at ht2; rw [hma] at hta
  have hmb := word_ok ((fold_vec (d := b) htk (by omega)).trans (if_neg (by rw [hbb]; decide)))
  have htb := foldA_rt f (s := [(b.length : Int)]) (in_of hb)
  rw [hmb] at htb
  have HSC := Lib.hid (fun W => scans_at W f true hsc)
  have hmj := word_no ((dy_num (x := vF f a) (y := vF f b) htk).trans (if_pos hrf))
  have HTJ := Lib.hid (Rt.noA (e := 11) (by decide))
  unfold noA at HTJ
  have HTO := Lib.hid (fun W => total_at W f true false (scans_total hsc hrf))
  obtain ⟨Vb, hVb⟩ : ∃ V, vF f b = V := ⟨_, rfl⟩
  rw [hVb] at hmb htb hmj
  have HMB := Lib.hid hmb; have HTB := Lib.hid htb
  have hlast := fun h => scan_last (f := f) (d := a ++ b) h
  have hsl := scanR_len f (a ++ b)
  obtain ⟨ls, hls⟩ : ∃ l : List Int, [((a ++ b).length : Int)] = l := ⟨_, rfl⟩
  rw [hls] at hm0 hm1 hm2 ht0 ht2
  obtain ⟨m, hmm⟩ : ∃ m, (a ++ b).length = m := ⟨_, rfl⟩
  rw [hmm] at hsl hlast hxl
  obtain ⟨X, hX⟩ : ∃ X, a ++ b = X := ⟨_, rfl⟩
  rw [hX] at hm0 hm1 hm2 ht0 ht1 ht2 hlast hsl
  obtain ⟨T, hT⟩ : ∃ T, scanR f X = T := ⟨_, rfl⟩
  rw [hT] at hm2 ht2 hlast hsl
  obtain ⟨V, hV⟩ : ∃ V, vF f X = V := ⟨_, rfl⟩
  rw [hV] at hm1 ht1 hlast
  obtain ⟨Va, hVa⟩ : ∃ V, vF f a = V := ⟨_, rfl⟩
  rw [hVa] at hma hta hmj
  have HM0 := Lib.hid hm0; have HM1 := Lib.hid hm1; have HM2 := Lib.hid hm2; have HMA := Lib.hid hma; have HT0 := Lib.hid ht0; have HT1 := Lib.hid ht1; have HT2 := Lib.hid ht2; have HTA := Lib.hid hta
  have HMJ := Lib.hid hmj
  have HTL := Lib.hid hsl; have HLAST := Lib.hid hlast; have HML := Lib.hid hxl
  obtain ⟨a0, c0, rfl, -⟩ := ha
  obtain ⟨a1, c1, rfl, -⟩ := hb
  clear h1 h2 htk hab hin hxl hm0 hm1 hm2 hma ht0 ht1 ht2 hta hls hX hT hV hVa hbd hba hsl hlast hmm hsc hbb hrf hmb htb hVb hmj
  go_enter Try.func12, Try.ntmps12
  go_upto_region 1 with fail
  refine gen_worldA (fun W => JustB w W) ⟨Below.refl _ _⟩ ?_
  rintro W hO
  have HO := Lib.hid hO
  clear hO
  go_wp2_with fail
  refine (shown_any _).mono ?_
  rintro e' V0 ⟨rfl, hb⟩
  have HO := Lib.hid (HO.out.next hb)
  clear hb
  go_upto_region 4 with fail
  refine gen_worldA (fun W => JustB w W) HO.out ?_
  rintro V4 hHO
  clear HO
  have HO := Lib.hid hHO
  clear hHO
  go_wp2_with fail
  refine (vec_arg V4 a0 c0 a HAL.out).mono ?_
  rintro e' V5 ⟨p8, q8, rfl, hd8, hb⟩
  have HO := Lib.hid (HO.out.next hb)
  have HD8 := Lib.hid hd8
  clear hd8 hb
  go_wp2_with fail
  refine (vec_arg V5 a1 c1 b HBL.out).mono ?_
  rintro e' V6 ⟨p9, q9, rfl, hd9, hb⟩
  have HO := Lib.hid (HO.out.next hb)
  have HD9 := Lib.hid hd9; have HD8 := Lib.hid (HD8.out.below hb)
  clear hd9 hb
  have hq := pd_any V6 40 _ _ _ _ _ a _ b HD8.out (HA.out.below HO.out.b) HD9.out (HB0.out.below HO.out.b)
  rw [HM0.out] at hq
  have HQ := Lib.hid hq
  clear hq HD8 HD9
  go_wp2_with fail
  refine HQ.out.mono ?_
  rintro e' X0 ⟨hr, hb⟩
  obtain ⟨p0, q0, r0, t0, rfl, hs0, hd0⟩ := ret_own (S := ls) (D := X) (E := 0) hr
  obtain ⟨b0, hb0⟩ : ∃ b, X0.heap.size = b := ⟨_, rfl⟩
  have hba : Below X0.heap.size X0 (X0.alloc (.cells #[.slice p0 ls.length q0, .slice r0 X.length t0] 24)) := (Below.refl _ _).alloc (Nat.le_refl _) _
  have hbc := bNext hba hb
  have HO := Lib.hid (HO.out.next hbc)
  have K0 := Lib.hid (KeptR.new (b := b0) hb0 hs0 hd0 HT0.out.i1 HT0.out.i2)
  clear hr hs0 hd0 hb hba hbc HQ
  go_upto_region 5 with fail
  refine gen_worldA (fun W => JustB w W ∧ KeptR W b0 (.slice p0 ls.length q0) (.slice r0 X.length t0) ls X) ⟨HO.out, K0.out⟩ ?_
  rintro V7 ⟨hHO, hK0⟩
  clear HO K0
  have HO := Lib.hid hHO
  have K0 := Lib.hid hK0
  clear hHO hK0
  have y0K0 := K0.out.c0; have y1K0 := K0.out.c1
  have hq := pf_any V7 f _ _ _ _ K0.out.sv K0.out.su
  rw [HM1.out] at hq
  have HQ := Lib.hid hq
  clear hq
  go_wp2_with fail
  refine HQ.out.mono ?_
  rintro e' X1 ⟨hr, hb⟩
  obtain ⟨p1, q1, r1, t1, rfl, hs1, hd1⟩ := ret_own (S := []) (D := [V]) (E := 0) hr
  obtain ⟨b1, hb1⟩ : ∃ b, X1.heap.size = b := ⟨_, rfl⟩
  have hba : Below X1.heap.size X1 (X1.alloc (.cells #[.slice p1 0 q1, .slice r1 1 t1] 24)) := (Below.refl _ _).alloc (Nat.le_refl _) _
  have hbc := bNext hba hb
  have HO := Lib.hid (HO.out.next hbc)
  have K0 := Lib.hid (K0.out.next hbc)
  have K1 := Lib.hid (KeptR.new (b := b1) hb1 hs1 hd1 HT1.out.i1 HT1.out.i2)
  clear hr hs1 hd1 hb hba hbc HQ y0K0 y1K0
  go_upto_region 6 with fail
  refine gen_worldA (fun W => JustB w W ∧ KeptR W b0 (.slice p0 ls.length q0) (.slice r0 X.length t0) ls X ∧ KeptR W b1 (.slice p1 0 q1) (.slice r1 1 t1) [] [V]) ⟨HO.out, K0.out, K1.out⟩ ?_
  rintro V8 ⟨hHO, hK0, hK1⟩
  clear HO K0 K1
  have HO := Lib.hid hHO
  have K0 := Lib.hid hK0
  have K1 := Lib.hid hK1
  clear hHO hK0 hK1
  have y0K0 := K0.out.c0; have y1K0 := K0.out.c1
  have hq := ps_any V8 f _ _ _ _ K0.out.sv K0.out.su
  rw [HM2.out] at hq
  have HQ := Lib.hid hq
  clear hq
  go_wp2_with fail
  refine HQ.out.mono ?_
  rintro e' X2 ⟨hr, hb⟩
  obtain ⟨p2, q2, r2, t2, rfl, hs2, hd2⟩ := ret_own (S := ls) (D := T) (E := 0) hr
  obtain ⟨b2, hb2⟩ : ∃ b, X2.heap.size = b := ⟨_, rfl⟩
  have hba : Below X2.heap.size X2 (X2.alloc (.cells #[.slice p2 ls.length q2, .slice r2 T.length t2] 24)) := (Below.refl _ _).alloc (Nat.le_refl _) _
  have hbc := bNext hba hb
  have HO := Lib.hid (HO.out.next hbc)
  have K0 := Lib.hid (K0.out.next hbc)
  have K1 := Lib.hid (K1.out.next hbc)
  have K2 := Lib.hid (KeptR.new (b := b2) hb2 hs2 hd2 HT2.out.i1 HT2.out.i2)
  clear hr hs2 hd2 hb hba hbc HQ y0K0 y1K0
  clear K0
  go_upto_region 7 with fail
  refine gen_worldA (fun W => JustB w W ∧ KeptR W b1 (.slice p1 0 q1) (.slice r1 1 t1) [] [V] ∧ KeptR W b2 (.slice p2 ls.length q2) (.slice r2 T.length t2) ls T) ⟨HO.out, K1.out, K2.out⟩ ?_
  rintro V9 ⟨hHO, hK1, hK2⟩
  clear HO K1 K2
  have HO := Lib.hid hHO
  have K1 := Lib.hid hK1
  have K2 := Lib.hid hK2
  clear hHO hK1 hK2
  rw [HTL.out] at K2
  have y0K1 := K1.out.c0; have y1K1 := K1.out.c1
  have y0K2 := K2.out.c0; have y1K2 := K2.out.c1
  go_upto_region 12 with fail
  skip
  by_cases hm0 : m = 0
  · subst hm0
    have f2 := cellBW y0K1; have f3 := cellBW y1K1; have f4 := cellBW y0K2; have f5 := cellBW y1K2
    refine wp_region_below (by kernel_rfl) (by kernel_rfl) ?_
    repeat (go_big_quiet_step (fail))
    refine wpQuiet_nil ?_
    rintro wq ⟨⟨_, hwq⟩, rfl⟩
    have HO := Lib.hid (HO.out.next hwq)
    have K1 := Lib.hid (K1.out.next hwq)
    have K2 := Lib.hid (K2.out.next hwq)
    clear hwq f2 f3 f4 f5 y0K1 y1K1 y0K2 y1K2
    clear K2
    go_upto_region 14 with fail
    refine gen_worldA (fun W => JustB w W ∧ KeptR W b1 (.slice p1 0 q1) (.slice r1 1 t1) [] [V]) ⟨HO.out, K1.out⟩ ?_
    rintro V14 ⟨hHO, hK1⟩
    clear HO K1
    have HO := Lib.hid hHO
    have K1 := Lib.hid hK1
    clear hHO hK1
    go_wp2_with fail
    refine (vec_arg V14 a0 c0 a HAL.out).mono ?_
    rintro e' V15 ⟨p8, q8, rfl, hd8, hb⟩
    have HO := Lib.hid (HO.out.next hb)
    have K1 := Lib.hid (K1.out.next hb)
    have HD8 := Lib.hid hd8
    clear hd8 hb
    have hq := pf_any V15 f _ _ _ a HD8.out (HA.out.below HO.out.b)
    rw [HMA.out] at hq
    have HQ := Lib.hid hq
    clear hq HD8
    go_wp2_with fail
    refine HQ.out.mono ?_
    rintro e' X3 ⟨hr, hb⟩
    obtain ⟨p3, q3, r3, t3, rfl, hs3, hd3⟩ := ret_own (S := []) (D := [Va]) (E := 0) hr
    obtain ⟨b3, hb3⟩ : ∃ b, X3.heap.size = b := ⟨_, rfl⟩
    have hba : Below X3.heap.size X3 (X3.alloc (.cells #[.slice p3 0 q3, .slice r3 1 t3] 24)) := (Below.refl _ _).alloc (Nat.le_refl _) _
    have hbc := bNext hba hb
    have HO := Lib.hid (HO.out.next hbc)
    have K1 := Lib.hid (K1.out.next hbc)
    have K3 := Lib.hid (KeptR.new (b := b3) hb3 hs3 hd3 HTA.out.i1 HTA.out.i2)
    clear hr hs3 hd3 hb hba hbc HQ
    go_upto_region 15 with fail
    refine gen_worldA (fun W => JustB w W ∧ KeptR W b1 (.slice p1 0 q1) (.slice r1 1 t1) [] [V] ∧ KeptR W b3 (.slice p3 0 q3) (.slice r3 1 t3) [] [Va]) ⟨HO.out, K1.out, K3.out⟩ ?_
    rintro V16 ⟨hHO, hK1, hK3⟩
    clear HO K1 K3
    have HO := Lib.hid hHO
    have K1 := Lib.hid hK1
    have K3 := Lib.hid hK3
    clear hHO hK1 hK3
    go_wp2_with fail
    refine (vec_arg V16 a1 c1 b HBL.out).mono ?_
    rintro e' V17 ⟨p9, q9, rfl, hd9, hb⟩
    have HO := Lib.hid (HO.out.next hb)
    have K1 := Lib.hid (K1.out.next hb)
    have K3 := Lib.hid (K3.out.next hb)
    have HD9 := Lib.hid hd9
    clear hd9 hb
    have hq := pf_any V17 f _ _ _ b HD9.out (HB0.out.below HO.out.b)
    rw [HMB.out] at hq
    have HQ := Lib.hid hq
    clear hq HD9
    go_wp2_with fail
    refine HQ.out.mono ?_
    rintro e' X4 ⟨hr, hb⟩
    obtain ⟨p4, q4, r4, t4, rfl, hs4, hd4⟩ := ret_own (S := []) (D := [Vb]) (E := 0) hr
    obtain ⟨b4, hb4⟩ : ∃ b, X4.heap.size = b := ⟨_, rfl⟩
    have hba : Below X4.heap.size X4 (X4.alloc (.cells #[.slice p4 0 q4, .slice r4 1 t4] 24)) := (Below.refl _ _).alloc (Nat.le_refl _) _
    have hbc := bNext hba hb
    have HO := Lib.hid (HO.out.next hbc)
    have K1 := Lib.hid (K1.out.next hbc)
    have K3 := Lib.hid (K3.out.next hbc)
    have K4 := Lib.hid (KeptR.new (b := b4) hb4 hs4 hd4 HTB.out.i1 HTB.out.i2)
    clear hr hs4 hd4 hb hba hbc HQ
    go_upto_region 16 with fail
    refine gen_worldA (fun W => JustB w W ∧ KeptR W b1 (.slice p1 0 q1) (.slice r1 1 t1) [] [V] ∧ KeptR W b3 (.slice p3 0 q3) (.slice r3 1 t3) [] [Va] ∧ KeptR W b4 (.slice p4 0 q4) (.slice r4 1 t4) [] [Vb]) ⟨HO.out, K1.out, K3.out, K4.out⟩ ?_
    rintro V18 ⟨hHO, hK1, hK3, hK4⟩
    clear HO K1 K3 K4
    have HO := Lib.hid hHO
    have K1 := Lib.hid hK1
    have K3 := Lib.hid hK3
    have K4 := Lib.hid hK4
    clear hHO hK1 hK3 hK4
    have HQ0 := Lib.hid (HSC.out V18)
    go_wp2_with fail
    refine HQ0.out.mono ?_
    rintro e' V19 ⟨rfl, ns, rfl⟩
    have hb := Below.drewN (B := V18.heap.size) V18 ns
    have HO := Lib.hid (HO.out.next hb)
    have K1 := Lib.hid (K1.out.next hb)
    have K3 := Lib.hid (K3.out.next hb)
    have K4 := Lib.hid (K4.out.next hb)
    clear HQ0 HSC hb
    have y0K3 := K3.out.c0; have y1K3 := K3.out.c1
    have y0K4 := K4.out.c0; have y1K4 := K4.out.c1
    go_upto_region 18 with fail
    have hq := pd_any _ f _ _ _ _ _ _ _ _ K3.out.sv K3.out.su K4.out.sv K4.out.su
    rw [HMJ.out] at hq
    have HQ := Lib.hid hq
    clear hq
    go_wp2_with fail
    refine HQ.out.mono ?_
    rintro e' X5 ⟨hr, hb⟩
    obtain ⟨p5, q5, r5, t5, rfl, hs5, hd5⟩ := ret_own (S := []) (D := []) (E := 11) hr
    obtain ⟨b5, hb5⟩ : ∃ b, X5.heap.size = b := ⟨_, rfl⟩
    have hba : Below X5.heap.size X5 (X5.alloc (.cells #[.slice p5 0 q5, .slice r5 0 t5] 24)) := (Below.refl _ _).alloc (Nat.le_refl _) _
    have hbc := bNext hba hb
    have HO := Lib.hid (HO.out.next hbc)
    have K1 := Lib.hid (K1.out.next hbc)
    have K3 := Lib.hid (K3.out.next hbc)
    have K4 := Lib.hid (K4.out.next hbc)
    have K5 := Lib.hid (KeptR.new (b := b5) hb5 hs5 hd5 HTJ.out.i1 HTJ.out.i2)
    clear hr hs5 hd5 hb hba hbc HQ y0K3 y1K3 y0K4 y1K4
    go_upto_region 19 with fail
    refine gen_worldA (fun W => JustB w W ∧ KeptR W b1 (.slice p1 0 q1) (.slice r1 1 t1) [] [V] ∧ KeptR W b3 (.slice p3 0 q3) (.slice r3 1 t3) [] [Va] ∧ KeptR W b4 (.slice p4 0 q4) (.slice r4 1 t4) [] [Vb] ∧ KeptR W b5 (.slice p5 0 q5) (.slice r5 0 t5) [] []) ⟨HO.out, K1.out, K3.out, K4.out, K5.out⟩ ?_
    rintro V20 ⟨hHO, hK1, hK3, hK4, hK5⟩
    clear HO K1 K3 K4 K5
    have HO := Lib.hid hHO
    have K1 := Lib.hid hK1
    have K3 := Lib.hid hK3
    have K4 := Lib.hid hK4
    have K5 := Lib.hid hK5
    clear hHO hK1 hK3 hK4 hK5
    have HQ0 := Lib.hid (HTO.out V20)
    go_wp2_with fail
    refine HQ0.out.mono ?_
    rintro e' V21 ⟨rfl, nt, rfl⟩
    have hb := Below.drewN (B := V20.heap.size) V20 nt
    have HO := Lib.hid (HO.out.next hb)
    have K1 := Lib.hid (K1.out.next hb)
    have K3 := Lib.hid (K3.out.next hb)
    have K4 := Lib.hid (K4.out.next hb)
    have K5 := Lib.hid (K5.out.next hb)
    clear HQ0 HTO hb
    go_wp2_with fail
    go_ret
    exact ⟨rfl, HO.out.b⟩
  · obtain ⟨p, rfl⟩ : ∃ p, m = p + 1 := ⟨m - 1, by omega⟩
    have hml := HML.out
    obtain ⟨bx, ox, rfl, hcx⟩ := K2.out.du.atD (k := p) (by rw [HTL.out]; omega)
    obtain ⟨bw, ow, rfl, hcw⟩ := K1.out.du.atD (k := 0) (by simp)
    have hla := HLAST.out (by omega)
    rw [Nat.add_sub_cancel] at hla
    rw [hla] at hcx
    rw [show [V].getD 0 0 = V from rfl, Nat.add_zero] at hcw
    clear hla hm0
    have hpp : (p : Int) < (p : Int) + 1 := by omega
    have hp0 : (0 : Int) < (p : Int) + 1 := by omega
    have hp1 : (0 : Int) ≤ (p : Int) := by omega
    have hvv : (V != V) = false := by simp
    have f2 := cellBW y0K1; have f3 := cellBW y1K1; have f4 := cellBW y0K2; have f5 := cellBW y1K2; have f6 := cellBW hcx; have f7 := cellBW hcw
    refine wp_region_below (by kernel_rfl) (by kernel_rfl) ?_
    repeat (go_big_quiet_step (fail))
    refine wpQuiet_nil ?_
    rintro wq ⟨⟨_, hwq⟩, rfl⟩
    have HO := Lib.hid (HO.out.next hwq)
    have K1 := Lib.hid (K1.out.next hwq)
    have K2 := Lib.hid (K2.out.next hwq)
    clear hwq f2 f3 f4 f5 f6 f7 y0K1 y1K1 y0K2 y1K2 hcx hcw hpp hp0 hp1 hvv hml
    clear K2
    go_upto_region 14 with fail
    refine gen_worldA (fun W => JustB w W ∧ KeptR W b1 (.slice p1 0 q1) (.slice (some ⟨bw, ow, none⟩) 1 t1) [] [V]) ⟨HO.out, K1.out⟩ ?_
    rintro V14 ⟨hHO, hK1⟩
    clear HO K1
    have HO := Lib.hid hHO
    have K1 := Lib.hid hK1
    clear hHO hK1
    go_wp2_with fail
    refine (vec_arg V14 a0 c0 a HAL.out).mono ?_
    rintro e' V15 ⟨p8, q8, rfl, hd8, hb⟩
    have HO := Lib.hid (HO.out.next hb)
    have K1 := Lib.hid (K1.out.next hb)
    have HD8 := Lib.hid hd8
    clear hd8 hb
    have hq := pf_any V15 f _ _ _ a HD8.out (HA.out.below HO.out.b)
    rw [HMA.out] at hq
    have HQ := Lib.hid hq
    clear hq HD8
    go_wp2_with fail
    refine HQ.out.mono ?_
    rintro e' X3 ⟨hr, hb⟩
    obtain ⟨p3, q3, r3, t3, rfl, hs3, hd3⟩ := ret_own (S := []) (D := [Va]) (E := 0) hr
    obtain ⟨b3, hb3⟩ : ∃ b, X3.heap.size = b := ⟨_, rfl⟩
    have hba : Below X3.heap.size X3 (X3.alloc (.cells #[.slice p3 0 q3, .slice r3 1 t3] 24)) := (Below.refl _ _).alloc (Nat.le_refl _) _
    have hbc := bNext hba hb
    have HO := Lib.hid (HO.out.next hbc)
    have K1 := Lib.hid (K1.out.next hbc)
    have K3 := Lib.hid (KeptR.new (b := b3) hb3 hs3 hd3 HTA.out.i1 HTA.out.i2)
    clear hr hs3 hd3 hb hba hbc HQ
    go_upto_region 15 with fail
    refine gen_worldA (fun W => JustB w W ∧ KeptR W b1 (.slice p1 0 q1) (.slice (some ⟨bw, ow, none⟩) 1 t1) [] [V] ∧ KeptR W b3 (.slice p3 0 q3) (.slice r3 1 t3) [] [Va]) ⟨HO.out, K1.out, K3.out⟩ ?_
    rintro V16 ⟨hHO, hK1, hK3⟩
    clear HO K1 K3
    have HO := Lib.hid hHO
    have K1 := Lib.hid hK1
    have K3 := Lib.hid hK3
    clear hHO hK1 hK3
    go_wp2_with fail
    refine (vec_arg V16 a1 c1 b HBL.out).mono ?_
    rintro e' V17 ⟨p9, q9, rfl, hd9, hb⟩
    have HO := Lib.hid (HO.out.next hb)
    have K1 := Lib.hid (K1.out.next hb)
    have K3 := Lib.hid (K3.out.next hb)
    have HD9 := Lib.hid hd9
    clear hd9 hb
    have hq := pf_any V17 f _ _ _ b HD9.out (HB0.out.below HO.out.b)
    rw [HMB.out] at hq
    have HQ := Lib.hid hq
    clear hq HD9
    go_wp2_with fail
    refine HQ.out.mono ?_
    rintro e' X4 ⟨hr, hb⟩
    obtain ⟨p4, q4, r4, t4, rfl, hs4, hd4⟩ := ret_own (S := []) (D := [Vb]) (E := 0) hr
    obtain ⟨b4, hb4⟩ : ∃ b, X4.heap.size = b := ⟨_, rfl⟩
    have hba : Below X4.heap.size X4 (X4.alloc (.cells #[.slice p4 0 q4, .slice r4 1 t4] 24)) := (Below.refl _ _).alloc (Nat.le_refl _) _
    have hbc := bNext hba hb
    have HO := Lib.hid (HO.out.next hbc)
    have K1 := Lib.hid (K1.out.next hbc)
    have K3 := Lib.hid (K3.out.next hbc)
    have K4 := Lib.hid (KeptR.new (b := b4) hb4 hs4 hd4 HTB.out.i1 HTB.out.i2)
    clear hr hs4 hd4 hb hba hbc HQ
    go_upto_region 16 with fail
    refine gen_worldA (fun W => JustB w W ∧ KeptR W b1 (.slice p1 0 q1) (.slice (some ⟨bw, ow, none⟩) 1 t1) [] [V] ∧ KeptR W b3 (.slice p3 0 q3) (.slice r3 1 t3) [] [Va] ∧ KeptR W b4 (.slice p4 0 q4) (.slice r4 1 t4) [] [Vb]) ⟨HO.out, K1.out, K3.out, K4.out⟩ ?_
    rintro V18 ⟨hHO, hK1, hK3, hK4⟩
    clear HO K1 K3 K4
    have HO := Lib.hid hHO
    have K1 := Lib.hid hK1
    have K3 := Lib.hid hK3
    have K4 := Lib.hid hK4
    clear hHO hK1 hK3 hK4
    have HQ0 := Lib.hid (HSC.out V18)
    go_wp2_with fail
    refine HQ0.out.mono ?_
    rintro e' V19 ⟨rfl, ns, rfl⟩
    have hb := Below.drewN (B := V18.heap.size) V18 ns
    have HO := Lib.hid (HO.out.next hb)
    have K1 := Lib.hid (K1.out.next hb)
    have K3 := Lib.hid (K3.out.next hb)
    have K4 := Lib.hid (K4.out.next hb)
    clear HQ0 HSC hb
    have y0K3 := K3.out.c0; have y1K3 := K3.out.c1
    have y0K4 := K4.out.c0; have y1K4 := K4.out.c1
    go_upto_region 18 with fail
    have hq := pd_any _ f _ _ _ _ _ _ _ _ K3.out.sv K3.out.su K4.out.sv K4.out.su
    rw [HMJ.out] at hq
    have HQ := Lib.hid hq
    clear hq
    go_wp2_with fail
    refine HQ.out.mono ?_
    rintro e' X5 ⟨hr, hb⟩
    obtain ⟨p5, q5, r5, t5, rfl, hs5, hd5⟩ := ret_own (S := []) (D := []) (E := 11) hr
    obtain ⟨b5, hb5⟩ : ∃ b, X5.heap.size = b := ⟨_, rfl⟩
    have hba : Below X5.heap.size X5 (X5.alloc (.cells #[.slice p5 0 q5, .slice r5 0 t5] 24)) := (Below.refl _ _).alloc (Nat.le_refl _) _
    have hbc := bNext hba hb
    have HO := Lib.hid (HO.out.next hbc)
    have K1 := Lib.hid (K1.out.next hbc)
    have K3 := Lib.hid (K3.out.next hbc)
    have K4 := Lib.hid (K4.out.next hbc)
    have K5 := Lib.hid (KeptR.new (b := b5) hb5 hs5 hd5 HTJ.out.i1 HTJ.out.i2)
    clear hr hs5 hd5 hb hba hbc HQ y0K3 y1K3 y0K4 y1K4
    go_upto_region 19 with fail
    refine gen_worldA (fun W => JustB w W ∧ KeptR W b1 (.slice p1 0 q1) (.slice (some ⟨bw, ow, none⟩) 1 t1) [] [V] ∧ KeptR W b3 (.slice p3 0 q3) (.slice r3 1 t3) [] [Va] ∧ KeptR W b4 (.slice p4 0 q4) (.slice r4 1 t4) [] [Vb] ∧ KeptR W b5 (.slice p5 0 q5) (.slice r5 0 t5) [] []) ⟨HO.out, K1.out, K3.out, K4.out, K5.out⟩ ?_
    rintro V20 ⟨hHO, hK1, hK3, hK4, hK5⟩
    clear HO K1 K3 K4 K5
    have HO := Lib.hid hHO
    have K1 := Lib.hid hK1
    have K3 := Lib.hid hK3
    have K4 := Lib.hid hK4
    have K5 := Lib.hid hK5
    clear hHO hK1 hK3 hK4 hK5
    have HQ0 := Lib.hid (HTO.out V20)
    go_wp2_with fail
    refine HQ0.out.mono ?_
    rintro e' V21 ⟨rfl, nt, rfl⟩
    have hb := Below.drewN (B := V20.heap.size) V20 nt
    have HO := Lib.hid (HO.out.next hb)
    have K1 := Lib.hid (K1.out.next hb)
    have K3 := Lib.hid (K3.out.next hb)
    have K4 := Lib.hid (K4.out.next hb)
    have K5 := Lib.hid (K5.out.next hb)
    clear HQ0 HTO hb
    go_wp2_with fail
    go_ret
    exact ⟨rfl, HO.out.b⟩
set_option maxHeartbeats 16000000 in
theorem PrimPieces_yes (w : World) (f : Int) (va : Value) (a : List Int) (vb : Value) (b : List Int) (ha : SlA w va a) (hb : SlA w vb b) (h1 : ¬ 30000 < a.length) (h2 : ¬ 30000 < b.length) (htk : takes f true = true) (hbd : (laneL f (a ++ b)).2 = false) (hsc : scansB f = true) (hbb : (laneL f b).2 = false) (hrf : refusesB f (vF f a) (vF f b) = false) :
    Calls Try.prog 12 #[.int .u8 f, va, vb] w fun e w' => e = .returned (.bool true) ∧ Below w.heap.size w w' := by
  have HA := Lib.hid ha; have HB0 := Lib.hid hb
  have HAL := Lib.hid ha.le; have HBL := Lib.hid hb.le
  have h1I : ¬ (30000 : Int) < (a.length : Int) := by omega
  have h2I : ¬ (30000 : Int) < (b.length : Int) := by omega
  have hab : a.length + b.length ≤ 65536 := by omega
  have hin : ∀ x ∈ a ++ b, In64 x := fun x hx => (List.mem_append.1 hx).elim (in_of ha x) (in_of hb x)
  have hxl : (a ++ b).length ≤ 65536 := by rw [List.length_append]; omega
  have hm0 := word_ok (cat_vec hab)
  have ht0 := Rt.okA (vec_right hxl) hin
  unfold okA at ht0
  have hba : (laneL f a).2 = false := by cases h : (laneL f a).2 with | false => rfl | true => exact absurd (laneL_bad f a b h) (by rw [hbd]; decide)
  have hm1 := word_ok ((fold_vec htk hxl).trans (if_neg (by rw [hbd]; decide)))
  have hm2 := word_ok ((scan_vec htk hxl).trans (if_neg (by rw [hbd]; decide)))
  have hma := word_ok ((fold_vec (d := a) htk (by omega)).trans (if_neg (by rw [hba]; decide)))
  have ht1 := foldA_rt f (s := [((a ++ b).length : Int)]) hin; have ht2 := scanA_rt f (s := [((a ++ b).length : Int)]) hin; have hta := foldA_rt f (s := [(a.length : Int)]) (in_of ha)
  rw [hm1] at ht1; rw [hm2] at ht2; rw [hma] at hta
  have hmb := word_ok ((fold_vec (d := b) htk (by omega)).trans (if_neg (by rw [hbb]; decide)))
  have htb := foldA_rt f (s := [(b.length : Int)]) (in_of hb)
  rw [hmb] at htb
  have HSC := Lib.hid (fun W => scans_at W f true hsc)
  have hmj := word_ok ((dy_num (x := vF f a) (y := vF f b) htk).trans (if_neg (by rw [hrf]; decide)))
  rw [parts_f hsc (in_of ha) (in_of hb) hbd hbb hrf] at hmj
  have htj := ht1
  obtain ⟨Vb, hVb⟩ : ∃ V, vF f b = V := ⟨_, rfl⟩
  rw [hVb] at hmb htb hmj
  have HMB := Lib.hid hmb; have HTB := Lib.hid htb
  have hlast := fun h => scan_last (f := f) (d := a ++ b) h
  have hsl := scanR_len f (a ++ b)
  obtain ⟨ls, hls⟩ : ∃ l : List Int, [((a ++ b).length : Int)] = l := ⟨_, rfl⟩
  rw [hls] at hm0 hm1 hm2 ht0 ht2
  obtain ⟨m, hmm⟩ : ∃ m, (a ++ b).length = m := ⟨_, rfl⟩
  rw [hmm] at hsl hlast hxl
  obtain ⟨X, hX⟩ : ∃ X, a ++ b = X := ⟨_, rfl⟩
  rw [hX] at hm0 hm1 hm2 ht0 ht1 ht2 hlast hsl hmj htj
  obtain ⟨T, hT⟩ : ∃ T, scanR f X = T := ⟨_, rfl⟩
  rw [hT] at hm2 ht2 hlast hsl
  obtain ⟨V, hV⟩ : ∃ V, vF f X = V := ⟨_, rfl⟩
  rw [hV] at hm1 ht1 hlast hmj htj
  obtain ⟨Va, hVa⟩ : ∃ V, vF f a = V := ⟨_, rfl⟩
  rw [hVa] at hma hta hmj
  have HM0 := Lib.hid hm0; have HM1 := Lib.hid hm1; have HM2 := Lib.hid hm2; have HMA := Lib.hid hma; have HT0 := Lib.hid ht0; have HT1 := Lib.hid ht1; have HT2 := Lib.hid ht2; have HTA := Lib.hid hta
  have HMJ := Lib.hid hmj
  have HTL := Lib.hid hsl; have HLAST := Lib.hid hlast; have HML := Lib.hid hxl
  obtain ⟨a0, c0, rfl, -⟩ := ha
  obtain ⟨a1, c1, rfl, -⟩ := hb
  clear h1 h2 htk hab hin hxl hm0 hm1 hm2 hma ht0 ht1 ht2 hta hls hX hT hV hVa hbd hba hsl hlast hmm hsc hbb hrf hmb htb hVb hmj
  go_enter Try.func12, Try.ntmps12
  go_upto_region 1 with fail
  refine gen_worldA (fun W => JustB w W) ⟨Below.refl _ _⟩ ?_
  rintro W hO
  have HO := Lib.hid hO
  clear hO
  go_wp2_with fail
  refine (shown_any _).mono ?_
  rintro e' V0 ⟨rfl, hb⟩
  have HO := Lib.hid (HO.out.next hb)
  clear hb
  go_upto_region 4 with fail
  refine gen_worldA (fun W => JustB w W) HO.out ?_
  rintro V4 hHO
  clear HO
  have HO := Lib.hid hHO
  clear hHO
  go_wp2_with fail
  refine (vec_arg V4 a0 c0 a HAL.out).mono ?_
  rintro e' V5 ⟨p8, q8, rfl, hd8, hb⟩
  have HO := Lib.hid (HO.out.next hb)
  have HD8 := Lib.hid hd8
  clear hd8 hb
  go_wp2_with fail
  refine (vec_arg V5 a1 c1 b HBL.out).mono ?_
  rintro e' V6 ⟨p9, q9, rfl, hd9, hb⟩
  have HO := Lib.hid (HO.out.next hb)
  have HD9 := Lib.hid hd9; have HD8 := Lib.hid (HD8.out.below hb)
  clear hd9 hb
  have hq := pd_any V6 40 _ _ _ _ _ a _ b HD8.out (HA.out.below HO.out.b) HD9.out (HB0.out.below HO.out.b)
  rw [HM0.out] at hq
  have HQ := Lib.hid hq
  clear hq HD8 HD9
  go_wp2_with fail
  refine HQ.out.mono ?_
  rintro e' X0 ⟨hr, hb⟩
  obtain ⟨p0, q0, r0, t0, rfl, hs0, hd0⟩ := ret_own (S := ls) (D := X) (E := 0) hr
  obtain ⟨b0, hb0⟩ : ∃ b, X0.heap.size = b := ⟨_, rfl⟩
  have hba : Below X0.heap.size X0 (X0.alloc (.cells #[.slice p0 ls.length q0, .slice r0 X.length t0] 24)) := (Below.refl _ _).alloc (Nat.le_refl _) _
  have hbc := bNext hba hb
  have HO := Lib.hid (HO.out.next hbc)
  have K0 := Lib.hid (KeptR.new (b := b0) hb0 hs0 hd0 HT0.out.i1 HT0.out.i2)
  clear hr hs0 hd0 hb hba hbc HQ
  go_upto_region 5 with fail
  refine gen_worldA (fun W => JustB w W ∧ KeptR W b0 (.slice p0 ls.length q0) (.slice r0 X.length t0) ls X) ⟨HO.out, K0.out⟩ ?_
  rintro V7 ⟨hHO, hK0⟩
  clear HO K0
  have HO := Lib.hid hHO
  have K0 := Lib.hid hK0
  clear hHO hK0
  have y0K0 := K0.out.c0; have y1K0 := K0.out.c1
  have hq := pf_any V7 f _ _ _ _ K0.out.sv K0.out.su
  rw [HM1.out] at hq
  have HQ := Lib.hid hq
  clear hq
  go_wp2_with fail
  refine HQ.out.mono ?_
  rintro e' X1 ⟨hr, hb⟩
  obtain ⟨p1, q1, r1, t1, rfl, hs1, hd1⟩ := ret_own (S := []) (D := [V]) (E := 0) hr
  obtain ⟨b1, hb1⟩ : ∃ b, X1.heap.size = b := ⟨_, rfl⟩
  have hba : Below X1.heap.size X1 (X1.alloc (.cells #[.slice p1 0 q1, .slice r1 1 t1] 24)) := (Below.refl _ _).alloc (Nat.le_refl _) _
  have hbc := bNext hba hb
  have HO := Lib.hid (HO.out.next hbc)
  have K0 := Lib.hid (K0.out.next hbc)
  have K1 := Lib.hid (KeptR.new (b := b1) hb1 hs1 hd1 HT1.out.i1 HT1.out.i2)
  clear hr hs1 hd1 hb hba hbc HQ y0K0 y1K0
  go_upto_region 6 with fail
  refine gen_worldA (fun W => JustB w W ∧ KeptR W b0 (.slice p0 ls.length q0) (.slice r0 X.length t0) ls X ∧ KeptR W b1 (.slice p1 0 q1) (.slice r1 1 t1) [] [V]) ⟨HO.out, K0.out, K1.out⟩ ?_
  rintro V8 ⟨hHO, hK0, hK1⟩
  clear HO K0 K1
  have HO := Lib.hid hHO
  have K0 := Lib.hid hK0
  have K1 := Lib.hid hK1
  clear hHO hK0 hK1
  have y0K0 := K0.out.c0; have y1K0 := K0.out.c1
  have hq := ps_any V8 f _ _ _ _ K0.out.sv K0.out.su
  rw [HM2.out] at hq
  have HQ := Lib.hid hq
  clear hq
  go_wp2_with fail
  refine HQ.out.mono ?_
  rintro e' X2 ⟨hr, hb⟩
  obtain ⟨p2, q2, r2, t2, rfl, hs2, hd2⟩ := ret_own (S := ls) (D := T) (E := 0) hr
  obtain ⟨b2, hb2⟩ : ∃ b, X2.heap.size = b := ⟨_, rfl⟩
  have hba : Below X2.heap.size X2 (X2.alloc (.cells #[.slice p2 ls.length q2, .slice r2 T.length t2] 24)) := (Below.refl _ _).alloc (Nat.le_refl _) _
  have hbc := bNext hba hb
  have HO := Lib.hid (HO.out.next hbc)
  have K0 := Lib.hid (K0.out.next hbc)
  have K1 := Lib.hid (K1.out.next hbc)
  have K2 := Lib.hid (KeptR.new (b := b2) hb2 hs2 hd2 HT2.out.i1 HT2.out.i2)
  clear hr hs2 hd2 hb hba hbc HQ y0K0 y1K0
  clear K0
  go_upto_region 7 with fail
  refine gen_worldA (fun W => JustB w W ∧ KeptR W b1 (.slice p1 0 q1) (.slice r1 1 t1) [] [V] ∧ KeptR W b2 (.slice p2 ls.length q2) (.slice r2 T.length t2) ls T) ⟨HO.out, K1.out, K2.out⟩ ?_
  rintro V9 ⟨hHO, hK1, hK2⟩
  clear HO K1 K2
  have HO := Lib.hid hHO
  have K1 := Lib.hid hK1
  have K2 := Lib.hid hK2
  clear hHO hK1 hK2
  rw [HTL.out] at K2
  have y0K1 := K1.out.c0; have y1K1 := K1.out.c1
  have y0K2 := K2.out.c0; have y1K2 := K2.out.c1
  go_upto_region 12 with fail
  skip
  by_cases hm0 : m = 0
  · subst hm0
    have f2 := cellBW y0K1; have f3 := cellBW y1K1; have f4 := cellBW y0K2; have f5 := cellBW y1K2
    refine wp_region_below (by kernel_rfl) (by kernel_rfl) ?_
    repeat (go_big_quiet_step (fail))
    refine wpQuiet_nil ?_
    rintro wq ⟨⟨_, hwq⟩, rfl⟩
    have HO := Lib.hid (HO.out.next hwq)
    have K1 := Lib.hid (K1.out.next hwq)
    have K2 := Lib.hid (K2.out.next hwq)
    clear hwq f2 f3 f4 f5 y0K1 y1K1 y0K2 y1K2
    clear K2
    go_upto_region 14 with fail
    refine gen_worldA (fun W => JustB w W ∧ KeptR W b1 (.slice p1 0 q1) (.slice r1 1 t1) [] [V]) ⟨HO.out, K1.out⟩ ?_
    rintro V14 ⟨hHO, hK1⟩
    clear HO K1
    have HO := Lib.hid hHO
    have K1 := Lib.hid hK1
    clear hHO hK1
    go_wp2_with fail
    refine (vec_arg V14 a0 c0 a HAL.out).mono ?_
    rintro e' V15 ⟨p8, q8, rfl, hd8, hb⟩
    have HO := Lib.hid (HO.out.next hb)
    have K1 := Lib.hid (K1.out.next hb)
    have HD8 := Lib.hid hd8
    clear hd8 hb
    have hq := pf_any V15 f _ _ _ a HD8.out (HA.out.below HO.out.b)
    rw [HMA.out] at hq
    have HQ := Lib.hid hq
    clear hq HD8
    go_wp2_with fail
    refine HQ.out.mono ?_
    rintro e' X3 ⟨hr, hb⟩
    obtain ⟨p3, q3, r3, t3, rfl, hs3, hd3⟩ := ret_own (S := []) (D := [Va]) (E := 0) hr
    obtain ⟨b3, hb3⟩ : ∃ b, X3.heap.size = b := ⟨_, rfl⟩
    have hba : Below X3.heap.size X3 (X3.alloc (.cells #[.slice p3 0 q3, .slice r3 1 t3] 24)) := (Below.refl _ _).alloc (Nat.le_refl _) _
    have hbc := bNext hba hb
    have HO := Lib.hid (HO.out.next hbc)
    have K1 := Lib.hid (K1.out.next hbc)
    have K3 := Lib.hid (KeptR.new (b := b3) hb3 hs3 hd3 HTA.out.i1 HTA.out.i2)
    clear hr hs3 hd3 hb hba hbc HQ
    go_upto_region 15 with fail
    refine gen_worldA (fun W => JustB w W ∧ KeptR W b1 (.slice p1 0 q1) (.slice r1 1 t1) [] [V] ∧ KeptR W b3 (.slice p3 0 q3) (.slice r3 1 t3) [] [Va]) ⟨HO.out, K1.out, K3.out⟩ ?_
    rintro V16 ⟨hHO, hK1, hK3⟩
    clear HO K1 K3
    have HO := Lib.hid hHO
    have K1 := Lib.hid hK1
    have K3 := Lib.hid hK3
    clear hHO hK1 hK3
    go_wp2_with fail
    refine (vec_arg V16 a1 c1 b HBL.out).mono ?_
    rintro e' V17 ⟨p9, q9, rfl, hd9, hb⟩
    have HO := Lib.hid (HO.out.next hb)
    have K1 := Lib.hid (K1.out.next hb)
    have K3 := Lib.hid (K3.out.next hb)
    have HD9 := Lib.hid hd9
    clear hd9 hb
    have hq := pf_any V17 f _ _ _ b HD9.out (HB0.out.below HO.out.b)
    rw [HMB.out] at hq
    have HQ := Lib.hid hq
    clear hq HD9
    go_wp2_with fail
    refine HQ.out.mono ?_
    rintro e' X4 ⟨hr, hb⟩
    obtain ⟨p4, q4, r4, t4, rfl, hs4, hd4⟩ := ret_own (S := []) (D := [Vb]) (E := 0) hr
    obtain ⟨b4, hb4⟩ : ∃ b, X4.heap.size = b := ⟨_, rfl⟩
    have hba : Below X4.heap.size X4 (X4.alloc (.cells #[.slice p4 0 q4, .slice r4 1 t4] 24)) := (Below.refl _ _).alloc (Nat.le_refl _) _
    have hbc := bNext hba hb
    have HO := Lib.hid (HO.out.next hbc)
    have K1 := Lib.hid (K1.out.next hbc)
    have K3 := Lib.hid (K3.out.next hbc)
    have K4 := Lib.hid (KeptR.new (b := b4) hb4 hs4 hd4 HTB.out.i1 HTB.out.i2)
    clear hr hs4 hd4 hb hba hbc HQ
    go_upto_region 16 with fail
    refine gen_worldA (fun W => JustB w W ∧ KeptR W b1 (.slice p1 0 q1) (.slice r1 1 t1) [] [V] ∧ KeptR W b3 (.slice p3 0 q3) (.slice r3 1 t3) [] [Va] ∧ KeptR W b4 (.slice p4 0 q4) (.slice r4 1 t4) [] [Vb]) ⟨HO.out, K1.out, K3.out, K4.out⟩ ?_
    rintro V18 ⟨hHO, hK1, hK3, hK4⟩
    clear HO K1 K3 K4
    have HO := Lib.hid hHO
    have K1 := Lib.hid hK1
    have K3 := Lib.hid hK3
    have K4 := Lib.hid hK4
    clear hHO hK1 hK3 hK4
    have HQ0 := Lib.hid (HSC.out V18)
    go_wp2_with fail
    refine HQ0.out.mono ?_
    rintro e' V19 ⟨rfl, ns, rfl⟩
    have hb := Below.drewN (B := V18.heap.size) V18 ns
    have HO := Lib.hid (HO.out.next hb)
    have K1 := Lib.hid (K1.out.next hb)
    have K3 := Lib.hid (K3.out.next hb)
    have K4 := Lib.hid (K4.out.next hb)
    clear HQ0 HSC hb
    have y0K3 := K3.out.c0; have y1K3 := K3.out.c1
    have y0K4 := K4.out.c0; have y1K4 := K4.out.c1
    go_upto_region 18 with fail
    have hq := pd_any _ f _ _ _ _ _ _ _ _ K3.out.sv K3.out.su K4.out.sv K4.out.su
    rw [HMJ.out] at hq
    have HQ := Lib.hid hq
    clear hq
    go_wp2_with fail
    refine HQ.out.mono ?_
    rintro e' X5 ⟨hr, hb⟩
    obtain ⟨p5, q5, r5, t5, rfl, hs5, hd5⟩ := ret_own (S := []) (D := [V]) (E := 0) hr
    obtain ⟨b5, hb5⟩ : ∃ b, X5.heap.size = b := ⟨_, rfl⟩
    have hba : Below X5.heap.size X5 (X5.alloc (.cells #[.slice p5 0 q5, .slice r5 1 t5] 24)) := (Below.refl _ _).alloc (Nat.le_refl _) _
    have hbc := bNext hba hb
    have HO := Lib.hid (HO.out.next hbc)
    have K1 := Lib.hid (K1.out.next hbc)
    have K3 := Lib.hid (K3.out.next hbc)
    have K4 := Lib.hid (K4.out.next hbc)
    have K5 := Lib.hid (KeptR.new (b := b5) hb5 hs5 hd5 HT1.out.i1 HT1.out.i2)
    clear hr hs5 hd5 hb hba hbc HQ y0K3 y1K3 y0K4 y1K4
    go_upto_region 19 with fail
    refine gen_worldA (fun W => JustB w W ∧ KeptR W b1 (.slice p1 0 q1) (.slice r1 1 t1) [] [V] ∧ KeptR W b3 (.slice p3 0 q3) (.slice r3 1 t3) [] [Va] ∧ KeptR W b4 (.slice p4 0 q4) (.slice r4 1 t4) [] [Vb] ∧ KeptR W b5 (.slice p5 0 q5) (.slice r5 1 t5) [] [V]) ⟨HO.out, K1.out, K3.out, K4.out, K5.out⟩ ?_
    rintro V20 ⟨hHO, hK1, hK3, hK4, hK5⟩
    clear HO K1 K3 K4 K5
    have HO := Lib.hid hHO
    have K1 := Lib.hid hK1
    have K3 := Lib.hid hK3
    have K4 := Lib.hid hK4
    have K5 := Lib.hid hK5
    clear hHO hK1 hK3 hK4 hK5
    have y0K5 := K5.out.c0; have y1K5 := K5.out.c1
    have y0K1 := K1.out.c0; have y1K1 := K1.out.c1
    have HQ := Lib.hid (same_is K5.out.sv K5.out.su K1.out.sv K1.out.su)
    go_wp2_with fail
    refine HQ.out.mono ?_
    rintro e' Z ⟨rfl, hb⟩
    have HO := Lib.hid (HO.out.next hb)
    clear HQ hb
    go_wp2_with fail
    go_ret
    exact ⟨rfl, HO.out.b⟩
  · obtain ⟨p, rfl⟩ : ∃ p, m = p + 1 := ⟨m - 1, by omega⟩
    have hml := HML.out
    obtain ⟨bx, ox, rfl, hcx⟩ := K2.out.du.atD (k := p) (by rw [HTL.out]; omega)
    obtain ⟨bw, ow, rfl, hcw⟩ := K1.out.du.atD (k := 0) (by simp)
    have hla := HLAST.out (by omega)
    rw [Nat.add_sub_cancel] at hla
    rw [hla] at hcx
    rw [show [V].getD 0 0 = V from rfl, Nat.add_zero] at hcw
    clear hla hm0
    have hpp : (p : Int) < (p : Int) + 1 := by omega
    have hp0 : (0 : Int) < (p : Int) + 1 := by omega
    have hp1 : (0 : Int) ≤ (p : Int) := by omega
    have hvv : (V != V) = false := by simp
    have f2 := cellBW y0K1; have f3 := cellBW y1K1; have f4 := cellBW y0K2; have f5 := cellBW y1K2; have f6 := cellBW hcx; have f7 := cellBW hcw
    refine wp_region_below (by kernel_rfl) (by kernel_rfl) ?_
    repeat (go_big_quiet_step (fail))
    refine wpQuiet_nil ?_
    rintro wq ⟨⟨_, hwq⟩, rfl⟩
    have HO := Lib.hid (HO.out.next hwq)
    have K1 := Lib.hid (K1.out.next hwq)
    have K2 := Lib.hid (K2.out.next hwq)
    clear hwq f2 f3 f4 f5 f6 f7 y0K1 y1K1 y0K2 y1K2 hcx hcw hpp hp0 hp1 hvv hml
    clear K2
    go_upto_region 14 with fail
    refine gen_worldA (fun W => JustB w W ∧ KeptR W b1 (.slice p1 0 q1) (.slice (some ⟨bw, ow, none⟩) 1 t1) [] [V]) ⟨HO.out, K1.out⟩ ?_
    rintro V14 ⟨hHO, hK1⟩
    clear HO K1
    have HO := Lib.hid hHO
    have K1 := Lib.hid hK1
    clear hHO hK1
    go_wp2_with fail
    refine (vec_arg V14 a0 c0 a HAL.out).mono ?_
    rintro e' V15 ⟨p8, q8, rfl, hd8, hb⟩
    have HO := Lib.hid (HO.out.next hb)
    have K1 := Lib.hid (K1.out.next hb)
    have HD8 := Lib.hid hd8
    clear hd8 hb
    have hq := pf_any V15 f _ _ _ a HD8.out (HA.out.below HO.out.b)
    rw [HMA.out] at hq
    have HQ := Lib.hid hq
    clear hq HD8
    go_wp2_with fail
    refine HQ.out.mono ?_
    rintro e' X3 ⟨hr, hb⟩
    obtain ⟨p3, q3, r3, t3, rfl, hs3, hd3⟩ := ret_own (S := []) (D := [Va]) (E := 0) hr
    obtain ⟨b3, hb3⟩ : ∃ b, X3.heap.size = b := ⟨_, rfl⟩
    have hba : Below X3.heap.size X3 (X3.alloc (.cells #[.slice p3 0 q3, .slice r3 1 t3] 24)) := (Below.refl _ _).alloc (Nat.le_refl _) _
    have hbc := bNext hba hb
    have HO := Lib.hid (HO.out.next hbc)
    have K1 := Lib.hid (K1.out.next hbc)
    have K3 := Lib.hid (KeptR.new (b := b3) hb3 hs3 hd3 HTA.out.i1 HTA.out.i2)
    clear hr hs3 hd3 hb hba hbc HQ
    go_upto_region 15 with fail
    refine gen_worldA (fun W => JustB w W ∧ KeptR W b1 (.slice p1 0 q1) (.slice (some ⟨bw, ow, none⟩) 1 t1) [] [V] ∧ KeptR W b3 (.slice p3 0 q3) (.slice r3 1 t3) [] [Va]) ⟨HO.out, K1.out, K3.out⟩ ?_
    rintro V16 ⟨hHO, hK1, hK3⟩
    clear HO K1 K3
    have HO := Lib.hid hHO
    have K1 := Lib.hid hK1
    have K3 := Lib.hid hK3
    clear hHO hK1 hK3
    go_wp2_with fail
    refine (vec_arg V16 a1 c1 b HBL.out).mono ?_
    rintro e' V17 ⟨p9, q9, rfl, hd9, hb⟩
    have HO := Lib.hid (HO.out.next hb)
    have K1 := Lib.hid (K1.out.next hb)
    have K3 := Lib.hid (K3.out.next hb)
    have HD9 := Lib.hid hd9
    clear hd9 hb
    have hq := pf_any V17 f _ _ _ b HD9.out (HB0.out.below HO.out.b)
    rw [HMB.out] at hq
    have HQ := Lib.hid hq
    clear hq HD9
    go_wp2_with fail
    refine HQ.out.mono ?_
    rintro e' X4 ⟨hr, hb⟩
    obtain ⟨p4, q4, r4, t4, rfl, hs4, hd4⟩ := ret_own (S := []) (D := [Vb]) (E := 0) hr
    obtain ⟨b4, hb4⟩ : ∃ b, X4.heap.size = b := ⟨_, rfl⟩
    have hba : Below X4.heap.size X4 (X4.alloc (.cells #[.slice p4 0 q4, .slice r4 1 t4] 24)) := (Below.refl _ _).alloc (Nat.le_refl _) _
    have hbc := bNext hba hb
    have HO := Lib.hid (HO.out.next hbc)
    have K1 := Lib.hid (K1.out.next hbc)
    have K3 := Lib.hid (K3.out.next hbc)
    have K4 := Lib.hid (KeptR.new (b := b4) hb4 hs4 hd4 HTB.out.i1 HTB.out.i2)
    clear hr hs4 hd4 hb hba hbc HQ
    go_upto_region 16 with fail
    refine gen_worldA (fun W => JustB w W ∧ KeptR W b1 (.slice p1 0 q1) (.slice (some ⟨bw, ow, none⟩) 1 t1) [] [V] ∧ KeptR W b3 (.slice p3 0 q3) (.slice r3 1 t3) [] [Va] ∧ KeptR W b4 (.slice p4 0 q4) (.slice r4 1 t4) [] [Vb]) ⟨HO.out, K1.out, K3.out, K4.out⟩ ?_
    rintro V18 ⟨hHO, hK1, hK3, hK4⟩
    clear HO K1 K3 K4
    have HO := Lib.hid hHO
    have K1 := Lib.hid hK1
    have K3 := Lib.hid hK3
    have K4 := Lib.hid hK4
    clear hHO hK1 hK3 hK4
    have HQ0 := Lib.hid (HSC.out V18)
    go_wp2_with fail
    refine HQ0.out.mono ?_
    rintro e' V19 ⟨rfl, ns, rfl⟩
    have hb := Below.drewN (B := V18.heap.size) V18 ns
    have HO := Lib.hid (HO.out.next hb)
    have K1 := Lib.hid (K1.out.next hb)
    have K3 := Lib.hid (K3.out.next hb)
    have K4 := Lib.hid (K4.out.next hb)
    clear HQ0 HSC hb
    have y0K3 := K3.out.c0; have y1K3 := K3.out.c1
    have y0K4 := K4.out.c0; have y1K4 := K4.out.c1
    go_upto_region 18 with fail
    have hq := pd_any _ f _ _ _ _ _ _ _ _ K3.out.sv K3.out.su K4.out.sv K4.out.su
    rw [HMJ.out] at hq
    have HQ := Lib.hid hq
    clear hq
    go_wp2_with fail
    refine HQ.out.mono ?_
    rintro e' X5 ⟨hr, hb⟩
    obtain ⟨p5, q5, r5, t5, rfl, hs5, hd5⟩ := ret_own (S := []) (D := [V]) (E := 0) hr
    obtain ⟨b5, hb5⟩ : ∃ b, X5.heap.size = b := ⟨_, rfl⟩
    have hba : Below X5.heap.size X5 (X5.alloc (.cells #[.slice p5 0 q5, .slice r5 1 t5] 24)) := (Below.refl _ _).alloc (Nat.le_refl _) _
    have hbc := bNext hba hb
    have HO := Lib.hid (HO.out.next hbc)
    have K1 := Lib.hid (K1.out.next hbc)
    have K3 := Lib.hid (K3.out.next hbc)
    have K4 := Lib.hid (K4.out.next hbc)
    have K5 := Lib.hid (KeptR.new (b := b5) hb5 hs5 hd5 HT1.out.i1 HT1.out.i2)
    clear hr hs5 hd5 hb hba hbc HQ y0K3 y1K3 y0K4 y1K4
    go_upto_region 19 with fail
    refine gen_worldA (fun W => JustB w W ∧ KeptR W b1 (.slice p1 0 q1) (.slice (some ⟨bw, ow, none⟩) 1 t1) [] [V] ∧ KeptR W b3 (.slice p3 0 q3) (.slice r3 1 t3) [] [Va] ∧ KeptR W b4 (.slice p4 0 q4) (.slice r4 1 t4) [] [Vb] ∧ KeptR W b5 (.slice p5 0 q5) (.slice r5 1 t5) [] [V]) ⟨HO.out, K1.out, K3.out, K4.out, K5.out⟩ ?_
    rintro V20 ⟨hHO, hK1, hK3, hK4, hK5⟩
    clear HO K1 K3 K4 K5
    have HO := Lib.hid hHO
    have K1 := Lib.hid hK1
    have K3 := Lib.hid hK3
    have K4 := Lib.hid hK4
    have K5 := Lib.hid hK5
    clear hHO hK1 hK3 hK4 hK5
    have y0K5 := K5.out.c0; have y1K5 := K5.out.c1
    have y0K1 := K1.out.c0; have y1K1 := K1.out.c1
    have HQ := Lib.hid (same_is K5.out.sv K5.out.su K1.out.sv K1.out.su)
    go_wp2_with fail
    refine HQ.out.mono ?_
    rintro e' Z ⟨rfl, hb⟩
    have HO := Lib.hid (HO.out.next hb)
    clear HQ hb
    go_wp2_with fail
    go_ret
    exact ⟨rfl, HO.out.b⟩
theorem PrimPieces_walk (w : World) (f : Int) (va : Value) (a : List Int) (vb : Value) (b : List Int) (hf : (Lit.int .u8 f).wf = true) (ha : SlA w va a) (hb : SlA w vb b) :
    Calls Try.prog 12 #[.int .u8 f, va, vb] w fun e w' => e = .returned (.bool true) ∧ Below w.heap.size w w' := by
  by_cases h1 : 30000 < a.length
  · exact PrimPieces_biga w f va a vb b ha hb h1
  by_cases h2 : 30000 < b.length
  · exact PrimPieces_bigb w f va a vb b ha hb h1 h2
  cases htk : takes f true with
  | false => exact PrimPieces_no w f va a vb b ha hb h1 h2 htk
  | true =>
    cases hbd : (laneL f (a ++ b)).2 with
    | true => exact PrimPieces_bad w f va a vb b ha hb h1 h2 htk hbd
    | false =>
      cases hsc : scansB f with
      | false => exact PrimPieces_nos w f va a vb b ha hb h1 h2 htk hbd hsc
      | true =>
        cases hbb : (laneL f b).2 with
        | true => exact PrimPieces_badb w f va a vb b ha hb h1 h2 htk hbd hsc hbb
        | false =>
          cases hrf : refusesB f (vF f a) (vF f b) with
          | true => exact PrimPieces_refs w f va a vb b ha hb h1 h2 htk hbd hsc hbb hrf
          | false => exact PrimPieces_yes w f va a vb b ha hb h1 h2 htk hbd hsc hbb hrf

set_option maxRecDepth 100000 in
theorem PrimPieces_lifted (os : Os) (started : os.Started) (H : Type) (enc : TypeId × Value → H) :
    ReturnsInHanded {} Try.checked os 12 .any (Rows.primPiecesSpec.pre6 enc Try.prog Try.f12 Rows.primPiecesRow.domain false) (Rows.primPiecesSpec.post enc Try.prog Try.f12 false true false false) := by
  refine returnsInHanded_of_change (C := Try.checked) own started (by kernel_rfl) Try.func12
    (ChangeSpec.witness6 (enc := enc) (C := Try.checked) false ⟨#[], #[.int .u8 0, .slice none 0 0, .slice none 0 0], []⟩ 8 (by kernel_rfl) (by kernel_rfl) (by kernel_rfl) (by kernel_rfl)) ?_
  intro W base args ds gs before hval0 hW hcnd _
  have hval : ∀ (j : Nat) t v, Try.f12.params[j]? = some t → args[j]? = some v → Value.okWide Try.prog W .any base t v := hval0
  have hW' := hW
  obtain ⟨p, q, hA0, hV, rfl, hfz, hnd⟩ := hW
  have hA : DataW.TrodAll enc Try.prog W 0 (fun _ => true) true Try.f12.params.toList args.toList ds p := hA0
  rw [Try.params12] at hA hval
  obtain ⟨v0, vs0, d0, ds0, p0, q0, hargs, rfl, rfl, h0, r0⟩ := trodAll_cons hA
  obtain ⟨v1, vs1, d1, ds1, p1, q1, rfl, rfl, rfl, h1, r1⟩ := trodAll_cons r0
  obtain ⟨v2, vs2, d2, ds2, p2, q2, rfl, rfl, rfl, h2, r2⟩ := trodAll_cons r1
  obtain ⟨rfl, rfl, rfl⟩ := trodAll_nil r2
  obtain rfl : args = #[v0, v1, v2] := by cases args; simp_all
  obtain ⟨rfl, rfl⟩ := trodVars_none hV
  obtain ⟨a0, rfl, rfl, rfl, w0⟩ := open_int Try.underlying5 (hval 0 5 v0 rfl rfl) h0
  have k1 := h1
  have lt1 : ∀ x ∈ p1, x.block < W.heap.size := by obtain ⟨m, hm⟩ := k1; exact DataW.trod_lt m _ _ _ hm
  obtain ⟨xs1, s1⟩ := sla_of_Trod (hval 1 22 v1 rfl rfl) h1
  have k2 := h2
  have lt2 : ∀ x ∈ p2, x.block < W.heap.size := by obtain ⟨m, hm⟩ := k2; exact DataW.trod_lt m _ _ _ hm
  obtain ⟨xs2, s2⟩ := sla_of_Trod (hval 2 22 v2 rfl rfl) h2
  clear hA0 hval0
  refine (PrimPieces_walk W a0 v1 xs1 v2 xs2 w0 s1 s2).mono fun e W' ⟨he, bel⟩ => ?_
  subst he
  exact ⟨_, rfl, _, _, _, [], _, [], hW', trodAll_mk1 (shut_bool Try.underlying4 _), (trodAll_cons_mk (shut_int Try.underlying5 w0) (trodAll_cons_mk (Below.trod laidOut (by kernel_rfl) (of_decide_eq_true (by kernel_rfl)) k1 bel lt1) (trodAll_cons_mk (Below.trod laidOut (by kernel_rfl) (of_decide_eq_true (by kernel_rfl)) k2 bel lt2) trodAll_mk0))), rfl, bel.frame _, fun h => by cases h⟩

/-- The given statement. -/
theorem PrimPieces_holds : Rows.PrimPiecesSaid :=
  OpenClaim.holds_of_wide 12 Try.f12 rfl rfl rfl rfl rfl rfl rfl ⟨rfl, rfl, rfl, rfl, rfl⟩ rfl rfl rfl rfl rfl (by kernel_rfl) Try.func12 (by kernel_rfl)
    (of_decide_eq_true (by kernel_rfl)) (by unfold Func.isWrapper; rw [if_neg (by decide +kernel)]; exact ⟨rfl, rfl⟩)
    (fun os started H enc _ => PrimPieces_lifted os started H enc)
#print axioms PrimPieces_holds
end Go.Proofs.Ytmjkncmpanhgjaa
