import Derived.Test.YtmjkncmpanhgjaaPA20
import Derived.Test.YtmjkncmpanhgjaaPA21
import Derived.Test.YtmjkncmpanhgjaaPA22
namespace Go.Proofs.Ytmjkncmpanhgjaa
set_option maxRecDepth 100000
open Go.RowKit
set_option linter.unusedVariables false
set_option linter.unusedSimpArgs false

/-! windrowref07.Outer. -/
set_option maxHeartbeats 4000000 in
theorem ro_bad1 (w : World) (f : Int) (v u v2 u2 : Value) (s d t e : List Int) (hs : SlA w v s) (hd : SlA w u d) (ht : SlA w v2 t) (he : SlA w u2 e) (hr1 : right s d = false) :
    Calls Try.prog 24 #[.int .u8 f, .agg #[v, u], .agg #[v2, u2]] w fun e' w' => RetArr w.heap.size (noA 60) e' w' ∧ Below w.heap.size w w' := by
  have HR1 := Lib.hid hr1
  clear hr1
  have HS0 := Lib.hid hs.src; have HS1 := Lib.hid hd.src; have HS2 := Lib.hid ht.src; have HS3 := Lib.hid he.src
  obtain ⟨a0, c0, rfl, h01, h02, -, h04, -⟩ := hs
  obtain ⟨a1, c1, rfl, h11, h12, -, h14, hin⟩ := hd
  obtain ⟨a2, c2, rfl, h21, h22, -, h24, -⟩ := ht
  obtain ⟨a3, c3, rfl, h31, h32, -, h34, hie⟩ := he
  have h02' : c0 ≤ 9223372036854775807 := h02
  have h12' : c1 ≤ 9223372036854775807 := h12
  have h22' : c2 ≤ 9223372036854775807 := h22
  have h32' : c3 ≤ 9223372036854775807 := h32
  have HM : Hid (s.length ≤ maxLen) := Lib.hid (Nat.le_trans h01 h02)
  have HM2 : Hid (t.length ≤ maxLen) := Lib.hid (Nat.le_trans h21 h22)
  have H0 := Lib.hid h04; have H1 := Lib.hid h14; have HIN := Lib.hid hin
  have H2 := Lib.hid h24; have H3 := Lib.hid h34; have HIE := Lib.hid hie
  have HO := Lib.hid (Duo.mk0 w (.slice a0 s.length c0) (.slice a1 d.length c1) (.slice a2 t.length c2) (.slice a3 e.length c3))
  obtain ⟨r, HRR⟩ : ∃ r, Hid ((noA 60) = r) := ⟨_, Lib.hid rfl⟩
  rw [HRR.out]
  clear h04 h14 h24 h34 h02 h12 h22 h32 hin hie
  go_enter Try.func24, Try.ntmps24
  go_upto_region 1 with fail
  refine gen_worldA (fun W => Duo w W (.slice a0 s.length c0) (.slice a1 d.length c1) (.slice a2 t.length c2) (.slice a3 e.length c3)) HO.out ?_
  rintro W1 hO
  have HO2 := Lib.hid hO
  have x0 := hO.c0; have x1 := hO.c1; have x2 := hO.c2; have x3 := hO.c3
  clear HO hO
  have hq := rright_any W1 a0 a1 c0 c1 s d HM.out (H0.out.below HO2.out.b (Nat.le_refl _))
  rw [HR1.out] at hq
  have HQ := Lib.hid hq
  clear hq
  go_wp2_with fail
  refine HQ.out.mono ?_
  rintro e' W2 ⟨rfl, hb2⟩
  have HO3 := Lib.hid (HO2.out.next hb2)
  have hq := rno_at W2 w.heap.size HO3.out.b.size 60 r HRR.out
  clear HQ x0 x1 x2 x3
  have HQ := Lib.hid hq; have HR := Lib.hid HO3.out.r; have HB := Lib.hid HO3.out.b
  clear hq hb2 HO2
  go_wp2_with fail
  refine (Hid.out HQ).mono ?_
  rintro e w9 ⟨⟨v9, u9, rfl, hv9, hu9, hap9⟩, hb9⟩
  have hR9 := block_below (Hid.out HR) hb9
  have HV9 := Lib.hid hv9; have HU9 := Lib.hid hu9; have HAP9 := Lib.hid hap9; have HR9 := Lib.hid hR9
  have HB9 := Lib.hid (bNext hb9 (Hid.out HB))
  obtain ⟨a9, c9, rfl, -, -⟩ := RowI.slice hv9
  obtain ⟨a8, c8, rfl, -, -⟩ := RowI.slice hu9
  have g0 := cell_of_row w9 _ 0 _ _ _ hR9; have g1 := cell_of_row w9 _ 1 _ _ _ hR9
  have z0 := frozen_of_row w9 _ 0 _ _ hR9; have z1 := frozen_of_row w9 _ 1 _ _ hR9
  clear hv9 hu9 hap9 hb9 hR9
  go_wp2_with fail
  exact fin_arr rfl rfl rfl HR9.out HV9.out HU9.out HAP9.out HB9.out (by omega)
set_option maxHeartbeats 4000000 in
theorem ro_bad2 (w : World) (f : Int) (v u v2 u2 : Value) (s d t e : List Int) (hs : SlA w v s) (hd : SlA w u d) (ht : SlA w v2 t) (he : SlA w u2 e) (hr1 : right s d = true) (hr2 : right t e = false) :
    Calls Try.prog 24 #[.int .u8 f, .agg #[v, u], .agg #[v2, u2]] w fun e' w' => RetArr w.heap.size (noA 60) e' w' ∧ Below w.heap.size w w' := by
  have HR1 := Lib.hid hr1; have HR2 := Lib.hid hr2
  clear hr1 hr2
  have HS0 := Lib.hid hs.src; have HS1 := Lib.hid hd.src; have HS2 := Lib.hid ht.src; have HS3 := Lib.hid he.src
  obtain ⟨a0, c0, rfl, h01, h02, -, h04, -⟩ := hs
  obtain ⟨a1, c1, rfl, h11, h12, -, h14, hin⟩ := hd
  obtain ⟨a2, c2, rfl, h21, h22, -, h24, -⟩ := ht
  obtain ⟨a3, c3, rfl, h31, h32, -, h34, hie⟩ := he
  have h02' : c0 ≤ 9223372036854775807 := h02
  have h12' : c1 ≤ 9223372036854775807 := h12
  have h22' : c2 ≤ 9223372036854775807 := h22
  have h32' : c3 ≤ 9223372036854775807 := h32
  have HM : Hid (s.length ≤ maxLen) := Lib.hid (Nat.le_trans h01 h02)
  have HM2 : Hid (t.length ≤ maxLen) := Lib.hid (Nat.le_trans h21 h22)
  have H0 := Lib.hid h04; have H1 := Lib.hid h14; have HIN := Lib.hid hin
  have H2 := Lib.hid h24; have H3 := Lib.hid h34; have HIE := Lib.hid hie
  have HO := Lib.hid (Duo.mk0 w (.slice a0 s.length c0) (.slice a1 d.length c1) (.slice a2 t.length c2) (.slice a3 e.length c3))
  obtain ⟨r, HRR⟩ : ∃ r, Hid ((noA 60) = r) := ⟨_, Lib.hid rfl⟩
  rw [HRR.out]
  clear h04 h14 h24 h34 h02 h12 h22 h32 hin hie
  go_enter Try.func24, Try.ntmps24
  go_upto_region 1 with fail
  refine gen_worldA (fun W => Duo w W (.slice a0 s.length c0) (.slice a1 d.length c1) (.slice a2 t.length c2) (.slice a3 e.length c3)) HO.out ?_
  rintro W1 hO
  have HO2 := Lib.hid hO
  have x0 := hO.c0; have x1 := hO.c1; have x2 := hO.c2; have x3 := hO.c3
  clear HO hO
  have hq := rright_any W1 a0 a1 c0 c1 s d HM.out (H0.out.below HO2.out.b (Nat.le_refl _))
  rw [HR1.out] at hq
  have HQ := Lib.hid hq
  clear hq
  go_wp2_with fail
  refine HQ.out.mono ?_
  rintro e' W2 ⟨rfl, hb2⟩
  have HO3 := Lib.hid (HO2.out.next hb2)
  have hq := rright_any W2 a2 a3 c2 c3 t e HM2.out (H2.out.below HO3.out.b (Nat.le_refl _))
  rw [HR2.out] at hq
  clear HQ x0 x1 x2 x3
  have HQ := Lib.hid hq
  have x2 := HO3.out.c2; have x3 := HO3.out.c3
  clear hq hb2 HO2
  go_wp2_with fail
  refine HQ.out.mono ?_
  rintro e' W3 ⟨rfl, hb3⟩
  have HO4 := Lib.hid (HO3.out.next hb3)
  clear HQ x2 x3 hb3 HO3
  have hq := rno_at W3 w.heap.size HO4.out.b.size 60 r HRR.out
  have HQ := Lib.hid hq; have HR := Lib.hid HO4.out.r; have HB := Lib.hid HO4.out.b
  clear hq
  go_wp2_with fail
  refine (Hid.out HQ).mono ?_
  rintro e w9 ⟨⟨v9, u9, rfl, hv9, hu9, hap9⟩, hb9⟩
  have hR9 := block_below (Hid.out HR) hb9
  have HV9 := Lib.hid hv9; have HU9 := Lib.hid hu9; have HAP9 := Lib.hid hap9; have HR9 := Lib.hid hR9
  have HB9 := Lib.hid (bNext hb9 (Hid.out HB))
  obtain ⟨a9, c9, rfl, -, -⟩ := RowI.slice hv9
  obtain ⟨a8, c8, rfl, -, -⟩ := RowI.slice hu9
  have g0 := cell_of_row w9 _ 0 _ _ _ hR9; have g1 := cell_of_row w9 _ 1 _ _ _ hR9
  have z0 := frozen_of_row w9 _ 0 _ _ hR9; have z1 := frozen_of_row w9 _ 1 _ _ hR9
  clear hv9 hu9 hap9 hb9 hR9
  go_wp2_with fail
  exact fin_arr rfl rfl rfl HR9.out HV9.out HU9.out HAP9.out HB9.out (by omega)
set_option maxHeartbeats 4000000 in
theorem ro_no (w : World) (f : Int) (v u v2 u2 : Value) (s d t e : List Int) (hs : SlA w v s) (hd : SlA w u d) (ht : SlA w v2 t) (he : SlA w u2 e) (hr1 : right s d = true) (hr2 : right t e = true) (htk : takes f true = false) :
    Calls Try.prog 24 #[.int .u8 f, .agg #[v, u], .agg #[v2, u2]] w fun e' w' => RetArr w.heap.size (noA 70) e' w' ∧ Below w.heap.size w w' := by
  have HR1 := Lib.hid hr1; have HR2 := Lib.hid hr2
  have HT := Lib.hid (fun W => rtakes_at W f true false htk)
  clear hr1 hr2 htk
  have HS0 := Lib.hid hs.src; have HS1 := Lib.hid hd.src; have HS2 := Lib.hid ht.src; have HS3 := Lib.hid he.src
  obtain ⟨a0, c0, rfl, h01, h02, -, h04, -⟩ := hs
  obtain ⟨a1, c1, rfl, h11, h12, -, h14, hin⟩ := hd
  obtain ⟨a2, c2, rfl, h21, h22, -, h24, -⟩ := ht
  obtain ⟨a3, c3, rfl, h31, h32, -, h34, hie⟩ := he
  have h02' : c0 ≤ 9223372036854775807 := h02
  have h12' : c1 ≤ 9223372036854775807 := h12
  have h22' : c2 ≤ 9223372036854775807 := h22
  have h32' : c3 ≤ 9223372036854775807 := h32
  have HM : Hid (s.length ≤ maxLen) := Lib.hid (Nat.le_trans h01 h02)
  have HM2 : Hid (t.length ≤ maxLen) := Lib.hid (Nat.le_trans h21 h22)
  have H0 := Lib.hid h04; have H1 := Lib.hid h14; have HIN := Lib.hid hin
  have H2 := Lib.hid h24; have H3 := Lib.hid h34; have HIE := Lib.hid hie
  have HO := Lib.hid (Duo.mk0 w (.slice a0 s.length c0) (.slice a1 d.length c1) (.slice a2 t.length c2) (.slice a3 e.length c3))
  obtain ⟨r, HRR⟩ : ∃ r, Hid ((noA 70) = r) := ⟨_, Lib.hid rfl⟩
  rw [HRR.out]
  clear h04 h14 h24 h34 h02 h12 h22 h32 hin hie
  go_enter Try.func24, Try.ntmps24
  go_upto_region 1 with fail
  refine gen_worldA (fun W => Duo w W (.slice a0 s.length c0) (.slice a1 d.length c1) (.slice a2 t.length c2) (.slice a3 e.length c3)) HO.out ?_
  rintro W1 hO
  have HO2 := Lib.hid hO
  have x0 := hO.c0; have x1 := hO.c1; have x2 := hO.c2; have x3 := hO.c3
  clear HO hO
  have hq := rright_any W1 a0 a1 c0 c1 s d HM.out (H0.out.below HO2.out.b (Nat.le_refl _))
  rw [HR1.out] at hq
  have HQ := Lib.hid hq
  clear hq
  go_wp2_with fail
  refine HQ.out.mono ?_
  rintro e' W2 ⟨rfl, hb2⟩
  have HO3 := Lib.hid (HO2.out.next hb2)
  have hq := rright_any W2 a2 a3 c2 c3 t e HM2.out (H2.out.below HO3.out.b (Nat.le_refl _))
  rw [HR2.out] at hq
  clear HQ x0 x1 x2 x3
  have HQ := Lib.hid hq
  have x2 := HO3.out.c2; have x3 := HO3.out.c3
  clear hq hb2 HO2
  go_wp2_with fail
  refine HQ.out.mono ?_
  rintro e' W3 ⟨rfl, hb3⟩
  have HO4 := Lib.hid (HO3.out.next hb3)
  clear HQ x2 x3 hb3 HO3
  have HQ0 := Lib.hid (HT.out W3)
  go_wp2_with fail
  refine HQ0.out.mono ?_
  rintro e' W4 ⟨rfl, rfl⟩
  have hq := rno_at W3 w.heap.size HO4.out.b.size 70 r HRR.out
  have HQ := Lib.hid hq; have HR := Lib.hid HO4.out.r; have HB := Lib.hid HO4.out.b
  clear hq HQ0 HT
  go_wp2_with fail
  refine (Hid.out HQ).mono ?_
  rintro e w9 ⟨⟨v9, u9, rfl, hv9, hu9, hap9⟩, hb9⟩
  have hR9 := block_below (Hid.out HR) hb9
  have HV9 := Lib.hid hv9; have HU9 := Lib.hid hu9; have HAP9 := Lib.hid hap9; have HR9 := Lib.hid hR9
  have HB9 := Lib.hid (bNext hb9 (Hid.out HB))
  obtain ⟨a9, c9, rfl, -, -⟩ := RowI.slice hv9
  obtain ⟨a8, c8, rfl, -, -⟩ := RowI.slice hu9
  have g0 := cell_of_row w9 _ 0 _ _ _ hR9; have g1 := cell_of_row w9 _ 1 _ _ _ hR9
  have z0 := frozen_of_row w9 _ 0 _ _ hR9; have z1 := frozen_of_row w9 _ 1 _ _ hR9
  clear hv9 hu9 hap9 hb9 hR9
  go_wp2_with fail
  exact fin_arr rfl rfl rfl HR9.out HV9.out HU9.out HAP9.out HB9.out (by omega)
theorem wrongP_bad {f : Int} {pq : List (Int × Int)} {p : Int × Int} (h : p ∈ pq) (hb : refusesB f p.1 p.2 = true) : wrongP f pq = 11 := by
  unfold wrongP
  rw [if_pos (List.any_eq_true.2 ⟨p, h, hb⟩)]
theorem mem_prodP {d e : List Int} {k j : Nat} (hk : k < d.length) (hj : j < e.length) : (d.getD k 0, e.getD j 0) ∈ prodP d e := by
  unfold prodP
  rw [List.mem_flatMap]
  refine ⟨d.getD k 0, ?_, ?_⟩
  · rw [List.getD_eq_getElem?_getD, List.getElem?_eq_getElem hk]; exact List.getElem_mem hk
  · rw [List.mem_map]
    refine ⟨e.getD j 0, ?_, rfl⟩
    rw [List.getD_eq_getElem?_getD, List.getElem?_eq_getElem hj]; exact List.getElem_mem hj
theorem wrongP_step {f : Int} {pq : List (Int × Int)} {x y : Int} (h : wrongP f pq = 0) (hb : refusesB f x y = false) : wrongP f (pq ++ [(x, y)]) = 0 := by
  rw [wrongP_snoc, h]
  unfold nextE
  rw [hb]; rfl
set_option maxHeartbeats 8000000 in
theorem ro_yes (w : World) (f : Int) (v u v2 u2 : Value) (s d t e : List Int) (hs : SlA w v s) (hd : SlA w u d) (ht : SlA w v2 t) (he : SlA w u2 e) (hr1 : right s d = true) (hr2 : right t e = true) (htk : takes f true = true) :
    Calls Try.prog 24 #[.int .u8 f, .agg #[v, u], .agg #[v2, u2]] w fun e' w' => RetArr w.heap.size (outerL f s d t e) e' w' ∧ Below w.heap.size w w' := by
  have hs4 := (right_good hr1).2.len
  have ht4 := (right_good hr2).2.len
  have HPR : Hid (size (s ++ t) = (((d.length * e.length : Nat) : Int), 0) ∧ d.length * e.length ≤ 65536 ∨ (size (s ++ t)).2 ≠ 0) := Lib.hid (by
    rcases size_err (s ++ t) with h | ⟨m, h⟩
    · exact .inr (by rw [h]; decide)
    · left
      have g := size_good h
      have g1 := (right_good hr1).2.prod
      have g2 := (right_good hr2).2.prod
      have hm : m = ((d.length * e.length : Nat) : Int) := by rw [g.prod, prodL_append, ← g1, ← g2]; simp
      exact ⟨by rw [h, hm], by have := g.le; omega⟩)
  have HR1 := Lib.hid hr1; have HR2 := Lib.hid hr2; have HTK := Lib.hid htk
  have HT := Lib.hid (fun W => rtakes_at W f true true htk)
  clear hr1 hr2 htk
  have HS0 := Lib.hid hs.src; have HS1 := Lib.hid hd.src; have HS2 := Lib.hid ht.src; have HS3 := Lib.hid he.src
  obtain ⟨a0, c0, rfl, h01, h02, -, h04, -⟩ := hs
  obtain ⟨a1, c1, rfl, h11, h12, -, h14, hin⟩ := hd
  obtain ⟨a2, c2, rfl, h21, h22, -, h24, -⟩ := ht
  obtain ⟨a3, c3, rfl, h31, h32, -, h34, hie⟩ := he
  have h02' : c0 ≤ 9223372036854775807 := h02
  have h12' : c1 ≤ 9223372036854775807 := h12
  have h22' : c2 ≤ 9223372036854775807 := h22
  have h32' : c3 ≤ 9223372036854775807 := h32
  have HM : Hid (s.length ≤ maxLen) := Lib.hid (Nat.le_trans h01 h02)
  have HM2 : Hid (t.length ≤ maxLen) := Lib.hid (Nat.le_trans h21 h22)
  have H0 := Lib.hid h04; have H1 := Lib.hid h14; have HIN := Lib.hid hin
  have H2 := Lib.hid h24; have H3 := Lib.hid h34; have HIE := Lib.hid hie
  have HO := Lib.hid (Duo.mk0 w (.slice a0 s.length c0) (.slice a1 d.length c1) (.slice a2 t.length c2) (.slice a3 e.length c3))
  obtain ⟨r, HRR⟩ : ∃ r, Hid ((outerL f s d t e) = r) := ⟨_, Lib.hid rfl⟩
  rw [HRR.out]
  clear h04 h14 h24 h34 h02 h12 h22 h32 hin hie
  unfold outerL at HRR
  go_enter Try.func24, Try.ntmps24
  go_upto_region 1 with fail
  refine gen_worldA (fun W => Duo w W (.slice a0 s.length c0) (.slice a1 d.length c1) (.slice a2 t.length c2) (.slice a3 e.length c3)) HO.out ?_
  rintro W1 hO
  have HO2 := Lib.hid hO
  have x0 := hO.c0; have x1 := hO.c1; have x2 := hO.c2; have x3 := hO.c3
  clear HO hO
  have hq := rright_any W1 a0 a1 c0 c1 s d HM.out (H0.out.below HO2.out.b (Nat.le_refl _))
  rw [HR1.out] at hq
  have HQ := Lib.hid hq
  clear hq
  go_wp2_with fail
  refine HQ.out.mono ?_
  rintro e' W2 ⟨rfl, hb2⟩
  have HO3 := Lib.hid (HO2.out.next hb2)
  have hq := rright_any W2 a2 a3 c2 c3 t e HM2.out (H2.out.below HO3.out.b (Nat.le_refl _))
  rw [HR2.out] at hq
  clear HQ x0 x1 x2 x3
  have HQ := Lib.hid hq
  have x2 := HO3.out.c2; have x3 := HO3.out.c3
  clear hq hb2 HO2
  go_wp2_with fail
  refine HQ.out.mono ?_
  rintro e' W3 ⟨rfl, hb3⟩
  have HO4 := Lib.hid (HO3.out.next hb3)
  clear HQ x2 x3 hb3 HO3
  have HQ0 := Lib.hid (HT.out W3)
  go_wp2_with fail
  refine HQ0.out.mono ?_
  rintro e' W4 ⟨rfl, rfl⟩
  have x0 := HO4.out.c0; have x2 := HO4.out.c2
  go_upto_region 5 with fail
  refine wp_region_Z (S := fun W' => W'.cell? ⟨w.heap.size, 0, none⟩ = some (.slice a0 s.length c0) ∧ W'.cell? ⟨w.heap.size + 1, 0, none⟩ = some (.slice a2 t.length c2)) (z := 7) (by kernel_rfl) ?_
  have hSS : (fun W' : World => W'.cell? ⟨w.heap.size, 0, none⟩ = some (.slice a0 s.length c0) ∧ W'.cell? ⟨w.heap.size + 1, 0, none⟩ = some (.slice a2 t.length c2)) W3.drew := ⟨x0, x2⟩
  refine wpAnyZ_take (i := 1) (v := ?_) rfl (by kernel_rfl) (by kernel_rfl) (by kernel_rfl) (fun _ _ _ h => h) (by kernel_rfl) (Or.inl ⟨by rfl, ?_⟩) (by assumption) ?_
  rotate_left
  · intro w' hSw
    try dsimp only at hSw
    try obtain ⟨hSw, hSw2⟩ := hSw
    go_simp
    try with_reducible rfl
  show wpAnyZ _ _ _ _ _ _ _ _ (Act.put _ (some 34) _) _
  simp only [Act.put, List.setIfInBounds_toArray, List.set_cons_zero, List.set_cons_succ]
  refine wpAnyZ_take (i := 2) (v := ?_) rfl (by kernel_rfl) (by kernel_rfl) (by kernel_rfl) (fun _ _ _ h => h) (by kernel_rfl) (Or.inl ⟨by rfl, ?_⟩) (by assumption) ?_
  rotate_left
  · intro w' hSw
    try dsimp only at hSw
    try obtain ⟨hSw, hSw2⟩ := hSw
    go_simp
    try with_reducible rfl
  show wpAnyZ _ _ _ _ _ _ _ _ (Act.put _ (some 35) _) _
  simp only [Act.put, List.setIfInBounds_toArray, List.set_cons_zero, List.set_cons_succ]
  refine wpAnyZ_take (i := 4) (v := ?_) rfl (by kernel_rfl) (by kernel_rfl) (by kernel_rfl) (fun _ _ _ h => h) (by kernel_rfl) (Or.inl ⟨by rfl, ?_⟩) (by assumption) ?_
  rotate_left
  · intro w' hSw
    try dsimp only at hSw
    try obtain ⟨hSw, hSw2⟩ := hSw
    go_simp
    try with_reducible rfl
  show wpAnyZ _ _ _ _ _ _ _ _ (Act.put _ (some 37) _) _
  simp only [Act.put, List.setIfInBounds_toArray, List.set_cons_zero, List.set_cons_succ]
  refine wpAnyZ_take (i := 5) (v := ?_) rfl (by kernel_rfl) (by kernel_rfl) (by kernel_rfl) (fun _ _ _ h => h) (by kernel_rfl) (Or.inl ⟨by rfl, ?_⟩) (by assumption) ?_
  rotate_left
  · intro w' hSw
    try dsimp only at hSw
    try obtain ⟨hSw, hSw2⟩ := hSw
    go_simp
    try with_reducible rfl
  show wpAnyZ _ _ _ _ _ _ _ _ (Act.put _ (some 38) _) _
  simp only [Act.put, List.setIfInBounds_toArray, List.set_cons_zero, List.set_cons_succ]
  clear hSS x0 x2
  refine wpAnyZ_one (i := 0) (by kernel_rfl) rfl rfl (fun K hK => ?_)
  go_simp
  have hba : Below W3.heap.size W3 (W3.alloc (.cells #[] 2)).drew := ((Below.refl _ _).alloc (Nat.le_refl _) _).drew
  have HLIT : Hid (RowI w.heap.size (W3.alloc (.cells #[] 2)).drew (.slice (some ⟨W3.heap.size, 0, none⟩) 0 0) []) := Lib.hid (row_nil_lit w.heap.size W3 HO4.out.b.size)
  have HO5 := Lib.hid (HO4.out.next hba)
  refine hK.out _ _ (.inr ⟨HO5.out.c0, HO5.out.c2⟩) ?_
  clear hK hba HQ0 HT
  generalize (W3.alloc (.cells #[] 2)).drew = W5 at HLIT HO5 ⊢
  obtain ⟨G, hG⟩ : ∃ G, W3.heap.size = G := ⟨_, rfl⟩
  rw [hG] at HLIT ⊢
  clear hG HO4
  refine wpAnyZ_one (i := 3) (by kernel_rfl) rfl rfl (fun K hK => ?_)
  refine wp_app (.tmp 33) (.tmp 35) rfl w.heap.size (.slice (some ⟨G, 0, none⟩) 0 0) [] s _ s.length rfl rfl HLIT.out rfl (HS0.out.below HO5.out.b) (by simp; omega) HO5.out.b.size ?_
  intro v6 W6 hv6 hg6 hn6
  have hv6 : RowI w.heap.size W6 v6 s := hv6
  have HO6 := Lib.hid (HO5.out.app (Below.refl _ _) HLIT.out hg6); have HV6 := Lib.hid hv6
  refine hK.out _ _ (.inr ⟨HO6.out.c0, HO6.out.c2⟩) ?_
  clear hK hv6 hg6 hn6 HLIT HO5
  refine wpAnyZ_one (i := 6) (by kernel_rfl) rfl rfl (fun K hK => ?_)
  refine wp_app (.tmp 36) (.tmp 38) rfl w.heap.size v6 s t _ t.length rfl rfl HV6.out rfl (HS2.out.below HO6.out.b) (by omega) HO6.out.b.size ?_
  intro v8 W7 hv8 hg7 hn7
  have HO7 := Lib.hid (HO6.out.app (Below.refl _ _) HV6.out hg7); have HV8 := Lib.hid hv8
  refine hK.out _ _ (.inr ⟨HO7.out.c0, HO7.out.c2⟩) ?_
  obtain ⟨a8, c8, e8, -, hi8⟩ := hv8.slice
  clear hK hv8 hg7 hn7 HO6 HV6
  refine wpAnyZ_one (i := 7) (by kernel_rfl) rfl rfl (fun K hK => ?_)
  go_simp
  refine hK.out _ _ (.inl (Nat.le_refl _)) ?_
  clear hK
  refine wpAnyZ_done (by kernel_rfl) ?_ _
  have hsa := rsize_any W7 a8 c8 (s ++ t) (by rw [List.length_append]; unfold maxLen; omega) hi8
  rw [List.length_append] at e8 hsa HRR
  subst e8
  have HSA := Lib.hid hsa
  clear hi8 hsa
  by_cases h4 : 4 < s.length + t.length
  · rw [if_pos h4] at HRR
    have h4I : (4 : Int) < (s.length : Int) + (t.length : Int) := by omega
    have hq := rno_at W7 w.heap.size HO7.out.b.size 71 r HRR.out
    have HQ := Lib.hid hq; have HR := Lib.hid HO7.out.r; have HB := Lib.hid HO7.out.b
    clear hq
    go_wp2_with fail
    refine (Hid.out HQ).mono ?_
    rintro e w9 ⟨⟨v9, u9, rfl, hv9, hu9, hap9⟩, hb9⟩
    have hR9 := block_below (Hid.out HR) hb9
    have HV9 := Lib.hid hv9; have HU9 := Lib.hid hu9; have HAP9 := Lib.hid hap9; have HR9 := Lib.hid hR9
    have HB9 := Lib.hid (bNext hb9 (Hid.out HB))
    obtain ⟨a9, c9, rfl, -, -⟩ := RowI.slice hv9
    obtain ⟨a8, c8, rfl, -, -⟩ := RowI.slice hu9
    have g0 := cell_of_row w9 _ 0 _ _ _ hR9; have g1 := cell_of_row w9 _ 1 _ _ _ hR9
    have z0 := frozen_of_row w9 _ 0 _ _ hR9; have z1 := frozen_of_row w9 _ 1 _ _ hR9
    clear hv9 hu9 hap9 hb9 hR9
    go_wp2_with fail
    exact fin_arr rfl rfl rfl HR9.out HV9.out HU9.out HAP9.out HB9.out (by omega)
  rw [if_neg h4] at HRR
  have h4I : ¬ (4 : Int) < (s.length : Int) + (t.length : Int) := by omega
  obtain ⟨nz, er, hsz⟩ : ∃ nz er, size (s ++ t) = (nz, er) := ⟨_, _, rfl⟩
  rw [hsz] at HSA HRR HPR
  clear hsz
  go_wp2_with fail
  refine HSA.out.mono ?_
  rintro e' W8 ⟨rfl, rfl⟩
  clear HSA
  unfold two
  by_cases her : er = 0
  case neg =>
    have her' : (er != 0) = true := by simpa using her
    rw [if_pos her] at HRR
    have hq := rno_at W7 w.heap.size HO7.out.b.size 74 r HRR.out
    have HQ := Lib.hid hq; have HR := Lib.hid HO7.out.r; have HB := Lib.hid HO7.out.b
    clear hq her
    go_wp2_with fail
    refine (Hid.out HQ).mono ?_
    rintro e w9 ⟨⟨v9, u9, rfl, hv9, hu9, hap9⟩, hb9⟩
    have hR9 := block_below (Hid.out HR) hb9
    have HV9 := Lib.hid hv9; have HU9 := Lib.hid hu9; have HAP9 := Lib.hid hap9; have HR9 := Lib.hid hR9
    have HB9 := Lib.hid (bNext hb9 (Hid.out HB))
    obtain ⟨a9, c9, rfl, -, -⟩ := RowI.slice hv9
    obtain ⟨a8, c8, rfl, -, -⟩ := RowI.slice hu9
    have g0 := cell_of_row w9 _ 0 _ _ _ hR9; have g1 := cell_of_row w9 _ 1 _ _ _ hR9
    have z0 := frozen_of_row w9 _ 0 _ _ hR9; have z1 := frozen_of_row w9 _ 1 _ _ hR9
    clear hv9 hu9 hap9 hb9 hR9
    go_wp2_with fail
    exact fin_arr rfl rfl rfl HR9.out HV9.out HU9.out HAP9.out HB9.out (by omega)
  subst her
  rw [if_neg (by decide)] at HRR
  have HLE : Hid (d.length * e.length ≤ 65536) := Lib.hid (HPR.out.elim (fun h => h.2) (fun h => absurd rfl h))
  clear HPR
  have HVB : Hid (∀ g, (Value.slice a8 (s.length + t.length) c8).ownBlock = some g → g < W7.heap.size) := Lib.hid fun g e => (HV8.out.lt g e).2
  obtain ⟨B8, hB8⟩ : ∃ B, W7.heap.size = B := ⟨_, rfl⟩
  rw [hB8] at HVB
  have hB8w : w.heap.size ≤ B8 := hB8 ▸ HO7.out.b.size
  have HB8 := Lib.hid hB8
  have HMEM := Lib.hid (fun k j (hk : k < d.length) (hj : j < e.length) => mem_prodP hk hj)
  clear hB8
  have x1 := HO7.out.c1
  go_wp2_with fail
  clear x1
  go_loopw [11, 12] (fun o i wr => ∃ k : Nat, k ≤ d.length ∧ i = .int .i64 k ∧ B8 ≤ wr.heap.size ∧ Duo w wr (.slice a0 s.length c0) (.slice a1 d.length c1) (.slice a2 t.length c2) (.slice a3 e.length c3) ∧
    wrongP f (prodP (d.take k) e) = 0 ∧ RowI w.heap.size wr (.slice a8 (s.length + t.length) c8) (s ++ t) ∧ RowI B8 wr o (outP f (prodP (d.take k) e))) (fun _ i _ => d.length - (intOf i).toNat)
  case atStart => exact ⟨0, by omega, rfl, by have := HB8.out; omega, HO7.out, rfl, HV8.out, RowI.nil _ _⟩
  case round =>
    obtain ⟨k, hk, rfl, hbw, hO, hw0, hv, hrw⟩ := hrel
    clear HO7 HV8 HB8
    have x1 := hO.c1
    by_cases hlt : k < d.length
    · have hps := prodP_succ (e := e) hlt
      obtain ⟨b1, o1, rfl, hc1⟩ := H1.out.atD hlt
      have HC1 := Lib.hid hc1
      have hx := In64.getD HIN.out hlt
      have hkd : (k : Int) < (d.length : Int) := by omega
      have hk0 : (0 : Int) ≤ (k : Int) := by omega
      have HMK := Lib.hid (fun j (hj : j < e.length) => HMEM.out k j hlt hj)
      generalize d.getD k 0 = x at hps HC1 hx HMK
      have HX := Lib.hid hx; have HPS := Lib.hid hps; have HOR := Lib.hid hO; have HW0 := Lib.hid hw0; have HRW := Lib.hid hrw; have HV := Lib.hid hv
      have hql : (prodP (d.take k) e).length + e.length ≤ 65536 := by
        rw [prodP_len, List.length_take, Nat.min_eq_left hk]
        have : (k + 1) * e.length ≤ d.length * e.length := Nat.mul_le_mul_right _ hlt
        rw [Nat.succ_mul] at this
        have := HLE.out
        omega
      have HQL := Lib.hid hql
      clear hx hps hO hw0 hrw hv hql hc1
      generalize prodP (d.take k) e = Q at HPS HW0 HRW HQL ⊢
      go_wp2_with fail
      clear x1
      go_loopw [11, 13] (fun o i wi => ∃ j : Nat, j ≤ e.length ∧ i = .int .i64 j ∧ B8 ≤ wi.heap.size ∧ Duo w wi (.slice a0 s.length c0) (.slice (some ⟨b1, o1, none⟩) d.length c1) (.slice a2 t.length c2) (.slice a3 e.length c3) ∧
        wrongP f (Q ++ (e.take j).map fun y => (x, y)) = 0 ∧ RowI w.heap.size wi (.slice a8 (s.length + t.length) c8) (s ++ t) ∧ RowI B8 wi o (outP f (Q ++ (e.take j).map fun y => (x, y)))) (fun _ i _ => e.length - (intOf i).toNat)
      case atStart => exact ⟨0, by omega, rfl, hbw, HOR.out, by simpa using HW0.out, HV.out, by simpa using HRW.out⟩
      case round =>
        obtain ⟨j, hj, rfl, hbi, hO, hw0, hv, hrw⟩ := hrel
        clear HOR HW0 HV HRW
        have x3 := hO.c3
        by_cases hlt2 : j < e.length
        · have hms := map_take_succ' x hlt2
          obtain ⟨b3, o3, rfl, hc3⟩ := H3.out.atD hlt2
          have hc3 := keepCell hO.b hc3
          have hc1 := keepCell hO.b HC1.out
          have x1 := hO.c1
          have hy := In64.getD HIE.out hlt2
          have hje : (j : Int) < (e.length : Int) := by omega
          have hj0 : (0 : Int) ≤ (j : Int) := by omega
          have hmm := HMK.out j hlt2
          generalize e.getD j 0 = y at hms hc3 hy hmm
          have hol : (outP f (Q ++ (e.take j).map fun y => (x, y))).length ≤ 65536 := by
            have := HQL.out
            rw [outP_len, List.length_append, List.length_map, List.length_take]; omega
          have hO1 : outP f (Q ++ (e.take (j + 1)).map fun y => (x, y)) = outP f (Q ++ (e.take j).map fun y => (x, y)) ++ [callV f x y] := by rw [hms, ← List.append_assoc, outP_snoc]
          have hW1 : refusesB f x y = false → wrongP f (Q ++ (e.take (j + 1)).map fun y => (x, y)) = 0 := fun h => by rw [hms, ← List.append_assoc]; exact wrongP_step hw0 h
          have HBAD := Lib.hid (fun (h : refusesB f x y = true) => show doneA (wrongP f (prodP d e)) (s ++ t) (outP f (prodP d e)) = noA 11 by rw [wrongP_bad hmm h]; rfl)
          have HOL := Lib.hid hol; have HO1 := Lib.hid hO1; have HW1 := Lib.hid hW1
          have hq := fun W => rdyad_at W f x y _ _ HX.out hy (dyadF_call HTK.out)
          have HOR := Lib.hid hO; have HRW := Lib.hid hrw; have HV := Lib.hid hv
          generalize outP f (Q ++ (e.take j).map fun y => (x, y)) = ou at HOL HO1 HRW ⊢
          generalize callV f x y = cv at HO1 hq
          cases hrf : refusesB f x y with
          | true =>
            have hce : callE f x y = 11 := by unfold callE; rw [hrf]; rfl
            rw [hce] at hq
            have HQ0 := Lib.hid hq
            have HBD2 := Lib.hid (HBAD.out hrf)
            clear hol hO1 hW1 hq hO hw0 hrw hv hy hms hmm hce hrf HBAD HW1
            go_wp2_with fail
            go_quiet ((exact Calls.quiet_of (HQ0.out _)))
            have HR5 := Lib.hid (HOR.out.next (Below.drewN wr nq))
            have hq := rno_at (wr.drewN nq) w.heap.size HR5.out.b.size 11 r (by rw [← HBD2.out]; exact HRR.out)
            have HQ := Lib.hid hq; have HR := Lib.hid HR5.out.r; have HB := Lib.hid HR5.out.b
            clear hq hc1 hc3 x1 x3 HOR HRW HV
            go_wp2_with fail
            refine (Hid.out HQ).mono ?_
            rintro e w9 ⟨⟨v9, u9, rfl, hv9, hu9, hap9⟩, hb9⟩
            have hR9 := block_below (Hid.out HR) hb9
            have HV9 := Lib.hid hv9; have HU9 := Lib.hid hu9; have HAP9 := Lib.hid hap9; have HR9 := Lib.hid hR9
            have HB9 := Lib.hid (bNext hb9 (Hid.out HB))
            obtain ⟨a9, c9, rfl, -, -⟩ := RowI.slice hv9
            obtain ⟨a8, c8, rfl, -, -⟩ := RowI.slice hu9
            have g0 := cell_of_row w9 _ 0 _ _ _ hR9; have g1 := cell_of_row w9 _ 1 _ _ _ hR9
            have z0 := frozen_of_row w9 _ 0 _ _ hR9; have z1 := frozen_of_row w9 _ 1 _ _ hR9
            clear hv9 hu9 hap9 hb9 hR9
            go_wp2_with fail
            exact fin_arr rfl rfl rfl HR9.out HV9.out HU9.out HAP9.out HB9.out (by omega)
          | false =>
            have hce : callE f x y = 0 := by unfold callE; rw [hrf]; rfl
            rw [hce] at hq
            have HQ0 := Lib.hid hq
            have HW2 := Lib.hid (HW1.out hrf)
            clear hol hO1 hW1 hq hO hw0 hrw hv hy hms hmm hce hrf HBAD HW1
            go_wp2_with fail
            go_quiet ((exact Calls.quiet_of (HQ0.out _)))
            have HO5 := Lib.hid (HOR.out.next (Below.drewN wr nq)); have HV5 := Lib.hid (HRW.out.drewN nq); have HS5 := Lib.hid (HV.out.drewN nq)
            have hba : Below (wr.drewN nq).heap.size (wr.drewN nq) ((wr.drewN nq).alloc (.cells #[.int .i64 cv] 2)) := (Below.refl _ _).alloc (Nat.le_refl _) _
            have HBA := Lib.hid hba; have HR6 := Lib.hid (HV5.out.below hba); have HS6 := Lib.hid (HS5.out.below hba)
            have hsz : B8 ≤ ((wr.drewN nq).alloc (.cells #[.int .i64 cv] 2)).heap.size := Nat.le_trans (by simpa using hbi) hba.size
            clear hba hc1 hc3 x1 x3 HOR HRW HV HQ0
            go_wp2_with (at_builtin; refine wpList_app rfl _ _ rfl B8 _ ou [cv] _ 1 rfl rfl HR6.out rfl (src_one (wr.drewN nq) cv _ rfl) (by have := HOL.out; omega) hsz ?_)
            intro v' w9 hv9 hg9 hn9
            have hv9 : RowI B8 w9 v' (ou ++ [cv]) := hv9
            rw [← HO1.out] at hv9
            have HV9 := Lib.hid hv9
            have HO9 := Lib.hid (HO5.out.app HBA.out (HR6.out.mono hB8w) hg9)
            have HS9 := Lib.hid (HS6.out.kept hg9 (by
              cases hq : (Value.slice a8 (s.length + t.length) c8).ownBlock with
              | none => exact .inl rfl
              | some g =>
                refine .inr (fun e => ?_)
                have h1 := HVB.out g hq
                have h2 := (HR6.out.lt g e.symm).1
                exact absurd h1 (Nat.not_lt.2 h2)))
            have hb9 : B8 ≤ w9.heap.size := Nat.le_trans hsz hg9.size
            clear hv9 hg9 hn9 HBA HR6 HS6 HO5 HV5 HS5 HO1 hsz hbi
            go_wp2_with fail
            go_roundw
            case rel => exact ⟨j + 1, by omega, by go_num, hb9, HO9.out, HW2.out, HS9.out, HV9.out⟩
            case measure => simp [intOf] <;> omega
        · obtain rfl : j = e.length := by omega
          rw [List.take_length, ← HPS.out] at hw0 hrw
          have HOR := Lib.hid hO; have HW0 := Lib.hid hw0; have HRW := Lib.hid hrw; have HV := Lib.hid hv
          clear hO hw0 hrw hv hlt2
          go_wp2_with fail
          go_roundw
          case rel => exact ⟨k + 1, by omega, by go_num, hbi, HOR.out, HW0.out, HV.out, HRW.out⟩
          case measure => simp [intOf] <;> omega
    · obtain rfl : k = d.length := by omega
      rw [List.take_length] at hw0 hrw
      have hrr := HRR.out
      rw [hw0] at hrr
      have hrr : okA (s ++ t) (outP f (prodP d e)) = r := hrr
      generalize outP f (prodP d e) = D at hrw hrr
      obtain ⟨a9, c9, e9, -, -⟩ := hrw.slice
      have hq := made_any wr w.heap.size hO.b.size (.slice a8 (s.length + t.length) c8) _ (s ++ t) D ⟨_, _, by rw [List.length_append]⟩ hv.src (by rw [List.length_append]; omega) (hrw.mono hB8w)
      rw [hrr] at hq
      have HQ := Lib.hid hq; have HR := Lib.hid hO.r; have HB := Lib.hid hO.b
      subst e9
      clear hq hO hrw hv hlt hw0 hrr
      go_wp2_with fail
      refine (Hid.out HQ).mono ?_
      rintro e w9 ⟨⟨v9, u9, rfl, hv9, hu9, hap9⟩, hb9⟩
      have hR9 := block_below (Hid.out HR) hb9
      have HV9 := Lib.hid hv9; have HU9 := Lib.hid hu9; have HAP9 := Lib.hid hap9; have HR9 := Lib.hid hR9
      have HB9 := Lib.hid (bNext hb9 (Hid.out HB))
      obtain ⟨a9, c9, rfl, -, -⟩ := RowI.slice hv9
      obtain ⟨a8, c8, rfl, -, -⟩ := RowI.slice hu9
      have g0 := cell_of_row w9 _ 0 _ _ _ hR9; have g1 := cell_of_row w9 _ 1 _ _ _ hR9
      have z0 := frozen_of_row w9 _ 0 _ _ hR9; have z1 := frozen_of_row w9 _ 1 _ _ hR9
      clear hv9 hu9 hap9 hb9 hR9
      go_wp2_with fail
      exact fin_arr rfl rfl rfl HR9.out HV9.out HU9.out HAP9.out HB9.out (by omega)
theorem ro_any (w : World) (f : Int) (v u v2 u2 : Value) (s d t e : List Int) (hs : SlA w v s) (hd : SlA w u d) (ht : SlA w v2 t) (he : SlA w u2 e) :
    Calls Try.prog 24 #[.int .u8 f, .agg #[v, u], .agg #[v2, u2]] w fun e' w' => RetArr w.heap.size (outerA f s d t e) e' w' ∧ Below w.heap.size w w' := by
  cases hr1 : right s d with
  | false => exact retB' (ro_bad1 w f v u v2 u2 s d t e hs hd ht he hr1) (by unfold outerA; rw [hr1]; rfl)
  | true =>
    cases hr2 : right t e with
    | false => exact retB' (ro_bad2 w f v u v2 u2 s d t e hs hd ht he hr1 hr2) (by unfold outerA; rw [hr1, hr2]; rfl)
    | true =>
      cases htk : takes f true with
      | false => exact retB' (ro_no w f v u v2 u2 s d t e hs hd ht he hr1 hr2 htk) (by unfold outerA; rw [hr1, hr2, htk]; rfl)
      | true => rw [outerA_eq hr1 hr2 htk]; exact ro_yes w f v u v2 u2 s d t e hs hd ht he hr1 hr2 htk
end Go.Proofs.Ytmjkncmpanhgjaa

namespace Go.Proofs.Ytmjkncmpanhgjaa
set_option maxRecDepth 100000
open Go.RowKit
set_option linter.unusedVariables false
set_option linter.unusedSimpArgs false

/-! What the laws' walks share. -/
/-- an argument's box -/
structure BoxA (w W : World) (v u : Value) : Prop where
  x : W.heap[w.heap.size]? = some (.cells #[v, u] 24 (0, 0))
  b : Below w.heap.size w W
theorem BoxA.next {w W W' : World} {v u : Value} (h : BoxA w W v u) (hb : Below W.heap.size W W') : BoxA w W' v u := ⟨block_below h.x hb, bNext hb h.b⟩
theorem BoxA.c0 {w W : World} {v u : Value} (h : BoxA w W v u) : W.cell? ⟨w.heap.size, 0, none⟩ = some v := cell_of_row W _ 0 _ _ _ h.x
theorem BoxA.c1 {w W : World} {v u : Value} (h : BoxA w W v u) : W.cell? ⟨w.heap.size, 1, none⟩ = some u := cell_of_row W _ 1 _ _ _ h.x
theorem BoxA.mk0 (w : World) (v u : Value) : BoxA w (w.alloc (.cells #[v, u] 24)) v u := ⟨World.alloc_heap_new _ _, (Below.refl _ _).alloc (Nat.le_refl _) _⟩
/-- the boxes of two arguments -/
structure BoxB (w W : World) (v u v2 u2 : Value) : Prop where
  x : W.heap[w.heap.size]? = some (.cells #[v, u] 24 (0, 0))
  y : W.heap[w.heap.size + 1]? = some (.cells #[v2, u2] 24 (0, 0))
  b : Below w.heap.size w W
theorem BoxB.next {w W W' : World} {v u v2 u2 : Value} (h : BoxB w W v u v2 u2) (hb : Below W.heap.size W W') : BoxB w W' v u v2 u2 := ⟨block_below h.x hb, block_below h.y hb, bNext hb h.b⟩
theorem BoxB.c0 {w W : World} {v u v2 u2 : Value} (h : BoxB w W v u v2 u2) : W.cell? ⟨w.heap.size, 0, none⟩ = some v := cell_of_row W _ 0 _ _ _ h.x
theorem BoxB.c1 {w W : World} {v u v2 u2 : Value} (h : BoxB w W v u v2 u2) : W.cell? ⟨w.heap.size, 1, none⟩ = some u := cell_of_row W _ 1 _ _ _ h.x
theorem BoxB.c2 {w W : World} {v u v2 u2 : Value} (h : BoxB w W v u v2 u2) : W.cell? ⟨w.heap.size + 1, 0, none⟩ = some v2 := cell_of_row W _ 0 _ _ _ h.y
theorem BoxB.c3 {w W : World} {v u v2 u2 : Value} (h : BoxB w W v u v2 u2) : W.cell? ⟨w.heap.size + 1, 1, none⟩ = some u2 := cell_of_row W _ 1 _ _ _ h.y
theorem BoxB.mk0 (w : World) (v u v2 u2 : Value) : BoxB w ((w.alloc (.cells #[v, u] 24)).alloc (.cells #[v2, u2] 24)) v u v2 u2 := ⟨heap_two1 _ _ _, heap_two2 _ _ _, Below.two _ _ _⟩
/-- what a call told: an array that reads so -/
structure ArrR (W : World) (n m : Nat) (a : Option Addr) (a' : Option Addr) (S D : List Int) : Prop where
  hn : S.length = n
  hm : D.length = m
  ln : n ≤ maxLen
  lm : m ≤ maxLen
  s : IntsAt .i64 W a S
  d : IntsAt .i64 W a' D
theorem ArrR.next {W W' : World} {n m : Nat} {a a' : Option Addr} {S D : List Int} (h : ArrR W n m a a' S D) (hb : Below W.heap.size W W') : ArrR W' n m a a' S D := ⟨h.hn, h.hm, h.ln, h.lm, h.s.below hb (Nat.le_refl _), h.d.below hb (Nat.le_refl _)⟩
structure KR (W : World) (b n m : Nat) (a : Option Addr) (c : Nat) (a' : Option Addr) (c' : Nat) (S D : List Int) : Prop where
  bx : W.heap[b]? = some (.cells #[.slice a n c, .slice a' m c'] 24 (0, 0))
  r : ArrR W n m a a' S D
section
variable {W W' : World} {b n m b2 n2 m2 : Nat} {a a' e e' : Option Addr} {c c' k k' : Nat} {S D T E : List Int}
theorem KR.next (h : KR W b n m a c a' c' S D) (hb : Below W.heap.size W W') : KR W' b n m a c a' c' S D := ⟨block_below h.bx hb, h.r.next hb⟩
theorem KR.c0 (h : KR W b n m a c a' c' S D) : W.cell? ⟨b, 0, none⟩ = some (.slice a n c) := cell_of_row W b 0 _ _ _ h.bx
theorem KR.c1 (h : KR W b n m a c a' c' S D) : W.cell? ⟨b, 1, none⟩ = some (.slice a' m c') := cell_of_row W b 1 _ _ _ h.bx
theorem KR.new (hb : W.heap.size = b) (h : ArrR W n m a a' S D) : KR (W.alloc (.cells #[.slice a n c, .slice a' m c'] 24)) b n m a c a' c' S D := by
  subst hb
  exact ⟨World.alloc_heap_new _ _, h.next ((Below.refl _ _).alloc (Nat.le_refl _) _)⟩
theorem same_rr (h : ArrR W n m a a' S D) (g : ArrR W n2 m2 e e' T E) :
    Calls Try.prog 16 #[.agg #[.slice a n c, .slice a' m c'], .agg #[.slice e n2 k, .slice e' m2 k']] W fun x w' => x = .returned (.bool (ints S T && ints D E)) ∧ Below W.heap.size W w' := by
  have := same_any W a a' e e' c c' k k' S D T E (by rw [h.hn]; exact h.ln) (by rw [h.hm]; exact h.lm) (by rw [g.hn]; exact g.ln) (by rw [g.hm]; exact g.lm) h.s h.d g.s g.d
  rwa [h.hn, h.hm, g.hn, g.hm] at this
theorem same_rt (h : ArrR W n m a a' S D) (g : ArrR W n2 m2 e e' S D) :
    Calls Try.prog 16 #[.agg #[.slice a n c, .slice a' m c'], .agg #[.slice e n2 k, .slice e' m2 k']] W fun x w' => x = .returned (.bool true) ∧ Below W.heap.size W w' := by
  have := same_rr (c := c) (c' := c') (k := k) (k' := k') h g
  have e : (ints S S && ints D D) = true := by unfold ints; simp
  rwa [e] at this
end
theorem ret_rr {B : Nat} {r : ArrE} {e : Ending} {w : World} (h : RetArr B r e w) :
    ∃ n m a c a' c', e = .returned (.tuple #[.agg #[.slice a n c, .slice a' m c'], .int .i64 r.2]) ∧ ArrR w n m a a' r.1.1 r.1.2 := by
  obtain ⟨v, u, rfl, hv, hu, -⟩ := h
  obtain ⟨a, c, rfl, l1, i1⟩ := hv.slice
  obtain ⟨a', c', rfl, l2, i2⟩ := hu.slice
  exact ⟨_, _, a, c, a', c', rfl, rfl, rfl, l1, l2, i1, i2⟩
end Go.Proofs.Ytmjkncmpanhgjaa
