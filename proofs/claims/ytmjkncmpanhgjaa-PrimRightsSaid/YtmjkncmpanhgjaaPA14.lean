import Derived.Test.YtmjkncmpanhgjaaPA13
namespace Go.Proofs.Ytmjkncmpanhgjaa
set_option maxRecDepth 100000
open Go.RowKit
set_option linter.unusedVariables false
set_option linter.unusedSimpArgs false

/-! prim.Monad: Ravel. -/
set_option maxHeartbeats 4000000 in
theorem pm_ravel (w : World) (v u : Value) (s d : List Int) (hs : SlA w v s) (hd : SlA w u d) (hr : right s d = true) :
    Calls Try.prog 14 #[.int .u8 34, .agg #[v, u]] w fun e w' => RetArr w.heap.size (okA [(d.length : Int)] d) e w' ∧ Below w.heap.size w w' := by
  have hd6 := (right_good hr).2.le
  obtain ⟨a0, c0, rfl, h01, h02, -, h04, -⟩ := hs
  obtain ⟨a1, c1, rfl, h11, h12, -, h14, hin⟩ := hd
  have h02' : c0 ≤ 9223372036854775807 := h02
  have h12' : c1 ≤ 9223372036854775807 := h12
  have HM : Hid (s.length ≤ maxLen) := Lib.hid (Nat.le_trans h01 h02)
  have HRT := Lib.hid hr; have H0 := Lib.hid h04; have H1 := Lib.hid h14; have HIN := Lib.hid hin
  have HO := Lib.hid (One.mk0 w (.slice a0 s.length c0) (.slice a1 d.length c1))
  obtain ⟨r, HRR⟩ : ∃ r, Hid ((okA [(d.length : Int)] d) = r) := ⟨_, Lib.hid rfl⟩
  rw [HRR.out]
  clear hr h04 h14 h02 h12 hin
  go_enter Try.func14, Try.ntmps14
  go_upto_region 1 with fail
  refine gen_worldA (fun W => One w W (.slice a0 s.length c0) (.slice a1 d.length c1)) HO.out ?_
  rintro W hO
  have hq := right_any W a0 a1 c0 c1 s d HM.out (H0.out.below hO.b (Nat.le_refl _))
  rw [HRT.out] at hq
  have HQ := Lib.hid hq; have HO1 := Lib.hid hO
  have x0 := hO.c0; have x1 := hO.c1
  clear hq hO
  go_wp2_with fail
  refine HQ.out.mono ?_
  rintro e W1 ⟨rfl, hb1⟩
  have HO2 := Lib.hid (HO1.out.next hb1)
  clear x0 x1
  have x0 := HO2.out.c0; have x1 := HO2.out.c1
  clear hb1 HQ HO1
  go_upto_region 9 with fail
  have hcl := fun W (hb : Below W1.heap.size W1 W) => clone_any W a1 c1 d (by omega) (H1.out.below (bNext hb HO2.out.b) (Nat.le_refl _))
  have HC := Lib.hid hcl
  clear hcl HO x0
  refine wp_region_Z (S := fun W' => W'.cell? ⟨w.heap.size, 1, none⟩ = some (.slice a1 d.length c1)) (z := 10) (by kernel_rfl) ?_
  have hSS : (fun W' : World => W'.cell? ⟨w.heap.size, 1, none⟩ = some (.slice a1 d.length c1)) W1.drew := x1
  refine wpAnyZ_take (i := 0) (v := ?_) rfl (by kernel_rfl) (by kernel_rfl) (by kernel_rfl) (fun _ _ _ h => h) (by kernel_rfl) (Or.inl ⟨by rfl, ?_⟩) (by assumption) ?_
  rotate_left
  · intro w' hSw
    try dsimp only at hSw
    try obtain ⟨hSw, hSw2⟩ := hSw
    go_simp
    try with_reducible rfl
  show wpAnyZ _ _ _ _ _ _ _ _ (Act.put _ (some 41) _) _
  simp only [Act.put, List.setIfInBounds_toArray, List.set_cons_zero, List.set_cons_succ]
  refine wpAnyZ_take (i := 1) (v := ?_) rfl (by kernel_rfl) (by kernel_rfl) (by kernel_rfl) (fun _ _ _ h => h) (by kernel_rfl) (Or.inl ⟨by rfl, ?_⟩) (by assumption) ?_
  rotate_left
  · intro w' hSw
    try dsimp only at hSw
    try obtain ⟨hSw, hSw2⟩ := hSw
    go_simp
    try with_reducible rfl
  show wpAnyZ _ _ _ _ _ _ _ _ (Act.put _ (some 42) _) _
  simp only [Act.put, List.setIfInBounds_toArray, List.set_cons_zero, List.set_cons_succ]
  refine wpAnyZ_take (i := 2) (v := ?_) rfl (by kernel_rfl) (by kernel_rfl) (by kernel_rfl) (fun _ _ _ h => h) (by kernel_rfl) (Or.inl ⟨by rfl, ?_⟩) (by assumption) ?_
  rotate_left
  · intro w' hSw
    try dsimp only at hSw
    try obtain ⟨hSw, hSw2⟩ := hSw
    go_simp
    try with_reducible rfl
  show wpAnyZ _ _ _ _ _ _ _ _ (Act.put _ (some 43) _) _
  simp only [Act.put, List.setIfInBounds_toArray, List.set_cons_zero, List.set_cons_succ]
  refine wpAnyZ_take (i := 4) (v := ?_) rfl (by kernel_rfl) (by kernel_rfl) (by kernel_rfl) (fun _ _ _ h => h) (by kernel_rfl) (Or.inl ⟨by rfl, ?_⟩) (by assumption) ?_
  rotate_left
  · intro w' hSw
    try dsimp only at hSw
    try obtain ⟨hSw, hSw2⟩ := hSw
    go_simp
    try with_reducible rfl
  show wpAnyZ _ _ _ _ _ _ _ _ (Act.put _ (some 45) _) _
  simp only [Act.put, List.setIfInBounds_toArray, List.set_cons_zero, List.set_cons_succ]
  refine wpAnyZ_take (i := 5) (v := ?_) rfl (by kernel_rfl) (by kernel_rfl) (by kernel_rfl) (fun _ _ _ h => h) (by kernel_rfl) (Or.inl ⟨by rfl, ?_⟩) (by assumption) ?_
  rotate_left
  · intro w' hSw
    try dsimp only at hSw
    try obtain ⟨hSw, hSw2⟩ := hSw
    go_simp
    try with_reducible rfl
  show wpAnyZ _ _ _ _ _ _ _ _ (Act.put _ (some 46) _) _
  simp only [Act.put, List.setIfInBounds_toArray, List.set_cons_zero, List.set_cons_succ]
  clear hSS x1
  refine wpAnyZ_two (i := 3) (j := 6) (by kernel_rfl) rfl rfl rfl rfl (fun K hK => ?_) (fun K hK => ?_)
  · go_simp
    have hb2 : Below W1.heap.size W1 (W1.alloc (.cells #[.int .i64 (d.length : Int)] 2)).drew := ((Below.refl _ _).alloc (Nat.le_refl _) _).drew
    refine hK.out _ _ (.inr (HO2.out.next hb2).c1) ?_
    have hl : IntsAt .i64 (W1.alloc (.cells #[.int .i64 (d.length : Int)] 2)).drew (some ⟨W1.heap.size, 0, none⟩) [(d.length : Int)] := IntsAt.lit .i64 W1 2 [(d.length : Int)]
    obtain ⟨gz, hgz⟩ : ∃ g, W1.heap.size = g := ⟨_, rfl⟩
    rw [hgz] at hl ⊢
    clear hK hgz
    generalize (W1.alloc (.cells #[.int .i64 (d.length : Int)] 2)).drew = w3 at hb2 hl ⊢
    have HB2 := Lib.hid hb2; have HL := Lib.hid hl
    clear hb2 hl
    refine wpAnyZ_one (i := 6) (by kernel_rfl) rfl rfl (fun K hK => ?_)
    go_simp
    refine (HC.out w3 HB2.out).mono ?_
    rintro e wz ⟨⟨v5, rfl, hv5⟩, hb5⟩
    have hO5 := (HO2.out.next HB2.out).next hb5
    have HLZ := Lib.hid (HL.out.below hb5 (Nat.le_refl _))
    have HCZ := Lib.hid (hv5.mono (B' := w.heap.size) (HO2.out.next HB2.out).b.size)
    have HOZ := Lib.hid hO5
    obtain ⟨a5, c5, rfl, -, -⟩ := hv5.slice
    show K _ wz
    refine hK.out _ _ (.inr hO5.c1) ?_
    clear hK hv5 hb5 hO5 HL HB2 HC HO2
    refine wpAnyZ_one (i := 7) (by kernel_rfl) rfl rfl (fun K hK => ?_)
    go_simp
    refine ((retB' (good_any wz w.heap.size HOZ.out.b.size (some ⟨gz, 0, none⟩) 1 1 [(d.length : Int)] d (.slice a5 d.length c5) rfl (by simp) HLZ.out HCZ.out) HRR.out)).mono ?_
    rintro e w9 ⟨⟨v9, u9, rfl, hv9, hu9, hap9⟩, hb9⟩
    have hO9 := HOZ.out.next hb9
    have HV9 := Lib.hid hv9; have HU9 := Lib.hid hu9; have HAP9 := Lib.hid hap9; have HO9 := Lib.hid hO9
    obtain ⟨a9, c9, rfl, -, -⟩ := RowI.slice hv9
    obtain ⟨a8, c8, rfl, -, -⟩ := RowI.slice hu9
    have hSS : (fun W' : World => W'.cell? ⟨w.heap.size, 1, none⟩ = some (.slice a1 d.length c1)) w9 := hO9.c1
    show K _ w9
    refine hK.out _ _ (.inr hO9.c1) ?_
    clear hK hv9 hu9 hap9 hb9 hO9 HOZ HLZ HCZ
    refine wpAnyZ_take (i := 8) (v := ?_) rfl (by kernel_rfl) (by kernel_rfl) (by kernel_rfl) (fun _ _ _ h => h) (by kernel_rfl) (Or.inl ⟨by rfl, ?_⟩) (by assumption) ?_
    rotate_left
    · intro w' hSw
      try dsimp only at hSw
      try obtain ⟨hSw, hSw2⟩ := hSw
      go_simp
      try with_reducible rfl
    show wpAnyZ _ _ _ _ _ _ _ _ (Act.put _ (some 49) _) _
    simp only [Act.put, List.setIfInBounds_toArray, List.set_cons_zero, List.set_cons_succ]
    refine wpAnyZ_take (i := 9) (v := ?_) rfl (by kernel_rfl) (by kernel_rfl) (by kernel_rfl) (fun _ _ _ h => h) (by kernel_rfl) (Or.inl ⟨by rfl, ?_⟩) (by assumption) ?_
    rotate_left
    · intro w' hSw
      try dsimp only at hSw
      try obtain ⟨hSw, hSw2⟩ := hSw
      go_simp
      try with_reducible rfl
    show wpAnyZ _ _ _ _ _ _ _ _ (Act.put _ (some 50) _) _
    simp only [Act.put, List.setIfInBounds_toArray, List.set_cons_zero, List.set_cons_succ]
    clear hSS
    refine wpAnyZ_one (i := 10) (by kernel_rfl) rfl rfl (fun K hK => ?_)
    have g0 := cell_of_row w9 _ 0 _ _ _ HO9.out.r; have g1 := cell_of_row w9 _ 1 _ _ _ HO9.out.r
    have z0 := frozen_of_row w9 _ 0 _ _ HO9.out.r; have z1 := frozen_of_row w9 _ 1 _ _ HO9.out.r
    go_simp
    refine hK.out _ _ (.inl (Nat.le_refl _)) ?_
    clear hK g0 g1 z0 z1
    refine wpAnyZ_one (i := 11) (by kernel_rfl) rfl rfl (fun K hK => ?_)
    go_simp
    refine hK.out _ _ (.inl (by omega)) ?_
    clear hK
    refine wpAnyZ_done (by kernel_rfl) ?_ _
    go_wp2_with fail
    exact fin_arr rfl rfl rfl HO9.out.r HV9.out HU9.out HAP9.out HO9.out.b (by omega)
  · go_simp
    refine (HC.out _ (Below.refl _ _).drew).mono ?_
    rintro e w3 ⟨⟨v5, rfl, hv5⟩, hb5⟩
    have hb5' := (Below.refl W1.heap.size W1).drew.trans hb5
    have hO5 := HO2.out.next hb5'
    have HC5 := Lib.hid (hv5.mono (B' := w.heap.size) HO2.out.b.size)
    have HO5 := Lib.hid hO5
    obtain ⟨a5, c5, rfl, -, -⟩ := hv5.slice
    show K _ w3
    refine hK.out _ _ (.inr hO5.c1) ?_
    clear hK hv5 hb5 hb5' hO5 HC HO2
    refine wpAnyZ_one (i := 3) (by kernel_rfl) rfl rfl (fun K hK => ?_)
    go_simp
    have hb6 : Below w3.heap.size w3 (w3.alloc (.cells #[.int .i64 (d.length : Int)] 2)) := ((Below.refl _ _).alloc (Nat.le_refl _) _)
    refine hK.out _ _ (.inr (HO5.out.next hb6).c1) ?_
    have HLZ := Lib.hid (show IntsAt .i64 (w3.alloc (.cells #[.int .i64 (d.length : Int)] 2)) (some ⟨w3.heap.size, 0, none⟩) [(d.length : Int)] from IntsAt.lit .i64 w3 2 [(d.length : Int)])
    have HCZ := Lib.hid (HC5.out.below hb6); have HOZ := Lib.hid (HO5.out.next hb6)
    obtain ⟨gz, hgz⟩ : ∃ g, w3.heap.size = g := ⟨_, rfl⟩
    rw [hgz] at HLZ ⊢
    clear hK hgz hb6
    generalize w3.alloc (.cells #[.int .i64 (d.length : Int)] 2) = wz at HLZ HCZ HOZ ⊢
    refine wpAnyZ_one (i := 7) (by kernel_rfl) rfl rfl (fun K hK => ?_)
    go_simp
    refine ((retB' (good_any wz w.heap.size HOZ.out.b.size (some ⟨gz, 0, none⟩) 1 1 [(d.length : Int)] d (.slice a5 d.length c5) rfl (by simp) HLZ.out HCZ.out) HRR.out)).mono ?_
    rintro e w9 ⟨⟨v9, u9, rfl, hv9, hu9, hap9⟩, hb9⟩
    have hO9 := HOZ.out.next hb9
    have HV9 := Lib.hid hv9; have HU9 := Lib.hid hu9; have HAP9 := Lib.hid hap9; have HO9 := Lib.hid hO9
    obtain ⟨a9, c9, rfl, -, -⟩ := RowI.slice hv9
    obtain ⟨a8, c8, rfl, -, -⟩ := RowI.slice hu9
    have hSS : (fun W' : World => W'.cell? ⟨w.heap.size, 1, none⟩ = some (.slice a1 d.length c1)) w9 := hO9.c1
    show K _ w9
    refine hK.out _ _ (.inr hO9.c1) ?_
    clear hK hv9 hu9 hap9 hb9 hO9 HOZ HLZ HCZ
    refine wpAnyZ_take (i := 8) (v := ?_) rfl (by kernel_rfl) (by kernel_rfl) (by kernel_rfl) (fun _ _ _ h => h) (by kernel_rfl) (Or.inl ⟨by rfl, ?_⟩) (by assumption) ?_
    rotate_left
    · intro w' hSw
      try dsimp only at hSw
      try obtain ⟨hSw, hSw2⟩ := hSw
      go_simp
      try with_reducible rfl
    show wpAnyZ _ _ _ _ _ _ _ _ (Act.put _ (some 49) _) _
    simp only [Act.put, List.setIfInBounds_toArray, List.set_cons_zero, List.set_cons_succ]
    refine wpAnyZ_take (i := 9) (v := ?_) rfl (by kernel_rfl) (by kernel_rfl) (by kernel_rfl) (fun _ _ _ h => h) (by kernel_rfl) (Or.inl ⟨by rfl, ?_⟩) (by assumption) ?_
    rotate_left
    · intro w' hSw
      try dsimp only at hSw
      try obtain ⟨hSw, hSw2⟩ := hSw
      go_simp
      try with_reducible rfl
    show wpAnyZ _ _ _ _ _ _ _ _ (Act.put _ (some 50) _) _
    simp only [Act.put, List.setIfInBounds_toArray, List.set_cons_zero, List.set_cons_succ]
    clear hSS
    refine wpAnyZ_one (i := 10) (by kernel_rfl) rfl rfl (fun K hK => ?_)
    have g0 := cell_of_row w9 _ 0 _ _ _ HO9.out.r; have g1 := cell_of_row w9 _ 1 _ _ _ HO9.out.r
    have z0 := frozen_of_row w9 _ 0 _ _ HO9.out.r; have z1 := frozen_of_row w9 _ 1 _ _ HO9.out.r
    go_simp
    refine hK.out _ _ (.inl (Nat.le_refl _)) ?_
    clear hK g0 g1 z0 z1
    refine wpAnyZ_one (i := 11) (by kernel_rfl) rfl rfl (fun K hK => ?_)
    go_simp
    refine hK.out _ _ (.inl (by omega)) ?_
    clear hK
    refine wpAnyZ_done (by kernel_rfl) ?_ _
    go_wp2_with fail
    exact fin_arr rfl rfl rfl HO9.out.r HV9.out HU9.out HAP9.out HO9.out.b (by omega)
end Go.Proofs.Ytmjkncmpanhgjaa

namespace Go.Proofs.Ytmjkncmpanhgjaa
set_option maxRecDepth 100000
open Go.RowKit
set_option linter.unusedVariables false
set_option linter.unusedSimpArgs false

/-! prim.Monad: Shape. -/
set_option maxHeartbeats 4000000 in
theorem pm_shape (w : World) (v u : Value) (s d : List Int) (hs : SlA w v s) (hd : SlA w u d) (hr : right s d = true) :
    Calls Try.prog 14 #[.int .u8 33, .agg #[v, u]] w fun e w' => RetArr w.heap.size (okA [(s.length : Int)] s) e w' ∧ Below w.heap.size w w' := by
  have hs4 := (right_good hr).2.len
  obtain ⟨a0, c0, rfl, h01, h02, -, h04, -⟩ := hs
  obtain ⟨a1, c1, rfl, h11, h12, -, h14, hin⟩ := hd
  have h02' : c0 ≤ 9223372036854775807 := h02
  have h12' : c1 ≤ 9223372036854775807 := h12
  have HM : Hid (s.length ≤ maxLen) := Lib.hid (Nat.le_trans h01 h02)
  have HRT := Lib.hid hr; have H0 := Lib.hid h04; have H1 := Lib.hid h14; have HIN := Lib.hid hin
  have HO := Lib.hid (One.mk0 w (.slice a0 s.length c0) (.slice a1 d.length c1))
  obtain ⟨r, HRR⟩ : ∃ r, Hid ((okA [(s.length : Int)] s) = r) := ⟨_, Lib.hid rfl⟩
  rw [HRR.out]
  clear hr h04 h14 h02 h12 hin
  go_enter Try.func14, Try.ntmps14
  go_upto_region 1 with fail
  refine gen_worldA (fun W => One w W (.slice a0 s.length c0) (.slice a1 d.length c1)) HO.out ?_
  rintro W hO
  have hq := right_any W a0 a1 c0 c1 s d HM.out (H0.out.below hO.b (Nat.le_refl _))
  rw [HRT.out] at hq
  have HQ := Lib.hid hq; have HO1 := Lib.hid hO
  have x0 := hO.c0; have x1 := hO.c1
  clear hq hO
  go_wp2_with fail
  refine HQ.out.mono ?_
  rintro e W1 ⟨rfl, hb1⟩
  have HO2 := Lib.hid (HO1.out.next hb1)
  clear x0 x1
  have x0 := HO2.out.c0; have x1 := HO2.out.c1
  clear hb1 HQ HO1
  go_upto_region 7 with fail
  have hcl := fun W (hb : Below W1.heap.size W1 W) => clone_any W a0 c0 s (by omega) (H0.out.below (bNext hb HO2.out.b) (Nat.le_refl _))
  have HC := Lib.hid hcl
  clear hcl HO x1
  refine wp_region_Z (S := fun W' => W'.cell? ⟨w.heap.size, 0, none⟩ = some (.slice a0 s.length c0)) (z := 10) (by kernel_rfl) ?_
  have hSS : (fun W' : World => W'.cell? ⟨w.heap.size, 0, none⟩ = some (.slice a0 s.length c0)) W1.drew := x0
  refine wpAnyZ_take (i := 0) (v := ?_) rfl (by kernel_rfl) (by kernel_rfl) (by kernel_rfl) (fun _ _ _ h => h) (by kernel_rfl) (Or.inl ⟨by rfl, ?_⟩) (by assumption) ?_
  rotate_left
  · intro w' hSw
    try dsimp only at hSw
    try obtain ⟨hSw, hSw2⟩ := hSw
    go_simp
    try with_reducible rfl
  show wpAnyZ _ _ _ _ _ _ _ _ (Act.put _ (some 29) _) _
  simp only [Act.put, List.setIfInBounds_toArray, List.set_cons_zero, List.set_cons_succ]
  refine wpAnyZ_take (i := 1) (v := ?_) rfl (by kernel_rfl) (by kernel_rfl) (by kernel_rfl) (fun _ _ _ h => h) (by kernel_rfl) (Or.inl ⟨by rfl, ?_⟩) (by assumption) ?_
  rotate_left
  · intro w' hSw
    try dsimp only at hSw
    try obtain ⟨hSw, hSw2⟩ := hSw
    go_simp
    try with_reducible rfl
  show wpAnyZ _ _ _ _ _ _ _ _ (Act.put _ (some 30) _) _
  simp only [Act.put, List.setIfInBounds_toArray, List.set_cons_zero, List.set_cons_succ]
  refine wpAnyZ_take (i := 2) (v := ?_) rfl (by kernel_rfl) (by kernel_rfl) (by kernel_rfl) (fun _ _ _ h => h) (by kernel_rfl) (Or.inl ⟨by rfl, ?_⟩) (by assumption) ?_
  rotate_left
  · intro w' hSw
    try dsimp only at hSw
    try obtain ⟨hSw, hSw2⟩ := hSw
    go_simp
    try with_reducible rfl
  show wpAnyZ _ _ _ _ _ _ _ _ (Act.put _ (some 31) _) _
  simp only [Act.put, List.setIfInBounds_toArray, List.set_cons_zero, List.set_cons_succ]
  refine wpAnyZ_take (i := 4) (v := ?_) rfl (by kernel_rfl) (by kernel_rfl) (by kernel_rfl) (fun _ _ _ h => h) (by kernel_rfl) (Or.inl ⟨by rfl, ?_⟩) (by assumption) ?_
  rotate_left
  · intro w' hSw
    try dsimp only at hSw
    try obtain ⟨hSw, hSw2⟩ := hSw
    go_simp
    try with_reducible rfl
  show wpAnyZ _ _ _ _ _ _ _ _ (Act.put _ (some 33) _) _
  simp only [Act.put, List.setIfInBounds_toArray, List.set_cons_zero, List.set_cons_succ]
  refine wpAnyZ_take (i := 5) (v := ?_) rfl (by kernel_rfl) (by kernel_rfl) (by kernel_rfl) (fun _ _ _ h => h) (by kernel_rfl) (Or.inl ⟨by rfl, ?_⟩) (by assumption) ?_
  rotate_left
  · intro w' hSw
    try dsimp only at hSw
    try obtain ⟨hSw, hSw2⟩ := hSw
    go_simp
    try with_reducible rfl
  show wpAnyZ _ _ _ _ _ _ _ _ (Act.put _ (some 34) _) _
  simp only [Act.put, List.setIfInBounds_toArray, List.set_cons_zero, List.set_cons_succ]
  clear hSS x0
  refine wpAnyZ_two (i := 3) (j := 6) (by kernel_rfl) rfl rfl rfl rfl (fun K hK => ?_) (fun K hK => ?_)
  · go_simp
    have hb2 : Below W1.heap.size W1 (W1.alloc (.cells #[.int .i64 (s.length : Int)] 2)).drew := ((Below.refl _ _).alloc (Nat.le_refl _) _).drew
    refine hK.out _ _ (.inr (HO2.out.next hb2).c0) ?_
    have hl : IntsAt .i64 (W1.alloc (.cells #[.int .i64 (s.length : Int)] 2)).drew (some ⟨W1.heap.size, 0, none⟩) [(s.length : Int)] := IntsAt.lit .i64 W1 2 [(s.length : Int)]
    obtain ⟨gz, hgz⟩ : ∃ g, W1.heap.size = g := ⟨_, rfl⟩
    rw [hgz] at hl ⊢
    clear hK hgz
    generalize (W1.alloc (.cells #[.int .i64 (s.length : Int)] 2)).drew = w3 at hb2 hl ⊢
    have HB2 := Lib.hid hb2; have HL := Lib.hid hl
    clear hb2 hl
    refine wpAnyZ_one (i := 6) (by kernel_rfl) rfl rfl (fun K hK => ?_)
    go_simp
    refine (HC.out w3 HB2.out).mono ?_
    rintro e wz ⟨⟨v5, rfl, hv5⟩, hb5⟩
    have hO5 := (HO2.out.next HB2.out).next hb5
    have HLZ := Lib.hid (HL.out.below hb5 (Nat.le_refl _))
    have HCZ := Lib.hid (hv5.mono (B' := w.heap.size) (HO2.out.next HB2.out).b.size)
    have HOZ := Lib.hid hO5
    obtain ⟨a5, c5, rfl, -, -⟩ := hv5.slice
    show K _ wz
    refine hK.out _ _ (.inr hO5.c0) ?_
    clear hK hv5 hb5 hO5 HL HB2 HC HO2
    refine wpAnyZ_one (i := 7) (by kernel_rfl) rfl rfl (fun K hK => ?_)
    go_simp
    refine ((retB' (good_any wz w.heap.size HOZ.out.b.size (some ⟨gz, 0, none⟩) 1 1 [(s.length : Int)] s (.slice a5 s.length c5) rfl (by simp) HLZ.out HCZ.out) HRR.out)).mono ?_
    rintro e w9 ⟨⟨v9, u9, rfl, hv9, hu9, hap9⟩, hb9⟩
    have hO9 := HOZ.out.next hb9
    have HV9 := Lib.hid hv9; have HU9 := Lib.hid hu9; have HAP9 := Lib.hid hap9; have HO9 := Lib.hid hO9
    obtain ⟨a9, c9, rfl, -, -⟩ := RowI.slice hv9
    obtain ⟨a8, c8, rfl, -, -⟩ := RowI.slice hu9
    have hSS : (fun W' : World => W'.cell? ⟨w.heap.size, 0, none⟩ = some (.slice a0 s.length c0)) w9 := hO9.c0
    show K _ w9
    refine hK.out _ _ (.inr hO9.c0) ?_
    clear hK hv9 hu9 hap9 hb9 hO9 HOZ HLZ HCZ
    refine wpAnyZ_take (i := 8) (v := ?_) rfl (by kernel_rfl) (by kernel_rfl) (by kernel_rfl) (fun _ _ _ h => h) (by kernel_rfl) (Or.inl ⟨by rfl, ?_⟩) (by assumption) ?_
    rotate_left
    · intro w' hSw
      try dsimp only at hSw
      try obtain ⟨hSw, hSw2⟩ := hSw
      go_simp
      try with_reducible rfl
    show wpAnyZ _ _ _ _ _ _ _ _ (Act.put _ (some 37) _) _
    simp only [Act.put, List.setIfInBounds_toArray, List.set_cons_zero, List.set_cons_succ]
    refine wpAnyZ_take (i := 9) (v := ?_) rfl (by kernel_rfl) (by kernel_rfl) (by kernel_rfl) (fun _ _ _ h => h) (by kernel_rfl) (Or.inl ⟨by rfl, ?_⟩) (by assumption) ?_
    rotate_left
    · intro w' hSw
      try dsimp only at hSw
      try obtain ⟨hSw, hSw2⟩ := hSw
      go_simp
      try with_reducible rfl
    show wpAnyZ _ _ _ _ _ _ _ _ (Act.put _ (some 38) _) _
    simp only [Act.put, List.setIfInBounds_toArray, List.set_cons_zero, List.set_cons_succ]
    clear hSS
    refine wpAnyZ_one (i := 10) (by kernel_rfl) rfl rfl (fun K hK => ?_)
    have g0 := cell_of_row w9 _ 0 _ _ _ HO9.out.r; have g1 := cell_of_row w9 _ 1 _ _ _ HO9.out.r
    have z0 := frozen_of_row w9 _ 0 _ _ HO9.out.r; have z1 := frozen_of_row w9 _ 1 _ _ HO9.out.r
    go_simp
    refine hK.out _ _ (.inl (Nat.le_refl _)) ?_
    clear hK g0 g1 z0 z1
    refine wpAnyZ_one (i := 11) (by kernel_rfl) rfl rfl (fun K hK => ?_)
    go_simp
    refine hK.out _ _ (.inl (by omega)) ?_
    clear hK
    refine wpAnyZ_done (by kernel_rfl) ?_ _
    go_wp2_with fail
    exact fin_arr rfl rfl rfl HO9.out.r HV9.out HU9.out HAP9.out HO9.out.b (by omega)
  · go_simp
    refine (HC.out _ (Below.refl _ _).drew).mono ?_
    rintro e w3 ⟨⟨v5, rfl, hv5⟩, hb5⟩
    have hb5' := (Below.refl W1.heap.size W1).drew.trans hb5
    have hO5 := HO2.out.next hb5'
    have HC5 := Lib.hid (hv5.mono (B' := w.heap.size) HO2.out.b.size)
    have HO5 := Lib.hid hO5
    obtain ⟨a5, c5, rfl, -, -⟩ := hv5.slice
    show K _ w3
    refine hK.out _ _ (.inr hO5.c0) ?_
    clear hK hv5 hb5 hb5' hO5 HC HO2
    refine wpAnyZ_one (i := 3) (by kernel_rfl) rfl rfl (fun K hK => ?_)
    go_simp
    have hb6 : Below w3.heap.size w3 (w3.alloc (.cells #[.int .i64 (s.length : Int)] 2)) := ((Below.refl _ _).alloc (Nat.le_refl _) _)
    refine hK.out _ _ (.inr (HO5.out.next hb6).c0) ?_
    have HLZ := Lib.hid (show IntsAt .i64 (w3.alloc (.cells #[.int .i64 (s.length : Int)] 2)) (some ⟨w3.heap.size, 0, none⟩) [(s.length : Int)] from IntsAt.lit .i64 w3 2 [(s.length : Int)])
    have HCZ := Lib.hid (HC5.out.below hb6); have HOZ := Lib.hid (HO5.out.next hb6)
    obtain ⟨gz, hgz⟩ : ∃ g, w3.heap.size = g := ⟨_, rfl⟩
    rw [hgz] at HLZ ⊢
    clear hK hgz hb6
    generalize w3.alloc (.cells #[.int .i64 (s.length : Int)] 2) = wz at HLZ HCZ HOZ ⊢
    refine wpAnyZ_one (i := 7) (by kernel_rfl) rfl rfl (fun K hK => ?_)
    go_simp
    refine ((retB' (good_any wz w.heap.size HOZ.out.b.size (some ⟨gz, 0, none⟩) 1 1 [(s.length : Int)] s (.slice a5 s.length c5) rfl (by simp) HLZ.out HCZ.out) HRR.out)).mono ?_
    rintro e w9 ⟨⟨v9, u9, rfl, hv9, hu9, hap9⟩, hb9⟩
    have hO9 := HOZ.out.next hb9
    have HV9 := Lib.hid hv9; have HU9 := Lib.hid hu9; have HAP9 := Lib.hid hap9; have HO9 := Lib.hid hO9
    obtain ⟨a9, c9, rfl, -, -⟩ := RowI.slice hv9
    obtain ⟨a8, c8, rfl, -, -⟩ := RowI.slice hu9
    have hSS : (fun W' : World => W'.cell? ⟨w.heap.size, 0, none⟩ = some (.slice a0 s.length c0)) w9 := hO9.c0
    show K _ w9
    refine hK.out _ _ (.inr hO9.c0) ?_
    clear hK hv9 hu9 hap9 hb9 hO9 HOZ HLZ HCZ
    refine wpAnyZ_take (i := 8) (v := ?_) rfl (by kernel_rfl) (by kernel_rfl) (by kernel_rfl) (fun _ _ _ h => h) (by kernel_rfl) (Or.inl ⟨by rfl, ?_⟩) (by assumption) ?_
    rotate_left
    · intro w' hSw
      try dsimp only at hSw
      try obtain ⟨hSw, hSw2⟩ := hSw
      go_simp
      try with_reducible rfl
    show wpAnyZ _ _ _ _ _ _ _ _ (Act.put _ (some 37) _) _
    simp only [Act.put, List.setIfInBounds_toArray, List.set_cons_zero, List.set_cons_succ]
    refine wpAnyZ_take (i := 9) (v := ?_) rfl (by kernel_rfl) (by kernel_rfl) (by kernel_rfl) (fun _ _ _ h => h) (by kernel_rfl) (Or.inl ⟨by rfl, ?_⟩) (by assumption) ?_
    rotate_left
    · intro w' hSw
      try dsimp only at hSw
      try obtain ⟨hSw, hSw2⟩ := hSw
      go_simp
      try with_reducible rfl
    show wpAnyZ _ _ _ _ _ _ _ _ (Act.put _ (some 38) _) _
    simp only [Act.put, List.setIfInBounds_toArray, List.set_cons_zero, List.set_cons_succ]
    clear hSS
    refine wpAnyZ_one (i := 10) (by kernel_rfl) rfl rfl (fun K hK => ?_)
    have g0 := cell_of_row w9 _ 0 _ _ _ HO9.out.r; have g1 := cell_of_row w9 _ 1 _ _ _ HO9.out.r
    have z0 := frozen_of_row w9 _ 0 _ _ HO9.out.r; have z1 := frozen_of_row w9 _ 1 _ _ HO9.out.r
    go_simp
    refine hK.out _ _ (.inl (Nat.le_refl _)) ?_
    clear hK g0 g1 z0 z1
    refine wpAnyZ_one (i := 11) (by kernel_rfl) rfl rfl (fun K hK => ?_)
    go_simp
    refine hK.out _ _ (.inl (by omega)) ?_
    clear hK
    refine wpAnyZ_done (by kernel_rfl) ?_ _
    go_wp2_with fail
    exact fin_arr rfl rfl rfl HO9.out.r HV9.out HU9.out HAP9.out HO9.out.b (by omega)
end Go.Proofs.Ytmjkncmpanhgjaa

namespace Go.Proofs.Ytmjkncmpanhgjaa
set_option maxRecDepth 100000
open Go.RowKit
set_option linter.unusedVariables false
set_option linter.unusedSimpArgs false

/-! prim.Monad: functions of one number. -/
def mapA (f : Int) (s d : List Int) : ArrE := if d.any (fun x => (monadF f x).2 != 0) then noA 11 else okA s (d.map fun x => (monadF f x).1)
theorem monadF_err {f x : Int} (ht : takes f false = true) : (monadF f x).2 = 0 ∨ (monadF f x).2 = 11 := by
  unfold monadF dyadF
  rw [if_pos ht]
  repeat' split
  all_goals first | exact .inl rfl | exact .inr rfl | (simp_all [takes])
theorem range_getD (g : Int → Int) (d : List Int) : (List.range d.length).map (fun i => g (d.getD i 0)) = d.map g := by
  apply List.ext_getElem
  · simp
  · intro i h1 h2
    simp at h1
    simp [h1]
theorem mapA_bad {f : Int} {s d : List Int} {k : Nat} (hk : k < d.length) (h : (monadF f (d.getD k 0)).2 ≠ 0) : mapA f s d = noA 11 := by
  unfold mapA
  rw [if_pos]
  refine List.any_eq_true.2 ⟨d[k], List.getElem_mem hk, ?_⟩
  rw [List.getD_eq_getElem?_getD, List.getElem?_eq_getElem hk] at h
  simpa using h
theorem mapA_good {f : Int} {s d : List Int} (h : ∀ i, i < d.length → (monadF f (d.getD i 0)).2 = 0) : mapA f s d = okA s (d.map fun x => (monadF f x).1) := by
  unfold mapA
  rw [if_neg]
  intro e
  obtain ⟨x, hx, hb⟩ := List.any_eq_true.1 e
  obtain ⟨i, hi, rfl⟩ := List.getElem_of_mem hx
  have := h i hi
  rw [List.getD_eq_getElem?_getD, List.getElem?_eq_getElem hi] at this
  simp only [Option.getD_some] at this
  have hb : ((monadF f d[i]).2 != 0) = true := hb
  rw [this] at hb
  simp at hb
theorem In64.getD {d : List Int} (h : ∀ x ∈ d, In64 x) {k : Nat} (hk : k < d.length) : In64 (d.getD k 0) := by
  rw [List.getD_eq_getElem?_getD, List.getElem?_eq_getElem hk]; exact h _ (List.getElem_mem hk)
theorem IntsAt.atD {w : World} {a : Option Addr} {d : List Int} (h : IntsAt .i64 w a d) {k : Nat} (hk : k < d.length) : ∃ b off, a = some ⟨b, off, none⟩ ∧ w.cell? ⟨b, off + k, none⟩ = some (.int .i64 (d.getD k 0)) := by
  obtain ⟨b, off, e, hc⟩ := h k hk
  exact ⟨b, off, e, by rw [List.getD_eq_getElem?_getD, List.getElem?_eq_getElem hk]; exact hc⟩
theorem One.cell {w W : World} {v u x : Value} {G k : Nat} (h : One w W v u) (hG : w.heap.size + 1 < G) : One w (W.setCell ⟨G, k, none⟩ x) v u :=
  ⟨block_other h.x (by show G ≠ _; omega) _, block_other h.r (by show G ≠ _; omega) _, h.b.setCell (p := ⟨G, k, none⟩) (by show _ ≤ G; omega) _⟩
theorem takesF_le {f : Int} (h : takes f false = true) : f ≤ 17 := (takes_in h).2
set_option maxHeartbeats 4000000 in
theorem pm_map (w : World) (f : Int) (v u : Value) (s d : List Int) (hs : SlA w v s) (hd : SlA w u d) (hr : right s d = true) (ht : takes f false = true) :
    Calls Try.prog 14 #[.int .u8 f, .agg #[v, u]] w fun e w' => RetArr w.heap.size (mapA f s d) e w' ∧ Below w.heap.size w w' := by
  have hf := takesF_le ht
  have g0 : (f == 32) = false := by rw [beq_eq_false_iff_ne]; omega
  have g1 : (f == 33) = false := by rw [beq_eq_false_iff_ne]; omega
  have g2 : (f == 34) = false := by rw [beq_eq_false_iff_ne]; omega
  have g3 : (f == 35) = false := by rw [beq_eq_false_iff_ne]; omega
  have g4 : (f == 36) = false := by rw [beq_eq_false_iff_ne]; omega
  have HT := Lib.hid (fun W => takes_at W f false true ht); have HTK := Lib.hid ht
  have hd6 := (right_good hr).2.le
  have hs4 := (right_good hr).2.len
  obtain ⟨i0, hi, hz0, hz1, hz2⟩ := info_parts Try.info2
  have Hi := Lib.hid hi; have Hz0 := Lib.hid hz0; have Hz1 := Lib.hid hz1; have Hz2 := Lib.hid hz2; clear hi hz0 hz1 hz2
  clear hf ht
  obtain ⟨a0, c0, rfl, h01, h02, -, h04, -⟩ := hs
  obtain ⟨a1, c1, rfl, h11, h12, -, h14, hin⟩ := hd
  have h02' : c0 ≤ 9223372036854775807 := h02
  have h12' : c1 ≤ 9223372036854775807 := h12
  have HM : Hid (s.length ≤ maxLen) := Lib.hid (Nat.le_trans h01 h02)
  have HRT := Lib.hid hr; have H0 := Lib.hid h04; have H1 := Lib.hid h14; have HIN := Lib.hid hin
  have HO := Lib.hid (One.mk0 w (.slice a0 s.length c0) (.slice a1 d.length c1))
  obtain ⟨r, HRR⟩ : ∃ r, Hid ((mapA f s d) = r) := ⟨_, Lib.hid rfl⟩
  rw [HRR.out]
  clear hr h04 h14 h02 h12 hin
  go_enter Try.func14, Try.ntmps14
  go_upto_region 1 with fail
  refine gen_worldA (fun W => One w W (.slice a0 s.length c0) (.slice a1 d.length c1)) HO.out ?_
  rintro W hO
  have hq := right_any W a0 a1 c0 c1 s d HM.out (H0.out.below hO.b (Nat.le_refl _))
  rw [HRT.out] at hq
  have HQ := Lib.hid hq; have HO1 := Lib.hid hO
  have x0 := hO.c0; have x1 := hO.c1
  clear hq hO
  go_wp2_with fail
  refine HQ.out.mono ?_
  rintro e W1 ⟨rfl, hb1⟩
  have HO2 := Lib.hid (HO1.out.next hb1)
  clear x0 x1
  have x0 := HO2.out.c0; have x1 := HO2.out.c1
  clear hb1 HQ HO1
  have HQ0 := Lib.hid (HT.out W1)
  go_wp2_with fail
  refine HQ0.out.mono ?_
  rintro e W2 ⟨rfl, rfl⟩
  have hsz := HO2.out.b.size
  clear HQ0 HT HO g0 g1 g2 g3 g4
  go_wp2_with (at_make; refine wpList_make_full _ rfl _ _ 22 rfl w.heap.size 2 i0 (.int .i64 0) 1 Try.underlying22 Hi.out Hz0.out Hz1.out _ _ _ _ d.length rfl rfl rfl rfl ?c2 ?c3 ?c4 ?_)
  case c2 => rw [Hz2.out]; omega
  case c3 => unfold maxLen; omega
  case c4 => exact hsz
  intro w3 hown hgrow
  have hb3 : Below W1.heap.size W1 w3 := (Below.refl _ _).grown hgrow (Nat.le_refl _) (by simp)
  have HO4 := Lib.hid (HO2.out.next hb3)
  have HROW := Lib.hid (made_ints hown)
  obtain ⟨G, hG⟩ : ∃ G, W1.heap.size = G := ⟨_, rfl⟩
  rw [hG] at HROW ⊢
  have hGl : w.heap.size + 1 < G := hG ▸ HO2.out.lt
  clear x0 x1
  have x1 := HO4.out.c1
  clear hown hgrow HO2 hG hb3 hsz
  go_wp2_with fail
  clear x1
  go_loopw [93] (fun i wr => ∃ k : Nat, k ≤ d.length ∧ i = .int .i64 k ∧ One w wr (.slice a0 s.length c0) (.slice a1 d.length c1) ∧
    RowI w.heap.size wr (.slice (some ⟨G, 0, none⟩) d.length d.length) ((List.range k).map (fun i => (monadF f (d.getD i 0)).1) ++ List.replicate (d.length - k) 0) ∧ ∀ i, i < k → (monadF f (d.getD i 0)).2 = 0) (fun i _ => d.length - (intOf i).toNat)
  case atStart => exact ⟨0, by omega, rfl, HO4.out, by simpa using HROW.out, fun i hi => by omega⟩
  case round =>
    obtain ⟨k, hk, rfl, hO, hrw, hgood⟩ := hrel
    clear HO4 HROW
    by_cases hlt : k < d.length
    · have hset := fun W (h : RowI w.heap.size W (.slice (some ⟨G, 0, none⟩) d.length d.length) ((List.range k).map (fun i => (monadF f (d.getD i 0)).1) ++ List.replicate (d.length - k) 0)) => by
        have := h.set k (monadF f (d.getD k 0)).1
        rwa [rep_step (fun i => (monadF f (d.getD i 0)).1) hlt] at this
      obtain ⟨b1, off1, rfl, hc1⟩ := H1.out.atD hlt
      have hcc := keepCell hO.b hc1
      have hx64 := In64.getD HIN.out hlt
      have hbad := fun h => mapA_bad (f := f) (s := s) hlt h
      have herr := monadF_err (x := d.getD k 0) HTK.out
      have hnx : (monadF f (d.getD k 0)).2 = 0 → ∀ i, i < k + 1 → (monadF f (d.getD i 0)).2 = 0 := fun h i hi => by
        by_cases e : i = k
        · rw [e]; exact h
        · exact hgood i (by omega)
      have hq := fun W => monad_at W f (d.getD k 0) (monadF f (d.getD k 0)).1 (monadF f (d.getD k 0)).2 hx64 rfl
      generalize (monadF f (d.getD k 0)).1 = y at hset hq
      generalize (monadF f (d.getD k 0)).2 = e at hbad herr hnx hq
      generalize d.getD k 0 = x at hc1 hcc hx64 hq
      have hfr := hrw.fr k
      have hgc := hrw.at (k := k) (by rw [rep_len _ (by omega)]; exact hlt)
      have hkd : (k : Int) < (d.length : Int) := by omega
      have HQ := Lib.hid hq; have HSET := Lib.hid hset; have HNX := Lib.hid hnx; have HBAD := Lib.hid hbad; have HOR := Lib.hid hO; have HRW := Lib.hid hrw
      clear hq hset hnx hbad hO hrw hgood hc1 hx64
      go_wp2_with fail
      refine (HQ.out _).mono ?_
      rintro e1 w5 ⟨rfl, n5, rfl⟩
      have HO5 := Lib.hid ((HOR.out.next (Below.drewN wr n5)).cell (k := k) (x := .int .i64 y) hGl)
      have HS5 := Lib.hid (HSET.out _ (HRW.out.drewN n5))
      clear HQ HSET HOR HRW hcc
      rcases herr with rfl | rfl
      · have HNX2 := Lib.hid (HNX.out rfl)
        clear HNX HBAD
        go_wp2_with fail
        go_roundw
        case rel => exact ⟨k + 1, by omega, by go_num, HO5.out, HS5.out, HNX2.out⟩
        case measure => simp [intOf]; omega
      · have hq := fault_at ((wr.drewN n5).setCell ⟨G, k, none⟩ (.int .i64 y)) w.heap.size HO5.out.b.size 11 r (by rw [← HBAD.out (by decide)]; exact HRR.out)
        have HQ := Lib.hid hq; have HR := Lib.hid HO5.out.r; have HB := Lib.hid HO5.out.b
        clear hq HNX HBAD HO5 HS5
        go_wp2_with fail
        refine (Hid.out HQ).mono ?_
        rintro e w9 ⟨⟨v9, u9, rfl, hv9, hu9, hap9⟩, hb9⟩
        have hR9 := block_below (Hid.out HR) hb9
        have HV9 := Lib.hid hv9; have HU9 := Lib.hid hu9; have HAP9 := Lib.hid hap9; have HR9 := Lib.hid hR9
        have HB9 := Lib.hid (bNext hb9 (Hid.out HB))
        obtain ⟨a9, c9, rfl, -, -⟩ := RowI.slice hv9
        obtain ⟨a8, c8, rfl, -, -⟩ := RowI.slice hu9
        have g0 := cell_of_row w9 _ 0 _ _ _ hR9; have g1 := cell_of_row w9 _ 1 _ _ _ hR9
        have z0 := frozen_of_row w9 _ 0 _ _ hR9; have z1 := frozen_of_row w9 _ 1 _ _ hR9
        clear hv9 hu9 hap9 hb9 hR9
        go_wp2_with fail
        exact fin_arr rfl rfl rfl HR9.out HV9.out HU9.out HAP9.out HB9.out (by omega)
    · obtain rfl : k = d.length := by omega
      have hrr : okA s (d.map fun x => (monadF f x).1) = r := by rw [← HRR.out]; exact (mapA_good hgood).symm
      rw [Nat.sub_self, List.replicate_zero, List.append_nil, range_getD (fun x => (monadF f x).1)] at hrw
      have hq := good_any wr w.heap.size hO.b.size a0 s.length c0 s _ (.slice (some ⟨G, 0, none⟩) d.length d.length) rfl (by omega) (H0.out.below hO.b (Nat.le_refl _)) hrw
      rw [hrr] at hq
      have HQ := Lib.hid hq; have HR := Lib.hid hO.r; have HB := Lib.hid hO.b
      have x0 := hO.c0
      clear hq hO hrw hlt hgood hrr
      go_wp2_with fail
      refine (Hid.out HQ).mono ?_
      rintro e w9 ⟨⟨v9, u9, rfl, hv9, hu9, hap9⟩, hb9⟩
      have hR9 := block_below (Hid.out HR) hb9
      have HV9 := Lib.hid hv9; have HU9 := Lib.hid hu9; have HAP9 := Lib.hid hap9; have HR9 := Lib.hid hR9
      have HB9 := Lib.hid (bNext hb9 (Hid.out HB))
      obtain ⟨a9, c9, rfl, -, -⟩ := RowI.slice hv9
      obtain ⟨a8, c8, rfl, -, -⟩ := RowI.slice hu9
      have g0 := cell_of_row w9 _ 0 _ _ _ hR9; have g1 := cell_of_row w9 _ 1 _ _ _ hR9
      have z0 := frozen_of_row w9 _ 0 _ _ hR9; have z1 := frozen_of_row w9 _ 1 _ _ hR9
      clear hv9 hu9 hap9 hb9 hR9
      go_wp2_with fail
      exact fin_arr rfl rfl rfl HR9.out HV9.out HU9.out HAP9.out HB9.out (by omega)
end Go.Proofs.Ytmjkncmpanhgjaa

namespace Go.Proofs.Ytmjkncmpanhgjaa
set_option maxRecDepth 100000
open Go.RowKit
set_option linter.unusedVariables false
set_option linter.unusedSimpArgs false

/-! prim.Monad whole; append of numbers; the reference's made, turned, times. -/
theorem pm_any (w : World) (f : Int) (v u : Value) (s d : List Int) (hs : SlA w v s) (hd : SlA w u d) :
    Calls Try.prog 14 #[.int .u8 f, .agg #[v, u]] w fun e w' => RetArr w.heap.size (monadA f s d) e w' ∧ Below w.heap.size w w' := by
  cases hr : right s d with
  | false => exact retB' (pm_bad w f v u s d hs hd hr) (by unfold monadA; rw [hr]; rfl)
  | true =>
    have e : monadA f s d = if f = 32 then iotaA s d else if f = 33 then okA [(s.length : Int)] s else if f = 34 then okA [(d.length : Int)] d else if f = 35 then okA s (revD s d) else if f = 36 then turnA s d
      else if takes f false then mapA f s d else noA 70 := by unfold monadA; rw [if_pos hr]; rfl
    rw [e]
    by_cases h1 : f = 32
    · subst h1; exact pm_iota w v u s d hs hd hr
    rw [if_neg h1]
    by_cases h2 : f = 33
    · subst h2; exact pm_shape w v u s d hs hd hr
    rw [if_neg h2]
    by_cases h3 : f = 34
    · subst h3; exact pm_ravel w v u s d hs hd hr
    rw [if_neg h3]
    by_cases h4 : f = 35
    · subst h4; exact pm_rev w v u s d hs hd hr
    rw [if_neg h4]
    by_cases h5 : f = 36
    · subst h5; exact pm_turn w v u s d hs hd hr
    rw [if_neg h5]
    cases ht : takes f false with
    | true => exact pm_map w f v u s d hs hd hr ht
    | false => exact pm_no w f v u s d hs hd hr (by omega) ht
theorem wp_app {o : Oper} {a : Act} {w : World} {K : Act → World → Prop} {Q : Exit → Act → World → Prop} (s x : Operand) (ho : o.op = .call { callee := .builtin .append, args := #[s, x], argTypes := #[22, 22] })
    (B : Nat) (v : Value) (xs ys : List Int) (u : Value) (m : Nat) (hm : ys.length = m) (hs : a.eval s = v) (hv : RowI B w v xs) (hx : a.eval x = u) (hu : Src w u m (ys.map (Value.int .i64)))
    (hl : xs.length + m ≤ 1048576) (hB : B ≤ w.heap.size) (h : ∀ v' w', RowI B w' v' (xs ++ ys) → w.grownBy w' v.ownBlock → Newer w v v' → K (a.put o.dst v') w') : o.wp Try.prog a w K Q := by
  subst hm
  obtain ⟨i0, hi, hz0, hz1, hz2⟩ := info_parts Try.info2
  refine wp_append_src _ s x 22 ho B 2 i0 _ 1 8 Try.underlying22 hi hz0 hz1 hz2 rfl (by decide) v xs.length _ hs (by unfold RowI at hv; exact hv) u ys.length _ hx hu (by simp) (by intro z hz; obtain ⟨p, _, rfl⟩ := List.mem_map.1 hz; rfl) (by unfold maxLen; omega) (by omega) hB ?_
  intro v' w' hown hg hn
  refine h v' w' ?_ hg hn
  unfold RowI
  rw [List.map_append, List.length_append]
  exact hown
theorem wpList_app {ops : Array Oper} {rest : List Oper} {o : Oper} {a : Act} {w : World} {Q : Exit → Act → World → Prop} (hgd : o.guard = none) (s x : Operand) (ho : o.op = .call { callee := .builtin .append, args := #[s, x], argTypes := #[22, 22] })
    (B : Nat) (v : Value) (xs ys : List Int) (u : Value) (m : Nat) (hm : ys.length = m) (hs : a.eval s = v) (hv : RowI B w v xs) (hx : a.eval x = u) (hu : Src w u m (ys.map (Value.int .i64)))
    (hl : xs.length + m ≤ 1048576) (hB : B ≤ w.heap.size) (h : ∀ v' w', RowI B w' v' (xs ++ ys) → w.grownBy w' v.ownBlock → Newer w v v' → wpList Try.prog ops Q rest (a.put o.dst v') w') : wpList Try.prog ops Q (o :: rest) a w :=
  wpList_plain hgd fun _ hK => wp_app s x ho B v xs ys u m hm hs hv hx hu hl hB fun v' w' h2 h3 h4 => hK _ _ (h v' w' h2 h3 h4)
theorem src_lit (W : World) (ys : List Int) (t : TypeId) (m G : Nat) (hG : W.heap.size = G) (hm : ys.length = m) : Src (W.alloc (.cells (ys.map (Value.int .i64)).toArray t)) (.slice (some ⟨G, 0, none⟩) m m) m (ys.map (Value.int .i64)) := by
  subst hG
  refine .inr ⟨_, _, rfl, fun j z hz => ?_⟩
  have : (⟨W.heap.size, 0, none⟩ : Addr).add j = ⟨W.heap.size, j, none⟩ := by unfold Addr.add; split <;> simp_all
  rw [this, cell_of_row _ W.heap.size j _ t (0, 0) (World.alloc_heap_new W _)]
  simpa using hz
theorem src_one (W : World) (y : Int) (G : Nat) (hG : W.heap.size = G) : Src (W.alloc (.cells #[.int .i64 y] 2)) (.slice (some ⟨G, 0, none⟩) 1 1) 1 ([y].map (Value.int .i64)) := src_lit W [y] 2 1 G hG rfl
theorem row_nil_lit (B : Nat) (W : World) (h : B ≤ W.heap.size) : RowI B (W.alloc (.cells #[] 2)) (.slice (some ⟨W.heap.size, 0, none⟩) 0 0) [] := World.ownsRow_lit W #[] 0 h (Nat.zero_le _) rfl
theorem One.app {w W W1 W' : World} {v u x : Value} {xs : List Int} (h : One w W v u) (hb : Below W.heap.size W W1) (hr : RowI w.heap.size W1 x xs) (hg : W1.grownBy W' x.ownBlock) : One w W' v u := by
  have h1 := h.next hb
  exact h1.kt (h1.b.grown hg h1.b.size (fun g e => (hr.lt g e).1)) (KeepTy.grown hg (fun g e => by
    obtain ⟨cur, hc⟩ := own_typed hr e
    exact NotTy.of hc (by decide)))
set_option maxHeartbeats 2000000 in
theorem made_any (w : World) (B : Nat) (hB : B ≤ w.heap.size) (x v : Value) (s d : List Int) (hf : ∃ a c, x = .slice a s.length c) (hs : Src w x s.length (s.map (Value.int .i64))) (hl : s.length ≤ 65536) (hv : RowI B w v d) :
    Calls Try.prog 43 #[x, v] w fun e w' => RetArr B (okA s d) e w' ∧ Below w.heap.size w w' := by
  have HS := Lib.hid hs; have HV := Lib.hid hv
  obtain ⟨a, c, rfl⟩ := hf
  obtain ⟨a1, c1, rfl, -, -⟩ := hv.slice
  clear hs hv
  go_enter Try.func43, Try.ntmps43
  go_upto_region 1 with fail
  refine gen_worldA (fun W => W.heap[w.heap.size]? = some (.cells #[.slice none 0 0, .slice none 0 0] 24 (0, 0)) ∧ Below w.heap.size w W) ⟨World.alloc_heap_new _ _, (Below.refl _ _).alloc (Nat.le_refl _) _⟩ ?_
  rintro W ⟨hR, hb1⟩
  have hb2 : Below w.heap.size w (W.alloc (.cells #[] 2)) := hb1.alloc hb1.size _
  have HSR := Lib.hid (HS.out.below hb2)
  have HL := Lib.hid (row_nil_lit w.heap.size W hb1.size)
  have HR := Lib.hid (block_alloc hR (.cells #[] 2)); have HB2 := Lib.hid hb2
  have hsz := hb2.size
  have HV2 := Lib.hid (HV.out.below hb2)
  have hlt : w.heap.size < W.heap.size := (Array.getElem?_eq_some_iff.1 hR).1
  obtain ⟨G, hG⟩ : ∃ G, W.heap.size = G := ⟨_, rfl⟩
  rw [hG] at HL hlt
  have HG := Lib.hid hG
  clear hR hb1 hb2 hG
  go_wp2_with (at_builtin; refine wpList_app rfl _ _ rfl w.heap.size (.slice (some ⟨G, 0, none⟩) 0 0) [] s (.slice a s.length c) s.length rfl (by rw [← HG.out]; rfl) HL.out rfl HSR.out (by simp; omega) hsz ?_)
  intro v' w9 hv9 hg9 hn9
  have hg9 : (W.alloc (.cells #[] 2)).grownBy w9 (some G) := hg9
  have hR9 := block_grown HR.out hg9 (fun e => by injection e with e; omega)
  have hu9 : RowI B w9 (.slice a1 d.length c1) d := (HV2.out).kept hg9 (by
    cases hq : (Value.slice a1 d.length c1).ownBlock with
    | none => exact .inl rfl
    | some k =>
      refine .inr (fun e => ?_)
      injection e with e
      have h1 := (HV.out.lt k hq).2
      omega)
  have hap : Apart v' (.slice a1 d.length c1) := (Apart.of_rows HV.out hv9).symm
  have hb9 : Below w.heap.size w w9 := HB2.out.grown hg9 hsz (fun g e => by injection e with e; omega)
  have HV9 := Lib.hid (hv9.mono hB); have HU9 := Lib.hid hu9; have HAP := Lib.hid hap; have HB9 := Lib.hid hb9; have HR9 := Lib.hid hR9
  obtain ⟨a2, c2, rfl, -, -⟩ := hv9.slice
  have y0 := cell_of_row w9 _ 0 _ _ _ hR9; have y1 := cell_of_row w9 _ 1 _ _ _ hR9
  have f0 := frozen_of_row w9 _ 0 _ _ hR9; have f1 := frozen_of_row w9 _ 1 _ _ hR9
  clear hv9 hg9 hn9 hR9 hu9 hap hb9 HSR HL HR HB2 HV2 HG hlt hsz
  go_wp2_with fail
  exact fin_arr (r := okA s d) rfl rfl rfl HR9.out HV9.out HU9.out HAP.out HB9.out (Nat.le_refl _)
def ListV (v : Value) (xs : List Int) : Prop := ∃ a c, v = .slice a xs.length c
set_option maxHeartbeats 4000000 in
theorem turned_any (w : World) (x : Value) (xs : List Int) (hf : ∃ a c, x = .slice a xs.length c ∧ IntsAt .i64 w a xs) (hl : xs.length ≤ 65536) :
    Calls Try.prog 73 #[x] w (RetI w.heap.size w xs.reverse) := by
  obtain ⟨a, c, rfl, hi⟩ := hf
  have HI := Lib.hid hi
  clear hi
  go_enter Try.func73, Try.ntmps73
  go_wp2_with fail
  go_loopw [3, 4] (fun o j wr => ∃ k : Nat, k ≤ xs.length ∧ j = .int .i64 ((k : Int) - 1) ∧ RowI w.heap.size wr o (xs.drop k).reverse ∧ Below w.heap.size w wr) (fun _ j _ => (intOf j + 1).toNat)
  case atStart => exact ⟨xs.length, Nat.le_refl _, by congr 1, by simpa using RowI.nil _ _, Below.refl _ _⟩
  case round =>
    obtain ⟨k, hk, rfl, hrw, hb⟩ := hrel
    cases k with
    | zero =>
      have HR := Lib.hid hrw; have HB := Lib.hid hb
      clear hrw hb
      go_wp2_with fail
      go_ret
      exact ⟨_, rfl, by simpa using HR.out, HB.out⟩
    | succ j =>
      have ej : (((j + 1 : Nat) : Int) - 1) = (j : Int) := by omega
      rw [ej]
      obtain ⟨b, off, rfl, hc⟩ := HI.out.atD (k := j) (by omega)
      have hcc := keepCell hb hc
      have hstep : (xs.drop j).reverse = (xs.drop (j + 1)).reverse ++ [xs.getD j 0] := by
        rw [List.drop_eq_getElem_cons (by omega), List.reverse_cons]
        congr 2
        rw [List.getD_eq_getElem?_getD, List.getElem?_eq_getElem (by omega)]; rfl
      generalize xs.getD j 0 = y at hc hcc hstep
      have hjn : (j : Int) < (xs.length : Int) := by omega
      have hlen : (xs.drop (j + 1)).reverse.length ≤ 65536 := by simp; omega
      have hba : Below wr.heap.size wr (wr.alloc (.cells #[.int .i64 y] 2)) := (Below.refl _ _).alloc (Nat.le_refl _) _
      have HST := Lib.hid hstep; have HR := Lib.hid (hrw.below hba); have HB := Lib.hid (bNext hba hb); have HLN := Lib.hid hlen
      clear hc hstep hrw hb ej hlen hba
      go_wp2_with (at_builtin; refine wpList_app rfl _ _ rfl w.heap.size _ _ [y] _ 1 rfl rfl HR.out rfl (src_one wr y _ rfl) (by have := HLN.out; omega) HB.out.size ?_)
      intro v' w9 hv9 hg9 hn9
      have HV9 := Lib.hid hv9
      have HB9 := Lib.hid (HB.out.grown hg9 HB.out.size (fun g e => (HR.out.lt g e).1))
      clear hv9 hg9 hn9 HR HB hcc
      go_wp2_with fail
      go_roundw
      case rel => exact ⟨j, by omega, by go_num, by rw [HST.out]; exact HV9.out, HB9.out⟩
      case measure => simp [intOf] <;> omega
set_option maxHeartbeats 4000000 in
theorem times_any (w : World) (x : Int) (n : Nat) (hn : n ≤ 65536) : Calls Try.prog 59 #[.int .i64 x, .int .i64 n] w (RetI w.heap.size w (List.replicate n x)) := by
  go_enter Try.func59, Try.ntmps59
  go_wp2_with fail
  go_loopw [5, 6] (fun o j wr => ∃ k : Nat, k ≤ n ∧ j = .int .i64 k ∧ RowI w.heap.size wr o (List.replicate k x) ∧ Below w.heap.size w wr) (fun _ j _ => n - (intOf j).toNat)
  case atStart => exact ⟨0, by omega, rfl, RowI.nil _ _, Below.refl _ _⟩
  case round =>
    obtain ⟨k, hk, rfl, hrw, hb⟩ := hrel
    by_cases hlt : k < n
    · have hba : Below wr.heap.size wr (wr.alloc (.cells #[.int .i64 x] 2)) := (Below.refl _ _).alloc (Nat.le_refl _) _
      have HR := Lib.hid (hrw.below hba); have HB := Lib.hid (bNext hba hb)
      clear hrw hb hba
      go_wp2_with (at_builtin; refine wpList_app rfl _ _ rfl w.heap.size _ (List.replicate k x) [x] _ 1 rfl rfl HR.out rfl (src_one wr x _ rfl) (by simp; omega) HB.out.size ?_)
      intro v' w9 hv9 hg9 hn9
      have HV9 := Lib.hid hv9
      have HB9 := Lib.hid (HB.out.grown hg9 HB.out.size (fun g e => (HR.out.lt g e).1))
      clear hv9 hg9 hn9 HR HB
      go_wp2_with fail
      go_roundw
      case rel => exact ⟨k + 1, by omega, by go_num, by rw [List.replicate_succ']; exact HV9.out, HB9.out⟩
      case measure => simp [intOf] <;> omega
    · obtain rfl : k = n := by omega
      have HR := Lib.hid hrw; have HB := Lib.hid hb
      clear hrw hb
      go_wp2_with fail
      go_ret
      exact ⟨_, rfl, HR.out, HB.out⟩
end Go.Proofs.Ytmjkncmpanhgjaa
