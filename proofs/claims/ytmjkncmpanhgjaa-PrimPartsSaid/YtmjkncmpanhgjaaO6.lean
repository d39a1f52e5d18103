/-
  PrimParts: the law returns true for every input, and what was handed in reads as it did. No condition.
-/
import Derived.Test.YtmjkncmpanhgjaaBX
namespace Go.Proofs.Ytmjkncmpanhgjaa
set_option maxRecDepth 100000
open Go.ChangeShapes Go.WideShapes Go.ChangeAt Go.RowKit Go.Joins
set_option linter.unusedVariables false
set_option linter.unusedSimpArgs false

set_option maxHeartbeats 8000000 in
theorem PrimParts_no (w : World) (n : Int) (va vb : Value) (s d : List Int) (hn : In64 n) (hs : SlA w va s) (hd : SlA w vb d) (er : Int) (he : er ≠ 0) (h1 : dyadA 38 [] [n] s d = noA er) (h2 : dyadA 39 [] [n] s d = noA er) :
    Calls Try.prog 8 #[.int .i64 n, .agg #[va, vb]] w fun e w' => e = .returned (.bool true) ∧ Below w.heap.size w w' := by
  have HS := Lib.hid hs; have HD := Lib.hid hd; have HN := Lib.hid hn
  have HT := Lib.hid (Rt.noA he)
  have hee : (er != 0) = true := by simpa using he
  have heq : (er == er) = true := by simp
  unfold noA at h1 h2 HT
  have HM0 := Lib.hid h1; have HM1 := Lib.hid h2
  obtain ⟨a0, c0, rfl, -⟩ := hs
  obtain ⟨a1, c1, rfl, -⟩ := hd
  clear hn h1 h2 he
  go_enter Try.func8, Try.ntmps8
  go_upto_region 1 with fail
  refine gen_worldA (fun W => BoxA w W (.slice a0 s.length c0) (.slice a1 d.length c1)) (BoxA.mk0 _ _ _) ?_
  rintro W hO
  have HO := Lib.hid hO
  clear hO
  go_wp2_with fail
  refine (shown_any _).mono ?_
  rintro e' V0 ⟨rfl, hb⟩
  have HO := Lib.hid (HO.out.next hb)
  clear hb
  go_upto_region 2 with fail
  refine gen_worldA (fun W => BoxA w W (.slice a0 s.length c0) (.slice a1 d.length c1)) HO.out ?_
  rintro V0 hHO
  clear HO
  have HO := Lib.hid hHO
  clear hHO
  go_cut [6, 7] (fun s6 s7 wx => ∃ b0 p0 q0 r0 t0, s6 = .pointer (some ⟨b0, 0, none⟩) ∧ s7 = .int .i64 er ∧ w.heap.size < b0 ∧ BoxA w wx (.slice a0 s.length c0) (.slice a1 d.length c1) ∧ KeptR wx b0 (.slice p0 0 q0) (.slice r0 0 t0) [] [])
  case first =>
    refine wp_region_Z (S := fun W' => W'.cell? ⟨w.heap.size, 0, none⟩ = some (.slice a0 s.length c0) ∧ W'.cell? ⟨w.heap.size, 1, none⟩ = some (.slice a1 d.length c1)) (z := 9) (by kernel_rfl) ?_
    have hdr : Below V0.heap.size V0 V0.drew := (Below.refl _ _).drew
    have HO := Lib.hid (HO.out.next hdr)
    clear hdr
    generalize V0.drew = Y at HO ⊢
    have hSS : (fun W' : World => W'.cell? ⟨w.heap.size, 0, none⟩ = some (.slice a0 s.length c0) ∧ W'.cell? ⟨w.heap.size, 1, none⟩ = some (.slice a1 d.length c1)) Y := ⟨HO.out.c0, HO.out.c1⟩
    refine wpAnyZ_take (i := 0) (v := ?_) rfl (by kernel_rfl) (by kernel_rfl) (by kernel_rfl) (fun _ _ _ h => h) (by kernel_rfl) (Or.inl ⟨by rfl, ?_⟩) (by assumption) ?_
    rotate_left
    · intro w' hSw
      try dsimp only at hSw
      try obtain ⟨hSw, hSw2⟩ := hSw
      go_simp
      try with_reducible rfl
    show wpAnyZ _ _ _ _ _ _ _ _ (Act.put _ (some 14) _) _
    simp only [Act.put, List.setIfInBounds_toArray, List.set_cons_zero, List.set_cons_succ]
    refine wpAnyZ_take (i := 2) (v := ?_) rfl (by kernel_rfl) (by kernel_rfl) (by kernel_rfl) (fun _ _ _ h => h) (by kernel_rfl) (Or.inl ⟨by rfl, ?_⟩) (by assumption) ?_
    rotate_left
    · intro w' hSw
      try dsimp only at hSw
      try obtain ⟨hSw, hSw2⟩ := hSw
      go_simp
      try with_reducible rfl
    show wpAnyZ _ _ _ _ _ _ _ _ (Act.put _ (some 16) _) _
    simp only [Act.put, List.setIfInBounds_toArray, List.set_cons_zero, List.set_cons_succ]
    clear hSS
    refine wpAnyZ_twoG (i := 1) (j := 7) (by kernel_rfl) rfl rfl (by rfl) (by rfl) (fun K hK => ?_) (fun K hK => ?_)
    · skip
      go_simp
      refine (num_lit Y n HN.out).mono ?_
      rintro e' Y1 ⟨a9, c9, rfl, hd9, hb⟩
      have HO := Lib.hid (HO.out.next hb)
      show K _ Y1
      refine hK.out _ _ (.inr ⟨HO.out.c0, HO.out.c1⟩) ?_
      clear hK hb
      refine wpAnyZ_twoG (i := 3) (j := 7) (by kernel_rfl) rfl rfl (by rfl) (by rfl) (fun K hK => ?_) (fun K hK => ?_)
      · skip
        go_simp
        have hq := pd_any Y1 38 _ _ _ _ [] [n] s d (SlA.nil Y1) hd9 (HS.out.below HO.out.b) (HD.out.below HO.out.b)
        rw [HM0.out] at hq
        refine hq.mono ?_
        rintro e' Y2 ⟨hr, hb⟩
        obtain ⟨p0, q0, r0, t0, rfl, hs0, hd0⟩ := ret_own (S := []) (D := []) (E := er) hr
        have HO := Lib.hid (HO.out.next hb)
        show K _ Y2
        refine hK.out _ _ (.inr ⟨HO.out.c0, HO.out.c1⟩) ?_
        clear hK hb hq hr hd9
        have hSS : (fun W' : World => W'.cell? ⟨w.heap.size, 0, none⟩ = some (.slice a0 s.length c0) ∧ W'.cell? ⟨w.heap.size, 1, none⟩ = some (.slice a1 d.length c1)) Y2 := ⟨HO.out.c0, HO.out.c1⟩
        refine wpAnyZ_take (i := 4) (v := ?_) rfl (by kernel_rfl) (by kernel_rfl) (by kernel_rfl) (fun _ _ _ h => h) (by kernel_rfl) (Or.inl ⟨by rfl, ?_⟩) (by assumption) ?_
        rotate_left
        · intro w' hSw
          try dsimp only at hSw
          try obtain ⟨hSw, hSw2⟩ := hSw
          go_simp
          try with_reducible rfl
        show wpAnyZ _ _ _ _ _ _ _ _ (Act.put _ (some 13) _) _
        simp only [Act.put, List.setIfInBounds_toArray, List.set_cons_zero, List.set_cons_succ]
        refine wpAnyZ_take (i := 5) (v := ?_) rfl (by kernel_rfl) (by kernel_rfl) (by kernel_rfl) (fun _ _ _ h => h) (by kernel_rfl) (Or.inl ⟨by rfl, ?_⟩) (by assumption) ?_
        rotate_left
        · intro w' hSw
          try dsimp only at hSw
          try obtain ⟨hSw, hSw2⟩ := hSw
          go_simp
          try with_reducible rfl
        show wpAnyZ _ _ _ _ _ _ _ _ (Act.put _ (some 18) _) _
        simp only [Act.put, List.setIfInBounds_toArray, List.set_cons_zero, List.set_cons_succ]
        refine wpAnyZ_take (i := 6) (v := ?_) rfl (by kernel_rfl) (by kernel_rfl) (by kernel_rfl) (fun _ _ _ h => h) (by kernel_rfl) (Or.inl ⟨by rfl, ?_⟩) (by assumption) ?_
        rotate_left
        · intro w' hSw
          try dsimp only at hSw
          try obtain ⟨hSw, hSw2⟩ := hSw
          go_simp
          try with_reducible rfl
        show wpAnyZ _ _ _ _ _ _ _ _ (Act.put _ (some 19) _) _
        simp only [Act.put, List.setIfInBounds_toArray, List.set_cons_zero, List.set_cons_succ]
        clear hSS
        refine wpAnyZ_oneG (i := 7) (by kernel_rfl) rfl (by rfl) (fun K hK => ?_)
        go_simp
        obtain ⟨b0, hb0⟩ : ∃ b, Y2.heap.size = b := ⟨_, rfl⟩
        have hba : Below Y2.heap.size Y2 (Y2.alloc (.cells #[.slice none 0 0, .slice none 0 0] 24)) := (Below.refl _ _).alloc (Nat.le_refl _) _
        have hbw := HO.out.lt; rw [hb0] at hbw
        have HO := Lib.hid (HO.out.next hba)
        have HB := Lib.hid (Boxed.new hb0)
        have hs0 := hs0.below hba; have hd0 := hd0.below hba
        rw [hb0]
        refine hK.out _ _ (.inr ⟨HO.out.c0, HO.out.c1⟩) ?_
        clear hK hba hb0
        generalize Y2.alloc (.cells #[.slice none 0 0, .slice none 0 0] 24) = Y3 at *
        have g0 := frozen_of_row Y3 b0 0 _ _ HB.out; have g1 := frozen_of_row Y3 b0 1 _ _ HB.out
        have y0 := cell_of_row Y3 b0 0 _ _ _ HB.out; have y1 := cell_of_row Y3 b0 1 _ _ _ HB.out
        refine wpAnyZ_oneG (i := 8) (by kernel_rfl) rfl (by rfl) (fun K hK => ?_)
        go_simp
        refine hK.out _ _ (.inr (by have h := HO.out.put (v' := .slice p0 0 q0) (u' := .slice r0 0 t0) hbw; exact ⟨h.c0, h.c1⟩)) ?_
        clear hK y0 y1 g0 g1
        refine wpAnyZ_one (i := 9) (by kernel_rfl) rfl rfl (fun K hK => ?_)
        go_simp
        refine hK.out _ _ (.inl (by omega)) ?_
        clear hK
        refine wpAnyZ_done (by kernel_rfl) ?_ _
        go_wp2_with fail
        go_meet
        exact ⟨b0, p0, q0, r0, t0, rfl, rfl, hbw, HO.out.put hbw, KeptR.put (v' := .slice none 0 0) (u' := .slice none 0 0) (s' := []) (d' := []) HB.out hs0 hd0 HT.out.i1 HT.out.i2⟩
      · skip
        go_simp
        obtain ⟨b0, hb0⟩ : ∃ b, Y1.heap.size = b := ⟨_, rfl⟩
        have hba : Below Y1.heap.size Y1 (Y1.alloc (.cells #[.slice none 0 0, .slice none 0 0] 24)) := (Below.refl _ _).alloc (Nat.le_refl _) _
        have hbw := HO.out.lt; rw [hb0] at hbw
        have HO := Lib.hid (HO.out.next hba)
        have HB := Lib.hid (Boxed.new hb0)
        have hd9 := hd9.below hba
        rw [hb0]
        refine hK.out _ _ (.inr ⟨HO.out.c0, HO.out.c1⟩) ?_
        clear hK hba hb0
        generalize Y1.alloc (.cells #[.slice none 0 0, .slice none 0 0] 24) = Y4 at *
        refine wpAnyZ_oneG (i := 3) (by kernel_rfl) rfl (by rfl) (fun K hK => ?_)
        go_simp
        have hq := pd_any Y4 38 _ _ _ _ [] [n] s d (SlA.nil Y4) hd9 (HS.out.below HO.out.b) (HD.out.below HO.out.b)
        rw [HM0.out] at hq
        refine hq.mono ?_
        rintro e' Y5 ⟨hr, hb⟩
        obtain ⟨p0, q0, r0, t0, rfl, hs0, hd0⟩ := ret_own (S := []) (D := []) (E := er) hr
        have HO := Lib.hid (HO.out.next hb)
        have HB := Lib.hid (HB.out.next hb)
        show K _ Y5
        refine hK.out _ _ (.inr ⟨HO.out.c0, HO.out.c1⟩) ?_
        clear hK hb hq hr hd9
        have hSS : (fun W' : World => W'.cell? ⟨w.heap.size, 0, none⟩ = some (.slice a0 s.length c0) ∧ W'.cell? ⟨w.heap.size, 1, none⟩ = some (.slice a1 d.length c1)) Y5 := ⟨HO.out.c0, HO.out.c1⟩
        refine wpAnyZ_take (i := 4) (v := ?_) rfl (by kernel_rfl) (by kernel_rfl) (by kernel_rfl) (fun _ _ _ h => h) (by kernel_rfl) (Or.inl ⟨by rfl, ?_⟩) (by assumption) ?_
        rotate_left
        · intro w' hSw
          try dsimp only at hSw
          try obtain ⟨hSw, hSw2⟩ := hSw
          go_simp
          try with_reducible rfl
        show wpAnyZ _ _ _ _ _ _ _ _ (Act.put _ (some 13) _) _
        simp only [Act.put, List.setIfInBounds_toArray, List.set_cons_zero, List.set_cons_succ]
        refine wpAnyZ_take (i := 5) (v := ?_) rfl (by kernel_rfl) (by kernel_rfl) (by kernel_rfl) (fun _ _ _ h => h) (by kernel_rfl) (Or.inl ⟨by rfl, ?_⟩) (by assumption) ?_
        rotate_left
        · intro w' hSw
          try dsimp only at hSw
          try obtain ⟨hSw, hSw2⟩ := hSw
          go_simp
          try with_reducible rfl
        show wpAnyZ _ _ _ _ _ _ _ _ (Act.put _ (some 18) _) _
        simp only [Act.put, List.setIfInBounds_toArray, List.set_cons_zero, List.set_cons_succ]
        refine wpAnyZ_take (i := 6) (v := ?_) rfl (by kernel_rfl) (by kernel_rfl) (by kernel_rfl) (fun _ _ _ h => h) (by kernel_rfl) (Or.inl ⟨by rfl, ?_⟩) (by assumption) ?_
        rotate_left
        · intro w' hSw
          try dsimp only at hSw
          try obtain ⟨hSw, hSw2⟩ := hSw
          go_simp
          try with_reducible rfl
        show wpAnyZ _ _ _ _ _ _ _ _ (Act.put _ (some 19) _) _
        simp only [Act.put, List.setIfInBounds_toArray, List.set_cons_zero, List.set_cons_succ]
        clear hSS
        have g0 := frozen_of_row Y5 b0 0 _ _ HB.out; have g1 := frozen_of_row Y5 b0 1 _ _ HB.out
        have y0 := cell_of_row Y5 b0 0 _ _ _ HB.out; have y1 := cell_of_row Y5 b0 1 _ _ _ HB.out
        refine wpAnyZ_oneG (i := 8) (by kernel_rfl) rfl (by rfl) (fun K hK => ?_)
        go_simp
        refine hK.out _ _ (.inr (by have h := HO.out.put (v' := .slice p0 0 q0) (u' := .slice r0 0 t0) hbw; exact ⟨h.c0, h.c1⟩)) ?_
        clear hK y0 y1 g0 g1
        refine wpAnyZ_one (i := 9) (by kernel_rfl) rfl rfl (fun K hK => ?_)
        go_simp
        refine hK.out _ _ (.inl (by omega)) ?_
        clear hK
        refine wpAnyZ_done (by kernel_rfl) ?_ _
        go_wp2_with fail
        go_meet
        exact ⟨b0, p0, q0, r0, t0, rfl, rfl, hbw, HO.out.put hbw, KeptR.put (v' := .slice none 0 0) (u' := .slice none 0 0) (s' := []) (d' := []) HB.out hs0 hd0 HT.out.i1 HT.out.i2⟩
    · skip
      go_simp
      obtain ⟨b0, hb0⟩ : ∃ b, Y.heap.size = b := ⟨_, rfl⟩
      have hba : Below Y.heap.size Y (Y.alloc (.cells #[.slice none 0 0, .slice none 0 0] 24)) := (Below.refl _ _).alloc (Nat.le_refl _) _
      have hbw := HO.out.lt; rw [hb0] at hbw
      have HO := Lib.hid (HO.out.next hba)
      have HB := Lib.hid (Boxed.new hb0)
      rw [hb0]
      refine hK.out _ _ (.inr ⟨HO.out.c0, HO.out.c1⟩) ?_
      clear hK hba hb0
      generalize Y.alloc (.cells #[.slice none 0 0, .slice none 0 0] 24) = Y6 at *
      refine wpAnyZ_oneG (i := 1) (by kernel_rfl) rfl (by rfl) (fun K hK => ?_)
      go_simp
      refine (num_lit Y6 n HN.out).mono ?_
      rintro e' Y7 ⟨a9, c9, rfl, hd9, hb⟩
      have HO := Lib.hid (HO.out.next hb)
      have HB := Lib.hid (HB.out.next hb)
      show K _ Y7
      refine hK.out _ _ (.inr ⟨HO.out.c0, HO.out.c1⟩) ?_
      clear hK hb
      refine wpAnyZ_oneG (i := 3) (by kernel_rfl) rfl (by rfl) (fun K hK => ?_)
      go_simp
      have hq := pd_any Y7 38 _ _ _ _ [] [n] s d (SlA.nil Y7) hd9 (HS.out.below HO.out.b) (HD.out.below HO.out.b)
      rw [HM0.out] at hq
      refine hq.mono ?_
      rintro e' Y8 ⟨hr, hb⟩
      obtain ⟨p0, q0, r0, t0, rfl, hs0, hd0⟩ := ret_own (S := []) (D := []) (E := er) hr
      have HO := Lib.hid (HO.out.next hb)
      have HB := Lib.hid (HB.out.next hb)
      show K _ Y8
      refine hK.out _ _ (.inr ⟨HO.out.c0, HO.out.c1⟩) ?_
      clear hK hb hq hr hd9
      have hSS : (fun W' : World => W'.cell? ⟨w.heap.size, 0, none⟩ = some (.slice a0 s.length c0) ∧ W'.cell? ⟨w.heap.size, 1, none⟩ = some (.slice a1 d.length c1)) Y8 := ⟨HO.out.c0, HO.out.c1⟩
      refine wpAnyZ_take (i := 4) (v := ?_) rfl (by kernel_rfl) (by kernel_rfl) (by kernel_rfl) (fun _ _ _ h => h) (by kernel_rfl) (Or.inl ⟨by rfl, ?_⟩) (by assumption) ?_
      rotate_left
      · intro w' hSw
        try dsimp only at hSw
        try obtain ⟨hSw, hSw2⟩ := hSw
        go_simp
        try with_reducible rfl
      show wpAnyZ _ _ _ _ _ _ _ _ (Act.put _ (some 13) _) _
      simp only [Act.put, List.setIfInBounds_toArray, List.set_cons_zero, List.set_cons_succ]
      refine wpAnyZ_take (i := 5) (v := ?_) rfl (by kernel_rfl) (by kernel_rfl) (by kernel_rfl) (fun _ _ _ h => h) (by kernel_rfl) (Or.inl ⟨by rfl, ?_⟩) (by assumption) ?_
      rotate_left
      · intro w' hSw
        try dsimp only at hSw
        try obtain ⟨hSw, hSw2⟩ := hSw
        go_simp
        try with_reducible rfl
      show wpAnyZ _ _ _ _ _ _ _ _ (Act.put _ (some 18) _) _
      simp only [Act.put, List.setIfInBounds_toArray, List.set_cons_zero, List.set_cons_succ]
      refine wpAnyZ_take (i := 6) (v := ?_) rfl (by kernel_rfl) (by kernel_rfl) (by kernel_rfl) (fun _ _ _ h => h) (by kernel_rfl) (Or.inl ⟨by rfl, ?_⟩) (by assumption) ?_
      rotate_left
      · intro w' hSw
        try dsimp only at hSw
        try obtain ⟨hSw, hSw2⟩ := hSw
        go_simp
        try with_reducible rfl
      show wpAnyZ _ _ _ _ _ _ _ _ (Act.put _ (some 19) _) _
      simp only [Act.put, List.setIfInBounds_toArray, List.set_cons_zero, List.set_cons_succ]
      clear hSS
      have g0 := frozen_of_row Y8 b0 0 _ _ HB.out; have g1 := frozen_of_row Y8 b0 1 _ _ HB.out
      have y0 := cell_of_row Y8 b0 0 _ _ _ HB.out; have y1 := cell_of_row Y8 b0 1 _ _ _ HB.out
      refine wpAnyZ_oneG (i := 8) (by kernel_rfl) rfl (by rfl) (fun K hK => ?_)
      go_simp
      refine hK.out _ _ (.inr (by have h := HO.out.put (v' := .slice p0 0 q0) (u' := .slice r0 0 t0) hbw; exact ⟨h.c0, h.c1⟩)) ?_
      clear hK y0 y1 g0 g1
      refine wpAnyZ_one (i := 9) (by kernel_rfl) rfl rfl (fun K hK => ?_)
      go_simp
      refine hK.out _ _ (.inl (by omega)) ?_
      clear hK
      refine wpAnyZ_done (by kernel_rfl) ?_ _
      go_wp2_with fail
      go_meet
      exact ⟨b0, p0, q0, r0, t0, rfl, rfl, hbw, HO.out.put hbw, KeptR.put (v' := .slice none 0 0) (u' := .slice none 0 0) (s' := []) (d' := []) HB.out hs0 hd0 HT.out.i1 HT.out.i2⟩
  case rest =>
    clear HO
    obtain ⟨b0, p0, q0, r0, t0, rfl, rfl, hbw0, hHO, hK0⟩ := hcut
    have HO := Lib.hid hHO
    have K0 := Lib.hid hK0
    clear hHO hK0
    go_upto_region 3 with fail
    refine gen_worldA (fun W => BoxA w W (.slice a0 s.length c0) (.slice a1 d.length c1) ∧ KeptR W b0 (.slice p0 0 q0) (.slice r0 0 t0) [] []) ⟨HO.out, K0.out⟩ ?_
    rintro V1 ⟨hHO, hK0⟩
    clear HO K0
    have HO := Lib.hid hHO
    have K0 := Lib.hid hK0
    clear hHO hK0
    go_cut [8, 9] (fun s8 s9 wx => ∃ b1 p1 q1 r1 t1, s8 = .pointer (some ⟨b1, 0, none⟩) ∧ s9 = .int .i64 er ∧ w.heap.size < b1 ∧ b0 < b1 ∧ BoxA w wx (.slice a0 s.length c0) (.slice a1 d.length c1) ∧ KeptR wx b0 (.slice p0 0 q0) (.slice r0 0 t0) [] [] ∧ KeptR wx b1 (.slice p1 0 q1) (.slice r1 0 t1) [] [])
    case first =>
      refine wp_region_Z (S := fun W' => W'.cell? ⟨w.heap.size, 0, none⟩ = some (.slice a0 s.length c0) ∧ W'.cell? ⟨w.heap.size, 1, none⟩ = some (.slice a1 d.length c1)) (z := 9) (by kernel_rfl) ?_
      have hdr : Below V1.heap.size V1 V1.drew := (Below.refl _ _).drew
      have HO := Lib.hid (HO.out.next hdr)
      have K0 := Lib.hid (K0.out.next hdr)
      clear hdr
      generalize V1.drew = Y at HO K0 ⊢
      have hSS : (fun W' : World => W'.cell? ⟨w.heap.size, 0, none⟩ = some (.slice a0 s.length c0) ∧ W'.cell? ⟨w.heap.size, 1, none⟩ = some (.slice a1 d.length c1)) Y := ⟨HO.out.c0, HO.out.c1⟩
      refine wpAnyZ_take (i := 0) (v := ?_) rfl (by kernel_rfl) (by kernel_rfl) (by kernel_rfl) (fun _ _ _ h => h) (by kernel_rfl) (Or.inl ⟨by rfl, ?_⟩) (by assumption) ?_
      rotate_left
      · intro w' hSw
        try dsimp only at hSw
        try obtain ⟨hSw, hSw2⟩ := hSw
        go_simp
        try with_reducible rfl
      show wpAnyZ _ _ _ _ _ _ _ _ (Act.put _ (some 21) _) _
      simp only [Act.put, List.setIfInBounds_toArray, List.set_cons_zero, List.set_cons_succ]
      refine wpAnyZ_take (i := 2) (v := ?_) rfl (by kernel_rfl) (by kernel_rfl) (by kernel_rfl) (fun _ _ _ h => h) (by kernel_rfl) (Or.inl ⟨by rfl, ?_⟩) (by assumption) ?_
      rotate_left
      · intro w' hSw
        try dsimp only at hSw
        try obtain ⟨hSw, hSw2⟩ := hSw
        go_simp
        try with_reducible rfl
      show wpAnyZ _ _ _ _ _ _ _ _ (Act.put _ (some 23) _) _
      simp only [Act.put, List.setIfInBounds_toArray, List.set_cons_zero, List.set_cons_succ]
      clear hSS
      refine wpAnyZ_twoG (i := 1) (j := 7) (by kernel_rfl) rfl rfl (by rfl) (by rfl) (fun K hK => ?_) (fun K hK => ?_)
      · skip
        go_simp
        refine (num_lit Y n HN.out).mono ?_
        rintro e' Y1 ⟨a9, c9, rfl, hd9, hb⟩
        have HO := Lib.hid (HO.out.next hb)
        have K0 := Lib.hid (K0.out.next hb)
        show K _ Y1
        refine hK.out _ _ (.inr ⟨HO.out.c0, HO.out.c1⟩) ?_
        clear hK hb
        refine wpAnyZ_twoG (i := 3) (j := 7) (by kernel_rfl) rfl rfl (by rfl) (by rfl) (fun K hK => ?_) (fun K hK => ?_)
        · skip
          go_simp
          have hq := pd_any Y1 39 _ _ _ _ [] [n] s d (SlA.nil Y1) hd9 (HS.out.below HO.out.b) (HD.out.below HO.out.b)
          rw [HM1.out] at hq
          refine hq.mono ?_
          rintro e' Y2 ⟨hr, hb⟩
          obtain ⟨p1, q1, r1, t1, rfl, hs1, hd1⟩ := ret_own (S := []) (D := []) (E := er) hr
          have HO := Lib.hid (HO.out.next hb)
          have K0 := Lib.hid (K0.out.next hb)
          show K _ Y2
          refine hK.out _ _ (.inr ⟨HO.out.c0, HO.out.c1⟩) ?_
          clear hK hb hq hr hd9
          have hSS : (fun W' : World => W'.cell? ⟨w.heap.size, 0, none⟩ = some (.slice a0 s.length c0) ∧ W'.cell? ⟨w.heap.size, 1, none⟩ = some (.slice a1 d.length c1)) Y2 := ⟨HO.out.c0, HO.out.c1⟩
          refine wpAnyZ_take (i := 4) (v := ?_) rfl (by kernel_rfl) (by kernel_rfl) (by kernel_rfl) (fun _ _ _ h => h) (by kernel_rfl) (Or.inl ⟨by rfl, ?_⟩) (by assumption) ?_
          rotate_left
          · intro w' hSw
            try dsimp only at hSw
            try obtain ⟨hSw, hSw2⟩ := hSw
            go_simp
            try with_reducible rfl
          show wpAnyZ _ _ _ _ _ _ _ _ (Act.put _ (some 20) _) _
          simp only [Act.put, List.setIfInBounds_toArray, List.set_cons_zero, List.set_cons_succ]
          refine wpAnyZ_take (i := 5) (v := ?_) rfl (by kernel_rfl) (by kernel_rfl) (by kernel_rfl) (fun _ _ _ h => h) (by kernel_rfl) (Or.inl ⟨by rfl, ?_⟩) (by assumption) ?_
          rotate_left
          · intro w' hSw
            try dsimp only at hSw
            try obtain ⟨hSw, hSw2⟩ := hSw
            go_simp
            try with_reducible rfl
          show wpAnyZ _ _ _ _ _ _ _ _ (Act.put _ (some 25) _) _
          simp only [Act.put, List.setIfInBounds_toArray, List.set_cons_zero, List.set_cons_succ]
          refine wpAnyZ_take (i := 6) (v := ?_) rfl (by kernel_rfl) (by kernel_rfl) (by kernel_rfl) (fun _ _ _ h => h) (by kernel_rfl) (Or.inl ⟨by rfl, ?_⟩) (by assumption) ?_
          rotate_left
          · intro w' hSw
            try dsimp only at hSw
            try obtain ⟨hSw, hSw2⟩ := hSw
            go_simp
            try with_reducible rfl
          show wpAnyZ _ _ _ _ _ _ _ _ (Act.put _ (some 26) _) _
          simp only [Act.put, List.setIfInBounds_toArray, List.set_cons_zero, List.set_cons_succ]
          clear hSS
          refine wpAnyZ_oneG (i := 7) (by kernel_rfl) rfl (by rfl) (fun K hK => ?_)
          go_simp
          obtain ⟨b1, hb1⟩ : ∃ b, Y2.heap.size = b := ⟨_, rfl⟩
          have hba : Below Y2.heap.size Y2 (Y2.alloc (.cells #[.slice none 0 0, .slice none 0 0] 24)) := (Below.refl _ _).alloc (Nat.le_refl _) _
          have hbw := HO.out.lt; rw [hb1] at hbw
          have hbwK0 := K0.out.lt; rw [hb1] at hbwK0
          have HO := Lib.hid (HO.out.next hba)
          have K0 := Lib.hid (K0.out.next hba)
          have HB := Lib.hid (Boxed.new hb1)
          have hs1 := hs1.below hba; have hd1 := hd1.below hba
          rw [hb1]
          refine hK.out _ _ (.inr ⟨HO.out.c0, HO.out.c1⟩) ?_
          clear hK hba hb1
          generalize Y2.alloc (.cells #[.slice none 0 0, .slice none 0 0] 24) = Y3 at *
          have g0 := frozen_of_row Y3 b1 0 _ _ HB.out; have g1 := frozen_of_row Y3 b1 1 _ _ HB.out
          have y0 := cell_of_row Y3 b1 0 _ _ _ HB.out; have y1 := cell_of_row Y3 b1 1 _ _ _ HB.out
          refine wpAnyZ_oneG (i := 8) (by kernel_rfl) rfl (by rfl) (fun K hK => ?_)
          go_simp
          refine hK.out _ _ (.inr (by have h := HO.out.put (v' := .slice p1 0 q1) (u' := .slice r1 0 t1) hbw; exact ⟨h.c0, h.c1⟩)) ?_
          clear hK y0 y1 g0 g1
          refine wpAnyZ_one (i := 9) (by kernel_rfl) rfl rfl (fun K hK => ?_)
          go_simp
          refine hK.out _ _ (.inl (by omega)) ?_
          clear hK
          refine wpAnyZ_done (by kernel_rfl) ?_ _
          go_wp2_with fail
          go_meet
          exact ⟨b1, p1, q1, r1, t1, rfl, rfl, hbw, hbwK0, HO.out.put hbw, K0.out.other HB.out (by omega), KeptR.put (v' := .slice none 0 0) (u' := .slice none 0 0) (s' := []) (d' := []) HB.out hs1 hd1 HT.out.i1 HT.out.i2⟩
        · skip
          go_simp
          obtain ⟨b1, hb1⟩ : ∃ b, Y1.heap.size = b := ⟨_, rfl⟩
          have hba : Below Y1.heap.size Y1 (Y1.alloc (.cells #[.slice none 0 0, .slice none 0 0] 24)) := (Below.refl _ _).alloc (Nat.le_refl _) _
          have hbw := HO.out.lt; rw [hb1] at hbw
          have hbwK0 := K0.out.lt; rw [hb1] at hbwK0
          have HO := Lib.hid (HO.out.next hba)
          have K0 := Lib.hid (K0.out.next hba)
          have HB := Lib.hid (Boxed.new hb1)
          have hd9 := hd9.below hba
          rw [hb1]
          refine hK.out _ _ (.inr ⟨HO.out.c0, HO.out.c1⟩) ?_
          clear hK hba hb1
          generalize Y1.alloc (.cells #[.slice none 0 0, .slice none 0 0] 24) = Y4 at *
          refine wpAnyZ_oneG (i := 3) (by kernel_rfl) rfl (by rfl) (fun K hK => ?_)
          go_simp
          have hq := pd_any Y4 39 _ _ _ _ [] [n] s d (SlA.nil Y4) hd9 (HS.out.below HO.out.b) (HD.out.below HO.out.b)
          rw [HM1.out] at hq
          refine hq.mono ?_
          rintro e' Y5 ⟨hr, hb⟩
          obtain ⟨p1, q1, r1, t1, rfl, hs1, hd1⟩ := ret_own (S := []) (D := []) (E := er) hr
          have HO := Lib.hid (HO.out.next hb)
          have K0 := Lib.hid (K0.out.next hb)
          have HB := Lib.hid (HB.out.next hb)
          show K _ Y5
          refine hK.out _ _ (.inr ⟨HO.out.c0, HO.out.c1⟩) ?_
          clear hK hb hq hr hd9
          have hSS : (fun W' : World => W'.cell? ⟨w.heap.size, 0, none⟩ = some (.slice a0 s.length c0) ∧ W'.cell? ⟨w.heap.size, 1, none⟩ = some (.slice a1 d.length c1)) Y5 := ⟨HO.out.c0, HO.out.c1⟩
          refine wpAnyZ_take (i := 4) (v := ?_) rfl (by kernel_rfl) (by kernel_rfl) (by kernel_rfl) (fun _ _ _ h => h) (by kernel_rfl) (Or.inl ⟨by rfl, ?_⟩) (by assumption) ?_
          rotate_left
          · intro w' hSw
            try dsimp only at hSw
            try obtain ⟨hSw, hSw2⟩ := hSw
            go_simp
            try with_reducible rfl
          show wpAnyZ _ _ _ _ _ _ _ _ (Act.put _ (some 20) _) _
          simp only [Act.put, List.setIfInBounds_toArray, List.set_cons_zero, List.set_cons_succ]
          refine wpAnyZ_take (i := 5) (v := ?_) rfl (by kernel_rfl) (by kernel_rfl) (by kernel_rfl) (fun _ _ _ h => h) (by kernel_rfl) (Or.inl ⟨by rfl, ?_⟩) (by assumption) ?_
          rotate_left
          · intro w' hSw
            try dsimp only at hSw
            try obtain ⟨hSw, hSw2⟩ := hSw
            go_simp
            try with_reducible rfl
          show wpAnyZ _ _ _ _ _ _ _ _ (Act.put _ (some 25) _) _
          simp only [Act.put, List.setIfInBounds_toArray, List.set_cons_zero, List.set_cons_succ]
          refine wpAnyZ_take (i := 6) (v := ?_) rfl (by kernel_rfl) (by kernel_rfl) (by kernel_rfl) (fun _ _ _ h => h) (by kernel_rfl) (Or.inl ⟨by rfl, ?_⟩) (by assumption) ?_
          rotate_left
          · intro w' hSw
            try dsimp only at hSw
            try obtain ⟨hSw, hSw2⟩ := hSw
            go_simp
            try with_reducible rfl
          show wpAnyZ _ _ _ _ _ _ _ _ (Act.put _ (some 26) _) _
          simp only [Act.put, List.setIfInBounds_toArray, List.set_cons_zero, List.set_cons_succ]
          clear hSS
          have g0 := frozen_of_row Y5 b1 0 _ _ HB.out; have g1 := frozen_of_row Y5 b1 1 _ _ HB.out
          have y0 := cell_of_row Y5 b1 0 _ _ _ HB.out; have y1 := cell_of_row Y5 b1 1 _ _ _ HB.out
          refine wpAnyZ_oneG (i := 8) (by kernel_rfl) rfl (by rfl) (fun K hK => ?_)
          go_simp
          refine hK.out _ _ (.inr (by have h := HO.out.put (v' := .slice p1 0 q1) (u' := .slice r1 0 t1) hbw; exact ⟨h.c0, h.c1⟩)) ?_
          clear hK y0 y1 g0 g1
          refine wpAnyZ_one (i := 9) (by kernel_rfl) rfl rfl (fun K hK => ?_)
          go_simp
          refine hK.out _ _ (.inl (by omega)) ?_
          clear hK
          refine wpAnyZ_done (by kernel_rfl) ?_ _
          go_wp2_with fail
          go_meet
          exact ⟨b1, p1, q1, r1, t1, rfl, rfl, hbw, hbwK0, HO.out.put hbw, K0.out.other HB.out (by omega), KeptR.put (v' := .slice none 0 0) (u' := .slice none 0 0) (s' := []) (d' := []) HB.out hs1 hd1 HT.out.i1 HT.out.i2⟩
      · skip
        go_simp
        obtain ⟨b1, hb1⟩ : ∃ b, Y.heap.size = b := ⟨_, rfl⟩
        have hba : Below Y.heap.size Y (Y.alloc (.cells #[.slice none 0 0, .slice none 0 0] 24)) := (Below.refl _ _).alloc (Nat.le_refl _) _
        have hbw := HO.out.lt; rw [hb1] at hbw
        have hbwK0 := K0.out.lt; rw [hb1] at hbwK0
        have HO := Lib.hid (HO.out.next hba)
        have K0 := Lib.hid (K0.out.next hba)
        have HB := Lib.hid (Boxed.new hb1)
        rw [hb1]
        refine hK.out _ _ (.inr ⟨HO.out.c0, HO.out.c1⟩) ?_
        clear hK hba hb1
        generalize Y.alloc (.cells #[.slice none 0 0, .slice none 0 0] 24) = Y6 at *
        refine wpAnyZ_oneG (i := 1) (by kernel_rfl) rfl (by rfl) (fun K hK => ?_)
        go_simp
        refine (num_lit Y6 n HN.out).mono ?_
        rintro e' Y7 ⟨a9, c9, rfl, hd9, hb⟩
        have HO := Lib.hid (HO.out.next hb)
        have K0 := Lib.hid (K0.out.next hb)
        have HB := Lib.hid (HB.out.next hb)
        show K _ Y7
        refine hK.out _ _ (.inr ⟨HO.out.c0, HO.out.c1⟩) ?_
        clear hK hb
        refine wpAnyZ_oneG (i := 3) (by kernel_rfl) rfl (by rfl) (fun K hK => ?_)
        go_simp
        have hq := pd_any Y7 39 _ _ _ _ [] [n] s d (SlA.nil Y7) hd9 (HS.out.below HO.out.b) (HD.out.below HO.out.b)
        rw [HM1.out] at hq
        refine hq.mono ?_
        rintro e' Y8 ⟨hr, hb⟩
        obtain ⟨p1, q1, r1, t1, rfl, hs1, hd1⟩ := ret_own (S := []) (D := []) (E := er) hr
        have HO := Lib.hid (HO.out.next hb)
        have K0 := Lib.hid (K0.out.next hb)
        have HB := Lib.hid (HB.out.next hb)
        show K _ Y8
        refine hK.out _ _ (.inr ⟨HO.out.c0, HO.out.c1⟩) ?_
        clear hK hb hq hr hd9
        have hSS : (fun W' : World => W'.cell? ⟨w.heap.size, 0, none⟩ = some (.slice a0 s.length c0) ∧ W'.cell? ⟨w.heap.size, 1, none⟩ = some (.slice a1 d.length c1)) Y8 := ⟨HO.out.c0, HO.out.c1⟩
        refine wpAnyZ_take (i := 4) (v := ?_) rfl (by kernel_rfl) (by kernel_rfl) (by kernel_rfl) (fun _ _ _ h => h) (by kernel_rfl) (Or.inl ⟨by rfl, ?_⟩) (by assumption) ?_
        rotate_left
        · intro w' hSw
          try dsimp only at hSw
          try obtain ⟨hSw, hSw2⟩ := hSw
          go_simp
          try with_reducible rfl
        show wpAnyZ _ _ _ _ _ _ _ _ (Act.put _ (some 20) _) _
        simp only [Act.put, List.setIfInBounds_toArray, List.set_cons_zero, List.set_cons_succ]
        refine wpAnyZ_take (i := 5) (v := ?_) rfl (by kernel_rfl) (by kernel_rfl) (by kernel_rfl) (fun _ _ _ h => h) (by kernel_rfl) (Or.inl ⟨by rfl, ?_⟩) (by assumption) ?_
        rotate_left
        · intro w' hSw
          try dsimp only at hSw
          try obtain ⟨hSw, hSw2⟩ := hSw
          go_simp
          try with_reducible rfl
        show wpAnyZ _ _ _ _ _ _ _ _ (Act.put _ (some 25) _) _
        simp only [Act.put, List.setIfInBounds_toArray, List.set_cons_zero, List.set_cons_succ]
        refine wpAnyZ_take (i := 6) (v := ?_) rfl (by kernel_rfl) (by kernel_rfl) (by kernel_rfl) (fun _ _ _ h => h) (by kernel_rfl) (Or.inl ⟨by rfl, ?_⟩) (by assumption) ?_
        rotate_left
        · intro w' hSw
          try dsimp only at hSw
          try obtain ⟨hSw, hSw2⟩ := hSw
          go_simp
          try with_reducible rfl
        show wpAnyZ _ _ _ _ _ _ _ _ (Act.put _ (some 26) _) _
        simp only [Act.put, List.setIfInBounds_toArray, List.set_cons_zero, List.set_cons_succ]
        clear hSS
        have g0 := frozen_of_row Y8 b1 0 _ _ HB.out; have g1 := frozen_of_row Y8 b1 1 _ _ HB.out
        have y0 := cell_of_row Y8 b1 0 _ _ _ HB.out; have y1 := cell_of_row Y8 b1 1 _ _ _ HB.out
        refine wpAnyZ_oneG (i := 8) (by kernel_rfl) rfl (by rfl) (fun K hK => ?_)
        go_simp
        refine hK.out _ _ (.inr (by have h := HO.out.put (v' := .slice p1 0 q1) (u' := .slice r1 0 t1) hbw; exact ⟨h.c0, h.c1⟩)) ?_
        clear hK y0 y1 g0 g1
        refine wpAnyZ_one (i := 9) (by kernel_rfl) rfl rfl (fun K hK => ?_)
        go_simp
        refine hK.out _ _ (.inl (by omega)) ?_
        clear hK
        refine wpAnyZ_done (by kernel_rfl) ?_ _
        go_wp2_with fail
        go_meet
        exact ⟨b1, p1, q1, r1, t1, rfl, rfl, hbw, hbwK0, HO.out.put hbw, K0.out.other HB.out (by omega), KeptR.put (v' := .slice none 0 0) (u' := .slice none 0 0) (s' := []) (d' := []) HB.out hs1 hd1 HT.out.i1 HT.out.i2⟩
    case rest =>
      clear HO K0
      obtain ⟨b1, p1, q1, r1, t1, rfl, rfl, hbw1, hbw1K0, hHO, hK0, hK1⟩ := hcut
      have HO := Lib.hid hHO
      have K0 := Lib.hid hK0
      have K1 := Lib.hid hK1
      clear hHO hK0 hK1
      have y0K0 := K0.out.c0; have y1K0 := K0.out.c1
      have y0K1 := K1.out.c0; have y1K1 := K1.out.c1
      go_wp2_with fail
      go_ret
      exact ⟨rfl, HO.out.b⟩
set_option maxHeartbeats 8000000 in
theorem PrimParts_pos (w : World) (n : Int) (va vb : Value) (s d : List Int) (hn : In64 n) (hs : SlA w va s) (hd : SlA w vb d) (hneg : decide (n < 0) = false) (S1 D1 S2 D2 : List Int) (h1 : dyadA 38 [] [n] s d = okA S1 D1) (h2 : dyadA 39 [] [n] s d = okA S2 D2)
    (h3 : dyadA 40 S1 D1 S2 D2 = okA s d) :
    Calls Try.prog 8 #[.int .i64 n, .agg #[va, vb]] w fun e w' => e = .returned (.bool true) ∧ Below w.heap.size w w' := by
  have HS := Lib.hid hs; have HD := Lib.hid hd; have HN := Lib.hid hn
  have hn1 : ∀ x ∈ [n], In64 x := fun x hx => by rw [List.mem_singleton.1 hx]; exact hn
  have HT0 := Lib.hid (h1 ▸ dyadA_rt 38 (s := []) (t := s) hn1 (in_of hd)); have HT1 := Lib.hid (h2 ▸ dyadA_rt 39 (s := []) (t := s) hn1 (in_of hd))
  have HT2 := Lib.hid (h3 ▸ dyadA_rt 40 (s := S1) (t := S2) HT0.out.i2 HT1.out.i2)
  unfold okA at h1 h2 h3 HT0 HT1 HT2
  have HM0 := Lib.hid h1; have HM1 := Lib.hid h2; have HM2 := Lib.hid h3
  obtain ⟨a0, c0, rfl, -⟩ := hs
  obtain ⟨a1, c1, rfl, -⟩ := hd
  clear hn h1 h2 h3 hn1
  go_enter Try.func8, Try.ntmps8
  go_upto_region 1 with fail
  refine gen_worldA (fun W => BoxA w W (.slice a0 s.length c0) (.slice a1 d.length c1)) (BoxA.mk0 _ _ _) ?_
  rintro W hO
  have HO := Lib.hid hO
  clear hO
  go_wp2_with fail
  refine (shown_any _).mono ?_
  rintro e' V0 ⟨rfl, hb⟩
  have HO := Lib.hid (HO.out.next hb)
  clear hb
  go_upto_region 2 with fail
  refine gen_worldA (fun W => BoxA w W (.slice a0 s.length c0) (.slice a1 d.length c1)) HO.out ?_
  rintro V0 hHO
  clear HO
  have HO := Lib.hid hHO
  clear hHO
  go_cut [6, 7] (fun s6 s7 wx => ∃ b0 p0 q0 r0 t0, s6 = .pointer (some ⟨b0, 0, none⟩) ∧ s7 = .int .i64 0 ∧ w.heap.size < b0 ∧ BoxA w wx (.slice a0 s.length c0) (.slice a1 d.length c1) ∧ KeptR wx b0 (.slice p0 S1.length q0) (.slice r0 D1.length t0) S1 D1)
  case first =>
    refine wp_region_Z (S := fun W' => W'.cell? ⟨w.heap.size, 0, none⟩ = some (.slice a0 s.length c0) ∧ W'.cell? ⟨w.heap.size, 1, none⟩ = some (.slice a1 d.length c1)) (z := 9) (by kernel_rfl) ?_
    have hdr : Below V0.heap.size V0 V0.drew := (Below.refl _ _).drew
    have HO := Lib.hid (HO.out.next hdr)
    clear hdr
    generalize V0.drew = Y at HO ⊢
    have hSS : (fun W' : World => W'.cell? ⟨w.heap.size, 0, none⟩ = some (.slice a0 s.length c0) ∧ W'.cell? ⟨w.heap.size, 1, none⟩ = some (.slice a1 d.length c1)) Y := ⟨HO.out.c0, HO.out.c1⟩
    refine wpAnyZ_take (i := 0) (v := ?_) rfl (by kernel_rfl) (by kernel_rfl) (by kernel_rfl) (fun _ _ _ h => h) (by kernel_rfl) (Or.inl ⟨by rfl, ?_⟩) (by assumption) ?_
    rotate_left
    · intro w' hSw
      try dsimp only at hSw
      try obtain ⟨hSw, hSw2⟩ := hSw
      go_simp
      try with_reducible rfl
    show wpAnyZ _ _ _ _ _ _ _ _ (Act.put _ (some 14) _) _
    simp only [Act.put, List.setIfInBounds_toArray, List.set_cons_zero, List.set_cons_succ]
    refine wpAnyZ_take (i := 2) (v := ?_) rfl (by kernel_rfl) (by kernel_rfl) (by kernel_rfl) (fun _ _ _ h => h) (by kernel_rfl) (Or.inl ⟨by rfl, ?_⟩) (by assumption) ?_
    rotate_left
    · intro w' hSw
      try dsimp only at hSw
      try obtain ⟨hSw, hSw2⟩ := hSw
      go_simp
      try with_reducible rfl
    show wpAnyZ _ _ _ _ _ _ _ _ (Act.put _ (some 16) _) _
    simp only [Act.put, List.setIfInBounds_toArray, List.set_cons_zero, List.set_cons_succ]
    clear hSS
    refine wpAnyZ_twoG (i := 1) (j := 7) (by kernel_rfl) rfl rfl (by rfl) (by rfl) (fun K hK => ?_) (fun K hK => ?_)
    · skip
      go_simp
      refine (num_lit Y n HN.out).mono ?_
      rintro e' Y1 ⟨a9, c9, rfl, hd9, hb⟩
      have HO := Lib.hid (HO.out.next hb)
      show K _ Y1
      refine hK.out _ _ (.inr ⟨HO.out.c0, HO.out.c1⟩) ?_
      clear hK hb
      refine wpAnyZ_twoG (i := 3) (j := 7) (by kernel_rfl) rfl rfl (by rfl) (by rfl) (fun K hK => ?_) (fun K hK => ?_)
      · skip
        go_simp
        have hq := pd_any Y1 38 _ _ _ _ [] [n] s d (SlA.nil Y1) hd9 (HS.out.below HO.out.b) (HD.out.below HO.out.b)
        rw [HM0.out] at hq
        refine hq.mono ?_
        rintro e' Y2 ⟨hr, hb⟩
        obtain ⟨p0, q0, r0, t0, rfl, hs0, hd0⟩ := ret_own (S := S1) (D := D1) (E := 0) hr
        have HO := Lib.hid (HO.out.next hb)
        show K _ Y2
        refine hK.out _ _ (.inr ⟨HO.out.c0, HO.out.c1⟩) ?_
        clear hK hb hq hr hd9
        have hSS : (fun W' : World => W'.cell? ⟨w.heap.size, 0, none⟩ = some (.slice a0 s.length c0) ∧ W'.cell? ⟨w.heap.size, 1, none⟩ = some (.slice a1 d.length c1)) Y2 := ⟨HO.out.c0, HO.out.c1⟩
        refine wpAnyZ_take (i := 4) (v := ?_) rfl (by kernel_rfl) (by kernel_rfl) (by kernel_rfl) (fun _ _ _ h => h) (by kernel_rfl) (Or.inl ⟨by rfl, ?_⟩) (by assumption) ?_
        rotate_left
        · intro w' hSw
          try dsimp only at hSw
          try obtain ⟨hSw, hSw2⟩ := hSw
          go_simp
          try with_reducible rfl
        show wpAnyZ _ _ _ _ _ _ _ _ (Act.put _ (some 13) _) _
        simp only [Act.put, List.setIfInBounds_toArray, List.set_cons_zero, List.set_cons_succ]
        refine wpAnyZ_take (i := 5) (v := ?_) rfl (by kernel_rfl) (by kernel_rfl) (by kernel_rfl) (fun _ _ _ h => h) (by kernel_rfl) (Or.inl ⟨by rfl, ?_⟩) (by assumption) ?_
        rotate_left
        · intro w' hSw
          try dsimp only at hSw
          try obtain ⟨hSw, hSw2⟩ := hSw
          go_simp
          try with_reducible rfl
        show wpAnyZ _ _ _ _ _ _ _ _ (Act.put _ (some 18) _) _
        simp only [Act.put, List.setIfInBounds_toArray, List.set_cons_zero, List.set_cons_succ]
        refine wpAnyZ_take (i := 6) (v := ?_) rfl (by kernel_rfl) (by kernel_rfl) (by kernel_rfl) (fun _ _ _ h => h) (by kernel_rfl) (Or.inl ⟨by rfl, ?_⟩) (by assumption) ?_
        rotate_left
        · intro w' hSw
          try dsimp only at hSw
          try obtain ⟨hSw, hSw2⟩ := hSw
          go_simp
          try with_reducible rfl
        show wpAnyZ _ _ _ _ _ _ _ _ (Act.put _ (some 19) _) _
        simp only [Act.put, List.setIfInBounds_toArray, List.set_cons_zero, List.set_cons_succ]
        clear hSS
        refine wpAnyZ_oneG (i := 7) (by kernel_rfl) rfl (by rfl) (fun K hK => ?_)
        go_simp
        obtain ⟨b0, hb0⟩ : ∃ b, Y2.heap.size = b := ⟨_, rfl⟩
        have hba : Below Y2.heap.size Y2 (Y2.alloc (.cells #[.slice none 0 0, .slice none 0 0] 24)) := (Below.refl _ _).alloc (Nat.le_refl _) _
        have hbw := HO.out.lt; rw [hb0] at hbw
        have HO := Lib.hid (HO.out.next hba)
        have HB := Lib.hid (Boxed.new hb0)
        have hs0 := hs0.below hba; have hd0 := hd0.below hba
        rw [hb0]
        refine hK.out _ _ (.inr ⟨HO.out.c0, HO.out.c1⟩) ?_
        clear hK hba hb0
        generalize Y2.alloc (.cells #[.slice none 0 0, .slice none 0 0] 24) = Y3 at *
        have g0 := frozen_of_row Y3 b0 0 _ _ HB.out; have g1 := frozen_of_row Y3 b0 1 _ _ HB.out
        have y0 := cell_of_row Y3 b0 0 _ _ _ HB.out; have y1 := cell_of_row Y3 b0 1 _ _ _ HB.out
        refine wpAnyZ_oneG (i := 8) (by kernel_rfl) rfl (by rfl) (fun K hK => ?_)
        go_simp
        refine hK.out _ _ (.inr (by have h := HO.out.put (v' := .slice p0 S1.length q0) (u' := .slice r0 D1.length t0) hbw; exact ⟨h.c0, h.c1⟩)) ?_
        clear hK y0 y1 g0 g1
        refine wpAnyZ_one (i := 9) (by kernel_rfl) rfl rfl (fun K hK => ?_)
        go_simp
        refine hK.out _ _ (.inl (by omega)) ?_
        clear hK
        refine wpAnyZ_done (by kernel_rfl) ?_ _
        go_wp2_with fail
        go_meet
        exact ⟨b0, p0, q0, r0, t0, rfl, rfl, hbw, HO.out.put hbw, KeptR.put (v' := .slice none 0 0) (u' := .slice none 0 0) (s' := []) (d' := []) HB.out hs0 hd0 HT0.out.i1 HT0.out.i2⟩
      · skip
        go_simp
        obtain ⟨b0, hb0⟩ : ∃ b, Y1.heap.size = b := ⟨_, rfl⟩
        have hba : Below Y1.heap.size Y1 (Y1.alloc (.cells #[.slice none 0 0, .slice none 0 0] 24)) := (Below.refl _ _).alloc (Nat.le_refl _) _
        have hbw := HO.out.lt; rw [hb0] at hbw
        have HO := Lib.hid (HO.out.next hba)
        have HB := Lib.hid (Boxed.new hb0)
        have hd9 := hd9.below hba
        rw [hb0]
        refine hK.out _ _ (.inr ⟨HO.out.c0, HO.out.c1⟩) ?_
        clear hK hba hb0
        generalize Y1.alloc (.cells #[.slice none 0 0, .slice none 0 0] 24) = Y4 at *
        refine wpAnyZ_oneG (i := 3) (by kernel_rfl) rfl (by rfl) (fun K hK => ?_)
        go_simp
        have hq := pd_any Y4 38 _ _ _ _ [] [n] s d (SlA.nil Y4) hd9 (HS.out.below HO.out.b) (HD.out.below HO.out.b)
        rw [HM0.out] at hq
        refine hq.mono ?_
        rintro e' Y5 ⟨hr, hb⟩
        obtain ⟨p0, q0, r0, t0, rfl, hs0, hd0⟩ := ret_own (S := S1) (D := D1) (E := 0) hr
        have HO := Lib.hid (HO.out.next hb)
        have HB := Lib.hid (HB.out.next hb)
        show K _ Y5
        refine hK.out _ _ (.inr ⟨HO.out.c0, HO.out.c1⟩) ?_
        clear hK hb hq hr hd9
        have hSS : (fun W' : World => W'.cell? ⟨w.heap.size, 0, none⟩ = some (.slice a0 s.length c0) ∧ W'.cell? ⟨w.heap.size, 1, none⟩ = some (.slice a1 d.length c1)) Y5 := ⟨HO.out.c0, HO.out.c1⟩
        refine wpAnyZ_take (i := 4) (v := ?_) rfl (by kernel_rfl) (by kernel_rfl) (by kernel_rfl) (fun _ _ _ h => h) (by kernel_rfl) (Or.inl ⟨by rfl, ?_⟩) (by assumption) ?_
        rotate_left
        · intro w' hSw
          try dsimp only at hSw
          try obtain ⟨hSw, hSw2⟩ := hSw
          go_simp
          try with_reducible rfl
        show wpAnyZ _ _ _ _ _ _ _ _ (Act.put _ (some 13) _) _
        simp only [Act.put, List.setIfInBounds_toArray, List.set_cons_zero, List.set_cons_succ]
        refine wpAnyZ_take (i := 5) (v := ?_) rfl (by kernel_rfl) (by kernel_rfl) (by kernel_rfl) (fun _ _ _ h => h) (by kernel_rfl) (Or.inl ⟨by rfl, ?_⟩) (by assumption) ?_
        rotate_left
        · intro w' hSw
          try dsimp only at hSw
          try obtain ⟨hSw, hSw2⟩ := hSw
          go_simp
          try with_reducible rfl
        show wpAnyZ _ _ _ _ _ _ _ _ (Act.put _ (some 18) _) _
        simp only [Act.put, List.setIfInBounds_toArray, List.set_cons_zero, List.set_cons_succ]
        refine wpAnyZ_take (i := 6) (v := ?_) rfl (by kernel_rfl) (by kernel_rfl) (by kernel_rfl) (fun _ _ _ h => h) (by kernel_rfl) (Or.inl ⟨by rfl, ?_⟩) (by assumption) ?_
        rotate_left
        · intro w' hSw
          try dsimp only at hSw
          try obtain ⟨hSw, hSw2⟩ := hSw
          go_simp
          try with_reducible rfl
        show wpAnyZ _ _ _ _ _ _ _ _ (Act.put _ (some 19) _) _
        simp only [Act.put, List.setIfInBounds_toArray, List.set_cons_zero, List.set_cons_succ]
        clear hSS
        have g0 := frozen_of_row Y5 b0 0 _ _ HB.out; have g1 := frozen_of_row Y5 b0 1 _ _ HB.out
        have y0 := cell_of_row Y5 b0 0 _ _ _ HB.out; have y1 := cell_of_row Y5 b0 1 _ _ _ HB.out
        refine wpAnyZ_oneG (i := 8) (by kernel_rfl) rfl (by rfl) (fun K hK => ?_)
        go_simp
        refine hK.out _ _ (.inr (by have h := HO.out.put (v' := .slice p0 S1.length q0) (u' := .slice r0 D1.length t0) hbw; exact ⟨h.c0, h.c1⟩)) ?_
        clear hK y0 y1 g0 g1
        refine wpAnyZ_one (i := 9) (by kernel_rfl) rfl rfl (fun K hK => ?_)
        go_simp
        refine hK.out _ _ (.inl (by omega)) ?_
        clear hK
        refine wpAnyZ_done (by kernel_rfl) ?_ _
        go_wp2_with fail
        go_meet
        exact ⟨b0, p0, q0, r0, t0, rfl, rfl, hbw, HO.out.put hbw, KeptR.put (v' := .slice none 0 0) (u' := .slice none 0 0) (s' := []) (d' := []) HB.out hs0 hd0 HT0.out.i1 HT0.out.i2⟩
    · skip
      go_simp
      obtain ⟨b0, hb0⟩ : ∃ b, Y.heap.size = b := ⟨_, rfl⟩
      have hba : Below Y.heap.size Y (Y.alloc (.cells #[.slice none 0 0, .slice none 0 0] 24)) := (Below.refl _ _).alloc (Nat.le_refl _) _
      have hbw := HO.out.lt; rw [hb0] at hbw
      have HO := Lib.hid (HO.out.next hba)
      have HB := Lib.hid (Boxed.new hb0)
      rw [hb0]
      refine hK.out _ _ (.inr ⟨HO.out.c0, HO.out.c1⟩) ?_
      clear hK hba hb0
      generalize Y.alloc (.cells #[.slice none 0 0, .slice none 0 0] 24) = Y6 at *
      refine wpAnyZ_oneG (i := 1) (by kernel_rfl) rfl (by rfl) (fun K hK => ?_)
      go_simp
      refine (num_lit Y6 n HN.out).mono ?_
      rintro e' Y7 ⟨a9, c9, rfl, hd9, hb⟩
      have HO := Lib.hid (HO.out.next hb)
      have HB := Lib.hid (HB.out.next hb)
      show K _ Y7
      refine hK.out _ _ (.inr ⟨HO.out.c0, HO.out.c1⟩) ?_
      clear hK hb
      refine wpAnyZ_oneG (i := 3) (by kernel_rfl) rfl (by rfl) (fun K hK => ?_)
      go_simp
      have hq := pd_any Y7 38 _ _ _ _ [] [n] s d (SlA.nil Y7) hd9 (HS.out.below HO.out.b) (HD.out.below HO.out.b)
      rw [HM0.out] at hq
      refine hq.mono ?_
      rintro e' Y8 ⟨hr, hb⟩
      obtain ⟨p0, q0, r0, t0, rfl, hs0, hd0⟩ := ret_own (S := S1) (D := D1) (E := 0) hr
      have HO := Lib.hid (HO.out.next hb)
      have HB := Lib.hid (HB.out.next hb)
      show K _ Y8
      refine hK.out _ _ (.inr ⟨HO.out.c0, HO.out.c1⟩) ?_
      clear hK hb hq hr hd9
      have hSS : (fun W' : World => W'.cell? ⟨w.heap.size, 0, none⟩ = some (.slice a0 s.length c0) ∧ W'.cell? ⟨w.heap.size, 1, none⟩ = some (.slice a1 d.length c1)) Y8 := ⟨HO.out.c0, HO.out.c1⟩
      refine wpAnyZ_take (i := 4) (v := ?_) rfl (by kernel_rfl) (by kernel_rfl) (by kernel_rfl) (fun _ _ _ h => h) (by kernel_rfl) (Or.inl ⟨by rfl, ?_⟩) (by assumption) ?_
      rotate_left
      · intro w' hSw
        try dsimp only at hSw
        try obtain ⟨hSw, hSw2⟩ := hSw
        go_simp
        try with_reducible rfl
      show wpAnyZ _ _ _ _ _ _ _ _ (Act.put _ (some 13) _) _
      simp only [Act.put, List.setIfInBounds_toArray, List.set_cons_zero, List.set_cons_succ]
      refine wpAnyZ_take (i := 5) (v := ?_) rfl (by kernel_rfl) (by kernel_rfl) (by kernel_rfl) (fun _ _ _ h => h) (by kernel_rfl) (Or.inl ⟨by rfl, ?_⟩) (by assumption) ?_
      rotate_left
      · intro w' hSw
        try dsimp only at hSw
        try obtain ⟨hSw, hSw2⟩ := hSw
        go_simp
        try with_reducible rfl
      show wpAnyZ _ _ _ _ _ _ _ _ (Act.put _ (some 18) _) _
      simp only [Act.put, List.setIfInBounds_toArray, List.set_cons_zero, List.set_cons_succ]
      refine wpAnyZ_take (i := 6) (v := ?_) rfl (by kernel_rfl) (by kernel_rfl) (by kernel_rfl) (fun _ _ _ h => h) (by kernel_rfl) (Or.inl ⟨by rfl, ?_⟩) (by assumption) ?_
      rotate_left
      · intro w' hSw
        try dsimp only at hSw
        try obtain ⟨hSw, hSw2⟩ := hSw
        go_simp
        try with_reducible rfl
      show wpAnyZ _ _ _ _ _ _ _ _ (Act.put _ (some 19) _) _
      simp only [Act.put, List.setIfInBounds_toArray, List.set_cons_zero, List.set_cons_succ]
      clear hSS
      have g0 := frozen_of_row Y8 b0 0 _ _ HB.out; have g1 := frozen_of_row Y8 b0 1 _ _ HB.out
      have y0 := cell_of_row Y8 b0 0 _ _ _ HB.out; have y1 := cell_of_row Y8 b0 1 _ _ _ HB.out
      refine wpAnyZ_oneG (i := 8) (by kernel_rfl) rfl (by rfl) (fun K hK => ?_)
      go_simp
      refine hK.out _ _ (.inr (by have h := HO.out.put (v' := .slice p0 S1.length q0) (u' := .slice r0 D1.length t0) hbw; exact ⟨h.c0, h.c1⟩)) ?_
      clear hK y0 y1 g0 g1
      refine wpAnyZ_one (i := 9) (by kernel_rfl) rfl rfl (fun K hK => ?_)
      go_simp
      refine hK.out _ _ (.inl (by omega)) ?_
      clear hK
      refine wpAnyZ_done (by kernel_rfl) ?_ _
      go_wp2_with fail
      go_meet
      exact ⟨b0, p0, q0, r0, t0, rfl, rfl, hbw, HO.out.put hbw, KeptR.put (v' := .slice none 0 0) (u' := .slice none 0 0) (s' := []) (d' := []) HB.out hs0 hd0 HT0.out.i1 HT0.out.i2⟩
  case rest =>
    clear HO
    obtain ⟨b0, p0, q0, r0, t0, rfl, rfl, hbw0, hHO, hK0⟩ := hcut
    have HO := Lib.hid hHO
    have K0 := Lib.hid hK0
    clear hHO hK0
    go_upto_region 3 with fail
    refine gen_worldA (fun W => BoxA w W (.slice a0 s.length c0) (.slice a1 d.length c1) ∧ KeptR W b0 (.slice p0 S1.length q0) (.slice r0 D1.length t0) S1 D1) ⟨HO.out, K0.out⟩ ?_
    rintro V1 ⟨hHO, hK0⟩
    clear HO K0
    have HO := Lib.hid hHO
    have K0 := Lib.hid hK0
    clear hHO hK0
    go_cut [8, 9] (fun s8 s9 wx => ∃ b1 p1 q1 r1 t1, s8 = .pointer (some ⟨b1, 0, none⟩) ∧ s9 = .int .i64 0 ∧ w.heap.size < b1 ∧ b0 < b1 ∧ BoxA w wx (.slice a0 s.length c0) (.slice a1 d.length c1) ∧ KeptR wx b0 (.slice p0 S1.length q0) (.slice r0 D1.length t0) S1 D1 ∧ KeptR wx b1 (.slice p1 S2.length q1) (.slice r1 D2.length t1) S2 D2)
    case first =>
      refine wp_region_Z (S := fun W' => W'.cell? ⟨w.heap.size, 0, none⟩ = some (.slice a0 s.length c0) ∧ W'.cell? ⟨w.heap.size, 1, none⟩ = some (.slice a1 d.length c1)) (z := 9) (by kernel_rfl) ?_
      have hdr : Below V1.heap.size V1 V1.drew := (Below.refl _ _).drew
      have HO := Lib.hid (HO.out.next hdr)
      have K0 := Lib.hid (K0.out.next hdr)
      clear hdr
      generalize V1.drew = Y at HO K0 ⊢
      have hSS : (fun W' : World => W'.cell? ⟨w.heap.size, 0, none⟩ = some (.slice a0 s.length c0) ∧ W'.cell? ⟨w.heap.size, 1, none⟩ = some (.slice a1 d.length c1)) Y := ⟨HO.out.c0, HO.out.c1⟩
      refine wpAnyZ_take (i := 0) (v := ?_) rfl (by kernel_rfl) (by kernel_rfl) (by kernel_rfl) (fun _ _ _ h => h) (by kernel_rfl) (Or.inl ⟨by rfl, ?_⟩) (by assumption) ?_
      rotate_left
      · intro w' hSw
        try dsimp only at hSw
        try obtain ⟨hSw, hSw2⟩ := hSw
        go_simp
        try with_reducible rfl
      show wpAnyZ _ _ _ _ _ _ _ _ (Act.put _ (some 21) _) _
      simp only [Act.put, List.setIfInBounds_toArray, List.set_cons_zero, List.set_cons_succ]
      refine wpAnyZ_take (i := 2) (v := ?_) rfl (by kernel_rfl) (by kernel_rfl) (by kernel_rfl) (fun _ _ _ h => h) (by kernel_rfl) (Or.inl ⟨by rfl, ?_⟩) (by assumption) ?_
      rotate_left
      · intro w' hSw
        try dsimp only at hSw
        try obtain ⟨hSw, hSw2⟩ := hSw
        go_simp
        try with_reducible rfl
      show wpAnyZ _ _ _ _ _ _ _ _ (Act.put _ (some 23) _) _
      simp only [Act.put, List.setIfInBounds_toArray, List.set_cons_zero, List.set_cons_succ]
      clear hSS
      refine wpAnyZ_twoG (i := 1) (j := 7) (by kernel_rfl) rfl rfl (by rfl) (by rfl) (fun K hK => ?_) (fun K hK => ?_)
      · skip
        go_simp
        refine (num_lit Y n HN.out).mono ?_
        rintro e' Y1 ⟨a9, c9, rfl, hd9, hb⟩
        have HO := Lib.hid (HO.out.next hb)
        have K0 := Lib.hid (K0.out.next hb)
        show K _ Y1
        refine hK.out _ _ (.inr ⟨HO.out.c0, HO.out.c1⟩) ?_
        clear hK hb
        refine wpAnyZ_twoG (i := 3) (j := 7) (by kernel_rfl) rfl rfl (by rfl) (by rfl) (fun K hK => ?_) (fun K hK => ?_)
        · skip
          go_simp
          have hq := pd_any Y1 39 _ _ _ _ [] [n] s d (SlA.nil Y1) hd9 (HS.out.below HO.out.b) (HD.out.below HO.out.b)
          rw [HM1.out] at hq
          refine hq.mono ?_
          rintro e' Y2 ⟨hr, hb⟩
          obtain ⟨p1, q1, r1, t1, rfl, hs1, hd1⟩ := ret_own (S := S2) (D := D2) (E := 0) hr
          have HO := Lib.hid (HO.out.next hb)
          have K0 := Lib.hid (K0.out.next hb)
          show K _ Y2
          refine hK.out _ _ (.inr ⟨HO.out.c0, HO.out.c1⟩) ?_
          clear hK hb hq hr hd9
          have hSS : (fun W' : World => W'.cell? ⟨w.heap.size, 0, none⟩ = some (.slice a0 s.length c0) ∧ W'.cell? ⟨w.heap.size, 1, none⟩ = some (.slice a1 d.length c1)) Y2 := ⟨HO.out.c0, HO.out.c1⟩
          refine wpAnyZ_take (i := 4) (v := ?_) rfl (by kernel_rfl) (by kernel_rfl) (by kernel_rfl) (fun _ _ _ h => h) (by kernel_rfl) (Or.inl ⟨by rfl, ?_⟩) (by assumption) ?_
          rotate_left
          · intro w' hSw
            try dsimp only at hSw
            try obtain ⟨hSw, hSw2⟩ := hSw
            go_simp
            try with_reducible rfl
          show wpAnyZ _ _ _ _ _ _ _ _ (Act.put _ (some 20) _) _
          simp only [Act.put, List.setIfInBounds_toArray, List.set_cons_zero, List.set_cons_succ]
          refine wpAnyZ_take (i := 5) (v := ?_) rfl (by kernel_rfl) (by kernel_rfl) (by kernel_rfl) (fun _ _ _ h => h) (by kernel_rfl) (Or.inl ⟨by rfl, ?_⟩) (by assumption) ?_
          rotate_left
          · intro w' hSw
            try dsimp only at hSw
            try obtain ⟨hSw, hSw2⟩ := hSw
            go_simp
            try with_reducible rfl
          show wpAnyZ _ _ _ _ _ _ _ _ (Act.put _ (some 25) _) _
          simp only [Act.put, List.setIfInBounds_toArray, List.set_cons_zero, List.set_cons_succ]
          refine wpAnyZ_take (i := 6) (v := ?_) rfl (by kernel_rfl) (by kernel_rfl) (by kernel_rfl) (fun _ _ _ h => h) (by kernel_rfl) (Or.inl ⟨by rfl, ?_⟩) (by assumption) ?_
          rotate_left
          · intro w' hSw
            try dsimp only at hSw
            try obtain ⟨hSw, hSw2⟩ := hSw
            go_simp
            try with_reducible rfl
          show wpAnyZ _ _ _ _ _ _ _ _ (Act.put _ (some 26) _) _
          simp only [Act.put, List.setIfInBounds_toArray, List.set_cons_zero, List.set_cons_succ]
          clear hSS
          refine wpAnyZ_oneG (i := 7) (by kernel_rfl) rfl (by rfl) (fun K hK => ?_)
          go_simp
          obtain ⟨b1, hb1⟩ : ∃ b, Y2.heap.size = b := ⟨_, rfl⟩
          have hba : Below Y2.heap.size Y2 (Y2.alloc (.cells #[.slice none 0 0, .slice none 0 0] 24)) := (Below.refl _ _).alloc (Nat.le_refl _) _
          have hbw := HO.out.lt; rw [hb1] at hbw
          have hbwK0 := K0.out.lt; rw [hb1] at hbwK0
          have HO := Lib.hid (HO.out.next hba)
          have K0 := Lib.hid (K0.out.next hba)
          have HB := Lib.hid (Boxed.new hb1)
          have hs1 := hs1.below hba; have hd1 := hd1.below hba
          rw [hb1]
          refine hK.out _ _ (.inr ⟨HO.out.c0, HO.out.c1⟩) ?_
          clear hK hba hb1
          generalize Y2.alloc (.cells #[.slice none 0 0, .slice none 0 0] 24) = Y3 at *
          have g0 := frozen_of_row Y3 b1 0 _ _ HB.out; have g1 := frozen_of_row Y3 b1 1 _ _ HB.out
          have y0 := cell_of_row Y3 b1 0 _ _ _ HB.out; have y1 := cell_of_row Y3 b1 1 _ _ _ HB.out
          refine wpAnyZ_oneG (i := 8) (by kernel_rfl) rfl (by rfl) (fun K hK => ?_)
          go_simp
          refine hK.out _ _ (.inr (by have h := HO.out.put (v' := .slice p1 S2.length q1) (u' := .slice r1 D2.length t1) hbw; exact ⟨h.c0, h.c1⟩)) ?_
          clear hK y0 y1 g0 g1
          refine wpAnyZ_one (i := 9) (by kernel_rfl) rfl rfl (fun K hK => ?_)
          go_simp
          refine hK.out _ _ (.inl (by omega)) ?_
          clear hK
          refine wpAnyZ_done (by kernel_rfl) ?_ _
          go_wp2_with fail
          go_meet
          exact ⟨b1, p1, q1, r1, t1, rfl, rfl, hbw, hbwK0, HO.out.put hbw, K0.out.other HB.out (by omega), KeptR.put (v' := .slice none 0 0) (u' := .slice none 0 0) (s' := []) (d' := []) HB.out hs1 hd1 HT1.out.i1 HT1.out.i2⟩
        · skip
          go_simp
          obtain ⟨b1, hb1⟩ : ∃ b, Y1.heap.size = b := ⟨_, rfl⟩
          have hba : Below Y1.heap.size Y1 (Y1.alloc (.cells #[.slice none 0 0, .slice none 0 0] 24)) := (Below.refl _ _).alloc (Nat.le_refl _) _
          have hbw := HO.out.lt; rw [hb1] at hbw
          have hbwK0 := K0.out.lt; rw [hb1] at hbwK0
          have HO := Lib.hid (HO.out.next hba)
          have K0 := Lib.hid (K0.out.next hba)
          have HB := Lib.hid (Boxed.new hb1)
          have hd9 := hd9.below hba
          rw [hb1]
          refine hK.out _ _ (.inr ⟨HO.out.c0, HO.out.c1⟩) ?_
          clear hK hba hb1
          generalize Y1.alloc (.cells #[.slice none 0 0, .slice none 0 0] 24) = Y4 at *
          refine wpAnyZ_oneG (i := 3) (by kernel_rfl) rfl (by rfl) (fun K hK => ?_)
          go_simp
          have hq := pd_any Y4 39 _ _ _ _ [] [n] s d (SlA.nil Y4) hd9 (HS.out.below HO.out.b) (HD.out.below HO.out.b)
          rw [HM1.out] at hq
          refine hq.mono ?_
          rintro e' Y5 ⟨hr, hb⟩
          obtain ⟨p1, q1, r1, t1, rfl, hs1, hd1⟩ := ret_own (S := S2) (D := D2) (E := 0) hr
          have HO := Lib.hid (HO.out.next hb)
          have K0 := Lib.hid (K0.out.next hb)
          have HB := Lib.hid (HB.out.next hb)
          show K _ Y5
          refine hK.out _ _ (.inr ⟨HO.out.c0, HO.out.c1⟩) ?_
          clear hK hb hq hr hd9
          have hSS : (fun W' : World => W'.cell? ⟨w.heap.size, 0, none⟩ = some (.slice a0 s.length c0) ∧ W'.cell? ⟨w.heap.size, 1, none⟩ = some (.slice a1 d.length c1)) Y5 := ⟨HO.out.c0, HO.out.c1⟩
          refine wpAnyZ_take (i := 4) (v := ?_) rfl (by kernel_rfl) (by kernel_rfl) (by kernel_rfl) (fun _ _ _ h => h) (by kernel_rfl) (Or.inl ⟨by rfl, ?_⟩) (by assumption) ?_
          rotate_left
          · intro w' hSw
            try dsimp only at hSw
            try obtain ⟨hSw, hSw2⟩ := hSw
            go_simp
            try with_reducible rfl
          show wpAnyZ _ _ _ _ _ _ _ _ (Act.put _ (some 20) _) _
          simp only [Act.put, List.setIfInBounds_toArray, List.set_cons_zero, List.set_cons_succ]
          refine wpAnyZ_take (i := 5) (v := ?_) rfl (by kernel_rfl) (by kernel_rfl) (by kernel_rfl) (fun _ _ _ h => h) (by kernel_rfl) (Or.inl ⟨by rfl, ?_⟩) (by assumption) ?_
          rotate_left
          · intro w' hSw
            try dsimp only at hSw
            try obtain ⟨hSw, hSw2⟩ := hSw
            go_simp
            try with_reducible rfl
          show wpAnyZ _ _ _ _ _ _ _ _ (Act.put _ (some 25) _) _
          simp only [Act.put, List.setIfInBounds_toArray, List.set_cons_zero, List.set_cons_succ]
          refine wpAnyZ_take (i := 6) (v := ?_) rfl (by kernel_rfl) (by kernel_rfl) (by kernel_rfl) (fun _ _ _ h => h) (by kernel_rfl) (Or.inl ⟨by rfl, ?_⟩) (by assumption) ?_
          rotate_left
          · intro w' hSw
            try dsimp only at hSw
            try obtain ⟨hSw, hSw2⟩ := hSw
            go_simp
            try with_reducible rfl
          show wpAnyZ _ _ _ _ _ _ _ _ (Act.put _ (some 26) _) _
          simp only [Act.put, List.setIfInBounds_toArray, List.set_cons_zero, List.set_cons_succ]
          clear hSS
          have g0 := frozen_of_row Y5 b1 0 _ _ HB.out; have g1 := frozen_of_row Y5 b1 1 _ _ HB.out
          have y0 := cell_of_row Y5 b1 0 _ _ _ HB.out; have y1 := cell_of_row Y5 b1 1 _ _ _ HB.out
          refine wpAnyZ_oneG (i := 8) (by kernel_rfl) rfl (by rfl) (fun K hK => ?_)
          go_simp
          refine hK.out _ _ (.inr (by have h := HO.out.put (v' := .slice p1 S2.length q1) (u' := .slice r1 D2.length t1) hbw; exact ⟨h.c0, h.c1⟩)) ?_
          clear hK y0 y1 g0 g1
          refine wpAnyZ_one (i := 9) (by kernel_rfl) rfl rfl (fun K hK => ?_)
          go_simp
          refine hK.out _ _ (.inl (by omega)) ?_
          clear hK
          refine wpAnyZ_done (by kernel_rfl) ?_ _
          go_wp2_with fail
          go_meet
          exact ⟨b1, p1, q1, r1, t1, rfl, rfl, hbw, hbwK0, HO.out.put hbw, K0.out.other HB.out (by omega), KeptR.put (v' := .slice none 0 0) (u' := .slice none 0 0) (s' := []) (d' := []) HB.out hs1 hd1 HT1.out.i1 HT1.out.i2⟩
      · skip
        go_simp
        obtain ⟨b1, hb1⟩ : ∃ b, Y.heap.size = b := ⟨_, rfl⟩
        have hba : Below Y.heap.size Y (Y.alloc (.cells #[.slice none 0 0, .slice none 0 0] 24)) := (Below.refl _ _).alloc (Nat.le_refl _) _
        have hbw := HO.out.lt; rw [hb1] at hbw
        have hbwK0 := K0.out.lt; rw [hb1] at hbwK0
        have HO := Lib.hid (HO.out.next hba)
        have K0 := Lib.hid (K0.out.next hba)
        have HB := Lib.hid (Boxed.new hb1)
        rw [hb1]
        refine hK.out _ _ (.inr ⟨HO.out.c0, HO.out.c1⟩) ?_
        clear hK hba hb1
        generalize Y.alloc (.cells #[.slice none 0 0, .slice none 0 0] 24) = Y6 at *
        refine wpAnyZ_oneG (i := 1) (by kernel_rfl) rfl (by rfl) (fun K hK => ?_)
        go_simp
        refine (num_lit Y6 n HN.out).mono ?_
        rintro e' Y7 ⟨a9, c9, rfl, hd9, hb⟩
        have HO := Lib.hid (HO.out.next hb)
        have K0 := Lib.hid (K0.out.next hb)
        have HB := Lib.hid (HB.out.next hb)
        show K _ Y7
        refine hK.out _ _ (.inr ⟨HO.out.c0, HO.out.c1⟩) ?_
        clear hK hb
        refine wpAnyZ_oneG (i := 3) (by kernel_rfl) rfl (by rfl) (fun K hK => ?_)
        go_simp
        have hq := pd_any Y7 39 _ _ _ _ [] [n] s d (SlA.nil Y7) hd9 (HS.out.below HO.out.b) (HD.out.below HO.out.b)
        rw [HM1.out] at hq
        refine hq.mono ?_
        rintro e' Y8 ⟨hr, hb⟩
        obtain ⟨p1, q1, r1, t1, rfl, hs1, hd1⟩ := ret_own (S := S2) (D := D2) (E := 0) hr
        have HO := Lib.hid (HO.out.next hb)
        have K0 := Lib.hid (K0.out.next hb)
        have HB := Lib.hid (HB.out.next hb)
        show K _ Y8
        refine hK.out _ _ (.inr ⟨HO.out.c0, HO.out.c1⟩) ?_
        clear hK hb hq hr hd9
        have hSS : (fun W' : World => W'.cell? ⟨w.heap.size, 0, none⟩ = some (.slice a0 s.length c0) ∧ W'.cell? ⟨w.heap.size, 1, none⟩ = some (.slice a1 d.length c1)) Y8 := ⟨HO.out.c0, HO.out.c1⟩
        refine wpAnyZ_take (i := 4) (v := ?_) rfl (by kernel_rfl) (by kernel_rfl) (by kernel_rfl) (fun _ _ _ h => h) (by kernel_rfl) (Or.inl ⟨by rfl, ?_⟩) (by assumption) ?_
        rotate_left
        · intro w' hSw
          try dsimp only at hSw
          try obtain ⟨hSw, hSw2⟩ := hSw
          go_simp
          try with_reducible rfl
        show wpAnyZ _ _ _ _ _ _ _ _ (Act.put _ (some 20) _) _
        simp only [Act.put, List.setIfInBounds_toArray, List.set_cons_zero, List.set_cons_succ]
        refine wpAnyZ_take (i := 5) (v := ?_) rfl (by kernel_rfl) (by kernel_rfl) (by kernel_rfl) (fun _ _ _ h => h) (by kernel_rfl) (Or.inl ⟨by rfl, ?_⟩) (by assumption) ?_
        rotate_left
        · intro w' hSw
          try dsimp only at hSw
          try obtain ⟨hSw, hSw2⟩ := hSw
          go_simp
          try with_reducible rfl
        show wpAnyZ _ _ _ _ _ _ _ _ (Act.put _ (some 25) _) _
        simp only [Act.put, List.setIfInBounds_toArray, List.set_cons_zero, List.set_cons_succ]
        refine wpAnyZ_take (i := 6) (v := ?_) rfl (by kernel_rfl) (by kernel_rfl) (by kernel_rfl) (fun _ _ _ h => h) (by kernel_rfl) (Or.inl ⟨by rfl, ?_⟩) (by assumption) ?_
        rotate_left
        · intro w' hSw
          try dsimp only at hSw
          try obtain ⟨hSw, hSw2⟩ := hSw
          go_simp
          try with_reducible rfl
        show wpAnyZ _ _ _ _ _ _ _ _ (Act.put _ (some 26) _) _
        simp only [Act.put, List.setIfInBounds_toArray, List.set_cons_zero, List.set_cons_succ]
        clear hSS
        have g0 := frozen_of_row Y8 b1 0 _ _ HB.out; have g1 := frozen_of_row Y8 b1 1 _ _ HB.out
        have y0 := cell_of_row Y8 b1 0 _ _ _ HB.out; have y1 := cell_of_row Y8 b1 1 _ _ _ HB.out
        refine wpAnyZ_oneG (i := 8) (by kernel_rfl) rfl (by rfl) (fun K hK => ?_)
        go_simp
        refine hK.out _ _ (.inr (by have h := HO.out.put (v' := .slice p1 S2.length q1) (u' := .slice r1 D2.length t1) hbw; exact ⟨h.c0, h.c1⟩)) ?_
        clear hK y0 y1 g0 g1
        refine wpAnyZ_one (i := 9) (by kernel_rfl) rfl rfl (fun K hK => ?_)
        go_simp
        refine hK.out _ _ (.inl (by omega)) ?_
        clear hK
        refine wpAnyZ_done (by kernel_rfl) ?_ _
        go_wp2_with fail
        go_meet
        exact ⟨b1, p1, q1, r1, t1, rfl, rfl, hbw, hbwK0, HO.out.put hbw, K0.out.other HB.out (by omega), KeptR.put (v' := .slice none 0 0) (u' := .slice none 0 0) (s' := []) (d' := []) HB.out hs1 hd1 HT1.out.i1 HT1.out.i2⟩
    case rest =>
      clear HO K0
      obtain ⟨b1, p1, q1, r1, t1, rfl, rfl, hbw1, hbw1K0, hHO, hK0, hK1⟩ := hcut
      have HO := Lib.hid hHO
      have K0 := Lib.hid hK0
      have K1 := Lib.hid hK1
      clear hHO hK0 hK1
      go_upto_region 8 with fail
      refine gen_worldA (fun W => BoxA w W (.slice a0 s.length c0) (.slice a1 d.length c1) ∧ KeptR W b0 (.slice p0 S1.length q0) (.slice r0 D1.length t0) S1 D1 ∧ KeptR W b1 (.slice p1 S2.length q1) (.slice r1 D2.length t1) S2 D2) ⟨HO.out, K0.out, K1.out⟩ ?_
      rintro V8 ⟨hHO, hK0, hK1⟩
      clear HO K0 K1
      have HO := Lib.hid hHO
      have K0 := Lib.hid hK0
      have K1 := Lib.hid hK1
      clear hHO hK0 hK1
      have y0K0 := K0.out.c0; have y1K0 := K0.out.c1
      have y0K1 := K1.out.c0; have y1K1 := K1.out.c1
      have hq := pd_any V8 40 _ _ _ _ _ _ _ _ K0.out.sv K0.out.su K1.out.sv K1.out.su
      rw [HM2.out] at hq
      have HQ := Lib.hid hq
      clear hq
      go_wp2_with fail
      refine HQ.out.mono ?_
      rintro e' X2 ⟨hr, hb⟩
      obtain ⟨p2, q2, r2, t2, rfl, hs2, hd2⟩ := ret_own (S := s) (D := d) (E := 0) hr
      obtain ⟨b2, hb2⟩ : ∃ b, X2.heap.size = b := ⟨_, rfl⟩
      have hba : Below X2.heap.size X2 (X2.alloc (.cells #[.slice p2 s.length q2, .slice r2 d.length t2] 24)) := (Below.refl _ _).alloc (Nat.le_refl _) _
      have hbc := bNext hba hb
      have HO := Lib.hid (HO.out.next hbc)
      have K0 := Lib.hid (K0.out.next hbc)
      have K1 := Lib.hid (K1.out.next hbc)
      have K2 := Lib.hid (KeptR.new (b := b2) hb2 hs2 hd2 HT2.out.i1 HT2.out.i2)
      clear hr hs2 hd2 hb hba hbc HQ y0K0 y1K0 y0K1 y1K1
      go_upto_region 9 with fail
      refine gen_worldA (fun W => BoxA w W (.slice a0 s.length c0) (.slice a1 d.length c1) ∧ KeptR W b0 (.slice p0 S1.length q0) (.slice r0 D1.length t0) S1 D1 ∧ KeptR W b1 (.slice p1 S2.length q1) (.slice r1 D2.length t1) S2 D2 ∧ KeptR W b2 (.slice p2 s.length q2) (.slice r2 d.length t2) s d) ⟨HO.out, K0.out, K1.out, K2.out⟩ ?_
      rintro V9 ⟨hHO, hK0, hK1, hK2⟩
      clear HO K0 K1 K2
      have HO := Lib.hid hHO
      have K0 := Lib.hid hK0
      have K1 := Lib.hid hK1
      have K2 := Lib.hid hK2
      clear hHO hK0 hK1 hK2
      have x0 := HO.out.c0; have x1 := HO.out.c1
      have y0K2 := K2.out.c0; have y1K2 := K2.out.c1
      have HQ := Lib.hid (same_is K2.out.sv K2.out.su (HS.out.below HO.out.b) (HD.out.below HO.out.b))
      go_wp2_with fail
      refine HQ.out.mono ?_
      rintro e' Z ⟨rfl, hb⟩
      have HO := Lib.hid (HO.out.next hb)
      clear HQ hb
      go_wp2_with fail
      go_ret
      exact ⟨rfl, HO.out.b⟩
set_option maxHeartbeats 8000000 in
theorem PrimParts_neg (w : World) (n : Int) (va vb : Value) (s d : List Int) (hn : In64 n) (hs : SlA w va s) (hd : SlA w vb d) (hneg : decide (n < 0) = true) (S1 D1 S2 D2 : List Int) (h1 : dyadA 38 [] [n] s d = okA S1 D1) (h2 : dyadA 39 [] [n] s d = okA S2 D2)
    (h3 : dyadA 40 S2 D2 S1 D1 = okA s d) :
    Calls Try.prog 8 #[.int .i64 n, .agg #[va, vb]] w fun e w' => e = .returned (.bool true) ∧ Below w.heap.size w w' := by
  have HS := Lib.hid hs; have HD := Lib.hid hd; have HN := Lib.hid hn
  have hn1 : ∀ x ∈ [n], In64 x := fun x hx => by rw [List.mem_singleton.1 hx]; exact hn
  have HT0 := Lib.hid (h1 ▸ dyadA_rt 38 (s := []) (t := s) hn1 (in_of hd)); have HT1 := Lib.hid (h2 ▸ dyadA_rt 39 (s := []) (t := s) hn1 (in_of hd))
  have HT2 := Lib.hid (h3 ▸ dyadA_rt 40 (s := S2) (t := S1) HT1.out.i2 HT0.out.i2)
  unfold okA at h1 h2 h3 HT0 HT1 HT2
  have HM0 := Lib.hid h1; have HM1 := Lib.hid h2; have HM2 := Lib.hid h3
  obtain ⟨a0, c0, rfl, -⟩ := hs
  obtain ⟨a1, c1, rfl, -⟩ := hd
  clear hn h1 h2 h3 hn1
  go_enter Try.func8, Try.ntmps8
  go_upto_region 1 with fail
  refine gen_worldA (fun W => BoxA w W (.slice a0 s.length c0) (.slice a1 d.length c1)) (BoxA.mk0 _ _ _) ?_
  rintro W hO
  have HO := Lib.hid hO
  clear hO
  go_wp2_with fail
  refine (shown_any _).mono ?_
  rintro e' V0 ⟨rfl, hb⟩
  have HO := Lib.hid (HO.out.next hb)
  clear hb
  go_upto_region 2 with fail
  refine gen_worldA (fun W => BoxA w W (.slice a0 s.length c0) (.slice a1 d.length c1)) HO.out ?_
  rintro V0 hHO
  clear HO
  have HO := Lib.hid hHO
  clear hHO
  go_cut [6, 7] (fun s6 s7 wx => ∃ b0 p0 q0 r0 t0, s6 = .pointer (some ⟨b0, 0, none⟩) ∧ s7 = .int .i64 0 ∧ w.heap.size < b0 ∧ BoxA w wx (.slice a0 s.length c0) (.slice a1 d.length c1) ∧ KeptR wx b0 (.slice p0 S1.length q0) (.slice r0 D1.length t0) S1 D1)
  case first =>
    refine wp_region_Z (S := fun W' => W'.cell? ⟨w.heap.size, 0, none⟩ = some (.slice a0 s.length c0) ∧ W'.cell? ⟨w.heap.size, 1, none⟩ = some (.slice a1 d.length c1)) (z := 9) (by kernel_rfl) ?_
    have hdr : Below V0.heap.size V0 V0.drew := (Below.refl _ _).drew
    have HO := Lib.hid (HO.out.next hdr)
    clear hdr
    generalize V0.drew = Y at HO ⊢
    have hSS : (fun W' : World => W'.cell? ⟨w.heap.size, 0, none⟩ = some (.slice a0 s.length c0) ∧ W'.cell? ⟨w.heap.size, 1, none⟩ = some (.slice a1 d.length c1)) Y := ⟨HO.out.c0, HO.out.c1⟩
    refine wpAnyZ_take (i := 0) (v := ?_) rfl (by kernel_rfl) (by kernel_rfl) (by kernel_rfl) (fun _ _ _ h => h) (by kernel_rfl) (Or.inl ⟨by rfl, ?_⟩) (by assumption) ?_
    rotate_left
    · intro w' hSw
      try dsimp only at hSw
      try obtain ⟨hSw, hSw2⟩ := hSw
      go_simp
      try with_reducible rfl
    show wpAnyZ _ _ _ _ _ _ _ _ (Act.put _ (some 14) _) _
    simp only [Act.put, List.setIfInBounds_toArray, List.set_cons_zero, List.set_cons_succ]
    refine wpAnyZ_take (i := 2) (v := ?_) rfl (by kernel_rfl) (by kernel_rfl) (by kernel_rfl) (fun _ _ _ h => h) (by kernel_rfl) (Or.inl ⟨by rfl, ?_⟩) (by assumption) ?_
    rotate_left
    · intro w' hSw
      try dsimp only at hSw
      try obtain ⟨hSw, hSw2⟩ := hSw
      go_simp
      try with_reducible rfl
    show wpAnyZ _ _ _ _ _ _ _ _ (Act.put _ (some 16) _) _
    simp only [Act.put, List.setIfInBounds_toArray, List.set_cons_zero, List.set_cons_succ]
    clear hSS
    refine wpAnyZ_twoG (i := 1) (j := 7) (by kernel_rfl) rfl rfl (by rfl) (by rfl) (fun K hK => ?_) (fun K hK => ?_)
    · skip
      go_simp
      refine (num_lit Y n HN.out).mono ?_
      rintro e' Y1 ⟨a9, c9, rfl, hd9, hb⟩
      have HO := Lib.hid (HO.out.next hb)
      show K _ Y1
      refine hK.out _ _ (.inr ⟨HO.out.c0, HO.out.c1⟩) ?_
      clear hK hb
      refine wpAnyZ_twoG (i := 3) (j := 7) (by kernel_rfl) rfl rfl (by rfl) (by rfl) (fun K hK => ?_) (fun K hK => ?_)
      · skip
        go_simp
        have hq := pd_any Y1 38 _ _ _ _ [] [n] s d (SlA.nil Y1) hd9 (HS.out.below HO.out.b) (HD.out.below HO.out.b)
        rw [HM0.out] at hq
        refine hq.mono ?_
        rintro e' Y2 ⟨hr, hb⟩
        obtain ⟨p0, q0, r0, t0, rfl, hs0, hd0⟩ := ret_own (S := S1) (D := D1) (E := 0) hr
        have HO := Lib.hid (HO.out.next hb)
        show K _ Y2
        refine hK.out _ _ (.inr ⟨HO.out.c0, HO.out.c1⟩) ?_
        clear hK hb hq hr hd9
        have hSS : (fun W' : World => W'.cell? ⟨w.heap.size, 0, none⟩ = some (.slice a0 s.length c0) ∧ W'.cell? ⟨w.heap.size, 1, none⟩ = some (.slice a1 d.length c1)) Y2 := ⟨HO.out.c0, HO.out.c1⟩
        refine wpAnyZ_take (i := 4) (v := ?_) rfl (by kernel_rfl) (by kernel_rfl) (by kernel_rfl) (fun _ _ _ h => h) (by kernel_rfl) (Or.inl ⟨by rfl, ?_⟩) (by assumption) ?_
        rotate_left
        · intro w' hSw
          try dsimp only at hSw
          try obtain ⟨hSw, hSw2⟩ := hSw
          go_simp
          try with_reducible rfl
        show wpAnyZ _ _ _ _ _ _ _ _ (Act.put _ (some 13) _) _
        simp only [Act.put, List.setIfInBounds_toArray, List.set_cons_zero, List.set_cons_succ]
        refine wpAnyZ_take (i := 5) (v := ?_) rfl (by kernel_rfl) (by kernel_rfl) (by kernel_rfl) (fun _ _ _ h => h) (by kernel_rfl) (Or.inl ⟨by rfl, ?_⟩) (by assumption) ?_
        rotate_left
        · intro w' hSw
          try dsimp only at hSw
          try obtain ⟨hSw, hSw2⟩ := hSw
          go_simp
          try with_reducible rfl
        show wpAnyZ _ _ _ _ _ _ _ _ (Act.put _ (some 18) _) _
        simp only [Act.put, List.setIfInBounds_toArray, List.set_cons_zero, List.set_cons_succ]
        refine wpAnyZ_take (i := 6) (v := ?_) rfl (by kernel_rfl) (by kernel_rfl) (by kernel_rfl) (fun _ _ _ h => h) (by kernel_rfl) (Or.inl ⟨by rfl, ?_⟩) (by assumption) ?_
        rotate_left
        · intro w' hSw
          try dsimp only at hSw
          try obtain ⟨hSw, hSw2⟩ := hSw
          go_simp
          try with_reducible rfl
        show wpAnyZ _ _ _ _ _ _ _ _ (Act.put _ (some 19) _) _
        simp only [Act.put, List.setIfInBounds_toArray, List.set_cons_zero, List.set_cons_succ]
        clear hSS
        refine wpAnyZ_oneG (i := 7) (by kernel_rfl) rfl (by rfl) (fun K hK => ?_)
        go_simp
        obtain ⟨b0, hb0⟩ : ∃ b, Y2.heap.size = b := ⟨_, rfl⟩
        have hba : Below Y2.heap.size Y2 (Y2.alloc (.cells #[.slice none 0 0, .slice none 0 0] 24)) := (Below.refl _ _).alloc (Nat.le_refl _) _
        have hbw := HO.out.lt; rw [hb0] at hbw
        have HO := Lib.hid (HO.out.next hba)
        have HB := Lib.hid (Boxed.new hb0)
        have hs0 := hs0.below hba; have hd0 := hd0.below hba
        rw [hb0]
        refine hK.out _ _ (.inr ⟨HO.out.c0, HO.out.c1⟩) ?_
        clear hK hba hb0
        generalize Y2.alloc (.cells #[.slice none 0 0, .slice none 0 0] 24) = Y3 at *
        have g0 := frozen_of_row Y3 b0 0 _ _ HB.out; have g1 := frozen_of_row Y3 b0 1 _ _ HB.out
        have y0 := cell_of_row Y3 b0 0 _ _ _ HB.out; have y1 := cell_of_row Y3 b0 1 _ _ _ HB.out
        refine wpAnyZ_oneG (i := 8) (by kernel_rfl) rfl (by rfl) (fun K hK => ?_)
        go_simp
        refine hK.out _ _ (.inr (by have h := HO.out.put (v' := .slice p0 S1.length q0) (u' := .slice r0 D1.length t0) hbw; exact ⟨h.c0, h.c1⟩)) ?_
        clear hK y0 y1 g0 g1
        refine wpAnyZ_one (i := 9) (by kernel_rfl) rfl rfl (fun K hK => ?_)
        go_simp
        refine hK.out _ _ (.inl (by omega)) ?_
        clear hK
        refine wpAnyZ_done (by kernel_rfl) ?_ _
        go_wp2_with fail
        go_meet
        exact ⟨b0, p0, q0, r0, t0, rfl, rfl, hbw, HO.out.put hbw, KeptR.put (v' := .slice none 0 0) (u' := .slice none 0 0) (s' := []) (d' := []) HB.out hs0 hd0 HT0.out.i1 HT0.out.i2⟩
      · skip
        go_simp
        obtain ⟨b0, hb0⟩ : ∃ b, Y1.heap.size = b := ⟨_, rfl⟩
        have hba : Below Y1.heap.size Y1 (Y1.alloc (.cells #[.slice none 0 0, .slice none 0 0] 24)) := (Below.refl _ _).alloc (Nat.le_refl _) _
        have hbw := HO.out.lt; rw [hb0] at hbw
        have HO := Lib.hid (HO.out.next hba)
        have HB := Lib.hid (Boxed.new hb0)
        have hd9 := hd9.below hba
        rw [hb0]
        refine hK.out _ _ (.inr ⟨HO.out.c0, HO.out.c1⟩) ?_
        clear hK hba hb0
        generalize Y1.alloc (.cells #[.slice none 0 0, .slice none 0 0] 24) = Y4 at *
        refine wpAnyZ_oneG (i := 3) (by kernel_rfl) rfl (by rfl) (fun K hK => ?_)
        go_simp
        have hq := pd_any Y4 38 _ _ _ _ [] [n] s d (SlA.nil Y4) hd9 (HS.out.below HO.out.b) (HD.out.below HO.out.b)
        rw [HM0.out] at hq
        refine hq.mono ?_
        rintro e' Y5 ⟨hr, hb⟩
        obtain ⟨p0, q0, r0, t0, rfl, hs0, hd0⟩ := ret_own (S := S1) (D := D1) (E := 0) hr
        have HO := Lib.hid (HO.out.next hb)
        have HB := Lib.hid (HB.out.next hb)
        show K _ Y5
        refine hK.out _ _ (.inr ⟨HO.out.c0, HO.out.c1⟩) ?_
        clear hK hb hq hr hd9
        have hSS : (fun W' : World => W'.cell? ⟨w.heap.size, 0, none⟩ = some (.slice a0 s.length c0) ∧ W'.cell? ⟨w.heap.size, 1, none⟩ = some (.slice a1 d.length c1)) Y5 := ⟨HO.out.c0, HO.out.c1⟩
        refine wpAnyZ_take (i := 4) (v := ?_) rfl (by kernel_rfl) (by kernel_rfl) (by kernel_rfl) (fun _ _ _ h => h) (by kernel_rfl) (Or.inl ⟨by rfl, ?_⟩) (by assumption) ?_
        rotate_left
        · intro w' hSw
          try dsimp only at hSw
          try obtain ⟨hSw, hSw2⟩ := hSw
          go_simp
          try with_reducible rfl
        show wpAnyZ _ _ _ _ _ _ _ _ (Act.put _ (some 13) _) _
        simp only [Act.put, List.setIfInBounds_toArray, List.set_cons_zero, List.set_cons_succ]
        refine wpAnyZ_take (i := 5) (v := ?_) rfl (by kernel_rfl) (by kernel_rfl) (by kernel_rfl) (fun _ _ _ h => h) (by kernel_rfl) (Or.inl ⟨by rfl, ?_⟩) (by assumption) ?_
        rotate_left
        · intro w' hSw
          try dsimp only at hSw
          try obtain ⟨hSw, hSw2⟩ := hSw
          go_simp
          try with_reducible rfl
        show wpAnyZ _ _ _ _ _ _ _ _ (Act.put _ (some 18) _) _
        simp only [Act.put, List.setIfInBounds_toArray, List.set_cons_zero, List.set_cons_succ]
        refine wpAnyZ_take (i := 6) (v := ?_) rfl (by kernel_rfl) (by kernel_rfl) (by kernel_rfl) (fun _ _ _ h => h) (by kernel_rfl) (Or.inl ⟨by rfl, ?_⟩) (by assumption) ?_
        rotate_left
        · intro w' hSw
          try dsimp only at hSw
          try obtain ⟨hSw, hSw2⟩ := hSw
          go_simp
          try with_reducible rfl
        show wpAnyZ _ _ _ _ _ _ _ _ (Act.put _ (some 19) _) _
        simp only [Act.put, List.setIfInBounds_toArray, List.set_cons_zero, List.set_cons_succ]
        clear hSS
        have g0 := frozen_of_row Y5 b0 0 _ _ HB.out; have g1 := frozen_of_row Y5 b0 1 _ _ HB.out
        have y0 := cell_of_row Y5 b0 0 _ _ _ HB.out; have y1 := cell_of_row Y5 b0 1 _ _ _ HB.out
        refine wpAnyZ_oneG (i := 8) (by kernel_rfl) rfl (by rfl) (fun K hK => ?_)
        go_simp
        refine hK.out _ _ (.inr (by have h := HO.out.put (v' := .slice p0 S1.length q0) (u' := .slice r0 D1.length t0) hbw; exact ⟨h.c0, h.c1⟩)) ?_
        clear hK y0 y1 g0 g1
        refine wpAnyZ_one (i := 9) (by kernel_rfl) rfl rfl (fun K hK => ?_)
        go_simp
        refine hK.out _ _ (.inl (by omega)) ?_
        clear hK
        refine wpAnyZ_done (by kernel_rfl) ?_ _
        go_wp2_with fail
        go_meet
        exact ⟨b0, p0, q0, r0, t0, rfl, rfl, hbw, HO.out.put hbw, KeptR.put (v' := .slice none 0 0) (u' := .slice none 0 0) (s' := []) (d' := []) HB.out hs0 hd0 HT0.out.i1 HT0.out.i2⟩
    · skip
      go_simp
      obtain ⟨b0, hb0⟩ : ∃ b, Y.heap.size = b := ⟨_, rfl⟩
      have hba : Below Y.heap.size Y (Y.alloc (.cells #[.slice none 0 0, .slice none 0 0] 24)) := (Below.refl _ _).alloc (Nat.le_refl _) _
      have hbw := HO.out.lt; rw [hb0] at hbw
      have HO := Lib.hid (HO.out.next hba)
      have HB := Lib.hid (Boxed.new hb0)
      rw [hb0]
      refine hK.out _ _ (.inr ⟨HO.out.c0, HO.out.c1⟩) ?_
      clear hK hba hb0
      generalize Y.alloc (.cells #[.slice none 0 0, .slice none 0 0] 24) = Y6 at *
      refine wpAnyZ_oneG (i := 1) (by kernel_rfl) rfl (by rfl) (fun K hK => ?_)
      go_simp
      refine (num_lit Y6 n HN.out).mono ?_
      rintro e' Y7 ⟨a9, c9, rfl, hd9, hb⟩
      have HO := Lib.hid (HO.out.next hb)
      have HB := Lib.hid (HB.out.next hb)
      show K _ Y7
      refine hK.out _ _ (.inr ⟨HO.out.c0, HO.out.c1⟩) ?_
      clear hK hb
      refine wpAnyZ_oneG (i := 3) (by kernel_rfl) rfl (by rfl) (fun K hK => ?_)
      go_simp
      have hq := pd_any Y7 38 _ _ _ _ [] [n] s d (SlA.nil Y7) hd9 (HS.out.below HO.out.b) (HD.out.below HO.out.b)
      rw [HM0.out] at hq
      refine hq.mono ?_
      rintro e' Y8 ⟨hr, hb⟩
      obtain ⟨p0, q0, r0, t0, rfl, hs0, hd0⟩ := ret_own (S := S1) (D := D1) (E := 0) hr
      have HO := Lib.hid (HO.out.next hb)
      have HB := Lib.hid (HB.out.next hb)
      show K _ Y8
      refine hK.out _ _ (.inr ⟨HO.out.c0, HO.out.c1⟩) ?_
      clear hK hb hq hr hd9
      have hSS : (fun W' : World => W'.cell? ⟨w.heap.size, 0, none⟩ = some (.slice a0 s.length c0) ∧ W'.cell? ⟨w.heap.size, 1, none⟩ = some (.slice a1 d.length c1)) Y8 := ⟨HO.out.c0, HO.out.c1⟩
      refine wpAnyZ_take (i := 4) (v := ?_) rfl (by kernel_rfl) (by kernel_rfl) (by kernel_rfl) (fun _ _ _ h => h) (by kernel_rfl) (Or.inl ⟨by rfl, ?_⟩) (by assumption) ?_
      rotate_left
      · intro w' hSw
        try dsimp only at hSw
        try obtain ⟨hSw, hSw2⟩ := hSw
        go_simp
        try with_reducible rfl
      show wpAnyZ _ _ _ _ _ _ _ _ (Act.put _ (some 13) _) _
      simp only [Act.put, List.setIfInBounds_toArray, List.set_cons_zero, List.set_cons_succ]
      refine wpAnyZ_take (i := 5) (v := ?_) rfl (by kernel_rfl) (by kernel_rfl) (by kernel_rfl) (fun _ _ _ h => h) (by kernel_rfl) (Or.inl ⟨by rfl, ?_⟩) (by assumption) ?_
      rotate_left
      · intro w' hSw
        try dsimp only at hSw
        try obtain ⟨hSw, hSw2⟩ := hSw
        go_simp
        try with_reducible rfl
      show wpAnyZ _ _ _ _ _ _ _ _ (Act.put _ (some 18) _) _
      simp only [Act.put, List.setIfInBounds_toArray, List.set_cons_zero, List.set_cons_succ]
      refine wpAnyZ_take (i := 6) (v := ?_) rfl (by kernel_rfl) (by kernel_rfl) (by kernel_rfl) (fun _ _ _ h => h) (by kernel_rfl) (Or.inl ⟨by rfl, ?_⟩) (by assumption) ?_
      rotate_left
      · intro w' hSw
        try dsimp only at hSw
        try obtain ⟨hSw, hSw2⟩ := hSw
        go_simp
        try with_reducible rfl
      show wpAnyZ _ _ _ _ _ _ _ _ (Act.put _ (some 19) _) _
      simp only [Act.put, List.setIfInBounds_toArray, List.set_cons_zero, List.set_cons_succ]
      clear hSS
      have g0 := frozen_of_row Y8 b0 0 _ _ HB.out; have g1 := frozen_of_row Y8 b0 1 _ _ HB.out
      have y0 := cell_of_row Y8 b0 0 _ _ _ HB.out; have y1 := cell_of_row Y8 b0 1 _ _ _ HB.out
      refine wpAnyZ_oneG (i := 8) (by kernel_rfl) rfl (by rfl) (fun K hK => ?_)
      go_simp
      refine hK.out _ _ (.inr (by have h := HO.out.put (v' := .slice p0 S1.length q0) (u' := .slice r0 D1.length t0) hbw; exact ⟨h.c0, h.c1⟩)) ?_
      clear hK y0 y1 g0 g1
      refine wpAnyZ_one (i := 9) (by kernel_rfl) rfl rfl (fun K hK => ?_)
      go_simp
      refine hK.out _ _ (.inl (by omega)) ?_
      clear hK
      refine wpAnyZ_done (by kernel_rfl) ?_ _
      go_wp2_with fail
      go_meet
      exact ⟨b0, p0, q0, r0, t0, rfl, rfl, hbw, HO.out.put hbw, KeptR.put (v' := .slice none 0 0) (u' := .slice none 0 0) (s' := []) (d' := []) HB.out hs0 hd0 HT0.out.i1 HT0.out.i2⟩
  case rest =>
    clear HO
    obtain ⟨b0, p0, q0, r0, t0, rfl, rfl, hbw0, hHO, hK0⟩ := hcut
    have HO := Lib.hid hHO
    have K0 := Lib.hid hK0
    clear hHO hK0
    go_upto_region 3 with fail
    refine gen_worldA (fun W => BoxA w W (.slice a0 s.length c0) (.slice a1 d.length c1) ∧ KeptR W b0 (.slice p0 S1.length q0) (.slice r0 D1.length t0) S1 D1) ⟨HO.out, K0.out⟩ ?_
    rintro V1 ⟨hHO, hK0⟩
    clear HO K0
    have HO := Lib.hid hHO
    have K0 := Lib.hid hK0
    clear hHO hK0
    go_cut [8, 9] (fun s8 s9 wx => ∃ b1 p1 q1 r1 t1, s8 = .pointer (some ⟨b1, 0, none⟩) ∧ s9 = .int .i64 0 ∧ w.heap.size < b1 ∧ b0 < b1 ∧ BoxA w wx (.slice a0 s.length c0) (.slice a1 d.length c1) ∧ KeptR wx b0 (.slice p0 S1.length q0) (.slice r0 D1.length t0) S1 D1 ∧ KeptR wx b1 (.slice p1 S2.length q1) (.slice r1 D2.length t1) S2 D2)
    case first =>
      refine wp_region_Z (S := fun W' => W'.cell? ⟨w.heap.size, 0, none⟩ = some (.slice a0 s.length c0) ∧ W'.cell? ⟨w.heap.size, 1, none⟩ = some (.slice a1 d.length c1)) (z := 9) (by kernel_rfl) ?_
      have hdr : Below V1.heap.size V1 V1.drew := (Below.refl _ _).drew
      have HO := Lib.hid (HO.out.next hdr)
      have K0 := Lib.hid (K0.out.next hdr)
      clear hdr
      generalize V1.drew = Y at HO K0 ⊢
      have hSS : (fun W' : World => W'.cell? ⟨w.heap.size, 0, none⟩ = some (.slice a0 s.length c0) ∧ W'.cell? ⟨w.heap.size, 1, none⟩ = some (.slice a1 d.length c1)) Y := ⟨HO.out.c0, HO.out.c1⟩
      refine wpAnyZ_take (i := 0) (v := ?_) rfl (by kernel_rfl) (by kernel_rfl) (by kernel_rfl) (fun _ _ _ h => h) (by kernel_rfl) (Or.inl ⟨by rfl, ?_⟩) (by assumption) ?_
      rotate_left
      · intro w' hSw
        try dsimp only at hSw
        try obtain ⟨hSw, hSw2⟩ := hSw
        go_simp
        try with_reducible rfl
      show wpAnyZ _ _ _ _ _ _ _ _ (Act.put _ (some 21) _) _
      simp only [Act.put, List.setIfInBounds_toArray, List.set_cons_zero, List.set_cons_succ]
      refine wpAnyZ_take (i := 2) (v := ?_) rfl (by kernel_rfl) (by kernel_rfl) (by kernel_rfl) (fun _ _ _ h => h) (by kernel_rfl) (Or.inl ⟨by rfl, ?_⟩) (by assumption) ?_
      rotate_left
      · intro w' hSw
        try dsimp only at hSw
        try obtain ⟨hSw, hSw2⟩ := hSw
        go_simp
        try with_reducible rfl
      show wpAnyZ _ _ _ _ _ _ _ _ (Act.put _ (some 23) _) _
      simp only [Act.put, List.setIfInBounds_toArray, List.set_cons_zero, List.set_cons_succ]
      clear hSS
      refine wpAnyZ_twoG (i := 1) (j := 7) (by kernel_rfl) rfl rfl (by rfl) (by rfl) (fun K hK => ?_) (fun K hK => ?_)
      · skip
        go_simp
        refine (num_lit Y n HN.out).mono ?_
        rintro e' Y1 ⟨a9, c9, rfl, hd9, hb⟩
        have HO := Lib.hid (HO.out.next hb)
        have K0 := Lib.hid (K0.out.next hb)
        show K _ Y1
        refine hK.out _ _ (.inr ⟨HO.out.c0, HO.out.c1⟩) ?_
        clear hK hb
        refine wpAnyZ_twoG (i := 3) (j := 7) (by kernel_rfl) rfl rfl (by rfl) (by rfl) (fun K hK => ?_) (fun K hK => ?_)
        · skip
          go_simp
          have hq := pd_any Y1 39 _ _ _ _ [] [n] s d (SlA.nil Y1) hd9 (HS.out.below HO.out.b) (HD.out.below HO.out.b)
          rw [HM1.out] at hq
          refine hq.mono ?_
          rintro e' Y2 ⟨hr, hb⟩
          obtain ⟨p1, q1, r1, t1, rfl, hs1, hd1⟩ := ret_own (S := S2) (D := D2) (E := 0) hr
          have HO := Lib.hid (HO.out.next hb)
          have K0 := Lib.hid (K0.out.next hb)
          show K _ Y2
          refine hK.out _ _ (.inr ⟨HO.out.c0, HO.out.c1⟩) ?_
          clear hK hb hq hr hd9
          have hSS : (fun W' : World => W'.cell? ⟨w.heap.size, 0, none⟩ = some (.slice a0 s.length c0) ∧ W'.cell? ⟨w.heap.size, 1, none⟩ = some (.slice a1 d.length c1)) Y2 := ⟨HO.out.c0, HO.out.c1⟩
          refine wpAnyZ_take (i := 4) (v := ?_) rfl (by kernel_rfl) (by kernel_rfl) (by kernel_rfl) (fun _ _ _ h => h) (by kernel_rfl) (Or.inl ⟨by rfl, ?_⟩) (by assumption) ?_
          rotate_left
          · intro w' hSw
            try dsimp only at hSw
            try obtain ⟨hSw, hSw2⟩ := hSw
            go_simp
            try with_reducible rfl
          show wpAnyZ _ _ _ _ _ _ _ _ (Act.put _ (some 20) _) _
          simp only [Act.put, List.setIfInBounds_toArray, List.set_cons_zero, List.set_cons_succ]
          refine wpAnyZ_take (i := 5) (v := ?_) rfl (by kernel_rfl) (by kernel_rfl) (by kernel_rfl) (fun _ _ _ h => h) (by kernel_rfl) (Or.inl ⟨by rfl, ?_⟩) (by assumption) ?_
          rotate_left
          · intro w' hSw
            try dsimp only at hSw
            try obtain ⟨hSw, hSw2⟩ := hSw
            go_simp
            try with_reducible rfl
          show wpAnyZ _ _ _ _ _ _ _ _ (Act.put _ (some 25) _) _
          simp only [Act.put, List.setIfInBounds_toArray, List.set_cons_zero, List.set_cons_succ]
          refine wpAnyZ_take (i := 6) (v := ?_) rfl (by kernel_rfl) (by kernel_rfl) (by kernel_rfl) (fun _ _ _ h => h) (by kernel_rfl) (Or.inl ⟨by rfl, ?_⟩) (by assumption) ?_
          rotate_left
          · intro w' hSw
            try dsimp only at hSw
            try obtain ⟨hSw, hSw2⟩ := hSw
            go_simp
            try with_reducible rfl
          show wpAnyZ _ _ _ _ _ _ _ _ (Act.put _ (some 26) _) _
          simp only [Act.put, List.setIfInBounds_toArray, List.set_cons_zero, List.set_cons_succ]
          clear hSS
          refine wpAnyZ_oneG (i := 7) (by kernel_rfl) rfl (by rfl) (fun K hK => ?_)
          go_simp
          obtain ⟨b1, hb1⟩ : ∃ b, Y2.heap.size = b := ⟨_, rfl⟩
          have hba : Below Y2.heap.size Y2 (Y2.alloc (.cells #[.slice none 0 0, .slice none 0 0] 24)) := (Below.refl _ _).alloc (Nat.le_refl _) _
          have hbw := HO.out.lt; rw [hb1] at hbw
          have hbwK0 := K0.out.lt; rw [hb1] at hbwK0
          have HO := Lib.hid (HO.out.next hba)
          have K0 := Lib.hid (K0.out.next hba)
          have HB := Lib.hid (Boxed.new hb1)
          have hs1 := hs1.below hba; have hd1 := hd1.below hba
          rw [hb1]
          refine hK.out _ _ (.inr ⟨HO.out.c0, HO.out.c1⟩) ?_
          clear hK hba hb1
          generalize Y2.alloc (.cells #[.slice none 0 0, .slice none 0 0] 24) = Y3 at *
          have g0 := frozen_of_row Y3 b1 0 _ _ HB.out; have g1 := frozen_of_row Y3 b1 1 _ _ HB.out
          have y0 := cell_of_row Y3 b1 0 _ _ _ HB.out; have y1 := cell_of_row Y3 b1 1 _ _ _ HB.out
          refine wpAnyZ_oneG (i := 8) (by kernel_rfl) rfl (by rfl) (fun K hK => ?_)
          go_simp
          refine hK.out _ _ (.inr (by have h := HO.out.put (v' := .slice p1 S2.length q1) (u' := .slice r1 D2.length t1) hbw; exact ⟨h.c0, h.c1⟩)) ?_
          clear hK y0 y1 g0 g1
          refine wpAnyZ_one (i := 9) (by kernel_rfl) rfl rfl (fun K hK => ?_)
          go_simp
          refine hK.out _ _ (.inl (by omega)) ?_
          clear hK
          refine wpAnyZ_done (by kernel_rfl) ?_ _
          go_wp2_with fail
          go_meet
          exact ⟨b1, p1, q1, r1, t1, rfl, rfl, hbw, hbwK0, HO.out.put hbw, K0.out.other HB.out (by omega), KeptR.put (v' := .slice none 0 0) (u' := .slice none 0 0) (s' := []) (d' := []) HB.out hs1 hd1 HT1.out.i1 HT1.out.i2⟩
        · skip
          go_simp
          obtain ⟨b1, hb1⟩ : ∃ b, Y1.heap.size = b := ⟨_, rfl⟩
          have hba : Below Y1.heap.size Y1 (Y1.alloc (.cells #[.slice none 0 0, .slice none 0 0] 24)) := (Below.refl _ _).alloc (Nat.le_refl _) _
          have hbw := HO.out.lt; rw [hb1] at hbw
          have hbwK0 := K0.out.lt; rw [hb1] at hbwK0
          have HO := Lib.hid (HO.out.next hba)
          have K0 := Lib.hid (K0.out.next hba)
          have HB := Lib.hid (Boxed.new hb1)
          have hd9 := hd9.below hba
          rw [hb1]
          refine hK.out _ _ (.inr ⟨HO.out.c0, HO.out.c1⟩) ?_
          clear hK hba hb1
          generalize Y1.alloc (.cells #[.slice none 0 0, .slice none 0 0] 24) = Y4 at *
          refine wpAnyZ_oneG (i := 3) (by kernel_rfl) rfl (by rfl) (fun K hK => ?_)
          go_simp
          have hq := pd_any Y4 39 _ _ _ _ [] [n] s d (SlA.nil Y4) hd9 (HS.out.below HO.out.b) (HD.out.below HO.out.b)
          rw [HM1.out] at hq
          refine hq.mono ?_
          rintro e' Y5 ⟨hr, hb⟩
          obtain ⟨p1, q1, r1, t1, rfl, hs1, hd1⟩ := ret_own (S := S2) (D := D2) (E := 0) hr
          have HO := Lib.hid (HO.out.next hb)
          have K0 := Lib.hid (K0.out.next hb)
          have HB := Lib.hid (HB.out.next hb)
          show K _ Y5
          refine hK.out _ _ (.inr ⟨HO.out.c0, HO.out.c1⟩) ?_
          clear hK hb hq hr hd9
          have hSS : (fun W' : World => W'.cell? ⟨w.heap.size, 0, none⟩ = some (.slice a0 s.length c0) ∧ W'.cell? ⟨w.heap.size, 1, none⟩ = some (.slice a1 d.length c1)) Y5 := ⟨HO.out.c0, HO.out.c1⟩
          refine wpAnyZ_take (i := 4) (v := ?_) rfl (by kernel_rfl) (by kernel_rfl) (by kernel_rfl) (fun _ _ _ h => h) (by kernel_rfl) (Or.inl ⟨by rfl, ?_⟩) (by assumption) ?_
          rotate_left
          · intro w' hSw
            try dsimp only at hSw
            try obtain ⟨hSw, hSw2⟩ := hSw
            go_simp
            try with_reducible rfl
          show wpAnyZ _ _ _ _ _ _ _ _ (Act.put _ (some 20) _) _
          simp only [Act.put, List.setIfInBounds_toArray, List.set_cons_zero, List.set_cons_succ]
          refine wpAnyZ_take (i := 5) (v := ?_) rfl (by kernel_rfl) (by kernel_rfl) (by kernel_rfl) (fun _ _ _ h => h) (by kernel_rfl) (Or.inl ⟨by rfl, ?_⟩) (by assumption) ?_
          rotate_left
          · intro w' hSw
            try dsimp only at hSw
            try obtain ⟨hSw, hSw2⟩ := hSw
            go_simp
            try with_reducible rfl
          show wpAnyZ _ _ _ _ _ _ _ _ (Act.put _ (some 25) _) _
          simp only [Act.put, List.setIfInBounds_toArray, List.set_cons_zero, List.set_cons_succ]
          refine wpAnyZ_take (i := 6) (v := ?_) rfl (by kernel_rfl) (by kernel_rfl) (by kernel_rfl) (fun _ _ _ h => h) (by kernel_rfl) (Or.inl ⟨by rfl, ?_⟩) (by assumption) ?_
          rotate_left
          · intro w' hSw
            try dsimp only at hSw
            try obtain ⟨hSw, hSw2⟩ := hSw
            go_simp
            try with_reducible rfl
          show wpAnyZ _ _ _ _ _ _ _ _ (Act.put _ (some 26) _) _
          simp only [Act.put, List.setIfInBounds_toArray, List.set_cons_zero, List.set_cons_succ]
          clear hSS
          have g0 := frozen_of_row Y5 b1 0 _ _ HB.out; have g1 := frozen_of_row Y5 b1 1 _ _ HB.out
          have y0 := cell_of_row Y5 b1 0 _ _ _ HB.out; have y1 := cell_of_row Y5 b1 1 _ _ _ HB.out
          refine wpAnyZ_oneG (i := 8) (by kernel_rfl) rfl (by rfl) (fun K hK => ?_)
          go_simp
          refine hK.out _ _ (.inr (by have h := HO.out.put (v' := .slice p1 S2.length q1) (u' := .slice r1 D2.length t1) hbw; exact ⟨h.c0, h.c1⟩)) ?_
          clear hK y0 y1 g0 g1
          refine wpAnyZ_one (i := 9) (by kernel_rfl) rfl rfl (fun K hK => ?_)
          go_simp
          refine hK.out _ _ (.inl (by omega)) ?_
          clear hK
          refine wpAnyZ_done (by kernel_rfl) ?_ _
          go_wp2_with fail
          go_meet
          exact ⟨b1, p1, q1, r1, t1, rfl, rfl, hbw, hbwK0, HO.out.put hbw, K0.out.other HB.out (by omega), KeptR.put (v' := .slice none 0 0) (u' := .slice none 0 0) (s' := []) (d' := []) HB.out hs1 hd1 HT1.out.i1 HT1.out.i2⟩
      · skip
        go_simp
        obtain ⟨b1, hb1⟩ : ∃ b, Y.heap.size = b := ⟨_, rfl⟩
        have hba : Below Y.heap.size Y (Y.alloc (.cells #[.slice none 0 0, .slice none 0 0] 24)) := (Below.refl _ _).alloc (Nat.le_refl _) _
        have hbw := HO.out.lt; rw [hb1] at hbw
        have hbwK0 := K0.out.lt; rw [hb1] at hbwK0
        have HO := Lib.hid (HO.out.next hba)
        have K0 := Lib.hid (K0.out.next hba)
        have HB := Lib.hid (Boxed.new hb1)
        rw [hb1]
        refine hK.out _ _ (.inr ⟨HO.out.c0, HO.out.c1⟩) ?_
        clear hK hba hb1
        generalize Y.alloc (.cells #[.slice none 0 0, .slice none 0 0] 24) = Y6 at *
        refine wpAnyZ_oneG (i := 1) (by kernel_rfl) rfl (by rfl) (fun K hK => ?_)
        go_simp
        refine (num_lit Y6 n HN.out).mono ?_
        rintro e' Y7 ⟨a9, c9, rfl, hd9, hb⟩
        have HO := Lib.hid (HO.out.next hb)
        have K0 := Lib.hid (K0.out.next hb)
        have HB := Lib.hid (HB.out.next hb)
        show K _ Y7
        refine hK.out _ _ (.inr ⟨HO.out.c0, HO.out.c1⟩) ?_
        clear hK hb
        refine wpAnyZ_oneG (i := 3) (by kernel_rfl) rfl (by rfl) (fun K hK => ?_)
        go_simp
        have hq := pd_any Y7 39 _ _ _ _ [] [n] s d (SlA.nil Y7) hd9 (HS.out.below HO.out.b) (HD.out.below HO.out.b)
        rw [HM1.out] at hq
        refine hq.mono ?_
        rintro e' Y8 ⟨hr, hb⟩
        obtain ⟨p1, q1, r1, t1, rfl, hs1, hd1⟩ := ret_own (S := S2) (D := D2) (E := 0) hr
        have HO := Lib.hid (HO.out.next hb)
        have K0 := Lib.hid (K0.out.next hb)
        have HB := Lib.hid (HB.out.next hb)
        show K _ Y8
        refine hK.out _ _ (.inr ⟨HO.out.c0, HO.out.c1⟩) ?_
        clear hK hb hq hr hd9
        have hSS : (fun W' : World => W'.cell? ⟨w.heap.size, 0, none⟩ = some (.slice a0 s.length c0) ∧ W'.cell? ⟨w.heap.size, 1, none⟩ = some (.slice a1 d.length c1)) Y8 := ⟨HO.out.c0, HO.out.c1⟩
        refine wpAnyZ_take (i := 4) (v := ?_) rfl (by kernel_rfl) (by kernel_rfl) (by kernel_rfl) (fun _ _ _ h => h) (by kernel_rfl) (Or.inl ⟨by rfl, ?_⟩) (by assumption) ?_
        rotate_left
        · intro w' hSw
          try dsimp only at hSw
          try obtain ⟨hSw, hSw2⟩ := hSw
          go_simp
          try with_reducible rfl
        show wpAnyZ _ _ _ _ _ _ _ _ (Act.put _ (some 20) _) _
        simp only [Act.put, List.setIfInBounds_toArray, List.set_cons_zero, List.set_cons_succ]
        refine wpAnyZ_take (i := 5) (v := ?_) rfl (by kernel_rfl) (by kernel_rfl) (by kernel_rfl) (fun _ _ _ h => h) (by kernel_rfl) (Or.inl ⟨by rfl, ?_⟩) (by assumption) ?_
        rotate_left
        · intro w' hSw
          try dsimp only at hSw
          try obtain ⟨hSw, hSw2⟩ := hSw
          go_simp
          try with_reducible rfl
        show wpAnyZ _ _ _ _ _ _ _ _ (Act.put _ (some 25) _) _
        simp only [Act.put, List.setIfInBounds_toArray, List.set_cons_zero, List.set_cons_succ]
        refine wpAnyZ_take (i := 6) (v := ?_) rfl (by kernel_rfl) (by kernel_rfl) (by kernel_rfl) (fun _ _ _ h => h) (by kernel_rfl) (Or.inl ⟨by rfl, ?_⟩) (by assumption) ?_
        rotate_left
        · intro w' hSw
          try dsimp only at hSw
          try obtain ⟨hSw, hSw2⟩ := hSw
          go_simp
          try with_reducible rfl
        show wpAnyZ _ _ _ _ _ _ _ _ (Act.put _ (some 26) _) _
        simp only [Act.put, List.setIfInBounds_toArray, List.set_cons_zero, List.set_cons_succ]
        clear hSS
        have g0 := frozen_of_row Y8 b1 0 _ _ HB.out; have g1 := frozen_of_row Y8 b1 1 _ _ HB.out
        have y0 := cell_of_row Y8 b1 0 _ _ _ HB.out; have y1 := cell_of_row Y8 b1 1 _ _ _ HB.out
        refine wpAnyZ_oneG (i := 8) (by kernel_rfl) rfl (by rfl) (fun K hK => ?_)
        go_simp
        refine hK.out _ _ (.inr (by have h := HO.out.put (v' := .slice p1 S2.length q1) (u' := .slice r1 D2.length t1) hbw; exact ⟨h.c0, h.c1⟩)) ?_
        clear hK y0 y1 g0 g1
        refine wpAnyZ_one (i := 9) (by kernel_rfl) rfl rfl (fun K hK => ?_)
        go_simp
        refine hK.out _ _ (.inl (by omega)) ?_
        clear hK
        refine wpAnyZ_done (by kernel_rfl) ?_ _
        go_wp2_with fail
        go_meet
        exact ⟨b1, p1, q1, r1, t1, rfl, rfl, hbw, hbwK0, HO.out.put hbw, K0.out.other HB.out (by omega), KeptR.put (v' := .slice none 0 0) (u' := .slice none 0 0) (s' := []) (d' := []) HB.out hs1 hd1 HT1.out.i1 HT1.out.i2⟩
    case rest =>
      clear HO K0
      obtain ⟨b1, p1, q1, r1, t1, rfl, rfl, hbw1, hbw1K0, hHO, hK0, hK1⟩ := hcut
      have HO := Lib.hid hHO
      have K0 := Lib.hid hK0
      have K1 := Lib.hid hK1
      clear hHO hK0 hK1
      have y0K0 := K0.out.c0; have y1K0 := K0.out.c1
      have y0K1 := K1.out.c0; have y1K1 := K1.out.c1
      have g00 := K0.out.f0 0; have g01 := K0.out.f0 1
      have g10 := K1.out.f0 0; have g11 := K1.out.f0 1
      go_upto_region 8 with fail
      have hne : b0 ≠ b1 := by omega
      have k1a := K1.out.other (v' := .slice p1 S2.length q1) (u' := .slice r1 D2.length t1) K0.out.bx hne
      have k0a := KeptR.put (v' := .slice none 0 0) (u' := .slice none 0 0) (s' := []) (d' := []) K0.out.bx K1.out.rv K1.out.ru K1.out.i1 K1.out.i2
      have rv := own_keep K0.out.rv (keep_box K0.out.bx (.slice p1 S2.length q1) (.slice r1 D2.length t1)); have ru := own_keep K0.out.ru (keep_box K0.out.bx (.slice p1 S2.length q1) (.slice r1 D2.length t1))
      have k1b := KeptR.put (v' := .slice none 0 0) (u' := .slice none 0 0) (s' := []) (d' := []) k1a.bx rv ru K0.out.i1 K0.out.i2
      have k0b := k0a.other (v' := .slice p0 S1.length q0) (u' := .slice r0 D1.length t0) k1a.bx (fun e => hne e.symm)
      have hob := (HO.out.put (v' := .slice p1 S2.length q1) (u' := .slice r1 D2.length t1) hbw0).put (v' := .slice p0 S1.length q0) (u' := .slice r0 D1.length t0) hbw1
      refine gen_worldA (fun W => BoxA w W (.slice a0 s.length c0) (.slice a1 d.length c1) ∧ KeptR W b0 (.slice p1 S2.length q1) (.slice r1 D2.length t1) S2 D2 ∧ KeptR W b1 (.slice p0 S1.length q0) (.slice r0 D1.length t0) S1 D1) ⟨hob, k0b, k1b⟩ ?_
      clear HO K0 K1 k1a k0a rv ru k1b k0b hob y0K0 y1K0 y0K1 y1K1 g00 g01 g10 g11
      rintro V8 ⟨hHO, hK0, hK1⟩
      have HO := Lib.hid hHO; have K0 := Lib.hid hK0; have K1 := Lib.hid hK1
      clear hHO hK0 hK1
      have y0K0 := K0.out.c0; have y1K0 := K0.out.c1
      have y0K1 := K1.out.c0; have y1K1 := K1.out.c1
      have hq := pd_any V8 40 _ _ _ _ _ _ _ _ K0.out.sv K0.out.su K1.out.sv K1.out.su
      rw [HM2.out] at hq
      have HQ := Lib.hid hq
      clear hq
      go_wp2_with fail
      refine HQ.out.mono ?_
      rintro e' X2 ⟨hr, hb⟩
      obtain ⟨p2, q2, r2, t2, rfl, hs2, hd2⟩ := ret_own (S := s) (D := d) (E := 0) hr
      obtain ⟨b2, hb2⟩ : ∃ b, X2.heap.size = b := ⟨_, rfl⟩
      have hba : Below X2.heap.size X2 (X2.alloc (.cells #[.slice p2 s.length q2, .slice r2 d.length t2] 24)) := (Below.refl _ _).alloc (Nat.le_refl _) _
      have hbc := bNext hba hb
      have HO := Lib.hid (HO.out.next hbc)
      have K0 := Lib.hid (K0.out.next hbc)
      have K1 := Lib.hid (K1.out.next hbc)
      have K2 := Lib.hid (KeptR.new (b := b2) hb2 hs2 hd2 HT2.out.i1 HT2.out.i2)
      clear hr hs2 hd2 hb hba hbc HQ y0K0 y1K0 y0K1 y1K1
      go_upto_region 9 with fail
      refine gen_worldA (fun W => BoxA w W (.slice a0 s.length c0) (.slice a1 d.length c1) ∧ KeptR W b0 (.slice p1 S2.length q1) (.slice r1 D2.length t1) S2 D2 ∧ KeptR W b1 (.slice p0 S1.length q0) (.slice r0 D1.length t0) S1 D1 ∧ KeptR W b2 (.slice p2 s.length q2) (.slice r2 d.length t2) s d) ⟨HO.out, K0.out, K1.out, K2.out⟩ ?_
      rintro V9 ⟨hHO, hK0, hK1, hK2⟩
      clear HO K0 K1 K2
      have HO := Lib.hid hHO
      have K0 := Lib.hid hK0
      have K1 := Lib.hid hK1
      have K2 := Lib.hid hK2
      clear hHO hK0 hK1 hK2
      have x0 := HO.out.c0; have x1 := HO.out.c1
      have y0K2 := K2.out.c0; have y1K2 := K2.out.c1
      have HQ := Lib.hid (same_is K2.out.sv K2.out.su (HS.out.below HO.out.b) (HD.out.below HO.out.b))
      go_wp2_with fail
      refine HQ.out.mono ?_
      rintro e' Z ⟨rfl, hb⟩
      have HO := Lib.hid (HO.out.next hb)
      clear HQ hb
      go_wp2_with fail
      go_ret
      exact ⟨rfl, HO.out.b⟩
theorem PrimParts_walk (w : World) (n : Int) (va vb : Value) (s d : List Int) (hn : (Lit.int .i64 n).wf = true) (hs : SlA w va s) (hd : SlA w vb d) :
    Calls Try.prog 8 #[.int .i64 n, .agg #[va, vb]] w fun e w' => e = .returned (.bool true) ∧ Below w.heap.size w w' := by
  have hn := in64_of_wf hn
  cases hr : right s d with
  | false => exact PrimParts_no w n va vb s d hn hs hd 60 (by decide) (dy_bad2 38 hr) (dy_bad2 39 hr)
  | true =>
    rcases take_same_err (n := n) hr with ⟨e, he, h1, h2⟩ | ⟨A, c, m, hA, hm, hl, hc, hd1, h1, h2⟩
    · exact PrimParts_no w n va vb s d hn hs hd e he (by rw [dy_take hr, h1]) (by rw [dy_drop hr, h2])
    · have h3 := cat_parts hr hA hm hl hc hd1
      cases hneg : decide (n < 0) with
      | true =>
        rw [hneg] at h1 h2
        exact PrimParts_neg w n va vb s d hn hs hd hneg _ _ _ _ (by rw [dy_take hr]; exact h2) (by rw [dy_drop hr]; exact h1) h3
      | false =>
        rw [hneg] at h1 h2
        exact PrimParts_pos w n va vb s d hn hs hd hneg _ _ _ _ (by rw [dy_take hr]; exact h1) (by rw [dy_drop hr]; exact h2) h3

set_option maxRecDepth 100000 in
theorem PrimParts_lifted (os : Os) (started : os.Started) (H : Type) (enc : TypeId × Value → H) :
    ReturnsInHanded {} Try.checked os 8 .any (Rows.primPartsSpec.pre6 enc Try.prog Try.f8 Rows.primPartsRow.domain false) (Rows.primPartsSpec.post enc Try.prog Try.f8 false true false false) := by
  refine returnsInHanded_of_change (C := Try.checked) own started (by kernel_rfl) Try.func8
    (ChangeSpec.witness6 (enc := enc) (C := Try.checked) false ⟨#[], #[.int .i64 0, .agg #[.slice none 0 0, .slice none 0 0]], []⟩ 8 (by kernel_rfl) (by kernel_rfl) (by kernel_rfl) (by kernel_rfl)) ?_
  intro W base args ds gs before hval0 hW hcnd _
  have hval : ∀ (j : Nat) t v, Try.f8.params[j]? = some t → args[j]? = some v → Value.okWide Try.prog W .any base t v := hval0
  have hW' := hW
  obtain ⟨p, q, hA0, hV, rfl, hfz, hnd⟩ := hW
  have hA : DataW.TrodAll enc Try.prog W 0 (fun _ => true) true Try.f8.params.toList args.toList ds p := hA0
  rw [Try.params8] at hA hval
  obtain ⟨v0, vs0, d0, ds0, p0, q0, hargs, rfl, rfl, h0, r0⟩ := trodAll_cons hA
  obtain ⟨v1, vs1, d1, ds1, p1, q1, rfl, rfl, rfl, h1, r1⟩ := trodAll_cons r0
  obtain ⟨rfl, rfl, rfl⟩ := trodAll_nil r1
  obtain rfl : args = #[v0, v1] := by cases args; simp_all
  obtain ⟨rfl, rfl⟩ := trodVars_none hV
  obtain ⟨a0, rfl, rfl, rfl, w0⟩ := open_int Try.underlying2 (hval 0 2 v0 rfl rfl) h0
  have k1 := h1
  have lt1 : ∀ x ∈ p1, x.block < W.heap.size := by obtain ⟨m, hm⟩ := k1; exact DataW.trod_lt m _ _ _ hm
  obtain ⟨xs1, ys1, va1, vb1, rfl, s1, u1⟩ := open_arrA (hval 1 24 v1 rfl rfl) h1
  clear hA0 hval0
  refine (PrimParts_walk W a0 va1 vb1 xs1 ys1 w0 s1 u1).mono fun e W' ⟨he, bel⟩ => ?_
  subst he
  exact ⟨_, rfl, _, _, _, [], _, [], hW', trodAll_mk1 (shut_bool Try.underlying4 _), (trodAll_cons_mk (shut_int Try.underlying2 w0) (trodAll_cons_mk (Below.trod laidOut (by kernel_rfl) (of_decide_eq_true (by kernel_rfl)) k1 bel lt1) trodAll_mk0)), rfl, bel.frame _, fun h => by cases h⟩

/-- The given statement. -/
theorem PrimParts_holds : Rows.PrimPartsSaid :=
  OpenClaim.holds_of_wide 8 Try.f8 rfl rfl rfl rfl rfl rfl rfl ⟨rfl, rfl, rfl, rfl, rfl⟩ rfl rfl rfl rfl rfl (by kernel_rfl) Try.func8 (by kernel_rfl)
    (of_decide_eq_true (by kernel_rfl)) (by unfold Func.isWrapper; rw [if_neg (by decide +kernel)]; exact ⟨rfl, rfl⟩)
    (fun os started H enc _ => PrimParts_lifted os started H enc)
#print axioms PrimParts_holds
end Go.Proofs.Ytmjkncmpanhgjaa
