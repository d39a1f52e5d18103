/-
  PrimOuterOne: the law returns true for every input, and what was handed in reads as it did. No condition.
-/
import Derived.Test.YtmjkncmpanhgjaaBX
namespace Go.Proofs.Ytmjkncmpanhgjaa
set_option maxRecDepth 100000
open Go.ChangeShapes Go.WideShapes Go.ChangeAt Go.RowKit Go.Joins
set_option linter.unusedVariables false
set_option linter.unusedSimpArgs false

set_option maxHeartbeats 16000000 in
theorem PrimOuterOne_nof (w : World) (f n : Int) (va vb : Value) (s d : List Int) (hn : In64 n) (hs : SlA w va s) (hd : SlA w vb d) (htk : takes f true = false) (er : Int) (he : er ≠ 0) (h1 : outerA f [] [n] s d = noA er) (h2 : outerA f s d [] [n] = noA er) :
    Calls Try.prog 10 #[.int .u8 f, .int .i64 n, .agg #[va, vb]] w fun e w' => e = .returned (.bool true) ∧ Below w.heap.size w w' := by
  have HS := Lib.hid hs; have HD := Lib.hid hd; have HN := Lib.hid hn
  have HT := Lib.hid (Rt.noA he)
  have hee : (er != 0) = true := by simpa using he
  have heq : (er == er) = true := by simp
  unfold noA at h1 h2 HT
  have HM0 := Lib.hid h1; have HM1 := Lib.hid h2
  have HK := Lib.hid (fun W => takes_at W f true false htk)
  obtain ⟨a0, c0, rfl, -⟩ := hs
  obtain ⟨a1, c1, rfl, -⟩ := hd
  clear hn h1 h2 he htk
  go_enter Try.func10, Try.ntmps10
  go_upto_region 1 with fail
  refine gen_worldA (fun W => BoxA w W (.slice a0 s.length c0) (.slice a1 d.length c1)) (BoxA.mk0 _ _ _) ?_
  rintro W hO
  have HO := Lib.hid hO
  clear hO
  go_wp2_with fail
  refine (shown_any _).mono ?_
  rintro e' V0 ⟨rfl, hb⟩
  have HO := Lib.hid (HO.out.next hb)
  clear hb
  go_upto_region 2 with fail
  refine gen_worldA (fun W => BoxA w W (.slice a0 s.length c0) (.slice a1 d.length c1)) HO.out ?_
  rintro V0 hHO
  clear HO
  have HO := Lib.hid hHO
  clear hHO
  go_cut [8, 9] (fun s8 s9 wx => ∃ b0 p0 q0 r0 t0, s8 = .pointer (some ⟨b0, 0, none⟩) ∧ s9 = .int .i64 er ∧ w.heap.size < b0 ∧ BoxA w wx (.slice a0 s.length c0) (.slice a1 d.length c1) ∧ KeptR wx b0 (.slice p0 0 q0) (.slice r0 0 t0) [] [])
  case first =>
    refine wp_region_Z (S := fun W' => W'.cell? ⟨w.heap.size, 0, none⟩ = some (.slice a0 s.length c0) ∧ W'.cell? ⟨w.heap.size, 1, none⟩ = some (.slice a1 d.length c1)) (z := 10) (by kernel_rfl) ?_
    have hdr : Below V0.heap.size V0 V0.drew := (Below.refl _ _).drew
    have HO := Lib.hid (HO.out.next hdr)
    clear hdr
    generalize V0.drew = Y at HO ⊢
    have hSS : (fun W' : World => W'.cell? ⟨w.heap.size, 0, none⟩ = some (.slice a0 s.length c0) ∧ W'.cell? ⟨w.heap.size, 1, none⟩ = some (.slice a1 d.length c1)) Y := ⟨HO.out.c0, HO.out.c1⟩
    refine wpAnyZ_take (i := 0) (v := ?_) rfl (by kernel_rfl) (by kernel_rfl) (by kernel_rfl) (fun _ _ _ h => h) (by kernel_rfl) (Or.inl ⟨by rfl, ?_⟩) (by assumption) ?_
    rotate_left
    · intro w' hSw
      try dsimp only at hSw
      try obtain ⟨hSw, hSw2⟩ := hSw
      go_simp
      try with_reducible rfl
    show wpAnyZ _ _ _ _ _ _ _ _ (Act.put _ (some 18) _) _
    simp only [Act.put, List.setIfInBounds_toArray, List.set_cons_zero, List.set_cons_succ]
    refine wpAnyZ_take (i := 1) (v := ?_) rfl (by kernel_rfl) (by kernel_rfl) (by kernel_rfl) (fun _ _ _ h => h) (by kernel_rfl) (Or.inl ⟨by rfl, ?_⟩) (by assumption) ?_
    rotate_left
    · intro w' hSw
      try dsimp only at hSw
      try obtain ⟨hSw, hSw2⟩ := hSw
      go_simp
      try with_reducible rfl
    show wpAnyZ _ _ _ _ _ _ _ _ (Act.put _ (some 19) _) _
    simp only [Act.put, List.setIfInBounds_toArray, List.set_cons_zero, List.set_cons_succ]
    refine wpAnyZ_take (i := 3) (v := ?_) rfl (by kernel_rfl) (by kernel_rfl) (by kernel_rfl) (fun _ _ _ h => h) (by kernel_rfl) (Or.inl ⟨by rfl, ?_⟩) (by assumption) ?_
    rotate_left
    · intro w' hSw
      try dsimp only at hSw
      try obtain ⟨hSw, hSw2⟩ := hSw
      go_simp
      try with_reducible rfl
    show wpAnyZ _ _ _ _ _ _ _ _ (Act.put _ (some 21) _) _
    simp only [Act.put, List.setIfInBounds_toArray, List.set_cons_zero, List.set_cons_succ]
    clear hSS
    refine wpAnyZ_twoG (i := 2) (j := 8) (by kernel_rfl) rfl rfl (by rfl) (by rfl) (fun K hK => ?_) (fun K hK => ?_)
    · skip
      go_simp
      refine (num_lit Y n HN.out).mono ?_
      rintro e' Y1 ⟨a9, c9, rfl, hd9, hb⟩
      have HO := Lib.hid (HO.out.next hb)
      show K _ Y1
      refine hK.out _ _ (.inr ⟨HO.out.c0, HO.out.c1⟩) ?_
      clear hK hb
      refine wpAnyZ_twoG (i := 4) (j := 8) (by kernel_rfl) rfl rfl (by rfl) (by rfl) (fun K hK => ?_) (fun K hK => ?_)
      · skip
        go_simp
        have hq := po_any Y1 f _ _ _ _ [] [n] s d (SlA.nil Y1) hd9 (HS.out.below HO.out.b) (HD.out.below HO.out.b)
        rw [HM0.out] at hq
        refine hq.mono ?_
        rintro e' Y2 ⟨hr, hb⟩
        obtain ⟨p0, q0, r0, t0, rfl, hs0, hd0⟩ := ret_own (S := []) (D := []) (E := er) hr
        have HO := Lib.hid (HO.out.next hb)
        show K _ Y2
        refine hK.out _ _ (.inr ⟨HO.out.c0, HO.out.c1⟩) ?_
        clear hK hb hq hr hd9
        have hSS : (fun W' : World => W'.cell? ⟨w.heap.size, 0, none⟩ = some (.slice a0 s.length c0) ∧ W'.cell? ⟨w.heap.size, 1, none⟩ = some (.slice a1 d.length c1)) Y2 := ⟨HO.out.c0, HO.out.c1⟩
        refine wpAnyZ_take (i := 5) (v := ?_) rfl (by kernel_rfl) (by kernel_rfl) (by kernel_rfl) (fun _ _ _ h => h) (by kernel_rfl) (Or.inl ⟨by rfl, ?_⟩) (by assumption) ?_
        rotate_left
        · intro w' hSw
          try dsimp only at hSw
          try obtain ⟨hSw, hSw2⟩ := hSw
          go_simp
          try with_reducible rfl
        show wpAnyZ _ _ _ _ _ _ _ _ (Act.put _ (some 17) _) _
        simp only [Act.put, List.setIfInBounds_toArray, List.set_cons_zero, List.set_cons_succ]
        refine wpAnyZ_take (i := 6) (v := ?_) rfl (by kernel_rfl) (by kernel_rfl) (by kernel_rfl) (fun _ _ _ h => h) (by kernel_rfl) (Or.inl ⟨by rfl, ?_⟩) (by assumption) ?_
        rotate_left
        · intro w' hSw
          try dsimp only at hSw
          try obtain ⟨hSw, hSw2⟩ := hSw
          go_simp
          try with_reducible rfl
        show wpAnyZ _ _ _ _ _ _ _ _ (Act.put _ (some 23) _) _
        simp only [Act.put, List.setIfInBounds_toArray, List.set_cons_zero, List.set_cons_succ]
        refine wpAnyZ_take (i := 7) (v := ?_) rfl (by kernel_rfl) (by kernel_rfl) (by kernel_rfl) (fun _ _ _ h => h) (by kernel_rfl) (Or.inl ⟨by rfl, ?_⟩) (by assumption) ?_
        rotate_left
        · intro w' hSw
          try dsimp only at hSw
          try obtain ⟨hSw, hSw2⟩ := hSw
          go_simp
          try with_reducible rfl
        show wpAnyZ _ _ _ _ _ _ _ _ (Act.put _ (some 24) _) _
        simp only [Act.put, List.setIfInBounds_toArray, List.set_cons_zero, List.set_cons_succ]
        clear hSS
        refine wpAnyZ_oneG (i := 8) (by kernel_rfl) rfl (by rfl) (fun K hK => ?_)
        go_simp
        obtain ⟨b0, hb0⟩ : ∃ b, Y2.heap.size = b := ⟨_, rfl⟩
        have hba : Below Y2.heap.size Y2 (Y2.alloc (.cells #[.slice none 0 0, .slice none 0 0] 24)) := (Below.refl _ _).alloc (Nat.le_refl _) _
        have hbw := HO.out.lt; rw [hb0] at hbw
        have HO := Lib.hid (HO.out.next hba)
        have HB := Lib.hid (Boxed.new hb0)
        have hs0 := hs0.below hba; have hd0 := hd0.below hba
        rw [hb0]
        refine hK.out _ _ (.inr ⟨HO.out.c0, HO.out.c1⟩) ?_
        clear hK hba hb0
        generalize Y2.alloc (.cells #[.slice none 0 0, .slice none 0 0] 24) = Y3 at *
        have g0 := frozen_of_row Y3 b0 0 _ _ HB.out; have g1 := frozen_of_row Y3 b0 1 _ _ HB.out
        have y0 := cell_of_row Y3 b0 0 _ _ _ HB.out; have y1 := cell_of_row Y3 b0 1 _ _ _ HB.out
        refine wpAnyZ_oneG (i := 9) (by kernel_rfl) rfl (by rfl) (fun K hK => ?_)
        go_simp
        refine hK.out _ _ (.inr (by have h := HO.out.put (v' := .slice p0 0 q0) (u' := .slice r0 0 t0) hbw; exact ⟨h.c0, h.c1⟩)) ?_
        clear hK y0 y1 g0 g1
        refine wpAnyZ_one (i := 10) (by kernel_rfl) rfl rfl (fun K hK => ?_)
        go_simp
        refine hK.out _ _ (.inl (by omega)) ?_
        clear hK
        refine wpAnyZ_done (by kernel_rfl) ?_ _
        go_wp2_with fail
        go_meet
        exact ⟨b0, p0, q0, r0, t0, rfl, rfl, hbw, HO.out.put hbw, KeptR.put (v' := .slice none 0 0) (u' := .slice none 0 0) (s' := []) (d' := []) HB.out hs0 hd0 HT.out.i1 HT.out.i2⟩
      · skip
        go_simp
        obtain ⟨b0, hb0⟩ : ∃ b, Y1.heap.size = b := ⟨_, rfl⟩
        have hba : Below Y1.heap.size Y1 (Y1.alloc (.cells #[.slice none 0 0, .slice none 0 0] 24)) := (Below.refl _ _).alloc (Nat.le_refl _) _
        have hbw := HO.out.lt; rw [hb0] at hbw
        have HO := Lib.hid (HO.out.next hba)
        have HB := Lib.hid (Boxed.new hb0)
        have hd9 := hd9.below hba
        rw [hb0]
        refine hK.out _ _ (.inr ⟨HO.out.c0, HO.out.c1⟩) ?_
        clear hK hba hb0
        generalize Y1.alloc (.cells #[.slice none 0 0, .slice none 0 0] 24) = Y4 at *
        refine wpAnyZ_oneG (i := 4) (by kernel_rfl) rfl (by rfl) (fun K hK => ?_)
        go_simp
        have hq := po_any Y4 f _ _ _ _ [] [n] s d (SlA.nil Y4) hd9 (HS.out.below HO.out.b) (HD.out.below HO.out.b)
        rw [HM0.out] at hq
        refine hq.mono ?_
        rintro e' Y5 ⟨hr, hb⟩
        obtain ⟨p0, q0, r0, t0, rfl, hs0, hd0⟩ := ret_own (S := []) (D := []) (E := er) hr
        have HO := Lib.hid (HO.out.next hb)
        have HB := Lib.hid (HB.out.next hb)
        show K _ Y5
        refine hK.out _ _ (.inr ⟨HO.out.c0, HO.out.c1⟩) ?_
        clear hK hb hq hr hd9
        have hSS : (fun W' : World => W'.cell? ⟨w.heap.size, 0, none⟩ = some (.slice a0 s.length c0) ∧ W'.cell? ⟨w.heap.size, 1, none⟩ = some (.slice a1 d.length c1)) Y5 := ⟨HO.out.c0, HO.out.c1⟩
        refine wpAnyZ_take (i := 5) (v := ?_) rfl (by kernel_rfl) (by kernel_rfl) (by kernel_rfl) (fun _ _ _ h => h) (by kernel_rfl) (Or.inl ⟨by rfl, ?_⟩) (by assumption) ?_
        rotate_left
        · intro w' hSw
          try dsimp only at hSw
          try obtain ⟨hSw, hSw2⟩ := hSw
          go_simp
          try with_reducible rfl
        show wpAnyZ _ _ _ _ _ _ _ _ (Act.put _ (some 17) _) _
        simp only [Act.put, List.setIfInBounds_toArray, List.set_cons_zero, List.set_cons_succ]
        refine wpAnyZ_take (i := 6) (v := ?_) rfl (by kernel_rfl) (by kernel_rfl) (by kernel_rfl) (fun _ _ _ h => h) (by kernel_rfl) (Or.inl ⟨by rfl, ?_⟩) (by assumption) ?_
        rotate_left
        · intro w' hSw
          try dsimp only at hSw
          try obtain ⟨hSw, hSw2⟩ := hSw
          go_simp
          try with_reducible rfl
        show wpAnyZ _ _ _ _ _ _ _ _ (Act.put _ (some 23) _) _
        simp only [Act.put, List.setIfInBounds_toArray, List.set_cons_zero, List.set_cons_succ]
        refine wpAnyZ_take (i := 7) (v := ?_) rfl (by kernel_rfl) (by kernel_rfl) (by kernel_rfl) (fun _ _ _ h => h) (by kernel_rfl) (Or.inl ⟨by rfl, ?_⟩) (by assumption) ?_
        rotate_left
        · intro w' hSw
          try dsimp only at hSw
          try obtain ⟨hSw, hSw2⟩ := hSw
          go_simp
          try with_reducible rfl
        show wpAnyZ _ _ _ _ _ _ _ _ (Act.put _ (some 24) _) _
        simp only [Act.put, List.setIfInBounds_toArray, List.set_cons_zero, List.set_cons_succ]
        clear hSS
        have g0 := frozen_of_row Y5 b0 0 _ _ HB.out; have g1 := frozen_of_row Y5 b0 1 _ _ HB.out
        have y0 := cell_of_row Y5 b0 0 _ _ _ HB.out; have y1 := cell_of_row Y5 b0 1 _ _ _ HB.out
        refine wpAnyZ_oneG (i := 9) (by kernel_rfl) rfl (by rfl) (fun K hK => ?_)
        go_simp
        refine hK.out _ _ (.inr (by have h := HO.out.put (v' := .slice p0 0 q0) (u' := .slice r0 0 t0) hbw; exact ⟨h.c0, h.c1⟩)) ?_
        clear hK y0 y1 g0 g1
        refine wpAnyZ_one (i := 10) (by kernel_rfl) rfl rfl (fun K hK => ?_)
        go_simp
        refine hK.out _ _ (.inl (by omega)) ?_
        clear hK
        refine wpAnyZ_done (by kernel_rfl) ?_ _
        go_wp2_with fail
        go_meet
        exact ⟨b0, p0, q0, r0, t0, rfl, rfl, hbw, HO.out.put hbw, KeptR.put (v' := .slice none 0 0) (u' := .slice none 0 0) (s' := []) (d' := []) HB.out hs0 hd0 HT.out.i1 HT.out.i2⟩
    · skip
      go_simp
      obtain ⟨b0, hb0⟩ : ∃ b, Y.heap.size = b := ⟨_, rfl⟩
      have hba : Below Y.heap.size Y (Y.alloc (.cells #[.slice none 0 0, .slice none 0 0] 24)) := (Below.refl _ _).alloc (Nat.le_refl _) _
      have hbw := HO.out.lt; rw [hb0] at hbw
      have HO := Lib.hid (HO.out.next hba)
      have HB := Lib.hid (Boxed.new hb0)
      rw [hb0]
      refine hK.out _ _ (.inr ⟨HO.out.c0, HO.out.c1⟩) ?_
      clear hK hba hb0
      generalize Y.alloc (.cells #[.slice none 0 0, .slice none 0 0] 24) = Y6 at *
      refine wpAnyZ_oneG (i := 2) (by kernel_rfl) rfl (by rfl) (fun K hK => ?_)
      go_simp
      refine (num_lit Y6 n HN.out).mono ?_
      rintro e' Y7 ⟨a9, c9, rfl, hd9, hb⟩
      have HO := Lib.hid (HO.out.next hb)
      have HB := Lib.hid (HB.out.next hb)
      show K _ Y7
      refine hK.out _ _ (.inr ⟨HO.out.c0, HO.out.c1⟩) ?_
      clear hK hb
      refine wpAnyZ_oneG (i := 4) (by kernel_rfl) rfl (by rfl) (fun K hK => ?_)
      go_simp
      have hq := po_any Y7 f _ _ _ _ [] [n] s d (SlA.nil Y7) hd9 (HS.out.below HO.out.b) (HD.out.below HO.out.b)
      rw [HM0.out] at hq
      refine hq.mono ?_
      rintro e' Y8 ⟨hr, hb⟩
      obtain ⟨p0, q0, r0, t0, rfl, hs0, hd0⟩ := ret_own (S := []) (D := []) (E := er) hr
      have HO := Lib.hid (HO.out.next hb)
      have HB := Lib.hid (HB.out.next hb)
      show K _ Y8
      refine hK.out _ _ (.inr ⟨HO.out.c0, HO.out.c1⟩) ?_
      clear hK hb hq hr hd9
      have hSS : (fun W' : World => W'.cell? ⟨w.heap.size, 0, none⟩ = some (.slice a0 s.length c0) ∧ W'.cell? ⟨w.heap.size, 1, none⟩ = some (.slice a1 d.length c1)) Y8 := ⟨HO.out.c0, HO.out.c1⟩
      refine wpAnyZ_take (i := 5) (v := ?_) rfl (by kernel_rfl) (by kernel_rfl) (by kernel_rfl) (fun _ _ _ h => h) (by kernel_rfl) (Or.inl ⟨by rfl, ?_⟩) (by assumption) ?_
      rotate_left
      · intro w' hSw
        try dsimp only at hSw
        try obtain ⟨hSw, hSw2⟩ := hSw
        go_simp
        try with_reducible rfl
      show wpAnyZ _ _ _ _ _ _ _ _ (Act.put _ (some 17) _) _
      simp only [Act.put, List.setIfInBounds_toArray, List.set_cons_zero, List.set_cons_succ]
      refine wpAnyZ_take (i := 6) (v := ?_) rfl (by kernel_rfl) (by kernel_rfl) (by kernel_rfl) (fun _ _ _ h => h) (by kernel_rfl) (Or.inl ⟨by rfl, ?_⟩) (by assumption) ?_
      rotate_left
      · intro w' hSw
        try dsimp only at hSw
        try obtain ⟨hSw, hSw2⟩ := hSw
        go_simp
        try with_reducible rfl
      show wpAnyZ _ _ _ _ _ _ _ _ (Act.put _ (some 23) _) _
      simp only [Act.put, List.setIfInBounds_toArray, List.set_cons_zero, List.set_cons_succ]
      refine wpAnyZ_take (i := 7) (v := ?_) rfl (by kernel_rfl) (by kernel_rfl) (by kernel_rfl) (fun _ _ _ h => h) (by kernel_rfl) (Or.inl ⟨by rfl, ?_⟩) (by assumption) ?_
      rotate_left
      · intro w' hSw
        try dsimp only at hSw
        try obtain ⟨hSw, hSw2⟩ := hSw
        go_simp
        try with_reducible rfl
      show wpAnyZ _ _ _ _ _ _ _ _ (Act.put _ (some 24) _) _
      simp only [Act.put, List.setIfInBounds_toArray, List.set_cons_zero, List.set_cons_succ]
      clear hSS
      have g0 := frozen_of_row Y8 b0 0 _ _ HB.out; have g1 := frozen_of_row Y8 b0 1 _ _ HB.out
      have y0 := cell_of_row Y8 b0 0 _ _ _ HB.out; have y1 := cell_of_row Y8 b0 1 _ _ _ HB.out
      refine wpAnyZ_oneG (i := 9) (by kernel_rfl) rfl (by rfl) (fun K hK => ?_)
      go_simp
      refine hK.out _ _ (.inr (by have h := HO.out.put (v' := .slice p0 0 q0) (u' := .slice r0 0 t0) hbw; exact ⟨h.c0, h.c1⟩)) ?_
      clear hK y0 y1 g0 g1
      refine wpAnyZ_one (i := 10) (by kernel_rfl) rfl rfl (fun K hK => ?_)
      go_simp
      refine hK.out _ _ (.inl (by omega)) ?_
      clear hK
      refine wpAnyZ_done (by kernel_rfl) ?_ _
      go_wp2_with fail
      go_meet
      exact ⟨b0, p0, q0, r0, t0, rfl, rfl, hbw, HO.out.put hbw, KeptR.put (v' := .slice none 0 0) (u' := .slice none 0 0) (s' := []) (d' := []) HB.out hs0 hd0 HT.out.i1 HT.out.i2⟩
  case rest =>
    clear HO
    obtain ⟨b0, p0, q0, r0, t0, rfl, rfl, hbw0, hHO, hK0⟩ := hcut
    have HO := Lib.hid hHO
    have K0 := Lib.hid hK0
    clear hHO hK0
    go_upto_region 3 with fail
    refine gen_worldA (fun W => BoxA w W (.slice a0 s.length c0) (.slice a1 d.length c1) ∧ KeptR W b0 (.slice p0 0 q0) (.slice r0 0 t0) [] []) ⟨HO.out, K0.out⟩ ?_
    rintro V1 ⟨hHO, hK0⟩
    clear HO K0
    have HO := Lib.hid hHO
    have K0 := Lib.hid hK0
    clear hHO hK0
    go_cut [10, 11] (fun s10 s11 wx => ∃ b1 p1 q1 r1 t1, s10 = .pointer (some ⟨b1, 0, none⟩) ∧ s11 = .int .i64 er ∧ w.heap.size < b1 ∧ b0 < b1 ∧ BoxA w wx (.slice a0 s.length c0) (.slice a1 d.length c1) ∧ KeptR wx b0 (.slice p0 0 q0) (.slice r0 0 t0) [] [] ∧ KeptR wx b1 (.slice p1 0 q1) (.slice r1 0 t1) [] [])
    case first =>
      refine wp_region_Z (S := fun W' => W'.cell? ⟨w.heap.size, 0, none⟩ = some (.slice a0 s.length c0) ∧ W'.cell? ⟨w.heap.size, 1, none⟩ = some (.slice a1 d.length c1)) (z := 10) (by kernel_rfl) ?_
      have hdr : Below V1.heap.size V1 V1.drew := (Below.refl _ _).drew
      have HO := Lib.hid (HO.out.next hdr)
      have K0 := Lib.hid (K0.out.next hdr)
      clear hdr
      generalize V1.drew = Y at HO K0 ⊢
      have hSS : (fun W' : World => W'.cell? ⟨w.heap.size, 0, none⟩ = some (.slice a0 s.length c0) ∧ W'.cell? ⟨w.heap.size, 1, none⟩ = some (.slice a1 d.length c1)) Y := ⟨HO.out.c0, HO.out.c1⟩
      refine wpAnyZ_take (i := 0) (v := ?_) rfl (by kernel_rfl) (by kernel_rfl) (by kernel_rfl) (fun _ _ _ h => h) (by kernel_rfl) (Or.inl ⟨by rfl, ?_⟩) (by assumption) ?_
      rotate_left
      · intro w' hSw
        try dsimp only at hSw
        try obtain ⟨hSw, hSw2⟩ := hSw
        go_simp
        try with_reducible rfl
      show wpAnyZ _ _ _ _ _ _ _ _ (Act.put _ (some 26) _) _
      simp only [Act.put, List.setIfInBounds_toArray, List.set_cons_zero, List.set_cons_succ]
      refine wpAnyZ_take (i := 2) (v := ?_) rfl (by kernel_rfl) (by kernel_rfl) (by kernel_rfl) (fun _ _ _ h => h) (by kernel_rfl) (Or.inl ⟨by rfl, ?_⟩) (by assumption) ?_
      rotate_left
      · intro w' hSw
        try dsimp only at hSw
        try obtain ⟨hSw, hSw2⟩ := hSw
        go_simp
        try with_reducible rfl
      show wpAnyZ _ _ _ _ _ _ _ _ (Act.put _ (some 28) _) _
      simp only [Act.put, List.setIfInBounds_toArray, List.set_cons_zero, List.set_cons_succ]
      refine wpAnyZ_take (i := 1) (v := ?_) rfl (by kernel_rfl) (by kernel_rfl) (by kernel_rfl) (fun _ _ _ h => h) (by kernel_rfl) (Or.inl ⟨by rfl, ?_⟩) (by assumption) ?_
      rotate_left
      · intro w' hSw
        try dsimp only at hSw
        try obtain ⟨hSw, hSw2⟩ := hSw
        go_simp
        try with_reducible rfl
      show wpAnyZ _ _ _ _ _ _ _ _ (Act.put _ (some 27) _) _
      simp only [Act.put, List.setIfInBounds_toArray, List.set_cons_zero, List.set_cons_succ]
      clear hSS
      refine wpAnyZ_twoG (i := 3) (j := 8) (by kernel_rfl) rfl rfl (by rfl) (by rfl) (fun K hK => ?_) (fun K hK => ?_)
      · skip
        go_simp
        refine (num_lit Y n HN.out).mono ?_
        rintro e' Y1 ⟨a9, c9, rfl, hd9, hb⟩
        have HO := Lib.hid (HO.out.next hb)
        have K0 := Lib.hid (K0.out.next hb)
        show K _ Y1
        refine hK.out _ _ (.inr ⟨HO.out.c0, HO.out.c1⟩) ?_
        clear hK hb
        refine wpAnyZ_twoG (i := 4) (j := 8) (by kernel_rfl) rfl rfl (by rfl) (by rfl) (fun K hK => ?_) (fun K hK => ?_)
        · skip
          go_simp
          have hq := po_any Y1 f _ _ _ _ s d [] [n] (HS.out.below HO.out.b) (HD.out.below HO.out.b) (SlA.nil Y1) hd9
          rw [HM1.out] at hq
          refine hq.mono ?_
          rintro e' Y2 ⟨hr, hb⟩
          obtain ⟨p1, q1, r1, t1, rfl, hs1, hd1⟩ := ret_own (S := []) (D := []) (E := er) hr
          have HO := Lib.hid (HO.out.next hb)
          have K0 := Lib.hid (K0.out.next hb)
          show K _ Y2
          refine hK.out _ _ (.inr ⟨HO.out.c0, HO.out.c1⟩) ?_
          clear hK hb hq hr hd9
          have hSS : (fun W' : World => W'.cell? ⟨w.heap.size, 0, none⟩ = some (.slice a0 s.length c0) ∧ W'.cell? ⟨w.heap.size, 1, none⟩ = some (.slice a1 d.length c1)) Y2 := ⟨HO.out.c0, HO.out.c1⟩
          refine wpAnyZ_take (i := 5) (v := ?_) rfl (by kernel_rfl) (by kernel_rfl) (by kernel_rfl) (fun _ _ _ h => h) (by kernel_rfl) (Or.inl ⟨by rfl, ?_⟩) (by assumption) ?_
          rotate_left
          · intro w' hSw
            try dsimp only at hSw
            try obtain ⟨hSw, hSw2⟩ := hSw
            go_simp
            try with_reducible rfl
          show wpAnyZ _ _ _ _ _ _ _ _ (Act.put _ (some 25) _) _
          simp only [Act.put, List.setIfInBounds_toArray, List.set_cons_zero, List.set_cons_succ]
          refine wpAnyZ_take (i := 6) (v := ?_) rfl (by kernel_rfl) (by kernel_rfl) (by kernel_rfl) (fun _ _ _ h => h) (by kernel_rfl) (Or.inl ⟨by rfl, ?_⟩) (by assumption) ?_
          rotate_left
          · intro w' hSw
            try dsimp only at hSw
            try obtain ⟨hSw, hSw2⟩ := hSw
            go_simp
            try with_reducible rfl
          show wpAnyZ _ _ _ _ _ _ _ _ (Act.put _ (some 31) _) _
          simp only [Act.put, List.setIfInBounds_toArray, List.set_cons_zero, List.set_cons_succ]
          refine wpAnyZ_take (i := 7) (v := ?_) rfl (by kernel_rfl) (by kernel_rfl) (by kernel_rfl) (fun _ _ _ h => h) (by kernel_rfl) (Or.inl ⟨by rfl, ?_⟩) (by assumption) ?_
          rotate_left
          · intro w' hSw
            try dsimp only at hSw
            try obtain ⟨hSw, hSw2⟩ := hSw
            go_simp
            try with_reducible rfl
          show wpAnyZ _ _ _ _ _ _ _ _ (Act.put _ (some 32) _) _
          simp only [Act.put, List.setIfInBounds_toArray, List.set_cons_zero, List.set_cons_succ]
          clear hSS
          refine wpAnyZ_oneG (i := 8) (by kernel_rfl) rfl (by rfl) (fun K hK => ?_)
          go_simp
          obtain ⟨b1, hb1⟩ : ∃ b, Y2.heap.size = b := ⟨_, rfl⟩
          have hba : Below Y2.heap.size Y2 (Y2.alloc (.cells #[.slice none 0 0, .slice none 0 0] 24)) := (Below.refl _ _).alloc (Nat.le_refl _) _
          have hbw := HO.out.lt; rw [hb1] at hbw
          have hbwK0 := K0.out.lt; rw [hb1] at hbwK0
          have HO := Lib.hid (HO.out.next hba)
          have K0 := Lib.hid (K0.out.next hba)
          have HB := Lib.hid (Boxed.new hb1)
          have hs1 := hs1.below hba; have hd1 := hd1.below hba
          rw [hb1]
          refine hK.out _ _ (.inr ⟨HO.out.c0, HO.out.c1⟩) ?_
          clear hK hba hb1
          generalize Y2.alloc (.cells #[.slice none 0 0, .slice none 0 0] 24) = Y3 at *
          have g0 := frozen_of_row Y3 b1 0 _ _ HB.out; have g1 := frozen_of_row Y3 b1 1 _ _ HB.out
          have y0 := cell_of_row Y3 b1 0 _ _ _ HB.out; have y1 := cell_of_row Y3 b1 1 _ _ _ HB.out
          refine wpAnyZ_oneG (i := 9) (by kernel_rfl) rfl (by rfl) (fun K hK => ?_)
          go_simp
          refine hK.out _ _ (.inr (by have h := HO.out.put (v' := .slice p1 0 q1) (u' := .slice r1 0 t1) hbw; exact ⟨h.c0, h.c1⟩)) ?_
          clear hK y0 y1 g0 g1
          refine wpAnyZ_one (i := 10) (by kernel_rfl) rfl rfl (fun K hK => ?_)
          go_simp
          refine hK.out _ _ (.inl (by omega)) ?_
          clear hK
          refine wpAnyZ_done (by kernel_rfl) ?_ _
          go_wp2_with fail
          go_meet
          exact ⟨b1, p1, q1, r1, t1, rfl, rfl, hbw, hbwK0, HO.out.put hbw, K0.out.other HB.out (by omega), KeptR.put (v' := .slice none 0 0) (u' := .slice none 0 0) (s' := []) (d' := []) HB.out hs1 hd1 HT.out.i1 HT.out.i2⟩
        · skip
          go_simp
          obtain ⟨b1, hb1⟩ : ∃ b, Y1.heap.size = b := ⟨_, rfl⟩
          have hba : Below Y1.heap.size Y1 (Y1.alloc (.cells #[.slice none 0 0, .slice none 0 0] 24)) := (Below.refl _ _).alloc (Nat.le_refl _) _
          have hbw := HO.out.lt; rw [hb1] at hbw
          have hbwK0 := K0.out.lt; rw [hb1] at hbwK0
          have HO := Lib.hid (HO.out.next hba)
          have K0 := Lib.hid (K0.out.next hba)
          have HB := Lib.hid (Boxed.new hb1)
          have hd9 := hd9.below hba
          rw [hb1]
          refine hK.out _ _ (.inr ⟨HO.out.c0, HO.out.c1⟩) ?_
          clear hK hba hb1
          generalize Y1.alloc (.cells #[.slice none 0 0, .slice none 0 0] 24) = Y4 at *
          refine wpAnyZ_oneG (i := 4) (by kernel_rfl) rfl (by rfl) (fun K hK => ?_)
          go_simp
          have hq := po_any Y4 f _ _ _ _ s d [] [n] (HS.out.below HO.out.b) (HD.out.below HO.out.b) (SlA.nil Y4) hd9
          rw [HM1.out] at hq
          refine hq.mono ?_
          rintro e' Y5 ⟨hr, hb⟩
          obtain ⟨p1, q1, r1, t1, rfl, hs1, hd1⟩ := ret_own (S := []) (D := []) (E := er) hr
          have HO := Lib.hid (HO.out.next hb)
          have K0 := Lib.hid (K0.out.next hb)
          have HB := Lib.hid (HB.out.next hb)
          show K _ Y5
          refine hK.out _ _ (.inr ⟨HO.out.c0, HO.out.c1⟩) ?_
          clear hK hb hq hr hd9
          have hSS : (fun W' : World => W'.cell? ⟨w.heap.size, 0, none⟩ = some (.slice a0 s.length c0) ∧ W'.cell? ⟨w.heap.size, 1, none⟩ = some (.slice a1 d.length c1)) Y5 := ⟨HO.out.c0, HO.out.c1⟩
          refine wpAnyZ_take (i := 5) (v := ?_) rfl (by kernel_rfl) (by kernel_rfl) (by kernel_rfl) (fun _ _ _ h => h) (by kernel_rfl) (Or.inl ⟨by rfl, ?_⟩) (by assumption) ?_
          rotate_left
          · intro w' hSw
            try dsimp only at hSw
            try obtain ⟨hSw, hSw2⟩ := hSw
            go_simp
            try with_reducible rfl
          show wpAnyZ _ _ _ _ _ _ _ _ (Act.put _ (some 25) _) _
          simp only [Act.put, List.setIfInBounds_toArray, List.set_cons_zero, List.set_cons_succ]
          refine wpAnyZ_take (i := 6) (v := ?_) rfl (by kernel_rfl) (by kernel_rfl) (by kernel_rfl) (fun _ _ _ h => h) (by kernel_rfl) (Or.inl ⟨by rfl, ?_⟩) (by assumption) ?_
          rotate_left
          · intro w' hSw
            try dsimp only at hSw
            try obtain ⟨hSw, hSw2⟩ := hSw
            go_simp
            try with_reducible rfl
          show wpAnyZ _ _ _ _ _ _ _ _ (Act.put _ (some 31) _) _
          simp only [Act.put, List.setIfInBounds_toArray, List.set_cons_zero, List.set_cons_succ]
          refine wpAnyZ_take (i := 7) (v := ?_) rfl (by kernel_rfl) (by kernel_rfl) (by kernel_rfl) (fun _ _ _ h => h) (by kernel_rfl) (Or.inl ⟨by rfl, ?_⟩) (by assumption) ?_
          rotate_left
          · intro w' hSw
            try dsimp only at hSw
            try obtain ⟨hSw, hSw2⟩ := hSw
            go_simp
            try with_reducible rfl
          show wpAnyZ _ _ _ _ _ _ _ _ (Act.put _ (some 32) _) _
          simp only [Act.put, List.setIfInBounds_toArray, List.set_cons_zero, List.set_cons_succ]
          clear hSS
          have g0 := frozen_of_row Y5 b1 0 _ _ HB.out; have g1 := frozen_of_row Y5 b1 1 _ _ HB.out
          have y0 := cell_of_row Y5 b1 0 _ _ _ HB.out; have y1 := cell_of_row Y5 b1 1 _ _ _ HB.out
          refine wpAnyZ_oneG (i := 9) (by kernel_rfl) rfl (by rfl) (fun K hK => ?_)
          go_simp
          refine hK.out _ _ (.inr (by have h := HO.out.put (v' := .slice p1 0 q1) (u' := .slice r1 0 t1) hbw; exact ⟨h.c0, h.c1⟩)) ?_
          clear hK y0 y1 g0 g1
          refine wpAnyZ_one (i := 10) (by kernel_rfl) rfl rfl (fun K hK => ?_)
          go_simp
          refine hK.out _ _ (.inl (by omega)) ?_
          clear hK
          refine wpAnyZ_done (by kernel_rfl) ?_ _
          go_wp2_with fail
          go_meet
          exact ⟨b1, p1, q1, r1, t1, rfl, rfl, hbw, hbwK0, HO.out.put hbw, K0.out.other HB.out (by omega), KeptR.put (v' := .slice none 0 0) (u' := .slice none 0 0) (s' := []) (d' := []) HB.out hs1 hd1 HT.out.i1 HT.out.i2⟩
      · skip
        go_simp
        obtain ⟨b1, hb1⟩ : ∃ b, Y.heap.size = b := ⟨_, rfl⟩
        have hba : Below Y.heap.size Y (Y.alloc (.cells #[.slice none 0 0, .slice none 0 0] 24)) := (Below.refl _ _).alloc (Nat.le_refl _) _
        have hbw := HO.out.lt; rw [hb1] at hbw
        have hbwK0 := K0.out.lt; rw [hb1] at hbwK0
        have HO := Lib.hid (HO.out.next hba)
        have K0 := Lib.hid (K0.out.next hba)
        have HB := Lib.hid (Boxed.new hb1)
        rw [hb1]
        refine hK.out _ _ (.inr ⟨HO.out.c0, HO.out.c1⟩) ?_
        clear hK hba hb1
        generalize Y.alloc (.cells #[.slice none 0 0, .slice none 0 0] 24) = Y6 at *
        refine wpAnyZ_oneG (i := 3) (by kernel_rfl) rfl (by rfl) (fun K hK => ?_)
        go_simp
        refine (num_lit Y6 n HN.out).mono ?_
        rintro e' Y7 ⟨a9, c9, rfl, hd9, hb⟩
        have HO := Lib.hid (HO.out.next hb)
        have K0 := Lib.hid (K0.out.next hb)
        have HB := Lib.hid (HB.out.next hb)
        show K _ Y7
        refine hK.out _ _ (.inr ⟨HO.out.c0, HO.out.c1⟩) ?_
        clear hK hb
        refine wpAnyZ_oneG (i := 4) (by kernel_rfl) rfl (by rfl) (fun K hK => ?_)
        go_simp
        have hq := po_any Y7 f _ _ _ _ s d [] [n] (HS.out.below HO.out.b) (HD.out.below HO.out.b) (SlA.nil Y7) hd9
        rw [HM1.out] at hq
        refine hq.mono ?_
        rintro e' Y8 ⟨hr, hb⟩
        obtain ⟨p1, q1, r1, t1, rfl, hs1, hd1⟩ := ret_own (S := []) (D := []) (E := er) hr
        have HO := Lib.hid (HO.out.next hb)
        have K0 := Lib.hid (K0.out.next hb)
        have HB := Lib.hid (HB.out.next hb)
        show K _ Y8
        refine hK.out _ _ (.inr ⟨HO.out.c0, HO.out.c1⟩) ?_
        clear hK hb hq hr hd9
        have hSS : (fun W' : World => W'.cell? ⟨w.heap.size, 0, none⟩ = some (.slice a0 s.length c0) ∧ W'.cell? ⟨w.heap.size, 1, none⟩ = some (.slice a1 d.length c1)) Y8 := ⟨HO.out.c0, HO.out.c1⟩
        refine wpAnyZ_take (i := 5) (v := ?_) rfl (by kernel_rfl) (by kernel_rfl) (by kernel_rfl) (fun _ _ _ h => h) (by kernel_rfl) (Or.inl ⟨by rfl, ?_⟩) (by assumption) ?_
        rotate_left
        · intro w' hSw
          try dsimp only at hSw
          try obtain ⟨hSw, hSw2⟩ := hSw
          go_simp
          try with_reducible rfl
        show wpAnyZ _ _ _ _ _ _ _ _ (Act.put _ (some 25) _) _
        simp only [Act.put, List.setIfInBounds_toArray, List.set_cons_zero, List.set_cons_succ]
        refine wpAnyZ_take (i := 6) (v := ?_) rfl (by kernel_rfl) (by kernel_rfl) (by kernel_rfl) (fun _ _ _ h => h) (by kernel_rfl) (Or.inl ⟨by rfl, ?_⟩) (by assumption) ?_
        rotate_left
        · intro w' hSw
          try dsimp only at hSw
          try obtain ⟨hSw, hSw2⟩ := hSw
          go_simp
          try with_reducible rfl
        show wpAnyZ _ _ _ _ _ _ _ _ (Act.put _ (some 31) _) _
        simp only [Act.put, List.setIfInBounds_toArray, List.set_cons_zero, List.set_cons_succ]
        refine wpAnyZ_take (i := 7) (v := ?_) rfl (by kernel_rfl) (by kernel_rfl) (by kernel_rfl) (fun _ _ _ h => h) (by kernel_rfl) (Or.inl ⟨by rfl, ?_⟩) (by assumption) ?_
        rotate_left
        · intro w' hSw
          try dsimp only at hSw
          try obtain ⟨hSw, hSw2⟩ := hSw
          go_simp
          try with_reducible rfl
        show wpAnyZ _ _ _ _ _ _ _ _ (Act.put _ (some 32) _) _
        simp only [Act.put, List.setIfInBounds_toArray, List.set_cons_zero, List.set_cons_succ]
        clear hSS
        have g0 := frozen_of_row Y8 b1 0 _ _ HB.out; have g1 := frozen_of_row Y8 b1 1 _ _ HB.out
        have y0 := cell_of_row Y8 b1 0 _ _ _ HB.out; have y1 := cell_of_row Y8 b1 1 _ _ _ HB.out
        refine wpAnyZ_oneG (i := 9) (by kernel_rfl) rfl (by rfl) (fun K hK => ?_)
        go_simp
        refine hK.out _ _ (.inr (by have h := HO.out.put (v' := .slice p1 0 q1) (u' := .slice r1 0 t1) hbw; exact ⟨h.c0, h.c1⟩)) ?_
        clear hK y0 y1 g0 g1
        refine wpAnyZ_one (i := 10) (by kernel_rfl) rfl rfl (fun K hK => ?_)
        go_simp
        refine hK.out _ _ (.inl (by omega)) ?_
        clear hK
        refine wpAnyZ_done (by kernel_rfl) ?_ _
        go_wp2_with fail
        go_meet
        exact ⟨b1, p1, q1, r1, t1, rfl, rfl, hbw, hbwK0, HO.out.put hbw, K0.out.other HB.out (by omega), KeptR.put (v' := .slice none 0 0) (u' := .slice none 0 0) (s' := []) (d' := []) HB.out hs1 hd1 HT.out.i1 HT.out.i2⟩
    case rest =>
      clear HO K0
      obtain ⟨b1, p1, q1, r1, t1, rfl, rfl, hbw1, hbw1K0, hHO, hK0, hK1⟩ := hcut
      have HO := Lib.hid hHO
      have K0 := Lib.hid hK0
      have K1 := Lib.hid hK1
      clear hHO hK0 hK1
      go_upto_region 4 with fail
      refine gen_worldA (fun W => BoxA w W (.slice a0 s.length c0) (.slice a1 d.length c1) ∧ KeptR W b0 (.slice p0 0 q0) (.slice r0 0 t0) [] [] ∧ KeptR W b1 (.slice p1 0 q1) (.slice r1 0 t1) [] []) ⟨HO.out, K0.out, K1.out⟩ ?_
      rintro V4 ⟨hHO, hK0, hK1⟩
      clear HO K0 K1
      have HO := Lib.hid hHO
      have K0 := Lib.hid hK0
      have K1 := Lib.hid hK1
      clear hHO hK0 hK1
      have x0 := HO.out.c0; have x1 := HO.out.c1
      have HQ0 := Lib.hid (HK.out V4)
      clear HK
      go_wp2_with fail
      refine HQ0.out.mono ?_
      rintro e' V5 ⟨rfl, rfl⟩
      clear HQ0
      go_wp2_with fail
      go_ret
      exact ⟨rfl, HO.out.b⟩
set_option maxHeartbeats 16000000 in
theorem PrimOuterOne_nor (w : World) (f n : Int) (va vb : Value) (s d : List Int) (hn : In64 n) (hs : SlA w va s) (hd : SlA w vb d) (htk : takes f true = true) (hr : right s d = false) (er : Int) (he : er ≠ 0) (h1 : outerA f [] [n] s d = noA er) (h2 : outerA f s d [] [n] = noA er) :
    Calls Try.prog 10 #[.int .u8 f, .int .i64 n, .agg #[va, vb]] w fun e w' => e = .returned (.bool true) ∧ Below w.heap.size w w' := by
  have HS := Lib.hid hs; have HD := Lib.hid hd; have HN := Lib.hid hn
  have HT := Lib.hid (Rt.noA he)
  have hee : (er != 0) = true := by simpa using he
  have heq : (er == er) = true := by simp
  unfold noA at h1 h2 HT
  have HM0 := Lib.hid h1; have HM1 := Lib.hid h2
  have HK := Lib.hid (fun W => takes_at W f true true htk)
  have HR := Lib.hid hr
  obtain ⟨a0, c0, rfl, -⟩ := hs
  obtain ⟨a1, c1, rfl, -⟩ := hd
  clear hn h1 h2 he htk hr
  go_enter Try.func10, Try.ntmps10
  go_upto_region 1 with fail
  refine gen_worldA (fun W => BoxA w W (.slice a0 s.length c0) (.slice a1 d.length c1)) (BoxA.mk0 _ _ _) ?_
  rintro W hO
  have HO := Lib.hid hO
  clear hO
  go_wp2_with fail
  refine (shown_any _).mono ?_
  rintro e' V0 ⟨rfl, hb⟩
  have HO := Lib.hid (HO.out.next hb)
  clear hb
  go_upto_region 2 with fail
  refine gen_worldA (fun W => BoxA w W (.slice a0 s.length c0) (.slice a1 d.length c1)) HO.out ?_
  rintro V0 hHO
  clear HO
  have HO := Lib.hid hHO
  clear hHO
  go_cut [8, 9] (fun s8 s9 wx => ∃ b0 p0 q0 r0 t0, s8 = .pointer (some ⟨b0, 0, none⟩) ∧ s9 = .int .i64 er ∧ w.heap.size < b0 ∧ BoxA w wx (.slice a0 s.length c0) (.slice a1 d.length c1) ∧ KeptR wx b0 (.slice p0 0 q0) (.slice r0 0 t0) [] [])
  case first =>
    refine wp_region_Z (S := fun W' => W'.cell? ⟨w.heap.size, 0, none⟩ = some (.slice a0 s.length c0) ∧ W'.cell? ⟨w.heap.size, 1, none⟩ = some (.slice a1 d.length c1)) (z := 10) (by kernel_rfl) ?_
    have hdr : Below V0.heap.size V0 V0.drew := (Below.refl _ _).drew
    have HO := Lib.hid (HO.out.next hdr)
    clear hdr
    generalize V0.drew = Y at HO ⊢
    have hSS : (fun W' : World => W'.cell? ⟨w.heap.size, 0, none⟩ = some (.slice a0 s.length c0) ∧ W'.cell? ⟨w.heap.size, 1, none⟩ = some (.slice a1 d.length c1)) Y := ⟨HO.out.c0, HO.out.c1⟩
    refine wpAnyZ_take (i := 0) (v := ?_) rfl (by kernel_rfl) (by kernel_rfl) (by kernel_rfl) (fun _ _ _ h => h) (by kernel_rfl) (Or.inl ⟨by rfl, ?_⟩) (by assumption) ?_
    rotate_left
    · intro w' hSw
      try dsimp only at hSw
      try obtain ⟨hSw, hSw2⟩ := hSw
      go_simp
      try with_reducible rfl
    show wpAnyZ _ _ _ _ _ _ _ _ (Act.put _ (some 18) _) _
    simp only [Act.put, List.setIfInBounds_toArray, List.set_cons_zero, List.set_cons_succ]
    refine wpAnyZ_take (i := 1) (v := ?_) rfl (by kernel_rfl) (by kernel_rfl) (by kernel_rfl) (fun _ _ _ h => h) (by kernel_rfl) (Or.inl ⟨by rfl, ?_⟩) (by assumption) ?_
    rotate_left
    · intro w' hSw
      try dsimp only at hSw
      try obtain ⟨hSw, hSw2⟩ := hSw
      go_simp
      try with_reducible rfl
    show wpAnyZ _ _ _ _ _ _ _ _ (Act.put _ (some 19) _) _
    simp only [Act.put, List.setIfInBounds_toArray, List.set_cons_zero, List.set_cons_succ]
    refine wpAnyZ_take (i := 3) (v := ?_) rfl (by kernel_rfl) (by kernel_rfl) (by kernel_rfl) (fun _ _ _ h => h) (by kernel_rfl) (Or.inl ⟨by rfl, ?_⟩) (by assumption) ?_
    rotate_left
    · intro w' hSw
      try dsimp only at hSw
      try obtain ⟨hSw, hSw2⟩ := hSw
      go_simp
      try with_reducible rfl
    show wpAnyZ _ _ _ _ _ _ _ _ (Act.put _ (some 21) _) _
    simp only [Act.put, List.setIfInBounds_toArray, List.set_cons_zero, List.set_cons_succ]
    clear hSS
    refine wpAnyZ_twoG (i := 2) (j := 8) (by kernel_rfl) rfl rfl (by rfl) (by rfl) (fun K hK => ?_) (fun K hK => ?_)
    · skip
      go_simp
      refine (num_lit Y n HN.out).mono ?_
      rintro e' Y1 ⟨a9, c9, rfl, hd9, hb⟩
      have HO := Lib.hid (HO.out.next hb)
      show K _ Y1
      refine hK.out _ _ (.inr ⟨HO.out.c0, HO.out.c1⟩) ?_
      clear hK hb
      refine wpAnyZ_twoG (i := 4) (j := 8) (by kernel_rfl) rfl rfl (by rfl) (by rfl) (fun K hK => ?_) (fun K hK => ?_)
      · skip
        go_simp
        have hq := po_any Y1 f _ _ _ _ [] [n] s d (SlA.nil Y1) hd9 (HS.out.below HO.out.b) (HD.out.below HO.out.b)
        rw [HM0.out] at hq
        refine hq.mono ?_
        rintro e' Y2 ⟨hr, hb⟩
        obtain ⟨p0, q0, r0, t0, rfl, hs0, hd0⟩ := ret_own (S := []) (D := []) (E := er) hr
        have HO := Lib.hid (HO.out.next hb)
        show K _ Y2
        refine hK.out _ _ (.inr ⟨HO.out.c0, HO.out.c1⟩) ?_
        clear hK hb hq hr hd9
        have hSS : (fun W' : World => W'.cell? ⟨w.heap.size, 0, none⟩ = some (.slice a0 s.length c0) ∧ W'.cell? ⟨w.heap.size, 1, none⟩ = some (.slice a1 d.length c1)) Y2 := ⟨HO.out.c0, HO.out.c1⟩
        refine wpAnyZ_take (i := 5) (v := ?_) rfl (by kernel_rfl) (by kernel_rfl) (by kernel_rfl) (fun _ _ _ h => h) (by kernel_rfl) (Or.inl ⟨by rfl, ?_⟩) (by assumption) ?_
        rotate_left
        · intro w' hSw
          try dsimp only at hSw
          try obtain ⟨hSw, hSw2⟩ := hSw
          go_simp
          try with_reducible rfl
        show wpAnyZ _ _ _ _ _ _ _ _ (Act.put _ (some 17) _) _
        simp only [Act.put, List.setIfInBounds_toArray, List.set_cons_zero, List.set_cons_succ]
        refine wpAnyZ_take (i := 6) (v := ?_) rfl (by kernel_rfl) (by kernel_rfl) (by kernel_rfl) (fun _ _ _ h => h) (by kernel_rfl) (Or.inl ⟨by rfl, ?_⟩) (by assumption) ?_
        rotate_left
        · intro w' hSw
          try dsimp only at hSw
          try obtain ⟨hSw, hSw2⟩ := hSw
          go_simp
          try with_reducible rfl
        show wpAnyZ _ _ _ _ _ _ _ _ (Act.put _ (some 23) _) _
        simp only [Act.put, List.setIfInBounds_toArray, List.set_cons_zero, List.set_cons_succ]
        refine wpAnyZ_take (i := 7) (v := ?_) rfl (by kernel_rfl) (by kernel_rfl) (by kernel_rfl) (fun _ _ _ h => h) (by kernel_rfl) (Or.inl ⟨by rfl, ?_⟩) (by assumption) ?_
        rotate_left
        · intro w' hSw
          try dsimp only at hSw
          try obtain ⟨hSw, hSw2⟩ := hSw
          go_simp
          try with_reducible rfl
        show wpAnyZ _ _ _ _ _ _ _ _ (Act.put _ (some 24) _) _
        simp only [Act.put, List.setIfInBounds_toArray, List.set_cons_zero, List.set_cons_succ]
        clear hSS
        refine wpAnyZ_oneG (i := 8) (by kernel_rfl) rfl (by rfl) (fun K hK => ?_)
        go_simp
        obtain ⟨b0, hb0⟩ : ∃ b, Y2.heap.size = b := ⟨_, rfl⟩
        have hba : Below Y2.heap.size Y2 (Y2.alloc (.cells #[.slice none 0 0, .slice none 0 0] 24)) := (Below.refl _ _).alloc (Nat.le_refl _) _
        have hbw := HO.out.lt; rw [hb0] at hbw
        have HO := Lib.hid (HO.out.next hba)
        have HB := Lib.hid (Boxed.new hb0)
        have hs0 := hs0.below hba; have hd0 := hd0.below hba
        rw [hb0]
        refine hK.out _ _ (.inr ⟨HO.out.c0, HO.out.c1⟩) ?_
        clear hK hba hb0
        generalize Y2.alloc (.cells #[.slice none 0 0, .slice none 0 0] 24) = Y3 at *
        have g0 := frozen_of_row Y3 b0 0 _ _ HB.out; have g1 := frozen_of_row Y3 b0 1 _ _ HB.out
        have y0 := cell_of_row Y3 b0 0 _ _ _ HB.out; have y1 := cell_of_row Y3 b0 1 _ _ _ HB.out
        refine wpAnyZ_oneG (i := 9) (by kernel_rfl) rfl (by rfl) (fun K hK => ?_)
        go_simp
        refine hK.out _ _ (.inr (by have h := HO.out.put (v' := .slice p0 0 q0) (u' := .slice r0 0 t0) hbw; exact ⟨h.c0, h.c1⟩)) ?_
        clear hK y0 y1 g0 g1
        refine wpAnyZ_one (i := 10) (by kernel_rfl) rfl rfl (fun K hK => ?_)
        go_simp
        refine hK.out _ _ (.inl (by omega)) ?_
        clear hK
        refine wpAnyZ_done (by kernel_rfl) ?_ _
        go_wp2_with fail
        go_meet
        exact ⟨b0, p0, q0, r0, t0, rfl, rfl, hbw, HO.out.put hbw, KeptR.put (v' := .slice none 0 0) (u' := .slice none 0 0) (s' := []) (d' := []) HB.out hs0 hd0 HT.out.i1 HT.out.i2⟩
      · skip
        go_simp
        obtain ⟨b0, hb0⟩ : ∃ b, Y1.heap.size = b := ⟨_, rfl⟩
        have hba : Below Y1.heap.size Y1 (Y1.alloc (.cells #[.slice none 0 0, .slice none 0 0] 24)) := (Below.refl _ _).alloc (Nat.le_refl _) _
        have hbw := HO.out.lt; rw [hb0] at hbw
        have HO := Lib.hid (HO.out.next hba)
        have HB := Lib.hid (Boxed.new hb0)
        have hd9 := hd9.below hba
        rw [hb0]
        refine hK.out _ _ (.inr ⟨HO.out.c0, HO.out.c1⟩) ?_
        clear hK hba hb0
        generalize Y1.alloc (.cells #[.slice none 0 0, .slice none 0 0] 24) = Y4 at *
        refine wpAnyZ_oneG (i := 4) (by kernel_rfl) rfl (by rfl) (fun K hK => ?_)
        go_simp
        have hq := po_any Y4 f _ _ _ _ [] [n] s d (SlA.nil Y4) hd9 (HS.out.below HO.out.b) (HD.out.below HO.out.b)
        rw [HM0.out] at hq
        refine hq.mono ?_
        rintro e' Y5 ⟨hr, hb⟩
        obtain ⟨p0, q0, r0, t0, rfl, hs0, hd0⟩ := ret_own (S := []) (D := []) (E := er) hr
        have HO := Lib.hid (HO.out.next hb)
        have HB := Lib.hid (HB.out.next hb)
        show K _ Y5
        refine hK.out _ _ (.inr ⟨HO.out.c0, HO.out.c1⟩) ?_
        clear hK hb hq hr hd9
        have hSS : (fun W' : World => W'.cell? ⟨w.heap.size, 0, none⟩ = some (.slice a0 s.length c0) ∧ W'.cell? ⟨w.heap.size, 1, none⟩ = some (.slice a1 d.length c1)) Y5 := ⟨HO.out.c0, HO.out.c1⟩
        refine wpAnyZ_take (i := 5) (v := ?_) rfl (by kernel_rfl) (by kernel_rfl) (by kernel_rfl) (fun _ _ _ h => h) (by kernel_rfl) (Or.inl ⟨by rfl, ?_⟩) (by assumption) ?_
        rotate_left
        · intro w' hSw
          try dsimp only at hSw
          try obtain ⟨hSw, hSw2⟩ := hSw
          go_simp
          try with_reducible rfl
        show wpAnyZ _ _ _ _ _ _ _ _ (Act.put _ (some 17) _) _
        simp only [Act.put, List.setIfInBounds_toArray, List.set_cons_zero, List.set_cons_succ]
        refine wpAnyZ_take (i := 6) (v := ?_) rfl (by kernel_rfl) (by kernel_rfl) (by kernel_rfl) (fun _ _ _ h => h) (by kernel_rfl) (Or.inl ⟨by rfl, ?_⟩) (by assumption) ?_
        rotate_left
        · intro w' hSw
          try dsimp only at hSw
          try obtain ⟨hSw, hSw2⟩ := hSw
          go_simp
          try with_reducible rfl
        show wpAnyZ _ _ _ _ _ _ _ _ (Act.put _ (some 23) _) _
        simp only [Act.put, List.setIfInBounds_toArray, List.set_cons_zero, List.set_cons_succ]
        refine wpAnyZ_take (i := 7) (v := ?_) rfl (by kernel_rfl) (by kernel_rfl) (by kernel_rfl) (fun _ _ _ h => h) (by kernel_rfl) (Or.inl ⟨by rfl, ?_⟩) (by assumption) ?_
        rotate_left
        · intro w' hSw
          try dsimp only at hSw
          try obtain ⟨hSw, hSw2⟩ := hSw
          go_simp
          try with_reducible rfl
        show wpAnyZ _ _ _ _ _ _ _ _ (Act.put _ (some 24) _) _
        simp only [Act.put, List.setIfInBounds_toArray, List.set_cons_zero, List.set_cons_succ]
        clear hSS
        have g0 := frozen_of_row Y5 b0 0 _ _ HB.out; have g1 := frozen_of_row Y5 b0 1 _ _ HB.out
        have y0 := cell_of_row Y5 b0 0 _ _ _ HB.out; have y1 := cell_of_row Y5 b0 1 _ _ _ HB.out
        refine wpAnyZ_oneG (i := 9) (by kernel_rfl) rfl (by rfl) (fun K hK => ?_)
        go_simp
        refine hK.out _ _ (.inr (by have h := HO.out.put (v' := .slice p0 0 q0) (u' := .slice r0 0 t0) hbw; exact ⟨h.c0, h.c1⟩)) ?_
        clear hK y0 y1 g0 g1
        refine wpAnyZ_one (i := 10) (by kernel_rfl) rfl rfl (fun K hK => ?_)
        go_simp
        refine hK.out _ _ (.inl (by omega)) ?_
        clear hK
        refine wpAnyZ_done (by kernel_rfl) ?_ _
        go_wp2_with fail
        go_meet
        exact ⟨b0, p0, q0, r0, t0, rfl, rfl, hbw, HO.out.put hbw, KeptR.put (v' := .slice none 0 0) (u' := .slice none 0 0) (s' := []) (d' := []) HB.out hs0 hd0 HT.out.i1 HT.out.i2⟩
    · skip
      go_simp
      obtain ⟨b0, hb0⟩ : ∃ b, Y.heap.size = b := ⟨_, rfl⟩
      have hba : Below Y.heap.size Y (Y.alloc (.cells #[.slice none 0 0, .slice none 0 0] 24)) := (Below.refl _ _).alloc (Nat.le_refl _) _
      have hbw := HO.out.lt; rw [hb0] at hbw
      have HO := Lib.hid (HO.out.next hba)
      have HB := Lib.hid (Boxed.new hb0)
      rw [hb0]
      refine hK.out _ _ (.inr ⟨HO.out.c0, HO.out.c1⟩) ?_
      clear hK hba hb0
      generalize Y.alloc (.cells #[.slice none 0 0, .slice none 0 0] 24) = Y6 at *
      refine wpAnyZ_oneG (i := 2) (by kernel_rfl) rfl (by rfl) (fun K hK => ?_)
      go_simp
      refine (num_lit Y6 n HN.out).mono ?_
      rintro e' Y7 ⟨a9, c9, rfl, hd9, hb⟩
      have HO := Lib.hid (HO.out.next hb)
      have HB := Lib.hid (HB.out.next hb)
      show K _ Y7
      refine hK.out _ _ (.inr ⟨HO.out.c0, HO.out.c1⟩) ?_
      clear hK hb
      refine wpAnyZ_oneG (i := 4) (by kernel_rfl) rfl (by rfl) (fun K hK => ?_)
      go_simp
      have hq := po_any Y7 f _ _ _ _ [] [n] s d (SlA.nil Y7) hd9 (HS.out.below HO.out.b) (HD.out.below HO.out.b)
      rw [HM0.out] at hq
      refine hq.mono ?_
      rintro e' Y8 ⟨hr, hb⟩
      obtain ⟨p0, q0, r0, t0, rfl, hs0, hd0⟩ := ret_own (S := []) (D := []) (E := er) hr
      have HO := Lib.hid (HO.out.next hb)
      have HB := Lib.hid (HB.out.next hb)
      show K _ Y8
      refine hK.out _ _ (.inr ⟨HO.out.c0, HO.out.c1⟩) ?_
      clear hK hb hq hr hd9
      have hSS : (fun W' : World => W'.cell? ⟨w.heap.size, 0, none⟩ = some (.slice a0 s.length c0) ∧ W'.cell? ⟨w.heap.size, 1, none⟩ = some (.slice a1 d.length c1)) Y8 := ⟨HO.out.c0, HO.out.c1⟩
      refine wpAnyZ_take (i := 5) (v := ?_) rfl (by kernel_rfl) (by kernel_rfl) (by kernel_rfl) (fun _ _ _ h => h) (by kernel_rfl) (Or.inl ⟨by rfl, ?_⟩) (by assumption) ?_
      rotate_left
      · intro w' hSw
        try dsimp only at hSw
        try obtain ⟨hSw, hSw2⟩ := hSw
        go_simp
        try with_reducible rfl
      show wpAnyZ _ _ _ _ _ _ _ _ (Act.put _ (some 17) _) _
      simp only [Act.put, List.setIfInBounds_toArray, List.set_cons_zero, List.set_cons_succ]
      refine wpAnyZ_take (i := 6) (v := ?_) rfl (by kernel_rfl) (by kernel_rfl) (by kernel_rfl) (fun _ _ _ h => h) (by kernel_rfl) (Or.inl ⟨by rfl, ?_⟩) (by assumption) ?_
      rotate_left
      · intro w' hSw
        try dsimp only at hSw
        try obtain ⟨hSw, hSw2⟩ := hSw
        go_simp
        try with_reducible rfl
      show wpAnyZ _ _ _ _ _ _ _ _ (Act.put _ (some 23) _) _
      simp only [Act.put, List.setIfInBounds_toArray, List.set_cons_zero, List.set_cons_succ]
      refine wpAnyZ_take (i := 7) (v := ?_) rfl (by kernel_rfl) (by kernel_rfl) (by kernel_rfl) (fun _ _ _ h => h) (by kernel_rfl) (Or.inl ⟨by rfl, ?_⟩) (by assumption) ?_
      rotate_left
      · intro w' hSw
        try dsimp only at hSw
        try obtain ⟨hSw, hSw2⟩ := hSw
        go_simp
        try with_reducible rfl
      show wpAnyZ _ _ _ _ _ _ _ _ (Act.put _ (some 24) _) _
      simp only [Act.put, List.setIfInBounds_toArray, List.set_cons_zero, List.set_cons_succ]
      clear hSS
      have g0 := frozen_of_row Y8 b0 0 _ _ HB.out; have g1 := frozen_of_row Y8 b0 1 _ _ HB.out
      have y0 := cell_of_row Y8 b0 0 _ _ _ HB.out; have y1 := cell_of_row Y8 b0 1 _ _ _ HB.out
      refine wpAnyZ_oneG (i := 9) (by kernel_rfl) rfl (by rfl) (fun K hK => ?_)
      go_simp
      refine hK.out _ _ (.inr (by have h := HO.out.put (v' := .slice p0 0 q0) (u' := .slice r0 0 t0) hbw; exact ⟨h.c0, h.c1⟩)) ?_
      clear hK y0 y1 g0 g1
      refine wpAnyZ_one (i := 10) (by kernel_rfl) rfl rfl (fun K hK => ?_)
      go_simp
      refine hK.out _ _ (.inl (by omega)) ?_
      clear hK
      refine wpAnyZ_done (by kernel_rfl) ?_ _
      go_wp2_with fail
      go_meet
      exact ⟨b0, p0, q0, r0, t0, rfl, rfl, hbw, HO.out.put hbw, KeptR.put (v' := .slice none 0 0) (u' := .slice none 0 0) (s' := []) (d' := []) HB.out hs0 hd0 HT.out.i1 HT.out.i2⟩
  case rest =>
    clear HO
    obtain ⟨b0, p0, q0, r0, t0, rfl, rfl, hbw0, hHO, hK0⟩ := hcut
    have HO := Lib.hid hHO
    have K0 := Lib.hid hK0
    clear hHO hK0
    go_upto_region 3 with fail
    refine gen_worldA (fun W => BoxA w W (.slice a0 s.length c0) (.slice a1 d.length c1) ∧ KeptR W b0 (.slice p0 0 q0) (.slice r0 0 t0) [] []) ⟨HO.out, K0.out⟩ ?_
    rintro V1 ⟨hHO, hK0⟩
    clear HO K0
    have HO := Lib.hid hHO
    have K0 := Lib.hid hK0
    clear hHO hK0
    go_cut [10, 11] (fun s10 s11 wx => ∃ b1 p1 q1 r1 t1, s10 = .pointer (some ⟨b1, 0, none⟩) ∧ s11 = .int .i64 er ∧ w.heap.size < b1 ∧ b0 < b1 ∧ BoxA w wx (.slice a0 s.length c0) (.slice a1 d.length c1) ∧ KeptR wx b0 (.slice p0 0 q0) (.slice r0 0 t0) [] [] ∧ KeptR wx b1 (.slice p1 0 q1) (.slice r1 0 t1) [] [])
    case first =>
      refine wp_region_Z (S := fun W' => W'.cell? ⟨w.heap.size, 0, none⟩ = some (.slice a0 s.length c0) ∧ W'.cell? ⟨w.heap.size, 1, none⟩ = some (.slice a1 d.length c1)) (z := 10) (by kernel_rfl) ?_
      have hdr : Below V1.heap.size V1 V1.drew := (Below.refl _ _).drew
      have HO := Lib.hid (HO.out.next hdr)
      have K0 := Lib.hid (K0.out.next hdr)
      clear hdr
      generalize V1.drew = Y at HO K0 ⊢
      have hSS : (fun W' : World => W'.cell? ⟨w.heap.size, 0, none⟩ = some (.slice a0 s.length c0) ∧ W'.cell? ⟨w.heap.size, 1, none⟩ = some (.slice a1 d.length c1)) Y := ⟨HO.out.c0, HO.out.c1⟩
      refine wpAnyZ_take (i := 0) (v := ?_) rfl (by kernel_rfl) (by kernel_rfl) (by kernel_rfl) (fun _ _ _ h => h) (by kernel_rfl) (Or.inl ⟨by rfl, ?_⟩) (by assumption) ?_
      rotate_left
      · intro w' hSw
        try dsimp only at hSw
        try obtain ⟨hSw, hSw2⟩ := hSw
        go_simp
        try with_reducible rfl
      show wpAnyZ _ _ _ _ _ _ _ _ (Act.put _ (some 26) _) _
      simp only [Act.put, List.setIfInBounds_toArray, List.set_cons_zero, List.set_cons_succ]
      refine wpAnyZ_take (i := 2) (v := ?_) rfl (by kernel_rfl) (by kernel_rfl) (by kernel_rfl) (fun _ _ _ h => h) (by kernel_rfl) (Or.inl ⟨by rfl, ?_⟩) (by assumption) ?_
      rotate_left
      · intro w' hSw
        try dsimp only at hSw
        try obtain ⟨hSw, hSw2⟩ := hSw
        go_simp
        try with_reducible rfl
      show wpAnyZ _ _ _ _ _ _ _ _ (Act.put _ (some 28) _) _
      simp only [Act.put, List.setIfInBounds_toArray, List.set_cons_zero, List.set_cons_succ]
      refine wpAnyZ_take (i := 1) (v := ?_) rfl (by kernel_rfl) (by kernel_rfl) (by kernel_rfl) (fun _ _ _ h => h) (by kernel_rfl) (Or.inl ⟨by rfl, ?_⟩) (by assumption) ?_
      rotate_left
      · intro w' hSw
        try dsimp only at hSw
        try obtain ⟨hSw, hSw2⟩ := hSw
        go_simp
        try with_reducible rfl
      show wpAnyZ _ _ _ _ _ _ _ _ (Act.put _ (some 27) _) _
      simp only [Act.put, List.setIfInBounds_toArray, List.set_cons_zero, List.set_cons_succ]
      clear hSS
      refine wpAnyZ_twoG (i := 3) (j := 8) (by kernel_rfl) rfl rfl (by rfl) (by rfl) (fun K hK => ?_) (fun K hK => ?_)
      · skip
        go_simp
        refine (num_lit Y n HN.out).mono ?_
        rintro e' Y1 ⟨a9, c9, rfl, hd9, hb⟩
        have HO := Lib.hid (HO.out.next hb)
        have K0 := Lib.hid (K0.out.next hb)
        show K _ Y1
        refine hK.out _ _ (.inr ⟨HO.out.c0, HO.out.c1⟩) ?_
        clear hK hb
        refine wpAnyZ_twoG (i := 4) (j := 8) (by kernel_rfl) rfl rfl (by rfl) (by rfl) (fun K hK => ?_) (fun K hK => ?_)
        · skip
          go_simp
          have hq := po_any Y1 f _ _ _ _ s d [] [n] (HS.out.below HO.out.b) (HD.out.below HO.out.b) (SlA.nil Y1) hd9
          rw [HM1.out] at hq
          refine hq.mono ?_
          rintro e' Y2 ⟨hr, hb⟩
          obtain ⟨p1, q1, r1, t1, rfl, hs1, hd1⟩ := ret_own (S := []) (D := []) (E := er) hr
          have HO := Lib.hid (HO.out.next hb)
          have K0 := Lib.hid (K0.out.next hb)
          show K _ Y2
          refine hK.out _ _ (.inr ⟨HO.out.c0, HO.out.c1⟩) ?_
          clear hK hb hq hr hd9
          have hSS : (fun W' : World => W'.cell? ⟨w.heap.size, 0, none⟩ = some (.slice a0 s.length c0) ∧ W'.cell? ⟨w.heap.size, 1, none⟩ = some (.slice a1 d.length c1)) Y2 := ⟨HO.out.c0, HO.out.c1⟩
          refine wpAnyZ_take (i := 5) (v := ?_) rfl (by kernel_rfl) (by kernel_rfl) (by kernel_rfl) (fun _ _ _ h => h) (by kernel_rfl) (Or.inl ⟨by rfl, ?_⟩) (by assumption) ?_
          rotate_left
          · intro w' hSw
            try dsimp only at hSw
            try obtain ⟨hSw, hSw2⟩ := hSw
            go_simp
            try with_reducible rfl
          show wpAnyZ _ _ _ _ _ _ _ _ (Act.put _ (some 25) _) _
          simp only [Act.put, List.setIfInBounds_toArray, List.set_cons_zero, List.set_cons_succ]
          refine wpAnyZ_take (i := 6) (v := ?_) rfl (by kernel_rfl) (by kernel_rfl) (by kernel_rfl) (fun _ _ _ h => h) (by kernel_rfl) (Or.inl ⟨by rfl, ?_⟩) (by assumption) ?_
          rotate_left
          · intro w' hSw
            try dsimp only at hSw
            try obtain ⟨hSw, hSw2⟩ := hSw
            go_simp
            try with_reducible rfl
          show wpAnyZ _ _ _ _ _ _ _ _ (Act.put _ (some 31) _) _
          simp only [Act.put, List.setIfInBounds_toArray, List.set_cons_zero, List.set_cons_succ]
          refine wpAnyZ_take (i := 7) (v := ?_) rfl (by kernel_rfl) (by kernel_rfl) (by kernel_rfl) (fun _ _ _ h => h) (by kernel_rfl) (Or.inl ⟨by rfl, ?_⟩) (by assumption) ?_
          rotate_left
          · intro w' hSw
            try dsimp only at hSw
            try obtain ⟨hSw, hSw2⟩ := hSw
            go_simp
            try with_reducible rfl
          show wpAnyZ _ _ _ _ _ _ _ _ (Act.put _ (some 32) _) _
          simp only [Act.put, List.setIfInBounds_toArray, List.set_cons_zero, List.set_cons_succ]
          clear hSS
          refine wpAnyZ_oneG (i := 8) (by kernel_rfl) rfl (by rfl) (fun K hK => ?_)
          go_simp
          obtain ⟨b1, hb1⟩ : ∃ b, Y2.heap.size = b := ⟨_, rfl⟩
          have hba : Below Y2.heap.size Y2 (Y2.alloc (.cells #[.slice none 0 0, .slice none 0 0] 24)) := (Below.refl _ _).alloc (Nat.le_refl _) _
          have hbw := HO.out.lt; rw [hb1] at hbw
          have hbwK0 := K0.out.lt; rw [hb1] at hbwK0
          have HO := Lib.hid (HO.out.next hba)
          have K0 := Lib.hid (K0.out.next hba)
          have HB := Lib.hid (Boxed.new hb1)
          have hs1 := hs1.below hba; have hd1 := hd1.below hba
          rw [hb1]
          refine hK.out _ _ (.inr ⟨HO.out.c0, HO.out.c1⟩) ?_
          clear hK hba hb1
          generalize Y2.alloc (.cells #[.slice none 0 0, .slice none 0 0] 24) = Y3 at *
          have g0 := frozen_of_row Y3 b1 0 _ _ HB.out; have g1 := frozen_of_row Y3 b1 1 _ _ HB.out
          have y0 := cell_of_row Y3 b1 0 _ _ _ HB.out; have y1 := cell_of_row Y3 b1 1 _ _ _ HB.out
          refine wpAnyZ_oneG (i := 9) (by kernel_rfl) rfl (by rfl) (fun K hK => ?_)
          go_simp
          refine hK.out _ _ (.inr (by have h := HO.out.put (v' := .slice p1 0 q1) (u' := .slice r1 0 t1) hbw; exact ⟨h.c0, h.c1⟩)) ?_
          clear hK y0 y1 g0 g1
          refine wpAnyZ_one (i := 10) (by kernel_rfl) rfl rfl (fun K hK => ?_)
          go_simp
          refine hK.out _ _ (.inl (by omega)) ?_
          clear hK
          refine wpAnyZ_done (by kernel_rfl) ?_ _
          go_wp2_with fail
          go_meet
          exact ⟨b1, p1, q1, r1, t1, rfl, rfl, hbw, hbwK0, HO.out.put hbw, K0.out.other HB.out (by omega), KeptR.put (v' := .slice none 0 0) (u' := .slice none 0 0) (s' := []) (d' := []) HB.out hs1 hd1 HT.out.i1 HT.out.i2⟩
        · skip
          go_simp
          obtain ⟨b1, hb1⟩ : ∃ b, Y1.heap.size = b := ⟨_, rfl⟩
          have hba : Below Y1.heap.size Y1 (Y1.alloc (.cells #[.slice none 0 0, .slice none 0 0] 24)) := (Below.refl _ _).alloc (Nat.le_refl _) _
          have hbw := HO.out.lt; rw [hb1] at hbw
          have hbwK0 := K0.out.lt; rw [hb1] at hbwK0
          have HO := Lib.hid (HO.out.next hba)
          have K0 := Lib.hid (K0.out.next hba)
          have HB := Lib.hid (Boxed.new hb1)
          have hd9 := hd9.below hba
          rw [hb1]
          refine hK.out _ _ (.inr ⟨HO.out.c0, HO.out.c1⟩) ?_
          clear hK hba hb1
          generalize Y1.alloc (.cells #[.slice none 0 0, .slice none 0 0] 24) = Y4 at *
          refine wpAnyZ_oneG (i := 4) (by kernel_rfl) rfl (by rfl) (fun K hK => ?_)
          go_simp
          have hq := po_any Y4 f _ _ _ _ s d [] [n] (HS.out.below HO.out.b) (HD.out.below HO.out.b) (SlA.nil Y4) hd9
          rw [HM1.out] at hq
          refine hq.mono ?_
          rintro e' Y5 ⟨hr, hb⟩
          obtain ⟨p1, q1, r1, t1, rfl, hs1, hd1⟩ := ret_own (S := []) (D := []) (E := er) hr
          have HO := Lib.hid (HO.out.next hb)
          have K0 := Lib.hid (K0.out.next hb)
          have HB := Lib.hid (HB.out.next hb)
          show K _ Y5
          refine hK.out _ _ (.inr ⟨HO.out.c0, HO.out.c1⟩) ?_
          clear hK hb hq hr hd9
          have hSS : (fun W' : World => W'.cell? ⟨w.heap.size, 0, none⟩ = some (.slice a0 s.length c0) ∧ W'.cell? ⟨w.heap.size, 1, none⟩ = some (.slice a1 d.length c1)) Y5 := ⟨HO.out.c0, HO.out.c1⟩
          refine wpAnyZ_take (i := 5) (v := ?_) rfl (by kernel_rfl) (by kernel_rfl) (by kernel_rfl) (fun _ _ _ h => h) (by kernel_rfl) (Or.inl ⟨by rfl, ?_⟩) (by assumption) ?_
          rotate_left
          · intro w' hSw
            try dsimp only at hSw
            try obtain ⟨hSw, hSw2⟩ := hSw
            go_simp
            try with_reducible rfl
          show wpAnyZ _ _ _ _ _ _ _ _ (Act.put _ (some 25) _) _
          simp only [Act.put, List.setIfInBounds_toArray, List.set_cons_zero, List.set_cons_succ]
          refine wpAnyZ_take (i := 6) (v := ?_) rfl (by kernel_rfl) (by kernel_rfl) (by kernel_rfl) (fun _ _ _ h => h) (by kernel_rfl) (Or.inl ⟨by rfl, ?_⟩) (by assumption) ?_
          rotate_left
          · intro w' hSw
            try dsimp only at hSw
            try obtain ⟨hSw, hSw2⟩ := hSw
            go_simp
            try with_reducible rfl
          show wpAnyZ _ _ _ _ _ _ _ _ (Act.put _ (some 31) _) _
          simp only [Act.put, List.setIfInBounds_toArray, List.set_cons_zero, List.set_cons_succ]
          refine wpAnyZ_take (i := 7) (v := ?_) rfl (by kernel_rfl) (by kernel_rfl) (by kernel_rfl) (fun _ _ _ h => h) (by kernel_rfl) (Or.inl ⟨by rfl, ?_⟩) (by assumption) ?_
          rotate_left
          · intro w' hSw
            try dsimp only at hSw
            try obtain ⟨hSw, hSw2⟩ := hSw
            go_simp
            try with_reducible rfl
          show wpAnyZ _ _ _ _ _ _ _ _ (Act.put _ (some 32) _) _
          simp only [Act.put, List.setIfInBounds_toArray, List.set_cons_zero, List.set_cons_succ]
          clear hSS
          have g0 := frozen_of_row Y5 b1 0 _ _ HB.out; have g1 := frozen_of_row Y5 b1 1 _ _ HB.out
          have y0 := cell_of_row Y5 b1 0 _ _ _ HB.out; have y1 := cell_of_row Y5 b1 1 _ _ _ HB.out
          refine wpAnyZ_oneG (i := 9) (by kernel_rfl) rfl (by rfl) (fun K hK => ?_)
          go_simp
          refine hK.out _ _ (.inr (by have h := HO.out.put (v' := .slice p1 0 q1) (u' := .slice r1 0 t1) hbw; exact ⟨h.c0, h.c1⟩)) ?_
          clear hK y0 y1 g0 g1
          refine wpAnyZ_one (i := 10) (by kernel_rfl) rfl rfl (fun K hK => ?_)
          go_simp
          refine hK.out _ _ (.inl (by omega)) ?_
          clear hK
          refine wpAnyZ_done (by kernel_rfl) ?_ _
          go_wp2_with fail
          go_meet
          exact ⟨b1, p1, q1, r1, t1, rfl, rfl, hbw, hbwK0, HO.out.put hbw, K0.out.other HB.out (by omega), KeptR.put (v' := .slice none 0 0) (u' := .slice none 0 0) (s' := []) (d' := []) HB.out hs1 hd1 HT.out.i1 HT.out.i2⟩
      · skip
        go_simp
        obtain ⟨b1, hb1⟩ : ∃ b, Y.heap.size = b := ⟨_, rfl⟩
        have hba : Below Y.heap.size Y (Y.alloc (.cells #[.slice none 0 0, .slice none 0 0] 24)) := (Below.refl _ _).alloc (Nat.le_refl _) _
        have hbw := HO.out.lt; rw [hb1] at hbw
        have hbwK0 := K0.out.lt; rw [hb1] at hbwK0
        have HO := Lib.hid (HO.out.next hba)
        have K0 := Lib.hid (K0.out.next hba)
        have HB := Lib.hid (Boxed.new hb1)
        rw [hb1]
        refine hK.out _ _ (.inr ⟨HO.out.c0, HO.out.c1⟩) ?_
        clear hK hba hb1
        generalize Y.alloc (.cells #[.slice none 0 0, .slice none 0 0] 24) = Y6 at *
        refine wpAnyZ_oneG (i := 3) (by kernel_rfl) rfl (by rfl) (fun K hK => ?_)
        go_simp
        refine (num_lit Y6 n HN.out).mono ?_
        rintro e' Y7 ⟨a9, c9, rfl, hd9, hb⟩
        have HO := Lib.hid (HO.out.next hb)
        have K0 := Lib.hid (K0.out.next hb)
        have HB := Lib.hid (HB.out.next hb)
        show K _ Y7
        refine hK.out _ _ (.inr ⟨HO.out.c0, HO.out.c1⟩) ?_
        clear hK hb
        refine wpAnyZ_oneG (i := 4) (by kernel_rfl) rfl (by rfl) (fun K hK => ?_)
        go_simp
        have hq := po_any Y7 f _ _ _ _ s d [] [n] (HS.out.below HO.out.b) (HD.out.below HO.out.b) (SlA.nil Y7) hd9
        rw [HM1.out] at hq
        refine hq.mono ?_
        rintro e' Y8 ⟨hr, hb⟩
        obtain ⟨p1, q1, r1, t1, rfl, hs1, hd1⟩ := ret_own (S := []) (D := []) (E := er) hr
        have HO := Lib.hid (HO.out.next hb)
        have K0 := Lib.hid (K0.out.next hb)
        have HB := Lib.hid (HB.out.next hb)
        show K _ Y8
        refine hK.out _ _ (.inr ⟨HO.out.c0, HO.out.c1⟩) ?_
        clear hK hb hq hr hd9
        have hSS : (fun W' : World => W'.cell? ⟨w.heap.size, 0, none⟩ = some (.slice a0 s.length c0) ∧ W'.cell? ⟨w.heap.size, 1, none⟩ = some (.slice a1 d.length c1)) Y8 := ⟨HO.out.c0, HO.out.c1⟩
        refine wpAnyZ_take (i := 5) (v := ?_) rfl (by kernel_rfl) (by kernel_rfl) (by kernel_rfl) (fun _ _ _ h => h) (by kernel_rfl) (Or.inl ⟨by rfl, ?_⟩) (by assumption) ?_
        rotate_left
        · intro w' hSw
          try dsimp only at hSw
          try obtain ⟨hSw, hSw2⟩ := hSw
          go_simp
          try with_reducible rfl
        show wpAnyZ _ _ _ _ _ _ _ _ (Act.put _ (some 25) _) _
        simp only [Act.put, List.setIfInBounds_toArray, List.set_cons_zero, List.set_cons_succ]
        refine wpAnyZ_take (i := 6) (v := ?_) rfl (by kernel_rfl) (by kernel_rfl) (by kernel_rfl) (fun _ _ _ h => h) (by kernel_rfl) (Or.inl ⟨by rfl, ?_⟩) (by assumption) ?_
        rotate_left
        · intro w' hSw
          try dsimp only at hSw
          try obtain ⟨hSw, hSw2⟩ := hSw
          go_simp
          try with_reducible rfl
        show wpAnyZ _ _ _ _ _ _ _ _ (Act.put _ (some 31) _) _
        simp only [Act.put, List.setIfInBounds_toArray, List.set_cons_zero, List.set_cons_succ]
        refine wpAnyZ_take (i := 7) (v := ?_) rfl (by kernel_rfl) (by kernel_rfl) (by kernel_rfl) (fun _ _ _ h => h) (by kernel_rfl) (Or.inl ⟨by rfl, ?_⟩) (by assumption) ?_
        rotate_left
        · intro w' hSw
          try dsimp only at hSw
          try obtain ⟨hSw, hSw2⟩ := hSw
          go_simp
          try with_reducible rfl
        show wpAnyZ _ _ _ _ _ _ _ _ (Act.put _ (some 32) _) _
        simp only [Act.put, List.setIfInBounds_toArray, List.set_cons_zero, List.set_cons_succ]
        clear hSS
        have g0 := frozen_of_row Y8 b1 0 _ _ HB.out; have g1 := frozen_of_row Y8 b1 1 _ _ HB.out
        have y0 := cell_of_row Y8 b1 0 _ _ _ HB.out; have y1 := cell_of_row Y8 b1 1 _ _ _ HB.out
        refine wpAnyZ_oneG (i := 9) (by kernel_rfl) rfl (by rfl) (fun K hK => ?_)
        go_simp
        refine hK.out _ _ (.inr (by have h := HO.out.put (v' := .slice p1 0 q1) (u' := .slice r1 0 t1) hbw; exact ⟨h.c0, h.c1⟩)) ?_
        clear hK y0 y1 g0 g1
        refine wpAnyZ_one (i := 10) (by kernel_rfl) rfl rfl (fun K hK => ?_)
        go_simp
        refine hK.out _ _ (.inl (by omega)) ?_
        clear hK
        refine wpAnyZ_done (by kernel_rfl) ?_ _
        go_wp2_with fail
        go_meet
        exact ⟨b1, p1, q1, r1, t1, rfl, rfl, hbw, hbwK0, HO.out.put hbw, K0.out.other HB.out (by omega), KeptR.put (v' := .slice none 0 0) (u' := .slice none 0 0) (s' := []) (d' := []) HB.out hs1 hd1 HT.out.i1 HT.out.i2⟩
    case rest =>
      clear HO K0
      obtain ⟨b1, p1, q1, r1, t1, rfl, rfl, hbw1, hbw1K0, hHO, hK0, hK1⟩ := hcut
      have HO := Lib.hid hHO
      have K0 := Lib.hid hK0
      have K1 := Lib.hid hK1
      clear hHO hK0 hK1
      go_upto_region 4 with fail
      refine gen_worldA (fun W => BoxA w W (.slice a0 s.length c0) (.slice a1 d.length c1) ∧ KeptR W b0 (.slice p0 0 q0) (.slice r0 0 t0) [] [] ∧ KeptR W b1 (.slice p1 0 q1) (.slice r1 0 t1) [] []) ⟨HO.out, K0.out, K1.out⟩ ?_
      rintro V4 ⟨hHO, hK0, hK1⟩
      clear HO K0 K1
      have HO := Lib.hid hHO
      have K0 := Lib.hid hK0
      have K1 := Lib.hid hK1
      clear hHO hK0 hK1
      have x0 := HO.out.c0; have x1 := HO.out.c1
      have HQ0 := Lib.hid (HK.out V4)
      clear HK
      go_wp2_with fail
      refine HQ0.out.mono ?_
      rintro e' V5 ⟨rfl, rfl⟩
      clear HQ0
      have hq := aright_sl V4 _ _ s d (HS.out.below HO.out.b) (HD.out.below HO.out.b)
      rw [HR.out] at hq
      have HQ := Lib.hid hq
      clear hq
      go_wp2_with fail
      refine HQ.out.mono ?_
      rintro e' V6 ⟨rfl, hb⟩
      have HO := Lib.hid (HO.out.next hb)
      clear HQ hb x0 x1
      go_wp2_with fail
      go_ret
      exact ⟨rfl, HO.out.b⟩
set_option maxHeartbeats 16000000 in
theorem PrimOuterOne_yes (w : World) (f n : Int) (va vb : Value) (s d : List Int) (hn : In64 n) (hs : SlA w va s) (hd : SlA w vb d) (htk : takes f true = true) (hr : right s d = true) :
    Calls Try.prog 10 #[.int .u8 f, .int .i64 n, .agg #[va, vb]] w fun e w' => e = .returned (.bool true) ∧ Below w.heap.size w w' := by
  have HS := Lib.hid hs; have HD := Lib.hid hd; have HN := Lib.hid hn
  have hn1 : ∀ x ∈ [n], In64 x := fun x hx => by rw [List.mem_singleton.1 hx]; exact hn
  have hm0 := outer_one_l (n := n) htk hr; have hm1 := outer_one_r (n := n) htk hr
  have ht0 := dyadA_rt f (s := []) (t := s) hn1 (in_of hd); have ht1 := dyadA_rt f (s := s) (t := []) (in_of hd) hn1
  obtain ⟨r0, hr0⟩ : ∃ r, dyadA f [] [n] s d = r := ⟨_, rfl⟩
  obtain ⟨r1, hr1⟩ : ∃ r, dyadA f s d [] [n] = r := ⟨_, rfl⟩
  rw [hr0] at hm0 ht0; rw [hr1] at hm1 ht1
  obtain ⟨⟨S0, D0⟩, E0⟩ := r0
  obtain ⟨⟨S1, D1⟩, E1⟩ := r1
  have hE0 : (E0 == E0) = true := by simp
  have hE1 : (E1 == E1) = true := by simp
  have HM0 := Lib.hid hm0; have HM1 := Lib.hid hm1; have HM2 := Lib.hid hr0; have HM3 := Lib.hid hr1; have HT0 := Lib.hid ht0; have HT1 := Lib.hid ht1
  have HK := Lib.hid (fun W => takes_at W f true true htk); have HR := Lib.hid hr
  obtain ⟨a0, c0, rfl, -⟩ := hs
  obtain ⟨a1, c1, rfl, -⟩ := hd
  clear hn hm0 hm1 hr0 hr1 ht0 ht1 hn1 htk hr
  go_enter Try.func10, Try.ntmps10
  go_upto_region 1 with fail
  refine gen_worldA (fun W => BoxA w W (.slice a0 s.length c0) (.slice a1 d.length c1)) (BoxA.mk0 _ _ _) ?_
  rintro W hO
  have HO := Lib.hid hO
  clear hO
  go_wp2_with fail
  refine (shown_any _).mono ?_
  rintro e' V0 ⟨rfl, hb⟩
  have HO := Lib.hid (HO.out.next hb)
  clear hb
  go_upto_region 2 with fail
  refine gen_worldA (fun W => BoxA w W (.slice a0 s.length c0) (.slice a1 d.length c1)) HO.out ?_
  rintro V0 hHO
  clear HO
  have HO := Lib.hid hHO
  clear hHO
  go_cut [8, 9] (fun s8 s9 wx => ∃ b0 p0 q0 r0 t0, s8 = .pointer (some ⟨b0, 0, none⟩) ∧ s9 = .int .i64 E0 ∧ w.heap.size < b0 ∧ BoxA w wx (.slice a0 s.length c0) (.slice a1 d.length c1) ∧ KeptR wx b0 (.slice p0 S0.length q0) (.slice r0 D0.length t0) S0 D0)
  case first =>
    refine wp_region_Z (S := fun W' => W'.cell? ⟨w.heap.size, 0, none⟩ = some (.slice a0 s.length c0) ∧ W'.cell? ⟨w.heap.size, 1, none⟩ = some (.slice a1 d.length c1)) (z := 10) (by kernel_rfl) ?_
    have hdr : Below V0.heap.size V0 V0.drew := (Below.refl _ _).drew
    have HO := Lib.hid (HO.out.next hdr)
    clear hdr
    generalize V0.drew = Y at HO ⊢
    have hSS : (fun W' : World => W'.cell? ⟨w.heap.size, 0, none⟩ = some (.slice a0 s.length c0) ∧ W'.cell? ⟨w.heap.size, 1, none⟩ = some (.slice a1 d.length c1)) Y := ⟨HO.out.c0, HO.out.c1⟩
    refine wpAnyZ_take (i := 0) (v := ?_) rfl (by kernel_rfl) (by kernel_rfl) (by kernel_rfl) (fun _ _ _ h => h) (by kernel_rfl) (Or.inl ⟨by rfl, ?_⟩) (by assumption) ?_
    rotate_left
    · intro w' hSw
      try dsimp only at hSw
      try obtain ⟨hSw, hSw2⟩ := hSw
      go_simp
      try with_reducible rfl
    show wpAnyZ _ _ _ _ _ _ _ _ (Act.put _ (some 18) _) _
    simp only [Act.put, List.setIfInBounds_toArray, List.set_cons_zero, List.set_cons_succ]
    refine wpAnyZ_take (i := 1) (v := ?_) rfl (by kernel_rfl) (by kernel_rfl) (by kernel_rfl) (fun _ _ _ h => h) (by kernel_rfl) (Or.inl ⟨by rfl, ?_⟩) (by assumption) ?_
    rotate_left
    · intro w' hSw
      try dsimp only at hSw
      try obtain ⟨hSw, hSw2⟩ := hSw
      go_simp
      try with_reducible rfl
    show wpAnyZ _ _ _ _ _ _ _ _ (Act.put _ (some 19) _) _
    simp only [Act.put, List.setIfInBounds_toArray, List.set_cons_zero, List.set_cons_succ]
    refine wpAnyZ_take (i := 3) (v := ?_) rfl (by kernel_rfl) (by kernel_rfl) (by kernel_rfl) (fun _ _ _ h => h) (by kernel_rfl) (Or.inl ⟨by rfl, ?_⟩) (by assumption) ?_
    rotate_left
    · intro w' hSw
      try dsimp only at hSw
      try obtain ⟨hSw, hSw2⟩ := hSw
      go_simp
      try with_reducible rfl
    show wpAnyZ _ _ _ _ _ _ _ _ (Act.put _ (some 21) _) _
    simp only [Act.put, List.setIfInBounds_toArray, List.set_cons_zero, List.set_cons_succ]
    clear hSS
    refine wpAnyZ_twoG (i := 2) (j := 8) (by kernel_rfl) rfl rfl (by rfl) (by rfl) (fun K hK => ?_) (fun K hK => ?_)
    · skip
      go_simp
      refine (num_lit Y n HN.out).mono ?_
      rintro e' Y1 ⟨a9, c9, rfl, hd9, hb⟩
      have HO := Lib.hid (HO.out.next hb)
      show K _ Y1
      refine hK.out _ _ (.inr ⟨HO.out.c0, HO.out.c1⟩) ?_
      clear hK hb
      refine wpAnyZ_twoG (i := 4) (j := 8) (by kernel_rfl) rfl rfl (by rfl) (by rfl) (fun K hK => ?_) (fun K hK => ?_)
      · skip
        go_simp
        have hq := po_any Y1 f _ _ _ _ [] [n] s d (SlA.nil Y1) hd9 (HS.out.below HO.out.b) (HD.out.below HO.out.b)
        rw [HM0.out] at hq
        refine hq.mono ?_
        rintro e' Y2 ⟨hr, hb⟩
        obtain ⟨p0, q0, r0, t0, rfl, hs0, hd0⟩ := ret_own (S := S0) (D := D0) (E := E0) hr
        have HO := Lib.hid (HO.out.next hb)
        show K _ Y2
        refine hK.out _ _ (.inr ⟨HO.out.c0, HO.out.c1⟩) ?_
        clear hK hb hq hr hd9
        have hSS : (fun W' : World => W'.cell? ⟨w.heap.size, 0, none⟩ = some (.slice a0 s.length c0) ∧ W'.cell? ⟨w.heap.size, 1, none⟩ = some (.slice a1 d.length c1)) Y2 := ⟨HO.out.c0, HO.out.c1⟩
        refine wpAnyZ_take (i := 5) (v := ?_) rfl (by kernel_rfl) (by kernel_rfl) (by kernel_rfl) (fun _ _ _ h => h) (by kernel_rfl) (Or.inl ⟨by rfl, ?_⟩) (by assumption) ?_
        rotate_left
        · intro w' hSw
          try dsimp only at hSw
          try obtain ⟨hSw, hSw2⟩ := hSw
          go_simp
          try with_reducible rfl
        show wpAnyZ _ _ _ _ _ _ _ _ (Act.put _ (some 17) _) _
        simp only [Act.put, List.setIfInBounds_toArray, List.set_cons_zero, List.set_cons_succ]
        refine wpAnyZ_take (i := 6) (v := ?_) rfl (by kernel_rfl) (by kernel_rfl) (by kernel_rfl) (fun _ _ _ h => h) (by kernel_rfl) (Or.inl ⟨by rfl, ?_⟩) (by assumption) ?_
        rotate_left
        · intro w' hSw
          try dsimp only at hSw
          try obtain ⟨hSw, hSw2⟩ := hSw
          go_simp
          try with_reducible rfl
        show wpAnyZ _ _ _ _ _ _ _ _ (Act.put _ (some 23) _) _
        simp only [Act.put, List.setIfInBounds_toArray, List.set_cons_zero, List.set_cons_succ]
        refine wpAnyZ_take (i := 7) (v := ?_) rfl (by kernel_rfl) (by kernel_rfl) (by kernel_rfl) (fun _ _ _ h => h) (by kernel_rfl) (Or.inl ⟨by rfl, ?_⟩) (by assumption) ?_
        rotate_left
        · intro w' hSw
          try dsimp only at hSw
          try obtain ⟨hSw, hSw2⟩ := hSw
          go_simp
          try with_reducible rfl
        show wpAnyZ _ _ _ _ _ _ _ _ (Act.put _ (some 24) _) _
        simp only [Act.put, List.setIfInBounds_toArray, List.set_cons_zero, List.set_cons_succ]
        clear hSS
        refine wpAnyZ_oneG (i := 8) (by kernel_rfl) rfl (by rfl) (fun K hK => ?_)
        go_simp
        obtain ⟨b0, hb0⟩ : ∃ b, Y2.heap.size = b := ⟨_, rfl⟩
        have hba : Below Y2.heap.size Y2 (Y2.alloc (.cells #[.slice none 0 0, .slice none 0 0] 24)) := (Below.refl _ _).alloc (Nat.le_refl _) _
        have hbw := HO.out.lt; rw [hb0] at hbw
        have HO := Lib.hid (HO.out.next hba)
        have HB := Lib.hid (Boxed.new hb0)
        have hs0 := hs0.below hba; have hd0 := hd0.below hba
        rw [hb0]
        refine hK.out _ _ (.inr ⟨HO.out.c0, HO.out.c1⟩) ?_
        clear hK hba hb0
        generalize Y2.alloc (.cells #[.slice none 0 0, .slice none 0 0] 24) = Y3 at *
        have g0 := frozen_of_row Y3 b0 0 _ _ HB.out; have g1 := frozen_of_row Y3 b0 1 _ _ HB.out
        have y0 := cell_of_row Y3 b0 0 _ _ _ HB.out; have y1 := cell_of_row Y3 b0 1 _ _ _ HB.out
        refine wpAnyZ_oneG (i := 9) (by kernel_rfl) rfl (by rfl) (fun K hK => ?_)
        go_simp
        refine hK.out _ _ (.inr (by have h := HO.out.put (v' := .slice p0 S0.length q0) (u' := .slice r0 D0.length t0) hbw; exact ⟨h.c0, h.c1⟩)) ?_
        clear hK y0 y1 g0 g1
        refine wpAnyZ_one (i := 10) (by kernel_rfl) rfl rfl (fun K hK => ?_)
        go_simp
        refine hK.out _ _ (.inl (by omega)) ?_
        clear hK
        refine wpAnyZ_done (by kernel_rfl) ?_ _
        go_wp2_with fail
        go_meet
        exact ⟨b0, p0, q0, r0, t0, rfl, rfl, hbw, HO.out.put hbw, KeptR.put (v' := .slice none 0 0) (u' := .slice none 0 0) (s' := []) (d' := []) HB.out hs0 hd0 HT0.out.i1 HT0.out.i2⟩
      · skip
        go_simp
        obtain ⟨b0, hb0⟩ : ∃ b, Y1.heap.size = b := ⟨_, rfl⟩
        have hba : Below Y1.heap.size Y1 (Y1.alloc (.cells #[.slice none 0 0, .slice none 0 0] 24)) := (Below.refl _ _).alloc (Nat.le_refl _) _
        have hbw := HO.out.lt; rw [hb0] at hbw
        have HO := Lib.hid (HO.out.next hba)
        have HB := Lib.hid (Boxed.new hb0)
        have hd9 := hd9.below hba
        rw [hb0]
        refine hK.out _ _ (.inr ⟨HO.out.c0, HO.out.c1⟩) ?_
        clear hK hba hb0
        generalize Y1.alloc (.cells #[.slice none 0 0, .slice none 0 0] 24) = Y4 at *
        refine wpAnyZ_oneG (i := 4) (by kernel_rfl) rfl (by rfl) (fun K hK => ?_)
        go_simp
        have hq := po_any Y4 f _ _ _ _ [] [n] s d (SlA.nil Y4) hd9 (HS.out.below HO.out.b) (HD.out.below HO.out.b)
        rw [HM0.out] at hq
        refine hq.mono ?_
        rintro e' Y5 ⟨hr, hb⟩
        obtain ⟨p0, q0, r0, t0, rfl, hs0, hd0⟩ := ret_own (S := S0) (D := D0) (E := E0) hr
        have HO := Lib.hid (HO.out.next hb)
        have HB := Lib.hid (HB.out.next hb)
        show K _ Y5
        refine hK.out _ _ (.inr ⟨HO.out.c0, HO.out.c1⟩) ?_
        clear hK hb hq hr hd9
        have hSS : (fun W' : World => W'.cell? ⟨w.heap.size, 0, none⟩ = some (.slice a0 s.length c0) ∧ W'.cell? ⟨w.heap.size, 1, none⟩ = some (.slice a1 d.length c1)) Y5 := ⟨HO.out.c0, HO.out.c1⟩
        refine wpAnyZ_take (i := 5) (v := ?_) rfl (by kernel_rfl) (by kernel_rfl) (by kernel_rfl) (fun _ _ _ h => h) (by kernel_rfl) (Or.inl ⟨by rfl, ?_⟩) (by assumption) ?_
        rotate_left
        · intro w' hSw
          try dsimp only at hSw
          try obtain ⟨hSw, hSw2⟩ := hSw
          go_simp
          try with_reducible rfl
        show wpAnyZ _ _ _ _ _ _ _ _ (Act.put _ (some 17) _) _
        simp only [Act.put, List.setIfInBounds_toArray, List.set_cons_zero, List.set_cons_succ]
        refine wpAnyZ_take (i := 6) (v := ?_) rfl (by kernel_rfl) (by kernel_rfl) (by kernel_rfl) (fun _ _ _ h => h) (by kernel_rfl) (Or.inl ⟨by rfl, ?_⟩) (by assumption) ?_
        rotate_left
        · intro w' hSw
          try dsimp only at hSw
          try obtain ⟨hSw, hSw2⟩ := hSw
          go_simp
          try with_reducible rfl
        show wpAnyZ _ _ _ _ _ _ _ _ (Act.put _ (some 23) _) _
        simp only [Act.put, List.setIfInBounds_toArray, List.set_cons_zero, List.set_cons_succ]
        refine wpAnyZ_take (i := 7) (v := ?_) rfl (by kernel_rfl) (by kernel_rfl) (by kernel_rfl) (fun _ _ _ h => h) (by kernel_rfl) (Or.inl ⟨by rfl, ?_⟩) (by assumption) ?_
        rotate_left
        · intro w' hSw
          try dsimp only at hSw
          try obtain ⟨hSw, hSw2⟩ := hSw
          go_simp
          try with_reducible rfl
        show wpAnyZ _ _ _ _ _ _ _ _ (Act.put _ (some 24) _) _
        simp only [Act.put, List.setIfInBounds_toArray, List.set_cons_zero, List.set_cons_succ]
        clear hSS
        have g0 := frozen_of_row Y5 b0 0 _ _ HB.out; have g1 := frozen_of_row Y5 b0 1 _ _ HB.out
        have y0 := cell_of_row Y5 b0 0 _ _ _ HB.out; have y1 := cell_of_row Y5 b0 1 _ _ _ HB.out
        refine wpAnyZ_oneG (i := 9) (by kernel_rfl) rfl (by rfl) (fun K hK => ?_)
        go_simp
        refine hK.out _ _ (.inr (by have h := HO.out.put (v' := .slice p0 S0.length q0) (u' := .slice r0 D0.length t0) hbw; exact ⟨h.c0, h.c1⟩)) ?_
        clear hK y0 y1 g0 g1
        refine wpAnyZ_one (i := 10) (by kernel_rfl) rfl rfl (fun K hK => ?_)
        go_simp
        refine hK.out _ _ (.inl (by omega)) ?_
        clear hK
        refine wpAnyZ_done (by kernel_rfl) ?_ _
        go_wp2_with fail
        go_meet
        exact ⟨b0, p0, q0, r0, t0, rfl, rfl, hbw, HO.out.put hbw, KeptR.put (v' := .slice none 0 0) (u' := .slice none 0 0) (s' := []) (d' := []) HB.out hs0 hd0 HT0.out.i1 HT0.out.i2⟩
    · skip
      go_simp
      obtain ⟨b0, hb0⟩ : ∃ b, Y.heap.size = b := ⟨_, rfl⟩
      have hba : Below Y.heap.size Y (Y.alloc (.cells #[.slice none 0 0, .slice none 0 0] 24)) := (Below.refl _ _).alloc (Nat.le_refl _) _
      have hbw := HO.out.lt; rw [hb0] at hbw
      have HO := Lib.hid (HO.out.next hba)
      have HB := Lib.hid (Boxed.new hb0)
      rw [hb0]
      refine hK.out _ _ (.inr ⟨HO.out.c0, HO.out.c1⟩) ?_
      clear hK hba hb0
      generalize Y.alloc (.cells #[.slice none 0 0, .slice none 0 0] 24) = Y6 at *
      refine wpAnyZ_oneG (i := 2) (by kernel_rfl) rfl (by rfl) (fun K hK => ?_)
      go_simp
      refine (num_lit Y6 n HN.out).mono ?_
      rintro e' Y7 ⟨a9, c9, rfl, hd9, hb⟩
      have HO := Lib.hid (HO.out.next hb)
      have HB := Lib.hid (HB.out.next hb)
      show K _ Y7
      refine hK.out _ _ (.inr ⟨HO.out.c0, HO.out.c1⟩) ?_
      clear hK hb
      refine wpAnyZ_oneG (i := 4) (by kernel_rfl) rfl (by rfl) (fun K hK => ?_)
      go_simp
      have hq := po_any Y7 f _ _ _ _ [] [n] s d (SlA.nil Y7) hd9 (HS.out.below HO.out.b) (HD.out.below HO.out.b)
      rw [HM0.out] at hq
      refine hq.mono ?_
      rintro e' Y8 ⟨hr, hb⟩
      obtain ⟨p0, q0, r0, t0, rfl, hs0, hd0⟩ := ret_own (S := S0) (D := D0) (E := E0) hr
      have HO := Lib.hid (HO.out.next hb)
      have HB := Lib.hid (HB.out.next hb)
      show K _ Y8
      refine hK.out _ _ (.inr ⟨HO.out.c0, HO.out.c1⟩) ?_
      clear hK hb hq hr hd9
      have hSS : (fun W' : World => W'.cell? ⟨w.heap.size, 0, none⟩ = some (.slice a0 s.length c0) ∧ W'.cell? ⟨w.heap.size, 1, none⟩ = some (.slice a1 d.length c1)) Y8 := ⟨HO.out.c0, HO.out.c1⟩
      refine wpAnyZ_take (i := 5) (v := ?_) rfl (by kernel_rfl) (by kernel_rfl) (by kernel_rfl) (fun _ _ _ h => h) (by kernel_rfl) (Or.inl ⟨by rfl, ?_⟩) (by assumption) ?_
      rotate_left
      · intro w' hSw
        try dsimp only at hSw
        try obtain ⟨hSw, hSw2⟩ := hSw
        go_simp
        try with_reducible rfl
      show wpAnyZ _ _ _ _ _ _ _ _ (Act.put _ (some 17) _) _
      simp only [Act.put, List.setIfInBounds_toArray, List.set_cons_zero, List.set_cons_succ]
      refine wpAnyZ_take (i := 6) (v := ?_) rfl (by kernel_rfl) (by kernel_rfl) (by kernel_rfl) (fun _ _ _ h => h) (by kernel_rfl) (Or.inl ⟨by rfl, ?_⟩) (by assumption) ?_
      rotate_left
      · intro w' hSw
        try dsimp only at hSw
        try obtain ⟨hSw, hSw2⟩ := hSw
        go_simp
        try with_reducible rfl
      show wpAnyZ _ _ _ _ _ _ _ _ (Act.put _ (some 23) _) _
      simp only [Act.put, List.setIfInBounds_toArray, List.set_cons_zero, List.set_cons_succ]
      refine wpAnyZ_take (i := 7) (v := ?_) rfl (by kernel_rfl) (by kernel_rfl) (by kernel_rfl) (fun _ _ _ h => h) (by kernel_rfl) (Or.inl ⟨by rfl, ?_⟩) (by assumption) ?_
      rotate_left
      · intro w' hSw
        try dsimp only at hSw
        try obtain ⟨hSw, hSw2⟩ := hSw
        go_simp
        try with_reducible rfl
      show wpAnyZ _ _ _ _ _ _ _ _ (Act.put _ (some 24) _) _
      simp only [Act.put, List.setIfInBounds_toArray, List.set_cons_zero, List.set_cons_succ]
      clear hSS
      have g0 := frozen_of_row Y8 b0 0 _ _ HB.out; have g1 := frozen_of_row Y8 b0 1 _ _ HB.out
      have y0 := cell_of_row Y8 b0 0 _ _ _ HB.out; have y1 := cell_of_row Y8 b0 1 _ _ _ HB.out
      refine wpAnyZ_oneG (i := 9) (by kernel_rfl) rfl (by rfl) (fun K hK => ?_)
      go_simp
      refine hK.out _ _ (.inr (by have h := HO.out.put (v' := .slice p0 S0.length q0) (u' := .slice r0 D0.length t0) hbw; exact ⟨h.c0, h.c1⟩)) ?_
      clear hK y0 y1 g0 g1
      refine wpAnyZ_one (i := 10) (by kernel_rfl) rfl rfl (fun K hK => ?_)
      go_simp
      refine hK.out _ _ (.inl (by omega)) ?_
      clear hK
      refine wpAnyZ_done (by kernel_rfl) ?_ _
      go_wp2_with fail
      go_meet
      exact ⟨b0, p0, q0, r0, t0, rfl, rfl, hbw, HO.out.put hbw, KeptR.put (v' := .slice none 0 0) (u' := .slice none 0 0) (s' := []) (d' := []) HB.out hs0 hd0 HT0.out.i1 HT0.out.i2⟩
  case rest =>
    clear HO
    obtain ⟨b0, p0, q0, r0, t0, rfl, rfl, hbw0, hHO, hK0⟩ := hcut
    have HO := Lib.hid hHO
    have K0 := Lib.hid hK0
    clear hHO hK0
    go_upto_region 3 with fail
    refine gen_worldA (fun W => BoxA w W (.slice a0 s.length c0) (.slice a1 d.length c1) ∧ KeptR W b0 (.slice p0 S0.length q0) (.slice r0 D0.length t0) S0 D0) ⟨HO.out, K0.out⟩ ?_
    rintro V1 ⟨hHO, hK0⟩
    clear HO K0
    have HO := Lib.hid hHO
    have K0 := Lib.hid hK0
    clear hHO hK0
    go_cut [10, 11] (fun s10 s11 wx => ∃ b1 p1 q1 r1 t1, s10 = .pointer (some ⟨b1, 0, none⟩) ∧ s11 = .int .i64 E1 ∧ w.heap.size < b1 ∧ b0 < b1 ∧ BoxA w wx (.slice a0 s.length c0) (.slice a1 d.length c1) ∧ KeptR wx b0 (.slice p0 S0.length q0) (.slice r0 D0.length t0) S0 D0 ∧ KeptR wx b1 (.slice p1 S1.length q1) (.slice r1 D1.length t1) S1 D1)
    case first =>
      refine wp_region_Z (S := fun W' => W'.cell? ⟨w.heap.size, 0, none⟩ = some (.slice a0 s.length c0) ∧ W'.cell? ⟨w.heap.size, 1, none⟩ = some (.slice a1 d.length c1)) (z := 10) (by kernel_rfl) ?_
      have hdr : Below V1.heap.size V1 V1.drew := (Below.refl _ _).drew
      have HO := Lib.hid (HO.out.next hdr)
      have K0 := Lib.hid (K0.out.next hdr)
      clear hdr
      generalize V1.drew = Y at HO K0 ⊢
      have hSS : (fun W' : World => W'.cell? ⟨w.heap.size, 0, none⟩ = some (.slice a0 s.length c0) ∧ W'.cell? ⟨w.heap.size, 1, none⟩ = some (.slice a1 d.length c1)) Y := ⟨HO.out.c0, HO.out.c1⟩
      refine wpAnyZ_take (i := 0) (v := ?_) rfl (by kernel_rfl) (by kernel_rfl) (by kernel_rfl) (fun _ _ _ h => h) (by kernel_rfl) (Or.inl ⟨by rfl, ?_⟩) (by assumption) ?_
      rotate_left
      · intro w' hSw
        try dsimp only at hSw
        try obtain ⟨hSw, hSw2⟩ := hSw
        go_simp
        try with_reducible rfl
      show wpAnyZ _ _ _ _ _ _ _ _ (Act.put _ (some 26) _) _
      simp only [Act.put, List.setIfInBounds_toArray, List.set_cons_zero, List.set_cons_succ]
      refine wpAnyZ_take (i := 2) (v := ?_) rfl (by kernel_rfl) (by kernel_rfl) (by kernel_rfl) (fun _ _ _ h => h) (by kernel_rfl) (Or.inl ⟨by rfl, ?_⟩) (by assumption) ?_
      rotate_left
      · intro w' hSw
        try dsimp only at hSw
        try obtain ⟨hSw, hSw2⟩ := hSw
        go_simp
        try with_reducible rfl
      show wpAnyZ _ _ _ _ _ _ _ _ (Act.put _ (some 28) _) _
      simp only [Act.put, List.setIfInBounds_toArray, List.set_cons_zero, List.set_cons_succ]
      refine wpAnyZ_take (i := 1) (v := ?_) rfl (by kernel_rfl) (by kernel_rfl) (by kernel_rfl) (fun _ _ _ h => h) (by kernel_rfl) (Or.inl ⟨by rfl, ?_⟩) (by assumption) ?_
      rotate_left
      · intro w' hSw
        try dsimp only at hSw
        try obtain ⟨hSw, hSw2⟩ := hSw
        go_simp
        try with_reducible rfl
      show wpAnyZ _ _ _ _ _ _ _ _ (Act.put _ (some 27) _) _
      simp only [Act.put, List.setIfInBounds_toArray, List.set_cons_zero, List.set_cons_succ]
      clear hSS
      refine wpAnyZ_twoG (i := 3) (j := 8) (by kernel_rfl) rfl rfl (by rfl) (by rfl) (fun K hK => ?_) (fun K hK => ?_)
      · skip
        go_simp
        refine (num_lit Y n HN.out).mono ?_
        rintro e' Y1 ⟨a9, c9, rfl, hd9, hb⟩
        have HO := Lib.hid (HO.out.next hb)
        have K0 := Lib.hid (K0.out.next hb)
        show K _ Y1
        refine hK.out _ _ (.inr ⟨HO.out.c0, HO.out.c1⟩) ?_
        clear hK hb
        refine wpAnyZ_twoG (i := 4) (j := 8) (by kernel_rfl) rfl rfl (by rfl) (by rfl) (fun K hK => ?_) (fun K hK => ?_)
        · skip
          go_simp
          have hq := po_any Y1 f _ _ _ _ s d [] [n] (HS.out.below HO.out.b) (HD.out.below HO.out.b) (SlA.nil Y1) hd9
          rw [HM1.out] at hq
          refine hq.mono ?_
          rintro e' Y2 ⟨hr, hb⟩
          obtain ⟨p1, q1, r1, t1, rfl, hs1, hd1⟩ := ret_own (S := S1) (D := D1) (E := E1) hr
          have HO := Lib.hid (HO.out.next hb)
          have K0 := Lib.hid (K0.out.next hb)
          show K _ Y2
          refine hK.out _ _ (.inr ⟨HO.out.c0, HO.out.c1⟩) ?_
          clear hK hb hq hr hd9
          have hSS : (fun W' : World => W'.cell? ⟨w.heap.size, 0, none⟩ = some (.slice a0 s.length c0) ∧ W'.cell? ⟨w.heap.size, 1, none⟩ = some (.slice a1 d.length c1)) Y2 := ⟨HO.out.c0, HO.out.c1⟩
          refine wpAnyZ_take (i := 5) (v := ?_) rfl (by kernel_rfl) (by kernel_rfl) (by kernel_rfl) (fun _ _ _ h => h) (by kernel_rfl) (Or.inl ⟨by rfl, ?_⟩) (by assumption) ?_
          rotate_left
          · intro w' hSw
            try dsimp only at hSw
            try obtain ⟨hSw, hSw2⟩ := hSw
            go_simp
            try with_reducible rfl
          show wpAnyZ _ _ _ _ _ _ _ _ (Act.put _ (some 25) _) _
          simp only [Act.put, List.setIfInBounds_toArray, List.set_cons_zero, List.set_cons_succ]
          refine wpAnyZ_take (i := 6) (v := ?_) rfl (by kernel_rfl) (by kernel_rfl) (by kernel_rfl) (fun _ _ _ h => h) (by kernel_rfl) (Or.inl ⟨by rfl, ?_⟩) (by assumption) ?_
          rotate_left
          · intro w' hSw
            try dsimp only at hSw
            try obtain ⟨hSw, hSw2⟩ := hSw
            go_simp
            try with_reducible rfl
          show wpAnyZ _ _ _ _ _ _ _ _ (Act.put _ (some 31) _) _
          simp only [Act.put, List.setIfInBounds_toArray, List.set_cons_zero, List.set_cons_succ]
          refine wpAnyZ_take (i := 7) (v := ?_) rfl (by kernel_rfl) (by kernel_rfl) (by kernel_rfl) (fun _ _ _ h => h) (by kernel_rfl) (Or.inl ⟨by rfl, ?_⟩) (by assumption) ?_
          rotate_left
          · intro w' hSw
            try dsimp only at hSw
            try obtain ⟨hSw, hSw2⟩ := hSw
            go_simp
            try with_reducible rfl
          show wpAnyZ _ _ _ _ _ _ _ _ (Act.put _ (some 32) _) _
          simp only [Act.put, List.setIfInBounds_toArray, List.set_cons_zero, List.set_cons_succ]
          clear hSS
          refine wpAnyZ_oneG (i := 8) (by kernel_rfl) rfl (by rfl) (fun K hK => ?_)
          go_simp
          obtain ⟨b1, hb1⟩ : ∃ b, Y2.heap.size = b := ⟨_, rfl⟩
          have hba : Below Y2.heap.size Y2 (Y2.alloc (.cells #[.slice none 0 0, .slice none 0 0] 24)) := (Below.refl _ _).alloc (Nat.le_refl _) _
          have hbw := HO.out.lt; rw [hb1] at hbw
          have hbwK0 := K0.out.lt; rw [hb1] at hbwK0
          have HO := Lib.hid (HO.out.next hba)
          have K0 := Lib.hid (K0.out.next hba)
          have HB := Lib.hid (Boxed.new hb1)
          have hs1 := hs1.below hba; have hd1 := hd1.below hba
          rw [hb1]
          refine hK.out _ _ (.inr ⟨HO.out.c0, HO.out.c1⟩) ?_
          clear hK hba hb1
          generalize Y2.alloc (.cells #[.slice none 0 0, .slice none 0 0] 24) = Y3 at *
          have g0 := frozen_of_row Y3 b1 0 _ _ HB.out; have g1 := frozen_of_row Y3 b1 1 _ _ HB.out
          have y0 := cell_of_row Y3 b1 0 _ _ _ HB.out; have y1 := cell_of_row Y3 b1 1 _ _ _ HB.out
          refine wpAnyZ_oneG (i := 9) (by kernel_rfl) rfl (by rfl) (fun K hK => ?_)
          go_simp
          refine hK.out _ _ (.inr (by have h := HO.out.put (v' := .slice p1 S1.length q1) (u' := .slice r1 D1.length t1) hbw; exact ⟨h.c0, h.c1⟩)) ?_
          clear hK y0 y1 g0 g1
          refine wpAnyZ_one (i := 10) (by kernel_rfl) rfl rfl (fun K hK => ?_)
          go_simp
          refine hK.out _ _ (.inl (by omega)) ?_
          clear hK
          refine wpAnyZ_done (by kernel_rfl) ?_ _
          go_wp2_with fail
          go_meet
          exact ⟨b1, p1, q1, r1, t1, rfl, rfl, hbw, hbwK0, HO.out.put hbw, K0.out.other HB.out (by omega), KeptR.put (v' := .slice none 0 0) (u' := .slice none 0 0) (s' := []) (d' := []) HB.out hs1 hd1 HT1.out.i1 HT1.out.i2⟩
        · skip
          go_simp
          obtain ⟨b1, hb1⟩ : ∃ b, Y1.heap.size = b := ⟨_, rfl⟩
          have hba : Below Y1.heap.size Y1 (Y1.alloc (.cells #[.slice none 0 0, .slice none 0 0] 24)) := (Below.refl _ _).alloc (Nat.le_refl _) _
          have hbw := HO.out.lt; rw [hb1] at hbw
          have hbwK0 := K0.out.lt; rw [hb1] at hbwK0
          have HO := Lib.hid (HO.out.next hba)
          have K0 := Lib.hid (K0.out.next hba)
          have HB := Lib.hid (Boxed.new hb1)
          have hd9 := hd9.below hba
          rw [hb1]
          refine hK.out _ _ (.inr ⟨HO.out.c0, HO.out.c1⟩) ?_
          clear hK hba hb1
          generalize Y1.alloc (.cells #[.slice none 0 0, .slice none 0 0] 24) = Y4 at *
          refine wpAnyZ_oneG (i := 4) (by kernel_rfl) rfl (by rfl) (fun K hK => ?_)
          go_simp
          have hq := po_any Y4 f _ _ _ _ s d [] [n] (HS.out.below HO.out.b) (HD.out.below HO.out.b) (SlA.nil Y4) hd9
          rw [HM1.out] at hq
          refine hq.mono ?_
          rintro e' Y5 ⟨hr, hb⟩
          obtain ⟨p1, q1, r1, t1, rfl, hs1, hd1⟩ := ret_own (S := S1) (D := D1) (E := E1) hr
          have HO := Lib.hid (HO.out.next hb)
          have K0 := Lib.hid (K0.out.next hb)
          have HB := Lib.hid (HB.out.next hb)
          show K _ Y5
          refine hK.out _ _ (.inr ⟨HO.out.c0, HO.out.c1⟩) ?_
          clear hK hb hq hr hd9
          have hSS : (fun W' : World => W'.cell? ⟨w.heap.size, 0, none⟩ = some (.slice a0 s.length c0) ∧ W'.cell? ⟨w.heap.size, 1, none⟩ = some (.slice a1 d.length c1)) Y5 := ⟨HO.out.c0, HO.out.c1⟩
          refine wpAnyZ_take (i := 5) (v := ?_) rfl (by kernel_rfl) (by kernel_rfl) (by kernel_rfl) (fun _ _ _ h => h) (by kernel_rfl) (Or.inl ⟨by rfl, ?_⟩) (by assumption) ?_
          rotate_left
          · intro w' hSw
            try dsimp only at hSw
            try obtain ⟨hSw, hSw2⟩ := hSw
            go_simp
            try with_reducible rfl
          show wpAnyZ _ _ _ _ _ _ _ _ (Act.put _ (some 25) _) _
          simp only [Act.put, List.setIfInBounds_toArray, List.set_cons_zero, List.set_cons_succ]
          refine wpAnyZ_take (i := 6) (v := ?_) rfl (by kernel_rfl) (by kernel_rfl) (by kernel_rfl) (fun _ _ _ h => h) (by kernel_rfl) (Or.inl ⟨by rfl, ?_⟩) (by assumption) ?_
          rotate_left
          · intro w' hSw
            try dsimp only at hSw
            try obtain ⟨hSw, hSw2⟩ := hSw
            go_simp
            try with_reducible rfl
          show wpAnyZ _ _ _ _ _ _ _ _ (Act.put _ (some 31) _) _
          simp only [Act.put, List.setIfInBounds_toArray, List.set_cons_zero, List.set_cons_succ]
          refine wpAnyZ_take (i := 7) (v := ?_) rfl (by kernel_rfl) (by kernel_rfl) (by kernel_rfl) (fun _ _ _ h => h) (by kernel_rfl) (Or.inl ⟨by rfl, ?_⟩) (by assumption) ?_
          rotate_left
          · intro w' hSw
            try dsimp only at hSw
            try obtain ⟨hSw, hSw2⟩ := hSw
            go_simp
            try with_reducible rfl
          show wpAnyZ _ _ _ _ _ _ _ _ (Act.put _ (some 32) _) _
          simp only [Act.put, List.setIfInBounds_toArray, List.set_cons_zero, List.set_cons_succ]
          clear hSS
          have g0 := frozen_of_row Y5 b1 0 _ _ HB.out; have g1 := frozen_of_row Y5 b1 1 _ _ HB.out
          have y0 := cell_of_row Y5 b1 0 _ _ _ HB.out; have y1 := cell_of_row Y5 b1 1 _ _ _ HB.out
          refine wpAnyZ_oneG (i := 9) (by kernel_rfl) rfl (by rfl) (fun K hK => ?_)
          go_simp
          refine hK.out _ _ (.inr (by have h := HO.out.put (v' := .slice p1 S1.length q1) (u' := .slice r1 D1.length t1) hbw; exact ⟨h.c0, h.c1⟩)) ?_
          clear hK y0 y1 g0 g1
          refine wpAnyZ_one (i := 10) (by kernel_rfl) rfl rfl (fun K hK => ?_)
          go_simp
          refine hK.out _ _ (.inl (by omega)) ?_
          clear hK
          refine wpAnyZ_done (by kernel_rfl) ?_ _
          go_wp2_with fail
          go_meet
          exact ⟨b1, p1, q1, r1, t1, rfl, rfl, hbw, hbwK0, HO.out.put hbw, K0.out.other HB.out (by omega), KeptR.put (v' := .slice none 0 0) (u' := .slice none 0 0) (s' := []) (d' := []) HB.out hs1 hd1 HT1.out.i1 HT1.out.i2⟩
      · skip
        go_simp
        obtain ⟨b1, hb1⟩ : ∃ b, Y.heap.size = b := ⟨_, rfl⟩
        have hba : Below Y.heap.size Y (Y.alloc (.cells #[.slice none 0 0, .slice none 0 0] 24)) := (Below.refl _ _).alloc (Nat.le_refl _) _
        have hbw := HO.out.lt; rw [hb1] at hbw
        have hbwK0 := K0.out.lt; rw [hb1] at hbwK0
        have HO := Lib.hid (HO.out.next hba)
        have K0 := Lib.hid (K0.out.next hba)
        have HB := Lib.hid (Boxed.new hb1)
        rw [hb1]
        refine hK.out _ _ (.inr ⟨HO.out.c0, HO.out.c1⟩) ?_
        clear hK hba hb1
        generalize Y.alloc (.cells #[.slice none 0 0, .slice none 0 0] 24) = Y6 at *
        refine wpAnyZ_oneG (i := 3) (by kernel_rfl) rfl (by rfl) (fun K hK => ?_)
        go_simp
        refine (num_lit Y6 n HN.out).mono ?_
        rintro e' Y7 ⟨a9, c9, rfl, hd9, hb⟩
        have HO := Lib.hid (HO.out.next hb)
        have K0 := Lib.hid (K0.out.next hb)
        have HB := Lib.hid (HB.out.next hb)
        show K _ Y7
        refine hK.out _ _ (.inr ⟨HO.out.c0, HO.out.c1⟩) ?_
        clear hK hb
        refine wpAnyZ_oneG (i := 4) (by kernel_rfl) rfl (by rfl) (fun K hK => ?_)
        go_simp
        have hq := po_any Y7 f _ _ _ _ s d [] [n] (HS.out.below HO.out.b) (HD.out.below HO.out.b) (SlA.nil Y7) hd9
        rw [HM1.out] at hq
        refine hq.mono ?_
        rintro e' Y8 ⟨hr, hb⟩
        obtain ⟨p1, q1, r1, t1, rfl, hs1, hd1⟩ := ret_own (S := S1) (D := D1) (E := E1) hr
        have HO := Lib.hid (HO.out.next hb)
        have K0 := Lib.hid (K0.out.next hb)
        have HB := Lib.hid (HB.out.next hb)
        show K _ Y8
        refine hK.out _ _ (.inr ⟨HO.out.c0, HO.out.c1⟩) ?_
        clear hK hb hq hr hd9
        have hSS : (fun W' : World => W'.cell? ⟨w.heap.size, 0, none⟩ = some (.slice a0 s.length c0) ∧ W'.cell? ⟨w.heap.size, 1, none⟩ = some (.slice a1 d.length c1)) Y8 := ⟨HO.out.c0, HO.out.c1⟩
        refine wpAnyZ_take (i := 5) (v := ?_) rfl (by kernel_rfl) (by kernel_rfl) (by kernel_rfl) (fun _ _ _ h => h) (by kernel_rfl) (Or.inl ⟨by rfl, ?_⟩) (by assumption) ?_
        rotate_left
        · intro w' hSw
          try dsimp only at hSw
          try obtain ⟨hSw, hSw2⟩ := hSw
          go_simp
          try with_reducible rfl
        show wpAnyZ _ _ _ _ _ _ _ _ (Act.put _ (some 25) _) _
        simp only [Act.put, List.setIfInBounds_toArray, List.set_cons_zero, List.set_cons_succ]
        refine wpAnyZ_take (i := 6) (v := ?_) rfl (by kernel_rfl) (by kernel_rfl) (by kernel_rfl) (fun _ _ _ h => h) (by kernel_rfl) (Or.inl ⟨by rfl, ?_⟩) (by assumption) ?_
        rotate_left
        · intro w' hSw
          try dsimp only at hSw
          try obtain ⟨hSw, hSw2⟩ := hSw
          go_simp
          try with_reducible rfl
        show wpAnyZ _ _ _ _ _ _ _ _ (Act.put _ (some 31) _) _
        simp only [Act.put, List.setIfInBounds_toArray, List.set_cons_zero, List.set_cons_succ]
        refine wpAnyZ_take (i := 7) (v := ?_) rfl (by kernel_rfl) (by kernel_rfl) (by kernel_rfl) (fun _ _ _ h => h) (by kernel_rfl) (Or.inl ⟨by rfl, ?_⟩) (by assumption) ?_
        rotate_left
        · intro w' hSw
          try dsimp only at hSw
          try obtain ⟨hSw, hSw2⟩ := hSw
          go_simp
          try with_reducible rfl
        show wpAnyZ _ _ _ _ _ _ _ _ (Act.put _ (some 32) _) _
        simp only [Act.put, List.setIfInBounds_toArray, List.set_cons_zero, List.set_cons_succ]
        clear hSS
        have g0 := frozen_of_row Y8 b1 0 _ _ HB.out; have g1 := frozen_of_row Y8 b1 1 _ _ HB.out
        have y0 := cell_of_row Y8 b1 0 _ _ _ HB.out; have y1 := cell_of_row Y8 b1 1 _ _ _ HB.out
        refine wpAnyZ_oneG (i := 9) (by kernel_rfl) rfl (by rfl) (fun K hK => ?_)
        go_simp
        refine hK.out _ _ (.inr (by have h := HO.out.put (v' := .slice p1 S1.length q1) (u' := .slice r1 D1.length t1) hbw; exact ⟨h.c0, h.c1⟩)) ?_
        clear hK y0 y1 g0 g1
        refine wpAnyZ_one (i := 10) (by kernel_rfl) rfl rfl (fun K hK => ?_)
        go_simp
        refine hK.out _ _ (.inl (by omega)) ?_
        clear hK
        refine wpAnyZ_done (by kernel_rfl) ?_ _
        go_wp2_with fail
        go_meet
        exact ⟨b1, p1, q1, r1, t1, rfl, rfl, hbw, hbwK0, HO.out.put hbw, K0.out.other HB.out (by omega), KeptR.put (v' := .slice none 0 0) (u' := .slice none 0 0) (s' := []) (d' := []) HB.out hs1 hd1 HT1.out.i1 HT1.out.i2⟩
    case rest =>
      clear HO K0
      obtain ⟨b1, p1, q1, r1, t1, rfl, rfl, hbw1, hbw1K0, hHO, hK0, hK1⟩ := hcut
      have HO := Lib.hid hHO
      have K0 := Lib.hid hK0
      have K1 := Lib.hid hK1
      clear hHO hK0 hK1
      go_upto_region 4 with fail
      refine gen_worldA (fun W => BoxA w W (.slice a0 s.length c0) (.slice a1 d.length c1) ∧ KeptR W b0 (.slice p0 S0.length q0) (.slice r0 D0.length t0) S0 D0 ∧ KeptR W b1 (.slice p1 S1.length q1) (.slice r1 D1.length t1) S1 D1) ⟨HO.out, K0.out, K1.out⟩ ?_
      rintro V4 ⟨hHO, hK0, hK1⟩
      clear HO K0 K1
      have HO := Lib.hid hHO
      have K0 := Lib.hid hK0
      have K1 := Lib.hid hK1
      clear hHO hK0 hK1
      have x0 := HO.out.c0; have x1 := HO.out.c1
      have HQ0 := Lib.hid (HK.out V4)
      clear HK
      go_wp2_with fail
      refine HQ0.out.mono ?_
      rintro e' V5 ⟨rfl, rfl⟩
      clear HQ0
      have hq := aright_sl V4 _ _ s d (HS.out.below HO.out.b) (HD.out.below HO.out.b)
      rw [HR.out] at hq
      have HQ := Lib.hid hq
      clear hq
      go_wp2_with fail
      refine HQ.out.mono ?_
      rintro e' V6 ⟨rfl, hb⟩
      have HO := Lib.hid (HO.out.next hb)
      have K0 := Lib.hid (K0.out.next hb)
      have K1 := Lib.hid (K1.out.next hb)
      clear HQ hb x0 x1
      go_upto_region 6 with fail
      refine gen_worldA (fun W => BoxA w W (.slice a0 s.length c0) (.slice a1 d.length c1) ∧ KeptR W b0 (.slice p0 S0.length q0) (.slice r0 D0.length t0) S0 D0 ∧ KeptR W b1 (.slice p1 S1.length q1) (.slice r1 D1.length t1) S1 D1) ⟨HO.out, K0.out, K1.out⟩ ?_
      rintro V2 ⟨hHO, hK0, hK1⟩
      clear HO K0 K1
      have HO := Lib.hid hHO
      have K0 := Lib.hid hK0
      have K1 := Lib.hid hK1
      clear hHO hK0 hK1
      go_cut [12, 13] (fun s12 s13 wx => ∃ b2 p2 q2 r2 t2, s12 = .pointer (some ⟨b2, 0, none⟩) ∧ s13 = .int .i64 E0 ∧ w.heap.size < b2 ∧ b0 < b2 ∧ b1 < b2 ∧ BoxA w wx (.slice a0 s.length c0) (.slice a1 d.length c1) ∧ KeptR wx b0 (.slice p0 S0.length q0) (.slice r0 D0.length t0) S0 D0 ∧ KeptR wx b1 (.slice p1 S1.length q1) (.slice r1 D1.length t1) S1 D1 ∧ KeptR wx b2 (.slice p2 S0.length q2) (.slice r2 D0.length t2) S0 D0)
      case first =>
        refine wp_region_Z (S := fun W' => W'.cell? ⟨w.heap.size, 0, none⟩ = some (.slice a0 s.length c0) ∧ W'.cell? ⟨w.heap.size, 1, none⟩ = some (.slice a1 d.length c1)) (z := 10) (by kernel_rfl) ?_
        have hdr : Below V2.heap.size V2 V2.drew := (Below.refl _ _).drew
        have HO := Lib.hid (HO.out.next hdr)
        have K0 := Lib.hid (K0.out.next hdr)
        have K1 := Lib.hid (K1.out.next hdr)
        clear hdr
        generalize V2.drew = Y at HO K0 K1 ⊢
        have hSS : (fun W' : World => W'.cell? ⟨w.heap.size, 0, none⟩ = some (.slice a0 s.length c0) ∧ W'.cell? ⟨w.heap.size, 1, none⟩ = some (.slice a1 d.length c1)) Y := ⟨HO.out.c0, HO.out.c1⟩
        refine wpAnyZ_take (i := 0) (v := ?_) rfl (by kernel_rfl) (by kernel_rfl) (by kernel_rfl) (fun _ _ _ h => h) (by kernel_rfl) (Or.inl ⟨by rfl, ?_⟩) (by assumption) ?_
        rotate_left
        · intro w' hSw
          try dsimp only at hSw
          try obtain ⟨hSw, hSw2⟩ := hSw
          go_simp
          try with_reducible rfl
        show wpAnyZ _ _ _ _ _ _ _ _ (Act.put _ (some 52) _) _
        simp only [Act.put, List.setIfInBounds_toArray, List.set_cons_zero, List.set_cons_succ]
        refine wpAnyZ_take (i := 1) (v := ?_) rfl (by kernel_rfl) (by kernel_rfl) (by kernel_rfl) (fun _ _ _ h => h) (by kernel_rfl) (Or.inl ⟨by rfl, ?_⟩) (by assumption) ?_
        rotate_left
        · intro w' hSw
          try dsimp only at hSw
          try obtain ⟨hSw, hSw2⟩ := hSw
          go_simp
          try with_reducible rfl
        show wpAnyZ _ _ _ _ _ _ _ _ (Act.put _ (some 53) _) _
        simp only [Act.put, List.setIfInBounds_toArray, List.set_cons_zero, List.set_cons_succ]
        refine wpAnyZ_take (i := 3) (v := ?_) rfl (by kernel_rfl) (by kernel_rfl) (by kernel_rfl) (fun _ _ _ h => h) (by kernel_rfl) (Or.inl ⟨by rfl, ?_⟩) (by assumption) ?_
        rotate_left
        · intro w' hSw
          try dsimp only at hSw
          try obtain ⟨hSw, hSw2⟩ := hSw
          go_simp
          try with_reducible rfl
        show wpAnyZ _ _ _ _ _ _ _ _ (Act.put _ (some 55) _) _
        simp only [Act.put, List.setIfInBounds_toArray, List.set_cons_zero, List.set_cons_succ]
        clear hSS
        refine wpAnyZ_twoG (i := 2) (j := 8) (by kernel_rfl) rfl rfl (by rfl) (by rfl) (fun K hK => ?_) (fun K hK => ?_)
        · skip
          go_simp
          refine (num_lit Y n HN.out).mono ?_
          rintro e' Y1 ⟨a9, c9, rfl, hd9, hb⟩
          have HO := Lib.hid (HO.out.next hb)
          have K0 := Lib.hid (K0.out.next hb)
          have K1 := Lib.hid (K1.out.next hb)
          show K _ Y1
          refine hK.out _ _ (.inr ⟨HO.out.c0, HO.out.c1⟩) ?_
          clear hK hb
          refine wpAnyZ_twoG (i := 4) (j := 8) (by kernel_rfl) rfl rfl (by rfl) (by rfl) (fun K hK => ?_) (fun K hK => ?_)
          · skip
            go_simp
            have hq := pd_any Y1 f _ _ _ _ [] [n] s d (SlA.nil Y1) hd9 (HS.out.below HO.out.b) (HD.out.below HO.out.b)
            rw [HM2.out] at hq
            refine hq.mono ?_
            rintro e' Y2 ⟨hr, hb⟩
            obtain ⟨p2, q2, r2, t2, rfl, hs2, hd2⟩ := ret_own (S := S0) (D := D0) (E := E0) hr
            have HO := Lib.hid (HO.out.next hb)
            have K0 := Lib.hid (K0.out.next hb)
            have K1 := Lib.hid (K1.out.next hb)
            show K _ Y2
            refine hK.out _ _ (.inr ⟨HO.out.c0, HO.out.c1⟩) ?_
            clear hK hb hq hr hd9
            have hSS : (fun W' : World => W'.cell? ⟨w.heap.size, 0, none⟩ = some (.slice a0 s.length c0) ∧ W'.cell? ⟨w.heap.size, 1, none⟩ = some (.slice a1 d.length c1)) Y2 := ⟨HO.out.c0, HO.out.c1⟩
            refine wpAnyZ_take (i := 5) (v := ?_) rfl (by kernel_rfl) (by kernel_rfl) (by kernel_rfl) (fun _ _ _ h => h) (by kernel_rfl) (Or.inl ⟨by rfl, ?_⟩) (by assumption) ?_
            rotate_left
            · intro w' hSw
              try dsimp only at hSw
              try obtain ⟨hSw, hSw2⟩ := hSw
              go_simp
              try with_reducible rfl
            show wpAnyZ _ _ _ _ _ _ _ _ (Act.put _ (some 51) _) _
            simp only [Act.put, List.setIfInBounds_toArray, List.set_cons_zero, List.set_cons_succ]
            refine wpAnyZ_take (i := 6) (v := ?_) rfl (by kernel_rfl) (by kernel_rfl) (by kernel_rfl) (fun _ _ _ h => h) (by kernel_rfl) (Or.inl ⟨by rfl, ?_⟩) (by assumption) ?_
            rotate_left
            · intro w' hSw
              try dsimp only at hSw
              try obtain ⟨hSw, hSw2⟩ := hSw
              go_simp
              try with_reducible rfl
            show wpAnyZ _ _ _ _ _ _ _ _ (Act.put _ (some 57) _) _
            simp only [Act.put, List.setIfInBounds_toArray, List.set_cons_zero, List.set_cons_succ]
            refine wpAnyZ_take (i := 7) (v := ?_) rfl (by kernel_rfl) (by kernel_rfl) (by kernel_rfl) (fun _ _ _ h => h) (by kernel_rfl) (Or.inl ⟨by rfl, ?_⟩) (by assumption) ?_
            rotate_left
            · intro w' hSw
              try dsimp only at hSw
              try obtain ⟨hSw, hSw2⟩ := hSw
              go_simp
              try with_reducible rfl
            show wpAnyZ _ _ _ _ _ _ _ _ (Act.put _ (some 58) _) _
            simp only [Act.put, List.setIfInBounds_toArray, List.set_cons_zero, List.set_cons_succ]
            clear hSS
            refine wpAnyZ_oneG (i := 8) (by kernel_rfl) rfl (by rfl) (fun K hK => ?_)
            go_simp
            obtain ⟨b2, hb2⟩ : ∃ b, Y2.heap.size = b := ⟨_, rfl⟩
            have hba : Below Y2.heap.size Y2 (Y2.alloc (.cells #[.slice none 0 0, .slice none 0 0] 24)) := (Below.refl _ _).alloc (Nat.le_refl _) _
            have hbw := HO.out.lt; rw [hb2] at hbw
            have hbwK0 := K0.out.lt; rw [hb2] at hbwK0
            have hbwK1 := K1.out.lt; rw [hb2] at hbwK1
            have HO := Lib.hid (HO.out.next hba)
            have K0 := Lib.hid (K0.out.next hba)
            have K1 := Lib.hid (K1.out.next hba)
            have HB := Lib.hid (Boxed.new hb2)
            have hs2 := hs2.below hba; have hd2 := hd2.below hba
            rw [hb2]
            refine hK.out _ _ (.inr ⟨HO.out.c0, HO.out.c1⟩) ?_
            clear hK hba hb2
            generalize Y2.alloc (.cells #[.slice none 0 0, .slice none 0 0] 24) = Y3 at *
            have g0 := frozen_of_row Y3 b2 0 _ _ HB.out; have g1 := frozen_of_row Y3 b2 1 _ _ HB.out
            have y0 := cell_of_row Y3 b2 0 _ _ _ HB.out; have y1 := cell_of_row Y3 b2 1 _ _ _ HB.out
            refine wpAnyZ_oneG (i := 9) (by kernel_rfl) rfl (by rfl) (fun K hK => ?_)
            go_simp
            refine hK.out _ _ (.inr (by have h := HO.out.put (v' := .slice p2 S0.length q2) (u' := .slice r2 D0.length t2) hbw; exact ⟨h.c0, h.c1⟩)) ?_
            clear hK y0 y1 g0 g1
            refine wpAnyZ_one (i := 10) (by kernel_rfl) rfl rfl (fun K hK => ?_)
            go_simp
            refine hK.out _ _ (.inl (by omega)) ?_
            clear hK
            refine wpAnyZ_done (by kernel_rfl) ?_ _
            go_wp2_with fail
            go_meet
            exact ⟨b2, p2, q2, r2, t2, rfl, rfl, hbw, hbwK0, hbwK1, HO.out.put hbw, K0.out.other HB.out (by omega), K1.out.other HB.out (by omega), KeptR.put (v' := .slice none 0 0) (u' := .slice none 0 0) (s' := []) (d' := []) HB.out hs2 hd2 HT0.out.i1 HT0.out.i2⟩
          · skip
            go_simp
            obtain ⟨b2, hb2⟩ : ∃ b, Y1.heap.size = b := ⟨_, rfl⟩
            have hba : Below Y1.heap.size Y1 (Y1.alloc (.cells #[.slice none 0 0, .slice none 0 0] 24)) := (Below.refl _ _).alloc (Nat.le_refl _) _
            have hbw := HO.out.lt; rw [hb2] at hbw
            have hbwK0 := K0.out.lt; rw [hb2] at hbwK0
            have hbwK1 := K1.out.lt; rw [hb2] at hbwK1
            have HO := Lib.hid (HO.out.next hba)
            have K0 := Lib.hid (K0.out.next hba)
            have K1 := Lib.hid (K1.out.next hba)
            have HB := Lib.hid (Boxed.new hb2)
            have hd9 := hd9.below hba
            rw [hb2]
            refine hK.out _ _ (.inr ⟨HO.out.c0, HO.out.c1⟩) ?_
            clear hK hba hb2
            generalize Y1.alloc (.cells #[.slice none 0 0, .slice none 0 0] 24) = Y4 at *
            refine wpAnyZ_oneG (i := 4) (by kernel_rfl) rfl (by rfl) (fun K hK => ?_)
            go_simp
            have hq := pd_any Y4 f _ _ _ _ [] [n] s d (SlA.nil Y4) hd9 (HS.out.below HO.out.b) (HD.out.below HO.out.b)
            rw [HM2.out] at hq
            refine hq.mono ?_
            rintro e' Y5 ⟨hr, hb⟩
            obtain ⟨p2, q2, r2, t2, rfl, hs2, hd2⟩ := ret_own (S := S0) (D := D0) (E := E0) hr
            have HO := Lib.hid (HO.out.next hb)
            have K0 := Lib.hid (K0.out.next hb)
            have K1 := Lib.hid (K1.out.next hb)
            have HB := Lib.hid (HB.out.next hb)
            show K _ Y5
            refine hK.out _ _ (.inr ⟨HO.out.c0, HO.out.c1⟩) ?_
            clear hK hb hq hr hd9
            have hSS : (fun W' : World => W'.cell? ⟨w.heap.size, 0, none⟩ = some (.slice a0 s.length c0) ∧ W'.cell? ⟨w.heap.size, 1, none⟩ = some (.slice a1 d.length c1)) Y5 := ⟨HO.out.c0, HO.out.c1⟩
            refine wpAnyZ_take (i := 5) (v := ?_) rfl (by kernel_rfl) (by kernel_rfl) (by kernel_rfl) (fun _ _ _ h => h) (by kernel_rfl) (Or.inl ⟨by rfl, ?_⟩) (by assumption) ?_
            rotate_left
            · intro w' hSw
              try dsimp only at hSw
              try obtain ⟨hSw, hSw2⟩ := hSw
              go_simp
              try with_reducible rfl
            show wpAnyZ _ _ _ _ _ _ _ _ (Act.put _ (some 51) _) _
            simp only [Act.put, List.setIfInBounds_toArray, List.set_cons_zero, List.set_cons_succ]
            refine wpAnyZ_take (i := 6) (v := ?_) rfl (by kernel_rfl) (by kernel_rfl) (by kernel_rfl) (fun _ _ _ h => h) (by kernel_rfl) (Or.inl ⟨by rfl, ?_⟩) (by assumption) ?_
            rotate_left
            · intro w' hSw
              try dsimp only at hSw
              try obtain ⟨hSw, hSw2⟩ := hSw
              go_simp
              try with_reducible rfl
            show wpAnyZ _ _ _ _ _ _ _ _ (Act.put _ (some 57) _) _
            simp only [Act.put, List.setIfInBounds_toArray, List.set_cons_zero, List.set_cons_succ]
            refine wpAnyZ_take (i := 7) (v := ?_) rfl (by kernel_rfl) (by kernel_rfl) (by kernel_rfl) (fun _ _ _ h => h) (by kernel_rfl) (Or.inl ⟨by rfl, ?_⟩) (by assumption) ?_
            rotate_left
            · intro w' hSw
              try dsimp only at hSw
              try obtain ⟨hSw, hSw2⟩ := hSw
              go_simp
              try with_reducible rfl
            show wpAnyZ _ _ _ _ _ _ _ _ (Act.put _ (some 58) _) _
            simp only [Act.put, List.setIfInBounds_toArray, List.set_cons_zero, List.set_cons_succ]
            clear hSS
            have g0 := frozen_of_row Y5 b2 0 _ _ HB.out; have g1 := frozen_of_row Y5 b2 1 _ _ HB.out
            have y0 := cell_of_row Y5 b2 0 _ _ _ HB.out; have y1 := cell_of_row Y5 b2 1 _ _ _ HB.out
            refine wpAnyZ_oneG (i := 9) (by kernel_rfl) rfl (by rfl) (fun K hK => ?_)
            go_simp
            refine hK.out _ _ (.inr (by have h := HO.out.put (v' := .slice p2 S0.length q2) (u' := .slice r2 D0.length t2) hbw; exact ⟨h.c0, h.c1⟩)) ?_
            clear hK y0 y1 g0 g1
            refine wpAnyZ_one (i := 10) (by kernel_rfl) rfl rfl (fun K hK => ?_)
            go_simp
            refine hK.out _ _ (.inl (by omega)) ?_
            clear hK
            refine wpAnyZ_done (by kernel_rfl) ?_ _
            go_wp2_with fail
            go_meet
            exact ⟨b2, p2, q2, r2, t2, rfl, rfl, hbw, hbwK0, hbwK1, HO.out.put hbw, K0.out.other HB.out (by omega), K1.out.other HB.out (by omega), KeptR.put (v' := .slice none 0 0) (u' := .slice none 0 0) (s' := []) (d' := []) HB.out hs2 hd2 HT0.out.i1 HT0.out.i2⟩
        · skip
          go_simp
          obtain ⟨b2, hb2⟩ : ∃ b, Y.heap.size = b := ⟨_, rfl⟩
          have hba : Below Y.heap.size Y (Y.alloc (.cells #[.slice none 0 0, .slice none 0 0] 24)) := (Below.refl _ _).alloc (Nat.le_refl _) _
          have hbw := HO.out.lt; rw [hb2] at hbw
          have hbwK0 := K0.out.lt; rw [hb2] at hbwK0
          have hbwK1 := K1.out.lt; rw [hb2] at hbwK1
          have HO := Lib.hid (HO.out.next hba)
          have K0 := Lib.hid (K0.out.next hba)
          have K1 := Lib.hid (K1.out.next hba)
          have HB := Lib.hid (Boxed.new hb2)
          rw [hb2]
          refine hK.out _ _ (.inr ⟨HO.out.c0, HO.out.c1⟩) ?_
          clear hK hba hb2
          generalize Y.alloc (.cells #[.slice none 0 0, .slice none 0 0] 24) = Y6 at *
          refine wpAnyZ_oneG (i := 2) (by kernel_rfl) rfl (by rfl) (fun K hK => ?_)
          go_simp
          refine (num_lit Y6 n HN.out).mono ?_
          rintro e' Y7 ⟨a9, c9, rfl, hd9, hb⟩
          have HO := Lib.hid (HO.out.next hb)
          have K0 := Lib.hid (K0.out.next hb)
          have K1 := Lib.hid (K1.out.next hb)
          have HB := Lib.hid (HB.out.next hb)
          show K _ Y7
          refine hK.out _ _ (.inr ⟨HO.out.c0, HO.out.c1⟩) ?_
          clear hK hb
          refine wpAnyZ_oneG (i := 4) (by kernel_rfl) rfl (by rfl) (fun K hK => ?_)
          go_simp
          have hq := pd_any Y7 f _ _ _ _ [] [n] s d (SlA.nil Y7) hd9 (HS.out.below HO.out.b) (HD.out.below HO.out.b)
          rw [HM2.out] at hq
          refine hq.mono ?_
          rintro e' Y8 ⟨hr, hb⟩
          obtain ⟨p2, q2, r2, t2, rfl, hs2, hd2⟩ := ret_own (S := S0) (D := D0) (E := E0) hr
          have HO := Lib.hid (HO.out.next hb)
          have K0 := Lib.hid (K0.out.next hb)
          have K1 := Lib.hid (K1.out.next hb)
          have HB := Lib.hid (HB.out.next hb)
          show K _ Y8
          refine hK.out _ _ (.inr ⟨HO.out.c0, HO.out.c1⟩) ?_
          clear hK hb hq hr hd9
          have hSS : (fun W' : World => W'.cell? ⟨w.heap.size, 0, none⟩ = some (.slice a0 s.length c0) ∧ W'.cell? ⟨w.heap.size, 1, none⟩ = some (.slice a1 d.length c1)) Y8 := ⟨HO.out.c0, HO.out.c1⟩
          refine wpAnyZ_take (i := 5) (v := ?_) rfl (by kernel_rfl) (by kernel_rfl) (by kernel_rfl) (fun _ _ _ h => h) (by kernel_rfl) (Or.inl ⟨by rfl, ?_⟩) (by assumption) ?_
          rotate_left
          · intro w' hSw
            try dsimp only at hSw
            try obtain ⟨hSw, hSw2⟩ := hSw
            go_simp
            try with_reducible rfl
          show wpAnyZ _ _ _ _ _ _ _ _ (Act.put _ (some 51) _) _
          simp only [Act.put, List.setIfInBounds_toArray, List.set_cons_zero, List.set_cons_succ]
          refine wpAnyZ_take (i := 6) (v := ?_) rfl (by kernel_rfl) (by kernel_rfl) (by kernel_rfl) (fun _ _ _ h => h) (by kernel_rfl) (Or.inl ⟨by rfl, ?_⟩) (by assumption) ?_
          rotate_left
          · intro w' hSw
            try dsimp only at hSw
            try obtain ⟨hSw, hSw2⟩ := hSw
            go_simp
            try with_reducible rfl
          show wpAnyZ _ _ _ _ _ _ _ _ (Act.put _ (some 57) _) _
          simp only [Act.put, List.setIfInBounds_toArray, List.set_cons_zero, List.set_cons_succ]
          refine wpAnyZ_take (i := 7) (v := ?_) rfl (by kernel_rfl) (by kernel_rfl) (by kernel_rfl) (fun _ _ _ h => h) (by kernel_rfl) (Or.inl ⟨by rfl, ?_⟩) (by assumption) ?_
          rotate_left
          · intro w' hSw
            try dsimp only at hSw
            try obtain ⟨hSw, hSw2⟩ := hSw
            go_simp
            try with_reducible rfl
          show wpAnyZ _ _ _ _ _ _ _ _ (Act.put _ (some 58) _) _
          simp only [Act.put, List.setIfInBounds_toArray, List.set_cons_zero, List.set_cons_succ]
          clear hSS
          have g0 := frozen_of_row Y8 b2 0 _ _ HB.out; have g1 := frozen_of_row Y8 b2 1 _ _ HB.out
          have y0 := cell_of_row Y8 b2 0 _ _ _ HB.out; have y1 := cell_of_row Y8 b2 1 _ _ _ HB.out
          refine wpAnyZ_oneG (i := 9) (by kernel_rfl) rfl (by rfl) (fun K hK => ?_)
          go_simp
          refine hK.out _ _ (.inr (by have h := HO.out.put (v' := .slice p2 S0.length q2) (u' := .slice r2 D0.length t2) hbw; exact ⟨h.c0, h.c1⟩)) ?_
          clear hK y0 y1 g0 g1
          refine wpAnyZ_one (i := 10) (by kernel_rfl) rfl rfl (fun K hK => ?_)
          go_simp
          refine hK.out _ _ (.inl (by omega)) ?_
          clear hK
          refine wpAnyZ_done (by kernel_rfl) ?_ _
          go_wp2_with fail
          go_meet
          exact ⟨b2, p2, q2, r2, t2, rfl, rfl, hbw, hbwK0, hbwK1, HO.out.put hbw, K0.out.other HB.out (by omega), K1.out.other HB.out (by omega), KeptR.put (v' := .slice none 0 0) (u' := .slice none 0 0) (s' := []) (d' := []) HB.out hs2 hd2 HT0.out.i1 HT0.out.i2⟩
      case rest =>
        clear HO K0 K1
        obtain ⟨b2, p2, q2, r2, t2, rfl, rfl, hbw2, hbw2K0, hbw2K1, hHO, hK0, hK1, hK2⟩ := hcut
        have HO := Lib.hid hHO
        have K0 := Lib.hid hK0
        have K1 := Lib.hid hK1
        have K2 := Lib.hid hK2
        clear hHO hK0 hK1 hK2
        go_upto_region 7 with fail
        refine gen_worldA (fun W => BoxA w W (.slice a0 s.length c0) (.slice a1 d.length c1) ∧ KeptR W b0 (.slice p0 S0.length q0) (.slice r0 D0.length t0) S0 D0 ∧ KeptR W b1 (.slice p1 S1.length q1) (.slice r1 D1.length t1) S1 D1 ∧ KeptR W b2 (.slice p2 S0.length q2) (.slice r2 D0.length t2) S0 D0) ⟨HO.out, K0.out, K1.out, K2.out⟩ ?_
        rintro V3 ⟨hHO, hK0, hK1, hK2⟩
        clear HO K0 K1 K2
        have HO := Lib.hid hHO
        have K0 := Lib.hid hK0
        have K1 := Lib.hid hK1
        have K2 := Lib.hid hK2
        clear hHO hK0 hK1 hK2
        go_cut [14, 15] (fun s14 s15 wx => ∃ b3 p3 q3 r3 t3, s14 = .pointer (some ⟨b3, 0, none⟩) ∧ s15 = .int .i64 E1 ∧ w.heap.size < b3 ∧ b0 < b3 ∧ b1 < b3 ∧ b2 < b3 ∧ BoxA w wx (.slice a0 s.length c0) (.slice a1 d.length c1) ∧ KeptR wx b0 (.slice p0 S0.length q0) (.slice r0 D0.length t0) S0 D0 ∧ KeptR wx b1 (.slice p1 S1.length q1) (.slice r1 D1.length t1) S1 D1 ∧ KeptR wx b2 (.slice p2 S0.length q2) (.slice r2 D0.length t2) S0 D0 ∧ KeptR wx b3 (.slice p3 S1.length q3) (.slice r3 D1.length t3) S1 D1)
        case first =>
          refine wp_region_Z (S := fun W' => W'.cell? ⟨w.heap.size, 0, none⟩ = some (.slice a0 s.length c0) ∧ W'.cell? ⟨w.heap.size, 1, none⟩ = some (.slice a1 d.length c1)) (z := 10) (by kernel_rfl) ?_
          have hdr : Below V3.heap.size V3 V3.drew := (Below.refl _ _).drew
          have HO := Lib.hid (HO.out.next hdr)
          have K0 := Lib.hid (K0.out.next hdr)
          have K1 := Lib.hid (K1.out.next hdr)
          have K2 := Lib.hid (K2.out.next hdr)
          clear hdr
          generalize V3.drew = Y at HO K0 K1 K2 ⊢
          have hSS : (fun W' : World => W'.cell? ⟨w.heap.size, 0, none⟩ = some (.slice a0 s.length c0) ∧ W'.cell? ⟨w.heap.size, 1, none⟩ = some (.slice a1 d.length c1)) Y := ⟨HO.out.c0, HO.out.c1⟩
          refine wpAnyZ_take (i := 0) (v := ?_) rfl (by kernel_rfl) (by kernel_rfl) (by kernel_rfl) (fun _ _ _ h => h) (by kernel_rfl) (Or.inl ⟨by rfl, ?_⟩) (by assumption) ?_
          rotate_left
          · intro w' hSw
            try dsimp only at hSw
            try obtain ⟨hSw, hSw2⟩ := hSw
            go_simp
            try with_reducible rfl
          show wpAnyZ _ _ _ _ _ _ _ _ (Act.put _ (some 60) _) _
          simp only [Act.put, List.setIfInBounds_toArray, List.set_cons_zero, List.set_cons_succ]
          refine wpAnyZ_take (i := 2) (v := ?_) rfl (by kernel_rfl) (by kernel_rfl) (by kernel_rfl) (fun _ _ _ h => h) (by kernel_rfl) (Or.inl ⟨by rfl, ?_⟩) (by assumption) ?_
          rotate_left
          · intro w' hSw
            try dsimp only at hSw
            try obtain ⟨hSw, hSw2⟩ := hSw
            go_simp
            try with_reducible rfl
          show wpAnyZ _ _ _ _ _ _ _ _ (Act.put _ (some 62) _) _
          simp only [Act.put, List.setIfInBounds_toArray, List.set_cons_zero, List.set_cons_succ]
          refine wpAnyZ_take (i := 1) (v := ?_) rfl (by kernel_rfl) (by kernel_rfl) (by kernel_rfl) (fun _ _ _ h => h) (by kernel_rfl) (Or.inl ⟨by rfl, ?_⟩) (by assumption) ?_
          rotate_left
          · intro w' hSw
            try dsimp only at hSw
            try obtain ⟨hSw, hSw2⟩ := hSw
            go_simp
            try with_reducible rfl
          show wpAnyZ _ _ _ _ _ _ _ _ (Act.put _ (some 61) _) _
          simp only [Act.put, List.setIfInBounds_toArray, List.set_cons_zero, List.set_cons_succ]
          clear hSS
          refine wpAnyZ_twoG (i := 3) (j := 8) (by kernel_rfl) rfl rfl (by rfl) (by rfl) (fun K hK => ?_) (fun K hK => ?_)
          · skip
            go_simp
            refine (num_lit Y n HN.out).mono ?_
            rintro e' Y1 ⟨a9, c9, rfl, hd9, hb⟩
            have HO := Lib.hid (HO.out.next hb)
            have K0 := Lib.hid (K0.out.next hb)
            have K1 := Lib.hid (K1.out.next hb)
            have K2 := Lib.hid (K2.out.next hb)
            show K _ Y1
            refine hK.out _ _ (.inr ⟨HO.out.c0, HO.out.c1⟩) ?_
            clear hK hb
            refine wpAnyZ_twoG (i := 4) (j := 8) (by kernel_rfl) rfl rfl (by rfl) (by rfl) (fun K hK => ?_) (fun K hK => ?_)
            · skip
              go_simp
              have hq := pd_any Y1 f _ _ _ _ s d [] [n] (HS.out.below HO.out.b) (HD.out.below HO.out.b) (SlA.nil Y1) hd9
              rw [HM3.out] at hq
              refine hq.mono ?_
              rintro e' Y2 ⟨hr, hb⟩
              obtain ⟨p3, q3, r3, t3, rfl, hs3, hd3⟩ := ret_own (S := S1) (D := D1) (E := E1) hr
              have HO := Lib.hid (HO.out.next hb)
              have K0 := Lib.hid (K0.out.next hb)
              have K1 := Lib.hid (K1.out.next hb)
              have K2 := Lib.hid (K2.out.next hb)
              show K _ Y2
              refine hK.out _ _ (.inr ⟨HO.out.c0, HO.out.c1⟩) ?_
              clear hK hb hq hr hd9
              have hSS : (fun W' : World => W'.cell? ⟨w.heap.size, 0, none⟩ = some (.slice a0 s.length c0) ∧ W'.cell? ⟨w.heap.size, 1, none⟩ = some (.slice a1 d.length c1)) Y2 := ⟨HO.out.c0, HO.out.c1⟩
              refine wpAnyZ_take (i := 5) (v := ?_) rfl (by kernel_rfl) (by kernel_rfl) (by kernel_rfl) (fun _ _ _ h => h) (by kernel_rfl) (Or.inl ⟨by rfl, ?_⟩) (by assumption) ?_
              rotate_left
              · intro w' hSw
                try dsimp only at hSw
                try obtain ⟨hSw, hSw2⟩ := hSw
                go_simp
                try with_reducible rfl
              show wpAnyZ _ _ _ _ _ _ _ _ (Act.put _ (some 59) _) _
              simp only [Act.put, List.setIfInBounds_toArray, List.set_cons_zero, List.set_cons_succ]
              refine wpAnyZ_take (i := 6) (v := ?_) rfl (by kernel_rfl) (by kernel_rfl) (by kernel_rfl) (fun _ _ _ h => h) (by kernel_rfl) (Or.inl ⟨by rfl, ?_⟩) (by assumption) ?_
              rotate_left
              · intro w' hSw
                try dsimp only at hSw
                try obtain ⟨hSw, hSw2⟩ := hSw
                go_simp
                try with_reducible rfl
              show wpAnyZ _ _ _ _ _ _ _ _ (Act.put _ (some 65) _) _
              simp only [Act.put, List.setIfInBounds_toArray, List.set_cons_zero, List.set_cons_succ]
              refine wpAnyZ_take (i := 7) (v := ?_) rfl (by kernel_rfl) (by kernel_rfl) (by kernel_rfl) (fun _ _ _ h => h) (by kernel_rfl) (Or.inl ⟨by rfl, ?_⟩) (by assumption) ?_
              rotate_left
              · intro w' hSw
                try dsimp only at hSw
                try obtain ⟨hSw, hSw2⟩ := hSw
                go_simp
                try with_reducible rfl
              show wpAnyZ _ _ _ _ _ _ _ _ (Act.put _ (some 66) _) _
              simp only [Act.put, List.setIfInBounds_toArray, List.set_cons_zero, List.set_cons_succ]
              clear hSS
              refine wpAnyZ_oneG (i := 8) (by kernel_rfl) rfl (by rfl) (fun K hK => ?_)
              go_simp
              obtain ⟨b3, hb3⟩ : ∃ b, Y2.heap.size = b := ⟨_, rfl⟩
              have hba : Below Y2.heap.size Y2 (Y2.alloc (.cells #[.slice none 0 0, .slice none 0 0] 24)) := (Below.refl _ _).alloc (Nat.le_refl _) _
              have hbw := HO.out.lt; rw [hb3] at hbw
              have hbwK0 := K0.out.lt; rw [hb3] at hbwK0
              have hbwK1 := K1.out.lt; rw [hb3] at hbwK1
              have hbwK2 := K2.out.lt; rw [hb3] at hbwK2
              have HO := Lib.hid (HO.out.next hba)
              have K0 := Lib.hid (K0.out.next hba)
              have K1 := Lib.hid (K1.out.next hba)
              have K2 := Lib.hid (K2.out.next hba)
              have HB := Lib.hid (Boxed.new hb3)
              have hs3 := hs3.below hba; have hd3 := hd3.below hba
              rw [hb3]
              refine hK.out _ _ (.inr ⟨HO.out.c0, HO.out.c1⟩) ?_
              clear hK hba hb3
              generalize Y2.alloc (.cells #[.slice none 0 0, .slice none 0 0] 24) = Y3 at *
              have g0 := frozen_of_row Y3 b3 0 _ _ HB.out; have g1 := frozen_of_row Y3 b3 1 _ _ HB.out
              have y0 := cell_of_row Y3 b3 0 _ _ _ HB.out; have y1 := cell_of_row Y3 b3 1 _ _ _ HB.out
              refine wpAnyZ_oneG (i := 9) (by kernel_rfl) rfl (by rfl) (fun K hK => ?_)
              go_simp
              refine hK.out _ _ (.inr (by have h := HO.out.put (v' := .slice p3 S1.length q3) (u' := .slice r3 D1.length t3) hbw; exact ⟨h.c0, h.c1⟩)) ?_
              clear hK y0 y1 g0 g1
              refine wpAnyZ_one (i := 10) (by kernel_rfl) rfl rfl (fun K hK => ?_)
              go_simp
              refine hK.out _ _ (.inl (by omega)) ?_
              clear hK
              refine wpAnyZ_done (by kernel_rfl) ?_ _
              go_wp2_with fail
              go_meet
              exact ⟨b3, p3, q3, r3, t3, rfl, rfl, hbw, hbwK0, hbwK1, hbwK2, HO.out.put hbw, K0.out.other HB.out (by omega), K1.out.other HB.out (by omega), K2.out.other HB.out (by omega), KeptR.put (v' := .slice none 0 0) (u' := .slice none 0 0) (s' := []) (d' := []) HB.out hs3 hd3 HT1.out.i1 HT1.out.i2⟩
            · skip
              go_simp
              obtain ⟨b3, hb3⟩ : ∃ b, Y1.heap.size = b := ⟨_, rfl⟩
              have hba : Below Y1.heap.size Y1 (Y1.alloc (.cells #[.slice none 0 0, .slice none 0 0] 24)) := (Below.refl _ _).alloc (Nat.le_refl _) _
              have hbw := HO.out.lt; rw [hb3] at hbw
              have hbwK0 := K0.out.lt; rw [hb3] at hbwK0
              have hbwK1 := K1.out.lt; rw [hb3] at hbwK1
              have hbwK2 := K2.out.lt; rw [hb3] at hbwK2
              have HO := Lib.hid (HO.out.next hba)
              have K0 := Lib.hid (K0.out.next hba)
              have K1 := Lib.hid (K1.out.next hba)
              have K2 := Lib.hid (K2.out.next hba)
              have HB := Lib.hid (Boxed.new hb3)
              have hd9 := hd9.below hba
              rw [hb3]
              refine hK.out _ _ (.inr ⟨HO.out.c0, HO.out.c1⟩) ?_
              clear hK hba hb3
              generalize Y1.alloc (.cells #[.slice none 0 0, .slice none 0 0] 24) = Y4 at *
              refine wpAnyZ_oneG (i := 4) (by kernel_rfl) rfl (by rfl) (fun K hK => ?_)
              go_simp
              have hq := pd_any Y4 f _ _ _ _ s d [] [n] (HS.out.below HO.out.b) (HD.out.below HO.out.b) (SlA.nil Y4) hd9
              rw [HM3.out] at hq
              refine hq.mono ?_
              rintro e' Y5 ⟨hr, hb⟩
              obtain ⟨p3, q3, r3, t3, rfl, hs3, hd3⟩ := ret_own (S := S1) (D := D1) (E := E1) hr
              have HO := Lib.hid (HO.out.next hb)
              have K0 := Lib.hid (K0.out.next hb)
              have K1 := Lib.hid (K1.out.next hb)
              have K2 := Lib.hid (K2.out.next hb)
              have HB := Lib.hid (HB.out.next hb)
              show K _ Y5
              refine hK.out _ _ (.inr ⟨HO.out.c0, HO.out.c1⟩) ?_
              clear hK hb hq hr hd9
              have hSS : (fun W' : World => W'.cell? ⟨w.heap.size, 0, none⟩ = some (.slice a0 s.length c0) ∧ W'.cell? ⟨w.heap.size, 1, none⟩ = some (.slice a1 d.length c1)) Y5 := ⟨HO.out.c0, HO.out.c1⟩
              refine wpAnyZ_take (i := 5) (v := ?_) rfl (by kernel_rfl) (by kernel_rfl) (by kernel_rfl) (fun _ _ _ h => h) (by kernel_rfl) (Or.inl ⟨by rfl, ?_⟩) (by assumption) ?_
              rotate_left
              · intro w' hSw
                try dsimp only at hSw
                try obtain ⟨hSw, hSw2⟩ := hSw
                go_simp
                try with_reducible rfl
              show wpAnyZ _ _ _ _ _ _ _ _ (Act.put _ (some 59) _) _
              simp only [Act.put, List.setIfInBounds_toArray, List.set_cons_zero, List.set_cons_succ]
              refine wpAnyZ_take (i := 6) (v := ?_) rfl (by kernel_rfl) (by kernel_rfl) (by kernel_rfl) (fun _ _ _ h => h) (by kernel_rfl) (Or.inl ⟨by rfl, ?_⟩) (by assumption) ?_
              rotate_left
              · intro w' hSw
                try dsimp only at hSw
                try obtain ⟨hSw, hSw2⟩ := hSw
                go_simp
                try with_reducible rfl
              show wpAnyZ _ _ _ _ _ _ _ _ (Act.put _ (some 65) _) _
              simp only [Act.put, List.setIfInBounds_toArray, List.set_cons_zero, List.set_cons_succ]
              refine wpAnyZ_take (i := 7) (v := ?_) rfl (by kernel_rfl) (by kernel_rfl) (by kernel_rfl) (fun _ _ _ h => h) (by kernel_rfl) (Or.inl ⟨by rfl, ?_⟩) (by assumption) ?_
              rotate_left
              · intro w' hSw
                try dsimp only at hSw
                try obtain ⟨hSw, hSw2⟩ := hSw
                go_simp
                try with_reducible rfl
              show wpAnyZ _ _ _ _ _ _ _ _ (Act.put _ (some 66) _) _
              simp only [Act.put, List.setIfInBounds_toArray, List.set_cons_zero, List.set_cons_succ]
              clear hSS
              have g0 := frozen_of_row Y5 b3 0 _ _ HB.out; have g1 := frozen_of_row Y5 b3 1 _ _ HB.out
              have y0 := cell_of_row Y5 b3 0 _ _ _ HB.out; have y1 := cell_of_row Y5 b3 1 _ _ _ HB.out
              refine wpAnyZ_oneG (i := 9) (by kernel_rfl) rfl (by rfl) (fun K hK => ?_)
              go_simp
              refine hK.out _ _ (.inr (by have h := HO.out.put (v' := .slice p3 S1.length q3) (u' := .slice r3 D1.length t3) hbw; exact ⟨h.c0, h.c1⟩)) ?_
              clear hK y0 y1 g0 g1
              refine wpAnyZ_one (i := 10) (by kernel_rfl) rfl rfl (fun K hK => ?_)
              go_simp
              refine hK.out _ _ (.inl (by omega)) ?_
              clear hK
              refine wpAnyZ_done (by kernel_rfl) ?_ _
              go_wp2_with fail
              go_meet
              exact ⟨b3, p3, q3, r3, t3, rfl, rfl, hbw, hbwK0, hbwK1, hbwK2, HO.out.put hbw, K0.out.other HB.out (by omega), K1.out.other HB.out (by omega), K2.out.other HB.out (by omega), KeptR.put (v' := .slice none 0 0) (u' := .slice none 0 0) (s' := []) (d' := []) HB.out hs3 hd3 HT1.out.i1 HT1.out.i2⟩
          · skip
            go_simp
            obtain ⟨b3, hb3⟩ : ∃ b, Y.heap.size = b := ⟨_, rfl⟩
            have hba : Below Y.heap.size Y (Y.alloc (.cells #[.slice none 0 0, .slice none 0 0] 24)) := (Below.refl _ _).alloc (Nat.le_refl _) _
            have hbw := HO.out.lt; rw [hb3] at hbw
            have hbwK0 := K0.out.lt; rw [hb3] at hbwK0
            have hbwK1 := K1.out.lt; rw [hb3] at hbwK1
            have hbwK2 := K2.out.lt; rw [hb3] at hbwK2
            have HO := Lib.hid (HO.out.next hba)
            have K0 := Lib.hid (K0.out.next hba)
            have K1 := Lib.hid (K1.out.next hba)
            have K2 := Lib.hid (K2.out.next hba)
            have HB := Lib.hid (Boxed.new hb3)
            rw [hb3]
            refine hK.out _ _ (.inr ⟨HO.out.c0, HO.out.c1⟩) ?_
            clear hK hba hb3
            generalize Y.alloc (.cells #[.slice none 0 0, .slice none 0 0] 24) = Y6 at *
            refine wpAnyZ_oneG (i := 3) (by kernel_rfl) rfl (by rfl) (fun K hK => ?_)
            go_simp
            refine (num_lit Y6 n HN.out).mono ?_
            rintro e' Y7 ⟨a9, c9, rfl, hd9, hb⟩
            have HO := Lib.hid (HO.out.next hb)
            have K0 := Lib.hid (K0.out.next hb)
            have K1 := Lib.hid (K1.out.next hb)
            have K2 := Lib.hid (K2.out.next hb)
            have HB := Lib.hid (HB.out.next hb)
            show K _ Y7
            refine hK.out _ _ (.inr ⟨HO.out.c0, HO.out.c1⟩) ?_
            clear hK hb
            refine wpAnyZ_oneG (i := 4) (by kernel_rfl) rfl (by rfl) (fun K hK => ?_)
            go_simp
            have hq := pd_any Y7 f _ _ _ _ s d [] [n] (HS.out.below HO.out.b) (HD.out.below HO.out.b) (SlA.nil Y7) hd9
            rw [HM3.out] at hq
            refine hq.mono ?_
            rintro e' Y8 ⟨hr, hb⟩
            obtain ⟨p3, q3, r3, t3, rfl, hs3, hd3⟩ := ret_own (S := S1) (D := D1) (E := E1) hr
            have HO := Lib.hid (HO.out.next hb)
            have K0 := Lib.hid (K0.out.next hb)
            have K1 := Lib.hid (K1.out.next hb)
            have K2 := Lib.hid (K2.out.next hb)
            have HB := Lib.hid (HB.out.next hb)
            show K _ Y8
            refine hK.out _ _ (.inr ⟨HO.out.c0, HO.out.c1⟩) ?_
            clear hK hb hq hr hd9
            have hSS : (fun W' : World => W'.cell? ⟨w.heap.size, 0, none⟩ = some (.slice a0 s.length c0) ∧ W'.cell? ⟨w.heap.size, 1, none⟩ = some (.slice a1 d.length c1)) Y8 := ⟨HO.out.c0, HO.out.c1⟩
            refine wpAnyZ_take (i := 5) (v := ?_) rfl (by kernel_rfl) (by kernel_rfl) (by kernel_rfl) (fun _ _ _ h => h) (by kernel_rfl) (Or.inl ⟨by rfl, ?_⟩) (by assumption) ?_
            rotate_left
            · intro w' hSw
              try dsimp only at hSw
              try obtain ⟨hSw, hSw2⟩ := hSw
              go_simp
              try with_reducible rfl
            show wpAnyZ _ _ _ _ _ _ _ _ (Act.put _ (some 59) _) _
            simp only [Act.put, List.setIfInBounds_toArray, List.set_cons_zero, List.set_cons_succ]
            refine wpAnyZ_take (i := 6) (v := ?_) rfl (by kernel_rfl) (by kernel_rfl) (by kernel_rfl) (fun _ _ _ h => h) (by kernel_rfl) (Or.inl ⟨by rfl, ?_⟩) (by assumption) ?_
            rotate_left
            · intro w' hSw
              try dsimp only at hSw
              try obtain ⟨hSw, hSw2⟩ := hSw
              go_simp
              try with_reducible rfl
            show wpAnyZ _ _ _ _ _ _ _ _ (Act.put _ (some 65) _) _
            simp only [Act.put, List.setIfInBounds_toArray, List.set_cons_zero, List.set_cons_succ]
            refine wpAnyZ_take (i := 7) (v := ?_) rfl (by kernel_rfl) (by kernel_rfl) (by kernel_rfl) (fun _ _ _ h => h) (by kernel_rfl) (Or.inl ⟨by rfl, ?_⟩) (by assumption) ?_
            rotate_left
            · intro w' hSw
              try dsimp only at hSw
              try obtain ⟨hSw, hSw2⟩ := hSw
              go_simp
              try with_reducible rfl
            show wpAnyZ _ _ _ _ _ _ _ _ (Act.put _ (some 66) _) _
            simp only [Act.put, List.setIfInBounds_toArray, List.set_cons_zero, List.set_cons_succ]
            clear hSS
            have g0 := frozen_of_row Y8 b3 0 _ _ HB.out; have g1 := frozen_of_row Y8 b3 1 _ _ HB.out
            have y0 := cell_of_row Y8 b3 0 _ _ _ HB.out; have y1 := cell_of_row Y8 b3 1 _ _ _ HB.out
            refine wpAnyZ_oneG (i := 9) (by kernel_rfl) rfl (by rfl) (fun K hK => ?_)
            go_simp
            refine hK.out _ _ (.inr (by have h := HO.out.put (v' := .slice p3 S1.length q3) (u' := .slice r3 D1.length t3) hbw; exact ⟨h.c0, h.c1⟩)) ?_
            clear hK y0 y1 g0 g1
            refine wpAnyZ_one (i := 10) (by kernel_rfl) rfl rfl (fun K hK => ?_)
            go_simp
            refine hK.out _ _ (.inl (by omega)) ?_
            clear hK
            refine wpAnyZ_done (by kernel_rfl) ?_ _
            go_wp2_with fail
            go_meet
            exact ⟨b3, p3, q3, r3, t3, rfl, rfl, hbw, hbwK0, hbwK1, hbwK2, HO.out.put hbw, K0.out.other HB.out (by omega), K1.out.other HB.out (by omega), K2.out.other HB.out (by omega), KeptR.put (v' := .slice none 0 0) (u' := .slice none 0 0) (s' := []) (d' := []) HB.out hs3 hd3 HT1.out.i1 HT1.out.i2⟩
        case rest =>
          clear HO K0 K1 K2
          obtain ⟨b3, p3, q3, r3, t3, rfl, rfl, hbw3, hbw3K0, hbw3K1, hbw3K2, hHO, hK0, hK1, hK2, hK3⟩ := hcut
          have HO := Lib.hid hHO
          have K0 := Lib.hid hK0
          have K1 := Lib.hid hK1
          have K2 := Lib.hid hK2
          have K3 := Lib.hid hK3
          clear hHO hK0 hK1 hK2 hK3
          go_upto_region 8 with fail
          refine gen_worldA (fun W => BoxA w W (.slice a0 s.length c0) (.slice a1 d.length c1) ∧ KeptR W b0 (.slice p0 S0.length q0) (.slice r0 D0.length t0) S0 D0 ∧ KeptR W b1 (.slice p1 S1.length q1) (.slice r1 D1.length t1) S1 D1 ∧ KeptR W b2 (.slice p2 S0.length q2) (.slice r2 D0.length t2) S0 D0 ∧ KeptR W b3 (.slice p3 S1.length q3) (.slice r3 D1.length t3) S1 D1) ⟨HO.out, K0.out, K1.out, K2.out, K3.out⟩ ?_
          rintro V8 ⟨hHO, hK0, hK1, hK2, hK3⟩
          clear HO K0 K1 K2 K3
          have HO := Lib.hid hHO
          have K0 := Lib.hid hK0
          have K1 := Lib.hid hK1
          have K2 := Lib.hid hK2
          have K3 := Lib.hid hK3
          clear hHO hK0 hK1 hK2 hK3
          have y0K0 := K0.out.c0; have y1K0 := K0.out.c1
          have y0K2 := K2.out.c0; have y1K2 := K2.out.c1
          have HQ := Lib.hid (same_is K0.out.sv K0.out.su K2.out.sv K2.out.su)
          go_wp2_with fail
          refine HQ.out.mono ?_
          rintro e' Z1 ⟨rfl, hb⟩
          have HO := Lib.hid (HO.out.next hb)
          have K0 := Lib.hid (K0.out.next hb)
          have K1 := Lib.hid (K1.out.next hb)
          have K2 := Lib.hid (K2.out.next hb)
          have K3 := Lib.hid (K3.out.next hb)
          clear HQ hb y0K0 y1K0 y0K2 y1K2
          have y0K1 := K1.out.c0; have y1K1 := K1.out.c1
          have y0K3 := K3.out.c0; have y1K3 := K3.out.c1
          have HQ := Lib.hid (same_is K1.out.sv K1.out.su K3.out.sv K3.out.su)
          go_wp2_with fail
          refine HQ.out.mono ?_
          rintro e' Z2 ⟨rfl, hb⟩
          have HO := Lib.hid (HO.out.next hb)
          clear HQ hb y0K1 y1K1 y0K3 y1K3
          go_wp2_with fail
          go_ret
          exact ⟨rfl, HO.out.b⟩
theorem PrimOuterOne_walk (w : World) (f n : Int) (va vb : Value) (s d : List Int) (hf : (Lit.int .u8 f).wf = true) (hn : (Lit.int .i64 n).wf = true) (hs : SlA w va s) (hd : SlA w vb d) :
    Calls Try.prog 10 #[.int .u8 f, .int .i64 n, .agg #[va, vb]] w fun e w' => e = .returned (.bool true) ∧ Below w.heap.size w w' := by
  have hn := in64_of_wf hn
  cases htk : takes f true with
  | false =>
    obtain ⟨e, he, h1, h2⟩ := outer_bad (f := f) (n := n) (s := s) (d := d) (by rw [htk]; rfl)
    exact PrimOuterOne_nof w f n va vb s d hn hs hd htk e he h1 h2
  | true =>
    cases hr : right s d with
    | false =>
      obtain ⟨e, he, h1, h2⟩ := outer_bad (f := f) (n := n) (s := s) (d := d) (by rw [hr, Bool.and_false])
      exact PrimOuterOne_nor w f n va vb s d hn hs hd htk hr e he h1 h2
    | true => exact PrimOuterOne_yes w f n va vb s d hn hs hd htk hr

set_option maxRecDepth 100000 in
theorem PrimOuterOne_lifted (os : Os) (started : os.Started) (H : Type) (enc : TypeId × Value → H) :
    ReturnsInHanded {} Try.checked os 10 .any (Rows.primOuterOneSpec.pre6 enc Try.prog Try.f10 Rows.primOuterOneRow.domain false) (Rows.primOuterOneSpec.post enc Try.prog Try.f10 false true false false) := by
  refine returnsInHanded_of_change (C := Try.checked) own started (by kernel_rfl) Try.func10
    (ChangeSpec.witness6 (enc := enc) (C := Try.checked) false ⟨#[], #[.int .u8 0, .int .i64 0, .agg #[.slice none 0 0, .slice none 0 0]], []⟩ 8 (by kernel_rfl) (by kernel_rfl) (by kernel_rfl) (by kernel_rfl)) ?_
  intro W base args ds gs before hval0 hW hcnd _
  have hval : ∀ (j : Nat) t v, Try.f10.params[j]? = some t → args[j]? = some v → Value.okWide Try.prog W .any base t v := hval0
  have hW' := hW
  obtain ⟨p, q, hA0, hV, rfl, hfz, hnd⟩ := hW
  have hA : DataW.TrodAll enc Try.prog W 0 (fun _ => true) true Try.f10.params.toList args.toList ds p := hA0
  rw [Try.params10] at hA hval
  obtain ⟨v0, vs0, d0, ds0, p0, q0, hargs, rfl, rfl, h0, r0⟩ := trodAll_cons hA
  obtain ⟨v1, vs1, d1, ds1, p1, q1, rfl, rfl, rfl, h1, r1⟩ := trodAll_cons r0
  obtain ⟨v2, vs2, d2, ds2, p2, q2, rfl, rfl, rfl, h2, r2⟩ := trodAll_cons r1
  obtain ⟨rfl, rfl, rfl⟩ := trodAll_nil r2
  obtain rfl : args = #[v0, v1, v2] := by cases args; simp_all
  obtain ⟨rfl, rfl⟩ := trodVars_none hV
  obtain ⟨a0, rfl, rfl, rfl, w0⟩ := open_int Try.underlying5 (hval 0 5 v0 rfl rfl) h0
  obtain ⟨a1, rfl, rfl, rfl, w1⟩ := open_int Try.underlying2 (hval 1 2 v1 rfl rfl) h1
  have k2 := h2
  have lt2 : ∀ x ∈ p2, x.block < W.heap.size := by obtain ⟨m, hm⟩ := k2; exact DataW.trod_lt m _ _ _ hm
  obtain ⟨xs2, ys2, va2, vb2, rfl, s2, u2⟩ := open_arrA (hval 2 24 v2 rfl rfl) h2
  clear hA0 hval0
  refine (PrimOuterOne_walk W a0 a1 va2 vb2 xs2 ys2 w0 w1 s2 u2).mono fun e W' ⟨he, bel⟩ => ?_
  subst he
  exact ⟨_, rfl, _, _, _, [], _, [], hW', trodAll_mk1 (shut_bool Try.underlying4 _), (trodAll_cons_mk (shut_int Try.underlying5 w0) (trodAll_cons_mk (shut_int Try.underlying2 w1) (trodAll_cons_mk (Below.trod laidOut (by kernel_rfl) (of_decide_eq_true (by kernel_rfl)) k2 bel lt2) trodAll_mk0))), rfl, bel.frame _, fun h => by cases h⟩

/-- The given statement. -/
theorem PrimOuterOne_holds : Rows.PrimOuterOneSaid :=
  OpenClaim.holds_of_wide 10 Try.f10 rfl rfl rfl rfl rfl rfl rfl ⟨rfl, rfl, rfl, rfl, rfl⟩ rfl rfl rfl rfl rfl (by kernel_rfl) Try.func10 (by kernel_rfl)
    (of_decide_eq_true (by kernel_rfl)) (by unfold Func.isWrapper; rw [if_neg (by decide +kernel)]; exact ⟨rfl, rfl⟩)
    (fun os started H enc _ => PrimOuterOne_lifted os started H enc)
#print axioms PrimOuterOne_holds
end Go.Proofs.Ytmjkncmpanhgjaa
