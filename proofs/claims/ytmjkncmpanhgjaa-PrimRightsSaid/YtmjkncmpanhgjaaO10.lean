/-
  PrimRights: the law returns true for every input, and what was handed in reads as it did. No condition.
-/
import Derived.Test.YtmjkncmpanhgjaaBY
import Derived.BigQuiet
namespace Go.Proofs.Ytmjkncmpanhgjaa
set_option maxRecDepth 100000
open Go.ChangeShapes Go.WideShapes Go.ChangeAt Go.RowKit Go.Joins
set_option linter.unusedVariables false
set_option linter.unusedSimpArgs false

set_option maxHeartbeats 16000000 in
theorem PrimRights_yes (w : World) (f : Int) (va vb : Value) (s d : List Int) (vc vd : Value) (t e : List Int) (hs : SlA w va s) (hd : SlA w vb d) (ht : SlA w vc t) (he : SlA w vd e) (h1 : d.length ≤ 65536) (h2 : e.length ≤ 65536) (h3 : s.length ≤ 17592186043904) (h4 : t.length ≤ 17592186043904) :
    Calls Try.prog 11 #[.int .u16 f, .agg #[va, vb], .agg #[vc, vd]] w fun e w' => e = .returned (.bool true) ∧ Below w.heap.size w w' := by
  have HS := Lib.hid hs; have HD := Lib.hid hd; have HT := Lib.hid ht; have HE := Lib.hid he
  have HSL := Lib.hid h3; have HTL := Lib.hid h4
  have HDL := Lib.hid (show d.length ≤ 17592186043904 by omega); have HEL := Lib.hid (show e.length ≤ 17592186043904 by omega)
  have h1I : ¬ (65536 : Int) < (d.length : Int) := by omega
  have h2I : ¬ (65536 : Int) < (e.length : Int) := by omega
  obtain ⟨a0, c0, rfl, -⟩ := hs
  obtain ⟨a1, c1, rfl, -⟩ := hd
  obtain ⟨a2, c2, rfl, -⟩ := ht
  obtain ⟨a3, c3, rfl, -⟩ := he
  clear h1 h2 h3 h4
  go_enter Try.func11, Try.ntmps11
  go_upto_region 1 with fail
  refine gen_worldA (fun W => BoxB w W (.slice a0 s.length c0) (.slice a1 d.length c1) (.slice a2 t.length c2) (.slice a3 e.length c3)) (BoxB.mk0 _ _ _ _ _) ?_
  rintro W hO
  have HO := Lib.hid hO
  clear hO
  go_wp2_with fail
  refine (shown_any _).mono ?_
  rintro e' V0 ⟨rfl, hb⟩
  have HO := Lib.hid (HO.out.next hb)
  clear hb
  go_upto_region 2 with fail
  refine gen_worldA (fun W => BoxB w W (.slice a0 s.length c0) (.slice a1 d.length c1) (.slice a2 t.length c2) (.slice a3 e.length c3)) HO.out ?_
  rintro V1 hHO
  clear HO
  have HO := Lib.hid hHO
  clear hHO
  go_cut [8, 9] (fun s8 s9 wx => ∃ f1 f2, s8 = .int .u8 f1 ∧ s9 = .int .u8 f2 ∧ BoxB w wx (.slice a0 s.length c0) (.slice a1 d.length c1) (.slice a2 t.length c2) (.slice a3 e.length c3))
  case first =>
    go_wp2_with fail
    go_meet
    exact ⟨_, _, rfl, rfl, HO.out⟩
  case rest =>
    clear HO
    obtain ⟨f1, f2, rfl, rfl, hO⟩ := hcut
    have HO := Lib.hid hO
    clear hO
    have x0 := HO.out.c0; have x1 := HO.out.c1; have x2 := HO.out.c2; have x3 := HO.out.c3
    go_upto_region 5 with fail
    clear x0 x1 x2 x3
    go_upto_region 5 with fail
    refine gen_worldA (fun W => BoxB w W (.slice a0 s.length c0) (.slice a1 d.length c1) (.slice a2 t.length c2) (.slice a3 e.length c3)) HO.out ?_
    rintro V5 hHO
    clear HO
    have HO := Lib.hid hHO
    clear hHO
    go_cut [10] (fun s10 wx => ∃ b0 p0 q0 r0 t0, s10 = .pointer (some ⟨b0, 0, none⟩) ∧ Below V5.heap.size V5 wx ∧ KeptR wx b0 (.slice p0 s.length q0) (.slice r0 d.length t0) s d)
    case first =>
      as_aux_lemma =>
        refine wp_region_Z (S := fun W' => W'.cell? ⟨w.heap.size, 0, none⟩ = some (.slice a0 s.length c0) ∧ W'.cell? ⟨w.heap.size, 1, none⟩ = some (.slice a1 d.length c1)) (z := 10) (by kernel_rfl) ?_
        have HB := Lib.hid (show Below V5.heap.size V5 V5.drew from (Below.refl _ _).drew)
        obtain ⟨M, hM⟩ : ∃ M, V5.heap.size = M := ⟨_, rfl⟩
        rw [hM] at HB
        have HMM := Lib.hid hM
        generalize V5.drew = Y at HB ⊢
        clear hM
        have hSS : (fun W' : World => W'.cell? ⟨w.heap.size, 0, none⟩ = some (.slice a0 s.length c0) ∧ W'.cell? ⟨w.heap.size, 1, none⟩ = some (.slice a1 d.length c1)) Y := (by have h := HO.out.next (HMM.out ▸ HB.out); exact ⟨h.c0, h.c1⟩)
        refine wpAnyZ_take (i := 1) (v := ?_) rfl (by kernel_rfl) (by kernel_rfl) (by kernel_rfl) (fun _ _ _ h => h) (by kernel_rfl) (Or.inl ⟨by rfl, ?_⟩) (by assumption) ?_
        rotate_left
        · intro w' hSw
          try dsimp only at hSw
          try obtain ⟨hSw, hSw2⟩ := hSw
          go_simp
          try with_reducible rfl
        show wpAnyZ _ _ _ _ _ _ _ _ (Act.put _ (some 43) _) _
        simp only [Act.put, List.setIfInBounds_toArray, List.set_cons_zero, List.set_cons_succ]
        refine wpAnyZ_take (i := 2) (v := ?_) rfl (by kernel_rfl) (by kernel_rfl) (by kernel_rfl) (fun _ _ _ h => h) (by kernel_rfl) (Or.inl ⟨by rfl, ?_⟩) (by assumption) ?_
        rotate_left
        · intro w' hSw
          try dsimp only at hSw
          try obtain ⟨hSw, hSw2⟩ := hSw
          go_simp
          try with_reducible rfl
        show wpAnyZ _ _ _ _ _ _ _ _ (Act.put _ (some 44) _) _
        simp only [Act.put, List.setIfInBounds_toArray, List.set_cons_zero, List.set_cons_succ]
        refine wpAnyZ_take (i := 5) (v := ?_) rfl (by kernel_rfl) (by kernel_rfl) (by kernel_rfl) (fun _ _ _ h => h) (by kernel_rfl) (Or.inl ⟨by rfl, ?_⟩) (by assumption) ?_
        rotate_left
        · intro w' hSw
          try dsimp only at hSw
          try obtain ⟨hSw, hSw2⟩ := hSw
          go_simp
          try with_reducible rfl
        show wpAnyZ _ _ _ _ _ _ _ _ (Act.put _ (some 47) _) _
        simp only [Act.put, List.setIfInBounds_toArray, List.set_cons_zero, List.set_cons_succ]
        refine wpAnyZ_take (i := 6) (v := ?_) rfl (by kernel_rfl) (by kernel_rfl) (by kernel_rfl) (fun _ _ _ h => h) (by kernel_rfl) (Or.inl ⟨by rfl, ?_⟩) (by assumption) ?_
        rotate_left
        · intro w' hSw
          try dsimp only at hSw
          try obtain ⟨hSw, hSw2⟩ := hSw
          go_simp
          try with_reducible rfl
        show wpAnyZ _ _ _ _ _ _ _ _ (Act.put _ (some 48) _) _
        simp only [Act.put, List.setIfInBounds_toArray, List.set_cons_zero, List.set_cons_succ]
        clear hSS
        refine wpAnyZ_threeG (i := 0) (j := 4) (l := 9) (by kernel_rfl) rfl rfl rfl (by rfl) (by rfl) (by rfl) (fun K hK => ?_) (fun K hK => ?_) (fun K hK => ?_)
        · skip
          go_simp
          obtain ⟨g0, hg0⟩ : ∃ b, Y.heap.size = b := ⟨_, rfl⟩
          have hba : Below Y.heap.size Y (Y.alloc (.cells #[] 2)) := (Below.refl _ _).alloc (Nat.le_refl _) _
          have E0 := Lib.hid (Empty.new (M := M) (by have := HB.out.size; rw [HMM.out] at this; exact this) hg0)
          have HB := Lib.hid (HB.out.alloc (by have := HB.out.size; rw [HMM.out] at this; exact this) (.cells #[] 2))
          rw [hg0]
          refine hK.out _ _ (.inr (by have h := HO.out.next (HMM.out ▸ HB.out); exact ⟨h.c0, h.c1⟩)) ?_
          clear hK hba hg0
          generalize Y.alloc (.cells #[] 2) = Y1 at *
          refine wpAnyZ_threeG (i := 3) (j := 4) (l := 9) (by kernel_rfl) rfl rfl rfl (by rfl) (by rfl) (by rfl) (fun K hK => ?_) (fun K hK => ?_) (fun K hK => ?_)
          · skip
            refine wp_copy (.tmp 42) (.tmp 44) rfl M g0 s (.slice a0 s.length c0) rfl E0.out rfl ((HS.out.below (HO.out.next (HMM.out ▸ HB.out)).b).src) HSL.out (by have := HB.out.size; rw [HMM.out] at this; exact this) ?_
            intro v3 Y2 hr hg hn
            have hgm := E0.out.ge; have hty := E0.out.ty
            have R3 := Lib.hid hr
            have HB := Lib.hid (HB.out.grown hg (by have := HB.out.size; rw [HMM.out] at this; exact this) (fun k e => by cases e; exact hgm))
            refine hK.out _ _ (.inr (by have h := HO.out.next (HMM.out ▸ HB.out); exact ⟨h.c0, h.c1⟩)) ?_
            clear hK hr hg hn hgm hty E0
            refine wpAnyZ_twoG (i := 4) (j := 9) (by kernel_rfl) rfl rfl (by rfl) (by rfl) (fun K hK => ?_) (fun K hK => ?_)
            · skip
              go_simp
              obtain ⟨g4, hg4⟩ : ∃ b, Y2.heap.size = b := ⟨_, rfl⟩
              have hba : Below Y2.heap.size Y2 (Y2.alloc (.cells #[] 2)) := (Below.refl _ _).alloc (Nat.le_refl _) _
              have E4 := Lib.hid (Empty.new (M := M) (by have := HB.out.size; rw [HMM.out] at this; exact this) hg4)
              have m34 := R3.out.ne_new (Nat.le_of_eq hg4)
              have R3 := Lib.hid (R3.out.below hba)
              have HB := Lib.hid (HB.out.alloc (by have := HB.out.size; rw [HMM.out] at this; exact this) (.cells #[] 2))
              rw [hg4]
              refine hK.out _ _ (.inr (by have h := HO.out.next (HMM.out ▸ HB.out); exact ⟨h.c0, h.c1⟩)) ?_
              clear hK hba hg4
              generalize Y2.alloc (.cells #[] 2) = Y3 at *
              refine wpAnyZ_twoG (i := 7) (j := 9) (by kernel_rfl) rfl rfl (by rfl) (by rfl) (fun K hK => ?_) (fun K hK => ?_)
              · skip
                refine wp_copy (.tmp 46) (.tmp 48) rfl M g4 d (.slice a1 d.length c1) rfl E4.out rfl ((HD.out.below (HO.out.next (HMM.out ▸ HB.out)).b).src) HDL.out (by have := HB.out.size; rw [HMM.out] at this; exact this) ?_
                intro v7 Y4 hr hg hn
                have hgm := E4.out.ge; have hty := E4.out.ty
                have R3 := Lib.hid (R3.out.kept hg (.inr m34))
                have R7 := Lib.hid hr
                have HB := Lib.hid (HB.out.grown hg (by have := HB.out.size; rw [HMM.out] at this; exact this) (fun k e => by cases e; exact hgm))
                refine hK.out _ _ (.inr (by have h := HO.out.next (HMM.out ▸ HB.out); exact ⟨h.c0, h.c1⟩)) ?_
                clear hK hr hg hn hgm hty E4
                obtain ⟨p0, q0, rfl, -, -⟩ := R3.out.slice
                obtain ⟨r0, t0, rfl, -, -⟩ := R7.out.slice
                have hSS : (fun W' : World => W'.cell? ⟨w.heap.size, 0, none⟩ = some (.slice a0 s.length c0) ∧ W'.cell? ⟨w.heap.size, 1, none⟩ = some (.slice a1 d.length c1)) Y4 := (by have h := HO.out.next (HMM.out ▸ HB.out); exact ⟨h.c0, h.c1⟩)
                refine wpAnyZ_take (i := 8) (v := ?_) rfl (by kernel_rfl) (by kernel_rfl) (by kernel_rfl) (fun _ _ _ h => h) (by kernel_rfl) (Or.inl ⟨by rfl, ?_⟩) (by assumption) ?_
                rotate_left
                · intro w' hSw
                  try dsimp only at hSw
                  try obtain ⟨hSw, hSw2⟩ := hSw
                  go_simp
                  try with_reducible rfl
                show wpAnyZ _ _ _ _ _ _ _ _ (Act.put _ (some 50) _) _
                simp only [Act.put, List.setIfInBounds_toArray, List.set_cons_zero, List.set_cons_succ]
                clear hSS
                refine wpAnyZ_oneG (i := 9) (by kernel_rfl) rfl (by rfl) (fun K hK => ?_)
                go_simp
                obtain ⟨b0, hb0⟩ : ∃ b, Y4.heap.size = b := ⟨_, rfl⟩
                have hba : Below Y4.heap.size Y4 (Y4.alloc (.cells #[.slice none 0 0, .slice none 0 0] 24)) := (Below.refl _ _).alloc (Nat.le_refl _) _
                have hMb : M ≤ b0 := by have := HB.out.size; rw [HMM.out] at this; omega
                have HX := Lib.hid (Boxed.new hb0)
                have R3 := Lib.hid (R3.out.below hba)
                have R7 := Lib.hid (R7.out.below hba)
                have HB := Lib.hid (HB.out.alloc (by have := HB.out.size; rw [HMM.out] at this; exact this) (.cells #[.slice none 0 0, .slice none 0 0] 24))
                rw [hb0]
                refine hK.out _ _ (.inr (by have h := HO.out.next (HMM.out ▸ HB.out); exact ⟨h.c0, h.c1⟩)) ?_
                clear hK hba hb0
                generalize Y4.alloc (.cells #[.slice none 0 0, .slice none 0 0] 24) = Y5 at *
                have g0' := frozen_of_row Y5 b0 0 _ _ HX.out; have g1' := frozen_of_row Y5 b0 1 _ _ HX.out
                have y0 := cell_of_row Y5 b0 0 _ _ _ HX.out; have y1 := cell_of_row Y5 b0 1 _ _ _ HX.out
                refine wpAnyZ_oneG (i := 10) (by kernel_rfl) rfl (by rfl) (fun K hK => ?_)
                go_simp
                refine hK.out _ _ (.inl (by omega)) ?_
                clear hK y0 y1 g0' g1'
                refine wpAnyZ_done (by kernel_rfl) ?_ _
                go_wp2_with fail
                go_meet
                exact ⟨b0, p0, q0, r0, t0, rfl, HMM.out ▸ (HB.out.setCell hMb _).setCell hMb _, KeptR.put (v' := .slice none 0 0) (u' := .slice none 0 0) (s' := []) (d' := []) HX.out (R3.out.mono (Nat.zero_le _)) (R7.out.mono (Nat.zero_le _)) (in_of HS.out) (in_of HD.out)⟩
              · skip
                go_simp
                obtain ⟨b0, hb0⟩ : ∃ b, Y3.heap.size = b := ⟨_, rfl⟩
                have hba : Below Y3.heap.size Y3 (Y3.alloc (.cells #[.slice none 0 0, .slice none 0 0] 24)) := (Below.refl _ _).alloc (Nat.le_refl _) _
                have hMb : M ≤ b0 := by have := HB.out.size; rw [HMM.out] at this; omega
                have HX := Lib.hid (Boxed.new hb0)
                have R3 := Lib.hid (R3.out.below hba)
                have E4 := Lib.hid (E4.out.below hba)
                have HB := Lib.hid (HB.out.alloc (by have := HB.out.size; rw [HMM.out] at this; exact this) (.cells #[.slice none 0 0, .slice none 0 0] 24))
                rw [hb0]
                refine hK.out _ _ (.inr (by have h := HO.out.next (HMM.out ▸ HB.out); exact ⟨h.c0, h.c1⟩)) ?_
                clear hK hba hb0
                generalize Y3.alloc (.cells #[.slice none 0 0, .slice none 0 0] 24) = Y6 at *
                refine wpAnyZ_oneG (i := 7) (by kernel_rfl) rfl (by rfl) (fun K hK => ?_)
                refine wp_copy (.tmp 46) (.tmp 48) rfl M g4 d (.slice a1 d.length c1) rfl E4.out rfl ((HD.out.below (HO.out.next (HMM.out ▸ HB.out)).b).src) HDL.out (by have := HB.out.size; rw [HMM.out] at this; exact this) ?_
                intro v7 Y7 hr hg hn
                have hgm := E4.out.ge; have hty := E4.out.ty
                have R3 := Lib.hid (R3.out.kept hg (.inr m34))
                have HX := Lib.hid (HX.out.grown hg hty)
                have R7 := Lib.hid hr
                have HB := Lib.hid (HB.out.grown hg (by have := HB.out.size; rw [HMM.out] at this; exact this) (fun k e => by cases e; exact hgm))
                refine hK.out _ _ (.inr (by have h := HO.out.next (HMM.out ▸ HB.out); exact ⟨h.c0, h.c1⟩)) ?_
                clear hK hr hg hn hgm hty E4
                obtain ⟨p0, q0, rfl, -, -⟩ := R3.out.slice
                obtain ⟨r0, t0, rfl, -, -⟩ := R7.out.slice
                have hSS : (fun W' : World => W'.cell? ⟨w.heap.size, 0, none⟩ = some (.slice a0 s.length c0) ∧ W'.cell? ⟨w.heap.size, 1, none⟩ = some (.slice a1 d.length c1)) Y7 := (by have h := HO.out.next (HMM.out ▸ HB.out); exact ⟨h.c0, h.c1⟩)
                refine wpAnyZ_take (i := 8) (v := ?_) rfl (by kernel_rfl) (by kernel_rfl) (by kernel_rfl) (fun _ _ _ h => h) (by kernel_rfl) (Or.inl ⟨by rfl, ?_⟩) (by assumption) ?_
                rotate_left
                · intro w' hSw
                  try dsimp only at hSw
                  try obtain ⟨hSw, hSw2⟩ := hSw
                  go_simp
                  try with_reducible rfl
                show wpAnyZ _ _ _ _ _ _ _ _ (Act.put _ (some 50) _) _
                simp only [Act.put, List.setIfInBounds_toArray, List.set_cons_zero, List.set_cons_succ]
                clear hSS
                have g0' := frozen_of_row Y7 b0 0 _ _ HX.out; have g1' := frozen_of_row Y7 b0 1 _ _ HX.out
                have y0 := cell_of_row Y7 b0 0 _ _ _ HX.out; have y1 := cell_of_row Y7 b0 1 _ _ _ HX.out
                refine wpAnyZ_oneG (i := 10) (by kernel_rfl) rfl (by rfl) (fun K hK => ?_)
                go_simp
                refine hK.out _ _ (.inl (by omega)) ?_
                clear hK y0 y1 g0' g1'
                refine wpAnyZ_done (by kernel_rfl) ?_ _
                go_wp2_with fail
                go_meet
                exact ⟨b0, p0, q0, r0, t0, rfl, HMM.out ▸ (HB.out.setCell hMb _).setCell hMb _, KeptR.put (v' := .slice none 0 0) (u' := .slice none 0 0) (s' := []) (d' := []) HX.out (R3.out.mono (Nat.zero_le _)) (R7.out.mono (Nat.zero_le _)) (in_of HS.out) (in_of HD.out)⟩
            · skip
              go_simp
              obtain ⟨b0, hb0⟩ : ∃ b, Y2.heap.size = b := ⟨_, rfl⟩
              have hba : Below Y2.heap.size Y2 (Y2.alloc (.cells #[.slice none 0 0, .slice none 0 0] 24)) := (Below.refl _ _).alloc (Nat.le_refl _) _
              have hMb : M ≤ b0 := by have := HB.out.size; rw [HMM.out] at this; omega
              have HX := Lib.hid (Boxed.new hb0)
              have R3 := Lib.hid (R3.out.below hba)
              have HB := Lib.hid (HB.out.alloc (by have := HB.out.size; rw [HMM.out] at this; exact this) (.cells #[.slice none 0 0, .slice none 0 0] 24))
              rw [hb0]
              refine hK.out _ _ (.inr (by have h := HO.out.next (HMM.out ▸ HB.out); exact ⟨h.c0, h.c1⟩)) ?_
              clear hK hba hb0
              generalize Y2.alloc (.cells #[.slice none 0 0, .slice none 0 0] 24) = Y8 at *
              refine wpAnyZ_oneG (i := 4) (by kernel_rfl) rfl (by rfl) (fun K hK => ?_)
              go_simp
              obtain ⟨g4, hg4⟩ : ∃ b, Y8.heap.size = b := ⟨_, rfl⟩
              have hba : Below Y8.heap.size Y8 (Y8.alloc (.cells #[] 2)) := (Below.refl _ _).alloc (Nat.le_refl _) _
              have E4 := Lib.hid (Empty.new (M := M) (by have := HB.out.size; rw [HMM.out] at this; exact this) hg4)
              have m34 := R3.out.ne_new (Nat.le_of_eq hg4)
              have R3 := Lib.hid (R3.out.below hba)
              have HX := Lib.hid (HX.out.next hba)
              have HB := Lib.hid (HB.out.alloc (by have := HB.out.size; rw [HMM.out] at this; exact this) (.cells #[] 2))
              rw [hg4]
              refine hK.out _ _ (.inr (by have h := HO.out.next (HMM.out ▸ HB.out); exact ⟨h.c0, h.c1⟩)) ?_
              clear hK hba hg4
              generalize Y8.alloc (.cells #[] 2) = Y9 at *
              refine wpAnyZ_oneG (i := 7) (by kernel_rfl) rfl (by rfl) (fun K hK => ?_)
              refine wp_copy (.tmp 46) (.tmp 48) rfl M g4 d (.slice a1 d.length c1) rfl E4.out rfl ((HD.out.below (HO.out.next (HMM.out ▸ HB.out)).b).src) HDL.out (by have := HB.out.size; rw [HMM.out] at this; exact this) ?_
              intro v7 Y10 hr hg hn
              have hgm := E4.out.ge; have hty := E4.out.ty
              have R3 := Lib.hid (R3.out.kept hg (.inr m34))
              have HX := Lib.hid (HX.out.grown hg hty)
              have R7 := Lib.hid hr
              have HB := Lib.hid (HB.out.grown hg (by have := HB.out.size; rw [HMM.out] at this; exact this) (fun k e => by cases e; exact hgm))
              refine hK.out _ _ (.inr (by have h := HO.out.next (HMM.out ▸ HB.out); exact ⟨h.c0, h.c1⟩)) ?_
              clear hK hr hg hn hgm hty E4
              obtain ⟨p0, q0, rfl, -, -⟩ := R3.out.slice
              obtain ⟨r0, t0, rfl, -, -⟩ := R7.out.slice
              have hSS : (fun W' : World => W'.cell? ⟨w.heap.size, 0, none⟩ = some (.slice a0 s.length c0) ∧ W'.cell? ⟨w.heap.size, 1, none⟩ = some (.slice a1 d.length c1)) Y10 := (by have h := HO.out.next (HMM.out ▸ HB.out); exact ⟨h.c0, h.c1⟩)
              refine wpAnyZ_take (i := 8) (v := ?_) rfl (by kernel_rfl) (by kernel_rfl) (by kernel_rfl) (fun _ _ _ h => h) (by kernel_rfl) (Or.inl ⟨by rfl, ?_⟩) (by assumption) ?_
              rotate_left
              · intro w' hSw
                try dsimp only at hSw
                try obtain ⟨hSw, hSw2⟩ := hSw
                go_simp
                try with_reducible rfl
              show wpAnyZ _ _ _ _ _ _ _ _ (Act.put _ (some 50) _) _
              simp only [Act.put, List.setIfInBounds_toArray, List.set_cons_zero, List.set_cons_succ]
              clear hSS
              have g0' := frozen_of_row Y10 b0 0 _ _ HX.out; have g1' := frozen_of_row Y10 b0 1 _ _ HX.out
              have y0 := cell_of_row Y10 b0 0 _ _ _ HX.out; have y1 := cell_of_row Y10 b0 1 _ _ _ HX.out
              refine wpAnyZ_oneG (i := 10) (by kernel_rfl) rfl (by rfl) (fun K hK => ?_)
              go_simp
              refine hK.out _ _ (.inl (by omega)) ?_
              clear hK y0 y1 g0' g1'
              refine wpAnyZ_done (by kernel_rfl) ?_ _
              go_wp2_with fail
              go_meet
              exact ⟨b0, p0, q0, r0, t0, rfl, HMM.out ▸ (HB.out.setCell hMb _).setCell hMb _, KeptR.put (v' := .slice none 0 0) (u' := .slice none 0 0) (s' := []) (d' := []) HX.out (R3.out.mono (Nat.zero_le _)) (R7.out.mono (Nat.zero_le _)) (in_of HS.out) (in_of HD.out)⟩
          · skip
            go_simp
            obtain ⟨g4, hg4⟩ : ∃ b, Y1.heap.size = b := ⟨_, rfl⟩
            have hba : Below Y1.heap.size Y1 (Y1.alloc (.cells #[] 2)) := (Below.refl _ _).alloc (Nat.le_refl _) _
            have E4 := Lib.hid (Empty.new (M := M) (by have := HB.out.size; rw [HMM.out] at this; exact this) hg4)
            have n4 : g0 ≠ g4 := by have := E0.out.lt; omega
            have E0 := Lib.hid (E0.out.below hba)
            have HB := Lib.hid (HB.out.alloc (by have := HB.out.size; rw [HMM.out] at this; exact this) (.cells #[] 2))
            rw [hg4]
            refine hK.out _ _ (.inr (by have h := HO.out.next (HMM.out ▸ HB.out); exact ⟨h.c0, h.c1⟩)) ?_
            clear hK hba hg4
            generalize Y1.alloc (.cells #[] 2) = Y11 at *
            refine wpAnyZ_twoG (i := 3) (j := 9) (by kernel_rfl) rfl rfl (by rfl) (by rfl) (fun K hK => ?_) (fun K hK => ?_)
            · skip
              refine wp_copy (.tmp 42) (.tmp 44) rfl M g0 s (.slice a0 s.length c0) rfl E0.out rfl ((HS.out.below (HO.out.next (HMM.out ▸ HB.out)).b).src) HSL.out (by have := HB.out.size; rw [HMM.out] at this; exact this) ?_
              intro v3 Y12 hr hg hn
              have hgm := E0.out.ge; have hty := E0.out.ty
              have m34 := newer_ne hn (by omega) E4.out.lt
              have E4 := Lib.hid (E4.out.grown hg (by omega))
              have R3 := Lib.hid hr
              have HB := Lib.hid (HB.out.grown hg (by have := HB.out.size; rw [HMM.out] at this; exact this) (fun k e => by cases e; exact hgm))
              refine hK.out _ _ (.inr (by have h := HO.out.next (HMM.out ▸ HB.out); exact ⟨h.c0, h.c1⟩)) ?_
              clear hK hr hg hn hgm hty E0
              refine wpAnyZ_twoG (i := 7) (j := 9) (by kernel_rfl) rfl rfl (by rfl) (by rfl) (fun K hK => ?_) (fun K hK => ?_)
              · skip
                refine wp_copy (.tmp 46) (.tmp 48) rfl M g4 d (.slice a1 d.length c1) rfl E4.out rfl ((HD.out.below (HO.out.next (HMM.out ▸ HB.out)).b).src) HDL.out (by have := HB.out.size; rw [HMM.out] at this; exact this) ?_
                intro v7 Y13 hr hg hn
                have hgm := E4.out.ge; have hty := E4.out.ty
                have R3 := Lib.hid (R3.out.kept hg (.inr m34))
                have R7 := Lib.hid hr
                have HB := Lib.hid (HB.out.grown hg (by have := HB.out.size; rw [HMM.out] at this; exact this) (fun k e => by cases e; exact hgm))
                refine hK.out _ _ (.inr (by have h := HO.out.next (HMM.out ▸ HB.out); exact ⟨h.c0, h.c1⟩)) ?_
                clear hK hr hg hn hgm hty E4
                obtain ⟨p0, q0, rfl, -, -⟩ := R3.out.slice
                obtain ⟨r0, t0, rfl, -, -⟩ := R7.out.slice
                have hSS : (fun W' : World => W'.cell? ⟨w.heap.size, 0, none⟩ = some (.slice a0 s.length c0) ∧ W'.cell? ⟨w.heap.size, 1, none⟩ = some (.slice a1 d.length c1)) Y13 := (by have h := HO.out.next (HMM.out ▸ HB.out); exact ⟨h.c0, h.c1⟩)
                refine wpAnyZ_take (i := 8) (v := ?_) rfl (by kernel_rfl) (by kernel_rfl) (by kernel_rfl) (fun _ _ _ h => h) (by kernel_rfl) (Or.inl ⟨by rfl, ?_⟩) (by assumption) ?_
                rotate_left
                · intro w' hSw
                  try dsimp only at hSw
                  try obtain ⟨hSw, hSw2⟩ := hSw
                  go_simp
                  try with_reducible rfl
                show wpAnyZ _ _ _ _ _ _ _ _ (Act.put _ (some 50) _) _
                simp only [Act.put, List.setIfInBounds_toArray, List.set_cons_zero, List.set_cons_succ]
                clear hSS
                refine wpAnyZ_oneG (i := 9) (by kernel_rfl) rfl (by rfl) (fun K hK => ?_)
                go_simp
                obtain ⟨b0, hb0⟩ : ∃ b, Y13.heap.size = b := ⟨_, rfl⟩
                have hba : Below Y13.heap.size Y13 (Y13.alloc (.cells #[.slice none 0 0, .slice none 0 0] 24)) := (Below.refl _ _).alloc (Nat.le_refl _) _
                have hMb : M ≤ b0 := by have := HB.out.size; rw [HMM.out] at this; omega
                have HX := Lib.hid (Boxed.new hb0)
                have R3 := Lib.hid (R3.out.below hba)
                have R7 := Lib.hid (R7.out.below hba)
                have HB := Lib.hid (HB.out.alloc (by have := HB.out.size; rw [HMM.out] at this; exact this) (.cells #[.slice none 0 0, .slice none 0 0] 24))
                rw [hb0]
                refine hK.out _ _ (.inr (by have h := HO.out.next (HMM.out ▸ HB.out); exact ⟨h.c0, h.c1⟩)) ?_
                clear hK hba hb0
                generalize Y13.alloc (.cells #[.slice none 0 0, .slice none 0 0] 24) = Y14 at *
                have g0' := frozen_of_row Y14 b0 0 _ _ HX.out; have g1' := frozen_of_row Y14 b0 1 _ _ HX.out
                have y0 := cell_of_row Y14 b0 0 _ _ _ HX.out; have y1 := cell_of_row Y14 b0 1 _ _ _ HX.out
                refine wpAnyZ_oneG (i := 10) (by kernel_rfl) rfl (by rfl) (fun K hK => ?_)
                go_simp
                refine hK.out _ _ (.inl (by omega)) ?_
                clear hK y0 y1 g0' g1'
                refine wpAnyZ_done (by kernel_rfl) ?_ _
                go_wp2_with fail
                go_meet
                exact ⟨b0, p0, q0, r0, t0, rfl, HMM.out ▸ (HB.out.setCell hMb _).setCell hMb _, KeptR.put (v' := .slice none 0 0) (u' := .slice none 0 0) (s' := []) (d' := []) HX.out (R3.out.mono (Nat.zero_le _)) (R7.out.mono (Nat.zero_le _)) (in_of HS.out) (in_of HD.out)⟩
              · skip
                go_simp
                obtain ⟨b0, hb0⟩ : ∃ b, Y12.heap.size = b := ⟨_, rfl⟩
                have hba : Below Y12.heap.size Y12 (Y12.alloc (.cells #[.slice none 0 0, .slice none 0 0] 24)) := (Below.refl _ _).alloc (Nat.le_refl _) _
                have hMb : M ≤ b0 := by have := HB.out.size; rw [HMM.out] at this; omega
                have HX := Lib.hid (Boxed.new hb0)
                have R3 := Lib.hid (R3.out.below hba)
                have E4 := Lib.hid (E4.out.below hba)
                have HB := Lib.hid (HB.out.alloc (by have := HB.out.size; rw [HMM.out] at this; exact this) (.cells #[.slice none 0 0, .slice none 0 0] 24))
                rw [hb0]
                refine hK.out _ _ (.inr (by have h := HO.out.next (HMM.out ▸ HB.out); exact ⟨h.c0, h.c1⟩)) ?_
                clear hK hba hb0
                generalize Y12.alloc (.cells #[.slice none 0 0, .slice none 0 0] 24) = Y15 at *
                refine wpAnyZ_oneG (i := 7) (by kernel_rfl) rfl (by rfl) (fun K hK => ?_)
                refine wp_copy (.tmp 46) (.tmp 48) rfl M g4 d (.slice a1 d.length c1) rfl E4.out rfl ((HD.out.below (HO.out.next (HMM.out ▸ HB.out)).b).src) HDL.out (by have := HB.out.size; rw [HMM.out] at this; exact this) ?_
                intro v7 Y16 hr hg hn
                have hgm := E4.out.ge; have hty := E4.out.ty
                have R3 := Lib.hid (R3.out.kept hg (.inr m34))
                have HX := Lib.hid (HX.out.grown hg hty)
                have R7 := Lib.hid hr
                have HB := Lib.hid (HB.out.grown hg (by have := HB.out.size; rw [HMM.out] at this; exact this) (fun k e => by cases e; exact hgm))
                refine hK.out _ _ (.inr (by have h := HO.out.next (HMM.out ▸ HB.out); exact ⟨h.c0, h.c1⟩)) ?_
                clear hK hr hg hn hgm hty E4
                obtain ⟨p0, q0, rfl, -, -⟩ := R3.out.slice
                obtain ⟨r0, t0, rfl, -, -⟩ := R7.out.slice
                have hSS : (fun W' : World => W'.cell? ⟨w.heap.size, 0, none⟩ = some (.slice a0 s.length c0) ∧ W'.cell? ⟨w.heap.size, 1, none⟩ = some (.slice a1 d.length c1)) Y16 := (by have h := HO.out.next (HMM.out ▸ HB.out); exact ⟨h.c0, h.c1⟩)
                refine wpAnyZ_take (i := 8) (v := ?_) rfl (by kernel_rfl) (by kernel_rfl) (by kernel_rfl) (fun _ _ _ h => h) (by kernel_rfl) (Or.inl ⟨by rfl, ?_⟩) (by assumption) ?_
                rotate_left
                · intro w' hSw
                  try dsimp only at hSw
                  try obtain ⟨hSw, hSw2⟩ := hSw
                  go_simp
                  try with_reducible rfl
                show wpAnyZ _ _ _ _ _ _ _ _ (Act.put _ (some 50) _) _
                simp only [Act.put, List.setIfInBounds_toArray, List.set_cons_zero, List.set_cons_succ]
                clear hSS
                have g0' := frozen_of_row Y16 b0 0 _ _ HX.out; have g1' := frozen_of_row Y16 b0 1 _ _ HX.out
                have y0 := cell_of_row Y16 b0 0 _ _ _ HX.out; have y1 := cell_of_row Y16 b0 1 _ _ _ HX.out
                refine wpAnyZ_oneG (i := 10) (by kernel_rfl) rfl (by rfl) (fun K hK => ?_)
                go_simp
                refine hK.out _ _ (.inl (by omega)) ?_
                clear hK y0 y1 g0' g1'
                refine wpAnyZ_done (by kernel_rfl) ?_ _
                go_wp2_with fail
                go_meet
                exact ⟨b0, p0, q0, r0, t0, rfl, HMM.out ▸ (HB.out.setCell hMb _).setCell hMb _, KeptR.put (v' := .slice none 0 0) (u' := .slice none 0 0) (s' := []) (d' := []) HX.out (R3.out.mono (Nat.zero_le _)) (R7.out.mono (Nat.zero_le _)) (in_of HS.out) (in_of HD.out)⟩
            · skip
              go_simp
              obtain ⟨b0, hb0⟩ : ∃ b, Y11.heap.size = b := ⟨_, rfl⟩
              have hba : Below Y11.heap.size Y11 (Y11.alloc (.cells #[.slice none 0 0, .slice none 0 0] 24)) := (Below.refl _ _).alloc (Nat.le_refl _) _
              have hMb : M ≤ b0 := by have := HB.out.size; rw [HMM.out] at this; omega
              have HX := Lib.hid (Boxed.new hb0)
              have E0 := Lib.hid (E0.out.below hba)
              have E4 := Lib.hid (E4.out.below hba)
              have HB := Lib.hid (HB.out.alloc (by have := HB.out.size; rw [HMM.out] at this; exact this) (.cells #[.slice none 0 0, .slice none 0 0] 24))
              rw [hb0]
              refine hK.out _ _ (.inr (by have h := HO.out.next (HMM.out ▸ HB.out); exact ⟨h.c0, h.c1⟩)) ?_
              clear hK hba hb0
              generalize Y11.alloc (.cells #[.slice none 0 0, .slice none 0 0] 24) = Y17 at *
              refine wpAnyZ_oneG (i := 3) (by kernel_rfl) rfl (by rfl) (fun K hK => ?_)
              refine wp_copy (.tmp 42) (.tmp 44) rfl M g0 s (.slice a0 s.length c0) rfl E0.out rfl ((HS.out.below (HO.out.next (HMM.out ▸ HB.out)).b).src) HSL.out (by have := HB.out.size; rw [HMM.out] at this; exact this) ?_
              intro v3 Y18 hr hg hn
              have hgm := E0.out.ge; have hty := E0.out.ty
              have m34 := newer_ne hn (by omega) E4.out.lt
              have E4 := Lib.hid (E4.out.grown hg (by omega))
              have HX := Lib.hid (HX.out.grown hg hty)
              have R3 := Lib.hid hr
              have HB := Lib.hid (HB.out.grown hg (by have := HB.out.size; rw [HMM.out] at this; exact this) (fun k e => by cases e; exact hgm))
              refine hK.out _ _ (.inr (by have h := HO.out.next (HMM.out ▸ HB.out); exact ⟨h.c0, h.c1⟩)) ?_
              clear hK hr hg hn hgm hty E0
              refine wpAnyZ_oneG (i := 7) (by kernel_rfl) rfl (by rfl) (fun K hK => ?_)
              refine wp_copy (.tmp 46) (.tmp 48) rfl M g4 d (.slice a1 d.length c1) rfl E4.out rfl ((HD.out.below (HO.out.next (HMM.out ▸ HB.out)).b).src) HDL.out (by have := HB.out.size; rw [HMM.out] at this; exact this) ?_
              intro v7 Y19 hr hg hn
              have hgm := E4.out.ge; have hty := E4.out.ty
              have R3 := Lib.hid (R3.out.kept hg (.inr m34))
              have HX := Lib.hid (HX.out.grown hg hty)
              have R7 := Lib.hid hr
              have HB := Lib.hid (HB.out.grown hg (by have := HB.out.size; rw [HMM.out] at this; exact this) (fun k e => by cases e; exact hgm))
              refine hK.out _ _ (.inr (by have h := HO.out.next (HMM.out ▸ HB.out); exact ⟨h.c0, h.c1⟩)) ?_
              clear hK hr hg hn hgm hty E4
              obtain ⟨p0, q0, rfl, -, -⟩ := R3.out.slice
              obtain ⟨r0, t0, rfl, -, -⟩ := R7.out.slice
              have hSS : (fun W' : World => W'.cell? ⟨w.heap.size, 0, none⟩ = some (.slice a0 s.length c0) ∧ W'.cell? ⟨w.heap.size, 1, none⟩ = some (.slice a1 d.length c1)) Y19 := (by have h := HO.out.next (HMM.out ▸ HB.out); exact ⟨h.c0, h.c1⟩)
              refine wpAnyZ_take (i := 8) (v := ?_) rfl (by kernel_rfl) (by kernel_rfl) (by kernel_rfl) (fun _ _ _ h => h) (by kernel_rfl) (Or.inl ⟨by rfl, ?_⟩) (by assumption) ?_
              rotate_left
              · intro w' hSw
                try dsimp only at hSw
                try obtain ⟨hSw, hSw2⟩ := hSw
                go_simp
                try with_reducible rfl
              show wpAnyZ _ _ _ _ _ _ _ _ (Act.put _ (some 50) _) _
              simp only [Act.put, List.setIfInBounds_toArray, List.set_cons_zero, List.set_cons_succ]
              clear hSS
              have g0' := frozen_of_row Y19 b0 0 _ _ HX.out; have g1' := frozen_of_row Y19 b0 1 _ _ HX.out
              have y0 := cell_of_row Y19 b0 0 _ _ _ HX.out; have y1 := cell_of_row Y19 b0 1 _ _ _ HX.out
              refine wpAnyZ_oneG (i := 10) (by kernel_rfl) rfl (by rfl) (fun K hK => ?_)
              go_simp
              refine hK.out _ _ (.inl (by omega)) ?_
              clear hK y0 y1 g0' g1'
              refine wpAnyZ_done (by kernel_rfl) ?_ _
              go_wp2_with fail
              go_meet
              exact ⟨b0, p0, q0, r0, t0, rfl, HMM.out ▸ (HB.out.setCell hMb _).setCell hMb _, KeptR.put (v' := .slice none 0 0) (u' := .slice none 0 0) (s' := []) (d' := []) HX.out (R3.out.mono (Nat.zero_le _)) (R7.out.mono (Nat.zero_le _)) (in_of HS.out) (in_of HD.out)⟩
          · skip
            go_simp
            obtain ⟨b0, hb0⟩ : ∃ b, Y1.heap.size = b := ⟨_, rfl⟩
            have hba : Below Y1.heap.size Y1 (Y1.alloc (.cells #[.slice none 0 0, .slice none 0 0] 24)) := (Below.refl _ _).alloc (Nat.le_refl _) _
            have hMb : M ≤ b0 := by have := HB.out.size; rw [HMM.out] at this; omega
            have HX := Lib.hid (Boxed.new hb0)
            have E0 := Lib.hid (E0.out.below hba)
            have HB := Lib.hid (HB.out.alloc (by have := HB.out.size; rw [HMM.out] at this; exact this) (.cells #[.slice none 0 0, .slice none 0 0] 24))
            rw [hb0]
            refine hK.out _ _ (.inr (by have h := HO.out.next (HMM.out ▸ HB.out); exact ⟨h.c0, h.c1⟩)) ?_
            clear hK hba hb0
            generalize Y1.alloc (.cells #[.slice none 0 0, .slice none 0 0] 24) = Y20 at *
            refine wpAnyZ_twoG (i := 3) (j := 4) (by kernel_rfl) rfl rfl (by rfl) (by rfl) (fun K hK => ?_) (fun K hK => ?_)
            · skip
              refine wp_copy (.tmp 42) (.tmp 44) rfl M g0 s (.slice a0 s.length c0) rfl E0.out rfl ((HS.out.below (HO.out.next (HMM.out ▸ HB.out)).b).src) HSL.out (by have := HB.out.size; rw [HMM.out] at this; exact this) ?_
              intro v3 Y21 hr hg hn
              have hgm := E0.out.ge; have hty := E0.out.ty
              have HX := Lib.hid (HX.out.grown hg hty)
              have R3 := Lib.hid hr
              have HB := Lib.hid (HB.out.grown hg (by have := HB.out.size; rw [HMM.out] at this; exact this) (fun k e => by cases e; exact hgm))
              refine hK.out _ _ (.inr (by have h := HO.out.next (HMM.out ▸ HB.out); exact ⟨h.c0, h.c1⟩)) ?_
              clear hK hr hg hn hgm hty E0
              refine wpAnyZ_oneG (i := 4) (by kernel_rfl) rfl (by rfl) (fun K hK => ?_)
              go_simp
              obtain ⟨g4, hg4⟩ : ∃ b, Y21.heap.size = b := ⟨_, rfl⟩
              have hba : Below Y21.heap.size Y21 (Y21.alloc (.cells #[] 2)) := (Below.refl _ _).alloc (Nat.le_refl _) _
              have E4 := Lib.hid (Empty.new (M := M) (by have := HB.out.size; rw [HMM.out] at this; exact this) hg4)
              have m34 := R3.out.ne_new (Nat.le_of_eq hg4)
              have R3 := Lib.hid (R3.out.below hba)
              have HX := Lib.hid (HX.out.next hba)
              have HB := Lib.hid (HB.out.alloc (by have := HB.out.size; rw [HMM.out] at this; exact this) (.cells #[] 2))
              rw [hg4]
              refine hK.out _ _ (.inr (by have h := HO.out.next (HMM.out ▸ HB.out); exact ⟨h.c0, h.c1⟩)) ?_
              clear hK hba hg4
              generalize Y21.alloc (.cells #[] 2) = Y22 at *
              refine wpAnyZ_oneG (i := 7) (by kernel_rfl) rfl (by rfl) (fun K hK => ?_)
              refine wp_copy (.tmp 46) (.tmp 48) rfl M g4 d (.slice a1 d.length c1) rfl E4.out rfl ((HD.out.below (HO.out.next (HMM.out ▸ HB.out)).b).src) HDL.out (by have := HB.out.size; rw [HMM.out] at this; exact this) ?_
              intro v7 Y23 hr hg hn
              have hgm := E4.out.ge; have hty := E4.out.ty
              have R3 := Lib.hid (R3.out.kept hg (.inr m34))
              have HX := Lib.hid (HX.out.grown hg hty)
              have R7 := Lib.hid hr
              have HB := Lib.hid (HB.out.grown hg (by have := HB.out.size; rw [HMM.out] at this; exact this) (fun k e => by cases e; exact hgm))
              refine hK.out _ _ (.inr (by have h := HO.out.next (HMM.out ▸ HB.out); exact ⟨h.c0, h.c1⟩)) ?_
              clear hK hr hg hn hgm hty E4
              obtain ⟨p0, q0, rfl, -, -⟩ := R3.out.slice
              obtain ⟨r0, t0, rfl, -, -⟩ := R7.out.slice
              have hSS : (fun W' : World => W'.cell? ⟨w.heap.size, 0, none⟩ = some (.slice a0 s.length c0) ∧ W'.cell? ⟨w.heap.size, 1, none⟩ = some (.slice a1 d.length c1)) Y23 := (by have h := HO.out.next (HMM.out ▸ HB.out); exact ⟨h.c0, h.c1⟩)
              refine wpAnyZ_take (i := 8) (v := ?_) rfl (by kernel_rfl) (by kernel_rfl) (by kernel_rfl) (fun _ _ _ h => h) (by kernel_rfl) (Or.inl ⟨by rfl, ?_⟩) (by assumption) ?_
              rotate_left
              · intro w' hSw
                try dsimp only at hSw
                try obtain ⟨hSw, hSw2⟩ := hSw
                go_simp
                try with_reducible rfl
              show wpAnyZ _ _ _ _ _ _ _ _ (Act.put _ (some 50) _) _
              simp only [Act.put, List.setIfInBounds_toArray, List.set_cons_zero, List.set_cons_succ]
              clear hSS
              have g0' := frozen_of_row Y23 b0 0 _ _ HX.out; have g1' := frozen_of_row Y23 b0 1 _ _ HX.out
              have y0 := cell_of_row Y23 b0 0 _ _ _ HX.out; have y1 := cell_of_row Y23 b0 1 _ _ _ HX.out
              refine wpAnyZ_oneG (i := 10) (by kernel_rfl) rfl (by rfl) (fun K hK => ?_)
              go_simp
              refine hK.out _ _ (.inl (by omega)) ?_
              clear hK y0 y1 g0' g1'
              refine wpAnyZ_done (by kernel_rfl) ?_ _
              go_wp2_with fail
              go_meet
              exact ⟨b0, p0, q0, r0, t0, rfl, HMM.out ▸ (HB.out.setCell hMb _).setCell hMb _, KeptR.put (v' := .slice none 0 0) (u' := .slice none 0 0) (s' := []) (d' := []) HX.out (R3.out.mono (Nat.zero_le _)) (R7.out.mono (Nat.zero_le _)) (in_of HS.out) (in_of HD.out)⟩
            · skip
              go_simp
              obtain ⟨g4, hg4⟩ : ∃ b, Y20.heap.size = b := ⟨_, rfl⟩
              have hba : Below Y20.heap.size Y20 (Y20.alloc (.cells #[] 2)) := (Below.refl _ _).alloc (Nat.le_refl _) _
              have E4 := Lib.hid (Empty.new (M := M) (by have := HB.out.size; rw [HMM.out] at this; exact this) hg4)
              have n4 : g0 ≠ g4 := by have := E0.out.lt; omega
              have E0 := Lib.hid (E0.out.below hba)
              have HX := Lib.hid (HX.out.next hba)
              have HB := Lib.hid (HB.out.alloc (by have := HB.out.size; rw [HMM.out] at this; exact this) (.cells #[] 2))
              rw [hg4]
              refine hK.out _ _ (.inr (by have h := HO.out.next (HMM.out ▸ HB.out); exact ⟨h.c0, h.c1⟩)) ?_
              clear hK hba hg4
              generalize Y20.alloc (.cells #[] 2) = Y24 at *
              refine wpAnyZ_oneG (i := 3) (by kernel_rfl) rfl (by rfl) (fun K hK => ?_)
              refine wp_copy (.tmp 42) (.tmp 44) rfl M g0 s (.slice a0 s.length c0) rfl E0.out rfl ((HS.out.below (HO.out.next (HMM.out ▸ HB.out)).b).src) HSL.out (by have := HB.out.size; rw [HMM.out] at this; exact this) ?_
              intro v3 Y25 hr hg hn
              have hgm := E0.out.ge; have hty := E0.out.ty
              have m34 := newer_ne hn (by omega) E4.out.lt
              have E4 := Lib.hid (E4.out.grown hg (by omega))
              have HX := Lib.hid (HX.out.grown hg hty)
              have R3 := Lib.hid hr
              have HB := Lib.hid (HB.out.grown hg (by have := HB.out.size; rw [HMM.out] at this; exact this) (fun k e => by cases e; exact hgm))
              refine hK.out _ _ (.inr (by have h := HO.out.next (HMM.out ▸ HB.out); exact ⟨h.c0, h.c1⟩)) ?_
              clear hK hr hg hn hgm hty E0
              refine wpAnyZ_oneG (i := 7) (by kernel_rfl) rfl (by rfl) (fun K hK => ?_)
              refine wp_copy (.tmp 46) (.tmp 48) rfl M g4 d (.slice a1 d.length c1) rfl E4.out rfl ((HD.out.below (HO.out.next (HMM.out ▸ HB.out)).b).src) HDL.out (by have := HB.out.size; rw [HMM.out] at this; exact this) ?_
              intro v7 Y26 hr hg hn
              have hgm := E4.out.ge; have hty := E4.out.ty
              have R3 := Lib.hid (R3.out.kept hg (.inr m34))
              have HX := Lib.hid (HX.out.grown hg hty)
              have R7 := Lib.hid hr
              have HB := Lib.hid (HB.out.grown hg (by have := HB.out.size; rw [HMM.out] at this; exact this) (fun k e => by cases e; exact hgm))
              refine hK.out _ _ (.inr (by have h := HO.out.next (HMM.out ▸ HB.out); exact ⟨h.c0, h.c1⟩)) ?_
              clear hK hr hg hn hgm hty E4
              obtain ⟨p0, q0, rfl, -, -⟩ := R3.out.slice
              obtain ⟨r0, t0, rfl, -, -⟩ := R7.out.slice
              have hSS : (fun W' : World => W'.cell? ⟨w.heap.size, 0, none⟩ = some (.slice a0 s.length c0) ∧ W'.cell? ⟨w.heap.size, 1, none⟩ = some (.slice a1 d.length c1)) Y26 := (by have h := HO.out.next (HMM.out ▸ HB.out); exact ⟨h.c0, h.c1⟩)
              refine wpAnyZ_take (i := 8) (v := ?_) rfl (by kernel_rfl) (by kernel_rfl) (by kernel_rfl) (fun _ _ _ h => h) (by kernel_rfl) (Or.inl ⟨by rfl, ?_⟩) (by assumption) ?_
              rotate_left
              · intro w' hSw
                try dsimp only at hSw
                try obtain ⟨hSw, hSw2⟩ := hSw
                go_simp
                try with_reducible rfl
              show wpAnyZ _ _ _ _ _ _ _ _ (Act.put _ (some 50) _) _
              simp only [Act.put, List.setIfInBounds_toArray, List.set_cons_zero, List.set_cons_succ]
              clear hSS
              have g0' := frozen_of_row Y26 b0 0 _ _ HX.out; have g1' := frozen_of_row Y26 b0 1 _ _ HX.out
              have y0 := cell_of_row Y26 b0 0 _ _ _ HX.out; have y1 := cell_of_row Y26 b0 1 _ _ _ HX.out
              refine wpAnyZ_oneG (i := 10) (by kernel_rfl) rfl (by rfl) (fun K hK => ?_)
              go_simp
              refine hK.out _ _ (.inl (by omega)) ?_
              clear hK y0 y1 g0' g1'
              refine wpAnyZ_done (by kernel_rfl) ?_ _
              go_wp2_with fail
              go_meet
              exact ⟨b0, p0, q0, r0, t0, rfl, HMM.out ▸ (HB.out.setCell hMb _).setCell hMb _, KeptR.put (v' := .slice none 0 0) (u' := .slice none 0 0) (s' := []) (d' := []) HX.out (R3.out.mono (Nat.zero_le _)) (R7.out.mono (Nat.zero_le _)) (in_of HS.out) (in_of HD.out)⟩
        · skip
          go_simp
          obtain ⟨g4, hg4⟩ : ∃ b, Y.heap.size = b := ⟨_, rfl⟩
          have hba : Below Y.heap.size Y (Y.alloc (.cells #[] 2)) := (Below.refl _ _).alloc (Nat.le_refl _) _
          have E4 := Lib.hid (Empty.new (M := M) (by have := HB.out.size; rw [HMM.out] at this; exact this) hg4)
          have HB := Lib.hid (HB.out.alloc (by have := HB.out.size; rw [HMM.out] at this; exact this) (.cells #[] 2))
          rw [hg4]
          refine hK.out _ _ (.inr (by have h := HO.out.next (HMM.out ▸ HB.out); exact ⟨h.c0, h.c1⟩)) ?_
          clear hK hba hg4
          generalize Y.alloc (.cells #[] 2) = Y27 at *
          refine wpAnyZ_twoG (i := 0) (j := 9) (by kernel_rfl) rfl rfl (by rfl) (by rfl) (fun K hK => ?_) (fun K hK => ?_)
          · skip
            go_simp
            obtain ⟨g0, hg0⟩ : ∃ b, Y27.heap.size = b := ⟨_, rfl⟩
            have hba : Below Y27.heap.size Y27 (Y27.alloc (.cells #[] 2)) := (Below.refl _ _).alloc (Nat.le_refl _) _
            have E0 := Lib.hid (Empty.new (M := M) (by have := HB.out.size; rw [HMM.out] at this; exact this) hg0)
            have n0 : g4 ≠ g0 := by have := E4.out.lt; omega
            have E4 := Lib.hid (E4.out.below hba)
            have HB := Lib.hid (HB.out.alloc (by have := HB.out.size; rw [HMM.out] at this; exact this) (.cells #[] 2))
            rw [hg0]
            refine hK.out _ _ (.inr (by have h := HO.out.next (HMM.out ▸ HB.out); exact ⟨h.c0, h.c1⟩)) ?_
            clear hK hba hg0
            generalize Y27.alloc (.cells #[] 2) = Y28 at *
            refine wpAnyZ_twoG (i := 3) (j := 9) (by kernel_rfl) rfl rfl (by rfl) (by rfl) (fun K hK => ?_) (fun K hK => ?_)
            · skip
              refine wp_copy (.tmp 42) (.tmp 44) rfl M g0 s (.slice a0 s.length c0) rfl E0.out rfl ((HS.out.below (HO.out.next (HMM.out ▸ HB.out)).b).src) HSL.out (by have := HB.out.size; rw [HMM.out] at this; exact this) ?_
              intro v3 Y29 hr hg hn
              have hgm := E0.out.ge; have hty := E0.out.ty
              have m34 := newer_ne hn (by omega) E4.out.lt
              have E4 := Lib.hid (E4.out.grown hg (by omega))
              have R3 := Lib.hid hr
              have HB := Lib.hid (HB.out.grown hg (by have := HB.out.size; rw [HMM.out] at this; exact this) (fun k e => by cases e; exact hgm))
              refine hK.out _ _ (.inr (by have h := HO.out.next (HMM.out ▸ HB.out); exact ⟨h.c0, h.c1⟩)) ?_
              clear hK hr hg hn hgm hty E0
              refine wpAnyZ_twoG (i := 7) (j := 9) (by kernel_rfl) rfl rfl (by rfl) (by rfl) (fun K hK => ?_) (fun K hK => ?_)
              · skip
                refine wp_copy (.tmp 46) (.tmp 48) rfl M g4 d (.slice a1 d.length c1) rfl E4.out rfl ((HD.out.below (HO.out.next (HMM.out ▸ HB.out)).b).src) HDL.out (by have := HB.out.size; rw [HMM.out] at this; exact this) ?_
                intro v7 Y30 hr hg hn
                have hgm := E4.out.ge; have hty := E4.out.ty
                have R3 := Lib.hid (R3.out.kept hg (.inr m34))
                have R7 := Lib.hid hr
                have HB := Lib.hid (HB.out.grown hg (by have := HB.out.size; rw [HMM.out] at this; exact this) (fun k e => by cases e; exact hgm))
                refine hK.out _ _ (.inr (by have h := HO.out.next (HMM.out ▸ HB.out); exact ⟨h.c0, h.c1⟩)) ?_
                clear hK hr hg hn hgm hty E4
                obtain ⟨p0, q0, rfl, -, -⟩ := R3.out.slice
                obtain ⟨r0, t0, rfl, -, -⟩ := R7.out.slice
                have hSS : (fun W' : World => W'.cell? ⟨w.heap.size, 0, none⟩ = some (.slice a0 s.length c0) ∧ W'.cell? ⟨w.heap.size, 1, none⟩ = some (.slice a1 d.length c1)) Y30 := (by have h := HO.out.next (HMM.out ▸ HB.out); exact ⟨h.c0, h.c1⟩)
                refine wpAnyZ_take (i := 8) (v := ?_) rfl (by kernel_rfl) (by kernel_rfl) (by kernel_rfl) (fun _ _ _ h => h) (by kernel_rfl) (Or.inl ⟨by rfl, ?_⟩) (by assumption) ?_
                rotate_left
                · intro w' hSw
                  try dsimp only at hSw
                  try obtain ⟨hSw, hSw2⟩ := hSw
                  go_simp
                  try with_reducible rfl
                show wpAnyZ _ _ _ _ _ _ _ _ (Act.put _ (some 50) _) _
                simp only [Act.put, List.setIfInBounds_toArray, List.set_cons_zero, List.set_cons_succ]
                clear hSS
                refine wpAnyZ_oneG (i := 9) (by kernel_rfl) rfl (by rfl) (fun K hK => ?_)
                go_simp
                obtain ⟨b0, hb0⟩ : ∃ b, Y30.heap.size = b := ⟨_, rfl⟩
                have hba : Below Y30.heap.size Y30 (Y30.alloc (.cells #[.slice none 0 0, .slice none 0 0] 24)) := (Below.refl _ _).alloc (Nat.le_refl _) _
                have hMb : M ≤ b0 := by have := HB.out.size; rw [HMM.out] at this; omega
                have HX := Lib.hid (Boxed.new hb0)
                have R3 := Lib.hid (R3.out.below hba)
                have R7 := Lib.hid (R7.out.below hba)
                have HB := Lib.hid (HB.out.alloc (by have := HB.out.size; rw [HMM.out] at this; exact this) (.cells #[.slice none 0 0, .slice none 0 0] 24))
                rw [hb0]
                refine hK.out _ _ (.inr (by have h := HO.out.next (HMM.out ▸ HB.out); exact ⟨h.c0, h.c1⟩)) ?_
                clear hK hba hb0
                generalize Y30.alloc (.cells #[.slice none 0 0, .slice none 0 0] 24) = Y31 at *
                have g0' := frozen_of_row Y31 b0 0 _ _ HX.out; have g1' := frozen_of_row Y31 b0 1 _ _ HX.out
                have y0 := cell_of_row Y31 b0 0 _ _ _ HX.out; have y1 := cell_of_row Y31 b0 1 _ _ _ HX.out
                refine wpAnyZ_oneG (i := 10) (by kernel_rfl) rfl (by rfl) (fun K hK => ?_)
                go_simp
                refine hK.out _ _ (.inl (by omega)) ?_
                clear hK y0 y1 g0' g1'
                refine wpAnyZ_done (by kernel_rfl) ?_ _
                go_wp2_with fail
                go_meet
                exact ⟨b0, p0, q0, r0, t0, rfl, HMM.out ▸ (HB.out.setCell hMb _).setCell hMb _, KeptR.put (v' := .slice none 0 0) (u' := .slice none 0 0) (s' := []) (d' := []) HX.out (R3.out.mono (Nat.zero_le _)) (R7.out.mono (Nat.zero_le _)) (in_of HS.out) (in_of HD.out)⟩
              · skip
                go_simp
                obtain ⟨b0, hb0⟩ : ∃ b, Y29.heap.size = b := ⟨_, rfl⟩
                have hba : Below Y29.heap.size Y29 (Y29.alloc (.cells #[.slice none 0 0, .slice none 0 0] 24)) := (Below.refl _ _).alloc (Nat.le_refl _) _
                have hMb : M ≤ b0 := by have := HB.out.size; rw [HMM.out] at this; omega
                have HX := Lib.hid (Boxed.new hb0)
                have R3 := Lib.hid (R3.out.below hba)
                have E4 := Lib.hid (E4.out.below hba)
                have HB := Lib.hid (HB.out.alloc (by have := HB.out.size; rw [HMM.out] at this; exact this) (.cells #[.slice none 0 0, .slice none 0 0] 24))
                rw [hb0]
                refine hK.out _ _ (.inr (by have h := HO.out.next (HMM.out ▸ HB.out); exact ⟨h.c0, h.c1⟩)) ?_
                clear hK hba hb0
                generalize Y29.alloc (.cells #[.slice none 0 0, .slice none 0 0] 24) = Y32 at *
                refine wpAnyZ_oneG (i := 7) (by kernel_rfl) rfl (by rfl) (fun K hK => ?_)
                refine wp_copy (.tmp 46) (.tmp 48) rfl M g4 d (.slice a1 d.length c1) rfl E4.out rfl ((HD.out.below (HO.out.next (HMM.out ▸ HB.out)).b).src) HDL.out (by have := HB.out.size; rw [HMM.out] at this; exact this) ?_
                intro v7 Y33 hr hg hn
                have hgm := E4.out.ge; have hty := E4.out.ty
                have R3 := Lib.hid (R3.out.kept hg (.inr m34))
                have HX := Lib.hid (HX.out.grown hg hty)
                have R7 := Lib.hid hr
                have HB := Lib.hid (HB.out.grown hg (by have := HB.out.size; rw [HMM.out] at this; exact this) (fun k e => by cases e; exact hgm))
                refine hK.out _ _ (.inr (by have h := HO.out.next (HMM.out ▸ HB.out); exact ⟨h.c0, h.c1⟩)) ?_
                clear hK hr hg hn hgm hty E4
                obtain ⟨p0, q0, rfl, -, -⟩ := R3.out.slice
                obtain ⟨r0, t0, rfl, -, -⟩ := R7.out.slice
                have hSS : (fun W' : World => W'.cell? ⟨w.heap.size, 0, none⟩ = some (.slice a0 s.length c0) ∧ W'.cell? ⟨w.heap.size, 1, none⟩ = some (.slice a1 d.length c1)) Y33 := (by have h := HO.out.next (HMM.out ▸ HB.out); exact ⟨h.c0, h.c1⟩)
                refine wpAnyZ_take (i := 8) (v := ?_) rfl (by kernel_rfl) (by kernel_rfl) (by kernel_rfl) (fun _ _ _ h => h) (by kernel_rfl) (Or.inl ⟨by rfl, ?_⟩) (by assumption) ?_
                rotate_left
                · intro w' hSw
                  try dsimp only at hSw
                  try obtain ⟨hSw, hSw2⟩ := hSw
                  go_simp
                  try with_reducible rfl
                show wpAnyZ _ _ _ _ _ _ _ _ (Act.put _ (some 50) _) _
                simp only [Act.put, List.setIfInBounds_toArray, List.set_cons_zero, List.set_cons_succ]
                clear hSS
                have g0' := frozen_of_row Y33 b0 0 _ _ HX.out; have g1' := frozen_of_row Y33 b0 1 _ _ HX.out
                have y0 := cell_of_row Y33 b0 0 _ _ _ HX.out; have y1 := cell_of_row Y33 b0 1 _ _ _ HX.out
                refine wpAnyZ_oneG (i := 10) (by kernel_rfl) rfl (by rfl) (fun K hK => ?_)
                go_simp
                refine hK.out _ _ (.inl (by omega)) ?_
                clear hK y0 y1 g0' g1'
                refine wpAnyZ_done (by kernel_rfl) ?_ _
                go_wp2_with fail
                go_meet
                exact ⟨b0, p0, q0, r0, t0, rfl, HMM.out ▸ (HB.out.setCell hMb _).setCell hMb _, KeptR.put (v' := .slice none 0 0) (u' := .slice none 0 0) (s' := []) (d' := []) HX.out (R3.out.mono (Nat.zero_le _)) (R7.out.mono (Nat.zero_le _)) (in_of HS.out) (in_of HD.out)⟩
            · skip
              go_simp
              obtain ⟨b0, hb0⟩ : ∃ b, Y28.heap.size = b := ⟨_, rfl⟩
              have hba : Below Y28.heap.size Y28 (Y28.alloc (.cells #[.slice none 0 0, .slice none 0 0] 24)) := (Below.refl _ _).alloc (Nat.le_refl _) _
              have hMb : M ≤ b0 := by have := HB.out.size; rw [HMM.out] at this; omega
              have HX := Lib.hid (Boxed.new hb0)
              have E0 := Lib.hid (E0.out.below hba)
              have E4 := Lib.hid (E4.out.below hba)
              have HB := Lib.hid (HB.out.alloc (by have := HB.out.size; rw [HMM.out] at this; exact this) (.cells #[.slice none 0 0, .slice none 0 0] 24))
              rw [hb0]
              refine hK.out _ _ (.inr (by have h := HO.out.next (HMM.out ▸ HB.out); exact ⟨h.c0, h.c1⟩)) ?_
              clear hK hba hb0
              generalize Y28.alloc (.cells #[.slice none 0 0, .slice none 0 0] 24) = Y34 at *
              refine wpAnyZ_oneG (i := 3) (by kernel_rfl) rfl (by rfl) (fun K hK => ?_)
              refine wp_copy (.tmp 42) (.tmp 44) rfl M g0 s (.slice a0 s.length c0) rfl E0.out rfl ((HS.out.below (HO.out.next (HMM.out ▸ HB.out)).b).src) HSL.out (by have := HB.out.size; rw [HMM.out] at this; exact this) ?_
              intro v3 Y35 hr hg hn
              have hgm := E0.out.ge; have hty := E0.out.ty
              have m34 := newer_ne hn (by omega) E4.out.lt
              have E4 := Lib.hid (E4.out.grown hg (by omega))
              have HX := Lib.hid (HX.out.grown hg hty)
              have R3 := Lib.hid hr
              have HB := Lib.hid (HB.out.grown hg (by have := HB.out.size; rw [HMM.out] at this; exact this) (fun k e => by cases e; exact hgm))
              refine hK.out _ _ (.inr (by have h := HO.out.next (HMM.out ▸ HB.out); exact ⟨h.c0, h.c1⟩)) ?_
              clear hK hr hg hn hgm hty E0
              refine wpAnyZ_oneG (i := 7) (by kernel_rfl) rfl (by rfl) (fun K hK => ?_)
              refine wp_copy (.tmp 46) (.tmp 48) rfl M g4 d (.slice a1 d.length c1) rfl E4.out rfl ((HD.out.below (HO.out.next (HMM.out ▸ HB.out)).b).src) HDL.out (by have := HB.out.size; rw [HMM.out] at this; exact this) ?_
              intro v7 Y36 hr hg hn
              have hgm := E4.out.ge; have hty := E4.out.ty
              have R3 := Lib.hid (R3.out.kept hg (.inr m34))
              have HX := Lib.hid (HX.out.grown hg hty)
              have R7 := Lib.hid hr
              have HB := Lib.hid (HB.out.grown hg (by have := HB.out.size; rw [HMM.out] at this; exact this) (fun k e => by cases e; exact hgm))
              refine hK.out _ _ (.inr (by have h := HO.out.next (HMM.out ▸ HB.out); exact ⟨h.c0, h.c1⟩)) ?_
              clear hK hr hg hn hgm hty E4
              obtain ⟨p0, q0, rfl, -, -⟩ := R3.out.slice
              obtain ⟨r0, t0, rfl, -, -⟩ := R7.out.slice
              have hSS : (fun W' : World => W'.cell? ⟨w.heap.size, 0, none⟩ = some (.slice a0 s.length c0) ∧ W'.cell? ⟨w.heap.size, 1, none⟩ = some (.slice a1 d.length c1)) Y36 := (by have h := HO.out.next (HMM.out ▸ HB.out); exact ⟨h.c0, h.c1⟩)
              refine wpAnyZ_take (i := 8) (v := ?_) rfl (by kernel_rfl) (by kernel_rfl) (by kernel_rfl) (fun _ _ _ h => h) (by kernel_rfl) (Or.inl ⟨by rfl, ?_⟩) (by assumption) ?_
              rotate_left
              · intro w' hSw
                try dsimp only at hSw
                try obtain ⟨hSw, hSw2⟩ := hSw
                go_simp
                try with_reducible rfl
              show wpAnyZ _ _ _ _ _ _ _ _ (Act.put _ (some 50) _) _
              simp only [Act.put, List.setIfInBounds_toArray, List.set_cons_zero, List.set_cons_succ]
              clear hSS
              have g0' := frozen_of_row Y36 b0 0 _ _ HX.out; have g1' := frozen_of_row Y36 b0 1 _ _ HX.out
              have y0 := cell_of_row Y36 b0 0 _ _ _ HX.out; have y1 := cell_of_row Y36 b0 1 _ _ _ HX.out
              refine wpAnyZ_oneG (i := 10) (by kernel_rfl) rfl (by rfl) (fun K hK => ?_)
              go_simp
              refine hK.out _ _ (.inl (by omega)) ?_
              clear hK y0 y1 g0' g1'
              refine wpAnyZ_done (by kernel_rfl) ?_ _
              go_wp2_with fail
              go_meet
              exact ⟨b0, p0, q0, r0, t0, rfl, HMM.out ▸ (HB.out.setCell hMb _).setCell hMb _, KeptR.put (v' := .slice none 0 0) (u' := .slice none 0 0) (s' := []) (d' := []) HX.out (R3.out.mono (Nat.zero_le _)) (R7.out.mono (Nat.zero_le _)) (in_of HS.out) (in_of HD.out)⟩
          · skip
            go_simp
            obtain ⟨b0, hb0⟩ : ∃ b, Y27.heap.size = b := ⟨_, rfl⟩
            have hba : Below Y27.heap.size Y27 (Y27.alloc (.cells #[.slice none 0 0, .slice none 0 0] 24)) := (Below.refl _ _).alloc (Nat.le_refl _) _
            have hMb : M ≤ b0 := by have := HB.out.size; rw [HMM.out] at this; omega
            have HX := Lib.hid (Boxed.new hb0)
            have E4 := Lib.hid (E4.out.below hba)
            have HB := Lib.hid (HB.out.alloc (by have := HB.out.size; rw [HMM.out] at this; exact this) (.cells #[.slice none 0 0, .slice none 0 0] 24))
            rw [hb0]
            refine hK.out _ _ (.inr (by have h := HO.out.next (HMM.out ▸ HB.out); exact ⟨h.c0, h.c1⟩)) ?_
            clear hK hba hb0
            generalize Y27.alloc (.cells #[.slice none 0 0, .slice none 0 0] 24) = Y37 at *
            refine wpAnyZ_oneG (i := 0) (by kernel_rfl) rfl (by rfl) (fun K hK => ?_)
            go_simp
            obtain ⟨g0, hg0⟩ : ∃ b, Y37.heap.size = b := ⟨_, rfl⟩
            have hba : Below Y37.heap.size Y37 (Y37.alloc (.cells #[] 2)) := (Below.refl _ _).alloc (Nat.le_refl _) _
            have E0 := Lib.hid (Empty.new (M := M) (by have := HB.out.size; rw [HMM.out] at this; exact this) hg0)
            have n0 : g4 ≠ g0 := by have := E4.out.lt; omega
            have E4 := Lib.hid (E4.out.below hba)
            have HX := Lib.hid (HX.out.next hba)
            have HB := Lib.hid (HB.out.alloc (by have := HB.out.size; rw [HMM.out] at this; exact this) (.cells #[] 2))
            rw [hg0]
            refine hK.out _ _ (.inr (by have h := HO.out.next (HMM.out ▸ HB.out); exact ⟨h.c0, h.c1⟩)) ?_
            clear hK hba hg0
            generalize Y37.alloc (.cells #[] 2) = Y38 at *
            refine wpAnyZ_oneG (i := 3) (by kernel_rfl) rfl (by rfl) (fun K hK => ?_)
            refine wp_copy (.tmp 42) (.tmp 44) rfl M g0 s (.slice a0 s.length c0) rfl E0.out rfl ((HS.out.below (HO.out.next (HMM.out ▸ HB.out)).b).src) HSL.out (by have := HB.out.size; rw [HMM.out] at this; exact this) ?_
            intro v3 Y39 hr hg hn
            have hgm := E0.out.ge; have hty := E0.out.ty
            have m34 := newer_ne hn (by omega) E4.out.lt
            have E4 := Lib.hid (E4.out.grown hg (by omega))
            have HX := Lib.hid (HX.out.grown hg hty)
            have R3 := Lib.hid hr
            have HB := Lib.hid (HB.out.grown hg (by have := HB.out.size; rw [HMM.out] at this; exact this) (fun k e => by cases e; exact hgm))
            refine hK.out _ _ (.inr (by have h := HO.out.next (HMM.out ▸ HB.out); exact ⟨h.c0, h.c1⟩)) ?_
            clear hK hr hg hn hgm hty E0
            refine wpAnyZ_oneG (i := 7) (by kernel_rfl) rfl (by rfl) (fun K hK => ?_)
            refine wp_copy (.tmp 46) (.tmp 48) rfl M g4 d (.slice a1 d.length c1) rfl E4.out rfl ((HD.out.below (HO.out.next (HMM.out ▸ HB.out)).b).src) HDL.out (by have := HB.out.size; rw [HMM.out] at this; exact this) ?_
            intro v7 Y40 hr hg hn
            have hgm := E4.out.ge; have hty := E4.out.ty
            have R3 := Lib.hid (R3.out.kept hg (.inr m34))
            have HX := Lib.hid (HX.out.grown hg hty)
            have R7 := Lib.hid hr
            have HB := Lib.hid (HB.out.grown hg (by have := HB.out.size; rw [HMM.out] at this; exact this) (fun k e => by cases e; exact hgm))
            refine hK.out _ _ (.inr (by have h := HO.out.next (HMM.out ▸ HB.out); exact ⟨h.c0, h.c1⟩)) ?_
            clear hK hr hg hn hgm hty E4
            obtain ⟨p0, q0, rfl, -, -⟩ := R3.out.slice
            obtain ⟨r0, t0, rfl, -, -⟩ := R7.out.slice
            have hSS : (fun W' : World => W'.cell? ⟨w.heap.size, 0, none⟩ = some (.slice a0 s.length c0) ∧ W'.cell? ⟨w.heap.size, 1, none⟩ = some (.slice a1 d.length c1)) Y40 := (by have h := HO.out.next (HMM.out ▸ HB.out); exact ⟨h.c0, h.c1⟩)
            refine wpAnyZ_take (i := 8) (v := ?_) rfl (by kernel_rfl) (by kernel_rfl) (by kernel_rfl) (fun _ _ _ h => h) (by kernel_rfl) (Or.inl ⟨by rfl, ?_⟩) (by assumption) ?_
            rotate_left
            · intro w' hSw
              try dsimp only at hSw
              try obtain ⟨hSw, hSw2⟩ := hSw
              go_simp
              try with_reducible rfl
            show wpAnyZ _ _ _ _ _ _ _ _ (Act.put _ (some 50) _) _
            simp only [Act.put, List.setIfInBounds_toArray, List.set_cons_zero, List.set_cons_succ]
            clear hSS
            have g0' := frozen_of_row Y40 b0 0 _ _ HX.out; have g1' := frozen_of_row Y40 b0 1 _ _ HX.out
            have y0 := cell_of_row Y40 b0 0 _ _ _ HX.out; have y1 := cell_of_row Y40 b0 1 _ _ _ HX.out
            refine wpAnyZ_oneG (i := 10) (by kernel_rfl) rfl (by rfl) (fun K hK => ?_)
            go_simp
            refine hK.out _ _ (.inl (by omega)) ?_
            clear hK y0 y1 g0' g1'
            refine wpAnyZ_done (by kernel_rfl) ?_ _
            go_wp2_with fail
            go_meet
            exact ⟨b0, p0, q0, r0, t0, rfl, HMM.out ▸ (HB.out.setCell hMb _).setCell hMb _, KeptR.put (v' := .slice none 0 0) (u' := .slice none 0 0) (s' := []) (d' := []) HX.out (R3.out.mono (Nat.zero_le _)) (R7.out.mono (Nat.zero_le _)) (in_of HS.out) (in_of HD.out)⟩
        · skip
          go_simp
          obtain ⟨b0, hb0⟩ : ∃ b, Y.heap.size = b := ⟨_, rfl⟩
          have hba : Below Y.heap.size Y (Y.alloc (.cells #[.slice none 0 0, .slice none 0 0] 24)) := (Below.refl _ _).alloc (Nat.le_refl _) _
          have hMb : M ≤ b0 := by have := HB.out.size; rw [HMM.out] at this; omega
          have HX := Lib.hid (Boxed.new hb0)
          have HB := Lib.hid (HB.out.alloc (by have := HB.out.size; rw [HMM.out] at this; exact this) (.cells #[.slice none 0 0, .slice none 0 0] 24))
          rw [hb0]
          refine hK.out _ _ (.inr (by have h := HO.out.next (HMM.out ▸ HB.out); exact ⟨h.c0, h.c1⟩)) ?_
          clear hK hba hb0
          generalize Y.alloc (.cells #[.slice none 0 0, .slice none 0 0] 24) = Y41 at *
          refine wpAnyZ_twoG (i := 0) (j := 4) (by kernel_rfl) rfl rfl (by rfl) (by rfl) (fun K hK => ?_) (fun K hK => ?_)
          · skip
            go_simp
            obtain ⟨g0, hg0⟩ : ∃ b, Y41.heap.size = b := ⟨_, rfl⟩
            have hba : Below Y41.heap.size Y41 (Y41.alloc (.cells #[] 2)) := (Below.refl _ _).alloc (Nat.le_refl _) _
            have E0 := Lib.hid (Empty.new (M := M) (by have := HB.out.size; rw [HMM.out] at this; exact this) hg0)
            have HX := Lib.hid (HX.out.next hba)
            have HB := Lib.hid (HB.out.alloc (by have := HB.out.size; rw [HMM.out] at this; exact this) (.cells #[] 2))
            rw [hg0]
            refine hK.out _ _ (.inr (by have h := HO.out.next (HMM.out ▸ HB.out); exact ⟨h.c0, h.c1⟩)) ?_
            clear hK hba hg0
            generalize Y41.alloc (.cells #[] 2) = Y42 at *
            refine wpAnyZ_twoG (i := 3) (j := 4) (by kernel_rfl) rfl rfl (by rfl) (by rfl) (fun K hK => ?_) (fun K hK => ?_)
            · skip
              refine wp_copy (.tmp 42) (.tmp 44) rfl M g0 s (.slice a0 s.length c0) rfl E0.out rfl ((HS.out.below (HO.out.next (HMM.out ▸ HB.out)).b).src) HSL.out (by have := HB.out.size; rw [HMM.out] at this; exact this) ?_
              intro v3 Y43 hr hg hn
              have hgm := E0.out.ge; have hty := E0.out.ty
              have HX := Lib.hid (HX.out.grown hg hty)
              have R3 := Lib.hid hr
              have HB := Lib.hid (HB.out.grown hg (by have := HB.out.size; rw [HMM.out] at this; exact this) (fun k e => by cases e; exact hgm))
              refine hK.out _ _ (.inr (by have h := HO.out.next (HMM.out ▸ HB.out); exact ⟨h.c0, h.c1⟩)) ?_
              clear hK hr hg hn hgm hty E0
              refine wpAnyZ_oneG (i := 4) (by kernel_rfl) rfl (by rfl) (fun K hK => ?_)
              go_simp
              obtain ⟨g4, hg4⟩ : ∃ b, Y43.heap.size = b := ⟨_, rfl⟩
              have hba : Below Y43.heap.size Y43 (Y43.alloc (.cells #[] 2)) := (Below.refl _ _).alloc (Nat.le_refl _) _
              have E4 := Lib.hid (Empty.new (M := M) (by have := HB.out.size; rw [HMM.out] at this; exact this) hg4)
              have m34 := R3.out.ne_new (Nat.le_of_eq hg4)
              have R3 := Lib.hid (R3.out.below hba)
              have HX := Lib.hid (HX.out.next hba)
              have HB := Lib.hid (HB.out.alloc (by have := HB.out.size; rw [HMM.out] at this; exact this) (.cells #[] 2))
              rw [hg4]
              refine hK.out _ _ (.inr (by have h := HO.out.next (HMM.out ▸ HB.out); exact ⟨h.c0, h.c1⟩)) ?_
              clear hK hba hg4
              generalize Y43.alloc (.cells #[] 2) = Y44 at *
              refine wpAnyZ_oneG (i := 7) (by kernel_rfl) rfl (by rfl) (fun K hK => ?_)
              refine wp_copy (.tmp 46) (.tmp 48) rfl M g4 d (.slice a1 d.length c1) rfl E4.out rfl ((HD.out.below (HO.out.next (HMM.out ▸ HB.out)).b).src) HDL.out (by have := HB.out.size; rw [HMM.out] at this; exact this) ?_
              intro v7 Y45 hr hg hn
              have hgm := E4.out.ge; have hty := E4.out.ty
              have R3 := Lib.hid (R3.out.kept hg (.inr m34))
              have HX := Lib.hid (HX.out.grown hg hty)
              have R7 := Lib.hid hr
              have HB := Lib.hid (HB.out.grown hg (by have := HB.out.size; rw [HMM.out] at this; exact this) (fun k e => by cases e; exact hgm))
              refine hK.out _ _ (.inr (by have h := HO.out.next (HMM.out ▸ HB.out); exact ⟨h.c0, h.c1⟩)) ?_
              clear hK hr hg hn hgm hty E4
              obtain ⟨p0, q0, rfl, -, -⟩ := R3.out.slice
              obtain ⟨r0, t0, rfl, -, -⟩ := R7.out.slice
              have hSS : (fun W' : World => W'.cell? ⟨w.heap.size, 0, none⟩ = some (.slice a0 s.length c0) ∧ W'.cell? ⟨w.heap.size, 1, none⟩ = some (.slice a1 d.length c1)) Y45 := (by have h := HO.out.next (HMM.out ▸ HB.out); exact ⟨h.c0, h.c1⟩)
              refine wpAnyZ_take (i := 8) (v := ?_) rfl (by kernel_rfl) (by kernel_rfl) (by kernel_rfl) (fun _ _ _ h => h) (by kernel_rfl) (Or.inl ⟨by rfl, ?_⟩) (by assumption) ?_
              rotate_left
              · intro w' hSw
                try dsimp only at hSw
                try obtain ⟨hSw, hSw2⟩ := hSw
                go_simp
                try with_reducible rfl
              show wpAnyZ _ _ _ _ _ _ _ _ (Act.put _ (some 50) _) _
              simp only [Act.put, List.setIfInBounds_toArray, List.set_cons_zero, List.set_cons_succ]
              clear hSS
              have g0' := frozen_of_row Y45 b0 0 _ _ HX.out; have g1' := frozen_of_row Y45 b0 1 _ _ HX.out
              have y0 := cell_of_row Y45 b0 0 _ _ _ HX.out; have y1 := cell_of_row Y45 b0 1 _ _ _ HX.out
              refine wpAnyZ_oneG (i := 10) (by kernel_rfl) rfl (by rfl) (fun K hK => ?_)
              go_simp
              refine hK.out _ _ (.inl (by omega)) ?_
              clear hK y0 y1 g0' g1'
              refine wpAnyZ_done (by kernel_rfl) ?_ _
              go_wp2_with fail
              go_meet
              exact ⟨b0, p0, q0, r0, t0, rfl, HMM.out ▸ (HB.out.setCell hMb _).setCell hMb _, KeptR.put (v' := .slice none 0 0) (u' := .slice none 0 0) (s' := []) (d' := []) HX.out (R3.out.mono (Nat.zero_le _)) (R7.out.mono (Nat.zero_le _)) (in_of HS.out) (in_of HD.out)⟩
            · skip
              go_simp
              obtain ⟨g4, hg4⟩ : ∃ b, Y42.heap.size = b := ⟨_, rfl⟩
              have hba : Below Y42.heap.size Y42 (Y42.alloc (.cells #[] 2)) := (Below.refl _ _).alloc (Nat.le_refl _) _
              have E4 := Lib.hid (Empty.new (M := M) (by have := HB.out.size; rw [HMM.out] at this; exact this) hg4)
              have n4 : g0 ≠ g4 := by have := E0.out.lt; omega
              have E0 := Lib.hid (E0.out.below hba)
              have HX := Lib.hid (HX.out.next hba)
              have HB := Lib.hid (HB.out.alloc (by have := HB.out.size; rw [HMM.out] at this; exact this) (.cells #[] 2))
              rw [hg4]
              refine hK.out _ _ (.inr (by have h := HO.out.next (HMM.out ▸ HB.out); exact ⟨h.c0, h.c1⟩)) ?_
              clear hK hba hg4
              generalize Y42.alloc (.cells #[] 2) = Y46 at *
              refine wpAnyZ_oneG (i := 3) (by kernel_rfl) rfl (by rfl) (fun K hK => ?_)
              refine wp_copy (.tmp 42) (.tmp 44) rfl M g0 s (.slice a0 s.length c0) rfl E0.out rfl ((HS.out.below (HO.out.next (HMM.out ▸ HB.out)).b).src) HSL.out (by have := HB.out.size; rw [HMM.out] at this; exact this) ?_
              intro v3 Y47 hr hg hn
              have hgm := E0.out.ge; have hty := E0.out.ty
              have m34 := newer_ne hn (by omega) E4.out.lt
              have E4 := Lib.hid (E4.out.grown hg (by omega))
              have HX := Lib.hid (HX.out.grown hg hty)
              have R3 := Lib.hid hr
              have HB := Lib.hid (HB.out.grown hg (by have := HB.out.size; rw [HMM.out] at this; exact this) (fun k e => by cases e; exact hgm))
              refine hK.out _ _ (.inr (by have h := HO.out.next (HMM.out ▸ HB.out); exact ⟨h.c0, h.c1⟩)) ?_
              clear hK hr hg hn hgm hty E0
              refine wpAnyZ_oneG (i := 7) (by kernel_rfl) rfl (by rfl) (fun K hK => ?_)
              refine wp_copy (.tmp 46) (.tmp 48) rfl M g4 d (.slice a1 d.length c1) rfl E4.out rfl ((HD.out.below (HO.out.next (HMM.out ▸ HB.out)).b).src) HDL.out (by have := HB.out.size; rw [HMM.out] at this; exact this) ?_
              intro v7 Y48 hr hg hn
              have hgm := E4.out.ge; have hty := E4.out.ty
              have R3 := Lib.hid (R3.out.kept hg (.inr m34))
              have HX := Lib.hid (HX.out.grown hg hty)
              have R7 := Lib.hid hr
              have HB := Lib.hid (HB.out.grown hg (by have := HB.out.size; rw [HMM.out] at this; exact this) (fun k e => by cases e; exact hgm))
              refine hK.out _ _ (.inr (by have h := HO.out.next (HMM.out ▸ HB.out); exact ⟨h.c0, h.c1⟩)) ?_
              clear hK hr hg hn hgm hty E4
              obtain ⟨p0, q0, rfl, -, -⟩ := R3.out.slice
              obtain ⟨r0, t0, rfl, -, -⟩ := R7.out.slice
              have hSS : (fun W' : World => W'.cell? ⟨w.heap.size, 0, none⟩ = some (.slice a0 s.length c0) ∧ W'.cell? ⟨w.heap.size, 1, none⟩ = some (.slice a1 d.length c1)) Y48 := (by have h := HO.out.next (HMM.out ▸ HB.out); exact ⟨h.c0, h.c1⟩)
              refine wpAnyZ_take (i := 8) (v := ?_) rfl (by kernel_rfl) (by kernel_rfl) (by kernel_rfl) (fun _ _ _ h => h) (by kernel_rfl) (Or.inl ⟨by rfl, ?_⟩) (by assumption) ?_
              rotate_left
              · intro w' hSw
                try dsimp only at hSw
                try obtain ⟨hSw, hSw2⟩ := hSw
                go_simp
                try with_reducible rfl
              show wpAnyZ _ _ _ _ _ _ _ _ (Act.put _ (some 50) _) _
              simp only [Act.put, List.setIfInBounds_toArray, List.set_cons_zero, List.set_cons_succ]
              clear hSS
              have g0' := frozen_of_row Y48 b0 0 _ _ HX.out; have g1' := frozen_of_row Y48 b0 1 _ _ HX.out
              have y0 := cell_of_row Y48 b0 0 _ _ _ HX.out; have y1 := cell_of_row Y48 b0 1 _ _ _ HX.out
              refine wpAnyZ_oneG (i := 10) (by kernel_rfl) rfl (by rfl) (fun K hK => ?_)
              go_simp
              refine hK.out _ _ (.inl (by omega)) ?_
              clear hK y0 y1 g0' g1'
              refine wpAnyZ_done (by kernel_rfl) ?_ _
              go_wp2_with fail
              go_meet
              exact ⟨b0, p0, q0, r0, t0, rfl, HMM.out ▸ (HB.out.setCell hMb _).setCell hMb _, KeptR.put (v' := .slice none 0 0) (u' := .slice none 0 0) (s' := []) (d' := []) HX.out (R3.out.mono (Nat.zero_le _)) (R7.out.mono (Nat.zero_le _)) (in_of HS.out) (in_of HD.out)⟩
          · skip
            go_simp
            obtain ⟨g4, hg4⟩ : ∃ b, Y41.heap.size = b := ⟨_, rfl⟩
            have hba : Below Y41.heap.size Y41 (Y41.alloc (.cells #[] 2)) := (Below.refl _ _).alloc (Nat.le_refl _) _
            have E4 := Lib.hid (Empty.new (M := M) (by have := HB.out.size; rw [HMM.out] at this; exact this) hg4)
            have HX := Lib.hid (HX.out.next hba)
            have HB := Lib.hid (HB.out.alloc (by have := HB.out.size; rw [HMM.out] at this; exact this) (.cells #[] 2))
            rw [hg4]
            refine hK.out _ _ (.inr (by have h := HO.out.next (HMM.out ▸ HB.out); exact ⟨h.c0, h.c1⟩)) ?_
            clear hK hba hg4
            generalize Y41.alloc (.cells #[] 2) = Y49 at *
            refine wpAnyZ_oneG (i := 0) (by kernel_rfl) rfl (by rfl) (fun K hK => ?_)
            go_simp
            obtain ⟨g0, hg0⟩ : ∃ b, Y49.heap.size = b := ⟨_, rfl⟩
            have hba : Below Y49.heap.size Y49 (Y49.alloc (.cells #[] 2)) := (Below.refl _ _).alloc (Nat.le_refl _) _
            have E0 := Lib.hid (Empty.new (M := M) (by have := HB.out.size; rw [HMM.out] at this; exact this) hg0)
            have n0 : g4 ≠ g0 := by have := E4.out.lt; omega
            have E4 := Lib.hid (E4.out.below hba)
            have HX := Lib.hid (HX.out.next hba)
            have HB := Lib.hid (HB.out.alloc (by have := HB.out.size; rw [HMM.out] at this; exact this) (.cells #[] 2))
            rw [hg0]
            refine hK.out _ _ (.inr (by have h := HO.out.next (HMM.out ▸ HB.out); exact ⟨h.c0, h.c1⟩)) ?_
            clear hK hba hg0
            generalize Y49.alloc (.cells #[] 2) = Y50 at *
            refine wpAnyZ_oneG (i := 3) (by kernel_rfl) rfl (by rfl) (fun K hK => ?_)
            refine wp_copy (.tmp 42) (.tmp 44) rfl M g0 s (.slice a0 s.length c0) rfl E0.out rfl ((HS.out.below (HO.out.next (HMM.out ▸ HB.out)).b).src) HSL.out (by have := HB.out.size; rw [HMM.out] at this; exact this) ?_
            intro v3 Y51 hr hg hn
            have hgm := E0.out.ge; have hty := E0.out.ty
            have m34 := newer_ne hn (by omega) E4.out.lt
            have E4 := Lib.hid (E4.out.grown hg (by omega))
            have HX := Lib.hid (HX.out.grown hg hty)
            have R3 := Lib.hid hr
            have HB := Lib.hid (HB.out.grown hg (by have := HB.out.size; rw [HMM.out] at this; exact this) (fun k e => by cases e; exact hgm))
            refine hK.out _ _ (.inr (by have h := HO.out.next (HMM.out ▸ HB.out); exact ⟨h.c0, h.c1⟩)) ?_
            clear hK hr hg hn hgm hty E0
            refine wpAnyZ_oneG (i := 7) (by kernel_rfl) rfl (by rfl) (fun K hK => ?_)
            refine wp_copy (.tmp 46) (.tmp 48) rfl M g4 d (.slice a1 d.length c1) rfl E4.out rfl ((HD.out.below (HO.out.next (HMM.out ▸ HB.out)).b).src) HDL.out (by have := HB.out.size; rw [HMM.out] at this; exact this) ?_
            intro v7 Y52 hr hg hn
            have hgm := E4.out.ge; have hty := E4.out.ty
            have R3 := Lib.hid (R3.out.kept hg (.inr m34))
            have HX := Lib.hid (HX.out.grown hg hty)
            have R7 := Lib.hid hr
            have HB := Lib.hid (HB.out.grown hg (by have := HB.out.size; rw [HMM.out] at this; exact this) (fun k e => by cases e; exact hgm))
            refine hK.out _ _ (.inr (by have h := HO.out.next (HMM.out ▸ HB.out); exact ⟨h.c0, h.c1⟩)) ?_
            clear hK hr hg hn hgm hty E4
            obtain ⟨p0, q0, rfl, -, -⟩ := R3.out.slice
            obtain ⟨r0, t0, rfl, -, -⟩ := R7.out.slice
            have hSS : (fun W' : World => W'.cell? ⟨w.heap.size, 0, none⟩ = some (.slice a0 s.length c0) ∧ W'.cell? ⟨w.heap.size, 1, none⟩ = some (.slice a1 d.length c1)) Y52 := (by have h := HO.out.next (HMM.out ▸ HB.out); exact ⟨h.c0, h.c1⟩)
            refine wpAnyZ_take (i := 8) (v := ?_) rfl (by kernel_rfl) (by kernel_rfl) (by kernel_rfl) (fun _ _ _ h => h) (by kernel_rfl) (Or.inl ⟨by rfl, ?_⟩) (by assumption) ?_
            rotate_left
            · intro w' hSw
              try dsimp only at hSw
              try obtain ⟨hSw, hSw2⟩ := hSw
              go_simp
              try with_reducible rfl
            show wpAnyZ _ _ _ _ _ _ _ _ (Act.put _ (some 50) _) _
            simp only [Act.put, List.setIfInBounds_toArray, List.set_cons_zero, List.set_cons_succ]
            clear hSS
            have g0' := frozen_of_row Y52 b0 0 _ _ HX.out; have g1' := frozen_of_row Y52 b0 1 _ _ HX.out
            have y0 := cell_of_row Y52 b0 0 _ _ _ HX.out; have y1 := cell_of_row Y52 b0 1 _ _ _ HX.out
            refine wpAnyZ_oneG (i := 10) (by kernel_rfl) rfl (by rfl) (fun K hK => ?_)
            go_simp
            refine hK.out _ _ (.inl (by omega)) ?_
            clear hK y0 y1 g0' g1'
            refine wpAnyZ_done (by kernel_rfl) ?_ _
            go_wp2_with fail
            go_meet
            exact ⟨b0, p0, q0, r0, t0, rfl, HMM.out ▸ (HB.out.setCell hMb _).setCell hMb _, KeptR.put (v' := .slice none 0 0) (u' := .slice none 0 0) (s' := []) (d' := []) HX.out (R3.out.mono (Nat.zero_le _)) (R7.out.mono (Nat.zero_le _)) (in_of HS.out) (in_of HD.out)⟩
    case rest =>
      obtain ⟨b0, p0, q0, r0, t0, rfl, hbx, hK0⟩ := hcut
      have HO := Lib.hid (HO.out.next hbx)
      have K0 := Lib.hid hK0
      clear hK0 hbx
      go_upto_region 6 with fail
      refine gen_worldA (fun W => BoxB w W (.slice a0 s.length c0) (.slice a1 d.length c1) (.slice a2 t.length c2) (.slice a3 e.length c3) ∧ KeptR W b0 (.slice p0 s.length q0) (.slice r0 d.length t0) s d) ⟨HO.out, K0.out⟩ ?_
      rintro V6 ⟨hHO, hK0⟩
      clear HO K0
      have HO := Lib.hid hHO
      have K0 := Lib.hid hK0
      clear hHO hK0
      go_cut [11] (fun s11 wx => ∃ b1 p1 q1 r1 t1, s11 = .pointer (some ⟨b1, 0, none⟩) ∧ Below V6.heap.size V6 wx ∧ KeptR wx b1 (.slice p1 t.length q1) (.slice r1 e.length t1) t e)
      case first =>
        as_aux_lemma =>
          refine wp_region_Z (S := fun W' => W'.cell? ⟨w.heap.size + 1, 0, none⟩ = some (.slice a2 t.length c2) ∧ W'.cell? ⟨w.heap.size + 1, 1, none⟩ = some (.slice a3 e.length c3)) (z := 10) (by kernel_rfl) ?_
          have HB := Lib.hid (show Below V6.heap.size V6 V6.drew from (Below.refl _ _).drew)
          obtain ⟨M, hM⟩ : ∃ M, V6.heap.size = M := ⟨_, rfl⟩
          rw [hM] at HB
          have HMM := Lib.hid hM
          generalize V6.drew = Y at HB ⊢
          clear hM
          have hSS : (fun W' : World => W'.cell? ⟨w.heap.size + 1, 0, none⟩ = some (.slice a2 t.length c2) ∧ W'.cell? ⟨w.heap.size + 1, 1, none⟩ = some (.slice a3 e.length c3)) Y := (by have h := HO.out.next (HMM.out ▸ HB.out); exact ⟨h.c2, h.c3⟩)
          refine wpAnyZ_take (i := 1) (v := ?_) rfl (by kernel_rfl) (by kernel_rfl) (by kernel_rfl) (fun _ _ _ h => h) (by kernel_rfl) (Or.inl ⟨by rfl, ?_⟩) (by assumption) ?_
          rotate_left
          · intro w' hSw
            try dsimp only at hSw
            try obtain ⟨hSw, hSw2⟩ := hSw
            go_simp
            try with_reducible rfl
          show wpAnyZ _ _ _ _ _ _ _ _ (Act.put _ (some 52) _) _
          simp only [Act.put, List.setIfInBounds_toArray, List.set_cons_zero, List.set_cons_succ]
          refine wpAnyZ_take (i := 2) (v := ?_) rfl (by kernel_rfl) (by kernel_rfl) (by kernel_rfl) (fun _ _ _ h => h) (by kernel_rfl) (Or.inl ⟨by rfl, ?_⟩) (by assumption) ?_
          rotate_left
          · intro w' hSw
            try dsimp only at hSw
            try obtain ⟨hSw, hSw2⟩ := hSw
            go_simp
            try with_reducible rfl
          show wpAnyZ _ _ _ _ _ _ _ _ (Act.put _ (some 53) _) _
          simp only [Act.put, List.setIfInBounds_toArray, List.set_cons_zero, List.set_cons_succ]
          refine wpAnyZ_take (i := 5) (v := ?_) rfl (by kernel_rfl) (by kernel_rfl) (by kernel_rfl) (fun _ _ _ h => h) (by kernel_rfl) (Or.inl ⟨by rfl, ?_⟩) (by assumption) ?_
          rotate_left
          · intro w' hSw
            try dsimp only at hSw
            try obtain ⟨hSw, hSw2⟩ := hSw
            go_simp
            try with_reducible rfl
          show wpAnyZ _ _ _ _ _ _ _ _ (Act.put _ (some 56) _) _
          simp only [Act.put, List.setIfInBounds_toArray, List.set_cons_zero, List.set_cons_succ]
          refine wpAnyZ_take (i := 6) (v := ?_) rfl (by kernel_rfl) (by kernel_rfl) (by kernel_rfl) (fun _ _ _ h => h) (by kernel_rfl) (Or.inl ⟨by rfl, ?_⟩) (by assumption) ?_
          rotate_left
          · intro w' hSw
            try dsimp only at hSw
            try obtain ⟨hSw, hSw2⟩ := hSw
            go_simp
            try with_reducible rfl
          show wpAnyZ _ _ _ _ _ _ _ _ (Act.put _ (some 57) _) _
          simp only [Act.put, List.setIfInBounds_toArray, List.set_cons_zero, List.set_cons_succ]
          clear hSS
          refine wpAnyZ_threeG (i := 0) (j := 4) (l := 9) (by kernel_rfl) rfl rfl rfl (by rfl) (by rfl) (by rfl) (fun K hK => ?_) (fun K hK => ?_) (fun K hK => ?_)
          · skip
            go_simp
            obtain ⟨g0, hg0⟩ : ∃ b, Y.heap.size = b := ⟨_, rfl⟩
            have hba : Below Y.heap.size Y (Y.alloc (.cells #[] 2)) := (Below.refl _ _).alloc (Nat.le_refl _) _
            have E0 := Lib.hid (Empty.new (M := M) (by have := HB.out.size; rw [HMM.out] at this; exact this) hg0)
            have HB := Lib.hid (HB.out.alloc (by have := HB.out.size; rw [HMM.out] at this; exact this) (.cells #[] 2))
            rw [hg0]
            refine hK.out _ _ (.inr (by have h := HO.out.next (HMM.out ▸ HB.out); exact ⟨h.c2, h.c3⟩)) ?_
            clear hK hba hg0
            generalize Y.alloc (.cells #[] 2) = Y1 at *
            refine wpAnyZ_threeG (i := 3) (j := 4) (l := 9) (by kernel_rfl) rfl rfl rfl (by rfl) (by rfl) (by rfl) (fun K hK => ?_) (fun K hK => ?_) (fun K hK => ?_)
            · skip
              refine wp_copy (.tmp 51) (.tmp 53) rfl M g0 t (.slice a2 t.length c2) rfl E0.out rfl ((HT.out.below (HO.out.next (HMM.out ▸ HB.out)).b).src) HTL.out (by have := HB.out.size; rw [HMM.out] at this; exact this) ?_
              intro v3 Y2 hr hg hn
              have hgm := E0.out.ge; have hty := E0.out.ty
              have R3 := Lib.hid hr
              have HB := Lib.hid (HB.out.grown hg (by have := HB.out.size; rw [HMM.out] at this; exact this) (fun k e => by cases e; exact hgm))
              refine hK.out _ _ (.inr (by have h := HO.out.next (HMM.out ▸ HB.out); exact ⟨h.c2, h.c3⟩)) ?_
              clear hK hr hg hn hgm hty E0
              refine wpAnyZ_twoG (i := 4) (j := 9) (by kernel_rfl) rfl rfl (by rfl) (by rfl) (fun K hK => ?_) (fun K hK => ?_)
              · skip
                go_simp
                obtain ⟨g4, hg4⟩ : ∃ b, Y2.heap.size = b := ⟨_, rfl⟩
                have hba : Below Y2.heap.size Y2 (Y2.alloc (.cells #[] 2)) := (Below.refl _ _).alloc (Nat.le_refl _) _
                have E4 := Lib.hid (Empty.new (M := M) (by have := HB.out.size; rw [HMM.out] at this; exact this) hg4)
                have m34 := R3.out.ne_new (Nat.le_of_eq hg4)
                have R3 := Lib.hid (R3.out.below hba)
                have HB := Lib.hid (HB.out.alloc (by have := HB.out.size; rw [HMM.out] at this; exact this) (.cells #[] 2))
                rw [hg4]
                refine hK.out _ _ (.inr (by have h := HO.out.next (HMM.out ▸ HB.out); exact ⟨h.c2, h.c3⟩)) ?_
                clear hK hba hg4
                generalize Y2.alloc (.cells #[] 2) = Y3 at *
                refine wpAnyZ_twoG (i := 7) (j := 9) (by kernel_rfl) rfl rfl (by rfl) (by rfl) (fun K hK => ?_) (fun K hK => ?_)
                · skip
                  refine wp_copy (.tmp 55) (.tmp 57) rfl M g4 e (.slice a3 e.length c3) rfl E4.out rfl ((HE.out.below (HO.out.next (HMM.out ▸ HB.out)).b).src) HEL.out (by have := HB.out.size; rw [HMM.out] at this; exact this) ?_
                  intro v7 Y4 hr hg hn
                  have hgm := E4.out.ge; have hty := E4.out.ty
                  have R3 := Lib.hid (R3.out.kept hg (.inr m34))
                  have R7 := Lib.hid hr
                  have HB := Lib.hid (HB.out.grown hg (by have := HB.out.size; rw [HMM.out] at this; exact this) (fun k e => by cases e; exact hgm))
                  refine hK.out _ _ (.inr (by have h := HO.out.next (HMM.out ▸ HB.out); exact ⟨h.c2, h.c3⟩)) ?_
                  clear hK hr hg hn hgm hty E4
                  obtain ⟨p1, q1, rfl, -, -⟩ := R3.out.slice
                  obtain ⟨r1, t1, rfl, -, -⟩ := R7.out.slice
                  have hSS : (fun W' : World => W'.cell? ⟨w.heap.size + 1, 0, none⟩ = some (.slice a2 t.length c2) ∧ W'.cell? ⟨w.heap.size + 1, 1, none⟩ = some (.slice a3 e.length c3)) Y4 := (by have h := HO.out.next (HMM.out ▸ HB.out); exact ⟨h.c2, h.c3⟩)
                  refine wpAnyZ_take (i := 8) (v := ?_) rfl (by kernel_rfl) (by kernel_rfl) (by kernel_rfl) (fun _ _ _ h => h) (by kernel_rfl) (Or.inl ⟨by rfl, ?_⟩) (by assumption) ?_
                  rotate_left
                  · intro w' hSw
                    try dsimp only at hSw
                    try obtain ⟨hSw, hSw2⟩ := hSw
                    go_simp
                    try with_reducible rfl
                  show wpAnyZ _ _ _ _ _ _ _ _ (Act.put _ (some 59) _) _
                  simp only [Act.put, List.setIfInBounds_toArray, List.set_cons_zero, List.set_cons_succ]
                  clear hSS
                  refine wpAnyZ_oneG (i := 9) (by kernel_rfl) rfl (by rfl) (fun K hK => ?_)
                  go_simp
                  obtain ⟨b1, hb1⟩ : ∃ b, Y4.heap.size = b := ⟨_, rfl⟩
                  have hba : Below Y4.heap.size Y4 (Y4.alloc (.cells #[.slice none 0 0, .slice none 0 0] 24)) := (Below.refl _ _).alloc (Nat.le_refl _) _
                  have hMb : M ≤ b1 := by have := HB.out.size; rw [HMM.out] at this; omega
                  have HX := Lib.hid (Boxed.new hb1)
                  have R3 := Lib.hid (R3.out.below hba)
                  have R7 := Lib.hid (R7.out.below hba)
                  have HB := Lib.hid (HB.out.alloc (by have := HB.out.size; rw [HMM.out] at this; exact this) (.cells #[.slice none 0 0, .slice none 0 0] 24))
                  rw [hb1]
                  refine hK.out _ _ (.inr (by have h := HO.out.next (HMM.out ▸ HB.out); exact ⟨h.c2, h.c3⟩)) ?_
                  clear hK hba hb1
                  generalize Y4.alloc (.cells #[.slice none 0 0, .slice none 0 0] 24) = Y5 at *
                  have g0' := frozen_of_row Y5 b1 0 _ _ HX.out; have g1' := frozen_of_row Y5 b1 1 _ _ HX.out
                  have y0 := cell_of_row Y5 b1 0 _ _ _ HX.out; have y1 := cell_of_row Y5 b1 1 _ _ _ HX.out
                  refine wpAnyZ_oneG (i := 10) (by kernel_rfl) rfl (by rfl) (fun K hK => ?_)
                  go_simp
                  refine hK.out _ _ (.inl (by omega)) ?_
                  clear hK y0 y1 g0' g1'
                  refine wpAnyZ_done (by kernel_rfl) ?_ _
                  go_wp2_with fail
                  go_meet
                  exact ⟨b1, p1, q1, r1, t1, rfl, HMM.out ▸ (HB.out.setCell hMb _).setCell hMb _, KeptR.put (v' := .slice none 0 0) (u' := .slice none 0 0) (s' := []) (d' := []) HX.out (R3.out.mono (Nat.zero_le _)) (R7.out.mono (Nat.zero_le _)) (in_of HT.out) (in_of HE.out)⟩
                · skip
                  go_simp
                  obtain ⟨b1, hb1⟩ : ∃ b, Y3.heap.size = b := ⟨_, rfl⟩
                  have hba : Below Y3.heap.size Y3 (Y3.alloc (.cells #[.slice none 0 0, .slice none 0 0] 24)) := (Below.refl _ _).alloc (Nat.le_refl _) _
                  have hMb : M ≤ b1 := by have := HB.out.size; rw [HMM.out] at this; omega
                  have HX := Lib.hid (Boxed.new hb1)
                  have R3 := Lib.hid (R3.out.below hba)
                  have E4 := Lib.hid (E4.out.below hba)
                  have HB := Lib.hid (HB.out.alloc (by have := HB.out.size; rw [HMM.out] at this; exact this) (.cells #[.slice none 0 0, .slice none 0 0] 24))
                  rw [hb1]
                  refine hK.out _ _ (.inr (by have h := HO.out.next (HMM.out ▸ HB.out); exact ⟨h.c2, h.c3⟩)) ?_
                  clear hK hba hb1
                  generalize Y3.alloc (.cells #[.slice none 0 0, .slice none 0 0] 24) = Y6 at *
                  refine wpAnyZ_oneG (i := 7) (by kernel_rfl) rfl (by rfl) (fun K hK => ?_)
                  refine wp_copy (.tmp 55) (.tmp 57) rfl M g4 e (.slice a3 e.length c3) rfl E4.out rfl ((HE.out.below (HO.out.next (HMM.out ▸ HB.out)).b).src) HEL.out (by have := HB.out.size; rw [HMM.out] at this; exact this) ?_
                  intro v7 Y7 hr hg hn
                  have hgm := E4.out.ge; have hty := E4.out.ty
                  have R3 := Lib.hid (R3.out.kept hg (.inr m34))
                  have HX := Lib.hid (HX.out.grown hg hty)
                  have R7 := Lib.hid hr
                  have HB := Lib.hid (HB.out.grown hg (by have := HB.out.size; rw [HMM.out] at this; exact this) (fun k e => by cases e; exact hgm))
                  refine hK.out _ _ (.inr (by have h := HO.out.next (HMM.out ▸ HB.out); exact ⟨h.c2, h.c3⟩)) ?_
                  clear hK hr hg hn hgm hty E4
                  obtain ⟨p1, q1, rfl, -, -⟩ := R3.out.slice
                  obtain ⟨r1, t1, rfl, -, -⟩ := R7.out.slice
                  have hSS : (fun W' : World => W'.cell? ⟨w.heap.size + 1, 0, none⟩ = some (.slice a2 t.length c2) ∧ W'.cell? ⟨w.heap.size + 1, 1, none⟩ = some (.slice a3 e.length c3)) Y7 := (by have h := HO.out.next (HMM.out ▸ HB.out); exact ⟨h.c2, h.c3⟩)
                  refine wpAnyZ_take (i := 8) (v := ?_) rfl (by kernel_rfl) (by kernel_rfl) (by kernel_rfl) (fun _ _ _ h => h) (by kernel_rfl) (Or.inl ⟨by rfl, ?_⟩) (by assumption) ?_
                  rotate_left
                  · intro w' hSw
                    try dsimp only at hSw
                    try obtain ⟨hSw, hSw2⟩ := hSw
                    go_simp
                    try with_reducible rfl
                  show wpAnyZ _ _ _ _ _ _ _ _ (Act.put _ (some 59) _) _
                  simp only [Act.put, List.setIfInBounds_toArray, List.set_cons_zero, List.set_cons_succ]
                  clear hSS
                  have g0' := frozen_of_row Y7 b1 0 _ _ HX.out; have g1' := frozen_of_row Y7 b1 1 _ _ HX.out
                  have y0 := cell_of_row Y7 b1 0 _ _ _ HX.out; have y1 := cell_of_row Y7 b1 1 _ _ _ HX.out
                  refine wpAnyZ_oneG (i := 10) (by kernel_rfl) rfl (by rfl) (fun K hK => ?_)
                  go_simp
                  refine hK.out _ _ (.inl (by omega)) ?_
                  clear hK y0 y1 g0' g1'
                  refine wpAnyZ_done (by kernel_rfl) ?_ _
                  go_wp2_with fail
                  go_meet
                  exact ⟨b1, p1, q1, r1, t1, rfl, HMM.out ▸ (HB.out.setCell hMb _).setCell hMb _, KeptR.put (v' := .slice none 0 0) (u' := .slice none 0 0) (s' := []) (d' := []) HX.out (R3.out.mono (Nat.zero_le _)) (R7.out.mono (Nat.zero_le _)) (in_of HT.out) (in_of HE.out)⟩
              · skip
                go_simp
                obtain ⟨b1, hb1⟩ : ∃ b, Y2.heap.size = b := ⟨_, rfl⟩
                have hba : Below Y2.heap.size Y2 (Y2.alloc (.cells #[.slice none 0 0, .slice none 0 0] 24)) := (Below.refl _ _).alloc (Nat.le_refl _) _
                have hMb : M ≤ b1 := by have := HB.out.size; rw [HMM.out] at this; omega
                have HX := Lib.hid (Boxed.new hb1)
                have R3 := Lib.hid (R3.out.below hba)
                have HB := Lib.hid (HB.out.alloc (by have := HB.out.size; rw [HMM.out] at this; exact this) (.cells #[.slice none 0 0, .slice none 0 0] 24))
                rw [hb1]
                refine hK.out _ _ (.inr (by have h := HO.out.next (HMM.out ▸ HB.out); exact ⟨h.c2, h.c3⟩)) ?_
                clear hK hba hb1
                generalize Y2.alloc (.cells #[.slice none 0 0, .slice none 0 0] 24) = Y8 at *
                refine wpAnyZ_oneG (i := 4) (by kernel_rfl) rfl (by rfl) (fun K hK => ?_)
                go_simp
                obtain ⟨g4, hg4⟩ : ∃ b, Y8.heap.size = b := ⟨_, rfl⟩
                have hba : Below Y8.heap.size Y8 (Y8.alloc (.cells #[] 2)) := (Below.refl _ _).alloc (Nat.le_refl _) _
                have E4 := Lib.hid (Empty.new (M := M) (by have := HB.out.size; rw [HMM.out] at this; exact this) hg4)
                have m34 := R3.out.ne_new (Nat.le_of_eq hg4)
                have R3 := Lib.hid (R3.out.below hba)
                have HX := Lib.hid (HX.out.next hba)
                have HB := Lib.hid (HB.out.alloc (by have := HB.out.size; rw [HMM.out] at this; exact this) (.cells #[] 2))
                rw [hg4]
                refine hK.out _ _ (.inr (by have h := HO.out.next (HMM.out ▸ HB.out); exact ⟨h.c2, h.c3⟩)) ?_
                clear hK hba hg4
                generalize Y8.alloc (.cells #[] 2) = Y9 at *
                refine wpAnyZ_oneG (i := 7) (by kernel_rfl) rfl (by rfl) (fun K hK => ?_)
                refine wp_copy (.tmp 55) (.tmp 57) rfl M g4 e (.slice a3 e.length c3) rfl E4.out rfl ((HE.out.below (HO.out.next (HMM.out ▸ HB.out)).b).src) HEL.out (by have := HB.out.size; rw [HMM.out] at this; exact this) ?_
                intro v7 Y10 hr hg hn
                have hgm := E4.out.ge; have hty := E4.out.ty
                have R3 := Lib.hid (R3.out.kept hg (.inr m34))
                have HX := Lib.hid (HX.out.grown hg hty)
                have R7 := Lib.hid hr
                have HB := Lib.hid (HB.out.grown hg (by have := HB.out.size; rw [HMM.out] at this; exact this) (fun k e => by cases e; exact hgm))
                refine hK.out _ _ (.inr (by have h := HO.out.next (HMM.out ▸ HB.out); exact ⟨h.c2, h.c3⟩)) ?_
                clear hK hr hg hn hgm hty E4
                obtain ⟨p1, q1, rfl, -, -⟩ := R3.out.slice
                obtain ⟨r1, t1, rfl, -, -⟩ := R7.out.slice
                have hSS : (fun W' : World => W'.cell? ⟨w.heap.size + 1, 0, none⟩ = some (.slice a2 t.length c2) ∧ W'.cell? ⟨w.heap.size + 1, 1, none⟩ = some (.slice a3 e.length c3)) Y10 := (by have h := HO.out.next (HMM.out ▸ HB.out); exact ⟨h.c2, h.c3⟩)
                refine wpAnyZ_take (i := 8) (v := ?_) rfl (by kernel_rfl) (by kernel_rfl) (by kernel_rfl) (fun _ _ _ h => h) (by kernel_rfl) (Or.inl ⟨by rfl, ?_⟩) (by assumption) ?_
                rotate_left
                · intro w' hSw
                  try dsimp only at hSw
                  try obtain ⟨hSw, hSw2⟩ := hSw
                  go_simp
                  try with_reducible rfl
                show wpAnyZ _ _ _ _ _ _ _ _ (Act.put _ (some 59) _) _
                simp only [Act.put, List.setIfInBounds_toArray, List.set_cons_zero, List.set_cons_succ]
                clear hSS
                have g0' := frozen_of_row Y10 b1 0 _ _ HX.out; have g1' := frozen_of_row Y10 b1 1 _ _ HX.out
                have y0 := cell_of_row Y10 b1 0 _ _ _ HX.out; have y1 := cell_of_row Y10 b1 1 _ _ _ HX.out
                refine wpAnyZ_oneG (i := 10) (by kernel_rfl) rfl (by rfl) (fun K hK => ?_)
                go_simp
                refine hK.out _ _ (.inl (by omega)) ?_
                clear hK y0 y1 g0' g1'
                refine wpAnyZ_done (by kernel_rfl) ?_ _
                go_wp2_with fail
                go_meet
                exact ⟨b1, p1, q1, r1, t1, rfl, HMM.out ▸ (HB.out.setCell hMb _).setCell hMb _, KeptR.put (v' := .slice none 0 0) (u' := .slice none 0 0) (s' := []) (d' := []) HX.out (R3.out.mono (Nat.zero_le _)) (R7.out.mono (Nat.zero_le _)) (in_of HT.out) (in_of HE.out)⟩
            · skip
              go_simp
              obtain ⟨g4, hg4⟩ : ∃ b, Y1.heap.size = b := ⟨_, rfl⟩
              have hba : Below Y1.heap.size Y1 (Y1.alloc (.cells #[] 2)) := (Below.refl _ _).alloc (Nat.le_refl _) _
              have E4 := Lib.hid (Empty.new (M := M) (by have := HB.out.size; rw [HMM.out] at this; exact this) hg4)
              have n4 : g0 ≠ g4 := by have := E0.out.lt; omega
              have E0 := Lib.hid (E0.out.below hba)
              have HB := Lib.hid (HB.out.alloc (by have := HB.out.size; rw [HMM.out] at this; exact this) (.cells #[] 2))
              rw [hg4]
              refine hK.out _ _ (.inr (by have h := HO.out.next (HMM.out ▸ HB.out); exact ⟨h.c2, h.c3⟩)) ?_
              clear hK hba hg4
              generalize Y1.alloc (.cells #[] 2) = Y11 at *
              refine wpAnyZ_twoG (i := 3) (j := 9) (by kernel_rfl) rfl rfl (by rfl) (by rfl) (fun K hK => ?_) (fun K hK => ?_)
              · skip
                refine wp_copy (.tmp 51) (.tmp 53) rfl M g0 t (.slice a2 t.length c2) rfl E0.out rfl ((HT.out.below (HO.out.next (HMM.out ▸ HB.out)).b).src) HTL.out (by have := HB.out.size; rw [HMM.out] at this; exact this) ?_
                intro v3 Y12 hr hg hn
                have hgm := E0.out.ge; have hty := E0.out.ty
                have m34 := newer_ne hn (by omega) E4.out.lt
                have E4 := Lib.hid (E4.out.grown hg (by omega))
                have R3 := Lib.hid hr
                have HB := Lib.hid (HB.out.grown hg (by have := HB.out.size; rw [HMM.out] at this; exact this) (fun k e => by cases e; exact hgm))
                refine hK.out _ _ (.inr (by have h := HO.out.next (HMM.out ▸ HB.out); exact ⟨h.c2, h.c3⟩)) ?_
                clear hK hr hg hn hgm hty E0
                refine wpAnyZ_twoG (i := 7) (j := 9) (by kernel_rfl) rfl rfl (by rfl) (by rfl) (fun K hK => ?_) (fun K hK => ?_)
                · skip
                  refine wp_copy (.tmp 55) (.tmp 57) rfl M g4 e (.slice a3 e.length c3) rfl E4.out rfl ((HE.out.below (HO.out.next (HMM.out ▸ HB.out)).b).src) HEL.out (by have := HB.out.size; rw [HMM.out] at this; exact this) ?_
                  intro v7 Y13 hr hg hn
                  have hgm := E4.out.ge; have hty := E4.out.ty
                  have R3 := Lib.hid (R3.out.kept hg (.inr m34))
                  have R7 := Lib.hid hr
                  have HB := Lib.hid (HB.out.grown hg (by have := HB.out.size; rw [HMM.out] at this; exact this) (fun k e => by cases e; exact hgm))
                  refine hK.out _ _ (.inr (by have h := HO.out.next (HMM.out ▸ HB.out); exact ⟨h.c2, h.c3⟩)) ?_
                  clear hK hr hg hn hgm hty E4
                  obtain ⟨p1, q1, rfl, -, -⟩ := R3.out.slice
                  obtain ⟨r1, t1, rfl, -, -⟩ := R7.out.slice
                  have hSS : (fun W' : World => W'.cell? ⟨w.heap.size + 1, 0, none⟩ = some (.slice a2 t.length c2) ∧ W'.cell? ⟨w.heap.size + 1, 1, none⟩ = some (.slice a3 e.length c3)) Y13 := (by have h := HO.out.next (HMM.out ▸ HB.out); exact ⟨h.c2, h.c3⟩)
                  refine wpAnyZ_take (i := 8) (v := ?_) rfl (by kernel_rfl) (by kernel_rfl) (by kernel_rfl) (fun _ _ _ h => h) (by kernel_rfl) (Or.inl ⟨by rfl, ?_⟩) (by assumption) ?_
                  rotate_left
                  · intro w' hSw
                    try dsimp only at hSw
                    try obtain ⟨hSw, hSw2⟩ := hSw
                    go_simp
                    try with_reducible rfl
                  show wpAnyZ _ _ _ _ _ _ _ _ (Act.put _ (some 59) _) _
                  simp only [Act.put, List.setIfInBounds_toArray, List.set_cons_zero, List.set_cons_succ]
                  clear hSS
                  refine wpAnyZ_oneG (i := 9) (by kernel_rfl) rfl (by rfl) (fun K hK => ?_)
                  go_simp
                  obtain ⟨b1, hb1⟩ : ∃ b, Y13.heap.size = b := ⟨_, rfl⟩
                  have hba : Below Y13.heap.size Y13 (Y13.alloc (.cells #[.slice none 0 0, .slice none 0 0] 24)) := (Below.refl _ _).alloc (Nat.le_refl _) _
                  have hMb : M ≤ b1 := by have := HB.out.size; rw [HMM.out] at this; omega
                  have HX := Lib.hid (Boxed.new hb1)
                  have R3 := Lib.hid (R3.out.below hba)
                  have R7 := Lib.hid (R7.out.below hba)
                  have HB := Lib.hid (HB.out.alloc (by have := HB.out.size; rw [HMM.out] at this; exact this) (.cells #[.slice none 0 0, .slice none 0 0] 24))
                  rw [hb1]
                  refine hK.out _ _ (.inr (by have h := HO.out.next (HMM.out ▸ HB.out); exact ⟨h.c2, h.c3⟩)) ?_
                  clear hK hba hb1
                  generalize Y13.alloc (.cells #[.slice none 0 0, .slice none 0 0] 24) = Y14 at *
                  have g0' := frozen_of_row Y14 b1 0 _ _ HX.out; have g1' := frozen_of_row Y14 b1 1 _ _ HX.out
                  have y0 := cell_of_row Y14 b1 0 _ _ _ HX.out; have y1 := cell_of_row Y14 b1 1 _ _ _ HX.out
                  refine wpAnyZ_oneG (i := 10) (by kernel_rfl) rfl (by rfl) (fun K hK => ?_)
                  go_simp
                  refine hK.out _ _ (.inl (by omega)) ?_
                  clear hK y0 y1 g0' g1'
                  refine wpAnyZ_done (by kernel_rfl) ?_ _
                  go_wp2_with fail
                  go_meet
                  exact ⟨b1, p1, q1, r1, t1, rfl, HMM.out ▸ (HB.out.setCell hMb _).setCell hMb _, KeptR.put (v' := .slice none 0 0) (u' := .slice none 0 0) (s' := []) (d' := []) HX.out (R3.out.mono (Nat.zero_le _)) (R7.out.mono (Nat.zero_le _)) (in_of HT.out) (in_of HE.out)⟩
                · skip
                  go_simp
                  obtain ⟨b1, hb1⟩ : ∃ b, Y12.heap.size = b := ⟨_, rfl⟩
                  have hba : Below Y12.heap.size Y12 (Y12.alloc (.cells #[.slice none 0 0, .slice none 0 0] 24)) := (Below.refl _ _).alloc (Nat.le_refl _) _
                  have hMb : M ≤ b1 := by have := HB.out.size; rw [HMM.out] at this; omega
                  have HX := Lib.hid (Boxed.new hb1)
                  have R3 := Lib.hid (R3.out.below hba)
                  have E4 := Lib.hid (E4.out.below hba)
                  have HB := Lib.hid (HB.out.alloc (by have := HB.out.size; rw [HMM.out] at this; exact this) (.cells #[.slice none 0 0, .slice none 0 0] 24))
                  rw [hb1]
                  refine hK.out _ _ (.inr (by have h := HO.out.next (HMM.out ▸ HB.out); exact ⟨h.c2, h.c3⟩)) ?_
                  clear hK hba hb1
                  generalize Y12.alloc (.cells #[.slice none 0 0, .slice none 0 0] 24) = Y15 at *
                  refine wpAnyZ_oneG (i := 7) (by kernel_rfl) rfl (by rfl) (fun K hK => ?_)
                  refine wp_copy (.tmp 55) (.tmp 57) rfl M g4 e (.slice a3 e.length c3) rfl E4.out rfl ((HE.out.below (HO.out.next (HMM.out ▸ HB.out)).b).src) HEL.out (by have := HB.out.size; rw [HMM.out] at this; exact this) ?_
                  intro v7 Y16 hr hg hn
                  have hgm := E4.out.ge; have hty := E4.out.ty
                  have R3 := Lib.hid (R3.out.kept hg (.inr m34))
                  have HX := Lib.hid (HX.out.grown hg hty)
                  have R7 := Lib.hid hr
                  have HB := Lib.hid (HB.out.grown hg (by have := HB.out.size; rw [HMM.out] at this; exact this) (fun k e => by cases e; exact hgm))
                  refine hK.out _ _ (.inr (by have h := HO.out.next (HMM.out ▸ HB.out); exact ⟨h.c2, h.c3⟩)) ?_
                  clear hK hr hg hn hgm hty E4
                  obtain ⟨p1, q1, rfl, -, -⟩ := R3.out.slice
                  obtain ⟨r1, t1, rfl, -, -⟩ := R7.out.slice
                  have hSS : (fun W' : World => W'.cell? ⟨w.heap.size + 1, 0, none⟩ = some (.slice a2 t.length c2) ∧ W'.cell? ⟨w.heap.size + 1, 1, none⟩ = some (.slice a3 e.length c3)) Y16 := (by have h := HO.out.next (HMM.out ▸ HB.out); exact ⟨h.c2, h.c3⟩)
                  refine wpAnyZ_take (i := 8) (v := ?_) rfl (by kernel_rfl) (by kernel_rfl) (by kernel_rfl) (fun _ _ _ h => h) (by kernel_rfl) (Or.inl ⟨by rfl, ?_⟩) (by assumption) ?_
                  rotate_left
                  · intro w' hSw
                    try dsimp only at hSw
                    try obtain ⟨hSw, hSw2⟩ := hSw
                    go_simp
                    try with_reducible rfl
                  show wpAnyZ _ _ _ _ _ _ _ _ (Act.put _ (some 59) _) _
                  simp only [Act.put, List.setIfInBounds_toArray, List.set_cons_zero, List.set_cons_succ]
                  clear hSS
                  have g0' := frozen_of_row Y16 b1 0 _ _ HX.out; have g1' := frozen_of_row Y16 b1 1 _ _ HX.out
                  have y0 := cell_of_row Y16 b1 0 _ _ _ HX.out; have y1 := cell_of_row Y16 b1 1 _ _ _ HX.out
                  refine wpAnyZ_oneG (i := 10) (by kernel_rfl) rfl (by rfl) (fun K hK => ?_)
                  go_simp
                  refine hK.out _ _ (.inl (by omega)) ?_
                  clear hK y0 y1 g0' g1'
                  refine wpAnyZ_done (by kernel_rfl) ?_ _
                  go_wp2_with fail
                  go_meet
                  exact ⟨b1, p1, q1, r1, t1, rfl, HMM.out ▸ (HB.out.setCell hMb _).setCell hMb _, KeptR.put (v' := .slice none 0 0) (u' := .slice none 0 0) (s' := []) (d' := []) HX.out (R3.out.mono (Nat.zero_le _)) (R7.out.mono (Nat.zero_le _)) (in_of HT.out) (in_of HE.out)⟩
              · skip
                go_simp
                obtain ⟨b1, hb1⟩ : ∃ b, Y11.heap.size = b := ⟨_, rfl⟩
                have hba : Below Y11.heap.size Y11 (Y11.alloc (.cells #[.slice none 0 0, .slice none 0 0] 24)) := (Below.refl _ _).alloc (Nat.le_refl _) _
                have hMb : M ≤ b1 := by have := HB.out.size; rw [HMM.out] at this; omega
                have HX := Lib.hid (Boxed.new hb1)
                have E0 := Lib.hid (E0.out.below hba)
                have E4 := Lib.hid (E4.out.below hba)
                have HB := Lib.hid (HB.out.alloc (by have := HB.out.size; rw [HMM.out] at this; exact this) (.cells #[.slice none 0 0, .slice none 0 0] 24))
                rw [hb1]
                refine hK.out _ _ (.inr (by have h := HO.out.next (HMM.out ▸ HB.out); exact ⟨h.c2, h.c3⟩)) ?_
                clear hK hba hb1
                generalize Y11.alloc (.cells #[.slice none 0 0, .slice none 0 0] 24) = Y17 at *
                refine wpAnyZ_oneG (i := 3) (by kernel_rfl) rfl (by rfl) (fun K hK => ?_)
                refine wp_copy (.tmp 51) (.tmp 53) rfl M g0 t (.slice a2 t.length c2) rfl E0.out rfl ((HT.out.below (HO.out.next (HMM.out ▸ HB.out)).b).src) HTL.out (by have := HB.out.size; rw [HMM.out] at this; exact this) ?_
                intro v3 Y18 hr hg hn
                have hgm := E0.out.ge; have hty := E0.out.ty
                have m34 := newer_ne hn (by omega) E4.out.lt
                have E4 := Lib.hid (E4.out.grown hg (by omega))
                have HX := Lib.hid (HX.out.grown hg hty)
                have R3 := Lib.hid hr
                have HB := Lib.hid (HB.out.grown hg (by have := HB.out.size; rw [HMM.out] at this; exact this) (fun k e => by cases e; exact hgm))
                refine hK.out _ _ (.inr (by have h := HO.out.next (HMM.out ▸ HB.out); exact ⟨h.c2, h.c3⟩)) ?_
                clear hK hr hg hn hgm hty E0
                refine wpAnyZ_oneG (i := 7) (by kernel_rfl) rfl (by rfl) (fun K hK => ?_)
                refine wp_copy (.tmp 55) (.tmp 57) rfl M g4 e (.slice a3 e.length c3) rfl E4.out rfl ((HE.out.below (HO.out.next (HMM.out ▸ HB.out)).b).src) HEL.out (by have := HB.out.size; rw [HMM.out] at this; exact this) ?_
                intro v7 Y19 hr hg hn
                have hgm := E4.out.ge; have hty := E4.out.ty
                have R3 := Lib.hid (R3.out.kept hg (.inr m34))
                have HX := Lib.hid (HX.out.grown hg hty)
                have R7 := Lib.hid hr
                have HB := Lib.hid (HB.out.grown hg (by have := HB.out.size; rw [HMM.out] at this; exact this) (fun k e => by cases e; exact hgm))
                refine hK.out _ _ (.inr (by have h := HO.out.next (HMM.out ▸ HB.out); exact ⟨h.c2, h.c3⟩)) ?_
                clear hK hr hg hn hgm hty E4
                obtain ⟨p1, q1, rfl, -, -⟩ := R3.out.slice
                obtain ⟨r1, t1, rfl, -, -⟩ := R7.out.slice
                have hSS : (fun W' : World => W'.cell? ⟨w.heap.size + 1, 0, none⟩ = some (.slice a2 t.length c2) ∧ W'.cell? ⟨w.heap.size + 1, 1, none⟩ = some (.slice a3 e.length c3)) Y19 := (by have h := HO.out.next (HMM.out ▸ HB.out); exact ⟨h.c2, h.c3⟩)
                refine wpAnyZ_take (i := 8) (v := ?_) rfl (by kernel_rfl) (by kernel_rfl) (by kernel_rfl) (fun _ _ _ h => h) (by kernel_rfl) (Or.inl ⟨by rfl, ?_⟩) (by assumption) ?_
                rotate_left
                · intro w' hSw
                  try dsimp only at hSw
                  try obtain ⟨hSw, hSw2⟩ := hSw
                  go_simp
                  try with_reducible rfl
                show wpAnyZ _ _ _ _ _ _ _ _ (Act.put _ (some 59) _) _
                simp only [Act.put, List.setIfInBounds_toArray, List.set_cons_zero, List.set_cons_succ]
                clear hSS
                have g0' := frozen_of_row Y19 b1 0 _ _ HX.out; have g1' := frozen_of_row Y19 b1 1 _ _ HX.out
                have y0 := cell_of_row Y19 b1 0 _ _ _ HX.out; have y1 := cell_of_row Y19 b1 1 _ _ _ HX.out
                refine wpAnyZ_oneG (i := 10) (by kernel_rfl) rfl (by rfl) (fun K hK => ?_)
                go_simp
                refine hK.out _ _ (.inl (by omega)) ?_
                clear hK y0 y1 g0' g1'
                refine wpAnyZ_done (by kernel_rfl) ?_ _
                go_wp2_with fail
                go_meet
                exact ⟨b1, p1, q1, r1, t1, rfl, HMM.out ▸ (HB.out.setCell hMb _).setCell hMb _, KeptR.put (v' := .slice none 0 0) (u' := .slice none 0 0) (s' := []) (d' := []) HX.out (R3.out.mono (Nat.zero_le _)) (R7.out.mono (Nat.zero_le _)) (in_of HT.out) (in_of HE.out)⟩
            · skip
              go_simp
              obtain ⟨b1, hb1⟩ : ∃ b, Y1.heap.size = b := ⟨_, rfl⟩
              have hba : Below Y1.heap.size Y1 (Y1.alloc (.cells #[.slice none 0 0, .slice none 0 0] 24)) := (Below.refl _ _).alloc (Nat.le_refl _) _
              have hMb : M ≤ b1 := by have := HB.out.size; rw [HMM.out] at this; omega
              have HX := Lib.hid (Boxed.new hb1)
              have E0 := Lib.hid (E0.out.below hba)
              have HB := Lib.hid (HB.out.alloc (by have := HB.out.size; rw [HMM.out] at this; exact this) (.cells #[.slice none 0 0, .slice none 0 0] 24))
              rw [hb1]
              refine hK.out _ _ (.inr (by have h := HO.out.next (HMM.out ▸ HB.out); exact ⟨h.c2, h.c3⟩)) ?_
              clear hK hba hb1
              generalize Y1.alloc (.cells #[.slice none 0 0, .slice none 0 0] 24) = Y20 at *
              refine wpAnyZ_twoG (i := 3) (j := 4) (by kernel_rfl) rfl rfl (by rfl) (by rfl) (fun K hK => ?_) (fun K hK => ?_)
              · skip
                refine wp_copy (.tmp 51) (.tmp 53) rfl M g0 t (.slice a2 t.length c2) rfl E0.out rfl ((HT.out.below (HO.out.next (HMM.out ▸ HB.out)).b).src) HTL.out (by have := HB.out.size; rw [HMM.out] at this; exact this) ?_
                intro v3 Y21 hr hg hn
                have hgm := E0.out.ge; have hty := E0.out.ty
                have HX := Lib.hid (HX.out.grown hg hty)
                have R3 := Lib.hid hr
                have HB := Lib.hid (HB.out.grown hg (by have := HB.out.size; rw [HMM.out] at this; exact this) (fun k e => by cases e; exact hgm))
                refine hK.out _ _ (.inr (by have h := HO.out.next (HMM.out ▸ HB.out); exact ⟨h.c2, h.c3⟩)) ?_
                clear hK hr hg hn hgm hty E0
                refine wpAnyZ_oneG (i := 4) (by kernel_rfl) rfl (by rfl) (fun K hK => ?_)
                go_simp
                obtain ⟨g4, hg4⟩ : ∃ b, Y21.heap.size = b := ⟨_, rfl⟩
                have hba : Below Y21.heap.size Y21 (Y21.alloc (.cells #[] 2)) := (Below.refl _ _).alloc (Nat.le_refl _) _
                have E4 := Lib.hid (Empty.new (M := M) (by have := HB.out.size; rw [HMM.out] at this; exact this) hg4)
                have m34 := R3.out.ne_new (Nat.le_of_eq hg4)
                have R3 := Lib.hid (R3.out.below hba)
                have HX := Lib.hid (HX.out.next hba)
                have HB := Lib.hid (HB.out.alloc (by have := HB.out.size; rw [HMM.out] at this; exact this) (.cells #[] 2))
                rw [hg4]
                refine hK.out _ _ (.inr (by have h := HO.out.next (HMM.out ▸ HB.out); exact ⟨h.c2, h.c3⟩)) ?_
                clear hK hba hg4
                generalize Y21.alloc (.cells #[] 2) = Y22 at *
                refine wpAnyZ_oneG (i := 7) (by kernel_rfl) rfl (by rfl) (fun K hK => ?_)
                refine wp_copy (.tmp 55) (.tmp 57) rfl M g4 e (.slice a3 e.length c3) rfl E4.out rfl ((HE.out.below (HO.out.next (HMM.out ▸ HB.out)).b).src) HEL.out (by have := HB.out.size; rw [HMM.out] at this; exact this) ?_
                intro v7 Y23 hr hg hn
                have hgm := E4.out.ge; have hty := E4.out.ty
                have R3 := Lib.hid (R3.out.kept hg (.inr m34))
                have HX := Lib.hid (HX.out.grown hg hty)
                have R7 := Lib.hid hr
                have HB := Lib.hid (HB.out.grown hg (by have := HB.out.size; rw [HMM.out] at this; exact this) (fun k e => by cases e; exact hgm))
                refine hK.out _ _ (.inr (by have h := HO.out.next (HMM.out ▸ HB.out); exact ⟨h.c2, h.c3⟩)) ?_
                clear hK hr hg hn hgm hty E4
                obtain ⟨p1, q1, rfl, -, -⟩ := R3.out.slice
                obtain ⟨r1, t1, rfl, -, -⟩ := R7.out.slice
                have hSS : (fun W' : World => W'.cell? ⟨w.heap.size + 1, 0, none⟩ = some (.slice a2 t.length c2) ∧ W'.cell? ⟨w.heap.size + 1, 1, none⟩ = some (.slice a3 e.length c3)) Y23 := (by have h := HO.out.next (HMM.out ▸ HB.out); exact ⟨h.c2, h.c3⟩)
                refine wpAnyZ_take (i := 8) (v := ?_) rfl (by kernel_rfl) (by kernel_rfl) (by kernel_rfl) (fun _ _ _ h => h) (by kernel_rfl) (Or.inl ⟨by rfl, ?_⟩) (by assumption) ?_
                rotate_left
                · intro w' hSw
                  try dsimp only at hSw
                  try obtain ⟨hSw, hSw2⟩ := hSw
                  go_simp
                  try with_reducible rfl
                show wpAnyZ _ _ _ _ _ _ _ _ (Act.put _ (some 59) _) _
                simp only [Act.put, List.setIfInBounds_toArray, List.set_cons_zero, List.set_cons_succ]
                clear hSS
                have g0' := frozen_of_row Y23 b1 0 _ _ HX.out; have g1' := frozen_of_row Y23 b1 1 _ _ HX.out
                have y0 := cell_of_row Y23 b1 0 _ _ _ HX.out; have y1 := cell_of_row Y23 b1 1 _ _ _ HX.out
                refine wpAnyZ_oneG (i := 10) (by kernel_rfl) rfl (by rfl) (fun K hK => ?_)
                go_simp
                refine hK.out _ _ (.inl (by omega)) ?_
                clear hK y0 y1 g0' g1'
                refine wpAnyZ_done (by kernel_rfl) ?_ _
                go_wp2_with fail
                go_meet
                exact ⟨b1, p1, q1, r1, t1, rfl, HMM.out ▸ (HB.out.setCell hMb _).setCell hMb _, KeptR.put (v' := .slice none 0 0) (u' := .slice none 0 0) (s' := []) (d' := []) HX.out (R3.out.mono (Nat.zero_le _)) (R7.out.mono (Nat.zero_le _)) (in_of HT.out) (in_of HE.out)⟩
              · skip
                go_simp
                obtain ⟨g4, hg4⟩ : ∃ b, Y20.heap.size = b := ⟨_, rfl⟩
                have hba : Below Y20.heap.size Y20 (Y20.alloc (.cells #[] 2)) := (Below.refl _ _).alloc (Nat.le_refl _) _
                have E4 := Lib.hid (Empty.new (M := M) (by have := HB.out.size; rw [HMM.out] at this; exact this) hg4)
                have n4 : g0 ≠ g4 := by have := E0.out.lt; omega
                have E0 := Lib.hid (E0.out.below hba)
                have HX := Lib.hid (HX.out.next hba)
                have HB := Lib.hid (HB.out.alloc (by have := HB.out.size; rw [HMM.out] at this; exact this) (.cells #[] 2))
                rw [hg4]
                refine hK.out _ _ (.inr (by have h := HO.out.next (HMM.out ▸ HB.out); exact ⟨h.c2, h.c3⟩)) ?_
                clear hK hba hg4
                generalize Y20.alloc (.cells #[] 2) = Y24 at *
                refine wpAnyZ_oneG (i := 3) (by kernel_rfl) rfl (by rfl) (fun K hK => ?_)
                refine wp_copy (.tmp 51) (.tmp 53) rfl M g0 t (.slice a2 t.length c2) rfl E0.out rfl ((HT.out.below (HO.out.next (HMM.out ▸ HB.out)).b).src) HTL.out (by have := HB.out.size; rw [HMM.out] at this; exact this) ?_
                intro v3 Y25 hr hg hn
                have hgm := E0.out.ge; have hty := E0.out.ty
                have m34 := newer_ne hn (by omega) E4.out.lt
                have E4 := Lib.hid (E4.out.grown hg (by omega))
                have HX := Lib.hid (HX.out.grown hg hty)
                have R3 := Lib.hid hr
                have HB := Lib.hid (HB.out.grown hg (by have := HB.out.size; rw [HMM.out] at this; exact this) (fun k e => by cases e; exact hgm))
                refine hK.out _ _ (.inr (by have h := HO.out.next (HMM.out ▸ HB.out); exact ⟨h.c2, h.c3⟩)) ?_
                clear hK hr hg hn hgm hty E0
                refine wpAnyZ_oneG (i := 7) (by kernel_rfl) rfl (by rfl) (fun K hK => ?_)
                refine wp_copy (.tmp 55) (.tmp 57) rfl M g4 e (.slice a3 e.length c3) rfl E4.out rfl ((HE.out.below (HO.out.next (HMM.out ▸ HB.out)).b).src) HEL.out (by have := HB.out.size; rw [HMM.out] at this; exact this) ?_
                intro v7 Y26 hr hg hn
                have hgm := E4.out.ge; have hty := E4.out.ty
                have R3 := Lib.hid (R3.out.kept hg (.inr m34))
                have HX := Lib.hid (HX.out.grown hg hty)
                have R7 := Lib.hid hr
                have HB := Lib.hid (HB.out.grown hg (by have := HB.out.size; rw [HMM.out] at this; exact this) (fun k e => by cases e; exact hgm))
                refine hK.out _ _ (.inr (by have h := HO.out.next (HMM.out ▸ HB.out); exact ⟨h.c2, h.c3⟩)) ?_
                clear hK hr hg hn hgm hty E4
                obtain ⟨p1, q1, rfl, -, -⟩ := R3.out.slice
                obtain ⟨r1, t1, rfl, -, -⟩ := R7.out.slice
                have hSS : (fun W' : World => W'.cell? ⟨w.heap.size + 1, 0, none⟩ = some (.slice a2 t.length c2) ∧ W'.cell? ⟨w.heap.size + 1, 1, none⟩ = some (.slice a3 e.length c3)) Y26 := (by have h := HO.out.next (HMM.out ▸ HB.out); exact ⟨h.c2, h.c3⟩)
                refine wpAnyZ_take (i := 8) (v := ?_) rfl (by kernel_rfl) (by kernel_rfl) (by kernel_rfl) (fun _ _ _ h => h) (by kernel_rfl) (Or.inl ⟨by rfl, ?_⟩) (by assumption) ?_
                rotate_left
                · intro w' hSw
                  try dsimp only at hSw
                  try obtain ⟨hSw, hSw2⟩ := hSw
                  go_simp
                  try with_reducible rfl
                show wpAnyZ _ _ _ _ _ _ _ _ (Act.put _ (some 59) _) _
                simp only [Act.put, List.setIfInBounds_toArray, List.set_cons_zero, List.set_cons_succ]
                clear hSS
                have g0' := frozen_of_row Y26 b1 0 _ _ HX.out; have g1' := frozen_of_row Y26 b1 1 _ _ HX.out
                have y0 := cell_of_row Y26 b1 0 _ _ _ HX.out; have y1 := cell_of_row Y26 b1 1 _ _ _ HX.out
                refine wpAnyZ_oneG (i := 10) (by kernel_rfl) rfl (by rfl) (fun K hK => ?_)
                go_simp
                refine hK.out _ _ (.inl (by omega)) ?_
                clear hK y0 y1 g0' g1'
                refine wpAnyZ_done (by kernel_rfl) ?_ _
                go_wp2_with fail
                go_meet
                exact ⟨b1, p1, q1, r1, t1, rfl, HMM.out ▸ (HB.out.setCell hMb _).setCell hMb _, KeptR.put (v' := .slice none 0 0) (u' := .slice none 0 0) (s' := []) (d' := []) HX.out (R3.out.mono (Nat.zero_le _)) (R7.out.mono (Nat.zero_le _)) (in_of HT.out) (in_of HE.out)⟩
          · skip
            go_simp
            obtain ⟨g4, hg4⟩ : ∃ b, Y.heap.size = b := ⟨_, rfl⟩
            have hba : Below Y.heap.size Y (Y.alloc (.cells #[] 2)) := (Below.refl _ _).alloc (Nat.le_refl _) _
            have E4 := Lib.hid (Empty.new (M := M) (by have := HB.out.size; rw [HMM.out] at this; exact this) hg4)
            have HB := Lib.hid (HB.out.alloc (by have := HB.out.size; rw [HMM.out] at this; exact this) (.cells #[] 2))
            rw [hg4]
            refine hK.out _ _ (.inr (by have h := HO.out.next (HMM.out ▸ HB.out); exact ⟨h.c2, h.c3⟩)) ?_
            clear hK hba hg4
            generalize Y.alloc (.cells #[] 2) = Y27 at *
            refine wpAnyZ_twoG (i := 0) (j := 9) (by kernel_rfl) rfl rfl (by rfl) (by rfl) (fun K hK => ?_) (fun K hK => ?_)
            · skip
              go_simp
              obtain ⟨g0, hg0⟩ : ∃ b, Y27.heap.size = b := ⟨_, rfl⟩
              have hba : Below Y27.heap.size Y27 (Y27.alloc (.cells #[] 2)) := (Below.refl _ _).alloc (Nat.le_refl _) _
              have E0 := Lib.hid (Empty.new (M := M) (by have := HB.out.size; rw [HMM.out] at this; exact this) hg0)
              have n0 : g4 ≠ g0 := by have := E4.out.lt; omega
              have E4 := Lib.hid (E4.out.below hba)
              have HB := Lib.hid (HB.out.alloc (by have := HB.out.size; rw [HMM.out] at this; exact this) (.cells #[] 2))
              rw [hg0]
              refine hK.out _ _ (.inr (by have h := HO.out.next (HMM.out ▸ HB.out); exact ⟨h.c2, h.c3⟩)) ?_
              clear hK hba hg0
              generalize Y27.alloc (.cells #[] 2) = Y28 at *
              refine wpAnyZ_twoG (i := 3) (j := 9) (by kernel_rfl) rfl rfl (by rfl) (by rfl) (fun K hK => ?_) (fun K hK => ?_)
              · skip
                refine wp_copy (.tmp 51) (.tmp 53) rfl M g0 t (.slice a2 t.length c2) rfl E0.out rfl ((HT.out.below (HO.out.next (HMM.out ▸ HB.out)).b).src) HTL.out (by have := HB.out.size; rw [HMM.out] at this; exact this) ?_
                intro v3 Y29 hr hg hn
                have hgm := E0.out.ge; have hty := E0.out.ty
                have m34 := newer_ne hn (by omega) E4.out.lt
                have E4 := Lib.hid (E4.out.grown hg (by omega))
                have R3 := Lib.hid hr
                have HB := Lib.hid (HB.out.grown hg (by have := HB.out.size; rw [HMM.out] at this; exact this) (fun k e => by cases e; exact hgm))
                refine hK.out _ _ (.inr (by have h := HO.out.next (HMM.out ▸ HB.out); exact ⟨h.c2, h.c3⟩)) ?_
                clear hK hr hg hn hgm hty E0
                refine wpAnyZ_twoG (i := 7) (j := 9) (by kernel_rfl) rfl rfl (by rfl) (by rfl) (fun K hK => ?_) (fun K hK => ?_)
                · skip
                  refine wp_copy (.tmp 55) (.tmp 57) rfl M g4 e (.slice a3 e.length c3) rfl E4.out rfl ((HE.out.below (HO.out.next (HMM.out ▸ HB.out)).b).src) HEL.out (by have := HB.out.size; rw [HMM.out] at this; exact this) ?_
                  intro v7 Y30 hr hg hn
                  have hgm := E4.out.ge; have hty := E4.out.ty
                  have R3 := Lib.hid (R3.out.kept hg (.inr m34))
                  have R7 := Lib.hid hr
                  have HB := Lib.hid (HB.out.grown hg (by have := HB.out.size; rw [HMM.out] at this; exact this) (fun k e => by cases e; exact hgm))
                  refine hK.out _ _ (.inr (by have h := HO.out.next (HMM.out ▸ HB.out); exact ⟨h.c2, h.c3⟩)) ?_
                  clear hK hr hg hn hgm hty E4
                  obtain ⟨p1, q1, rfl, -, -⟩ := R3.out.slice
                  obtain ⟨r1, t1, rfl, -, -⟩ := R7.out.slice
                  have hSS : (fun W' : World => W'.cell? ⟨w.heap.size + 1, 0, none⟩ = some (.slice a2 t.length c2) ∧ W'.cell? ⟨w.heap.size + 1, 1, none⟩ = some (.slice a3 e.length c3)) Y30 := (by have h := HO.out.next (HMM.out ▸ HB.out); exact ⟨h.c2, h.c3⟩)
                  refine wpAnyZ_take (i := 8) (v := ?_) rfl (by kernel_rfl) (by kernel_rfl) (by kernel_rfl) (fun _ _ _ h => h) (by kernel_rfl) (Or.inl ⟨by rfl, ?_⟩) (by assumption) ?_
                  rotate_left
                  · intro w' hSw
                    try dsimp only at hSw
                    try obtain ⟨hSw, hSw2⟩ := hSw
                    go_simp
                    try with_reducible rfl
                  show wpAnyZ _ _ _ _ _ _ _ _ (Act.put _ (some 59) _) _
                  simp only [Act.put, List.setIfInBounds_toArray, List.set_cons_zero, List.set_cons_succ]
                  clear hSS
                  refine wpAnyZ_oneG (i := 9) (by kernel_rfl) rfl (by rfl) (fun K hK => ?_)
                  go_simp
                  obtain ⟨b1, hb1⟩ : ∃ b, Y30.heap.size = b := ⟨_, rfl⟩
                  have hba : Below Y30.heap.size Y30 (Y30.alloc (.cells #[.slice none 0 0, .slice none 0 0] 24)) := (Below.refl _ _).alloc (Nat.le_refl _) _
                  have hMb : M ≤ b1 := by have := HB.out.size; rw [HMM.out] at this; omega
                  have HX := Lib.hid (Boxed.new hb1)
                  have R3 := Lib.hid (R3.out.below hba)
                  have R7 := Lib.hid (R7.out.below hba)
                  have HB := Lib.hid (HB.out.alloc (by have := HB.out.size; rw [HMM.out] at this; exact this) (.cells #[.slice none 0 0, .slice none 0 0] 24))
                  rw [hb1]
                  refine hK.out _ _ (.inr (by have h := HO.out.next (HMM.out ▸ HB.out); exact ⟨h.c2, h.c3⟩)) ?_
                  clear hK hba hb1
                  generalize Y30.alloc (.cells #[.slice none 0 0, .slice none 0 0] 24) = Y31 at *
                  have g0' := frozen_of_row Y31 b1 0 _ _ HX.out; have g1' := frozen_of_row Y31 b1 1 _ _ HX.out
                  have y0 := cell_of_row Y31 b1 0 _ _ _ HX.out; have y1 := cell_of_row Y31 b1 1 _ _ _ HX.out
                  refine wpAnyZ_oneG (i := 10) (by kernel_rfl) rfl (by rfl) (fun K hK => ?_)
                  go_simp
                  refine hK.out _ _ (.inl (by omega)) ?_
                  clear hK y0 y1 g0' g1'
                  refine wpAnyZ_done (by kernel_rfl) ?_ _
                  go_wp2_with fail
                  go_meet
                  exact ⟨b1, p1, q1, r1, t1, rfl, HMM.out ▸ (HB.out.setCell hMb _).setCell hMb _, KeptR.put (v' := .slice none 0 0) (u' := .slice none 0 0) (s' := []) (d' := []) HX.out (R3.out.mono (Nat.zero_le _)) (R7.out.mono (Nat.zero_le _)) (in_of HT.out) (in_of HE.out)⟩
                · skip
                  go_simp
                  obtain ⟨b1, hb1⟩ : ∃ b, Y29.heap.size = b := ⟨_, rfl⟩
                  have hba : Below Y29.heap.size Y29 (Y29.alloc (.cells #[.slice none 0 0, .slice none 0 0] 24)) := (Below.refl _ _).alloc (Nat.le_refl _) _
                  have hMb : M ≤ b1 := by have := HB.out.size; rw [HMM.out] at this; omega
                  have HX := Lib.hid (Boxed.new hb1)
                  have R3 := Lib.hid (R3.out.below hba)
                  have E4 := Lib.hid (E4.out.below hba)
                  have HB := Lib.hid (HB.out.alloc (by have := HB.out.size; rw [HMM.out] at this; exact this) (.cells #[.slice none 0 0, .slice none 0 0] 24))
                  rw [hb1]
                  refine hK.out _ _ (.inr (by have h := HO.out.next (HMM.out ▸ HB.out); exact ⟨h.c2, h.c3⟩)) ?_
                  clear hK hba hb1
                  generalize Y29.alloc (.cells #[.slice none 0 0, .slice none 0 0] 24) = Y32 at *
                  refine wpAnyZ_oneG (i := 7) (by kernel_rfl) rfl (by rfl) (fun K hK => ?_)
                  refine wp_copy (.tmp 55) (.tmp 57) rfl M g4 e (.slice a3 e.length c3) rfl E4.out rfl ((HE.out.below (HO.out.next (HMM.out ▸ HB.out)).b).src) HEL.out (by have := HB.out.size; rw [HMM.out] at this; exact this) ?_
                  intro v7 Y33 hr hg hn
                  have hgm := E4.out.ge; have hty := E4.out.ty
                  have R3 := Lib.hid (R3.out.kept hg (.inr m34))
                  have HX := Lib.hid (HX.out.grown hg hty)
                  have R7 := Lib.hid hr
                  have HB := Lib.hid (HB.out.grown hg (by have := HB.out.size; rw [HMM.out] at this; exact this) (fun k e => by cases e; exact hgm))
                  refine hK.out _ _ (.inr (by have h := HO.out.next (HMM.out ▸ HB.out); exact ⟨h.c2, h.c3⟩)) ?_
                  clear hK hr hg hn hgm hty E4
                  obtain ⟨p1, q1, rfl, -, -⟩ := R3.out.slice
                  obtain ⟨r1, t1, rfl, -, -⟩ := R7.out.slice
                  have hSS : (fun W' : World => W'.cell? ⟨w.heap.size + 1, 0, none⟩ = some (.slice a2 t.length c2) ∧ W'.cell? ⟨w.heap.size + 1, 1, none⟩ = some (.slice a3 e.length c3)) Y33 := (by have h := HO.out.next (HMM.out ▸ HB.out); exact ⟨h.c2, h.c3⟩)
                  refine wpAnyZ_take (i := 8) (v := ?_) rfl (by kernel_rfl) (by kernel_rfl) (by kernel_rfl) (fun _ _ _ h => h) (by kernel_rfl) (Or.inl ⟨by rfl, ?_⟩) (by assumption) ?_
                  rotate_left
                  · intro w' hSw
                    try dsimp only at hSw
                    try obtain ⟨hSw, hSw2⟩ := hSw
                    go_simp
                    try with_reducible rfl
                  show wpAnyZ _ _ _ _ _ _ _ _ (Act.put _ (some 59) _) _
                  simp only [Act.put, List.setIfInBounds_toArray, List.set_cons_zero, List.set_cons_succ]
                  clear hSS
                  have g0' := frozen_of_row Y33 b1 0 _ _ HX.out; have g1' := frozen_of_row Y33 b1 1 _ _ HX.out
                  have y0 := cell_of_row Y33 b1 0 _ _ _ HX.out; have y1 := cell_of_row Y33 b1 1 _ _ _ HX.out
                  refine wpAnyZ_oneG (i := 10) (by kernel_rfl) rfl (by rfl) (fun K hK => ?_)
                  go_simp
                  refine hK.out _ _ (.inl (by omega)) ?_
                  clear hK y0 y1 g0' g1'
                  refine wpAnyZ_done (by kernel_rfl) ?_ _
                  go_wp2_with fail
                  go_meet
                  exact ⟨b1, p1, q1, r1, t1, rfl, HMM.out ▸ (HB.out.setCell hMb _).setCell hMb _, KeptR.put (v' := .slice none 0 0) (u' := .slice none 0 0) (s' := []) (d' := []) HX.out (R3.out.mono (Nat.zero_le _)) (R7.out.mono (Nat.zero_le _)) (in_of HT.out) (in_of HE.out)⟩
              · skip
                go_simp
                obtain ⟨b1, hb1⟩ : ∃ b, Y28.heap.size = b := ⟨_, rfl⟩
                have hba : Below Y28.heap.size Y28 (Y28.alloc (.cells #[.slice none 0 0, .slice none 0 0] 24)) := (Below.refl _ _).alloc (Nat.le_refl _) _
                have hMb : M ≤ b1 := by have := HB.out.size; rw [HMM.out] at this; omega
                have HX := Lib.hid (Boxed.new hb1)
                have E0 := Lib.hid (E0.out.below hba)
                have E4 := Lib.hid (E4.out.below hba)
                have HB := Lib.hid (HB.out.alloc (by have := HB.out.size; rw [HMM.out] at this; exact this) (.cells #[.slice none 0 0, .slice none 0 0] 24))
                rw [hb1]
                refine hK.out _ _ (.inr (by have h := HO.out.next (HMM.out ▸ HB.out); exact ⟨h.c2, h.c3⟩)) ?_
                clear hK hba hb1
                generalize Y28.alloc (.cells #[.slice none 0 0, .slice none 0 0] 24) = Y34 at *
                refine wpAnyZ_oneG (i := 3) (by kernel_rfl) rfl (by rfl) (fun K hK => ?_)
                refine wp_copy (.tmp 51) (.tmp 53) rfl M g0 t (.slice a2 t.length c2) rfl E0.out rfl ((HT.out.below (HO.out.next (HMM.out ▸ HB.out)).b).src) HTL.out (by have := HB.out.size; rw [HMM.out] at this; exact this) ?_
                intro v3 Y35 hr hg hn
                have hgm := E0.out.ge; have hty := E0.out.ty
                have m34 := newer_ne hn (by omega) E4.out.lt
                have E4 := Lib.hid (E4.out.grown hg (by omega))
                have HX := Lib.hid (HX.out.grown hg hty)
                have R3 := Lib.hid hr
                have HB := Lib.hid (HB.out.grown hg (by have := HB.out.size; rw [HMM.out] at this; exact this) (fun k e => by cases e; exact hgm))
                refine hK.out _ _ (.inr (by have h := HO.out.next (HMM.out ▸ HB.out); exact ⟨h.c2, h.c3⟩)) ?_
                clear hK hr hg hn hgm hty E0
                refine wpAnyZ_oneG (i := 7) (by kernel_rfl) rfl (by rfl) (fun K hK => ?_)
                refine wp_copy (.tmp 55) (.tmp 57) rfl M g4 e (.slice a3 e.length c3) rfl E4.out rfl ((HE.out.below (HO.out.next (HMM.out ▸ HB.out)).b).src) HEL.out (by have := HB.out.size; rw [HMM.out] at this; exact this) ?_
                intro v7 Y36 hr hg hn
                have hgm := E4.out.ge; have hty := E4.out.ty
                have R3 := Lib.hid (R3.out.kept hg (.inr m34))
                have HX := Lib.hid (HX.out.grown hg hty)
                have R7 := Lib.hid hr
                have HB := Lib.hid (HB.out.grown hg (by have := HB.out.size; rw [HMM.out] at this; exact this) (fun k e => by cases e; exact hgm))
                refine hK.out _ _ (.inr (by have h := HO.out.next (HMM.out ▸ HB.out); exact ⟨h.c2, h.c3⟩)) ?_
                clear hK hr hg hn hgm hty E4
                obtain ⟨p1, q1, rfl, -, -⟩ := R3.out.slice
                obtain ⟨r1, t1, rfl, -, -⟩ := R7.out.slice
                have hSS : (fun W' : World => W'.cell? ⟨w.heap.size + 1, 0, none⟩ = some (.slice a2 t.length c2) ∧ W'.cell? ⟨w.heap.size + 1, 1, none⟩ = some (.slice a3 e.length c3)) Y36 := (by have h := HO.out.next (HMM.out ▸ HB.out); exact ⟨h.c2, h.c3⟩)
                refine wpAnyZ_take (i := 8) (v := ?_) rfl (by kernel_rfl) (by kernel_rfl) (by kernel_rfl) (fun _ _ _ h => h) (by kernel_rfl) (Or.inl ⟨by rfl, ?_⟩) (by assumption) ?_
                rotate_left
                · intro w' hSw
                  try dsimp only at hSw
                  try obtain ⟨hSw, hSw2⟩ := hSw
                  go_simp
                  try with_reducible rfl
                show wpAnyZ _ _ _ _ _ _ _ _ (Act.put _ (some 59) _) _
                simp only [Act.put, List.setIfInBounds_toArray, List.set_cons_zero, List.set_cons_succ]
                clear hSS
                have g0' := frozen_of_row Y36 b1 0 _ _ HX.out; have g1' := frozen_of_row Y36 b1 1 _ _ HX.out
                have y0 := cell_of_row Y36 b1 0 _ _ _ HX.out; have y1 := cell_of_row Y36 b1 1 _ _ _ HX.out
                refine wpAnyZ_oneG (i := 10) (by kernel_rfl) rfl (by rfl) (fun K hK => ?_)
                go_simp
                refine hK.out _ _ (.inl (by omega)) ?_
                clear hK y0 y1 g0' g1'
                refine wpAnyZ_done (by kernel_rfl) ?_ _
                go_wp2_with fail
                go_meet
                exact ⟨b1, p1, q1, r1, t1, rfl, HMM.out ▸ (HB.out.setCell hMb _).setCell hMb _, KeptR.put (v' := .slice none 0 0) (u' := .slice none 0 0) (s' := []) (d' := []) HX.out (R3.out.mono (Nat.zero_le _)) (R7.out.mono (Nat.zero_le _)) (in_of HT.out) (in_of HE.out)⟩
            · skip
              go_simp
              obtain ⟨b1, hb1⟩ : ∃ b, Y27.heap.size = b := ⟨_, rfl⟩
              have hba : Below Y27.heap.size Y27 (Y27.alloc (.cells #[.slice none 0 0, .slice none 0 0] 24)) := (Below.refl _ _).alloc (Nat.le_refl _) _
              have hMb : M ≤ b1 := by have := HB.out.size; rw [HMM.out] at this; omega
              have HX := Lib.hid (Boxed.new hb1)
              have E4 := Lib.hid (E4.out.below hba)
              have HB := Lib.hid (HB.out.alloc (by have := HB.out.size; rw [HMM.out] at this; exact this) (.cells #[.slice none 0 0, .slice none 0 0] 24))
              rw [hb1]
              refine hK.out _ _ (.inr (by have h := HO.out.next (HMM.out ▸ HB.out); exact ⟨h.c2, h.c3⟩)) ?_
              clear hK hba hb1
              generalize Y27.alloc (.cells #[.slice none 0 0, .slice none 0 0] 24) = Y37 at *
              refine wpAnyZ_oneG (i := 0) (by kernel_rfl) rfl (by rfl) (fun K hK => ?_)
              go_simp
              obtain ⟨g0, hg0⟩ : ∃ b, Y37.heap.size = b := ⟨_, rfl⟩
              have hba : Below Y37.heap.size Y37 (Y37.alloc (.cells #[] 2)) := (Below.refl _ _).alloc (Nat.le_refl _) _
              have E0 := Lib.hid (Empty.new (M := M) (by have := HB.out.size; rw [HMM.out] at this; exact this) hg0)
              have n0 : g4 ≠ g0 := by have := E4.out.lt; omega
              have E4 := Lib.hid (E4.out.below hba)
              have HX := Lib.hid (HX.out.next hba)
              have HB := Lib.hid (HB.out.alloc (by have := HB.out.size; rw [HMM.out] at this; exact this) (.cells #[] 2))
              rw [hg0]
              refine hK.out _ _ (.inr (by have h := HO.out.next (HMM.out ▸ HB.out); exact ⟨h.c2, h.c3⟩)) ?_
              clear hK hba hg0
              generalize Y37.alloc (.cells #[] 2) = Y38 at *
              refine wpAnyZ_oneG (i := 3) (by kernel_rfl) rfl (by rfl) (fun K hK => ?_)
              refine wp_copy (.tmp 51) (.tmp 53) rfl M g0 t (.slice a2 t.length c2) rfl E0.out rfl ((HT.out.below (HO.out.next (HMM.out ▸ HB.out)).b).src) HTL.out (by have := HB.out.size; rw [HMM.out] at this; exact this) ?_
              intro v3 Y39 hr hg hn
              have hgm := E0.out.ge; have hty := E0.out.ty
              have m34 := newer_ne hn (by omega) E4.out.lt
              have E4 := Lib.hid (E4.out.grown hg (by omega))
              have HX := Lib.hid (HX.out.grown hg hty)
              have R3 := Lib.hid hr
              have HB := Lib.hid (HB.out.grown hg (by have := HB.out.size; rw [HMM.out] at this; exact this) (fun k e => by cases e; exact hgm))
              refine hK.out _ _ (.inr (by have h := HO.out.next (HMM.out ▸ HB.out); exact ⟨h.c2, h.c3⟩)) ?_
              clear hK hr hg hn hgm hty E0
              refine wpAnyZ_oneG (i := 7) (by kernel_rfl) rfl (by rfl) (fun K hK => ?_)
              refine wp_copy (.tmp 55) (.tmp 57) rfl M g4 e (.slice a3 e.length c3) rfl E4.out rfl ((HE.out.below (HO.out.next (HMM.out ▸ HB.out)).b).src) HEL.out (by have := HB.out.size; rw [HMM.out] at this; exact this) ?_
              intro v7 Y40 hr hg hn
              have hgm := E4.out.ge; have hty := E4.out.ty
              have R3 := Lib.hid (R3.out.kept hg (.inr m34))
              have HX := Lib.hid (HX.out.grown hg hty)
              have R7 := Lib.hid hr
              have HB := Lib.hid (HB.out.grown hg (by have := HB.out.size; rw [HMM.out] at this; exact this) (fun k e => by cases e; exact hgm))
              refine hK.out _ _ (.inr (by have h := HO.out.next (HMM.out ▸ HB.out); exact ⟨h.c2, h.c3⟩)) ?_
              clear hK hr hg hn hgm hty E4
              obtain ⟨p1, q1, rfl, -, -⟩ := R3.out.slice
              obtain ⟨r1, t1, rfl, -, -⟩ := R7.out.slice
              have hSS : (fun W' : World => W'.cell? ⟨w.heap.size + 1, 0, none⟩ = some (.slice a2 t.length c2) ∧ W'.cell? ⟨w.heap.size + 1, 1, none⟩ = some (.slice a3 e.length c3)) Y40 := (by have h := HO.out.next (HMM.out ▸ HB.out); exact ⟨h.c2, h.c3⟩)
              refine wpAnyZ_take (i := 8) (v := ?_) rfl (by kernel_rfl) (by kernel_rfl) (by kernel_rfl) (fun _ _ _ h => h) (by kernel_rfl) (Or.inl ⟨by rfl, ?_⟩) (by assumption) ?_
              rotate_left
              · intro w' hSw
                try dsimp only at hSw
                try obtain ⟨hSw, hSw2⟩ := hSw
                go_simp
                try with_reducible rfl
              show wpAnyZ _ _ _ _ _ _ _ _ (Act.put _ (some 59) _) _
              simp only [Act.put, List.setIfInBounds_toArray, List.set_cons_zero, List.set_cons_succ]
              clear hSS
              have g0' := frozen_of_row Y40 b1 0 _ _ HX.out; have g1' := frozen_of_row Y40 b1 1 _ _ HX.out
              have y0 := cell_of_row Y40 b1 0 _ _ _ HX.out; have y1 := cell_of_row Y40 b1 1 _ _ _ HX.out
              refine wpAnyZ_oneG (i := 10) (by kernel_rfl) rfl (by rfl) (fun K hK => ?_)
              go_simp
              refine hK.out _ _ (.inl (by omega)) ?_
              clear hK y0 y1 g0' g1'
              refine wpAnyZ_done (by kernel_rfl) ?_ _
              go_wp2_with fail
              go_meet
              exact ⟨b1, p1, q1, r1, t1, rfl, HMM.out ▸ (HB.out.setCell hMb _).setCell hMb _, KeptR.put (v' := .slice none 0 0) (u' := .slice none 0 0) (s' := []) (d' := []) HX.out (R3.out.mono (Nat.zero_le _)) (R7.out.mono (Nat.zero_le _)) (in_of HT.out) (in_of HE.out)⟩
          · skip
            go_simp
            obtain ⟨b1, hb1⟩ : ∃ b, Y.heap.size = b := ⟨_, rfl⟩
            have hba : Below Y.heap.size Y (Y.alloc (.cells #[.slice none 0 0, .slice none 0 0] 24)) := (Below.refl _ _).alloc (Nat.le_refl _) _
            have hMb : M ≤ b1 := by have := HB.out.size; rw [HMM.out] at this; omega
            have HX := Lib.hid (Boxed.new hb1)
            have HB := Lib.hid (HB.out.alloc (by have := HB.out.size; rw [HMM.out] at this; exact this) (.cells #[.slice none 0 0, .slice none 0 0] 24))
            rw [hb1]
            refine hK.out _ _ (.inr (by have h := HO.out.next (HMM.out ▸ HB.out); exact ⟨h.c2, h.c3⟩)) ?_
            clear hK hba hb1
            generalize Y.alloc (.cells #[.slice none 0 0, .slice none 0 0] 24) = Y41 at *
            refine wpAnyZ_twoG (i := 0) (j := 4) (by kernel_rfl) rfl rfl (by rfl) (by rfl) (fun K hK => ?_) (fun K hK => ?_)
            · skip
              go_simp
              obtain ⟨g0, hg0⟩ : ∃ b, Y41.heap.size = b := ⟨_, rfl⟩
              have hba : Below Y41.heap.size Y41 (Y41.alloc (.cells #[] 2)) := (Below.refl _ _).alloc (Nat.le_refl _) _
              have E0 := Lib.hid (Empty.new (M := M) (by have := HB.out.size; rw [HMM.out] at this; exact this) hg0)
              have HX := Lib.hid (HX.out.next hba)
              have HB := Lib.hid (HB.out.alloc (by have := HB.out.size; rw [HMM.out] at this; exact this) (.cells #[] 2))
              rw [hg0]
              refine hK.out _ _ (.inr (by have h := HO.out.next (HMM.out ▸ HB.out); exact ⟨h.c2, h.c3⟩)) ?_
              clear hK hba hg0
              generalize Y41.alloc (.cells #[] 2) = Y42 at *
              refine wpAnyZ_twoG (i := 3) (j := 4) (by kernel_rfl) rfl rfl (by rfl) (by rfl) (fun K hK => ?_) (fun K hK => ?_)
              · skip
                refine wp_copy (.tmp 51) (.tmp 53) rfl M g0 t (.slice a2 t.length c2) rfl E0.out rfl ((HT.out.below (HO.out.next (HMM.out ▸ HB.out)).b).src) HTL.out (by have := HB.out.size; rw [HMM.out] at this; exact this) ?_
                intro v3 Y43 hr hg hn
                have hgm := E0.out.ge; have hty := E0.out.ty
                have HX := Lib.hid (HX.out.grown hg hty)
                have R3 := Lib.hid hr
                have HB := Lib.hid (HB.out.grown hg (by have := HB.out.size; rw [HMM.out] at this; exact this) (fun k e => by cases e; exact hgm))
                refine hK.out _ _ (.inr (by have h := HO.out.next (HMM.out ▸ HB.out); exact ⟨h.c2, h.c3⟩)) ?_
                clear hK hr hg hn hgm hty E0
                refine wpAnyZ_oneG (i := 4) (by kernel_rfl) rfl (by rfl) (fun K hK => ?_)
                go_simp
                obtain ⟨g4, hg4⟩ : ∃ b, Y43.heap.size = b := ⟨_, rfl⟩
                have hba : Below Y43.heap.size Y43 (Y43.alloc (.cells #[] 2)) := (Below.refl _ _).alloc (Nat.le_refl _) _
                have E4 := Lib.hid (Empty.new (M := M) (by have := HB.out.size; rw [HMM.out] at this; exact this) hg4)
                have m34 := R3.out.ne_new (Nat.le_of_eq hg4)
                have R3 := Lib.hid (R3.out.below hba)
                have HX := Lib.hid (HX.out.next hba)
                have HB := Lib.hid (HB.out.alloc (by have := HB.out.size; rw [HMM.out] at this; exact this) (.cells #[] 2))
                rw [hg4]
                refine hK.out _ _ (.inr (by have h := HO.out.next (HMM.out ▸ HB.out); exact ⟨h.c2, h.c3⟩)) ?_
                clear hK hba hg4
                generalize Y43.alloc (.cells #[] 2) = Y44 at *
                refine wpAnyZ_oneG (i := 7) (by kernel_rfl) rfl (by rfl) (fun K hK => ?_)
                refine wp_copy (.tmp 55) (.tmp 57) rfl M g4 e (.slice a3 e.length c3) rfl E4.out rfl ((HE.out.below (HO.out.next (HMM.out ▸ HB.out)).b).src) HEL.out (by have := HB.out.size; rw [HMM.out] at this; exact this) ?_
                intro v7 Y45 hr hg hn
                have hgm := E4.out.ge; have hty := E4.out.ty
                have R3 := Lib.hid (R3.out.kept hg (.inr m34))
                have HX := Lib.hid (HX.out.grown hg hty)
                have R7 := Lib.hid hr
                have HB := Lib.hid (HB.out.grown hg (by have := HB.out.size; rw [HMM.out] at this; exact this) (fun k e => by cases e; exact hgm))
                refine hK.out _ _ (.inr (by have h := HO.out.next (HMM.out ▸ HB.out); exact ⟨h.c2, h.c3⟩)) ?_
                clear hK hr hg hn hgm hty E4
                obtain ⟨p1, q1, rfl, -, -⟩ := R3.out.slice
                obtain ⟨r1, t1, rfl, -, -⟩ := R7.out.slice
                have hSS : (fun W' : World => W'.cell? ⟨w.heap.size + 1, 0, none⟩ = some (.slice a2 t.length c2) ∧ W'.cell? ⟨w.heap.size + 1, 1, none⟩ = some (.slice a3 e.length c3)) Y45 := (by have h := HO.out.next (HMM.out ▸ HB.out); exact ⟨h.c2, h.c3⟩)
                refine wpAnyZ_take (i := 8) (v := ?_) rfl (by kernel_rfl) (by kernel_rfl) (by kernel_rfl) (fun _ _ _ h => h) (by kernel_rfl) (Or.inl ⟨by rfl, ?_⟩) (by assumption) ?_
                rotate_left
                · intro w' hSw
                  try dsimp only at hSw
                  try obtain ⟨hSw, hSw2⟩ := hSw
                  go_simp
                  try with_reducible rfl
                show wpAnyZ _ _ _ _ _ _ _ _ (Act.put _ (some 59) _) _
                simp only [Act.put, List.setIfInBounds_toArray, List.set_cons_zero, List.set_cons_succ]
                clear hSS
                have g0' := frozen_of_row Y45 b1 0 _ _ HX.out; have g1' := frozen_of_row Y45 b1 1 _ _ HX.out
                have y0 := cell_of_row Y45 b1 0 _ _ _ HX.out; have y1 := cell_of_row Y45 b1 1 _ _ _ HX.out
                refine wpAnyZ_oneG (i := 10) (by kernel_rfl) rfl (by rfl) (fun K hK => ?_)
                go_simp
                refine hK.out _ _ (.inl (by omega)) ?_
                clear hK y0 y1 g0' g1'
                refine wpAnyZ_done (by kernel_rfl) ?_ _
                go_wp2_with fail
                go_meet
                exact ⟨b1, p1, q1, r1, t1, rfl, HMM.out ▸ (HB.out.setCell hMb _).setCell hMb _, KeptR.put (v' := .slice none 0 0) (u' := .slice none 0 0) (s' := []) (d' := []) HX.out (R3.out.mono (Nat.zero_le _)) (R7.out.mono (Nat.zero_le _)) (in_of HT.out) (in_of HE.out)⟩
              · skip
                go_simp
                obtain ⟨g4, hg4⟩ : ∃ b, Y42.heap.size = b := ⟨_, rfl⟩
                have hba : Below Y42.heap.size Y42 (Y42.alloc (.cells #[] 2)) := (Below.refl _ _).alloc (Nat.le_refl _) _
                have E4 := Lib.hid (Empty.new (M := M) (by have := HB.out.size; rw [HMM.out] at this; exact this) hg4)
                have n4 : g0 ≠ g4 := by have := E0.out.lt; omega
                have E0 := Lib.hid (E0.out.below hba)
                have HX := Lib.hid (HX.out.next hba)
                have HB := Lib.hid (HB.out.alloc (by have := HB.out.size; rw [HMM.out] at this; exact this) (.cells #[] 2))
                rw [hg4]
                refine hK.out _ _ (.inr (by have h := HO.out.next (HMM.out ▸ HB.out); exact ⟨h.c2, h.c3⟩)) ?_
                clear hK hba hg4
                generalize Y42.alloc (.cells #[] 2) = Y46 at *
                refine wpAnyZ_oneG (i := 3) (by kernel_rfl) rfl (by rfl) (fun K hK => ?_)
                refine wp_copy (.tmp 51) (.tmp 53) rfl M g0 t (.slice a2 t.length c2) rfl E0.out rfl ((HT.out.below (HO.out.next (HMM.out ▸ HB.out)).b).src) HTL.out (by have := HB.out.size; rw [HMM.out] at this; exact this) ?_
                intro v3 Y47 hr hg hn
                have hgm := E0.out.ge; have hty := E0.out.ty
                have m34 := newer_ne hn (by omega) E4.out.lt
                have E4 := Lib.hid (E4.out.grown hg (by omega))
                have HX := Lib.hid (HX.out.grown hg hty)
                have R3 := Lib.hid hr
                have HB := Lib.hid (HB.out.grown hg (by have := HB.out.size; rw [HMM.out] at this; exact this) (fun k e => by cases e; exact hgm))
                refine hK.out _ _ (.inr (by have h := HO.out.next (HMM.out ▸ HB.out); exact ⟨h.c2, h.c3⟩)) ?_
                clear hK hr hg hn hgm hty E0
                refine wpAnyZ_oneG (i := 7) (by kernel_rfl) rfl (by rfl) (fun K hK => ?_)
                refine wp_copy (.tmp 55) (.tmp 57) rfl M g4 e (.slice a3 e.length c3) rfl E4.out rfl ((HE.out.below (HO.out.next (HMM.out ▸ HB.out)).b).src) HEL.out (by have := HB.out.size; rw [HMM.out] at this; exact this) ?_
                intro v7 Y48 hr hg hn
                have hgm := E4.out.ge; have hty := E4.out.ty
                have R3 := Lib.hid (R3.out.kept hg (.inr m34))
                have HX := Lib.hid (HX.out.grown hg hty)
                have R7 := Lib.hid hr
                have HB := Lib.hid (HB.out.grown hg (by have := HB.out.size; rw [HMM.out] at this; exact this) (fun k e => by cases e; exact hgm))
                refine hK.out _ _ (.inr (by have h := HO.out.next (HMM.out ▸ HB.out); exact ⟨h.c2, h.c3⟩)) ?_
                clear hK hr hg hn hgm hty E4
                obtain ⟨p1, q1, rfl, -, -⟩ := R3.out.slice
                obtain ⟨r1, t1, rfl, -, -⟩ := R7.out.slice
                have hSS : (fun W' : World => W'.cell? ⟨w.heap.size + 1, 0, none⟩ = some (.slice a2 t.length c2) ∧ W'.cell? ⟨w.heap.size + 1, 1, none⟩ = some (.slice a3 e.length c3)) Y48 := (by have h := HO.out.next (HMM.out ▸ HB.out); exact ⟨h.c2, h.c3⟩)
                refine wpAnyZ_take (i := 8) (v := ?_) rfl (by kernel_rfl) (by kernel_rfl) (by kernel_rfl) (fun _ _ _ h => h) (by kernel_rfl) (Or.inl ⟨by rfl, ?_⟩) (by assumption) ?_
                rotate_left
                · intro w' hSw
                  try dsimp only at hSw
                  try obtain ⟨hSw, hSw2⟩ := hSw
                  go_simp
                  try with_reducible rfl
                show wpAnyZ _ _ _ _ _ _ _ _ (Act.put _ (some 59) _) _
                simp only [Act.put, List.setIfInBounds_toArray, List.set_cons_zero, List.set_cons_succ]
                clear hSS
                have g0' := frozen_of_row Y48 b1 0 _ _ HX.out; have g1' := frozen_of_row Y48 b1 1 _ _ HX.out
                have y0 := cell_of_row Y48 b1 0 _ _ _ HX.out; have y1 := cell_of_row Y48 b1 1 _ _ _ HX.out
                refine wpAnyZ_oneG (i := 10) (by kernel_rfl) rfl (by rfl) (fun K hK => ?_)
                go_simp
                refine hK.out _ _ (.inl (by omega)) ?_
                clear hK y0 y1 g0' g1'
                refine wpAnyZ_done (by kernel_rfl) ?_ _
                go_wp2_with fail
                go_meet
                exact ⟨b1, p1, q1, r1, t1, rfl, HMM.out ▸ (HB.out.setCell hMb _).setCell hMb _, KeptR.put (v' := .slice none 0 0) (u' := .slice none 0 0) (s' := []) (d' := []) HX.out (R3.out.mono (Nat.zero_le _)) (R7.out.mono (Nat.zero_le _)) (in_of HT.out) (in_of HE.out)⟩
            · skip
              go_simp
              obtain ⟨g4, hg4⟩ : ∃ b, Y41.heap.size = b := ⟨_, rfl⟩
              have hba : Below Y41.heap.size Y41 (Y41.alloc (.cells #[] 2)) := (Below.refl _ _).alloc (Nat.le_refl _) _
              have E4 := Lib.hid (Empty.new (M := M) (by have := HB.out.size; rw [HMM.out] at this; exact this) hg4)
              have HX := Lib.hid (HX.out.next hba)
              have HB := Lib.hid (HB.out.alloc (by have := HB.out.size; rw [HMM.out] at this; exact this) (.cells #[] 2))
              rw [hg4]
              refine hK.out _ _ (.inr (by have h := HO.out.next (HMM.out ▸ HB.out); exact ⟨h.c2, h.c3⟩)) ?_
              clear hK hba hg4
              generalize Y41.alloc (.cells #[] 2) = Y49 at *
              refine wpAnyZ_oneG (i := 0) (by kernel_rfl) rfl (by rfl) (fun K hK => ?_)
              go_simp
              obtain ⟨g0, hg0⟩ : ∃ b, Y49.heap.size = b := ⟨_, rfl⟩
              have hba : Below Y49.heap.size Y49 (Y49.alloc (.cells #[] 2)) := (Below.refl _ _).alloc (Nat.le_refl _) _
              have E0 := Lib.hid (Empty.new (M := M) (by have := HB.out.size; rw [HMM.out] at this; exact this) hg0)
              have n0 : g4 ≠ g0 := by have := E4.out.lt; omega
              have E4 := Lib.hid (E4.out.below hba)
              have HX := Lib.hid (HX.out.next hba)
              have HB := Lib.hid (HB.out.alloc (by have := HB.out.size; rw [HMM.out] at this; exact this) (.cells #[] 2))
              rw [hg0]
              refine hK.out _ _ (.inr (by have h := HO.out.next (HMM.out ▸ HB.out); exact ⟨h.c2, h.c3⟩)) ?_
              clear hK hba hg0
              generalize Y49.alloc (.cells #[] 2) = Y50 at *
              refine wpAnyZ_oneG (i := 3) (by kernel_rfl) rfl (by rfl) (fun K hK => ?_)
              refine wp_copy (.tmp 51) (.tmp 53) rfl M g0 t (.slice a2 t.length c2) rfl E0.out rfl ((HT.out.below (HO.out.next (HMM.out ▸ HB.out)).b).src) HTL.out (by have := HB.out.size; rw [HMM.out] at this; exact this) ?_
              intro v3 Y51 hr hg hn
              have hgm := E0.out.ge; have hty := E0.out.ty
              have m34 := newer_ne hn (by omega) E4.out.lt
              have E4 := Lib.hid (E4.out.grown hg (by omega))
              have HX := Lib.hid (HX.out.grown hg hty)
              have R3 := Lib.hid hr
              have HB := Lib.hid (HB.out.grown hg (by have := HB.out.size; rw [HMM.out] at this; exact this) (fun k e => by cases e; exact hgm))
              refine hK.out _ _ (.inr (by have h := HO.out.next (HMM.out ▸ HB.out); exact ⟨h.c2, h.c3⟩)) ?_
              clear hK hr hg hn hgm hty E0
              refine wpAnyZ_oneG (i := 7) (by kernel_rfl) rfl (by rfl) (fun K hK => ?_)
              refine wp_copy (.tmp 55) (.tmp 57) rfl M g4 e (.slice a3 e.length c3) rfl E4.out rfl ((HE.out.below (HO.out.next (HMM.out ▸ HB.out)).b).src) HEL.out (by have := HB.out.size; rw [HMM.out] at this; exact this) ?_
              intro v7 Y52 hr hg hn
              have hgm := E4.out.ge; have hty := E4.out.ty
              have R3 := Lib.hid (R3.out.kept hg (.inr m34))
              have HX := Lib.hid (HX.out.grown hg hty)
              have R7 := Lib.hid hr
              have HB := Lib.hid (HB.out.grown hg (by have := HB.out.size; rw [HMM.out] at this; exact this) (fun k e => by cases e; exact hgm))
              refine hK.out _ _ (.inr (by have h := HO.out.next (HMM.out ▸ HB.out); exact ⟨h.c2, h.c3⟩)) ?_
              clear hK hr hg hn hgm hty E4
              obtain ⟨p1, q1, rfl, -, -⟩ := R3.out.slice
              obtain ⟨r1, t1, rfl, -, -⟩ := R7.out.slice
              have hSS : (fun W' : World => W'.cell? ⟨w.heap.size + 1, 0, none⟩ = some (.slice a2 t.length c2) ∧ W'.cell? ⟨w.heap.size + 1, 1, none⟩ = some (.slice a3 e.length c3)) Y52 := (by have h := HO.out.next (HMM.out ▸ HB.out); exact ⟨h.c2, h.c3⟩)
              refine wpAnyZ_take (i := 8) (v := ?_) rfl (by kernel_rfl) (by kernel_rfl) (by kernel_rfl) (fun _ _ _ h => h) (by kernel_rfl) (Or.inl ⟨by rfl, ?_⟩) (by assumption) ?_
              rotate_left
              · intro w' hSw
                try dsimp only at hSw
                try obtain ⟨hSw, hSw2⟩ := hSw
                go_simp
                try with_reducible rfl
              show wpAnyZ _ _ _ _ _ _ _ _ (Act.put _ (some 59) _) _
              simp only [Act.put, List.setIfInBounds_toArray, List.set_cons_zero, List.set_cons_succ]
              clear hSS
              have g0' := frozen_of_row Y52 b1 0 _ _ HX.out; have g1' := frozen_of_row Y52 b1 1 _ _ HX.out
              have y0 := cell_of_row Y52 b1 0 _ _ _ HX.out; have y1 := cell_of_row Y52 b1 1 _ _ _ HX.out
              refine wpAnyZ_oneG (i := 10) (by kernel_rfl) rfl (by rfl) (fun K hK => ?_)
              go_simp
              refine hK.out _ _ (.inl (by omega)) ?_
              clear hK y0 y1 g0' g1'
              refine wpAnyZ_done (by kernel_rfl) ?_ _
              go_wp2_with fail
              go_meet
              exact ⟨b1, p1, q1, r1, t1, rfl, HMM.out ▸ (HB.out.setCell hMb _).setCell hMb _, KeptR.put (v' := .slice none 0 0) (u' := .slice none 0 0) (s' := []) (d' := []) HX.out (R3.out.mono (Nat.zero_le _)) (R7.out.mono (Nat.zero_le _)) (in_of HT.out) (in_of HE.out)⟩
      case rest =>
        obtain ⟨b1, p1, q1, r1, t1, rfl, hbx, hK1⟩ := hcut
        have HO := Lib.hid (HO.out.next hbx)
        have K0 := Lib.hid (K0.out.next hbx)
        have K1 := Lib.hid hK1
        clear hK1 hbx
        go_upto_region 7 with fail
        refine gen_worldA (fun W => BoxB w W (.slice a0 s.length c0) (.slice a1 d.length c1) (.slice a2 t.length c2) (.slice a3 e.length c3) ∧ KeptR W b0 (.slice p0 s.length q0) (.slice r0 d.length t0) s d ∧ KeptR W b1 (.slice p1 t.length q1) (.slice r1 e.length t1) t e) ⟨HO.out, K0.out, K1.out⟩ ?_
        rintro V7 ⟨hHO, hK0, hK1⟩
        clear HO K0 K1
        have HO := Lib.hid hHO
        have K0 := Lib.hid hK0
        have K1 := Lib.hid hK1
        clear hHO hK0 hK1
        obtain ⟨M, hM⟩ : ∃ M, V7.heap.size = M := ⟨_, rfl⟩
        have HMM := Lib.hid hM
        have HN := Lib.hid (show Since V7 V7 from ⟨Below.refl _ _⟩)
        clear hM
        obtain ⟨r2, hr2⟩ : ∃ r, monadA f1 s d = r := ⟨_, rfl⟩
        have ht2 := monadA_rt f1 s d (in_of HD.out)
        rw [hr2] at ht2
        obtain ⟨⟨S2, D2⟩, E2⟩ := r2
        have HM2 := Lib.hid hr2; have HR2 := Lib.hid ht2
        have hri2 : right S2 D2 = (E2 == 0) := ht2.iff
        obtain ⟨z2, hz2⟩ : ∃ z, (E2 == 0) = z := ⟨_, rfl⟩
        rw [hz2] at hri2
        have HI2 := Lib.hid hri2; have HZ2 := Lib.hid hz2
        clear hr2 ht2 hri2 hz2
        obtain ⟨r3, hr3⟩ : ∃ r, dyadA f2 s d t e = r := ⟨_, rfl⟩
        have ht3 := dyadA_rt f2 (s := s) (t := t) (in_of HD.out) (in_of HE.out)
        rw [hr3] at ht3
        obtain ⟨⟨S3, D3⟩, E3⟩ := r3
        have HM3 := Lib.hid hr3; have HR3 := Lib.hid ht3
        have hri3 : right S3 D3 = (E3 == 0) := ht3.iff
        obtain ⟨z3, hz3⟩ : ∃ z, (E3 == 0) = z := ⟨_, rfl⟩
        rw [hz3] at hri3
        have HI3 := Lib.hid hri3; have HZ3 := Lib.hid hz3
        clear hr3 ht3 hri3 hz3
        obtain ⟨r4, hr4⟩ : ∃ r, foldA f2 t e = r := ⟨_, rfl⟩
        have ht4 := foldA_rt f2 (s := t) (in_of HE.out)
        rw [hr4] at ht4
        obtain ⟨⟨S4, D4⟩, E4⟩ := r4
        have HM4 := Lib.hid hr4; have HR4 := Lib.hid ht4
        have hri4 : right S4 D4 = (E4 == 0) := ht4.iff
        obtain ⟨z4, hz4⟩ : ∃ z, (E4 == 0) = z := ⟨_, rfl⟩
        rw [hz4] at hri4
        have HI4 := Lib.hid hri4; have HZ4 := Lib.hid hz4
        clear hr4 ht4 hri4 hz4
        obtain ⟨r5, hr5⟩ : ∃ r, scanA f2 t e = r := ⟨_, rfl⟩
        have ht5 := scanA_rt f2 (s := t) (in_of HE.out)
        rw [hr5] at ht5
        obtain ⟨⟨S5, D5⟩, E5⟩ := r5
        have HM5 := Lib.hid hr5; have HR5 := Lib.hid ht5
        have hri5 : right S5 D5 = (E5 == 0) := ht5.iff
        obtain ⟨z5, hz5⟩ : ∃ z, (E5 == 0) = z := ⟨_, rfl⟩
        rw [hz5] at hri5
        have HI5 := Lib.hid hri5; have HZ5 := Lib.hid hz5
        clear hr5 ht5 hri5 hz5
        have xa0 := (K0.out.next HN.out.b).c0; have xb0 := (K0.out.next HN.out.b).c1
        have hq := pm_any V7 f1 _ _ s d (K0.out.next HN.out.b).sv (K0.out.next HN.out.b).su
        rw [HM2.out] at hq
        have HQ := Lib.hid hq
        clear hq
        go_wp2_with fail
        refine HQ.out.mono ?_
        rintro e' X2 ⟨hr, hb⟩
        have hMle : M ≤ V7.heap.size := by have := HN.out.b.size; have h1 := HMM.out; omega
        obtain ⟨p2, q2, r2, t2, rfl, hs2, hd2⟩ := ret_own2 (M := M) (S := S2) (D := D2) (E := E2) hr hMle
        obtain ⟨b2, hb2⟩ : ∃ b, X2.heap.size = b := ⟨_, rfl⟩
        have hba : Below X2.heap.size X2 (X2.alloc (.cells #[.slice p2 S2.length q2, .slice r2 D2.length t2] 24)) := (Below.refl _ _).alloc (Nat.le_refl _) _
        have hbc := bNext hba hb
        have HN := Lib.hid (HN.out.next hbc)
        have K2 := Lib.hid (KeptW.new (b := b2) hb2 hs2 hd2 HR2.out.i1 HR2.out.i2)
        clear HQ hr hMle hs2 hd2 hb hba hbc xa0 xb0
        go_upto_region 8 with fail
        refine gen_worldA (fun W => Since V7 W ∧ KeptW M W b2 (.slice p2 S2.length q2) (.slice r2 D2.length t2) S2 D2) ⟨HN.out, K2.out⟩ ?_
        rintro V8 ⟨hHN, hK2⟩
        clear HN K2
        have HN := Lib.hid hHN
        have K2 := Lib.hid hK2
        clear hHN hK2
        clear hb2
        have xa0 := (K0.out.next HN.out.b).c0; have xb0 := (K0.out.next HN.out.b).c1
        have xa1 := (K1.out.next HN.out.b).c0; have xb1 := (K1.out.next HN.out.b).c1
        have hq := pd_any V8 f2 _ _ _ _ s d t e (K0.out.next HN.out.b).sv (K0.out.next HN.out.b).su (K1.out.next HN.out.b).sv (K1.out.next HN.out.b).su
        rw [HM3.out] at hq
        have HQ := Lib.hid hq
        clear hq
        go_wp2_with fail
        refine HQ.out.mono ?_
        rintro e' X3 ⟨hr, hb⟩
        have hMle : M ≤ V8.heap.size := by have := HN.out.b.size; have h1 := HMM.out; omega
        obtain ⟨p3, q3, r3, t3, rfl, hs3, hd3⟩ := ret_own2 (M := M) (S := S3) (D := D3) (E := E3) hr hMle
        obtain ⟨b3, hb3⟩ : ∃ b, X3.heap.size = b := ⟨_, rfl⟩
        have hba : Below X3.heap.size X3 (X3.alloc (.cells #[.slice p3 S3.length q3, .slice r3 D3.length t3] 24)) := (Below.refl _ _).alloc (Nat.le_refl _) _
        have hbc := bNext hba hb
        have HN := Lib.hid (HN.out.next hbc)
        have K2 := Lib.hid (K2.out.next hbc)
        have K3 := Lib.hid (KeptW.new (b := b3) hb3 hs3 hd3 HR3.out.i1 HR3.out.i2)
        clear HQ hr hMle hs3 hd3 hb hba hbc xa0 xb0 xa1 xb1
        go_upto_region 9 with fail
        refine gen_worldA (fun W => Since V7 W ∧ KeptW M W b2 (.slice p2 S2.length q2) (.slice r2 D2.length t2) S2 D2 ∧ KeptW M W b3 (.slice p3 S3.length q3) (.slice r3 D3.length t3) S3 D3) ⟨HN.out, K2.out, K3.out⟩ ?_
        rintro V9 ⟨hHN, hK2, hK3⟩
        clear HN K2 K3
        have HN := Lib.hid hHN
        have K2 := Lib.hid hK2
        have K3 := Lib.hid hK3
        clear hHN hK2 hK3
        clear hb3
        have xa1 := (K1.out.next HN.out.b).c0; have xb1 := (K1.out.next HN.out.b).c1
        have hq := pf_any V9 f2 _ _ t e (K1.out.next HN.out.b).sv (K1.out.next HN.out.b).su
        rw [HM4.out] at hq
        have HQ := Lib.hid hq
        clear hq
        go_wp2_with fail
        refine HQ.out.mono ?_
        rintro e' X4 ⟨hr, hb⟩
        have hMle : M ≤ V9.heap.size := by have := HN.out.b.size; have h1 := HMM.out; omega
        obtain ⟨p4, q4, r4, t4, rfl, hs4, hd4⟩ := ret_own2 (M := M) (S := S4) (D := D4) (E := E4) hr hMle
        obtain ⟨b4, hb4⟩ : ∃ b, X4.heap.size = b := ⟨_, rfl⟩
        have hba : Below X4.heap.size X4 (X4.alloc (.cells #[.slice p4 S4.length q4, .slice r4 D4.length t4] 24)) := (Below.refl _ _).alloc (Nat.le_refl _) _
        have hbc := bNext hba hb
        have HN := Lib.hid (HN.out.next hbc)
        have K2 := Lib.hid (K2.out.next hbc)
        have K3 := Lib.hid (K3.out.next hbc)
        have K4 := Lib.hid (KeptW.new (b := b4) hb4 hs4 hd4 HR4.out.i1 HR4.out.i2)
        clear HQ hr hMle hs4 hd4 hb hba hbc xa1 xb1
        go_upto_region 10 with fail
        refine gen_worldA (fun W => Since V7 W ∧ KeptW M W b2 (.slice p2 S2.length q2) (.slice r2 D2.length t2) S2 D2 ∧ KeptW M W b3 (.slice p3 S3.length q3) (.slice r3 D3.length t3) S3 D3 ∧ KeptW M W b4 (.slice p4 S4.length q4) (.slice r4 D4.length t4) S4 D4) ⟨HN.out, K2.out, K3.out, K4.out⟩ ?_
        rintro V10 ⟨hHN, hK2, hK3, hK4⟩
        clear HN K2 K3 K4
        have HN := Lib.hid hHN
        have K2 := Lib.hid hK2
        have K3 := Lib.hid hK3
        have K4 := Lib.hid hK4
        clear hHN hK2 hK3 hK4
        clear hb4
        have xa1 := (K1.out.next HN.out.b).c0; have xb1 := (K1.out.next HN.out.b).c1
        have hq := ps_any V10 f2 _ _ t e (K1.out.next HN.out.b).sv (K1.out.next HN.out.b).su
        rw [HM5.out] at hq
        have HQ := Lib.hid hq
        clear hq
        go_wp2_with fail
        refine HQ.out.mono ?_
        rintro e' X5 ⟨hr, hb⟩
        have hMle : M ≤ V10.heap.size := by have := HN.out.b.size; have h1 := HMM.out; omega
        obtain ⟨p5, q5, r5, t5, rfl, hs5, hd5⟩ := ret_own2 (M := M) (S := S5) (D := D5) (E := E5) hr hMle
        obtain ⟨b5, hb5⟩ : ∃ b, X5.heap.size = b := ⟨_, rfl⟩
        have hba : Below X5.heap.size X5 (X5.alloc (.cells #[.slice p5 S5.length q5, .slice r5 D5.length t5] 24)) := (Below.refl _ _).alloc (Nat.le_refl _) _
        have hbc := bNext hba hb
        have HN := Lib.hid (HN.out.next hbc)
        have K2 := Lib.hid (K2.out.next hbc)
        have K3 := Lib.hid (K3.out.next hbc)
        have K4 := Lib.hid (K4.out.next hbc)
        have K5 := Lib.hid (KeptW.new (b := b5) hb5 hs5 hd5 HR5.out.i1 HR5.out.i2)
        clear HQ hr hMle hs5 hd5 hb hba hbc xa1 xb1
        go_upto_region 11 with fail
        refine gen_worldA (fun W => Since V7 W ∧ KeptW M W b2 (.slice p2 S2.length q2) (.slice r2 D2.length t2) S2 D2 ∧ KeptW M W b3 (.slice p3 S3.length q3) (.slice r3 D3.length t3) S3 D3 ∧ KeptW M W b4 (.slice p4 S4.length q4) (.slice r4 D4.length t4) S4 D4 ∧ KeptW M W b5 (.slice p5 S5.length q5) (.slice r5 D5.length t5) S5 D5) ⟨HN.out, K2.out, K3.out, K4.out, K5.out⟩ ?_
        rintro V11 ⟨hHN, hK2, hK3, hK4, hK5⟩
        clear HN K2 K3 K4 K5
        have HN := Lib.hid hHN
        have K2 := Lib.hid hK2
        have K3 := Lib.hid hK3
        have K4 := Lib.hid hK4
        have K5 := Lib.hid hK5
        clear hHN hK2 hK3 hK4 hK5
        clear hb5
        have xa2 := K2.out.k.c0; have xb2 := K2.out.k.c1
        have hz2 := HZ2.out
        have hzz2 : (z2 == z2) = true := by simp
        have hq := aright_sl V11 _ _ _ _ K2.out.k.sv K2.out.k.su
        rw [HI2.out] at hq
        have HQ := Lib.hid hq
        clear hq
        go_wp2_with fail
        refine HQ.out.mono ?_
        rintro e' U2 ⟨rfl, hb⟩
        have HN := Lib.hid (HN.out.next hb)
        have K2 := Lib.hid (K2.out.next hb)
        have K3 := Lib.hid (K3.out.next hb)
        have K4 := Lib.hid (K4.out.next hb)
        have K5 := Lib.hid (K5.out.next hb)
        clear HQ hb xa2 xb2 hz2
        have xa3 := K3.out.k.c0; have xb3 := K3.out.k.c1
        have hz3 := HZ3.out
        have hzz3 : (z3 == z3) = true := by simp
        have hq := aright_sl U2 _ _ _ _ K3.out.k.sv K3.out.k.su
        rw [HI3.out] at hq
        have HQ := Lib.hid hq
        clear hq
        go_wp2_with fail
        refine HQ.out.mono ?_
        rintro e' U3 ⟨rfl, hb⟩
        have HN := Lib.hid (HN.out.next hb)
        have K2 := Lib.hid (K2.out.next hb)
        have K3 := Lib.hid (K3.out.next hb)
        have K4 := Lib.hid (K4.out.next hb)
        have K5 := Lib.hid (K5.out.next hb)
        clear HQ hb xa3 xb3 hz3
        have xa4 := K4.out.k.c0; have xb4 := K4.out.k.c1
        have hz4 := HZ4.out
        have hzz4 : (z4 == z4) = true := by simp
        have hq := aright_sl U3 _ _ _ _ K4.out.k.sv K4.out.k.su
        rw [HI4.out] at hq
        have HQ := Lib.hid hq
        clear hq
        go_wp2_with fail
        refine HQ.out.mono ?_
        rintro e' U4 ⟨rfl, hb⟩
        have HN := Lib.hid (HN.out.next hb)
        have K2 := Lib.hid (K2.out.next hb)
        have K3 := Lib.hid (K3.out.next hb)
        have K4 := Lib.hid (K4.out.next hb)
        have K5 := Lib.hid (K5.out.next hb)
        clear HQ hb xa4 xb4 hz4
        have xa5 := K5.out.k.c0; have xb5 := K5.out.k.c1
        have hz5 := HZ5.out
        have hzz5 : (z5 == z5) = true := by simp
        have hq := aright_sl U4 _ _ _ _ K5.out.k.sv K5.out.k.su
        rw [HI5.out] at hq
        have HQ := Lib.hid hq
        clear hq
        go_wp2_with fail
        refine HQ.out.mono ?_
        rintro e' U5 ⟨rfl, hb⟩
        have HN := Lib.hid (HN.out.next hb)
        have K2 := Lib.hid (K2.out.next hb)
        have K3 := Lib.hid (K3.out.next hb)
        have K4 := Lib.hid (K4.out.next hb)
        have K5 := Lib.hid (K5.out.next hb)
        clear HQ hb xa5 xb5 hz5
        have xa2 := K2.out.k.c0; have xb2 := K2.out.k.c1
        have xa3 := K3.out.k.c0; have xb3 := K3.out.k.c1
        have xa4 := K4.out.k.c0; have xb4 := K4.out.k.c1
        have xa5 := K5.out.k.c0; have xb5 := K5.out.k.c1
        go_upto_region 13 with fail
        obtain ⟨z, hz⟩ : ∃ z, U5.heap.size = z := ⟨_, rfl⟩
        obtain ⟨l, hl⟩ : ∃ l : List Sl3, [(p2, S2.length, q2), (r2, D2.length, t2), (p3, S3.length, q3), (r3, D3.length, t3), (p4, S4.length, q4), (r4, D4.length, t4), (p5, S5.length, q5), (r5, D5.length, t5)] = l := ⟨_, rfl⟩
        have hba : Below U5.heap.size U5 (U5.alloc (.cells #[.slice p2 S2.length q2, .slice r2 D2.length t2, .slice p3 S3.length q3, .slice r3 D3.length t3, .slice p4 S4.length q4, .slice r4 D4.length t4, .slice p5 S5.length q5, .slice r5 D5.length t5] 24)) := (Below.refl _ _).alloc (Nat.le_refl _) _
        have HAW := Lib.hid (show AllW M (U5.alloc (.cells #[.slice p2 S2.length q2, .slice r2 D2.length t2, .slice p3 S3.length q3, .slice r3 D3.length t3, .slice p4 S4.length q4, .slice r4 D4.length t4, .slice p5 S5.length q5, .slice r5 D5.length t5] 24)) z l from ⟨by rw [← hl, ← hz]; exact World.alloc_heap_new _ _, fun x hx => by
            rw [← hl] at hx
            simp only [List.mem_cons, List.not_mem_nil, or_false] at hx
            rcases hx with rfl | rfl | rfl | rfl | rfl | rfl | rfl | rfl
            · exact K2.out.rv.below hba
            · exact K2.out.ru.below hba
            · exact K3.out.rv.below hba
            · exact K3.out.ru.below hba
            · exact K4.out.rv.below hba
            · exact K4.out.ru.below hba
            · exact K5.out.rv.below hba
            · exact K5.out.ru.below hba⟩)
        have HN := Lib.hid (HN.out.next hba)
        have HLL := Lib.hid (show l.length = 8 by rw [← hl]; rfl)
        clear hl hba K2 K3 K4 K5
        skip
        go_wp2_with fail
        clear xa2 xb2 xa3 xb3 xa4 xb4 xa5 xb5 hzz2 hzz3 hzz4 hzz5
        go_loopw [117] (fun i wr => ∃ k : Nat, k ≤ 4 ∧ i = .int .i64 k ∧ Since V7 wr ∧ AllW M wr z l) (fun i _ => 4 - (intOf i).toNat)
        case atStart => exact ⟨0, by omega, rfl, HN.out, HAW.out⟩
        case round =>
          obtain ⟨k, hk, rfl, hn, haw⟩ := hrel
          clear HN HAW hz
          by_cases hlt : k < 4
          · have hll := HLL.out
            have hc0 := haw.cell (k * 2) (by omega); have hc1 := haw.cell (k * 2 + 1) (by omega)
            have hr0 := haw.row _ (List.getElem_mem (show k * 2 < l.length by omega)); have hr1 := haw.row _ (List.getElem_mem (show k * 2 + 1 < l.length by omega))
            have hx0 := List.getElem_mem (show k * 2 < l.length by omega); have hx1 := List.getElem_mem (show k * 2 + 1 < l.length by omega)
            generalize l[k * 2]'(by omega) = y0 at hc0 hr0 hx0; generalize l[k * 2 + 1]'(by omega) = y1 at hc1 hr1 hx1
            obtain ⟨sa, sn, sc⟩ := y0; obtain ⟨da, dn, dc⟩ := y1
            simp only [sl3] at hc0 hc1 hr0 hr1
            have HSN := Lib.hid (show sn ≤ 9223372036854775807 by obtain ⟨_, h1, h2⟩ := hr0; obtain ⟨_, _, e, h3, _⟩ := h2.slice; unfold maxLen at h3; omega)
            have HDN := Lib.hid (show dn ≤ 9223372036854775807 by obtain ⟨_, h1, h2⟩ := hr1; obtain ⟨_, _, e, h3, _⟩ := h2.slice; unfold maxLen at h3; omega)
            have HX0 := Lib.hid hx0; have HX1 := Lib.hid hx1
            obtain ⟨Q, hQ⟩ : ∃ Q, wr.heap.size = Q := ⟨_, rfl⟩
            have hba : Below wr.heap.size wr (wr.alloc (.cells #[.slice sa sn sc, .slice da dn dc] 24)) := (Below.refl _ _).alloc (Nat.le_refl _) _
            have HN := Lib.hid (hn.next hba); have HAW := Lib.hid (haw.next hba)
            have HQ := Lib.hid (show (wr.alloc (.cells #[.slice sa sn sc, .slice da dn dc] 24)).heap[Q]? = some (.cells #[.slice sa sn sc, .slice da dn dc] 24 (0, 0)) by rw [← hQ]; exact World.alloc_heap_new _ _)
            have hkI : (0 : Int) ≤ (k : Int) := by omega
            have hkJ : (k : Int) < 4 := by omega
            clear hn haw hr0 hr1 hx0 hx1 hba hll
            go_upto_region 16 with fail
            refine gen_worldA (fun W => Since V7 W ∧ AllW M W z l ∧ W.heap[Q]? = some (.cells #[.slice sa sn sc, .slice da dn dc] 24 (0, 0))) ⟨HN.out, HAW.out, HQ.out⟩ ?_
            clear HN HAW HQ hc0 hc1 hQ
            rintro W16 ⟨hn, haw, hq⟩
            have HN := Lib.hid hn; have HAW := Lib.hid haw; have HQ := Lib.hid hq
            have hq1 := cell_of_row W16 Q 1 _ _ _ hq
            have hln := HDN.out
            clear hn haw hq
            go_wp2_with fail
            clear hq1 hln
            go_loopw [124] (fun i wr => ∃ j : Nat, j ≤ dn ∧ i = .int .i64 j ∧ Since V7 wr ∧ AllW M wr z l ∧ wr.heap[Q]? = some (.cells #[.slice sa sn sc, .slice da dn dc] 24 (0, 0))) (fun i _ => dn - (intOf i).toNat)
            case atStart => exact ⟨0, by omega, rfl, HN.out, HAW.out, HQ.out⟩
            case round =>
              obtain ⟨j, hj, rfl, hn, haw, hq⟩ := hrel
              clear HN HAW HQ
              by_cases hjl : j < dn
              · obtain ⟨g, x, e, hM, hc, hfr, hty⟩ := RowW.at (show RowW M wr (.slice da dn dc) dn from haw.row _ HX1.out) hjl
                have hne : g ≠ Q := fun e => by obtain ⟨cur, hty⟩ := hty; rw [e, hq] at hty; cases hty
                have HN := Lib.hid (show Since V7 (wr.setCell ⟨g, j, none⟩ (.int .i64 77)) from ⟨hn.b.setCell (by show V7.heap.size ≤ g; have := HMM.out; omega) _⟩)
                have HAW := Lib.hid (haw.set hty j 77)
                have HQ := Lib.hid (show (wr.setCell ⟨g, j, none⟩ (.int .i64 77)).heap[Q]? = _ from block_other hq hne _)
                have hq1 := cell_of_row wr Q 1 _ _ _ hq
                subst e
                have hj0 : (0 : Int) ≤ (j : Int) := by omega
                have hj1 : (j : Int) < (dn : Int) := by omega
                have hln := HDN.out
                clear hn haw hq hty hne hM
                go_wp2_with fail
                go_roundw
                case rel => exact ⟨j + 1, by omega, by go_num, HN.out, HAW.out, HQ.out⟩
                case measure => simp [intOf] <;> omega
              · obtain rfl : dn = j := by omega
                have HN := Lib.hid hn; have HAW := Lib.hid haw; have HQ := Lib.hid hq
                clear hn haw hq hjl hj
                have hq0 := cell_of_row wr Q 0 _ _ _ HQ.out
                have hln := HSN.out
                go_wp2_with fail
                clear hq0 hln
                go_loopw [135] (fun i wr => ∃ j : Nat, j ≤ sn ∧ i = .int .i64 j ∧ Since V7 wr ∧ AllW M wr z l ∧ wr.heap[Q]? = some (.cells #[.slice sa sn sc, .slice da dn dc] 24 (0, 0))) (fun i _ => sn - (intOf i).toNat)
                case atStart => exact ⟨0, by omega, rfl, HN.out, HAW.out, HQ.out⟩
                case round =>
                  obtain ⟨j, hj, rfl, hn, haw, hq⟩ := hrel
                  clear HN HAW HQ
                  by_cases hjl : j < sn
                  · obtain ⟨g, x, e, hM, hc, hfr, hty⟩ := RowW.at (show RowW M wr (.slice sa sn sc) sn from haw.row _ HX0.out) hjl
                    have hne : g ≠ Q := fun e => by obtain ⟨cur, hty⟩ := hty; rw [e, hq] at hty; cases hty
                    have HN := Lib.hid (show Since V7 (wr.setCell ⟨g, j, none⟩ (.int .i64 (-7))) from ⟨hn.b.setCell (by show V7.heap.size ≤ g; have := HMM.out; omega) _⟩)
                    have HAW := Lib.hid (haw.set hty j (-7))
                    have HQ := Lib.hid (show (wr.setCell ⟨g, j, none⟩ (.int .i64 (-7))).heap[Q]? = _ from block_other hq hne _)
                    have hq0 := cell_of_row wr Q 0 _ _ _ hq
                    subst e
                    have hj0 : (0 : Int) ≤ (j : Int) := by omega
                    have hj1 : (j : Int) < (sn : Int) := by omega
                    have hln := HSN.out
                    clear hn haw hq hty hne hM
                    go_wp2_with fail
                    go_roundw
                    case rel => exact ⟨j + 1, by omega, by go_num, HN.out, HAW.out, HQ.out⟩
                    case measure => simp [intOf] <;> omega
                  · obtain rfl : sn = j := by omega
                    have HN := Lib.hid hn; have HAW := Lib.hid haw; have HQ := Lib.hid hq
                    clear hn haw hq hjl hj
                    go_wp2_with fail
                    go_roundw
                    case rel => exact ⟨k + 1, by omega, by go_num, HN.out, HAW.out⟩
                    case measure => simp [intOf] <;> omega
          · obtain rfl : k = 4 := by omega
            have HN := Lib.hid hn
            clear hn haw hlt hk
            have xa := (K0.out.next HN.out.b).c0; have xb := (K0.out.next HN.out.b).c1; have xc := (HO.out.next HN.out.b).c0; have xd := (HO.out.next HN.out.b).c1
            have HQ := Lib.hid (same_is (K0.out.next HN.out.b).sv (K0.out.next HN.out.b).su (HS.out.below (HO.out.next HN.out.b).b) (HD.out.below (HO.out.next HN.out.b).b))
            go_wp2_with fail
            refine HQ.out.mono ?_
            rintro e' Z0 ⟨rfl, hb⟩
            have HN := Lib.hid (HN.out.next hb)
            clear HQ hb xa xb xc xd
            have xa := (K1.out.next HN.out.b).c0; have xb := (K1.out.next HN.out.b).c1; have xc := (HO.out.next HN.out.b).c2; have xd := (HO.out.next HN.out.b).c3
            have HQ := Lib.hid (same_is (K1.out.next HN.out.b).sv (K1.out.next HN.out.b).su (HT.out.below (HO.out.next HN.out.b).b) (HE.out.below (HO.out.next HN.out.b).b))
            go_wp2_with fail
            refine HQ.out.mono ?_
            rintro e' Z1 ⟨rfl, hb⟩
            have HN := Lib.hid (HN.out.next hb)
            clear HQ hb xa xb xc xd
            go_wp2_with fail
            go_ret
            exact ⟨rfl, (HO.out.next HN.out.b).b⟩
set_option maxHeartbeats 8000000 in
theorem PrimRights_biga (w : World) (f : Int) (va vb : Value) (s d : List Int) (vc vd : Value) (t e : List Int) (hs : SlA w va s) (hd : SlA w vb d) (ht : SlA w vc t) (he : SlA w vd e) (h1 : 65536 < d.length) :
    Calls Try.prog 11 #[.int .u16 f, .agg #[va, vb], .agg #[vc, vd]] w fun e w' => e = .returned (.bool true) ∧ Below w.heap.size w w' := by
  have HS := Lib.hid hs; have HD := Lib.hid hd; have HT := Lib.hid ht; have HE := Lib.hid he
  have h1I : (65536 : Int) < (d.length : Int) := by omega
  obtain ⟨a0, c0, rfl, -⟩ := hs
  obtain ⟨a1, c1, rfl, -⟩ := hd
  obtain ⟨a2, c2, rfl, -⟩ := ht
  obtain ⟨a3, c3, rfl, -⟩ := he
  clear h1
  go_enter Try.func11, Try.ntmps11
  go_upto_region 1 with fail
  refine gen_worldA (fun W => BoxB w W (.slice a0 s.length c0) (.slice a1 d.length c1) (.slice a2 t.length c2) (.slice a3 e.length c3)) (BoxB.mk0 _ _ _ _ _) ?_
  rintro W hO
  have HO := Lib.hid hO
  clear hO
  go_wp2_with fail
  refine (shown_any _).mono ?_
  rintro e' V0 ⟨rfl, hb⟩
  have HO := Lib.hid (HO.out.next hb)
  clear hb
  have x0 := HO.out.c0; have x1 := HO.out.c1; have x2 := HO.out.c2; have x3 := HO.out.c3
  go_wp2_with fail
  go_ret
  exact ⟨rfl, HO.out.b⟩
set_option maxHeartbeats 8000000 in
theorem PrimRights_bigb (w : World) (f : Int) (va vb : Value) (s d : List Int) (vc vd : Value) (t e : List Int) (hs : SlA w va s) (hd : SlA w vb d) (ht : SlA w vc t) (he : SlA w vd e) (h1 : ¬ 65536 < d.length) (h2 : 65536 < e.length) :
    Calls Try.prog 11 #[.int .u16 f, .agg #[va, vb], .agg #[vc, vd]] w fun e w' => e = .returned (.bool true) ∧ Below w.heap.size w w' := by
  have HS := Lib.hid hs; have HD := Lib.hid hd; have HT := Lib.hid ht; have HE := Lib.hid he
  have h1I : ¬ (65536 : Int) < (d.length : Int) := by omega
  have h2I : (65536 : Int) < (e.length : Int) := by omega
  obtain ⟨a0, c0, rfl, -⟩ := hs
  obtain ⟨a1, c1, rfl, -⟩ := hd
  obtain ⟨a2, c2, rfl, -⟩ := ht
  obtain ⟨a3, c3, rfl, -⟩ := he
  clear h1 h2
  go_enter Try.func11, Try.ntmps11
  go_upto_region 1 with fail
  refine gen_worldA (fun W => BoxB w W (.slice a0 s.length c0) (.slice a1 d.length c1) (.slice a2 t.length c2) (.slice a3 e.length c3)) (BoxB.mk0 _ _ _ _ _) ?_
  rintro W hO
  have HO := Lib.hid hO
  clear hO
  go_wp2_with fail
  refine (shown_any _).mono ?_
  rintro e' V0 ⟨rfl, hb⟩
  have HO := Lib.hid (HO.out.next hb)
  clear hb
  have x0 := HO.out.c0; have x1 := HO.out.c1; have x2 := HO.out.c2; have x3 := HO.out.c3
  go_wp2_with fail
  go_ret
  exact ⟨rfl, HO.out.b⟩
theorem PrimRights_walk (w : World) (f : Int) (va vb : Value) (s d : List Int) (vc vd : Value) (t e : List Int) (hf : (Lit.int .u16 f).wf = true) (hs : SlA w va s) (hd : SlA w vb d) (h3 : s.length ≤ 17592186043904) (h5 : d.length ≤ 17592186043904) (ht : SlA w vc t) (he : SlA w vd e) (h4 : t.length ≤ 17592186043904) (h6 : e.length ≤ 17592186043904) :
    Calls Try.prog 11 #[.int .u16 f, .agg #[va, vb], .agg #[vc, vd]] w fun e w' => e = .returned (.bool true) ∧ Below w.heap.size w w' := by
  by_cases h1 : 65536 < d.length
  · exact PrimRights_biga w f va vb s d vc vd t e hs hd ht he h1
  by_cases h2 : 65536 < e.length
  · exact PrimRights_bigb w f va vb s d vc vd t e hs hd ht he h1 h2
  exact PrimRights_yes w f va vb s d vc vd t e hs hd ht he (by omega) (by omega) h3 h4

set_option maxRecDepth 100000 in
theorem PrimRights_lifted (os : Os) (started : os.Started) (H : Type) (enc : TypeId × Value → H) :
    ReturnsInHanded {} Try.checked os 11 .any (Rows.primRightsSpec.pre6 enc Try.prog Try.f11 Rows.primRightsRow.domain false) (Rows.primRightsSpec.post enc Try.prog Try.f11 false true false false) := by
  refine returnsInHanded_of_change_sized (C := Try.checked) own started (by kernel_rfl) Try.func11
    (ChangeSpec.witness6 (enc := enc) (C := Try.checked) false ⟨#[], #[.int .u16 0, .agg #[.slice none 0 0, .slice none 0 0], .agg #[.slice none 0 0, .slice none 0 0]], []⟩ 8 (by kernel_rfl) (by kernel_rfl) (by kernel_rfl) (by kernel_rfl)) ?_
  intro W base args ds gs before hval0 hW hcnd hsz _
  have hval : ∀ (j : Nat) t v, Try.f11.params[j]? = some t → args[j]? = some v → Value.okWide Try.prog W .any base t v := hval0
  have hW' := hW
  obtain ⟨p, q, hA0, hV, rfl, hfz, hnd⟩ := hW
  have hA : DataW.TrodAll enc Try.prog W 0 (fun _ => true) true Try.f11.params.toList args.toList ds p := hA0
  rw [Try.params11] at hA hval
  obtain ⟨v0, vs0, d0, ds0, p0, q0, hargs, rfl, rfl, h0, r0⟩ := trodAll_cons hA
  obtain ⟨v1, vs1, d1, ds1, p1, q1, rfl, rfl, rfl, h1, r1⟩ := trodAll_cons r0
  obtain ⟨v2, vs2, d2, ds2, p2, q2, rfl, rfl, rfl, h2, r2⟩ := trodAll_cons r1
  obtain ⟨rfl, rfl, rfl⟩ := trodAll_nil r2
  obtain rfl : args = #[v0, v1, v2] := by cases args; simp_all
  obtain ⟨rfl, rfl⟩ := trodVars_none hV
  obtain ⟨a0, rfl, rfl, rfl, w0⟩ := open_int Try.underlying43 (hval 0 43 v0 rfl rfl) h0
  have k1 := h1
  have lt1 : ∀ x ∈ p1, x.block < W.heap.size := by obtain ⟨m, hm⟩ := k1; exact DataW.trod_lt m _ _ _ hm
  obtain ⟨xs1, ys1, va1, vb1, rfl, s1, u1, hb1⟩ := open_arrS (hval 1 24 v1 rfl rfl) h1
  have bb1 := hb1 (fun n hn => of_decide_eq_true (List.all_eq_true.1 hsz n (DataW.weights_mem_each (j := 1) rfl rfl n hn)))
  have k2 := h2
  have lt2 : ∀ x ∈ p2, x.block < W.heap.size := by obtain ⟨m, hm⟩ := k2; exact DataW.trod_lt m _ _ _ hm
  obtain ⟨xs2, ys2, va2, vb2, rfl, s2, u2, hb2⟩ := open_arrS (hval 2 24 v2 rfl rfl) h2
  have bb2 := hb2 (fun n hn => of_decide_eq_true (List.all_eq_true.1 hsz n (DataW.weights_mem_each (j := 2) rfl rfl n hn)))
  clear hA0 hval0
  refine (PrimRights_walk W a0 va1 vb1 xs1 ys1 va2 vb2 xs2 ys2 w0 s1 u1 bb1.1 bb1.2 s2 u2 bb2.1 bb2.2).mono fun e W' ⟨he, bel⟩ => ?_
  subst he
  exact ⟨_, rfl, _, _, _, [], _, [], hW', trodAll_mk1 (shut_bool Try.underlying4 _), (trodAll_cons_mk (shut_int Try.underlying43 w0) (trodAll_cons_mk (Below.trod laidOut (by kernel_rfl) (of_decide_eq_true (by kernel_rfl)) k1 bel lt1) (trodAll_cons_mk (Below.trod laidOut (by kernel_rfl) (of_decide_eq_true (by kernel_rfl)) k2 bel lt2) trodAll_mk0))), rfl, bel.frame _, fun h => by cases h⟩

/-- The given statement. -/
theorem PrimRights_holds : Rows.PrimRightsSaid :=
  OpenClaim.holds_of_wide 11 Try.f11 rfl rfl rfl rfl rfl rfl rfl ⟨rfl, rfl, rfl, rfl, rfl⟩ rfl rfl rfl rfl rfl (by kernel_rfl) Try.func11 (by kernel_rfl)
    (of_decide_eq_true (by kernel_rfl)) (by unfold Func.isWrapper; rw [if_neg (by decide +kernel)]; exact ⟨rfl, rfl⟩)
    (fun os started H enc _ => PrimRights_lifted os started H enc)
#print axioms PrimRights_holds
end Go.Proofs.Ytmjkncmpanhgjaa
