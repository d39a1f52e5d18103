import Derived.Test.YtmlfeocdcjhhaaaPE19
import Derived.Test.YtmlfeocdcjhhaaaPE16
import Derived.Test.YtmlfeocdcjhhaaaPE20
import Derived.Test.YtmlfeocdcjhhaaaPE17
namespace Go.Proofs.Ytmlfeocdcjhhaaa
set_option maxRecDepth 100000
open Go.RowKit
set_option linter.unusedVariables false
set_option linter.unusedSimpArgs false
attribute [local go_sem ↓] Go.wp_at_zero Go.wp_at_succ

/-! windrowref13.dyad. -/

set_option maxHeartbeats 4000000 in
theorem rdyad13_3nook (w : World) (B : Nat) (hB : B ≤ w.heap.size) (a a2 : Option Addr) (c c2 : Nat) (x y : List Cop) (hx : CopS B w (.slice a x.length c) x) (hy : CopS B w (.slice a2 y.length c2) y) (hl : x.length + y.length + 1 ≤ 2513169434843) (o : Cop) (pa : Option Addr) (pc : Nat) (hp : MonS B w (.slice pa o.p.length pc) o.p) (ho : OkO o) (hf : o.fn = 3) (g1 : onlyC x 1 = false) (g2 : onlyC y 1 = false) (g3 : onlyC x 0 = false) (g5 : onlyC y 0 = true) (g6 : harmC x = true) (h2 : twoC o.fn x y = none) :
    Calls Try.prog 63 #[.slice a x.length c, .slice a2 y.length c2, opV o pa pc] w (RetC B w (dyadC x y o)) := by
  rw [dyadC_z h2 (by unfold ruleY; rw [hf]; simp [*]) (by unfold ruleX; rw [hf]; simp [*]) (by unfold ruleZ; rw [hf]; simp [*])]
  have H2 := Lib.hid h2
  have HF := Lib.hid hf
  clear h2 hf
  obtain ⟨k1, hk1⟩ : ∃ k, knownC x = k := ⟨_, rfl⟩
  obtain ⟨k2, hk2⟩ : ∃ k, knownC y = k := ⟨_, rfl⟩
  have HKX := Lib.hid hk1; have HKY := Lib.hid hk2
  have hi1 := fun n (h : k1 = some n) => known_in hx (hk1.trans h); have hi2 := fun n (h : k2 = some n) => known_in hy (hk2.trans h)
  have HI1 := Lib.hid hi1; have HI2 := Lib.hid hi2
  clear hi1 hi2 hk1 hk2
  obtain ⟨b1, hb1⟩ : ∃ b, k1.isSome = b := ⟨_, rfl⟩
  obtain ⟨b2, hb2⟩ : ∃ b, k2.isSome = b := ⟨_, rfl⟩
  have HB1 := Lib.hid hb1; have HB2 := Lib.hid hb2
  clear hb1 hb2
  have HX := Lib.hid hx; have HY := Lib.hid hy; have HP := Lib.hid hp; have OKO := Lib.hid ho; have HB0 := Lib.hid hB; have HLL := Lib.hid hl
  have HO := Lib.hid (OpBox.new w o (.slice pa o.p.length pc))
  have hmx := hx.le; have hmy := hy.le
  unfold opV
  clear hx hy hp ho hB hl
  go_enter Try.func63, Try.ntmps63
  go_upto_region 1 with fail
  refine gen_worldA (fun W => OpBox w W w.heap.size o (.slice pa o.p.length pc)) HO.out ?_
  rintro W hO
  have HO := Lib.hid hO
  clear hO
  have HQ := Lib.hid (rnumber_any W a c x (HX.out.below HO.out.b).els hmx)
  rw [HKX.out, HB1.out] at HQ
  go_wp2_with fail
  refine HQ.out.mono ?_
  rintro e W1 ⟨rfl, hb⟩
  have HO := Lib.hid (HO.out.next hb)
  clear hb HQ
  have HQ := Lib.hid (rnumber_any W1 a2 c2 y (HY.out.below HO.out.b).els hmy)
  rw [HKY.out, HB2.out] at HQ
  go_wp2_with fail
  refine HQ.out.mono ?_
  rintro e W2 ⟨rfl, hb⟩
  have HO := Lib.hid (HO.out.next hb)
  clear hb HQ
  have x4 := HO.out.c4
  obtain ⟨m, e0, hd⟩ : ∃ m e0, dyadF o.fn (k1.getD 0) (k2.getD 0) = (m, e0) := ⟨_, _, rfl⟩
  have hi1 : In64 (k1.getD 0) := by cases k1 with | none => (unfold In64; decide) | some p => exact HI1.out p rfl
  have hi2 : In64 (k2.getD 0) := by cases k2 with | none => (unfold In64; decide) | some p => exact HI2.out p rfl
  have HQ := Lib.hid (rdyad_at W2 o.fn (k1.getD 0) (k2.getD 0) m e0 hi1 hi2 hd)
  have htt : (k1.isSome && (k2.isSome && (e0 == 0))) = false := by
    have h2 := H2.out
    unfold twoC at h2
    rw [HKX.out, HKY.out] at h2
    cases k1 with
    | none => rfl
    | some p =>
      cases k2 with
      | none => rfl
      | some q =>
        dsimp only at h2
        rw [show dyadF o.fn p q = (m, e0) from hd] at h2
        show (e0 == 0) = false
        rw [beq_eq_false_iff_ne]
        intro h
        rw [if_pos h] at h2
        cases h2
  have HTT := Lib.hid htt
  clear hd hi1 hi2 htt
  go_wp2_with fail
  refine HQ.out.mono ?_
  rintro e W3 ⟨rfl, nd, rfl⟩
  have HO := Lib.hid (HO.out.next (Below.drewN W2 nd))
  clear HQ x4
  obtain ⟨W4, hW4⟩ : ∃ W, W2.drewN nd = W := ⟨_, rfl⟩
  rw [hW4] at HO ⊢
  clear hW4
  go_upto_region 4 with fail
  go_cut [38] (fun s38 wx => s38 = .bool false ∧ OpBox w wx w.heap.size o (.slice pa o.p.length pc))
  case first =>
    obtain ⟨b3, hb3⟩ : ∃ b, (e0 == 0) = b := ⟨_, rfl⟩
    have htt := HTT.out
    rw [HB1.out, HB2.out, hb3] at htt
    cases b1 with
    | false => (clear htt hb3); (go_wp2_with fail); (go_meet); (exact ⟨rfl, HO.out⟩)
    | true =>
      cases b2 with
      | false => (clear htt hb3); (go_wp2_with fail); (go_meet); (exact ⟨rfl, HO.out⟩)
      | true =>
        cases b3 with
        | false => (clear htt); (go_wp2_with fail); (go_meet); (exact ⟨rfl, HO.out⟩)
        | true => cases htt
  case rest =>
    obtain ⟨rfl, hcut⟩ := hcut
    clear HO
    have HO := Lib.hid hcut
    clear hcut
    have x4 := HO.out.c4
    rw [HF.out] at x4
    have HG1 := Lib.hid g1; have HG2 := Lib.hid g2; have HG3 := Lib.hid g3; have HG5 := Lib.hid g5; have HG6 := Lib.hid g6
    have HN := Lib.hid (fun W => rlist_any W B 0 (by unfold I64; omega))
    clear g1 g2 g3 g5 g6
    have hq := ris_any wc a c x 1 (HX.out.below HO.out.b).els hmx
    rw [HG1.out] at hq
    have HQ := Lib.hid hq
    clear hq
    go_wp2_with fail
    refine HQ.out.mono ?_
    rintro e U1 ⟨rfl, hb⟩
    have HO := Lib.hid (HO.out.next hb)
    clear hb HQ
    have hq := ris_any U1 a2 c2 y 1 (HY.out.below HO.out.b).els hmy
    rw [HG2.out] at hq
    have HQ := Lib.hid hq
    clear hq
    go_wp2_with fail
    refine HQ.out.mono ?_
    rintro e U2 ⟨rfl, hb⟩
    have HO := Lib.hid (HO.out.next hb)
    clear hb HQ
    have hq := ris_any U2 a c x 0 (HX.out.below HO.out.b).els hmx
    rw [HG3.out] at hq
    have HQ := Lib.hid hq
    clear hq
    go_wp2_with fail
    refine HQ.out.mono ?_
    rintro e U3 ⟨rfl, hb⟩
    have HO := Lib.hid (HO.out.next hb)
    clear hb HQ
    have hq := ris_any U3 a2 c2 y 0 (HY.out.below HO.out.b).els hmy
    rw [HG5.out] at hq
    have HQ := Lib.hid hq
    clear hq
    go_wp2_with fail
    refine HQ.out.mono ?_
    rintro e U5 ⟨rfl, hb⟩
    have HO := Lib.hid (HO.out.next hb)
    clear hb HQ
    have hq := rharmless_any U5 a c x (HX.out.below HO.out.b).els hmx
    rw [HG6.out] at hq
    have HQ := Lib.hid hq
    clear hq
    go_wp2_with fail
    refine HQ.out.mono ?_
    rintro e U6 ⟨rfl, hb⟩
    have HO := Lib.hid (HO.out.next hb)
    clear hb HQ
    have HQ := Lib.hid (HN.out U6)
    go_wp2_with fail
    refine HQ.out.mono ?_
    rintro e w2 ⟨⟨v2, rfl, hv2⟩, hb2⟩
    go_wp2_with fail
    go_ret
    exact ⟨⟨_, rfl, hv2⟩, bNext hb2 HO.out.b⟩
set_option maxHeartbeats 4000000 in
theorem rdyad13_3harmsno (w : World) (B : Nat) (hB : B ≤ w.heap.size) (a a2 : Option Addr) (c c2 : Nat) (x y : List Cop) (hx : CopS B w (.slice a x.length c) x) (hy : CopS B w (.slice a2 y.length c2) y) (hl : x.length + y.length + 1 ≤ 2513169434843) (o : Cop) (pa : Option Addr) (pc : Nat) (hp : MonS B w (.slice pa o.p.length pc) o.p) (ho : OkO o) (hf : o.fn = 3) (g1 : onlyC x 1 = false) (g2 : onlyC y 1 = false) (g3 : onlyC x 0 = true) (g4 : harmC y = false) (g5 : onlyC y 0 = false) (h2 : twoC o.fn x y = none) :
    Calls Try.prog 63 #[.slice a x.length c, .slice a2 y.length c2, opV o pa pc] w (RetC B w (dyadC x y o)) := by
  rw [dyadC_j h2 (by unfold ruleY; rw [hf]; simp [*]) (by unfold ruleX; rw [hf]; simp [*]) (by unfold ruleZ; rw [hf]; simp [*])]
  have H2 := Lib.hid h2
  have HF := Lib.hid hf
  clear h2 hf
  obtain ⟨k1, hk1⟩ : ∃ k, knownC x = k := ⟨_, rfl⟩
  obtain ⟨k2, hk2⟩ : ∃ k, knownC y = k := ⟨_, rfl⟩
  have HKX := Lib.hid hk1; have HKY := Lib.hid hk2
  have hi1 := fun n (h : k1 = some n) => known_in hx (hk1.trans h); have hi2 := fun n (h : k2 = some n) => known_in hy (hk2.trans h)
  have HI1 := Lib.hid hi1; have HI2 := Lib.hid hi2
  clear hi1 hi2 hk1 hk2
  obtain ⟨b1, hb1⟩ : ∃ b, k1.isSome = b := ⟨_, rfl⟩
  obtain ⟨b2, hb2⟩ : ∃ b, k2.isSome = b := ⟨_, rfl⟩
  have HB1 := Lib.hid hb1; have HB2 := Lib.hid hb2
  clear hb1 hb2
  have HX := Lib.hid hx; have HY := Lib.hid hy; have HP := Lib.hid hp; have OKO := Lib.hid ho; have HB0 := Lib.hid hB; have HLL := Lib.hid hl
  have HO := Lib.hid (OpBox.new w o (.slice pa o.p.length pc))
  have hmx := hx.le; have hmy := hy.le
  unfold opV
  clear hx hy hp ho hB hl
  go_enter Try.func63, Try.ntmps63
  go_upto_region 1 with fail
  refine gen_worldA (fun W => OpBox w W w.heap.size o (.slice pa o.p.length pc)) HO.out ?_
  rintro W hO
  have HO := Lib.hid hO
  clear hO
  have HQ := Lib.hid (rnumber_any W a c x (HX.out.below HO.out.b).els hmx)
  rw [HKX.out, HB1.out] at HQ
  go_wp2_with fail
  refine HQ.out.mono ?_
  rintro e W1 ⟨rfl, hb⟩
  have HO := Lib.hid (HO.out.next hb)
  clear hb HQ
  have HQ := Lib.hid (rnumber_any W1 a2 c2 y (HY.out.below HO.out.b).els hmy)
  rw [HKY.out, HB2.out] at HQ
  go_wp2_with fail
  refine HQ.out.mono ?_
  rintro e W2 ⟨rfl, hb⟩
  have HO := Lib.hid (HO.out.next hb)
  clear hb HQ
  have x4 := HO.out.c4
  obtain ⟨m, e0, hd⟩ : ∃ m e0, dyadF o.fn (k1.getD 0) (k2.getD 0) = (m, e0) := ⟨_, _, rfl⟩
  have hi1 : In64 (k1.getD 0) := by cases k1 with | none => (unfold In64; decide) | some p => exact HI1.out p rfl
  have hi2 : In64 (k2.getD 0) := by cases k2 with | none => (unfold In64; decide) | some p => exact HI2.out p rfl
  have HQ := Lib.hid (rdyad_at W2 o.fn (k1.getD 0) (k2.getD 0) m e0 hi1 hi2 hd)
  have htt : (k1.isSome && (k2.isSome && (e0 == 0))) = false := by
    have h2 := H2.out
    unfold twoC at h2
    rw [HKX.out, HKY.out] at h2
    cases k1 with
    | none => rfl
    | some p =>
      cases k2 with
      | none => rfl
      | some q =>
        dsimp only at h2
        rw [show dyadF o.fn p q = (m, e0) from hd] at h2
        show (e0 == 0) = false
        rw [beq_eq_false_iff_ne]
        intro h
        rw [if_pos h] at h2
        cases h2
  have HTT := Lib.hid htt
  clear hd hi1 hi2 htt
  go_wp2_with fail
  refine HQ.out.mono ?_
  rintro e W3 ⟨rfl, nd, rfl⟩
  have HO := Lib.hid (HO.out.next (Below.drewN W2 nd))
  clear HQ x4
  obtain ⟨W4, hW4⟩ : ∃ W, W2.drewN nd = W := ⟨_, rfl⟩
  rw [hW4] at HO ⊢
  clear hW4
  go_upto_region 4 with fail
  go_cut [38] (fun s38 wx => s38 = .bool false ∧ OpBox w wx w.heap.size o (.slice pa o.p.length pc))
  case first =>
    obtain ⟨b3, hb3⟩ : ∃ b, (e0 == 0) = b := ⟨_, rfl⟩
    have htt := HTT.out
    rw [HB1.out, HB2.out, hb3] at htt
    cases b1 with
    | false => (clear htt hb3); (go_wp2_with fail); (go_meet); (exact ⟨rfl, HO.out⟩)
    | true =>
      cases b2 with
      | false => (clear htt hb3); (go_wp2_with fail); (go_meet); (exact ⟨rfl, HO.out⟩)
      | true =>
        cases b3 with
        | false => (clear htt); (go_wp2_with fail); (go_meet); (exact ⟨rfl, HO.out⟩)
        | true => cases htt
  case rest =>
    obtain ⟨rfl, hcut⟩ := hcut
    clear HO
    have HO := Lib.hid hcut
    clear hcut
    have x4 := HO.out.c4
    rw [HF.out] at x4
    have HG1 := Lib.hid g1; have HG2 := Lib.hid g2; have HG3 := Lib.hid g3; have HG4 := Lib.hid g4; have HG5 := Lib.hid g5
    clear g1 g2 g3 g4 g5
    have hq := ris_any wc a c x 1 (HX.out.below HO.out.b).els hmx
    rw [HG1.out] at hq
    have HQ := Lib.hid hq
    clear hq
    go_wp2_with fail
    refine HQ.out.mono ?_
    rintro e U1 ⟨rfl, hb⟩
    have HO := Lib.hid (HO.out.next hb)
    clear hb HQ
    have hq := ris_any U1 a2 c2 y 1 (HY.out.below HO.out.b).els hmy
    rw [HG2.out] at hq
    have HQ := Lib.hid hq
    clear hq
    go_wp2_with fail
    refine HQ.out.mono ?_
    rintro e U2 ⟨rfl, hb⟩
    have HO := Lib.hid (HO.out.next hb)
    clear hb HQ
    have hq := ris_any U2 a c x 0 (HX.out.below HO.out.b).els hmx
    rw [HG3.out] at hq
    have HQ := Lib.hid hq
    clear hq
    go_wp2_with fail
    refine HQ.out.mono ?_
    rintro e U3 ⟨rfl, hb⟩
    have HO := Lib.hid (HO.out.next hb)
    clear hb HQ
    have hq := rharmless_any U3 a2 c2 y (HY.out.below HO.out.b).els hmy
    rw [HG4.out] at hq
    have HQ := Lib.hid hq
    clear hq
    go_wp2_with fail
    refine HQ.out.mono ?_
    rintro e U4 ⟨rfl, hb⟩
    have HO := Lib.hid (HO.out.next hb)
    clear hb HQ
    have hq := ris_any U4 a2 c2 y 0 (HY.out.below HO.out.b).els hmy
    rw [HG5.out] at hq
    have HQ := Lib.hid hq
    clear hq
    go_wp2_with fail
    refine HQ.out.mono ?_
    rintro e U5 ⟨rfl, hb⟩
    have HO := Lib.hid (HO.out.next hb)
    clear hb HQ
    go_upto_region 26 with fail
    refine wp_region_Z (S := fun W' => W'.cell? ⟨w.heap.size, 0, none⟩ = some (.int .i64 o.how) ∧ W'.cell? ⟨w.heap.size, 1, none⟩ = some (.int .i64 o.k) ∧ W'.cell? ⟨w.heap.size, 2, none⟩ = some (.int .i64 o.n) ∧ W'.cell? ⟨w.heap.size, 3, none⟩ = some (.slice pa o.p.length pc) ∧ W'.cell? ⟨w.heap.size, 4, none⟩ = some (.int .u8 o.fn)) (z := 7) (by kernel_rfl) ?_
    have HO := Lib.hid (HO.out.next (show Below U5.heap.size U5 U5.drew from (Below.refl _ _).drew))
    generalize U5.drew = Y at HO ⊢
    have hSS : (fun W' : World => W'.cell? ⟨w.heap.size, 0, none⟩ = some (.int .i64 o.how) ∧ W'.cell? ⟨w.heap.size, 1, none⟩ = some (.int .i64 o.k) ∧ W'.cell? ⟨w.heap.size, 2, none⟩ = some (.int .i64 o.n) ∧ W'.cell? ⟨w.heap.size, 3, none⟩ = some (.slice pa o.p.length pc) ∧ W'.cell? ⟨w.heap.size, 4, none⟩ = some (.int .u8 o.fn)) Y := ⟨HO.out.c0, HO.out.c1, HO.out.c2, HO.out.c3, HO.out.c4⟩
    refine wpAnyZ_take (i := 1) (v := ?_) rfl (by kernel_rfl) (by kernel_rfl) (by kernel_rfl) (fun _ _ _ h => h) (by kernel_rfl) (Or.inl ⟨by rfl, ?_⟩) (by assumption) ?_
    rotate_left
    · intro w' hSw
      try dsimp only at hSw
      try obtain ⟨hSw, hSw2⟩ := hSw
      go_simp
      try with_reducible rfl
    show wpAnyZ _ _ _ _ _ _ _ _ (Act.put _ (some 86) _) _
    simp only [Act.put, List.setIfInBounds_toArray, List.set_cons_zero, List.set_cons_succ]
    refine wpAnyZ_take (i := 3) (v := ?_) rfl (by kernel_rfl) (by kernel_rfl) (by kernel_rfl) (fun _ _ _ h => h) (by kernel_rfl) (Or.inl ⟨by rfl, ?_⟩) (by assumption) ?_
    rotate_left
    · intro w' hSw
      try dsimp only at hSw
      try obtain ⟨hSw, hSw2⟩ := hSw
      go_simp
      try with_reducible rfl
    show wpAnyZ _ _ _ _ _ _ _ _ (Act.put _ (some 88) _) _
    simp only [Act.put, List.setIfInBounds_toArray, List.set_cons_zero, List.set_cons_succ]
    refine wpAnyZ_take (i := 5) (v := ?_) rfl (by kernel_rfl) (by kernel_rfl) (by kernel_rfl) (fun _ _ _ h => h) (by kernel_rfl) (Or.inl ⟨by rfl, ?_⟩) (by assumption) ?_
    rotate_left
    · intro w' hSw
      try dsimp only at hSw
      try obtain ⟨hSw, hSw2⟩ := hSw
      go_simp
      try with_reducible rfl
    show wpAnyZ _ _ _ _ _ _ _ _ (Act.put _ (some 90) _) _
    simp only [Act.put, List.setIfInBounds_toArray, List.set_cons_zero, List.set_cons_succ]
    clear hSS
    obtain ⟨M, hM⟩ : ∃ M, Y.heap.size = M := ⟨_, rfl⟩
    have HMM := Lib.hid hM
    have HB := Lib.hid (show Below M Y Y from Below.refl _ _)
    have HBM := Lib.hid (show B ≤ M by rw [← hM]; exact Nat.le_trans HB0.out HO.out.b.size)
    clear hM
    refine wpAnyZ_one (i := 0) (by kernel_rfl) rfl rfl (fun K hK => ?_)
    go_simp
    obtain ⟨g0, hg0⟩ : ∃ b, Y.heap.size = b := ⟨_, rfl⟩
    have E0 := Lib.hid (RowC.new (B := B) (M := M) (by have := HB.out.size; have h2 := HMM.out; omega) hg0)
    have HB := Lib.hid (HB.out.alloc (by have := HB.out.size; have h2 := HMM.out; omega) (.cells #[] 44))
    rw [hg0]
    refine hK.out _ _ (.inr (by have h := HO.out.next (HMM.out ▸ HB.out); exact ⟨h.c0, h.c1, h.c2, h.c3, h.c4⟩)) ?_
    clear hK hg0
    generalize Y.alloc (.cells #[] 44) = Y1 at *
    refine wpAnyZ_one (i := 2) (by kernel_rfl) rfl rfl (fun K hK => ?_)
    refine wp_appC (.tmp 85) (.tmp 86) rfl B M (.slice (some ⟨g0, 0, none⟩) 0 0) [] x (.slice a x.length c) rfl E0.out rfl (HX.out.below (bNext (HMM.out ▸ HB.out) HO.out.b)) (by have := HLL.out; simp; omega) HBM.out (by have := HB.out.size; have h2 := HMM.out; omega) ?_
    intro v2 Y2 hr hb hg
    have R2 := Lib.hid (show RowC B M _ v2 x from hr)
    have HB := Lib.hid (HB.out.trans hb)
    refine hK.out _ _ (.inr (by have h := HO.out.next (HMM.out ▸ HB.out); exact ⟨h.c0, h.c1, h.c2, h.c3, h.c4⟩)) ?_
    clear hK hr hb hg E0
    refine wpAnyZ_one (i := 4) (by kernel_rfl) rfl rfl (fun K hK => ?_)
    refine wp_appC (.tmp 87) (.tmp 88) rfl B M v2 x y (.slice a2 y.length c2) rfl R2.out rfl (HY.out.below (bNext (HMM.out ▸ HB.out) HO.out.b)) (by have := HLL.out; omega) HBM.out (by have := HB.out.size; have h2 := HMM.out; omega) ?_
    intro v3 Y3 hr hb hg
    have R3 := Lib.hid hr.cop
    have HB := Lib.hid (HB.out.trans hb)
    refine hK.out _ _ (.inr (by have h := HO.out.next (HMM.out ▸ HB.out); exact ⟨h.c0, h.c1, h.c2, h.c3, h.c4⟩)) ?_
    clear hK hr hb hg R2
    obtain ⟨a3, c3, rfl, -, -⟩ := R3.out.form
    have HO3 := Lib.hid (HO.out.next (HMM.out ▸ HB.out))
    have hq := behind_any Y3 B (Nat.le_trans HB0.out HO3.out.b.size) a3 c3 (x ++ y) R3.out (by have := HLL.out; rw [List.length_append]; omega) o pa pc (HP.out.below HO3.out.b) OKO.out
    unfold opV at hq
    refine wpAnyZ_one (i := 6) (by kernel_rfl) rfl rfl (fun K hK => ?_)
    go_simp
    first | refine hq.mono ?_ | (rw [List.length_append] at hq; refine hq.mono ?_)
    rintro e' Y4 ⟨⟨v4, rfl, hv4⟩, hb4⟩
    have HO4 := HO3.out.next hb4
    show K _ Y4
    refine hK.out _ _ (.inr ⟨HO4.c0, HO4.c1, HO4.c2, HO4.c3, HO4.c4⟩) ?_
    clear hK
    refine wpAnyZ_one (i := 7) (by kernel_rfl) rfl rfl (fun K hK => ?_)
    go_simp
    refine hK.out _ _ (.inl (by omega)) ?_
    clear hK
    refine wpAnyZ_done (by kernel_rfl) ?_ _
    go_wp2_with fail
    go_ret
    exact ⟨⟨_, rfl, hv4⟩, HO4.b⟩
set_option maxHeartbeats 4000000 in
theorem rdyad13_3harmsharms (w : World) (B : Nat) (hB : B ≤ w.heap.size) (a a2 : Option Addr) (c c2 : Nat) (x y : List Cop) (hx : CopS B w (.slice a x.length c) x) (hy : CopS B w (.slice a2 y.length c2) y) (hl : x.length + y.length + 1 ≤ 2513169434843) (o : Cop) (pa : Option Addr) (pc : Nat) (hp : MonS B w (.slice pa o.p.length pc) o.p) (ho : OkO o) (hf : o.fn = 3) (g1 : onlyC x 1 = false) (g2 : onlyC y 1 = false) (g3 : onlyC x 0 = true) (g4 : harmC y = false) (g5 : onlyC y 0 = true) (g6 : harmC x = false) (h2 : twoC o.fn x y = none) :
    Calls Try.prog 63 #[.slice a x.length c, .slice a2 y.length c2, opV o pa pc] w (RetC B w (dyadC x y o)) := by
  rw [dyadC_j h2 (by unfold ruleY; rw [hf]; simp [*]) (by unfold ruleX; rw [hf]; simp [*]) (by unfold ruleZ; rw [hf]; simp [*])]
  have H2 := Lib.hid h2
  have HF := Lib.hid hf
  clear h2 hf
  obtain ⟨k1, hk1⟩ : ∃ k, knownC x = k := ⟨_, rfl⟩
  obtain ⟨k2, hk2⟩ : ∃ k, knownC y = k := ⟨_, rfl⟩
  have HKX := Lib.hid hk1; have HKY := Lib.hid hk2
  have hi1 := fun n (h : k1 = some n) => known_in hx (hk1.trans h); have hi2 := fun n (h : k2 = some n) => known_in hy (hk2.trans h)
  have HI1 := Lib.hid hi1; have HI2 := Lib.hid hi2
  clear hi1 hi2 hk1 hk2
  obtain ⟨b1, hb1⟩ : ∃ b, k1.isSome = b := ⟨_, rfl⟩
  obtain ⟨b2, hb2⟩ : ∃ b, k2.isSome = b := ⟨_, rfl⟩
  have HB1 := Lib.hid hb1; have HB2 := Lib.hid hb2
  clear hb1 hb2
  have HX := Lib.hid hx; have HY := Lib.hid hy; have HP := Lib.hid hp; have OKO := Lib.hid ho; have HB0 := Lib.hid hB; have HLL := Lib.hid hl
  have HO := Lib.hid (OpBox.new w o (.slice pa o.p.length pc))
  have hmx := hx.le; have hmy := hy.le
  unfold opV
  clear hx hy hp ho hB hl
  go_enter Try.func63, Try.ntmps63
  go_upto_region 1 with fail
  refine gen_worldA (fun W => OpBox w W w.heap.size o (.slice pa o.p.length pc)) HO.out ?_
  rintro W hO
  have HO := Lib.hid hO
  clear hO
  have HQ := Lib.hid (rnumber_any W a c x (HX.out.below HO.out.b).els hmx)
  rw [HKX.out, HB1.out] at HQ
  go_wp2_with fail
  refine HQ.out.mono ?_
  rintro e W1 ⟨rfl, hb⟩
  have HO := Lib.hid (HO.out.next hb)
  clear hb HQ
  have HQ := Lib.hid (rnumber_any W1 a2 c2 y (HY.out.below HO.out.b).els hmy)
  rw [HKY.out, HB2.out] at HQ
  go_wp2_with fail
  refine HQ.out.mono ?_
  rintro e W2 ⟨rfl, hb⟩
  have HO := Lib.hid (HO.out.next hb)
  clear hb HQ
  have x4 := HO.out.c4
  obtain ⟨m, e0, hd⟩ : ∃ m e0, dyadF o.fn (k1.getD 0) (k2.getD 0) = (m, e0) := ⟨_, _, rfl⟩
  have hi1 : In64 (k1.getD 0) := by cases k1 with | none => (unfold In64; decide) | some p => exact HI1.out p rfl
  have hi2 : In64 (k2.getD 0) := by cases k2 with | none => (unfold In64; decide) | some p => exact HI2.out p rfl
  have HQ := Lib.hid (rdyad_at W2 o.fn (k1.getD 0) (k2.getD 0) m e0 hi1 hi2 hd)
  have htt : (k1.isSome && (k2.isSome && (e0 == 0))) = false := by
    have h2 := H2.out
    unfold twoC at h2
    rw [HKX.out, HKY.out] at h2
    cases k1 with
    | none => rfl
    | some p =>
      cases k2 with
      | none => rfl
      | some q =>
        dsimp only at h2
        rw [show dyadF o.fn p q = (m, e0) from hd] at h2
        show (e0 == 0) = false
        rw [beq_eq_false_iff_ne]
        intro h
        rw [if_pos h] at h2
        cases h2
  have HTT := Lib.hid htt
  clear hd hi1 hi2 htt
  go_wp2_with fail
  refine HQ.out.mono ?_
  rintro e W3 ⟨rfl, nd, rfl⟩
  have HO := Lib.hid (HO.out.next (Below.drewN W2 nd))
  clear HQ x4
  obtain ⟨W4, hW4⟩ : ∃ W, W2.drewN nd = W := ⟨_, rfl⟩
  rw [hW4] at HO ⊢
  clear hW4
  go_upto_region 4 with fail
  go_cut [38] (fun s38 wx => s38 = .bool false ∧ OpBox w wx w.heap.size o (.slice pa o.p.length pc))
  case first =>
    obtain ⟨b3, hb3⟩ : ∃ b, (e0 == 0) = b := ⟨_, rfl⟩
    have htt := HTT.out
    rw [HB1.out, HB2.out, hb3] at htt
    cases b1 with
    | false => (clear htt hb3); (go_wp2_with fail); (go_meet); (exact ⟨rfl, HO.out⟩)
    | true =>
      cases b2 with
      | false => (clear htt hb3); (go_wp2_with fail); (go_meet); (exact ⟨rfl, HO.out⟩)
      | true =>
        cases b3 with
        | false => (clear htt); (go_wp2_with fail); (go_meet); (exact ⟨rfl, HO.out⟩)
        | true => cases htt
  case rest =>
    obtain ⟨rfl, hcut⟩ := hcut
    clear HO
    have HO := Lib.hid hcut
    clear hcut
    have x4 := HO.out.c4
    rw [HF.out] at x4
    have HG1 := Lib.hid g1; have HG2 := Lib.hid g2; have HG3 := Lib.hid g3; have HG4 := Lib.hid g4; have HG5 := Lib.hid g5; have HG6 := Lib.hid g6
    clear g1 g2 g3 g4 g5 g6
    have hq := ris_any wc a c x 1 (HX.out.below HO.out.b).els hmx
    rw [HG1.out] at hq
    have HQ := Lib.hid hq
    clear hq
    go_wp2_with fail
    refine HQ.out.mono ?_
    rintro e U1 ⟨rfl, hb⟩
    have HO := Lib.hid (HO.out.next hb)
    clear hb HQ
    have hq := ris_any U1 a2 c2 y 1 (HY.out.below HO.out.b).els hmy
    rw [HG2.out] at hq
    have HQ := Lib.hid hq
    clear hq
    go_wp2_with fail
    refine HQ.out.mono ?_
    rintro e U2 ⟨rfl, hb⟩
    have HO := Lib.hid (HO.out.next hb)
    clear hb HQ
    have hq := ris_any U2 a c x 0 (HX.out.below HO.out.b).els hmx
    rw [HG3.out] at hq
    have HQ := Lib.hid hq
    clear hq
    go_wp2_with fail
    refine HQ.out.mono ?_
    rintro e U3 ⟨rfl, hb⟩
    have HO := Lib.hid (HO.out.next hb)
    clear hb HQ
    have hq := rharmless_any U3 a2 c2 y (HY.out.below HO.out.b).els hmy
    rw [HG4.out] at hq
    have HQ := Lib.hid hq
    clear hq
    go_wp2_with fail
    refine HQ.out.mono ?_
    rintro e U4 ⟨rfl, hb⟩
    have HO := Lib.hid (HO.out.next hb)
    clear hb HQ
    have hq := ris_any U4 a2 c2 y 0 (HY.out.below HO.out.b).els hmy
    rw [HG5.out] at hq
    have HQ := Lib.hid hq
    clear hq
    go_wp2_with fail
    refine HQ.out.mono ?_
    rintro e U5 ⟨rfl, hb⟩
    have HO := Lib.hid (HO.out.next hb)
    clear hb HQ
    have hq := rharmless_any U5 a c x (HX.out.below HO.out.b).els hmx
    rw [HG6.out] at hq
    have HQ := Lib.hid hq
    clear hq
    go_wp2_with fail
    refine HQ.out.mono ?_
    rintro e U6 ⟨rfl, hb⟩
    have HO := Lib.hid (HO.out.next hb)
    clear hb HQ
    go_upto_region 26 with fail
    refine wp_region_Z (S := fun W' => W'.cell? ⟨w.heap.size, 0, none⟩ = some (.int .i64 o.how) ∧ W'.cell? ⟨w.heap.size, 1, none⟩ = some (.int .i64 o.k) ∧ W'.cell? ⟨w.heap.size, 2, none⟩ = some (.int .i64 o.n) ∧ W'.cell? ⟨w.heap.size, 3, none⟩ = some (.slice pa o.p.length pc) ∧ W'.cell? ⟨w.heap.size, 4, none⟩ = some (.int .u8 o.fn)) (z := 7) (by kernel_rfl) ?_
    have HO := Lib.hid (HO.out.next (show Below U6.heap.size U6 U6.drew from (Below.refl _ _).drew))
    generalize U6.drew = Y at HO ⊢
    have hSS : (fun W' : World => W'.cell? ⟨w.heap.size, 0, none⟩ = some (.int .i64 o.how) ∧ W'.cell? ⟨w.heap.size, 1, none⟩ = some (.int .i64 o.k) ∧ W'.cell? ⟨w.heap.size, 2, none⟩ = some (.int .i64 o.n) ∧ W'.cell? ⟨w.heap.size, 3, none⟩ = some (.slice pa o.p.length pc) ∧ W'.cell? ⟨w.heap.size, 4, none⟩ = some (.int .u8 o.fn)) Y := ⟨HO.out.c0, HO.out.c1, HO.out.c2, HO.out.c3, HO.out.c4⟩
    refine wpAnyZ_take (i := 1) (v := ?_) rfl (by kernel_rfl) (by kernel_rfl) (by kernel_rfl) (fun _ _ _ h => h) (by kernel_rfl) (Or.inl ⟨by rfl, ?_⟩) (by assumption) ?_
    rotate_left
    · intro w' hSw
      try dsimp only at hSw
      try obtain ⟨hSw, hSw2⟩ := hSw
      go_simp
      try with_reducible rfl
    show wpAnyZ _ _ _ _ _ _ _ _ (Act.put _ (some 86) _) _
    simp only [Act.put, List.setIfInBounds_toArray, List.set_cons_zero, List.set_cons_succ]
    refine wpAnyZ_take (i := 3) (v := ?_) rfl (by kernel_rfl) (by kernel_rfl) (by kernel_rfl) (fun _ _ _ h => h) (by kernel_rfl) (Or.inl ⟨by rfl, ?_⟩) (by assumption) ?_
    rotate_left
    · intro w' hSw
      try dsimp only at hSw
      try obtain ⟨hSw, hSw2⟩ := hSw
      go_simp
      try with_reducible rfl
    show wpAnyZ _ _ _ _ _ _ _ _ (Act.put _ (some 88) _) _
    simp only [Act.put, List.setIfInBounds_toArray, List.set_cons_zero, List.set_cons_succ]
    refine wpAnyZ_take (i := 5) (v := ?_) rfl (by kernel_rfl) (by kernel_rfl) (by kernel_rfl) (fun _ _ _ h => h) (by kernel_rfl) (Or.inl ⟨by rfl, ?_⟩) (by assumption) ?_
    rotate_left
    · intro w' hSw
      try dsimp only at hSw
      try obtain ⟨hSw, hSw2⟩ := hSw
      go_simp
      try with_reducible rfl
    show wpAnyZ _ _ _ _ _ _ _ _ (Act.put _ (some 90) _) _
    simp only [Act.put, List.setIfInBounds_toArray, List.set_cons_zero, List.set_cons_succ]
    clear hSS
    obtain ⟨M, hM⟩ : ∃ M, Y.heap.size = M := ⟨_, rfl⟩
    have HMM := Lib.hid hM
    have HB := Lib.hid (show Below M Y Y from Below.refl _ _)
    have HBM := Lib.hid (show B ≤ M by rw [← hM]; exact Nat.le_trans HB0.out HO.out.b.size)
    clear hM
    refine wpAnyZ_one (i := 0) (by kernel_rfl) rfl rfl (fun K hK => ?_)
    go_simp
    obtain ⟨g0, hg0⟩ : ∃ b, Y.heap.size = b := ⟨_, rfl⟩
    have E0 := Lib.hid (RowC.new (B := B) (M := M) (by have := HB.out.size; have h2 := HMM.out; omega) hg0)
    have HB := Lib.hid (HB.out.alloc (by have := HB.out.size; have h2 := HMM.out; omega) (.cells #[] 44))
    rw [hg0]
    refine hK.out _ _ (.inr (by have h := HO.out.next (HMM.out ▸ HB.out); exact ⟨h.c0, h.c1, h.c2, h.c3, h.c4⟩)) ?_
    clear hK hg0
    generalize Y.alloc (.cells #[] 44) = Y1 at *
    refine wpAnyZ_one (i := 2) (by kernel_rfl) rfl rfl (fun K hK => ?_)
    refine wp_appC (.tmp 85) (.tmp 86) rfl B M (.slice (some ⟨g0, 0, none⟩) 0 0) [] x (.slice a x.length c) rfl E0.out rfl (HX.out.below (bNext (HMM.out ▸ HB.out) HO.out.b)) (by have := HLL.out; simp; omega) HBM.out (by have := HB.out.size; have h2 := HMM.out; omega) ?_
    intro v2 Y2 hr hb hg
    have R2 := Lib.hid (show RowC B M _ v2 x from hr)
    have HB := Lib.hid (HB.out.trans hb)
    refine hK.out _ _ (.inr (by have h := HO.out.next (HMM.out ▸ HB.out); exact ⟨h.c0, h.c1, h.c2, h.c3, h.c4⟩)) ?_
    clear hK hr hb hg E0
    refine wpAnyZ_one (i := 4) (by kernel_rfl) rfl rfl (fun K hK => ?_)
    refine wp_appC (.tmp 87) (.tmp 88) rfl B M v2 x y (.slice a2 y.length c2) rfl R2.out rfl (HY.out.below (bNext (HMM.out ▸ HB.out) HO.out.b)) (by have := HLL.out; omega) HBM.out (by have := HB.out.size; have h2 := HMM.out; omega) ?_
    intro v3 Y3 hr hb hg
    have R3 := Lib.hid hr.cop
    have HB := Lib.hid (HB.out.trans hb)
    refine hK.out _ _ (.inr (by have h := HO.out.next (HMM.out ▸ HB.out); exact ⟨h.c0, h.c1, h.c2, h.c3, h.c4⟩)) ?_
    clear hK hr hb hg R2
    obtain ⟨a3, c3, rfl, -, -⟩ := R3.out.form
    have HO3 := Lib.hid (HO.out.next (HMM.out ▸ HB.out))
    have hq := behind_any Y3 B (Nat.le_trans HB0.out HO3.out.b.size) a3 c3 (x ++ y) R3.out (by have := HLL.out; rw [List.length_append]; omega) o pa pc (HP.out.below HO3.out.b) OKO.out
    unfold opV at hq
    refine wpAnyZ_one (i := 6) (by kernel_rfl) rfl rfl (fun K hK => ?_)
    go_simp
    first | refine hq.mono ?_ | (rw [List.length_append] at hq; refine hq.mono ?_)
    rintro e' Y4 ⟨⟨v4, rfl, hv4⟩, hb4⟩
    have HO4 := HO3.out.next hb4
    show K _ Y4
    refine hK.out _ _ (.inr ⟨HO4.c0, HO4.c1, HO4.c2, HO4.c3, HO4.c4⟩) ?_
    clear hK
    refine wpAnyZ_one (i := 7) (by kernel_rfl) rfl rfl (fun K hK => ?_)
    go_simp
    refine hK.out _ _ (.inl (by omega)) ?_
    clear hK
    refine wpAnyZ_done (by kernel_rfl) ?_ _
    go_wp2_with fail
    go_ret
    exact ⟨⟨_, rfl, hv4⟩, HO4.b⟩
set_option maxHeartbeats 4000000 in
theorem rdyad13_3harmsok (w : World) (B : Nat) (hB : B ≤ w.heap.size) (a a2 : Option Addr) (c c2 : Nat) (x y : List Cop) (hx : CopS B w (.slice a x.length c) x) (hy : CopS B w (.slice a2 y.length c2) y) (hl : x.length + y.length + 1 ≤ 2513169434843) (o : Cop) (pa : Option Addr) (pc : Nat) (hp : MonS B w (.slice pa o.p.length pc) o.p) (ho : OkO o) (hf : o.fn = 3) (g1 : onlyC x 1 = false) (g2 : onlyC y 1 = false) (g3 : onlyC x 0 = true) (g4 : harmC y = false) (g5 : onlyC y 0 = true) (g6 : harmC x = true) (h2 : twoC o.fn x y = none) :
    Calls Try.prog 63 #[.slice a x.length c, .slice a2 y.length c2, opV o pa pc] w (RetC B w (dyadC x y o)) := by
  rw [dyadC_z h2 (by unfold ruleY; rw [hf]; simp [*]) (by unfold ruleX; rw [hf]; simp [*]) (by unfold ruleZ; rw [hf]; simp [*])]
  have H2 := Lib.hid h2
  have HF := Lib.hid hf
  clear h2 hf
  obtain ⟨k1, hk1⟩ : ∃ k, knownC x = k := ⟨_, rfl⟩
  obtain ⟨k2, hk2⟩ : ∃ k, knownC y = k := ⟨_, rfl⟩
  have HKX := Lib.hid hk1; have HKY := Lib.hid hk2
  have hi1 := fun n (h : k1 = some n) => known_in hx (hk1.trans h); have hi2 := fun n (h : k2 = some n) => known_in hy (hk2.trans h)
  have HI1 := Lib.hid hi1; have HI2 := Lib.hid hi2
  clear hi1 hi2 hk1 hk2
  obtain ⟨b1, hb1⟩ : ∃ b, k1.isSome = b := ⟨_, rfl⟩
  obtain ⟨b2, hb2⟩ : ∃ b, k2.isSome = b := ⟨_, rfl⟩
  have HB1 := Lib.hid hb1; have HB2 := Lib.hid hb2
  clear hb1 hb2
  have HX := Lib.hid hx; have HY := Lib.hid hy; have HP := Lib.hid hp; have OKO := Lib.hid ho; have HB0 := Lib.hid hB; have HLL := Lib.hid hl
  have HO := Lib.hid (OpBox.new w o (.slice pa o.p.length pc))
  have hmx := hx.le; have hmy := hy.le
  unfold opV
  clear hx hy hp ho hB hl
  go_enter Try.func63, Try.ntmps63
  go_upto_region 1 with fail
  refine gen_worldA (fun W => OpBox w W w.heap.size o (.slice pa o.p.length pc)) HO.out ?_
  rintro W hO
  have HO := Lib.hid hO
  clear hO
  have HQ := Lib.hid (rnumber_any W a c x (HX.out.below HO.out.b).els hmx)
  rw [HKX.out, HB1.out] at HQ
  go_wp2_with fail
  refine HQ.out.mono ?_
  rintro e W1 ⟨rfl, hb⟩
  have HO := Lib.hid (HO.out.next hb)
  clear hb HQ
  have HQ := Lib.hid (rnumber_any W1 a2 c2 y (HY.out.below HO.out.b).els hmy)
  rw [HKY.out, HB2.out] at HQ
  go_wp2_with fail
  refine HQ.out.mono ?_
  rintro e W2 ⟨rfl, hb⟩
  have HO := Lib.hid (HO.out.next hb)
  clear hb HQ
  have x4 := HO.out.c4
  obtain ⟨m, e0, hd⟩ : ∃ m e0, dyadF o.fn (k1.getD 0) (k2.getD 0) = (m, e0) := ⟨_, _, rfl⟩
  have hi1 : In64 (k1.getD 0) := by cases k1 with | none => (unfold In64; decide) | some p => exact HI1.out p rfl
  have hi2 : In64 (k2.getD 0) := by cases k2 with | none => (unfold In64; decide) | some p => exact HI2.out p rfl
  have HQ := Lib.hid (rdyad_at W2 o.fn (k1.getD 0) (k2.getD 0) m e0 hi1 hi2 hd)
  have htt : (k1.isSome && (k2.isSome && (e0 == 0))) = false := by
    have h2 := H2.out
    unfold twoC at h2
    rw [HKX.out, HKY.out] at h2
    cases k1 with
    | none => rfl
    | some p =>
      cases k2 with
      | none => rfl
      | some q =>
        dsimp only at h2
        rw [show dyadF o.fn p q = (m, e0) from hd] at h2
        show (e0 == 0) = false
        rw [beq_eq_false_iff_ne]
        intro h
        rw [if_pos h] at h2
        cases h2
  have HTT := Lib.hid htt
  clear hd hi1 hi2 htt
  go_wp2_with fail
  refine HQ.out.mono ?_
  rintro e W3 ⟨rfl, nd, rfl⟩
  have HO := Lib.hid (HO.out.next (Below.drewN W2 nd))
  clear HQ x4
  obtain ⟨W4, hW4⟩ : ∃ W, W2.drewN nd = W := ⟨_, rfl⟩
  rw [hW4] at HO ⊢
  clear hW4
  go_upto_region 4 with fail
  go_cut [38] (fun s38 wx => s38 = .bool false ∧ OpBox w wx w.heap.size o (.slice pa o.p.length pc))
  case first =>
    obtain ⟨b3, hb3⟩ : ∃ b, (e0 == 0) = b := ⟨_, rfl⟩
    have htt := HTT.out
    rw [HB1.out, HB2.out, hb3] at htt
    cases b1 with
    | false => (clear htt hb3); (go_wp2_with fail); (go_meet); (exact ⟨rfl, HO.out⟩)
    | true =>
      cases b2 with
      | false => (clear htt hb3); (go_wp2_with fail); (go_meet); (exact ⟨rfl, HO.out⟩)
      | true =>
        cases b3 with
        | false => (clear htt); (go_wp2_with fail); (go_meet); (exact ⟨rfl, HO.out⟩)
        | true => cases htt
  case rest =>
    obtain ⟨rfl, hcut⟩ := hcut
    clear HO
    have HO := Lib.hid hcut
    clear hcut
    have x4 := HO.out.c4
    rw [HF.out] at x4
    have HG1 := Lib.hid g1; have HG2 := Lib.hid g2; have HG3 := Lib.hid g3; have HG4 := Lib.hid g4; have HG5 := Lib.hid g5; have HG6 := Lib.hid g6
    have HN := Lib.hid (fun W => rlist_any W B 0 (by unfold I64; omega))
    clear g1 g2 g3 g4 g5 g6
    have hq := ris_any wc a c x 1 (HX.out.below HO.out.b).els hmx
    rw [HG1.out] at hq
    have HQ := Lib.hid hq
    clear hq
    go_wp2_with fail
    refine HQ.out.mono ?_
    rintro e U1 ⟨rfl, hb⟩
    have HO := Lib.hid (HO.out.next hb)
    clear hb HQ
    have hq := ris_any U1 a2 c2 y 1 (HY.out.below HO.out.b).els hmy
    rw [HG2.out] at hq
    have HQ := Lib.hid hq
    clear hq
    go_wp2_with fail
    refine HQ.out.mono ?_
    rintro e U2 ⟨rfl, hb⟩
    have HO := Lib.hid (HO.out.next hb)
    clear hb HQ
    have hq := ris_any U2 a c x 0 (HX.out.below HO.out.b).els hmx
    rw [HG3.out] at hq
    have HQ := Lib.hid hq
    clear hq
    go_wp2_with fail
    refine HQ.out.mono ?_
    rintro e U3 ⟨rfl, hb⟩
    have HO := Lib.hid (HO.out.next hb)
    clear hb HQ
    have hq := rharmless_any U3 a2 c2 y (HY.out.below HO.out.b).els hmy
    rw [HG4.out] at hq
    have HQ := Lib.hid hq
    clear hq
    go_wp2_with fail
    refine HQ.out.mono ?_
    rintro e U4 ⟨rfl, hb⟩
    have HO := Lib.hid (HO.out.next hb)
    clear hb HQ
    have hq := ris_any U4 a2 c2 y 0 (HY.out.below HO.out.b).els hmy
    rw [HG5.out] at hq
    have HQ := Lib.hid hq
    clear hq
    go_wp2_with fail
    refine HQ.out.mono ?_
    rintro e U5 ⟨rfl, hb⟩
    have HO := Lib.hid (HO.out.next hb)
    clear hb HQ
    have hq := rharmless_any U5 a c x (HX.out.below HO.out.b).els hmx
    rw [HG6.out] at hq
    have HQ := Lib.hid hq
    clear hq
    go_wp2_with fail
    refine HQ.out.mono ?_
    rintro e U6 ⟨rfl, hb⟩
    have HO := Lib.hid (HO.out.next hb)
    clear hb HQ
    have HQ := Lib.hid (HN.out U6)
    go_wp2_with fail
    refine HQ.out.mono ?_
    rintro e w2 ⟨⟨v2, rfl, hv2⟩, hb2⟩
    go_wp2_with fail
    go_ret
    exact ⟨⟨_, rfl, hv2⟩, bNext hb2 HO.out.b⟩
set_option maxHeartbeats 4000000 in
theorem rdyad13_other (w : World) (B : Nat) (hB : B ≤ w.heap.size) (a a2 : Option Addr) (c c2 : Nat) (x y : List Cop) (hx : CopS B w (.slice a x.length c) x) (hy : CopS B w (.slice a2 y.length c2) y) (hl : x.length + y.length + 1 ≤ 2513169434843) (o : Cop) (pa : Option Addr) (pc : Nat) (hp : MonS B w (.slice pa o.p.length pc) o.p) (ho : OkO o) (f1 : o.fn ≠ 1) (f2 : o.fn ≠ 2) (f3 : o.fn ≠ 3) (f4 : o.fn ≠ 4) (f5 : o.fn ≠ 17) (h2 : twoC o.fn x y = none) :
    Calls Try.prog 63 #[.slice a x.length c, .slice a2 y.length c2, opV o pa pc] w (RetC B w (dyadC x y o)) := by
  obtain ⟨r1, r2, r3⟩ := rules_other (x := x) (y := y) f1 f2 f3 f4 f5
  rw [dyadC_j h2 r1 r2 r3]
  have n1 : (o.fn == 1) = false := by rw [beq_eq_false_iff_ne]; exact f1
  have n2 : (o.fn == 2) = false := by rw [beq_eq_false_iff_ne]; exact f2
  have n3 : (o.fn == 3) = false := by rw [beq_eq_false_iff_ne]; exact f3
  have n4 : (o.fn == 4) = false := by rw [beq_eq_false_iff_ne]; exact f4
  have n5 : (o.fn == 17) = false := by rw [beq_eq_false_iff_ne]; exact f5
  clear f1 f2 f3 f4 f5 r1 r2 r3
  have H2 := Lib.hid h2
  clear h2
  obtain ⟨k1, hk1⟩ : ∃ k, knownC x = k := ⟨_, rfl⟩
  obtain ⟨k2, hk2⟩ : ∃ k, knownC y = k := ⟨_, rfl⟩
  have HKX := Lib.hid hk1; have HKY := Lib.hid hk2
  have hi1 := fun n (h : k1 = some n) => known_in hx (hk1.trans h); have hi2 := fun n (h : k2 = some n) => known_in hy (hk2.trans h)
  have HI1 := Lib.hid hi1; have HI2 := Lib.hid hi2
  clear hi1 hi2 hk1 hk2
  obtain ⟨b1, hb1⟩ : ∃ b, k1.isSome = b := ⟨_, rfl⟩
  obtain ⟨b2, hb2⟩ : ∃ b, k2.isSome = b := ⟨_, rfl⟩
  have HB1 := Lib.hid hb1; have HB2 := Lib.hid hb2
  clear hb1 hb2
  have HX := Lib.hid hx; have HY := Lib.hid hy; have HP := Lib.hid hp; have OKO := Lib.hid ho; have HB0 := Lib.hid hB; have HLL := Lib.hid hl
  have HO := Lib.hid (OpBox.new w o (.slice pa o.p.length pc))
  have hmx := hx.le; have hmy := hy.le
  unfold opV
  clear hx hy hp ho hB hl
  go_enter Try.func63, Try.ntmps63
  go_upto_region 1 with fail
  refine gen_worldA (fun W => OpBox w W w.heap.size o (.slice pa o.p.length pc)) HO.out ?_
  rintro W hO
  have HO := Lib.hid hO
  clear hO
  have HQ := Lib.hid (rnumber_any W a c x (HX.out.below HO.out.b).els hmx)
  rw [HKX.out, HB1.out] at HQ
  go_wp2_with fail
  refine HQ.out.mono ?_
  rintro e W1 ⟨rfl, hb⟩
  have HO := Lib.hid (HO.out.next hb)
  clear hb HQ
  have HQ := Lib.hid (rnumber_any W1 a2 c2 y (HY.out.below HO.out.b).els hmy)
  rw [HKY.out, HB2.out] at HQ
  go_wp2_with fail
  refine HQ.out.mono ?_
  rintro e W2 ⟨rfl, hb⟩
  have HO := Lib.hid (HO.out.next hb)
  clear hb HQ
  have x4 := HO.out.c4
  obtain ⟨m, e0, hd⟩ : ∃ m e0, dyadF o.fn (k1.getD 0) (k2.getD 0) = (m, e0) := ⟨_, _, rfl⟩
  have hi1 : In64 (k1.getD 0) := by cases k1 with | none => (unfold In64; decide) | some p => exact HI1.out p rfl
  have hi2 : In64 (k2.getD 0) := by cases k2 with | none => (unfold In64; decide) | some p => exact HI2.out p rfl
  have HQ := Lib.hid (rdyad_at W2 o.fn (k1.getD 0) (k2.getD 0) m e0 hi1 hi2 hd)
  have htt : (k1.isSome && (k2.isSome && (e0 == 0))) = false := by
    have h2 := H2.out
    unfold twoC at h2
    rw [HKX.out, HKY.out] at h2
    cases k1 with
    | none => rfl
    | some p =>
      cases k2 with
      | none => rfl
      | some q =>
        dsimp only at h2
        rw [show dyadF o.fn p q = (m, e0) from hd] at h2
        show (e0 == 0) = false
        rw [beq_eq_false_iff_ne]
        intro h
        rw [if_pos h] at h2
        cases h2
  have HTT := Lib.hid htt
  clear hd hi1 hi2 htt
  go_wp2_with fail
  refine HQ.out.mono ?_
  rintro e W3 ⟨rfl, nd, rfl⟩
  have HO := Lib.hid (HO.out.next (Below.drewN W2 nd))
  clear HQ x4
  obtain ⟨W4, hW4⟩ : ∃ W, W2.drewN nd = W := ⟨_, rfl⟩
  rw [hW4] at HO ⊢
  clear hW4
  go_upto_region 4 with fail
  go_cut [38] (fun s38 wx => s38 = .bool false ∧ OpBox w wx w.heap.size o (.slice pa o.p.length pc))
  case first =>
    obtain ⟨b3, hb3⟩ : ∃ b, (e0 == 0) = b := ⟨_, rfl⟩
    have htt := HTT.out
    rw [HB1.out, HB2.out, hb3] at htt
    cases b1 with
    | false => (clear htt hb3); (go_wp2_with fail); (go_meet); (exact ⟨rfl, HO.out⟩)
    | true =>
      cases b2 with
      | false => (clear htt hb3); (go_wp2_with fail); (go_meet); (exact ⟨rfl, HO.out⟩)
      | true =>
        cases b3 with
        | false => (clear htt); (go_wp2_with fail); (go_meet); (exact ⟨rfl, HO.out⟩)
        | true => cases htt
  case rest =>
    obtain ⟨rfl, hcut⟩ := hcut
    clear HO
    have HO := Lib.hid hcut
    clear hcut
    have x4 := HO.out.c4
    go_upto_region 26 with fail
    refine wp_region_Z (S := fun W' => W'.cell? ⟨w.heap.size, 0, none⟩ = some (.int .i64 o.how) ∧ W'.cell? ⟨w.heap.size, 1, none⟩ = some (.int .i64 o.k) ∧ W'.cell? ⟨w.heap.size, 2, none⟩ = some (.int .i64 o.n) ∧ W'.cell? ⟨w.heap.size, 3, none⟩ = some (.slice pa o.p.length pc) ∧ W'.cell? ⟨w.heap.size, 4, none⟩ = some (.int .u8 o.fn)) (z := 7) (by kernel_rfl) ?_
    have HO := Lib.hid (HO.out.next (show Below wc.heap.size wc wc.drew from (Below.refl _ _).drew))
    generalize wc.drew = Y at HO ⊢
    have hSS : (fun W' : World => W'.cell? ⟨w.heap.size, 0, none⟩ = some (.int .i64 o.how) ∧ W'.cell? ⟨w.heap.size, 1, none⟩ = some (.int .i64 o.k) ∧ W'.cell? ⟨w.heap.size, 2, none⟩ = some (.int .i64 o.n) ∧ W'.cell? ⟨w.heap.size, 3, none⟩ = some (.slice pa o.p.length pc) ∧ W'.cell? ⟨w.heap.size, 4, none⟩ = some (.int .u8 o.fn)) Y := ⟨HO.out.c0, HO.out.c1, HO.out.c2, HO.out.c3, HO.out.c4⟩
    refine wpAnyZ_take (i := 1) (v := ?_) rfl (by kernel_rfl) (by kernel_rfl) (by kernel_rfl) (fun _ _ _ h => h) (by kernel_rfl) (Or.inl ⟨by rfl, ?_⟩) (by assumption) ?_
    rotate_left
    · intro w' hSw
      try dsimp only at hSw
      try obtain ⟨hSw, hSw2⟩ := hSw
      go_simp
      try with_reducible rfl
    show wpAnyZ _ _ _ _ _ _ _ _ (Act.put _ (some 86) _) _
    simp only [Act.put, List.setIfInBounds_toArray, List.set_cons_zero, List.set_cons_succ]
    refine wpAnyZ_take (i := 3) (v := ?_) rfl (by kernel_rfl) (by kernel_rfl) (by kernel_rfl) (fun _ _ _ h => h) (by kernel_rfl) (Or.inl ⟨by rfl, ?_⟩) (by assumption) ?_
    rotate_left
    · intro w' hSw
      try dsimp only at hSw
      try obtain ⟨hSw, hSw2⟩ := hSw
      go_simp
      try with_reducible rfl
    show wpAnyZ _ _ _ _ _ _ _ _ (Act.put _ (some 88) _) _
    simp only [Act.put, List.setIfInBounds_toArray, List.set_cons_zero, List.set_cons_succ]
    refine wpAnyZ_take (i := 5) (v := ?_) rfl (by kernel_rfl) (by kernel_rfl) (by kernel_rfl) (fun _ _ _ h => h) (by kernel_rfl) (Or.inl ⟨by rfl, ?_⟩) (by assumption) ?_
    rotate_left
    · intro w' hSw
      try dsimp only at hSw
      try obtain ⟨hSw, hSw2⟩ := hSw
      go_simp
      try with_reducible rfl
    show wpAnyZ _ _ _ _ _ _ _ _ (Act.put _ (some 90) _) _
    simp only [Act.put, List.setIfInBounds_toArray, List.set_cons_zero, List.set_cons_succ]
    clear hSS
    obtain ⟨M, hM⟩ : ∃ M, Y.heap.size = M := ⟨_, rfl⟩
    have HMM := Lib.hid hM
    have HB := Lib.hid (show Below M Y Y from Below.refl _ _)
    have HBM := Lib.hid (show B ≤ M by rw [← hM]; exact Nat.le_trans HB0.out HO.out.b.size)
    clear hM
    refine wpAnyZ_one (i := 0) (by kernel_rfl) rfl rfl (fun K hK => ?_)
    go_simp
    obtain ⟨g0, hg0⟩ : ∃ b, Y.heap.size = b := ⟨_, rfl⟩
    have E0 := Lib.hid (RowC.new (B := B) (M := M) (by have := HB.out.size; have h2 := HMM.out; omega) hg0)
    have HB := Lib.hid (HB.out.alloc (by have := HB.out.size; have h2 := HMM.out; omega) (.cells #[] 44))
    rw [hg0]
    refine hK.out _ _ (.inr (by have h := HO.out.next (HMM.out ▸ HB.out); exact ⟨h.c0, h.c1, h.c2, h.c3, h.c4⟩)) ?_
    clear hK hg0
    generalize Y.alloc (.cells #[] 44) = Y1 at *
    refine wpAnyZ_one (i := 2) (by kernel_rfl) rfl rfl (fun K hK => ?_)
    refine wp_appC (.tmp 85) (.tmp 86) rfl B M (.slice (some ⟨g0, 0, none⟩) 0 0) [] x (.slice a x.length c) rfl E0.out rfl (HX.out.below (bNext (HMM.out ▸ HB.out) HO.out.b)) (by have := HLL.out; simp; omega) HBM.out (by have := HB.out.size; have h2 := HMM.out; omega) ?_
    intro v2 Y2 hr hb hg
    have R2 := Lib.hid (show RowC B M _ v2 x from hr)
    have HB := Lib.hid (HB.out.trans hb)
    refine hK.out _ _ (.inr (by have h := HO.out.next (HMM.out ▸ HB.out); exact ⟨h.c0, h.c1, h.c2, h.c3, h.c4⟩)) ?_
    clear hK hr hb hg E0
    refine wpAnyZ_one (i := 4) (by kernel_rfl) rfl rfl (fun K hK => ?_)
    refine wp_appC (.tmp 87) (.tmp 88) rfl B M v2 x y (.slice a2 y.length c2) rfl R2.out rfl (HY.out.below (bNext (HMM.out ▸ HB.out) HO.out.b)) (by have := HLL.out; omega) HBM.out (by have := HB.out.size; have h2 := HMM.out; omega) ?_
    intro v3 Y3 hr hb hg
    have R3 := Lib.hid hr.cop
    have HB := Lib.hid (HB.out.trans hb)
    refine hK.out _ _ (.inr (by have h := HO.out.next (HMM.out ▸ HB.out); exact ⟨h.c0, h.c1, h.c2, h.c3, h.c4⟩)) ?_
    clear hK hr hb hg R2
    obtain ⟨a3, c3, rfl, -, -⟩ := R3.out.form
    have HO3 := Lib.hid (HO.out.next (HMM.out ▸ HB.out))
    have hq := behind_any Y3 B (Nat.le_trans HB0.out HO3.out.b.size) a3 c3 (x ++ y) R3.out (by have := HLL.out; rw [List.length_append]; omega) o pa pc (HP.out.below HO3.out.b) OKO.out
    unfold opV at hq
    refine wpAnyZ_one (i := 6) (by kernel_rfl) rfl rfl (fun K hK => ?_)
    go_simp
    first | refine hq.mono ?_ | (rw [List.length_append] at hq; refine hq.mono ?_)
    rintro e' Y4 ⟨⟨v4, rfl, hv4⟩, hb4⟩
    have HO4 := HO3.out.next hb4
    show K _ Y4
    refine hK.out _ _ (.inr ⟨HO4.c0, HO4.c1, HO4.c2, HO4.c3, HO4.c4⟩) ?_
    clear hK
    refine wpAnyZ_one (i := 7) (by kernel_rfl) rfl rfl (fun K hK => ?_)
    go_simp
    refine hK.out _ _ (.inl (by omega)) ?_
    clear hK
    refine wpAnyZ_done (by kernel_rfl) ?_ _
    go_wp2_with fail
    go_ret
    exact ⟨⟨_, rfl, hv4⟩, HO4.b⟩
end Go.Proofs.Ytmlfeocdcjhhaaa

namespace Go.Proofs.Ytmlfeocdcjhhaaa
set_option maxRecDepth 100000
open Go.RowKit
set_option linter.unusedVariables false
set_option linter.unusedSimpArgs false
attribute [local go_sem ↓] Go.wp_at_zero Go.wp_at_succ

/-! windrowref13.dyad. -/

theorem rdyad13_any (w : World) (B : Nat) (hB : B ≤ w.heap.size) (a a2 : Option Addr) (c c2 : Nat) (x y : List Cop) (hx : CopS B w (.slice a x.length c) x) (hy : CopS B w (.slice a2 y.length c2) y) (hl : x.length + y.length + 1 ≤ 2513169434843) (o : Cop) (pa : Option Addr) (pc : Nat) (hp : MonS B w (.slice pa o.p.length pc) o.p) (ho : OkO o) :
    Calls Try.prog 63 #[.slice a x.length c, .slice a2 y.length c2, opV o pa pc] w (RetC B w (dyadC x y o)) := by
  cases h2 : twoC o.fn x y with
  | some m =>
    have h3 := h2
    unfold twoC at h3
    cases hkx : knownC x with
    | none => rw [hkx] at h3; cases h3
    | some p =>
      cases hky : knownC y with
      | none => rw [hkx, hky] at h3; cases h3
      | some q =>
        rw [hkx, hky] at h3
        dsimp only at h3
        split at h3
        · rename_i h0
          injection h3 with h3
          exact rdyad13_num w B hB a a2 c c2 x y hx hy hl o pa pc hp ho p q m hkx hky (by rw [← h3, ← h0])
        · cases h3
  | none =>
    by_cases f1 : o.fn = 1
    · cases g1 : onlyC x 0 with
      | true => exact rdyad13_1y w B hB a a2 c c2 x y hx hy hl o pa pc hp ho f1 g1 h2
      | false => cases g2 : onlyC y 0 with
        | true => exact rdyad13_1x w B hB a a2 c c2 x y hx hy hl o pa pc hp ho f1 g1 g2 h2
        | false => exact rdyad13_1j w B hB a a2 c c2 x y hx hy hl o pa pc hp ho f1 g1 g2 h2
    by_cases f2 : o.fn = 2
    · cases g2 : onlyC y 0 with
      | true => exact rdyad13_2x w B hB a a2 c c2 x y hx hy hl o pa pc hp ho f2 g2 h2
      | false => exact rdyad13_2j w B hB a a2 c c2 x y hx hy hl o pa pc hp ho f2 g2 h2
    by_cases f4 : o.fn = 4
    · cases g2 : onlyC y 1 with
      | true => exact rdyad13_4x w B hB a a2 c c2 x y hx hy hl o pa pc hp ho f4 g2 h2
      | false => exact rdyad13_4j w B hB a a2 c c2 x y hx hy hl o pa pc hp ho f4 g2 h2
    by_cases f5 : o.fn = 17
    · cases g2 : onlyC y 1 with
      | true => exact rdyad13_17x w B hB a a2 c c2 x y hx hy hl o pa pc hp ho f5 g2 h2
      | false => exact rdyad13_17j w B hB a a2 c c2 x y hx hy hl o pa pc hp ho f5 g2 h2
    by_cases f3 : o.fn = 3
    · cases g1 : onlyC x 1 with
      | true => exact rdyad13_3y w B hB a a2 c c2 x y hx hy hl o pa pc hp ho f3 g1 h2
      | false =>
        cases g2 : onlyC y 1 with
        | true => exact rdyad13_3x w B hB a a2 c c2 x y hx hy hl o pa pc hp ho f3 g1 g2 h2
        | false =>
          cases g3 : onlyC x 0 with
          | true =>
            cases g4 : harmC y with
            | true => exact rdyad13_3z1 w B hB a a2 c c2 x y hx hy hl o pa pc hp ho f3 g1 g2 g3 g4 h2
            | false =>
              cases g5 : onlyC y 0 with
              | false => exact rdyad13_3harmsno w B hB a a2 c c2 x y hx hy hl o pa pc hp ho f3 g1 g2 g3 g4 g5 h2
              | true => cases g6 : harmC x with
                | true => exact rdyad13_3harmsok w B hB a a2 c c2 x y hx hy hl o pa pc hp ho f3 g1 g2 g3 g4 g5 g6 h2
                | false => exact rdyad13_3harmsharms w B hB a a2 c c2 x y hx hy hl o pa pc hp ho f3 g1 g2 g3 g4 g5 g6 h2
          | false =>
            cases g5 : onlyC y 0 with
            | false => exact rdyad13_3nono w B hB a a2 c c2 x y hx hy hl o pa pc hp ho f3 g1 g2 g3 g5 h2
            | true => cases g6 : harmC x with
              | true => exact rdyad13_3nook w B hB a a2 c c2 x y hx hy hl o pa pc hp ho f3 g1 g2 g3 g5 g6 h2
              | false => exact rdyad13_3noharms w B hB a a2 c c2 x y hx hy hl o pa pc hp ho f3 g1 g2 g3 g5 g6 h2
    exact rdyad13_other w B hB a a2 c c2 x y hx hy hl o pa pc hp ho f1 f2 f3 f4 f5 h2
end Go.Proofs.Ytmlfeocdcjhhaaa

namespace Go.Proofs.Ytmlfeocdcjhhaaa
set_option maxRecDepth 100000
open Go.RowKit
set_option linter.unusedVariables false
set_option linter.unusedSimpArgs false
attribute [local go_sem ↓] Go.wp_at_zero Go.wp_at_succ

/-! windrowref13.simple. -/
/-- one round: the operation's cells, the stack so far -/
structure RoundR (B : Nat) (w W : World) (bo oo : Nat) (v : Value) (s : List (List Cop)) (o : Cop) (pv : Value) : Prop where
  c0 : W.cell? ⟨bo, oo, none⟩ = some (.int .i64 o.how)
  c1 : W.cell? ⟨bo, oo + 1, none⟩ = some (.int .i64 o.k)
  c2 : W.cell? ⟨bo, oo + 2, none⟩ = some (.int .i64 o.n)
  c3 : W.cell? ⟨bo, oo + 3, none⟩ = some pv
  c4 : W.cell? ⟨bo, oo + 4, none⟩ = some (.int .u8 o.fn)
  sp : Spine B W v s
  mon : MonS B W pv o.p
  b : Below B w W
  hB : B ≤ W.heap.size
theorem RoundR.next {B : Nat} {w W W' : World} {bo oo : Nat} {v pv : Value} {s : List (List Cop)} {o : Cop} (h : RoundR B w W bo oo v s o pv) (hb : Below W.heap.size W W') : RoundR B w W' bo oo v s o pv :=
  ⟨keepCell hb h.c0, keepCell hb h.c1, keepCell hb h.c2, keepCell hb h.c3, keepCell hb h.c4, h.sp.next hb, h.mon.below hb, h.b.trans (hb.mono h.hB), Nat.le_trans h.hB hb.size⟩
set_option maxHeartbeats 16000000 in
theorem rsimple13_any (w : World) (B : Nat) (hB : B = w.heap.size) (a : Option Addr) (c : Nat) (l : List Cop) (h : CopS B w (.slice a l.length c) l) (hl : l.length ≤ 2513169434843) (hd : 0 ≤ depthI l) :
    Calls Try.prog 28 #[.slice a l.length c] w (RetC B w (simpleC l)) := by
  have HC := Lib.hid h; have HL := Lib.hid hl; have HD := Lib.hid hd; have HBB := Lib.hid hB
  obtain ⟨n, hn⟩ : ∃ n, l.length = n := ⟨_, rfl⟩
  rw [hn]
  have hnl : n ≤ 2513169434843 := hn ▸ hl
  have HN := Lib.hid hn
  clear h hl hd hB hn
  go_enter Try.func28, Try.ntmps28
  go_wp2_with fail
  go_loopw [3, 4] (fun v i wr => ∃ k : Nat, k ≤ n ∧ i = .int .i64 k ∧ Below B w wr ∧ Spine B wr v (stackC (l.take k))) (fun _ i _ => n - (intOf i).toNat)
  case atStart => exact ⟨0, by omega, rfl, Below.refl _ _, Spine.nil _ _⟩
  case round =>
    obtain ⟨k, hk, rfl, hb, hsp⟩ := hrel
    have hBr : B ≤ wr.heap.size := by rw [HBB.out]; exact hb.size
    have hcr := HC.out.below (HBB.out ▸ hb)
    by_cases hlt : k < n
    · have hkx : k < l.length := by rw [HN.out]; exact hlt
      obtain ⟨p1, p2, p3, p4, p5⟩ := simple_pre HD.out hkx
      obtain ⟨bo, off, pa, pc, rfl, x0, x1, x2, x3, x4, hmon, hok⟩ := els_copO hcr hkx
      generalize l[k] = o at p3 p4 p5 x0 x1 x2 x3 x4 hmon hok
      generalize stackC (l.take k) = s at p1 p2 p4 p5 hsp
      obtain ⟨ma, mc, rfl⟩ := hsp.slice
      have HR := Lib.hid (show RoundR B w wr bo (off + k * 5) (.slice ma s.length mc) s o (.slice pa o.p.length pc) from ⟨x0, x1, x2, x3, x4, hsp, hmon, hb, hBr⟩)
      have P5 := Lib.hid p5; have OKO := Lib.hid hok; have HP2 := Lib.hid p2
      obtain ⟨m, hm⟩ : ∃ m, s.length = m := ⟨_, rfl⟩
      have hml : m ≤ 2513169434843 := by omega
      rw [hm] at HR p1 p4 ⊢
      have HM := Lib.hid hm
      clear hcr hsp hmon hok p5 p2 hm hkx hBr hb x0 x1 x2 x3 x4
      by_cases h2 : o.how = 2
      · have HF := Lib.hid h2
        have HS := Lib.hid (step_val h2 s)
        clear h2
        have y0 := HR.out.c0; have y1 := HR.out.c1; have y2 := HR.out.c2; have y3 := HR.out.c3; have y4 := HR.out.c4
        rw [HF.out] at y0
        go_upto_region 9 with fail
        clear y0
        have y0 := HR.out.c0
        have HQ := Lib.hid (rvalue13_any wr B o pa pc HR.out.mon OKO.out)
        unfold opV at HQ
        go_wp2_with fail
        refine HQ.out.mono ?_
        rintro e W2 ⟨⟨v2, rfl, hv2⟩, hb2⟩
        obtain ⟨va, vc, rfl, -, -⟩ := hv2.form
        obtain ⟨vl, hvl⟩ : ∃ m, (valueC o).length = m := ⟨_, rfl⟩
        rw [hvl] at hv2 ⊢
        clear hvl
        have HR2 := Lib.hid (HR.out.next hb2)
        obtain ⟨G, hG⟩ : ∃ G, W2.heap.size = G := ⟨_, rfl⟩
        have hba : Below W2.heap.size W2 (W2.alloc (.cells #[.slice va vl vc] 22)) := (Below.refl _ _).alloc (Nat.le_refl _) _
        have HR3 := Lib.hid (HR2.out.next hba); have HV3 := Lib.hid (hv2.below hba); have HG := Lib.hid (heap_new hG (o := .cells #[.slice va vl vc] 22))
        clear HQ hb2 hba HR HR2 y0 y1 y2 y3 y4 hv2
        go_wp2_with (at_builtin; (refine wpList_push rfl _ _ rfl B G _ (.slice va vl vc) s _ rfl (by have := HR3.out.sp; exact this) rfl HG.out HV3.out (by rw [HM.out]; omega) HR3.out.hB ?_); intro v' wz hvz hbz hgz hnz)
        have HSZ := Lib.hid (show Spine B wz v' (stackC (l.take (k + 1))) by rw [P5.out, HS.out]; exact hvz)
        have HBZ := Lib.hid (HR3.out.b.trans hbz)
        clear hvz hbz hgz hnz HR3 HV3 HG hG
        go_wp2_with fail
        go_roundw
        case rel => exact ⟨k + 1, by omega, by go_num, HBZ.out, HSZ.out⟩
        case measure => simp [intOf] <;> omega
      by_cases h4 : o.how = 4
      · skip
        have q2 : (o.how == 2) = false := by rw [beq_eq_false_iff_ne]; exact h2
        have HS := Lib.hid (fun st x => step_load h4 st x)
        have ht : takesI o.how = 1 := by rw [h4]; rfl
        rw [ht] at p4
        obtain ⟨st, x, rfl⟩ := snoc_of_pos (s := s) (by rw [HM.out]; omega)
        obtain ⟨t, hst⟩ : ∃ t, st.length = t := ⟨_, rfl⟩
        obtain rfl : m = t + 1 := by rw [← HM.out, List.length_append, hst]; rfl
        have hx : (st ++ [x])[t]'(by simp; omega) = x := by subst hst; simp
        have hset : ∀ y, (st ++ [x]).set t y = st ++ [y] := fun y => by subst hst; simp
        have hsum := HP2.out; rw [sum_snoc] at hsum
        have HXL := Lib.hid (show x.length + 1 ≤ 2513169434843 by omega)
        obtain ⟨g, cap, e, hgB, hgl, hcap, hmax, cur, hgc⟩ := HR.out.sp.form (by simp)
        simp only [Value.slice.injEq] at e
        obtain ⟨rfl, -, rfl⟩ := e
        obtain ⟨ax, cx, hc, hcx, hfz⟩ := HR.out.sp.at (i := t) (by simp; omega)
        rw [hx] at hc hcx
        obtain ⟨xl, hxl⟩ : ∃ n, x.length = n := ⟨_, rfl⟩
        rw [hxl] at hc hcx
        have HSET := Lib.hid hset; have HXX := Lib.hid hxl; have HGB := Lib.hid hgB; have HCX := Lib.hid hcx; have HC0 := Lib.hid hc; have HFZ := Lib.hid hfz; have HTS := Lib.hid hst
        clear hsum hset hx hst ht p4 hgB hcx hc hfz hgc hxl hmax hcap
        have HF := Lib.hid h4
        clear h2 h4
        have y0 := HR.out.c0; have y1 := HR.out.c1; have y2 := HR.out.c2; have y3 := HR.out.c3; have y4 := HR.out.c4
        rw [HF.out] at y0
        have htt : (t : Int) < (t : Int) + 1 := by omega
        have hwt : IntKind.i64.wrap (t : Int) = (t : Int) := by rw [IntKind.wrap_i64]; omega
        have ht0 : (0 : Int) ≤ (t : Int) := by omega
        go_upto_region 11 with fail
        clear y0 y1 y2 y3 y4
        refine wp_region_Z (S := fun W' => W'.cell? ⟨g, t, none⟩ = some (.slice ax xl cx) ∧ (W'.cell? ⟨bo, off + k * 5, none⟩ = some (.int .i64 o.how) ∧ W'.cell? ⟨bo, off + k * 5 + 1, none⟩ = some (.int .i64 o.k) ∧ W'.cell? ⟨bo, off + k * 5 + 2, none⟩ = some (.int .i64 o.n) ∧ W'.cell? ⟨bo, off + k * 5 + 3, none⟩ = some (.slice pa o.p.length pc) ∧ W'.cell? ⟨bo, off + k * 5 + 4, none⟩ = some (.int .u8 o.fn))) (z := 14) (by kernel_rfl) ?_
        have hdr : Below wr.heap.size wr wr.drew := (Below.refl _ _).drew
        have HR := Lib.hid (HR.out.next hdr); have HCX := Lib.hid (HCX.out.below hdr); have hc := keepCell hdr HC0.out; have HC0 := Lib.hid hc
        have hgl' : g < wr.drew.heap.size := Nat.lt_of_lt_of_le hgl hdr.size
        have hfz' : wr.drew.frozen? ⟨g, t, none⟩ = false := HFZ.out
        clear hdr hc hgl HFZ
        generalize wr.drew = Y at HR HCX HC0 hgl' hfz' ⊢
        have hSS : (fun W' : World => W'.cell? ⟨g, t, none⟩ = some (.slice ax xl cx) ∧ (W'.cell? ⟨bo, off + k * 5, none⟩ = some (.int .i64 o.how) ∧ W'.cell? ⟨bo, off + k * 5 + 1, none⟩ = some (.int .i64 o.k) ∧ W'.cell? ⟨bo, off + k * 5 + 2, none⟩ = some (.int .i64 o.n) ∧ W'.cell? ⟨bo, off + k * 5 + 3, none⟩ = some (.slice pa o.p.length pc) ∧ W'.cell? ⟨bo, off + k * 5 + 4, none⟩ = some (.int .u8 o.fn))) Y := ⟨HC0.out, HR.out.c0, HR.out.c1, HR.out.c2, HR.out.c3, HR.out.c4⟩
        refine wpAnyZ_take (i := 0) (v := ?_) rfl (by kernel_rfl) (by kernel_rfl) (by kernel_rfl) (fun _ _ _ h => h) (by kernel_rfl) (Or.inl ⟨by rfl, ?_⟩) (by assumption) ?_
        rotate_left
        · intro w' hSw
          try dsimp only at hSw
          try obtain ⟨hSw, hSw2⟩ := hSw
          go_simp
          try with_reducible rfl
        show wpAnyZ _ _ _ _ _ _ _ _ (Act.put _ (some 40) _) _
        simp only [Act.put, List.setIfInBounds_toArray, List.set_cons_zero, List.set_cons_succ]
        refine wpAnyZ_take (i := 1) (v := ?_) rfl (by kernel_rfl) (by kernel_rfl) (by kernel_rfl) (fun _ _ _ h => h) (by kernel_rfl) (Or.inl ⟨by rfl, ?_⟩) (by assumption) ?_
        rotate_left
        · intro w' hSw
          try dsimp only at hSw
          try obtain ⟨hSw, hSw2⟩ := hSw
          go_simp
          try with_reducible rfl
        show wpAnyZ _ _ _ _ _ _ _ _ (Act.put _ (some 41) _) _
        simp only [Act.put, List.setIfInBounds_toArray, List.set_cons_zero, List.set_cons_succ]
        refine wpAnyZ_take (i := 2) (v := ?_) rfl (by kernel_rfl) (by kernel_rfl) (by kernel_rfl) (fun _ _ _ h => h) (by kernel_rfl) (Or.inl ⟨by rfl, ?_⟩) (by assumption) ?_
        rotate_left
        · intro w' hSw
          try dsimp only at hSw
          try obtain ⟨hSw, hSw2⟩ := hSw
          go_simp
          try with_reducible rfl
        show wpAnyZ _ _ _ _ _ _ _ _ (Act.put _ (some 42) _) _
        simp only [Act.put, List.setIfInBounds_toArray, List.set_cons_zero, List.set_cons_succ]
        refine wpAnyZ_take (i := 3) (v := ?_) rfl (by kernel_rfl) (by kernel_rfl) (by kernel_rfl) (fun _ _ _ h => h) (by kernel_rfl) (Or.inl ⟨by rfl, ?_⟩) (by assumption) ?_
        rotate_left
        · intro w' hSw
          try dsimp only at hSw
          try obtain ⟨hSw, hSw2⟩ := hSw
          go_simp
          try with_reducible rfl
        show wpAnyZ _ _ _ _ _ _ _ _ (Act.put _ (some 43) _) _
        simp only [Act.put, List.setIfInBounds_toArray, List.set_cons_zero, List.set_cons_succ]
        refine wpAnyZ_take (i := 4) (v := ?_) rfl (by kernel_rfl) (by kernel_rfl) (by kernel_rfl) (fun _ _ _ h => h) (by kernel_rfl) (Or.inl ⟨by rfl, ?_⟩) (by assumption) ?_
        rotate_left
        · intro w' hSw
          try dsimp only at hSw
          try obtain ⟨hSw, hSw2⟩ := hSw
          go_simp
          try with_reducible rfl
        show wpAnyZ _ _ _ _ _ _ _ _ (Act.put _ (some 44) _) _
        simp only [Act.put, List.setIfInBounds_toArray, List.set_cons_zero, List.set_cons_succ]
        refine wpAnyZ_take (i := 5) (v := ?_) rfl (by kernel_rfl) (by kernel_rfl) (by kernel_rfl) (fun _ _ _ h => h) (by kernel_rfl) (Or.inl ⟨by rfl, ?_⟩) (by assumption) ?_
        rotate_left
        · intro w' hSw
          try dsimp only at hSw
          try obtain ⟨hSw, hSw2⟩ := hSw
          go_simp
          try with_reducible rfl
        show wpAnyZ _ _ _ _ _ _ _ _ (Act.put _ (some 45) _) _
        simp only [Act.put, List.setIfInBounds_toArray, List.set_cons_zero, List.set_cons_succ]
        refine wpAnyZ_take (i := 6) (v := ?_) rfl (by kernel_rfl) (by kernel_rfl) (by kernel_rfl) (fun _ _ _ h => h) (by kernel_rfl) (Or.inl ⟨by rfl, ?_⟩) (by assumption) ?_
        rotate_left
        · intro w' hSw
          try dsimp only at hSw
          try obtain ⟨hSw, hSw2⟩ := hSw
          go_simp
          try with_reducible rfl
        show wpAnyZ _ _ _ _ _ _ _ _ (Act.put _ (some 46) _) _
        simp only [Act.put, List.setIfInBounds_toArray, List.set_cons_zero, List.set_cons_succ]
        refine wpAnyZ_take (i := 7) (v := ?_) rfl (by kernel_rfl) (by kernel_rfl) (by kernel_rfl) (fun _ _ _ h => h) (by kernel_rfl) (Or.inl ⟨by rfl, ?_⟩) (by assumption) ?_
        rotate_left
        · intro w' hSw
          try dsimp only at hSw
          try obtain ⟨hSw, hSw2⟩ := hSw
          go_simp
          try with_reducible rfl
        show wpAnyZ _ _ _ _ _ _ _ _ (Act.put _ (some 47) _) _
        simp only [Act.put, List.setIfInBounds_toArray, List.set_cons_zero, List.set_cons_succ]
        refine wpAnyZ_take (i := 8) (v := ?_) rfl (by kernel_rfl) (by kernel_rfl) (by kernel_rfl) (fun _ _ _ h => h) (by kernel_rfl) (Or.inl ⟨by rfl, ?_⟩) (by assumption) ?_
        rotate_left
        · intro w' hSw
          try dsimp only at hSw
          try obtain ⟨hSw, hSw2⟩ := hSw
          go_simp
          try with_reducible rfl
        show wpAnyZ _ _ _ _ _ _ _ _ (Act.put _ (some 48) _) _
        simp only [Act.put, List.setIfInBounds_toArray, List.set_cons_zero, List.set_cons_succ]
        refine wpAnyZ_take (i := 9) (v := ?_) rfl (by kernel_rfl) (by kernel_rfl) (by kernel_rfl) (fun _ _ _ h => h) (by kernel_rfl) (Or.inl ⟨by rfl, ?_⟩) (by assumption) ?_
        rotate_left
        · intro w' hSw
          try dsimp only at hSw
          try obtain ⟨hSw, hSw2⟩ := hSw
          go_simp
          try with_reducible rfl
        show wpAnyZ _ _ _ _ _ _ _ _ (Act.put _ (some 49) _) _
        simp only [Act.put, List.setIfInBounds_toArray, List.set_cons_zero, List.set_cons_succ]
        refine wpAnyZ_take (i := 10) (v := ?_) rfl (by kernel_rfl) (by kernel_rfl) (by kernel_rfl) (fun _ _ _ h => h) (by kernel_rfl) (Or.inl ⟨by rfl, ?_⟩) (by assumption) ?_
        rotate_left
        · intro w' hSw
          try dsimp only at hSw
          try obtain ⟨hSw, hSw2⟩ := hSw
          go_simp
          try with_reducible rfl
        show wpAnyZ _ _ _ _ _ _ _ _ (Act.put _ (some 50) _) _
        simp only [Act.put, List.setIfInBounds_toArray, List.set_cons_zero, List.set_cons_succ]
        refine wpAnyZ_take (i := 11) (v := ?_) rfl (by kernel_rfl) (by kernel_rfl) (by kernel_rfl) (fun _ _ _ h => h) (by kernel_rfl) (Or.inl ⟨by rfl, ?_⟩) (by assumption) ?_
        rotate_left
        · intro w' hSw
          try dsimp only at hSw
          try obtain ⟨hSw, hSw2⟩ := hSw
          go_simp
          try with_reducible rfl
        show wpAnyZ _ _ _ _ _ _ _ _ (Act.put _ (some 51) _) _
        simp only [Act.put, List.setIfInBounds_toArray, List.set_cons_zero, List.set_cons_succ]
        clear hSS
        refine wpAnyZ_one (i := 12) (by kernel_rfl) rfl rfl (fun K hK => ?_)
        go_simp
        have hq := behind_any Y B HR.out.hB ax cx x (by rw [HXX.out]; exact HCX.out) HXL.out o pa pc HR.out.mon OKO.out
        unfold opV at hq
        rw [HXX.out] at hq
        refine hq.mono ?_
        rintro e W2 ⟨⟨v2, rfl, hv2⟩, hb2⟩
        have HR2 := Lib.hid (HR.out.next hb2); have HV2 := Lib.hid hv2
        have hc2 := keepCell hb2 HC0.out
        have hfz2 : W2.frozen? ⟨g, t, none⟩ = false := by have := World.frozen?_of_block (w := Y) (w' := W2) (a := ⟨g, t, none⟩) (hb2.block g hgl'); rw [this]; exact hfz'
        obtain ⟨va, vc, rfl, -, -⟩ := hv2.form
        obtain ⟨vl, hvl⟩ : ∃ m, (x ++ [o]).length = m := ⟨_, rfl⟩
        rw [hvl] at HV2 ⊢
        show K _ W2
        refine hK.out _ _ (.inr ⟨hc2, HR2.out.c0, HR2.out.c1, HR2.out.c2, HR2.out.c3, HR2.out.c4⟩) ?_
        clear hK hq hv2 hb2 hvl hfz' hgl' HR HCX HC0
        have hSS : (fun W' : World => W'.cell? ⟨g, t, none⟩ = some (.slice ax xl cx) ∧ (W'.cell? ⟨bo, off + k * 5, none⟩ = some (.int .i64 o.how) ∧ W'.cell? ⟨bo, off + k * 5 + 1, none⟩ = some (.int .i64 o.k) ∧ W'.cell? ⟨bo, off + k * 5 + 2, none⟩ = some (.int .i64 o.n) ∧ W'.cell? ⟨bo, off + k * 5 + 3, none⟩ = some (.slice pa o.p.length pc) ∧ W'.cell? ⟨bo, off + k * 5 + 4, none⟩ = some (.int .u8 o.fn))) W2 := ⟨hc2, HR2.out.c0, HR2.out.c1, HR2.out.c2, HR2.out.c3, HR2.out.c4⟩
        refine wpAnyZ_take (i := 13) (v := ?_) rfl (by kernel_rfl) (by kernel_rfl) (by kernel_rfl) (fun _ _ _ h => h) (by kernel_rfl) (Or.inl ⟨by rfl, ?_⟩) (by assumption) ?_
        rotate_left
        · intro w' hSw
          try dsimp only at hSw
          try obtain ⟨hSw, hSw2⟩ := hSw
          go_simp
          try with_reducible rfl
        show wpAnyZ _ _ _ _ _ _ _ _ (Act.put _ (some 53) _) _
        simp only [Act.put, List.setIfInBounds_toArray, List.set_cons_zero, List.set_cons_succ]
        clear hSS
        refine wpAnyZ_one (i := 14) (by kernel_rfl) rfl rfl (fun K hK => ?_)
        go_simp
        refine hK.out _ _ (.inl (by omega)) ?_
        clear hK
        refine wpAnyZ_done (by kernel_rfl) ?_ _
        have HSZ := Lib.hid (show Spine B (W2.setCell ⟨g, t, none⟩ (.slice va vl vc)) (.slice (some ⟨g, 0, none⟩) (t + 1) mc) (stackC (l.take (k + 1))) by
          rw [P5.out, HS.out, ← HSET.out]
          exact HR2.out.sp.set (i := t) (by rw [List.length_append, HTS.out]; simp) HGB.out HV2.out)
        have HBZ := Lib.hid (show Below B w (W2.setCell ⟨g, t, none⟩ (.slice va vl vc)) from HR2.out.b.setCell (by show B ≤ g; exact HGB.out) _)
        clear HR2 HV2 hc2 hfz2
        go_wp2_with fail
        go_roundw
        case rel => exact ⟨k + 1, by omega, by go_num, HBZ.out, HSZ.out⟩
        case measure => simp [intOf] <;> omega
      by_cases h5 : o.how = 5
      · skip
        have q2 : (o.how == 2) = false := by rw [beq_eq_false_iff_ne]; exact h2
        have q4 : (o.how == 4) = false := by rw [beq_eq_false_iff_ne]; exact h4
        have HS := Lib.hid (fun st x => step_mon h5 st x)
        have ht : takesI o.how = 1 := by rw [h5]; rfl
        rw [ht] at p4
        obtain ⟨st, x, rfl⟩ := snoc_of_pos (s := s) (by rw [HM.out]; omega)
        obtain ⟨t, hst⟩ : ∃ t, st.length = t := ⟨_, rfl⟩
        obtain rfl : m = t + 1 := by rw [← HM.out, List.length_append, hst]; rfl
        have hx : (st ++ [x])[t]'(by simp; omega) = x := by subst hst; simp
        have hset : ∀ y, (st ++ [x]).set t y = st ++ [y] := fun y => by subst hst; simp
        have hsum := HP2.out; rw [sum_snoc] at hsum
        have HXL := Lib.hid (show x.length + 1 ≤ 2513169434843 by omega)
        obtain ⟨g, cap, e, hgB, hgl, hcap, hmax, cur, hgc⟩ := HR.out.sp.form (by simp)
        simp only [Value.slice.injEq] at e
        obtain ⟨rfl, -, rfl⟩ := e
        obtain ⟨ax, cx, hc, hcx, hfz⟩ := HR.out.sp.at (i := t) (by simp; omega)
        rw [hx] at hc hcx
        obtain ⟨xl, hxl⟩ : ∃ n, x.length = n := ⟨_, rfl⟩
        rw [hxl] at hc hcx
        have HSET := Lib.hid hset; have HXX := Lib.hid hxl; have HGB := Lib.hid hgB; have HCX := Lib.hid hcx; have HC0 := Lib.hid hc; have HFZ := Lib.hid hfz; have HTS := Lib.hid hst
        clear hsum hset hx hst ht p4 hgB hcx hc hfz hgc hxl hmax hcap
        have HF := Lib.hid h5
        clear h2 h4 h5
        have y0 := HR.out.c0; have y1 := HR.out.c1; have y2 := HR.out.c2; have y3 := HR.out.c3; have y4 := HR.out.c4
        rw [HF.out] at y0
        have htt : (t : Int) < (t : Int) + 1 := by omega
        have hwt : IntKind.i64.wrap (t : Int) = (t : Int) := by rw [IntKind.wrap_i64]; omega
        have ht0 : (0 : Int) ≤ (t : Int) := by omega
        go_upto_region 13 with fail
        clear y0 y1 y2 y3 y4
        refine wp_region_Z (S := fun W' => W'.cell? ⟨g, t, none⟩ = some (.slice ax xl cx) ∧ (W'.cell? ⟨bo, off + k * 5, none⟩ = some (.int .i64 o.how) ∧ W'.cell? ⟨bo, off + k * 5 + 1, none⟩ = some (.int .i64 o.k) ∧ W'.cell? ⟨bo, off + k * 5 + 2, none⟩ = some (.int .i64 o.n) ∧ W'.cell? ⟨bo, off + k * 5 + 3, none⟩ = some (.slice pa o.p.length pc) ∧ W'.cell? ⟨bo, off + k * 5 + 4, none⟩ = some (.int .u8 o.fn))) (z := 14) (by kernel_rfl) ?_
        have hdr : Below wr.heap.size wr wr.drew := (Below.refl _ _).drew
        have HR := Lib.hid (HR.out.next hdr); have HCX := Lib.hid (HCX.out.below hdr); have hc := keepCell hdr HC0.out; have HC0 := Lib.hid hc
        have hgl' : g < wr.drew.heap.size := Nat.lt_of_lt_of_le hgl hdr.size
        have hfz' : wr.drew.frozen? ⟨g, t, none⟩ = false := HFZ.out
        clear hdr hc hgl HFZ
        generalize wr.drew = Y at HR HCX HC0 hgl' hfz' ⊢
        have hSS : (fun W' : World => W'.cell? ⟨g, t, none⟩ = some (.slice ax xl cx) ∧ (W'.cell? ⟨bo, off + k * 5, none⟩ = some (.int .i64 o.how) ∧ W'.cell? ⟨bo, off + k * 5 + 1, none⟩ = some (.int .i64 o.k) ∧ W'.cell? ⟨bo, off + k * 5 + 2, none⟩ = some (.int .i64 o.n) ∧ W'.cell? ⟨bo, off + k * 5 + 3, none⟩ = some (.slice pa o.p.length pc) ∧ W'.cell? ⟨bo, off + k * 5 + 4, none⟩ = some (.int .u8 o.fn))) Y := ⟨HC0.out, HR.out.c0, HR.out.c1, HR.out.c2, HR.out.c3, HR.out.c4⟩
        refine wpAnyZ_take (i := 0) (v := ?_) rfl (by kernel_rfl) (by kernel_rfl) (by kernel_rfl) (fun _ _ _ h => h) (by kernel_rfl) (Or.inl ⟨by rfl, ?_⟩) (by assumption) ?_
        rotate_left
        · intro w' hSw
          try dsimp only at hSw
          try obtain ⟨hSw, hSw2⟩ := hSw
          go_simp
          try with_reducible rfl
        show wpAnyZ _ _ _ _ _ _ _ _ (Act.put _ (some 56) _) _
        simp only [Act.put, List.setIfInBounds_toArray, List.set_cons_zero, List.set_cons_succ]
        refine wpAnyZ_take (i := 1) (v := ?_) rfl (by kernel_rfl) (by kernel_rfl) (by kernel_rfl) (fun _ _ _ h => h) (by kernel_rfl) (Or.inl ⟨by rfl, ?_⟩) (by assumption) ?_
        rotate_left
        · intro w' hSw
          try dsimp only at hSw
          try obtain ⟨hSw, hSw2⟩ := hSw
          go_simp
          try with_reducible rfl
        show wpAnyZ _ _ _ _ _ _ _ _ (Act.put _ (some 57) _) _
        simp only [Act.put, List.setIfInBounds_toArray, List.set_cons_zero, List.set_cons_succ]
        refine wpAnyZ_take (i := 2) (v := ?_) rfl (by kernel_rfl) (by kernel_rfl) (by kernel_rfl) (fun _ _ _ h => h) (by kernel_rfl) (Or.inl ⟨by rfl, ?_⟩) (by assumption) ?_
        rotate_left
        · intro w' hSw
          try dsimp only at hSw
          try obtain ⟨hSw, hSw2⟩ := hSw
          go_simp
          try with_reducible rfl
        show wpAnyZ _ _ _ _ _ _ _ _ (Act.put _ (some 58) _) _
        simp only [Act.put, List.setIfInBounds_toArray, List.set_cons_zero, List.set_cons_succ]
        refine wpAnyZ_take (i := 3) (v := ?_) rfl (by kernel_rfl) (by kernel_rfl) (by kernel_rfl) (fun _ _ _ h => h) (by kernel_rfl) (Or.inl ⟨by rfl, ?_⟩) (by assumption) ?_
        rotate_left
        · intro w' hSw
          try dsimp only at hSw
          try obtain ⟨hSw, hSw2⟩ := hSw
          go_simp
          try with_reducible rfl
        show wpAnyZ _ _ _ _ _ _ _ _ (Act.put _ (some 59) _) _
        simp only [Act.put, List.setIfInBounds_toArray, List.set_cons_zero, List.set_cons_succ]
        refine wpAnyZ_take (i := 4) (v := ?_) rfl (by kernel_rfl) (by kernel_rfl) (by kernel_rfl) (fun _ _ _ h => h) (by kernel_rfl) (Or.inl ⟨by rfl, ?_⟩) (by assumption) ?_
        rotate_left
        · intro w' hSw
          try dsimp only at hSw
          try obtain ⟨hSw, hSw2⟩ := hSw
          go_simp
          try with_reducible rfl
        show wpAnyZ _ _ _ _ _ _ _ _ (Act.put _ (some 60) _) _
        simp only [Act.put, List.setIfInBounds_toArray, List.set_cons_zero, List.set_cons_succ]
        refine wpAnyZ_take (i := 5) (v := ?_) rfl (by kernel_rfl) (by kernel_rfl) (by kernel_rfl) (fun _ _ _ h => h) (by kernel_rfl) (Or.inl ⟨by rfl, ?_⟩) (by assumption) ?_
        rotate_left
        · intro w' hSw
          try dsimp only at hSw
          try obtain ⟨hSw, hSw2⟩ := hSw
          go_simp
          try with_reducible rfl
        show wpAnyZ _ _ _ _ _ _ _ _ (Act.put _ (some 61) _) _
        simp only [Act.put, List.setIfInBounds_toArray, List.set_cons_zero, List.set_cons_succ]
        refine wpAnyZ_take (i := 6) (v := ?_) rfl (by kernel_rfl) (by kernel_rfl) (by kernel_rfl) (fun _ _ _ h => h) (by kernel_rfl) (Or.inl ⟨by rfl, ?_⟩) (by assumption) ?_
        rotate_left
        · intro w' hSw
          try dsimp only at hSw
          try obtain ⟨hSw, hSw2⟩ := hSw
          go_simp
          try with_reducible rfl
        show wpAnyZ _ _ _ _ _ _ _ _ (Act.put _ (some 62) _) _
        simp only [Act.put, List.setIfInBounds_toArray, List.set_cons_zero, List.set_cons_succ]
        refine wpAnyZ_take (i := 7) (v := ?_) rfl (by kernel_rfl) (by kernel_rfl) (by kernel_rfl) (fun _ _ _ h => h) (by kernel_rfl) (Or.inl ⟨by rfl, ?_⟩) (by assumption) ?_
        rotate_left
        · intro w' hSw
          try dsimp only at hSw
          try obtain ⟨hSw, hSw2⟩ := hSw
          go_simp
          try with_reducible rfl
        show wpAnyZ _ _ _ _ _ _ _ _ (Act.put _ (some 63) _) _
        simp only [Act.put, List.setIfInBounds_toArray, List.set_cons_zero, List.set_cons_succ]
        refine wpAnyZ_take (i := 8) (v := ?_) rfl (by kernel_rfl) (by kernel_rfl) (by kernel_rfl) (fun _ _ _ h => h) (by kernel_rfl) (Or.inl ⟨by rfl, ?_⟩) (by assumption) ?_
        rotate_left
        · intro w' hSw
          try dsimp only at hSw
          try obtain ⟨hSw, hSw2⟩ := hSw
          go_simp
          try with_reducible rfl
        show wpAnyZ _ _ _ _ _ _ _ _ (Act.put _ (some 64) _) _
        simp only [Act.put, List.setIfInBounds_toArray, List.set_cons_zero, List.set_cons_succ]
        refine wpAnyZ_take (i := 9) (v := ?_) rfl (by kernel_rfl) (by kernel_rfl) (by kernel_rfl) (fun _ _ _ h => h) (by kernel_rfl) (Or.inl ⟨by rfl, ?_⟩) (by assumption) ?_
        rotate_left
        · intro w' hSw
          try dsimp only at hSw
          try obtain ⟨hSw, hSw2⟩ := hSw
          go_simp
          try with_reducible rfl
        show wpAnyZ _ _ _ _ _ _ _ _ (Act.put _ (some 65) _) _
        simp only [Act.put, List.setIfInBounds_toArray, List.set_cons_zero, List.set_cons_succ]
        refine wpAnyZ_take (i := 10) (v := ?_) rfl (by kernel_rfl) (by kernel_rfl) (by kernel_rfl) (fun _ _ _ h => h) (by kernel_rfl) (Or.inl ⟨by rfl, ?_⟩) (by assumption) ?_
        rotate_left
        · intro w' hSw
          try dsimp only at hSw
          try obtain ⟨hSw, hSw2⟩ := hSw
          go_simp
          try with_reducible rfl
        show wpAnyZ _ _ _ _ _ _ _ _ (Act.put _ (some 66) _) _
        simp only [Act.put, List.setIfInBounds_toArray, List.set_cons_zero, List.set_cons_succ]
        refine wpAnyZ_take (i := 11) (v := ?_) rfl (by kernel_rfl) (by kernel_rfl) (by kernel_rfl) (fun _ _ _ h => h) (by kernel_rfl) (Or.inl ⟨by rfl, ?_⟩) (by assumption) ?_
        rotate_left
        · intro w' hSw
          try dsimp only at hSw
          try obtain ⟨hSw, hSw2⟩ := hSw
          go_simp
          try with_reducible rfl
        show wpAnyZ _ _ _ _ _ _ _ _ (Act.put _ (some 67) _) _
        simp only [Act.put, List.setIfInBounds_toArray, List.set_cons_zero, List.set_cons_succ]
        clear hSS
        refine wpAnyZ_one (i := 12) (by kernel_rfl) rfl rfl (fun K hK => ?_)
        go_simp
        have hq := rmonad13_any Y B HR.out.hB ax cx x (by rw [HXX.out]; exact HCX.out) HXL.out o pa pc HR.out.mon OKO.out
        unfold opV at hq
        rw [HXX.out] at hq
        refine hq.mono ?_
        rintro e W2 ⟨⟨v2, rfl, hv2⟩, hb2⟩
        have HR2 := Lib.hid (HR.out.next hb2); have HV2 := Lib.hid hv2
        have hc2 := keepCell hb2 HC0.out
        have hfz2 : W2.frozen? ⟨g, t, none⟩ = false := by have := World.frozen?_of_block (w := Y) (w' := W2) (a := ⟨g, t, none⟩) (hb2.block g hgl'); rw [this]; exact hfz'
        obtain ⟨va, vc, rfl, -, -⟩ := hv2.form
        obtain ⟨vl, hvl⟩ : ∃ m, (monadC x o).length = m := ⟨_, rfl⟩
        rw [hvl] at HV2 ⊢
        show K _ W2
        refine hK.out _ _ (.inr ⟨hc2, HR2.out.c0, HR2.out.c1, HR2.out.c2, HR2.out.c3, HR2.out.c4⟩) ?_
        clear hK hq hv2 hb2 hvl hfz' hgl' HR HCX HC0
        have hSS : (fun W' : World => W'.cell? ⟨g, t, none⟩ = some (.slice ax xl cx) ∧ (W'.cell? ⟨bo, off + k * 5, none⟩ = some (.int .i64 o.how) ∧ W'.cell? ⟨bo, off + k * 5 + 1, none⟩ = some (.int .i64 o.k) ∧ W'.cell? ⟨bo, off + k * 5 + 2, none⟩ = some (.int .i64 o.n) ∧ W'.cell? ⟨bo, off + k * 5 + 3, none⟩ = some (.slice pa o.p.length pc) ∧ W'.cell? ⟨bo, off + k * 5 + 4, none⟩ = some (.int .u8 o.fn))) W2 := ⟨hc2, HR2.out.c0, HR2.out.c1, HR2.out.c2, HR2.out.c3, HR2.out.c4⟩
        refine wpAnyZ_take (i := 13) (v := ?_) rfl (by kernel_rfl) (by kernel_rfl) (by kernel_rfl) (fun _ _ _ h => h) (by kernel_rfl) (Or.inl ⟨by rfl, ?_⟩) (by assumption) ?_
        rotate_left
        · intro w' hSw
          try dsimp only at hSw
          try obtain ⟨hSw, hSw2⟩ := hSw
          go_simp
          try with_reducible rfl
        show wpAnyZ _ _ _ _ _ _ _ _ (Act.put _ (some 69) _) _
        simp only [Act.put, List.setIfInBounds_toArray, List.set_cons_zero, List.set_cons_succ]
        clear hSS
        refine wpAnyZ_one (i := 14) (by kernel_rfl) rfl rfl (fun K hK => ?_)
        go_simp
        refine hK.out _ _ (.inl (by omega)) ?_
        clear hK
        refine wpAnyZ_done (by kernel_rfl) ?_ _
        have HSZ := Lib.hid (show Spine B (W2.setCell ⟨g, t, none⟩ (.slice va vl vc)) (.slice (some ⟨g, 0, none⟩) (t + 1) mc) (stackC (l.take (k + 1))) by
          rw [P5.out, HS.out, ← HSET.out]
          exact HR2.out.sp.set (i := t) (by rw [List.length_append, HTS.out]; simp) HGB.out HV2.out)
        have HBZ := Lib.hid (show Below B w (W2.setCell ⟨g, t, none⟩ (.slice va vl vc)) from HR2.out.b.setCell (by show B ≤ g; exact HGB.out) _)
        clear HR2 HV2 hc2 hfz2
        go_wp2_with fail
        go_roundw
        case rel => exact ⟨k + 1, by omega, by go_num, HBZ.out, HSZ.out⟩
        case measure => simp [intOf] <;> omega
      by_cases h6 : o.how = 6
      · skip
        have q2 : (o.how == 2) = false := by rw [beq_eq_false_iff_ne]; exact h2
        have q4 : (o.how == 4) = false := by rw [beq_eq_false_iff_ne]; exact h4
        have q5 : (o.how == 5) = false := by rw [beq_eq_false_iff_ne]; exact h5
        have HS := Lib.hid (fun st x y => step_dy h6 st x y)
        have ht : takesI o.how = 2 := by rw [h6]; rfl
        rw [ht] at p4
        obtain ⟨s1, y, rfl⟩ := snoc_of_pos (s := s) (by rw [HM.out]; omega)
        obtain ⟨st, x, rfl⟩ := snoc_of_pos (s := s1) (by have := HM.out; simp at this; omega)
        have hss : (st ++ [x]) ++ [y] = st ++ [x, y] := by simp
        rw [hss] at P5 HM HP2 HR
        obtain ⟨t, hst⟩ : ∃ t, st.length = t := ⟨_, rfl⟩
        obtain ⟨u, hu⟩ : ∃ u, t + 1 = u := ⟨_, rfl⟩
        have hmt : m = t + 2 := by rw [← HM.out, List.length_append, hst]; rfl
        have hm2 : (m : Int) - 2 = (t : Int) := by omega
        have hm1 : (m : Int) - 1 = (u : Int) := by omega
        have HU := Lib.hid hu; have HMT := Lib.hid hmt
        have hx : (st ++ [x, y])[t]'(by simp; omega) = x := by subst hst; simp
        have hy : (st ++ [x, y])[u]'(by simp; omega) = y := by subst hu; subst hst; simp
        have htk : (st ++ [x, y]).take t = st := by subst hst; simp
        have hsum : (st.map List.length).sum + (x.length + y.length) ≤ k := by have := HP2.out; simpa [Nat.add_assoc] using this
        have HXL := Lib.hid (show x.length + y.length + 1 ≤ 2513169434843 by omega)
        obtain ⟨g, cap, e, hgB, hgl, hcap, hmax, cur, hgc⟩ := HR.out.sp.form (by simp)
        simp only [Value.slice.injEq] at e
        obtain ⟨rfl, -, rfl⟩ := e
        have hcap2 : t ≤ mc := by have := HM.out; omega
        have sl := fun W => slice_hiL W g m mc t hcap2
        have hcapI : (t : Int) ≤ (mc : Int) := by omega
        obtain ⟨ax, cx, hc, hcx, hfz⟩ := HR.out.sp.at (i := t) (by simp; omega)
        obtain ⟨ay, cy, hd, hdx, -⟩ := HR.out.sp.at (i := u) (by simp; omega)
        rw [hx] at hc hcx; rw [hy] at hd hdx
        obtain ⟨xl, hxl⟩ : ∃ n, x.length = n := ⟨_, rfl⟩
        obtain ⟨yl, hyl⟩ : ∃ n, y.length = n := ⟨_, rfl⟩
        rw [hxl] at hc hcx; rw [hyl] at hd hdx
        have HTK := Lib.hid htk; have HXX := Lib.hid hxl; have HYY := Lib.hid hyl; have HCX := Lib.hid hcx; have HDX := Lib.hid hdx; have HC0 := Lib.hid hc; have HD0 := Lib.hid hd; have HTS := Lib.hid hst
        have HF := Lib.hid h6
        have htt : (t : Int) < (m : Int) := by omega
        have hwt : IntKind.i64.wrap (t : Int) = (t : Int) := by rw [IntKind.wrap_i64]; omega
        have hwu : IntKind.i64.wrap (u : Int) = (u : Int) := by rw [IntKind.wrap_i64]; omega
        have htt2 : (u : Int) < (m : Int) := by omega
        have ht0 : (0 : Int) ≤ (t : Int) := by omega
        have ht1 : (0 : Int) ≤ (u : Int) := by omega
        have htl : t + 1 ≤ 2513169434843 := by omega
        clear hsum htk hx hy hss hst ht p4 hgB hcx hdx hc hd hfz hgc hxl hyl hmax hcap hcap2 hu hmt h2 h4 h5 h6
        have y0 := HR.out.c0; have y1 := HR.out.c1; have y2 := HR.out.c2; have y3 := HR.out.c3; have y4 := HR.out.c4
        rw [HF.out] at y0
        go_upto_region 15 with fail
        clear y0 y1 y2 y3 y4
        refine wp_region_Z (S := fun W' => (W'.cell? ⟨g, t, none⟩ = some (.slice ax xl cx) ∧ W'.cell? ⟨g, u, none⟩ = some (.slice ay yl cy)) ∧ (W'.cell? ⟨bo, off + k * 5, none⟩ = some (.int .i64 o.how) ∧ W'.cell? ⟨bo, off + k * 5 + 1, none⟩ = some (.int .i64 o.k) ∧ W'.cell? ⟨bo, off + k * 5 + 2, none⟩ = some (.int .i64 o.n) ∧ W'.cell? ⟨bo, off + k * 5 + 3, none⟩ = some (.slice pa o.p.length pc) ∧ W'.cell? ⟨bo, off + k * 5 + 4, none⟩ = some (.int .u8 o.fn))) (z := 15) (by kernel_rfl) ?_
        have hdr : Below wr.heap.size wr wr.drew := (Below.refl _ _).drew
        have HR := Lib.hid (HR.out.next hdr); have HCX := Lib.hid (HCX.out.below hdr); have HDX := Lib.hid (HDX.out.below hdr); have hc := keepCell hdr HC0.out; have HC0 := Lib.hid hc; have hd := keepCell hdr HD0.out; have HD0 := Lib.hid hd
        clear hdr hc hd hgl
        generalize wr.drew = Y at HR HCX HDX HC0 HD0 ⊢
        have hSS : (fun W' : World => (W'.cell? ⟨g, t, none⟩ = some (.slice ax xl cx) ∧ W'.cell? ⟨g, u, none⟩ = some (.slice ay yl cy)) ∧ (W'.cell? ⟨bo, off + k * 5, none⟩ = some (.int .i64 o.how) ∧ W'.cell? ⟨bo, off + k * 5 + 1, none⟩ = some (.int .i64 o.k) ∧ W'.cell? ⟨bo, off + k * 5 + 2, none⟩ = some (.int .i64 o.n) ∧ W'.cell? ⟨bo, off + k * 5 + 3, none⟩ = some (.slice pa o.p.length pc) ∧ W'.cell? ⟨bo, off + k * 5 + 4, none⟩ = some (.int .u8 o.fn))) Y := ⟨⟨HC0.out, HD0.out⟩, HR.out.c0, HR.out.c1, HR.out.c2, HR.out.c3, HR.out.c4⟩
        refine wpAnyZ_take (i := 0) (v := ?_) rfl (by kernel_rfl) (by kernel_rfl) (by kernel_rfl) (fun _ _ _ h => h) (by kernel_rfl) (Or.inl ⟨by rfl, ?_⟩) (by assumption) ?_
        rotate_left
        · intro w' hSw
          try dsimp only at hSw
          try obtain ⟨hSw, hSw2⟩ := hSw
          go_simp
          try with_reducible rfl
        show wpAnyZ _ _ _ _ _ _ _ _ (Act.put _ (some 72) _) _
        simp only [Act.put, List.setIfInBounds_toArray, List.set_cons_zero, List.set_cons_succ]
        refine wpAnyZ_take (i := 1) (v := ?_) rfl (by kernel_rfl) (by kernel_rfl) (by kernel_rfl) (fun _ _ _ h => h) (by kernel_rfl) (Or.inl ⟨by rfl, ?_⟩) (by assumption) ?_
        rotate_left
        · intro w' hSw
          try dsimp only at hSw
          try obtain ⟨hSw, hSw2⟩ := hSw
          go_simp
          try with_reducible rfl
        show wpAnyZ _ _ _ _ _ _ _ _ (Act.put _ (some 73) _) _
        simp only [Act.put, List.setIfInBounds_toArray, List.set_cons_zero, List.set_cons_succ]
        refine wpAnyZ_take (i := 2) (v := ?_) rfl (by kernel_rfl) (by kernel_rfl) (by kernel_rfl) (fun _ _ _ h => h) (by kernel_rfl) (Or.inl ⟨by rfl, ?_⟩) (by assumption) ?_
        rotate_left
        · intro w' hSw
          try dsimp only at hSw
          try obtain ⟨hSw, hSw2⟩ := hSw
          go_simp
          try with_reducible rfl
        show wpAnyZ _ _ _ _ _ _ _ _ (Act.put _ (some 74) _) _
        simp only [Act.put, List.setIfInBounds_toArray, List.set_cons_zero, List.set_cons_succ]
        refine wpAnyZ_take (i := 3) (v := ?_) rfl (by kernel_rfl) (by kernel_rfl) (by kernel_rfl) (fun _ _ _ h => h) (by kernel_rfl) (Or.inl ⟨by rfl, ?_⟩) (by assumption) ?_
        rotate_left
        · intro w' hSw
          try dsimp only at hSw
          try obtain ⟨hSw, hSw2⟩ := hSw
          go_simp
          try with_reducible rfl
        show wpAnyZ _ _ _ _ _ _ _ _ (Act.put _ (some 75) _) _
        simp only [Act.put, List.setIfInBounds_toArray, List.set_cons_zero, List.set_cons_succ]
        refine wpAnyZ_take (i := 4) (v := ?_) rfl (by kernel_rfl) (by kernel_rfl) (by kernel_rfl) (fun _ _ _ h => h) (by kernel_rfl) (Or.inl ⟨by rfl, ?_⟩) (by assumption) ?_
        rotate_left
        · intro w' hSw
          try dsimp only at hSw
          try obtain ⟨hSw, hSw2⟩ := hSw
          go_simp
          try with_reducible rfl
        show wpAnyZ _ _ _ _ _ _ _ _ (Act.put _ (some 76) _) _
        simp only [Act.put, List.setIfInBounds_toArray, List.set_cons_zero, List.set_cons_succ]
        refine wpAnyZ_take (i := 5) (v := ?_) rfl (by kernel_rfl) (by kernel_rfl) (by kernel_rfl) (fun _ _ _ h => h) (by kernel_rfl) (Or.inl ⟨by rfl, ?_⟩) (by assumption) ?_
        rotate_left
        · intro w' hSw
          try dsimp only at hSw
          try obtain ⟨hSw, hSw2⟩ := hSw
          go_simp
          try with_reducible rfl
        show wpAnyZ _ _ _ _ _ _ _ _ (Act.put _ (some 77) _) _
        simp only [Act.put, List.setIfInBounds_toArray, List.set_cons_zero, List.set_cons_succ]
        refine wpAnyZ_take (i := 6) (v := ?_) rfl (by kernel_rfl) (by kernel_rfl) (by kernel_rfl) (fun _ _ _ h => h) (by kernel_rfl) (Or.inl ⟨by rfl, ?_⟩) (by assumption) ?_
        rotate_left
        · intro w' hSw
          try dsimp only at hSw
          try obtain ⟨hSw, hSw2⟩ := hSw
          go_simp
          try with_reducible rfl
        show wpAnyZ _ _ _ _ _ _ _ _ (Act.put _ (some 78) _) _
        simp only [Act.put, List.setIfInBounds_toArray, List.set_cons_zero, List.set_cons_succ]
        refine wpAnyZ_take (i := 7) (v := ?_) rfl (by kernel_rfl) (by kernel_rfl) (by kernel_rfl) (fun _ _ _ h => h) (by kernel_rfl) (Or.inl ⟨by rfl, ?_⟩) (by assumption) ?_
        rotate_left
        · intro w' hSw
          try dsimp only at hSw
          try obtain ⟨hSw, hSw2⟩ := hSw
          go_simp
          try with_reducible rfl
        show wpAnyZ _ _ _ _ _ _ _ _ (Act.put _ (some 79) _) _
        simp only [Act.put, List.setIfInBounds_toArray, List.set_cons_zero, List.set_cons_succ]
        refine wpAnyZ_take (i := 8) (v := ?_) rfl (by kernel_rfl) (by kernel_rfl) (by kernel_rfl) (fun _ _ _ h => h) (by kernel_rfl) (Or.inl ⟨by rfl, ?_⟩) (by assumption) ?_
        rotate_left
        · intro w' hSw
          try dsimp only at hSw
          try obtain ⟨hSw, hSw2⟩ := hSw
          go_simp
          try with_reducible rfl
        show wpAnyZ _ _ _ _ _ _ _ _ (Act.put _ (some 80) _) _
        simp only [Act.put, List.setIfInBounds_toArray, List.set_cons_zero, List.set_cons_succ]
        refine wpAnyZ_take (i := 9) (v := ?_) rfl (by kernel_rfl) (by kernel_rfl) (by kernel_rfl) (fun _ _ _ h => h) (by kernel_rfl) (Or.inl ⟨by rfl, ?_⟩) (by assumption) ?_
        rotate_left
        · intro w' hSw
          try dsimp only at hSw
          try obtain ⟨hSw, hSw2⟩ := hSw
          go_simp
          try with_reducible rfl
        show wpAnyZ _ _ _ _ _ _ _ _ (Act.put _ (some 81) _) _
        simp only [Act.put, List.setIfInBounds_toArray, List.set_cons_zero, List.set_cons_succ]
        refine wpAnyZ_take (i := 10) (v := ?_) rfl (by kernel_rfl) (by kernel_rfl) (by kernel_rfl) (fun _ _ _ h => h) (by kernel_rfl) (Or.inl ⟨by rfl, ?_⟩) (by assumption) ?_
        rotate_left
        · intro w' hSw
          try dsimp only at hSw
          try obtain ⟨hSw, hSw2⟩ := hSw
          go_simp
          try with_reducible rfl
        show wpAnyZ _ _ _ _ _ _ _ _ (Act.put _ (some 82) _) _
        simp only [Act.put, List.setIfInBounds_toArray, List.set_cons_zero, List.set_cons_succ]
        refine wpAnyZ_take (i := 11) (v := ?_) rfl (by kernel_rfl) (by kernel_rfl) (by kernel_rfl) (fun _ _ _ h => h) (by kernel_rfl) (Or.inl ⟨by rfl, ?_⟩) (by assumption) ?_
        rotate_left
        · intro w' hSw
          try dsimp only at hSw
          try obtain ⟨hSw, hSw2⟩ := hSw
          go_simp
          try with_reducible rfl
        show wpAnyZ _ _ _ _ _ _ _ _ (Act.put _ (some 83) _) _
        simp only [Act.put, List.setIfInBounds_toArray, List.set_cons_zero, List.set_cons_succ]
        refine wpAnyZ_take (i := 12) (v := ?_) rfl (by kernel_rfl) (by kernel_rfl) (by kernel_rfl) (fun _ _ _ h => h) (by kernel_rfl) (Or.inl ⟨by rfl, ?_⟩) (by assumption) ?_
        rotate_left
        · intro w' hSw
          try dsimp only at hSw
          try obtain ⟨hSw, hSw2⟩ := hSw
          go_simp
          try with_reducible rfl
        show wpAnyZ _ _ _ _ _ _ _ _ (Act.put _ (some 84) _) _
        simp only [Act.put, List.setIfInBounds_toArray, List.set_cons_zero, List.set_cons_succ]
        refine wpAnyZ_take (i := 13) (v := ?_) rfl (by kernel_rfl) (by kernel_rfl) (by kernel_rfl) (fun _ _ _ h => h) (by kernel_rfl) (Or.inl ⟨by rfl, ?_⟩) (by assumption) ?_
        rotate_left
        · intro w' hSw
          try dsimp only at hSw
          try obtain ⟨hSw, hSw2⟩ := hSw
          go_simp
          try with_reducible rfl
        show wpAnyZ _ _ _ _ _ _ _ _ (Act.put _ (some 85) _) _
        simp only [Act.put, List.setIfInBounds_toArray, List.set_cons_zero, List.set_cons_succ]
        clear hSS
        refine wpAnyZ_one (i := 14) (by kernel_rfl) rfl rfl (fun K hK => ?_)
        go_simp
        have hq := rdyad13_any Y B HR.out.hB ax ay cx cy x y (by rw [HXX.out]; exact HCX.out) (by rw [HYY.out]; exact HDX.out) HXL.out o pa pc HR.out.mon OKO.out
        unfold opV at hq
        rw [HXX.out, HYY.out] at hq
        refine hq.mono ?_
        rintro e W2 ⟨⟨v2, rfl, hv2⟩, hb2⟩
        have HR2 := Lib.hid (HR.out.next hb2); have HV2 := Lib.hid hv2
        have hc2 := keepCell hb2 HC0.out; have hd2 := keepCell hb2 HD0.out
        obtain ⟨va, vc, rfl, -, -⟩ := hv2.form
        obtain ⟨vl, hvl⟩ : ∃ m, (dyadC x y o).length = m := ⟨_, rfl⟩
        rw [hvl] at HV2 ⊢
        show K _ W2
        refine hK.out _ _ (.inr ⟨⟨hc2, hd2⟩, HR2.out.c0, HR2.out.c1, HR2.out.c2, HR2.out.c3, HR2.out.c4⟩) ?_
        clear hK hq hv2 hb2 hvl HR HCX HDX HC0 HD0 hc2 hd2
        refine wpAnyZ_one (i := 15) (by kernel_rfl) rfl rfl (fun K hK => ?_)
        go_simp
        refine hK.out _ _ (.inl (by omega)) ?_
        clear hK
        refine wpAnyZ_done (by kernel_rfl) ?_ _
        have hsp2 : Spine B W2 (.slice (some ⟨g, 0, none⟩) t mc) st := by have h := HR2.out.sp.take (m := t) (by rw [List.length_append, HTS.out]; simp); rw [HTK.out] at h; exact h
        obtain ⟨G, hG⟩ : ∃ G, W2.heap.size = G := ⟨_, rfl⟩
        have hba : Below W2.heap.size W2 (W2.alloc (.cells #[.slice va vl vc] 22)) := (Below.refl _ _).alloc (Nat.le_refl _) _
        have HR3 := Lib.hid (HR2.out.next hba); have HV3 := Lib.hid (HV2.out.below hba); have HS3 := Lib.hid (hsp2.next hba); have HG := Lib.hid (heap_new hG (o := .cells #[.slice va vl vc] 22))
        clear hba HR2 HV2 hsp2
        go_wp2_with (at_builtin; (refine wpList_push rfl _ _ rfl B G _ (.slice va vl vc) st _ rfl (by have := HS3.out; exact this) rfl HG.out HV3.out (by rw [HTS.out]; exact htl) HR3.out.hB ?_); intro v' wz hvz hbz hgz hnz)
        have HSZ := Lib.hid (show Spine B wz v' (stackC (l.take (k + 1))) by rw [P5.out, HS.out]; exact hvz)
        have HBZ := Lib.hid (HR3.out.b.trans hbz)
        clear hvz hbz hgz hnz HR3 HV3 HG hG HS3
        go_wp2_with fail
        go_roundw
        case rel => exact ⟨k + 1, by omega, by go_num, HBZ.out, HSZ.out⟩
        case measure => simp [intOf] <;> omega
      have q2 : (o.how == 2) = false := by rw [beq_eq_false_iff_ne]; exact h2
      have q4 : (o.how == 4) = false := by rw [beq_eq_false_iff_ne]; exact h4
      have q5 : (o.how == 5) = false := by rw [beq_eq_false_iff_ne]; exact h5
      have q6 : (o.how == 6) = false := by rw [beq_eq_false_iff_ne]; exact h6
      have HS := Lib.hid (step_else h2 h4 h5 h6 s)
      clear h2 h4 h5 h6
      have y0 := HR.out.c0; have y1 := HR.out.c1; have y2 := HR.out.c2; have y3 := HR.out.c3; have y4 := HR.out.c4
      obtain ⟨G1, hG1⟩ : ∃ G, wr.heap.size = G := ⟨_, rfl⟩
      have hlo := lit_one wr B G1 o _ hG1 HR.out.mon OKO.out
      have hba : Below wr.heap.size wr (wr.alloc (.cells #[.int .i64 o.how, .int .i64 o.k, .int .i64 o.n, .slice pa o.p.length pc, .int .u8 o.fn] 44)) := (Below.refl _ _).alloc (Nat.le_refl _) _
      obtain ⟨W2, hW2⟩ : ∃ W, wr.alloc (.cells #[.int .i64 o.how, .int .i64 o.k, .int .i64 o.n, .slice pa o.p.length pc, .int .u8 o.fn] 44) = W := ⟨_, rfl⟩
      have hs2 : W2.heap.size = G1 + 1 := by rw [← hW2]; simp; omega
      rw [hW2] at hlo hba
      have HR2 := HR.out.next hba
      have hbb : Below W2.heap.size W2 (W2.alloc (.cells #[.slice (some ⟨G1, 0, none⟩) 1 1] 22)) := (Below.refl _ _).alloc (Nat.le_refl _) _
      have HR3 := Lib.hid (HR2.next hbb); have HV3 := Lib.hid (hlo.below hbb); have HG := Lib.hid (heap_new hs2 (o := .cells #[.slice (some ⟨G1, 0, none⟩) 1 1] 22))
      rw [← hW2] at HR3 HV3 HG
      clear hlo hba hbb HR2 hW2 hs2 HR
      go_wp2_with (at_builtin; (refine wpList_push rfl _ _ rfl B (G1 + 1) _ (.slice (some ⟨G1, 0, none⟩) 1 1) s _ rfl (by have := HR3.out.sp; exact this) rfl HG.out HV3.out (by rw [HM.out]; omega) HR3.out.hB ?_); intro v' wz hvz hbz hgz hnz)
      have HSZ := Lib.hid (show Spine B wz v' (stackC (l.take (k + 1))) by rw [P5.out, HS.out]; exact hvz)
      have HBZ := Lib.hid (HR3.out.b.trans hbz)
      clear hvz hbz hgz hnz HR3 HV3 HG hG1
      go_wp2_with fail
      go_roundw
      case rel => exact ⟨k + 1, by omega, by go_num, HBZ.out, HSZ.out⟩
      case measure => simp [intOf] <;> omega
    · obtain rfl : n = k := by omega
      rw [← HN.out, List.take_length] at hsp
      have hsi := (simple_facts HD.out).1
      rw [hsi] at hsp
      obtain ⟨g, cap, rfl, hgB, hgl, -, -, cur, hgc⟩ := hsp.form (by simp)
      obtain ⟨ax, cx, hc, hcx, -⟩ := hsp.at (i := 0) (by simp)
      simp only [List.getElem_cons_zero] at hc hcx
      have HV := Lib.hid hcx; have HB := Lib.hid hb
      have e1 : [simpleC l].length = 1 := rfl
      rw [e1]
      clear hsp hcr hcx hb hsi hgc hlt e1 hBr
      go_wp2_with fail
      go_ret
      exact ⟨⟨_, rfl, HV.out⟩, HBB.out ▸ HB.out⟩
end Go.Proofs.Ytmlfeocdcjhhaaa
