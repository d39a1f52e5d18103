import Derived.Test.YtmlfeocdcjhhaaaPG25
import Derived.Test.YtmlfeocdcjhhaaaPG16
namespace Go.Proofs.Ytmlfeocdcjhhaaa
set_option maxRecDepth 100000
open Go.RowKit
set_option linter.unusedVariables false
set_option linter.unusedSimpArgs false
attribute [local go_sem ↓] Go.wp_at_zero Go.wp_at_succ

/-! windrowref13.dyad. -/

set_option maxHeartbeats 4000000 in
theorem rdyad13_3y (w : World) (B : Bd) (hB : B ≤ w.heap.size) (a a2 : Option Addr) (c c2 : Nat) (x y : List Cop) (hx : CopS B w (.slice a x.length c) x) (hy : CopS B w (.slice a2 y.length c2) y) (hl : x.length + y.length + 1 ≤ 2513169434843) (o : Cop) (pa : Option Addr) (pc : Nat) (hp : MonS B w (.slice pa o.p.length pc) o.p) (ho : OkO o) (hf : o.fn = 3) (g1 : onlyC x 1 = true) (h2 : twoC o.fn x y = none) :
    Calls Try.prog 63 #[.slice a x.length c, .slice a2 y.length c2, opV o pa pc] w (RetC B w (dyadC x y o)) := by
  rw [dyadC_y h2 (by unfold ruleY; rw [hf]; simp [*])]
  have H2 := Lib.hid h2
  have HF := Lib.hid hf
  clear h2 hf
  obtain ⟨k1, hk1⟩ : ∃ k, knownC x = k := ⟨_, rfl⟩
  obtain ⟨k2, hk2⟩ : ∃ k, knownC y = k := ⟨_, rfl⟩
  have HKX := Lib.hid hk1; have HKY := Lib.hid hk2
  have hi1 := fun n (h : k1 = some n) => known_in hx (hk1.trans h); have hi2 := fun n (h : k2 = some n) => known_in hy (hk2.trans h)
  have HI1 := Lib.hid hi1; have HI2 := Lib.hid hi2
  clear hi1 hi2 hk1 hk2
  obtain ⟨b1, hb1⟩ : ∃ b, k1.isSome = b := ⟨_, rfl⟩
  obtain ⟨b2, hb2⟩ : ∃ b, k2.isSome = b := ⟨_, rfl⟩
  have HB1 := Lib.hid hb1; have HB2 := Lib.hid hb2
  clear hb1 hb2
  have HX := Lib.hid hx; have HY := Lib.hid hy; have HP := Lib.hid hp; have OKO := Lib.hid ho; have HB0 := Lib.hid hB; have HLL := Lib.hid hl
  have HO := Lib.hid (OpBox.new w o (.slice pa o.p.length pc))
  have hmx := hx.le; have hmy := hy.le
  unfold opV
  clear hx hy hp ho hB hl
  go_enter Try.func63, Try.ntmps63
  go_upto_region 1 with fail
  refine gen_worldA (fun W => OpBox w W w.heap.size o (.slice pa o.p.length pc)) HO.out ?_
  rintro W hO
  have HO := Lib.hid hO
  clear hO
  have HQ := Lib.hid (rnumber_any W a c x (HX.out.below HO.out.b).els hmx)
  rw [HKX.out, HB1.out] at HQ
  go_wp2_with fail
  refine HQ.out.mono ?_
  rintro e W1 ⟨rfl, hb⟩
  have HO := Lib.hid (HO.out.next hb)
  clear hb HQ
  have HQ := Lib.hid (rnumber_any W1 a2 c2 y (HY.out.below HO.out.b).els hmy)
  rw [HKY.out, HB2.out] at HQ
  go_wp2_with fail
  refine HQ.out.mono ?_
  rintro e W2 ⟨rfl, hb⟩
  have HO := Lib.hid (HO.out.next hb)
  clear hb HQ
  have x4 := HO.out.c4
  obtain ⟨m, e0, hd⟩ : ∃ m e0, dyadF o.fn (k1.getD 0) (k2.getD 0) = (m, e0) := ⟨_, _, rfl⟩
  have hi1 : In64 (k1.getD 0) := by cases k1 with | none => (unfold In64; decide) | some p => exact HI1.out p rfl
  have hi2 : In64 (k2.getD 0) := by cases k2 with | none => (unfold In64; decide) | some p => exact HI2.out p rfl
  have HQ := Lib.hid (rdyad_at W2 o.fn (k1.getD 0) (k2.getD 0) m e0 hi1 hi2 hd)
  have htt : (k1.isSome && (k2.isSome && (e0 == 0))) = false := by
    have h2 := H2.out
    unfold twoC at h2
    rw [HKX.out, HKY.out] at h2
    cases k1 with
    | none => rfl
    | some p =>
      cases k2 with
      | none => rfl
      | some q =>
        dsimp only at h2
        rw [show dyadF o.fn p q = (m, e0) from hd] at h2
        show (e0 == 0) = false
        rw [beq_eq_false_iff_ne]
        intro h
        rw [if_pos h] at h2
        cases h2
  have HTT := Lib.hid htt
  clear hd hi1 hi2 htt
  go_wp2_with fail
  refine HQ.out.mono ?_
  rintro e W3 ⟨rfl, nd, rfl⟩
  have HO := Lib.hid (HO.out.next (Below.drewN W2 nd))
  clear HQ x4
  obtain ⟨W4, hW4⟩ : ∃ W, W2.drewN nd = W := ⟨_, rfl⟩
  rw [hW4] at HO ⊢
  clear hW4
  go_upto_region 4 with fail
  go_cut [38] (fun s38 wx => s38 = .bool false ∧ OpBox w wx w.heap.size o (.slice pa o.p.length pc))
  case first =>
    obtain ⟨b3, hb3⟩ : ∃ b, (e0 == 0) = b := ⟨_, rfl⟩
    have htt := HTT.out
    rw [HB1.out, HB2.out, hb3] at htt
    cases b1 with
    | false => (clear htt hb3); (go_wp2_with fail); (go_meet); (exact ⟨rfl, HO.out⟩)
    | true =>
      cases b2 with
      | false => (clear htt hb3); (go_wp2_with fail); (go_meet); (exact ⟨rfl, HO.out⟩)
      | true =>
        cases b3 with
        | false => (clear htt); (go_wp2_with fail); (go_meet); (exact ⟨rfl, HO.out⟩)
        | true => cases htt
  case rest =>
    obtain ⟨rfl, hcut⟩ := hcut
    clear HO
    have HO := Lib.hid hcut
    clear hcut
    have x4 := HO.out.c4
    rw [HF.out] at x4
    have HG1 := Lib.hid g1
    clear g1
    have hq := ris_any wc a c x 1 (HX.out.below HO.out.b).els hmx
    rw [HG1.out] at hq
    have HQ := Lib.hid hq
    clear hq
    go_wp2_with fail
    refine HQ.out.mono ?_
    rintro e U1 ⟨rfl, hb⟩
    have HO := Lib.hid (HO.out.next hb)
    clear hb HQ
    go_wp2_with fail
    go_ret
    exact ⟨⟨_, rfl, HY.out.below HO.out.b⟩, HO.out.b⟩
set_option maxHeartbeats 4000000 in
theorem rdyad13_3x (w : World) (B : Bd) (hB : B ≤ w.heap.size) (a a2 : Option Addr) (c c2 : Nat) (x y : List Cop) (hx : CopS B w (.slice a x.length c) x) (hy : CopS B w (.slice a2 y.length c2) y) (hl : x.length + y.length + 1 ≤ 2513169434843) (o : Cop) (pa : Option Addr) (pc : Nat) (hp : MonS B w (.slice pa o.p.length pc) o.p) (ho : OkO o) (hf : o.fn = 3) (g1 : onlyC x 1 = false) (g2 : onlyC y 1 = true) (h2 : twoC o.fn x y = none) :
    Calls Try.prog 63 #[.slice a x.length c, .slice a2 y.length c2, opV o pa pc] w (RetC B w (dyadC x y o)) := by
  rw [dyadC_x h2 (by unfold ruleY; rw [hf]; simp [*]) (by unfold ruleX; rw [hf]; simp [*])]
  have H2 := Lib.hid h2
  have HF := Lib.hid hf
  clear h2 hf
  obtain ⟨k1, hk1⟩ : ∃ k, knownC x = k := ⟨_, rfl⟩
  obtain ⟨k2, hk2⟩ : ∃ k, knownC y = k := ⟨_, rfl⟩
  have HKX := Lib.hid hk1; have HKY := Lib.hid hk2
  have hi1 := fun n (h : k1 = some n) => known_in hx (hk1.trans h); have hi2 := fun n (h : k2 = some n) => known_in hy (hk2.trans h)
  have HI1 := Lib.hid hi1; have HI2 := Lib.hid hi2
  clear hi1 hi2 hk1 hk2
  obtain ⟨b1, hb1⟩ : ∃ b, k1.isSome = b := ⟨_, rfl⟩
  obtain ⟨b2, hb2⟩ : ∃ b, k2.isSome = b := ⟨_, rfl⟩
  have HB1 := Lib.hid hb1; have HB2 := Lib.hid hb2
  clear hb1 hb2
  have HX := Lib.hid hx; have HY := Lib.hid hy; have HP := Lib.hid hp; have OKO := Lib.hid ho; have HB0 := Lib.hid hB; have HLL := Lib.hid hl
  have HO := Lib.hid (OpBox.new w o (.slice pa o.p.length pc))
  have hmx := hx.le; have hmy := hy.le
  unfold opV
  clear hx hy hp ho hB hl
  go_enter Try.func63, Try.ntmps63
  go_upto_region 1 with fail
  refine gen_worldA (fun W => OpBox w W w.heap.size o (.slice pa o.p.length pc)) HO.out ?_
  rintro W hO
  have HO := Lib.hid hO
  clear hO
  have HQ := Lib.hid (rnumber_any W a c x (HX.out.below HO.out.b).els hmx)
  rw [HKX.out, HB1.out] at HQ
  go_wp2_with fail
  refine HQ.out.mono ?_
  rintro e W1 ⟨rfl, hb⟩
  have HO := Lib.hid (HO.out.next hb)
  clear hb HQ
  have HQ := Lib.hid (rnumber_any W1 a2 c2 y (HY.out.below HO.out.b).els hmy)
  rw [HKY.out, HB2.out] at HQ
  go_wp2_with fail
  refine HQ.out.mono ?_
  rintro e W2 ⟨rfl, hb⟩
  have HO := Lib.hid (HO.out.next hb)
  clear hb HQ
  have x4 := HO.out.c4
  obtain ⟨m, e0, hd⟩ : ∃ m e0, dyadF o.fn (k1.getD 0) (k2.getD 0) = (m, e0) := ⟨_, _, rfl⟩
  have hi1 : In64 (k1.getD 0) := by cases k1 with | none => (unfold In64; decide) | some p => exact HI1.out p rfl
  have hi2 : In64 (k2.getD 0) := by cases k2 with | none => (unfold In64; decide) | some p => exact HI2.out p rfl
  have HQ := Lib.hid (rdyad_at W2 o.fn (k1.getD 0) (k2.getD 0) m e0 hi1 hi2 hd)
  have htt : (k1.isSome && (k2.isSome && (e0 == 0))) = false := by
    have h2 := H2.out
    unfold twoC at h2
    rw [HKX.out, HKY.out] at h2
    cases k1 with
    | none => rfl
    | some p =>
      cases k2 with
      | none => rfl
      | some q =>
        dsimp only at h2
        rw [show dyadF o.fn p q = (m, e0) from hd] at h2
        show (e0 == 0) = false
        rw [beq_eq_false_iff_ne]
        intro h
        rw [if_pos h] at h2
        cases h2
  have HTT := Lib.hid htt
  clear hd hi1 hi2 htt
  go_wp2_with fail
  refine HQ.out.mono ?_
  rintro e W3 ⟨rfl, nd, rfl⟩
  have HO := Lib.hid (HO.out.next (Below.drewN W2 nd))
  clear HQ x4
  obtain ⟨W4, hW4⟩ : ∃ W, W2.drewN nd = W := ⟨_, rfl⟩
  rw [hW4] at HO ⊢
  clear hW4
  go_upto_region 4 with fail
  go_cut [38] (fun s38 wx => s38 = .bool false ∧ OpBox w wx w.heap.size o (.slice pa o.p.length pc))
  case first =>
    obtain ⟨b3, hb3⟩ : ∃ b, (e0 == 0) = b := ⟨_, rfl⟩
    have htt := HTT.out
    rw [HB1.out, HB2.out, hb3] at htt
    cases b1 with
    | false => (clear htt hb3); (go_wp2_with fail); (go_meet); (exact ⟨rfl, HO.out⟩)
    | true =>
      cases b2 with
      | false => (clear htt hb3); (go_wp2_with fail); (go_meet); (exact ⟨rfl, HO.out⟩)
      | true =>
        cases b3 with
        | false => (clear htt); (go_wp2_with fail); (go_meet); (exact ⟨rfl, HO.out⟩)
        | true => cases htt
  case rest =>
    obtain ⟨rfl, hcut⟩ := hcut
    clear HO
    have HO := Lib.hid hcut
    clear hcut
    have x4 := HO.out.c4
    rw [HF.out] at x4
    have HG1 := Lib.hid g1; have HG2 := Lib.hid g2
    clear g1 g2
    have hq := ris_any wc a c x 1 (HX.out.below HO.out.b).els hmx
    rw [HG1.out] at hq
    have HQ := Lib.hid hq
    clear hq
    go_wp2_with fail
    refine HQ.out.mono ?_
    rintro e U1 ⟨rfl, hb⟩
    have HO := Lib.hid (HO.out.next hb)
    clear hb HQ
    have hq := ris_any U1 a2 c2 y 1 (HY.out.below HO.out.b).els hmy
    rw [HG2.out] at hq
    have HQ := Lib.hid hq
    clear hq
    go_wp2_with fail
    refine HQ.out.mono ?_
    rintro e U2 ⟨rfl, hb⟩
    have HO := Lib.hid (HO.out.next hb)
    clear hb HQ
    go_wp2_with fail
    go_ret
    exact ⟨⟨_, rfl, HX.out.below HO.out.b⟩, HO.out.b⟩
set_option maxHeartbeats 4000000 in
theorem rdyad13_3z1 (w : World) (B : Bd) (hB : B ≤ w.heap.size) (a a2 : Option Addr) (c c2 : Nat) (x y : List Cop) (hx : CopS B w (.slice a x.length c) x) (hy : CopS B w (.slice a2 y.length c2) y) (hl : x.length + y.length + 1 ≤ 2513169434843) (o : Cop) (pa : Option Addr) (pc : Nat) (hp : MonS B w (.slice pa o.p.length pc) o.p) (ho : OkO o) (hf : o.fn = 3) (g1 : onlyC x 1 = false) (g2 : onlyC y 1 = false) (g3 : onlyC x 0 = true) (g4 : harmC y = true) (h2 : twoC o.fn x y = none) :
    Calls Try.prog 63 #[.slice a x.length c, .slice a2 y.length c2, opV o pa pc] w (RetC B w (dyadC x y o)) := by
  rw [dyadC_z h2 (by unfold ruleY; rw [hf]; simp [*]) (by unfold ruleX; rw [hf]; simp [*]) (by unfold ruleZ; rw [hf]; simp [*])]
  have H2 := Lib.hid h2
  have HF := Lib.hid hf
  clear h2 hf
  obtain ⟨k1, hk1⟩ : ∃ k, knownC x = k := ⟨_, rfl⟩
  obtain ⟨k2, hk2⟩ : ∃ k, knownC y = k := ⟨_, rfl⟩
  have HKX := Lib.hid hk1; have HKY := Lib.hid hk2
  have hi1 := fun n (h : k1 = some n) => known_in hx (hk1.trans h); have hi2 := fun n (h : k2 = some n) => known_in hy (hk2.trans h)
  have HI1 := Lib.hid hi1; have HI2 := Lib.hid hi2
  clear hi1 hi2 hk1 hk2
  obtain ⟨b1, hb1⟩ : ∃ b, k1.isSome = b := ⟨_, rfl⟩
  obtain ⟨b2, hb2⟩ : ∃ b, k2.isSome = b := ⟨_, rfl⟩
  have HB1 := Lib.hid hb1; have HB2 := Lib.hid hb2
  clear hb1 hb2
  have HX := Lib.hid hx; have HY := Lib.hid hy; have HP := Lib.hid hp; have OKO := Lib.hid ho; have HB0 := Lib.hid hB; have HLL := Lib.hid hl
  have HO := Lib.hid (OpBox.new w o (.slice pa o.p.length pc))
  have hmx := hx.le; have hmy := hy.le
  unfold opV
  clear hx hy hp ho hB hl
  go_enter Try.func63, Try.ntmps63
  go_upto_region 1 with fail
  refine gen_worldA (fun W => OpBox w W w.heap.size o (.slice pa o.p.length pc)) HO.out ?_
  rintro W hO
  have HO := Lib.hid hO
  clear hO
  have HQ := Lib.hid (rnumber_any W a c x (HX.out.below HO.out.b).els hmx)
  rw [HKX.out, HB1.out] at HQ
  go_wp2_with fail
  refine HQ.out.mono ?_
  rintro e W1 ⟨rfl, hb⟩
  have HO := Lib.hid (HO.out.next hb)
  clear hb HQ
  have HQ := Lib.hid (rnumber_any W1 a2 c2 y (HY.out.below HO.out.b).els hmy)
  rw [HKY.out, HB2.out] at HQ
  go_wp2_with fail
  refine HQ.out.mono ?_
  rintro e W2 ⟨rfl, hb⟩
  have HO := Lib.hid (HO.out.next hb)
  clear hb HQ
  have x4 := HO.out.c4
  obtain ⟨m, e0, hd⟩ : ∃ m e0, dyadF o.fn (k1.getD 0) (k2.getD 0) = (m, e0) := ⟨_, _, rfl⟩
  have hi1 : In64 (k1.getD 0) := by cases k1 with | none => (unfold In64; decide) | some p => exact HI1.out p rfl
  have hi2 : In64 (k2.getD 0) := by cases k2 with | none => (unfold In64; decide) | some p => exact HI2.out p rfl
  have HQ := Lib.hid (rdyad_at W2 o.fn (k1.getD 0) (k2.getD 0) m e0 hi1 hi2 hd)
  have htt : (k1.isSome && (k2.isSome && (e0 == 0))) = false := by
    have h2 := H2.out
    unfold twoC at h2
    rw [HKX.out, HKY.out] at h2
    cases k1 with
    | none => rfl
    | some p =>
      cases k2 with
      | none => rfl
      | some q =>
        dsimp only at h2
        rw [show dyadF o.fn p q = (m, e0) from hd] at h2
        show (e0 == 0) = false
        rw [beq_eq_false_iff_ne]
        intro h
        rw [if_pos h] at h2
        cases h2
  have HTT := Lib.hid htt
  clear hd hi1 hi2 htt
  go_wp2_with fail
  refine HQ.out.mono ?_
  rintro e W3 ⟨rfl, nd, rfl⟩
  have HO := Lib.hid (HO.out.next (Below.drewN W2 nd))
  clear HQ x4
  obtain ⟨W4, hW4⟩ : ∃ W, W2.drewN nd = W := ⟨_, rfl⟩
  rw [hW4] at HO ⊢
  clear hW4
  go_upto_region 4 with fail
  go_cut [38] (fun s38 wx => s38 = .bool false ∧ OpBox w wx w.heap.size o (.slice pa o.p.length pc))
  case first =>
    obtain ⟨b3, hb3⟩ : ∃ b, (e0 == 0) = b := ⟨_, rfl⟩
    have htt := HTT.out
    rw [HB1.out, HB2.out, hb3] at htt
    cases b1 with
    | false => (clear htt hb3); (go_wp2_with fail); (go_meet); (exact ⟨rfl, HO.out⟩)
    | true =>
      cases b2 with
      | false => (clear htt hb3); (go_wp2_with fail); (go_meet); (exact ⟨rfl, HO.out⟩)
      | true =>
        cases b3 with
        | false => (clear htt); (go_wp2_with fail); (go_meet); (exact ⟨rfl, HO.out⟩)
        | true => cases htt
  case rest =>
    obtain ⟨rfl, hcut⟩ := hcut
    clear HO
    have HO := Lib.hid hcut
    clear hcut
    have x4 := HO.out.c4
    rw [HF.out] at x4
    have HG1 := Lib.hid g1; have HG2 := Lib.hid g2; have HG3 := Lib.hid g3; have HG4 := Lib.hid g4
    have HN := Lib.hid (fun W hL => rlist_any W B hL 0 (by unfold I64; omega))
    clear g1 g2 g3 g4
    have hq := ris_any wc a c x 1 (HX.out.below HO.out.b).els hmx
    rw [HG1.out] at hq
    have HQ := Lib.hid hq
    clear hq
    go_wp2_with fail
    refine HQ.out.mono ?_
    rintro e U1 ⟨rfl, hb⟩
    have HO := Lib.hid (HO.out.next hb)
    clear hb HQ
    have hq := ris_any U1 a2 c2 y 1 (HY.out.below HO.out.b).els hmy
    rw [HG2.out] at hq
    have HQ := Lib.hid hq
    clear hq
    go_wp2_with fail
    refine HQ.out.mono ?_
    rintro e U2 ⟨rfl, hb⟩
    have HO := Lib.hid (HO.out.next hb)
    clear hb HQ
    have hq := ris_any U2 a c x 0 (HX.out.below HO.out.b).els hmx
    rw [HG3.out] at hq
    have HQ := Lib.hid hq
    clear hq
    go_wp2_with fail
    refine HQ.out.mono ?_
    rintro e U3 ⟨rfl, hb⟩
    have HO := Lib.hid (HO.out.next hb)
    clear hb HQ
    have hq := rharmless_any U3 a2 c2 y (HY.out.below HO.out.b).els hmy
    rw [HG4.out] at hq
    have HQ := Lib.hid hq
    clear hq
    go_wp2_with fail
    refine HQ.out.mono ?_
    rintro e U4 ⟨rfl, hb⟩
    have HO := Lib.hid (HO.out.next hb)
    clear hb HQ
    have HQ := Lib.hid (HN.out U4 (Nat.le_trans (Bd.low HB0.out) HO.out.b.size))
    go_wp2_with fail
    refine HQ.out.mono ?_
    rintro e w2 ⟨⟨v2, rfl, hv2⟩, hb2⟩
    go_wp2_with fail
    go_ret
    exact ⟨⟨_, rfl, hv2⟩, bNext hb2 HO.out.b⟩
set_option maxHeartbeats 4000000 in
theorem rdyad13_3nono (w : World) (B : Bd) (hB : B ≤ w.heap.size) (a a2 : Option Addr) (c c2 : Nat) (x y : List Cop) (hx : CopS B w (.slice a x.length c) x) (hy : CopS B w (.slice a2 y.length c2) y) (hl : x.length + y.length + 1 ≤ 2513169434843) (o : Cop) (pa : Option Addr) (pc : Nat) (hp : MonS B w (.slice pa o.p.length pc) o.p) (ho : OkO o) (hf : o.fn = 3) (g1 : onlyC x 1 = false) (g2 : onlyC y 1 = false) (g3 : onlyC x 0 = false) (g5 : onlyC y 0 = false) (h2 : twoC o.fn x y = none) :
    Calls Try.prog 63 #[.slice a x.length c, .slice a2 y.length c2, opV o pa pc] w (RetC B w (dyadC x y o)) := by
  rw [dyadC_j h2 (by unfold ruleY; rw [hf]; simp [*]) (by unfold ruleX; rw [hf]; simp [*]) (by unfold ruleZ; rw [hf]; simp [*])]
  have H2 := Lib.hid h2
  have HF := Lib.hid hf
  clear h2 hf
  obtain ⟨k1, hk1⟩ : ∃ k, knownC x = k := ⟨_, rfl⟩
  obtain ⟨k2, hk2⟩ : ∃ k, knownC y = k := ⟨_, rfl⟩
  have HKX := Lib.hid hk1; have HKY := Lib.hid hk2
  have hi1 := fun n (h : k1 = some n) => known_in hx (hk1.trans h); have hi2 := fun n (h : k2 = some n) => known_in hy (hk2.trans h)
  have HI1 := Lib.hid hi1; have HI2 := Lib.hid hi2
  clear hi1 hi2 hk1 hk2
  obtain ⟨b1, hb1⟩ : ∃ b, k1.isSome = b := ⟨_, rfl⟩
  obtain ⟨b2, hb2⟩ : ∃ b, k2.isSome = b := ⟨_, rfl⟩
  have HB1 := Lib.hid hb1; have HB2 := Lib.hid hb2
  clear hb1 hb2
  have HX := Lib.hid hx; have HY := Lib.hid hy; have HP := Lib.hid hp; have OKO := Lib.hid ho; have HB0 := Lib.hid hB; have HLL := Lib.hid hl
  have HO := Lib.hid (OpBox.new w o (.slice pa o.p.length pc))
  have hmx := hx.le; have hmy := hy.le
  unfold opV
  clear hx hy hp ho hB hl
  go_enter Try.func63, Try.ntmps63
  go_upto_region 1 with fail
  refine gen_worldA (fun W => OpBox w W w.heap.size o (.slice pa o.p.length pc)) HO.out ?_
  rintro W hO
  have HO := Lib.hid hO
  clear hO
  have HQ := Lib.hid (rnumber_any W a c x (HX.out.below HO.out.b).els hmx)
  rw [HKX.out, HB1.out] at HQ
  go_wp2_with fail
  refine HQ.out.mono ?_
  rintro e W1 ⟨rfl, hb⟩
  have HO := Lib.hid (HO.out.next hb)
  clear hb HQ
  have HQ := Lib.hid (rnumber_any W1 a2 c2 y (HY.out.below HO.out.b).els hmy)
  rw [HKY.out, HB2.out] at HQ
  go_wp2_with fail
  refine HQ.out.mono ?_
  rintro e W2 ⟨rfl, hb⟩
  have HO := Lib.hid (HO.out.next hb)
  clear hb HQ
  have x4 := HO.out.c4
  obtain ⟨m, e0, hd⟩ : ∃ m e0, dyadF o.fn (k1.getD 0) (k2.getD 0) = (m, e0) := ⟨_, _, rfl⟩
  have hi1 : In64 (k1.getD 0) := by cases k1 with | none => (unfold In64; decide) | some p => exact HI1.out p rfl
  have hi2 : In64 (k2.getD 0) := by cases k2 with | none => (unfold In64; decide) | some p => exact HI2.out p rfl
  have HQ := Lib.hid (rdyad_at W2 o.fn (k1.getD 0) (k2.getD 0) m e0 hi1 hi2 hd)
  have htt : (k1.isSome && (k2.isSome && (e0 == 0))) = false := by
    have h2 := H2.out
    unfold twoC at h2
    rw [HKX.out, HKY.out] at h2
    cases k1 with
    | none => rfl
    | some p =>
      cases k2 with
      | none => rfl
      | some q =>
        dsimp only at h2
        rw [show dyadF o.fn p q = (m, e0) from hd] at h2
        show (e0 == 0) = false
        rw [beq_eq_false_iff_ne]
        intro h
        rw [if_pos h] at h2
        cases h2
  have HTT := Lib.hid htt
  clear hd hi1 hi2 htt
  go_wp2_with fail
  refine HQ.out.mono ?_
  rintro e W3 ⟨rfl, nd, rfl⟩
  have HO := Lib.hid (HO.out.next (Below.drewN W2 nd))
  clear HQ x4
  obtain ⟨W4, hW4⟩ : ∃ W, W2.drewN nd = W := ⟨_, rfl⟩
  rw [hW4] at HO ⊢
  clear hW4
  go_upto_region 4 with fail
  go_cut [38] (fun s38 wx => s38 = .bool false ∧ OpBox w wx w.heap.size o (.slice pa o.p.length pc))
  case first =>
    obtain ⟨b3, hb3⟩ : ∃ b, (e0 == 0) = b := ⟨_, rfl⟩
    have htt := HTT.out
    rw [HB1.out, HB2.out, hb3] at htt
    cases b1 with
    | false => (clear htt hb3); (go_wp2_with fail); (go_meet); (exact ⟨rfl, HO.out⟩)
    | true =>
      cases b2 with
      | false => (clear htt hb3); (go_wp2_with fail); (go_meet); (exact ⟨rfl, HO.out⟩)
      | true =>
        cases b3 with
        | false => (clear htt); (go_wp2_with fail); (go_meet); (exact ⟨rfl, HO.out⟩)
        | true => cases htt
  case rest =>
    obtain ⟨rfl, hcut⟩ := hcut
    clear HO
    have HO := Lib.hid hcut
    clear hcut
    have x4 := HO.out.c4
    rw [HF.out] at x4
    have HG1 := Lib.hid g1; have HG2 := Lib.hid g2; have HG3 := Lib.hid g3; have HG5 := Lib.hid g5
    clear g1 g2 g3 g5
    have hq := ris_any wc a c x 1 (HX.out.below HO.out.b).els hmx
    rw [HG1.out] at hq
    have HQ := Lib.hid hq
    clear hq
    go_wp2_with fail
    refine HQ.out.mono ?_
    rintro e U1 ⟨rfl, hb⟩
    have HO := Lib.hid (HO.out.next hb)
    clear hb HQ
    have hq := ris_any U1 a2 c2 y 1 (HY.out.below HO.out.b).els hmy
    rw [HG2.out] at hq
    have HQ := Lib.hid hq
    clear hq
    go_wp2_with fail
    refine HQ.out.mono ?_
    rintro e U2 ⟨rfl, hb⟩
    have HO := Lib.hid (HO.out.next hb)
    clear hb HQ
    have hq := ris_any U2 a c x 0 (HX.out.below HO.out.b).els hmx
    rw [HG3.out] at hq
    have HQ := Lib.hid hq
    clear hq
    go_wp2_with fail
    refine HQ.out.mono ?_
    rintro e U3 ⟨rfl, hb⟩
    have HO := Lib.hid (HO.out.next hb)
    clear hb HQ
    have hq := ris_any U3 a2 c2 y 0 (HY.out.below HO.out.b).els hmy
    rw [HG5.out] at hq
    have HQ := Lib.hid hq
    clear hq
    go_wp2_with fail
    refine HQ.out.mono ?_
    rintro e U5 ⟨rfl, hb⟩
    have HO := Lib.hid (HO.out.next hb)
    clear hb HQ
    go_upto_region 26 with fail
    refine wp_region_Z (S := fun W' => W'.cell? ⟨w.heap.size, 0, none⟩ = some (.int .i64 o.how) ∧ W'.cell? ⟨w.heap.size, 1, none⟩ = some (.int .i64 o.k) ∧ W'.cell? ⟨w.heap.size, 2, none⟩ = some (.int .i64 o.n) ∧ W'.cell? ⟨w.heap.size, 3, none⟩ = some (.slice pa o.p.length pc) ∧ W'.cell? ⟨w.heap.size, 4, none⟩ = some (.int .u8 o.fn)) (z := 7) (by kernel_rfl) ?_
    have HO := Lib.hid (HO.out.next (show Below U5.heap.size U5 U5.drew from (Below.refl _ _).drew))
    generalize U5.drew = Y at HO ⊢
    have hSS : (fun W' : World => W'.cell? ⟨w.heap.size, 0, none⟩ = some (.int .i64 o.how) ∧ W'.cell? ⟨w.heap.size, 1, none⟩ = some (.int .i64 o.k) ∧ W'.cell? ⟨w.heap.size, 2, none⟩ = some (.int .i64 o.n) ∧ W'.cell? ⟨w.heap.size, 3, none⟩ = some (.slice pa o.p.length pc) ∧ W'.cell? ⟨w.heap.size, 4, none⟩ = some (.int .u8 o.fn)) Y := ⟨HO.out.c0, HO.out.c1, HO.out.c2, HO.out.c3, HO.out.c4⟩
    refine wpAnyZ_take (i := 1) (v := ?_) rfl (by kernel_rfl) (by kernel_rfl) (by kernel_rfl) (fun _ _ _ h => h) (by kernel_rfl) (Or.inl ⟨by rfl, ?_⟩) (by assumption) ?_
    rotate_left
    · intro w' hSw
      try dsimp only at hSw
      try obtain ⟨hSw, hSw2⟩ := hSw
      go_simp
      try with_reducible rfl
    show wpAnyZ _ _ _ _ _ _ _ _ (Act.put _ (some 86) _) _
    simp only [Act.put, List.setIfInBounds_toArray, List.set_cons_zero, List.set_cons_succ]
    refine wpAnyZ_take (i := 3) (v := ?_) rfl (by kernel_rfl) (by kernel_rfl) (by kernel_rfl) (fun _ _ _ h => h) (by kernel_rfl) (Or.inl ⟨by rfl, ?_⟩) (by assumption) ?_
    rotate_left
    · intro w' hSw
      try dsimp only at hSw
      try obtain ⟨hSw, hSw2⟩ := hSw
      go_simp
      try with_reducible rfl
    show wpAnyZ _ _ _ _ _ _ _ _ (Act.put _ (some 88) _) _
    simp only [Act.put, List.setIfInBounds_toArray, List.set_cons_zero, List.set_cons_succ]
    refine wpAnyZ_take (i := 5) (v := ?_) rfl (by kernel_rfl) (by kernel_rfl) (by kernel_rfl) (fun _ _ _ h => h) (by kernel_rfl) (Or.inl ⟨by rfl, ?_⟩) (by assumption) ?_
    rotate_left
    · intro w' hSw
      try dsimp only at hSw
      try obtain ⟨hSw, hSw2⟩ := hSw
      go_simp
      try with_reducible rfl
    show wpAnyZ _ _ _ _ _ _ _ _ (Act.put _ (some 90) _) _
    simp only [Act.put, List.setIfInBounds_toArray, List.set_cons_zero, List.set_cons_succ]
    clear hSS
    obtain ⟨M, hM⟩ : ∃ M, Y.heap.size = M := ⟨_, rfl⟩
    have HMM := Lib.hid hM
    have HB := Lib.hid (show Below M Y Y from Below.refl _ _)
    have HBM := Lib.hid (show B ≤ M by rw [← hM]; exact Nat.le_trans HB0.out HO.out.b.size)
    clear hM
    refine wpAnyZ_one (i := 0) (by kernel_rfl) rfl rfl (fun K hK => ?_)
    go_simp
    obtain ⟨g0, hg0⟩ : ∃ b, Y.heap.size = b := ⟨_, rfl⟩
    have E0 := Lib.hid (RowC.new (B := B) (M := M) (by have := HB.out.size; have h2 := HMM.out; omega) hg0)
    have HB := Lib.hid (HB.out.alloc (by have := HB.out.size; have h2 := HMM.out; omega) (.cells #[] 44))
    rw [hg0]
    refine hK.out _ _ (.inr (by have h := HO.out.next (HMM.out ▸ HB.out); exact ⟨h.c0, h.c1, h.c2, h.c3, h.c4⟩)) ?_
    clear hK hg0
    generalize Y.alloc (.cells #[] 44) = Y1 at *
    refine wpAnyZ_one (i := 2) (by kernel_rfl) rfl rfl (fun K hK => ?_)
    refine wp_appC (.tmp 85) (.tmp 86) rfl B M (.slice (some ⟨g0, 0, none⟩) 0 0) [] x (.slice a x.length c) rfl E0.out rfl (HX.out.below (bNext (HMM.out ▸ HB.out) HO.out.b)) (by have := HLL.out; simp; omega) HBM.out (by have := HB.out.size; have h2 := HMM.out; omega) ?_
    intro v2 Y2 hr hb hg
    have R2 := Lib.hid (show RowC B M _ v2 x from hr)
    have HB := Lib.hid (HB.out.trans hb)
    refine hK.out _ _ (.inr (by have h := HO.out.next (HMM.out ▸ HB.out); exact ⟨h.c0, h.c1, h.c2, h.c3, h.c4⟩)) ?_
    clear hK hr hb hg E0
    refine wpAnyZ_one (i := 4) (by kernel_rfl) rfl rfl (fun K hK => ?_)
    refine wp_appC (.tmp 87) (.tmp 88) rfl B M v2 x y (.slice a2 y.length c2) rfl R2.out rfl (HY.out.below (bNext (HMM.out ▸ HB.out) HO.out.b)) (by have := HLL.out; omega) HBM.out (by have := HB.out.size; have h2 := HMM.out; omega) ?_
    intro v3 Y3 hr hb hg
    have R3 := Lib.hid (hr.cop (Bd.low HBM.out))
    have HB := Lib.hid (HB.out.trans hb)
    refine hK.out _ _ (.inr (by have h := HO.out.next (HMM.out ▸ HB.out); exact ⟨h.c0, h.c1, h.c2, h.c3, h.c4⟩)) ?_
    clear hK hr hb hg R2
    obtain ⟨a3, c3, rfl, -, -⟩ := R3.out.form
    have HO3 := Lib.hid (HO.out.next (HMM.out ▸ HB.out))
    have hq := behind_any Y3 B (Nat.le_trans HB0.out HO3.out.b.size) a3 c3 (x ++ y) R3.out (by have := HLL.out; rw [List.length_append]; omega) o pa pc (HP.out.below HO3.out.b) OKO.out
    unfold opV at hq
    refine wpAnyZ_one (i := 6) (by kernel_rfl) rfl rfl (fun K hK => ?_)
    go_simp
    first | refine hq.mono ?_ | (rw [List.length_append] at hq; refine hq.mono ?_)
    rintro e' Y4 ⟨⟨v4, rfl, hv4⟩, hb4⟩
    have HO4 := HO3.out.next hb4
    show K _ Y4
    refine hK.out _ _ (.inr ⟨HO4.c0, HO4.c1, HO4.c2, HO4.c3, HO4.c4⟩) ?_
    clear hK
    refine wpAnyZ_one (i := 7) (by kernel_rfl) rfl rfl (fun K hK => ?_)
    go_simp
    refine hK.out _ _ (.inl (by omega)) ?_
    clear hK
    refine wpAnyZ_done (by kernel_rfl) ?_ _
    go_wp2_with fail
    go_ret
    exact ⟨⟨_, rfl, hv4⟩, HO4.b⟩
set_option maxHeartbeats 4000000 in
theorem rdyad13_3noharms (w : World) (B : Bd) (hB : B ≤ w.heap.size) (a a2 : Option Addr) (c c2 : Nat) (x y : List Cop) (hx : CopS B w (.slice a x.length c) x) (hy : CopS B w (.slice a2 y.length c2) y) (hl : x.length + y.length + 1 ≤ 2513169434843) (o : Cop) (pa : Option Addr) (pc : Nat) (hp : MonS B w (.slice pa o.p.length pc) o.p) (ho : OkO o) (hf : o.fn = 3) (g1 : onlyC x 1 = false) (g2 : onlyC y 1 = false) (g3 : onlyC x 0 = false) (g5 : onlyC y 0 = true) (g6 : harmC x = false) (h2 : twoC o.fn x y = none) :
    Calls Try.prog 63 #[.slice a x.length c, .slice a2 y.length c2, opV o pa pc] w (RetC B w (dyadC x y o)) := by
  rw [dyadC_j h2 (by unfold ruleY; rw [hf]; simp [*]) (by unfold ruleX; rw [hf]; simp [*]) (by unfold ruleZ; rw [hf]; simp [*])]
  have H2 := Lib.hid h2
  have HF := Lib.hid hf
  clear h2 hf
  obtain ⟨k1, hk1⟩ : ∃ k, knownC x = k := ⟨_, rfl⟩
  obtain ⟨k2, hk2⟩ : ∃ k, knownC y = k := ⟨_, rfl⟩
  have HKX := Lib.hid hk1; have HKY := Lib.hid hk2
  have hi1 := fun n (h : k1 = some n) => known_in hx (hk1.trans h); have hi2 := fun n (h : k2 = some n) => known_in hy (hk2.trans h)
  have HI1 := Lib.hid hi1; have HI2 := Lib.hid hi2
  clear hi1 hi2 hk1 hk2
  obtain ⟨b1, hb1⟩ : ∃ b, k1.isSome = b := ⟨_, rfl⟩
  obtain ⟨b2, hb2⟩ : ∃ b, k2.isSome = b := ⟨_, rfl⟩
  have HB1 := Lib.hid hb1; have HB2 := Lib.hid hb2
  clear hb1 hb2
  have HX := Lib.hid hx; have HY := Lib.hid hy; have HP := Lib.hid hp; have OKO := Lib.hid ho; have HB0 := Lib.hid hB; have HLL := Lib.hid hl
  have HO := Lib.hid (OpBox.new w o (.slice pa o.p.length pc))
  have hmx := hx.le; have hmy := hy.le
  unfold opV
  clear hx hy hp ho hB hl
  go_enter Try.func63, Try.ntmps63
  go_upto_region 1 with fail
  refine gen_worldA (fun W => OpBox w W w.heap.size o (.slice pa o.p.length pc)) HO.out ?_
  rintro W hO
  have HO := Lib.hid hO
  clear hO
  have HQ := Lib.hid (rnumber_any W a c x (HX.out.below HO.out.b).els hmx)
  rw [HKX.out, HB1.out] at HQ
  go_wp2_with fail
  refine HQ.out.mono ?_
  rintro e W1 ⟨rfl, hb⟩
  have HO := Lib.hid (HO.out.next hb)
  clear hb HQ
  have HQ := Lib.hid (rnumber_any W1 a2 c2 y (HY.out.below HO.out.b).els hmy)
  rw [HKY.out, HB2.out] at HQ
  go_wp2_with fail
  refine HQ.out.mono ?_
  rintro e W2 ⟨rfl, hb⟩
  have HO := Lib.hid (HO.out.next hb)
  clear hb HQ
  have x4 := HO.out.c4
  obtain ⟨m, e0, hd⟩ : ∃ m e0, dyadF o.fn (k1.getD 0) (k2.getD 0) = (m, e0) := ⟨_, _, rfl⟩
  have hi1 : In64 (k1.getD 0) := by cases k1 with | none => (unfold In64; decide) | some p => exact HI1.out p rfl
  have hi2 : In64 (k2.getD 0) := by cases k2 with | none => (unfold In64; decide) | some p => exact HI2.out p rfl
  have HQ := Lib.hid (rdyad_at W2 o.fn (k1.getD 0) (k2.getD 0) m e0 hi1 hi2 hd)
  have htt : (k1.isSome && (k2.isSome && (e0 == 0))) = false := by
    have h2 := H2.out
    unfold twoC at h2
    rw [HKX.out, HKY.out] at h2
    cases k1 with
    | none => rfl
    | some p =>
      cases k2 with
      | none => rfl
      | some q =>
        dsimp only at h2
        rw [show dyadF o.fn p q = (m, e0) from hd] at h2
        show (e0 == 0) = false
        rw [beq_eq_false_iff_ne]
        intro h
        rw [if_pos h] at h2
        cases h2
  have HTT := Lib.hid htt
  clear hd hi1 hi2 htt
  go_wp2_with fail
  refine HQ.out.mono ?_
  rintro e W3 ⟨rfl, nd, rfl⟩
  have HO := Lib.hid (HO.out.next (Below.drewN W2 nd))
  clear HQ x4
  obtain ⟨W4, hW4⟩ : ∃ W, W2.drewN nd = W := ⟨_, rfl⟩
  rw [hW4] at HO ⊢
  clear hW4
  go_upto_region 4 with fail
  go_cut [38] (fun s38 wx => s38 = .bool false ∧ OpBox w wx w.heap.size o (.slice pa o.p.length pc))
  case first =>
    obtain ⟨b3, hb3⟩ : ∃ b, (e0 == 0) = b := ⟨_, rfl⟩
    have htt := HTT.out
    rw [HB1.out, HB2.out, hb3] at htt
    cases b1 with
    | false => (clear htt hb3); (go_wp2_with fail); (go_meet); (exact ⟨rfl, HO.out⟩)
    | true =>
      cases b2 with
      | false => (clear htt hb3); (go_wp2_with fail); (go_meet); (exact ⟨rfl, HO.out⟩)
      | true =>
        cases b3 with
        | false => (clear htt); (go_wp2_with fail); (go_meet); (exact ⟨rfl, HO.out⟩)
        | true => cases htt
  case rest =>
    obtain ⟨rfl, hcut⟩ := hcut
    clear HO
    have HO := Lib.hid hcut
    clear hcut
    have x4 := HO.out.c4
    rw [HF.out] at x4
    have HG1 := Lib.hid g1; have HG2 := Lib.hid g2; have HG3 := Lib.hid g3; have HG5 := Lib.hid g5; have HG6 := Lib.hid g6
    clear g1 g2 g3 g5 g6
    have hq := ris_any wc a c x 1 (HX.out.below HO.out.b).els hmx
    rw [HG1.out] at hq
    have HQ := Lib.hid hq
    clear hq
    go_wp2_with fail
    refine HQ.out.mono ?_
    rintro e U1 ⟨rfl, hb⟩
    have HO := Lib.hid (HO.out.next hb)
    clear hb HQ
    have hq := ris_any U1 a2 c2 y 1 (HY.out.below HO.out.b).els hmy
    rw [HG2.out] at hq
    have HQ := Lib.hid hq
    clear hq
    go_wp2_with fail
    refine HQ.out.mono ?_
    rintro e U2 ⟨rfl, hb⟩
    have HO := Lib.hid (HO.out.next hb)
    clear hb HQ
    have hq := ris_any U2 a c x 0 (HX.out.below HO.out.b).els hmx
    rw [HG3.out] at hq
    have HQ := Lib.hid hq
    clear hq
    go_wp2_with fail
    refine HQ.out.mono ?_
    rintro e U3 ⟨rfl, hb⟩
    have HO := Lib.hid (HO.out.next hb)
    clear hb HQ
    have hq := ris_any U3 a2 c2 y 0 (HY.out.below HO.out.b).els hmy
    rw [HG5.out] at hq
    have HQ := Lib.hid hq
    clear hq
    go_wp2_with fail
    refine HQ.out.mono ?_
    rintro e U5 ⟨rfl, hb⟩
    have HO := Lib.hid (HO.out.next hb)
    clear hb HQ
    have hq := rharmless_any U5 a c x (HX.out.below HO.out.b).els hmx
    rw [HG6.out] at hq
    have HQ := Lib.hid hq
    clear hq
    go_wp2_with fail
    refine HQ.out.mono ?_
    rintro e U6 ⟨rfl, hb⟩
    have HO := Lib.hid (HO.out.next hb)
    clear hb HQ
    go_upto_region 26 with fail
    refine wp_region_Z (S := fun W' => W'.cell? ⟨w.heap.size, 0, none⟩ = some (.int .i64 o.how) ∧ W'.cell? ⟨w.heap.size, 1, none⟩ = some (.int .i64 o.k) ∧ W'.cell? ⟨w.heap.size, 2, none⟩ = some (.int .i64 o.n) ∧ W'.cell? ⟨w.heap.size, 3, none⟩ = some (.slice pa o.p.length pc) ∧ W'.cell? ⟨w.heap.size, 4, none⟩ = some (.int .u8 o.fn)) (z := 7) (by kernel_rfl) ?_
    have HO := Lib.hid (HO.out.next (show Below U6.heap.size U6 U6.drew from (Below.refl _ _).drew))
    generalize U6.drew = Y at HO ⊢
    have hSS : (fun W' : World => W'.cell? ⟨w.heap.size, 0, none⟩ = some (.int .i64 o.how) ∧ W'.cell? ⟨w.heap.size, 1, none⟩ = some (.int .i64 o.k) ∧ W'.cell? ⟨w.heap.size, 2, none⟩ = some (.int .i64 o.n) ∧ W'.cell? ⟨w.heap.size, 3, none⟩ = some (.slice pa o.p.length pc) ∧ W'.cell? ⟨w.heap.size, 4, none⟩ = some (.int .u8 o.fn)) Y := ⟨HO.out.c0, HO.out.c1, HO.out.c2, HO.out.c3, HO.out.c4⟩
    refine wpAnyZ_take (i := 1) (v := ?_) rfl (by kernel_rfl) (by kernel_rfl) (by kernel_rfl) (fun _ _ _ h => h) (by kernel_rfl) (Or.inl ⟨by rfl, ?_⟩) (by assumption) ?_
    rotate_left
    · intro w' hSw
      try dsimp only at hSw
      try obtain ⟨hSw, hSw2⟩ := hSw
      go_simp
      try with_reducible rfl
    show wpAnyZ _ _ _ _ _ _ _ _ (Act.put _ (some 86) _) _
    simp only [Act.put, List.setIfInBounds_toArray, List.set_cons_zero, List.set_cons_succ]
    refine wpAnyZ_take (i := 3) (v := ?_) rfl (by kernel_rfl) (by kernel_rfl) (by kernel_rfl) (fun _ _ _ h => h) (by kernel_rfl) (Or.inl ⟨by rfl, ?_⟩) (by assumption) ?_
    rotate_left
    · intro w' hSw
      try dsimp only at hSw
      try obtain ⟨hSw, hSw2⟩ := hSw
      go_simp
      try with_reducible rfl
    show wpAnyZ _ _ _ _ _ _ _ _ (Act.put _ (some 88) _) _
    simp only [Act.put, List.setIfInBounds_toArray, List.set_cons_zero, List.set_cons_succ]
    refine wpAnyZ_take (i := 5) (v := ?_) rfl (by kernel_rfl) (by kernel_rfl) (by kernel_rfl) (fun _ _ _ h => h) (by kernel_rfl) (Or.inl ⟨by rfl, ?_⟩) (by assumption) ?_
    rotate_left
    · intro w' hSw
      try dsimp only at hSw
      try obtain ⟨hSw, hSw2⟩ := hSw
      go_simp
      try with_reducible rfl
    show wpAnyZ _ _ _ _ _ _ _ _ (Act.put _ (some 90) _) _
    simp only [Act.put, List.setIfInBounds_toArray, List.set_cons_zero, List.set_cons_succ]
    clear hSS
    obtain ⟨M, hM⟩ : ∃ M, Y.heap.size = M := ⟨_, rfl⟩
    have HMM := Lib.hid hM
    have HB := Lib.hid (show Below M Y Y from Below.refl _ _)
    have HBM := Lib.hid (show B ≤ M by rw [← hM]; exact Nat.le_trans HB0.out HO.out.b.size)
    clear hM
    refine wpAnyZ_one (i := 0) (by kernel_rfl) rfl rfl (fun K hK => ?_)
    go_simp
    obtain ⟨g0, hg0⟩ : ∃ b, Y.heap.size = b := ⟨_, rfl⟩
    have E0 := Lib.hid (RowC.new (B := B) (M := M) (by have := HB.out.size; have h2 := HMM.out; omega) hg0)
    have HB := Lib.hid (HB.out.alloc (by have := HB.out.size; have h2 := HMM.out; omega) (.cells #[] 44))
    rw [hg0]
    refine hK.out _ _ (.inr (by have h := HO.out.next (HMM.out ▸ HB.out); exact ⟨h.c0, h.c1, h.c2, h.c3, h.c4⟩)) ?_
    clear hK hg0
    generalize Y.alloc (.cells #[] 44) = Y1 at *
    refine wpAnyZ_one (i := 2) (by kernel_rfl) rfl rfl (fun K hK => ?_)
    refine wp_appC (.tmp 85) (.tmp 86) rfl B M (.slice (some ⟨g0, 0, none⟩) 0 0) [] x (.slice a x.length c) rfl E0.out rfl (HX.out.below (bNext (HMM.out ▸ HB.out) HO.out.b)) (by have := HLL.out; simp; omega) HBM.out (by have := HB.out.size; have h2 := HMM.out; omega) ?_
    intro v2 Y2 hr hb hg
    have R2 := Lib.hid (show RowC B M _ v2 x from hr)
    have HB := Lib.hid (HB.out.trans hb)
    refine hK.out _ _ (.inr (by have h := HO.out.next (HMM.out ▸ HB.out); exact ⟨h.c0, h.c1, h.c2, h.c3, h.c4⟩)) ?_
    clear hK hr hb hg E0
    refine wpAnyZ_one (i := 4) (by kernel_rfl) rfl rfl (fun K hK => ?_)
    refine wp_appC (.tmp 87) (.tmp 88) rfl B M v2 x y (.slice a2 y.length c2) rfl R2.out rfl (HY.out.below (bNext (HMM.out ▸ HB.out) HO.out.b)) (by have := HLL.out; omega) HBM.out (by have := HB.out.size; have h2 := HMM.out; omega) ?_
    intro v3 Y3 hr hb hg
    have R3 := Lib.hid (hr.cop (Bd.low HBM.out))
    have HB := Lib.hid (HB.out.trans hb)
    refine hK.out _ _ (.inr (by have h := HO.out.next (HMM.out ▸ HB.out); exact ⟨h.c0, h.c1, h.c2, h.c3, h.c4⟩)) ?_
    clear hK hr hb hg R2
    obtain ⟨a3, c3, rfl, -, -⟩ := R3.out.form
    have HO3 := Lib.hid (HO.out.next (HMM.out ▸ HB.out))
    have hq := behind_any Y3 B (Nat.le_trans HB0.out HO3.out.b.size) a3 c3 (x ++ y) R3.out (by have := HLL.out; rw [List.length_append]; omega) o pa pc (HP.out.below HO3.out.b) OKO.out
    unfold opV at hq
    refine wpAnyZ_one (i := 6) (by kernel_rfl) rfl rfl (fun K hK => ?_)
    go_simp
    first | refine hq.mono ?_ | (rw [List.length_append] at hq; refine hq.mono ?_)
    rintro e' Y4 ⟨⟨v4, rfl, hv4⟩, hb4⟩
    have HO4 := HO3.out.next hb4
    show K _ Y4
    refine hK.out _ _ (.inr ⟨HO4.c0, HO4.c1, HO4.c2, HO4.c3, HO4.c4⟩) ?_
    clear hK
    refine wpAnyZ_one (i := 7) (by kernel_rfl) rfl rfl (fun K hK => ?_)
    go_simp
    refine hK.out _ _ (.inl (by omega)) ?_
    clear hK
    refine wpAnyZ_done (by kernel_rfl) ?_ _
    go_wp2_with fail
    go_ret
    exact ⟨⟨_, rfl, hv4⟩, HO4.b⟩
end Go.Proofs.Ytmlfeocdcjhhaaa

namespace Go.Proofs.Ytmlfeocdcjhhaaa
set_option maxRecDepth 100000
open Go.RowKit
set_option linter.unusedVariables false
set_option linter.unusedSimpArgs false
attribute [local go_sem ↓] Go.wp_at_zero Go.wp_at_succ

/-! windrowref13.dyad. -/

set_option maxHeartbeats 4000000 in
theorem rdyad13_3nook (w : World) (B : Bd) (hB : B ≤ w.heap.size) (a a2 : Option Addr) (c c2 : Nat) (x y : List Cop) (hx : CopS B w (.slice a x.length c) x) (hy : CopS B w (.slice a2 y.length c2) y) (hl : x.length + y.length + 1 ≤ 2513169434843) (o : Cop) (pa : Option Addr) (pc : Nat) (hp : MonS B w (.slice pa o.p.length pc) o.p) (ho : OkO o) (hf : o.fn = 3) (g1 : onlyC x 1 = false) (g2 : onlyC y 1 = false) (g3 : onlyC x 0 = false) (g5 : onlyC y 0 = true) (g6 : harmC x = true) (h2 : twoC o.fn x y = none) :
    Calls Try.prog 63 #[.slice a x.length c, .slice a2 y.length c2, opV o pa pc] w (RetC B w (dyadC x y o)) := by
  rw [dyadC_z h2 (by unfold ruleY; rw [hf]; simp [*]) (by unfold ruleX; rw [hf]; simp [*]) (by unfold ruleZ; rw [hf]; simp [*])]
  have H2 := Lib.hid h2
  have HF := Lib.hid hf
  clear h2 hf
  obtain ⟨k1, hk1⟩ : ∃ k, knownC x = k := ⟨_, rfl⟩
  obtain ⟨k2, hk2⟩ : ∃ k, knownC y = k := ⟨_, rfl⟩
  have HKX := Lib.hid hk1; have HKY := Lib.hid hk2
  have hi1 := fun n (h : k1 = some n) => known_in hx (hk1.trans h); have hi2 := fun n (h : k2 = some n) => known_in hy (hk2.trans h)
  have HI1 := Lib.hid hi1; have HI2 := Lib.hid hi2
  clear hi1 hi2 hk1 hk2
  obtain ⟨b1, hb1⟩ : ∃ b, k1.isSome = b := ⟨_, rfl⟩
  obtain ⟨b2, hb2⟩ : ∃ b, k2.isSome = b := ⟨_, rfl⟩
  have HB1 := Lib.hid hb1; have HB2 := Lib.hid hb2
  clear hb1 hb2
  have HX := Lib.hid hx; have HY := Lib.hid hy; have HP := Lib.hid hp; have OKO := Lib.hid ho; have HB0 := Lib.hid hB; have HLL := Lib.hid hl
  have HO := Lib.hid (OpBox.new w o (.slice pa o.p.length pc))
  have hmx := hx.le; have hmy := hy.le
  unfold opV
  clear hx hy hp ho hB hl
  go_enter Try.func63, Try.ntmps63
  go_upto_region 1 with fail
  refine gen_worldA (fun W => OpBox w W w.heap.size o (.slice pa o.p.length pc)) HO.out ?_
  rintro W hO
  have HO := Lib.hid hO
  clear hO
  have HQ := Lib.hid (rnumber_any W a c x (HX.out.below HO.out.b).els hmx)
  rw [HKX.out, HB1.out] at HQ
  go_wp2_with fail
  refine HQ.out.mono ?_
  rintro e W1 ⟨rfl, hb⟩
  have HO := Lib.hid (HO.out.next hb)
  clear hb HQ
  have HQ := Lib.hid (rnumber_any W1 a2 c2 y (HY.out.below HO.out.b).els hmy)
  rw [HKY.out, HB2.out] at HQ
  go_wp2_with fail
  refine HQ.out.mono ?_
  rintro e W2 ⟨rfl, hb⟩
  have HO := Lib.hid (HO.out.next hb)
  clear hb HQ
  have x4 := HO.out.c4
  obtain ⟨m, e0, hd⟩ : ∃ m e0, dyadF o.fn (k1.getD 0) (k2.getD 0) = (m, e0) := ⟨_, _, rfl⟩
  have hi1 : In64 (k1.getD 0) := by cases k1 with | none => (unfold In64; decide) | some p => exact HI1.out p rfl
  have hi2 : In64 (k2.getD 0) := by cases k2 with | none => (unfold In64; decide) | some p => exact HI2.out p rfl
  have HQ := Lib.hid (rdyad_at W2 o.fn (k1.getD 0) (k2.getD 0) m e0 hi1 hi2 hd)
  have htt : (k1.isSome && (k2.isSome && (e0 == 0))) = false := by
    have h2 := H2.out
    unfold twoC at h2
    rw [HKX.out, HKY.out] at h2
    cases k1 with
    | none => rfl
    | some p =>
      cases k2 with
      | none => rfl
      | some q =>
        dsimp only at h2
        rw [show dyadF o.fn p q = (m, e0) from hd] at h2
        show (e0 == 0) = false
        rw [beq_eq_false_iff_ne]
        intro h
        rw [if_pos h] at h2
        cases h2
  have HTT := Lib.hid htt
  clear hd hi1 hi2 htt
  go_wp2_with fail
  refine HQ.out.mono ?_
  rintro e W3 ⟨rfl, nd, rfl⟩
  have HO := Lib.hid (HO.out.next (Below.drewN W2 nd))
  clear HQ x4
  obtain ⟨W4, hW4⟩ : ∃ W, W2.drewN nd = W := ⟨_, rfl⟩
  rw [hW4] at HO ⊢
  clear hW4
  go_upto_region 4 with fail
  go_cut [38] (fun s38 wx => s38 = .bool false ∧ OpBox w wx w.heap.size o (.slice pa o.p.length pc))
  case first =>
    obtain ⟨b3, hb3⟩ : ∃ b, (e0 == 0) = b := ⟨_, rfl⟩
    have htt := HTT.out
    rw [HB1.out, HB2.out, hb3] at htt
    cases b1 with
    | false => (clear htt hb3); (go_wp2_with fail); (go_meet); (exact ⟨rfl, HO.out⟩)
    | true =>
      cases b2 with
      | false => (clear htt hb3); (go_wp2_with fail); (go_meet); (exact ⟨rfl, HO.out⟩)
      | true =>
        cases b3 with
        | false => (clear htt); (go_wp2_with fail); (go_meet); (exact ⟨rfl, HO.out⟩)
        | true => cases htt
  case rest =>
    obtain ⟨rfl, hcut⟩ := hcut
    clear HO
    have HO := Lib.hid hcut
    clear hcut
    have x4 := HO.out.c4
    rw [HF.out] at x4
    have HG1 := Lib.hid g1; have HG2 := Lib.hid g2; have HG3 := Lib.hid g3; have HG5 := Lib.hid g5; have HG6 := Lib.hid g6
    have HN := Lib.hid (fun W hL => rlist_any W B hL 0 (by unfold I64; omega))
    clear g1 g2 g3 g5 g6
    have hq := ris_any wc a c x 1 (HX.out.below HO.out.b).els hmx
    rw [HG1.out] at hq
    have HQ := Lib.hid hq
    clear hq
    go_wp2_with fail
    refine HQ.out.mono ?_
    rintro e U1 ⟨rfl, hb⟩
    have HO := Lib.hid (HO.out.next hb)
    clear hb HQ
    have hq := ris_any U1 a2 c2 y 1 (HY.out.below HO.out.b).els hmy
    rw [HG2.out] at hq
    have HQ := Lib.hid hq
    clear hq
    go_wp2_with fail
    refine HQ.out.mono ?_
    rintro e U2 ⟨rfl, hb⟩
    have HO := Lib.hid (HO.out.next hb)
    clear hb HQ
    have hq := ris_any U2 a c x 0 (HX.out.below HO.out.b).els hmx
    rw [HG3.out] at hq
    have HQ := Lib.hid hq
    clear hq
    go_wp2_with fail
    refine HQ.out.mono ?_
    rintro e U3 ⟨rfl, hb⟩
    have HO := Lib.hid (HO.out.next hb)
    clear hb HQ
    have hq := ris_any U3 a2 c2 y 0 (HY.out.below HO.out.b).els hmy
    rw [HG5.out] at hq
    have HQ := Lib.hid hq
    clear hq
    go_wp2_with fail
    refine HQ.out.mono ?_
    rintro e U5 ⟨rfl, hb⟩
    have HO := Lib.hid (HO.out.next hb)
    clear hb HQ
    have hq := rharmless_any U5 a c x (HX.out.below HO.out.b).els hmx
    rw [HG6.out] at hq
    have HQ := Lib.hid hq
    clear hq
    go_wp2_with fail
    refine HQ.out.mono ?_
    rintro e U6 ⟨rfl, hb⟩
    have HO := Lib.hid (HO.out.next hb)
    clear hb HQ
    have HQ := Lib.hid (HN.out U6 (Nat.le_trans (Bd.low HB0.out) HO.out.b.size))
    go_wp2_with fail
    refine HQ.out.mono ?_
    rintro e w2 ⟨⟨v2, rfl, hv2⟩, hb2⟩
    go_wp2_with fail
    go_ret
    exact ⟨⟨_, rfl, hv2⟩, bNext hb2 HO.out.b⟩
set_option maxHeartbeats 4000000 in
theorem rdyad13_3harmsno (w : World) (B : Bd) (hB : B ≤ w.heap.size) (a a2 : Option Addr) (c c2 : Nat) (x y : List Cop) (hx : CopS B w (.slice a x.length c) x) (hy : CopS B w (.slice a2 y.length c2) y) (hl : x.length + y.length + 1 ≤ 2513169434843) (o : Cop) (pa : Option Addr) (pc : Nat) (hp : MonS B w (.slice pa o.p.length pc) o.p) (ho : OkO o) (hf : o.fn = 3) (g1 : onlyC x 1 = false) (g2 : onlyC y 1 = false) (g3 : onlyC x 0 = true) (g4 : harmC y = false) (g5 : onlyC y 0 = false) (h2 : twoC o.fn x y = none) :
    Calls Try.prog 63 #[.slice a x.length c, .slice a2 y.length c2, opV o pa pc] w (RetC B w (dyadC x y o)) := by
  rw [dyadC_j h2 (by unfold ruleY; rw [hf]; simp [*]) (by unfold ruleX; rw [hf]; simp [*]) (by unfold ruleZ; rw [hf]; simp [*])]
  have H2 := Lib.hid h2
  have HF := Lib.hid hf
  clear h2 hf
  obtain ⟨k1, hk1⟩ : ∃ k, knownC x = k := ⟨_, rfl⟩
  obtain ⟨k2, hk2⟩ : ∃ k, knownC y = k := ⟨_, rfl⟩
  have HKX := Lib.hid hk1; have HKY := Lib.hid hk2
  have hi1 := fun n (h : k1 = some n) => known_in hx (hk1.trans h); have hi2 := fun n (h : k2 = some n) => known_in hy (hk2.trans h)
  have HI1 := Lib.hid hi1; have HI2 := Lib.hid hi2
  clear hi1 hi2 hk1 hk2
  obtain ⟨b1, hb1⟩ : ∃ b, k1.isSome = b := ⟨_, rfl⟩
  obtain ⟨b2, hb2⟩ : ∃ b, k2.isSome = b := ⟨_, rfl⟩
  have HB1 := Lib.hid hb1; have HB2 := Lib.hid hb2
  clear hb1 hb2
  have HX := Lib.hid hx; have HY := Lib.hid hy; have HP := Lib.hid hp; have OKO := Lib.hid ho; have HB0 := Lib.hid hB; have HLL := Lib.hid hl
  have HO := Lib.hid (OpBox.new w o (.slice pa o.p.length pc))
  have hmx := hx.le; have hmy := hy.le
  unfold opV
  clear hx hy hp ho hB hl
  go_enter Try.func63, Try.ntmps63
  go_upto_region 1 with fail
  refine gen_worldA (fun W => OpBox w W w.heap.size o (.slice pa o.p.length pc)) HO.out ?_
  rintro W hO
  have HO := Lib.hid hO
  clear hO
  have HQ := Lib.hid (rnumber_any W a c x (HX.out.below HO.out.b).els hmx)
  rw [HKX.out, HB1.out] at HQ
  go_wp2_with fail
  refine HQ.out.mono ?_
  rintro e W1 ⟨rfl, hb⟩
  have HO := Lib.hid (HO.out.next hb)
  clear hb HQ
  have HQ := Lib.hid (rnumber_any W1 a2 c2 y (HY.out.below HO.out.b).els hmy)
  rw [HKY.out, HB2.out] at HQ
  go_wp2_with fail
  refine HQ.out.mono ?_
  rintro e W2 ⟨rfl, hb⟩
  have HO := Lib.hid (HO.out.next hb)
  clear hb HQ
  have x4 := HO.out.c4
  obtain ⟨m, e0, hd⟩ : ∃ m e0, dyadF o.fn (k1.getD 0) (k2.getD 0) = (m, e0) := ⟨_, _, rfl⟩
  have hi1 : In64 (k1.getD 0) := by cases k1 with | none => (unfold In64; decide) | some p => exact HI1.out p rfl
  have hi2 : In64 (k2.getD 0) := by cases k2 with | none => (unfold In64; decide) | some p => exact HI2.out p rfl
  have HQ := Lib.hid (rdyad_at W2 o.fn (k1.getD 0) (k2.getD 0) m e0 hi1 hi2 hd)
  have htt : (k1.isSome && (k2.isSome && (e0 == 0))) = false := by
    have h2 := H2.out
    unfold twoC at h2
    rw [HKX.out, HKY.out] at h2
    cases k1 with
    | none => rfl
    | some p =>
      cases k2 with
      | none => rfl
      | some q =>
        dsimp only at h2
        rw [show dyadF o.fn p q = (m, e0) from hd] at h2
        show (e0 == 0) = false
        rw [beq_eq_false_iff_ne]
        intro h
        rw [if_pos h] at h2
        cases h2
  have HTT := Lib.hid htt
  clear hd hi1 hi2 htt
  go_wp2_with fail
  refine HQ.out.mono ?_
  rintro e W3 ⟨rfl, nd, rfl⟩
  have HO := Lib.hid (HO.out.next (Below.drewN W2 nd))
  clear HQ x4
  obtain ⟨W4, hW4⟩ : ∃ W, W2.drewN nd = W := ⟨_, rfl⟩
  rw [hW4] at HO ⊢
  clear hW4
  go_upto_region 4 with fail
  go_cut [38] (fun s38 wx => s38 = .bool false ∧ OpBox w wx w.heap.size o (.slice pa o.p.length pc))
  case first =>
    obtain ⟨b3, hb3⟩ : ∃ b, (e0 == 0) = b := ⟨_, rfl⟩
    have htt := HTT.out
    rw [HB1.out, HB2.out, hb3] at htt
    cases b1 with
    | false => (clear htt hb3); (go_wp2_with fail); (go_meet); (exact ⟨rfl, HO.out⟩)
    | true =>
      cases b2 with
      | false => (clear htt hb3); (go_wp2_with fail); (go_meet); (exact ⟨rfl, HO.out⟩)
      | true =>
        cases b3 with
        | false => (clear htt); (go_wp2_with fail); (go_meet); (exact ⟨rfl, HO.out⟩)
        | true => cases htt
  case rest =>
    obtain ⟨rfl, hcut⟩ := hcut
    clear HO
    have HO := Lib.hid hcut
    clear hcut
    have x4 := HO.out.c4
    rw [HF.out] at x4
    have HG1 := Lib.hid g1; have HG2 := Lib.hid g2; have HG3 := Lib.hid g3; have HG4 := Lib.hid g4; have HG5 := Lib.hid g5
    clear g1 g2 g3 g4 g5
    have hq := ris_any wc a c x 1 (HX.out.below HO.out.b).els hmx
    rw [HG1.out] at hq
    have HQ := Lib.hid hq
    clear hq
    go_wp2_with fail
    refine HQ.out.mono ?_
    rintro e U1 ⟨rfl, hb⟩
    have HO := Lib.hid (HO.out.next hb)
    clear hb HQ
    have hq := ris_any U1 a2 c2 y 1 (HY.out.below HO.out.b).els hmy
    rw [HG2.out] at hq
    have HQ := Lib.hid hq
    clear hq
    go_wp2_with fail
    refine HQ.out.mono ?_
    rintro e U2 ⟨rfl, hb⟩
    have HO := Lib.hid (HO.out.next hb)
    clear hb HQ
    have hq := ris_any U2 a c x 0 (HX.out.below HO.out.b).els hmx
    rw [HG3.out] at hq
    have HQ := Lib.hid hq
    clear hq
    go_wp2_with fail
    refine HQ.out.mono ?_
    rintro e U3 ⟨rfl, hb⟩
    have HO := Lib.hid (HO.out.next hb)
    clear hb HQ
    have hq := rharmless_any U3 a2 c2 y (HY.out.below HO.out.b).els hmy
    rw [HG4.out] at hq
    have HQ := Lib.hid hq
    clear hq
    go_wp2_with fail
    refine HQ.out.mono ?_
    rintro e U4 ⟨rfl, hb⟩
    have HO := Lib.hid (HO.out.next hb)
    clear hb HQ
    have hq := ris_any U4 a2 c2 y 0 (HY.out.below HO.out.b).els hmy
    rw [HG5.out] at hq
    have HQ := Lib.hid hq
    clear hq
    go_wp2_with fail
    refine HQ.out.mono ?_
    rintro e U5 ⟨rfl, hb⟩
    have HO := Lib.hid (HO.out.next hb)
    clear hb HQ
    go_upto_region 26 with fail
    refine wp_region_Z (S := fun W' => W'.cell? ⟨w.heap.size, 0, none⟩ = some (.int .i64 o.how) ∧ W'.cell? ⟨w.heap.size, 1, none⟩ = some (.int .i64 o.k) ∧ W'.cell? ⟨w.heap.size, 2, none⟩ = some (.int .i64 o.n) ∧ W'.cell? ⟨w.heap.size, 3, none⟩ = some (.slice pa o.p.length pc) ∧ W'.cell? ⟨w.heap.size, 4, none⟩ = some (.int .u8 o.fn)) (z := 7) (by kernel_rfl) ?_
    have HO := Lib.hid (HO.out.next (show Below U5.heap.size U5 U5.drew from (Below.refl _ _).drew))
    generalize U5.drew = Y at HO ⊢
    have hSS : (fun W' : World => W'.cell? ⟨w.heap.size, 0, none⟩ = some (.int .i64 o.how) ∧ W'.cell? ⟨w.heap.size, 1, none⟩ = some (.int .i64 o.k) ∧ W'.cell? ⟨w.heap.size, 2, none⟩ = some (.int .i64 o.n) ∧ W'.cell? ⟨w.heap.size, 3, none⟩ = some (.slice pa o.p.length pc) ∧ W'.cell? ⟨w.heap.size, 4, none⟩ = some (.int .u8 o.fn)) Y := ⟨HO.out.c0, HO.out.c1, HO.out.c2, HO.out.c3, HO.out.c4⟩
    refine wpAnyZ_take (i := 1) (v := ?_) rfl (by kernel_rfl) (by kernel_rfl) (by kernel_rfl) (fun _ _ _ h => h) (by kernel_rfl) (Or.inl ⟨by rfl, ?_⟩) (by assumption) ?_
    rotate_left
    · intro w' hSw
      try dsimp only at hSw
      try obtain ⟨hSw, hSw2⟩ := hSw
      go_simp
      try with_reducible rfl
    show wpAnyZ _ _ _ _ _ _ _ _ (Act.put _ (some 86) _) _
    simp only [Act.put, List.setIfInBounds_toArray, List.set_cons_zero, List.set_cons_succ]
    refine wpAnyZ_take (i := 3) (v := ?_) rfl (by kernel_rfl) (by kernel_rfl) (by kernel_rfl) (fun _ _ _ h => h) (by kernel_rfl) (Or.inl ⟨by rfl, ?_⟩) (by assumption) ?_
    rotate_left
    · intro w' hSw
      try dsimp only at hSw
      try obtain ⟨hSw, hSw2⟩ := hSw
      go_simp
      try with_reducible rfl
    show wpAnyZ _ _ _ _ _ _ _ _ (Act.put _ (some 88) _) _
    simp only [Act.put, List.setIfInBounds_toArray, List.set_cons_zero, List.set_cons_succ]
    refine wpAnyZ_take (i := 5) (v := ?_) rfl (by kernel_rfl) (by kernel_rfl) (by kernel_rfl) (fun _ _ _ h => h) (by kernel_rfl) (Or.inl ⟨by rfl, ?_⟩) (by assumption) ?_
    rotate_left
    · intro w' hSw
      try dsimp only at hSw
      try obtain ⟨hSw, hSw2⟩ := hSw
      go_simp
      try with_reducible rfl
    show wpAnyZ _ _ _ _ _ _ _ _ (Act.put _ (some 90) _) _
    simp only [Act.put, List.setIfInBounds_toArray, List.set_cons_zero, List.set_cons_succ]
    clear hSS
    obtain ⟨M, hM⟩ : ∃ M, Y.heap.size = M := ⟨_, rfl⟩
    have HMM := Lib.hid hM
    have HB := Lib.hid (show Below M Y Y from Below.refl _ _)
    have HBM := Lib.hid (show B ≤ M by rw [← hM]; exact Nat.le_trans HB0.out HO.out.b.size)
    clear hM
    refine wpAnyZ_one (i := 0) (by kernel_rfl) rfl rfl (fun K hK => ?_)
    go_simp
    obtain ⟨g0, hg0⟩ : ∃ b, Y.heap.size = b := ⟨_, rfl⟩
    have E0 := Lib.hid (RowC.new (B := B) (M := M) (by have := HB.out.size; have h2 := HMM.out; omega) hg0)
    have HB := Lib.hid (HB.out.alloc (by have := HB.out.size; have h2 := HMM.out; omega) (.cells #[] 44))
    rw [hg0]
    refine hK.out _ _ (.inr (by have h := HO.out.next (HMM.out ▸ HB.out); exact ⟨h.c0, h.c1, h.c2, h.c3, h.c4⟩)) ?_
    clear hK hg0
    generalize Y.alloc (.cells #[] 44) = Y1 at *
    refine wpAnyZ_one (i := 2) (by kernel_rfl) rfl rfl (fun K hK => ?_)
    refine wp_appC (.tmp 85) (.tmp 86) rfl B M (.slice (some ⟨g0, 0, none⟩) 0 0) [] x (.slice a x.length c) rfl E0.out rfl (HX.out.below (bNext (HMM.out ▸ HB.out) HO.out.b)) (by have := HLL.out; simp; omega) HBM.out (by have := HB.out.size; have h2 := HMM.out; omega) ?_
    intro v2 Y2 hr hb hg
    have R2 := Lib.hid (show RowC B M _ v2 x from hr)
    have HB := Lib.hid (HB.out.trans hb)
    refine hK.out _ _ (.inr (by have h := HO.out.next (HMM.out ▸ HB.out); exact ⟨h.c0, h.c1, h.c2, h.c3, h.c4⟩)) ?_
    clear hK hr hb hg E0
    refine wpAnyZ_one (i := 4) (by kernel_rfl) rfl rfl (fun K hK => ?_)
    refine wp_appC (.tmp 87) (.tmp 88) rfl B M v2 x y (.slice a2 y.length c2) rfl R2.out rfl (HY.out.below (bNext (HMM.out ▸ HB.out) HO.out.b)) (by have := HLL.out; omega) HBM.out (by have := HB.out.size; have h2 := HMM.out; omega) ?_
    intro v3 Y3 hr hb hg
    have R3 := Lib.hid (hr.cop (Bd.low HBM.out))
    have HB := Lib.hid (HB.out.trans hb)
    refine hK.out _ _ (.inr (by have h := HO.out.next (HMM.out ▸ HB.out); exact ⟨h.c0, h.c1, h.c2, h.c3, h.c4⟩)) ?_
    clear hK hr hb hg R2
    obtain ⟨a3, c3, rfl, -, -⟩ := R3.out.form
    have HO3 := Lib.hid (HO.out.next (HMM.out ▸ HB.out))
    have hq := behind_any Y3 B (Nat.le_trans HB0.out HO3.out.b.size) a3 c3 (x ++ y) R3.out (by have := HLL.out; rw [List.length_append]; omega) o pa pc (HP.out.below HO3.out.b) OKO.out
    unfold opV at hq
    refine wpAnyZ_one (i := 6) (by kernel_rfl) rfl rfl (fun K hK => ?_)
    go_simp
    first | refine hq.mono ?_ | (rw [List.length_append] at hq; refine hq.mono ?_)
    rintro e' Y4 ⟨⟨v4, rfl, hv4⟩, hb4⟩
    have HO4 := HO3.out.next hb4
    show K _ Y4
    refine hK.out _ _ (.inr ⟨HO4.c0, HO4.c1, HO4.c2, HO4.c3, HO4.c4⟩) ?_
    clear hK
    refine wpAnyZ_one (i := 7) (by kernel_rfl) rfl rfl (fun K hK => ?_)
    go_simp
    refine hK.out _ _ (.inl (by omega)) ?_
    clear hK
    refine wpAnyZ_done (by kernel_rfl) ?_ _
    go_wp2_with fail
    go_ret
    exact ⟨⟨_, rfl, hv4⟩, HO4.b⟩
set_option maxHeartbeats 4000000 in
theorem rdyad13_3harmsharms (w : World) (B : Bd) (hB : B ≤ w.heap.size) (a a2 : Option Addr) (c c2 : Nat) (x y : List Cop) (hx : CopS B w (.slice a x.length c) x) (hy : CopS B w (.slice a2 y.length c2) y) (hl : x.length + y.length + 1 ≤ 2513169434843) (o : Cop) (pa : Option Addr) (pc : Nat) (hp : MonS B w (.slice pa o.p.length pc) o.p) (ho : OkO o) (hf : o.fn = 3) (g1 : onlyC x 1 = false) (g2 : onlyC y 1 = false) (g3 : onlyC x 0 = true) (g4 : harmC y = false) (g5 : onlyC y 0 = true) (g6 : harmC x = false) (h2 : twoC o.fn x y = none) :
    Calls Try.prog 63 #[.slice a x.length c, .slice a2 y.length c2, opV o pa pc] w (RetC B w (dyadC x y o)) := by
  rw [dyadC_j h2 (by unfold ruleY; rw [hf]; simp [*]) (by unfold ruleX; rw [hf]; simp [*]) (by unfold ruleZ; rw [hf]; simp [*])]
  have H2 := Lib.hid h2
  have HF := Lib.hid hf
  clear h2 hf
  obtain ⟨k1, hk1⟩ : ∃ k, knownC x = k := ⟨_, rfl⟩
  obtain ⟨k2, hk2⟩ : ∃ k, knownC y = k := ⟨_, rfl⟩
  have HKX := Lib.hid hk1; have HKY := Lib.hid hk2
  have hi1 := fun n (h : k1 = some n) => known_in hx (hk1.trans h); have hi2 := fun n (h : k2 = some n) => known_in hy (hk2.trans h)
  have HI1 := Lib.hid hi1; have HI2 := Lib.hid hi2
  clear hi1 hi2 hk1 hk2
  obtain ⟨b1, hb1⟩ : ∃ b, k1.isSome = b := ⟨_, rfl⟩
  obtain ⟨b2, hb2⟩ : ∃ b, k2.isSome = b := ⟨_, rfl⟩
  have HB1 := Lib.hid hb1; have HB2 := Lib.hid hb2
  clear hb1 hb2
  have HX := Lib.hid hx; have HY := Lib.hid hy; have HP := Lib.hid hp; have OKO := Lib.hid ho; have HB0 := Lib.hid hB; have HLL := Lib.hid hl
  have HO := Lib.hid (OpBox.new w o (.slice pa o.p.length pc))
  have hmx := hx.le; have hmy := hy.le
  unfold opV
  clear hx hy hp ho hB hl
  go_enter Try.func63, Try.ntmps63
  go_upto_region 1 with fail
  refine gen_worldA (fun W => OpBox w W w.heap.size o (.slice pa o.p.length pc)) HO.out ?_
  rintro W hO
  have HO := Lib.hid hO
  clear hO
  have HQ := Lib.hid (rnumber_any W a c x (HX.out.below HO.out.b).els hmx)
  rw [HKX.out, HB1.out] at HQ
  go_wp2_with fail
  refine HQ.out.mono ?_
  rintro e W1 ⟨rfl, hb⟩
  have HO := Lib.hid (HO.out.next hb)
  clear hb HQ
  have HQ := Lib.hid (rnumber_any W1 a2 c2 y (HY.out.below HO.out.b).els hmy)
  rw [HKY.out, HB2.out] at HQ
  go_wp2_with fail
  refine HQ.out.mono ?_
  rintro e W2 ⟨rfl, hb⟩
  have HO := Lib.hid (HO.out.next hb)
  clear hb HQ
  have x4 := HO.out.c4
  obtain ⟨m, e0, hd⟩ : ∃ m e0, dyadF o.fn (k1.getD 0) (k2.getD 0) = (m, e0) := ⟨_, _, rfl⟩
  have hi1 : In64 (k1.getD 0) := by cases k1 with | none => (unfold In64; decide) | some p => exact HI1.out p rfl
  have hi2 : In64 (k2.getD 0) := by cases k2 with | none => (unfold In64; decide) | some p => exact HI2.out p rfl
  have HQ := Lib.hid (rdyad_at W2 o.fn (k1.getD 0) (k2.getD 0) m e0 hi1 hi2 hd)
  have htt : (k1.isSome && (k2.isSome && (e0 == 0))) = false := by
    have h2 := H2.out
    unfold twoC at h2
    rw [HKX.out, HKY.out] at h2
    cases k1 with
    | none => rfl
    | some p =>
      cases k2 with
      | none => rfl
      | some q =>
        dsimp only at h2
        rw [show dyadF o.fn p q = (m, e0) from hd] at h2
        show (e0 == 0) = false
        rw [beq_eq_false_iff_ne]
        intro h
        rw [if_pos h] at h2
        cases h2
  have HTT := Lib.hid htt
  clear hd hi1 hi2 htt
  go_wp2_with fail
  refine HQ.out.mono ?_
  rintro e W3 ⟨rfl, nd, rfl⟩
  have HO := Lib.hid (HO.out.next (Below.drewN W2 nd))
  clear HQ x4
  obtain ⟨W4, hW4⟩ : ∃ W, W2.drewN nd = W := ⟨_, rfl⟩
  rw [hW4] at HO ⊢
  clear hW4
  go_upto_region 4 with fail
  go_cut [38] (fun s38 wx => s38 = .bool false ∧ OpBox w wx w.heap.size o (.slice pa o.p.length pc))
  case first =>
    obtain ⟨b3, hb3⟩ : ∃ b, (e0 == 0) = b := ⟨_, rfl⟩
    have htt := HTT.out
    rw [HB1.out, HB2.out, hb3] at htt
    cases b1 with
    | false => (clear htt hb3); (go_wp2_with fail); (go_meet); (exact ⟨rfl, HO.out⟩)
    | true =>
      cases b2 with
      | false => (clear htt hb3); (go_wp2_with fail); (go_meet); (exact ⟨rfl, HO.out⟩)
      | true =>
        cases b3 with
        | false => (clear htt); (go_wp2_with fail); (go_meet); (exact ⟨rfl, HO.out⟩)
        | true => cases htt
  case rest =>
    obtain ⟨rfl, hcut⟩ := hcut
    clear HO
    have HO := Lib.hid hcut
    clear hcut
    have x4 := HO.out.c4
    rw [HF.out] at x4
    have HG1 := Lib.hid g1; have HG2 := Lib.hid g2; have HG3 := Lib.hid g3; have HG4 := Lib.hid g4; have HG5 := Lib.hid g5; have HG6 := Lib.hid g6
    clear g1 g2 g3 g4 g5 g6
    have hq := ris_any wc a c x 1 (HX.out.below HO.out.b).els hmx
    rw [HG1.out] at hq
    have HQ := Lib.hid hq
    clear hq
    go_wp2_with fail
    refine HQ.out.mono ?_
    rintro e U1 ⟨rfl, hb⟩
    have HO := Lib.hid (HO.out.next hb)
    clear hb HQ
    have hq := ris_any U1 a2 c2 y 1 (HY.out.below HO.out.b).els hmy
    rw [HG2.out] at hq
    have HQ := Lib.hid hq
    clear hq
    go_wp2_with fail
    refine HQ.out.mono ?_
    rintro e U2 ⟨rfl, hb⟩
    have HO := Lib.hid (HO.out.next hb)
    clear hb HQ
    have hq := ris_any U2 a c x 0 (HX.out.below HO.out.b).els hmx
    rw [HG3.out] at hq
    have HQ := Lib.hid hq
    clear hq
    go_wp2_with fail
    refine HQ.out.mono ?_
    rintro e U3 ⟨rfl, hb⟩
    have HO := Lib.hid (HO.out.next hb)
    clear hb HQ
    have hq := rharmless_any U3 a2 c2 y (HY.out.below HO.out.b).els hmy
    rw [HG4.out] at hq
    have HQ := Lib.hid hq
    clear hq
    go_wp2_with fail
    refine HQ.out.mono ?_
    rintro e U4 ⟨rfl, hb⟩
    have HO := Lib.hid (HO.out.next hb)
    clear hb HQ
    have hq := ris_any U4 a2 c2 y 0 (HY.out.below HO.out.b).els hmy
    rw [HG5.out] at hq
    have HQ := Lib.hid hq
    clear hq
    go_wp2_with fail
    refine HQ.out.mono ?_
    rintro e U5 ⟨rfl, hb⟩
    have HO := Lib.hid (HO.out.next hb)
    clear hb HQ
    have hq := rharmless_any U5 a c x (HX.out.below HO.out.b).els hmx
    rw [HG6.out] at hq
    have HQ := Lib.hid hq
    clear hq
    go_wp2_with fail
    refine HQ.out.mono ?_
    rintro e U6 ⟨rfl, hb⟩
    have HO := Lib.hid (HO.out.next hb)
    clear hb HQ
    go_upto_region 26 with fail
    refine wp_region_Z (S := fun W' => W'.cell? ⟨w.heap.size, 0, none⟩ = some (.int .i64 o.how) ∧ W'.cell? ⟨w.heap.size, 1, none⟩ = some (.int .i64 o.k) ∧ W'.cell? ⟨w.heap.size, 2, none⟩ = some (.int .i64 o.n) ∧ W'.cell? ⟨w.heap.size, 3, none⟩ = some (.slice pa o.p.length pc) ∧ W'.cell? ⟨w.heap.size, 4, none⟩ = some (.int .u8 o.fn)) (z := 7) (by kernel_rfl) ?_
    have HO := Lib.hid (HO.out.next (show Below U6.heap.size U6 U6.drew from (Below.refl _ _).drew))
    generalize U6.drew = Y at HO ⊢
    have hSS : (fun W' : World => W'.cell? ⟨w.heap.size, 0, none⟩ = some (.int .i64 o.how) ∧ W'.cell? ⟨w.heap.size, 1, none⟩ = some (.int .i64 o.k) ∧ W'.cell? ⟨w.heap.size, 2, none⟩ = some (.int .i64 o.n) ∧ W'.cell? ⟨w.heap.size, 3, none⟩ = some (.slice pa o.p.length pc) ∧ W'.cell? ⟨w.heap.size, 4, none⟩ = some (.int .u8 o.fn)) Y := ⟨HO.out.c0, HO.out.c1, HO.out.c2, HO.out.c3, HO.out.c4⟩
    refine wpAnyZ_take (i := 1) (v := ?_) rfl (by kernel_rfl) (by kernel_rfl) (by kernel_rfl) (fun _ _ _ h => h) (by kernel_rfl) (Or.inl ⟨by rfl, ?_⟩) (by assumption) ?_
    rotate_left
    · intro w' hSw
      try dsimp only at hSw
      try obtain ⟨hSw, hSw2⟩ := hSw
      go_simp
      try with_reducible rfl
    show wpAnyZ _ _ _ _ _ _ _ _ (Act.put _ (some 86) _) _
    simp only [Act.put, List.setIfInBounds_toArray, List.set_cons_zero, List.set_cons_succ]
    refine wpAnyZ_take (i := 3) (v := ?_) rfl (by kernel_rfl) (by kernel_rfl) (by kernel_rfl) (fun _ _ _ h => h) (by kernel_rfl) (Or.inl ⟨by rfl, ?_⟩) (by assumption) ?_
    rotate_left
    · intro w' hSw
      try dsimp only at hSw
      try obtain ⟨hSw, hSw2⟩ := hSw
      go_simp
      try with_reducible rfl
    show wpAnyZ _ _ _ _ _ _ _ _ (Act.put _ (some 88) _) _
    simp only [Act.put, List.setIfInBounds_toArray, List.set_cons_zero, List.set_cons_succ]
    refine wpAnyZ_take (i := 5) (v := ?_) rfl (by kernel_rfl) (by kernel_rfl) (by kernel_rfl) (fun _ _ _ h => h) (by kernel_rfl) (Or.inl ⟨by rfl, ?_⟩) (by assumption) ?_
    rotate_left
    · intro w' hSw
      try dsimp only at hSw
      try obtain ⟨hSw, hSw2⟩ := hSw
      go_simp
      try with_reducible rfl
    show wpAnyZ _ _ _ _ _ _ _ _ (Act.put _ (some 90) _) _
    simp only [Act.put, List.setIfInBounds_toArray, List.set_cons_zero, List.set_cons_succ]
    clear hSS
    obtain ⟨M, hM⟩ : ∃ M, Y.heap.size = M := ⟨_, rfl⟩
    have HMM := Lib.hid hM
    have HB := Lib.hid (show Below M Y Y from Below.refl _ _)
    have HBM := Lib.hid (show B ≤ M by rw [← hM]; exact Nat.le_trans HB0.out HO.out.b.size)
    clear hM
    refine wpAnyZ_one (i := 0) (by kernel_rfl) rfl rfl (fun K hK => ?_)
    go_simp
    obtain ⟨g0, hg0⟩ : ∃ b, Y.heap.size = b := ⟨_, rfl⟩
    have E0 := Lib.hid (RowC.new (B := B) (M := M) (by have := HB.out.size; have h2 := HMM.out; omega) hg0)
    have HB := Lib.hid (HB.out.alloc (by have := HB.out.size; have h2 := HMM.out; omega) (.cells #[] 44))
    rw [hg0]
    refine hK.out _ _ (.inr (by have h := HO.out.next (HMM.out ▸ HB.out); exact ⟨h.c0, h.c1, h.c2, h.c3, h.c4⟩)) ?_
    clear hK hg0
    generalize Y.alloc (.cells #[] 44) = Y1 at *
    refine wpAnyZ_one (i := 2) (by kernel_rfl) rfl rfl (fun K hK => ?_)
    refine wp_appC (.tmp 85) (.tmp 86) rfl B M (.slice (some ⟨g0, 0, none⟩) 0 0) [] x (.slice a x.length c) rfl E0.out rfl (HX.out.below (bNext (HMM.out ▸ HB.out) HO.out.b)) (by have := HLL.out; simp; omega) HBM.out (by have := HB.out.size; have h2 := HMM.out; omega) ?_
    intro v2 Y2 hr hb hg
    have R2 := Lib.hid (show RowC B M _ v2 x from hr)
    have HB := Lib.hid (HB.out.trans hb)
    refine hK.out _ _ (.inr (by have h := HO.out.next (HMM.out ▸ HB.out); exact ⟨h.c0, h.c1, h.c2, h.c3, h.c4⟩)) ?_
    clear hK hr hb hg E0
    refine wpAnyZ_one (i := 4) (by kernel_rfl) rfl rfl (fun K hK => ?_)
    refine wp_appC (.tmp 87) (.tmp 88) rfl B M v2 x y (.slice a2 y.length c2) rfl R2.out rfl (HY.out.below (bNext (HMM.out ▸ HB.out) HO.out.b)) (by have := HLL.out; omega) HBM.out (by have := HB.out.size; have h2 := HMM.out; omega) ?_
    intro v3 Y3 hr hb hg
    have R3 := Lib.hid (hr.cop (Bd.low HBM.out))
    have HB := Lib.hid (HB.out.trans hb)
    refine hK.out _ _ (.inr (by have h := HO.out.next (HMM.out ▸ HB.out); exact ⟨h.c0, h.c1, h.c2, h.c3, h.c4⟩)) ?_
    clear hK hr hb hg R2
    obtain ⟨a3, c3, rfl, -, -⟩ := R3.out.form
    have HO3 := Lib.hid (HO.out.next (HMM.out ▸ HB.out))
    have hq := behind_any Y3 B (Nat.le_trans HB0.out HO3.out.b.size) a3 c3 (x ++ y) R3.out (by have := HLL.out; rw [List.length_append]; omega) o pa pc (HP.out.below HO3.out.b) OKO.out
    unfold opV at hq
    refine wpAnyZ_one (i := 6) (by kernel_rfl) rfl rfl (fun K hK => ?_)
    go_simp
    first | refine hq.mono ?_ | (rw [List.length_append] at hq; refine hq.mono ?_)
    rintro e' Y4 ⟨⟨v4, rfl, hv4⟩, hb4⟩
    have HO4 := HO3.out.next hb4
    show K _ Y4
    refine hK.out _ _ (.inr ⟨HO4.c0, HO4.c1, HO4.c2, HO4.c3, HO4.c4⟩) ?_
    clear hK
    refine wpAnyZ_one (i := 7) (by kernel_rfl) rfl rfl (fun K hK => ?_)
    go_simp
    refine hK.out _ _ (.inl (by omega)) ?_
    clear hK
    refine wpAnyZ_done (by kernel_rfl) ?_ _
    go_wp2_with fail
    go_ret
    exact ⟨⟨_, rfl, hv4⟩, HO4.b⟩
set_option maxHeartbeats 4000000 in
theorem rdyad13_3harmsok (w : World) (B : Bd) (hB : B ≤ w.heap.size) (a a2 : Option Addr) (c c2 : Nat) (x y : List Cop) (hx : CopS B w (.slice a x.length c) x) (hy : CopS B w (.slice a2 y.length c2) y) (hl : x.length + y.length + 1 ≤ 2513169434843) (o : Cop) (pa : Option Addr) (pc : Nat) (hp : MonS B w (.slice pa o.p.length pc) o.p) (ho : OkO o) (hf : o.fn = 3) (g1 : onlyC x 1 = false) (g2 : onlyC y 1 = false) (g3 : onlyC x 0 = true) (g4 : harmC y = false) (g5 : onlyC y 0 = true) (g6 : harmC x = true) (h2 : twoC o.fn x y = none) :
    Calls Try.prog 63 #[.slice a x.length c, .slice a2 y.length c2, opV o pa pc] w (RetC B w (dyadC x y o)) := by
  rw [dyadC_z h2 (by unfold ruleY; rw [hf]; simp [*]) (by unfold ruleX; rw [hf]; simp [*]) (by unfold ruleZ; rw [hf]; simp [*])]
  have H2 := Lib.hid h2
  have HF := Lib.hid hf
  clear h2 hf
  obtain ⟨k1, hk1⟩ : ∃ k, knownC x = k := ⟨_, rfl⟩
  obtain ⟨k2, hk2⟩ : ∃ k, knownC y = k := ⟨_, rfl⟩
  have HKX := Lib.hid hk1; have HKY := Lib.hid hk2
  have hi1 := fun n (h : k1 = some n) => known_in hx (hk1.trans h); have hi2 := fun n (h : k2 = some n) => known_in hy (hk2.trans h)
  have HI1 := Lib.hid hi1; have HI2 := Lib.hid hi2
  clear hi1 hi2 hk1 hk2
  obtain ⟨b1, hb1⟩ : ∃ b, k1.isSome = b := ⟨_, rfl⟩
  obtain ⟨b2, hb2⟩ : ∃ b, k2.isSome = b := ⟨_, rfl⟩
  have HB1 := Lib.hid hb1; have HB2 := Lib.hid hb2
  clear hb1 hb2
  have HX := Lib.hid hx; have HY := Lib.hid hy; have HP := Lib.hid hp; have OKO := Lib.hid ho; have HB0 := Lib.hid hB; have HLL := Lib.hid hl
  have HO := Lib.hid (OpBox.new w o (.slice pa o.p.length pc))
  have hmx := hx.le; have hmy := hy.le
  unfold opV
  clear hx hy hp ho hB hl
  go_enter Try.func63, Try.ntmps63
  go_upto_region 1 with fail
  refine gen_worldA (fun W => OpBox w W w.heap.size o (.slice pa o.p.length pc)) HO.out ?_
  rintro W hO
  have HO := Lib.hid hO
  clear hO
  have HQ := Lib.hid (rnumber_any W a c x (HX.out.below HO.out.b).els hmx)
  rw [HKX.out, HB1.out] at HQ
  go_wp2_with fail
  refine HQ.out.mono ?_
  rintro e W1 ⟨rfl, hb⟩
  have HO := Lib.hid (HO.out.next hb)
  clear hb HQ
  have HQ := Lib.hid (rnumber_any W1 a2 c2 y (HY.out.below HO.out.b).els hmy)
  rw [HKY.out, HB2.out] at HQ
  go_wp2_with fail
  refine HQ.out.mono ?_
  rintro e W2 ⟨rfl, hb⟩
  have HO := Lib.hid (HO.out.next hb)
  clear hb HQ
  have x4 := HO.out.c4
  obtain ⟨m, e0, hd⟩ : ∃ m e0, dyadF o.fn (k1.getD 0) (k2.getD 0) = (m, e0) := ⟨_, _, rfl⟩
  have hi1 : In64 (k1.getD 0) := by cases k1 with | none => (unfold In64; decide) | some p => exact HI1.out p rfl
  have hi2 : In64 (k2.getD 0) := by cases k2 with | none => (unfold In64; decide) | some p => exact HI2.out p rfl
  have HQ := Lib.hid (rdyad_at W2 o.fn (k1.getD 0) (k2.getD 0) m e0 hi1 hi2 hd)
  have htt : (k1.isSome && (k2.isSome && (e0 == 0))) = false := by
    have h2 := H2.out
    unfold twoC at h2
    rw [HKX.out, HKY.out] at h2
    cases k1 with
    | none => rfl
    | some p =>
      cases k2 with
      | none => rfl
      | some q =>
        dsimp only at h2
        rw [show dyadF o.fn p q = (m, e0) from hd] at h2
        show (e0 == 0) = false
        rw [beq_eq_false_iff_ne]
        intro h
        rw [if_pos h] at h2
        cases h2
  have HTT := Lib.hid htt
  clear hd hi1 hi2 htt
  go_wp2_with fail
  refine HQ.out.mono ?_
  rintro e W3 ⟨rfl, nd, rfl⟩
  have HO := Lib.hid (HO.out.next (Below.drewN W2 nd))
  clear HQ x4
  obtain ⟨W4, hW4⟩ : ∃ W, W2.drewN nd = W := ⟨_, rfl⟩
  rw [hW4] at HO ⊢
  clear hW4
  go_upto_region 4 with fail
  go_cut [38] (fun s38 wx => s38 = .bool false ∧ OpBox w wx w.heap.size o (.slice pa o.p.length pc))
  case first =>
    obtain ⟨b3, hb3⟩ : ∃ b, (e0 == 0) = b := ⟨_, rfl⟩
    have htt := HTT.out
    rw [HB1.out, HB2.out, hb3] at htt
    cases b1 with
    | false => (clear htt hb3); (go_wp2_with fail); (go_meet); (exact ⟨rfl, HO.out⟩)
    | true =>
      cases b2 with
      | false => (clear htt hb3); (go_wp2_with fail); (go_meet); (exact ⟨rfl, HO.out⟩)
      | true =>
        cases b3 with
        | false => (clear htt); (go_wp2_with fail); (go_meet); (exact ⟨rfl, HO.out⟩)
        | true => cases htt
  case rest =>
    obtain ⟨rfl, hcut⟩ := hcut
    clear HO
    have HO := Lib.hid hcut
    clear hcut
    have x4 := HO.out.c4
    rw [HF.out] at x4
    have HG1 := Lib.hid g1; have HG2 := Lib.hid g2; have HG3 := Lib.hid g3; have HG4 := Lib.hid g4; have HG5 := Lib.hid g5; have HG6 := Lib.hid g6
    have HN := Lib.hid (fun W hL => rlist_any W B hL 0 (by unfold I64; omega))
    clear g1 g2 g3 g4 g5 g6
    have hq := ris_any wc a c x 1 (HX.out.below HO.out.b).els hmx
    rw [HG1.out] at hq
    have HQ := Lib.hid hq
    clear hq
    go_wp2_with fail
    refine HQ.out.mono ?_
    rintro e U1 ⟨rfl, hb⟩
    have HO := Lib.hid (HO.out.next hb)
    clear hb HQ
    have hq := ris_any U1 a2 c2 y 1 (HY.out.below HO.out.b).els hmy
    rw [HG2.out] at hq
    have HQ := Lib.hid hq
    clear hq
    go_wp2_with fail
    refine HQ.out.mono ?_
    rintro e U2 ⟨rfl, hb⟩
    have HO := Lib.hid (HO.out.next hb)
    clear hb HQ
    have hq := ris_any U2 a c x 0 (HX.out.below HO.out.b).els hmx
    rw [HG3.out] at hq
    have HQ := Lib.hid hq
    clear hq
    go_wp2_with fail
    refine HQ.out.mono ?_
    rintro e U3 ⟨rfl, hb⟩
    have HO := Lib.hid (HO.out.next hb)
    clear hb HQ
    have hq := rharmless_any U3 a2 c2 y (HY.out.below HO.out.b).els hmy
    rw [HG4.out] at hq
    have HQ := Lib.hid hq
    clear hq
    go_wp2_with fail
    refine HQ.out.mono ?_
    rintro e U4 ⟨rfl, hb⟩
    have HO := Lib.hid (HO.out.next hb)
    clear hb HQ
    have hq := ris_any U4 a2 c2 y 0 (HY.out.below HO.out.b).els hmy
    rw [HG5.out] at hq
    have HQ := Lib.hid hq
    clear hq
    go_wp2_with fail
    refine HQ.out.mono ?_
    rintro e U5 ⟨rfl, hb⟩
    have HO := Lib.hid (HO.out.next hb)
    clear hb HQ
    have hq := rharmless_any U5 a c x (HX.out.below HO.out.b).els hmx
    rw [HG6.out] at hq
    have HQ := Lib.hid hq
    clear hq
    go_wp2_with fail
    refine HQ.out.mono ?_
    rintro e U6 ⟨rfl, hb⟩
    have HO := Lib.hid (HO.out.next hb)
    clear hb HQ
    have HQ := Lib.hid (HN.out U6 (Nat.le_trans (Bd.low HB0.out) HO.out.b.size))
    go_wp2_with fail
    refine HQ.out.mono ?_
    rintro e w2 ⟨⟨v2, rfl, hv2⟩, hb2⟩
    go_wp2_with fail
    go_ret
    exact ⟨⟨_, rfl, hv2⟩, bNext hb2 HO.out.b⟩
set_option maxHeartbeats 4000000 in
theorem rdyad13_other (w : World) (B : Bd) (hB : B ≤ w.heap.size) (a a2 : Option Addr) (c c2 : Nat) (x y : List Cop) (hx : CopS B w (.slice a x.length c) x) (hy : CopS B w (.slice a2 y.length c2) y) (hl : x.length + y.length + 1 ≤ 2513169434843) (o : Cop) (pa : Option Addr) (pc : Nat) (hp : MonS B w (.slice pa o.p.length pc) o.p) (ho : OkO o) (f1 : o.fn ≠ 1) (f2 : o.fn ≠ 2) (f3 : o.fn ≠ 3) (f4 : o.fn ≠ 4) (f5 : o.fn ≠ 17) (h2 : twoC o.fn x y = none) :
    Calls Try.prog 63 #[.slice a x.length c, .slice a2 y.length c2, opV o pa pc] w (RetC B w (dyadC x y o)) := by
  obtain ⟨r1, r2, r3⟩ := rules_other (x := x) (y := y) f1 f2 f3 f4 f5
  rw [dyadC_j h2 r1 r2 r3]
  have n1 : (o.fn == 1) = false := by rw [beq_eq_false_iff_ne]; exact f1
  have n2 : (o.fn == 2) = false := by rw [beq_eq_false_iff_ne]; exact f2
  have n3 : (o.fn == 3) = false := by rw [beq_eq_false_iff_ne]; exact f3
  have n4 : (o.fn == 4) = false := by rw [beq_eq_false_iff_ne]; exact f4
  have n5 : (o.fn == 17) = false := by rw [beq_eq_false_iff_ne]; exact f5
  clear f1 f2 f3 f4 f5 r1 r2 r3
  have H2 := Lib.hid h2
  clear h2
  obtain ⟨k1, hk1⟩ : ∃ k, knownC x = k := ⟨_, rfl⟩
  obtain ⟨k2, hk2⟩ : ∃ k, knownC y = k := ⟨_, rfl⟩
  have HKX := Lib.hid hk1; have HKY := Lib.hid hk2
  have hi1 := fun n (h : k1 = some n) => known_in hx (hk1.trans h); have hi2 := fun n (h : k2 = some n) => known_in hy (hk2.trans h)
  have HI1 := Lib.hid hi1; have HI2 := Lib.hid hi2
  clear hi1 hi2 hk1 hk2
  obtain ⟨b1, hb1⟩ : ∃ b, k1.isSome = b := ⟨_, rfl⟩
  obtain ⟨b2, hb2⟩ : ∃ b, k2.isSome = b := ⟨_, rfl⟩
  have HB1 := Lib.hid hb1; have HB2 := Lib.hid hb2
  clear hb1 hb2
  have HX := Lib.hid hx; have HY := Lib.hid hy; have HP := Lib.hid hp; have OKO := Lib.hid ho; have HB0 := Lib.hid hB; have HLL := Lib.hid hl
  have HO := Lib.hid (OpBox.new w o (.slice pa o.p.length pc))
  have hmx := hx.le; have hmy := hy.le
  unfold opV
  clear hx hy hp ho hB hl
  go_enter Try.func63, Try.ntmps63
  go_upto_region 1 with fail
  refine gen_worldA (fun W => OpBox w W w.heap.size o (.slice pa o.p.length pc)) HO.out ?_
  rintro W hO
  have HO := Lib.hid hO
  clear hO
  have HQ := Lib.hid (rnumber_any W a c x (HX.out.below HO.out.b).els hmx)
  rw [HKX.out, HB1.out] at HQ
  go_wp2_with fail
  refine HQ.out.mono ?_
  rintro e W1 ⟨rfl, hb⟩
  have HO := Lib.hid (HO.out.next hb)
  clear hb HQ
  have HQ := Lib.hid (rnumber_any W1 a2 c2 y (HY.out.below HO.out.b).els hmy)
  rw [HKY.out, HB2.out] at HQ
  go_wp2_with fail
  refine HQ.out.mono ?_
  rintro e W2 ⟨rfl, hb⟩
  have HO := Lib.hid (HO.out.next hb)
  clear hb HQ
  have x4 := HO.out.c4
  obtain ⟨m, e0, hd⟩ : ∃ m e0, dyadF o.fn (k1.getD 0) (k2.getD 0) = (m, e0) := ⟨_, _, rfl⟩
  have hi1 : In64 (k1.getD 0) := by cases k1 with | none => (unfold In64; decide) | some p => exact HI1.out p rfl
  have hi2 : In64 (k2.getD 0) := by cases k2 with | none => (unfold In64; decide) | some p => exact HI2.out p rfl
  have HQ := Lib.hid (rdyad_at W2 o.fn (k1.getD 0) (k2.getD 0) m e0 hi1 hi2 hd)
  have htt : (k1.isSome && (k2.isSome && (e0 == 0))) = false := by
    have h2 := H2.out
    unfold twoC at h2
    rw [HKX.out, HKY.out] at h2
    cases k1 with
    | none => rfl
    | some p =>
      cases k2 with
      | none => rfl
      | some q =>
        dsimp only at h2
        rw [show dyadF o.fn p q = (m, e0) from hd] at h2
        show (e0 == 0) = false
        rw [beq_eq_false_iff_ne]
        intro h
        rw [if_pos h] at h2
        cases h2
  have HTT := Lib.hid htt
  clear hd hi1 hi2 htt
  go_wp2_with fail
  refine HQ.out.mono ?_
  rintro e W3 ⟨rfl, nd, rfl⟩
  have HO := Lib.hid (HO.out.next (Below.drewN W2 nd))
  clear HQ x4
  obtain ⟨W4, hW4⟩ : ∃ W, W2.drewN nd = W := ⟨_, rfl⟩
  rw [hW4] at HO ⊢
  clear hW4
  go_upto_region 4 with fail
  go_cut [38] (fun s38 wx => s38 = .bool false ∧ OpBox w wx w.heap.size o (.slice pa o.p.length pc))
  case first =>
    obtain ⟨b3, hb3⟩ : ∃ b, (e0 == 0) = b := ⟨_, rfl⟩
    have htt := HTT.out
    rw [HB1.out, HB2.out, hb3] at htt
    cases b1 with
    | false => (clear htt hb3); (go_wp2_with fail); (go_meet); (exact ⟨rfl, HO.out⟩)
    | true =>
      cases b2 with
      | false => (clear htt hb3); (go_wp2_with fail); (go_meet); (exact ⟨rfl, HO.out⟩)
      | true =>
        cases b3 with
        | false => (clear htt); (go_wp2_with fail); (go_meet); (exact ⟨rfl, HO.out⟩)
        | true => cases htt
  case rest =>
    obtain ⟨rfl, hcut⟩ := hcut
    clear HO
    have HO := Lib.hid hcut
    clear hcut
    have x4 := HO.out.c4
    go_upto_region 26 with fail
    refine wp_region_Z (S := fun W' => W'.cell? ⟨w.heap.size, 0, none⟩ = some (.int .i64 o.how) ∧ W'.cell? ⟨w.heap.size, 1, none⟩ = some (.int .i64 o.k) ∧ W'.cell? ⟨w.heap.size, 2, none⟩ = some (.int .i64 o.n) ∧ W'.cell? ⟨w.heap.size, 3, none⟩ = some (.slice pa o.p.length pc) ∧ W'.cell? ⟨w.heap.size, 4, none⟩ = some (.int .u8 o.fn)) (z := 7) (by kernel_rfl) ?_
    have HO := Lib.hid (HO.out.next (show Below wc.heap.size wc wc.drew from (Below.refl _ _).drew))
    generalize wc.drew = Y at HO ⊢
    have hSS : (fun W' : World => W'.cell? ⟨w.heap.size, 0, none⟩ = some (.int .i64 o.how) ∧ W'.cell? ⟨w.heap.size, 1, none⟩ = some (.int .i64 o.k) ∧ W'.cell? ⟨w.heap.size, 2, none⟩ = some (.int .i64 o.n) ∧ W'.cell? ⟨w.heap.size, 3, none⟩ = some (.slice pa o.p.length pc) ∧ W'.cell? ⟨w.heap.size, 4, none⟩ = some (.int .u8 o.fn)) Y := ⟨HO.out.c0, HO.out.c1, HO.out.c2, HO.out.c3, HO.out.c4⟩
    refine wpAnyZ_take (i := 1) (v := ?_) rfl (by kernel_rfl) (by kernel_rfl) (by kernel_rfl) (fun _ _ _ h => h) (by kernel_rfl) (Or.inl ⟨by rfl, ?_⟩) (by assumption) ?_
    rotate_left
    · intro w' hSw
      try dsimp only at hSw
      try obtain ⟨hSw, hSw2⟩ := hSw
      go_simp
      try with_reducible rfl
    show wpAnyZ _ _ _ _ _ _ _ _ (Act.put _ (some 86) _) _
    simp only [Act.put, List.setIfInBounds_toArray, List.set_cons_zero, List.set_cons_succ]
    refine wpAnyZ_take (i := 3) (v := ?_) rfl (by kernel_rfl) (by kernel_rfl) (by kernel_rfl) (fun _ _ _ h => h) (by kernel_rfl) (Or.inl ⟨by rfl, ?_⟩) (by assumption) ?_
    rotate_left
    · intro w' hSw
      try dsimp only at hSw
      try obtain ⟨hSw, hSw2⟩ := hSw
      go_simp
      try with_reducible rfl
    show wpAnyZ _ _ _ _ _ _ _ _ (Act.put _ (some 88) _) _
    simp only [Act.put, List.setIfInBounds_toArray, List.set_cons_zero, List.set_cons_succ]
    refine wpAnyZ_take (i := 5) (v := ?_) rfl (by kernel_rfl) (by kernel_rfl) (by kernel_rfl) (fun _ _ _ h => h) (by kernel_rfl) (Or.inl ⟨by rfl, ?_⟩) (by assumption) ?_
    rotate_left
    · intro w' hSw
      try dsimp only at hSw
      try obtain ⟨hSw, hSw2⟩ := hSw
      go_simp
      try with_reducible rfl
    show wpAnyZ _ _ _ _ _ _ _ _ (Act.put _ (some 90) _) _
    simp only [Act.put, List.setIfInBounds_toArray, List.set_cons_zero, List.set_cons_succ]
    clear hSS
    obtain ⟨M, hM⟩ : ∃ M, Y.heap.size = M := ⟨_, rfl⟩
    have HMM := Lib.hid hM
    have HB := Lib.hid (show Below M Y Y from Below.refl _ _)
    have HBM := Lib.hid (show B ≤ M by rw [← hM]; exact Nat.le_trans HB0.out HO.out.b.size)
    clear hM
    refine wpAnyZ_one (i := 0) (by kernel_rfl) rfl rfl (fun K hK => ?_)
    go_simp
    obtain ⟨g0, hg0⟩ : ∃ b, Y.heap.size = b := ⟨_, rfl⟩
    have E0 := Lib.hid (RowC.new (B := B) (M := M) (by have := HB.out.size; have h2 := HMM.out; omega) hg0)
    have HB := Lib.hid (HB.out.alloc (by have := HB.out.size; have h2 := HMM.out; omega) (.cells #[] 44))
    rw [hg0]
    refine hK.out _ _ (.inr (by have h := HO.out.next (HMM.out ▸ HB.out); exact ⟨h.c0, h.c1, h.c2, h.c3, h.c4⟩)) ?_
    clear hK hg0
    generalize Y.alloc (.cells #[] 44) = Y1 at *
    refine wpAnyZ_one (i := 2) (by kernel_rfl) rfl rfl (fun K hK => ?_)
    refine wp_appC (.tmp 85) (.tmp 86) rfl B M (.slice (some ⟨g0, 0, none⟩) 0 0) [] x (.slice a x.length c) rfl E0.out rfl (HX.out.below (bNext (HMM.out ▸ HB.out) HO.out.b)) (by have := HLL.out; simp; omega) HBM.out (by have := HB.out.size; have h2 := HMM.out; omega) ?_
    intro v2 Y2 hr hb hg
    have R2 := Lib.hid (show RowC B M _ v2 x from hr)
    have HB := Lib.hid (HB.out.trans hb)
    refine hK.out _ _ (.inr (by have h := HO.out.next (HMM.out ▸ HB.out); exact ⟨h.c0, h.c1, h.c2, h.c3, h.c4⟩)) ?_
    clear hK hr hb hg E0
    refine wpAnyZ_one (i := 4) (by kernel_rfl) rfl rfl (fun K hK => ?_)
    refine wp_appC (.tmp 87) (.tmp 88) rfl B M v2 x y (.slice a2 y.length c2) rfl R2.out rfl (HY.out.below (bNext (HMM.out ▸ HB.out) HO.out.b)) (by have := HLL.out; omega) HBM.out (by have := HB.out.size; have h2 := HMM.out; omega) ?_
    intro v3 Y3 hr hb hg
    have R3 := Lib.hid (hr.cop (Bd.low HBM.out))
    have HB := Lib.hid (HB.out.trans hb)
    refine hK.out _ _ (.inr (by have h := HO.out.next (HMM.out ▸ HB.out); exact ⟨h.c0, h.c1, h.c2, h.c3, h.c4⟩)) ?_
    clear hK hr hb hg R2
    obtain ⟨a3, c3, rfl, -, -⟩ := R3.out.form
    have HO3 := Lib.hid (HO.out.next (HMM.out ▸ HB.out))
    have hq := behind_any Y3 B (Nat.le_trans HB0.out HO3.out.b.size) a3 c3 (x ++ y) R3.out (by have := HLL.out; rw [List.length_append]; omega) o pa pc (HP.out.below HO3.out.b) OKO.out
    unfold opV at hq
    refine wpAnyZ_one (i := 6) (by kernel_rfl) rfl rfl (fun K hK => ?_)
    go_simp
    first | refine hq.mono ?_ | (rw [List.length_append] at hq; refine hq.mono ?_)
    rintro e' Y4 ⟨⟨v4, rfl, hv4⟩, hb4⟩
    have HO4 := HO3.out.next hb4
    show K _ Y4
    refine hK.out _ _ (.inr ⟨HO4.c0, HO4.c1, HO4.c2, HO4.c3, HO4.c4⟩) ?_
    clear hK
    refine wpAnyZ_one (i := 7) (by kernel_rfl) rfl rfl (fun K hK => ?_)
    go_simp
    refine hK.out _ _ (.inl (by omega)) ?_
    clear hK
    refine wpAnyZ_done (by kernel_rfl) ?_ _
    go_wp2_with fail
    go_ret
    exact ⟨⟨_, rfl, hv4⟩, HO4.b⟩
end Go.Proofs.Ytmlfeocdcjhhaaa

namespace Go.Proofs.Ytmlfeocdcjhhaaa
set_option maxRecDepth 100000
open Go.RowKit
set_option linter.unusedVariables false
set_option linter.unusedSimpArgs false
attribute [local go_sem ↓] Go.wp_at_zero Go.wp_at_succ

/-! windrowref13.dyad. -/

theorem rdyad13_any (w : World) (B : Bd) (hB : B ≤ w.heap.size) (a a2 : Option Addr) (c c2 : Nat) (x y : List Cop) (hx : CopS B w (.slice a x.length c) x) (hy : CopS B w (.slice a2 y.length c2) y) (hl : x.length + y.length + 1 ≤ 2513169434843) (o : Cop) (pa : Option Addr) (pc : Nat) (hp : MonS B w (.slice pa o.p.length pc) o.p) (ho : OkO o) :
    Calls Try.prog 63 #[.slice a x.length c, .slice a2 y.length c2, opV o pa pc] w (RetC B w (dyadC x y o)) := by
  cases h2 : twoC o.fn x y with
  | some m =>
    have h3 := h2
    unfold twoC at h3
    cases hkx : knownC x with
    | none => rw [hkx] at h3; cases h3
    | some p =>
      cases hky : knownC y with
      | none => rw [hkx, hky] at h3; cases h3
      | some q =>
        rw [hkx, hky] at h3
        dsimp only at h3
        split at h3
        · rename_i h0
          injection h3 with h3
          exact rdyad13_num w B hB a a2 c c2 x y hx hy hl o pa pc hp ho p q m hkx hky (by rw [← h3, ← h0])
        · cases h3
  | none =>
    by_cases f1 : o.fn = 1
    · cases g1 : onlyC x 0 with
      | true => exact rdyad13_1y w B hB a a2 c c2 x y hx hy hl o pa pc hp ho f1 g1 h2
      | false => cases g2 : onlyC y 0 with
        | true => exact rdyad13_1x w B hB a a2 c c2 x y hx hy hl o pa pc hp ho f1 g1 g2 h2
        | false => exact rdyad13_1j w B hB a a2 c c2 x y hx hy hl o pa pc hp ho f1 g1 g2 h2
    by_cases f2 : o.fn = 2
    · cases g2 : onlyC y 0 with
      | true => exact rdyad13_2x w B hB a a2 c c2 x y hx hy hl o pa pc hp ho f2 g2 h2
      | false => exact rdyad13_2j w B hB a a2 c c2 x y hx hy hl o pa pc hp ho f2 g2 h2
    by_cases f4 : o.fn = 4
    · cases g2 : onlyC y 1 with
      | true => exact rdyad13_4x w B hB a a2 c c2 x y hx hy hl o pa pc hp ho f4 g2 h2
      | false => exact rdyad13_4j w B hB a a2 c c2 x y hx hy hl o pa pc hp ho f4 g2 h2
    by_cases f5 : o.fn = 17
    · cases g2 : onlyC y 1 with
      | true => exact rdyad13_17x w B hB a a2 c c2 x y hx hy hl o pa pc hp ho f5 g2 h2
      | false => exact rdyad13_17j w B hB a a2 c c2 x y hx hy hl o pa pc hp ho f5 g2 h2
    by_cases f3 : o.fn = 3
    · cases g1 : onlyC x 1 with
      | true => exact rdyad13_3y w B hB a a2 c c2 x y hx hy hl o pa pc hp ho f3 g1 h2
      | false =>
        cases g2 : onlyC y 1 with
        | true => exact rdyad13_3x w B hB a a2 c c2 x y hx hy hl o pa pc hp ho f3 g1 g2 h2
        | false =>
          cases g3 : onlyC x 0 with
          | true =>
            cases g4 : harmC y with
            | true => exact rdyad13_3z1 w B hB a a2 c c2 x y hx hy hl o pa pc hp ho f3 g1 g2 g3 g4 h2
            | false =>
              cases g5 : onlyC y 0 with
              | false => exact rdyad13_3harmsno w B hB a a2 c c2 x y hx hy hl o pa pc hp ho f3 g1 g2 g3 g4 g5 h2
              | true => cases g6 : harmC x with
                | true => exact rdyad13_3harmsok w B hB a a2 c c2 x y hx hy hl o pa pc hp ho f3 g1 g2 g3 g4 g5 g6 h2
                | false => exact rdyad13_3harmsharms w B hB a a2 c c2 x y hx hy hl o pa pc hp ho f3 g1 g2 g3 g4 g5 g6 h2
          | false =>
            cases g5 : onlyC y 0 with
            | false => exact rdyad13_3nono w B hB a a2 c c2 x y hx hy hl o pa pc hp ho f3 g1 g2 g3 g5 h2
            | true => cases g6 : harmC x with
              | true => exact rdyad13_3nook w B hB a a2 c c2 x y hx hy hl o pa pc hp ho f3 g1 g2 g3 g5 g6 h2
              | false => exact rdyad13_3noharms w B hB a a2 c c2 x y hx hy hl o pa pc hp ho f3 g1 g2 g3 g5 g6 h2
    exact rdyad13_other w B hB a a2 c c2 x y hx hy hl o pa pc hp ho f1 f2 f3 f4 f5 h2
end Go.Proofs.Ytmlfeocdcjhhaaa
