import Derived.Test.YtmlfeocdcjhhaaaPH12
import Derived.Deep.DeepCutAuto
import Derived.Deep.CutBlock
namespace Go.Proofs.Ytmlfeocdcjhhaaa
set_option maxRecDepth 100000
open Go.RowKit
set_option linter.unusedVariables false
set_option linter.unusedSimpArgs false
attribute [local go_sem ↓] Go.wp_at_zero Go.wp_at_succ

theorem dyadC_num {x y : List Cop} {o : Cop} {n : Int} (h : twoC o.fn x y = some n) : dyadC x y o = [numC n] := by unfold dyadC; rw [h]
theorem dyadC_y {x y : List Cop} {o : Cop} (h : twoC o.fn x y = none) (h1 : ruleY o.fn x = true) : dyadC x y o = y := by unfold dyadC; rw [h]; dsimp only; rw [if_pos h1]
theorem dyadC_x {x y : List Cop} {o : Cop} (h : twoC o.fn x y = none) (h1 : ruleY o.fn x = false) (h2 : ruleX o.fn y = true) : dyadC x y o = x := by unfold dyadC; rw [h]; dsimp only; rw [if_neg (by rw [h1]; decide), if_pos h2]
theorem dyadC_z {x y : List Cop} {o : Cop} (h : twoC o.fn x y = none) (h1 : ruleY o.fn x = false) (h2 : ruleX o.fn y = false) (h3 : ruleZ o.fn x y = true) : dyadC x y o = [numC 0] := by
  unfold dyadC; rw [h]; dsimp only; rw [if_neg (by rw [h1]; decide), if_neg (by rw [h2]; decide), if_pos h3]
theorem dyadC_j {x y : List Cop} {o : Cop} (h : twoC o.fn x y = none) (h1 : ruleY o.fn x = false) (h2 : ruleX o.fn y = false) (h3 : ruleZ o.fn x y = false) : dyadC x y o = x ++ y ++ [o] := by
  unfold dyadC; rw [h]; dsimp only; rw [if_neg (by rw [h1]; decide), if_neg (by rw [h2]; decide), if_neg (by rw [h3]; decide)]
/-- the rules, function by function -/
theorem rules_other {f : Int} {x y : List Cop} (h1 : f ≠ 1) (h2 : f ≠ 2) (h3 : f ≠ 3) (h4 : f ≠ 4) (h5 : f ≠ 17) : ruleY f x = false ∧ ruleX f y = false ∧ ruleZ f x y = false := by
  unfold ruleY ruleX ruleZ
  rw [beq_eq_false_iff_ne.2 h1, beq_eq_false_iff_ne.2 h2, beq_eq_false_iff_ne.2 h3, beq_eq_false_iff_ne.2 h4, beq_eq_false_iff_ne.2 h5]
  exact ⟨rfl, rfl, rfl⟩

set_option maxHeartbeats 4000000 in
theorem dyad13_num (w : World) (B : Bd) (hB : B ≤ w.heap.size) (a a2 : Option Addr) (c c2 : Nat) (x y : List Cop) (hx : CopS B w (.slice a x.length c) x) (hy : CopS B w (.slice a2 y.length c2) y) (hl : x.length + y.length + 1 ≤ 2513169434843) (o : Cop) (pa : Option Addr) (pc : Nat) (hp : MonS B w (.slice pa o.p.length pc) o.p) (ho : OkO o) (p q m : Int) (hkx : knownC x = some p) (hky : knownC y = some q) (hd : dyadF o.fn p q = (m, 0)) :
    Calls Try.prog 56 #[.slice a x.length c, .slice a2 y.length c2, opV o pa pc] w (RetC B w (dyadC x y o)) := by
  have h2 : twoC o.fn x y = some m := by unfold twoC; rw [hkx, hky]; dsimp only; rw [hd]; rfl
  rw [dyadC_num h2]
  have hpi := known_in hx hkx; have hqi := known_in hy hky
  have hmi := dyad_in (f := o.fn) hpi hqi
  rw [hd] at hmi
  have HM := Lib.hid (fun W => dyad_at W o.fn p q m 0 hpi hqi hd); have HN := Lib.hid (fun W hL => numC_any W B hL m hmi); have HKX := Lib.hid hkx; have HKY := Lib.hid hky
  clear h2 hpi hqi hmi hd hkx hky
  have HX := Lib.hid hx; have HY := Lib.hid hy; have HP := Lib.hid hp; have OKO := Lib.hid ho; have HB0 := Lib.hid hB; have HLL := Lib.hid hl
  have HO := Lib.hid (OpBox.new w o (.slice pa o.p.length pc))
  have hmx := hx.le; have hmy := hy.le
  unfold opV
  clear hx hy hp ho hB hl
  go_enter Try.func56, Try.ntmps56
  go_upto_region 1 with fail
  refine gen_worldA (fun W => OpBox w W w.heap.size o (.slice pa o.p.length pc)) HO.out ?_
  rintro W hO
  have HO := Lib.hid hO
  clear hO
  have HQ := Lib.hid (known_any W a c x (HX.out.below HO.out.b).els hmx)
  rw [HKX.out] at HQ
  go_wp2_with fail
  refine HQ.out.mono ?_
  rintro e W1 ⟨rfl, hb⟩
  have HO := Lib.hid (HO.out.next hb)
  clear hb HQ
  have HQ := Lib.hid (known_any W1 a2 c2 y (HY.out.below HO.out.b).els hmy)
  rw [HKY.out] at HQ
  go_wp2_with fail
  refine HQ.out.mono ?_
  rintro e W2 ⟨rfl, hb⟩
  have HO := Lib.hid (HO.out.next hb)
  clear hb HQ
  have x4 := HO.out.c4
  have HQ := Lib.hid (HM.out W2)
  go_wp2_with fail
  refine HQ.out.mono ?_
  rintro e W3 ⟨rfl, nd, rfl⟩
  have HO := Lib.hid (HO.out.next (Below.drewN W2 nd))
  clear HQ HM x4
  have HQ := Lib.hid (HN.out (W2.drewN nd) (Nat.le_trans (Bd.low HB0.out) HO.out.b.size))
  go_wp2_with fail
  refine HQ.out.mono ?_
  rintro e w2 ⟨⟨v2, rfl, hv2⟩, hb2⟩
  go_wp2_with fail
  go_ret
  exact ⟨⟨_, rfl, hv2⟩, bNext hb2 HO.out.b⟩
set_option maxHeartbeats 4000000 in
theorem dyad13_1y (w : World) (B : Bd) (hB : B ≤ w.heap.size) (a a2 : Option Addr) (c c2 : Nat) (x y : List Cop) (hx : CopS B w (.slice a x.length c) x) (hy : CopS B w (.slice a2 y.length c2) y) (hl : x.length + y.length + 1 ≤ 2513169434843) (o : Cop) (pa : Option Addr) (pc : Nat) (hp : MonS B w (.slice pa o.p.length pc) o.p) (ho : OkO o) (hf : o.fn = 1) (g1 : onlyC x 0 = true) (h2 : twoC o.fn x y = none) :
    Calls Try.prog 56 #[.slice a x.length c, .slice a2 y.length c2, opV o pa pc] w (RetC B w (dyadC x y o)) := by
  rw [dyadC_y h2 (by unfold ruleY; rw [hf]; simp [*])]
  have H2 := Lib.hid h2
  have HF := Lib.hid hf
  clear h2 hf
  obtain ⟨k1, hk1⟩ : ∃ k, knownC x = k := ⟨_, rfl⟩
  obtain ⟨k2, hk2⟩ : ∃ k, knownC y = k := ⟨_, rfl⟩
  have HKX := Lib.hid hk1; have HKY := Lib.hid hk2
  have hi1 := fun n (h : k1 = some n) => known_in hx (hk1.trans h); have hi2 := fun n (h : k2 = some n) => known_in hy (hk2.trans h)
  have HI1 := Lib.hid hi1; have HI2 := Lib.hid hi2
  clear hi1 hi2 hk1 hk2
  have HX := Lib.hid hx; have HY := Lib.hid hy; have HP := Lib.hid hp; have OKO := Lib.hid ho; have HB0 := Lib.hid hB; have HLL := Lib.hid hl
  have HO := Lib.hid (OpBox.new w o (.slice pa o.p.length pc))
  have hmx := hx.le; have hmy := hy.le
  unfold opV
  clear hx hy hp ho hB hl
  go_enter Try.func56, Try.ntmps56
  go_upto_region 1 with fail
  refine gen_worldA (fun W => OpBox w W w.heap.size o (.slice pa o.p.length pc)) HO.out ?_
  rintro W hO
  have HO := Lib.hid hO
  clear hO
  have HQ := Lib.hid (known_any W a c x (HX.out.below HO.out.b).els hmx)
  rw [HKX.out] at HQ
  go_wp2_with fail
  refine HQ.out.mono ?_
  rintro e W1 ⟨rfl, hb⟩
  have HO := Lib.hid (HO.out.next hb)
  clear hb HQ
  have HQ := Lib.hid (known_any W1 a2 c2 y (HY.out.below HO.out.b).els hmy)
  rw [HKY.out] at HQ
  go_wp2_with fail
  refine HQ.out.mono ?_
  rintro e W2 ⟨rfl, hb⟩
  have HO := Lib.hid (HO.out.next hb)
  clear hb HQ
  go_upto_region 3 with fail
  go_cut [27] (fun s27 wx => s27 = .bool (k1.isSome && k2.isSome) ∧ W2 = wx)
  case first =>
    cases k1 with
    | none => (go_wp2_with fail); (go_meet); (exact ⟨rfl, rfl⟩)
    | some p => (cases k2 with | none => (go_wp2_with fail); (go_meet); (exact ⟨rfl, rfl⟩) | some q => (go_wp2_with fail); (go_meet); (exact ⟨rfl, rfl⟩))
  case rest =>
  obtain ⟨rfl, rfl⟩ := hcut
  obtain ⟨bb, hbb⟩ : ∃ bb, (k1.isSome && k2.isSome) = bb := ⟨_, rfl⟩
  rw [hbb]
  have HBB := Lib.hid hbb
  clear hbb
  go_upto_if 27 with fail
  go_cut [11, 12] (fun s11 s12 wx => OpBox w wx w.heap.size o (.slice pa o.p.length pc))
  case first =>
    cases bb with
    | false => (go_wp2_with fail); (go_meet); (exact HO.out)
    | true =>
      have hbb := HBB.out
      cases k1 with
      | none => cases hbb
      | some p =>
       cases k2 with
       | none => cases hbb
       | some q =>
        clear hbb
        obtain ⟨m, e0, hd⟩ : ∃ m e0, dyadF o.fn p q = (m, e0) := ⟨_, _, rfl⟩
        have he : (e0 == 0) = false := by
          have h2 := H2.out
          unfold twoC at h2
          rw [HKX.out, HKY.out] at h2
          dsimp only at h2
          rw [hd] at h2
          rw [beq_eq_false_iff_ne]
          intro h
          rw [if_pos h] at h2
          cases h2
        have HQ := Lib.hid (dyad_at W2 o.fn p q m e0 (HI1.out p rfl) (HI2.out q rfl) hd)
        have x4 := HO.out.c4
        clear hd
        go_wp2_with fail
        refine HQ.out.mono ?_
        rintro e W3 ⟨rfl, nd, rfl⟩
        have HO := Lib.hid (HO.out.next (Below.drewN W2 nd))
        clear HQ x4
        go_wp2_with fail
        go_meet
        exact HO.out
  case rest =>
    clear HO
    have HO := Lib.hid hcut
    clear hcut
    have x4 := HO.out.c4
    rw [HF.out] at x4
    have HG1 := Lib.hid g1
    clear g1
    have hq := only_any wc a c x 0 (HX.out.below HO.out.b).els hmx
    rw [HG1.out] at hq
    have HQ := Lib.hid hq
    clear hq
    go_wp2_with fail
    refine HQ.out.mono ?_
    rintro e U1 ⟨rfl, hb⟩
    have HO := Lib.hid (HO.out.next hb)
    clear hb HQ
    go_wp2_with fail
    go_ret
    exact ⟨⟨_, rfl, HY.out.below HO.out.b⟩, HO.out.b⟩
set_option maxHeartbeats 4000000 in
theorem dyad13_1x (w : World) (B : Bd) (hB : B ≤ w.heap.size) (a a2 : Option Addr) (c c2 : Nat) (x y : List Cop) (hx : CopS B w (.slice a x.length c) x) (hy : CopS B w (.slice a2 y.length c2) y) (hl : x.length + y.length + 1 ≤ 2513169434843) (o : Cop) (pa : Option Addr) (pc : Nat) (hp : MonS B w (.slice pa o.p.length pc) o.p) (ho : OkO o) (hf : o.fn = 1) (g1 : onlyC x 0 = false) (g2 : onlyC y 0 = true) (h2 : twoC o.fn x y = none) :
    Calls Try.prog 56 #[.slice a x.length c, .slice a2 y.length c2, opV o pa pc] w (RetC B w (dyadC x y o)) := by
  rw [dyadC_x h2 (by unfold ruleY; rw [hf]; simp [*]) (by unfold ruleX; rw [hf]; simp [*])]
  have H2 := Lib.hid h2
  have HF := Lib.hid hf
  clear h2 hf
  obtain ⟨k1, hk1⟩ : ∃ k, knownC x = k := ⟨_, rfl⟩
  obtain ⟨k2, hk2⟩ : ∃ k, knownC y = k := ⟨_, rfl⟩
  have HKX := Lib.hid hk1; have HKY := Lib.hid hk2
  have hi1 := fun n (h : k1 = some n) => known_in hx (hk1.trans h); have hi2 := fun n (h : k2 = some n) => known_in hy (hk2.trans h)
  have HI1 := Lib.hid hi1; have HI2 := Lib.hid hi2
  clear hi1 hi2 hk1 hk2
  have HX := Lib.hid hx; have HY := Lib.hid hy; have HP := Lib.hid hp; have OKO := Lib.hid ho; have HB0 := Lib.hid hB; have HLL := Lib.hid hl
  have HO := Lib.hid (OpBox.new w o (.slice pa o.p.length pc))
  have hmx := hx.le; have hmy := hy.le
  unfold opV
  clear hx hy hp ho hB hl
  go_enter Try.func56, Try.ntmps56
  go_upto_region 1 with fail
  refine gen_worldA (fun W => OpBox w W w.heap.size o (.slice pa o.p.length pc)) HO.out ?_
  rintro W hO
  have HO := Lib.hid hO
  clear hO
  have HQ := Lib.hid (known_any W a c x (HX.out.below HO.out.b).els hmx)
  rw [HKX.out] at HQ
  go_wp2_with fail
  refine HQ.out.mono ?_
  rintro e W1 ⟨rfl, hb⟩
  have HO := Lib.hid (HO.out.next hb)
  clear hb HQ
  have HQ := Lib.hid (known_any W1 a2 c2 y (HY.out.below HO.out.b).els hmy)
  rw [HKY.out] at HQ
  go_wp2_with fail
  refine HQ.out.mono ?_
  rintro e W2 ⟨rfl, hb⟩
  have HO := Lib.hid (HO.out.next hb)
  clear hb HQ
  go_upto_region 3 with fail
  go_cut [27] (fun s27 wx => s27 = .bool (k1.isSome && k2.isSome) ∧ W2 = wx)
  case first =>
    cases k1 with
    | none => (go_wp2_with fail); (go_meet); (exact ⟨rfl, rfl⟩)
    | some p => (cases k2 with | none => (go_wp2_with fail); (go_meet); (exact ⟨rfl, rfl⟩) | some q => (go_wp2_with fail); (go_meet); (exact ⟨rfl, rfl⟩))
  case rest =>
  obtain ⟨rfl, rfl⟩ := hcut
  obtain ⟨bb, hbb⟩ : ∃ bb, (k1.isSome && k2.isSome) = bb := ⟨_, rfl⟩
  rw [hbb]
  have HBB := Lib.hid hbb
  clear hbb
  go_upto_if 27 with fail
  go_cut [11, 12] (fun s11 s12 wx => OpBox w wx w.heap.size o (.slice pa o.p.length pc))
  case first =>
    cases bb with
    | false => (go_wp2_with fail); (go_meet); (exact HO.out)
    | true =>
      have hbb := HBB.out
      cases k1 with
      | none => cases hbb
      | some p =>
       cases k2 with
       | none => cases hbb
       | some q =>
        clear hbb
        obtain ⟨m, e0, hd⟩ : ∃ m e0, dyadF o.fn p q = (m, e0) := ⟨_, _, rfl⟩
        have he : (e0 == 0) = false := by
          have h2 := H2.out
          unfold twoC at h2
          rw [HKX.out, HKY.out] at h2
          dsimp only at h2
          rw [hd] at h2
          rw [beq_eq_false_iff_ne]
          intro h
          rw [if_pos h] at h2
          cases h2
        have HQ := Lib.hid (dyad_at W2 o.fn p q m e0 (HI1.out p rfl) (HI2.out q rfl) hd)
        have x4 := HO.out.c4
        clear hd
        go_wp2_with fail
        refine HQ.out.mono ?_
        rintro e W3 ⟨rfl, nd, rfl⟩
        have HO := Lib.hid (HO.out.next (Below.drewN W2 nd))
        clear HQ x4
        go_wp2_with fail
        go_meet
        exact HO.out
  case rest =>
    clear HO
    have HO := Lib.hid hcut
    clear hcut
    have x4 := HO.out.c4
    rw [HF.out] at x4
    have HG1 := Lib.hid g1; have HG2 := Lib.hid g2
    clear g1 g2
    have hq := only_any wc a c x 0 (HX.out.below HO.out.b).els hmx
    rw [HG1.out] at hq
    have HQ := Lib.hid hq
    clear hq
    go_wp2_with fail
    refine HQ.out.mono ?_
    rintro e U1 ⟨rfl, hb⟩
    have HO := Lib.hid (HO.out.next hb)
    clear hb HQ
    have hq := only_any U1 a2 c2 y 0 (HY.out.below HO.out.b).els hmy
    rw [HG2.out] at hq
    have HQ := Lib.hid hq
    clear hq
    go_wp2_with fail
    refine HQ.out.mono ?_
    rintro e U2 ⟨rfl, hb⟩
    have HO := Lib.hid (HO.out.next hb)
    clear hb HQ
    go_wp2_with fail
    go_ret
    exact ⟨⟨_, rfl, HX.out.below HO.out.b⟩, HO.out.b⟩
set_option maxHeartbeats 4000000 in
theorem dyad13_1j (w : World) (B : Bd) (hB : B ≤ w.heap.size) (a a2 : Option Addr) (c c2 : Nat) (x y : List Cop) (hx : CopS B w (.slice a x.length c) x) (hy : CopS B w (.slice a2 y.length c2) y) (hl : x.length + y.length + 1 ≤ 2513169434843) (o : Cop) (pa : Option Addr) (pc : Nat) (hp : MonS B w (.slice pa o.p.length pc) o.p) (ho : OkO o) (hf : o.fn = 1) (g1 : onlyC x 0 = false) (g2 : onlyC y 0 = false) (h2 : twoC o.fn x y = none) :
    Calls Try.prog 56 #[.slice a x.length c, .slice a2 y.length c2, opV o pa pc] w (RetC B w (dyadC x y o)) := by
  rw [dyadC_j h2 (by unfold ruleY; rw [hf]; simp [*]) (by unfold ruleX; rw [hf]; simp [*]) (by unfold ruleZ; rw [hf]; simp [*])]
  have H2 := Lib.hid h2
  have HF := Lib.hid hf
  clear h2 hf
  obtain ⟨k1, hk1⟩ : ∃ k, knownC x = k := ⟨_, rfl⟩
  obtain ⟨k2, hk2⟩ : ∃ k, knownC y = k := ⟨_, rfl⟩
  have HKX := Lib.hid hk1; have HKY := Lib.hid hk2
  have hi1 := fun n (h : k1 = some n) => known_in hx (hk1.trans h); have hi2 := fun n (h : k2 = some n) => known_in hy (hk2.trans h)
  have HI1 := Lib.hid hi1; have HI2 := Lib.hid hi2
  clear hi1 hi2 hk1 hk2
  have HX := Lib.hid hx; have HY := Lib.hid hy; have HP := Lib.hid hp; have OKO := Lib.hid ho; have HB0 := Lib.hid hB; have HLL := Lib.hid hl
  have HO := Lib.hid (OpBox.new w o (.slice pa o.p.length pc))
  have hmx := hx.le; have hmy := hy.le
  unfold opV
  clear hx hy hp ho hB hl
  go_enter Try.func56, Try.ntmps56
  go_upto_region 1 with fail
  refine gen_worldA (fun W => OpBox w W w.heap.size o (.slice pa o.p.length pc)) HO.out ?_
  rintro W hO
  have HO := Lib.hid hO
  clear hO
  have HQ := Lib.hid (known_any W a c x (HX.out.below HO.out.b).els hmx)
  rw [HKX.out] at HQ
  go_wp2_with fail
  refine HQ.out.mono ?_
  rintro e W1 ⟨rfl, hb⟩
  have HO := Lib.hid (HO.out.next hb)
  clear hb HQ
  have HQ := Lib.hid (known_any W1 a2 c2 y (HY.out.below HO.out.b).els hmy)
  rw [HKY.out] at HQ
  go_wp2_with fail
  refine HQ.out.mono ?_
  rintro e W2 ⟨rfl, hb⟩
  have HO := Lib.hid (HO.out.next hb)
  clear hb HQ
  go_upto_region 3 with fail
  go_cut [27] (fun s27 wx => s27 = .bool (k1.isSome && k2.isSome) ∧ W2 = wx)
  case first =>
    cases k1 with
    | none => (go_wp2_with fail); (go_meet); (exact ⟨rfl, rfl⟩)
    | some p => (cases k2 with | none => (go_wp2_with fail); (go_meet); (exact ⟨rfl, rfl⟩) | some q => (go_wp2_with fail); (go_meet); (exact ⟨rfl, rfl⟩))
  case rest =>
  obtain ⟨rfl, rfl⟩ := hcut
  obtain ⟨bb, hbb⟩ : ∃ bb, (k1.isSome && k2.isSome) = bb := ⟨_, rfl⟩
  rw [hbb]
  have HBB := Lib.hid hbb
  clear hbb
  go_upto_if 27 with fail
  go_cut [11, 12] (fun s11 s12 wx => OpBox w wx w.heap.size o (.slice pa o.p.length pc))
  case first =>
    cases bb with
    | false => (go_wp2_with fail); (go_meet); (exact HO.out)
    | true =>
      have hbb := HBB.out
      cases k1 with
      | none => cases hbb
      | some p =>
       cases k2 with
       | none => cases hbb
       | some q =>
        clear hbb
        obtain ⟨m, e0, hd⟩ : ∃ m e0, dyadF o.fn p q = (m, e0) := ⟨_, _, rfl⟩
        have he : (e0 == 0) = false := by
          have h2 := H2.out
          unfold twoC at h2
          rw [HKX.out, HKY.out] at h2
          dsimp only at h2
          rw [hd] at h2
          rw [beq_eq_false_iff_ne]
          intro h
          rw [if_pos h] at h2
          cases h2
        have HQ := Lib.hid (dyad_at W2 o.fn p q m e0 (HI1.out p rfl) (HI2.out q rfl) hd)
        have x4 := HO.out.c4
        clear hd
        go_wp2_with fail
        refine HQ.out.mono ?_
        rintro e W3 ⟨rfl, nd, rfl⟩
        have HO := Lib.hid (HO.out.next (Below.drewN W2 nd))
        clear HQ x4
        go_wp2_with fail
        go_meet
        exact HO.out
  case rest =>
    clear HO
    have HO := Lib.hid hcut
    clear hcut
    have x4 := HO.out.c4
    rw [HF.out] at x4
    have HG1 := Lib.hid g1; have HG2 := Lib.hid g2
    clear g1 g2
    have hq := only_any wc a c x 0 (HX.out.below HO.out.b).els hmx
    rw [HG1.out] at hq
    have HQ := Lib.hid hq
    clear hq
    go_wp2_with fail
    refine HQ.out.mono ?_
    rintro e U1 ⟨rfl, hb⟩
    have HO := Lib.hid (HO.out.next hb)
    clear hb HQ
    have hq := only_any U1 a2 c2 y 0 (HY.out.below HO.out.b).els hmy
    rw [HG2.out] at hq
    have HQ := Lib.hid hq
    clear hq
    go_wp2_with fail
    refine HQ.out.mono ?_
    rintro e U2 ⟨rfl, hb⟩
    have HO := Lib.hid (HO.out.next hb)
    clear hb HQ
    have y0 := HO.out.c0; have y1 := HO.out.c1; have y2 := HO.out.c2; have y3 := HO.out.c3; have y4 := HO.out.c4
    obtain ⟨G1, hG1⟩ : ∃ G, U2.heap.size = G := ⟨_, rfl⟩
    have HQ := Lib.hid (join3_any U2 B G1 (G1 + 1) (Nat.le_trans HB0.out HO.out.b.size) hG1 rfl _ _ x y (HX.out.below HO.out.b) (HY.out.below HO.out.b) o _ (HP.out.below HO.out.b) OKO.out HLL.out)
    skip
    go_wp2_with fail
    refine HQ.out.mono ?_
    rintro e' w2 ⟨⟨v2, rfl, hv2⟩, hb2⟩
    go_wp2_with fail
    go_ret
    exact ⟨⟨_, rfl, hv2⟩, bNext hb2 HO.out.b⟩
set_option maxHeartbeats 4000000 in
theorem dyad13_2x (w : World) (B : Bd) (hB : B ≤ w.heap.size) (a a2 : Option Addr) (c c2 : Nat) (x y : List Cop) (hx : CopS B w (.slice a x.length c) x) (hy : CopS B w (.slice a2 y.length c2) y) (hl : x.length + y.length + 1 ≤ 2513169434843) (o : Cop) (pa : Option Addr) (pc : Nat) (hp : MonS B w (.slice pa o.p.length pc) o.p) (ho : OkO o) (hf : o.fn = 2) (g2 : onlyC y 0 = true) (h2 : twoC o.fn x y = none) :
    Calls Try.prog 56 #[.slice a x.length c, .slice a2 y.length c2, opV o pa pc] w (RetC B w (dyadC x y o)) := by
  rw [dyadC_x h2 (by unfold ruleY; rw [hf]; simp [*]) (by unfold ruleX; rw [hf]; simp [*])]
  have H2 := Lib.hid h2
  have HF := Lib.hid hf
  clear h2 hf
  obtain ⟨k1, hk1⟩ : ∃ k, knownC x = k := ⟨_, rfl⟩
  obtain ⟨k2, hk2⟩ : ∃ k, knownC y = k := ⟨_, rfl⟩
  have HKX := Lib.hid hk1; have HKY := Lib.hid hk2
  have hi1 := fun n (h : k1 = some n) => known_in hx (hk1.trans h); have hi2 := fun n (h : k2 = some n) => known_in hy (hk2.trans h)
  have HI1 := Lib.hid hi1; have HI2 := Lib.hid hi2
  clear hi1 hi2 hk1 hk2
  have HX := Lib.hid hx; have HY := Lib.hid hy; have HP := Lib.hid hp; have OKO := Lib.hid ho; have HB0 := Lib.hid hB; have HLL := Lib.hid hl
  have HO := Lib.hid (OpBox.new w o (.slice pa o.p.length pc))
  have hmx := hx.le; have hmy := hy.le
  unfold opV
  clear hx hy hp ho hB hl
  go_enter Try.func56, Try.ntmps56
  go_upto_region 1 with fail
  refine gen_worldA (fun W => OpBox w W w.heap.size o (.slice pa o.p.length pc)) HO.out ?_
  rintro W hO
  have HO := Lib.hid hO
  clear hO
  have HQ := Lib.hid (known_any W a c x (HX.out.below HO.out.b).els hmx)
  rw [HKX.out] at HQ
  go_wp2_with fail
  refine HQ.out.mono ?_
  rintro e W1 ⟨rfl, hb⟩
  have HO := Lib.hid (HO.out.next hb)
  clear hb HQ
  have HQ := Lib.hid (known_any W1 a2 c2 y (HY.out.below HO.out.b).els hmy)
  rw [HKY.out] at HQ
  go_wp2_with fail
  refine HQ.out.mono ?_
  rintro e W2 ⟨rfl, hb⟩
  have HO := Lib.hid (HO.out.next hb)
  clear hb HQ
  go_upto_region 3 with fail
  go_cut [27] (fun s27 wx => s27 = .bool (k1.isSome && k2.isSome) ∧ W2 = wx)
  case first =>
    cases k1 with
    | none => (go_wp2_with fail); (go_meet); (exact ⟨rfl, rfl⟩)
    | some p => (cases k2 with | none => (go_wp2_with fail); (go_meet); (exact ⟨rfl, rfl⟩) | some q => (go_wp2_with fail); (go_meet); (exact ⟨rfl, rfl⟩))
  case rest =>
  obtain ⟨rfl, rfl⟩ := hcut
  obtain ⟨bb, hbb⟩ : ∃ bb, (k1.isSome && k2.isSome) = bb := ⟨_, rfl⟩
  rw [hbb]
  have HBB := Lib.hid hbb
  clear hbb
  go_upto_if 27 with fail
  go_cut [11, 12] (fun s11 s12 wx => OpBox w wx w.heap.size o (.slice pa o.p.length pc))
  case first =>
    cases bb with
    | false => (go_wp2_with fail); (go_meet); (exact HO.out)
    | true =>
      have hbb := HBB.out
      cases k1 with
      | none => cases hbb
      | some p =>
       cases k2 with
       | none => cases hbb
       | some q =>
        clear hbb
        obtain ⟨m, e0, hd⟩ : ∃ m e0, dyadF o.fn p q = (m, e0) := ⟨_, _, rfl⟩
        have he : (e0 == 0) = false := by
          have h2 := H2.out
          unfold twoC at h2
          rw [HKX.out, HKY.out] at h2
          dsimp only at h2
          rw [hd] at h2
          rw [beq_eq_false_iff_ne]
          intro h
          rw [if_pos h] at h2
          cases h2
        have HQ := Lib.hid (dyad_at W2 o.fn p q m e0 (HI1.out p rfl) (HI2.out q rfl) hd)
        have x4 := HO.out.c4
        clear hd
        go_wp2_with fail
        refine HQ.out.mono ?_
        rintro e W3 ⟨rfl, nd, rfl⟩
        have HO := Lib.hid (HO.out.next (Below.drewN W2 nd))
        clear HQ x4
        go_wp2_with fail
        go_meet
        exact HO.out
  case rest =>
    clear HO
    have HO := Lib.hid hcut
    clear hcut
    have x4 := HO.out.c4
    rw [HF.out] at x4
    have HG2 := Lib.hid g2
    clear g2
    have hq := only_any wc a2 c2 y 0 (HY.out.below HO.out.b).els hmy
    rw [HG2.out] at hq
    have HQ := Lib.hid hq
    clear hq
    go_wp2_with fail
    refine HQ.out.mono ?_
    rintro e U2 ⟨rfl, hb⟩
    have HO := Lib.hid (HO.out.next hb)
    clear hb HQ
    go_wp2_with fail
    go_ret
    exact ⟨⟨_, rfl, HX.out.below HO.out.b⟩, HO.out.b⟩
set_option maxHeartbeats 4000000 in
theorem dyad13_2j (w : World) (B : Bd) (hB : B ≤ w.heap.size) (a a2 : Option Addr) (c c2 : Nat) (x y : List Cop) (hx : CopS B w (.slice a x.length c) x) (hy : CopS B w (.slice a2 y.length c2) y) (hl : x.length + y.length + 1 ≤ 2513169434843) (o : Cop) (pa : Option Addr) (pc : Nat) (hp : MonS B w (.slice pa o.p.length pc) o.p) (ho : OkO o) (hf : o.fn = 2) (g2 : onlyC y 0 = false) (h2 : twoC o.fn x y = none) :
    Calls Try.prog 56 #[.slice a x.length c, .slice a2 y.length c2, opV o pa pc] w (RetC B w (dyadC x y o)) := by
  rw [dyadC_j h2 (by unfold ruleY; rw [hf]; simp [*]) (by unfold ruleX; rw [hf]; simp [*]) (by unfold ruleZ; rw [hf]; simp [*])]
  have H2 := Lib.hid h2
  have HF := Lib.hid hf
  clear h2 hf
  obtain ⟨k1, hk1⟩ : ∃ k, knownC x = k := ⟨_, rfl⟩
  obtain ⟨k2, hk2⟩ : ∃ k, knownC y = k := ⟨_, rfl⟩
  have HKX := Lib.hid hk1; have HKY := Lib.hid hk2
  have hi1 := fun n (h : k1 = some n) => known_in hx (hk1.trans h); have hi2 := fun n (h : k2 = some n) => known_in hy (hk2.trans h)
  have HI1 := Lib.hid hi1; have HI2 := Lib.hid hi2
  clear hi1 hi2 hk1 hk2
  have HX := Lib.hid hx; have HY := Lib.hid hy; have HP := Lib.hid hp; have OKO := Lib.hid ho; have HB0 := Lib.hid hB; have HLL := Lib.hid hl
  have HO := Lib.hid (OpBox.new w o (.slice pa o.p.length pc))
  have hmx := hx.le; have hmy := hy.le
  unfold opV
  clear hx hy hp ho hB hl
  go_enter Try.func56, Try.ntmps56
  go_upto_region 1 with fail
  refine gen_worldA (fun W => OpBox w W w.heap.size o (.slice pa o.p.length pc)) HO.out ?_
  rintro W hO
  have HO := Lib.hid hO
  clear hO
  have HQ := Lib.hid (known_any W a c x (HX.out.below HO.out.b).els hmx)
  rw [HKX.out] at HQ
  go_wp2_with fail
  refine HQ.out.mono ?_
  rintro e W1 ⟨rfl, hb⟩
  have HO := Lib.hid (HO.out.next hb)
  clear hb HQ
  have HQ := Lib.hid (known_any W1 a2 c2 y (HY.out.below HO.out.b).els hmy)
  rw [HKY.out] at HQ
  go_wp2_with fail
  refine HQ.out.mono ?_
  rintro e W2 ⟨rfl, hb⟩
  have HO := Lib.hid (HO.out.next hb)
  clear hb HQ
  go_upto_region 3 with fail
  go_cut [27] (fun s27 wx => s27 = .bool (k1.isSome && k2.isSome) ∧ W2 = wx)
  case first =>
    cases k1 with
    | none => (go_wp2_with fail); (go_meet); (exact ⟨rfl, rfl⟩)
    | some p => (cases k2 with | none => (go_wp2_with fail); (go_meet); (exact ⟨rfl, rfl⟩) | some q => (go_wp2_with fail); (go_meet); (exact ⟨rfl, rfl⟩))
  case rest =>
  obtain ⟨rfl, rfl⟩ := hcut
  obtain ⟨bb, hbb⟩ : ∃ bb, (k1.isSome && k2.isSome) = bb := ⟨_, rfl⟩
  rw [hbb]
  have HBB := Lib.hid hbb
  clear hbb
  go_upto_if 27 with fail
  go_cut [11, 12] (fun s11 s12 wx => OpBox w wx w.heap.size o (.slice pa o.p.length pc))
  case first =>
    cases bb with
    | false => (go_wp2_with fail); (go_meet); (exact HO.out)
    | true =>
      have hbb := HBB.out
      cases k1 with
      | none => cases hbb
      | some p =>
       cases k2 with
       | none => cases hbb
       | some q =>
        clear hbb
        obtain ⟨m, e0, hd⟩ : ∃ m e0, dyadF o.fn p q = (m, e0) := ⟨_, _, rfl⟩
        have he : (e0 == 0) = false := by
          have h2 := H2.out
          unfold twoC at h2
          rw [HKX.out, HKY.out] at h2
          dsimp only at h2
          rw [hd] at h2
          rw [beq_eq_false_iff_ne]
          intro h
          rw [if_pos h] at h2
          cases h2
        have HQ := Lib.hid (dyad_at W2 o.fn p q m e0 (HI1.out p rfl) (HI2.out q rfl) hd)
        have x4 := HO.out.c4
        clear hd
        go_wp2_with fail
        refine HQ.out.mono ?_
        rintro e W3 ⟨rfl, nd, rfl⟩
        have HO := Lib.hid (HO.out.next (Below.drewN W2 nd))
        clear HQ x4
        go_wp2_with fail
        go_meet
        exact HO.out
  case rest =>
    clear HO
    have HO := Lib.hid hcut
    clear hcut
    have x4 := HO.out.c4
    rw [HF.out] at x4
    have HG2 := Lib.hid g2
    clear g2
    have hq := only_any wc a2 c2 y 0 (HY.out.below HO.out.b).els hmy
    rw [HG2.out] at hq
    have HQ := Lib.hid hq
    clear hq
    go_wp2_with fail
    refine HQ.out.mono ?_
    rintro e U2 ⟨rfl, hb⟩
    have HO := Lib.hid (HO.out.next hb)
    clear hb HQ
    have y0 := HO.out.c0; have y1 := HO.out.c1; have y2 := HO.out.c2; have y3 := HO.out.c3; have y4 := HO.out.c4
    obtain ⟨G1, hG1⟩ : ∃ G, U2.heap.size = G := ⟨_, rfl⟩
    have HQ := Lib.hid (join3_any U2 B G1 (G1 + 1) (Nat.le_trans HB0.out HO.out.b.size) hG1 rfl _ _ x y (HX.out.below HO.out.b) (HY.out.below HO.out.b) o _ (HP.out.below HO.out.b) OKO.out HLL.out)
    skip
    go_wp2_with fail
    refine HQ.out.mono ?_
    rintro e' w2 ⟨⟨v2, rfl, hv2⟩, hb2⟩
    go_wp2_with fail
    go_ret
    exact ⟨⟨_, rfl, hv2⟩, bNext hb2 HO.out.b⟩
set_option maxHeartbeats 4000000 in
theorem dyad13_4x (w : World) (B : Bd) (hB : B ≤ w.heap.size) (a a2 : Option Addr) (c c2 : Nat) (x y : List Cop) (hx : CopS B w (.slice a x.length c) x) (hy : CopS B w (.slice a2 y.length c2) y) (hl : x.length + y.length + 1 ≤ 2513169434843) (o : Cop) (pa : Option Addr) (pc : Nat) (hp : MonS B w (.slice pa o.p.length pc) o.p) (ho : OkO o) (hf : o.fn = 4) (g2 : onlyC y 1 = true) (h2 : twoC o.fn x y = none) :
    Calls Try.prog 56 #[.slice a x.length c, .slice a2 y.length c2, opV o pa pc] w (RetC B w (dyadC x y o)) := by
  rw [dyadC_x h2 (by unfold ruleY; rw [hf]; simp [*]) (by unfold ruleX; rw [hf]; simp [*])]
  have H2 := Lib.hid h2
  have HF := Lib.hid hf
  clear h2 hf
  obtain ⟨k1, hk1⟩ : ∃ k, knownC x = k := ⟨_, rfl⟩
  obtain ⟨k2, hk2⟩ : ∃ k, knownC y = k := ⟨_, rfl⟩
  have HKX := Lib.hid hk1; have HKY := Lib.hid hk2
  have hi1 := fun n (h : k1 = some n) => known_in hx (hk1.trans h); have hi2 := fun n (h : k2 = some n) => known_in hy (hk2.trans h)
  have HI1 := Lib.hid hi1; have HI2 := Lib.hid hi2
  clear hi1 hi2 hk1 hk2
  have HX := Lib.hid hx; have HY := Lib.hid hy; have HP := Lib.hid hp; have OKO := Lib.hid ho; have HB0 := Lib.hid hB; have HLL := Lib.hid hl
  have HO := Lib.hid (OpBox.new w o (.slice pa o.p.length pc))
  have hmx := hx.le; have hmy := hy.le
  unfold opV
  clear hx hy hp ho hB hl
  go_enter Try.func56, Try.ntmps56
  go_upto_region 1 with fail
  refine gen_worldA (fun W => OpBox w W w.heap.size o (.slice pa o.p.length pc)) HO.out ?_
  rintro W hO
  have HO := Lib.hid hO
  clear hO
  have HQ := Lib.hid (known_any W a c x (HX.out.below HO.out.b).els hmx)
  rw [HKX.out] at HQ
  go_wp2_with fail
  refine HQ.out.mono ?_
  rintro e W1 ⟨rfl, hb⟩
  have HO := Lib.hid (HO.out.next hb)
  clear hb HQ
  have HQ := Lib.hid (known_any W1 a2 c2 y (HY.out.below HO.out.b).els hmy)
  rw [HKY.out] at HQ
  go_wp2_with fail
  refine HQ.out.mono ?_
  rintro e W2 ⟨rfl, hb⟩
  have HO := Lib.hid (HO.out.next hb)
  clear hb HQ
  go_upto_region 3 with fail
  go_cut [27] (fun s27 wx => s27 = .bool (k1.isSome && k2.isSome) ∧ W2 = wx)
  case first =>
    cases k1 with
    | none => (go_wp2_with fail); (go_meet); (exact ⟨rfl, rfl⟩)
    | some p => (cases k2 with | none => (go_wp2_with fail); (go_meet); (exact ⟨rfl, rfl⟩) | some q => (go_wp2_with fail); (go_meet); (exact ⟨rfl, rfl⟩))
  case rest =>
  obtain ⟨rfl, rfl⟩ := hcut
  obtain ⟨bb, hbb⟩ : ∃ bb, (k1.isSome && k2.isSome) = bb := ⟨_, rfl⟩
  rw [hbb]
  have HBB := Lib.hid hbb
  clear hbb
  go_upto_if 27 with fail
  go_cut [11, 12] (fun s11 s12 wx => OpBox w wx w.heap.size o (.slice pa o.p.length pc))
  case first =>
    cases bb with
    | false => (go_wp2_with fail); (go_meet); (exact HO.out)
    | true =>
      have hbb := HBB.out
      cases k1 with
      | none => cases hbb
      | some p =>
       cases k2 with
       | none => cases hbb
       | some q =>
        clear hbb
        obtain ⟨m, e0, hd⟩ : ∃ m e0, dyadF o.fn p q = (m, e0) := ⟨_, _, rfl⟩
        have he : (e0 == 0) = false := by
          have h2 := H2.out
          unfold twoC at h2
          rw [HKX.out, HKY.out] at h2
          dsimp only at h2
          rw [hd] at h2
          rw [beq_eq_false_iff_ne]
          intro h
          rw [if_pos h] at h2
          cases h2
        have HQ := Lib.hid (dyad_at W2 o.fn p q m e0 (HI1.out p rfl) (HI2.out q rfl) hd)
        have x4 := HO.out.c4
        clear hd
        go_wp2_with fail
        refine HQ.out.mono ?_
        rintro e W3 ⟨rfl, nd, rfl⟩
        have HO := Lib.hid (HO.out.next (Below.drewN W2 nd))
        clear HQ x4
        go_wp2_with fail
        go_meet
        exact HO.out
  case rest =>
    clear HO
    have HO := Lib.hid hcut
    clear hcut
    have x4 := HO.out.c4
    rw [HF.out] at x4
    have HG2 := Lib.hid g2
    clear g2
    have hq := only_any wc a2 c2 y 1 (HY.out.below HO.out.b).els hmy
    rw [HG2.out] at hq
    have HQ := Lib.hid hq
    clear hq
    go_wp2_with fail
    refine HQ.out.mono ?_
    rintro e U2 ⟨rfl, hb⟩
    have HO := Lib.hid (HO.out.next hb)
    clear hb HQ
    go_wp2_with fail
    go_ret
    exact ⟨⟨_, rfl, HX.out.below HO.out.b⟩, HO.out.b⟩
set_option maxHeartbeats 4000000 in
theorem dyad13_4j (w : World) (B : Bd) (hB : B ≤ w.heap.size) (a a2 : Option Addr) (c c2 : Nat) (x y : List Cop) (hx : CopS B w (.slice a x.length c) x) (hy : CopS B w (.slice a2 y.length c2) y) (hl : x.length + y.length + 1 ≤ 2513169434843) (o : Cop) (pa : Option Addr) (pc : Nat) (hp : MonS B w (.slice pa o.p.length pc) o.p) (ho : OkO o) (hf : o.fn = 4) (g2 : onlyC y 1 = false) (h2 : twoC o.fn x y = none) :
    Calls Try.prog 56 #[.slice a x.length c, .slice a2 y.length c2, opV o pa pc] w (RetC B w (dyadC x y o)) := by
  rw [dyadC_j h2 (by unfold ruleY; rw [hf]; simp [*]) (by unfold ruleX; rw [hf]; simp [*]) (by unfold ruleZ; rw [hf]; simp [*])]
  have H2 := Lib.hid h2
  have HF := Lib.hid hf
  clear h2 hf
  obtain ⟨k1, hk1⟩ : ∃ k, knownC x = k := ⟨_, rfl⟩
  obtain ⟨k2, hk2⟩ : ∃ k, knownC y = k := ⟨_, rfl⟩
  have HKX := Lib.hid hk1; have HKY := Lib.hid hk2
  have hi1 := fun n (h : k1 = some n) => known_in hx (hk1.trans h); have hi2 := fun n (h : k2 = some n) => known_in hy (hk2.trans h)
  have HI1 := Lib.hid hi1; have HI2 := Lib.hid hi2
  clear hi1 hi2 hk1 hk2
  have HX := Lib.hid hx; have HY := Lib.hid hy; have HP := Lib.hid hp; have OKO := Lib.hid ho; have HB0 := Lib.hid hB; have HLL := Lib.hid hl
  have HO := Lib.hid (OpBox.new w o (.slice pa o.p.length pc))
  have hmx := hx.le; have hmy := hy.le
  unfold opV
  clear hx hy hp ho hB hl
  go_enter Try.func56, Try.ntmps56
  go_upto_region 1 with fail
  refine gen_worldA (fun W => OpBox w W w.heap.size o (.slice pa o.p.length pc)) HO.out ?_
  rintro W hO
  have HO := Lib.hid hO
  clear hO
  have HQ := Lib.hid (known_any W a c x (HX.out.below HO.out.b).els hmx)
  rw [HKX.out] at HQ
  go_wp2_with fail
  refine HQ.out.mono ?_
  rintro e W1 ⟨rfl, hb⟩
  have HO := Lib.hid (HO.out.next hb)
  clear hb HQ
  have HQ := Lib.hid (known_any W1 a2 c2 y (HY.out.below HO.out.b).els hmy)
  rw [HKY.out] at HQ
  go_wp2_with fail
  refine HQ.out.mono ?_
  rintro e W2 ⟨rfl, hb⟩
  have HO := Lib.hid (HO.out.next hb)
  clear hb HQ
  go_upto_region 3 with fail
  go_cut [27] (fun s27 wx => s27 = .bool (k1.isSome && k2.isSome) ∧ W2 = wx)
  case first =>
    cases k1 with
    | none => (go_wp2_with fail); (go_meet); (exact ⟨rfl, rfl⟩)
    | some p => (cases k2 with | none => (go_wp2_with fail); (go_meet); (exact ⟨rfl, rfl⟩) | some q => (go_wp2_with fail); (go_meet); (exact ⟨rfl, rfl⟩))
  case rest =>
  obtain ⟨rfl, rfl⟩ := hcut
  obtain ⟨bb, hbb⟩ : ∃ bb, (k1.isSome && k2.isSome) = bb := ⟨_, rfl⟩
  rw [hbb]
  have HBB := Lib.hid hbb
  clear hbb
  go_upto_if 27 with fail
  go_cut [11, 12] (fun s11 s12 wx => OpBox w wx w.heap.size o (.slice pa o.p.length pc))
  case first =>
    cases bb with
    | false => (go_wp2_with fail); (go_meet); (exact HO.out)
    | true =>
      have hbb := HBB.out
      cases k1 with
      | none => cases hbb
      | some p =>
       cases k2 with
       | none => cases hbb
       | some q =>
        clear hbb
        obtain ⟨m, e0, hd⟩ : ∃ m e0, dyadF o.fn p q = (m, e0) := ⟨_, _, rfl⟩
        have he : (e0 == 0) = false := by
          have h2 := H2.out
          unfold twoC at h2
          rw [HKX.out, HKY.out] at h2
          dsimp only at h2
          rw [hd] at h2
          rw [beq_eq_false_iff_ne]
          intro h
          rw [if_pos h] at h2
          cases h2
        have HQ := Lib.hid (dyad_at W2 o.fn p q m e0 (HI1.out p rfl) (HI2.out q rfl) hd)
        have x4 := HO.out.c4
        clear hd
        go_wp2_with fail
        refine HQ.out.mono ?_
        rintro e W3 ⟨rfl, nd, rfl⟩
        have HO := Lib.hid (HO.out.next (Below.drewN W2 nd))
        clear HQ x4
        go_wp2_with fail
        go_meet
        exact HO.out
  case rest =>
    clear HO
    have HO := Lib.hid hcut
    clear hcut
    have x4 := HO.out.c4
    rw [HF.out] at x4
    have HG2 := Lib.hid g2
    clear g2
    have hq := only_any wc a2 c2 y 1 (HY.out.below HO.out.b).els hmy
    rw [HG2.out] at hq
    have HQ := Lib.hid hq
    clear hq
    go_wp2_with fail
    refine HQ.out.mono ?_
    rintro e U2 ⟨rfl, hb⟩
    have HO := Lib.hid (HO.out.next hb)
    clear hb HQ
    have y0 := HO.out.c0; have y1 := HO.out.c1; have y2 := HO.out.c2; have y3 := HO.out.c3; have y4 := HO.out.c4
    obtain ⟨G1, hG1⟩ : ∃ G, U2.heap.size = G := ⟨_, rfl⟩
    have HQ := Lib.hid (join3_any U2 B G1 (G1 + 1) (Nat.le_trans HB0.out HO.out.b.size) hG1 rfl _ _ x y (HX.out.below HO.out.b) (HY.out.below HO.out.b) o _ (HP.out.below HO.out.b) OKO.out HLL.out)
    skip
    go_wp2_with fail
    refine HQ.out.mono ?_
    rintro e' w2 ⟨⟨v2, rfl, hv2⟩, hb2⟩
    go_wp2_with fail
    go_ret
    exact ⟨⟨_, rfl, hv2⟩, bNext hb2 HO.out.b⟩
set_option maxHeartbeats 4000000 in
theorem dyad13_17x (w : World) (B : Bd) (hB : B ≤ w.heap.size) (a a2 : Option Addr) (c c2 : Nat) (x y : List Cop) (hx : CopS B w (.slice a x.length c) x) (hy : CopS B w (.slice a2 y.length c2) y) (hl : x.length + y.length + 1 ≤ 2513169434843) (o : Cop) (pa : Option Addr) (pc : Nat) (hp : MonS B w (.slice pa o.p.length pc) o.p) (ho : OkO o) (hf : o.fn = 17) (g2 : onlyC y 1 = true) (h2 : twoC o.fn x y = none) :
    Calls Try.prog 56 #[.slice a x.length c, .slice a2 y.length c2, opV o pa pc] w (RetC B w (dyadC x y o)) := by
  rw [dyadC_x h2 (by unfold ruleY; rw [hf]; simp [*]) (by unfold ruleX; rw [hf]; simp [*])]
  have H2 := Lib.hid h2
  have HF := Lib.hid hf
  clear h2 hf
  obtain ⟨k1, hk1⟩ : ∃ k, knownC x = k := ⟨_, rfl⟩
  obtain ⟨k2, hk2⟩ : ∃ k, knownC y = k := ⟨_, rfl⟩
  have HKX := Lib.hid hk1; have HKY := Lib.hid hk2
  have hi1 := fun n (h : k1 = some n) => known_in hx (hk1.trans h); have hi2 := fun n (h : k2 = some n) => known_in hy (hk2.trans h)
  have HI1 := Lib.hid hi1; have HI2 := Lib.hid hi2
  clear hi1 hi2 hk1 hk2
  have HX := Lib.hid hx; have HY := Lib.hid hy; have HP := Lib.hid hp; have OKO := Lib.hid ho; have HB0 := Lib.hid hB; have HLL := Lib.hid hl
  have HO := Lib.hid (OpBox.new w o (.slice pa o.p.length pc))
  have hmx := hx.le; have hmy := hy.le
  unfold opV
  clear hx hy hp ho hB hl
  go_enter Try.func56, Try.ntmps56
  go_upto_region 1 with fail
  refine gen_worldA (fun W => OpBox w W w.heap.size o (.slice pa o.p.length pc)) HO.out ?_
  rintro W hO
  have HO := Lib.hid hO
  clear hO
  have HQ := Lib.hid (known_any W a c x (HX.out.below HO.out.b).els hmx)
  rw [HKX.out] at HQ
  go_wp2_with fail
  refine HQ.out.mono ?_
  rintro e W1 ⟨rfl, hb⟩
  have HO := Lib.hid (HO.out.next hb)
  clear hb HQ
  have HQ := Lib.hid (known_any W1 a2 c2 y (HY.out.below HO.out.b).els hmy)
  rw [HKY.out] at HQ
  go_wp2_with fail
  refine HQ.out.mono ?_
  rintro e W2 ⟨rfl, hb⟩
  have HO := Lib.hid (HO.out.next hb)
  clear hb HQ
  go_upto_region 3 with fail
  go_cut [27] (fun s27 wx => s27 = .bool (k1.isSome && k2.isSome) ∧ W2 = wx)
  case first =>
    cases k1 with
    | none => (go_wp2_with fail); (go_meet); (exact ⟨rfl, rfl⟩)
    | some p => (cases k2 with | none => (go_wp2_with fail); (go_meet); (exact ⟨rfl, rfl⟩) | some q => (go_wp2_with fail); (go_meet); (exact ⟨rfl, rfl⟩))
  case rest =>
  obtain ⟨rfl, rfl⟩ := hcut
  obtain ⟨bb, hbb⟩ : ∃ bb, (k1.isSome && k2.isSome) = bb := ⟨_, rfl⟩
  rw [hbb]
  have HBB := Lib.hid hbb
  clear hbb
  go_upto_if 27 with fail
  go_cut [11, 12] (fun s11 s12 wx => OpBox w wx w.heap.size o (.slice pa o.p.length pc))
  case first =>
    cases bb with
    | false => (go_wp2_with fail); (go_meet); (exact HO.out)
    | true =>
      have hbb := HBB.out
      cases k1 with
      | none => cases hbb
      | some p =>
       cases k2 with
       | none => cases hbb
       | some q =>
        clear hbb
        obtain ⟨m, e0, hd⟩ : ∃ m e0, dyadF o.fn p q = (m, e0) := ⟨_, _, rfl⟩
        have he : (e0 == 0) = false := by
          have h2 := H2.out
          unfold twoC at h2
          rw [HKX.out, HKY.out] at h2
          dsimp only at h2
          rw [hd] at h2
          rw [beq_eq_false_iff_ne]
          intro h
          rw [if_pos h] at h2
          cases h2
        have HQ := Lib.hid (dyad_at W2 o.fn p q m e0 (HI1.out p rfl) (HI2.out q rfl) hd)
        have x4 := HO.out.c4
        clear hd
        go_wp2_with fail
        refine HQ.out.mono ?_
        rintro e W3 ⟨rfl, nd, rfl⟩
        have HO := Lib.hid (HO.out.next (Below.drewN W2 nd))
        clear HQ x4
        go_wp2_with fail
        go_meet
        exact HO.out
  case rest =>
    clear HO
    have HO := Lib.hid hcut
    clear hcut
    have x4 := HO.out.c4
    rw [HF.out] at x4
    have HG2 := Lib.hid g2
    clear g2
    have hq := only_any wc a2 c2 y 1 (HY.out.below HO.out.b).els hmy
    rw [HG2.out] at hq
    have HQ := Lib.hid hq
    clear hq
    go_wp2_with fail
    refine HQ.out.mono ?_
    rintro e U2 ⟨rfl, hb⟩
    have HO := Lib.hid (HO.out.next hb)
    clear hb HQ
    go_wp2_with fail
    go_ret
    exact ⟨⟨_, rfl, HX.out.below HO.out.b⟩, HO.out.b⟩
set_option maxHeartbeats 4000000 in
theorem dyad13_17j (w : World) (B : Bd) (hB : B ≤ w.heap.size) (a a2 : Option Addr) (c c2 : Nat) (x y : List Cop) (hx : CopS B w (.slice a x.length c) x) (hy : CopS B w (.slice a2 y.length c2) y) (hl : x.length + y.length + 1 ≤ 2513169434843) (o : Cop) (pa : Option Addr) (pc : Nat) (hp : MonS B w (.slice pa o.p.length pc) o.p) (ho : OkO o) (hf : o.fn = 17) (g2 : onlyC y 1 = false) (h2 : twoC o.fn x y = none) :
    Calls Try.prog 56 #[.slice a x.length c, .slice a2 y.length c2, opV o pa pc] w (RetC B w (dyadC x y o)) := by
  rw [dyadC_j h2 (by unfold ruleY; rw [hf]; simp [*]) (by unfold ruleX; rw [hf]; simp [*]) (by unfold ruleZ; rw [hf]; simp [*])]
  have H2 := Lib.hid h2
  have HF := Lib.hid hf
  clear h2 hf
  obtain ⟨k1, hk1⟩ : ∃ k, knownC x = k := ⟨_, rfl⟩
  obtain ⟨k2, hk2⟩ : ∃ k, knownC y = k := ⟨_, rfl⟩
  have HKX := Lib.hid hk1; have HKY := Lib.hid hk2
  have hi1 := fun n (h : k1 = some n) => known_in hx (hk1.trans h); have hi2 := fun n (h : k2 = some n) => known_in hy (hk2.trans h)
  have HI1 := Lib.hid hi1; have HI2 := Lib.hid hi2
  clear hi1 hi2 hk1 hk2
  have HX := Lib.hid hx; have HY := Lib.hid hy; have HP := Lib.hid hp; have OKO := Lib.hid ho; have HB0 := Lib.hid hB; have HLL := Lib.hid hl
  have HO := Lib.hid (OpBox.new w o (.slice pa o.p.length pc))
  have hmx := hx.le; have hmy := hy.le
  unfold opV
  clear hx hy hp ho hB hl
  go_enter Try.func56, Try.ntmps56
  go_upto_region 1 with fail
  refine gen_worldA (fun W => OpBox w W w.heap.size o (.slice pa o.p.length pc)) HO.out ?_
  rintro W hO
  have HO := Lib.hid hO
  clear hO
  have HQ := Lib.hid (known_any W a c x (HX.out.below HO.out.b).els hmx)
  rw [HKX.out] at HQ
  go_wp2_with fail
  refine HQ.out.mono ?_
  rintro e W1 ⟨rfl, hb⟩
  have HO := Lib.hid (HO.out.next hb)
  clear hb HQ
  have HQ := Lib.hid (known_any W1 a2 c2 y (HY.out.below HO.out.b).els hmy)
  rw [HKY.out] at HQ
  go_wp2_with fail
  refine HQ.out.mono ?_
  rintro e W2 ⟨rfl, hb⟩
  have HO := Lib.hid (HO.out.next hb)
  clear hb HQ
  go_upto_region 3 with fail
  go_cut [27] (fun s27 wx => s27 = .bool (k1.isSome && k2.isSome) ∧ W2 = wx)
  case first =>
    cases k1 with
    | none => (go_wp2_with fail); (go_meet); (exact ⟨rfl, rfl⟩)
    | some p => (cases k2 with | none => (go_wp2_with fail); (go_meet); (exact ⟨rfl, rfl⟩) | some q => (go_wp2_with fail); (go_meet); (exact ⟨rfl, rfl⟩))
  case rest =>
  obtain ⟨rfl, rfl⟩ := hcut
  obtain ⟨bb, hbb⟩ : ∃ bb, (k1.isSome && k2.isSome) = bb := ⟨_, rfl⟩
  rw [hbb]
  have HBB := Lib.hid hbb
  clear hbb
  go_upto_if 27 with fail
  go_cut [11, 12] (fun s11 s12 wx => OpBox w wx w.heap.size o (.slice pa o.p.length pc))
  case first =>
    cases bb with
    | false => (go_wp2_with fail); (go_meet); (exact HO.out)
    | true =>
      have hbb := HBB.out
      cases k1 with
      | none => cases hbb
      | some p =>
       cases k2 with
       | none => cases hbb
       | some q =>
        clear hbb
        obtain ⟨m, e0, hd⟩ : ∃ m e0, dyadF o.fn p q = (m, e0) := ⟨_, _, rfl⟩
        have he : (e0 == 0) = false := by
          have h2 := H2.out
          unfold twoC at h2
          rw [HKX.out, HKY.out] at h2
          dsimp only at h2
          rw [hd] at h2
          rw [beq_eq_false_iff_ne]
          intro h
          rw [if_pos h] at h2
          cases h2
        have HQ := Lib.hid (dyad_at W2 o.fn p q m e0 (HI1.out p rfl) (HI2.out q rfl) hd)
        have x4 := HO.out.c4
        clear hd
        go_wp2_with fail
        refine HQ.out.mono ?_
        rintro e W3 ⟨rfl, nd, rfl⟩
        have HO := Lib.hid (HO.out.next (Below.drewN W2 nd))
        clear HQ x4
        go_wp2_with fail
        go_meet
        exact HO.out
  case rest =>
    clear HO
    have HO := Lib.hid hcut
    clear hcut
    have x4 := HO.out.c4
    rw [HF.out] at x4
    have HG2 := Lib.hid g2
    clear g2
    have hq := only_any wc a2 c2 y 1 (HY.out.below HO.out.b).els hmy
    rw [HG2.out] at hq
    have HQ := Lib.hid hq
    clear hq
    go_wp2_with fail
    refine HQ.out.mono ?_
    rintro e U2 ⟨rfl, hb⟩
    have HO := Lib.hid (HO.out.next hb)
    clear hb HQ
    have y0 := HO.out.c0; have y1 := HO.out.c1; have y2 := HO.out.c2; have y3 := HO.out.c3; have y4 := HO.out.c4
    obtain ⟨G1, hG1⟩ : ∃ G, U2.heap.size = G := ⟨_, rfl⟩
    have HQ := Lib.hid (join3_any U2 B G1 (G1 + 1) (Nat.le_trans HB0.out HO.out.b.size) hG1 rfl _ _ x y (HX.out.below HO.out.b) (HY.out.below HO.out.b) o _ (HP.out.below HO.out.b) OKO.out HLL.out)
    skip
    go_wp2_with fail
    refine HQ.out.mono ?_
    rintro e' w2 ⟨⟨v2, rfl, hv2⟩, hb2⟩
    go_wp2_with fail
    go_ret
    exact ⟨⟨_, rfl, hv2⟩, bNext hb2 HO.out.b⟩
set_option maxHeartbeats 4000000 in
theorem dyad13_3y (w : World) (B : Bd) (hB : B ≤ w.heap.size) (a a2 : Option Addr) (c c2 : Nat) (x y : List Cop) (hx : CopS B w (.slice a x.length c) x) (hy : CopS B w (.slice a2 y.length c2) y) (hl : x.length + y.length + 1 ≤ 2513169434843) (o : Cop) (pa : Option Addr) (pc : Nat) (hp : MonS B w (.slice pa o.p.length pc) o.p) (ho : OkO o) (hf : o.fn = 3) (g1 : onlyC x 1 = true) (h2 : twoC o.fn x y = none) :
    Calls Try.prog 56 #[.slice a x.length c, .slice a2 y.length c2, opV o pa pc] w (RetC B w (dyadC x y o)) := by
  rw [dyadC_y h2 (by unfold ruleY; rw [hf]; simp [*])]
  have H2 := Lib.hid h2
  have HF := Lib.hid hf
  clear h2 hf
  obtain ⟨k1, hk1⟩ : ∃ k, knownC x = k := ⟨_, rfl⟩
  obtain ⟨k2, hk2⟩ : ∃ k, knownC y = k := ⟨_, rfl⟩
  have HKX := Lib.hid hk1; have HKY := Lib.hid hk2
  have hi1 := fun n (h : k1 = some n) => known_in hx (hk1.trans h); have hi2 := fun n (h : k2 = some n) => known_in hy (hk2.trans h)
  have HI1 := Lib.hid hi1; have HI2 := Lib.hid hi2
  clear hi1 hi2 hk1 hk2
  have HX := Lib.hid hx; have HY := Lib.hid hy; have HP := Lib.hid hp; have OKO := Lib.hid ho; have HB0 := Lib.hid hB; have HLL := Lib.hid hl
  have HO := Lib.hid (OpBox.new w o (.slice pa o.p.length pc))
  have hmx := hx.le; have hmy := hy.le
  unfold opV
  clear hx hy hp ho hB hl
  go_enter Try.func56, Try.ntmps56
  go_upto_region 1 with fail
  refine gen_worldA (fun W => OpBox w W w.heap.size o (.slice pa o.p.length pc)) HO.out ?_
  rintro W hO
  have HO := Lib.hid hO
  clear hO
  have HQ := Lib.hid (known_any W a c x (HX.out.below HO.out.b).els hmx)
  rw [HKX.out] at HQ
  go_wp2_with fail
  refine HQ.out.mono ?_
  rintro e W1 ⟨rfl, hb⟩
  have HO := Lib.hid (HO.out.next hb)
  clear hb HQ
  have HQ := Lib.hid (known_any W1 a2 c2 y (HY.out.below HO.out.b).els hmy)
  rw [HKY.out] at HQ
  go_wp2_with fail
  refine HQ.out.mono ?_
  rintro e W2 ⟨rfl, hb⟩
  have HO := Lib.hid (HO.out.next hb)
  clear hb HQ
  go_upto_region 3 with fail
  go_cut [27] (fun s27 wx => s27 = .bool (k1.isSome && k2.isSome) ∧ W2 = wx)
  case first =>
    cases k1 with
    | none => (go_wp2_with fail); (go_meet); (exact ⟨rfl, rfl⟩)
    | some p => (cases k2 with | none => (go_wp2_with fail); (go_meet); (exact ⟨rfl, rfl⟩) | some q => (go_wp2_with fail); (go_meet); (exact ⟨rfl, rfl⟩))
  case rest =>
  obtain ⟨rfl, rfl⟩ := hcut
  obtain ⟨bb, hbb⟩ : ∃ bb, (k1.isSome && k2.isSome) = bb := ⟨_, rfl⟩
  rw [hbb]
  have HBB := Lib.hid hbb
  clear hbb
  go_upto_if 27 with fail
  go_cut [11, 12] (fun s11 s12 wx => OpBox w wx w.heap.size o (.slice pa o.p.length pc))
  case first =>
    cases bb with
    | false => (go_wp2_with fail); (go_meet); (exact HO.out)
    | true =>
      have hbb := HBB.out
      cases k1 with
      | none => cases hbb
      | some p =>
       cases k2 with
       | none => cases hbb
       | some q =>
        clear hbb
        obtain ⟨m, e0, hd⟩ : ∃ m e0, dyadF o.fn p q = (m, e0) := ⟨_, _, rfl⟩
        have he : (e0 == 0) = false := by
          have h2 := H2.out
          unfold twoC at h2
          rw [HKX.out, HKY.out] at h2
          dsimp only at h2
          rw [hd] at h2
          rw [beq_eq_false_iff_ne]
          intro h
          rw [if_pos h] at h2
          cases h2
        have HQ := Lib.hid (dyad_at W2 o.fn p q m e0 (HI1.out p rfl) (HI2.out q rfl) hd)
        have x4 := HO.out.c4
        clear hd
        go_wp2_with fail
        refine HQ.out.mono ?_
        rintro e W3 ⟨rfl, nd, rfl⟩
        have HO := Lib.hid (HO.out.next (Below.drewN W2 nd))
        clear HQ x4
        go_wp2_with fail
        go_meet
        exact HO.out
  case rest =>
    clear HO
    have HO := Lib.hid hcut
    clear hcut
    have x4 := HO.out.c4
    rw [HF.out] at x4
    have HG1 := Lib.hid g1
    clear g1
    have hq := only_any wc a c x 1 (HX.out.below HO.out.b).els hmx
    rw [HG1.out] at hq
    have HQ := Lib.hid hq
    clear hq
    go_wp2_with fail
    refine HQ.out.mono ?_
    rintro e U1 ⟨rfl, hb⟩
    have HO := Lib.hid (HO.out.next hb)
    clear hb HQ
    go_wp2_with fail
    go_ret
    exact ⟨⟨_, rfl, HY.out.below HO.out.b⟩, HO.out.b⟩
set_option maxHeartbeats 4000000 in
theorem dyad13_3x (w : World) (B : Bd) (hB : B ≤ w.heap.size) (a a2 : Option Addr) (c c2 : Nat) (x y : List Cop) (hx : CopS B w (.slice a x.length c) x) (hy : CopS B w (.slice a2 y.length c2) y) (hl : x.length + y.length + 1 ≤ 2513169434843) (o : Cop) (pa : Option Addr) (pc : Nat) (hp : MonS B w (.slice pa o.p.length pc) o.p) (ho : OkO o) (hf : o.fn = 3) (g1 : onlyC x 1 = false) (g2 : onlyC y 1 = true) (h2 : twoC o.fn x y = none) :
    Calls Try.prog 56 #[.slice a x.length c, .slice a2 y.length c2, opV o pa pc] w (RetC B w (dyadC x y o)) := by
  rw [dyadC_x h2 (by unfold ruleY; rw [hf]; simp [*]) (by unfold ruleX; rw [hf]; simp [*])]
  have H2 := Lib.hid h2
  have HF := Lib.hid hf
  clear h2 hf
  obtain ⟨k1, hk1⟩ : ∃ k, knownC x = k := ⟨_, rfl⟩
  obtain ⟨k2, hk2⟩ : ∃ k, knownC y = k := ⟨_, rfl⟩
  have HKX := Lib.hid hk1; have HKY := Lib.hid hk2
  have hi1 := fun n (h : k1 = some n) => known_in hx (hk1.trans h); have hi2 := fun n (h : k2 = some n) => known_in hy (hk2.trans h)
  have HI1 := Lib.hid hi1; have HI2 := Lib.hid hi2
  clear hi1 hi2 hk1 hk2
  have HX := Lib.hid hx; have HY := Lib.hid hy; have HP := Lib.hid hp; have OKO := Lib.hid ho; have HB0 := Lib.hid hB; have HLL := Lib.hid hl
  have HO := Lib.hid (OpBox.new w o (.slice pa o.p.length pc))
  have hmx := hx.le; have hmy := hy.le
  unfold opV
  clear hx hy hp ho hB hl
  go_enter Try.func56, Try.ntmps56
  go_upto_region 1 with fail
  refine gen_worldA (fun W => OpBox w W w.heap.size o (.slice pa o.p.length pc)) HO.out ?_
  rintro W hO
  have HO := Lib.hid hO
  clear hO
  have HQ := Lib.hid (known_any W a c x (HX.out.below HO.out.b).els hmx)
  rw [HKX.out] at HQ
  go_wp2_with fail
  refine HQ.out.mono ?_
  rintro e W1 ⟨rfl, hb⟩
  have HO := Lib.hid (HO.out.next hb)
  clear hb HQ
  have HQ := Lib.hid (known_any W1 a2 c2 y (HY.out.below HO.out.b).els hmy)
  rw [HKY.out] at HQ
  go_wp2_with fail
  refine HQ.out.mono ?_
  rintro e W2 ⟨rfl, hb⟩
  have HO := Lib.hid (HO.out.next hb)
  clear hb HQ
  go_upto_region 3 with fail
  go_cut [27] (fun s27 wx => s27 = .bool (k1.isSome && k2.isSome) ∧ W2 = wx)
  case first =>
    cases k1 with
    | none => (go_wp2_with fail); (go_meet); (exact ⟨rfl, rfl⟩)
    | some p => (cases k2 with | none => (go_wp2_with fail); (go_meet); (exact ⟨rfl, rfl⟩) | some q => (go_wp2_with fail); (go_meet); (exact ⟨rfl, rfl⟩))
  case rest =>
  obtain ⟨rfl, rfl⟩ := hcut
  obtain ⟨bb, hbb⟩ : ∃ bb, (k1.isSome && k2.isSome) = bb := ⟨_, rfl⟩
  rw [hbb]
  have HBB := Lib.hid hbb
  clear hbb
  go_upto_if 27 with fail
  go_cut [11, 12] (fun s11 s12 wx => OpBox w wx w.heap.size o (.slice pa o.p.length pc))
  case first =>
    cases bb with
    | false => (go_wp2_with fail); (go_meet); (exact HO.out)
    | true =>
      have hbb := HBB.out
      cases k1 with
      | none => cases hbb
      | some p =>
       cases k2 with
       | none => cases hbb
       | some q =>
        clear hbb
        obtain ⟨m, e0, hd⟩ : ∃ m e0, dyadF o.fn p q = (m, e0) := ⟨_, _, rfl⟩
        have he : (e0 == 0) = false := by
          have h2 := H2.out
          unfold twoC at h2
          rw [HKX.out, HKY.out] at h2
          dsimp only at h2
          rw [hd] at h2
          rw [beq_eq_false_iff_ne]
          intro h
          rw [if_pos h] at h2
          cases h2
        have HQ := Lib.hid (dyad_at W2 o.fn p q m e0 (HI1.out p rfl) (HI2.out q rfl) hd)
        have x4 := HO.out.c4
        clear hd
        go_wp2_with fail
        refine HQ.out.mono ?_
        rintro e W3 ⟨rfl, nd, rfl⟩
        have HO := Lib.hid (HO.out.next (Below.drewN W2 nd))
        clear HQ x4
        go_wp2_with fail
        go_meet
        exact HO.out
  case rest =>
    clear HO
    have HO := Lib.hid hcut
    clear hcut
    have x4 := HO.out.c4
    rw [HF.out] at x4
    have HG1 := Lib.hid g1; have HG2 := Lib.hid g2
    clear g1 g2
    have hq := only_any wc a c x 1 (HX.out.below HO.out.b).els hmx
    rw [HG1.out] at hq
    have HQ := Lib.hid hq
    clear hq
    go_wp2_with fail
    refine HQ.out.mono ?_
    rintro e U1 ⟨rfl, hb⟩
    have HO := Lib.hid (HO.out.next hb)
    clear hb HQ
    have hq := only_any U1 a2 c2 y 1 (HY.out.below HO.out.b).els hmy
    rw [HG2.out] at hq
    have HQ := Lib.hid hq
    clear hq
    go_wp2_with fail
    refine HQ.out.mono ?_
    rintro e U2 ⟨rfl, hb⟩
    have HO := Lib.hid (HO.out.next hb)
    clear hb HQ
    go_wp2_with fail
    go_ret
    exact ⟨⟨_, rfl, HX.out.below HO.out.b⟩, HO.out.b⟩
set_option maxHeartbeats 4000000 in
theorem dyad13_3z1 (w : World) (B : Bd) (hB : B ≤ w.heap.size) (a a2 : Option Addr) (c c2 : Nat) (x y : List Cop) (hx : CopS B w (.slice a x.length c) x) (hy : CopS B w (.slice a2 y.length c2) y) (hl : x.length + y.length + 1 ≤ 2513169434843) (o : Cop) (pa : Option Addr) (pc : Nat) (hp : MonS B w (.slice pa o.p.length pc) o.p) (ho : OkO o) (hf : o.fn = 3) (g1 : onlyC x 1 = false) (g2 : onlyC y 1 = false) (g3 : onlyC x 0 = true) (g4 : harmC y = true) (h2 : twoC o.fn x y = none) :
    Calls Try.prog 56 #[.slice a x.length c, .slice a2 y.length c2, opV o pa pc] w (RetC B w (dyadC x y o)) := by
  rw [dyadC_z h2 (by unfold ruleY; rw [hf]; simp [*]) (by unfold ruleX; rw [hf]; simp [*]) (by unfold ruleZ; rw [hf]; simp [*])]
  have H2 := Lib.hid h2
  have HF := Lib.hid hf
  clear h2 hf
  obtain ⟨k1, hk1⟩ : ∃ k, knownC x = k := ⟨_, rfl⟩
  obtain ⟨k2, hk2⟩ : ∃ k, knownC y = k := ⟨_, rfl⟩
  have HKX := Lib.hid hk1; have HKY := Lib.hid hk2
  have hi1 := fun n (h : k1 = some n) => known_in hx (hk1.trans h); have hi2 := fun n (h : k2 = some n) => known_in hy (hk2.trans h)
  have HI1 := Lib.hid hi1; have HI2 := Lib.hid hi2
  clear hi1 hi2 hk1 hk2
  have HX := Lib.hid hx; have HY := Lib.hid hy; have HP := Lib.hid hp; have OKO := Lib.hid ho; have HB0 := Lib.hid hB; have HLL := Lib.hid hl
  have HO := Lib.hid (OpBox.new w o (.slice pa o.p.length pc))
  have hmx := hx.le; have hmy := hy.le
  unfold opV
  clear hx hy hp ho hB hl
  go_enter Try.func56, Try.ntmps56
  go_upto_region 1 with fail
  refine gen_worldA (fun W => OpBox w W w.heap.size o (.slice pa o.p.length pc)) HO.out ?_
  rintro W hO
  have HO := Lib.hid hO
  clear hO
  have HQ := Lib.hid (known_any W a c x (HX.out.below HO.out.b).els hmx)
  rw [HKX.out] at HQ
  go_wp2_with fail
  refine HQ.out.mono ?_
  rintro e W1 ⟨rfl, hb⟩
  have HO := Lib.hid (HO.out.next hb)
  clear hb HQ
  have HQ := Lib.hid (known_any W1 a2 c2 y (HY.out.below HO.out.b).els hmy)
  rw [HKY.out] at HQ
  go_wp2_with fail
  refine HQ.out.mono ?_
  rintro e W2 ⟨rfl, hb⟩
  have HO := Lib.hid (HO.out.next hb)
  clear hb HQ
  go_upto_region 3 with fail
  go_cut [27] (fun s27 wx => s27 = .bool (k1.isSome && k2.isSome) ∧ W2 = wx)
  case first =>
    cases k1 with
    | none => (go_wp2_with fail); (go_meet); (exact ⟨rfl, rfl⟩)
    | some p => (cases k2 with | none => (go_wp2_with fail); (go_meet); (exact ⟨rfl, rfl⟩) | some q => (go_wp2_with fail); (go_meet); (exact ⟨rfl, rfl⟩))
  case rest =>
  obtain ⟨rfl, rfl⟩ := hcut
  obtain ⟨bb, hbb⟩ : ∃ bb, (k1.isSome && k2.isSome) = bb := ⟨_, rfl⟩
  rw [hbb]
  have HBB := Lib.hid hbb
  clear hbb
  go_upto_if 27 with fail
  go_cut [11, 12] (fun s11 s12 wx => OpBox w wx w.heap.size o (.slice pa o.p.length pc))
  case first =>
    cases bb with
    | false => (go_wp2_with fail); (go_meet); (exact HO.out)
    | true =>
      have hbb := HBB.out
      cases k1 with
      | none => cases hbb
      | some p =>
       cases k2 with
       | none => cases hbb
       | some q =>
        clear hbb
        obtain ⟨m, e0, hd⟩ : ∃ m e0, dyadF o.fn p q = (m, e0) := ⟨_, _, rfl⟩
        have he : (e0 == 0) = false := by
          have h2 := H2.out
          unfold twoC at h2
          rw [HKX.out, HKY.out] at h2
          dsimp only at h2
          rw [hd] at h2
          rw [beq_eq_false_iff_ne]
          intro h
          rw [if_pos h] at h2
          cases h2
        have HQ := Lib.hid (dyad_at W2 o.fn p q m e0 (HI1.out p rfl) (HI2.out q rfl) hd)
        have x4 := HO.out.c4
        clear hd
        go_wp2_with fail
        refine HQ.out.mono ?_
        rintro e W3 ⟨rfl, nd, rfl⟩
        have HO := Lib.hid (HO.out.next (Below.drewN W2 nd))
        clear HQ x4
        go_wp2_with fail
        go_meet
        exact HO.out
  case rest =>
    clear HO
    have HO := Lib.hid hcut
    clear hcut
    have x4 := HO.out.c4
    rw [HF.out] at x4
    have HG1 := Lib.hid g1; have HG2 := Lib.hid g2; have HG3 := Lib.hid g3; have HG4 := Lib.hid g4
    have HN := Lib.hid (fun W hL => numC_any W B hL 0 (by unfold I64; omega))
    clear g1 g2 g3 g4
    have hq := only_any wc a c x 1 (HX.out.below HO.out.b).els hmx
    rw [HG1.out] at hq
    have HQ := Lib.hid hq
    clear hq
    go_wp2_with fail
    refine HQ.out.mono ?_
    rintro e U1 ⟨rfl, hb⟩
    have HO := Lib.hid (HO.out.next hb)
    clear hb HQ
    have hq := only_any U1 a2 c2 y 1 (HY.out.below HO.out.b).els hmy
    rw [HG2.out] at hq
    have HQ := Lib.hid hq
    clear hq
    go_wp2_with fail
    refine HQ.out.mono ?_
    rintro e U2 ⟨rfl, hb⟩
    have HO := Lib.hid (HO.out.next hb)
    clear hb HQ
    have hq := only_any U2 a c x 0 (HX.out.below HO.out.b).els hmx
    rw [HG3.out] at hq
    have HQ := Lib.hid hq
    clear hq
    go_wp2_with fail
    refine HQ.out.mono ?_
    rintro e U3 ⟨rfl, hb⟩
    have HO := Lib.hid (HO.out.next hb)
    clear hb HQ
    have hq := harmless_any U3 a2 c2 y (HY.out.below HO.out.b).els (by unfold maxLen; exact hmy)
    rw [HG4.out] at hq
    have HQ := Lib.hid hq
    clear hq
    go_wp2_with fail
    refine HQ.out.mono ?_
    rintro e U4 ⟨rfl, hb⟩
    have HO := Lib.hid (HO.out.next hb)
    clear hb HQ
    have HQ := Lib.hid (HN.out U4 (Nat.le_trans (Bd.low HB0.out) HO.out.b.size))
    go_wp2_with fail
    refine HQ.out.mono ?_
    rintro e w2 ⟨⟨v2, rfl, hv2⟩, hb2⟩
    go_wp2_with fail
    go_ret
    exact ⟨⟨_, rfl, hv2⟩, bNext hb2 HO.out.b⟩
set_option maxHeartbeats 4000000 in
theorem dyad13_3nono (w : World) (B : Bd) (hB : B ≤ w.heap.size) (a a2 : Option Addr) (c c2 : Nat) (x y : List Cop) (hx : CopS B w (.slice a x.length c) x) (hy : CopS B w (.slice a2 y.length c2) y) (hl : x.length + y.length + 1 ≤ 2513169434843) (o : Cop) (pa : Option Addr) (pc : Nat) (hp : MonS B w (.slice pa o.p.length pc) o.p) (ho : OkO o) (hf : o.fn = 3) (g1 : onlyC x 1 = false) (g2 : onlyC y 1 = false) (g3 : onlyC x 0 = false) (g5 : onlyC y 0 = false) (h2 : twoC o.fn x y = none) :
    Calls Try.prog 56 #[.slice a x.length c, .slice a2 y.length c2, opV o pa pc] w (RetC B w (dyadC x y o)) := by
  rw [dyadC_j h2 (by unfold ruleY; rw [hf]; simp [*]) (by unfold ruleX; rw [hf]; simp [*]) (by unfold ruleZ; rw [hf]; simp [*])]
  have H2 := Lib.hid h2
  have HF := Lib.hid hf
  clear h2 hf
  obtain ⟨k1, hk1⟩ : ∃ k, knownC x = k := ⟨_, rfl⟩
  obtain ⟨k2, hk2⟩ : ∃ k, knownC y = k := ⟨_, rfl⟩
  have HKX := Lib.hid hk1; have HKY := Lib.hid hk2
  have hi1 := fun n (h : k1 = some n) => known_in hx (hk1.trans h); have hi2 := fun n (h : k2 = some n) => known_in hy (hk2.trans h)
  have HI1 := Lib.hid hi1; have HI2 := Lib.hid hi2
  clear hi1 hi2 hk1 hk2
  have HX := Lib.hid hx; have HY := Lib.hid hy; have HP := Lib.hid hp; have OKO := Lib.hid ho; have HB0 := Lib.hid hB; have HLL := Lib.hid hl
  have HO := Lib.hid (OpBox.new w o (.slice pa o.p.length pc))
  have hmx := hx.le; have hmy := hy.le
  unfold opV
  clear hx hy hp ho hB hl
  go_enter Try.func56, Try.ntmps56
  go_upto_region 1 with fail
  refine gen_worldA (fun W => OpBox w W w.heap.size o (.slice pa o.p.length pc)) HO.out ?_
  rintro W hO
  have HO := Lib.hid hO
  clear hO
  have HQ := Lib.hid (known_any W a c x (HX.out.below HO.out.b).els hmx)
  rw [HKX.out] at HQ
  go_wp2_with fail
  refine HQ.out.mono ?_
  rintro e W1 ⟨rfl, hb⟩
  have HO := Lib.hid (HO.out.next hb)
  clear hb HQ
  have HQ := Lib.hid (known_any W1 a2 c2 y (HY.out.below HO.out.b).els hmy)
  rw [HKY.out] at HQ
  go_wp2_with fail
  refine HQ.out.mono ?_
  rintro e W2 ⟨rfl, hb⟩
  have HO := Lib.hid (HO.out.next hb)
  clear hb HQ
  go_upto_region 3 with fail
  go_cut [27] (fun s27 wx => s27 = .bool (k1.isSome && k2.isSome) ∧ W2 = wx)
  case first =>
    cases k1 with
    | none => (go_wp2_with fail); (go_meet); (exact ⟨rfl, rfl⟩)
    | some p => (cases k2 with | none => (go_wp2_with fail); (go_meet); (exact ⟨rfl, rfl⟩) | some q => (go_wp2_with fail); (go_meet); (exact ⟨rfl, rfl⟩))
  case rest =>
  obtain ⟨rfl, rfl⟩ := hcut
  obtain ⟨bb, hbb⟩ : ∃ bb, (k1.isSome && k2.isSome) = bb := ⟨_, rfl⟩
  rw [hbb]
  have HBB := Lib.hid hbb
  clear hbb
  go_upto_if 27 with fail
  go_cut [11, 12] (fun s11 s12 wx => OpBox w wx w.heap.size o (.slice pa o.p.length pc))
  case first =>
    cases bb with
    | false => (go_wp2_with fail); (go_meet); (exact HO.out)
    | true =>
      have hbb := HBB.out
      cases k1 with
      | none => cases hbb
      | some p =>
       cases k2 with
       | none => cases hbb
       | some q =>
        clear hbb
        obtain ⟨m, e0, hd⟩ : ∃ m e0, dyadF o.fn p q = (m, e0) := ⟨_, _, rfl⟩
        have he : (e0 == 0) = false := by
          have h2 := H2.out
          unfold twoC at h2
          rw [HKX.out, HKY.out] at h2
          dsimp only at h2
          rw [hd] at h2
          rw [beq_eq_false_iff_ne]
          intro h
          rw [if_pos h] at h2
          cases h2
        have HQ := Lib.hid (dyad_at W2 o.fn p q m e0 (HI1.out p rfl) (HI2.out q rfl) hd)
        have x4 := HO.out.c4
        clear hd
        go_wp2_with fail
        refine HQ.out.mono ?_
        rintro e W3 ⟨rfl, nd, rfl⟩
        have HO := Lib.hid (HO.out.next (Below.drewN W2 nd))
        clear HQ x4
        go_wp2_with fail
        go_meet
        exact HO.out
  case rest =>
    clear HO
    have HO := Lib.hid hcut
    clear hcut
    have x4 := HO.out.c4
    rw [HF.out] at x4
    have HG1 := Lib.hid g1; have HG2 := Lib.hid g2; have HG3 := Lib.hid g3; have HG5 := Lib.hid g5
    clear g1 g2 g3 g5
    have hq := only_any wc a c x 1 (HX.out.below HO.out.b).els hmx
    rw [HG1.out] at hq
    have HQ := Lib.hid hq
    clear hq
    go_wp2_with fail
    refine HQ.out.mono ?_
    rintro e U1 ⟨rfl, hb⟩
    have HO := Lib.hid (HO.out.next hb)
    clear hb HQ
    have hq := only_any U1 a2 c2 y 1 (HY.out.below HO.out.b).els hmy
    rw [HG2.out] at hq
    have HQ := Lib.hid hq
    clear hq
    go_wp2_with fail
    refine HQ.out.mono ?_
    rintro e U2 ⟨rfl, hb⟩
    have HO := Lib.hid (HO.out.next hb)
    clear hb HQ
    have hq := only_any U2 a c x 0 (HX.out.below HO.out.b).els hmx
    rw [HG3.out] at hq
    have HQ := Lib.hid hq
    clear hq
    go_wp2_with fail
    refine HQ.out.mono ?_
    rintro e U3 ⟨rfl, hb⟩
    have HO := Lib.hid (HO.out.next hb)
    clear hb HQ
    have hq := only_any U3 a2 c2 y 0 (HY.out.below HO.out.b).els hmy
    rw [HG5.out] at hq
    have HQ := Lib.hid hq
    clear hq
    go_wp2_with fail
    refine HQ.out.mono ?_
    rintro e U5 ⟨rfl, hb⟩
    have HO := Lib.hid (HO.out.next hb)
    clear hb HQ
    have y0 := HO.out.c0; have y1 := HO.out.c1; have y2 := HO.out.c2; have y3 := HO.out.c3; have y4 := HO.out.c4
    obtain ⟨G1, hG1⟩ : ∃ G, U5.heap.size = G := ⟨_, rfl⟩
    have HQ := Lib.hid (join3_any U5 B G1 (G1 + 1) (Nat.le_trans HB0.out HO.out.b.size) hG1 rfl _ _ x y (HX.out.below HO.out.b) (HY.out.below HO.out.b) o _ (HP.out.below HO.out.b) OKO.out HLL.out)
    skip
    go_wp2_with fail
    refine HQ.out.mono ?_
    rintro e' w2 ⟨⟨v2, rfl, hv2⟩, hb2⟩
    go_wp2_with fail
    go_ret
    exact ⟨⟨_, rfl, hv2⟩, bNext hb2 HO.out.b⟩
set_option maxHeartbeats 4000000 in
theorem dyad13_3noharms (w : World) (B : Bd) (hB : B ≤ w.heap.size) (a a2 : Option Addr) (c c2 : Nat) (x y : List Cop) (hx : CopS B w (.slice a x.length c) x) (hy : CopS B w (.slice a2 y.length c2) y) (hl : x.length + y.length + 1 ≤ 2513169434843) (o : Cop) (pa : Option Addr) (pc : Nat) (hp : MonS B w (.slice pa o.p.length pc) o.p) (ho : OkO o) (hf : o.fn = 3) (g1 : onlyC x 1 = false) (g2 : onlyC y 1 = false) (g3 : onlyC x 0 = false) (g5 : onlyC y 0 = true) (g6 : harmC x = false) (h2 : twoC o.fn x y = none) :
    Calls Try.prog 56 #[.slice a x.length c, .slice a2 y.length c2, opV o pa pc] w (RetC B w (dyadC x y o)) := by
  rw [dyadC_j h2 (by unfold ruleY; rw [hf]; simp [*]) (by unfold ruleX; rw [hf]; simp [*]) (by unfold ruleZ; rw [hf]; simp [*])]
  have H2 := Lib.hid h2
  have HF := Lib.hid hf
  clear h2 hf
  obtain ⟨k1, hk1⟩ : ∃ k, knownC x = k := ⟨_, rfl⟩
  obtain ⟨k2, hk2⟩ : ∃ k, knownC y = k := ⟨_, rfl⟩
  have HKX := Lib.hid hk1; have HKY := Lib.hid hk2
  have hi1 := fun n (h : k1 = some n) => known_in hx (hk1.trans h); have hi2 := fun n (h : k2 = some n) => known_in hy (hk2.trans h)
  have HI1 := Lib.hid hi1; have HI2 := Lib.hid hi2
  clear hi1 hi2 hk1 hk2
  have HX := Lib.hid hx; have HY := Lib.hid hy; have HP := Lib.hid hp; have OKO := Lib.hid ho; have HB0 := Lib.hid hB; have HLL := Lib.hid hl
  have HO := Lib.hid (OpBox.new w o (.slice pa o.p.length pc))
  have hmx := hx.le; have hmy := hy.le
  unfold opV
  clear hx hy hp ho hB hl
  go_enter Try.func56, Try.ntmps56
  go_upto_region 1 with fail
  refine gen_worldA (fun W => OpBox w W w.heap.size o (.slice pa o.p.length pc)) HO.out ?_
  rintro W hO
  have HO := Lib.hid hO
  clear hO
  have HQ := Lib.hid (known_any W a c x (HX.out.below HO.out.b).els hmx)
  rw [HKX.out] at HQ
  go_wp2_with fail
  refine HQ.out.mono ?_
  rintro e W1 ⟨rfl, hb⟩
  have HO := Lib.hid (HO.out.next hb)
  clear hb HQ
  have HQ := Lib.hid (known_any W1 a2 c2 y (HY.out.below HO.out.b).els hmy)
  rw [HKY.out] at HQ
  go_wp2_with fail
  refine HQ.out.mono ?_
  rintro e W2 ⟨rfl, hb⟩
  have HO := Lib.hid (HO.out.next hb)
  clear hb HQ
  go_upto_region 3 with fail
  go_cut [27] (fun s27 wx => s27 = .bool (k1.isSome && k2.isSome) ∧ W2 = wx)
  case first =>
    cases k1 with
    | none => (go_wp2_with fail); (go_meet); (exact ⟨rfl, rfl⟩)
    | some p => (cases k2 with | none => (go_wp2_with fail); (go_meet); (exact ⟨rfl, rfl⟩) | some q => (go_wp2_with fail); (go_meet); (exact ⟨rfl, rfl⟩))
  case rest =>
  obtain ⟨rfl, rfl⟩ := hcut
  obtain ⟨bb, hbb⟩ : ∃ bb, (k1.isSome && k2.isSome) = bb := ⟨_, rfl⟩
  rw [hbb]
  have HBB := Lib.hid hbb
  clear hbb
  go_upto_if 27 with fail
  go_cut [11, 12] (fun s11 s12 wx => OpBox w wx w.heap.size o (.slice pa o.p.length pc))
  case first =>
    cases bb with
    | false => (go_wp2_with fail); (go_meet); (exact HO.out)
    | true =>
      have hbb := HBB.out
      cases k1 with
      | none => cases hbb
      | some p =>
       cases k2 with
       | none => cases hbb
       | some q =>
        clear hbb
        obtain ⟨m, e0, hd⟩ : ∃ m e0, dyadF o.fn p q = (m, e0) := ⟨_, _, rfl⟩
        have he : (e0 == 0) = false := by
          have h2 := H2.out
          unfold twoC at h2
          rw [HKX.out, HKY.out] at h2
          dsimp only at h2
          rw [hd] at h2
          rw [beq_eq_false_iff_ne]
          intro h
          rw [if_pos h] at h2
          cases h2
        have HQ := Lib.hid (dyad_at W2 o.fn p q m e0 (HI1.out p rfl) (HI2.out q rfl) hd)
        have x4 := HO.out.c4
        clear hd
        go_wp2_with fail
        refine HQ.out.mono ?_
        rintro e W3 ⟨rfl, nd, rfl⟩
        have HO := Lib.hid (HO.out.next (Below.drewN W2 nd))
        clear HQ x4
        go_wp2_with fail
        go_meet
        exact HO.out
  case rest =>
    clear HO
    have HO := Lib.hid hcut
    clear hcut
    have x4 := HO.out.c4
    rw [HF.out] at x4
    have HG1 := Lib.hid g1; have HG2 := Lib.hid g2; have HG3 := Lib.hid g3; have HG5 := Lib.hid g5; have HG6 := Lib.hid g6
    clear g1 g2 g3 g5 g6
    have hq := only_any wc a c x 1 (HX.out.below HO.out.b).els hmx
    rw [HG1.out] at hq
    have HQ := Lib.hid hq
    clear hq
    go_wp2_with fail
    refine HQ.out.mono ?_
    rintro e U1 ⟨rfl, hb⟩
    have HO := Lib.hid (HO.out.next hb)
    clear hb HQ
    have hq := only_any U1 a2 c2 y 1 (HY.out.below HO.out.b).els hmy
    rw [HG2.out] at hq
    have HQ := Lib.hid hq
    clear hq
    go_wp2_with fail
    refine HQ.out.mono ?_
    rintro e U2 ⟨rfl, hb⟩
    have HO := Lib.hid (HO.out.next hb)
    clear hb HQ
    have hq := only_any U2 a c x 0 (HX.out.below HO.out.b).els hmx
    rw [HG3.out] at hq
    have HQ := Lib.hid hq
    clear hq
    go_wp2_with fail
    refine HQ.out.mono ?_
    rintro e U3 ⟨rfl, hb⟩
    have HO := Lib.hid (HO.out.next hb)
    clear hb HQ
    have hq := only_any U3 a2 c2 y 0 (HY.out.below HO.out.b).els hmy
    rw [HG5.out] at hq
    have HQ := Lib.hid hq
    clear hq
    go_wp2_with fail
    refine HQ.out.mono ?_
    rintro e U5 ⟨rfl, hb⟩
    have HO := Lib.hid (HO.out.next hb)
    clear hb HQ
    have hq := harmless_any U5 a c x (HX.out.below HO.out.b).els (by unfold maxLen; exact hmx)
    rw [HG6.out] at hq
    have HQ := Lib.hid hq
    clear hq
    go_wp2_with fail
    refine HQ.out.mono ?_
    rintro e U6 ⟨rfl, hb⟩
    have HO := Lib.hid (HO.out.next hb)
    clear hb HQ
    have y0 := HO.out.c0; have y1 := HO.out.c1; have y2 := HO.out.c2; have y3 := HO.out.c3; have y4 := HO.out.c4
    obtain ⟨G1, hG1⟩ : ∃ G, U6.heap.size = G := ⟨_, rfl⟩
    have HQ := Lib.hid (join3_any U6 B G1 (G1 + 1) (Nat.le_trans HB0.out HO.out.b.size) hG1 rfl _ _ x y (HX.out.below HO.out.b) (HY.out.below HO.out.b) o _ (HP.out.below HO.out.b) OKO.out HLL.out)
    skip
    go_wp2_with fail
    refine HQ.out.mono ?_
    rintro e' w2 ⟨⟨v2, rfl, hv2⟩, hb2⟩
    go_wp2_with fail
    go_ret
    exact ⟨⟨_, rfl, hv2⟩, bNext hb2 HO.out.b⟩
set_option maxHeartbeats 4000000 in
theorem dyad13_3nook (w : World) (B : Bd) (hB : B ≤ w.heap.size) (a a2 : Option Addr) (c c2 : Nat) (x y : List Cop) (hx : CopS B w (.slice a x.length c) x) (hy : CopS B w (.slice a2 y.length c2) y) (hl : x.length + y.length + 1 ≤ 2513169434843) (o : Cop) (pa : Option Addr) (pc : Nat) (hp : MonS B w (.slice pa o.p.length pc) o.p) (ho : OkO o) (hf : o.fn = 3) (g1 : onlyC x 1 = false) (g2 : onlyC y 1 = false) (g3 : onlyC x 0 = false) (g5 : onlyC y 0 = true) (g6 : harmC x = true) (h2 : twoC o.fn x y = none) :
    Calls Try.prog 56 #[.slice a x.length c, .slice a2 y.length c2, opV o pa pc] w (RetC B w (dyadC x y o)) := by
  rw [dyadC_z h2 (by unfold ruleY; rw [hf]; simp [*]) (by unfold ruleX; rw [hf]; simp [*]) (by unfold ruleZ; rw [hf]; simp [*])]
  have H2 := Lib.hid h2
  have HF := Lib.hid hf
  clear h2 hf
  obtain ⟨k1, hk1⟩ : ∃ k, knownC x = k := ⟨_, rfl⟩
  obtain ⟨k2, hk2⟩ : ∃ k, knownC y = k := ⟨_, rfl⟩
  have HKX := Lib.hid hk1; have HKY := Lib.hid hk2
  have hi1 := fun n (h : k1 = some n) => known_in hx (hk1.trans h); have hi2 := fun n (h : k2 = some n) => known_in hy (hk2.trans h)
  have HI1 := Lib.hid hi1; have HI2 := Lib.hid hi2
  clear hi1 hi2 hk1 hk2
  have HX := Lib.hid hx; have HY := Lib.hid hy; have HP := Lib.hid hp; have OKO := Lib.hid ho; have HB0 := Lib.hid hB; have HLL := Lib.hid hl
  have HO := Lib.hid (OpBox.new w o (.slice pa o.p.length pc))
  have hmx := hx.le; have hmy := hy.le
  unfold opV
  clear hx hy hp ho hB hl
  go_enter Try.func56, Try.ntmps56
  go_upto_region 1 with fail
  refine gen_worldA (fun W => OpBox w W w.heap.size o (.slice pa o.p.length pc)) HO.out ?_
  rintro W hO
  have HO := Lib.hid hO
  clear hO
  have HQ := Lib.hid (known_any W a c x (HX.out.below HO.out.b).els hmx)
  rw [HKX.out] at HQ
  go_wp2_with fail
  refine HQ.out.mono ?_
  rintro e W1 ⟨rfl, hb⟩
  have HO := Lib.hid (HO.out.next hb)
  clear hb HQ
  have HQ := Lib.hid (known_any W1 a2 c2 y (HY.out.below HO.out.b).els hmy)
  rw [HKY.out] at HQ
  go_wp2_with fail
  refine HQ.out.mono ?_
  rintro e W2 ⟨rfl, hb⟩
  have HO := Lib.hid (HO.out.next hb)
  clear hb HQ
  go_upto_region 3 with fail
  go_cut [27] (fun s27 wx => s27 = .bool (k1.isSome && k2.isSome) ∧ W2 = wx)
  case first =>
    cases k1 with
    | none => (go_wp2_with fail); (go_meet); (exact ⟨rfl, rfl⟩)
    | some p => (cases k2 with | none => (go_wp2_with fail); (go_meet); (exact ⟨rfl, rfl⟩) | some q => (go_wp2_with fail); (go_meet); (exact ⟨rfl, rfl⟩))
  case rest =>
  obtain ⟨rfl, rfl⟩ := hcut
  obtain ⟨bb, hbb⟩ : ∃ bb, (k1.isSome && k2.isSome) = bb := ⟨_, rfl⟩
  rw [hbb]
  have HBB := Lib.hid hbb
  clear hbb
  go_upto_if 27 with fail
  go_cut [11, 12] (fun s11 s12 wx => OpBox w wx w.heap.size o (.slice pa o.p.length pc))
  case first =>
    cases bb with
    | false => (go_wp2_with fail); (go_meet); (exact HO.out)
    | true =>
      have hbb := HBB.out
      cases k1 with
      | none => cases hbb
      | some p =>
       cases k2 with
       | none => cases hbb
       | some q =>
        clear hbb
        obtain ⟨m, e0, hd⟩ : ∃ m e0, dyadF o.fn p q = (m, e0) := ⟨_, _, rfl⟩
        have he : (e0 == 0) = false := by
          have h2 := H2.out
          unfold twoC at h2
          rw [HKX.out, HKY.out] at h2
          dsimp only at h2
          rw [hd] at h2
          rw [beq_eq_false_iff_ne]
          intro h
          rw [if_pos h] at h2
          cases h2
        have HQ := Lib.hid (dyad_at W2 o.fn p q m e0 (HI1.out p rfl) (HI2.out q rfl) hd)
        have x4 := HO.out.c4
        clear hd
        go_wp2_with fail
        refine HQ.out.mono ?_
        rintro e W3 ⟨rfl, nd, rfl⟩
        have HO := Lib.hid (HO.out.next (Below.drewN W2 nd))
        clear HQ x4
        go_wp2_with fail
        go_meet
        exact HO.out
  case rest =>
    clear HO
    have HO := Lib.hid hcut
    clear hcut
    have x4 := HO.out.c4
    rw [HF.out] at x4
    have HG1 := Lib.hid g1; have HG2 := Lib.hid g2; have HG3 := Lib.hid g3; have HG5 := Lib.hid g5; have HG6 := Lib.hid g6
    have HN := Lib.hid (fun W hL => numC_any W B hL 0 (by unfold I64; omega))
    clear g1 g2 g3 g5 g6
    have hq := only_any wc a c x 1 (HX.out.below HO.out.b).els hmx
    rw [HG1.out] at hq
    have HQ := Lib.hid hq
    clear hq
    go_wp2_with fail
    refine HQ.out.mono ?_
    rintro e U1 ⟨rfl, hb⟩
    have HO := Lib.hid (HO.out.next hb)
    clear hb HQ
    have hq := only_any U1 a2 c2 y 1 (HY.out.below HO.out.b).els hmy
    rw [HG2.out] at hq
    have HQ := Lib.hid hq
    clear hq
    go_wp2_with fail
    refine HQ.out.mono ?_
    rintro e U2 ⟨rfl, hb⟩
    have HO := Lib.hid (HO.out.next hb)
    clear hb HQ
    have hq := only_any U2 a c x 0 (HX.out.below HO.out.b).els hmx
    rw [HG3.out] at hq
    have HQ := Lib.hid hq
    clear hq
    go_wp2_with fail
    refine HQ.out.mono ?_
    rintro e U3 ⟨rfl, hb⟩
    have HO := Lib.hid (HO.out.next hb)
    clear hb HQ
    have hq := only_any U3 a2 c2 y 0 (HY.out.below HO.out.b).els hmy
    rw [HG5.out] at hq
    have HQ := Lib.hid hq
    clear hq
    go_wp2_with fail
    refine HQ.out.mono ?_
    rintro e U5 ⟨rfl, hb⟩
    have HO := Lib.hid (HO.out.next hb)
    clear hb HQ
    have hq := harmless_any U5 a c x (HX.out.below HO.out.b).els (by unfold maxLen; exact hmx)
    rw [HG6.out] at hq
    have HQ := Lib.hid hq
    clear hq
    go_wp2_with fail
    refine HQ.out.mono ?_
    rintro e U6 ⟨rfl, hb⟩
    have HO := Lib.hid (HO.out.next hb)
    clear hb HQ
    have HQ := Lib.hid (HN.out U6 (Nat.le_trans (Bd.low HB0.out) HO.out.b.size))
    go_wp2_with fail
    refine HQ.out.mono ?_
    rintro e w2 ⟨⟨v2, rfl, hv2⟩, hb2⟩
    go_wp2_with fail
    go_ret
    exact ⟨⟨_, rfl, hv2⟩, bNext hb2 HO.out.b⟩
set_option maxHeartbeats 4000000 in
theorem dyad13_3harmsno (w : World) (B : Bd) (hB : B ≤ w.heap.size) (a a2 : Option Addr) (c c2 : Nat) (x y : List Cop) (hx : CopS B w (.slice a x.length c) x) (hy : CopS B w (.slice a2 y.length c2) y) (hl : x.length + y.length + 1 ≤ 2513169434843) (o : Cop) (pa : Option Addr) (pc : Nat) (hp : MonS B w (.slice pa o.p.length pc) o.p) (ho : OkO o) (hf : o.fn = 3) (g1 : onlyC x 1 = false) (g2 : onlyC y 1 = false) (g3 : onlyC x 0 = true) (g4 : harmC y = false) (g5 : onlyC y 0 = false) (h2 : twoC o.fn x y = none) :
    Calls Try.prog 56 #[.slice a x.length c, .slice a2 y.length c2, opV o pa pc] w (RetC B w (dyadC x y o)) := by
  rw [dyadC_j h2 (by unfold ruleY; rw [hf]; simp [*]) (by unfold ruleX; rw [hf]; simp [*]) (by unfold ruleZ; rw [hf]; simp [*])]
  have H2 := Lib.hid h2
  have HF := Lib.hid hf
  clear h2 hf
  obtain ⟨k1, hk1⟩ : ∃ k, knownC x = k := ⟨_, rfl⟩
  obtain ⟨k2, hk2⟩ : ∃ k, knownC y = k := ⟨_, rfl⟩
  have HKX := Lib.hid hk1; have HKY := Lib.hid hk2
  have hi1 := fun n (h : k1 = some n) => known_in hx (hk1.trans h); have hi2 := fun n (h : k2 = some n) => known_in hy (hk2.trans h)
  have HI1 := Lib.hid hi1; have HI2 := Lib.hid hi2
  clear hi1 hi2 hk1 hk2
  have HX := Lib.hid hx; have HY := Lib.hid hy; have HP := Lib.hid hp; have OKO := Lib.hid ho; have HB0 := Lib.hid hB; have HLL := Lib.hid hl
  have HO := Lib.hid (OpBox.new w o (.slice pa o.p.length pc))
  have hmx := hx.le; have hmy := hy.le
  unfold opV
  clear hx hy hp ho hB hl
  go_enter Try.func56, Try.ntmps56
  go_upto_region 1 with fail
  refine gen_worldA (fun W => OpBox w W w.heap.size o (.slice pa o.p.length pc)) HO.out ?_
  rintro W hO
  have HO := Lib.hid hO
  clear hO
  have HQ := Lib.hid (known_any W a c x (HX.out.below HO.out.b).els hmx)
  rw [HKX.out] at HQ
  go_wp2_with fail
  refine HQ.out.mono ?_
  rintro e W1 ⟨rfl, hb⟩
  have HO := Lib.hid (HO.out.next hb)
  clear hb HQ
  have HQ := Lib.hid (known_any W1 a2 c2 y (HY.out.below HO.out.b).els hmy)
  rw [HKY.out] at HQ
  go_wp2_with fail
  refine HQ.out.mono ?_
  rintro e W2 ⟨rfl, hb⟩
  have HO := Lib.hid (HO.out.next hb)
  clear hb HQ
  go_upto_region 3 with fail
  go_cut [27] (fun s27 wx => s27 = .bool (k1.isSome && k2.isSome) ∧ W2 = wx)
  case first =>
    cases k1 with
    | none => (go_wp2_with fail); (go_meet); (exact ⟨rfl, rfl⟩)
    | some p => (cases k2 with | none => (go_wp2_with fail); (go_meet); (exact ⟨rfl, rfl⟩) | some q => (go_wp2_with fail); (go_meet); (exact ⟨rfl, rfl⟩))
  case rest =>
  obtain ⟨rfl, rfl⟩ := hcut
  obtain ⟨bb, hbb⟩ : ∃ bb, (k1.isSome && k2.isSome) = bb := ⟨_, rfl⟩
  rw [hbb]
  have HBB := Lib.hid hbb
  clear hbb
  go_upto_if 27 with fail
  go_cut [11, 12] (fun s11 s12 wx => OpBox w wx w.heap.size o (.slice pa o.p.length pc))
  case first =>
    cases bb with
    | false => (go_wp2_with fail); (go_meet); (exact HO.out)
    | true =>
      have hbb := HBB.out
      cases k1 with
      | none => cases hbb
      | some p =>
       cases k2 with
       | none => cases hbb
       | some q =>
        clear hbb
        obtain ⟨m, e0, hd⟩ : ∃ m e0, dyadF o.fn p q = (m, e0) := ⟨_, _, rfl⟩
        have he : (e0 == 0) = false := by
          have h2 := H2.out
          unfold twoC at h2
          rw [HKX.out, HKY.out] at h2
          dsimp only at h2
          rw [hd] at h2
          rw [beq_eq_false_iff_ne]
          intro h
          rw [if_pos h] at h2
          cases h2
        have HQ := Lib.hid (dyad_at W2 o.fn p q m e0 (HI1.out p rfl) (HI2.out q rfl) hd)
        have x4 := HO.out.c4
        clear hd
        go_wp2_with fail
        refine HQ.out.mono ?_
        rintro e W3 ⟨rfl, nd, rfl⟩
        have HO := Lib.hid (HO.out.next (Below.drewN W2 nd))
        clear HQ x4
        go_wp2_with fail
        go_meet
        exact HO.out
  case rest =>
    clear HO
    have HO := Lib.hid hcut
    clear hcut
    have x4 := HO.out.c4
    rw [HF.out] at x4
    have HG1 := Lib.hid g1; have HG2 := Lib.hid g2; have HG3 := Lib.hid g3; have HG4 := Lib.hid g4; have HG5 := Lib.hid g5
    clear g1 g2 g3 g4 g5
    have hq := only_any wc a c x 1 (HX.out.below HO.out.b).els hmx
    rw [HG1.out] at hq
    have HQ := Lib.hid hq
    clear hq
    go_wp2_with fail
    refine HQ.out.mono ?_
    rintro e U1 ⟨rfl, hb⟩
    have HO := Lib.hid (HO.out.next hb)
    clear hb HQ
    have hq := only_any U1 a2 c2 y 1 (HY.out.below HO.out.b).els hmy
    rw [HG2.out] at hq
    have HQ := Lib.hid hq
    clear hq
    go_wp2_with fail
    refine HQ.out.mono ?_
    rintro e U2 ⟨rfl, hb⟩
    have HO := Lib.hid (HO.out.next hb)
    clear hb HQ
    have hq := only_any U2 a c x 0 (HX.out.below HO.out.b).els hmx
    rw [HG3.out] at hq
    have HQ := Lib.hid hq
    clear hq
    go_wp2_with fail
    refine HQ.out.mono ?_
    rintro e U3 ⟨rfl, hb⟩
    have HO := Lib.hid (HO.out.next hb)
    clear hb HQ
    have hq := harmless_any U3 a2 c2 y (HY.out.below HO.out.b).els (by unfold maxLen; exact hmy)
    rw [HG4.out] at hq
    have HQ := Lib.hid hq
    clear hq
    go_wp2_with fail
    refine HQ.out.mono ?_
    rintro e U4 ⟨rfl, hb⟩
    have HO := Lib.hid (HO.out.next hb)
    clear hb HQ
    have hq := only_any U4 a2 c2 y 0 (HY.out.below HO.out.b).els hmy
    rw [HG5.out] at hq
    have HQ := Lib.hid hq
    clear hq
    go_wp2_with fail
    refine HQ.out.mono ?_
    rintro e U5 ⟨rfl, hb⟩
    have HO := Lib.hid (HO.out.next hb)
    clear hb HQ
    have y0 := HO.out.c0; have y1 := HO.out.c1; have y2 := HO.out.c2; have y3 := HO.out.c3; have y4 := HO.out.c4
    obtain ⟨G1, hG1⟩ : ∃ G, U5.heap.size = G := ⟨_, rfl⟩
    have HQ := Lib.hid (join3_any U5 B G1 (G1 + 1) (Nat.le_trans HB0.out HO.out.b.size) hG1 rfl _ _ x y (HX.out.below HO.out.b) (HY.out.below HO.out.b) o _ (HP.out.below HO.out.b) OKO.out HLL.out)
    skip
    go_wp2_with fail
    refine HQ.out.mono ?_
    rintro e' w2 ⟨⟨v2, rfl, hv2⟩, hb2⟩
    go_wp2_with fail
    go_ret
    exact ⟨⟨_, rfl, hv2⟩, bNext hb2 HO.out.b⟩
set_option maxHeartbeats 4000000 in
theorem dyad13_3harmsharms (w : World) (B : Bd) (hB : B ≤ w.heap.size) (a a2 : Option Addr) (c c2 : Nat) (x y : List Cop) (hx : CopS B w (.slice a x.length c) x) (hy : CopS B w (.slice a2 y.length c2) y) (hl : x.length + y.length + 1 ≤ 2513169434843) (o : Cop) (pa : Option Addr) (pc : Nat) (hp : MonS B w (.slice pa o.p.length pc) o.p) (ho : OkO o) (hf : o.fn = 3) (g1 : onlyC x 1 = false) (g2 : onlyC y 1 = false) (g3 : onlyC x 0 = true) (g4 : harmC y = false) (g5 : onlyC y 0 = true) (g6 : harmC x = false) (h2 : twoC o.fn x y = none) :
    Calls Try.prog 56 #[.slice a x.length c, .slice a2 y.length c2, opV o pa pc] w (RetC B w (dyadC x y o)) := by
  rw [dyadC_j h2 (by unfold ruleY; rw [hf]; simp [*]) (by unfold ruleX; rw [hf]; simp [*]) (by unfold ruleZ; rw [hf]; simp [*])]
  have H2 := Lib.hid h2
  have HF := Lib.hid hf
  clear h2 hf
  obtain ⟨k1, hk1⟩ : ∃ k, knownC x = k := ⟨_, rfl⟩
  obtain ⟨k2, hk2⟩ : ∃ k, knownC y = k := ⟨_, rfl⟩
  have HKX := Lib.hid hk1; have HKY := Lib.hid hk2
  have hi1 := fun n (h : k1 = some n) => known_in hx (hk1.trans h); have hi2 := fun n (h : k2 = some n) => known_in hy (hk2.trans h)
  have HI1 := Lib.hid hi1; have HI2 := Lib.hid hi2
  clear hi1 hi2 hk1 hk2
  have HX := Lib.hid hx; have HY := Lib.hid hy; have HP := Lib.hid hp; have OKO := Lib.hid ho; have HB0 := Lib.hid hB; have HLL := Lib.hid hl
  have HO := Lib.hid (OpBox.new w o (.slice pa o.p.length pc))
  have hmx := hx.le; have hmy := hy.le
  unfold opV
  clear hx hy hp ho hB hl
  go_enter Try.func56, Try.ntmps56
  go_upto_region 1 with fail
  refine gen_worldA (fun W => OpBox w W w.heap.size o (.slice pa o.p.length pc)) HO.out ?_
  rintro W hO
  have HO := Lib.hid hO
  clear hO
  have HQ := Lib.hid (known_any W a c x (HX.out.below HO.out.b).els hmx)
  rw [HKX.out] at HQ
  go_wp2_with fail
  refine HQ.out.mono ?_
  rintro e W1 ⟨rfl, hb⟩
  have HO := Lib.hid (HO.out.next hb)
  clear hb HQ
  have HQ := Lib.hid (known_any W1 a2 c2 y (HY.out.below HO.out.b).els hmy)
  rw [HKY.out] at HQ
  go_wp2_with fail
  refine HQ.out.mono ?_
  rintro e W2 ⟨rfl, hb⟩
  have HO := Lib.hid (HO.out.next hb)
  clear hb HQ
  go_upto_region 3 with fail
  go_cut [27] (fun s27 wx => s27 = .bool (k1.isSome && k2.isSome) ∧ W2 = wx)
  case first =>
    cases k1 with
    | none => (go_wp2_with fail); (go_meet); (exact ⟨rfl, rfl⟩)
    | some p => (cases k2 with | none => (go_wp2_with fail); (go_meet); (exact ⟨rfl, rfl⟩) | some q => (go_wp2_with fail); (go_meet); (exact ⟨rfl, rfl⟩))
  case rest =>
  obtain ⟨rfl, rfl⟩ := hcut
  obtain ⟨bb, hbb⟩ : ∃ bb, (k1.isSome && k2.isSome) = bb := ⟨_, rfl⟩
  rw [hbb]
  have HBB := Lib.hid hbb
  clear hbb
  go_upto_if 27 with fail
  go_cut [11, 12] (fun s11 s12 wx => OpBox w wx w.heap.size o (.slice pa o.p.length pc))
  case first =>
    cases bb with
    | false => (go_wp2_with fail); (go_meet); (exact HO.out)
    | true =>
      have hbb := HBB.out
      cases k1 with
      | none => cases hbb
      | some p =>
       cases k2 with
       | none => cases hbb
       | some q =>
        clear hbb
        obtain ⟨m, e0, hd⟩ : ∃ m e0, dyadF o.fn p q = (m, e0) := ⟨_, _, rfl⟩
        have he : (e0 == 0) = false := by
          have h2 := H2.out
          unfold twoC at h2
          rw [HKX.out, HKY.out] at h2
          dsimp only at h2
          rw [hd] at h2
          rw [beq_eq_false_iff_ne]
          intro h
          rw [if_pos h] at h2
          cases h2
        have HQ := Lib.hid (dyad_at W2 o.fn p q m e0 (HI1.out p rfl) (HI2.out q rfl) hd)
        have x4 := HO.out.c4
        clear hd
        go_wp2_with fail
        refine HQ.out.mono ?_
        rintro e W3 ⟨rfl, nd, rfl⟩
        have HO := Lib.hid (HO.out.next (Below.drewN W2 nd))
        clear HQ x4
        go_wp2_with fail
        go_meet
        exact HO.out
  case rest =>
    clear HO
    have HO := Lib.hid hcut
    clear hcut
    have x4 := HO.out.c4
    rw [HF.out] at x4
    have HG1 := Lib.hid g1; have HG2 := Lib.hid g2; have HG3 := Lib.hid g3; have HG4 := Lib.hid g4; have HG5 := Lib.hid g5; have HG6 := Lib.hid g6
    clear g1 g2 g3 g4 g5 g6
    have hq := only_any wc a c x 1 (HX.out.below HO.out.b).els hmx
    rw [HG1.out] at hq
    have HQ := Lib.hid hq
    clear hq
    go_wp2_with fail
    refine HQ.out.mono ?_
    rintro e U1 ⟨rfl, hb⟩
    have HO := Lib.hid (HO.out.next hb)
    clear hb HQ
    have hq := only_any U1 a2 c2 y 1 (HY.out.below HO.out.b).els hmy
    rw [HG2.out] at hq
    have HQ := Lib.hid hq
    clear hq
    go_wp2_with fail
    refine HQ.out.mono ?_
    rintro e U2 ⟨rfl, hb⟩
    have HO := Lib.hid (HO.out.next hb)
    clear hb HQ
    have hq := only_any U2 a c x 0 (HX.out.below HO.out.b).els hmx
    rw [HG3.out] at hq
    have HQ := Lib.hid hq
    clear hq
    go_wp2_with fail
    refine HQ.out.mono ?_
    rintro e U3 ⟨rfl, hb⟩
    have HO := Lib.hid (HO.out.next hb)
    clear hb HQ
    have hq := harmless_any U3 a2 c2 y (HY.out.below HO.out.b).els (by unfold maxLen; exact hmy)
    rw [HG4.out] at hq
    have HQ := Lib.hid hq
    clear hq
    go_wp2_with fail
    refine HQ.out.mono ?_
    rintro e U4 ⟨rfl, hb⟩
    have HO := Lib.hid (HO.out.next hb)
    clear hb HQ
    have hq := only_any U4 a2 c2 y 0 (HY.out.below HO.out.b).els hmy
    rw [HG5.out] at hq
    have HQ := Lib.hid hq
    clear hq
    go_wp2_with fail
    refine HQ.out.mono ?_
    rintro e U5 ⟨rfl, hb⟩
    have HO := Lib.hid (HO.out.next hb)
    clear hb HQ
    have hq := harmless_any U5 a c x (HX.out.below HO.out.b).els (by unfold maxLen; exact hmx)
    rw [HG6.out] at hq
    have HQ := Lib.hid hq
    clear hq
    go_wp2_with fail
    refine HQ.out.mono ?_
    rintro e U6 ⟨rfl, hb⟩
    have HO := Lib.hid (HO.out.next hb)
    clear hb HQ
    have y0 := HO.out.c0; have y1 := HO.out.c1; have y2 := HO.out.c2; have y3 := HO.out.c3; have y4 := HO.out.c4
    obtain ⟨G1, hG1⟩ : ∃ G, U6.heap.size = G := ⟨_, rfl⟩
    have HQ := Lib.hid (join3_any U6 B G1 (G1 + 1) (Nat.le_trans HB0.out HO.out.b.size) hG1 rfl _ _ x y (HX.out.below HO.out.b) (HY.out.below HO.out.b) o _ (HP.out.below HO.out.b) OKO.out HLL.out)
    skip
    go_wp2_with fail
    refine HQ.out.mono ?_
    rintro e' w2 ⟨⟨v2, rfl, hv2⟩, hb2⟩
    go_wp2_with fail
    go_ret
    exact ⟨⟨_, rfl, hv2⟩, bNext hb2 HO.out.b⟩
set_option maxHeartbeats 4000000 in
theorem dyad13_3harmsok (w : World) (B : Bd) (hB : B ≤ w.heap.size) (a a2 : Option Addr) (c c2 : Nat) (x y : List Cop) (hx : CopS B w (.slice a x.length c) x) (hy : CopS B w (.slice a2 y.length c2) y) (hl : x.length + y.length + 1 ≤ 2513169434843) (o : Cop) (pa : Option Addr) (pc : Nat) (hp : MonS B w (.slice pa o.p.length pc) o.p) (ho : OkO o) (hf : o.fn = 3) (g1 : onlyC x 1 = false) (g2 : onlyC y 1 = false) (g3 : onlyC x 0 = true) (g4 : harmC y = false) (g5 : onlyC y 0 = true) (g6 : harmC x = true) (h2 : twoC o.fn x y = none) :
    Calls Try.prog 56 #[.slice a x.length c, .slice a2 y.length c2, opV o pa pc] w (RetC B w (dyadC x y o)) := by
  rw [dyadC_z h2 (by unfold ruleY; rw [hf]; simp [*]) (by unfold ruleX; rw [hf]; simp [*]) (by unfold ruleZ; rw [hf]; simp [*])]
  have H2 := Lib.hid h2
  have HF := Lib.hid hf
  clear h2 hf
  obtain ⟨k1, hk1⟩ : ∃ k, knownC x = k := ⟨_, rfl⟩
  obtain ⟨k2, hk2⟩ : ∃ k, knownC y = k := ⟨_, rfl⟩
  have HKX := Lib.hid hk1; have HKY := Lib.hid hk2
  have hi1 := fun n (h : k1 = some n) => known_in hx (hk1.trans h); have hi2 := fun n (h : k2 = some n) => known_in hy (hk2.trans h)
  have HI1 := Lib.hid hi1; have HI2 := Lib.hid hi2
  clear hi1 hi2 hk1 hk2
  have HX := Lib.hid hx; have HY := Lib.hid hy; have HP := Lib.hid hp; have OKO := Lib.hid ho; have HB0 := Lib.hid hB; have HLL := Lib.hid hl
  have HO := Lib.hid (OpBox.new w o (.slice pa o.p.length pc))
  have hmx := hx.le; have hmy := hy.le
  unfold opV
  clear hx hy hp ho hB hl
  go_enter Try.func56, Try.ntmps56
  go_upto_region 1 with fail
  refine gen_worldA (fun W => OpBox w W w.heap.size o (.slice pa o.p.length pc)) HO.out ?_
  rintro W hO
  have HO := Lib.hid hO
  clear hO
  have HQ := Lib.hid (known_any W a c x (HX.out.below HO.out.b).els hmx)
  rw [HKX.out] at HQ
  go_wp2_with fail
  refine HQ.out.mono ?_
  rintro e W1 ⟨rfl, hb⟩
  have HO := Lib.hid (HO.out.next hb)
  clear hb HQ
  have HQ := Lib.hid (known_any W1 a2 c2 y (HY.out.below HO.out.b).els hmy)
  rw [HKY.out] at HQ
  go_wp2_with fail
  refine HQ.out.mono ?_
  rintro e W2 ⟨rfl, hb⟩
  have HO := Lib.hid (HO.out.next hb)
  clear hb HQ
  go_upto_region 3 with fail
  go_cut [27] (fun s27 wx => s27 = .bool (k1.isSome && k2.isSome) ∧ W2 = wx)
  case first =>
    cases k1 with
    | none => (go_wp2_with fail); (go_meet); (exact ⟨rfl, rfl⟩)
    | some p => (cases k2 with | none => (go_wp2_with fail); (go_meet); (exact ⟨rfl, rfl⟩) | some q => (go_wp2_with fail); (go_meet); (exact ⟨rfl, rfl⟩))
  case rest =>
  obtain ⟨rfl, rfl⟩ := hcut
  obtain ⟨bb, hbb⟩ : ∃ bb, (k1.isSome && k2.isSome) = bb := ⟨_, rfl⟩
  rw [hbb]
  have HBB := Lib.hid hbb
  clear hbb
  go_upto_if 27 with fail
  go_cut [11, 12] (fun s11 s12 wx => OpBox w wx w.heap.size o (.slice pa o.p.length pc))
  case first =>
    cases bb with
    | false => (go_wp2_with fail); (go_meet); (exact HO.out)
    | true =>
      have hbb := HBB.out
      cases k1 with
      | none => cases hbb
      | some p =>
       cases k2 with
       | none => cases hbb
       | some q =>
        clear hbb
        obtain ⟨m, e0, hd⟩ : ∃ m e0, dyadF o.fn p q = (m, e0) := ⟨_, _, rfl⟩
        have he : (e0 == 0) = false := by
          have h2 := H2.out
          unfold twoC at h2
          rw [HKX.out, HKY.out] at h2
          dsimp only at h2
          rw [hd] at h2
          rw [beq_eq_false_iff_ne]
          intro h
          rw [if_pos h] at h2
          cases h2
        have HQ := Lib.hid (dyad_at W2 o.fn p q m e0 (HI1.out p rfl) (HI2.out q rfl) hd)
        have x4 := HO.out.c4
        clear hd
        go_wp2_with fail
        refine HQ.out.mono ?_
        rintro e W3 ⟨rfl, nd, rfl⟩
        have HO := Lib.hid (HO.out.next (Below.drewN W2 nd))
        clear HQ x4
        go_wp2_with fail
        go_meet
        exact HO.out
  case rest =>
    clear HO
    have HO := Lib.hid hcut
    clear hcut
    have x4 := HO.out.c4
    rw [HF.out] at x4
    have HG1 := Lib.hid g1; have HG2 := Lib.hid g2; have HG3 := Lib.hid g3; have HG4 := Lib.hid g4; have HG5 := Lib.hid g5; have HG6 := Lib.hid g6
    have HN := Lib.hid (fun W hL => numC_any W B hL 0 (by unfold I64; omega))
    clear g1 g2 g3 g4 g5 g6
    have hq := only_any wc a c x 1 (HX.out.below HO.out.b).els hmx
    rw [HG1.out] at hq
    have HQ := Lib.hid hq
    clear hq
    go_wp2_with fail
    refine HQ.out.mono ?_
    rintro e U1 ⟨rfl, hb⟩
    have HO := Lib.hid (HO.out.next hb)
    clear hb HQ
    have hq := only_any U1 a2 c2 y 1 (HY.out.below HO.out.b).els hmy
    rw [HG2.out] at hq
    have HQ := Lib.hid hq
    clear hq
    go_wp2_with fail
    refine HQ.out.mono ?_
    rintro e U2 ⟨rfl, hb⟩
    have HO := Lib.hid (HO.out.next hb)
    clear hb HQ
    have hq := only_any U2 a c x 0 (HX.out.below HO.out.b).els hmx
    rw [HG3.out] at hq
    have HQ := Lib.hid hq
    clear hq
    go_wp2_with fail
    refine HQ.out.mono ?_
    rintro e U3 ⟨rfl, hb⟩
    have HO := Lib.hid (HO.out.next hb)
    clear hb HQ
    have hq := harmless_any U3 a2 c2 y (HY.out.below HO.out.b).els (by unfold maxLen; exact hmy)
    rw [HG4.out] at hq
    have HQ := Lib.hid hq
    clear hq
    go_wp2_with fail
    refine HQ.out.mono ?_
    rintro e U4 ⟨rfl, hb⟩
    have HO := Lib.hid (HO.out.next hb)
    clear hb HQ
    have hq := only_any U4 a2 c2 y 0 (HY.out.below HO.out.b).els hmy
    rw [HG5.out] at hq
    have HQ := Lib.hid hq
    clear hq
    go_wp2_with fail
    refine HQ.out.mono ?_
    rintro e U5 ⟨rfl, hb⟩
    have HO := Lib.hid (HO.out.next hb)
    clear hb HQ
    have hq := harmless_any U5 a c x (HX.out.below HO.out.b).els (by unfold maxLen; exact hmx)
    rw [HG6.out] at hq
    have HQ := Lib.hid hq
    clear hq
    go_wp2_with fail
    refine HQ.out.mono ?_
    rintro e U6 ⟨rfl, hb⟩
    have HO := Lib.hid (HO.out.next hb)
    clear hb HQ
    have HQ := Lib.hid (HN.out U6 (Nat.le_trans (Bd.low HB0.out) HO.out.b.size))
    go_wp2_with fail
    refine HQ.out.mono ?_
    rintro e w2 ⟨⟨v2, rfl, hv2⟩, hb2⟩
    go_wp2_with fail
    go_ret
    exact ⟨⟨_, rfl, hv2⟩, bNext hb2 HO.out.b⟩
set_option maxHeartbeats 4000000 in
theorem dyad13_other (w : World) (B : Bd) (hB : B ≤ w.heap.size) (a a2 : Option Addr) (c c2 : Nat) (x y : List Cop) (hx : CopS B w (.slice a x.length c) x) (hy : CopS B w (.slice a2 y.length c2) y) (hl : x.length + y.length + 1 ≤ 2513169434843) (o : Cop) (pa : Option Addr) (pc : Nat) (hp : MonS B w (.slice pa o.p.length pc) o.p) (ho : OkO o) (f1 : o.fn ≠ 1) (f2 : o.fn ≠ 2) (f3 : o.fn ≠ 3) (f4 : o.fn ≠ 4) (f5 : o.fn ≠ 17) (h2 : twoC o.fn x y = none) :
    Calls Try.prog 56 #[.slice a x.length c, .slice a2 y.length c2, opV o pa pc] w (RetC B w (dyadC x y o)) := by
  obtain ⟨r1, r2, r3⟩ := rules_other (x := x) (y := y) f1 f2 f3 f4 f5
  rw [dyadC_j h2 r1 r2 r3]
  have n1 : (o.fn == 1) = false := by rw [beq_eq_false_iff_ne]; exact f1
  have n2 : (o.fn == 2) = false := by rw [beq_eq_false_iff_ne]; exact f2
  have n3 : (o.fn == 3) = false := by rw [beq_eq_false_iff_ne]; exact f3
  have n4 : (o.fn == 4) = false := by rw [beq_eq_false_iff_ne]; exact f4
  have n5 : (o.fn == 17) = false := by rw [beq_eq_false_iff_ne]; exact f5
  clear f1 f2 f3 f4 f5 r1 r2 r3
  have H2 := Lib.hid h2
  clear h2
  obtain ⟨k1, hk1⟩ : ∃ k, knownC x = k := ⟨_, rfl⟩
  obtain ⟨k2, hk2⟩ : ∃ k, knownC y = k := ⟨_, rfl⟩
  have HKX := Lib.hid hk1; have HKY := Lib.hid hk2
  have hi1 := fun n (h : k1 = some n) => known_in hx (hk1.trans h); have hi2 := fun n (h : k2 = some n) => known_in hy (hk2.trans h)
  have HI1 := Lib.hid hi1; have HI2 := Lib.hid hi2
  clear hi1 hi2 hk1 hk2
  have HX := Lib.hid hx; have HY := Lib.hid hy; have HP := Lib.hid hp; have OKO := Lib.hid ho; have HB0 := Lib.hid hB; have HLL := Lib.hid hl
  have HO := Lib.hid (OpBox.new w o (.slice pa o.p.length pc))
  have hmx := hx.le; have hmy := hy.le
  unfold opV
  clear hx hy hp ho hB hl
  go_enter Try.func56, Try.ntmps56
  go_upto_region 1 with fail
  refine gen_worldA (fun W => OpBox w W w.heap.size o (.slice pa o.p.length pc)) HO.out ?_
  rintro W hO
  have HO := Lib.hid hO
  clear hO
  have HQ := Lib.hid (known_any W a c x (HX.out.below HO.out.b).els hmx)
  rw [HKX.out] at HQ
  go_wp2_with fail
  refine HQ.out.mono ?_
  rintro e W1 ⟨rfl, hb⟩
  have HO := Lib.hid (HO.out.next hb)
  clear hb HQ
  have HQ := Lib.hid (known_any W1 a2 c2 y (HY.out.below HO.out.b).els hmy)
  rw [HKY.out] at HQ
  go_wp2_with fail
  refine HQ.out.mono ?_
  rintro e W2 ⟨rfl, hb⟩
  have HO := Lib.hid (HO.out.next hb)
  clear hb HQ
  go_upto_region 3 with fail
  go_cut [27] (fun s27 wx => s27 = .bool (k1.isSome && k2.isSome) ∧ W2 = wx)
  case first =>
    cases k1 with
    | none => (go_wp2_with fail); (go_meet); (exact ⟨rfl, rfl⟩)
    | some p => (cases k2 with | none => (go_wp2_with fail); (go_meet); (exact ⟨rfl, rfl⟩) | some q => (go_wp2_with fail); (go_meet); (exact ⟨rfl, rfl⟩))
  case rest =>
  obtain ⟨rfl, rfl⟩ := hcut
  obtain ⟨bb, hbb⟩ : ∃ bb, (k1.isSome && k2.isSome) = bb := ⟨_, rfl⟩
  rw [hbb]
  have HBB := Lib.hid hbb
  clear hbb
  go_upto_if 27 with fail
  go_cut [11, 12] (fun s11 s12 wx => OpBox w wx w.heap.size o (.slice pa o.p.length pc))
  case first =>
    cases bb with
    | false => (go_wp2_with fail); (go_meet); (exact HO.out)
    | true =>
      have hbb := HBB.out
      cases k1 with
      | none => cases hbb
      | some p =>
       cases k2 with
       | none => cases hbb
       | some q =>
        clear hbb
        obtain ⟨m, e0, hd⟩ : ∃ m e0, dyadF o.fn p q = (m, e0) := ⟨_, _, rfl⟩
        have he : (e0 == 0) = false := by
          have h2 := H2.out
          unfold twoC at h2
          rw [HKX.out, HKY.out] at h2
          dsimp only at h2
          rw [hd] at h2
          rw [beq_eq_false_iff_ne]
          intro h
          rw [if_pos h] at h2
          cases h2
        have HQ := Lib.hid (dyad_at W2 o.fn p q m e0 (HI1.out p rfl) (HI2.out q rfl) hd)
        have x4 := HO.out.c4
        clear hd
        go_wp2_with fail
        refine HQ.out.mono ?_
        rintro e W3 ⟨rfl, nd, rfl⟩
        have HO := Lib.hid (HO.out.next (Below.drewN W2 nd))
        clear HQ x4
        go_wp2_with fail
        go_meet
        exact HO.out
  case rest =>
    clear HO
    have HO := Lib.hid hcut
    clear hcut
    have x4 := HO.out.c4
    have y0 := HO.out.c0; have y1 := HO.out.c1; have y2 := HO.out.c2; have y3 := HO.out.c3; have y4 := HO.out.c4
    obtain ⟨G1, hG1⟩ : ∃ G, wc.heap.size = G := ⟨_, rfl⟩
    have HQ := Lib.hid (join3_any wc B G1 (G1 + 1) (Nat.le_trans HB0.out HO.out.b.size) hG1 rfl _ _ x y (HX.out.below HO.out.b) (HY.out.below HO.out.b) o _ (HP.out.below HO.out.b) OKO.out HLL.out)
    skip
    go_wp2_with fail
    refine HQ.out.mono ?_
    rintro e' w2 ⟨⟨v2, rfl, hv2⟩, hb2⟩
    go_wp2_with fail
    go_ret
    exact ⟨⟨_, rfl, hv2⟩, bNext hb2 HO.out.b⟩
theorem dyad13_any (w : World) (B : Bd) (hB : B ≤ w.heap.size) (a a2 : Option Addr) (c c2 : Nat) (x y : List Cop) (hx : CopS B w (.slice a x.length c) x) (hy : CopS B w (.slice a2 y.length c2) y) (hl : x.length + y.length + 1 ≤ 2513169434843) (o : Cop) (pa : Option Addr) (pc : Nat) (hp : MonS B w (.slice pa o.p.length pc) o.p) (ho : OkO o) :
    Calls Try.prog 56 #[.slice a x.length c, .slice a2 y.length c2, opV o pa pc] w (RetC B w (dyadC x y o)) := by
  cases h2 : twoC o.fn x y with
  | some m =>
    have h3 := h2
    unfold twoC at h3
    cases hkx : knownC x with
    | none => rw [hkx] at h3; cases h3
    | some p =>
      cases hky : knownC y with
      | none => rw [hkx, hky] at h3; cases h3
      | some q =>
        rw [hkx, hky] at h3
        dsimp only at h3
        split at h3
        · rename_i h0
          injection h3 with h3
          exact dyad13_num w B hB a a2 c c2 x y hx hy hl o pa pc hp ho p q m hkx hky (by rw [← h3, ← h0])
        · cases h3
  | none =>
    by_cases f1 : o.fn = 1
    · cases g1 : onlyC x 0 with
      | true => exact dyad13_1y w B hB a a2 c c2 x y hx hy hl o pa pc hp ho f1 g1 h2
      | false => cases g2 : onlyC y 0 with
        | true => exact dyad13_1x w B hB a a2 c c2 x y hx hy hl o pa pc hp ho f1 g1 g2 h2
        | false => exact dyad13_1j w B hB a a2 c c2 x y hx hy hl o pa pc hp ho f1 g1 g2 h2
    by_cases f2 : o.fn = 2
    · cases g2 : onlyC y 0 with
      | true => exact dyad13_2x w B hB a a2 c c2 x y hx hy hl o pa pc hp ho f2 g2 h2
      | false => exact dyad13_2j w B hB a a2 c c2 x y hx hy hl o pa pc hp ho f2 g2 h2
    by_cases f4 : o.fn = 4
    · cases g2 : onlyC y 1 with
      | true => exact dyad13_4x w B hB a a2 c c2 x y hx hy hl o pa pc hp ho f4 g2 h2
      | false => exact dyad13_4j w B hB a a2 c c2 x y hx hy hl o pa pc hp ho f4 g2 h2
    by_cases f5 : o.fn = 17
    · cases g2 : onlyC y 1 with
      | true => exact dyad13_17x w B hB a a2 c c2 x y hx hy hl o pa pc hp ho f5 g2 h2
      | false => exact dyad13_17j w B hB a a2 c c2 x y hx hy hl o pa pc hp ho f5 g2 h2
    by_cases f3 : o.fn = 3
    · cases g1 : onlyC x 1 with
      | true => exact dyad13_3y w B hB a a2 c c2 x y hx hy hl o pa pc hp ho f3 g1 h2
      | false =>
        cases g2 : onlyC y 1 with
        | true => exact dyad13_3x w B hB a a2 c c2 x y hx hy hl o pa pc hp ho f3 g1 g2 h2
        | false =>
          cases g3 : onlyC x 0 with
          | true =>
            cases g4 : harmC y with
            | true => exact dyad13_3z1 w B hB a a2 c c2 x y hx hy hl o pa pc hp ho f3 g1 g2 g3 g4 h2
            | false =>
              cases g5 : onlyC y 0 with
              | false => exact dyad13_3harmsno w B hB a a2 c c2 x y hx hy hl o pa pc hp ho f3 g1 g2 g3 g4 g5 h2
              | true => cases g6 : harmC x with
                | true => exact dyad13_3harmsok w B hB a a2 c c2 x y hx hy hl o pa pc hp ho f3 g1 g2 g3 g4 g5 g6 h2
                | false => exact dyad13_3harmsharms w B hB a a2 c c2 x y hx hy hl o pa pc hp ho f3 g1 g2 g3 g4 g5 g6 h2
          | false =>
            cases g5 : onlyC y 0 with
            | false => exact dyad13_3nono w B hB a a2 c c2 x y hx hy hl o pa pc hp ho f3 g1 g2 g3 g5 h2
            | true => cases g6 : harmC x with
              | true => exact dyad13_3nook w B hB a a2 c c2 x y hx hy hl o pa pc hp ho f3 g1 g2 g3 g5 g6 h2
              | false => exact dyad13_3noharms w B hB a a2 c c2 x y hx hy hl o pa pc hp ho f3 g1 g2 g3 g5 g6 h2
    exact dyad13_other w B hB a a2 c c2 x y hx hy hl o pa pc hp ho f1 f2 f3 f4 f5 h2
end Go.Proofs.Ytmlfeocdcjhhaaa
