import Derived.Test.YtmlfeocdcjhhaaaPG24
import Derived.Test.YtmlfeocdcjhhaaaPG16
namespace Go.Proofs.Ytmlfeocdcjhhaaa
set_option maxRecDepth 100000
open Go.RowKit
set_option linter.unusedVariables false
set_option linter.unusedSimpArgs false
attribute [local go_sem ↓] Go.wp_at_zero Go.wp_at_succ

/-! windrowref13.monad. -/
theorem rmonad13_x (w : World) (B : Bd) (hB : B ≤ w.heap.size) (a : Option Addr) (c : Nat) (x : List Cop) (hx : CopS B w (.slice a x.length c) x) (hl : x.length + 1 ≤ 2513169434843) (o : Cop) (pa : Option Addr) (pc : Nat) (hp : MonS B w (.slice pa o.p.length pc) o.p) (ho : OkO o)
    (h : o.fn = 1 ∨ o.fn = 6 ∨ o.fn = 7) : Calls Try.prog 62 #[.slice a x.length c, opV o pa pc] w (RetC B w (monadC x o)) := by
  rw [monadC_x h]
  rcases h with h | h | h
  all_goals
    have HF := Lib.hid h
    clear h
    have HX := Lib.hid hx; have HP := Lib.hid hp; have OKO := Lib.hid ho; have HB0 := Lib.hid hB; have HLL := Lib.hid hl
    have HO := Lib.hid (OpBox.new w o (.slice pa o.p.length pc))
    have hm := hx.le
    unfold opV
    clear hx hp ho hB hl
    go_enter Try.func62, Try.ntmps62
    go_upto_region 1 with fail
    refine gen_worldA (fun W => OpBox w W w.heap.size o (.slice pa o.p.length pc)) HO.out ?_
    rintro W hO
    have x4 := hO.c4
    have HO := Lib.hid hO
    clear hO
    rw [HF.out] at x4
    go_wp2_with fail
    go_ret
    exact ⟨⟨_, rfl, HX.out.below HO.out.b⟩, HO.out.b⟩
theorem rmonad13_y (w : World) (B : Bd) (hB : B ≤ w.heap.size) (a : Option Addr) (c : Nat) (x : List Cop) (hx : CopS B w (.slice a x.length c) x) (hl : x.length + 1 ≤ 2513169434843) (o : Cop) (pa : Option Addr) (pc : Nat) (hp : MonS B w (.slice pa o.p.length pc) o.p) (ho : OkO o)
    (h : ¬ (o.fn = 1 ∨ o.fn = 6 ∨ o.fn = 7)) : Calls Try.prog 62 #[.slice a x.length c, opV o pa pc] w (RetC B w (monadC x o)) := by
  have n1 : (o.fn == 1) = false := by rw [beq_eq_false_iff_ne]; omega
  have n6 : (o.fn == 6) = false := by rw [beq_eq_false_iff_ne]; omega
  have n7 : (o.fn == 7) = false := by rw [beq_eq_false_iff_ne]; omega
  obtain ⟨kn, hkn⟩ : ∃ k, knownC x = k := ⟨_, rfl⟩
  have hin : In64 (kn.getD 0) := by
    cases kn with
    | none => unfold In64; decide
    | some n => exact known_in hx hkn
  obtain ⟨m, e0, hme⟩ : ∃ m e0, monadF o.fn (kn.getD 0) = (m, e0) := ⟨_, _, rfl⟩
  have hmi := monad_in (f := o.fn) hin
  rw [hme] at hmi
  have HM := Lib.hid (fun W => rmonad_at W o.fn (kn.getD 0) m e0 hin hme)
  have HKN := Lib.hid hkn
  by_cases he : kn.isSome = true ∧ e0 = 0
  · obtain ⟨he1, he2⟩ := he
    cases kn with
    | none => cases he1
    | some n =>
    subst he2
    rw [monadC_some (m := m) h (by unfold oneC; rw [hkn]; dsimp only; rw [show monadF o.fn n = (m, 0) from hme]; rfl)]
    have HN := Lib.hid (fun W hL => rlist_any W B hL m hmi)
    clear h hkn hin hme hmi he1
    have HX := Lib.hid hx; have HP := Lib.hid hp; have OKO := Lib.hid ho; have HB0 := Lib.hid hB; have HLL := Lib.hid hl
    have HO := Lib.hid (OpBox.new w o (.slice pa o.p.length pc))
    have hm := hx.le
    unfold opV
    clear hx hp ho hB hl
    go_enter Try.func62, Try.ntmps62
    go_upto_region 1 with fail
    refine gen_worldA (fun W => OpBox w W w.heap.size o (.slice pa o.p.length pc)) HO.out ?_
    rintro W hO
    have x4 := hO.c4
    have HO := Lib.hid hO
    clear hO
    have hq := rnumber_any W a c x (HX.out.below HO.out.b).els hm
    rw [HKN.out] at hq
    have HQ := Lib.hid hq
    clear hq
    go_wp2_with fail
    refine HQ.out.mono ?_
    rintro e W1 ⟨rfl, hb⟩
    have HO := Lib.hid (HO.out.next hb)
    have x4 := HO.out.c4
    have HQ2 := Lib.hid (HM.out W1)
    clear hb HQ HM
    go_wp2_with fail
    refine HQ2.out.mono ?_
    rintro e W2 ⟨rfl, nd, rfl⟩
    have HO := Lib.hid (HO.out.next (Below.drewN W1 nd))
    have HQ := Lib.hid (HN.out (W1.drewN nd) (Nat.le_trans (Bd.low HB0.out) HO.out.b.size))
    clear HQ2 HN x4
    go_wp2_with fail
    refine HQ.out.mono ?_
    rintro e w2 ⟨⟨v2, rfl, hv2⟩, hb2⟩
    go_wp2_with fail
    go_ret
    exact ⟨⟨_, rfl, hv2⟩, bNext hb2 HO.out.b⟩
  · have hone : oneC o.fn x = none := by
      unfold oneC
      rw [hkn]
      cases kn with
      | none => rfl
      | some n =>
        dsimp only
        rw [show monadF o.fn n = (m, e0) from hme]
        exact if_neg (fun h0 => he ⟨rfl, h0⟩)
    rw [monadC_none h hone]
    have ht : (kn.isSome && (e0 == 0)) = false := by
      cases hs : kn.isSome with
      | false => rfl
      | true => rw [Bool.true_and, beq_eq_false_iff_ne]; exact fun h0 => he ⟨hs, h0⟩
    have HTT := Lib.hid ht
    clear h hkn hin hme hmi he hone ht
    have HX := Lib.hid hx; have HP := Lib.hid hp; have OKO := Lib.hid ho; have HB0 := Lib.hid hB; have HLL := Lib.hid hl
    have HO := Lib.hid (OpBox.new w o (.slice pa o.p.length pc))
    have hm := hx.le
    unfold opV
    clear hx hp ho hB hl
    go_enter Try.func62, Try.ntmps62
    go_upto_region 1 with fail
    refine gen_worldA (fun W => OpBox w W w.heap.size o (.slice pa o.p.length pc)) HO.out ?_
    rintro W hO
    have x4 := hO.c4
    have HO := Lib.hid hO
    clear hO
    have hq := rnumber_any W a c x (HX.out.below HO.out.b).els hm
    rw [HKN.out] at hq
    have HQ := Lib.hid hq
    clear hq
    cases hs : kn.isSome with
    | false =>
      rw [hs] at HQ
      go_wp2_with fail
      refine HQ.out.mono ?_
      rintro e W1 ⟨rfl, hb⟩
      have HO := Lib.hid (HO.out.next hb)
      have x4 := HO.out.c4
      have HQ2 := Lib.hid (HM.out W1)
      clear hb HQ HM
      go_wp2_with fail
      refine HQ2.out.mono ?_
      rintro e W2 ⟨rfl, nd, rfl⟩
      have HO := Lib.hid (HO.out.next (Below.drewN W1 nd))
      clear HQ2 x4
      have y0 := HO.out.c0; have y1 := HO.out.c1; have y2 := HO.out.c2; have y3 := HO.out.c3; have y4 := HO.out.c4
      have HQ := Lib.hid (behind_any (W1.drewN nd) B (Nat.le_trans HB0.out HO.out.b.size) a c x (HX.out.below HO.out.b) HLL.out o pa pc (HP.out.below HO.out.b) OKO.out)
      unfold opV at HQ
      go_wp2_with fail
      refine HQ.out.mono ?_
      rintro e' w2 ⟨⟨v2, rfl, hv2⟩, hb2⟩
      go_wp2_with fail
      go_ret
      exact ⟨⟨_, rfl, hv2⟩, bNext hb2 HO.out.b⟩
    | true =>
      rw [hs] at HQ
      have he' : (e0 == 0) = false := by have := HTT.out; rw [hs, Bool.true_and] at this; exact this
      go_wp2_with fail
      refine HQ.out.mono ?_
      rintro e W1 ⟨rfl, hb⟩
      have HO := Lib.hid (HO.out.next hb)
      have x4 := HO.out.c4
      have HQ2 := Lib.hid (HM.out W1)
      clear hb HQ HM
      go_wp2_with fail
      refine HQ2.out.mono ?_
      rintro e W2 ⟨rfl, nd, rfl⟩
      have HO := Lib.hid (HO.out.next (Below.drewN W1 nd))
      clear HQ2 x4
      have y0 := HO.out.c0; have y1 := HO.out.c1; have y2 := HO.out.c2; have y3 := HO.out.c3; have y4 := HO.out.c4
      have HQ := Lib.hid (behind_any (W1.drewN nd) B (Nat.le_trans HB0.out HO.out.b.size) a c x (HX.out.below HO.out.b) HLL.out o pa pc (HP.out.below HO.out.b) OKO.out)
      unfold opV at HQ
      go_wp2_with fail
      refine HQ.out.mono ?_
      rintro e' w2 ⟨⟨v2, rfl, hv2⟩, hb2⟩
      go_wp2_with fail
      go_ret
      exact ⟨⟨_, rfl, hv2⟩, bNext hb2 HO.out.b⟩
theorem rmonad13_any (w : World) (B : Bd) (hB : B ≤ w.heap.size) (a : Option Addr) (c : Nat) (x : List Cop) (hx : CopS B w (.slice a x.length c) x) (hl : x.length + 1 ≤ 2513169434843) (o : Cop) (pa : Option Addr) (pc : Nat) (hp : MonS B w (.slice pa o.p.length pc) o.p) (ho : OkO o) :
    Calls Try.prog 62 #[.slice a x.length c, opV o pa pc] w (RetC B w (monadC x o)) := by
  by_cases h : o.fn = 1 ∨ o.fn = 6 ∨ o.fn = 7
  · exact rmonad13_x w B hB a c x hx hl o pa pc hp ho h
  · exact rmonad13_y w B hB a c x hx hl o pa pc hp ho h
end Go.Proofs.Ytmlfeocdcjhhaaa

namespace Go.Proofs.Ytmlfeocdcjhhaaa
set_option maxRecDepth 100000
open Go.RowKit
set_option linter.unusedVariables false
set_option linter.unusedSimpArgs false
attribute [local go_sem ↓] Go.wp_at_zero Go.wp_at_succ

/-! windrowref13.dyad. -/

set_option maxHeartbeats 4000000 in
theorem rdyad13_num (w : World) (B : Bd) (hB : B ≤ w.heap.size) (a a2 : Option Addr) (c c2 : Nat) (x y : List Cop) (hx : CopS B w (.slice a x.length c) x) (hy : CopS B w (.slice a2 y.length c2) y) (hl : x.length + y.length + 1 ≤ 2513169434843) (o : Cop) (pa : Option Addr) (pc : Nat) (hp : MonS B w (.slice pa o.p.length pc) o.p) (ho : OkO o) (p q m : Int) (hkx : knownC x = some p) (hky : knownC y = some q) (hd : dyadF o.fn p q = (m, 0)) :
    Calls Try.prog 63 #[.slice a x.length c, .slice a2 y.length c2, opV o pa pc] w (RetC B w (dyadC x y o)) := by
  have h2 : twoC o.fn x y = some m := by unfold twoC; rw [hkx, hky]; dsimp only; rw [hd]; rfl
  rw [dyadC_num h2]
  have hpi := known_in hx hkx; have hqi := known_in hy hky
  have hmi := dyad_in (f := o.fn) hpi hqi
  rw [hd] at hmi
  have HM := Lib.hid (fun W => rdyad_at W o.fn p q m 0 hpi hqi hd); have HN := Lib.hid (fun W hL => rlist_any W B hL m hmi); have HKX := Lib.hid hkx; have HKY := Lib.hid hky
  clear h2 hpi hqi hmi hd hkx hky
  have HX := Lib.hid hx; have HY := Lib.hid hy; have HP := Lib.hid hp; have OKO := Lib.hid ho; have HB0 := Lib.hid hB; have HLL := Lib.hid hl
  have HO := Lib.hid (OpBox.new w o (.slice pa o.p.length pc))
  have hmx := hx.le; have hmy := hy.le
  unfold opV
  clear hx hy hp ho hB hl
  go_enter Try.func63, Try.ntmps63
  go_upto_region 1 with fail
  refine gen_worldA (fun W => OpBox w W w.heap.size o (.slice pa o.p.length pc)) HO.out ?_
  rintro W hO
  have HO := Lib.hid hO
  clear hO
  have HQ := Lib.hid (rnumber_any W a c x (HX.out.below HO.out.b).els hmx)
  rw [HKX.out] at HQ
  go_wp2_with fail
  refine HQ.out.mono ?_
  rintro e W1 ⟨rfl, hb⟩
  have HO := Lib.hid (HO.out.next hb)
  clear hb HQ
  have HQ := Lib.hid (rnumber_any W1 a2 c2 y (HY.out.below HO.out.b).els hmy)
  rw [HKY.out] at HQ
  go_wp2_with fail
  refine HQ.out.mono ?_
  rintro e W2 ⟨rfl, hb⟩
  have HO := Lib.hid (HO.out.next hb)
  clear hb HQ
  have x4 := HO.out.c4
  have HQ := Lib.hid (HM.out W2)
  go_wp2_with fail
  refine HQ.out.mono ?_
  rintro e W3 ⟨rfl, nd, rfl⟩
  have HO := Lib.hid (HO.out.next (Below.drewN W2 nd))
  clear HQ HM x4
  have HQ := Lib.hid (HN.out (W2.drewN nd) (Nat.le_trans (Bd.low HB0.out) HO.out.b.size))
  go_wp2_with fail
  refine HQ.out.mono ?_
  rintro e w2 ⟨⟨v2, rfl, hv2⟩, hb2⟩
  go_wp2_with fail
  go_ret
  exact ⟨⟨_, rfl, hv2⟩, bNext hb2 HO.out.b⟩
set_option maxHeartbeats 4000000 in
theorem rdyad13_1y (w : World) (B : Bd) (hB : B ≤ w.heap.size) (a a2 : Option Addr) (c c2 : Nat) (x y : List Cop) (hx : CopS B w (.slice a x.length c) x) (hy : CopS B w (.slice a2 y.length c2) y) (hl : x.length + y.length + 1 ≤ 2513169434843) (o : Cop) (pa : Option Addr) (pc : Nat) (hp : MonS B w (.slice pa o.p.length pc) o.p) (ho : OkO o) (hf : o.fn = 1) (g1 : onlyC x 0 = true) (h2 : twoC o.fn x y = none) :
    Calls Try.prog 63 #[.slice a x.length c, .slice a2 y.length c2, opV o pa pc] w (RetC B w (dyadC x y o)) := by
  rw [dyadC_y h2 (by unfold ruleY; rw [hf]; simp [*])]
  have H2 := Lib.hid h2
  have HF := Lib.hid hf
  clear h2 hf
  obtain ⟨k1, hk1⟩ : ∃ k, knownC x = k := ⟨_, rfl⟩
  obtain ⟨k2, hk2⟩ : ∃ k, knownC y = k := ⟨_, rfl⟩
  have HKX := Lib.hid hk1; have HKY := Lib.hid hk2
  have hi1 := fun n (h : k1 = some n) => known_in hx (hk1.trans h); have hi2 := fun n (h : k2 = some n) => known_in hy (hk2.trans h)
  have HI1 := Lib.hid hi1; have HI2 := Lib.hid hi2
  clear hi1 hi2 hk1 hk2
  obtain ⟨b1, hb1⟩ : ∃ b, k1.isSome = b := ⟨_, rfl⟩
  obtain ⟨b2, hb2⟩ : ∃ b, k2.isSome = b := ⟨_, rfl⟩
  have HB1 := Lib.hid hb1; have HB2 := Lib.hid hb2
  clear hb1 hb2
  have HX := Lib.hid hx; have HY := Lib.hid hy; have HP := Lib.hid hp; have OKO := Lib.hid ho; have HB0 := Lib.hid hB; have HLL := Lib.hid hl
  have HO := Lib.hid (OpBox.new w o (.slice pa o.p.length pc))
  have hmx := hx.le; have hmy := hy.le
  unfold opV
  clear hx hy hp ho hB hl
  go_enter Try.func63, Try.ntmps63
  go_upto_region 1 with fail
  refine gen_worldA (fun W => OpBox w W w.heap.size o (.slice pa o.p.length pc)) HO.out ?_
  rintro W hO
  have HO := Lib.hid hO
  clear hO
  have HQ := Lib.hid (rnumber_any W a c x (HX.out.below HO.out.b).els hmx)
  rw [HKX.out, HB1.out] at HQ
  go_wp2_with fail
  refine HQ.out.mono ?_
  rintro e W1 ⟨rfl, hb⟩
  have HO := Lib.hid (HO.out.next hb)
  clear hb HQ
  have HQ := Lib.hid (rnumber_any W1 a2 c2 y (HY.out.below HO.out.b).els hmy)
  rw [HKY.out, HB2.out] at HQ
  go_wp2_with fail
  refine HQ.out.mono ?_
  rintro e W2 ⟨rfl, hb⟩
  have HO := Lib.hid (HO.out.next hb)
  clear hb HQ
  have x4 := HO.out.c4
  obtain ⟨m, e0, hd⟩ : ∃ m e0, dyadF o.fn (k1.getD 0) (k2.getD 0) = (m, e0) := ⟨_, _, rfl⟩
  have hi1 : In64 (k1.getD 0) := by cases k1 with | none => (unfold In64; decide) | some p => exact HI1.out p rfl
  have hi2 : In64 (k2.getD 0) := by cases k2 with | none => (unfold In64; decide) | some p => exact HI2.out p rfl
  have HQ := Lib.hid (rdyad_at W2 o.fn (k1.getD 0) (k2.getD 0) m e0 hi1 hi2 hd)
  have htt : (k1.isSome && (k2.isSome && (e0 == 0))) = false := by
    have h2 := H2.out
    unfold twoC at h2
    rw [HKX.out, HKY.out] at h2
    cases k1 with
    | none => rfl
    | some p =>
      cases k2 with
      | none => rfl
      | some q =>
        dsimp only at h2
        rw [show dyadF o.fn p q = (m, e0) from hd] at h2
        show (e0 == 0) = false
        rw [beq_eq_false_iff_ne]
        intro h
        rw [if_pos h] at h2
        cases h2
  have HTT := Lib.hid htt
  clear hd hi1 hi2 htt
  go_wp2_with fail
  refine HQ.out.mono ?_
  rintro e W3 ⟨rfl, nd, rfl⟩
  have HO := Lib.hid (HO.out.next (Below.drewN W2 nd))
  clear HQ x4
  obtain ⟨W4, hW4⟩ : ∃ W, W2.drewN nd = W := ⟨_, rfl⟩
  rw [hW4] at HO ⊢
  clear hW4
  go_upto_region 4 with fail
  go_cut [38] (fun s38 wx => s38 = .bool false ∧ OpBox w wx w.heap.size o (.slice pa o.p.length pc))
  case first =>
    obtain ⟨b3, hb3⟩ : ∃ b, (e0 == 0) = b := ⟨_, rfl⟩
    have htt := HTT.out
    rw [HB1.out, HB2.out, hb3] at htt
    cases b1 with
    | false => (clear htt hb3); (go_wp2_with fail); (go_meet); (exact ⟨rfl, HO.out⟩)
    | true =>
      cases b2 with
      | false => (clear htt hb3); (go_wp2_with fail); (go_meet); (exact ⟨rfl, HO.out⟩)
      | true =>
        cases b3 with
        | false => (clear htt); (go_wp2_with fail); (go_meet); (exact ⟨rfl, HO.out⟩)
        | true => cases htt
  case rest =>
    obtain ⟨rfl, hcut⟩ := hcut
    clear HO
    have HO := Lib.hid hcut
    clear hcut
    have x4 := HO.out.c4
    rw [HF.out] at x4
    have HG1 := Lib.hid g1
    clear g1
    have hq := ris_any wc a c x 0 (HX.out.below HO.out.b).els hmx
    rw [HG1.out] at hq
    have HQ := Lib.hid hq
    clear hq
    go_wp2_with fail
    refine HQ.out.mono ?_
    rintro e U1 ⟨rfl, hb⟩
    have HO := Lib.hid (HO.out.next hb)
    clear hb HQ
    go_wp2_with fail
    go_ret
    exact ⟨⟨_, rfl, HY.out.below HO.out.b⟩, HO.out.b⟩
set_option maxHeartbeats 4000000 in
theorem rdyad13_1x (w : World) (B : Bd) (hB : B ≤ w.heap.size) (a a2 : Option Addr) (c c2 : Nat) (x y : List Cop) (hx : CopS B w (.slice a x.length c) x) (hy : CopS B w (.slice a2 y.length c2) y) (hl : x.length + y.length + 1 ≤ 2513169434843) (o : Cop) (pa : Option Addr) (pc : Nat) (hp : MonS B w (.slice pa o.p.length pc) o.p) (ho : OkO o) (hf : o.fn = 1) (g1 : onlyC x 0 = false) (g2 : onlyC y 0 = true) (h2 : twoC o.fn x y = none) :
    Calls Try.prog 63 #[.slice a x.length c, .slice a2 y.length c2, opV o pa pc] w (RetC B w (dyadC x y o)) := by
  rw [dyadC_x h2 (by unfold ruleY; rw [hf]; simp [*]) (by unfold ruleX; rw [hf]; simp [*])]
  have H2 := Lib.hid h2
  have HF := Lib.hid hf
  clear h2 hf
  obtain ⟨k1, hk1⟩ : ∃ k, knownC x = k := ⟨_, rfl⟩
  obtain ⟨k2, hk2⟩ : ∃ k, knownC y = k := ⟨_, rfl⟩
  have HKX := Lib.hid hk1; have HKY := Lib.hid hk2
  have hi1 := fun n (h : k1 = some n) => known_in hx (hk1.trans h); have hi2 := fun n (h : k2 = some n) => known_in hy (hk2.trans h)
  have HI1 := Lib.hid hi1; have HI2 := Lib.hid hi2
  clear hi1 hi2 hk1 hk2
  obtain ⟨b1, hb1⟩ : ∃ b, k1.isSome = b := ⟨_, rfl⟩
  obtain ⟨b2, hb2⟩ : ∃ b, k2.isSome = b := ⟨_, rfl⟩
  have HB1 := Lib.hid hb1; have HB2 := Lib.hid hb2
  clear hb1 hb2
  have HX := Lib.hid hx; have HY := Lib.hid hy; have HP := Lib.hid hp; have OKO := Lib.hid ho; have HB0 := Lib.hid hB; have HLL := Lib.hid hl
  have HO := Lib.hid (OpBox.new w o (.slice pa o.p.length pc))
  have hmx := hx.le; have hmy := hy.le
  unfold opV
  clear hx hy hp ho hB hl
  go_enter Try.func63, Try.ntmps63
  go_upto_region 1 with fail
  refine gen_worldA (fun W => OpBox w W w.heap.size o (.slice pa o.p.length pc)) HO.out ?_
  rintro W hO
  have HO := Lib.hid hO
  clear hO
  have HQ := Lib.hid (rnumber_any W a c x (HX.out.below HO.out.b).els hmx)
  rw [HKX.out, HB1.out] at HQ
  go_wp2_with fail
  refine HQ.out.mono ?_
  rintro e W1 ⟨rfl, hb⟩
  have HO := Lib.hid (HO.out.next hb)
  clear hb HQ
  have HQ := Lib.hid (rnumber_any W1 a2 c2 y (HY.out.below HO.out.b).els hmy)
  rw [HKY.out, HB2.out] at HQ
  go_wp2_with fail
  refine HQ.out.mono ?_
  rintro e W2 ⟨rfl, hb⟩
  have HO := Lib.hid (HO.out.next hb)
  clear hb HQ
  have x4 := HO.out.c4
  obtain ⟨m, e0, hd⟩ : ∃ m e0, dyadF o.fn (k1.getD 0) (k2.getD 0) = (m, e0) := ⟨_, _, rfl⟩
  have hi1 : In64 (k1.getD 0) := by cases k1 with | none => (unfold In64; decide) | some p => exact HI1.out p rfl
  have hi2 : In64 (k2.getD 0) := by cases k2 with | none => (unfold In64; decide) | some p => exact HI2.out p rfl
  have HQ := Lib.hid (rdyad_at W2 o.fn (k1.getD 0) (k2.getD 0) m e0 hi1 hi2 hd)
  have htt : (k1.isSome && (k2.isSome && (e0 == 0))) = false := by
    have h2 := H2.out
    unfold twoC at h2
    rw [HKX.out, HKY.out] at h2
    cases k1 with
    | none => rfl
    | some p =>
      cases k2 with
      | none => rfl
      | some q =>
        dsimp only at h2
        rw [show dyadF o.fn p q = (m, e0) from hd] at h2
        show (e0 == 0) = false
        rw [beq_eq_false_iff_ne]
        intro h
        rw [if_pos h] at h2
        cases h2
  have HTT := Lib.hid htt
  clear hd hi1 hi2 htt
  go_wp2_with fail
  refine HQ.out.mono ?_
  rintro e W3 ⟨rfl, nd, rfl⟩
  have HO := Lib.hid (HO.out.next (Below.drewN W2 nd))
  clear HQ x4
  obtain ⟨W4, hW4⟩ : ∃ W, W2.drewN nd = W := ⟨_, rfl⟩
  rw [hW4] at HO ⊢
  clear hW4
  go_upto_region 4 with fail
  go_cut [38] (fun s38 wx => s38 = .bool false ∧ OpBox w wx w.heap.size o (.slice pa o.p.length pc))
  case first =>
    obtain ⟨b3, hb3⟩ : ∃ b, (e0 == 0) = b := ⟨_, rfl⟩
    have htt := HTT.out
    rw [HB1.out, HB2.out, hb3] at htt
    cases b1 with
    | false => (clear htt hb3); (go_wp2_with fail); (go_meet); (exact ⟨rfl, HO.out⟩)
    | true =>
      cases b2 with
      | false => (clear htt hb3); (go_wp2_with fail); (go_meet); (exact ⟨rfl, HO.out⟩)
      | true =>
        cases b3 with
        | false => (clear htt); (go_wp2_with fail); (go_meet); (exact ⟨rfl, HO.out⟩)
        | true => cases htt
  case rest =>
    obtain ⟨rfl, hcut⟩ := hcut
    clear HO
    have HO := Lib.hid hcut
    clear hcut
    have x4 := HO.out.c4
    rw [HF.out] at x4
    have HG1 := Lib.hid g1; have HG2 := Lib.hid g2
    clear g1 g2
    have hq := ris_any wc a c x 0 (HX.out.below HO.out.b).els hmx
    rw [HG1.out] at hq
    have HQ := Lib.hid hq
    clear hq
    go_wp2_with fail
    refine HQ.out.mono ?_
    rintro e U1 ⟨rfl, hb⟩
    have HO := Lib.hid (HO.out.next hb)
    clear hb HQ
    have hq := ris_any U1 a2 c2 y 0 (HY.out.below HO.out.b).els hmy
    rw [HG2.out] at hq
    have HQ := Lib.hid hq
    clear hq
    go_wp2_with fail
    refine HQ.out.mono ?_
    rintro e U2 ⟨rfl, hb⟩
    have HO := Lib.hid (HO.out.next hb)
    clear hb HQ
    go_wp2_with fail
    go_ret
    exact ⟨⟨_, rfl, HX.out.below HO.out.b⟩, HO.out.b⟩
set_option maxHeartbeats 4000000 in
theorem rdyad13_1j (w : World) (B : Bd) (hB : B ≤ w.heap.size) (a a2 : Option Addr) (c c2 : Nat) (x y : List Cop) (hx : CopS B w (.slice a x.length c) x) (hy : CopS B w (.slice a2 y.length c2) y) (hl : x.length + y.length + 1 ≤ 2513169434843) (o : Cop) (pa : Option Addr) (pc : Nat) (hp : MonS B w (.slice pa o.p.length pc) o.p) (ho : OkO o) (hf : o.fn = 1) (g1 : onlyC x 0 = false) (g2 : onlyC y 0 = false) (h2 : twoC o.fn x y = none) :
    Calls Try.prog 63 #[.slice a x.length c, .slice a2 y.length c2, opV o pa pc] w (RetC B w (dyadC x y o)) := by
  rw [dyadC_j h2 (by unfold ruleY; rw [hf]; simp [*]) (by unfold ruleX; rw [hf]; simp [*]) (by unfold ruleZ; rw [hf]; simp [*])]
  have H2 := Lib.hid h2
  have HF := Lib.hid hf
  clear h2 hf
  obtain ⟨k1, hk1⟩ : ∃ k, knownC x = k := ⟨_, rfl⟩
  obtain ⟨k2, hk2⟩ : ∃ k, knownC y = k := ⟨_, rfl⟩
  have HKX := Lib.hid hk1; have HKY := Lib.hid hk2
  have hi1 := fun n (h : k1 = some n) => known_in hx (hk1.trans h); have hi2 := fun n (h : k2 = some n) => known_in hy (hk2.trans h)
  have HI1 := Lib.hid hi1; have HI2 := Lib.hid hi2
  clear hi1 hi2 hk1 hk2
  obtain ⟨b1, hb1⟩ : ∃ b, k1.isSome = b := ⟨_, rfl⟩
  obtain ⟨b2, hb2⟩ : ∃ b, k2.isSome = b := ⟨_, rfl⟩
  have HB1 := Lib.hid hb1; have HB2 := Lib.hid hb2
  clear hb1 hb2
  have HX := Lib.hid hx; have HY := Lib.hid hy; have HP := Lib.hid hp; have OKO := Lib.hid ho; have HB0 := Lib.hid hB; have HLL := Lib.hid hl
  have HO := Lib.hid (OpBox.new w o (.slice pa o.p.length pc))
  have hmx := hx.le; have hmy := hy.le
  unfold opV
  clear hx hy hp ho hB hl
  go_enter Try.func63, Try.ntmps63
  go_upto_region 1 with fail
  refine gen_worldA (fun W => OpBox w W w.heap.size o (.slice pa o.p.length pc)) HO.out ?_
  rintro W hO
  have HO := Lib.hid hO
  clear hO
  have HQ := Lib.hid (rnumber_any W a c x (HX.out.below HO.out.b).els hmx)
  rw [HKX.out, HB1.out] at HQ
  go_wp2_with fail
  refine HQ.out.mono ?_
  rintro e W1 ⟨rfl, hb⟩
  have HO := Lib.hid (HO.out.next hb)
  clear hb HQ
  have HQ := Lib.hid (rnumber_any W1 a2 c2 y (HY.out.below HO.out.b).els hmy)
  rw [HKY.out, HB2.out] at HQ
  go_wp2_with fail
  refine HQ.out.mono ?_
  rintro e W2 ⟨rfl, hb⟩
  have HO := Lib.hid (HO.out.next hb)
  clear hb HQ
  have x4 := HO.out.c4
  obtain ⟨m, e0, hd⟩ : ∃ m e0, dyadF o.fn (k1.getD 0) (k2.getD 0) = (m, e0) := ⟨_, _, rfl⟩
  have hi1 : In64 (k1.getD 0) := by cases k1 with | none => (unfold In64; decide) | some p => exact HI1.out p rfl
  have hi2 : In64 (k2.getD 0) := by cases k2 with | none => (unfold In64; decide) | some p => exact HI2.out p rfl
  have HQ := Lib.hid (rdyad_at W2 o.fn (k1.getD 0) (k2.getD 0) m e0 hi1 hi2 hd)
  have htt : (k1.isSome && (k2.isSome && (e0 == 0))) = false := by
    have h2 := H2.out
    unfold twoC at h2
    rw [HKX.out, HKY.out] at h2
    cases k1 with
    | none => rfl
    | some p =>
      cases k2 with
      | none => rfl
      | some q =>
        dsimp only at h2
        rw [show dyadF o.fn p q = (m, e0) from hd] at h2
        show (e0 == 0) = false
        rw [beq_eq_false_iff_ne]
        intro h
        rw [if_pos h] at h2
        cases h2
  have HTT := Lib.hid htt
  clear hd hi1 hi2 htt
  go_wp2_with fail
  refine HQ.out.mono ?_
  rintro e W3 ⟨rfl, nd, rfl⟩
  have HO := Lib.hid (HO.out.next (Below.drewN W2 nd))
  clear HQ x4
  obtain ⟨W4, hW4⟩ : ∃ W, W2.drewN nd = W := ⟨_, rfl⟩
  rw [hW4] at HO ⊢
  clear hW4
  go_upto_region 4 with fail
  go_cut [38] (fun s38 wx => s38 = .bool false ∧ OpBox w wx w.heap.size o (.slice pa o.p.length pc))
  case first =>
    obtain ⟨b3, hb3⟩ : ∃ b, (e0 == 0) = b := ⟨_, rfl⟩
    have htt := HTT.out
    rw [HB1.out, HB2.out, hb3] at htt
    cases b1 with
    | false => (clear htt hb3); (go_wp2_with fail); (go_meet); (exact ⟨rfl, HO.out⟩)
    | true =>
      cases b2 with
      | false => (clear htt hb3); (go_wp2_with fail); (go_meet); (exact ⟨rfl, HO.out⟩)
      | true =>
        cases b3 with
        | false => (clear htt); (go_wp2_with fail); (go_meet); (exact ⟨rfl, HO.out⟩)
        | true => cases htt
  case rest =>
    obtain ⟨rfl, hcut⟩ := hcut
    clear HO
    have HO := Lib.hid hcut
    clear hcut
    have x4 := HO.out.c4
    rw [HF.out] at x4
    have HG1 := Lib.hid g1; have HG2 := Lib.hid g2
    clear g1 g2
    have hq := ris_any wc a c x 0 (HX.out.below HO.out.b).els hmx
    rw [HG1.out] at hq
    have HQ := Lib.hid hq
    clear hq
    go_wp2_with fail
    refine HQ.out.mono ?_
    rintro e U1 ⟨rfl, hb⟩
    have HO := Lib.hid (HO.out.next hb)
    clear hb HQ
    have hq := ris_any U1 a2 c2 y 0 (HY.out.below HO.out.b).els hmy
    rw [HG2.out] at hq
    have HQ := Lib.hid hq
    clear hq
    go_wp2_with fail
    refine HQ.out.mono ?_
    rintro e U2 ⟨rfl, hb⟩
    have HO := Lib.hid (HO.out.next hb)
    clear hb HQ
    go_upto_region 26 with fail
    refine wp_region_Z (S := fun W' => W'.cell? ⟨w.heap.size, 0, none⟩ = some (.int .i64 o.how) ∧ W'.cell? ⟨w.heap.size, 1, none⟩ = some (.int .i64 o.k) ∧ W'.cell? ⟨w.heap.size, 2, none⟩ = some (.int .i64 o.n) ∧ W'.cell? ⟨w.heap.size, 3, none⟩ = some (.slice pa o.p.length pc) ∧ W'.cell? ⟨w.heap.size, 4, none⟩ = some (.int .u8 o.fn)) (z := 7) (by kernel_rfl) ?_
    have HO := Lib.hid (HO.out.next (show Below U2.heap.size U2 U2.drew from (Below.refl _ _).drew))
    generalize U2.drew = Y at HO ⊢
    have hSS : (fun W' : World => W'.cell? ⟨w.heap.size, 0, none⟩ = some (.int .i64 o.how) ∧ W'.cell? ⟨w.heap.size, 1, none⟩ = some (.int .i64 o.k) ∧ W'.cell? ⟨w.heap.size, 2, none⟩ = some (.int .i64 o.n) ∧ W'.cell? ⟨w.heap.size, 3, none⟩ = some (.slice pa o.p.length pc) ∧ W'.cell? ⟨w.heap.size, 4, none⟩ = some (.int .u8 o.fn)) Y := ⟨HO.out.c0, HO.out.c1, HO.out.c2, HO.out.c3, HO.out.c4⟩
    refine wpAnyZ_take (i := 1) (v := ?_) rfl (by kernel_rfl) (by kernel_rfl) (by kernel_rfl) (fun _ _ _ h => h) (by kernel_rfl) (Or.inl ⟨by rfl, ?_⟩) (by assumption) ?_
    rotate_left
    · intro w' hSw
      try dsimp only at hSw
      try obtain ⟨hSw, hSw2⟩ := hSw
      go_simp
      try with_reducible rfl
    show wpAnyZ _ _ _ _ _ _ _ _ (Act.put _ (some 86) _) _
    simp only [Act.put, List.setIfInBounds_toArray, List.set_cons_zero, List.set_cons_succ]
    refine wpAnyZ_take (i := 3) (v := ?_) rfl (by kernel_rfl) (by kernel_rfl) (by kernel_rfl) (fun _ _ _ h => h) (by kernel_rfl) (Or.inl ⟨by rfl, ?_⟩) (by assumption) ?_
    rotate_left
    · intro w' hSw
      try dsimp only at hSw
      try obtain ⟨hSw, hSw2⟩ := hSw
      go_simp
      try with_reducible rfl
    show wpAnyZ _ _ _ _ _ _ _ _ (Act.put _ (some 88) _) _
    simp only [Act.put, List.setIfInBounds_toArray, List.set_cons_zero, List.set_cons_succ]
    refine wpAnyZ_take (i := 5) (v := ?_) rfl (by kernel_rfl) (by kernel_rfl) (by kernel_rfl) (fun _ _ _ h => h) (by kernel_rfl) (Or.inl ⟨by rfl, ?_⟩) (by assumption) ?_
    rotate_left
    · intro w' hSw
      try dsimp only at hSw
      try obtain ⟨hSw, hSw2⟩ := hSw
      go_simp
      try with_reducible rfl
    show wpAnyZ _ _ _ _ _ _ _ _ (Act.put _ (some 90) _) _
    simp only [Act.put, List.setIfInBounds_toArray, List.set_cons_zero, List.set_cons_succ]
    clear hSS
    obtain ⟨M, hM⟩ : ∃ M, Y.heap.size = M := ⟨_, rfl⟩
    have HMM := Lib.hid hM
    have HB := Lib.hid (show Below M Y Y from Below.refl _ _)
    have HBM := Lib.hid (show B ≤ M by rw [← hM]; exact Nat.le_trans HB0.out HO.out.b.size)
    clear hM
    refine wpAnyZ_one (i := 0) (by kernel_rfl) rfl rfl (fun K hK => ?_)
    go_simp
    obtain ⟨g0, hg0⟩ : ∃ b, Y.heap.size = b := ⟨_, rfl⟩
    have E0 := Lib.hid (RowC.new (B := B) (M := M) (by have := HB.out.size; have h2 := HMM.out; omega) hg0)
    have HB := Lib.hid (HB.out.alloc (by have := HB.out.size; have h2 := HMM.out; omega) (.cells #[] 44))
    rw [hg0]
    refine hK.out _ _ (.inr (by have h := HO.out.next (HMM.out ▸ HB.out); exact ⟨h.c0, h.c1, h.c2, h.c3, h.c4⟩)) ?_
    clear hK hg0
    generalize Y.alloc (.cells #[] 44) = Y1 at *
    refine wpAnyZ_one (i := 2) (by kernel_rfl) rfl rfl (fun K hK => ?_)
    refine wp_appC (.tmp 85) (.tmp 86) rfl B M (.slice (some ⟨g0, 0, none⟩) 0 0) [] x (.slice a x.length c) rfl E0.out rfl (HX.out.below (bNext (HMM.out ▸ HB.out) HO.out.b)) (by have := HLL.out; simp; omega) HBM.out (by have := HB.out.size; have h2 := HMM.out; omega) ?_
    intro v2 Y2 hr hb hg
    have R2 := Lib.hid (show RowC B M _ v2 x from hr)
    have HB := Lib.hid (HB.out.trans hb)
    refine hK.out _ _ (.inr (by have h := HO.out.next (HMM.out ▸ HB.out); exact ⟨h.c0, h.c1, h.c2, h.c3, h.c4⟩)) ?_
    clear hK hr hb hg E0
    refine wpAnyZ_one (i := 4) (by kernel_rfl) rfl rfl (fun K hK => ?_)
    refine wp_appC (.tmp 87) (.tmp 88) rfl B M v2 x y (.slice a2 y.length c2) rfl R2.out rfl (HY.out.below (bNext (HMM.out ▸ HB.out) HO.out.b)) (by have := HLL.out; omega) HBM.out (by have := HB.out.size; have h2 := HMM.out; omega) ?_
    intro v3 Y3 hr hb hg
    have R3 := Lib.hid (hr.cop (Bd.low HBM.out))
    have HB := Lib.hid (HB.out.trans hb)
    refine hK.out _ _ (.inr (by have h := HO.out.next (HMM.out ▸ HB.out); exact ⟨h.c0, h.c1, h.c2, h.c3, h.c4⟩)) ?_
    clear hK hr hb hg R2
    obtain ⟨a3, c3, rfl, -, -⟩ := R3.out.form
    have HO3 := Lib.hid (HO.out.next (HMM.out ▸ HB.out))
    have hq := behind_any Y3 B (Nat.le_trans HB0.out HO3.out.b.size) a3 c3 (x ++ y) R3.out (by have := HLL.out; rw [List.length_append]; omega) o pa pc (HP.out.below HO3.out.b) OKO.out
    unfold opV at hq
    refine wpAnyZ_one (i := 6) (by kernel_rfl) rfl rfl (fun K hK => ?_)
    go_simp
    first | refine hq.mono ?_ | (rw [List.length_append] at hq; refine hq.mono ?_)
    rintro e' Y4 ⟨⟨v4, rfl, hv4⟩, hb4⟩
    have HO4 := HO3.out.next hb4
    show K _ Y4
    refine hK.out _ _ (.inr ⟨HO4.c0, HO4.c1, HO4.c2, HO4.c3, HO4.c4⟩) ?_
    clear hK
    refine wpAnyZ_one (i := 7) (by kernel_rfl) rfl rfl (fun K hK => ?_)
    go_simp
    refine hK.out _ _ (.inl (by omega)) ?_
    clear hK
    refine wpAnyZ_done (by kernel_rfl) ?_ _
    go_wp2_with fail
    go_ret
    exact ⟨⟨_, rfl, hv4⟩, HO4.b⟩
set_option maxHeartbeats 4000000 in
theorem rdyad13_2x (w : World) (B : Bd) (hB : B ≤ w.heap.size) (a a2 : Option Addr) (c c2 : Nat) (x y : List Cop) (hx : CopS B w (.slice a x.length c) x) (hy : CopS B w (.slice a2 y.length c2) y) (hl : x.length + y.length + 1 ≤ 2513169434843) (o : Cop) (pa : Option Addr) (pc : Nat) (hp : MonS B w (.slice pa o.p.length pc) o.p) (ho : OkO o) (hf : o.fn = 2) (g2 : onlyC y 0 = true) (h2 : twoC o.fn x y = none) :
    Calls Try.prog 63 #[.slice a x.length c, .slice a2 y.length c2, opV o pa pc] w (RetC B w (dyadC x y o)) := by
  rw [dyadC_x h2 (by unfold ruleY; rw [hf]; simp [*]) (by unfold ruleX; rw [hf]; simp [*])]
  have H2 := Lib.hid h2
  have HF := Lib.hid hf
  clear h2 hf
  obtain ⟨k1, hk1⟩ : ∃ k, knownC x = k := ⟨_, rfl⟩
  obtain ⟨k2, hk2⟩ : ∃ k, knownC y = k := ⟨_, rfl⟩
  have HKX := Lib.hid hk1; have HKY := Lib.hid hk2
  have hi1 := fun n (h : k1 = some n) => known_in hx (hk1.trans h); have hi2 := fun n (h : k2 = some n) => known_in hy (hk2.trans h)
  have HI1 := Lib.hid hi1; have HI2 := Lib.hid hi2
  clear hi1 hi2 hk1 hk2
  obtain ⟨b1, hb1⟩ : ∃ b, k1.isSome = b := ⟨_, rfl⟩
  obtain ⟨b2, hb2⟩ : ∃ b, k2.isSome = b := ⟨_, rfl⟩
  have HB1 := Lib.hid hb1; have HB2 := Lib.hid hb2
  clear hb1 hb2
  have HX := Lib.hid hx; have HY := Lib.hid hy; have HP := Lib.hid hp; have OKO := Lib.hid ho; have HB0 := Lib.hid hB; have HLL := Lib.hid hl
  have HO := Lib.hid (OpBox.new w o (.slice pa o.p.length pc))
  have hmx := hx.le; have hmy := hy.le
  unfold opV
  clear hx hy hp ho hB hl
  go_enter Try.func63, Try.ntmps63
  go_upto_region 1 with fail
  refine gen_worldA (fun W => OpBox w W w.heap.size o (.slice pa o.p.length pc)) HO.out ?_
  rintro W hO
  have HO := Lib.hid hO
  clear hO
  have HQ := Lib.hid (rnumber_any W a c x (HX.out.below HO.out.b).els hmx)
  rw [HKX.out, HB1.out] at HQ
  go_wp2_with fail
  refine HQ.out.mono ?_
  rintro e W1 ⟨rfl, hb⟩
  have HO := Lib.hid (HO.out.next hb)
  clear hb HQ
  have HQ := Lib.hid (rnumber_any W1 a2 c2 y (HY.out.below HO.out.b).els hmy)
  rw [HKY.out, HB2.out] at HQ
  go_wp2_with fail
  refine HQ.out.mono ?_
  rintro e W2 ⟨rfl, hb⟩
  have HO := Lib.hid (HO.out.next hb)
  clear hb HQ
  have x4 := HO.out.c4
  obtain ⟨m, e0, hd⟩ : ∃ m e0, dyadF o.fn (k1.getD 0) (k2.getD 0) = (m, e0) := ⟨_, _, rfl⟩
  have hi1 : In64 (k1.getD 0) := by cases k1 with | none => (unfold In64; decide) | some p => exact HI1.out p rfl
  have hi2 : In64 (k2.getD 0) := by cases k2 with | none => (unfold In64; decide) | some p => exact HI2.out p rfl
  have HQ := Lib.hid (rdyad_at W2 o.fn (k1.getD 0) (k2.getD 0) m e0 hi1 hi2 hd)
  have htt : (k1.isSome && (k2.isSome && (e0 == 0))) = false := by
    have h2 := H2.out
    unfold twoC at h2
    rw [HKX.out, HKY.out] at h2
    cases k1 with
    | none => rfl
    | some p =>
      cases k2 with
      | none => rfl
      | some q =>
        dsimp only at h2
        rw [show dyadF o.fn p q = (m, e0) from hd] at h2
        show (e0 == 0) = false
        rw [beq_eq_false_iff_ne]
        intro h
        rw [if_pos h] at h2
        cases h2
  have HTT := Lib.hid htt
  clear hd hi1 hi2 htt
  go_wp2_with fail
  refine HQ.out.mono ?_
  rintro e W3 ⟨rfl, nd, rfl⟩
  have HO := Lib.hid (HO.out.next (Below.drewN W2 nd))
  clear HQ x4
  obtain ⟨W4, hW4⟩ : ∃ W, W2.drewN nd = W := ⟨_, rfl⟩
  rw [hW4] at HO ⊢
  clear hW4
  go_upto_region 4 with fail
  go_cut [38] (fun s38 wx => s38 = .bool false ∧ OpBox w wx w.heap.size o (.slice pa o.p.length pc))
  case first =>
    obtain ⟨b3, hb3⟩ : ∃ b, (e0 == 0) = b := ⟨_, rfl⟩
    have htt := HTT.out
    rw [HB1.out, HB2.out, hb3] at htt
    cases b1 with
    | false => (clear htt hb3); (go_wp2_with fail); (go_meet); (exact ⟨rfl, HO.out⟩)
    | true =>
      cases b2 with
      | false => (clear htt hb3); (go_wp2_with fail); (go_meet); (exact ⟨rfl, HO.out⟩)
      | true =>
        cases b3 with
        | false => (clear htt); (go_wp2_with fail); (go_meet); (exact ⟨rfl, HO.out⟩)
        | true => cases htt
  case rest =>
    obtain ⟨rfl, hcut⟩ := hcut
    clear HO
    have HO := Lib.hid hcut
    clear hcut
    have x4 := HO.out.c4
    rw [HF.out] at x4
    have HG2 := Lib.hid g2
    clear g2
    have hq := ris_any wc a2 c2 y 0 (HY.out.below HO.out.b).els hmy
    rw [HG2.out] at hq
    have HQ := Lib.hid hq
    clear hq
    go_wp2_with fail
    refine HQ.out.mono ?_
    rintro e U2 ⟨rfl, hb⟩
    have HO := Lib.hid (HO.out.next hb)
    clear hb HQ
    go_wp2_with fail
    go_ret
    exact ⟨⟨_, rfl, HX.out.below HO.out.b⟩, HO.out.b⟩
set_option maxHeartbeats 4000000 in
theorem rdyad13_2j (w : World) (B : Bd) (hB : B ≤ w.heap.size) (a a2 : Option Addr) (c c2 : Nat) (x y : List Cop) (hx : CopS B w (.slice a x.length c) x) (hy : CopS B w (.slice a2 y.length c2) y) (hl : x.length + y.length + 1 ≤ 2513169434843) (o : Cop) (pa : Option Addr) (pc : Nat) (hp : MonS B w (.slice pa o.p.length pc) o.p) (ho : OkO o) (hf : o.fn = 2) (g2 : onlyC y 0 = false) (h2 : twoC o.fn x y = none) :
    Calls Try.prog 63 #[.slice a x.length c, .slice a2 y.length c2, opV o pa pc] w (RetC B w (dyadC x y o)) := by
  rw [dyadC_j h2 (by unfold ruleY; rw [hf]; simp [*]) (by unfold ruleX; rw [hf]; simp [*]) (by unfold ruleZ; rw [hf]; simp [*])]
  have H2 := Lib.hid h2
  have HF := Lib.hid hf
  clear h2 hf
  obtain ⟨k1, hk1⟩ : ∃ k, knownC x = k := ⟨_, rfl⟩
  obtain ⟨k2, hk2⟩ : ∃ k, knownC y = k := ⟨_, rfl⟩
  have HKX := Lib.hid hk1; have HKY := Lib.hid hk2
  have hi1 := fun n (h : k1 = some n) => known_in hx (hk1.trans h); have hi2 := fun n (h : k2 = some n) => known_in hy (hk2.trans h)
  have HI1 := Lib.hid hi1; have HI2 := Lib.hid hi2
  clear hi1 hi2 hk1 hk2
  obtain ⟨b1, hb1⟩ : ∃ b, k1.isSome = b := ⟨_, rfl⟩
  obtain ⟨b2, hb2⟩ : ∃ b, k2.isSome = b := ⟨_, rfl⟩
  have HB1 := Lib.hid hb1; have HB2 := Lib.hid hb2
  clear hb1 hb2
  have HX := Lib.hid hx; have HY := Lib.hid hy; have HP := Lib.hid hp; have OKO := Lib.hid ho; have HB0 := Lib.hid hB; have HLL := Lib.hid hl
  have HO := Lib.hid (OpBox.new w o (.slice pa o.p.length pc))
  have hmx := hx.le; have hmy := hy.le
  unfold opV
  clear hx hy hp ho hB hl
  go_enter Try.func63, Try.ntmps63
  go_upto_region 1 with fail
  refine gen_worldA (fun W => OpBox w W w.heap.size o (.slice pa o.p.length pc)) HO.out ?_
  rintro W hO
  have HO := Lib.hid hO
  clear hO
  have HQ := Lib.hid (rnumber_any W a c x (HX.out.below HO.out.b).els hmx)
  rw [HKX.out, HB1.out] at HQ
  go_wp2_with fail
  refine HQ.out.mono ?_
  rintro e W1 ⟨rfl, hb⟩
  have HO := Lib.hid (HO.out.next hb)
  clear hb HQ
  have HQ := Lib.hid (rnumber_any W1 a2 c2 y (HY.out.below HO.out.b).els hmy)
  rw [HKY.out, HB2.out] at HQ
  go_wp2_with fail
  refine HQ.out.mono ?_
  rintro e W2 ⟨rfl, hb⟩
  have HO := Lib.hid (HO.out.next hb)
  clear hb HQ
  have x4 := HO.out.c4
  obtain ⟨m, e0, hd⟩ : ∃ m e0, dyadF o.fn (k1.getD 0) (k2.getD 0) = (m, e0) := ⟨_, _, rfl⟩
  have hi1 : In64 (k1.getD 0) := by cases k1 with | none => (unfold In64; decide) | some p => exact HI1.out p rfl
  have hi2 : In64 (k2.getD 0) := by cases k2 with | none => (unfold In64; decide) | some p => exact HI2.out p rfl
  have HQ := Lib.hid (rdyad_at W2 o.fn (k1.getD 0) (k2.getD 0) m e0 hi1 hi2 hd)
  have htt : (k1.isSome && (k2.isSome && (e0 == 0))) = false := by
    have h2 := H2.out
    unfold twoC at h2
    rw [HKX.out, HKY.out] at h2
    cases k1 with
    | none => rfl
    | some p =>
      cases k2 with
      | none => rfl
      | some q =>
        dsimp only at h2
        rw [show dyadF o.fn p q = (m, e0) from hd] at h2
        show (e0 == 0) = false
        rw [beq_eq_false_iff_ne]
        intro h
        rw [if_pos h] at h2
        cases h2
  have HTT := Lib.hid htt
  clear hd hi1 hi2 htt
  go_wp2_with fail
  refine HQ.out.mono ?_
  rintro e W3 ⟨rfl, nd, rfl⟩
  have HO := Lib.hid (HO.out.next (Below.drewN W2 nd))
  clear HQ x4
  obtain ⟨W4, hW4⟩ : ∃ W, W2.drewN nd = W := ⟨_, rfl⟩
  rw [hW4] at HO ⊢
  clear hW4
  go_upto_region 4 with fail
  go_cut [38] (fun s38 wx => s38 = .bool false ∧ OpBox w wx w.heap.size o (.slice pa o.p.length pc))
  case first =>
    obtain ⟨b3, hb3⟩ : ∃ b, (e0 == 0) = b := ⟨_, rfl⟩
    have htt := HTT.out
    rw [HB1.out, HB2.out, hb3] at htt
    cases b1 with
    | false => (clear htt hb3); (go_wp2_with fail); (go_meet); (exact ⟨rfl, HO.out⟩)
    | true =>
      cases b2 with
      | false => (clear htt hb3); (go_wp2_with fail); (go_meet); (exact ⟨rfl, HO.out⟩)
      | true =>
        cases b3 with
        | false => (clear htt); (go_wp2_with fail); (go_meet); (exact ⟨rfl, HO.out⟩)
        | true => cases htt
  case rest =>
    obtain ⟨rfl, hcut⟩ := hcut
    clear HO
    have HO := Lib.hid hcut
    clear hcut
    have x4 := HO.out.c4
    rw [HF.out] at x4
    have HG2 := Lib.hid g2
    clear g2
    have hq := ris_any wc a2 c2 y 0 (HY.out.below HO.out.b).els hmy
    rw [HG2.out] at hq
    have HQ := Lib.hid hq
    clear hq
    go_wp2_with fail
    refine HQ.out.mono ?_
    rintro e U2 ⟨rfl, hb⟩
    have HO := Lib.hid (HO.out.next hb)
    clear hb HQ
    go_upto_region 26 with fail
    refine wp_region_Z (S := fun W' => W'.cell? ⟨w.heap.size, 0, none⟩ = some (.int .i64 o.how) ∧ W'.cell? ⟨w.heap.size, 1, none⟩ = some (.int .i64 o.k) ∧ W'.cell? ⟨w.heap.size, 2, none⟩ = some (.int .i64 o.n) ∧ W'.cell? ⟨w.heap.size, 3, none⟩ = some (.slice pa o.p.length pc) ∧ W'.cell? ⟨w.heap.size, 4, none⟩ = some (.int .u8 o.fn)) (z := 7) (by kernel_rfl) ?_
    have HO := Lib.hid (HO.out.next (show Below U2.heap.size U2 U2.drew from (Below.refl _ _).drew))
    generalize U2.drew = Y at HO ⊢
    have hSS : (fun W' : World => W'.cell? ⟨w.heap.size, 0, none⟩ = some (.int .i64 o.how) ∧ W'.cell? ⟨w.heap.size, 1, none⟩ = some (.int .i64 o.k) ∧ W'.cell? ⟨w.heap.size, 2, none⟩ = some (.int .i64 o.n) ∧ W'.cell? ⟨w.heap.size, 3, none⟩ = some (.slice pa o.p.length pc) ∧ W'.cell? ⟨w.heap.size, 4, none⟩ = some (.int .u8 o.fn)) Y := ⟨HO.out.c0, HO.out.c1, HO.out.c2, HO.out.c3, HO.out.c4⟩
    refine wpAnyZ_take (i := 1) (v := ?_) rfl (by kernel_rfl) (by kernel_rfl) (by kernel_rfl) (fun _ _ _ h => h) (by kernel_rfl) (Or.inl ⟨by rfl, ?_⟩) (by assumption) ?_
    rotate_left
    · intro w' hSw
      try dsimp only at hSw
      try obtain ⟨hSw, hSw2⟩ := hSw
      go_simp
      try with_reducible rfl
    show wpAnyZ _ _ _ _ _ _ _ _ (Act.put _ (some 86) _) _
    simp only [Act.put, List.setIfInBounds_toArray, List.set_cons_zero, List.set_cons_succ]
    refine wpAnyZ_take (i := 3) (v := ?_) rfl (by kernel_rfl) (by kernel_rfl) (by kernel_rfl) (fun _ _ _ h => h) (by kernel_rfl) (Or.inl ⟨by rfl, ?_⟩) (by assumption) ?_
    rotate_left
    · intro w' hSw
      try dsimp only at hSw
      try obtain ⟨hSw, hSw2⟩ := hSw
      go_simp
      try with_reducible rfl
    show wpAnyZ _ _ _ _ _ _ _ _ (Act.put _ (some 88) _) _
    simp only [Act.put, List.setIfInBounds_toArray, List.set_cons_zero, List.set_cons_succ]
    refine wpAnyZ_take (i := 5) (v := ?_) rfl (by kernel_rfl) (by kernel_rfl) (by kernel_rfl) (fun _ _ _ h => h) (by kernel_rfl) (Or.inl ⟨by rfl, ?_⟩) (by assumption) ?_
    rotate_left
    · intro w' hSw
      try dsimp only at hSw
      try obtain ⟨hSw, hSw2⟩ := hSw
      go_simp
      try with_reducible rfl
    show wpAnyZ _ _ _ _ _ _ _ _ (Act.put _ (some 90) _) _
    simp only [Act.put, List.setIfInBounds_toArray, List.set_cons_zero, List.set_cons_succ]
    clear hSS
    obtain ⟨M, hM⟩ : ∃ M, Y.heap.size = M := ⟨_, rfl⟩
    have HMM := Lib.hid hM
    have HB := Lib.hid (show Below M Y Y from Below.refl _ _)
    have HBM := Lib.hid (show B ≤ M by rw [← hM]; exact Nat.le_trans HB0.out HO.out.b.size)
    clear hM
    refine wpAnyZ_one (i := 0) (by kernel_rfl) rfl rfl (fun K hK => ?_)
    go_simp
    obtain ⟨g0, hg0⟩ : ∃ b, Y.heap.size = b := ⟨_, rfl⟩
    have E0 := Lib.hid (RowC.new (B := B) (M := M) (by have := HB.out.size; have h2 := HMM.out; omega) hg0)
    have HB := Lib.hid (HB.out.alloc (by have := HB.out.size; have h2 := HMM.out; omega) (.cells #[] 44))
    rw [hg0]
    refine hK.out _ _ (.inr (by have h := HO.out.next (HMM.out ▸ HB.out); exact ⟨h.c0, h.c1, h.c2, h.c3, h.c4⟩)) ?_
    clear hK hg0
    generalize Y.alloc (.cells #[] 44) = Y1 at *
    refine wpAnyZ_one (i := 2) (by kernel_rfl) rfl rfl (fun K hK => ?_)
    refine wp_appC (.tmp 85) (.tmp 86) rfl B M (.slice (some ⟨g0, 0, none⟩) 0 0) [] x (.slice a x.length c) rfl E0.out rfl (HX.out.below (bNext (HMM.out ▸ HB.out) HO.out.b)) (by have := HLL.out; simp; omega) HBM.out (by have := HB.out.size; have h2 := HMM.out; omega) ?_
    intro v2 Y2 hr hb hg
    have R2 := Lib.hid (show RowC B M _ v2 x from hr)
    have HB := Lib.hid (HB.out.trans hb)
    refine hK.out _ _ (.inr (by have h := HO.out.next (HMM.out ▸ HB.out); exact ⟨h.c0, h.c1, h.c2, h.c3, h.c4⟩)) ?_
    clear hK hr hb hg E0
    refine wpAnyZ_one (i := 4) (by kernel_rfl) rfl rfl (fun K hK => ?_)
    refine wp_appC (.tmp 87) (.tmp 88) rfl B M v2 x y (.slice a2 y.length c2) rfl R2.out rfl (HY.out.below (bNext (HMM.out ▸ HB.out) HO.out.b)) (by have := HLL.out; omega) HBM.out (by have := HB.out.size; have h2 := HMM.out; omega) ?_
    intro v3 Y3 hr hb hg
    have R3 := Lib.hid (hr.cop (Bd.low HBM.out))
    have HB := Lib.hid (HB.out.trans hb)
    refine hK.out _ _ (.inr (by have h := HO.out.next (HMM.out ▸ HB.out); exact ⟨h.c0, h.c1, h.c2, h.c3, h.c4⟩)) ?_
    clear hK hr hb hg R2
    obtain ⟨a3, c3, rfl, -, -⟩ := R3.out.form
    have HO3 := Lib.hid (HO.out.next (HMM.out ▸ HB.out))
    have hq := behind_any Y3 B (Nat.le_trans HB0.out HO3.out.b.size) a3 c3 (x ++ y) R3.out (by have := HLL.out; rw [List.length_append]; omega) o pa pc (HP.out.below HO3.out.b) OKO.out
    unfold opV at hq
    refine wpAnyZ_one (i := 6) (by kernel_rfl) rfl rfl (fun K hK => ?_)
    go_simp
    first | refine hq.mono ?_ | (rw [List.length_append] at hq; refine hq.mono ?_)
    rintro e' Y4 ⟨⟨v4, rfl, hv4⟩, hb4⟩
    have HO4 := HO3.out.next hb4
    show K _ Y4
    refine hK.out _ _ (.inr ⟨HO4.c0, HO4.c1, HO4.c2, HO4.c3, HO4.c4⟩) ?_
    clear hK
    refine wpAnyZ_one (i := 7) (by kernel_rfl) rfl rfl (fun K hK => ?_)
    go_simp
    refine hK.out _ _ (.inl (by omega)) ?_
    clear hK
    refine wpAnyZ_done (by kernel_rfl) ?_ _
    go_wp2_with fail
    go_ret
    exact ⟨⟨_, rfl, hv4⟩, HO4.b⟩
end Go.Proofs.Ytmlfeocdcjhhaaa

namespace Go.Proofs.Ytmlfeocdcjhhaaa
set_option maxRecDepth 100000
open Go.RowKit
set_option linter.unusedVariables false
set_option linter.unusedSimpArgs false
attribute [local go_sem ↓] Go.wp_at_zero Go.wp_at_succ

/-! windrowref13.dyad. -/

set_option maxHeartbeats 4000000 in
theorem rdyad13_4x (w : World) (B : Bd) (hB : B ≤ w.heap.size) (a a2 : Option Addr) (c c2 : Nat) (x y : List Cop) (hx : CopS B w (.slice a x.length c) x) (hy : CopS B w (.slice a2 y.length c2) y) (hl : x.length + y.length + 1 ≤ 2513169434843) (o : Cop) (pa : Option Addr) (pc : Nat) (hp : MonS B w (.slice pa o.p.length pc) o.p) (ho : OkO o) (hf : o.fn = 4) (g2 : onlyC y 1 = true) (h2 : twoC o.fn x y = none) :
    Calls Try.prog 63 #[.slice a x.length c, .slice a2 y.length c2, opV o pa pc] w (RetC B w (dyadC x y o)) := by
  rw [dyadC_x h2 (by unfold ruleY; rw [hf]; simp [*]) (by unfold ruleX; rw [hf]; simp [*])]
  have H2 := Lib.hid h2
  have HF := Lib.hid hf
  clear h2 hf
  obtain ⟨k1, hk1⟩ : ∃ k, knownC x = k := ⟨_, rfl⟩
  obtain ⟨k2, hk2⟩ : ∃ k, knownC y = k := ⟨_, rfl⟩
  have HKX := Lib.hid hk1; have HKY := Lib.hid hk2
  have hi1 := fun n (h : k1 = some n) => known_in hx (hk1.trans h); have hi2 := fun n (h : k2 = some n) => known_in hy (hk2.trans h)
  have HI1 := Lib.hid hi1; have HI2 := Lib.hid hi2
  clear hi1 hi2 hk1 hk2
  obtain ⟨b1, hb1⟩ : ∃ b, k1.isSome = b := ⟨_, rfl⟩
  obtain ⟨b2, hb2⟩ : ∃ b, k2.isSome = b := ⟨_, rfl⟩
  have HB1 := Lib.hid hb1; have HB2 := Lib.hid hb2
  clear hb1 hb2
  have HX := Lib.hid hx; have HY := Lib.hid hy; have HP := Lib.hid hp; have OKO := Lib.hid ho; have HB0 := Lib.hid hB; have HLL := Lib.hid hl
  have HO := Lib.hid (OpBox.new w o (.slice pa o.p.length pc))
  have hmx := hx.le; have hmy := hy.le
  unfold opV
  clear hx hy hp ho hB hl
  go_enter Try.func63, Try.ntmps63
  go_upto_region 1 with fail
  refine gen_worldA (fun W => OpBox w W w.heap.size o (.slice pa o.p.length pc)) HO.out ?_
  rintro W hO
  have HO := Lib.hid hO
  clear hO
  have HQ := Lib.hid (rnumber_any W a c x (HX.out.below HO.out.b).els hmx)
  rw [HKX.out, HB1.out] at HQ
  go_wp2_with fail
  refine HQ.out.mono ?_
  rintro e W1 ⟨rfl, hb⟩
  have HO := Lib.hid (HO.out.next hb)
  clear hb HQ
  have HQ := Lib.hid (rnumber_any W1 a2 c2 y (HY.out.below HO.out.b).els hmy)
  rw [HKY.out, HB2.out] at HQ
  go_wp2_with fail
  refine HQ.out.mono ?_
  rintro e W2 ⟨rfl, hb⟩
  have HO := Lib.hid (HO.out.next hb)
  clear hb HQ
  have x4 := HO.out.c4
  obtain ⟨m, e0, hd⟩ : ∃ m e0, dyadF o.fn (k1.getD 0) (k2.getD 0) = (m, e0) := ⟨_, _, rfl⟩
  have hi1 : In64 (k1.getD 0) := by cases k1 with | none => (unfold In64; decide) | some p => exact HI1.out p rfl
  have hi2 : In64 (k2.getD 0) := by cases k2 with | none => (unfold In64; decide) | some p => exact HI2.out p rfl
  have HQ := Lib.hid (rdyad_at W2 o.fn (k1.getD 0) (k2.getD 0) m e0 hi1 hi2 hd)
  have htt : (k1.isSome && (k2.isSome && (e0 == 0))) = false := by
    have h2 := H2.out
    unfold twoC at h2
    rw [HKX.out, HKY.out] at h2
    cases k1 with
    | none => rfl
    | some p =>
      cases k2 with
      | none => rfl
      | some q =>
        dsimp only at h2
        rw [show dyadF o.fn p q = (m, e0) from hd] at h2
        show (e0 == 0) = false
        rw [beq_eq_false_iff_ne]
        intro h
        rw [if_pos h] at h2
        cases h2
  have HTT := Lib.hid htt
  clear hd hi1 hi2 htt
  go_wp2_with fail
  refine HQ.out.mono ?_
  rintro e W3 ⟨rfl, nd, rfl⟩
  have HO := Lib.hid (HO.out.next (Below.drewN W2 nd))
  clear HQ x4
  obtain ⟨W4, hW4⟩ : ∃ W, W2.drewN nd = W := ⟨_, rfl⟩
  rw [hW4] at HO ⊢
  clear hW4
  go_upto_region 4 with fail
  go_cut [38] (fun s38 wx => s38 = .bool false ∧ OpBox w wx w.heap.size o (.slice pa o.p.length pc))
  case first =>
    obtain ⟨b3, hb3⟩ : ∃ b, (e0 == 0) = b := ⟨_, rfl⟩
    have htt := HTT.out
    rw [HB1.out, HB2.out, hb3] at htt
    cases b1 with
    | false => (clear htt hb3); (go_wp2_with fail); (go_meet); (exact ⟨rfl, HO.out⟩)
    | true =>
      cases b2 with
      | false => (clear htt hb3); (go_wp2_with fail); (go_meet); (exact ⟨rfl, HO.out⟩)
      | true =>
        cases b3 with
        | false => (clear htt); (go_wp2_with fail); (go_meet); (exact ⟨rfl, HO.out⟩)
        | true => cases htt
  case rest =>
    obtain ⟨rfl, hcut⟩ := hcut
    clear HO
    have HO := Lib.hid hcut
    clear hcut
    have x4 := HO.out.c4
    rw [HF.out] at x4
    have HG2 := Lib.hid g2
    clear g2
    have hq := ris_any wc a2 c2 y 1 (HY.out.below HO.out.b).els hmy
    rw [HG2.out] at hq
    have HQ := Lib.hid hq
    clear hq
    go_wp2_with fail
    refine HQ.out.mono ?_
    rintro e U2 ⟨rfl, hb⟩
    have HO := Lib.hid (HO.out.next hb)
    clear hb HQ
    go_wp2_with fail
    go_ret
    exact ⟨⟨_, rfl, HX.out.below HO.out.b⟩, HO.out.b⟩
set_option maxHeartbeats 4000000 in
theorem rdyad13_4j (w : World) (B : Bd) (hB : B ≤ w.heap.size) (a a2 : Option Addr) (c c2 : Nat) (x y : List Cop) (hx : CopS B w (.slice a x.length c) x) (hy : CopS B w (.slice a2 y.length c2) y) (hl : x.length + y.length + 1 ≤ 2513169434843) (o : Cop) (pa : Option Addr) (pc : Nat) (hp : MonS B w (.slice pa o.p.length pc) o.p) (ho : OkO o) (hf : o.fn = 4) (g2 : onlyC y 1 = false) (h2 : twoC o.fn x y = none) :
    Calls Try.prog 63 #[.slice a x.length c, .slice a2 y.length c2, opV o pa pc] w (RetC B w (dyadC x y o)) := by
  rw [dyadC_j h2 (by unfold ruleY; rw [hf]; simp [*]) (by unfold ruleX; rw [hf]; simp [*]) (by unfold ruleZ; rw [hf]; simp [*])]
  have H2 := Lib.hid h2
  have HF := Lib.hid hf
  clear h2 hf
  obtain ⟨k1, hk1⟩ : ∃ k, knownC x = k := ⟨_, rfl⟩
  obtain ⟨k2, hk2⟩ : ∃ k, knownC y = k := ⟨_, rfl⟩
  have HKX := Lib.hid hk1; have HKY := Lib.hid hk2
  have hi1 := fun n (h : k1 = some n) => known_in hx (hk1.trans h); have hi2 := fun n (h : k2 = some n) => known_in hy (hk2.trans h)
  have HI1 := Lib.hid hi1; have HI2 := Lib.hid hi2
  clear hi1 hi2 hk1 hk2
  obtain ⟨b1, hb1⟩ : ∃ b, k1.isSome = b := ⟨_, rfl⟩
  obtain ⟨b2, hb2⟩ : ∃ b, k2.isSome = b := ⟨_, rfl⟩
  have HB1 := Lib.hid hb1; have HB2 := Lib.hid hb2
  clear hb1 hb2
  have HX := Lib.hid hx; have HY := Lib.hid hy; have HP := Lib.hid hp; have OKO := Lib.hid ho; have HB0 := Lib.hid hB; have HLL := Lib.hid hl
  have HO := Lib.hid (OpBox.new w o (.slice pa o.p.length pc))
  have hmx := hx.le; have hmy := hy.le
  unfold opV
  clear hx hy hp ho hB hl
  go_enter Try.func63, Try.ntmps63
  go_upto_region 1 with fail
  refine gen_worldA (fun W => OpBox w W w.heap.size o (.slice pa o.p.length pc)) HO.out ?_
  rintro W hO
  have HO := Lib.hid hO
  clear hO
  have HQ := Lib.hid (rnumber_any W a c x (HX.out.below HO.out.b).els hmx)
  rw [HKX.out, HB1.out] at HQ
  go_wp2_with fail
  refine HQ.out.mono ?_
  rintro e W1 ⟨rfl, hb⟩
  have HO := Lib.hid (HO.out.next hb)
  clear hb HQ
  have HQ := Lib.hid (rnumber_any W1 a2 c2 y (HY.out.below HO.out.b).els hmy)
  rw [HKY.out, HB2.out] at HQ
  go_wp2_with fail
  refine HQ.out.mono ?_
  rintro e W2 ⟨rfl, hb⟩
  have HO := Lib.hid (HO.out.next hb)
  clear hb HQ
  have x4 := HO.out.c4
  obtain ⟨m, e0, hd⟩ : ∃ m e0, dyadF o.fn (k1.getD 0) (k2.getD 0) = (m, e0) := ⟨_, _, rfl⟩
  have hi1 : In64 (k1.getD 0) := by cases k1 with | none => (unfold In64; decide) | some p => exact HI1.out p rfl
  have hi2 : In64 (k2.getD 0) := by cases k2 with | none => (unfold In64; decide) | some p => exact HI2.out p rfl
  have HQ := Lib.hid (rdyad_at W2 o.fn (k1.getD 0) (k2.getD 0) m e0 hi1 hi2 hd)
  have htt : (k1.isSome && (k2.isSome && (e0 == 0))) = false := by
    have h2 := H2.out
    unfold twoC at h2
    rw [HKX.out, HKY.out] at h2
    cases k1 with
    | none => rfl
    | some p =>
      cases k2 with
      | none => rfl
      | some q =>
        dsimp only at h2
        rw [show dyadF o.fn p q = (m, e0) from hd] at h2
        show (e0 == 0) = false
        rw [beq_eq_false_iff_ne]
        intro h
        rw [if_pos h] at h2
        cases h2
  have HTT := Lib.hid htt
  clear hd hi1 hi2 htt
  go_wp2_with fail
  refine HQ.out.mono ?_
  rintro e W3 ⟨rfl, nd, rfl⟩
  have HO := Lib.hid (HO.out.next (Below.drewN W2 nd))
  clear HQ x4
  obtain ⟨W4, hW4⟩ : ∃ W, W2.drewN nd = W := ⟨_, rfl⟩
  rw [hW4] at HO ⊢
  clear hW4
  go_upto_region 4 with fail
  go_cut [38] (fun s38 wx => s38 = .bool false ∧ OpBox w wx w.heap.size o (.slice pa o.p.length pc))
  case first =>
    obtain ⟨b3, hb3⟩ : ∃ b, (e0 == 0) = b := ⟨_, rfl⟩
    have htt := HTT.out
    rw [HB1.out, HB2.out, hb3] at htt
    cases b1 with
    | false => (clear htt hb3); (go_wp2_with fail); (go_meet); (exact ⟨rfl, HO.out⟩)
    | true =>
      cases b2 with
      | false => (clear htt hb3); (go_wp2_with fail); (go_meet); (exact ⟨rfl, HO.out⟩)
      | true =>
        cases b3 with
        | false => (clear htt); (go_wp2_with fail); (go_meet); (exact ⟨rfl, HO.out⟩)
        | true => cases htt
  case rest =>
    obtain ⟨rfl, hcut⟩ := hcut
    clear HO
    have HO := Lib.hid hcut
    clear hcut
    have x4 := HO.out.c4
    rw [HF.out] at x4
    have HG2 := Lib.hid g2
    clear g2
    have hq := ris_any wc a2 c2 y 1 (HY.out.below HO.out.b).els hmy
    rw [HG2.out] at hq
    have HQ := Lib.hid hq
    clear hq
    go_wp2_with fail
    refine HQ.out.mono ?_
    rintro e U2 ⟨rfl, hb⟩
    have HO := Lib.hid (HO.out.next hb)
    clear hb HQ
    go_upto_region 26 with fail
    refine wp_region_Z (S := fun W' => W'.cell? ⟨w.heap.size, 0, none⟩ = some (.int .i64 o.how) ∧ W'.cell? ⟨w.heap.size, 1, none⟩ = some (.int .i64 o.k) ∧ W'.cell? ⟨w.heap.size, 2, none⟩ = some (.int .i64 o.n) ∧ W'.cell? ⟨w.heap.size, 3, none⟩ = some (.slice pa o.p.length pc) ∧ W'.cell? ⟨w.heap.size, 4, none⟩ = some (.int .u8 o.fn)) (z := 7) (by kernel_rfl) ?_
    have HO := Lib.hid (HO.out.next (show Below U2.heap.size U2 U2.drew from (Below.refl _ _).drew))
    generalize U2.drew = Y at HO ⊢
    have hSS : (fun W' : World => W'.cell? ⟨w.heap.size, 0, none⟩ = some (.int .i64 o.how) ∧ W'.cell? ⟨w.heap.size, 1, none⟩ = some (.int .i64 o.k) ∧ W'.cell? ⟨w.heap.size, 2, none⟩ = some (.int .i64 o.n) ∧ W'.cell? ⟨w.heap.size, 3, none⟩ = some (.slice pa o.p.length pc) ∧ W'.cell? ⟨w.heap.size, 4, none⟩ = some (.int .u8 o.fn)) Y := ⟨HO.out.c0, HO.out.c1, HO.out.c2, HO.out.c3, HO.out.c4⟩
    refine wpAnyZ_take (i := 1) (v := ?_) rfl (by kernel_rfl) (by kernel_rfl) (by kernel_rfl) (fun _ _ _ h => h) (by kernel_rfl) (Or.inl ⟨by rfl, ?_⟩) (by assumption) ?_
    rotate_left
    · intro w' hSw
      try dsimp only at hSw
      try obtain ⟨hSw, hSw2⟩ := hSw
      go_simp
      try with_reducible rfl
    show wpAnyZ _ _ _ _ _ _ _ _ (Act.put _ (some 86) _) _
    simp only [Act.put, List.setIfInBounds_toArray, List.set_cons_zero, List.set_cons_succ]
    refine wpAnyZ_take (i := 3) (v := ?_) rfl (by kernel_rfl) (by kernel_rfl) (by kernel_rfl) (fun _ _ _ h => h) (by kernel_rfl) (Or.inl ⟨by rfl, ?_⟩) (by assumption) ?_
    rotate_left
    · intro w' hSw
      try dsimp only at hSw
      try obtain ⟨hSw, hSw2⟩ := hSw
      go_simp
      try with_reducible rfl
    show wpAnyZ _ _ _ _ _ _ _ _ (Act.put _ (some 88) _) _
    simp only [Act.put, List.setIfInBounds_toArray, List.set_cons_zero, List.set_cons_succ]
    refine wpAnyZ_take (i := 5) (v := ?_) rfl (by kernel_rfl) (by kernel_rfl) (by kernel_rfl) (fun _ _ _ h => h) (by kernel_rfl) (Or.inl ⟨by rfl, ?_⟩) (by assumption) ?_
    rotate_left
    · intro w' hSw
      try dsimp only at hSw
      try obtain ⟨hSw, hSw2⟩ := hSw
      go_simp
      try with_reducible rfl
    show wpAnyZ _ _ _ _ _ _ _ _ (Act.put _ (some 90) _) _
    simp only [Act.put, List.setIfInBounds_toArray, List.set_cons_zero, List.set_cons_succ]
    clear hSS
    obtain ⟨M, hM⟩ : ∃ M, Y.heap.size = M := ⟨_, rfl⟩
    have HMM := Lib.hid hM
    have HB := Lib.hid (show Below M Y Y from Below.refl _ _)
    have HBM := Lib.hid (show B ≤ M by rw [← hM]; exact Nat.le_trans HB0.out HO.out.b.size)
    clear hM
    refine wpAnyZ_one (i := 0) (by kernel_rfl) rfl rfl (fun K hK => ?_)
    go_simp
    obtain ⟨g0, hg0⟩ : ∃ b, Y.heap.size = b := ⟨_, rfl⟩
    have E0 := Lib.hid (RowC.new (B := B) (M := M) (by have := HB.out.size; have h2 := HMM.out; omega) hg0)
    have HB := Lib.hid (HB.out.alloc (by have := HB.out.size; have h2 := HMM.out; omega) (.cells #[] 44))
    rw [hg0]
    refine hK.out _ _ (.inr (by have h := HO.out.next (HMM.out ▸ HB.out); exact ⟨h.c0, h.c1, h.c2, h.c3, h.c4⟩)) ?_
    clear hK hg0
    generalize Y.alloc (.cells #[] 44) = Y1 at *
    refine wpAnyZ_one (i := 2) (by kernel_rfl) rfl rfl (fun K hK => ?_)
    refine wp_appC (.tmp 85) (.tmp 86) rfl B M (.slice (some ⟨g0, 0, none⟩) 0 0) [] x (.slice a x.length c) rfl E0.out rfl (HX.out.below (bNext (HMM.out ▸ HB.out) HO.out.b)) (by have := HLL.out; simp; omega) HBM.out (by have := HB.out.size; have h2 := HMM.out; omega) ?_
    intro v2 Y2 hr hb hg
    have R2 := Lib.hid (show RowC B M _ v2 x from hr)
    have HB := Lib.hid (HB.out.trans hb)
    refine hK.out _ _ (.inr (by have h := HO.out.next (HMM.out ▸ HB.out); exact ⟨h.c0, h.c1, h.c2, h.c3, h.c4⟩)) ?_
    clear hK hr hb hg E0
    refine wpAnyZ_one (i := 4) (by kernel_rfl) rfl rfl (fun K hK => ?_)
    refine wp_appC (.tmp 87) (.tmp 88) rfl B M v2 x y (.slice a2 y.length c2) rfl R2.out rfl (HY.out.below (bNext (HMM.out ▸ HB.out) HO.out.b)) (by have := HLL.out; omega) HBM.out (by have := HB.out.size; have h2 := HMM.out; omega) ?_
    intro v3 Y3 hr hb hg
    have R3 := Lib.hid (hr.cop (Bd.low HBM.out))
    have HB := Lib.hid (HB.out.trans hb)
    refine hK.out _ _ (.inr (by have h := HO.out.next (HMM.out ▸ HB.out); exact ⟨h.c0, h.c1, h.c2, h.c3, h.c4⟩)) ?_
    clear hK hr hb hg R2
    obtain ⟨a3, c3, rfl, -, -⟩ := R3.out.form
    have HO3 := Lib.hid (HO.out.next (HMM.out ▸ HB.out))
    have hq := behind_any Y3 B (Nat.le_trans HB0.out HO3.out.b.size) a3 c3 (x ++ y) R3.out (by have := HLL.out; rw [List.length_append]; omega) o pa pc (HP.out.below HO3.out.b) OKO.out
    unfold opV at hq
    refine wpAnyZ_one (i := 6) (by kernel_rfl) rfl rfl (fun K hK => ?_)
    go_simp
    first | refine hq.mono ?_ | (rw [List.length_append] at hq; refine hq.mono ?_)
    rintro e' Y4 ⟨⟨v4, rfl, hv4⟩, hb4⟩
    have HO4 := HO3.out.next hb4
    show K _ Y4
    refine hK.out _ _ (.inr ⟨HO4.c0, HO4.c1, HO4.c2, HO4.c3, HO4.c4⟩) ?_
    clear hK
    refine wpAnyZ_one (i := 7) (by kernel_rfl) rfl rfl (fun K hK => ?_)
    go_simp
    refine hK.out _ _ (.inl (by omega)) ?_
    clear hK
    refine wpAnyZ_done (by kernel_rfl) ?_ _
    go_wp2_with fail
    go_ret
    exact ⟨⟨_, rfl, hv4⟩, HO4.b⟩
set_option maxHeartbeats 4000000 in
theorem rdyad13_17x (w : World) (B : Bd) (hB : B ≤ w.heap.size) (a a2 : Option Addr) (c c2 : Nat) (x y : List Cop) (hx : CopS B w (.slice a x.length c) x) (hy : CopS B w (.slice a2 y.length c2) y) (hl : x.length + y.length + 1 ≤ 2513169434843) (o : Cop) (pa : Option Addr) (pc : Nat) (hp : MonS B w (.slice pa o.p.length pc) o.p) (ho : OkO o) (hf : o.fn = 17) (g2 : onlyC y 1 = true) (h2 : twoC o.fn x y = none) :
    Calls Try.prog 63 #[.slice a x.length c, .slice a2 y.length c2, opV o pa pc] w (RetC B w (dyadC x y o)) := by
  rw [dyadC_x h2 (by unfold ruleY; rw [hf]; simp [*]) (by unfold ruleX; rw [hf]; simp [*])]
  have H2 := Lib.hid h2
  have HF := Lib.hid hf
  clear h2 hf
  obtain ⟨k1, hk1⟩ : ∃ k, knownC x = k := ⟨_, rfl⟩
  obtain ⟨k2, hk2⟩ : ∃ k, knownC y = k := ⟨_, rfl⟩
  have HKX := Lib.hid hk1; have HKY := Lib.hid hk2
  have hi1 := fun n (h : k1 = some n) => known_in hx (hk1.trans h); have hi2 := fun n (h : k2 = some n) => known_in hy (hk2.trans h)
  have HI1 := Lib.hid hi1; have HI2 := Lib.hid hi2
  clear hi1 hi2 hk1 hk2
  obtain ⟨b1, hb1⟩ : ∃ b, k1.isSome = b := ⟨_, rfl⟩
  obtain ⟨b2, hb2⟩ : ∃ b, k2.isSome = b := ⟨_, rfl⟩
  have HB1 := Lib.hid hb1; have HB2 := Lib.hid hb2
  clear hb1 hb2
  have HX := Lib.hid hx; have HY := Lib.hid hy; have HP := Lib.hid hp; have OKO := Lib.hid ho; have HB0 := Lib.hid hB; have HLL := Lib.hid hl
  have HO := Lib.hid (OpBox.new w o (.slice pa o.p.length pc))
  have hmx := hx.le; have hmy := hy.le
  unfold opV
  clear hx hy hp ho hB hl
  go_enter Try.func63, Try.ntmps63
  go_upto_region 1 with fail
  refine gen_worldA (fun W => OpBox w W w.heap.size o (.slice pa o.p.length pc)) HO.out ?_
  rintro W hO
  have HO := Lib.hid hO
  clear hO
  have HQ := Lib.hid (rnumber_any W a c x (HX.out.below HO.out.b).els hmx)
  rw [HKX.out, HB1.out] at HQ
  go_wp2_with fail
  refine HQ.out.mono ?_
  rintro e W1 ⟨rfl, hb⟩
  have HO := Lib.hid (HO.out.next hb)
  clear hb HQ
  have HQ := Lib.hid (rnumber_any W1 a2 c2 y (HY.out.below HO.out.b).els hmy)
  rw [HKY.out, HB2.out] at HQ
  go_wp2_with fail
  refine HQ.out.mono ?_
  rintro e W2 ⟨rfl, hb⟩
  have HO := Lib.hid (HO.out.next hb)
  clear hb HQ
  have x4 := HO.out.c4
  obtain ⟨m, e0, hd⟩ : ∃ m e0, dyadF o.fn (k1.getD 0) (k2.getD 0) = (m, e0) := ⟨_, _, rfl⟩
  have hi1 : In64 (k1.getD 0) := by cases k1 with | none => (unfold In64; decide) | some p => exact HI1.out p rfl
  have hi2 : In64 (k2.getD 0) := by cases k2 with | none => (unfold In64; decide) | some p => exact HI2.out p rfl
  have HQ := Lib.hid (rdyad_at W2 o.fn (k1.getD 0) (k2.getD 0) m e0 hi1 hi2 hd)
  have htt : (k1.isSome && (k2.isSome && (e0 == 0))) = false := by
    have h2 := H2.out
    unfold twoC at h2
    rw [HKX.out, HKY.out] at h2
    cases k1 with
    | none => rfl
    | some p =>
      cases k2 with
      | none => rfl
      | some q =>
        dsimp only at h2
        rw [show dyadF o.fn p q = (m, e0) from hd] at h2
        show (e0 == 0) = false
        rw [beq_eq_false_iff_ne]
        intro h
        rw [if_pos h] at h2
        cases h2
  have HTT := Lib.hid htt
  clear hd hi1 hi2 htt
  go_wp2_with fail
  refine HQ.out.mono ?_
  rintro e W3 ⟨rfl, nd, rfl⟩
  have HO := Lib.hid (HO.out.next (Below.drewN W2 nd))
  clear HQ x4
  obtain ⟨W4, hW4⟩ : ∃ W, W2.drewN nd = W := ⟨_, rfl⟩
  rw [hW4] at HO ⊢
  clear hW4
  go_upto_region 4 with fail
  go_cut [38] (fun s38 wx => s38 = .bool false ∧ OpBox w wx w.heap.size o (.slice pa o.p.length pc))
  case first =>
    obtain ⟨b3, hb3⟩ : ∃ b, (e0 == 0) = b := ⟨_, rfl⟩
    have htt := HTT.out
    rw [HB1.out, HB2.out, hb3] at htt
    cases b1 with
    | false => (clear htt hb3); (go_wp2_with fail); (go_meet); (exact ⟨rfl, HO.out⟩)
    | true =>
      cases b2 with
      | false => (clear htt hb3); (go_wp2_with fail); (go_meet); (exact ⟨rfl, HO.out⟩)
      | true =>
        cases b3 with
        | false => (clear htt); (go_wp2_with fail); (go_meet); (exact ⟨rfl, HO.out⟩)
        | true => cases htt
  case rest =>
    obtain ⟨rfl, hcut⟩ := hcut
    clear HO
    have HO := Lib.hid hcut
    clear hcut
    have x4 := HO.out.c4
    rw [HF.out] at x4
    have HG2 := Lib.hid g2
    clear g2
    have hq := ris_any wc a2 c2 y 1 (HY.out.below HO.out.b).els hmy
    rw [HG2.out] at hq
    have HQ := Lib.hid hq
    clear hq
    go_wp2_with fail
    refine HQ.out.mono ?_
    rintro e U2 ⟨rfl, hb⟩
    have HO := Lib.hid (HO.out.next hb)
    clear hb HQ
    go_wp2_with fail
    go_ret
    exact ⟨⟨_, rfl, HX.out.below HO.out.b⟩, HO.out.b⟩
set_option maxHeartbeats 4000000 in
theorem rdyad13_17j (w : World) (B : Bd) (hB : B ≤ w.heap.size) (a a2 : Option Addr) (c c2 : Nat) (x y : List Cop) (hx : CopS B w (.slice a x.length c) x) (hy : CopS B w (.slice a2 y.length c2) y) (hl : x.length + y.length + 1 ≤ 2513169434843) (o : Cop) (pa : Option Addr) (pc : Nat) (hp : MonS B w (.slice pa o.p.length pc) o.p) (ho : OkO o) (hf : o.fn = 17) (g2 : onlyC y 1 = false) (h2 : twoC o.fn x y = none) :
    Calls Try.prog 63 #[.slice a x.length c, .slice a2 y.length c2, opV o pa pc] w (RetC B w (dyadC x y o)) := by
  rw [dyadC_j h2 (by unfold ruleY; rw [hf]; simp [*]) (by unfold ruleX; rw [hf]; simp [*]) (by unfold ruleZ; rw [hf]; simp [*])]
  have H2 := Lib.hid h2
  have HF := Lib.hid hf
  clear h2 hf
  obtain ⟨k1, hk1⟩ : ∃ k, knownC x = k := ⟨_, rfl⟩
  obtain ⟨k2, hk2⟩ : ∃ k, knownC y = k := ⟨_, rfl⟩
  have HKX := Lib.hid hk1; have HKY := Lib.hid hk2
  have hi1 := fun n (h : k1 = some n) => known_in hx (hk1.trans h); have hi2 := fun n (h : k2 = some n) => known_in hy (hk2.trans h)
  have HI1 := Lib.hid hi1; have HI2 := Lib.hid hi2
  clear hi1 hi2 hk1 hk2
  obtain ⟨b1, hb1⟩ : ∃ b, k1.isSome = b := ⟨_, rfl⟩
  obtain ⟨b2, hb2⟩ : ∃ b, k2.isSome = b := ⟨_, rfl⟩
  have HB1 := Lib.hid hb1; have HB2 := Lib.hid hb2
  clear hb1 hb2
  have HX := Lib.hid hx; have HY := Lib.hid hy; have HP := Lib.hid hp; have OKO := Lib.hid ho; have HB0 := Lib.hid hB; have HLL := Lib.hid hl
  have HO := Lib.hid (OpBox.new w o (.slice pa o.p.length pc))
  have hmx := hx.le; have hmy := hy.le
  unfold opV
  clear hx hy hp ho hB hl
  go_enter Try.func63, Try.ntmps63
  go_upto_region 1 with fail
  refine gen_worldA (fun W => OpBox w W w.heap.size o (.slice pa o.p.length pc)) HO.out ?_
  rintro W hO
  have HO := Lib.hid hO
  clear hO
  have HQ := Lib.hid (rnumber_any W a c x (HX.out.below HO.out.b).els hmx)
  rw [HKX.out, HB1.out] at HQ
  go_wp2_with fail
  refine HQ.out.mono ?_
  rintro e W1 ⟨rfl, hb⟩
  have HO := Lib.hid (HO.out.next hb)
  clear hb HQ
  have HQ := Lib.hid (rnumber_any W1 a2 c2 y (HY.out.below HO.out.b).els hmy)
  rw [HKY.out, HB2.out] at HQ
  go_wp2_with fail
  refine HQ.out.mono ?_
  rintro e W2 ⟨rfl, hb⟩
  have HO := Lib.hid (HO.out.next hb)
  clear hb HQ
  have x4 := HO.out.c4
  obtain ⟨m, e0, hd⟩ : ∃ m e0, dyadF o.fn (k1.getD 0) (k2.getD 0) = (m, e0) := ⟨_, _, rfl⟩
  have hi1 : In64 (k1.getD 0) := by cases k1 with | none => (unfold In64; decide) | some p => exact HI1.out p rfl
  have hi2 : In64 (k2.getD 0) := by cases k2 with | none => (unfold In64; decide) | some p => exact HI2.out p rfl
  have HQ := Lib.hid (rdyad_at W2 o.fn (k1.getD 0) (k2.getD 0) m e0 hi1 hi2 hd)
  have htt : (k1.isSome && (k2.isSome && (e0 == 0))) = false := by
    have h2 := H2.out
    unfold twoC at h2
    rw [HKX.out, HKY.out] at h2
    cases k1 with
    | none => rfl
    | some p =>
      cases k2 with
      | none => rfl
      | some q =>
        dsimp only at h2
        rw [show dyadF o.fn p q = (m, e0) from hd] at h2
        show (e0 == 0) = false
        rw [beq_eq_false_iff_ne]
        intro h
        rw [if_pos h] at h2
        cases h2
  have HTT := Lib.hid htt
  clear hd hi1 hi2 htt
  go_wp2_with fail
  refine HQ.out.mono ?_
  rintro e W3 ⟨rfl, nd, rfl⟩
  have HO := Lib.hid (HO.out.next (Below.drewN W2 nd))
  clear HQ x4
  obtain ⟨W4, hW4⟩ : ∃ W, W2.drewN nd = W := ⟨_, rfl⟩
  rw [hW4] at HO ⊢
  clear hW4
  go_upto_region 4 with fail
  go_cut [38] (fun s38 wx => s38 = .bool false ∧ OpBox w wx w.heap.size o (.slice pa o.p.length pc))
  case first =>
    obtain ⟨b3, hb3⟩ : ∃ b, (e0 == 0) = b := ⟨_, rfl⟩
    have htt := HTT.out
    rw [HB1.out, HB2.out, hb3] at htt
    cases b1 with
    | false => (clear htt hb3); (go_wp2_with fail); (go_meet); (exact ⟨rfl, HO.out⟩)
    | true =>
      cases b2 with
      | false => (clear htt hb3); (go_wp2_with fail); (go_meet); (exact ⟨rfl, HO.out⟩)
      | true =>
        cases b3 with
        | false => (clear htt); (go_wp2_with fail); (go_meet); (exact ⟨rfl, HO.out⟩)
        | true => cases htt
  case rest =>
    obtain ⟨rfl, hcut⟩ := hcut
    clear HO
    have HO := Lib.hid hcut
    clear hcut
    have x4 := HO.out.c4
    rw [HF.out] at x4
    have HG2 := Lib.hid g2
    clear g2
    have hq := ris_any wc a2 c2 y 1 (HY.out.below HO.out.b).els hmy
    rw [HG2.out] at hq
    have HQ := Lib.hid hq
    clear hq
    go_wp2_with fail
    refine HQ.out.mono ?_
    rintro e U2 ⟨rfl, hb⟩
    have HO := Lib.hid (HO.out.next hb)
    clear hb HQ
    go_upto_region 26 with fail
    refine wp_region_Z (S := fun W' => W'.cell? ⟨w.heap.size, 0, none⟩ = some (.int .i64 o.how) ∧ W'.cell? ⟨w.heap.size, 1, none⟩ = some (.int .i64 o.k) ∧ W'.cell? ⟨w.heap.size, 2, none⟩ = some (.int .i64 o.n) ∧ W'.cell? ⟨w.heap.size, 3, none⟩ = some (.slice pa o.p.length pc) ∧ W'.cell? ⟨w.heap.size, 4, none⟩ = some (.int .u8 o.fn)) (z := 7) (by kernel_rfl) ?_
    have HO := Lib.hid (HO.out.next (show Below U2.heap.size U2 U2.drew from (Below.refl _ _).drew))
    generalize U2.drew = Y at HO ⊢
    have hSS : (fun W' : World => W'.cell? ⟨w.heap.size, 0, none⟩ = some (.int .i64 o.how) ∧ W'.cell? ⟨w.heap.size, 1, none⟩ = some (.int .i64 o.k) ∧ W'.cell? ⟨w.heap.size, 2, none⟩ = some (.int .i64 o.n) ∧ W'.cell? ⟨w.heap.size, 3, none⟩ = some (.slice pa o.p.length pc) ∧ W'.cell? ⟨w.heap.size, 4, none⟩ = some (.int .u8 o.fn)) Y := ⟨HO.out.c0, HO.out.c1, HO.out.c2, HO.out.c3, HO.out.c4⟩
    refine wpAnyZ_take (i := 1) (v := ?_) rfl (by kernel_rfl) (by kernel_rfl) (by kernel_rfl) (fun _ _ _ h => h) (by kernel_rfl) (Or.inl ⟨by rfl, ?_⟩) (by assumption) ?_
    rotate_left
    · intro w' hSw
      try dsimp only at hSw
      try obtain ⟨hSw, hSw2⟩ := hSw
      go_simp
      try with_reducible rfl
    show wpAnyZ _ _ _ _ _ _ _ _ (Act.put _ (some 86) _) _
    simp only [Act.put, List.setIfInBounds_toArray, List.set_cons_zero, List.set_cons_succ]
    refine wpAnyZ_take (i := 3) (v := ?_) rfl (by kernel_rfl) (by kernel_rfl) (by kernel_rfl) (fun _ _ _ h => h) (by kernel_rfl) (Or.inl ⟨by rfl, ?_⟩) (by assumption) ?_
    rotate_left
    · intro w' hSw
      try dsimp only at hSw
      try obtain ⟨hSw, hSw2⟩ := hSw
      go_simp
      try with_reducible rfl
    show wpAnyZ _ _ _ _ _ _ _ _ (Act.put _ (some 88) _) _
    simp only [Act.put, List.setIfInBounds_toArray, List.set_cons_zero, List.set_cons_succ]
    refine wpAnyZ_take (i := 5) (v := ?_) rfl (by kernel_rfl) (by kernel_rfl) (by kernel_rfl) (fun _ _ _ h => h) (by kernel_rfl) (Or.inl ⟨by rfl, ?_⟩) (by assumption) ?_
    rotate_left
    · intro w' hSw
      try dsimp only at hSw
      try obtain ⟨hSw, hSw2⟩ := hSw
      go_simp
      try with_reducible rfl
    show wpAnyZ _ _ _ _ _ _ _ _ (Act.put _ (some 90) _) _
    simp only [Act.put, List.setIfInBounds_toArray, List.set_cons_zero, List.set_cons_succ]
    clear hSS
    obtain ⟨M, hM⟩ : ∃ M, Y.heap.size = M := ⟨_, rfl⟩
    have HMM := Lib.hid hM
    have HB := Lib.hid (show Below M Y Y from Below.refl _ _)
    have HBM := Lib.hid (show B ≤ M by rw [← hM]; exact Nat.le_trans HB0.out HO.out.b.size)
    clear hM
    refine wpAnyZ_one (i := 0) (by kernel_rfl) rfl rfl (fun K hK => ?_)
    go_simp
    obtain ⟨g0, hg0⟩ : ∃ b, Y.heap.size = b := ⟨_, rfl⟩
    have E0 := Lib.hid (RowC.new (B := B) (M := M) (by have := HB.out.size; have h2 := HMM.out; omega) hg0)
    have HB := Lib.hid (HB.out.alloc (by have := HB.out.size; have h2 := HMM.out; omega) (.cells #[] 44))
    rw [hg0]
    refine hK.out _ _ (.inr (by have h := HO.out.next (HMM.out ▸ HB.out); exact ⟨h.c0, h.c1, h.c2, h.c3, h.c4⟩)) ?_
    clear hK hg0
    generalize Y.alloc (.cells #[] 44) = Y1 at *
    refine wpAnyZ_one (i := 2) (by kernel_rfl) rfl rfl (fun K hK => ?_)
    refine wp_appC (.tmp 85) (.tmp 86) rfl B M (.slice (some ⟨g0, 0, none⟩) 0 0) [] x (.slice a x.length c) rfl E0.out rfl (HX.out.below (bNext (HMM.out ▸ HB.out) HO.out.b)) (by have := HLL.out; simp; omega) HBM.out (by have := HB.out.size; have h2 := HMM.out; omega) ?_
    intro v2 Y2 hr hb hg
    have R2 := Lib.hid (show RowC B M _ v2 x from hr)
    have HB := Lib.hid (HB.out.trans hb)
    refine hK.out _ _ (.inr (by have h := HO.out.next (HMM.out ▸ HB.out); exact ⟨h.c0, h.c1, h.c2, h.c3, h.c4⟩)) ?_
    clear hK hr hb hg E0
    refine wpAnyZ_one (i := 4) (by kernel_rfl) rfl rfl (fun K hK => ?_)
    refine wp_appC (.tmp 87) (.tmp 88) rfl B M v2 x y (.slice a2 y.length c2) rfl R2.out rfl (HY.out.below (bNext (HMM.out ▸ HB.out) HO.out.b)) (by have := HLL.out; omega) HBM.out (by have := HB.out.size; have h2 := HMM.out; omega) ?_
    intro v3 Y3 hr hb hg
    have R3 := Lib.hid (hr.cop (Bd.low HBM.out))
    have HB := Lib.hid (HB.out.trans hb)
    refine hK.out _ _ (.inr (by have h := HO.out.next (HMM.out ▸ HB.out); exact ⟨h.c0, h.c1, h.c2, h.c3, h.c4⟩)) ?_
    clear hK hr hb hg R2
    obtain ⟨a3, c3, rfl, -, -⟩ := R3.out.form
    have HO3 := Lib.hid (HO.out.next (HMM.out ▸ HB.out))
    have hq := behind_any Y3 B (Nat.le_trans HB0.out HO3.out.b.size) a3 c3 (x ++ y) R3.out (by have := HLL.out; rw [List.length_append]; omega) o pa pc (HP.out.below HO3.out.b) OKO.out
    unfold opV at hq
    refine wpAnyZ_one (i := 6) (by kernel_rfl) rfl rfl (fun K hK => ?_)
    go_simp
    first | refine hq.mono ?_ | (rw [List.length_append] at hq; refine hq.mono ?_)
    rintro e' Y4 ⟨⟨v4, rfl, hv4⟩, hb4⟩
    have HO4 := HO3.out.next hb4
    show K _ Y4
    refine hK.out _ _ (.inr ⟨HO4.c0, HO4.c1, HO4.c2, HO4.c3, HO4.c4⟩) ?_
    clear hK
    refine wpAnyZ_one (i := 7) (by kernel_rfl) rfl rfl (fun K hK => ?_)
    go_simp
    refine hK.out _ _ (.inl (by omega)) ?_
    clear hK
    refine wpAnyZ_done (by kernel_rfl) ?_ _
    go_wp2_with fail
    go_ret
    exact ⟨⟨_, rfl, hv4⟩, HO4.b⟩
end Go.Proofs.Ytmlfeocdcjhhaaa
