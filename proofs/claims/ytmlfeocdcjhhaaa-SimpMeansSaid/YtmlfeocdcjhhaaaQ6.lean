/-
  SimpMeans: the law returns true for every input, and what was handed in reads as it did. No condition.
-/
import Derived.Test.YtmlfeocdcjhhaaaPH25
import Derived.Test.YtmlfeocdcjhhaaaPH26
import Derived.Test.YtmlfeocdcjhhaaaPH33
import Derived.Test.YtmlfeocdcjhhaaaPH36
namespace Go.Proofs.Ytmlfeocdcjhhaaa
set_option maxRecDepth 100000
open Go.ChangeShapes Go.WideShapes Go.ChangeAt Go.RowKit Go.Joins
set_option linter.unusedVariables false
set_option linter.unusedSimpArgs false

set_option maxHeartbeats 16000000 in
theorem SimpMeans_walk (w : World) (v0 : Value) (l : List Cop) (many : Int) (v2 : Value) (data : List Int) (q0 : copRep.Sl w v0 l) (hl : l.length ≤ 2513169434843) (wm : (Lit.int .i64 many).wf = true) (q2 : (Rep.int .i64).Sl w v2 data) :
    Calls Try.prog 7 #[v0, .int .i64 many, v2] w fun e w' => e = .returned (.bool true) ∧ Below w.heap.size w w' := by
  obtain ⟨la, lc, rfl, -, -⟩ := q0.form
  have hdm : data.length ≤ 9223372036854775807 := by obtain ⟨_, _, _, g1, g2, _⟩ := q2; exact Nat.le_trans g1 g2
  have hdi := int_in q2
  obtain ⟨da, dc, rfl⟩ := q2.form0
  have hcn : ∀ o ∈ l, I64 o.n := fun o ho => by
    obtain ⟨a2, cap2, _, _, _, _, he2⟩ := q0
    obtain ⟨j, hj, rfl⟩ := List.getElem_of_mem ho
    obtain ⟨b3, off3, cs3, _, ⟨v3, _, _, _, _, hn, _⟩, _⟩ := he2 j hj
    exact hn
  obtain ⟨n, hn⟩ : ∃ n, l.length = n := ⟨_, rfl⟩
  obtain ⟨d, hd⟩ : ∃ n, data.length = n := ⟨_, rfl⟩
  have HA := Lib.hid q0; have HL := Lib.hid hl; have HQ2 := Lib.hid q2; have HDI := Lib.hid hdi; have HCN := Lib.hid hcn; have HN := Lib.hid hn; have HD := Lib.hid hd
  rw [hd] at hdm HQ2
  rw [hn] at HA
  rw [hn, hd]
  clear q0 hl q2 hdi hcn hn hd wm
  go_enter Try.func7, Try.ntmps7
  go_wp2_with fail
  refine (shown_any _).mono ?_
  rintro e w1 ⟨rfl, hb1⟩
  have HB := Lib.hid hb1
  clear hb1
  by_cases c1 : many < 0
  · have hI : decide (many < 0) = true := by simpa using c1
    clear c1
    go_wp2_with fail
    go_ret
    exact ⟨rfl, HB.out⟩
  by_cases c2 : 50 < many
  · have hI : decide (many < 0) = false := by simpa using c1
    have hJ : decide (50 < many) = true := by simpa using c2
    clear c1 c2
    go_wp2_with fail
    go_ret
    exact ⟨rfl, HB.out⟩
  have hI : decide (many < 0) = false := by simpa using c1
  have hJ : decide (50 < many) = false := by simpa using c2
  by_cases c3 : 1000 < d
  · have hK : decide ((1000 : Int) < (d : Int)) = true := decide_eq_true (by omega)
    clear c1 c2
    go_wp2_with fail
    go_ret
    exact ⟨rfl, HB.out⟩
  have hK : decide ((1000 : Int) < (d : Int)) = false := decide_eq_false (by omega)
  obtain ⟨m, rfl⟩ : ∃ m : Nat, many = m := ⟨many.toNat, by omega⟩
  have hm50 : m ≤ 50 := by omega
  have hd1000 : d ≤ 1000 := by omega
  have hq := ops13_at w1 la n lc l (HA.out.below _ HB.out (Nat.le_refl _)) (by rw [← HN.out]; exact HL.out)
  cases hf : fitC l with
  | false =>
    rw [opsC_not hf] at hq
    have HQ := Lib.hid hq
    clear hq hf
    go_wp2_with fail
    refine HQ.out.mono ?_
    rintro e w2 ⟨⟨v2, rfl, hv2⟩, hb2⟩
    obtain ⟨a2, c2, rfl, -, -⟩ := hv2.form
    have HB := Lib.hid (bNext hb2 HB.out)
    clear hb2 hv2
    go_wp2_with fail
    go_ret
    exact ⟨rfl, HB.out⟩
  | true =>
    rw [opsC_fit hf] at hq
    have HQ := Lib.hid hq
    clear hq hf
    go_wp2_with fail
    refine HQ.out.mono ?_
    rintro e w2 ⟨⟨vs, rfl, hvs⟩, hb2⟩
    have hvs : copRep.Sl w2 vs (simpleC l) := hvs
    obtain ⟨sa, sc, rfl, -, -⟩ := hvs.form
    obtain ⟨sn, hsn⟩ : ∃ n, (simpleC l).length = n := ⟨_, rfl⟩
    rw [hsn] at hvs ⊢
    have HB := Lib.hid (bNext hb2 HB.out); have HVS := Lib.hid hvs; have HSN := Lib.hid hsn
    clear hb2 hvs HQ hsn
    go_upto_region 9 with fail
    obtain ⟨z, hz⟩ : ∃ z, w2.heap.size = z := ⟨_, rfl⟩
    have h1 := heap_new hz (o := .cells #[.int .i64 m, .int .u8 0, .int .u8 0, .int .u8 0, .int .u8 0, .int .u8 0, .int .u8 0] 47)
    have hz1 : (w2.alloc (.cells #[.int .i64 m, .int .u8 0, .int .u8 0, .int .u8 0, .int .u8 0, .int .u8 0, .int .u8 0] 47)).heap.size = z + 1 := by simp [hz]
    have h2 := heap_new hz1 (o := .cells #[.int .i64 d, .int .u8 0, .int .u8 0, .int .u8 0, .int .u8 0, .int .u8 0, .int .u8 0] 47)
    have h1' := block_alloc h1 (.cells #[.int .i64 d, .int .u8 0, .int .u8 0, .int .u8 0, .int .u8 0, .int .u8 0, .int .u8 0] 47)
    have hbz : Below w2.heap.size w2 ((w2.alloc (.cells #[.int .i64 m, .int .u8 0, .int .u8 0, .int .u8 0, .int .u8 0, .int .u8 0, .int .u8 0] 47)).alloc (.cells #[.int .i64 d, .int .u8 0, .int .u8 0, .int .u8 0, .int .u8 0, .int .u8 0, .int .u8 0] 47)) := ((Below.refl _ _).alloc (Nat.le_refl _) _).alloc (by simp) _
    rw [hz]
    refine gen_worldA (fun W => Below w.heap.size w W ∧ monoRep.Sl W (.slice (some ⟨z, 0, none⟩) 1 1) [monoQ m] ∧ monoRep.Sl W (.slice (some ⟨z + 1, 0, none⟩) 1 1) [monoQ d] ∧ copRep.Sl W (.slice sa sn sc) (simpleC l)) ⟨bNext hbz HB.out, mono_sl h1' (by omega), mono_sl h2 (by omega), HVS.out.below _ hbz (Nat.le_refl _)⟩ ?_
    clear h1 h2 h1' hbz hz hz1 HB HVS
    rintro W ⟨hB, hM, hD2, hS⟩
    have HB := Lib.hid hB; have HVS := Lib.hid hS
    have hp0 : polyQ 0 = [] := rfl
    have hpn : ∀ {k : Nat}, k ≠ 0 → polyQ k = [monoQ k] := fun h => if_neg h
    by_cases hm0 : m = 0
    · have hx : monoRep.Sl W (.slice none 0 0) (polyQ m) := by rw [hm0]; exact Rep.Sl.nil _ _
      have hE : ((m : Int) == 0) = true := by rw [hm0]; rfl
      by_cases hd0 : d = 0
      · have hy : monoRep.Sl W (.slice none 0 0) (polyQ d) := by rw [hd0]; exact Rep.Sl.nil _ _
        have hG : ((d : Int) == 0) = true := by rw [hd0]; rfl
        clear hm0 hd0
        go_upto_region 13 with fail
        have HVA := Lib.hid hx; have HVB := Lib.hid hy
        clear hB hS hM hD2
        go_upto_region 14 with fail
        obtain ⟨y, hy⟩ : ∃ y, W.heap.size = y := ⟨_, rfl⟩
        rw [hy]
        obtain ⟨hb5, g1, g2, g3, g4, g5⟩ := alloc5 W hy (.cells #[(.slice none 0 0)] 38) (.cells #[(.slice none 0 0)] 38) (.cells #[.slice (some ⟨y, 0, none⟩) 1 1, .int .i64 0, .slice (some ⟨y + 1, 0, none⟩) 1 1, .int .i64 (-1)] 52) (.cells #[.int .i64 1] 3) (.cells #[.int .i64 0, .slice (some ⟨y + 1 + 1, 0, none⟩) 2 2, .slice none 0 0, .slice (some ⟨y + 1 + 1 + 1, 0, none⟩) 1 1] 33)
        obtain ⟨W5, hW5⟩ : ∃ U, (((((W.alloc (.cells #[(.slice none 0 0)] 38)).alloc (.cells #[(.slice none 0 0)] 38)).alloc (.cells #[.slice (some ⟨y, 0, none⟩) 1 1, .int .i64 0, .slice (some ⟨y + 1, 0, none⟩) 1 1, .int .i64 (-1)] 52)).alloc (.cells #[.int .i64 1] 3)).alloc (.cells #[.int .i64 0, .slice (some ⟨y + 1 + 1, 0, none⟩) 2 2, .slice none 0 0, .slice (some ⟨y + 1 + 1 + 1, 0, none⟩) 1 1] 33)) = U := ⟨_, rfl⟩
        rw [hW5] at hb5 g1 g2 g3 g4 g5 ⊢
        clear hW5
        obtain ⟨p2, hp2⟩ : ∃ p, y + 1 = p := ⟨_, rfl⟩
        rw [hp2] at g2 g3 g4 g5 ⊢
        obtain ⟨bf, hbf⟩ : ∃ p, p2 + 1 = p := ⟨_, rfl⟩
        rw [hbf] at g3 g4 g5 ⊢
        obtain ⟨ou, hou⟩ : ∃ p, bf + 1 = p := ⟨_, rfl⟩
        rw [hou] at g4 g5 ⊢
        obtain ⟨cb, hcb⟩ : ∃ p, ou + 1 = p := ⟨_, rfl⟩
        rw [hcb] at g5 ⊢
        have hmi : MeanI w W W5 (.slice none 0 0) (.slice none 0 0) y p2 bf ou cb := ⟨HB.out, hb5, by omega, g1, g2, g3, g4, ⟨_, g5⟩⟩
        clear hp2 hbf hou hcb hy
        have x2 := cell_of_row W5 cb 2 _ _ _ g5
        have f2 := frozen_of_row W5 cb 2 _ _ g5
        have hcl : cb < W5.heap.size := block_lt g5
        have HMI := Lib.hid hmi
        clear hb5 g1 g2 g3 g4 g5 hmi
        go_upto_region 15 with fail
        obtain ⟨y5, hy5⟩ : ∃ n, W5.heap.size = n := ⟨_, rfl⟩
        rw [hy5]
        obtain ⟨U1, hU1⟩ : ∃ U, ((W5.setCell ⟨cb, 2, none⟩ (.slice (some ⟨y5 + 1, 0, none⟩) 1 1)).alloc (.cells #[(.slice none 0 0)] 38)).alloc (.cells #[.int .i64 1, .int .i64 1, .slice none 0 0, .slice (some ⟨y5, 0, none⟩) 1 1, .int .u8 0, .slice la n lc] 42) = U := ⟨_, rfl⟩
        rw [hU1]
        obtain ⟨hm1, hc1, h31, hs1, -⟩ := HMI.out.step hy5 (.slice la n lc) hU1.symm
        obtain ⟨st1, hst1⟩ : ∃ s, y5 + 1 = s := ⟨_, rfl⟩
        rw [hst1] at hc1 hs1
        clear hU1 hy5 x2 f2 hcl HMI
        have HM1 := Lib.hid hm1; have HC1 := Lib.hid hc1; have H31 := Lib.hid h31; have HS1 := Lib.hid hs1
        clear hm1 hc1 h31 hs1
        go_upto_region 16 with fail
        obtain ⟨y6, hy6⟩ : ∃ n, U1.heap.size = n := ⟨_, rfl⟩
        rw [hy6]
        obtain ⟨hb2, k1, k2, -⟩ := alloc2 U1 hy6 (.cells #[.int .i64 d] 2) (.cells #[.slice (some ⟨y6, 0, none⟩) 1 1, .slice da d dc] 54)
        obtain ⟨U2, hU2⟩ : ∃ U, (U1.alloc (.cells #[.int .i64 d] 2)).alloc (.cells #[.slice (some ⟨y6, 0, none⟩) 1 1, .slice da d dc] 54) = U := ⟨_, rfl⟩
        rw [hU2] at hb2 k1 k2 ⊢
        obtain ⟨a2, ha2⟩ : ∃ s, y6 + 1 = s := ⟨_, rfl⟩
        rw [ha2] at k2 ⊢
        have hm2 := HM1.out.next hb2
        have hc2 := block_below HC1.out hb2
        have hcor := hm2.cor (m := m) (n := d) (block_below H31.out hb2) (block_below HS1.out hb2) HVA.out HVB.out (HA.out.below _ hm2.below (Nat.le_refl _))
        have hins := mean_ins k1 k2 (HQ2.out.below _ hm2.below (Nat.le_refl _)) (by omega)
        have hr := mean_run hcor hins
        obtain ⟨A, hAA⟩ : ∃ A, runR (meanC m d l) [] [([(d : Int)], data)] = A := ⟨_, rfl⟩
        rw [hAA] at hr
        have z0 := cell_of_row U2 cb 0 _ _ _ hc2; have z1 := cell_of_row U2 cb 1 _ _ _ hc2; have z2 := cell_of_row U2 cb 2 _ _ _ hc2; have z3 := cell_of_row U2 cb 3 _ _ _ hc2
        have HR := Lib.hid hr; have HM2 := Lib.hid hm2; have K1 := Lib.hid k1; have K2 := Lib.hid k2; have HAA := Lib.hid hAA
        clear hU2 hy6 ha2 hb2 k1 k2 hm2 hc2 hcor hins hr HM1 HC1 H31 HS1 hAA
        rw [show y5 + 1 = st1 from hst1]
        clear hst1
        go_upto_region 17 with (go_at_call 18; refine HR.out.mono ?_; rintro e U3 ⟨v1, rfl, hr1, hb3⟩)
        have hm3 := HM2.out.next hb3
        obtain ⟨vst, hbx⟩ := hm3.box
        have x2 := cell_of_row U3 cb 2 _ _ _ hbx
        have f2 := frozen_of_row U3 cb 2 _ _ hbx
        have hcl : cb < U3.heap.size := block_lt hbx
        have HM3 := Lib.hid hm3; have K1 := Lib.hid (block_below K1.out hb3); have K2 := Lib.hid (block_below K2.out hb3); have HR1 := Lib.hid hr1
        clear z0 z1 z2 z3 HR HM2 hm3 hbx hb3 hr1
        go_upto_region 18 with fail
        obtain ⟨y7, hy7⟩ : ∃ n, U3.heap.size = n := ⟨_, rfl⟩
        rw [hy7]
        obtain ⟨U4, hU4⟩ : ∃ U, ((U3.setCell ⟨cb, 2, none⟩ (.slice (some ⟨y7 + 1, 0, none⟩) 1 1)).alloc (.cells #[(.slice none 0 0)] 38)).alloc (.cells #[.int .i64 1, .int .i64 1, .slice none 0 0, .slice (some ⟨y7, 0, none⟩) 1 1, .int .u8 0, .slice sa sn sc] 42) = U := ⟨_, rfl⟩
        rw [hU4]
        obtain ⟨hm4, hc4, h34, hs4, hk4⟩ := HM3.out.step hy7 (.slice sa sn sc) hU4.symm
        have hr1 := rowG_turn HR1.out hk4
        have hcor := hm4.cor (m := m) (n := d) h34 hs4 HVA.out HVB.out (HVS.out.below _ hm4.bW (Nat.le_refl _))
        have hins := mean_ins (hk4 _ (by decide) _ _ K1.out) (hk4 _ (by decide) _ _ K2.out) (HQ2.out.below _ hm4.below (Nat.le_refl _)) (by omega)
        have hr := mean_run hcor hins
        obtain ⟨B, hBB⟩ : ∃ B, runR (meanC m d (simpleC l)) [] [([(d : Int)], data)] = B := ⟨_, rfl⟩
        rw [hBB] at hr
        have z0 := cell_of_row U4 cb 0 _ _ _ hc4; have z1 := cell_of_row U4 cb 1 _ _ _ hc4; have z2 := cell_of_row U4 cb 2 _ _ _ hc4; have z3 := cell_of_row U4 cb 3 _ _ _ hc4
        have HR := Lib.hid hr; have HR1 := Lib.hid hr1; have HM4 := Lib.hid hm4; have HBB := Lib.hid hBB
        clear hU4 hy7 x2 f2 hcl hm4 hc4 h34 hs4 hk4 hr1 hcor hins hr hBB HM3 K1 K2
        go_upto_region 19 with (go_at_call 18; refine HR.out.mono ?_; rintro e U5 ⟨v2, rfl, hr2, hb5⟩)
        have hs1 := rowG_sl (HR1.out.next hb5) (Nat.le_refl _)
        have hs2 := rowG_sl hr2 (Nat.le_refl _)
        have HB5 := Lib.hid (bNext hb5 HM4.out.below)
        have HS1 := Lib.hid hs1; have HS2 := Lib.hid hs2
        clear z0 z1 z2 z3 hs1 hs2 hb5 hr2 HR HR1 HM4
        by_cases h100 : A.2.2 = 100
        · have hT : (A.2.2 == 100) = true := by simpa using h100
          clear h100
          go_wp2_with fail
          go_ret
          exact ⟨rfl, HB5.out⟩
        · have hT : (A.2.2 == 100) = false := by simpa using h100
          have hlaw : B = A := by
            have := mean_law hm50 HCN.out (ins := [([(d : Int)], data)]) (by intro a ha; cases List.mem_singleton.1 ha; exact HDI.out) (by rw [HAA.out]; exact h100)
            rw [HAA.out, HBB.out] at this
            exact this
          subst hlaw
          have hU : (B.2.2 == B.2.2) = true := by simp
          have hV : (B.2.1 == B.2.1) = true := by simp
          clear h100
          go_wp2_with (go_at_call 19; refine (same08_any _ _ _ _ HS1.out HS2.out).mono ?_; rintro e U6 ⟨rfl, hb6⟩)
          go_ret
          exact ⟨rfl, bNext hb6 HB5.out⟩
      · have hy : monoRep.Sl W (.slice (some ⟨z + 1, 0, none⟩) 1 1) (polyQ d) := by rw [hpn hd0]; exact hD2
        have hG : ((d : Int) == 0) = false := by simpa using hd0
        clear hm0 hd0
        go_upto_region 13 with fail
        have HVA := Lib.hid hx; have HVB := Lib.hid hy
        clear hB hS hM hD2
        go_upto_region 14 with fail
        obtain ⟨y, hy⟩ : ∃ y, W.heap.size = y := ⟨_, rfl⟩
        rw [hy]
        obtain ⟨hb5, g1, g2, g3, g4, g5⟩ := alloc5 W hy (.cells #[(.slice (some ⟨z + 1, 0, none⟩) 1 1)] 38) (.cells #[(.slice none 0 0)] 38) (.cells #[.slice (some ⟨y, 0, none⟩) 1 1, .int .i64 0, .slice (some ⟨y + 1, 0, none⟩) 1 1, .int .i64 (-1)] 52) (.cells #[.int .i64 1] 3) (.cells #[.int .i64 0, .slice (some ⟨y + 1 + 1, 0, none⟩) 2 2, .slice none 0 0, .slice (some ⟨y + 1 + 1 + 1, 0, none⟩) 1 1] 33)
        obtain ⟨W5, hW5⟩ : ∃ U, (((((W.alloc (.cells #[(.slice (some ⟨z + 1, 0, none⟩) 1 1)] 38)).alloc (.cells #[(.slice none 0 0)] 38)).alloc (.cells #[.slice (some ⟨y, 0, none⟩) 1 1, .int .i64 0, .slice (some ⟨y + 1, 0, none⟩) 1 1, .int .i64 (-1)] 52)).alloc (.cells #[.int .i64 1] 3)).alloc (.cells #[.int .i64 0, .slice (some ⟨y + 1 + 1, 0, none⟩) 2 2, .slice none 0 0, .slice (some ⟨y + 1 + 1 + 1, 0, none⟩) 1 1] 33)) = U := ⟨_, rfl⟩
        rw [hW5] at hb5 g1 g2 g3 g4 g5 ⊢
        clear hW5
        obtain ⟨p2, hp2⟩ : ∃ p, y + 1 = p := ⟨_, rfl⟩
        rw [hp2] at g2 g3 g4 g5 ⊢
        obtain ⟨bf, hbf⟩ : ∃ p, p2 + 1 = p := ⟨_, rfl⟩
        rw [hbf] at g3 g4 g5 ⊢
        obtain ⟨ou, hou⟩ : ∃ p, bf + 1 = p := ⟨_, rfl⟩
        rw [hou] at g4 g5 ⊢
        obtain ⟨cb, hcb⟩ : ∃ p, ou + 1 = p := ⟨_, rfl⟩
        rw [hcb] at g5 ⊢
        have hmi : MeanI w W W5 (.slice none 0 0) (.slice (some ⟨z + 1, 0, none⟩) 1 1) y p2 bf ou cb := ⟨HB.out, hb5, by omega, g1, g2, g3, g4, ⟨_, g5⟩⟩
        clear hp2 hbf hou hcb hy
        have x2 := cell_of_row W5 cb 2 _ _ _ g5
        have f2 := frozen_of_row W5 cb 2 _ _ g5
        have hcl : cb < W5.heap.size := block_lt g5
        have HMI := Lib.hid hmi
        clear hb5 g1 g2 g3 g4 g5 hmi
        go_upto_region 15 with fail
        obtain ⟨y5, hy5⟩ : ∃ n, W5.heap.size = n := ⟨_, rfl⟩
        rw [hy5]
        obtain ⟨U1, hU1⟩ : ∃ U, ((W5.setCell ⟨cb, 2, none⟩ (.slice (some ⟨y5 + 1, 0, none⟩) 1 1)).alloc (.cells #[(.slice none 0 0)] 38)).alloc (.cells #[.int .i64 1, .int .i64 1, .slice none 0 0, .slice (some ⟨y5, 0, none⟩) 1 1, .int .u8 0, .slice la n lc] 42) = U := ⟨_, rfl⟩
        rw [hU1]
        obtain ⟨hm1, hc1, h31, hs1, -⟩ := HMI.out.step hy5 (.slice la n lc) hU1.symm
        obtain ⟨st1, hst1⟩ : ∃ s, y5 + 1 = s := ⟨_, rfl⟩
        rw [hst1] at hc1 hs1
        clear hU1 hy5 x2 f2 hcl HMI
        have HM1 := Lib.hid hm1; have HC1 := Lib.hid hc1; have H31 := Lib.hid h31; have HS1 := Lib.hid hs1
        clear hm1 hc1 h31 hs1
        go_upto_region 16 with fail
        obtain ⟨y6, hy6⟩ : ∃ n, U1.heap.size = n := ⟨_, rfl⟩
        rw [hy6]
        obtain ⟨hb2, k1, k2, -⟩ := alloc2 U1 hy6 (.cells #[.int .i64 d] 2) (.cells #[.slice (some ⟨y6, 0, none⟩) 1 1, .slice da d dc] 54)
        obtain ⟨U2, hU2⟩ : ∃ U, (U1.alloc (.cells #[.int .i64 d] 2)).alloc (.cells #[.slice (some ⟨y6, 0, none⟩) 1 1, .slice da d dc] 54) = U := ⟨_, rfl⟩
        rw [hU2] at hb2 k1 k2 ⊢
        obtain ⟨a2, ha2⟩ : ∃ s, y6 + 1 = s := ⟨_, rfl⟩
        rw [ha2] at k2 ⊢
        have hm2 := HM1.out.next hb2
        have hc2 := block_below HC1.out hb2
        have hcor := hm2.cor (m := m) (n := d) (block_below H31.out hb2) (block_below HS1.out hb2) HVA.out HVB.out (HA.out.below _ hm2.below (Nat.le_refl _))
        have hins := mean_ins k1 k2 (HQ2.out.below _ hm2.below (Nat.le_refl _)) (by omega)
        have hr := mean_run hcor hins
        obtain ⟨A, hAA⟩ : ∃ A, runR (meanC m d l) [] [([(d : Int)], data)] = A := ⟨_, rfl⟩
        rw [hAA] at hr
        have z0 := cell_of_row U2 cb 0 _ _ _ hc2; have z1 := cell_of_row U2 cb 1 _ _ _ hc2; have z2 := cell_of_row U2 cb 2 _ _ _ hc2; have z3 := cell_of_row U2 cb 3 _ _ _ hc2
        have HR := Lib.hid hr; have HM2 := Lib.hid hm2; have K1 := Lib.hid k1; have K2 := Lib.hid k2; have HAA := Lib.hid hAA
        clear hU2 hy6 ha2 hb2 k1 k2 hm2 hc2 hcor hins hr HM1 HC1 H31 HS1 hAA
        rw [show y5 + 1 = st1 from hst1]
        clear hst1
        go_upto_region 17 with (go_at_call 18; refine HR.out.mono ?_; rintro e U3 ⟨v1, rfl, hr1, hb3⟩)
        have hm3 := HM2.out.next hb3
        obtain ⟨vst, hbx⟩ := hm3.box
        have x2 := cell_of_row U3 cb 2 _ _ _ hbx
        have f2 := frozen_of_row U3 cb 2 _ _ hbx
        have hcl : cb < U3.heap.size := block_lt hbx
        have HM3 := Lib.hid hm3; have K1 := Lib.hid (block_below K1.out hb3); have K2 := Lib.hid (block_below K2.out hb3); have HR1 := Lib.hid hr1
        clear z0 z1 z2 z3 HR HM2 hm3 hbx hb3 hr1
        go_upto_region 18 with fail
        obtain ⟨y7, hy7⟩ : ∃ n, U3.heap.size = n := ⟨_, rfl⟩
        rw [hy7]
        obtain ⟨U4, hU4⟩ : ∃ U, ((U3.setCell ⟨cb, 2, none⟩ (.slice (some ⟨y7 + 1, 0, none⟩) 1 1)).alloc (.cells #[(.slice none 0 0)] 38)).alloc (.cells #[.int .i64 1, .int .i64 1, .slice none 0 0, .slice (some ⟨y7, 0, none⟩) 1 1, .int .u8 0, .slice sa sn sc] 42) = U := ⟨_, rfl⟩
        rw [hU4]
        obtain ⟨hm4, hc4, h34, hs4, hk4⟩ := HM3.out.step hy7 (.slice sa sn sc) hU4.symm
        have hr1 := rowG_turn HR1.out hk4
        have hcor := hm4.cor (m := m) (n := d) h34 hs4 HVA.out HVB.out (HVS.out.below _ hm4.bW (Nat.le_refl _))
        have hins := mean_ins (hk4 _ (by decide) _ _ K1.out) (hk4 _ (by decide) _ _ K2.out) (HQ2.out.below _ hm4.below (Nat.le_refl _)) (by omega)
        have hr := mean_run hcor hins
        obtain ⟨B, hBB⟩ : ∃ B, runR (meanC m d (simpleC l)) [] [([(d : Int)], data)] = B := ⟨_, rfl⟩
        rw [hBB] at hr
        have z0 := cell_of_row U4 cb 0 _ _ _ hc4; have z1 := cell_of_row U4 cb 1 _ _ _ hc4; have z2 := cell_of_row U4 cb 2 _ _ _ hc4; have z3 := cell_of_row U4 cb 3 _ _ _ hc4
        have HR := Lib.hid hr; have HR1 := Lib.hid hr1; have HM4 := Lib.hid hm4; have HBB := Lib.hid hBB
        clear hU4 hy7 x2 f2 hcl hm4 hc4 h34 hs4 hk4 hr1 hcor hins hr hBB HM3 K1 K2
        go_upto_region 19 with (go_at_call 18; refine HR.out.mono ?_; rintro e U5 ⟨v2, rfl, hr2, hb5⟩)
        have hs1 := rowG_sl (HR1.out.next hb5) (Nat.le_refl _)
        have hs2 := rowG_sl hr2 (Nat.le_refl _)
        have HB5 := Lib.hid (bNext hb5 HM4.out.below)
        have HS1 := Lib.hid hs1; have HS2 := Lib.hid hs2
        clear z0 z1 z2 z3 hs1 hs2 hb5 hr2 HR HR1 HM4
        by_cases h100 : A.2.2 = 100
        · have hT : (A.2.2 == 100) = true := by simpa using h100
          clear h100
          go_wp2_with fail
          go_ret
          exact ⟨rfl, HB5.out⟩
        · have hT : (A.2.2 == 100) = false := by simpa using h100
          have hlaw : B = A := by
            have := mean_law hm50 HCN.out (ins := [([(d : Int)], data)]) (by intro a ha; cases List.mem_singleton.1 ha; exact HDI.out) (by rw [HAA.out]; exact h100)
            rw [HAA.out, HBB.out] at this
            exact this
          subst hlaw
          have hU : (B.2.2 == B.2.2) = true := by simp
          have hV : (B.2.1 == B.2.1) = true := by simp
          clear h100
          go_wp2_with (go_at_call 19; refine (same08_any _ _ _ _ HS1.out HS2.out).mono ?_; rintro e U6 ⟨rfl, hb6⟩)
          go_ret
          exact ⟨rfl, bNext hb6 HB5.out⟩
    · have hx : monoRep.Sl W (.slice (some ⟨z, 0, none⟩) 1 1) (polyQ m) := by rw [hpn hm0]; exact hM
      have hE : ((m : Int) == 0) = false := by simpa using hm0
      by_cases hd0 : d = 0
      · have hy : monoRep.Sl W (.slice none 0 0) (polyQ d) := by rw [hd0]; exact Rep.Sl.nil _ _
        have hG : ((d : Int) == 0) = true := by rw [hd0]; rfl
        clear hm0 hd0
        go_upto_region 13 with fail
        have HVA := Lib.hid hx; have HVB := Lib.hid hy
        clear hB hS hM hD2
        go_upto_region 14 with fail
        obtain ⟨y, hy⟩ : ∃ y, W.heap.size = y := ⟨_, rfl⟩
        rw [hy]
        obtain ⟨hb5, g1, g2, g3, g4, g5⟩ := alloc5 W hy (.cells #[(.slice none 0 0)] 38) (.cells #[(.slice (some ⟨z, 0, none⟩) 1 1)] 38) (.cells #[.slice (some ⟨y, 0, none⟩) 1 1, .int .i64 0, .slice (some ⟨y + 1, 0, none⟩) 1 1, .int .i64 (-1)] 52) (.cells #[.int .i64 1] 3) (.cells #[.int .i64 0, .slice (some ⟨y + 1 + 1, 0, none⟩) 2 2, .slice none 0 0, .slice (some ⟨y + 1 + 1 + 1, 0, none⟩) 1 1] 33)
        obtain ⟨W5, hW5⟩ : ∃ U, (((((W.alloc (.cells #[(.slice none 0 0)] 38)).alloc (.cells #[(.slice (some ⟨z, 0, none⟩) 1 1)] 38)).alloc (.cells #[.slice (some ⟨y, 0, none⟩) 1 1, .int .i64 0, .slice (some ⟨y + 1, 0, none⟩) 1 1, .int .i64 (-1)] 52)).alloc (.cells #[.int .i64 1] 3)).alloc (.cells #[.int .i64 0, .slice (some ⟨y + 1 + 1, 0, none⟩) 2 2, .slice none 0 0, .slice (some ⟨y + 1 + 1 + 1, 0, none⟩) 1 1] 33)) = U := ⟨_, rfl⟩
        rw [hW5] at hb5 g1 g2 g3 g4 g5 ⊢
        clear hW5
        obtain ⟨p2, hp2⟩ : ∃ p, y + 1 = p := ⟨_, rfl⟩
        rw [hp2] at g2 g3 g4 g5 ⊢
        obtain ⟨bf, hbf⟩ : ∃ p, p2 + 1 = p := ⟨_, rfl⟩
        rw [hbf] at g3 g4 g5 ⊢
        obtain ⟨ou, hou⟩ : ∃ p, bf + 1 = p := ⟨_, rfl⟩
        rw [hou] at g4 g5 ⊢
        obtain ⟨cb, hcb⟩ : ∃ p, ou + 1 = p := ⟨_, rfl⟩
        rw [hcb] at g5 ⊢
        have hmi : MeanI w W W5 (.slice (some ⟨z, 0, none⟩) 1 1) (.slice none 0 0) y p2 bf ou cb := ⟨HB.out, hb5, by omega, g1, g2, g3, g4, ⟨_, g5⟩⟩
        clear hp2 hbf hou hcb hy
        have x2 := cell_of_row W5 cb 2 _ _ _ g5
        have f2 := frozen_of_row W5 cb 2 _ _ g5
        have hcl : cb < W5.heap.size := block_lt g5
        have HMI := Lib.hid hmi
        clear hb5 g1 g2 g3 g4 g5 hmi
        go_upto_region 15 with fail
        obtain ⟨y5, hy5⟩ : ∃ n, W5.heap.size = n := ⟨_, rfl⟩
        rw [hy5]
        obtain ⟨U1, hU1⟩ : ∃ U, ((W5.setCell ⟨cb, 2, none⟩ (.slice (some ⟨y5 + 1, 0, none⟩) 1 1)).alloc (.cells #[(.slice (some ⟨z, 0, none⟩) 1 1)] 38)).alloc (.cells #[.int .i64 1, .int .i64 1, .slice none 0 0, .slice (some ⟨y5, 0, none⟩) 1 1, .int .u8 0, .slice la n lc] 42) = U := ⟨_, rfl⟩
        rw [hU1]
        obtain ⟨hm1, hc1, h31, hs1, -⟩ := HMI.out.step hy5 (.slice la n lc) hU1.symm
        obtain ⟨st1, hst1⟩ : ∃ s, y5 + 1 = s := ⟨_, rfl⟩
        rw [hst1] at hc1 hs1
        clear hU1 hy5 x2 f2 hcl HMI
        have HM1 := Lib.hid hm1; have HC1 := Lib.hid hc1; have H31 := Lib.hid h31; have HS1 := Lib.hid hs1
        clear hm1 hc1 h31 hs1
        go_upto_region 16 with fail
        obtain ⟨y6, hy6⟩ : ∃ n, U1.heap.size = n := ⟨_, rfl⟩
        rw [hy6]
        obtain ⟨hb2, k1, k2, -⟩ := alloc2 U1 hy6 (.cells #[.int .i64 d] 2) (.cells #[.slice (some ⟨y6, 0, none⟩) 1 1, .slice da d dc] 54)
        obtain ⟨U2, hU2⟩ : ∃ U, (U1.alloc (.cells #[.int .i64 d] 2)).alloc (.cells #[.slice (some ⟨y6, 0, none⟩) 1 1, .slice da d dc] 54) = U := ⟨_, rfl⟩
        rw [hU2] at hb2 k1 k2 ⊢
        obtain ⟨a2, ha2⟩ : ∃ s, y6 + 1 = s := ⟨_, rfl⟩
        rw [ha2] at k2 ⊢
        have hm2 := HM1.out.next hb2
        have hc2 := block_below HC1.out hb2
        have hcor := hm2.cor (m := m) (n := d) (block_below H31.out hb2) (block_below HS1.out hb2) HVA.out HVB.out (HA.out.below _ hm2.below (Nat.le_refl _))
        have hins := mean_ins k1 k2 (HQ2.out.below _ hm2.below (Nat.le_refl _)) (by omega)
        have hr := mean_run hcor hins
        obtain ⟨A, hAA⟩ : ∃ A, runR (meanC m d l) [] [([(d : Int)], data)] = A := ⟨_, rfl⟩
        rw [hAA] at hr
        have z0 := cell_of_row U2 cb 0 _ _ _ hc2; have z1 := cell_of_row U2 cb 1 _ _ _ hc2; have z2 := cell_of_row U2 cb 2 _ _ _ hc2; have z3 := cell_of_row U2 cb 3 _ _ _ hc2
        have HR := Lib.hid hr; have HM2 := Lib.hid hm2; have K1 := Lib.hid k1; have K2 := Lib.hid k2; have HAA := Lib.hid hAA
        clear hU2 hy6 ha2 hb2 k1 k2 hm2 hc2 hcor hins hr HM1 HC1 H31 HS1 hAA
        rw [show y5 + 1 = st1 from hst1]
        clear hst1
        go_upto_region 17 with (go_at_call 18; refine HR.out.mono ?_; rintro e U3 ⟨v1, rfl, hr1, hb3⟩)
        have hm3 := HM2.out.next hb3
        obtain ⟨vst, hbx⟩ := hm3.box
        have x2 := cell_of_row U3 cb 2 _ _ _ hbx
        have f2 := frozen_of_row U3 cb 2 _ _ hbx
        have hcl : cb < U3.heap.size := block_lt hbx
        have HM3 := Lib.hid hm3; have K1 := Lib.hid (block_below K1.out hb3); have K2 := Lib.hid (block_below K2.out hb3); have HR1 := Lib.hid hr1
        clear z0 z1 z2 z3 HR HM2 hm3 hbx hb3 hr1
        go_upto_region 18 with fail
        obtain ⟨y7, hy7⟩ : ∃ n, U3.heap.size = n := ⟨_, rfl⟩
        rw [hy7]
        obtain ⟨U4, hU4⟩ : ∃ U, ((U3.setCell ⟨cb, 2, none⟩ (.slice (some ⟨y7 + 1, 0, none⟩) 1 1)).alloc (.cells #[(.slice (some ⟨z, 0, none⟩) 1 1)] 38)).alloc (.cells #[.int .i64 1, .int .i64 1, .slice none 0 0, .slice (some ⟨y7, 0, none⟩) 1 1, .int .u8 0, .slice sa sn sc] 42) = U := ⟨_, rfl⟩
        rw [hU4]
        obtain ⟨hm4, hc4, h34, hs4, hk4⟩ := HM3.out.step hy7 (.slice sa sn sc) hU4.symm
        have hr1 := rowG_turn HR1.out hk4
        have hcor := hm4.cor (m := m) (n := d) h34 hs4 HVA.out HVB.out (HVS.out.below _ hm4.bW (Nat.le_refl _))
        have hins := mean_ins (hk4 _ (by decide) _ _ K1.out) (hk4 _ (by decide) _ _ K2.out) (HQ2.out.below _ hm4.below (Nat.le_refl _)) (by omega)
        have hr := mean_run hcor hins
        obtain ⟨B, hBB⟩ : ∃ B, runR (meanC m d (simpleC l)) [] [([(d : Int)], data)] = B := ⟨_, rfl⟩
        rw [hBB] at hr
        have z0 := cell_of_row U4 cb 0 _ _ _ hc4; have z1 := cell_of_row U4 cb 1 _ _ _ hc4; have z2 := cell_of_row U4 cb 2 _ _ _ hc4; have z3 := cell_of_row U4 cb 3 _ _ _ hc4
        have HR := Lib.hid hr; have HR1 := Lib.hid hr1; have HM4 := Lib.hid hm4; have HBB := Lib.hid hBB
        clear hU4 hy7 x2 f2 hcl hm4 hc4 h34 hs4 hk4 hr1 hcor hins hr hBB HM3 K1 K2
        go_upto_region 19 with (go_at_call 18; refine HR.out.mono ?_; rintro e U5 ⟨v2, rfl, hr2, hb5⟩)
        have hs1 := rowG_sl (HR1.out.next hb5) (Nat.le_refl _)
        have hs2 := rowG_sl hr2 (Nat.le_refl _)
        have HB5 := Lib.hid (bNext hb5 HM4.out.below)
        have HS1 := Lib.hid hs1; have HS2 := Lib.hid hs2
        clear z0 z1 z2 z3 hs1 hs2 hb5 hr2 HR HR1 HM4
        by_cases h100 : A.2.2 = 100
        · have hT : (A.2.2 == 100) = true := by simpa using h100
          clear h100
          go_wp2_with fail
          go_ret
          exact ⟨rfl, HB5.out⟩
        · have hT : (A.2.2 == 100) = false := by simpa using h100
          have hlaw : B = A := by
            have := mean_law hm50 HCN.out (ins := [([(d : Int)], data)]) (by intro a ha; cases List.mem_singleton.1 ha; exact HDI.out) (by rw [HAA.out]; exact h100)
            rw [HAA.out, HBB.out] at this
            exact this
          subst hlaw
          have hU : (B.2.2 == B.2.2) = true := by simp
          have hV : (B.2.1 == B.2.1) = true := by simp
          clear h100
          go_wp2_with (go_at_call 19; refine (same08_any _ _ _ _ HS1.out HS2.out).mono ?_; rintro e U6 ⟨rfl, hb6⟩)
          go_ret
          exact ⟨rfl, bNext hb6 HB5.out⟩
      · have hy : monoRep.Sl W (.slice (some ⟨z + 1, 0, none⟩) 1 1) (polyQ d) := by rw [hpn hd0]; exact hD2
        have hG : ((d : Int) == 0) = false := by simpa using hd0
        clear hm0 hd0
        go_upto_region 13 with fail
        have HVA := Lib.hid hx; have HVB := Lib.hid hy
        clear hB hS hM hD2
        go_upto_region 14 with fail
        obtain ⟨y, hy⟩ : ∃ y, W.heap.size = y := ⟨_, rfl⟩
        rw [hy]
        obtain ⟨hb5, g1, g2, g3, g4, g5⟩ := alloc5 W hy (.cells #[(.slice (some ⟨z + 1, 0, none⟩) 1 1)] 38) (.cells #[(.slice (some ⟨z, 0, none⟩) 1 1)] 38) (.cells #[.slice (some ⟨y, 0, none⟩) 1 1, .int .i64 0, .slice (some ⟨y + 1, 0, none⟩) 1 1, .int .i64 (-1)] 52) (.cells #[.int .i64 1] 3) (.cells #[.int .i64 0, .slice (some ⟨y + 1 + 1, 0, none⟩) 2 2, .slice none 0 0, .slice (some ⟨y + 1 + 1 + 1, 0, none⟩) 1 1] 33)
        obtain ⟨W5, hW5⟩ : ∃ U, (((((W.alloc (.cells #[(.slice (some ⟨z + 1, 0, none⟩) 1 1)] 38)).alloc (.cells #[(.slice (some ⟨z, 0, none⟩) 1 1)] 38)).alloc (.cells #[.slice (some ⟨y, 0, none⟩) 1 1, .int .i64 0, .slice (some ⟨y + 1, 0, none⟩) 1 1, .int .i64 (-1)] 52)).alloc (.cells #[.int .i64 1] 3)).alloc (.cells #[.int .i64 0, .slice (some ⟨y + 1 + 1, 0, none⟩) 2 2, .slice none 0 0, .slice (some ⟨y + 1 + 1 + 1, 0, none⟩) 1 1] 33)) = U := ⟨_, rfl⟩
        rw [hW5] at hb5 g1 g2 g3 g4 g5 ⊢
        clear hW5
        obtain ⟨p2, hp2⟩ : ∃ p, y + 1 = p := ⟨_, rfl⟩
        rw [hp2] at g2 g3 g4 g5 ⊢
        obtain ⟨bf, hbf⟩ : ∃ p, p2 + 1 = p := ⟨_, rfl⟩
        rw [hbf] at g3 g4 g5 ⊢
        obtain ⟨ou, hou⟩ : ∃ p, bf + 1 = p := ⟨_, rfl⟩
        rw [hou] at g4 g5 ⊢
        obtain ⟨cb, hcb⟩ : ∃ p, ou + 1 = p := ⟨_, rfl⟩
        rw [hcb] at g5 ⊢
        have hmi : MeanI w W W5 (.slice (some ⟨z, 0, none⟩) 1 1) (.slice (some ⟨z + 1, 0, none⟩) 1 1) y p2 bf ou cb := ⟨HB.out, hb5, by omega, g1, g2, g3, g4, ⟨_, g5⟩⟩
        clear hp2 hbf hou hcb hy
        have x2 := cell_of_row W5 cb 2 _ _ _ g5
        have f2 := frozen_of_row W5 cb 2 _ _ g5
        have hcl : cb < W5.heap.size := block_lt g5
        have HMI := Lib.hid hmi
        clear hb5 g1 g2 g3 g4 g5 hmi
        go_upto_region 15 with fail
        obtain ⟨y5, hy5⟩ : ∃ n, W5.heap.size = n := ⟨_, rfl⟩
        rw [hy5]
        obtain ⟨U1, hU1⟩ : ∃ U, ((W5.setCell ⟨cb, 2, none⟩ (.slice (some ⟨y5 + 1, 0, none⟩) 1 1)).alloc (.cells #[(.slice (some ⟨z, 0, none⟩) 1 1)] 38)).alloc (.cells #[.int .i64 1, .int .i64 1, .slice none 0 0, .slice (some ⟨y5, 0, none⟩) 1 1, .int .u8 0, .slice la n lc] 42) = U := ⟨_, rfl⟩
        rw [hU1]
        obtain ⟨hm1, hc1, h31, hs1, -⟩ := HMI.out.step hy5 (.slice la n lc) hU1.symm
        obtain ⟨st1, hst1⟩ : ∃ s, y5 + 1 = s := ⟨_, rfl⟩
        rw [hst1] at hc1 hs1
        clear hU1 hy5 x2 f2 hcl HMI
        have HM1 := Lib.hid hm1; have HC1 := Lib.hid hc1; have H31 := Lib.hid h31; have HS1 := Lib.hid hs1
        clear hm1 hc1 h31 hs1
        go_upto_region 16 with fail
        obtain ⟨y6, hy6⟩ : ∃ n, U1.heap.size = n := ⟨_, rfl⟩
        rw [hy6]
        obtain ⟨hb2, k1, k2, -⟩ := alloc2 U1 hy6 (.cells #[.int .i64 d] 2) (.cells #[.slice (some ⟨y6, 0, none⟩) 1 1, .slice da d dc] 54)
        obtain ⟨U2, hU2⟩ : ∃ U, (U1.alloc (.cells #[.int .i64 d] 2)).alloc (.cells #[.slice (some ⟨y6, 0, none⟩) 1 1, .slice da d dc] 54) = U := ⟨_, rfl⟩
        rw [hU2] at hb2 k1 k2 ⊢
        obtain ⟨a2, ha2⟩ : ∃ s, y6 + 1 = s := ⟨_, rfl⟩
        rw [ha2] at k2 ⊢
        have hm2 := HM1.out.next hb2
        have hc2 := block_below HC1.out hb2
        have hcor := hm2.cor (m := m) (n := d) (block_below H31.out hb2) (block_below HS1.out hb2) HVA.out HVB.out (HA.out.below _ hm2.below (Nat.le_refl _))
        have hins := mean_ins k1 k2 (HQ2.out.below _ hm2.below (Nat.le_refl _)) (by omega)
        have hr := mean_run hcor hins
        obtain ⟨A, hAA⟩ : ∃ A, runR (meanC m d l) [] [([(d : Int)], data)] = A := ⟨_, rfl⟩
        rw [hAA] at hr
        have z0 := cell_of_row U2 cb 0 _ _ _ hc2; have z1 := cell_of_row U2 cb 1 _ _ _ hc2; have z2 := cell_of_row U2 cb 2 _ _ _ hc2; have z3 := cell_of_row U2 cb 3 _ _ _ hc2
        have HR := Lib.hid hr; have HM2 := Lib.hid hm2; have K1 := Lib.hid k1; have K2 := Lib.hid k2; have HAA := Lib.hid hAA
        clear hU2 hy6 ha2 hb2 k1 k2 hm2 hc2 hcor hins hr HM1 HC1 H31 HS1 hAA
        rw [show y5 + 1 = st1 from hst1]
        clear hst1
        go_upto_region 17 with (go_at_call 18; refine HR.out.mono ?_; rintro e U3 ⟨v1, rfl, hr1, hb3⟩)
        have hm3 := HM2.out.next hb3
        obtain ⟨vst, hbx⟩ := hm3.box
        have x2 := cell_of_row U3 cb 2 _ _ _ hbx
        have f2 := frozen_of_row U3 cb 2 _ _ hbx
        have hcl : cb < U3.heap.size := block_lt hbx
        have HM3 := Lib.hid hm3; have K1 := Lib.hid (block_below K1.out hb3); have K2 := Lib.hid (block_below K2.out hb3); have HR1 := Lib.hid hr1
        clear z0 z1 z2 z3 HR HM2 hm3 hbx hb3 hr1
        go_upto_region 18 with fail
        obtain ⟨y7, hy7⟩ : ∃ n, U3.heap.size = n := ⟨_, rfl⟩
        rw [hy7]
        obtain ⟨U4, hU4⟩ : ∃ U, ((U3.setCell ⟨cb, 2, none⟩ (.slice (some ⟨y7 + 1, 0, none⟩) 1 1)).alloc (.cells #[(.slice (some ⟨z, 0, none⟩) 1 1)] 38)).alloc (.cells #[.int .i64 1, .int .i64 1, .slice none 0 0, .slice (some ⟨y7, 0, none⟩) 1 1, .int .u8 0, .slice sa sn sc] 42) = U := ⟨_, rfl⟩
        rw [hU4]
        obtain ⟨hm4, hc4, h34, hs4, hk4⟩ := HM3.out.step hy7 (.slice sa sn sc) hU4.symm
        have hr1 := rowG_turn HR1.out hk4
        have hcor := hm4.cor (m := m) (n := d) h34 hs4 HVA.out HVB.out (HVS.out.below _ hm4.bW (Nat.le_refl _))
        have hins := mean_ins (hk4 _ (by decide) _ _ K1.out) (hk4 _ (by decide) _ _ K2.out) (HQ2.out.below _ hm4.below (Nat.le_refl _)) (by omega)
        have hr := mean_run hcor hins
        obtain ⟨B, hBB⟩ : ∃ B, runR (meanC m d (simpleC l)) [] [([(d : Int)], data)] = B := ⟨_, rfl⟩
        rw [hBB] at hr
        have z0 := cell_of_row U4 cb 0 _ _ _ hc4; have z1 := cell_of_row U4 cb 1 _ _ _ hc4; have z2 := cell_of_row U4 cb 2 _ _ _ hc4; have z3 := cell_of_row U4 cb 3 _ _ _ hc4
        have HR := Lib.hid hr; have HR1 := Lib.hid hr1; have HM4 := Lib.hid hm4; have HBB := Lib.hid hBB
        clear hU4 hy7 x2 f2 hcl hm4 hc4 h34 hs4 hk4 hr1 hcor hins hr hBB HM3 K1 K2
        go_upto_region 19 with (go_at_call 18; refine HR.out.mono ?_; rintro e U5 ⟨v2, rfl, hr2, hb5⟩)
        have hs1 := rowG_sl (HR1.out.next hb5) (Nat.le_refl _)
        have hs2 := rowG_sl hr2 (Nat.le_refl _)
        have HB5 := Lib.hid (bNext hb5 HM4.out.below)
        have HS1 := Lib.hid hs1; have HS2 := Lib.hid hs2
        clear z0 z1 z2 z3 hs1 hs2 hb5 hr2 HR HR1 HM4
        by_cases h100 : A.2.2 = 100
        · have hT : (A.2.2 == 100) = true := by simpa using h100
          clear h100
          go_wp2_with fail
          go_ret
          exact ⟨rfl, HB5.out⟩
        · have hT : (A.2.2 == 100) = false := by simpa using h100
          have hlaw : B = A := by
            have := mean_law hm50 HCN.out (ins := [([(d : Int)], data)]) (by intro a ha; cases List.mem_singleton.1 ha; exact HDI.out) (by rw [HAA.out]; exact h100)
            rw [HAA.out, HBB.out] at this
            exact this
          subst hlaw
          have hU : (B.2.2 == B.2.2) = true := by simp
          have hV : (B.2.1 == B.2.1) = true := by simp
          clear h100
          go_wp2_with (go_at_call 19; refine (same08_any _ _ _ _ HS1.out HS2.out).mono ?_; rintro e U6 ⟨rfl, hb6⟩)
          go_ret
          exact ⟨rfl, bNext hb6 HB5.out⟩

set_option maxRecDepth 100000 in
theorem SimpMeans_lifted (os : Os) (started : os.Started) (H : Type) (enc : TypeId × Value → H) :
    ReturnsInHanded {} Try.checked os 7 .any (Rows.simpMeansSpec.pre6 enc Try.prog Try.f7 Rows.simpMeansRow.domain false) (Rows.simpMeansSpec.post enc Try.prog Try.f7 false true false false) := by
  refine returnsInHanded_of_change_sized (C := Try.checked) own started (by kernel_rfl) Try.func7
    (ChangeSpec.witness6 (enc := enc) (C := Try.checked) false ⟨#[], #[.slice none 0 0, .int .i64 0, .slice none 0 0], []⟩ 8 (by kernel_rfl) (by kernel_rfl) (by kernel_rfl) (by kernel_rfl)) ?_
  intro W base args ds gs before hval0 hW hcnd hsz _
  have hval : ∀ (j : Nat) t v, Try.f7.params[j]? = some t → args[j]? = some v → Value.okWide Try.prog W .any base t v := hval0
  have hW' := hW
  obtain ⟨p, q, hA0, hV, rfl, hfz, hnd⟩ := hW
  have hA : DataW.TrodAll enc Try.prog W 0 (fun _ => true) true Try.f7.params.toList args.toList ds p := hA0
  rw [Try.params7] at hA hval
  obtain ⟨v0, vs0, d0, ds0, p0, q0, hargs, rfl, rfl, h0, r0⟩ := trodAll_cons hA
  obtain ⟨v1, vs1, d1, ds1, p1, q1, rfl, rfl, rfl, h1, r1⟩ := trodAll_cons r0
  obtain ⟨v2, vs2, d2, ds2, p2, q2, rfl, rfl, rfl, h2, r2⟩ := trodAll_cons r1
  obtain ⟨rfl, rfl, rfl⟩ := trodAll_nil r2
  obtain rfl : args = #[v0, v1, v2] := by cases args; simp_all
  obtain ⟨rfl, rfl⟩ := trodVars_none hV
  have k0 := h0
  have lt0 : ∀ x ∈ p0, x.block < W.heap.size := by obtain ⟨m, hm⟩ := k0; exact DataW.trod_lt m _ _ _ hm
  obtain ⟨xs0, s0, hb0⟩ := open_copsS (hval 0 22 v0 rfl rfl) h0
  have bb0 := hb0 (fun n hn => of_decide_eq_true (List.all_eq_true.1 hsz n (DataW.weights_mem_each (j := 0) rfl rfl n hn)))
  obtain ⟨a1, rfl, rfl, rfl, w1⟩ := open_int Try.underlying3 (hval 1 3 v1 rfl rfl) h1
  have k2 := h2
  have lt2 : ∀ x ∈ p2, x.block < W.heap.size := by obtain ⟨m, hm⟩ := k2; exact DataW.trod_lt m _ _ _ hm
  obtain ⟨xs2, s2⟩ := opens_sl Try.underlying50 opens_i64s (hval 2 50 v2 rfl rfl) h2
  clear hA0 hval0
  refine (SimpMeans_walk W v0 xs0 a1 v2 xs2 s0 bb0 w1 s2).mono fun e W' ⟨he, bel⟩ => ?_
  subst he
  exact ⟨_, rfl, _, _, _, [], _, [], hW', trodAll_mk1 (shut_bool Try.underlying4 _), (trodAll_cons_mk (Below.trod laidOut (by kernel_rfl) (of_decide_eq_true (by kernel_rfl)) k0 bel lt0) (trodAll_cons_mk (shut_int Try.underlying3 w1) (trodAll_cons_mk (Below.trod laidOut (by kernel_rfl) (of_decide_eq_true (by kernel_rfl)) k2 bel lt2) trodAll_mk0))), rfl, bel.frame _, fun h => by cases h⟩

/-- The given statement. -/
theorem SimpMeans_holds : Rows.SimpMeansSaid :=
  OpenClaim.holds_of_wide 7 Try.f7 rfl rfl rfl rfl rfl rfl rfl ⟨rfl, rfl, rfl, rfl, rfl⟩ rfl rfl rfl rfl rfl (by kernel_rfl) Try.func7 (by kernel_rfl)
    (of_decide_eq_true (by kernel_rfl)) (by unfold Func.isWrapper; rw [if_neg (by decide +kernel)]; exact ⟨rfl, rfl⟩)
    (fun os started H enc _ => SimpMeans_lifted os started H enc)
#print axioms SimpMeans_holds
end Go.Proofs.Ytmlfeocdcjhhaaa
