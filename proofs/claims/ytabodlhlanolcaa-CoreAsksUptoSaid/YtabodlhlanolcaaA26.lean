import Derived.Test.YtabodlhlanolcaaA25
namespace Go.Proofs.Ytabodlhlanolcaa
set_option maxRecDepth 100000
open Go.RowKit
set_option linter.unusedVariables false
set_option linter.unusedSimpArgs false
attribute [local go_sem ↓] Go.wp_at_zero Go.wp_at_succ

/-! core.size. -/
theorem any_zero {l : List Int} (hb : ∀ x ∈ l, 0 ≤ x ∧ x ≤ 65536) (h : (l.any fun x => x == 0) = false) : ∀ x ∈ l, 1 ≤ x ∧ x ≤ 65536 := fun x hx => by
  have := List.any_eq_false.1 h x hx
  have h2 := hb x hx
  simp at this
  omega
theorem mul_bd {a n : Int} (h0 : 0 ≤ a) (h1 : a ≤ 65536) (h2 : 1 ≤ n) (h3 : n ≤ 65536) : 0 ≤ a * n ∧ a * n ≤ 4294967296 :=
  ⟨Int.mul_nonneg h0 (by omega), by have := Int.mul_le_mul h1 h3 (by omega) (by omega); omega⟩
set_option maxHeartbeats 16000000 in
theorem csize_any (w : World) (a : Option Addr) (c : Nat) (sides : List (List Mono)) (hse : polyRep.Els w a sides) (hsl : sides.length ≤ 1048576) (ad : Option Addr) (cd : Nat) (D : List Int) (hd : IntsAt .i64 w ad D) (hld : D.length ≤ 9223372036854775807) :
    Calls Try.prog 30 #[.slice a sides.length c, .slice ad D.length cd] w fun e w' => e = twoB (sizeS D sides) ∧ Below w.heap.size w w' := by
  obtain ⟨i0, hi, hz0, hz1, hz2⟩ := info_parts Try.info2
  have Hi := Lib.hid hi; have Hz0 := Lib.hid hz0; have Hz1 := Lib.hid hz1; have Hz2 := Lib.hid hz2; clear hi hz0 hz1 hz2
  have HSE := Lib.hid hse; have HD := Lib.hid hd
  clear hse hd
  go_enter Try.func30, Try.ntmps30
  go_wp2
  go_loopw [6, 16] (fun v i wr => ∃ (k : Nat) (l : List Int), k ≤ sides.length ∧ i = .int .i64 k ∧ l.length = k ∧ valsO D sides [] = valsO D (sides.drop k) l ∧ RowI w.heap.size wr v l ∧ (∀ x ∈ l, 0 ≤ x ∧ x ≤ 65536) ∧ Below w.heap.size w wr) (fun _ i _ => sides.length - (intOf i).toNat)
  case atStart => exact ⟨0, [], Nat.zero_le _, rfl, rfl, rfl, RowI.nil _ _, by simp, Below.refl _ _⟩
  case round =>
    obtain ⟨k, l, hk, rfl, hl, hv, hrow, hbd, hB⟩ := hrel
    have Hl := Lib.hid hl; have Hv := Lib.hid hv; have Hrow := Lib.hid hrow; have Hbd := Lib.hid hbd; have HB := Lib.hid hB
    clear hl hv hrow hbd
    have hz0 : (0 : Int) ≤ (k : Int) := by omega
    by_cases hlt : k < sides.length
    · have hz1 : (k : Int) < (sides.length : Int) := by omega
      obtain ⟨b, off, cs, rfl, ⟨v, rfl, hs⟩, hc⟩ := (HSE.out.below polyRep hB (Nat.le_refl _)) k hlt
      have e0 := hc 0 _ rfl
      simp only [show polyRep.n = 1 from rfl, Nat.add_zero, Nat.mul_one] at e0
      obtain ⟨pa, pc, rfl, hpl, hpe⟩ := Rep.Sl.form hs
      have hq := eval_any wr pa pc sides[k] ad cd D hpe hpl (HD.out.below hB (Nat.le_refl _)) hld
      obtain ⟨p, hp⟩ : ∃ p, sides[k] = p := ⟨_, rfl⟩
      rw [hp] at hq e0
      have HN : Hid (sideO D p = none → sizeS D sides = (0, false)) := Lib.hid fun h => by unfold sizeS; rw [Hv.out, vals_none hlt _ (by rw [hp]; exact h)]
      have HG : Hid (∀ n, sideO D p = some n → valsO D sides [] = valsO D (sides.drop (k + 1)) (l ++ [n])) := Lib.hid fun n h => by rw [Hv.out, vals_step hlt _ (by rw [hp]; exact h)]
      have HSB : Hid ((evalS p D).2 ≠ 0 ∨ (evalS p D).1 < 0 ∨ 65536 < (evalS p D).1 → sideO D p = none) := Lib.hid side_bad
      have HSG : Hid ((evalS p D).2 = 0 → 0 ≤ (evalS p D).1 → (evalS p D).1 ≤ 65536 → sideO D p = some (evalS p D).1) := Lib.hid side_good
      obtain ⟨r, hr⟩ : ∃ r, evalS p D = r := ⟨_, rfl⟩
      rw [hr] at hq HSB HSG
      obtain ⟨x, e⟩ := r
      unfold two at hq
      dsimp only at hq HSB HSG
      have HQ := Lib.hid hq
      clear hq hs hc hpe hp hr hB
      by_cases c0 : e = 0
      case neg =>
        have c0' : (e != 0) = true := by simp [c0]
        have HR := Lib.hid (HN.out (HSB.out (.inl c0)))
        clear c0
        go_wp2_with (go_at_call 51; refine HQ.out.mono ?_; rintro e w2 ⟨rfl, hb2⟩)
        go_ret2
        exact ⟨ret_twoB HR.out, bNext hb2 HB.out⟩
      subst c0
      by_cases c1 : x < 0
      · have HR := Lib.hid (HN.out (HSB.out (.inr (.inl c1))))
        go_wp2_with (go_at_call 51; refine HQ.out.mono ?_; rintro e w2 ⟨rfl, hb2⟩)
        go_ret2
        exact ⟨ret_twoB HR.out, bNext hb2 HB.out⟩
      have c1' : decide (x < 0) = false := by simpa using c1
      by_cases c2 : 65536 < x
      · have HR := Lib.hid (HN.out (HSB.out (.inr (.inr c2))))
        go_wp2_with (go_at_call 51; refine HQ.out.mono ?_; rintro e w2 ⟨rfl, hb2⟩)
        go_ret2
        exact ⟨ret_twoB HR.out, bNext hb2 HB.out⟩
      have c2' : decide (65536 < x) = false := by simpa using c2
      have HR := Lib.hid (HG.out x (HSG.out rfl (by omega) (by omega)))
      go_upto_region 8 with (go_at_call 51; refine HQ.out.mono ?_; rintro e w2 ⟨rfl, hb2⟩)
      have Hrow2 := Lib.hid (Hrow.out.below hb2)
      have HB2 := Lib.hid (bNext hb2 HB.out)
      clear hb2 HQ e0
      go_wp2_with (at_builtin; (refine wpList_append_own _ rfl _ _ 29 rfl w.heap.size 2 i0 (.int .i64 0) 1 8 Try.underlying29 Hi.out Hz0.out Hz1.out Hz2.out rfl (by decide) _ l.length (l.map (Value.int .i64)) rfl (World.ownsRow.alloc Hrow2.out _) ⟨w2.heap.size, 0, none⟩ 1 1 [.int .i64 x] rfl rfl (cell_one_new _ _ _) (oneCell_ints .i64 [x]) (by have := Hl.out; unfold maxLen; omega) (by have := Hl.out; omega) (by have := HB2.out.size; simp; omega) ?_))
      intro v' w5 hown hgrow _
      have hrow5 : RowI w.heap.size w5 v' (l ++ [x]) := by
        unfold RowI; rw [List.length_append, List.map_append]; exact hown
      have Hrow5 := Lib.hid hrow5; have HGR := Lib.hid hgrow
      clear hown hgrow hrow5
      go_wp2_with fail
      go_roundw
      case rel => exact ⟨k + 1, l ++ [x], by omega, by go_num, by rw [List.length_append, Hl.out]; rfl, HR.out, Hrow5.out, (fun y hy => by
        rcases List.mem_append.1 hy with h | h
        · exact Hbd.out y h
        · cases List.mem_singleton.1 h; omega), (HB2.out.alloc HB2.out.size _).grown HGR.out (by have := HB2.out.size; simp; omega) (fun j hj => (World.ownsRow.lt Hrow2.out j hj).1)⟩
      case measure => simp [intOf]; omega
    · have ek : k = sides.length := by omega
      subst ek
      have hS : sizeS D sides = sizeP l := by unfold sizeS; rw [Hv.out, List.drop_length]; rfl
      obtain ⟨va, vc, rfl, hvl, hvi⟩ := Hrow.out.slice
      have hll : l.length ≤ 9223372036854775807 := by unfold maxLen at hvl; omega
      have hct := containsN wr va vc l 0 hll hvi
      have HS := Lib.hid hS; have HVI := Lib.hid hvi
      cases hany : (l.any fun x => x == 0) with
      | true =>
        rw [hany] at hct
        have HC := Lib.hid hct
        have HR := Lib.hid (show sizeS D sides = (0, true) from by rw [HS.out]; unfold sizeP; rw [if_pos hany])
        clear hct hany hS hvi hvl
        go_wp2_with (go_at_call 52; refine HC.out.mono ?_; rintro e w2 ⟨rfl, rfl⟩)
        go_ret2
        exact ⟨ret_twoB HR.out, HB.out⟩
      | false =>
        rw [hany] at hct
        have HC := Lib.hid hct
        have HR : Hid (∀ o, prodO l 1 = o → sizeS D sides = prodE o) := Lib.hid fun o h => by rw [HS.out]; unfold sizeP; rw [if_neg (by rw [hany]; simp), h]
        have HP := Lib.hid (any_zero Hbd.out hany)
        clear hct hany hS hvi HS
        go_upto_region 13 with (go_at_call 52; refine HC.out.mono ?_; rintro e w2 ⟨rfl, rfl⟩)
        clear HC
        go_wp2
        go_loop [11, 45] (fun p i => ∃ (j : Nat) (m : Int), j ≤ l.length ∧ i = .int .i64 j ∧ p = .int .i64 m ∧ 0 ≤ m ∧ m ≤ 65536 ∧ prodO l 1 = prodO (l.drop j) m) (fun _ i => l.length - (intOf i).toNat)
        case atStart => exact ⟨0, 1, Nat.zero_le _, rfl, rfl, by omega, by omega, rfl⟩
        case round =>
          obtain ⟨j, m, hj, rfl, rfl, hm0, hm1, hp⟩ := hrel
          have Hp := Lib.hid hp
          clear hp
          by_cases hlt2 : j < l.length
          · obtain ⟨b, off, rfl, x0⟩ := HVI.out j hlt2
            have hz2 : (j : Int) < (l.length : Int) := by omega
            have hps := prod_step hlt2 m
            have hxb := HP.out l[j] (List.getElem_mem _)
            obtain ⟨x, hx⟩ : ∃ x, l[j] = x := ⟨_, rfl⟩
            rw [hx] at hps x0 hxb
            obtain ⟨q0, q1⟩ := mul_bd hm0 hm1 hxb.1 hxb.2
            have Hps := Lib.hid hps
            clear hps hx hxb
            by_cases big : 65536 < m * x
            · have HE := Lib.hid (HR.out none (by rw [Hp.out, Hps.out, if_pos big]))
              go_wp2_with fail
              go_ret2
              exact ⟨ret_twoB HE.out, HB.out⟩
            · have big' : decide (65536 < m * x) = false := by simpa using big
              have HE := Lib.hid (show prodO l 1 = prodO (l.drop (j + 1)) (m * x) from by rw [Hp.out, Hps.out, if_neg big])
              go_wp2_with fail
              go_round
              case rel => exact ⟨j + 1, m * x, by omega, by go_num, by go_num, by omega, by omega, HE.out⟩
              case measure => simp [intOf]; omega
          · have HE := Lib.hid (HR.out (some m) (by rw [Hp.out, List.drop_eq_nil_of_le (by omega)]; rfl))
            go_wp2_with fail
            go_ret2
            exact ⟨ret_twoB HE.out, HB.out⟩
end Go.Proofs.Ytabodlhlanolcaa
