import Derived.Test.YtabodlhlanolcaaA28
namespace Go.Proofs.Ytabodlhlanolcaa
set_option maxRecDepth 100000
open Go.RowKit
set_option linter.unusedVariables false
set_option linter.unusedSimpArgs false
attribute [local go_sem ↓] Go.wp_at_zero Go.wp_at_succ

/-! windrowref10.Dims, windrowref10.Cells. -/
def dimsV (V : Nat) (D : List Int) : Bool := decide ((D.length : Int) = (V : Int)) && !D.any dimQ
theorem dimsV_bad {V : Nat} {D : List Int} {k : Nat} (hk : k < D.length) (h : dimQ D[k] = true) : dimsV V D = false := by
  unfold dimsV
  rw [show D.any dimQ = true from List.any_eq_true.2 ⟨_, List.getElem_mem hk, h⟩, Bool.not_true, Bool.and_false]
theorem dimsV_good {V : Nat} {D : List Int} (hl : D.length = V) (h : ∀ k, (hk : k < D.length) → dimQ D[k] = false) : dimsV V D = true := by
  unfold dimsV
  rw [show D.any dimQ = false from List.any_eq_false.2 (fun x hx => by obtain ⟨k, hk, rfl⟩ := List.getElem_of_mem hx; rw [h k hk]; simp), decide_eq_true (by omega)]; rfl
set_option maxHeartbeats 4000000 in
theorem rdims_any (w : World) (V : Nat) (vb vs vo : Value) (ad : Option Addr) (cd : Nat) (D : List Int) (hd : IntsAt .i64 w ad D) (hld : D.length ≤ 9223372036854775807) :
    Calls Try.prog 31 #[.agg #[.int .i64 V, vb, vs, vo], .slice ad D.length cd] w fun e w' => e = .returned (.bool (dimsV V D)) ∧ Below w.heap.size w w' := by
  have HD := Lib.hid hd
  have HN := Lib.hid (rgIn_new w V vb vs vo)
  clear hd
  go_enter Try.func31, Try.ntmps31
  go_upto_region 1 with fail
  refine gen_worldA (fun W => RgIn w W w.heap.size V vb vs vo) HN.out ?_
  clear HN
  intro W hin
  obtain ⟨hbW, x0, x1, x2, x3, hxx⟩ := hin
  have HB := Lib.hid hbW
  clear hbW
  by_cases hl : D.length = V
  case neg =>
    have d1 : ((D.length : Int) != (V : Int)) = true := by simp; omega
    have d2 : (D.length != V) = true := by simpa using hl
    have d3 : (D.length == V) = false := by simpa using hl
    have HR := Lib.hid (show dimsV V D = false from by unfold dimsV; rw [decide_eq_false (by omega)]; rfl)
    clear hl
    go_wp2_with fail
    go_ret
    exact ⟨ret_bool HR.out.symm, HB.out⟩
  have d1 : ((D.length : Int) != (V : Int)) = false := by simp; omega
  have d2 : (D.length != V) = false := by simpa using hl
  have d3 : (D.length == V) = true := by simpa using hl
  have HL := Lib.hid hl
  clear hl
  go_upto_region 3 with fail
  clear d1 d2 d3 x0 x1 x2 x3 hxx
  go_wp2_with fail
  go_loop [5] (fun i => ∃ k : Nat, k ≤ D.length ∧ i = .int .i64 k ∧ (∀ j, (hj : j < D.length) → j < k → dimQ D[j] = false)) (fun i => D.length - (intOf i).toNat)
  case atStart => exact ⟨0, Nat.zero_le _, rfl, fun j _ h => absurd h (Nat.not_lt_zero j)⟩
  case round =>
    obtain ⟨k, hk, rfl, hall⟩ := hrel
    have HALL := Lib.hid hall
    clear hall
    have hz0 : (0 : Int) ≤ (k : Int) := by omega
    by_cases hlt : k < D.length
    · have hz1 : (k : Int) < (D.length : Int) := by omega
      obtain ⟨b, off, rfl, x0⟩ := HD.out.below HB.out (Nat.le_refl _) k hlt
      have hbad := dimsV_bad (V := V) hlt
      obtain ⟨x, hx⟩ : ∃ x, D[k] = x := ⟨_, rfl⟩
      rw [hx] at x0 hbad
      have HX := Lib.hid hx; have HBAD := Lib.hid hbad
      clear hx hbad
      by_cases c0 : x < 0
      · have HR := Lib.hid (HBAD.out (by unfold dimQ; rw [decide_eq_true c0]; rfl))
        go_wp2_with fail
        go_ret
        exact ⟨ret_bool HR.out.symm, HB.out⟩
      have c0' : decide (x < 0) = false := by simpa using c0
      by_cases c1 : 65536 < x
      · have HR := Lib.hid (HBAD.out (by unfold dimQ; rw [decide_eq_true c1, Bool.or_true]))
        go_wp2_with fail
        go_ret
        exact ⟨ret_bool HR.out.symm, HB.out⟩
      have c1' : decide (65536 < x) = false := by simpa using c1
      have HOK := Lib.hid (show dimQ x = false from by unfold dimQ; rw [c0', c1']; rfl)
      go_wp2_with fail
      go_round
      case rel => exact ⟨k + 1, by omega, by go_num, fun j hj h => by
        by_cases ej : j = k
        · subst ej; rw [HX.out]; exact HOK.out
        · exact HALL.out j hj (by omega)⟩
      case measure => simp [intOf]; omega
    · have HR := Lib.hid (dimsV_good HL.out (fun j hj => HALL.out j hj (by omega)))
      go_wp2_with fail
      go_ret
      exact ⟨ret_bool HR.out.symm, HB.out⟩
set_option maxHeartbeats 16000000 in
theorem rcells_any (w : World) (c : Cor) (ba sa oa : Option Addr) (bc sc oc : Nat) (h : CorEls w c ba sa oa) (ad : Option Addr) (cd : Nat) (D : List Int) (hd : IntsAt .i64 w ad D) (hld : D.length ≤ 9223372036854775807) :
    Calls Try.prog 13 #[corV c ba sa oa bc sc oc, .slice ad D.length cd] w fun e w' => e = two (cellsS c D) ∧ Below w.heap.size w w' := by
  obtain ⟨vars, bufs, steps, outs⟩ := c
  unfold corV
  dsimp only
  have HE := Lib.hid h; have HD := Lib.hid hd
  have HN := Lib.hid (rgIn_new w vars (.slice ba bufs.length bc) (.slice sa steps.length sc) (.slice oa outs.length oc))
  clear h hd
  go_enter Try.func13, Try.ntmps13
  go_upto_region 1 with fail
  refine gen_worldA (fun W => RgIn w W w.heap.size vars (.slice ba bufs.length bc) (.slice sa steps.length sc) (.slice oa outs.length oc)) HN.out ?_
  clear HN
  intro W hin
  have HIN := Lib.hid hin
  obtain ⟨hbW, x0, x1, x2, x3, hxx⟩ := hin
  have hq := rright10_at W ⟨vars, bufs, steps, outs⟩ ba sa oa bc sc oc (HE.out.below hbW)
  unfold corV at hq
  dsimp only at hq
  clear hbW
  cases hr : rightB ⟨vars, bufs, steps, outs⟩ with
  | false =>
    rw [hr] at hq
    have HQ := Lib.hid hq
    have HG := Lib.hid (show cellsS ⟨vars, bufs, steps, outs⟩ D = (0, 100) from by unfold cellsS; rw [hr]; rfl)
    clear hq hr
    go_wp2_with (go_at_call 11; refine HQ.out.mono ?_; rintro e w2 ⟨rfl, hb2⟩)
    go_ret2
    exact ⟨ret_two HG.out, bNext hb2 HIN.out.below⟩
  | true =>
  rw [hr] at hq
  have HQ := Lib.hid hq
  have hv := right_vars hr
  have hbk := right_bufs hr
  dsimp only at hv hbk
  have HBK := Lib.hid (fun (k : Nat) (hk : k < bufs.length) => bufs_grow hbk hk)
  have HG : Hid (∀ r, (if dimsC ⟨vars, bufs, steps, outs⟩ D then sumS D bufs 0 else (0, 101)) = r → cellsS ⟨vars, bufs, steps, outs⟩ D = r) := Lib.hid fun r h => by unfold cellsS; rw [hr]; exact h
  obtain ⟨V, rfl⟩ : ∃ V : Nat, vars = V := ⟨vars.toNat, by omega⟩
  have hbl : bufs.length ≤ 1024 := hv.2.2.1
  clear hq hr hv hbk
  go_upto_region 3 with (go_at_call 11; refine HQ.out.mono ?_; rintro e w2 ⟨rfl, hb2⟩)
  have HIN2 := Lib.hid (HIN.out.next hb2)
  clear x0 x1 x2 x3 hxx HIN HQ hb2
  obtain ⟨hbW, x0, x1, x2, x3, hxx⟩ := HIN2.out
  have hct := fun W (hb : Below w2.heap.size w2 W) => rdims_any W V (.slice ba bufs.length bc) (.slice sa steps.length sc) (.slice oa outs.length oc) ad cd D (HD.out.below (bNext hb hbW) (Nat.le_refl _)) hld
  clear hbW
  have hdc : dimsC ⟨V, bufs, steps, outs⟩ D = dimsV V D := rfl
  cases hany : dimsV V D with
  | false =>
    rw [hany] at hct
    have HC := Lib.hid hct
    have HR := Lib.hid (HG.out (0, 101) (by rw [hdc, hany]; rfl))
    clear hct hany hdc
    go_wp2_with (go_at_call 31; refine (HC.out _ (Below.refl _ _)).mono ?_; rintro e w3 ⟨rfl, hb3⟩)
    go_ret2
    exact ⟨ret_two HR.out, bNext hb3 HIN2.out.below⟩
  | true =>
    rw [hany] at hct
    have HC := Lib.hid hct
    have HR : Hid (∀ r, sumS D bufs 0 = r → cellsS ⟨V, bufs, steps, outs⟩ D = r) := Lib.hid fun r h => HG.out r (by rw [hdc, hany]; exact h)
    clear hct hany HG hdc
    go_upto_region 6 with (go_at_call 31; refine (HC.out _ (Below.refl _ _)).mono ?_; rintro e w3 ⟨rfl, hb3⟩)
    have HIN3 := Lib.hid (HIN2.out.next hb3)
    clear HC x0 x1 x2 x3 hxx hb3
    go_wp2_with fail
    go_loopw [6, 7] (fun s i wr => ∃ (k : Nat) (all : Int), k ≤ bufs.length ∧ i = .int .i64 k ∧ s = .int .i64 all ∧ 0 ≤ all ∧ all ≤ 1048576 ∧ sumS D bufs 0 = sumS D (bufs.drop k) all ∧ RgIn w wr w.heap.size V (.slice ba bufs.length bc) (.slice sa steps.length sc) (.slice oa outs.length oc)) (fun _ i _ => bufs.length - (intOf i).toNat)
    case atStart => exact ⟨0, 0, Nat.zero_le _, rfl, rfl, by omega, by omega, rfl, HIN3.out⟩
    case round =>
      obtain ⟨k, all, hk, rfl, rfl, ha0, ha1, hs, hin⟩ := hrel
      have HS := Lib.hid hs; have HIN4 := Lib.hid hin; have HB := Lib.hid hin.below
      obtain ⟨hB, x0, x1, x2, x3, hxx⟩ := hin
      clear hs HIN3
      have hz0 : (0 : Int) ≤ (k : Int) := by omega
      by_cases hlt : k < bufs.length
      · have hz1 : (k : Int) < (bufs.length : Int) := by omega
        obtain ⟨b, off, cs, rfl, ⟨v, rfl, hs, -⟩, hc⟩ := (HE.out.be.below bufRep hB (Nat.le_refl _)) k hlt
        have e0 := hc 0 _ rfl; have e1 := hc 1 _ rfl
        simp only [show bufRep.n = 2 from rfl, Nat.add_zero] at e0 e1
        obtain ⟨sa', sc', rfl, hsl', hse'⟩ := Rep.Sl.form hs
        have hnw := bufIn_new wr (.slice sa' bufs[k].sides.length sc') bufs[k].input
        have hqs := fun W3 (hb : Below wr.heap.size wr W3) => rvalues_any W3 sa' sc' bufs[k].sides (hse'.below polyRep hb (Nat.le_refl _)) (by have := HBK.out k hlt; omega) ad cd D (HD.out.below (bNext hb HB.out) (Nat.le_refl _)) hld
        have HBad : Hid ((sizeS D bufs[k].sides).2 = false ∨ 1048576 < all + (sizeS D bufs[k].sides).1 → cellsS ⟨V, bufs, steps, outs⟩ D = (0, 102)) := Lib.hid fun h => HR.out _ (by rw [HS.out, sum_bad hlt all h])
        have HGo : Hid ((sizeS D bufs[k].sides).2 = true → ¬ 1048576 < all + (sizeS D bufs[k].sides).1 → sumS D bufs 0 = sumS D (bufs.drop (k + 1)) (all + (sizeS D bufs[k].sides).1)) := Lib.hid fun h h2 => by rw [HS.out, sum_step hlt all h h2]
        have hsb := size_bd D bufs[k].sides
        obtain ⟨r, hr⟩ : ∃ r, sizeS D bufs[k].sides = r := ⟨_, rfl⟩
        simp only [hr] at hqs
        rw [hr] at HBad HGo hsb
        obtain ⟨n, ok⟩ := r
        unfold threeB at hqs
        dsimp only at hqs HBad HGo hsb
        obtain ⟨s0, s1⟩ := hsb
        obtain ⟨sn, hsn⟩ : ∃ sn, bufs[k].sides.length = sn := ⟨_, rfl⟩
        obtain ⟨inp, hinp⟩ : ∃ inp, bufs[k].input = inp := ⟨_, rfl⟩
        rw [hsn] at e0; rw [hinp] at e1; simp only [hsn, hinp] at hnw hqs
        have HQS := Lib.hid hqs; have HNW := Lib.hid hnw
        clear hqs hs hc hse' hr hsl' hnw hsn hinp hB
        have HQ := Lib.hid (HQS.out wr (Below.refl _ _))
        clear HQS HNW e1
        cases ok with
        | false =>
          have HE2 := Lib.hid (HBad.out (.inl rfl))
          go_wp2_with (go_at_call 32; refine HQ.out.mono ?_; rintro e w4 ⟨⟨v3, rfl⟩, hb4⟩)
          go_ret2
          exact ⟨ret_two HE2.out, bNext hb4 HB.out⟩
        | true =>
        by_cases big : 1048576 < all + n
        · have HE2 := Lib.hid (HBad.out (.inr big))
          go_wp2_with (go_at_call 32; refine HQ.out.mono ?_; rintro e w4 ⟨⟨v3, rfl⟩, hb4⟩)
          go_ret2
          exact ⟨ret_two HE2.out, bNext hb4 HB.out⟩
        · have big' : decide (1048576 < all + n) = false := by simpa using big
          have HE2 := Lib.hid (HGo.out rfl big)
          go_wp2_with (go_at_call 32; refine HQ.out.mono ?_; rintro e w4 ⟨⟨v3, rfl⟩, hb4⟩)
          go_roundw
          case rel => exact ⟨k + 1, all + n, by omega, by go_num, by go_num, by omega, by omega, HE2.out, HIN4.out.next hb4⟩
          case measure => simp [intOf]; omega
      · have HE2 := Lib.hid (HR.out (all, 0) (by rw [HS.out, List.drop_eq_nil_of_le (by omega)]; rfl))
        go_wp2_with fail
        go_ret2
        exact ⟨ret_two HE2.out, HB.out⟩
end Go.Proofs.Ytabodlhlanolcaa
