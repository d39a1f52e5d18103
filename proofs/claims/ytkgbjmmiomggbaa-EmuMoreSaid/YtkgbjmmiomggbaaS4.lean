/-
  EmuMore: the law returns true for every input, and what was handed in reads as it did. No condition.
-/
import Derived.Test.YtkgbjmmiomggbaaE31
namespace Go.Proofs.Ytkgbjmmiomggbaa
open Go.ChangeShapes Go.WideShapes Go.ChangeAt Go.RowKit Go.Joins
set_option linter.unusedVariables false

set_option maxRecDepth 100000 in
set_option maxHeartbeats 32000000 in
theorem EmuMore_walk (w : World) (v0 : Value) (code : List Ins) (v1 : Value) (mem : List Int) (l0 l1 : Int) (q0 : insRep.Sl w v0 code) (q1 : IntSl w v1 mem) (w2 : 0 ≤ l0 ∧ l0 ≤ 65535) (w3 : 0 ≤ l1 ∧ l1 ≤ 65535) :
    Calls Try.prog 6 #[v0, v1, .agg #[.int .u16 l0, .int .u16 l1]] w fun e w' => e = .returned (.bool true) ∧ Below w.heap.size w w' := by
  obtain ⟨ca, cc, rfl, hc1, hc2, -, hel⟩ := q0
  have hlen : code.length ≤ 9223372036854775807 := by unfold maxLen at hc2; omega
  obtain ⟨a1, c1, rfl⟩ := q1.form
  obtain ⟨hb0, hb1⟩ := w2
  obtain ⟨hb2, hb3⟩ := w3
  have HE := Lib.hid hel; have HS := Lib.hid q1
  clear hc1 hc2 hel q1
  obtain ⟨xb, hxb⟩ : ∃ xb, w.heap.size = xb := ⟨_, rfl⟩
  have hn0 := World.alloc_heap_new w (.cells #[.int .u16 l0, .int .u16 l1] 38)
  rw [hxb] at hn0
  have HN0 := Lib.hid hn0; have Hxb := Lib.hid hxb
  clear hn0
  go_enter Try.func6, Try.ntmps6
  go_wp2_with fail
  refine (eshown_any _).mono ?_
  rintro e w1 ⟨rfl, hB1⟩
  have hr1 := block_below HN0.out hB1
  have x0 := cell_of_row w1 xb 0 _ _ _ hr1
  have x1 := cell_of_row w1 xb 1 _ _ _ hr1
  simp only [List.getElem?_toArray, List.getElem?_cons_succ, List.getElem?_cons_zero] at x0 x1
  have hB1' : Below w.heap.size w w1 := ((Below.refl _ _).alloc (Nat.le_refl _) _).trans (hB1.mono (by simp))
  have HB1 := Lib.hid hB1'; clear hB1 hB1' hr1 HN0 hxb
  go_wp2_with fail
  go_quiet (fail)
  clear x0 x1
  obtain ⟨A, hA⟩ := Int.eq_ofNat_of_zero_le (show 0 ≤ l0 % 20001 from by omega)
  obtain ⟨B, hB⟩ := Int.eq_ofNat_of_zero_le (show 0 ≤ l1 % 20001 from by omega)
  have hA1 : A ≤ 20000 := by omega
  have hB1 : B ≤ 20000 := by omega
  rw [hA, hB]
  go_upto_region 3 with fail
  refine gen_world (fun W => Below w.heap.size w W) (HB1.out.trans (Below.drewN _ _)) ?_
  intro W hW
  have HBW := Lib.hid hW
  clear hW HB1 hA hB hb0 hb1 hb2 hb3
  by_cases hab : B < A
  · have hab' : decide ((B : Int) < (A : Int)) = true := by simp; omega
    go_upto_region 5 with fail
    clear hab'
    have hra := run_any W _ mem ca cc code (B : Int) (HE.out.below insRep HBW.out (Nat.le_refl _)) hlen (HS.out.below HBW.out)
    have hrb := fun W' he hs => run_any W' (.slice a1 mem.length c1) mem ca cc code (A : Int) he hlen hs
    unfold RunS at hra hrb
    rw [goodB_like (a := (A : Int)) (b := (B : Int)) ⟨by omega, by omega⟩ ⟨by omega, by omega⟩] at hrb
    rw [show ((B : Nat) : Int).toNat = B from by simp] at hra
    rw [show ((A : Nat) : Int).toNat = A from by simp] at hrb
    cases hg : goodB code mem.length (B : Int) with
    | false =>
      rw [hg, if_neg (by simp)] at hra hrb
      have HRA := Lib.hid hra; have HRB := Lib.hid hrb
      clear hra hrb hg
      go_wp2_with fail
      refine HRA.out.mono ?_
      rintro e w2 ⟨v2, rfl, hs2, hw2, hb2⟩
      obtain ⟨a3, c3, rfl⟩ := hs2.form
      have HL2 : Hid ((St0 []).regs.length = 16) := Lib.hid hw2.len
      have HN2 := Lib.hid (fun (c : Array Value) => World.alloc_heap_new w2 (.cells c 26))
      obtain ⟨z2, hz2⟩ : ∃ z2, w2.heap.size = z2 := ⟨_, rfl⟩
      have HB2 := Lib.hid (bNext hb2 HBW.out)
      clear hb2 HBW hs2 hw2 HRA
      dsimp only
      go_upto_region 6 with ((with_reducible show wpList _ _ _ ({ dst := none, op := Op.store 26 (.tmp 10) (.tmp _), type := _, pos := _, after := _, guard := _ } :: _) _ _); (refine wpList_store_whole rfl 26 _ _ rfl z2 rfl _ _ rfl 26 (by rw [← hz2]; exact HN2.out _) (by rw [Try.sizeSt, List.size_toArray, cellsSt_len HL2.out]) (by simp [cellsSt_len HL2.out]) (by simpa using cellsSt_one rfl _) ?_); intro w3 hr3 hg3)
      have HB3 := Lib.hid (bNext (new_state hz2 HL2.out hr3 hg3).2 HB2.out)
      clear hr3 hg3 HN2 hz2 HB2
      go_wp2_with fail
      refine (HRB.out w3 (HE.out.below insRep HB3.out (Nat.le_refl _)) (HS.out.below HB3.out)).mono ?_
      rintro e w4 ⟨v4, rfl, hs4, hw4, hb4⟩
      obtain ⟨a5, c5, rfl⟩ := hs4.form
      have HN4 := Lib.hid (fun (c : Array Value) => World.alloc_heap_new w4 (.cells c 26))
      obtain ⟨z4, hz4⟩ : ∃ z4, w4.heap.size = z4 := ⟨_, rfl⟩
      have HB4 := Lib.hid (bNext hb4 HB3.out)
      clear hb4 HB3 hs4 hw4 HRB
      dsimp only
      go_wp2_with ((with_reducible show wpList _ _ _ ({ dst := none, op := Op.store 26 (.tmp 13) (.tmp _), type := _, pos := _, after := _, guard := _ } :: _) _ _); (refine wpList_store_whole rfl 26 _ _ rfl z4 rfl _ _ rfl 26 (by rw [← hz4]; exact HN4.out _) (by rw [Try.sizeSt, List.size_toArray, cellsSt_len HL2.out]) (by simp [cellsSt_len HL2.out]) (by simpa using cellsSt_one rfl _) ?_); intro w5 hr5 hg5)
      go_ret
      exact ⟨rfl, bNext (new_state hz4 HL2.out hr5 hg5).2 HB4.out⟩
    | true =>
      rw [hg, if_pos rfl] at hra hrb
      have hg2 := (good_facts hg).2.1
      obtain ⟨⟨S, D⟩, hq⟩ : ∃ q, runI code B (St0 mem) = q := ⟨_, rfl⟩
      obtain ⟨⟨S', D'⟩, hq'⟩ : ∃ q, runI code A (St0 mem) = q := ⟨_, rfl⟩
      have hm1 := runI_more code (A - B) B (St0 mem)
      have hm2 := runI_six code B (St0 mem)
      have hm3 := runI_far code (A - B) B (St0 mem)
      have hm4 := runI_le code A (St0 mem)
      have hm5 := runI_six code A (St0 mem)
      have hm6 := runI_memlen code B (St0 mem)
      rw [show B + (A - B) = A from by omega] at hm1 hm3
      rw [hq'] at hm1 hm3 hm4 hm5
      rw [hq] at hm1 hm2 hm3 hm6
      rw [hq] at hra
      rw [hq'] at hrb
      dsimp only at hm1 hm2 hm3 hm4 hm5 hm6
      have HRA := Lib.hid hra; have HRB := Lib.hid hrb; have HM1 := Lib.hid hm1; have HM2 := Lib.hid hm2; have HM3 := Lib.hid hm3; have HM5 := Lib.hid hm5; have HM6 := Lib.hid hm6
      clear hra hrb hg hq hq' hm1 hm2 hm3 hm5 hm6
      go_wp2_with fail
      refine HRA.out.mono ?_
      rintro e w2 ⟨v2, rfl, hs2, hw2, hb2⟩
      dsimp only at hs2 hw2 ⊢
      obtain ⟨a3, c3, rfl⟩ := hs2.form
      have HS2 := Lib.hid hs2; have HW2 := Lib.hid hw2
      have HL2 := Lib.hid hw2.len
      have HN2 := Lib.hid (fun (c : Array Value) => World.alloc_heap_new w2 (.cells c 26))
      obtain ⟨z2, hz2⟩ : ∃ z2, w2.heap.size = z2 := ⟨_, rfl⟩
      have HB2 := Lib.hid (bNext hb2 HBW.out)
      clear hb2 HBW hs2 hw2 HRA
      go_upto_region 6 with ((with_reducible show wpList _ _ _ ({ dst := none, op := Op.store 26 (.tmp 10) (.tmp _), type := _, pos := _, after := _, guard := _ } :: _) _ _); (refine wpList_store_whole rfl 26 _ _ rfl z2 rfl _ _ rfl 26 (by rw [← hz2]; exact HN2.out _) (by rw [Try.sizeSt, List.size_toArray, cellsSt_len HL2.out]) (by simp [cellsSt_len HL2.out]) (by simpa using cellsSt_one rfl _) ?_); intro w3 hr3 hg3)
      obtain ⟨s3, b3⟩ := new_state hz2 HL2.out hr3 hg3
      have HS3 := Lib.hid (HS2.out.below b3); have HIB := Lib.hid s3; have HB3 := Lib.hid (bNext b3 HB2.out)
      clear s3 b3 hr3 hg3 hz2 HN2 HS2 HB2
      go_wp2_with fail
      refine (HRB.out w3 (HE.out.below insRep HB3.out (Nat.le_refl _)) (HS.out.below HB3.out)).mono ?_
      rintro e w4 ⟨v4, rfl, hs4, hw4, hb4⟩
      dsimp only at hs4 hw4 ⊢
      obtain ⟨a5, c5, rfl⟩ := hs4.form
      have HS4 := Lib.hid hs4; have HW4 := Lib.hid hw4
      have HL4 := Lib.hid hw4.len
      have HN4 := Lib.hid (fun (c : Array Value) => World.alloc_heap_new w4 (.cells c 26))
      obtain ⟨z4, hz4⟩ : ∃ z4, w4.heap.size = z4 := ⟨_, rfl⟩
      have HB4 := Lib.hid (bNext hb4 HB3.out); have HIB4 := Lib.hid (HIB.out.below hb4); have HS34 := Lib.hid (HS3.out.below hb4)
      clear hb4 HB3 hs4 hw4 HRB HIB HS3
      go_upto_region 9 with ((with_reducible show wpList _ _ _ ({ dst := none, op := Op.store 26 (.tmp 13) (.tmp _), type := _, pos := _, after := _, guard := _ } :: _) _ _); (refine wpList_store_whole rfl 26 _ _ rfl z4 rfl _ _ rfl 26 (by rw [← hz4]; exact HN4.out _) (by rw [Try.sizeSt, List.size_toArray, cellsSt_len HL4.out]) (by simp [cellsSt_len HL4.out]) (by simpa using cellsSt_one rfl _) ?_); intro w5 hr5 hg5)
      obtain ⟨s5, b5⟩ := new_state hz4 HL4.out hr5 hg5
      have HS5 := Lib.hid (HS4.out.below b5); have HS35 := Lib.hid (HS34.out.below b5); have HIC5 := Lib.hid s5; have HB5 := Lib.hid (bNext b5 HB4.out)
      have hib5 := HIB4.out.below b5
      have HIB5 := Lib.hid hib5
      have c18 := StB.fin hib5
      have d18 := StB.fin s5
      clear s5 b5 hr5 hg5 hz4 HN4 HS4 HB4 HIB4 HS34 hib5
      by_cases h6 : S.fin = 6
      · have hD := HM2.out h6
        have hD2 := HM3.out h6
        rw [h6] at c18
        clear h6
        subst hD
        by_cases h7 : S'.fin = 6
        · have hD3 := HM5.out h7
          rw [h7] at d18
          clear h7
          subst hD3
          go_wp2_with fail
          go_ret
          exact ⟨rfl, HB5.out⟩
        · have h7' : (S'.fin == 6) = false := by simpa using h7
          have h8 : decide ((D : Int) ≤ (D' : Int)) = true := by simp; omega
          go_wp2_with fail
          go_ret
          exact ⟨rfl, HB5.out⟩
      · have h6' : (S.fin == 6) = false := by simpa using h6
        obtain ⟨hS, hD⟩ := Prod.mk.inj (HM1.out h6)
        subst hS
        subst hD
        clear h6
        go_wp2_with (first
          | ((with_reducible show wpList _ _ _ ({ dst := some _, op := Op.load 26 (.tmp 10), type := _, pos := _, after := _, guard := _ } :: _) _ _); (refine wpList_load_rowW (by rfl) 26 _ rfl z2 rfl 26 _ (0, 0) _ (HIB5.out).row0 Try.underlying26 rfl (by rw [Try.sizeSt, List.size_toArray, cellsSt_len HL2.out]) ?_))
          | ((with_reducible show wpList _ _ _ ({ dst := some _, op := Op.load 26 (.tmp 13), type := _, pos := _, after := _, guard := _ } :: _) _ _); (refine wpList_load_rowW (by rfl) 26 _ rfl z4 rfl 26 _ (0, 0) _ (HIC5.out).row0 Try.underlying26 rfl (by rw [Try.sizeSt, List.size_toArray, cellsSt_len HL2.out]) ?_)))
        refine (same_any' _ _ _ S' HW2.out (by rw [HM6.out]; show mem.length ≤ _; omega) HS35.out HS5.out).mono ?_
        rintro e w9 ⟨rfl, hb9⟩
        go_wp2_with fail
        go_ret
        exact ⟨rfl, bNext hb9 HB5.out⟩
  · have hab' : decide ((B : Int) < (A : Int)) = false := by simp; omega
    go_upto_region 5 with fail
    clear hab'
    have hra := run_any W _ mem ca cc code (A : Int) (HE.out.below insRep HBW.out (Nat.le_refl _)) hlen (HS.out.below HBW.out)
    have hrb := fun W' he hs => run_any W' (.slice a1 mem.length c1) mem ca cc code (B : Int) he hlen hs
    unfold RunS at hra hrb
    rw [goodB_like (a := (B : Int)) (b := (A : Int)) ⟨by omega, by omega⟩ ⟨by omega, by omega⟩] at hrb
    rw [show ((A : Nat) : Int).toNat = A from by simp] at hra
    rw [show ((B : Nat) : Int).toNat = B from by simp] at hrb
    cases hg : goodB code mem.length (A : Int) with
    | false =>
      rw [hg, if_neg (by simp)] at hra hrb
      have HRA := Lib.hid hra; have HRB := Lib.hid hrb
      clear hra hrb hg
      go_wp2_with fail
      refine HRA.out.mono ?_
      rintro e w2 ⟨v2, rfl, hs2, hw2, hb2⟩
      obtain ⟨a3, c3, rfl⟩ := hs2.form
      have HL2 : Hid ((St0 []).regs.length = 16) := Lib.hid hw2.len
      have HN2 := Lib.hid (fun (c : Array Value) => World.alloc_heap_new w2 (.cells c 26))
      obtain ⟨z2, hz2⟩ : ∃ z2, w2.heap.size = z2 := ⟨_, rfl⟩
      have HB2 := Lib.hid (bNext hb2 HBW.out)
      clear hb2 HBW hs2 hw2 HRA
      dsimp only
      go_upto_region 6 with ((with_reducible show wpList _ _ _ ({ dst := none, op := Op.store 26 (.tmp 10) (.tmp _), type := _, pos := _, after := _, guard := _ } :: _) _ _); (refine wpList_store_whole rfl 26 _ _ rfl z2 rfl _ _ rfl 26 (by rw [← hz2]; exact HN2.out _) (by rw [Try.sizeSt, List.size_toArray, cellsSt_len HL2.out]) (by simp [cellsSt_len HL2.out]) (by simpa using cellsSt_one rfl _) ?_); intro w3 hr3 hg3)
      have HB3 := Lib.hid (bNext (new_state hz2 HL2.out hr3 hg3).2 HB2.out)
      clear hr3 hg3 HN2 hz2 HB2
      go_wp2_with fail
      refine (HRB.out w3 (HE.out.below insRep HB3.out (Nat.le_refl _)) (HS.out.below HB3.out)).mono ?_
      rintro e w4 ⟨v4, rfl, hs4, hw4, hb4⟩
      obtain ⟨a5, c5, rfl⟩ := hs4.form
      have HN4 := Lib.hid (fun (c : Array Value) => World.alloc_heap_new w4 (.cells c 26))
      obtain ⟨z4, hz4⟩ : ∃ z4, w4.heap.size = z4 := ⟨_, rfl⟩
      have HB4 := Lib.hid (bNext hb4 HB3.out)
      clear hb4 HB3 hs4 hw4 HRB
      dsimp only
      go_wp2_with ((with_reducible show wpList _ _ _ ({ dst := none, op := Op.store 26 (.tmp 13) (.tmp _), type := _, pos := _, after := _, guard := _ } :: _) _ _); (refine wpList_store_whole rfl 26 _ _ rfl z4 rfl _ _ rfl 26 (by rw [← hz4]; exact HN4.out _) (by rw [Try.sizeSt, List.size_toArray, cellsSt_len HL2.out]) (by simp [cellsSt_len HL2.out]) (by simpa using cellsSt_one rfl _) ?_); intro w5 hr5 hg5)
      go_ret
      exact ⟨rfl, bNext (new_state hz4 HL2.out hr5 hg5).2 HB4.out⟩
    | true =>
      rw [hg, if_pos rfl] at hra hrb
      have hg2 := (good_facts hg).2.1
      obtain ⟨⟨S, D⟩, hq⟩ : ∃ q, runI code A (St0 mem) = q := ⟨_, rfl⟩
      obtain ⟨⟨S', D'⟩, hq'⟩ : ∃ q, runI code B (St0 mem) = q := ⟨_, rfl⟩
      have hm1 := runI_more code (B - A) A (St0 mem)
      have hm2 := runI_six code A (St0 mem)
      have hm3 := runI_far code (B - A) A (St0 mem)
      have hm4 := runI_le code B (St0 mem)
      have hm5 := runI_six code B (St0 mem)
      have hm6 := runI_memlen code A (St0 mem)
      rw [show A + (B - A) = B from by omega] at hm1 hm3
      rw [hq'] at hm1 hm3 hm4 hm5
      rw [hq] at hm1 hm2 hm3 hm6
      rw [hq] at hra
      rw [hq'] at hrb
      dsimp only at hm1 hm2 hm3 hm4 hm5 hm6
      have HRA := Lib.hid hra; have HRB := Lib.hid hrb; have HM1 := Lib.hid hm1; have HM2 := Lib.hid hm2; have HM3 := Lib.hid hm3; have HM5 := Lib.hid hm5; have HM6 := Lib.hid hm6
      clear hra hrb hg hq hq' hm1 hm2 hm3 hm5 hm6
      go_wp2_with fail
      refine HRA.out.mono ?_
      rintro e w2 ⟨v2, rfl, hs2, hw2, hb2⟩
      dsimp only at hs2 hw2 ⊢
      obtain ⟨a3, c3, rfl⟩ := hs2.form
      have HS2 := Lib.hid hs2; have HW2 := Lib.hid hw2
      have HL2 := Lib.hid hw2.len
      have HN2 := Lib.hid (fun (c : Array Value) => World.alloc_heap_new w2 (.cells c 26))
      obtain ⟨z2, hz2⟩ : ∃ z2, w2.heap.size = z2 := ⟨_, rfl⟩
      have HB2 := Lib.hid (bNext hb2 HBW.out)
      clear hb2 HBW hs2 hw2 HRA
      go_upto_region 6 with ((with_reducible show wpList _ _ _ ({ dst := none, op := Op.store 26 (.tmp 10) (.tmp _), type := _, pos := _, after := _, guard := _ } :: _) _ _); (refine wpList_store_whole rfl 26 _ _ rfl z2 rfl _ _ rfl 26 (by rw [← hz2]; exact HN2.out _) (by rw [Try.sizeSt, List.size_toArray, cellsSt_len HL2.out]) (by simp [cellsSt_len HL2.out]) (by simpa using cellsSt_one rfl _) ?_); intro w3 hr3 hg3)
      obtain ⟨s3, b3⟩ := new_state hz2 HL2.out hr3 hg3
      have HS3 := Lib.hid (HS2.out.below b3); have HIB := Lib.hid s3; have HB3 := Lib.hid (bNext b3 HB2.out)
      clear s3 b3 hr3 hg3 hz2 HN2 HS2 HB2
      go_wp2_with fail
      refine (HRB.out w3 (HE.out.below insRep HB3.out (Nat.le_refl _)) (HS.out.below HB3.out)).mono ?_
      rintro e w4 ⟨v4, rfl, hs4, hw4, hb4⟩
      dsimp only at hs4 hw4 ⊢
      obtain ⟨a5, c5, rfl⟩ := hs4.form
      have HS4 := Lib.hid hs4; have HW4 := Lib.hid hw4
      have HL4 := Lib.hid hw4.len
      have HN4 := Lib.hid (fun (c : Array Value) => World.alloc_heap_new w4 (.cells c 26))
      obtain ⟨z4, hz4⟩ : ∃ z4, w4.heap.size = z4 := ⟨_, rfl⟩
      have HB4 := Lib.hid (bNext hb4 HB3.out); have HIB4 := Lib.hid (HIB.out.below hb4); have HS34 := Lib.hid (HS3.out.below hb4)
      clear hb4 HB3 hs4 hw4 HRB HIB HS3
      go_upto_region 9 with ((with_reducible show wpList _ _ _ ({ dst := none, op := Op.store 26 (.tmp 13) (.tmp _), type := _, pos := _, after := _, guard := _ } :: _) _ _); (refine wpList_store_whole rfl 26 _ _ rfl z4 rfl _ _ rfl 26 (by rw [← hz4]; exact HN4.out _) (by rw [Try.sizeSt, List.size_toArray, cellsSt_len HL4.out]) (by simp [cellsSt_len HL4.out]) (by simpa using cellsSt_one rfl _) ?_); intro w5 hr5 hg5)
      obtain ⟨s5, b5⟩ := new_state hz4 HL4.out hr5 hg5
      have HS5 := Lib.hid (HS4.out.below b5); have HS35 := Lib.hid (HS34.out.below b5); have HIC5 := Lib.hid s5; have HB5 := Lib.hid (bNext b5 HB4.out)
      have hib5 := HIB4.out.below b5
      have HIB5 := Lib.hid hib5
      have c18 := StB.fin hib5
      have d18 := StB.fin s5
      clear s5 b5 hr5 hg5 hz4 HN4 HS4 HB4 HIB4 HS34 hib5
      by_cases h6 : S.fin = 6
      · have hD := HM2.out h6
        have hD2 := HM3.out h6
        rw [h6] at c18
        clear h6
        subst hD
        by_cases h7 : S'.fin = 6
        · have hD3 := HM5.out h7
          rw [h7] at d18
          clear h7
          subst hD3
          go_wp2_with fail
          go_ret
          exact ⟨rfl, HB5.out⟩
        · have h7' : (S'.fin == 6) = false := by simpa using h7
          have h8 : decide ((D : Int) ≤ (D' : Int)) = true := by simp; omega
          go_wp2_with fail
          go_ret
          exact ⟨rfl, HB5.out⟩
      · have h6' : (S.fin == 6) = false := by simpa using h6
        obtain ⟨hS, hD⟩ := Prod.mk.inj (HM1.out h6)
        subst hS
        subst hD
        clear h6
        go_wp2_with (first
          | ((with_reducible show wpList _ _ _ ({ dst := some _, op := Op.load 26 (.tmp 10), type := _, pos := _, after := _, guard := _ } :: _) _ _); (refine wpList_load_rowW (by rfl) 26 _ rfl z2 rfl 26 _ (0, 0) _ (HIB5.out).row0 Try.underlying26 rfl (by rw [Try.sizeSt, List.size_toArray, cellsSt_len HL2.out]) ?_))
          | ((with_reducible show wpList _ _ _ ({ dst := some _, op := Op.load 26 (.tmp 13), type := _, pos := _, after := _, guard := _ } :: _) _ _); (refine wpList_load_rowW (by rfl) 26 _ rfl z4 rfl 26 _ (0, 0) _ (HIC5.out).row0 Try.underlying26 rfl (by rw [Try.sizeSt, List.size_toArray, cellsSt_len HL2.out]) ?_)))
        refine (same_any' _ _ _ S' HW2.out (by rw [HM6.out]; show mem.length ≤ _; omega) HS35.out HS5.out).mono ?_
        rintro e w9 ⟨rfl, hb9⟩
        go_wp2_with fail
        go_ret
        exact ⟨rfl, bNext hb9 HB5.out⟩

set_option maxRecDepth 100000 in
theorem EmuMore_lifted (os : Os) (started : os.Started) (H : Type) (enc : TypeId × Value → H) :
    ReturnsInHanded {} Try.checked os 6 .any (Rows.emuMoreSpec.pre6 enc Try.prog Try.f6 Rows.emuMoreRow.domain false) (Rows.emuMoreSpec.post enc Try.prog Try.f6 false true false false) := by
  refine returnsInHanded_of_change (C := Try.checked) own started (by kernel_rfl) Try.func6
    (ChangeSpec.witness6 (enc := enc) (C := Try.checked) false ⟨#[], #[.slice none 0 0, .slice none 0 0, .agg #[.int .u16 0, .int .u16 0]], []⟩ 8 (by kernel_rfl) (by kernel_rfl) (by kernel_rfl) (by kernel_rfl)) ?_
  intro W base args ds gs before hval0 hW hcnd _
  have hval : ∀ (j : Nat) t v, Try.f6.params[j]? = some t → args[j]? = some v → Value.okWide Try.prog W .any base t v := hval0
  have hW' := hW
  obtain ⟨p, q, hA0, hV, rfl, hfz, hnd⟩ := hW
  have hA : DataW.TrodAll enc Try.prog W 0 (fun _ => true) true Try.f6.params.toList args.toList ds p := hA0
  rw [Try.params6] at hA hval
  obtain ⟨v0, vs0, d0, ds0, p0, q0, hargs, rfl, rfl, h0, r0⟩ := trodAll_cons hA
  obtain ⟨v1, vs1, d1, ds1, p1, q1, rfl, rfl, rfl, h1, r1⟩ := trodAll_cons r0
  obtain ⟨v2, vs2, d2, ds2, p2, q2, rfl, rfl, rfl, h2, r2⟩ := trodAll_cons r1
  obtain ⟨rfl, rfl, rfl⟩ := trodAll_nil r2
  obtain rfl : args = #[v0, v1, v2] := by cases args; simp_all
  obtain ⟨rfl, rfl⟩ := trodVars_none hV
  have k0 := h0
  have lt0 : ∀ x ∈ p0, x.block < W.heap.size := by obtain ⟨m, hm⟩ := k0; exact DataW.trod_lt m _ _ _ hm
  obtain ⟨xs0, s0⟩ := opens_sl Try.underlying22 opens_inss (hval 0 22 v0 rfl rfl) h0
  have k1 := h1
  have lt1 : ∀ x ∈ p1, x.block < W.heap.size := by obtain ⟨m, hm⟩ := k1; exact DataW.trod_lt m _ _ _ hm
  obtain ⟨xs1, s1⟩ := opens_sl Try.underlying24 opens_i64 (hval 1 24 v1 rfl rfl) h1
  have k2 := h2
  have lt2 : ∀ x ∈ p2, x.block < W.heap.size := by obtain ⟨m, hm⟩ := k2; exact DataW.trod_lt m _ _ _ hm
  obtain ⟨xs2, ys2, rfl, f2, s2⟩ := open_two (hval 2 38 v2 rfl rfl) h2
  clear hA0 hval0
  refine (EmuMore_walk W v0 xs0 v1 xs1 xs2 ys2 s0 s1 f2 s2).mono fun e W' ⟨he, bel⟩ => ?_
  subst he
  exact ⟨_, rfl, _, _, _, [], _, [], hW', trodAll_mk1 (shut_bool Try.underlying4 _), (trodAll_cons_mk (Below.trod laidOut (by kernel_rfl) (of_decide_eq_true (by kernel_rfl)) k0 bel lt0) (trodAll_cons_mk (Below.trod laidOut (by kernel_rfl) (of_decide_eq_true (by kernel_rfl)) k1 bel lt1) (trodAll_cons_mk (Below.trod laidOut (by kernel_rfl) (of_decide_eq_true (by kernel_rfl)) k2 bel lt2) trodAll_mk0))), rfl, bel.frame _, fun h => by cases h⟩

/-- The given statement. -/
theorem EmuMore_holds : Rows.EmuMoreSaid :=
  OpenClaim.holds_of_wide 6 Try.f6 rfl rfl rfl rfl rfl rfl rfl ⟨rfl, rfl, rfl, rfl, rfl⟩ rfl rfl rfl rfl rfl (by kernel_rfl) Try.func6 (by kernel_rfl)
    (of_decide_eq_true (by kernel_rfl)) (by unfold Func.isWrapper; rw [if_neg (by decide +kernel)]; exact ⟨rfl, rfl⟩)
    (fun os started H enc _ => EmuMore_lifted os started H enc)
#print axioms EmuMore_holds
end Go.Proofs.Ytkgbjmmiomggbaa
