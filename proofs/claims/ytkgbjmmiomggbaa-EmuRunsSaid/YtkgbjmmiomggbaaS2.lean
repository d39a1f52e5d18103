/-
  EmuRuns: the law returns true for every input, and what was handed in reads as it did. No condition.
-/
import Derived.Test.YtkgbjmmiomggbaaE30
namespace Go.Proofs.Ytkgbjmmiomggbaa
open Go.ChangeShapes Go.WideShapes Go.ChangeAt Go.RowKit Go.Joins
set_option linter.unusedVariables false

set_option maxRecDepth 100000 in
set_option maxHeartbeats 32000000 in
theorem EmuRuns_walk (w : World) (v0 : Value) (code : List Ins) (v1 : Value) (mem : List Int) (most : Int) (q0 : insRep.Sl w v0 code) (q1 : IntSl w v1 mem) (w2 : (Lit.int .i64 most).wf = true) :
    Calls Try.prog 4 #[v0, v1, .int .i64 most] w fun e w' => e = .returned (.bool true) ∧ Below w.heap.size w w' := by
  obtain ⟨ca, cc, rfl, hc1, hc2, -, hel⟩ := q0
  have hlen : code.length ≤ 9223372036854775807 := by unfold maxLen at hc2; omega
  obtain ⟨a1, c1, rfl⟩ := q1.form
  have HE := Lib.hid hel; have HS := Lib.hid q1
  clear hc1 hc2 hel q1 w2
  have hcs : (20000 < most ∧ most ≤ 67108864) ∨ 67108864 < most ∨ most ≤ 20000 := by omega
  rcases hcs with ⟨h0, h1⟩ | h0 | h0
  · go_enter Try.func4, Try.ntmps4
    go_wp2_with fail
    refine (eshown_any _).mono ?_
    rintro e w1 ⟨rfl, hB1⟩
    have HB1 := Lib.hid hB1; clear hB1
    go_upto_region 4 with fail
    go_wp2_with fail
    refine (run_any w1 _ mem ca cc code _ (HE.out.below insRep HB1.out (Nat.le_refl _)) hlen (HS.out.below HB1.out)).mono ?_
    rintro e w2 ⟨v2, rfl, hs2, hw2, hb2⟩
    have hrr := fun W v he hs => rRun_any W v mem ca cc code 20000 he hlen hs
    obtain ⟨S, hS⟩ : ∃ S, RunS code mem 20000 = S := ⟨_, rfl⟩
    rw [hS] at hs2 hw2 ⊢
    have hml : S.1.1.mem.length ≤ 9223372036854775806 := by
      rw [← hS]; exact RunS_small _ _ _
    obtain ⟨a3, c3, rfl⟩ := hs2.form
    have HR := Lib.hid hrr
    have HS2 := Lib.hid hs2; have HW2 := Lib.hid hw2; have HB2 := Lib.hid (bNext hb2 HB1.out); have HES := Lib.hid hS; have HML := Lib.hid hml
    have HN2 := Lib.hid (fun (c : Array Value) => World.alloc_heap_new w2 (.cells c 26))
    have HL2 := Lib.hid hw2.len
    obtain ⟨z2, hz2⟩ : ∃ z2, w2.heap.size = z2 := ⟨_, rfl⟩
    clear hs2 hw2 hb2 hS hml HB1 hrr
    go_upto_region 5 with ((with_reducible show wpList _ _ _ ({ dst := none, op := Op.store 26 (.tmp 8) (.tmp _), type := _, pos := _, after := _, guard := _ } :: _) _ _); (refine wpList_store_whole rfl 26 _ _ rfl z2 rfl _ _ rfl 26 (by rw [← hz2]; exact HN2.out _) (by rw [Try.sizeSt, List.size_toArray, cellsSt_len HL2.out]) (by simp [cellsSt_len HL2.out]) (by simpa using cellsSt_one rfl _) ?_); intro w3 hr3 hg3)
    obtain ⟨s3, b3⟩ := new_state hz2 HW2.out.len hr3 hg3
    have HS3 := Lib.hid (HS2.out.below b3); have HIB := Lib.hid s3; have HB3 := Lib.hid (bNext b3 HB2.out)
    clear s3 b3 hr3 hg3 hz2 HN2 HS2 HB2
    go_wp2_with fail
    refine (HR.out w3 _ (HE.out.below insRep HB3.out (Nat.le_refl _)) (HS.out.below HB3.out)).mono ?_
    rintro e w4 ⟨v4, rfl, hs4, hw4, hb4⟩
    rw [HES.out] at hs4 hw4 ⊢
    obtain ⟨a5, c5, rfl⟩ := hs4.form
    have HS4 := Lib.hid hs4; have HB4 := Lib.hid (bNext hb4 HB3.out); have HIB4 := Lib.hid (HIB.out.below hb4); have HS34 := Lib.hid (HS3.out.below hb4)
    have HN4 := Lib.hid (fun (c : Array Value) => World.alloc_heap_new w4 (.cells c 26))
    obtain ⟨z4, hz4⟩ : ∃ z4, w4.heap.size = z4 := ⟨_, rfl⟩
    clear hs4 hw4 hb4 HIB HS3 HB3
    go_upto_region 6 with ((with_reducible show wpList _ _ _ ({ dst := none, op := Op.store 26 (.tmp 11) (.tmp _), type := _, pos := _, after := _, guard := _ } :: _) _ _); (refine wpList_store_whole rfl 26 _ _ rfl z4 rfl _ _ rfl 26 (by rw [← hz4]; exact HN4.out _) (by rw [Try.sizeSt, List.size_toArray, cellsSt_len HL2.out]) (by simp [cellsSt_len HL2.out]) (by simpa using cellsSt_one rfl _) ?_); intro w5 hr5 hg5)
    obtain ⟨s5, b5⟩ := new_state hz4 HW2.out.len hr5 hg5
    have HS5 := Lib.hid (HS4.out.below b5); have HS35 := Lib.hid (HS34.out.below b5); have HIB5 := Lib.hid (HIB4.out.below b5); have HIC5 := Lib.hid s5; have HB5 := Lib.hid (bNext b5 HB4.out)
    clear s5 b5 hr5 hg5 hz4 HN4 HS4 HB4 HIB4 HS34
    go_wp2_with (first
      | ((with_reducible show wpList _ _ _ ({ dst := some _, op := Op.load 26 (.tmp 8), type := _, pos := _, after := _, guard := _ } :: _) _ _); (refine wpList_load_rowW (by rfl) 26 _ rfl z2 rfl 26 _ (0, 0) _ (HIB5.out).row0 Try.underlying26 rfl (by rw [Try.sizeSt, List.size_toArray, cellsSt_len HL2.out]) ?_))
      | ((with_reducible show wpList _ _ _ ({ dst := some _, op := Op.load 26 (.tmp 11), type := _, pos := _, after := _, guard := _ } :: _) _ _); (refine wpList_load_rowW (by rfl) 26 _ rfl z4 rfl 26 _ (0, 0) _ (HIC5.out).row0 Try.underlying26 rfl (by rw [Try.sizeSt, List.size_toArray, cellsSt_len HL2.out]) ?_)))
    refine (same_any' _ _ _ S.1.1 HW2.out HML.out HS35.out HS5.out).mono ?_
    rintro e w6 ⟨rfl, hb6⟩
    go_wp2_with fail
    go_ret
    exact ⟨rfl, bNext hb6 HB5.out⟩
  · have h1 : decide (20000 < most) = true := by simp; omega
    have h2 : decide (most ≤ 67108864) = false := by simp; omega
    go_enter Try.func4, Try.ntmps4
    go_wp2_with fail
    refine (eshown_any _).mono ?_
    rintro e w1 ⟨rfl, hB1⟩
    have HB1 := Lib.hid hB1; clear hB1
    go_upto_region 4 with fail
    clear h1 h2
    go_wp2_with fail
    refine (run_any w1 _ mem ca cc code _ (HE.out.below insRep HB1.out (Nat.le_refl _)) hlen (HS.out.below HB1.out)).mono ?_
    rintro e w2 ⟨v2, rfl, hs2, hw2, hb2⟩
    have hrr := fun W v he hs => rRun_any W v mem ca cc code most he hlen hs
    obtain ⟨S, hS⟩ : ∃ S, RunS code mem most = S := ⟨_, rfl⟩
    rw [hS] at hs2 hw2 ⊢
    have hml : S.1.1.mem.length ≤ 9223372036854775806 := by
      rw [← hS]; exact RunS_small _ _ _
    obtain ⟨a3, c3, rfl⟩ := hs2.form
    have HR := Lib.hid hrr
    have HS2 := Lib.hid hs2; have HW2 := Lib.hid hw2; have HB2 := Lib.hid (bNext hb2 HB1.out); have HES := Lib.hid hS; have HML := Lib.hid hml
    have HN2 := Lib.hid (fun (c : Array Value) => World.alloc_heap_new w2 (.cells c 26))
    have HL2 := Lib.hid hw2.len
    obtain ⟨z2, hz2⟩ : ∃ z2, w2.heap.size = z2 := ⟨_, rfl⟩
    clear hs2 hw2 hb2 hS hml HB1 hrr
    go_upto_region 5 with ((with_reducible show wpList _ _ _ ({ dst := none, op := Op.store 26 (.tmp 8) (.tmp _), type := _, pos := _, after := _, guard := _ } :: _) _ _); (refine wpList_store_whole rfl 26 _ _ rfl z2 rfl _ _ rfl 26 (by rw [← hz2]; exact HN2.out _) (by rw [Try.sizeSt, List.size_toArray, cellsSt_len HL2.out]) (by simp [cellsSt_len HL2.out]) (by simpa using cellsSt_one rfl _) ?_); intro w3 hr3 hg3)
    obtain ⟨s3, b3⟩ := new_state hz2 HW2.out.len hr3 hg3
    have HS3 := Lib.hid (HS2.out.below b3); have HIB := Lib.hid s3; have HB3 := Lib.hid (bNext b3 HB2.out)
    clear s3 b3 hr3 hg3 hz2 HN2 HS2 HB2
    go_wp2_with fail
    refine (HR.out w3 _ (HE.out.below insRep HB3.out (Nat.le_refl _)) (HS.out.below HB3.out)).mono ?_
    rintro e w4 ⟨v4, rfl, hs4, hw4, hb4⟩
    rw [HES.out] at hs4 hw4 ⊢
    obtain ⟨a5, c5, rfl⟩ := hs4.form
    have HS4 := Lib.hid hs4; have HB4 := Lib.hid (bNext hb4 HB3.out); have HIB4 := Lib.hid (HIB.out.below hb4); have HS34 := Lib.hid (HS3.out.below hb4)
    have HN4 := Lib.hid (fun (c : Array Value) => World.alloc_heap_new w4 (.cells c 26))
    obtain ⟨z4, hz4⟩ : ∃ z4, w4.heap.size = z4 := ⟨_, rfl⟩
    clear hs4 hw4 hb4 HIB HS3 HB3
    go_upto_region 6 with ((with_reducible show wpList _ _ _ ({ dst := none, op := Op.store 26 (.tmp 11) (.tmp _), type := _, pos := _, after := _, guard := _ } :: _) _ _); (refine wpList_store_whole rfl 26 _ _ rfl z4 rfl _ _ rfl 26 (by rw [← hz4]; exact HN4.out _) (by rw [Try.sizeSt, List.size_toArray, cellsSt_len HL2.out]) (by simp [cellsSt_len HL2.out]) (by simpa using cellsSt_one rfl _) ?_); intro w5 hr5 hg5)
    obtain ⟨s5, b5⟩ := new_state hz4 HW2.out.len hr5 hg5
    have HS5 := Lib.hid (HS4.out.below b5); have HS35 := Lib.hid (HS34.out.below b5); have HIB5 := Lib.hid (HIB4.out.below b5); have HIC5 := Lib.hid s5; have HB5 := Lib.hid (bNext b5 HB4.out)
    clear s5 b5 hr5 hg5 hz4 HN4 HS4 HB4 HIB4 HS34
    go_wp2_with (first
      | ((with_reducible show wpList _ _ _ ({ dst := some _, op := Op.load 26 (.tmp 8), type := _, pos := _, after := _, guard := _ } :: _) _ _); (refine wpList_load_rowW (by rfl) 26 _ rfl z2 rfl 26 _ (0, 0) _ (HIB5.out).row0 Try.underlying26 rfl (by rw [Try.sizeSt, List.size_toArray, cellsSt_len HL2.out]) ?_))
      | ((with_reducible show wpList _ _ _ ({ dst := some _, op := Op.load 26 (.tmp 11), type := _, pos := _, after := _, guard := _ } :: _) _ _); (refine wpList_load_rowW (by rfl) 26 _ rfl z4 rfl 26 _ (0, 0) _ (HIC5.out).row0 Try.underlying26 rfl (by rw [Try.sizeSt, List.size_toArray, cellsSt_len HL2.out]) ?_)))
    refine (same_any' _ _ _ S.1.1 HW2.out HML.out HS35.out HS5.out).mono ?_
    rintro e w6 ⟨rfl, hb6⟩
    go_wp2_with fail
    go_ret
    exact ⟨rfl, bNext hb6 HB5.out⟩
  · have h1 : decide (20000 < most) = false := by simp; omega
    go_enter Try.func4, Try.ntmps4
    go_wp2_with fail
    refine (eshown_any _).mono ?_
    rintro e w1 ⟨rfl, hB1⟩
    have HB1 := Lib.hid hB1; clear hB1
    go_upto_region 4 with fail
    clear h1
    go_wp2_with fail
    refine (run_any w1 _ mem ca cc code _ (HE.out.below insRep HB1.out (Nat.le_refl _)) hlen (HS.out.below HB1.out)).mono ?_
    rintro e w2 ⟨v2, rfl, hs2, hw2, hb2⟩
    have hrr := fun W v he hs => rRun_any W v mem ca cc code most he hlen hs
    obtain ⟨S, hS⟩ : ∃ S, RunS code mem most = S := ⟨_, rfl⟩
    rw [hS] at hs2 hw2 ⊢
    have hml : S.1.1.mem.length ≤ 9223372036854775806 := by
      rw [← hS]; exact RunS_small _ _ _
    obtain ⟨a3, c3, rfl⟩ := hs2.form
    have HR := Lib.hid hrr
    have HS2 := Lib.hid hs2; have HW2 := Lib.hid hw2; have HB2 := Lib.hid (bNext hb2 HB1.out); have HES := Lib.hid hS; have HML := Lib.hid hml
    have HN2 := Lib.hid (fun (c : Array Value) => World.alloc_heap_new w2 (.cells c 26))
    have HL2 := Lib.hid hw2.len
    obtain ⟨z2, hz2⟩ : ∃ z2, w2.heap.size = z2 := ⟨_, rfl⟩
    clear hs2 hw2 hb2 hS hml HB1 hrr
    go_upto_region 5 with ((with_reducible show wpList _ _ _ ({ dst := none, op := Op.store 26 (.tmp 8) (.tmp _), type := _, pos := _, after := _, guard := _ } :: _) _ _); (refine wpList_store_whole rfl 26 _ _ rfl z2 rfl _ _ rfl 26 (by rw [← hz2]; exact HN2.out _) (by rw [Try.sizeSt, List.size_toArray, cellsSt_len HL2.out]) (by simp [cellsSt_len HL2.out]) (by simpa using cellsSt_one rfl _) ?_); intro w3 hr3 hg3)
    obtain ⟨s3, b3⟩ := new_state hz2 HW2.out.len hr3 hg3
    have HS3 := Lib.hid (HS2.out.below b3); have HIB := Lib.hid s3; have HB3 := Lib.hid (bNext b3 HB2.out)
    clear s3 b3 hr3 hg3 hz2 HN2 HS2 HB2
    go_wp2_with fail
    refine (HR.out w3 _ (HE.out.below insRep HB3.out (Nat.le_refl _)) (HS.out.below HB3.out)).mono ?_
    rintro e w4 ⟨v4, rfl, hs4, hw4, hb4⟩
    rw [HES.out] at hs4 hw4 ⊢
    obtain ⟨a5, c5, rfl⟩ := hs4.form
    have HS4 := Lib.hid hs4; have HB4 := Lib.hid (bNext hb4 HB3.out); have HIB4 := Lib.hid (HIB.out.below hb4); have HS34 := Lib.hid (HS3.out.below hb4)
    have HN4 := Lib.hid (fun (c : Array Value) => World.alloc_heap_new w4 (.cells c 26))
    obtain ⟨z4, hz4⟩ : ∃ z4, w4.heap.size = z4 := ⟨_, rfl⟩
    clear hs4 hw4 hb4 HIB HS3 HB3
    go_upto_region 6 with ((with_reducible show wpList _ _ _ ({ dst := none, op := Op.store 26 (.tmp 11) (.tmp _), type := _, pos := _, after := _, guard := _ } :: _) _ _); (refine wpList_store_whole rfl 26 _ _ rfl z4 rfl _ _ rfl 26 (by rw [← hz4]; exact HN4.out _) (by rw [Try.sizeSt, List.size_toArray, cellsSt_len HL2.out]) (by simp [cellsSt_len HL2.out]) (by simpa using cellsSt_one rfl _) ?_); intro w5 hr5 hg5)
    obtain ⟨s5, b5⟩ := new_state hz4 HW2.out.len hr5 hg5
    have HS5 := Lib.hid (HS4.out.below b5); have HS35 := Lib.hid (HS34.out.below b5); have HIB5 := Lib.hid (HIB4.out.below b5); have HIC5 := Lib.hid s5; have HB5 := Lib.hid (bNext b5 HB4.out)
    clear s5 b5 hr5 hg5 hz4 HN4 HS4 HB4 HIB4 HS34
    go_wp2_with (first
      | ((with_reducible show wpList _ _ _ ({ dst := some _, op := Op.load 26 (.tmp 8), type := _, pos := _, after := _, guard := _ } :: _) _ _); (refine wpList_load_rowW (by rfl) 26 _ rfl z2 rfl 26 _ (0, 0) _ (HIB5.out).row0 Try.underlying26 rfl (by rw [Try.sizeSt, List.size_toArray, cellsSt_len HL2.out]) ?_))
      | ((with_reducible show wpList _ _ _ ({ dst := some _, op := Op.load 26 (.tmp 11), type := _, pos := _, after := _, guard := _ } :: _) _ _); (refine wpList_load_rowW (by rfl) 26 _ rfl z4 rfl 26 _ (0, 0) _ (HIC5.out).row0 Try.underlying26 rfl (by rw [Try.sizeSt, List.size_toArray, cellsSt_len HL2.out]) ?_)))
    refine (same_any' _ _ _ S.1.1 HW2.out HML.out HS35.out HS5.out).mono ?_
    rintro e w6 ⟨rfl, hb6⟩
    go_wp2_with fail
    go_ret
    exact ⟨rfl, bNext hb6 HB5.out⟩

set_option maxRecDepth 100000 in
theorem EmuRuns_lifted (os : Os) (started : os.Started) (H : Type) (enc : TypeId × Value → H) :
    ReturnsInHanded {} Try.checked os 4 .any (Rows.emuRunsSpec.pre6 enc Try.prog Try.f4 Rows.emuRunsRow.domain false) (Rows.emuRunsSpec.post enc Try.prog Try.f4 false true false false) := by
  refine returnsInHanded_of_change (C := Try.checked) own started (by kernel_rfl) Try.func4
    (ChangeSpec.witness6 (enc := enc) (C := Try.checked) false ⟨#[], #[.slice none 0 0, .slice none 0 0, .int .i64 0], []⟩ 8 (by kernel_rfl) (by kernel_rfl) (by kernel_rfl) (by kernel_rfl)) ?_
  intro W base args ds gs before hval0 hW hcnd _
  have hval : ∀ (j : Nat) t v, Try.f4.params[j]? = some t → args[j]? = some v → Value.okWide Try.prog W .any base t v := hval0
  have hW' := hW
  obtain ⟨p, q, hA0, hV, rfl, hfz, hnd⟩ := hW
  have hA : DataW.TrodAll enc Try.prog W 0 (fun _ => true) true Try.f4.params.toList args.toList ds p := hA0
  rw [Try.params4] at hA hval
  obtain ⟨v0, vs0, d0, ds0, p0, q0, hargs, rfl, rfl, h0, r0⟩ := trodAll_cons hA
  obtain ⟨v1, vs1, d1, ds1, p1, q1, rfl, rfl, rfl, h1, r1⟩ := trodAll_cons r0
  obtain ⟨v2, vs2, d2, ds2, p2, q2, rfl, rfl, rfl, h2, r2⟩ := trodAll_cons r1
  obtain ⟨rfl, rfl, rfl⟩ := trodAll_nil r2
  obtain rfl : args = #[v0, v1, v2] := by cases args; simp_all
  obtain ⟨rfl, rfl⟩ := trodVars_none hV
  have k0 := h0
  have lt0 : ∀ x ∈ p0, x.block < W.heap.size := by obtain ⟨m, hm⟩ := k0; exact DataW.trod_lt m _ _ _ hm
  obtain ⟨xs0, s0⟩ := opens_sl Try.underlying22 opens_inss (hval 0 22 v0 rfl rfl) h0
  have k1 := h1
  have lt1 : ∀ x ∈ p1, x.block < W.heap.size := by obtain ⟨m, hm⟩ := k1; exact DataW.trod_lt m _ _ _ hm
  obtain ⟨xs1, s1⟩ := opens_sl Try.underlying24 opens_i64 (hval 1 24 v1 rfl rfl) h1
  obtain ⟨a2, rfl, rfl, rfl, w2⟩ := open_int Try.underlying3 (hval 2 3 v2 rfl rfl) h2
  clear hA0 hval0
  refine (EmuRuns_walk W v0 xs0 v1 xs1 a2 s0 s1 w2).mono fun e W' ⟨he, bel⟩ => ?_
  subst he
  exact ⟨_, rfl, _, _, _, [], _, [], hW', trodAll_mk1 (shut_bool Try.underlying4 _), (trodAll_cons_mk (Below.trod laidOut (by kernel_rfl) (of_decide_eq_true (by kernel_rfl)) k0 bel lt0) (trodAll_cons_mk (Below.trod laidOut (by kernel_rfl) (of_decide_eq_true (by kernel_rfl)) k1 bel lt1) (trodAll_cons_mk (shut_int Try.underlying3 w2) trodAll_mk0))), rfl, bel.frame _, fun h => by cases h⟩

/-- The given statement. -/
theorem EmuRuns_holds : Rows.EmuRunsSaid :=
  OpenClaim.holds_of_wide 4 Try.f4 rfl rfl rfl rfl rfl rfl rfl ⟨rfl, rfl, rfl, rfl, rfl⟩ rfl rfl rfl rfl rfl (by kernel_rfl) Try.func4 (by kernel_rfl)
    (of_decide_eq_true (by kernel_rfl)) (by unfold Func.isWrapper; rw [if_neg (by decide +kernel)]; exact ⟨rfl, rfl⟩)
    (fun os started H enc _ => EmuRuns_lifted os started H enc)
#print axioms EmuRuns_holds
end Go.Proofs.Ytkgbjmmiomggbaa
