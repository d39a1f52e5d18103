/-
  EmuSteps: the law returns true for every input, and what was handed in reads as it did. No condition.
-/
import Derived.Test.YtkgbjmmiomggbaaE30
namespace Go.Proofs.Ytkgbjmmiomggbaa
open Go.ChangeShapes Go.WideShapes Go.ChangeAt Go.RowKit Go.Joins
set_option linter.unusedVariables false

set_option maxRecDepth 100000 in
set_option maxHeartbeats 16000000 in
theorem EmuSteps_walk (w : World) (v0 : Value) (code : List Ins) (v1 : Value) (s : St) (q0 : insRep.Sl w v0 code) (hwf : s.wf) (q1 : IntSl w v1 s.mem) :
    Calls Try.prog 3 #[v0, .agg (cellsSt v1 s).toArray] w fun e w' => e = .returned (.bool true) ∧ Below w.heap.size w w' := by
  obtain ⟨ca, cc, rfl, hc1, hc2, -, hel⟩ := q0
  have hlen : code.length ≤ 9223372036854775807 := by unfold maxLen at hc2; omega
  clear hc1 hc2
  have hst := StB.new w v1 s 26 hwf.len
  obtain ⟨xb, hxb⟩ : ∃ xb, w.heap.size = xb := ⟨_, rfl⟩
  rw [hxb] at hst
  have HST := Lib.hid hst; have HE := Lib.hid hel; have HW := Lib.hid hwf; have HS := Lib.hid q1; have Hxb := Lib.hid hxb
  clear hst hel hwf q1
  obtain ⟨a1, c1, rfl⟩ := HS.out.form
  go_enter Try.func3, Try.ntmps3
  go_wp2_with fail
  refine (eshown_any _).mono ?_
  rintro e w1 ⟨rfl, hB1⟩
  have hB1' : Below w.heap.size w w1 := ((Below.refl _ _).alloc (Nat.le_refl _) _).trans (hB1.mono (by simp))
  have st1 := HST.out.below hB1
  have c16 := st1.memv
  have f16 := st1.frozen 16
  have HB1 := Lib.hid hB1'; have ST1 := Lib.hid st1
  clear hB1 hB1' st1 HST hxb
  go_wp2_with fail
  refine (few_any w1 w _ s.mem HS.out).mono ?_
  rintro e w1' ⟨⟨u, rfl, hu⟩, rfl⟩
  have hlt : (s.mem.take 1000).length ≤ 1000 := by simp; omega
  have hin : ∀ x ∈ s.mem.take 1000, In64 x := fun x hx => HW.out.mem x (List.mem_of_mem_take hx)
  generalize s.mem.take 1000 = l at hu hlt hin
  obtain ⟨a2, c2, rfl⟩ := hu.form
  obtain ⟨s', hs'⟩ : ∃ s', s.with l = s' := ⟨_, rfl⟩
  obtain rfl : l = s'.mem := by rw [← hs']; rfl
  have hst2 : InB (w1.setCell ⟨xb, 16, none⟩ (.slice a2 s'.mem.length c2)) xb (.slice a2 s'.mem.length c2) s' := by rw [← hs']; exact ST1.out.setMem _
  have hB2 : Below w.heap.size w (w1.setCell ⟨xb, 16, none⟩ (.slice a2 s'.mem.length c2)) := HB1.out.setCell (by rw [Hxb.out]; exact Nat.le_refl _) _
  have HT' : Hid s'.wf := by rw [← hs']; exact Lib.hid (St.with_wf HW.out hin)
  have HU' := Lib.hid hu; have HLT' := Lib.hid hlt
  have HB2 := Lib.hid hB2; have ST2 := Lib.hid hst2
  clear hu hst2 hB2 hlt hin hs'
  go_upto_region 3 with fail
  refine gen_world (fun W => Below w.heap.size w W ∧ InB W xb (.slice a2 s'.mem.length c2) s') ⟨HB2.out, ST2.out⟩ ?_
  rintro W ⟨hbW, hsW⟩
  have HBW := Lib.hid hbW; have HSW := Lib.hid hsW; have HL := Lib.hid HT'.out.len
  clear hbW hsW HS HW c16 f16 HB1 ST1 HB2 ST2
  go_wp2_with ((with_reducible show wpList _ _ _ ({ dst := some _, op := Op.load 26 (.tmp 3), type := _, pos := _, after := _, guard := _ } :: _) _ _); (refine wpList_load_rowW (by rfl) 26 _ rfl xb rfl 26 _ (0, 0) _ (HSW.out).row0 Try.underlying26 rfl (by rw [Try.sizeSt, List.size_toArray, cellsSt_len HL.out]) ?_))
  refine (step_any W _ ca cc code s' HT'.out (by have := HLT'.out; omega) (HU'.out.below HBW.out) (HE.out.below insRep HBW.out (Nat.le_refl _)) hlen).mono ?_
  rintro e w2 ⟨v2, rfl, hs2, hw2, hb2⟩
  have hml := StepS_memlen code s'
  obtain ⟨S, hS⟩ : ∃ S, StepS code s' = S := ⟨_, rfl⟩
  rw [hS] at hs2 hw2 hml ⊢
  obtain ⟨a3, c3, rfl⟩ := hs2.form
  have HS2 := Lib.hid hs2; have HW2 := Lib.hid hw2; have HB2 := Lib.hid (bNext hb2 HBW.out); have HSt2 := Lib.hid (HSW.out.below hb2); have HES := Lib.hid hS; have HML := Lib.hid hml
  have HN2 := Lib.hid (fun (c : Array Value) => World.alloc_heap_new w2 (.cells c 26))
  have HL2 := Lib.hid hw2.len
  obtain ⟨z2, hz2⟩ : ∃ z2, w2.heap.size = z2 := ⟨_, rfl⟩
  clear hs2 hw2 hb2 hS hml HSW HBW
  go_upto_region 4 with ((with_reducible show wpList _ _ _ ({ dst := none, op := Op.store 26 (.tmp 6) (.tmp _), type := _, pos := _, after := _, guard := _ } :: _) _ _); (refine wpList_store_whole rfl 26 _ _ rfl z2 rfl _ _ rfl 26 (by rw [← hz2]; exact HN2.out _) (by rw [Try.sizeSt, List.size_toArray, cellsSt_len HL2.out]) (by simp [cellsSt_len HL2.out]) (by simpa using cellsSt_one rfl _) ?_); intro w3 hr3 hg3)
  obtain ⟨s3, b3⟩ := new_state hz2 HW2.out.len hr3 hg3
  have HS3 := Lib.hid (HS2.out.below b3); have HIB := Lib.hid s3; have HB3 := Lib.hid (bNext b3 HB2.out); have HSt3 := Lib.hid (HSt2.out.below b3)
  clear s3 b3 hr3 hg3 hz2 HN2 HS2 HB2 HSt2
  go_wp2_with ((with_reducible show wpList _ _ _ ({ dst := some _, op := Op.load 26 (.tmp 3), type := _, pos := _, after := _, guard := _ } :: _) _ _); (refine wpList_load_rowW (by rfl) 26 _ rfl xb rfl 26 _ (0, 0) _ (HSt3.out).row0 Try.underlying26 rfl (by rw [Try.sizeSt, List.size_toArray, cellsSt_len HL.out]) ?_))
  refine (rStep_any w3 _ ca cc code s' HT'.out (by have := HLT'.out; omega) (HU'.out.below HB3.out) (HE.out.below insRep HB3.out (Nat.le_refl _)) hlen).mono ?_
  rintro e w4 ⟨v4, rfl, hs4, hw4, hb4⟩
  rw [HES.out] at hs4 hw4 ⊢
  obtain ⟨a5, c5, rfl⟩ := hs4.form
  have HS4 := Lib.hid hs4; have HB4 := Lib.hid (bNext hb4 HB3.out); have HIB4 := Lib.hid (HIB.out.below hb4); have HS34 := Lib.hid (HS3.out.below hb4)
  have HN4 := Lib.hid (fun (c : Array Value) => World.alloc_heap_new w4 (.cells c 26))
  obtain ⟨z4, hz4⟩ : ∃ z4, w4.heap.size = z4 := ⟨_, rfl⟩
  clear hs4 hw4 hb4 HIB HS3 HB3 HSt3
  go_upto_region 5 with ((with_reducible show wpList _ _ _ ({ dst := none, op := Op.store 26 (.tmp 7) (.tmp _), type := _, pos := _, after := _, guard := _ } :: _) _ _); (refine wpList_store_whole rfl 26 _ _ rfl z4 rfl _ _ rfl 26 (by rw [← hz4]; exact HN4.out _) (by rw [Try.sizeSt, List.size_toArray, cellsSt_len HL2.out]) (by simp [cellsSt_len HL2.out]) (by simpa using cellsSt_one rfl _) ?_); intro w5 hr5 hg5)
  obtain ⟨s5, b5⟩ := new_state hz4 HW2.out.len hr5 hg5
  have HS5 := Lib.hid (HS4.out.below b5); have HS35 := Lib.hid (HS34.out.below b5); have HIB5 := Lib.hid (HIB4.out.below b5); have HIC5 := Lib.hid s5; have HB5 := Lib.hid (bNext b5 HB4.out)
  clear s5 b5 hr5 hg5 hz4 HN4 HS4 HB4 HIB4 HS34
  go_wp2_with (first
    | ((with_reducible show wpList _ _ _ ({ dst := some _, op := Op.load 26 (.tmp 6), type := _, pos := _, after := _, guard := _ } :: _) _ _); (refine wpList_load_rowW (by rfl) 26 _ rfl z2 rfl 26 _ (0, 0) _ (HIB5.out).row0 Try.underlying26 rfl (by rw [Try.sizeSt, List.size_toArray, cellsSt_len HL2.out]) ?_))
    | ((with_reducible show wpList _ _ _ ({ dst := some _, op := Op.load 26 (.tmp 7), type := _, pos := _, after := _, guard := _ } :: _) _ _); (refine wpList_load_rowW (by rfl) 26 _ rfl z4 rfl 26 _ (0, 0) _ (HIC5.out).row0 Try.underlying26 rfl (by rw [Try.sizeSt, List.size_toArray, cellsSt_len HL2.out]) ?_)))
  refine (same_any' _ _ _ S HW2.out (by rw [HML.out]; have := HLT'.out; omega) HS35.out HS5.out).mono ?_
  rintro e w6 ⟨rfl, hb6⟩
  go_wp2_with fail
  go_ret
  exact ⟨rfl, bNext hb6 HB5.out⟩

set_option maxRecDepth 100000 in
theorem EmuSteps_lifted (os : Os) (started : os.Started) (H : Type) (enc : TypeId × Value → H) :
    ReturnsInHanded {} Try.checked os 3 .any (Rows.emuStepsSpec.pre6 enc Try.prog Try.f3 Rows.emuStepsRow.domain false) (Rows.emuStepsSpec.post enc Try.prog Try.f3 false true false false) := by
  refine returnsInHanded_of_change (C := Try.checked) own started (by kernel_rfl) Try.func3
    (ChangeSpec.witness6 (enc := enc) (C := Try.checked) false ⟨#[], #[.slice none 0 0, .agg #[.int .i64 0, .int .i64 0, .int .i64 0, .int .i64 0, .int .i64 0, .int .i64 0, .int .i64 0, .int .i64 0, .int .i64 0, .int .i64 0, .int .i64 0, .int .i64 0, .int .i64 0, .int .i64 0, .int .i64 0, .int .i64 0, .slice none 0 0, .int .i64 0, .int .i64 0, .int .i32 0]], []⟩ 8 (by kernel_rfl) (by kernel_rfl) (by kernel_rfl) (by kernel_rfl)) ?_
  intro W base args ds gs before hval0 hW hcnd _
  have hval : ∀ (j : Nat) t v, Try.f3.params[j]? = some t → args[j]? = some v → Value.okWide Try.prog W .any base t v := hval0
  have hW' := hW
  obtain ⟨p, q, hA0, hV, rfl, hfz, hnd⟩ := hW
  have hA : DataW.TrodAll enc Try.prog W 0 (fun _ => true) true Try.f3.params.toList args.toList ds p := hA0
  rw [Try.params3] at hA hval
  obtain ⟨v0, vs0, d0, ds0, p0, q0, hargs, rfl, rfl, h0, r0⟩ := trodAll_cons hA
  obtain ⟨v1, vs1, d1, ds1, p1, q1, rfl, rfl, rfl, h1, r1⟩ := trodAll_cons r0
  obtain ⟨rfl, rfl, rfl⟩ := trodAll_nil r1
  obtain rfl : args = #[v0, v1] := by cases args; simp_all
  obtain ⟨rfl, rfl⟩ := trodVars_none hV
  have k0 := h0
  have lt0 : ∀ x ∈ p0, x.block < W.heap.size := by obtain ⟨m, hm⟩ := k0; exact DataW.trod_lt m _ _ _ hm
  obtain ⟨xs0, s0⟩ := opens_sl Try.underlying22 opens_inss (hval 0 22 v0 rfl rfl) h0
  have k1 := h1
  have lt1 : ∀ x ∈ p1, x.block < W.heap.size := by obtain ⟨m, hm⟩ := k1; exact DataW.trod_lt m _ _ _ hm
  obtain ⟨xs1, u1, rfl, f1, s1⟩ := open_state (hval 1 26 v1 rfl rfl) h1
  clear hA0 hval0
  refine (EmuSteps_walk W v0 xs0 u1 xs1 s0 f1 s1).mono fun e W' ⟨he, bel⟩ => ?_
  subst he
  exact ⟨_, rfl, _, _, _, [], _, [], hW', trodAll_mk1 (shut_bool Try.underlying4 _), (trodAll_cons_mk (Below.trod laidOut (by kernel_rfl) (of_decide_eq_true (by kernel_rfl)) k0 bel lt0) (trodAll_cons_mk (Below.trod laidOut (by kernel_rfl) (of_decide_eq_true (by kernel_rfl)) k1 bel lt1) trodAll_mk0)), rfl, bel.frame _, fun h => by cases h⟩

/-- The given statement. -/
theorem EmuSteps_holds : Rows.EmuStepsSaid :=
  OpenClaim.holds_of_wide 3 Try.f3 rfl rfl rfl rfl rfl rfl rfl ⟨rfl, rfl, rfl, rfl, rfl⟩ rfl rfl rfl rfl rfl (by kernel_rfl) Try.func3 (by kernel_rfl)
    (of_decide_eq_true (by kernel_rfl)) (by unfold Func.isWrapper; rw [if_neg (by decide +kernel)]; exact ⟨rfl, rfl⟩)
    (fun os started H enc _ => EmuSteps_lifted os started H enc)
#print axioms EmuSteps_holds
end Go.Proofs.Ytkgbjmmiomggbaa
