/-
  EmuEnds: the law returns true for every input, and what was handed in reads as it did. No condition.
-/
import Derived.Test.YtkgbjmmiomggbaaE31
namespace Go.Proofs.Ytkgbjmmiomggbaa
open Go.ChangeShapes Go.WideShapes Go.ChangeAt Go.RowKit Go.Joins
set_option linter.unusedVariables false

theorem stepI_frame (i : Ins) {s : St} (h : s.fin = 0) : ((stepI i s).1.fin = 0 → (stepI i s).1.told = s.told) ∧ ((stepI i s).1.fin ≠ 0 → ({ (stepI i s).1 with fin := 0, told := s.told } : St) = s ∧ 1 ≤ (stepI i s).1.fin ∧ (stepI i s).1.fin ≤ 5) := by
  show (fun r : St × Bool => (r.1.fin = 0 → r.1.told = s.told) ∧ (r.1.fin ≠ 0 → ({ r.1 with fin := 0, told := s.told } : St) = s ∧ 1 ≤ r.1.fin ∧ r.1.fin ≤ 5)) (stepI i s)
  unfold stepI
  repeat' (apply ite_pred (p := fun r : St × Bool => (r.1.fin = 0 → r.1.told = s.told) ∧ (r.1.fin ≠ 0 → ({ r.1 with fin := 0, told := s.told } : St) = s ∧ 1 ≤ r.1.fin ∧ r.1.fin ≤ 5)))
  all_goals first | exact ⟨fun _ => rfl, fun e => absurd h e⟩ | (refine ⟨fun e => absurd (show (_ : Int) = 0 from e) (by dsimp only; omega), fun _ => ⟨?_, by dsimp only; omega, by dsimp only; omega⟩⟩; dsimp only; rw [← h])
theorem rstepS_frame (code : List Ins) {s : St} (h : s.fin = 0) : ((rstepS code s).fin = 0 → (rstepS code s).told = s.told ∧ ∃ k, ∃ hk : k < code.length, s.pc = (k : Int) ∧ code[k].right = true) ∧ ((rstepS code s).fin ≠ 0 → ({ rstepS code s with fin := 0, told := s.told } : St) = s ∧ 1 ≤ (rstepS code s).fin ∧ (rstepS code s).fin ≤ 5) := by
  have h5 : ({ ({ s with fin := 5 } : St) with fin := 0, told := s.told } : St) = s := by show ({ s with fin := 0 } : St) = s; rw [← h]
  by_cases hp : 0 ≤ s.pc ∧ s.pc < code.length
  · obtain ⟨k, hk⟩ := Int.eq_ofNat_of_zero_le hp.1
    have hlt : k < code.length := by omega
    cases hr : code[k].right with
    | true =>
      rw [rstepS_right hlt hk hr]
      have hm : (mstepS code s).1 = (stepI code[k] s).1 := by
        unfold mstepS
        rw [dif_pos hp]
        congr 2
        simp [hk]
      rw [hm]
      have := stepI_frame code[k] h
      exact ⟨fun e => ⟨this.1 e, k, hlt, hk, hr⟩, this.2⟩
    | false =>
      rw [rstepS_wrong hlt hk hr]
      exact ⟨fun e => absurd (show (5 : Int) = 0 from e) (by decide), fun _ => ⟨h5, by show (1 : Int) ≤ 5; decide, by show (5 : Int) ≤ 5; decide⟩⟩
  · rw [rstepS_out hp]
    exact ⟨fun e => absurd (show (5 : Int) = 0 from e) (by decide), fun _ => ⟨h5, by show (1 : Int) ≤ 5; decide, by show (5 : Int) ≤ 5; decide⟩⟩
theorem InB.setFin {w : World} {z : Nat} {v : Value} {s : St} (h : InB w z v s) (x : Int) : InB (w.setCell ⟨z, 18, none⟩ (.int .i64 x)) z v { s with fin := x } := StB.setFin h x
theorem InB.setTold {w : World} {z : Nat} {v : Value} {s : St} (h : InB w z v s) (x : Int) : InB (w.setCell ⟨z, 19, none⟩ (.int .i32 x)) z v { s with told := x } := StB.setTold h x
theorem InB.apart {w : World} {z z' o : Nat} {v u : Value} {s : St} (h : InB w z v s) (hn : z' ≠ z) : InB (w.setCell ⟨z', o, none⟩ u) z v s := StB.other (p := ⟨z', o, none⟩) h hn u

set_option maxRecDepth 100000 in
set_option maxHeartbeats 32000000 in
theorem EmuEnds_walk (w : World) (v0 : Value) (code : List Ins) (v1 : Value) (s : St) (q0 : insRep.Sl w v0 code) (hwf : s.wf) (q1 : IntSl w v1 s.mem) :
    Calls Try.prog 8 #[v0, .agg (cellsSt v1 s).toArray] w fun e w' => e = .returned (.bool true) ∧ Below w.heap.size w w' := by
  obtain ⟨ca, cc, rfl, hc1, hc2, -, hel⟩ := q0
  have hlen : code.length ≤ 9223372036854775807 := by unfold maxLen at hc2; omega
  clear hc1 hc2
  have hst := StB.new w v1 s 26 hwf.len
  obtain ⟨xb, hxb⟩ : ∃ xb, w.heap.size = xb := ⟨_, rfl⟩
  rw [hxb] at hst
  have HST := Lib.hid hst; have HE := Lib.hid hel; have HW := Lib.hid hwf; have HS := Lib.hid q1; have Hxb := Lib.hid hxb
  clear hst hel hwf q1
  obtain ⟨a1, c1, rfl⟩ := HS.out.form
  go_enter Try.func8, Try.ntmps8
  go_wp2_with fail
  refine (eshown_any _).mono ?_
  rintro e w1 ⟨rfl, hB1⟩
  have hB1' : Below w.heap.size w w1 := ((Below.refl _ _).alloc (Nat.le_refl _) _).trans (hB1.mono (by simp))
  have st1 := HST.out.below hB1
  have c16 := st1.memv
  have f16 := st1.frozen 16
  have HB1 := Lib.hid hB1'; have ST1 := Lib.hid st1
  clear hB1 hB1' st1 HST hxb
  go_wp2_with fail
  refine (few_any w1 w _ s.mem HS.out).mono ?_
  rintro e w1' ⟨⟨u, rfl, hu⟩, rfl⟩
  have hlt : (s.mem.take 1000).length ≤ 1000 := by simp; omega
  have hin : ∀ x ∈ s.mem.take 1000, In64 x := fun x hx => HW.out.mem x (List.mem_of_mem_take hx)
  generalize s.mem.take 1000 = l at hu hlt hin
  obtain ⟨a2, c2, rfl⟩ := hu.form
  obtain ⟨s', hs'⟩ : ∃ s', s.with l = s' := ⟨_, rfl⟩
  obtain rfl : l = s'.mem := by rw [← hs']; rfl
  have hst2 : InB (w1.setCell ⟨xb, 16, none⟩ (.slice a2 s'.mem.length c2)) xb (.slice a2 s'.mem.length c2) s' := by rw [← hs']; exact ST1.out.setMem _
  have hB2 : Below w.heap.size w (w1.setCell ⟨xb, 16, none⟩ (.slice a2 s'.mem.length c2)) := HB1.out.setCell (by rw [Hxb.out]; exact Nat.le_refl _) _
  have HT' : Hid s'.wf := by rw [← hs']; exact Lib.hid (St.with_wf HW.out hin)
  have HU' := Lib.hid hu; have HLT' := Lib.hid hlt
  have HB2 := Lib.hid hB2; have ST2 := Lib.hid hst2
  clear hu hst2 hB2 hlt hin hs'
  go_upto_region 3 with fail
  refine gen_world (fun W => Below w.heap.size w W ∧ InB W xb (.slice a2 s'.mem.length c2) s') ⟨HB2.out, ST2.out⟩ ?_
  rintro W ⟨hbW, hsW⟩
  have HBW := Lib.hid hbW; have HSW := Lib.hid hsW; have HL := Lib.hid HT'.out.len
  clear hbW hsW HS HW c16 f16 HB1 ST1 HB2 ST2
  go_wp2_with ((with_reducible show wpList _ _ _ ({ dst := some _, op := Op.load 26 (.tmp 3), type := _, pos := _, after := _, guard := _ } :: _) _ _); (refine wpList_load_rowW (by rfl) 26 _ rfl xb rfl 26 _ (0, 0) _ (HSW.out).row0 Try.underlying26 rfl (by rw [Try.sizeSt, List.size_toArray, cellsSt_len HL.out]) ?_))
  refine (step_any W _ ca cc code s' HT'.out (by have := HLT'.out; omega) (HU'.out.below HBW.out) (HE.out.below insRep HBW.out (Nat.le_refl _)) hlen).mono ?_
  rintro e w2 ⟨v2, rfl, hs2, hw2, hb2⟩
  have hml := StepS_memlen code s'
  obtain ⟨S, hS⟩ : ∃ S, StepS code s' = S := ⟨_, rfl⟩
  rw [hS] at hs2 hw2 hml ⊢
  obtain ⟨a3, c3, rfl⟩ := hs2.form
  have HS2 := Lib.hid hs2; have HW2 := Lib.hid hw2; have HB2 := Lib.hid (bNext hb2 HBW.out); have HSt2 := Lib.hid (HSW.out.below hb2); have HES := Lib.hid hS; have HML := Lib.hid hml
  have HN2 := Lib.hid (fun (c : Array Value) => World.alloc_heap_new w2 (.cells c 26))
  have HL2 := Lib.hid hw2.len
  obtain ⟨z2, hz2⟩ : ∃ z2, w2.heap.size = z2 := ⟨_, rfl⟩
  clear hs2 hw2 hb2 hS hml HSW HBW
  go_upto_region 4 with ((with_reducible show wpList _ _ _ ({ dst := none, op := Op.store 26 (.tmp 6) (.tmp _), type := _, pos := _, after := _, guard := _ } :: _) _ _); (refine wpList_store_whole rfl 26 _ _ rfl z2 rfl _ _ rfl 26 (by rw [← hz2]; exact HN2.out _) (by rw [Try.sizeSt, List.size_toArray, cellsSt_len HL2.out]) (by simp [cellsSt_len HL2.out]) (by simpa using cellsSt_one rfl _) ?_); intro w3 hr3 hg3)
  obtain ⟨s3, b3⟩ := new_state hz2 HW2.out.len hr3 hg3
  have hxz : xb < z2 := by have := StB.lt HSt2.out; omega
  have hz2w : w.heap.size ≤ z2 := by have := HB2.out.size; omega
  have HS3 := Lib.hid (HS2.out.below b3); have HIB := Lib.hid s3; have HB3 := Lib.hid (bNext b3 HB2.out); have HSt3 := Lib.hid (HSt2.out.below b3)
  have c18 := StB.fin HSt3.out
  have d18 := StB.fin s3
  clear s3 b3 hr3 hg3 hz2 HN2 HS2 HB2 HSt2
  by_cases hf : s'.fin = 0
  · rw [hf] at c18
    have hS : rstepS code s' = S := by rw [← HES.out]; unfold StepS; rw [if_pos hf]
    have hfr := rstepS_frame code hf
    rw [hS] at hfr
    by_cases hSf : S.fin = 0
    · obtain ⟨ht, k, hk, hpc, hR⟩ := hfr.1 hSf
      rw [hSf] at d18
      have c17 := StB.pc HSt3.out
      rw [hpc] at c17
      obtain ⟨b, off, rfl, hw, x0, x1, x2, x3, x4⟩ := els_ins (HE.out.below insRep HB3.out (Nat.le_refl _)) hk
      have hq := isaRight_any w3 code[k].op code[k].a code[k].b code[k].c code[k].imm hw.op.1 hw.op.2
      have hrule : insRight code[k].op code[k].a code[k].b code[k].c code[k].imm = code[k].right := rfl
      rw [hrule, hR] at hq
      have hz0 : (0 : Int) ≤ (k : Int) := by omega
      have hz1 : (k : Int) < (code.length : Int) := by omega
      have HQ := Lib.hid hq
      have HTT := Lib.hid ht
      clear hq hrule hR hw hpc hS hfr hf hSf ht
      go_wp2_with fail
      refine HQ.out.mono ?_
      rintro e w5 ⟨rfl, hb5⟩
      have c19 := StB.told (HSt3.out.below hb5)
      have d19 := StB.told (HIB.out.below hb5)
      rw [HTT.out] at d19
      go_wp2_with fail
      go_ret
      exact ⟨rfl, bNext hb5 HB3.out⟩
    · obtain ⟨hT, h1, h5⟩ := hfr.2 hSf
      have d18' : (S.fin == 0) = false := by simpa using hSf
      have h1' : decide (1 ≤ S.fin) = true := by simpa using h1
      have h5' : decide (S.fin ≤ 5) = true := by simpa using h5
      have c19 := StB.told HSt3.out
      have HT0 := Lib.hid hT; have HF := Lib.hid hSf
      have HN4 := Lib.hid (fun (c : Array Value) => World.alloc_heap_new w3 (.cells c 26))
      obtain ⟨z4, hz4⟩ : ∃ z4, w3.heap.size = z4 := ⟨_, rfl⟩
      have hzz : z2 < z4 := by have := StB.lt HIB.out; omega
      clear hS hfr hf hT hSf h1 h5
      go_upto_region 10 with (first
        | ((with_reducible show wpList _ _ _ ({ dst := some _, op := Op.load 26 (.tmp 6), type := _, pos := _, after := _, guard := _ } :: _) _ _); (refine wpList_load_rowW (by rfl) 26 _ rfl z2 rfl 26 _ (0, 0) _ (HIB.out).row0 Try.underlying26 rfl (by rw [Try.sizeSt, List.size_toArray, cellsSt_len HL2.out]) ?_))
        | ((with_reducible show wpList _ _ _ ({ dst := none, op := Op.store 26 (.tmp 8) (.tmp _), type := _, pos := _, after := _, guard := _ } :: _) _ _); (refine wpList_store_whole rfl 26 _ _ rfl z4 rfl _ _ rfl 26 (by rw [← hz4]; exact HN4.out _) (by rw [Try.sizeSt, List.size_toArray, cellsSt_len HL2.out]) (by simp [cellsSt_len HL2.out]) (by simpa using cellsSt_one rfl _) ?_); intro w5 hr5 hg5))
      obtain ⟨s5, b5⟩ := new_state hz4 HW2.out.len hr5 hg5
      have HS5 := Lib.hid ((SlOff.old (z := z4) HS3.out (by omega)).below b5); have HI5 := Lib.hid s5; have HB5 := Lib.hid (bNext b5 HB3.out); have HSt5 := Lib.hid (HSt3.out.below b5); have HIB5 := Lib.hid (HIB.out.below b5)
      have HU5 : Hid (SlOff z4 w5 (.slice a2 s'.mem.length c2) s'.mem) := Lib.hid ((SlOff.old (z := z4) HU'.out (by omega)).below HB5.out)
      have f18 := StB.frozen s5 18
      have f19 := StB.frozen s5 19
      have e18 := StB.fin s5
      have e19 := StB.told s5
      have c19' := StB.told HSt5.out
      clear s5 b5 hr5 hg5 hz4 HN4 HS3 HB3 HSt3 HIB c18 d18 c19
      go_upto_region 12 with fail
      have hI6 : InB ((w5.setCell ⟨z4, 18, none⟩ (.int .i64 0)).setCell ⟨z4, 19, none⟩ (.int .i32 s'.told)) z4 (.slice a3 S.mem.length c3) s' := by
        have := (HI5.out.setFin 0).setTold s'.told
        have e : ({ ({ S with fin := 0 } : St) with told := s'.told } : St) = s' := HT0.out
        rwa [e] at this
      have hIB6 := ((HIB5.out.apart (z' := z4) (o := 18) (u := .int .i64 0) (by omega))).apart (z' := z4) (o := 19) (u := .int .i32 s'.told) (by omega)
      have hSt6 := ((HSt5.out.apart (z' := z4) (o := 18) (u := .int .i64 0) (by omega))).apart (z' := z4) (o := 19) (u := .int .i32 s'.told) (by omega)
      have hS6 := (HS5.out.setCell (o := 18) (.int .i64 0)).setCell (o := 19) (.int .i32 s'.told)
      have hU6 := (HU5.out.setCell (o := 18) (.int .i64 0)).setCell (o := 19) (.int .i32 s'.told)
      have hB6 := (HB5.out.setCell (p := ⟨z4, 18, none⟩) (by show w.heap.size ≤ z4; omega) (.int .i64 0)).setCell (p := ⟨z4, 19, none⟩) (by show w.heap.size ≤ z4; omega) (.int .i32 s'.told)
      clear f18 f19 e18 e19 c19'
      refine gen_world (fun W => InB W z4 (.slice a3 S.mem.length c3) s' ∧ InB W z2 (.slice a3 S.mem.length c3) S ∧ InB W xb (.slice a2 s'.mem.length c2) s' ∧ IntSl W (.slice a3 S.mem.length c3) S.mem ∧ IntSl W (.slice a2 s'.mem.length c2) s'.mem ∧ Below w.heap.size w W) ⟨hI6, hIB6, hSt6, hS6.1, hU6.1, hB6⟩ ?_
      clear hI6 hIB6 hSt6 hS6 hU6 hB6 HS5 HI5 HB5 HSt5 HIB5 HU5
      rintro W6 ⟨hI6, hIB6, hSt6, hS6, hU6, hB6⟩
      have HI6 := Lib.hid hI6; have HIB6 := Lib.hid hIB6; have HSt6 := Lib.hid hSt6; have HS6 := Lib.hid hS6; have HU6 := Lib.hid hU6; have HB6 := Lib.hid hB6
      clear hI6 hIB6 hSt6 hS6 hU6 hB6
      go_wp2_with ((with_reducible show wpList _ _ _ ({ dst := some _, op := Op.load 26 (.tmp 6), type := _, pos := _, after := _, guard := _ } :: _) _ _); (refine wpList_load_rowW (by rfl) 26 _ rfl z2 rfl 26 _ (0, 0) _ (HIB6.out).row0 Try.underlying26 rfl (by rw [Try.sizeSt, List.size_toArray, cellsSt_len HL2.out]) ?_))
      refine (step_stop W6 _ ca code.length cc S HW2.out.len rfl HF.out).mono ?_
      rintro e w7 ⟨rfl, hb7⟩
      have HI7 := Lib.hid (HI6.out.below hb7); have HIB7 := Lib.hid (HIB6.out.below hb7); have HSt7 := Lib.hid (HSt6.out.below hb7); have HS7 := Lib.hid (HS6.out.below hb7); have HU7 := Lib.hid (HU6.out.below hb7); have HB7 := Lib.hid (bNext hb7 HB6.out)
      have HN7 := Lib.hid (fun (c : Array Value) => World.alloc_heap_new w7 (.cells c 26))
      obtain ⟨z7, hz7⟩ : ∃ z7, w7.heap.size = z7 := ⟨_, rfl⟩
      clear HI6 HIB6 HSt6 HS6 HU6 HB6 hb7
      go_upto_region 13 with ((with_reducible show wpList _ _ _ ({ dst := none, op := Op.store 26 (.tmp 9) (.tmp _), type := _, pos := _, after := _, guard := _ } :: _) _ _); (refine wpList_store_whole rfl 26 _ _ rfl z7 rfl _ _ rfl 26 (by rw [← hz7]; exact HN7.out _) (by rw [Try.sizeSt, List.size_toArray, cellsSt_len HL2.out]) (by simp [cellsSt_len HL2.out]) (by simpa using cellsSt_one rfl _) ?_); intro w8 hr8 hg8)
      obtain ⟨s8, b8⟩ := new_state hz7 HW2.out.len hr8 hg8
      have HI8 := Lib.hid (HI7.out.below b8); have HIB8 := Lib.hid (HIB7.out.below b8); have HSt8 := Lib.hid (HSt7.out.below b8); have HS8 := Lib.hid (HS7.out.below b8); have HU8 := Lib.hid (HU7.out.below b8); have HB8 := Lib.hid (bNext b8 HB7.out); have HA8 := Lib.hid s8
      clear HI7 HIB7 HSt7 HS7 HU7 HB7 b8 s8 hr8 hg8 HN7 hz7
      go_wp2_with (first
        | ((with_reducible show wpList _ _ _ ({ dst := some _, op := Op.load 26 (.tmp 8), type := _, pos := _, after := _, guard := _ } :: _) _ _); (refine wpList_load_rowW (by rfl) 26 _ rfl z4 rfl 26 _ (0, 0) _ (HI8.out).row0 Try.underlying26 rfl (by rw [Try.sizeSt, List.size_toArray, cellsSt_len HL.out]) ?_))
        | ((with_reducible show wpList _ _ _ ({ dst := some _, op := Op.load 26 (.tmp 3), type := _, pos := _, after := _, guard := _ } :: _) _ _); (refine wpList_load_rowW (by rfl) 26 _ rfl xb rfl 26 _ (0, 0) _ (HSt8.out).row0 Try.underlying26 rfl (by rw [Try.sizeSt, List.size_toArray, cellsSt_len HL.out]) ?_)))
      have hmS : S.mem = s'.mem := by have := congrArg St.mem HT0.out; exact this
      have hS8' : IntSl w8 (.slice a3 S.mem.length c3) s'.mem := by have := HS8.out; rwa [hmS] at this ⊢
      have HS8' := Lib.hid hS8'
      clear hS8' hmS
      refine (same_any' _ _ _ s' HT'.out (by have := HLT'.out; omega) HS8'.out HU8.out).mono ?_
      rintro e w9 ⟨rfl, hb9⟩
      have HIB9 := Lib.hid (HIB8.out.below hb9); have HA9 := Lib.hid (HA8.out.below hb9); have HS9 := Lib.hid (HS8.out.below hb9); have HB9 := Lib.hid (bNext hb9 HB8.out)
      clear hb9 HI8 HIB8 HSt8 HS8 HU8 HB8 HA8 HS8'
      go_wp2_with (first
        | ((with_reducible show wpList _ _ _ ({ dst := some _, op := Op.load 26 (.tmp 9), type := _, pos := _, after := _, guard := _ } :: _) _ _); (refine wpList_load_rowW (by rfl) 26 _ rfl z7 rfl 26 _ (0, 0) _ (HA9.out).row0 Try.underlying26 rfl (by rw [Try.sizeSt, List.size_toArray, cellsSt_len HL2.out]) ?_))
        | ((with_reducible show wpList _ _ _ ({ dst := some _, op := Op.load 26 (.tmp 6), type := _, pos := _, after := _, guard := _ } :: _) _ _); (refine wpList_load_rowW (by rfl) 26 _ rfl z2 rfl 26 _ (0, 0) _ (HIB9.out).row0 Try.underlying26 rfl (by rw [Try.sizeSt, List.size_toArray, cellsSt_len HL2.out]) ?_)))
      refine (same_any' _ _ _ S HW2.out (by rw [HML.out]; have := HLT'.out; omega) HS9.out HS9.out).mono ?_
      rintro e w10 ⟨rfl, hb10⟩
      have d18 := StB.fin (HIB9.out.below hb10)
      go_wp2_with fail
      go_ret
      exact ⟨rfl, bNext hb10 HB9.out⟩
  · have hf' : (s'.fin == 0) = false := by simpa using hf
    have hS : s' = S := by rw [← HES.out]; unfold StepS; rw [if_neg hf]
    subst hS
    clear hf
    go_wp2_with (first
      | ((with_reducible show wpList _ _ _ ({ dst := some _, op := Op.load 26 (.tmp 6), type := _, pos := _, after := _, guard := _ } :: _) _ _); (refine wpList_load_rowW (by rfl) 26 _ rfl z2 rfl 26 _ (0, 0) _ (HIB.out).row0 Try.underlying26 rfl (by rw [Try.sizeSt, List.size_toArray, cellsSt_len HL2.out]) ?_))
      | ((with_reducible show wpList _ _ _ ({ dst := some _, op := Op.load 26 (.tmp 3), type := _, pos := _, after := _, guard := _ } :: _) _ _); (refine wpList_load_rowW (by rfl) 26 _ rfl xb rfl 26 _ (0, 0) _ (HSt3.out).row0 Try.underlying26 rfl (by rw [Try.sizeSt, List.size_toArray, cellsSt_len HL2.out]) ?_)))
    refine (same_any' _ _ _ s' HW2.out (by have := HLT'.out; omega) HS3.out (HU'.out.below HB3.out)).mono ?_
    rintro e w6 ⟨rfl, hb6⟩
    go_wp2_with fail
    go_ret
    exact ⟨rfl, bNext hb6 HB3.out⟩

set_option maxRecDepth 100000 in
theorem EmuEnds_lifted (os : Os) (started : os.Started) (H : Type) (enc : TypeId × Value → H) :
    ReturnsInHanded {} Try.checked os 8 .any (Rows.emuEndsSpec.pre6 enc Try.prog Try.f8 Rows.emuEndsRow.domain false) (Rows.emuEndsSpec.post enc Try.prog Try.f8 false true false false) := by
  refine returnsInHanded_of_change (C := Try.checked) own started (by kernel_rfl) Try.func8
    (ChangeSpec.witness6 (enc := enc) (C := Try.checked) false ⟨#[], #[.slice none 0 0, .agg #[.int .i64 0, .int .i64 0, .int .i64 0, .int .i64 0, .int .i64 0, .int .i64 0, .int .i64 0, .int .i64 0, .int .i64 0, .int .i64 0, .int .i64 0, .int .i64 0, .int .i64 0, .int .i64 0, .int .i64 0, .int .i64 0, .slice none 0 0, .int .i64 0, .int .i64 0, .int .i32 0]], []⟩ 8 (by kernel_rfl) (by kernel_rfl) (by kernel_rfl) (by kernel_rfl)) ?_
  intro W base args ds gs before hval0 hW hcnd _
  have hval : ∀ (j : Nat) t v, Try.f8.params[j]? = some t → args[j]? = some v → Value.okWide Try.prog W .any base t v := hval0
  have hW' := hW
  obtain ⟨p, q, hA0, hV, rfl, hfz, hnd⟩ := hW
  have hA : DataW.TrodAll enc Try.prog W 0 (fun _ => true) true Try.f8.params.toList args.toList ds p := hA0
  rw [Try.params8] at hA hval
  obtain ⟨v0, vs0, d0, ds0, p0, q0, hargs, rfl, rfl, h0, r0⟩ := trodAll_cons hA
  obtain ⟨v1, vs1, d1, ds1, p1, q1, rfl, rfl, rfl, h1, r1⟩ := trodAll_cons r0
  obtain ⟨rfl, rfl, rfl⟩ := trodAll_nil r1
  obtain rfl : args = #[v0, v1] := by cases args; simp_all
  obtain ⟨rfl, rfl⟩ := trodVars_none hV
  have k0 := h0
  have lt0 : ∀ x ∈ p0, x.block < W.heap.size := by obtain ⟨m, hm⟩ := k0; exact DataW.trod_lt m _ _ _ hm
  obtain ⟨xs0, s0⟩ := opens_sl Try.underlying22 opens_inss (hval 0 22 v0 rfl rfl) h0
  have k1 := h1
  have lt1 : ∀ x ∈ p1, x.block < W.heap.size := by obtain ⟨m, hm⟩ := k1; exact DataW.trod_lt m _ _ _ hm
  obtain ⟨xs1, u1, rfl, f1, s1⟩ := open_state (hval 1 26 v1 rfl rfl) h1
  clear hA0 hval0
  refine (EmuEnds_walk W v0 xs0 u1 xs1 s0 f1 s1).mono fun e W' ⟨he, bel⟩ => ?_
  subst he
  exact ⟨_, rfl, _, _, _, [], _, [], hW', trodAll_mk1 (shut_bool Try.underlying4 _), (trodAll_cons_mk (Below.trod laidOut (by kernel_rfl) (of_decide_eq_true (by kernel_rfl)) k0 bel lt0) (trodAll_cons_mk (Below.trod laidOut (by kernel_rfl) (of_decide_eq_true (by kernel_rfl)) k1 bel lt1) trodAll_mk0)), rfl, bel.frame _, fun h => by cases h⟩

/-- The given statement. -/
theorem EmuEnds_holds : Rows.EmuEndsSaid :=
  OpenClaim.holds_of_wide 8 Try.f8 rfl rfl rfl rfl rfl rfl rfl ⟨rfl, rfl, rfl, rfl, rfl⟩ rfl rfl rfl rfl rfl (by kernel_rfl) Try.func8 (by kernel_rfl)
    (of_decide_eq_true (by kernel_rfl)) (by unfold Func.isWrapper; rw [if_neg (by decide +kernel)]; exact ⟨rfl, rfl⟩)
    (fun os started H enc _ => EmuEnds_lifted os started H enc)
#print axioms EmuEnds_holds
end Go.Proofs.Ytkgbjmmiomggbaa
