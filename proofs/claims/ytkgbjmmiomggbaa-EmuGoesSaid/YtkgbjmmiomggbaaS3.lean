/-
  EmuGoes: the law returns true for every input, and what was handed in reads as it did. No condition.
-/
import Derived.Test.YtkgbjmmiomggbaaE30
namespace Go.Proofs.Ytkgbjmmiomggbaa
open Go.ChangeShapes Go.WideShapes Go.ChangeAt Go.RowKit Go.Joins
set_option linter.unusedVariables false

/-- the law's loop: what is known at each turn -/
def GoRel (w : World) (zs zt : Nat) (vs : Value) (S : St) (n : Nat) (code : List Ins) (M : Nat) (q : St × Nat) (wr : World) (k : Nat) : Prop :=
  Below w.heap.size w wr ∧ InB wr zs vs S ∧ SlOff zt wr vs S.mem ∧ ∃ t vt, InB wr zt vt t ∧ SlOff zt wr vt t.mem ∧ t.wf ∧ t.mem.length = n ∧ RefAt code M q k t
theorem InB.other {w w' : World} {z z' : Nat} {v : Value} {s : St} (h : InB w z v s) (hg : w.grownBy w' (some z')) (hn : z ≠ z') : InB w' z v s := StB.grown h hg (fun e => hn (by cases e; rfl))

set_option maxRecDepth 100000 in
set_option maxHeartbeats 32000000 in
theorem EmuGoes_walk (w : World) (v0 : Value) (code : List Ins) (v1 : Value) (mem0 : List Int) (a2 : Int) (q0 : insRep.Sl w v0 code) (q1 : IntSl w v1 mem0) (w2 : (Lit.int .u8 a2).wf = true) :
    Calls Try.prog 5 #[v0, v1, .int .u8 a2] w fun e w' => e = .returned (.bool true) ∧ Below w.heap.size w w' := by
  obtain ⟨ca, cc, rfl, hc1, hc2, -, hel⟩ := q0
  have hlen : code.length ≤ 9223372036854775807 := by unfold maxLen at hc2; omega
  obtain ⟨a1, c1, rfl⟩ := q1.form
  obtain ⟨hb0, hb1⟩ := wf_u8 w2
  have HE := Lib.hid hel; have HS := Lib.hid q1
  clear hc1 hc2 hel q1 w2
  go_enter Try.func5, Try.ntmps5
  go_wp2_with fail
  refine (eshown_any _).mono ?_
  rintro e w1 ⟨rfl, hB1⟩
  have HB1 := Lib.hid hB1; clear hB1
  go_wp2_with fail
  refine (few_any w1 w _ mem0 HS.out).mono ?_
  rintro e w1' ⟨⟨u, rfl, hu⟩, rfl⟩
  have hlt : (mem0.take 1000).length ≤ 1000 := by simp; omega
  generalize mem0.take 1000 = mem at hu hlt
  obtain ⟨a2', c2, rfl⟩ := hu.form
  have HU := Lib.hid hu; have HLT0 := Lib.hid hlt
  clear hu hlt HS
  go_upto_region 4 with fail
  obtain ⟨M, hM⟩ := Int.eq_ofNat_of_zero_le (show 0 ≤ a2 % 201 from by omega)
  have hM1 : M ≤ 200 := by omega
  rw [hM]
  have hMz : (M : Int).toNat = M := by simp
  clear hM hb0 hb1
  have hrun := run_any w1 _ mem ca cc code M (HE.out.below insRep HB1.out (Nat.le_refl _)) hlen (HU.out.below HB1.out)
  unfold RunS at hrun
  rw [hMz] at hrun
  clear hMz
  cases hg : goodB code mem.length (M : Int) with
  | false =>
    rw [hg, if_neg (by simp)] at hrun
    have HR := Lib.hid hrun
    clear hrun hg
    go_wp2_with fail
    refine HR.out.mono ?_
    rintro e w2 ⟨v2, rfl, hs2, hw2, hb2⟩
    obtain ⟨a3, c3, rfl⟩ := hs2.form
    have HL2 : Hid ((St0 []).regs.length = 16) := Lib.hid hw2.len
    have HN2 := Lib.hid (fun (c : Array Value) => World.alloc_heap_new w2 (.cells c 26))
    obtain ⟨z2, hz2⟩ : ∃ z2, w2.heap.size = z2 := ⟨_, rfl⟩
    have HB2 := Lib.hid (bNext hb2 HB1.out)
    clear hb2 HB1 hs2 hw2 HR
    dsimp only
    go_wp2_with ((with_reducible show wpList _ _ _ ({ dst := none, op := Op.store 26 (.tmp 9) (.tmp _), type := _, pos := _, after := _, guard := _ } :: _) _ _); (refine wpList_store_whole rfl 26 _ _ rfl z2 rfl _ _ rfl 26 (by rw [← hz2]; exact HN2.out _) (by rw [Try.sizeSt, List.size_toArray, cellsSt_len HL2.out]) (by simp [cellsSt_len HL2.out]) (by simpa using cellsSt_one rfl _) ?_); intro w3 hr3 hg3)
    go_ret
    exact ⟨rfl, bNext (new_state hz2 HL2.out hr3 hg3).2 HB2.out⟩
  | true =>
    rw [hg, if_pos rfl] at hrun
    obtain ⟨hg1, hg2, -, -, hg5⟩ := good_facts hg
    have hall : ∀ k, (hk : k < code.length) → code[k].right = true := fun k hk => right_all hg5 hk
    obtain ⟨⟨S, D⟩, hq⟩ : ∃ q, runI code M (St0 mem) = q := ⟨_, rfl⟩
    rw [hq] at hrun
    have HR := Lib.hid hrun; have HQ := Lib.hid hq; have HA := Lib.hid hall
    clear hrun hg hg5 hq hall hg1 hg2
    go_wp2_with fail
    refine HR.out.mono ?_
    rintro e w2 ⟨v2, rfl, hs2, hw2, hb2⟩
    dsimp only at hs2 hw2 ⊢
    obtain ⟨a3, c3, rfl⟩ := hs2.form
    have HS2 := Lib.hid hs2; have HW2 := Lib.hid hw2
    have HL2 := Lib.hid hw2.len
    have HN2 := Lib.hid (fun (c : Array Value) => World.alloc_heap_new w2 (.cells c 26))
    obtain ⟨z2, hz2⟩ : ∃ z2, w2.heap.size = z2 := ⟨_, rfl⟩
    have HB2 := Lib.hid (bNext hb2 HB1.out)
    clear hb2 HB1 hs2 hw2 HR
    go_upto_region 5 with ((with_reducible show wpList _ _ _ ({ dst := none, op := Op.store 26 (.tmp 9) (.tmp _), type := _, pos := _, after := _, guard := _ } :: _) _ _); (refine wpList_store_whole rfl 26 _ _ rfl z2 rfl _ _ rfl 26 (by rw [← hz2]; exact HN2.out _) (by rw [Try.sizeSt, List.size_toArray, cellsSt_len HL2.out]) (by simp [cellsSt_len HL2.out]) (by simpa using cellsSt_one rfl _) ?_); intro w3 hr3 hg3)
    obtain ⟨s3, b3⟩ := new_state hz2 HL2.out hr3 hg3
    have HS3 := Lib.hid (HS2.out.below b3); have HIB := Lib.hid s3; have HB3 := Lib.hid (bNext b3 HB2.out)
    clear s3 b3 hr3 hg3 hz2 HN2 HS2 HB2
    have HN4 := Lib.hid (fun (c : Array Value) => World.alloc_heap_new w3 (.cells c 26))
    obtain ⟨z4, hz4⟩ : ∃ z4, w3.heap.size = z4 := ⟨_, rfl⟩
    have hz24 : z2 < z4 := by have := StB.lt HIB.out; omega
    go_upto_region 9 with ((with_reducible show wpList _ _ _ ({ dst := none, op := Op.store 26 (.tmp 12) (.tmp _), type := _, pos := _, after := _, guard := _ } :: _) _ _); (refine wpList_store_whole rfl 26 _ _ rfl z4 rfl _ (cellsSt (.slice a2' mem.length c2) (St0 mem)).toArray rfl 26 (by rw [← hz4]; exact HN4.out _) (by rw [Try.sizeSt]; rfl) (by rfl) (by simpa using cellsSt_one rfl (St0 mem)) ?_); intro w5 hr5 hg5)
    have hbz := HB3.out.size
    obtain ⟨s5, b5⟩ := new_state (v := .slice a2' mem.length c2) (s := St0 mem) hz4 rfl hr5 hg5
    have hrel : GoRel w z2 z4 (.slice a3 S.mem.length c3) S mem.length code M (S, D) w5 0 :=
      ⟨bNext b5 HB3.out, HIB.out.below b5, (SlOff.old HS3.out (by omega)).below b5, St0 mem, _, s5, (SlOff.old HU.out (by omega)).below (bNext b5 HB3.out), St0_wf HU.out.in64, rfl, .inl ⟨rfl, by unfold RunAt; rw [Nat.sub_zero, HQ.out]; rfl⟩⟩
    have hwz : w.heap.size ≤ z4 := by omega
    have HREL := Lib.hid hrel
    have HCW := Lib.hid (els_wf HE.out)
    clear hrel s5 b5 hr5 hg5 HN4 HB3 HIB HS3 hz4 hbz
    go_loopw [13] (fun i wr => ∃ k : Nat, k ≤ M ∧ i = .int .i64 k ∧ GoRel w z2 z4 (.slice a3 S.mem.length c3) S mem.length code M (S, D) wr k) (fun i _ => M - (intOf i).toNat)
    case atStart => exact ⟨0, Nat.zero_le _, rfl, HREL.out⟩
    case round =>
      obtain ⟨k, hk, rfl, hbel, hib, hso, t, vt, hit, hst, htw, htl, hat⟩ := hrel
      obtain ⟨at', ct, rfl⟩ := hst.1.form
      have c18 := StB.fin hit
      have hz0 : (0 : Int) ≤ (k : Int) := by omega
      have HBE := Lib.hid hbel; have HIB := Lib.hid hib; have HSO := Lib.hid hso; have HIT := Lib.hid hit; have HSt := Lib.hid hst; have HTW := Lib.hid htw; have HTL := Lib.hid htl
      have HLT := Lib.hid htw.len
      clear hbel hib hso hit hst htw htl
      rcases hat with ⟨hf, hat⟩ | ⟨hf, hat⟩
      · rw [hf] at c18
        by_cases hlt : k < M
        · have hgo := RefAt.go hat hf hlt HA.out
          have hlt' : (k : Int) < (M : Int) := by omega
          have HGO := Lib.hid hgo; have HF := Lib.hid hf
          clear hat hgo hf
          go_wp2_with ((with_reducible show wpList _ _ _ ({ dst := some _, op := Op.load 26 (.tmp 12), type := _, pos := _, after := _, guard := _ } :: _) _ _); (refine wpList_load_rowW (by rfl) 26 _ rfl z4 rfl 26 _ (0, 0) _ (HIT.out).row0 Try.underlying26 rfl (by rw [Try.sizeSt, List.size_toArray, cellsSt_len HLT.out]) ?_))
          refine (step_go wr at' ct ca cc code t HTW.out HF.out (by rw [HTL.out]; have := HLT0.out; omega) HSt.out.1 (HE.out.below insRep HBE.out (Nat.le_refl _)) hlen).mono ?_
          rintro e w6 ⟨v6, rfl, hm6, hb6⟩
          have hwf6 := rstepS_wf HCW.out hlen HTW.out
          have hml6 := rstepS_memlen code t
          obtain ⟨a6, c6, rfl, -⟩ := MemR.form hm6
          obtain ⟨t1, ht1⟩ : ∃ t1, rstepS code t = t1 := ⟨_, rfl⟩
          rw [ht1] at hm6 hwf6 hml6 HGO ⊢
          have hit6 := HIT.out.below hb6
          have hzl := StB.lt HIT.out
          have HM6 := Lib.hid hm6; have HB6 := Lib.hid hb6; have HW6 := Lib.hid hwf6; have HL6 := Lib.hid hwf6.len; have HML6 := Lib.hid hml6; have HI6 := Lib.hid hit6
          clear hm6 hb6 hwf6 hml6 hit6 ht1 c18
          go_wp2_with ((with_reducible show wpList _ _ _ ({ dst := none, op := Op.store 26 (.tmp 12) (.tmp _), type := _, pos := _, after := _, guard := _ } :: _) _ _); (refine wpList_store_whole rfl 26 _ _ rfl z4 rfl _ _ rfl 26 (HI6.out).row0 (by rw [Try.sizeSt, List.size_toArray, cellsSt_len HL6.out]) (by rw [List.size_toArray, List.size_toArray, cellsSt_len HL6.out, cellsSt_len HLT.out]) (by simpa using cellsSt_one rfl _) ?_); intro w7 hr7 hg7)
          go_roundw
          case rel =>
            have hbb := bNext HB6.out HBE.out
            exact ⟨k + 1, by omega, by go_num, hbb.grown hg7 hbb.size (fun j e => by cases e; omega), (HIB.out.below HB6.out).other hg7 (by omega), (HSO.out.below HB6.out).store hg7, t1, _, ⟨by rw [List.append_nil]; exact hr7, HL6.out⟩, (SlOff.own HM6.out HW6.out.mem hzl).store hg7, HW6.out, HML6.out.trans HTL.out, HGO.out⟩
          case measure => simp [intOf]; omega
        · obtain rfl : k = M := by omega
          obtain ⟨hS, rfl⟩ := Prod.mk.inj hat.most
          subst hS
          have f18 := StB.frozen HIT.out 18
          have hib8 : InB (wr.setCell ⟨z4, 18, none⟩ (.int .i64 6)) z2 (.slice a3 ({ t with fin := 6 } : St).mem.length c3) { t with fin := 6 } := StB.other (p := ⟨z4, 18, none⟩) HIB.out (by show z4 ≠ z2; omega) _
          have hit8 : InB (wr.setCell ⟨z4, 18, none⟩ (.int .i64 6)) z4 (.slice at' t.mem.length ct) { t with fin := 6 } := StB.setFin HIT.out 6
          have HIB8 := Lib.hid hib8; have HIT8 := Lib.hid hit8
          have HW8 := Lib.hid (fin_wf HTW.out (p := 6) ⟨by decide, by decide⟩)
          have HL8 := Lib.hid HW8.out.len
          have HA8 := Lib.hid (HSO.out.setCell (o := 18) (.int .i64 6)).1
          have HB8 := Lib.hid (HSt.out.setCell (o := 18) (.int .i64 6)).1
          have HBE8 := Lib.hid (HBE.out.setCell (p := ⟨z4, 18, none⟩) hwz (.int .i64 6))
          clear hib8 hit8 hat hf
          go_wp2_with (first
            | ((with_reducible show wpList _ _ _ ({ dst := some _, op := Op.load 26 (.tmp 9), type := _, pos := _, after := _, guard := _ } :: _) _ _); (refine wpList_load_rowW (by rfl) 26 _ rfl z2 rfl 26 _ (0, 0) _ (HIB8.out).row0 Try.underlying26 rfl (by rw [Try.sizeSt, List.size_toArray, cellsSt_len HL8.out]) ?_))
            | ((with_reducible show wpList _ _ _ ({ dst := some _, op := Op.load 26 (.tmp 12), type := _, pos := _, after := _, guard := _ } :: _) _ _); (refine wpList_load_rowW (by rfl) 26 _ rfl z4 rfl 26 _ (0, 0) _ (HIT8.out).row0 Try.underlying26 rfl (by rw [Try.sizeSt, List.size_toArray, cellsSt_len HL8.out]) ?_)))
          refine (same_any' _ _ _ { t with fin := 6 } HW8.out (by show t.mem.length ≤ _; rw [HTL.out]; have := HLT0.out; omega) HA8.out HB8.out).mono ?_
          rintro e w9 ⟨rfl, hb9⟩
          go_wp2_with fail
          go_ret
          exact ⟨rfl, bNext hb9 HBE8.out⟩
      · have hf' : (t.fin == 0) = false := by simpa using hf
        obtain ⟨hS, hD⟩ := Prod.mk.inj hat
        subst hS
        subst hD
        have HIB8 := HIB; have HIT8 := HIT; have HW8 := HTW; have HL8 := HLT; have HBE8 := HBE
        have HA8 := Lib.hid HSO.out.1; have HB8 := Lib.hid HSt.out.1
        clear hf hat
        by_cases hlt : D < M
        · have hlt' : (D : Int) < (M : Int) := by omega
          go_wp2_with (first
            | ((with_reducible show wpList _ _ _ ({ dst := some _, op := Op.load 26 (.tmp 9), type := _, pos := _, after := _, guard := _ } :: _) _ _); (refine wpList_load_rowW (by rfl) 26 _ rfl z2 rfl 26 _ (0, 0) _ (HIB8.out).row0 Try.underlying26 rfl (by rw [Try.sizeSt, List.size_toArray, cellsSt_len HL8.out]) ?_))
            | ((with_reducible show wpList _ _ _ ({ dst := some _, op := Op.load 26 (.tmp 12), type := _, pos := _, after := _, guard := _ } :: _) _ _); (refine wpList_load_rowW (by rfl) 26 _ rfl z4 rfl 26 _ (0, 0) _ (HIT8.out).row0 Try.underlying26 rfl (by rw [Try.sizeSt, List.size_toArray, cellsSt_len HL8.out]) ?_)))
          refine (same_any' _ _ _ S HW8.out (by show S.mem.length ≤ _; rw [HTL.out]; have := HLT0.out; omega) HA8.out HB8.out).mono ?_
          rintro e w9 ⟨rfl, hb9⟩
          go_wp2_with fail
          go_ret
          exact ⟨rfl, bNext hb9 HBE8.out⟩
        · have hlt' : decide ((D : Int) < (M : Int)) = false := by simp; omega
          go_wp2_with (first
            | ((with_reducible show wpList _ _ _ ({ dst := some _, op := Op.load 26 (.tmp 9), type := _, pos := _, after := _, guard := _ } :: _) _ _); (refine wpList_load_rowW (by rfl) 26 _ rfl z2 rfl 26 _ (0, 0) _ (HIB8.out).row0 Try.underlying26 rfl (by rw [Try.sizeSt, List.size_toArray, cellsSt_len HL8.out]) ?_))
            | ((with_reducible show wpList _ _ _ ({ dst := some _, op := Op.load 26 (.tmp 12), type := _, pos := _, after := _, guard := _ } :: _) _ _); (refine wpList_load_rowW (by rfl) 26 _ rfl z4 rfl 26 _ (0, 0) _ (HIT8.out).row0 Try.underlying26 rfl (by rw [Try.sizeSt, List.size_toArray, cellsSt_len HL8.out]) ?_)))
          refine (same_any' _ _ _ S HW8.out (by show S.mem.length ≤ _; rw [HTL.out]; have := HLT0.out; omega) HA8.out HB8.out).mono ?_
          rintro e w9 ⟨rfl, hb9⟩
          go_wp2_with fail
          go_ret
          exact ⟨rfl, bNext hb9 HBE8.out⟩

set_option maxRecDepth 100000 in
theorem EmuGoes_lifted (os : Os) (started : os.Started) (H : Type) (enc : TypeId × Value → H) :
    ReturnsInHanded {} Try.checked os 5 .any (Rows.emuGoesSpec.pre6 enc Try.prog Try.f5 Rows.emuGoesRow.domain false) (Rows.emuGoesSpec.post enc Try.prog Try.f5 false true false false) := by
  refine returnsInHanded_of_change (C := Try.checked) own started (by kernel_rfl) Try.func5
    (ChangeSpec.witness6 (enc := enc) (C := Try.checked) false ⟨#[], #[.slice none 0 0, .slice none 0 0, .int .u8 0], []⟩ 8 (by kernel_rfl) (by kernel_rfl) (by kernel_rfl) (by kernel_rfl)) ?_
  intro W base args ds gs before hval0 hW hcnd _
  have hval : ∀ (j : Nat) t v, Try.f5.params[j]? = some t → args[j]? = some v → Value.okWide Try.prog W .any base t v := hval0
  have hW' := hW
  obtain ⟨p, q, hA0, hV, rfl, hfz, hnd⟩ := hW
  have hA : DataW.TrodAll enc Try.prog W 0 (fun _ => true) true Try.f5.params.toList args.toList ds p := hA0
  rw [Try.params5] at hA hval
  obtain ⟨v0, vs0, d0, ds0, p0, q0, hargs, rfl, rfl, h0, r0⟩ := trodAll_cons hA
  obtain ⟨v1, vs1, d1, ds1, p1, q1, rfl, rfl, rfl, h1, r1⟩ := trodAll_cons r0
  obtain ⟨v2, vs2, d2, ds2, p2, q2, rfl, rfl, rfl, h2, r2⟩ := trodAll_cons r1
  obtain ⟨rfl, rfl, rfl⟩ := trodAll_nil r2
  obtain rfl : args = #[v0, v1, v2] := by cases args; simp_all
  obtain ⟨rfl, rfl⟩ := trodVars_none hV
  have k0 := h0
  have lt0 : ∀ x ∈ p0, x.block < W.heap.size := by obtain ⟨m, hm⟩ := k0; exact DataW.trod_lt m _ _ _ hm
  obtain ⟨xs0, s0⟩ := opens_sl Try.underlying22 opens_inss (hval 0 22 v0 rfl rfl) h0
  have k1 := h1
  have lt1 : ∀ x ∈ p1, x.block < W.heap.size := by obtain ⟨m, hm⟩ := k1; exact DataW.trod_lt m _ _ _ hm
  obtain ⟨xs1, s1⟩ := opens_sl Try.underlying24 opens_i64 (hval 1 24 v1 rfl rfl) h1
  obtain ⟨a2, rfl, rfl, rfl, w2⟩ := open_int Try.underlying5 (hval 2 5 v2 rfl rfl) h2
  clear hA0 hval0
  refine (EmuGoes_walk W v0 xs0 v1 xs1 a2 s0 s1 w2).mono fun e W' ⟨he, bel⟩ => ?_
  subst he
  exact ⟨_, rfl, _, _, _, [], _, [], hW', trodAll_mk1 (shut_bool Try.underlying4 _), (trodAll_cons_mk (Below.trod laidOut (by kernel_rfl) (of_decide_eq_true (by kernel_rfl)) k0 bel lt0) (trodAll_cons_mk (Below.trod laidOut (by kernel_rfl) (of_decide_eq_true (by kernel_rfl)) k1 bel lt1) (trodAll_cons_mk (shut_int Try.underlying5 w2) trodAll_mk0))), rfl, bel.frame _, fun h => by cases h⟩

/-- The given statement. -/
theorem EmuGoes_holds : Rows.EmuGoesSaid :=
  OpenClaim.holds_of_wide 5 Try.f5 rfl rfl rfl rfl rfl rfl rfl ⟨rfl, rfl, rfl, rfl, rfl⟩ rfl rfl rfl rfl rfl (by kernel_rfl) Try.func5 (by kernel_rfl)
    (of_decide_eq_true (by kernel_rfl)) (by unfold Func.isWrapper; rw [if_neg (by decide +kernel)]; exact ⟨rfl, rfl⟩)
    (fun os started H enc _ => EmuGoes_lifted os started H enc)
#print axioms EmuGoes_holds
end Go.Proofs.Ytkgbjmmiomggbaa
