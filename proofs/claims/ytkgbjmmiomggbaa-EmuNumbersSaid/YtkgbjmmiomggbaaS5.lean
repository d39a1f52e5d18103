/-
  EmuNumbers: the law returns true for every input, and what was handed in reads as it did. No condition.
-/
import Derived.Test.YtkgbjmmiomggbaaE31
namespace Go.Proofs.Ytkgbjmmiomggbaa
open Go.ChangeShapes Go.WideShapes Go.ChangeAt Go.RowKit Go.Joins
set_option linter.unusedVariables false

theorem codeN_right {k hi lo : Int} (h0 : 0 ≤ k) (hk : k < 16) : ([⟨2, k, 0, 0, hi⟩, ⟨3, k, 0, 0, lo⟩, ⟨0, 0, 0, 0, 0⟩] : List Ins).any (fun i => !i.right) = false := by
  have h2 : kind 2 = 3 := by decide
  have h3 : kind 3 = 3 := by decide
  have h0' : kind 0 = 1 := by decide
  simp [Ins.right, insRight, h2, h3, h0', hk]
theorem codeN_run {k : Nat} {hi lo : Int} (hk : k < 16) : ∃ S, runI [⟨2, k, 0, 0, hi⟩, ⟨3, k, 0, 0, lo⟩, ⟨0, 0, 0, 0, 0⟩] 10 (St0 []) = (S, 3) ∧ S.fin = 1 ∧ S.R (k : Int) = wrap64 (hi * 4294967296 + low32 lo) := by
  have s1 : mstepS [⟨2, k, 0, 0, hi⟩, ⟨3, k, 0, 0, lo⟩, ⟨0, 0, 0, 0, 0⟩] (St0 []) = ({ (St0 []).setR (k : Int) hi with pc := 1 }, true) := rfl
  have s2 : mstepS [⟨2, k, 0, 0, hi⟩, ⟨3, k, 0, 0, lo⟩, ⟨0, 0, 0, 0, 0⟩] { (St0 []).setR (k : Int) hi with pc := 1 } = ({ ({ (St0 []).setR (k : Int) hi with pc := 1 } : St).setR (k : Int) (wrap64 (({ (St0 []).setR (k : Int) hi with pc := 1 } : St).R (k : Int) * 4294967296 + low32 lo)) with pc := 2 }, true) := rfl
  have hR : ({ (St0 []).setR (k : Int) hi with pc := 1 } : St).R (k : Int) = hi := by
    unfold St.R St.setR St0
    simp [List.getD_eq_getElem?_getD, hk]
  rw [hR] at s2
  generalize hs : ({ (St0 []).setR (k : Int) hi with pc := 1 } : St) = S1 at s1 s2
  generalize hs2 : ({ S1.setR (k : Int) (wrap64 (hi * 4294967296 + low32 lo)) with pc := 2 } : St) = S2 at s2
  have s3 : mstepS [⟨2, k, 0, 0, hi⟩, ⟨3, k, 0, 0, lo⟩, ⟨0, 0, 0, 0, 0⟩] S2 = ({ S2 with fin := 1 }, false) := by rw [← hs2]; rfl
  refine ⟨{ S2 with fin := 1 }, ?_, rfl, ?_⟩
  · rw [runI_succ_go (by rw [s1]), s1]
    dsimp only
    rw [runI_succ_go (by rw [s2]), s2]
    dsimp only
    rw [runI_succ_end (by rw [s3]), s3]
  · rw [← hs2, ← hs]
    unfold St.R St.setR St0
    simp [List.getD_eq_getElem?_getD, hk]

theorem wrap32_in (x : Int) : -2147483648 ≤ wrap32 x ∧ wrap32 x ≤ 2147483647 := by unfold wrap32; omega
theorem num_parts (n : Int) (h : -9223372036854775808 ≤ n ∧ n ≤ 9223372036854775807) : wrap64 (n / 4294967296 * 4294967296 + low32 (wrap32 (IntKind.u64.wrap n % 4294967296))) = n := by
  have hu : IntKind.u64.wrap n = n % 18446744073709551616 := by simp [IntKind.wrap, IntKind.signed, IntKind.bits]
  rw [hu]
  unfold wrap64 low32 wrap32
  split <;> omega

set_option maxRecDepth 100000 in
set_option maxHeartbeats 32000000 in
theorem EmuNumbers_walk (w : World) (n r : Int) (w0 : (Lit.int .i64 n).wf = true) (w1 : (Lit.int .u8 r).wf = true) :
    Calls Try.prog 7 #[.int .i64 n, .int .u8 r] w fun e w' => e = .returned (.bool true) ∧ Below w.heap.size w w' := by
  obtain ⟨hb0, hb1⟩ := wf_u8 w1
  obtain ⟨hn0, hn1⟩ := wf_i64 w0
  clear w0 w1
  go_enter Try.func7, Try.ntmps7
  go_wp2_with fail
  refine (eshown_any _).mono ?_
  rintro e w1 ⟨rfl, hB1⟩
  have HB1 := Lib.hid hB1; clear hB1
  go_upto_region 4 with fail
  obtain ⟨k, hk⟩ := Int.eq_ofNat_of_zero_le (show 0 ≤ r % 16 from by omega)
  have hk16 : k < 16 := by omega
  rw [hk]
  have hval := num_parts n ⟨hn0, hn1⟩
  have hhi : -2147483648 ≤ n / 4294967296 ∧ n / 4294967296 ≤ 2147483647 := by omega
  have hlo := wrap32_in (IntKind.u64.wrap n % 4294967296)
  generalize wrap32 (IntKind.u64.wrap n % 4294967296) = lo at hval hlo ⊢
  generalize n / 4294967296 = hi at hval hhi ⊢
  obtain ⟨S, hS, hS1, hS2⟩ := codeN_run (hi := hi) (lo := lo) hk16
  rw [hval] at hS2
  have hg : goodB [⟨2, k, 0, 0, hi⟩, ⟨3, k, 0, 0, lo⟩, ⟨0, 0, 0, 0, 0⟩] 0 10 = true := by
    rw [goodB_of (by simp) (by omega) (by omega) (by omega), codeN_right (by omega) (by omega)]
    rfl
  have hl := runI_len [⟨2, k, 0, 0, hi⟩, ⟨3, k, 0, 0, lo⟩, ⟨0, 0, 0, 0, 0⟩] 10 (s := St0 []) rfl
  have hmm := runI_memlen [⟨2, k, 0, 0, hi⟩, ⟨3, k, 0, 0, lo⟩, ⟨0, 0, 0, 0, 0⟩] 10 (St0 [])
  rw [hS] at hl hmm
  dsimp only at hl hmm
  have K1 := Lib.hid (run_lit0 [⟨2, k, 0, 0, hi⟩, ⟨3, k, 0, 0, lo⟩, ⟨0, 0, 0, 0, 0⟩] 3 rfl _ (by simp only [List.flatMap_cons, List.flatMap_nil, Ins.enc, List.cons_append, List.nil_append, List.append_nil]; rfl) (by
    intro x hx
    simp at hx
    rcases hx with rfl | rfl | rfl
    · exact ⟨(show (0 : Int) ≤ 2 ∧ (2 : Int) ≤ 255 from by decide), (show (0 : Int) ≤ k ∧ (k : Int) ≤ 255 from by omega), (show (0 : Int) ≤ 0 ∧ (0 : Int) ≤ 255 from by decide), (show (0 : Int) ≤ 0 ∧ (0 : Int) ≤ 255 from by decide), hhi⟩
    · exact ⟨(show (0 : Int) ≤ 3 ∧ (3 : Int) ≤ 255 from by decide), (show (0 : Int) ≤ k ∧ (k : Int) ≤ 255 from by omega), (show (0 : Int) ≤ 0 ∧ (0 : Int) ≤ 255 from by decide), (show (0 : Int) ≤ 0 ∧ (0 : Int) ≤ 255 from by decide), hlo⟩
    · exact ⟨by decide, by decide, by decide, by decide, by decide⟩) 10 hg hS)
  have H1 := Lib.hid hS1; have H2 := Lib.hid hS2; have HL := Lib.hid hl
  have hz0 : (0 : Int) ≤ (k : Int) := by omega
  have hz1 : (k : Int) < 16 := by omega
  clear hS1 hS2 hl hg hS hval hhi hlo hmm hk hb0 hb1
  go_wp2_with fail
  refine (K1.out _ _ rfl).mono ?_
  rintro e w2 ⟨v2, rfl, hm2, hb2⟩
  obtain ⟨a3, c3, rfl, -⟩ := MemR.form hm2
  dsimp only
  have HN2 := Lib.hid (fun (c : Array Value) => World.alloc_heap_new w2 (.cells c 26))
  obtain ⟨z2, hz2⟩ : ∃ z2, w2.heap.size = z2 := ⟨_, rfl⟩
  have hbb : Below w1.heap.size w1 w2 := ((Below.refl _ _).alloc (Nat.le_refl _) _).trans (hb2.mono (by simp))
  have HB2 := Lib.hid (bNext hbb HB1.out)
  clear hb2 hm2 HB1 hbb K1
  go_upto_region 5 with ((with_reducible show wpList _ _ _ ({ dst := none, op := Op.store 26 (.tmp 8) (.tmp _), type := _, pos := _, after := _, guard := _ } :: _) _ _); (refine wpList_store_whole rfl 26 _ _ rfl z2 rfl _ _ rfl 26 (by rw [← hz2]; exact HN2.out _) (by rw [Try.sizeSt, List.size_toArray, cellsSt_len HL.out]) (by simp [cellsSt_len HL.out]) (by simpa using cellsSt_one rfl _) ?_); intro w3 hr3 hg3)
  obtain ⟨s3, b3⟩ := new_state hz2 HL.out hr3 hg3
  have HB3 := Lib.hid (bNext b3 HB2.out)
  have c18 := StB.fin s3
  have ck := StB.reg s3 hk16
  rw [H1.out] at c18
  rw [H2.out] at ck
  clear s3 b3 hr3 hg3 hz2 HN2 HB2
  go_wp2_with fail
  go_ret
  exact ⟨rfl, HB3.out⟩

set_option maxRecDepth 100000 in
theorem EmuNumbers_lifted (os : Os) (started : os.Started) (H : Type) (enc : TypeId × Value → H) :
    ReturnsInHanded {} Try.checked os 7 .any (Rows.emuNumbersSpec.pre6 enc Try.prog Try.f7 Rows.emuNumbersRow.domain false) (Rows.emuNumbersSpec.post enc Try.prog Try.f7 false true false false) := by
  refine returnsInHanded_of_change (C := Try.checked) own started (by kernel_rfl) Try.func7
    (ChangeSpec.witness6 (enc := enc) (C := Try.checked) false ⟨#[], #[.int .i64 0, .int .u8 0], []⟩ 8 (by kernel_rfl) (by kernel_rfl) (by kernel_rfl) (by kernel_rfl)) ?_
  intro W base args ds gs before hval0 hW hcnd _
  have hval : ∀ (j : Nat) t v, Try.f7.params[j]? = some t → args[j]? = some v → Value.okWide Try.prog W .any base t v := hval0
  have hW' := hW
  obtain ⟨p, q, hA0, hV, rfl, hfz, hnd⟩ := hW
  have hA : DataW.TrodAll enc Try.prog W 0 (fun _ => true) true Try.f7.params.toList args.toList ds p := hA0
  rw [Try.params7] at hA hval
  obtain ⟨v0, vs0, d0, ds0, p0, q0, hargs, rfl, rfl, h0, r0⟩ := trodAll_cons hA
  obtain ⟨v1, vs1, d1, ds1, p1, q1, rfl, rfl, rfl, h1, r1⟩ := trodAll_cons r0
  obtain ⟨rfl, rfl, rfl⟩ := trodAll_nil r1
  obtain rfl : args = #[v0, v1] := by cases args; simp_all
  obtain ⟨rfl, rfl⟩ := trodVars_none hV
  obtain ⟨a0, rfl, rfl, rfl, w0⟩ := open_int Try.underlying2 (hval 0 2 v0 rfl rfl) h0
  obtain ⟨a1, rfl, rfl, rfl, w1⟩ := open_int Try.underlying5 (hval 1 5 v1 rfl rfl) h1
  clear hA0 hval0
  refine (EmuNumbers_walk W a0 a1 w0 w1).mono fun e W' ⟨he, bel⟩ => ?_
  subst he
  exact ⟨_, rfl, _, _, _, [], _, [], hW', trodAll_mk1 (shut_bool Try.underlying4 _), (trodAll_cons_mk (shut_int Try.underlying2 w0) (trodAll_cons_mk (shut_int Try.underlying5 w1) trodAll_mk0)), rfl, bel.frame _, fun h => by cases h⟩

/-- The given statement. -/
theorem EmuNumbers_holds : Rows.EmuNumbersSaid :=
  OpenClaim.holds_of_wide 7 Try.f7 rfl rfl rfl rfl rfl rfl rfl ⟨rfl, rfl, rfl, rfl, rfl⟩ rfl rfl rfl rfl rfl (by kernel_rfl) Try.func7 (by kernel_rfl)
    (of_decide_eq_true (by kernel_rfl)) (by unfold Func.isWrapper; rw [if_neg (by decide +kernel)]; exact ⟨rfl, rfl⟩)
    (fun os started H enc _ => EmuNumbers_lifted os started H enc)
#print axioms EmuNumbers_holds
end Go.Proofs.Ytkgbjmmiomggbaa
