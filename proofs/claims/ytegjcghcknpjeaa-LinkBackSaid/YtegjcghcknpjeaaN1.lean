/-
  LinkBack: the law returns true for every input, and what was handed in reads as it did. No condition.
-/
import Derived.Test.YtegjcghcknpjeaaP7
import Derived.Test.YtegjcghcknpjeaaOpen0
namespace Go.Proofs.Ytegjcghcknpjeaa
open Go.ChangeShapes Go.WideShapes Go.ChangeAt Go.RowKit Go.Joins
set_option linter.unusedVariables false

set_option maxRecDepth 100000 in
set_option maxHeartbeats 4000000 in
theorem LinkBack_walk (w : World) (v0 : Value) (code : List Ins) (q0 : insRep.Sl w v0 code) :
    Calls Try.prog 4 #[v0] w fun e w' => e = .returned (.bool true) ∧ Below w.heap.size w w' := by
  obtain ⟨a, c, rfl, hm1, hm2, _, h⟩ := q0
  have hm := Nat.le_trans hm1 hm2
  have hwf : ∀ i ∈ code, i.wf := fun i hi => by
    obtain ⟨k, hk, rfl⟩ := List.getElem_of_mem hi
    obtain ⟨_, _, _, hw, _⟩ := els_ins h hk
    exact hw
  have k1 := fun W (hB : Below w.heap.size w W) => unlink_any W a c code hm (h.below insRep hB (Nat.le_refl _))
  have hbad := @unlinkS_bad code
  have hgood := @linkS_unlinkS code
  have hlen := unlinkS_len code
  have hpw := unlinkS_wf hwf
  generalize unlinkS code = u at k1 hbad hgood hlen hpw
  obtain ⟨l, er⟩ := u
  have K1 := Lib.hid k1
  have HI := Lib.hid h
  have HW := Lib.hid hwf
  have HP := Lib.hid hpw
  clear k1 h hwf hpw
  dsimp only at hbad hgood hlen
  by_cases he : er = 0
  · subst he
    have HG := Lib.hid (hgood rfl); clear hgood hbad
    have HL := Lib.hid hlen; clear hlen
    have HM := Lib.hid hm; clear hm hm1 hm2
    go_enter Try.func4, Try.ntmps4
    go_wp2_with fail
    refine (shown_any _).mono ?_
    rintro e w1 ⟨rfl, hB1⟩
    go_wp2_with fail
    refine (K1.out _ hB1).mono ?_
    rintro e w2 ⟨⟨v, rfl, hr⟩, hb⟩
    have hB2 := bNext hb hB1
    have hsl := RowP.sl hr HP.out
    obtain ⟨al, cl, rfl, hl1, hl2, _, hel⟩ := hsl
    have HE := Lib.hid hel
    clear hb hr hl1 hl2 hel
    go_wp2_with fail
    refine (link_any w2 al cl l (Nat.le_trans HL.out (by decide)) HE.out).mono ?_
    rintro e w3 ⟨⟨v, rfl, hr⟩, hb⟩
    rw [HG.out] at hr ⊢
    have hB3 := bNext hb hB2
    have hsl := RowIns.sl hr HW.out
    obtain ⟨ac, cc, rfl, _, _, _, hel⟩ := hsl
    have HE3 := Lib.hid hel
    clear hb hr hel
    go_wp2_with fail
    refine (codes_any w3 ac a cc c code code HM.out HM.out HE3.out (HI.out.below insRep hB3 (Nat.le_refl _))).mono ?_
    rintro e w4 ⟨he, n4, rfl⟩
    rw [show sameL code code = true from by simp [sameL]] at he
    subst he
    go_wp2_with fail
    go_ret
    exact ⟨rfl, hB3.trans (Below.drewN _ _)⟩
  · have hx := hbad he
    injection hx with h1 h2
    subst h1 h2
    go_enter Try.func4, Try.ntmps4
    go_wp2_with fail
    refine (shown_any _).mono ?_
    rintro e w1 ⟨rfl, hB1⟩
    go_wp2_with fail
    refine (K1.out _ hB1).mono ?_
    rintro e w2 ⟨⟨v, rfl, hr⟩, hb⟩
    have hB2 := bNext hb hB1
    have hsl := RowP.sl hr HP.out
    obtain ⟨al, cl, rfl, _⟩ := hsl
    clear hb hr
    go_wp2_with fail
    go_ret
    exact ⟨ret_bool (by simp), hB2⟩

set_option maxRecDepth 100000 in
theorem LinkBack_lifted (os : Os) (started : os.Started) (H : Type) (enc : TypeId × Value → H) :
    ReturnsInHanded {} Try.checked os 4 .any (Rows.linkBackSpec.pre6 enc Try.prog Try.f4 Rows.linkBackRow.domain false) (Rows.linkBackSpec.post enc Try.prog Try.f4 false true false false) := by
  refine returnsInHanded_of_change (C := Try.checked) own started (by kernel_rfl) Try.func4
    (ChangeSpec.witness6 (enc := enc) (C := Try.checked) false ⟨#[], #[.slice none 0 0], []⟩ 8 (by kernel_rfl) (by kernel_rfl) (by kernel_rfl) (by kernel_rfl)) ?_
  intro W base args ds gs before hval0 hW hcnd _
  have hval : ∀ (j : Nat) t v, Try.f4.params[j]? = some t → args[j]? = some v → Value.okWide Try.prog W .any base t v := hval0
  have hW' := hW
  obtain ⟨p, q, hA0, hV, rfl, hfz, hnd⟩ := hW
  have hA : DataW.TrodAll enc Try.prog W 0 (fun _ => true) true Try.f4.params.toList args.toList ds p := hA0
  rw [Try.params4] at hA hval
  obtain ⟨v0, vs0, d0, ds0, p0, q0, hargs, rfl, rfl, h0, r0⟩ := trodAll_cons hA
  obtain ⟨rfl, rfl, rfl⟩ := trodAll_nil r0
  obtain rfl : args = #[v0] := by cases args; simp_all
  obtain ⟨rfl, rfl⟩ := trodVars_none hV
  have k0 := h0
  have lt0 : ∀ x ∈ p0, x.block < W.heap.size := by obtain ⟨m, hm⟩ := k0; exact DataW.trod_lt m _ _ _ hm
  obtain ⟨xs0, s0⟩ := opens_sl Try.underlying24 opens_inss (hval 0 24 v0 rfl rfl) h0
  clear hA0 hval0
  refine (LinkBack_walk W v0 xs0 s0).mono fun e W' ⟨he, bel⟩ => ?_
  subst he
  exact ⟨_, rfl, _, _, _, [], _, [], hW', trodAll_mk1 (shut_bool Try.underlying4 _), (trodAll_cons_mk (Below.trod laidOut (by kernel_rfl) (of_decide_eq_true (by kernel_rfl)) k0 bel lt0) trodAll_mk0), rfl, bel.frame _, fun h => by cases h⟩

/-- The given statement. -/
theorem LinkBack_holds : Rows.LinkBackSaid :=
  OpenClaim.holds_of_wide 4 Try.f4 rfl rfl rfl rfl rfl rfl rfl ⟨rfl, rfl, rfl, rfl, rfl⟩ rfl rfl rfl rfl rfl (by kernel_rfl) Try.func4 (by kernel_rfl)
    (of_decide_eq_true (by kernel_rfl)) (by unfold Func.isWrapper; rw [if_neg (by decide +kernel)]; exact ⟨rfl, rfl⟩)
    (fun os started H enc _ => LinkBack_lifted os started H enc)
#print axioms LinkBack_holds
end Go.Proofs.Ytegjcghcknpjeaa
