/-
  LinkLinks: the law returns true for every input, and what was handed in reads as it did. No condition.
-/
import Derived.Test.YtegjcghcknpjeaaP19
namespace Go.Proofs.Ytegjcghcknpjeaa
open Go.ChangeShapes Go.WideShapes Go.ChangeAt Go.RowKit Go.Joins
set_option linter.unusedVariables false

set_option maxRecDepth 100000 in
set_option maxHeartbeats 4000000 in
theorem LinkLinks_walk (w : World) (v0 : Value) (l : List Piece) (q0 : pieceRep.Sl w v0 l) :
    Calls Try.prog 3 #[v0] w fun e w' => e = .returned (.bool true) ∧ Below w.heap.size w w' := by
  obtain ⟨a, c, rfl, hm1, hm2, _, h⟩ := q0
  have hm := Nat.le_trans hm1 hm2
  have hwf : ∀ p ∈ l, p.wf := fun p hp => by
    obtain ⟨k, hk, rfl⟩ := List.getElem_of_mem hp
    obtain ⟨_, _, _, hw, _⟩ := els_piece h hk
    exact hw
  have k1 := fun W (hB : Below w.heap.size w W) => link_any W a c l hm (h.below pieceRep hB (Nat.le_refl _))
  have k2 := fun W (hB : Below w.heap.size w W) => rlink_any W a c l hm (h.below pieceRep hB (Nat.le_refl _))
  have hlw := linkS_wf hwf
  have hlen : (linkS l).1.1.length ≤ maxLen := by
    by_cases h0 : (linkS l).2 = 0
    · obtain ⟨_, _, e, _⟩ := linkS_ok (l := l) (n := (linkS l).1.2) (c := (linkS l).1.1) (by rw [← h0])
      rw [e]; exact hm
    · rw [linkS_bad h0]; exact Nat.zero_le _
  generalize linkS l = u at k1 k2 hlw hlen
  obtain ⟨⟨C, n⟩, er⟩ := u
  have K1 := Lib.hid k1; have K2 := Lib.hid k2; have HW := Lib.hid hlw; have HL := Lib.hid hlen
  clear k1 k2 h hwf hlw hlen
  dsimp only at HW HL
  go_enter Try.func3, Try.ntmps3
  go_wp2_with fail
  refine (shown_any _).mono ?_
  rintro e w1 ⟨rfl, hB1⟩
  go_wp2_with fail
  refine (K1.out _ hB1).mono ?_
  rintro e w2 ⟨⟨v, rfl, hr⟩, hb⟩
  have hB2 := bNext hb hB1
  obtain ⟨a1, c1, rfl, _, _, _, hel⟩ := RowIns.sl hr HW.out
  have E1 := Lib.hid hel
  clear hb hr hel hB1
  go_wp2_with fail
  refine (K2.out _ hB2).mono ?_
  rintro e w3 ⟨⟨v, rfl, hr⟩, hb⟩
  have hB3 := bNext hb hB2
  obtain ⟨a2, c2, rfl, _, _, _, hel⟩ := RowIns.sl hr HW.out
  have E2 := Lib.hid hel; have E3 := Lib.hid (E1.out.below insRep hb (Nat.le_refl _))
  clear hb hr hel hB2 E1
  dsimp only at E2 E3 ⊢
  go_wp2_with fail
  refine (codes_any w3 a1 a2 c1 c2 C C HL.out HL.out E3.out E2.out).mono ?_
  rintro e w4 ⟨he, n4, rfl⟩
  rw [show sameL C C = true from by simp [sameL]] at he
  subst he
  go_wp2_with fail
  go_ret
  exact ⟨rfl, hB3.trans (Below.drewN _ _)⟩

set_option maxRecDepth 100000 in
theorem LinkLinks_lifted (os : Os) (started : os.Started) (H : Type) (enc : TypeId × Value → H) :
    ReturnsInHanded {} Try.checked os 3 .any (Rows.linkLinksSpec.pre6 enc Try.prog Try.f3 Rows.linkLinksRow.domain false) (Rows.linkLinksSpec.post enc Try.prog Try.f3 false true false false) := by
  refine returnsInHanded_of_change (C := Try.checked) own started (by kernel_rfl) Try.func3
    (ChangeSpec.witness6 (enc := enc) (C := Try.checked) false ⟨#[], #[.slice none 0 0], []⟩ 8 (by kernel_rfl) (by kernel_rfl) (by kernel_rfl) (by kernel_rfl)) ?_
  intro W base args ds gs before hval0 hW hcnd _
  have hval : ∀ (j : Nat) t v, Try.f3.params[j]? = some t → args[j]? = some v → Value.okWide Try.prog W .any base t v := hval0
  have hW' := hW
  obtain ⟨p, q, hA0, hV, rfl, hfz, hnd⟩ := hW
  have hA : DataW.TrodAll enc Try.prog W 0 (fun _ => true) true Try.f3.params.toList args.toList ds p := hA0
  rw [Try.params3] at hA hval
  obtain ⟨v0, vs0, d0, ds0, p0, q0, hargs, rfl, rfl, h0, r0⟩ := trodAll_cons hA
  obtain ⟨rfl, rfl, rfl⟩ := trodAll_nil r0
  obtain rfl : args = #[v0] := by cases args; simp_all
  obtain ⟨rfl, rfl⟩ := trodVars_none hV
  have k0 := h0
  have lt0 : ∀ x ∈ p0, x.block < W.heap.size := by obtain ⟨m, hm⟩ := k0; exact DataW.trod_lt m _ _ _ hm
  obtain ⟨xs0, s0⟩ := opens_sl Try.underlying22 opens_pieces (hval 0 22 v0 rfl rfl) h0
  clear hA0 hval0
  refine (LinkLinks_walk W v0 xs0 s0).mono fun e W' ⟨he, bel⟩ => ?_
  subst he
  exact ⟨_, rfl, _, _, _, [], _, [], hW', trodAll_mk1 (shut_bool Try.underlying4 _), (trodAll_cons_mk (Below.trod laidOut (by kernel_rfl) (of_decide_eq_true (by kernel_rfl)) k0 bel lt0) trodAll_mk0), rfl, bel.frame _, fun h => by cases h⟩

/-- The given statement. -/
theorem LinkLinks_holds : Rows.LinkLinksSaid :=
  OpenClaim.holds_of_wide 3 Try.f3 rfl rfl rfl rfl rfl rfl rfl ⟨rfl, rfl, rfl, rfl, rfl⟩ rfl rfl rfl rfl rfl (by kernel_rfl) Try.func3 (by kernel_rfl)
    (of_decide_eq_true (by kernel_rfl)) (by unfold Func.isWrapper; rw [if_neg (by decide +kernel)]; exact ⟨rfl, rfl⟩)
    (fun os started H enc _ => LinkLinks_lifted os started H enc)
#print axioms LinkLinks_holds
end Go.Proofs.Ytegjcghcknpjeaa
