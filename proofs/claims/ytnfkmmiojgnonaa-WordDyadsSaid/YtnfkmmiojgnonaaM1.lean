/-
  WordDyads: the law returns true for every input, and what was handed in reads as it did. No condition.
-/
import Derived.Test.YtnfkmmiojgnonaaV9
namespace Go.Proofs.Ytnfkmmiojgnonaa
open Go.ChangeShapes Go.WideShapes Go.ChangeAt Go.RowKit Go.Joins
set_option linter.unusedVariables false

set_option maxRecDepth 100000 in
set_option maxHeartbeats 4000000 in
theorem WordDyads_walk (w : World) (f a b : Int) (_ : (Lit.int .u8 f).wf = true) (ha : (Lit.int .i64 a).wf = true) (hb : (Lit.int .i64 b).wf = true) :
    Calls Try.prog 3 #[.agg #[.int .u8 f, .int .i64 a, .int .i64 b]] w fun e w' => e = .returned (.bool true) ∧ Below w.heap.size w w' := by
  have ha := in64_wf ha
  have hb := in64_wf hb
  obtain ⟨n, e0, hd⟩ : ∃ n e0, dyadF f a b = (n, e0) := ⟨_, _, rfl⟩
  obtain ⟨t, ht⟩ : ∃ t, takes f true = t := ⟨_, rfl⟩
  have K1 := Lib.hid (fun W => dyad_at W f a b n e0 ha hb hd)
  have K2 := Lib.hid (fun W => rdyad_at W f a b n e0 ha hb hd)
  have K3 := Lib.hid (fun W => takes_at W f true t ht)
  have K4 := Lib.hid (fun W => rtakes_at W f true t ht)
  clear ha hb hd ht
  go_enter Try.func3, Try.ntmps3
  go_wp2_with fail
  refine (shown_any _).mono ?_; rintro e w1 ⟨rfl, n1, rfl⟩
  go_wp2_with fail
  refine (K1.out _).mono ?_; rintro e w1 ⟨rfl, n2, rfl⟩
  go_wp2_with fail
  refine (K2.out _).mono ?_; rintro e w1 ⟨rfl, n3, rfl⟩
  go_wp2_with fail
  refine (K3.out _).mono ?_; rintro e w1 ⟨rfl, rfl⟩
  go_wp2_with fail
  refine (K4.out _).mono ?_; rintro e w1 ⟨rfl, rfl⟩
  go_wp2_with fail
  go_ret
  exact ⟨ret_bool (by simp), ((Below.refl _ _).alloc (Nat.le_refl _) _).trans (Below.drewN _ _)⟩

set_option maxRecDepth 100000 in
theorem WordDyads_lifted (os : Os) (started : os.Started) (H : Type) (enc : TypeId × Value → H) :
    ReturnsInHanded {} Try.checked os 3 .any (Rows.wordDyadsSpec.pre6 enc Try.prog Try.f3 Rows.wordDyadsRow.domain false) (Rows.wordDyadsSpec.post enc Try.prog Try.f3 false true false false) := by
  refine returnsInHanded_of_change (C := Try.checked) own started (by kernel_rfl) Try.func3
    (ChangeSpec.witness6 (enc := enc) (C := Try.checked) false ⟨#[], #[.agg #[.int .u8 0, .int .i64 0, .int .i64 0]], []⟩ 8 (by kernel_rfl) (by kernel_rfl) (by kernel_rfl) (by kernel_rfl)) ?_
  intro W base args ds gs before hval0 hW hcnd _
  have hval : ∀ (j : Nat) t v, Try.f3.params[j]? = some t → args[j]? = some v → Value.okWide Try.prog W .any base t v := hval0
  have hW' := hW
  obtain ⟨p, q, hA0, hV, rfl, hfz, hnd⟩ := hW
  have hA : DataW.TrodAll enc Try.prog W 0 (fun _ => true) true Try.f3.params.toList args.toList ds p := hA0
  rw [Try.params3] at hA hval
  obtain ⟨v0, vs0, d0, ds0, p0, q0, hargs, rfl, rfl, h0, r0⟩ := trodAll_cons hA
  obtain ⟨rfl, rfl, rfl⟩ := trodAll_nil r0
  obtain rfl : args = #[v0] := by cases args; simp_all
  obtain ⟨rfl, rfl⟩ := trodVars_none hV
  have k0 := h0
  have lt0 : ∀ x ∈ p0, x.block < W.heap.size := by obtain ⟨m, hm⟩ := k0; exact DataW.trod_lt m _ _ _ hm
  obtain ⟨va0, vb0, vc0, ya0, yb0, yc0, n0, rfl, -, -, ta0, tb0, tc0⟩ := open_agg3 Try.underlying23 (by kernel_rfl) (by kernel_rfl) (hval 0 23 v0 rfl rfl) h0
  obtain ⟨na0, ea0, -, wa0⟩ := DataW.trod_int Try.underlying5 ta0
  simp at ea0
  subst ea0
  obtain ⟨nb0, eb0, -, wb0⟩ := DataW.trod_int Try.underlying2 tb0
  simp at eb0
  subst eb0
  obtain ⟨nc0, ec0, -, wc0⟩ := DataW.trod_int Try.underlying2 tc0
  simp at ec0
  subst ec0
  clear hA0 hval0
  refine (WordDyads_walk W na0 nb0 nc0 wa0 wb0 wc0).mono fun e W' ⟨he, bel⟩ => ?_
  subst he
  exact ⟨_, rfl, _, _, _, [], _, [], hW', trodAll_mk1 (shut_bool Try.underlying4 _), (trodAll_cons_mk (Below.trod laidOut (by kernel_rfl) (of_decide_eq_true (by kernel_rfl)) k0 bel lt0) trodAll_mk0), rfl, bel.frame _, fun h => by cases h⟩

/-- The given statement. -/
theorem WordDyads_holds : Rows.WordDyadsSaid :=
  OpenClaim.holds_of_wide 3 Try.f3 rfl rfl rfl rfl rfl rfl rfl ⟨rfl, rfl, rfl, rfl, rfl⟩ rfl rfl rfl rfl rfl (by kernel_rfl) Try.func3 (by kernel_rfl)
    (of_decide_eq_true (by kernel_rfl)) (by unfold Func.isWrapper; rw [if_neg (by decide +kernel)]; exact ⟨rfl, rfl⟩)
    (fun os started H enc _ => WordDyads_lifted os started H enc)
#print axioms WordDyads_holds
end Go.Proofs.Ytnfkmmiojgnonaa
