/-
  WordMonads: the law returns true for every input, and what was handed in reads as it did. No condition.
-/
import Derived.Test.YtnfkmmiojgnonaaV9
namespace Go.Proofs.Ytnfkmmiojgnonaa
open Go.ChangeShapes Go.WideShapes Go.ChangeAt Go.RowKit Go.Joins
set_option linter.unusedVariables false

set_option maxRecDepth 100000 in
set_option maxHeartbeats 4000000 in
theorem WordMonads_walk (w : World) (f a : Int) (_ : (Lit.int .u8 f).wf = true) (ha : (Lit.int .i64 a).wf = true) :
    Calls Try.prog 4 #[.int .u8 f, .int .i64 a] w fun e w' => e = .returned (.bool true) ∧ Below w.heap.size w w' := by
  have ha := in64_wf ha
  obtain ⟨n, e0, hd⟩ : ∃ n e0, monadF f a = (n, e0) := ⟨_, _, rfl⟩
  obtain ⟨t, ht⟩ : ∃ t, takes f false = t := ⟨_, rfl⟩
  have K1 := Lib.hid (fun W => monad_at W f a n e0 ha hd)
  have K2 := Lib.hid (fun W => rmonad_at W f a n e0 ha hd)
  have K3 := Lib.hid (fun W => takes_at W f false t ht)
  have K4 := Lib.hid (fun W => rtakes_at W f false t ht)
  clear ha hd ht
  go_enter Try.func4, Try.ntmps4
  go_wp2_with fail
  refine (shown_any _).mono ?_; rintro e w1 ⟨rfl, n1, rfl⟩
  go_wp2_with fail
  refine (K1.out _).mono ?_; rintro e w1 ⟨rfl, n2, rfl⟩
  go_wp2_with fail
  refine (K2.out _).mono ?_; rintro e w1 ⟨rfl, n3, rfl⟩
  go_wp2_with fail
  refine (K3.out _).mono ?_; rintro e w1 ⟨rfl, rfl⟩
  go_wp2_with fail
  refine (K4.out _).mono ?_; rintro e w1 ⟨rfl, rfl⟩
  go_wp2_with fail
  go_ret
  exact ⟨ret_bool (by simp), Below.drewN _ _⟩

set_option maxRecDepth 100000 in
theorem WordMonads_lifted (os : Os) (started : os.Started) (H : Type) (enc : TypeId × Value → H) :
    ReturnsInHanded {} Try.checked os 4 .any (Rows.wordMonadsSpec.pre6 enc Try.prog Try.f4 Rows.wordMonadsRow.domain false) (Rows.wordMonadsSpec.post enc Try.prog Try.f4 false true false false) := by
  refine returnsInHanded_of_change (C := Try.checked) own started (by kernel_rfl) Try.func4
    (ChangeSpec.witness6 (enc := enc) (C := Try.checked) false ⟨#[], #[.int .u8 0, .int .i64 0], []⟩ 8 (by kernel_rfl) (by kernel_rfl) (by kernel_rfl) (by kernel_rfl)) ?_
  intro W base args ds gs before hval0 hW hcnd _
  have hval : ∀ (j : Nat) t v, Try.f4.params[j]? = some t → args[j]? = some v → Value.okWide Try.prog W .any base t v := hval0
  have hW' := hW
  obtain ⟨p, q, hA0, hV, rfl, hfz, hnd⟩ := hW
  have hA : DataW.TrodAll enc Try.prog W 0 (fun _ => true) true Try.f4.params.toList args.toList ds p := hA0
  rw [Try.params4] at hA hval
  obtain ⟨v0, vs0, d0, ds0, p0, q0, hargs, rfl, rfl, h0, r0⟩ := trodAll_cons hA
  obtain ⟨v1, vs1, d1, ds1, p1, q1, rfl, rfl, rfl, h1, r1⟩ := trodAll_cons r0
  obtain ⟨rfl, rfl, rfl⟩ := trodAll_nil r1
  obtain rfl : args = #[v0, v1] := by cases args; simp_all
  obtain ⟨rfl, rfl⟩ := trodVars_none hV
  obtain ⟨a0, rfl, rfl, rfl, w0⟩ := open_int Try.underlying5 (hval 0 5 v0 rfl rfl) h0
  obtain ⟨a1, rfl, rfl, rfl, w1⟩ := open_int Try.underlying2 (hval 1 2 v1 rfl rfl) h1
  clear hA0 hval0
  refine (WordMonads_walk W a0 a1 w0 w1).mono fun e W' ⟨he, bel⟩ => ?_
  subst he
  exact ⟨_, rfl, _, _, _, [], _, [], hW', trodAll_mk1 (shut_bool Try.underlying4 _), (trodAll_cons_mk (shut_int Try.underlying5 w0) (trodAll_cons_mk (shut_int Try.underlying2 w1) trodAll_mk0)), rfl, bel.frame _, fun h => by cases h⟩

/-- The given statement. -/
theorem WordMonads_holds : Rows.WordMonadsSaid :=
  OpenClaim.holds_of_wide 4 Try.f4 rfl rfl rfl rfl rfl rfl rfl ⟨rfl, rfl, rfl, rfl, rfl⟩ rfl rfl rfl rfl rfl (by kernel_rfl) Try.func4 (by kernel_rfl)
    (of_decide_eq_true (by kernel_rfl)) (by unfold Func.isWrapper; rw [if_neg (by decide +kernel)]; exact ⟨rfl, rfl⟩)
    (fun os started H enc _ => WordMonads_lifted os started H enc)
#print axioms WordMonads_holds
end Go.Proofs.Ytnfkmmiojgnonaa
