/-
  WordOrder: the law returns true for every input, and what was handed in reads as it did. No condition.
-/
import Derived.Test.YtnfkmmiojgnonaaV10
namespace Go.Proofs.Ytnfkmmiojgnonaa
open Go.ChangeShapes Go.WideShapes Go.ChangeAt Go.RowKit Go.Joins
set_option linter.unusedVariables false

set_option maxRecDepth 100000 in
set_option maxHeartbeats 4000000 in
theorem WordOrder_walk (w : World) (a b : Int) (ha : (Lit.int .i64 a).wf = true) (hb : (Lit.int .i64 b).wf = true) :
    Calls Try.prog 8 #[.int .i64 a, .int .i64 b] w fun e w' => e = .returned (.bool true) ∧ Below w.heap.size w w' := by
  have ha := in64_wf ha
  have hb := in64_wf hb
  obtain ⟨S, hS⟩ : ∃ S, wrap64 (a + b) = S := ⟨_, rfl⟩
  have K9 := Lib.hid (fun W => ldyad_at W 1 a b S ha hb (by rw [dy1]; exact hS))
  rcases Int.lt_trichotomy a b with h | h | h
  · have g1 : ¬ a = b := by omega
    have g2 : (a == b) = false := by simpa using g1
    have g3 : a ≤ b := by omega
    have K1 := Lib.hid (fun W => ldyad_at W 10 a b 1 ha hb (by rw [dy10]; simp [truthI]; omega))
    have K2 := Lib.hid (fun W => ldyad_at W 8 a b 0 ha hb (by rw [dy8, g2]; rfl))
    have K3 := Lib.hid (fun W => ldyad_at W 13 a b 0 ha hb (by rw [dy13]; simp [truthI]; omega))
    have K4 := Lib.hid (fun W => ldyad_at W 13 b a 1 hb ha (by rw [dy13]; simp [truthI]; omega))
    have K5 := Lib.hid (fun W => ldyad_at W 12 a b 0 ha hb (by rw [dy12]; simp [truthI]; omega))
    have K6 := Lib.hid (fun W => ldyad_at W 9 a b 1 ha hb (by rw [dy9]; simp [truthI]; omega))
    have K7 := Lib.hid (fun W => ldyad_at W 11 a b 1 ha hb (by rw [dy11]; simp [truthI]; omega))
    have KA := Lib.hid (fun W => ldyad_at W 6 a b a ha hb (by rw [dy6]; simp; omega))
    have KB := Lib.hid (fun W => ldyad_at W 7 a b b ha hb (by rw [dy7]; simp; omega))
    clear ha hb hS g1
    go_enter Try.func8, Try.ntmps8
    go_wp2_with fail
    refine (shown_any _).mono ?_; rintro e w1 ⟨rfl, n9, rfl⟩
    go_wp2_with fail
    refine (K1.out _).mono ?_; rintro e w1 ⟨rfl, n9, rfl⟩
    go_wp2_with fail
    refine (K2.out _).mono ?_; rintro e w1 ⟨rfl, n9, rfl⟩
    go_wp2_with fail
    refine (K3.out _).mono ?_; rintro e w1 ⟨rfl, n9, rfl⟩
    go_wp2_with fail
    refine (K4.out _).mono ?_; rintro e w1 ⟨rfl, n9, rfl⟩
    go_wp2_with fail
    refine (K5.out _).mono ?_; rintro e w1 ⟨rfl, n9, rfl⟩
    go_wp2_with fail
    refine (K6.out _).mono ?_; rintro e w1 ⟨rfl, n9, rfl⟩
    go_wp2_with fail
    refine (K7.out _).mono ?_; rintro e w1 ⟨rfl, n9, rfl⟩
    go_wp2_with fail
    refine (KA.out _).mono ?_; rintro e w1 ⟨rfl, n9, rfl⟩
    go_wp2_with fail
    refine (KB.out _).mono ?_; rintro e w1 ⟨rfl, n9, rfl⟩
    go_wp2_with fail
    refine (K9.out _).mono ?_; rintro e w1 ⟨rfl, n9, rfl⟩
    go_wp2_with fail
    refine (K9.out _).mono ?_; rintro e w1 ⟨rfl, n9, rfl⟩
    go_wp2_with fail
    go_ret
    exact ⟨ret_bool (by simp), Below.drewN _ _⟩
  · subst h
    have K1 := Lib.hid (fun W => ldyad_at W 10 a a 0 ha hb (by rw [dy10]; simp [truthI]))
    have K2 := Lib.hid (fun W => ldyad_at W 8 a a 1 ha hb (by rw [dy8]; simp [truthI]))
    have K3 := Lib.hid (fun W => ldyad_at W 13 a a 0 ha hb (by rw [dy13]; simp [truthI]))
    have K5 := Lib.hid (fun W => ldyad_at W 12 a a 1 ha hb (by rw [dy12]; simp [truthI]))
    have K6 := Lib.hid (fun W => ldyad_at W 9 a a 0 ha hb (by rw [dy9]; simp [truthI]))
    have K7 := Lib.hid (fun W => ldyad_at W 11 a a 1 ha hb (by rw [dy11]; simp [truthI]))
    have KA := Lib.hid (fun W => ldyad_at W 6 a a a ha hb (by rw [dy6]; simp))
    have KB := Lib.hid (fun W => ldyad_at W 7 a a a ha hb (by rw [dy7]; simp))
    clear ha hb hS
    go_enter Try.func8, Try.ntmps8
    go_wp2_with fail
    refine (shown_any _).mono ?_; rintro e w1 ⟨rfl, n9, rfl⟩
    go_wp2_with fail
    refine (K1.out _).mono ?_; rintro e w1 ⟨rfl, n9, rfl⟩
    go_wp2_with fail
    refine (K2.out _).mono ?_; rintro e w1 ⟨rfl, n9, rfl⟩
    go_wp2_with fail
    refine (K3.out _).mono ?_; rintro e w1 ⟨rfl, n9, rfl⟩
    go_wp2_with fail
    refine (K3.out _).mono ?_; rintro e w1 ⟨rfl, n9, rfl⟩
    go_wp2_with fail
    refine (K5.out _).mono ?_; rintro e w1 ⟨rfl, n9, rfl⟩
    go_wp2_with fail
    refine (K6.out _).mono ?_; rintro e w1 ⟨rfl, n9, rfl⟩
    go_wp2_with fail
    refine (K7.out _).mono ?_; rintro e w1 ⟨rfl, n9, rfl⟩
    go_wp2_with fail
    refine (KA.out _).mono ?_; rintro e w1 ⟨rfl, n9, rfl⟩
    go_wp2_with fail
    refine (KB.out _).mono ?_; rintro e w1 ⟨rfl, n9, rfl⟩
    go_wp2_with fail
    refine (K9.out _).mono ?_; rintro e w1 ⟨rfl, n9, rfl⟩
    go_wp2_with fail
    refine (K9.out _).mono ?_; rintro e w1 ⟨rfl, n9, rfl⟩
    go_wp2_with fail
    go_ret
    exact ⟨ret_bool (by simp), Below.drewN _ _⟩
  · have g1 : ¬ a = b := by omega
    have g2 : (a == b) = false := by simpa using g1
    have g3 : ¬ a < b := by omega
    have g5 : b ≤ a := by omega
    have g4 : (b == a) = false := by simp; omega
    have K1 := Lib.hid (fun W => ldyad_at W 10 a b 0 ha hb (by rw [dy10]; simp [truthI]; omega))
    have K2 := Lib.hid (fun W => ldyad_at W 8 a b 0 ha hb (by rw [dy8, g2]; rfl))
    have K3 := Lib.hid (fun W => ldyad_at W 13 a b 1 ha hb (by rw [dy13]; simp [truthI]; omega))
    have K4 := Lib.hid (fun W => ldyad_at W 13 b a 0 hb ha (by rw [dy13]; simp [truthI]; omega))
    have K5 := Lib.hid (fun W => ldyad_at W 12 a b 1 ha hb (by rw [dy12]; simp [truthI]; omega))
    have K6 := Lib.hid (fun W => ldyad_at W 9 a b 1 ha hb (by rw [dy9]; simp [truthI]; omega))
    have K7 := Lib.hid (fun W => ldyad_at W 11 a b 0 ha hb (by rw [dy11]; simp [truthI]; omega))
    have KA := Lib.hid (fun W => ldyad_at W 6 a b b ha hb (by rw [dy6]; simp; omega))
    have KB := Lib.hid (fun W => ldyad_at W 7 a b a ha hb (by rw [dy7]; simp; omega))
    have KC := Lib.hid (fun W => ldyad_at W 1 b a S hb ha (by rw [dy1, Int.add_comm]; exact hS))
    clear ha hb hS g1
    go_enter Try.func8, Try.ntmps8
    go_wp2_with fail
    refine (shown_any _).mono ?_; rintro e w1 ⟨rfl, n9, rfl⟩
    go_wp2_with fail
    refine (K1.out _).mono ?_; rintro e w1 ⟨rfl, n9, rfl⟩
    go_wp2_with fail
    refine (K2.out _).mono ?_; rintro e w1 ⟨rfl, n9, rfl⟩
    go_wp2_with fail
    refine (K3.out _).mono ?_; rintro e w1 ⟨rfl, n9, rfl⟩
    go_wp2_with fail
    refine (K4.out _).mono ?_; rintro e w1 ⟨rfl, n9, rfl⟩
    go_wp2_with fail
    refine (K5.out _).mono ?_; rintro e w1 ⟨rfl, n9, rfl⟩
    go_wp2_with fail
    refine (K6.out _).mono ?_; rintro e w1 ⟨rfl, n9, rfl⟩
    go_wp2_with fail
    refine (K7.out _).mono ?_; rintro e w1 ⟨rfl, n9, rfl⟩
    go_wp2_with fail
    refine (KA.out _).mono ?_; rintro e w1 ⟨rfl, n9, rfl⟩
    go_wp2_with fail
    refine (KB.out _).mono ?_; rintro e w1 ⟨rfl, n9, rfl⟩
    go_wp2_with fail
    refine (KC.out _).mono ?_; rintro e w1 ⟨rfl, n9, rfl⟩
    go_wp2_with fail
    refine (K9.out _).mono ?_; rintro e w1 ⟨rfl, n9, rfl⟩
    go_wp2_with fail
    go_ret
    exact ⟨ret_bool (by simp; omega), Below.drewN _ _⟩

set_option maxRecDepth 100000 in
theorem WordOrder_lifted (os : Os) (started : os.Started) (H : Type) (enc : TypeId × Value → H) :
    ReturnsInHanded {} Try.checked os 8 .any (Rows.wordOrderSpec.pre6 enc Try.prog Try.f8 Rows.wordOrderRow.domain false) (Rows.wordOrderSpec.post enc Try.prog Try.f8 false true false false) := by
  refine returnsInHanded_of_change (C := Try.checked) own started (by kernel_rfl) Try.func8
    (ChangeSpec.witness6 (enc := enc) (C := Try.checked) false ⟨#[], #[.int .i64 0, .int .i64 0], []⟩ 8 (by kernel_rfl) (by kernel_rfl) (by kernel_rfl) (by kernel_rfl)) ?_
  intro W base args ds gs before hval0 hW hcnd _
  have hval : ∀ (j : Nat) t v, Try.f8.params[j]? = some t → args[j]? = some v → Value.okWide Try.prog W .any base t v := hval0
  have hW' := hW
  obtain ⟨p, q, hA0, hV, rfl, hfz, hnd⟩ := hW
  have hA : DataW.TrodAll enc Try.prog W 0 (fun _ => true) true Try.f8.params.toList args.toList ds p := hA0
  rw [Try.params8] at hA hval
  obtain ⟨v0, vs0, d0, ds0, p0, q0, hargs, rfl, rfl, h0, r0⟩ := trodAll_cons hA
  obtain ⟨v1, vs1, d1, ds1, p1, q1, rfl, rfl, rfl, h1, r1⟩ := trodAll_cons r0
  obtain ⟨rfl, rfl, rfl⟩ := trodAll_nil r1
  obtain rfl : args = #[v0, v1] := by cases args; simp_all
  obtain ⟨rfl, rfl⟩ := trodVars_none hV
  obtain ⟨a0, rfl, rfl, rfl, w0⟩ := open_int Try.underlying2 (hval 0 2 v0 rfl rfl) h0
  obtain ⟨a1, rfl, rfl, rfl, w1⟩ := open_int Try.underlying2 (hval 1 2 v1 rfl rfl) h1
  clear hA0 hval0
  refine (WordOrder_walk W a0 a1 w0 w1).mono fun e W' ⟨he, bel⟩ => ?_
  subst he
  exact ⟨_, rfl, _, _, _, [], _, [], hW', trodAll_mk1 (shut_bool Try.underlying4 _), (trodAll_cons_mk (shut_int Try.underlying2 w0) (trodAll_cons_mk (shut_int Try.underlying2 w1) trodAll_mk0)), rfl, bel.frame _, fun h => by cases h⟩

/-- The given statement. -/
theorem WordOrder_holds : Rows.WordOrderSaid :=
  OpenClaim.holds_of_wide 8 Try.f8 rfl rfl rfl rfl rfl rfl rfl ⟨rfl, rfl, rfl, rfl, rfl⟩ rfl rfl rfl rfl rfl (by kernel_rfl) Try.func8 (by kernel_rfl)
    (of_decide_eq_true (by kernel_rfl)) (by unfold Func.isWrapper; rw [if_neg (by decide +kernel)]; exact ⟨rfl, rfl⟩)
    (fun os started H enc _ => WordOrder_lifted os started H enc)
#print axioms WordOrder_holds
end Go.Proofs.Ytnfkmmiojgnonaa
