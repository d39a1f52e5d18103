/-
  WordDivides: the law returns true for every input, and what was handed in reads as it did. No condition.
-/
import Derived.Test.YtnfkmmiojgnonaaV10
namespace Go.Proofs.Ytnfkmmiojgnonaa
open Go.ChangeShapes Go.WideShapes Go.ChangeAt Go.RowKit Go.Joins
set_option linter.unusedVariables false

set_option maxRecDepth 100000 in
set_option maxHeartbeats 4000000 in
theorem WordDivides_walk (w : World) (a b : Int) (ha : (Lit.int .i64 a).wf = true) (hb : (Lit.int .i64 b).wf = true) :
    Calls Try.prog 7 #[.int .i64 a, .int .i64 b] w fun e w' => e = .returned (.bool true) ∧ Below w.heap.size w w' := by
  have ha := in64_wf ha
  have hb := in64_wf hb
  by_cases h0 : b = 0
  · subst h0
    have K1 := Lib.hid (fun W => dyad_at W 4 a 0 0 11 ha hb (dy40 a))
    have K2 := Lib.hid (fun W => dyad_at W 5 0 a a 0 hb ha (by rw [dy5]; simp))
    clear ha hb
    go_enter Try.func7, Try.ntmps7
    go_wp2_with fail
    refine (shown_any _).mono ?_; rintro e w1 ⟨rfl, n9, rfl⟩
    go_wp2_with fail
    refine (K1.out _).mono ?_; rintro e w1 ⟨rfl, n9, rfl⟩
    go_wp2_with fail
    refine (K2.out _).mono ?_; rintro e w1 ⟨rfl, n9, rfl⟩
    go_wp2_with fail
    go_ret
    exact ⟨ret_bool (by simp), Below.drewN _ _⟩
  · have hs := fmod_side (a := a) h0
    have hk := div_back h0 ha
    have hr := fmod_in (a := a) h0 hb
    obtain ⟨q, hq⟩ : ∃ q, wrap64 (a.fdiv b) = q := ⟨_, rfl⟩
    obtain ⟨p, hp⟩ : ∃ p, wrap64 (q * b) = p := ⟨_, rfl⟩
    have hd5 : dyadF 5 b a = (a.fmod b, 0) := by rw [dy5, if_neg h0]
    have hd4 : dyadF 4 a b = (q, 0) := by rw [dy4 a b h0, hq]
    rw [hq, hp] at hk
    have iq : In64 q := hq ▸ wrap_in _
    have ip : In64 p := hp ▸ wrap_in _
    generalize a.fmod b = r at hs hk hr hd5
    have K1 := Lib.hid (fun W => dyad_at W 4 a b q 0 ha hb hd4)
    have K2 := Lib.hid (fun W => dyad_at W 5 b a r 0 hb ha hd5)
    have K3 := Lib.hid (fun W => ldyad_at W 3 q b p iq hb (by rw [dy3]; exact hp))
    have K4 := Lib.hid (fun W => ldyad_at W 1 p r a ip hr (by rw [dy1]; exact hk))
    clear ha hb hd4 hd5 hk hr hq hp iq ip
    by_cases hpos : 0 < b
    · have h1 := (hs.1 hpos).1
      have h2 := (hs.1 hpos).2
      have h3 : ¬ b < 0 := by omega
      clear hs
      go_enter Try.func7, Try.ntmps7
      go_wp2_with fail
      refine (shown_any _).mono ?_; rintro e w1 ⟨rfl, n9, rfl⟩
      go_wp2_with fail
      refine (K1.out _).mono ?_; rintro e w1 ⟨rfl, n9, rfl⟩
      go_wp2_with fail
      refine (K2.out _).mono ?_; rintro e w1 ⟨rfl, n9, rfl⟩
      go_wp2_with fail
      refine (K3.out _).mono ?_; rintro e w1 ⟨rfl, n9, rfl⟩
      go_wp2_with fail
      refine (K4.out _).mono ?_; rintro e w1 ⟨rfl, n9, rfl⟩
      go_wp2_with fail
      go_ret
      exact ⟨ret_bool (by simp), Below.drewN _ _⟩
    · have h3 : b < 0 := by omega
      have h1 := (hs.2 h3).1
      have h2 := (hs.2 h3).2
      clear hs
      by_cases hz : 0 ≤ r
      · have h4 : ¬ r < b := by omega
        go_enter Try.func7, Try.ntmps7
        go_wp2_with fail
        refine (shown_any _).mono ?_; rintro e w1 ⟨rfl, n9, rfl⟩
        go_wp2_with fail
        refine (K1.out _).mono ?_; rintro e w1 ⟨rfl, n9, rfl⟩
        go_wp2_with fail
        refine (K2.out _).mono ?_; rintro e w1 ⟨rfl, n9, rfl⟩
        go_wp2_with fail
        refine (K3.out _).mono ?_; rintro e w1 ⟨rfl, n9, rfl⟩
        go_wp2_with fail
        refine (K4.out _).mono ?_; rintro e w1 ⟨rfl, n9, rfl⟩
        go_wp2_with fail
        go_ret
        exact ⟨ret_bool (by simp), Below.drewN _ _⟩
      · go_enter Try.func7, Try.ntmps7
        go_wp2_with fail
        refine (shown_any _).mono ?_; rintro e w1 ⟨rfl, n9, rfl⟩
        go_wp2_with fail
        refine (K1.out _).mono ?_; rintro e w1 ⟨rfl, n9, rfl⟩
        go_wp2_with fail
        refine (K2.out _).mono ?_; rintro e w1 ⟨rfl, n9, rfl⟩
        go_wp2_with fail
        refine (K3.out _).mono ?_; rintro e w1 ⟨rfl, n9, rfl⟩
        go_wp2_with fail
        refine (K4.out _).mono ?_; rintro e w1 ⟨rfl, n9, rfl⟩
        go_wp2_with fail
        go_ret
        exact ⟨ret_bool (by simp), Below.drewN _ _⟩

set_option maxRecDepth 100000 in
theorem WordDivides_lifted (os : Os) (started : os.Started) (H : Type) (enc : TypeId × Value → H) :
    ReturnsInHanded {} Try.checked os 7 .any (Rows.wordDividesSpec.pre6 enc Try.prog Try.f7 Rows.wordDividesRow.domain false) (Rows.wordDividesSpec.post enc Try.prog Try.f7 false true false false) := by
  refine returnsInHanded_of_change (C := Try.checked) own started (by kernel_rfl) Try.func7
    (ChangeSpec.witness6 (enc := enc) (C := Try.checked) false ⟨#[], #[.int .i64 0, .int .i64 0], []⟩ 8 (by kernel_rfl) (by kernel_rfl) (by kernel_rfl) (by kernel_rfl)) ?_
  intro W base args ds gs before hval0 hW hcnd _
  have hval : ∀ (j : Nat) t v, Try.f7.params[j]? = some t → args[j]? = some v → Value.okWide Try.prog W .any base t v := hval0
  have hW' := hW
  obtain ⟨p, q, hA0, hV, rfl, hfz, hnd⟩ := hW
  have hA : DataW.TrodAll enc Try.prog W 0 (fun _ => true) true Try.f7.params.toList args.toList ds p := hA0
  rw [Try.params7] at hA hval
  obtain ⟨v0, vs0, d0, ds0, p0, q0, hargs, rfl, rfl, h0, r0⟩ := trodAll_cons hA
  obtain ⟨v1, vs1, d1, ds1, p1, q1, rfl, rfl, rfl, h1, r1⟩ := trodAll_cons r0
  obtain ⟨rfl, rfl, rfl⟩ := trodAll_nil r1
  obtain rfl : args = #[v0, v1] := by cases args; simp_all
  obtain ⟨rfl, rfl⟩ := trodVars_none hV
  obtain ⟨a0, rfl, rfl, rfl, w0⟩ := open_int Try.underlying2 (hval 0 2 v0 rfl rfl) h0
  obtain ⟨a1, rfl, rfl, rfl, w1⟩ := open_int Try.underlying2 (hval 1 2 v1 rfl rfl) h1
  clear hA0 hval0
  refine (WordDivides_walk W a0 a1 w0 w1).mono fun e W' ⟨he, bel⟩ => ?_
  subst he
  exact ⟨_, rfl, _, _, _, [], _, [], hW', trodAll_mk1 (shut_bool Try.underlying4 _), (trodAll_cons_mk (shut_int Try.underlying2 w0) (trodAll_cons_mk (shut_int Try.underlying2 w1) trodAll_mk0)), rfl, bel.frame _, fun h => by cases h⟩

/-- The given statement. -/
theorem WordDivides_holds : Rows.WordDividesSaid :=
  OpenClaim.holds_of_wide 7 Try.f7 rfl rfl rfl rfl rfl rfl rfl ⟨rfl, rfl, rfl, rfl, rfl⟩ rfl rfl rfl rfl rfl (by kernel_rfl) Try.func7 (by kernel_rfl)
    (of_decide_eq_true (by kernel_rfl)) (by unfold Func.isWrapper; rw [if_neg (by decide +kernel)]; exact ⟨rfl, rfl⟩)
    (fun os started H enc _ => WordDivides_lifted os started H enc)
#print axioms WordDivides_holds
end Go.Proofs.Ytnfkmmiojgnonaa
