/-
  WordPowers: the law returns true for every input, and what was handed in reads as it did. No condition.
-/
import Derived.Test.YtnfkmmiojgnonaaV10
namespace Go.Proofs.Ytnfkmmiojgnonaa
open Go.ChangeShapes Go.WideShapes Go.ChangeAt Go.RowKit Go.Joins
set_option linter.unusedVariables false

theorem pow_next (a n : Int) (h : 0 ≤ n) : wrap64 (wrap64 (a ^ n.toNat) * a) = wrap64 (a ^ (n + 1).toNat) := by
  rw [wrap_mul_l, ← Int.pow_succ, show (n + 1).toNat = n.toNat + 1 by omega]

set_option maxRecDepth 100000 in
set_option maxHeartbeats 4000000 in
theorem WordPowers_walk (w : World) (a n : Int) (ha : (Lit.int .i64 a).wf = true) (hn : (Lit.int .i64 n).wf = true) :
    Calls Try.prog 9 #[.int .i64 a, .int .i64 n] w fun e w' => e = .returned (.bool true) ∧ Below w.heap.size w w' := by
  have ha := in64_wf ha
  have hn := in64_wf hn
  by_cases h0 : n < 0
  · have K1 := Lib.hid (fun W => dyad_at W 17 a n 0 11 ha hn (dy17n a n h0))
    clear ha hn
    go_enter Try.func9, Try.ntmps9
    go_wp2_with fail
    refine (shown_any _).mono ?_; rintro e w1 ⟨rfl, n9, rfl⟩
    go_wp2_with fail
    refine (K1.out _).mono ?_; rintro e w1 ⟨rfl, n9, rfl⟩
    go_wp2_with fail
    go_ret
    exact ⟨ret_bool (by simp), Below.drewN _ _⟩
  · obtain ⟨p, hp⟩ : ∃ p, wrap64 (a ^ n.toNat) = p := ⟨_, rfl⟩
    have ip : In64 p := hp ▸ wrap_in _
    have K1 := Lib.hid (fun W => dyad_at W 17 a n p 0 ha hn (by rw [dy17 a n (by omega), hp]))
    by_cases h1 : n = 9223372036854775807
    · have h1' : (n == 9223372036854775807) = true := by simpa using h1
      clear ha hn h1 hp ip
      go_enter Try.func9, Try.ntmps9
      go_wp2_with fail
      refine (shown_any _).mono ?_; rintro e w1 ⟨rfl, n9, rfl⟩
      go_wp2_with fail
      refine (K1.out _).mono ?_; rintro e w1 ⟨rfl, n9, rfl⟩
      go_wp2_with fail
      go_ret
      exact ⟨ret_bool (by simp), Below.drewN _ _⟩
    · have h1' : (n == 9223372036854775807) = false := by simpa using h1
      have hn1 : In64 (n + 1) := by unfold In64 at *; omega
      have hw : wrap64 (n + 1) = n + 1 := wrap_id hn1
      obtain ⟨q, hq⟩ : ∃ q, wrap64 (p * a) = q := ⟨_, rfl⟩
      have hq2 : wrap64 (a ^ (n + 1).toNat) = q := by rw [← hq, ← hp]; exact (pow_next a n (by omega)).symm
      have K2 := Lib.hid (fun W => dyad_at W 17 a (n + 1) q 0 ha hn1 (by rw [dy17 a (n + 1) (by omega), hq2]))
      have K3 := Lib.hid (fun W => ldyad_at W 3 p a q ip ha (by rw [dy3]; exact hq))
      by_cases hz : 0 < n
      · clear ha hn h1 hp ip hn1 hq hq2
        go_enter Try.func9, Try.ntmps9
        go_wp2_with fail
        refine (shown_any _).mono ?_; rintro e w1 ⟨rfl, n9, rfl⟩
        go_wp2_with fail
        refine (K1.out _).mono ?_; rintro e w1 ⟨rfl, n9, rfl⟩
        go_wp2_with fail
        refine (K2.out _).mono ?_; rintro e w1 ⟨rfl, n9, rfl⟩
        go_wp2_with fail
        refine (K3.out _).mono ?_; rintro e w1 ⟨rfl, n9, rfl⟩
        go_wp2_with fail
        go_ret
        exact ⟨ret_bool (by simp), Below.drewN _ _⟩
      · have hn0 : n = 0 := by omega
        have hp1 : p = 1 := by rw [← hp, hn0, show ((0 : Int).toNat) = 0 from rfl, Int.pow_zero]; exact wrap_id (by unfold In64; omega)
        subst hn0 hp1
        clear ha hn h1 hp ip hn1 hq hq2 h1'
        go_enter Try.func9, Try.ntmps9
        go_wp2_with fail
        refine (shown_any _).mono ?_; rintro e w1 ⟨rfl, n9, rfl⟩
        go_wp2_with fail
        refine (K1.out _).mono ?_; rintro e w1 ⟨rfl, n9, rfl⟩
        go_wp2_with fail
        refine (K2.out _).mono ?_; rintro e w1 ⟨rfl, n9, rfl⟩
        go_wp2_with fail
        refine (K3.out _).mono ?_; rintro e w1 ⟨rfl, n9, rfl⟩
        go_wp2_with fail
        go_ret
        exact ⟨ret_bool (by simp), Below.drewN _ _⟩

set_option maxRecDepth 100000 in
theorem WordPowers_lifted (os : Os) (started : os.Started) (H : Type) (enc : TypeId × Value → H) :
    ReturnsInHanded {} Try.checked os 9 .any (Rows.wordPowersSpec.pre6 enc Try.prog Try.f9 Rows.wordPowersRow.domain false) (Rows.wordPowersSpec.post enc Try.prog Try.f9 false true false false) := by
  refine returnsInHanded_of_change (C := Try.checked) own started (by kernel_rfl) Try.func9
    (ChangeSpec.witness6 (enc := enc) (C := Try.checked) false ⟨#[], #[.int .i64 0, .int .i64 0], []⟩ 8 (by kernel_rfl) (by kernel_rfl) (by kernel_rfl) (by kernel_rfl)) ?_
  intro W base args ds gs before hval0 hW hcnd _
  have hval : ∀ (j : Nat) t v, Try.f9.params[j]? = some t → args[j]? = some v → Value.okWide Try.prog W .any base t v := hval0
  have hW' := hW
  obtain ⟨p, q, hA0, hV, rfl, hfz, hnd⟩ := hW
  have hA : DataW.TrodAll enc Try.prog W 0 (fun _ => true) true Try.f9.params.toList args.toList ds p := hA0
  rw [Try.params9] at hA hval
  obtain ⟨v0, vs0, d0, ds0, p0, q0, hargs, rfl, rfl, h0, r0⟩ := trodAll_cons hA
  obtain ⟨v1, vs1, d1, ds1, p1, q1, rfl, rfl, rfl, h1, r1⟩ := trodAll_cons r0
  obtain ⟨rfl, rfl, rfl⟩ := trodAll_nil r1
  obtain rfl : args = #[v0, v1] := by cases args; simp_all
  obtain ⟨rfl, rfl⟩ := trodVars_none hV
  obtain ⟨a0, rfl, rfl, rfl, w0⟩ := open_int Try.underlying2 (hval 0 2 v0 rfl rfl) h0
  obtain ⟨a1, rfl, rfl, rfl, w1⟩ := open_int Try.underlying2 (hval 1 2 v1 rfl rfl) h1
  clear hA0 hval0
  refine (WordPowers_walk W a0 a1 w0 w1).mono fun e W' ⟨he, bel⟩ => ?_
  subst he
  exact ⟨_, rfl, _, _, _, [], _, [], hW', trodAll_mk1 (shut_bool Try.underlying4 _), (trodAll_cons_mk (shut_int Try.underlying2 w0) (trodAll_cons_mk (shut_int Try.underlying2 w1) trodAll_mk0)), rfl, bel.frame _, fun h => by cases h⟩

/-- The given statement. -/
theorem WordPowers_holds : Rows.WordPowersSaid :=
  OpenClaim.holds_of_wide 9 Try.f9 rfl rfl rfl rfl rfl rfl rfl ⟨rfl, rfl, rfl, rfl, rfl⟩ rfl rfl rfl rfl rfl (by kernel_rfl) Try.func9 (by kernel_rfl)
    (of_decide_eq_true (by kernel_rfl)) (by unfold Func.isWrapper; rw [if_neg (by decide +kernel)]; exact ⟨rfl, rfl⟩)
    (fun os started H enc _ => WordPowers_lifted os started H enc)
#print axioms WordPowers_holds
end Go.Proofs.Ytnfkmmiojgnonaa
