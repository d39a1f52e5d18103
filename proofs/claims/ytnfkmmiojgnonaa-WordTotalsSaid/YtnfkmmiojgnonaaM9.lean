/-
  WordTotals: the law returns true for every input, and what was handed in reads as it did. No condition.
-/
import Derived.Test.YtnfkmmiojgnonaaV10
namespace Go.Proofs.Ytnfkmmiojgnonaa
open Go.ChangeShapes Go.WideShapes Go.ChangeAt Go.RowKit Go.Joins
set_option linter.unusedVariables false

theorem dy_cases (f a b : Int) : (∃ n, dyadF f a b = (n, 0) ∧ takes f true = true) ∨ (dyadF f a b = (0, 10) ∧ takes f true = false ∧ totalB f true = false) ∨ (dyadF f a b = (0, 11) ∧ takes f true = true ∧ totalB f true = false) := by
  unfold dyadF
  cases ht : takes f true with
  | false =>
    refine .inr (.inl ⟨rfl, rfl, ?_⟩)
    unfold totalB; split
    · rfl
    · exact ht
  | true =>
    cases hr : refusesB f a b with
    | false => exact .inl ⟨_, rfl, rfl⟩
    | true =>
      refine .inr (.inr ⟨rfl, rfl, ?_⟩)
      unfold totalB
      rw [if_pos]
      unfold refusesB at hr
      split at hr
      · omega
      · split at hr
        · omega
        · split at hr
          · omega
          · cases hr
theorem mo_cases (f a : Int) : (∃ n, monadF f a = (n, 0) ∧ takes f false = true) ∨ (monadF f a = (0, 10) ∧ takes f false = false ∧ totalB f false = false) ∨ (monadF f a = (0, 11) ∧ takes f false = true ∧ totalB f false = false) := by
  cases ht : takes f false with
  | false =>
    refine .inr (.inl ⟨by unfold monadF; rw [ht]; rfl, rfl, ?_⟩)
    unfold totalB; split
    · rfl
    · exact ht
  | true =>
    rcases takesF ht with rfl | rfl | rfl | rfl | rfl | rfl | rfl | rfl
    iterate 3
      · exact .inl ⟨_, Prod.ext rfl (by simp [monadF, takes]), rfl⟩
    · by_cases h0 : a = 0
      · subst h0
        exact .inr (.inr ⟨by simp [monadF, takes, dy40], rfl, rfl⟩)
      · exact .inl ⟨_, Prod.ext rfl (by simp [monadF, takes, dy4 1 a h0]), rfl⟩
    iterate 3
      · exact .inl ⟨_, Prod.ext rfl (by simp [monadF, takes]), rfl⟩
    · cases hb : isBit a with
      | true => exact .inl ⟨_, Prod.ext rfl (by simp [monadF, takes, hb]), rfl⟩
      | false => exact .inr (.inr ⟨by simp [monadF, takes, hb], rfl, rfl⟩)

set_option maxRecDepth 100000 in
set_option maxHeartbeats 4000000 in
/-- the law's walk, of what its calls answer -/
theorem WordTotals_from (w : World) (f a b n e0 m g0 : Int) (t1 t2 s1 s2 : Bool) (K1 : Hid (∀ W, Calls Try.prog 13 #[.int .u8 f, .int .i64 a, .int .i64 b] W fun e w' => e = .returned (.tuple #[.int .i64 n, .int .i64 e0]) ∧ ∃ n, w' = W.drewN n))
    (K2 : Hid (∀ W, Calls Try.prog 17 #[.int .u8 f, .int .i64 a] W fun e w' => e = .returned (.tuple #[.int .i64 m, .int .i64 g0]) ∧ ∃ n, w' = W.drewN n))
    (K3 : Hid (∀ W, Calls Try.prog 22 #[.int .u8 f, .bool true] W fun e w' => e = .returned (.bool s1) ∧ ∃ n, w' = W.drewN n))
    (K4 : Hid (∀ W, Calls Try.prog 22 #[.int .u8 f, .bool false] W fun e w' => e = .returned (.bool s2) ∧ ∃ n, w' = W.drewN n))
    (K5 : Hid (∀ W, Calls Try.prog 15 #[.int .u8 f, .bool true] W fun e w' => e = .returned (.bool t1) ∧ W = w'))
    (K6 : Hid (∀ W, Calls Try.prog 15 #[.int .u8 f, .bool false] W fun e w' => e = .returned (.bool t2) ∧ W = w'))
    (h1 : (e0 = 0 ∧ t1 = true) ∨ (n = 0 ∧ e0 = 10 ∧ t1 = false ∧ s1 = false) ∨ (n = 0 ∧ e0 = 11 ∧ t1 = true ∧ s1 = false))
    (h2 : (g0 = 0 ∧ t2 = true) ∨ (m = 0 ∧ g0 = 10 ∧ t2 = false ∧ s2 = false) ∨ (m = 0 ∧ g0 = 11 ∧ t2 = true ∧ s2 = false)) :
    Calls Try.prog 11 #[.agg #[.int .u8 f, .int .i64 a, .int .i64 b]] w fun e w' => e = .returned (.bool true) ∧ Below w.heap.size w w' := by
  rcases h1 with ⟨rfl, rfl⟩ | ⟨rfl, rfl, rfl, rfl⟩ | ⟨rfl, rfl, rfl, rfl⟩
  · cases s1
    all_goals
      rcases h2 with ⟨rfl, rfl⟩ | ⟨rfl, rfl, rfl, rfl⟩ | ⟨rfl, rfl, rfl, rfl⟩
      · cases s2
        all_goals
          go_enter Try.func11, Try.ntmps11
          go_wp2_with fail
          refine (shown_any _).mono ?_; rintro e w1 ⟨rfl, n9, rfl⟩
          go_wp2_with fail
          refine (K1.out _).mono ?_; rintro e w1 ⟨rfl, n9, rfl⟩
          go_wp2_with fail
          refine (K2.out _).mono ?_; rintro e w1 ⟨rfl, n9, rfl⟩
          go_wp2_with fail
          refine (K3.out _).mono ?_; rintro e w1 ⟨rfl, n9, rfl⟩
          go_wp2_with fail
          refine (K4.out _).mono ?_; rintro e w1 ⟨rfl, n9, rfl⟩
          go_wp2_with fail
          refine (K5.out _).mono ?_; rintro e w1 ⟨rfl, rfl⟩
          go_wp2_with fail
          refine (K6.out _).mono ?_; rintro e w1 ⟨rfl, rfl⟩
          go_wp2_with fail
          go_ret
          exact ⟨ret_bool (by simp), ((Below.refl _ _).alloc (Nat.le_refl _) _).trans (Below.drewN _ _)⟩
      all_goals
        go_enter Try.func11, Try.ntmps11
        go_wp2_with fail
        refine (shown_any _).mono ?_; rintro e w1 ⟨rfl, n9, rfl⟩
        go_wp2_with fail
        refine (K1.out _).mono ?_; rintro e w1 ⟨rfl, n9, rfl⟩
        go_wp2_with fail
        refine (K2.out _).mono ?_; rintro e w1 ⟨rfl, n9, rfl⟩
        go_wp2_with fail
        refine (K3.out _).mono ?_; rintro e w1 ⟨rfl, n9, rfl⟩
        go_wp2_with fail
        refine (K4.out _).mono ?_; rintro e w1 ⟨rfl, n9, rfl⟩
        go_wp2_with fail
        refine (K5.out _).mono ?_; rintro e w1 ⟨rfl, rfl⟩
        go_wp2_with fail
        refine (K6.out _).mono ?_; rintro e w1 ⟨rfl, rfl⟩
        go_wp2_with fail
        go_ret
        exact ⟨ret_bool (by simp), ((Below.refl _ _).alloc (Nat.le_refl _) _).trans (Below.drewN _ _)⟩
  all_goals
    rcases h2 with ⟨rfl, rfl⟩ | ⟨rfl, rfl, rfl, rfl⟩ | ⟨rfl, rfl, rfl, rfl⟩
    · cases s2
      all_goals
        go_enter Try.func11, Try.ntmps11
        go_wp2_with fail
        refine (shown_any _).mono ?_; rintro e w1 ⟨rfl, n9, rfl⟩
        go_wp2_with fail
        refine (K1.out _).mono ?_; rintro e w1 ⟨rfl, n9, rfl⟩
        go_wp2_with fail
        refine (K2.out _).mono ?_; rintro e w1 ⟨rfl, n9, rfl⟩
        go_wp2_with fail
        refine (K3.out _).mono ?_; rintro e w1 ⟨rfl, n9, rfl⟩
        go_wp2_with fail
        refine (K4.out _).mono ?_; rintro e w1 ⟨rfl, n9, rfl⟩
        go_wp2_with fail
        refine (K5.out _).mono ?_; rintro e w1 ⟨rfl, rfl⟩
        go_wp2_with fail
        refine (K6.out _).mono ?_; rintro e w1 ⟨rfl, rfl⟩
        go_wp2_with fail
        go_ret
        exact ⟨ret_bool (by simp), ((Below.refl _ _).alloc (Nat.le_refl _) _).trans (Below.drewN _ _)⟩
    all_goals
      go_enter Try.func11, Try.ntmps11
      go_wp2_with fail
      refine (shown_any _).mono ?_; rintro e w1 ⟨rfl, n9, rfl⟩
      go_wp2_with fail
      refine (K1.out _).mono ?_; rintro e w1 ⟨rfl, n9, rfl⟩
      go_wp2_with fail
      refine (K2.out _).mono ?_; rintro e w1 ⟨rfl, n9, rfl⟩
      go_wp2_with fail
      refine (K3.out _).mono ?_; rintro e w1 ⟨rfl, n9, rfl⟩
      go_wp2_with fail
      refine (K4.out _).mono ?_; rintro e w1 ⟨rfl, n9, rfl⟩
      go_wp2_with fail
      refine (K5.out _).mono ?_; rintro e w1 ⟨rfl, rfl⟩
      go_wp2_with fail
      refine (K6.out _).mono ?_; rintro e w1 ⟨rfl, rfl⟩
      go_wp2_with fail
      go_ret
      exact ⟨ret_bool (by simp), ((Below.refl _ _).alloc (Nat.le_refl _) _).trans (Below.drewN _ _)⟩

theorem WordTotals_walk (w : World) (f a b : Int) (_ : (Lit.int .u8 f).wf = true) (ha : (Lit.int .i64 a).wf = true) (hb : (Lit.int .i64 b).wf = true) :
    Calls Try.prog 11 #[.agg #[.int .u8 f, .int .i64 a, .int .i64 b]] w fun e w' => e = .returned (.bool true) ∧ Below w.heap.size w w' := by
  have ha := in64_wf ha
  have hb := in64_wf hb
  have c1 := dy_cases f a b
  have c2 := mo_cases f a
  obtain ⟨n, e0, hd⟩ : ∃ n e0, dyadF f a b = (n, e0) := ⟨_, _, rfl⟩
  obtain ⟨m, g0, hm⟩ : ∃ n e0, monadF f a = (n, e0) := ⟨_, _, rfl⟩
  refine WordTotals_from w f a b n e0 m g0 (takes f true) (takes f false) (totalB f true) (totalB f false) (Lib.hid fun W => dyad_at W f a b n e0 ha hb hd) (Lib.hid fun W => monad_at W f a m g0 ha hm)
    (Lib.hid fun W => total_at W f true _ rfl) (Lib.hid fun W => total_at W f false _ rfl) (Lib.hid fun W => takes_at W f true _ rfl) (Lib.hid fun W => takes_at W f false _ rfl) ?_ ?_
  · rw [hd] at c1
    simp only [Prod.mk.injEq] at c1
    rcases c1 with ⟨_, ⟨-, h⟩, h'⟩ | ⟨⟨h1, h2⟩, h3⟩ | ⟨⟨h1, h2⟩, h3⟩
    · exact .inl ⟨h, h'⟩
    · exact .inr (.inl ⟨h1, h2, h3⟩)
    · exact .inr (.inr ⟨h1, h2, h3⟩)
  · rw [hm] at c2
    simp only [Prod.mk.injEq] at c2
    rcases c2 with ⟨_, ⟨-, h⟩, h'⟩ | ⟨⟨h1, h2⟩, h3⟩ | ⟨⟨h1, h2⟩, h3⟩
    · exact .inl ⟨h, h'⟩
    · exact .inr (.inl ⟨h1, h2, h3⟩)
    · exact .inr (.inr ⟨h1, h2, h3⟩)

set_option maxRecDepth 100000 in
theorem WordTotals_lifted (os : Os) (started : os.Started) (H : Type) (enc : TypeId × Value → H) :
    ReturnsInHanded {} Try.checked os 11 .any (Rows.wordTotalsSpec.pre6 enc Try.prog Try.f11 Rows.wordTotalsRow.domain false) (Rows.wordTotalsSpec.post enc Try.prog Try.f11 false true false false) := by
  refine returnsInHanded_of_change (C := Try.checked) own started (by kernel_rfl) Try.func11
    (ChangeSpec.witness6 (enc := enc) (C := Try.checked) false ⟨#[], #[.agg #[.int .u8 0, .int .i64 0, .int .i64 0]], []⟩ 8 (by kernel_rfl) (by kernel_rfl) (by kernel_rfl) (by kernel_rfl)) ?_
  intro W base args ds gs before hval0 hW hcnd _
  have hval : ∀ (j : Nat) t v, Try.f11.params[j]? = some t → args[j]? = some v → Value.okWide Try.prog W .any base t v := hval0
  have hW' := hW
  obtain ⟨p, q, hA0, hV, rfl, hfz, hnd⟩ := hW
  have hA : DataW.TrodAll enc Try.prog W 0 (fun _ => true) true Try.f11.params.toList args.toList ds p := hA0
  rw [Try.params11] at hA hval
  obtain ⟨v0, vs0, d0, ds0, p0, q0, hargs, rfl, rfl, h0, r0⟩ := trodAll_cons hA
  obtain ⟨rfl, rfl, rfl⟩ := trodAll_nil r0
  obtain rfl : args = #[v0] := by cases args; simp_all
  obtain ⟨rfl, rfl⟩ := trodVars_none hV
  have k0 := h0
  have lt0 : ∀ x ∈ p0, x.block < W.heap.size := by obtain ⟨m, hm⟩ := k0; exact DataW.trod_lt m _ _ _ hm
  obtain ⟨va0, vb0, vc0, ya0, yb0, yc0, n0, rfl, -, -, ta0, tb0, tc0⟩ := open_agg3 Try.underlying23 (by kernel_rfl) (by kernel_rfl) (hval 0 23 v0 rfl rfl) h0
  obtain ⟨na0, ea0, -, wa0⟩ := DataW.trod_int Try.underlying5 ta0
  simp at ea0
  subst ea0
  obtain ⟨nb0, eb0, -, wb0⟩ := DataW.trod_int Try.underlying2 tb0
  simp at eb0
  subst eb0
  obtain ⟨nc0, ec0, -, wc0⟩ := DataW.trod_int Try.underlying2 tc0
  simp at ec0
  subst ec0
  clear hA0 hval0
  refine (WordTotals_walk W na0 nb0 nc0 wa0 wb0 wc0).mono fun e W' ⟨he, bel⟩ => ?_
  subst he
  exact ⟨_, rfl, _, _, _, [], _, [], hW', trodAll_mk1 (shut_bool Try.underlying4 _), (trodAll_cons_mk (Below.trod laidOut (by kernel_rfl) (of_decide_eq_true (by kernel_rfl)) k0 bel lt0) trodAll_mk0), rfl, bel.frame _, fun h => by cases h⟩

/-- The given statement. -/
theorem WordTotals_holds : Rows.WordTotalsSaid :=
  OpenClaim.holds_of_wide 11 Try.f11 rfl rfl rfl rfl rfl rfl rfl ⟨rfl, rfl, rfl, rfl, rfl⟩ rfl rfl rfl rfl rfl (by kernel_rfl) Try.func11 (by kernel_rfl)
    (of_decide_eq_true (by kernel_rfl)) (by unfold Func.isWrapper; rw [if_neg (by decide +kernel)]; exact ⟨rfl, rfl⟩)
    (fun os started H enc _ => WordTotals_lifted os started H enc)
#print axioms WordTotals_holds
end Go.Proofs.Ytnfkmmiojgnonaa
