/-
  WordRing: the law returns true for every input, and what was handed in reads as it did. No condition.
-/
import Derived.Test.YtnfkmmiojgnonaaV10
namespace Go.Proofs.Ytnfkmmiojgnonaa
open Go.ChangeShapes Go.WideShapes Go.ChangeAt Go.RowKit Go.Joins
set_option linter.unusedVariables false

theorem ring5 (a b : Int) (ha : In64 a) : wrap64 (wrap64 (a + b) - b) = a := by rw [wrap_sub_l, show a + b - b = a by omega]; exact wrap_id ha
theorem ring8 (a b c : Int) : wrap64 (a + wrap64 (b + c)) = wrap64 (wrap64 (a + b) + c) := by rw [wrap_add_r, wrap_add_l, Int.add_assoc]
theorem ring11 (a b c : Int) : wrap64 (a * wrap64 (b * c)) = wrap64 (wrap64 (a * b) * c) := by rw [wrap_mul_r, wrap_mul_l, Int.mul_assoc]
theorem ring15 (a b c : Int) : wrap64 (wrap64 (a * c) + wrap64 (b * c)) = wrap64 (wrap64 (a + b) * c) := by rw [wrap_add_l, wrap_add_r, wrap_mul_l, Int.add_mul]

set_option maxRecDepth 100000 in
set_option maxHeartbeats 4000000 in
theorem WordRing_walk (w : World) (a b c : Int) (ha : (Lit.int .i64 a).wf = true) (hb : (Lit.int .i64 b).wf = true) (hc : (Lit.int .i64 c).wf = true) :
    Calls Try.prog 6 #[.int .i64 a, .int .i64 b, .int .i64 c] w fun e w' => e = .returned (.bool true) ∧ Below w.heap.size w w' := by
  have ha := in64_wf ha
  have hb := in64_wf hb
  have hc := in64_wf hc
  obtain ⟨S, hS⟩ : ∃ S, wrap64 (a + b) = S := ⟨_, rfl⟩
  obtain ⟨P, hP⟩ : ∃ P, wrap64 (a * b) = P := ⟨_, rfl⟩
  obtain ⟨BC, hBC⟩ : ∃ P, wrap64 (b + c) = P := ⟨_, rfl⟩
  obtain ⟨PBC, hPBC⟩ : ∃ P, wrap64 (b * c) = P := ⟨_, rfl⟩
  obtain ⟨AC, hAC⟩ : ∃ P, wrap64 (a * c) = P := ⟨_, rfl⟩
  obtain ⟨X, hX⟩ : ∃ P, wrap64 (S + c) = P := ⟨_, rfl⟩
  obtain ⟨Y, hY⟩ : ∃ Q, wrap64 (P * c) = Q := ⟨_, rfl⟩
  obtain ⟨Z, hZ⟩ : ∃ P, wrap64 (S * c) = P := ⟨_, rfl⟩
  have iS : In64 S := hS ▸ wrap_in _
  have iP : In64 P := hP ▸ wrap_in _
  have iBC : In64 BC := hBC ▸ wrap_in _
  have iPBC : In64 PBC := hPBC ▸ wrap_in _
  have iAC : In64 AC := hAC ▸ wrap_in _
  have K1 := Lib.hid (fun W => ldyad_at W 1 a b S ha hb (by rw [dy1]; exact hS))
  have K2 := Lib.hid (fun W => ldyad_at W 3 a b P ha hb (by rw [dy3]; exact hP))
  have K3 := Lib.hid (fun W => ldyad_at W 1 b a S hb ha (by rw [dy1, Int.add_comm]; exact hS))
  have K4 := Lib.hid (fun W => ldyad_at W 3 b a P hb ha (by rw [dy3, Int.mul_comm]; exact hP))
  have K5 := Lib.hid (fun W => ldyad_at W 2 S b a iS hb (by rw [dy2, ← hS]; exact ring5 a b ha))
  have K6 := Lib.hid (fun W => ldyad_at W 1 S c X iS hc (by rw [dy1]; exact hX))
  have K7 := Lib.hid (fun W => ldyad_at W 1 b c BC hb hc (by rw [dy1]; exact hBC))
  have K8 := Lib.hid (fun W => ldyad_at W 1 a BC X ha iBC (by rw [dy1, ← hBC, ← hX, ← hS]; exact ring8 a b c))
  have K9 := Lib.hid (fun W => ldyad_at W 3 P c Y iP hc (by rw [dy3]; exact hY))
  have K10 := Lib.hid (fun W => ldyad_at W 3 b c PBC hb hc (by rw [dy3]; exact hPBC))
  have K11 := Lib.hid (fun W => ldyad_at W 3 a PBC Y ha iPBC (by rw [dy3, ← hPBC, ← hY, ← hP]; exact ring11 a b c))
  have K12 := Lib.hid (fun W => ldyad_at W 3 S c Z iS hc (by rw [dy3]; exact hZ))
  have K13 := Lib.hid (fun W => ldyad_at W 3 a c AC ha hc (by rw [dy3]; exact hAC))
  have K15 := Lib.hid (fun W => ldyad_at W 1 AC PBC Z iAC iPBC (by rw [dy1, ← hAC, ← hPBC, ← hZ, ← hS]; exact ring15 a b c))
  clear ha hb hc hS hP hBC hPBC hAC hX hY hZ iS iP iBC iPBC iAC
  go_enter Try.func6, Try.ntmps6
  go_wp2_with fail
  refine (shown_any _).mono ?_; rintro e w1 ⟨rfl, n9, rfl⟩
  go_wp2_with fail
  refine (K1.out _).mono ?_; rintro e w1 ⟨rfl, n9, rfl⟩
  go_wp2_with fail
  refine (K2.out _).mono ?_; rintro e w1 ⟨rfl, n9, rfl⟩
  go_wp2_with fail
  refine (K3.out _).mono ?_; rintro e w1 ⟨rfl, n9, rfl⟩
  go_wp2_with fail
  refine (K4.out _).mono ?_; rintro e w1 ⟨rfl, n9, rfl⟩
  go_wp2_with fail
  refine (K5.out _).mono ?_; rintro e w1 ⟨rfl, n9, rfl⟩
  go_wp2_with fail
  refine (K6.out _).mono ?_; rintro e w1 ⟨rfl, n9, rfl⟩
  go_wp2_with fail
  refine (K7.out _).mono ?_; rintro e w1 ⟨rfl, n9, rfl⟩
  go_wp2_with fail
  refine (K8.out _).mono ?_; rintro e w1 ⟨rfl, n9, rfl⟩
  go_wp2_with fail
  refine (K9.out _).mono ?_; rintro e w1 ⟨rfl, n9, rfl⟩
  go_wp2_with fail
  refine (K10.out _).mono ?_; rintro e w1 ⟨rfl, n9, rfl⟩
  go_wp2_with fail
  refine (K11.out _).mono ?_; rintro e w1 ⟨rfl, n9, rfl⟩
  go_wp2_with fail
  refine (K12.out _).mono ?_; rintro e w1 ⟨rfl, n9, rfl⟩
  go_wp2_with fail
  refine (K13.out _).mono ?_; rintro e w1 ⟨rfl, n9, rfl⟩
  go_wp2_with fail
  refine (K10.out _).mono ?_; rintro e w1 ⟨rfl, n9, rfl⟩
  go_wp2_with fail
  refine (K15.out _).mono ?_; rintro e w1 ⟨rfl, n9, rfl⟩
  go_wp2_with fail
  go_ret
  exact ⟨ret_bool (by simp), Below.drewN _ _⟩

set_option maxRecDepth 100000 in
theorem WordRing_lifted (os : Os) (started : os.Started) (H : Type) (enc : TypeId × Value → H) :
    ReturnsInHanded {} Try.checked os 6 .any (Rows.wordRingSpec.pre6 enc Try.prog Try.f6 Rows.wordRingRow.domain false) (Rows.wordRingSpec.post enc Try.prog Try.f6 false true false false) := by
  refine returnsInHanded_of_change (C := Try.checked) own started (by kernel_rfl) Try.func6
    (ChangeSpec.witness6 (enc := enc) (C := Try.checked) false ⟨#[], #[.int .i64 0, .int .i64 0, .int .i64 0], []⟩ 8 (by kernel_rfl) (by kernel_rfl) (by kernel_rfl) (by kernel_rfl)) ?_
  intro W base args ds gs before hval0 hW hcnd _
  have hval : ∀ (j : Nat) t v, Try.f6.params[j]? = some t → args[j]? = some v → Value.okWide Try.prog W .any base t v := hval0
  have hW' := hW
  obtain ⟨p, q, hA0, hV, rfl, hfz, hnd⟩ := hW
  have hA : DataW.TrodAll enc Try.prog W 0 (fun _ => true) true Try.f6.params.toList args.toList ds p := hA0
  rw [Try.params6] at hA hval
  obtain ⟨v0, vs0, d0, ds0, p0, q0, hargs, rfl, rfl, h0, r0⟩ := trodAll_cons hA
  obtain ⟨v1, vs1, d1, ds1, p1, q1, rfl, rfl, rfl, h1, r1⟩ := trodAll_cons r0
  obtain ⟨v2, vs2, d2, ds2, p2, q2, rfl, rfl, rfl, h2, r2⟩ := trodAll_cons r1
  obtain ⟨rfl, rfl, rfl⟩ := trodAll_nil r2
  obtain rfl : args = #[v0, v1, v2] := by cases args; simp_all
  obtain ⟨rfl, rfl⟩ := trodVars_none hV
  obtain ⟨a0, rfl, rfl, rfl, w0⟩ := open_int Try.underlying2 (hval 0 2 v0 rfl rfl) h0
  obtain ⟨a1, rfl, rfl, rfl, w1⟩ := open_int Try.underlying2 (hval 1 2 v1 rfl rfl) h1
  obtain ⟨a2, rfl, rfl, rfl, w2⟩ := open_int Try.underlying2 (hval 2 2 v2 rfl rfl) h2
  clear hA0 hval0
  refine (WordRing_walk W a0 a1 a2 w0 w1 w2).mono fun e W' ⟨he, bel⟩ => ?_
  subst he
  exact ⟨_, rfl, _, _, _, [], _, [], hW', trodAll_mk1 (shut_bool Try.underlying4 _), (trodAll_cons_mk (shut_int Try.underlying2 w0) (trodAll_cons_mk (shut_int Try.underlying2 w1) (trodAll_cons_mk (shut_int Try.underlying2 w2) trodAll_mk0))), rfl, bel.frame _, fun h => by cases h⟩

/-- The given statement. -/
theorem WordRing_holds : Rows.WordRingSaid :=
  OpenClaim.holds_of_wide 6 Try.f6 rfl rfl rfl rfl rfl rfl rfl ⟨rfl, rfl, rfl, rfl, rfl⟩ rfl rfl rfl rfl rfl (by kernel_rfl) Try.func6 (by kernel_rfl)
    (of_decide_eq_true (by kernel_rfl)) (by unfold Func.isWrapper; rw [if_neg (by decide +kernel)]; exact ⟨rfl, rfl⟩)
    (fun os started H enc _ => WordRing_lifted os started H enc)
#print axioms WordRing_holds
end Go.Proofs.Ytnfkmmiojgnonaa
