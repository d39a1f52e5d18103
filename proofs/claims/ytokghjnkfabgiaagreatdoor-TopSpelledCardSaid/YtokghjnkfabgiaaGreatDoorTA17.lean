import Derived.Test.YtokghjnkfabgiaaGreatDoorTA16
namespace Go.Proofs.YtokghjnkfabgiaaGreatDoor
set_option maxRecDepth 100000
open Go.RowKit Go.Lib
set_option linter.unusedVariables false
set_option linter.unusedSimpArgs false
attribute [local go_sem] str_size str_get str_toList

/-! parse.two, parse.one. -/
theorem two_none {s : Str} (h : ∀ x ∈ verbsW, x.2.1 ≠ 0 → (s == x.1) = false) : twoW s = 0 := by
  unfold twoW
  cases hf : findW s with
  | none => rfl
  | some x =>
    obtain ⟨h1, h2⟩ := find_mem hf
    show x.2.1 = 0
    by_cases h0 : x.2.1 = 0
    · exact h0
    · have := h x h1 h0
      rw [h2] at this
      simp at this
set_option maxHeartbeats 4000000 in
theorem two_any (s : Str) (w : World) : Calls Tryz.prog 101 #[.string (str s)] w fun e w' => e = .returned (.int .u8 (twoW s)) ∧ w' = w := by
  go_enter Tryz.func101, Tryz.ntmps101
  go_wp2
  all_goals (go_ret; refine ⟨ret_int ?_, rfl⟩)
  all_goals first
    | (rename_i h; have h := eq_of_beq h; subst h; rfl)
    | (refine (two_none ?_).symm
       intro x hx h0
       simp only [verbsW, List.mem_cons, List.not_mem_nil, or_false] at hx
       rcases hx with rfl | rfl | rfl | rfl | rfl | rfl | rfl | rfl | rfl | rfl | rfl | rfl | rfl | rfl | rfl | rfl | rfl | rfl | rfl | rfl | rfl | rfl | rfl | rfl | rfl <;> first | assumption | exact absurd rfl h0)
theorem one_none {s : Str} (h : ∀ x ∈ verbsW, x.2.2 ≠ 0 → (s == x.1) = false) : oneW s = 0 := by
  unfold oneW
  cases hf : findW s with
  | none => rfl
  | some x =>
    obtain ⟨h1, h2⟩ := find_mem hf
    show x.2.2 = 0
    by_cases h0 : x.2.2 = 0
    · exact h0
    · have := h x h1 h0
      rw [h2] at this
      simp at this
set_option maxHeartbeats 4000000 in
theorem one_any (s : Str) (w : World) : Calls Tryz.prog 100 #[.string (str s)] w fun e w' => e = .returned (.int .u8 (oneW s)) ∧ w' = w := by
  have HT := Lib.hid (two_any s w)
  go_enter Tryz.func100, Tryz.ntmps100
  go_wp2_with (refine HT.out.mono ?_; rintro e w' ⟨rfl, rfl⟩)
  all_goals (go_ret; refine ⟨ret_int ?_, rfl⟩)
  all_goals first
    | (exfalso; simp_all; done)
    | (rename_i h; have h := eq_of_beq h; subst h; rfl)
    | (refine (one_none ?_).symm
       intro x hx h0
       simp only [verbsW, List.mem_cons, List.not_mem_nil, or_false] at hx
       rcases hx with rfl | rfl | rfl | rfl | rfl | rfl | rfl | rfl | rfl | rfl | rfl | rfl | rfl | rfl | rfl | rfl | rfl | rfl | rfl | rfl | rfl | rfl | rfl | rfl | rfl <;> first | assumption | exact absurd rfl h0)
    | (have h : s = [43] := eq_of_beq (by assumption); rw [h]; rfl)
    | (have h : s = [45] := eq_of_beq (by assumption); rw [h]; rfl)
    | (have h : s = [42] := eq_of_beq (by assumption); rw [h]; rfl)
    | (have h : s = [37] := eq_of_beq (by assumption); rw [h]; rfl)
    | (have h : s = [124] := eq_of_beq (by assumption); rw [h]; rfl)
    | (have h : s = [109, 105, 110] := eq_of_beq (by assumption); rw [h]; rfl)
    | (have h : s = [109, 97, 120] := eq_of_beq (by assumption); rw [h]; rfl)
end Go.Proofs.YtokghjnkfabgiaaGreatDoor

namespace Go.Proofs.YtokghjnkfabgiaaGreatDoor
set_option maxRecDepth 100000
open Go.RowKit Go.Lib
set_option linter.unusedVariables false
set_option linter.unusedSimpArgs false

/-! parse.Verb, parse.verb. -/
theorem verb_any (s : Str) (w : World) : Calls Tryz.prog 62 #[.string (str s)] w fun e w' => e = .returned (.bool (verbW s)) ∧ w' = w := by
  have h1 := one_any s w
  have h2 := two_any s w
  have hv : verbW s = (oneW s != 0 || twoW s != 0) := rfl
  rw [hv]
  generalize oneW s = x at h1 ⊢
  generalize twoW s = y at h2 ⊢
  have H1 := Lib.hid h1; have H2 := Lib.hid h2
  clear h1 h2 hv
  go_enter Tryz.func62, Tryz.ntmps62
  go_wp2_with (first
    | (go_at_call 100; refine H1.out.mono ?_; rintro e w' ⟨rfl, rfl⟩)
    | (go_at_call 101; refine H2.out.mono ?_; rintro e w' ⟨rfl, rfl⟩))
  all_goals (go_ret; refine ⟨ret_bool ?_, rfl⟩; simp_all)
theorem Verb_any (s : Str) (two : Bool) (w : World) : Calls Tryz.prog 68 #[.string (str s), .bool two] w fun e w' => e = .returned (.tuple #[.int .u8 (if two = true then twoW s else oneW s), .bool ((if two = true then twoW s else oneW s) != 0)]) ∧ w' = w := by
  have h1 := one_any s w
  have h2 := two_any s w
  generalize oneW s = x at h1 ⊢
  generalize twoW s = y at h2 ⊢
  have H1 := Lib.hid h1; have H2 := Lib.hid h2
  clear h1 h2
  cases two
  all_goals
    go_enter Tryz.func68, Tryz.ntmps68
    go_wp2_with (first
      | (go_at_call 100; refine H1.out.mono ?_; rintro e w' ⟨rfl, rfl⟩)
      | (go_at_call 101; refine H2.out.mono ?_; rintro e w' ⟨rfl, rfl⟩))
    refine bodyPost_ret (results_t2 rfl _ _ rfl rfl) rfl ⟨rfl, rfl⟩
end Go.Proofs.YtokghjnkfabgiaaGreatDoor
