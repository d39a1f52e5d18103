import Derived.Test.YtokghjnkfabgiaaGreatDoorTD17
import Derived.Lib.UnsafeStr
set_option linter.unusedVariables false
set_option linter.unusedSimpArgs false
set_option maxRecDepth 100000
namespace Go.Proofs.YtokghjnkfabgiaaGreatDoor
open Go.RowKit Go.Lib
attribute [local go_sem] str_size str_get str_toList
attribute [local go_sem high] run_str_add

theorem strCells_bytes (s : Str) : Lib.strCells (str s) = Lib.byteCells s := by
 simp [Lib.strCells, Lib.byteCells, str]
set_option maxHeartbeats 4000000 in
theorem read_any (w : World) (M b : Nat) (m1 m2 p : Value) (s : Str) (h : ShB w M b m1 m2 p s) (h0 : s ≠ []) :
  Calls Tryz.prog 41 #[.pointer (some ⟨b, 2, none⟩)] w fun e w' => e = .returned (.string (str s)) ∧ Below M w w' := by
 obtain ⟨hB, v, hbk, hown, hne⟩ := h
 have hl0 : s.length ≠ 0 := by simpa using h0
 rw [strCells_bytes] at hown
 obtain ⟨g, cap, cur, rfl, hbg, hg, hnc, hcm, hcs, htake⟩ : ∃ g cap cur, v = .slice (some ⟨g, 0, none⟩) s.length cap ∧ M ≤ g ∧ w.heap[g]? = some (.cells cur 5 (0, 0)) ∧ s.length ≤ cap ∧ cap ≤ maxLen ∧ cur.size = cap * 1 ∧ cur.toList.take (s.length * 1) = Lib.byteCells s := by
  rcases hown.2 with ⟨_, hz⟩ | ⟨g, cap, cur, hv, r⟩
  ·exact absurd hz hl0
  ·exact ⟨g, cap, cur, hv, r⟩
 have c1 : w.drew.cell? ⟨b, 3, none⟩ = some (.slice (some ⟨g, 0, none⟩) s.length cap) := by
  have : w.drew.heap[b]? = some (.cells #[m1, m2, p, .slice (some ⟨g, 0, none⟩) s.length cap] 102 (0, 0)) := hbk
  rw [Lib.cell_of_heap this]; rfl
 have hSD : (Builtin.unsafeSliceData_ #[53] 144 #[.slice (some ⟨g, 0, none⟩) s.length cap]).run Tryz.prog w.drew = .ok (.pointer (some ⟨g, 0, none⟩)) w.drew :=
  Lib.run_unsafeSliceData_row _ _ _ _ _ _ (by omega)
 have hUS : (Builtin.unsafeString_ #[144, 3] 9 #[.pointer (some ⟨g, 0, none⟩), .int .i64 s.length]).run Tryz.prog w.drew = .ok (.string (str s)) (w.drew.freeze ⟨g, 0, none⟩ s.length) := by
  refine Lib.run_unsafeString_row w.drew 144 3 9 5 (by kernel_rfl) (by kernel_rfl) g cur.size (by have hg' : w.drew.heap[g]? = some (.cells cur 5 (0, 0)) := hg; simp [World.shape?, hg']) s h0 (by omega) (by unfold maxLen at hcm; omega) ?_
  intro j x hx
  have := hown.cells (g := g) rfl j (.int .u8 x.toNat) (by simp [Lib.byteCells, hx])
  exact this
 go_enter Tryz.func41, Tryz.ntmps41
 go_wp2
 go_region
 all_goals (go_wp2; go_ret; exact ⟨rfl, Lib.below_freeze (Below.drew (Below.refl M w)) (p := ⟨g, 0, none⟩) hbg _⟩)
set_option maxHeartbeats 4000000 in
theorem showline_any (w : World) (M b : Nat) (m1 m2 p : Value) (s a c : Str) (hp : p = .pointer none ∨ p = .pointer (some ⟨b, 2, none⟩)) (h : ShB w M b m1 m2 p s) (hl : s.length + a.length + c.length ≤ 90000000000) (hM : M ≤ w.heap.size) :
  Calls Tryz.prog 70 #[.pointer (some ⟨b, 0, none⟩), .string (str a), .string (str c)] w fun e w' => e = .returned (.tuple #[]) ∧ ShB w' M b m1 m2 (.pointer (some ⟨b, 2, none⟩)) (s ++ (a ++ c ++ [10])) ∧ Below M w w' ∧ KeepSh w w' := by
 have hw := writes_any w M b m1 m2 p s (a ++ c ++ [10]) hp h (by simp; omega) hM
 have HW := Lib.hid hw
 clear hw h hp
 go_enter Tryz.func70, Tryz.ntmps70
 go_wp2_with (go_at_call 50; refine HW.out.mono ?_; rintro e w1 ⟨rfl, h1, h2, h3⟩; have H1 := Lib.hid h1; have H2 := Lib.hid h2; have H3 := Lib.hid h3)
 go_end0
 exact ⟨rfl, H1.out, H2.out, H3.out⟩
end Go.Proofs.YtokghjnkfabgiaaGreatDoor
