import Derived.Test.YtbhhmfkipfedfaaW9
import Derived.Deep.RegionHeld3
namespace Go.Proofs.Ytbhhmfkipfedfaa
open Go.RowKit

theorem right_good {s d : List Int} (h : right s d = true) : size s = ((d.length : Int), 0) ∧ Good s d.length := by
  unfold right at h
  simp only [Bool.and_eq_true, beq_iff_eq] at h
  have e : size s = ((d.length : Int), 0) := by rw [← h.1, ← h.2]
  exact ⟨e, size_good e⟩

set_option maxRecDepth 100000 in
set_option maxHeartbeats 2000000 in
theorem cell_bad (w : World) (a0 a1 : Option Addr) (c0 c1 : Nat) (s d : List Int) (k : Int) (hs : s.length ≤ maxLen) (hc0 : s.length ≤ c0) (h0 : IntsAt .i64 w a0 s) (hb : (cell s d k).2 ≠ 0) :
    Calls Try.prog 19 #[.agg #[.slice a0 s.length c0, .slice a1 d.length c1], .int .i64 k] w fun e w' => RetArr w.heap.size (cell s d k) e w' ∧ Below w.heap.size w w' := by
  have hbb : ∀ o o', Below w.heap.size w ((w.alloc o).alloc o') := fun o o' => ((Below.refl _ _).alloc (Nat.le_refl _) _).alloc (by simp) _
  have hq := fun o o' => right_any ((w.alloc o).alloc o') a0 a1 c0 c1 s d hs (h0.below (hbb o o') (Nat.le_refl _))
  unfold maxLen at hs
  cases hr : right s d with
  | false =>
    have hcell : cell s d k = (([], []), 60) := by unfold cell; rw [if_neg (by rw [hr]; simp)]
    rw [hr] at hq
    have Hq := Lib.hid hq; have Hb := Lib.hid hbb; have Hc := Lib.hid hcell; clear hq hbb hcell hb hr h0
    go_enter Try.func19, Try.ntmps19
    go_wp2_with (go_at_call 12; refine (Hq.out _ _).mono ?_; rintro e w1 ⟨rfl, hb1⟩; obtain ⟨hc1, hf1⟩ := bcell hb1; have hz1 : w.heap.size + 1 < w1.heap.size := by have := hb1.size; simp at this; omega)
    refine bodyPost_ret (v := .tuple #[.agg #[.slice none 0 0, .slice none 0 0], .int .i64 60]) (by simp [results, Try.results19, go_sem, hc1]) rfl ⟨?_, ?_⟩
    · rw [Hc.out]; exact ⟨_, _, rfl, RowI.nil _ _, RowI.nil _ _, .inl rfl⟩
    · exact (((Hb.out _ _).trans (hb1.mono (by simp; omega))).setCell (p := ⟨w.heap.size + 1, 0, none⟩) (by simp) _).setCell (p := ⟨w.heap.size + 1, 1, none⟩) (by simp) _
  | true =>
    rw [hr] at hq
    have Hq := Lib.hid hq; have Hb := Lib.hid hbb; clear hq hbb
    cases s with
    | nil =>
      have hcell : cell [] d k = (([], []), 62) := by unfold cell; rw [if_pos hr]
      have Hc := Lib.hid hcell; clear hcell hb hr h0
      go_enter Try.func19, Try.ntmps19
      go_wp2_with (go_at_call 12; refine (Hq.out _ _).mono ?_; rintro e w1 ⟨rfl, hb1⟩; obtain ⟨hc1, hf1⟩ := bcell hb1; have hz1 : w.heap.size + 1 < w1.heap.size := by have := hb1.size; simp at this; omega)
      refine bodyPost_ret (v := .tuple #[.agg #[.slice none 0 0, .slice none 0 0], .int .i64 62]) (by simp [results, Try.results19, go_sem, hc1]) rfl ⟨?_, ?_⟩
      · rw [Hc.out]; exact ⟨_, _, rfl, RowI.nil _ _, RowI.nil _ _, .inl rfl⟩
      · exact (((Hb.out _ _).trans (hb1.mono (by simp; omega))).setCell (p := ⟨w.heap.size + 1, 0, none⟩) (by simp) _).setCell (p := ⟨w.heap.size + 1, 1, none⟩) (by simp) _
    | cons x r =>
      obtain ⟨b0, off, rfl, hcx⟩ := h0 0 (by simp)
      have hb0 := World.block_lt_of_cell? w _ hcx
      simp only [Nat.add_zero, List.getElem_cons_zero] at hcx
      have hc0' : 0 < (x :: r).length := by simp
      have hcc : ∀ o o', ((w.alloc o).alloc o').cell? ⟨b0, off, none⟩ = some (.int .i64 x) := fun o o' => (((Hb.out o o').cell (p := ⟨b0, off, none⟩) hb0)).trans hcx
      have Hcc := Lib.hid hcc; clear hcc
      clear h0 hc0
      by_cases hk : k < 0
      · have hcell : cell (x :: r) d k = (([], []), 62) := by unfold cell; rw [if_pos hr]; simp only []; rw [if_pos (Or.inl hk)]
        have Hc := Lib.hid hcell; clear hcell hb hr
        go_enter Try.func19, Try.ntmps19
        go_wp2_with (go_at_call 12; refine (Hq.out _ _).mono ?_; rintro e w1 ⟨rfl, hb1⟩; obtain ⟨hc1, hf1⟩ := bcell hb1; have hz1 : w.heap.size + 1 < w1.heap.size := by have := hb1.size; simp at this; omega)
        refine bodyPost_ret (v := .tuple #[.agg #[.slice none 0 0, .slice none 0 0], .int .i64 62]) (by simp [results, Try.results19, go_sem, hc1]) rfl ⟨?_, ?_⟩
        · rw [Hc.out]; exact ⟨_, _, rfl, RowI.nil _ _, RowI.nil _ _, .inl rfl⟩
        · exact (((Hb.out _ _).trans (hb1.mono (by simp; omega))).setCell (p := ⟨w.heap.size + 1, 0, none⟩) (by simp) _).setCell (p := ⟨w.heap.size + 1, 1, none⟩) (by simp) _
      · have hk' : decide (k < 0) = false := by simpa using hk
        by_cases hx : x ≤ k
        · have hcell : cell (x :: r) d k = (([], []), 62) := by unfold cell; rw [if_pos hr]; simp only []; rw [if_pos (Or.inr hx)]
          have Hc := Lib.hid hcell; clear hcell hb hr
          go_enter Try.func19, Try.ntmps19
          go_wp2_with (go_at_call 12; refine (Hq.out _ _).mono ?_; rintro e w1 ⟨rfl, hb1⟩; obtain ⟨hc1, hf1⟩ := bcell hb1; have hz1 : w.heap.size + 1 < w1.heap.size := (by have := hb1.size; simp at this; omega); have hcx1 : w1.cell? ⟨b0, off, none⟩ = some (.int .i64 x) := (hb1.cell (p := ⟨b0, off, none⟩) (by simp; omega)).trans (Hcc.out _ _))
          refine bodyPost_ret (v := .tuple #[.agg #[.slice none 0 0, .slice none 0 0], .int .i64 62]) (by simp [results, Try.results19, go_sem, hc1]) rfl ⟨?_, ?_⟩
          · rw [Hc.out]; exact ⟨_, _, rfl, RowI.nil _ _, RowI.nil _ _, .inl rfl⟩
          · exact (((Hb.out _ _).trans (hb1.mono (by simp; omega))).setCell (p := ⟨w.heap.size + 1, 0, none⟩) (by simp) _).setCell (p := ⟨w.heap.size + 1, 1, none⟩) (by simp) _
        · exfalso
          apply hb
          unfold cell
          rw [if_pos hr]
          simp only []
          rw [if_neg (by omega)]
end Go.Proofs.Ytbhhmfkipfedfaa
