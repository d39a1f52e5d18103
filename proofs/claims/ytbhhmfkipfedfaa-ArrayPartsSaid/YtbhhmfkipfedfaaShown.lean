import Derived.Test.YtbhhmfkipfedfaaW11
namespace Go.Proofs.Ytbhhmfkipfedfaa
open Go.RowKit

set_option maxRecDepth 100000 in
set_option maxHeartbeats 4000000 in
theorem shown_any (w : World) : Calls Try.prog 9 #[] w fun e w' => e = .returned (.bool true) ∧ Below w.heap.size w w' := by
  have k1 := fun W => size_any (W.alloc (.cells #[.int .i64 2, .int .i64 3] 2)) (some ⟨W.heap.size, 0, none⟩) 2 [2, 3] (by decide) (IntsAt.lit .i64 W 2 [2, 3])
  have k2 := fun W => size_any (W.alloc (.cells #[.int .i64 512, .int .i64 256] 2)) (some ⟨W.heap.size, 0, none⟩) 2 [512, 256] (by decide) (IntsAt.lit .i64 W 2 [512, 256])
  rw [show size [2, 3] = (6, 0) from by decide] at k1
  rw [show size [512, 256] = (0, 61) from by decide] at k2
  unfold two at k1 k2 
  have k3 := fun W => place_any ((W.alloc (.cells #[.int .i64 2, .int .i64 3] 2)).alloc (.cells #[.int .i64 1, .int .i64 2] 2)) (some ⟨W.heap.size, 0, none⟩) (some ⟨W.heap.size + 1, 0, none⟩) 2 2 [2, 3] [1, 2] (by decide) (by decide) (IntsAt.lit1 .i64 W _ 2 [2, 3]) (IntsAt.lit2 .i64 W _ 2 [1, 2])
  rw [show place [2, 3] [1, 2] = (5, 0) from by decide] at k3
  have k4 := fun W => index_any (W.alloc (.cells #[.int .i64 2, .int .i64 3] 2)) (some ⟨W.heap.size, 0, none⟩) 2 [2, 3] 4 (by decide) (IntsAt.lit .i64 W 2 [2, 3])
  rw [show index [2, 3] 4 = ([1, 1], 0) from by decide] at k4
  have k5 := fun W => cell_any ((W.alloc (.cells #[.int .i64 2, .int .i64 3] 2)).alloc (.cells #[.int .i64 1, .int .i64 2, .int .i64 3, .int .i64 4, .int .i64 5, .int .i64 6] 2)) (some ⟨W.heap.size, 0, none⟩) (some ⟨W.heap.size + 1, 0, none⟩) 2 6 [2, 3] [1, 2, 3, 4, 5, 6] 1 (by decide) (by decide) (by decide) (IntsAt.lit1 .i64 W _ 2 [2, 3]) (IntsAt.lit2 .i64 W _ 2 [1, 2, 3, 4, 5, 6])
  rw [show cell [2, 3] [1, 2, 3, 4, 5, 6] 1 = (([3], [4, 5, 6]), 0) from by decide] at k5
  unfold two at k3
  have K3 := Lib.hid k3; have K4 := Lib.hid k4; have K5 := Lib.hid k5; clear k3 k4 k5
  have K1 := Lib.hid k1; have K2 := Lib.hid k2; clear k1 k2
  go_enter Try.func9, Try.ntmps9
  go_wp2_with fail
  refine (K1.out _).mono ?_
  rintro e w1 ⟨rfl, hb⟩
  have hB1 : Below w.heap.size w w1 := bAfter ((Below.refl _ _).alloc (Nat.le_refl _) _) (by simp) hb
  clear hb
  go_wp2_with fail
  refine (K2.out _).mono ?_
  rintro e w2 ⟨rfl, hb⟩
  have hB2 : Below w.heap.size w w2 := bAfter (hB1.alloc hB1.size _) (by have := hB1.size; simp; omega) hb
  clear hb hB1
  go_wp2_with fail
  refine (K3.out _).mono ?_
  rintro e w3 ⟨rfl, hb⟩
  have hB3 : Below w.heap.size w w3 := bAfter ((hB2.alloc hB2.size _).alloc (by have := hB2.size; simp; omega) _) (by have := hB2.size; simp; omega) hb
  clear hb hB2
  go_wp2_with fail
  refine (K4.out _).mono ?_
  rintro e w4 ⟨⟨v, rfl, hv⟩, hb⟩
  obtain ⟨ai, ci, rfl, _, hvi⟩ := hv.slice
  have hB4 : Below w.heap.size w w4 := bAfter (hB3.alloc hB3.size _) (by have := hB3.size; simp; omega) hb
  clear hb hB3 hv
  have Hvi := Lib.hid hvi; clear hvi
  go_wp2_with fail
  refine (K5.out _).mono ?_
  rintro e w5 ⟨⟨v, u, rfl, hv, hu, hap⟩, hb⟩
  obtain ⟨av, cv, rfl, _, hvv⟩ := hv.slice
  obtain ⟨au, cu, rfl, _, huu⟩ := hu.slice
  have hB5 : Below w.heap.size w w5 := bAfter ((hB4.alloc hB4.size _).alloc (by have := hB4.size; simp; omega) _) (by have := hB4.size; simp; omega) hb
  have hvi5 : IntsAt .i64 w5 ai [1, 1] := Hvi.out.below (bAfter (((Below.refl w4.heap.size w4).alloc (Nat.le_refl _) _).alloc (by simp) _) (by simp; omega) hb) (Nat.le_refl _)
  have Hvi5 := Lib.hid hvi5; have Hvv := Lib.hid hvv; have Huu := Lib.hid huu
  clear hb hB4 hv hu hap Hvi hvi5 hvv huu
  go_wp2_with fail
  refine (ints_any _ ai (some ⟨w5.heap.size + 1, 0, none⟩) ci 2 [1, 1] [1, 1] (by decide) (by decide) (Hvi5.out.below (((Below.refl w5.heap.size w5).alloc (Nat.le_refl _) _).alloc (by simp) _) (Nat.le_refl _)) (IntsAt.lit2 .i64 w5 _ 2 [1, 1])).mono ?_
  rintro e w6 ⟨he, n6, hw6⟩
  rw [show ints [1, 1] [1, 1] = true from by decide] at he
  subst he
  have h56 : Below w5.heap.size w5 w6 := by rw [hw6]; exact (((Below.refl w5.heap.size w5).alloc (Nat.le_refl _) _).alloc (by simp) _).trans (Below.drewN _ _)
  have hc0 : w6.cell? ⟨w5.heap.size, 0, none⟩ = some (.slice av 1 cv) := by rw [hw6]; simp [go_sem]
  have hc1 : w6.cell? ⟨w5.heap.size, 1, none⟩ = some (.slice au 3 cu) := by rw [hw6]; simp [go_sem]
  have hB6 := bAfter hB5 hB5.size h56
  clear hw6
  go_wp2_with fail
  refine (same_any _ av au (some ⟨w6.heap.size, 0, none⟩) (some ⟨w6.heap.size + 1, 0, none⟩) cv cu 1 3 [3] [4, 5, 6] [3] [4, 5, 6] (by decide) (by decide) (by decide) (by decide)
    (Hvv.out.below ((h56.alloc h56.size _).alloc (by have := h56.size; simp; omega) _) (Nat.le_refl _)) (Huu.out.below ((h56.alloc h56.size _).alloc (by have := h56.size; simp; omega) _) (Nat.le_refl _))
    (IntsAt.lit1 .i64 w6 _ 2 [3]) (IntsAt.lit2 .i64 w6 _ 2 [4, 5, 6])).mono ?_
  rintro e w7 ⟨he, hb⟩
  rw [show (ints [3] [3] && ints [4, 5, 6] [4, 5, 6]) = true from by decide] at he
  subst he
  have hB7 : Below w.heap.size w w7 := bAfter ((hB6.alloc hB6.size _).alloc (by have := hB6.size; simp; omega) _) (by have := hB6.size; simp; omega) hb
  clear hb
  go_wp2_with fail
  go_ret
  exact ⟨rfl, hB7⟩
end Go.Proofs.Ytbhhmfkipfedfaa
