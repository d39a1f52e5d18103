import Derived.Test.YtbhhmfkipfedfaaW10
namespace Go.Proofs.Ytbhhmfkipfedfaa
open Go.RowKit

/-- what Cell cuts out lies within the numbers -/
theorem cell_bd {n x k : Int} (h0 : 0 ≤ k) (h1 : k < x) (hn : 0 ≤ n) : 0 ≤ n / x ∧ 0 ≤ k * (n / x) ∧ k * (n / x) + n / x ≤ n ∧ n / x ≤ n := by
  have a : 0 ≤ n / x := Int.ediv_nonneg hn (by omega)
  have b : 0 ≤ k * (n / x) := Int.mul_nonneg h0 a
  have c : x * (n / x) ≤ n := Int.mul_ediv_self_le (by omega)
  have d : (k + 1) * (n / x) ≤ x * (n / x) := Int.mul_le_mul_of_nonneg_right (by omega) a
  rw [Int.add_mul] at d
  exact ⟨a, b, by omega, by omega⟩

set_option maxRecDepth 100000 in
set_option maxHeartbeats 4000000 in
theorem cell_good (w : World) (b0 off : Nat) (a1 : Option Addr) (ls c0 c1 : Nat) (x : Int) (r d : List Int) (k : Int) (hls : ls = (x :: r).length) (hc0 : ls ≤ c0) (hc1 : d.length ≤ c1)
    (h0 : IntsAt .i64 w (some ⟨b0, off, none⟩) (x :: r)) (h1 : IntsAt .i64 w a1 d) (hr : right (x :: r) d = true) (hk0 : 0 ≤ k) (hkx : k < x) :
    Calls Try.prog 19 #[.agg #[.slice (some ⟨b0, off, none⟩) ls c0, .slice a1 d.length c1], .int .i64 k] w fun e w' =>
      RetArr w.heap.size ((r, (d.drop (k * (d.length / x)).toNat).take (d.length / x : Int).toNat), 0) e w' ∧ Below w.heap.size w w' := by
  obtain ⟨_, g⟩ := right_good hr
  have hlr : ls ≤ 4 := hls ▸ g.len
  have hld : (d.length : Int) ≤ 65536 := g.le
  have hbb : ∀ o o', Below w.heap.size w ((w.alloc o).alloc o') := fun o o' => ((Below.refl _ _).alloc (Nat.le_refl _) _).alloc (by simp) _
  have hq := fun o o' => right_any ((w.alloc o).alloc o') (some ⟨b0, off, none⟩) a1 c0 c1 (x :: r) d (by rw [← hls]; unfold maxLen; omega) (h0.below (hbb o o') (Nat.le_refl _))
  rw [hr] at hq
  rw [← hls] at hq
  have hlen : 0 < ls := by rw [hls]; simp
  have hl1 : ((ls : Int) == 0) = false := by simp; omega
  have Hls := Lib.hid hls; clear hls
  have HI := Lib.hid h0; have HJ := Lib.hid h1
  have hcx : w.cell? ⟨b0, off, none⟩ = some (.int .i64 x) := by obtain ⟨b, o, e, h⟩ := h0 0 (by simp); cases e; simpa using h
  have hb0 := World.block_lt_of_cell? w _ hcx
  have hcc : ∀ o o', ((w.alloc o).alloc o').cell? ⟨b0, off, none⟩ = some (.int .i64 x) := fun o o' => (((hbb o o').cell (p := ⟨b0, off, none⟩) hb0)).trans hcx
  have Hcc := Lib.hid hcc; clear hcc hcx
  have Hq := Lib.hid hq; have Hb := Lib.hid hbb; clear hq hbb h0 h1 hr g
  obtain ⟨n0, n1, n2, n3⟩ := cell_bd hk0 hkx (by omega : (0 : Int) ≤ (d.length : Int))
  have hk0' : decide (k < 0) = false := by simp; omega
  have hx1 : 1 ≤ x := by omega
  go_enter Try.func19, Try.ntmps19
  go_wp2_with (go_at_call 12; refine (Hq.out _ _).mono ?_; rintro e w1 ⟨rfl, hb1⟩; obtain ⟨hc1, hf1⟩ := bcell hb1; have hz1 : w.heap.size + 1 < w1.heap.size := (by have := hb1.size; simp at this; omega); have hcx1 : w1.cell? ⟨b0, off, none⟩ = some (.int .i64 x) := (hb1.cell (p := ⟨b0, off, none⟩) (by simp; omega)).trans (Hcc.out _ _))
  have hB1 : Below w.heap.size w w1 := (Hb.out _ _).trans (hb1.mono (by simp; omega))
  have hS0 : w1.cell? ⟨w.heap.size, 0, none⟩ = some (.slice (some ⟨b0, off, none⟩) ls c0) := by rw [hc1 _ _ (by simp; omega)]; simp [go_sem]
  have hS1 : w1.cell? ⟨w.heap.size, 1, none⟩ = some (.slice a1 d.length c1) := by rw [hc1 _ _ (by simp; omega)]; simp [go_sem]
  have hR0 : w1.cell? ⟨w.heap.size + 1, 0, none⟩ = some (.slice none 0 0) := by rw [hc1 _ _ (by simp)]; simp [go_sem]
  have hR1 : w1.cell? ⟨w.heap.size + 1, 1, none⟩ = some (.slice none 0 0) := by rw [hc1 _ _ (by simp)]; simp [go_sem]
  have hF : ∀ o, w1.frozen? ⟨w.heap.size + 1, o, none⟩ = false := fun o => by rw [hf1 _ _ (by simp)]; simp [go_sem]
  clear hc1 hf1 hb1
  go_quiet (fail)
  go_wp2_with fail
  obtain ⟨q, hq⟩ : ∃ q, (d.length : Int) / x = q := ⟨_, rfl⟩
  rw [hq] at n0 n1 n2 n3 ⊢
  obtain ⟨ys, hys⟩ : ∃ ys, (d.drop (k * q).toNat).take q.toNat = ys := ⟨_, rfl⟩
  have hyl : ys.length = q.toNat := by rw [← hys]; simp; omega
  have hzd : ∀ W : World, Below w.heap.size w W → IntsAt .i64 W (subA (some ⟨b0, off, none⟩) c0 1) r := fun W hW => by
    have := (HI.out.below hW (Nat.le_refl _)).cut (m := c0) (l := 1) (n := r.length) (by rw [← Hls.out]; exact hc0)
    simpa using this
  have hzd2 : ∀ W : World, Below w.heap.size w W → IntsAt .i64 W (subA a1 c1 (k * q).toNat) ys := fun W hW => by rw [← hys]; exact (HJ.out.below hW (Nat.le_refl _)).cut (m := c1) hc1
  have HZ1 := Lib.hid hzd; have HZ2 := Lib.hid hzd2; have HQ2 := Lib.hid hq; have Hys := Lib.hid hys; have Hyl := Lib.hid hyl; clear hzd hzd2 hq hys hyl
  have e0 : (1 : Int) ≤ (ls : Int) := by omega
  have sl1 := fun W => slice_lo W (some ⟨b0, off, none⟩) ls c0 .i64 1 (by omega) e0
  have sl2 := fun W => slice_lh W a1 d.length c1 .i64 .i64 (k * q) (k * q + q) n1 (by omega) (by omega)
  have e1 : IntKind.i64.wrap (k * q) = k * q := IntWalk.i64_in _ (by omega)
  have e2 : IntKind.i64.wrap (k * q + q) = k * q + q := IntWalk.i64_in _ (by omega)
  refine wp_region_Z (S := fun W' => W'.cell? ⟨w.heap.size, 0, none⟩ = some (.slice (some ⟨b0, off, none⟩) ls c0) ∧ W'.cell? ⟨w.heap.size, 1, none⟩ = some (.slice a1 d.length c1)) (z := 17) (by kernel_rfl) ?_
  have hSS : (fun W' : World => W'.cell? ⟨w.heap.size, 0, none⟩ = some (.slice (some ⟨b0, off, none⟩) ls c0) ∧ W'.cell? ⟨w.heap.size, 1, none⟩ = some (.slice a1 d.length c1)) (w1.drewN nq).drew := ⟨hS0, hS1⟩
  refine wpAnyZ_take (i := 0) (v := ?_) rfl (by kernel_rfl) (by kernel_rfl) (by kernel_rfl) (fun _ _ _ h => h) (by kernel_rfl) (Or.inl ⟨by rfl, ?_⟩) (by assumption) ?_
  rotate_left
  · intro w' hSw
    try dsimp only at hSw
    go_simp
    try with_reducible rfl
  show wpAnyZ _ _ _ _ _ _ _ _ (Act.put _ (some 36) _) _
  simp only [Act.put, List.setIfInBounds_toArray, List.set_cons_zero, List.set_cons_succ]
  refine wpAnyZ_take (i := 1) (v := ?_) rfl (by kernel_rfl) (by kernel_rfl) (by kernel_rfl) (fun _ _ _ h => h) (by kernel_rfl) (Or.inl ⟨by rfl, ?_⟩) (by assumption) ?_
  rotate_left
  · intro w' hSw
    try dsimp only at hSw
    go_simp
    try with_reducible rfl
  show wpAnyZ _ _ _ _ _ _ _ _ (Act.put _ (some 37) _) _
  simp only [Act.put, List.setIfInBounds_toArray, List.set_cons_zero, List.set_cons_succ]
  refine wpAnyZ_take (i := 2) (v := ?_) rfl (by kernel_rfl) (by kernel_rfl) (by kernel_rfl) (fun _ _ _ h => h) (by kernel_rfl) (Or.inl ⟨by rfl, ?_⟩) (by assumption) ?_
  rotate_left
  · intro w' hSw
    try dsimp only at hSw
    go_simp
    try with_reducible rfl
  show wpAnyZ _ _ _ _ _ _ _ _ (Act.put _ (some 38) _) _
  simp only [Act.put, List.setIfInBounds_toArray, List.set_cons_zero, List.set_cons_succ]
  refine wpAnyZ_take (i := 4) (v := ?_) rfl (by kernel_rfl) (by kernel_rfl) (by kernel_rfl) (fun _ _ _ h => h) (by kernel_rfl) (Or.inl ⟨by rfl, ?_⟩) (by assumption) ?_
  rotate_left
  · intro w' hSw
    try dsimp only at hSw
    go_simp
    try with_reducible rfl
  show wpAnyZ _ _ _ _ _ _ _ _ (Act.put _ (some 40) _) _
  simp only [Act.put, List.setIfInBounds_toArray, List.set_cons_zero, List.set_cons_succ]
  refine wpAnyZ_take (i := 5) (v := ?_) rfl (by kernel_rfl) (by kernel_rfl) (by kernel_rfl) (fun _ _ _ h => h) (by kernel_rfl) (Or.inl ⟨by rfl, ?_⟩) (by assumption) ?_
  rotate_left
  · intro w' hSw
    try dsimp only at hSw
    go_simp
    try with_reducible rfl
  show wpAnyZ _ _ _ _ _ _ _ _ (Act.put _ (some 41) _) _
  simp only [Act.put, List.setIfInBounds_toArray, List.set_cons_zero, List.set_cons_succ]
  refine wpAnyZ_take (i := 6) (v := ?_) rfl (by kernel_rfl) (by kernel_rfl) (by kernel_rfl) (fun _ _ _ h => h) (by kernel_rfl) (Or.inl ⟨by rfl, ?_⟩) (by assumption) ?_
  rotate_left
  · intro w' hSw
    try dsimp only at hSw
    go_simp
    try with_reducible rfl
  show wpAnyZ _ _ _ _ _ _ _ _ (Act.put _ (some 42) _) _
  simp only [Act.put, List.setIfInBounds_toArray, List.set_cons_zero, List.set_cons_succ]
  refine wpAnyZ_take (i := 7) (v := ?_) rfl (by kernel_rfl) (by kernel_rfl) (by kernel_rfl) (fun _ _ _ h => h) (by kernel_rfl) (Or.inl ⟨by rfl, ?_⟩) (by assumption) ?_
  rotate_left
  · intro w' hSw
    try dsimp only at hSw
    go_simp
    try with_reducible rfl
  show wpAnyZ _ _ _ _ _ _ _ _ (Act.put _ (some 43) _) _
  simp only [Act.put, List.setIfInBounds_toArray, List.set_cons_zero, List.set_cons_succ]
  refine wpAnyZ_take (i := 8) (v := ?_) rfl (by kernel_rfl) (by kernel_rfl) (by kernel_rfl) (fun _ _ _ h => h) (by kernel_rfl) (Or.inl ⟨by rfl, ?_⟩) (by assumption) ?_
  rotate_left
  · intro w' hSw
    try dsimp only at hSw
    go_simp
    try with_reducible rfl
  show wpAnyZ _ _ _ _ _ _ _ _ (Act.put _ (some 44) _) _
  simp only [Act.put, List.setIfInBounds_toArray, List.set_cons_zero, List.set_cons_succ]
  refine wpAnyZ_take (i := 9) (v := ?_) rfl (by kernel_rfl) (by kernel_rfl) (by kernel_rfl) (fun _ _ _ h => h) (by kernel_rfl) (Or.inl ⟨by rfl, ?_⟩) (by assumption) ?_
  rotate_left
  · intro w' hSw
    try dsimp only at hSw
    go_simp
    try with_reducible rfl
  show wpAnyZ _ _ _ _ _ _ _ _ (Act.put _ (some 45) _) _
  simp only [Act.put, List.setIfInBounds_toArray, List.set_cons_zero, List.set_cons_succ]
  refine wpAnyZ_take (i := 10) (v := ?_) rfl (by kernel_rfl) (by kernel_rfl) (by kernel_rfl) (fun _ _ _ h => h) (by kernel_rfl) (Or.inl ⟨by rfl, ?_⟩) (by assumption) ?_
  rotate_left
  · intro w' hSw
    try dsimp only at hSw
    go_simp
    try with_reducible rfl
  show wpAnyZ _ _ _ _ _ _ _ _ (Act.put _ (some 46) _) _
  simp only [Act.put, List.setIfInBounds_toArray, List.set_cons_zero, List.set_cons_succ]
  refine wpAnyZ_take (i := 11) (v := ?_) rfl (by kernel_rfl) (by kernel_rfl) (by kernel_rfl) (fun _ _ _ h => h) (by kernel_rfl) (Or.inl ⟨by rfl, ?_⟩) (by assumption) ?_
  rotate_left
  · intro w' hSw
    try dsimp only at hSw
    go_simp
    try with_reducible rfl
  show wpAnyZ _ _ _ _ _ _ _ _ (Act.put _ (some 47) _) _
  simp only [Act.put, List.setIfInBounds_toArray, List.set_cons_zero, List.set_cons_succ]
  refine wpAnyZ_take (i := 12) (v := ?_) rfl (by kernel_rfl) (by kernel_rfl) (by kernel_rfl) (fun _ _ _ h => h) (by kernel_rfl) (Or.inl ⟨by rfl, ?_⟩) (by assumption) ?_
  rotate_left
  · intro w' hSw
    try dsimp only at hSw
    go_simp
    try with_reducible rfl
  show wpAnyZ _ _ _ _ _ _ _ _ (Act.put _ (some 48) _) _
  simp only [Act.put, List.setIfInBounds_toArray, List.set_cons_zero, List.set_cons_succ]
  refine wpAnyZ_take (i := 13) (v := ?_) rfl (by kernel_rfl) (by kernel_rfl) (by kernel_rfl) (fun _ _ _ h => h) (by kernel_rfl) (Or.inl ⟨by rfl, ?_⟩) (by assumption) ?_
  rotate_left
  · intro w' hSw
    try dsimp only at hSw
    go_simp
    try with_reducible rfl
  show wpAnyZ _ _ _ _ _ _ _ _ (Act.put _ (some 49) _) _
  simp only [Act.put, List.setIfInBounds_toArray, List.set_cons_zero, List.set_cons_succ]
  refine wpAnyZ_take (i := 14) (v := ?_) rfl (by kernel_rfl) (by kernel_rfl) (by kernel_rfl) (fun _ _ _ h => h) (by kernel_rfl) (Or.inl ⟨by rfl, ?_⟩) (by assumption) ?_
  rotate_left
  · intro w' hSw
    try dsimp only at hSw
    go_simp
    try with_reducible rfl
  show wpAnyZ _ _ _ _ _ _ _ _ (Act.put _ (some 50) _) _
  simp only [Act.put, List.setIfInBounds_toArray, List.set_cons_zero, List.set_cons_succ]
  refine wpAnyZ_one (i := 3) (by kernel_rfl) rfl rfl (fun K hK => ?_)
  go_simp
  refine (clone_n _ _ _ _ r (by rw [Hls.out]; simp) (by have := Hls.out; simp at this; omega) (HZ1.out _ (hB1.trans (Below.drewN _ _)).drew)).mono ?_
  rintro e w2 ⟨⟨v1, rfl, hv1⟩, hb2⟩
  obtain ⟨p1, q1, rfl, _, _⟩ := hv1.slice
  have hB2 : Below w.heap.size w w2 := ((hB1.trans (Below.drewN _ _)).drew).trans (hb2.mono (by simp; omega))
  have hbx := (Below.drewN w1 nq).drew.trans hb2
  have hS0' : w2.cell? ⟨w.heap.size, 0, none⟩ = some (.slice (some ⟨b0, off, none⟩) ls c0) := (hb2.cell (p := ⟨w.heap.size, 0, none⟩) (by simp; omega)).trans hS0
  have hS1' : w2.cell? ⟨w.heap.size, 1, none⟩ = some (.slice a1 d.length c1) := (hb2.cell (p := ⟨w.heap.size, 1, none⟩) (by simp; omega)).trans hS1
  show K _ w2
  refine hK.out _ _ (.inr ⟨hS0', hS1'⟩) ?_
  clear hK K hSS
  refine wpAnyZ_one (i := 15) (by kernel_rfl) rfl rfl (fun K hK => ?_)
  go_simp
  refine (clone_n _ _ _ _ ys (by rw [Hyl.out]; omega) (by rw [Hyl.out]; omega) (HZ2.out _ hB2)).mono ?_
  rintro e w3 ⟨⟨v2, rfl, hv2⟩, hb3⟩
  obtain ⟨p2, q2, rfl, _, _⟩ := hv2.slice
  have hB3 : Below w.heap.size w w3 := hB2.trans (hb3.mono hB2.size)
  have hz2 : w.heap.size + 1 < w2.heap.size := by have := hb2.size; simp at this; omega
  have hSS : (fun W' : World => W'.cell? ⟨w.heap.size, 0, none⟩ = some (.slice (some ⟨b0, off, none⟩) ls c0) ∧ W'.cell? ⟨w.heap.size, 1, none⟩ = some (.slice a1 d.length c1)) w3 :=
    ⟨(hb3.cell (p := ⟨w.heap.size, 0, none⟩) (by simp; omega)).trans hS0', (hb3.cell (p := ⟨w.heap.size, 1, none⟩) (by simp; omega)).trans hS1'⟩
  have hR : ∀ o, w3.cell? ⟨w.heap.size + 1, o, none⟩ = w1.cell? ⟨w.heap.size + 1, o, none⟩ := fun o => (hb3.cell (p := ⟨w.heap.size + 1, o, none⟩) (by simp; omega)).trans (hb2.cell (p := ⟨w.heap.size + 1, o, none⟩) (by simp; omega))
  have hR0' := (hR 0).trans hR0
  have hR1' := (hR 1).trans hR1
  have hF' : ∀ o, w3.frozen? ⟨w.heap.size + 1, o, none⟩ = false := fun o => ((hb3.frozen (p := ⟨w.heap.size + 1, o, none⟩) (by simp; omega)).trans (hb2.frozen (p := ⟨w.heap.size + 1, o, none⟩) (by simp; omega))).trans (hF o)
  have hv1' := hv1.below hb3
  have hap := Apart.of_rows hv1 hv2
  show K _ w3
  refine hK.out _ _ (.inr hSS) ?_
  clear hK K hR hF hR0 hR1 hS0 hS1 hS0' hS1' hbx hb2 hb3 hv1
  refine wpAnyZ_take (i := 16) (v := ?_) rfl (by kernel_rfl) (by kernel_rfl) (by kernel_rfl) (fun _ _ _ h => h) (by kernel_rfl) (Or.inl ⟨by rfl, ?_⟩) (by assumption) ?_
  rotate_left
  · intro w' hSw
    try dsimp only at hSw
    go_simp
    try with_reducible rfl
  show wpAnyZ _ _ _ _ _ _ _ _ (Act.put _ (some 52) _) _
  simp only [Act.put, List.setIfInBounds_toArray, List.set_cons_zero, List.set_cons_succ]
  refine wpAnyZ_one (i := 17) (by kernel_rfl) rfl rfl (fun K hK => ?_)
  go_simp
  refine hK.out _ _ (.inl (by omega)) ?_
  clear hK K
  refine wpAnyZ_one (i := 18) (by kernel_rfl) rfl rfl (fun K hK => ?_)
  go_simp
  refine hK.out _ _ (.inl (by omega)) ?_
  clear hK K
  refine wpAnyZ_done (by kernel_rfl) ?_ _
  go_wp2
  refine bodyPost_ret (v := .tuple #[.agg #[.slice p1 r.length q1, .slice p2 ys.length q2], .int .i64 0]) (by simp [results, Try.results19, go_sem, hR0', hR1']) rfl ⟨?_, ?_⟩
  · rw [HQ2.out, Hys.out]
    refine ⟨_, _, rfl, ?_, ?_, hap⟩
    · exact ((hv1'.setCell_lt (p := ⟨w.heap.size + 1, 0, none⟩) (by simp; omega) _).setCell_lt (p := ⟨w.heap.size + 1, 1, none⟩) (by simp; omega) _).mono (by simp; omega)
    · exact ((hv2.setCell_lt (p := ⟨w.heap.size + 1, 0, none⟩) (by simp; omega) _).setCell_lt (p := ⟨w.heap.size + 1, 1, none⟩) (by simp; omega) _).mono (by omega)
  · exact (hB3.setCell (p := ⟨w.heap.size + 1, 0, none⟩) (by simp) _).setCell (p := ⟨w.heap.size + 1, 1, none⟩) (by simp) _

theorem cell_any (w : World) (a0 a1 : Option Addr) (c0 c1 : Nat) (s d : List Int) (k : Int) (hs : s.length ≤ maxLen) (hc0 : s.length ≤ c0) (hc1 : d.length ≤ c1) (h0 : IntsAt .i64 w a0 s) (h1 : IntsAt .i64 w a1 d) :
    Calls Try.prog 19 #[.agg #[.slice a0 s.length c0, .slice a1 d.length c1], .int .i64 k] w fun e w' => RetArr w.heap.size (cell s d k) e w' ∧ Below w.heap.size w w' := by
  by_cases hb : (cell s d k).2 ≠ 0
  · exact cell_bad w a0 a1 c0 c1 s d k hs hc0 h0 hb
  · cases hr : right s d with
    | false => exact absurd (by unfold cell; rw [if_neg (by rw [hr]; simp)]; simp) hb
    | true =>
      cases s with
      | nil => exact absurd (by unfold cell; rw [if_pos hr]; simp) hb
      | cons x r =>
        by_cases hk : k < 0 ∨ x ≤ k
        · exact absurd (by unfold cell; rw [if_pos hr]; simp only []; rw [if_pos hk]; simp) hb
        · obtain ⟨b0, off, rfl, _⟩ := h0 0 (by simp)
          have e : cell (x :: r) d k = ((r, (d.drop (k * (d.length / x)).toNat).take (d.length / x : Int).toNat), 0) := by
            unfold cell; rw [if_pos hr]; simp only []; rw [if_neg hk]
          rw [e]
          exact cell_good w b0 off a1 _ c0 c1 x r d k rfl hc0 hc1 h0 h1 hr (by omega) (by omega)
end Go.Proofs.Ytbhhmfkipfedfaa
