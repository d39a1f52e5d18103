import Derived.Test.YtabodlhlanolcaaA1
import Derived.Test.YtabodlhlanolcaaQB
namespace Go.Proofs.Ytabodlhlanolcaa
set_option maxRecDepth 100000
open Go.RowKit
set_option linter.unusedVariables false
set_option linter.unusedSimpArgs false
attribute [local go_sem ↓] Go.wp_at_zero Go.wp_at_succ

theorem ix0 (a b c d e f : Value) (W : World) : (Instr.index 37 (.agg #[a, b, c, d, e, f]) (.int .i64 0)).run Try.prog W = .ok a W := by kernel_rfl
theorem ix1 (a b c d e f : Value) (W : World) : (Instr.index 37 (.agg #[a, b, c, d, e, f]) (.int .i64 1)).run Try.prog W = .ok b W := by kernel_rfl
theorem ix2 (a b c d e f : Value) (W : World) : (Instr.index 37 (.agg #[a, b, c, d, e, f]) (.int .i64 2)).run Try.prog W = .ok c W := by kernel_rfl
theorem ix3 (a b c d e f : Value) (W : World) : (Instr.index 37 (.agg #[a, b, c, d, e, f]) (.int .i64 3)).run Try.prog W = .ok d W := by kernel_rfl
theorem ix4 (a b c d e f : Value) (W : World) : (Instr.index 37 (.agg #[a, b, c, d, e, f]) (.int .i64 4)).run Try.prog W = .ok e W := by kernel_rfl
theorem ix5 (a b c d e f : Value) (W : World) : (Instr.index 37 (.agg #[a, b, c, d, e, f]) (.int .i64 5)).run Try.prog W = .ok f W := by kernel_rfl
attribute [local go_sem] ix0 ix1 ix2 ix3 ix4 ix5

set_option maxHeartbeats 4000000 in
theorem small_any (w : World) (m : Mono) (hm : m.wf) : Calls Try.prog 75 #[m.V] w fun e w' => e = .returned (.bool (smallB m)) ∧ Below w.heap.size w w' := by
  obtain ⟨n, e0, e1, e2, e3, e4, e5⟩ := m
  obtain ⟨hn, h0, h1, h2, h3, h4, h5⟩ := hm
  dsimp only at hn h0 h1 h2 h3 h4 h5
  obtain ⟨h00, h01⟩ := h0; obtain ⟨h10, h11⟩ := h1; obtain ⟨h20, h21⟩ := h2; obtain ⟨h30, h31⟩ := h3; obtain ⟨h40, h41⟩ := h4; obtain ⟨h50, h51⟩ := h5
  unfold Mono.V
  dsimp only
  go_enter Try.func75, Try.ntmps75
  go_wp2
  go_loop [3, 5, 8] (fun s u i => ∃ k : Nat, k ≤ 6 ∧ i = .int .i64 k ∧ s = .int .i64 (degK ⟨n, e0, e1, e2, e3, e4, e5⟩ k)) (fun _ _ i => 6 - (intOf i).toNat)
  case atStart => exact ⟨0, by omega, rfl, rfl⟩
  case round =>
    obtain ⟨k, hk, rfl, rfl⟩ := hrel
    have hcs : k = 0 ∨ k = 1 ∨ k = 2 ∨ k = 3 ∨ k = 4 ∨ k = 5 ∨ k = 6 := by omega
    rcases hcs with rfl | rfl | rfl | rfl | rfl | rfl | rfl
    · simp only [degK, Int.cast_ofNat_Int]
      go_wp2
      go_round
      case rel => exact ⟨1, by omega, rfl, by simp⟩
      case measure => simp [intOf]
    · simp only [degK, Int.cast_ofNat_Int]
      go_wp2
      go_round
      case rel => exact ⟨2, by omega, rfl, rfl⟩
      case measure => simp [intOf]
    · simp only [degK, Int.cast_ofNat_Int]
      go_wp2
      go_round
      case rel => exact ⟨3, by omega, rfl, rfl⟩
      case measure => simp [intOf]
    · simp only [degK, Int.cast_ofNat_Int]
      go_wp2
      go_round
      case rel => exact ⟨4, by omega, rfl, rfl⟩
      case measure => simp [intOf]
    · simp only [degK, Int.cast_ofNat_Int]
      go_wp2
      go_round
      case rel => exact ⟨5, by omega, rfl, rfl⟩
      case measure => simp [intOf]
    · simp only [degK, Int.cast_ofNat_Int]
      go_wp2
      go_round
      case rel => exact ⟨6, by omega, rfl, rfl⟩
      case measure => simp [intOf]
    · have hd : degK ⟨n, e0, e1, e2, e3, e4, e5⟩ 6 = degF ⟨n, e0, e1, e2, e3, e4, e5⟩ := rfl
      rw [hd]
      obtain ⟨d, hdd⟩ : ∃ d, degF ⟨n, e0, e1, e2, e3, e4, e5⟩ = d := ⟨_, rfl⟩
      have hs : smallB ⟨n, e0, e1, e2, e3, e4, e5⟩ = (n != 0 && decide (n ≤ 16777216) && decide (-16777216 ≤ n) && decide (d ≤ 8)) := by unfold smallB; rw [hdd]
      rw [hdd]
      have HS := Lib.hid hs
      clear hs hd hdd
      simp only [Int.cast_ofNat_Int]
      by_cases g0 : n = 0
      · subst g0
        go_wp2
        go_ret
        exact ⟨ret_bool (by rw [HS.out]; simp), (Below.refl _ _).alloc (Nat.le_refl _) _⟩
      · have g0' : (n == 0) = false := by simpa using g0
        by_cases g1 : n ≤ 16777216
        · by_cases g2 : -16777216 ≤ n
          · by_cases g3 : d ≤ 8
            · go_wp2
              go_ret
              exact ⟨ret_bool (by rw [HS.out]; simp [g0, g1, g2, g3]), (Below.refl _ _).alloc (Nat.le_refl _) _⟩
            · have g3' : decide (d ≤ 8) = false := by simpa using g3
              go_wp2
              go_ret
              exact ⟨ret_bool (by rw [HS.out, g3']; simp), (Below.refl _ _).alloc (Nat.le_refl _) _⟩
          · have g2' : decide (-16777216 ≤ n) = false := by simpa using g2
            go_wp2
            go_ret
            exact ⟨ret_bool (by rw [HS.out, g2']; simp), (Below.refl _ _).alloc (Nat.le_refl _) _⟩
        · have g1' : decide (n ≤ 16777216) = false := by simpa using g1
          go_wp2
          go_ret
          exact ⟨ret_bool (by rw [HS.out, g1']; simp), (Below.refl _ _).alloc (Nat.le_refl _) _⟩

theorem gen_worldA {P : Program} {c : Code} {Q : Exit → Act → World → Prop} {a : Act} {w0 : World} (F : World → Prop) (h0 : F w0) (h : ∀ W, F W → c.wp P Q a W) : c.wp P Q a w0 := h w0 h0
theorem blockCells {w : World} {G : Nat} {cs : List Value} {t : TypeId} (h : w.heap[G]? = some (.cells cs.toArray t (0, 0))) (j : Nat) : w.cell? ⟨G, j, none⟩ = cs[j]? := by
  rw [cell_of_row w G j _ _ _ h]
  simp
theorem keepBlock {w w' : World} {G : Nat} {o : Obj} (h : w.heap[G]? = some o) (hb : Below w.heap.size w w') : w'.heap[G]? = some o := (hb.block G (Array.getElem?_eq_some_iff.1 h).1).trans h
theorem oldBlock {w : World} {G : Nat} {o : Obj} (h : w.heap[G]? = some o) (o' : Obj) : (w.alloc o').heap[G]? = some o := (Below.heap_alloc _ _ _ (Array.getElem?_eq_some_iff.1 h).1).trans h
theorem order_any (w : World) (a b : Mono) (ha : a.wf) (hb : b.wf) : Calls Try.prog 76 #[a.V, b.V] w fun e w' => e = .returned (.int .i64 (cmpI b.E a.E)) ∧ Below w.heap.size w w' := by
  have n0 := oldBlock (World.alloc_heap_new w (.cells a.enc.toArray 39)) (.cells b.enc.toArray 39)
  have n1 := World.alloc_heap_new (w.alloc (.cells a.enc.toArray 39)) (.cells b.enc.toArray 39)
  have hbel : Below w.heap.size w ((w.alloc (.cells a.enc.toArray 39)).alloc (.cells b.enc.toArray 39)) := ((Below.refl _ _).alloc (Nat.le_refl _) _).alloc (by simp) _
  rw [show (w.alloc (.cells a.enc.toArray 39)).heap.size = w.heap.size + 1 from by simp] at n1
  obtain ⟨x, hx⟩ : ∃ x, w.heap.size = x := ⟨_, rfl⟩
  rw [hx] at n0 n1
  have N0 := Lib.hid n0; have N1 := Lib.hid n1; have HB := Lib.hid hbel; have HA := Lib.hid (mono_E ha); have HBB := Lib.hid (mono_E hb)
  clear n0 n1 hbel ha hb
  unfold Mono.V
  go_enter Try.func76, Try.ntmps76
  go_upto_region 1 with fail
  refine gen_worldA (fun W => Below w.heap.size w W ∧ W.heap[x]? = some (.cells a.enc.toArray 39 (0, 0)) ∧ W.heap[x + 1]? = some (.cells b.enc.toArray 39 (0, 0))) ⟨HB.out, N0.out, N1.out⟩ ?_
  rintro W ⟨hbW, g0, g1⟩
  have hq : ∀ p : BelowW W, Calls Try.prog 87 #[.slice (some ⟨x + 1, 1, none⟩) 6 6, .slice (some ⟨x, 1, none⟩) 6 6] p.world fun e w' => e = .returned (.int .i64 (cmpI b.E a.E)) ∧ Below p.world.heap.size p.world w' := fun p => by
    have k0 := keepBlock g0 p.below
    have k1 := keepBlock g1 p.below
    refine (compare_any p.world (x + 1) 1 6 6 x 1 6 6 b.E a.E rfl rfl (fun j y hj => ?_) (fun j y hj => ?_) HBB.out HA.out).mono ?_
    · rw [blockCells k1]
      have : b.enc[1 + j]? = (b.E.map (Value.int .u8))[j]? := by rw [Nat.add_comm]; rfl
      rw [this, List.getElem?_map, hj]; rfl
    · rw [blockCells k0]
      have : a.enc[1 + j]? = (a.E.map (Value.int .u8))[j]? := by rw [Nat.add_comm]; rfl
      rw [this, List.getElem?_map, hj]; rfl
    · rintro e w' ⟨rfl, k, rfl⟩
      exact ⟨rfl, Below.drewN _ _⟩
  have HQ := Lib.hid hq; have HBW := Lib.hid hbW
  have x0 := blockCells g0 1; have x1 := blockCells g1 1
  have y0 : W.cell? ⟨x, 1, none⟩ = some (.int .u8 a.e0) := x0
  have y1 : W.cell? ⟨x + 1, 1, none⟩ = some (.int .u8 b.e0) := x1
  have f0 := cellBW y0; have f1 := cellBW y1
  clear hq hbW g0 g1 N0 N1 HB hx x0 x1 y0 y1
  refine wp_region_below (by kernel_rfl) (by kernel_rfl) ?_
  repeat (go_big_quiet_step (refine callsBW (HQ.out _)))
  refine wpQuiet_nil ?_
  rintro _ ⟨⟨wq, hwq⟩, rfl⟩
  clear f0 f1
  go_wp2_with fail
  go_ret
  exact ⟨rfl, bNext hwq HBW.out⟩
end Go.Proofs.Ytabodlhlanolcaa
