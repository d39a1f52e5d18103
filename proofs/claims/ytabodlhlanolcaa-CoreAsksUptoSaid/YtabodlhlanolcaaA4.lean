import Derived.Test.YtabodlhlanolcaaA3
namespace Go.Proofs.Ytabodlhlanolcaa
set_option maxRecDepth 100000
open Go.RowKit
set_option linter.unusedVariables false
set_option linter.unusedSimpArgs false
attribute [local go_sem ↓] Go.wp_at_zero Go.wp_at_succ

theorem boxE {w : World} {G : Nat} {m : Mono} {t : TypeId} (h : w.heap[G]? = some (.cells m.enc.toArray t (0, 0))) {k : Nat} (hk : k < 6) : w.cell? ⟨G, 1 + k, none⟩ = some (.int .u8 (m.E.getD k 0)) := by
  rw [blockCells h]
  have hcs : k = 0 ∨ k = 1 ∨ k = 2 ∨ k = 3 ∨ k = 4 ∨ k = 5 := by omega
  rcases hcs with rfl | rfl | rfl | rfl | rfl | rfl <;> rfl
theorem E_at {m : Mono} (h : m.wf) (k : Nat) : 0 ≤ m.E.getD k 0 ∧ m.E.getD k 0 ≤ 255 := by
  rw [List.getD_eq_getElem?_getD]
  cases hc : m.E[k]? with
  | none => simp
  | some x => exact mono_E h x (List.mem_of_getElem? hc)
theorem degK_succ (m : Mono) {k : Nat} (hk : k < 6) : degK m (k + 1) = degK m k + m.E.getD k 0 := by
  have hcs : k = 0 ∨ k = 1 ∨ k = 2 ∨ k = 3 ∨ k = 4 ∨ k = 5 := by omega
  rcases hcs with rfl | rfl | rfl | rfl | rfl | rfl
  · show m.e0 = 0 + m.e0; omega
  · rfl
  · rfl
  · rfl
  · rfl
  · rfl
theorem degK_range {m : Mono} (h : m.wf) {k : Nat} (hk : k ≤ 6) : 0 ≤ degK m k ∧ degK m k ≤ 1530 := by
  have h0 := h.e0; have h1 := h.e1; have h2 := h.e2; have h3 := h.e3; have h4 := h.e4; have h5 := h.e5
  have hcs : k = 0 ∨ k = 1 ∨ k = 2 ∨ k = 3 ∨ k = 4 ∨ k = 5 ∨ k = 6 := by omega
  rcases hcs with rfl | rfl | rfl | rfl | rfl | rfl | rfl <;> simp only [degK, degF] <;> omega
theorem cmpI_drop (a b : Mono) {k : Nat} (hk : k < 6) : cmpI (a.E.drop k) (b.E.drop k) = if a.E.getD k 0 < b.E.getD k 0 then -1 else if b.E.getD k 0 < a.E.getD k 0 then 1 else cmpI (a.E.drop (k + 1)) (b.E.drop (k + 1)) := by
  have ha : a.E.drop k = a.E.getD k 0 :: a.E.drop (k + 1) := by
    rw [List.drop_eq_getElem_cons (show k < a.E.length from hk)]
    simp [List.getD_eq_getElem?_getD, List.getElem?_eq_getElem (show k < a.E.length from hk)]
  have hb : b.E.drop k = b.E.getD k 0 :: b.E.drop (k + 1) := by
    rw [List.drop_eq_getElem_cons (show k < b.E.length from hk)]
    simp [List.getD_eq_getElem?_getD, List.getElem?_eq_getElem (show k < b.E.length from hk)]
  rw [ha, hb, cmpI]

set_option maxHeartbeats 4000000 in
theorem degree_any (w : World) (m : Mono) (hm : m.wf) : Calls Try.prog 78 #[m.V] w fun e w' => e = .returned (.int .i64 (degF m)) ∧ Below w.heap.size w w' := by
  have n0 := World.alloc_heap_new w (.cells m.enc.toArray 39)
  have hbel : Below w.heap.size w (w.alloc (.cells m.enc.toArray 39)) := (Below.refl _ _).alloc (Nat.le_refl _) _
  obtain ⟨x, hx⟩ : ∃ x, w.heap.size = x := ⟨_, rfl⟩
  rw [hx] at n0
  have N0 := Lib.hid n0; have HB := Lib.hid hbel; have HM := Lib.hid hm
  clear n0 hbel hm
  unfold Mono.V
  go_enter Try.func78, Try.ntmps78
  go_upto_region 1 with fail
  refine gen_worldA (fun W => Below w.heap.size w W ∧ W.heap[x]? = some (.cells m.enc.toArray 39 (0, 0))) ⟨HB.out, N0.out⟩ ?_
  rintro W ⟨hbW, g0⟩
  have HBW := Lib.hid hbW; have G0 := Lib.hid g0
  clear hbW g0 N0 HB hx
  go_wp2_with fail
  go_loop [3, 4] (fun s i => ∃ k : Nat, k ≤ 6 ∧ i = .int .i64 k ∧ s = .int .i64 (degK m k)) (fun _ i => 6 - (intOf i).toNat)
  case atStart => exact ⟨0, by omega, rfl, rfl⟩
  case round =>
    obtain ⟨k, hk, rfl, rfl⟩ := hrel
    obtain ⟨hd0, hd1⟩ := degK_range HM.out hk
    have hz0 : (0 : Int) ≤ (k : Int) := by omega
    by_cases hlt : k < 6
    · have hc := boxE G0.out hlt
      obtain ⟨hv0, hv1⟩ := E_at HM.out k
      have HS := Lib.hid (degK_succ m hlt)
      generalize m.E.getD k 0 = v at hc hv0 hv1 HS
      have hz1 : (k : Int) < 6 := by omega
      go_wp2_with fail
      go_round
      case rel => exact ⟨k + 1, by omega, by go_num, by rw [HS.out]⟩
      case measure => simp [intOf]; omega
    · obtain rfl : k = 6 := by omega
      have hE : degK m 6 = degF m := rfl
      simp only [hE, Int.cast_ofNat_Int] at *
      go_wp2_with fail
      go_ret
      exact ⟨rfl, HBW.out⟩

set_option maxHeartbeats 4000000 in
theorem above_any (w : World) (a b : Mono) (ha : a.wf) (hb : b.wf) : Calls Try.prog 79 #[a.V, b.V] w fun e w' => e = .returned (.int .i64 (cmpI a.E b.E)) ∧ Below w.heap.size w w' := by
  have n0 := oldBlock (World.alloc_heap_new w (.cells a.enc.toArray 39)) (.cells b.enc.toArray 39)
  have n1 := World.alloc_heap_new (w.alloc (.cells a.enc.toArray 39)) (.cells b.enc.toArray 39)
  have hbel : Below w.heap.size w ((w.alloc (.cells a.enc.toArray 39)).alloc (.cells b.enc.toArray 39)) := ((Below.refl _ _).alloc (Nat.le_refl _) _).alloc (by simp) _
  rw [show (w.alloc (.cells a.enc.toArray 39)).heap.size = w.heap.size + 1 from by simp] at n1
  obtain ⟨x, hx⟩ : ∃ x, w.heap.size = x := ⟨_, rfl⟩
  rw [hx] at n0 n1
  have N0 := Lib.hid n0; have N1 := Lib.hid n1; have HB := Lib.hid hbel; have HA := Lib.hid ha; have HBB := Lib.hid hb
  clear n0 n1 hbel ha hb
  unfold Mono.V
  go_enter Try.func79, Try.ntmps79
  go_upto_region 1 with fail
  refine gen_worldA (fun W => Below w.heap.size w W ∧ W.heap[x]? = some (.cells a.enc.toArray 39 (0, 0)) ∧ W.heap[x + 1]? = some (.cells b.enc.toArray 39 (0, 0))) ⟨HB.out, N0.out, N1.out⟩ ?_
  rintro W ⟨hbW, g0, g1⟩
  have HBW := Lib.hid hbW; have G0 := Lib.hid g0; have G1 := Lib.hid g1
  clear hbW g0 g1 N0 N1 HB hx
  go_wp2_with fail
  go_loopw [5] (fun i wr => ∃ k n : Nat, k ≤ 6 ∧ i = .int .i64 k ∧ cmpI a.E b.E = cmpI (a.E.drop k) (b.E.drop k) ∧ wr = W.drewN n) (fun i _ => 6 - (intOf i).toNat)
  case atStart => exact ⟨0, 0, by omega, rfl, rfl, rfl⟩
  case round =>
    obtain ⟨k, n, hk, rfl, he, rfl⟩ := hrel
    have hz0 : (0 : Int) ≤ (k : Int) := by omega
    by_cases hlt : k < 6
    · rw [cmpI_drop a b hlt] at he
      have hc := boxE G0.out hlt
      have hd := boxE G1.out hlt
      generalize a.E.getD k 0 = u at hc he
      generalize b.E.getD k 0 = v at hd he
      have hz1 : (k : Int) < 6 := by omega
      by_cases h1 : u < v
      · have HE := Lib.hid (he.trans (if_pos h1)); clear he
        have h1' : decide (v < u) = false := by simp; omega
        go_wp2_with fail
        go_quiet (fail)
        go_wp2_with fail
        go_quiet (fail)
        go_wp2_with fail
        go_ret
        exact ⟨ret_int HE.out.symm, ((HBW.out.trans (Below.drewN _ _)).trans (Below.drewN _ _)).trans (Below.drewN _ _)⟩
      · by_cases h2 : v < u
        · have HE := Lib.hid (he.trans ((if_neg h1).trans (if_pos h2))); clear he
          go_wp2_with fail
          go_quiet (fail)
          go_wp2_with fail
          go_ret
          exact ⟨ret_int HE.out.symm, (HBW.out.trans (Below.drewN _ _)).trans (Below.drewN _ _)⟩
        · have HE := Lib.hid (he.trans ((if_neg h1).trans (if_neg h2))); clear he
          have h1' : decide (u < v) = false := by simpa using h1
          have h2' : decide (v < u) = false := by simpa using h2
          go_wp2_with fail
          go_quiet (fail)
          go_wp2_with fail
          go_quiet (fail)
          go_wp2_with fail
          go_roundw
          case rel => exact ⟨k + 1, _, by omega, by go_num, HE.out, rfl⟩
          case measure => simp [intOf]; omega
    · obtain rfl : k = 6 := by omega
      have HE := Lib.hid he; clear he
      simp only [Int.cast_ofNat_Int] at *
      go_wp2_with fail
      go_ret
      exact ⟨ret_int (by rw [HE.out]; rfl), HBW.out.trans (Below.drewN _ _)⟩
end Go.Proofs.Ytabodlhlanolcaa
