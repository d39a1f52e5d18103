import Derived.Test.YtmlfeocdcjhhaaaPG1
import Derived.Test.YtmlfeocdcjhhaaaPG2
namespace Go.Proofs.Ytmlfeocdcjhhaaa
set_option linter.unusedVariables false
set_option linter.unusedSimpArgs false
set_option maxRecDepth 100000
open Go.RowKit

/-! A region that draws its order, that only reads what w has, and whose callees make memory and turn nothing of w's: walked once. -/
theorem keepCell {W w1 : World} {p : Addr} {v : Value} (hb : Below W.heap.size W w1) (h : W.cell? p = some v) : w1.cell? p = some v := (hb.cell (World.block_lt_of_cell? W _ h)).trans h

structure BelowW (w : World) where
  world : World
  below : Below w.heap.size w world
instance belowWInhabited (w : World) : Inhabited (BelowW w) := ⟨⟨w, Below.refl _ _⟩⟩
theorem wp_region_below {P : Program} {id : Nat} {Q : Exit → Act → World → Prop} {a : Act} {w : World} {l : List Oper} (hm : P.follows .mixedOrders = true) (hB : Region.lexB .any l.toArray = true)
    (h : wpQuiet P l.toArray (fun w' => ∃ p : BelowW w, w' = p.world) (fun a' => ∀ w', (∃ p : BelowW w, w' = p.world) → Q .normal a' w') l a) : (Code.region id l.toArray true).wp P Q a w :=
  wp_region_quiet (C := fun w' => ∃ p : BelowW w, w' = p.world) hm hB ⟨⟨w.drew, (Below.refl _ _).drew⟩, rfl⟩ (by simpa using h)
theorem cellBW {w : World} {a : Addr} {v : Value} (h : w.cell? a = some v) (p : BelowW w) : p.world.cell? a = some v := keepCell p.below h
theorem callsBW {P : Program} {f : FuncId} {args : Array Value} {w : World} {v : Value} {p : BelowW w}
    (h : Calls P f args p.world fun e w' => e = .returned v ∧ Below p.world.heap.size p.world w') : Calls P f args p.world fun e w'' => e = .returned v ∧ ∃ q : BelowW w, w'' = q.world :=
  h.mono fun _ w' ⟨he, hq⟩ => ⟨he, ⟨w', bNext hq p.below⟩, rfl⟩
end Go.Proofs.Ytmlfeocdcjhhaaa

namespace Go.Proofs.Ytmlfeocdcjhhaaa
set_option maxRecDepth 100000
open Go.RowKit
set_option linter.unusedVariables false
set_option linter.unusedSimpArgs false
attribute [local go_sem ↓] Go.wp_at_zero Go.wp_at_succ

theorem ix0 (a b c d e f : Value) (W : World) : (Instr.index 45 (.agg #[a, b, c, d, e, f]) (.int .i64 0)).run Try.prog W = .ok a W := by kernel_rfl
theorem ix1 (a b c d e f : Value) (W : World) : (Instr.index 45 (.agg #[a, b, c, d, e, f]) (.int .i64 1)).run Try.prog W = .ok b W := by kernel_rfl
theorem ix2 (a b c d e f : Value) (W : World) : (Instr.index 45 (.agg #[a, b, c, d, e, f]) (.int .i64 2)).run Try.prog W = .ok c W := by kernel_rfl
theorem ix3 (a b c d e f : Value) (W : World) : (Instr.index 45 (.agg #[a, b, c, d, e, f]) (.int .i64 3)).run Try.prog W = .ok d W := by kernel_rfl
theorem ix4 (a b c d e f : Value) (W : World) : (Instr.index 45 (.agg #[a, b, c, d, e, f]) (.int .i64 4)).run Try.prog W = .ok e W := by kernel_rfl
theorem ix5 (a b c d e f : Value) (W : World) : (Instr.index 45 (.agg #[a, b, c, d, e, f]) (.int .i64 5)).run Try.prog W = .ok f W := by kernel_rfl
attribute [local go_sem] ix0 ix1 ix2 ix3 ix4 ix5

set_option maxHeartbeats 4000000 in
theorem small_any (w : World) (m : Mono) (hm : m.wf) : Calls Try.prog 50 #[m.V] w fun e w' => e = .returned (.bool (smallB m)) ∧ Below w.heap.size w w' := by
  obtain ⟨n, e0, e1, e2, e3, e4, e5⟩ := m
  obtain ⟨hn, h0, h1, h2, h3, h4, h5⟩ := hm
  dsimp only at hn h0 h1 h2 h3 h4 h5
  obtain ⟨h00, h01⟩ := h0; obtain ⟨h10, h11⟩ := h1; obtain ⟨h20, h21⟩ := h2; obtain ⟨h30, h31⟩ := h3; obtain ⟨h40, h41⟩ := h4; obtain ⟨h50, h51⟩ := h5
  unfold Mono.V
  dsimp only
  go_enter Try.func50, Try.ntmps50
  go_wp2
  go_loop [3, 5, 8] (fun s u i => ∃ k : Nat, k ≤ 6 ∧ i = .int .i64 k ∧ s = .int .i64 (degK ⟨n, e0, e1, e2, e3, e4, e5⟩ k)) (fun _ _ i => 6 - (intOf i).toNat)
  case atStart => exact ⟨0, by omega, rfl, rfl⟩
  case round =>
    obtain ⟨k, hk, rfl, rfl⟩ := hrel
    have hcs : k = 0 ∨ k = 1 ∨ k = 2 ∨ k = 3 ∨ k = 4 ∨ k = 5 ∨ k = 6 := by omega
    rcases hcs with rfl | rfl | rfl | rfl | rfl | rfl | rfl
    · simp only [degK, Int.cast_ofNat_Int]
      go_wp2
      go_round
      case rel => exact ⟨1, by omega, rfl, by simp⟩
      case measure => simp [intOf]
    · simp only [degK, Int.cast_ofNat_Int]
      go_wp2
      go_round
      case rel => exact ⟨2, by omega, rfl, rfl⟩
      case measure => simp [intOf]
    · simp only [degK, Int.cast_ofNat_Int]
      go_wp2
      go_round
      case rel => exact ⟨3, by omega, rfl, rfl⟩
      case measure => simp [intOf]
    · simp only [degK, Int.cast_ofNat_Int]
      go_wp2
      go_round
      case rel => exact ⟨4, by omega, rfl, rfl⟩
      case measure => simp [intOf]
    · simp only [degK, Int.cast_ofNat_Int]
      go_wp2
      go_round
      case rel => exact ⟨5, by omega, rfl, rfl⟩
      case measure => simp [intOf]
    · simp only [degK, Int.cast_ofNat_Int]
      go_wp2
      go_round
      case rel => exact ⟨6, by omega, rfl, rfl⟩
      case measure => simp [intOf]
    · have hd : degK ⟨n, e0, e1, e2, e3, e4, e5⟩ 6 = degF ⟨n, e0, e1, e2, e3, e4, e5⟩ := rfl
      rw [hd]
      obtain ⟨d, hdd⟩ : ∃ d, degF ⟨n, e0, e1, e2, e3, e4, e5⟩ = d := ⟨_, rfl⟩
      have hs : smallB ⟨n, e0, e1, e2, e3, e4, e5⟩ = (n != 0 && decide (n ≤ 16777216) && decide (-16777216 ≤ n) && decide (d ≤ 8)) := by unfold smallB; rw [hdd]
      rw [hdd]
      have HS := Lib.hid hs
      clear hs hd hdd
      simp only [Int.cast_ofNat_Int]
      by_cases g0 : n = 0
      · subst g0
        go_wp2
        go_ret
        exact ⟨ret_bool (by rw [HS.out]; simp), (Below.refl _ _).alloc (Nat.le_refl _) _⟩
      · have g0' : (n == 0) = false := by simpa using g0
        by_cases g1 : n ≤ 16777216
        · by_cases g2 : -16777216 ≤ n
          · by_cases g3 : d ≤ 8
            · go_wp2
              go_ret
              exact ⟨ret_bool (by rw [HS.out]; simp [g0, g1, g2, g3]), (Below.refl _ _).alloc (Nat.le_refl _) _⟩
            · have g3' : decide (d ≤ 8) = false := by simpa using g3
              go_wp2
              go_ret
              exact ⟨ret_bool (by rw [HS.out, g3']; simp), (Below.refl _ _).alloc (Nat.le_refl _) _⟩
          · have g2' : decide (-16777216 ≤ n) = false := by simpa using g2
            go_wp2
            go_ret
            exact ⟨ret_bool (by rw [HS.out, g2']; simp), (Below.refl _ _).alloc (Nat.le_refl _) _⟩
        · have g1' : decide (n ≤ 16777216) = false := by simpa using g1
          go_wp2
          go_ret
          exact ⟨ret_bool (by rw [HS.out, g1']; simp), (Below.refl _ _).alloc (Nat.le_refl _) _⟩

theorem gen_worldA {P : Program} {c : Code} {Q : Exit → Act → World → Prop} {a : Act} {w0 : World} (F : World → Prop) (h0 : F w0) (h : ∀ W, F W → c.wp P Q a W) : c.wp P Q a w0 := h w0 h0
theorem blockCells {w : World} {G : Nat} {cs : List Value} {t : TypeId} (h : w.heap[G]? = some (.cells cs.toArray t (0, 0))) (j : Nat) : w.cell? ⟨G, j, none⟩ = cs[j]? := by
  rw [cell_of_row w G j _ _ _ h]
  simp
theorem keepBlock {w w' : World} {G : Nat} {o : Obj} (h : w.heap[G]? = some o) (hb : Below w.heap.size w w') : w'.heap[G]? = some o := (hb.block G (Array.getElem?_eq_some_iff.1 h).1).trans h
theorem oldBlock {w : World} {G : Nat} {o : Obj} (h : w.heap[G]? = some o) (o' : Obj) : (w.alloc o').heap[G]? = some o := (Below.heap_alloc _ _ _ (Array.getElem?_eq_some_iff.1 h).1).trans h
theorem order_any (w : World) (a b : Mono) (ha : a.wf) (hb : b.wf) : Calls Try.prog 51 #[a.V, b.V] w fun e w' => e = .returned (.int .i64 (cmpI b.E a.E)) ∧ Below w.heap.size w w' := by
  have n0 := oldBlock (World.alloc_heap_new w (.cells a.enc.toArray 47)) (.cells b.enc.toArray 47)
  have n1 := World.alloc_heap_new (w.alloc (.cells a.enc.toArray 47)) (.cells b.enc.toArray 47)
  have hbel : Below w.heap.size w ((w.alloc (.cells a.enc.toArray 47)).alloc (.cells b.enc.toArray 47)) := ((Below.refl _ _).alloc (Nat.le_refl _) _).alloc (by simp) _
  rw [show (w.alloc (.cells a.enc.toArray 47)).heap.size = w.heap.size + 1 from by simp] at n1
  obtain ⟨x, hx⟩ : ∃ x, w.heap.size = x := ⟨_, rfl⟩
  rw [hx] at n0 n1
  have N0 := Lib.hid n0; have N1 := Lib.hid n1; have HB := Lib.hid hbel; have HA := Lib.hid (mono_E ha); have HBB := Lib.hid (mono_E hb)
  clear n0 n1 hbel ha hb
  unfold Mono.V
  go_enter Try.func51, Try.ntmps51
  go_upto_region 1 with fail
  refine gen_worldA (fun W => Below w.heap.size w W ∧ W.heap[x]? = some (.cells a.enc.toArray 47 (0, 0)) ∧ W.heap[x + 1]? = some (.cells b.enc.toArray 47 (0, 0))) ⟨HB.out, N0.out, N1.out⟩ ?_
  rintro W ⟨hbW, g0, g1⟩
  have hq : ∀ p : BelowW W, Calls Try.prog 90 #[.slice (some ⟨x + 1, 1, none⟩) 6 6, .slice (some ⟨x, 1, none⟩) 6 6] p.world fun e w' => e = .returned (.int .i64 (cmpI b.E a.E)) ∧ Below p.world.heap.size p.world w' := fun p => by
    have k0 := keepBlock g0 p.below
    have k1 := keepBlock g1 p.below
    refine (compare_any p.world (x + 1) 1 6 6 x 1 6 6 b.E a.E rfl rfl (fun j y hj => ?_) (fun j y hj => ?_) HBB.out HA.out).mono ?_
    · rw [blockCells k1]
      have : b.enc[1 + j]? = (b.E.map (Value.int .u8))[j]? := by rw [Nat.add_comm]; rfl
      rw [this, List.getElem?_map, hj]; rfl
    · rw [blockCells k0]
      have : a.enc[1 + j]? = (a.E.map (Value.int .u8))[j]? := by rw [Nat.add_comm]; rfl
      rw [this, List.getElem?_map, hj]; rfl
    · rintro e w' ⟨rfl, k, rfl⟩
      exact ⟨rfl, Below.drewN _ _⟩
  have HQ := Lib.hid hq; have HBW := Lib.hid hbW
  have x0 := blockCells g0 1; have x1 := blockCells g1 1
  have y0 : W.cell? ⟨x, 1, none⟩ = some (.int .u8 a.e0) := x0
  have y1 : W.cell? ⟨x + 1, 1, none⟩ = some (.int .u8 b.e0) := x1
  have f0 := cellBW y0; have f1 := cellBW y1
  clear hq hbW g0 g1 N0 N1 HB hx x0 x1 y0 y1
  refine wp_region_below (by kernel_rfl) (by kernel_rfl) ?_
  repeat (go_big_quiet_step (refine callsBW (HQ.out _)))
  refine wpQuiet_nil ?_
  rintro _ ⟨⟨wq, hwq⟩, rfl⟩
  clear f0 f1
  go_wp2_with fail
  go_ret
  exact ⟨rfl, bNext hwq HBW.out⟩
end Go.Proofs.Ytmlfeocdcjhhaaa

namespace Go.Proofs.Ytmlfeocdcjhhaaa
set_option maxRecDepth 100000
open Go.RowKit
set_option linter.unusedVariables false
set_option linter.unusedSimpArgs false
attribute [local go_sem ↓] Go.wp_at_zero Go.wp_at_succ

def zeroM : Mono := ⟨0, 0, 0, 0, 0, 0, 0⟩
def fineAt (p : List Mono) (k : Nat) : Bool := smallB (p.getD k zeroM) && (k == 0 || decide (cmpI (p.getD k zeroM).E (p.getD (k - 1) zeroM).E < 0))
/-- a polynomial? -/
def polyB (p : List Mono) : Bool := decide (p.length ≤ 48) && (List.range p.length).all (fineAt p)
theorem polyB_big {p : List Mono} (h : 48 < p.length) : polyB p = false := by unfold polyB; rw [decide_eq_false (by omega)]; rfl
theorem polyB_bad {p : List Mono} {k : Nat} (hk : k < p.length) (h : fineAt p k = false) : polyB p = false := by
  unfold polyB
  rw [show (List.range p.length).all (fineAt p) = false from List.all_eq_false.2 ⟨k, List.mem_range.2 hk, by simp [h]⟩, Bool.and_false]
theorem polyB_good {p : List Mono} (hl : p.length ≤ 48) (h : ∀ k, k < p.length → fineAt p k = true) : polyB p = true := by
  unfold polyB
  rw [decide_eq_true hl, show (List.range p.length).all (fineAt p) = true from List.all_eq_true.2 fun k hk => h k (List.mem_range.1 hk)]
  rfl
theorem getD_at {p : List Mono} {k : Nat} (h : k < p.length) : p.getD k zeroM = p[k] := by simp [List.getD_eq_getElem?_getD, List.getElem?_eq_getElem h]

set_option maxHeartbeats 8000000 in
theorem right_any (w : World) (a : Option Addr) (c : Nat) (p : List Mono) (h : monoRep.Els w a p) (hm : p.length ≤ 9223372036854775807) :
    Calls Try.prog 24 #[.slice a p.length c] w fun e w' => e = .returned (.bool (polyB p)) ∧ Below w.heap.size w w' := by
  by_cases hbig : 48 < p.length
  · have t0 : decide ((48 : Int) < (p.length : Int)) = true := by simp; omega
    have HG := Lib.hid (polyB_big hbig)
    clear h
    go_enter Try.func24, Try.ntmps24
    go_wp2_with fail
    go_ret
    exact ⟨ret_bool HG.out.symm, Below.refl _ _⟩
  have t0 : decide ((48 : Int) < (p.length : Int)) = false := by simp; omega
  have hb48 : p.length ≤ 48 := by omega
  have HE := Lib.hid h; have HW := Lib.hid (wf_mono h)
  clear h hbig
  go_enter Try.func24, Try.ntmps24
  go_wp2_with fail
  clear t0
  go_loopw [10] (fun i wr => ∃ k : Nat, k ≤ p.length ∧ i = .int .i64 k ∧ (∀ j, j < k → fineAt p j = true) ∧ Below w.heap.size w wr) (fun i _ => p.length - (intOf i).toNat)
  case atStart => exact ⟨0, Nat.zero_le _, rfl, fun j h => absurd h (Nat.not_lt_zero j), Below.refl _ _⟩
  case round =>
    obtain ⟨k, hk, rfl, hall, hB⟩ := hrel
    have HALL := Lib.hid hall; have HB := Lib.hid hB
    clear hall hB
    by_cases hlt : k < p.length
    · obtain ⟨b, off, rfl, hw, x0, x1, x2, x3, x4, x5, x6⟩ := els_mono (HE.out.below monoRep HB.out (Nat.le_refl _)) hlt
      have hz0 : (0 : Int) ≤ (k : Int) := by omega
      have hz1 : (k : Int) < (p.length : Int) := by omega
      go_upto_region 6 with fail
      have hfine : fineAt p k = (smallB p[k] && (k == 0 || decide (cmpI p[k].E (p.getD (k - 1) zeroM).E < 0))) := by unfold fineAt; rw [getD_at hlt]
      have hn0 := World.alloc_heap_new wr (.cells p[k].enc.toArray 47)
      obtain ⟨z, hz⟩ : ∃ z, wr.heap.size = z := ⟨_, rfl⟩
      have hbw : Below w.heap.size w (wr.alloc (.cells p[k].enc.toArray 47)) := HB.out.alloc HB.out.size _
      have hkw := (Below.refl wr.heap.size wr).alloc (Nat.le_refl _) (.cells p[k].enc.toArray 47)
      obtain ⟨m, hmk⟩ : ∃ m, p[k] = m := ⟨_, rfl⟩
      rw [hmk] at hw hn0 hbw hfine hkw ⊢
      rw [hz] at hn0 ⊢
      refine gen_worldA (fun W => Below w.heap.size w W ∧ W.heap[z]? = some (.cells m.enc.toArray 47 (0, 0))) ⟨hbw, hn0⟩ ?_
      have HWM := Lib.hid hw
      clear hn0 hbw hkw x0 x1 x2 x3 x4 x5 x6 hz HB
      rintro W ⟨hbW, g0⟩
      have HBW := Lib.hid hbW
      have y0 : W.cell? ⟨z, 0, none⟩ = some (.int .i64 m.n) := blockCells g0 0
      have y1 : W.cell? ⟨z, 1, none⟩ = some (.int .u8 m.e0) := blockCells g0 1
      have y2 : W.cell? ⟨z, 2, none⟩ = some (.int .u8 m.e1) := blockCells g0 2
      have y3 : W.cell? ⟨z, 3, none⟩ = some (.int .u8 m.e2) := blockCells g0 3
      have y4 : W.cell? ⟨z, 4, none⟩ = some (.int .u8 m.e3) := blockCells g0 4
      have y5 : W.cell? ⟨z, 5, none⟩ = some (.int .u8 m.e4) := blockCells g0 5
      have y6 : W.cell? ⟨z, 6, none⟩ = some (.int .u8 m.e5) := blockCells g0 6
      have hq1 := fun W' => small_any W' m HWM.out
      unfold Mono.V at hq1
      have f0 := cellBW y0; have f1 := cellBW y1; have f2 := cellBW y2; have f3 := cellBW y3; have f4 := cellBW y4; have f5 := cellBW y5; have f6 := cellBW y6
      clear hbW g0 y0 y1 y2 y3 y4 y5 y6 hw
      cases hsm : smallB m with
      | false =>
        rw [hsm] at hq1 hfine
        have HQ1 := Lib.hid hq1
        have HF := Lib.hid (polyB_bad hlt (by rw [hfine]; rfl))
        clear hq1 hfine hsm hmk
        refine wp_region_below (by kernel_rfl) (by kernel_rfl) ?_
        repeat (go_big_quiet_step (refine callsBW (HQ1.out _)))
        refine wpQuiet_nil ?_
        rintro _ ⟨⟨wq, hwq⟩, rfl⟩
        clear f0 f1 f2 f3 f4 f5 f6
        go_wp2_with fail
        go_ret
        exact ⟨ret_bool HF.out.symm, bNext hwq HBW.out⟩
      | true =>
        rw [hsm] at hq1 hfine
        by_cases hk0 : k = 0
        · subst hk0
          have HQ1 := Lib.hid hq1
          have HF := Lib.hid hfine
          clear hq1 hfine hsm hmk
          refine wp_region_below (by kernel_rfl) (by kernel_rfl) ?_
          repeat (go_big_quiet_step (refine callsBW (HQ1.out _)))
          refine wpQuiet_nil ?_
          rintro _ ⟨⟨wq, hwq⟩, rfl⟩
          clear f0 f1 f2 f3 f4 f5 f6
          go_wp2_with fail
          go_roundw
          case rel => exact ⟨0 + 1, by omega, by go_num, fun j hj => by rw [show j = 0 from by omega, HF.out]; rfl, bNext hwq HBW.out⟩
          case measure => simp [intOf]; omega
        · have hlt' : k - 1 < p.length := by omega
          obtain ⟨b', off', eb, hw', x0, x1, x2, x3, x4, x5, x6⟩ := els_mono (HE.out.below monoRep HBW.out (Nat.le_refl _)) hlt'
          cases eb
          rw [getD_at hlt'] at hfine
          have hk1 : ((k - 1 : Nat) : Int) = (k : Int) - 1 := by omega
          obtain ⟨q, hqk⟩ : ∃ q, p[k - 1] = q := ⟨_, rfl⟩
          rw [hqk] at hfine hw' x0 x1 x2 x3 x4 x5 x6
          have hq2 := fun W' => order_any W' q m hw' HWM.out
          unfold Mono.V at hq2
          have h0 := cellBW x0; have h1 := cellBW x1; have h2 := cellBW x2; have h3 := cellBW x3; have h4 := cellBW x4; have h5 := cellBW x5; have h6 := cellBW x6
          have hkp : 0 < (k : Int) := by omega
          have hkn : 0 < k := by omega
          have hkt : ((k : Int) - 1).toNat = k - 1 := by omega
          have hkz : (0 : Int) ≤ (k : Int) - 1 := by omega
          have hkz2 : (k : Int) - 1 < (p.length : Int) := by omega
          have hkz3 : (k - 1) < p.length := by omega
          obtain ⟨cc, hcc⟩ : ∃ cc, cmpI m.E q.E = cc := ⟨_, rfl⟩
          rw [hcc] at hq2 hfine
          have HQ1 := Lib.hid hq1; have HQ2 := Lib.hid hq2
          clear hq1 hq2 hsm hmk hqk hcc x0 x1 x2 x3 x4 x5 x6 hw' hk1
          by_cases hneg : cc < 0
          · have hneg' : decide (0 ≤ cc) = false := by simp; omega
            have HF : Hid (fineAt p k = true) := Lib.hid (by rw [hfine, decide_eq_true hneg]; simp)
            clear hfine
            refine wp_region_below (by kernel_rfl) (by kernel_rfl) ?_
            repeat (go_big_quiet_step (first | refine callsBW (HQ1.out _) | refine callsBW (HQ2.out _)))
            refine wpQuiet_nil ?_
            rintro _ ⟨⟨wq, hwq⟩, rfl⟩
            clear f0 f1 f2 f3 f4 f5 f6 h0 h1 h2 h3 h4 h5 h6
            go_wp2_with fail
            go_roundw
            case rel => exact ⟨k + 1, by omega, by go_num, fun j hj => by
              by_cases e : j = k
              · rw [e]; exact HF.out
              · exact HALL.out j (by omega), bNext hwq HBW.out⟩
            case measure => simp [intOf]; omega
          · have hneg' : decide (0 ≤ cc) = true := by simp; omega
            have HF : Hid (polyB p = false) := Lib.hid (polyB_bad hlt (by rw [hfine, decide_eq_false hneg]; simp [hk0]))
            clear hfine
            refine wp_region_below (by kernel_rfl) (by kernel_rfl) ?_
            repeat (go_big_quiet_step (first | refine callsBW (HQ1.out _) | refine callsBW (HQ2.out _)))
            refine wpQuiet_nil ?_
            rintro _ ⟨⟨wq, hwq⟩, rfl⟩
            clear f0 f1 f2 f3 f4 f5 f6 h0 h1 h2 h3 h4 h5 h6
            go_wp2_with fail
            go_ret
            exact ⟨ret_bool HF.out.symm, bNext hwq HBW.out⟩
    · have HF := Lib.hid (polyB_good hb48 (fun j hj => HALL.out j (by omega)))
      go_wp2_with fail
      go_ret
      exact ⟨ret_bool HF.out.symm, HB.out⟩
end Go.Proofs.Ytmlfeocdcjhhaaa
