import Derived.Test.YtabodlhlanolcaaPB3
import Derived.Lib.BytesEntry
import Derived.Laws.Externs
import Derived.Deep.RegionHeld3
import Derived.Deep.DrawnRows
import Derived.Outline
import Derived.Deep.DeepCutAuto
import Derived.Deep.CutBlock
import Derived.Laws.Rows
import Derived.Laws.Tables
import Derived.Test.YtabodlhlanolcaaPB1
namespace Go.Proofs.Ytabodlhlanolcaa
set_option maxRecDepth 100000
open Go.RowKit
set_option linter.unusedVariables false
set_option linter.unusedSimpArgs false

/-- 1: the first stands ahead by its first greater number; -1: behind; 0: they are the same -/
def cmpI : List Int → List Int → Int
  | [], [] => 0
  | [], _ :: _ => -1
  | _ :: _, [] => 1
  | a :: xs, b :: ys => if a < b then -1 else if b < a then 1 else cmpI xs ys
theorem u8_lt {a b : Int} (ha : 0 ≤ a ∧ a ≤ 255) (hb : 0 ≤ b ∧ b ≤ 255) : (a.toNat.toUInt8 < b.toNat.toUInt8) = (a < b) := by
  obtain ⟨x, rfl⟩ := Int.eq_ofNat_of_zero_le ha.1
  obtain ⟨y, rfl⟩ := Int.eq_ofNat_of_zero_le hb.1
  rw [UInt8.lt_iff_toNat_lt]
  simp
  omega
theorem cmp_bytes : ∀ (xs ys : List Int), (∀ x ∈ xs, 0 ≤ x ∧ x ≤ 255) → (∀ y ∈ ys, 0 ≤ y ∧ y ≤ 255) → Lib.compareBytes (Lib.bytesOf xs) (Lib.bytesOf ys) = cmpI xs ys
  | [], [], _, _ => rfl
  | [], _ :: _, _, _ => rfl
  | _ :: _, [], _, _ => rfl
  | a :: xs, b :: ys, ha, hb => by
    have ih := cmp_bytes xs ys (fun x hx => ha x (List.mem_cons_of_mem _ hx)) (fun x hx => hb x (List.mem_cons_of_mem _ hx))
    have h0 := ha a (List.mem_cons_self ..)
    have h1 := hb b (List.mem_cons_self ..)
    show Lib.compareBytes (a.toNat.toUInt8 :: Lib.bytesOf xs) (b.toNat.toUInt8 :: Lib.bytesOf ys) = _
    unfold Lib.compareBytes cmpI
    rw [ih]
    simp only [u8_lt h0 h1, u8_lt h1 h0]
/-- the entry of the library that compares bytes -/
theorem run_cmp {P : Program} (W : World) (b off n c b' off' n' c' : Nat) (xs ys : List Int) (hx : xs.length = n) (hy : ys.length = n') (hcx : ∀ j x, xs[j]? = some x → W.cell? ⟨b, off + j, none⟩ = some (.int .u8 x)) (hcy : ∀ j x, ys[j]? = some x → W.cell? ⟨b', off' + j, none⟩ = some (.int .u8 x))
    (wx : ∀ x ∈ xs, 0 ≤ x ∧ x ≤ 255) (wy : ∀ x ∈ ys, 0 ≤ x ∧ x ≤ 255) :
    (Extern.BytealgCompare.compare #[.slice (some ⟨b, off, none⟩) n c, .slice (some ⟨b', off', none⟩) n' c']).run P W = .ok (.int .i64 (cmpI xs ys)) W := by
  have adr : ∀ (b off j : Nat), (⟨b, off, none⟩ : Addr).add j = ⟨b, off + j, none⟩ := fun b off j => by unfold Addr.add; split <;> simp_all
  have hl := Lib.run_loadBytesX (P := P) W xs ⟨b, off, none⟩ .empty (fun j x hj => by rw [adr]; exact hcx j x hj)
  have hr := Lib.run_loadBytesX (P := P) W ys ⟨b', off', none⟩ .empty (fun j x hj => by rw [adr]; exact hcy j x hj)
  rw [hx] at hl
  rw [hy] at hr
  have he : ∀ zs, (⟨ByteArray.empty.data ++ (Lib.bytesOf zs).toArray⟩ : ByteArray) = ⟨(Lib.bytesOf zs).toArray⟩ := fun zs => by
    apply ByteArray.ext
    show (#[] : Array UInt8) ++ (Lib.bytesOf zs).toArray = (Lib.bytesOf zs).toArray
    simp
  rw [he] at hl hr
  change Sem.run P (do pure (goInt (Extern.BytealgCompare.cmp (← Extern.Bytes.bytesOf (.slice (some ⟨b, off, none⟩) n c)) (← Extern.Bytes.bytesOf (.slice (some ⟨b', off', none⟩) n' c'))))) W = _
  simp only [Extern.Bytes.bytesOf, Sem.run_bind, Sem.run_pure, hl, hr, Result.andThen]
  rw [Lib.cmp_eq]
  show Result.ok (Value.int .i64 (Lib.compareBytes (Lib.bytesOf xs) (Lib.bytesOf ys))) W = _
  rw [cmp_bytes xs ys wx wy]
theorem compare_any (W : World) (b off n c b' off' n' c' : Nat) (xs ys : List Int) (hx : xs.length = n) (hy : ys.length = n') (hcx : ∀ j x, xs[j]? = some x → W.cell? ⟨b, off + j, none⟩ = some (.int .u8 x)) (hcy : ∀ j x, ys[j]? = some x → W.cell? ⟨b', off' + j, none⟩ = some (.int .u8 x))
    (wx : ∀ x ∈ xs, 0 ≤ x ∧ x ≤ 255) (wy : ∀ x ∈ ys, 0 ≤ x ∧ x ≤ 255) :
    Calls Try.prog 87 #[.slice (some ⟨b, off, none⟩) n c, .slice (some ⟨b', off', none⟩) n' c'] W fun e w' => e = .returned (.int .i64 (cmpI xs ys)) ∧ ∃ k, w' = W.drewN k := by
  have hq := Lib.hid (run_cmp (P := Try.prog) W b off n c b' off' n' c' xs ys hx hy hcx hcy wx wy)
  clear hcx hcy wx wy hx hy
  go_enter Try.func87, Try.ntmps87
  go_wp2
  rw [run_callFunc_extern Try.func89 (by kernel_rfl) (by kernel_rfl) (by kernel_rfl) (e := Extern.BytealgCompare.compare) (by kernel_rfl), hq.out]
  simp only [Result.andThen]
  rw [Oper.upon_value]
  go_wp2
  go_ret
  exact ⟨rfl, 0, rfl⟩

def degF (m : Mono) : Int := m.e0 + m.e1 + m.e2 + m.e3 + m.e4 + m.e5
def smallB (m : Mono) : Bool := m.n != 0 && decide (m.n ≤ 16777216) && decide (-16777216 ≤ m.n) && decide (degF m ≤ 8)
/-- the sum of the first k exponents -/
def degK (m : Mono) : Nat → Int
  | 0 => 0
  | 1 => m.e0
  | 2 => m.e0 + m.e1
  | 3 => m.e0 + m.e1 + m.e2
  | 4 => m.e0 + m.e1 + m.e2 + m.e3
  | 5 => m.e0 + m.e1 + m.e2 + m.e3 + m.e4
  | _ => degF m
theorem mono_E {m : Mono} (h : m.wf) : ∀ x ∈ m.E, 0 ≤ x ∧ x ≤ 255 := by
  intro x hx
  simp [Mono.E] at hx
  rcases hx with rfl | rfl | rfl | rfl | rfl | rfl
  · exact h.e0
  · exact h.e1
  · exact h.e2
  · exact h.e3
  · exact h.e4
  · exact h.e5
end Go.Proofs.Ytabodlhlanolcaa

namespace Go.Proofs.Ytabodlhlanolcaa
set_option maxRecDepth 100000
open Go.RowKit
set_option linter.unusedVariables false
set_option linter.unusedSimpArgs false
attribute [local go_sem ↓] Go.wp_at_zero Go.wp_at_succ

theorem ix0 (a b c d e f : Value) (W : World) : (Instr.index 37 (.agg #[a, b, c, d, e, f]) (.int .i64 0)).run Try.prog W = .ok a W := by kernel_rfl
theorem ix1 (a b c d e f : Value) (W : World) : (Instr.index 37 (.agg #[a, b, c, d, e, f]) (.int .i64 1)).run Try.prog W = .ok b W := by kernel_rfl
theorem ix2 (a b c d e f : Value) (W : World) : (Instr.index 37 (.agg #[a, b, c, d, e, f]) (.int .i64 2)).run Try.prog W = .ok c W := by kernel_rfl
theorem ix3 (a b c d e f : Value) (W : World) : (Instr.index 37 (.agg #[a, b, c, d, e, f]) (.int .i64 3)).run Try.prog W = .ok d W := by kernel_rfl
theorem ix4 (a b c d e f : Value) (W : World) : (Instr.index 37 (.agg #[a, b, c, d, e, f]) (.int .i64 4)).run Try.prog W = .ok e W := by kernel_rfl
theorem ix5 (a b c d e f : Value) (W : World) : (Instr.index 37 (.agg #[a, b, c, d, e, f]) (.int .i64 5)).run Try.prog W = .ok f W := by kernel_rfl
attribute [local go_sem] ix0 ix1 ix2 ix3 ix4 ix5

set_option maxHeartbeats 4000000 in
theorem small_any (w : World) (m : Mono) (hm : m.wf) : Calls Try.prog 75 #[m.V] w fun e w' => e = .returned (.bool (smallB m)) ∧ Below w.heap.size w w' := by
  obtain ⟨n, e0, e1, e2, e3, e4, e5⟩ := m
  obtain ⟨hn, h0, h1, h2, h3, h4, h5⟩ := hm
  dsimp only at hn h0 h1 h2 h3 h4 h5
  obtain ⟨h00, h01⟩ := h0; obtain ⟨h10, h11⟩ := h1; obtain ⟨h20, h21⟩ := h2; obtain ⟨h30, h31⟩ := h3; obtain ⟨h40, h41⟩ := h4; obtain ⟨h50, h51⟩ := h5
  unfold Mono.V
  dsimp only
  go_enter Try.func75, Try.ntmps75
  go_wp2
  go_loop [3, 5, 8] (fun s u i => ∃ k : Nat, k ≤ 6 ∧ i = .int .i64 k ∧ s = .int .i64 (degK ⟨n, e0, e1, e2, e3, e4, e5⟩ k)) (fun _ _ i => 6 - (intOf i).toNat)
  case atStart => exact ⟨0, by omega, rfl, rfl⟩
  case round =>
    obtain ⟨k, hk, rfl, rfl⟩ := hrel
    have hcs : k = 0 ∨ k = 1 ∨ k = 2 ∨ k = 3 ∨ k = 4 ∨ k = 5 ∨ k = 6 := by omega
    rcases hcs with rfl | rfl | rfl | rfl | rfl | rfl | rfl
    · simp only [degK, Int.cast_ofNat_Int]
      go_wp2
      go_round
      case rel => exact ⟨1, by omega, rfl, by simp⟩
      case measure => simp [intOf]
    · simp only [degK, Int.cast_ofNat_Int]
      go_wp2
      go_round
      case rel => exact ⟨2, by omega, rfl, rfl⟩
      case measure => simp [intOf]
    · simp only [degK, Int.cast_ofNat_Int]
      go_wp2
      go_round
      case rel => exact ⟨3, by omega, rfl, rfl⟩
      case measure => simp [intOf]
    · simp only [degK, Int.cast_ofNat_Int]
      go_wp2
      go_round
      case rel => exact ⟨4, by omega, rfl, rfl⟩
      case measure => simp [intOf]
    · simp only [degK, Int.cast_ofNat_Int]
      go_wp2
      go_round
      case rel => exact ⟨5, by omega, rfl, rfl⟩
      case measure => simp [intOf]
    · simp only [degK, Int.cast_ofNat_Int]
      go_wp2
      go_round
      case rel => exact ⟨6, by omega, rfl, rfl⟩
      case measure => simp [intOf]
    · have hd : degK ⟨n, e0, e1, e2, e3, e4, e5⟩ 6 = degF ⟨n, e0, e1, e2, e3, e4, e5⟩ := rfl
      rw [hd]
      obtain ⟨d, hdd⟩ : ∃ d, degF ⟨n, e0, e1, e2, e3, e4, e5⟩ = d := ⟨_, rfl⟩
      have hs : smallB ⟨n, e0, e1, e2, e3, e4, e5⟩ = (n != 0 && decide (n ≤ 16777216) && decide (-16777216 ≤ n) && decide (d ≤ 8)) := by unfold smallB; rw [hdd]
      rw [hdd]
      have HS := Lib.hid hs
      clear hs hd hdd
      simp only [Int.cast_ofNat_Int]
      by_cases g0 : n = 0
      · subst g0
        go_wp2
        go_ret
        exact ⟨ret_bool (by rw [HS.out]; simp), (Below.refl _ _).alloc (Nat.le_refl _) _⟩
      · have g0' : (n == 0) = false := by simpa using g0
        by_cases g1 : n ≤ 16777216
        · by_cases g2 : -16777216 ≤ n
          · by_cases g3 : d ≤ 8
            · go_wp2
              go_ret
              exact ⟨ret_bool (by rw [HS.out]; simp [g0, g1, g2, g3]), (Below.refl _ _).alloc (Nat.le_refl _) _⟩
            · have g3' : decide (d ≤ 8) = false := by simpa using g3
              go_wp2
              go_ret
              exact ⟨ret_bool (by rw [HS.out, g3']; simp), (Below.refl _ _).alloc (Nat.le_refl _) _⟩
          · have g2' : decide (-16777216 ≤ n) = false := by simpa using g2
            go_wp2
            go_ret
            exact ⟨ret_bool (by rw [HS.out, g2']; simp), (Below.refl _ _).alloc (Nat.le_refl _) _⟩
        · have g1' : decide (n ≤ 16777216) = false := by simpa using g1
          go_wp2
          go_ret
          exact ⟨ret_bool (by rw [HS.out, g1']; simp), (Below.refl _ _).alloc (Nat.le_refl _) _⟩

theorem gen_worldA {P : Program} {c : Code} {Q : Exit → Act → World → Prop} {a : Act} {w0 : World} (F : World → Prop) (h0 : F w0) (h : ∀ W, F W → c.wp P Q a W) : c.wp P Q a w0 := h w0 h0
theorem blockCells {w : World} {G : Nat} {cs : List Value} {t : TypeId} (h : w.heap[G]? = some (.cells cs.toArray t (0, 0))) (j : Nat) : w.cell? ⟨G, j, none⟩ = cs[j]? := by
  rw [cell_of_row w G j _ _ _ h]
  simp
theorem keepBlock {w w' : World} {G : Nat} {o : Obj} (h : w.heap[G]? = some o) (hb : Below w.heap.size w w') : w'.heap[G]? = some o := (hb.block G (Array.getElem?_eq_some_iff.1 h).1).trans h
theorem oldBlock {w : World} {G : Nat} {o : Obj} (h : w.heap[G]? = some o) (o' : Obj) : (w.alloc o').heap[G]? = some o := (Below.heap_alloc _ _ _ (Array.getElem?_eq_some_iff.1 h).1).trans h
theorem order_any (w : World) (a b : Mono) (ha : a.wf) (hb : b.wf) : Calls Try.prog 76 #[a.V, b.V] w fun e w' => e = .returned (.int .i64 (cmpI b.E a.E)) ∧ Below w.heap.size w w' := by
  have n0 := oldBlock (World.alloc_heap_new w (.cells a.enc.toArray 39)) (.cells b.enc.toArray 39)
  have n1 := World.alloc_heap_new (w.alloc (.cells a.enc.toArray 39)) (.cells b.enc.toArray 39)
  have hbel : Below w.heap.size w ((w.alloc (.cells a.enc.toArray 39)).alloc (.cells b.enc.toArray 39)) := ((Below.refl _ _).alloc (Nat.le_refl _) _).alloc (by simp) _
  rw [show (w.alloc (.cells a.enc.toArray 39)).heap.size = w.heap.size + 1 from by simp] at n1
  obtain ⟨x, hx⟩ : ∃ x, w.heap.size = x := ⟨_, rfl⟩
  rw [hx] at n0 n1
  have N0 := Lib.hid n0; have N1 := Lib.hid n1; have HB := Lib.hid hbel; have HA := Lib.hid (mono_E ha); have HBB := Lib.hid (mono_E hb)
  clear n0 n1 hbel ha hb
  unfold Mono.V
  go_enter Try.func76, Try.ntmps76
  go_upto_region 1 with fail
  refine gen_worldA (fun W => Below w.heap.size w W ∧ W.heap[x]? = some (.cells a.enc.toArray 39 (0, 0)) ∧ W.heap[x + 1]? = some (.cells b.enc.toArray 39 (0, 0))) ⟨HB.out, N0.out, N1.out⟩ ?_
  rintro W ⟨hbW, g0, g1⟩
  have hq : ∀ p : BelowW W, Calls Try.prog 87 #[.slice (some ⟨x + 1, 1, none⟩) 6 6, .slice (some ⟨x, 1, none⟩) 6 6] p.world fun e w' => e = .returned (.int .i64 (cmpI b.E a.E)) ∧ Below p.world.heap.size p.world w' := fun p => by
    have k0 := keepBlock g0 p.below
    have k1 := keepBlock g1 p.below
    refine (compare_any p.world (x + 1) 1 6 6 x 1 6 6 b.E a.E rfl rfl (fun j y hj => ?_) (fun j y hj => ?_) HBB.out HA.out).mono ?_
    · rw [blockCells k1]
      have : b.enc[1 + j]? = (b.E.map (Value.int .u8))[j]? := by rw [Nat.add_comm]; rfl
      rw [this, List.getElem?_map, hj]; rfl
    · rw [blockCells k0]
      have : a.enc[1 + j]? = (a.E.map (Value.int .u8))[j]? := by rw [Nat.add_comm]; rfl
      rw [this, List.getElem?_map, hj]; rfl
    · rintro e w' ⟨rfl, k, rfl⟩
      exact ⟨rfl, Below.drewN _ _⟩
  have HQ := Lib.hid hq; have HBW := Lib.hid hbW
  have x0 := blockCells g0 1; have x1 := blockCells g1 1
  have y0 : W.cell? ⟨x, 1, none⟩ = some (.int .u8 a.e0) := x0
  have y1 : W.cell? ⟨x + 1, 1, none⟩ = some (.int .u8 b.e0) := x1
  have f0 := cellBW y0; have f1 := cellBW y1
  clear hq hbW g0 g1 N0 N1 HB hx x0 x1 y0 y1
  refine wp_region_below (by kernel_rfl) (by kernel_rfl) ?_
  repeat (go_big_quiet_step (refine callsBW (HQ.out _)))
  refine wpQuiet_nil ?_
  rintro _ ⟨⟨wq, hwq⟩, rfl⟩
  clear f0 f1
  go_wp2_with fail
  go_ret
  exact ⟨rfl, bNext hwq HBW.out⟩
end Go.Proofs.Ytabodlhlanolcaa

namespace Go.Proofs.Ytabodlhlanolcaa
set_option maxRecDepth 100000
open Go.RowKit
set_option linter.unusedVariables false
set_option linter.unusedSimpArgs false
attribute [local go_sem ↓] Go.wp_at_zero Go.wp_at_succ

def zeroM : Mono := ⟨0, 0, 0, 0, 0, 0, 0⟩
def fineAt (p : List Mono) (k : Nat) : Bool := smallB (p.getD k zeroM) && (k == 0 || decide (cmpI (p.getD k zeroM).E (p.getD (k - 1) zeroM).E < 0))
/-- a polynomial? -/
def polyB (p : List Mono) : Bool := decide (p.length ≤ 48) && (List.range p.length).all (fineAt p)
theorem polyB_big {p : List Mono} (h : 48 < p.length) : polyB p = false := by unfold polyB; rw [decide_eq_false (by omega)]; rfl
theorem polyB_bad {p : List Mono} {k : Nat} (hk : k < p.length) (h : fineAt p k = false) : polyB p = false := by
  unfold polyB
  rw [show (List.range p.length).all (fineAt p) = false from List.all_eq_false.2 ⟨k, List.mem_range.2 hk, by simp [h]⟩, Bool.and_false]
theorem polyB_good {p : List Mono} (hl : p.length ≤ 48) (h : ∀ k, k < p.length → fineAt p k = true) : polyB p = true := by
  unfold polyB
  rw [decide_eq_true hl, show (List.range p.length).all (fineAt p) = true from List.all_eq_true.2 fun k hk => h k (List.mem_range.1 hk)]
  rfl
theorem getD_at {p : List Mono} {k : Nat} (h : k < p.length) : p.getD k zeroM = p[k] := by simp [List.getD_eq_getElem?_getD, List.getElem?_eq_getElem h]

set_option maxHeartbeats 8000000 in
theorem right_any (w : World) (a : Option Addr) (c : Nat) (p : List Mono) (h : monoRep.Els w a p) (hm : p.length ≤ 9223372036854775807) :
    Calls Try.prog 57 #[.slice a p.length c] w fun e w' => e = .returned (.bool (polyB p)) ∧ Below w.heap.size w w' := by
  by_cases hbig : 48 < p.length
  · have t0 : decide ((48 : Int) < (p.length : Int)) = true := by simp; omega
    have HG := Lib.hid (polyB_big hbig)
    clear h
    go_enter Try.func57, Try.ntmps57
    go_wp2_with fail
    go_ret
    exact ⟨ret_bool HG.out.symm, Below.refl _ _⟩
  have t0 : decide ((48 : Int) < (p.length : Int)) = false := by simp; omega
  have hb48 : p.length ≤ 48 := by omega
  have HE := Lib.hid h; have HW := Lib.hid (wf_mono h)
  clear h hbig
  go_enter Try.func57, Try.ntmps57
  go_wp2_with fail
  clear t0
  go_loopw [10] (fun i wr => ∃ k : Nat, k ≤ p.length ∧ i = .int .i64 k ∧ (∀ j, j < k → fineAt p j = true) ∧ Below w.heap.size w wr) (fun i _ => p.length - (intOf i).toNat)
  case atStart => exact ⟨0, Nat.zero_le _, rfl, fun j h => absurd h (Nat.not_lt_zero j), Below.refl _ _⟩
  case round =>
    obtain ⟨k, hk, rfl, hall, hB⟩ := hrel
    have HALL := Lib.hid hall; have HB := Lib.hid hB
    clear hall hB
    by_cases hlt : k < p.length
    · obtain ⟨b, off, rfl, hw, x0, x1, x2, x3, x4, x5, x6⟩ := els_mono (HE.out.below monoRep HB.out (Nat.le_refl _)) hlt
      have hz0 : (0 : Int) ≤ (k : Int) := by omega
      have hz1 : (k : Int) < (p.length : Int) := by omega
      go_upto_region 6 with fail
      have hfine : fineAt p k = (smallB p[k] && (k == 0 || decide (cmpI p[k].E (p.getD (k - 1) zeroM).E < 0))) := by unfold fineAt; rw [getD_at hlt]
      have hn0 := World.alloc_heap_new wr (.cells p[k].enc.toArray 39)
      obtain ⟨z, hz⟩ : ∃ z, wr.heap.size = z := ⟨_, rfl⟩
      have hbw : Below w.heap.size w (wr.alloc (.cells p[k].enc.toArray 39)) := HB.out.alloc HB.out.size _
      have hkw := (Below.refl wr.heap.size wr).alloc (Nat.le_refl _) (.cells p[k].enc.toArray 39)
      obtain ⟨m, hmk⟩ : ∃ m, p[k] = m := ⟨_, rfl⟩
      rw [hmk] at hw hn0 hbw hfine hkw ⊢
      rw [hz] at hn0 ⊢
      refine gen_worldA (fun W => Below w.heap.size w W ∧ W.heap[z]? = some (.cells m.enc.toArray 39 (0, 0))) ⟨hbw, hn0⟩ ?_
      have HWM := Lib.hid hw
      clear hn0 hbw hkw x0 x1 x2 x3 x4 x5 x6 hz HB
      rintro W ⟨hbW, g0⟩
      have HBW := Lib.hid hbW
      have y0 : W.cell? ⟨z, 0, none⟩ = some (.int .i64 m.n) := blockCells g0 0
      have y1 : W.cell? ⟨z, 1, none⟩ = some (.int .u8 m.e0) := blockCells g0 1
      have y2 : W.cell? ⟨z, 2, none⟩ = some (.int .u8 m.e1) := blockCells g0 2
      have y3 : W.cell? ⟨z, 3, none⟩ = some (.int .u8 m.e2) := blockCells g0 3
      have y4 : W.cell? ⟨z, 4, none⟩ = some (.int .u8 m.e3) := blockCells g0 4
      have y5 : W.cell? ⟨z, 5, none⟩ = some (.int .u8 m.e4) := blockCells g0 5
      have y6 : W.cell? ⟨z, 6, none⟩ = some (.int .u8 m.e5) := blockCells g0 6
      have hq1 := fun W' => small_any W' m HWM.out
      unfold Mono.V at hq1
      have f0 := cellBW y0; have f1 := cellBW y1; have f2 := cellBW y2; have f3 := cellBW y3; have f4 := cellBW y4; have f5 := cellBW y5; have f6 := cellBW y6
      clear hbW g0 y0 y1 y2 y3 y4 y5 y6 hw
      cases hsm : smallB m with
      | false =>
        rw [hsm] at hq1 hfine
        have HQ1 := Lib.hid hq1
        have HF := Lib.hid (polyB_bad hlt (by rw [hfine]; rfl))
        clear hq1 hfine hsm hmk
        refine wp_region_below (by kernel_rfl) (by kernel_rfl) ?_
        repeat (go_big_quiet_step (refine callsBW (HQ1.out _)))
        refine wpQuiet_nil ?_
        rintro _ ⟨⟨wq, hwq⟩, rfl⟩
        clear f0 f1 f2 f3 f4 f5 f6
        go_wp2_with fail
        go_ret
        exact ⟨ret_bool HF.out.symm, bNext hwq HBW.out⟩
      | true =>
        rw [hsm] at hq1 hfine
        by_cases hk0 : k = 0
        · subst hk0
          have HQ1 := Lib.hid hq1
          have HF := Lib.hid hfine
          clear hq1 hfine hsm hmk
          refine wp_region_below (by kernel_rfl) (by kernel_rfl) ?_
          repeat (go_big_quiet_step (refine callsBW (HQ1.out _)))
          refine wpQuiet_nil ?_
          rintro _ ⟨⟨wq, hwq⟩, rfl⟩
          clear f0 f1 f2 f3 f4 f5 f6
          go_wp2_with fail
          go_roundw
          case rel => exact ⟨0 + 1, by omega, by go_num, fun j hj => by rw [show j = 0 from by omega, HF.out]; rfl, bNext hwq HBW.out⟩
          case measure => simp [intOf]; omega
        · have hlt' : k - 1 < p.length := by omega
          obtain ⟨b', off', eb, hw', x0, x1, x2, x3, x4, x5, x6⟩ := els_mono (HE.out.below monoRep HBW.out (Nat.le_refl _)) hlt'
          cases eb
          rw [getD_at hlt'] at hfine
          have hk1 : ((k - 1 : Nat) : Int) = (k : Int) - 1 := by omega
          obtain ⟨q, hqk⟩ : ∃ q, p[k - 1] = q := ⟨_, rfl⟩
          rw [hqk] at hfine hw' x0 x1 x2 x3 x4 x5 x6
          have hq2 := fun W' => order_any W' q m hw' HWM.out
          unfold Mono.V at hq2
          have h0 := cellBW x0; have h1 := cellBW x1; have h2 := cellBW x2; have h3 := cellBW x3; have h4 := cellBW x4; have h5 := cellBW x5; have h6 := cellBW x6
          have hkp : 0 < (k : Int) := by omega
          have hkn : 0 < k := by omega
          have hkt : ((k : Int) - 1).toNat = k - 1 := by omega
          have hkz : (0 : Int) ≤ (k : Int) - 1 := by omega
          have hkz2 : (k : Int) - 1 < (p.length : Int) := by omega
          have hkz3 : (k - 1) < p.length := by omega
          obtain ⟨cc, hcc⟩ : ∃ cc, cmpI m.E q.E = cc := ⟨_, rfl⟩
          rw [hcc] at hq2 hfine
          have HQ1 := Lib.hid hq1; have HQ2 := Lib.hid hq2
          clear hq1 hq2 hsm hmk hqk hcc x0 x1 x2 x3 x4 x5 x6 hw' hk1
          by_cases hneg : cc < 0
          · have hneg' : decide (0 ≤ cc) = false := by simp; omega
            have HF : Hid (fineAt p k = true) := Lib.hid (by rw [hfine, decide_eq_true hneg]; simp)
            clear hfine
            refine wp_region_below (by kernel_rfl) (by kernel_rfl) ?_
            repeat (go_big_quiet_step (first | refine callsBW (HQ1.out _) | refine callsBW (HQ2.out _)))
            refine wpQuiet_nil ?_
            rintro _ ⟨⟨wq, hwq⟩, rfl⟩
            clear f0 f1 f2 f3 f4 f5 f6 h0 h1 h2 h3 h4 h5 h6
            go_wp2_with fail
            go_roundw
            case rel => exact ⟨k + 1, by omega, by go_num, fun j hj => by
              by_cases e : j = k
              · rw [e]; exact HF.out
              · exact HALL.out j (by omega), bNext hwq HBW.out⟩
            case measure => simp [intOf]; omega
          · have hneg' : decide (0 ≤ cc) = true := by simp; omega
            have HF : Hid (polyB p = false) := Lib.hid (polyB_bad hlt (by rw [hfine, decide_eq_false hneg]; simp [hk0]))
            clear hfine
            refine wp_region_below (by kernel_rfl) (by kernel_rfl) ?_
            repeat (go_big_quiet_step (first | refine callsBW (HQ1.out _) | refine callsBW (HQ2.out _)))
            refine wpQuiet_nil ?_
            rintro _ ⟨⟨wq, hwq⟩, rfl⟩
            clear f0 f1 f2 f3 f4 f5 f6 h0 h1 h2 h3 h4 h5 h6
            go_wp2_with fail
            go_ret
            exact ⟨ret_bool HF.out.symm, bNext hwq HBW.out⟩
    · have HF := Lib.hid (polyB_good hb48 (fun j hj => HALL.out j (by omega)))
      go_wp2_with fail
      go_ret
      exact ⟨ret_bool HF.out.symm, HB.out⟩
end Go.Proofs.Ytabodlhlanolcaa

namespace Go.Proofs.Ytabodlhlanolcaa
set_option maxRecDepth 100000
open Go.RowKit
set_option linter.unusedVariables false
set_option linter.unusedSimpArgs false
attribute [local go_sem ↓] Go.wp_at_zero Go.wp_at_succ

theorem boxE {w : World} {G : Nat} {m : Mono} {t : TypeId} (h : w.heap[G]? = some (.cells m.enc.toArray t (0, 0))) {k : Nat} (hk : k < 6) : w.cell? ⟨G, 1 + k, none⟩ = some (.int .u8 (m.E.getD k 0)) := by
  rw [blockCells h]
  have hcs : k = 0 ∨ k = 1 ∨ k = 2 ∨ k = 3 ∨ k = 4 ∨ k = 5 := by omega
  rcases hcs with rfl | rfl | rfl | rfl | rfl | rfl <;> rfl
theorem E_at {m : Mono} (h : m.wf) (k : Nat) : 0 ≤ m.E.getD k 0 ∧ m.E.getD k 0 ≤ 255 := by
  rw [List.getD_eq_getElem?_getD]
  cases hc : m.E[k]? with
  | none => simp
  | some x => exact mono_E h x (List.mem_of_getElem? hc)
end Go.Proofs.Ytabodlhlanolcaa

namespace Go.Proofs.Ytabodlhlanolcaa
set_option maxRecDepth 100000
open Go.RowKit
set_option linter.unusedVariables false
set_option linter.unusedSimpArgs false

/-- the first place from k on that p tells of, or -1 -/
def firstM (p : Mono → Bool) : Nat → List Mono → Int
  | _, [] => -1
  | k, x :: xs => if p x then k else firstM p (k + 1) xs
theorem firstM_step {p : Mono → Bool} {k : Nat} {xs : List Mono} (h : k < xs.length) : firstM p k (xs.drop k) = if p xs[k] then (k : Int) else firstM p (k + 1) (xs.drop (k + 1)) := by
  rw [List.drop_eq_getElem_cons h, firstM]
theorem firstM_nonneg {p : Mono → Bool} : ∀ (xs : List Mono) (k : Nat), decide (0 ≤ firstM p k xs) = xs.any p
  | [], k => by simp [firstM]
  | x :: xs, k => by
    rw [firstM]
    by_cases h : p x
    · simp [h]
    · simp [h, firstM_nonneg xs (k + 1)]

set_option maxHeartbeats 4000000 in
theorem indexFuncM (w : World) (a : Option Addr) (cap : Nat) (xs : List Mono) (g : FuncId) (p : Mono → Bool) (hg : ∀ args w, (callFunc g args).run Try.prog w = .ok (.enter g args) w) (hm : xs.length ≤ maxLen) (h : monoRep.Els w a xs)
    (hp : ∀ x, x.wf → ∀ w', Calls Try.prog g #[x.V] w' fun e w'' => e = .returned (.bool (p x)) ∧ Below w'.heap.size w' w'') :
    Calls Try.prog 77 #[.slice a xs.length cap, .func (.func g) #[] #[]] w fun e w' => e = .returned (.int .i64 (firstM p 0 xs)) ∧ Below w.heap.size w w' := by
  unfold maxLen at hm
  have HI := Lib.hid h; have HP := Lib.hid hp; clear h hp
  go_enter Try.func77, Try.ntmps77
  go_wp2
  go_loopw [8] (fun i wr => ∃ k : Nat, k ≤ xs.length ∧ i = .int .i64 k ∧ firstM p 0 xs = firstM p k (xs.drop k) ∧ Below w.heap.size w wr) (fun i _ => xs.length - (intOf i).toNat)
  case atStart => exact ⟨0, Nat.zero_le _, rfl, rfl, Below.refl _ _⟩
  case round =>
    obtain ⟨k, hk, rfl, hr, hbel⟩ := hrel
    by_cases hlt : k < xs.length
    · rw [firstM_step hlt] at hr
      obtain ⟨b, off, rfl, hw, x0, x1, x2, x3, x4, x5, x6⟩ := els_mono (HI.out.below monoRep hbel (Nat.le_refl _)) hlt
      have hq := HP.out xs[k] hw wr
      unfold Mono.V at hq
      have Hr := Lib.hid hr; clear hr
      cases hv : p xs[k] with
      | true =>
        rw [hv] at hq
        have HQ := Lib.hid hq; have Hv := Lib.hid hv; clear hq hv
        go_wp2_with (refine HQ.out.mono ?_; rintro e w' ⟨rfl, hb1⟩)
        go_ret
        exact ⟨ret_int (by rw [Hr.out, if_pos Hv.out]), bNext hb1 hbel⟩
      | false =>
        rw [hv] at hq
        have HQ := Lib.hid hq; have Hv := Lib.hid hv; clear hq hv
        go_wp2_with (refine HQ.out.mono ?_; rintro e w' ⟨rfl, hb1⟩)
        go_roundw
        case rel => exact ⟨k + 1, by omega, by go_num, by rw [Hr.out, if_neg (by rw [Hv.out]; simp)], bNext hb1 hbel⟩
        case measure => simp [intOf]; omega
    · have Hr := Lib.hid hr; clear hr
      go_wp2
      go_ret
      exact ⟨ret_int (by rw [Hr.out, List.drop_eq_nil_of_le (by omega)]; rfl), hbel⟩

theorem containsFuncM (w : World) (a : Option Addr) (cap : Nat) (xs : List Mono) (g : FuncId) (p : Mono → Bool) (hg : ∀ args w, (callFunc g args).run Try.prog w = .ok (.enter g args) w) (hm : xs.length ≤ maxLen) (h : monoRep.Els w a xs)
    (hp : ∀ x, x.wf → ∀ w', Calls Try.prog g #[x.V] w' fun e w'' => e = .returned (.bool (p x)) ∧ Below w'.heap.size w' w'') :
    Calls Try.prog 58 #[.slice a xs.length cap, .func (.func g) #[] #[]] w fun e w' => e = .returned (.bool (xs.any p)) ∧ Below w.heap.size w w' := by
  have hq := Lib.hid (indexFuncM w a cap xs g p hg hm h hp)
  clear hp h
  go_enter Try.func58, Try.ntmps58
  go_wp2_with (go_at_call 77; refine hq.out.mono ?_; rintro e w' ⟨rfl, hb1⟩)
  go_ret
  exact ⟨ret_bool (firstM_nonneg _ _), hb1⟩
end Go.Proofs.Ytabodlhlanolcaa

namespace Go.Proofs.Ytabodlhlanolcaa
set_option maxRecDepth 100000
open Go.RowKit
set_option linter.unusedVariables false
set_option linter.unusedSimpArgs false
attribute [local go_sem ↓] Go.wp_at_zero Go.wp_at_succ

/-- a polynomial without a factor below 0? -/
def growsB (p : List Mono) : Bool := polyB p && !(p.any fun m => decide (m.n < 0))

theorem grows1_any (w : World) (x : Mono) (hx : x.wf) : Calls Try.prog 59 #[x.V] w fun e w' => e = .returned (.bool (decide (x.n < 0))) ∧ Below w.heap.size w w' := by
  clear hx
  unfold Mono.V
  go_enter Try.func59, Try.ntmps59
  go_wp2
  go_ret
  exact ⟨rfl, (Below.refl _ _).alloc (Nat.le_refl _) _⟩
theorem grows1_in (args : Array Value) (w : World) : (callFunc 59 args).run Try.prog w = .ok (.enter 59 args) w := callFunc_enter Try.func59 (by kernel_rfl) rfl args w
set_option maxHeartbeats 4000000 in
theorem grows_any (w : World) (a : Option Addr) (c : Nat) (p : List Mono) (h : monoRep.Els w a p) (hm : p.length ≤ 9223372036854775807) :
    Calls Try.prog 42 #[.slice a p.length c] w fun e w' => e = .returned (.bool (growsB p)) ∧ Below w.heap.size w w' := by
  have hr := right_any w a c p h hm
  have hcf := fun W (hb : Below w.heap.size w W) => containsFuncM W a c p 59 _ grows1_in (by unfold maxLen; omega) (h.below monoRep hb (Nat.le_refl _)) (fun x hx w' => grows1_any w' x hx)
  have HCF := Lib.hid hcf
  clear hcf h
  cases hp : polyB p with
  | false =>
    have hg : growsB p = false := by unfold growsB; rw [hp]; rfl
    rw [hp] at hr
    have HR := Lib.hid hr; have HG := Lib.hid hg
    clear hr hg hp
    go_enter Try.func42, Try.ntmps42
    go_wp2_with (go_at_call 57; refine HR.out.mono ?_; rintro e w1 ⟨rfl, hb1⟩)
    go_ret
    exact ⟨ret_bool HG.out.symm, hb1⟩
  | true =>
    have hg : growsB p = !(p.any fun m => decide (m.n < 0)) := by unfold growsB; rw [hp]; rfl
    rw [hp] at hr
    have HR := Lib.hid hr; have HG := Lib.hid hg
    clear hr hg hp
    go_enter Try.func42, Try.ntmps42
    go_wp2_with fail
    refine HR.out.mono ?_
    rintro e w1 ⟨rfl, hb1⟩
    go_wp2_with fail
    refine (HCF.out _ hb1).mono ?_
    rintro e w2 ⟨rfl, hb2⟩
    go_wp2_with fail
    go_ret
    exact ⟨ret_bool HG.out.symm, bNext hb2 hb1⟩
end Go.Proofs.Ytabodlhlanolcaa

namespace Go.Proofs.Ytabodlhlanolcaa
set_option maxRecDepth 100000
open Go.RowKit
set_option linter.unusedVariables false
set_option linter.unusedSimpArgs false
attribute [local go_sem ↓] Go.wp_at_zero Go.wp_at_succ

def Mono.ex (m : Mono) (k : Nat) : Int := m.E.getD k 0
def dimAt (D : List Int) (k : Nat) : Int := D.getD k 0
theorem ex_at {m : Mono} (h : m.wf) (k : Nat) : 0 ≤ m.ex k ∧ m.ex k ≤ 255 := E_at h k
/-- n times d, e times over; none: it is above 2^62 -/
def mulO (d : Int) : Nat → Int → Option Int
  | 0, n => some n
  | e + 1, n => if 4611686018427387904 / d < n then none else mulO d e (n * d)
def prodK (m : Mono) (D : List Int) : Nat → Option Int
  | 0 => some (max m.n (-m.n))
  | k + 1 => (prodK m D k).bind (mulO (dimAt D k) (m.ex k).toNat)
def zeroAt (m : Mono) (D : List Int) (k : Nat) : Bool := decide (0 < m.ex k) && dimAt D k == 0
def valO (m : Mono) (D : List Int) : Option Int := if (List.range 6).any (zeroAt m D) then some 0 else prodK m D 6
theorem valO_zero {m : Mono} {D : List Int} {k : Nat} (hk : k < 6) (h : zeroAt m D k = true) : valO m D = some 0 := by
  unfold valO
  rw [if_pos (List.any_eq_true.2 ⟨k, List.mem_range.2 hk, h⟩)]
theorem valO_prod {m : Mono} {D : List Int} (h : ∀ k, k < 6 → zeroAt m D k = false) : valO m D = prodK m D 6 := by
  unfold valO
  rw [if_neg]
  rw [List.any_eq_true]
  rintro ⟨k, hk, hz⟩
  rw [h k (List.mem_range.1 hk)] at hz
  cases hz
theorem prodK_none {m : Mono} {D : List Int} : ∀ {j k : Nat}, k ≤ j → prodK m D k = none → prodK m D j = none
  | 0, k, h, hn => by obtain rfl : k = 0 := by omega
                      exact hn
  | j + 1, k, h, hn => by
    by_cases e : k = j + 1
    · rw [← e]; exact hn
    · rw [prodK, prodK_none (by omega : k ≤ j) hn]; rfl
theorem mul_fits {n d : Int} (h1 : 1 ≤ n) (hd : 1 ≤ d) (h : ¬ 4611686018427387904 / d < n) : 1 ≤ n * d ∧ n * d ≤ 4611686018427387904 := by
  have h2 : n ≤ 4611686018427387904 / d := by omega
  have h3 : n * d ≤ (4611686018427387904 / d) * d := Int.mul_le_mul_of_nonneg_right h2 (by omega)
  have h4 : (4611686018427387904 / d) * d ≤ 4611686018427387904 := Int.ediv_mul_le _ (by omega)
  have h5 : 1 * 1 ≤ n * d := Int.mul_le_mul h1 hd (by omega) (by omega)
  omega
theorem mulO_bd {d : Int} (hd : 1 ≤ d) : ∀ (e : Nat) {n x : Int}, 1 ≤ n → n ≤ 4611686018427387904 → mulO d e n = some x → 1 ≤ x ∧ x ≤ 4611686018427387904
  | 0, n, x, h1, h2, h => by cases h; exact ⟨h1, h2⟩
  | e + 1, n, x, h1, h2, h => by
    rw [mulO] at h
    split at h
    · cases h
    · rename_i hh
      have := mul_fits h1 hd hh
      exact mulO_bd hd e this.1 this.2 h

theorem ixm (m : Mono) (k : Nat) (hk : k < 6) (W : World) : (Instr.index 37 (.agg #[.int .u8 m.e0, .int .u8 m.e1, .int .u8 m.e2, .int .u8 m.e3, .int .u8 m.e4, .int .u8 m.e5]) (.int .i64 (k : Int))).run Try.prog W = .ok (.int .u8 (m.ex k)) W := by
  have hcs : k = 0 ∨ k = 1 ∨ k = 2 ∨ k = 3 ∨ k = 4 ∨ k = 5 := by omega
  rcases hcs with rfl | rfl | rfl | rfl | rfl | rfl
  · exact ix0 _ _ _ _ _ _ W
  · exact ix1 _ _ _ _ _ _ W
  · exact ix2 _ _ _ _ _ _ W
  · exact ix3 _ _ _ _ _ _ W
  · exact ix4 _ _ _ _ _ _ W
  · exact ix5 _ _ _ _ _ _ W
attribute [local go_sem] ixm
/-- six sides, in their box -/
def SixB (W : World) (z : Nat) (D : List Int) : Prop := W.heap[z]? = some (.cells (D.map (Value.int .i64)).toArray 90 (0, 0)) ∧ D.length = 6
theorem SixB.at {W : World} {z : Nat} {D : List Int} (h : SixB W z D) {k : Nat} (hk : k < 6) : W.cell? ⟨z, k, none⟩ = some (.int .i64 (dimAt D k)) := by
  rw [cell_of_row W z k _ _ _ h.1]
  unfold dimAt
  simp [List.getD_eq_getElem?_getD, List.getElem?_eq_getElem (show k < D.length by rw [h.2]; exact hk)]

def RetVal (o : Option Int) (w : World) (e : Ending) (w' : World) : Prop := e = .returned (.tuple #[.int .i64 (o.getD 0), .bool o.isSome]) ∧ Below w.heap.size w w'
set_option maxHeartbeats 16000000 in
theorem value_any (w : World) (m : Mono) (D : List Int) (hm : m.wf) (hs : smallB m = true) (hD : D.length = 6) (hd : ∀ x ∈ D, 0 ≤ x ∧ x ≤ 2147483648) :
    Calls Try.prog 61 #[m.V, .agg (D.map (Value.int .i64)).toArray] w (RetVal (valO m D) w) := by
  have hn : (m.n ≠ 0 ∧ m.n ≤ 16777216 ∧ -16777216 ≤ m.n) := by
    unfold smallB at hs
    simp only [Bool.and_eq_true, decide_eq_true_eq, bne_iff_ne] at hs
    exact ⟨hs.1.1.1, hs.1.1.2, hs.1.2⟩
  obtain ⟨hn0, hn1, hn2⟩ := hn
  have n0 := oldBlock (World.alloc_heap_new w (.cells m.enc.toArray 39)) (.cells (D.map (Value.int .i64)).toArray 90)
  have n1 := World.alloc_heap_new (w.alloc (.cells m.enc.toArray 39)) (.cells (D.map (Value.int .i64)).toArray 90)
  have hbel : Below w.heap.size w ((w.alloc (.cells m.enc.toArray 39)).alloc (.cells (D.map (Value.int .i64)).toArray 90)) := ((Below.refl _ _).alloc (Nat.le_refl _) _).alloc (by simp) _
  rw [show (w.alloc (.cells m.enc.toArray 39)).heap.size = w.heap.size + 1 from by simp] at n1
  obtain ⟨x, hx⟩ : ∃ x, w.heap.size = x := ⟨_, rfl⟩
  rw [hx] at n0 n1
  have hdk : ∀ k, 0 ≤ dimAt D k ∧ dimAt D k ≤ 2147483648 := fun k => by
    unfold dimAt
    rw [List.getD_eq_getElem?_getD]
    cases hc : D[k]? with
    | none => simp
    | some y => exact hd y (List.mem_of_getElem? hc)
  have N0 := Lib.hid n0; have N1 := Lib.hid (show SixB _ (x + 1) D from ⟨n1, hD⟩); have HB := Lib.hid hbel; have HM := Lib.hid hm; have HD := Lib.hid hdk
  clear n0 n1 hbel hm hs hD hd hdk
  unfold Mono.V
  go_enter Try.func61, Try.ntmps61
  go_upto_region 1 with fail
  refine gen_worldA (fun W => Below w.heap.size w W ∧ W.heap[x]? = some (.cells m.enc.toArray 39 (0, 0)) ∧ SixB W (x + 1) D) ⟨HB.out, N0.out, N1.out⟩ ?_
  rintro W ⟨hbW, g0, g1⟩
  have y0 : W.cell? ⟨x, 0, none⟩ = some (.int .i64 m.n) := blockCells g0 0
  have y1 : W.cell? ⟨x, 1, none⟩ = some (.int .u8 m.e0) := blockCells g0 1
  have y2 : W.cell? ⟨x, 2, none⟩ = some (.int .u8 m.e1) := blockCells g0 2
  have y3 : W.cell? ⟨x, 3, none⟩ = some (.int .u8 m.e2) := blockCells g0 3
  have y4 : W.cell? ⟨x, 4, none⟩ = some (.int .u8 m.e3) := blockCells g0 4
  have y5 : W.cell? ⟨x, 5, none⟩ = some (.int .u8 m.e4) := blockCells g0 5
  have y6 : W.cell? ⟨x, 6, none⟩ = some (.int .u8 m.e5) := blockCells g0 6
  have HBW := Lib.hid hbW; have G1 := Lib.hid g1
  clear hbW g0 g1 N0 N1 HB hx
  have Y1 := Lib.hid y1; have Y2 := Lib.hid y2; have Y3 := Lib.hid y3; have Y4 := Lib.hid y4; have Y5 := Lib.hid y5; have Y6 := Lib.hid y6
  by_cases hpos : 0 < m.n
  · have hm0 : decide (m.n < -m.n) = false := by simp; omega
    have hm1 : -m.n ≤ m.n := by omega
    have HP0 : Hid (prodK m D 0 = some m.n) := Lib.hid (by unfold prodK; rw [Int.max_eq_left (by omega)])
    have HN0 : Hid (1 ≤ m.n ∧ m.n ≤ 4611686018427387904) := Lib.hid (by omega)
    go_upto_region 2 with fail
    clear y0 hm0 hm1
    go_wp2_with fail
    clear y1 y2 y3 y4 y5 y6
    go_loop [19] (fun i => ∃ k : Nat, k ≤ 6 ∧ i = .int .i64 k ∧ ∀ j, j < k → zeroAt m D j = false) (fun i => 6 - (intOf i).toNat)
    case atStart => exact ⟨0, by omega, rfl, fun j h => absurd h (Nat.not_lt_zero j)⟩
    case round =>
      obtain ⟨k, hk, rfl, hall⟩ := hrel
      have HALL := Lib.hid hall
      clear hall
      have hz0 : (0 : Int) ≤ (k : Int) := by omega
      by_cases hlt : k < 6
      · have hc := G1.out.at hlt
        obtain ⟨he0, he1⟩ := ex_at HM.out k
        have hz1 : (k : Int) < 6 := by omega
        by_cases hep : 0 < m.ex k
        · by_cases hd0 : dimAt D k = 0
          · have HV := Lib.hid (valO_zero hlt (show zeroAt m D k = true from by unfold zeroAt; rw [decide_eq_true hep, hd0]; rfl))
            rw [hd0] at hc
            clear hd0
            go_wp2_with fail
            go_ret2
            exact ⟨by rw [HV.out]; rfl, HBW.out⟩
          · have hd0' : (dimAt D k == 0) = false := by simpa using hd0
            have HZ := Lib.hid (show zeroAt m D k = false from by unfold zeroAt; rw [hd0', Bool.and_false])
            clear hd0
            go_wp2_with fail
            go_round
            case rel => exact ⟨k + 1, by omega, by go_num, fun j hj => by
              by_cases e : j = k
              · rw [e]; exact HZ.out
              · exact HALL.out j (by omega)⟩
            case measure => simp [intOf]; omega
        · have hep' : decide (0 < m.ex k) = false := by simpa using hep
          have HZ := Lib.hid (show zeroAt m D k = false from by unfold zeroAt; rw [hep', Bool.false_and])
          clear hep
          go_wp2_with fail
          go_round
          case rel => exact ⟨k + 1, by omega, by go_num, fun j hj => by
            by_cases e : j = k
            · rw [e]; exact HZ.out
            · exact HALL.out j (by omega)⟩
          case measure => simp [intOf]; omega
      · obtain rfl : k = 6 := by omega
        have HV := Lib.hid (valO_prod (m := m) (D := D) HALL.out)
        have y1 := Y1.out; have y2 := Y2.out; have y3 := Y3.out; have y4 := Y4.out; have y5 := Y5.out; have y6 := Y6.out
        go_wp2_with fail
        clear y1 y2 y3 y4 y5 y6
        go_loop [6, 34] (fun n i => ∃ (k : Nat) (v : Int), k ≤ 6 ∧ i = .int .i64 k ∧ n = .int .i64 v ∧ prodK m D k = some v ∧ 1 ≤ v ∧ v ≤ 4611686018427387904) (fun _ i => 6 - (intOf i).toNat)
        case atStart => exact ⟨0, m.n, by omega, rfl, rfl, HP0.out, HN0.out.1, HN0.out.2⟩
        case round =>
          obtain ⟨k, v, hk, rfl, rfl, hp, hv0, hv1⟩ := hrel
          have HP := Lib.hid hp
          clear hp
          have hz0 : (0 : Int) ≤ (k : Int) := by omega
          by_cases hlt : k < 6
          · have hc := G1.out.at hlt
            obtain ⟨he0, he1⟩ := ex_at HM.out k
            have hz1 : (k : Int) < 6 := by omega
            have HS := Lib.hid (show prodK m D (k + 1) = mulO (dimAt D k) (m.ex k).toNat v from by rw [prodK, HP.out]; rfl)
            have hdz := HALL.out k hlt
            obtain ⟨hd0, hd1⟩ := HD.out k
            have hdd : 0 < m.ex k → 0 < dimAt D k := fun h => by
              unfold zeroAt at hdz
              rw [decide_eq_true h, Bool.true_and] at hdz
              have : dimAt D k ≠ 0 := by simpa using hdz
              omega
            obtain ⟨E, hE⟩ := Int.eq_ofNat_of_zero_le he0
            have HEE := Lib.hid hE; have HDD := Lib.hid hdd
            clear hdz hdd
            go_wp2_with fail
            clear hE
            go_loop [6, 39] (fun n j => ∃ (q : Nat) (u : Int), q ≤ E ∧ j = .int .u8 q ∧ n = .int .i64 u ∧ mulO (dimAt D k) E v = mulO (dimAt D k) (E - q) u ∧ 1 ≤ u ∧ u ≤ 4611686018427387904) (fun _ j => E - (intOf j).toNat)
            case atStart => exact ⟨0, v, Nat.zero_le _, rfl, rfl, rfl, hv0, hv1⟩
            case round =>
              obtain ⟨q, u, hq, rfl, rfl, hmq, hu0, hu1⟩ := hrel
              have HMQ := Lib.hid hmq
              clear hmq
              by_cases hql : q < E
              · have hdp : 0 < dimAt D k := HDD.out (by rw [HEE.out]; omega)
                have hzq : (0 : Int) ≤ (q : Int) := by omega
                have hzq1 : (q : Int) < (E : Int) := by omega
                have hzq2 : (q : Int) + 1 ≤ 255 := by have := HEE.out; omega
                have hquo : (0 : Int) ≤ 4611686018427387904 / dimAt D k := Int.ediv_nonneg (by decide) (by omega)
                have hstep : mulO (dimAt D k) (E - q) u = if 4611686018427387904 / dimAt D k < u then none else mulO (dimAt D k) (E - (q + 1)) (u * dimAt D k) := by rw [show E - q = (E - (q + 1)) + 1 from by omega, mulO]
                by_cases hgt : 4611686018427387904 / dimAt D k < u
                · have hnone : prodK m D (k + 1) = none := by rw [HS.out, HEE.out, Int.toNat_natCast, HMQ.out, hstep, if_pos hgt]
                  have HV2 := Lib.hid (HV.out.trans (prodK_none (by omega) hnone))
                  clear hstep hnone
                  go_wp2_with fail
                  go_ret2
                  exact ⟨by rw [HV2.out]; rfl, HBW.out⟩
                · have hgt' : decide (4611686018427387904 / dimAt D k < u) = false := by simpa using hgt
                  obtain ⟨hm0, hm1⟩ := mul_fits hu0 (by omega) hgt
                  rw [if_neg hgt] at hstep
                  have HST := Lib.hid hstep
                  clear hstep hgt
                  go_wp2_with fail
                  go_round
                  case rel => exact ⟨q + 1, u * dimAt D k, by omega, by go_num, rfl, HMQ.out.trans HST.out, hm0, hm1⟩
                  case measure => simp [intOf]; omega
              · obtain rfl : q = E := by omega
                have HN := Lib.hid (show prodK m D (k + 1) = some u from by rw [HS.out, HEE.out, Int.toNat_natCast, HMQ.out, Nat.sub_self, mulO])
                go_wp2_with fail
                go_round
                case rel => exact ⟨k + 1, u, by omega, by go_num, rfl, HN.out, hu0, hu1⟩
                case measure => simp [intOf]; omega
          · obtain rfl : k = 6 := by omega
            have HV2 := Lib.hid (HV.out.trans HP.out)
            go_wp2_with fail
            go_ret2
            exact ⟨by rw [HV2.out]; rfl, HBW.out⟩
  · have hm0 : m.n < -m.n := by omega
    have hm1 : m.n ≤ -m.n := by omega
    have HP0 : Hid (prodK m D 0 = some (-m.n)) := Lib.hid (by unfold prodK; rw [Int.max_eq_right (by omega)])
    have HN0 : Hid (1 ≤ -m.n ∧ -m.n ≤ 4611686018427387904) := Lib.hid (by omega)
    go_upto_region 2 with fail
    clear y0 hm0 hm1
    go_wp2_with fail
    clear y1 y2 y3 y4 y5 y6
    go_loop [19] (fun i => ∃ k : Nat, k ≤ 6 ∧ i = .int .i64 k ∧ ∀ j, j < k → zeroAt m D j = false) (fun i => 6 - (intOf i).toNat)
    case atStart => exact ⟨0, by omega, rfl, fun j h => absurd h (Nat.not_lt_zero j)⟩
    case round =>
      obtain ⟨k, hk, rfl, hall⟩ := hrel
      have HALL := Lib.hid hall
      clear hall
      have hz0 : (0 : Int) ≤ (k : Int) := by omega
      by_cases hlt : k < 6
      · have hc := G1.out.at hlt
        obtain ⟨he0, he1⟩ := ex_at HM.out k
        have hz1 : (k : Int) < 6 := by omega
        by_cases hep : 0 < m.ex k
        · by_cases hd0 : dimAt D k = 0
          · have HV := Lib.hid (valO_zero hlt (show zeroAt m D k = true from by unfold zeroAt; rw [decide_eq_true hep, hd0]; rfl))
            rw [hd0] at hc
            clear hd0
            go_wp2_with fail
            go_ret2
            exact ⟨by rw [HV.out]; rfl, HBW.out⟩
          · have hd0' : (dimAt D k == 0) = false := by simpa using hd0
            have HZ := Lib.hid (show zeroAt m D k = false from by unfold zeroAt; rw [hd0', Bool.and_false])
            clear hd0
            go_wp2_with fail
            go_round
            case rel => exact ⟨k + 1, by omega, by go_num, fun j hj => by
              by_cases e : j = k
              · rw [e]; exact HZ.out
              · exact HALL.out j (by omega)⟩
            case measure => simp [intOf]; omega
        · have hep' : decide (0 < m.ex k) = false := by simpa using hep
          have HZ := Lib.hid (show zeroAt m D k = false from by unfold zeroAt; rw [hep', Bool.false_and])
          clear hep
          go_wp2_with fail
          go_round
          case rel => exact ⟨k + 1, by omega, by go_num, fun j hj => by
            by_cases e : j = k
            · rw [e]; exact HZ.out
            · exact HALL.out j (by omega)⟩
          case measure => simp [intOf]; omega
      · obtain rfl : k = 6 := by omega
        have HV := Lib.hid (valO_prod (m := m) (D := D) HALL.out)
        have y1 := Y1.out; have y2 := Y2.out; have y3 := Y3.out; have y4 := Y4.out; have y5 := Y5.out; have y6 := Y6.out
        go_wp2_with fail
        clear y1 y2 y3 y4 y5 y6
        go_loop [6, 34] (fun n i => ∃ (k : Nat) (v : Int), k ≤ 6 ∧ i = .int .i64 k ∧ n = .int .i64 v ∧ prodK m D k = some v ∧ 1 ≤ v ∧ v ≤ 4611686018427387904) (fun _ i => 6 - (intOf i).toNat)
        case atStart => exact ⟨0, -m.n, by omega, rfl, rfl, HP0.out, HN0.out.1, HN0.out.2⟩
        case round =>
          obtain ⟨k, v, hk, rfl, rfl, hp, hv0, hv1⟩ := hrel
          have HP := Lib.hid hp
          clear hp
          have hz0 : (0 : Int) ≤ (k : Int) := by omega
          by_cases hlt : k < 6
          · have hc := G1.out.at hlt
            obtain ⟨he0, he1⟩ := ex_at HM.out k
            have hz1 : (k : Int) < 6 := by omega
            have HS := Lib.hid (show prodK m D (k + 1) = mulO (dimAt D k) (m.ex k).toNat v from by rw [prodK, HP.out]; rfl)
            have hdz := HALL.out k hlt
            obtain ⟨hd0, hd1⟩ := HD.out k
            have hdd : 0 < m.ex k → 0 < dimAt D k := fun h => by
              unfold zeroAt at hdz
              rw [decide_eq_true h, Bool.true_and] at hdz
              have : dimAt D k ≠ 0 := by simpa using hdz
              omega
            obtain ⟨E, hE⟩ := Int.eq_ofNat_of_zero_le he0
            have HEE := Lib.hid hE; have HDD := Lib.hid hdd
            clear hdz hdd
            go_wp2_with fail
            clear hE
            go_loop [6, 39] (fun n j => ∃ (q : Nat) (u : Int), q ≤ E ∧ j = .int .u8 q ∧ n = .int .i64 u ∧ mulO (dimAt D k) E v = mulO (dimAt D k) (E - q) u ∧ 1 ≤ u ∧ u ≤ 4611686018427387904) (fun _ j => E - (intOf j).toNat)
            case atStart => exact ⟨0, v, Nat.zero_le _, rfl, rfl, rfl, hv0, hv1⟩
            case round =>
              obtain ⟨q, u, hq, rfl, rfl, hmq, hu0, hu1⟩ := hrel
              have HMQ := Lib.hid hmq
              clear hmq
              by_cases hql : q < E
              · have hdp : 0 < dimAt D k := HDD.out (by rw [HEE.out]; omega)
                have hzq : (0 : Int) ≤ (q : Int) := by omega
                have hzq1 : (q : Int) < (E : Int) := by omega
                have hzq2 : (q : Int) + 1 ≤ 255 := by have := HEE.out; omega
                have hquo : (0 : Int) ≤ 4611686018427387904 / dimAt D k := Int.ediv_nonneg (by decide) (by omega)
                have hstep : mulO (dimAt D k) (E - q) u = if 4611686018427387904 / dimAt D k < u then none else mulO (dimAt D k) (E - (q + 1)) (u * dimAt D k) := by rw [show E - q = (E - (q + 1)) + 1 from by omega, mulO]
                by_cases hgt : 4611686018427387904 / dimAt D k < u
                · have hnone : prodK m D (k + 1) = none := by rw [HS.out, HEE.out, Int.toNat_natCast, HMQ.out, hstep, if_pos hgt]
                  have HV2 := Lib.hid (HV.out.trans (prodK_none (by omega) hnone))
                  clear hstep hnone
                  go_wp2_with fail
                  go_ret2
                  exact ⟨by rw [HV2.out]; rfl, HBW.out⟩
                · have hgt' : decide (4611686018427387904 / dimAt D k < u) = false := by simpa using hgt
                  obtain ⟨hm0, hm1⟩ := mul_fits hu0 (by omega) hgt
                  rw [if_neg hgt] at hstep
                  have HST := Lib.hid hstep
                  clear hstep hgt
                  go_wp2_with fail
                  go_round
                  case rel => exact ⟨q + 1, u * dimAt D k, by omega, by go_num, rfl, HMQ.out.trans HST.out, hm0, hm1⟩
                  case measure => simp [intOf]; omega
              · obtain rfl : q = E := by omega
                have HN := Lib.hid (show prodK m D (k + 1) = some u from by rw [HS.out, HEE.out, Int.toNat_natCast, HMQ.out, Nat.sub_self, mulO])
                go_wp2_with fail
                go_round
                case rel => exact ⟨k + 1, u, by omega, by go_num, rfl, HN.out, hu0, hu1⟩
                case measure => simp [intOf]; omega
          · obtain rfl : k = 6 := by omega
            have HV2 := Lib.hid (HV.out.trans HP.out)
            go_wp2_with fail
            go_ret2
            exact ⟨by rw [HV2.out]; rfl, HBW.out⟩
end Go.Proofs.Ytabodlhlanolcaa

-- DROPS
namespace Go.Proofs.Ytabodlhlanolcaa
set_option maxRecDepth 100000
open Go.RowKit
set_option linter.unusedVariables false
set_option linter.unusedSimpArgs false
attribute [local go_sem ↓] Go.wp_at_zero Go.wp_at_succ

theorem boxX {w : World} {G : Nat} {m : Mono} {t : TypeId} (h : w.heap[G]? = some (.cells m.enc.toArray t (0, 0))) {k : Nat} (hk : k < 6) : w.cell? ⟨G, 1 + k, none⟩ = some (.int .u8 (m.ex k)) := boxE h hk
theorem dimAt_out {D : List Int} {k : Nat} (h : D.length ≤ k) : dimAt D k = 0 := by unfold dimAt; simp [List.getD_eq_getElem?_getD, List.getElem?_eq_none h]
theorem dimAt_in {D : List Int} {k : Nat} (h : k < D.length) : dimAt D k = D[k] := by unfold dimAt; simp [List.getD_eq_getElem?_getD, List.getElem?_eq_getElem h]
end Go.Proofs.Ytabodlhlanolcaa

-- DROPS
namespace Go.Proofs.Ytabodlhlanolcaa
set_option maxRecDepth 100000
open Go.RowKit
set_option linter.unusedVariables false
set_option linter.unusedSimpArgs false
attribute [local go_sem ↓] Go.wp_at_zero Go.wp_at_succ

def evalK (D : List Int) : List Mono → Int → Int → Int × Int
  | [], sum, _ => (sum, 0)
  | m :: r, sum, size => match valO m D with
    | none => (0, 22)
    | some n => if 4611686018427387904 - size < n then (0, 22) else evalK D r (if m.n < 0 then sum - n else sum + n) (size + n)
def dimsB (D : List Int) : Bool := decide (D.length ≤ 6) && D.all fun d => decide (0 ≤ d) && decide (d ≤ 2147483648)
def evalS (p : List Mono) (D : List Int) : Int × Int := if polyB p then (if dimsB D then evalK D p 0 0 else (0, 23)) else (0, 20)
theorem evalK_none {D : List Int} {p : List Mono} {k : Nat} (hk : k < p.length) (sum size : Int) (h : valO p[k] D = none) : evalK D (p.drop k) sum size = (0, 22) := by rw [List.drop_eq_getElem_cons hk, evalK, h]
theorem evalK_big {D : List Int} {p : List Mono} {k : Nat} (hk : k < p.length) (sum size : Int) {n : Int} (h : valO p[k] D = some n) (hb : 4611686018427387904 - size < n) : evalK D (p.drop k) sum size = (0, 22) := by
  rw [List.drop_eq_getElem_cons hk, evalK, h]
  exact if_pos hb
theorem evalK_step {D : List Int} {p : List Mono} {k : Nat} (hk : k < p.length) (sum size : Int) {n : Int} (h : valO p[k] D = some n) (hb : ¬ 4611686018427387904 - size < n) : evalK D (p.drop k) sum size = evalK D (p.drop (k + 1)) (if p[k].n < 0 then sum - n else sum + n) (size + n) := by
  rw [List.drop_eq_getElem_cons hk, evalK, h]
  exact if_neg hb
theorem dims_facts {D : List Int} (h : dimsB D = true) : D.length ≤ 6 ∧ ∀ x ∈ D, 0 ≤ x ∧ x ≤ 2147483648 := by
  unfold dimsB at h
  simp only [Bool.and_eq_true, decide_eq_true_eq, List.all_eq_true] at h
  exact h
theorem dims_bad {D : List Int} {k : Nat} (hk : k < D.length) (h : 6 ≤ k ∨ D[k] < 0 ∨ 2147483648 < D[k]) : dimsB D = false := by
  cases hb : dimsB D with
  | false => rfl
  | true =>
    obtain ⟨h1, h2⟩ := dims_facts hb
    have := h2 _ (List.getElem_mem hk)
    omega
theorem dims_good {D : List Int} (hl : D.length ≤ 6) (h : ∀ k, (hk : k < D.length) → 0 ≤ D[k] ∧ D[k] ≤ 2147483648) : dimsB D = true := by
  unfold dimsB
  rw [decide_eq_true hl, List.all_eq_true.2 fun x hx => by
    obtain ⟨k, hk, rfl⟩ := List.getElem_of_mem hx
    have := h k hk
    simp [this.1, this.2]]
  rfl
theorem dimAt_bd {D : List Int} (h : ∀ x ∈ D, 0 ≤ x ∧ x ≤ 2147483648) (k : Nat) : 0 ≤ dimAt D k ∧ dimAt D k ≤ 2147483648 := by
  unfold dimAt
  rw [List.getD_eq_getElem?_getD]
  cases hc : D[k]? with
  | none => simp
  | some y => exact h y (List.mem_of_getElem? hc)
theorem prodK_bd {m : Mono} {D : List Int} (hm : m.wf) (h0 : 1 ≤ max m.n (-m.n) ∧ max m.n (-m.n) ≤ 4611686018427387904) (hz : ∀ k, k < 6 → zeroAt m D k = false) (hd : ∀ k, 0 ≤ dimAt D k) : ∀ (k : Nat) {v : Int}, k ≤ 6 → prodK m D k = some v → 1 ≤ v ∧ v ≤ 4611686018427387904
  | 0, v, _, h => by cases h; exact h0
  | k + 1, v, hk, h => by
    rw [prodK] at h
    cases hp : prodK m D k with
    | none => rw [hp] at h; cases h
    | some u =>
      rw [hp] at h
      obtain ⟨b1, b2⟩ := prodK_bd hm h0 hz hd k (by omega) hp
      by_cases he : 0 < m.ex k
      · have hz := hz k (by omega)
        unfold zeroAt at hz
        rw [decide_eq_true he, Bool.true_and] at hz
        have : dimAt D k ≠ 0 := by simpa using hz
        have := hd k
        exact mulO_bd (by omega) _ b1 b2 h
      · have he0 := (ex_at hm k).1
        have : (m.ex k).toNat = 0 := by omega
        rw [this] at h
        cases h
        exact ⟨b1, b2⟩
theorem valO_bd {m : Mono} {D : List Int} (hm : m.wf) (hs : smallB m = true) (hd : ∀ k, 0 ≤ dimAt D k) {n : Int} (h : valO m D = some n) : 0 ≤ n ∧ n ≤ 4611686018427387904 := by
  unfold smallB at hs
  simp only [Bool.and_eq_true, decide_eq_true_eq, bne_iff_ne] at hs
  obtain ⟨⟨⟨hs1, hs2⟩, hs3⟩, -⟩ := hs
  unfold valO at h
  split at h
  · cases h; omega
  · rename_i hz
    have hz : ∀ k, k < 6 → zeroAt m D k = false := fun k hk => by
      cases hc : zeroAt m D k with
      | false => rfl
      | true => exact absurd (List.any_eq_true.2 ⟨k, List.mem_range.2 hk, hc⟩) hz
    have := prodK_bd hm (by omega) hz hd 6 (Nat.le_refl _) h
    omega
theorem poly_small {p : List Mono} (h : polyB p = true) {k : Nat} (hk : k < p.length) : smallB p[k] = true := by
  unfold polyB at h
  simp only [Bool.and_eq_true, List.all_eq_true, List.mem_range] at h
  have := h.2 k hk
  unfold fineAt at this
  rw [getD_at hk] at this
  simp only [Bool.and_eq_true] at this
  exact this.1
/-- the first k sides, the others 0 -/
def padK (D : List Int) (k : Nat) : List Int := (List.range 6).map fun j => if j < k then dimAt D j else 0
theorem padK_len (D : List Int) (k : Nat) : (padK D k).length = 6 := by simp [padK]
theorem padK_at (D : List Int) (k : Nat) {j : Nat} (hj : j < 6) : dimAt (padK D k) j = if j < k then dimAt D j else 0 := by
  have : (padK D k)[j]? = some (if j < k then dimAt D j else 0) := by unfold padK; simp [hj]
  unfold dimAt at this ⊢
  rw [List.getD_eq_getElem?_getD, this]
  rfl
theorem padK_set (D : List Int) {k : Nat} (hk : k < 6) : (padK D k).set k (dimAt D k) = padK D (k + 1) := by
  refine List.ext_getElem (by simp [padK]) fun j h1 h2 => ?_
  simp only [padK, List.getElem_set, List.getElem_map, List.getElem_range]
  by_cases e : k = j
  · subst e; simp
  · rw [if_neg e]
    by_cases h : j < k
    · rw [if_pos h, if_pos (by omega)]
    · rw [if_neg h, if_neg (by omega)]
theorem prodK_pad (m : Mono) (D D' : List Int) (h : ∀ j, j < 6 → dimAt D' j = dimAt D j) : ∀ k, k ≤ 6 → prodK m D' k = prodK m D k
  | 0, _ => rfl
  | k + 1, hk => by rw [prodK, prodK, prodK_pad m D D' h k (by omega), h k (by omega)]
theorem valO_pad (m : Mono) {D D' : List Int} (h : ∀ j, j < 6 → dimAt D' j = dimAt D j) : valO m D' = valO m D := by
  unfold valO
  rw [prodK_pad m D D' h 6 (Nat.le_refl _)]
  have : (List.range 6).any (zeroAt m D') = (List.range 6).any (zeroAt m D) := by
    rw [Bool.eq_iff_iff, List.any_eq_true, List.any_eq_true]
    constructor
    · rintro ⟨k, hk, hz⟩
      exact ⟨k, hk, by unfold zeroAt at hz ⊢; rwa [h k (List.mem_range.1 hk)] at hz⟩
    · rintro ⟨k, hk, hz⟩
      exact ⟨k, hk, by unfold zeroAt at hz ⊢; rwa [h k (List.mem_range.1 hk)]⟩
  rw [this]
theorem pad_all {D : List Int} (hl : D.length ≤ 6) : ∀ j, j < 6 → dimAt (padK D D.length) j = dimAt D j := fun j hj => by
  rw [padK_at D _ hj]
  split
  · rfl
  · exact (dimAt_out (by omega)).symm
theorem SixB.set {W : World} {z : Nat} {D : List Int} (h : SixB W z D) {k : Nat} (x : Int) : SixB (W.setCell ⟨z, k, none⟩ (.int .i64 x)) z (D.set k x) := by
  refine ⟨?_, by simpa using h.2⟩
  rw [heap_setCell_same W z k _ _ _ h.1]
  simp [List.map_set]
theorem SixB.frozen {W : World} {z : Nat} {D : List Int} (h : SixB W z D) (k : Nat) : W.frozen? ⟨z, k, none⟩ = false := frozen_of_row W z k _ _ h.1
theorem SixB.below {W W' : World} {z : Nat} {D : List Int} (h : SixB W z D) (hb : Below W.heap.size W W') : SixB W' z D := ⟨keepBlock h.1 hb, h.2⟩
end Go.Proofs.Ytabodlhlanolcaa
