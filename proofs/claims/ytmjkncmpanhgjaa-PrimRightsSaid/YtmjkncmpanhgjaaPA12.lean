import Derived.Test.YtmjkncmpanhgjaaPA11
import Derived.Test.YtmjkncmpanhgjaaPA1
import Derived.Test.YtmjkncmpanhgjaaPA9
namespace Go.Proofs.Ytmjkncmpanhgjaa
set_option maxRecDepth 100000
open Go.RowKit
set_option linter.unusedVariables false
set_option linter.unusedSimpArgs false

/-! How a function that tells an array ends; prim.iota0. -/
theorem RetArr.mono {B B' : Nat} {r : ArrE} {e : Ending} {w : World} (h : RetArr B r e w) (hB : B' ≤ B) : RetArr B' r e w := by
  obtain ⟨v, u, e, h1, h2, h3⟩ := h
  exact ⟨v, u, e, own_mono h1 hB, own_mono h2 hB, h3⟩
theorem retB {f : FuncId} {args : Array Value} {w : World} {B : Nat} {r : ArrE} (hB : B ≤ w.heap.size) (h : Calls Try.prog f args w fun e w' => RetArr w.heap.size r e w' ∧ Below w.heap.size w w') :
    Calls Try.prog f args w fun e w' => RetArr B r e w' ∧ Below w.heap.size w w' := h.mono fun _ _ ⟨h1, h2⟩ => ⟨h1.mono hB, h2⟩
theorem ret_arr {fn : Func} {p q : Tmp} (h : fn.results = #[.cell p 24, .tmp q]) (tmps : Array Value) (w : World) (R : Nat) (v u x : Value)
    (hp : tmps.getD p undef = .pointer (some ⟨R, 0, none⟩)) (hq : tmps.getD q undef = x) (hg : w.heap[R]? = some (.cells #[v, u] 24 (0, 0))) :
    (results fn tmps).run Try.prog w = .ok (.tuple #[.agg #[v, u], x]) w := by
  have hp' : tmps[p]?.getD undef = .pointer (some ⟨R, 0, none⟩) := by simpa using hp
  have hq' : tmps[q]?.getD undef = x := by simpa using hq
  have hl1 := run_loadVar_row (P := Try.prog) w R 24 24 #[v, u] (0, 0) _ hg Try.underlying24 rfl (by kernel_rfl)
  simp [results, h, hp', hq', asAddr, hl1]
theorem fin_arr {fn : Func} {p q : Tmp} (h : fn.results = #[.cell p 24, .tmp q]) {tmps : Array Value} {w w0 : World} {B R : Nat} {v u o1 o2 : Value} {r : ArrE}
    (hp : tmps.getD p undef = .pointer (some ⟨R, 0, none⟩)) (hq : tmps.getD q undef = .int .i64 r.2) (hR : w.heap[R]? = some (.cells #[o1, o2] 24 (0, 0)))
    (hv : RowI B w v r.1.1) (hu : RowI B w u r.1.2) (hap : Apart v u) (hb : Below w0.heap.size w0 w) (hBR : w0.heap.size ≤ R) :
    bodyPost Try.prog fn (fun e w' => RetArr B r e w' ∧ Below w0.heap.size w0 w') .ret { tmps := tmps, defers := [] } ((w.setCell ⟨R, 0, none⟩ v).setCell ⟨R, 1, none⟩ u) := by
  have h1 : (w.setCell ⟨R, 0, none⟩ v).heap[R]? = some (.cells #[v, o2] 24 (0, 0)) := heap_setCell_same w R 0 _ _ _ hR
  have h2 : ((w.setCell ⟨R, 0, none⟩ v).setCell ⟨R, 1, none⟩ u).heap[R]? = some (.cells #[v, u] 24 (0, 0)) := heap_setCell_same _ R 1 _ _ _ h1
  exact bodyPost_ret (ret_arr h _ _ R v u _ hp hq h2) rfl ⟨RetArr.put hv hu hap hR, put_below hb hBR _ _⟩
theorem fault_at (w : World) (B : Nat) (hB : B ≤ w.heap.size) (x : Int) (r : ArrE) (hr : noA x = r) : Calls Try.prog 32 #[.int .i64 x] w fun e w' => RetArr B r e w' ∧ Below w.heap.size w w' := by
  subst hr; exact retB hB (fault_any w x)
theorem Below.two (w : World) (o1 o2 : Obj) : Below w.heap.size w ((w.alloc o1).alloc o2) := ((Below.refl _ _).alloc (Nat.le_refl _) _).alloc (by simp) _
theorem heap_two1 (w : World) (o1 o2 : Obj) : ((w.alloc o1).alloc o2).heap[w.heap.size]? = some o1 := block_alloc (World.alloc_heap_new _ _) _
theorem heap_two2 (w : World) (o1 o2 : Obj) : ((w.alloc o1).alloc o2).heap[w.heap.size + 1]? = some o2 := by
  have := World.alloc_heap_new (w.alloc o1) o2
  rwa [World.size_alloc] at this
theorem made_ints {w : World} {B n : Nat} {v : Value} (h : w.ownsRow B 2 1 v n (madeCells #[.int .i64 0] n).toList) : RowI B w v (List.replicate n 0) := by
  rw [toList_madeCells_one] at h
  unfold RowI
  rw [List.map_replicate, List.length_replicate]
  exact h
theorem rep_step {n k : Nat} (f : Nat → Int) (hk : k < n) : ((List.range k).map f ++ List.replicate (n - k) 0).set k (f k) = (List.range (k + 1)).map f ++ List.replicate (n - (k + 1)) 0 := by
  rw [List.set_append_right _ _ (by simp)]
  obtain ⟨m, hm⟩ : ∃ m, n - k = m + 1 := ⟨n - k - 1, by omega⟩
  rw [hm, show n - (k + 1) = m from by omega]
  simp [List.range_succ, List.replicate_succ]
theorem rep_len {n k : Nat} (f : Nat → Int) (hk : k ≤ n) : ((List.range k).map f ++ List.replicate (n - k) 0).length = n := by simp; omega
/-- one array in its box, and the result's block -/
structure One (w W : World) (v u : Value) : Prop where
  x : W.heap[w.heap.size]? = some (.cells #[v, u] 24 (0, 0))
  r : W.heap[w.heap.size + 1]? = some (.cells #[.slice none 0 0, .slice none 0 0] 24 (0, 0))
  b : Below w.heap.size w W
theorem One.mk0 (w : World) (v u : Value) : One w ((w.alloc (.cells #[v, u] 24)).alloc (.cells #[.slice none 0 0, .slice none 0 0] 24)) v u := ⟨heap_two1 _ _ _, heap_two2 _ _ _, Below.two _ _ _⟩
theorem One.next {w W W' : World} {v u : Value} (h : One w W v u) (hb : Below W.heap.size W W') : One w W' v u := ⟨block_below h.x hb, block_below h.r hb, bNext hb h.b⟩
theorem One.c0 {w W : World} {v u : Value} (h : One w W v u) : W.cell? ⟨w.heap.size, 0, none⟩ = some v := cell_of_row W _ 0 _ _ _ h.x
theorem One.c1 {w W : World} {v u : Value} (h : One w W v u) : W.cell? ⟨w.heap.size, 1, none⟩ = some u := cell_of_row W _ 1 _ _ _ h.x
theorem One.lt {w W : World} {v u : Value} (h : One w W v u) : w.heap.size + 1 < W.heap.size := (Array.getElem?_eq_some_iff.1 h.r).1
theorem One.kt {w W W' : World} {v u : Value} (h : One w W v u) (hb : Below w.heap.size w W') (hk : KeepTy 24 W W') : One w W' v u := ⟨hk _ _ h.x, hk _ _ h.r, hb⟩
set_option maxHeartbeats 4000000 in
theorem iota0_any (w : World) (v u : Value) (s d : List Int) (hs : SlA w v s) (hd : SlA w u d) (hr : right s d = true) :
    Calls Try.prog 33 #[.agg #[v, u]] w fun e w' => RetArr w.heap.size (iotaA s d) e w' ∧ Below w.heap.size w w' := by
  obtain ⟨a0, c0, rfl, h01, h02, -, h04, -⟩ := hs
  obtain ⟨a1, c1, rfl, h11, h12, -, h14, -⟩ := hd
  unfold maxLen at h02 h12
  have HO := Lib.hid (One.mk0 w (.slice a0 s.length c0) (.slice a1 d.length c1))
  by_cases hs0 : 0 < s.length
  · obtain ⟨r, HRR⟩ : ∃ r, Hid (noA 71 = r) := ⟨_, Lib.hid rfl⟩
    have hi : iotaA s d = r := by unfold iotaA; rw [if_pos hs0, HRR.out]
    rw [hi]
    clear h04 h14 hi
    go_enter Try.func33, Try.ntmps33
    go_upto_region 1 with fail
    refine gen_worldA (fun W => One w W (.slice a0 s.length c0) (.slice a1 d.length c1)) HO.out ?_
    rintro W hO
    have hq := fault_at W w.heap.size hO.b.size 71 r HRR.out
    have HQ := Lib.hid hq
    have x0 := hO.c0
    have HR := Lib.hid hO.r; have HB := Lib.hid hO.b
    clear hq hO HO
    go_wp2_with fail
    refine (Hid.out HQ).mono ?_
    rintro e w9 ⟨⟨v9, u9, rfl, hv9, hu9, hap9⟩, hb9⟩
    have hR9 := block_below (Hid.out HR) hb9
    have HV9 := Lib.hid hv9; have HU9 := Lib.hid hu9; have HAP9 := Lib.hid hap9; have HR9 := Lib.hid hR9
    have HB9 := Lib.hid (bNext hb9 (Hid.out HB))
    obtain ⟨a9, c9, rfl, -, -⟩ := RowI.slice hv9
    obtain ⟨a8, c8, rfl, -, -⟩ := RowI.slice hu9
    have g0 := cell_of_row w9 _ 0 _ _ _ hR9; have g1 := cell_of_row w9 _ 1 _ _ _ hR9
    have z0 := frozen_of_row w9 _ 0 _ _ hR9; have z1 := frozen_of_row w9 _ 1 _ _ hR9
    clear hv9 hu9 hap9 hb9 hR9
    go_wp2_with fail
    exact fin_arr rfl rfl rfl HR9.out HV9.out HU9.out HAP9.out HB9.out (by omega)
  · have hd1 : d.length = 1 := by
      have e := (right_good hr).1
      rw [List.eq_nil_of_length_eq_zero (l := s) (by omega)] at e
      have : size [] = (1, 0) := rfl
      rw [this] at e
      injection e with e
      omega
    have hi : iotaA s d = if d.headD 0 < 0 ∨ 65536 < d.headD 0 then noA 73 else okA [d.headD 0] (iotaL (d.headD 0).toNat) := by unfold iotaA; rw [if_neg hs0]
    rw [hi]
    obtain ⟨b, off, rfl, hc⟩ := h14 0 (by omega)
    have hn0 : d[0]'(by omega) = d.headD 0 := by cases d <;> simp at hd1 ⊢
    rw [hn0, Nat.add_zero] at hc
    generalize d.headD 0 = n at hc
    have hd0 : (0 : Int) < (d.length : Int) := by omega
    have HC := Lib.hid hc
    clear h04 h14 hi hd1 hn0 hc
    by_cases hn : n < 0 ∨ 65536 < n
    · obtain ⟨r, HRR⟩ : ∃ r, Hid (noA 73 = r) := ⟨_, Lib.hid rfl⟩
      rw [if_pos hn, HRR.out]
      go_enter Try.func33, Try.ntmps33
      go_upto_region 1 with fail
      refine gen_worldA (fun W => One w W (.slice a0 s.length c0) (.slice (some ⟨b, off, none⟩) d.length c1)) HO.out ?_
      rintro W hO
      have hq := fault_at W w.heap.size hO.b.size 73 r HRR.out
      have HQ := Lib.hid hq
      have x0 := hO.c0; have x1 := hO.c1; have hc := keepCell hO.b HC.out
      have HR := Lib.hid hO.r; have HB := Lib.hid hO.b
      clear hq hO HO HC
      rcases hn with hn | hn
      · go_wp2_with fail
        refine (Hid.out HQ).mono ?_
        rintro e w9 ⟨⟨v9, u9, rfl, hv9, hu9, hap9⟩, hb9⟩
        have hR9 := block_below (Hid.out HR) hb9
        have HV9 := Lib.hid hv9; have HU9 := Lib.hid hu9; have HAP9 := Lib.hid hap9; have HR9 := Lib.hid hR9
        have HB9 := Lib.hid (bNext hb9 (Hid.out HB))
        obtain ⟨a9, c9, rfl, -, -⟩ := RowI.slice hv9
        obtain ⟨a8, c8, rfl, -, -⟩ := RowI.slice hu9
        have g0 := cell_of_row w9 _ 0 _ _ _ hR9; have g1 := cell_of_row w9 _ 1 _ _ _ hR9
        have z0 := frozen_of_row w9 _ 0 _ _ hR9; have z1 := frozen_of_row w9 _ 1 _ _ hR9
        clear hv9 hu9 hap9 hb9 hR9
        go_wp2_with fail
        exact fin_arr rfl rfl rfl HR9.out HV9.out HU9.out HAP9.out HB9.out (by omega)
      · have hn0 : ¬ n < 0 := by omega
        go_wp2_with fail
        refine (Hid.out HQ).mono ?_
        rintro e w9 ⟨⟨v9, u9, rfl, hv9, hu9, hap9⟩, hb9⟩
        have hR9 := block_below (Hid.out HR) hb9
        have HV9 := Lib.hid hv9; have HU9 := Lib.hid hu9; have HAP9 := Lib.hid hap9; have HR9 := Lib.hid hR9
        have HB9 := Lib.hid (bNext hb9 (Hid.out HB))
        obtain ⟨a9, c9, rfl, -, -⟩ := RowI.slice hv9
        obtain ⟨a8, c8, rfl, -, -⟩ := RowI.slice hu9
        have g0 := cell_of_row w9 _ 0 _ _ _ hR9; have g1 := cell_of_row w9 _ 1 _ _ _ hR9
        have z0 := frozen_of_row w9 _ 0 _ _ hR9; have z1 := frozen_of_row w9 _ 1 _ _ hR9
        clear hv9 hu9 hap9 hb9 hR9
        go_wp2_with fail
        exact fin_arr rfl rfl rfl HR9.out HV9.out HU9.out HAP9.out HB9.out (by omega)
    · rw [if_neg hn]
      obtain ⟨m, rfl⟩ : ∃ m : Nat, n = m := ⟨n.toNat, by omega⟩
      have hm : m ≤ 65536 := by omega
      have hn1 : ¬ (m : Int) < 0 := by omega
      have hn2 : ¬ (65536 : Int) < (m : Int) := by omega
      rw [Int.toNat_natCast]
      obtain ⟨r, HRR⟩ : ∃ r, Hid (okA [(m : Int)] (iotaL m) = r) := ⟨_, Lib.hid rfl⟩
      rw [HRR.out]
      obtain ⟨i0, hi, hz0, hz1, hz2⟩ := info_parts Try.info2
      have Hi := Lib.hid hi; have Hz0 := Lib.hid hz0; have Hz1 := Lib.hid hz1; have Hz2 := Lib.hid hz2; clear hi hz0 hz1 hz2 hn
      go_enter Try.func33, Try.ntmps33
      go_upto_region 1 with fail
      refine gen_worldA (fun W => One w W (.slice a0 s.length c0) (.slice (some ⟨b, off, none⟩) d.length c1)) HO.out ?_
      rintro W hO
      have x0 := hO.c0; have x1 := hO.c1; have hc := keepCell hO.b HC.out
      have HO2 := Lib.hid hO
      have hsz := hO.b.size
      clear HO HC hO
      go_wp2_with (at_make; refine wpList_make_full _ rfl _ _ 22 rfl w.heap.size 2 i0 (.int .i64 0) 1 Try.underlying22 Hi.out Hz0.out Hz1.out _ _ _ _ m rfl rfl rfl rfl ?c2 ?c3 ?c4 ?_)
      case c2 => rw [Hz2.out]; omega
      case c3 => unfold maxLen; omega
      intro w1 hown hgrow
      have hO1 := HO2.out.next ((Below.refl _ _).grown hgrow (Nat.le_refl _) (by simp))
      have hrow := made_ints hown
      have HO1 := Lib.hid hO1; have HROW := Lib.hid hrow
      obtain ⟨G, hG⟩ : ∃ G, W.heap.size = G := ⟨_, rfl⟩
      rw [hG] at HROW ⊢
      have hGl : w.heap.size + 1 < G := hG ▸ HO2.out.lt
      clear hown hgrow HO2 hO1 hrow x0 x1 hc hG
      go_wp2_with fail
      go_loopw [31] (fun i wr => ∃ k : Nat, k ≤ m ∧ i = .int .i64 k ∧ One w wr (.slice a0 s.length c0) (.slice (some ⟨b, off, none⟩) d.length c1) ∧ RowI w.heap.size wr (.slice (some ⟨G, 0, none⟩) m m) ((List.range k).map (fun j : Nat => (j : Int)) ++ List.replicate (m - k) 0)) (fun i _ => m - (intOf i).toNat)
      case atStart => exact ⟨0, by omega, rfl, HO1.out, by simpa using HROW.out⟩
      case round =>
        obtain ⟨k, hk, rfl, hO, hrw⟩ := hrel
        by_cases hlt : k < m
        · have hf := hrw.fr k
          have hcc := hrw.at (k := k) (by rw [rep_len _ (by omega)]; exact hlt)
          have hset := hrw.set k (k : Int)
          have hOs : One w (wr.setCell ⟨G, k, none⟩ (.int .i64 (k : Int))) (.slice a0 s.length c0) (.slice (some ⟨b, off, none⟩) d.length c1) :=
            ⟨block_other hO.x (by show G ≠ _; omega) _, block_other hO.r (by show G ≠ _; omega) _, hO.b.setCell (p := ⟨G, k, none⟩) (by show _ ≤ G; omega) _⟩
          rw [rep_step (fun j : Nat => (j : Int)) hlt] at hset
          have HS := Lib.hid hset; have HOS := Lib.hid hOs
          clear hrw hO hset hOs HROW HO1
          go_wp2_with fail
          go_roundw
          case rel => exact ⟨k + 1, by omega, by go_num, HOS.out, HS.out⟩
          case measure => simp [intOf]; omega
        · obtain rfl : k = m := by omega
          have hB := hO.b
          rw [Nat.sub_self, List.replicate_zero, List.append_nil] at hrw
          have hrw2 : RowI w.heap.size wr (.slice (some ⟨G, 0, none⟩) k k) (iotaL k) := hrw
          have HO3 := Lib.hid hO; have HRW := Lib.hid hrw2
          clear hO hrw hrw2 HROW HO1 hlt
          go_wp2_with fail
          have hba : Below wr.heap.size wr (wr.alloc (.cells #[.int .i64 (k : Int)] 2)) := (Below.refl _ _).alloc (Nat.le_refl _) _
          have hq := good_any (wr.alloc (.cells #[.int .i64 (k : Int)] 2)) w.heap.size (Nat.le_trans hB.size hba.size) (some ⟨wr.heap.size, 0, none⟩) 1 1 [(k : Int)] (iotaL k) (.slice (some ⟨G, 0, none⟩) k k) rfl (by simp) (IntsAt.lit .i64 wr 2 [(k : Int)]) (HRW.out.below hba)
          rw [HRR.out] at hq
          have HQ := Lib.hid hq; have HR := Lib.hid (HO3.out.next hba).r; have HB := Lib.hid (HO3.out.next hba).b
          clear hq hba
          refine (Hid.out HQ).mono ?_
          rintro e w9 ⟨⟨v9, u9, rfl, hv9, hu9, hap9⟩, hb9⟩
          have hR9 := block_below (Hid.out HR) hb9
          have HV9 := Lib.hid hv9; have HU9 := Lib.hid hu9; have HAP9 := Lib.hid hap9; have HR9 := Lib.hid hR9
          have HB9 := Lib.hid (bNext hb9 (Hid.out HB))
          obtain ⟨a9, c9, rfl, -, -⟩ := RowI.slice hv9
          obtain ⟨a8, c8, rfl, -, -⟩ := RowI.slice hu9
          have g0 := cell_of_row w9 _ 0 _ _ _ hR9; have g1 := cell_of_row w9 _ 1 _ _ _ hR9
          have z0 := frozen_of_row w9 _ 0 _ _ hR9; have z1 := frozen_of_row w9 _ 1 _ _ hR9
          clear hv9 hu9 hap9 hb9 hR9
          go_wp2_with fail
          exact fin_arr rfl rfl rfl HR9.out HV9.out HU9.out HAP9.out HB9.out (by omega)
end Go.Proofs.Ytmjkncmpanhgjaa

namespace Go.Proofs.Ytmjkncmpanhgjaa
set_option linter.unusedVariables false
set_option linter.unusedSimpArgs false
set_option maxRecDepth 100000

theorem placeTo_cases : ∀ (xs ys : List Int) (m : Int), placeTo m xs ys = (0, 62) ∨ ∃ n, placeTo m xs ys = (n, 0)
  | [], _, m => .inr ⟨m, by simp [placeTo]⟩
  | _ :: _, [], m => .inr ⟨m, by simp [placeTo]⟩
  | s :: xs, k :: ys, m => by
    rw [placeTo]
    split
    · exact .inl rfl
    · exact placeTo_cases xs ys _

theorem place_cases (xs ys : List Int) : ((place xs ys).2 ≠ 0 ∧ (place xs ys).1 = 0) ∨ ∃ n m, place xs ys = (n, 0) ∧ size xs = (m, 0) ∧ ys.length = xs.length ∧ placeTo 0 xs ys = (n, 0) := by
  unfold place
  rcases size_err xs with h | ⟨m, h⟩
  · left; rw [h]; simp
  · rw [h, if_pos rfl]
    by_cases hl : ys.length = xs.length
    · rw [if_pos hl]
      rcases placeTo_cases xs ys 0 with h2 | ⟨n, h2⟩
      · left; rw [h2]; simp
      · right; exact ⟨n, m, h2, rfl, hl, h2⟩
    · left; rw [if_neg hl]; simp

theorem placeTo_spec : ∀ (xs ys : List Int) (m n : Int), ys.length = xs.length → 0 ≤ m → placeTo m xs ys = (n, 0) → ∃ q, n = m * prodL xs + q ∧ 0 ≤ q ∧ q < prodL xs ∧ idx xs n = ys
  | [], [], m, n, _, _, h => by simp [placeTo] at h; exact ⟨0, by simp [prodL, h], by omega, by simp [prodL], rfl⟩
  | [], _ :: _, _, _, hl, _, _ => by simp at hl
  | _ :: _, [], _, _, hl, _, _ => by simp at hl
  | s :: xs, k :: ys, m, n, hl, hm, h => by
    rw [placeTo] at h
    split at h
    · simp at h
    · rename_i hk
      have hk0 : 0 ≤ k := by omega
      have hks : k < s := by omega
      have hms : 0 ≤ m * s := Int.mul_nonneg hm (by omega)
      obtain ⟨q, h1, h2, h3, h4⟩ := placeTo_spec xs ys (m * s + k) n (by simpa using hl) (by omega) h
      have hR : 0 < prodL xs := by omega
      have hdiv : n / prodL xs = m * s + k := by
        rw [h1, Int.add_comm, Int.add_mul_ediv_right _ _ (by omega), Int.ediv_eq_zero_of_lt h2 h3, Int.zero_add]
      refine ⟨k * prodL xs + q, ?_, ?_, ?_, ?_⟩
      · rw [h1, prodL, Int.add_mul, Int.mul_assoc, Int.add_assoc]
      · have := Int.mul_nonneg hk0 (Int.le_of_lt hR); omega
      · have : (k + 1) * prodL xs ≤ s * prodL xs := Int.mul_le_mul_of_nonneg_right (by omega) (Int.le_of_lt hR)
        rw [Int.add_mul] at this
        rw [prodL]; omega
      · rw [idx, hdiv, h4, Int.add_comm, Int.add_mul_emod_self_right, Int.emod_eq_of_lt hk0 hks]

theorem emod_mul (p R s : Int) (hR : 0 ≤ R) : p % (s * R) = (p / R) % s * R + p % R := by
  rw [Int.emod_def, Int.emod_def (p / R), Int.emod_def p R, Int.sub_mul, Int.mul_comm s R, ← Int.ediv_ediv_of_nonneg hR]
  rw [Int.mul_comm R (p / R)]
  have : s * (p / R / s) * R = R * s * (p / R / s) := by rw [Int.mul_comm (s * _) R, Int.mul_assoc]
  omega

theorem placeTo_idx : ∀ (xs : List Int) (m p : Int), (∀ x ∈ xs, 0 < x) → placeTo m xs (idx xs p) = (m * prodL xs + p % prodL xs, 0)
  | [], m, p, _ => by simp [placeTo, prodL]
  | s :: r, m, p, h => by
    have hs : 0 < s := h s (by simp)
    have hr : ∀ x ∈ r, 0 < x := fun x hx => h x (by simp [hx])
    rw [idx, placeTo, if_neg (by have := Int.emod_nonneg (p / prodL r) (by omega : s ≠ 0); have := Int.emod_lt_of_pos (p / prodL r) hs; omega), placeTo_idx r _ p hr, prodL,
      emod_mul p (prodL r) s (Int.le_of_lt (prodL_pos hr)), Int.add_mul, Int.mul_assoc, Int.add_assoc]

theorem index_place {xs i : List Int} {p : Int} (h : index xs p = (i, 0)) : place xs i = (p, 0) ∧ i.length = xs.length := by
  unfold index at h
  rcases size_err xs with he | ⟨m, he⟩
  · rw [he] at h; simp at h
  · rw [he, if_pos rfl] at h
    split at h
    · simp at h
    · rename_i hp
      simp only [Prod.mk.injEq, and_true] at h
      have g := size_good he
      have hpos : ∀ x ∈ xs, 0 < x := fun x hx => by
        have := g.side x hx
        have : x ≠ 0 := fun e => by have := g.zero.2 ⟨x, hx, e⟩; simp only [] at hp; omega
        omega
      have hlen : i.length = xs.length := by rw [← h, length_idx]
      refine ⟨?_, hlen⟩
      unfold place
      rw [he, if_pos rfl, if_pos hlen, ← h, placeTo_idx xs 0 p hpos, Int.zero_mul, Int.zero_add, Int.emod_eq_of_lt (by omega) (by rw [← g.prod]; simp only [] at hp; omega)]

theorem index_err {xs : List Int} {p : Int} (h : (index xs p).2 ≠ 0) : (index xs p).1 = [] := by
  unfold index at *
  split
  · rename_i h1
    rw [if_pos h1] at h
    split
    · rfl
    · rename_i h2; rw [if_neg h2] at h; simp at h
  · rfl

theorem place_index {xs ys : List Int} {n : Int} (h : place xs ys = (n, 0)) : ∃ m, size xs = (m, 0) ∧ index xs n = (ys, 0) ∧ 0 ≤ n ∧ n < m := by
  rcases place_cases xs ys with ⟨h1, _⟩ | ⟨n', m, h1, h2, h3, h4⟩
  · rw [h] at h1; simp at h1
  · rw [h] at h1
    obtain rfl : n = n' := by simpa using h1
    obtain ⟨q, e1, e2, e3, e4⟩ := placeTo_spec xs ys 0 n h3 (by omega) h4
    have g := size_good h2
    have hm := g.prod
    refine ⟨m, h2, ?_, by omega, by omega⟩
    unfold index
    rw [h2, if_pos rfl, if_neg (by simp only []; omega), e4]

/-- of two indexes the one that is ahead has the lesser place -/
theorem placeTo_rises : ∀ (xs a b : List Int) (c n m : Int) (k : Nat) (ha : k < a.length) (hb : k < b.length), a.length = xs.length → b.length = xs.length → 0 ≤ c → a.take k = b.take k →
    placeTo c xs a = (n, 0) → placeTo c xs b = (m, 0) → a[k] ≠ b[k] → (n < m ↔ a[k] < b[k]) ∧ n ≠ m
  | [], [], _, _, _, _, _, ha, _, _, _, _, _, _, _, _ => absurd ha (by simp)
  | [], _ :: _, _, _, _, _, _, _, _, hl, _, _, _, _, _, _ => by simp at hl
  | _ :: _, [], _, _, _, _, _, ha, _, _, _, _, _, _, _, _ => absurd ha (by simp)
  | _ :: _, _ :: _, [], _, _, _, _, _, hb, _, _, _, _, _, _, _ => absurd hb (by simp)
  | s :: xs, x :: a, y :: b, c, n, m, k, ha, hb, la, lb, hc, ht, h1, h2, hne => by
    rw [placeTo] at h1 h2
    split at h1
    · simp at h1
    · split at h2
      · simp at h2
      · rename_i hx hy
        have hcs : 0 ≤ c * s := Int.mul_nonneg hc (by omega)
        cases k with
        | zero =>
          obtain ⟨q1, e1, f1, g1, _⟩ := placeTo_spec xs a (c * s + x) n (by simpa using la) (by omega) h1
          obtain ⟨q2, e2, f2, g2, _⟩ := placeTo_spec xs b (c * s + y) m (by simpa using lb) (by omega) h2
          simp only [List.getElem_cons_zero] at hne ⊢
          have key : ∀ {u v : Int}, u < v → (c * s + u) * prodL xs + prodL xs ≤ (c * s + v) * prodL xs := fun {u v} huv => by
            have := Int.mul_le_mul_of_nonneg_right (by omega : c * s + u + 1 ≤ c * s + v) (by omega : 0 ≤ prodL xs)
            rw [Int.add_mul (c * s + u) 1, Int.one_mul] at this
            exact this
          rcases Int.lt_trichotomy x y with h | h | h
          · have := key h
            exact ⟨⟨fun _ => h, fun _ => by omega⟩, by omega⟩
          · exact absurd h hne
          · have := key h
            exact ⟨⟨fun _ => by omega, fun _ => by omega⟩, by omega⟩
        | succ k =>
          simp only [List.take_succ_cons, List.cons.injEq] at ht
          obtain ⟨rfl, ht⟩ := ht
          simp only [List.getElem_cons_succ] at hne ⊢
          exact placeTo_rises xs a b (c * s + x) n m k (by simpa using ha) (by simpa using hb) (by simpa using la) (by simpa using lb) (by omega) ht h1 h2 hne
end Go.Proofs.Ytmjkncmpanhgjaa

namespace Go.Proofs.Ytmjkncmpanhgjaa
set_option maxRecDepth 100000
set_option linter.unusedVariables false
set_option linter.unusedSimpArgs false

/-! Turning: places by the sides from the last one on. -/
theorem prodTo_pos : ∀ (xs : List Int) (n : Int), (∀ x ∈ xs, 0 < x) → 0 < n → n ≤ 65536 → prodTo n xs = if 65536 < n * prodL xs then (0, 61) else (n * prodL xs, 0)
  | [], n, _, h0, h1 => by simp only [prodTo, prodL, Int.mul_one]; rw [if_neg (by omega)]
  | x :: xs, n, hx, h0, h1 => by
    have hx0 : 0 < x := hx x (by simp)
    have hp : 0 < prodL xs := prodL_pos fun y hy => hx y (by simp [hy])
    have hn : 0 < n * x := Int.mul_pos h0 hx0
    rw [prodTo, prodL, ← Int.mul_assoc]
    by_cases hb : 65536 < n * x
    · rw [if_pos hb, if_pos]
      have : n * x * 1 ≤ n * x * prodL xs := Int.mul_le_mul_of_nonneg_left (by omega) (by omega)
      omega
    · rw [if_neg hb, prodTo_pos xs (n * x) (fun y hy => hx y (by simp [hy])) hn (by omega)]
theorem prodL_reverse (xs : List Int) : prodL xs.reverse = prodL xs := by
  induction xs with
  | nil => rfl
  | cons x xs ih => rw [List.reverse_cons, prodL_append, ih]; simp only [prodL, Int.mul_one]; rw [Int.mul_comm]
theorem size_reverse (xs : List Int) : size xs.reverse = size xs := by
  unfold size
  rw [List.length_reverse, List.any_reverse, List.any_reverse]
  split
  · rfl
  · split
    · rfl
    · rename_i hb
      split
      · rfl
      · rename_i hz
        have hp : ∀ x ∈ xs, 0 < x := fun x hx => by
          have h1 : xs.any badSide = false := by simpa using hb
          have h2 := badSide_false (by rw [List.any_eq_false] at h1; simpa using h1 x hx)
          have h3 : x ≠ 0 := fun e => hz (List.any_eq_true.2 ⟨x, hx, by simp [e]⟩)
          omega
        rw [prodTo_pos xs 1 hp (by omega) (by omega), prodTo_pos xs.reverse 1 (fun x hx => hp x (List.mem_reverse.1 hx)) (by omega) (by omega), prodL_reverse]
theorem right_reverse (s d : List Int) : right s.reverse d = right s d := by unfold right; rw [size_reverse]
theorem idx_in : ∀ (xs : List Int) (p : Int), (∀ x ∈ xs, 0 < x) → ∀ k (h : k < xs.length) (h' : k < (idx xs p).length), 0 ≤ (idx xs p)[k] ∧ (idx xs p)[k] < xs[k]
  | [], p, _, k, h, _ => by simp at h
  | x :: xs, p, hx, 0, h, h' => ⟨Int.emod_nonneg _ (by have := hx x (by simp); omega), Int.emod_lt_of_pos _ (hx x (by simp))⟩
  | x :: xs, p, hx, k + 1, h, h' => idx_in xs p (fun y hy => hx y (by simp [hy])) k (by simpa using h) (by simpa [idx] using h')
theorem placeTo_in : ∀ (xs ys : List Int) (m : Int), ys.length = xs.length → (∀ k (h : k < xs.length) (h' : k < ys.length), 0 ≤ ys[k] ∧ ys[k] < xs[k]) → ∃ n, placeTo m xs ys = (n, 0)
  | [], ys, m, _, _ => ⟨m, by cases ys <;> rfl⟩
  | x :: xs, [], m, hl, _ => by simp at hl
  | x :: xs, y :: ys, m, hl, h => by
    have h0 := h 0 (by simp) (by simp)
    simp only [List.getElem_cons_zero] at h0
    rw [placeTo, if_neg (by omega)]
    exact placeTo_in xs ys _ (by simpa using hl) fun k h1 h2 => by
      have := h (k + 1) (by simpa using h1) (by simpa using h2)
      simpa using this
theorem right_size {s d : List Int} (h : right s d = true) : size s = ((d.length : Int), 0) := (right_good h).1
theorem right_pos {s d : List Int} (h : right s d = true) (h0 : 0 < d.length) : ∀ x ∈ s, 0 < x := fun x hx => by
  have g := (right_good h).2
  have := g.side x hx
  have : x ≠ 0 := fun e => by have := g.zero.2 ⟨x, hx, e⟩; omega
  omega
theorem idx_rev {s d : List Int} (h : right s d = true) {i : Nat} (hi : i < d.length) : index s.reverse i = (idx s.reverse i, 0) := by
  unfold index
  rw [size_reverse, right_size h, if_pos rfl, if_neg (by simp only []; omega)]
/-- where the number at place i of the turned one stood -/
theorem turn_place {s d : List Int} (h : right s d = true) {i : Nat} (hi : i < d.length) : place s (idx s.reverse i).reverse = ((turnAt s i : Int), 0) ∧ turnAt s i < d.length ∧ turnAt s.reverse (turnAt s i) = i := by
  have hp := right_pos h (by omega)
  have hl : (idx s.reverse i).reverse.length = s.length := by rw [List.length_reverse, length_idx, List.length_reverse]
  obtain ⟨n, hn⟩ := placeTo_in s (idx s.reverse i).reverse 0 hl (fun k h1 h2 => by
    rw [List.getElem_reverse]
    have hlr : (idx s.reverse i).length = s.length := by rw [length_idx, List.length_reverse]
    have := idx_in s.reverse i (fun x hx => hp x (List.mem_reverse.1 hx)) ((idx s.reverse i).length - 1 - k) (by rw [List.length_reverse]; omega) (by omega)
    refine ⟨this.1, ?_⟩
    have h3 := this.2
    rw [List.getElem_reverse] at h3
    have e : s.length - 1 - ((idx s.reverse i).length - 1 - k) = k := by omega
    simpa only [e] using h3)
  have hpl : place s (idx s.reverse i).reverse = (n, 0) := by
    unfold place
    rw [right_size h, if_pos rfl, if_pos hl, hn]
  obtain ⟨m, e1, e2, e3, e4⟩ := place_index hpl
  rw [right_size h] at e1
  have hm : (d.length : Int) = m := by injection e1
  have ht : turnAt s i = n.toNat := by unfold turnAt; rw [hpl]
  have hq : idx s n = (idx s.reverse i).reverse := by
    unfold index at e2
    rw [right_size h, if_pos rfl, if_neg (by simp only []; omega)] at e2
    injection e2
  refine ⟨by rw [hpl, ht]; congr 1; omega, by omega, ?_⟩
  unfold turnAt
  rw [List.reverse_reverse]
  have hb : ((place s (idx s.reverse ↑i).reverse).fst.toNat : Int) = n := by rw [hpl]; simp only []; omega
  rw [hb, hq, List.reverse_reverse]
  have := (index_place (idx_rev h hi)).1
  rw [this]
  simp
theorem turnD_len (s d : List Int) : (turnD s d).length = d.length := by simp [turnD]
theorem turnD_get {s d : List Int} {i : Nat} (hi : i < d.length) : (turnD s d).getD i 0 = d.getD (turnAt s i) 0 := by
  unfold turnD
  rw [List.getD_eq_getElem?_getD, List.getElem?_map]
  simp [hi]
theorem turn_twice {s d : List Int} (h : right s d = true) : turnD s.reverse (turnD s d) = d := by
  apply List.ext_getElem
  · rw [turnD_len, turnD_len]
  · intro i h1 h2
    have h3 : (turnD s.reverse (turnD s d)).getD i 0 = d.getD i 0 := by
      rw [turnD_get (by rw [turnD_len]; exact h2)]
      have hr : right s.reverse d = true := by rw [right_reverse]; exact h
      obtain ⟨-, t2, t3⟩ := turn_place hr h2
      rw [List.reverse_reverse] at t3
      rw [turnD_get t2, t3]
    simpa [List.getD_eq_getElem?_getD, h1, h2] using h3
end Go.Proofs.Ytmjkncmpanhgjaa

namespace Go.Proofs.Ytmjkncmpanhgjaa
set_option maxRecDepth 100000
open Go.RowKit
set_option linter.unusedVariables false
set_option linter.unusedSimpArgs false

/-! prim.turn. -/
theorem RowI.ints {B n c : Nat} {a : Option Addr} {w : World} {xs : List Int} (h : RowI B w (.slice a n c) xs) : IntsAt .i64 w a xs := by
  obtain ⟨a', c', e, _, hi⟩ := h.slice
  simp only [Value.slice.injEq] at e
  rw [e.1]; exact hi
def turnA (s d : List Int) : ArrE := okA s.reverse (turnD s d)
theorem turnD_rep (s d : List Int) : (List.range d.length).map (fun i => d.getD (turnAt s i) 0) = turnD s d := rfl
theorem below_row {B : Nat} {w w1 w2 : World} {v : Value} {xs : List Int} (h1 : Below w.heap.size w w1) (hr : RowI w.heap.size w1 v xs) (hk : KB (fun g => v.ownBlock = some g) w1 w2) : Below w.heap.size w w2 :=
  h1.trans (hk.below h1.size (fun g e => (hr.lt g e).1))
set_option maxHeartbeats 8000000 in
theorem turn_any (w : World) (v u : Value) (s d : List Int) (hs : SlA w v s) (hd : SlA w u d) (hr : right s d = true) :
    Calls Try.prog 39 #[.agg #[v, u]] w fun e w' => RetArr w.heap.size (turnA s d) e w' ∧ Below w.heap.size w w' := by
  obtain ⟨a0, c0, rfl, h01, h02, -, h04, -⟩ := hs
  obtain ⟨a1, c1, rfl, h11, h12, -, h14, -⟩ := hd
  have hg := (right_good hr).2
  have hs4 := hg.len
  have hd6 := hg.le
  have HRT := Lib.hid hr; have H0 := Lib.hid h04; have H1 := Lib.hid h14
  have HO := Lib.hid (One.mk0 w (.slice a0 s.length c0) (.slice a1 d.length c1))
  obtain ⟨r, HRR⟩ : ∃ r, Hid (turnA s d = r) := ⟨_, Lib.hid rfl⟩
  rw [HRR.out]
  obtain ⟨i0, hi, hz0, hz1, hz2⟩ := info_parts Try.info2
  have Hi := Lib.hid hi; have Hz0 := Lib.hid hz0; have Hz1 := Lib.hid hz1; have Hz2 := Lib.hid hz2; clear hi hz0 hz1 hz2
  have h02' : c0 ≤ 9223372036854775807 := h02
  have h12' : c1 ≤ 9223372036854775807 := h12
  clear hr h04 h14 hg h02 h12
  go_enter Try.func39, Try.ntmps39
  go_upto_region 1 with fail
  refine gen_worldA (fun W => One w W (.slice a0 s.length c0) (.slice a1 d.length c1)) HO.out ?_
  rintro W hO
  have hq := clone_any W a0 c0 s (by omega) (H0.out.below hO.b (Nat.le_refl _))
  have HQ := Lib.hid hq; have HO1 := Lib.hid hO
  have x0 := hO.c0
  clear hq hO HO
  go_wp2_with fail
  refine HQ.out.mono ?_
  rintro e w1 ⟨⟨v4, rfl, hv4⟩, hb1⟩
  have HO2 := Lib.hid (HO1.out.next hb1)
  have hq := reverse_any w1 W.heap.size v4 s hv4
  have HQ2 := Lib.hid hq; have HB1 := Lib.hid hb1; have HV := Lib.hid hv4
  clear hq hv4 hb1 HQ x0
  go_wp2_with fail
  refine HQ2.out.mono ?_
  rintro e w2 ⟨rfl, hv5, hk2⟩
  have hb2 : Below W.heap.size W w2 := below_row (B := 0) HB1.out HV.out hk2
  have HO3 := Lib.hid (HO1.out.next hb2)
  have x1 := HO3.out.c1
  have HV5 := Lib.hid (hv5.mono HO1.out.b.size)
  obtain ⟨a4, c4, e4, -, -⟩ := hv5.slice
  rw [List.length_reverse] at e4
  subst e4
  have hsz := HO3.out.b.size
  clear hb2 hk2 HQ2 hv5 HV HB1 HO2 HO1
  go_wp2_with (at_make; refine wpList_make_full _ rfl _ _ 22 rfl w.heap.size 2 i0 (.int .i64 0) 1 Try.underlying22 Hi.out Hz0.out Hz1.out _ _ _ _ d.length rfl rfl rfl rfl ?c2 ?c3 ?c4 ?_)
  case c2 => rw [Hz2.out]; omega
  case c3 => unfold maxLen; omega
  case c4 => exact hsz
  intro w3 hown hgrow
  have hb3 : Below w2.heap.size w2 w3 := (Below.refl _ _).grown hgrow (Nat.le_refl _) (by simp)
  have HO4 := Lib.hid (HO3.out.next hb3)
  have HROW := Lib.hid (made_ints hown)
  have HV6 := Lib.hid (HV5.out.below hb3)
  obtain ⟨G, hG⟩ : ∃ G, w2.heap.size = G := ⟨_, rfl⟩
  have HAP : Hid (∀ g, (Value.slice a4 s.length c4).ownBlock = some g → g ≠ G) := Lib.hid fun g e => by have := (HV5.out.lt g e).2; omega
  rw [hG] at HROW ⊢
  have hGl : w.heap.size + 1 < G := hG ▸ HO3.out.lt
  clear hown hgrow HO3 x1 hG hb3 HV5
  go_wp2_with fail
  go_loopw [22] (fun i wr => ∃ k : Nat, k ≤ d.length ∧ i = .int .i64 k ∧ One w wr (.slice a0 s.length c0) (.slice a1 d.length c1) ∧ RowI w.heap.size wr (.slice a4 s.length c4) s.reverse ∧
    RowI w.heap.size wr (.slice (some ⟨G, 0, none⟩) d.length d.length) ((List.range k).map (fun i => d.getD (turnAt s i) 0) ++ List.replicate (d.length - k) 0)) (fun i _ => d.length - (intOf i).toNat)
  case atStart => exact ⟨0, by omega, rfl, HO4.out, HV6.out, by simpa using HROW.out⟩
  case round =>
    obtain ⟨k, hk, rfl, hO, hv, hrw⟩ := hrel
    clear HO4 HV6 HROW
    by_cases hlt : k < d.length
    · have hia : IntsAt .i64 wr a4 s.reverse := RowI.ints hv
      -- ⟨a, c, e, -, h⟩ := RowI.slice hv; cases e; exact h
      have hq := index_any wr a4 c4 s.reverse k (by rw [List.length_reverse]; unfold maxLen; omega) hia
      rw [List.length_reverse, idx_rev HRT.out hlt] at hq
      obtain ⟨ht1, ht2, -⟩ := turn_place HRT.out hlt
      have hset := fun W (h : RowI w.heap.size W (.slice (some ⟨G, 0, none⟩) d.length d.length) ((List.range k).map (fun i => d.getD (turnAt s i) 0) ++ List.replicate (d.length - k) 0)) => by
        have := h.set k (d.getD (turnAt s k) 0)
        rwa [rep_step (fun i => d.getD (turnAt s i) 0) hlt] at this
      obtain ⟨b1, off1, rfl, hc1⟩ := H1.out _ ht2
      have hdt : d[turnAt s k]'ht2 = d.getD (turnAt s k) 0 := by rw [List.getD_eq_getElem?_getD, List.getElem?_eq_getElem ht2]; rfl
      rw [hdt] at hc1
      have hfr := hrw.fr k
      have hgc := hrw.at (k := k) (by rw [rep_len _ (by omega)]; exact hlt)
      have hil : (idx s.reverse (k : Int)).length = s.length := by rw [length_idx, List.length_reverse]
      generalize idx s.reverse (k : Int) = ix at hq ht1 hil
      have HQ := Lib.hid hq; have HT := Lib.hid ht1; have HIL := Lib.hid hil; have HSET := Lib.hid hset; have HOR := Lib.hid hO; have HV := Lib.hid hv; have HRW := Lib.hid hrw; have HC1 := Lib.hid (keepCell hO.b hc1)
      generalize d.getD (turnAt s k) 0 = y at hc1 hset HSET HC1
      generalize turnAt s k = t at *
      clear hil hq hia ht1 hset hO hv hrw hc1 hdt hfr hgc
      go_wp2_with fail
      refine HQ.out.mono ?_
      rintro e w5 ⟨⟨v5, rfl, hv5⟩, hb5⟩
      have hq := reverse_any w5 wr.heap.size v5 _ hv5
      have HQ5 := Lib.hid hq; have HB5 := Lib.hid hb5; have HV5 := Lib.hid hv5
      clear hq hv5 hb5 HQ
      go_wp2_with fail
      refine HQ5.out.mono ?_
      rintro e w6 ⟨rfl, hv6, hk6⟩
      have hb6 : Below wr.heap.size wr w6 := below_row (B := 0) HB5.out HV5.out hk6
      have hO6 := HOR.out.next hb6
      obtain ⟨a6, c6, e6, -, hi6⟩ := hv6.slice
      have hq := place_any w6 a0 a6 c0 c6 s ix.reverse (by unfold maxLen; omega) (by rw [List.length_reverse, HIL.out]; unfold maxLen; omega) (H0.out.below hO6.b (Nat.le_refl _)) hi6
      rw [List.length_reverse, HIL.out] at hq e6
      rw [HT.out] at hq
      subst e6
      have HB6 := Lib.hid hb6; have HQ6 := Lib.hid hq; have HO6 := Lib.hid hO6
      have x0 := hO6.c0
      clear hb6 hq hO6 hv6 hk6 hi6 HB5 HV5 HQ5 HT
      go_wp2_with fail
      refine HQ6.out.mono ?_
      rintro e w7 ⟨rfl, hb7⟩
      have hb7' := HB6.out.trans (hb7.mono HB6.out.size)
      have hO7 := HOR.out.next hb7'
      have x1 := hO7.c1
      have hcc := keepCell hb7' HC1.out
      have hr7 := HRW.out.below hb7'
      have hf7 := hr7.fr k
      have hg7 := hr7.at (k := k) (by rw [rep_len _ (by omega)]; exact hlt)
      have HV7 := Lib.hid (HV.out.below hb7'); have HO7 := Lib.hid hO7; have HR7 := Lib.hid hr7
      have hkd : (k : Int) < (d.length : Int) := by omega
      have htd : (t : Int) < (d.length : Int) := by omega
      clear x0 HB6 HQ6 HO6 HOR HV HRW HC1 hb7 hb7' hO7 hr7
      unfold two
      go_wp2_with fail
      go_roundw
      case rel =>
        refine ⟨k + 1, by omega, by go_num, ?_, ?_, HSET.out _ HR7.out⟩
        · exact ⟨block_other HO7.out.x (by show G ≠ _; omega) _, block_other HO7.out.r (by show G ≠ _; omega) _, HO7.out.b.setCell (p := ⟨G, k, none⟩) (by show _ ≤ G; omega) _⟩
        · exact own_other HV7.out HAP.out _
      case measure => simp [intOf]; omega
    · obtain rfl : k = d.length := by omega
      rw [Nat.sub_self, List.replicate_zero, List.append_nil, turnD_rep] at hrw
      have hq := good_any wr w.heap.size hO.b.size a4 s.length c4 s.reverse (turnD s d) (.slice (some ⟨G, 0, none⟩) d.length d.length) (by simp) (by simp; omega) (RowI.ints hv) hrw
      rw [show okA s.reverse (turnD s d) = r from HRR.out] at hq
      have HQ := Lib.hid hq; have HR := Lib.hid hO.r; have HB := Lib.hid hO.b
      clear hq hO hv hrw hlt
      go_wp2_with fail
      refine (Hid.out HQ).mono ?_
      rintro e w9 ⟨⟨v9, u9, rfl, hv9, hu9, hap9⟩, hb9⟩
      have hR9 := block_below (Hid.out HR) hb9
      have HV9 := Lib.hid hv9; have HU9 := Lib.hid hu9; have HAP9 := Lib.hid hap9; have HR9 := Lib.hid hR9
      have HB9 := Lib.hid (bNext hb9 (Hid.out HB))
      obtain ⟨a9, c9, rfl, -, -⟩ := RowI.slice hv9
      obtain ⟨a8, c8, rfl, -, -⟩ := RowI.slice hu9
      have g0 := cell_of_row w9 _ 0 _ _ _ hR9; have g1 := cell_of_row w9 _ 1 _ _ _ hR9
      have z0 := frozen_of_row w9 _ 0 _ _ hR9; have z1 := frozen_of_row w9 _ 1 _ _ hR9
      clear hv9 hu9 hap9 hb9 hR9
      go_wp2_with fail
      exact fin_arr rfl rfl rfl HR9.out HV9.out HU9.out HAP9.out HB9.out (by omega)
end Go.Proofs.Ytmjkncmpanhgjaa
