import Derived.Test.YtokghjnkfabgiaaGreatDoorTD22
import Derived.Test.YtokghjnkfabgiaaGreatDoorTD25
import Derived.Test.YtokghjnkfabgiaaGreatDoorTD28
import Derived.Test.YtokghjnkfabgiaaGreatDoorTD8
set_option linter.unusedVariables false
set_option linter.unusedSimpArgs false
set_option maxRecDepth 100000
namespace Go.Proofs.YtokghjnkfabgiaaGreatDoor
open Go.RowKit Go.Lib
attribute [local go_sem] str_size str_get str_toList

theorem bad_any (n : Int) (w : World) (h0 : 0 ≤ n) (h1 : n ≤ 65536) : Calls Tryz.prog 89 #[.int .i64 n] w fun e w' => e = .returned (.bool false) ∧ w' = w := by
 have q0 : decide (n < 0) = false := decide_eq_false (by omega)
 have q1 : decide (65536 < n) = false := decide_eq_false (by omega)
 go_enter Tryz.func89, Tryz.ntmps89
 go_wp2
 all_goals (go_ret; exact ⟨rfl, rfl⟩)
theorem value_any (n : Int) (w : World) (a b : Value) : Calls Tryz.prog 93 #[.agg #[.string (str []), .int .i64 n], a, b] w fun e w' => e = .returned (.int .i64 n) ∧ Below w.heap.size w w' := by
 go_enter Tryz.func93, Tryz.ntmps93
 go_wp2_with fail
 go_ret
 exact ⟨rfl, (Below.refl _ _).alloc (Nat.le_refl _) _⟩
theorem index_none (w : World) (a : Option Addr) (c : Nat) (x : Str) : Calls Tryz.prog 91 #[.slice a 0 c, .string (str x)] w fun e w' => e = .returned (.int .i64 (-1)) ∧ w' = w := Tryz.slices_Index_string_empty a c (str x) w
theorem containsfunc_none (w : World) : Calls Tryz.prog 92 #[.slice none 0 0, .func (.func 89) #[] #[]] w fun e w' => e = .returned (.bool false) ∧ Below w.heap.size w w' :=
 containsFunc_any w none 0 [] 89 #[] (fun _ => false) (fun a w => callFunc_enter Tryz.func89 (by kernel_rfl) rfl a w) (Nat.zero_le _) (fun i hi => absurd hi (Nat.not_lt_zero _)) (fun x hx => (by cases hx))
def zeroArr : Value := .agg #[.slice none 0 0, .slice none 0 0]
theorem results_begin {fn : Func} {p q : Tmp} (h : fn.results = #[.tmp p, .cell q 28]) (tmps : Array Value) (w : World) {cs : Array Value} {g : Nat} {y : Value}
  (hy : tmps.getD p undef = y) (hp : tmps.getD q undef = .pointer (some ⟨g, 0, none⟩)) (hg : w.heap[g]? = some (.cells cs 28 (0, 0))) (hs : (Tryz.prog.info? 28).map (·.size) = some cs.size) :
  (results fn tmps).run Tryz.prog w = .ok (.tuple #[y, .agg cs]) w := by
 have hp' : tmps[q]?.getD undef = .pointer (some ⟨g, 0, none⟩) := by simpa using hp
 have hy' : tmps[p]?.getD undef = y := by simpa using hy
 simp [results, h, hp', hy', asAddr, run_loadVar_row w g 28 28 cs (0, 0) _ hg Tryz.underlying28 rfl hs]
end Go.Proofs.YtokghjnkfabgiaaGreatDoor

namespace Go.Proofs.YtokghjnkfabgiaaGreatDoor
open Go.RowKit Go.Lib
attribute [local go_sem] str_size str_get str_toList

theorem right_sides {s d : List Int} (h : right s d = true) : s.length ≤ 4 ∧ ∀ n ∈ s, 0 ≤ n ∧ n ≤ 65536 := by
 have hg := (right_good h).2
 exact ⟨hg.len, fun n hn => hg.side n hn⟩
def numSides (s : List Int) : List SidP := s.map fun n => ⟨[], n⟩
structure BeS (w : World) (y3 y4 y7 : Nat) (iv lv : Value) (wr : World) : Prop where
 below : Below w.heap.size w wr
 b3 : wr.heap[y3]? = some (.cells #[iv, lv] 25 (0, 0))
 b4 : wr.heap[y4]? = some (.cells #[.slice none 0 0] 42 (0, 0))
 b7 : wr.heap[y7]? = some (.cells #[.int .i64 0, .int .i64 0] 28 (0, 0))
theorem BeS.next {w W W' : World} {y3 y4 y7 : Nat} {iv lv : Value} (h : BeS w y3 y4 y7 iv lv W) (hb : Below W.heap.size W W') : BeS w y3 y4 y7 iv lv W' :=
 ⟨h.below.trans (hb.mono h.below.size), block_below h.b3 hb, block_below h.b4 hb, block_below h.b7 hb⟩
def begM (nm : Str) (v : Value) : Nat → Str → Option Value
 | 0 => fun _ => none
 | _ + 1 => putV (fun _ => none) nm v
theorem SlA.form' {w : World} {v : Value} {xs : List Int} (h : SlA w v xs) : ∃ a c, v = .slice a xs.length c := by obtain ⟨a, c, e, _⟩ := h; exact ⟨a, c, e⟩
theorem arr_right (W : World) (v u : Value) (s d : List Int) (hs : SlA W v s) (hd : SlA W u d) : Calls Tryz.prog 94 #[.agg #[v, u]] W fun e w' => e = .returned (.bool (right s d)) ∧ Below W.heap.size W w' := by
 obtain ⟨a0, c0, rfl, h1, h2, h3, h4, h5⟩ := hs
 obtain ⟨a1, c1, rfl, _⟩ := hd
 exact right_any W a0 a1 c0 c1 s d (by omega) h4
theorem MapV.notTy {z : Value} {B n : Nat} {M : Str → Option Value} {w : World} {u : TypeId} (h : MapV z B n M w) : NotTy u w B := by
 obtain ⟨D, ⟨es, clock, h1, h2⟩, h3⟩ := h
 intro cur e
 rw [h1] at e
 cases e
structure BeR (w : World) (y3 y4 y7 y9 : Nat) (iv lv : Value) (B R n : Nat) (M : Str → Option Value) (wr : World) : Prop where
 be : BeS w y3 y4 y7 iv lv wr
 b9 : wr.heap[y9]? = some (.cells #[.slice none 0 0] 85 (0, 0))
 run : wr.heap[R]? = some (.cells #[.map (some B), .int .i64 0] 131 (0, 0))
 map : MapV zeroArr B n M wr
 hB : w.heap.size ≤ B
 hR : w.heap.size ≤ R
theorem BeR.next {w W W' : World} {y3 y4 y7 y9 : Nat} {iv lv : Value} {B R n : Nat} {M : Str → Option Value} (h : BeR w y3 y4 y7 y9 iv lv B R n M W) (hb : Below W.heap.size W W') : BeR w y3 y4 y7 y9 iv lv B R n M W' :=
 ⟨h.be.next hb, block_below h.b9 hb, block_below h.run hb, h.map.below hb, h.hB, h.hR⟩
set_option maxHeartbeats 16000000 in
theorem begin_any {N : Nat} (w : World) (ht : TabT w) (iv lv : Value) (nm : Str) (s d : List Int) (lines : List LinP) (h1 : RowG inpR N 79 w iv [⟨nm, numSides s⟩]) (h2 : RowG linR N 67 w lv lines) (hin : InN ⟨[⟨nm, numSides s⟩], lines⟩) (S : Str) (hS : showProg LL ⟨[⟨nm, numSides s⟩], lines⟩ = some S)
  (ab ao ac : Nat) (av au : Value) (hc0 : w.cell? ⟨ab, ao, none⟩ = some av) (hc1 : w.cell? ⟨ab, ao + 1, none⟩ = some au) (hs : SlA w av s) (hd : SlA w au d) (hr : right s d = true) :
  Calls Tryz.prog 57 #[.agg #[iv, lv], .slice none 0 0, .slice (some ⟨ab, ao, none⟩) 1 ac] w fun e w' => Below w.heap.size w w' ∧ ∃ R B, e = .returned (.tuple #[.pointer (some ⟨R, 0, none⟩), .agg #[.int .i64 0, .int .i64 0]]) ∧ w.heap.size ≤ B ∧ w.heap.size ≤ R ∧ w'.heap[R]? = some (.cells #[.map (some B), .int .i64 0] 131 (0, 0)) ∧
   MapV zeroArr B 1 (putV (fun _ => none) nm (.agg #[av, au])) w' := by
 obtain ⟨ia, ic, rfl⟩ := h1.form
 obtain ⟨la, lc, rfl⟩ := h2.form
 have hin1 : NumSides ⟨[⟨nm, numSides s⟩], lines⟩ := by
  intro x hx d hd
  cases List.mem_singleton.1 hx
  obtain ⟨n, -, rfl⟩ := List.mem_map.1 hd
  rfl
 have hsl : s.length ≤ 4 ∧ ∀ n ∈ s, 0 ≤ n ∧ n ≤ 65536 := right_sides hr
 have e1 : ([⟨nm, numSides s⟩] : List InpP).length = 1 := rfl
 rw [e1] at h1
 have hd1 : Below w.heap.size w (w.alloc (.cells #[.slice ia 1 ic, .slice la lines.length lc] 25)) := (Below.refl _ _).alloc (Nat.le_refl _) _
 have hx0 : BeS w w.heap.size (w.heap.size + 1) (w.heap.size + 2) (.slice ia 1 ic) (.slice la lines.length lc) (((w.alloc (.cells #[.slice ia 1 ic, .slice la lines.length lc] 25)).alloc (.cells #[.slice none 0 0] 42)).alloc (.cells #[.int .i64 0, .int .i64 0] 28)) := by
  have a1 : ((w.alloc (.cells #[.slice ia 1 ic, .slice la lines.length lc] 25)).alloc (.cells #[.slice none 0 0] 42)).heap.size = w.heap.size + 2 := by simp
  have a2 : (w.alloc (.cells #[.slice ia 1 ic, .slice la lines.length lc] 25)).heap.size = w.heap.size + 1 := by simp
  have d2 : Below _ _ ((w.alloc (.cells #[.slice ia 1 ic, .slice la lines.length lc] 25)).alloc (.cells #[.slice none 0 0] 42)) := (Below.refl _ (w.alloc (.cells #[.slice ia 1 ic, .slice la lines.length lc] 25))).alloc (Nat.le_refl _) _
  have d3 : Below _ _ (((w.alloc (.cells #[.slice ia 1 ic, .slice la lines.length lc] 25)).alloc (.cells #[.slice none 0 0] 42)).alloc (.cells #[.int .i64 0, .int .i64 0] 28)) := (Below.refl _ ((w.alloc (.cells #[.slice ia 1 ic, .slice la lines.length lc] 25)).alloc (.cells #[.slice none 0 0] 42))).alloc (Nat.le_refl _) _
  refine ⟨((hd1.alloc (by omega) _).alloc (by omega) _), block_below (block_below (World.alloc_heap_new _ _) d2) d3, ?_, ?_⟩
  ·have h := World.alloc_heap_new (w.alloc (.cells #[.slice ia 1 ic, .slice la lines.length lc] 25)) (.cells #[.slice none 0 0] 42)
   rw [a2] at h
   exact block_below h d3
  ·have h := World.alloc_heap_new ((w.alloc (.cells #[.slice ia 1 ic, .slice la lines.length lc] 25)).alloc (.cells #[.slice none 0 0] 42)) (.cells #[.int .i64 0, .int .i64 0] 28)
   rw [a1] at h
   exact h
 have HX0 := Lib.hid hx0; have HT := Lib.hid ht; have H1 := Lib.hid h1; have H2 := Lib.hid h2; have HIN := Lib.hid hin; have HS := Lib.hid hS; have HSA := Lib.hid hs; have HSD := Lib.hid hd; have HC0 := Lib.hid hc0; have HC1 := Lib.hid hc1; have HN1 := Lib.hid hin1; have HSL := Lib.hid hsl.2; have HR := Lib.hid hr
 have hs4 := hsl.1
 have hN : (numSides s).length = s.length := by simp [numSides]
 have HNM : Hid (nm.length ≤ 24) := Lib.hid (by
  obtain ⟨_, _, _, s1, h1, _⟩ := showProg_some hS
  exact name_len (showIns_cons h1).1)
 clear hx0 ht h1 h2 hin hS hs hd hc0 hc1 hin1 hsl hr hd1 e1
 go_enter Tryz.func57, Tryz.ntmps57
 go_upto_region 1 with fail
 refine gen_worldA (fun W => BeS w w.heap.size (w.heap.size + 1) (w.heap.size + 2) (.slice ia 1 ic) (.slice la lines.length lc) W) HX0.out ?_
 clear HX0
 have hy7 : w.heap.size ≤ w.heap.size + 2 := by omega
 have hy4 : w.heap.size ≤ w.heap.size + 1 := by omega
 generalize w.heap.size + 2 = y7 at hy7 ⊢
 generalize w.heap.size + 1 = y4 at hy4 ⊢
 obtain ⟨y3, hy3⟩ : ∃ y, w.heap.size = y := ⟨_, rfl⟩
 have hbe : ∀ W, BeS w w.heap.size y4 y7 (.slice ia 1 ic) (.slice la lines.length lc) W → BeS w y3 y4 y7 (.slice ia 1 ic) (.slice la lines.length lc) W := fun W h => by rw [← hy3]; exact h
 rintro W hx
 have hx := hbe W hx
 clear hbe
 rw [hy3]
 have k30 := cell_of_row _ y3 0 _ _ _ hx.b3
 have k31 := cell_of_row _ y3 1 _ _ _ hx.b3
 have HX := Lib.hid hx
 clear hx
 go_wp2_with (go_at_call 88; fail)
 refine (showRight_any W (HT.out.below HX.out.below) _ _ ⟨[⟨nm, numSides s⟩], lines⟩ (H1.out.next HX.out.below) (H2.out.next HX.out.below) HIN.out S HS.out).mono ?_
 rintro e w2 ⟨rfl, hb2⟩
 have HX2 := Lib.hid (HX.out.next hb2)
 clear hb2 k30 k31 HX
 have k30 := cell_of_row _ y3 0 _ _ _ HX2.out.b3
 have k31 := cell_of_row _ y3 1 _ _ _ HX2.out.b3
 dsimp only
 go_wp2_with (go_at_call 90; fail)
 refine (vars_any w2 _ _ ⟨[⟨nm, numSides s⟩], lines⟩ (H1.out.next HX2.out.below) (H2.out.next HX2.out.below) HN1.out (show 1 ≤ 70000 by decide) (fun x hx => by cases List.mem_singleton.1 hx; show (numSides s).length ≤ 70000; omega)).mono ?_
 rintro e w3 ⟨rfl, hb3⟩
 have HX3 := Lib.hid (HX2.out.next hb3)
 clear hb3 k30 k31 HX2 HS HIN HT
 dsimp only
 go_upto_region 5 with fail
 have hd3 : Below w3.heap.size w3 (w3.alloc (.cells #[.slice none 0 0] 85)) := (Below.refl _ _).alloc (Nat.le_refl _) _
 refine gen_worldA (fun W => BeS w y3 y4 y7 (.slice ia 1 ic) (.slice la lines.length lc) W ∧ W.heap[w3.heap.size]? = _) ⟨HX3.out.next hd3, World.alloc_heap_new _ _⟩ ?_
 clear hd3
 have hy9 : y7 ≠ w3.heap.size := by have := block_lt HX3.out.b7; omega
 clear HX3
 generalize w3.heap.size = y9 at hy9
 rintro W ⟨hx, h9⟩
 have HX4 := Lib.hid (And.intro hx h9)
 have k30 := cell_of_row _ y3 0 _ _ _ hx.b3
 clear hx h9
 go_upto_region 6 with fail
 clear k30
 go_loopw [32] (fun v wr => ∃ i : Nat, v = .int .i64 (i : Int) ∧ i ≤ 1 ∧ BeS w y3 y4 y7 (.slice ia 1 ic) (.slice la lines.length lc) wr ∧ wr.heap[y9]? = some (.cells #[.slice none 0 0] 85 (0, 0))) (fun v wr => 1 - (Lib.intOf v).toNat)
 case atStart => exact ⟨0, rfl, Nat.zero_le _, HX4.out.1, HX4.out.2⟩
 case round =>
  clear HX4
  obtain ⟨i, rfl, hi, hx, h9⟩ := hrel
  by_cases hil : i < 1
  ·skip
   have q : decide ((i : Int) < 1) = true := decide_eq_true (by omega)
   obtain ⟨xb, xo, xc, xa, xu, e1, z0, z1, z2, zr⟩ := inp_at3 H1.out i hil
   have hei : ([⟨nm, numSides s⟩] : List InpP)[i]'hil = ⟨nm, numSides s⟩ := by
    cases i with
    | zero => rfl
    | succ k => omega
   rw [hei] at z0 zr
   simp only [Value.slice.injEq] at e1
   obtain ⟨rfl, -, rfl⟩ := e1
   have z0 : wr.cell? ⟨xb, xo + i * 3, none⟩ = some (.string (str nm)) := keepCell hx.below z0
   have z1 := keepCell hx.below z1
   have z2 := keepCell hx.below z2
   have zr : RowG sidR 0 81 w xu (numSides s) := zr
   clear hei
   obtain ⟨ua, uc, rfl⟩ := zr.form
   rw [hN] at z2
   have hd5 : Below wr.heap.size wr (wr.alloc (.cells #[.string (str nm), .int .i64 xa, .slice ua s.length uc] 79)) := (Below.refl _ _).alloc (Nat.le_refl _) _
   have HX5 := Lib.hid (And.intro (hx.next hd5) (block_below h9 hd5)); have HZR := Lib.hid zr
   clear hx h9 zr hd5
   go_upto_region 9 with fail
   clear z0 z1 z2
   generalize wr.alloc (.cells #[.string (str nm), .int .i64 xa, .slice ua s.length uc] 79) = W5 at HX5 ⊢
   generalize wr.heap.size = y11
   go_loopw [39] (fun v wr => ∃ j : Nat, v = .int .i64 (j : Int) ∧ j ≤ s.length ∧ BeS w y3 y4 y7 (.slice (some ⟨xb, xo, none⟩) 1 ic) (.slice la lines.length lc) wr ∧ wr.heap[y9]? = some (.cells #[.slice none 0 0] 85 (0, 0))) (fun v wr => s.length - (Lib.intOf v).toNat)
   case atStart => exact ⟨0, rfl, Nat.zero_le _, HX5.out.1, HX5.out.2⟩
   case round =>
    clear HX5
    obtain ⟨j, rfl, hj, hx, h9⟩ := hrel
    by_cases hjl : j < s.length
    ·have qj : decide ((j : Int) < (s.length : Int)) = true := decide_eq_true (by omega)
     obtain ⟨sb, so, sc, e1, g0, g1⟩ := sid_at HZR.out j (by omega)
     simp only [Value.slice.injEq] at e1
     obtain ⟨rfl, -, rfl⟩ := e1
     have g0 : wr.cell? ⟨sb, so + j * 2, none⟩ = some (.string (str [])) := by
      have h := keepCell hx.below g0
      simpa [numSides] using h
     have g1 : wr.cell? ⟨sb, so + j * 2 + 1, none⟩ = some (.int .i64 s[j]) := by
      have h := keepCell hx.below g1
      simpa [numSides] using h
     have hrg := HSL.out _ (List.getElem_mem hjl)
     generalize s[j] = sv at g1 hrg
     have hd5 : Below wr.heap.size wr (wr.alloc (.cells #[.string (str []), .int .i64 sv] 81)) := (Below.refl _ _).alloc (Nat.le_refl _) _
     have hx5 := hx.next hd5
     have h95 := block_below h9 hd5
     have k9 := cell_of_row _ y9 0 _ _ _ h95
     have HX5 := Lib.hid (And.intro hx5 h95)
     clear hx h9 hx5 h95 hd5
     go_wp2_with (first
      | (go_at_call 89; (refine (bad_any sv _ hrg.1 hrg.2).mono ?_); rintro e w' ⟨rfl, rfl⟩)
      | (go_at_call 91; (refine (index_none _ _ _ _).mono ?_); rintro e w' ⟨rfl, rfl⟩))
     go_roundw
     case rel => exact ⟨j + 1, by go_num, by omega, HX5.out.1, HX5.out.2⟩
     case measure => simp [Lib.intOf]; omega
    ·obtain rfl : j = s.length := by omega
     have qj : decide ((s.length : Int) < (s.length : Int)) = false := decide_eq_false (by omega)
     have HX5 := Lib.hid (And.intro hx h9)
     clear hx h9
     go_wp2_with fail
     go_roundw
     case rel => exact ⟨i + 1, by go_num, by omega, HX5.out.1, HX5.out.2⟩
     case measure => simp [Lib.intOf] <;> omega
  ·have q : decide ((i : Int) < 1) = false := decide_eq_false (by omega)
   have k40 := cell_of_row _ y4 0 _ _ _ hx.b4
   have k9 := cell_of_row _ y9 0 _ _ _ h9
   have k30 := cell_of_row _ y3 0 _ _ _ hx.b3
   have HX5 := Lib.hid (And.intro hx h9)
   clear hx h9
   go_wp2_with (go_at_call 92; fail)
   refine (containsfunc_none wr).mono ?_
   rintro e w5 ⟨rfl, hb5⟩
   have HX6 := Lib.hid (And.intro (HX5.out.1.next hb5) (block_below HX5.out.2 hb5))
   clear hb5 HX5 k40 k9 k30
   have k30 := cell_of_row _ y3 0 _ _ _ HX6.out.1.b3
   have k9 := cell_of_row _ y9 0 _ _ _ HX6.out.2
   dsimp only
   go_upto_region 19 with fail
   clear k30 k9
   have hmm := @run_makeMap Tryz.prog
   have hbr : BeR w y3 y4 y7 y9 (.slice ia 1 ic) (.slice la lines.length lc) w5.heap.size (w5.heap.size + 1) 0 (fun _ => none) ((w5.alloc (.map #[] 0)).alloc (.cells #[.map (some w5.heap.size), .int .i64 0] 131)) := by
    have d1 : Below w5.heap.size w5 (w5.alloc (.map #[] 0)) := (Below.refl _ _).alloc (Nat.le_refl _) _
    have d2 : Below (w5.alloc (.map #[] 0)).heap.size (w5.alloc (.map #[] 0)) ((w5.alloc (.map #[] 0)).alloc (.cells #[.map (some w5.heap.size), .int .i64 0] 131)) := (Below.refl _ _).alloc (Nat.le_refl _) _
    have hz : (w5.alloc (.map #[] 0)).heap.size = w5.heap.size + 1 := by simp
    have hR := World.alloc_heap_new (w5.alloc (.map #[] 0)) (.cells #[.map (some w5.heap.size), .int .i64 0] 131)
    rw [hz] at hR
    have hsz := HX6.out.1.below.size
    exact ⟨(HX6.out.1.next d1).next d2, block_below (block_below HX6.out.2 d1) d2, hR, (MapV.made w5).below d2, hsz, by omega⟩
   have HB := Lib.hid hbr
   clear hbr
   go_upto_region 20 with fail
   clear hmm
   refine gen_worldA (fun W => BeR w y3 y4 y7 y9 (.slice ia 1 ic) (.slice la lines.length lc) w5.heap.size (w5.heap.size + 1) 0 (fun _ => none) W) HB.out ?_
   clear HB HX6
   generalize w5.heap.size + 1 = R
   generalize w5.heap.size = B
   rintro W hx
   have k9 := cell_of_row _ y9 0 _ _ _ hx.b9
   have HX := Lib.hid hx
   clear hx
   go_upto_region 21 with fail
   go_loopw [87] (fun v wr => v = .int .i64 0 ∧ wr = W) (fun v wr => 0)
   case atStart => exact ⟨rfl, rfl⟩
   case round =>
    obtain ⟨rfl, rfl⟩ := hrel
    clear k9
    have k30 := cell_of_row _ y3 0 _ _ _ HX.out.be.b3
    go_upto_region 27 with fail
    clear k30
    go_loopw [108] (fun v wr => ∃ i : Nat, v = .int .i64 (i : Int) ∧ i ≤ 1 ∧ BeR w y3 y4 y7 y9 (.slice ia 1 ic) (.slice la lines.length lc) B R i (begM nm (.agg #[av, au]) i) wr) (fun v wr => 1 - (Lib.intOf v).toNat)
    case atStart => exact ⟨0, rfl, Nat.zero_le _, HX.out⟩
    case round =>
     clear HX
     obtain ⟨k, rfl, hk, hx⟩ := hrel
     by_cases hkl : k < 1
     ·skip
      have q : decide ((k : Int) < 1) = true := decide_eq_true (by omega)
      obtain ⟨xb, xo, xc, xa, xu, e1, z0, z1, z2, zr⟩ := inp_at3 H1.out k hkl
      have hei : ([⟨nm, numSides s⟩] : List InpP)[k]'hkl = ⟨nm, numSides s⟩ := by
       cases k with
       | zero => rfl
       | succ k => omega
      rw [hei] at z0 zr
      simp only [Value.slice.injEq] at e1
      obtain ⟨rfl, -, rfl⟩ := e1
      have z0 : wr.cell? ⟨xb, xo + k * 3, none⟩ = some (.string (str nm)) := keepCell hx.be.below z0
      have z1 := keepCell hx.be.below z1
      have z2 := keepCell hx.be.below z2
      have zr : RowG sidR 0 81 w xu (numSides s) := zr
      obtain ⟨ua, uc, rfl⟩ := zr.form
      rw [hN] at z2
      have hk0 : ao + k * 2 = ao := by omega
      have a0 : wr.cell? ⟨ab, ao + k * 2, none⟩ = some av := by rw [hk0]; exact keepCell hx.be.below HC0.out
      have a1 : wr.cell? ⟨ab, ao + k * 2 + 1, none⟩ = some au := by rw [hk0]; exact keepCell hx.be.below HC1.out
      obtain ⟨va, vc, rfl⟩ := HSA.out.form'
      obtain ⟨wa, wc, rfl⟩ := HSD.out.form'
      have hd5 : Below wr.heap.size wr (wr.alloc (.cells #[.string (str nm), .int .i64 xa, .slice ua s.length uc] 79)) := (Below.refl _ _).alloc (Nat.le_refl _) _
      have h19 := World.alloc_heap_new wr (.cells #[.string (str nm), .int .i64 xa, .slice ua s.length uc] 79)
      have HX5 := Lib.hid (And.intro (hx.next hd5) h19); have HZR := Lib.hid zr
      have HA := Lib.hid (And.intro (keepCell hd5 a0) (keepCell hd5 a1))
      clear hx zr hd5 hei hk0 h19 a0 a1
      go_upto_region 29 with fail
      clear z0 z1 z2
      generalize wr.alloc (.cells #[.string (str nm), .int .i64 xa, .slice ua s.length uc] 79) = W5 at HX5 HA ⊢
      generalize wr.heap.size = y19 at HX5 ⊢
      have x0 := HA.out.1
      have x1 := HA.out.2
      have x2 := cell_of_row _ y19 2 _ _ _ HX5.out.2
      have f0 := cellBW x0
      have f1 := cellBW x1
      have f2 := cellBW x2
      have hcall : ∀ p : BelowW W5, Calls Tryz.prog 94 #[.agg #[.slice va s.length vc, .slice wa d.length wc]] p.world fun e w' => e = .returned (.bool true) ∧ Below p.world.heap.size p.world w' := fun p => by
       have hb := HX5.out.1.be.below.trans (p.below.mono HX5.out.1.be.below.size)
       have h := arr_right p.world _ _ s d (HSA.out.below hb) (HSD.out.below hb)
       rw [HR.out] at h
       exact h
      have KR := Lib.hid hcall
      have qs : ((s.length : Int) == (s.length : Int)) = true := by simp
      clear hcall x0 x1 x2
      refine wp_region_below (by kernel_rfl) (by kernel_rfl) ?_
      repeat (go_big_quiet_step (refine callsBW (KR.out _)))
      refine wpQuiet_nil ?_
      rintro wq ⟨⟨W6, hwq⟩, rfl⟩
      have HX6 := Lib.hid (And.intro (HX5.out.1.next hwq) (block_below HX5.out.2 hwq)); have HA6 := Lib.hid (And.intro (keepCell hwq HA.out.1) (keepCell hwq HA.out.2))
      clear HX5 KR f0 f1 f2 HA hwq
      have x2 := cell_of_row _ y19 2 _ _ _ HX6.out.2
      go_upto_region 31 with fail
      clear x2
      go_loopw [20, 133] (fun v20 v wr => ∃ j : Nat, v20 = .bool true ∧ v = .int .i64 (j : Int) ∧ j ≤ s.length ∧ Below wq.heap.size wq wr) (fun v20 v wr => s.length - (Lib.intOf v).toNat)
      case atStart => exact ⟨0, rfl, rfl, Nat.zero_le _, Below.refl _ _⟩
      case round =>
       obtain ⟨j, rfl, rfl, hj, hbj⟩ := hrel
       by_cases hjl : j < s.length
       ·have qj : decide ((j : Int) < (s.length : Int)) = true := decide_eq_true (by omega)
        obtain ⟨sb, so, sc, e1, g0, g1⟩ := sid_at HZR.out j (by omega)
        simp only [Value.slice.injEq] at e1
        obtain ⟨rfl, -, rfl⟩ := e1
        have hbw : Below w.heap.size w wr := HX6.out.1.be.below.trans (hbj.mono HX6.out.1.be.below.size)
        have g0 : wr.cell? ⟨sb, so + j * 2, none⟩ = some (.string (str [])) := by
         have h := keepCell hbw g0
         simpa [numSides] using h
        have g1 : wr.cell? ⟨sb, so + j * 2 + 1, none⟩ = some (.int .i64 s[j]) := by
         have h := keepCell hbw g1
         simpa [numSides] using h
        obtain ⟨ib, io, rfl, i0⟩ : ∃ ib io, va = some ⟨ib, io, none⟩ ∧ wr.cell? ⟨ib, io + j, none⟩ = some (.int .i64 s[j]) := by
         obtain ⟨a, c, e, _, _, _, hi, _⟩ := HSA.out
         simp only [Value.slice.injEq] at e
         obtain ⟨rfl, -, -⟩ := e
         obtain ⟨b, f, ha, hc⟩ := hi j hjl
         exact ⟨b, f, ha, keepCell hbw hc⟩
        generalize s[j] = sv at g1 i0
        have hd5 : Below wr.heap.size wr (wr.alloc (.cells #[.string (str []), .int .i64 sv] 81)) := (Below.refl _ _).alloc (Nat.le_refl _) _
        have h22 := World.alloc_heap_new wr (.cells #[.string (str []), .int .i64 sv] 81)
        have hbj5 := hbj.trans (hd5.mono hbj.size)
        have HJ := Lib.hid (And.intro hbj5 h22)
        have HI := Lib.hid (And.intro (keepCell hd5 i0) (And.intro (keepCell hbj5 HA6.out.1) (keepCell hbj5 HA6.out.2)))
        clear hbj hbw hd5 h22 hbj5 i0
        go_upto_region 33 with fail
        clear g0 g1
        generalize wr.alloc (.cells #[.string (str []), .int .i64 sv] 81) = Y at HJ HI ⊢
        generalize wr.heap.size = y22 at HJ ⊢
        have x0 := HI.out.1
        have x1 := HI.out.2.1
        have x2 := cell_of_row _ y22 0 _ _ _ HJ.out.2
        have x3 := cell_of_row _ y22 1 _ _ _ HJ.out.2
        have f0 := cellBW x0
        have f1 := cellBW x1
        have f2 := cellBW x2
        have f3 := cellBW x3
        have hcall : ∀ p : BelowW Y, Calls Tryz.prog 93 #[.agg #[.string (str []), .int .i64 sv], .pointer (some ⟨y4, 0, none⟩), .pointer (some ⟨y9, 0, none⟩)] p.world fun e w' => e = .returned (.int .i64 sv) ∧ Below p.world.heap.size p.world w' := fun p => value_any sv p.world _ _
        have KV := Lib.hid hcall
        have qs : (sv == sv) = true := by simp
        clear hcall x0 x1 x2 x3
        refine wp_region_below (by kernel_rfl) (by kernel_rfl) ?_
        repeat (go_big_quiet_step (refine callsBW (KV.out _)))
        refine wpQuiet_nil ?_
        rintro wz ⟨⟨W8, hwz⟩, rfl⟩
        have HZ := Lib.hid (HJ.out.1.trans (hwz.mono HJ.out.1.size))
        clear f0 f1 f2 f3 KV HJ HI hwz
        go_wp2_with fail
        go_roundw
        case rel => exact ⟨j + 1, by rfl, by go_num, by omega, HZ.out⟩
        case measure => simp [Lib.intOf]; omega
       ·have qj : decide ((j : Int) < (s.length : Int)) = false := decide_eq_false (by omega)
        have HX7 := Lib.hid (And.intro (HX6.out.1.next hbj) (block_below HX6.out.2 hbj)); have HA7 := Lib.hid (And.intro (keepCell hbj HA6.out.1) (keepCell hbj HA6.out.2))
        clear hbj HX6 HA6
        go_upto_region 37 with fail
        refine wp_region_Z (S := fun W' => (W'.cell? ⟨R, 0, none⟩ = some (.map (some B)) ∧ W'.cell? ⟨y19, 0, none⟩ = some (.string (str nm))) ∧ W'.cell? ⟨ab, ao + k * 2, none⟩ = some (.slice va s.length vc) ∧ W'.cell? ⟨ab, ao + k * 2 + 1, none⟩ = some (.slice wa d.length wc)) (z := 10) (by kernel_rfl) ?_
        have hS0 : (fun W' : World => (W'.cell? ⟨R, 0, none⟩ = some (.map (some B)) ∧ W'.cell? ⟨y19, 0, none⟩ = some (.string (str nm))) ∧ W'.cell? ⟨ab, ao + k * 2, none⟩ = some (.slice va s.length vc) ∧ W'.cell? ⟨ab, ao + k * 2 + 1, none⟩ = some (.slice wa d.length wc)) wr.drew := ⟨⟨cell_of_row wr R 0 _ _ _ HX7.out.1.run, cell_of_row wr y19 0 _ _ _ HX7.out.2⟩, HA7.out.1, HA7.out.2⟩
        have hki : (k : Int) < 1 := by omega
        refine wpAnyZ_take (i := 0) (v := ?_) rfl (by kernel_rfl) (by kernel_rfl) (by kernel_rfl) (fun _ _ _ h => h) (by kernel_rfl) (Or.inl ⟨by rfl, ?_⟩) (by assumption) ?_
        rotate_left
        ·intro w' hSw
         try dsimp only at hSw
         try obtain ⟨hSw, hSw2⟩ := hSw
         go_simp
         try with_reducible rfl
        show wpAnyZ _ _ _ _ _ _ _ _ (Act.put _ (some 159) _) _
        simp only [Act.put, List.setIfInBounds_toArray, List.set_cons_zero, List.set_cons_succ]
        refine wpAnyZ_take (i := 1) (v := ?_) rfl (by kernel_rfl) (by kernel_rfl) (by kernel_rfl) (fun _ _ _ h => h) (by kernel_rfl) (Or.inl ⟨by rfl, ?_⟩) (by assumption) ?_
        rotate_left
        ·intro w' hSw
         try dsimp only at hSw
         try obtain ⟨hSw, hSw2⟩ := hSw
         go_simp
         try with_reducible rfl
        show wpAnyZ _ _ _ _ _ _ _ _ (Act.put _ (some 160) _) _
        simp only [Act.put, List.setIfInBounds_toArray, List.set_cons_zero, List.set_cons_succ]
        refine wpAnyZ_take (i := 2) (v := ?_) rfl (by kernel_rfl) (by kernel_rfl) (by kernel_rfl) (fun _ _ _ h => h) (by kernel_rfl) (Or.inl ⟨by rfl, ?_⟩) (by assumption) ?_
        rotate_left
        ·intro w' hSw
         try dsimp only at hSw
         try obtain ⟨hSw, hSw2⟩ := hSw
         go_simp
         try with_reducible rfl
        show wpAnyZ _ _ _ _ _ _ _ _ (Act.put _ (some 161) _) _
        simp only [Act.put, List.setIfInBounds_toArray, List.set_cons_zero, List.set_cons_succ]
        refine wpAnyZ_take (i := 3) (v := ?_) rfl (by kernel_rfl) (by kernel_rfl) (by kernel_rfl) (fun _ _ _ h => h) (by kernel_rfl) (Or.inl ⟨by rfl, ?_⟩) (by assumption) ?_
        rotate_left
        ·intro w' hSw
         try dsimp only at hSw
         try obtain ⟨hSw, hSw2⟩ := hSw
         go_simp
         try with_reducible rfl
        show wpAnyZ _ _ _ _ _ _ _ _ (Act.put _ (some 162) _) _
        simp only [Act.put, List.setIfInBounds_toArray, List.set_cons_zero, List.set_cons_succ]
        refine wpAnyZ_take (i := 4) (v := ?_) rfl (by kernel_rfl) (by kernel_rfl) (by kernel_rfl) (fun _ _ _ h => h) (by kernel_rfl) (Or.inl ⟨by rfl, ?_⟩) (by assumption) ?_
        rotate_left
        ·intro w' hSw
         try dsimp only at hSw
         try obtain ⟨hSw, hSw2⟩ := hSw
         go_simp
         try with_reducible rfl
        show wpAnyZ _ _ _ _ _ _ _ _ (Act.put _ (some 163) _) _
        simp only [Act.put, List.setIfInBounds_toArray, List.set_cons_zero, List.set_cons_succ]
        refine wpAnyZ_take (i := 5) (v := ?_) rfl (by kernel_rfl) (by kernel_rfl) (by kernel_rfl) (fun _ _ _ h => h) (by kernel_rfl) (Or.inl ⟨by rfl, ?_⟩) (by assumption) ?_
        rotate_left
        ·intro w' hSw
         try dsimp only at hSw
         try obtain ⟨hSw, hSw2⟩ := hSw
         go_simp
         try with_reducible rfl
        show wpAnyZ _ _ _ _ _ _ _ _ (Act.put _ (some 164) _) _
        simp only [Act.put, List.setIfInBounds_toArray, List.set_cons_zero, List.set_cons_succ]
        refine wpAnyZ_take (i := 6) (v := ?_) rfl (by kernel_rfl) (by kernel_rfl) (by kernel_rfl) (fun _ _ _ h => h) (by kernel_rfl) (Or.inl ⟨by rfl, ?_⟩) (by assumption) ?_
        rotate_left
        ·intro w' hSw
         try dsimp only at hSw
         try obtain ⟨hSw, hSw2⟩ := hSw
         go_simp
         try with_reducible rfl
        show wpAnyZ _ _ _ _ _ _ _ _ (Act.put _ (some 165) _) _
        simp only [Act.put, List.setIfInBounds_toArray, List.set_cons_zero, List.set_cons_succ]
        refine wpAnyZ_take (i := 7) (v := ?_) rfl (by kernel_rfl) (by kernel_rfl) (by kernel_rfl) (fun _ _ _ h => h) (by kernel_rfl) (Or.inl ⟨by rfl, ?_⟩) (by assumption) ?_
        rotate_left
        ·intro w' hSw
         try dsimp only at hSw
         try obtain ⟨hSw, hSw2⟩ := hSw
         go_simp
         try with_reducible rfl
        show wpAnyZ _ _ _ _ _ _ _ _ (Act.put _ (some 166) _) _
        simp only [Act.put, List.setIfInBounds_toArray, List.set_cons_zero, List.set_cons_succ]
        refine wpAnyZ_take (i := 8) (v := .pointer (some ⟨ab, ao + k * 2, none⟩)) rfl (by kernel_rfl) (by kernel_rfl) (by kernel_rfl) (fun _ _ _ h => h) (by kernel_rfl) (Or.inl ⟨by rfl, ?_⟩) (by assumption) ?_
        ·intro w' hSw
         clear hSw
         go_simp
         first
          | done
          | (rw [if_pos (by omega)]; first | rfl | simp)
        show wpAnyZ _ _ _ _ _ _ _ _ (Act.put _ (some 167) _) _
        simp only [Act.put, List.setIfInBounds_toArray, List.set_cons_zero, List.set_cons_succ]
        refine wpAnyZ_take (i := 9) (v := ?_) rfl (by kernel_rfl) (by kernel_rfl) (by kernel_rfl) (fun _ _ _ h => h) (by kernel_rfl) (Or.inl ⟨by rfl, ?_⟩) (by assumption) ?_
        rotate_left
        ·intro w' hSw
         try dsimp only at hSw
         try obtain ⟨hSw, hSw2⟩ := hSw
         go_simp
         try with_reducible rfl
        show wpAnyZ _ _ _ _ _ _ _ _ (Act.put _ (some 168) _) _
        simp only [Act.put, List.setIfInBounds_toArray, List.set_cons_zero, List.set_cons_succ]
        clear hS0
        have hm0 : MapV zeroArr B 0 (fun _ => none) wr.drew := by
         have h := HX7.out.1.map
         obtain rfl : k = 0 := by omega
         exact h
        obtain ⟨Wz, rz, mz, gz⟩ := hm0.put (mt := 129) (et := 44) (by kernel_rfl) (by decide) nm (by have := HNM.out; unfold maxLen; omega) (.agg #[.slice va s.length vc, .slice wa d.length wc])
        refine wpAnyZ_oneG (i := 10) (by kernel_rfl) rfl (by rfl) (fun K hK => ?_)
        go_simp
        refine hK.out _ _ (.inl (by omega)) ?_
        clear hK
        have hgz : BeR w y3 y4 y7 y9 (.slice (some ⟨xb, xo, none⟩) 1 ic) (.slice la lines.length lc) B R (k + 1) (begM nm (.agg #[.slice va s.length vc, .slice wa d.length wc]) (k + 1)) Wz := by
         have hx := HX7.out.1.next (Below.drew (Below.refl _ _))
         have kt : ∀ u, KeepTy u wr.drew Wz := fun u => KeepTy.grown gz (fun g e => by cases e; exact hm0.notTy)
         obtain rfl : k = 0 := by omega
         exact ⟨⟨hx.be.below.grown gz hx.be.below.size (fun g e => by cases e; exact hx.hB), kt _ _ _ hx.be.b3, kt _ _ _ hx.be.b4, kt _ _ _ hx.be.b7⟩, kt _ _ _ hx.b9, kt _ _ _ hx.run, mz, hx.hB, hx.hR⟩
        have HG := Lib.hid hgz
        clear hgz mz gz rz hm0 HX7 HA7
        refine wpAnyZ_done (by kernel_rfl) ?_ _
        go_wp2_with fail
        go_roundw
        case rel => exact ⟨k + 1, by go_num, by omega, HG.out⟩
        case measure => simp [Lib.intOf]; omega
     ·have q : decide ((k : Int) < 1) = false := decide_eq_false (by omega)
      have k70 := cell_of_row _ y7 0 _ _ _ hx.be.b7
      have k71 := cell_of_row _ y7 1 _ _ _ hx.be.b7
      have q70 := frozen_of_row _ y7 0 _ _ hx.be.b7
      have q71 := frozen_of_row _ y7 1 _ _ hx.be.b7
      have HX := Lib.hid hx
      clear hx
      go_wp2_with fail
      obtain rfl : k = 1 := by omega
      have hx := HX.out
      clear HX
      have h7 : ((wr.setCell { block := y7, off := 0 } (Value.int IntKind.i64 0)).setCell { block := y7, off := 1 } (Value.int IntKind.i64 0)).heap[y7]? = some (.cells #[.int .i64 0, .int .i64 0] 28 (0, 0)) := by
       rw [heap_setCell_same _ y7 1 _ _ _ (heap_setCell_same _ y7 0 _ _ _ hx.be.b7)]; rfl
      have hR7 : y7 ≠ R := fun e => by
       have h := hx.be.b7
       rw [e, hx.run] at h
       simp at h
      have hB7 : y7 ≠ B := fun e => hx.map.notTy (u := 28) _ (by rw [← e]; exact hx.be.b7)
      refine bodyPost_ret (v := .tuple #[.pointer (some ⟨R, 0, none⟩), .agg #[.int .i64 0, .int .i64 0]]) (results_begin rfl _ _ rfl rfl h7 (by kernel_rfl)) rfl ?_
      refine ⟨(hx.be.below.setCell hy7 _).setCell hy7 _, R, B, rfl, hx.hB, hx.hR, ?_, ?_⟩
      ·exact block_other (block_other hx.run hR7 _) hR7 _
      ·exact (MapV.kept (w := wr) hx.map ((Below.heap_setCell _ _ _ _ (Ne.symm hB7)).trans (Below.heap_setCell _ _ _ _ (Ne.symm hB7))))
end Go.Proofs.YtokghjnkfabgiaaGreatDoor
