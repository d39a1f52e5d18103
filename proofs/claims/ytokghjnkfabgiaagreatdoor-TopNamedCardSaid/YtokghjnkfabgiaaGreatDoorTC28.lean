import Derived.Test.YtokghjnkfabgiaaGreatDoorTC27
import Derived.Lib.AppendZeros
import Derived.Test.YtokghjnkfabgiaaGreatDoorTC4
import Derived.Test.YtokghjnkfabgiaaGreatDoorTC26
import Derived.Test.YtokghjnkfabgiaaGreatDoorTC8
set_option linter.unusedVariables false
set_option linter.unusedSimpArgs false
set_option maxRecDepth 100000
-- DROPS
namespace Go.Proofs.YtokghjnkfabgiaaGreatDoor
open Go.RowKit

def SlA (w : World) (v : Value) (xs : List Int) : Prop := ∃ a c, v = .slice a xs.length c ∧ xs.length ≤ c ∧ c ≤ maxLen ∧ (a = none → c = 0) ∧ IntsAt .i64 w a xs ∧ ∀ x ∈ xs, In64 x
theorem SlA.below {w w' : World} {v : Value} {xs : List Int} (h : SlA w v xs) (hb : Below w.heap.size w w') : SlA w' v xs := by
 obtain ⟨a, c, e, h1, h2, h3, h4, h5⟩ := h
 exact ⟨a, c, e, h1, h2, h3, h4.below hb (Nat.le_refl _), h5⟩
theorem RowI.form {B : Nat} {w : World} {v : Value} {xs : List Int} (h : RowI B w v xs) (h0 : 0 < xs.length) : ∃ g cap, v = .slice (some ⟨g, 0, none⟩) xs.length cap ∧ B ≤ g ∧ g < w.heap.size := by
 obtain ⟨h1, ⟨_, hn⟩ | ⟨g, cap, cur, hv, hB, hg, _⟩⟩ := h
 ·omega
 ·exact ⟨g, cap, hv, hB, (Array.getElem?_eq_some_iff.1 hg).1⟩
theorem RowI.sl {B : Nat} {w : World} {v : Value} {xs : List Int} (h : RowI B w v xs) (h5 : ∀ x ∈ xs, In64 x) : SlA w v xs := by
 obtain ⟨h1, ⟨hv, hn⟩ | ⟨g, cap, cur, hv, hB, hg, hnc, hcm, hcs, ht⟩⟩ := id h
 ·have hx : xs = [] := List.eq_nil_of_length_eq_zero hn
  subst hx
  exact ⟨none, 0, hv, Nat.le_refl _, Nat.zero_le _, fun _ => rfl, IntsAt.nil _ _ _, h5⟩
 ·obtain ⟨a, c, e, _, hi⟩ := h.slice
  rw [hv] at e
  cases e
  exact ⟨_, _, hv, hnc, hcm, (fun e => by cases e), hi, h5⟩
theorem RowI.at {B g n c : Nat} {w : World} {xs : List Int} (h : RowI B w (.slice (some ⟨g, 0, none⟩) n c) xs) {k : Nat} (hk : k < xs.length) : w.cell? ⟨g, k, none⟩ = some (.int .i64 (xs.getD k 0)) := by
 have hn : xs.length = n := by
  obtain ⟨a, c', e, _⟩ := h.slice
  cases e; rfl
 subst hn
 rw [World.ownsRow.cellAt h k (by simpa using hk)]
 simp [hk]
theorem RowI.fr {B g n c : Nat} {w : World} {xs : List Int} (h : RowI B w (.slice (some ⟨g, 0, none⟩) n c) xs) (k : Nat) : w.frozen? ⟨g, k, none⟩ = false := by
 have hn : xs.length = n := by
  obtain ⟨a, c', e, _⟩ := h.slice
  cases e; rfl
 subst hn
 exact World.ownsRow.frozenAt h k
theorem RowI.set {B g n c : Nat} {w : World} {xs : List Int} (h : RowI B w (.slice (some ⟨g, 0, none⟩) n c) xs) (k : Nat) (y : Int) : RowI B (w.setCell ⟨g, k, none⟩ (.int .i64 y)) (.slice (some ⟨g, 0, none⟩) n c) (xs.set k y) := by
 have hn : xs.length = n := by
  obtain ⟨a, c', e, _⟩ := h.slice
  cases e; rfl
 subst hn
 have := (World.ownsRow.stored h k (.int .i64 y)).1
 unfold RowI
 rw [List.map_set, List.length_set]
 exact this
theorem RowI.drewN {B : Nat} {w : World} {v : Value} {xs : List Int} (h : RowI B w v xs) (n : Nat) : RowI B (w.drewN n) v xs := h.below (Below.drewN _ _)
theorem RowI.len {B n c : Nat} {a : Option Addr} {w : World} {xs : List Int} (h : RowI B w (.slice a n c) xs) : xs.length = n := by
 obtain ⟨a, c', e, _⟩ := h.slice
 cases e; rfl
theorem getD_set (l : List Int) (k i : Nat) (v : Int) : (l.set k v).getD i 0 = if k = i ∧ i < l.length then v else l.getD i 0 := by
 rw [List.getD_eq_getElem?_getD, List.getD_eq_getElem?_getD, List.getElem?_set]
 by_cases h : k = i
 ·subst h
  by_cases h2 : k < l.length
  ·simp [h2]
  ·simp [h2]
 ·simp [h]
end Go.Proofs.YtokghjnkfabgiaaGreatDoor

-- DROPS
namespace Go.Proofs.YtokghjnkfabgiaaGreatDoor
open Go.RowKit

set_option maxHeartbeats 400000 in
theorem equal_any (w : World) (a b : Option Addr) (c d : Nat) (xs ys : List Int) (hm : xs.length ≤ maxLen) (hm2 : ys.length ≤ maxLen) (h : IntsAt .i64 w a xs) (h2 : IntsAt .i64 w b ys) :
  Calls Tryz.prog 142 #[.slice a xs.length c, .slice b ys.length d] w (SaysB (ints xs ys) w) := by
 unfold maxLen at hm hm2
 have HI := Lib.hid h; have HJ := Lib.hid h2; clear h h2
 by_cases hl : xs.length = ys.length
 ·have hl' : ((xs.length : Int) != (ys.length : Int)) = false := by simp [hl]
  have Hl := Lib.hid hl; clear hl
  go_enter Tryz.func142, Tryz.ntmps142
  go_wp2_with fail
  go_loopw [13] (fun i wr => ∃ (k n : Nat), k ≤ xs.length ∧ i = .int .i64 k ∧ xs.take k = ys.take k ∧ wr = w.drewN n) (fun i _ => xs.length - (intOf i).toNat)
  case atStart => exact ⟨0, 0, Nat.zero_le _, rfl, rfl, rfl⟩
  case round =>
   obtain ⟨k, n, hk, rfl, ht, rfl⟩ := hrel
   have Ht := Lib.hid ht; clear ht
   by_cases hlt : k < xs.length
   ·have hlt2 : k < ys.length := Hl.out ▸ hlt
    obtain ⟨b0, off, rfl, hcell⟩ := HI.out k hlt
    obtain ⟨b2, off2, rfl, hcell2⟩ := HJ.out k hlt2
    have hz0 : (0 : Int) ≤ (k : Int) := by omega
    have hz1 : (k : Int) < (xs.length : Int) := by omega
    have hz2 : (k : Int) < (ys.length : Int) := by omega
    by_cases hne : xs[k] = ys[k]
    ·have hne' : (xs[k] != ys[k]) = false := by simpa using hne
     have Hne := Lib.hid hne; clear hne
     go_wp2_with fail
     go_quiet (fail)
     go_wp2_with fail
     go_roundw
     case rel => exact ⟨k + 1, _, by omega, by go_num, take_eq_all Hl.out hlt Ht.out Hne.out, rfl⟩
     case measure => simp [intOf]; omega
    ·have hne' : (xs[k] != ys[k]) = true := by simpa using hne
     go_wp2_with fail
     go_quiet (fail)
     go_wp2_with fail
     go_ret
     refine SaysB.drewN (SaysB.mk ?_)
     have : xs ≠ ys := fun e => hne (by subst e; rfl)
     simp [ints, this]
   ·go_wp2_with fail
    go_ret
    refine SaysB.mk ?_
    have ht := Ht.out
    rw [List.take_of_length_le (by omega), List.take_of_length_le (by rw [← Hl.out]; omega)] at ht
    simp [ints, ht]
 ·have hl' : ((xs.length : Int) != (ys.length : Int)) = true := by simp; omega
  go_enter Tryz.func142, Tryz.ntmps142
  go_wp2_with fail
  go_ret
  refine SaysB.mk0 ?_
  have : xs ≠ ys := fun e => hl (by rw [e])
  simp [ints, this]
def RowsAt (w : World) (a : Option Addr) (xss : List (List Int)) : Prop := ∀ i, (h : i < xss.length) → ∃ b off u, a = some ⟨b, off, none⟩ ∧ w.cell? ⟨b, off + i, none⟩ = some u ∧
 (∃ a1 c1, u = .slice a1 xss[i].length c1) ∧ Src w u xss[i].length (xss[i].map (Value.int .i64))
theorem RowsAt.below {w w' : World} {a : Option Addr} {xss : List (List Int)} (h : RowsAt w a xss) (hb : Below w.heap.size w w') : RowsAt w' a xss := fun i hi => by
 obtain ⟨b, off, u, e, hc, hf, hs⟩ := h i hi
 exact ⟨b, off, u, e, (hb.cell (World.block_lt_of_cell? w _ hc)).trans hc, hf, hs.below hb⟩
theorem RowI.src {B : Nat} {w : World} {v : Value} {xs : List Int} (h : RowI B w v xs) : Src w v xs.length (xs.map (Value.int .i64)) := ownsRow_src h
theorem SlA.src {w : World} {v : Value} {xs : List Int} (h : SlA w v xs) : Src w v xs.length (xs.map (Value.int .i64)) := by
 obtain ⟨a, c, rfl, h1, h2, h3, h4, h5⟩ := h
 cases a with
 | none =>
  have hc := h3 rfl
  have hx : xs = [] := List.eq_nil_of_length_eq_zero (by omega)
  subst hx
  exact .inl ⟨by rw [hc]; rfl, rfl, rfl⟩
 | some ad =>
  refine .inr ⟨ad, c, rfl, fun j z hz => ?_⟩
  by_cases h0 : 0 < xs.length
  ·obtain ⟨ad', e, hs⟩ := h4.src h0; cases e; exact hs j z hz
  ·have hx : xs = [] := List.eq_nil_of_length_eq_zero (by omega)
   subst hx
   simp at hz
theorem RowR.rows {B : Nat} {w : World} {a : Option Addr} {n c : Nat} {xss : List (List Int)} (h : RowR B w (.slice a n c) xss) : RowsAt w a xss := fun i hi => by
 obtain ⟨vs, hown, hin⟩ := h
 obtain ⟨u, hu, hr, _⟩ := hin i hi
 obtain ⟨a1, c1, e1, _, _⟩ := hr.slice
 obtain ⟨h1, ⟨_, h0⟩ | ⟨g, cap, cur, e, hB, hg, _⟩⟩ := id hown
 ·omega
 ·cases e
  refine ⟨g, 0, u, rfl, ?_, ⟨a1, c1, e1⟩, hr.src⟩
  rw [Nat.zero_add]
  have := World.ownsRow.cells hown (g := g) rfl i u hu
  unfold Addr.add at this
  split at this
  ·rename_i h; subst h; exact this
  ·simpa using this
end Go.Proofs.YtokghjnkfabgiaaGreatDoor

-- DROPS
namespace Go.Proofs.YtokghjnkfabgiaaGreatDoor
open Go.RowKit

theorem RetArr.mono {B B' : Nat} {r : ArrE} {e : Ending} {w : World} (h : RetArr B r e w) (hB : B' ≤ B) : RetArr B' r e w := by
 obtain ⟨v, u, e, h1, h2, h3⟩ := h
 exact ⟨v, u, e, own_mono h1 hB, own_mono h2 hB, h3⟩
theorem retB {f : FuncId} {args : Array Value} {w : World} {B : Nat} {r : ArrE} (hB : B ≤ w.heap.size) (h : Calls Tryz.prog f args w fun e w' => RetArr w.heap.size r e w' ∧ Below w.heap.size w w') :
  Calls Tryz.prog f args w fun e w' => RetArr B r e w' ∧ Below w.heap.size w w' := h.mono fun _ _ ⟨h1, h2⟩ => ⟨h1.mono hB, h2⟩
theorem ret_arr {fn : Func} {p q : Tmp} (h : fn.results = #[.cell p 44, .tmp q]) (tmps : Array Value) (w : World) (R : Nat) (v u x : Value)
  (hp : tmps.getD p undef = .pointer (some ⟨R, 0, none⟩)) (hq : tmps.getD q undef = x) (hg : w.heap[R]? = some (.cells #[v, u] 44 (0, 0))) :
  (results fn tmps).run Tryz.prog w = .ok (.tuple #[.agg #[v, u], x]) w := by
 have hp' : tmps[p]?.getD undef = .pointer (some ⟨R, 0, none⟩) := by simpa using hp
 have hq' : tmps[q]?.getD undef = x := by simpa using hq
 have hl1 := run_loadVar_row (P := Tryz.prog) w R 44 44 #[v, u] (0, 0) _ hg Tryz.underlying44 rfl (by kernel_rfl)
 simp [results, h, hp', hq', asAddr, hl1]
theorem fin_arr {fn : Func} {p q : Tmp} (h : fn.results = #[.cell p 44, .tmp q]) {tmps : Array Value} {w w0 : World} {B R : Nat} {v u o1 o2 : Value} {r : ArrE}
  (hp : tmps.getD p undef = .pointer (some ⟨R, 0, none⟩)) (hq : tmps.getD q undef = .int .i64 r.2) (hR : w.heap[R]? = some (.cells #[o1, o2] 44 (0, 0)))
  (hv : RowI B w v r.1.1) (hu : RowI B w u r.1.2) (hap : Apart v u) (hb : Below w0.heap.size w0 w) (hBR : w0.heap.size ≤ R) :
  bodyPost Tryz.prog fn (fun e w' => RetArr B r e w' ∧ Below w0.heap.size w0 w') .ret { tmps := tmps, defers := [] } ((w.setCell ⟨R, 0, none⟩ v).setCell ⟨R, 1, none⟩ u) := by
 have h1 : (w.setCell ⟨R, 0, none⟩ v).heap[R]? = some (.cells #[v, o2] 44 (0, 0)) := heap_setCell_same w R 0 _ _ _ hR
 have h2 : ((w.setCell ⟨R, 0, none⟩ v).setCell ⟨R, 1, none⟩ u).heap[R]? = some (.cells #[v, u] 44 (0, 0)) := heap_setCell_same _ R 1 _ _ _ h1
 exact bodyPost_ret (ret_arr h _ _ R v u _ hp hq h2) rfl ⟨RetArr.put hv hu hap hR, put_below hb hBR _ _⟩
theorem fault_at (w : World) (B : Nat) (hB : B ≤ w.heap.size) (x : Int) (r : ArrE) (hr : noA x = r) : Calls Tryz.prog 126 #[.int .i64 x] w fun e w' => RetArr B r e w' ∧ Below w.heap.size w w' := by
 subst hr; exact retB hB (pfault_any w x)
theorem Below.two (w : World) (o1 o2 : Obj) : Below w.heap.size w ((w.alloc o1).alloc o2) := ((Below.refl _ _).alloc (Nat.le_refl _) _).alloc (by simp) _
theorem heap_two1 (w : World) (o1 o2 : Obj) : ((w.alloc o1).alloc o2).heap[w.heap.size]? = some o1 := block_alloc (World.alloc_heap_new _ _) _
theorem heap_two2 (w : World) (o1 o2 : Obj) : ((w.alloc o1).alloc o2).heap[w.heap.size + 1]? = some o2 := by
 have := World.alloc_heap_new (w.alloc o1) o2
 rwa [World.size_alloc] at this
theorem made_ints {w : World} {B n : Nat} {v : Value} (h : w.ownsRow B 2 1 v n (madeCells #[.int .i64 0] n).toList) : RowI B w v (List.replicate n 0) := by
 rw [toList_madeCells_one] at h
 unfold RowI
 rw [List.map_replicate, List.length_replicate]
 exact h
theorem rep_step {n k : Nat} (f : Nat → Int) (hk : k < n) : ((List.range k).map f ++ List.replicate (n - k) 0).set k (f k) = (List.range (k + 1)).map f ++ List.replicate (n - (k + 1)) 0 := by
 rw [List.set_append_right _ _ (by simp)]
 obtain ⟨m, hm⟩ : ∃ m, n - k = m + 1 := ⟨n - k - 1, by omega⟩
 rw [hm, show n - (k + 1) = m from by omega]
 simp [List.range_succ, List.replicate_succ]
theorem rep_len {n k : Nat} (f : Nat → Int) (hk : k ≤ n) : ((List.range k).map f ++ List.replicate (n - k) 0).length = n := by simp; omega
structure One (w W : World) (v u : Value) : Prop where
 x : W.heap[w.heap.size]? = some (.cells #[v, u] 44 (0, 0))
 r : W.heap[w.heap.size + 1]? = some (.cells #[.slice none 0 0, .slice none 0 0] 44 (0, 0))
 b : Below w.heap.size w W
theorem One.mk0 (w : World) (v u : Value) : One w ((w.alloc (.cells #[v, u] 44)).alloc (.cells #[.slice none 0 0, .slice none 0 0] 44)) v u := ⟨heap_two1 _ _ _, heap_two2 _ _ _, Below.two _ _ _⟩
theorem One.next {w W W' : World} {v u : Value} (h : One w W v u) (hb : Below W.heap.size W W') : One w W' v u := ⟨block_below h.x hb, block_below h.r hb, bNext hb h.b⟩
theorem One.c0 {w W : World} {v u : Value} (h : One w W v u) : W.cell? ⟨w.heap.size, 0, none⟩ = some v := cell_of_row W _ 0 _ _ _ h.x
theorem One.c1 {w W : World} {v u : Value} (h : One w W v u) : W.cell? ⟨w.heap.size, 1, none⟩ = some u := cell_of_row W _ 1 _ _ _ h.x
theorem One.lt {w W : World} {v u : Value} (h : One w W v u) : w.heap.size + 1 < W.heap.size := (Array.getElem?_eq_some_iff.1 h.r).1
theorem One.kt {w W W' : World} {v u : Value} (h : One w W v u) (hb : Below w.heap.size w W') (hk : KeepTy 44 W W') : One w W' v u := ⟨hk _ _ h.x, hk _ _ h.r, hb⟩
end Go.Proofs.YtokghjnkfabgiaaGreatDoor

-- DROPS
namespace Go.Proofs.YtokghjnkfabgiaaGreatDoor
open Go.RowKit

theorem RowI.ints {B n c : Nat} {a : Option Addr} {w : World} {xs : List Int} (h : RowI B w (.slice a n c) xs) : IntsAt .i64 w a xs := by
 obtain ⟨a', c', e, _, hi⟩ := h.slice
 simp only [Value.slice.injEq] at e
 rw [e.1]; exact hi
end Go.Proofs.YtokghjnkfabgiaaGreatDoor

namespace Go.Proofs.YtokghjnkfabgiaaGreatDoor
open Go.RowKit

structure LaneF (s d : List Int) (lx : List (List Int)) : Prop where
 eq : lanes s d = (lx, 0)
 flat : lx.flatten = d
 ne : ∀ x ∈ lx, 0 < x.length
 len : lx.length ≤ 65536
 each : ∀ x ∈ lx, (x.length : Int) = lastOf s
 count : lastOf s ≠ 0 → (lx.length : Int) * lastOf s = (d.length : Int)
theorem flat_len (l : List (List Int)) (h : ∀ x ∈ l, 0 < x.length) : l.length ≤ l.flatten.length := by
 induction l with
 | nil => simp
 | cons x l ih => have h1 := ih (fun y hy => h y (by simp [hy])); have h2 := h x (by simp); simp only [List.flatten_cons, List.length_append, List.length_cons]; omega
theorem lane_facts {s d : List Int} (hr : right s d = true) : ∃ lx, LaneF s d lx := by
 have hdl : d.length ≤ 65536 := by have := (right_good hr).2.le; omega
 by_cases hd0 : d.length = 0
 ·have : d = [] := List.eq_nil_of_length_eq_zero hd0
  subst this
  exact ⟨[], by unfold lanes; rw [if_pos hr]; simp [chunks], rfl, by simp, by simp, by simp, fun _ => by simp⟩
 ·obtain ⟨m, q, e1, e2, e3, e4⟩ := lanes_facts hr (by omega)
  have hl : ∀ x ∈ chunks m d q, x.length = m := fun x hx => by
   unfold chunks at hx
   obtain ⟨i, hi, rfl⟩ := List.mem_map.1 hx
   have hi := List.mem_range.1 hi
   have : i * m + m ≤ q * m := by have := Nat.mul_le_mul_right m hi; rw [Nat.succ_mul] at this; exact this
   rw [List.length_take, List.length_drop]; omega
  have hf : (chunks m d q).flatten = d := by rw [chunks_flatten, e4, List.take_length]
  refine ⟨chunks m d q, ?_, hf, fun x hx => by rw [hl x hx]; omega, ?_, fun x hx => by rw [hl x hx, e1], fun _ => by rw [chunks_len, e1]; exact_mod_cast e4⟩
  ·unfold lanes
   rw [if_pos hr, e1, ← e4]
   simp only [Int.toNat_natCast]
   rw [Nat.mul_div_cancel _ (by omega)]
  ·have := flat_len (chunks m d q) (fun x hx => by rw [hl x hx]; omega)
   rw [hf] at this
   omega
theorem RowR.get {B g n c : Nat} {w : World} {xss : List (List Int)} (h : RowR B w (.slice (some ⟨g, 0, none⟩) n c) xss) {q : Nat} (hq : q < xss.length) :
  ∃ u, w.cell? ⟨g, q, none⟩ = some u ∧ RowI B w u xss[q] ∧ ∀ w' ys, KB (fun k => u.ownBlock = some k) w w' → RowI B w' u ys → RowR B w' (.slice (some ⟨g, 0, none⟩) n c) (xss.set q ys) := by
 obtain ⟨vs, hown, hin⟩ := h
 have hn : xss.length = n := by
  rcases hown.2 with ⟨h0, _⟩ | ⟨g', cap, cur, e, _⟩
  ·simp at h0
  ·simp only [Value.slice.injEq] at e; exact e.2.1.symm
 subst hn
 obtain ⟨u, hu, hr, hap⟩ := hin q hq
 refine ⟨u, ?_, hr, fun w' ys hk hy => ?_⟩
 ·rw [World.ownsRow.cellAt hown q (by simpa using hq)]; exact hu
 ·refine ⟨vs, ?_, fun i hi => ?_⟩
  ·rw [List.length_set]
   refine hk.row hown fun k e he => ?_
   rcases outer_ne hown hr with h0 | h0
   ·rw [h0] at he; cases he
   ·exact h0 (he.trans e.symm)
  ·rw [List.length_set] at hi
   by_cases hiq : i = q
   ·subst hiq
    exact ⟨u, hu, by rw [List.getElem_set_self]; exact hy, hap⟩
   ·obtain ⟨ui, hui, hri, hapi⟩ := hin i hi
    refine ⟨ui, hui, ?_, hapi⟩
    rw [List.getElem_set_ne (fun e => hiq e.symm)]
    refine hk.row hri fun k e he => ?_
    have hne : Apart ui u ∨ Apart u ui := by
     rcases Nat.lt_or_gt_of_ne hiq with h1 | h1
     ·exact .inl (hapi q u h1 hu)
     ·exact .inr (hap i ui h1 hui)
    have hne : Apart ui u := hne.elim id Apart.symm
    rcases hne with h0 | h0
    ·rw [h0] at e; cases e
    ·exact h0 (e.trans he.symm)
theorem RowR.form {B : Nat} {w : World} {v : Value} {xss : List (List Int)} (h : RowR B w v xss) : ∃ a c, v = .slice a xss.length c ∧ xss.length ≤ maxLen ∧ (0 < xss.length → ∃ g, a = some ⟨g, 0, none⟩ ∧ B ≤ g) := by
 obtain ⟨vs, hown, -⟩ := h
 rcases hown.2 with ⟨h0, h1⟩ | ⟨g', cap, cur, e, hB, _, hnc, hm, _⟩
 ·exact ⟨none, 0, by rw [h0, h1], by rw [h1]; exact Nat.zero_le _, fun h => by omega⟩
 ·exact ⟨_, _, e, Nat.le_trans hnc hm, fun _ => ⟨g', rfl, hB⟩⟩
theorem RowR.len {B n c : Nat} {a : Option Addr} {w : World} {xss : List (List Int)} (h : RowR B w (.slice a n c) xss) : xss.length = n := by
 obtain ⟨a', c', e, _⟩ := h.form
 simp only [Value.slice.injEq] at e; exact e.2.1.symm
end Go.Proofs.YtokghjnkfabgiaaGreatDoor

-- DROPS
namespace Go.Proofs.YtokghjnkfabgiaaGreatDoor
open Go.RowKit

theorem ite_pred {α : Type} {p : α → Prop} {c : Prop} [Decidable c] {a b : α} (ha : p a) (hb : p b) : p (if c then a else b) := by split <;> assumption
theorem truth_in (b : Bool) : In64 (truthI b) := by cases b <;> exact ⟨by decide, by decide⟩
theorem bit_of {a : Int} (h : isBit a = true) : a = 0 ∨ a = 1 := by unfold isBit at h; simpa using h
theorem ite_pred' {α : Type} {p : α → Prop} {c : Prop} [Decidable c] {a b : α} (ha : c → p a) (hb : ¬ c → p b) : p (if c then a else b) := by
 by_cases h : c
 ·rw [if_pos h]; exact ha h
 ·rw [if_neg h]; exact hb h
theorem dyv_in {f a b : Int} (ha : In64 a) (hb : In64 b) (hr : refusesB f a b = false) : In64 (dyv f a b) := by
 have hmin : In64 (min a b) := by unfold In64 at *; omega
 have hmax : In64 (max a b) := by unfold In64 at *; omega
 unfold dyv
 refine ite_pred' (fun h0 => ?_) (fun _ => ?_)
 ·exact wrap_in _
 refine ite_pred' (fun h1 => ?_) (fun _ => ?_)
 ·exact wrap_in _
 refine ite_pred' (fun h2 => ?_) (fun _ => ?_)
 ·exact wrap_in _
 refine ite_pred' (fun h3 => ?_) (fun _ => ?_)
 ·exact wrap_in _
 refine ite_pred' (fun h4 => ?_) (fun _ => ?_)
 ·exact ite_pred' (fun _ => hb) (fun h => fmod_in h ha)
 refine ite_pred' (fun h5 => ?_) (fun _ => ?_)
 ·exact hmin
 refine ite_pred' (fun h6 => ?_) (fun _ => ?_)
 ·exact hmax
 refine ite_pred' (fun h7 => ?_) (fun _ => ?_)
 ·exact truth_in _
 refine ite_pred' (fun h8 => ?_) (fun _ => ?_)
 ·exact truth_in _
 refine ite_pred' (fun h9 => ?_) (fun _ => ?_)
 ·exact truth_in _
 refine ite_pred' (fun h10 => ?_) (fun _ => ?_)
 ·exact truth_in _
 refine ite_pred' (fun h11 => ?_) (fun _ => ?_)
 ·exact truth_in _
 refine ite_pred' (fun h12 => ?_) (fun _ => ?_)
 ·(subst h12; unfold refusesB at hr; simp at hr; rcases bit_of hr.1 with rfl | rfl <;> rcases bit_of hr.2 with rfl | rfl <;> exact ⟨by decide, by decide⟩)
 refine ite_pred' (fun h13 => ?_) (fun _ => ?_)
 ·exact hmax
 refine ite_pred' (fun h14 => ?_) (fun _ => ?_)
 ·exact wrap_in _
 exact truth_in _
theorem dyad_in {f a b : Int} (ha : In64 a) (hb : In64 b) : In64 (dyadF f a b).1 := by
 unfold dyadF
 split
 ·split
  ·exact ⟨by decide, by decide⟩
  ·rename_i h; exact dyv_in ha hb (by simpa using h)
 ·exact ⟨by decide, by decide⟩
theorem monad_in {f a : Int} (ha : In64 a) : In64 (monadF f a).1 := by
 have h01 : In64 0 := ⟨by decide, by decide⟩
 have h11 : In64 1 := ⟨by decide, by decide⟩
 show (fun r : Int × Int => In64 r.1) (monadF f a)
 unfold monadF
 refine ite_pred (p := fun r : Int × Int => In64 r.1) (ite_pred (p := fun r : Int × Int => In64 r.1) (wrap_in _) (ite_pred (p := fun r : Int × Int => In64 r.1) ?_ (ite_pred (p := fun r : Int × Int => In64 r.1) (dyad_in h11 ha) (ite_pred (p := fun r : Int × Int => In64 r.1) ?_ ?_)))) h01
 ·have h1 := truth_in (decide (0 < a)); have h2 := truth_in (decide (a < 0))
  unfold truthI
  unfold In64
  dsimp only
  split <;> split <;> omega
 ·have h1 := wrap_in (-a)
  unfold In64 at *
  dsimp only
  omega
 ·by_cases h : f = 16
  ·rw [if_pos h]
   by_cases hb : isBit a = true
   ·rw [if_pos hb]
    rcases bit_of hb with rfl | rfl <;> exact ⟨by decide, by decide⟩
   ·rw [if_neg hb]; exact ⟨by decide, by decide⟩
  ·rw [if_neg h]; exact ha
theorem In64.zero : In64 0 := by unfold In64; omega
theorem callV_in64 {f a b : Int} (ha : In64 a) (hb : In64 b) : In64 (callV f a b) := by
 unfold callV
 cases h : refusesB f a b
 ·exact dyv_in ha hb h
 ·exact In64.zero
def wgB (b : Bool) : Int := if b then 11 else 0
theorem nextE_wg (f a b : Int) (c : Bool) : nextE f a b (wgB c) = wgB (c || refusesB f a b) := by
 unfold nextE wgB
 cases refusesB f a b <;> cases c <;> rfl
def laneV (f : Int) (l : List Int) (j : Nat) : Int := (laneL f (l.take j)).1.getLastD 0
def laneB (f : Int) (l : List Int) (j : Nat) : Bool := (laneL f (l.take j)).2
theorem laneV_one (f : Int) {l : List Int} (h : 0 < l.length) : laneV f l 1 = l.getD 0 0 ∧ laneB f l 1 = false := by
 cases l with
 | nil => simp at h
 | cons x l => exact ⟨rfl, rfl⟩
theorem lane_take (f : Int) {l : List Int} {j : Nat} (h1 : 1 ≤ j) (h2 : j < l.length) : laneL f (l.take (j + 1)) = ((laneL f (l.take j)).1 ++ [callV f (laneV f l j) (l.getD j 0)], laneB f l j || refusesB f (laneV f l j) (l.getD j 0)) := by
 have e : l.take (j + 1) = l.take j ++ [l.getD j 0] := by
  rw [List.take_succ_eq_append_getElem h2, List.getD_eq_getElem?_getD, List.getElem?_eq_getElem h2]; rfl
 rw [e]
 obtain ⟨a, ha, hs⟩ := laneL_step f (l := l.take j) (l.getD j 0) (by simp; omega)
 rw [hs]
 have hv : laneV f l j = a := by unfold laneV; rw [List.getLastD_eq_getLast?, ha]; rfl
 unfold callV laneB
 rw [hv]
theorem laneV_step (f : Int) {l : List Int} {j : Nat} (h1 : 1 ≤ j) (h2 : j < l.length) : laneV f l (j + 1) = callV f (laneV f l j) (l.getD j 0) ∧ laneB f l (j + 1) = (laneB f l j || refusesB f (laneV f l j) (l.getD j 0)) := by
 have h := lane_take f h1 h2
 constructor
 ·show (laneL f (l.take (j + 1))).1.getLastD 0 = _
  rw [h]; simp
 ·show (laneL f (l.take (j + 1))).2 = _
  rw [h]
theorem getD_in64 {d : List Int} (h : ∀ x ∈ d, In64 x) (k : Nat) : In64 (d.getD k 0) := by
 rw [List.getD_eq_getElem?_getD]
 cases hq : d[k]? with
 | none => exact In64.zero
 | some y => exact h y (List.mem_of_getElem? hq)
theorem laneV_in (f : Int) {l : List Int} (h : ∀ x ∈ l, In64 x) : ∀ j, 1 ≤ j → j ≤ l.length → In64 (laneV f l j)
 | 0, h1, _ => by omega
 | 1, _, h2 => by rw [(laneV_one f h2).1]; exact getD_in64 h 0
 | j + 2, _, h2 => by
  rw [(laneV_step f (by omega) (by omega : j + 1 < l.length)).1]
  exact callV_in64 (laneV_in f h (j + 1) (by omega) (by omega)) (getD_in64 h _)
def badL (f : Int) (lx : List (List Int)) : Bool := (lx.map (laneL f)).any (·.2)
theorem badL_succ (f : Int) {lx : List (List Int)} {k : Nat} (h : k < lx.length) : badL f (lx.take (k + 1)) = (badL f (lx.take k) || (laneL f lx[k]).2) := by
 unfold badL
 rw [List.take_succ_eq_append_getElem h, List.map_append, List.any_append]
 simp only [List.map_cons, List.map_nil, List.any_cons, List.any_nil, Bool.or_false]
theorem laneV_all (f : Int) (l : List Int) : laneV f l l.length = (laneL f l).1.getLastD 0 ∧ laneB f l l.length = (laneL f l).2 := by
 unfold laneV laneB; rw [List.take_length]; exact ⟨rfl, rfl⟩
def foldL (f : Int) (s : List Int) (lx : List (List Int)) : ArrE := doneA (wgB (badL f lx)) s (lx.map fun l => (laneL f l).1.getLastD 0)
theorem foldL_eq (f : Int) (s : List Int) (lx : List (List Int)) : foldL f s lx = if (lx.map (laneL f)).any (·.2) then noA 11 else okA s (lx.map fun l => (laneL f l).1.getLastD 0) := by
 unfold foldL doneA wgB badL
 cases (lx.map (laneL f)).any (·.2) <;> rfl
theorem foldA_eq {f : Int} {s d : List Int} {lx : List (List Int)} (hr : right s d = true) (ht : takes f true = true) (hl : LaneF s d lx) (hs : s.length ≠ 0) :
  foldA f s d = if (size s.dropLast).2 ≠ 0 then noA 74 else if lastOf s = 0 then okA s.dropLast (List.replicate (size s.dropLast).1.toNat (unitF f).1) else foldL f s.dropLast lx := by
 unfold foldA
 rw [if_pos hr, if_pos ht, if_neg hs, foldL_eq, hl.eq]
theorem fold_count {s d : List Int} {lx : List (List Int)} {n : Int} (hr : right s d = true) (hl : LaneF s d lx) (hs : s.length ≠ 0) (hn : size s.dropLast = (n, 0)) : 0 ≤ n ∧ n ≤ 65536 ∧ (lastOf s ≠ 0 → n = (lx.length : Int)) := by
 have g := size_good hn
 have hp := g.prod
 have h0 : 0 ≤ n := by rw [hp]; exact (prodL_le_pow g.side).1
 refine ⟨h0, g.le, fun hne => ?_⟩
 have hc := hl.count hne
 have hd := (right_good hr).2.prod
 rw [prodL_last (fun e => hs (by rw [e]; rfl)), ← hp] at hd
 rw [hd] at hc
 exact (Int.eq_of_mul_eq_mul_right hne hc).symm
theorem dropLast_take (s : List Int) : (s.drop 0).take (s.length - 1) = s.dropLast := by rw [List.drop_zero, List.dropLast_eq_take]
theorem last_getD {s : List Int} (h : s.length ≠ 0) : s.getD (s.length - 1) 0 = lastOf s := by
 unfold lastOf
 rw [List.getLast?_eq_getElem?, List.getD_eq_getElem?_getD, List.getElem?_eq_getElem (by omega)]
 rfl
theorem lanes_in {lx : List (List Int)} {d : List Int} (hf : lx.flatten = d) (hd : ∀ x ∈ d, In64 x) : ∀ l ∈ lx, ∀ x ∈ l, In64 x := fun l hl x hx => hd x (by rw [← hf]; exact List.mem_flatten.2 ⟨l, hl, hx⟩)
end Go.Proofs.YtokghjnkfabgiaaGreatDoor

namespace Go.Proofs.YtokghjnkfabgiaaGreatDoor
open Go.RowKit

theorem right_sameM {s d e : List Int} (h : right s d = true) (hl : e.length = d.length) : right s e = true := by unfold right at *; rw [hl]; exact h
def Four (f : Int) : Prop := f = 1 ∨ f = 3 ∨ f = 6 ∨ f = 7
end Go.Proofs.YtokghjnkfabgiaaGreatDoor

-- DROPS
namespace Go.Proofs.YtokghjnkfabgiaaGreatDoor
open Go.RowKit

theorem One.row {w W W' : World} {v u x : Value} {xs : List Int} (h : One w W v u) (hr : RowI w.heap.size W x xs) (hk : KB (fun g => x.ownBlock = some g) W W') : One w W' v u :=
 h.kt (h.b.trans (hk.below h.b.size (fun g e => (hr.lt g e).1))) (KeepTy.kb hk (fun g e => by
  obtain ⟨cur, hc⟩ := own_typed hr e
  exact NotTy.of hc (by decide)))
theorem retB' {f : FuncId} {args : Array Value} {w : World} {B : Nat} {r r' : ArrE} (h : Calls Tryz.prog f args w fun e w' => RetArr B r e w' ∧ Below w.heap.size w w') (hr : r = r') :
  Calls Tryz.prog f args w fun e w' => RetArr B r' e w' ∧ Below w.heap.size w w' := hr ▸ h
end Go.Proofs.YtokghjnkfabgiaaGreatDoor

-- DROPS
namespace Go.Proofs.YtokghjnkfabgiaaGreatDoor
open Go.RowKit

def mapA (f : Int) (s d : List Int) : ArrE := if d.any (fun x => (monadF f x).2 != 0) then noA 11 else okA s (d.map fun x => (monadF f x).1)
theorem monadF_err {f x : Int} (ht : takes f false = true) : (monadF f x).2 = 0 ∨ (monadF f x).2 = 11 := by
 unfold monadF dyadF
 rw [if_pos ht]
 repeat' split
 all_goals first | exact .inl rfl | exact .inr rfl | (simp_all [takes])
theorem range_getD (g : Int → Int) (d : List Int) : (List.range d.length).map (fun i => g (d.getD i 0)) = d.map g := by
 apply List.ext_getElem
 ·simp
 ·intro i h1 h2
  simp at h1
  simp [h1]
theorem mapA_bad {f : Int} {s d : List Int} {k : Nat} (hk : k < d.length) (h : (monadF f (d.getD k 0)).2 ≠ 0) : mapA f s d = noA 11 := by
 unfold mapA
 rw [if_pos]
 refine List.any_eq_true.2 ⟨d[k], List.getElem_mem hk, ?_⟩
 rw [List.getD_eq_getElem?_getD, List.getElem?_eq_getElem hk] at h
 simpa using h
theorem mapA_good {f : Int} {s d : List Int} (h : ∀ i, i < d.length → (monadF f (d.getD i 0)).2 = 0) : mapA f s d = okA s (d.map fun x => (monadF f x).1) := by
 unfold mapA
 rw [if_neg]
 intro e
 obtain ⟨x, hx, hb⟩ := List.any_eq_true.1 e
 obtain ⟨i, hi, rfl⟩ := List.getElem_of_mem hx
 have := h i hi
 rw [List.getD_eq_getElem?_getD, List.getElem?_eq_getElem hi] at this
 simp only [Option.getD_some] at this
 have hb : ((monadF f d[i]).2 != 0) = true := hb
 rw [this] at hb
 simp at hb
theorem In64.getD {d : List Int} (h : ∀ x ∈ d, In64 x) {k : Nat} (hk : k < d.length) : In64 (d.getD k 0) := by
 rw [List.getD_eq_getElem?_getD, List.getElem?_eq_getElem hk]; exact h _ (List.getElem_mem hk)
theorem IntsAt.atD {w : World} {a : Option Addr} {d : List Int} (h : IntsAt .i64 w a d) {k : Nat} (hk : k < d.length) : ∃ b off, a = some ⟨b, off, none⟩ ∧ w.cell? ⟨b, off + k, none⟩ = some (.int .i64 (d.getD k 0)) := by
 obtain ⟨b, off, e, hc⟩ := h k hk
 exact ⟨b, off, e, by rw [List.getD_eq_getElem?_getD, List.getElem?_eq_getElem hk]; exact hc⟩
theorem One.cell {w W : World} {v u x : Value} {G k : Nat} (h : One w W v u) (hG : w.heap.size + 1 < G) : One w (W.setCell ⟨G, k, none⟩ x) v u :=
 ⟨block_other h.x (by show G ≠ _; omega) _, block_other h.r (by show G ≠ _; omega) _, h.b.setCell (p := ⟨G, k, none⟩) (by show _ ≤ G; omega) _⟩
theorem takesF_le {f : Int} (h : takes f false = true) : f ≤ 17 := (takes_in h).2
set_option maxHeartbeats 4000000 in
theorem pm_map (w : World) (f : Int) (v u : Value) (s d : List Int) (hs : SlA w v s) (hd : SlA w u d) (hr : right s d = true) (ht : takes f false = true) :
  Calls Tryz.prog 95 #[.int .u8 f, .agg #[v, u]] w fun e w' => RetArr w.heap.size (mapA f s d) e w' ∧ Below w.heap.size w w' := by
 have hf := takesF_le ht
 have g0 : (f == 32) = false := by rw [beq_eq_false_iff_ne]; omega
 have g1 : (f == 33) = false := by rw [beq_eq_false_iff_ne]; omega
 have g2 : (f == 34) = false := by rw [beq_eq_false_iff_ne]; omega
 have g3 : (f == 35) = false := by rw [beq_eq_false_iff_ne]; omega
 have g4 : (f == 36) = false := by rw [beq_eq_false_iff_ne]; omega
 have HT := Lib.hid (fun W => takes_at W f false true ht); have HTK := Lib.hid ht
 have hd6 := (right_good hr).2.le
 have hs4 := (right_good hr).2.len
 obtain ⟨i0, hi, hz0, hz1, hz2⟩ := info_parts Tryz.info2
 have Hi := Lib.hid hi; have Hz0 := Lib.hid hz0; have Hz1 := Lib.hid hz1; have Hz2 := Lib.hid hz2; clear hi hz0 hz1 hz2
 clear hf ht
 obtain ⟨a0, c0, rfl, h01, h02, -, h04, -⟩ := hs
 obtain ⟨a1, c1, rfl, h11, h12, -, h14, hin⟩ := hd
 have h02' : c0 ≤ 9223372036854775807 := h02
 have h12' : c1 ≤ 9223372036854775807 := h12
 have HM : Hid (s.length ≤ maxLen) := Lib.hid (Nat.le_trans h01 h02)
 have HRT := Lib.hid hr; have H0 := Lib.hid h04; have H1 := Lib.hid h14; have HIN := Lib.hid hin
 have HO := Lib.hid (One.mk0 w (.slice a0 s.length c0) (.slice a1 d.length c1))
 obtain ⟨r, HRR⟩ : ∃ r, Hid ((mapA f s d) = r) := ⟨_, Lib.hid rfl⟩
 rw [HRR.out]
 clear hr h04 h14 h02 h12 hin
 go_enter Tryz.func95, Tryz.ntmps95
 go_upto_region 1 with fail
 refine gen_worldA (fun W => One w W (.slice a0 s.length c0) (.slice a1 d.length c1)) HO.out ?_
 rintro W hO
 have hq := right_any W a0 a1 c0 c1 s d HM.out (H0.out.below hO.b (Nat.le_refl _))
 rw [HRT.out] at hq
 have HQ := Lib.hid hq; have HO1 := Lib.hid hO
 have x0 := hO.c0; have x1 := hO.c1
 clear hq hO
 go_wp2_with fail
 refine HQ.out.mono ?_
 rintro e W1 ⟨rfl, hb1⟩
 have HO2 := Lib.hid (HO1.out.next hb1)
 clear x0 x1
 have x0 := HO2.out.c0; have x1 := HO2.out.c1
 clear hb1 HQ HO1
 have HQ0 := Lib.hid (HT.out W1)
 go_wp2_with fail
 refine HQ0.out.mono ?_
 rintro e W2 ⟨rfl, rfl⟩
 have hsz := HO2.out.b.size
 clear HQ0 HT HO g0 g1 g2 g3 g4
 go_wp2_with (at_make; refine wpList_make_full _ rfl _ _ 42 rfl w.heap.size 2 i0 (.int .i64 0) 1 Tryz.underlying42 Hi.out Hz0.out Hz1.out _ _ _ _ d.length rfl rfl rfl rfl ?c2 ?c3 ?c4 ?_)
 case c2 => rw [Hz2.out]; omega
 case c3 => unfold maxLen; omega
 case c4 => exact hsz
 intro w3 hown hgrow
 have hb3 : Below W1.heap.size W1 w3 := (Below.refl _ _).grown hgrow (Nat.le_refl _) (by simp)
 have HO4 := Lib.hid (HO2.out.next hb3)
 have HROW := Lib.hid (made_ints hown)
 obtain ⟨G, hG⟩ : ∃ G, W1.heap.size = G := ⟨_, rfl⟩
 rw [hG] at HROW ⊢
 have hGl : w.heap.size + 1 < G := hG ▸ HO2.out.lt
 clear x0 x1
 have x1 := HO4.out.c1
 clear hown hgrow HO2 hG hb3 hsz
 go_wp2_with fail
 clear x1
 go_loopw [93] (fun i wr => ∃ k : Nat, k ≤ d.length ∧ i = .int .i64 k ∧ One w wr (.slice a0 s.length c0) (.slice a1 d.length c1) ∧
  RowI w.heap.size wr (.slice (some ⟨G, 0, none⟩) d.length d.length) ((List.range k).map (fun i => (monadF f (d.getD i 0)).1) ++ List.replicate (d.length - k) 0) ∧ ∀ i, i < k → (monadF f (d.getD i 0)).2 = 0) (fun i _ => d.length - (intOf i).toNat)
 case atStart => exact ⟨0, by omega, rfl, HO4.out, by simpa using HROW.out, fun i hi => by omega⟩
 case round =>
  obtain ⟨k, hk, rfl, hO, hrw, hgood⟩ := hrel
  clear HO4 HROW
  by_cases hlt : k < d.length
  ·have hset := fun W (h : RowI w.heap.size W (.slice (some ⟨G, 0, none⟩) d.length d.length) ((List.range k).map (fun i => (monadF f (d.getD i 0)).1) ++ List.replicate (d.length - k) 0)) => by
    have := h.set k (monadF f (d.getD k 0)).1
    rwa [rep_step (fun i => (monadF f (d.getD i 0)).1) hlt] at this
   obtain ⟨b1, off1, rfl, hc1⟩ := H1.out.atD hlt
   have hcc := keepCell hO.b hc1
   have hx64 := In64.getD HIN.out hlt
   have hbad := fun h => mapA_bad (f := f) (s := s) hlt h
   have herr := monadF_err (x := d.getD k 0) HTK.out
   have hnx : (monadF f (d.getD k 0)).2 = 0 → ∀ i, i < k + 1 → (monadF f (d.getD i 0)).2 = 0 := fun h i hi => by
    by_cases e : i = k
    ·rw [e]; exact h
    ·exact hgood i (by omega)
   have hq := fun W => monad_at W f (d.getD k 0) (monadF f (d.getD k 0)).1 (monadF f (d.getD k 0)).2 hx64 rfl
   generalize (monadF f (d.getD k 0)).1 = y at hset hq
   generalize (monadF f (d.getD k 0)).2 = e at hbad herr hnx hq
   generalize d.getD k 0 = x at hc1 hcc hx64 hq
   have hfr := hrw.fr k
   have hgc := hrw.at (k := k) (by rw [rep_len _ (by omega)]; exact hlt)
   have hkd : (k : Int) < (d.length : Int) := by omega
   have HQ := Lib.hid hq; have HSET := Lib.hid hset; have HNX := Lib.hid hnx; have HBAD := Lib.hid hbad; have HOR := Lib.hid hO; have HRW := Lib.hid hrw
   clear hq hset hnx hbad hO hrw hgood hc1 hx64
   go_wp2_with fail
   refine (HQ.out _).mono ?_
   rintro e1 w5 ⟨rfl, n5, rfl⟩
   have HO5 := Lib.hid ((HOR.out.next (Below.drewN wr n5)).cell (k := k) (x := .int .i64 y) hGl)
   have HS5 := Lib.hid (HSET.out _ (HRW.out.drewN n5))
   clear HQ HSET HOR HRW hcc
   rcases herr with rfl | rfl
   ·have HNX2 := Lib.hid (HNX.out rfl)
    clear HNX HBAD
    go_wp2_with fail
    go_roundw
    case rel => exact ⟨k + 1, by omega, by go_num, HO5.out, HS5.out, HNX2.out⟩
    case measure => simp [intOf]; omega
   ·have hq := fault_at ((wr.drewN n5).setCell ⟨G, k, none⟩ (.int .i64 y)) w.heap.size HO5.out.b.size 11 r (by rw [← HBAD.out (by decide)]; exact HRR.out)
    have HQ := Lib.hid hq; have HR := Lib.hid HO5.out.r; have HB := Lib.hid HO5.out.b
    clear hq HNX HBAD HO5 HS5
    go_wp2_with fail
    refine (Hid.out HQ).mono ?_
    rintro e w9 ⟨⟨v9, u9, rfl, hv9, hu9, hap9⟩, hb9⟩
    have hR9 := block_below (Hid.out HR) hb9
    have HV9 := Lib.hid hv9; have HU9 := Lib.hid hu9; have HAP9 := Lib.hid hap9; have HR9 := Lib.hid hR9
    have HB9 := Lib.hid (bNext hb9 (Hid.out HB))
    obtain ⟨a9, c9, rfl, -, -⟩ := RowI.slice hv9
    obtain ⟨a8, c8, rfl, -, -⟩ := RowI.slice hu9
    have g0 := cell_of_row w9 _ 0 _ _ _ hR9; have g1 := cell_of_row w9 _ 1 _ _ _ hR9
    have z0 := frozen_of_row w9 _ 0 _ _ hR9; have z1 := frozen_of_row w9 _ 1 _ _ hR9
    clear hv9 hu9 hap9 hb9 hR9
    go_wp2_with fail
    exact fin_arr rfl rfl rfl HR9.out HV9.out HU9.out HAP9.out HB9.out (by omega)
  ·obtain rfl : k = d.length := by omega
   have hrr : okA s (d.map fun x => (monadF f x).1) = r := by rw [← HRR.out]; exact (mapA_good hgood).symm
   rw [Nat.sub_self, List.replicate_zero, List.append_nil, range_getD (fun x => (monadF f x).1)] at hrw
   have hq := good_any wr w.heap.size hO.b.size a0 s.length c0 s _ (.slice (some ⟨G, 0, none⟩) d.length d.length) rfl (by omega) (H0.out.below hO.b (Nat.le_refl _)) hrw
   rw [hrr] at hq
   have HQ := Lib.hid hq; have HR := Lib.hid hO.r; have HB := Lib.hid hO.b
   have x0 := hO.c0
   clear hq hO hrw hlt hgood hrr
   go_wp2_with fail
   refine (Hid.out HQ).mono ?_
   rintro e w9 ⟨⟨v9, u9, rfl, hv9, hu9, hap9⟩, hb9⟩
   have hR9 := block_below (Hid.out HR) hb9
   have HV9 := Lib.hid hv9; have HU9 := Lib.hid hu9; have HAP9 := Lib.hid hap9; have HR9 := Lib.hid hR9
   have HB9 := Lib.hid (bNext hb9 (Hid.out HB))
   obtain ⟨a9, c9, rfl, -, -⟩ := RowI.slice hv9
   obtain ⟨a8, c8, rfl, -, -⟩ := RowI.slice hu9
   have g0 := cell_of_row w9 _ 0 _ _ _ hR9; have g1 := cell_of_row w9 _ 1 _ _ _ hR9
   have z0 := frozen_of_row w9 _ 0 _ _ hR9; have z1 := frozen_of_row w9 _ 1 _ _ hR9
   clear hv9 hu9 hap9 hb9 hR9
   go_wp2_with fail
   exact fin_arr rfl rfl rfl HR9.out HV9.out HU9.out HAP9.out HB9.out (by omega)
end Go.Proofs.YtokghjnkfabgiaaGreatDoor

-- DROPS
namespace Go.Proofs.YtokghjnkfabgiaaGreatDoor
open Go.RowKit

theorem wp_app {o : Oper} {a : Act} {w : World} {K : Act → World → Prop} {Q : Exit → Act → World → Prop} (s x : Operand) (ho : o.op = .call { callee := .builtin .append, args := #[s, x], argTypes := #[42, 42] })
  (B : Nat) (v : Value) (xs ys : List Int) (u : Value) (m : Nat) (hm : ys.length = m) (hs : a.eval s = v) (hv : RowI B w v xs) (hx : a.eval x = u) (hu : Src w u m (ys.map (Value.int .i64)))
  (hl : xs.length + m ≤ 1048576) (hB : B ≤ w.heap.size) (h : ∀ v' w', RowI B w' v' (xs ++ ys) → w.grownBy w' v.ownBlock → Newer w v v' → K (a.put o.dst v') w') : o.wp Tryz.prog a w K Q := by
 subst hm
 obtain ⟨i0, hi, hz0, hz1, hz2⟩ := info_parts Tryz.info2
 refine wp_append_src _ s x 42 ho B 2 i0 _ 1 8 Tryz.underlying42 hi hz0 hz1 hz2 rfl (by decide) v xs.length _ hs (by unfold RowI at hv; exact hv) u ys.length _ hx hu (by simp) (by intro z hz; obtain ⟨p, _, rfl⟩ := List.mem_map.1 hz; rfl) (by unfold maxLen; omega) (by omega) hB ?_
 intro v' w' hown hg hn
 refine h v' w' ?_ hg hn
 unfold RowI
 rw [List.map_append, List.length_append]
 exact hown
theorem wpList_app {ops : Array Oper} {rest : List Oper} {o : Oper} {a : Act} {w : World} {Q : Exit → Act → World → Prop} (hgd : o.guard = none) (s x : Operand) (ho : o.op = .call { callee := .builtin .append, args := #[s, x], argTypes := #[42, 42] })
  (B : Nat) (v : Value) (xs ys : List Int) (u : Value) (m : Nat) (hm : ys.length = m) (hs : a.eval s = v) (hv : RowI B w v xs) (hx : a.eval x = u) (hu : Src w u m (ys.map (Value.int .i64)))
  (hl : xs.length + m ≤ 1048576) (hB : B ≤ w.heap.size) (h : ∀ v' w', RowI B w' v' (xs ++ ys) → w.grownBy w' v.ownBlock → Newer w v v' → wpList Tryz.prog ops Q rest (a.put o.dst v') w') : wpList Tryz.prog ops Q (o :: rest) a w :=
 wpList_plain hgd fun _ hK => wp_app s x ho B v xs ys u m hm hs hv hx hu hl hB fun v' w' h2 h3 h4 => hK _ _ (h v' w' h2 h3 h4)
theorem src_lit (W : World) (ys : List Int) (t : TypeId) (m G : Nat) (hG : W.heap.size = G) (hm : ys.length = m) : Src (W.alloc (.cells (ys.map (Value.int .i64)).toArray t)) (.slice (some ⟨G, 0, none⟩) m m) m (ys.map (Value.int .i64)) := by
 subst hG
 refine .inr ⟨_, _, rfl, fun j z hz => ?_⟩
 have : (⟨W.heap.size, 0, none⟩ : Addr).add j = ⟨W.heap.size, j, none⟩ := by unfold Addr.add; split <;> simp_all
 rw [this, cell_of_row _ W.heap.size j _ t (0, 0) (World.alloc_heap_new W _)]
 simpa using hz
theorem src_one (W : World) (y : Int) (G : Nat) (hG : W.heap.size = G) : Src (W.alloc (.cells #[.int .i64 y] 2)) (.slice (some ⟨G, 0, none⟩) 1 1) 1 ([y].map (Value.int .i64)) := src_lit W [y] 2 1 G hG rfl
theorem One.app {w W W1 W' : World} {v u x : Value} {xs : List Int} (h : One w W v u) (hb : Below W.heap.size W W1) (hr : RowI w.heap.size W1 x xs) (hg : W1.grownBy W' x.ownBlock) : One w W' v u := by
 have h1 := h.next hb
 exact h1.kt (h1.b.grown hg h1.b.size (fun g e => (hr.lt g e).1)) (KeepTy.grown hg (fun g e => by
  obtain ⟨cur, hc⟩ := own_typed hr e
  exact NotTy.of hc (by decide)))
end Go.Proofs.YtokghjnkfabgiaaGreatDoor

-- DROPS
namespace Go.Proofs.YtokghjnkfabgiaaGreatDoor
open Go.RowKit

theorem SlA.form {w : World} {v : Value} {xs : List Int} (h : SlA w v xs) : ∃ a c, v = .slice a xs.length c := by obtain ⟨a, c, e, _⟩ := h; exact ⟨a, c, e⟩
theorem RowI.fm {B : Nat} {w : World} {v : Value} {xs : List Int} (h : RowI B w v xs) : ∃ a c, v = .slice a xs.length c := by obtain ⟨a, c, e, _⟩ := h.slice; exact ⟨a, c, e⟩
end Go.Proofs.YtokghjnkfabgiaaGreatDoor

-- DROPS
namespace Go.Proofs.YtokghjnkfabgiaaGreatDoor
open Go.RowKit

structure Duo (w W : World) (v u v2 u2 : Value) : Prop where
 x : W.heap[w.heap.size]? = some (.cells #[v, u] 44 (0, 0))
 y : W.heap[w.heap.size + 1]? = some (.cells #[v2, u2] 44 (0, 0))
 r : W.heap[w.heap.size + 2]? = some (.cells #[.slice none 0 0, .slice none 0 0] 44 (0, 0))
 b : Below w.heap.size w W
theorem Duo.mk0 (w : World) (v u v2 u2 : Value) : Duo w (((w.alloc (.cells #[v, u] 44)).alloc (.cells #[v2, u2] 44)).alloc (.cells #[.slice none 0 0, .slice none 0 0] 44)) v u v2 u2 :=
 ⟨block_alloc (heap_two1 _ _ _) _, block_alloc (heap_two2 _ _ _) _, by
  have := World.alloc_heap_new ((w.alloc (.cells #[v, u] 44)).alloc (.cells #[v2, u2] 44)) (.cells #[.slice none 0 0, .slice none 0 0] 44)
  simpa using this, (Below.two w _ _).alloc (by simp; omega) _⟩
theorem Duo.next {w W W' : World} {v u v2 u2 : Value} (h : Duo w W v u v2 u2) (hb : Below W.heap.size W W') : Duo w W' v u v2 u2 := ⟨block_below h.x hb, block_below h.y hb, block_below h.r hb, bNext hb h.b⟩
theorem Duo.c0 {w W : World} {v u v2 u2 : Value} (h : Duo w W v u v2 u2) : W.cell? ⟨w.heap.size, 0, none⟩ = some v := cell_of_row W _ 0 _ _ _ h.x
theorem Duo.c1 {w W : World} {v u v2 u2 : Value} (h : Duo w W v u v2 u2) : W.cell? ⟨w.heap.size, 1, none⟩ = some u := cell_of_row W _ 1 _ _ _ h.x
theorem Duo.c2 {w W : World} {v u v2 u2 : Value} (h : Duo w W v u v2 u2) : W.cell? ⟨w.heap.size + 1, 0, none⟩ = some v2 := cell_of_row W _ 0 _ _ _ h.y
theorem Duo.c3 {w W : World} {v u v2 u2 : Value} (h : Duo w W v u v2 u2) : W.cell? ⟨w.heap.size + 1, 1, none⟩ = some u2 := cell_of_row W _ 1 _ _ _ h.y
theorem Duo.lt {w W : World} {v u v2 u2 : Value} (h : Duo w W v u v2 u2) : w.heap.size + 2 < W.heap.size := (Array.getElem?_eq_some_iff.1 h.r).1
theorem Duo.kt {w W W' : World} {v u v2 u2 : Value} (h : Duo w W v u v2 u2) (hb : Below w.heap.size w W') (hk : KeepTy 44 W W') : Duo w W' v u v2 u2 := ⟨hk _ _ h.x, hk _ _ h.y, hk _ _ h.r, hb⟩
theorem Duo.app {w W W1 W' : World} {v u v2 u2 x : Value} {xs : List Int} (h : Duo w W v u v2 u2) (hb : Below W.heap.size W W1) (hr : RowI w.heap.size W1 x xs) (hg : W1.grownBy W' x.ownBlock) : Duo w W' v u v2 u2 := by
 have h1 := h.next hb
 exact h1.kt (h1.b.grown hg h1.b.size (fun g e => (hr.lt g e).1)) (KeepTy.grown hg (fun g e => by
  obtain ⟨cur, hc⟩ := own_typed hr e
  exact NotTy.of hc (by decide)))
theorem Duo.cell {w W : World} {v u v2 u2 x : Value} {G k : Nat} (h : Duo w W v u v2 u2) (hG : w.heap.size + 2 < G) : Duo w (W.setCell ⟨G, k, none⟩ x) v u v2 u2 :=
 ⟨block_other h.x (by show G ≠ _; omega) _, block_other h.y (by show G ≠ _; omega) _, block_other h.r (by show G ≠ _; omega) _, h.b.setCell (p := ⟨G, k, none⟩) (by show _ ≤ G; omega) _⟩
theorem Duo.row {w W W' : World} {v u v2 u2 x : Value} {xs : List Int} (h : Duo w W v u v2 u2) (hr : RowI w.heap.size W x xs) (hk : KB (fun g => x.ownBlock = some g) W W') : Duo w W' v u v2 u2 :=
 h.kt (h.b.trans (hk.below h.b.size (fun g e => (hr.lt g e).1))) (KeepTy.kb hk (fun g e => by
  obtain ⟨cur, hc⟩ := own_typed hr e
  exact NotTy.of hc (by decide)))
end Go.Proofs.YtokghjnkfabgiaaGreatDoor

-- DROPS
namespace Go.Proofs.YtokghjnkfabgiaaGreatDoor
open Go.RowKit

theorem In64.one : In64 1 := by unfold In64; omega
theorem Duo.put0 {w W : World} {v u v2 u2 : Value} (h : Duo w W v u v2 u2) (z : Value) : Duo w (W.setCell ⟨w.heap.size, 0, none⟩ z) z u v2 u2 :=
 ⟨heap_setCell_same W _ 0 _ _ _ h.x, block_other h.y (by show w.heap.size ≠ w.heap.size + 1; omega) _, block_other h.r (by show w.heap.size ≠ w.heap.size + 2; omega) _, h.b.setCell (p := ⟨w.heap.size, 0, none⟩) (Nat.le_refl _) _⟩
end Go.Proofs.YtokghjnkfabgiaaGreatDoor

-- DROPS
namespace Go.Proofs.YtokghjnkfabgiaaGreatDoor
open Go.RowKit

def outP (f : Int) (pq : List (Int × Int)) : List Int := pq.map fun p => callV f p.1 p.2
def wrongP (f : Int) (pq : List (Int × Int)) : Int := if pq.any (fun p => refusesB f p.1 p.2) then 11 else 0
theorem outP_snoc (f : Int) (pq : List (Int × Int)) (a b : Int) : outP f (pq ++ [(a, b)]) = outP f pq ++ [callV f a b] := by simp [outP]
theorem wrongP_snoc (f : Int) (pq : List (Int × Int)) (a b : Int) : wrongP f (pq ++ [(a, b)]) = nextE f a b (wrongP f pq) := by
 unfold wrongP nextE
 rw [List.any_append]
 simp only [List.any_cons, List.any_nil, Bool.or_false]
 cases refusesB f a b <;> cases pq.any (fun p => refusesB f p.1 p.2) <;> rfl
theorem outP_len (f : Int) (pq : List (Int × Int)) : (outP f pq).length = pq.length := by simp [outP]
theorem pairsA_eq (f : Int) (xs ys s : List Int) : pairsA f xs ys s = doneA (wrongP f (xs.zip ys)) s (outP f (xs.zip ys)) := by
 unfold pairsA doneA wrongP
 cases h : (xs.zip ys).any (fun p => refusesB f p.1 p.2) with
 | true => rfl
 | false =>
  simp only [Bool.false_eq_true, if_false, if_true]
  congr 1
  unfold outP
  rw [List.zip, List.map_zipWith] at *
  apply List.ext_getElem
  ·simp
  ·intro i h1 h2
   simp only [List.getElem_zipWith]
   unfold callV
   rw [List.any_eq_false] at h
   have := h (xs[i]'(by simp at h1; omega), ys[i]'(by simp at h1; omega)) (by
    rw [List.mem_iff_getElem]
    exact ⟨i, by simpa using h1, by simp⟩)
   simp only [] at this
   rw [if_neg this]
theorem zip_step {xs ys : List Int} (hl : xs.length = ys.length) {k : Nat} (hk : k < xs.length) : (xs.zip ys).take (k + 1) = (xs.zip ys).take k ++ [(xs.getD k 0, ys.getD k 0)] := by
 rw [List.take_succ_eq_append_getElem (by simp; omega)]
 congr 2
 rw [List.getElem_zip, List.getD_eq_getElem?_getD, List.getD_eq_getElem?_getD, List.getElem?_eq_getElem hk, List.getElem?_eq_getElem (by omega)]
 rfl
theorem Duo.call {w W W' : World} {v u v2 u2 : Value} {P F : Nat} {f wr : Int} (h : Duo w W v u v2 u2) (hp : PairAt W P F f wr) (hP : w.heap.size ≤ P) (hk : KB (fun g => g = P) W W') : Duo w W' v u v2 u2 :=
 h.kt (h.b.trans (hk.below h.b.size (fun g e => by rw [e]; exact hP))) (KeepTy.kb hk (fun g e => by rw [e]; exact hp.not (by decide)))
theorem RowI.call {B : Nat} {W W' : World} {x : Value} {xs : List Int} {P F : Nat} {f wr : Int} (h : RowI B W x xs) (hp : PairAt W P F f wr) (hk : KB (fun g => g = P) W W') : RowI B W' x xs :=
 own_keep h (KeepTy.kb hk (fun g e => by rw [e]; exact hp.not (by decide)))
theorem PairAt.app {B P F : Nat} {W W1 W' : World} {x : Value} {xs : List Int} {f wr : Int} (h : PairAt W P F f wr) (hb : Below W.heap.size W W1) (hr : RowI B W1 x xs) (hg : W1.grownBy W' x.ownBlock) : PairAt W' P F f wr := by
 have h1 := h.below hb
 have hn : ∀ {t : TypeId}, 2 ≠ t → KeepTy t W1 W' := fun hne => KeepTy.grown hg (fun g e => by
  obtain ⟨cur, hc⟩ := own_typed hr e
  exact NotTy.of hc hne)
 exact ⟨hn (by decide) _ _ h1.p, hn (by decide) _ _ h1.f⟩
set_option maxHeartbeats 8000000 in
theorem pd_eq (w : World) (f : Int) (v u v2 u2 : Value) (s d t e : List Int) (hs : SlA w v s) (hd : SlA w u d) (ht : SlA w v2 t) (he : SlA w u2 e) (hr1 : right s d = true) (hr2 : right t e = true) (htk : takes f true = true) (hst : s = t) :
  Calls Tryz.prog 98 #[.int .u8 f, .agg #[v, u], .agg #[v2, u2]] w fun e' w' => RetArr w.heap.size (pairsA f d e s) e' w' ∧ Below w.heap.size w w' := by
 have hf := (takes_in htk).2
 have g0 : (f == 37) = false := by rw [beq_eq_false_iff_ne]; omega
 have g1 : (f == 38) = false := by rw [beq_eq_false_iff_ne]; omega
 have g2 : (f == 39) = false := by rw [beq_eq_false_iff_ne]; omega
 have g3 : (f == 40) = false := by rw [beq_eq_false_iff_ne]; omega
 have hlen : d.length = e.length := by
  have h1 := right_size hr1
  have h2 := right_size hr2
  rw [hst, h2] at h1
  injection h1 with h1
  omega
 have hd6 := (right_good hr1).2.le
 have hs4 := (right_good hr1).2.len
 have HST := Lib.hid hst
 have HR1 := Lib.hid hr1; have HR2 := Lib.hid hr2; have HTK := Lib.hid htk
 have HT := Lib.hid (fun W => takes_at W f true true htk)
 have HLE := Lib.hid hlen
 rw [pairsA_eq]
 clear hr1 hr2 hf htk hst hlen
 have HS0 := Lib.hid hs.src; have HS1 := Lib.hid hd.src; have HS2 := Lib.hid ht.src; have HS3 := Lib.hid he.src
 obtain ⟨a0, c0, rfl, h01, h02, -, h04, -⟩ := hs
 obtain ⟨a1, c1, rfl, h11, h12, -, h14, hin⟩ := hd
 obtain ⟨a2, c2, rfl, h21, h22, -, h24, -⟩ := ht
 obtain ⟨a3, c3, rfl, h31, h32, -, h34, hie⟩ := he
 have h02' : c0 ≤ 9223372036854775807 := h02
 have h12' : c1 ≤ 9223372036854775807 := h12
 have h22' : c2 ≤ 9223372036854775807 := h22
 have h32' : c3 ≤ 9223372036854775807 := h32
 have HM : Hid (s.length ≤ maxLen) := Lib.hid (Nat.le_trans h01 h02)
 have HM2 : Hid (t.length ≤ maxLen) := Lib.hid (Nat.le_trans h21 h22)
 have H0 := Lib.hid h04; have H1 := Lib.hid h14; have HIN := Lib.hid hin
 have H2 := Lib.hid h24; have H3 := Lib.hid h34; have HIE := Lib.hid hie
 have HO := Lib.hid (Duo.mk0 w (.slice a0 s.length c0) (.slice a1 d.length c1) (.slice a2 t.length c2) (.slice a3 e.length c3))
 obtain ⟨r, HRR⟩ : ∃ r, Hid ((doneA (wrongP f (d.zip e)) s (outP f (d.zip e))) = r) := ⟨_, Lib.hid rfl⟩
 rw [HRR.out]
 clear h04 h14 h24 h34 h02 h12 h22 h32 hin hie
 go_enter Tryz.func98, Tryz.ntmps98
 go_upto_region 1 with fail
 refine gen_worldA (fun W => Duo w W (.slice a0 s.length c0) (.slice a1 d.length c1) (.slice a2 t.length c2) (.slice a3 e.length c3)) HO.out ?_
 rintro W1 hO
 have HO2 := Lib.hid hO
 have x0 := hO.c0; have x1 := hO.c1; have x2 := hO.c2; have x3 := hO.c3
 clear HO hO
 have hq := right_any W1 a0 a1 c0 c1 s d HM.out (H0.out.below HO2.out.b (Nat.le_refl _))
 rw [HR1.out] at hq
 have HQ := Lib.hid hq
 clear hq
 go_wp2_with fail
 refine HQ.out.mono ?_
 rintro e' W2 ⟨rfl, hb2⟩
 have HO3 := Lib.hid (HO2.out.next hb2)
 have hq := right_any W2 a2 a3 c2 c3 t e HM2.out (H2.out.below HO3.out.b (Nat.le_refl _))
 rw [HR2.out] at hq
 clear HQ x0 x1 x2 x3
 have HQ := Lib.hid hq
 have x2 := HO3.out.c2; have x3 := HO3.out.c3
 clear hq hb2 HO2
 go_wp2_with fail
 refine HQ.out.mono ?_
 rintro e' W3 ⟨rfl, hb3⟩
 have HO4 := Lib.hid (HO3.out.next hb3)
 clear HQ x2 x3 hb3 HO3
 have x0 := HO4.out.c0; have x1 := HO4.out.c1; have x2 := HO4.out.c2; have x3 := HO4.out.c3
 have HQ0 := Lib.hid (HT.out W3)
 go_wp2_with fail
 refine HQ0.out.mono ?_
 rintro e' W4 ⟨rfl, rfl⟩
 have HQ1 := Lib.hid (of_any W3 f)
 clear HQ0 HT g0 g1 g2 g3 x0 x1 x2 x3
 go_wp2_with fail
 refine HQ1.out.mono ?_
 rintro e' W5 ⟨rfl, hp5, hb5⟩
 have HO5 := Lib.hid (HO4.out.next hb5)
 have hP : w.heap.size ≤ W3.heap.size + 1 := by have := HO4.out.b.size; omega
 obtain ⟨P, hPe⟩ : ∃ P, W3.heap.size + 1 = P := ⟨_, rfl⟩
 obtain ⟨F, hFe⟩ : ∃ F, W3.heap.size = F := ⟨_, rfl⟩
 rw [hPe] at hp5 hP ⊢
 rw [hFe] at hp5
 have HPA := Lib.hid hp5; have hPw := Lib.hid hP
 clear HQ1 hp5 hb5 HO4 hPe hFe hP
 have x0 := HO5.out.c0; have x1 := HO5.out.c1; have x2 := HO5.out.c2; have x3 := HO5.out.c3
 have hq := equal_any W5 a0 a2 c0 c2 s t HM.out HM2.out (H0.out.below HO5.out.b (Nat.le_refl _)) (H2.out.below HO5.out.b (Nat.le_refl _))
 have HQ := Lib.hid hq
 clear hq
 go_wp2_with fail
 refine HQ.out.mono ?_
 rintro e' W6 ⟨rfl, n6, rfl⟩
 have HO6 := Lib.hid (HO5.out.next (Below.drewN W5 n6)); have HPB := Lib.hid (HPA.out.below (Below.drewN W5 n6))
 clear HQ HO5 HPA x0 x1 x2 x3
 obtain ⟨W7, hW7⟩ : ∃ W, W5.drewN n6 = W := ⟨_, rfl⟩
 rw [hW7] at HO6 HPB ⊢
 clear hW7
 have hints : ints s t = true := by unfold ints; exact decide_eq_true HST.out
 rw [hints]
 clear hints
 have x1 := HO6.out.c1
 go_wp2_with fail
 clear x1
 go_loopw [9, 71] (fun o i wr => ∃ k : Nat, k ≤ d.length ∧ i = .int .i64 k ∧ Duo w wr (.slice a0 s.length c0) (.slice a1 d.length c1) (.slice a2 t.length c2) (.slice a3 e.length c3) ∧
  PairAt wr P F f (wrongP f ((d.zip e).take k)) ∧ RowI w.heap.size wr o (outP f ((d.zip e).take k))) (fun _ i _ => d.length - (intOf i).toNat)
 case atStart => exact ⟨0, by omega, rfl, HO6.out, HPB.out, RowI.nil _ _⟩
 case round =>
  obtain ⟨k, hk, rfl, hO, hpa, hrw⟩ := hrel
  clear HO6 HPB
  have x0 := hO.c0; have x1 := hO.c1; have x3 := hO.c3
  by_cases hlt : k < d.length
  ·have hz := zip_step HLE.out hlt
   obtain ⟨b1, o1, rfl, hc1⟩ := H1.out.atD hlt
   obtain ⟨b3, o3, rfl, hc3⟩ := H3.out.atD (k := k) (by rw [← HLE.out]; exact hlt)
   have HC1 := Lib.hid hc1; have HC3 := Lib.hid hc3
   have hc1 := keepCell hO.b hc1; have hc3 := keepCell hO.b hc3
   have hx := In64.getD HIN.out hlt; have hy := In64.getD HIE.out (k := k) (by rw [← HLE.out]; exact hlt)
   have hkd : (k : Int) < (d.length : Int) := by omega
   have hke : (k : Int) < (e.length : Int) := by have := HLE.out; omega
   have hk0 : (0 : Int) ≤ (k : Int) := by omega
   generalize d.getD k 0 = x at hz hc1 hx HC1
   generalize e.getD k 0 = y at hz hc3 hy HC3
   have hol : (outP f ((d.zip e).take k)).length ≤ 65536 := by rw [outP_len, List.length_take]; omega
   have hO1 : outP f ((d.zip e).take (k + 1)) = outP f ((d.zip e).take k) ++ [callV f x y] := by rw [hz, outP_snoc]
   have hW1 : wrongP f ((d.zip e).take (k + 1)) = nextE f x y (wrongP f ((d.zip e).take k)) := by rw [hz, wrongP_snoc]
   have HOL := Lib.hid hol; have HO1 := Lib.hid hO1; have HW1 := Lib.hid hW1
   have hcl := fun W wrong hp => call_any W P F f wrong x y hp HTK.out hx hy
   have HC := Lib.hid hcl; have HOR := Lib.hid hO; have HPA := Lib.hid hpa; have HRW := Lib.hid hrw
   clear hz hol hO1 hW1 hcl hO hpa hrw hx hy x0
   generalize outP f ((d.zip e).take k) = ou at HOL HO1 HRW ⊢
   generalize wrongP f ((d.zip e).take k) = wg at HW1 HPA
   go_upto_region 20 with fail
   refine wp_region_Z (S := fun W' => (W'.cell? ⟨w.heap.size, 1, none⟩ = some (.slice (some ⟨b1, o1, none⟩) d.length c1) ∧ W'.cell? ⟨w.heap.size + 1, 1, none⟩ = some (.slice (some ⟨b3, o3, none⟩) e.length c3)) ∧ W'.cell? ⟨b1, o1 + k, none⟩ = some (.int .i64 x) ∧ W'.cell? ⟨b3, o3 + k, none⟩ = some (.int .i64 y)) (z := 15) (by kernel_rfl) ?_
   have hSS : (fun W' : World => (W'.cell? ⟨w.heap.size, 1, none⟩ = some (.slice (some ⟨b1, o1, none⟩) d.length c1) ∧ W'.cell? ⟨w.heap.size + 1, 1, none⟩ = some (.slice (some ⟨b3, o3, none⟩) e.length c3)) ∧ W'.cell? ⟨b1, o1 + k, none⟩ = some (.int .i64 x) ∧ W'.cell? ⟨b3, o3 + k, none⟩ = some (.int .i64 y)) wr.drew := ⟨⟨x1, x3⟩, hc1, hc3⟩
   clear x1 x3 hc1 hc3
   refine wpAnyZ_take (i := 0) (v := ?_) rfl (by kernel_rfl) (by kernel_rfl) (by kernel_rfl) (fun _ _ _ h => h) (by kernel_rfl) (Or.inl ⟨by rfl, ?_⟩) (by assumption) ?_
   rotate_left
   ·intro w' hSw
    try dsimp only at hSw
    try obtain ⟨hSw, hSw2⟩ := hSw
    go_simp
    try with_reducible rfl
   show wpAnyZ _ _ _ _ _ _ _ _ (Act.put _ (some 74) _) _
   simp only [Act.put, List.setIfInBounds_toArray, List.set_cons_zero, List.set_cons_succ]
   refine wpAnyZ_take (i := 1) (v := ?_) rfl (by kernel_rfl) (by kernel_rfl) (by kernel_rfl) (fun _ _ _ h => h) (by kernel_rfl) (Or.inl ⟨by rfl, ?_⟩) (by assumption) ?_
   rotate_left
   ·intro w' hSw
    try dsimp only at hSw
    try obtain ⟨hSw, hSw2⟩ := hSw
    go_simp
    try with_reducible rfl
   show wpAnyZ _ _ _ _ _ _ _ _ (Act.put _ (some 75) _) _
   simp only [Act.put, List.setIfInBounds_toArray, List.set_cons_zero, List.set_cons_succ]
   refine wpAnyZ_take (i := 2) (v := ?_) rfl (by kernel_rfl) (by kernel_rfl) (by kernel_rfl) (fun _ _ _ h => h) (by kernel_rfl) (Or.inl ⟨by rfl, ?_⟩) (by assumption) ?_
   rotate_left
   ·intro w' hSw
    try dsimp only at hSw
    try obtain ⟨hSw, hSw2⟩ := hSw
    go_simp
    try with_reducible rfl
   show wpAnyZ _ _ _ _ _ _ _ _ (Act.put _ (some 76) _) _
   simp only [Act.put, List.setIfInBounds_toArray, List.set_cons_zero, List.set_cons_succ]
   refine wpAnyZ_take (i := 3) (v := ?_) rfl (by kernel_rfl) (by kernel_rfl) (by kernel_rfl) (fun _ _ _ h => h) (by kernel_rfl) (Or.inl ⟨by rfl, ?_⟩) (by assumption) ?_
   rotate_left
   ·intro w' hSw
    try dsimp only at hSw
    try obtain ⟨hSw, hSw2⟩ := hSw
    go_simp
    try with_reducible rfl
   show wpAnyZ _ _ _ _ _ _ _ _ (Act.put _ (some 77) _) _
   simp only [Act.put, List.setIfInBounds_toArray, List.set_cons_zero, List.set_cons_succ]
   refine wpAnyZ_take (i := 4) (v := ?_) rfl (by kernel_rfl) (by kernel_rfl) (by kernel_rfl) (fun _ _ _ h => h) (by kernel_rfl) (Or.inl ⟨by rfl, ?_⟩) (by assumption) ?_
   rotate_left
   ·intro w' hSw
    try dsimp only at hSw
    try obtain ⟨hSw, hSw2⟩ := hSw
    go_simp
    try with_reducible rfl
   show wpAnyZ _ _ _ _ _ _ _ _ (Act.put _ (some 78) _) _
   simp only [Act.put, List.setIfInBounds_toArray, List.set_cons_zero, List.set_cons_succ]
   refine wpAnyZ_take (i := 5) (v := ?_) rfl (by kernel_rfl) (by kernel_rfl) (by kernel_rfl) (fun _ _ _ h => h) (by kernel_rfl) (Or.inl ⟨by rfl, ?_⟩) (by assumption) ?_
   rotate_left
   ·intro w' hSw
    try dsimp only at hSw
    try obtain ⟨hSw, hSw2⟩ := hSw
    go_simp
    try with_reducible rfl
   show wpAnyZ _ _ _ _ _ _ _ _ (Act.put _ (some 79) _) _
   simp only [Act.put, List.setIfInBounds_toArray, List.set_cons_zero, List.set_cons_succ]
   refine wpAnyZ_take (i := 6) (v := ?_) rfl (by kernel_rfl) (by kernel_rfl) (by kernel_rfl) (fun _ _ _ h => h) (by kernel_rfl) (Or.inl ⟨by rfl, ?_⟩) (by assumption) ?_
   rotate_left
   ·intro w' hSw
    try dsimp only at hSw
    try obtain ⟨hSw, hSw2⟩ := hSw
    go_simp
    try with_reducible rfl
   show wpAnyZ _ _ _ _ _ _ _ _ (Act.put _ (some 80) _) _
   simp only [Act.put, List.setIfInBounds_toArray, List.set_cons_zero, List.set_cons_succ]
   refine wpAnyZ_take (i := 7) (v := ?_) rfl (by kernel_rfl) (by kernel_rfl) (by kernel_rfl) (fun _ _ _ h => h) (by kernel_rfl) (Or.inl ⟨by rfl, ?_⟩) (by assumption) ?_
   rotate_left
   ·intro w' hSw
    try dsimp only at hSw
    try obtain ⟨hSw, hSw2⟩ := hSw
    go_simp
    try with_reducible rfl
   show wpAnyZ _ _ _ _ _ _ _ _ (Act.put _ (some 81) _) _
   simp only [Act.put, List.setIfInBounds_toArray, List.set_cons_zero, List.set_cons_succ]
   refine wpAnyZ_take (i := 8) (v := ?_) rfl (by kernel_rfl) (by kernel_rfl) (by kernel_rfl) (fun _ _ _ h => h) (by kernel_rfl) (Or.inl ⟨by rfl, ?_⟩) (by assumption) ?_
   rotate_left
   ·intro w' hSw
    try dsimp only at hSw
    try obtain ⟨hSw, hSw2⟩ := hSw
    go_simp
    try with_reducible rfl
   show wpAnyZ _ _ _ _ _ _ _ _ (Act.put _ (some 82) _) _
   simp only [Act.put, List.setIfInBounds_toArray, List.set_cons_zero, List.set_cons_succ]
   refine wpAnyZ_take (i := 9) (v := ?_) rfl (by kernel_rfl) (by kernel_rfl) (by kernel_rfl) (fun _ _ _ h => h) (by kernel_rfl) (Or.inl ⟨by rfl, ?_⟩) (by assumption) ?_
   rotate_left
   ·intro w' hSw
    try dsimp only at hSw
    try obtain ⟨hSw, hSw2⟩ := hSw
    go_simp
    try with_reducible rfl
   show wpAnyZ _ _ _ _ _ _ _ _ (Act.put _ (some 83) _) _
   simp only [Act.put, List.setIfInBounds_toArray, List.set_cons_zero, List.set_cons_succ]
   refine wpAnyZ_take (i := 10) (v := ?_) rfl (by kernel_rfl) (by kernel_rfl) (by kernel_rfl) (fun _ _ _ h => h) (by kernel_rfl) (Or.inl ⟨by rfl, ?_⟩) (by assumption) ?_
   rotate_left
   ·intro w' hSw
    try dsimp only at hSw
    try obtain ⟨hSw, hSw2⟩ := hSw
    go_simp
    try with_reducible rfl
   show wpAnyZ _ _ _ _ _ _ _ _ (Act.put _ (some 84) _) _
   simp only [Act.put, List.setIfInBounds_toArray, List.set_cons_zero, List.set_cons_succ]
   refine wpAnyZ_take (i := 11) (v := ?_) rfl (by kernel_rfl) (by kernel_rfl) (by kernel_rfl) (fun _ _ _ h => h) (by kernel_rfl) (Or.inl ⟨by rfl, ?_⟩) (by assumption) ?_
   rotate_left
   ·intro w' hSw
    try dsimp only at hSw
    try obtain ⟨hSw, hSw2⟩ := hSw
    go_simp
    try with_reducible rfl
   show wpAnyZ _ _ _ _ _ _ _ _ (Act.put _ (some 85) _) _
   simp only [Act.put, List.setIfInBounds_toArray, List.set_cons_zero, List.set_cons_succ]
   clear hSS
   refine wpAnyZ_one (i := 12) (by kernel_rfl) rfl rfl (fun K hK => ?_)
   go_simp
   refine (HC.out wr.drew wg (HPA.out.below (Below.refl _ _).drew)).mono ?_
   rintro e' w5 ⟨rfl, hp5, hk5⟩
   have hpd := HPA.out.below (Below.refl wr.heap.size wr).drew
   have HO5 := Lib.hid ((HOR.out.next (Below.refl wr.heap.size wr).drew).call hpd hPw.out hk5)
   have HV5 := Lib.hid ((HRW.out.below (Below.refl wr.heap.size wr).drew).call hpd hk5)
   have HP5 := Lib.hid hp5
   show K _ w5
   refine hK.out _ _ (.inr ⟨⟨HO5.out.c1, HO5.out.c3⟩, keepCell HO5.out.b HC1.out, keepCell HO5.out.b HC3.out⟩) ?_
   clear hK hp5 hk5 HC HOR HPA HRW hpd
   refine wpAnyZ_one (i := 13) (by kernel_rfl) rfl rfl (fun K hK => ?_)
   go_simp
   have hO6 := HO5.out.next (show Below w5.heap.size w5 (w5.alloc (.cells #[.int .i64 (callV f x y)] 2)) from (Below.refl _ _).alloc (Nat.le_refl _) _)
   refine hK.out _ _ (.inr ⟨⟨hO6.c1, hO6.c3⟩, keepCell hO6.b HC1.out, keepCell hO6.b HC3.out⟩) ?_
   clear hK hO6
   have hba : Below w5.heap.size w5 (w5.alloc (.cells #[.int .i64 (callV f x y)] 2)) := (Below.refl _ _).alloc (Nat.le_refl _) _
   have HBA := Lib.hid hba; have HR6 := Lib.hid (HV5.out.below hba)
   refine wpAnyZ_one (i := 14) (by kernel_rfl) rfl rfl (fun K hK => ?_)
   refine wp_app (.tmp 74) (.tmp 87) rfl w.heap.size _ ou [callV f x y] _ 1 rfl rfl HR6.out rfl (src_one w5 (callV f x y) _ rfl) (by have := HOL.out; omega) (HO5.out.next hba).b.size ?_
   intro v' w9 hv9 hg9 hn9
   have hv9 : RowI w.heap.size w9 v' (ou ++ [callV f x y]) := hv9
   rw [← HO1.out] at hv9
   have HV9 := Lib.hid hv9
   have HO9 := Lib.hid (HO5.out.app HBA.out HR6.out hg9); have HP9 := Lib.hid (HP5.out.app HBA.out HR6.out hg9)
   rw [← HW1.out] at HP9
   refine hK.out _ _ (.inr ⟨⟨HO9.out.c1, HO9.out.c3⟩, keepCell HO9.out.b HC1.out, keepCell HO9.out.b HC3.out⟩) ?_
   clear hK HC1 HC3 hba hv9 hg9 hn9 HBA HR6 HO5 HV5 HP5 HO1 HW1
   refine wpAnyZ_one (i := 15) (by kernel_rfl) rfl rfl (fun K hK => ?_)
   go_simp
   refine hK.out _ _ (.inl (by omega)) ?_
   clear hK
   refine wpAnyZ_done (by kernel_rfl) ?_ _
   go_wp2_with fail
   go_roundw
   case rel => exact ⟨k + 1, by omega, by go_num, HO9.out, HP9.out, HV9.out⟩
   case measure => simp [intOf] <;> omega
  ·obtain rfl : k = d.length := by omega
   have hall : (d.zip e).take d.length = d.zip e := List.take_of_length_le (by simp; omega)
   rw [hall] at hpa hrw
   have hcl := clone_any wr a0 c0 s (by omega) (H0.out.below hO.b (Nat.le_refl _))
   have HC := Lib.hid hcl; have HOR := Lib.hid hO; have HPA := Lib.hid hpa; have HRW := Lib.hid hrw
   obtain ⟨a9, c9, e9, -, -⟩ := hrw.slice
   subst e9
   clear hcl hO hpa hrw hlt hall
   go_wp2_with fail
   refine HC.out.mono ?_
   rintro e' w5 ⟨⟨v5, rfl, hv5⟩, hb5⟩
   have HO5 := Lib.hid (HOR.out.next hb5)
   have hap := (Apart.of_rows HRW.out hv5).symm
   have hq := done_any w5 w.heap.size P F f _ (HPA.out.below hb5) s _ v5 _ HO5.out.b.size (hv5.mono HOR.out.b.size) (HRW.out.below hb5) hap
   rw [HRR.out] at hq
   have HQ := Lib.hid hq; have HR := Lib.hid HO5.out.r; have HB := Lib.hid HO5.out.b
   obtain ⟨a8, c8, rfl, -, -⟩ := hv5.slice
   clear hq hv5 hb5 hap HC HOR HPA HRW
   go_wp2_with fail
   refine (Hid.out HQ).mono ?_
   rintro e w9 ⟨⟨v9, u9, rfl, hv9, hu9, hap9⟩, hb9⟩
   have hR9 := block_below (Hid.out HR) hb9
   have HV9 := Lib.hid hv9; have HU9 := Lib.hid hu9; have HAP9 := Lib.hid hap9; have HR9 := Lib.hid hR9
   have HB9 := Lib.hid (bNext hb9 (Hid.out HB))
   obtain ⟨a9, c9, rfl, -, -⟩ := RowI.slice hv9
   obtain ⟨a8, c8, rfl, -, -⟩ := RowI.slice hu9
   have g0 := cell_of_row w9 _ 0 _ _ _ hR9; have g1 := cell_of_row w9 _ 1 _ _ _ hR9
   have z0 := frozen_of_row w9 _ 0 _ _ hR9; have z1 := frozen_of_row w9 _ 1 _ _ hR9
   clear hv9 hu9 hap9 hb9 hR9
   go_wp2_with fail
   exact fin_arr rfl rfl rfl HR9.out HV9.out HU9.out HAP9.out HB9.out (by omega)
   done
end Go.Proofs.YtokghjnkfabgiaaGreatDoor
