import Derived.Test.YtokghjnkfabgiaaGreatDoorTD27
import Derived.Lib.AppendZeros
import Derived.Test.YtokghjnkfabgiaaGreatDoorTD4
import Derived.Test.YtokghjnkfabgiaaGreatDoorTD26
import Derived.Test.YtokghjnkfabgiaaGreatDoorTD8
set_option linter.unusedVariables false
set_option linter.unusedSimpArgs false
set_option maxRecDepth 100000
-- DROPS
namespace Go.Proofs.YtokghjnkfabgiaaGreatDoor
open Go.RowKit

def SlA (w : World) (v : Value) (xs : List Int) : Prop := ∃ a c, v = .slice a xs.length c ∧ xs.length ≤ c ∧ c ≤ maxLen ∧ (a = none → c = 0) ∧ IntsAt .i64 w a xs ∧ ∀ x ∈ xs, In64 x
theorem SlA.below {w w' : World} {v : Value} {xs : List Int} (h : SlA w v xs) (hb : Below w.heap.size w w') : SlA w' v xs := by
 obtain ⟨a, c, e, h1, h2, h3, h4, h5⟩ := h
 exact ⟨a, c, e, h1, h2, h3, h4.below hb (Nat.le_refl _), h5⟩
theorem RowI.form {B : Nat} {w : World} {v : Value} {xs : List Int} (h : RowI B w v xs) (h0 : 0 < xs.length) : ∃ g cap, v = .slice (some ⟨g, 0, none⟩) xs.length cap ∧ B ≤ g ∧ g < w.heap.size := by
 obtain ⟨h1, ⟨_, hn⟩ | ⟨g, cap, cur, hv, hB, hg, _⟩⟩ := h
 ·omega
 ·exact ⟨g, cap, hv, hB, (Array.getElem?_eq_some_iff.1 hg).1⟩
theorem RowI.sl {B : Nat} {w : World} {v : Value} {xs : List Int} (h : RowI B w v xs) (h5 : ∀ x ∈ xs, In64 x) : SlA w v xs := by
 obtain ⟨h1, ⟨hv, hn⟩ | ⟨g, cap, cur, hv, hB, hg, hnc, hcm, hcs, ht⟩⟩ := id h
 ·have hx : xs = [] := List.eq_nil_of_length_eq_zero hn
  subst hx
  exact ⟨none, 0, hv, Nat.le_refl _, Nat.zero_le _, fun _ => rfl, IntsAt.nil _ _ _, h5⟩
 ·obtain ⟨a, c, e, _, hi⟩ := h.slice
  rw [hv] at e
  cases e
  exact ⟨_, _, hv, hnc, hcm, (fun e => by cases e), hi, h5⟩
theorem RowI.at {B g n c : Nat} {w : World} {xs : List Int} (h : RowI B w (.slice (some ⟨g, 0, none⟩) n c) xs) {k : Nat} (hk : k < xs.length) : w.cell? ⟨g, k, none⟩ = some (.int .i64 (xs.getD k 0)) := by
 have hn : xs.length = n := by
  obtain ⟨a, c', e, _⟩ := h.slice
  cases e; rfl
 subst hn
 rw [World.ownsRow.cellAt h k (by simpa using hk)]
 simp [hk]
theorem RowI.fr {B g n c : Nat} {w : World} {xs : List Int} (h : RowI B w (.slice (some ⟨g, 0, none⟩) n c) xs) (k : Nat) : w.frozen? ⟨g, k, none⟩ = false := by
 have hn : xs.length = n := by
  obtain ⟨a, c', e, _⟩ := h.slice
  cases e; rfl
 subst hn
 exact World.ownsRow.frozenAt h k
theorem RowI.set {B g n c : Nat} {w : World} {xs : List Int} (h : RowI B w (.slice (some ⟨g, 0, none⟩) n c) xs) (k : Nat) (y : Int) : RowI B (w.setCell ⟨g, k, none⟩ (.int .i64 y)) (.slice (some ⟨g, 0, none⟩) n c) (xs.set k y) := by
 have hn : xs.length = n := by
  obtain ⟨a, c', e, _⟩ := h.slice
  cases e; rfl
 subst hn
 have := (World.ownsRow.stored h k (.int .i64 y)).1
 unfold RowI
 rw [List.map_set, List.length_set]
 exact this
theorem RowI.drewN {B : Nat} {w : World} {v : Value} {xs : List Int} (h : RowI B w v xs) (n : Nat) : RowI B (w.drewN n) v xs := h.below (Below.drewN _ _)
theorem RowI.len {B n c : Nat} {a : Option Addr} {w : World} {xs : List Int} (h : RowI B w (.slice a n c) xs) : xs.length = n := by
 obtain ⟨a, c', e, _⟩ := h.slice
 cases e; rfl
theorem getD_set (l : List Int) (k i : Nat) (v : Int) : (l.set k v).getD i 0 = if k = i ∧ i < l.length then v else l.getD i 0 := by
 rw [List.getD_eq_getElem?_getD, List.getD_eq_getElem?_getD, List.getElem?_set]
 by_cases h : k = i
 ·subst h
  by_cases h2 : k < l.length
  ·simp [h2]
  ·simp [h2]
 ·simp [h]
end Go.Proofs.YtokghjnkfabgiaaGreatDoor

-- DROPS
namespace Go.Proofs.YtokghjnkfabgiaaGreatDoor
open Go.RowKit

def RetI (B : Nat) (w : World) (xs : List Int) (e : Ending) (w' : World) : Prop := ∃ v, e = .returned v ∧ RowI B w' v xs ∧ Below w.heap.size w w'
set_option maxHeartbeats 4000000 in
theorem growI_any (w : World) (n : Nat) (hn : n ≤ 2097152) : Calls Tryz.prog 156 #[.slice none 0 0, .int .i64 n] w (RetI w.heap.size w []) := by
 by_cases h0 : n = 0
 ·subst h0
  go_enter Tryz.func156, Tryz.ntmps156
  go_wp2_with fail
  go_ret
  exact ⟨_, rfl, RowI.nil _ _, Below.refl _ _⟩
 ·have hpos : 0 < n := by omega
  obtain ⟨i0, hi, hz0, hz1, hz2⟩ := info_parts Tryz.info2
  have hr := fun ty => Lib.run_append_nil_zeros (P := Tryz.prog) w 42 3 ty 2 i0 _ .i64 .i64 Tryz.underlying42 Tryz.underlying3 hi hz0 n hpos (by rw [hz1]; decide) (by omega) (by rw [hz2]; omega)
  have hge := grownCap_ge w n 0 2
  have hle := grownCap_le_maxLen w n 0 2 (by unfold maxLen; omega)
  generalize grownCap w n 0 2 = N at hr hge hle
  have hmade : ∀ cur : Array Value, cur.size = N * 1 → RowI w.heap.size (w.drew.alloc (.cells cur 2)) (.slice (some ⟨w.heap.size, 0, none⟩) 0 N) [] := fun cur hc => World.ownsRow_made w.drew cur N (Nat.le_refl _) hle hc
  have hsz : ∀ z : Array Value, z.size = 1 → (Builtin.zeroCells z n ++ Builtin.zeroCells z (N - n)).size = N * 1 := fun z hz => by
   rw [Array.size_append, size_zeroCells, size_zeroCells, hz, ← Nat.add_mul]; congr 1; omega
  have hbel : ∀ o, Below w.heap.size w (w.drew.alloc o) := fun o => ((Below.refl _ _).drew).alloc (Nat.le_refl _) o
  have HR := Lib.hid hr; have HM := Lib.hid hmade; have HS := Lib.hid hsz; have HB := Lib.hid hbel
  unfold maxLen at hle
  clear hr hmade hsz hbel hi hz0 hz1 hz2
  go_enter Tryz.func156, Tryz.ntmps156
  go_wp2_with (at_builtin; refine Lib.wpList_append_run _ rfl _ _ _ _ rfl _ _ rfl rfl _ _ (HR.out _) ?_)
  go_ret
  exact ⟨_, rfl, HM.out _ (HS.out _ rfl), HB.out _⟩
def RowsAt (w : World) (a : Option Addr) (xss : List (List Int)) : Prop := ∀ i, (h : i < xss.length) → ∃ b off u, a = some ⟨b, off, none⟩ ∧ w.cell? ⟨b, off + i, none⟩ = some u ∧
 (∃ a1 c1, u = .slice a1 xss[i].length c1) ∧ Src w u xss[i].length (xss[i].map (Value.int .i64))
theorem RowsAt.below {w w' : World} {a : Option Addr} {xss : List (List Int)} (h : RowsAt w a xss) (hb : Below w.heap.size w w') : RowsAt w' a xss := fun i hi => by
 obtain ⟨b, off, u, e, hc, hf, hs⟩ := h i hi
 exact ⟨b, off, u, e, (hb.cell (World.block_lt_of_cell? w _ hc)).trans hc, hf, hs.below hb⟩
theorem RowI.src {B : Nat} {w : World} {v : Value} {xs : List Int} (h : RowI B w v xs) : Src w v xs.length (xs.map (Value.int .i64)) := ownsRow_src h
theorem SlA.src {w : World} {v : Value} {xs : List Int} (h : SlA w v xs) : Src w v xs.length (xs.map (Value.int .i64)) := by
 obtain ⟨a, c, rfl, h1, h2, h3, h4, h5⟩ := h
 cases a with
 | none =>
  have hc := h3 rfl
  have hx : xs = [] := List.eq_nil_of_length_eq_zero (by omega)
  subst hx
  exact .inl ⟨by rw [hc]; rfl, rfl, rfl⟩
 | some ad =>
  refine .inr ⟨ad, c, rfl, fun j z hz => ?_⟩
  by_cases h0 : 0 < xs.length
  ·obtain ⟨ad', e, hs⟩ := h4.src h0; cases e; exact hs j z hz
  ·have hx : xs = [] := List.eq_nil_of_length_eq_zero (by omega)
   subst hx
   simp at hz
theorem RowR.rows {B : Nat} {w : World} {a : Option Addr} {n c : Nat} {xss : List (List Int)} (h : RowR B w (.slice a n c) xss) : RowsAt w a xss := fun i hi => by
 obtain ⟨vs, hown, hin⟩ := h
 obtain ⟨u, hu, hr, _⟩ := hin i hi
 obtain ⟨a1, c1, e1, _, _⟩ := hr.slice
 obtain ⟨h1, ⟨_, h0⟩ | ⟨g, cap, cur, e, hB, hg, _⟩⟩ := id hown
 ·omega
 ·cases e
  refine ⟨g, 0, u, rfl, ?_, ⟨a1, c1, e1⟩, hr.src⟩
  rw [Nat.zero_add]
  have := World.ownsRow.cells hown (g := g) rfl i u hu
  unfold Addr.add at this
  split at this
  ·rename_i h; subst h; exact this
  ·simpa using this
def flatLen (xss : List (List Int)) (k : Nat) : Nat := ((xss.take k).flatten).length
theorem flatLen_succ {xss : List (List Int)} {k : Nat} (h : k < xss.length) : flatLen xss (k + 1) = flatLen xss k + xss[k].length := by
 unfold flatLen
 rw [List.take_succ_eq_append_getElem h, List.flatten_append, List.length_append, List.flatten_cons, List.flatten_nil, List.append_nil]
theorem flatLen_le (xss : List (List Int)) (k : Nat) : flatLen xss k ≤ xss.flatten.length := by
 unfold flatLen
 have e : xss.flatten = (xss.take k).flatten ++ (xss.drop k).flatten := by rw [← List.flatten_append, List.take_append_drop]
 rw [e, List.length_append]
 omega
set_option maxHeartbeats 4000000 in
theorem concat_any (w : World) (a : Option Addr) (c n N : Nat) (xss : List (List Int)) (hn : xss.length = n) (hnm : n ≤ 1048576) (hN : xss.flatten.length = N) (hm : N ≤ 1048576) (h : RowsAt w a xss) :
  Calls Tryz.prog 131 #[.slice a n c] w (RetI w.heap.size w xss.flatten) := by
 have HR := Lib.hid h; have HN := Lib.hid hn; have HL := Lib.hid hN
 obtain ⟨i0, hi, hz0, hz1, hz2⟩ := info_parts Tryz.info2
 have Hi := Lib.hid hi; have Hz0 := Lib.hid hz0; have Hz1 := Lib.hid hz1; have Hz2 := Lib.hid hz2; clear hi hz0 hz1 hz2
 have hgr := fun W => growI_any W N (by omega)
 have HG := Lib.hid hgr
 clear hgr h hn hN
 go_enter Tryz.func131, Tryz.ntmps131
 go_wp2_with fail
 go_loop [3, 11] (fun t i => ∃ k l : Nat, k ≤ n ∧ l ≤ N ∧ i = .int .i64 k ∧ t = .int .i64 l ∧ Hid (flatLen xss k = l)) (fun _ i => n - (intOf i).toNat)
 case atStart => exact ⟨0, 0, by omega, by omega, rfl, rfl, Lib.hid (by simp [flatLen])⟩
 case round =>
  obtain ⟨k, l, hk, hl, rfl, rfl, hfl⟩ := hrel
  by_cases hlt : k < n
  ·obtain ⟨b, off, u, rfl, hc, ⟨a1, c1, rfl⟩, -⟩ := HR.out k (by rw [HN.out]; exact hlt)
   have hs := flatLen_succ (xss := xss) (k := k) (by rw [HN.out]; exact hlt)
   have hle := flatLen_le xss (k + 1)
   rw [HL.out] at hle
   rw [hs, hfl.out] at hle
   rw [hfl.out] at hs
   generalize (xss[k]'(by rw [HN.out]; exact hlt)).length = m at hc hs hle
   have HS := Lib.hid hs
   clear hs hfl
   go_wp2_with fail
   go_round
   case rel => exact ⟨k + 1, l + m, by omega, hle, by go_num, by go_num, HS⟩
   case measure => simp [intOf]; omega
  ·obtain rfl : k = n := by omega
   have hl' : l = N := by
    have := hfl.out
    unfold flatLen at this
    rw [List.take_of_length_le (by rw [HN.out]; exact Nat.le_refl _), HL.out] at this
    omega
   subst hl'
   clear hfl
   go_wp2_with fail
   refine (HG.out _).mono ?_
   rintro e w1 ⟨v1, rfl, hrow, hb⟩
   have hbs := hb.size
   have HR1 := Lib.hid hrow; have HB := Lib.hid hb; clear hrow hb
   go_wp2_with fail
   go_loopw [6, 27] (fun v i wr => ∃ q : Nat, q ≤ k ∧ i = .int .i64 q ∧ Below w.heap.size w wr ∧ RowI w.heap.size wr v ((xss.take q).flatten)) (fun _ i _ => k - (intOf i).toNat)
   case atStart => exact ⟨0, by omega, rfl, HB.out, by simpa using HR1.out⟩
   case round =>
    obtain ⟨q, hq, rfl, hbr, hr⟩ := hrel
    by_cases hlt : q < k
    ·have hqx : q < xss.length := by rw [HN.out]; exact hlt
     obtain ⟨b, off, u, rfl, hc, ⟨a1, c1, rfl⟩, hsr⟩ := (HR.out.below hbr) q hqx
     have e0 := flatLen_succ hqx
     have e1 := flatLen_le xss (q + 1)
     rw [HL.out, e0] at e1
     have hap : ((xss.take (q + 1)).flatten) = (xss.take q).flatten ++ xss[q] := by rw [List.take_succ_eq_append_getElem hqx, List.flatten_append, List.flatten_cons, List.flatten_nil, List.append_nil]
     have hs2 := hbr.size
     have Hr := Lib.hid hr; have Hb := Lib.hid hbr; have HAP := Lib.hid hap; have HSR := Lib.hid hsr; have HE1 := Lib.hid e1
     clear hr hbr hap hsr e0 e1
     go_wp2_with (at_builtin; (refine wpList_append_src _ rfl _ _ 42 rfl w.heap.size 2 i0 _ 1 8 Tryz.underlying42 Hi.out Hz0.out Hz1.out Hz2.out rfl (by decide) _ (flatLen xss q) _ rfl (by have := Hr.out; unfold RowI at this; exact this) _ xss[q].length _ rfl HSR.out (by simp) (by intro z hz; obtain ⟨p, _, rfl⟩ := List.mem_map.1 hz; rfl) (by have := HE1.out; unfold maxLen; omega) (by have := HE1.out; omega) hs2 ?_); intro v' w' hown hg _)
     go_roundw
     case rel =>
      refine ⟨q + 1, by omega, by go_num, Hb.out.grown hg hs2 (fun j hj => (Hr.out.lt j hj).1), ?_⟩
      rw [HAP.out]
      unfold RowI
      rw [List.map_append, List.length_append]
      exact hown
     case measure => simp [intOf]; omega
    ·obtain rfl : q = k := by omega
     have hfin : (xss.take q).flatten = xss.flatten := by rw [List.take_of_length_le (by rw [HN.out]; exact Nat.le_refl _)]
     rw [hfin] at hr
     have Hr := Lib.hid hr; have Hb := Lib.hid hbr; clear hr hbr hfin
     go_wp2_with fail
     go_ret
     exact ⟨_, rfl, Hr.out, Hb.out⟩
end Go.Proofs.YtokghjnkfabgiaaGreatDoor

-- DROPS
namespace Go.Proofs.YtokghjnkfabgiaaGreatDoor
open Go.RowKit

theorem RetArr.mono {B B' : Nat} {r : ArrE} {e : Ending} {w : World} (h : RetArr B r e w) (hB : B' ≤ B) : RetArr B' r e w := by
 obtain ⟨v, u, e, h1, h2, h3⟩ := h
 exact ⟨v, u, e, own_mono h1 hB, own_mono h2 hB, h3⟩
theorem retB {f : FuncId} {args : Array Value} {w : World} {B : Nat} {r : ArrE} (hB : B ≤ w.heap.size) (h : Calls Tryz.prog f args w fun e w' => RetArr w.heap.size r e w' ∧ Below w.heap.size w w') :
  Calls Tryz.prog f args w fun e w' => RetArr B r e w' ∧ Below w.heap.size w w' := h.mono fun _ _ ⟨h1, h2⟩ => ⟨h1.mono hB, h2⟩
theorem ret_arr {fn : Func} {p q : Tmp} (h : fn.results = #[.cell p 44, .tmp q]) (tmps : Array Value) (w : World) (R : Nat) (v u x : Value)
  (hp : tmps.getD p undef = .pointer (some ⟨R, 0, none⟩)) (hq : tmps.getD q undef = x) (hg : w.heap[R]? = some (.cells #[v, u] 44 (0, 0))) :
  (results fn tmps).run Tryz.prog w = .ok (.tuple #[.agg #[v, u], x]) w := by
 have hp' : tmps[p]?.getD undef = .pointer (some ⟨R, 0, none⟩) := by simpa using hp
 have hq' : tmps[q]?.getD undef = x := by simpa using hq
 have hl1 := run_loadVar_row (P := Tryz.prog) w R 44 44 #[v, u] (0, 0) _ hg Tryz.underlying44 rfl (by kernel_rfl)
 simp [results, h, hp', hq', asAddr, hl1]
theorem fin_arr {fn : Func} {p q : Tmp} (h : fn.results = #[.cell p 44, .tmp q]) {tmps : Array Value} {w w0 : World} {B R : Nat} {v u o1 o2 : Value} {r : ArrE}
  (hp : tmps.getD p undef = .pointer (some ⟨R, 0, none⟩)) (hq : tmps.getD q undef = .int .i64 r.2) (hR : w.heap[R]? = some (.cells #[o1, o2] 44 (0, 0)))
  (hv : RowI B w v r.1.1) (hu : RowI B w u r.1.2) (hap : Apart v u) (hb : Below w0.heap.size w0 w) (hBR : w0.heap.size ≤ R) :
  bodyPost Tryz.prog fn (fun e w' => RetArr B r e w' ∧ Below w0.heap.size w0 w') .ret { tmps := tmps, defers := [] } ((w.setCell ⟨R, 0, none⟩ v).setCell ⟨R, 1, none⟩ u) := by
 have h1 : (w.setCell ⟨R, 0, none⟩ v).heap[R]? = some (.cells #[v, o2] 44 (0, 0)) := heap_setCell_same w R 0 _ _ _ hR
 have h2 : ((w.setCell ⟨R, 0, none⟩ v).setCell ⟨R, 1, none⟩ u).heap[R]? = some (.cells #[v, u] 44 (0, 0)) := heap_setCell_same _ R 1 _ _ _ h1
 exact bodyPost_ret (ret_arr h _ _ R v u _ hp hq h2) rfl ⟨RetArr.put hv hu hap hR, put_below hb hBR _ _⟩
theorem fault_at (w : World) (B : Nat) (hB : B ≤ w.heap.size) (x : Int) (r : ArrE) (hr : noA x = r) : Calls Tryz.prog 126 #[.int .i64 x] w fun e w' => RetArr B r e w' ∧ Below w.heap.size w w' := by
 subst hr; exact retB hB (pfault_any w x)
theorem Below.two (w : World) (o1 o2 : Obj) : Below w.heap.size w ((w.alloc o1).alloc o2) := ((Below.refl _ _).alloc (Nat.le_refl _) _).alloc (by simp) _
theorem heap_two1 (w : World) (o1 o2 : Obj) : ((w.alloc o1).alloc o2).heap[w.heap.size]? = some o1 := block_alloc (World.alloc_heap_new _ _) _
theorem heap_two2 (w : World) (o1 o2 : Obj) : ((w.alloc o1).alloc o2).heap[w.heap.size + 1]? = some o2 := by
 have := World.alloc_heap_new (w.alloc o1) o2
 rwa [World.size_alloc] at this
theorem made_ints {w : World} {B n : Nat} {v : Value} (h : w.ownsRow B 2 1 v n (madeCells #[.int .i64 0] n).toList) : RowI B w v (List.replicate n 0) := by
 rw [toList_madeCells_one] at h
 unfold RowI
 rw [List.map_replicate, List.length_replicate]
 exact h
theorem rep_step {n k : Nat} (f : Nat → Int) (hk : k < n) : ((List.range k).map f ++ List.replicate (n - k) 0).set k (f k) = (List.range (k + 1)).map f ++ List.replicate (n - (k + 1)) 0 := by
 rw [List.set_append_right _ _ (by simp)]
 obtain ⟨m, hm⟩ : ∃ m, n - k = m + 1 := ⟨n - k - 1, by omega⟩
 rw [hm, show n - (k + 1) = m from by omega]
 simp [List.range_succ, List.replicate_succ]
theorem rep_len {n k : Nat} (f : Nat → Int) (hk : k ≤ n) : ((List.range k).map f ++ List.replicate (n - k) 0).length = n := by simp; omega
structure One (w W : World) (v u : Value) : Prop where
 x : W.heap[w.heap.size]? = some (.cells #[v, u] 44 (0, 0))
 r : W.heap[w.heap.size + 1]? = some (.cells #[.slice none 0 0, .slice none 0 0] 44 (0, 0))
 b : Below w.heap.size w W
theorem One.mk0 (w : World) (v u : Value) : One w ((w.alloc (.cells #[v, u] 44)).alloc (.cells #[.slice none 0 0, .slice none 0 0] 44)) v u := ⟨heap_two1 _ _ _, heap_two2 _ _ _, Below.two _ _ _⟩
theorem One.next {w W W' : World} {v u : Value} (h : One w W v u) (hb : Below W.heap.size W W') : One w W' v u := ⟨block_below h.x hb, block_below h.r hb, bNext hb h.b⟩
theorem One.c0 {w W : World} {v u : Value} (h : One w W v u) : W.cell? ⟨w.heap.size, 0, none⟩ = some v := cell_of_row W _ 0 _ _ _ h.x
theorem One.c1 {w W : World} {v u : Value} (h : One w W v u) : W.cell? ⟨w.heap.size, 1, none⟩ = some u := cell_of_row W _ 1 _ _ _ h.x
theorem One.lt {w W : World} {v u : Value} (h : One w W v u) : w.heap.size + 1 < W.heap.size := (Array.getElem?_eq_some_iff.1 h.r).1
theorem One.kt {w W W' : World} {v u : Value} (h : One w W v u) (hb : Below w.heap.size w W') (hk : KeepTy 44 W W') : One w W' v u := ⟨hk _ _ h.x, hk _ _ h.r, hb⟩
end Go.Proofs.YtokghjnkfabgiaaGreatDoor

-- DROPS
namespace Go.Proofs.YtokghjnkfabgiaaGreatDoor
open Go.RowKit

theorem RowI.ints {B n c : Nat} {a : Option Addr} {w : World} {xs : List Int} (h : RowI B w (.slice a n c) xs) : IntsAt .i64 w a xs := by
 obtain ⟨a', c', e, _, hi⟩ := h.slice
 simp only [Value.slice.injEq] at e
 rw [e.1]; exact hi
end Go.Proofs.YtokghjnkfabgiaaGreatDoor

namespace Go.Proofs.YtokghjnkfabgiaaGreatDoor
open Go.RowKit

structure LaneF (s d : List Int) (lx : List (List Int)) : Prop where
 eq : lanes s d = (lx, 0)
 flat : lx.flatten = d
 ne : ∀ x ∈ lx, 0 < x.length
 len : lx.length ≤ 65536
 each : ∀ x ∈ lx, (x.length : Int) = lastOf s
 count : lastOf s ≠ 0 → (lx.length : Int) * lastOf s = (d.length : Int)
theorem flat_len (l : List (List Int)) (h : ∀ x ∈ l, 0 < x.length) : l.length ≤ l.flatten.length := by
 induction l with
 | nil => simp
 | cons x l ih => have h1 := ih (fun y hy => h y (by simp [hy])); have h2 := h x (by simp); simp only [List.flatten_cons, List.length_append, List.length_cons]; omega
theorem lane_facts {s d : List Int} (hr : right s d = true) : ∃ lx, LaneF s d lx := by
 have hdl : d.length ≤ 65536 := by have := (right_good hr).2.le; omega
 by_cases hd0 : d.length = 0
 ·have : d = [] := List.eq_nil_of_length_eq_zero hd0
  subst this
  exact ⟨[], by unfold lanes; rw [if_pos hr]; simp [chunks], rfl, by simp, by simp, by simp, fun _ => by simp⟩
 ·obtain ⟨m, q, e1, e2, e3, e4⟩ := lanes_facts hr (by omega)
  have hl : ∀ x ∈ chunks m d q, x.length = m := fun x hx => by
   unfold chunks at hx
   obtain ⟨i, hi, rfl⟩ := List.mem_map.1 hx
   have hi := List.mem_range.1 hi
   have : i * m + m ≤ q * m := by have := Nat.mul_le_mul_right m hi; rw [Nat.succ_mul] at this; exact this
   rw [List.length_take, List.length_drop]; omega
  have hf : (chunks m d q).flatten = d := by rw [chunks_flatten, e4, List.take_length]
  refine ⟨chunks m d q, ?_, hf, fun x hx => by rw [hl x hx]; omega, ?_, fun x hx => by rw [hl x hx, e1], fun _ => by rw [chunks_len, e1]; exact_mod_cast e4⟩
  ·unfold lanes
   rw [if_pos hr, e1, ← e4]
   simp only [Int.toNat_natCast]
   rw [Nat.mul_div_cancel _ (by omega)]
  ·have := flat_len (chunks m d q) (fun x hx => by rw [hl x hx]; omega)
   rw [hf] at this
   omega
theorem RowR.get {B g n c : Nat} {w : World} {xss : List (List Int)} (h : RowR B w (.slice (some ⟨g, 0, none⟩) n c) xss) {q : Nat} (hq : q < xss.length) :
  ∃ u, w.cell? ⟨g, q, none⟩ = some u ∧ RowI B w u xss[q] ∧ ∀ w' ys, KB (fun k => u.ownBlock = some k) w w' → RowI B w' u ys → RowR B w' (.slice (some ⟨g, 0, none⟩) n c) (xss.set q ys) := by
 obtain ⟨vs, hown, hin⟩ := h
 have hn : xss.length = n := by
  rcases hown.2 with ⟨h0, _⟩ | ⟨g', cap, cur, e, _⟩
  ·simp at h0
  ·simp only [Value.slice.injEq] at e; exact e.2.1.symm
 subst hn
 obtain ⟨u, hu, hr, hap⟩ := hin q hq
 refine ⟨u, ?_, hr, fun w' ys hk hy => ?_⟩
 ·rw [World.ownsRow.cellAt hown q (by simpa using hq)]; exact hu
 ·refine ⟨vs, ?_, fun i hi => ?_⟩
  ·rw [List.length_set]
   refine hk.row hown fun k e he => ?_
   rcases outer_ne hown hr with h0 | h0
   ·rw [h0] at he; cases he
   ·exact h0 (he.trans e.symm)
  ·rw [List.length_set] at hi
   by_cases hiq : i = q
   ·subst hiq
    exact ⟨u, hu, by rw [List.getElem_set_self]; exact hy, hap⟩
   ·obtain ⟨ui, hui, hri, hapi⟩ := hin i hi
    refine ⟨ui, hui, ?_, hapi⟩
    rw [List.getElem_set_ne (fun e => hiq e.symm)]
    refine hk.row hri fun k e he => ?_
    have hne : Apart ui u ∨ Apart u ui := by
     rcases Nat.lt_or_gt_of_ne hiq with h1 | h1
     ·exact .inl (hapi q u h1 hu)
     ·exact .inr (hap i ui h1 hui)
    have hne : Apart ui u := hne.elim id Apart.symm
    rcases hne with h0 | h0
    ·rw [h0] at e; cases e
    ·exact h0 (e.trans he.symm)
theorem RowR.form {B : Nat} {w : World} {v : Value} {xss : List (List Int)} (h : RowR B w v xss) : ∃ a c, v = .slice a xss.length c ∧ xss.length ≤ maxLen ∧ (0 < xss.length → ∃ g, a = some ⟨g, 0, none⟩ ∧ B ≤ g) := by
 obtain ⟨vs, hown, -⟩ := h
 rcases hown.2 with ⟨h0, h1⟩ | ⟨g', cap, cur, e, hB, _, hnc, hm, _⟩
 ·exact ⟨none, 0, by rw [h0, h1], by rw [h1]; exact Nat.zero_le _, fun h => by omega⟩
 ·exact ⟨_, _, e, Nat.le_trans hnc hm, fun _ => ⟨g', rfl, hB⟩⟩
theorem RowR.len {B n c : Nat} {a : Option Addr} {w : World} {xss : List (List Int)} (h : RowR B w (.slice a n c) xss) : xss.length = n := by
 obtain ⟨a', c', e, _⟩ := h.form
 simp only [Value.slice.injEq] at e; exact e.2.1.symm
theorem map_take_set {α : Type} (f : α → α) {l : List α} {k : Nat} (h : k < l.length) : ((l.take k).map f ++ l.drop k).set k (f l[k]) = (l.take (k + 1)).map f ++ l.drop (k + 1) := by
 rw [List.set_append_right _ _ (by simp; omega)]
 have e : k - ((l.take k).map f).length = 0 := by simp; omega
 rw [e, List.drop_eq_getElem_cons h, List.set_cons_zero, List.take_succ_eq_append_getElem h, List.map_append]
 simp only [List.map_cons, List.map_nil, List.append_assoc, List.singleton_append]
theorem map_take_get {α : Type} (f : α → α) {l : List α} {k : Nat} (h : k < l.length) (h2 : k < ((l.take k).map f ++ l.drop k).length) : ((l.take k).map f ++ l.drop k)[k] = l[k] := by
 rw [List.getElem_append_right (by simp; omega)]
 simp only [List.length_map, List.length_take, List.getElem_drop]
 congr 1; omega
end Go.Proofs.YtokghjnkfabgiaaGreatDoor

-- DROPS
namespace Go.Proofs.YtokghjnkfabgiaaGreatDoor
open Go.RowKit

theorem truth_in (b : Bool) : In64 (truthI b) := by cases b <;> exact ⟨by decide, by decide⟩
theorem bit_of {a : Int} (h : isBit a = true) : a = 0 ∨ a = 1 := by unfold isBit at h; simpa using h
theorem ite_pred' {α : Type} {p : α → Prop} {c : Prop} [Decidable c] {a b : α} (ha : c → p a) (hb : ¬ c → p b) : p (if c then a else b) := by
 by_cases h : c
 ·rw [if_pos h]; exact ha h
 ·rw [if_neg h]; exact hb h
theorem dyv_in {f a b : Int} (ha : In64 a) (hb : In64 b) (hr : refusesB f a b = false) : In64 (dyv f a b) := by
 have hmin : In64 (min a b) := by unfold In64 at *; omega
 have hmax : In64 (max a b) := by unfold In64 at *; omega
 unfold dyv
 refine ite_pred' (fun h0 => ?_) (fun _ => ?_)
 ·exact wrap_in _
 refine ite_pred' (fun h1 => ?_) (fun _ => ?_)
 ·exact wrap_in _
 refine ite_pred' (fun h2 => ?_) (fun _ => ?_)
 ·exact wrap_in _
 refine ite_pred' (fun h3 => ?_) (fun _ => ?_)
 ·exact wrap_in _
 refine ite_pred' (fun h4 => ?_) (fun _ => ?_)
 ·exact ite_pred' (fun _ => hb) (fun h => fmod_in h ha)
 refine ite_pred' (fun h5 => ?_) (fun _ => ?_)
 ·exact hmin
 refine ite_pred' (fun h6 => ?_) (fun _ => ?_)
 ·exact hmax
 refine ite_pred' (fun h7 => ?_) (fun _ => ?_)
 ·exact truth_in _
 refine ite_pred' (fun h8 => ?_) (fun _ => ?_)
 ·exact truth_in _
 refine ite_pred' (fun h9 => ?_) (fun _ => ?_)
 ·exact truth_in _
 refine ite_pred' (fun h10 => ?_) (fun _ => ?_)
 ·exact truth_in _
 refine ite_pred' (fun h11 => ?_) (fun _ => ?_)
 ·exact truth_in _
 refine ite_pred' (fun h12 => ?_) (fun _ => ?_)
 ·(subst h12; unfold refusesB at hr; simp at hr; rcases bit_of hr.1 with rfl | rfl <;> rcases bit_of hr.2 with rfl | rfl <;> exact ⟨by decide, by decide⟩)
 refine ite_pred' (fun h13 => ?_) (fun _ => ?_)
 ·exact hmax
 refine ite_pred' (fun h14 => ?_) (fun _ => ?_)
 ·exact wrap_in _
 exact truth_in _
theorem In64.zero : In64 0 := by unfold In64; omega
theorem callV_in64 {f a b : Int} (ha : In64 a) (hb : In64 b) : In64 (callV f a b) := by
 unfold callV
 cases h : refusesB f a b
 ·exact dyv_in ha hb h
 ·exact In64.zero
def wgB (b : Bool) : Int := if b then 11 else 0
theorem nextE_wg (f a b : Int) (c : Bool) : nextE f a b (wgB c) = wgB (c || refusesB f a b) := by
 unfold nextE wgB
 cases refusesB f a b <;> cases c <;> rfl
def laneV (f : Int) (l : List Int) (j : Nat) : Int := (laneL f (l.take j)).1.getLastD 0
def laneB (f : Int) (l : List Int) (j : Nat) : Bool := (laneL f (l.take j)).2
theorem laneV_one (f : Int) {l : List Int} (h : 0 < l.length) : laneV f l 1 = l.getD 0 0 ∧ laneB f l 1 = false := by
 cases l with
 | nil => simp at h
 | cons x l => exact ⟨rfl, rfl⟩
theorem lane_take (f : Int) {l : List Int} {j : Nat} (h1 : 1 ≤ j) (h2 : j < l.length) : laneL f (l.take (j + 1)) = ((laneL f (l.take j)).1 ++ [callV f (laneV f l j) (l.getD j 0)], laneB f l j || refusesB f (laneV f l j) (l.getD j 0)) := by
 have e : l.take (j + 1) = l.take j ++ [l.getD j 0] := by
  rw [List.take_succ_eq_append_getElem h2, List.getD_eq_getElem?_getD, List.getElem?_eq_getElem h2]; rfl
 rw [e]
 obtain ⟨a, ha, hs⟩ := laneL_step f (l := l.take j) (l.getD j 0) (by simp; omega)
 rw [hs]
 have hv : laneV f l j = a := by unfold laneV; rw [List.getLastD_eq_getLast?, ha]; rfl
 unfold callV laneB
 rw [hv]
theorem laneV_step (f : Int) {l : List Int} {j : Nat} (h1 : 1 ≤ j) (h2 : j < l.length) : laneV f l (j + 1) = callV f (laneV f l j) (l.getD j 0) ∧ laneB f l (j + 1) = (laneB f l j || refusesB f (laneV f l j) (l.getD j 0)) := by
 have h := lane_take f h1 h2
 constructor
 ·show (laneL f (l.take (j + 1))).1.getLastD 0 = _
  rw [h]; simp
 ·show (laneL f (l.take (j + 1))).2 = _
  rw [h]
theorem getD_in64 {d : List Int} (h : ∀ x ∈ d, In64 x) (k : Nat) : In64 (d.getD k 0) := by
 rw [List.getD_eq_getElem?_getD]
 cases hq : d[k]? with
 | none => exact In64.zero
 | some y => exact h y (List.mem_of_getElem? hq)
theorem laneV_in (f : Int) {l : List Int} (h : ∀ x ∈ l, In64 x) : ∀ j, 1 ≤ j → j ≤ l.length → In64 (laneV f l j)
 | 0, h1, _ => by omega
 | 1, _, h2 => by rw [(laneV_one f h2).1]; exact getD_in64 h 0
 | j + 2, _, h2 => by
  rw [(laneV_step f (by omega) (by omega : j + 1 < l.length)).1]
  exact callV_in64 (laneV_in f h (j + 1) (by omega) (by omega)) (getD_in64 h _)
def badL (f : Int) (lx : List (List Int)) : Bool := (lx.map (laneL f)).any (·.2)
theorem badL_succ (f : Int) {lx : List (List Int)} {k : Nat} (h : k < lx.length) : badL f (lx.take (k + 1)) = (badL f (lx.take k) || (laneL f lx[k]).2) := by
 unfold badL
 rw [List.take_succ_eq_append_getElem h, List.map_append, List.any_append]
 simp only [List.map_cons, List.map_nil, List.any_cons, List.any_nil, Bool.or_false]
theorem laneV_all (f : Int) (l : List Int) : laneV f l l.length = (laneL f l).1.getLastD 0 ∧ laneB f l l.length = (laneL f l).2 := by
 unfold laneV laneB; rw [List.take_length]; exact ⟨rfl, rfl⟩
def foldL (f : Int) (s : List Int) (lx : List (List Int)) : ArrE := doneA (wgB (badL f lx)) s (lx.map fun l => (laneL f l).1.getLastD 0)
theorem foldL_eq (f : Int) (s : List Int) (lx : List (List Int)) : foldL f s lx = if (lx.map (laneL f)).any (·.2) then noA 11 else okA s (lx.map fun l => (laneL f l).1.getLastD 0) := by
 unfold foldL doneA wgB badL
 cases (lx.map (laneL f)).any (·.2) <;> rfl
theorem foldA_eq {f : Int} {s d : List Int} {lx : List (List Int)} (hr : right s d = true) (ht : takes f true = true) (hl : LaneF s d lx) (hs : s.length ≠ 0) :
  foldA f s d = if (size s.dropLast).2 ≠ 0 then noA 74 else if lastOf s = 0 then okA s.dropLast (List.replicate (size s.dropLast).1.toNat (unitF f).1) else foldL f s.dropLast lx := by
 unfold foldA
 rw [if_pos hr, if_pos ht, if_neg hs, foldL_eq, hl.eq]
theorem fold_count {s d : List Int} {lx : List (List Int)} {n : Int} (hr : right s d = true) (hl : LaneF s d lx) (hs : s.length ≠ 0) (hn : size s.dropLast = (n, 0)) : 0 ≤ n ∧ n ≤ 65536 ∧ (lastOf s ≠ 0 → n = (lx.length : Int)) := by
 have g := size_good hn
 have hp := g.prod
 have h0 : 0 ≤ n := by rw [hp]; exact (prodL_le_pow g.side).1
 refine ⟨h0, g.le, fun hne => ?_⟩
 have hc := hl.count hne
 have hd := (right_good hr).2.prod
 rw [prodL_last (fun e => hs (by rw [e]; rfl)), ← hp] at hd
 rw [hd] at hc
 exact (Int.eq_of_mul_eq_mul_right hne hc).symm
theorem dropLast_take (s : List Int) : (s.drop 0).take (s.length - 1) = s.dropLast := by rw [List.drop_zero, List.dropLast_eq_take]
theorem last_getD {s : List Int} (h : s.length ≠ 0) : s.getD (s.length - 1) 0 = lastOf s := by
 unfold lastOf
 rw [List.getLast?_eq_getElem?, List.getD_eq_getElem?_getD, List.getElem?_eq_getElem (by omega)]
 rfl
theorem lanes_in {lx : List (List Int)} {d : List Int} (hf : lx.flatten = d) (hd : ∀ x ∈ d, In64 x) : ∀ l ∈ lx, ∀ x ∈ l, In64 x := fun l hl x hx => hd x (by rw [← hf]; exact List.mem_flatten.2 ⟨l, hl, hx⟩)
end Go.Proofs.YtokghjnkfabgiaaGreatDoor

namespace Go.Proofs.YtokghjnkfabgiaaGreatDoor
open Go.RowKit

theorem size_ofM {xs : List Int} (h4 : xs.length ≤ 4) (hs : ∀ x ∈ xs, 0 ≤ x ∧ x ≤ 65536) (hp : prodL xs ≤ 65536) : size xs = (prodL xs, 0) := by
 unfold size
 rw [if_neg (by omega), if_neg (by
  rw [Bool.not_eq_true, List.any_eq_false]
  intro x hx
  have := hs x hx
  simp [badSide]; omega)]
 split
 ·rename_i h
  obtain ⟨x, hx, e⟩ := List.any_eq_true.1 h
  have e : x = 0 := by
   have : (0 : Int) = x := by simpa using e
   exact this.symm
  subst e
  rw [prodL_zero hx]
 ·rename_i h
  have hpos : ∀ x ∈ xs, 0 < x := fun x hx => by
   have h1 := (hs x hx).1
   have h3 : x ≠ 0 := fun e => h (List.any_eq_true.2 ⟨x, hx, by simp [e]⟩)
   omega
  rw [prodTo_pos xs 1 hpos (by omega) (by omega), Int.one_mul, if_neg (by omega)]
theorem right_lenM {s d : List Int} (h : right s d = true) : d.length ≤ 65536 := by have := (right_good h).2.le; omega
theorem laneL_inM (f : Int) {l : List Int} (h : ∀ x ∈ l, In64 x) : ∀ x ∈ (laneL f l).1, In64 x := by
 induction l using snoc_ind with
 | h0 => intro x hx; simp [laneL] at hx
 | h1 l x ih =>
  have hl := ih (fun y hy => h y (by simp [hy]))
  have hx := h x (by simp)
  rw [laneL_snoc]
  unfold stepL
  split
  ·intro y hy
   rw [List.mem_singleton.1 hy]; exact hx
  ·rename_i a ha
   intro y hy
   rcases List.mem_append.1 hy with h1 | h1
   ·exact hl y h1
   ·rw [List.mem_singleton.1 h1]
    exact ite_pred' (fun _ => In64.zero) (fun hb => dyv_in (hl a (List.mem_of_getLast? ha)) hx (by simpa using hb))
def Four (f : Int) : Prop := f = 1 ∨ f = 3 ∨ f = 6 ∨ f = 7
theorem four_takes {f : Int} (h : Four f) : takes f true = true := by rcases h with rfl | rfl | rfl | rfl <;> decide
theorem four_ok {f : Int} (h : Four f) (a b : Int) : refusesB f a b = false := by rcases h with rfl | rfl | rfl | rfl <;> rfl
theorem lane_ok {f : Int} (hf : ∀ a b, refusesB f a b = false) (l : List Int) : (laneL f l).2 = false := by
 induction l using snoc_ind with
 | h0 => rfl
 | h1 l x ih =>
  rw [laneL_snoc]
  unfold stepL
  split
  ·exact ih
  ·simp [ih, hf]
theorem lanes_ok {f : Int} (hf : ∀ a b, refusesB f a b = false) (lx : List (List Int)) : (lx.map (laneL f)).any (·.2) = false := by
 rw [List.any_eq_false]
 intro x hx
 obtain ⟨l, -, rfl⟩ := List.mem_map.1 hx
 simp [lane_ok hf]
def scanD (f : Int) (lx : List (List Int)) : List Int := (lx.map fun l => (laneL f l).1).flatten
def foldD (f : Int) (s : List Int) (lx : List (List Int)) : List Int := if lastOf s = 0 then List.replicate (size s.dropLast).1.toNat (unitF f).1 else lx.map fun l => (laneL f l).1.getLastD 0
theorem scan_ok {f : Int} {s d : List Int} {lx : List (List Int)} (hf : Four f) (hr : right s d = true) (hl : LaneF s d lx) : scanA f s d = okA s (scanD f lx) := by
 unfold scanA
 rw [if_pos hr, if_pos (four_takes hf), hl.eq]
 dsimp only
 rw [lanes_ok (four_ok hf), if_neg (by decide)]
 rfl
theorem fold_ok {f : Int} {s d : List Int} {lx : List (List Int)} (hf : Four f) (hr : right s d = true) (hl : LaneF s d lx) (hs : s.length ≠ 0) (hz : (size s.dropLast).2 = 0) : foldA f s d = okA s.dropLast (foldD f s lx) := by
 rw [foldA_eq hr (four_takes hf) hl hs, if_neg (by omega), foldL_eq, lanes_ok (four_ok hf)]
 unfold foldD
 split <;> rfl
theorem drop_size {s d : List Int} (hr : right s d = true) (hs : s.length ≠ 0) (h2 : d.length = 0 → s.length ≤ 2) : (size s.dropLast).2 = 0 := by
 have g := (right_good hr).2
 have hsd : ∀ x ∈ s.dropLast, 0 ≤ x ∧ x ≤ 65536 := fun x hx => g.side x (List.dropLast_subset s hx)
 have hl : s.dropLast.length = s.length - 1 := List.length_dropLast
 have h4 := g.len
 have hp : prodL s.dropLast ≤ 65536 := by
  by_cases h0 : d.length = 0
  ·have hl2 := h2 h0
   cases hd : s.dropLast with
   | nil => simp [prodL]
   | cons a r =>
    rw [hd] at hl hsd
    have : r = [] := List.eq_nil_of_length_eq_zero (by simp at hl; omega)
    subst this
    have := hsd a (by simp)
    simp [prodL]
    omega
  ·have hne : s ≠ [] := fun e => hs (by rw [e]; rfl)
   have hpd := g.prod
   have hle := g.le
   rw [prodL_last hne] at hpd
   have h1 := (prodL_le_pow hsd).1
   have hlast : 0 < lastOf s := by
    have hm : lastOf s ∈ s := by
     unfold lastOf
     rw [List.getLast?_eq_some_getLast hne]
     exact List.getLast_mem hne
    have h3 := (g.side _ hm).1
    have h5 : lastOf s ≠ 0 := fun e => by
     have := g.zero.2 ⟨_, hm, e⟩
     omega
    omega
   have h6 : prodL s.dropLast * 1 ≤ prodL s.dropLast * lastOf s := Int.mul_le_mul_of_nonneg_left (by omega) h1
   omega
 rw [size_ofM (by omega) hsd hp]
theorem scanD_len (f : Int) (lx : List (List Int)) : (scanD f lx).length = lx.flatten.length := by
 unfold scanD
 induction lx with
 | nil => rfl
 | cons l r ih => simp only [List.map_cons, List.flatten_cons, List.length_append, ih, laneL_len]
theorem scanD_in {f : Int} {s d : List Int} {lx : List (List Int)} (hl : LaneF s d lx) (hd : ∀ x ∈ d, In64 x) : ∀ x ∈ scanD f lx, In64 x := by
 intro x hx
 obtain ⟨z, h1, h2⟩ := List.mem_flatten.1 hx
 obtain ⟨l, h3, rfl⟩ := List.mem_map.1 h1
 exact laneL_inM f (lanes_in hl.flat hd l h3) x h2
theorem foldD_in {f : Int} {s d : List Int} {lx : List (List Int)} (hl : LaneF s d lx) (hd : ∀ x ∈ d, In64 x) : ∀ x ∈ foldD f s lx, In64 x := by
 intro x hx
 unfold foldD at hx
 split at hx
 ·rw [(List.mem_replicate.1 hx).2]
  unfold unitF In64
  repeat' split
  all_goals (try dsimp only); (try omega)
 ·obtain ⟨l, h3, rfl⟩ := List.mem_map.1 hx
  have hlen := laneL_len f l
  cases hq : (laneL f l).1 with
  | nil => exact In64.zero
  | cons a r =>
   refine laneL_inM f (lanes_in hl.flat hd l h3) _ ?_
   rw [← hq, List.getLastD_eq_getLast?, List.getLast?_eq_some_getLast (by rw [hq]; simp)]
   exact List.getLast_mem _
theorem flat_get {n : Nat} : ∀ (l : List (List Int)), (∀ x ∈ l, x.length = n) → ∀ (i : Nat) (hi : i < l.length) (j : Nat), j < n → l.flatten.getD (i * n + j) 0 = l[i].getD j 0
 | [], _, i, hi, _, _ => absurd hi (Nat.not_lt_zero i)
 | x :: l, h, 0, _, j, hj => by
  have hx := h x List.mem_cons_self
  rw [List.flatten_cons, Nat.zero_mul, Nat.zero_add, List.getD_eq_getElem?_getD, List.getElem?_append_left (by omega), ← List.getD_eq_getElem?_getD]
  rfl
 | x :: l, h, i + 1, hi, j, hj => by
  have hx := h x List.mem_cons_self
  have ih := flat_get l (fun y hy => h y (List.mem_cons_of_mem _ hy)) i (by simpa using hi) j hj
  rw [List.flatten_cons, List.getD_eq_getElem?_getD, List.getElem?_append_right (by rw [hx, Nat.succ_mul]; omega), hx, show (i + 1) * n + j - n = i * n + j from by rw [Nat.succ_mul]; omega, ← List.getD_eq_getElem?_getD, ih]
  rfl
theorem lane_first (f : Int) : ∀ {l : List Int}, 0 < l.length → (laneL f l).1.getD 0 0 = l.getD 0 0 := by
 intro l
 induction l using snoc_ind with
 | h0 => intro h; cases h
 | h1 l x ih =>
  intro _
  by_cases h0 : 0 < l.length
  ·obtain ⟨a, -, e⟩ := laneL_step f x h0
   rw [e]
   dsimp only
   have hl := laneL_len f l
   rw [List.getD_eq_getElem?_getD, List.getElem?_append_left (by omega), ← List.getD_eq_getElem?_getD, ih h0, List.getD_eq_getElem?_getD, List.getD_eq_getElem?_getD, List.getElem?_append_left h0]
  ·have : l = [] := List.eq_nil_of_length_eq_zero (by omega)
   subst this
   rfl
theorem scan_fold {f : Int} {s d : List Int} {lx : List (List Int)} {n : Nat} (hl : LaneF s d lx) (hn : lastOf s = (n : Int)) (h0 : 0 < n) : d.length / n = lx.length ∧ (foldD f s lx).length = lx.length ∧
  ∀ i, i < lx.length → (scanD f lx).getD (i * n + (n - 1)) 0 = (foldD f s lx).getD i 0 ∧ (scanD f lx).getD (i * n) 0 = d.getD (i * n) 0 := by
 have hne : lastOf s ≠ 0 := by omega
 have hc := hl.count hne
 rw [hn] at hc
 have hc' : lx.length * n = d.length := by exact_mod_cast hc
 have hlen : ∀ x ∈ lx, x.length = n := fun x hx => by have := hl.each x hx; omega
 have hlen2 : ∀ x ∈ lx.map (fun l => (laneL f l).1), x.length = n := fun x hx => by
  obtain ⟨l, h, rfl⟩ := List.mem_map.1 hx
  rw [laneL_len]
  exact hlen l h
 have hf : foldD f s lx = lx.map fun l => (laneL f l).1.getLastD 0 := by unfold foldD; rw [if_neg hne]
 refine ⟨by rw [← hc', Nat.mul_div_cancel _ h0], by rw [hf, List.length_map], fun i hi => ?_⟩
 have hli := hlen _ (List.getElem_mem hi)
 constructor
 ·unfold scanD
  rw [flat_get _ hlen2 i (by rw [List.length_map]; exact hi) (n - 1) (by omega), hf, List.getElem_map, List.getD_eq_getElem?_getD (l := lx.map _), List.getElem?_map, List.getElem?_eq_getElem hi]
  show _ = (laneL f lx[i]).1.getLastD 0
  rw [List.getLastD_eq_getLast?, List.getLast?_eq_getElem?, laneL_len, hli, ← List.getD_eq_getElem?_getD]
 ·have h1 := flat_get _ hlen2 i (by rw [List.length_map]; exact hi) 0 h0
  have h2 := flat_get _ hlen i hi 0 h0
  rw [Nat.add_zero] at h1 h2
  unfold scanD
  rw [h1, List.getElem_map, lane_first f (by omega), ← h2, hl.flat]
end Go.Proofs.YtokghjnkfabgiaaGreatDoor

-- DROPS
namespace Go.Proofs.YtokghjnkfabgiaaGreatDoor
open Go.RowKit

theorem One.row {w W W' : World} {v u x : Value} {xs : List Int} (h : One w W v u) (hr : RowI w.heap.size W x xs) (hk : KB (fun g => x.ownBlock = some g) W W') : One w W' v u :=
 h.kt (h.b.trans (hk.below h.b.size (fun g e => (hr.lt g e).1))) (KeepTy.kb hk (fun g e => by
  obtain ⟨cur, hc⟩ := own_typed hr e
  exact NotTy.of hc (by decide)))
theorem retB' {f : FuncId} {args : Array Value} {w : World} {B : Nat} {r r' : ArrE} (h : Calls Tryz.prog f args w fun e w' => RetArr B r e w' ∧ Below w.heap.size w w') (hr : r = r') :
  Calls Tryz.prog f args w fun e w' => RetArr B r' e w' ∧ Below w.heap.size w w' := hr ▸ h
end Go.Proofs.YtokghjnkfabgiaaGreatDoor

-- DROPS
namespace Go.Proofs.YtokghjnkfabgiaaGreatDoor
open Go.RowKit

theorem In64.getD {d : List Int} (h : ∀ x ∈ d, In64 x) {k : Nat} (hk : k < d.length) : In64 (d.getD k 0) := by
 rw [List.getD_eq_getElem?_getD, List.getElem?_eq_getElem hk]; exact h _ (List.getElem_mem hk)
theorem IntsAt.atD {w : World} {a : Option Addr} {d : List Int} (h : IntsAt .i64 w a d) {k : Nat} (hk : k < d.length) : ∃ b off, a = some ⟨b, off, none⟩ ∧ w.cell? ⟨b, off + k, none⟩ = some (.int .i64 (d.getD k 0)) := by
 obtain ⟨b, off, e, hc⟩ := h k hk
 exact ⟨b, off, e, by rw [List.getD_eq_getElem?_getD, List.getElem?_eq_getElem hk]; exact hc⟩
theorem One.cell {w W : World} {v u x : Value} {G k : Nat} (h : One w W v u) (hG : w.heap.size + 1 < G) : One w (W.setCell ⟨G, k, none⟩ x) v u :=
 ⟨block_other h.x (by show G ≠ _; omega) _, block_other h.r (by show G ≠ _; omega) _, h.b.setCell (p := ⟨G, k, none⟩) (by show _ ≤ G; omega) _⟩
end Go.Proofs.YtokghjnkfabgiaaGreatDoor

-- DROPS
namespace Go.Proofs.YtokghjnkfabgiaaGreatDoor
open Go.RowKit

theorem SlA.form {w : World} {v : Value} {xs : List Int} (h : SlA w v xs) : ∃ a c, v = .slice a xs.length c := by obtain ⟨a, c, e, _⟩ := h; exact ⟨a, c, e⟩
theorem RowI.fm {B : Nat} {w : World} {v : Value} {xs : List Int} (h : RowI B w v xs) : ∃ a c, v = .slice a xs.length c := by obtain ⟨a, c, e, _⟩ := h.slice; exact ⟨a, c, e⟩
end Go.Proofs.YtokghjnkfabgiaaGreatDoor

-- DROPS
namespace Go.Proofs.YtokghjnkfabgiaaGreatDoor
open Go.RowKit

theorem In64.one : In64 1 := by unfold In64; omega
end Go.Proofs.YtokghjnkfabgiaaGreatDoor

-- DROPS
namespace Go.Proofs.YtokghjnkfabgiaaGreatDoor
open Go.RowKit

theorem RowI.call {B : Nat} {W W' : World} {x : Value} {xs : List Int} {P F : Nat} {f wr : Int} (h : RowI B W x xs) (hp : PairAt W P F f wr) (hk : KB (fun g => g = P) W W') : RowI B W' x xs :=
 own_keep h (KeepTy.kb hk (fun g e => by rw [e]; exact hp.not (by decide)))
end Go.Proofs.YtokghjnkfabgiaaGreatDoor

-- DROPS
namespace Go.Proofs.YtokghjnkfabgiaaGreatDoor
open Go.RowKit

theorem RowI.box {B : Nat} {W : World} {x z : Value} {xs : List Int} {g k : Nat} {cs : Array Value} (h : RowI B W x xs) (hg : W.heap[g]? = some (.cells cs 44 (0, 0))) : RowI B (W.setCell ⟨g, k, none⟩ z) x xs :=
 own_keep h (KeepTy.setCell (p := ⟨g, k, none⟩) (NotTy.of hg (by decide)) _)
theorem PairAt.box {W : World} {P F : Nat} {f wr : Int} {z : Value} {g k : Nat} {cs : Array Value} (h : PairAt W P F f wr) (hg : W.heap[g]? = some (.cells cs 44 (0, 0))) : PairAt (W.setCell ⟨g, k, none⟩ z) P F f wr :=
 ⟨KeepTy.setCell (p := ⟨g, k, none⟩) (NotTy.of hg (by decide)) _ _ _ h.p, KeepTy.setCell (p := ⟨g, k, none⟩) (NotTy.of hg (by decide)) _ _ _ h.f⟩
end Go.Proofs.YtokghjnkfabgiaaGreatDoor

-- DROPS
namespace Go.Proofs.YtokghjnkfabgiaaGreatDoor
open Go.RowKit

theorem One.kb {w W W' : World} {v u : Value} {S : Nat → Prop} (h : One w W v u) (hk : KB S W W') (hS : ∀ g, S g → w.heap.size + 1 < g) : One w W' v u :=
 ⟨(hk.block _ (Array.getElem?_eq_some_iff.1 h.x).1 (fun e => by have := hS _ e; omega)).trans h.x, (hk.block _ (Array.getElem?_eq_some_iff.1 h.r).1 (fun e => by have := hS _ e; omega)).trans h.r,
  h.b.trans (hk.below h.b.size (fun g e => by have := hS _ e; omega))⟩
theorem RowR.kb {B : Nat} {w w' : World} {v : Value} {xss : List (List Int)} {S : Nat → Prop} (h : RowR B w v xss) (hk : KB S w w') (hS : ∀ g, S g → g < B) : RowR B w' v xss := by
 obtain ⟨vs, hown, hin⟩ := h
 refine ⟨vs, hk.row hown (fun g e hs => ?_), fun i hi => ?_⟩
 ·rcases hown.2 with ⟨h0, _⟩ | ⟨g', cap, cur, e2, hB, _⟩
  ·rw [h0] at e; cases e
  ·rw [e2] at e
   have e3 : g' = g := by injection e
   have := hS _ hs
   omega
 ·obtain ⟨u, hu, hr, hap⟩ := hin i hi
  exact ⟨u, hu, hk.row hr (fun g e hs => by have := hS _ hs; have := (hr.lt g e).1; omega), hap⟩
set_option maxHeartbeats 4000000 in
theorem pf_bad (w : World) (f : Int) (v u : Value) (s d : List Int) (hs : SlA w v s) (hd : SlA w u d) (hr : right s d = false) :
  Calls Tryz.prog 96 #[.int .u8 f, .agg #[v, u]] w fun e w' => RetArr w.heap.size (noA 60) e w' ∧ Below w.heap.size w w' := by
 obtain ⟨a0, c0, rfl, h01, h02, -, h04, -⟩ := hs
 obtain ⟨a1, c1, rfl, h11, h12, -, h14, hin⟩ := hd
 have h02' : c0 ≤ 9223372036854775807 := h02
 have h12' : c1 ≤ 9223372036854775807 := h12
 have HM : Hid (s.length ≤ maxLen) := Lib.hid (Nat.le_trans h01 h02)
 have HRT := Lib.hid hr; have H0 := Lib.hid h04; have H1 := Lib.hid h14; have HIN := Lib.hid hin
 have HO := Lib.hid (One.mk0 w (.slice a0 s.length c0) (.slice a1 d.length c1))
 obtain ⟨r, HRR⟩ : ∃ r, Hid ((noA 60) = r) := ⟨_, Lib.hid rfl⟩
 rw [HRR.out]
 clear hr h04 h14 h02 h12 hin
 go_enter Tryz.func96, Tryz.ntmps96
 go_upto_region 1 with fail
 refine gen_worldA (fun W => One w W (.slice a0 s.length c0) (.slice a1 d.length c1)) HO.out ?_
 rintro W hO
 have hq := right_any W a0 a1 c0 c1 s d HM.out (H0.out.below hO.b (Nat.le_refl _))
 rw [HRT.out] at hq
 have HQ := Lib.hid hq; have HO1 := Lib.hid hO
 have x0 := hO.c0; have x1 := hO.c1
 clear hq hO
 go_wp2_with fail
 refine HQ.out.mono ?_
 rintro e W1 ⟨rfl, hb1⟩
 have HO2 := Lib.hid (HO1.out.next hb1)
 have hq := fault_at W1 w.heap.size HO2.out.b.size 60 r HRR.out
 clear HQ
 have HQ := Lib.hid hq; have HR := Lib.hid HO2.out.r; have HB := Lib.hid HO2.out.b
 clear hq HO hb1 HO1 x0 x1
 go_wp2_with fail
 refine (Hid.out HQ).mono ?_
 rintro e w9 ⟨⟨v9, u9, rfl, hv9, hu9, hap9⟩, hb9⟩
 have hR9 := block_below (Hid.out HR) hb9
 have HV9 := Lib.hid hv9; have HU9 := Lib.hid hu9; have HAP9 := Lib.hid hap9; have HR9 := Lib.hid hR9
 have HB9 := Lib.hid (bNext hb9 (Hid.out HB))
 obtain ⟨a9, c9, rfl, -, -⟩ := RowI.slice hv9
 obtain ⟨a8, c8, rfl, -, -⟩ := RowI.slice hu9
 have g0 := cell_of_row w9 _ 0 _ _ _ hR9; have g1 := cell_of_row w9 _ 1 _ _ _ hR9
 have z0 := frozen_of_row w9 _ 0 _ _ hR9; have z1 := frozen_of_row w9 _ 1 _ _ hR9
 clear hv9 hu9 hap9 hb9 hR9
 go_wp2_with fail
 exact fin_arr rfl rfl rfl HR9.out HV9.out HU9.out HAP9.out HB9.out (by omega)
set_option maxHeartbeats 4000000 in
theorem pf_no (w : World) (f : Int) (v u : Value) (s d : List Int) (hs : SlA w v s) (hd : SlA w u d) (hr : right s d = true) (ht : takes f true = false) :
  Calls Tryz.prog 96 #[.int .u8 f, .agg #[v, u]] w fun e w' => RetArr w.heap.size (noA 70) e w' ∧ Below w.heap.size w w' := by
 have HT := Lib.hid (fun W => takes_at W f true false ht)
 clear ht
 obtain ⟨a0, c0, rfl, h01, h02, -, h04, -⟩ := hs
 obtain ⟨a1, c1, rfl, h11, h12, -, h14, hin⟩ := hd
 have h02' : c0 ≤ 9223372036854775807 := h02
 have h12' : c1 ≤ 9223372036854775807 := h12
 have HM : Hid (s.length ≤ maxLen) := Lib.hid (Nat.le_trans h01 h02)
 have HRT := Lib.hid hr; have H0 := Lib.hid h04; have H1 := Lib.hid h14; have HIN := Lib.hid hin
 have HO := Lib.hid (One.mk0 w (.slice a0 s.length c0) (.slice a1 d.length c1))
 obtain ⟨r, HRR⟩ : ∃ r, Hid ((noA 70) = r) := ⟨_, Lib.hid rfl⟩
 rw [HRR.out]
 clear hr h04 h14 h02 h12 hin
 go_enter Tryz.func96, Tryz.ntmps96
 go_upto_region 1 with fail
 refine gen_worldA (fun W => One w W (.slice a0 s.length c0) (.slice a1 d.length c1)) HO.out ?_
 rintro W hO
 have hq := right_any W a0 a1 c0 c1 s d HM.out (H0.out.below hO.b (Nat.le_refl _))
 rw [HRT.out] at hq
 have HQ := Lib.hid hq; have HO1 := Lib.hid hO
 have x0 := hO.c0; have x1 := hO.c1
 clear hq hO
 go_wp2_with fail
 refine HQ.out.mono ?_
 rintro e W1 ⟨rfl, hb1⟩
 have HO2 := Lib.hid (HO1.out.next hb1)
 clear x0 x1
 have x0 := HO2.out.c0; have x1 := HO2.out.c1
 clear hb1 HQ HO1
 have HQ0 := Lib.hid (HT.out W1)
 go_wp2_with fail
 refine HQ0.out.mono ?_
 rintro e W2 ⟨rfl, rfl⟩
 clear HQ0 HT HO
 have hq := fault_at W1 w.heap.size HO2.out.b.size 70 r HRR.out
 have HQ := Lib.hid hq; have HR := Lib.hid HO2.out.r; have HB := Lib.hid HO2.out.b
 clear hq
 go_wp2_with fail
 refine (Hid.out HQ).mono ?_
 rintro e w9 ⟨⟨v9, u9, rfl, hv9, hu9, hap9⟩, hb9⟩
 have hR9 := block_below (Hid.out HR) hb9
 have HV9 := Lib.hid hv9; have HU9 := Lib.hid hu9; have HAP9 := Lib.hid hap9; have HR9 := Lib.hid hR9
 have HB9 := Lib.hid (bNext hb9 (Hid.out HB))
 obtain ⟨a9, c9, rfl, -, -⟩ := RowI.slice hv9
 obtain ⟨a8, c8, rfl, -, -⟩ := RowI.slice hu9
 have g0 := cell_of_row w9 _ 0 _ _ _ hR9; have g1 := cell_of_row w9 _ 1 _ _ _ hR9
 have z0 := frozen_of_row w9 _ 0 _ _ hR9; have z1 := frozen_of_row w9 _ 1 _ _ hR9
 clear hv9 hu9 hap9 hb9 hR9
 go_wp2_with fail
 exact fin_arr rfl rfl rfl HR9.out HV9.out HU9.out HAP9.out HB9.out (by omega)
set_option maxHeartbeats 4000000 in
theorem pf_zero (w : World) (f : Int) (v u : Value) (s d : List Int) (hs : SlA w v s) (hd : SlA w u d) (hr : right s d = true) (ht : takes f true = true) (hs0 : s.length = 0) :
  Calls Tryz.prog 96 #[.int .u8 f, .agg #[v, u]] w fun e w' => RetArr w.heap.size (okA [] d) e w' ∧ Below w.heap.size w w' := by
 have HT := Lib.hid (fun W => takes_at W f true true ht)
 have hd6 := (right_good hr).2.le
 have hs1 : ((s.length : Int) == 0) = true := by rw [beq_iff_eq]; omega
 clear ht hs0
 obtain ⟨a0, c0, rfl, h01, h02, -, h04, -⟩ := hs
 obtain ⟨a1, c1, rfl, h11, h12, -, h14, hin⟩ := hd
 have h02' : c0 ≤ 9223372036854775807 := h02
 have h12' : c1 ≤ 9223372036854775807 := h12
 have HM : Hid (s.length ≤ maxLen) := Lib.hid (Nat.le_trans h01 h02)
 have HRT := Lib.hid hr; have H0 := Lib.hid h04; have H1 := Lib.hid h14; have HIN := Lib.hid hin
 have HO := Lib.hid (One.mk0 w (.slice a0 s.length c0) (.slice a1 d.length c1))
 obtain ⟨r, HRR⟩ : ∃ r, Hid ((okA [] d) = r) := ⟨_, Lib.hid rfl⟩
 rw [HRR.out]
 clear hr h04 h14 h02 h12 hin
 go_enter Tryz.func96, Tryz.ntmps96
 go_upto_region 1 with fail
 refine gen_worldA (fun W => One w W (.slice a0 s.length c0) (.slice a1 d.length c1)) HO.out ?_
 rintro W hO
 have hq := right_any W a0 a1 c0 c1 s d HM.out (H0.out.below hO.b (Nat.le_refl _))
 rw [HRT.out] at hq
 have HQ := Lib.hid hq; have HO1 := Lib.hid hO
 have x0 := hO.c0; have x1 := hO.c1
 clear hq hO
 go_wp2_with fail
 refine HQ.out.mono ?_
 rintro e W1 ⟨rfl, hb1⟩
 have HO2 := Lib.hid (HO1.out.next hb1)
 clear x0 x1
 have x0 := HO2.out.c0; have x1 := HO2.out.c1
 clear hb1 HQ HO1
 have HQ0 := Lib.hid (HT.out W1)
 go_wp2_with fail
 refine HQ0.out.mono ?_
 rintro e W2 ⟨rfl, rfl⟩
 clear HQ0 HT HO
 have hq := clone_any W1 a1 c1 d (by omega) (H1.out.below HO2.out.b (Nat.le_refl _))
 have HQ := Lib.hid hq
 clear hq
 go_wp2_with fail
 refine HQ.out.mono ?_
 rintro e W3 ⟨⟨v3, rfl, hv3⟩, hb3⟩
 have HO3 := Lib.hid (HO2.out.next hb3)
 have hv3 := hv3.mono HO2.out.b.size
 have hq := good_any W3 w.heap.size HO3.out.b.size none 0 0 [] d v3 rfl (by simp) (IntsAt.nil _ _ _) hv3
 rw [HRR.out] at hq
 clear HQ
 have HQ := Lib.hid hq; have HR := Lib.hid HO3.out.r; have HB := Lib.hid HO3.out.b
 obtain ⟨a9, c9, rfl, -, -⟩ := hv3.slice
 clear hq hv3 hb3 HO2 x0 x1
 go_wp2_with fail
 refine (Hid.out HQ).mono ?_
 rintro e w9 ⟨⟨v9, u9, rfl, hv9, hu9, hap9⟩, hb9⟩
 have hR9 := block_below (Hid.out HR) hb9
 have HV9 := Lib.hid hv9; have HU9 := Lib.hid hu9; have HAP9 := Lib.hid hap9; have HR9 := Lib.hid hR9
 have HB9 := Lib.hid (bNext hb9 (Hid.out HB))
 obtain ⟨a9, c9, rfl, -, -⟩ := RowI.slice hv9
 obtain ⟨a8, c8, rfl, -, -⟩ := RowI.slice hu9
 have g0 := cell_of_row w9 _ 0 _ _ _ hR9; have g1 := cell_of_row w9 _ 1 _ _ _ hR9
 have z0 := frozen_of_row w9 _ 0 _ _ hR9; have z1 := frozen_of_row w9 _ 1 _ _ hR9
 clear hv9 hu9 hap9 hb9 hR9
 go_wp2_with fail
 exact fin_arr rfl rfl rfl HR9.out HV9.out HU9.out HAP9.out HB9.out (by omega)
set_option maxHeartbeats 4000000 in
theorem pf_large (w : World) (f : Int) (v u : Value) (s d : List Int) (hs : SlA w v s) (hd : SlA w u d) (hr : right s d = true) (ht : takes f true = true) (hs0 : s.length ≠ 0) (her : (size s.dropLast).2 ≠ 0) :
  Calls Tryz.prog 96 #[.int .u8 f, .agg #[v, u]] w fun e w' => RetArr w.heap.size (noA 74) e w' ∧ Below w.heap.size w w' := by
 have HT := Lib.hid (fun W => takes_at W f true true ht)
 have hs4 := (right_good hr).2.len
 have hs1 : ((s.length : Int) == 0) = false := by rw [beq_eq_false_iff_ne]; omega
 have hsp : 0 < s.length := by omega
 obtain ⟨nz, er, hsz⟩ : ∃ nz er, size s.dropLast = (nz, er) := ⟨_, _, rfl⟩
 rw [hsz] at her
 have her' : (er != 0) = true := by simpa using her
 have HSZ := Lib.hid hsz
 clear ht hs0 her hsz
 obtain ⟨a0, c0, rfl, h01, h02, -, h04, -⟩ := hs
 obtain ⟨a1, c1, rfl, h11, h12, -, h14, hin⟩ := hd
 have h02' : c0 ≤ 9223372036854775807 := h02
 have h12' : c1 ≤ 9223372036854775807 := h12
 have HM : Hid (s.length ≤ maxLen) := Lib.hid (Nat.le_trans h01 h02)
 have HRT := Lib.hid hr; have H0 := Lib.hid h04; have H1 := Lib.hid h14; have HIN := Lib.hid hin
 have HO := Lib.hid (One.mk0 w (.slice a0 s.length c0) (.slice a1 d.length c1))
 obtain ⟨r, HRR⟩ : ∃ r, Hid ((noA 74) = r) := ⟨_, Lib.hid rfl⟩
 rw [HRR.out]
 clear hr h04 h14 h02 h12 hin
 go_enter Tryz.func96, Tryz.ntmps96
 go_upto_region 1 with fail
 refine gen_worldA (fun W => One w W (.slice a0 s.length c0) (.slice a1 d.length c1)) HO.out ?_
 rintro W hO
 have hq := right_any W a0 a1 c0 c1 s d HM.out (H0.out.below hO.b (Nat.le_refl _))
 rw [HRT.out] at hq
 have HQ := Lib.hid hq; have HO1 := Lib.hid hO
 have x0 := hO.c0; have x1 := hO.c1
 clear hq hO
 go_wp2_with fail
 refine HQ.out.mono ?_
 rintro e W1 ⟨rfl, hb1⟩
 have HO2 := Lib.hid (HO1.out.next hb1)
 clear x0 x1
 have x0 := HO2.out.c0; have x1 := HO2.out.c1
 clear hb1 HQ HO1
 have HQ0 := Lib.hid (HT.out W1)
 go_wp2_with fail
 refine HQ0.out.mono ?_
 rintro e W2 ⟨rfl, rfl⟩
 clear HQ0 HT HO
 have hsl : ∀ W, (Instr.sliceAt 42 (.slice a0 s.length c0) none (some (.int .i64 ((s.length : Int) - 1))) none).run Tryz.prog W = .ok (.slice (subA a0 c0 0) (s.length - 1) c0) W := fun W => by
  have := slice_hi W a0 s.length c0 .i64 ((s.length : Int) - 1) (by omega) (by omega)
  rwa [show ((s.length : Int) - 1).toNat = s.length - 1 from by omega] at this
 have hcut : IntsAt .i64 W1 (subA a0 c0 0) s.dropLast := by
  have := (H0.out.below HO2.out.b (Nat.le_refl _)).cut (l := 0) (n := s.length - 1) (m := c0) h01
  rwa [dropLast_take] at this
 have hdl : s.dropLast.length = s.length - 1 := by simp
 have hq := clone_n W1 (subA a0 c0 0) (s.length - 1) c0 s.dropLast hdl.symm (by omega) hcut
 have HQ := Lib.hid hq; have HDL := Lib.hid hdl
 generalize subA a0 c0 0 = a7 at hsl HQ
 clear hq hcut hdl
 go_wp2_with fail
 refine HQ.out.mono ?_
 rintro e W3 ⟨⟨v7, rfl, hv7⟩, hb3⟩
 have HO3 := Lib.hid (HO2.out.next hb3)
 have hv7 := hv7.mono HO2.out.b.size
 obtain ⟨a7', c7, e7, -, hi7⟩ := hv7.slice
 rw [HDL.out] at e7
 subst e7
 have hq := size_any W3 a7' c7 s.dropLast (by rw [HDL.out]; unfold maxLen; omega) hi7
 rw [HDL.out, HSZ.out] at hq
 clear HQ
 have HQ := Lib.hid hq; have HV7 := Lib.hid hv7
 clear hq hv7 hb3 hi7 HO2 x0 x1 hsl
 go_wp2_with fail
 refine HQ.out.mono ?_
 rintro e W4 ⟨rfl, hb4⟩
 have HO4 := Lib.hid (HO3.out.next hb4); have HV8 := Lib.hid (HV7.out.below hb4)
 have x0 := HO4.out.c0; have x1 := HO4.out.c1
 clear HQ HV7 hb4 HO3
 unfold two
 have hq := fault_at W4 w.heap.size HO4.out.b.size 74 r HRR.out
 have HQ := Lib.hid hq; have HR := Lib.hid HO4.out.r; have HB := Lib.hid HO4.out.b
 clear hq
 go_wp2_with fail
 refine (Hid.out HQ).mono ?_
 rintro e w9 ⟨⟨v9, u9, rfl, hv9, hu9, hap9⟩, hb9⟩
 have hR9 := block_below (Hid.out HR) hb9
 have HV9 := Lib.hid hv9; have HU9 := Lib.hid hu9; have HAP9 := Lib.hid hap9; have HR9 := Lib.hid hR9
 have HB9 := Lib.hid (bNext hb9 (Hid.out HB))
 obtain ⟨a9, c9, rfl, -, -⟩ := RowI.slice hv9
 obtain ⟨a8, c8, rfl, -, -⟩ := RowI.slice hu9
 have g0 := cell_of_row w9 _ 0 _ _ _ hR9; have g1 := cell_of_row w9 _ 1 _ _ _ hR9
 have z0 := frozen_of_row w9 _ 0 _ _ hR9; have z1 := frozen_of_row w9 _ 1 _ _ hR9
 clear hv9 hu9 hap9 hb9 hR9
 go_wp2_with fail
 exact fin_arr rfl rfl rfl HR9.out HV9.out HU9.out HAP9.out HB9.out (by omega)
set_option maxHeartbeats 8000000 in
theorem pf_unit (w : World) (f : Int) (v u : Value) (s d : List Int) (hs : SlA w v s) (hd : SlA w u d) (hr : right s d = true) (ht : takes f true = true) (hs0 : s.length ≠ 0) (n : Nat) (hn : n ≤ 65536) (hsz : size s.dropLast = ((n : Int), 0)) (hl0 : lastOf s = 0) :
  Calls Tryz.prog 96 #[.int .u8 f, .agg #[v, u]] w fun e w' => RetArr w.heap.size (okA s.dropLast (List.replicate n (unitF f).1)) e w' ∧ Below w.heap.size w w' := by
 have HT := Lib.hid (fun W => takes_at W f true true ht)
 have hs4 := (right_good hr).2.len
 have hs1 : ((s.length : Int) == 0) = false := by rw [beq_eq_false_iff_ne]; omega
 have hsp : 0 < s.length := by omega
 have HSZ := Lib.hid hsz
 have HLS := Lib.hid (last_getD hs0)
 have HL0 := Lib.hid hl0
 have HU := Lib.hid (fun W => unit_at W f (unitF f).1 (unitF f).2 rfl)
 generalize (unitF f).1 = un at HU
 generalize (unitF f).2 = ub at HU
 clear ht hs0 hsz hl0
 obtain ⟨a0, c0, rfl, h01, h02, -, h04, -⟩ := hs
 obtain ⟨a1, c1, rfl, h11, h12, -, h14, hin⟩ := hd
 have h02' : c0 ≤ 9223372036854775807 := h02
 have h12' : c1 ≤ 9223372036854775807 := h12
 have HM : Hid (s.length ≤ maxLen) := Lib.hid (Nat.le_trans h01 h02)
 have HRT := Lib.hid hr; have H0 := Lib.hid h04; have H1 := Lib.hid h14; have HIN := Lib.hid hin
 have HO := Lib.hid (One.mk0 w (.slice a0 s.length c0) (.slice a1 d.length c1))
 obtain ⟨r, HRR⟩ : ∃ r, Hid ((okA s.dropLast (List.replicate n un)) = r) := ⟨_, Lib.hid rfl⟩
 rw [HRR.out]
 clear hr h04 h14 h02 h12 hin
 go_enter Tryz.func96, Tryz.ntmps96
 go_upto_region 1 with fail
 refine gen_worldA (fun W => One w W (.slice a0 s.length c0) (.slice a1 d.length c1)) HO.out ?_
 rintro W hO
 have hq := right_any W a0 a1 c0 c1 s d HM.out (H0.out.below hO.b (Nat.le_refl _))
 rw [HRT.out] at hq
 have HQ := Lib.hid hq; have HO1 := Lib.hid hO
 have x0 := hO.c0; have x1 := hO.c1
 clear hq hO
 go_wp2_with fail
 refine HQ.out.mono ?_
 rintro e W1 ⟨rfl, hb1⟩
 have HO2 := Lib.hid (HO1.out.next hb1)
 clear x0 x1
 have x0 := HO2.out.c0; have x1 := HO2.out.c1
 clear hb1 HQ HO1
 have HQ0 := Lib.hid (HT.out W1)
 go_wp2_with fail
 refine HQ0.out.mono ?_
 rintro e W2 ⟨rfl, rfl⟩
 clear HQ0 HT HO
 have hsl : ∀ W, (Instr.sliceAt 42 (.slice a0 s.length c0) none (some (.int .i64 ((s.length : Int) - 1))) none).run Tryz.prog W = .ok (.slice (subA a0 c0 0) (s.length - 1) c0) W := fun W => by
  have := slice_hi W a0 s.length c0 .i64 ((s.length : Int) - 1) (by omega) (by omega)
  rwa [show ((s.length : Int) - 1).toNat = s.length - 1 from by omega] at this
 have hcut : IntsAt .i64 W1 (subA a0 c0 0) s.dropLast := by
  have := (H0.out.below HO2.out.b (Nat.le_refl _)).cut (l := 0) (n := s.length - 1) (m := c0) h01
  rwa [dropLast_take] at this
 have hdl : s.dropLast.length = s.length - 1 := by simp
 have hq := clone_n W1 (subA a0 c0 0) (s.length - 1) c0 s.dropLast hdl.symm (by omega) hcut
 have HQ := Lib.hid hq; have HDL := Lib.hid hdl
 generalize subA a0 c0 0 = a7 at hsl HQ
 clear hq hcut hdl
 go_wp2_with fail
 refine HQ.out.mono ?_
 rintro e W3 ⟨⟨v7, rfl, hv7⟩, hb3⟩
 have HO3 := Lib.hid (HO2.out.next hb3)
 have hv7 := hv7.mono HO2.out.b.size
 obtain ⟨a7', c7, e7, -, hi7⟩ := hv7.slice
 rw [HDL.out] at e7
 subst e7
 have hq := size_any W3 a7' c7 s.dropLast (by rw [HDL.out]; unfold maxLen; omega) hi7
 rw [HDL.out, HSZ.out] at hq
 clear HQ
 have HQ := Lib.hid hq; have HV7 := Lib.hid hv7
 clear hq hv7 hb3 hi7 HO2 x0 x1 hsl
 go_wp2_with fail
 refine HQ.out.mono ?_
 rintro e W4 ⟨rfl, hb4⟩
 have HO4 := Lib.hid (HO3.out.next hb4); have HV8 := Lib.hid (HV7.out.below hb4)
 have x0 := HO4.out.c0; have x1 := HO4.out.c1
 clear HQ HV7 hb4 HO3
 unfold two
 have HQ1 := Lib.hid (of_any W4 f)
 go_wp2_with fail
 refine HQ1.out.mono ?_
 rintro e W5 ⟨rfl, hp5, hb5⟩
 have HO5 := Lib.hid (HO4.out.next hb5); have HV9 := Lib.hid (HV8.out.below hb5)
 have hP : w.heap.size + 1 < W4.heap.size + 1 := by have := HO4.out.lt; omega
 obtain ⟨P, hPe⟩ : ∃ P, W4.heap.size + 1 = P := ⟨_, rfl⟩
 obtain ⟨F, hFe⟩ : ∃ F, W4.heap.size = F := ⟨_, rfl⟩
 rw [hPe] at hp5 hP ⊢
 rw [hFe] at hp5
 have HPA := Lib.hid hp5
 have HVP : Hid (∀ g, (Value.slice a7' (s.length - 1) c7).ownBlock = some g → g < P) := Lib.hid fun g e => by have := (HV8.out.lt g e).2; omega
 have hsz5 := HO5.out.b.size
 clear HQ1 hp5 hb5 HO4 HV8 hPe hFe x0 x1
 obtain ⟨i0, hi, hz0, hz1, hz2⟩ := info_parts Tryz.info2
 have Hi := Lib.hid hi; have Hz0 := Lib.hid hz0; have Hz1 := Lib.hid hz1; have Hz2 := Lib.hid hz2; clear hi hz0 hz1 hz2
 have x0 := HO5.out.c0
 go_wp2_with (at_make; refine wpList_make_full _ rfl _ _ 42 rfl w.heap.size 2 i0 (.int .i64 0) 1 Tryz.underlying42 Hi.out Hz0.out Hz1.out _ _ _ _ n rfl rfl rfl rfl ?c2 ?c3 ?c4 ?_)
 case c2 => rw [Hz2.out]; omega
 case c3 => unfold maxLen; omega
 case c4 => exact hsz5
 intro W6 hown hgrow
 have hb6 : Below W5.heap.size W5 W6 := (Below.refl _ _).grown hgrow (Nat.le_refl _) (by simp)
 have HO6 := Lib.hid (HO5.out.next hb6)
 have HROW := Lib.hid (made_ints hown)
 have HPB := Lib.hid (HPA.out.below hb6); have HVA := Lib.hid (HV9.out.below hb6)
 have hPG : P < W5.heap.size := HPA.out.lt
 obtain ⟨G, hG⟩ : ∃ G, W5.heap.size = G := ⟨_, rfl⟩
 rw [hG] at HROW hPG ⊢
 have hGW : G < W6.heap.size := by have := (Array.getElem?_eq_some_iff.1 (own_typed HROW.out rfl).choose_spec).1; exact this
 clear hown hgrow HO5 hb6 HPA HV9 hG x0 hsz5
 have x0 := HO6.out.c0
 obtain ⟨b0, o0, rfl, hcl⟩ := H0.out.atD (k := s.length - 1) (by omega)
 rw [HLS.out] at hcl
 have hcl := keepCell HO6.out.b hcl
 have els : (s.length : Int) - 1 = ((s.length - 1 : Nat) : Int) := by omega
 obtain ⟨sl, hsl⟩ : ∃ sl, s.length - 1 = sl := ⟨_, rfl⟩
 rw [hsl] at hcl els HVA HVP ⊢
 have hsl0 : (sl : Int) < (s.length : Int) := by omega
 have HSLE := Lib.hid hsl
 clear hsl
 rw [HL0.out] at hcl
 have HQU := Lib.hid (HU.out W6)
 go_wp2_with fail
 refine HQU.out.mono ?_
 rintro e W7 ⟨rfl, n7, rfl⟩
 have HO7 := Lib.hid (HO6.out.next (Below.drewN W6 n7)); have HPC := Lib.hid (HPB.out.below (Below.drewN W6 n7)); have HVB := Lib.hid (HVA.out.below (Below.drewN W6 n7)); have HRW := Lib.hid (HROW.out.drewN n7)
 clear HQU HO6 HPB HVA HROW hcl x0 els hsl0
 go_wp2_with fail
 go_loopw [78] (fun i wr => ∃ k : Nat, k ≤ n ∧ i = .int .i64 k ∧ One w wr (.slice (some ⟨b0, o0, none⟩) s.length c0) (.slice a1 d.length c1) ∧ PairAt wr P F f 0 ∧ RowI w.heap.size wr (.slice a7' sl c7) s.dropLast ∧
  RowI w.heap.size wr (.slice (some ⟨G, 0, none⟩) n n) ((List.range k).map (fun _ => un) ++ List.replicate (n - k) 0)) (fun i _ => n - (intOf i).toNat)
 case atStart => exact ⟨0, by omega, rfl, HO7.out, HPC.out, HVB.out, by simpa using HRW.out⟩
 case round =>
  obtain ⟨k, hk, rfl, hO, hpa, hv, hrw⟩ := hrel
  clear HO7 HPC HVB HRW
  by_cases hlt : k < n
  ·have hf := hrw.fr k
   have hcc := hrw.at (k := k) (by rw [rep_len _ (by omega)]; exact hlt)
   have hset := hrw.set k un
   rw [rep_step (fun _ => un) hlt] at hset
   have hkb : KB (fun g => g = G) wr (wr.setCell ⟨G, k, none⟩ (.int .i64 un)) := (KB.refl (fun g => g = G) wr).setCell (p := ⟨G, k, none⟩) (fun _ => rfl) _
   have HS := Lib.hid hset; have HOS := Lib.hid (hO.kb hkb (fun g e => by rw [e]; omega))
   have HPS : Hid (PairAt (wr.setCell ⟨G, k, none⟩ (.int .i64 un)) P F f 0) := Lib.hid ⟨block_other hpa.p (by show G ≠ P; omega) _, block_other hpa.f (fun e => by
    have h1 := hpa.f
    obtain ⟨cur, h2⟩ := own_typed hrw rfl
    rw [← show G = F from e, h2] at h1
    simp at h1) _⟩
   have HVS := Lib.hid (own_other hv (p := ⟨G, k, none⟩) (fun g e => by have := HVP.out g e; show g ≠ G; omega) (.int .i64 un))
   clear hrw hO hset hkb hpa hv
   go_wp2_with fail
   go_roundw
   case rel => exact ⟨k + 1, by omega, by go_num, HOS.out, HPS.out, HVS.out, HS.out⟩
   case measure => simp [intOf]; omega
  ·obtain rfl : k = n := by omega
   have hrep : (List.range k).map (fun _ => un) = List.replicate k un := by
    apply List.ext_getElem
    ·simp
    ·intro i h1 h2; simp
   rw [Nat.sub_self, List.replicate_zero, List.append_nil, hrep] at hrw
   have hap : Apart (.slice a7' sl c7) (.slice (some ⟨G, 0, none⟩) k k) := by
    cases hq : (Value.slice a7' sl c7).ownBlock with
    | none => exact .inl hq
    | some g => exact .inr (fun e => by
      have h1 := HVP.out g hq
      rw [hq] at e
      have h2 : g = G := by injection e
      omega)
   have hq := done_any wr w.heap.size P F f 0 hpa s.dropLast (List.replicate k un) _ _ hO.b.size hv hrw hap
   rw [show doneA 0 s.dropLast (List.replicate k un) = r from HRR.out] at hq
   have HQ := Lib.hid hq; have HR := Lib.hid hO.r; have HB := Lib.hid hO.b
   clear hq hO hrw hlt hpa hv hap hrep
   go_wp2_with fail
   refine (Hid.out HQ).mono ?_
   rintro e w9 ⟨⟨v9, u9, rfl, hv9, hu9, hap9⟩, hb9⟩
   have hR9 := block_below (Hid.out HR) hb9
   have HV9 := Lib.hid hv9; have HU9 := Lib.hid hu9; have HAP9 := Lib.hid hap9; have HR9 := Lib.hid hR9
   have HB9 := Lib.hid (bNext hb9 (Hid.out HB))
   obtain ⟨a9, c9, rfl, -, -⟩ := RowI.slice hv9
   obtain ⟨a8, c8, rfl, -, -⟩ := RowI.slice hu9
   have g0 := cell_of_row w9 _ 0 _ _ _ hR9; have g1 := cell_of_row w9 _ 1 _ _ _ hR9
   have z0 := frozen_of_row w9 _ 0 _ _ hR9; have z1 := frozen_of_row w9 _ 1 _ _ hR9
   clear hv9 hu9 hap9 hb9 hR9
   go_wp2_with fail
   exact fin_arr rfl rfl rfl HR9.out HV9.out HU9.out HAP9.out HB9.out (by omega)
end Go.Proofs.YtokghjnkfabgiaaGreatDoor
