import Derived.Test.YtmjkncmpanhgjaaPA1
import Derived.Lib.SmallJoins
import Derived.Test.YtmjkncmpanhgjaaPA20
import Derived.Test.YtmjkncmpanhgjaaPA16
namespace Go.Proofs.Ytmjkncmpanhgjaa
set_option maxRecDepth 100000
open Go.ChangeShapes Go.WideShapes Go.ChangeAt Go.RowKit Go.Joins
open Go.ChangeMaps (open_string shut_string)
set_option linter.unusedVariables false
set_option linter.unusedSimpArgs false

/-- v is a slice of numbers of kind k that reads as xs. -/
def SlI (k : IntKind) (w : World) (v : Value) (xs : List Int) : Prop :=
  ∃ a cap, v = .slice a xs.length cap ∧ xs.length ≤ cap ∧ cap ≤ maxLen ∧ IntsAt k w a xs ∧ ∀ x ∈ xs, (Lit.int k x).wf = true


section
variable {H : Type} {enc : TypeId × Value → H} {w : World} {base : Nat} {spare : Nat → Bool} {held : Bool}
theorem sl_of_trod {t e : TypeId} {k : IntKind} {n : Nat} {v : Value} {y : DataW H × List MemPlace} (ht : Try.prog.underlying t = some (.slice e)) (he : Try.prog.underlying e = some (.int k)) (hc : Try.prog.cellsOf e = 1)
    (h : DataW.trod enc Try.prog w base spare held n t [v] = some y) : ∃ xs, SlI k w v xs := by
  rcases open_ints ht he hc h with ⟨hcs, _⟩ | ⟨a, l, c, zs, hcs, _, hl, hm, hz, _, hcell, hwz⟩
  · simp at hcs
    subst hcs
    exact ⟨[], none, 0, rfl, Nat.le_refl _, Nat.zero_le _, IntsAt.nil _ _ _, by simp⟩
  · simp at hcs
    subst hcs
    have hlz : l ≤ zs.length := by rw [hz]; split <;> omega
    have hlen : (zs.take l).length = l := by simp [hlz]
    refine ⟨zs.take l, some a, c, by rw [hlen], by rw [hlen]; exact hl, hm, fun i hi => ?_, fun x hx => hwz x (List.mem_of_mem_take hx)⟩
    rw [hlen] at hi
    obtain ⟨b, off, spot⟩ := a
    have hc0 := hcell i (by omega)
    have hspot : spot = none := by simpa [Addr.add] using World.cell?_spot (hcell 0 (by omega))
    subst hspot
    have e : (⟨b, off, none⟩ : Addr).add i = ⟨b, off + i, none⟩ := by unfold Addr.add; split <;> simp_all
    rw [e] at hc0
    refine ⟨b, off, rfl, ?_⟩
    rw [hc0, List.getElem_take, List.getD_eq_getElem?_getD, List.getElem?_eq_getElem (by omega)]
    rfl
theorem sl_of_Trod {t e : TypeId} {k : IntKind} {v : Value} {d : DataW H} {p : List MemPlace} {r : Reach} {b0 : Nat} (ht : Try.prog.underlying t = some (.slice e)) (he : Try.prog.underlying e = some (.int k)) (hc : Try.prog.cellsOf e = 1)
    (hv : Value.okWide Try.prog w r b0 t v) (h : DataW.Trod enc Try.prog w base spare held t v d p) : ∃ xs, SlI k w v xs := by
  obtain ⟨a, l, c, rfl⟩ := okWide_slice ht hv
  obtain ⟨n, hn⟩ := h
  exact sl_of_trod ht he hc (by simpa [Value.cells] using hn)
end
end Go.Proofs.Ytmjkncmpanhgjaa

namespace Go.Proofs.Ytmjkncmpanhgjaa
set_option maxRecDepth 100000
open Go.ChangeShapes Go.WideShapes Go.ChangeAt Go.RowKit Go.Joins
set_option linter.unusedVariables false
set_option linter.unusedSimpArgs false

/-! Arguments of the laws; vector, number. -/
section
variable {H : Type} {enc : TypeId × Value → H} {w : World} {base : Nat} {spare : Nat → Bool} {held : Bool}
theorem in64_of_wf {x : Int} (h : (Lit.int .i64 x).wf = true) : In64 x := by
  unfold In64
  simpa [Lit.wf, IntKind.min, IntKind.max, IntKind.signed, IntKind.bits] using h
theorem sla_of_trod {n : Nat} {v : Value} {y : DataW H × List MemPlace} (h : DataW.trod enc Try.prog w base spare held n 22 [v] = some y) : ∃ xs, SlA w v xs := by
  rcases open_ints Try.underlying22 Try.underlying2 (by kernel_rfl) h with ⟨hcs, _⟩ | ⟨a, l, c, zs, hcs, _, hl, hm, hz, _, hcell, hwz⟩
  · simp at hcs
    subst hcs
    exact ⟨[], none, 0, rfl, Nat.le_refl _, Nat.zero_le _, fun _ => rfl, IntsAt.nil _ _ _, by simp⟩
  · simp at hcs
    subst hcs
    have hlz : l ≤ zs.length := by rw [hz]; split <;> omega
    have hlen : (zs.take l).length = l := by simp [hlz]
    refine ⟨zs.take l, some a, c, by rw [hlen], by rw [hlen]; exact hl, hm, (fun e => by cases e), fun i hi => ?_, fun x hx => in64_of_wf (hwz x (List.mem_of_mem_take hx))⟩
    rw [hlen] at hi
    obtain ⟨b, off, spot⟩ := a
    have hc0 := hcell i (by omega)
    have hspot : spot = none := by simpa [Addr.add] using World.cell?_spot (hcell 0 (by omega))
    subst hspot
    have e : (⟨b, off, none⟩ : Addr).add i = ⟨b, off + i, none⟩ := by unfold Addr.add; split <;> simp_all
    rw [e] at hc0
    refine ⟨b, off, rfl, ?_⟩
    rw [hc0, List.getElem_take, List.getD_eq_getElem?_getD, List.getElem?_eq_getElem (by omega)]
    rfl
theorem sla_of_Trod {v : Value} {d : DataW H} {p : List MemPlace} {r : Reach} {b0 : Nat} (hv : Value.okWide Try.prog w r b0 22 v) (h : DataW.Trod enc Try.prog w base spare held 22 v d p) : ∃ xs, SlA w v xs := by
  obtain ⟨a, l, c, rfl⟩ := okWide_slice Try.underlying22 hv
  obtain ⟨n, hn⟩ := h
  exact sla_of_trod (by simpa [Value.cells] using hn)
theorem open_arrA {v : Value} {d : DataW H} {p : List MemPlace} {r : Reach} {b0 : Nat} (hv : Value.okWide Try.prog w r b0 24 v) (h : DataW.Trod enc Try.prog w base spare held 24 v d p) :
    ∃ s ds va vb, v = .agg #[va, vb] ∧ SlA w va s ∧ SlA w vb ds := by
  obtain ⟨va, vb, ya, yb, n, rfl, -, -, ta, tb⟩ := open_agg2 Try.underlying24 (by kernel_rfl) (by kernel_rfl) hv h
  obtain ⟨xs, hx⟩ := sla_of_trod ta
  obtain ⟨ys, hy⟩ := sla_of_trod tb
  exact ⟨xs, ys, va, vb, rfl, hx, hy⟩
end
theorem In64.nat {n : Nat} (h : n ≤ 9223372036854775807) : In64 (n : Int) := by unfold In64; omega
theorem SlA.nil (w : World) : SlA w (.slice none 0 0) [] := ⟨none, 0, rfl, Nat.le_refl _, Nat.zero_le _, fun _ => rfl, IntsAt.nil _ _ _, by simp⟩
/-- an array of numbers by value -/
def ArrV (w : World) (v : Value) (s d : List Int) : Prop := ∃ va vb, v = .agg #[va, vb] ∧ SlA w va s ∧ SlA w vb d
theorem ArrV.below {w w' : World} {v : Value} {s d : List Int} (h : ArrV w v s d) (hb : Below w.heap.size w w') : ArrV w' v s d := by
  obtain ⟨va, vb, e, h1, h2⟩ := h
  exact ⟨va, vb, e, h1.below hb, h2.below hb⟩
/-- a number without sides -/
def NumV (B : Nat) (w : World) (v : Value) (n : Int) : Prop := ∃ u, v = .agg #[.slice none 0 0, u] ∧ RowI B w u [n]
theorem ret_one2 {fn : Func} {p : Tmp} (h : fn.results = #[.cell p 24]) (tmps : Array Value) (w : World) (R : Nat) (v u : Value)
    (hp : tmps.getD p undef = .pointer (some ⟨R, 0, none⟩)) (hg : w.heap[R]? = some (.cells #[v, u] 24 (0, 0))) : (results fn tmps).run Try.prog w = .ok (.agg #[v, u]) w := by
  have hp' : tmps[p]?.getD undef = .pointer (some ⟨R, 0, none⟩) := by simpa using hp
  have hl1 := run_loadVar_row (P := Try.prog) w R 24 24 #[v, u] (0, 0) _ hg Try.underlying24 rfl (by kernel_rfl)
  simp [results, h, hp', asAddr, hl1]
set_option maxHeartbeats 2000000 in
theorem number_any (w : World) (n : Int) :
    Calls Try.prog 26 #[.int .i64 n] w fun e w' => ∃ u, e = .returned (.agg #[.slice none 0 0, u]) ∧ RowI w.heap.size w' u [n] ∧ Below w.heap.size w w' := by
  go_enter Try.func26, Try.ntmps26
  go_upto_region 1 with fail
  refine gen_worldA (fun W => W.heap[w.heap.size]? = some (.cells #[.slice none 0 0, .slice none 0 0] 24 (0, 0)) ∧ Below w.heap.size w W) ⟨World.alloc_heap_new _ _, (Below.refl _ _).alloc (Nat.le_refl _) _⟩ ?_
  rintro W ⟨hR, hb⟩
  have y0 := cell_of_row W _ 0 _ _ _ hR; have y1 := cell_of_row W _ 1 _ _ _ hR
  have f0 := frozen_of_row W _ 0 _ _ hR; have f1 := frozen_of_row W _ 1 _ _ hR
  have hlw : w.heap.size < W.heap.size := (Array.getElem?_eq_some_iff.1 hR).1
  have HR := Lib.hid hR; have HB := Lib.hid hb
  clear hR hb
  go_wp2_with fail
  have h1 : (W.setCell ⟨w.heap.size, 0, none⟩ (.slice none 0 0)).heap[w.heap.size]? = some (.cells #[.slice none 0 0, .slice none 0 0] 24 (0, 0)) := heap_setCell_same W _ 0 _ _ _ HR.out
  have h2 : ((W.setCell ⟨w.heap.size, 0, none⟩ (.slice none 0 0)).setCell ⟨w.heap.size, 1, none⟩ (.slice (some ⟨W.heap.size, 0, none⟩) 1 1)).heap[w.heap.size]? = some (.cells #[.slice none 0 0, .slice (some ⟨W.heap.size, 0, none⟩) 1 1] 24 (0, 0)) := heap_setCell_same _ _ 1 _ _ _ h1
  have hb : Below w.heap.size w ((W.setCell ⟨w.heap.size, 0, none⟩ (.slice none 0 0)).setCell ⟨w.heap.size, 1, none⟩ (.slice (some ⟨W.heap.size, 0, none⟩) 1 1)) := put_below HB.out (by omega) _ _
  refine bodyPost_ret (v := .agg #[.slice none 0 0, .slice (some ⟨W.heap.size, 0, none⟩) 1 1]) (ret_one2 rfl _ _ w.heap.size _ _ rfl (block_alloc h2 _)) rfl ⟨_, rfl, ?_, hb.alloc hb.size _⟩
  have := row_one ((W.setCell ⟨w.heap.size, 0, none⟩ (.slice none 0 0)).setCell ⟨w.heap.size, 1, none⟩ (.slice (some ⟨W.heap.size, 0, none⟩) 1 1)) w.heap.size hb.size n
  simpa using this
set_option maxHeartbeats 2000000 in
theorem vector_any (w : World) (v : Value) (xs : List Int) (hf : ∃ a c, v = .slice a xs.length c) :
    Calls Try.prog 27 #[v] w fun e w' => ∃ u, e = .returned (.agg #[u, v]) ∧ RowI w.heap.size w' u [(xs.length : Int)] ∧ Below w.heap.size w w' := by
  obtain ⟨a, c, rfl⟩ := hf
  go_enter Try.func27, Try.ntmps27
  go_upto_region 1 with fail
  refine gen_worldA (fun W => W.heap[w.heap.size]? = some (.cells #[.slice none 0 0, .slice none 0 0] 24 (0, 0)) ∧ Below w.heap.size w W) ⟨World.alloc_heap_new _ _, (Below.refl _ _).alloc (Nat.le_refl _) _⟩ ?_
  rintro W ⟨hR, hb⟩
  have y0 := cell_of_row W _ 0 _ _ _ hR; have y1 := cell_of_row W _ 1 _ _ _ hR
  have f0 := frozen_of_row W _ 0 _ _ hR; have f1 := frozen_of_row W _ 1 _ _ hR
  have hlw : w.heap.size < W.heap.size := (Array.getElem?_eq_some_iff.1 hR).1
  have HR := Lib.hid hR; have HB := Lib.hid hb
  obtain ⟨n, hn⟩ : ∃ n, xs.length = n := ⟨_, rfl⟩
  rw [hn]
  have HN := Lib.hid hn
  clear hR hb hn
  go_wp2_with fail
  have h1 : (W.setCell ⟨w.heap.size, 0, none⟩ (.slice (some ⟨W.heap.size, 0, none⟩) 1 1)).heap[w.heap.size]? = some (.cells #[.slice (some ⟨W.heap.size, 0, none⟩) 1 1, .slice none 0 0] 24 (0, 0)) := heap_setCell_same W _ 0 _ _ _ HR.out
  have h2 : ((W.setCell ⟨w.heap.size, 0, none⟩ (.slice (some ⟨W.heap.size, 0, none⟩) 1 1)).setCell ⟨w.heap.size, 1, none⟩ (.slice a n c)).heap[w.heap.size]? = some (.cells #[.slice (some ⟨W.heap.size, 0, none⟩) 1 1, .slice a n c] 24 (0, 0)) := heap_setCell_same _ _ 1 _ _ _ h1
  have hb : Below w.heap.size w ((W.setCell ⟨w.heap.size, 0, none⟩ (.slice (some ⟨W.heap.size, 0, none⟩) 1 1)).setCell ⟨w.heap.size, 1, none⟩ (.slice a n c)) := put_below HB.out (by omega) _ _
  refine bodyPost_ret (v := .agg #[.slice (some ⟨W.heap.size, 0, none⟩) 1 1, .slice a n c]) (ret_one2 rfl _ _ w.heap.size _ _ rfl (block_alloc h2 _)) rfl ⟨_, by rw [HN.out], ?_, hb.alloc hb.size _⟩
  have := row_one ((W.setCell ⟨w.heap.size, 0, none⟩ (.slice (some ⟨W.heap.size, 0, none⟩) 1 1)).setCell ⟨w.heap.size, 1, none⟩ (.slice a n c)) w.heap.size hb.size (n : Int)
  rw [HN.out]
  simpa using this
end Go.Proofs.Ytmjkncmpanhgjaa

namespace Go.Proofs.Ytmjkncmpanhgjaa
set_option maxRecDepth 100000
open Go.RowKit
set_option linter.unusedVariables false
set_option linter.unusedSimpArgs false

/-! windrowlaw07.shown. -/
/-- an array in a box -/
structure Kept (W : World) (b : Nat) (v u : Value) (s d : List Int) : Prop where
  bx : W.heap[b]? = some (.cells #[v, u] 24 (0, 0))
  sv : SlA W v s
  su : SlA W u d
theorem Kept.next {W W' : World} {b : Nat} {v u : Value} {s d : List Int} (h : Kept W b v u s d) (hb : Below W.heap.size W W') : Kept W' b v u s d := ⟨block_below h.bx hb, h.sv.below hb, h.su.below hb⟩
theorem Kept.c0 {W : World} {b : Nat} {v u : Value} {s d : List Int} (h : Kept W b v u s d) : W.cell? ⟨b, 0, none⟩ = some v := cell_of_row W b 0 _ _ _ h.bx
theorem Kept.c1 {W : World} {b : Nat} {v u : Value} {s d : List Int} (h : Kept W b v u s d) : W.cell? ⟨b, 1, none⟩ = some u := cell_of_row W b 1 _ _ _ h.bx
theorem box_below (W : World) (v u : Value) : Below W.heap.size W (((W.alloc (.cells #[.slice none 0 0, .slice none 0 0] 24)).setCell ⟨W.heap.size, 0, none⟩ v).setCell ⟨W.heap.size, 1, none⟩ u) :=
  put_below ((Below.refl _ _).alloc (Nat.le_refl _) _) (Nat.le_refl _) v u
theorem Kept.mk0 {W : World} {v u : Value} {s d : List Int} (hv : SlA W v s) (hu : SlA W u d) : Kept (((W.alloc (.cells #[.slice none 0 0, .slice none 0 0] 24)).setCell ⟨W.heap.size, 0, none⟩ v).setCell ⟨W.heap.size, 1, none⟩ u) W.heap.size v u s d := by
  have h1 := heap_setCell_same _ W.heap.size 0 _ _ v (World.alloc_heap_new W (.cells #[.slice none 0 0, .slice none 0 0] 24))
  have h2 := heap_setCell_same _ W.heap.size 1 _ _ u h1
  exact ⟨h2, hv.below (box_below W v u), hu.below (box_below W v u)⟩
theorem lit_row (W : World) (xs : List Int) (n G : Nat) (hn : xs.length = n) (hG : W.heap.size = G) (hl : n ≤ 65536) : RowI G (W.alloc (.cells (xs.map (Value.int .i64)).toArray 2)) (.slice (some ⟨G, 0, none⟩) n n) xs := by
  subst hn hG
  have := World.ownsRow_lit (e := 2) (size := 1) (base := W.heap.size) W (xs.map (Value.int .i64)).toArray xs.length (Nat.le_refl _) (by unfold maxLen; omega) (by simp)
  unfold RowI
  simpa using this
theorem same_sl (w : World) (v u v2 u2 : Value) (s d t e : List Int) (hs : SlA w v s) (hd : SlA w u d) (ht : SlA w v2 t) (he : SlA w u2 e) :
    Calls Try.prog 16 #[.agg #[v, u], .agg #[v2, u2]] w fun x w' => x = .returned (.bool (ints s t && ints d e)) ∧ Below w.heap.size w w' := by
  obtain ⟨a0, c0, rfl, h01, h02, -, h04, -⟩ := hs
  obtain ⟨a1, c1, rfl, h11, h12, -, h14, -⟩ := hd
  obtain ⟨a2, c2, rfl, h21, h22, -, h24, -⟩ := ht
  obtain ⟨a3, c3, rfl, h31, h32, -, h34, -⟩ := he
  exact same_any w a0 a1 a2 a3 c0 c1 c2 c3 s d t e (Nat.le_trans h01 h02) (Nat.le_trans h11 h12) (Nat.le_trans h21 h22) (Nat.le_trans h31 h32) h04 h14 h24 h34
theorem in64_all {xs : List Int} (h : xs.all (fun x => decide (-9223372036854775808 ≤ x) && decide (x ≤ 9223372036854775807)) = true) : ∀ x ∈ xs, In64 x := fun x hx => by
  have := List.all_eq_true.1 h x hx
  simp at this
  exact this
/-- an array made of a literal -/
theorem SlA.vec {W : World} {u : Value} {n : Nat} (h : RowI W.heap.size W u [(n : Int)]) (hn : n ≤ 9223372036854775807) : SlA W u [(n : Int)] := h.sl (fun x hx => by rw [List.mem_singleton.1 hx]; exact In64.nat hn)
theorem vec_lit (W : World) (xs : List Int) (n G : Nat) (m : Int) (cs : Array Value) (hcs : cs = (xs.map (Value.int .i64)).toArray) (hn : xs.length = n) (hm : m = (n : Int)) (hG : W.heap.size = G) (hl : n ≤ 65536)
    (hx : xs.all (fun x => decide (-9223372036854775808 ≤ x) && decide (x ≤ 9223372036854775807)) = true) :
    Calls Try.prog 27 #[.slice (some ⟨G, 0, none⟩) n n] (W.alloc (.cells cs 2)) fun e w' => ∃ a c, e = .returned (.agg #[.slice a 1 c, .slice (some ⟨G, 0, none⟩) n n]) ∧ SlA w' (.slice a 1 c) [m] ∧ SlA w' (.slice (some ⟨G, 0, none⟩) n n) xs ∧ Below W.heap.size W w' := by
  subst hcs hm
  have h1 := lit_row W xs n G hn hG hl
  have hv := vector_any (W.alloc (.cells (xs.map (Value.int .i64)).toArray 2)) (.slice (some ⟨G, 0, none⟩) n n) xs ⟨_, _, by rw [hn]⟩
  rw [hn] at hv
  refine hv.mono ?_
  rintro e w' ⟨u, rfl, hu, hb⟩
  obtain ⟨a, c, rfl, -, -⟩ := hu.slice
  exact ⟨a, c, rfl, (hu.sl (fun x hx => by rw [List.mem_singleton.1 hx]; exact In64.nat (by omega))), (h1.sl (in64_all hx)).below hb, bAfter ((Below.refl _ _).alloc (Nat.le_refl _) _) (by simp) hb⟩
theorem num_lit (W : World) (n : Int) (hn : In64 n) :
    Calls Try.prog 26 #[.int .i64 n] W fun e w' => ∃ a c, e = .returned (.agg #[.slice none 0 0, .slice a 1 c]) ∧ SlA w' (.slice a 1 c) [n] ∧ Below W.heap.size W w' := by
  refine (number_any W n).mono ?_
  rintro e w' ⟨u, rfl, hu, hb⟩
  obtain ⟨a, c, rfl, -, -⟩ := hu.slice
  exact ⟨a, c, rfl, hu.sl (fun x hx => by rw [List.mem_singleton.1 hx]; exact hn), hb⟩
theorem ret_forms {B n m : Nat} {r : ArrE} {e : Ending} {w : World} (h : RetArr B r e w) (hn : r.1.1.length = n) (hm : r.1.2.length = m) (h1 : ∀ x ∈ r.1.1, In64 x) (h2 : ∀ x ∈ r.1.2, In64 x) :
    ∃ a c a' c', e = .returned (.tuple #[.agg #[.slice a n c, .slice a' m c'], .int .i64 r.2]) ∧ SlA w (.slice a n c) r.1.1 ∧ SlA w (.slice a' m c') r.1.2 := by
  obtain ⟨v, u, rfl, hv, hu, -⟩ := h
  subst hn hm
  obtain ⟨a, c, rfl, -, -⟩ := hv.slice
  obtain ⟨a', c', rfl, -, -⟩ := hu.slice
  exact ⟨a, c, a', c', rfl, hv.sl h1, hu.sl h2⟩
theorem shx1 : foldA 2 [3] [10, 1, 2] = okA [] [7] := by decide +kernel
theorem shx2 : scanA 2 [3] [10, 1, 2] = okA [3] [10, 9, 7] := by decide +kernel
theorem shx3 : dyadA 38 [] [-2] [3] [1, 2, 3] = okA [2] [2, 3] := by decide +kernel
theorem shx4 : outerA 3 [2] [1, 2] [2] [3, 4] = okA [2, 2] [3, 4, 6, 8] := by decide +kernel
theorem shx5 : dyadA 2 [2] [1, 2] [3] [1, 2, 3] = noA 72 := by decide +kernel
theorem shx6 : monadA 32 [] [3] = okA [3] [0, 1, 2] := by decide +kernel
end Go.Proofs.Ytmjkncmpanhgjaa

namespace Go
section
variable {P : Program} {ops : Array Oper} {Q : Exit → Act → World → Prop} {md : Region.Mode} {S : World → Prop} {z : Nat}
/-- The one that may come up comes up: its guard lets it. -/
theorem wpAnyZ_oneG {i : Nat} {o : Oper} {fuel : Nat} {listed : Array Bool} {a : Act} {w : World} (hr : Region.ready md ops listed = [i]) (ho : ops[i]? = some o) (hg : Region.wanted o (yielded ops a.tmps) = true)
    (h : ∀ K : Act → World → Prop, Shut (∀ a w, (z ≤ i ∨ S w) → wpAnyZ P md ops Q S z fuel (listed.setIfInBounds i true) a w → K a w) → o.wp P a w K Q) : wpAnyZ P md ops Q S z (fuel + 1) listed a w := by
  refine ⟨fun h0 => (by rw [hr] at h0; cases h0), fun j hj => ?_⟩
  rw [hr] at hj
  obtain rfl : j = i := by simpa using hj
  unfold wpOp
  rw [ho]
  simp only [hg, if_true]
  exact .inl (h _ (fun a w h1 h2 => ⟨h1, h2⟩))
theorem wpAnyZ_twoG {i j : Nat} {o p : Oper} {fuel : Nat} {listed : Array Bool} {a : Act} {w : World} (hr : Region.ready md ops listed = [i, j]) (ho : ops[i]? = some o) (hp : ops[j]? = some p) (hg : Region.wanted o (yielded ops a.tmps) = true) (hk : Region.wanted p (yielded ops a.tmps) = true)
    (h : ∀ K : Act → World → Prop, Shut (∀ a w, (z ≤ i ∨ S w) → wpAnyZ P md ops Q S z fuel (listed.setIfInBounds i true) a w → K a w) → o.wp P a w K Q)
    (h2 : ∀ K : Act → World → Prop, Shut (∀ a w, (z ≤ j ∨ S w) → wpAnyZ P md ops Q S z fuel (listed.setIfInBounds j true) a w → K a w) → p.wp P a w K Q) : wpAnyZ P md ops Q S z (fuel + 1) listed a w := by
  refine ⟨fun h0 => (by rw [hr] at h0; cases h0), fun k hk' => ?_⟩
  rw [hr] at hk'
  have hk2 : k = i ∨ k = j := by simpa using hk'
  rcases hk2 with rfl | rfl
  · unfold wpOp
    rw [ho]
    simp only [hg, if_true]
    exact .inl (h _ (fun a w h1 h2 => ⟨h1, h2⟩))
  · unfold wpOp
    rw [hp]
    simp only [hk, if_true]
    exact .inl (h2 _ (fun a w h1 h2 => ⟨h1, h2⟩))
end
end Go
namespace Go.Proofs.Ytmjkncmpanhgjaa
set_option maxRecDepth 100000
open Go.RowKit
set_option linter.unusedVariables false
set_option linter.unusedSimpArgs false

/-! windrowlaw07.shown. -/
theorem Kept.new {W : World} {v u : Value} {s d : List Int} {b : Nat} (hb : W.heap.size = b) (hv : SlA W v s) (hu : SlA W u d) : Kept (W.alloc (.cells #[v, u] 24)) b v u s d := by
  subst hb
  have h1 : Below W.heap.size W (W.alloc (.cells #[v, u] 24)) := (Below.refl _ _).alloc (Nat.le_refl _) _
  exact ⟨World.alloc_heap_new _ _, hv.below h1, hu.below h1⟩

theorem same_is {w : World} {v u v2 u2 : Value} {s d : List Int} (hs : SlA w v s) (hd : SlA w u d) (ht : SlA w v2 s) (he : SlA w u2 d) :
    Calls Try.prog 16 #[.agg #[v, u], .agg #[v2, u2]] w fun x w' => x = .returned (.bool true) ∧ Below w.heap.size w w' := by
  have := same_sl w v u v2 u2 s d s d hs hd ht he
  have e : (ints s s && ints d d) = true := by unfold ints; simp
  rwa [e] at this
theorem foldx (W : World) (v u : Value) (hs : SlA W v [3]) (hd : SlA W u [10, 1, 2]) : Calls Try.prog 19 #[.int .u8 2, .agg #[v, u]] W fun e w' => (∃ a c a' c', e = .returned (.tuple #[.agg #[.slice a 0 c, .slice a' 1 c'], .int .i64 0]) ∧ SlA w' (.slice a 0 c) [] ∧ SlA w' (.slice a' 1 c') [7]) ∧ Below W.heap.size W w' := by
  refine (pf_any W 2 v u [3] [10, 1, 2] hs hd).mono fun e w' ⟨h1, h2⟩ => ⟨?_, h2⟩
  rw [shx1] at h1
  exact ret_forms h1 rfl rfl (in64_all rfl) (in64_all rfl)
theorem scanx (W : World) (v u : Value) (hs : SlA W v [3]) (hd : SlA W u [10, 1, 2]) : Calls Try.prog 21 #[.int .u8 2, .agg #[v, u]] W fun e w' => (∃ a c a' c', e = .returned (.tuple #[.agg #[.slice a 1 c, .slice a' 3 c'], .int .i64 0]) ∧ SlA w' (.slice a 1 c) [3] ∧ SlA w' (.slice a' 3 c') [10, 9, 7]) ∧ Below W.heap.size W w' := by
  refine (ps_any W 2 v u [3] [10, 1, 2] hs hd).mono fun e w' ⟨h1, h2⟩ => ⟨?_, h2⟩
  rw [shx2] at h1
  exact ret_forms h1 rfl rfl (in64_all rfl) (in64_all rfl)
theorem takex (W : World) (v u v2 u2 : Value) (hs : SlA W v []) (hd : SlA W u [-2]) (ht : SlA W v2 [3]) (he : SlA W u2 [1, 2, 3]) : Calls Try.prog 17 #[.int .u8 38, .agg #[v, u], .agg #[v2, u2]] W fun e w' => (∃ a c a' c', e = .returned (.tuple #[.agg #[.slice a 1 c, .slice a' 2 c'], .int .i64 0]) ∧ SlA w' (.slice a 1 c) [2] ∧ SlA w' (.slice a' 2 c') [2, 3]) ∧ Below W.heap.size W w' := by
  refine (pd_any W 38 v u v2 u2 [] [-2] [3] [1, 2, 3] hs hd ht he).mono fun e w' ⟨h1, h2⟩ => ⟨?_, h2⟩
  rw [shx3] at h1
  exact ret_forms h1 rfl rfl (in64_all rfl) (in64_all rfl)
theorem outx (W : World) (v u v2 u2 : Value) (hs : SlA W v [2]) (hd : SlA W u [1, 2]) (ht : SlA W v2 [2]) (he : SlA W u2 [3, 4]) : Calls Try.prog 23 #[.int .u8 3, .agg #[v, u], .agg #[v2, u2]] W fun e w' => (∃ a c a' c', e = .returned (.tuple #[.agg #[.slice a 2 c, .slice a' 4 c'], .int .i64 0]) ∧ SlA w' (.slice a 2 c) [2, 2] ∧ SlA w' (.slice a' 4 c') [3, 4, 6, 8]) ∧ Below W.heap.size W w' := by
  refine (po_any W 3 v u v2 u2 [2] [1, 2] [2] [3, 4] hs hd ht he).mono fun e w' ⟨h1, h2⟩ => ⟨?_, h2⟩
  rw [shx4] at h1
  exact ret_forms h1 rfl rfl (in64_all rfl) (in64_all rfl)
theorem nox (W : World) (v u v2 u2 : Value) (hs : SlA W v [2]) (hd : SlA W u [1, 2]) (ht : SlA W v2 [3]) (he : SlA W u2 [1, 2, 3]) : Calls Try.prog 17 #[.int .u8 2, .agg #[v, u], .agg #[v2, u2]] W fun e w' => (∃ a c a' c', e = .returned (.tuple #[.agg #[.slice a 0 c, .slice a' 0 c'], .int .i64 72]) ∧ SlA w' (.slice a 0 c) [] ∧ SlA w' (.slice a' 0 c') []) ∧ Below W.heap.size W w' := by
  refine (pd_any W 2 v u v2 u2 [2] [1, 2] [3] [1, 2, 3] hs hd ht he).mono fun e w' ⟨h1, h2⟩ => ⟨?_, h2⟩
  rw [shx5] at h1
  exact ret_forms h1 rfl rfl (in64_all rfl) (in64_all rfl)
theorem iotax (W : World) (v u : Value) (hs : SlA W v []) (hd : SlA W u [3]) : Calls Try.prog 14 #[.int .u8 32, .agg #[v, u]] W fun e w' => (∃ a c a' c', e = .returned (.tuple #[.agg #[.slice a 1 c, .slice a' 3 c'], .int .i64 0]) ∧ SlA w' (.slice a 1 c) [3] ∧ SlA w' (.slice a' 3 c') [0, 1, 2]) ∧ Below W.heap.size W w' := by
  refine (pm_any W 32 v u [] [3] hs hd).mono fun e w' ⟨h1, h2⟩ => ⟨?_, h2⟩
  rw [shx6] at h1
  exact ret_forms h1 rfl rfl (in64_all rfl) (in64_all rfl)
set_option maxHeartbeats 8000000 in
theorem shown_any (w : World) : Calls Try.prog 13 #[] w fun e w' => e = .returned (.bool true) ∧ Below w.heap.size w w' := by
  go_enter Try.func13, Try.ntmps13
  go_upto_region 1 with fail
  refine gen_worldA (fun W => Below w.heap.size w W) (Below.refl _ _) ?_
  rintro W0 hb
  have HB := Lib.hid hb
  clear hb
  go_wp2_with fail
  refine (vec_lit W0 [10, 1, 2] 3 _ 3 _ rfl rfl rfl rfl (by decide) rfl).mono ?_
  rintro e V1 ⟨a1, c1, rfl, hs1, hd1, hb1⟩
  have HS1 := Lib.hid hs1; have HD1 := Lib.hid hd1
  clear hs1 hd1
  have HB := Lib.hid (bNext hb1 HB.out)
  clear hb1
  have HQ := Lib.hid (foldx V1 _ _ HS1.out HD1.out)
  clear HS1 HD1
  go_wp2_with fail
  refine HQ.out.mono ?_
  rintro e X0 ⟨⟨p0, q0, r0, t0, rfl, hs, hd⟩, hb⟩
  obtain ⟨b0, hb0⟩ : ∃ b, X0.heap.size = b := ⟨_, rfl⟩
  have hba : Below X0.heap.size X0 (X0.alloc (.cells #[.slice p0 0 q0, .slice r0 1 t0] 24)) := (Below.refl _ _).alloc (Nat.le_refl _) _
  have HB := Lib.hid (bNext hba (bNext hb HB.out))
  have K0 := Lib.hid (Kept.new hb0 hs hd)
  clear HQ hs hd hb hba
  go_upto_region 2 with fail
  refine gen_worldA (fun W => Below w.heap.size w W ∧ Kept W b0 (.slice p0 0 q0) (.slice r0 1 t0) [] [7]) ⟨HB.out, K0.out⟩ ?_
  rintro W1 ⟨hb, k0⟩
  clear HB K0 hb0
  have HB := Lib.hid hb
  have K0 := Lib.hid k0
  clear hb k0
  go_wp2_with fail
  refine (vec_lit W1 [10, 1, 2] 3 _ 3 _ rfl rfl rfl rfl (by decide) rfl).mono ?_
  rintro e V2 ⟨a2, c2, rfl, hs2, hd2, hb2⟩
  have HS2 := Lib.hid hs2; have HD2 := Lib.hid hd2
  clear hs2 hd2
  have K0 := Lib.hid (K0.out.next hb2)
  have HB := Lib.hid (bNext hb2 HB.out)
  clear hb2
  have HQ := Lib.hid (scanx V2 _ _ HS2.out HD2.out)
  clear HS2 HD2
  go_wp2_with fail
  refine HQ.out.mono ?_
  rintro e X1 ⟨⟨p1, q1, r1, t1, rfl, hs, hd⟩, hb⟩
  obtain ⟨b1, hb1⟩ : ∃ b, X1.heap.size = b := ⟨_, rfl⟩
  have K0 := Lib.hid (K0.out.next hb)
  have hba : Below X1.heap.size X1 (X1.alloc (.cells #[.slice p1 1 q1, .slice r1 3 t1] 24)) := (Below.refl _ _).alloc (Nat.le_refl _) _
  have HB := Lib.hid (bNext hba (bNext hb HB.out))
  have K0 := Lib.hid (K0.out.next hba)
  have K1 := Lib.hid (Kept.new hb1 hs hd)
  clear HQ hs hd hb hba
  go_upto_region 3 with fail
  refine gen_worldA (fun W => Below w.heap.size w W ∧ Kept W b0 (.slice p0 0 q0) (.slice r0 1 t0) [] [7] ∧ Kept W b1 (.slice p1 1 q1) (.slice r1 3 t1) [3] [10, 9, 7]) ⟨HB.out, K0.out, K1.out⟩ ?_
  rintro W2 ⟨hb, k0, k1⟩
  clear HB K0 K1 hb1
  have HB := Lib.hid hb
  have K0 := Lib.hid k0
  have K1 := Lib.hid k1
  clear hb k0 k1
  go_wp2_with fail
  refine (num_lit W2 (-2) (by unfold In64; omega)).mono ?_
  rintro e V3 ⟨a3, c3, rfl, hd3, hb3⟩
  have HD3 := Lib.hid hd3; have HS3 := Lib.hid (SlA.nil V3)
  clear hd3
  have K0 := Lib.hid (K0.out.next hb3)
  have K1 := Lib.hid (K1.out.next hb3)
  have HB := Lib.hid (bNext hb3 HB.out)
  clear hb3
  go_wp2_with fail
  refine (vec_lit V3 [1, 2, 3] 3 _ 3 _ rfl rfl rfl rfl (by decide) rfl).mono ?_
  rintro e V4 ⟨a4, c4, rfl, hs4, hd4, hb4⟩
  have HS4 := Lib.hid hs4; have HD4 := Lib.hid hd4
  clear hs4 hd4
  have HS3 := Lib.hid (HS3.out.below hb4); have HD3 := Lib.hid (HD3.out.below hb4)
  have K0 := Lib.hid (K0.out.next hb4)
  have K1 := Lib.hid (K1.out.next hb4)
  have HB := Lib.hid (bNext hb4 HB.out)
  clear hb4
  have HQ := Lib.hid (takex V4 _ _ _ _ HS3.out HD3.out HS4.out HD4.out)
  clear HS3 HD3 HS4 HD4
  go_wp2_with fail
  refine HQ.out.mono ?_
  rintro e X2 ⟨⟨p2, q2, r2, t2, rfl, hs, hd⟩, hb⟩
  obtain ⟨b2, hb2⟩ : ∃ b, X2.heap.size = b := ⟨_, rfl⟩
  have K0 := Lib.hid (K0.out.next hb)
  have K1 := Lib.hid (K1.out.next hb)
  have hba : Below X2.heap.size X2 (X2.alloc (.cells #[.slice p2 1 q2, .slice r2 2 t2] 24)) := (Below.refl _ _).alloc (Nat.le_refl _) _
  have HB := Lib.hid (bNext hba (bNext hb HB.out))
  have K0 := Lib.hid (K0.out.next hba)
  have K1 := Lib.hid (K1.out.next hba)
  have K2 := Lib.hid (Kept.new hb2 hs hd)
  clear HQ hs hd hb hba
  go_upto_region 4 with fail
  refine gen_worldA (fun W => Below w.heap.size w W ∧ Kept W b0 (.slice p0 0 q0) (.slice r0 1 t0) [] [7] ∧ Kept W b1 (.slice p1 1 q1) (.slice r1 3 t1) [3] [10, 9, 7] ∧ Kept W b2 (.slice p2 1 q2) (.slice r2 2 t2) [2] [2, 3]) ⟨HB.out, K0.out, K1.out, K2.out⟩ ?_
  rintro W3 ⟨hb, k0, k1, k2⟩
  clear HB K0 K1 K2 hb2
  have HB := Lib.hid hb
  have K0 := Lib.hid k0
  have K1 := Lib.hid k1
  have K2 := Lib.hid k2
  clear hb k0 k1 k2
  go_wp2_with fail
  refine (vec_lit W3 [1, 2] 2 _ 2 _ rfl rfl rfl rfl (by decide) rfl).mono ?_
  rintro e V5 ⟨a5, c5, rfl, hs5, hd5, hb5⟩
  have HS5 := Lib.hid hs5; have HD5 := Lib.hid hd5
  clear hs5 hd5
  have K0 := Lib.hid (K0.out.next hb5)
  have K1 := Lib.hid (K1.out.next hb5)
  have K2 := Lib.hid (K2.out.next hb5)
  have HB := Lib.hid (bNext hb5 HB.out)
  clear hb5
  go_wp2_with fail
  refine (vec_lit V5 [3, 4] 2 _ 2 _ rfl rfl rfl rfl (by decide) rfl).mono ?_
  rintro e V6 ⟨a6, c6, rfl, hs6, hd6, hb6⟩
  have HS6 := Lib.hid hs6; have HD6 := Lib.hid hd6
  clear hs6 hd6
  have HS5 := Lib.hid (HS5.out.below hb6); have HD5 := Lib.hid (HD5.out.below hb6)
  have K0 := Lib.hid (K0.out.next hb6)
  have K1 := Lib.hid (K1.out.next hb6)
  have K2 := Lib.hid (K2.out.next hb6)
  have HB := Lib.hid (bNext hb6 HB.out)
  clear hb6
  have HQ := Lib.hid (outx V6 _ _ _ _ HS5.out HD5.out HS6.out HD6.out)
  clear HS5 HD5 HS6 HD6
  go_wp2_with fail
  refine HQ.out.mono ?_
  rintro e X3 ⟨⟨p3, q3, r3, t3, rfl, hs, hd⟩, hb⟩
  obtain ⟨b3, hb3⟩ : ∃ b, X3.heap.size = b := ⟨_, rfl⟩
  have K0 := Lib.hid (K0.out.next hb)
  have K1 := Lib.hid (K1.out.next hb)
  have K2 := Lib.hid (K2.out.next hb)
  have hba : Below X3.heap.size X3 (X3.alloc (.cells #[.slice p3 2 q3, .slice r3 4 t3] 24)) := (Below.refl _ _).alloc (Nat.le_refl _) _
  have HB := Lib.hid (bNext hba (bNext hb HB.out))
  have K0 := Lib.hid (K0.out.next hba)
  have K1 := Lib.hid (K1.out.next hba)
  have K2 := Lib.hid (K2.out.next hba)
  have K3 := Lib.hid (Kept.new hb3 hs hd)
  clear HQ hs hd hb hba
  go_upto_region 5 with fail
  refine gen_worldA (fun W => Below w.heap.size w W ∧ Kept W b0 (.slice p0 0 q0) (.slice r0 1 t0) [] [7] ∧ Kept W b1 (.slice p1 1 q1) (.slice r1 3 t1) [3] [10, 9, 7] ∧ Kept W b2 (.slice p2 1 q2) (.slice r2 2 t2) [2] [2, 3] ∧ Kept W b3 (.slice p3 2 q3) (.slice r3 4 t3) [2, 2] [3, 4, 6, 8]) ⟨HB.out, K0.out, K1.out, K2.out, K3.out⟩ ?_
  rintro W4 ⟨hb, k0, k1, k2, k3⟩
  clear HB K0 K1 K2 K3 hb3
  have HB := Lib.hid hb
  have K0 := Lib.hid k0
  have K1 := Lib.hid k1
  have K2 := Lib.hid k2
  have K3 := Lib.hid k3
  clear hb k0 k1 k2 k3
  go_wp2_with fail
  refine (vec_lit W4 [1, 2] 2 _ 2 _ rfl rfl rfl rfl (by decide) rfl).mono ?_
  rintro e V7 ⟨a7, c7, rfl, hs7, hd7, hb7⟩
  have HS7 := Lib.hid hs7; have HD7 := Lib.hid hd7
  clear hs7 hd7
  have K0 := Lib.hid (K0.out.next hb7)
  have K1 := Lib.hid (K1.out.next hb7)
  have K2 := Lib.hid (K2.out.next hb7)
  have K3 := Lib.hid (K3.out.next hb7)
  have HB := Lib.hid (bNext hb7 HB.out)
  clear hb7
  go_wp2_with fail
  refine (vec_lit V7 [1, 2, 3] 3 _ 3 _ rfl rfl rfl rfl (by decide) rfl).mono ?_
  rintro e V8 ⟨a8, c8, rfl, hs8, hd8, hb8⟩
  have HS8 := Lib.hid hs8; have HD8 := Lib.hid hd8
  clear hs8 hd8
  have HS7 := Lib.hid (HS7.out.below hb8); have HD7 := Lib.hid (HD7.out.below hb8)
  have K0 := Lib.hid (K0.out.next hb8)
  have K1 := Lib.hid (K1.out.next hb8)
  have K2 := Lib.hid (K2.out.next hb8)
  have K3 := Lib.hid (K3.out.next hb8)
  have HB := Lib.hid (bNext hb8 HB.out)
  clear hb8
  have HQ := Lib.hid (nox V8 _ _ _ _ HS7.out HD7.out HS8.out HD8.out)
  clear HS7 HD7 HS8 HD8
  go_wp2_with fail
  refine HQ.out.mono ?_
  rintro e X4 ⟨⟨p4, q4, r4, t4, rfl, hs, hd⟩, hb⟩
  obtain ⟨b4, hb4⟩ : ∃ b, X4.heap.size = b := ⟨_, rfl⟩
  have K0 := Lib.hid (K0.out.next hb)
  have K1 := Lib.hid (K1.out.next hb)
  have K2 := Lib.hid (K2.out.next hb)
  have K3 := Lib.hid (K3.out.next hb)
  have hba : Below X4.heap.size X4 (X4.alloc (.cells #[.slice p4 0 q4, .slice r4 0 t4] 24)) := (Below.refl _ _).alloc (Nat.le_refl _) _
  have HB := Lib.hid (bNext hba (bNext hb HB.out))
  have K0 := Lib.hid (K0.out.next hba)
  have K1 := Lib.hid (K1.out.next hba)
  have K2 := Lib.hid (K2.out.next hba)
  have K3 := Lib.hid (K3.out.next hba)
  have K4 := Lib.hid (Kept.new hb4 hs hd)
  clear HQ hs hd hb hba
  go_upto_region 6 with fail
  refine gen_worldA (fun W => Below w.heap.size w W ∧ Kept W b0 (.slice p0 0 q0) (.slice r0 1 t0) [] [7] ∧ Kept W b1 (.slice p1 1 q1) (.slice r1 3 t1) [3] [10, 9, 7] ∧ Kept W b2 (.slice p2 1 q2) (.slice r2 2 t2) [2] [2, 3] ∧ Kept W b3 (.slice p3 2 q3) (.slice r3 4 t3) [2, 2] [3, 4, 6, 8] ∧ Kept W b4 (.slice p4 0 q4) (.slice r4 0 t4) [] []) ⟨HB.out, K0.out, K1.out, K2.out, K3.out, K4.out⟩ ?_
  rintro W5 ⟨hb, k0, k1, k2, k3, k4⟩
  clear HB K0 K1 K2 K3 K4 hb4
  have HB := Lib.hid hb
  have K0 := Lib.hid k0
  have K1 := Lib.hid k1
  have K2 := Lib.hid k2
  have K3 := Lib.hid k3
  have K4 := Lib.hid k4
  clear hb k0 k1 k2 k3 k4
  go_wp2_with fail
  refine (num_lit W5 (3) (by unfold In64; omega)).mono ?_
  rintro e V9 ⟨a9, c9, rfl, hd9, hb9⟩
  have HD9 := Lib.hid hd9; have HS9 := Lib.hid (SlA.nil V9)
  clear hd9
  have K0 := Lib.hid (K0.out.next hb9)
  have K1 := Lib.hid (K1.out.next hb9)
  have K2 := Lib.hid (K2.out.next hb9)
  have K3 := Lib.hid (K3.out.next hb9)
  have K4 := Lib.hid (K4.out.next hb9)
  have HB := Lib.hid (bNext hb9 HB.out)
  clear hb9
  have HQ := Lib.hid (iotax V9 _ _ HS9.out HD9.out)
  clear HS9 HD9
  go_wp2_with fail
  refine HQ.out.mono ?_
  rintro e X5 ⟨⟨p5, q5, r5, t5, rfl, hs, hd⟩, hb⟩
  obtain ⟨b5, hb5⟩ : ∃ b, X5.heap.size = b := ⟨_, rfl⟩
  have K0 := Lib.hid (K0.out.next hb)
  have K1 := Lib.hid (K1.out.next hb)
  have K2 := Lib.hid (K2.out.next hb)
  have K3 := Lib.hid (K3.out.next hb)
  have K4 := Lib.hid (K4.out.next hb)
  have hba : Below X5.heap.size X5 (X5.alloc (.cells #[.slice p5 1 q5, .slice r5 3 t5] 24)) := (Below.refl _ _).alloc (Nat.le_refl _) _
  have HB := Lib.hid (bNext hba (bNext hb HB.out))
  have K0 := Lib.hid (K0.out.next hba)
  have K1 := Lib.hid (K1.out.next hba)
  have K2 := Lib.hid (K2.out.next hba)
  have K3 := Lib.hid (K3.out.next hba)
  have K4 := Lib.hid (K4.out.next hba)
  have K5 := Lib.hid (Kept.new hb5 hs hd)
  clear HQ hs hd hb hba
  go_upto_region 7 with fail
  refine gen_worldA (fun W => Below w.heap.size w W ∧ Kept W b0 (.slice p0 0 q0) (.slice r0 1 t0) [] [7] ∧ Kept W b1 (.slice p1 1 q1) (.slice r1 3 t1) [3] [10, 9, 7] ∧ Kept W b2 (.slice p2 1 q2) (.slice r2 2 t2) [2] [2, 3] ∧ Kept W b3 (.slice p3 2 q3) (.slice r3 4 t3) [2, 2] [3, 4, 6, 8] ∧ Kept W b4 (.slice p4 0 q4) (.slice r4 0 t4) [] [] ∧ Kept W b5 (.slice p5 1 q5) (.slice r5 3 t5) [3] [0, 1, 2]) ⟨HB.out, K0.out, K1.out, K2.out, K3.out, K4.out, K5.out⟩ ?_
  rintro W6 ⟨hb, k0, k1, k2, k3, k4, k5⟩
  clear HB K0 K1 K2 K3 K4 K5 hb5
  have HB := Lib.hid hb
  have K0 := Lib.hid k0
  have K1 := Lib.hid k1
  have K2 := Lib.hid k2
  have K3 := Lib.hid k3
  have K4 := Lib.hid k4
  have K5 := Lib.hid k5
  clear hb k0 k1 k2 k3 k4 k5
  go_upto_region 9 with fail
  refine wp_region_Z (S := fun W' => (W'.cell? ⟨b0, 0, none⟩ = some (.slice p0 0 q0) ∧ W'.cell? ⟨b0, 1, none⟩ = some (.slice r0 1 t0)) ∧ ((W'.cell? ⟨b1, 0, none⟩ = some (.slice p1 1 q1) ∧ W'.cell? ⟨b1, 1, none⟩ = some (.slice r1 3 t1)) ∧ (W'.cell? ⟨b2, 0, none⟩ = some (.slice p2 1 q2) ∧ W'.cell? ⟨b2, 1, none⟩ = some (.slice r2 2 t2)))) (z := 15) (by kernel_rfl) ?_
  have hdr : Below W6.heap.size W6 W6.drew := (Below.refl _ _).drew
  have HB := Lib.hid (bNext hdr HB.out)
  have K0 := Lib.hid (K0.out.next hdr)
  have K1 := Lib.hid (K1.out.next hdr)
  have K2 := Lib.hid (K2.out.next hdr)
  have K3 := Lib.hid (K3.out.next hdr)
  have K4 := Lib.hid (K4.out.next hdr)
  have K5 := Lib.hid (K5.out.next hdr)
  clear hdr
  generalize W6.drew = Y0 at HB K0 K1 K2 K3 K4 K5 ⊢
  have hSS : (fun W' : World => (W'.cell? ⟨b0, 0, none⟩ = some (.slice p0 0 q0) ∧ W'.cell? ⟨b0, 1, none⟩ = some (.slice r0 1 t0)) ∧ ((W'.cell? ⟨b1, 0, none⟩ = some (.slice p1 1 q1) ∧ W'.cell? ⟨b1, 1, none⟩ = some (.slice r1 3 t1)) ∧ (W'.cell? ⟨b2, 0, none⟩ = some (.slice p2 1 q2) ∧ W'.cell? ⟨b2, 1, none⟩ = some (.slice r2 2 t2)))) Y0 := ⟨⟨K0.out.c0, K0.out.c1⟩, ⟨⟨K1.out.c0, K1.out.c1⟩, ⟨K2.out.c0, K2.out.c1⟩⟩⟩
  refine wpAnyZ_take (i := 0) (v := ?_) rfl (by kernel_rfl) (by kernel_rfl) (by kernel_rfl) (fun _ _ _ h => h) (by kernel_rfl) (Or.inl ⟨by rfl, ?_⟩) (by assumption) ?_
  rotate_left
  · intro w' hSw
    try dsimp only at hSw
    try obtain ⟨hSw, hSw2⟩ := hSw
    go_simp
    try with_reducible rfl
  show wpAnyZ _ _ _ _ _ _ _ _ (Act.put _ (some 76) _) _
  simp only [Act.put, List.setIfInBounds_toArray, List.set_cons_zero, List.set_cons_succ]
  clear hSS
  refine wpAnyZ_oneG (i := 1) (by kernel_rfl) rfl (by rfl) (fun K hK => ?_)
  go_simp
  refine (num_lit Y0 7 (by unfold In64; omega)).mono ?_
  rintro e Y1 ⟨a9, c9, rfl, hd9, hb⟩
  have HB := Lib.hid (bNext hb HB.out)
  have K0 := Lib.hid (K0.out.next hb)
  have K1 := Lib.hid (K1.out.next hb)
  have K2 := Lib.hid (K2.out.next hb)
  have K3 := Lib.hid (K3.out.next hb)
  have K4 := Lib.hid (K4.out.next hb)
  have K5 := Lib.hid (K5.out.next hb)
  show K _ Y1
  refine hK.out _ _ (.inr ⟨⟨K0.out.c0, K0.out.c1⟩, ⟨⟨K1.out.c0, K1.out.c1⟩, ⟨K2.out.c0, K2.out.c1⟩⟩⟩) ?_
  clear hK hb 
  refine wpAnyZ_oneG (i := 2) (by kernel_rfl) rfl (by rfl) (fun K hK => ?_)
  go_simp
  refine (same_is K0.out.sv K0.out.su (SlA.nil Y1) hd9).mono ?_
  rintro e Y2 ⟨rfl, hb⟩
  have HB := Lib.hid (bNext hb HB.out)
  have K0 := Lib.hid (K0.out.next hb)
  have K1 := Lib.hid (K1.out.next hb)
  have K2 := Lib.hid (K2.out.next hb)
  have K3 := Lib.hid (K3.out.next hb)
  have K4 := Lib.hid (K4.out.next hb)
  have K5 := Lib.hid (K5.out.next hb)
  show K _ Y2
  refine hK.out _ _ (.inr ⟨⟨K0.out.c0, K0.out.c1⟩, ⟨⟨K1.out.c0, K1.out.c1⟩, ⟨K2.out.c0, K2.out.c1⟩⟩⟩) ?_
  clear hK hb hd9
  have hSS : (fun W' : World => (W'.cell? ⟨b0, 0, none⟩ = some (.slice p0 0 q0) ∧ W'.cell? ⟨b0, 1, none⟩ = some (.slice r0 1 t0)) ∧ ((W'.cell? ⟨b1, 0, none⟩ = some (.slice p1 1 q1) ∧ W'.cell? ⟨b1, 1, none⟩ = some (.slice r1 3 t1)) ∧ (W'.cell? ⟨b2, 0, none⟩ = some (.slice p2 1 q2) ∧ W'.cell? ⟨b2, 1, none⟩ = some (.slice r2 2 t2)))) Y2 := ⟨⟨K0.out.c0, K0.out.c1⟩, ⟨⟨K1.out.c0, K1.out.c1⟩, ⟨K2.out.c0, K2.out.c1⟩⟩⟩
  refine wpAnyZ_take (i := 3) (v := ?_) rfl (by kernel_rfl) (by kernel_rfl) (by kernel_rfl) (fun _ _ _ h => h) (by kernel_rfl) (Or.inl ⟨by rfl, ?_⟩) (by assumption) ?_
  rotate_left
  · intro w' hSw
    try dsimp only at hSw
    try obtain ⟨hSw, hSw2⟩ := hSw
    go_simp
    try with_reducible rfl
  show wpAnyZ _ _ _ _ _ _ _ _ (Act.put _ (some 79) _) _
  simp only [Act.put, List.setIfInBounds_toArray, List.set_cons_zero, List.set_cons_succ]
  refine wpAnyZ_take (i := 4) (v := ?_) rfl (by kernel_rfl) (by kernel_rfl) (by kernel_rfl) (fun _ _ _ h => h) (by kernel_rfl) (Or.inl ⟨by rfl, ?_⟩) (by assumption) ?_
  rotate_left
  · intro w' hSw
    try dsimp only at hSw
    try obtain ⟨hSw, hSw2⟩ := hSw
    go_simp
    try with_reducible rfl
  show wpAnyZ _ _ _ _ _ _ _ _ (Act.put _ (some 80) _) _
  simp only [Act.put, List.setIfInBounds_toArray, List.set_cons_zero, List.set_cons_succ]
  clear hSS
  refine wpAnyZ_oneG (i := 5) (by kernel_rfl) rfl (by rfl) (fun K hK => ?_)
  go_simp
  have hba : Below Y2.heap.size Y2 (Y2.alloc (.cells #[.int .i64 10, .int .i64 9, .int .i64 7] 2)) := (Below.refl _ _).alloc (Nat.le_refl _) _
  refine hK.out _ _ (.inr ⟨⟨(K0.out.next hba).c0, (K0.out.next hba).c1⟩, ⟨⟨(K1.out.next hba).c0, (K1.out.next hba).c1⟩, ⟨(K2.out.next hba).c0, (K2.out.next hba).c1⟩⟩⟩) ?_
  clear hK hba
  refine wpAnyZ_oneG (i := 6) (by kernel_rfl) rfl (by rfl) (fun K hK => ?_)
  go_simp
  refine (vec_lit Y2 [10, 9, 7] 3 _ 3 _ rfl rfl rfl rfl (by decide) rfl).mono ?_
  rintro e Y3 ⟨a8, c8, rfl, hs8, hd8, hb⟩
  have HB := Lib.hid (bNext hb HB.out)
  have K0 := Lib.hid (K0.out.next hb)
  have K1 := Lib.hid (K1.out.next hb)
  have K2 := Lib.hid (K2.out.next hb)
  have K3 := Lib.hid (K3.out.next hb)
  have K4 := Lib.hid (K4.out.next hb)
  have K5 := Lib.hid (K5.out.next hb)
  show K _ Y3
  refine hK.out _ _ (.inr ⟨⟨K0.out.c0, K0.out.c1⟩, ⟨⟨K1.out.c0, K1.out.c1⟩, ⟨K2.out.c0, K2.out.c1⟩⟩⟩) ?_
  clear hK hb 
  refine wpAnyZ_oneG (i := 7) (by kernel_rfl) rfl (by rfl) (fun K hK => ?_)
  go_simp
  refine (same_is K1.out.sv K1.out.su hs8 hd8).mono ?_
  rintro e Y4 ⟨rfl, hb⟩
  have HB := Lib.hid (bNext hb HB.out)
  have K0 := Lib.hid (K0.out.next hb)
  have K1 := Lib.hid (K1.out.next hb)
  have K2 := Lib.hid (K2.out.next hb)
  have K3 := Lib.hid (K3.out.next hb)
  have K4 := Lib.hid (K4.out.next hb)
  have K5 := Lib.hid (K5.out.next hb)
  show K _ Y4
  refine hK.out _ _ (.inr ⟨⟨K0.out.c0, K0.out.c1⟩, ⟨⟨K1.out.c0, K1.out.c1⟩, ⟨K2.out.c0, K2.out.c1⟩⟩⟩) ?_
  clear hK hb hs8 hd8
  have hSS : (fun W' : World => (W'.cell? ⟨b0, 0, none⟩ = some (.slice p0 0 q0) ∧ W'.cell? ⟨b0, 1, none⟩ = some (.slice r0 1 t0)) ∧ ((W'.cell? ⟨b1, 0, none⟩ = some (.slice p1 1 q1) ∧ W'.cell? ⟨b1, 1, none⟩ = some (.slice r1 3 t1)) ∧ (W'.cell? ⟨b2, 0, none⟩ = some (.slice p2 1 q2) ∧ W'.cell? ⟨b2, 1, none⟩ = some (.slice r2 2 t2)))) Y4 := ⟨⟨K0.out.c0, K0.out.c1⟩, ⟨⟨K1.out.c0, K1.out.c1⟩, ⟨K2.out.c0, K2.out.c1⟩⟩⟩
  refine wpAnyZ_take (i := 8) (v := ?_) rfl (by kernel_rfl) (by kernel_rfl) (by kernel_rfl) (fun _ _ _ h => h) (by kernel_rfl) (Or.inl ⟨by rfl, ?_⟩) (by assumption) ?_
  rotate_left
  · intro w' hSw
    try dsimp only at hSw
    try obtain ⟨hSw, hSw2⟩ := hSw
    go_simp
    try with_reducible rfl
  show wpAnyZ _ _ _ _ _ _ _ _ (Act.put _ (some 84) _) _
  simp only [Act.put, List.setIfInBounds_toArray, List.set_cons_zero, List.set_cons_succ]
  refine wpAnyZ_take (i := 9) (v := ?_) rfl (by kernel_rfl) (by kernel_rfl) (by kernel_rfl) (fun _ _ _ h => h) (by kernel_rfl) (Or.inl ⟨by rfl, ?_⟩) (by assumption) ?_
  rotate_left
  · intro w' hSw
    try dsimp only at hSw
    try obtain ⟨hSw, hSw2⟩ := hSw
    go_simp
    try with_reducible rfl
  show wpAnyZ _ _ _ _ _ _ _ _ (Act.put _ (some 85) _) _
  simp only [Act.put, List.setIfInBounds_toArray, List.set_cons_zero, List.set_cons_succ]
  refine wpAnyZ_take (i := 10) (v := ?_) rfl (by kernel_rfl) (by kernel_rfl) (by kernel_rfl) (fun _ _ _ h => h) (by kernel_rfl) (Or.inl ⟨by rfl, ?_⟩) (by assumption) ?_
  rotate_left
  · intro w' hSw
    try dsimp only at hSw
    try obtain ⟨hSw, hSw2⟩ := hSw
    go_simp
    try with_reducible rfl
  show wpAnyZ _ _ _ _ _ _ _ _ (Act.put _ (some 86) _) _
  simp only [Act.put, List.setIfInBounds_toArray, List.set_cons_zero, List.set_cons_succ]
  clear hSS
  refine wpAnyZ_oneG (i := 11) (by kernel_rfl) rfl (by rfl) (fun K hK => ?_)
  go_simp
  have hba : Below Y4.heap.size Y4 (Y4.alloc (.cells #[.int .i64 2, .int .i64 3] 2)) := (Below.refl _ _).alloc (Nat.le_refl _) _
  refine hK.out _ _ (.inr ⟨⟨(K0.out.next hba).c0, (K0.out.next hba).c1⟩, ⟨⟨(K1.out.next hba).c0, (K1.out.next hba).c1⟩, ⟨(K2.out.next hba).c0, (K2.out.next hba).c1⟩⟩⟩) ?_
  clear hK hba
  refine wpAnyZ_oneG (i := 12) (by kernel_rfl) rfl (by rfl) (fun K hK => ?_)
  go_simp
  refine (vec_lit Y4 [2, 3] 2 _ 2 _ rfl rfl rfl rfl (by decide) rfl).mono ?_
  rintro e Y5 ⟨a8, c8, rfl, hs8, hd8, hb⟩
  have HB := Lib.hid (bNext hb HB.out)
  have K0 := Lib.hid (K0.out.next hb)
  have K1 := Lib.hid (K1.out.next hb)
  have K2 := Lib.hid (K2.out.next hb)
  have K3 := Lib.hid (K3.out.next hb)
  have K4 := Lib.hid (K4.out.next hb)
  have K5 := Lib.hid (K5.out.next hb)
  show K _ Y5
  refine hK.out _ _ (.inr ⟨⟨K0.out.c0, K0.out.c1⟩, ⟨⟨K1.out.c0, K1.out.c1⟩, ⟨K2.out.c0, K2.out.c1⟩⟩⟩) ?_
  clear hK hb 
  refine wpAnyZ_oneG (i := 13) (by kernel_rfl) rfl (by rfl) (fun K hK => ?_)
  go_simp
  refine (same_is K2.out.sv K2.out.su hs8 hd8).mono ?_
  rintro e Y6 ⟨rfl, hb⟩
  have HB := Lib.hid (bNext hb HB.out)
  have K0 := Lib.hid (K0.out.next hb)
  have K1 := Lib.hid (K1.out.next hb)
  have K2 := Lib.hid (K2.out.next hb)
  have K3 := Lib.hid (K3.out.next hb)
  have K4 := Lib.hid (K4.out.next hb)
  have K5 := Lib.hid (K5.out.next hb)
  show K _ Y6
  refine hK.out _ _ (.inr ⟨⟨K0.out.c0, K0.out.c1⟩, ⟨⟨K1.out.c0, K1.out.c1⟩, ⟨K2.out.c0, K2.out.c1⟩⟩⟩) ?_
  clear hK hb hs8 hd8
  have hSS : (fun W' : World => (W'.cell? ⟨b0, 0, none⟩ = some (.slice p0 0 q0) ∧ W'.cell? ⟨b0, 1, none⟩ = some (.slice r0 1 t0)) ∧ ((W'.cell? ⟨b1, 0, none⟩ = some (.slice p1 1 q1) ∧ W'.cell? ⟨b1, 1, none⟩ = some (.slice r1 3 t1)) ∧ (W'.cell? ⟨b2, 0, none⟩ = some (.slice p2 1 q2) ∧ W'.cell? ⟨b2, 1, none⟩ = some (.slice r2 2 t2)))) Y6 := ⟨⟨K0.out.c0, K0.out.c1⟩, ⟨⟨K1.out.c0, K1.out.c1⟩, ⟨K2.out.c0, K2.out.c1⟩⟩⟩
  refine wpAnyZ_take (i := 14) (v := ?_) rfl (by kernel_rfl) (by kernel_rfl) (by kernel_rfl) (fun _ _ _ h => h) (by kernel_rfl) (Or.inl ⟨by rfl, ?_⟩) (by assumption) ?_
  rotate_left
  · intro w' hSw
    try dsimp only at hSw
    try obtain ⟨hSw, hSw2⟩ := hSw
    go_simp
    try with_reducible rfl
  show wpAnyZ _ _ _ _ _ _ _ _ (Act.put _ (some 90) _) _
  simp only [Act.put, List.setIfInBounds_toArray, List.set_cons_zero, List.set_cons_succ]
  clear hSS
  refine wpAnyZ_one (i := 15) (by kernel_rfl) rfl rfl (fun K hK => ?_)
  go_simp
  refine hK.out _ _ (.inl (by omega)) ?_
  clear hK
  refine wpAnyZ_done (by kernel_rfl) ?_ _
  go_upto_region 10 with fail
  refine wp_region_Z (S := fun W' => (W'.cell? ⟨b3, 0, none⟩ = some (.slice p3 2 q3) ∧ W'.cell? ⟨b3, 1, none⟩ = some (.slice r3 4 t3)) ∧ ((W'.cell? ⟨b5, 0, none⟩ = some (.slice p5 1 q5) ∧ W'.cell? ⟨b5, 1, none⟩ = some (.slice r5 3 t5)))) (z := 14) (by kernel_rfl) ?_
  have hdr : Below Y6.heap.size Y6 Y6.drew := (Below.refl _ _).drew
  have HB := Lib.hid (bNext hdr HB.out)
  have K0 := Lib.hid (K0.out.next hdr)
  have K1 := Lib.hid (K1.out.next hdr)
  have K2 := Lib.hid (K2.out.next hdr)
  have K3 := Lib.hid (K3.out.next hdr)
  have K4 := Lib.hid (K4.out.next hdr)
  have K5 := Lib.hid (K5.out.next hdr)
  clear hdr
  generalize Y6.drew = Z0 at HB K0 K1 K2 K3 K4 K5 ⊢
  have hSS : (fun W' : World => (W'.cell? ⟨b3, 0, none⟩ = some (.slice p3 2 q3) ∧ W'.cell? ⟨b3, 1, none⟩ = some (.slice r3 4 t3)) ∧ ((W'.cell? ⟨b5, 0, none⟩ = some (.slice p5 1 q5) ∧ W'.cell? ⟨b5, 1, none⟩ = some (.slice r5 3 t5)))) Z0 := ⟨⟨K3.out.c0, K3.out.c1⟩, ⟨K5.out.c0, K5.out.c1⟩⟩
  refine wpAnyZ_take (i := 0) (v := ?_) rfl (by kernel_rfl) (by kernel_rfl) (by kernel_rfl) (fun _ _ _ h => h) (by kernel_rfl) (Or.inl ⟨by rfl, ?_⟩) (by assumption) ?_
  rotate_left
  · intro w' hSw
    try dsimp only at hSw
    try obtain ⟨hSw, hSw2⟩ := hSw
    go_simp
    try with_reducible rfl
  show wpAnyZ _ _ _ _ _ _ _ _ (Act.put _ (some 91) _) _
  simp only [Act.put, List.setIfInBounds_toArray, List.set_cons_zero, List.set_cons_succ]
  refine wpAnyZ_take (i := 1) (v := ?_) rfl (by kernel_rfl) (by kernel_rfl) (by kernel_rfl) (fun _ _ _ h => h) (by kernel_rfl) (Or.inl ⟨by rfl, ?_⟩) (by assumption) ?_
  rotate_left
  · intro w' hSw
    try dsimp only at hSw
    try obtain ⟨hSw, hSw2⟩ := hSw
    go_simp
    try with_reducible rfl
  show wpAnyZ _ _ _ _ _ _ _ _ (Act.put _ (some 92) _) _
  simp only [Act.put, List.setIfInBounds_toArray, List.set_cons_zero, List.set_cons_succ]
  refine wpAnyZ_take (i := 2) (v := ?_) rfl (by kernel_rfl) (by kernel_rfl) (by kernel_rfl) (fun _ _ _ h => h) (by kernel_rfl) (Or.inl ⟨by rfl, ?_⟩) (by assumption) ?_
  rotate_left
  · intro w' hSw
    try dsimp only at hSw
    try obtain ⟨hSw, hSw2⟩ := hSw
    go_simp
    try with_reducible rfl
  show wpAnyZ _ _ _ _ _ _ _ _ (Act.put _ (some 93) _) _
  simp only [Act.put, List.setIfInBounds_toArray, List.set_cons_zero, List.set_cons_succ]
  clear hSS
  obtain ⟨G, hG⟩ : ∃ G, Z0.heap.size = G := ⟨_, rfl⟩
  have HG := Lib.hid hG
  refine wpAnyZ_twoG (i := 3) (j := 4) (by kernel_rfl) rfl rfl (by rfl) (by rfl) (fun K hK => ?_) (fun K hK => ?_)
  · go_simp
    have hba : Below Z0.heap.size Z0 (Z0.alloc (.cells #[.int .i64 2, .int .i64 2] 2)) := (Below.refl _ _).alloc (Nat.le_refl _) _
    have hbb : Below Z0.heap.size Z0 ((Z0.alloc (.cells #[.int .i64 2, .int .i64 2] 2)).alloc (.cells #[.int .i64 3, .int .i64 4, .int .i64 6, .int .i64 8] 2)) := hba.alloc hba.size _
    refine hK.out _ _ (.inr ⟨⟨(K3.out.next hba).c0, (K3.out.next hba).c1⟩, ⟨(K5.out.next hba).c0, (K5.out.next hba).c1⟩⟩) ?_
    refine wpAnyZ_oneG (i := 4) (by kernel_rfl) rfl (by rfl) (fun K hK => ?_)
    go_simp
    refine hK.out _ _ (.inr ⟨⟨(K3.out.next hbb).c0, (K3.out.next hbb).c1⟩, ⟨(K5.out.next hbb).c0, (K5.out.next hbb).c1⟩⟩) ?_
    have hl1 : SlA (Z0.alloc (.cells #[.int .i64 2, .int .i64 2] 2)) (.slice (some ⟨G, 0, none⟩) 2 2) [2, 2] := (lit_row Z0 [2, 2] 2 G rfl hG (by decide)).sl (in64_all rfl)
    have hl2 : SlA ((Z0.alloc (.cells #[.int .i64 2, .int .i64 2] 2)).alloc (.cells #[.int .i64 3, .int .i64 4, .int .i64 6, .int .i64 8] 2)) (.slice (some ⟨G + 1, 0, none⟩) 4 4) [3, 4, 6, 8] := (lit_row (Z0.alloc (.cells #[.int .i64 2, .int .i64 2] 2)) [3, 4, 6, 8] 4 (G + 1) rfl (by simp [hG]) (by decide)).sl (in64_all rfl)
    have HL1 := Lib.hid (hl1.below ((Below.refl _ _).alloc (Nat.le_refl _) (.cells #[.int .i64 3, .int .i64 4, .int .i64 6, .int .i64 8] 2))); have HL2 := Lib.hid hl2
    have HB := Lib.hid (bNext hbb HB.out)
    have K0 := Lib.hid (K0.out.next hbb)
    have K1 := Lib.hid (K1.out.next hbb)
    have K2 := Lib.hid (K2.out.next hbb)
    have K3 := Lib.hid (K3.out.next hbb)
    have K4 := Lib.hid (K4.out.next hbb)
    have K5 := Lib.hid (K5.out.next hbb)
    clear hK hba hbb hl1 hl2 hG
    generalize ((Z0.alloc (.cells #[.int .i64 2, .int .i64 2] 2)).alloc (.cells #[.int .i64 3, .int .i64 4, .int .i64 6, .int .i64 8] 2)) = Z1 at *
    have hSS : (fun W' : World => (W'.cell? ⟨b3, 0, none⟩ = some (.slice p3 2 q3) ∧ W'.cell? ⟨b3, 1, none⟩ = some (.slice r3 4 t3)) ∧ ((W'.cell? ⟨b5, 0, none⟩ = some (.slice p5 1 q5) ∧ W'.cell? ⟨b5, 1, none⟩ = some (.slice r5 3 t5)))) Z1 := ⟨⟨K3.out.c0, K3.out.c1⟩, ⟨K5.out.c0, K5.out.c1⟩⟩
    refine wpAnyZ_take (i := 5) (v := ?_) rfl (by kernel_rfl) (by kernel_rfl) (by kernel_rfl) (fun _ _ _ h => h) (by kernel_rfl) (Or.inl ⟨by rfl, ?_⟩) (by assumption) ?_
    rotate_left
    · intro w' hSw
      try dsimp only at hSw
      try obtain ⟨hSw, hSw2⟩ := hSw
      go_simp
      try with_reducible rfl
    show wpAnyZ _ _ _ _ _ _ _ _ (Act.put _ (some 96) _) _
    simp only [Act.put, List.setIfInBounds_toArray, List.set_cons_zero, List.set_cons_succ]
    clear hSS
    refine wpAnyZ_oneG (i := 6) (by kernel_rfl) rfl (by rfl) (fun K hK => ?_)
    go_simp
    refine (same_is K3.out.sv K3.out.su (Hid.out HL1) (Hid.out HL2)).mono ?_
    rintro e Z2 ⟨rfl, hb⟩
    have HB := Lib.hid (bNext hb HB.out)
    have K0 := Lib.hid (K0.out.next hb)
    have K1 := Lib.hid (K1.out.next hb)
    have K2 := Lib.hid (K2.out.next hb)
    have K3 := Lib.hid (K3.out.next hb)
    have K4 := Lib.hid (K4.out.next hb)
    have K5 := Lib.hid (K5.out.next hb)
    show K _ Z2
    refine hK.out _ _ (.inr ⟨⟨K3.out.c0, K3.out.c1⟩, ⟨K5.out.c0, K5.out.c1⟩⟩) ?_
    clear hK hb 
    clear HL1 HL2
    have hSS : (fun W' : World => (W'.cell? ⟨b3, 0, none⟩ = some (.slice p3 2 q3) ∧ W'.cell? ⟨b3, 1, none⟩ = some (.slice r3 4 t3)) ∧ ((W'.cell? ⟨b5, 0, none⟩ = some (.slice p5 1 q5) ∧ W'.cell? ⟨b5, 1, none⟩ = some (.slice r5 3 t5)))) Z2 := ⟨⟨K3.out.c0, K3.out.c1⟩, ⟨K5.out.c0, K5.out.c1⟩⟩
    refine wpAnyZ_take (i := 7) (v := ?_) rfl (by kernel_rfl) (by kernel_rfl) (by kernel_rfl) (fun _ _ _ h => h) (by kernel_rfl) (Or.inl ⟨by rfl, ?_⟩) (by assumption) ?_
    rotate_left
    · intro w' hSw
      try dsimp only at hSw
      try obtain ⟨hSw, hSw2⟩ := hSw
      go_simp
      try with_reducible rfl
    show wpAnyZ _ _ _ _ _ _ _ _ (Act.put _ (some 98) _) _
    simp only [Act.put, List.setIfInBounds_toArray, List.set_cons_zero, List.set_cons_succ]
    refine wpAnyZ_take (i := 8) (v := ?_) rfl (by kernel_rfl) (by kernel_rfl) (by kernel_rfl) (fun _ _ _ h => h) (by kernel_rfl) (Or.inl ⟨by rfl, ?_⟩) (by assumption) ?_
    rotate_left
    · intro w' hSw
      try dsimp only at hSw
      try obtain ⟨hSw, hSw2⟩ := hSw
      go_simp
      try with_reducible rfl
    show wpAnyZ _ _ _ _ _ _ _ _ (Act.put _ (some 99) _) _
    simp only [Act.put, List.setIfInBounds_toArray, List.set_cons_zero, List.set_cons_succ]
    refine wpAnyZ_take (i := 9) (v := ?_) rfl (by kernel_rfl) (by kernel_rfl) (by kernel_rfl) (fun _ _ _ h => h) (by kernel_rfl) (Or.inl ⟨by rfl, ?_⟩) (by assumption) ?_
    rotate_left
    · intro w' hSw
      try dsimp only at hSw
      try obtain ⟨hSw, hSw2⟩ := hSw
      go_simp
      try with_reducible rfl
    show wpAnyZ _ _ _ _ _ _ _ _ (Act.put _ (some 100) _) _
    simp only [Act.put, List.setIfInBounds_toArray, List.set_cons_zero, List.set_cons_succ]
    clear hSS
    refine wpAnyZ_oneG (i := 10) (by kernel_rfl) rfl (by rfl) (fun K hK => ?_)
    go_simp
    have hba : Below Z2.heap.size Z2 (Z2.alloc (.cells #[.int .i64 0, .int .i64 1, .int .i64 2] 2)) := (Below.refl _ _).alloc (Nat.le_refl _) _
    refine hK.out _ _ (.inr ⟨⟨(K3.out.next hba).c0, (K3.out.next hba).c1⟩, ⟨(K5.out.next hba).c0, (K5.out.next hba).c1⟩⟩) ?_
    clear hK hba
    refine wpAnyZ_oneG (i := 11) (by kernel_rfl) rfl (by rfl) (fun K hK => ?_)
    go_simp
    refine (vec_lit Z2 [0, 1, 2] 3 _ 3 _ rfl rfl rfl rfl (by decide) rfl).mono ?_
    rintro e Z3 ⟨a8, c8, rfl, hs8, hd8, hb⟩
    have HB := Lib.hid (bNext hb HB.out)
    have K0 := Lib.hid (K0.out.next hb)
    have K1 := Lib.hid (K1.out.next hb)
    have K2 := Lib.hid (K2.out.next hb)
    have K3 := Lib.hid (K3.out.next hb)
    have K4 := Lib.hid (K4.out.next hb)
    have K5 := Lib.hid (K5.out.next hb)
    show K _ Z3
    refine hK.out _ _ (.inr ⟨⟨K3.out.c0, K3.out.c1⟩, ⟨K5.out.c0, K5.out.c1⟩⟩) ?_
    clear hK hb 
    refine wpAnyZ_oneG (i := 12) (by kernel_rfl) rfl (by rfl) (fun K hK => ?_)
    go_simp
    refine (same_is K5.out.sv K5.out.su hs8 hd8).mono ?_
    rintro e Z4 ⟨rfl, hb⟩
    have HB := Lib.hid (bNext hb HB.out)
    have K0 := Lib.hid (K0.out.next hb)
    have K1 := Lib.hid (K1.out.next hb)
    have K2 := Lib.hid (K2.out.next hb)
    have K3 := Lib.hid (K3.out.next hb)
    have K4 := Lib.hid (K4.out.next hb)
    have K5 := Lib.hid (K5.out.next hb)
    show K _ Z4
    refine hK.out _ _ (.inr ⟨⟨K3.out.c0, K3.out.c1⟩, ⟨K5.out.c0, K5.out.c1⟩⟩) ?_
    clear hK hb hs8 hd8
    have hSS : (fun W' : World => (W'.cell? ⟨b3, 0, none⟩ = some (.slice p3 2 q3) ∧ W'.cell? ⟨b3, 1, none⟩ = some (.slice r3 4 t3)) ∧ ((W'.cell? ⟨b5, 0, none⟩ = some (.slice p5 1 q5) ∧ W'.cell? ⟨b5, 1, none⟩ = some (.slice r5 3 t5)))) Z4 := ⟨⟨K3.out.c0, K3.out.c1⟩, ⟨K5.out.c0, K5.out.c1⟩⟩
    refine wpAnyZ_take (i := 13) (v := ?_) rfl (by kernel_rfl) (by kernel_rfl) (by kernel_rfl) (fun _ _ _ h => h) (by kernel_rfl) (Or.inl ⟨by rfl, ?_⟩) (by assumption) ?_
    rotate_left
    · intro w' hSw
      try dsimp only at hSw
      try obtain ⟨hSw, hSw2⟩ := hSw
      go_simp
      try with_reducible rfl
    show wpAnyZ _ _ _ _ _ _ _ _ (Act.put _ (some 104) _) _
    simp only [Act.put, List.setIfInBounds_toArray, List.set_cons_zero, List.set_cons_succ]
    clear hSS
    refine wpAnyZ_one (i := 14) (by kernel_rfl) rfl rfl (fun K hK => ?_)
    go_simp
    refine hK.out _ _ (.inl (by omega)) ?_
    clear hK
    refine wpAnyZ_done (by kernel_rfl) ?_ _
    go_wp2_with fail
    go_ret
    exact ⟨rfl, HB.out⟩
  · go_simp
    have hba : Below Z0.heap.size Z0 (Z0.alloc (.cells #[.int .i64 3, .int .i64 4, .int .i64 6, .int .i64 8] 2)) := (Below.refl _ _).alloc (Nat.le_refl _) _
    have hbb : Below Z0.heap.size Z0 ((Z0.alloc (.cells #[.int .i64 3, .int .i64 4, .int .i64 6, .int .i64 8] 2)).alloc (.cells #[.int .i64 2, .int .i64 2] 2)) := hba.alloc hba.size _
    refine hK.out _ _ (.inr ⟨⟨(K3.out.next hba).c0, (K3.out.next hba).c1⟩, ⟨(K5.out.next hba).c0, (K5.out.next hba).c1⟩⟩) ?_
    refine wpAnyZ_oneG (i := 3) (by kernel_rfl) rfl (by rfl) (fun K hK => ?_)
    go_simp
    refine hK.out _ _ (.inr ⟨⟨(K3.out.next hbb).c0, (K3.out.next hbb).c1⟩, ⟨(K5.out.next hbb).c0, (K5.out.next hbb).c1⟩⟩) ?_
    have hl1 : SlA (Z0.alloc (.cells #[.int .i64 3, .int .i64 4, .int .i64 6, .int .i64 8] 2)) (.slice (some ⟨G, 0, none⟩) 4 4) [3, 4, 6, 8] := (lit_row Z0 [3, 4, 6, 8] 4 G rfl hG (by decide)).sl (in64_all rfl)
    have hl2 : SlA ((Z0.alloc (.cells #[.int .i64 3, .int .i64 4, .int .i64 6, .int .i64 8] 2)).alloc (.cells #[.int .i64 2, .int .i64 2] 2)) (.slice (some ⟨G + 1, 0, none⟩) 2 2) [2, 2] := (lit_row (Z0.alloc (.cells #[.int .i64 3, .int .i64 4, .int .i64 6, .int .i64 8] 2)) [2, 2] 2 (G + 1) rfl (by simp [hG]) (by decide)).sl (in64_all rfl)
    have HL1 := Lib.hid (hl1.below ((Below.refl _ _).alloc (Nat.le_refl _) (.cells #[.int .i64 2, .int .i64 2] 2))); have HL2 := Lib.hid hl2
    have HB := Lib.hid (bNext hbb HB.out)
    have K0 := Lib.hid (K0.out.next hbb)
    have K1 := Lib.hid (K1.out.next hbb)
    have K2 := Lib.hid (K2.out.next hbb)
    have K3 := Lib.hid (K3.out.next hbb)
    have K4 := Lib.hid (K4.out.next hbb)
    have K5 := Lib.hid (K5.out.next hbb)
    clear hK hba hbb hl1 hl2 hG
    generalize ((Z0.alloc (.cells #[.int .i64 3, .int .i64 4, .int .i64 6, .int .i64 8] 2)).alloc (.cells #[.int .i64 2, .int .i64 2] 2)) = Z1 at *
    have hSS : (fun W' : World => (W'.cell? ⟨b3, 0, none⟩ = some (.slice p3 2 q3) ∧ W'.cell? ⟨b3, 1, none⟩ = some (.slice r3 4 t3)) ∧ ((W'.cell? ⟨b5, 0, none⟩ = some (.slice p5 1 q5) ∧ W'.cell? ⟨b5, 1, none⟩ = some (.slice r5 3 t5)))) Z1 := ⟨⟨K3.out.c0, K3.out.c1⟩, ⟨K5.out.c0, K5.out.c1⟩⟩
    refine wpAnyZ_take (i := 5) (v := ?_) rfl (by kernel_rfl) (by kernel_rfl) (by kernel_rfl) (fun _ _ _ h => h) (by kernel_rfl) (Or.inl ⟨by rfl, ?_⟩) (by assumption) ?_
    rotate_left
    · intro w' hSw
      try dsimp only at hSw
      try obtain ⟨hSw, hSw2⟩ := hSw
      go_simp
      try with_reducible rfl
    show wpAnyZ _ _ _ _ _ _ _ _ (Act.put _ (some 96) _) _
    simp only [Act.put, List.setIfInBounds_toArray, List.set_cons_zero, List.set_cons_succ]
    clear hSS
    refine wpAnyZ_oneG (i := 6) (by kernel_rfl) rfl (by rfl) (fun K hK => ?_)
    go_simp
    refine (same_is K3.out.sv K3.out.su (Hid.out HL2) (Hid.out HL1)).mono ?_
    rintro e Z2 ⟨rfl, hb⟩
    have HB := Lib.hid (bNext hb HB.out)
    have K0 := Lib.hid (K0.out.next hb)
    have K1 := Lib.hid (K1.out.next hb)
    have K2 := Lib.hid (K2.out.next hb)
    have K3 := Lib.hid (K3.out.next hb)
    have K4 := Lib.hid (K4.out.next hb)
    have K5 := Lib.hid (K5.out.next hb)
    show K _ Z2
    refine hK.out _ _ (.inr ⟨⟨K3.out.c0, K3.out.c1⟩, ⟨K5.out.c0, K5.out.c1⟩⟩) ?_
    clear hK hb 
    clear HL1 HL2
    have hSS : (fun W' : World => (W'.cell? ⟨b3, 0, none⟩ = some (.slice p3 2 q3) ∧ W'.cell? ⟨b3, 1, none⟩ = some (.slice r3 4 t3)) ∧ ((W'.cell? ⟨b5, 0, none⟩ = some (.slice p5 1 q5) ∧ W'.cell? ⟨b5, 1, none⟩ = some (.slice r5 3 t5)))) Z2 := ⟨⟨K3.out.c0, K3.out.c1⟩, ⟨K5.out.c0, K5.out.c1⟩⟩
    refine wpAnyZ_take (i := 7) (v := ?_) rfl (by kernel_rfl) (by kernel_rfl) (by kernel_rfl) (fun _ _ _ h => h) (by kernel_rfl) (Or.inl ⟨by rfl, ?_⟩) (by assumption) ?_
    rotate_left
    · intro w' hSw
      try dsimp only at hSw
      try obtain ⟨hSw, hSw2⟩ := hSw
      go_simp
      try with_reducible rfl
    show wpAnyZ _ _ _ _ _ _ _ _ (Act.put _ (some 98) _) _
    simp only [Act.put, List.setIfInBounds_toArray, List.set_cons_zero, List.set_cons_succ]
    refine wpAnyZ_take (i := 8) (v := ?_) rfl (by kernel_rfl) (by kernel_rfl) (by kernel_rfl) (fun _ _ _ h => h) (by kernel_rfl) (Or.inl ⟨by rfl, ?_⟩) (by assumption) ?_
    rotate_left
    · intro w' hSw
      try dsimp only at hSw
      try obtain ⟨hSw, hSw2⟩ := hSw
      go_simp
      try with_reducible rfl
    show wpAnyZ _ _ _ _ _ _ _ _ (Act.put _ (some 99) _) _
    simp only [Act.put, List.setIfInBounds_toArray, List.set_cons_zero, List.set_cons_succ]
    refine wpAnyZ_take (i := 9) (v := ?_) rfl (by kernel_rfl) (by kernel_rfl) (by kernel_rfl) (fun _ _ _ h => h) (by kernel_rfl) (Or.inl ⟨by rfl, ?_⟩) (by assumption) ?_
    rotate_left
    · intro w' hSw
      try dsimp only at hSw
      try obtain ⟨hSw, hSw2⟩ := hSw
      go_simp
      try with_reducible rfl
    show wpAnyZ _ _ _ _ _ _ _ _ (Act.put _ (some 100) _) _
    simp only [Act.put, List.setIfInBounds_toArray, List.set_cons_zero, List.set_cons_succ]
    clear hSS
    refine wpAnyZ_oneG (i := 10) (by kernel_rfl) rfl (by rfl) (fun K hK => ?_)
    go_simp
    have hba : Below Z2.heap.size Z2 (Z2.alloc (.cells #[.int .i64 0, .int .i64 1, .int .i64 2] 2)) := (Below.refl _ _).alloc (Nat.le_refl _) _
    refine hK.out _ _ (.inr ⟨⟨(K3.out.next hba).c0, (K3.out.next hba).c1⟩, ⟨(K5.out.next hba).c0, (K5.out.next hba).c1⟩⟩) ?_
    clear hK hba
    refine wpAnyZ_oneG (i := 11) (by kernel_rfl) rfl (by rfl) (fun K hK => ?_)
    go_simp
    refine (vec_lit Z2 [0, 1, 2] 3 _ 3 _ rfl rfl rfl rfl (by decide) rfl).mono ?_
    rintro e Z3 ⟨a8, c8, rfl, hs8, hd8, hb⟩
    have HB := Lib.hid (bNext hb HB.out)
    have K0 := Lib.hid (K0.out.next hb)
    have K1 := Lib.hid (K1.out.next hb)
    have K2 := Lib.hid (K2.out.next hb)
    have K3 := Lib.hid (K3.out.next hb)
    have K4 := Lib.hid (K4.out.next hb)
    have K5 := Lib.hid (K5.out.next hb)
    show K _ Z3
    refine hK.out _ _ (.inr ⟨⟨K3.out.c0, K3.out.c1⟩, ⟨K5.out.c0, K5.out.c1⟩⟩) ?_
    clear hK hb 
    refine wpAnyZ_oneG (i := 12) (by kernel_rfl) rfl (by rfl) (fun K hK => ?_)
    go_simp
    refine (same_is K5.out.sv K5.out.su hs8 hd8).mono ?_
    rintro e Z4 ⟨rfl, hb⟩
    have HB := Lib.hid (bNext hb HB.out)
    have K0 := Lib.hid (K0.out.next hb)
    have K1 := Lib.hid (K1.out.next hb)
    have K2 := Lib.hid (K2.out.next hb)
    have K3 := Lib.hid (K3.out.next hb)
    have K4 := Lib.hid (K4.out.next hb)
    have K5 := Lib.hid (K5.out.next hb)
    show K _ Z4
    refine hK.out _ _ (.inr ⟨⟨K3.out.c0, K3.out.c1⟩, ⟨K5.out.c0, K5.out.c1⟩⟩) ?_
    clear hK hb hs8 hd8
    have hSS : (fun W' : World => (W'.cell? ⟨b3, 0, none⟩ = some (.slice p3 2 q3) ∧ W'.cell? ⟨b3, 1, none⟩ = some (.slice r3 4 t3)) ∧ ((W'.cell? ⟨b5, 0, none⟩ = some (.slice p5 1 q5) ∧ W'.cell? ⟨b5, 1, none⟩ = some (.slice r5 3 t5)))) Z4 := ⟨⟨K3.out.c0, K3.out.c1⟩, ⟨K5.out.c0, K5.out.c1⟩⟩
    refine wpAnyZ_take (i := 13) (v := ?_) rfl (by kernel_rfl) (by kernel_rfl) (by kernel_rfl) (fun _ _ _ h => h) (by kernel_rfl) (Or.inl ⟨by rfl, ?_⟩) (by assumption) ?_
    rotate_left
    · intro w' hSw
      try dsimp only at hSw
      try obtain ⟨hSw, hSw2⟩ := hSw
      go_simp
      try with_reducible rfl
    show wpAnyZ _ _ _ _ _ _ _ _ (Act.put _ (some 104) _) _
    simp only [Act.put, List.setIfInBounds_toArray, List.set_cons_zero, List.set_cons_succ]
    clear hSS
    refine wpAnyZ_one (i := 14) (by kernel_rfl) rfl rfl (fun K hK => ?_)
    go_simp
    refine hK.out _ _ (.inl (by omega)) ?_
    clear hK
    refine wpAnyZ_done (by kernel_rfl) ?_ _
    go_wp2_with fail
    go_ret
    exact ⟨rfl, HB.out⟩
end Go.Proofs.Ytmjkncmpanhgjaa
