import Derived.Test.YtokghjnkfabgiaaGreatDoorTA12
import Derived.Test.YtokghjnkfabgiaaGreatDoorTA10
import Derived.Test.YtokghjnkfabgiaaGreatDoorTA1
namespace Go.Proofs.YtokghjnkfabgiaaGreatDoor
set_option maxRecDepth 100000
open Go.RowKit
set_option linter.unusedVariables false
set_option linter.unusedSimpArgs false

/-! Rows of one cell each, as functions of the place; rows of the call's own behind what turns none of w's. -/
def rowOf (n : Nat) (f : Nat → Value) : Array Value := ((List.range n).map f).toArray
theorem rowOf_get {n k : Nat} {f : Nat → Value} (h : k < n) : (rowOf n f)[k]? = some (f k) := by simp [rowOf, h]
theorem rowOf_cell {w : World} {G n k : Nat} {t : TypeId} {f : Nat → Value} (hg : w.heap[G]? = some (.cells (rowOf n f) t (0, 0))) (h : k < n) : w.cell? ⟨G, k, none⟩ = some (f k) := by
  rw [cell_of_row w G _ _ _ _ hg]; exact rowOf_get h
theorem rowOf_congr {n : Nat} {f g : Nat → Value} (h : ∀ j, j < n → f j = g j) : rowOf n f = rowOf n g := by unfold rowOf; rw [List.map_congr_left fun j hj => h j (List.mem_range.1 hj)]
theorem rowOf_set {w : World} {G n k : Nat} {t : TypeId} {f g : Nat → Value} {v : Value} (hg : w.heap[G]? = some (.cells (rowOf n f) t (0, 0))) (h : k < n) (hv : g k = v) (hne : ∀ j, j < n → j ≠ k → g j = f j) :
    (w.setCell ⟨G, k, none⟩ v).heap[G]? = some (.cells (rowOf n g) t (0, 0)) := by
  rw [heap_setCell_same w G _ _ _ _ hg]
  congr 2
  unfold rowOf
  simp only [List.setIfInBounds_toArray]
  rw [range_set]
  congr 1
  exact List.map_congr_left fun j hj => by
    by_cases e : j = k
    · rw [if_pos e, e, hv]
    · rw [if_neg e, hne j (List.mem_range.1 hj) e]
theorem madeOne (z : Value) (n : Nat) : (madeCells #[z] n).toList = List.replicate n z := by
  have := made_flat (enc := fun v : Value => [v]) (m := 1) (fun _ => rfl) z n
  simpa using this
/-- What make has laid, one cell each. -/
theorem row_made {w : World} {B G n : Nat} {t : TypeId} {z : Value} (h : w.ownsRow B t 1 (.slice (some ⟨G, 0, none⟩) n n) n (madeCells #[z] n).toList) : w.heap[G]? = some (.cells (rowOf n fun _ => z) t (0, 0)) := by
  rw [madeOne] at h
  obtain ⟨_, ⟨hv, _⟩ | ⟨g', cap, cur, hv, _, hg, _, _, hcs, ht⟩⟩ := h
  · cases hv
  · cases hv
    rw [hg]
    congr 2
    rw [List.take_of_length_le (by simp [hcs])] at ht
    have e : rowOf n (fun _ => z) = (List.replicate n z).toArray := by
      unfold rowOf
      congr 1
      apply List.ext_getElem?
      intro i
      by_cases hi : i < n
      · simp [hi]
      · rw [List.getElem?_eq_none (by simp; omega), List.getElem?_eq_none (by simp; omega)]
    rw [e, ← ht]
/-- a block of the call's own that is known whole, as a row -/
theorem own_row {w : World} {B G n size : Nat} {t : TypeId} {cur : Array Value} (hB : B ≤ G) (h : w.heap[G]? = some (.cells cur t (0, 0))) (hs : cur.size = n * size) (hm : n ≤ maxLen) : w.ownsRow B t size (.slice (some ⟨G, 0, none⟩) n n) n cur.toList :=
  ⟨by simpa using hs, .inr ⟨G, n, cur, rfl, hB, h, Nat.le_refl _, hm, hs, by rw [List.take_of_length_le (by simp [hs])]⟩⟩
theorem own_below {w w' : World} {B : Nat} {t : TypeId} {size n : Nat} {v : Value} {xs : List Value} (h : w.ownsRow B t size v n xs) (hb : Below w.heap.size w w') : w'.ownsRow B t size v n xs := by
  obtain ⟨h1, h2 | ⟨g, cap, cur, rfl, hb', hg, h3⟩⟩ := h
  · exact ⟨h1, .inl h2⟩
  · exact ⟨h1, .inr ⟨g, cap, cur, rfl, hb', (hb.block g (Array.getElem?_eq_some_iff.1 hg).1).trans hg, h3⟩⟩
theorem own_other {w : World} {B : Nat} {t : TypeId} {size n : Nat} {v : Value} {xs : List Value} (h : w.ownsRow B t size v n xs) {p : Addr} (hp : ∀ g, v.ownBlock = some g → g ≠ p.block) (u : Value) : (w.setCell p u).ownsRow B t size v n xs := by
  obtain ⟨h1, h2 | ⟨g, cap, cur, rfl, hb', hg, h3⟩⟩ := h
  · exact ⟨h1, .inl h2⟩
  · exact ⟨h1, .inr ⟨g, cap, cur, rfl, hb', (Below.heap_setCell _ _ _ _ (hp g rfl)).trans hg, h3⟩⟩
theorem block_below {w w' : World} {G : Nat} {o : Obj} (h : w.heap[G]? = some o) (hb : Below w.heap.size w w') : w'.heap[G]? = some o := (hb.block G (Array.getElem?_eq_some_iff.1 h).1).trans h
theorem block_grown {w w' : World} {G : Nat} {o : Obj} {row : Option Nat} (h : w.heap[G]? = some o) (hg : w.grownBy w' row) (hne : row ≠ some G) : w'.heap[G]? = some o := (hg.block G (Array.getElem?_eq_some_iff.1 h).1 (Ne.symm hne)).trans h
theorem block_other {w : World} {G : Nat} {o : Obj} (h : w.heap[G]? = some o) {p : Addr} (hp : p.block ≠ G) (u : Value) : (w.setCell p u).heap[G]? = some o := (Below.heap_setCell _ _ _ _ (Ne.symm hp)).trans h
theorem block_alloc {w : World} {G : Nat} {o : Obj} (h : w.heap[G]? = some o) (o' : Obj) : (w.alloc o').heap[G]? = some o := (Below.heap_alloc _ _ _ (Array.getElem?_eq_some_iff.1 h).1).trans h
theorem block_lt {w : World} {G : Nat} {o : Obj} (h : w.heap[G]? = some o) : G < w.heap.size := (Array.getElem?_eq_some_iff.1 h).1
end Go.Proofs.YtokghjnkfabgiaaGreatDoor

namespace Go.Proofs.YtokghjnkfabgiaaGreatDoor
set_option linter.unusedVariables false
set_option linter.unusedSimpArgs false
set_option maxRecDepth 100000
open Go.RowKit

/-! A region that draws its order, that only reads what w has, and whose callees make memory and turn nothing of w's: walked once. -/
theorem keepCell {W w1 : World} {p : Addr} {v : Value} (hb : Below W.heap.size W w1) (h : W.cell? p = some v) : w1.cell? p = some v := (hb.cell (World.block_lt_of_cell? W _ h)).trans h

structure BelowW (w : World) where
  world : World
  below : Below w.heap.size w world
instance belowWInhabited (w : World) : Inhabited (BelowW w) := ⟨⟨w, Below.refl _ _⟩⟩
theorem wp_region_below {P : Program} {id : Nat} {Q : Exit → Act → World → Prop} {a : Act} {w : World} {l : List Oper} (hm : P.follows .mixedOrders = true) (hB : Region.lexB .any l.toArray = true)
    (h : wpQuiet P l.toArray (fun w' => ∃ p : BelowW w, w' = p.world) (fun a' => ∀ w', (∃ p : BelowW w, w' = p.world) → Q .normal a' w') l a) : (Code.region id l.toArray true).wp P Q a w :=
  wp_region_quiet (C := fun w' => ∃ p : BelowW w, w' = p.world) hm hB ⟨⟨w.drew, (Below.refl _ _).drew⟩, rfl⟩ (by simpa using h)
theorem cellBW {w : World} {a : Addr} {v : Value} (h : w.cell? a = some v) (p : BelowW w) : p.world.cell? a = some v := keepCell p.below h
theorem callsBW {P : Program} {f : FuncId} {args : Array Value} {w : World} {v : Value} {p : BelowW w}
    (h : Calls P f args p.world fun e w' => e = .returned v ∧ Below p.world.heap.size p.world w') : Calls P f args p.world fun e w'' => e = .returned v ∧ ∃ q : BelowW w, w'' = q.world :=
  h.mono fun _ w' ⟨he, hq⟩ => ⟨he, ⟨w', bNext hq p.below⟩, rfl⟩
end Go.Proofs.YtokghjnkfabgiaaGreatDoor
