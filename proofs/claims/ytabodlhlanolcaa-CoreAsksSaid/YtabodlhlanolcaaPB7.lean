import Derived.Test.YtabodlhlanolcaaPB3
import Derived.Laws.CopyRow
import Derived.Test.YtabodlhlanolcaaPB2
namespace Go.Proofs.Ytabodlhlanolcaa
set_option linter.unusedVariables false
set_option linter.unusedSimpArgs false
set_option maxRecDepth 100000
open Go.RowKit

theorem range_set {α : Type} (f : Nat → α) (n k : Nat) (x : α) : ((List.range n).map f).set k x = (List.range n).map (fun j => if j = k then x else f j) := by
  apply List.ext_getElem?
  intro i
  by_cases hi : i < n
  · by_cases hk : k = i
    · subst hk; simp [hi]
    · have hk' : ¬ i = k := fun e => hk e.symm
      rw [List.getElem?_set_ne hk]; simp [hi, hk']
  · rw [List.getElem?_eq_none (by simp; omega), List.getElem?_eq_none (by simp; omega)]
end Go.Proofs.Ytabodlhlanolcaa

namespace Go.Proofs.Ytabodlhlanolcaa
set_option maxRecDepth 100000
open Go.RowKit
set_option linter.unusedVariables false
set_option linter.unusedSimpArgs false

def rowOf (n : Nat) (f : Nat → Value) : Array Value := ((List.range n).map f).toArray
theorem rowOf_get {n k : Nat} {f : Nat → Value} (h : k < n) : (rowOf n f)[k]? = some (f k) := by simp [rowOf, h]
theorem rowOf_cell {w : World} {G n k : Nat} {t : TypeId} {f : Nat → Value} (hg : w.heap[G]? = some (.cells (rowOf n f) t (0, 0))) (h : k < n) : w.cell? ⟨G, k, none⟩ = some (f k) := by
  rw [cell_of_row w G _ _ _ _ hg]; exact rowOf_get h
theorem rowOf_congr {n : Nat} {f g : Nat → Value} (h : ∀ j, j < n → f j = g j) : rowOf n f = rowOf n g := by unfold rowOf; rw [List.map_congr_left fun j hj => h j (List.mem_range.1 hj)]
theorem rowOf_set {w : World} {G n k : Nat} {t : TypeId} {f g : Nat → Value} {v : Value} (hg : w.heap[G]? = some (.cells (rowOf n f) t (0, 0))) (h : k < n) (hv : g k = v) (hne : ∀ j, j < n → j ≠ k → g j = f j) :
    (w.setCell ⟨G, k, none⟩ v).heap[G]? = some (.cells (rowOf n g) t (0, 0)) := by
  rw [heap_setCell_same w G _ _ _ _ hg]
  congr 2
  unfold rowOf
  simp only [List.setIfInBounds_toArray]
  rw [range_set]
  congr 1
  exact List.map_congr_left fun j hj => by
    by_cases e : j = k
    · rw [if_pos e, e, hv]
    · rw [if_neg e, hne j (List.mem_range.1 hj) e]
theorem own_below {w w' : World} {B : Nat} {t : TypeId} {size n : Nat} {v : Value} {xs : List Value} (h : w.ownsRow B t size v n xs) (hb : Below w.heap.size w w') : w'.ownsRow B t size v n xs := by
  obtain ⟨h1, h2 | ⟨g, cap, cur, rfl, hb', hg, h3⟩⟩ := h
  · exact ⟨h1, .inl h2⟩
  · exact ⟨h1, .inr ⟨g, cap, cur, rfl, hb', (hb.block g (Array.getElem?_eq_some_iff.1 hg).1).trans hg, h3⟩⟩
theorem own_other {w : World} {B : Nat} {t : TypeId} {size n : Nat} {v : Value} {xs : List Value} (h : w.ownsRow B t size v n xs) {p : Addr} (hp : ∀ g, v.ownBlock = some g → g ≠ p.block) (u : Value) : (w.setCell p u).ownsRow B t size v n xs := by
  obtain ⟨h1, h2 | ⟨g, cap, cur, rfl, hb', hg, h3⟩⟩ := h
  · exact ⟨h1, .inl h2⟩
  · exact ⟨h1, .inr ⟨g, cap, cur, rfl, hb', (Below.heap_setCell _ _ _ _ (hp g rfl)).trans hg, h3⟩⟩
theorem block_other {w : World} {G : Nat} {o : Obj} (h : w.heap[G]? = some o) {p : Addr} (hp : p.block ≠ G) (u : Value) : (w.setCell p u).heap[G]? = some o := (Below.heap_setCell _ _ _ _ (Ne.symm hp)).trans h
theorem block_lt {w : World} {G : Nat} {o : Obj} (h : w.heap[G]? = some o) : G < w.heap.size := (Array.getElem?_eq_some_iff.1 h).1
end Go.Proofs.Ytabodlhlanolcaa
