import Derived.Test.YtmlfeocdcjhhaaaPH4
import Derived.Laws.CopyRow
import Derived.Test.YtmlfeocdcjhhaaaPH3
import Derived.Test.YtmlfeocdcjhhaaaPH1
namespace Go.Proofs.Ytmlfeocdcjhhaaa
set_option linter.unusedVariables false
set_option linter.unusedSimpArgs false
set_option maxRecDepth 100000
open Go.RowKit

theorem flatMap_len {α : Type} {enc : α → List Value} {n : Nat} (hl : ∀ x, (enc x).length = n) (xs : List α) : (xs.flatMap enc).length = xs.length * n := by
  induction xs with
  | nil => simp
  | cons y r ih => rw [List.flatMap_cons, List.length_append, ih, hl, List.length_cons, Nat.succ_mul, Nat.add_comm]
theorem flatMap_get {α : Type} {enc : α → List Value} {n : Nat} (hl : ∀ x, (enc x).length = n) : ∀ (xs : List α) (k : Nat), (h : k < xs.length) → ∀ j, j < n → (xs.flatMap enc)[k * n + j]? = (enc xs[k])[j]?
  | [], _, h, _, _ => absurd h (Nat.not_lt_zero _)
  | y :: r, 0, _, j, hj => by
    rw [List.flatMap_cons, Nat.zero_mul, Nat.zero_add, List.getElem?_append_left (by rw [hl]; exact hj)]; rfl
  | y :: r, k + 1, h, j, hj => by
    rw [List.flatMap_cons, List.getElem?_append_right (by rw [hl, Nat.succ_mul]; omega), hl, show (k + 1) * n + j - n = k * n + j from by rw [Nat.succ_mul]; omega]
    exact flatMap_get hl r k (by simpa using h) j hj

theorem made_flat {α : Type} {enc : α → List Value} {m : Nat} (hl : ∀ x, (enc x).length = m) (x0 : α) (n : Nat) : (madeCells (enc x0).toArray (n * m)).toList = (List.replicate n x0).flatMap enc := by
  apply List.ext_getElem?
  intro i
  by_cases hi : i < n * m
  · have hm : 0 < m := by rcases Nat.eq_zero_or_pos m with h | h; · subst h; omega
                          · exact h
    have hk : i / m < n := Nat.div_lt_of_lt_mul (by rw [Nat.mul_comm]; exact hi)
    have hg := flatMap_get hl (List.replicate n x0) (i / m) (by simpa using hk) (i % m) (Nat.mod_lt _ hm)
    rw [Nat.mul_comm, Nat.div_add_mod] at hg
    rw [hg]
    simp only [List.getElem_replicate]
    have hm2 : i % m < (enc x0).length := by rw [hl]; exact Nat.mod_lt _ hm
    rw [List.getElem?_eq_getElem hm2]
    simp [madeCells, hi, hl, List.getElem?_eq_getElem hm2]
  · rw [List.getElem?_eq_none (by simp [madeCells]; omega), List.getElem?_eq_none (by rw [flatMap_len hl]; simp; omega)]
theorem range_set {α : Type} (f : Nat → α) (n k : Nat) (x : α) : ((List.range n).map f).set k x = (List.range n).map (fun j => if j = k then x else f j) := by
  apply List.ext_getElem?
  intro i
  by_cases hi : i < n
  · by_cases hk : k = i
    · subst hk; simp [hi]
    · have hk' : ¬ i = k := fun e => hk e.symm
      rw [List.getElem?_set_ne hk]; simp [hi, hk']
  · rw [List.getElem?_eq_none (by simp; omega), List.getElem?_eq_none (by simp; omega)]
end Go.Proofs.Ytmlfeocdcjhhaaa

namespace Go.Proofs.Ytmlfeocdcjhhaaa
set_option maxRecDepth 100000
open Go.RowKit
set_option linter.unusedVariables false
set_option linter.unusedSimpArgs false

def rowOf (n : Nat) (f : Nat → Value) : Array Value := ((List.range n).map f).toArray
theorem rowOf_get {n k : Nat} {f : Nat → Value} (h : k < n) : (rowOf n f)[k]? = some (f k) := by simp [rowOf, h]
theorem rowOf_cell {w : World} {G n k : Nat} {t : TypeId} {f : Nat → Value} (hg : w.heap[G]? = some (.cells (rowOf n f) t (0, 0))) (h : k < n) : w.cell? ⟨G, k, none⟩ = some (f k) := by
  rw [cell_of_row w G _ _ _ _ hg]; exact rowOf_get h
theorem rowOf_congr {n : Nat} {f g : Nat → Value} (h : ∀ j, j < n → f j = g j) : rowOf n f = rowOf n g := by unfold rowOf; rw [List.map_congr_left fun j hj => h j (List.mem_range.1 hj)]
theorem rowOf_set {w : World} {G n k : Nat} {t : TypeId} {f g : Nat → Value} {v : Value} (hg : w.heap[G]? = some (.cells (rowOf n f) t (0, 0))) (h : k < n) (hv : g k = v) (hne : ∀ j, j < n → j ≠ k → g j = f j) :
    (w.setCell ⟨G, k, none⟩ v).heap[G]? = some (.cells (rowOf n g) t (0, 0)) := by
  rw [heap_setCell_same w G _ _ _ _ hg]
  congr 2
  unfold rowOf
  simp only [List.setIfInBounds_toArray]
  rw [range_set]
  congr 1
  exact List.map_congr_left fun j hj => by
    by_cases e : j = k
    · rw [if_pos e, e, hv]
    · rw [if_neg e, hne j (List.mem_range.1 hj) e]
theorem madeOne (z : Value) (n : Nat) : (madeCells #[z] n).toList = List.replicate n z := by
  have := made_flat (enc := fun v : Value => [v]) (m := 1) (fun _ => rfl) z n
  simpa using this
/-- What make has laid, one cell each. -/
theorem row_made {w : World} {B G n : Nat} {t : TypeId} {z : Value} (h : w.ownsRow B t 1 (.slice (some ⟨G, 0, none⟩) n n) n (madeCells #[z] n).toList) : w.heap[G]? = some (.cells (rowOf n fun _ => z) t (0, 0)) := by
  rw [madeOne] at h
  obtain ⟨_, ⟨hv, _⟩ | ⟨g', cap, cur, hv, _, hg, _, _, hcs, ht⟩⟩ := h
  · cases hv
  · cases hv
    rw [hg]
    congr 2
    rw [List.take_of_length_le (by simp [hcs])] at ht
    have e : rowOf n (fun _ => z) = (List.replicate n z).toArray := by
      unfold rowOf
      congr 1
      apply List.ext_getElem?
      intro i
      by_cases hi : i < n
      · simp [hi]
      · rw [List.getElem?_eq_none (by simp; omega), List.getElem?_eq_none (by simp; omega)]
    rw [e, ← ht]
/-- a block of the call's own that is known whole, as a row -/
theorem own_row {w : World} {B G n size : Nat} {t : TypeId} {cur : Array Value} (hB : B ≤ G) (h : w.heap[G]? = some (.cells cur t (0, 0))) (hs : cur.size = n * size) (hm : n ≤ maxLen) : w.ownsRow B t size (.slice (some ⟨G, 0, none⟩) n n) n cur.toList :=
  ⟨by simpa using hs, .inr ⟨G, n, cur, rfl, hB, h, Nat.le_refl _, hm, hs, by rw [List.take_of_length_le (by simp [hs])]⟩⟩
theorem own_below {w w' : World} {B : Nat} {t : TypeId} {size n : Nat} {v : Value} {xs : List Value} (h : w.ownsRow B t size v n xs) (hb : Below w.heap.size w w') : w'.ownsRow B t size v n xs := by
  obtain ⟨h1, h2 | ⟨g, cap, cur, rfl, hb', hg, h3⟩⟩ := h
  · exact ⟨h1, .inl h2⟩
  · exact ⟨h1, .inr ⟨g, cap, cur, rfl, hb', (hb.block g (Array.getElem?_eq_some_iff.1 hg).1).trans hg, h3⟩⟩
theorem own_other {w : World} {B : Nat} {t : TypeId} {size n : Nat} {v : Value} {xs : List Value} (h : w.ownsRow B t size v n xs) {p : Addr} (hp : ∀ g, v.ownBlock = some g → g ≠ p.block) (u : Value) : (w.setCell p u).ownsRow B t size v n xs := by
  obtain ⟨h1, h2 | ⟨g, cap, cur, rfl, hb', hg, h3⟩⟩ := h
  · exact ⟨h1, .inl h2⟩
  · exact ⟨h1, .inr ⟨g, cap, cur, rfl, hb', (Below.heap_setCell _ _ _ _ (hp g rfl)).trans hg, h3⟩⟩
theorem block_below {w w' : World} {G : Nat} {o : Obj} (h : w.heap[G]? = some o) (hb : Below w.heap.size w w') : w'.heap[G]? = some o := (hb.block G (Array.getElem?_eq_some_iff.1 h).1).trans h
theorem block_grown {w w' : World} {G : Nat} {o : Obj} {row : Option Nat} (h : w.heap[G]? = some o) (hg : w.grownBy w' row) (hne : row ≠ some G) : w'.heap[G]? = some o := (hg.block G (Array.getElem?_eq_some_iff.1 h).1 (Ne.symm hne)).trans h
theorem block_other {w : World} {G : Nat} {o : Obj} (h : w.heap[G]? = some o) {p : Addr} (hp : p.block ≠ G) (u : Value) : (w.setCell p u).heap[G]? = some o := (Below.heap_setCell _ _ _ _ (Ne.symm hp)).trans h
theorem block_alloc {w : World} {G : Nat} {o : Obj} (h : w.heap[G]? = some o) (o' : Obj) : (w.alloc o').heap[G]? = some o := (Below.heap_alloc _ _ _ (Array.getElem?_eq_some_iff.1 h).1).trans h
theorem block_lt {w : World} {G : Nat} {o : Obj} (h : w.heap[G]? = some o) : G < w.heap.size := (Array.getElem?_eq_some_iff.1 h).1
end Go.Proofs.Ytmlfeocdcjhhaaa

namespace Go.Proofs.Ytmlfeocdcjhhaaa
set_option maxRecDepth 100000
open Go.RowKit
set_option linter.unusedVariables false
set_option linter.unusedSimpArgs false

def KeepTy (t : TypeId) (w w' : World) : Prop := ∀ (g : Nat) (cur : Array Value), w.heap[g]? = some (Obj.cells cur t (0, 0)) → w'.heap[g]? = some (Obj.cells cur t (0, 0))
theorem KeepTy.refl (t : TypeId) (w : World) : KeepTy t w w := fun _ _ h => h
theorem KeepTy.trans {t : TypeId} {a b c : World} (h : KeepTy t a b) (k : KeepTy t b c) : KeepTy t a c := fun g cur hg => k g cur (h g cur hg)
theorem KeepTy.below {t : TypeId} {w w' : World} (h : Below w.heap.size w w') : KeepTy t w w' := fun g cur hg => block_below hg h
/-- the block g is no row of the type t -/
def NotTy (t : TypeId) (w : World) (g : Nat) : Prop := ∀ (cur : Array Value), w.heap[g]? ≠ some (Obj.cells cur t (0, 0))
theorem NotTy.of {t u : TypeId} {w : World} {g : Nat} {cs : Array Value} {fr : Nat × Nat} (h : w.heap[g]? = some (.cells cs u fr)) (hne : u ≠ t) : NotTy t w g := fun cur e => by rw [h] at e; cases e; exact hne rfl
theorem KeepTy.kb {t : TypeId} {S : Nat → Prop} {w w' : World} (h : KB S w w') (hS : ∀ g, S g → NotTy t w g) : KeepTy t w w' := fun g cur hg =>
  (h.block g (Array.getElem?_eq_some_iff.1 hg).1 (fun hs => hS g hs cur hg)).trans hg
theorem KeepTy.grown {t : TypeId} {w w' : World} {row : Option Nat} (h : w.grownBy w' row) (hr : ∀ g, row = some g → NotTy t w g) : KeepTy t w w' := fun g cur hg =>
  block_grown hg h (fun e => hr g e cur hg)
theorem KeepTy.setCell {t : TypeId} {w : World} {p : Addr} (hp : NotTy t w p.block) (u : Value) : KeepTy t w (w.setCell p u) := fun g cur hg =>
  block_other hg (fun e => hp cur (e ▸ hg)) u
theorem own_keep {w w' : World} {B : Nat} {t : TypeId} {size n : Nat} {v : Value} {xs : List Value} (h : w.ownsRow B t size v n xs) (hk : KeepTy t w w') : w'.ownsRow B t size v n xs := by
  obtain ⟨h1, h2 | ⟨g, cap, cur, rfl, hb', hg, h3⟩⟩ := h
  · exact ⟨h1, .inl h2⟩
  · exact ⟨h1, .inr ⟨g, cap, cur, rfl, hb', hk g cur hg, h3⟩⟩
/-- a row's block is of its type -/
theorem own_typed {w : World} {B : Nat} {t : TypeId} {size n : Nat} {v : Value} {xs : List Value} (h : w.ownsRow B t size v n xs) {g : Nat} (e : v.ownBlock = some g) : ∃ cur, w.heap[g]? = some (.cells cur t (0, 0)) := by
  obtain ⟨h1, ⟨rfl, _⟩ | ⟨g', cap, cur, rfl, hb', hg, h3⟩⟩ := h
  · cases e
  · cases e; exact ⟨cur, hg⟩
theorem own_mono {w : World} {B B' : Nat} {t : TypeId} {size n : Nat} {v : Value} {xs : List Value} (h : w.ownsRow B t size v n xs) (hB : B' ≤ B) : w.ownsRow B' t size v n xs := by
  obtain ⟨h1, h2 | ⟨g, cap, cur, e, hb, h3⟩⟩ := h
  · exact ⟨h1, .inl h2⟩
  · exact ⟨h1, .inr ⟨g, cap, cur, e, Nat.le_trans hB hb, h3⟩⟩
theorem own_cell1 {w : World} {B : Nat} {t : TypeId} {size n : Nat} {v : Value} {xs : List Value} (h : w.ownsRow B t size v n xs) : v.oneCell' = true := by
  obtain ⟨h1, ⟨rfl, _⟩ | ⟨g, cap, cur, rfl, _⟩⟩ := h <;> rfl
end Go.Proofs.Ytmlfeocdcjhhaaa
