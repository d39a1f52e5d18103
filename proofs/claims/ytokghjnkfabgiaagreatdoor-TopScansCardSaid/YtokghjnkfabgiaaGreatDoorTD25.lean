import Derived.Test.YtokghjnkfabgiaaGreatDoorTD24
import Derived.Test.YtokghjnkfabgiaaGreatDoorTD4
set_option linter.unusedVariables false
set_option linter.unusedSimpArgs false
set_option maxRecDepth 100000
-- DROPS
namespace Go.Proofs.YtokghjnkfabgiaaGreatDoor
open Go.RowKit

theorem chunks_flatten (m : Nat) (d : List Int) : ∀ k, (chunks m d k).flatten = d.take (k * m)
 | 0 => by simp [chunks]
 | k + 1 => by
  rw [chunks_succ, List.flatten_append, chunks_flatten m d k, Nat.succ_mul, List.take_add]
  simp

theorem RowI.lit {B : Nat} {W : World} {v : Value} {xs : List Int} (h : RowI B W v xs) (h0 : 0 < xs.length) : ∃ g c, v = .slice (some ⟨g, 0, none⟩) xs.length c ∧ B ≤ g ∧ g < W.heap.size := by
 obtain ⟨_, ⟨rfl, h1⟩ | ⟨g, cap, cur, rfl, hb, hg, _⟩⟩ := h
 ·omega
 ·exact ⟨g, cap, rfl, hb, (Array.getElem?_eq_some_iff.1 hg).1⟩

theorem RowI.stored {B g c n : Nat} {W : World} {xs : List Int} (hn : n = xs.length) (h : RowI B W (.slice (some ⟨g, 0, none⟩) n c) xs) (k : Nat) (x : Int) : RowI B (W.setCell ⟨g, k, none⟩ (.int .i64 x)) (.slice (some ⟨g, 0, none⟩) n c) (xs.set k x) := by
 subst hn
 have := (World.ownsRow.stored (w := W) (show W.ownsRow B 2 1 _ _ _ from h) k (.int .i64 x)).1
 unfold RowI
 rw [List.length_set, List.map_set]
 exact this
end Go.Proofs.YtokghjnkfabgiaaGreatDoor
