import Derived.Test.YtiogopichcnihaaElem
import Derived.Test.YtiogopichcnihaaRep
import Derived.Test.YtiogopichcnihaaRows1
namespace Go.Proofs.Ytiogopichcnihaa
set_option maxRecDepth 100000
open Go.RowKit Go.ChangeShapes Go.WideShapes Go.Deep

section
variable {α : Type} {n : Nat} {enc : α → List Value} {wf : α → Prop} (hl : ∀ x, (enc x).length = n) (h1 : ∀ x, ∀ v ∈ enc x, v.oneCell' = true)
/-- What lies in a row of the call's own reads as its things. -/
theorem flat_own {B : Nat} {W : World} {t : TypeId} {v : Value} {xs : List α} (h : W.ownsRow B t n v xs.length (xs.flatMap enc)) (hw : ∀ x ∈ xs, wf x) :
    (Rep.flat n enc wf hl h1).Sl W v xs := by
  rcases h.2 with ⟨e, h0⟩ | ⟨g, cap, cur, e, hb, hg, hn, hm, hs, ht⟩
  · obtain rfl := List.eq_nil_of_length_eq_zero h0
    exact ⟨none, 0, e, Nat.le_refl _, Nat.zero_le _, fun _ => rfl, Rep.Els.nil _ _ _⟩
  · subst e
    refine ⟨_, _, rfl, hn, hm, (fun e => by cases e), fun i hi => ⟨_, _, enc xs[i], rfl, ⟨rfl, hw _ (List.getElem_mem hi)⟩, fun j v hj => ?_⟩⟩
    have hjn : j < n := by rw [← hl xs[i]]; exact (List.getElem?_eq_some_iff.1 hj).1
    rw [show 0 + i * (Rep.flat n enc wf hl h1).n + j = i * n + j from by rw [Nat.zero_add]; rfl, h.cellAt _ (Nat.lt_of_lt_of_le (by rw [Nat.succ_mul]; omega : i * n + j < (i + 1) * n) (Nat.mul_le_mul_right n hi)), flatMap_get hl xs i hi j hjn, hj]
theorem flat_form {B : Nat} {W : World} {t : TypeId} {v : Value} {vs : List Value} {k : Nat} (h : W.ownsRow B t n v k vs) (h0 : 0 < k) : ∃ g cap, v = .slice (some ⟨g, 0, none⟩) k cap ∧ B ≤ g ∧ g < W.heap.size ∧ k ≤ cap ∧ cap ≤ maxLen := by
  rcases h.2 with ⟨e, h1⟩ | ⟨g, cap, cur, e, hb, hg, hn, hm, hs, ht⟩
  · omega
  · exact ⟨g, cap, e, hb, (Array.getElem?_eq_some_iff.1 hg).1, hn, hm⟩
theorem flat_lit (W : World) (t : TypeId) (xs : List α) (hm : xs.length ≤ maxLen) (hw : ∀ x ∈ xs, wf x) :
    (Rep.flat n enc wf hl h1).Els (W.alloc (.cells (xs.flatMap enc).toArray t)) (some ⟨W.heap.size, 0, none⟩) xs := by
  have h := World.ownsRow_lit (e := t) (size := n) (base := W.heap.size) W (xs.flatMap enc).toArray xs.length (Nat.le_refl _) hm (by simp only [List.size_toArray]; exact flatMap_len hl xs)
  obtain ⟨a, cap, e, _, _, _, h⟩ := flat_own (wf := wf) hl h1 h hw
  cases e
  exact h
end
end Go.Proofs.Ytiogopichcnihaa
