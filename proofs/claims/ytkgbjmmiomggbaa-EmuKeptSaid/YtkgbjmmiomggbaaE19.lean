import Derived.Test.YtkgbjmmiomggbaaE9
import Derived.Test.YtkgbjmmiomggbaaKeep
import Derived.Outline
namespace Go.Proofs.Ytkgbjmmiomggbaa
open Go.RowKit
set_option linter.unusedVariables false
attribute [local go_sem ↓] Go.wp_at_zero Go.wp_at_succ

theorem addr_add_none (b off j : Nat) : (Addr.mk b off none).add j = ⟨b, off + j, none⟩ := by
  unfold Addr.add
  split
  · rename_i h; rw [show off + j = off from by omega]
  · rfl
/-- A slice of numbers, as a source of an append. -/
theorem int_src {w : World} {v : Value} {xs : List Int} (h : (Rep.int .i64).Sl w v xs) : Src w v xs.length (xs.map (Value.int .i64)) := by
  obtain ⟨a, cap, rfl, hle, _, h2, h4⟩ := h
  cases a with
  | none =>
    have hc : cap = 0 := h2 rfl
    have hx : xs.length = 0 := by omega
    obtain rfl := List.eq_nil_of_length_eq_zero hx
    exact .inl ⟨by rw [hc]; rfl, rfl, rfl⟩
  | some ad =>
    refine .inr ⟨ad, cap, rfl, fun j z hz => ?_⟩
    have hj : j < xs.length := by
      have := (List.getElem?_eq_some_iff.1 hz).1
      simpa using this
    obtain ⟨b, off, cs, e, ⟨rfl, _⟩, hc⟩ := h4 j hj
    cases e
    rw [addr_add_none]
    have := hc 0 (.int .i64 xs[j]) rfl
    rw [List.getElem?_map, List.getElem?_eq_getElem hj] at hz
    cases hz
    simpa [Rep.int, Rep.flat] using this
end Go.Proofs.Ytkgbjmmiomggbaa
