import Derived.Test.YtabodlhlanolcaaRep
import Derived.JoinedCond
namespace Go.Proofs.Ytabodlhlanolcaa
set_option maxRecDepth 100000
open Go.RowKit Go.ChangeShapes Go.WideShapes Go.Deep

theorem bulk_length {H : Type} (l : List (DataW H)) : l.length ≤ Rows.uptoBulkAll l := by
  induction l with
  | nil => simp [Rows.uptoBulkAll]
  | cons x r ih =>
    have : 1 ≤ Rows.uptoBulk x := by
      cases x with
      | lit l => cases l <;> simp [Rows.uptoBulk]
      | _ => simp [Rows.uptoBulk]
    simp only [Rows.uptoBulkAll, List.length_cons]
    omega
/-- A slice has no more elements than what it reads as has values. -/
theorem trod_slice_bulk {H : Type} {enc : TypeId × Value → H} {t e : TypeId} (ht : Try.prog.underlying t = some (.slice e)) {w : World} {base : Nat} {spare : Nat → Bool} {held : Bool} {v : Value} {a : Option Addr} {n c : Nat} (hv : v = .slice a n c) {d : DataW H} {p : List MemPlace}
    (h : DataW.Trod enc Try.prog w base spare held t v d p) : n ≤ Rows.uptoBulk d := by
  subst hv
  obtain ⟨m, hm⟩ := h
  rcases open_slice ht hm with ⟨e1, _⟩ | ⟨a', len, cap, m', n', D, Pl, e1, _, _, _, _, e2, _⟩
  · simp [Value.cells] at e1
    omega
  · simp [Value.cells] at e1
    simp only [Prod.mk.injEq] at e2
    rw [e2.1]
    have := bulk_length ((List.range len).map D)
    simp only [Rows.uptoBulk]
    simp at this
    omega
theorem sl_bulk {α : Type} {R : Rep α} {H : Type} {enc : TypeId × Value → H} {t e : TypeId} (ht : Try.prog.underlying t = some (.slice e)) {w : World} {base : Nat} {spare : Nat → Bool} {held : Bool} {v : Value} {xs : List α} (hs : R.Sl w v xs) {d : DataW H} {p : List MemPlace}
    (h : DataW.Trod enc Try.prog w base spare held t v d p) : xs.length ≤ Rows.uptoBulk d := by
  obtain ⟨a, c, e, _⟩ := hs
  exact trod_slice_bulk ht e h
end Go.Proofs.Ytabodlhlanolcaa
