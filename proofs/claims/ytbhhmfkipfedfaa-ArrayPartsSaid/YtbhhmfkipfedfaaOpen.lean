import Derived.Test.YtbhhmfkipfedfaaBase
import Derived.Lib.SmallJoins
namespace Go.Proofs.Ytbhhmfkipfedfaa
open Go.ChangeShapes Go.WideShapes Go.ChangeAt Go.RowKit Go.Joins
open Go.ChangeMaps (open_string shut_string)
set_option linter.unusedVariables false

/-- v is a slice of numbers of kind k that reads as xs. -/
def SlI (k : IntKind) (w : World) (v : Value) (xs : List Int) : Prop :=
  ∃ a cap, v = .slice a xs.length cap ∧ xs.length ≤ cap ∧ cap ≤ maxLen ∧ IntsAt k w a xs ∧ ∀ x ∈ xs, (Lit.int k x).wf = true


section
variable {H : Type} {enc : TypeId × Value → H} {w : World} {base : Nat} {spare : Nat → Bool} {held : Bool}
theorem sl_of_trod {t e : TypeId} {k : IntKind} {n : Nat} {v : Value} {y : DataW H × List MemPlace} (ht : Try.prog.underlying t = some (.slice e)) (he : Try.prog.underlying e = some (.int k)) (hc : Try.prog.cellsOf e = 1)
    (h : DataW.trod enc Try.prog w base spare held n t [v] = some y) : ∃ xs, SlI k w v xs := by
  rcases open_ints ht he hc h with ⟨hcs, _⟩ | ⟨a, l, c, zs, hcs, _, hl, hm, hz, _, hcell, hwz⟩
  · simp at hcs
    subst hcs
    exact ⟨[], none, 0, rfl, Nat.le_refl _, Nat.zero_le _, IntsAt.nil _ _ _, by simp⟩
  · simp at hcs
    subst hcs
    have hlz : l ≤ zs.length := by rw [hz]; split <;> omega
    have hlen : (zs.take l).length = l := by simp [hlz]
    refine ⟨zs.take l, some a, c, by rw [hlen], by rw [hlen]; exact hl, hm, fun i hi => ?_, fun x hx => hwz x (List.mem_of_mem_take hx)⟩
    rw [hlen] at hi
    obtain ⟨b, off, spot⟩ := a
    have hc0 := hcell i (by omega)
    have hspot : spot = none := by simpa [Addr.add] using World.cell?_spot (hcell 0 (by omega))
    subst hspot
    have e : (⟨b, off, none⟩ : Addr).add i = ⟨b, off + i, none⟩ := by unfold Addr.add; split <;> simp_all
    rw [e] at hc0
    refine ⟨b, off, rfl, ?_⟩
    rw [hc0, List.getElem_take, List.getD_eq_getElem?_getD, List.getElem?_eq_getElem (by omega)]
    rfl
theorem sl_of_Trod {t e : TypeId} {k : IntKind} {v : Value} {d : DataW H} {p : List MemPlace} {r : Reach} {b0 : Nat} (ht : Try.prog.underlying t = some (.slice e)) (he : Try.prog.underlying e = some (.int k)) (hc : Try.prog.cellsOf e = 1)
    (hv : Value.okWide Try.prog w r b0 t v) (h : DataW.Trod enc Try.prog w base spare held t v d p) : ∃ xs, SlI k w v xs := by
  obtain ⟨a, l, c, rfl⟩ := okWide_slice ht hv
  obtain ⟨n, hn⟩ := h
  exact sl_of_trod ht he hc (by simpa [Value.cells] using hn)
end
end Go.Proofs.Ytbhhmfkipfedfaa
