import Derived.Test.YtabodlhlanolcaaPB14
import Derived.SizedLaws
namespace Go.Proofs.Ytabodlhlanolcaa
set_option maxRecDepth 100000
open Go.RowKit Go.ChangeShapes Go.WideShapes Go.Deep Go.Joins
set_option linter.unusedVariables false
set_option linter.unusedSimpArgs false

section
variable {H : Type} {enc : TypeId × Value → H} {w : World} {base : Nat} {spare : Nat → Bool} {held : Bool}
theorem slice_weightO {n l c : Nat} {a : Option Addr} {y : DataW H × List MemPlace} (h : DataW.trod enc Try.prog w base spare held n 42 [.slice a l c] = some y) (hw : ∀ k ∈ y.1.weights Try.prog 42, k ≤ reachBytes) : l ≤ 2513169434843 := by
  rcases open_slice Try.underlying42 h with ⟨hcs, _⟩ | ⟨a', len, cap, m, n', D, Pl, hcs, _, hl, hm, hmm, rfl, _⟩
  · simp at hcs
    omega
  · simp only [List.cons.injEq, Value.slice.injEq, and_true] at hcs
    obtain ⟨_, rfl, _⟩ := hcs
    have h8 : Try.prog.bytesOf 48 = 56 := by kernel_rfl
    have := hw ((((List.range l).map D).length + ((List.range (m - l)).map fun j => D (l + j)).length) * Try.prog.bytesOf 48) (by
      simp only [DataW.weights, Try.underlying42]
      exact List.mem_cons_self)
    rw [h8, List.length_map, List.length_range] at this
    unfold reachBytes at this
    omega
theorem open_copsS {v : Value} {d : DataW H} {p : List MemPlace} {r : Reach} {b0 : Nat} (hv : Value.okWide Try.prog w r b0 42 v) (h : DataW.Trod enc Try.prog w base spare held 42 v d p) :
    ∃ l, copRep.Sl w v l ∧ ((∀ n ∈ d.weights Try.prog 42, n ≤ reachBytes) → l.length ≤ 2513169434843) := by
  obtain ⟨l, s⟩ := opens_sl Try.underlying42 opens_cops hv h
  refine ⟨l, s, fun hw => ?_⟩
  have f := s
  obtain ⟨a, c, rfl, _⟩ := f
  obtain ⟨m, hm⟩ := h
  exact slice_weightO hm hw
end
end Go.Proofs.Ytabodlhlanolcaa
