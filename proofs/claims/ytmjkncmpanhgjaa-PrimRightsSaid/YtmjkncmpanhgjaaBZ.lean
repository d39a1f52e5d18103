import Derived.Test.YtmjkncmpanhgjaaBX
namespace Go.Proofs.Ytmjkncmpanhgjaa
set_option maxRecDepth 100000
open Go.RowKit
set_option linter.unusedVariables false
set_option linter.unusedSimpArgs false

/-! What the walks of PrimRavels and PrimPieces share. -/
theorem SlA.ints {w : World} {a : Option Addr} {n c : Nat} {xs : List Int} (h : SlA w (.slice a n c) xs) : IntsAt .i64 w a xs := by
  obtain ⟨a', c', e, _, _, _, h, _⟩ := h
  simp only [Value.slice.injEq] at e
  rw [e.1]; exact h
theorem KeptR.du {W : World} {b n c : Nat} {v : Value} {a : Option Addr} {s d : List Int} (h : KeptR W b v (.slice a n c) s d) : IntsAt .i64 W a d := h.su.ints
theorem vec_arg (W : World) (a : Option Addr) (c : Nat) (xs : List Int) (hl : xs.length ≤ 9223372036854775807) :
    Calls Try.prog 27 #[.slice a xs.length c] W fun e w' => ∃ a' c', e = .returned (.agg #[.slice a' 1 c', .slice a xs.length c]) ∧ SlA w' (.slice a' 1 c') [(xs.length : Int)] ∧ Below W.heap.size W w' := by
  refine (vector_any W (.slice a xs.length c) xs ⟨a, c, rfl⟩).mono ?_
  rintro e w' ⟨u, rfl, hu, hb⟩
  obtain ⟨a', c', rfl, -, -⟩ := hu.slice
  exact ⟨a', c', rfl, hu.sl (fun x hx => by rw [List.mem_singleton.1 hx]; exact In64.nat hl), hb⟩
theorem SlA.le {w : World} {v : Value} {xs : List Int} (h : SlA w v xs) : xs.length ≤ 9223372036854775807 := by
  obtain ⟨_, _, _, h1, h2, _⟩ := h
  unfold maxLen at h2; omega
theorem ints_any' {W : World} {a a2 : Option Addr} {n m c c2 : Nat} {xs ys : List Int} (h : SlA W (.slice a n c) xs) (g : SlA W (.slice a2 m c2) ys) :
    Calls Try.prog 28 #[.slice a n c, .slice a2 m c2] W fun e w' => e = .returned (.bool (ints xs ys)) ∧ ∃ k, w' = W.drewN k := by
  obtain ⟨a', c', e, h1, h2, _, h4, _⟩ := h
  obtain ⟨b', d', e', g1, g2, _, g4, _⟩ := g
  simp only [Value.slice.injEq] at e e'
  obtain ⟨rfl, rfl, rfl⟩ := e
  obtain ⟨rfl, rfl, rfl⟩ := e'
  exact ints_any W a a2 c c2 xs ys (Nat.le_trans h1 h2) (Nat.le_trans g1 g2) h4 g4
end Go.Proofs.Ytmjkncmpanhgjaa
