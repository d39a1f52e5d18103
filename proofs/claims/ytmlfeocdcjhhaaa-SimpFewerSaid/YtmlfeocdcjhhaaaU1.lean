import Derived.Test.YtmlfeocdcjhhaaaPE8
import Derived.Lib.SlicesCompact
namespace Go.Proofs.Ytmlfeocdcjhhaaa
set_option maxRecDepth 100000
set_option linter.unusedVariables false
set_option linter.unusedSimpArgs false

/-! Which buffers operations load, rising: plain. -/
def insU (k : Int) : List Int → List Int
  | [] => [k]
  | x :: xs => if x < k then x :: insU k xs else if x = k then x :: xs else k :: x :: xs
theorem insU_mem {k x : Int} : ∀ {l : List Int}, x ∈ insU k l ↔ x = k ∨ x ∈ l
  | [] => by simp [insU]
  | y :: l => by
    rw [insU]
    by_cases h1 : y < k
    · rw [if_pos h1, List.mem_cons, List.mem_cons, insU_mem]
      constructor
      · rintro (h | h | h) <;> simp [h]
      · rintro (h | h | h) <;> simp [h]
    · rw [if_neg h1]
      by_cases h2 : y = k
      · subst h2
        rw [if_pos rfl, List.mem_cons]
        constructor
        · rintro (h | h) <;> simp [h]
        · rintro (h | h | h) <;> simp [h]
      · rw [if_neg h2, List.mem_cons]
theorem insU_rises {k : Int} : ∀ {l : List Int}, l.Pairwise (· < ·) → (insU k l).Pairwise (· < ·)
  | [], h => by simp [insU]
  | y :: l, h => by
    have h0 := List.pairwise_cons.1 h
    rw [insU]
    by_cases h1 : y < k
    · rw [if_pos h1, List.pairwise_cons]
      refine ⟨fun x hx => ?_, insU_rises h0.2⟩
      rcases insU_mem.1 hx with rfl | hx
      · exact h1
      · exact h0.1 x hx
    · rw [if_neg h1]
      by_cases h2 : y = k
      · rw [if_pos h2]; exact h
      · rw [if_neg h2, List.pairwise_cons]
        refine ⟨fun x hx => ?_, h⟩
        rcases List.mem_cons.1 hx with rfl | hx
        · omega
        · have := h0.1 x hx; omega
def foldU (l : List Int) (o : List Int) : List Int := l.foldl (fun o k => insU k o) o
theorem foldU_mem {x : Int} : ∀ {l o : List Int}, x ∈ foldU l o ↔ x ∈ l ∨ x ∈ o
  | [], o => by simp [foldU]
  | k :: l, o => by
    show x ∈ foldU l (insU k o) ↔ _
    rw [foldU_mem, insU_mem, List.mem_cons]
    constructor
    · rintro (h | h | h) <;> simp [h]
    · rintro ((h | h) | h) <;> simp [h]
theorem foldU_rises : ∀ {l o : List Int}, o.Pairwise (· < ·) → (foldU l o).Pairwise (· < ·)
  | [], o, h => h
  | k :: l, o, h => foldU_rises (l := l) (o := insU k o) (insU_rises h)
def loadK (o : Cop) : List Int := if o.how = 4 then [o.k] else []
def loadsK (l : List Cop) : List Int := l.flatMap loadK
def usesS (l : List Cop) : List Int := foldU (loadsK l) []
theorem uses_mem {x : Int} {l : List Cop} : x ∈ usesS l ↔ x ∈ loadsK l := by unfold usesS; rw [foldU_mem]; simp
theorem uses_rises (l : List Cop) : (usesS l).Pairwise (· < ·) := foldU_rises List.Pairwise.nil
theorem rises_eq : ∀ {l m : List Int}, l.Pairwise (· < ·) → m.Pairwise (· < ·) → (∀ x, x ∈ l ↔ x ∈ m) → l = m
  | [], m, _, _, h => by
    cases m with
    | nil => rfl
    | cons y m => exact absurd ((h y).2 List.mem_cons_self) (by simp)
  | x :: l, [], _, _, h => absurd ((h x).1 List.mem_cons_self) (by simp)
  | x :: l, y :: m, h1, h2, h => by
    obtain ⟨a1, a2⟩ := List.pairwise_cons.1 h1
    obtain ⟨b1, b2⟩ := List.pairwise_cons.1 h2
    have e : x = y := by
      rcases List.mem_cons.1 ((h x).1 List.mem_cons_self) with e | hx
      · exact e
      · rcases List.mem_cons.1 ((h y).2 List.mem_cons_self) with e | hy
        · exact e.symm
        · have := b1 x hx; have := a1 y hy; omega
    subst e
    rw [rises_eq a2 b2 fun z => ?_]
    have hz := h z
    rw [List.mem_cons, List.mem_cons] at hz
    constructor
    · intro hl
      rcases hz.1 (.inr hl) with rfl | hm
      · have := a1 z hl; omega
      · exact hm
    · intro hm
      rcases hz.2 (.inr hm) with rfl | hl
      · have := b1 z hm; omega
      · exact hl
theorem compact_rises {zs : List Int} (hs : zs.Pairwise (· ≤ ·)) : ∀ m, m ≤ zs.length → (Lib.compactUpTo zs.toArray m).Pairwise (· < ·) ∧ ∀ x, x ∈ Lib.compactUpTo zs.toArray m ↔ ∃ j, ∃ h : j < zs.length, j < m ∧ zs[j] = x
  | 0, _ => ⟨by simp [Lib.compactUpTo], fun x => by simp [Lib.compactUpTo]⟩
  | m + 1, hm => by
    obtain ⟨h1, h2⟩ := compact_rises hs m (by omega)
    have hml : m < zs.length := by omega
    have hg : ∀ j, (h : j < zs.length) → zs.toArray[j]! = zs[j] := fun j h => by simp [h]
    have hle : ∀ i j, (hi : i < zs.length) → (hj : j < zs.length) → i < j → zs[i] ≤ zs[j] := fun i j hi hj hij => List.pairwise_iff_getElem.1 hs i j hi hj hij
    rw [Lib.compactUpTo_succ]
    by_cases hk : Lib.keeps zs.toArray m = true
    · rw [if_pos hk, hg m hml]
      refine ⟨List.pairwise_append.2 ⟨h1, List.pairwise_singleton _ _, fun a ha b hb => ?_⟩, fun x => ?_⟩
      · rw [List.mem_singleton.1 hb]
        obtain ⟨j, hj, hjm, rfl⟩ := (h2 a).1 ha
        unfold Lib.keeps at hk
        rw [hg m hml, hg (m - 1) (by omega)] at hk
        simp only [decide_eq_true_eq] at hk
        have hne : zs[m] ≠ zs[m - 1] := by
          rcases hk with h | h
          · omega
          · exact h
        have l1 := hle (m - 1) m (by omega) hml (by omega)
        have l2 : zs[j] ≤ zs[m - 1] := by
          by_cases e : j = m - 1
          · subst e; exact Int.le_refl _
          · exact hle j (m - 1) hj (by omega) (by omega)
        omega
      · rw [List.mem_append, List.mem_singleton, h2]
        constructor
        · rintro (⟨j, hj, hjm, rfl⟩ | rfl)
          · exact ⟨j, hj, by omega, rfl⟩
          · exact ⟨m, hml, by omega, rfl⟩
        · rintro ⟨j, hj, hjm, rfl⟩
          by_cases e : j = m
          · subst e; exact .inr rfl
          · exact .inl ⟨j, hj, by omega, rfl⟩
    · rw [if_neg hk, List.append_nil]
      refine ⟨h1, fun x => ?_⟩
      rw [h2]
      constructor
      · rintro ⟨j, hj, hjm, rfl⟩; exact ⟨j, hj, by omega, rfl⟩
      · rintro ⟨j, hj, hjm, rfl⟩
        by_cases e : j = m
        · subst e
          unfold Lib.keeps at hk
          simp only [decide_eq_true_eq, not_or, Decidable.not_not] at hk
          have hk2 := hk.2
          rw [hg j hml, hg (j - 1) (by omega)] at hk2
          exact ⟨j - 1, by omega, by omega, hk2.symm⟩
        · exact ⟨j, hj, by omega, rfl⟩
theorem compact_uses (l : List Cop) : Lib.compact ((loadsK l).mergeSort fun x y => decide (x ≤ y)) = usesS l := by
  have hs : ((loadsK l).mergeSort fun x y => decide (x ≤ y)).Pairwise (· ≤ ·) := by
    have := List.pairwise_mergeSort (le := fun x y : Int => decide (x ≤ y)) (by intro a b c h1 h2; simp at *; omega) (by intro a b; simp; omega) (loadsK l)
    exact this.imp (by intro a b h; simpa using h)
  obtain ⟨h1, h2⟩ := compact_rises hs _ (Nat.le_refl _)
  refine rises_eq h1 (uses_rises l) fun x => ?_
  unfold Lib.compact
  rw [h2, uses_mem, ← (List.mergeSort_perm (loadsK l) fun x y => decide (x ≤ y)).mem_iff]
  constructor
  · rintro ⟨j, hj, _, rfl⟩; exact List.getElem_mem hj
  · intro hx
    obtain ⟨j, hj, e⟩ := List.getElem_of_mem hx
    exact ⟨j, hj, hj, e⟩
theorem len_subset : ∀ {l m : List Int}, l.Pairwise (· < ·) → (∀ x ∈ l, x ∈ m) → l.length ≤ m.length
  | [], m, _, _ => Nat.zero_le _
  | x :: l, m, h1, h => by
    obtain ⟨a1, a2⟩ := List.pairwise_cons.1 h1
    have hx := h x List.mem_cons_self
    have := len_subset (l := l) (m := m.erase x) a2 fun y hy => by
      have hne : y ≠ x := fun e => by subst e; have := a1 y hy; omega
      exact (List.mem_erase_of_ne hne).2 (h y (List.mem_cons_of_mem _ hy))
    rw [List.length_erase_of_mem hx] at this
    have := List.length_pos_of_mem hx
    simp only [List.length_cons]
    omega
end Go.Proofs.Ytmlfeocdcjhhaaa
