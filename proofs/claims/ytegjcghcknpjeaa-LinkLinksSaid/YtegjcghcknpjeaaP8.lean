import Derived.Test.YtegjcghcknpjeaaOpen0
namespace Go.Proofs.Ytegjcghcknpjeaa

/-! What is linked is right, and the first pieces ahead of a wrong one are not wrong. -/
theorem fault_some {l : List Piece} {n : Nat} {e : Int} (h : fault l 0 l = some (n, e)) : n < l.length ∧ (e = 170 ∨ e = 171) ∧ ∀ k, (hk : k < l.length) → k < n → l[k].right = true ∧ marksTo l k l[k].mark = none := by
  suffices hs : ∀ m k, k ≤ l.length → l.length - k = m → fault l k (l.drop k) = some (n, e) → n < l.length ∧ (e = 170 ∨ e = 171) ∧ ∀ j, (hj : j < l.length) → k ≤ j → j < n → l[j].right = true ∧ marksTo l j l[j].mark = none by
    obtain ⟨h1, h2, h3⟩ := hs l.length 0 (Nat.zero_le _) rfl (by simpa using h)
    exact ⟨h1, h2, fun k hk hn => h3 k hk (Nat.zero_le _) hn⟩
  intro m
  induction m with
  | zero => intro k h1 h2 h3; rw [List.drop_of_length_le (by omega)] at h3; cases h3
  | succ m ih =>
    intro k h1 h2 h3
    have hk : k < l.length := by omega
    rw [fault_step hk] at h3
    split at h3
    · cases h3; exact ⟨hk, .inl rfl, fun j _ a b => by omega⟩
    · rename_i hr
      split at h3
      · cases h3; exact ⟨hk, .inr rfl, fun j _ a b => by omega⟩
      · rename_i hm
        obtain ⟨g1, g2, g3⟩ := ih (k + 1) (by omega) (by omega) h3
        refine ⟨g1, g2, fun j hj a b => ?_⟩
        by_cases e : j = k
        · subst e
          exact ⟨by simpa using hr, by simpa using hm⟩
        · exact g3 j hj (by omega) b
theorem fault_none' {l : List Piece} (h : fault l 0 l = none) : ∀ k, (hk : k < l.length) → l[k].right = true ∧ marksTo l k l[k].mark = none := by
  suffices hs : ∀ m k, k ≤ l.length → l.length - k = m → fault l k (l.drop k) = none → ∀ j, (hj : j < l.length) → k ≤ j → l[j].right = true ∧ marksTo l j l[j].mark = none by
    exact fun k hk => hs l.length 0 (Nat.zero_le _) rfl (by simpa using h) k hk (Nat.zero_le _)
  intro m
  induction m with
  | zero => intro k h1 h2 h3 j hj a; omega
  | succ m ih =>
    intro k h1 h2 h3 j hj a
    have hk : k < l.length := by omega
    rw [fault_step hk] at h3
    split at h3
    · cases h3
    · rename_i hr
      split at h3
      · cases h3
      · rename_i hm
        by_cases e : j = k
        · subst e
          exact ⟨by simpa using hr, by simpa using hm⟩
        · exact ih (k + 1) (by omega) (by omega) h3 j hj (by omega)
theorem marksTo_take (l : List Piece) (n : Nat) (m : Int) : ∀ {k : Nat}, k ≤ n → n ≤ l.length → marksTo (l.take n) k m = marksTo l k m
  | 0, _, _ => rfl
  | k + 1, h, hn => by
    rw [marksTo_succ (by simp; omega), marksTo_succ (show k < l.length by omega)]
    unfold delM putM
    simp only [List.getElem_take]
    rw [marksTo_take l n m (by omega) hn]
theorem lost_lt {l : List Piece} {M : Int → Option Int} {n : Nat} (h : lost M 0 l = some n) : n < l.length := by
  suffices hs : ∀ m k, k ≤ l.length → l.length - k = m → lost M k (l.drop k) = some n → n < l.length by exact hs l.length 0 (Nat.zero_le _) rfl (by simpa using h)
  intro m
  induction m with
  | zero => intro k h1 h2 h3; rw [List.drop_of_length_le (by omega)] at h3; cases h3
  | succ m ih =>
    intro k h1 h2 h3
    rw [lost_step (show k < l.length by omega)] at h3
    split at h3
    · cases h3; omega
    · exact ih (k + 1) (by omega) (by omega) h3
end Go.Proofs.Ytegjcghcknpjeaa
