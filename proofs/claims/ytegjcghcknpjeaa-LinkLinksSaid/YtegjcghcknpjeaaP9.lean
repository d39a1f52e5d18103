import Derived.Test.YtegjcghcknpjeaaP8
namespace Go.Proofs.Ytegjcghcknpjeaa

theorem linkS_short {l : List Piece} {n : Int} {e : Int} {c : List Ins} (h : linkS l = ((c, n), e)) (h0 : e ≠ 0) (h1 : e ≠ 173) :
    c = [] ∧ ∃ k : Nat, n = k ∧ k < l.length ∧ l.length ≤ 32768 ∧ ((linkS (l.take k)).2 = 0 ∨ (linkS (l.take k)).2 = 172) := by
  have main : ∀ k : Nat, k < l.length → l.length ≤ 32768 → (∀ j, (hj : j < l.length) → j < k → l[j].right = true ∧ marksTo l j l[j].mark = none) → ((linkS (l.take k)).2 = 0 ∨ (linkS (l.take k)).2 = 172) := by
    intro k hk hm hj
    have hf : fault (l.take k) 0 (l.take k) = none := fault_none
      (fun j h => by simp at h; rw [List.getElem_take]; exact (hj j (by omega) (by omega)).1)
      (fun j h => by simp at h; rw [marksTo_take l k _ (by omega) (by omega), List.getElem_take]; exact (hj j (by omega) (by omega)).2)
    unfold linkS
    rw [if_neg (by simp; omega), hf]
    simp only
    split
    · exact .inr rfl
    · exact .inl rfl
  unfold linkS at h
  split at h
  · cases h; exact absurd rfl h1
  rename_i hb
  split at h
  · rename_i i e' hf
    obtain ⟨g1, g2, g3⟩ := fault_some hf
    cases h
    exact ⟨rfl, i, rfl, g1, by omega, main i g1 (by omega) g3⟩
  · rename_i hf
    split at h
    · rename_i i hl
      cases h
      exact ⟨rfl, i, rfl, lost_lt hl, by omega, main i (lost_lt hl) (by omega) (fun j hj _ => fault_none' hf j hj)⟩
    · cases h; exact absurd rfl h0
theorem linkS_many {l : List Piece} {n : Int} {c : List Ins} (h : linkS l = ((c, n), 173)) : c = [] ∧ n = 0 ∧ 32768 < l.length := by
  unfold linkS at h
  split at h
  · rename_i hb; cases h; exact ⟨rfl, rfl, hb⟩
  split at h
  · rename_i i e' hf
    obtain ⟨g1, g2, g3⟩ := fault_some hf
    injection h with _ h2
    omega
  · split at h
    · cases h
    · cases h
end Go.Proofs.Ytegjcghcknpjeaa
