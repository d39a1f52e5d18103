import Derived.Test.YtegjcghcknpjeaaP9
namespace Go.Proofs.Ytegjcghcknpjeaa

theorem insRight_any_imm {op a b c imm imm' : Int} (hl : leadsB op = true) (h : insRight op a b c imm = true) : insRight op a b c imm' = true := by
  unfold leadsB at hl
  simp only [Bool.or_eq_true, beq_iff_eq] at hl
  rcases hl with (rfl | rfl) | rfl <;> revert h <;> unfold insRight <;> simp [kind]
theorem lost_none' {l : List Piece} {M : Int → Option Int} (h : lost M 0 l = none) : ∀ k, (hk : k < l.length) → l[k].to ≠ 0 → M l[k].to ≠ none := by
  suffices hs : ∀ m k, k ≤ l.length → l.length - k = m → lost M k (l.drop k) = none → ∀ j, (hj : j < l.length) → k ≤ j → l[j].to ≠ 0 → M l[j].to ≠ none by
    exact fun k hk => hs l.length 0 (Nat.zero_le _) rfl (by simpa using h) k hk (Nat.zero_le _)
  intro m
  induction m with
  | zero => intro k h1 h2 h3 j hj a; omega
  | succ m ih =>
    intro k h1 h2 h3 j hj a
    have hk : k < l.length := by omega
    rw [lost_step hk] at h3
    split at h3
    · cases h3
    · rename_i hr
      by_cases e : j = k
      · subst e; exact fun h0 hn => hr ⟨h0, hn⟩
      · exact ih (k + 1) (by omega) (by omega) h3 j hj (by omega)
theorem linkS_ok {l : List Piece} {n : Int} {c : List Ins} (h : linkS l = ((c, n), 0)) :
    n = 0 ∧ l.length ≤ 32768 ∧ ∃ hl : c.length = l.length, ∀ k, (hk : k < l.length) → (c[k]'(hl ▸ hk)).right = true ∧ (c[k]'(hl ▸ hk)).op = l[k].ins.op ∧
      (l[k].to = 0 → c[k]'(hl ▸ hk) = l[k].ins) ∧ (l[k].to ≠ 0 → ∃ t : Nat, ∃ ht : t < l.length, c[k]'(hl ▸ hk) = { l[k].ins with imm := (t : Int) } ∧ l[t].mark = l[k].to) := by
  unfold linkS at h
  split at h
  · cases h
  rename_i hb
  split at h
  · rename_i i e' hf
    obtain ⟨_, g2, _⟩ := fault_some hf
    injection h with _ h2
    omega
  rename_i hf
  split at h
  · cases h
  rename_i hl
  cases h
  refine ⟨rfl, by omega, by simp, fun k hk => ?_⟩
  have hr := (fault_none' hf k hk).1
  have hm := lost_none' hl k hk
  simp only [List.getElem_map]
  unfold Piece.right at hr
  simp only [Bool.and_eq_true, Bool.or_eq_true, beq_iff_eq, decide_eq_true_eq] at hr
  obtain ⟨⟨⟨_, _⟩, hi⟩, ho⟩ := hr
  by_cases h0 : l[k].to = 0
  · unfold placed
    rw [if_pos h0]
    exact ⟨hi, rfl, fun _ => rfl, fun h => absurd h0 h⟩
  · have hm := hm h0
    obtain ⟨hlb, _⟩ := ho.resolve_left h0
    cases hc : marksTo l l.length l[k].to with
    | none => exact absurd hc hm
    | some v =>
      obtain ⟨_, t, ht, _, rfl, hmk⟩ := marksTo_some (Nat.le_refl _) hc
      unfold placed
      rw [if_neg h0, hc]
      exact ⟨insRight_any_imm hlb hi, rfl, fun h => absurd h h0, fun _ => ⟨t, ht, rfl, hmk⟩⟩
theorem linkS_wf {l : List Piece} (hw : ∀ p ∈ l, p.wf) : ∀ i ∈ (linkS l).1.1, i.wf := by
  intro i hi
  by_cases h0 : (linkS l).2 = 0
  · obtain ⟨_, hb, hlen, hk⟩ := linkS_ok (l := l) (n := (linkS l).1.2) (c := (linkS l).1.1) (by rw [← h0])
    obtain ⟨k, hkl, rfl⟩ := List.getElem_of_mem hi
    obtain ⟨_, _, g0, g1⟩ := hk k (hlen ▸ hkl)
    have hp := (hw _ (List.getElem_mem (hlen ▸ hkl : k < l.length))).2
    by_cases ht : (l[k]'(hlen ▸ hkl)).to = 0
    · rw [g0 ht]; exact hp
    · obtain ⟨t, ht, e, _⟩ := g1 ht
      rw [e]
      exact ⟨hp.1, hp.2, hp.3, hp.4, by dsimp only; omega⟩
  · by_cases h1 : (linkS l).2 = 173
    · obtain ⟨e, _⟩ := linkS_many (l := l) (n := (linkS l).1.2) (c := (linkS l).1.1) (by rw [← h1])
      rw [e] at hi; cases hi
    · obtain ⟨e, _⟩ := linkS_short (l := l) (n := (linkS l).1.2) (c := (linkS l).1.1) (e := (linkS l).2) rfl h0 h1
      rw [e] at hi; cases hi
end Go.Proofs.Ytegjcghcknpjeaa
