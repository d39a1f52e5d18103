import Derived.Test.YtegjcghcknpjeaaP6
namespace Go.Proofs.Ytegjcghcknpjeaa

/-! What linking makes of what unlinking made. -/
theorem insRight_imm {op a b c imm : Int} (hl : leadsB op = true) (h : insRight op a b c imm = true) : insRight op a b c 0 = true := by
  unfold leadsB at hl
  simp only [Bool.or_eq_true, beq_iff_eq] at hl
  rcases hl with (rfl | rfl) | rfl <;> revert h <;> unfold insRight <;> simp [kind]

theorem marksTo_some {l : List Piece} {m v : Int} : ∀ {k : Nat}, k ≤ l.length → marksTo l k m = some v → m ≠ 0 ∧ ∃ j, ∃ h : j < l.length, j < k ∧ v = j ∧ l[j].mark = m
  | 0, _, h => by cases h
  | k + 1, hk, h => by
    rw [marksTo_succ (by omega)] at h
    unfold delM putM at h
    split at h
    · cases h
    · rename_i h0
      split at h
      · rename_i hm
        cases h
        exact ⟨h0, k, by omega, by omega, rfl, hm.symm⟩
      · obtain ⟨_, j, hj, h1, h2, h3⟩ := marksTo_some (by omega) h
        exact ⟨h0, j, hj, by omega, h2, h3⟩
theorem marksTo_at {l : List Piece} {m : Int} (h0 : m ≠ 0) {t : Nat} (ht : t < l.length) (hm : l[t].mark = m) (hu : ∀ j, (h : j < l.length) → l[j].mark = m → j = t) :
    ∀ {k : Nat}, k ≤ l.length → t < k → marksTo l k m = some (t : Int)
  | 0, _, h => by omega
  | k + 1, hk, h => by
    rw [marksTo_succ (by omega)]
    unfold delM putM
    rw [if_neg h0]
    by_cases he : m = l[k].mark
    · rw [if_pos he, hu k (by omega) he.symm]
    · rw [if_neg he]
      have : t ≠ k := fun e => he (by subst e; exact hm.symm)
      exact marksTo_at h0 ht hm hu (by omega) (by omega)

theorem fault_none {l : List Piece} (hr : ∀ k, (h : k < l.length) → l[k].right = true) (hm : ∀ k, (h : k < l.length) → marksTo l k l[k].mark = none) : fault l 0 l = none := by
  suffices h : ∀ n k, k ≤ l.length → l.length - k = n → fault l k (l.drop k) = none by simpa using h l.length 0 (Nat.zero_le _) rfl
  intro n
  induction n with
  | zero => intro k h1 h2; rw [List.drop_of_length_le (by omega)]; rfl
  | succ n ih =>
    intro k h1 h2
    rw [fault_step (show k < l.length by omega), hr k (by omega), hm k (by omega)]
    simpa using ih (k + 1) (by omega) (by omega)
theorem lost_none {l : List Piece} {M : Int → Option Int} (hm : ∀ k, (h : k < l.length) → l[k].to ≠ 0 → M l[k].to ≠ none) : lost M 0 l = none := by
  suffices h : ∀ n k, k ≤ l.length → l.length - k = n → lost M k (l.drop k) = none by simpa using h l.length 0 (Nat.zero_le _) rfl
  intro n
  induction n with
  | zero => intro k h1 h2; rw [List.drop_of_length_le (by omega)]; rfl
  | succ n ih =>
    intro k h1 h2
    rw [lost_step (show k < l.length by omega), if_neg (fun ⟨a, b⟩ => hm k (by omega) a b)]
    exact ih (k + 1) (by omega) (by omega)

theorem cntLed_mono (n : Nat) (code : List Ins) {j : Nat} : ∀ {k : Nat}, j ≤ k → cntLed n code j ≤ cntLed n code k
  | 0, h => by rw [show j = 0 from by omega]; exact Int.le_refl _
  | k + 1, h => by
    rcases Nat.lt_or_ge k j with h1 | h1
    · rw [show j = k + 1 from by omega]; exact Int.le_refl _
    · have := cntLed_mono n code h1
      rw [cntLed]; split <;> omega
theorem markU_nonneg (n : Nat) (code : List Ins) (k : Nat) : 0 ≤ markU n code k ∧ markU n code k ≤ k + 1 := by
  unfold markU
  have := cntLed_bd n code (k + 1)
  split <;> omega
theorem markU_led {n : Nat} {code : List Ins} {k : Nat} (h : ledIn n code k = true) : 0 < markU n code k := by
  unfold markU
  rw [if_pos h, cntLed, if_pos h]
  have := cntLed_bd n code k
  omega
theorem markU_inj {n : Nat} {code : List Ins} {j k : Nat} (h : markU n code j = markU n code k) (h0 : markU n code k ≠ 0) : j = k := by
  have hk : ledIn n code k = true := by
    by_cases hl : ledIn n code k = true
    · exact hl
    · exact absurd (by unfold markU; rw [if_neg hl]) h0
  have hj : ledIn n code j = true := by
    by_cases hl : ledIn n code j = true
    · exact hl
    · exact absurd (by rw [← h]; unfold markU; rw [if_neg hl]) h0
  unfold markU at h
  rw [if_pos hj, if_pos hk] at h
  rcases Nat.lt_trichotomy j k with h1 | h1 | h1
  · have := cntLed_mono n code (show j + 1 ≤ k from h1)
    rw [show cntLed n code (k + 1) = cntLed n code k + 1 from by rw [cntLed, if_pos hk]] at h
    omega
  · exact h1
  · have := cntLed_mono n code (show k + 1 ≤ j from h1)
    rw [show cntLed n code (j + 1) = cntLed n code j + 1 from by rw [cntLed, if_pos hj]] at h
    omega
theorem led_of {n : Nat} {code : List Ins} {i : Ins} {t : Nat} (hi : i ∈ code) (h : leadsTo n i = some t) : ledIn n code t = true := by
  unfold ledIn
  rw [List.any_eq_true]
  exact ⟨i, hi, by rw [h]; simp⟩
theorem pieceU_mark (n : Nat) (code : List Ins) (i : Ins) (k : Nat) : (pieceU n code i k).mark = markU n code k := by
  unfold pieceU; split <;> rfl

theorem linkS_unlinkS {code : List Ins} (h : (unlinkS code).2 = 0) : linkS (unlinkS code).1 = ((code, 0), 0) := by
  unfold unlinkS at h ⊢
  split
  · rename_i h1; rw [if_pos h1] at h; cases h
  rename_i h1
  split
  · rename_i h2; rw [if_neg h1, if_pos h2] at h; cases h
  rename_i h2
  clear h
  generalize hL : (List.range code.length).map (fun k => pieceU code.length code (code.getD k zeroI) k) = l
  have hlen : l.length = code.length := by rw [← hL]; simp
  have hat : ∀ k, (h : k < l.length) → l[k] = pieceU code.length code (code[k]'(hlen ▸ h)) k := by
    intro k h
    subst hL
    simp at h
    simp [List.getD_eq_getElem?_getD, List.getElem?_eq_getElem h]
  have hright : ∀ i ∈ code, i.right = true := by
    intro i hi
    have h3 : ¬ (code.any (fun i => !i.right)) = true := h2
    rw [List.any_eq_true] at h3
    by_cases hr : i.right = true
    · exact hr
    · exact absurd ⟨i, hi, by simp [hr]⟩ h3
  have hmark : ∀ k, (h : k < l.length) → l[k].mark = markU code.length code k := fun k h => by rw [hat k h, pieceU_mark]
  have huniq : ∀ t j, (h : j < l.length) → markU code.length code t ≠ 0 → l[j].mark = markU code.length code t → j = t := fun t j h h0 he => markU_inj (by rw [← hmark j h, he]) h0
  have hM : ∀ t, t < l.length → markU code.length code t ≠ 0 → marksTo l l.length (markU code.length code t) = some (t : Int) := fun t ht h0 =>
    marksTo_at h0 ht (hmark t ht) (fun j h he => huniq t j h h0 he) (Nat.le_refl _) ht
  have hR : ∀ k, (h : k < l.length) → l[k].right = true := by
    intro k h
    have hk : k < code.length := hlen ▸ h
    have hin : code[k] ∈ code := List.getElem_mem hk
    have hrk := hright _ hin
    rw [hat k h]
    have hmk := markU_nonneg code.length code k
    unfold pieceU
    split
    · rename_i t ht
      have hmt := markU_nonneg code.length code t
      have hlb : leadsB code[k].op = true := by unfold leadsTo at ht; split at ht; · rename_i hh; exact hh.1
                                                · cases ht
      have hri := insRight_imm hlb hrk
      unfold Piece.right
      simp [hmk.1, hmt.1, hlb, Ins.right, hri]
    · unfold Piece.right
      simp [hmk.1, hrk]
  have hF : fault l 0 l = none := fault_none hR (fun k h => by
    cases hc : marksTo l k l[k].mark with
    | none => rfl
    | some v =>
      obtain ⟨h0, j, hj, h3, h4, h5⟩ := marksTo_some (by omega) hc
      have := huniq k j hj (by rw [← hmark k h]; exact h0) (by rw [h5, hmark k h])
      omega)
  have hT : ∀ k, (h : k < l.length) → (l[k].to ≠ 0 → marksTo l l.length l[k].to ≠ none) ∧ placed (marksTo l l.length) l[k] = code[k]'(hlen ▸ h) := by
    intro k h
    have hk : k < code.length := hlen ▸ h
    rw [hat k h]
    unfold pieceU
    split
    · rename_i t ht
      have hlt := leadsTo_lt ht
      have hled := markU_led (led_of (List.getElem_mem hk) ht)
      have hm := hM t (by omega) (by omega)
      refine ⟨fun _ => by show marksTo l l.length (markU code.length code t) ≠ none; rw [hm]; simp, ?_⟩
      unfold placed
      rw [if_neg (by show markU code.length code t ≠ 0; omega)]
      show Ins.mk _ _ _ _ ((marksTo l l.length (markU code.length code t)).getD 0) = _
      rw [hm]
      unfold leadsTo at ht
      split at ht
      · rename_i hh
        cases ht
        have e : ((code[k].imm.toNat : Nat) : Int) = code[k].imm := Int.toNat_of_nonneg hh.2.1
        simp only [Option.getD_some, e]
      · cases ht
    · refine ⟨fun e => absurd rfl e, ?_⟩
      unfold placed
      rw [if_pos rfl]
  unfold linkS
  simp only
  rw [if_neg (by omega), hF, lost_none (fun k h => (hT k h).1)]
  simp only
  rw [show l.map (placed (marksTo l l.length)) = code from List.ext_getElem (by simp [hlen]) (fun k h4 h5 => by simp [(hT k (by simpa using h4)).2])]

theorem unlinkS_bad {code : List Ins} (h : (unlinkS code).2 ≠ 0) : unlinkS code = ([], 150) := by
  unfold unlinkS at h ⊢
  split
  · rfl
  · rename_i h1
    split
    · rfl
    · rename_i h2; rw [if_neg h1, if_neg h2] at h; exact absurd rfl h
theorem unlinkS_len (code : List Ins) : (unlinkS code).1.length ≤ 32768 := by
  unfold unlinkS
  split
  · simp
  · split
    · simp
    · simp; omega
theorem unlinkS_wf {code : List Ins} (hw : ∀ i ∈ code, i.wf) : ∀ p ∈ (unlinkS code).1, p.wf := by
  unfold unlinkS
  split
  · simp
  split
  · simp
  intro p hp
  simp only [List.mem_map, List.mem_range] at hp
  obtain ⟨k, hk, rfl⟩ := hp
  have hbig : code.length ≤ 32768 := by rename_i h1 _; omega
  have hi : (code.getD k zeroI).wf := by rw [List.getD_eq_getElem?_getD, List.getElem?_eq_getElem hk]; exact hw _ (List.getElem_mem hk)
  have hmk := markU_nonneg code.length code k
  unfold pieceU
  split
  · rename_i t ht
    have hmt := markU_nonneg code.length code t
    have hlt := leadsTo_lt ht
    exact ⟨by dsimp only; omega, ⟨hi.1, hi.2, hi.3, hi.4, by simp⟩, by dsimp only; omega⟩
  · exact ⟨by dsimp only; omega, hi, by simp⟩
end Go.Proofs.Ytegjcghcknpjeaa
