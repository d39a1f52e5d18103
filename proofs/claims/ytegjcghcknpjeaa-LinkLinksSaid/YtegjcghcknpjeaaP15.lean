import Derived.Test.YtegjcghcknpjeaaP12
namespace Go.Proofs.Ytegjcghcknpjeaa
open Go.RowKit

/-! What is joined is linked as both were. -/
theorem marksTo_none {l : List Piece} {m : Int} : ∀ {k : Nat}, k ≤ l.length → marksTo l k m = none → m = 0 ∨ ∀ j, (h : j < l.length) → j < k → l[j].mark ≠ m
  | 0, _, _ => .inr fun j _ h => by omega
  | k + 1, hk, h => by
    rw [marksTo_succ (by omega)] at h
    unfold delM putM at h
    by_cases h0 : m = 0
    · exact .inl h0
    · rw [if_neg h0] at h
      split at h
      · cases h
      · rename_i hm
        rcases marksTo_none (by omega) h with h1 | h1
        · exact .inl h1
        · refine .inr fun j hj hjk => ?_
          by_cases e : j = k
          · subst e; exact fun e => hm e.symm
          · exact h1 j hj (by omega)
structure Good (l : List Piece) : Prop where
  len : l.length ≤ 32768
  right : ∀ k, (hk : k < l.length) → l[k].right = true
  one : ∀ k j, (hk : k < l.length) → (hj : j < l.length) → j < k → l[k].mark ≠ 0 → l[j].mark ≠ l[k].mark
  to : ∀ k, (hk : k < l.length) → l[k].to ≠ 0 → ∃ t, ∃ ht : t < l.length, l[t].mark = l[k].to
theorem Good.uniq {l : List Piece} (h : Good l) {t : Nat} (ht : t < l.length) (h0 : l[t].mark ≠ 0) : ∀ j, (hj : j < l.length) → l[j].mark = l[t].mark → j = t := fun j hj e => by
  rcases Nat.lt_trichotomy j t with h1 | h1 | h1
  · exact absurd e (h.one t j ht hj h1 h0)
  · exact h1
  · exact absurd e.symm (h.one j t hj ht h1 (by rw [e]; exact h0))
theorem Good.at {l : List Piece} (h : Good l) {t : Nat} (ht : t < l.length) (h0 : l[t].mark ≠ 0) : marksTo l l.length l[t].mark = some (t : Int) := marksTo_at h0 ht rfl (h.uniq ht h0) (Nat.le_refl _) ht
theorem Good.linkS {l : List Piece} (h : Good l) : linkS l = ((l.map (placed (marksTo l l.length)), 0), 0) := by
  unfold Ytegjcghcknpjeaa.linkS
  rw [if_neg (by have := h.len; omega), fault_none h.right (fun k hk => ?_), lost_none (fun k hk h0 => ?_)]
  · obtain ⟨t, ht, e⟩ := h.to k hk h0
    rw [← e, h.at ht (by rw [e]; exact h0)]
    simp
  · cases hc : marksTo l k l[k].mark with
    | none => rfl
    | some v =>
      obtain ⟨h0, j, hj, h1, _, h2⟩ := marksTo_some (by omega) hc
      exact absurd h2 (h.one k j hk hj h1 h0)
theorem Good.of {l : List Piece} (h : (Ytegjcghcknpjeaa.linkS l).2 = 0) : Good l := by
  unfold Ytegjcghcknpjeaa.linkS at h
  split at h
  · cases h
  rename_i hb
  split at h
  · rename_i i e' hf
    obtain ⟨_, g2, _⟩ := fault_some hf
    simp only at h
    omega
  rename_i hf
  split at h
  · cases h
  rename_i hl
  have h1 := fault_none' hf
  have h2 := lost_none' hl
  refine ⟨by omega, fun k hk => (h1 k hk).1, fun k j hk hj hjk h0 => ?_, fun k hk h0 => ?_⟩
  · exact (marksTo_none (by omega) (h1 k hk).2).resolve_left h0 j hj hjk
  · cases hc : marksTo l l.length l[k].to with
    | none => exact absurd hc (h2 k hk h0)
    | some v =>
      obtain ⟨_, j, hj, _, _, h3⟩ := marksTo_some (Nat.le_refl _) hc
      exact ⟨j, hj, h3⟩
theorem linkS_bad {l : List Piece} (h : (Ytegjcghcknpjeaa.linkS l).2 ≠ 0) : (Ytegjcghcknpjeaa.linkS l).1.1 = [] := by
  by_cases h1 : (Ytegjcghcknpjeaa.linkS l).2 = 173
  · exact (linkS_many (l := l) (n := (Ytegjcghcknpjeaa.linkS l).1.2) (c := (Ytegjcghcknpjeaa.linkS l).1.1) (by rw [← h1])).1
  · exact (linkS_short (l := l) (n := (Ytegjcghcknpjeaa.linkS l).1.2) (c := (Ytegjcghcknpjeaa.linkS l).1.1) (e := (Ytegjcghcknpjeaa.linkS l).2) rfl h h1).1

theorem mostJ_le {l : List Piece} {B : Int} (hB : 0 ≤ B) (h : ∀ p ∈ l, p.mark ≤ B ∧ p.to ≤ B) : ∀ k, k ≤ l.length → 0 ≤ mostJ l k ∧ mostJ l k ≤ B ∧ ∀ j, (hj : j < l.length) → j < k → l[j].mark ≤ mostJ l k ∧ l[j].to ≤ mostJ l k
  | 0, _ => ⟨by simp [mostJ], by simpa [mostJ] using hB, fun j _ h => by omega⟩
  | k + 1, hk => by
    obtain ⟨h1, h2, h3⟩ := mostJ_le hB h k (by omega)
    rw [mostJ_succ (show k < l.length by omega)]
    obtain ⟨p1, p2⟩ := h l[k] (List.getElem_mem _)
    have e : mostJ l k ≤ most1 (mostJ l k) l[k] ∧ l[k].mark ≤ most1 (mostJ l k) l[k] ∧ l[k].to ≤ most1 (mostJ l k) l[k] ∧ (most1 (mostJ l k) l[k] ≤ B) := by
      unfold most1
      split <;> split <;> (first | (rename_i a b; split at a <;> omega) | omega)
    refine ⟨by omega, e.2.2.2, fun j hj hjk => ?_⟩
    by_cases ej : j = k
    · subst ej; exact ⟨e.2.1, e.2.2.1⟩
    · have := h3 j hj (by omega); omega
section
variable {x y : List Piece} (mx : ∀ p ∈ x, p.mark ≤ 1099511627776 ∧ p.to ≤ 1099511627776) (my : ∀ p ∈ y, p.mark ≤ 1099511627776 ∧ p.to ≤ 1099511627776)
include mx my
theorem shift_facts {p : Piece} (hp : p ∈ y) : ∃ m : Int, m = mostJ x x.length ∧ 0 ≤ m ∧ (∀ q ∈ x, q.mark ≤ m ∧ q.to ≤ m) ∧
    (shiftJ m p).mark = (if 0 < p.mark then p.mark + m else p.mark) ∧ (shiftJ m p).to = (if 0 < p.to then p.to + m else p.to) ∧ (shiftJ m p).ins = p.ins := by
  obtain ⟨h1, h2, h3⟩ := mostJ_le (by decide) mx x.length (Nat.le_refl _)
  refine ⟨_, rfl, h1, fun q hq => ?_, ?_, ?_, rfl⟩
  · obtain ⟨j, hj, rfl⟩ := List.getElem_of_mem hq
    exact h3 j hj hj
  · have := (my p hp).1
    unfold shiftJ
    simp only
    split
    · rw [IntWalk.wrap64_in _ ⟨by omega, by omega⟩]
    · rfl
  · have := (my p hp).2
    unfold shiftJ
    simp only
    split
    · rw [IntWalk.wrap64_in _ ⟨by omega, by omega⟩]
    · rfl
theorem shift_right {p : Piece} (hp : p ∈ y) : (shiftJ (mostJ x x.length) p).right = p.right := by
  obtain ⟨m, e, h0, _, h1, h2, h3⟩ := shift_facts mx my hp
  rw [← e]
  unfold Piece.right
  rw [h1, h2, h3]
  have e1 : decide (0 ≤ if 0 < p.mark then p.mark + m else p.mark) = decide (0 ≤ p.mark) := by rw [decide_eq_decide]; split <;> omega
  have e2 : decide (0 ≤ if 0 < p.to then p.to + m else p.to) = decide (0 ≤ p.to) := by rw [decide_eq_decide]; split <;> omega
  have e3 : ((if 0 < p.to then p.to + m else p.to) == 0) = (p.to == 0) := by
    rw [Bool.eq_iff_iff]; simp only [beq_iff_eq]; split <;> omega
  rw [e1, e2, e3]
omit mx my in
theorem join_left {k : Nat} (hk : k < x.length) (h : k < (joinS x y).length) : (joinS x y)[k] = x[k] := by unfold joinS at h ⊢; exact List.getElem_append_left hk
omit mx my in
theorem join_right {k : Nat} (hk : k < y.length) (h : x.length + k < (joinS x y).length) : (joinS x y)[x.length + k] = shiftJ (mostJ x x.length) y[k] := by
  apply Option.some.inj
  rw [← List.getElem?_eq_getElem h]
  unfold joinS
  rw [List.getElem?_append_right (by omega)]
  simp [hk]
omit mx my in
theorem join_len : (joinS x y).length = x.length + y.length := by unfold joinS; simp

theorem good_join (lx : x.length ≤ 1000) (ly : y.length ≤ 1000) (gx : Good x) (gy : Good y) : Good (joinS x y) := by
  have hl : (joinS x y).length = x.length + y.length := join_len
  have hat : ∀ k, (hk : k < (joinS x y).length) → (∃ h : k < x.length, (joinS x y)[k] = x[k]) ∨ (∃ i, ∃ h : i < y.length, k = x.length + i ∧ (joinS x y)[k] = shiftJ (mostJ x x.length) y[i]) := fun k hk => by
    by_cases h : k < x.length
    · exact .inl ⟨h, join_left h hk⟩
    · obtain ⟨i, rfl⟩ : ∃ i, k = x.length + i := ⟨k - x.length, by omega⟩
      exact .inr ⟨i, by omega, rfl, join_right (by omega) hk⟩
  refine ⟨by omega, fun k hk => ?_, fun k j hk hj hjk h0 => ?_, fun k hk h0 => ?_⟩
  · rcases hat k hk with ⟨h, e⟩ | ⟨i, h, _, e⟩
    · rw [e]; exact gx.right k h
    · rw [e, shift_right mx my (List.getElem_mem h)]; exact gy.right i h
  · rcases hat k hk with ⟨h, e⟩ | ⟨i, h, ek, e⟩
    · rcases hat j hj with ⟨h', e'⟩ | ⟨i', h', ek', e'⟩
      · rw [e] at h0 ⊢; rw [e']; exact gx.one k j h h' hjk h0
      · omega
    · obtain ⟨m, em, m0, mb, s1, s2, s3⟩ := shift_facts mx my (List.getElem_mem h)
      rw [e] at h0 ⊢
      rw [← em] at h0 ⊢
      rw [s1] at h0 ⊢
      have hr := gy.right i h
      unfold Piece.right at hr
      simp only [Bool.and_eq_true, decide_eq_true_eq] at hr
      have hpos : 0 < y[i].mark := by split at h0 <;> omega
      rw [if_pos hpos]
      rcases hat j hj with ⟨h', e'⟩ | ⟨i', h', ek', e'⟩
      · rw [e']; have := (mb x[j] (List.getElem_mem h')).1; omega
      · obtain ⟨m', em', _, _, s1', _, _⟩ := shift_facts mx my (List.getElem_mem h')
        rw [e', ← em', s1']
        have := gy.one i i' h h' (by omega) (by omega)
        have : m = m' := by rw [em, em']
        split <;> omega
  · rcases hat k hk with ⟨h, e⟩ | ⟨i, h, ek, e⟩
    · rw [e] at h0 ⊢
      obtain ⟨t, ht, he⟩ := gx.to k h h0
      exact ⟨t, by omega, by rw [join_left ht (by omega)]; exact he⟩
    · obtain ⟨m, em, m0, mb, s1, s2, s3⟩ := shift_facts mx my (List.getElem_mem h)
      rw [e, ← em, s2] at h0
      have hr := gy.right i h
      unfold Piece.right at hr
      simp only [Bool.and_eq_true, decide_eq_true_eq] at hr
      have hpos : 0 < y[i].to := by split at h0 <;> omega
      obtain ⟨t, ht, he⟩ := gy.to i h (by omega)
      obtain ⟨m', em', _, _, s1', _, _⟩ := shift_facts mx my (List.getElem_mem ht)
      refine ⟨x.length + t, by omega, ?_⟩
      rw [join_right ht (by omega), e, ← em', s1', show m' = m from by rw [em, em'], s2, if_pos hpos, if_pos (by omega), he]
theorem good_of_join (lx : x.length ≤ 1000) (ly : y.length ≤ 1000) (g : Good (joinS x y)) : Good x ∧ Good y := by
  have hl : (joinS x y).length = x.length + y.length := join_len
  have hr2 : ∀ i, (h : i < y.length) → y[i].right = true := fun i h => by
    have := g.right (x.length + i) (by omega)
    rwa [join_right h, shift_right mx my (List.getElem_mem h)] at this
  have hr1 : ∀ i, (h : i < x.length) → x[i].right = true := fun i h => by
    have := g.right i (by omega)
    rwa [join_left h] at this
  have sgn : ∀ p : Piece, p.right = true → 0 ≤ p.mark ∧ 0 ≤ p.to := fun p hr => by
    unfold Piece.right at hr
    simp only [Bool.and_eq_true, decide_eq_true_eq] at hr
    exact hr.1.1
  refine ⟨⟨by omega, hr1, fun k j hk hj hjk h0 => ?_, fun k hk h0 => ?_⟩, ⟨by omega, hr2, fun k j hk hj hjk h0 => ?_, fun k hk h0 => ?_⟩⟩
  · have := g.one k j (by omega) (by omega) hjk
    rw [join_left hk, join_left hj] at this
    exact this h0
  · obtain ⟨t, ht, e⟩ := g.to k (by omega) (by rw [join_left hk]; exact h0)
    rw [join_left hk] at e
    by_cases h : t < x.length
    · exact ⟨t, h, by rw [join_left h] at e; exact e⟩
    · obtain ⟨i, rfl⟩ : ∃ i, t = x.length + i := ⟨t - x.length, by omega⟩
      have hi : i < y.length := by omega
      obtain ⟨m, em, m0, mb, s1, s2, s3⟩ := shift_facts mx my (List.getElem_mem hi)
      rw [join_right hi, ← em, s1] at e
      have h1 := (mb x[k] (List.getElem_mem hk)).2
      have h2 := (sgn _ (hr1 k hk)).2
      have h3 := (sgn _ (hr2 i hi)).1
      split at e <;> omega
  · obtain ⟨m, em, m0, mb, s1, s2, s3⟩ := shift_facts mx my (List.getElem_mem hk)
    obtain ⟨m', em', _, _, s1', _, _⟩ := shift_facts mx my (List.getElem_mem hj)
    have := g.one (x.length + k) (x.length + j) (by omega) (by omega) (by omega)
    rw [join_right hk, join_right hj, ← em', s1', show m' = m from by rw [em, em'], s1] at this
    have h2 := (sgn _ (hr2 k hk)).1
    intro e
    rw [e] at this
    exact this (by split <;> omega) rfl
  · obtain ⟨m, em, m0, mb, s1, s2, s3⟩ := shift_facts mx my (List.getElem_mem hk)
    have h2 := (sgn _ (hr2 k hk)).2
    have hpos : 0 < y[k].to := by omega
    obtain ⟨t, ht, e⟩ := g.to (x.length + k) (by omega) (by rw [join_right hk, ← em, s2, if_pos hpos]; omega)
    rw [join_right hk, ← em, s2, if_pos hpos] at e
    by_cases h : t < x.length
    · rw [join_left h] at e
      have := (mb x[t] (List.getElem_mem h)).1
      omega
    · obtain ⟨i, rfl⟩ : ∃ i, t = x.length + i := ⟨t - x.length, by omega⟩
      have hi : i < y.length := by omega
      obtain ⟨m', em', _, _, s1', _, _⟩ := shift_facts mx my (List.getElem_mem hi)
      rw [join_right hi, ← em', s1', show m' = m from by rw [em, em']] at e
      exact ⟨i, hi, by split at e <;> omega⟩
/-- what the second one's code is, behind the first -/
def behind (n : Nat) (p : Piece) (i : Ins) : Ins := if 0 < p.to then { i with imm := i.imm + n } else i
theorem linkS_join (lx : x.length ≤ 1000) (ly : y.length ≤ 1000) (ex : (linkS x).2 = 0) (ey : (linkS y).2 = 0) :
    linkS (joinS x y) = (((linkS x).1.1 ++ List.zipWith (behind x.length) y (linkS y).1.1, 0), 0) := by
  have gx := Good.of ex
  have gy := Good.of ey
  have g := good_join mx my lx ly gx gy
  rw [g.linkS, gx.linkS, gy.linkS]
  simp only
  have hl : (joinS x y).length = x.length + y.length := join_len
  rw [show (joinS x y).map (placed (marksTo (joinS x y) (joinS x y).length)) = x.map (placed (marksTo x x.length)) ++ List.zipWith (behind x.length) y (y.map (placed (marksTo y y.length))) from ?_]
  refine List.ext_getElem (by simp [hl]) fun k h1 h2 => ?_
  simp only [List.length_map] at h1
  rw [List.getElem_map]
  by_cases hk : k < x.length
  · rw [List.getElem_append_left (by simpa using hk), join_left hk, List.getElem_map]
    unfold placed
    split
    · rfl
    · rename_i h0
      obtain ⟨t, ht, e⟩ := gx.to k hk h0
      have a1 := gx.at ht (by rw [e]; exact h0)
      have a2 := g.at (t := t) (by omega) (by rw [join_left ht, e]; exact h0)
      rw [join_left ht] at a2
      rw [← e, a1, a2]
  · obtain ⟨i, rfl⟩ : ∃ i, k = x.length + i := ⟨k - x.length, by omega⟩
    have hi : i < y.length := by omega
    rw [List.getElem_append_right (by simp), join_right hi]
    simp only [List.length_map, Nat.add_sub_cancel_left, List.getElem_zipWith, List.getElem_map]
    obtain ⟨m, em, m0, mb, s1, s2, s3⟩ := shift_facts mx my (List.getElem_mem hi)
    rw [← em]
    have hr := gy.right i hi
    unfold Piece.right at hr
    simp only [Bool.and_eq_true, decide_eq_true_eq] at hr
    unfold behind placed
    by_cases h0 : y[i].to = 0
    · rw [if_pos (by rw [s2, h0]; rfl), if_pos h0, if_neg (by omega), s3]
    · have hpos : 0 < y[i].to := by omega
      rw [if_neg (by rw [s2, if_pos hpos]; omega), if_neg h0, if_pos hpos, s3]
      obtain ⟨t, ht, e⟩ := gy.to i hi h0
      have a1 := gy.at ht (by rw [e]; exact h0)
      obtain ⟨m', em', _, _, s1', _, _⟩ := shift_facts mx my (List.getElem_mem ht)
      have a2 := g.at (t := x.length + t) (by omega) (by rw [join_right ht, ← em', s1', show m' = m from by rw [em, em'], if_pos (by omega)]; omega)
      rw [join_right ht, ← em', s1', show m' = m from by rw [em, em'], if_pos (by omega), e] at a2
      rw [s2, if_pos hpos, a2]
      rw [← e, a1]
      simp [Int.add_comm]
theorem linkS_unjoin (lx : x.length ≤ 1000) (ly : y.length ≤ 1000) (h : (linkS x).2 ≠ 0 ∨ (linkS y).2 ≠ 0) : (linkS (joinS x y)).2 ≠ 0 ∧ (linkS (joinS x y)).1.1 = [] := by
  have h1 : (linkS (joinS x y)).2 ≠ 0 := fun e => by
    obtain ⟨gx, gy⟩ := good_of_join mx my lx ly (Good.of e)
    rw [gx.linkS, gy.linkS] at h
    simp at h
  exact ⟨h1, linkS_bad h1⟩
end
end Go.Proofs.Ytegjcghcknpjeaa
