import Derived.Test.YtegjcghcknpjeaaP15
namespace Go.Proofs.Ytegjcghcknpjeaa
open Go.RowKit

/-! Spots: a mark, and the number of the piece that has it; what sorting them and looking at neighbours tells. -/
def aheadB (a b : Int × Int) : Bool := decide (a.1 < b.1) || (a.1 == b.1 && decide (a.2 < b.2))
theorem aheadB_iff {a b : Int × Int} : aheadB a b = true ↔ a.1 < b.1 ∨ (a.1 = b.1 ∧ a.2 < b.2) := by unfold aheadB; simp
theorem ahead_trans {a b c : Int × Int} (h : aheadB a b = true) (k : aheadB b c = true) : aheadB a c = true := by rw [aheadB_iff] at *; omega
def Asc (s : List (Int × Int)) : Prop := s.Pairwise fun a b => aheadB a b = true
def Dist (l : List (Int × Int)) : Prop := l.Pairwise fun a b => a.2 ≠ b.2
theorem ahead_total {a b : Int × Int} (h : a.2 ≠ b.2) : aheadB a b = true ∨ aheadB b a = true := by rw [aheadB_iff, aheadB_iff]; omega
theorem asc_merge : ∀ (a b : List (Int × Int)), Asc a → Asc b → (∀ x ∈ a, ∀ y ∈ b, aheadB x y = true ∨ aheadB y x = true) → Asc (List.merge a b aheadB)
  | [], b, _, hb, _ => by rw [List.nil_merge]; exact hb
  | x :: a, [], ha, _, _ => by rw [List.merge_right]; exact ha
  | x :: a, y :: b, ha, hb, hd => by
    have ha' := List.pairwise_cons.1 ha
    have hb' := List.pairwise_cons.1 hb
    rw [List.cons_merge_cons]
    split
    · rename_i h
      refine List.pairwise_cons.2 ⟨fun z hz => ?_, asc_merge a (y :: b) ha'.2 hb fun u hu => hd u (List.mem_cons_of_mem _ hu)⟩
      rcases List.mem_merge.1 hz with h1 | h1
      · exact ha'.1 z h1
      · rcases List.mem_cons.1 h1 with rfl | h2
        · exact h
        · exact ahead_trans h (hb'.1 z h2)
    · rename_i h
      have h' := (hd x List.mem_cons_self y List.mem_cons_self).resolve_left h
      refine List.pairwise_cons.2 ⟨fun z hz => ?_, asc_merge (x :: a) b ha hb'.2 fun u hu v hv => hd u hu v (List.mem_cons_of_mem _ hv)⟩
      rcases List.mem_merge.1 hz with h1 | h1
      · rcases List.mem_cons.1 h1 with rfl | h2
        · exact h'
        · exact ahead_trans h' (ha'.1 z h2)
      · exact hb'.1 z h1
termination_by a b => a.length + b.length
def mergeS (a b : List (Int × Int)) : List (Int × Int) := List.merge a b aheadB
theorem mergeS_step1 {a b : List (Int × Int)} {i k : Nat} (hi : i < a.length) (hk : k < b.length) (h : aheadB a[i] b[k] = true) : mergeS (a.drop i) (b.drop k) = a[i] :: mergeS (a.drop (i + 1)) (b.drop k) := by
  unfold mergeS
  rw [List.drop_eq_getElem_cons hi, List.drop_eq_getElem_cons hk, List.cons_merge_cons, if_pos h]
theorem mergeS_step2 {a b : List (Int × Int)} {i k : Nat} (hk : k < b.length) (h : ∀ hi : i < a.length, aheadB a[i] b[k] = false) : mergeS (a.drop i) (b.drop k) = b[k] :: mergeS (a.drop i) (b.drop (k + 1)) := by
  unfold mergeS
  by_cases hi : i < a.length
  · rw [List.drop_eq_getElem_cons hi, List.drop_eq_getElem_cons hk, List.cons_merge_cons, if_neg (by rw [h hi]; simp)]
  · rw [List.drop_of_length_le (by omega), List.nil_merge, List.nil_merge, List.drop_eq_getElem_cons hk]
theorem mergeS_end {a b : List (Int × Int)} {i k : Nat} (hk : b.length ≤ k) : mergeS (a.drop i) (b.drop k) = a.drop i := by
  unfold mergeS
  rw [List.drop_of_length_le hk, List.merge_right]
theorem mergeS_perm (a b : List (Int × Int)) : (mergeS a b).Perm (a ++ b) := List.merge_perm_append aheadB

/-- the first place of a mark, or -1 -/
def findS (s : List (Int × Int)) (m : Int) : Int := match s.find? (fun t => t.1 == m) with
  | some t => t.2
  | none => -1
theorem findS_at {s : List (Int × Int)} {m : Int} {k : Nat} (hk : k < s.length) (h : s[k].1 = m) (hb : ∀ j, (hj : j < s.length) → j < k → s[j].1 ≠ m) : findS s m = s[k].2 := by
  unfold findS
  have : s.find? (fun t => t.1 == m) = some s[k] := by
    rw [List.find?_eq_some_iff_getElem]
    exact ⟨by simpa using h, k, hk, rfl, fun j hj => by simpa using hb j (by omega) hj⟩
  rw [this]
theorem findS_no {s : List (Int × Int)} {m : Int} (h : ∀ t ∈ s, t.1 ≠ m) : findS s m = -1 := by
  unfold findS
  have : s.find? (fun t => t.1 == m) = none := by
    rw [List.find?_eq_none]
    exact fun t ht => by simpa using h t ht
  rw [this]

/-- the spots of the first k pieces -/
def spotsK (l : List Piece) : Nat → List (Int × Int)
  | 0 => []
  | k + 1 => match l[k]? with
    | some p => if 0 < p.mark then spotsK l k ++ [(p.mark, (k : Int))] else spotsK l k
    | none => spotsK l k
theorem spotsK_succ {l : List Piece} {k : Nat} (h : k < l.length) : spotsK l (k + 1) = if 0 < l[k].mark then spotsK l k ++ [(l[k].mark, (k : Int))] else spotsK l k := by
  rw [spotsK, List.getElem?_eq_getElem h]
theorem mem_spotsK {l : List Piece} {t : Int × Int} : ∀ {k : Nat}, k ≤ l.length → (t ∈ spotsK l k ↔ ∃ j, ∃ hj : j < l.length, j < k ∧ 0 < l[j].mark ∧ t = (l[j].mark, (j : Int)))
  | 0, _ => by
    constructor
    · intro h; cases h
    · rintro ⟨j, _, h, _⟩; omega
  | k + 1, hk => by
    rw [spotsK_succ (show k < l.length by omega)]
    have ih := mem_spotsK (t := t) (show k ≤ l.length by omega)
    split
    · rename_i h0
      rw [List.mem_append, ih, List.mem_singleton]
      constructor
      · rintro (⟨j, hj, h1, h2, h3⟩ | h)
        · exact ⟨j, hj, by omega, h2, h3⟩
        · exact ⟨k, by omega, by omega, h0, h⟩
      · rintro ⟨j, hj, h1, h2, h3⟩
        by_cases e : j = k
        · subst e; exact .inr h3
        · exact .inl ⟨j, hj, by omega, h2, h3⟩
    · rename_i h0
      rw [ih]
      constructor
      · rintro ⟨j, hj, h1, h2, h3⟩
        exact ⟨j, hj, by omega, h2, h3⟩
      · rintro ⟨j, hj, h1, h2, h3⟩
        by_cases e : j = k
        · subst e; exact absurd h2 h0
        · exact ⟨j, hj, by omega, h2, h3⟩
theorem spotsK_len (l : List Piece) : ∀ k, (spotsK l k).length ≤ k
  | 0 => Nat.le_refl _
  | k + 1 => by
    have := spotsK_len l k
    rw [spotsK]
    split
    · split
      · simp; omega
      · omega
    · omega
theorem dist_spotsK {l : List Piece} : ∀ {k : Nat}, k ≤ l.length → Dist (spotsK l k)
  | 0, _ => List.Pairwise.nil
  | k + 1, hk => by
    rw [spotsK_succ (show k < l.length by omega)]
    have ih := dist_spotsK (show k ≤ l.length by omega)
    split
    · refine List.pairwise_append.2 ⟨ih, List.pairwise_singleton _ _, fun a ha b hb => ?_⟩
      obtain ⟨j, hj, h1, _, h3⟩ := (mem_spotsK (show k ≤ l.length by omega)).1 ha
      cases List.mem_singleton.1 hb
      rw [h3]
      simp only
      omega
    · exact ih

/-- the least number so far of a piece whose mark stands ahead of it -/
def twK (s : List (Int × Int)) (W : Int) : Nat → Int
  | 0 => W
  | i + 1 => match s[i]?, s[i - 1]? with
    | some t, some u => if i = 0 then W else if t.1 = u.1 then (if t.2 < twK s W i then t.2 else twK s W i) else twK s W i
    | _, _ => twK s W i
theorem twK_one (s : List (Int × Int)) (W : Int) : twK s W 1 = W := by
  rw [twK]
  split
  · simp
  · rfl
theorem twK_succ {s : List (Int × Int)} {W : Int} {i : Nat} (h : i < s.length) (h0 : 0 < i) : twK s W (i + 1) = if s[i].1 = (s[i - 1]'(by omega)).1 then (if s[i].2 < twK s W i then s[i].2 else twK s W i) else twK s W i := by
  rw [twK, List.getElem?_eq_getElem h, List.getElem?_eq_getElem (show i - 1 < s.length by omega)]
  simp only
  rw [if_neg (by omega)]
theorem twK_facts {s : List (Int × Int)} {W : Int} : ∀ {i : Nat}, i ≤ s.length → twK s W i ≤ W ∧ (∀ p, (hp : p < s.length) → 0 < p → p < i → s[p].1 = (s[p - 1]'(by omega)).1 → twK s W i ≤ s[p].2) ∧
    (twK s W i = W ∨ ∃ p, ∃ hp : p < s.length, 0 < p ∧ s[p].1 = (s[p - 1]'(by omega)).1 ∧ twK s W i = s[p].2)
  | 0, _ => ⟨Int.le_refl _, (fun p _ _ h => by omega), .inl rfl⟩
  | i + 1, hi => by
    obtain ⟨h1, h2, h3⟩ := twK_facts (s := s) (W := W) (show i ≤ s.length by omega)
    by_cases h0 : i = 0
    · subst h0
      rw [twK_one]
      exact ⟨Int.le_refl _, (fun p _ h h' => by omega), .inl rfl⟩
    rw [twK_succ (show i < s.length by omega) (by omega)]
    split
    · rename_i he
      split
      · refine ⟨by omega, fun p hp h0 hpi e => ?_, .inr ⟨i, by omega, by omega, he, rfl⟩⟩
        by_cases e' : p = i
        · subst e'; exact Int.le_refl _
        · have := h2 p hp h0 (by omega) e; omega
      · refine ⟨h1, fun p hp h0 hpi e => ?_, h3⟩
        by_cases e' : p = i
        · subst e'; omega
        · exact h2 p hp h0 (by omega) e
    · rename_i he
      refine ⟨h1, fun p hp h0 hpi e => ?_, h3⟩
      by_cases e' : p = i
      · subst e'; exact absurd e he
      · exact h2 p hp h0 (by omega) e

/-- is a mark ahead of piece k its own? -/
def Dup (l : List Piece) (k : Nat) : Prop := ∃ hk : k < l.length, ∃ j, ∃ hj : j < l.length, j < k ∧ 0 < l[k].mark ∧ l[j].mark = l[k].mark
section
variable {l : List Piece} {W : Nat} {s : List (Int × Int)} (hW : W ≤ l.length) (hp : s.Perm (spotsK l W)) (ha : Asc s)
include ha in
theorem asc_at {i j : Nat} (hi : i < s.length) (hj : j < s.length) (h : i < j) : aheadB s[i] s[j] = true := List.pairwise_iff_getElem.1 ha i j hi hj h
include hW hp in
theorem spot_of {p : Nat} (h : p < s.length) : ∃ j, ∃ hj : j < l.length, j < W ∧ 0 < l[j].mark ∧ s[p] = (l[j].mark, (j : Int)) := (mem_spotsK hW).1 (hp.mem_iff.1 (List.getElem_mem h))
include hW hp in
theorem spot_at {j : Nat} (hj : j < l.length) (h : j < W) (h0 : 0 < l[j].mark) : ∃ p, ∃ h : p < s.length, s[p] = (l[j].mark, (j : Int)) := by
  have := hp.mem_iff.2 ((mem_spotsK hW).2 ⟨j, hj, h, h0, rfl⟩)
  obtain ⟨p, hp, e⟩ := List.getElem_of_mem this
  exact ⟨p, hp, e⟩
include hW hp ha in
theorem dup_near {p : Nat} (h : p < s.length) (h0 : 0 < p) (e : s[p].1 = (s[p - 1]'(by omega)).1) : ∃ k : Nat, s[p].2 = k ∧ k < W ∧ Dup l k := by
  obtain ⟨k, hk, h1, h2, h3⟩ := spot_of hW hp h
  obtain ⟨j, hj, g1, g2, g3⟩ := spot_of hW hp (show p - 1 < s.length by omega)
  have := asc_at ha (show p - 1 < s.length by omega) h (by omega)
  rw [aheadB_iff, h3, g3] at this
  rw [h3, g3] at e
  simp only at this e
  exact ⟨k, by rw [h3], h1, hk, j, hj, by omega, h2, e.symm⟩
include hW hp ha in
theorem near_dup {k : Nat} (h : k < W) (hd : Dup l k) : ∃ p, ∃ hp : p < s.length, ∃ h0 : 0 < p, s[p].1 = (s[p - 1]'(by omega)).1 ∧ s[p].2 = k := by
  obtain ⟨hk, j, hj, h1, h2, h3⟩ := hd
  obtain ⟨p, hpl, e⟩ := spot_at hW hp hk h h2
  obtain ⟨q, hql, e'⟩ := spot_at hW hp hj (by omega) (by omega)
  have hqp : q < p := by
    rcases Nat.lt_trichotomy p q with h | h | h
    · have := asc_at ha hpl hql h
      rw [aheadB_iff, e, e'] at this
      simp only at this
      omega
    · subst h
      rw [e] at e'
      simp only [Prod.mk.injEq] at e'
      omega
    · exact h
  refine ⟨p, hpl, by omega, ?_, by rw [e]⟩
  have a1 := asc_at ha (show p - 1 < s.length by omega) hpl (by omega)
  rw [aheadB_iff] at a1
  rw [e] at a1 ⊢
  by_cases hq : q = p - 1
  · subst hq
    rw [e']
    exact h3.symm
  · have a2 := asc_at ha hql (show p - 1 < s.length by omega) (by omega)
    rw [aheadB_iff, e'] at a2
    simp only at a1 a2 ⊢
    omega
theorem dup_marks (hr : ∀ k, (hk : k < l.length) → k < W → l[k].right = true) {k : Nat} (hk : k < l.length) (h : k < W) : Dup l k ↔ marksTo l k l[k].mark ≠ none := by
  have hs : 0 ≤ l[k].mark := by
    have := hr k hk h
    unfold Piece.right at this
    simp only [Bool.and_eq_true, decide_eq_true_eq] at this
    exact this.1.1.1
  constructor
  · rintro ⟨_, j, hj, h1, h2, h3⟩ hn
    rcases marksTo_none (by omega) hn with h4 | h4
    · omega
    · exact h4 j hj h1 h3
  · intro hn
    cases hc : marksTo l k l[k].mark with
    | none => exact absurd hc hn
    | some v =>
      obtain ⟨h0, j, hj, h1, _, h2⟩ := marksTo_some (by omega) hc
      exact ⟨hk, j, hj, h1, by omega, h2⟩
include hW hp ha
omit hW hp ha in
theorem fault_by (hr : ∀ k, (hk : k < l.length) → k < W → l[k].right = true) {k : Nat} {e : Int} (hk : k < l.length) (hkW : k ≤ W) (hn : ∀ j, j < k → ¬ Dup l j) (hy : (k < W ∧ Dup l k ∧ e = 171) ∨ (l[k].right = false ∧ e = 170)) : fault l 0 l = some (k, e) := by
  suffices h : ∀ m i, i ≤ k → k - i = m → fault l i (l.drop i) = some (k, e) by simpa using h k 0 (Nat.zero_le _) rfl
  intro m
  induction m with
  | zero =>
    intro i h1 h2
    obtain rfl : i = k := by omega
    rw [fault_step hk]
    rcases hy with ⟨h3, h4, rfl⟩ | ⟨h3, rfl⟩
    · rw [if_neg (by rw [hr i hk h3]; simp)]
      have := (dup_marks hr hk h3).1 h4
      rw [if_pos (by cases hc : marksTo l i l[i].mark with
        | none => exact absurd hc this
        | some v => rfl)]
    · rw [if_pos h3]
  | succ m ih =>
    intro i h1 h2
    have hi : i < l.length := by omega
    rw [fault_step hi, if_neg (by rw [hr i hi (by omega)]; simp)]
    have : marksTo l i l[i].mark = none := by
      cases hc : marksTo l i l[i].mark with
      | none => rfl
      | some v => exact absurd ((dup_marks hr hi (by omega)).2 (by rw [hc]; simp)) (hn i (by omega))
    rw [this]
    exact ih (i + 1) (by omega) (by omega)
/-- What the last numbers say. -/
theorem link_twice (hr : ∀ k, (hk : k < l.length) → k < W → l[k].right = true) (hb : l.length ≤ 32768) (h : twK s W s.length < W) : linkS l = (([], twK s W s.length), 171) := by
  obtain ⟨h1, h2, h3⟩ := twK_facts (s := s) (W := (W : Int)) (Nat.le_refl _)
  rcases h3 with h3 | ⟨p, hpl, hp0, he, h3⟩
  · omega
  obtain ⟨k, e1, e2, e3⟩ := dup_near hW hp ha hpl hp0 he
  have hk : k < l.length := e3.1
  rw [h3, e1]
  have hf := fault_by hr (k := k) (e := 171) hk (by omega) (fun j hj hd => by
    obtain ⟨q, hq, hq0, he', e4⟩ := near_dup hW hp ha (show j < W by omega) hd
    have := h2 q hq hq0 hq he'
    omega) (.inl ⟨e2, e3, rfl⟩)
  unfold linkS
  rw [if_neg (by omega), hf]
theorem no_dup (h : ¬ twK s W s.length < W) {k : Nat} (hk : k < W) : ¬ Dup l k := fun hd => by
  obtain ⟨h1, h2, h3⟩ := twK_facts (s := s) (W := (W : Int)) (Nat.le_refl _)
  obtain ⟨q, hq, hq0, he', e4⟩ := near_dup hW hp ha hk hd
  have := h2 q hq hq0 hq he'
  omega
theorem link_wrong (hr : ∀ k, (hk : k < l.length) → k < W → l[k].right = true) (hb : l.length ≤ 32768) (h : ¬ twK s W s.length < W) (hl : W < l.length) (hw : l[W].right = false) : linkS l = (([], (W : Int)), 170) := by
  have hf := fault_by hr (k := W) (e := 170) hl (Nat.le_refl _) (fun j hj => no_dup hW hp ha h hj) (.inr ⟨hw, rfl⟩)
  unfold linkS
  rw [if_neg (by omega), hf]
end
section
variable {l : List Piece} {s : List (Int × Int)} (hp : s.Perm (spotsK l l.length)) (ha : Asc s)
include hp ha
theorem fault_right (hr : ∀ k, (hk : k < l.length) → l[k].right = true) (h : ¬ twK s l.length s.length < l.length) : fault l 0 l = none :=
  fault_none hr fun k hk => by
    cases hc : marksTo l k l[k].mark with
    | none => rfl
    | some v => exact absurd ((dup_marks (fun k hk _ => hr k hk) hk hk).2 (by rw [hc]; simp)) (no_dup (Nat.le_refl _) hp ha h hk)
theorem find_marks (h : ¬ twK s l.length s.length < l.length) {m : Int} (hm : 0 < m) :
    (marksTo l l.length m = none → findS s m = -1) ∧ ∀ v, marksTo l l.length m = some v → findS s m = v := by
  constructor
  · intro hn
    refine findS_no fun t ht e => ?_
    obtain ⟨j, hj, _, _, e'⟩ := (mem_spotsK (Nat.le_refl _)).1 (hp.mem_iff.1 ht)
    rcases marksTo_none (Nat.le_refl _) hn with h1 | h1
    · omega
    · exact h1 j hj hj (by rw [e'] at e; exact e)
  · intro v hv
    obtain ⟨h0, j, hj, _, hvj, hmj⟩ := marksTo_some (Nat.le_refl _) hv
    obtain ⟨p, hpl, e⟩ := spot_at (Nat.le_refl _) hp hj hj (by omega)
    have hu : ∀ q, (hq : q < s.length) → q < p → s[q].1 ≠ m := fun q hq hqp e' => by
      obtain ⟨k, hk, _, h3, h4⟩ := spot_of (Nat.le_refl _) hp hq
      have := asc_at ha hq hpl hqp
      rw [aheadB_iff, e, h4] at this
      rw [h4] at e'
      simp only at this e'
      exact no_dup (Nat.le_refl _) hp ha h hj ⟨hj, k, hk, by omega, by omega, by omega⟩
    rw [findS_at hpl (by rw [e]; exact hmj) hu, e, hvj]
end
end Go.Proofs.Ytegjcghcknpjeaa
