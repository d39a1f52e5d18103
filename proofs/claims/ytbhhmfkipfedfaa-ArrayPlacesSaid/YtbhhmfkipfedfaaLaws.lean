import Derived.Test.YtbhhmfkipfedfaaSpec
namespace Go.Proofs.Ytbhhmfkipfedfaa

theorem placeTo_cases : ∀ (xs ys : List Int) (m : Int), placeTo m xs ys = (0, 62) ∨ ∃ n, placeTo m xs ys = (n, 0)
  | [], _, m => .inr ⟨m, by simp [placeTo]⟩
  | _ :: _, [], m => .inr ⟨m, by simp [placeTo]⟩
  | s :: xs, k :: ys, m => by
    rw [placeTo]
    split
    · exact .inl rfl
    · exact placeTo_cases xs ys _

theorem place_cases (xs ys : List Int) : ((place xs ys).2 ≠ 0 ∧ (place xs ys).1 = 0) ∨ ∃ n m, place xs ys = (n, 0) ∧ size xs = (m, 0) ∧ ys.length = xs.length ∧ placeTo 0 xs ys = (n, 0) := by
  unfold place
  rcases size_err xs with h | ⟨m, h⟩
  · left; rw [h]; simp
  · rw [h, if_pos rfl]
    by_cases hl : ys.length = xs.length
    · rw [if_pos hl]
      rcases placeTo_cases xs ys 0 with h2 | ⟨n, h2⟩
      · left; rw [h2]; simp
      · right; exact ⟨n, m, h2, rfl, hl, h2⟩
    · left; rw [if_neg hl]; simp

theorem placeTo_spec : ∀ (xs ys : List Int) (m n : Int), ys.length = xs.length → 0 ≤ m → placeTo m xs ys = (n, 0) → ∃ q, n = m * prodL xs + q ∧ 0 ≤ q ∧ q < prodL xs ∧ idx xs n = ys
  | [], [], m, n, _, _, h => by simp [placeTo] at h; exact ⟨0, by simp [prodL, h], by omega, by simp [prodL], rfl⟩
  | [], _ :: _, _, _, hl, _, _ => by simp at hl
  | _ :: _, [], _, _, hl, _, _ => by simp at hl
  | s :: xs, k :: ys, m, n, hl, hm, h => by
    rw [placeTo] at h
    split at h
    · simp at h
    · rename_i hk
      have hk0 : 0 ≤ k := by omega
      have hks : k < s := by omega
      have hms : 0 ≤ m * s := Int.mul_nonneg hm (by omega)
      obtain ⟨q, h1, h2, h3, h4⟩ := placeTo_spec xs ys (m * s + k) n (by simpa using hl) (by omega) h
      have hR : 0 < prodL xs := by omega
      have hdiv : n / prodL xs = m * s + k := by
        rw [h1, Int.add_comm, Int.add_mul_ediv_right _ _ (by omega), Int.ediv_eq_zero_of_lt h2 h3, Int.zero_add]
      refine ⟨k * prodL xs + q, ?_, ?_, ?_, ?_⟩
      · rw [h1, prodL, Int.add_mul, Int.mul_assoc, Int.add_assoc]
      · have := Int.mul_nonneg hk0 (Int.le_of_lt hR); omega
      · have : (k + 1) * prodL xs ≤ s * prodL xs := Int.mul_le_mul_of_nonneg_right (by omega) (Int.le_of_lt hR)
        rw [Int.add_mul] at this
        rw [prodL]; omega
      · rw [idx, hdiv, h4, Int.add_comm, Int.add_mul_emod_self_right, Int.emod_eq_of_lt hk0 hks]

theorem emod_mul (p R s : Int) (hR : 0 ≤ R) : p % (s * R) = (p / R) % s * R + p % R := by
  rw [Int.emod_def, Int.emod_def (p / R), Int.emod_def p R, Int.sub_mul, Int.mul_comm s R, ← Int.ediv_ediv_of_nonneg hR]
  rw [Int.mul_comm R (p / R)]
  have : s * (p / R / s) * R = R * s * (p / R / s) := by rw [Int.mul_comm (s * _) R, Int.mul_assoc]
  omega

theorem placeTo_idx : ∀ (xs : List Int) (m p : Int), (∀ x ∈ xs, 0 < x) → placeTo m xs (idx xs p) = (m * prodL xs + p % prodL xs, 0)
  | [], m, p, _ => by simp [placeTo, prodL]
  | s :: r, m, p, h => by
    have hs : 0 < s := h s (by simp)
    have hr : ∀ x ∈ r, 0 < x := fun x hx => h x (by simp [hx])
    rw [idx, placeTo, if_neg (by have := Int.emod_nonneg (p / prodL r) (by omega : s ≠ 0); have := Int.emod_lt_of_pos (p / prodL r) hs; omega), placeTo_idx r _ p hr, prodL,
      emod_mul p (prodL r) s (Int.le_of_lt (prodL_pos hr)), Int.add_mul, Int.mul_assoc, Int.add_assoc]

theorem index_place {xs i : List Int} {p : Int} (h : index xs p = (i, 0)) : place xs i = (p, 0) ∧ i.length = xs.length := by
  unfold index at h
  rcases size_err xs with he | ⟨m, he⟩
  · rw [he] at h; simp at h
  · rw [he, if_pos rfl] at h
    split at h
    · simp at h
    · rename_i hp
      simp only [Prod.mk.injEq, and_true] at h
      have g := size_good he
      have hpos : ∀ x ∈ xs, 0 < x := fun x hx => by
        have := g.side x hx
        have : x ≠ 0 := fun e => by have := g.zero.2 ⟨x, hx, e⟩; simp only [] at hp; omega
        omega
      have hlen : i.length = xs.length := by rw [← h, length_idx]
      refine ⟨?_, hlen⟩
      unfold place
      rw [he, if_pos rfl, if_pos hlen, ← h, placeTo_idx xs 0 p hpos, Int.zero_mul, Int.zero_add, Int.emod_eq_of_lt (by omega) (by rw [← g.prod]; simp only [] at hp; omega)]

theorem index_err {xs : List Int} {p : Int} (h : (index xs p).2 ≠ 0) : (index xs p).1 = [] := by
  unfold index at *
  split
  · rename_i h1
    rw [if_pos h1] at h
    split
    · rfl
    · rename_i h2; rw [if_neg h2] at h; simp at h
  · rfl

theorem place_index {xs ys : List Int} {n : Int} (h : place xs ys = (n, 0)) : ∃ m, size xs = (m, 0) ∧ index xs n = (ys, 0) ∧ 0 ≤ n ∧ n < m := by
  rcases place_cases xs ys with ⟨h1, _⟩ | ⟨n', m, h1, h2, h3, h4⟩
  · rw [h] at h1; simp at h1
  · rw [h] at h1
    obtain rfl : n = n' := by simpa using h1
    obtain ⟨q, e1, e2, e3, e4⟩ := placeTo_spec xs ys 0 n h3 (by omega) h4
    have g := size_good h2
    have hm := g.prod
    refine ⟨m, h2, ?_, by omega, by omega⟩
    unfold index
    rw [h2, if_pos rfl, if_neg (by simp only []; omega), e4]

/-- of two indexes the one that is ahead has the lesser place -/
theorem placeTo_rises : ∀ (xs a b : List Int) (c n m : Int) (k : Nat) (ha : k < a.length) (hb : k < b.length), a.length = xs.length → b.length = xs.length → 0 ≤ c → a.take k = b.take k →
    placeTo c xs a = (n, 0) → placeTo c xs b = (m, 0) → a[k] ≠ b[k] → (n < m ↔ a[k] < b[k]) ∧ n ≠ m
  | [], [], _, _, _, _, _, ha, _, _, _, _, _, _, _, _ => absurd ha (by simp)
  | [], _ :: _, _, _, _, _, _, _, _, hl, _, _, _, _, _, _ => by simp at hl
  | _ :: _, [], _, _, _, _, _, ha, _, _, _, _, _, _, _, _ => absurd ha (by simp)
  | _ :: _, _ :: _, [], _, _, _, _, _, hb, _, _, _, _, _, _, _ => absurd hb (by simp)
  | s :: xs, x :: a, y :: b, c, n, m, k, ha, hb, la, lb, hc, ht, h1, h2, hne => by
    rw [placeTo] at h1 h2
    split at h1
    · simp at h1
    · split at h2
      · simp at h2
      · rename_i hx hy
        have hcs : 0 ≤ c * s := Int.mul_nonneg hc (by omega)
        cases k with
        | zero =>
          obtain ⟨q1, e1, f1, g1, _⟩ := placeTo_spec xs a (c * s + x) n (by simpa using la) (by omega) h1
          obtain ⟨q2, e2, f2, g2, _⟩ := placeTo_spec xs b (c * s + y) m (by simpa using lb) (by omega) h2
          simp only [List.getElem_cons_zero] at hne ⊢
          have key : ∀ {u v : Int}, u < v → (c * s + u) * prodL xs + prodL xs ≤ (c * s + v) * prodL xs := fun {u v} huv => by
            have := Int.mul_le_mul_of_nonneg_right (by omega : c * s + u + 1 ≤ c * s + v) (by omega : 0 ≤ prodL xs)
            rw [Int.add_mul (c * s + u) 1, Int.one_mul] at this
            exact this
          rcases Int.lt_trichotomy x y with h | h | h
          · have := key h
            exact ⟨⟨fun _ => h, fun _ => by omega⟩, by omega⟩
          · exact absurd h hne
          · have := key h
            exact ⟨⟨fun _ => by omega, fun _ => by omega⟩, by omega⟩
        | succ k =>
          simp only [List.take_succ_cons, List.cons.injEq] at ht
          obtain ⟨rfl, ht⟩ := ht
          simp only [List.getElem_cons_succ] at hne ⊢
          exact placeTo_rises xs a b (c * s + x) n m k (by simpa using ha) (by simpa using hb) (by simpa using la) (by simpa using lb) (by omega) ht h1 h2 hne
end Go.Proofs.Ytbhhmfkipfedfaa
