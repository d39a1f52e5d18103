import Derived.Test.YtiogopichcnihaaBase
namespace Go.Proofs.Ytiogopichcnihaa
set_option maxRecDepth 100000

def badSide (s : Int) : Bool := decide (s < 0) || decide (65536 < s)

theorem badSide_false {s : Int} (h : badSide s = false) : 0 ≤ s ∧ s ≤ 65536 := by
  simp [badSide] at h; exact h

/-- the product from n on, or too great -/
def prodTo : Int → List Int → Int × Int
  | n, [] => (n, 0)
  | n, s :: r => if 65536 < n * s then (0, 61) else prodTo (n * s) r

/-- how many numbers an array of these sides has -/
def size (xs : List Int) : Int × Int :=
  if 4 < xs.length then (0, 61) else if xs.any badSide then (0, 61) else if xs.any ((0 : Int) == ·) then (0, 0) else prodTo 1 xs

theorem prodTo_step {n : Int} {k : Nat} {xs : List Int} (h : k < xs.length) :
    prodTo n (xs.drop k) = if 65536 < n * xs[k] then (0, 61) else prodTo (n * xs[k]) (xs.drop (k + 1)) := by
  rw [List.drop_eq_getElem_cons h, prodTo]

theorem any_false_get {p : Int → Bool} {xs : List Int} (h : xs.any p = false) (k : Nat) (hk : k < xs.length) : p xs[k] = false := by
  rw [List.any_eq_false] at h
  simpa using h xs[k] (List.getElem_mem hk)

theorem mul_bd {a b : Int} (h1 : 0 ≤ a) (h2 : a ≤ 65536) (h3 : 0 ≤ b) (h4 : b ≤ 65536) : 0 ≤ a * b ∧ a * b ≤ 4294967296 := by
  refine ⟨Int.mul_nonneg h1 h3, ?_⟩
  have := Int.mul_le_mul h2 h4 h3 (by omega : (0 : Int) ≤ 65536)
  omega

theorem any_take_succ {p : Int → Bool} {xs : List Int} {k : Nat} (hk : k < xs.length) : (xs.take (k + 1)).any p = ((xs.take k).any p || p xs[k]) := by
  rw [List.take_succ_eq_append_getElem hk, List.any_append]; simp only [List.any_cons, List.any_nil, Bool.or_false]

theorem size_bad {xs : List Int} (h : xs.any badSide = true) : size xs = (0, 61) := by
  unfold size
  by_cases h4 : 4 < xs.length
  · rw [if_pos h4]
  · rw [if_neg h4, if_pos h]

def prodL : List Int → Int
  | [] => 1
  | s :: r => s * prodL r

theorem prodL_append (a b : List Int) : prodL (a ++ b) = prodL a * prodL b := by
  induction a with
  | nil => simp [prodL]
  | cons x a ih => simp only [List.cons_append, prodL, ih, Int.mul_assoc]

theorem prodL_pos {l : List Int} (h : ∀ x ∈ l, 0 < x) : 0 < prodL l := by
  induction l with
  | nil => simp [prodL]
  | cons x l ih => exact Int.mul_pos (h x (by simp)) (ih fun y hy => h y (by simp [hy]))

theorem prodTo_ok : ∀ (xs : List Int) (n m : Int), prodTo n xs = (m, 0) → m = n * prodL xs ∧ (0 < xs.length → m ≤ 65536)
  | [], n, m, h => by simp [prodTo] at h; simp [prodL, h]
  | s :: r, n, m, h => by
    rw [prodTo] at h
    split at h
    · simp at h
    · obtain ⟨h1, h2⟩ := prodTo_ok r (n * s) m h
      refine ⟨by rw [h1, prodL, Int.mul_assoc], fun _ => ?_⟩
      cases r with
      | nil => simp [prodTo] at h; omega
      | cons y r => exact h2 (by simp)

theorem prodTo_err : ∀ (xs : List Int) (n : Int), prodTo n xs = (0, 61) ∨ ∃ m, prodTo n xs = (m, 0)
  | [], n => .inr ⟨n, rfl⟩
  | s :: r, n => by
    rw [prodTo]
    split
    · exact .inl rfl
    · exact prodTo_err r (n * s)

theorem size_err (xs : List Int) : size xs = (0, 61) ∨ ∃ m, size xs = (m, 0) := by
  unfold size
  split
  · exact .inl rfl
  · split
    · exact .inl rfl
    · split
      · exact .inr ⟨0, rfl⟩
      · exact prodTo_err xs 1

/-- sides that may be: what is known of them -/
structure Good (xs : List Int) (n : Int) : Prop where
  len : xs.length ≤ 4
  side : ∀ x ∈ xs, 0 ≤ x ∧ x ≤ 65536
  prod : n = prodL xs
  le : n ≤ 65536
  zero : n = 0 ↔ ∃ x ∈ xs, x = 0

theorem prodL_zero {l : List Int} (h : (0 : Int) ∈ l) : prodL l = 0 := by
  induction l with
  | nil => simp at h
  | cons x l ih =>
    rcases List.mem_cons.1 h with h | h
    · subst h; simp [prodL]
    · simp [prodL, ih h]

theorem size_good {xs : List Int} {n : Int} (h : size xs = (n, 0)) : Good xs n := by
  unfold size at h
  split at h
  · simp at h
  · rename_i h4
    split at h
    · simp at h
    · rename_i hb
      have hb' : xs.any badSide = false := by simpa using hb
      have hs : ∀ x ∈ xs, 0 ≤ x ∧ x ≤ 65536 := fun x hx => badSide_false (by rw [List.any_eq_false] at hb'; simpa using hb' x hx)
      split at h
      · rename_i hz
        obtain ⟨x, hx, hx0⟩ := List.any_eq_true.1 hz
        have hx0 : x = 0 := by simpa using (beq_iff_eq.1 hx0).symm
        have hn : n = 0 := by simp at h; omega
        subst hx0
        exact ⟨by omega, hs, by rw [hn, prodL_zero hx], by omega, by simp [hn]; exact hx⟩
      · rename_i hz
        have hz' : ∀ x ∈ xs, x ≠ 0 := fun x hx e => hz (List.any_eq_true.2 ⟨x, hx, by simp [e]⟩)
        obtain ⟨h1, h2⟩ := prodTo_ok xs 1 n h
        have hp : 0 < prodL xs := prodL_pos fun x hx => by have := hs x hx; have := hz' x hx; omega
        refine ⟨by omega, hs, by simpa using h1, ?_, ?_⟩
        · cases xs with
          | nil => simp [prodL] at h1; omega
          | cons y r => exact h2 (by simp)
        · constructor
          · intro h0; rw [h0] at h1; omega
          · rintro ⟨x, hx, e⟩; exact absurd e (hz' x hx)

theorem prodL_le_pow {l : List Int} (h : ∀ x ∈ l, 0 ≤ x ∧ x ≤ 65536) : 0 ≤ prodL l ∧ prodL l ≤ 65536 ^ l.length := by
  induction l with
  | nil => simp [prodL]
  | cons x l ih =>
    have ⟨h0, h1⟩ := ih fun y hy => h y (by simp [hy])
    have ⟨x0, x1⟩ := h x (by simp)
    refine ⟨Int.mul_nonneg x0 h0, ?_⟩
    show x * prodL l ≤ _
    rw [List.length_cons, Int.pow_succ, Int.mul_comm (65536 ^ _)]
    exact Int.mul_le_mul x1 h1 h0 (by omega)

theorem prodL_take_le {xs : List Int} {n : Int} (g : Good xs n) {k : Nat} : prodL (xs.take k) ≤ 281474976710656 := by
  by_cases hk : (xs.take k).length ≤ 3
  · have ⟨h0, h1⟩ := prodL_le_pow (l := xs.take k) fun x hx => g.side x (List.mem_of_mem_take hx)
    refine Int.le_trans h1 ?_
    generalize (xs.take k).length = m at hk
    match m, hk with
    | 0, _ => decide
    | 1, _ => decide
    | 2, _ => decide
    | 3, _ => decide
  · have hl : (xs.take k).length = min k xs.length := List.length_take
    have hkl : xs.length ≤ k := by have := g.len; omega
    rw [List.take_of_length_le hkl] at *
    rw [← g.prod]
    have := g.le
    omega

/-- a place by sides, from n on -/
def placeTo : Int → List Int → List Int → Int × Int
  | n, s :: ss, k :: ks => if k < 0 ∨ s ≤ k then (0, 62) else placeTo (n * s + k) ss ks
  | n, _, _ => (n, 0)

/-- where a number stands in the list -/
def place (sides index : List Int) : Int × Int :=
  if (size sides).2 = 0 then (if index.length = sides.length then placeTo 0 sides index else (0, 62)) else (0, (size sides).2)

theorem placeTo_step {n : Int} {k : Nat} {xs ys : List Int} (h : k < xs.length) (h2 : k < ys.length) :
    placeTo n (xs.drop k) (ys.drop k) = if ys[k] < 0 ∨ xs[k] ≤ ys[k] then (0, 62) else placeTo (n * xs[k] + ys[k]) (xs.drop (k + 1)) (ys.drop (k + 1)) := by
  rw [List.drop_eq_getElem_cons h, List.drop_eq_getElem_cons h2, placeTo]
theorem prodL_take_succ {xs : List Int} {k : Nat} (hk : k < xs.length) : prodL (xs.take (k + 1)) = prodL (xs.take k) * xs[k] := by
  rw [List.take_succ_eq_append_getElem hk, prodL_append]; simp [prodL]

/-- one step more of a place stays below the product -/
theorem place_bd {n s k P : Int} (h0 : 0 ≤ n) (h1 : n < P) (k0 : 0 ≤ k) (k1 : k < s) : 0 ≤ n * s ∧ 0 ≤ n * s + k ∧ n * s + k < P * s := by
  have a := Int.mul_nonneg h0 (by omega : 0 ≤ s)
  have b : (n + 1) * s ≤ P * s := Int.mul_le_mul_of_nonneg_right (by omega) (by omega)
  rw [Int.add_mul] at b
  exact ⟨a, by omega, by omega⟩

/-- the index by sides of the number at place p -/
def idx : List Int → Int → List Int
  | [], _ => []
  | s :: r, p => (p / prodL r) % s :: idx r p

theorem length_idx : ∀ (xs : List Int) (p : Int), (idx xs p).length = xs.length
  | [], _ => rfl
  | _ :: r, p => by simp [idx, length_idx r p]

/-- where the number at a place of the list stands by the sides -/
def index (sides : List Int) (p : Int) : List Int × Int :=
  if (size sides).2 = 0 then (if p < 0 ∨ (size sides).1 ≤ p then ([], 62) else (idx sides p, 0)) else ([], (size sides).2)

theorem idx_drop {xs : List Int} {j : Nat} (h : j < xs.length) (p : Int) : idx (xs.drop j) p = (p / prodL (xs.drop (j + 1))) % xs[j] :: idx (xs.drop (j + 1)) p := by
  rw [List.drop_eq_getElem_cons h, idx]
theorem prodL_drop {xs : List Int} {j : Nat} (h : j < xs.length) : prodL (xs.drop j) = prodL (xs.drop (j + 1)) * xs[j] := by
  rw [List.drop_eq_getElem_cons h, prodL, Int.mul_comm]
theorem set_replicate {α : Type} (z v : α) (j : Nat) (l : List α) : (List.replicate (j + 1) z ++ l).set j v = List.replicate j z ++ v :: l := by
  induction j with
  | zero => rfl
  | succ j ih => rw [List.replicate_succ, List.cons_append, List.set_cons_succ, ih, List.replicate_succ, List.cons_append]
end Go.Proofs.Ytiogopichcnihaa
