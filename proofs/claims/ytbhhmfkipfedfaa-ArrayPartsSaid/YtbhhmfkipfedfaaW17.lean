import Derived.Test.YtbhhmfkipfedfaaW16
import Derived.Test.YtbhhmfkipfedfaaKeep
namespace Go.Proofs.Ytbhhmfkipfedfaa
open Go.RowKit

theorem chunks_flatten (m : Nat) (d : List Int) : ∀ k, (chunks m d k).flatten = d.take (k * m)
  | 0 => by simp [chunks]
  | k + 1 => by
    rw [chunks_succ, List.flatten_append, chunks_flatten m d k, Nat.succ_mul, List.take_add]
    simp

theorem prodTo_good : ∀ (xs : List Int) (n : Int), 1 ≤ n → (∀ x ∈ xs, 1 ≤ x) → n * prodL xs ≤ 65536 → prodTo n xs = (n * prodL xs, 0)
  | [], n, _, _, _ => by simp [prodTo, prodL]
  | s :: r, n, h1, hx, hl => by
    have hs := hx s (by simp)
    have hr : ∀ x ∈ r, 1 ≤ x := fun x h => hx x (by simp [h])
    have hp : 0 < prodL r := prodL_pos fun x h => by have := hr x h; omega
    rw [prodL, ← Int.mul_assoc] at hl
    have hns : 1 ≤ n * s := by have := Int.mul_le_mul h1 hs (by omega) (by omega : (0 : Int) ≤ n); omega
    have hle : n * s ≤ 65536 := by
      have := Int.mul_le_mul_of_nonneg_left (show (1 : Int) ≤ prodL r by omega) (by omega : 0 ≤ n * s)
      omega
    rw [prodTo, if_neg (by omega), prodTo_good r (n * s) hns hr hl, prodL, Int.mul_assoc]

/-- What a cell is cut out of, without the first side, is an array. -/
theorem right_cell {x : Int} {r d : List Int} {k xn P : Nat} (h : right (x :: r) d = true) (hx : x = xn) (hk : k < xn) (hP : prodL r = P) : cell (x :: r) d k = ((r, (d.drop (k * P)).take P), 0) ∧ right r ((d.drop (k * P)).take P) = true ∧ d.length = xn * P := by
  obtain ⟨hsz, g⟩ := right_good h
  have hd : d.length = xn * P := by
    have := g.prod
    rw [prodL, hx, hP] at this
    exact_mod_cast this
  have hkP : k * P + P ≤ xn * P := by have := Nat.mul_le_mul_right P hk; rw [Nat.succ_mul] at this; exact this
  have hdl : (d.length : Int) / x = P := by
    rw [hd, hx, Int.natCast_mul]
    exact Int.mul_ediv_cancel_left _ (by omega)
  have hlen : ((d.drop (k * P)).take P).length = P := by rw [List.length_take, List.length_drop]; omega
  refine ⟨?_, ?_, hd⟩
  · unfold cell
    rw [if_pos h]
    simp only []
    rw [if_neg (by omega), hdl]
    have e1 : ((k : Int) * (P : Int)).toNat = k * P := by rw [← Int.natCast_mul]; rfl
    rw [e1]; rfl
  · unfold right
    have hrl : ¬ 4 < r.length := by have := g.len; simp at this; omega
    have hb : r.any badSide = false := by
      rw [List.any_eq_false]
      intro y hy
      have := g.side y (by simp [hy])
      simp [badSide]; omega
    have e : size r = ((P : Int), 0) := by
      unfold size
      rw [if_neg hrl, if_neg (by rw [hb]; simp)]
      by_cases hz : r.any ((0 : Int) == ·) = true
      · rw [if_pos hz]
        obtain ⟨y, hy, hy0⟩ := List.any_eq_true.1 hz
        have hy0 : (0 : Int) = y := by simpa using hy0
        rw [← hy0] at hy
        rw [← hP, prodL_zero hy]
      · rw [if_neg hz]
        have hpos : ∀ y ∈ r, 1 ≤ y := fun y hy => by
          have := g.side y (by simp [hy])
          have : y ≠ 0 := fun e => hz (List.any_eq_true.2 ⟨y, hy, by simp [e]⟩)
          omega
        have hle : (1 : Int) * prodL r ≤ 65536 := by
          have := g.le
          rw [g.prod, prodL, hx] at this
          have h2 := Int.mul_le_mul_of_nonneg_right (show (1 : Int) ≤ xn by omega) (show 0 ≤ prodL r by omega)
          omega
        rw [prodTo_good r 1 (by omega) hpos hle, Int.one_mul, hP]
    rw [e, hlen]
    simp

/-- Between two rounds of the law's first loop. -/
def Part1 (w2 : World) (vs : List Value) (xss : List (List Int)) (j : Nat) (v : Value) (wr : World) : Prop :=
  RowI w2.heap.size wr v (xss.take j).flatten ∧ KB (fun g => ∃ (i : Nat) (u : Value), i < j ∧ vs[i]? = some u ∧ u.ownBlock = some g) w2 wr

theorem RowI.lit {B : Nat} {W : World} {v : Value} {xs : List Int} (h : RowI B W v xs) (h0 : 0 < xs.length) : ∃ g c, v = .slice (some ⟨g, 0, none⟩) xs.length c ∧ B ≤ g ∧ g < W.heap.size := by
  obtain ⟨_, ⟨rfl, h1⟩ | ⟨g, cap, cur, rfl, hb, hg, _⟩⟩ := h
  · omega
  · exact ⟨g, cap, rfl, hb, (Array.getElem?_eq_some_iff.1 hg).1⟩

/-- a number stored in such a row -/
theorem RowI.stored {B g c n : Nat} {W : World} {xs : List Int} (hn : n = xs.length) (h : RowI B W (.slice (some ⟨g, 0, none⟩) n c) xs) (k : Nat) (x : Int) : RowI B (W.setCell ⟨g, k, none⟩ (.int .i64 x)) (.slice (some ⟨g, 0, none⟩) n c) (xs.set k x) := by
  subst hn
  have := (World.ownsRow.stored (w := W) (show W.ownsRow B 2 1 _ _ _ from h) k (.int .i64 x)).1
  unfold RowI
  rw [List.length_set, List.map_set]
  exact this
theorem flatten_take_succ {xss : List (List Int)} {j : Nat} (hj : j < xss.length) : (xss.take (j + 1)).flatten = (xss.take j).flatten ++ xss[j] := by
  rw [List.take_succ_eq_append_getElem hj, List.flatten_append]; simp
theorem ownsRow_lit2 {B n c : Nat} {W : World} {t : TypeId} {a : Option Addr} {vs : List Value} (h : W.ownsRow B t 1 (.slice a n c) n vs) (h0 : 0 < n) : ∃ g, a = some ⟨g, 0, none⟩ ∧ B ≤ g ∧ g < W.heap.size := by
  obtain ⟨_, ⟨_, h1⟩ | ⟨g, cap, cur, e, hb, hg, _⟩⟩ := h
  · omega
  · cases e
    exact ⟨g, rfl, hb, (Array.getElem?_eq_some_iff.1 hg).1⟩
end Go.Proofs.Ytbhhmfkipfedfaa
