import Derived.Test.YtegjcghcknpjeaaP7
import Derived.Test.YtegjcghcknpjeaaOpen0
import Derived.Test.YtegjcghcknpjeaaElem
namespace Go.Proofs.Ytegjcghcknpjeaa
open Go.RowKit
set_option linter.unusedVariables false

/-! marks may be renamed -/
def renP (f : Int → Int) (p : Piece) : Piece := ⟨f p.mark, p.ins, f p.to⟩
structure Names (f : Int → Int) : Prop where
  inj : ∀ x y, f x = f y → x = y
  zero : f 0 = 0
  sign : ∀ x, (0 ≤ f x) = (0 ≤ x)
theorem Names.zero_iff {f : Int → Int} (h : Names f) (x : Int) : f x = 0 ↔ x = 0 := ⟨fun e => h.inj x 0 (by rw [e, h.zero]), fun e => by rw [e, h.zero]⟩
theorem marksTo_ren {f : Int → Int} (h : Names f) (l : List Piece) : ∀ (k : Nat), k ≤ l.length → ∀ m, marksTo (l.map (renP f)) k (f m) = marksTo l k m
  | 0, _, _ => rfl
  | k + 1, hk, m => by
    rw [marksTo_succ (l := l.map (renP f)) (by rw [List.length_map]; omega), marksTo_succ (l := l) (by omega), List.getElem_map]
    have ih := marksTo_ren h l k (by omega) m
    have e1 : (f m = f l[k].mark) = (m = l[k].mark) := propext ⟨fun e => h.inj _ _ e, fun e => by rw [e]⟩
    have e2 : (f m = 0) = (m = 0) := propext (h.zero_iff m)
    unfold delM putM
    simp only [renP, e1, e2, ih]
theorem zero_ren {f : Int → Int} (h : Names f) (x : Int) : (f x == 0) = (x == 0) := by
  rw [Bool.eq_iff_iff]
  simp [h.zero_iff]
theorem sign_ren {f : Int → Int} (h : Names f) (x : Int) : decide (0 ≤ f x) = decide (0 ≤ x) := by simp [h.sign]
theorem right_ren {f : Int → Int} (h : Names f) (p : Piece) : (renP f p).right = p.right := by
  unfold Piece.right renP
  dsimp only
  rw [zero_ren h, sign_ren h, sign_ren h]
theorem fault_ren {f : Int → Int} (h : Names f) (l : List Piece) : ∀ (r : List Piece) (k : Nat), k + r.length = l.length → fault (l.map (renP f)) k (r.map (renP f)) = fault l k r
  | [], _, _ => rfl
  | p :: r, k, hk => by
    simp only [List.length_cons] at hk
    rw [List.map_cons, fault, fault, right_ren h]
    rw [show (renP f p).mark = f p.mark from rfl, marksTo_ren h l k (by omega), fault_ren h l r (k + 1) (by omega)]
theorem lost_ren {f : Int → Int} (h : Names f) {M M' : Int → Option Int} (hm : ∀ m, M' (f m) = M m) : ∀ (r : List Piece) (k : Nat), lost M' k (r.map (renP f)) = lost M k r
  | [], _ => rfl
  | p :: r, k => by
    rw [List.map_cons, lost, lost, lost_ren h hm r (k + 1)]
    have e1 : ((renP f p).to ≠ 0) = (p.to ≠ 0) := propext (not_congr (h.zero_iff p.to))
    have e2 : M' (renP f p).to = M p.to := hm p.to
    simp only [e1, e2]
theorem placed_ren {f : Int → Int} (h : Names f) {M M' : Int → Option Int} (hm : ∀ m, M' (f m) = M m) (p : Piece) : placed M' (renP f p) = placed M p := by
  unfold placed
  have e1 : ((renP f p).to = 0) = (p.to = 0) := propext (h.zero_iff p.to)
  have e2 : M' (renP f p).to = M p.to := hm p.to
  simp only [e1, e2]
  rfl
theorem linkS_ren {f : Int → Int} (h : Names f) (l : List Piece) : linkS (l.map (renP f)) = linkS l := by
  have hm := marksTo_ren h l l.length (Nat.le_refl _)
  unfold linkS
  rw [List.length_map, fault_ren h l l 0 (by simp), lost_ren h hm l 0, List.map_map]
  rw [show (placed (marksTo (l.map (renP f)) l.length)) ∘ renP f = placed (marksTo l l.length) from funext fun p => placed_ren h hm p]
/-- the law's names -/
def nameBy (b : Int) (m : Int) : Int := if 0 < m then 5 * m + b else m
theorem nameBy_names {b : Int} (hb : 0 ≤ b) : Names (nameBy b) where
  inj x y h := by unfold nameBy at h; split at h <;> split at h <;> omega
  zero := by unfold nameBy; simp
  sign x := propext (by unfold nameBy; split <;> constructor <;> intro _ <;> omega)
theorem unlinkS_marks (code : List Ins) : ∀ p ∈ (unlinkS code).1, p.mark ≤ 32768 ∧ p.to ≤ 32768 := by
  unfold unlinkS
  split
  · simp
  split
  · simp
  intro p hp
  simp only [List.mem_map, List.mem_range] at hp
  obtain ⟨k, hk, rfl⟩ := hp
  have hbig : code.length ≤ 32768 := by rename_i h1 _; omega
  have hmk := markU_nonneg code.length code k
  unfold pieceU
  split
  · rename_i t ht
    have hmt := markU_nonneg code.length code t
    have hlt := leadsTo_lt ht
    exact ⟨by dsimp only; omega, by dsimp only; omega⟩
  · exact ⟨by dsimp only; omega, by dsimp only; omega⟩
/-- k pieces are renamed -/
def mixK (f : Int → Int) (l : List Piece) (k : Nat) : List Piece := (l.take k).map (renP f) ++ l.drop k
theorem mixK_zero (f : Int → Int) (l : List Piece) : mixK f l 0 = l := by simp [mixK]
theorem mixK_all (f : Int → Int) (l : List Piece) : mixK f l l.length = l.map (renP f) := by simp [mixK]
theorem mixK_len (f : Int → Int) (l : List Piece) {k : Nat} (h : k ≤ l.length) : (mixK f l k).length = l.length := by simp [mixK]; omega
theorem mixK_at (f : Int → Int) (l : List Piece) {k : Nat} (h : k < l.length) : (mixK f l k)[k]'(by rw [mixK_len f l (Nat.le_of_lt h)]; exact h) = l[k] := by
  unfold mixK
  rw [List.getElem_append_right (by simp; omega)]
  simp [Nat.min_eq_left (Nat.le_of_lt h)]
theorem mixK_succ (f : Int → Int) (l : List Piece) {k : Nat} (h : k < l.length) : mixK f l (k + 1) = (mixK f l k).set k (renP f l[k]) := by
  unfold mixK
  rw [List.take_succ_eq_append_getElem h, List.map_append, List.map_cons, List.map_nil, List.append_assoc, List.set_append_right _ _ (by simp; omega)]
  congr 1
  have : k - ((l.take k).map (renP f)).length = 0 := by simp [Nat.min_eq_left (Nat.le_of_lt h)]
  rw [this, List.drop_eq_getElem_cons h, List.set_cons_zero]
  rfl
theorem setRP {B : Nat} {w : World} {g n cap : Nat} {l : List Piece} (h : RowP B w (.slice (some ⟨g, 0, none⟩) n cap) l) (hn : n = l.length) {i j : Nat} (hi : i < l.length) (hj : j < 7) (u : Value) (p' : Piece)
    (he : Piece.enc p' = (Piece.enc l[i]).set j u) : RowP B (w.setCell ⟨g, i * 7 + j, none⟩ u) (.slice (some ⟨g, 0, none⟩) n cap) (l.set i p') := by
  subst hn
  have h1 := (World.ownsRow.stored h (i * 7 + j) u).1
  rw [flatMap_field len_enc hj l i hi p' he] at h1
  unfold RowP
  rw [List.length_set]
  exact h1
theorem cellRP {B : Nat} {w : World} {g n cap : Nat} {l : List Piece} (h : RowP B w (.slice (some ⟨g, 0, none⟩) n cap) l) (hn : n = l.length) {i j : Nat} (hi : i < l.length) (hj : j < 7) :
    w.cell? ⟨g, i * 7 + j, none⟩ = (Piece.enc l[i])[j]? := by
  subst hn
  have := World.ownsRow.cellAt h (i * 7 + j) (Nat.lt_of_lt_of_le (by rw [Nat.succ_mul]; omega : i * 7 + j < (i + 1) * 7) (Nat.mul_le_mul_right 7 hi))
  rw [this, flatMap_get len_enc l i hi j hj]
theorem frozenRP {B : Nat} {w : World} {g n cap : Nat} {l : List Piece} (h : RowP B w (.slice (some ⟨g, 0, none⟩) n cap) l) (hn : n = l.length) (j : Nat) : w.frozen? ⟨g, j, none⟩ = false := by subst hn; exact World.ownsRow.frozenAt h j
section
variable {B : Nat} {w : World} {g n cap : Nat} {l : List Piece} (h : RowP B w (.slice (some ⟨g, 0, none⟩) n cap) l) (hn : n = l.length) {i : Nat} (hi : i < l.length) {x : Piece} (hx : l[i] = x)
include h hn hi hx
theorem rowMark (a : Int) : RowP B (w.setCell ⟨g, i * 7, none⟩ (.int .i64 a)) (.slice (some ⟨g, 0, none⟩) n cap) (l.set i ⟨a, x.ins, x.to⟩) := setRP h hn hi (j := 0) (by omega) _ _ (by rw [hx]; rfl)
theorem rowTo (b : Int) : RowP B (w.setCell ⟨g, i * 7 + 6, none⟩ (.int .i64 b)) (.slice (some ⟨g, 0, none⟩) n cap) (l.set i ⟨x.mark, x.ins, b⟩) := setRP h hn hi (j := 6) (by omega) _ _ (by rw [hx]; rfl)
theorem rowBoth (a b : Int) : RowP B ((w.setCell ⟨g, i * 7, none⟩ (.int .i64 a)).setCell ⟨g, i * 7 + 6, none⟩ (.int .i64 b)) (.slice (some ⟨g, 0, none⟩) n cap) (l.set i ⟨a, x.ins, b⟩) := by
  have h1 := rowMark h hn hi hx a
  have h2 := setRP h1 (by simpa using hn) (i := i) (j := 6) (by simpa using hi) (by omega) (.int .i64 b) ⟨a, x.ins, b⟩ (by simp; rfl)
  rwa [List.set_set] at h2
end
end Go.Proofs.Ytegjcghcknpjeaa
