import Derived.Test.YtokghjnkfabgiaaGreatDoorTD4
import Derived.Deep.Slices
import Derived.Test.YtokghjnkfabgiaaGreatDoorTD1
set_option linter.unusedVariables false
set_option linter.unusedSimpArgs false
set_option maxRecDepth 100000
namespace Go.Proofs.YtokghjnkfabgiaaGreatDoor
open Go.RowKit Go.ChangeShapes Go.WideShapes Go.Deep

structure Rep (α : Type) where
 n : Nat
 At : World → List Value → α → Prop
 len : ∀ w cs x, At w cs x → cs.length = n
 keep : ∀ w w' cs x, At w cs x → Below w.heap.size w w' → At w' cs x
 one : ∀ w cs x, At w cs x → ∀ v ∈ cs, v.oneCell' = true

section
variable {α : Type} (R : Rep α)
def Rep.Els (w : World) (a : Option Addr) (xs : List α) : Prop :=
 ∀ i, (h : i < xs.length) → ∃ b off cs, a = some ⟨b, off, none⟩ ∧ R.At w cs xs[i] ∧ ∀ j v, cs[j]? = some v → w.cell? ⟨b, off + i * R.n + j, none⟩ = some v
def Rep.Sl (w : World) (v : Value) (xs : List α) : Prop := ∃ a cap, v = .slice a xs.length cap ∧ xs.length ≤ cap ∧ cap ≤ maxLen ∧ (a = none → cap = 0) ∧ R.Els w a xs
theorem Rep.Els.nil (w : World) (a : Option Addr) : R.Els w a [] := fun i h => absurd h (Nat.not_lt_zero i)
theorem Rep.Els.below {w w' : World} {a : Option Addr} {xs : List α} {B : Nat} (h : R.Els w a xs) (hb : Below B w w') (hB : w.heap.size ≤ B) : R.Els w' a xs := by
 intro i hi
 obtain ⟨b, off, cs, e, hc, hx⟩ := h i hi
 have hb' := hb.mono hB
 exact ⟨b, off, cs, e, R.keep _ _ _ _ hc hb', fun j v hj => (hb'.cell (p := ⟨b, off + i * R.n + j, none⟩) (World.block_lt_of_cell? w _ (hx j v hj))).trans (hx j v hj)⟩
theorem Rep.Sl.below {w w' : World} {v : Value} {xs : List α} {B : Nat} (h : R.Sl w v xs) (hb : Below B w w') (hB : w.heap.size ≤ B) : R.Sl w' v xs := by
 obtain ⟨a, cap, e, h1, h2, h4, h3⟩ := h
 exact ⟨a, cap, e, h1, h2, h4, h3.below R hb hB⟩
theorem Rep.Sl.nil (w : World) : R.Sl w (.slice none 0 0) [] := ⟨none, 0, rfl, Nat.le_refl _, Nat.zero_le _, fun _ => rfl, Rep.Els.nil R _ _⟩
def Rep.slice : Rep (List α) where
 n := 1
 At w cs xs := ∃ v, cs = [v] ∧ R.Sl w v xs
 len := by rintro w cs x ⟨v, rfl, _⟩; rfl
 keep := by rintro w w' cs x ⟨v, rfl, h⟩ hb; exact ⟨v, rfl, h.below R hb (Nat.le_refl _)⟩
 one := by rintro w cs x ⟨v, rfl, a, cap, rfl, _⟩ u hu; cases List.mem_singleton.1 hu; rfl
def Rep.flat (n : Nat) (enc : α → List Value) (wf : α → Prop) (hl : ∀ x, (enc x).length = n) (h1 : ∀ x, ∀ v ∈ enc x, v.oneCell' = true) : Rep α where
 n := n
 At _ cs x := cs = enc x ∧ wf x
 len := by rintro w cs x ⟨rfl, _⟩; exact hl x
 keep := by rintro w w' cs x h _; exact h
 one := by rintro w cs x ⟨rfl, _⟩; exact h1 x
end

def Rep.int (k : IntKind) : Rep Int := Rep.flat 1 (fun x => [.int k x]) (fun x => (Lit.int k x).wf = true) (fun _ => rfl) (by intro x v hv; cases List.mem_singleton.1 hv; rfl)

section
variable {H : Type} {enc : TypeId × Value → H} {α : Type}
end
end Go.Proofs.YtokghjnkfabgiaaGreatDoor

namespace Go.Proofs.YtokghjnkfabgiaaGreatDoor
open Go.RowKit


def Rep.Cs {α : Type} (R : Rep α) (w : World) : List Value → List α → Prop
 | cs, [] => cs = []
 | cs, x :: xs => ∃ ds r, cs = ds ++ r ∧ R.At w ds x ∧ Rep.Cs R w r xs
section
variable {α : Type} {R : Rep α}
theorem Rep.Cs.len {w : World} : ∀ {xs : List α} {cs : List Value}, R.Cs w cs xs → cs.length = xs.length * R.n
 | [], cs, h => by subst h; simp
 | x :: xs, cs, ⟨ds, r, e, h1, h2⟩ => by subst e; rw [List.length_append, R.len _ _ _ h1, Rep.Cs.len h2, List.length_cons, Nat.succ_mul]; omega
theorem Rep.Cs.keep {w w' : World} (hb : Below w.heap.size w w') : ∀ {xs : List α} {cs : List Value}, R.Cs w cs xs → R.Cs w' cs xs
 | [], cs, h => h
 | x :: xs, cs, ⟨ds, r, e, h1, h2⟩ => ⟨ds, r, e, R.keep _ _ _ _ h1 hb, Rep.Cs.keep hb h2⟩
theorem Rep.Cs.one {w : World} : ∀ {xs : List α} {cs : List Value}, R.Cs w cs xs → ∀ v ∈ cs, v.oneCell' = true
 | [], cs, h, v, hv => by subst h; cases hv
 | x :: xs, cs, ⟨ds, r, e, h1, h2⟩, v, hv => by
  subst e
  rcases List.mem_append.1 hv with h | h
  ·exact R.one _ _ _ h1 v h
  ·exact Rep.Cs.one h2 v h
theorem Rep.Cs.append {w : World} {ys : List α} {ds : List Value} (hy : R.Cs w ds ys) : ∀ {xs : List α} {cs : List Value}, R.Cs w cs xs → R.Cs w (cs ++ ds) (xs ++ ys)
 | [], cs, h => by subst h; exact hy
 | x :: xs, cs, ⟨es, r, e, h1, h2⟩ => ⟨es, r ++ ds, by rw [e, List.append_assoc], h1, Rep.Cs.append hy h2⟩
theorem Rep.Cs.single {w : World} {x : α} {ds : List Value} (h : R.At w ds x) : R.Cs w ds [x] := ⟨ds, [], (List.append_nil _).symm, h, rfl⟩
theorem Rep.Cs.at {w : World} : ∀ {xs : List α} {cs : List Value}, R.Cs w cs xs → ∀ i, (hi : i < xs.length) → ∃ ds, R.At w ds xs[i] ∧ ∀ j v, ds[j]? = some v → cs[i * R.n + j]? = some v
 | x :: xs, cs, ⟨ds, r, e, h1, h2⟩, 0, hi => ⟨ds, h1, fun j v hj => by
  subst e
  rw [Nat.zero_mul, Nat.zero_add, List.getElem?_append_left (List.getElem?_eq_some_iff.1 hj).1]
  exact hj⟩
 | x :: xs, cs, ⟨ds, r, e, h1, h2⟩, i + 1, hi => by
  subst e
  obtain ⟨es, h3, h4⟩ := Rep.Cs.at h2 i (by simpa using hi)
  refine ⟨es, h3, fun j v hj => ?_⟩
  have hl := R.len _ _ _ h1
  rw [List.getElem?_append_right (by rw [hl, Nat.succ_mul]; omega), hl, show (i + 1) * R.n + j - R.n = i * R.n + j from by rw [Nat.succ_mul]; omega]
  exact h4 j v hj
theorem Rep.Cs.of {w : World} (hn : 0 < R.n) : ∀ (xs : List α) (f : Nat → Option Value) (i0 : Nat), (∀ i, (h : i < xs.length) → ∃ ds, R.At w ds xs[i] ∧ ∀ j v, ds[j]? = some v → f ((i0 + i) * R.n + j) = some v) → ∃ cs, R.Cs w cs xs ∧ ∀ j v, cs[j]? = some v → f (i0 * R.n + j) = some v
 | [], f, i0, h => ⟨[], rfl, fun j v hj => by cases hj⟩
 | x :: xs, f, i0, h => by
  obtain ⟨ds, h1, h2⟩ := h 0 (Nat.zero_lt_succ _)
  obtain ⟨r, h3, h4⟩ := Rep.Cs.of hn xs f (i0 + 1) fun i hi => by
   obtain ⟨es, h5, h6⟩ := h (i + 1) (Nat.succ_lt_succ hi)
   exact ⟨es, h5, fun j v hj => by rw [show i0 + 1 + i = i0 + (i + 1) from by omega]; exact h6 j v hj⟩
  have hl := R.len _ _ _ h1
  refine ⟨ds ++ r, ⟨ds, r, rfl, h1, h3⟩, fun j v hj => ?_⟩
  by_cases hjl : j < ds.length
  ·rw [List.getElem?_append_left hjl] at hj
   exact h2 j v hj
  ·rw [List.getElem?_append_right (by omega), hl] at hj
   have := h4 _ _ hj
   rw [Nat.succ_mul] at this
   rw [show i0 * R.n + j = i0 * R.n + R.n + (j - R.n) from by omega]
   exact this
theorem Rep.Els.cs {w : World} {a : Option Addr} {n c : Nat} {xs : List α} (hn : 0 < R.n) (h : R.Els w a xs) (hnl : n = xs.length) (ha : a = none → n = 0 ∧ c = 0) : ∃ cs, R.Cs w cs xs ∧ Src w (.slice a n c) n cs := by
 subst hnl
 cases a with
 | none =>
  obtain ⟨h0, hc⟩ := ha rfl
  have : xs = [] := List.eq_nil_of_length_eq_zero h0
  subst this hc
  exact ⟨[], rfl, .inl ⟨rfl, rfl, rfl⟩⟩
 | some ad =>
  obtain ⟨cs, h1, h2⟩ := Rep.Cs.of (w := w) hn xs (fun j => w.cell? (ad.add j)) 0 fun i hi => by
   obtain ⟨b, off, ds, e, h3, h4⟩ := h i hi
   cases e
   refine ⟨ds, h3, fun j v hj => ?_⟩
   have e : ∀ k, (⟨b, off, none⟩ : Addr).add k = ⟨b, off + k, none⟩ := fun k => by unfold Addr.add; split <;> simp_all
   rw [Nat.zero_add, e, ← Nat.add_assoc]
   exact h4 j v hj
  exact ⟨cs, h1, .inr ⟨ad, c, rfl, fun j z hz => by have := h2 j z hz; rwa [Nat.zero_mul, Nat.zero_add] at this⟩⟩
theorem Rep.Cs.els {B : Nat} {W w : World} {t : TypeId} {n : Nat} {v : Value} {cs : List Value} {xs : List α} (ho : W.ownsRow B t R.n v n cs) (h : R.Cs W cs xs) (hn : n = xs.length) : ∃ a c, v = .slice a n c ∧ R.Els W a xs := by
 obtain ⟨h1, ⟨rfl, rfl⟩ | ⟨g, cap, cur, rfl, hB, hg, h3⟩⟩ := id ho
 ·have : xs = [] := List.eq_nil_of_length_eq_zero hn.symm
  subst this
  exact ⟨none, 0, rfl, Rep.Els.nil _ _ _⟩
 ·refine ⟨some ⟨g, 0, none⟩, cap, rfl, fun i hi => ?_⟩
  obtain ⟨ds, h4, h5⟩ := h.at i hi
  have hc := World.ownsRow.cells (g := g) (w := W) ho rfl
  have e : ∀ k, (⟨g, 0, none⟩ : Addr).add k = ⟨g, k, none⟩ := fun k => by unfold Addr.add; split <;> simp_all
  exact ⟨g, 0, ds, rfl, h4, fun j z hj => by rw [Nat.zero_add, ← e]; exact hc _ _ (h5 j z hj)⟩
end
end Go.Proofs.YtokghjnkfabgiaaGreatDoor
