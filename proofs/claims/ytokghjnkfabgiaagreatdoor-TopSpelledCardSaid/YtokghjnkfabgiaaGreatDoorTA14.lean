import Derived.Test.YtokghjnkfabgiaaGreatDoorTA11
import Derived.Test.YtokghjnkfabgiaaGreatDoorTA13
import Derived.Test.YtokghjnkfabgiaaGreatDoorTA12
namespace Go.Proofs.YtokghjnkfabgiaaGreatDoor
set_option maxRecDepth 100000
open Go.RowKit
set_option linter.unusedVariables false
set_option linter.unusedSimpArgs false

/-! Rows of the call's own, kept where blocks of their type are. -/
def KeepTy (t : TypeId) (w w' : World) : Prop := ∀ (g : Nat) (cur : Array Value), w.heap[g]? = some (Obj.cells cur t (0, 0)) → w'.heap[g]? = some (Obj.cells cur t (0, 0))
theorem KeepTy.refl (t : TypeId) (w : World) : KeepTy t w w := fun _ _ h => h
theorem KeepTy.trans {t : TypeId} {a b c : World} (h : KeepTy t a b) (k : KeepTy t b c) : KeepTy t a c := fun g cur hg => k g cur (h g cur hg)
theorem KeepTy.below {t : TypeId} {w w' : World} (h : Below w.heap.size w w') : KeepTy t w w' := fun g cur hg => block_below hg h
/-- the block g is no row of the type t -/
def NotTy (t : TypeId) (w : World) (g : Nat) : Prop := ∀ (cur : Array Value), w.heap[g]? ≠ some (Obj.cells cur t (0, 0))
theorem NotTy.of {t u : TypeId} {w : World} {g : Nat} {cs : Array Value} {fr : Nat × Nat} (h : w.heap[g]? = some (.cells cs u fr)) (hne : u ≠ t) : NotTy t w g := fun cur e => by rw [h] at e; cases e; exact hne rfl
theorem KeepTy.kb {t : TypeId} {S : Nat → Prop} {w w' : World} (h : KB S w w') (hS : ∀ g, S g → NotTy t w g) : KeepTy t w w' := fun g cur hg =>
  (h.block g (Array.getElem?_eq_some_iff.1 hg).1 (fun hs => hS g hs cur hg)).trans hg
theorem KeepTy.grown {t : TypeId} {w w' : World} {row : Option Nat} (h : w.grownBy w' row) (hr : ∀ g, row = some g → NotTy t w g) : KeepTy t w w' := fun g cur hg =>
  block_grown hg h (fun e => hr g e cur hg)
theorem KeepTy.setCell {t : TypeId} {w : World} {p : Addr} (hp : NotTy t w p.block) (u : Value) : KeepTy t w (w.setCell p u) := fun g cur hg =>
  block_other hg (fun e => hp cur (e ▸ hg)) u
theorem own_keep {w w' : World} {B : Nat} {t : TypeId} {size n : Nat} {v : Value} {xs : List Value} (h : w.ownsRow B t size v n xs) (hk : KeepTy t w w') : w'.ownsRow B t size v n xs := by
  obtain ⟨h1, h2 | ⟨g, cap, cur, rfl, hb', hg, h3⟩⟩ := h
  · exact ⟨h1, .inl h2⟩
  · exact ⟨h1, .inr ⟨g, cap, cur, rfl, hb', hk g cur hg, h3⟩⟩
/-- a row's block is of its type -/
theorem own_typed {w : World} {B : Nat} {t : TypeId} {size n : Nat} {v : Value} {xs : List Value} (h : w.ownsRow B t size v n xs) {g : Nat} (e : v.ownBlock = some g) : ∃ cur, w.heap[g]? = some (.cells cur t (0, 0)) := by
  obtain ⟨h1, ⟨rfl, _⟩ | ⟨g', cap, cur, rfl, hb', hg, h3⟩⟩ := h
  · cases e
  · cases e; exact ⟨cur, hg⟩
theorem own_mono {w : World} {B B' : Nat} {t : TypeId} {size n : Nat} {v : Value} {xs : List Value} (h : w.ownsRow B t size v n xs) (hB : B' ≤ B) : w.ownsRow B' t size v n xs := by
  obtain ⟨h1, h2 | ⟨g, cap, cur, e, hb, h3⟩⟩ := h
  · exact ⟨h1, .inl h2⟩
  · exact ⟨h1, .inr ⟨g, cap, cur, e, Nat.le_trans hB hb, h3⟩⟩
theorem own_cell1 {w : World} {B : Nat} {t : TypeId} {size n : Nat} {v : Value} {xs : List Value} (h : w.ownsRow B t size v n xs) : v.oneCell' = true := by
  obtain ⟨h1, ⟨rfl, _⟩ | ⟨g, cap, cur, rfl, _⟩⟩ := h <;> rfl
end Go.Proofs.YtokghjnkfabgiaaGreatDoor

namespace Go.Proofs.YtokghjnkfabgiaaGreatDoor
set_option maxRecDepth 100000
open Go.RowKit
set_option linter.unusedVariables false
set_option linter.unusedSimpArgs false

/-! Cells that read as things, one behind the other. -/

theorem Src.below {w w' : World} {u : Value} {m : Nat} {news : List Value} (h : Src w u m news) (hb : Below w.heap.size w w') : Src w' u m news := by
  rcases h with h | ⟨ad, c, e, h⟩
  · exact .inl h
  · exact .inr ⟨ad, c, e, fun j z hz => keepCell hb (h j z hz)⟩
/-- cells that read as xs, one behind the other -/
def Rep.Cs {α : Type} (R : Rep α) (w : World) : List Value → List α → Prop
  | cs, [] => cs = []
  | cs, x :: xs => ∃ ds r, cs = ds ++ r ∧ R.At w ds x ∧ Rep.Cs R w r xs
section
variable {α : Type} {R : Rep α}
theorem Rep.Cs.len {w : World} : ∀ {xs : List α} {cs : List Value}, R.Cs w cs xs → cs.length = xs.length * R.n
  | [], cs, h => by subst h; simp
  | x :: xs, cs, ⟨ds, r, e, h1, h2⟩ => by subst e; rw [List.length_append, R.len _ _ _ h1, Rep.Cs.len h2, List.length_cons, Nat.succ_mul]; omega
theorem Rep.Cs.keep {w w' : World} (hb : Below w.heap.size w w') : ∀ {xs : List α} {cs : List Value}, R.Cs w cs xs → R.Cs w' cs xs
  | [], cs, h => h
  | x :: xs, cs, ⟨ds, r, e, h1, h2⟩ => ⟨ds, r, e, R.keep _ _ _ _ h1 hb, Rep.Cs.keep hb h2⟩
theorem Rep.Cs.one {w : World} : ∀ {xs : List α} {cs : List Value}, R.Cs w cs xs → ∀ v ∈ cs, v.oneCell' = true
  | [], cs, h, v, hv => by subst h; cases hv
  | x :: xs, cs, ⟨ds, r, e, h1, h2⟩, v, hv => by
    subst e
    rcases List.mem_append.1 hv with h | h
    · exact R.one _ _ _ h1 v h
    · exact Rep.Cs.one h2 v h
theorem Rep.Cs.append {w : World} {ys : List α} {ds : List Value} (hy : R.Cs w ds ys) : ∀ {xs : List α} {cs : List Value}, R.Cs w cs xs → R.Cs w (cs ++ ds) (xs ++ ys)
  | [], cs, h => by subst h; exact hy
  | x :: xs, cs, ⟨es, r, e, h1, h2⟩ => ⟨es, r ++ ds, by rw [e, List.append_assoc], h1, Rep.Cs.append hy h2⟩
theorem Rep.Cs.single {w : World} {x : α} {ds : List Value} (h : R.At w ds x) : R.Cs w ds [x] := ⟨ds, [], (List.append_nil _).symm, h, rfl⟩
theorem Rep.Cs.at {w : World} : ∀ {xs : List α} {cs : List Value}, R.Cs w cs xs → ∀ i, (hi : i < xs.length) → ∃ ds, R.At w ds xs[i] ∧ ∀ j v, ds[j]? = some v → cs[i * R.n + j]? = some v
  | x :: xs, cs, ⟨ds, r, e, h1, h2⟩, 0, hi => ⟨ds, h1, fun j v hj => by
    subst e
    rw [Nat.zero_mul, Nat.zero_add, List.getElem?_append_left (List.getElem?_eq_some_iff.1 hj).1]
    exact hj⟩
  | x :: xs, cs, ⟨ds, r, e, h1, h2⟩, i + 1, hi => by
    subst e
    obtain ⟨es, h3, h4⟩ := Rep.Cs.at h2 i (by simpa using hi)
    refine ⟨es, h3, fun j v hj => ?_⟩
    have hl := R.len _ _ _ h1
    rw [List.getElem?_append_right (by rw [hl, Nat.succ_mul]; omega), hl, show (i + 1) * R.n + j - R.n = i * R.n + j from by rw [Nat.succ_mul]; omega]
    exact h4 j v hj
theorem Rep.Cs.of {w : World} (hn : 0 < R.n) : ∀ (xs : List α) (f : Nat → Option Value) (i0 : Nat), (∀ i, (h : i < xs.length) → ∃ ds, R.At w ds xs[i] ∧ ∀ j v, ds[j]? = some v → f ((i0 + i) * R.n + j) = some v) → ∃ cs, R.Cs w cs xs ∧ ∀ j v, cs[j]? = some v → f (i0 * R.n + j) = some v
  | [], f, i0, h => ⟨[], rfl, fun j v hj => by cases hj⟩
  | x :: xs, f, i0, h => by
    obtain ⟨ds, h1, h2⟩ := h 0 (Nat.zero_lt_succ _)
    obtain ⟨r, h3, h4⟩ := Rep.Cs.of hn xs f (i0 + 1) fun i hi => by
      obtain ⟨es, h5, h6⟩ := h (i + 1) (Nat.succ_lt_succ hi)
      exact ⟨es, h5, fun j v hj => by rw [show i0 + 1 + i = i0 + (i + 1) from by omega]; exact h6 j v hj⟩
    have hl := R.len _ _ _ h1
    refine ⟨ds ++ r, ⟨ds, r, rfl, h1, h3⟩, fun j v hj => ?_⟩
    by_cases hjl : j < ds.length
    · rw [List.getElem?_append_left hjl] at hj
      exact h2 j v hj
    · rw [List.getElem?_append_right (by omega), hl] at hj
      have := h4 _ _ hj
      rw [Nat.succ_mul] at this
      rw [show i0 * R.n + j = i0 * R.n + R.n + (j - R.n) from by omega]
      exact this
theorem Rep.Els.cs {w : World} {a : Option Addr} {n c : Nat} {xs : List α} (hn : 0 < R.n) (h : R.Els w a xs) (hnl : n = xs.length) (ha : a = none → n = 0 ∧ c = 0) : ∃ cs, R.Cs w cs xs ∧ Src w (.slice a n c) n cs := by
  subst hnl
  cases a with
  | none =>
    obtain ⟨h0, hc⟩ := ha rfl
    have : xs = [] := List.eq_nil_of_length_eq_zero h0
    subst this hc
    exact ⟨[], rfl, .inl ⟨rfl, rfl, rfl⟩⟩
  | some ad =>
    obtain ⟨cs, h1, h2⟩ := Rep.Cs.of (w := w) hn xs (fun j => w.cell? (ad.add j)) 0 fun i hi => by
      obtain ⟨b, off, ds, e, h3, h4⟩ := h i hi
      cases e
      refine ⟨ds, h3, fun j v hj => ?_⟩
      have e : ∀ k, (⟨b, off, none⟩ : Addr).add k = ⟨b, off + k, none⟩ := fun k => by unfold Addr.add; split <;> simp_all
      rw [Nat.zero_add, e, ← Nat.add_assoc]
      exact h4 j v hj
    exact ⟨cs, h1, .inr ⟨ad, c, rfl, fun j z hz => by have := h2 j z hz; rwa [Nat.zero_mul, Nat.zero_add] at this⟩⟩
/-- a row of the call's own whose cells read as xs -/
theorem Rep.Cs.els {B : Nat} {W w : World} {t : TypeId} {n : Nat} {v : Value} {cs : List Value} {xs : List α} (ho : W.ownsRow B t R.n v n cs) (h : R.Cs W cs xs) (hn : n = xs.length) : ∃ a c, v = .slice a n c ∧ R.Els W a xs := by
  obtain ⟨h1, ⟨rfl, rfl⟩ | ⟨g, cap, cur, rfl, hB, hg, h3⟩⟩ := id ho
  · have : xs = [] := List.eq_nil_of_length_eq_zero hn.symm
    subst this
    exact ⟨none, 0, rfl, Rep.Els.nil _ _ _⟩
  · refine ⟨some ⟨g, 0, none⟩, cap, rfl, fun i hi => ?_⟩
    obtain ⟨ds, h4, h5⟩ := h.at i hi
    have hc := World.ownsRow.cells (g := g) (w := W) ho rfl
    have e : ∀ k, (⟨g, 0, none⟩ : Addr).add k = ⟨g, k, none⟩ := fun k => by unfold Addr.add; split <;> simp_all
    exact ⟨g, 0, ds, rfl, h4, fun j z hj => by rw [Nat.zero_add, ← e]; exact hc _ _ (h5 j z hj)⟩
end
end Go.Proofs.YtokghjnkfabgiaaGreatDoor
