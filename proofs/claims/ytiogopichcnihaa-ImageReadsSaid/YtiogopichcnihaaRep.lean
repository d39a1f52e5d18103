import Derived.Test.YtiogopichcnihaaKeep
import Derived.Deep.Slices
namespace Go.Proofs.Ytiogopichcnihaa
set_option maxRecDepth 100000
open Go.RowKit Go.ChangeShapes Go.WideShapes Go.Deep
set_option linter.unusedVariables false
set_option linter.unusedSimpArgs false

/-- How cells read as things of a type. -/
structure Rep (α : Type) where
  n : Nat
  At : World → List Value → α → Prop
  len : ∀ w cs x, At w cs x → cs.length = n
  keep : ∀ w w' cs x, At w cs x → Below w.heap.size w w' → At w' cs x
  one : ∀ w cs x, At w cs x → ∀ v ∈ cs, v.oneCell' = true

section
variable {α : Type} (R : Rep α)
/-- From address a on lie cells that read as xs. -/
def Rep.Els (w : World) (a : Option Addr) (xs : List α) : Prop :=
  ∀ i, (h : i < xs.length) → ∃ b off cs, a = some ⟨b, off, none⟩ ∧ R.At w cs xs[i] ∧ ∀ j v, cs[j]? = some v → w.cell? ⟨b, off + i * R.n + j, none⟩ = some v
/-- A slice that reads as xs. -/
def Rep.Sl (w : World) (v : Value) (xs : List α) : Prop := ∃ a cap, v = .slice a xs.length cap ∧ xs.length ≤ cap ∧ cap ≤ maxLen ∧ (a = none → cap = 0) ∧ R.Els w a xs
theorem Rep.Els.nil (w : World) (a : Option Addr) : R.Els w a [] := fun i h => absurd h (Nat.not_lt_zero i)
theorem Rep.Els.below {w w' : World} {a : Option Addr} {xs : List α} {B : Nat} (h : R.Els w a xs) (hb : Below B w w') (hB : w.heap.size ≤ B) : R.Els w' a xs := by
  intro i hi
  obtain ⟨b, off, cs, e, hc, hx⟩ := h i hi
  have hb' := hb.mono hB
  exact ⟨b, off, cs, e, R.keep _ _ _ _ hc hb', fun j v hj => (hb'.cell (p := ⟨b, off + i * R.n + j, none⟩) (World.block_lt_of_cell? w _ (hx j v hj))).trans (hx j v hj)⟩
theorem Rep.Sl.below {w w' : World} {v : Value} {xs : List α} {B : Nat} (h : R.Sl w v xs) (hb : Below B w w') (hB : w.heap.size ≤ B) : R.Sl w' v xs := by
  obtain ⟨a, cap, e, h1, h2, h4, h3⟩ := h
  exact ⟨a, cap, e, h1, h2, h4, h3.below R hb hB⟩
theorem Rep.Sl.nil (w : World) : R.Sl w (.slice none 0 0) [] := ⟨none, 0, rfl, Nat.le_refl _, Nat.zero_le _, fun _ => rfl, Rep.Els.nil R _ _⟩
/-- A slice, as one cell. -/
def Rep.slice : Rep (List α) where
  n := 1
  At w cs xs := ∃ v, cs = [v] ∧ R.Sl w v xs
  len := by rintro w cs x ⟨v, rfl, _⟩; rfl
  keep := by rintro w w' cs x ⟨v, rfl, h⟩ hb; exact ⟨v, rfl, h.below R hb (Nat.le_refl _)⟩
  one := by rintro w cs x ⟨v, rfl, a, cap, rfl, _⟩ u hu; cases List.mem_singleton.1 hu; rfl
/-- Things that are their cells, whatever the memory. -/
def Rep.flat (n : Nat) (enc : α → List Value) (wf : α → Prop) (hl : ∀ x, (enc x).length = n) (h1 : ∀ x, ∀ v ∈ enc x, v.oneCell' = true) : Rep α where
  n := n
  At _ cs x := cs = enc x ∧ wf x
  len := by rintro w cs x ⟨rfl, _⟩; exact hl x
  keep := by rintro w w' cs x h _; exact h
  one := by rintro w cs x ⟨rfl, _⟩; exact h1 x
end

/-- Numbers. -/
def Rep.int (k : IntKind) : Rep Int := Rep.flat 1 (fun x => [.int k x]) (fun x => (Lit.int k x).wf = true) (fun _ => rfl) (by intro x v hv; cases List.mem_singleton.1 hv; rfl)

section
variable {H : Type} {enc : TypeId × Value → H} {α : Type}
/-- Whatever reads as data of type t is a thing of R. -/
def Opens (t : TypeId) (R : Rep α) : Prop := Try.prog.cellsOf t = R.n ∧ ∀ {H : Type} {enc : TypeId × Value → H} {w : World} {base : Nat} {spare : Nat → Bool} {held : Bool} {m : Nat} {cs : List Value} {y : DataW H × List MemPlace},
  DataW.trod enc Try.prog w base spare held m t cs = some y → ∃ x, R.At w cs x
theorem opens_int {t : TypeId} {k : IntKind} (ht : Try.prog.underlying t = some (.int k)) (hc : Try.prog.cellsOf t = 1) : Opens t (Rep.int k) := ⟨hc, fun h => by
  obtain ⟨n, rfl, _, hw⟩ := DataW.trod_int ht h
  exact ⟨n, rfl, hw⟩⟩
theorem list_of {α : Type} {n : Nat} {p : Nat → α → Prop} (h : ∀ i, i < n → ∃ x, p i x) : ∃ l : List α, l.length = n ∧ ∀ i, (hi : i < l.length) → p i l[i] := by
  induction n with
  | zero => exact ⟨[], rfl, fun i hi => absurd hi (Nat.not_lt_zero i)⟩
  | succ n ih =>
    obtain ⟨l, hl, hp⟩ := ih (fun i hi => h i (Nat.lt_succ_of_lt hi))
    obtain ⟨x, hx⟩ := h n (Nat.lt_succ_self n)
    refine ⟨l ++ [x], by simp [hl], fun i hi => ?_⟩
    by_cases hin : i < l.length
    · rw [List.getElem_append_left hin]; exact hp i hin
    · have : i = l.length := by simp at hi; omega
      subst this
      rw [List.getElem_append_right (Nat.le_refl _)]
      simp only [Nat.sub_self, List.getElem_cons_zero]
      rw [hl]; exact hx
theorem opens_slice {t e : TypeId} {R : Rep α} (ht : Try.prog.underlying t = some (.slice e)) (hc : Try.prog.cellsOf t = 1) (hpos : 0 < Try.prog.cellsOf e) (he : Opens e R) : Opens t R.slice := ⟨hc, fun {H enc w base spare held m cs y} h => by
  rcases open_slice ht h with ⟨rfl, _⟩ | ⟨a, len, cap, m', n, D, Pl, rfl, hb, hl, hm, hmm, _, hx⟩
  · exact ⟨[], _, rfl, Rep.Sl.nil R _⟩
  · have hlm : len ≤ m' := by rw [hmm]; split <;> omega
    obtain ⟨xs, hxl, hxs⟩ := list_of (n := len) (p := fun i x => ∃ cs', w.cells? base (a.add (i * R.n)) R.n = some cs' ∧ R.At w cs' x) (fun i hi => by
      obtain ⟨cs', h1, h2⟩ := hx i (by omega)
      rw [he.1] at h1
      obtain ⟨x, h3⟩ := he.2 h2
      exact ⟨x, cs', h1, h3⟩)
    refine ⟨xs, _, rfl, some a, cap, by rw [hxl], by omega, hm, (fun e => by cases e), fun i hi => ?_⟩
    obtain ⟨cs', h1, h2⟩ := hxs i hi
    obtain ⟨_, hlen, hat⟩ := World.cells?_some h1
    obtain ⟨b, off, spot⟩ := a
    have hcell : ∀ j v, cs'[j]? = some v → w.cell? ((Addr.mk b off spot).add (i * R.n + j)) = some v := fun j v hj => by
      have hjl : j < R.n := by rw [← hlen]; exact (List.getElem?_eq_some_iff.1 hj).1
      have := hat j hjl
      rw [add_add] at this
      rw [this, hj]
    have hspot : spot = none := by
      obtain ⟨cs0, g1, g2⟩ := hxs 0 (by omega)
      obtain ⟨_, hlen0, hat0⟩ := World.cells?_some g1
      have h0 : 0 < R.n := by rw [← he.1]; exact hpos
      have hj : cs0[0]? = some (cs0[0]'(by omega)) := List.getElem?_eq_getElem (by omega)
      have h1 := hat0 0 h0
      rw [hj] at h1
      simpa [Addr.add] using World.cell?_spot h1
    subst hspot
    refine ⟨b, off, cs', rfl, h2, fun j v hj => ?_⟩
    have := hcell j v hj
    have e : (Addr.mk b off none).add (i * R.n + j) = ⟨b, off + i * R.n + j, none⟩ := by
      unfold Addr.add
      split
      · rename_i h; rw [show off + i * R.n + j = off from by omega]
      · rw [Nat.add_assoc]
    rwa [e] at this⟩
/-- An argument opened. -/
theorem opens_arg {t : TypeId} {R : Rep α} (he : Opens t R) (h1 : R.n = 1) {w : World} {base : Nat} {spare : Nat → Bool} {held : Bool} {v : Value} {d : DataW H} {p : List MemPlace} (hv : v.cells.toList = [v])
    (h : DataW.Trod enc Try.prog w base spare held t v d p) : ∃ x, R.At w [v] x := by
  obtain ⟨m, hm⟩ := h
  rw [hv] at hm
  exact he.2 hm
theorem opens_sl {t e : TypeId} {R : Rep α} (ht : Try.prog.underlying t = some (.slice e)) (he : Opens t R.slice) {w : World} {base b0 : Nat} {spare : Nat → Bool} {held : Bool} {v : Value} {d : DataW H} {p : List MemPlace} {r : Reach}
    (hv : Value.okWide Try.prog w r b0 t v) (h : DataW.Trod enc Try.prog w base spare held t v d p) : ∃ xs, R.Sl w v xs := by
  obtain ⟨a, l, c, rfl⟩ := okWide_slice ht hv
  obtain ⟨m, hm⟩ := h
  obtain ⟨xs, v, e, h⟩ := he.2 (by simpa [Value.cells] using hm)
  cases e
  exact ⟨xs, h⟩
/-- A field that is a number. -/
theorem field_int {t : TypeId} {k : IntKind} (ht : Try.prog.underlying t = some (.int k)) (hc : Try.prog.cellsOf t = 1) {w : World} {base : Nat} {spare : Nat → Bool} {held : Bool} {m off : Nat} {cs : List Value} {y : DataW H × List MemPlace}
    (h : DataW.trod enc Try.prog w base spare held m t ((cs.drop off).take (Try.prog.cellsOf t)) = some y) : ∃ n, (cs.drop off).take 1 = [.int k n] ∧ (Lit.int k n).wf = true := by
  rw [hc] at h
  obtain ⟨n, e, _, hw⟩ := DataW.trod_int ht h
  exact ⟨n, e, hw⟩
/-- A field of another type. -/
theorem field_of {t : TypeId} {R : Rep α} (he : Opens t R) {w : World} {base : Nat} {spare : Nat → Bool} {held : Bool} {m off : Nat} {cs : List Value} {y : DataW H × List MemPlace}
    (h : DataW.trod enc Try.prog w base spare held m t ((cs.drop off).take (Try.prog.cellsOf t)) = some y) : ∃ x, R.At w ((cs.drop off).take R.n) x := by
  rw [he.1] at h
  exact he.2 h
end
end Go.Proofs.Ytiogopichcnihaa
