import Derived.Test.YtabodlhlanolcaaPB2
import Derived.Deep.Slices
import Derived.Test.YtabodlhlanolcaaPB1
namespace Go.Proofs.Ytabodlhlanolcaa
set_option maxRecDepth 100000
open Go.RowKit Go.ChangeShapes Go.WideShapes Go.Deep
set_option linter.unusedVariables false
set_option linter.unusedSimpArgs false

/-- How cells read as things of a type. -/
structure Rep (α : Type) where
  n : Nat
  At : World → List Value → α → Prop
  len : ∀ w cs x, At w cs x → cs.length = n
  keep : ∀ w w' cs x, At w cs x → Below w.heap.size w w' → At w' cs x
  one : ∀ w cs x, At w cs x → ∀ v ∈ cs, v.oneCell' = true

section
variable {α : Type} (R : Rep α)
/-- From address a on lie cells that read as xs. -/
def Rep.Els (w : World) (a : Option Addr) (xs : List α) : Prop :=
  ∀ i, (h : i < xs.length) → ∃ b off cs, a = some ⟨b, off, none⟩ ∧ R.At w cs xs[i] ∧ ∀ j v, cs[j]? = some v → w.cell? ⟨b, off + i * R.n + j, none⟩ = some v
/-- A slice that reads as xs. -/
def Rep.Sl (w : World) (v : Value) (xs : List α) : Prop := ∃ a cap, v = .slice a xs.length cap ∧ xs.length ≤ cap ∧ cap ≤ maxLen ∧ (a = none → cap = 0) ∧ R.Els w a xs
theorem Rep.Els.nil (w : World) (a : Option Addr) : R.Els w a [] := fun i h => absurd h (Nat.not_lt_zero i)
theorem Rep.Els.below {w w' : World} {a : Option Addr} {xs : List α} {B : Nat} (h : R.Els w a xs) (hb : Below B w w') (hB : w.heap.size ≤ B) : R.Els w' a xs := by
  intro i hi
  obtain ⟨b, off, cs, e, hc, hx⟩ := h i hi
  have hb' := hb.mono hB
  exact ⟨b, off, cs, e, R.keep _ _ _ _ hc hb', fun j v hj => (hb'.cell (p := ⟨b, off + i * R.n + j, none⟩) (World.block_lt_of_cell? w _ (hx j v hj))).trans (hx j v hj)⟩
theorem Rep.Sl.below {w w' : World} {v : Value} {xs : List α} {B : Nat} (h : R.Sl w v xs) (hb : Below B w w') (hB : w.heap.size ≤ B) : R.Sl w' v xs := by
  obtain ⟨a, cap, e, h1, h2, h4, h3⟩ := h
  exact ⟨a, cap, e, h1, h2, h4, h3.below R hb hB⟩
theorem Rep.Sl.nil (w : World) : R.Sl w (.slice none 0 0) [] := ⟨none, 0, rfl, Nat.le_refl _, Nat.zero_le _, fun _ => rfl, Rep.Els.nil R _ _⟩
/-- A slice, as one cell. -/
def Rep.slice : Rep (List α) where
  n := 1
  At w cs xs := ∃ v, cs = [v] ∧ R.Sl w v xs
  len := by rintro w cs x ⟨v, rfl, _⟩; rfl
  keep := by rintro w w' cs x ⟨v, rfl, h⟩ hb; exact ⟨v, rfl, h.below R hb (Nat.le_refl _)⟩
  one := by rintro w cs x ⟨v, rfl, a, cap, rfl, _⟩ u hu; cases List.mem_singleton.1 hu; rfl
/-- Things that are their cells, whatever the memory. -/
def Rep.flat (n : Nat) (enc : α → List Value) (wf : α → Prop) (hl : ∀ x, (enc x).length = n) (h1 : ∀ x, ∀ v ∈ enc x, v.oneCell' = true) : Rep α where
  n := n
  At _ cs x := cs = enc x ∧ wf x
  len := by rintro w cs x ⟨rfl, _⟩; exact hl x
  keep := by rintro w w' cs x h _; exact h
  one := by rintro w cs x ⟨rfl, _⟩; exact h1 x
end

/-- Numbers. -/
def Rep.int (k : IntKind) : Rep Int := Rep.flat 1 (fun x => [.int k x]) (fun x => (Lit.int k x).wf = true) (fun _ => rfl) (by intro x v hv; cases List.mem_singleton.1 hv; rfl)

section
variable {H : Type} {enc : TypeId × Value → H} {α : Type}
/-- Whatever reads as data of type t is a thing of R. -/
def Opens (t : TypeId) (R : Rep α) : Prop := Try.prog.cellsOf t = R.n ∧ ∀ {H : Type} {enc : TypeId × Value → H} {w : World} {base : Nat} {spare : Nat → Bool} {held : Bool} {m : Nat} {cs : List Value} {y : DataW H × List MemPlace},
  DataW.trod enc Try.prog w base spare held m t cs = some y → ∃ x, R.At w cs x
theorem list_of {α : Type} {n : Nat} {p : Nat → α → Prop} (h : ∀ i, i < n → ∃ x, p i x) : ∃ l : List α, l.length = n ∧ ∀ i, (hi : i < l.length) → p i l[i] := by
  induction n with
  | zero => exact ⟨[], rfl, fun i hi => absurd hi (Nat.not_lt_zero i)⟩
  | succ n ih =>
    obtain ⟨l, hl, hp⟩ := ih (fun i hi => h i (Nat.lt_succ_of_lt hi))
    obtain ⟨x, hx⟩ := h n (Nat.lt_succ_self n)
    refine ⟨l ++ [x], by simp [hl], fun i hi => ?_⟩
    by_cases hin : i < l.length
    · rw [List.getElem_append_left hin]; exact hp i hin
    · have : i = l.length := by simp at hi; omega
      subst this
      rw [List.getElem_append_right (Nat.le_refl _)]
      simp only [Nat.sub_self, List.getElem_cons_zero]
      rw [hl]; exact hx
theorem opens_slice {t e : TypeId} {R : Rep α} (ht : Try.prog.underlying t = some (.slice e)) (hc : Try.prog.cellsOf t = 1) (hpos : 0 < Try.prog.cellsOf e) (he : Opens e R) : Opens t R.slice := ⟨hc, fun {H enc w base spare held m cs y} h => by
  rcases open_slice ht h with ⟨rfl, _⟩ | ⟨a, len, cap, m', n, D, Pl, rfl, hb, hl, hm, hmm, _, hx⟩
  · exact ⟨[], _, rfl, Rep.Sl.nil R _⟩
  · have hlm : len ≤ m' := by rw [hmm]; split <;> omega
    obtain ⟨xs, hxl, hxs⟩ := list_of (n := len) (p := fun i x => ∃ cs', w.cells? base (a.add (i * R.n)) R.n = some cs' ∧ R.At w cs' x) (fun i hi => by
      obtain ⟨cs', h1, h2⟩ := hx i (by omega)
      rw [he.1] at h1
      obtain ⟨x, h3⟩ := he.2 h2
      exact ⟨x, cs', h1, h3⟩)
    refine ⟨xs, _, rfl, some a, cap, by rw [hxl], by omega, hm, (fun e => by cases e), fun i hi => ?_⟩
    obtain ⟨cs', h1, h2⟩ := hxs i hi
    obtain ⟨_, hlen, hat⟩ := World.cells?_some h1
    obtain ⟨b, off, spot⟩ := a
    have hcell : ∀ j v, cs'[j]? = some v → w.cell? ((Addr.mk b off spot).add (i * R.n + j)) = some v := fun j v hj => by
      have hjl : j < R.n := by rw [← hlen]; exact (List.getElem?_eq_some_iff.1 hj).1
      have := hat j hjl
      rw [add_add] at this
      rw [this, hj]
    have hspot : spot = none := by
      obtain ⟨cs0, g1, g2⟩ := hxs 0 (by omega)
      obtain ⟨_, hlen0, hat0⟩ := World.cells?_some g1
      have h0 : 0 < R.n := by rw [← he.1]; exact hpos
      have hj : cs0[0]? = some (cs0[0]'(by omega)) := List.getElem?_eq_getElem (by omega)
      have h1 := hat0 0 h0
      rw [hj] at h1
      simpa [Addr.add] using World.cell?_spot h1
    subst hspot
    refine ⟨b, off, cs', rfl, h2, fun j v hj => ?_⟩
    have := hcell j v hj
    have e : (Addr.mk b off none).add (i * R.n + j) = ⟨b, off + i * R.n + j, none⟩ := by
      unfold Addr.add
      split
      · rename_i h; rw [show off + i * R.n + j = off from by omega]
      · rw [Nat.add_assoc]
    rwa [e] at this⟩
theorem opens_sl {t e : TypeId} {R : Rep α} (ht : Try.prog.underlying t = some (.slice e)) (he : Opens t R.slice) {w : World} {base b0 : Nat} {spare : Nat → Bool} {held : Bool} {v : Value} {d : DataW H} {p : List MemPlace} {r : Reach}
    (hv : Value.okWide Try.prog w r b0 t v) (h : DataW.Trod enc Try.prog w base spare held t v d p) : ∃ xs, R.Sl w v xs := by
  obtain ⟨a, l, c, rfl⟩ := okWide_slice ht hv
  obtain ⟨m, hm⟩ := h
  obtain ⟨xs, v, e, h⟩ := he.2 (by simpa [Value.cells] using hm)
  cases e
  exact ⟨xs, h⟩
/-- A field that is a number. -/
theorem field_int {t : TypeId} {k : IntKind} (ht : Try.prog.underlying t = some (.int k)) (hc : Try.prog.cellsOf t = 1) {w : World} {base : Nat} {spare : Nat → Bool} {held : Bool} {m off : Nat} {cs : List Value} {y : DataW H × List MemPlace}
    (h : DataW.trod enc Try.prog w base spare held m t ((cs.drop off).take (Try.prog.cellsOf t)) = some y) : ∃ n, (cs.drop off).take 1 = [.int k n] ∧ (Lit.int k n).wf = true := by
  rw [hc] at h
  obtain ⟨n, e, _, hw⟩ := DataW.trod_int ht h
  exact ⟨n, e, hw⟩
/-- A field of another type. -/
theorem field_of {t : TypeId} {R : Rep α} (he : Opens t R) {w : World} {base : Nat} {spare : Nat → Bool} {held : Bool} {m off : Nat} {cs : List Value} {y : DataW H × List MemPlace}
    (h : DataW.trod enc Try.prog w base spare held m t ((cs.drop off).take (Try.prog.cellsOf t)) = some y) : ∃ x, R.At w ((cs.drop off).take R.n) x := by
  rw [he.1] at h
  exact he.2 h
end
end Go.Proofs.Ytabodlhlanolcaa

namespace Go.Proofs.Ytabodlhlanolcaa
set_option maxRecDepth 100000
open Go.RowKit Go.ChangeShapes Go.WideShapes Go.Deep
set_option linter.unusedVariables false
set_option linter.unusedSimpArgs false

structure Mono where
  n : Int
  e0 : Int
  e1 : Int
  e2 : Int
  e3 : Int
  e4 : Int
  e5 : Int
def Mono.E (m : Mono) : List Int := [m.e0, m.e1, m.e2, m.e3, m.e4, m.e5]
def Mono.enc (m : Mono) : List Value := [.int .i64 m.n, .int .u8 m.e0, .int .u8 m.e1, .int .u8 m.e2, .int .u8 m.e3, .int .u8 m.e4, .int .u8 m.e5]
def Mono.V (m : Mono) : Value := .agg #[.int .i64 m.n, .int .u8 m.e0, .int .u8 m.e1, .int .u8 m.e2, .int .u8 m.e3, .int .u8 m.e4, .int .u8 m.e5]
structure Mono.wf (m : Mono) : Prop where
  n : -9223372036854775808 ≤ m.n ∧ m.n ≤ 9223372036854775807
  e0 : 0 ≤ m.e0 ∧ m.e0 ≤ 255
  e1 : 0 ≤ m.e1 ∧ m.e1 ≤ 255
  e2 : 0 ≤ m.e2 ∧ m.e2 ≤ 255
  e3 : 0 ≤ m.e3 ∧ m.e3 ≤ 255
  e4 : 0 ≤ m.e4 ∧ m.e4 ≤ 255
  e5 : 0 ≤ m.e5 ∧ m.e5 ≤ 255
def monoRep : Rep Mono := Rep.flat 7 Mono.enc Mono.wf (fun _ => rfl) (by intro x v hv; simp [Mono.enc] at hv; rcases hv with rfl | rfl | rfl | rfl | rfl | rfl | rfl <;> rfl)
theorem one_at {cs : List Value} {k : Nat} {x : Value} (h : (cs.drop k).take 1 = [x]) : cs[k]? = some x := by
  have := congrArg (·[0]?) h
  simpa [List.getElem?_take, List.getElem?_drop] using this
theorem opens_mono : Opens 39 monoRep := ⟨by kernel_rfl, fun {H enc w base spare held m cs y} h => by
  obtain ⟨ys, n, _, _, hlen, hyl, hf⟩ := DataW.trod_struct Try.underlying39 h
  have hl : cs.length = 7 := hlen.trans (by kernel_rfl)
  obtain ⟨x0, e0, w0⟩ := field_int Try.underlying2 (by kernel_rfl) ((hf 0 _ rfl).trans (List.getElem?_eq_getElem (by rw [hyl]; decide)))
  have g0 : cs[0]? = some (.int .i64 x0) := one_at e0
  have h1 : DataW.trod enc Try.prog w base spare held n 37 ((cs.drop 1).take (Try.prog.cellsOf 37)) = some (ys[1]'(by rw [hyl]; decide)) := (hf 1 _ rfl).trans (List.getElem?_eq_getElem (by rw [hyl]; decide))
  obtain ⟨zs, k, _, _, _, hzl, hz⟩ := DataW.trod_array Try.underlying37 h1
  rw [show Try.prog.cellsOf 37 = 6 from by kernel_rfl, show Try.prog.cellsOf 5 = 1 from by kernel_rfl] at hz
  have hget : ∀ i, i < 6 → ∃ x, cs[1 + i]? = some (.int .u8 x) ∧ 0 ≤ x ∧ x ≤ 255 := fun i hi => by
    have h1 := (hz i hi).trans (List.getElem?_eq_getElem (by rw [hzl]; exact hi))
    obtain ⟨x, e, _, hw⟩ := DataW.trod_int Try.underlying5 h1
    refine ⟨x, ?_, bounds_u8 hw⟩
    have := one_at (k := i) (cs := (cs.drop 1).take 6) (by simpa using e)
    rw [List.getElem?_take, if_pos hi, List.getElem?_drop] at this
    exact this
  obtain ⟨y0, f0, b0⟩ := hget 0 (by decide)
  obtain ⟨y1, f1, b1⟩ := hget 1 (by decide)
  obtain ⟨y2, f2, b2⟩ := hget 2 (by decide)
  obtain ⟨y3, f3, b3⟩ := hget 3 (by decide)
  obtain ⟨y4, f4, b4⟩ := hget 4 (by decide)
  obtain ⟨y5, f5, b5⟩ := hget 5 (by decide)
  match cs, hl, g0, f0, f1, f2, f3, f4, f5 with
  | [c0, c1, c2, c3, c4, c5, c6], _, g0, f0, f1, f2, f3, f4, f5 =>
    simp at g0 f0 f1 f2 f3 f4 f5
    subst g0; subst f0; subst f1; subst f2; subst f3; subst f4; subst f5
    exact ⟨⟨x0, y0, y1, y2, y3, y4, y5⟩, rfl, bounds_i64 w0, b0, b1, b2, b3, b4, b5⟩⟩
/-- a polynomial: a list of monomials -/
abbrev polyRep : Rep (List Mono) := monoRep.slice
theorem opens_poly : Opens 40 polyRep := opens_slice Try.underlying40 (by kernel_rfl) (by rw [show Try.prog.cellsOf 39 = 7 from by kernel_rfl]; decide) opens_mono
theorem els_mono {w : World} {a : Option Addr} {xs : List Mono} (h : monoRep.Els w a xs) {k : Nat} (hk : k < xs.length) : ∃ b off, a = some ⟨b, off, none⟩ ∧ xs[k].wf ∧
    w.cell? ⟨b, off + k * 7, none⟩ = some (.int .i64 xs[k].n) ∧ w.cell? ⟨b, off + k * 7 + 1, none⟩ = some (.int .u8 xs[k].e0) ∧ w.cell? ⟨b, off + k * 7 + 2, none⟩ = some (.int .u8 xs[k].e1) ∧
    w.cell? ⟨b, off + k * 7 + 3, none⟩ = some (.int .u8 xs[k].e2) ∧ w.cell? ⟨b, off + k * 7 + 4, none⟩ = some (.int .u8 xs[k].e3) ∧ w.cell? ⟨b, off + k * 7 + 5, none⟩ = some (.int .u8 xs[k].e4) ∧
    w.cell? ⟨b, off + k * 7 + 6, none⟩ = some (.int .u8 xs[k].e5) := by
  obtain ⟨b, off, cs, e, ⟨rfl, hw⟩, hc⟩ := h k hk
  exact ⟨b, off, e, hw, hc 0 _ rfl, hc 1 _ rfl, hc 2 _ rfl, hc 3 _ rfl, hc 4 _ rfl, hc 5 _ rfl, hc 6 _ rfl⟩
theorem wf_mono {w : World} {a : Option Addr} {xs : List Mono} (h : monoRep.Els w a xs) : ∀ m ∈ xs, m.wf := fun m hm => by
  obtain ⟨k, hk, rfl⟩ := List.getElem_of_mem hm
  obtain ⟨_, _, _, hw, _⟩ := els_mono h hk
  exact hw
/-- one of a list of lists -/
theorem els_list {α : Type} {R : Rep α} {w : World} {a : Option Addr} {xs : List (List α)} (h : R.slice.Els w a xs) {k : Nat} (hk : k < xs.length) : ∃ b off v, a = some ⟨b, off, none⟩ ∧ w.cell? ⟨b, off + k, none⟩ = some v ∧ R.Sl w v xs[k] := by
  obtain ⟨b, off, cs, e, ⟨v, rfl, hv⟩, hc⟩ := h k hk
  have := hc 0 v rfl
  refine ⟨b, off, v, e, ?_, hv⟩
  simpa [Rep.slice] using this
theorem Rep.Sl.form {α : Type} {R : Rep α} {w : World} {v : Value} {xs : List α} (h : R.Sl w v xs) : ∃ a c, v = .slice a xs.length c ∧ xs.length ≤ 9223372036854775807 ∧ R.Els w a xs := by
  obtain ⟨a, c, e, h1, h2, _, h4⟩ := h
  unfold maxLen at h2
  exact ⟨a, c, e, by omega, h4⟩
end Go.Proofs.Ytabodlhlanolcaa

namespace Go.Proofs.Ytabodlhlanolcaa
set_option maxRecDepth 100000
open Go.RowKit
set_option linter.unusedVariables false
set_option linter.unusedSimpArgs false


theorem Src.below {w w' : World} {u : Value} {m : Nat} {news : List Value} (h : Src w u m news) (hb : Below w.heap.size w w') : Src w' u m news := by
  rcases h with h | ⟨ad, c, e, h⟩
  · exact .inl h
  · exact .inr ⟨ad, c, e, fun j z hz => keepCell hb (h j z hz)⟩
/-- cells that read as xs, one behind the other -/
def Rep.Cs {α : Type} (R : Rep α) (w : World) : List Value → List α → Prop
  | cs, [] => cs = []
  | cs, x :: xs => ∃ ds r, cs = ds ++ r ∧ R.At w ds x ∧ Rep.Cs R w r xs
section
variable {α : Type} {R : Rep α}
theorem Rep.Cs.len {w : World} : ∀ {xs : List α} {cs : List Value}, R.Cs w cs xs → cs.length = xs.length * R.n
  | [], cs, h => by subst h; simp
  | x :: xs, cs, ⟨ds, r, e, h1, h2⟩ => by subst e; rw [List.length_append, R.len _ _ _ h1, Rep.Cs.len h2, List.length_cons, Nat.succ_mul]; omega
theorem Rep.Cs.keep {w w' : World} (hb : Below w.heap.size w w') : ∀ {xs : List α} {cs : List Value}, R.Cs w cs xs → R.Cs w' cs xs
  | [], cs, h => h
  | x :: xs, cs, ⟨ds, r, e, h1, h2⟩ => ⟨ds, r, e, R.keep _ _ _ _ h1 hb, Rep.Cs.keep hb h2⟩
theorem Rep.Cs.one {w : World} : ∀ {xs : List α} {cs : List Value}, R.Cs w cs xs → ∀ v ∈ cs, v.oneCell' = true
  | [], cs, h, v, hv => by subst h; cases hv
  | x :: xs, cs, ⟨ds, r, e, h1, h2⟩, v, hv => by
    subst e
    rcases List.mem_append.1 hv with h | h
    · exact R.one _ _ _ h1 v h
    · exact Rep.Cs.one h2 v h
theorem Rep.Cs.append {w : World} {ys : List α} {ds : List Value} (hy : R.Cs w ds ys) : ∀ {xs : List α} {cs : List Value}, R.Cs w cs xs → R.Cs w (cs ++ ds) (xs ++ ys)
  | [], cs, h => by subst h; exact hy
  | x :: xs, cs, ⟨es, r, e, h1, h2⟩ => ⟨es, r ++ ds, by rw [e, List.append_assoc], h1, Rep.Cs.append hy h2⟩
theorem Rep.Cs.at {w : World} : ∀ {xs : List α} {cs : List Value}, R.Cs w cs xs → ∀ i, (hi : i < xs.length) → ∃ ds, R.At w ds xs[i] ∧ ∀ j v, ds[j]? = some v → cs[i * R.n + j]? = some v
  | x :: xs, cs, ⟨ds, r, e, h1, h2⟩, 0, hi => ⟨ds, h1, fun j v hj => by
    subst e
    rw [Nat.zero_mul, Nat.zero_add, List.getElem?_append_left (List.getElem?_eq_some_iff.1 hj).1]
    exact hj⟩
  | x :: xs, cs, ⟨ds, r, e, h1, h2⟩, i + 1, hi => by
    subst e
    obtain ⟨es, h3, h4⟩ := Rep.Cs.at h2 i (by simpa using hi)
    refine ⟨es, h3, fun j v hj => ?_⟩
    have hl := R.len _ _ _ h1
    rw [List.getElem?_append_right (by rw [hl, Nat.succ_mul]; omega), hl, show (i + 1) * R.n + j - R.n = i * R.n + j from by rw [Nat.succ_mul]; omega]
    exact h4 j v hj
theorem Rep.Cs.of {w : World} (hn : 0 < R.n) : ∀ (xs : List α) (f : Nat → Option Value) (i0 : Nat), (∀ i, (h : i < xs.length) → ∃ ds, R.At w ds xs[i] ∧ ∀ j v, ds[j]? = some v → f ((i0 + i) * R.n + j) = some v) → ∃ cs, R.Cs w cs xs ∧ ∀ j v, cs[j]? = some v → f (i0 * R.n + j) = some v
  | [], f, i0, h => ⟨[], rfl, fun j v hj => by cases hj⟩
  | x :: xs, f, i0, h => by
    obtain ⟨ds, h1, h2⟩ := h 0 (Nat.zero_lt_succ _)
    obtain ⟨r, h3, h4⟩ := Rep.Cs.of hn xs f (i0 + 1) fun i hi => by
      obtain ⟨es, h5, h6⟩ := h (i + 1) (Nat.succ_lt_succ hi)
      exact ⟨es, h5, fun j v hj => by rw [show i0 + 1 + i = i0 + (i + 1) from by omega]; exact h6 j v hj⟩
    have hl := R.len _ _ _ h1
    refine ⟨ds ++ r, ⟨ds, r, rfl, h1, h3⟩, fun j v hj => ?_⟩
    by_cases hjl : j < ds.length
    · rw [List.getElem?_append_left hjl] at hj
      exact h2 j v hj
    · rw [List.getElem?_append_right (by omega), hl] at hj
      have := h4 _ _ hj
      rw [Nat.succ_mul] at this
      rw [show i0 * R.n + j = i0 * R.n + R.n + (j - R.n) from by omega]
      exact this
theorem Rep.Els.cs {w : World} {a : Option Addr} {n c : Nat} {xs : List α} (hn : 0 < R.n) (h : R.Els w a xs) (hnl : n = xs.length) (ha : a = none → n = 0 ∧ c = 0) : ∃ cs, R.Cs w cs xs ∧ Src w (.slice a n c) n cs := by
  subst hnl
  cases a with
  | none =>
    obtain ⟨h0, hc⟩ := ha rfl
    have : xs = [] := List.eq_nil_of_length_eq_zero h0
    subst this hc
    exact ⟨[], rfl, .inl ⟨rfl, rfl, rfl⟩⟩
  | some ad =>
    obtain ⟨cs, h1, h2⟩ := Rep.Cs.of (w := w) hn xs (fun j => w.cell? (ad.add j)) 0 fun i hi => by
      obtain ⟨b, off, ds, e, h3, h4⟩ := h i hi
      cases e
      refine ⟨ds, h3, fun j v hj => ?_⟩
      have e : ∀ k, (⟨b, off, none⟩ : Addr).add k = ⟨b, off + k, none⟩ := fun k => by unfold Addr.add; split <;> simp_all
      rw [Nat.zero_add, e, ← Nat.add_assoc]
      exact h4 j v hj
    exact ⟨cs, h1, .inr ⟨ad, c, rfl, fun j z hz => by have := h2 j z hz; rwa [Nat.zero_mul, Nat.zero_add] at this⟩⟩
end
end Go.Proofs.Ytabodlhlanolcaa
