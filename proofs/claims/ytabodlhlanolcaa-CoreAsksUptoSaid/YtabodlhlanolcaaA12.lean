import Derived.Test.YtabodlhlanolcaaA11
namespace Go.Proofs.Ytabodlhlanolcaa
set_option maxRecDepth 100000
open Go.RowKit Go.ChangeShapes Go.WideShapes Go.Deep
set_option linter.unusedVariables false
set_option linter.unusedSimpArgs false

/-! Cores, in plain lists and in memory. -/
structure Buf where
  sides : List (List Mono)
  input : Int
structure Cop where
  how : Int
  k : Int
  n : Int
  p : List Mono
  fn : Int
structure Stp where
  how : Int
  buf : Int
  pos : List Mono
  loops : List (List Mono)
  fn : Int
  ops : List Cop
structure Cor where
  vars : Int
  bufs : List Buf
  steps : List Stp
  outs : List Int
def I64 (x : Int) : Prop := -9223372036854775808 ≤ x ∧ x ≤ 9223372036854775807
def U8 (x : Int) : Prop := 0 ≤ x ∧ x ≤ 255
theorem Rep.Sl.form0 {α : Type} {R : Rep α} {w : World} {v : Value} {xs : List α} (h : R.Sl w v xs) : ∃ a c, v = .slice a xs.length c := by
  obtain ⟨a, c, e, _⟩ := h
  exact ⟨a, c, e⟩
def bufRep : Rep Buf where
  n := 2
  At w cs b := ∃ v, cs = [v, .int .i64 b.input] ∧ polyRep.Sl w v b.sides ∧ I64 b.input
  len := by rintro w cs b ⟨v, rfl, _⟩; rfl
  keep := by rintro w w' cs b ⟨v, e, h, h2⟩ hb; exact ⟨v, e, h.below _ hb (Nat.le_refl _), h2⟩
  one := by
    rintro w cs b ⟨v, rfl, h, _⟩ u hu
    obtain ⟨a, c, rfl⟩ := h.form0
    simp at hu
    rcases hu with rfl | rfl <;> rfl
def copRep : Rep Cop where
  n := 5
  At w cs o := ∃ v, cs = [.int .i64 o.how, .int .i64 o.k, .int .i64 o.n, v, .int .u8 o.fn] ∧ monoRep.Sl w v o.p ∧ I64 o.how ∧ I64 o.k ∧ I64 o.n ∧ U8 o.fn
  len := by rintro w cs b ⟨v, rfl, _⟩; rfl
  keep := by rintro w w' cs b ⟨v, e, h, h2⟩ hb; exact ⟨v, e, h.below _ hb (Nat.le_refl _), h2⟩
  one := by
    rintro w cs b ⟨v, rfl, h, _⟩ u hu
    obtain ⟨a, c, rfl⟩ := h.form0
    simp at hu
    rcases hu with rfl | rfl | rfl | rfl | rfl <;> rfl
def stpRep : Rep Stp where
  n := 6
  At w cs s := ∃ v0 v1 v2, cs = [.int .i64 s.how, .int .i64 s.buf, v0, v1, .int .u8 s.fn, v2] ∧ monoRep.Sl w v0 s.pos ∧ polyRep.Sl w v1 s.loops ∧ copRep.Sl w v2 s.ops ∧ I64 s.how ∧ I64 s.buf ∧ U8 s.fn
  len := by rintro w cs b ⟨v0, v1, v2, rfl, _⟩; rfl
  keep := by rintro w w' cs b ⟨v0, v1, v2, e, h0, h1, h2, h3⟩ hb; exact ⟨v0, v1, v2, e, h0.below _ hb (Nat.le_refl _), h1.below _ hb (Nat.le_refl _), h2.below _ hb (Nat.le_refl _), h3⟩
  one := by
    rintro w cs b ⟨v0, v1, v2, rfl, h0, h1, h2, _⟩ u hu
    obtain ⟨a, c, rfl⟩ := h0.form0
    obtain ⟨a, c, rfl⟩ := h1.form0
    obtain ⟨a, c, rfl⟩ := h2.form0
    simp at hu
    rcases hu with rfl | rfl | rfl | rfl | rfl | rfl <;> rfl
theorem opens_buf : Opens 36 bufRep := ⟨by kernel_rfl, fun {H enc w base spare held m cs y} h => by
  obtain ⟨ys, n, _, _, hlen, hyl, hf⟩ := DataW.trod_struct Try.underlying36 h
  have hl : cs.length = 2 := hlen.trans (by kernel_rfl)
  match cs, hl with
  | [c0, c1], _ =>
    obtain ⟨x0, e0⟩ := field_of opens_polys ((hf 0 _ rfl).trans (List.getElem?_eq_getElem (by rw [hyl]; decide)))
    obtain ⟨x1, e1, w1⟩ := field_int Try.underlying3 (by kernel_rfl) ((hf 1 _ rfl).trans (List.getElem?_eq_getElem (by rw [hyl]; decide)))
    obtain ⟨v, e0, hs⟩ := e0
    have f0 : [c0] = [v] := e0
    cases f0; cases e1
    exact ⟨⟨x0, x1⟩, c0, rfl, hs, bounds_i64 w1⟩⟩
theorem opens_bufs : Opens 22 bufRep.slice := opens_slice Try.underlying22 (by kernel_rfl) (by rw [show Try.prog.cellsOf 36 = 2 from by kernel_rfl]; decide) opens_buf
theorem opens_cop : Opens 48 copRep := ⟨by kernel_rfl, fun {H enc w base spare held m cs y} h => by
  obtain ⟨ys, n, _, _, hlen, hyl, hf⟩ := DataW.trod_struct Try.underlying48 h
  have hl : cs.length = 5 := hlen.trans (by kernel_rfl)
  match cs, hl with
  | [c0, c1, c2, c3, c4], _ =>
    obtain ⟨x0, e0, w0⟩ := field_int Try.underlying3 (by kernel_rfl) ((hf 0 _ rfl).trans (List.getElem?_eq_getElem (by rw [hyl]; decide)))
    obtain ⟨x1, e1, w1⟩ := field_int Try.underlying3 (by kernel_rfl) ((hf 1 _ rfl).trans (List.getElem?_eq_getElem (by rw [hyl]; decide)))
    obtain ⟨x2, e2, w2⟩ := field_int Try.underlying2 (by kernel_rfl) ((hf 2 _ rfl).trans (List.getElem?_eq_getElem (by rw [hyl]; decide)))
    obtain ⟨x3, e3⟩ := field_of opens_poly ((hf 3 _ rfl).trans (List.getElem?_eq_getElem (by rw [hyl]; decide)))
    obtain ⟨x4, e4, w4⟩ := field_int Try.underlying46 (by kernel_rfl) ((hf 4 _ rfl).trans (List.getElem?_eq_getElem (by rw [hyl]; decide)))
    obtain ⟨v, e3, hs⟩ := e3
    have f3 : [c3] = [v] := e3
    cases e0; cases e1; cases e2; cases f3; cases e4
    exact ⟨⟨x0, x1, x2, x3, x4⟩, c3, rfl, hs, bounds_i64 w0, bounds_i64 w1, bounds_i64 w2, bounds_u8 w4⟩⟩
theorem opens_cops : Opens 42 copRep.slice := opens_slice Try.underlying42 (by kernel_rfl) (by rw [show Try.prog.cellsOf 48 = 5 from by kernel_rfl]; decide) opens_cop
theorem opens_stp : Opens 60 stpRep := ⟨by kernel_rfl, fun {H enc w base spare held m cs y} h => by
  obtain ⟨ys, n, _, _, hlen, hyl, hf⟩ := DataW.trod_struct Try.underlying60 h
  have hl : cs.length = 6 := hlen.trans (by kernel_rfl)
  match cs, hl with
  | [c0, c1, c2, c3, c4, c5], _ =>
    obtain ⟨x0, e0, w0⟩ := field_int Try.underlying3 (by kernel_rfl) ((hf 0 _ rfl).trans (List.getElem?_eq_getElem (by rw [hyl]; decide)))
    obtain ⟨x1, e1, w1⟩ := field_int Try.underlying3 (by kernel_rfl) ((hf 1 _ rfl).trans (List.getElem?_eq_getElem (by rw [hyl]; decide)))
    obtain ⟨x2, e2⟩ := field_of opens_poly ((hf 2 _ rfl).trans (List.getElem?_eq_getElem (by rw [hyl]; decide)))
    obtain ⟨x3, e3⟩ := field_of opens_polys ((hf 3 _ rfl).trans (List.getElem?_eq_getElem (by rw [hyl]; decide)))
    obtain ⟨x4, e4, w4⟩ := field_int Try.underlying46 (by kernel_rfl) ((hf 4 _ rfl).trans (List.getElem?_eq_getElem (by rw [hyl]; decide)))
    obtain ⟨x5, e5⟩ := field_of opens_cops ((hf 5 _ rfl).trans (List.getElem?_eq_getElem (by rw [hyl]; decide)))
    obtain ⟨v2, e2, h2⟩ := e2
    obtain ⟨v3, e3, h3⟩ := e3
    obtain ⟨v5, e5, h5⟩ := e5
    have f2 : [c2] = [v2] := e2
    have f3 : [c3] = [v3] := e3
    have f5 : [c5] = [v5] := e5
    cases e0; cases e1; cases f2; cases f3; cases e4; cases f5
    exact ⟨⟨x0, x1, x2, x3, x4, x5⟩, c2, c3, c5, rfl, h2, h3, h5, bounds_i64 w0, bounds_i64 w1, bounds_u8 w4⟩⟩
theorem opens_stps : Opens 23 stpRep.slice := opens_slice Try.underlying23 (by kernel_rfl) (by rw [show Try.prog.cellsOf 60 = 6 from by kernel_rfl]; decide) opens_stp
theorem opens_ints : Opens 24 (Rep.int .i64).slice := opens_slice Try.underlying24 (by kernel_rfl) (by rw [show Try.prog.cellsOf 3 = 1 from by kernel_rfl]; decide) (opens_int Try.underlying3 (by kernel_rfl))
/-- a core by value -/
def CorAt (w : World) (vb vs vo : Value) (c : Cor) : Prop := bufRep.Sl w vb c.bufs ∧ stpRep.Sl w vs c.steps ∧ (Rep.int .i64).Sl w vo c.outs ∧ I64 c.vars
theorem CorAt.below {w w' : World} {vb vs vo : Value} {c : Cor} (h : CorAt w vb vs vo c) (hb : Below w.heap.size w w') : CorAt w' vb vs vo c := ⟨h.1.below _ hb (Nat.le_refl _), h.2.1.below _ hb (Nat.le_refl _), h.2.2.1.below _ hb (Nat.le_refl _), h.2.2.2⟩
section
variable {H : Type} {enc : TypeId × Value → H}
theorem open_core {w : World} {base b0 : Nat} {spare : Nat → Bool} {held : Bool} {v : Value} {d : DataW H} {p : List MemPlace} {r : Reach}
    (hv : Value.okWide Try.prog w r b0 26 v) (h : DataW.Trod enc Try.prog w base spare held 26 v d p) : ∃ c vb vs vo, v = .agg #[.int .i64 c.vars, vb, vs, vo] ∧ CorAt w vb vs vo c := by
  obtain ⟨⟨cs⟩, rfl, hsz⟩ := okWide_struct Try.underlying26 hv
  have hl : cs.length = 4 := by simpa using hsz.trans (by kernel_rfl : Try.prog.cellsOf 26 = 4)
  obtain ⟨m, hm⟩ := h
  obtain ⟨ys, n, _, _, hlen, hyl, hf⟩ := DataW.trod_struct Try.underlying26 hm
  match cs, hl with
  | [c0, c1, c2, c3], _ =>
    obtain ⟨x0, e0, w0⟩ := field_int Try.underlying3 (by kernel_rfl) ((hf 0 _ rfl).trans (List.getElem?_eq_getElem (by rw [hyl]; decide)))
    obtain ⟨x1, e1⟩ := field_of opens_bufs ((hf 1 _ rfl).trans (List.getElem?_eq_getElem (by rw [hyl]; decide)))
    obtain ⟨x2, e2⟩ := field_of opens_stps ((hf 2 _ rfl).trans (List.getElem?_eq_getElem (by rw [hyl]; decide)))
    obtain ⟨x3, e3⟩ := field_of opens_ints ((hf 3 _ rfl).trans (List.getElem?_eq_getElem (by rw [hyl]; decide)))
    obtain ⟨v1, e1, h1⟩ := e1
    obtain ⟨v2, e2, h2⟩ := e2
    obtain ⟨v3, e3, h3⟩ := e3
    have f0 : [c0] = [.int .i64 x0] := e0
    have f1 : [c1] = [v1] := e1
    have f2 : [c2] = [v2] := e2
    have f3 : [c3] = [v3] := e3
    cases f0; cases f1; cases f2; cases f3
    exact ⟨⟨x0, x1, x2, x3⟩, c1, c2, c3, rfl, h1, h2, h3, bounds_i64 w0⟩
end
end Go.Proofs.Ytabodlhlanolcaa
