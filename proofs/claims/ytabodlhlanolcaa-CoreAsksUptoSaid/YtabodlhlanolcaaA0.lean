import Derived.Test.YtabodlhlanolcaaRep
import Derived.Test.YtabodlhlanolcaaBase
namespace Go.Proofs.Ytabodlhlanolcaa
set_option maxRecDepth 100000
open Go.RowKit Go.ChangeShapes Go.WideShapes Go.Deep
set_option linter.unusedVariables false
set_option linter.unusedSimpArgs false

/-! Monomials, and lists of them, in plain lists and in memory. -/
structure Mono where
  n : Int
  e0 : Int
  e1 : Int
  e2 : Int
  e3 : Int
  e4 : Int
  e5 : Int
def Mono.E (m : Mono) : List Int := [m.e0, m.e1, m.e2, m.e3, m.e4, m.e5]
def Mono.enc (m : Mono) : List Value := [.int .i64 m.n, .int .u8 m.e0, .int .u8 m.e1, .int .u8 m.e2, .int .u8 m.e3, .int .u8 m.e4, .int .u8 m.e5]
def Mono.V (m : Mono) : Value := .agg #[.int .i64 m.n, .int .u8 m.e0, .int .u8 m.e1, .int .u8 m.e2, .int .u8 m.e3, .int .u8 m.e4, .int .u8 m.e5]
structure Mono.wf (m : Mono) : Prop where
  n : -9223372036854775808 ≤ m.n ∧ m.n ≤ 9223372036854775807
  e0 : 0 ≤ m.e0 ∧ m.e0 ≤ 255
  e1 : 0 ≤ m.e1 ∧ m.e1 ≤ 255
  e2 : 0 ≤ m.e2 ∧ m.e2 ≤ 255
  e3 : 0 ≤ m.e3 ∧ m.e3 ≤ 255
  e4 : 0 ≤ m.e4 ∧ m.e4 ≤ 255
  e5 : 0 ≤ m.e5 ∧ m.e5 ≤ 255
def monoRep : Rep Mono := Rep.flat 7 Mono.enc Mono.wf (fun _ => rfl) (by intro x v hv; simp [Mono.enc] at hv; rcases hv with rfl | rfl | rfl | rfl | rfl | rfl | rfl <;> rfl)
theorem one_at {cs : List Value} {k : Nat} {x : Value} (h : (cs.drop k).take 1 = [x]) : cs[k]? = some x := by
  have := congrArg (·[0]?) h
  simpa [List.getElem?_take, List.getElem?_drop] using this
theorem opens_mono : Opens 39 monoRep := ⟨by kernel_rfl, fun {H enc w base spare held m cs y} h => by
  obtain ⟨ys, n, _, _, hlen, hyl, hf⟩ := DataW.trod_struct Try.underlying39 h
  have hl : cs.length = 7 := hlen.trans (by kernel_rfl)
  obtain ⟨x0, e0, w0⟩ := field_int Try.underlying2 (by kernel_rfl) ((hf 0 _ rfl).trans (List.getElem?_eq_getElem (by rw [hyl]; decide)))
  have g0 : cs[0]? = some (.int .i64 x0) := one_at e0
  have h1 : DataW.trod enc Try.prog w base spare held n 37 ((cs.drop 1).take (Try.prog.cellsOf 37)) = some (ys[1]'(by rw [hyl]; decide)) := (hf 1 _ rfl).trans (List.getElem?_eq_getElem (by rw [hyl]; decide))
  obtain ⟨zs, k, _, _, _, hzl, hz⟩ := DataW.trod_array Try.underlying37 h1
  rw [show Try.prog.cellsOf 37 = 6 from by kernel_rfl, show Try.prog.cellsOf 5 = 1 from by kernel_rfl] at hz
  have hget : ∀ i, i < 6 → ∃ x, cs[1 + i]? = some (.int .u8 x) ∧ 0 ≤ x ∧ x ≤ 255 := fun i hi => by
    have h1 := (hz i hi).trans (List.getElem?_eq_getElem (by rw [hzl]; exact hi))
    obtain ⟨x, e, _, hw⟩ := DataW.trod_int Try.underlying5 h1
    refine ⟨x, ?_, bounds_u8 hw⟩
    have := one_at (k := i) (cs := (cs.drop 1).take 6) (by simpa using e)
    rw [List.getElem?_take, if_pos hi, List.getElem?_drop] at this
    exact this
  obtain ⟨y0, f0, b0⟩ := hget 0 (by decide)
  obtain ⟨y1, f1, b1⟩ := hget 1 (by decide)
  obtain ⟨y2, f2, b2⟩ := hget 2 (by decide)
  obtain ⟨y3, f3, b3⟩ := hget 3 (by decide)
  obtain ⟨y4, f4, b4⟩ := hget 4 (by decide)
  obtain ⟨y5, f5, b5⟩ := hget 5 (by decide)
  match cs, hl, g0, f0, f1, f2, f3, f4, f5 with
  | [c0, c1, c2, c3, c4, c5, c6], _, g0, f0, f1, f2, f3, f4, f5 =>
    simp at g0 f0 f1 f2 f3 f4 f5
    subst g0; subst f0; subst f1; subst f2; subst f3; subst f4; subst f5
    exact ⟨⟨x0, y0, y1, y2, y3, y4, y5⟩, rfl, bounds_i64 w0, b0, b1, b2, b3, b4, b5⟩⟩
/-- a polynomial: a list of monomials -/
abbrev polyRep : Rep (List Mono) := monoRep.slice
theorem opens_poly : Opens 40 polyRep := opens_slice Try.underlying40 (by kernel_rfl) (by rw [show Try.prog.cellsOf 39 = 7 from by kernel_rfl]; decide) opens_mono
theorem opens_polys : Opens 34 polyRep.slice := opens_slice Try.underlying34 (by kernel_rfl) (by rw [show Try.prog.cellsOf 40 = 1 from by kernel_rfl]; decide) opens_poly
theorem els_mono {w : World} {a : Option Addr} {xs : List Mono} (h : monoRep.Els w a xs) {k : Nat} (hk : k < xs.length) : ∃ b off, a = some ⟨b, off, none⟩ ∧ xs[k].wf ∧
    w.cell? ⟨b, off + k * 7, none⟩ = some (.int .i64 xs[k].n) ∧ w.cell? ⟨b, off + k * 7 + 1, none⟩ = some (.int .u8 xs[k].e0) ∧ w.cell? ⟨b, off + k * 7 + 2, none⟩ = some (.int .u8 xs[k].e1) ∧
    w.cell? ⟨b, off + k * 7 + 3, none⟩ = some (.int .u8 xs[k].e2) ∧ w.cell? ⟨b, off + k * 7 + 4, none⟩ = some (.int .u8 xs[k].e3) ∧ w.cell? ⟨b, off + k * 7 + 5, none⟩ = some (.int .u8 xs[k].e4) ∧
    w.cell? ⟨b, off + k * 7 + 6, none⟩ = some (.int .u8 xs[k].e5) := by
  obtain ⟨b, off, cs, e, ⟨rfl, hw⟩, hc⟩ := h k hk
  exact ⟨b, off, e, hw, hc 0 _ rfl, hc 1 _ rfl, hc 2 _ rfl, hc 3 _ rfl, hc 4 _ rfl, hc 5 _ rfl, hc 6 _ rfl⟩
theorem wf_mono {w : World} {a : Option Addr} {xs : List Mono} (h : monoRep.Els w a xs) : ∀ m ∈ xs, m.wf := fun m hm => by
  obtain ⟨k, hk, rfl⟩ := List.getElem_of_mem hm
  obtain ⟨_, _, _, hw, _⟩ := els_mono h hk
  exact hw
/-- one of a list of lists -/
theorem els_list {α : Type} {R : Rep α} {w : World} {a : Option Addr} {xs : List (List α)} (h : R.slice.Els w a xs) {k : Nat} (hk : k < xs.length) : ∃ b off v, a = some ⟨b, off, none⟩ ∧ w.cell? ⟨b, off + k, none⟩ = some v ∧ R.Sl w v xs[k] := by
  obtain ⟨b, off, cs, e, ⟨v, rfl, hv⟩, hc⟩ := h k hk
  have := hc 0 v rfl
  refine ⟨b, off, v, e, ?_, hv⟩
  simpa [Rep.slice] using this
theorem Rep.Sl.form {α : Type} {R : Rep α} {w : World} {v : Value} {xs : List α} (h : R.Sl w v xs) : ∃ a c, v = .slice a xs.length c ∧ xs.length ≤ 9223372036854775807 ∧ R.Els w a xs := by
  obtain ⟨a, c, e, h1, h2, _, h4⟩ := h
  unfold maxLen at h2
  exact ⟨a, c, e, by omega, h4⟩
end Go.Proofs.Ytabodlhlanolcaa
