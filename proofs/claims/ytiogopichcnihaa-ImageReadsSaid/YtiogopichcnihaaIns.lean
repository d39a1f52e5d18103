import Derived.Test.YtiogopichcnihaaRep
import Derived.Test.YtiogopichcnihaaI2
namespace Go.Proofs.Ytiogopichcnihaa
set_option maxRecDepth 100000
open Go.RowKit Go.ChangeShapes Go.WideShapes Go.Deep

structure Ins where
  op : Int
  a : Int
  b : Int
  c : Int
  imm : Int
theorem Ins.ext' {x y : Ins} (h0 : x.op = y.op) (h1 : x.a = y.a) (h2 : x.b = y.b) (h3 : x.c = y.c) (h4 : x.imm = y.imm) : x = y := by cases x; cases y; simp_all
instance : DecidableEq Ins := fun x y => decidable_of_iff (x.op = y.op ∧ x.a = y.a ∧ x.b = y.b ∧ x.c = y.c ∧ x.imm = y.imm) ⟨fun ⟨a, b, c, d, e⟩ => Ins.ext' a b c d e, fun h => by subst h; exact ⟨rfl, rfl, rfl, rfl, rfl⟩⟩
def Ins.enc (i : Ins) : List Value := [.int .u8 i.op, .int .u8 i.a, .int .u8 i.b, .int .u8 i.c, .int .i32 i.imm]
structure Ins.wf (i : Ins) : Prop where
  op : 0 ≤ i.op ∧ i.op ≤ 255
  a : 0 ≤ i.a ∧ i.a ≤ 255
  b : 0 ≤ i.b ∧ i.b ≤ 255
  c : 0 ≤ i.c ∧ i.c ≤ 255
  imm : -2147483648 ≤ i.imm ∧ i.imm ≤ 2147483647
def insRep : Rep Ins := Rep.flat 5 Ins.enc Ins.wf (fun _ => rfl) (by intro x v hv; simp [Ins.enc] at hv; rcases hv with rfl | rfl | rfl | rfl | rfl <;> rfl)
theorem wf_u8 {x : Int} (h : (Lit.int .u8 x).wf = true) : 0 ≤ x ∧ x ≤ 255 := by simpa [Lit.wf, IntKind.min, IntKind.max, IntKind.signed, IntKind.bits] using h
theorem wf_i32 {x : Int} (h : (Lit.int .i32 x).wf = true) : -2147483648 ≤ x ∧ x ≤ 2147483647 := by simpa [Lit.wf, IntKind.min, IntKind.max, IntKind.signed, IntKind.bits] using h
theorem wf_i64 {x : Int} (h : (Lit.int .i64 x).wf = true) : -9223372036854775808 ≤ x ∧ x ≤ 9223372036854775807 := by simpa [Lit.wf, IntKind.min, IntKind.max, IntKind.signed, IntKind.bits] using h

theorem opens_ins : Opens 43 insRep := ⟨by kernel_rfl, fun {H enc w base spare held m cs y} h => by
  obtain ⟨ys, n, _, _, hlen, hyl, hf⟩ := DataW.trod_struct Try.underlying43 h
  have hl : cs.length = 5 := hlen.trans (by kernel_rfl)
  match cs, hl with
  | [c0, c1, c2, c3, c4], _ =>
    obtain ⟨x0, e0, w0⟩ := field_int Try.underlying5 (by kernel_rfl) ((hf 0 _ rfl).trans (List.getElem?_eq_getElem (by rw [hyl]; decide)))
    obtain ⟨x1, e1, w1⟩ := field_int Try.underlying5 (by kernel_rfl) ((hf 1 _ rfl).trans (List.getElem?_eq_getElem (by rw [hyl]; decide)))
    obtain ⟨x2, e2, w2⟩ := field_int Try.underlying5 (by kernel_rfl) ((hf 2 _ rfl).trans (List.getElem?_eq_getElem (by rw [hyl]; decide)))
    obtain ⟨x3, e3, w3⟩ := field_int Try.underlying5 (by kernel_rfl) ((hf 3 _ rfl).trans (List.getElem?_eq_getElem (by rw [hyl]; decide)))
    obtain ⟨x4, e4, w4⟩ := field_int Try.underlying21 (by kernel_rfl) ((hf 4 _ rfl).trans (List.getElem?_eq_getElem (by rw [hyl]; decide)))
    cases e0; cases e1; cases e2; cases e3; cases e4
    exact ⟨⟨x0, x1, x2, x3, x4⟩, rfl, wf_u8 w0, wf_u8 w1, wf_u8 w2, wf_u8 w3, wf_i32 w4⟩⟩
theorem opens_inss : Opens 24 insRep.slice := opens_slice Try.underlying24 (by kernel_rfl) (by rw [show Try.prog.cellsOf 43 = 5 from by kernel_rfl]; decide) opens_ins
/-- The cells of one instruction of a slice. -/
theorem els_ins {w : World} {a : Option Addr} {xs : List Ins} (h : insRep.Els w a xs) {k : Nat} (hk : k < xs.length) : ∃ b off, a = some ⟨b, off, none⟩ ∧ xs[k].wf ∧
    w.cell? ⟨b, off + k * 5, none⟩ = some (.int .u8 xs[k].op) ∧ w.cell? ⟨b, off + k * 5 + 1, none⟩ = some (.int .u8 xs[k].a) ∧ w.cell? ⟨b, off + k * 5 + 2, none⟩ = some (.int .u8 xs[k].b) ∧
    w.cell? ⟨b, off + k * 5 + 3, none⟩ = some (.int .u8 xs[k].c) ∧ w.cell? ⟨b, off + k * 5 + 4, none⟩ = some (.int .i32 xs[k].imm) := by
  obtain ⟨b, off, cs, e, ⟨rfl, hw⟩, hc⟩ := h k hk
  exact ⟨b, off, e, hw, hc 0 _ rfl, hc 1 _ rfl, hc 2 _ rfl, hc 3 _ rfl, hc 4 _ rfl⟩
def Ins.V (i : Ins) : Value := .agg #[.int .u8 i.op, .int .u8 i.a, .int .u8 i.b, .int .u8 i.c, .int .i32 i.imm]
def Ins.right (i : Ins) : Bool := insRight i.op i.a i.b i.c i.imm
end Go.Proofs.Ytiogopichcnihaa
