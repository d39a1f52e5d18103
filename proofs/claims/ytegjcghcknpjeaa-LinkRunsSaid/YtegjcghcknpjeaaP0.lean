import Derived.Test.YtegjcghcknpjeaaIns
namespace Go.Proofs.Ytegjcghcknpjeaa
open Go.RowKit Go.ChangeShapes Go.WideShapes Go.Deep

structure Piece where
  mark : Int
  ins : Ins
  to : Int
theorem Piece.ext' {x y : Piece} (h0 : x.mark = y.mark) (h1 : x.ins = y.ins) (h2 : x.to = y.to) : x = y := by cases x; cases y; simp_all
instance : DecidableEq Piece := fun x y => decidable_of_iff (x.mark = y.mark ∧ x.ins = y.ins ∧ x.to = y.to) ⟨fun ⟨a, b, c⟩ => Piece.ext' a b c, fun h => by subst h; exact ⟨rfl, rfl, rfl⟩⟩

def Piece.enc (p : Piece) : List Value := [.int .i64 p.mark, .int .u8 p.ins.op, .int .u8 p.ins.a, .int .u8 p.ins.b, .int .u8 p.ins.c, .int .i32 p.ins.imm, .int .i64 p.to]
structure Piece.wf (p : Piece) : Prop where
  mark : -9223372036854775808 ≤ p.mark ∧ p.mark ≤ 9223372036854775807
  ins : p.ins.wf
  to : -9223372036854775808 ≤ p.to ∧ p.to ≤ 9223372036854775807
def pieceRep : Rep Piece := Rep.flat 7 Piece.enc Piece.wf (fun _ => rfl) (by intro x v hv; simp [Piece.enc] at hv; rcases hv with rfl | rfl | rfl | rfl | rfl | rfl | rfl <;> rfl)

theorem opens_piece : Opens 37 pieceRep := ⟨by kernel_rfl, fun {H enc w base spare held m cs y} h => by
  obtain ⟨ys, n, _, _, hlen, hyl, hf⟩ := DataW.trod_struct Try.underlying37 h
  have hl : cs.length = 7 := hlen.trans (by kernel_rfl)
  match cs, hl with
  | [c0, c1, c2, c3, c4, c5, c6], _ =>
    obtain ⟨x0, e0, w0⟩ := field_int Try.underlying3 (by kernel_rfl) ((hf 0 _ rfl).trans (List.getElem?_eq_getElem (by rw [hyl]; decide)))
    obtain ⟨x1, e1, w1⟩ := field_of opens_ins ((hf 1 _ rfl).trans (List.getElem?_eq_getElem (by rw [hyl]; decide)))
    obtain ⟨x2, e2, w2⟩ := field_int Try.underlying3 (by kernel_rfl) ((hf 2 _ rfl).trans (List.getElem?_eq_getElem (by rw [hyl]; decide)))
    cases e0; cases e2
    have e1' : [c1, c2, c3, c4, c5] = x1.enc := e1
    cases e1'
    exact ⟨⟨x0, x1, x2⟩, rfl, wf_i64 w0, w1, wf_i64 w2⟩⟩
theorem opens_pieces : Opens 22 pieceRep.slice := opens_slice Try.underlying22 (by kernel_rfl) (by rw [show Try.prog.cellsOf 37 = 7 from by kernel_rfl]; decide) opens_piece

theorem els_piece {w : World} {a : Option Addr} {xs : List Piece} (h : pieceRep.Els w a xs) {k : Nat} (hk : k < xs.length) : ∃ b off, a = some ⟨b, off, none⟩ ∧ xs[k].wf ∧
    w.cell? ⟨b, off + k * 7, none⟩ = some (.int .i64 xs[k].mark) ∧ w.cell? ⟨b, off + k * 7 + 1, none⟩ = some (.int .u8 xs[k].ins.op) ∧ w.cell? ⟨b, off + k * 7 + 2, none⟩ = some (.int .u8 xs[k].ins.a) ∧
    w.cell? ⟨b, off + k * 7 + 3, none⟩ = some (.int .u8 xs[k].ins.b) ∧ w.cell? ⟨b, off + k * 7 + 4, none⟩ = some (.int .u8 xs[k].ins.c) ∧ w.cell? ⟨b, off + k * 7 + 5, none⟩ = some (.int .i32 xs[k].ins.imm) ∧
    w.cell? ⟨b, off + k * 7 + 6, none⟩ = some (.int .i64 xs[k].to) := by
  obtain ⟨b, off, cs, e, ⟨rfl, hw⟩, hc⟩ := h k hk
  exact ⟨b, off, e, hw, hc 0 _ rfl, hc 1 _ rfl, hc 2 _ rfl, hc 3 _ rfl, hc 4 _ rfl, hc 5 _ rfl, hc 6 _ rfl⟩
def Piece.V (p : Piece) : Value := .agg #[.int .i64 p.mark, .int .u8 p.ins.op, .int .u8 p.ins.a, .int .u8 p.ins.b, .int .u8 p.ins.c, .int .i32 p.ins.imm, .int .i64 p.to]
end Go.Proofs.Ytegjcghcknpjeaa
