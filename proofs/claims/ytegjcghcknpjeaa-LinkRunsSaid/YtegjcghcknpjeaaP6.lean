import Derived.Test.YtegjcghcknpjeaaP5
import Derived.Test.YtegjcghcknpjeaaFlat
namespace Go.Proofs.Ytegjcghcknpjeaa
open Go.RowKit Go.ChangeShapes Go.WideShapes Go.Deep


def exAdd : Piece := ⟨7, ⟨10, 1, 1, 0, 1⟩, 0⟩
def exLess : Piece := ⟨0, ⟨8, 1, 2, 0, 0⟩, 7⟩
theorem ex1 : linkS [exAdd, exLess, zeroP] = (([⟨10, 1, 1, 0, 1⟩, ⟨8, 1, 2, 0, 0⟩, zeroI], 0), 0) := by decide
theorem ex2 : linkS [exAdd, ⟨0, zeroI, 7⟩] = (([], 1), 170) := by decide
theorem ex3 : linkS [⟨0, ⟨7, 0, 0, 0, 0⟩, 9⟩] = (([], 0), 172) := by decide
theorem ex4 : unlinkS [⟨7, 0, 0, 0, 5⟩] = ([⟨0, ⟨7, 0, 0, 0, 5⟩, 0⟩], 0) := by decide
theorem exW : exAdd.wf ∧ exLess.wf ∧ zeroP.wf ∧ (Piece.mk 0 zeroI 7).wf ∧ (Piece.mk 0 ⟨7, 0, 0, 0, 0⟩ 9).wf ∧ (Ins.mk 7 0 0 0 5).wf := by
  refine ⟨⟨?_, ⟨?_, ?_, ?_, ?_, ?_⟩, ?_⟩, ⟨?_, ⟨?_, ?_, ?_, ?_, ?_⟩, ?_⟩, ⟨?_, ⟨?_, ?_, ?_, ?_, ?_⟩, ?_⟩, ⟨?_, ⟨?_, ?_, ?_, ?_, ?_⟩, ?_⟩, ⟨?_, ⟨?_, ?_, ?_, ?_, ?_⟩, ?_⟩, ⟨?_, ?_, ?_, ?_, ?_⟩⟩ <;> decide

theorem bOn {B G : Nat} {a w w' : World} (h : Below B a w) (hG : B ≤ G) (hb : Below G w w') : Below B a w' := h.trans (hb.mono hG)
theorem link_lit (xs : List Piece) (n : Nat) (hn : xs.length = n) (cs : Array Value) (hc : (xs.flatMap Piece.enc).toArray = cs) (hm : xs.length ≤ maxLen) (hw : ∀ x ∈ xs, x.wf) {r : (List Ins × Int) × Int} (hr : linkS xs = r) (G : Nat) (W : World) (hG : W.heap.size = G) :
    Calls Try.prog 11 #[.slice (some ⟨G, 0, none⟩) n n] (W.alloc (.cells cs 37)) fun e w' => RetLink (G + 1) r e w' ∧ Below (G + 1) (W.alloc (.cells cs 37)) w' := by
  subst hn hc hr hG
  have := link_any (W.alloc (.cells (xs.flatMap Piece.enc).toArray 37)) (some ⟨W.heap.size, 0, none⟩) xs.length xs hm (flat_lit _ _ W _ xs hm hw)
  rwa [show ∀ o, (W.alloc o).heap.size = W.heap.size + 1 from fun o => by simp] at this
theorem unlink_lit (xs : List Ins) (n : Nat) (hn : xs.length = n) (cs : Array Value) (hc : (xs.flatMap Ins.enc).toArray = cs) (hm : xs.length ≤ maxLen) (hw : ∀ x ∈ xs, x.wf) {r : List Piece × Int} (hr : unlinkS xs = r) (G : Nat) (W : World) (hG : W.heap.size = G) :
    Calls Try.prog 14 #[.slice (some ⟨G, 0, none⟩) n n] (W.alloc (.cells cs 35)) fun e w' => RetPieces (G + 1) r e w' ∧ Below (G + 1) (W.alloc (.cells cs 35)) w' := by
  subst hn hc hr hG
  have := unlink_any (W.alloc (.cells (xs.flatMap Ins.enc).toArray 35)) (some ⟨W.heap.size, 0, none⟩) xs.length xs hm (flat_lit _ _ W _ xs hm hw)
  rwa [show ∀ o, (W.alloc o).heap.size = W.heap.size + 1 from fun o => by simp] at this

set_option maxRecDepth 100000 in
set_option maxHeartbeats 8000000 in
theorem shown_any (w : World) : Calls Try.prog 10 #[] w fun e w' => e = .returned (.bool true) ∧ Below w.heap.size w w' := by
  obtain ⟨wf1, wf2, wf3, wf4, wf5, wf6⟩ := exW
  have K1 := Lib.hid (link_lit [exAdd, exLess, zeroP] 3 rfl _ (by simp only [List.flatMap_cons, List.flatMap_nil, Piece.enc, exAdd, exLess, zeroP, zeroI, List.cons_append, List.nil_append, List.append_nil]; rfl) (by decide) (by simp [wf1, wf2, wf3]) ex1)
  have K2 := Lib.hid (link_lit [exAdd, ⟨0, zeroI, 7⟩] 2 rfl _ (by simp only [List.flatMap_cons, List.flatMap_nil, Piece.enc, exAdd, zeroI, List.cons_append, List.nil_append, List.append_nil]; rfl) (by decide) (by simp [wf1, wf4]) ex2)
  have K3 := Lib.hid (link_lit [⟨0, ⟨7, 0, 0, 0, 0⟩, 9⟩] 1 rfl _ (by simp only [List.flatMap_cons, List.flatMap_nil, Piece.enc, List.append_nil]; rfl) (by decide) (by simp [wf5]) ex3)
  have K4 := Lib.hid (unlink_lit [⟨7, 0, 0, 0, 5⟩] 1 rfl _ (by simp only [List.flatMap_cons, List.flatMap_nil, Ins.enc, List.append_nil]; rfl) (by decide) (by simp [wf6]) ex4)
  go_enter Try.func10, Try.ntmps10
  go_wp2_with fail
  refine (K1.out (w.heap.size + 1 + 1) _ (by simp)).mono ?_
  rintro e w1 ⟨⟨v1, rfl, hr1⟩, hb⟩
  obtain ⟨g1, c1, rfl, hg1, hl1, _, _⟩ := flat_form hr1 (by decide)
  have hx1 : w1.cell? ⟨g1, 9, none⟩ = some (.int .i32 0) := (hr1.cellAt 9 (by decide)).trans rfl
  have hs1 : w.heap.size + 1 + 1 + 1 ≤ w1.heap.size := by have := hb.size; simpa using this
  have hq0 : w1.cell? ⟨w.heap.size, 0, none⟩ = some (.int .i64 7) := (hb.cell (p := ⟨w.heap.size, 0, none⟩) (by show w.heap.size < _; omega)).trans (by simp [go_sem])
  have hq1 : w1.cell? ⟨w.heap.size, 1, none⟩ = some (.int .u8 10) := (hb.cell (p := ⟨w.heap.size, 1, none⟩) (by show w.heap.size < _; omega)).trans (by simp [go_sem])
  have hq2 : w1.cell? ⟨w.heap.size, 2, none⟩ = some (.int .u8 1) := (hb.cell (p := ⟨w.heap.size, 2, none⟩) (by show w.heap.size < _; omega)).trans (by simp [go_sem])
  have hq3 : w1.cell? ⟨w.heap.size, 3, none⟩ = some (.int .u8 1) := (hb.cell (p := ⟨w.heap.size, 3, none⟩) (by show w.heap.size < _; omega)).trans (by simp [go_sem])
  have hq4 : w1.cell? ⟨w.heap.size, 4, none⟩ = some (.int .u8 0) := (hb.cell (p := ⟨w.heap.size, 4, none⟩) (by show w.heap.size < _; omega)).trans (by simp [go_sem])
  have hq5 : w1.cell? ⟨w.heap.size, 5, none⟩ = some (.int .i32 1) := (hb.cell (p := ⟨w.heap.size, 5, none⟩) (by show w.heap.size < _; omega)).trans (by simp [go_sem])
  have hq6 : w1.cell? ⟨w.heap.size, 6, none⟩ = some (.int .i64 0) := (hb.cell (p := ⟨w.heap.size, 6, none⟩) (by show w.heap.size < _; omega)).trans (by simp [go_sem])
  have hB1 : Below w.heap.size w w1 := bOn ((((Below.refl _ w).alloc (Nat.le_refl _) _).alloc (by simp) _).alloc (by simp; omega) _) (by omega) hb
  clear hb hr1 K1
  go_wp2_with fail
  refine (K2.out w1.heap.size _ rfl).mono ?_
  rintro e w2 ⟨⟨v2, rfl, hr2⟩, hb⟩
  have h12 : Below w1.heap.size w1 w2 := bOn ((Below.refl _ w1).alloc (Nat.le_refl _) _) (by omega) hb
  have hx2 : w2.cell? ⟨g1, 9, none⟩ = some (.int .i32 0) := (h12.cell (p := ⟨g1, 9, none⟩) hl1).trans hx1
  have hB2 : Below w.heap.size w w2 := bAfter hB1 hB1.size h12
  have hl2 : g1 < w2.heap.size := Nat.lt_of_lt_of_le hl1 h12.size
  clear hb hr2 K2 h12 hx1 hq0 hq1 hq2 hq3 hq4 hq5 hq6 hs1 hB1
  go_wp2_with fail
  refine (K3.out w2.heap.size _ rfl).mono ?_
  rintro e w3 ⟨⟨v3, rfl, hr3⟩, hb⟩
  have h23 : Below w2.heap.size w2 w3 := bOn ((Below.refl _ w2).alloc (Nat.le_refl _) _) (by omega) hb
  have hx3 : w3.cell? ⟨g1, 9, none⟩ = some (.int .i32 0) := (h23.cell (p := ⟨g1, 9, none⟩) hl2).trans hx2
  have hB3 : Below w.heap.size w w3 := bAfter hB2 hB2.size h23
  have hl3 : g1 < w3.heap.size := Nat.lt_of_lt_of_le hl2 h23.size
  clear hb hr3 K3 h23 hx2 hB2
  go_wp2_with fail
  refine (K4.out w3.heap.size _ rfl).mono ?_
  rintro e w4 ⟨⟨v4, rfl, hr4⟩, hb⟩
  obtain ⟨g4, c4, rfl, hg4, hl4, _, _⟩ := flat_form hr4 (by decide)
  have hy0 : w4.cell? ⟨g4, 0, none⟩ = some (.int .i64 0) := (hr4.cellAt 0 (by decide)).trans rfl
  have hy5 : w4.cell? ⟨g4, 5, none⟩ = some (.int .i32 5) := (hr4.cellAt 5 (by decide)).trans rfl
  have h34 : Below w3.heap.size w3 w4 := bOn ((Below.refl _ w3).alloc (Nat.le_refl _) _) (by omega) hb
  have hx4 : w4.cell? ⟨g1, 9, none⟩ = some (.int .i32 0) := (h34.cell (p := ⟨g1, 9, none⟩) hl3).trans hx3
  have hB4 : Below w.heap.size w w4 := bAfter hB3 hB3.size h34
  clear hb hr4 K4 h34 hx3 hB3
  go_wp2_with fail
  go_ret
  exact ⟨rfl, hB4⟩
end Go.Proofs.Ytegjcghcknpjeaa
