import Derived.Test.YtmjkncmpanhgjaaPA23
import Derived.Test.YtmjkncmpanhgjaaBW
import Derived.Deep.DeepCutAuto
import Derived.Deep.CutBlock
namespace Go.Proofs.Ytmjkncmpanhgjaa
set_option maxRecDepth 100000
open Go.RowKit
set_option linter.unusedVariables false
set_option linter.unusedSimpArgs false

/-! What the walks of the later laws share. -/
theorem ret_sl {B : Nat} {S D : List Int} {E : Int} {e : Ending} {w : World} (h : RetArr B ((S, D), E) e w) (hr : Rt ((S, D), E)) :
    ∃ a c a' c', e = .returned (.tuple #[.agg #[.slice a S.length c, .slice a' D.length c'], .int .i64 E]) ∧ SlA w (.slice a S.length c) S ∧ SlA w (.slice a' D.length c') D :=
  ret_forms (r := ((S, D), E)) h rfl rfl hr.i1 hr.i2
theorem aright_sl (W : World) (v u : Value) (s d : List Int) (hs : SlA W v s) (hd : SlA W u d) : Calls Try.prog 25 #[.agg #[v, u]] W fun e w' => e = .returned (.bool (right s d)) ∧ Below W.heap.size W w' := by
  obtain ⟨a0, c0, rfl, h01, h02, -, h04, -⟩ := hs
  obtain ⟨a1, c1, rfl, h11, h12, -, h14, -⟩ := hd
  exact right_any W a0 a1 c0 c1 s d (Nat.le_trans h01 h02) h04
theorem in_of {w : World} {v : Value} {xs : List Int} (h : SlA w v xs) : ∀ x ∈ xs, In64 x := by obtain ⟨_, _, _, _, _, _, _, h⟩ := h; exact h
theorem okA_no {s d S D : List Int} {E : Int} (h : ((S, D), E) = okA s d) : S = s ∧ D = d ∧ E = 0 := by unfold okA at h; cases h; exact ⟨rfl, rfl, rfl⟩
theorem noA_no {S D : List Int} {E e : Int} (h : ((S, D), E) = noA e) : S = [] ∧ D = [] ∧ E = e := by unfold noA at h; cases h; exact ⟨rfl, rfl, rfl⟩
theorem ret_own {B : Nat} {S D : List Int} {E : Int} {e : Ending} {w : World} (h : RetArr B ((S, D), E) e w) :
    ∃ a c a' c', e = .returned (.tuple #[.agg #[.slice a S.length c, .slice a' D.length c'], .int .i64 E]) ∧ RowI 0 w (.slice a S.length c) S ∧ RowI 0 w (.slice a' D.length c') D := by
  obtain ⟨v, u, rfl, hv, hu, -⟩ := h
  obtain ⟨a, c, rfl, -, -⟩ := hv.slice
  obtain ⟨a', c', rfl, -, -⟩ := hu.slice
  exact ⟨a, c, a', c', rfl, hv.mono (Nat.zero_le _), hu.mono (Nat.zero_le _)⟩
/-- a new box for an array -/
def Boxed (W : World) (R : Nat) : Prop := W.heap[R]? = some (.cells #[.slice none 0 0, .slice none 0 0] 24 (0, 0))
theorem Boxed.new {W : World} {R : Nat} (h : W.heap.size = R) : Boxed (W.alloc (.cells #[.slice none 0 0, .slice none 0 0] 24)) R := by subst h; exact World.alloc_heap_new _ _
theorem Boxed.next {W W' : World} {R : Nat} (h : Boxed W R) (hb : Below W.heap.size W W') : Boxed W' R := block_below h hb
/-- an array that a call told, in its box -/
structure KeptR (W : World) (b : Nat) (v u : Value) (s d : List Int) : Prop where
  bx : W.heap[b]? = some (.cells #[v, u] 24 (0, 0))
  rv : RowI 0 W v s
  ru : RowI 0 W u d
  i1 : ∀ x ∈ s, In64 x
  i2 : ∀ x ∈ d, In64 x
section
variable {W W' : World} {b : Nat} {v u : Value} {s d : List Int}
theorem KeptR.next (h : KeptR W b v u s d) (hb : Below W.heap.size W W') : KeptR W' b v u s d := ⟨block_below h.bx hb, h.rv.below hb, h.ru.below hb, h.i1, h.i2⟩
theorem KeptR.c0 (h : KeptR W b v u s d) : W.cell? ⟨b, 0, none⟩ = some v := cell_of_row W b 0 _ _ _ h.bx
theorem KeptR.c1 (h : KeptR W b v u s d) : W.cell? ⟨b, 1, none⟩ = some u := cell_of_row W b 1 _ _ _ h.bx
theorem KeptR.f0 (h : KeptR W b v u s d) (j : Nat) : W.frozen? ⟨b, j, none⟩ = false := frozen_of_row W b j _ _ h.bx
theorem KeptR.sv (h : KeptR W b v u s d) : SlA W v s := h.rv.sl h.i1
theorem KeptR.su (h : KeptR W b v u s d) : SlA W u d := h.ru.sl h.i2
/-- other cells of arrays are turned -/
theorem KeptR.keep (h : KeptR W b v u s d) (hb : W'.heap[b]? = W.heap[b]?) (hk : KeepTy 2 W W') : KeptR W' b v u s d := ⟨hb.trans h.bx, own_keep h.rv hk, own_keep h.ru hk, h.i1, h.i2⟩
theorem keep_box {W : World} {R : Nat} {v0 u0 : Value} (h : W.heap[R]? = some (.cells #[v0, u0] 24 (0, 0))) (v u : Value) : KeepTy 2 W ((W.setCell ⟨R, 0, none⟩ v).setCell ⟨R, 1, none⟩ u) :=
  (KeepTy.setCell (p := ⟨R, 0, none⟩) (NotTy.of h (by decide)) _).trans (KeepTy.setCell (p := ⟨R, 1, none⟩) (NotTy.of (heap_setCell_same W R 0 _ _ v h) (by decide)) _)
theorem box_same {W : World} {R : Nat} {v0 u0 : Value} (h : W.heap[R]? = some (.cells #[v0, u0] 24 (0, 0))) (v u : Value) : ((W.setCell ⟨R, 0, none⟩ v).setCell ⟨R, 1, none⟩ u).heap[R]? = some (.cells #[v, u] 24 (0, 0)) := by
  have h1 := heap_setCell_same W R 0 _ _ v h
  have h2 := heap_setCell_same _ R 1 _ _ u h1
  exact h2
theorem box_other {W : World} {R b : Nat} (hne : R ≠ b) (v u : Value) : ((W.setCell ⟨R, 0, none⟩ v).setCell ⟨R, 1, none⟩ u).heap[b]? = W.heap[b]? :=
  (Below.heap_setCell _ ⟨R, 1, none⟩ u b (fun e => hne e.symm)).trans (Below.heap_setCell _ ⟨R, 0, none⟩ v b (fun e => hne e.symm))
theorem KeptR.put {v' u' : Value} {s' d' : List Int} {v0 u0 : Value} {R : Nat} (hR : W.heap[R]? = some (.cells #[v0, u0] 24 (0, 0))) (hv : RowI 0 W v s) (hu : RowI 0 W u d) (i1 : ∀ x ∈ s, In64 x) (i2 : ∀ x ∈ d, In64 x) :
    KeptR ((W.setCell ⟨R, 0, none⟩ v).setCell ⟨R, 1, none⟩ u) R v u s d := ⟨box_same hR v u, own_keep hv (keep_box hR v u), own_keep hu (keep_box hR v u), i1, i2⟩
theorem KeptR.other {v0 u0 v' u' : Value} {R : Nat} (h : KeptR W b v u s d) (hR : W.heap[R]? = some (.cells #[v0, u0] 24 (0, 0))) (hne : R ≠ b) : KeptR ((W.setCell ⟨R, 0, none⟩ v').setCell ⟨R, 1, none⟩ u') b v u s d := h.keep (box_other hne v' u') (keep_box hR v' u')
theorem BoxA.put {w W : World} {v u v' u' : Value} {R : Nat} (h : BoxA w W v u) (hR : w.heap.size < R) : BoxA w ((W.setCell ⟨R, 0, none⟩ v').setCell ⟨R, 1, none⟩ u') v u :=
  ⟨(box_other (by omega) v' u').trans h.x, (h.b.setCell (by show w.heap.size ≤ R; omega) _).setCell (by show w.heap.size ≤ R; omega) _⟩
theorem BoxA.lt {w W : World} {v u : Value} (h : BoxA w W v u) : w.heap.size < W.heap.size := (Array.getElem?_eq_some_iff.1 h.x).1
theorem BoxB.lt {w W : World} {v u v2 u2 : Value} (h : BoxB w W v u v2 u2) : w.heap.size + 1 < W.heap.size := (Array.getElem?_eq_some_iff.1 h.y).1
theorem KeptR.lt (h : KeptR W b v u s d) : b < W.heap.size := (Array.getElem?_eq_some_iff.1 h.bx).1
/-- the box is the newest block -/
theorem KeptR.new (hb : W.heap.size = b) (hv : RowI 0 W v s) (hu : RowI 0 W u d) (i1 : ∀ x ∈ s, In64 x) (i2 : ∀ x ∈ d, In64 x) : KeptR (W.alloc (.cells #[v, u] 24)) b v u s d := by
  subst hb
  have h1 : Below W.heap.size W (W.alloc (.cells #[v, u] 24)) := (Below.refl _ _).alloc (Nat.le_refl _) _
  exact ⟨World.alloc_heap_new _ _, hv.below h1, hu.below h1, i1, i2⟩
end
end Go.Proofs.Ytmjkncmpanhgjaa
