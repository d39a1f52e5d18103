import Derived.Test.YtiogopichcnihaaJI
namespace Go.Proofs.Ytiogopichcnihaa
set_option maxRecDepth 100000
open Go.RowKit
set_option linter.unusedVariables false
set_option linter.unusedSimpArgs false

/-! Answers that are written over. -/
/-- so many cells from a slice's beginning on may be written: they lie in a block of type t from B on -/
def Wr (t : TypeId) (B : Nat) (w : World) (v : Value) (n cells : Nat) : Prop := n ≤ maxLen ∧ ∃ a c, v = .slice a n c ∧ ∀ k, k < cells → ∃ g cur, a = some ⟨g, 0, none⟩ ∧ B ≤ g ∧ w.heap[g]? = some (Obj.cells cur t (0, 0)) ∧ k < cur.size
theorem Wr.own {t : TypeId} {B size n : Nat} {w : World} {v : Value} {xs : List Value} (h : w.ownsRow B t size v n xs) : Wr t B w v n (n * size) := by
  obtain ⟨h1, ⟨hv, hn⟩ | ⟨g, cap, cur, hv, hB, hg, hnc, hcm, hcs, ht⟩⟩ := h
  · subst hn
    exact ⟨Nat.zero_le _, none, 0, hv, fun k hk => by omega⟩
  · refine ⟨Nat.le_trans hnc hcm, _, _, hv, fun k hk => ⟨g, cur, rfl, hB, hg, ?_⟩⟩
    rw [hcs]
    exact Nat.lt_of_lt_of_le hk (Nat.mul_le_mul_right _ hnc)
/-- blocks keep their type and size -/
def Shape (w w' : World) : Prop := ∀ (g : Nat) (t : TypeId) (cur : Array Value), w.heap[g]? = some (Obj.cells cur t (0, 0)) → ∃ cur' : Array Value, w'.heap[g]? = some (Obj.cells cur' t (0, 0)) ∧ cur'.size = cur.size
theorem Shape.refl (w : World) : Shape w w := fun g t cur h => ⟨cur, h, rfl⟩
theorem Shape.trans {a b c : World} (h : Shape a b) (k : Shape b c) : Shape a c := fun g t cur hg => by
  obtain ⟨c1, h1, h2⟩ := h g t cur hg
  obtain ⟨c2, h3, h4⟩ := k g t c1 h1
  exact ⟨c2, h3, h4.trans h2⟩
theorem Shape.below {w w' : World} (h : Below w.heap.size w w') : Shape w w' := fun g t cur hg => ⟨cur, block_below hg h, rfl⟩
theorem Shape.setCell (w : World) (b j : Nat) (u : Value) : Shape w (w.setCell ⟨b, j, none⟩ u) := fun g t cur hg => by
  by_cases e : b = g
  · subst e
    exact ⟨_, heap_setCell_same w b j _ _ _ hg, by simp⟩
  · exact ⟨cur, block_other hg e u, rfl⟩
theorem Wr.shape {t : TypeId} {B n cells : Nat} {w w' : World} {v : Value} (h : Wr t B w v n cells) (hs : Shape w w') : Wr t B w' v n cells := by
  obtain ⟨h0, a, c, e, h1⟩ := h
  refine ⟨h0, a, c, e, fun k hk => ?_⟩
  obtain ⟨g, cur, e1, h2, h3, h4⟩ := h1 k hk
  obtain ⟨cur', h5, h6⟩ := hs g t cur h3
  exact ⟨g, cur', e1, h2, h5, by omega⟩
theorem Wr.cell {t : TypeId} {w : World} {g k : Nat} {cur : Array Value} (h : w.heap[g]? = some (Obj.cells cur t (0, 0))) (hk : k < cur.size) : (∃ x, w.cell? ⟨g, k, none⟩ = some x) ∧ w.frozen? ⟨g, k, none⟩ = false :=
  ⟨⟨cur[k], by rw [cell_of_row w g k _ _ _ h]; simp [hk]⟩, frozen_of_row w g k _ _ h⟩
theorem Wr.at {t : TypeId} {B n n' cells : Nat} {w : World} {a : Option Addr} {c : Nat} (h : Wr t B w (.slice a n c) n' cells) {k : Nat} (hk : k < cells) : ∃ g cur, a = some ⟨g, 0, none⟩ ∧ B ≤ g ∧ w.heap[g]? = some (Obj.cells cur t (0, 0)) ∧ k < cur.size := by
  obtain ⟨-, a', c', e, h1⟩ := h
  simp only [Value.slice.injEq] at e
  rw [← e.1] at h1
  exact h1 k hk
/-- an answer that may be written over: its box N, what was there below B -/
structure NewIn (B : Nat) (W0 W : World) (N : Nat) (vd : Value) (mem : Int) (vi vo vc : Value) (m : Img) : Prop where
  below : Below B W0 W
  box : BoxI W N vd mem vi vo vc
  new : B ≤ N
  dims : Wr 2 B W vd m.dims.length m.dims.length
  slots : ∃ cs, W.ownsRow B 41 2 vi m.ins.length cs ∧ ∀ i, (hi : i < m.ins.length) → ∃ v, cs[i * 2 + 1]? = some v ∧ Wr 2 B W v m.ins[i].sides.length m.ins[i].sides.length
  code : Wr 43 B W vc m.code.length (m.code.length * 5)
theorem NewIn.put {B : Nat} {W0 W : World} {N : Nat} {vd vi vo vc : Value} {mem : Int} {m : Img} (h : NewIn B W0 W N vd mem vi vo vc m) {t : TypeId} {g k : Nat} {cur : Array Value} (hg : W.heap[g]? = some (Obj.cells cur t (0, 0))) (hB : B ≤ g) (h1 : t ≠ 26) (h2 : t ≠ 41) (u : Value) :
    NewIn B W0 (W.setCell ⟨g, k, none⟩ u) N vd mem vi vo vc m := by
  have hs := Shape.setCell W g k u
  refine ⟨h.below.setCell (p := ⟨g, k, none⟩) hB u, block_other h.box (fun e => ?_) u, h.new, h.dims.shape hs, ?_, h.code.shape hs⟩
  · subst e
    have := hg.symm.trans h.box
    injection this with this
    injection this with _ e2
    exact h1 e2
  · obtain ⟨cs, h3, h4⟩ := h.slots
    refine ⟨cs, own_keep h3 (KeepTy.setCell (p := ⟨g, k, none⟩) (NotTy.of hg h2) u), fun i hi => ?_⟩
    obtain ⟨v, h5, h6⟩ := h4 i hi
    exact ⟨v, h5, h6.shape hs⟩
theorem cs_sides {B : Nat} {w : World} : ∀ {xs : List Slo} {cs : List Value}, (slotO B).Cs w cs xs → ∀ i, (hi : i < xs.length) → ∃ v, cs[i * 2 + 1]? = some v ∧ RowI B w v xs[i].sides := by
  intro xs cs h i hi
  obtain ⟨ds, ⟨v, rfl, h1, _⟩, h2⟩ := h.at i hi
  exact ⟨v, h2 1 v rfl, h1⟩
theorem NewIn.new0 {B : Nat} {W0 W : World} {N : Nat} {vd vi vo vc : Value} {m : Img} {mem : Int} (hb : Below B W0 W) (hbox : BoxI W N vd mem vi vo vc) (hN : B ≤ N) (h : ImgOwn B W vd vi vo vc m) : NewIn B W0 W N vd mem vi vo vc m := by
  obtain ⟨h1, ⟨cs, h2, h3⟩, -, h4⟩ := h
  refine ⟨hb, hbox, hN, by have := Wr.own h1; rwa [Nat.mul_one] at this, ⟨cs, h2, fun i hi => ?_⟩, Wr.own h4⟩
  obtain ⟨v, h5, h6⟩ := cs_sides h3 i hi
  exact ⟨v, h5, by have := Wr.own h6; rwa [Nat.mul_one] at this⟩
/-- the i-th slot's sides, as a slice in its cell -/
theorem NewIn.slot {B : Nat} {W0 W : World} {N : Nat} {vd vo vc : Value} {mem : Int} {m : Img} {a : Option Addr} {n c : Nat} (h : NewIn B W0 W N vd mem (.slice a n c) vo vc m) {i : Nat} (hi : i < m.ins.length) :
    ∃ g a2 c2, m.ins[i].sides.length ≤ maxLen ∧ a = some ⟨g, 0, none⟩ ∧ W.cell? ⟨g, i * 2 + 1, none⟩ = some (.slice a2 m.ins[i].sides.length c2) ∧ ∀ k, k < m.ins[i].sides.length → ∃ g2 cur, a2 = some ⟨g2, 0, none⟩ ∧ B ≤ g2 ∧ W.heap[g2]? = some (Obj.cells cur 2 (0, 0)) ∧ k < cur.size := by
  obtain ⟨cs, h3, h4⟩ := h.slots
  obtain ⟨v, h5, h6, a2, c2, rfl, h7⟩ := h4 i hi
  obtain ⟨h8, ⟨hv, hn⟩ | ⟨g, cap, cur, hv, hB, hg, hnc, hcm, hcs, ht⟩⟩ := h3
  · omega
  · simp only [Value.slice.injEq] at hv
    refine ⟨g, a2, c2, h6, hv.1, ?_, h7⟩
    rw [cell_of_row W g _ _ _ _ hg, ← Array.getElem?_toList]
    rw [← ht, List.getElem?_take] at h5
    split at h5
    · exact h5
    · cases h5
theorem RowU.lowB {B1 B : Nat} {w w' : World} {v : Value} {xs : List Int} (h : RowU B1 w v xs) (hlt : ∀ g, v.ownBlock = some g → g < B) (hb : Below B w w') : RowU B1 w' v xs := by
  obtain ⟨h1, h2 | ⟨g, cap, cur, rfl, hb', hg, h3⟩⟩ := h
  · exact ⟨h1, .inl h2⟩
  · exact ⟨h1, .inr ⟨g, cap, cur, rfl, hb', (hb.block g (hlt g rfl)).trans hg, h3⟩⟩
theorem BoxI.lowB {B : Nat} {W W' : World} {X : Nat} {vd vi vo vc : Value} {mem : Int} (h : BoxI W X vd mem vi vo vc) (hX : X < B) (hb : Below B W W') : BoxI W' X vd mem vi vo vc := (hb.block X hX).trans h
theorem RowU.blk {B : Nat} {w : World} {v : Value} {xs : List Int} (h : RowU B w v xs) : ∀ g, v.ownBlock = some g → g < w.heap.size := by
  obtain ⟨h1, ⟨rfl, _⟩ | ⟨g, cap, cur, rfl, hb', hg, h3⟩⟩ := h
  · intro g e; cases e
  · intro g' e; cases e; exact (Array.getElem?_eq_some_iff.1 hg).1
/-- while the written bytes are wiped out -/
structure Wipe (w : World) (B0 B M N g1 L : Nat) (vd vi vo vc ud ui uo uc vb : Value) (m : Img) (l : List Int) (W : World) : Prop where
  below : Below w.heap.size w W
  bm : BoxI W M vd m.mem vi vo vc
  bn : BoxI W N ud m.mem ui uo uc
  own : ImgOwn B W ud ui uo uc m
  b : RowU B0 W vb l
  a : ∃ cur, W.heap[g1]? = some (Obj.cells cur 5 (0, 0)) ∧ L ≤ cur.size
theorem Wipe.put {w : World} {B0 B M N g1 L : Nat} {vd vi vo vc ud ui uo uc vb : Value} {m : Img} {l : List Int} {W : World} (h : Wipe w B0 B M N g1 L vd vi vo vc ud ui uo uc vb m l W) (hg : w.heap.size ≤ g1) (hg0 : g1 < B0) (k : Nat) (u : Value) :
    Wipe w B0 B M N g1 L vd vi vo vc ud ui uo uc vb m l (W.setCell ⟨g1, k, none⟩ u) := by
  obtain ⟨cur, ha, hL⟩ := h.a
  have hk : ∀ {t : TypeId}, 5 ≠ t → KeepTy t W (W.setCell ⟨g1, k, none⟩ u) := fun hne => KeepTy.setCell (p := ⟨g1, k, none⟩) (NotTy.of ha hne) u
  have hbx : ∀ {X : Nat} {cs : Array Value}, W.heap[X]? = some (.cells cs 26 (0, 0)) → g1 ≠ X := fun hX e => by
    subst e
    have := ha.symm.trans hX
    injection this with this
    injection this with _ e2
    exact absurd e2 (by decide)
  refine ⟨h.below.setCell (p := ⟨g1, k, none⟩) hg u, block_other h.bm (hbx h.bm) u, block_other h.bn (hbx h.bn) u, h.own.keep (hk (by decide)) (hk (by decide)) (hk (by decide)), ?_, ?_⟩
  · obtain ⟨h1, h2 | ⟨g, cap, cur', rfl, hb', hg', h3⟩⟩ := h.b
    · exact ⟨h1, .inl h2⟩
    · exact ⟨h1, .inr ⟨g, cap, cur', rfl, hb', block_other hg' (by show g1 ≠ g; omega) u, h3⟩⟩
  · exact ⟨_, heap_setCell_same W g1 k _ _ _ ha, by simpa using hL⟩
end Go.Proofs.Ytiogopichcnihaa
