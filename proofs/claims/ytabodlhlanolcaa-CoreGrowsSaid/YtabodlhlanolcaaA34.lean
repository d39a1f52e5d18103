import Derived.Test.YtabodlhlanolcaaA33
namespace Go.Proofs.Ytabodlhlanolcaa
set_option maxRecDepth 100000
open Go.RowKit
set_option linter.unusedVariables false
set_option linter.unusedSimpArgs false

/-! A core's buffers, with one more of one number behind them, in memory. -/
theorem grow_more {w W5 w6 w7 : World} {mb n : Nat} {bufs : List Buf} {cs : List Value} {side : Int} {v1 v2 : Value} (hbw : Below w.heap.size w W5) (hmb : mb < W5.heap.size) (hmb0 : w.heap.size ≤ mb) (hcs : bufRep.Cs w cs bufs) (h6 : Below W5.heap.size W5 w6)
    (ho6 : w6.ownsRow W5.heap.size 36 2 v1 n cs) (hn : n = bufs.length) (hs : I64 side) (o3 : Obj)
    (hg : (((w6.alloc (.cells #[.int .i64 side, .int .u8 0, .int .u8 0, .int .u8 0, .int .u8 0, .int .u8 0, .int .u8 0] 39)).alloc (.cells #[.slice (some ⟨w6.heap.size, 0, none⟩) 1 1] 40)).alloc o3).grownBy w7 v1.ownBlock)
    (ho7 : w7.ownsRow W5.heap.size 36 2 v2 (n + 1) (cs ++ [.slice (some ⟨w6.heap.size + 1, 0, none⟩) 1 1, .int .i64 (-1)])) :
    Below W5.heap.size W5 w7 ∧ ∃ a2 c2, v2 = .slice a2 (n + 1) c2 ∧ bufRep.Els (w7.setCell ⟨mb, 1, none⟩ v2) a2 (bufs ++ [⟨[[monoC side]], -1⟩]) := by
  have n0 := World.alloc_heap_new w6 (.cells #[.int .i64 side, .int .u8 0, .int .u8 0, .int .u8 0, .int .u8 0, .int .u8 0, .int .u8 0] 39)
  have n1 := World.alloc_heap_new (w6.alloc (.cells #[.int .i64 side, .int .u8 0, .int .u8 0, .int .u8 0, .int .u8 0, .int .u8 0, .int .u8 0] 39)) (.cells #[.slice (some ⟨w6.heap.size, 0, none⟩) 1 1] 40)
  simp only [World.size_alloc] at n1
  have m0 := oldBlock (oldBlock n0 (.cells #[.slice (some ⟨w6.heap.size, 0, none⟩) 1 1] 40)) o3
  have m1 := oldBlock n1 o3
  have s6 := h6.size
  have lt := fun g e => World.ownsRow.lt ho6 g e
  have hb7 : Below W5.heap.size W5 w7 := (((h6.alloc s6 _).alloc (by simp; omega) _).alloc (by simp; omega) _).grown hg (by simp; omega) (fun j hj => (lt j hj).1)
  have k0 : w7.heap[w6.heap.size]? = _ := (hg.block _ (Array.getElem?_eq_some_iff.1 m0).1 (fun e => by have := (lt _ e.symm).2; omega)).trans m0
  have k1 : w7.heap[w6.heap.size + 1]? = _ := (hg.block _ (Array.getElem?_eq_some_iff.1 m1).1 (fun e => by have := (lt _ e.symm).2; omega)).trans m1
  have ho2 := own_other ho7 (p := ⟨mb, 1, none⟩) (fun g hg' e => by have := (World.ownsRow.lt ho7 g hg').1; dsimp only at e; omega) v2
  have j0 := block_other k0 (p := ⟨mb, 1, none⟩) (by dsimp only; omega) v2
  have j1 := block_other k1 (p := ⟨mb, 1, none⟩) (by dsimp only; omega) v2
  have hsl : polyRep.Sl (w7.setCell ⟨mb, 1, none⟩ v2) (.slice (some ⟨w6.heap.size + 1, 0, none⟩) 1 1) [[monoC side]] := by
    refine ⟨_, 1, rfl, Nat.le_refl _, by decide, (fun e => by cases e), Rep.lit_els (cs := [.slice (some ⟨w6.heap.size, 0, none⟩) 1 1]) j1 fun i hi => ?_⟩
    have : i = 0 := by simpa using hi
    subst this
    exact ⟨_, ⟨_, rfl, one_sl (m := monoC side) (monoC_wf hs) j0⟩, fun j v hj => by
      match j with
      | 0 => cases hj; rfl
      | j + 1 => cases hj⟩
  have hc2 : bufRep.Cs (w7.setCell ⟨mb, 1, none⟩ v2) (cs ++ [.slice (some ⟨w6.heap.size + 1, 0, none⟩) 1 1, .int .i64 (-1)]) (bufs ++ [⟨[[monoC side]], -1⟩]) :=
    Rep.Cs.append (Rep.Cs.single (R := bufRep) (x := (⟨[[monoC side]], -1⟩ : Buf)) ⟨_, rfl, hsl, by show (-9223372036854775808 : Int) ≤ -1; decide, by show (-1 : Int) ≤ 9223372036854775807; decide⟩) (hcs.keep ((bNext hb7 hbw).setCell (p := ⟨mb, 1, none⟩) hmb0 _))
  obtain ⟨a3, c3, e, h3⟩ := hc2.els (w := w7) ho2 (by simp [hn])
  exact ⟨hb7, a3, c3, e, h3⟩
end Go.Proofs.Ytabodlhlanolcaa
