import Derived.Test.YtabodlhlanolcaaPB8
import Derived.Test.YtabodlhlanolcaaPB7
import Derived.OwnWalk
import Derived.Deep.DrawnRows
namespace Go.Proofs.Ytabodlhlanolcaa
set_option maxRecDepth 100000
open Go.RowKit
set_option linter.unusedVariables false
set_option linter.unusedSimpArgs false
attribute [local go_sem ↓] Go.wp_at_zero Go.wp_at_succ

theorem Try.infoBool : (Try.prog.info? 4).map (fun i => (i.zero, i.size, i.bytes)) = some (some (.bool false), 1, 1) := by kernel_rfl
structure RgIn (w W : World) (x : Nat) (vars : Int) (vb vs vo : Value) : Prop where
  below : Below w.heap.size w W
  c0 : W.cell? ⟨x, 0, none⟩ = some (.int .i64 vars)
  c1 : W.cell? ⟨x, 1, none⟩ = some vb
  c2 : W.cell? ⟨x, 2, none⟩ = some vs
  c3 : W.cell? ⟨x, 3, none⟩ = some vo
  hx : x < W.heap.size
theorem RgIn.next {w W W' : World} {x : Nat} {vars : Int} {vb vs vo : Value} (h : RgIn w W x vars vb vs vo) (hb : Below W.heap.size W W') : RgIn w W' x vars vb vs vo :=
  ⟨bNext hb h.below, keepCell hb h.c0, keepCell hb h.c1, keepCell hb h.c2, keepCell hb h.c3, Nat.lt_of_lt_of_le h.hx hb.size⟩
theorem rgIn_new (w : World) (vars : Int) (vb vs vo : Value) : RgIn w (w.alloc (.cells #[.int .i64 vars, vb, vs, vo] 26)) w.heap.size vars vb vs vo := by
  have n0 := World.alloc_heap_new w (.cells #[.int .i64 vars, vb, vs, vo] 26)
  have g0 := blockCells (cs := [.int .i64 vars, vb, vs, vo]) n0
  exact ⟨(Below.refl _ _).alloc (Nat.le_refl _) _, g0 0, g0 1, g0 2, g0 3, by simp⟩
theorem RgIn.set {w W : World} {x : Nat} {vars : Int} {vb vs vo : Value} (h : RgIn w W x vars vb vs vo) {p : Addr} (hp : w.heap.size ≤ p.block) (hx : ¬ p.block = x) (u : Value) : RgIn w (W.setCell p u) x vars vb vs vo := by
  have hk : KB (fun b => b = p.block) W (W.setCell p u) := (KB.refl (fun b => b = p.block) W).setCell (p := p) (fun _ => rfl) u
  have hn : ¬ x = p.block := fun e => hx e.symm
  exact ⟨h.below.setCell hp u, (hk.cell (p := ⟨x, 0, none⟩) h.hx hn).trans h.c0, (hk.cell (p := ⟨x, 1, none⟩) h.hx hn).trans h.c1, (hk.cell (p := ⟨x, 2, none⟩) h.hx hn).trans h.c2, (hk.cell (p := ⟨x, 3, none⟩) h.hx hn).trans h.c3, Nat.lt_of_lt_of_le h.hx hk.size⟩
/-- a buffer in a box of its own -/
structure BufIn (w W : World) (z : Nat) (v : Value) (inp : Int) : Prop where
  below : Below w.heap.size w W
  d0 : W.cell? ⟨z, 0, none⟩ = some v
  d1 : W.cell? ⟨z, 1, none⟩ = some (.int .i64 inp)
  hz : z < W.heap.size
theorem BufIn.next {w W W' : World} {z : Nat} {v : Value} {inp : Int} (h : BufIn w W z v inp) (hb : Below W.heap.size W W') : BufIn w W' z v inp :=
  ⟨bNext hb h.below, keepCell hb h.d0, keepCell hb h.d1, Nat.lt_of_lt_of_le h.hz hb.size⟩
theorem bufIn_new (w : World) (v : Value) (inp : Int) : BufIn w (w.alloc (.cells #[v, .int .i64 inp] 36)) w.heap.size v inp := by
  have g0 := blockCells (cs := [v, .int .i64 inp]) (World.alloc_heap_new w (.cells #[v, .int .i64 inp] 36))
  exact ⟨(Below.refl _ _).alloc (Nat.le_refl _) _, g0 0, g0 1, by simp⟩
end Go.Proofs.Ytabodlhlanolcaa
