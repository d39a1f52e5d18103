import Derived.Test.YtiogopichcnihaaBase0
namespace Go.Proofs.Ytiogopichcnihaa
set_option maxRecDepth 100000
open Go.RowKit

/-! A region that draws its order, that only reads what w has, and whose callees make memory and turn nothing of w's: walked once. -/
theorem keepCell {W w1 : World} {p : Addr} {v : Value} (hb : Below W.heap.size W w1) (h : W.cell? p = some v) : w1.cell? p = some v := (hb.cell (World.block_lt_of_cell? W _ h)).trans h

structure BelowW (w : World) where
  world : World
  below : Below w.heap.size w world
instance belowWInhabited (w : World) : Inhabited (BelowW w) := ⟨⟨w, Below.refl _ _⟩⟩
theorem wp_region_below {P : Program} {id : Nat} {Q : Exit → Act → World → Prop} {a : Act} {w : World} {l : List Oper} (hm : P.follows .mixedOrders = true) (hB : Region.lexB .any l.toArray = true)
    (h : wpQuiet P l.toArray (fun w' => ∃ p : BelowW w, w' = p.world) (fun a' => ∀ w', (∃ p : BelowW w, w' = p.world) → Q .normal a' w') l a) : (Code.region id l.toArray true).wp P Q a w :=
  wp_region_quiet (C := fun w' => ∃ p : BelowW w, w' = p.world) hm hB ⟨⟨w.drew, (Below.refl _ _).drew⟩, rfl⟩ (by simpa using h)
theorem cellBW {w : World} {a : Addr} {v : Value} (h : w.cell? a = some v) (p : BelowW w) : p.world.cell? a = some v := keepCell p.below h
theorem callsBW {P : Program} {f : FuncId} {args : Array Value} {w : World} {v : Value} {p : BelowW w}
    (h : Calls P f args p.world fun e w' => e = .returned v ∧ Below p.world.heap.size p.world w') : Calls P f args p.world fun e w'' => e = .returned v ∧ ∃ q : BelowW w, w'' = q.world :=
  h.mono fun _ w' ⟨he, hq⟩ => ⟨he, ⟨w', bNext hq p.below⟩, rfl⟩
end Go.Proofs.Ytiogopichcnihaa
