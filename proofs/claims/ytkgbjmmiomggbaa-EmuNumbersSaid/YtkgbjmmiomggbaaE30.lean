import Derived.Test.YtkgbjmmiomggbaaE29
import Derived.DataShut
namespace Go.Proofs.Ytkgbjmmiomggbaa
open Go.RowKit
set_option linter.unusedVariables false

theorem wpList_load_rowW {P : Program} {ops : Array Oper} {rest : List Oper} {o : Oper} {a : Act} {w : World} {Q : Exit → Act → World → Prop} (hw : Region.wanted o (yielded ops a.tmps) = true) (ty : TypeId) (x : Operand) (ho : o.op = .load ty x)
    (g : Nat) (hx : a.eval x = .pointer (some ⟨g, 0, none⟩)) (t : TypeId) (cs : Array Value) (fr : Nat × Nat) (d : TypeDesc) (hg : w.heap[g]? = some (.cells cs t fr))
    (hu : P.underlying ty = some d) (hd : (match d with | .struct _ | .array _ _ => true | _ => false) = true) (hi : (P.info? ty).map (·.size) = some cs.size)
    (h : wpList P ops Q rest (a.put o.dst (.agg cs)) w) : wpList P ops Q (o :: rest) a w :=
  wpList_step fun K hK => by rw [if_pos hw]; exact wp_load_row ty x ho g hx t cs fr d hg hu hd hi (hK _ _ h)
/-- where a state lies -/
def InB (W : World) (z : Nat) (v : Value) (s : St) : Prop := StB W z 26 v [] s
theorem InB.row0 {w : World} {g : Nat} {v : Value} {s : St} (h : InB w g v s) : w.heap[g]? = some (.cells (cellsSt v s).toArray 26 (0, 0)) := StB.row0 h
theorem InB.below {w w' : World} {g : Nat} {v : Value} {s : St} (h : InB w g v s) (hb : Below w.heap.size w w') : InB w' g v s := StB.below h hb
/-- what follows a store of an answer: the block z is new -/
theorem new_state {w1 w2 : World} {o : Obj} {v : Value} {s : St} {z : Nat} (hz : w1.heap.size = z) (hl : s.regs.length = 16) (hr : w2.heap[z]? = some (.cells (cellsSt v s).toArray 26 (0, 0))) (hg : (w1.alloc o).grownBy w2 (some z)) : InB w2 z v s ∧ Below w1.heap.size w1 w2 := stored_state hz hl hr hg
theorem same_any' (w : World) (v u : Value) (s : St) (hl : s.wf) (hm : s.mem.length ≤ 9223372036854775806) (hx : IntSl w v s.mem) (hy : IntSl w u s.mem) :
    Calls Try.prog 14 #[.agg (cellsSt v s).toArray, .agg (cellsSt u s).toArray] w fun e w' => e = .returned (.bool true) ∧ Below w.heap.size w w' := by
  obtain ⟨a, c, rfl⟩ := hx.form
  obtain ⟨b, d, rfl⟩ := hy.form
  exact same_any w a b c d s hl.len hm hx.at.2 hy.at.2
/-- a state with other cells -/
def St.with (s : St) (l : List Int) : St := { s with mem := l }
theorem St.with_wf {s : St} (h : s.wf) {l : List Int} (hl : ∀ x ∈ l, In64 x) : (s.with l).wf := ⟨h.len, h.regs, hl, h.pc, h.fin, h.told⟩
theorem runI_memlen (code : List Ins) : ∀ (n : Nat) (s : St), (runI code n s).1.mem.length = s.mem.length
  | 0, s => rfl
  | n + 1, s => by
    rw [runI]
    split
    · exact (runI_memlen code n _).trans (mstepS_memlen code s)
    · exact mstepS_memlen code s
theorem RunS_small (code : List Ins) (mem : List Int) (most : Int) : (RunS code mem most).1.1.mem.length ≤ 9223372036854775806 := by
  unfold RunS
  split
  · rename_i hg
    have := (good_facts hg).2.1
    rw [runI_memlen]
    show mem.length ≤ _
    omega
  · simp [St0]
/-- a slice of numbers that does not lie in the block z -/
def SlOff (z : Nat) (w : World) (v : Value) (xs : List Int) : Prop := IntSl w v xs ∧ ∀ b off sp n c, v = .slice (some ⟨b, off, sp⟩) n c → 0 < xs.length → b ≠ z
theorem SlOff.old {z : Nat} {w : World} {v : Value} {xs : List Int} (h : IntSl w v xs) (hz : w.heap.size ≤ z) : SlOff z w v xs := ⟨h, fun b off sp n c e h0 => by
  subst e
  obtain ⟨_, hx⟩ := h.at
  obtain ⟨b', off', e, hc⟩ := hx 0 h0
  cases e
  have : b < w.heap.size := World.block_lt_of_cell? w _ hc
  omega⟩
theorem SlOff.own {z B : Nat} {w : World} {v : Value} {xs : List Int} (h : MemR B w v xs) (hx : ∀ x ∈ xs, In64 x) (hz : z < B) : SlOff z w v xs := ⟨h.sl hx, fun b off sp n c e h0 => by
  rcases h.2 with ⟨e1, h1⟩ | ⟨g, cap, cur, e1, hb, _⟩
  · omega
  · rw [e] at e1
    cases e1
    omega⟩
theorem SlOff.below {z : Nat} {w w' : World} {v : Value} {xs : List Int} (h : SlOff z w v xs) (hb : Below w.heap.size w w') : SlOff z w' v xs := ⟨h.1.below hb, h.2⟩
theorem SlOff.store {z : Nat} {w w' : World} {v : Value} {xs : List Int} (h : SlOff z w v xs) (hg : w.grownBy w' (some z)) : SlOff z w' v xs := by
  obtain ⟨⟨a, cap, e, h1, h2, h3, h4⟩, hne⟩ := h
  refine ⟨⟨a, cap, e, h1, h2, h3, fun i hi => ?_⟩, hne⟩
  obtain ⟨b, off, cs, ea, g1, g2⟩ := h4 i hi
  subst ea
  have hb : b ≠ z := hne b off none _ _ e (by omega)
  refine ⟨b, off, cs, rfl, g1, fun j u hj => ?_⟩
  have hc := g2 j u hj
  exact (World.cell?_of_block (w := w) (hg.block b (World.block_lt_of_cell? w _ hc) (fun e => hb (by cases e; rfl)))).trans hc
theorem SlOff.setCell {z : Nat} {w : World} {v : Value} {xs : List Int} (h : SlOff z w v xs) {o : Nat} (u : Value) : SlOff z (w.setCell ⟨z, o, none⟩ u) v xs := by
  obtain ⟨⟨a, cap, e, h1, h2, h3, h4⟩, hne⟩ := h
  refine ⟨⟨a, cap, e, h1, h2, h3, fun i hi => ?_⟩, hne⟩
  obtain ⟨b, off, cs, ea, g1, g2⟩ := h4 i hi
  subst ea
  have hb : b ≠ z := hne b off none _ _ e (by omega)
  exact ⟨b, off, cs, rfl, g1, fun j x hj => (World.cell?_of_block (w := w) (Below.heap_setCell w ⟨z, o, none⟩ u b hb)).trans (g2 j x hj)⟩
end Go.Proofs.Ytkgbjmmiomggbaa
