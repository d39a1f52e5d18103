import Derived.Test.YtegjcghcknpjeaaE8
import Derived.Deep.DeepCutAuto
import Derived.Deep.CutBlock
import Derived.Laws.Rows
import Derived.Laws.Tables
namespace Go.Proofs.Ytegjcghcknpjeaa
open Go.RowKit

/-- a world by what is known of it -/
theorem gen_world {P : Program} {c : Code} {Q : Exit → Act → World → Prop} {a : Act} {w0 : World} (F : World → Prop) (h0 : F w0) (h : ∀ W, F W → c.wp P Q a W) : c.wp P Q a w0 := h w0 h0
theorem gen_list {P : Program} {ops : Array Oper} {Q : Exit → Act → World → Prop} {l : List Oper} {a : Act} {w0 : World} (F : World → Prop) (h0 : F w0) (h : ∀ W, F W → wpList P ops Q l a W) : wpList P ops Q l a w0 := h w0 h0
/-- A whole struct stored into a block of the call's own. -/
theorem wpList_store_whole {P : Program} {ops : Array Oper} {rest : List Oper} {o : Oper} {a : Act} {w : World} {Q : Exit → Act → World → Prop} (hgd : o.guard = none) (ty : TypeId) (x y : Operand) (ho : o.op = .store ty x y)
    (g : Nat) (hx : a.eval x = .pointer (some ⟨g, 0, none⟩)) (c c' : Array Value) (hy : a.eval y = .agg c') (t : TypeId) (hg : w.heap[g]? = some (.cells c t (0, 0))) (hi : (P.info? ty).map (·.size) = some c'.size) (hs : c.size = c'.size) (h1 : ∀ v ∈ c'.toList, v.oneCell' = true)
    (h : ∀ w', w'.heap[g]? = some (.cells c' t (0, 0)) → w.grownBy w' (some g) → wpList P ops Q rest (a.put o.dst undef) w') : wpList P ops Q (o :: rest) a w := by
  refine wpList_plain hgd fun _ hK => ?_
  have hall : c'.all (·.oneCell') = true := Array.all_eq_true_iff_forall_mem.2 (fun v hv => h1 v (by simpa using hv))
  unfold Oper.wp execOp
  simp only [ho, hx, hy, Instr.storeAt, Instr.sureAddr, Sem.run_bind, Sem.run_pure, Result.andThen_ok, run_storeVar_row (P := P) w g t ty c c' hg hi hs hall]
  exact hK _ _ (h _ (setRow_heap w g _ _ t _ hg) ⟨rfl, rfl, rfl, by simp [World.setRow], fun j _ hj => setRow_other w g j _ (fun e => hj (by rw [e]))⟩)

theorem Try.sizeSt : (Try.prog.info? 47).map (·.size) = some 20 := by kernel_rfl
theorem StB.new (w : World) (v : Value) (s : St) (t : TypeId) (h : s.regs.length = 16) : StB (w.alloc (.cells (cellsSt v s).toArray t)) w.heap.size t v [] s := ⟨by rw [List.append_nil]; exact World.alloc_heap_new w _, h⟩

/-- the state that a call has taken in by value: its block x; where the answer will lie: its block r -/
structure RIn (w W : World) (x r B : Nat) (am : Option Addr) (cm : Nat) (ca : Option Addr) (code : List Ins) (n : Nat) (s : St) : Prop where
  st : StB W x 47 (.slice am n cm) [] s
  res : ∃ c, c.size = 20 ∧ W.heap[r]? = some (.cells c 47 (0, 0))
  mem : MemR B W (.slice am n cm) s.mem
  codeE : insRep.Els W ca code
  kb : KB (fun b => (Value.slice am n cm).ownBlock = some b) w W
  ne : x ≠ r
  apart : ∀ k, (Value.slice am n cm).ownBlock = some k → k ≠ x ∧ k ≠ r
  old : w.heap.size ≤ x ∧ w.heap.size ≤ r
section
variable {w W : World} {x r B : Nat} {am : Option Addr} {cm : Nat} {ca : Option Addr} {code : List Ins} {n : Nat} {s : St} (h : RIn w W x r B am cm ca code n s)
include h
theorem RIn.below {W' : World} (hb : Below W.heap.size W W') : RIn w W' x r B am cm ca code n s :=
  ⟨h.st.below hb, let ⟨c, h1, h2⟩ := h.res; ⟨c, h1, block_below h2 hb⟩, own_below h.mem hb, h.codeE.below insRep hb (Nat.le_refl _), h.kb.then_below hb (fun g hg hl => absurd (Nat.lt_of_lt_of_le hl h.kb.size) (by omega)), h.ne, h.apart, h.old⟩
theorem RIn.alloc (o : Obj) : RIn w (W.alloc o) x r B am cm ca code n s := h.below ((Below.refl _ _).alloc (Nat.le_refl _) o)
theorem RIn.drewN (k : Nat) : RIn w (W.drewN k) x r B am cm ca code n s := h.below (Below.drewN _ k)
theorem RIn.row : W.heap[x]? = some (.cells (cellsSt (.slice am n cm) s).toArray 47 (0, 0)) := by have := h.st.1; rwa [List.append_nil] at this
theorem RIn.out {W' : World} (hg : W.grownBy W' (some r)) : MemR B W' (.slice am n cm) s.mem ∧ KB (fun b => (Value.slice am n cm).ownBlock = some b) w W' :=
  ⟨World.ownsRow.kept h.mem hg (by
    cases hv : (Value.slice am n cm).ownBlock with
    | none => exact .inl rfl
    | some k => exact .inr (fun e => (h.apart k hv).2 (by cases e; rfl))), h.kb.grown hg (fun k e hl => by cases e; exact absurd hl (by have := h.old.2; omega))⟩
/-- a cell of the state's block is set -/
theorem RIn.set {j : Nat} {u : Value} {s' : St} (hs : StB (W.setCell ⟨x, j, none⟩ u) x 47 (.slice am n cm) [] s') (hm : s'.mem = s.mem) (hc : ∀ b off, ca = some ⟨b, off, none⟩ → b ≠ x) : RIn w (W.setCell ⟨x, j, none⟩ u) x r B am cm ca code n s' :=
  ⟨hs, let ⟨c, h1, h2⟩ := h.res; ⟨c, h1, block_other h2 h.ne u⟩, by rw [hm]; exact own_other (p := ⟨x, j, none⟩) h.mem (fun g hg => (h.apart g hg).1) u, fun i hi => by
    obtain ⟨b, off, cs, e, h1, h2⟩ := h.codeE i hi
    exact ⟨b, off, cs, e, h1, fun q v hq => (World.cell?_of_block (w := W) (Below.heap_setCell W ⟨x, j, none⟩ u b (hc b off e))).trans (h2 q v hq)⟩,
   h.kb.setCell (p := ⟨x, j, none⟩) (fun hl => by exact absurd hl (by have := h.old.1; show ¬ x < w.heap.size; omega)) u, h.ne, h.apart, h.old⟩
variable (hc : ∀ b off, ca = some ⟨b, off, none⟩ → b ≠ x)
include hc
theorem RIn.setR {i : Nat} (hi : i < 16) (y : Int) : RIn w (W.setCell ⟨x, i, none⟩ (.int .i64 y)) x r B am cm ca code n (s.setR (i : Int) y) := h.set (h.st.setR hi y) rfl hc
theorem RIn.setPc (y : Int) : RIn w (W.setCell ⟨x, 17, none⟩ (.int .i64 y)) x r B am cm ca code n { s with pc := y } := h.set (h.st.setPc y) rfl hc
theorem RIn.setFin (y : Int) : RIn w (W.setCell ⟨x, 18, none⟩ (.int .i64 y)) x r B am cm ca code n { s with fin := y } := h.set (h.st.setFin y) rfl hc
theorem RIn.setTold (y : Int) : RIn w (W.setCell ⟨x, 19, none⟩ (.int .i32 y)) x r B am cm ca code n { s with told := y } := h.set (h.st.setTold y) rfl hc
end
theorem RIn.setMem {w W : World} {x r B : Nat} {cm : Nat} {ca : Option Addr} {code : List Ins} {n : Nat} {s : St} {G : Nat} (h : RIn w W x r B (some ⟨G, 0, none⟩) cm ca code n s) (hn : n = s.mem.length) {q : Nat} (hq : q < s.mem.length) (hc : ∀ b off, ca = some ⟨b, off, none⟩ → b ≠ G) (y : Int) :
    RIn w (W.setCell ⟨G, q, none⟩ (.int .i64 y)) x r B (some ⟨G, 0, none⟩) cm ca code n { s with mem := s.mem.set q y } := by
  have hap := h.apart G rfl
  refine ⟨h.st.other (p := ⟨G, q, none⟩) hap.1 _, let ⟨c, h1, h2⟩ := h.res; ⟨c, h1, block_other h2 (p := ⟨G, q, none⟩) hap.2 _⟩, ?_, fun i hi => ?_, h.kb.setCell (p := ⟨G, q, none⟩) (fun _ => rfl) _, h.ne, h.apart, h.old⟩
  · subst hn
    obtain ⟨G', c', e, _, _, _, _, hs⟩ := MemR.at h.mem hq
    cases e
    exact hs y
  · obtain ⟨b, off, cs, e, h1, h2⟩ := h.codeE i hi
    exact ⟨b, off, cs, e, h1, fun j v hj => (World.cell?_of_block (w := W) (Below.heap_setCell W ⟨G, q, none⟩ _ b (hc b off e))).trans (h2 j v hj)⟩
/-- what the reference's step hands back -/
def ROut (B : Nat) (am : Option Addr) (cm n : Nat) (w : World) (s1 : St) (e : Ending) (w' : World) : Prop :=
  e = .returned (.agg (cellsSt (.slice am n cm) s1).toArray) ∧ MemR B w' (.slice am n cm) s1.mem ∧ KB (fun b => (Value.slice am n cm).ownBlock = some b) w w'
/-- the world behind the two blocks' making -/
theorem RIn.start {w : World} {B : Nat} {am : Option Addr} {cm : Nat} {ca : Option Addr} {code : List Ins} {s : St} (hl : s.regs.length = 16) (hm : MemR B w (.slice am s.mem.length cm) s.mem) (he : insRep.Els w ca code) (c : Array Value) (hc : c.size = 20) :
    RIn w ((w.alloc (.cells (cellsSt (.slice am s.mem.length cm) s).toArray 47)).alloc (.cells c 47)) w.heap.size (w.heap.size + 1) B am cm ca code s.mem.length s := by
  have hb : Below w.heap.size w ((w.alloc (.cells (cellsSt (.slice am s.mem.length cm) s).toArray 47)).alloc (.cells c 47)) := ((Below.refl _ _).alloc (Nat.le_refl _) _).alloc (by simp) _
  refine ⟨(StB.new w _ s _ hl).alloc _, ⟨c, hc, ?_⟩, own_below hm hb, he.below insRep hb (Nat.le_refl _), KB.of_below hb (fun g h1 h2 => by omega), by omega, fun k hk => ?_, by omega⟩
  · have := World.alloc_heap_new (w.alloc (.cells (cellsSt (.slice am s.mem.length cm) s).toArray 47)) (.cells c 47)
    rwa [show (w.alloc (.cells (cellsSt (.slice am s.mem.length cm) s).toArray 47)).heap.size = w.heap.size + 1 from by simp] at this
  · have := (World.ownsRow.lt hm k hk).2
    omega
end Go.Proofs.Ytegjcghcknpjeaa
