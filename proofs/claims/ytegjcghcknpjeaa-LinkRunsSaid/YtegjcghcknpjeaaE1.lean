import Derived.Test.YtegjcghcknpjeaaIns
import Derived.Test.YtegjcghcknpjeaaV6
import Derived.Test.YtegjcghcknpjeaaRows1
import Derived.Test.YtegjcghcknpjeaaQB
namespace Go.Proofs.Ytegjcghcknpjeaa
open Go.RowKit

/-! The machine's state, in plain lists, and in memory. -/
structure St where
  regs : List Int
  mem : List Int
  pc : Int
  fin : Int
  told : Int
theorem St.ext' {x y : St} (h0 : x.regs = y.regs) (h1 : x.mem = y.mem) (h2 : x.pc = y.pc) (h3 : x.fin = y.fin) (h4 : x.told = y.told) : x = y := by cases x; cases y; simp_all
structure St.wf (s : St) : Prop where
  len : s.regs.length = 16
  regs : ∀ x ∈ s.regs, In64 x
  mem : ∀ x ∈ s.mem, In64 x
  pc : In64 s.pc
  fin : In64 s.fin
  told : -2147483648 ≤ s.told ∧ s.told ≤ 2147483647
def St.R (s : St) (i : Int) : Int := s.regs.getD i.toNat 0
def St.setR (s : St) (i : Int) (x : Int) : St := { s with regs := s.regs.set i.toNat x }
def low32 (x : Int) : Int := if x < 0 then x + 4294967296 else x
def stepI (i : Ins) (s : St) : St × Bool :=
  if i.op = 0 then ({ s with fin := 1 }, false)
  else if i.op = 1 then ({ s with fin := 2, told := i.imm }, false)
  else if i.op = 2 then ({ s.setR i.a i.imm with pc := s.pc + 1 }, true)
  else if i.op = 3 then ({ s.setR i.a (wrap64 (s.R i.a * 4294967296 + low32 i.imm)) with pc := s.pc + 1 }, true)
  else if i.op = 4 then ({ s.setR i.a (s.R i.b) with pc := s.pc + 1 }, true)
  else if i.op = 10 then ({ s.setR i.a (wrap64 (s.R i.b + i.imm)) with pc := s.pc + 1 }, true)
  else if i.op = 5 then
    if 0 ≤ wrap64 (s.R i.b + i.imm) ∧ wrap64 (s.R i.b + i.imm) < s.mem.length then ({ s.setR i.a (s.mem.getD (wrap64 (s.R i.b + i.imm)).toNat 0) with pc := s.pc + 1 }, true) else ({ s with fin := 3 }, false)
  else if i.op = 6 then
    if 0 ≤ wrap64 (s.R i.b + i.imm) ∧ wrap64 (s.R i.b + i.imm) < s.mem.length then ({ s with mem := s.mem.set (wrap64 (s.R i.b + i.imm)).toNat (s.R i.a), pc := s.pc + 1 }, true) else ({ s with fin := 3 }, false)
  else if i.op = 7 then ({ s with pc := i.imm }, true)
  else if i.op = 8 then (if s.R i.a < s.R i.b then ({ s with pc := i.imm }, true) else ({ s with pc := s.pc + 1 }, true))
  else if i.op = 9 then (if s.R i.a = 0 then ({ s with pc := i.imm }, true) else ({ s with pc := s.pc + 1 }, true))
  else if (if 128 ≤ i.op then dyadF (i.op - 128) (s.R i.b) (s.R i.c) else monadF (i.op - 64) (s.R i.b)).2 = 0 then
    ({ s.setR i.a (if 128 ≤ i.op then dyadF (i.op - 128) (s.R i.b) (s.R i.c) else monadF (i.op - 64) (s.R i.b)).1 with pc := s.pc + 1 }, true)
  else ({ s with fin := 4 }, false)
/-- one step of a run of right code -/
def mstepS (code : List Ins) (s : St) : St × Bool := if h : 0 ≤ s.pc ∧ s.pc < code.length then stepI (code[s.pc.toNat]'(by omega)) s else ({ s with fin := 5 }, false)
/-- .. of whatever code -/
def rstepS (code : List Ins) (s : St) : St := if h : 0 ≤ s.pc ∧ s.pc < code.length then (if (code[s.pc.toNat]'(by omega)).right then (stepI (code[s.pc.toNat]'(by omega)) s).1 else { s with fin := 5 }) else { s with fin := 5 }

def cellsSt (v : Value) (s : St) : List Value := s.regs.map (Value.int .i64) ++ [v, .int .i64 s.pc, .int .i64 s.fin, .int .i32 s.told]
section
variable {v cv : Value} {s : St} (h : s.regs.length = 16)
include h
theorem cellsSt_len : (cellsSt v s).length = 20 := by unfold cellsSt; simp [h]
theorem cellsSt_reg {i : Nat} (hi : i < 16) : (cellsSt v s)[i]? = some (.int .i64 (s.R (i : Int))) := by
  unfold cellsSt St.R
  rw [List.getElem?_append_left (by simpa [h] using hi), List.getElem?_map, List.getElem?_eq_getElem (by omega)]
  simp [List.getD_eq_getElem?_getD, List.getElem?_eq_getElem (show i < s.regs.length by omega)]
theorem cellsSt_16 : (cellsSt v s)[16]? = some v ∧ (cellsSt v s)[17]? = some (.int .i64 s.pc) ∧ (cellsSt v s)[18]? = some (.int .i64 s.fin) ∧ (cellsSt v s)[19]? = some (.int .i32 s.told) := by
  unfold cellsSt
  refine ⟨?_, ?_, ?_, ?_⟩ <;> rw [List.getElem?_append_right (by simp [h])] <;> simp [h]
theorem cellsSt_setR {i : Nat} (hi : i < 16) (x : Int) : (cellsSt v s).set i (.int .i64 x) = cellsSt v (s.setR (i : Int) x) := by
  unfold cellsSt St.setR
  rw [List.set_append_left _ _ (by simpa [h] using hi)]
  simp [List.map_set]
theorem cellsSt_pc (x : Int) : (cellsSt v s).set 17 (.int .i64 x) = cellsSt v { s with pc := x } := by
  unfold cellsSt
  rw [List.set_append_right _ _ (by simp [h])]
  simp [h]
theorem cellsSt_fin (x : Int) : (cellsSt v s).set 18 (.int .i64 x) = cellsSt v { s with fin := x } := by
  unfold cellsSt
  rw [List.set_append_right _ _ (by simp [h])]
  simp [h]
theorem cellsSt_told (x : Int) : (cellsSt v s).set 19 (.int .i32 x) = cellsSt v { s with told := x } := by
  unfold cellsSt
  rw [List.set_append_right _ _ (by simp [h])]
  simp [h]
theorem cellsSt_mem (u : Value) : (cellsSt v s).set 16 u = cellsSt u s := by
  unfold cellsSt
  rw [List.set_append_right _ _ (by simp [h])]
  simp [h]
end
theorem cellsSt_one {v : Value} (hv : v.oneCell' = true) (s : St) : ∀ u ∈ cellsSt v s, u.oneCell' = true := by
  intro u hu
  unfold cellsSt at hu
  rcases List.mem_append.1 hu with h | h
  · obtain ⟨x, _, rfl⟩ := List.mem_map.1 h; rfl
  · simp at h
    rcases h with rfl | rfl | rfl | rfl <;> first | exact hv | rfl

/-- A state in a block of its own, with more cells behind (the machine has its code there). -/
def StB (w : World) (g : Nat) (t : TypeId) (v : Value) (more : List Value) (s : St) : Prop := w.heap[g]? = some (.cells (cellsSt v s ++ more).toArray t (0, 0)) ∧ s.regs.length = 16
section
variable {w : World} {g : Nat} {t : TypeId} {v : Value} {more : List Value} {s : St} (h : StB w g t v more s)
include h
theorem StB.lt : g < w.heap.size := block_lt h.1
theorem StB.frozen (j : Nat) : w.frozen? ⟨g, j, none⟩ = false := frozen_of_row w g j _ _ h.1
theorem StB.at {j : Nat} (hj : j < 20) : w.cell? ⟨g, j, none⟩ = (cellsSt v s)[j]? := by
  rw [cell_of_row w g j _ _ _ h.1]
  simp only [List.getElem?_toArray]
  rw [List.getElem?_append_left (by rw [cellsSt_len h.2]; exact hj)]
theorem StB.reg {i : Nat} (hi : i < 16) : w.cell? ⟨g, i, none⟩ = some (.int .i64 (s.R (i : Int))) := by rw [h.at (by omega), cellsSt_reg h.2 hi]
theorem StB.memv : w.cell? ⟨g, 16, none⟩ = some v := by rw [h.at (by omega), (cellsSt_16 h.2).1]
theorem StB.pc : w.cell? ⟨g, 17, none⟩ = some (.int .i64 s.pc) := by rw [h.at (by omega), (cellsSt_16 h.2).2.1]
theorem StB.fin : w.cell? ⟨g, 18, none⟩ = some (.int .i64 s.fin) := by rw [h.at (by omega), (cellsSt_16 h.2).2.2.1]
theorem StB.told : w.cell? ⟨g, 19, none⟩ = some (.int .i32 s.told) := by rw [h.at (by omega), (cellsSt_16 h.2).2.2.2]
theorem StB.rest (j : Nat) : w.cell? ⟨g, 20 + j, none⟩ = more[j]? := by
  rw [cell_of_row w g _ _ _ _ h.1]
  simp only [List.getElem?_toArray]
  rw [List.getElem?_append_right (by rw [cellsSt_len h.2]; omega), cellsSt_len h.2]
  congr 1
  omega
theorem StB.set {j : Nat} (hj : j < 20) (u : Value) {s' : St} {v' : Value} (he : (cellsSt v s).set j u = cellsSt v' s') (hl : s'.regs.length = 16) : StB (w.setCell ⟨g, j, none⟩ u) g t v' more s' := by
  refine ⟨?_, hl⟩
  rw [heap_setCell_same w g j _ _ _ h.1]
  congr 2
  simp only [List.setIfInBounds_toArray]
  rw [List.set_append_left _ _ (by rw [cellsSt_len h.2]; exact hj), he]
theorem StB.setR {i : Nat} (hi : i < 16) (x : Int) : StB (w.setCell ⟨g, i, none⟩ (.int .i64 x)) g t v more (s.setR (i : Int) x) := h.set (by omega) _ (cellsSt_setR h.2 hi x) (by unfold St.setR; simpa using h.2)
theorem StB.setPc (x : Int) : StB (w.setCell ⟨g, 17, none⟩ (.int .i64 x)) g t v more { s with pc := x } := h.set (by omega) _ (cellsSt_pc h.2 x) h.2
theorem StB.setFin (x : Int) : StB (w.setCell ⟨g, 18, none⟩ (.int .i64 x)) g t v more { s with fin := x } := h.set (by omega) _ (cellsSt_fin h.2 x) h.2
theorem StB.setTold (x : Int) : StB (w.setCell ⟨g, 19, none⟩ (.int .i32 x)) g t v more { s with told := x } := h.set (by omega) _ (cellsSt_told h.2 x) h.2
theorem StB.setMem (u : Value) : StB (w.setCell ⟨g, 16, none⟩ u) g t u more s := h.set (by omega) _ (cellsSt_mem h.2 u) h.2
theorem StB.other {p : Addr} (hp : p.block ≠ g) (u : Value) : StB (w.setCell p u) g t v more s := ⟨block_other h.1 hp u, h.2⟩
theorem StB.below {w' : World} (hb : Below w.heap.size w w') : StB w' g t v more s := ⟨block_below h.1 hb, h.2⟩
theorem StB.alloc (o : Obj) : StB (w.alloc o) g t v more s := ⟨block_alloc h.1 o, h.2⟩
theorem StB.drewN (n : Nat) : StB (w.drewN n) g t v more s := h
theorem StB.kept {w' : World} {S : Nat → Prop} (hk : KB S w w') (hs : ¬ S g) : StB w' g t v more s := ⟨(hk.block g h.lt hs).trans h.1, h.2⟩
theorem StB.grown {w' : World} {row : Option Nat} (hg : w.grownBy w' row) (hne : row ≠ some g) : StB w' g t v more s := ⟨block_grown h.1 hg hne, h.2⟩
end
/-- the machine's cells -/
def MemR (B : Nat) (w : World) (v : Value) (l : List Int) : Prop := w.ownsRow B 2 1 v l.length (l.map (Value.int .i64))
theorem MemR.form {B : Nat} {w : World} {v : Value} {l : List Int} (h : MemR B w v l) : ∃ a c, v = .slice a l.length c ∧ l.length ≤ 9223372036854775807 := by
  rcases h.2 with ⟨e, h0⟩ | ⟨g, cap, cur, e, _, _, h1, h2, _⟩
  · rw [h0]; exact ⟨_, _, e, by omega⟩
  · unfold maxLen at h2; exact ⟨_, _, e, by omega⟩
theorem MemR.at {B : Nat} {w : World} {v : Value} {l : List Int} (h : MemR B w v l) {k : Nat} (hk : k < l.length) : ∃ g c, v = .slice (some ⟨g, 0, none⟩) l.length c ∧ B ≤ g ∧ g < w.heap.size ∧ w.cell? ⟨g, k, none⟩ = some (.int .i64 (l.getD k 0)) ∧ w.frozen? ⟨g, k, none⟩ = false ∧
    ∀ x, MemR B (w.setCell ⟨g, k, none⟩ (.int .i64 x)) v (l.set k x) := by
  rcases h.2 with ⟨e, h0⟩ | ⟨g, cap, cur, e, hb, hg, h1, h2, h3, h4⟩
  · omega
  · subst e
    refine ⟨g, cap, rfl, hb, block_lt hg, ?_, World.ownsRow.frozenAt h k, fun x => ?_⟩
    · rw [World.ownsRow.cellAt h k (by omega), List.getElem?_map, List.getElem?_eq_getElem hk]
      simp [List.getD_eq_getElem?_getD, List.getElem?_eq_getElem hk]
    · have := (World.ownsRow.stored h k (.int .i64 x)).1
      unfold MemR
      rw [List.length_set, List.map_set]
      exact this
theorem ite_pred {α : Type} {p : α → Prop} {c : Prop} [Decidable c] {a b : α} (ha : p a) (hb : p b) : p (if c then a else b) := by split <;> assumption
theorem stepI_len (i : Ins) {s : St} (h : s.regs.length = 16) : (stepI i s).1.regs.length = 16 := by
  show (fun r : St × Bool => r.1.regs.length = 16) (stepI i s)
  unfold stepI
  repeat' (apply ite_pred (p := fun r : St × Bool => r.1.regs.length = 16))
  all_goals first | exact h | (unfold St.setR; simpa using h)
end Go.Proofs.Ytegjcghcknpjeaa
