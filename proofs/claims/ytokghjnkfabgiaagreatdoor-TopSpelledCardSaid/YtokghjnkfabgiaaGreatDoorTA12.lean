import Derived.Test.YtokghjnkfabgiaaGreatDoorTA10
import Derived.Deep.Slices
import Derived.Laws.CopyRow
namespace Go.Proofs.YtokghjnkfabgiaaGreatDoor
set_option maxRecDepth 100000
open Go.RowKit Go.ChangeShapes Go.WideShapes Go.Deep
set_option linter.unusedVariables false
set_option linter.unusedSimpArgs false

/-- How cells read as things of a type. -/
structure Rep (α : Type) where
  n : Nat
  At : World → List Value → α → Prop
  len : ∀ w cs x, At w cs x → cs.length = n
  keep : ∀ w w' cs x, At w cs x → Below w.heap.size w w' → At w' cs x
  one : ∀ w cs x, At w cs x → ∀ v ∈ cs, v.oneCell' = true

section
variable {α : Type} (R : Rep α)
/-- From address a on lie cells that read as xs. -/
def Rep.Els (w : World) (a : Option Addr) (xs : List α) : Prop :=
  ∀ i, (h : i < xs.length) → ∃ b off cs, a = some ⟨b, off, none⟩ ∧ R.At w cs xs[i] ∧ ∀ j v, cs[j]? = some v → w.cell? ⟨b, off + i * R.n + j, none⟩ = some v
/-- A slice that reads as xs. -/
def Rep.Sl (w : World) (v : Value) (xs : List α) : Prop := ∃ a cap, v = .slice a xs.length cap ∧ xs.length ≤ cap ∧ cap ≤ maxLen ∧ (a = none → cap = 0) ∧ R.Els w a xs
theorem Rep.Els.nil (w : World) (a : Option Addr) : R.Els w a [] := fun i h => absurd h (Nat.not_lt_zero i)
theorem Rep.Els.below {w w' : World} {a : Option Addr} {xs : List α} {B : Nat} (h : R.Els w a xs) (hb : Below B w w') (hB : w.heap.size ≤ B) : R.Els w' a xs := by
  intro i hi
  obtain ⟨b, off, cs, e, hc, hx⟩ := h i hi
  have hb' := hb.mono hB
  exact ⟨b, off, cs, e, R.keep _ _ _ _ hc hb', fun j v hj => (hb'.cell (p := ⟨b, off + i * R.n + j, none⟩) (World.block_lt_of_cell? w _ (hx j v hj))).trans (hx j v hj)⟩
theorem Rep.Sl.below {w w' : World} {v : Value} {xs : List α} {B : Nat} (h : R.Sl w v xs) (hb : Below B w w') (hB : w.heap.size ≤ B) : R.Sl w' v xs := by
  obtain ⟨a, cap, e, h1, h2, h4, h3⟩ := h
  exact ⟨a, cap, e, h1, h2, h4, h3.below R hb hB⟩
theorem Rep.Sl.nil (w : World) : R.Sl w (.slice none 0 0) [] := ⟨none, 0, rfl, Nat.le_refl _, Nat.zero_le _, fun _ => rfl, Rep.Els.nil R _ _⟩
/-- A slice, as one cell. -/
def Rep.slice : Rep (List α) where
  n := 1
  At w cs xs := ∃ v, cs = [v] ∧ R.Sl w v xs
  len := by rintro w cs x ⟨v, rfl, _⟩; rfl
  keep := by rintro w w' cs x ⟨v, rfl, h⟩ hb; exact ⟨v, rfl, h.below R hb (Nat.le_refl _)⟩
  one := by rintro w cs x ⟨v, rfl, a, cap, rfl, _⟩ u hu; cases List.mem_singleton.1 hu; rfl
/-- Things that are their cells, whatever the memory. -/
def Rep.flat (n : Nat) (enc : α → List Value) (wf : α → Prop) (hl : ∀ x, (enc x).length = n) (h1 : ∀ x, ∀ v ∈ enc x, v.oneCell' = true) : Rep α where
  n := n
  At _ cs x := cs = enc x ∧ wf x
  len := by rintro w cs x ⟨rfl, _⟩; exact hl x
  keep := by rintro w w' cs x h _; exact h
  one := by rintro w cs x ⟨rfl, _⟩; exact h1 x
end

/-- Numbers. -/
def Rep.int (k : IntKind) : Rep Int := Rep.flat 1 (fun x => [.int k x]) (fun x => (Lit.int k x).wf = true) (fun _ => rfl) (by intro x v hv; cases List.mem_singleton.1 hv; rfl)

section
variable {H : Type} {enc : TypeId × Value → H} {α : Type}
/-- Whatever reads as data of type t is a thing of R. -/
def Opens (t : TypeId) (R : Rep α) : Prop := Tryz.prog.cellsOf t = R.n ∧ ∀ {H : Type} {enc : TypeId × Value → H} {w : World} {base : Nat} {spare : Nat → Bool} {held : Bool} {m : Nat} {cs : List Value} {y : DataW H × List MemPlace},
  DataW.trod enc Tryz.prog w base spare held m t cs = some y → ∃ x, R.At w cs x
theorem opens_int {t : TypeId} {k : IntKind} (ht : Tryz.prog.underlying t = some (.int k)) (hc : Tryz.prog.cellsOf t = 1) : Opens t (Rep.int k) := ⟨hc, fun h => by
  obtain ⟨n, rfl, _, hw⟩ := DataW.trod_int ht h
  exact ⟨n, rfl, hw⟩⟩
theorem list_of {α : Type} {n : Nat} {p : Nat → α → Prop} (h : ∀ i, i < n → ∃ x, p i x) : ∃ l : List α, l.length = n ∧ ∀ i, (hi : i < l.length) → p i l[i] := by
  induction n with
  | zero => exact ⟨[], rfl, fun i hi => absurd hi (Nat.not_lt_zero i)⟩
  | succ n ih =>
    obtain ⟨l, hl, hp⟩ := ih (fun i hi => h i (Nat.lt_succ_of_lt hi))
    obtain ⟨x, hx⟩ := h n (Nat.lt_succ_self n)
    refine ⟨l ++ [x], by simp [hl], fun i hi => ?_⟩
    by_cases hin : i < l.length
    · rw [List.getElem_append_left hin]; exact hp i hin
    · have : i = l.length := by simp at hi; omega
      subst this
      rw [List.getElem_append_right (Nat.le_refl _)]
      simp only [Nat.sub_self, List.getElem_cons_zero]
      rw [hl]; exact hx
theorem opens_slice {t e : TypeId} {R : Rep α} (ht : Tryz.prog.underlying t = some (.slice e)) (hc : Tryz.prog.cellsOf t = 1) (hpos : 0 < Tryz.prog.cellsOf e) (he : Opens e R) : Opens t R.slice := ⟨hc, fun {H enc w base spare held m cs y} h => by
  rcases open_slice ht h with ⟨rfl, _⟩ | ⟨a, len, cap, m', n, D, Pl, rfl, hb, hl, hm, hmm, _, hx⟩
  · exact ⟨[], _, rfl, Rep.Sl.nil R _⟩
  · have hlm : len ≤ m' := by rw [hmm]; split <;> omega
    obtain ⟨xs, hxl, hxs⟩ := list_of (n := len) (p := fun i x => ∃ cs', w.cells? base (a.add (i * R.n)) R.n = some cs' ∧ R.At w cs' x) (fun i hi => by
      obtain ⟨cs', h1, h2⟩ := hx i (by omega)
      rw [he.1] at h1
      obtain ⟨x, h3⟩ := he.2 h2
      exact ⟨x, cs', h1, h3⟩)
    refine ⟨xs, _, rfl, some a, cap, by rw [hxl], by omega, hm, (fun e => by cases e), fun i hi => ?_⟩
    obtain ⟨cs', h1, h2⟩ := hxs i hi
    obtain ⟨_, hlen, hat⟩ := World.cells?_some h1
    obtain ⟨b, off, spot⟩ := a
    have hcell : ∀ j v, cs'[j]? = some v → w.cell? ((Addr.mk b off spot).add (i * R.n + j)) = some v := fun j v hj => by
      have hjl : j < R.n := by rw [← hlen]; exact (List.getElem?_eq_some_iff.1 hj).1
      have := hat j hjl
      rw [add_add] at this
      rw [this, hj]
    have hspot : spot = none := by
      obtain ⟨cs0, g1, g2⟩ := hxs 0 (by omega)
      obtain ⟨_, hlen0, hat0⟩ := World.cells?_some g1
      have h0 : 0 < R.n := by rw [← he.1]; exact hpos
      have hj : cs0[0]? = some (cs0[0]'(by omega)) := List.getElem?_eq_getElem (by omega)
      have h1 := hat0 0 h0
      rw [hj] at h1
      simpa [Addr.add] using World.cell?_spot h1
    subst hspot
    refine ⟨b, off, cs', rfl, h2, fun j v hj => ?_⟩
    have := hcell j v hj
    have e : (Addr.mk b off none).add (i * R.n + j) = ⟨b, off + i * R.n + j, none⟩ := by
      unfold Addr.add
      split
      · rename_i h; rw [show off + i * R.n + j = off from by omega]
      · rw [Nat.add_assoc]
    rwa [e] at this⟩
/-- An argument opened. -/
theorem opens_arg {t : TypeId} {R : Rep α} (he : Opens t R) (h1 : R.n = 1) {w : World} {base : Nat} {spare : Nat → Bool} {held : Bool} {v : Value} {d : DataW H} {p : List MemPlace} (hv : v.cells.toList = [v])
    (h : DataW.Trod enc Tryz.prog w base spare held t v d p) : ∃ x, R.At w [v] x := by
  obtain ⟨m, hm⟩ := h
  rw [hv] at hm
  exact he.2 hm
theorem opens_sl {t e : TypeId} {R : Rep α} (ht : Tryz.prog.underlying t = some (.slice e)) (he : Opens t R.slice) {w : World} {base b0 : Nat} {spare : Nat → Bool} {held : Bool} {v : Value} {d : DataW H} {p : List MemPlace} {r : Reach}
    (hv : Value.okWide Tryz.prog w r b0 t v) (h : DataW.Trod enc Tryz.prog w base spare held t v d p) : ∃ xs, R.Sl w v xs := by
  obtain ⟨a, l, c, rfl⟩ := okWide_slice ht hv
  obtain ⟨m, hm⟩ := h
  obtain ⟨xs, v, e, h⟩ := he.2 (by simpa [Value.cells] using hm)
  cases e
  exact ⟨xs, h⟩
/-- A field that is a number. -/
theorem field_int {t : TypeId} {k : IntKind} (ht : Tryz.prog.underlying t = some (.int k)) (hc : Tryz.prog.cellsOf t = 1) {w : World} {base : Nat} {spare : Nat → Bool} {held : Bool} {m off : Nat} {cs : List Value} {y : DataW H × List MemPlace}
    (h : DataW.trod enc Tryz.prog w base spare held m t ((cs.drop off).take (Tryz.prog.cellsOf t)) = some y) : ∃ n, (cs.drop off).take 1 = [.int k n] ∧ (Lit.int k n).wf = true := by
  rw [hc] at h
  obtain ⟨n, e, _, hw⟩ := DataW.trod_int ht h
  exact ⟨n, e, hw⟩
/-- A field of another type. -/
theorem field_of {t : TypeId} {R : Rep α} (he : Opens t R) {w : World} {base : Nat} {spare : Nat → Bool} {held : Bool} {m off : Nat} {cs : List Value} {y : DataW H × List MemPlace}
    (h : DataW.trod enc Tryz.prog w base spare held m t ((cs.drop off).take (Tryz.prog.cellsOf t)) = some y) : ∃ x, R.At w ((cs.drop off).take R.n) x := by
  rw [he.1] at h
  exact he.2 h
end
end Go.Proofs.YtokghjnkfabgiaaGreatDoor

namespace Go.Proofs.YtokghjnkfabgiaaGreatDoor
set_option linter.unusedVariables false
set_option linter.unusedSimpArgs false
set_option maxRecDepth 100000
open Go.RowKit

theorem flatMap_len {α : Type} {enc : α → List Value} {n : Nat} (hl : ∀ x, (enc x).length = n) (xs : List α) : (xs.flatMap enc).length = xs.length * n := by
  induction xs with
  | nil => simp
  | cons y r ih => rw [List.flatMap_cons, List.length_append, ih, hl, List.length_cons, Nat.succ_mul, Nat.add_comm]
theorem flatMap_set {α : Type} {enc : α → List Value} {n : Nat} (hl : ∀ x, (enc x).length = n) (z : α) : ∀ (xs : List α) (k : Nat), k < xs.length →
    (xs.flatMap enc).take (k * n) ++ enc z ++ (xs.flatMap enc).drop (k * n + n) = (xs.set k z).flatMap enc
  | [], _, h => absurd h (Nat.not_lt_zero _)
  | y :: r, 0, _ => by
    rw [List.set_cons_zero, List.flatMap_cons, List.flatMap_cons, Nat.zero_mul, List.take_zero, List.nil_append, Nat.zero_add, List.drop_append_of_le_length (by rw [hl]; exact Nat.le_refl _), List.drop_of_length_le (by rw [hl]; exact Nat.le_refl _), List.nil_append]
  | y :: r, k + 1, h => by
    have ih := flatMap_set hl z r k (by simpa using h)
    have hy := hl y
    rw [List.set_cons_succ, List.flatMap_cons, List.flatMap_cons, ← ih, Nat.succ_mul, List.take_append, List.take_of_length_le (l := enc y) (by omega), List.drop_append, List.drop_of_length_le (l := enc y) (by omega), List.nil_append, hy]
    rw [show k * n + n - n = k * n from by omega, show k * n + n + n - n = k * n + n from by omega]
    simp only [List.append_assoc]
theorem flatMap_get {α : Type} {enc : α → List Value} {n : Nat} (hl : ∀ x, (enc x).length = n) : ∀ (xs : List α) (k : Nat), (h : k < xs.length) → ∀ j, j < n → (xs.flatMap enc)[k * n + j]? = (enc xs[k])[j]?
  | [], _, h, _, _ => absurd h (Nat.not_lt_zero _)
  | y :: r, 0, _, j, hj => by
    rw [List.flatMap_cons, Nat.zero_mul, Nat.zero_add, List.getElem?_append_left (by rw [hl]; exact hj)]; rfl
  | y :: r, k + 1, h, j, hj => by
    rw [List.flatMap_cons, List.getElem?_append_right (by rw [hl, Nat.succ_mul]; omega), hl, show (k + 1) * n + j - n = k * n + j from by rw [Nat.succ_mul]; omega]
    exact flatMap_get hl r k (by simpa using h) j hj

/-- A struct stored into an element of a row. -/
theorem wpList_store_elem {P : Program} {ops : Array Oper} {rest : List Oper} {o : Oper} {a : Act} {w : World} {Q : Exit → Act → World → Prop} (hgd : o.guard = none) {α : Type} (n : Nat) (enc : α → List Value) (hl : ∀ x, (enc x).length = n) (h1 : ∀ x, ∀ v ∈ enc x, v.oneCell' = true)
    (ty : TypeId) (x y : Operand) (ho : o.op = .store ty x y) (G k : Nat) (xs : List α) (hk : k < xs.length) (z : α) (hx : a.eval x = .pointer (some ⟨G, k * n, none⟩)) (hy : a.eval y = .agg (enc z).toArray) (t : TypeId)
    (hg : w.heap[G]? = some (.cells (xs.flatMap enc).toArray t (0, 0))) (hi : (P.info? ty).map (·.size) = some n)
    (h : ∀ w', w'.heap[G]? = some (.cells ((xs.set k z).flatMap enc).toArray t (0, 0)) → w.grownBy w' (some G) → wpList P ops Q rest (a.put o.dst undef) w') : wpList P ops Q (o :: rest) a w := by
  refine wpList_plain hgd fun _ hK => ?_
  have hfl := flatMap_len hl xs
  have hkn : k * n + n ≤ xs.length * n := by have := Nat.mul_le_mul_right n hk; rw [Nat.succ_mul] at this; exact this
  have hst := run_storeCells_at P G (k * n) t (enc z) 0 (xs.flatMap enc).toArray w hg (by simp only [List.size_toArray]; rw [hfl, hl]; omega) (h1 z)
  simp only [Nat.add_zero, hl, flatMap_set hl z xs k hk] at hst
  have hs : (Instr.storeAt ty (.pointer (some ⟨G, k * n, none⟩)) (.agg (enc z).toArray)).run P w = .ok () (w.setRow G ((xs.set k z).flatMap enc).toArray) := by
    cases hq : P.info? ty with
    | none => simp [hq] at hi
    | some i =>
      have hsz : i.size = n := by simpa [hq] using hi
      simp [Instr.storeAt, Instr.sureAddr, storeVar, sizeOf, typeInfo, hq, Value.cells, hsz, hl, hst]
  unfold Oper.wp execOp
  simp only [ho, hx, hy, Sem.run_bind, hs, Result.andThen_ok]
  exact hK _ _ (h _ (setRow_heap w G _ _ t _ hg) ⟨rfl, rfl, rfl, by simp [World.setRow], fun j _ hj => setRow_other w G j _ (fun e => hj (by rw [e]))⟩)
theorem flatMap_part {α : Type} {enc : α → List Value} {n : Nat} (hl : ∀ x, (enc x).length = n) {o : Nat} {vs : List Value} (ho : o + vs.length ≤ n) : ∀ (xs : List α) (k : Nat) (h : k < xs.length) (x' : α), enc x' = (enc xs[k]).take o ++ vs ++ (enc xs[k]).drop (o + vs.length) →
    (xs.flatMap enc).take (k * n + o) ++ vs ++ (xs.flatMap enc).drop (k * n + o + vs.length) = (xs.set k x').flatMap enc
  | [], _, h, _, _ => absurd h (Nat.not_lt_zero _)
  | y :: r, 0, _, x', he => by
    have hy := hl y
    rw [List.set_cons_zero, List.flatMap_cons, List.flatMap_cons, Nat.zero_mul, Nat.zero_add, List.take_append_of_le_length (by omega), List.drop_append_of_le_length (by omega), he]
    simp only [List.append_assoc, List.getElem_cons_zero]
  | y :: r, k + 1, h, x', he => by
    have ih := flatMap_part hl ho r k (by simpa using h) x' he
    have hy := hl y
    rw [List.set_cons_succ, List.flatMap_cons, List.flatMap_cons, ← ih, Nat.succ_mul, List.take_append, List.take_of_length_le (l := enc y) (by omega), List.drop_append, List.drop_of_length_le (l := enc y) (by omega), List.nil_append, hy]
    rw [show k * n + n + o - n = k * n + o from by omega, show k * n + n + o + vs.length - n = k * n + o + vs.length from by omega]
    simp only [List.append_assoc]
/-- A struct stored into a field of an element of a row. -/
theorem wpList_store_part {P : Program} {ops : Array Oper} {rest : List Oper} {o : Oper} {a : Act} {w : World} {Q : Exit → Act → World → Prop} (hgd : o.guard = none) {α : Type} (n : Nat) (enc : α → List Value) (hl : ∀ x, (enc x).length = n)
    (ty : TypeId) (x y : Operand) (ho : o.op = .store ty x y) (G k f : Nat) (xs : List α) (hk : k < xs.length) (vs : List Value) (h1 : ∀ v ∈ vs, v.oneCell' = true) (hf : f + vs.length ≤ n) (z : α) (hz : enc z = (enc xs[k]).take f ++ vs ++ (enc xs[k]).drop (f + vs.length))
    (hx : a.eval x = .pointer (some ⟨G, k * n + f, none⟩)) (hy : a.eval y = .agg vs.toArray) (t : TypeId)
    (hg : w.heap[G]? = some (.cells (xs.flatMap enc).toArray t (0, 0))) (hi : (P.info? ty).map (·.size) = some vs.length)
    (h : ∀ w', w'.heap[G]? = some (.cells ((xs.set k z).flatMap enc).toArray t (0, 0)) → w.grownBy w' (some G) → wpList P ops Q rest (a.put o.dst undef) w') : wpList P ops Q (o :: rest) a w := by
  refine wpList_plain hgd fun _ hK => ?_
  have hfl := flatMap_len hl xs
  have hkn : k * n + n ≤ xs.length * n := by have := Nat.mul_le_mul_right n hk; rw [Nat.succ_mul] at this; exact this
  have hst := run_storeCells_at P G (k * n + f) t vs 0 (xs.flatMap enc).toArray w hg (by simp only [List.size_toArray]; rw [hfl]; omega) h1
  simp only [Nat.add_zero, flatMap_part hl hf xs k hk z hz] at hst
  have hs : (Instr.storeAt ty (.pointer (some ⟨G, k * n + f, none⟩)) (.agg vs.toArray)).run P w = .ok () (w.setRow G ((xs.set k z).flatMap enc).toArray) := by
    cases hq : P.info? ty with
    | none => simp [hq] at hi
    | some i =>
      have hsz : i.size = vs.length := by simpa [hq] using hi
      simp [Instr.storeAt, Instr.sureAddr, storeVar, sizeOf, typeInfo, hq, Value.cells, hsz, hst]
  unfold Oper.wp execOp
  simp only [ho, hx, hy, Sem.run_bind, hs, Result.andThen_ok]
  exact hK _ _ (h _ (setRow_heap w G _ _ t _ hg) ⟨rfl, rfl, rfl, by simp [World.setRow], fun j _ hj => setRow_other w G j _ (fun e => hj (by rw [e]))⟩)
theorem flatMap_field {α : Type} {enc : α → List Value} {n : Nat} (hl : ∀ x, (enc x).length = n) {j : Nat} (hj : j < n) {v : Value} : ∀ (xs : List α) (k : Nat) (h : k < xs.length) (x' : α), enc x' = (enc xs[k]).set j v → (xs.flatMap enc).set (k * n + j) v = (xs.set k x').flatMap enc
  | [], _, h, _, _ => absurd h (Nat.not_lt_zero _)
  | y :: r, 0, _, x', he => by
    rw [List.set_cons_zero, List.flatMap_cons, List.flatMap_cons, Nat.zero_mul, Nat.zero_add, List.set_append_left _ _ (by rw [hl]; exact hj), he]; rfl
  | y :: r, k + 1, h, x', he => by
    rw [List.set_cons_succ, List.flatMap_cons, List.flatMap_cons, List.set_append_right _ _ (by rw [hl, Nat.succ_mul]; omega), hl, show (k + 1) * n + j - n = k * n + j from by rw [Nat.succ_mul]; omega, flatMap_field hl hj r k (by simpa using h) x' he]
theorem field_stored {α : Type} {enc : α → List Value} {n : Nat} (hl : ∀ x, (enc x).length = n) {j : Nat} (hj : j < n) {v : Value} {W : World} {G k : Nat} {t : TypeId} {xs : List α} (hg : W.heap[G]? = some (.cells (xs.flatMap enc).toArray t (0, 0))) (h : k < xs.length) (x' : α) (he : enc x' = (enc xs[k]).set j v) :
    (W.setCell ⟨G, k * n + j, none⟩ v).heap[G]? = some (.cells ((xs.set k x').flatMap enc).toArray t (0, 0)) := by
  rw [heap_setCell_same W G _ _ _ _ hg, ← flatMap_field hl hj xs k h x' he]
  simp
theorem field_read {α : Type} {enc : α → List Value} {n : Nat} (hl : ∀ x, (enc x).length = n) {j : Nat} (hj : j < n) {W : World} {G k : Nat} {t : TypeId} {xs : List α} (hg : W.heap[G]? = some (.cells (xs.flatMap enc).toArray t (0, 0))) (h : k < xs.length) :
    W.cell? ⟨G, k * n + j, none⟩ = (enc xs[k])[j]? := by
  rw [cell_of_row W G _ _ _ _ hg]
  simp only [List.getElem?_toArray]
  exact flatMap_get hl xs k h j hj
theorem made_flat {α : Type} {enc : α → List Value} {m : Nat} (hl : ∀ x, (enc x).length = m) (x0 : α) (n : Nat) : (madeCells (enc x0).toArray (n * m)).toList = (List.replicate n x0).flatMap enc := by
  apply List.ext_getElem?
  intro i
  by_cases hi : i < n * m
  · have hm : 0 < m := by rcases Nat.eq_zero_or_pos m with h | h; · subst h; omega
                          · exact h
    have hk : i / m < n := Nat.div_lt_of_lt_mul (by rw [Nat.mul_comm]; exact hi)
    have hg := flatMap_get hl (List.replicate n x0) (i / m) (by simpa using hk) (i % m) (Nat.mod_lt _ hm)
    rw [Nat.mul_comm, Nat.div_add_mod] at hg
    rw [hg]
    simp only [List.getElem_replicate]
    have hm2 : i % m < (enc x0).length := by rw [hl]; exact Nat.mod_lt _ hm
    rw [List.getElem?_eq_getElem hm2]
    simp [madeCells, hi, hl, List.getElem?_eq_getElem hm2]
  · rw [List.getElem?_eq_none (by simp [madeCells]; omega), List.getElem?_eq_none (by rw [flatMap_len hl]; simp; omega)]
theorem range_set {α : Type} (f : Nat → α) (n k : Nat) (x : α) : ((List.range n).map f).set k x = (List.range n).map (fun j => if j = k then x else f j) := by
  apply List.ext_getElem?
  intro i
  by_cases hi : i < n
  · by_cases hk : k = i
    · subst hk; simp [hi]
    · have hk' : ¬ i = k := fun e => hk e.symm
      rw [List.getElem?_set_ne hk]; simp [hi, hk']
  · rw [List.getElem?_eq_none (by simp; omega), List.getElem?_eq_none (by simp; omega)]
theorem range_congr {α : Type} {f g : Nat → α} {n : Nat} (h : ∀ j, j < n → f j = g j) : (List.range n).map f = (List.range n).map g := List.map_congr_left fun j hj => h j (List.mem_range.1 hj)
end Go.Proofs.YtokghjnkfabgiaaGreatDoor
