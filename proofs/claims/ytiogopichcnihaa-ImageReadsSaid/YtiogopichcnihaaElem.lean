import Derived.Test.YtiogopichcnihaaRep
import Derived.Laws.CopyRow
namespace Go.Proofs.Ytiogopichcnihaa
set_option maxRecDepth 100000
open Go.RowKit

theorem flatMap_len {α : Type} {enc : α → List Value} {n : Nat} (hl : ∀ x, (enc x).length = n) (xs : List α) : (xs.flatMap enc).length = xs.length * n := by
  induction xs with
  | nil => simp
  | cons y r ih => rw [List.flatMap_cons, List.length_append, ih, hl, List.length_cons, Nat.succ_mul, Nat.add_comm]
theorem flatMap_set {α : Type} {enc : α → List Value} {n : Nat} (hl : ∀ x, (enc x).length = n) (z : α) : ∀ (xs : List α) (k : Nat), k < xs.length →
    (xs.flatMap enc).take (k * n) ++ enc z ++ (xs.flatMap enc).drop (k * n + n) = (xs.set k z).flatMap enc
  | [], _, h => absurd h (Nat.not_lt_zero _)
  | y :: r, 0, _ => by
    rw [List.set_cons_zero, List.flatMap_cons, List.flatMap_cons, Nat.zero_mul, List.take_zero, List.nil_append, Nat.zero_add, List.drop_append_of_le_length (by rw [hl]; exact Nat.le_refl _), List.drop_of_length_le (by rw [hl]; exact Nat.le_refl _), List.nil_append]
  | y :: r, k + 1, h => by
    have ih := flatMap_set hl z r k (by simpa using h)
    have hy := hl y
    rw [List.set_cons_succ, List.flatMap_cons, List.flatMap_cons, ← ih, Nat.succ_mul, List.take_append, List.take_of_length_le (l := enc y) (by omega), List.drop_append, List.drop_of_length_le (l := enc y) (by omega), List.nil_append, hy]
    rw [show k * n + n - n = k * n from by omega, show k * n + n + n - n = k * n + n from by omega]
    simp only [List.append_assoc]
theorem flatMap_get {α : Type} {enc : α → List Value} {n : Nat} (hl : ∀ x, (enc x).length = n) : ∀ (xs : List α) (k : Nat), (h : k < xs.length) → ∀ j, j < n → (xs.flatMap enc)[k * n + j]? = (enc xs[k])[j]?
  | [], _, h, _, _ => absurd h (Nat.not_lt_zero _)
  | y :: r, 0, _, j, hj => by
    rw [List.flatMap_cons, Nat.zero_mul, Nat.zero_add, List.getElem?_append_left (by rw [hl]; exact hj)]; rfl
  | y :: r, k + 1, h, j, hj => by
    rw [List.flatMap_cons, List.getElem?_append_right (by rw [hl, Nat.succ_mul]; omega), hl, show (k + 1) * n + j - n = k * n + j from by rw [Nat.succ_mul]; omega]
    exact flatMap_get hl r k (by simpa using h) j hj

/-- A struct stored into an element of a row. -/
theorem wpList_store_elem {P : Program} {ops : Array Oper} {rest : List Oper} {o : Oper} {a : Act} {w : World} {Q : Exit → Act → World → Prop} (hgd : o.guard = none) {α : Type} (n : Nat) (enc : α → List Value) (hl : ∀ x, (enc x).length = n) (h1 : ∀ x, ∀ v ∈ enc x, v.oneCell' = true)
    (ty : TypeId) (x y : Operand) (ho : o.op = .store ty x y) (G k : Nat) (xs : List α) (hk : k < xs.length) (z : α) (hx : a.eval x = .pointer (some ⟨G, k * n, none⟩)) (hy : a.eval y = .agg (enc z).toArray) (t : TypeId)
    (hg : w.heap[G]? = some (.cells (xs.flatMap enc).toArray t (0, 0))) (hi : (P.info? ty).map (·.size) = some n)
    (h : ∀ w', w'.heap[G]? = some (.cells ((xs.set k z).flatMap enc).toArray t (0, 0)) → w.grownBy w' (some G) → wpList P ops Q rest (a.put o.dst undef) w') : wpList P ops Q (o :: rest) a w := by
  refine wpList_plain hgd fun _ hK => ?_
  have hfl := flatMap_len hl xs
  have hkn : k * n + n ≤ xs.length * n := by have := Nat.mul_le_mul_right n hk; rw [Nat.succ_mul] at this; exact this
  have hst := run_storeCells_at P G (k * n) t (enc z) 0 (xs.flatMap enc).toArray w hg (by simp only [List.size_toArray]; rw [hfl, hl]; omega) (h1 z)
  simp only [Nat.add_zero, hl, flatMap_set hl z xs k hk] at hst
  have hs : (Instr.storeAt ty (.pointer (some ⟨G, k * n, none⟩)) (.agg (enc z).toArray)).run P w = .ok () (w.setRow G ((xs.set k z).flatMap enc).toArray) := by
    cases hq : P.info? ty with
    | none => simp [hq] at hi
    | some i =>
      have hsz : i.size = n := by simpa [hq] using hi
      simp [Instr.storeAt, Instr.sureAddr, storeVar, sizeOf, typeInfo, hq, Value.cells, hsz, hl, hst]
  unfold Oper.wp execOp
  simp only [ho, hx, hy, Sem.run_bind, hs, Result.andThen_ok]
  exact hK _ _ (h _ (setRow_heap w G _ _ t _ hg) ⟨rfl, rfl, rfl, by simp [World.setRow], fun j _ hj => setRow_other w G j _ (fun e => hj (by rw [e]))⟩)
theorem flatMap_part {α : Type} {enc : α → List Value} {n : Nat} (hl : ∀ x, (enc x).length = n) {o : Nat} {vs : List Value} (ho : o + vs.length ≤ n) : ∀ (xs : List α) (k : Nat) (h : k < xs.length) (x' : α), enc x' = (enc xs[k]).take o ++ vs ++ (enc xs[k]).drop (o + vs.length) →
    (xs.flatMap enc).take (k * n + o) ++ vs ++ (xs.flatMap enc).drop (k * n + o + vs.length) = (xs.set k x').flatMap enc
  | [], _, h, _, _ => absurd h (Nat.not_lt_zero _)
  | y :: r, 0, _, x', he => by
    have hy := hl y
    rw [List.set_cons_zero, List.flatMap_cons, List.flatMap_cons, Nat.zero_mul, Nat.zero_add, List.take_append_of_le_length (by omega), List.drop_append_of_le_length (by omega), he]
    simp only [List.append_assoc, List.getElem_cons_zero]
  | y :: r, k + 1, h, x', he => by
    have ih := flatMap_part hl ho r k (by simpa using h) x' he
    have hy := hl y
    rw [List.set_cons_succ, List.flatMap_cons, List.flatMap_cons, ← ih, Nat.succ_mul, List.take_append, List.take_of_length_le (l := enc y) (by omega), List.drop_append, List.drop_of_length_le (l := enc y) (by omega), List.nil_append, hy]
    rw [show k * n + n + o - n = k * n + o from by omega, show k * n + n + o + vs.length - n = k * n + o + vs.length from by omega]
    simp only [List.append_assoc]
/-- A struct stored into a field of an element of a row. -/
theorem wpList_store_part {P : Program} {ops : Array Oper} {rest : List Oper} {o : Oper} {a : Act} {w : World} {Q : Exit → Act → World → Prop} (hgd : o.guard = none) {α : Type} (n : Nat) (enc : α → List Value) (hl : ∀ x, (enc x).length = n)
    (ty : TypeId) (x y : Operand) (ho : o.op = .store ty x y) (G k f : Nat) (xs : List α) (hk : k < xs.length) (vs : List Value) (h1 : ∀ v ∈ vs, v.oneCell' = true) (hf : f + vs.length ≤ n) (z : α) (hz : enc z = (enc xs[k]).take f ++ vs ++ (enc xs[k]).drop (f + vs.length))
    (hx : a.eval x = .pointer (some ⟨G, k * n + f, none⟩)) (hy : a.eval y = .agg vs.toArray) (t : TypeId)
    (hg : w.heap[G]? = some (.cells (xs.flatMap enc).toArray t (0, 0))) (hi : (P.info? ty).map (·.size) = some vs.length)
    (h : ∀ w', w'.heap[G]? = some (.cells ((xs.set k z).flatMap enc).toArray t (0, 0)) → w.grownBy w' (some G) → wpList P ops Q rest (a.put o.dst undef) w') : wpList P ops Q (o :: rest) a w := by
  refine wpList_plain hgd fun _ hK => ?_
  have hfl := flatMap_len hl xs
  have hkn : k * n + n ≤ xs.length * n := by have := Nat.mul_le_mul_right n hk; rw [Nat.succ_mul] at this; exact this
  have hst := run_storeCells_at P G (k * n + f) t vs 0 (xs.flatMap enc).toArray w hg (by simp only [List.size_toArray]; rw [hfl]; omega) h1
  simp only [Nat.add_zero, flatMap_part hl hf xs k hk z hz] at hst
  have hs : (Instr.storeAt ty (.pointer (some ⟨G, k * n + f, none⟩)) (.agg vs.toArray)).run P w = .ok () (w.setRow G ((xs.set k z).flatMap enc).toArray) := by
    cases hq : P.info? ty with
    | none => simp [hq] at hi
    | some i =>
      have hsz : i.size = vs.length := by simpa [hq] using hi
      simp [Instr.storeAt, Instr.sureAddr, storeVar, sizeOf, typeInfo, hq, Value.cells, hsz, hst]
  unfold Oper.wp execOp
  simp only [ho, hx, hy, Sem.run_bind, hs, Result.andThen_ok]
  exact hK _ _ (h _ (setRow_heap w G _ _ t _ hg) ⟨rfl, rfl, rfl, by simp [World.setRow], fun j _ hj => setRow_other w G j _ (fun e => hj (by rw [e]))⟩)
theorem flatMap_field {α : Type} {enc : α → List Value} {n : Nat} (hl : ∀ x, (enc x).length = n) {j : Nat} (hj : j < n) {v : Value} : ∀ (xs : List α) (k : Nat) (h : k < xs.length) (x' : α), enc x' = (enc xs[k]).set j v → (xs.flatMap enc).set (k * n + j) v = (xs.set k x').flatMap enc
  | [], _, h, _, _ => absurd h (Nat.not_lt_zero _)
  | y :: r, 0, _, x', he => by
    rw [List.set_cons_zero, List.flatMap_cons, List.flatMap_cons, Nat.zero_mul, Nat.zero_add, List.set_append_left _ _ (by rw [hl]; exact hj), he]; rfl
  | y :: r, k + 1, h, x', he => by
    rw [List.set_cons_succ, List.flatMap_cons, List.flatMap_cons, List.set_append_right _ _ (by rw [hl, Nat.succ_mul]; omega), hl, show (k + 1) * n + j - n = k * n + j from by rw [Nat.succ_mul]; omega, flatMap_field hl hj r k (by simpa using h) x' he]
theorem field_stored {α : Type} {enc : α → List Value} {n : Nat} (hl : ∀ x, (enc x).length = n) {j : Nat} (hj : j < n) {v : Value} {W : World} {G k : Nat} {t : TypeId} {xs : List α} (hg : W.heap[G]? = some (.cells (xs.flatMap enc).toArray t (0, 0))) (h : k < xs.length) (x' : α) (he : enc x' = (enc xs[k]).set j v) :
    (W.setCell ⟨G, k * n + j, none⟩ v).heap[G]? = some (.cells ((xs.set k x').flatMap enc).toArray t (0, 0)) := by
  rw [heap_setCell_same W G _ _ _ _ hg, ← flatMap_field hl hj xs k h x' he]
  simp
theorem field_read {α : Type} {enc : α → List Value} {n : Nat} (hl : ∀ x, (enc x).length = n) {j : Nat} (hj : j < n) {W : World} {G k : Nat} {t : TypeId} {xs : List α} (hg : W.heap[G]? = some (.cells (xs.flatMap enc).toArray t (0, 0))) (h : k < xs.length) :
    W.cell? ⟨G, k * n + j, none⟩ = (enc xs[k])[j]? := by
  rw [cell_of_row W G _ _ _ _ hg]
  simp only [List.getElem?_toArray]
  exact flatMap_get hl xs k h j hj
theorem made_flat {α : Type} {enc : α → List Value} {m : Nat} (hl : ∀ x, (enc x).length = m) (x0 : α) (n : Nat) : (madeCells (enc x0).toArray (n * m)).toList = (List.replicate n x0).flatMap enc := by
  apply List.ext_getElem?
  intro i
  by_cases hi : i < n * m
  · have hm : 0 < m := by rcases Nat.eq_zero_or_pos m with h | h; · subst h; omega
                          · exact h
    have hk : i / m < n := Nat.div_lt_of_lt_mul (by rw [Nat.mul_comm]; exact hi)
    have hg := flatMap_get hl (List.replicate n x0) (i / m) (by simpa using hk) (i % m) (Nat.mod_lt _ hm)
    rw [Nat.mul_comm, Nat.div_add_mod] at hg
    rw [hg]
    simp only [List.getElem_replicate]
    have hm2 : i % m < (enc x0).length := by rw [hl]; exact Nat.mod_lt _ hm
    rw [List.getElem?_eq_getElem hm2]
    simp [madeCells, hi, hl, List.getElem?_eq_getElem hm2]
  · rw [List.getElem?_eq_none (by simp [madeCells]; omega), List.getElem?_eq_none (by rw [flatMap_len hl]; simp; omega)]
theorem range_set {α : Type} (f : Nat → α) (n k : Nat) (x : α) : ((List.range n).map f).set k x = (List.range n).map (fun j => if j = k then x else f j) := by
  apply List.ext_getElem?
  intro i
  by_cases hi : i < n
  · by_cases hk : k = i
    · subst hk; simp [hi]
    · have hk' : ¬ i = k := fun e => hk e.symm
      rw [List.getElem?_set_ne hk]; simp [hi, hk']
  · rw [List.getElem?_eq_none (by simp; omega), List.getElem?_eq_none (by simp; omega)]
theorem range_congr {α : Type} {f g : Nat → α} {n : Nat} (h : ∀ j, j < n → f j = g j) : (List.range n).map f = (List.range n).map g := List.map_congr_left fun j hj => h j (List.mem_range.1 hj)
end Go.Proofs.Ytiogopichcnihaa
