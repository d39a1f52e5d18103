import Derived.Test.YtokghjnkfabgiaaGreatDoorTD6
import Derived.Laws.CopyRow
import Derived.Test.YtokghjnkfabgiaaGreatDoorTD4
import Derived.Test.YtokghjnkfabgiaaGreatDoorTD1
set_option linter.unusedVariables false
set_option linter.unusedSimpArgs false
set_option maxRecDepth 100000
namespace Go.Proofs.YtokghjnkfabgiaaGreatDoor
open Go.RowKit

theorem own_other {w : World} {B : Nat} {t : TypeId} {size n : Nat} {v : Value} {xs : List Value} (h : w.ownsRow B t size v n xs) {p : Addr} (hp : ∀ g, v.ownBlock = some g → g ≠ p.block) (u : Value) : (w.setCell p u).ownsRow B t size v n xs := by
 obtain ⟨h1, h2 | ⟨g, cap, cur, rfl, hb', hg, h3⟩⟩ := h
 ·exact ⟨h1, .inl h2⟩
 ·exact ⟨h1, .inr ⟨g, cap, cur, rfl, hb', (Below.heap_setCell _ _ _ _ (hp g rfl)).trans hg, h3⟩⟩
theorem block_below {w w' : World} {G : Nat} {o : Obj} (h : w.heap[G]? = some o) (hb : Below w.heap.size w w') : w'.heap[G]? = some o := (hb.block G (Array.getElem?_eq_some_iff.1 h).1).trans h
theorem block_grown {w w' : World} {G : Nat} {o : Obj} {row : Option Nat} (h : w.heap[G]? = some o) (hg : w.grownBy w' row) (hne : row ≠ some G) : w'.heap[G]? = some o := (hg.block G (Array.getElem?_eq_some_iff.1 h).1 (Ne.symm hne)).trans h
theorem block_other {w : World} {G : Nat} {o : Obj} (h : w.heap[G]? = some o) {p : Addr} (hp : p.block ≠ G) (u : Value) : (w.setCell p u).heap[G]? = some o := (Below.heap_setCell _ _ _ _ (Ne.symm hp)).trans h
theorem block_alloc {w : World} {G : Nat} {o : Obj} (h : w.heap[G]? = some o) (o' : Obj) : (w.alloc o').heap[G]? = some o := (Below.heap_alloc _ _ _ (Array.getElem?_eq_some_iff.1 h).1).trans h
theorem block_lt {w : World} {G : Nat} {o : Obj} (h : w.heap[G]? = some o) : G < w.heap.size := (Array.getElem?_eq_some_iff.1 h).1
end Go.Proofs.YtokghjnkfabgiaaGreatDoor

namespace Go.Proofs.YtokghjnkfabgiaaGreatDoor
open Go.RowKit

def KeepTy (t : TypeId) (w w' : World) : Prop := ∀ (g : Nat) (cur : Array Value), w.heap[g]? = some (Obj.cells cur t (0, 0)) → w'.heap[g]? = some (Obj.cells cur t (0, 0))
theorem KeepTy.refl (t : TypeId) (w : World) : KeepTy t w w := fun _ _ h => h
theorem KeepTy.trans {t : TypeId} {a b c : World} (h : KeepTy t a b) (k : KeepTy t b c) : KeepTy t a c := fun g cur hg => k g cur (h g cur hg)
theorem KeepTy.below {t : TypeId} {w w' : World} (h : Below w.heap.size w w') : KeepTy t w w' := fun g cur hg => block_below hg h
def NotTy (t : TypeId) (w : World) (g : Nat) : Prop := ∀ (cur : Array Value), w.heap[g]? ≠ some (Obj.cells cur t (0, 0))
theorem NotTy.of {t u : TypeId} {w : World} {g : Nat} {cs : Array Value} {fr : Nat × Nat} (h : w.heap[g]? = some (.cells cs u fr)) (hne : u ≠ t) : NotTy t w g := fun cur e => by rw [h] at e; cases e; exact hne rfl
theorem KeepTy.kb {t : TypeId} {S : Nat → Prop} {w w' : World} (h : KB S w w') (hS : ∀ g, S g → NotTy t w g) : KeepTy t w w' := fun g cur hg =>
 (h.block g (Array.getElem?_eq_some_iff.1 hg).1 (fun hs => hS g hs cur hg)).trans hg
theorem KeepTy.grown {t : TypeId} {w w' : World} {row : Option Nat} (h : w.grownBy w' row) (hr : ∀ g, row = some g → NotTy t w g) : KeepTy t w w' := fun g cur hg =>
 block_grown hg h (fun e => hr g e cur hg)
theorem KeepTy.setCell {t : TypeId} {w : World} {p : Addr} (hp : NotTy t w p.block) (u : Value) : KeepTy t w (w.setCell p u) := fun g cur hg =>
 block_other hg (fun e => hp cur (e ▸ hg)) u
theorem own_keep {w w' : World} {B : Nat} {t : TypeId} {size n : Nat} {v : Value} {xs : List Value} (h : w.ownsRow B t size v n xs) (hk : KeepTy t w w') : w'.ownsRow B t size v n xs := by
 obtain ⟨h1, h2 | ⟨g, cap, cur, rfl, hb', hg, h3⟩⟩ := h
 ·exact ⟨h1, .inl h2⟩
 ·exact ⟨h1, .inr ⟨g, cap, cur, rfl, hb', hk g cur hg, h3⟩⟩
theorem own_typed {w : World} {B : Nat} {t : TypeId} {size n : Nat} {v : Value} {xs : List Value} (h : w.ownsRow B t size v n xs) {g : Nat} (e : v.ownBlock = some g) : ∃ cur, w.heap[g]? = some (.cells cur t (0, 0)) := by
 obtain ⟨h1, ⟨rfl, _⟩ | ⟨g', cap, cur, rfl, hb', hg, h3⟩⟩ := h
 ·cases e
 ·cases e; exact ⟨cur, hg⟩
theorem own_mono {w : World} {B B' : Nat} {t : TypeId} {size n : Nat} {v : Value} {xs : List Value} (h : w.ownsRow B t size v n xs) (hB : B' ≤ B) : w.ownsRow B' t size v n xs := by
 obtain ⟨h1, h2 | ⟨g, cap, cur, e, hb, h3⟩⟩ := h
 ·exact ⟨h1, .inl h2⟩
 ·exact ⟨h1, .inr ⟨g, cap, cur, e, Nat.le_trans hB hb, h3⟩⟩
theorem own_cell1 {w : World} {B : Nat} {t : TypeId} {size n : Nat} {v : Value} {xs : List Value} (h : w.ownsRow B t size v n xs) : v.oneCell' = true := by
 obtain ⟨h1, ⟨rfl, _⟩ | ⟨g, cap, cur, rfl, _⟩⟩ := h <;> rfl
end Go.Proofs.YtokghjnkfabgiaaGreatDoor

namespace Go.Proofs.YtokghjnkfabgiaaGreatDoor
open Go.RowKit

section
variable {α : Type}
def KeepR (R : Rep α) (B : Nat) (t : TypeId) : Prop := ∀ w w', Below B w w' → (∀ u, u ≠ t → KeepTy u w w') → ∀ cs x, R.At w cs x → R.At w' cs x
theorem KeepR.cs {R : Rep α} {B : Nat} {t : TypeId} (h : KeepR R B t) {w w' : World} (hB : Below B w w') (hk : ∀ u, u ≠ t → KeepTy u w w') : ∀ {xs : List α} {cs : List Value}, R.Cs w cs xs → R.Cs w' cs xs
 | [], cs, h => h
 | x :: xs, cs, ⟨ds, r, e, h1, h3⟩ => ⟨ds, r, e, h _ _ hB hk _ _ h1, KeepR.cs h hB hk h3⟩
def RowG (R : Rep α) (M : Nat) (t : TypeId) (w : World) (v : Value) (xs : List α) : Prop := ∃ cs, w.ownsRow M t R.n v xs.length cs ∧ R.Cs w cs xs
theorem RowG.nil (R : Rep α) (M : Nat) (t : TypeId) (w : World) : RowG R M t w (.slice none 0 0) [] := ⟨[], World.ownsRow_nil _ _ _ _, rfl⟩
theorem RowG.next {R : Rep α} {M : Nat} {t : TypeId} {w w' : World} {v : Value} {xs : List α} (h : RowG R M t w v xs) (hb : Below w.heap.size w w') : RowG R M t w' v xs := by
 obtain ⟨cs, h1, h2⟩ := h
 exact ⟨cs, own_keep h1 (KeepTy.below hb), Rep.Cs.keep hb h2⟩
theorem RowG.turn {R : Rep α} {B : Nat} {M : Nat} {t : TypeId} {w w' : World} {v : Value} {xs : List α} (h : RowG R M t w v xs) (hR : ∀ cs x, R.At w cs x → R.At w' cs x) (hk : KeepTy t w w') : RowG R M t w' v xs := by
 obtain ⟨cs, h1, h2⟩ := h
 refine ⟨cs, own_keep h1 hk, ?_⟩
 clear h1
 induction xs generalizing cs with
 | nil => exact h2
 | cons x xs ih =>
  obtain ⟨ds, r, e, h3, h4⟩ := h2
  exact ⟨ds, r, e, hR _ _ h3, ih _ h4⟩
theorem RowG.form {R : Rep α} {M : Nat} {t : TypeId} {w : World} {v : Value} {xs : List α} (h : RowG R M t w v xs) : ∃ a c, v = .slice a xs.length c := by
 obtain ⟨cs, ⟨_, ⟨hv, h0⟩ | ⟨g, cap, cur, hv, _⟩⟩, _⟩ := h
 ·exact ⟨none, 0, by rw [hv, h0]⟩
 ·exact ⟨_, _, hv⟩
theorem RowG.sl {R : Rep α} {M : Nat} {t : TypeId} {w : World} {v : Value} {xs : List α} (h : RowG R M t w v xs) : R.Sl w v xs := by
 obtain ⟨cs, h1, h2⟩ := h
 obtain ⟨a, c, e, hx⟩ := Rep.Cs.els (R := R) (w := w) h1 h2 rfl
 subst e
 have hform : xs.length ≤ c ∧ c ≤ maxLen ∧ (a = none → c = 0) := by
  obtain ⟨_, ⟨hv, h0⟩ | ⟨g, cap, cur, hv, hg, hh, hnc, hcm, _, _⟩⟩ := id h1
  ·simp only [Value.slice.injEq] at hv
   obtain ⟨rfl, hl, rfl⟩ := hv
   exact ⟨by omega, Nat.zero_le _, (fun _ => rfl)⟩
  ·simp only [Value.slice.injEq] at hv
   obtain ⟨rfl, _, rfl⟩ := hv
   exact ⟨hnc, hcm, (fun e => by cases e)⟩
 exact ⟨a, c, rfl, hform.1, hform.2.1, hform.2.2, hx⟩
theorem RowG.same {R : Rep α} {M : Nat} {t : TypeId} {w w' : World} {v : Value} {xs : List α} (h : RowG R M t w v xs) (hR : ∀ cs x, R.At w cs x → R.At w' cs x) (hk : KeepTy t w w') : RowG R M t w' v xs := RowG.turn (B := 0) h hR hk
theorem src_block {w : World} {G : Nat} {cs : Array Value} {t : TypeId} (hG : w.heap[G]? = some (.cells cs t (0, 0))) (m : Nat) : Src w (.slice (some ⟨G, 0, none⟩) m m) m cs.toList := by
 refine .inr ⟨_, _, rfl, fun j z hz => ?_⟩
 have e : (⟨G, 0, none⟩ : Addr).add j = ⟨G, j, none⟩ := by unfold Addr.add; split <;> simp_all
 rw [e, cell_of_row _ _ j _ _ _ hG]
 simpa using hz
theorem wpList_pushG {R : Rep α} {ops : Array Oper} {rest : List Oper} {o : Oper} {a : Act} {w : World} {Q : Exit → Act → World → Prop} (hgd : o.guard = none) (s x : Operand) (ts t : TypeId) (ho : o.op = .call { callee := .builtin .append, args := #[s, x], argTypes := #[ts, ts] })
  (z : Value) (bytes : Nat) (ht : Tryz.prog.underlying ts = some (.slice t)) (hi : (Tryz.prog.info? t).map (fun i => (i.zero, i.size, i.bytes)) = some (some z, R.n, bytes)) (hz : z.cells.size = R.n) (hn : 0 < R.n)
  (B : Nat) (M G : Nat) (hkr : KeepR R B t) (v : Value) (xs : List α) (y : α) (cs : Array Value) (hs : a.eval s = v) (hv : RowG R M t w v xs) (hx : a.eval x = .slice (some ⟨G, 0, none⟩) 1 1) (hG : w.heap[G]? = some (.cells cs t (0, 0))) (hy : R.At w cs.toList y)
  (hl : xs.length + 1 ≤ maxLen) (hby : (xs.length + 1) * bytes ≤ 140737488355328) (hBM : B ≤ M) (hM : M ≤ w.heap.size)
  (h : ∀ v' w', RowG R M t w' v' (xs ++ [y]) → Below M w w' → w.grownBy w' v.ownBlock → (∀ u, u ≠ t → KeepTy u w w') → wpList Tryz.prog ops Q rest (a.put o.dst v') w') : wpList Tryz.prog ops Q (o :: rest) a w := by
 obtain ⟨i0, hi, hz0, hz1, hz2⟩ := info_parts hi
 obtain ⟨ds, h1, h2⟩ := hv
 refine wpList_append_src _ hgd s x ts ho M t i0 _ R.n bytes ht hi hz0 hz1 hz2 hz hn v xs.length ds hs h1 _ 1 cs.toList hx (src_block hG 1) (by rw [Nat.one_mul]; exact R.len _ _ _ hy) (R.one _ _ _ hy) hl hby hM ?_
 intro v' w' hown hg hnw
 have hge : ∀ j, v.ownBlock = some j → M ≤ j := fun j hj => (World.ownsRow.lt h1 j hj).1
 have hbM : Below M w w' := (Below.refl M w).grown hg hM hge
 have hk : ∀ u, u ≠ t → KeepTy u w w' := fun u hu => KeepTy.grown hg (fun g e => by obtain ⟨cur, hh⟩ := own_typed h1 e; exact NotTy.of hh (Ne.symm hu))
 have hbB : Below B w w' := hbM.mono hBM
 exact h v' w' ⟨ds ++ cs.toList, by simpa using hown, (hkr.cs hbB hk (Rep.Cs.single hy)).append (hkr.cs hbB hk h2)⟩ hbM hg hk
theorem wp_pushG {R : Rep α} {o : Oper} {a : Act} {w : World} {K : Act → World → Prop} {Q : Exit → Act → World → Prop} (s x : Operand) (ts t : TypeId) (ho : o.op = .call { callee := .builtin .append, args := #[s, x], argTypes := #[ts, ts] })
  (z : Value) (bytes : Nat) (ht : Tryz.prog.underlying ts = some (.slice t)) (hi : (Tryz.prog.info? t).map (fun i => (i.zero, i.size, i.bytes)) = some (some z, R.n, bytes)) (hz : z.cells.size = R.n) (hn : 0 < R.n)
  (B : Nat) (M G : Nat) (hkr : KeepR R B t) (v : Value) (xs : List α) (y : α) (cs : Array Value) (hs : a.eval s = v) (hv : RowG R M t w v xs) (hx : a.eval x = .slice (some ⟨G, 0, none⟩) 1 1) (hG : w.heap[G]? = some (.cells cs t (0, 0))) (hy : R.At w cs.toList y)
  (hl : xs.length + 1 ≤ maxLen) (hby : (xs.length + 1) * bytes ≤ 140737488355328) (hBM : B ≤ M) (hM : M ≤ w.heap.size)
  (h : ∀ v' w', RowG R M t w' v' (xs ++ [y]) → Below M w w' → w.grownBy w' v.ownBlock → (∀ u, u ≠ t → KeepTy u w w') → K (a.put o.dst v') w') : o.wp Tryz.prog a w K Q := by
 obtain ⟨i0, hi, hz0, hz1, hz2⟩ := info_parts hi
 obtain ⟨ds, h1, h2⟩ := hv
 refine wp_append_src _ s x ts ho M t i0 _ R.n bytes ht hi hz0 hz1 hz2 hz hn v xs.length ds hs h1 _ 1 cs.toList hx (src_block hG 1) (by rw [Nat.one_mul]; exact R.len _ _ _ hy) (R.one _ _ _ hy) hl hby hM ?_
 intro v' w' hown hg hnw
 have hge : ∀ j, v.ownBlock = some j → M ≤ j := fun j hj => (World.ownsRow.lt h1 j hj).1
 have hbM : Below M w w' := (Below.refl M w).grown hg hM hge
 have hk : ∀ u, u ≠ t → KeepTy u w w' := fun u hu => KeepTy.grown hg (fun g e => by obtain ⟨cur, hh⟩ := own_typed h1 e; exact NotTy.of hh (Ne.symm hu))
 have hbB : Below B w w' := hbM.mono hBM
 exact h v' w' ⟨ds ++ cs.toList, by simpa using hown, (hkr.cs hbB hk (Rep.Cs.single hy)).append (hkr.cs hbB hk h2)⟩ hbM hg hk
end
end Go.Proofs.YtokghjnkfabgiaaGreatDoor
