import Derived.Test.YtiogopichcnihaaJ9
import Derived.Test.YtiogopichcnihaaCs
namespace Go.Proofs.Ytiogopichcnihaa
set_option maxRecDepth 100000
open Go.RowKit
set_option linter.unusedVariables false
set_option linter.unusedSimpArgs false

/-! Rows of the call's own, kept where blocks of their type are. -/
def KeepTy (t : TypeId) (w w' : World) : Prop := ∀ (g : Nat) (cur : Array Value), w.heap[g]? = some (Obj.cells cur t (0, 0)) → w'.heap[g]? = some (Obj.cells cur t (0, 0))
theorem KeepTy.refl (t : TypeId) (w : World) : KeepTy t w w := fun _ _ h => h
theorem KeepTy.trans {t : TypeId} {a b c : World} (h : KeepTy t a b) (k : KeepTy t b c) : KeepTy t a c := fun g cur hg => k g cur (h g cur hg)
theorem KeepTy.below {t : TypeId} {w w' : World} (h : Below w.heap.size w w') : KeepTy t w w' := fun g cur hg => block_below hg h
/-- the block g is no row of the type t -/
def NotTy (t : TypeId) (w : World) (g : Nat) : Prop := ∀ (cur : Array Value), w.heap[g]? ≠ some (Obj.cells cur t (0, 0))
theorem NotTy.of {t u : TypeId} {w : World} {g : Nat} {cs : Array Value} {fr : Nat × Nat} (h : w.heap[g]? = some (.cells cs u fr)) (hne : u ≠ t) : NotTy t w g := fun cur e => by rw [h] at e; cases e; exact hne rfl
theorem KeepTy.kb {t : TypeId} {S : Nat → Prop} {w w' : World} (h : KB S w w') (hS : ∀ g, S g → NotTy t w g) : KeepTy t w w' := fun g cur hg =>
  (h.block g (Array.getElem?_eq_some_iff.1 hg).1 (fun hs => hS g hs cur hg)).trans hg
theorem KeepTy.grown {t : TypeId} {w w' : World} {row : Option Nat} (h : w.grownBy w' row) (hr : ∀ g, row = some g → NotTy t w g) : KeepTy t w w' := fun g cur hg =>
  block_grown hg h (fun e => hr g e cur hg)
theorem KeepTy.setCell {t : TypeId} {w : World} {p : Addr} (hp : NotTy t w p.block) (u : Value) : KeepTy t w (w.setCell p u) := fun g cur hg =>
  block_other hg (fun e => hp cur (e ▸ hg)) u
theorem own_keep {w w' : World} {B : Nat} {t : TypeId} {size n : Nat} {v : Value} {xs : List Value} (h : w.ownsRow B t size v n xs) (hk : KeepTy t w w') : w'.ownsRow B t size v n xs := by
  obtain ⟨h1, h2 | ⟨g, cap, cur, rfl, hb', hg, h3⟩⟩ := h
  · exact ⟨h1, .inl h2⟩
  · exact ⟨h1, .inr ⟨g, cap, cur, rfl, hb', hk g cur hg, h3⟩⟩
/-- a row's block is of its type -/
theorem own_typed {w : World} {B : Nat} {t : TypeId} {size n : Nat} {v : Value} {xs : List Value} (h : w.ownsRow B t size v n xs) {g : Nat} (e : v.ownBlock = some g) : ∃ cur, w.heap[g]? = some (.cells cur t (0, 0)) := by
  obtain ⟨h1, ⟨rfl, _⟩ | ⟨g', cap, cur, rfl, hb', hg, h3⟩⟩ := h
  · cases e
  · cases e; exact ⟨cur, hg⟩
theorem own_mono {w : World} {B B' : Nat} {t : TypeId} {size n : Nat} {v : Value} {xs : List Value} (h : w.ownsRow B t size v n xs) (hB : B' ≤ B) : w.ownsRow B' t size v n xs := by
  obtain ⟨h1, h2 | ⟨g, cap, cur, e, hb, h3⟩⟩ := h
  · exact ⟨h1, .inl h2⟩
  · exact ⟨h1, .inr ⟨g, cap, cur, e, Nat.le_trans hB hb, h3⟩⟩
theorem own_cell1 {w : World} {B : Nat} {t : TypeId} {size n : Nat} {v : Value} {xs : List Value} (h : w.ownsRow B t size v n xs) : v.oneCell' = true := by
  obtain ⟨h1, ⟨rfl, _⟩ | ⟨g, cap, cur, rfl, _⟩⟩ := h <;> rfl
/-- a slot whose sides lie in memory of the call's own -/
def slotO (B : Nat) : Rep Slo where
  n := 2
  At w cs s := ∃ v, cs = [.int .i64 s.pos, v] ∧ RowI B w v s.sides ∧ I64 s.pos
  len := by rintro w cs b ⟨v, rfl, _⟩; rfl
  keep := by rintro w w' cs b ⟨v, e, h, h2⟩ hb; exact ⟨v, e, own_below h hb, h2⟩
  one := by
    rintro w cs b ⟨v, rfl, h, _⟩ u hu
    simp at hu
    rcases hu with rfl | rfl
    · rfl
    · exact own_cell1 h
theorem RowI.sl {B : Nat} {w : World} {v : Value} {xs : List Int} (h : RowI B w v xs) : IntSl .i64 w v xs := by
  obtain ⟨h1, ⟨hv, hn⟩ | ⟨g, cap, cur, hv, hB, hg, hnc, hcm, hcs, ht⟩⟩ := id h
  · have hx : xs = [] := List.eq_nil_of_length_eq_zero hn
    subst hx
    exact ⟨none, 0, hv, Nat.le_refl _, Nat.zero_le _, IntsAt.nil _ _ _⟩
  · obtain ⟨a, c, e, _, hi⟩ := h.slice
    rw [hv] at e
    cases e
    exact ⟨_, _, hv, hnc, hcm, hi⟩
theorem slotO_cs {B : Nat} {w : World} : ∀ {xs : List Slo} {cs : List Value}, (slotO B).Cs w cs xs → slotRep.Cs w cs xs
  | [], cs, h => h
  | x :: xs, cs, ⟨ds, r, e, ⟨v, e1, h1, h2⟩, h3⟩ => ⟨ds, r, e, ⟨v, e1, h1.sl, h2⟩, slotO_cs h3⟩
theorem slotO_keep {B : Nat} {w w' : World} (hk : KeepTy 2 w w') : ∀ {xs : List Slo} {cs : List Value}, (slotO B).Cs w cs xs → (slotO B).Cs w' cs xs
  | [], cs, h => h
  | x :: xs, cs, ⟨ds, r, e, ⟨v, e1, h1, h2⟩, h3⟩ => ⟨ds, r, e, ⟨v, e1, own_keep h1 hk, h2⟩, slotO_keep hk h3⟩
theorem slotO_mono {B B' : Nat} {w : World} (hB : B' ≤ B) : ∀ {xs : List Slo} {cs : List Value}, (slotO B).Cs w cs xs → (slotO B').Cs w cs xs
  | [], cs, h => h
  | x :: xs, cs, ⟨ds, r, e, ⟨v, e1, h1, h2⟩, h3⟩ => ⟨ds, r, e, ⟨v, e1, own_mono h1 hB, h2⟩, slotO_mono hB h3⟩
/-- slots of the call's own -/
def OwnSl (B : Nat) (w : World) (v : Value) (xs : List Slo) : Prop := ∃ cs, w.ownsRow B 41 2 v xs.length cs ∧ (slotO B).Cs w cs xs
theorem OwnSl.nil (B : Nat) (w : World) : OwnSl B w (.slice none 0 0) [] := ⟨[], World.ownsRow_nil w B 41 2, rfl⟩
theorem OwnSl.keep {B : Nat} {w w' : World} {v : Value} {xs : List Slo} (h : OwnSl B w v xs) (h1 : KeepTy 41 w w') (h2 : KeepTy 2 w w') : OwnSl B w' v xs := by
  obtain ⟨cs, h3, h4⟩ := h
  exact ⟨cs, own_keep h3 h1, slotO_keep h2 h4⟩
theorem OwnSl.mono {B B' : Nat} {w : World} {v : Value} {xs : List Slo} (h : OwnSl B w v xs) (hB : B' ≤ B) : OwnSl B' w v xs := by
  obtain ⟨cs, h3, h4⟩ := h
  exact ⟨cs, own_mono h3 hB, slotO_mono hB h4⟩
theorem OwnSl.sl {B : Nat} {w : World} {v : Value} {xs : List Slo} (h : OwnSl B w v xs) : slotRep.Sl w v xs := by
  obtain ⟨cs, h3, h4⟩ := h
  obtain ⟨a, c, e, he⟩ := Rep.Cs.els (R := slotRep) (w := w) h3 (slotO_cs h4) rfl
  refine ⟨a, c, e, ?_, ?_, ?_, he⟩
  all_goals
    obtain ⟨h1, ⟨hv, hn⟩ | ⟨g, cap, cur, hv, hB, hg, hnc, hcm, hcs, ht⟩⟩ := h3
  · rw [hv] at e; simp only [Value.slice.injEq] at e; omega
  · rw [hv] at e; simp only [Value.slice.injEq] at e; omega
  · rw [hv] at e; simp only [Value.slice.injEq] at e; unfold maxLen; omega
  · rw [hv] at e; simp only [Value.slice.injEq] at e; omega
  · rw [hv] at e; simp only [Value.slice.injEq] at e; intro _; omega
  · rw [hv] at e; simp only [Value.slice.injEq] at e; intro h; rw [← e.1] at h; cases h
theorem Rd.ty {w0 w : World} {R : Nat} {l : List Int} (h : Rd w0 w R l) {t : TypeId} (hne : 66 ≠ t) : NotTy t w R := by
  obtain ⟨a, c, hr, _⟩ := h.row
  exact NotTy.of hr hne
theorem Rd.keepTy {w0 w w' : World} {R : Nat} {l : List Int} (h : Rd w0 w R l) (hk : KB (fun g => g = R) w w') {t : TypeId} (hne : 66 ≠ t) : KeepTy t w w' := KeepTy.kb hk (fun g e => by subst e; exact h.ty hne)
theorem Rd.lt {w0 w : World} {R : Nat} {l : List Int} (h : Rd w0 w R l) : R < w.heap.size := by
  obtain ⟨a, c, hr, _⟩ := h.row
  exact (Array.getElem?_eq_some_iff.1 hr).1
/-- the reader, where its block has not turned -/
theorem Rd.next {w0 w w' : World} {R : Nat} {l : List Int} (h : Rd w0 w R l) (hb : Below w0.heap.size w0 w') (hr : w'.heap[R]? = w.heap[R]?) : Rd w0 w' R l := by
  obtain ⟨a, c, h1, h2, h3, h4⟩ := h.row
  exact ⟨hb, h.new, ⟨a, c, hr.trans h1, h2, h3, h4⟩, h.byts⟩
theorem Try.infoSlot : (Try.prog.info? 41).map (fun i => (i.zero, i.size, i.bytes)) = some (some (.agg #[.int .i64 0, .slice none 0 0]), 2, 32) := by kernel_rfl
theorem Try.infoInsU : (Try.prog.info? 43).map (fun i => (i.zero, i.size, i.bytes)) = some (some (.agg #[.int .u8 0, .int .u8 0, .int .u8 0, .int .u8 0, .int .i32 0]), 5, 8) := by kernel_rfl
end Go.Proofs.Ytiogopichcnihaa
