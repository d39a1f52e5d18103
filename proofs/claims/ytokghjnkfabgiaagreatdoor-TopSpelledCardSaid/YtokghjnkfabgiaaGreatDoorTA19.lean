import Derived.Test.YtokghjnkfabgiaaGreatDoorTA18
namespace Go.Proofs.YtokghjnkfabgiaaGreatDoor
set_option maxRecDepth 100000
open Go.RowKit Go.Lib
set_option linter.unusedVariables false
set_option linter.unusedSimpArgs false

/-! Items, sides, inputs, lines, in rows of the call's own. -/
theorem RowI.keepTy {B : Nat} {w w' : World} {v : Value} {xs : List Int} (h : RowI B w v xs) (hk : KeepTy 2 w w') : RowI B w' v xs := own_keep h hk
theorem RowI.mono {B B' : Nat} {w : World} {v : Value} {xs : List Int} (h : RowI B w v xs) (hB : B' ≤ B) : RowI B' w v xs := own_mono h hB
theorem RowG.mono {α : Type} {R : Rep α} {M M' : Nat} {t : TypeId} {w : World} {v : Value} {xs : List α} (h : RowG R M t w v xs) (hM : M' ≤ M) : RowG R M' t w v xs := by
  obtain ⟨cs, h1, h2⟩ := h
  exact ⟨cs, own_mono h1 hM, h2⟩
theorem RowG.one {α : Type} {R : Rep α} {M : Nat} {t : TypeId} {w : World} {v : Value} {xs : List α} (h : RowG R M t w v xs) : v.oneCell' = true := by
  obtain ⟨cs, h1, h2⟩ := h
  exact own_cell1 h1
def itmR : Rep Itm where
  n := 5
  At w cs x := ∃ a v, cs = [.int .i64 x.how, .int .i64 a, .int .u8 x.fn, .string (str x.name), v] ∧ RowI 0 w v x.nums
  len := by rintro w cs x ⟨a, v, rfl, _⟩; rfl
  keep := by rintro w w' cs x ⟨a, v, rfl, h⟩ hb; exact ⟨a, v, rfl, h.below hb⟩
  one := by
    rintro w cs x ⟨a, v, rfl, h⟩ u hu
    simp only [List.mem_cons, List.not_mem_nil, or_false] at hu
    rcases hu with rfl | rfl | rfl | rfl | rfl <;> first | rfl | exact own_cell1 h
theorem keep_itm (B : Nat) : KeepR itmR B 121 := by
  rintro w w' _ hk cs x ⟨a, v, e, h⟩
  exact ⟨a, v, e, h.keepTy (hk _ (by decide))⟩
def sidR : Rep SidP := Rep.flat 2 (fun x => [.string (str x.name), .int .i64 x.n]) (fun _ => True) (fun _ => rfl) (by intro x v hv; simp at hv; rcases hv with rfl | rfl <;> rfl)
theorem keep_sid (B : Nat) : KeepR sidR B 81 := fun _ _ _ _ _ _ h => h
def inpR : Rep InpP where
  n := 3
  At w cs x := ∃ a v, cs = [.string (str x.name), .int .i64 a, v] ∧ RowG sidR 0 81 w v x.sides
  len := by rintro w cs x ⟨a, v, rfl, _⟩; rfl
  keep := by rintro w w' cs x ⟨a, v, rfl, h⟩ hb; exact ⟨a, v, rfl, h.next hb⟩
  one := by
    rintro w cs x ⟨a, v, rfl, h⟩ u hu
    simp only [List.mem_cons, List.not_mem_nil, or_false] at hu
    rcases hu with rfl | rfl | rfl <;> first | rfl | exact h.one
theorem keep_inp (B : Nat) : KeepR inpR B 79 := by
  rintro w w' _ hk cs x ⟨a, v, e, h⟩
  exact ⟨a, v, e, h.same (fun _ _ h => h) (hk _ (by decide))⟩
def linR : Rep LinP where
  n := 3
  At w cs x := ∃ a v, cs = [.string (str x.name), .int .i64 a, v] ∧ RowG itmR 0 121 w v x.items
  len := by rintro w cs x ⟨a, v, rfl, _⟩; rfl
  keep := by rintro w w' cs x ⟨a, v, rfl, h⟩ hb; exact ⟨a, v, rfl, h.next hb⟩
  one := by
    rintro w cs x ⟨a, v, rfl, h⟩ u hu
    simp only [List.mem_cons, List.not_mem_nil, or_false] at hu
    rcases hu with rfl | rfl | rfl <;> first | rfl | exact h.one
theorem keep_lin (B : Nat) : KeepR linR B 67 := by
  rintro w w' hb hk cs x ⟨a, v, e, h⟩
  refine ⟨a, v, e, h.same (fun cs y hy => ?_) (hk _ (by decide))⟩
  obtain ⟨a2, v2, e2, h2⟩ := hy
  exact ⟨a2, v2, e2, h2.keepTy (hk _ (by decide))⟩

/-- the world hidden behind facts -/
theorem gen_worldA {P : Program} {c : Code} {Q : Exit → Act → World → Prop} {a : Act} {w0 : World} (F : World → Prop) (h0 : F w0) (h : ∀ W, F W → c.wp P Q a W) : c.wp P Q a w0 := h w0 h0
/-! One thing more: where the row lies then. -/
section
variable {α : Type}
theorem wpList_pushN {R : Rep α} {ops : Array Oper} {rest : List Oper} {o : Oper} {a : Act} {w : World} {Q : Exit → Act → World → Prop} (hgd : o.guard = none) (s x : Operand) (ts t : TypeId) (ho : o.op = .call { callee := .builtin .append, args := #[s, x], argTypes := #[ts, ts] })
    (z : Value) (bytes : Nat) (ht : Tryz.prog.underlying ts = some (.slice t)) (hi : (Tryz.prog.info? t).map (fun i => (i.zero, i.size, i.bytes)) = some (some z, R.n, bytes)) (hz : z.cells.size = R.n) (hn : 0 < R.n)
    (B : Nat) (M G : Nat) (hkr : KeepR R B t) (v : Value) (xs : List α) (y : α) (cs : Array Value) (hs : a.eval s = v) (hv : RowG R M t w v xs) (hx : a.eval x = .slice (some ⟨G, 0, none⟩) 1 1) (hG : w.heap[G]? = some (.cells cs t (0, 0))) (hy : R.At w cs.toList y)
    (hl : xs.length + 1 ≤ maxLen) (hby : (xs.length + 1) * bytes ≤ 140737488355328) (hBM : B ≤ M) (hM : M ≤ w.heap.size)
    (h : ∀ v' w', RowG R M t w' v' (xs ++ [y]) → Below M w w' → w.grownBy w' v.ownBlock → (∀ u, u ≠ t → KeepTy u w w') → Newer w v v' → wpList Tryz.prog ops Q rest (a.put o.dst v') w') : wpList Tryz.prog ops Q (o :: rest) a w := by
  obtain ⟨i0, hi, hz0, hz1, hz2⟩ := info_parts hi
  obtain ⟨ds, h1, h2⟩ := hv
  refine wpList_append_src _ hgd s x ts ho M t i0 _ R.n bytes ht hi hz0 hz1 hz2 hz hn v xs.length ds hs h1 _ 1 cs.toList hx (src_block hG 1) (by rw [Nat.one_mul]; exact R.len _ _ _ hy) (R.one _ _ _ hy) hl hby hM ?_
  intro v' w' hown hg hnw
  have hge : ∀ j, v.ownBlock = some j → M ≤ j := fun j hj => (World.ownsRow.lt h1 j hj).1
  have hbM : Below M w w' := (Below.refl M w).grown hg hM hge
  have hk : ∀ u, u ≠ t → KeepTy u w w' := fun u hu => KeepTy.grown hg (fun g e => by obtain ⟨cur, hh⟩ := own_typed h1 e; exact NotTy.of hh (Ne.symm hu))
  have hbB : Below B w w' := hbM.mono hBM
  exact h v' w' ⟨ds ++ cs.toList, by simpa using hown, (hkr.cs hbB hk (Rep.Cs.single hy)).append (hkr.cs hbB hk h2)⟩ hbM hg hk hnw
end
end Go.Proofs.YtokghjnkfabgiaaGreatDoor

namespace Go.Proofs.YtokghjnkfabgiaaGreatDoor
set_option maxRecDepth 100000
open Go.RowKit Go.Lib
set_option linter.unusedVariables false
set_option linter.unusedSimpArgs false
attribute [local go_sem] str_size str_get str_toList

/-! show.number. -/
set_option maxHeartbeats 4000000 in
theorem shownum_any (n : Int) (hn : in64B n = true) (w : World) (ht : TabT w) : Calls Tryz.prog 69 #[.int .i64 n] w fun e w' => e = .returned (.string (str (numStr n))) ∧ Below w.heap.size w w' := by
  have h := spell_any w ht ⟨2, [], n⟩ 0 (.inr (.inl ⟨rfl, rfl, hn⟩))
  have hs : spellT ⟨2, [], n⟩ = numStr n := rfl
  rw [hs] at h
  generalize numStr n = s at h ⊢
  have HS := Lib.hid h
  clear h hs ht
  go_enter Tryz.func69, Tryz.ntmps69
  go_wp2_with (go_at_call 9; refine HS.out.mono ?_; rintro e w' ⟨rfl, hb⟩; have HB := Lib.hid hb)
  go_ret
  exact ⟨rfl, HB.out⟩
end Go.Proofs.YtokghjnkfabgiaaGreatDoor
