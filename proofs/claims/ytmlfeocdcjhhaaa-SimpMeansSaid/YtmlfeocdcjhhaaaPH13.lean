import Derived.Test.YtmlfeocdcjhhaaaPH12
import Derived.Test.YtmlfeocdcjhhaaaPH2
namespace Go.Proofs.Ytmlfeocdcjhhaaa
set_option maxRecDepth 100000
open Go.RowKit
set_option linter.unusedVariables false
set_option linter.unusedSimpArgs false
attribute [local go_sem ↓] Go.wp_at_zero Go.wp_at_succ

def Spine (B : Bd) (M : Nat) (W : World) (v : Value) (s : List (List Cop)) : Prop := ∃ vs : List Value, W.ownsRow M 22 1 v s.length vs ∧ vs.length = s.length ∧ ∀ i (hi : i < s.length) (hv : i < vs.length), CopS B W vs[i] s[i]
theorem Spine.nil (B : Bd) (M : Nat) (W : World) : Spine B M W (.slice none 0 0) [] := ⟨[], World.ownsRow_nil _ _ _ _, rfl, fun i hi => absurd hi (Nat.not_lt_zero i)⟩
theorem own_below' {w w' : World} {B : Nat} {t : TypeId} {size n : Nat} {v : Value} {xs : List Value} (h : w.ownsRow B t size v n xs) (hb : Below w.heap.size w w') : w'.ownsRow B t size v n xs := own_keep h (KeepTy.below hb)
theorem Spine.next {B : Bd} {M : Nat} {W W' : World} {v : Value} {s : List (List Cop)} (h : Spine B M W v s) (hb : Below W.heap.size W W') : Spine B M W' v s := by
  obtain ⟨vs, h1, h2, h3⟩ := h
  exact ⟨vs, own_below' h1 hb, h2, fun i hi hv => (h3 i hi hv).below hb⟩
theorem Spine.form {B : Bd} {M : Nat} {W : World} {v : Value} {s : List (List Cop)} (h : Spine B M W v s) (h0 : 0 < s.length) : ∃ g cap, v = .slice (some ⟨g, 0, none⟩) s.length cap ∧ M ≤ g ∧ g < W.heap.size ∧ s.length ≤ cap ∧ cap ≤ maxLen ∧ ∃ cur, W.heap[g]? = some (.cells cur 22 (0, 0)) := by
  obtain ⟨vs, ⟨_, ⟨_, hn⟩ | ⟨g, cap, cur, hv, hB, hg, h1, h2, _⟩⟩, _⟩ := h
  · omega
  · exact ⟨g, cap, hv, hB, (Array.getElem?_eq_some_iff.1 hg).1, h1, h2, cur, hg⟩
theorem Spine.slice {B : Bd} {M : Nat} {W : World} {v : Value} {s : List (List Cop)} (h : Spine B M W v s) : ∃ a cap, v = .slice a s.length cap := by
  obtain ⟨vs, ⟨_, ⟨hv, hn⟩ | ⟨g, cap, cur, hv, _⟩⟩, _⟩ := h
  · exact ⟨none, 0, by rw [hv, hn]⟩
  · exact ⟨_, _, hv⟩
theorem Spine.at {B : Bd} {M : Nat} {W : World} {g n cap : Nat} {s : List (List Cop)} (h : Spine B M W (.slice (some ⟨g, 0, none⟩) n cap) s) {i : Nat} (hi : i < s.length) :
    ∃ a c, W.cell? ⟨g, i, none⟩ = some (.slice a s[i].length c) ∧ CopS B W (.slice a s[i].length c) s[i] ∧ W.frozen? ⟨g, i, none⟩ = false := by
  obtain ⟨vs, h1, h2, h3⟩ := h
  have hn : n = s.length := by
    rcases h1.2 with ⟨hv, _⟩ | ⟨g', cap', cur, hv, _⟩
    · cases hv
    · simp only [Value.slice.injEq] at hv; exact hv.2.1
  subst hn
  have hc := World.ownsRow.cellAt h1 i (by omega)
  have hcp := h3 i hi (by omega)
  obtain ⟨a, c, e, _, _⟩ := hcp.form
  refine ⟨a, c, ?_, e ▸ hcp, World.ownsRow.frozenAt h1 i⟩
  rw [hc, List.getElem?_eq_getElem (by omega), e]
/-- another list in one's place -/
theorem Spine.set {B : Bd} {M : Nat} {W : World} {g n cap : Nat} {s : List (List Cop)} (h : Spine B M W (.slice (some ⟨g, 0, none⟩) n cap) s) {i : Nat} (hi : i < s.length) (hB : B ≤ g) {u : Value} {x : List Cop} (hu : CopS B W u x) : Spine B M (W.setCell ⟨g, i, none⟩ u) (.slice (some ⟨g, 0, none⟩) n cap) (s.set i x) := by
  obtain ⟨vs, h1, h2, h3⟩ := h
  have hn : n = s.length := by
    rcases h1.2 with ⟨hv, _⟩ | ⟨g', cap', cur, hv, _⟩
    · cases hv
    · simp only [Value.slice.injEq] at hv; exact hv.2.1
  subst hn
  obtain ⟨cur, hg⟩ := own_typed h1 (g := g) rfl
  have hb : Below B W (W.setCell ⟨g, i, none⟩ u) := (Below.refl B.hi W).setCell hB _
  have k1 : KeepTy 47 W (W.setCell ⟨g, i, none⟩ u) := KeepTy.setCell (p := ⟨g, i, none⟩) (NotTy.of hg (by decide)) _
  have k2 : KeepTy 44 W (W.setCell ⟨g, i, none⟩ u) := KeepTy.setCell (p := ⟨g, i, none⟩) (NotTy.of hg (by decide)) _
  have hs := (World.ownsRow.stored (w := W) h1 i u).1
  refine ⟨vs.set i u, by rw [List.length_set]; exact hs, by rw [List.length_set, List.length_set]; exact h2, fun j hj hv => ?_⟩
  rw [List.length_set] at hj hv
  by_cases hij : i = j
  · subst hij
    rw [List.getElem_set_self, List.getElem_set_self]
    exact hu.keep hb k1 k2
  · rw [List.getElem_set_ne hij, List.getElem_set_ne hij]
    exact (h3 j hj hv).keep hb k1 k2
/-- the first ones -/
theorem Spine.take {B : Bd} {M : Nat} {W : World} {g n cap : Nat} {s : List (List Cop)} (h : Spine B M W (.slice (some ⟨g, 0, none⟩) n cap) s) {m : Nat} (hm : m ≤ s.length) : Spine B M W (.slice (some ⟨g, 0, none⟩) m cap) (s.take m) := by
  obtain ⟨vs, h1, h2, h3⟩ := h
  have hl : (s.take m).length = m := by rw [List.length_take]; omega
  refine ⟨vs.take m, ?_, by rw [List.length_take, hl]; omega, fun i hi hv => ?_⟩
  · rw [hl]
    obtain ⟨h0, ⟨hv, _⟩ | ⟨g', cap', cur, hv, hB, hg, hnc, hcm, hcs, ht⟩⟩ := h1
    · cases hv
    · simp only [Value.slice.injEq, Option.some.injEq, Addr.mk.injEq, and_true, true_and] at hv
      obtain ⟨rfl, _, rfl⟩ := hv
      refine ⟨by rw [List.length_take]; omega, .inr ⟨g, cap, cur, rfl, hB, hg, by omega, hcm, hcs, ?_⟩⟩
      rw [← ht, List.take_take]
      congr 1; omega
  · rw [List.getElem_take, List.getElem_take]
    exact h3 i _ _
theorem sizedL (w : World) : (sizeOf (Try.prog.elem 100)).run Try.prog w = .ok 1 w := by kernel_rfl
theorem slice_hiL (w : World) (g n mc h : Nat) (hh : h ≤ mc) : (Instr.sliceAt 100 (.slice (some ⟨g, 0, none⟩) n mc) none (some (.int .i64 (h : Int))) none).run Try.prog w = .ok (.slice (some ⟨g, 0, none⟩) h mc) w := by
  rw [run_sliceAt_slice w 100 _ _ _ _ Try.underlying100, run_slice_h w 100 (some ⟨g, 0, none⟩) n mc Try.underlying100 .i64 (h : Int) (by omega) (by omega), sizedL]
  simp only [Result.andThen, Int.toNat_natCast]
  unfold sliced
  simp [Addr.add]
/-- a list more -/
theorem wpList_push {ops : Array Oper} {rest : List Oper} {o : Oper} {a : Act} {w : World} {Q : Exit → Act → World → Prop} (hgd : o.guard = none) (s x : Operand) (ho : o.op = .call { callee := .builtin .append, args := #[s, x], argTypes := #[100, 100] })
    (B : Bd) (M G : Nat) (v u : Value) (st : List (List Cop)) (y : List Cop) (hs : a.eval s = v) (hv : Spine B M w v st) (hx : a.eval x = .slice (some ⟨G, 0, none⟩) 1 1) (hG : w.heap[G]? = some (.cells #[u] 22 (0, 0))) (hu : CopS B w u y)
    (hl : st.length + 1 ≤ 2513169434843) (hBM : B ≤ M) (hB : M ≤ w.heap.size) (h : ∀ v' w', Spine B M w' v' (st ++ [y]) → Below M w w' → w.grownBy w' v.ownBlock → Newer w v v' → wpList Try.prog ops Q rest (a.put o.dst v') w') : wpList Try.prog ops Q (o :: rest) a w := by
  obtain ⟨i0, hi, hz0, hz1, hz2⟩ := info_parts (show (Try.prog.info? 22).map (fun i => (i.zero, i.size, i.bytes)) = some (some (.slice none 0 0), 1, 24) by kernel_rfl)
  obtain ⟨vs, h1, h2, h3⟩ := hv
  have hsrc : Src w (.slice (some ⟨G, 0, none⟩) 1 1) 1 [u] := .inr ⟨⟨G, 0, none⟩, 1, rfl, fun j z hz => by
    have : j = 0 := by have := (List.getElem?_eq_some_iff.1 hz).1; simp at this; exact this
    subst this
    simp at hz
    subst hz
    have e : (⟨G, 0, none⟩ : Addr).add 0 = ⟨G, 0, none⟩ := by unfold Addr.add; simp
    rw [e, cell_of_row w G 0 _ _ _ hG]; rfl⟩
  have hone : ∀ z ∈ [u], z.oneCell' = true := fun z hz => by
    rw [List.mem_singleton.1 hz]
    obtain ⟨a', c', e, _, _⟩ := hu.form
    rw [e]; rfl
  refine wpList_append_src _ hgd s x 100 ho M 22 i0 _ 1 24 Try.underlying100 hi hz0 hz1 hz2 rfl (by decide) v st.length vs hs h1 _ 1 [u] hx hsrc rfl hone (by unfold maxLen; omega) (by omega) hB ?_
  intro v' w' hown hg hn
  have hge : ∀ j, v.ownBlock = some j → M ≤ j := fun j hj => (World.ownsRow.lt h1 j hj).1
  have hbM : Below M w w' := (Below.refl M w).grown hg hB hge
  have hbB : Below B w w' := hbM.mono hBM
  have k1 : KeepTy 47 w w' := KeepTy.grown hg (fun g e => by obtain ⟨cur, hh⟩ := own_typed h1 e; exact NotTy.of hh (by decide))
  have k2 : KeepTy 44 w w' := KeepTy.grown hg (fun g e => by obtain ⟨cur, hh⟩ := own_typed h1 e; exact NotTy.of hh (by decide))
  refine h v' w' ⟨vs ++ [u], by simpa using hown, by simp [h2], fun i hi hv => ?_⟩ hbM hg hn
  by_cases hil : i < st.length
  · rw [List.getElem_append_left hil, List.getElem_append_left (by omega)]
    exact (h3 i hil (by omega)).keep hbB k1 k2
  · have : i = st.length := by simp at hi; omega
    subst this
    rw [List.getElem_append_right (Nat.le_refl _), List.getElem_append_right (by omega)]
    simp only [Nat.sub_self, List.getElem_cons_zero, h2]
    exact hu.keep hbB k1 k2
end Go.Proofs.Ytmlfeocdcjhhaaa

namespace Go.Proofs.Ytmlfeocdcjhhaaa
set_option maxRecDepth 100000
open Go.RowKit
set_option linter.unusedVariables false
set_option linter.unusedSimpArgs false
attribute [local go_sem ↓] Go.wp_at_zero Go.wp_at_succ

theorem CopS.same {B : Bd} {w w' : World} {v : Value} {xs : List Cop} (h : CopS B w v xs) (hB : Below B w w') (k1 : KeepTy 47 w w') (he : ∀ b off n c, v = .slice (some ⟨b, off, none⟩) n c → 0 < n → w'.heap[b]? = w.heap[b]?) : CopS B w' v xs := by
  obtain ⟨⟨a, cap, e, h1, h2, h3, hx⟩, ho⟩ := h
  refine ⟨⟨a, cap, e, h1, h2, h3, fun i hi => ?_⟩, fun b off n c e2 h0 => ?_⟩
  · obtain ⟨b, off, cs, e2, hat, hc⟩ := hx i hi
    subst e2
    have hb := he b off _ _ e (by omega)
    exact ⟨b, off, cs, rfl, copO_keep hB k1 _ _ hat, fun j u hj => (World.cell?_of_block (w := w) (a := ⟨b, off + i * (copO B).n + j, none⟩) hb).trans (hc j u hj)⟩
  · have hb := he b off n c e2 h0
    refine ⟨(ho b off n c e2 h0).1, ?_⟩
    rcases (ho b off n c e2 h0).2 with h | ⟨h0, cur, h⟩
    · exact .inl h
    · exact .inr ⟨h0, cur, hb.trans h⟩
end Go.Proofs.Ytmlfeocdcjhhaaa
