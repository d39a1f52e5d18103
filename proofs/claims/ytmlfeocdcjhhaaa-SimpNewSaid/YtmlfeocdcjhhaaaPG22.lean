import Derived.Test.YtmlfeocdcjhhaaaPG21
import Derived.Test.YtmlfeocdcjhhaaaPG13
-- DROPS
namespace Go.Proofs.Ytmlfeocdcjhhaaa
set_option maxRecDepth 100000
open Go.RowKit
set_option linter.unusedVariables false
set_option linter.unusedSimpArgs false
attribute [local go_sem ↓] Go.wp_at_zero Go.wp_at_succ

/-! windrowref10.Dims, windrowref10.Cells. -/
def dimsV (V : Nat) (D : List Int) : Bool := decide ((D.length : Int) = (V : Int)) && !D.any dimQ
theorem dimsV_bad {V : Nat} {D : List Int} {k : Nat} (hk : k < D.length) (h : dimQ D[k] = true) : dimsV V D = false := by
  unfold dimsV
  rw [show D.any dimQ = true from List.any_eq_true.2 ⟨_, List.getElem_mem hk, h⟩, Bool.not_true, Bool.and_false]
theorem dimsV_good {V : Nat} {D : List Int} (hl : D.length = V) (h : ∀ k, (hk : k < D.length) → dimQ D[k] = false) : dimsV V D = true := by
  unfold dimsV
  rw [show D.any dimQ = false from List.any_eq_false.2 (fun x hx => by obtain ⟨k, hk, rfl⟩ := List.getElem_of_mem hx; rw [h k hk]; simp), decide_eq_true (by omega)]; rfl
end Go.Proofs.Ytmlfeocdcjhhaaa

namespace Go.Proofs.Ytmlfeocdcjhhaaa
set_option maxRecDepth 100000
open Go.RowKit
set_option linter.unusedVariables false
-- DROPS
set_option linter.unusedSimpArgs false
attribute [local go_sem ↓] Go.wp_at_zero Go.wp_at_succ

/-! windrowlaw10.input. -/
theorem Rep.lit_els {α : Type} {R : Rep α} {w : World} {g : Nat} {cs : List Value} {t : TypeId} {xs : List α} (hg : w.heap[g]? = some (.cells cs.toArray t (0, 0)))
    (h : ∀ i, (hi : i < xs.length) → ∃ ds, R.At w ds xs[i] ∧ ∀ j v, ds[j]? = some v → cs[i * R.n + j]? = some v) : R.Els w (some ⟨g, 0, none⟩) xs := fun i hi => by
  obtain ⟨ds, h1, h2⟩ := h i hi
  exact ⟨g, 0, ds, rfl, h1, fun j v hj => by rw [Nat.zero_add]; exact (blockCells hg _).trans (h2 j v hj)⟩
/-- n, the variable -/
def monoN : Mono := ⟨1, 1, 0, 0, 0, 0, 0⟩
theorem monoN_wf : monoN.wf := ⟨by decide, by decide, by decide, by decide, by decide, by decide, by decide⟩
/-- a list of two lists of one monomial each -/
def TwoAt (w : World) (u : Value) (m m' : Mono) : Prop := ∃ g1 g2 g3, u = .slice (some ⟨g3, 0, none⟩) 2 2 ∧ w.heap[g1]? = some (.cells m.enc.toArray 47 (0, 0)) ∧ w.heap[g2]? = some (.cells m'.enc.toArray 47 (0, 0)) ∧
  w.heap[g3]? = some (.cells [.slice (some ⟨g1, 0, none⟩) 1 1, .slice (some ⟨g2, 0, none⟩) 1 1].toArray 38 (0, 0))
theorem one_sl {w : World} {g : Nat} {m : Mono} (hm : m.wf) {t : TypeId} (h : w.heap[g]? = some (.cells m.enc.toArray t (0, 0))) : monoRep.Sl w (.slice (some ⟨g, 0, none⟩) 1 1) [m] :=
  ⟨_, 1, rfl, Nat.le_refl _, by decide, (fun e => by cases e), Rep.lit_els h fun i hi => by
    have : i = 0 := by simpa using hi
    subst this
    exact ⟨m.enc, ⟨rfl, hm⟩, fun j v hj => by rw [Nat.zero_mul, Nat.zero_add]; exact hj⟩⟩
theorem TwoAt.sl {w : World} {u : Value} {m m' : Mono} (h : TwoAt w u m m') (hm : m.wf) (hm' : m'.wf) : polyRep.Sl w u [[m], [m']] := by
  obtain ⟨g1, g2, g3, rfl, h1, h2, h3⟩ := h
  refine ⟨_, 2, rfl, Nat.le_refl _, by decide, (fun e => by cases e), Rep.lit_els h3 fun i hi => ?_⟩
  match i, hi with
  | 0, _ => exact ⟨_, ⟨_, rfl, one_sl hm h1⟩, fun j v hj => by
      match j with
      | 0 => cases hj; rfl
      | j + 1 => cases hj⟩
  | 1, _ => exact ⟨_, ⟨_, rfl, one_sl hm' h2⟩, fun j v hj => by
      match j with
      | 0 => cases hj; rfl
      | j + 1 => cases hj⟩
theorem TwoAt.kb {S : Nat → Prop} {w w' : World} {u : Value} {m m' : Mono} (h : TwoAt w u m m') (hk : KB S w w') (hS : ∀ g cs t, w.heap[g]? = some (.cells cs t (0, 0)) → S g → t ≠ 47 ∧ t ≠ 38) : TwoAt w' u m m' := by
  obtain ⟨g1, g2, g3, e, h1, h2, h3⟩ := h
  exact ⟨g1, g2, g3, e, (hk.block g1 (block_lt h1) (fun s => (hS _ _ _ h1 s).1 rfl)).trans h1, (hk.block g2 (block_lt h2) (fun s => (hS _ _ _ h2 s).1 rfl)).trans h2, (hk.block g3 (block_lt h3) (fun s => (hS _ _ _ h3 s).2 rfl)).trans h3⟩
def inBuf (i : Nat) : Buf := ⟨[[monoN], [monoN]], (i : Int)⟩
def inCor (many : Nat) : Cor := ⟨1, (List.range many).map inBuf, [], []⟩
/-- the cells of k buffers -/
def BufCs (w : World) (cs : List Value) (k : Nat) : Prop := cs.length = 2 * k ∧ ∀ i, i < k → ∃ u, cs[2 * i]? = some u ∧ cs[2 * i + 1]? = some (.int .i64 (i : Int)) ∧ TwoAt w u monoN monoN
structure InIn (w W : World) (M C R k : Nat) (v : Value) (cs : List Value) : Prop where
  below : Below w.heap.size w W
  mono : W.heap[M]? = some (.cells monoN.enc.toArray 47 (0, 0))
  core : W.heap[C]? = some (.cells #[.int .i64 1, v, .slice none 0 0, .slice none 0 0] 33 (0, 0))
  res : W.heap[R]? = some (.cells #[.int .i64 0, .slice none 0 0, .slice none 0 0, .slice none 0 0] 33 (0, 0))
  own : W.ownsRow w.heap.size 52 2 v k cs
  bufs : BufCs W cs k
theorem own_type {W : World} {B n size : Nat} {t : TypeId} {v : Value} {xs : List Value} (h : W.ownsRow B t size v n xs) (g : Nat) (e : v.ownBlock = some g) : ∃ cur, W.heap[g]? = some (.cells cur t (0, 0)) := by
  obtain ⟨_, ⟨rfl, _⟩ | ⟨g', cap, cur, rfl, _, hg, _⟩⟩ := h
  · cases e
  · cases e; exact ⟨_, hg⟩
theorem own_ne {W : World} {B n size G : Nat} {t t' : TypeId} {v : Value} {xs : List Value} {cs : Array Value} (h : W.ownsRow B t size v n xs) (hG : W.heap[G]? = some (.cells cs t' (0, 0))) (ht : t' ≠ t) : v.ownBlock ≠ some G := fun e => by
  obtain ⟨cur, hc⟩ := own_type h G e
  rw [hG] at hc
  cases hc
  exact ht rfl
theorem src_lit (W : World) (cs : Array Value) (t : TypeId) (m : Nat) (news : List Value) (G : Nat) (hG : W.heap.size = G) (hn : news = cs.toList) : Src (W.alloc (.cells cs t)) (.slice (some ⟨G, 0, none⟩) m m) m news := by
  subst hG hn
  refine .inr ⟨_, _, rfl, fun j z hz => ?_⟩
  have e : (⟨W.heap.size, 0, none⟩ : Addr).add j = ⟨W.heap.size, j, none⟩ := by unfold Addr.add; split <;> simp_all
  rw [e, cell_of_row _ _ j _ _ _ (World.alloc_heap_new W _)]
  simpa using hz
theorem InIn.kb {w W W4 W' : World} {M C R k : Nat} {v : Value} {cs : List Value} (h : InIn w W M C R k v cs) (h4 : Below W.heap.size W W4) (hg : W4.grownBy W' v.ownBlock) : KB (fun b => v.ownBlock = some b) W W' :=
  (KB.of_below h4 (fun g h1 h2 => by omega)).grown hg (fun q e _ => e)
theorem InIn.put {w W W4 W' : World} {M C R k : Nat} {v v' u : Value} {cs : List Value} (h : InIn w W M C R k v cs) (hC : w.heap.size ≤ C) (hMC : M ≠ C) (hRC : R ≠ C) (h4 : Below W.heap.size W W4) (hu : TwoAt W4 u monoN monoN) (hg : W4.grownBy W' v.ownBlock)
    (hown : W'.ownsRow w.heap.size 52 2 v' (k + 1) (cs ++ [u, .int .i64 (k : Int)])) : InIn w (W'.setCell ⟨C, 1, none⟩ v') M C R (k + 1) v' (cs ++ [u, .int .i64 (k : Int)]) := by
  have hk := h.kb h4 hg
  have hk4 : KB (fun b => v.ownBlock = some b) W4 W' := (KB.refl _ _).grown hg (fun q e _ => e)
  have hcore : W'.heap[C]? = some (.cells #[.int .i64 1, v, .slice none 0 0, .slice none 0 0] 33 (0, 0)) := (hk.block C (block_lt h.core) (own_ne h.own h.core (by decide))).trans h.core
  have hv' := own_ne hown hcore (by decide)
  have hk2 : KB (fun b => v.ownBlock = some b ∨ b = C) W (W'.setCell ⟨C, 1, none⟩ v') := (hk.mono (fun g _ e => .inl e)).setCell (fun _ => .inr rfl) _
  have hk42 : KB (fun b => v.ownBlock = some b ∨ b = C) W4 (W'.setCell ⟨C, 1, none⟩ v') := (hk4.mono (fun g _ e => .inl e)).setCell (fun _ => .inr rfl) _
  have hty : ∀ (w9 : World), Below W.heap.size W w9 → ∀ g cs' t, w9.heap[g]? = some (.cells cs' t (0, 0)) → (v.ownBlock = some g ∨ g = C) → t ≠ 47 ∧ t ≠ 38 := fun w9 h9 g cs' t hg' hS => by
    rcases hS with e | rfl
    · obtain ⟨cur, hc⟩ := own_type h.own g e
      have := (keepBlock hc h9).symm.trans hg'
      cases this
      exact ⟨by decide, by decide⟩
    · have := (keepBlock h.core h9).symm.trans hg'
      cases this
      exact ⟨by decide, by decide⟩
  refine ⟨h.below.trans (hk2.below h.below.size (fun g e => ?_)), (hk2.block M (block_lt h.mono) ?_).trans h.mono, ?_, (hk2.block R (block_lt h.res) ?_).trans h.res, own_other hown (fun g e hgc => hv' (by rw [e, hgc])) _, ?_, fun i hi => ?_⟩
  · rcases e with e | rfl
    · exact (World.ownsRow.lt h.own g e).1
    · exact hC
  · rintro (e | e)
    · exact own_ne h.own h.mono (by decide) e
    · exact hMC e
  · rw [heap_setCell_same _ C _ _ _ _ hcore]; rfl
  · rintro (e | e)
    · exact own_ne h.own h.res (by decide) e
    · exact hRC e
  · rw [List.length_append, h.bufs.1]; simp; omega
  · by_cases e : i = k
    · subst e
      refine ⟨u, ?_, ?_, hu.kb hk42 (hty W4 h4)⟩
      · rw [List.getElem?_append_right (by rw [h.bufs.1]; omega), h.bufs.1]; simp
      · rw [List.getElem?_append_right (by rw [h.bufs.1]; omega), h.bufs.1, show 2 * i + 1 - 2 * i = 1 from by omega]; rfl
    · obtain ⟨u', h1, h2, h3⟩ := h.bufs.2 i (by omega)
      refine ⟨u', ?_, ?_, h3.kb hk2 (hty W (Below.refl _ _))⟩
      · rw [List.getElem?_append_left (by rw [h.bufs.1]; omega)]; exact h1
      · rw [List.getElem?_append_left (by rw [h.bufs.1]; omega)]; exact h2
theorem inIn_new (w : World) : InIn w (((w.alloc (.cells #[.int .i64 0, .slice none 0 0, .slice none 0 0, .slice none 0 0] 33)).alloc (.cells #[.int .i64 1, .int .u8 1, .int .u8 0, .int .u8 0, .int .u8 0, .int .u8 0, .int .u8 0] 47)).alloc (.cells #[.int .i64 1, .slice none 0 0, .slice none 0 0, .slice none 0 0] 33))
    (w.heap.size + 1) (w.heap.size + 1 + 1) w.heap.size 0 (.slice none 0 0) [] := by
  have n0 := World.alloc_heap_new w (.cells #[.int .i64 0, .slice none 0 0, .slice none 0 0, .slice none 0 0] 33)
  have n1 := World.alloc_heap_new (w.alloc (.cells #[.int .i64 0, .slice none 0 0, .slice none 0 0, .slice none 0 0] 33)) (.cells #[.int .i64 1, .int .u8 1, .int .u8 0, .int .u8 0, .int .u8 0, .int .u8 0, .int .u8 0] 47)
  have n2 := World.alloc_heap_new ((w.alloc (.cells #[.int .i64 0, .slice none 0 0, .slice none 0 0, .slice none 0 0] 33)).alloc (.cells #[.int .i64 1, .int .u8 1, .int .u8 0, .int .u8 0, .int .u8 0, .int .u8 0, .int .u8 0] 47)) (.cells #[.int .i64 1, .slice none 0 0, .slice none 0 0, .slice none 0 0] 33)
  simp only [World.size_alloc] at n1 n2
  exact ⟨(((Below.refl _ _).alloc (Nat.le_refl _) _).alloc (by simp) _).alloc (by simp; omega) _, oldBlock n1 _, n2, oldBlock (oldBlock n0 _) _, World.ownsRow_nil _ _ _ _, rfl, fun i hi => absurd hi (Nat.not_lt_zero i)⟩
theorem els_of {B : Nat} {W : World} {k : Nat} {v : Value} {cs : List Value} (ho : W.ownsRow B 52 2 v k cs) (hb : BufCs W cs k) : ∃ ba bc, v = .slice ba k bc ∧ bufRep.Els W ba ((List.range k).map inBuf) := by
  obtain ⟨h1, ⟨rfl, rfl⟩ | ⟨g, cap, cur, rfl, hB, hg, h3⟩⟩ := id ho
  · exact ⟨none, 0, rfl, fun i hi => by simp at hi⟩
  · refine ⟨some ⟨g, 0, none⟩, cap, rfl, fun i hi => ?_⟩
    have hik : i < k := by simpa using hi
    obtain ⟨u, c0, c1, ht⟩ := hb.2 i hik
    have hc := World.ownsRow.cells (g := g) (w := W) ho rfl
    have e : ∀ j, (⟨g, 0, none⟩ : Addr).add j = ⟨g, j, none⟩ := fun j => by unfold Addr.add; split <;> simp_all
    refine ⟨g, 0, [u, .int .i64 (i : Int)], rfl, ?_, fun j z hj => ?_⟩
    · rw [List.getElem_map, List.getElem_range]
      exact ⟨u, rfl, ht.sl monoN_wf monoN_wf, by show -9223372036854775808 ≤ (i : Int) ∧ (i : Int) ≤ 9223372036854775807; have := h3.2.1; unfold maxLen at this; omega⟩
    · have h0 := hc (2 * i) _ c0
      have h1 := hc (2 * i + 1) _ c1
      rw [e] at h0 h1
      simp only [show bufRep.n = 2 from rfl, Nat.zero_add, Nat.mul_comm i 2]
      match j with
      | 0 => cases hj; exact h0
      | 1 => cases hj; exact h1
      | j + 2 => cases hj
theorem InIn.fin {w W W' : World} {M C R k : Nat} {v : Value} {cs : List Value} (h : InIn w W M C R k v cs) (hR : w.heap.size ≤ R) (hk : KB (fun b => b = R) W W') : Below w.heap.size w W' ∧ ∃ ba bc, v = .slice ba k bc ∧ bufRep.Els W' ba ((List.range k).map inBuf) := by
  refine ⟨h.below.trans (hk.below h.below.size (fun g e => by omega)), els_of (hk.row h.own fun g e e' => by subst e'; exact own_ne h.own h.res (by decide) e) ⟨h.bufs.1, fun i hi => ?_⟩⟩
  obtain ⟨u, c0, c1, ht⟩ := h.bufs.2 i hi
  refine ⟨u, c0, c1, ht.kb hk fun g cs' t hg e => ?_⟩
  have e : g = R := e
  subst e
  have := h.res.symm.trans hg
  cases this
  exact ⟨by decide, by decide⟩
theorem two_new (wr : World) (o4 : Obj) :
    Below wr.heap.size wr ((((wr.alloc (.cells #[.int .i64 1, .int .u8 1, .int .u8 0, .int .u8 0, .int .u8 0, .int .u8 0, .int .u8 0] 47)).alloc (.cells #[.int .i64 1, .int .u8 1, .int .u8 0, .int .u8 0, .int .u8 0, .int .u8 0, .int .u8 0] 47)).alloc (.cells #[.slice (some ⟨wr.heap.size, 0, none⟩) 1 1, .slice (some ⟨wr.heap.size + 1, 0, none⟩) 1 1] 38)).alloc o4) ∧
    TwoAt ((((wr.alloc (.cells #[.int .i64 1, .int .u8 1, .int .u8 0, .int .u8 0, .int .u8 0, .int .u8 0, .int .u8 0] 47)).alloc (.cells #[.int .i64 1, .int .u8 1, .int .u8 0, .int .u8 0, .int .u8 0, .int .u8 0, .int .u8 0] 47)).alloc (.cells #[.slice (some ⟨wr.heap.size, 0, none⟩) 1 1, .slice (some ⟨wr.heap.size + 1, 0, none⟩) 1 1] 38)).alloc o4) (.slice (some ⟨wr.heap.size + 1 + 1, 0, none⟩) 2 2) monoN monoN := by
  have n0 := World.alloc_heap_new wr (.cells #[.int .i64 1, .int .u8 1, .int .u8 0, .int .u8 0, .int .u8 0, .int .u8 0, .int .u8 0] 47)
  have n1 := World.alloc_heap_new (wr.alloc (.cells #[.int .i64 1, .int .u8 1, .int .u8 0, .int .u8 0, .int .u8 0, .int .u8 0, .int .u8 0] 47)) (.cells #[.int .i64 1, .int .u8 1, .int .u8 0, .int .u8 0, .int .u8 0, .int .u8 0, .int .u8 0] 47)
  have n2 := World.alloc_heap_new ((wr.alloc (.cells #[.int .i64 1, .int .u8 1, .int .u8 0, .int .u8 0, .int .u8 0, .int .u8 0, .int .u8 0] 47)).alloc (.cells #[.int .i64 1, .int .u8 1, .int .u8 0, .int .u8 0, .int .u8 0, .int .u8 0, .int .u8 0] 47)) (.cells #[.slice (some ⟨wr.heap.size, 0, none⟩) 1 1, .slice (some ⟨wr.heap.size + 1, 0, none⟩) 1 1] 38)
  simp only [World.size_alloc] at n1 n2
  exact ⟨((((Below.refl _ _).alloc (Nat.le_refl _) _).alloc (by simp) _).alloc (by simp; omega) _).alloc (by simp; omega) _, _, _, _, rfl, oldBlock (oldBlock (oldBlock n0 _) _) _, oldBlock (oldBlock n1 _) _, oldBlock n2 _⟩
theorem Try.infoBuf : (Try.prog.info? 52).map (fun i => (i.zero, i.size, i.bytes)) = some (some (.agg #[.slice none 0 0, .int .i64 0]), 2, 32) := by kernel_rfl
end Go.Proofs.Ytmlfeocdcjhhaaa

namespace Go.Proofs.Ytmlfeocdcjhhaaa
set_option maxRecDepth 100000
open Go.RowKit
set_option linter.unusedVariables false
-- DROPS
set_option linter.unusedSimpArgs false
attribute [local go_sem ↓] Go.wp_at_zero Go.wp_at_succ

/-! windrowlaw10.shown. -/
def shOp0 : Cop := ⟨1, 0, 2, [], 0⟩
def shOp1 : Cop := ⟨1, 0, 3, [], 0⟩
def shOp2 : Cop := ⟨6, 0, 0, [], 1⟩
def CopCs (o : Cop) : List Value := [.int .i64 o.how, .int .i64 o.k, .int .i64 o.n, .slice none 0 0, .int .u8 o.fn]
theorem copCs_at (w : World) (o : Cop) (hp : o.p = []) (h1 : I64 o.how) (h2 : I64 o.k) (h3 : I64 o.n) (h4 : U8 o.fn) : copRep.At w (CopCs o) o := ⟨_, rfl, by rw [hp]; exact Rep.Sl.nil _ _, h1, h2, h3, h4⟩
theorem sh_els {w : World} {g : Nat} (h : w.heap[g]? = some (.cells (CopCs shOp0 ++ CopCs shOp1 ++ CopCs shOp2).toArray 44 (0, 0))) : copRep.Els w (some ⟨g, 0, none⟩) [shOp0, shOp1, shOp2] ∧ copRep.Els w (some ⟨g, 10, none⟩) [shOp2] := by
  have a0 := copCs_at w shOp0 rfl (by unfold I64; decide) (by unfold I64; decide) (by unfold I64; decide) (by unfold U8; decide)
  have a1 := copCs_at w shOp1 rfl (by unfold I64; decide) (by unfold I64; decide) (by unfold I64; decide) (by unfold U8; decide)
  have a2 := copCs_at w shOp2 rfl (by unfold I64; decide) (by unfold I64; decide) (by unfold I64; decide) (by unfold U8; decide)
  refine ⟨Rep.lit_els h fun i hi => ?_, fun i hi => ?_⟩
  · match i, hi with
    | 0, _ => exact ⟨_, a0, fun j v hj => by
        match j with
        | 0 => exact hj
        | 1 => exact hj
        | 2 => exact hj
        | 3 => exact hj
        | 4 => exact hj
        | j + 5 => cases hj⟩
    | 1, _ => exact ⟨_, a1, fun j v hj => by
        match j with
        | 0 => exact hj
        | 1 => exact hj
        | 2 => exact hj
        | 3 => exact hj
        | 4 => exact hj
        | j + 5 => cases hj⟩
    | 2, _ => exact ⟨_, a2, fun j v hj => by
        match j with
        | 0 => exact hj
        | 1 => exact hj
        | 2 => exact hj
        | 3 => exact hj
        | 4 => exact hj
        | j + 5 => cases hj⟩
  · have : i = 0 := by simpa using hi
    subst this
    refine ⟨g, 10, _, rfl, a2, fun j v hj => (blockCells h _).trans ?_⟩
    match j with
    | 0 => exact hj
    | 1 => exact hj
    | 2 => exact hj
    | 3 => exact hj
    | 4 => exact hj
    | j + 5 => cases hj
theorem cells_5 : cellsS (inCor 1) [5] = (25, 0) := by kernel_rfl
theorem cells_65537 : cellsS (inCor 1) [65537] = (0, 101) := by kernel_rfl
theorem cells_300 : cellsS (inCor 2) [300] = (0, 102) := by kernel_rfl
theorem right_1 : rightB (inCor 1) = true := by kernel_rfl
theorem depth_3 : depthI [shOp0, shOp1, shOp2] = 2 := by kernel_rfl
theorem depth_1 : depthI [shOp2] = -1 := by kernel_rfl
theorem depth_0 : depthI [] = -1 := by kernel_rfl
theorem ccells_lit (w : World) (c : Cor) (ba sa oa : Option Addr) (bc sc oc : Nat) (h : CorEls w c ba sa oa) (d a b : Int) (hc : cellsS c [d] = (a, b)) (g : Nat) (hg : w.heap.size = g) :
    Calls Try.prog 39 #[corV c ba sa oa bc sc oc, .slice (some ⟨g, 0, none⟩) 1 1] (w.alloc (.cells #[.int .i64 d] 2)) fun e w' => e = .returned (.tuple #[.int .i64 a, .int .i64 b]) ∧ Below w.heap.size w w' := by
  subst hg
  have hb : Below w.heap.size w (w.alloc (.cells #[.int .i64 d] 2)) := (Below.refl _ _).alloc (Nat.le_refl _) _
  have := ccells_any (w.alloc (.cells #[.int .i64 d] 2)) c ba sa oa bc sc oc (h.below hb) (some ⟨w.heap.size, 0, none⟩) 1 [d] (IntsAt.lit .i64 w 2 [d]) (by simp)
  rw [hc] at this
  exact this.mono fun e w' hw => ⟨hw.1, bNext hw.2 hb⟩
end Go.Proofs.Ytmlfeocdcjhhaaa
