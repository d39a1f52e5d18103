import Derived.Test.YtabodlhlanolcaaA29
import Derived.Test.YtabodlhlanolcaaElem
namespace Go.Proofs.Ytabodlhlanolcaa
set_option maxRecDepth 100000
open Go.RowKit
set_option linter.unusedVariables false
set_option linter.unusedSimpArgs false
attribute [local go_sem ↓] Go.wp_at_zero Go.wp_at_succ

/-! windrowlaw10.input. -/
theorem Rep.lit_els {α : Type} {R : Rep α} {w : World} {g : Nat} {cs : List Value} {t : TypeId} {xs : List α} (hg : w.heap[g]? = some (.cells cs.toArray t (0, 0)))
    (h : ∀ i, (hi : i < xs.length) → ∃ ds, R.At w ds xs[i] ∧ ∀ j v, ds[j]? = some v → cs[i * R.n + j]? = some v) : R.Els w (some ⟨g, 0, none⟩) xs := fun i hi => by
  obtain ⟨ds, h1, h2⟩ := h i hi
  exact ⟨g, 0, ds, rfl, h1, fun j v hj => by rw [Nat.zero_add]; exact (blockCells hg _).trans (h2 j v hj)⟩
/-- n, the variable -/
def monoN : Mono := ⟨1, 1, 0, 0, 0, 0, 0⟩
theorem monoN_wf : monoN.wf := ⟨by decide, by decide, by decide, by decide, by decide, by decide, by decide⟩
/-- a list of two lists of one monomial each -/
def TwoAt (w : World) (u : Value) (m m' : Mono) : Prop := ∃ g1 g2 g3, u = .slice (some ⟨g3, 0, none⟩) 2 2 ∧ w.heap[g1]? = some (.cells m.enc.toArray 39 (0, 0)) ∧ w.heap[g2]? = some (.cells m'.enc.toArray 39 (0, 0)) ∧
  w.heap[g3]? = some (.cells [.slice (some ⟨g1, 0, none⟩) 1 1, .slice (some ⟨g2, 0, none⟩) 1 1].toArray 40 (0, 0))
theorem one_sl {w : World} {g : Nat} {m : Mono} (hm : m.wf) {t : TypeId} (h : w.heap[g]? = some (.cells m.enc.toArray t (0, 0))) : monoRep.Sl w (.slice (some ⟨g, 0, none⟩) 1 1) [m] :=
  ⟨_, 1, rfl, Nat.le_refl _, by decide, (fun e => by cases e), Rep.lit_els h fun i hi => by
    have : i = 0 := by simpa using hi
    subst this
    exact ⟨m.enc, ⟨rfl, hm⟩, fun j v hj => by rw [Nat.zero_mul, Nat.zero_add]; exact hj⟩⟩
theorem TwoAt.sl {w : World} {u : Value} {m m' : Mono} (h : TwoAt w u m m') (hm : m.wf) (hm' : m'.wf) : polyRep.Sl w u [[m], [m']] := by
  obtain ⟨g1, g2, g3, rfl, h1, h2, h3⟩ := h
  refine ⟨_, 2, rfl, Nat.le_refl _, by decide, (fun e => by cases e), Rep.lit_els h3 fun i hi => ?_⟩
  match i, hi with
  | 0, _ => exact ⟨_, ⟨_, rfl, one_sl hm h1⟩, fun j v hj => by
      match j with
      | 0 => cases hj; rfl
      | j + 1 => cases hj⟩
  | 1, _ => exact ⟨_, ⟨_, rfl, one_sl hm' h2⟩, fun j v hj => by
      match j with
      | 0 => cases hj; rfl
      | j + 1 => cases hj⟩
theorem TwoAt.kb {S : Nat → Prop} {w w' : World} {u : Value} {m m' : Mono} (h : TwoAt w u m m') (hk : KB S w w') (hS : ∀ g cs t, w.heap[g]? = some (.cells cs t (0, 0)) → S g → t ≠ 39 ∧ t ≠ 40) : TwoAt w' u m m' := by
  obtain ⟨g1, g2, g3, e, h1, h2, h3⟩ := h
  exact ⟨g1, g2, g3, e, (hk.block g1 (block_lt h1) (fun s => (hS _ _ _ h1 s).1 rfl)).trans h1, (hk.block g2 (block_lt h2) (fun s => (hS _ _ _ h2 s).1 rfl)).trans h2, (hk.block g3 (block_lt h3) (fun s => (hS _ _ _ h3 s).2 rfl)).trans h3⟩
def inBuf (i : Nat) : Buf := ⟨[[monoN], [monoN]], (i : Int)⟩
def inCor (many : Nat) : Cor := ⟨1, (List.range many).map inBuf, [], []⟩
/-- the cells of k buffers -/
def BufCs (w : World) (cs : List Value) (k : Nat) : Prop := cs.length = 2 * k ∧ ∀ i, i < k → ∃ u, cs[2 * i]? = some u ∧ cs[2 * i + 1]? = some (.int .i64 (i : Int)) ∧ TwoAt w u monoN monoN
structure InIn (w W : World) (M C R k : Nat) (v : Value) (cs : List Value) : Prop where
  below : Below w.heap.size w W
  mono : W.heap[M]? = some (.cells monoN.enc.toArray 39 (0, 0))
  core : W.heap[C]? = some (.cells #[.int .i64 1, v, .slice none 0 0, .slice none 0 0] 26 (0, 0))
  res : W.heap[R]? = some (.cells #[.int .i64 0, .slice none 0 0, .slice none 0 0, .slice none 0 0] 26 (0, 0))
  own : W.ownsRow w.heap.size 36 2 v k cs
  bufs : BufCs W cs k
theorem own_type {W : World} {B n size : Nat} {t : TypeId} {v : Value} {xs : List Value} (h : W.ownsRow B t size v n xs) (g : Nat) (e : v.ownBlock = some g) : ∃ cur, W.heap[g]? = some (.cells cur t (0, 0)) := by
  obtain ⟨_, ⟨rfl, _⟩ | ⟨g', cap, cur, rfl, _, hg, _⟩⟩ := h
  · cases e
  · cases e; exact ⟨_, hg⟩
theorem own_ne {W : World} {B n size G : Nat} {t t' : TypeId} {v : Value} {xs : List Value} {cs : Array Value} (h : W.ownsRow B t size v n xs) (hG : W.heap[G]? = some (.cells cs t' (0, 0))) (ht : t' ≠ t) : v.ownBlock ≠ some G := fun e => by
  obtain ⟨cur, hc⟩ := own_type h G e
  rw [hG] at hc
  cases hc
  exact ht rfl
theorem src_lit (W : World) (cs : Array Value) (t : TypeId) (m : Nat) (news : List Value) (G : Nat) (hG : W.heap.size = G) (hn : news = cs.toList) : Src (W.alloc (.cells cs t)) (.slice (some ⟨G, 0, none⟩) m m) m news := by
  subst hG hn
  refine .inr ⟨_, _, rfl, fun j z hz => ?_⟩
  have e : (⟨W.heap.size, 0, none⟩ : Addr).add j = ⟨W.heap.size, j, none⟩ := by unfold Addr.add; split <;> simp_all
  rw [e, cell_of_row _ _ j _ _ _ (World.alloc_heap_new W _)]
  simpa using hz
theorem InIn.kb {w W W4 W' : World} {M C R k : Nat} {v : Value} {cs : List Value} (h : InIn w W M C R k v cs) (h4 : Below W.heap.size W W4) (hg : W4.grownBy W' v.ownBlock) : KB (fun b => v.ownBlock = some b) W W' :=
  (KB.of_below h4 (fun g h1 h2 => by omega)).grown hg (fun q e _ => e)
theorem InIn.put {w W W4 W' : World} {M C R k : Nat} {v v' u : Value} {cs : List Value} (h : InIn w W M C R k v cs) (hC : w.heap.size ≤ C) (hMC : M ≠ C) (hRC : R ≠ C) (h4 : Below W.heap.size W W4) (hu : TwoAt W4 u monoN monoN) (hg : W4.grownBy W' v.ownBlock)
    (hown : W'.ownsRow w.heap.size 36 2 v' (k + 1) (cs ++ [u, .int .i64 (k : Int)])) : InIn w (W'.setCell ⟨C, 1, none⟩ v') M C R (k + 1) v' (cs ++ [u, .int .i64 (k : Int)]) := by
  have hk := h.kb h4 hg
  have hk4 : KB (fun b => v.ownBlock = some b) W4 W' := (KB.refl _ _).grown hg (fun q e _ => e)
  have hcore : W'.heap[C]? = some (.cells #[.int .i64 1, v, .slice none 0 0, .slice none 0 0] 26 (0, 0)) := (hk.block C (block_lt h.core) (own_ne h.own h.core (by decide))).trans h.core
  have hv' := own_ne hown hcore (by decide)
  have hk2 : KB (fun b => v.ownBlock = some b ∨ b = C) W (W'.setCell ⟨C, 1, none⟩ v') := (hk.mono (fun g _ e => .inl e)).setCell (fun _ => .inr rfl) _
  have hk42 : KB (fun b => v.ownBlock = some b ∨ b = C) W4 (W'.setCell ⟨C, 1, none⟩ v') := (hk4.mono (fun g _ e => .inl e)).setCell (fun _ => .inr rfl) _
  have hty : ∀ (w9 : World), Below W.heap.size W w9 → ∀ g cs' t, w9.heap[g]? = some (.cells cs' t (0, 0)) → (v.ownBlock = some g ∨ g = C) → t ≠ 39 ∧ t ≠ 40 := fun w9 h9 g cs' t hg' hS => by
    rcases hS with e | rfl
    · obtain ⟨cur, hc⟩ := own_type h.own g e
      have := (keepBlock hc h9).symm.trans hg'
      cases this
      exact ⟨by decide, by decide⟩
    · have := (keepBlock h.core h9).symm.trans hg'
      cases this
      exact ⟨by decide, by decide⟩
  refine ⟨h.below.trans (hk2.below h.below.size (fun g e => ?_)), (hk2.block M (block_lt h.mono) ?_).trans h.mono, ?_, (hk2.block R (block_lt h.res) ?_).trans h.res, own_other hown (fun g e hgc => hv' (by rw [e, hgc])) _, ?_, fun i hi => ?_⟩
  · rcases e with e | rfl
    · exact (World.ownsRow.lt h.own g e).1
    · exact hC
  · rintro (e | e)
    · exact own_ne h.own h.mono (by decide) e
    · exact hMC e
  · rw [heap_setCell_same _ C _ _ _ _ hcore]; rfl
  · rintro (e | e)
    · exact own_ne h.own h.res (by decide) e
    · exact hRC e
  · rw [List.length_append, h.bufs.1]; simp; omega
  · by_cases e : i = k
    · subst e
      refine ⟨u, ?_, ?_, hu.kb hk42 (hty W4 h4)⟩
      · rw [List.getElem?_append_right (by rw [h.bufs.1]; omega), h.bufs.1]; simp
      · rw [List.getElem?_append_right (by rw [h.bufs.1]; omega), h.bufs.1, show 2 * i + 1 - 2 * i = 1 from by omega]; rfl
    · obtain ⟨u', h1, h2, h3⟩ := h.bufs.2 i (by omega)
      refine ⟨u', ?_, ?_, h3.kb hk2 (hty W (Below.refl _ _))⟩
      · rw [List.getElem?_append_left (by rw [h.bufs.1]; omega)]; exact h1
      · rw [List.getElem?_append_left (by rw [h.bufs.1]; omega)]; exact h2
theorem inIn_new (w : World) : InIn w (((w.alloc (.cells #[.int .i64 0, .slice none 0 0, .slice none 0 0, .slice none 0 0] 26)).alloc (.cells #[.int .i64 1, .int .u8 1, .int .u8 0, .int .u8 0, .int .u8 0, .int .u8 0, .int .u8 0] 39)).alloc (.cells #[.int .i64 1, .slice none 0 0, .slice none 0 0, .slice none 0 0] 26))
    (w.heap.size + 1) (w.heap.size + 1 + 1) w.heap.size 0 (.slice none 0 0) [] := by
  have n0 := World.alloc_heap_new w (.cells #[.int .i64 0, .slice none 0 0, .slice none 0 0, .slice none 0 0] 26)
  have n1 := World.alloc_heap_new (w.alloc (.cells #[.int .i64 0, .slice none 0 0, .slice none 0 0, .slice none 0 0] 26)) (.cells #[.int .i64 1, .int .u8 1, .int .u8 0, .int .u8 0, .int .u8 0, .int .u8 0, .int .u8 0] 39)
  have n2 := World.alloc_heap_new ((w.alloc (.cells #[.int .i64 0, .slice none 0 0, .slice none 0 0, .slice none 0 0] 26)).alloc (.cells #[.int .i64 1, .int .u8 1, .int .u8 0, .int .u8 0, .int .u8 0, .int .u8 0, .int .u8 0] 39)) (.cells #[.int .i64 1, .slice none 0 0, .slice none 0 0, .slice none 0 0] 26)
  simp only [World.size_alloc] at n1 n2
  exact ⟨(((Below.refl _ _).alloc (Nat.le_refl _) _).alloc (by simp) _).alloc (by simp; omega) _, oldBlock n1 _, n2, oldBlock (oldBlock n0 _) _, World.ownsRow_nil _ _ _ _, rfl, fun i hi => absurd hi (Nat.not_lt_zero i)⟩
theorem els_of {B : Nat} {W : World} {k : Nat} {v : Value} {cs : List Value} (ho : W.ownsRow B 36 2 v k cs) (hb : BufCs W cs k) : ∃ ba bc, v = .slice ba k bc ∧ bufRep.Els W ba ((List.range k).map inBuf) := by
  obtain ⟨h1, ⟨rfl, rfl⟩ | ⟨g, cap, cur, rfl, hB, hg, h3⟩⟩ := id ho
  · exact ⟨none, 0, rfl, fun i hi => by simp at hi⟩
  · refine ⟨some ⟨g, 0, none⟩, cap, rfl, fun i hi => ?_⟩
    have hik : i < k := by simpa using hi
    obtain ⟨u, c0, c1, ht⟩ := hb.2 i hik
    have hc := World.ownsRow.cells (g := g) (w := W) ho rfl
    have e : ∀ j, (⟨g, 0, none⟩ : Addr).add j = ⟨g, j, none⟩ := fun j => by unfold Addr.add; split <;> simp_all
    refine ⟨g, 0, [u, .int .i64 (i : Int)], rfl, ?_, fun j z hj => ?_⟩
    · rw [List.getElem_map, List.getElem_range]
      exact ⟨u, rfl, ht.sl monoN_wf monoN_wf, by show -9223372036854775808 ≤ (i : Int) ∧ (i : Int) ≤ 9223372036854775807; have := h3.2.1; unfold maxLen at this; omega⟩
    · have h0 := hc (2 * i) _ c0
      have h1 := hc (2 * i + 1) _ c1
      rw [e] at h0 h1
      simp only [show bufRep.n = 2 from rfl, Nat.zero_add, Nat.mul_comm i 2]
      match j with
      | 0 => cases hj; exact h0
      | 1 => cases hj; exact h1
      | j + 2 => cases hj
theorem InIn.fin {w W W' : World} {M C R k : Nat} {v : Value} {cs : List Value} (h : InIn w W M C R k v cs) (hR : w.heap.size ≤ R) (hk : KB (fun b => b = R) W W') : Below w.heap.size w W' ∧ ∃ ba bc, v = .slice ba k bc ∧ bufRep.Els W' ba ((List.range k).map inBuf) := by
  refine ⟨h.below.trans (hk.below h.below.size (fun g e => by omega)), els_of (hk.row h.own fun g e e' => by subst e'; exact own_ne h.own h.res (by decide) e) ⟨h.bufs.1, fun i hi => ?_⟩⟩
  obtain ⟨u, c0, c1, ht⟩ := h.bufs.2 i hi
  refine ⟨u, c0, c1, ht.kb hk fun g cs' t hg e => ?_⟩
  have e : g = R := e
  subst e
  have := h.res.symm.trans hg
  cases this
  exact ⟨by decide, by decide⟩
theorem two_new (wr : World) (o4 : Obj) :
    Below wr.heap.size wr ((((wr.alloc (.cells #[.int .i64 1, .int .u8 1, .int .u8 0, .int .u8 0, .int .u8 0, .int .u8 0, .int .u8 0] 39)).alloc (.cells #[.int .i64 1, .int .u8 1, .int .u8 0, .int .u8 0, .int .u8 0, .int .u8 0, .int .u8 0] 39)).alloc (.cells #[.slice (some ⟨wr.heap.size, 0, none⟩) 1 1, .slice (some ⟨wr.heap.size + 1, 0, none⟩) 1 1] 40)).alloc o4) ∧
    TwoAt ((((wr.alloc (.cells #[.int .i64 1, .int .u8 1, .int .u8 0, .int .u8 0, .int .u8 0, .int .u8 0, .int .u8 0] 39)).alloc (.cells #[.int .i64 1, .int .u8 1, .int .u8 0, .int .u8 0, .int .u8 0, .int .u8 0, .int .u8 0] 39)).alloc (.cells #[.slice (some ⟨wr.heap.size, 0, none⟩) 1 1, .slice (some ⟨wr.heap.size + 1, 0, none⟩) 1 1] 40)).alloc o4) (.slice (some ⟨wr.heap.size + 1 + 1, 0, none⟩) 2 2) monoN monoN := by
  have n0 := World.alloc_heap_new wr (.cells #[.int .i64 1, .int .u8 1, .int .u8 0, .int .u8 0, .int .u8 0, .int .u8 0, .int .u8 0] 39)
  have n1 := World.alloc_heap_new (wr.alloc (.cells #[.int .i64 1, .int .u8 1, .int .u8 0, .int .u8 0, .int .u8 0, .int .u8 0, .int .u8 0] 39)) (.cells #[.int .i64 1, .int .u8 1, .int .u8 0, .int .u8 0, .int .u8 0, .int .u8 0, .int .u8 0] 39)
  have n2 := World.alloc_heap_new ((wr.alloc (.cells #[.int .i64 1, .int .u8 1, .int .u8 0, .int .u8 0, .int .u8 0, .int .u8 0, .int .u8 0] 39)).alloc (.cells #[.int .i64 1, .int .u8 1, .int .u8 0, .int .u8 0, .int .u8 0, .int .u8 0, .int .u8 0] 39)) (.cells #[.slice (some ⟨wr.heap.size, 0, none⟩) 1 1, .slice (some ⟨wr.heap.size + 1, 0, none⟩) 1 1] 40)
  simp only [World.size_alloc] at n1 n2
  exact ⟨((((Below.refl _ _).alloc (Nat.le_refl _) _).alloc (by simp) _).alloc (by simp; omega) _).alloc (by simp; omega) _, _, _, _, rfl, oldBlock (oldBlock (oldBlock n0 _) _) _, oldBlock (oldBlock n1 _) _, oldBlock n2 _⟩
theorem Try.infoBuf : (Try.prog.info? 36).map (fun i => (i.zero, i.size, i.bytes)) = some (some (.agg #[.slice none 0 0, .int .i64 0]), 2, 32) := by kernel_rfl
set_option maxHeartbeats 16000000 in
theorem input_any (w : World) (many : Nat) (hm : many ≤ 64) : Calls Try.prog 21 #[.int .i64 (many : Int)] w fun e w' => (∃ ba bc, e = .returned (corV (inCor many) ba none none bc 0 0) ∧ CorEls w' (inCor many) ba none none) ∧ Below w.heap.size w w' := by
  obtain ⟨i0, hi, hz0, hz1, hz2⟩ := info_parts Try.infoBuf
  have Hi := Lib.hid hi; have Hz0 := Lib.hid hz0; have Hz1 := Lib.hid hz1; have Hz2 := Lib.hid hz2; clear hi hz0 hz1 hz2
  go_enter Try.func21, Try.ntmps21
  go_upto_region 4 with fail
  refine gen_worldA (fun W => InIn w W (w.heap.size + 1) (w.heap.size + 1 + 1) w.heap.size 0 (.slice none 0 0) []) (inIn_new w) ?_
  intro W hin
  obtain ⟨M, hM⟩ : ∃ M, w.heap.size + 1 = M := ⟨_, rfl⟩
  rw [hM] at hin ⊢
  obtain ⟨C, hC⟩ : ∃ C, M + 1 = C := ⟨_, rfl⟩
  rw [hC] at hin ⊢
  obtain ⟨R, hR⟩ : ∃ R, w.heap.size = R := ⟨_, rfl⟩
  rw [hR] at hM ⊢
  have hin' : InIn w W M C R 0 (.slice none 0 0) [] := by rw [← hR]; exact hin
  have HH : Hid (w.heap.size ≤ C ∧ M ≠ C ∧ R ≠ C ∧ w.heap.size ≤ R) := Lib.hid ⟨by omega, by omega, by omega, by omega⟩
  have HIN := Lib.hid hin'
  clear hin hin' hM hC hR
  go_wp2_with fail
  go_loopw [5] (fun i wr => ∃ (k : Nat) (v : Value) (cs : List Value), k ≤ many ∧ i = .int .i64 k ∧ InIn w wr M C R k v cs) (fun i _ => many - (intOf i).toNat)
  case atStart => exact ⟨0, _, _, Nat.zero_le _, rfl, HIN.out⟩
  case round =>
    clear HIN
    obtain ⟨k, v, cs, hk, rfl, hin⟩ := hrel
    have HIN := Lib.hid hin
    have c1 : wr.cell? ⟨C, 1, none⟩ = some v := blockCells (cs := [.int .i64 1, v, .slice none 0 0, .slice none 0 0]) hin.core 1
    by_cases hlt : k < many
    · have hz0 : (k : Int) < (many : Int) := by omega
      have hm := blockCells hin.mono
      have m0 : wr.cell? ⟨M, 0, none⟩ = some (.int .i64 1) := hm 0
      have m1 : wr.cell? ⟨M, 1, none⟩ = some (.int .u8 1) := hm 1
      have m2 : wr.cell? ⟨M, 2, none⟩ = some (.int .u8 0) := hm 2
      have m3 : wr.cell? ⟨M, 3, none⟩ = some (.int .u8 0) := hm 3
      have m4 : wr.cell? ⟨M, 4, none⟩ = some (.int .u8 0) := hm 4
      have m5 : wr.cell? ⟨M, 5, none⟩ = some (.int .u8 0) := hm 5
      have m6 : wr.cell? ⟨M, 6, none⟩ = some (.int .u8 0) := hm 6
      have hMl := block_lt hin.mono; have hCl := block_lt hin.core
      clear hin hm
      go_wp2_with (at_builtin; (refine wpList_append_src _ rfl _ _ 22 rfl w.heap.size 36 i0 _ 2 32 Try.underlying22 Hi.out Hz0.out Hz1.out Hz2.out rfl (by decide) _ k cs rfl (((((HIN.out.own).alloc _).alloc _).alloc _).alloc _) _ 1 [.slice (some ⟨wr.heap.size + 1 + 1, 0, none⟩) 2 2, .int .i64 (k : Int)] rfl (src_lit _ _ _ _ _ _ (by simp) rfl) rfl ?h1 (by unfold maxLen; omega) (by omega) (by have := HIN.out.below.size; simp; omega) ?_))
      case h1 => intro u hu; simp at hu; rcases hu with rfl | rfl <;> rfl
      intro v' w' hown hg _
      obtain ⟨h4, hu⟩ := two_new wr (.cells #[.slice (some ⟨wr.heap.size + 1 + 1, 0, none⟩) 2 2, .int .i64 (k : Int)] 36)
      have hkb := HIN.out.kb h4 hg
      have hput := HIN.out.put HH.out.1 HH.out.2.1 HH.out.2.2.1 h4 hu hg hown
      have hnC := own_ne HIN.out.own HIN.out.core (by decide)
      have c1' := (hkb.cell (p := ⟨C, 1, none⟩) hCl hnC).trans c1
      have c1f := (hkb.frozen (p := ⟨C, 1, none⟩) hCl hnC).trans (frozen_of_row _ C 1 _ _ HIN.out.core)
      obtain ⟨g9, cap9, rfl⟩ := own_form hown (by omega)
      have HP := Lib.hid hput
      clear h4 hu hkb hput hnC hown hg m0 m1 m2 m3 m4 m5 m6 c1 hMl hCl
      go_wp2_with fail
      go_roundw
      case rel => exact ⟨k + 1, _, _, by omega, by go_num, HP.out⟩
      case measure => simp [intOf]; omega
    · obtain rfl : k = many := by omega
      obtain ⟨ba, bc, rfl, hbe⟩ := els_of hin.own hin.bufs
      have hcc := blockCells (cs := [.int .i64 1, .slice ba k bc, .slice none 0 0, .slice none 0 0]) hin.core
      have hrc := blockCells (cs := [.int .i64 0, .slice none 0 0, .slice none 0 0, .slice none 0 0]) hin.res
      have c0 : wr.cell? ⟨C, 0, none⟩ = some (.int .i64 1) := hcc 0
      have c2 : wr.cell? ⟨C, 2, none⟩ = some (.slice none 0 0) := hcc 2
      have c3 : wr.cell? ⟨C, 3, none⟩ = some (.slice none 0 0) := hcc 3
      have r0 : wr.cell? ⟨R, 0, none⟩ = some (.int .i64 0) := hrc 0
      have r1 : wr.cell? ⟨R, 1, none⟩ = some (.slice none 0 0) := hrc 1
      have r2 : wr.cell? ⟨R, 2, none⟩ = some (.slice none 0 0) := hrc 2
      have r3 : wr.cell? ⟨R, 3, none⟩ = some (.slice none 0 0) := hrc 3
      have f0 := frozen_of_row _ R 0 _ _ hin.res; have f1 := frozen_of_row _ R 1 _ _ hin.res; have f2 := frozen_of_row _ R 2 _ _ hin.res; have f3 := frozen_of_row _ R 3 _ _ hin.res
      clear hin hcc hrc hbe
      have hl : (inCor k).bufs.length = k := by simp [inCor]
      have HL := Lib.hid hl
      clear hl
      go_wp2_with fail
      obtain ⟨hB, ba', bc', e, hE⟩ := HIN.out.fin (W' := ((((wr.setCell ⟨R, 0, none⟩ (.int .i64 1)).setCell ⟨R, 1, none⟩ (.slice ba k bc)).setCell ⟨R, 2, none⟩ (.slice none 0 0)).setCell ⟨R, 3, none⟩ (.slice none 0 0))) HH.out.2.2.2 (((((KB.refl (fun b => b = R) _).setCell (p := ⟨R, 0, none⟩) (fun _ => rfl) _).setCell (p := ⟨R, 1, none⟩) (fun _ => rfl) _).setCell (p := ⟨R, 2, none⟩) (fun _ => rfl) _).setCell (p := ⟨R, 3, none⟩) (fun _ => rfl) _)
      cases e
      have hfin : ((((wr.setCell ⟨R, 0, none⟩ (.int .i64 1)).setCell ⟨R, 1, none⟩ (.slice ba k bc)).setCell ⟨R, 2, none⟩ (.slice none 0 0)).setCell ⟨R, 3, none⟩ (.slice none 0 0)).heap[R]? = some (.cells #[.int .i64 1, .slice ba k bc, .slice none 0 0, .slice none 0 0] 26 (0, 0)) := by
        rw [heap_setCell_same _ R _ _ _ _ (heap_setCell_same _ R _ _ _ _ (heap_setCell_same _ R _ _ _ _ (heap_setCell_same _ R _ _ _ _ HIN.out.res)))]; rfl
      refine bodyPost_ret (v := .agg #[.int .i64 1, .slice ba k bc, .slice none 0 0, .slice none 0 0]) (results_cell_row rfl _ _ R 26 #[.int .i64 1, .slice ba k bc, .slice none 0 0, .slice none 0 0] (0, 0) _ rfl hfin Try.underlying26 rfl (by kernel_rfl)) rfl ?_
      refine ⟨⟨ba, bc, ?_, hE, by simp [inCor]; omega, fun i hi => by simp [inCor] at hi, by simp [inCor], fun i hi => by simp [inCor] at hi, by simp [inCor]⟩, hB⟩
      unfold corV
      rw [HL.out]
      rfl
end Go.Proofs.Ytabodlhlanolcaa
