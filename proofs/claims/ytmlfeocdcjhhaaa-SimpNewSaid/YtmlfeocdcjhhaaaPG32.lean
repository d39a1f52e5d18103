import Derived.Test.YtmlfeocdcjhhaaaPG31
import Derived.Shelf.Sort.Plain
import Derived.Ground.Names2Prog
import Derived.Shelf.Slices.CompactI
import Derived.Shelf.Slices.In.SortNone
import Derived.Test.YtmlfeocdcjhhaaaPG1
namespace Go.Proofs.Ytmlfeocdcjhhaaa
set_option maxRecDepth 100000
open Go.RowKit
set_option linter.unusedVariables false
set_option linter.unusedSimpArgs false
attribute [local go_sem ↓] Go.wp_at_zero Go.wp_at_succ

/-! Both cores, whichever way. -/
theorem corAt_none (w : World) : CorAt w (.slice none 0 0) (.slice none 0 0) (.slice none 0 0) noneC := ⟨Rep.Sl.nil _ _, Rep.Sl.nil _ _, Rep.Sl.nil _ _, by show I64 0; unfold I64; omega⟩
/-- what Core tells -/
def RetK (w : World) (r : Cor × Int) (e : Ending) (w' : World) : Prop := (∃ vb vs vo, e = .returned (.tuple #[CV r.1 vb vs vo, .int .i64 r.2]) ∧ CorAt w' vb vs vo r.1) ∧ Below w.heap.size w w'
theorem score_any (w : World) (c : Cor) (vb vs vo : Value) (h : CorAt w vb vs vo c) : Calls Try.prog 13 #[CV c vb vs vo] w (RetK w (coreR c)) := by
  cases hr : rightB c with
  | true =>
    rw [show coreR c = (coreC c, 0) by unfold coreR; rw [if_pos hr]]
    exact (score_good w (b0 w.heap.size) rfl c vb vs vo h hr).mono fun e w' ⟨⟨a, b, d, he, hn⟩, hb⟩ => ⟨⟨a, b, d, he, hn.cor⟩, hb⟩
  | false =>
    rw [show coreR c = (noneC, 100) by unfold coreR; rw [if_neg (by rw [hr]; decide)]]
    exact (score_bad w c vb vs vo h hr).mono fun e w' ⟨he, hb⟩ => ⟨⟨_, _, _, he, corAt_none _⟩, hb⟩
theorem rcore_any (w : World) (c : Cor) (vb vs vo : Value) (h : CorAt w vb vs vo c) : Calls Try.prog 14 #[CV c vb vs vo] w (RetK w (coreR c)) := by
  cases hr : rightB c with
  | true =>
    rw [show coreR c = (coreC c, 0) by unfold coreR; rw [if_pos hr]]
    exact (rcore_good w w (b0 w.heap.size) rfl (Below.refl _ _) (fun _ _ => trivial) c vb vs vo h hr).mono fun e w' ⟨⟨a, b, d, he, hn⟩, hb⟩ => ⟨⟨a, b, d, he, hn.cor⟩, hb⟩
  | false =>
    rw [show coreR c = (noneC, 100) by unfold coreR; rw [if_neg (by rw [hr]; decide)]]
    exact (rcore_bad w c vb vs vo h hr).mono fun e w' ⟨he, hb⟩ => ⟨⟨_, _, _, he, corAt_none _⟩, hb⟩
end Go.Proofs.Ytmlfeocdcjhhaaa

namespace Go.Proofs.Ytmlfeocdcjhhaaa
set_option maxRecDepth 100000
open Go.RowKit
set_option linter.unusedVariables false
set_option linter.unusedSimpArgs false

/-! Numbers of an answer are written over: what stays. -/
def Worn (t : TypeId) (p : Nat → Prop) (w w' : World) : Prop := ∀ (g : Nat) (cur : Array Value), w.heap[g]? = some (Obj.cells cur t (0, 0)) → ∃ cur' : Array Value, w'.heap[g]? = some (Obj.cells cur' t (0, 0)) ∧ cur'.size = cur.size ∧ ∀ j, ¬ p j → cur'[j]? = cur[j]?
theorem Worn.refl (t : TypeId) (p : Nat → Prop) (w : World) : Worn t p w w := fun g cur h => ⟨cur, h, rfl, fun _ _ => rfl⟩
theorem Worn.set {t : TypeId} {p : Nat → Prop} {a w : World} (h : Worn t p a w) {g j : Nat} {cs : Array Value} (hg : w.heap[g]? = some (.cells cs t (0, 0))) (hp : p j) (u : Value) : Worn t p a (w.setCell ⟨g, j, none⟩ u) := fun g' cur hc => by
  obtain ⟨cur', h1, h2, h3⟩ := h g' cur hc
  by_cases e : g' = g
  · subst e
    rw [hg] at h1
    simp only [Option.some.injEq, Obj.cells.injEq, and_true] at h1
    subst h1
    refine ⟨cs.setIfInBounds j u, heap_setCell_same w g' j _ _ u hg, by simpa using h2, fun k hk => ?_⟩
    have : j ≠ k := fun e => hk (e ▸ hp)
    rw [← h3 k hk]
    exact Array.getElem?_setIfInBounds_ne this
  · exact ⟨cur', (Below.heap_setCell w ⟨g, j, none⟩ u g' e).trans h1, h2, h3⟩
theorem Worn.other {t : TypeId} {p : Nat → Prop} {a w : World} (h : Worn t p a w) {g j : Nat} {cs : Array Value} {t' : TypeId} (hg : w.heap[g]? = some (.cells cs t' (0, 0))) (ht : t' ≠ t) (u : Value) : Worn t p a (w.setCell ⟨g, j, none⟩ u) := fun g' cur hc => by
  obtain ⟨cur', h1, h2, h3⟩ := h g' cur hc
  have e : g' ≠ g := fun e => by
    subst e
    rw [hg] at h1
    simp only [Option.some.injEq, Obj.cells.injEq, and_true] at h1
    exact ht h1.2
  exact ⟨cur', (Below.heap_setCell w ⟨g, j, none⟩ u g' e).trans h1, h2, h3⟩
theorem KeepTy.set {t : TypeId} {a w : World} (h : KeepTy t a w) {g j : Nat} {cs : Array Value} {t' : TypeId} (hg : w.heap[g]? = some (.cells cs t' (0, 0))) (ht : t' ≠ t) (u : Value) : KeepTy t a (w.setCell ⟨g, j, none⟩ u) := fun g' cur hc => by
  have h1 := h g' cur hc
  have e : g' ≠ g := fun e => by
    subst e
    rw [hg] at h1
    simp only [Option.some.injEq, Obj.cells.injEq, and_true] at h1
    exact ht h1.2
  exact (Below.heap_setCell w ⟨g, j, none⟩ u g' e).trans h1
/-- the numbers of operations, of monomials, and whole numbers are written over, in blocks of S -/
structure Wst (S : Nat → Prop) (w w' : World) : Prop where
  kb : KB S w w'
  step : KeepTy 42 w w'
  core : KeepTy 33 w w'
  op : Worn 44 (fun j => j % 5 = 2) w w'
  mono : Worn 47 (fun j => True) w w'
  int : Worn 3 (fun j => True) w w'
theorem Wst.refl (S : Nat → Prop) (w : World) : Wst S w w := ⟨KB.refl _ _, fun _ _ h => h, fun _ _ h => h, Worn.refl _ _ _, Worn.refl _ _ _, Worn.refl _ _ _⟩
section
variable {S : Nat → Prop} {a w : World} {g j : Nat} {cs : Array Value}
theorem Wst.setOp (h : Wst S a w) (hg : w.heap[g]? = some (.cells cs 44 (0, 0))) (hS : S g) (hj : j % 5 = 2) (u : Value) : Wst S a (w.setCell ⟨g, j, none⟩ u) :=
  ⟨h.kb.setCell (p := ⟨g, j, none⟩) (fun _ => hS) u, h.step.set hg (by decide) u, h.core.set hg (by decide) u, h.op.set hg hj u, h.mono.other hg (by decide) u, h.int.other hg (by decide) u⟩
theorem Wst.setMono (h : Wst S a w) (hg : w.heap[g]? = some (.cells cs 47 (0, 0))) (hS : S g) (u : Value) : Wst S a (w.setCell ⟨g, j, none⟩ u) :=
  ⟨h.kb.setCell (p := ⟨g, j, none⟩) (fun _ => hS) u, h.step.set hg (by decide) u, h.core.set hg (by decide) u, h.op.other hg (by decide) u, h.mono.set hg trivial u, h.int.other hg (by decide) u⟩
theorem Wst.setInt (h : Wst S a w) (hg : w.heap[g]? = some (.cells cs 3 (0, 0))) (hS : S g) (u : Value) : Wst S a (w.setCell ⟨g, j, none⟩ u) :=
  ⟨h.kb.setCell (p := ⟨g, j, none⟩) (fun _ => hS) u, h.step.set hg (by decide) u, h.core.set hg (by decide) u, h.op.other hg (by decide) u, h.mono.other hg (by decide) u, h.int.set hg trivial u⟩
end
/-- nothing of what was there has turned -/
theorem Wst.of_below {S : Nat → Prop} {w w' : World} (h : Below w.heap.size w w') : Wst S w w' :=
  ⟨KB.of_below h (fun g hg hl => absurd hl (Nat.not_lt.2 hg)), KeepTy.below h, KeepTy.below h, fun g cur hg => ⟨cur, KeepTy.below h g cur hg, rfl, fun _ _ => rfl⟩, fun g cur hg => ⟨cur, KeepTy.below h g cur hg, rfl, fun _ _ => rfl⟩, fun g cur hg => ⟨cur, KeepTy.below h g cur hg, rfl, fun _ _ => rfl⟩⟩
theorem bN_at {H : Nat} {t : TypeId} {w : World} {g off n c : Nat} (h : OkB (bN H) t w (.slice (some ⟨g, off, none⟩) n c)) (h0 : 0 < n) : off = 0 ∧ H ≤ g ∧ ∃ cur, w.heap[g]? = some (.cells cur t (0, 0)) := by
  obtain ⟨h1, h2 | ⟨h2, h3⟩⟩ := h g off n c rfl h0
  · exact absurd h2 (Nat.not_lt.2 h1)
  · exact ⟨h2, h1, h3⟩
section
variable {w : World} {H : Nat}
theorem step_base {a : Option Addr} {n c : Nat} {ss : List Stp} (h : (stpO (bN H)).Sl w (.slice a n c) ss ∧ OkB (bN H) 42 w (.slice a n c)) {k : Nat} (hk : k < ss.length) :
    ∃ g pa pc oa oc cur, a = some ⟨g, 0, none⟩ ∧ w.cell? ⟨g, k * 6 + 2, none⟩ = some (.slice pa ss[k].pos.length pc) ∧ w.cell? ⟨g, k * 6 + 5, none⟩ = some (.slice oa ss[k].ops.length oc) ∧ MonS (bN H) w (.slice pa ss[k].pos.length pc) ss[k].pos ∧ CopS (bN H) w (.slice oa ss[k].ops.length oc) ss[k].ops ∧ w.heap[g]? = some (.cells cur 42 (0, 0)) := by
  obtain ⟨⟨a', cap, e, _, _, _, hx⟩, ho⟩ := h
  simp only [Value.slice.injEq] at e
  obtain ⟨rfl, hn, rfl⟩ := e
  obtain ⟨g, off, cs, rfl, ⟨v0, v1, v2, rfl, h0, h1, h2, -⟩, hc⟩ := hx k hk
  obtain ⟨rfl, -, cur, hg⟩ := bN_at ho (by omega)
  obtain ⟨pa, pc, rfl⟩ := h0.1.form0
  obtain ⟨oa, oc, rfl, -, -⟩ := h2.form
  have x2 := hc 2 _ rfl; have x5 := hc 5 _ rfl
  simp only [show (stpO (bN H)).n = 6 from rfl, Nat.zero_add] at x2 x5
  exact ⟨g, pa, pc, oa, oc, cur, rfl, x2, x5, h0, h2, hg⟩
theorem op_base {a : Option Addr} {n c : Nat} {ops : List Cop} (h : CopS (bN H) w (.slice a n c) ops) {k : Nat} (hk : k < ops.length) :
    ∃ g pa pc cur u, a = some ⟨g, 0, none⟩ ∧ (H ≤ g ∧ g < w.heap.size) ∧ w.cell? ⟨g, k * 5 + 3, none⟩ = some (.slice pa ops[k].p.length pc) ∧ w.cell? ⟨g, k * 5 + 2, none⟩ = some u ∧ MonS (bN H) w (.slice pa ops[k].p.length pc) ops[k].p ∧ w.heap[g]? = some (.cells cur 44 (0, 0)) := by
  obtain ⟨⟨a', cap, e, _, _, _, hx⟩, ho⟩ := h
  simp only [Value.slice.injEq] at e
  obtain ⟨rfl, hn, rfl⟩ := e
  obtain ⟨g, off, cs, rfl, ⟨v, rfl, h0, -⟩, hc⟩ := hx k hk
  obtain ⟨rfl, hH, cur, hg⟩ := bN_at ho (by omega)
  obtain ⟨pa, pc, rfl⟩ := h0.1.form0
  have x3 := hc 3 _ rfl; have x2 := hc 2 _ rfl
  simp only [show (copO (bN H)).n = 5 from rfl, Nat.zero_add] at x2 x3
  exact ⟨g, pa, pc, cur, _, rfl, ⟨hH, (Array.getElem?_eq_some_iff.1 hg).1⟩, x3, x2, h0, hg⟩
theorem mono_base {a : Option Addr} {n c : Nat} {p : List Mono} (h : MonS (bN H) w (.slice a n c) p) {k : Nat} (hk : k < p.length) :
    ∃ g cur u, a = some ⟨g, 0, none⟩ ∧ (H ≤ g ∧ g < w.heap.size) ∧ w.cell? ⟨g, k * 7, none⟩ = some u ∧ w.heap[g]? = some (.cells cur 47 (0, 0)) := by
  obtain ⟨⟨a', cap, e, _, _, _, hx⟩, ho⟩ := h
  simp only [Value.slice.injEq] at e
  obtain ⟨rfl, hn, rfl⟩ := e
  obtain ⟨g, off, cs, rfl, ⟨rfl, -⟩, hc⟩ := hx k hk
  obtain ⟨rfl, hH, cur, hg⟩ := bN_at ho (by omega)
  have x2 := hc 0 (.int .i64 p[k].n) rfl
  simp only [show monoRep.n = 7 from rfl, Nat.zero_add, Nat.add_zero] at x2
  exact ⟨g, cur, _, rfl, ⟨hH, (Array.getElem?_eq_some_iff.1 hg).1⟩, x2, hg⟩
theorem int_base {a : Option Addr} {n c : Nat} {p : List Int} (h : IntG (bN H) w (.slice a n c) p) {k : Nat} (hk : k < p.length) :
    ∃ g cur u, a = some ⟨g, 0, none⟩ ∧ (H ≤ g ∧ g < w.heap.size) ∧ w.cell? ⟨g, k, none⟩ = some u ∧ w.heap[g]? = some (.cells cur 3 (0, 0)) := by
  obtain ⟨⟨a', cap, e, _, _, _, hx⟩, ho⟩ := h
  simp only [Value.slice.injEq] at e
  obtain ⟨rfl, hn, rfl⟩ := e
  obtain ⟨g, off, cs, rfl, ⟨rfl, -⟩, hc⟩ := hx k hk
  obtain ⟨rfl, hH, cur, hg⟩ := bN_at ho (by omega)
  have x2 := hc 0 (.int .i64 p[k]) rfl
  simp only [show (Rep.int .i64).n = 1 from rfl, Nat.zero_add, Nat.add_zero, Nat.mul_one] at x2
  exact ⟨g, cur, _, rfl, ⟨hH, (Array.getElem?_eq_some_iff.1 hg).1⟩, x2, hg⟩
end
theorem Wst.stepC {S : Nat → Prop} {w W : World} (h : Wst S w W) {g j : Nat} {cur : Array Value} {v : Value} (hg : w.heap[g]? = some (.cells cur 42 (0, 0))) (hc : w.cell? ⟨g, j, none⟩ = some v) : W.cell? ⟨g, j, none⟩ = some v := by
  rw [cell_of_row _ _ _ _ _ _ hg] at hc
  exact (cell_of_row _ _ _ _ _ _ (h.step g cur hg)).trans hc
theorem Wst.opC {S : Nat → Prop} {w W : World} (h : Wst S w W) {g k : Nat} {cur : Array Value} {v : Value} (hg : w.heap[g]? = some (.cells cur 44 (0, 0))) (hc : w.cell? ⟨g, k * 5 + 3, none⟩ = some v) : W.cell? ⟨g, k * 5 + 3, none⟩ = some v := by
  obtain ⟨cur', hg', hsz, hcc⟩ := h.op g cur hg
  rw [cell_of_row _ _ _ _ _ _ hg] at hc
  exact (cell_of_row _ _ _ _ _ _ hg').trans ((hcc _ (by omega)).trans hc)
theorem Worn.store {t : TypeId} {p : Nat → Prop} {w W : World} (h : Worn t p w W) {g j : Nat} {cur : Array Value} {v : Value} (hg : w.heap[g]? = some (.cells cur t (0, 0))) (hc : w.cell? ⟨g, j, none⟩ = some v) :
    ∃ cur' u, W.heap[g]? = some (.cells cur' t (0, 0)) ∧ W.cell? ⟨g, j, none⟩ = some u ∧ W.frozen? ⟨g, j, none⟩ = false := by
  obtain ⟨cur', hg', hsz, hcc⟩ := h g cur hg
  rw [cell_of_row _ _ _ _ _ _ hg] at hc
  have hlt : j < cur'.size := by rw [hsz]; exact (Array.getElem?_eq_some_iff.1 hc).1
  exact ⟨cur', cur'[j], hg', (cell_of_row _ _ _ _ _ _ hg').trans (Array.getElem?_eq_getElem hlt), frozen_of_row _ _ _ _ _ hg'⟩
/-! what lies in no block of S stays -/
section
variable {S : Nat → Prop} {B : Bd} {w w' : World}
theorem Sl_kb {α : Type} {R R' : Rep α} {t : TypeId} {v : Value} {xs : List α} (h : R.Sl w v xs) (ho : OkB B t w v) (hk : KB S w w') (hS : ∀ b, B.ok b → ¬ S b) (hn : R'.n = R.n) (hp : 0 < R.n) (hR : ∀ cs x, R.At w cs x → R'.At w' cs x) : R'.Sl w' v xs := by
  obtain ⟨a, cap, e, h1, h2, h3, hx⟩ := h
  refine ⟨a, cap, e, h1, h2, h3, fun i hi => ?_⟩
  obtain ⟨b, off, cs, e2, hat, hc⟩ := hx i hi
  subst e2
  have hok := (ho b off xs.length cap e (by omega)).1
  refine ⟨b, off, cs, rfl, hR _ _ hat, fun j u hj => ?_⟩
  have := hc j u hj
  rw [hn, hk.cell (World.block_lt_of_cell? w _ this) (hS b hok)]
  exact this
theorem MonS.kb {v : Value} {p : List Mono} (h : MonS B w v p) (hk : KB S w w') (hS : ∀ b, B.ok b → ¬ S b) : monoRep.Sl w' v p := Sl_kb (R := monoRep) (R' := monoRep) h.1 h.2 hk hS rfl (by decide) (fun _ _ h => h)
theorem PolS.kb {v : Value} {p : List (List Mono)} (h : PolS B w v p) (hk : KB S w w') (hS : ∀ b, B.ok b → ¬ S b) : polyRep.Sl w' v p := Sl_kb (R' := polyRep) h.1 h.2 hk hS rfl (show 0 < 1 by decide) (fun cs x hx => by
  obtain ⟨u, e, h⟩ := hx
  exact ⟨u, e, h.kb hk hS⟩)
theorem CopS.kb {v : Value} {p : List Cop} (h : CopS B w v p) (hk : KB S w w') (hS : ∀ b, B.ok b → ¬ S b) : copRep.Sl w' v p := Sl_kb (R' := copRep) h.1 h.2 hk hS rfl (show 0 < 5 by decide) (fun cs x hx => by
  obtain ⟨u, e, h, h2⟩ := hx
  exact ⟨u, e, h.kb hk hS, h2⟩)
theorem NewC.kb {vb vs vo : Value} {c : Cor} (h : NewC B w vb vs vo c) (hk : KB S w w') (hS : ∀ b, B.ok b → ¬ S b) : CorAt w' vb vs vo c :=
  ⟨Sl_kb (R' := bufRep) h.bufs.1 h.bufs.2 hk hS rfl (show 0 < 2 by decide) (fun cs x hx => by
    obtain ⟨u, e, h, h2⟩ := hx
    exact ⟨u, e, h.kb hk hS, h2⟩),
   Sl_kb (R' := stpRep) h.steps.1 h.steps.2 hk hS rfl (show 0 < 6 by decide) (fun cs x hx => by
    obtain ⟨v0, v1, v2, e, h0, h1, h2, h3⟩ := hx
    exact ⟨v0, v1, v2, e, h0.kb hk hS, h1.kb hk hS, h2.kb hk hS, h3⟩),
   Sl_kb (R := Rep.int .i64) (R' := Rep.int .i64) h.outs.1 h.outs.2 hk hS rfl (show 0 < 1 by decide) (fun _ _ h => h), h.vars⟩
theorem NewC.below {vb vs vo : Value} {c : Cor} (h : NewC B w vb vs vo c) (hb : Below w.heap.size w w') : NewC B w' vb vs vo c :=
  ⟨⟨h.bufs.1.below _ hb (Nat.le_refl _), h.bufs.2.keep (KeepTy.below hb)⟩, ⟨h.steps.1.below _ hb (Nat.le_refl _), h.steps.2.keep (KeepTy.below hb)⟩, h.outs.below hb, h.vars⟩
end
end Go.Proofs.Ytmlfeocdcjhhaaa

namespace Go.Proofs.Ytmlfeocdcjhhaaa
set_option linter.unusedVariables false
set_option linter.unusedSimpArgs false
set_option maxRecDepth 100000
open Go.Shelf
def Try.lays189_ren : Go.Shelf.Ren := ⟨fun | 189 => 36 | 125 => 67 | 257 => 66 | 128 => 118 | 129 => 119 | 294 => 109 | 295 => 110 | 296 => 111 | 297 => 112 | 298 => 113 | 299 => 114 | 216 => 115 | 300 => 116 | 301 => 117 | 328 => 141 | 329 => 142 | 330 => 143 | 331 => 144 | 332 => 145 | 215 => 146 | 343 => 156 | n => n, fun | 28 => 31 | 3 => 3 | 46 => 108 | 0 => 0 | 51 => 146 | 53 => 148 | 4 => 4 | 183 => 138 | 182 => 137 | 131 => 143 | 5 => 5 | 9 => 9 | 218 => 160 | 222 => 164 | 228 => 170 | 229 => 171 | n => n, fun | n => n⟩
theorem Try.lays189 : Go.Proofs.Lays.n189 Try.prog Try.lays189_ren := {
  mixed := by kernel_rfl
  f125 := Try.func67.trans (congrArg some (by kernel_rfl))
  f128 := Try.func118.trans (congrArg some (by kernel_rfl))
  f129 := Try.func119.trans (congrArg some (by kernel_rfl))
  f189 := Try.func36.trans (congrArg some (by kernel_rfl))
  f215 := Try.func146.trans (congrArg some (by kernel_rfl))
  f216 := Try.func115.trans (congrArg some (by kernel_rfl))
  f257 := Try.func66.trans (congrArg some (by kernel_rfl))
  f294 := Try.func109.trans (congrArg some (by kernel_rfl))
  f295 := Try.func110.trans (congrArg some (by kernel_rfl))
  f296 := Try.func111.trans (congrArg some (by kernel_rfl))
  f297 := Try.func112.trans (congrArg some (by kernel_rfl))
  f298 := Try.func113.trans (congrArg some (by kernel_rfl))
  f299 := Try.func114.trans (congrArg some (by kernel_rfl))
  f300 := Try.func116.trans (congrArg some (by kernel_rfl))
  f301 := Try.func117.trans (congrArg some (by kernel_rfl))
  f328 := Try.func141.trans (congrArg some (by kernel_rfl))
  f329 := Try.func142.trans (congrArg some (by kernel_rfl))
  f330 := Try.func143.trans (congrArg some (by kernel_rfl))
  f331 := Try.func144.trans (congrArg some (by kernel_rfl))
  f332 := Try.func145.trans (congrArg some (by kernel_rfl))
  f343 := Try.func156.trans (congrArg some (by kernel_rfl))
  t0 := Try.underlying0
  a0 := Try.isAgg0
  z0 := Try.sizeOf0
  v0 := Try.zeroValue0
  t3 := Try.underlying3
  a3 := Try.isAgg3
  z3 := Try.sizeOf3
  v3 := Try.zeroValue3
  t4 := Try.underlying4
  a4 := Try.isAgg4
  z4 := Try.sizeOf4
  v4 := Try.zeroValue4
  t5 := Try.underlying5
  a5 := Try.isAgg5
  z5 := Try.sizeOf5
  v5 := Try.zeroValue5
  t9 := Try.underlying9
  a9 := Try.isAgg9
  z9 := Try.sizeOf9
  v9 := Try.zeroValue9
  t28 := Try.underlying31
  a28 := Try.isAgg31
  z28 := Try.sizeOf31
  v28 := Try.zeroValue31
  t46 := Try.underlying108
  a46 := Try.isAgg108
  z46 := Try.sizeOf108
  v46 := Try.zeroValue108
  t51 := Try.underlying146
  a51 := Try.isAgg146
  z51 := Try.sizeOf146
  v51 := Try.zeroValue146
  t53 := Try.underlying148
  a53 := Try.isAgg148
  z53 := Try.sizeOf148
  v53 := Try.zeroValue148
  t131 := Try.underlying143
  a131 := Try.isAgg143
  z131 := Try.sizeOf143
  v131 := Try.zeroValue143
  t182 := Try.underlying137
  a182 := Try.isAgg137
  z182 := Try.sizeOf137
  v182 := Try.zeroValue137
  t183 := Try.underlying138
  a183 := Try.isAgg138
  z183 := Try.sizeOf138
  v183 := Try.zeroValue138
  t218 := Try.underlying160
  a218 := Try.isAgg160
  z218 := Try.sizeOf160
  v218 := Try.zeroValue160
  t222 := Try.underlying164
  a222 := Try.isAgg164
  z222 := Try.sizeOf164
  v222 := Try.zeroValue164
  t228 := Try.underlying170
  a228 := Try.isAgg170
  z228 := Try.sizeOf170
  v228 := Try.zeroValue170
  t229 := Try.underlying171
  a229 := Try.isAgg171
  z229 := Try.sizeOf171
  v229 := Try.zeroValue171 }
open Go.Sort Go.RowKit in
theorem Try.slices_Sort_int (blk off cap : Nat) (zs : List Int) (w : World) (hH : Holds (Value.int .i64) w blk off zs.toArray) (hblk : blk < w.heap.size) (hsz : zs.length < 4611686018427387904) :
    Calls Try.prog 36 #[.slice (some ⟨blk, off, none⟩) zs.length cap] w fun e w' =>
      e = .returned (.tuple #[]) ∧ ∃ n os, w' = grow (putRow (Value.int .i64) (Sort.ahead w n) blk off (zs.mergeSort fun x y => decide (x ≤ y)).toArray) os := Any.slices_Sort_int Try.lays189 blk off cap zs w hH hblk hsz
def Try.laysNm220_ren : Go.Shelf.Ren := ⟨fun | 20 => 37 | n => n, fun | 22 => 31 | 3 => 3 | 4 => 4 | 0 => 0 | n => n, fun | n => n⟩
theorem Try.laysNm220 : Go.Proofs.Lays2.n20 Try.prog Try.laysNm220_ren := {
  mixed := by kernel_rfl
  f20 := Try.func37.trans (congrArg some (by kernel_rfl))
  t0 := Try.underlying0
  a0 := Try.isAgg0
  z0 := Try.sizeOf0
  v0 := Try.zeroValue0
  t3 := Try.underlying3
  a3 := Try.isAgg3
  z3 := Try.sizeOf3
  v3 := Try.zeroValue3
  t4 := Try.underlying4
  a4 := Try.isAgg4
  z4 := Try.sizeOf4
  v4 := Try.zeroValue4
  t22 := Try.underlying31
  a22 := Try.isAgg31
  z22 := Try.sizeOf31
  v22 := Try.zeroValue31
  i3 := by kernel_rfl }
open Go.RowKit Go.Lib Go.Sort in
/-- slices.Compact at []int, over an array: the library's two loops are walked. (LAID: no walk: one application.) -/
theorem Try.slices_Compact_int_arr (blk off cap : Nat) (d : Array Int) (w : World) (hH : Holds encI w blk off d) (hsz : d.size ≤ 9223372036854775807) (hcap : d.size ≤ cap) :
    Calls Try.prog 37 #[.slice (some ⟨blk, off, none⟩) d.size cap] w fun e w' => e = .returned (.slice (some ⟨blk, off, none⟩) (compactUpTo d d.size).length cap) ∧ ∃ q, w' = putRow encI (Sort.ahead w q) blk off (compactUpTo d d.size ++ List.replicate (d.size - (compactUpTo d d.size).length) 0).toArray := Any.slices_Compact_int_arr Try.laysNm220 blk off cap d w hH hsz hcap
open Go.RowKit Go.Lib Go.Sort in
/-- slices.Compact at []int: "Compact replaces consecutive runs of equal elements with a single copy. This is like the uniq command found on Unix. Compact modifies the contents of the slice s and returns the modified slice, which may have a smaller length. Compact zeroes the elements between the new length and the original length. The result preserves the nilness of s.": IT RETURNS THE SLICE CUT TO 'Lib.compact zs'; ITS CELLS HOLD 'Lib.compact zs', THEN ZERO VALUES up to the old length; all else is as it was, but for the count of draws. IN THE WORDS OF slices.Sort's CONTRACT ('Holds', 'putRow'): so the everyday 'slices.Sort(xs); xs = slices.Compact(xs)' goes from the one contract to the other. It asks 'zs.length ≤ cap' (every slice's: the reslicing 's[:k]' looks at it). Length 0, nil: '.._empty'. (LAID: no walk: one application.) -/
theorem Try.slices_Compact_int (blk off cap : Nat) (zs : List Int) (w : World) (hH : Holds (Value.int .i64) w blk off zs.toArray) (hsz : zs.length ≤ 9223372036854775807) (hcap : zs.length ≤ cap) :
    Calls Try.prog 37 #[.slice (some ⟨blk, off, none⟩) zs.length cap] w fun e w' => e = .returned (.slice (some ⟨blk, off, none⟩) (Lib.compact zs).length cap) ∧ ∃ q, w' = putRow (Value.int .i64) (Sort.ahead w q) blk off (Lib.compact zs ++ List.replicate (zs.length - (Lib.compact zs).length) 0).toArray := Any.slices_Compact_int Try.laysNm220 blk off cap zs w hH hsz hcap
open Go.RowKit Go.Lib Go.Sort in
/-- The same at a slice of length 0, a nil one too: it comes back as it is. (LAID: no walk: one application.) -/
theorem Try.slices_Compact_int_empty (a : Option Addr) (cap : Nat) (w : World) :
    Calls Try.prog 37 #[.slice a 0 cap] w fun e w' => e = .returned (.slice a 0 cap) ∧ w' = w := Any.slices_Compact_int_empty Try.laysNm220 a cap w
open Go.RowKit Go.Sort in
/-- .. and plain. (LAID: no walk: one application.) -/
theorem Try.slices_Sort_int_none (p : Option Addr) (cap : Nat) (w : World) :
    Calls Try.prog 36 #[.slice p 0 cap] w fun e w' => e = .returned (.tuple #[]) ∧ w' = w := Any.slices_Sort_int_none Try.lays189 p cap w
end Go.Proofs.Ytmlfeocdcjhhaaa
