import Derived.Test.YtokghjnkfabgiaaGreatDoorTD1
import Derived.Laws.OwnMore
import Derived.OneCell
set_option linter.unusedVariables false
set_option linter.unusedSimpArgs false
set_option maxRecDepth 100000
namespace Go.Proofs.YtokghjnkfabgiaaGreatDoor
open Go.RowKit

structure KB (S : Nat → Prop) (w w' : World) : Prop where
 os : w'.os = w.os
 tape : w'.tape = w.tape
 output : w'.output = w.output
 size : w.heap.size ≤ w'.heap.size
 block : ∀ g, g < w.heap.size → ¬ S g → w'.heap[g]? = w.heap[g]?

theorem KB.refl (S : Nat → Prop) (w : World) : KB S w w := ⟨rfl, rfl, rfl, Nat.le_refl _, fun _ _ _ => rfl⟩
theorem KB.trans {S : Nat → Prop} {a b c : World} (h : KB S a b) (k : KB S b c) : KB S a c :=
 ⟨k.os.trans h.os, k.tape.trans h.tape, k.output.trans h.output, Nat.le_trans h.size k.size, fun g hg hs => (k.block g (Nat.lt_of_lt_of_le hg h.size) hs).trans (h.block g hg hs)⟩
theorem KB.mono {S S' : Nat → Prop} {w w' : World} (h : KB S w w') (hs : ∀ g, g < w.heap.size → S g → S' g) : KB S' w w' := ⟨h.os, h.tape, h.output, h.size, fun g hg hn => h.block g hg (fun e => hn (hs g hg e))⟩
theorem KB.of_below {S : Nat → Prop} {w w' : World} {B : Nat} (h : Below B w w') (hs : ∀ g, B ≤ g → g < w.heap.size → S g) : KB S w w' :=
 ⟨h.os, h.tape, h.output, h.size, fun g hg hn => h.block g (Nat.lt_of_not_le fun e => hn (hs g e hg))⟩
theorem KB.then_below {S : Nat → Prop} {a w w' : World} (h : KB S a w) {B : Nat} (k : Below B w w') (hs : ∀ g, B ≤ g → g < a.heap.size → S g) : KB S a w' :=
 ⟨k.os.trans h.os, k.tape.trans h.tape, k.output.trans h.output, Nat.le_trans h.size k.size, fun g hg hn => (k.block g (Nat.lt_of_not_le fun e => hn (hs g e hg))).trans (h.block g hg hn)⟩
theorem KB.grown {S : Nat → Prop} {a w w' : World} {row : Option Nat} (h : KB S a w) (hg : w.grownBy w' row) (hr : ∀ k, row = some k → k < a.heap.size → S k) : KB S a w' :=
 ⟨hg.os.trans h.os, hg.tape.trans h.tape, hg.output.trans h.output, Nat.le_trans h.size hg.size, fun g hgl hn => (hg.block g (Nat.lt_of_lt_of_le hgl h.size) (fun e => hn (hr g e.symm hgl))).trans (h.block g hgl hn)⟩
theorem KB.alloc {S : Nat → Prop} {a w : World} (h : KB S a w) (o : Obj) : KB S a (w.alloc o) := h.then_below ((Below.refl w.heap.size w).alloc (Nat.le_refl _) o) (fun g hg hl => absurd (Nat.lt_of_lt_of_le hl h.size) (by omega))
theorem KB.drew {S : Nat → Prop} {a w : World} (h : KB S a w) : KB S a w.drew := ⟨h.os, h.tape, h.output, h.size, h.block⟩
theorem KB.drewN {S : Nat → Prop} {a w : World} (h : KB S a w) (n : Nat) : KB S a (w.drewN n) := ⟨h.os, h.tape, h.output, h.size, h.block⟩
theorem KB.setCell {S : Nat → Prop} {a w : World} (h : KB S a w) {p : Addr} (hp : p.block < a.heap.size → S p.block) (u : Value) : KB S a (w.setCell p u) :=
 ⟨h.os, h.tape, h.output, by simpa using h.size, fun g hg hn => (Below.heap_setCell w p u g (fun e => hn (by subst e; exact hp hg))).trans (h.block g hg hn)⟩
theorem KB.below {S : Nat → Prop} {w w' : World} (h : KB S w w') {B : Nat} (hB : B ≤ w.heap.size) (hs : ∀ g, S g → B ≤ g) : Below B w w' :=
 ⟨h.os, h.tape, h.output, h.size, fun g hg => h.block g (Nat.lt_of_lt_of_le hg hB) (fun e => by have := hs g e; omega)⟩
theorem KB.cell {S : Nat → Prop} {w w' : World} (h : KB S w w') {p : Addr} (hp : p.block < w.heap.size) (hs : ¬ S p.block) : w'.cell? p = w.cell? p := World.cell?_of_block (w := w) (h.block p.block hp hs)
theorem KB.frozen {S : Nat → Prop} {w w' : World} (h : KB S w w') {p : Addr} (hp : p.block < w.heap.size) (hs : ¬ S p.block) : w'.frozen? p = w.frozen? p := World.frozen?_of_block (w := w) (h.block p.block hp hs)
theorem KB.row {S : Nat → Prop} {w w' : World} (h : KB S w w') {B : Nat} {e : TypeId} {size n : Nat} {v : Value} {xs : List Value} (hv : w.ownsRow B e size v n xs) (hs : ∀ g, v.ownBlock = some g → ¬ S g) : w'.ownsRow B e size v n xs := by
 obtain ⟨h1, h2 | ⟨g, cap, cur, rfl, hb, hg, h3⟩⟩ := hv
 ·exact ⟨h1, .inl h2⟩
 ·exact ⟨h1, .inr ⟨g, cap, cur, rfl, hb, (h.block g (Array.getElem?_eq_some_iff.1 hg).1 (hs g rfl)).trans hg, h3⟩⟩

def Newer (w : World) (v v' : Value) : Prop := v'.ownBlock = v.ownBlock ∨ ∃ k, v'.ownBlock = some k ∧ w.heap.size ≤ k

section
variable {P : Program} (w : World)
theorem run_append_newer (base : Nat) (t ty e : TypeId) (i : TypeInfo) (z : Value) (ht : P.underlying t = some (.slice e)) (hi : P.info? e = some i) (hz : i.zero = some z)
  (v : Value) (n : Nat) (xs : List Value) (hown : w.ownsRow base e i.size v n xs)
  (a : Addr) (m c : Nat) (news : List Value) (hl : news.length = m * i.size) (hnews : ∀ j u, news[j]? = some u → w.cell? (a.add j) = some u) (h1 : ∀ u ∈ news, u.oneCell' = true)
  (h63 : n + m ≤ maxLen) (hbytes : (n + m) * i.bytes ≤ 140737488355328) (v' : Value) (w' : World)
  (hr : (Builtin.append_ #[t, t] ty #[v, .slice (some a) m c]).run P w = .ok v' w') : Newer w v v' := by
 have hsmall : n + m ≤ 9223372036854775807 := by simp only [maxLen] at h63; omega
 rcases hown.2 with ⟨rfl, rfl⟩ | ⟨g, cap, cur, rfl, hbg, hg, hnc, hcm, hcs, htake⟩
 ·by_cases hm : m = 0
  ·subst hm
   have hn : news = [] := List.eq_nil_of_length_eq_zero (by simpa using hl)
   have : (Builtin.append_ #[t, t] ty #[.slice none 0 0, .slice (some a) 0 c]).run P w = .ok (.slice none 0 0) w := by
    simp [Builtin.append_, run_underlying ht, sizeOf, typeInfo, hi, Builtin.lenOf, Builtin.firstCells, loadCells, loadCellsFrom]
   rw [this] at hr
   cases hr
   exact .inl rfl
  ·have := run_append_nil (P := P) w t ty e i z ht hi hz a m c news hl hnews (by omega) (by omega) (by have hb := hbytes; simp only [Nat.zero_add] at hb; omega)
   rw [this] at hr
   cases hr
   exact .inr ⟨_, rfl, Nat.le_refl _⟩
 ·by_cases hroom : n + m ≤ cap
  ·have := run_append_room (P := P) w t ty e i ht hi g n cap cur hg a m c news hl hnews h1 hroom (by rw [hl, hcs, ← Nat.add_mul]; exact Nat.mul_le_mul_right _ hroom)
   rw [this] at hr
   cases hr
   exact .inl rfl
  ·have := run_append_grow (P := P) w t ty e i z ht hi hz ⟨g, 0, none⟩ n cap xs hown.1 (hown.cells (g := g) rfl) a m c news hl hnews (by omega) (by omega) (growslice_fits (by omega) hbytes)
   rw [this] at hr
   cases hr
   exact .inr ⟨_, rfl, Nat.le_refl _⟩

theorem wp_append_newer {o : Oper} {a : Act} {K : Act → World → Prop} {Q : Exit → Act → World → Prop} (s x : Operand) (t : TypeId)
  (ho : o.op = .call { callee := .builtin .append, args := #[s, x], argTypes := #[t, t] })
  (base : Nat) (e : TypeId) (i : TypeInfo) (z : Value) (size bytes : Nat) (ht : P.underlying t = some (.slice e)) (hi : P.info? e = some i) (hz : i.zero = some z)
  (hsize : i.size = size) (hby : i.bytes = bytes) (hzs : z.cells.size = size) (hsz : 0 < size)
  (v : Value) (n : Nat) (xs : List Value) (hs : a.eval s = v) (hown : w.ownsRow base e size v n xs)
  (ad : Addr) (m c : Nat) (news : List Value) (hx : a.eval x = .slice (some ad) m c) (hl : news.length = m * size) (hnews : ∀ j u, news[j]? = some u → w.cell? (ad.add j) = some u) (h1 : ∀ u ∈ news, u.oneCell' = true)
  (h63 : n + m ≤ maxLen) (hbytes : (n + m) * bytes ≤ 140737488355328) (hbase : base ≤ w.heap.size)
  (h : ∀ v' w', w'.ownsRow base e size v' (n + m) (xs ++ news) → w.grownBy w' v.ownBlock → Newer w v v' → K (a.put o.dst v') w') : o.wp P a w K Q := by
 obtain ⟨v', w', hr, h2, h3, h4⟩ := run_append_own (P := P) w base t o.type e i z size bytes ht hi hz hsize hby hzs hsz v n xs hown ad m c news hl hnews h1 h63 hbytes hbase
 have h5 := run_append_newer (P := P) w base t o.type e i z ht hi hz v n xs (by rw [hsize]; exact hown) ad m c news (by rw [hsize]; exact hl) hnews h1 h63 (by rw [hby]; exact hbytes) v' w' hr
 unfold Oper.wp execOp
 simp only [ho, resolve, invoke, builtin, Sem.run_bind, Sem.run_pure, Result.andThen_ok, List.map_toArray, List.map_cons, List.map_nil, hs, hx, hr]
 exact h v' w' h2 h3 h5
def Src (w : World) (u : Value) (m : Nat) (news : List Value) : Prop := (u = .slice none 0 0 ∧ news = [] ∧ m = 0) ∨ ∃ ad c, u = .slice (some ad) m c ∧ ∀ j z, news[j]? = some z → w.cell? (ad.add j) = some z

theorem wp_append_src {o : Oper} {a : Act} {K : Act → World → Prop} {Q : Exit → Act → World → Prop} (s x : Operand) (t : TypeId)
  (ho : o.op = .call { callee := .builtin .append, args := #[s, x], argTypes := #[t, t] })
  (base : Nat) (e : TypeId) (i : TypeInfo) (z : Value) (size bytes : Nat) (ht : P.underlying t = some (.slice e)) (hi : P.info? e = some i) (hz : i.zero = some z)
  (hsize : i.size = size) (hby : i.bytes = bytes) (hzs : z.cells.size = size) (hsz : 0 < size)
  (v : Value) (n : Nat) (xs : List Value) (hs : a.eval s = v) (hown : w.ownsRow base e size v n xs)
  (u : Value) (m : Nat) (news : List Value) (hx : a.eval x = u) (hu : Src w u m news) (hl : news.length = m * size) (h1 : ∀ u ∈ news, u.oneCell' = true)
  (h63 : n + m ≤ maxLen) (hbytes : (n + m) * bytes ≤ 140737488355328) (hbase : base ≤ w.heap.size)
  (h : ∀ v' w', w'.ownsRow base e size v' (n + m) (xs ++ news) → w.grownBy w' v.ownBlock → Newer w v v' → K (a.put o.dst v') w') : o.wp P a w K Q := by
 rcases hu with ⟨rfl, rfl, rfl⟩ | ⟨ad, c, rfl, hnews⟩
 ·have hr := run_append_owned_none (P := P) w base t o.type e i size ht hi v n xs hown
  unfold Oper.wp execOp
  simp only [ho, resolve, invoke, builtin, Sem.run_bind, Sem.run_pure, Result.andThen_ok, List.map_toArray, List.map_cons, List.map_nil, hs, hx, hr]
  exact h v w (by simpa using hown) ⟨rfl, rfl, rfl, Nat.le_refl _, fun _ _ _ => rfl⟩ (.inl rfl)
 ·exact wp_append_newer w s x t ho base e i z size bytes ht hi hz hsize hby hzs hsz v n xs hs hown ad m c news hx hl hnews h1 h63 hbytes hbase h
theorem wpList_append_src {ops : Array Oper} {rest : List Oper} {o : Oper} {a : Act} {Q : Exit → Act → World → Prop} (hgd : o.guard = none) (s x : Operand) (t : TypeId)
  (ho : o.op = .call { callee := .builtin .append, args := #[s, x], argTypes := #[t, t] })
  (base : Nat) (e : TypeId) (i : TypeInfo) (z : Value) (size bytes : Nat) (ht : P.underlying t = some (.slice e)) (hi : P.info? e = some i) (hz : i.zero = some z)
  (hsize : i.size = size) (hby : i.bytes = bytes) (hzs : z.cells.size = size) (hsz : 0 < size)
  (v : Value) (n : Nat) (xs : List Value) (hs : a.eval s = v) (hown : w.ownsRow base e size v n xs)
  (u : Value) (m : Nat) (news : List Value) (hx : a.eval x = u) (hu : Src w u m news) (hl : news.length = m * size) (h1 : ∀ u ∈ news, u.oneCell' = true)
  (h63 : n + m ≤ maxLen) (hbytes : (n + m) * bytes ≤ 140737488355328) (hbase : base ≤ w.heap.size)
  (h : ∀ v' w', w'.ownsRow base e size v' (n + m) (xs ++ news) → w.grownBy w' v.ownBlock → Newer w v v' → wpList P ops Q rest (a.put o.dst v') w') : wpList P ops Q (o :: rest) a w :=
 wpList_plain hgd fun _ hK => wp_append_src w s x t ho base e i z size bytes ht hi hz hsize hby hzs hsz v n xs hs hown u m news hx hu hl h1 h63 hbytes hbase fun v' w' h2 h3 h4 => hK _ _ (h v' w' h2 h3 h4)
end
theorem ownsRow_src {B n : Nat} {w : World} {e : TypeId} {size : Nat} {u : Value} {xs : List Value} (h : w.ownsRow B e size u n xs) : Src w u n xs := by
 rcases h.2 with ⟨rfl, rfl⟩ | ⟨g, cap, cur, rfl, _⟩
 ·exact .inl ⟨rfl, List.eq_nil_of_length_eq_zero (by simpa using h.1), rfl⟩
 ·exact .inr ⟨_, _, rfl, h.cells (g := g) rfl⟩
end Go.Proofs.YtokghjnkfabgiaaGreatDoor

namespace Go.Proofs.YtokghjnkfabgiaaGreatDoor
open Go.RowKit

theorem Src.below {w w' : World} {u : Value} {m : Nat} {news : List Value} (h : Src w u m news) (hb : Below w.heap.size w w') : Src w' u m news := by
 rcases h with h | ⟨ad, c, e, h⟩
 ·exact .inl h
 ·exact .inr ⟨ad, c, e, fun j z hz => keepCell hb (h j z hz)⟩
end Go.Proofs.YtokghjnkfabgiaaGreatDoor
