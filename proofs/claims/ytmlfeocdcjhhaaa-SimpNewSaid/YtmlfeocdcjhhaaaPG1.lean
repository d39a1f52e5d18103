import Derived.Test.YtmlfeocdcjhhaaaRows
import Derived.WalkKit
import Derived.ProofKit
import Derived.OpenShut
import Derived.Below
import Derived.WalkLawsBesides
import Derived.WalkSpells
import Derived.Lib.Hide
import Derived.Deep.QuietTactic
import Derived.BigQuiet
import Derived.Laws.CopyOwn
import Derived.RangeFuncBox
import Derived.Lib.SmallJoins
import Derived.Laws.OwnMore
import Derived.OneCell
import Derived.Deep.Slices
namespace Go.Proofs.Ytmlfeocdcjhhaaa
set_option linter.unusedVariables false
set_option linter.unusedSimpArgs false
set_option maxRecDepth 100000
open Go.RowKit

theorem bcell {W w1 : World} {B : Nat} (hb : Below B W w1) : (∀ b o, b < B → w1.cell? ⟨b, o, none⟩ = W.cell? ⟨b, o, none⟩) ∧ (∀ b o, b < B → w1.frozen? ⟨b, o, none⟩ = W.frozen? ⟨b, o, none⟩) :=
  ⟨fun b o h => hb.cell (p := ⟨b, o, none⟩) h, fun b o h => hb.frozen (p := ⟨b, o, none⟩) h⟩

theorem ret_int {k : IntKind} {a b : Int} (h : a = b) : Ending.returned (.int k a) = .returned (.int k b) := by rw [h]
theorem ret_bool {a b : Bool} (h : a = b) : Ending.returned (.bool a) = .returned (.bool b) := by rw [h]

/-- A call of a function that has a body: it is entered. -/
theorem callFunc_enter {P : Program} {f : FuncId} {fn : Func} {c : Code} (hf : P.funcs[f]? = some fn) (hname : (fn.name == "runtime.NumGoroutine") = false) (hb : fn.body = some c) (args : Array Value) (w : World) :
    (callFunc f args).run P w = .ok (.enter f args) w := by
  have h1 : fn.name ≠ "runtime.NumGoroutine" := by simpa using hname
  simp [callFunc, hf, h1, hb]

theorem Below.drewN {B : Nat} (w : World) (n : Nat) : Below B w (w.drewN n) := ⟨rfl, rfl, rfl, Nat.le_refl _, fun _ _ => rfl⟩

/-- e has come back with the bool b, and nothing but draws has been done. -/
def SaysB (b : Bool) (w : World) (e : Ending) (w' : World) : Prop := e = .returned (.bool b) ∧ ∃ n, w' = w.drewN n
theorem SaysB.mk {b c : Bool} {w : World} {n : Nat} (h : b = c) : SaysB c w (.returned (.bool b)) (w.drewN n) := ⟨by rw [h], n, rfl⟩
theorem SaysB.mk0 {b c : Bool} {w : World} (h : b = c) : SaysB c w (.returned (.bool b)) w := ⟨by rw [h], 0, rfl⟩
theorem SaysB.drewN {b : Bool} {w w' : World} {e : Ending} {n : Nat} (h : SaysB b (w.drewN n) e w') : SaysB b w e w' := by
  obtain ⟨h1, m, h2⟩ := h
  exact ⟨h1, n + m, by rw [h2, World.drewN_drewN]⟩

def two (p : Int × Int) : Ending := .returned (.tuple #[.int .i64 p.1, .int .i64 p.2])
theorem ret_two {a b : Int} {p : Int × Int} (h : p = (a, b)) : Ending.returned (.tuple #[.int .i64 a, .int .i64 b]) = two p := by subst h; rfl


theorem bAfter {B : Nat} {w W W2 : World} (hB : Below B w W) (hs : B ≤ W.heap.size) (hb : Below W.heap.size W W2) : Below B w W2 := hB.trans (hb.mono hs)

theorem bNext {w W W2 : World} (hb : Below W.heap.size W W2) (hB : Below w.heap.size w W) : Below w.heap.size w W2 := hB.trans (hb.mono hB.size)
theorem own : ownKnob Try.prog.godebug = none := by kernel_rfl
theorem laidOut : laidOutB Try.prog = true := by kernel_rfl
end Go.Proofs.Ytmlfeocdcjhhaaa

namespace Go.Proofs.Ytmlfeocdcjhhaaa
set_option linter.unusedVariables false
set_option linter.unusedSimpArgs false
set_option maxRecDepth 100000
open Go.RowKit

/-- From w to w', of the blocks that w has, those of S alone may have turned. -/
structure KB (S : Nat → Prop) (w w' : World) : Prop where
  os : w'.os = w.os
  tape : w'.tape = w.tape
  output : w'.output = w.output
  size : w.heap.size ≤ w'.heap.size
  block : ∀ g, g < w.heap.size → ¬ S g → w'.heap[g]? = w.heap[g]?

theorem KB.refl (S : Nat → Prop) (w : World) : KB S w w := ⟨rfl, rfl, rfl, Nat.le_refl _, fun _ _ _ => rfl⟩
theorem KB.trans {S : Nat → Prop} {a b c : World} (h : KB S a b) (k : KB S b c) : KB S a c :=
  ⟨k.os.trans h.os, k.tape.trans h.tape, k.output.trans h.output, Nat.le_trans h.size k.size, fun g hg hs => (k.block g (Nat.lt_of_lt_of_le hg h.size) hs).trans (h.block g hg hs)⟩
theorem KB.mono {S S' : Nat → Prop} {w w' : World} (h : KB S w w') (hs : ∀ g, g < w.heap.size → S g → S' g) : KB S' w w' := ⟨h.os, h.tape, h.output, h.size, fun g hg hn => h.block g hg (fun e => hn (hs g hg e))⟩
theorem KB.of_below {S : Nat → Prop} {w w' : World} {B : Nat} (h : Below B w w') (hs : ∀ g, B ≤ g → g < w.heap.size → S g) : KB S w w' :=
  ⟨h.os, h.tape, h.output, h.size, fun g hg hn => h.block g (Nat.lt_of_not_le fun e => hn (hs g e hg))⟩
theorem KB.then_below {S : Nat → Prop} {a w w' : World} (h : KB S a w) {B : Nat} (k : Below B w w') (hs : ∀ g, B ≤ g → g < a.heap.size → S g) : KB S a w' :=
  ⟨k.os.trans h.os, k.tape.trans h.tape, k.output.trans h.output, Nat.le_trans h.size k.size, fun g hg hn => (k.block g (Nat.lt_of_not_le fun e => hn (hs g e hg))).trans (h.block g hg hn)⟩
theorem KB.grown {S : Nat → Prop} {a w w' : World} {row : Option Nat} (h : KB S a w) (hg : w.grownBy w' row) (hr : ∀ k, row = some k → k < a.heap.size → S k) : KB S a w' :=
  ⟨hg.os.trans h.os, hg.tape.trans h.tape, hg.output.trans h.output, Nat.le_trans h.size hg.size, fun g hgl hn => (hg.block g (Nat.lt_of_lt_of_le hgl h.size) (fun e => hn (hr g e.symm hgl))).trans (h.block g hgl hn)⟩
theorem KB.alloc {S : Nat → Prop} {a w : World} (h : KB S a w) (o : Obj) : KB S a (w.alloc o) := h.then_below ((Below.refl w.heap.size w).alloc (Nat.le_refl _) o) (fun g hg hl => absurd (Nat.lt_of_lt_of_le hl h.size) (by omega))
theorem KB.drew {S : Nat → Prop} {a w : World} (h : KB S a w) : KB S a w.drew := ⟨h.os, h.tape, h.output, h.size, h.block⟩
theorem KB.drewN {S : Nat → Prop} {a w : World} (h : KB S a w) (n : Nat) : KB S a (w.drewN n) := ⟨h.os, h.tape, h.output, h.size, h.block⟩
theorem KB.setCell {S : Nat → Prop} {a w : World} (h : KB S a w) {p : Addr} (hp : p.block < a.heap.size → S p.block) (u : Value) : KB S a (w.setCell p u) :=
  ⟨h.os, h.tape, h.output, by simpa using h.size, fun g hg hn => (Below.heap_setCell w p u g (fun e => hn (by subst e; exact hp hg))).trans (h.block g hg hn)⟩
theorem KB.below {S : Nat → Prop} {w w' : World} (h : KB S w w') {B : Nat} (hB : B ≤ w.heap.size) (hs : ∀ g, S g → B ≤ g) : Below B w w' :=
  ⟨h.os, h.tape, h.output, h.size, fun g hg => h.block g (Nat.lt_of_lt_of_le hg hB) (fun e => by have := hs g e; omega)⟩
theorem KB.cell {S : Nat → Prop} {w w' : World} (h : KB S w w') {p : Addr} (hp : p.block < w.heap.size) (hs : ¬ S p.block) : w'.cell? p = w.cell? p := World.cell?_of_block (w := w) (h.block p.block hp hs)
theorem KB.frozen {S : Nat → Prop} {w w' : World} (h : KB S w w') {p : Addr} (hp : p.block < w.heap.size) (hs : ¬ S p.block) : w'.frozen? p = w.frozen? p := World.frozen?_of_block (w := w) (h.block p.block hp hs)
/-- A row whose block has not turned. -/
theorem KB.row {S : Nat → Prop} {w w' : World} (h : KB S w w') {B : Nat} {e : TypeId} {size n : Nat} {v : Value} {xs : List Value} (hv : w.ownsRow B e size v n xs) (hs : ∀ g, v.ownBlock = some g → ¬ S g) : w'.ownsRow B e size v n xs := by
  obtain ⟨h1, h2 | ⟨g, cap, cur, rfl, hb, hg, h3⟩⟩ := hv
  · exact ⟨h1, .inl h2⟩
  · exact ⟨h1, .inr ⟨g, cap, cur, rfl, hb, (h.block g (Array.getElem?_eq_some_iff.1 hg).1 (hs g rfl)).trans hg, h3⟩⟩

/-- What append hands back lies where it lay, or in a new block. -/
def Newer (w : World) (v v' : Value) : Prop := v'.ownBlock = v.ownBlock ∨ ∃ k, v'.ownBlock = some k ∧ w.heap.size ≤ k

section
variable {P : Program} (w : World)
theorem run_append_newer (base : Nat) (t ty e : TypeId) (i : TypeInfo) (z : Value) (ht : P.underlying t = some (.slice e)) (hi : P.info? e = some i) (hz : i.zero = some z)
    (v : Value) (n : Nat) (xs : List Value) (hown : w.ownsRow base e i.size v n xs)
    (a : Addr) (m c : Nat) (news : List Value) (hl : news.length = m * i.size) (hnews : ∀ j u, news[j]? = some u → w.cell? (a.add j) = some u) (h1 : ∀ u ∈ news, u.oneCell' = true)
    (h63 : n + m ≤ maxLen) (hbytes : (n + m) * i.bytes ≤ 140737488355328) (v' : Value) (w' : World)
    (hr : (Builtin.append_ #[t, t] ty #[v, .slice (some a) m c]).run P w = .ok v' w') : Newer w v v' := by
  have hsmall : n + m ≤ 9223372036854775807 := by simp only [maxLen] at h63; omega
  rcases hown.2 with ⟨rfl, rfl⟩ | ⟨g, cap, cur, rfl, hbg, hg, hnc, hcm, hcs, htake⟩
  · by_cases hm : m = 0
    · subst hm
      have hn : news = [] := List.eq_nil_of_length_eq_zero (by simpa using hl)
      have : (Builtin.append_ #[t, t] ty #[.slice none 0 0, .slice (some a) 0 c]).run P w = .ok (.slice none 0 0) w := by
        simp [Builtin.append_, run_underlying ht, sizeOf, typeInfo, hi, Builtin.lenOf, Builtin.firstCells, loadCells, loadCellsFrom]
      rw [this] at hr
      cases hr
      exact .inl rfl
    · have := run_append_nil (P := P) w t ty e i z ht hi hz a m c news hl hnews (by omega) (by omega) (by have hb := hbytes; simp only [Nat.zero_add] at hb; omega)
      rw [this] at hr
      cases hr
      exact .inr ⟨_, rfl, Nat.le_refl _⟩
  · by_cases hroom : n + m ≤ cap
    · have := run_append_room (P := P) w t ty e i ht hi g n cap cur hg a m c news hl hnews h1 hroom (by rw [hl, hcs, ← Nat.add_mul]; exact Nat.mul_le_mul_right _ hroom)
      rw [this] at hr
      cases hr
      exact .inl rfl
    · have := run_append_grow (P := P) w t ty e i z ht hi hz ⟨g, 0, none⟩ n cap xs hown.1 (hown.cells (g := g) rfl) a m c news hl hnews (by omega) (by omega) (growslice_fits (by omega) hbytes)
      rw [this] at hr
      cases hr
      exact .inr ⟨_, rfl, Nat.le_refl _⟩

/-- append onto a row of the call's own; where what it hands back lies. -/
theorem wp_append_newer {o : Oper} {a : Act} {K : Act → World → Prop} {Q : Exit → Act → World → Prop} (s x : Operand) (t : TypeId)
    (ho : o.op = .call { callee := .builtin .append, args := #[s, x], argTypes := #[t, t] })
    (base : Nat) (e : TypeId) (i : TypeInfo) (z : Value) (size bytes : Nat) (ht : P.underlying t = some (.slice e)) (hi : P.info? e = some i) (hz : i.zero = some z)
    (hsize : i.size = size) (hby : i.bytes = bytes) (hzs : z.cells.size = size) (hsz : 0 < size)
    (v : Value) (n : Nat) (xs : List Value) (hs : a.eval s = v) (hown : w.ownsRow base e size v n xs)
    (ad : Addr) (m c : Nat) (news : List Value) (hx : a.eval x = .slice (some ad) m c) (hl : news.length = m * size) (hnews : ∀ j u, news[j]? = some u → w.cell? (ad.add j) = some u) (h1 : ∀ u ∈ news, u.oneCell' = true)
    (h63 : n + m ≤ maxLen) (hbytes : (n + m) * bytes ≤ 140737488355328) (hbase : base ≤ w.heap.size)
    (h : ∀ v' w', w'.ownsRow base e size v' (n + m) (xs ++ news) → w.grownBy w' v.ownBlock → Newer w v v' → K (a.put o.dst v') w') : o.wp P a w K Q := by
  obtain ⟨v', w', hr, h2, h3, h4⟩ := run_append_own (P := P) w base t o.type e i z size bytes ht hi hz hsize hby hzs hsz v n xs hown ad m c news hl hnews h1 h63 hbytes hbase
  have h5 := run_append_newer (P := P) w base t o.type e i z ht hi hz v n xs (by rw [hsize]; exact hown) ad m c news (by rw [hsize]; exact hl) hnews h1 h63 (by rw [hby]; exact hbytes) v' w' hr
  unfold Oper.wp execOp
  simp only [ho, resolve, invoke, builtin, Sem.run_bind, Sem.run_pure, Result.andThen_ok, List.map_toArray, List.map_cons, List.map_nil, hs, hx, hr]
  exact h v' w' h2 h3 h5
theorem wpList_append_newer {ops : Array Oper} {rest : List Oper} {o : Oper} {a : Act} {Q : Exit → Act → World → Prop} (hgd : o.guard = none) (s x : Operand) (t : TypeId)
    (ho : o.op = .call { callee := .builtin .append, args := #[s, x], argTypes := #[t, t] })
    (base : Nat) (e : TypeId) (i : TypeInfo) (z : Value) (size bytes : Nat) (ht : P.underlying t = some (.slice e)) (hi : P.info? e = some i) (hz : i.zero = some z)
    (hsize : i.size = size) (hby : i.bytes = bytes) (hzs : z.cells.size = size) (hsz : 0 < size)
    (v : Value) (n : Nat) (xs : List Value) (hs : a.eval s = v) (hown : w.ownsRow base e size v n xs)
    (ad : Addr) (m c : Nat) (news : List Value) (hx : a.eval x = .slice (some ad) m c) (hl : news.length = m * size) (hnews : ∀ j u, news[j]? = some u → w.cell? (ad.add j) = some u) (h1 : ∀ u ∈ news, u.oneCell' = true)
    (h63 : n + m ≤ maxLen) (hbytes : (n + m) * bytes ≤ 140737488355328) (hbase : base ≤ w.heap.size)
    (h : ∀ v' w', w'.ownsRow base e size v' (n + m) (xs ++ news) → w.grownBy w' v.ownBlock → Newer w v v' → wpList P ops Q rest (a.put o.dst v') w') : wpList P ops Q (o :: rest) a w :=
  wpList_plain hgd fun _ hK => wp_append_newer w s x t ho base e i z size bytes ht hi hz hsize hby hzs hsz v n xs hs hown ad m c news hx hl hnews h1 h63 hbytes hbase fun v' w' h2 h3 h4 => hK _ _ (h v' w' h2 h3 h4)

/-- The slice u of m elements reads, in w, as the cells news: a source of an append. -/
def Src (w : World) (u : Value) (m : Nat) (news : List Value) : Prop := (u = .slice none 0 0 ∧ news = [] ∧ m = 0) ∨ ∃ ad c, u = .slice (some ad) m c ∧ ∀ j z, news[j]? = some z → w.cell? (ad.add j) = some z

/-- append of whatever slice onto a row of the call's own. -/
theorem wp_append_src {o : Oper} {a : Act} {K : Act → World → Prop} {Q : Exit → Act → World → Prop} (s x : Operand) (t : TypeId)
    (ho : o.op = .call { callee := .builtin .append, args := #[s, x], argTypes := #[t, t] })
    (base : Nat) (e : TypeId) (i : TypeInfo) (z : Value) (size bytes : Nat) (ht : P.underlying t = some (.slice e)) (hi : P.info? e = some i) (hz : i.zero = some z)
    (hsize : i.size = size) (hby : i.bytes = bytes) (hzs : z.cells.size = size) (hsz : 0 < size)
    (v : Value) (n : Nat) (xs : List Value) (hs : a.eval s = v) (hown : w.ownsRow base e size v n xs)
    (u : Value) (m : Nat) (news : List Value) (hx : a.eval x = u) (hu : Src w u m news) (hl : news.length = m * size) (h1 : ∀ u ∈ news, u.oneCell' = true)
    (h63 : n + m ≤ maxLen) (hbytes : (n + m) * bytes ≤ 140737488355328) (hbase : base ≤ w.heap.size)
    (h : ∀ v' w', w'.ownsRow base e size v' (n + m) (xs ++ news) → w.grownBy w' v.ownBlock → Newer w v v' → K (a.put o.dst v') w') : o.wp P a w K Q := by
  rcases hu with ⟨rfl, rfl, rfl⟩ | ⟨ad, c, rfl, hnews⟩
  · have hr := run_append_owned_none (P := P) w base t o.type e i size ht hi v n xs hown
    unfold Oper.wp execOp
    simp only [ho, resolve, invoke, builtin, Sem.run_bind, Sem.run_pure, Result.andThen_ok, List.map_toArray, List.map_cons, List.map_nil, hs, hx, hr]
    exact h v w (by simpa using hown) ⟨rfl, rfl, rfl, Nat.le_refl _, fun _ _ _ => rfl⟩ (.inl rfl)
  · exact wp_append_newer w s x t ho base e i z size bytes ht hi hz hsize hby hzs hsz v n xs hs hown ad m c news hx hl hnews h1 h63 hbytes hbase h
theorem wpList_append_src {ops : Array Oper} {rest : List Oper} {o : Oper} {a : Act} {Q : Exit → Act → World → Prop} (hgd : o.guard = none) (s x : Operand) (t : TypeId)
    (ho : o.op = .call { callee := .builtin .append, args := #[s, x], argTypes := #[t, t] })
    (base : Nat) (e : TypeId) (i : TypeInfo) (z : Value) (size bytes : Nat) (ht : P.underlying t = some (.slice e)) (hi : P.info? e = some i) (hz : i.zero = some z)
    (hsize : i.size = size) (hby : i.bytes = bytes) (hzs : z.cells.size = size) (hsz : 0 < size)
    (v : Value) (n : Nat) (xs : List Value) (hs : a.eval s = v) (hown : w.ownsRow base e size v n xs)
    (u : Value) (m : Nat) (news : List Value) (hx : a.eval x = u) (hu : Src w u m news) (hl : news.length = m * size) (h1 : ∀ u ∈ news, u.oneCell' = true)
    (h63 : n + m ≤ maxLen) (hbytes : (n + m) * bytes ≤ 140737488355328) (hbase : base ≤ w.heap.size)
    (h : ∀ v' w', w'.ownsRow base e size v' (n + m) (xs ++ news) → w.grownBy w' v.ownBlock → Newer w v v' → wpList P ops Q rest (a.put o.dst v') w') : wpList P ops Q (o :: rest) a w :=
  wpList_plain hgd fun _ hK => wp_append_src w s x t ho base e i z size bytes ht hi hz hsize hby hzs hsz v n xs hs hown u m news hx hu hl h1 h63 hbytes hbase fun v' w' h2 h3 h4 => hK _ _ (h v' w' h2 h3 h4)
end
theorem ownsRow_src {B n : Nat} {w : World} {e : TypeId} {size : Nat} {u : Value} {xs : List Value} (h : w.ownsRow B e size u n xs) : Src w u n xs := by
  rcases h.2 with ⟨rfl, rfl⟩ | ⟨g, cap, cur, rfl, _⟩
  · exact .inl ⟨rfl, List.eq_nil_of_length_eq_zero (by simpa using h.1), rfl⟩
  · exact .inr ⟨_, _, rfl, h.cells (g := g) rfl⟩
end Go.Proofs.Ytmlfeocdcjhhaaa

namespace Go.Proofs.Ytmlfeocdcjhhaaa
set_option maxRecDepth 100000
open Go.RowKit Go.ChangeShapes Go.WideShapes Go.Deep
set_option linter.unusedVariables false
set_option linter.unusedSimpArgs false

/-- How cells read as things of a type. -/
structure Rep (α : Type) where
  n : Nat
  At : World → List Value → α → Prop
  len : ∀ w cs x, At w cs x → cs.length = n
  keep : ∀ w w' cs x, At w cs x → Below w.heap.size w w' → At w' cs x
  one : ∀ w cs x, At w cs x → ∀ v ∈ cs, v.oneCell' = true

section
variable {α : Type} (R : Rep α)
/-- From address a on lie cells that read as xs. -/
def Rep.Els (w : World) (a : Option Addr) (xs : List α) : Prop :=
  ∀ i, (h : i < xs.length) → ∃ b off cs, a = some ⟨b, off, none⟩ ∧ R.At w cs xs[i] ∧ ∀ j v, cs[j]? = some v → w.cell? ⟨b, off + i * R.n + j, none⟩ = some v
/-- A slice that reads as xs. -/
def Rep.Sl (w : World) (v : Value) (xs : List α) : Prop := ∃ a cap, v = .slice a xs.length cap ∧ xs.length ≤ cap ∧ cap ≤ maxLen ∧ (a = none → cap = 0) ∧ R.Els w a xs
theorem Rep.Els.nil (w : World) (a : Option Addr) : R.Els w a [] := fun i h => absurd h (Nat.not_lt_zero i)
theorem Rep.Els.below {w w' : World} {a : Option Addr} {xs : List α} {B : Nat} (h : R.Els w a xs) (hb : Below B w w') (hB : w.heap.size ≤ B) : R.Els w' a xs := by
  intro i hi
  obtain ⟨b, off, cs, e, hc, hx⟩ := h i hi
  have hb' := hb.mono hB
  exact ⟨b, off, cs, e, R.keep _ _ _ _ hc hb', fun j v hj => (hb'.cell (p := ⟨b, off + i * R.n + j, none⟩) (World.block_lt_of_cell? w _ (hx j v hj))).trans (hx j v hj)⟩
theorem Rep.Sl.below {w w' : World} {v : Value} {xs : List α} {B : Nat} (h : R.Sl w v xs) (hb : Below B w w') (hB : w.heap.size ≤ B) : R.Sl w' v xs := by
  obtain ⟨a, cap, e, h1, h2, h4, h3⟩ := h
  exact ⟨a, cap, e, h1, h2, h4, h3.below R hb hB⟩
theorem Rep.Sl.nil (w : World) : R.Sl w (.slice none 0 0) [] := ⟨none, 0, rfl, Nat.le_refl _, Nat.zero_le _, fun _ => rfl, Rep.Els.nil R _ _⟩
/-- A slice, as one cell. -/
def Rep.slice : Rep (List α) where
  n := 1
  At w cs xs := ∃ v, cs = [v] ∧ R.Sl w v xs
  len := by rintro w cs x ⟨v, rfl, _⟩; rfl
  keep := by rintro w w' cs x ⟨v, rfl, h⟩ hb; exact ⟨v, rfl, h.below R hb (Nat.le_refl _)⟩
  one := by rintro w cs x ⟨v, rfl, a, cap, rfl, _⟩ u hu; cases List.mem_singleton.1 hu; rfl
/-- Things that are their cells, whatever the memory. -/
def Rep.flat (n : Nat) (enc : α → List Value) (wf : α → Prop) (hl : ∀ x, (enc x).length = n) (h1 : ∀ x, ∀ v ∈ enc x, v.oneCell' = true) : Rep α where
  n := n
  At _ cs x := cs = enc x ∧ wf x
  len := by rintro w cs x ⟨rfl, _⟩; exact hl x
  keep := by rintro w w' cs x h _; exact h
  one := by rintro w cs x ⟨rfl, _⟩; exact h1 x
end

/-- Numbers. -/
def Rep.int (k : IntKind) : Rep Int := Rep.flat 1 (fun x => [.int k x]) (fun x => (Lit.int k x).wf = true) (fun _ => rfl) (by intro x v hv; cases List.mem_singleton.1 hv; rfl)

section
variable {H : Type} {enc : TypeId × Value → H} {α : Type}
/-- Whatever reads as data of type t is a thing of R. -/
def Opens (t : TypeId) (R : Rep α) : Prop := Try.prog.cellsOf t = R.n ∧ ∀ {H : Type} {enc : TypeId × Value → H} {w : World} {base : Nat} {spare : Nat → Bool} {held : Bool} {m : Nat} {cs : List Value} {y : DataW H × List MemPlace},
  DataW.trod enc Try.prog w base spare held m t cs = some y → ∃ x, R.At w cs x
theorem opens_int {t : TypeId} {k : IntKind} (ht : Try.prog.underlying t = some (.int k)) (hc : Try.prog.cellsOf t = 1) : Opens t (Rep.int k) := ⟨hc, fun h => by
  obtain ⟨n, rfl, _, hw⟩ := DataW.trod_int ht h
  exact ⟨n, rfl, hw⟩⟩
theorem list_of {α : Type} {n : Nat} {p : Nat → α → Prop} (h : ∀ i, i < n → ∃ x, p i x) : ∃ l : List α, l.length = n ∧ ∀ i, (hi : i < l.length) → p i l[i] := by
  induction n with
  | zero => exact ⟨[], rfl, fun i hi => absurd hi (Nat.not_lt_zero i)⟩
  | succ n ih =>
    obtain ⟨l, hl, hp⟩ := ih (fun i hi => h i (Nat.lt_succ_of_lt hi))
    obtain ⟨x, hx⟩ := h n (Nat.lt_succ_self n)
    refine ⟨l ++ [x], by simp [hl], fun i hi => ?_⟩
    by_cases hin : i < l.length
    · rw [List.getElem_append_left hin]; exact hp i hin
    · have : i = l.length := by simp at hi; omega
      subst this
      rw [List.getElem_append_right (Nat.le_refl _)]
      simp only [Nat.sub_self, List.getElem_cons_zero]
      rw [hl]; exact hx
theorem opens_slice {t e : TypeId} {R : Rep α} (ht : Try.prog.underlying t = some (.slice e)) (hc : Try.prog.cellsOf t = 1) (hpos : 0 < Try.prog.cellsOf e) (he : Opens e R) : Opens t R.slice := ⟨hc, fun {H enc w base spare held m cs y} h => by
  rcases open_slice ht h with ⟨rfl, _⟩ | ⟨a, len, cap, m', n, D, Pl, rfl, hb, hl, hm, hmm, _, hx⟩
  · exact ⟨[], _, rfl, Rep.Sl.nil R _⟩
  · have hlm : len ≤ m' := by rw [hmm]; split <;> omega
    obtain ⟨xs, hxl, hxs⟩ := list_of (n := len) (p := fun i x => ∃ cs', w.cells? base (a.add (i * R.n)) R.n = some cs' ∧ R.At w cs' x) (fun i hi => by
      obtain ⟨cs', h1, h2⟩ := hx i (by omega)
      rw [he.1] at h1
      obtain ⟨x, h3⟩ := he.2 h2
      exact ⟨x, cs', h1, h3⟩)
    refine ⟨xs, _, rfl, some a, cap, by rw [hxl], by omega, hm, (fun e => by cases e), fun i hi => ?_⟩
    obtain ⟨cs', h1, h2⟩ := hxs i hi
    obtain ⟨_, hlen, hat⟩ := World.cells?_some h1
    obtain ⟨b, off, spot⟩ := a
    have hcell : ∀ j v, cs'[j]? = some v → w.cell? ((Addr.mk b off spot).add (i * R.n + j)) = some v := fun j v hj => by
      have hjl : j < R.n := by rw [← hlen]; exact (List.getElem?_eq_some_iff.1 hj).1
      have := hat j hjl
      rw [add_add] at this
      rw [this, hj]
    have hspot : spot = none := by
      obtain ⟨cs0, g1, g2⟩ := hxs 0 (by omega)
      obtain ⟨_, hlen0, hat0⟩ := World.cells?_some g1
      have h0 : 0 < R.n := by rw [← he.1]; exact hpos
      have hj : cs0[0]? = some (cs0[0]'(by omega)) := List.getElem?_eq_getElem (by omega)
      have h1 := hat0 0 h0
      rw [hj] at h1
      simpa [Addr.add] using World.cell?_spot h1
    subst hspot
    refine ⟨b, off, cs', rfl, h2, fun j v hj => ?_⟩
    have := hcell j v hj
    have e : (Addr.mk b off none).add (i * R.n + j) = ⟨b, off + i * R.n + j, none⟩ := by
      unfold Addr.add
      split
      · rename_i h; rw [show off + i * R.n + j = off from by omega]
      · rw [Nat.add_assoc]
    rwa [e] at this⟩
/-- An argument opened. -/
theorem opens_arg {t : TypeId} {R : Rep α} (he : Opens t R) (h1 : R.n = 1) {w : World} {base : Nat} {spare : Nat → Bool} {held : Bool} {v : Value} {d : DataW H} {p : List MemPlace} (hv : v.cells.toList = [v])
    (h : DataW.Trod enc Try.prog w base spare held t v d p) : ∃ x, R.At w [v] x := by
  obtain ⟨m, hm⟩ := h
  rw [hv] at hm
  exact he.2 hm
theorem opens_sl {t e : TypeId} {R : Rep α} (ht : Try.prog.underlying t = some (.slice e)) (he : Opens t R.slice) {w : World} {base b0 : Nat} {spare : Nat → Bool} {held : Bool} {v : Value} {d : DataW H} {p : List MemPlace} {r : Reach}
    (hv : Value.okWide Try.prog w r b0 t v) (h : DataW.Trod enc Try.prog w base spare held t v d p) : ∃ xs, R.Sl w v xs := by
  obtain ⟨a, l, c, rfl⟩ := okWide_slice ht hv
  obtain ⟨m, hm⟩ := h
  obtain ⟨xs, v, e, h⟩ := he.2 (by simpa [Value.cells] using hm)
  cases e
  exact ⟨xs, h⟩
/-- A field that is a number. -/
theorem field_int {t : TypeId} {k : IntKind} (ht : Try.prog.underlying t = some (.int k)) (hc : Try.prog.cellsOf t = 1) {w : World} {base : Nat} {spare : Nat → Bool} {held : Bool} {m off : Nat} {cs : List Value} {y : DataW H × List MemPlace}
    (h : DataW.trod enc Try.prog w base spare held m t ((cs.drop off).take (Try.prog.cellsOf t)) = some y) : ∃ n, (cs.drop off).take 1 = [.int k n] ∧ (Lit.int k n).wf = true := by
  rw [hc] at h
  obtain ⟨n, e, _, hw⟩ := DataW.trod_int ht h
  exact ⟨n, e, hw⟩
/-- A field of another type. -/
theorem field_of {t : TypeId} {R : Rep α} (he : Opens t R) {w : World} {base : Nat} {spare : Nat → Bool} {held : Bool} {m off : Nat} {cs : List Value} {y : DataW H × List MemPlace}
    (h : DataW.trod enc Try.prog w base spare held m t ((cs.drop off).take (Try.prog.cellsOf t)) = some y) : ∃ x, R.At w ((cs.drop off).take R.n) x := by
  rw [he.1] at h
  exact he.2 h
end
end Go.Proofs.Ytmlfeocdcjhhaaa
