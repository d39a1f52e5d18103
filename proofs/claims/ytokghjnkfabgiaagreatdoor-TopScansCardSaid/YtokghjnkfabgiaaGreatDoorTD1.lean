import Derived.Test.YtokghjnkfabgiaaGreatDoorRows
import Derived.WalkKit
import Derived.ProofKit
import Derived.OpenShut
import Derived.Below
import Derived.WalkLawsBesides
import Derived.WalkSpells
import Derived.Lib.Hide
import Derived.Deep.QuietTactic
import Derived.BigQuiet
import Derived.Laws.CopyOwn
import Derived.RangeFuncBox
import Derived.Lib.SmallJoins
set_option linter.unusedVariables false
set_option linter.unusedSimpArgs false
set_option maxRecDepth 100000
namespace Go.Proofs.YtokghjnkfabgiaaGreatDoor
open Go.RowKit

theorem bcell {W w1 : World} {B : Nat} (hb : Below B W w1) : (∀ b o, b < B → w1.cell? ⟨b, o, none⟩ = W.cell? ⟨b, o, none⟩) ∧ (∀ b o, b < B → w1.frozen? ⟨b, o, none⟩ = W.frozen? ⟨b, o, none⟩) :=
 ⟨fun b o h => hb.cell (p := ⟨b, o, none⟩) h, fun b o h => hb.frozen (p := ⟨b, o, none⟩) h⟩

theorem ret_int {k : IntKind} {a b : Int} (h : a = b) : Ending.returned (.int k a) = .returned (.int k b) := by rw [h]
theorem ret_bool {a b : Bool} (h : a = b) : Ending.returned (.bool a) = .returned (.bool b) := by rw [h]

theorem callFunc_enter {P : Program} {f : FuncId} {fn : Func} {c : Code} (hf : P.funcs[f]? = some fn) (hname : (fn.name == "runtime.NumGoroutine") = false) (hb : fn.body = some c) (args : Array Value) (w : World) :
  (callFunc f args).run P w = .ok (.enter f args) w := by
 have h1 : fn.name ≠ "runtime.NumGoroutine" := by simpa using hname
 simp [callFunc, hf, h1, hb]

theorem Below.drewN {B : Nat} (w : World) (n : Nat) : Below B w (w.drewN n) := ⟨rfl, rfl, rfl, Nat.le_refl _, fun _ _ => rfl⟩

def two (p : Int × Int) : Ending := .returned (.tuple #[.int .i64 p.1, .int .i64 p.2])
theorem ret_two {a b : Int} {p : Int × Int} (h : p = (a, b)) : Ending.returned (.tuple #[.int .i64 a, .int .i64 b]) = two p := by subst h; rfl


theorem bAfter {B : Nat} {w W W2 : World} (hB : Below B w W) (hs : B ≤ W.heap.size) (hb : Below W.heap.size W W2) : Below B w W2 := hB.trans (hb.mono hs)

theorem bNext {w W W2 : World} (hb : Below W.heap.size W W2) (hB : Below w.heap.size w W) : Below w.heap.size w W2 := hB.trans (hb.mono hB.size)
theorem own : ownKnob Tryz.prog.godebug = none := by kernel_rfl
theorem laidOut : laidOutB Tryz.prog = true := by kernel_rfl
end Go.Proofs.YtokghjnkfabgiaaGreatDoor

namespace Go.Proofs.YtokghjnkfabgiaaGreatDoor
open Go.RowKit

def IntsAt (k : IntKind) (w : World) (a : Option Addr) (xs : List Int) : Prop :=
 ∀ i, (h : i < xs.length) → ∃ b off, a = some ⟨b, off, none⟩ ∧ w.cell? ⟨b, off + i, none⟩ = some (.int k xs[i])

theorem IntsAt.nil (k : IntKind) (w : World) (a : Option Addr) : IntsAt k w a [] := fun i h => absurd h (Nat.not_lt_zero i)

theorem IntsAt.below {k : IntKind} {w w' : World} {B : Nat} {a : Option Addr} {xs : List Int} (h : IntsAt k w a xs) (hb : Below B w w') (hB : w.heap.size ≤ B) : IntsAt k w' a xs := by
 intro i hi
 obtain ⟨b, off, rfl, hc⟩ := h i hi
 have hl := World.block_lt_of_cell? w _ hc
 exact ⟨b, off, rfl, (hb.cell (p := ⟨b, off + i, none⟩) (Nat.lt_of_lt_of_le hl hB)).trans hc⟩

theorem IntsAt.drewN {k : IntKind} {w : World} {a : Option Addr} {xs : List Int} (h : IntsAt k w a xs) (n : Nat) : IntsAt k (w.drewN n) a xs := h
def RowI (B : Nat) (w : World) (v : Value) (xs : List Int) : Prop := w.ownsRow B 2 1 v xs.length (xs.map (Value.int .i64))
theorem RowI.nil (B : Nat) (w : World) : RowI B w (.slice none 0 0) [] := World.ownsRow_nil w B 2 1
theorem RowI.slice {B : Nat} {w : World} {v : Value} {xs : List Int} (h : RowI B w v xs) : ∃ a cap, v = .slice a xs.length cap ∧ xs.length ≤ maxLen ∧ IntsAt .i64 w a xs := by
 obtain ⟨h1, ⟨hv, hn⟩ | ⟨g, cap, cur, hv, hB, hg, hnc, hcm, hcs, ht⟩⟩ := h
 ·have hx : xs = [] := List.eq_nil_of_length_eq_zero hn
  subst hx
  exact ⟨none, 0, hv, Nat.zero_le _, IntsAt.nil _ _ _⟩
 ·refine ⟨some ⟨g, 0, none⟩, cap, hv, Nat.le_trans hnc hcm, fun i hi => ⟨g, 0, rfl, ?_⟩⟩
  rw [Nat.zero_add, cell_of_row w g i cur 2 (0, 0) hg]
  have : (cur.toList.take (xs.length * 1))[i]? = some (.int .i64 xs[i]) := by rw [ht]; simp [hi]
  rw [List.getElem?_take, if_pos (by omega)] at this
  simpa using this
theorem RowI.kept {B : Nat} {w w' : World} {v : Value} {xs : List Int} {row : Option Nat} (h : RowI B w v xs) (hg : w.grownBy w' row) (hne : v.ownBlock = none ∨ v.ownBlock ≠ row) : RowI B w' v xs := World.ownsRow.kept h hg hne
theorem grownBy_of_below {w w' : World} (h : Below w.heap.size w w') : w.grownBy w' none := ⟨h.os, h.tape, h.output, h.size, fun k hk _ => h.block k hk⟩
theorem RowI.below {B : Nat} {w w' : World} {v : Value} {xs : List Int} (h : RowI B w v xs) (hb : Below w.heap.size w w') : RowI B w' v xs :=
 h.kept (grownBy_of_below hb) (by cases v.ownBlock <;> simp)
theorem Tryz.info2 : (Tryz.prog.info? 2).map (fun i => (i.zero, i.size, i.bytes)) = some (some (.int .i64 0), 1, 8) := by kernel_rfl

theorem IntsAt.src {k : IntKind} {w : World} {a : Option Addr} {xs : List Int} (h : IntsAt k w a xs) (h0 : 0 < xs.length) : ∃ ad, a = some ad ∧ ∀ j v, (xs.map (Value.int k))[j]? = some v → w.cell? (ad.add j) = some v := by
 obtain ⟨b, off, rfl, _⟩ := h 0 h0
 refine ⟨_, rfl, fun j v hv => ?_⟩
 have hj : j < xs.length := by
  by_cases hj : j < xs.length
  ·exact hj
  ·rw [List.getElem?_eq_none (by simpa using hj)] at hv; cases hv
 obtain ⟨b', off', e, hc⟩ := h j hj
 cases e
 rw [List.getElem?_map, List.getElem?_eq_getElem hj] at hv
 cases hv
 have : (⟨b, off, none⟩ : Addr).add j = ⟨b, off + j, none⟩ := by unfold Addr.add; split <;> simp_all
 rw [this]; exact hc
theorem oneCell_ints (k : IntKind) (xs : List Int) : ∀ v ∈ xs.map (Value.int k), v.oneCell' = true := by
 intro v hv; obtain ⟨x, _, rfl⟩ := List.mem_map.1 hv; rfl

def subA (a : Option Addr) (m l : Nat) : Option Addr := if m = l then a else a.map (·.add l)
theorem IntsAt.cut {k : IntKind} {w : World} {a : Option Addr} {xs : List Int} (h : IntsAt k w a xs) {m l n : Nat} (hm : xs.length ≤ m) : IntsAt k w (subA a m l) ((xs.drop l).take n) := by
 intro i hi
 rw [List.length_take, List.length_drop] at hi
 obtain ⟨b, off, rfl, hc⟩ := h (l + i) (by omega)
 refine ⟨b, off + l, ?_, ?_⟩
 ·unfold subA
  rw [if_neg (by omega)]
  simp only [Option.map_some, Addr.add]
  split <;> simp_all
 ·rw [List.getElem_take, List.getElem_drop, Nat.add_assoc]; exact hc
theorem sized2 (w : World) : (sizeOf (Tryz.prog.elem 42)).run Tryz.prog w = .ok 1 w := by kernel_rfl
theorem sliced_subA (a : Option Addr) (l h m : Nat) : sliced a l h m 1 = .slice (subA a m l) (h - l) (m - l) := by unfold sliced subA; rw [Nat.mul_one]
theorem slice_lo (w : World) (a : Option Addr) (len cap : Nat) (kl : IntKind) (l : Int) (h0 : 0 ≤ l) (h1 : l ≤ len) :
  (Instr.sliceAt 42 (.slice a len cap) (some (.int kl l)) none none).run Tryz.prog w = .ok (.slice (subA a cap l.toNat) (len - l.toNat) (cap - l.toNat)) w := by
 rw [run_sliceAt_slice w 42 _ _ _ _ Tryz.underlying42, run_slice_l w 42 a len cap Tryz.underlying42 kl l h0 h1, sized2]
 simp only [Result.andThen, sliced_subA]
theorem slice_hi (w : World) (a : Option Addr) (len cap : Nat) (kh : IntKind) (h : Int) (h0 : 0 ≤ h) (h2 : h ≤ cap) :
  (Instr.sliceAt 42 (.slice a len cap) none (some (.int kh h)) none).run Tryz.prog w = .ok (.slice (subA a cap 0) h.toNat cap) w := by
 rw [run_sliceAt_slice w 42 _ _ _ _ Tryz.underlying42, run_slice_h w 42 a len cap Tryz.underlying42 kh h h0 h2, sized2]
 simp only [Result.andThen, sliced_subA, Nat.sub_zero]
def Apart (v u : Value) : Prop := v.ownBlock = none ∨ v.ownBlock ≠ u.ownBlock
def RetArr (B : Nat) (r : (List Int × List Int) × Int) (e : Ending) (w' : World) : Prop :=
 ∃ v u, e = .returned (.tuple #[.agg #[v, u], .int .i64 r.2]) ∧ RowI B w' v r.1.1 ∧ RowI B w' u r.1.2 ∧ Apart v u

theorem IntsAt.lit (k : IntKind) (W : World) (t : TypeId) (xs : List Int) : IntsAt k (W.alloc (.cells (xs.map (Value.int k)).toArray t)) (some ⟨W.heap.size, 0, none⟩) xs := by
 intro i hi
 refine ⟨W.heap.size, 0, rfl, ?_⟩
 rw [Nat.zero_add, cell_of_row _ W.heap.size i _ t (0, 0) (World.alloc_heap_new W _)]
 simp [hi]
end Go.Proofs.YtokghjnkfabgiaaGreatDoor

namespace Go.Proofs.YtokghjnkfabgiaaGreatDoor
open Go.RowKit

theorem keepCell {W w1 : World} {p : Addr} {v : Value} (hb : Below W.heap.size W w1) (h : W.cell? p = some v) : w1.cell? p = some v := (hb.cell (World.block_lt_of_cell? W _ h)).trans h

structure BelowW (w : World) where
 world : World
 below : Below w.heap.size w world
instance belowWInhabited (w : World) : Inhabited (BelowW w) := ⟨⟨w, Below.refl _ _⟩⟩
theorem wp_region_below {P : Program} {id : Nat} {Q : Exit → Act → World → Prop} {a : Act} {w : World} {l : List Oper} (hm : P.follows .mixedOrders = true) (hB : Region.lexB .any l.toArray = true)
  (h : wpQuiet P l.toArray (fun w' => ∃ p : BelowW w, w' = p.world) (fun a' => ∀ w', (∃ p : BelowW w, w' = p.world) → Q .normal a' w') l a) : (Code.region id l.toArray true).wp P Q a w :=
 wp_region_quiet (C := fun w' => ∃ p : BelowW w, w' = p.world) hm hB ⟨⟨w.drew, (Below.refl _ _).drew⟩, rfl⟩ (by simpa using h)
theorem cellBW {w : World} {a : Addr} {v : Value} (h : w.cell? a = some v) (p : BelowW w) : p.world.cell? a = some v := keepCell p.below h
theorem callsBW {P : Program} {f : FuncId} {args : Array Value} {w : World} {v : Value} {p : BelowW w}
  (h : Calls P f args p.world fun e w' => e = .returned v ∧ Below p.world.heap.size p.world w') : Calls P f args p.world fun e w'' => e = .returned v ∧ ∃ q : BelowW w, w'' = q.world :=
 h.mono fun _ w' ⟨he, hq⟩ => ⟨he, ⟨w', bNext hq p.below⟩, rfl⟩
end Go.Proofs.YtokghjnkfabgiaaGreatDoor

namespace Go.Proofs.YtokghjnkfabgiaaGreatDoor
open Go.RowKit

theorem RowI.mono {B B' : Nat} {w : World} {v : Value} {xs : List Int} (h : RowI B w v xs) (hB : B' ≤ B) : RowI B' w v xs := by
 obtain ⟨h1, h2 | ⟨g, cap, cur, hv, hb, r⟩⟩ := h
 ·exact ⟨h1, .inl h2⟩
 ·exact ⟨h1, .inr ⟨g, cap, cur, hv, Nat.le_trans hB hb, r⟩⟩
end Go.Proofs.YtokghjnkfabgiaaGreatDoor

-- DROPS
namespace Go.Proofs.YtokghjnkfabgiaaGreatDoor
open Go.RowKit

def firstP (p : Int → Bool) : Nat → List Int → Int
 | _, [] => -1
 | k, x :: xs => if p x then k else firstP p (k + 1) xs

theorem firstP_step {p : Int → Bool} {k : Nat} {xs : List Int} (h : k < xs.length) : firstP p k (xs.drop k) = if p xs[k] then (k : Int) else firstP p (k + 1) (xs.drop (k + 1)) := by
 rw [List.drop_eq_getElem_cons h, firstP]

theorem firstP_nonneg {p : Int → Bool} : ∀ (xs : List Int) (k : Nat), decide (0 ≤ firstP p k xs) = xs.any p
 | [], k => by simp [firstP]
 | x :: xs, k => by
  rw [firstP]
  by_cases h : p x
  ·simp [h]
  ·simp [h, firstP_nonneg xs (k + 1)]

set_option maxHeartbeats 400000 in
theorem sindex_any (w : World) (a : Option Addr) (cap : Nat) (xs : List Int) (v : Int) (hm : xs.length ≤ maxLen) (h : IntsAt .i64 w a xs) :
  Calls Tryz.prog 168 #[.slice a xs.length cap, .int .i64 v] w fun e w' => e = .returned (.int .i64 (firstP (v == ·) 0 xs)) ∧ w = w' := by
 unfold maxLen at hm
 go_enter Tryz.func168, Tryz.ntmps168
 go_wp2
 go_loop [8] (fun i => ∃ k : Nat, k ≤ xs.length ∧ i = .int .i64 k ∧ firstP (v == ·) 0 xs = firstP (v == ·) k (xs.drop k)) (fun i => xs.length - (intOf i).toNat)
 case atStart => exact ⟨0, Nat.zero_le _, rfl, rfl⟩
 case round =>
  obtain ⟨k, hk, rfl, hr⟩ := hrel
  by_cases hlt : k < xs.length
  ·obtain ⟨b, off, rfl, hc⟩ := h k hlt
   rw [firstP_step hlt] at hr
   have Hr := Lib.hid hr; clear hr h
   by_cases hv : (v == xs[k]) = true
   ·go_wp2
    go_ret
    exact ⟨ret_int (by rw [Hr.out, if_pos hv]), rfl⟩
   ·have hv' : (v == xs[k]) = false := by simpa using hv
    go_wp2
    go_round
    case rel => exact ⟨k + 1, by omega, by go_num, by rw [Hr.out, if_neg hv]⟩
    case measure => simp [intOf]; omega
  ·have Hr := Lib.hid hr; clear hr h
   go_wp2
   go_ret
   exact ⟨ret_int (by rw [Hr.out, List.drop_eq_nil_of_le (by omega)]; rfl), rfl⟩

set_option maxHeartbeats 400000 in
theorem contains_any (w : World) (a : Option Addr) (cap : Nat) (xs : List Int) (v : Int) (hm : xs.length ≤ maxLen) (h : IntsAt .i64 w a xs) :
  Calls Tryz.prog 154 #[.slice a xs.length cap, .int .i64 v] w fun e w' => e = .returned (.bool (xs.any (v == ·))) ∧ w = w' := by
 go_enter Tryz.func154, Tryz.ntmps154
 go_wp2_with (go_at_call 168; refine (sindex_any _ a cap xs v hm h).mono ?_; rintro e w' ⟨rfl, rfl⟩)
 go_ret
 exact ⟨ret_bool (firstP_nonneg _ _), rfl⟩

set_option maxHeartbeats 400000 in
theorem indexFunc_any (w : World) (a : Option Addr) (cap : Nat) (xs : List Int) (g : FuncId) (cs : Array Value) (p : Int → Bool) (hg : ∀ args w, (callFunc g args).run Tryz.prog w = .ok (.enter g args) w) (hm : xs.length ≤ maxLen) (h : IntsAt .i64 w a xs)
  (hp : ∀ x ∈ xs, ∀ w', Below w.heap.size w w' → Calls Tryz.prog g (#[.int .i64 x] ++ cs) w' fun e w'' => e = .returned (.bool (p x)) ∧ Below w.heap.size w' w'') :
  Calls Tryz.prog 124 #[.slice a xs.length cap, .func (.func g) #[] cs] w fun e w' => e = .returned (.int .i64 (firstP p 0 xs)) ∧ Below w.heap.size w w' := by
 unfold maxLen at hm
 go_enter Tryz.func124, Tryz.ntmps124
 go_wp2
 go_loopw [8] (fun i wr => ∃ k : Nat, k ≤ xs.length ∧ i = .int .i64 k ∧ firstP p 0 xs = firstP p k (xs.drop k) ∧ Below w.heap.size w wr) (fun i _ => xs.length - (intOf i).toNat)
 case atStart => exact ⟨0, Nat.zero_le _, rfl, rfl, Below.refl _ _⟩
 case round =>
  obtain ⟨k, hk, rfl, hr, hbel⟩ := hrel
  by_cases hlt : k < xs.length
  ·obtain ⟨b, off, rfl, hc⟩ := (h.below hbel (Nat.le_refl _)) k hlt
   rw [firstP_step hlt] at hr
   have Hr := Lib.hid hr; clear hr h
   have hq := Lib.hid (hp xs[k] (List.getElem_mem hlt) wr hbel)
   clear hp
   by_cases hv : p xs[k] = true
   ·rw [hv] at hq
    go_wp2_with (refine hq.out.mono ?_; rintro e w' ⟨rfl, hb1⟩)
    go_ret
    exact ⟨ret_int (by rw [Hr.out, if_pos hv]), hbel.trans hb1⟩
   ·have hv' : p xs[k] = false := by simpa using hv
    rw [hv'] at hq
    go_wp2_with (refine hq.out.mono ?_; rintro e w' ⟨rfl, hb1⟩)
    go_roundw
    case rel => exact ⟨k + 1, by omega, by go_num, by rw [Hr.out, if_neg hv], hbel.trans hb1⟩
    case measure => simp [intOf]; omega
  ·have Hr := Lib.hid hr; clear hr h hp
   go_wp2
   go_ret
   exact ⟨ret_int (by rw [Hr.out, List.drop_eq_nil_of_le (by omega)]; rfl), hbel⟩

set_option maxHeartbeats 400000 in
theorem containsFunc_any (w : World) (a : Option Addr) (cap : Nat) (xs : List Int) (g : FuncId) (cs : Array Value) (p : Int → Bool) (hg : ∀ args w, (callFunc g args).run Tryz.prog w = .ok (.enter g args) w) (hm : xs.length ≤ maxLen) (h : IntsAt .i64 w a xs)
  (hp : ∀ x ∈ xs, ∀ w', Below w.heap.size w w' → Calls Tryz.prog g (#[.int .i64 x] ++ cs) w' fun e w'' => e = .returned (.bool (p x)) ∧ Below w.heap.size w' w'') :
  Calls Tryz.prog 92 #[.slice a xs.length cap, .func (.func g) #[] cs] w fun e w' => e = .returned (.bool (xs.any p)) ∧ Below w.heap.size w w' := by
 have hq := Lib.hid (indexFunc_any w a cap xs g cs p hg hm h hp)
 clear hp h
 go_enter Tryz.func92, Tryz.ntmps92
 go_wp2_with (go_at_call 124; refine hq.out.mono ?_; rintro e w' ⟨rfl, hb1⟩)
 go_ret
 exact ⟨ret_bool (firstP_nonneg _ _), hb1⟩

end Go.Proofs.YtokghjnkfabgiaaGreatDoor

-- DROPS
namespace Go.Proofs.YtokghjnkfabgiaaGreatDoor

def badSide (s : Int) : Bool := decide (s < 0) || decide (65536 < s)

theorem badSide_false {s : Int} (h : badSide s = false) : 0 ≤ s ∧ s ≤ 65536 := by
 simp [badSide] at h; exact h

def prodTo : Int → List Int → Int × Int
 | n, [] => (n, 0)
 | n, s :: r => if 65536 < n * s then (0, 61) else prodTo (n * s) r

def size (xs : List Int) : Int × Int :=
 if 4 < xs.length then (0, 61) else if xs.any badSide then (0, 61) else if xs.any ((0 : Int) == ·) then (0, 0) else prodTo 1 xs

theorem prodTo_step {n : Int} {k : Nat} {xs : List Int} (h : k < xs.length) :
  prodTo n (xs.drop k) = if 65536 < n * xs[k] then (0, 61) else prodTo (n * xs[k]) (xs.drop (k + 1)) := by
 rw [List.drop_eq_getElem_cons h, prodTo]

theorem any_false_get {p : Int → Bool} {xs : List Int} (h : xs.any p = false) (k : Nat) (hk : k < xs.length) : p xs[k] = false := by
 rw [List.any_eq_false] at h
 simpa using h xs[k] (List.getElem_mem hk)

theorem mul_bd {a b : Int} (h1 : 0 ≤ a) (h2 : a ≤ 65536) (h3 : 0 ≤ b) (h4 : b ≤ 65536) : 0 ≤ a * b ∧ a * b ≤ 4294967296 := by
 refine ⟨Int.mul_nonneg h1 h3, ?_⟩
 have := Int.mul_le_mul h2 h4 h3 (by omega : (0 : Int) ≤ 65536)
 omega

theorem any_take_succ {p : Int → Bool} {xs : List Int} {k : Nat} (hk : k < xs.length) : (xs.take (k + 1)).any p = ((xs.take k).any p || p xs[k]) := by
 rw [List.take_succ_eq_append_getElem hk, List.any_append]; simp only [List.any_cons, List.any_nil, Bool.or_false]

theorem size_bad {xs : List Int} (h : xs.any badSide = true) : size xs = (0, 61) := by
 unfold size
 by_cases h4 : 4 < xs.length
 ·rw [if_pos h4]
 ·rw [if_neg h4, if_pos h]

def prodL : List Int → Int
 | [] => 1
 | s :: r => s * prodL r

theorem prodL_append (a b : List Int) : prodL (a ++ b) = prodL a * prodL b := by
 induction a with
 | nil => simp [prodL]
 | cons x a ih => simp only [List.cons_append, prodL, ih, Int.mul_assoc]

theorem prodL_pos {l : List Int} (h : ∀ x ∈ l, 0 < x) : 0 < prodL l := by
 induction l with
 | nil => simp [prodL]
 | cons x l ih => exact Int.mul_pos (h x (by simp)) (ih fun y hy => h y (by simp [hy]))

theorem prodTo_ok : ∀ (xs : List Int) (n m : Int), prodTo n xs = (m, 0) → m = n * prodL xs ∧ (0 < xs.length → m ≤ 65536)
 | [], n, m, h => by simp [prodTo] at h; simp [prodL, h]
 | s :: r, n, m, h => by
  rw [prodTo] at h
  split at h
  ·simp at h
  ·obtain ⟨h1, h2⟩ := prodTo_ok r (n * s) m h
   refine ⟨by rw [h1, prodL, Int.mul_assoc], fun _ => ?_⟩
   cases r with
   | nil => simp [prodTo] at h; omega
   | cons y r => exact h2 (by simp)

theorem prodTo_err : ∀ (xs : List Int) (n : Int), prodTo n xs = (0, 61) ∨ ∃ m, prodTo n xs = (m, 0)
 | [], n => .inr ⟨n, rfl⟩
 | s :: r, n => by
  rw [prodTo]
  split
  ·exact .inl rfl
  ·exact prodTo_err r (n * s)

theorem size_err (xs : List Int) : size xs = (0, 61) ∨ ∃ m, size xs = (m, 0) := by
 unfold size
 split
 ·exact .inl rfl
 ·split
  ·exact .inl rfl
  ·split
   ·exact .inr ⟨0, rfl⟩
   ·exact prodTo_err xs 1

structure Good (xs : List Int) (n : Int) : Prop where
 len : xs.length ≤ 4
 side : ∀ x ∈ xs, 0 ≤ x ∧ x ≤ 65536
 prod : n = prodL xs
 le : n ≤ 65536
 zero : n = 0 ↔ ∃ x ∈ xs, x = 0

theorem prodL_zero {l : List Int} (h : (0 : Int) ∈ l) : prodL l = 0 := by
 induction l with
 | nil => simp at h
 | cons x l ih =>
  rcases List.mem_cons.1 h with h | h
  ·subst h; simp [prodL]
  ·simp [prodL, ih h]

theorem size_good {xs : List Int} {n : Int} (h : size xs = (n, 0)) : Good xs n := by
 unfold size at h
 split at h
 ·simp at h
 ·rename_i h4
  split at h
  ·simp at h
  ·rename_i hb
   have hb' : xs.any badSide = false := by simpa using hb
   have hs : ∀ x ∈ xs, 0 ≤ x ∧ x ≤ 65536 := fun x hx => badSide_false (by rw [List.any_eq_false] at hb'; simpa using hb' x hx)
   split at h
   ·rename_i hz
    obtain ⟨x, hx, hx0⟩ := List.any_eq_true.1 hz
    have hx0 : x = 0 := by simpa using (beq_iff_eq.1 hx0).symm
    have hn : n = 0 := by simp at h; omega
    subst hx0
    exact ⟨by omega, hs, by rw [hn, prodL_zero hx], by omega, by simp [hn]; exact hx⟩
   ·rename_i hz
    have hz' : ∀ x ∈ xs, x ≠ 0 := fun x hx e => hz (List.any_eq_true.2 ⟨x, hx, by simp [e]⟩)
    obtain ⟨h1, h2⟩ := prodTo_ok xs 1 n h
    have hp : 0 < prodL xs := prodL_pos fun x hx => by have := hs x hx; have := hz' x hx; omega
    refine ⟨by omega, hs, by simpa using h1, ?_, ?_⟩
    ·cases xs with
     | nil => simp [prodL] at h1; omega
     | cons y r => exact h2 (by simp)
    ·constructor
     ·intro h0; rw [h0] at h1; omega
     ·rintro ⟨x, hx, e⟩; exact absurd e (hz' x hx)

theorem prodL_le_pow {l : List Int} (h : ∀ x ∈ l, 0 ≤ x ∧ x ≤ 65536) : 0 ≤ prodL l ∧ prodL l ≤ 65536 ^ l.length := by
 induction l with
 | nil => simp [prodL]
 | cons x l ih =>
  have ⟨h0, h1⟩ := ih fun y hy => h y (by simp [hy])
  have ⟨x0, x1⟩ := h x (by simp)
  refine ⟨Int.mul_nonneg x0 h0, ?_⟩
  show x * prodL l ≤ _
  rw [List.length_cons, Int.pow_succ, Int.mul_comm (65536 ^ _)]
  exact Int.mul_le_mul x1 h1 h0 (by omega)

def placeTo : Int → List Int → List Int → Int × Int
 | n, s :: ss, k :: ks => if k < 0 ∨ s ≤ k then (0, 62) else placeTo (n * s + k) ss ks
 | n, _, _ => (n, 0)

def place (sides index : List Int) : Int × Int :=
 if (size sides).2 = 0 then (if index.length = sides.length then placeTo 0 sides index else (0, 62)) else (0, (size sides).2)

def idx : List Int → Int → List Int
 | [], _ => []
 | s :: r, p => (p / prodL r) % s :: idx r p

def index (sides : List Int) (p : Int) : List Int × Int :=
 if (size sides).2 = 0 then (if p < 0 ∨ (size sides).1 ≤ p then ([], 62) else (idx sides p, 0)) else ([], (size sides).2)

end Go.Proofs.YtokghjnkfabgiaaGreatDoor

-- DROPS
namespace Go.Proofs.YtokghjnkfabgiaaGreatDoor
open Go.RowKit

set_option maxHeartbeats 400000 in
theorem size1_any (w : World) (s : Int) : Calls Tryz.prog 153 #[.int .i64 s] w fun e w' => e = .returned (.bool (badSide s)) ∧ w = w' := by
 by_cases h : s < 0
 ·go_enter Tryz.func153, Tryz.ntmps153
  go_wp2
  go_ret
  exact ⟨ret_bool (by simp [badSide, h]), rfl⟩
 ·have h' : decide (s < 0) = false := by simpa using h
  go_enter Tryz.func153, Tryz.ntmps153
  go_wp2
  go_ret
  exact ⟨ret_bool (by simp only [badSide, h']; rfl), rfl⟩

theorem size1_all (xs : List Int) (w : World) : ∀ x ∈ xs, ∀ w', Below w.heap.size w w' → Calls Tryz.prog 153 (#[.int .i64 x] ++ #[]) w' fun e w'' => e = .returned (.bool (badSide x)) ∧ Below w.heap.size w' w'' :=
 fun x _ w' _ => (size1_any w' x).mono fun _ _ ⟨he, hw⟩ => ⟨he, hw ▸ Below.refl _ _⟩

theorem size1_in (args : Array Value) (w : World) : (callFunc 153 args).run Tryz.prog w = .ok (.enter 153 args) w :=
 callFunc_enter Tryz.func153 (by kernel_rfl) rfl args w

set_option maxHeartbeats 800000 in
theorem size_any (w : World) (a : Option Addr) (cap : Nat) (xs : List Int) (hm : xs.length ≤ maxLen) (h : IntsAt .i64 w a xs) :
  Calls Tryz.prog 125 #[.slice a xs.length cap] w fun e w' => e = two (size xs) ∧ Below w.heap.size w w' := by
 have hq := containsFunc_any w a cap xs 153 #[] badSide size1_in hm h (size1_all xs w)
 have hsz : size xs = size xs := rfl
 conv at hsz => rhs; unfold size
 have Hsz := Lib.hid hsz; clear hsz
 unfold maxLen at hm
 by_cases h4 : (4 : Int) < (xs.length : Int)
 ·clear hq h
  go_enter Tryz.func125, Tryz.ntmps125
  go_wp2
  go_ret2
  exact ⟨ret_two (by rw [Hsz.out, if_pos (by omega)]), Below.refl _ _⟩
 ·have h4' : decide ((4 : Int) < (xs.length : Int)) = false := by simpa using h4
  cases hb : xs.any badSide with
  | true =>
   rw [hb] at hq
   have Hq := Lib.hid hq; have Hb := Lib.hid hb
   clear hq h hb
   go_enter Tryz.func125, Tryz.ntmps125
   go_wp2_with (go_at_call 92; refine Hq.out.mono ?_; rintro e w' ⟨rfl, hb1⟩)
   go_ret2
   exact ⟨ret_two (by rw [Hsz.out, if_neg (by omega), if_pos Hb.out]), hb1⟩
  | false =>
   rw [hb] at hq
   have Hq := Lib.hid hq; have Hb := Lib.hid hb
   clear hq hb
   have hc := fun w' (hw : Below w.heap.size w w') => contains_any w' a cap xs 0 hm (h.below hw (Nat.le_refl _))
   cases hz : xs.any ((0 : Int) == ·) with
   | true =>
    rw [hz] at hc
    have Hc := Lib.hid hc; have Hz := Lib.hid hz
    clear hc hz h
    go_enter Tryz.func125, Tryz.ntmps125
    go_wp2_with (first
     | (go_at_call 92; refine Hq.out.mono ?_; rintro e w1 ⟨rfl, hb1⟩)
     | (go_at_call 154; refine (Hc.out _ (by assumption)).mono ?_; rintro e w2 ⟨rfl, rfl⟩))
    go_ret2
    exact ⟨ret_two (by rw [Hsz.out, if_neg (by omega), if_neg (by rw [Hb.out]; simp), if_pos Hz.out]), by assumption⟩
   | false =>
    rw [hz] at hc
    have Hc := Lib.hid hc; have Hz := Lib.hid hz
    have Hsz2 : Hid (size xs = prodTo 1 xs) := by
     unfold Hid; rw [Hsz.out, if_neg (by omega), if_neg (by rw [Hb.out]; simp), if_neg (by rw [hz]; simp)]
    clear hc hz
    have HI := Lib.hid h; clear h
    go_enter Tryz.func125, Tryz.ntmps125
    go_wp2_with (first
     | (go_at_call 92; refine Hq.out.mono ?_; rintro e w1 ⟨rfl, hb1⟩)
     | (go_at_call 154; refine (Hc.out _ (by assumption)).mono ?_; rintro e w2 ⟨rfl, rfl⟩))
    go_loop [4, 18] (fun n i => ∃ (k : Nat) (m : Int), k ≤ xs.length ∧ i = .int .i64 k ∧ n = .int .i64 m ∧ 0 ≤ m ∧ m ≤ 65536 ∧ size xs = prodTo m (xs.drop k)) (fun _ i => xs.length - (intOf i).toNat)
    case atStart => exact ⟨0, 1, Nat.zero_le _, rfl, rfl, by omega, by omega, by simpa using Hsz2.out⟩
    case round =>
     obtain ⟨k, m, hk, rfl, rfl, hm0, hm1, hr⟩ := hrel
     by_cases hlt : k < xs.length
     ·obtain ⟨b, off, rfl, hcell⟩ := (HI.out.below hb1 (Nat.le_refl _)) k hlt
      rw [prodTo_step hlt] at hr
      obtain ⟨hs0, hs1⟩ := badSide_false (any_false_get Hb.out k hlt)
      obtain ⟨hp0, hp1⟩ := mul_bd hm0 hm1 hs0 hs1
      have Hr := Lib.hid hr; clear hr
      by_cases hgt : 65536 < m * xs[k]
      ·go_wp2
       go_ret2
       exact ⟨ret_two (by rw [Hr.out, if_pos hgt]), hb1⟩
      ·go_wp2
       go_round
       case rel => exact ⟨k + 1, m * xs[k], by omega, by go_num, rfl, hp0, by omega, by rw [Hr.out, if_neg hgt]⟩
       case measure => simp [intOf]; omega
     ·have Hr := Lib.hid hr; clear hr
      go_wp2
      go_ret2
      exact ⟨ret_two (by rw [Hr.out, List.drop_eq_nil_of_le (by omega)]; rfl), hb1⟩
end Go.Proofs.YtokghjnkfabgiaaGreatDoor

-- DROPS
namespace Go.Proofs.YtokghjnkfabgiaaGreatDoor
open Go.RowKit

theorem prodTo_zero (xs : List Int) : xs.any ((0 : Int) == ·) = true → 4 ≥ xs.length → xs.any badSide = false → size xs = (0, 0) := by
 intro h h4 hb
 unfold size
 rw [if_neg (by omega), if_neg (by rw [hb]; simp), if_pos h]

def oneZ (l : List Int) : Int := if l.any ((0 : Int) == ·) then 0 else 1

theorem oneZ_succ {xs : List Int} {k : Nat} (hk : k < xs.length) : oneZ (xs.take (k + 1)) = if xs[k] = 0 then 0 else oneZ (xs.take k) := by
 unfold oneZ
 rw [any_take_succ hk]
 by_cases h : xs[k] = 0
 ·simp [h]
 ·have : ((0 : Int) == xs[k]) = false := by simpa using fun e => h e.symm
  simp [h, this]

set_option maxHeartbeats 1000000 in
theorem rsize_any (w : World) (a : Option Addr) (cap : Nat) (xs : List Int) (hm : xs.length ≤ maxLen) (h : IntsAt .i64 w a xs) :
  Calls Tryz.prog 56 #[.slice a xs.length cap] w fun e w' => e = two (size xs) ∧ w = w' := by
 have hsz : size xs = size xs := rfl
 conv at hsz => rhs; unfold size
 have Hsz := Lib.hid hsz; clear hsz
 unfold maxLen at hm
 by_cases h4 : (4 : Int) < (xs.length : Int)
 ·clear h
  go_enter Tryz.func56, Tryz.ntmps56
  go_wp2
  go_ret2
  exact ⟨ret_two (by rw [Hsz.out, if_pos (by omega)]), rfl⟩
 ·have h4' : decide ((4 : Int) < (xs.length : Int)) = false := by simpa using h4
  have HI := Lib.hid h; clear h
  go_enter Tryz.func56, Tryz.ntmps56
  go_wp2
  go_loop [4, 5] (fun n i => ∃ (k : Nat), k ≤ xs.length ∧ i = .int .i64 k ∧ n = .int .i64 (oneZ (xs.take k)) ∧ (xs.take k).any badSide = false) (fun _ i => xs.length - (intOf i).toNat)
  case atStart => exact ⟨0, Nat.zero_le _, rfl, rfl, rfl⟩
  case round =>
   obtain ⟨k, hk, rfl, rfl, hr⟩ := hrel
   by_cases hlt : k < xs.length
   ·obtain ⟨b, off, rfl, hcell⟩ := HI.out k hlt
    have hon := oneZ_succ hlt
    have hat := any_take_succ (p := badSide) hlt
    rw [hr] at hat
    have Hon := Lib.hid hon; have Hr := Lib.hid hr; have Hat := Lib.hid hat; clear hr hon hat
    by_cases hneg : xs[k] < 0
    ·go_wp2
     go_ret2
     exact ⟨ret_two (size_bad (List.any_eq_true.2 ⟨xs[k], List.getElem_mem hlt, by simp [badSide, hneg]⟩)), rfl⟩
    ·by_cases hbig : 65536 < xs[k]
     ·go_wp2
      go_ret2
      exact ⟨ret_two (size_bad (List.any_eq_true.2 ⟨xs[k], List.getElem_mem hlt, by simp [badSide, hbig]⟩)), rfl⟩
     ·have hbs : badSide xs[k] = false := by simp [badSide]; omega
      have Hbs := Lib.hid hbs; clear hbs
      by_cases h0 : xs[k] = 0
      ·have h0' : (xs[k] == 0) = true := by simpa using h0
       have H0 := Lib.hid h0; clear h0
       go_wp2
       go_round
       case rel => exact ⟨k + 1, by omega, by go_num, by rw [Hon.out, if_pos H0.out], by rw [Hat.out, Hbs.out]; rfl⟩
       case measure => simp [intOf]; omega
      ·have h0' : (xs[k] == 0) = false := by simpa using h0
       go_wp2
       go_round
       case rel => exact ⟨k + 1, by omega, by go_num, by rw [Hon.out, if_neg h0], by rw [Hat.out, Hbs.out]; rfl⟩
       case measure => simp [intOf]; omega
   ·have hk' : k = xs.length := by omega
    subst hk'
    rw [List.take_length] at *
    have Hb := Lib.hid hr; clear hr
    cases hz : xs.any ((0 : Int) == ·) with
    | true =>
     have Hz := Lib.hid hz; clear hz
     have hone : oneZ xs = 0 := by unfold oneZ; rw [if_pos Hz.out]
     rw [hone]
     clear hone
     go_wp2
     go_loop [4, 6] (fun n i => n = .int .i64 0 ∧ i = .int .i64 0) (fun _ _ => 0)
     case atStart => exact ⟨rfl, rfl⟩
     case round =>
      obtain ⟨rfl, rfl⟩ := hrel
      have Hfin : Hid (size xs = (0, 0)) := prodTo_zero xs Hz.out (by omega) Hb.out
      by_cases h0l : (0 : Int) < (xs.length : Int)
      ·go_wp2
       go_ret2
       exact ⟨ret_two Hfin.out, rfl⟩
      ·have h0l' : decide ((0 : Int) < (xs.length : Int)) = false := by simpa using h0l
       go_wp2
       go_ret2
       exact ⟨ret_two Hfin.out, rfl⟩
    | false =>
     have Hsz2 : Hid (size xs = prodTo 1 xs) := by
      unfold Hid; rw [Hsz.out, if_neg (by omega), if_neg (by rw [Hb.out]; simp), if_neg (by rw [hz]; simp)]
     have Hz := Lib.hid hz; clear hz
     have hone : oneZ xs = 1 := by unfold oneZ; rw [if_neg (by rw [Hz.out]; simp)]
     rw [hone]
     clear hone
     go_wp2
     go_loop [4, 6] (fun n i => ∃ (k : Nat) (m : Int), k ≤ xs.length ∧ i = .int .i64 k ∧ n = .int .i64 m ∧ 0 < m ∧ m ≤ 65536 ∧ size xs = prodTo m (xs.drop k)) (fun _ i => xs.length - (intOf i).toNat)
     case atStart => exact ⟨0, 1, Nat.zero_le _, rfl, rfl, by omega, by omega, by simpa using Hsz2.out⟩
     case round =>
      obtain ⟨k, m, hk, rfl, rfl, hm0, hm1, hr⟩ := hrel
      by_cases hlt : k < xs.length
      ·obtain ⟨b, off, rfl, hcell⟩ := HI.out k hlt
       rw [prodTo_step hlt] at hr
       obtain ⟨hs0, hs1⟩ := badSide_false (any_false_get Hb.out k hlt)
       have hsn : 0 < xs[k] := by have := any_false_get Hz.out k hlt; simp at this; omega
       obtain ⟨hp0, hp1⟩ := mul_bd (by omega) hm1 hs0 hs1
       have hpp := Int.mul_pos hm0 hsn
       have Hr := Lib.hid hr; clear hr
       by_cases hgt : 65536 < m * xs[k]
       ·go_wp2
        go_ret2
        exact ⟨ret_two (by rw [Hr.out, if_pos hgt]), rfl⟩
       ·go_wp2
        go_round
        case rel => exact ⟨k + 1, m * xs[k], by omega, by go_num, rfl, hpp, by omega, by rw [Hr.out, if_neg hgt]⟩
        case measure => simp [intOf]; omega
      ·have Hr := Lib.hid hr; clear hr
       have hlt' : decide ((k : Int) < (xs.length : Int)) = false := by simpa using hlt
       go_wp2
       go_ret2
       exact ⟨ret_two (by rw [Hr.out, List.drop_eq_nil_of_le (by omega)]; rfl), rfl⟩
end Go.Proofs.YtokghjnkfabgiaaGreatDoor

-- DROPS
namespace Go.Proofs.YtokghjnkfabgiaaGreatDoor
open Go.RowKit

def right (s d : List Int) : Bool := (size s).2 == 0 && (size s).1 == (d.length : Int)

set_option maxHeartbeats 400000 in
theorem right_any (w : World) (a0 a1 : Option Addr) (c0 c1 : Nat) (s d : List Int) (hm : s.length ≤ maxLen) (h : IntsAt .i64 w a0 s) :
  Calls Tryz.prog 94 #[.agg #[.slice a0 s.length c0, .slice a1 d.length c1]] w fun e w' => e = .returned (.bool (right s d)) ∧ Below w.heap.size w w' := by
 have hq := fun o => size_any (w.alloc o) a0 c0 s hm (h.below ((Below.refl _ w).alloc (Nat.le_refl _) o) (Nat.le_refl _))
 have hr : right s d = ((size s).2 == 0 && (size s).1 == (d.length : Int)) := rfl
 unfold maxLen at hm
 unfold two at hq
 generalize size s = p at hq hr
 obtain ⟨n, er⟩ := p
 have Hq := Lib.hid hq; have Hr := Lib.hid hr; clear hq hr
 by_cases he : er = 0
 ·subst he
  by_cases hn : n = d.length
  all_goals
   go_enter Tryz.func94, Tryz.ntmps94
   go_wp2_with (go_at_call 125; refine (Hq.out _).mono ?_; rintro e w1 ⟨rfl, hb1⟩; obtain ⟨hc1, hf1⟩ := bcell hb1)
   go_ret
   exact ⟨ret_bool (by rw [Hr.out]; simp [hn]), ((Below.refl _ _).alloc (Nat.le_refl _) _).trans (hb1.mono (by simp))⟩
 ·have he' : (er == 0) = false := by simpa using he
  go_enter Tryz.func94, Tryz.ntmps94
  go_wp2_with (go_at_call 125; refine (Hq.out _).mono ?_; rintro e w1 ⟨rfl, hb1⟩; obtain ⟨hc1, hf1⟩ := bcell hb1)
  go_ret
  exact ⟨ret_bool (by rw [Hr.out]; simp [he']), ((Below.refl _ _).alloc (Nat.le_refl _) _).trans (hb1.mono (by simp))⟩

set_option maxHeartbeats 400000 in
theorem rright_any (w : World) (a0 a1 : Option Addr) (c0 c1 : Nat) (s d : List Int) (hm : s.length ≤ maxLen) (h : IntsAt .i64 w a0 s) :
  Calls Tryz.prog 31 #[.agg #[.slice a0 s.length c0, .slice a1 d.length c1]] w fun e w' => e = .returned (.bool (right s d)) ∧ Below w.heap.size w w' := by
 have hq := fun o => rsize_any (w.alloc o) a0 c0 s hm (h.below ((Below.refl _ w).alloc (Nat.le_refl _) o) (Nat.le_refl _))
 have hr : right s d = ((size s).2 == 0 && (size s).1 == (d.length : Int)) := rfl
 unfold maxLen at hm
 unfold two at hq
 generalize size s = p at hq hr
 obtain ⟨n, er⟩ := p
 have Hq := Lib.hid hq; have Hr := Lib.hid hr; clear hq hr
 by_cases he : er = 0
 ·subst he
  by_cases hn : n = d.length
  all_goals
   go_enter Tryz.func31, Tryz.ntmps31
   go_wp2_with (go_at_call 56; refine (Hq.out _).mono ?_; rintro e w1 ⟨rfl, rfl⟩)
   go_ret
   exact ⟨ret_bool (by rw [Hr.out]; simp [hn]), (Below.refl _ _).alloc (Nat.le_refl _) _⟩
 ·have he' : (er == 0) = false := by simpa using he
  go_enter Tryz.func31, Tryz.ntmps31
  go_wp2_with (go_at_call 56; refine (Hq.out _).mono ?_; rintro e w1 ⟨rfl, rfl⟩)
  go_ret
  exact ⟨ret_bool (by rw [Hr.out]; simp [he']), (Below.refl _ _).alloc (Nat.le_refl _) _⟩

def ints (xs ys : List Int) : Bool := decide (xs = ys)

end Go.Proofs.YtokghjnkfabgiaaGreatDoor

namespace Go.Proofs.YtokghjnkfabgiaaGreatDoor
open Go.RowKit

def In64 (x : Int) : Prop := -9223372036854775808 ≤ x ∧ x ≤ 9223372036854775807
theorem wrap_id {x : Int} (h : In64 x) : wrap64 x = x := by unfold In64 at h; unfold wrap64; omega
theorem wrap_in (x : Int) : In64 (wrap64 x) := by unfold In64 wrap64; omega
theorem wrap_ex (x : Int) : ∃ k, wrap64 x = x + k * 18446744073709551616 := ⟨-((x + 9223372036854775808) / 18446744073709551616), by unfold wrap64; omega⟩
theorem wrap_add_mul (x k : Int) : wrap64 (x + k * 18446744073709551616) = wrap64 x := by unfold wrap64; omega
theorem wrap_of_ex {x y : Int} (h : ∃ k, x = y + k * 18446744073709551616) : wrap64 x = wrap64 y := by obtain ⟨k, rfl⟩ := h; exact wrap_add_mul y k
theorem wrap_wrap (x : Int) : wrap64 (wrap64 x) = wrap64 x := wrap_id (wrap_in x)
theorem wrap_sub_l (x y : Int) : wrap64 (wrap64 x - y) = wrap64 (x - y) := by obtain ⟨k, h⟩ := wrap_ex x; exact wrap_of_ex ⟨k, by rw [h]; omega⟩
theorem wrap_mul_l (x y : Int) : wrap64 (wrap64 x * y) = wrap64 (x * y) := by
 obtain ⟨k, h⟩ := wrap_ex x
 exact wrap_of_ex ⟨k * y, by rw [h, Int.add_mul, Int.mul_assoc k, Int.mul_comm 18446744073709551616 y, Int.mul_assoc]⟩
theorem wrap_mul_r (x y : Int) : wrap64 (x * wrap64 y) = wrap64 (x * y) := by rw [Int.mul_comm, wrap_mul_l, Int.mul_comm]
theorem wrap_pow (x z : Int) (k : Nat) : wrap64 (x * wrap64 z ^ k) = wrap64 (x * z ^ k) := by
 induction k generalizing x with
 | zero => simp
 | succ k ih => rw [Int.pow_succ, Int.mul_comm (wrap64 z ^ k), ← Int.mul_assoc, ih, Int.mul_assoc, Int.mul_comm (wrap64 z), ← Int.mul_assoc, wrap_mul_r, Int.pow_succ, Int.mul_assoc]

def takes (f : Int) (two : Bool) : Bool := if f < 1 ∨ 17 < f then false else if f = 16 then !two else two || decide (f ≤ 7)
def truthI (b : Bool) : Int := if b then 1 else 0
def isBit (a : Int) : Bool := a == 0 || a == 1
def refusesB (f a b : Int) : Bool :=
 if f = 4 then b == 0 else if f = 17 then decide (b < 0) else if f = 14 ∨ f = 15 then !isBit a || !isBit b else false
def dyv (f a b : Int) : Int :=
 if f = 1 then wrap64 (a + b) else if f = 2 then wrap64 (a - b) else if f = 3 then wrap64 (a * b) else if f = 4 then wrap64 (a.fdiv b)
 else if f = 5 then (if a = 0 then b else b.fmod a) else if f = 6 then min a b else if f = 7 then max a b
 else if f = 8 then truthI (a == b) else if f = 9 then truthI (a != b) else if f = 10 then truthI (decide (a < b)) else if f = 11 then truthI (decide (a ≤ b))
 else if f = 12 then truthI (decide (b ≤ a)) else if f = 14 then a * b else if f = 15 then max a b else if f = 17 then wrap64 (a ^ b.toNat) else truthI (decide (b < a))
def dyadF (f a b : Int) : Int × Int := if takes f true then (if refusesB f a b then (0, 11) else (dyv f a b, 0)) else (0, 10)
def monadF (f a : Int) : Int × Int :=
 if takes f false then
  (if f = 2 then (wrap64 (-a), 0) else if f = 3 then (truthI (decide (0 < a)) - truthI (decide (a < 0)), 0) else if f = 4 then dyadF 4 1 a
   else if f = 5 then (max a (wrap64 (-a)), 0) else if f = 16 then (if isBit a then (1 - a, 0) else (0, 11)) else (a, 0))
 else (0, 10)
def unitF (f : Int) : Int × Bool :=
 if f = 6 then (9223372036854775807, true) else if f = 7 then (-9223372036854775808, true)
 else if f = 3 ∨ f = 4 ∨ f = 8 ∨ f = 11 ∨ f = 12 ∨ f = 14 ∨ f = 17 then (1, true) else (0, takes f true)
theorem rest_eq {a b : Int} (hb : b ≠ 0) : a.fmod b = if a.tmod b ≠ 0 ∧ ((decide (a.tmod b < 0)) ≠ decide (b < 0)) then a.tmod b + b else a.tmod b := by
 have h1 := Int.tmod_add_mul_tdiv a b
 have h2 := Int.fmod_add_mul_fdiv a b
 have h3 : (a.tmod b).natAbs < b.natAbs := by rw [Int.natAbs_tmod]; exact Nat.mod_lt _ (by omega)
 by_cases hp : 0 < b
 ·have f1 := Int.fmod_nonneg_of_pos a hp
  have f2 := Int.fmod_lt_of_pos a hp
  split
  ·rename_i hc
   have hneg : a.tmod b < 0 := by have := hc.2; simp at this; omega
   have hk : b * (a.tdiv b - a.fdiv b) = a.fmod b - a.tmod b := by rw [Int.mul_sub]; omega
   have : a.tdiv b - a.fdiv b = 1 := by
    have l1 : 0 < a.fmod b - a.tmod b := by omega
    have l2 : a.fmod b - a.tmod b < b * 2 := by omega
    rw [← hk] at l1 l2
    have m1 := Int.pos_of_mul_pos_right l1 hp
    have m2 := Int.lt_of_mul_lt_mul_left l2 (Int.le_of_lt hp)
    omega
   rw [this] at hk; omega
  ·rename_i hc
   have hnn : 0 ≤ a.tmod b := by
    by_cases h : a.tmod b < 0
    ·exact absurd ⟨by omega, by simp; omega⟩ hc
    ·omega
   have hk : b * (a.tdiv b - a.fdiv b) = a.fmod b - a.tmod b := by rw [Int.mul_sub]; omega
   have : a.tdiv b - a.fdiv b = 0 := by
    have l1 : b * (-1) < a.fmod b - a.tmod b := by omega
    have l2 : a.fmod b - a.tmod b < b * 1 := by omega
    rw [← hk] at l1 l2
    have m1 := Int.lt_of_mul_lt_mul_left l1 (Int.le_of_lt hp)
    have m2 := Int.lt_of_mul_lt_mul_left l2 (Int.le_of_lt hp)
    omega
   rw [this] at hk; omega
 ·have hn : b < 0 := by omega
  have f1 : a.fmod b ≤ 0 := by
   rw [Int.fmod_eq_emod]
   have := Int.emod_lt_of_neg a hn
   split
   ·rename_i h; rcases h with h | h
    ·omega
    ·rw [Int.emod_eq_zero_of_dvd h]; omega
   ·omega
  have f2 : b < a.fmod b := by
   rw [Int.fmod_eq_emod]
   have h0 := Int.emod_nonneg a hb
   split
   ·omega
   ·rename_i h
    have : a % b ≠ 0 := fun e => h (.inr (Int.dvd_of_emod_eq_zero e))
    omega
  split
  ·rename_i hc
   have hpos : 0 < a.tmod b := by have := hc.2; simp at this; omega
   have hk : (-b) * (a.fdiv b - a.tdiv b) = a.fmod b - a.tmod b := by rw [Int.mul_sub, Int.neg_mul, Int.neg_mul]; omega
   have : a.fdiv b - a.tdiv b = -1 := by
    have l1 : (-b) * (-2) < a.fmod b - a.tmod b := by omega
    have l2 : a.fmod b - a.tmod b < (-b) * 0 := by omega
    rw [← hk] at l1 l2
    have m1 := Int.lt_of_mul_lt_mul_left l1 (by omega)
    have m2 := Int.lt_of_mul_lt_mul_left l2 (by omega)
    omega
   rw [this] at hk; omega
  ·rename_i hc
   have hnn : a.tmod b ≤ 0 := by
    by_cases h : 0 < a.tmod b
    ·exact absurd ⟨by omega, by simp; omega⟩ hc
    ·omega
   have hk : (-b) * (a.fdiv b - a.tdiv b) = a.fmod b - a.tmod b := by rw [Int.mul_sub, Int.neg_mul, Int.neg_mul]; omega
   have : a.fdiv b - a.tdiv b = 0 := by
    have l1 : (-b) * (-1) < a.fmod b - a.tmod b := by omega
    have l2 : a.fmod b - a.tmod b < (-b) * 1 := by omega
    rw [← hk] at l1 l2
    have m1 := Int.lt_of_mul_lt_mul_left l1 (by omega)
    have m2 := Int.lt_of_mul_lt_mul_left l2 (by omega)
    omega
   rw [this] at hk; omega

theorem fdiv_eq {a b : Int} (hb : b ≠ 0) : a.fdiv b = if a.fmod b ≠ a.tmod b then a.tdiv b - 1 else a.tdiv b := by
 have h1 := Int.tmod_add_mul_tdiv a b
 have h2 := Int.fmod_add_mul_fdiv a b
 have h3 := rest_eq (a := a) hb
 split
 ·rename_i hne
  have hm : a.fmod b = a.tmod b + b := by
   rw [h3] at hne ⊢
   split
   ·rfl
   ·rename_i h; rw [if_neg h] at hne; exact absurd rfl hne
  have hk : b * (a.tdiv b - a.fdiv b) = b * 1 := by rw [Int.mul_sub]; omega
  have := Int.eq_of_mul_eq_mul_left hb hk
  omega
 ·rename_i he
  have he : a.fmod b = a.tmod b := by omega
  have hk : b * a.fdiv b = b * a.tdiv b := by omega
  exact Int.eq_of_mul_eq_mul_left hb hk

theorem tmod_lt {a b : Int} (hb : b ≠ 0) : (a.tmod b).natAbs < b.natAbs := by rw [Int.natAbs_tmod]; exact Nat.mod_lt _ (by omega)
theorem fmod_in {a b : Int} (h0 : b ≠ 0) (hb : In64 b) : In64 (a.fmod b) := by
 have := tmod_lt (a := a) h0
 unfold In64 at *
 rw [rest_eq h0]
 split
 ·rename_i h; have := h.2; simp at this; omega
 ·omega

theorem wrap_eq_of {x y : Int} (h : x = y) : wrap64 x = wrap64 y := by rw [h]
theorem sq_pow (y : Int) (k : Nat) : (y * y) ^ k = y ^ (2 * k) := by
 induction k with
 | zero => simp
 | succ k ih => rw [Int.pow_succ, ih, show 2 * (k + 1) = 2 * k + 1 + 1 from by omega, Int.pow_succ, Int.pow_succ, Int.mul_assoc]
theorem pow_odd (q y : Int) (m : Nat) (h : m % 2 = 1) : wrap64 (wrap64 (q * y) * wrap64 (y * y) ^ (m / 2)) = wrap64 (q * y ^ m) := by
 rw [wrap_pow, wrap_mul_l, sq_pow]
 refine wrap_eq_of ?_
 have : m = 2 * (m / 2) + 1 := by omega
 conv => rhs; rw [this]
 rw [Int.pow_succ, Int.mul_comm (y ^ _) y, Int.mul_assoc]
theorem pow_even (q y : Int) (m : Nat) (h : m % 2 = 0) : wrap64 (q * wrap64 (y * y) ^ (m / 2)) = wrap64 (q * y ^ m) := by
 rw [wrap_pow, sq_pow]
 refine wrap_eq_of ?_
 have : 2 * (m / 2) = m := by omega
 rw [this]
theorem takes_in {f : Int} {t : Bool} (h : takes f t = true) : 1 ≤ f ∧ f ≤ 17 := by
 unfold takes at h
 split at h
 ·cases h
 ·omega

theorem two63 : (2 : Int) ^ 63 = 9223372036854775808 := by decide
theorem and_one (m : Int) (h0 : 0 ≤ m) (h1 : m ≤ 9223372036854775807) : bits BinOp.and IntKind.i64 m 1 = m % 2 := by
 have h := bits_mask .i64 63 (by decide) (fun n h0 h1 => by rw [two63] at h1; rw [IntKind.wrap_i64]; omega) 1 (by decide) m (by omega) (by rw [two63]; omega)
 have e : ((2 : Int) ^ 1 - 1) = 1 := by decide
 rw [e] at h
 rw [h]
 omega
end Go.Proofs.YtokghjnkfabgiaaGreatDoor

namespace Go.Proofs.YtokghjnkfabgiaaGreatDoor
open Go.RowKit

set_option maxHeartbeats 400000 in
theorem truth_any (w : World) (b : Bool) : Calls Tryz.prog 159 #[.bool b] w fun e w' => e = .returned (.int .i64 (truthI b)) ∧ w = w' := by
 cases b
 all_goals
  go_enter Tryz.func159, Tryz.ntmps159
  go_wp2
  go_ret
  exact ⟨rfl, rfl⟩

set_option maxHeartbeats 400000 in
theorem raised_any (w : World) (a n : Int) (hn0 : 0 ≤ n) (hn : n ≤ 9223372036854775807) : Calls Tryz.prog 176 #[.int .i64 a, .int .i64 n] w fun e w' => e = .returned (.int .i64 (wrap64 (a ^ n.toNat))) ∧ w = w' := by
 go_enter Tryz.func176, Tryz.ntmps176
 go_wp2
 go_loop [0, 1, 5] (fun x i p => ∃ (m y q : Int), 0 ≤ m ∧ m ≤ n ∧ x = .int .i64 y ∧ i = .int .i64 m ∧ p = .int .i64 q ∧ wrap64 q = q ∧ wrap64 (q * y ^ m.toNat) = wrap64 (a ^ n.toNat)) (fun _ i _ => (intOf i).toNat)
 case atStart => exact ⟨n, a, 1, hn0, Int.le_refl _, rfl, rfl, rfl, wrap_id (by unfold In64; omega), by rw [Int.one_mul]⟩
 case round =>
  obtain ⟨m, y, q, hm0, hm1, rfl, rfl, rfl, hq, hr⟩ := hrel
  have Hq := Lib.hid hq; have Hr := Lib.hid hr; clear hq hr
  by_cases h : 0 < m
  ·have hm2 : (m / 2).toNat = m.toNat / 2 := by omega
   have Hm2 := Lib.hid hm2; clear hm2
   by_cases hodd : m % 2 = 1
   ·have ho : m.toNat % 2 = 1 := by omega
    have hb : (bits BinOp.and IntKind.i64 m 1 == 1) = true := by rw [and_one m hm0 (by omega)]; simpa using hodd
    have Ho := Lib.hid ho; clear ho hodd
    go_wp2
    go_round
    case rel => exact ⟨m / 2, wrap64 (y * y), wrap64 (q * y), by omega, by omega, rfl, rfl, rfl, wrap_wrap _, by rw [Hm2.out, pow_odd _ _ _ Ho.out]; exact Hr.out⟩
    case measure => simp [intOf]; omega
   ·have ho : m.toNat % 2 = 0 := by omega
    have hb : (bits BinOp.and IntKind.i64 m 1 == 1) = false := by rw [and_one m hm0 (by omega)]; simpa using hodd
    have Ho := Lib.hid ho; clear ho hodd
    go_wp2
    go_round
    case rel => exact ⟨m / 2, wrap64 (y * y), q, by omega, by omega, rfl, rfl, rfl, Hq.out, by rw [Hm2.out, pow_even _ _ _ Ho.out]; exact Hr.out⟩
    case measure => simp [intOf]; omega
  ·have hm : m = 0 := by omega
   have Hm := Lib.hid hm; clear hm
   go_wp2
   go_ret
   exact ⟨ret_int (by have := Hr.out; rw [Hm.out] at this; simpa [Hq.out] using this), rfl⟩

set_option maxHeartbeats 400000 in
theorem rest_any (w : World) (a b : Int) (hb : ¬ b = 0) (hi : In64 b) : Calls Tryz.prog 175 #[.int .i64 a, .int .i64 b] w fun e w' => e = .returned (.int .i64 (a.fmod b)) ∧ w = w' := by
 have hr := rest_eq (a := a) hb
 have ht := tmod_lt (a := a) hb
 have Hr := Lib.hid hr; clear hr
 unfold In64 at hi
 by_cases h0 : a.tmod b = 0
 ·have Hf : Hid (a.fmod b = 0) := by unfold Hid; rw [Hr.out, if_neg (by omega)]; exact h0
  clear hi ht
  go_enter Tryz.func175, Tryz.ntmps175
  go_wp2
  go_ret
  exact ⟨ret_int Hf.out.symm, rfl⟩
 ·have h0' : (a.tmod b != 0) = true := by simpa using h0
  by_cases hs : (!(decide (a.tmod b < 0) == decide (b < 0))) = true
  ·have Hf : Hid (wrap64 (a.tmod b + b) = a.fmod b) := by
    unfold Hid
    have hs' : decide (a.tmod b < 0) ≠ decide (b < 0) := by simpa using hs
    rw [Hr.out, if_pos ⟨h0, hs'⟩]
    refine wrap_id ?_
    unfold In64
    simp at hs'
    omega
   clear hi ht
   go_enter Tryz.func175, Tryz.ntmps175
   go_wp2
   go_ret
   exact ⟨ret_int Hf.out, rfl⟩
  ·have Hf : Hid (a.tmod b = a.fmod b) := by
    unfold Hid
    have hs' : ¬ decide (a.tmod b < 0) ≠ decide (b < 0) := by simpa using hs
    rw [Hr.out, if_neg (fun h => hs' h.2)]
   have hs2 : (!(decide (a.tmod b < 0) == decide (b < 0))) = false := by simpa using hs
   clear hi ht hs
   go_enter Tryz.func175, Tryz.ntmps175
   go_wp2
   go_ret
   exact ⟨ret_int Hf.out, rfl⟩
end Go.Proofs.YtokghjnkfabgiaaGreatDoor

namespace Go.Proofs.YtokghjnkfabgiaaGreatDoor
open Go.RowKit

def Drew (w w' : World) : Prop := ∃ n, w' = w.drewN n
theorem Drew.refl (w : World) : Drew w w := ⟨0, rfl⟩
theorem Drew.mk (w : World) (n : Nat) : Drew w (w.drewN n) := ⟨n, rfl⟩
theorem Drew.below {B : Nat} {w w' : World} (h : Drew w w') : Below B w w' := by obtain ⟨n, rfl⟩ := h; exact Below.drewN w n

theorem u64_bit (a : Int) (h : In64 a) : (decide (1 < IntKind.u64.wrap a)) = !isBit a := by
 unfold In64 at h
 have : IntKind.u64.wrap a = a % 18446744073709551616 := by rw [IntKind.wrap_u64]
 rw [this]
 unfold isBit
 by_cases h0 : a = 0
 ·subst h0; decide
 ·by_cases h1 : a = 1
  ·subst h1; decide
  ·have e0 : (a == 0) = false := by simpa using h0
   have e1 : (a == 1) = false := by simpa using h1
   rw [e0, e1]; simp; omega

set_option maxHeartbeats 1000000 in
theorem holds_any (w : World) (f a b : Int) (hf : 8 ≤ f ∧ f ≤ 13) : Calls Tryz.prog 177 #[.int .u8 f, .int .i64 a, .int .i64 b] w fun e w' => e = .returned (.bool (
  if f = 8 then a == b else if f = 9 then a != b else if f = 10 then decide (a < b) else if f = 11 then decide (a ≤ b) else if f = 12 then decide (b ≤ a) else decide (b < a))) ∧ w = w' := by
 rcases (by omega : f = 8 ∨ f = 9 ∨ f = 10 ∨ f = 11 ∨ f = 12 ∨ f = 13) with rfl | rfl | rfl | rfl | rfl | rfl
 all_goals
  go_enter Tryz.func177, Tryz.ntmps177
  go_wp2
  go_ret
  exact ⟨by simp, rfl⟩


set_option maxHeartbeats 1000000 in
theorem takes_any (w : World) (f : Int) (two : Bool) : Calls Tryz.prog 133 #[.int .u8 f, .bool two] w fun e w' => e = .returned (.bool (takes f two)) ∧ w = w' := by
 have ht : takes f two = if f < 1 ∨ 17 < f then false else if f = 16 then !two else two || decide (f ≤ 7) := rfl
 have Ht := Lib.hid ht; clear ht
 by_cases h1 : f < 1
 ·go_enter Tryz.func133, Tryz.ntmps133
  go_wp2
  go_ret
  exact ⟨ret_bool (by rw [Ht.out, if_pos (Or.inl h1)]), rfl⟩
 ·have h1' : decide (f < 1) = false := by simpa using h1
  by_cases h2 : 17 < f
  ·go_enter Tryz.func133, Tryz.ntmps133
   go_wp2
   go_ret
   exact ⟨ret_bool (by rw [Ht.out, if_pos (Or.inr h2)]), rfl⟩
  ·have h2' : decide (17 < f) = false := by simpa using h2
   by_cases h3 : f = 16
   ·have Hf : Hid (takes f two = !two) := by unfold Hid; rw [Ht.out, if_neg (by omega), if_pos h3]
    subst h3
    cases two
    all_goals
     go_enter Tryz.func133, Tryz.ntmps133
     go_wp2
     go_ret
     exact ⟨ret_bool (by rw [Hf.out]; try rfl), rfl⟩
   ·have Hf : Hid (takes f two = (two || decide (f ≤ 7))) := by unfold Hid; rw [Ht.out, if_neg (by omega), if_neg h3]
    have h3' : (f == 16) = false := by simpa using h3
    cases two
    all_goals
     go_enter Tryz.func133, Tryz.ntmps133
     go_wp2
     go_ret
     exact ⟨ret_bool (by rw [Hf.out]; try rfl), rfl⟩

set_option maxHeartbeats 2000000 in
theorem refuses_any (w : World) (f a b : Int) (hf : 1 ≤ f ∧ f ≤ 17) (ha : In64 a) (hb : In64 b) : Calls Tryz.prog 171 #[.int .u8 f, .int .i64 a, .int .i64 b] w fun e w' => e = .returned (.bool (refusesB f a b)) ∧ w = w' := by
 have ua := u64_bit a ha
 have ub := u64_bit b hb
 clear ha hb
 by_cases hs : f = 4 ∨ f = 17 ∨ f = 14 ∨ f = 15
 ·rcases hs with rfl | rfl | rfl | rfl
  ·go_enter Tryz.func171, Tryz.ntmps171
   go_wp2
   go_ret
   exact ⟨ret_bool (by simp [refusesB]), rfl⟩
  ·go_enter Tryz.func171, Tryz.ntmps171
   go_wp2
   go_ret
   exact ⟨ret_bool (by simp [refusesB]), rfl⟩
  all_goals
   cases hx : isBit a
   all_goals
    rw [hx] at ua
    have Hx := Lib.hid hx; clear hx
    go_enter Tryz.func171, Tryz.ntmps171
    go_wp2
    go_ret
    exact ⟨ret_bool (by simp [refusesB, Hx.out]), rfl⟩
 ·have h4 : (f == 4) = false := by simp; omega
  have h17 : (f == 17) = false := by simp; omega
  have h14 : (f == 14) = false := by simp; omega
  have h15 : (f == 15) = false := by simp; omega
  have Hf : Hid (refusesB f a b = false) := by unfold Hid refusesB; rw [if_neg (by omega), if_neg (by omega), if_neg (by omega)]
  clear hs ua ub
  go_enter Tryz.func171, Tryz.ntmps171
  go_wp2
  go_ret
  exact ⟨ret_bool Hf.out.symm, rfl⟩
end Go.Proofs.YtokghjnkfabgiaaGreatDoor

namespace Go.Proofs.YtokghjnkfabgiaaGreatDoor
open Go.RowKit

set_option maxHeartbeats 2000000 in
theorem pdyad_div (w : World) (a b : Int) (hb0 : ¬ b = 0) (hb : In64 b) : Calls Tryz.prog 172 #[.int .u8 4, .int .i64 a, .int .i64 b] w fun e w' => e = .returned (.int .i64 (wrap64 (a.fdiv b))) ∧ Drew w w' := by
 have hd := fdiv_eq (a := a) hb0
 have hr := fun W => (rest_any W a b hb0 hb).mono (R' := fun e w' => e = .returned (.int .i64 (a.fmod b)) ∧ w' = W) fun _ _ ⟨x, y⟩ => ⟨x, y.symm⟩
 have Hr := Lib.hid hr; have Hd := Lib.hid hd; clear hr hd hb
 by_cases hne : a.fmod b = a.tmod b
 ·have Hf : Hid (wrap64 (a.tdiv b) = wrap64 (a.fdiv b)) := by unfold Hid; rw [Hd.out, if_neg (by simp [hne])]
  have hne' : (a.fmod b != a.tmod b) = false := by simpa using hne
  have Hne := Lib.hid hne; clear hne
  go_enter Tryz.func172, Tryz.ntmps172
  go_wp2_with fail
  go_quiet ((go_at_call 175; exact Calls.quiet_of_same (Hr.out _)))
  go_wp2_with fail
  go_ret
  exact ⟨ret_int Hf.out, Drew.mk _ _⟩
 ·have Hf : Hid (wrap64 (wrap64 (a.tdiv b) - 1) = wrap64 (a.fdiv b)) := by unfold Hid; rw [Hd.out, if_pos hne, wrap_sub_l]
  have hne' : (a.fmod b != a.tmod b) = true := by simpa using hne
  have Hne := Lib.hid hne; clear hne
  go_enter Tryz.func172, Tryz.ntmps172
  go_wp2_with fail
  go_quiet ((go_at_call 175; exact Calls.quiet_of_same (Hr.out _)))
  go_wp2_with fail
  go_ret
  exact ⟨ret_int Hf.out, Drew.mk _ _⟩

theorem bits_and_bit {a b : Int} (ha : isBit a = true) (hb : isBit b = true) : bits BinOp.and IntKind.i64 a b = a * b := by
 unfold isBit at ha hb
 simp at ha hb
 rcases ha with rfl | rfl <;> rcases hb with rfl | rfl <;> decide
theorem bits_or_bit {a b : Int} (ha : isBit a = true) (hb : isBit b = true) : bits BinOp.or IntKind.i64 a b = max a b := by
 unfold isBit at ha hb
 simp at ha hb
 rcases ha with rfl | rfl <;> rcases hb with rfl | rfl <;> decide

set_option maxHeartbeats 4000000 in
theorem pdyad_any (w : World) (f a b : Int) (hf : takes f true = true) (ha : In64 a) (hb : In64 b) (hr : refusesB f a b = false) : Calls Tryz.prog 172 #[.int .u8 f, .int .i64 a, .int .i64 b] w fun e w' => e = .returned (.int .i64 (dyv f a b)) ∧ Drew w w' := by
 have hf1 := takes_in hf
 have hf16 : f ≠ 16 := by rintro rfl; simp [takes] at hf
 clear hf
 rcases (by omega : f = 1 ∨ f = 2 ∨ f = 3 ∨ f = 4 ∨ f = 5 ∨ f = 6 ∨ f = 7 ∨ (8 ≤ f ∧ f ≤ 13) ∨ f = 14 ∨ f = 15 ∨ f = 17) with rfl | rfl | rfl | rfl | rfl | rfl | rfl | hcmp | rfl | rfl | rfl
 iterate 3
  ·go_enter Tryz.func172, Tryz.ntmps172
   go_wp2
   go_ret
   exact ⟨ret_int (by simp [dyv]), Drew.refl _⟩
 ·have hb0 : ¬ b = 0 := by simpa [refusesB] using hr
  exact (pdyad_div w a b hb0 hb).mono fun e w' ⟨h1, h2⟩ => ⟨by rw [h1]; simp [dyv], h2⟩
 ·by_cases h0 : a = 0
  ·have h0' : (a == 0) = true := by simpa using h0
   have Hf : Hid (b = dyv 5 a b) := by unfold Hid; simp [dyv, h0]
   have H0 := Lib.hid h0; clear h0 hr hf1 hf16
   go_enter Tryz.func172, Tryz.ntmps172
   go_wp2_with fail
   go_ret
   exact ⟨ret_int Hf.out, Drew.refl _⟩
  ·have h0' : (a == 0) = false := by simpa using h0
   have Hf : Hid (b.fmod a = dyv 5 a b) := by unfold Hid; simp [dyv, h0]
   have Hr := Lib.hid (fun W => rest_any W b a h0 ha)
   clear hr hf1 hf16
   go_enter Tryz.func172, Tryz.ntmps172
   go_wp2_with (go_at_call 175; refine (Hr.out _).mono ?_; rintro e w' ⟨rfl, rfl⟩)
   go_ret
   exact ⟨ret_int Hf.out, Drew.refl _⟩
 iterate 2
  ·clear hr hf1 hf16
   go_enter Tryz.func172, Tryz.ntmps172
   go_wp2
   all_goals
    go_ret
    exact ⟨ret_int (by simp [dyv]; try omega), Drew.refl _⟩
 ·have Hh := Lib.hid (fun W => holds_any W f a b hcmp)
  have h1 : (f == 1) = false := by simp; omega
  have h2 : (f == 2) = false := by simp; omega
  have h3 : (f == 3) = false := by simp; omega
  have h4 : (f == 4) = false := by simp; omega
  have h5 : (f == 5) = false := by simp; omega
  have h6 : (f == 6) = false := by simp; omega
  have h7 : (f == 7) = false := by simp; omega
  have h14 : (f == 14) = false := by simp; omega
  have h15 : (f == 15) = false := by simp; omega
  have h17 : (f == 17) = false := by simp; omega
  have Hf : Hid (truthI (if f = 8 then a == b else if f = 9 then a != b else if f = 10 then decide (a < b) else if f = 11 then decide (a ≤ b) else if f = 12 then decide (b ≤ a) else decide (b < a)) = dyv f a b) := by
   unfold Hid dyv
   rcases (by omega : f = 8 ∨ f = 9 ∨ f = 10 ∨ f = 11 ∨ f = 12 ∨ f = 13) with rfl | rfl | rfl | rfl | rfl | rfl <;> simp
  generalize (if f = 8 then a == b else if f = 9 then a != b else if f = 10 then decide (a < b) else if f = 11 then decide (a ≤ b) else if f = 12 then decide (b ≤ a) else decide (b < a)) = tt at Hf Hh
  clear hr hf1 hf16 hcmp
  go_enter Tryz.func172, Tryz.ntmps172
  go_wp2_with (first
   | (go_at_call 177; refine (Hh.out _).mono ?_; rintro e w' ⟨rfl, rfl⟩)
   | (go_at_call 159; refine (truth_any _ _).mono ?_; rintro e w' ⟨rfl, rfl⟩))
  go_ret
  exact ⟨ret_int Hf.out, Drew.refl _⟩
 ·have hab : isBit a = true ∧ isBit b = true := by simpa [refusesB] using hr
  have hx := bits_and_bit hab.1 hab.2
  clear hr hf1 hf16 hab
  go_enter Tryz.func172, Tryz.ntmps172
  go_wp2
  go_ret
  exact ⟨ret_int (by simp [dyv]), Drew.refl _⟩
 ·have hab : isBit a = true ∧ isBit b = true := by simpa [refusesB] using hr
  have hx := bits_or_bit hab.1 hab.2
  clear hr hf1 hf16 hab
  go_enter Tryz.func172, Tryz.ntmps172
  go_wp2
  go_ret
  exact ⟨ret_int (by simp [dyv]), Drew.refl _⟩
 ·have hb0 : 0 ≤ b := by simpa [refusesB] using hr
  have Hr := Lib.hid (fun W => raised_any W a b hb0 hb.2)
  clear hr hf1 hf16
  go_enter Tryz.func172, Tryz.ntmps172
  go_wp2_with (go_at_call 176; refine (Hr.out _).mono ?_; rintro e w' ⟨rfl, rfl⟩)
  go_ret
  exact ⟨ret_int (by simp [dyv]), Drew.refl _⟩

set_option maxHeartbeats 2000000 in
theorem dyad_any (w : World) (f a b : Int) (ha : In64 a) (hb : In64 b) : Calls Tryz.prog 160 #[.int .u8 f, .int .i64 a, .int .i64 b] w fun e w' => e = two (dyadF f a b) ∧ Drew w w' := by
 have hd : dyadF f a b = if takes f true then (if refusesB f a b then (0, 11) else (dyv f a b, 0)) else (0, 10) := rfl
 have Hd := Lib.hid hd; clear hd
 have ht := fun W => takes_any W f true
 cases hx : takes f true with
 | false =>
  rw [hx] at ht
  have Ht := Lib.hid ht
  have Hf : Hid (dyadF f a b = (0, 10)) := by unfold Hid; rw [Hd.out, hx]; rfl
  clear ht hx ha hb
  go_enter Tryz.func160, Tryz.ntmps160
  go_wp2_with (go_at_call 133; refine (Ht.out _).mono ?_; rintro e w' ⟨rfl, rfl⟩)
  go_ret2
  exact ⟨ret_two Hf.out, Drew.refl _⟩
 | true =>
  rw [hx] at ht
  have Ht := Lib.hid ht
  have hr := fun W => refuses_any W f a b (takes_in hx) ha hb
  cases hy : refusesB f a b with
  | true =>
   rw [hy] at hr
   have Hr := Lib.hid hr
   have Hf : Hid (dyadF f a b = (0, 11)) := by unfold Hid; rw [Hd.out, hx, hy]; rfl
   clear ht hx ha hb hr hy
   go_enter Tryz.func160, Tryz.ntmps160
   go_wp2_with (first
    | (go_at_call 133; refine (Ht.out _).mono ?_; rintro e w' ⟨rfl, rfl⟩)
    | (go_at_call 171; refine (Hr.out _).mono ?_; rintro e w' ⟨rfl, rfl⟩))
   go_ret2
   exact ⟨ret_two Hf.out, Drew.refl _⟩
  | false =>
   have hv := fun W => pdyad_any W f a b hx ha hb hy
   rw [hy] at hr
   have Hr := Lib.hid hr; have Hv := Lib.hid hv
   have Hf : Hid (dyadF f a b = (dyv f a b, 0)) := by unfold Hid; rw [Hd.out, hx, hy]; rfl
   clear ht hx ha hb hr hy hv
   go_enter Tryz.func160, Tryz.ntmps160
   go_wp2_with (first
    | (go_at_call 133; refine (Ht.out _).mono ?_; rintro e w' ⟨rfl, rfl⟩)
    | (go_at_call 171; refine (Hr.out _).mono ?_; rintro e w' ⟨rfl, rfl⟩)
    | (go_at_call 172; refine (Hv.out _).mono ?_; rintro e w' ⟨rfl, n, rfl⟩))
   go_ret2
   exact ⟨ret_two Hf.out, Drew.mk _ _⟩
end Go.Proofs.YtokghjnkfabgiaaGreatDoor

namespace Go.Proofs.YtokghjnkfabgiaaGreatDoor
open Go.RowKit

theorem takesT {f : Int} (h : takes f true = true) : f = 1 ∨ f = 2 ∨ f = 3 ∨ f = 4 ∨ f = 5 ∨ f = 6 ∨ f = 7 ∨ f = 8 ∨ f = 9 ∨ f = 10 ∨ f = 11 ∨ f = 12 ∨ f = 13 ∨ f = 14 ∨ f = 15 ∨ f = 17 := by
 have h1 := takes_in h
 have hf16 : f ≠ 16 := by rintro rfl; simp [takes] at h
 omega
end Go.Proofs.YtokghjnkfabgiaaGreatDoor

namespace Go.Proofs.YtokghjnkfabgiaaGreatDoor
open Go.RowKit

theorem takes_at (W : World) (f : Int) (two b : Bool) (h : takes f two = b) : Calls Tryz.prog 133 #[.int .u8 f, .bool two] W fun e w' => e = .returned (.bool b) ∧ W = w' := by
 rw [← h]; exact takes_any W f two

end Go.Proofs.YtokghjnkfabgiaaGreatDoor

namespace Go.Proofs.YtokghjnkfabgiaaGreatDoor
open Go.RowKit

def ub (p : Int × Bool) : Ending := .returned (.tuple #[.int .i64 p.1, .bool p.2])
theorem ret_ub {a : Int} {b : Bool} {p : Int × Bool} (h : p = (a, b)) : Ending.returned (.tuple #[.int .i64 a, .bool b]) = ub p := by subst h; rfl

theorem unit_no {f : Int} (h : takes f true = false) : unitF f = (0, false) := by
 have : ¬ (f = 6 ∨ f = 7 ∨ f = 3 ∨ f = 4 ∨ f = 8 ∨ f = 11 ∨ f = 12 ∨ f = 14 ∨ f = 17) := by
  rintro (rfl | rfl | rfl | rfl | rfl | rfl | rfl | rfl | rfl) <;> simp [takes] at h
 unfold unitF
 rw [if_neg (by omega), if_neg (by omega), if_neg (by omega), h]
theorem eqs_no {f : Int} (h : takes f true = false) : (f == 1) = false ∧ (f == 2) = false ∧ (f == 3) = false ∧ (f == 4) = false ∧ (f == 5) = false ∧ (f == 6) = false ∧ (f == 7) = false ∧ (f == 8) = false ∧ (f == 9) = false ∧ (f == 10) = false ∧ (f == 11) = false ∧ (f == 12) = false ∧ (f == 13) = false ∧ (f == 14) = false ∧ (f == 15) = false ∧ (f == 17) = false := by
 have : ¬ (f = 1 ∨ f = 2 ∨ f = 3 ∨ f = 4 ∨ f = 5 ∨ f = 6 ∨ f = 7 ∨ f = 8 ∨ f = 9 ∨ f = 10 ∨ f = 11 ∨ f = 12 ∨ f = 13 ∨ f = 14 ∨ f = 15 ∨ f = 17) := by
  rintro (rfl | rfl | rfl | rfl | rfl | rfl | rfl | rfl | rfl | rfl | rfl | rfl | rfl | rfl | rfl | rfl) <;> simp [takes] at h
 simp
 omega

set_option maxHeartbeats 2000000 in
theorem unit_any (w : World) (f : Int) : Calls Tryz.prog 136 #[.int .u8 f] w fun e w' => e = ub (unitF f) ∧ Drew w w' := by
 cases hx : takes f true with
 | false =>
  have Hf : Hid (unitF f = (0, false)) := unit_no hx
  obtain ⟨h1, h2, h3, h4, h5, h6, h7, h8, h9, h10, h11, h12, h13, h14, h15, h17⟩ := eqs_no hx
  clear h1 h2 h5 h9 h10 h13 h15
  have Hx := Lib.hid hx; clear hx
  go_enter Tryz.func136, Tryz.ntmps136
  go_wp2_with (go_at_call 133; refine (takes_at _ _ _ false Hx.out).mono ?_; rintro e w' ⟨rfl, rfl⟩)
  go_ret2
  exact ⟨ret_ub Hf.out, Drew.refl _⟩
 | true =>
  rcases takesT hx with rfl | rfl | rfl | rfl | rfl | rfl | rfl | rfl | rfl | rfl | rfl | rfl | rfl | rfl | rfl | rfl
  all_goals
   clear hx
   go_enter Tryz.func136, Tryz.ntmps136
   go_wp2_with (go_at_call 133; refine (takes_at _ _ _ true rfl).mono ?_; rintro e w' ⟨rfl, rfl⟩)
   go_ret2
   exact ⟨ret_ub (by rfl), Drew.refl _⟩

theorem dyad_at (W : World) (f a b n e0 : Int) (ha : In64 a) (hb : In64 b) (h : dyadF f a b = (n, e0)) : Calls Tryz.prog 160 #[.int .u8 f, .int .i64 a, .int .i64 b] W fun e w' => e = .returned (.tuple #[.int .i64 n, .int .i64 e0]) ∧ ∃ n, w' = W.drewN n :=
 (dyad_any W f a b ha hb).mono fun _ _ ⟨h1, h2⟩ => ⟨by rw [h1, h]; rfl, h2⟩
theorem unit_at (W : World) (f n : Int) (b : Bool) (h : unitF f = (n, b)) : Calls Tryz.prog 136 #[.int .u8 f] W fun e w' => e = .returned (.tuple #[.int .i64 n, .bool b]) ∧ ∃ n, w' = W.drewN n :=
 (unit_any W f).mono fun _ _ ⟨h1, h2⟩ => ⟨by rw [h1, h]; rfl, h2⟩
end Go.Proofs.YtokghjnkfabgiaaGreatDoor
