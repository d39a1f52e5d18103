import Derived.Test.YtmlfeocdcjhhaaaRows
import Derived.WalkKit
import Derived.ProofKit
import Derived.OpenShut
import Derived.Below
import Derived.WalkLawsBesides
import Derived.WalkSpells
import Derived.Lib.Hide
import Derived.Deep.QuietTactic
import Derived.BigQuiet
import Derived.Laws.CopyOwn
import Derived.RangeFuncBox
import Derived.Lib.SmallJoins
namespace Go.Proofs.Ytmlfeocdcjhhaaa
set_option linter.unusedVariables false
set_option linter.unusedSimpArgs false
set_option maxRecDepth 100000
open Go.RowKit

theorem bcell {W w1 : World} {B : Nat} (hb : Below B W w1) : (∀ b o, b < B → w1.cell? ⟨b, o, none⟩ = W.cell? ⟨b, o, none⟩) ∧ (∀ b o, b < B → w1.frozen? ⟨b, o, none⟩ = W.frozen? ⟨b, o, none⟩) :=
  ⟨fun b o h => hb.cell (p := ⟨b, o, none⟩) h, fun b o h => hb.frozen (p := ⟨b, o, none⟩) h⟩

theorem ret_int {k : IntKind} {a b : Int} (h : a = b) : Ending.returned (.int k a) = .returned (.int k b) := by rw [h]
theorem ret_bool {a b : Bool} (h : a = b) : Ending.returned (.bool a) = .returned (.bool b) := by rw [h]

/-- A call of a function that has a body: it is entered. -/
theorem callFunc_enter {P : Program} {f : FuncId} {fn : Func} {c : Code} (hf : P.funcs[f]? = some fn) (hname : (fn.name == "runtime.NumGoroutine") = false) (hb : fn.body = some c) (args : Array Value) (w : World) :
    (callFunc f args).run P w = .ok (.enter f args) w := by
  have h1 : fn.name ≠ "runtime.NumGoroutine" := by simpa using hname
  simp [callFunc, hf, h1, hb]

theorem Below.drewN {B : Nat} (w : World) (n : Nat) : Below B w (w.drewN n) := ⟨rfl, rfl, rfl, Nat.le_refl _, fun _ _ => rfl⟩

/-- e has come back with the bool b, and nothing but draws has been done. -/
def SaysB (b : Bool) (w : World) (e : Ending) (w' : World) : Prop := e = .returned (.bool b) ∧ ∃ n, w' = w.drewN n
theorem SaysB.mk {b c : Bool} {w : World} {n : Nat} (h : b = c) : SaysB c w (.returned (.bool b)) (w.drewN n) := ⟨by rw [h], n, rfl⟩
theorem SaysB.mk0 {b c : Bool} {w : World} (h : b = c) : SaysB c w (.returned (.bool b)) w := ⟨by rw [h], 0, rfl⟩
theorem SaysB.drewN {b : Bool} {w w' : World} {e : Ending} {n : Nat} (h : SaysB b (w.drewN n) e w') : SaysB b w e w' := by
  obtain ⟨h1, m, h2⟩ := h
  exact ⟨h1, n + m, by rw [h2, World.drewN_drewN]⟩

def two (p : Int × Int) : Ending := .returned (.tuple #[.int .i64 p.1, .int .i64 p.2])
theorem ret_two {a b : Int} {p : Int × Int} (h : p = (a, b)) : Ending.returned (.tuple #[.int .i64 a, .int .i64 b]) = two p := by subst h; rfl


theorem bNext {w W W2 : World} (hb : Below W.heap.size W W2) (hB : Below w.heap.size w W) : Below w.heap.size w W2 := hB.trans (hb.mono hB.size)
theorem own : ownKnob Try.prog.godebug = none := by kernel_rfl
theorem laidOut : laidOutB Try.prog = true := by kernel_rfl
end Go.Proofs.Ytmlfeocdcjhhaaa

namespace Go.Proofs.Ytmlfeocdcjhhaaa
set_option linter.unusedVariables false
set_option linter.unusedSimpArgs false
set_option maxRecDepth 100000
open Go.RowKit

/-- The numbers xs lie from address a on. -/
def IntsAt (k : IntKind) (w : World) (a : Option Addr) (xs : List Int) : Prop :=
  ∀ i, (h : i < xs.length) → ∃ b off, a = some ⟨b, off, none⟩ ∧ w.cell? ⟨b, off + i, none⟩ = some (.int k xs[i])

theorem IntsAt.nil (k : IntKind) (w : World) (a : Option Addr) : IntsAt k w a [] := fun i h => absurd h (Nat.not_lt_zero i)

theorem IntsAt.below {k : IntKind} {w w' : World} {B : Nat} {a : Option Addr} {xs : List Int} (h : IntsAt k w a xs) (hb : Below B w w') (hB : w.heap.size ≤ B) : IntsAt k w' a xs := by
  intro i hi
  obtain ⟨b, off, rfl, hc⟩ := h i hi
  have hl := World.block_lt_of_cell? w _ hc
  exact ⟨b, off, rfl, (hb.cell (p := ⟨b, off + i, none⟩) (Nat.lt_of_lt_of_le hl hB)).trans hc⟩

theorem IntsAt.drewN {k : IntKind} {w : World} {a : Option Addr} {xs : List Int} (h : IntsAt k w a xs) (n : Nat) : IntsAt k (w.drewN n) a xs := h
/-- v is a row of the call's own (from block B on) that reads as xs. -/
def RowI (B : Nat) (w : World) (v : Value) (xs : List Int) : Prop := w.ownsRow B 2 1 v xs.length (xs.map (Value.int .i64))
theorem RowI.nil (B : Nat) (w : World) : RowI B w (.slice none 0 0) [] := World.ownsRow_nil w B 2 1
/-- Such a row is a slice that reads as xs. -/
theorem RowI.slice {B : Nat} {w : World} {v : Value} {xs : List Int} (h : RowI B w v xs) : ∃ a cap, v = .slice a xs.length cap ∧ xs.length ≤ maxLen ∧ IntsAt .i64 w a xs := by
  obtain ⟨h1, ⟨hv, hn⟩ | ⟨g, cap, cur, hv, hB, hg, hnc, hcm, hcs, ht⟩⟩ := h
  · have hx : xs = [] := List.eq_nil_of_length_eq_zero hn
    subst hx
    exact ⟨none, 0, hv, Nat.zero_le _, IntsAt.nil _ _ _⟩
  · refine ⟨some ⟨g, 0, none⟩, cap, hv, Nat.le_trans hnc hcm, fun i hi => ⟨g, 0, rfl, ?_⟩⟩
    rw [Nat.zero_add, cell_of_row w g i cur 2 (0, 0) hg]
    have : (cur.toList.take (xs.length * 1))[i]? = some (.int .i64 xs[i]) := by rw [ht]; simp [hi]
    rw [List.getElem?_take, if_pos (by omega)] at this
    simpa using this
theorem RowI.kept {B : Nat} {w w' : World} {v : Value} {xs : List Int} {row : Option Nat} (h : RowI B w v xs) (hg : w.grownBy w' row) (hne : v.ownBlock = none ∨ v.ownBlock ≠ row) : RowI B w' v xs := World.ownsRow.kept h hg hne
theorem grownBy_of_below {w w' : World} (h : Below w.heap.size w w') : w.grownBy w' none := ⟨h.os, h.tape, h.output, h.size, fun k hk _ => h.block k hk⟩
theorem RowI.below {B : Nat} {w w' : World} {v : Value} {xs : List Int} (h : RowI B w v xs) (hb : Below w.heap.size w w') : RowI B w' v xs :=
  h.kept (grownBy_of_below hb) (by cases v.ownBlock <;> simp)
theorem Try.info2 : (Try.prog.info? 2).map (fun i => (i.zero, i.size, i.bytes)) = some (some (.int .i64 0), 1, 8) := by kernel_rfl

/-- What lies from an address on is the cells of a slice that reads as xs. -/
theorem IntsAt.src {k : IntKind} {w : World} {a : Option Addr} {xs : List Int} (h : IntsAt k w a xs) (h0 : 0 < xs.length) : ∃ ad, a = some ad ∧ ∀ j v, (xs.map (Value.int k))[j]? = some v → w.cell? (ad.add j) = some v := by
  obtain ⟨b, off, rfl, _⟩ := h 0 h0
  refine ⟨_, rfl, fun j v hv => ?_⟩
  have hj : j < xs.length := by
    by_cases hj : j < xs.length
    · exact hj
    · rw [List.getElem?_eq_none (by simpa using hj)] at hv; cases hv
  obtain ⟨b', off', e, hc⟩ := h j hj
  cases e
  rw [List.getElem?_map, List.getElem?_eq_getElem hj] at hv
  cases hv
  have : (⟨b, off, none⟩ : Addr).add j = ⟨b, off + j, none⟩ := by unfold Addr.add; split <;> simp_all
  rw [this]; exact hc
theorem oneCell_ints (k : IntKind) (xs : List Int) : ∀ v ∈ xs.map (Value.int k), v.oneCell' = true := by
  intro v hv; obtain ⟨x, _, rfl⟩ := List.mem_map.1 hv; rfl

/-- The address of a cut x[l:..] of a slice of capacity m. -/
def subA (a : Option Addr) (m l : Nat) : Option Addr := if m = l then a else a.map (·.add l)
theorem IntsAt.cut {k : IntKind} {w : World} {a : Option Addr} {xs : List Int} (h : IntsAt k w a xs) {m l n : Nat} (hm : xs.length ≤ m) : IntsAt k w (subA a m l) ((xs.drop l).take n) := by
  intro i hi
  rw [List.length_take, List.length_drop] at hi
  obtain ⟨b, off, rfl, hc⟩ := h (l + i) (by omega)
  refine ⟨b, off + l, ?_, ?_⟩
  · unfold subA
    rw [if_neg (by omega)]
    simp only [Option.map_some, Addr.add]
    split <;> simp_all
  · rw [List.getElem_take, List.getElem_drop, Nat.add_assoc]; exact hc
theorem sized2 (w : World) : (sizeOf (Try.prog.elem 50)).run Try.prog w = .ok 1 w := by kernel_rfl
theorem sliced_subA (a : Option Addr) (l h m : Nat) : sliced a l h m 1 = .slice (subA a m l) (h - l) (m - l) := by unfold sliced subA; rw [Nat.mul_one]
/-- x[:h] of a []int64 -/
theorem slice_hi (w : World) (a : Option Addr) (len cap : Nat) (kh : IntKind) (h : Int) (h0 : 0 ≤ h) (h2 : h ≤ cap) :
    (Instr.sliceAt 50 (.slice a len cap) none (some (.int kh h)) none).run Try.prog w = .ok (.slice (subA a cap 0) h.toNat cap) w := by
  rw [run_sliceAt_slice w 50 _ _ _ _ Try.underlying50, run_slice_h w 50 a len cap Try.underlying50 kh h h0 h2, sized2]
  simp only [Result.andThen, sliced_subA, Nat.sub_zero]
end Go.Proofs.Ytmlfeocdcjhhaaa

namespace Go.Proofs.Ytmlfeocdcjhhaaa
set_option linter.unusedVariables false
set_option linter.unusedSimpArgs false
set_option maxRecDepth 100000
open Go.RowKit

theorem keepCell {W w1 : World} {p : Addr} {v : Value} (hb : Below W.heap.size W w1) (h : W.cell? p = some v) : w1.cell? p = some v := (hb.cell (World.block_lt_of_cell? W _ h)).trans h

structure BelowW (w : World) where
  world : World
  below : Below w.heap.size w world
instance belowWInhabited (w : World) : Inhabited (BelowW w) := ⟨⟨w, Below.refl _ _⟩⟩
theorem wp_region_below {P : Program} {id : Nat} {Q : Exit → Act → World → Prop} {a : Act} {w : World} {l : List Oper} (hm : P.follows .mixedOrders = true) (hB : Region.lexB .any l.toArray = true)
    (h : wpQuiet P l.toArray (fun w' => ∃ p : BelowW w, w' = p.world) (fun a' => ∀ w', (∃ p : BelowW w, w' = p.world) → Q .normal a' w') l a) : (Code.region id l.toArray true).wp P Q a w :=
  wp_region_quiet (C := fun w' => ∃ p : BelowW w, w' = p.world) hm hB ⟨⟨w.drew, (Below.refl _ _).drew⟩, rfl⟩ (by simpa using h)
theorem cellBW {w : World} {a : Addr} {v : Value} (h : w.cell? a = some v) (p : BelowW w) : p.world.cell? a = some v := keepCell p.below h
theorem callsBW {P : Program} {f : FuncId} {args : Array Value} {w : World} {v : Value} {p : BelowW w}
    (h : Calls P f args p.world fun e w' => e = .returned v ∧ Below p.world.heap.size p.world w') : Calls P f args p.world fun e w'' => e = .returned v ∧ ∃ q : BelowW w, w'' = q.world :=
  h.mono fun _ w' ⟨he, hq⟩ => ⟨he, ⟨w', bNext hq p.below⟩, rfl⟩
end Go.Proofs.Ytmlfeocdcjhhaaa

namespace Go.Proofs.Ytmlfeocdcjhhaaa
set_option linter.unusedVariables false
set_option linter.unusedSimpArgs false
set_option maxRecDepth 100000
open Go.RowKit

def In64 (x : Int) : Prop := -9223372036854775808 ≤ x ∧ x ≤ 9223372036854775807
theorem wrap_id {x : Int} (h : In64 x) : wrap64 x = x := by unfold In64 at h; unfold wrap64; omega
theorem wrap_in (x : Int) : In64 (wrap64 x) := by unfold In64 wrap64; omega
theorem wrap_ex (x : Int) : ∃ k, wrap64 x = x + k * 18446744073709551616 := ⟨-((x + 9223372036854775808) / 18446744073709551616), by unfold wrap64; omega⟩
theorem wrap_add_mul (x k : Int) : wrap64 (x + k * 18446744073709551616) = wrap64 x := by unfold wrap64; omega
theorem wrap_of_ex {x y : Int} (h : ∃ k, x = y + k * 18446744073709551616) : wrap64 x = wrap64 y := by obtain ⟨k, rfl⟩ := h; exact wrap_add_mul y k
theorem wrap_wrap (x : Int) : wrap64 (wrap64 x) = wrap64 x := wrap_id (wrap_in x)
theorem wrap_sub_l (x y : Int) : wrap64 (wrap64 x - y) = wrap64 (x - y) := by obtain ⟨k, h⟩ := wrap_ex x; exact wrap_of_ex ⟨k, by rw [h]; omega⟩
theorem wrap_mul_l (x y : Int) : wrap64 (wrap64 x * y) = wrap64 (x * y) := by
  obtain ⟨k, h⟩ := wrap_ex x
  exact wrap_of_ex ⟨k * y, by rw [h, Int.add_mul, Int.mul_assoc k, Int.mul_comm 18446744073709551616 y, Int.mul_assoc]⟩
theorem wrap_mul_r (x y : Int) : wrap64 (x * wrap64 y) = wrap64 (x * y) := by rw [Int.mul_comm, wrap_mul_l, Int.mul_comm]
theorem wrap_pow (x z : Int) (k : Nat) : wrap64 (x * wrap64 z ^ k) = wrap64 (x * z ^ k) := by
  induction k generalizing x with
  | zero => simp
  | succ k ih => rw [Int.pow_succ, Int.mul_comm (wrap64 z ^ k), ← Int.mul_assoc, ih, Int.mul_assoc, Int.mul_comm (wrap64 z), ← Int.mul_assoc, wrap_mul_r, Int.pow_succ, Int.mul_assoc]

/-- does a function take one number, or two? -/
def takes (f : Int) (two : Bool) : Bool := if f < 1 ∨ 17 < f then false else if f = 16 then !two else two || decide (f ≤ 7)
def truthI (b : Bool) : Int := if b then 1 else 0
def isBit (a : Int) : Bool := a == 0 || a == 1
/-- does a function of two numbers refuse these? -/
def refusesB (f a b : Int) : Bool :=
  if f = 4 then b == 0 else if f = 17 then decide (b < 0) else if f = 14 ∨ f = 15 then !isBit a || !isBit b else false
/-- a function of two numbers that does not refuse them -/
def dyv (f a b : Int) : Int :=
  if f = 1 then wrap64 (a + b) else if f = 2 then wrap64 (a - b) else if f = 3 then wrap64 (a * b) else if f = 4 then wrap64 (a.fdiv b)
  else if f = 5 then (if a = 0 then b else b.fmod a) else if f = 6 then min a b else if f = 7 then max a b
  else if f = 8 then truthI (a == b) else if f = 9 then truthI (a != b) else if f = 10 then truthI (decide (a < b)) else if f = 11 then truthI (decide (a ≤ b))
  else if f = 12 then truthI (decide (b ≤ a)) else if f = 14 then a * b else if f = 15 then max a b else if f = 17 then wrap64 (a ^ b.toNat) else truthI (decide (b < a))
def dyadF (f a b : Int) : Int × Int := if takes f true then (if refusesB f a b then (0, 11) else (dyv f a b, 0)) else (0, 10)
def monadF (f a : Int) : Int × Int :=
  if takes f false then
    (if f = 2 then (wrap64 (-a), 0) else if f = 3 then (truthI (decide (0 < a)) - truthI (decide (a < 0)), 0) else if f = 4 then dyadF 4 1 a
      else if f = 5 then (max a (wrap64 (-a)), 0) else if f = 16 then (if isBit a then (1 - a, 0) else (0, 11)) else (a, 0))
  else (0, 10)
def unitF (f : Int) : Int × Bool :=
  if f = 6 then (9223372036854775807, true) else if f = 7 then (-9223372036854775808, true)
  else if f = 3 ∨ f = 4 ∨ f = 8 ∨ f = 11 ∨ f = 12 ∨ f = 14 ∨ f = 17 then (1, true) else (0, takes f true)
def totalB (f : Int) (two : Bool) : Bool := if f = 4 ∨ f = 14 ∨ f = 15 ∨ f = 17 ∨ f = 16 then false else takes f two

/-- what rest computes -/
theorem rest_eq {a b : Int} (hb : b ≠ 0) : a.fmod b = if a.tmod b ≠ 0 ∧ ((decide (a.tmod b < 0)) ≠ decide (b < 0)) then a.tmod b + b else a.tmod b := by
  have h1 := Int.tmod_add_mul_tdiv a b
  have h2 := Int.fmod_add_mul_fdiv a b
  have h3 : (a.tmod b).natAbs < b.natAbs := by rw [Int.natAbs_tmod]; exact Nat.mod_lt _ (by omega)
  by_cases hp : 0 < b
  · have f1 := Int.fmod_nonneg_of_pos a hp
    have f2 := Int.fmod_lt_of_pos a hp
    split
    · rename_i hc
      have hneg : a.tmod b < 0 := by have := hc.2; simp at this; omega
      have hk : b * (a.tdiv b - a.fdiv b) = a.fmod b - a.tmod b := by rw [Int.mul_sub]; omega
      have : a.tdiv b - a.fdiv b = 1 := by
        have l1 : 0 < a.fmod b - a.tmod b := by omega
        have l2 : a.fmod b - a.tmod b < b * 2 := by omega
        rw [← hk] at l1 l2
        have m1 := Int.pos_of_mul_pos_right l1 hp
        have m2 := Int.lt_of_mul_lt_mul_left l2 (Int.le_of_lt hp)
        omega
      rw [this] at hk; omega
    · rename_i hc
      have hnn : 0 ≤ a.tmod b := by
        by_cases h : a.tmod b < 0
        · exact absurd ⟨by omega, by simp; omega⟩ hc
        · omega
      have hk : b * (a.tdiv b - a.fdiv b) = a.fmod b - a.tmod b := by rw [Int.mul_sub]; omega
      have : a.tdiv b - a.fdiv b = 0 := by
        have l1 : b * (-1) < a.fmod b - a.tmod b := by omega
        have l2 : a.fmod b - a.tmod b < b * 1 := by omega
        rw [← hk] at l1 l2
        have m1 := Int.lt_of_mul_lt_mul_left l1 (Int.le_of_lt hp)
        have m2 := Int.lt_of_mul_lt_mul_left l2 (Int.le_of_lt hp)
        omega
      rw [this] at hk; omega
  · have hn : b < 0 := by omega
    have f1 : a.fmod b ≤ 0 := by
      rw [Int.fmod_eq_emod]
      have := Int.emod_lt_of_neg a hn
      split
      · rename_i h; rcases h with h | h
        · omega
        · rw [Int.emod_eq_zero_of_dvd h]; omega
      · omega
    have f2 : b < a.fmod b := by
      rw [Int.fmod_eq_emod]
      have h0 := Int.emod_nonneg a hb
      split
      · omega
      · rename_i h
        have : a % b ≠ 0 := fun e => h (.inr (Int.dvd_of_emod_eq_zero e))
        omega
    split
    · rename_i hc
      have hpos : 0 < a.tmod b := by have := hc.2; simp at this; omega
      have hk : (-b) * (a.fdiv b - a.tdiv b) = a.fmod b - a.tmod b := by rw [Int.mul_sub, Int.neg_mul, Int.neg_mul]; omega
      have : a.fdiv b - a.tdiv b = -1 := by
        have l1 : (-b) * (-2) < a.fmod b - a.tmod b := by omega
        have l2 : a.fmod b - a.tmod b < (-b) * 0 := by omega
        rw [← hk] at l1 l2
        have m1 := Int.lt_of_mul_lt_mul_left l1 (by omega)
        have m2 := Int.lt_of_mul_lt_mul_left l2 (by omega)
        omega
      rw [this] at hk; omega
    · rename_i hc
      have hnn : a.tmod b ≤ 0 := by
        by_cases h : 0 < a.tmod b
        · exact absurd ⟨by omega, by simp; omega⟩ hc
        · omega
      have hk : (-b) * (a.fdiv b - a.tdiv b) = a.fmod b - a.tmod b := by rw [Int.mul_sub, Int.neg_mul, Int.neg_mul]; omega
      have : a.fdiv b - a.tdiv b = 0 := by
        have l1 : (-b) * (-1) < a.fmod b - a.tmod b := by omega
        have l2 : a.fmod b - a.tmod b < (-b) * 1 := by omega
        rw [← hk] at l1 l2
        have m1 := Int.lt_of_mul_lt_mul_left l1 (by omega)
        have m2 := Int.lt_of_mul_lt_mul_left l2 (by omega)
        omega
      rw [this] at hk; omega

/-- the quotient that is rounded down, from the one that is cut -/
theorem fdiv_eq {a b : Int} (hb : b ≠ 0) : a.fdiv b = if a.fmod b ≠ a.tmod b then a.tdiv b - 1 else a.tdiv b := by
  have h1 := Int.tmod_add_mul_tdiv a b
  have h2 := Int.fmod_add_mul_fdiv a b
  have h3 := rest_eq (a := a) hb
  split
  · rename_i hne
    have hm : a.fmod b = a.tmod b + b := by
      rw [h3] at hne ⊢
      split
      · rfl
      · rename_i h; rw [if_neg h] at hne; exact absurd rfl hne
    have hk : b * (a.tdiv b - a.fdiv b) = b * 1 := by rw [Int.mul_sub]; omega
    have := Int.eq_of_mul_eq_mul_left hb hk
    omega
  · rename_i he
    have he : a.fmod b = a.tmod b := by omega
    have hk : b * a.fdiv b = b * a.tdiv b := by omega
    exact Int.eq_of_mul_eq_mul_left hb hk

theorem tmod_lt {a b : Int} (hb : b ≠ 0) : (a.tmod b).natAbs < b.natAbs := by rw [Int.natAbs_tmod]; exact Nat.mod_lt _ (by omega)
theorem fmod_in {a b : Int} (h0 : b ≠ 0) (hb : In64 b) : In64 (a.fmod b) := by
  have := tmod_lt (a := a) h0
  unfold In64 at *
  rw [rest_eq h0]
  split
  · rename_i h; have := h.2; simp at this; omega
  · omega

theorem wrap_eq_of {x y : Int} (h : x = y) : wrap64 x = wrap64 y := by rw [h]
theorem sq_pow (y : Int) (k : Nat) : (y * y) ^ k = y ^ (2 * k) := by
  induction k with
  | zero => simp
  | succ k ih => rw [Int.pow_succ, ih, show 2 * (k + 1) = 2 * k + 1 + 1 from by omega, Int.pow_succ, Int.pow_succ, Int.mul_assoc]
/-- the step of a power by halves -/
theorem pow_odd (q y : Int) (m : Nat) (h : m % 2 = 1) : wrap64 (wrap64 (q * y) * wrap64 (y * y) ^ (m / 2)) = wrap64 (q * y ^ m) := by
  rw [wrap_pow, wrap_mul_l, sq_pow]
  refine wrap_eq_of ?_
  have : m = 2 * (m / 2) + 1 := by omega
  conv => rhs; rw [this]
  rw [Int.pow_succ, Int.mul_comm (y ^ _) y, Int.mul_assoc]
theorem pow_even (q y : Int) (m : Nat) (h : m % 2 = 0) : wrap64 (q * wrap64 (y * y) ^ (m / 2)) = wrap64 (q * y ^ m) := by
  rw [wrap_pow, sq_pow]
  refine wrap_eq_of ?_
  have : 2 * (m / 2) = m := by omega
  rw [this]
theorem takes_in {f : Int} {t : Bool} (h : takes f t = true) : 1 ≤ f ∧ f ≤ 17 := by
  unfold takes at h
  split at h
  · cases h
  · omega

theorem two63 : (2 : Int) ^ 63 = 9223372036854775808 := by decide
theorem and_one (m : Int) (h0 : 0 ≤ m) (h1 : m ≤ 9223372036854775807) : bits BinOp.and IntKind.i64 m 1 = m % 2 := by
  have h := bits_mask .i64 63 (by decide) (fun n h0 h1 => by rw [two63] at h1; rw [IntKind.wrap_i64]; omega) 1 (by decide) m (by omega) (by rw [two63]; omega)
  have e : ((2 : Int) ^ 1 - 1) = 1 := by decide
  rw [e] at h
  rw [h]
  omega
end Go.Proofs.Ytmlfeocdcjhhaaa

namespace Go.Proofs.Ytmlfeocdcjhhaaa
set_option linter.unusedVariables false
set_option linter.unusedSimpArgs false
set_option maxRecDepth 100000
open Go.RowKit

set_option maxHeartbeats 400000 in
theorem truth_any (w : World) (b : Bool) : Calls Try.prog 132 #[.bool b] w fun e w' => e = .returned (.int .i64 (truthI b)) ∧ w = w' := by
  cases b
  all_goals
    go_enter Try.func132, Try.ntmps132
    go_wp2
    go_ret
    exact ⟨rfl, rfl⟩

set_option maxHeartbeats 400000 in
theorem raised_any (w : World) (a n : Int) (hn0 : 0 ≤ n) (hn : n ≤ 9223372036854775807) : Calls Try.prog 150 #[.int .i64 a, .int .i64 n] w fun e w' => e = .returned (.int .i64 (wrap64 (a ^ n.toNat))) ∧ w = w' := by
  go_enter Try.func150, Try.ntmps150
  go_wp2
  go_loop [0, 1, 5] (fun x i p => ∃ (m y q : Int), 0 ≤ m ∧ m ≤ n ∧ x = .int .i64 y ∧ i = .int .i64 m ∧ p = .int .i64 q ∧ wrap64 q = q ∧ wrap64 (q * y ^ m.toNat) = wrap64 (a ^ n.toNat)) (fun _ i _ => (intOf i).toNat)
  case atStart => exact ⟨n, a, 1, hn0, Int.le_refl _, rfl, rfl, rfl, wrap_id (by unfold In64; omega), by rw [Int.one_mul]⟩
  case round =>
    obtain ⟨m, y, q, hm0, hm1, rfl, rfl, rfl, hq, hr⟩ := hrel
    have Hq := Lib.hid hq; have Hr := Lib.hid hr; clear hq hr
    by_cases h : 0 < m
    · have hm2 : (m / 2).toNat = m.toNat / 2 := by omega
      have Hm2 := Lib.hid hm2; clear hm2
      by_cases hodd : m % 2 = 1
      · have ho : m.toNat % 2 = 1 := by omega
        have hb : (bits BinOp.and IntKind.i64 m 1 == 1) = true := by rw [and_one m hm0 (by omega)]; simpa using hodd
        have Ho := Lib.hid ho; clear ho hodd
        go_wp2
        go_round
        case rel => exact ⟨m / 2, wrap64 (y * y), wrap64 (q * y), by omega, by omega, rfl, rfl, rfl, wrap_wrap _, by rw [Hm2.out, pow_odd _ _ _ Ho.out]; exact Hr.out⟩
        case measure => simp [intOf]; omega
      · have ho : m.toNat % 2 = 0 := by omega
        have hb : (bits BinOp.and IntKind.i64 m 1 == 1) = false := by rw [and_one m hm0 (by omega)]; simpa using hodd
        have Ho := Lib.hid ho; clear ho hodd
        go_wp2
        go_round
        case rel => exact ⟨m / 2, wrap64 (y * y), q, by omega, by omega, rfl, rfl, rfl, Hq.out, by rw [Hm2.out, pow_even _ _ _ Ho.out]; exact Hr.out⟩
        case measure => simp [intOf]; omega
    · have hm : m = 0 := by omega
      have Hm := Lib.hid hm; clear hm
      go_wp2
      go_ret
      exact ⟨ret_int (by have := Hr.out; rw [Hm.out] at this; simpa [Hq.out] using this), rfl⟩

set_option maxHeartbeats 400000 in
theorem rest_any (w : World) (a b : Int) (hb : ¬ b = 0) (hi : In64 b) : Calls Try.prog 149 #[.int .i64 a, .int .i64 b] w fun e w' => e = .returned (.int .i64 (a.fmod b)) ∧ w = w' := by
  have hr := rest_eq (a := a) hb
  have ht := tmod_lt (a := a) hb
  have Hr := Lib.hid hr; clear hr
  unfold In64 at hi
  by_cases h0 : a.tmod b = 0
  · have Hf : Hid (a.fmod b = 0) := by unfold Hid; rw [Hr.out, if_neg (by omega)]; exact h0
    clear hi ht
    go_enter Try.func149, Try.ntmps149
    go_wp2
    go_ret
    exact ⟨ret_int Hf.out.symm, rfl⟩
  · have h0' : (a.tmod b != 0) = true := by simpa using h0
    by_cases hs : (!(decide (a.tmod b < 0) == decide (b < 0))) = true
    · have Hf : Hid (wrap64 (a.tmod b + b) = a.fmod b) := by
        unfold Hid
        have hs' : decide (a.tmod b < 0) ≠ decide (b < 0) := by simpa using hs
        rw [Hr.out, if_pos ⟨h0, hs'⟩]
        refine wrap_id ?_
        unfold In64
        simp at hs'
        omega
      clear hi ht
      go_enter Try.func149, Try.ntmps149
      go_wp2
      go_ret
      exact ⟨ret_int Hf.out, rfl⟩
    · have Hf : Hid (a.tmod b = a.fmod b) := by
        unfold Hid
        have hs' : ¬ decide (a.tmod b < 0) ≠ decide (b < 0) := by simpa using hs
        rw [Hr.out, if_neg (fun h => hs' h.2)]
      have hs2 : (!(decide (a.tmod b < 0) == decide (b < 0))) = false := by simpa using hs
      clear hi ht hs
      go_enter Try.func149, Try.ntmps149
      go_wp2
      go_ret
      exact ⟨ret_int Hf.out, rfl⟩
end Go.Proofs.Ytmlfeocdcjhhaaa

namespace Go.Proofs.Ytmlfeocdcjhhaaa
set_option linter.unusedVariables false
set_option linter.unusedSimpArgs false
set_option maxRecDepth 100000
open Go.RowKit

def Drew (w w' : World) : Prop := ∃ n, w' = w.drewN n
theorem Drew.refl (w : World) : Drew w w := ⟨0, rfl⟩
theorem Drew.mk (w : World) (n : Nat) : Drew w (w.drewN n) := ⟨n, rfl⟩
theorem Drew.below {B : Nat} {w w' : World} (h : Drew w w') : Below B w w' := by obtain ⟨n, rfl⟩ := h; exact Below.drewN w n

theorem u64_bit (a : Int) (h : In64 a) : (decide (1 < IntKind.u64.wrap a)) = !isBit a := by
  unfold In64 at h
  have : IntKind.u64.wrap a = a % 18446744073709551616 := by rw [IntKind.wrap_u64]
  rw [this]
  unfold isBit
  by_cases h0 : a = 0
  · subst h0; decide
  · by_cases h1 : a = 1
    · subst h1; decide
    · have e0 : (a == 0) = false := by simpa using h0
      have e1 : (a == 1) = false := by simpa using h1
      rw [e0, e1]; simp; omega

set_option maxHeartbeats 1000000 in
theorem holds_any (w : World) (f a b : Int) (hf : 8 ≤ f ∧ f ≤ 13) : Calls Try.prog 151 #[.int .u8 f, .int .i64 a, .int .i64 b] w fun e w' => e = .returned (.bool (
    if f = 8 then a == b else if f = 9 then a != b else if f = 10 then decide (a < b) else if f = 11 then decide (a ≤ b) else if f = 12 then decide (b ≤ a) else decide (b < a))) ∧ w = w' := by
  rcases (by omega : f = 8 ∨ f = 9 ∨ f = 10 ∨ f = 11 ∨ f = 12 ∨ f = 13) with rfl | rfl | rfl | rfl | rfl | rfl
  all_goals
    go_enter Try.func151, Try.ntmps151
    go_wp2
    go_ret
    exact ⟨by simp, rfl⟩


set_option maxHeartbeats 1000000 in
theorem takes_any (w : World) (f : Int) (two : Bool) : Calls Try.prog 23 #[.int .u8 f, .bool two] w fun e w' => e = .returned (.bool (takes f two)) ∧ w = w' := by
  have ht : takes f two = if f < 1 ∨ 17 < f then false else if f = 16 then !two else two || decide (f ≤ 7) := rfl
  have Ht := Lib.hid ht; clear ht
  by_cases h1 : f < 1
  · go_enter Try.func23, Try.ntmps23
    go_wp2
    go_ret
    exact ⟨ret_bool (by rw [Ht.out, if_pos (Or.inl h1)]), rfl⟩
  · have h1' : decide (f < 1) = false := by simpa using h1
    by_cases h2 : 17 < f
    · go_enter Try.func23, Try.ntmps23
      go_wp2
      go_ret
      exact ⟨ret_bool (by rw [Ht.out, if_pos (Or.inr h2)]), rfl⟩
    · have h2' : decide (17 < f) = false := by simpa using h2
      by_cases h3 : f = 16
      · have Hf : Hid (takes f two = !two) := by unfold Hid; rw [Ht.out, if_neg (by omega), if_pos h3]
        subst h3
        cases two
        all_goals
          go_enter Try.func23, Try.ntmps23
          go_wp2
          go_ret
          exact ⟨ret_bool (by rw [Hf.out]; try rfl), rfl⟩
      · have Hf : Hid (takes f two = (two || decide (f ≤ 7))) := by unfold Hid; rw [Ht.out, if_neg (by omega), if_neg h3]
        have h3' : (f == 16) = false := by simpa using h3
        cases two
        all_goals
          go_enter Try.func23, Try.ntmps23
          go_wp2
          go_ret
          exact ⟨ret_bool (by rw [Hf.out]; try rfl), rfl⟩

set_option maxHeartbeats 2000000 in
theorem refuses_any (w : World) (f a b : Int) (hf : 1 ≤ f ∧ f ≤ 17) (ha : In64 a) (hb : In64 b) : Calls Try.prog 126 #[.int .u8 f, .int .i64 a, .int .i64 b] w fun e w' => e = .returned (.bool (refusesB f a b)) ∧ w = w' := by
  have ua := u64_bit a ha
  have ub := u64_bit b hb
  clear ha hb
  by_cases hs : f = 4 ∨ f = 17 ∨ f = 14 ∨ f = 15
  · rcases hs with rfl | rfl | rfl | rfl
    · go_enter Try.func126, Try.ntmps126
      go_wp2
      go_ret
      exact ⟨ret_bool (by simp [refusesB]), rfl⟩
    · go_enter Try.func126, Try.ntmps126
      go_wp2
      go_ret
      exact ⟨ret_bool (by simp [refusesB]), rfl⟩
    all_goals
      cases hx : isBit a
      all_goals
        rw [hx] at ua
        have Hx := Lib.hid hx; clear hx
        go_enter Try.func126, Try.ntmps126
        go_wp2
        go_ret
        exact ⟨ret_bool (by simp [refusesB, Hx.out]), rfl⟩
  · have h4 : (f == 4) = false := by simp; omega
    have h17 : (f == 17) = false := by simp; omega
    have h14 : (f == 14) = false := by simp; omega
    have h15 : (f == 15) = false := by simp; omega
    have Hf : Hid (refusesB f a b = false) := by unfold Hid refusesB; rw [if_neg (by omega), if_neg (by omega), if_neg (by omega)]
    clear hs ua ub
    go_enter Try.func126, Try.ntmps126
    go_wp2
    go_ret
    exact ⟨ret_bool Hf.out.symm, rfl⟩
end Go.Proofs.Ytmlfeocdcjhhaaa

namespace Go.Proofs.Ytmlfeocdcjhhaaa
set_option linter.unusedVariables false
set_option linter.unusedSimpArgs false
set_option maxRecDepth 100000
open Go.RowKit

set_option maxHeartbeats 2000000 in
theorem pdyad_div (w : World) (a b : Int) (hb0 : ¬ b = 0) (hb : In64 b) : Calls Try.prog 127 #[.int .u8 4, .int .i64 a, .int .i64 b] w fun e w' => e = .returned (.int .i64 (wrap64 (a.fdiv b))) ∧ Drew w w' := by
  have hd := fdiv_eq (a := a) hb0
  have hr := fun W => (rest_any W a b hb0 hb).mono (R' := fun e w' => e = .returned (.int .i64 (a.fmod b)) ∧ w' = W) fun _ _ ⟨x, y⟩ => ⟨x, y.symm⟩
  have Hr := Lib.hid hr; have Hd := Lib.hid hd; clear hr hd hb
  by_cases hne : a.fmod b = a.tmod b
  · have Hf : Hid (wrap64 (a.tdiv b) = wrap64 (a.fdiv b)) := by unfold Hid; rw [Hd.out, if_neg (by simp [hne])]
    have hne' : (a.fmod b != a.tmod b) = false := by simpa using hne
    have Hne := Lib.hid hne; clear hne
    go_enter Try.func127, Try.ntmps127
    go_wp2_with fail
    go_quiet ((go_at_call 149; exact Calls.quiet_of_same (Hr.out _)))
    go_wp2_with fail
    go_ret
    exact ⟨ret_int Hf.out, Drew.mk _ _⟩
  · have Hf : Hid (wrap64 (wrap64 (a.tdiv b) - 1) = wrap64 (a.fdiv b)) := by unfold Hid; rw [Hd.out, if_pos hne, wrap_sub_l]
    have hne' : (a.fmod b != a.tmod b) = true := by simpa using hne
    have Hne := Lib.hid hne; clear hne
    go_enter Try.func127, Try.ntmps127
    go_wp2_with fail
    go_quiet ((go_at_call 149; exact Calls.quiet_of_same (Hr.out _)))
    go_wp2_with fail
    go_ret
    exact ⟨ret_int Hf.out, Drew.mk _ _⟩

theorem bits_and_bit {a b : Int} (ha : isBit a = true) (hb : isBit b = true) : bits BinOp.and IntKind.i64 a b = a * b := by
  unfold isBit at ha hb
  simp at ha hb
  rcases ha with rfl | rfl <;> rcases hb with rfl | rfl <;> decide
theorem bits_or_bit {a b : Int} (ha : isBit a = true) (hb : isBit b = true) : bits BinOp.or IntKind.i64 a b = max a b := by
  unfold isBit at ha hb
  simp at ha hb
  rcases ha with rfl | rfl <;> rcases hb with rfl | rfl <;> decide

set_option maxHeartbeats 4000000 in
theorem pdyad_any (w : World) (f a b : Int) (hf : takes f true = true) (ha : In64 a) (hb : In64 b) (hr : refusesB f a b = false) : Calls Try.prog 127 #[.int .u8 f, .int .i64 a, .int .i64 b] w fun e w' => e = .returned (.int .i64 (dyv f a b)) ∧ Drew w w' := by
  have hf1 := takes_in hf
  have hf16 : f ≠ 16 := by rintro rfl; simp [takes] at hf
  clear hf
  rcases (by omega : f = 1 ∨ f = 2 ∨ f = 3 ∨ f = 4 ∨ f = 5 ∨ f = 6 ∨ f = 7 ∨ (8 ≤ f ∧ f ≤ 13) ∨ f = 14 ∨ f = 15 ∨ f = 17) with rfl | rfl | rfl | rfl | rfl | rfl | rfl | hcmp | rfl | rfl | rfl
  iterate 3
    · go_enter Try.func127, Try.ntmps127
      go_wp2
      go_ret
      exact ⟨ret_int (by simp [dyv]), Drew.refl _⟩
  · have hb0 : ¬ b = 0 := by simpa [refusesB] using hr
    exact (pdyad_div w a b hb0 hb).mono fun e w' ⟨h1, h2⟩ => ⟨by rw [h1]; simp [dyv], h2⟩
  · by_cases h0 : a = 0
    · have h0' : (a == 0) = true := by simpa using h0
      have Hf : Hid (b = dyv 5 a b) := by unfold Hid; simp [dyv, h0]
      have H0 := Lib.hid h0; clear h0 hr hf1 hf16
      go_enter Try.func127, Try.ntmps127
      go_wp2_with fail
      go_ret
      exact ⟨ret_int Hf.out, Drew.refl _⟩
    · have h0' : (a == 0) = false := by simpa using h0
      have Hf : Hid (b.fmod a = dyv 5 a b) := by unfold Hid; simp [dyv, h0]
      have Hr := Lib.hid (fun W => rest_any W b a h0 ha)
      clear hr hf1 hf16
      go_enter Try.func127, Try.ntmps127
      go_wp2_with (go_at_call 149; refine (Hr.out _).mono ?_; rintro e w' ⟨rfl, rfl⟩)
      go_ret
      exact ⟨ret_int Hf.out, Drew.refl _⟩
  iterate 2
    · clear hr hf1 hf16
      go_enter Try.func127, Try.ntmps127
      go_wp2
      all_goals
        go_ret
        exact ⟨ret_int (by simp [dyv]; try omega), Drew.refl _⟩
  · have Hh := Lib.hid (fun W => holds_any W f a b hcmp)
    have h1 : (f == 1) = false := by simp; omega
    have h2 : (f == 2) = false := by simp; omega
    have h3 : (f == 3) = false := by simp; omega
    have h4 : (f == 4) = false := by simp; omega
    have h5 : (f == 5) = false := by simp; omega
    have h6 : (f == 6) = false := by simp; omega
    have h7 : (f == 7) = false := by simp; omega
    have h14 : (f == 14) = false := by simp; omega
    have h15 : (f == 15) = false := by simp; omega
    have h17 : (f == 17) = false := by simp; omega
    have Hf : Hid (truthI (if f = 8 then a == b else if f = 9 then a != b else if f = 10 then decide (a < b) else if f = 11 then decide (a ≤ b) else if f = 12 then decide (b ≤ a) else decide (b < a)) = dyv f a b) := by
      unfold Hid dyv
      rcases (by omega : f = 8 ∨ f = 9 ∨ f = 10 ∨ f = 11 ∨ f = 12 ∨ f = 13) with rfl | rfl | rfl | rfl | rfl | rfl <;> simp
    generalize (if f = 8 then a == b else if f = 9 then a != b else if f = 10 then decide (a < b) else if f = 11 then decide (a ≤ b) else if f = 12 then decide (b ≤ a) else decide (b < a)) = tt at Hf Hh
    clear hr hf1 hf16 hcmp
    go_enter Try.func127, Try.ntmps127
    go_wp2_with (first
      | (go_at_call 151; refine (Hh.out _).mono ?_; rintro e w' ⟨rfl, rfl⟩)
      | (go_at_call 132; refine (truth_any _ _).mono ?_; rintro e w' ⟨rfl, rfl⟩))
    go_ret
    exact ⟨ret_int Hf.out, Drew.refl _⟩
  · have hab : isBit a = true ∧ isBit b = true := by simpa [refusesB] using hr
    have hx := bits_and_bit hab.1 hab.2
    clear hr hf1 hf16 hab
    go_enter Try.func127, Try.ntmps127
    go_wp2
    go_ret
    exact ⟨ret_int (by simp [dyv]), Drew.refl _⟩
  · have hab : isBit a = true ∧ isBit b = true := by simpa [refusesB] using hr
    have hx := bits_or_bit hab.1 hab.2
    clear hr hf1 hf16 hab
    go_enter Try.func127, Try.ntmps127
    go_wp2
    go_ret
    exact ⟨ret_int (by simp [dyv]), Drew.refl _⟩
  · have hb0 : 0 ≤ b := by simpa [refusesB] using hr
    have Hr := Lib.hid (fun W => raised_any W a b hb0 hb.2)
    clear hr hf1 hf16
    go_enter Try.func127, Try.ntmps127
    go_wp2_with (go_at_call 150; refine (Hr.out _).mono ?_; rintro e w' ⟨rfl, rfl⟩)
    go_ret
    exact ⟨ret_int (by simp [dyv]), Drew.refl _⟩

set_option maxHeartbeats 2000000 in
theorem dyad_any (w : World) (f a b : Int) (ha : In64 a) (hb : In64 b) : Calls Try.prog 82 #[.int .u8 f, .int .i64 a, .int .i64 b] w fun e w' => e = two (dyadF f a b) ∧ Drew w w' := by
  have hd : dyadF f a b = if takes f true then (if refusesB f a b then (0, 11) else (dyv f a b, 0)) else (0, 10) := rfl
  have Hd := Lib.hid hd; clear hd
  have ht := fun W => takes_any W f true
  cases hx : takes f true with
  | false =>
    rw [hx] at ht
    have Ht := Lib.hid ht
    have Hf : Hid (dyadF f a b = (0, 10)) := by unfold Hid; rw [Hd.out, hx]; rfl
    clear ht hx ha hb
    go_enter Try.func82, Try.ntmps82
    go_wp2_with (go_at_call 23; refine (Ht.out _).mono ?_; rintro e w' ⟨rfl, rfl⟩)
    go_ret2
    exact ⟨ret_two Hf.out, Drew.refl _⟩
  | true =>
    rw [hx] at ht
    have Ht := Lib.hid ht
    have hr := fun W => refuses_any W f a b (takes_in hx) ha hb
    cases hy : refusesB f a b with
    | true =>
      rw [hy] at hr
      have Hr := Lib.hid hr
      have Hf : Hid (dyadF f a b = (0, 11)) := by unfold Hid; rw [Hd.out, hx, hy]; rfl
      clear ht hx ha hb hr hy
      go_enter Try.func82, Try.ntmps82
      go_wp2_with (first
        | (go_at_call 23; refine (Ht.out _).mono ?_; rintro e w' ⟨rfl, rfl⟩)
        | (go_at_call 126; refine (Hr.out _).mono ?_; rintro e w' ⟨rfl, rfl⟩))
      go_ret2
      exact ⟨ret_two Hf.out, Drew.refl _⟩
    | false =>
      have hv := fun W => pdyad_any W f a b hx ha hb hy
      rw [hy] at hr
      have Hr := Lib.hid hr; have Hv := Lib.hid hv
      have Hf : Hid (dyadF f a b = (dyv f a b, 0)) := by unfold Hid; rw [Hd.out, hx, hy]; rfl
      clear ht hx ha hb hr hy hv
      go_enter Try.func82, Try.ntmps82
      go_wp2_with (first
        | (go_at_call 23; refine (Ht.out _).mono ?_; rintro e w' ⟨rfl, rfl⟩)
        | (go_at_call 126; refine (Hr.out _).mono ?_; rintro e w' ⟨rfl, rfl⟩)
        | (go_at_call 127; refine (Hv.out _).mono ?_; rintro e w' ⟨rfl, n, rfl⟩))
      go_ret2
      exact ⟨ret_two Hf.out, Drew.mk _ _⟩
end Go.Proofs.Ytmlfeocdcjhhaaa

namespace Go.Proofs.Ytmlfeocdcjhhaaa
set_option linter.unusedVariables false
set_option linter.unusedSimpArgs false
set_option maxRecDepth 100000
open Go.RowKit

theorem takesT {f : Int} (h : takes f true = true) : f = 1 ∨ f = 2 ∨ f = 3 ∨ f = 4 ∨ f = 5 ∨ f = 6 ∨ f = 7 ∨ f = 8 ∨ f = 9 ∨ f = 10 ∨ f = 11 ∨ f = 12 ∨ f = 13 ∨ f = 14 ∨ f = 15 ∨ f = 17 := by
  have h1 := takes_in h
  have hf16 : f ≠ 16 := by rintro rfl; simp [takes] at h
  omega
theorem takesF {f : Int} (h : takes f false = true) : f = 1 ∨ f = 2 ∨ f = 3 ∨ f = 4 ∨ f = 5 ∨ f = 6 ∨ f = 7 ∨ f = 16 := by
  have h1 := takes_in h
  unfold takes at h
  rw [if_neg (by omega)] at h
  split at h
  · omega
  · simp at h; omega

end Go.Proofs.Ytmlfeocdcjhhaaa

namespace Go.Proofs.Ytmlfeocdcjhhaaa
set_option linter.unusedVariables false
set_option linter.unusedSimpArgs false
set_option maxRecDepth 100000
open Go.RowKit

theorem takes_at (W : World) (f : Int) (two b : Bool) (h : takes f two = b) : Calls Try.prog 23 #[.int .u8 f, .bool two] W fun e w' => e = .returned (.bool b) ∧ W = w' := by
  rw [← h]; exact takes_any W f two

theorem wrap_truths (x y : Bool) : wrap64 (truthI x - truthI y) = truthI x - truthI y := by
  cases x <;> cases y <;> exact wrap_id (by unfold In64 truthI; simp)

theorem xor_bit {a : Int} (ha : isBit a = true) : bits BinOp.xor IntKind.i64 a 1 = 1 - a := by
  unfold isBit at ha
  simp at ha
  rcases ha with rfl | rfl <;> decide

set_option maxHeartbeats 2000000 in
theorem monad_any (w : World) (f a : Int) (ha : In64 a) : Calls Try.prog 94 #[.int .u8 f, .int .i64 a] w fun e w' => e = two (monadF f a) ∧ Drew w w' := by
  have Ha := Lib.hid ha
  cases hx : takes f false with
  | false =>
    have Hf : Hid (monadF f a = (0, 10)) := by unfold Hid monadF; rw [hx]; rfl
    have Hx := Lib.hid hx; clear hx ha
    go_enter Try.func94, Try.ntmps94
    go_wp2_with (go_at_call 23; refine (takes_at _ _ _ false Hx.out).mono ?_; rintro e w' ⟨rfl, rfl⟩)
    go_ret2
    exact ⟨ret_two Hf.out, Drew.refl _⟩
  | true =>
    have hu := u64_bit a ha
    have hc := takesF hx
    clear hx ha
    rcases hc with rfl | rfl | rfl | rfl | rfl | rfl | rfl | rfl
    iterate 3
      · clear hu
        go_enter Try.func94, Try.ntmps94
        go_wp2_with (first | (go_at_call 23; refine (takes_at _ _ _ true rfl).mono ?_; rintro e w' ⟨rfl, rfl⟩) | (go_at_call 132; refine (truth_any _ _).mono ?_; rintro e w' ⟨rfl, rfl⟩))
        go_ret2
        exact ⟨ret_two (by simp [monadF, takes]; try exact (wrap_truths _ _).symm), Drew.refl _⟩
    · clear hu
      have Hd := Lib.hid (fun W => dyad_any W 4 1 a (by unfold In64; omega) Ha.out)
      have Hf : Hid (monadF 4 a = dyadF 4 1 a) := by unfold Hid; simp [monadF, takes]
      generalize dyadF 4 1 a = r at Hd Hf
      obtain ⟨r1, r2⟩ := r
      unfold two at Hd
      go_enter Try.func94, Try.ntmps94
      go_wp2_with (first | (go_at_call 23; refine (takes_at _ _ _ true rfl).mono ?_; rintro e w' ⟨rfl, rfl⟩) | (go_at_call 82; refine (Hd.out _).mono ?_; rintro e w' ⟨rfl, n, rfl⟩))
      go_ret2
      exact ⟨ret_two Hf.out, Drew.mk _ _⟩
    · clear hu
      go_enter Try.func94, Try.ntmps94
      go_wp2_with (go_at_call 23; refine (takes_at _ _ _ true rfl).mono ?_; rintro e w' ⟨rfl, rfl⟩)
      all_goals
        go_ret2
        exact ⟨ret_two (by simp [monadF, takes]; try omega), Drew.refl _⟩
    iterate 2
      · clear hu
        go_enter Try.func94, Try.ntmps94
        go_wp2_with (go_at_call 23; refine (takes_at _ _ _ true rfl).mono ?_; rintro e w' ⟨rfl, rfl⟩)
        go_ret2
        exact ⟨ret_two (by simp [monadF, takes]; try exact (wrap_truths _ _).symm), Drew.refl _⟩
    · cases hb : isBit a with
      | false =>
        rw [hb] at hu
        have Hb := Lib.hid hb; clear hb
        go_enter Try.func94, Try.ntmps94
        go_wp2_with (go_at_call 23; refine (takes_at _ _ _ true rfl).mono ?_; rintro e w' ⟨rfl, rfl⟩)
        go_ret2
        exact ⟨ret_two (by simp [monadF, takes, Hb.out]), Drew.refl _⟩
      | true =>
        rw [hb] at hu
        have hz := xor_bit hb
        have Hb := Lib.hid hb; clear hb
        go_enter Try.func94, Try.ntmps94
        go_wp2_with (go_at_call 23; refine (takes_at _ _ _ true rfl).mono ?_; rintro e w' ⟨rfl, rfl⟩)
        go_ret2
        exact ⟨ret_two (by simp [monadF, takes, Hb.out]), Drew.refl _⟩

end Go.Proofs.Ytmlfeocdcjhhaaa

namespace Go.Proofs.Ytmlfeocdcjhhaaa
set_option linter.unusedVariables false
set_option linter.unusedSimpArgs false
set_option maxRecDepth 100000
open Go.RowKit

def ub (p : Int × Bool) : Ending := .returned (.tuple #[.int .i64 p.1, .bool p.2])
theorem ret_ub {a : Int} {b : Bool} {p : Int × Bool} (h : p = (a, b)) : Ending.returned (.tuple #[.int .i64 a, .bool b]) = ub p := by subst h; rfl

theorem unit_no {f : Int} (h : takes f true = false) : unitF f = (0, false) := by
  have : ¬ (f = 6 ∨ f = 7 ∨ f = 3 ∨ f = 4 ∨ f = 8 ∨ f = 11 ∨ f = 12 ∨ f = 14 ∨ f = 17) := by
    rintro (rfl | rfl | rfl | rfl | rfl | rfl | rfl | rfl | rfl) <;> simp [takes] at h
  unfold unitF
  rw [if_neg (by omega), if_neg (by omega), if_neg (by omega), h]
theorem eqs_no {f : Int} (h : takes f true = false) : (f == 1) = false ∧ (f == 2) = false ∧ (f == 3) = false ∧ (f == 4) = false ∧ (f == 5) = false ∧ (f == 6) = false ∧ (f == 7) = false ∧ (f == 8) = false ∧ (f == 9) = false ∧ (f == 10) = false ∧ (f == 11) = false ∧ (f == 12) = false ∧ (f == 13) = false ∧ (f == 14) = false ∧ (f == 15) = false ∧ (f == 17) = false := by
  have : ¬ (f = 1 ∨ f = 2 ∨ f = 3 ∨ f = 4 ∨ f = 5 ∨ f = 6 ∨ f = 7 ∨ f = 8 ∨ f = 9 ∨ f = 10 ∨ f = 11 ∨ f = 12 ∨ f = 13 ∨ f = 14 ∨ f = 15 ∨ f = 17) := by
    rintro (rfl | rfl | rfl | rfl | rfl | rfl | rfl | rfl | rfl | rfl | rfl | rfl | rfl | rfl | rfl | rfl) <;> simp [takes] at h
  simp
  omega

set_option maxHeartbeats 2000000 in
theorem unit_any (w : World) (f : Int) : Calls Try.prog 83 #[.int .u8 f] w fun e w' => e = ub (unitF f) ∧ Drew w w' := by
  cases hx : takes f true with
  | false =>
    have Hf : Hid (unitF f = (0, false)) := unit_no hx
    obtain ⟨h1, h2, h3, h4, h5, h6, h7, h8, h9, h10, h11, h12, h13, h14, h15, h17⟩ := eqs_no hx
    clear h1 h2 h5 h9 h10 h13 h15
    have Hx := Lib.hid hx; clear hx
    go_enter Try.func83, Try.ntmps83
    go_wp2_with (go_at_call 23; refine (takes_at _ _ _ false Hx.out).mono ?_; rintro e w' ⟨rfl, rfl⟩)
    go_ret2
    exact ⟨ret_ub Hf.out, Drew.refl _⟩
  | true =>
    rcases takesT hx with rfl | rfl | rfl | rfl | rfl | rfl | rfl | rfl | rfl | rfl | rfl | rfl | rfl | rfl | rfl | rfl
    all_goals
      clear hx
      go_enter Try.func83, Try.ntmps83
      go_wp2_with (go_at_call 23; refine (takes_at _ _ _ true rfl).mono ?_; rintro e w' ⟨rfl, rfl⟩)
      go_ret2
      exact ⟨ret_ub (by rfl), Drew.refl _⟩

set_option maxHeartbeats 2000000 in
theorem total_any (w : World) (f : Int) (two : Bool) : Calls Try.prog 154 #[.int .u8 f, .bool two] w fun e w' => e = .returned (.bool (totalB f two)) ∧ Drew w w' := by
  by_cases hs : f = 4 ∨ f = 14 ∨ f = 15 ∨ f = 17 ∨ f = 16
  · rcases hs with rfl | rfl | rfl | rfl | rfl
    all_goals
      go_enter Try.func154, Try.ntmps154
      go_wp2
      go_ret
      exact ⟨rfl, Drew.refl _⟩
  · have Hf : Hid (takes f two = totalB f two) := by unfold Hid totalB; rw [if_neg hs]
    have h4 : (f == 4) = false := by simp; omega
    have h14 : (f == 14) = false := by simp; omega
    have h15 : (f == 15) = false := by simp; omega
    have h17 : (f == 17) = false := by simp; omega
    have h16 : (f == 16) = false := by simp; omega
    clear hs
    generalize totalB f two = r at Hf
    go_enter Try.func154, Try.ntmps154
    go_wp2_with (go_at_call 23; refine (takes_at _ _ _ r Hf.out).mono ?_; rintro e w' ⟨rfl, rfl⟩)
    go_ret
    exact ⟨rfl, Drew.refl _⟩

/-- a call with known values -/
theorem dyad_at (W : World) (f a b n e0 : Int) (ha : In64 a) (hb : In64 b) (h : dyadF f a b = (n, e0)) : Calls Try.prog 82 #[.int .u8 f, .int .i64 a, .int .i64 b] W fun e w' => e = .returned (.tuple #[.int .i64 n, .int .i64 e0]) ∧ ∃ n, w' = W.drewN n :=
  (dyad_any W f a b ha hb).mono fun _ _ ⟨h1, h2⟩ => ⟨by rw [h1, h]; rfl, h2⟩
theorem monad_at (W : World) (f a n e0 : Int) (ha : In64 a) (h : monadF f a = (n, e0)) : Calls Try.prog 94 #[.int .u8 f, .int .i64 a] W fun e w' => e = .returned (.tuple #[.int .i64 n, .int .i64 e0]) ∧ ∃ n, w' = W.drewN n :=
  (monad_any W f a ha).mono fun _ _ ⟨h1, h2⟩ => ⟨by rw [h1, h]; rfl, h2⟩
theorem unit_at (W : World) (f n : Int) (b : Bool) (h : unitF f = (n, b)) : Calls Try.prog 83 #[.int .u8 f] W fun e w' => e = .returned (.tuple #[.int .i64 n, .bool b]) ∧ ∃ n, w' = W.drewN n :=
  (unit_any W f).mono fun _ _ ⟨h1, h2⟩ => ⟨by rw [h1, h]; rfl, h2⟩
end Go.Proofs.Ytmlfeocdcjhhaaa

namespace Go.Proofs.Ytmlfeocdcjhhaaa
set_option maxRecDepth 100000
open Go.RowKit
set_option linter.unusedVariables false
set_option linter.unusedSimpArgs false

theorem ite_pred {α : Type} {p : α → Prop} {c : Prop} [Decidable c] {a b : α} (ha : p a) (hb : p b) : p (if c then a else b) := by split <;> assumption
theorem truth_in (b : Bool) : In64 (truthI b) := by cases b <;> exact ⟨by decide, by decide⟩
theorem bit_of {a : Int} (h : isBit a = true) : a = 0 ∨ a = 1 := by unfold isBit at h; simpa using h
theorem ite_pred' {α : Type} {p : α → Prop} {c : Prop} [Decidable c] {a b : α} (ha : c → p a) (hb : ¬ c → p b) : p (if c then a else b) := by
  by_cases h : c
  · rw [if_pos h]; exact ha h
  · rw [if_neg h]; exact hb h
theorem dyv_in {f a b : Int} (ha : In64 a) (hb : In64 b) (hr : refusesB f a b = false) : In64 (dyv f a b) := by
  have hmin : In64 (min a b) := by unfold In64 at *; omega
  have hmax : In64 (max a b) := by unfold In64 at *; omega
  unfold dyv
  refine ite_pred' (fun h0 => ?_) (fun _ => ?_)
  · exact wrap_in _
  refine ite_pred' (fun h1 => ?_) (fun _ => ?_)
  · exact wrap_in _
  refine ite_pred' (fun h2 => ?_) (fun _ => ?_)
  · exact wrap_in _
  refine ite_pred' (fun h3 => ?_) (fun _ => ?_)
  · exact wrap_in _
  refine ite_pred' (fun h4 => ?_) (fun _ => ?_)
  · exact ite_pred' (fun _ => hb) (fun h => fmod_in h ha)
  refine ite_pred' (fun h5 => ?_) (fun _ => ?_)
  · exact hmin
  refine ite_pred' (fun h6 => ?_) (fun _ => ?_)
  · exact hmax
  refine ite_pred' (fun h7 => ?_) (fun _ => ?_)
  · exact truth_in _
  refine ite_pred' (fun h8 => ?_) (fun _ => ?_)
  · exact truth_in _
  refine ite_pred' (fun h9 => ?_) (fun _ => ?_)
  · exact truth_in _
  refine ite_pred' (fun h10 => ?_) (fun _ => ?_)
  · exact truth_in _
  refine ite_pred' (fun h11 => ?_) (fun _ => ?_)
  · exact truth_in _
  refine ite_pred' (fun h12 => ?_) (fun _ => ?_)
  · (subst h12; unfold refusesB at hr; simp at hr; rcases bit_of hr.1 with rfl | rfl <;> rcases bit_of hr.2 with rfl | rfl <;> exact ⟨by decide, by decide⟩)
  refine ite_pred' (fun h13 => ?_) (fun _ => ?_)
  · exact hmax
  refine ite_pred' (fun h14 => ?_) (fun _ => ?_)
  · exact wrap_in _
  exact truth_in _
theorem dyad_in {f a b : Int} (ha : In64 a) (hb : In64 b) : In64 (dyadF f a b).1 := by
  unfold dyadF
  split
  · split
    · exact ⟨by decide, by decide⟩
    · rename_i h; exact dyv_in ha hb (by simpa using h)
  · exact ⟨by decide, by decide⟩
theorem monad_in {f a : Int} (ha : In64 a) : In64 (monadF f a).1 := by
  have h01 : In64 0 := ⟨by decide, by decide⟩
  have h11 : In64 1 := ⟨by decide, by decide⟩
  show (fun r : Int × Int => In64 r.1) (monadF f a)
  unfold monadF
  refine ite_pred (p := fun r : Int × Int => In64 r.1) (ite_pred (p := fun r : Int × Int => In64 r.1) (wrap_in _) (ite_pred (p := fun r : Int × Int => In64 r.1) ?_ (ite_pred (p := fun r : Int × Int => In64 r.1) (dyad_in h11 ha) (ite_pred (p := fun r : Int × Int => In64 r.1) ?_ ?_)))) h01
  · have h1 := truth_in (decide (0 < a)); have h2 := truth_in (decide (a < 0))
    unfold truthI
    unfold In64
    dsimp only
    split <;> split <;> omega
  · have h1 := wrap_in (-a)
    unfold In64 at *
    dsimp only
    omega
  · by_cases h : f = 16
    · rw [if_pos h]
      by_cases hb : isBit a = true
      · rw [if_pos hb]
        rcases bit_of hb with rfl | rfl <;> exact ⟨by decide, by decide⟩
      · rw [if_neg hb]; exact ⟨by decide, by decide⟩
    · rw [if_neg h]; exact ha
theorem In64.zero : In64 0 := by unfold In64; omega
end Go.Proofs.Ytmlfeocdcjhhaaa

namespace Go.Proofs.Ytmlfeocdcjhhaaa
set_option linter.unusedVariables false
set_option linter.unusedSimpArgs false
set_option maxRecDepth 100000
open Go.RowKit

theorem eqlNil (w : World) (a : Option Addr) (l c : Nat) : (binOp .eql 50 (.slice a l c) (.slice none 0 0)).run Try.prog w = .ok (.bool a.isNone) w := Lib.run_eql_slice_nil w 50 2 a l c 0 0 Try.underlying50

set_option maxHeartbeats 1000000 in
theorem clone_any (w : World) (a : Option Addr) (c : Nat) (xs : List Int) (hm : xs.length ≤ 17592186044416) (h : IntsAt .i64 w a xs) :
    Calls Try.prog 44 #[.slice a xs.length c] w fun e w' => (∃ v, e = .returned v ∧ RowI w.heap.size w' v xs) ∧ Below w.heap.size w w' := by
  obtain ⟨i0, hi, hz0, hz1, hz2⟩ := info_parts Try.info2
  cases a with
  | none =>
    have hx : xs = [] := by
      cases xs with
      | nil => rfl
      | cons x xs => obtain ⟨b, off, e, _⟩ := h 0 (by simp); cases e
    subst hx
    clear h hm hi hz0 hz1 hz2
    have hn := eqlNil w none 0 c
    go_enter Try.func44, Try.ntmps44
    go_wp2
    go_ret
    exact ⟨⟨_, rfl, RowI.nil _ _⟩, Below.refl _ _⟩
  | some ad =>
    have Hi := Lib.hid hi; have Hz0 := Lib.hid hz0; have Hz1 := Lib.hid hz1; have Hz2 := Lib.hid hz2; clear hi hz0 hz1 hz2
    have hsrc : ∀ j v, (xs.map (Value.int .i64))[j]? = some v → w.cell? (ad.add j) = some v := by
      by_cases h0 : 0 < xs.length
      · obtain ⟨ad', e, hs⟩ := h.src h0
        cases e; exact hs
      · have : xs = [] := by cases xs <;> simp_all
        subst this; simp
    have Hs := Lib.hid hsrc; clear hsrc h
    have hn := eqlNil w (some ad) xs.length c
    go_enter Try.func44, Try.ntmps44
    go_wp2_with (at_builtin; (refine wpList_append_own _ rfl _ _ 50 rfl w.heap.size 2 i0 (.int .i64 0) 1 8 Try.underlying50 Hi.out Hz0.out Hz1.out Hz2.out rfl (by decide) _ 0 [] rfl (World.ownsRow_made w #[] 0 (Nat.le_refl _) (Nat.zero_le _) rfl) ad xs.length c (xs.map (Value.int .i64)) rfl (by simp) (fun j v hj => (World.cell?_alloc_lt _ _ _ (World.block_lt_of_cell? w _ (Hs.out j v hj))).trans (Hs.out j v hj)) (oneCell_ints _ _) (by unfold maxLen; omega) (by omega) (by simp) ?_))
    intro v' w1 hown hgrow _
    have HO := Lib.hid hown; have HG := Lib.hid hgrow; clear hown hgrow
    go_wp2
    go_ret
    refine ⟨⟨_, rfl, HO.out⟩, ?_⟩
    exact ((Below.refl w.heap.size w).alloc (Nat.le_refl _) _).grown HG.out (by simp) (fun k e => by cases e; exact Nat.le_refl _)

theorem clone_n (w : World) (a : Option Addr) (n c : Nat) (xs : List Int) (hn : n = xs.length) (hm : xs.length ≤ 17592186044416) (h : IntsAt .i64 w a xs) :
    Calls Try.prog 44 #[.slice a n c] w fun e w' => (∃ v, e = .returned v ∧ RowI w.heap.size w' v xs) ∧ Below w.heap.size w w' := by
  subst hn; exact clone_any w a c xs hm h

end Go.Proofs.Ytmlfeocdcjhhaaa
