import Derived.Test.YtokghjnkfabgiaaGreatDoorTD25
import Derived.Test.YtokghjnkfabgiaaGreatDoorTD1
import Derived.Lib.SmallJoins
import Derived.DataShut
set_option linter.unusedVariables false
set_option linter.unusedSimpArgs false
set_option maxRecDepth 100000
namespace Go.Proofs.YtokghjnkfabgiaaGreatDoor
open Go.RowKit

abbrev ArrE := (List Int × List Int) × Int
def noA (e : Int) : ArrE := (([], []), e)
def okA (s d : List Int) : ArrE := ((s, d), 0)
def iotaL (n : Nat) : List Int := (List.range n).map fun k : Nat => (k : Int)
def revD (s d : List Int) : List Int := ((lanes s d).1.map List.reverse).flatten
def turnAt (s : List Int) (i : Nat) : Nat := (place s (idx s.reverse i).reverse).1.toNat
def turnD (s d : List Int) : List Int := (List.range d.length).map fun i => d.getD (turnAt s i) 0
def iotaA (s d : List Int) : ArrE := if 0 < s.length then noA 71 else if d.headD 0 < 0 ∨ 65536 < d.headD 0 then noA 73 else okA [d.headD 0] (iotaL (d.headD 0).toNat)
def monadA (f : Int) (s d : List Int) : ArrE :=
 if right s d then
  if f = 32 then iotaA s d
  else if f = 33 then okA [(s.length : Int)] s
  else if f = 34 then okA [(d.length : Int)] d
  else if f = 35 then okA s (revD s d)
  else if f = 36 then okA s.reverse (turnD s d)
  else if takes f false then (if d.any (fun x => (monadF f x).2 != 0) then noA 11 else okA s (d.map fun x => (monadF f x).1))
  else noA 70
 else noA 60
def pairsA (f : Int) (xs ys s : List Int) : ArrE := if (xs.zip ys).any (fun p => refusesB f p.1 p.2) then noA 11 else okA s (List.zipWith (dyv f) xs ys)
def rhoA (s d t e : List Int) : ArrE :=
 if 1 < s.length then noA 71
 else if 4 < d.length ∨ d.any badSide then noA 73
 else if (size d).2 ≠ 0 then noA 74
 else if 0 < (size d).1 ∧ e.length = 0 then noA 72
 else okA d ((List.range (size d).1.toNat).map fun i => e.getD (i % e.length) 0)
def cutA (t e : List Int) (a b : Int) : ArrE :=
 let c : Int := (e.length : Int) / t.headD 0
 okA ((b - a) :: t.tail) ((e.drop (a * c).toNat).take ((b - a) * c).toNat)
def takeA (s d t e : List Int) (drop : Bool) : ArrE :=
 if 0 < s.length ∨ t.length = 0 then noA 71
 else
  let n := d.headD 0
  let m := t.headD 0
  if m < n ∨ n < -m then noA 73
  else if 0 ≤ n then (if drop then cutA t e n m else cutA t e 0 n)
  else if drop then cutA t e 0 (m + n) else cutA t e (m + n) m
def sided (s : List Int) : List Int := if s.length = 0 then [1] else s
def catA (s d t e : List Int) : ArrE :=
 if (sided s).length ≠ (sided t).length ∨ (sided s).tail ≠ (sided t).tail then noA 72
 else
  let u := ((sided s).headD 0 + (sided t).headD 0) :: (sided s).tail
  if (size u).2 ≠ 0 then noA 74 else okA u (d ++ e)
def dyadA (f : Int) (s d t e : List Int) : ArrE :=
 if right s d && right t e then
  if f = 37 then rhoA s d t e
  else if f = 38 then takeA s d t e false
  else if f = 39 then takeA s d t e true
  else if f = 40 then catA s d t e
  else if takes f true then
   if s = t then pairsA f d e s
   else if s.length = 0 then pairsA f (List.replicate e.length (d.headD 0)) e t
   else if t.length = 0 then pairsA f d (List.replicate d.length (e.headD 0)) s
   else noA 72
  else noA 70
 else noA 60
def stepL (f : Int) (p : List Int × Bool) (x : Int) : List Int × Bool :=
 match p.1.getLast? with
 | none => ([x], p.2)
 | some a => (p.1 ++ [if refusesB f a x then 0 else dyv f a x], p.2 || refusesB f a x)
def laneL (f : Int) (l : List Int) : List Int × Bool := l.foldl (stepL f) ([], false)
def foldA (f : Int) (s d : List Int) : ArrE :=
 if right s d then
  if takes f true then
   if s.length = 0 then okA [] d
   else if (size s.dropLast).2 ≠ 0 then noA 74
   else if lastOf s = 0 then okA s.dropLast (List.replicate (size s.dropLast).1.toNat (unitF f).1)
   else if ((lanes s d).1.map (laneL f)).any (·.2) then noA 11
   else okA s.dropLast ((lanes s d).1.map fun l => (laneL f l).1.getLastD 0)
  else noA 70
 else noA 60
def scanA (f : Int) (s d : List Int) : ArrE :=
 if right s d then
  if takes f true then
   if ((lanes s d).1.map (laneL f)).any (·.2) then noA 11
   else okA s (((lanes s d).1.map fun l => (laneL f l).1).flatten)
  else noA 70
 else noA 60
theorem snoc_ind {α : Type} {p : List α → Prop} (h0 : p []) (h1 : ∀ l x, p l → p (l ++ [x])) : ∀ l, p l := by
 intro l
 have h : ∀ r : List α, p r.reverse := fun r => by
  induction r with
  | nil => exact h0
  | cons x r ih => rw [List.reverse_cons]; exact h1 _ _ ih
 have := h l.reverse
 rwa [List.reverse_reverse] at this
theorem stepL_len (f : Int) (p : List Int × Bool) (x : Int) : (stepL f p x).1.length = p.1.length + 1 := by
 unfold stepL
 split
 ·rename_i h; rw [List.getLast?_eq_none_iff.1 h]; rfl
 ·simp
theorem laneL_snoc (f : Int) (l : List Int) (x : Int) : laneL f (l ++ [x]) = stepL f (laneL f l) x := by simp [laneL, List.foldl_append]
theorem laneL_len (f : Int) (l : List Int) : (laneL f l).1.length = l.length := by
 induction l using snoc_ind with
 | h0 => rfl
 | h1 l x ih => rw [laneL_snoc, stepL_len, ih]; simp
theorem laneL_step (f : Int) {l : List Int} (x : Int) (h : 0 < l.length) : ∃ a, (laneL f l).1.getLast? = some a ∧ laneL f (l ++ [x]) = ((laneL f l).1 ++ [if refusesB f a x then 0 else dyv f a x], (laneL f l).2 || refusesB f a x) := by
 cases hq : (laneL f l).1.getLast? with
 | none =>
  have := laneL_len f l
  rw [List.getLast?_eq_none_iff.1 hq] at this
  simp at this
  omega
 | some a => exact ⟨a, rfl, by rw [laneL_snoc]; unfold stepL; rw [hq]⟩
end Go.Proofs.YtokghjnkfabgiaaGreatDoor

namespace Go.Proofs.YtokghjnkfabgiaaGreatDoor

theorem prodTo_pos : ∀ (xs : List Int) (n : Int), (∀ x ∈ xs, 0 < x) → 0 < n → n ≤ 65536 → prodTo n xs = if 65536 < n * prodL xs then (0, 61) else (n * prodL xs, 0)
 | [], n, _, h0, h1 => by simp only [prodTo, prodL, Int.mul_one]; rw [if_neg (by omega)]
 | x :: xs, n, hx, h0, h1 => by
  have hx0 : 0 < x := hx x (by simp)
  have hp : 0 < prodL xs := prodL_pos fun y hy => hx y (by simp [hy])
  have hn : 0 < n * x := Int.mul_pos h0 hx0
  rw [prodTo, prodL, ← Int.mul_assoc]
  by_cases hb : 65536 < n * x
  ·rw [if_pos hb, if_pos]
   have : n * x * 1 ≤ n * x * prodL xs := Int.mul_le_mul_of_nonneg_left (by omega) (by omega)
   omega
  ·rw [if_neg hb, prodTo_pos xs (n * x) (fun y hy => hx y (by simp [hy])) hn (by omega)]
end Go.Proofs.YtokghjnkfabgiaaGreatDoor
