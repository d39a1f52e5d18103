import Derived.Test.YtmjkncmpanhgjaaPA8
import Derived.Lib.SmallJoins
import Derived.DataShut
import Derived.Test.YtmjkncmpanhgjaaPA6
import Derived.Deep.Slices
namespace Go.Proofs.Ytmjkncmpanhgjaa
set_option linter.unusedVariables false
set_option linter.unusedSimpArgs false
set_option maxRecDepth 100000
open Go.RowKit

theorem in64_wf {a : Int} (h : (Lit.int .i64 a).wf = true) : In64 a := by
  have h := (Lit.wf_int_iff .i64 a).1 h
  rw [show IntKind.i64.min = -9223372036854775808 from rfl, show IntKind.i64.max = 9223372036854775807 from rfl] at h
  unfold In64
  omega
theorem drewW {w W : World} {n : Nat} (hB : Below w.heap.size w W) : Below w.heap.size w (W.drewN n) := hB.trans (Below.drewN _ _)
end Go.Proofs.Ytmjkncmpanhgjaa

namespace Go.Proofs.Ytmjkncmpanhgjaa
set_option linter.unusedVariables false
set_option linter.unusedSimpArgs false
set_option maxRecDepth 100000
open Go.RowKit

theorem dy1 (a b : Int) : dyadF 1 a b = (wrap64 (a + b), 0) := by simp [dyadF, takes, refusesB, dyv]
theorem dy2 (a b : Int) : dyadF 2 a b = (wrap64 (a - b), 0) := by simp [dyadF, takes, refusesB, dyv]
theorem dy3 (a b : Int) : dyadF 3 a b = (wrap64 (a * b), 0) := by simp [dyadF, takes, refusesB, dyv]
theorem dy4 (a b : Int) (h : b ≠ 0) : dyadF 4 a b = (wrap64 (a.fdiv b), 0) := by simp [dyadF, takes, refusesB, dyv, h]
theorem dy40 (a : Int) : dyadF 4 a 0 = (0, 11) := by simp [dyadF, takes, refusesB]
theorem dy5 (a b : Int) : dyadF 5 a b = (if a = 0 then b else b.fmod a, 0) := by simp [dyadF, takes, refusesB, dyv]
theorem dy6 (a b : Int) : dyadF 6 a b = (min a b, 0) := by simp [dyadF, takes, refusesB, dyv]
theorem dy7 (a b : Int) : dyadF 7 a b = (max a b, 0) := by simp [dyadF, takes, refusesB, dyv]
theorem dy8 (a b : Int) : dyadF 8 a b = (truthI (a == b), 0) := by simp [dyadF, takes, refusesB, dyv]
theorem dy9 (a b : Int) : dyadF 9 a b = (truthI (a != b), 0) := by simp [dyadF, takes, refusesB, dyv]
theorem dy10 (a b : Int) : dyadF 10 a b = (truthI (decide (a < b)), 0) := by simp [dyadF, takes, refusesB, dyv]
theorem dy11 (a b : Int) : dyadF 11 a b = (truthI (decide (a ≤ b)), 0) := by simp [dyadF, takes, refusesB, dyv]
theorem dy12 (a b : Int) : dyadF 12 a b = (truthI (decide (b ≤ a)), 0) := by simp [dyadF, takes, refusesB, dyv]
theorem dy13 (a b : Int) : dyadF 13 a b = (truthI (decide (b < a)), 0) := by simp [dyadF, takes, refusesB, dyv]
theorem dy17 (a b : Int) (h : 0 ≤ b) : dyadF 17 a b = (wrap64 (a ^ b.toNat), 0) := by
  have : ¬ b < 0 := by omega
  simp [dyadF, takes, refusesB, dyv, this]
theorem dy17n (a b : Int) (h : b < 0) : dyadF 17 a b = (0, 11) := by simp [dyadF, takes, refusesB, h]

theorem fmod_side {a b : Int} (hb : b ≠ 0) : (0 < b → 0 ≤ a.fmod b ∧ a.fmod b < b) ∧ (b < 0 → a.fmod b ≤ 0 ∧ b < a.fmod b) := by
  refine ⟨fun h => ⟨Int.fmod_nonneg_of_pos a h, Int.fmod_lt_of_pos a h⟩, fun hn => ?_⟩
  have hr := rest_eq (a := a) hb
  have ht := tmod_lt (a := a) hb
  rw [hr]
  split
  · rename_i hc; have := hc.2; simp at this; omega
  · rename_i hc
    by_cases h : 0 < a.tmod b
    · exact absurd ⟨by omega, by simp; omega⟩ hc
    · omega
theorem div_back {a b : Int} (hb : b ≠ 0) (ha : In64 a) : wrap64 (wrap64 (wrap64 (a.fdiv b) * b) + a.fmod b) = a := by
  rw [wrap_add_l, ]
  have h := Int.fmod_add_mul_fdiv a b
  obtain ⟨k, hk⟩ := wrap_ex (a.fdiv b)
  rw [hk]
  refine (wrap_of_ex ⟨k * b, ?_⟩).trans (wrap_id ha)
  rw [Int.add_mul, Int.mul_right_comm k, Int.mul_comm (a.fdiv b)]
  omega
end Go.Proofs.Ytmjkncmpanhgjaa

namespace Go.Proofs.Ytmjkncmpanhgjaa
set_option maxRecDepth 100000
open Go.RowKit
set_option linter.unusedVariables false
set_option linter.unusedSimpArgs false

/-! The plain meanings of chapter 07. -/
abbrev ArrE := (List Int × List Int) × Int
def noA (e : Int) : ArrE := (([], []), e)
def okA (s d : List Int) : ArrE := ((s, d), 0)
def iotaL (n : Nat) : List Int := (List.range n).map fun k : Nat => (k : Int)
theorem iotaL_succ (n : Nat) : iotaL (n + 1) = iotaL n ++ [(n : Int)] := by simp [iotaL, List.range_succ]
theorem iotaL_len (n : Nat) : (iotaL n).length = n := by simp [iotaL]
def revD (s d : List Int) : List Int := ((lanes s d).1.map List.reverse).flatten
def turnAt (s : List Int) (i : Nat) : Nat := (place s (idx s.reverse i).reverse).1.toNat
def turnD (s d : List Int) : List Int := (List.range d.length).map fun i => d.getD (turnAt s i) 0
def iotaA (s d : List Int) : ArrE := if 0 < s.length then noA 71 else if d.headD 0 < 0 ∨ 65536 < d.headD 0 then noA 73 else okA [d.headD 0] (iotaL (d.headD 0).toNat)
def monadA (f : Int) (s d : List Int) : ArrE :=
  if right s d then
    if f = 32 then iotaA s d
    else if f = 33 then okA [(s.length : Int)] s
    else if f = 34 then okA [(d.length : Int)] d
    else if f = 35 then okA s (revD s d)
    else if f = 36 then okA s.reverse (turnD s d)
    else if takes f false then (if d.any (fun x => (monadF f x).2 != 0) then noA 11 else okA s (d.map fun x => (monadF f x).1))
    else noA 70
  else noA 60
/-- a function of pairs: what it makes of the first ones, and whether one was refused -/
def pairsA (f : Int) (xs ys s : List Int) : ArrE := if (xs.zip ys).any (fun p => refusesB f p.1 p.2) then noA 11 else okA s (List.zipWith (dyv f) xs ys)
def rhoA (s d t e : List Int) : ArrE :=
  if 1 < s.length then noA 71
  else if 4 < d.length ∨ d.any badSide then noA 73
  else if (size d).2 ≠ 0 then noA 74
  else if 0 < (size d).1 ∧ e.length = 0 then noA 72
  else okA d ((List.range (size d).1.toNat).map fun i => e.getD (i % e.length) 0)
/-- the cells from one on up to, not with, another -/
def cutA (t e : List Int) (a b : Int) : ArrE :=
  let c : Int := (e.length : Int) / t.headD 0
  okA ((b - a) :: t.tail) ((e.drop (a * c).toNat).take ((b - a) * c).toNat)
def takeA (s d t e : List Int) (drop : Bool) : ArrE :=
  if 0 < s.length ∨ t.length = 0 then noA 71
  else
    let n := d.headD 0
    let m := t.headD 0
    if m < n ∨ n < -m then noA 73
    else if 0 ≤ n then (if drop then cutA t e n m else cutA t e 0 n)
    else if drop then cutA t e 0 (m + n) else cutA t e (m + n) m
def sided (s : List Int) : List Int := if s.length = 0 then [1] else s
def catA (s d t e : List Int) : ArrE :=
  if (sided s).length ≠ (sided t).length ∨ (sided s).tail ≠ (sided t).tail then noA 72
  else
    let u := ((sided s).headD 0 + (sided t).headD 0) :: (sided s).tail
    if (size u).2 ≠ 0 then noA 74 else okA u (d ++ e)
def dyadA (f : Int) (s d t e : List Int) : ArrE :=
  if right s d && right t e then
    if f = 37 then rhoA s d t e
    else if f = 38 then takeA s d t e false
    else if f = 39 then takeA s d t e true
    else if f = 40 then catA s d t e
    else if takes f true then
      if s = t then pairsA f d e s
      else if s.length = 0 then pairsA f (List.replicate e.length (d.headD 0)) e t
      else if t.length = 0 then pairsA f d (List.replicate d.length (e.headD 0)) s
      else noA 72
    else noA 70
  else noA 60
/-- one step of a lane: what is refused leaves 0, and is remembered -/
def stepL (f : Int) (p : List Int × Bool) (x : Int) : List Int × Bool :=
  match p.1.getLast? with
  | none => ([x], p.2)
  | some a => (p.1 ++ [if refusesB f a x then 0 else dyv f a x], p.2 || refusesB f a x)
def laneL (f : Int) (l : List Int) : List Int × Bool := l.foldl (stepL f) ([], false)
def foldA (f : Int) (s d : List Int) : ArrE :=
  if right s d then
    if takes f true then
      if s.length = 0 then okA [] d
      else if (size s.dropLast).2 ≠ 0 then noA 74
      else if lastOf s = 0 then okA s.dropLast (List.replicate (size s.dropLast).1.toNat (unitF f).1)
      else if ((lanes s d).1.map (laneL f)).any (·.2) then noA 11
      else okA s.dropLast ((lanes s d).1.map fun l => (laneL f l).1.getLastD 0)
    else noA 70
  else noA 60
def scanA (f : Int) (s d : List Int) : ArrE :=
  if right s d then
    if takes f true then
      if ((lanes s d).1.map (laneL f)).any (·.2) then noA 11
      else okA s (((lanes s d).1.map fun l => (laneL f l).1).flatten)
    else noA 70
  else noA 60
def outerA (f : Int) (s d t e : List Int) : ArrE :=
  if right s d && right t e then
    if takes f true then
      if 4 < (s ++ t).length then noA 71
      else if (size (s ++ t)).2 ≠ 0 then noA 74
      else if d.any (fun x => e.any fun y => refusesB f x y) then noA 11
      else okA (s ++ t) (d.flatMap fun x => e.map (dyv f x))
    else noA 70
  else noA 60
/-! steps of a lane -/
theorem snoc_ind {α : Type} {p : List α → Prop} (h0 : p []) (h1 : ∀ l x, p l → p (l ++ [x])) : ∀ l, p l := by
  intro l
  have h : ∀ r : List α, p r.reverse := fun r => by
    induction r with
    | nil => exact h0
    | cons x r ih => rw [List.reverse_cons]; exact h1 _ _ ih
  have := h l.reverse
  rwa [List.reverse_reverse] at this
theorem stepL_len (f : Int) (p : List Int × Bool) (x : Int) : (stepL f p x).1.length = p.1.length + 1 := by
  unfold stepL
  split
  · rename_i h; rw [List.getLast?_eq_none_iff.1 h]; rfl
  · simp
theorem laneL_snoc (f : Int) (l : List Int) (x : Int) : laneL f (l ++ [x]) = stepL f (laneL f l) x := by simp [laneL, List.foldl_append]
theorem laneL_len (f : Int) (l : List Int) : (laneL f l).1.length = l.length := by
  induction l using snoc_ind with
  | h0 => rfl
  | h1 l x ih => rw [laneL_snoc, stepL_len, ih]; simp
theorem laneL_one (f x : Int) : laneL f [x] = ([x], false) := rfl
theorem laneL_step (f : Int) {l : List Int} (x : Int) (h : 0 < l.length) : ∃ a, (laneL f l).1.getLast? = some a ∧ laneL f (l ++ [x]) = ((laneL f l).1 ++ [if refusesB f a x then 0 else dyv f a x], (laneL f l).2 || refusesB f a x) := by
  cases hq : (laneL f l).1.getLast? with
  | none =>
    have := laneL_len f l
    rw [List.getLast?_eq_none_iff.1 hq] at this
    simp at this
    omega
  | some a => exact ⟨a, rfl, by rw [laneL_snoc]; unfold stepL; rw [hq]⟩
/-- what was refused stays so -/
theorem laneL_bad (f : Int) (l r : List Int) (h : (laneL f l).2 = true) : (laneL f (l ++ r)).2 = true := by
  induction r using snoc_ind with
  | h0 => simpa using h
  | h1 r x ih =>
    rw [← List.append_assoc, laneL_snoc]
    unfold stepL
    split
    · exact ih
    · simp [ih]
end Go.Proofs.Ytmjkncmpanhgjaa

namespace Go.Proofs.Ytmjkncmpanhgjaa
set_option maxRecDepth 100000
open Go.RowKit Go.ChangeShapes Go.WideShapes Go.Deep
set_option linter.unusedVariables false
set_option linter.unusedSimpArgs false

/-- How cells read as things of a type. -/
structure Rep (α : Type) where
  n : Nat
  At : World → List Value → α → Prop
  len : ∀ w cs x, At w cs x → cs.length = n
  keep : ∀ w w' cs x, At w cs x → Below w.heap.size w w' → At w' cs x
  one : ∀ w cs x, At w cs x → ∀ v ∈ cs, v.oneCell' = true

section
variable {α : Type} (R : Rep α)
/-- From address a on lie cells that read as xs. -/
def Rep.Els (w : World) (a : Option Addr) (xs : List α) : Prop :=
  ∀ i, (h : i < xs.length) → ∃ b off cs, a = some ⟨b, off, none⟩ ∧ R.At w cs xs[i] ∧ ∀ j v, cs[j]? = some v → w.cell? ⟨b, off + i * R.n + j, none⟩ = some v
/-- A slice that reads as xs. -/
def Rep.Sl (w : World) (v : Value) (xs : List α) : Prop := ∃ a cap, v = .slice a xs.length cap ∧ xs.length ≤ cap ∧ cap ≤ maxLen ∧ (a = none → cap = 0) ∧ R.Els w a xs
theorem Rep.Els.nil (w : World) (a : Option Addr) : R.Els w a [] := fun i h => absurd h (Nat.not_lt_zero i)
theorem Rep.Els.below {w w' : World} {a : Option Addr} {xs : List α} {B : Nat} (h : R.Els w a xs) (hb : Below B w w') (hB : w.heap.size ≤ B) : R.Els w' a xs := by
  intro i hi
  obtain ⟨b, off, cs, e, hc, hx⟩ := h i hi
  have hb' := hb.mono hB
  exact ⟨b, off, cs, e, R.keep _ _ _ _ hc hb', fun j v hj => (hb'.cell (p := ⟨b, off + i * R.n + j, none⟩) (World.block_lt_of_cell? w _ (hx j v hj))).trans (hx j v hj)⟩
theorem Rep.Sl.below {w w' : World} {v : Value} {xs : List α} {B : Nat} (h : R.Sl w v xs) (hb : Below B w w') (hB : w.heap.size ≤ B) : R.Sl w' v xs := by
  obtain ⟨a, cap, e, h1, h2, h4, h3⟩ := h
  exact ⟨a, cap, e, h1, h2, h4, h3.below R hb hB⟩
theorem Rep.Sl.nil (w : World) : R.Sl w (.slice none 0 0) [] := ⟨none, 0, rfl, Nat.le_refl _, Nat.zero_le _, fun _ => rfl, Rep.Els.nil R _ _⟩
/-- A slice, as one cell. -/
def Rep.slice : Rep (List α) where
  n := 1
  At w cs xs := ∃ v, cs = [v] ∧ R.Sl w v xs
  len := by rintro w cs x ⟨v, rfl, _⟩; rfl
  keep := by rintro w w' cs x ⟨v, rfl, h⟩ hb; exact ⟨v, rfl, h.below R hb (Nat.le_refl _)⟩
  one := by rintro w cs x ⟨v, rfl, a, cap, rfl, _⟩ u hu; cases List.mem_singleton.1 hu; rfl
/-- Things that are their cells, whatever the memory. -/
def Rep.flat (n : Nat) (enc : α → List Value) (wf : α → Prop) (hl : ∀ x, (enc x).length = n) (h1 : ∀ x, ∀ v ∈ enc x, v.oneCell' = true) : Rep α where
  n := n
  At _ cs x := cs = enc x ∧ wf x
  len := by rintro w cs x ⟨rfl, _⟩; exact hl x
  keep := by rintro w w' cs x h _; exact h
  one := by rintro w cs x ⟨rfl, _⟩; exact h1 x
end

/-- Numbers. -/
def Rep.int (k : IntKind) : Rep Int := Rep.flat 1 (fun x => [.int k x]) (fun x => (Lit.int k x).wf = true) (fun _ => rfl) (by intro x v hv; cases List.mem_singleton.1 hv; rfl)

section
variable {H : Type} {enc : TypeId × Value → H} {α : Type}
/-- Whatever reads as data of type t is a thing of R. -/
def Opens (t : TypeId) (R : Rep α) : Prop := Try.prog.cellsOf t = R.n ∧ ∀ {H : Type} {enc : TypeId × Value → H} {w : World} {base : Nat} {spare : Nat → Bool} {held : Bool} {m : Nat} {cs : List Value} {y : DataW H × List MemPlace},
  DataW.trod enc Try.prog w base spare held m t cs = some y → ∃ x, R.At w cs x
theorem opens_int {t : TypeId} {k : IntKind} (ht : Try.prog.underlying t = some (.int k)) (hc : Try.prog.cellsOf t = 1) : Opens t (Rep.int k) := ⟨hc, fun h => by
  obtain ⟨n, rfl, _, hw⟩ := DataW.trod_int ht h
  exact ⟨n, rfl, hw⟩⟩
theorem list_of {α : Type} {n : Nat} {p : Nat → α → Prop} (h : ∀ i, i < n → ∃ x, p i x) : ∃ l : List α, l.length = n ∧ ∀ i, (hi : i < l.length) → p i l[i] := by
  induction n with
  | zero => exact ⟨[], rfl, fun i hi => absurd hi (Nat.not_lt_zero i)⟩
  | succ n ih =>
    obtain ⟨l, hl, hp⟩ := ih (fun i hi => h i (Nat.lt_succ_of_lt hi))
    obtain ⟨x, hx⟩ := h n (Nat.lt_succ_self n)
    refine ⟨l ++ [x], by simp [hl], fun i hi => ?_⟩
    by_cases hin : i < l.length
    · rw [List.getElem_append_left hin]; exact hp i hin
    · have : i = l.length := by simp at hi; omega
      subst this
      rw [List.getElem_append_right (Nat.le_refl _)]
      simp only [Nat.sub_self, List.getElem_cons_zero]
      rw [hl]; exact hx
theorem opens_slice {t e : TypeId} {R : Rep α} (ht : Try.prog.underlying t = some (.slice e)) (hc : Try.prog.cellsOf t = 1) (hpos : 0 < Try.prog.cellsOf e) (he : Opens e R) : Opens t R.slice := ⟨hc, fun {H enc w base spare held m cs y} h => by
  rcases open_slice ht h with ⟨rfl, _⟩ | ⟨a, len, cap, m', n, D, Pl, rfl, hb, hl, hm, hmm, _, hx⟩
  · exact ⟨[], _, rfl, Rep.Sl.nil R _⟩
  · have hlm : len ≤ m' := by rw [hmm]; split <;> omega
    obtain ⟨xs, hxl, hxs⟩ := list_of (n := len) (p := fun i x => ∃ cs', w.cells? base (a.add (i * R.n)) R.n = some cs' ∧ R.At w cs' x) (fun i hi => by
      obtain ⟨cs', h1, h2⟩ := hx i (by omega)
      rw [he.1] at h1
      obtain ⟨x, h3⟩ := he.2 h2
      exact ⟨x, cs', h1, h3⟩)
    refine ⟨xs, _, rfl, some a, cap, by rw [hxl], by omega, hm, (fun e => by cases e), fun i hi => ?_⟩
    obtain ⟨cs', h1, h2⟩ := hxs i hi
    obtain ⟨_, hlen, hat⟩ := World.cells?_some h1
    obtain ⟨b, off, spot⟩ := a
    have hcell : ∀ j v, cs'[j]? = some v → w.cell? ((Addr.mk b off spot).add (i * R.n + j)) = some v := fun j v hj => by
      have hjl : j < R.n := by rw [← hlen]; exact (List.getElem?_eq_some_iff.1 hj).1
      have := hat j hjl
      rw [add_add] at this
      rw [this, hj]
    have hspot : spot = none := by
      obtain ⟨cs0, g1, g2⟩ := hxs 0 (by omega)
      obtain ⟨_, hlen0, hat0⟩ := World.cells?_some g1
      have h0 : 0 < R.n := by rw [← he.1]; exact hpos
      have hj : cs0[0]? = some (cs0[0]'(by omega)) := List.getElem?_eq_getElem (by omega)
      have h1 := hat0 0 h0
      rw [hj] at h1
      simpa [Addr.add] using World.cell?_spot h1
    subst hspot
    refine ⟨b, off, cs', rfl, h2, fun j v hj => ?_⟩
    have := hcell j v hj
    have e : (Addr.mk b off none).add (i * R.n + j) = ⟨b, off + i * R.n + j, none⟩ := by
      unfold Addr.add
      split
      · rename_i h; rw [show off + i * R.n + j = off from by omega]
      · rw [Nat.add_assoc]
    rwa [e] at this⟩
/-- An argument opened. -/
theorem opens_arg {t : TypeId} {R : Rep α} (he : Opens t R) (h1 : R.n = 1) {w : World} {base : Nat} {spare : Nat → Bool} {held : Bool} {v : Value} {d : DataW H} {p : List MemPlace} (hv : v.cells.toList = [v])
    (h : DataW.Trod enc Try.prog w base spare held t v d p) : ∃ x, R.At w [v] x := by
  obtain ⟨m, hm⟩ := h
  rw [hv] at hm
  exact he.2 hm
theorem opens_sl {t e : TypeId} {R : Rep α} (ht : Try.prog.underlying t = some (.slice e)) (he : Opens t R.slice) {w : World} {base b0 : Nat} {spare : Nat → Bool} {held : Bool} {v : Value} {d : DataW H} {p : List MemPlace} {r : Reach}
    (hv : Value.okWide Try.prog w r b0 t v) (h : DataW.Trod enc Try.prog w base spare held t v d p) : ∃ xs, R.Sl w v xs := by
  obtain ⟨a, l, c, rfl⟩ := okWide_slice ht hv
  obtain ⟨m, hm⟩ := h
  obtain ⟨xs, v, e, h⟩ := he.2 (by simpa [Value.cells] using hm)
  cases e
  exact ⟨xs, h⟩
/-- A field that is a number. -/
theorem field_int {t : TypeId} {k : IntKind} (ht : Try.prog.underlying t = some (.int k)) (hc : Try.prog.cellsOf t = 1) {w : World} {base : Nat} {spare : Nat → Bool} {held : Bool} {m off : Nat} {cs : List Value} {y : DataW H × List MemPlace}
    (h : DataW.trod enc Try.prog w base spare held m t ((cs.drop off).take (Try.prog.cellsOf t)) = some y) : ∃ n, (cs.drop off).take 1 = [.int k n] ∧ (Lit.int k n).wf = true := by
  rw [hc] at h
  obtain ⟨n, e, _, hw⟩ := DataW.trod_int ht h
  exact ⟨n, e, hw⟩
/-- A field of another type. -/
theorem field_of {t : TypeId} {R : Rep α} (he : Opens t R) {w : World} {base : Nat} {spare : Nat → Bool} {held : Bool} {m off : Nat} {cs : List Value} {y : DataW H × List MemPlace}
    (h : DataW.trod enc Try.prog w base spare held m t ((cs.drop off).take (Try.prog.cellsOf t)) = some y) : ∃ x, R.At w ((cs.drop off).take R.n) x := by
  rw [he.1] at h
  exact he.2 h
end
end Go.Proofs.Ytmjkncmpanhgjaa
