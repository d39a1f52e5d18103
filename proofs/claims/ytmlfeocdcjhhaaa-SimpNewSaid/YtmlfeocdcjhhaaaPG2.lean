import Derived.Test.YtmlfeocdcjhhaaaPG1
import Derived.Lib.BytesEntry
import Derived.Laws.Externs
import Derived.Deep.RegionHeld3
import Derived.Deep.DrawnRows
import Derived.Outline
import Derived.Deep.DeepCutAuto
import Derived.Deep.CutBlock
import Derived.Laws.Rows
import Derived.Laws.Tables
namespace Go.Proofs.Ytmlfeocdcjhhaaa
set_option linter.unusedVariables false
set_option linter.unusedSimpArgs false
set_option maxRecDepth 100000
open Go.RowKit

/-- The numbers xs lie from address a on. -/
def IntsAt (k : IntKind) (w : World) (a : Option Addr) (xs : List Int) : Prop :=
  ∀ i, (h : i < xs.length) → ∃ b off, a = some ⟨b, off, none⟩ ∧ w.cell? ⟨b, off + i, none⟩ = some (.int k xs[i])

theorem IntsAt.nil (k : IntKind) (w : World) (a : Option Addr) : IntsAt k w a [] := fun i h => absurd h (Nat.not_lt_zero i)

theorem IntsAt.below {k : IntKind} {w w' : World} {B : Nat} {a : Option Addr} {xs : List Int} (h : IntsAt k w a xs) (hb : Below B w w') (hB : w.heap.size ≤ B) : IntsAt k w' a xs := by
  intro i hi
  obtain ⟨b, off, rfl, hc⟩ := h i hi
  have hl := World.block_lt_of_cell? w _ hc
  exact ⟨b, off, rfl, (hb.cell (p := ⟨b, off + i, none⟩) (Nat.lt_of_lt_of_le hl hB)).trans hc⟩

theorem IntsAt.drewN {k : IntKind} {w : World} {a : Option Addr} {xs : List Int} (h : IntsAt k w a xs) (n : Nat) : IntsAt k (w.drewN n) a xs := h
/-- v is a row of the call's own (from block B on) that reads as xs. -/
def RowI (B : Nat) (w : World) (v : Value) (xs : List Int) : Prop := w.ownsRow B 2 1 v xs.length (xs.map (Value.int .i64))
theorem RowI.nil (B : Nat) (w : World) : RowI B w (.slice none 0 0) [] := World.ownsRow_nil w B 2 1
/-- Such a row is a slice that reads as xs. -/
theorem RowI.slice {B : Nat} {w : World} {v : Value} {xs : List Int} (h : RowI B w v xs) : ∃ a cap, v = .slice a xs.length cap ∧ xs.length ≤ maxLen ∧ IntsAt .i64 w a xs := by
  obtain ⟨h1, ⟨hv, hn⟩ | ⟨g, cap, cur, hv, hB, hg, hnc, hcm, hcs, ht⟩⟩ := h
  · have hx : xs = [] := List.eq_nil_of_length_eq_zero hn
    subst hx
    exact ⟨none, 0, hv, Nat.zero_le _, IntsAt.nil _ _ _⟩
  · refine ⟨some ⟨g, 0, none⟩, cap, hv, Nat.le_trans hnc hcm, fun i hi => ⟨g, 0, rfl, ?_⟩⟩
    rw [Nat.zero_add, cell_of_row w g i cur 2 (0, 0) hg]
    have : (cur.toList.take (xs.length * 1))[i]? = some (.int .i64 xs[i]) := by rw [ht]; simp [hi]
    rw [List.getElem?_take, if_pos (by omega)] at this
    simpa using this
/-- It came back with a row of its own and a number. -/
def RetRow (B : Nat) (r : List Int × Int) (e : Ending) (w' : World) : Prop := ∃ v, e = .returned (.tuple #[v, .int .i64 r.2]) ∧ RowI B w' v r.1
theorem RowI.kept {B : Nat} {w w' : World} {v : Value} {xs : List Int} {row : Option Nat} (h : RowI B w v xs) (hg : w.grownBy w' row) (hne : v.ownBlock = none ∨ v.ownBlock ≠ row) : RowI B w' v xs := World.ownsRow.kept h hg hne
theorem grownBy_of_below {w w' : World} (h : Below w.heap.size w w') : w.grownBy w' none := ⟨h.os, h.tape, h.output, h.size, fun k hk _ => h.block k hk⟩
theorem RowI.below {B : Nat} {w w' : World} {v : Value} {xs : List Int} (h : RowI B w v xs) (hb : Below w.heap.size w w') : RowI B w' v xs :=
  h.kept (grownBy_of_below hb) (by cases v.ownBlock <;> simp)
theorem Try.info2 : (Try.prog.info? 2).map (fun i => (i.zero, i.size, i.bytes)) = some (some (.int .i64 0), 1, 8) := by kernel_rfl

/-- The builtin copy into a row that is known whole: what it leaves, and that no other block has turned. -/
theorem wpList_copy_grown {P : Program} {w : World} {ops : Array Oper} {rest : List Oper} {o : Oper} {a : Act} {Q : Exit → Act → World → Prop} (hgd : o.guard = none) (d s : Operand) (dT sT : TypeId)
    (ho : o.op = .call { callee := .builtin .copy, args := #[d, s], argTypes := #[dT, sT] }) (elem : TypeId) (hu : P.underlying dT = some (.slice elem)) (hsz : (P.info? elem).map (·.size) = some 1)
    (dp sp : Option Addr) (dLen dCap sLen sCap : Nat) (hd : a.eval d = .slice dp dLen dCap) (hs : a.eval s = .slice sp sLen sCap)
    (g off : Nat) (cur : List Value) (t : TypeId) (hg : w.heap[g]? = some (.cells cur.toArray t (0, 0))) (cs : List Value) (hn : cs.length = Nat.min sLen dLen)
    (hpos : 0 < cs.length → dp = some ⟨g, off, none⟩ ∧ ∃ ad, sp = some ad ∧ ∀ j v, cs[j]? = some v → w.cell? (ad.add j) = some v)
    (hfit : off + cs.length ≤ cur.length) (h1 : ∀ v ∈ cs, v.oneCell' = true)
    (h : ∀ w', Hid (w'.heap[g]? = some (.cells (splice cur off cs).toArray t (0, 0))) → w.grownBy w' (some g) → wpList P ops Q rest (a.put o.dst (goInt cs.length)) w') :
    wpList P ops Q (o :: rest) a w := by
  by_cases h0 : cs.length = 0
  · obtain rfl : cs = [] := List.eq_nil_of_length_eq_zero h0
    refine wpList_copy_nothing hgd d s dT sT ho elem hu hsz dp sp dLen dCap sLen sCap hd hs (by simpa using hn.symm) ?_
    exact h w (show _ = _ by simpa [splice] using hg) ⟨rfl, rfl, rfl, Nat.le_refl _, fun _ _ _ => rfl⟩
  · obtain ⟨rfl, ad, rfl, hsrc⟩ := hpos (by omega)
    refine wpList_copy_own hgd d s dT sT ho elem hu hsz g off dLen dCap ad sLen sCap hd hs cur.toArray t hg cs hn hsrc (by simpa using hfit) h1 ?_
    exact h _ (show _ = _ by simpa [splice] using setRow_heap w g _ _ t _ hg) ⟨rfl, rfl, rfl, by simp [World.setRow], fun k _ hk => setRow_other w g k _ (fun e => hk (by rw [e]))⟩

theorem splice_all {α : Type} (L cs : List α) (h : cs.length = L.length) : splice L 0 cs = cs := by
  unfold splice; rw [List.take_zero, List.nil_append, Nat.zero_add, List.drop_of_length_le (by omega), List.append_nil]

/-- What lies from an address on is the cells of a slice that reads as xs. -/
theorem IntsAt.src {k : IntKind} {w : World} {a : Option Addr} {xs : List Int} (h : IntsAt k w a xs) (h0 : 0 < xs.length) : ∃ ad, a = some ad ∧ ∀ j v, (xs.map (Value.int k))[j]? = some v → w.cell? (ad.add j) = some v := by
  obtain ⟨b, off, rfl, _⟩ := h 0 h0
  refine ⟨_, rfl, fun j v hv => ?_⟩
  have hj : j < xs.length := by
    by_cases hj : j < xs.length
    · exact hj
    · rw [List.getElem?_eq_none (by simpa using hj)] at hv; cases hv
  obtain ⟨b', off', e, hc⟩ := h j hj
  cases e
  rw [List.getElem?_map, List.getElem?_eq_getElem hj] at hv
  cases hv
  have : (⟨b, off, none⟩ : Addr).add j = ⟨b, off + j, none⟩ := by unfold Addr.add; split <;> simp_all
  rw [this]; exact hc
theorem oneCell_ints (k : IntKind) (xs : List Int) : ∀ v ∈ xs.map (Value.int k), v.oneCell' = true := by
  intro v hv; obtain ⟨x, _, rfl⟩ := List.mem_map.1 hv; rfl

/-- The address of a cut x[l:..] of a slice of capacity m. -/
def subA (a : Option Addr) (m l : Nat) : Option Addr := if m = l then a else a.map (·.add l)
theorem IntsAt.cut {k : IntKind} {w : World} {a : Option Addr} {xs : List Int} (h : IntsAt k w a xs) {m l n : Nat} (hm : xs.length ≤ m) : IntsAt k w (subA a m l) ((xs.drop l).take n) := by
  intro i hi
  rw [List.length_take, List.length_drop] at hi
  obtain ⟨b, off, rfl, hc⟩ := h (l + i) (by omega)
  refine ⟨b, off + l, ?_, ?_⟩
  · unfold subA
    rw [if_neg (by omega)]
    simp only [Option.map_some, Addr.add]
    split <;> simp_all
  · rw [List.getElem_take, List.getElem_drop, Nat.add_assoc]; exact hc
theorem sized2 (w : World) : (sizeOf (Try.prog.elem 50)).run Try.prog w = .ok 1 w := by kernel_rfl
theorem sliced_subA (a : Option Addr) (l h m : Nat) : sliced a l h m 1 = .slice (subA a m l) (h - l) (m - l) := by unfold sliced subA; rw [Nat.mul_one]
/-- x[l:h] of a []int64 -/
theorem slice_lh (w : World) (a : Option Addr) (len cap : Nat) (kl kh : IntKind) (l h : Int) (h0 : 0 ≤ l) (h1 : l ≤ h) (h2 : h ≤ cap) :
    (Instr.sliceAt 50 (.slice a len cap) (some (.int kl l)) (some (.int kh h)) none).run Try.prog w = .ok (.slice (subA a cap l.toNat) (h.toNat - l.toNat) (cap - l.toNat)) w := by
  rw [run_sliceAt_slice w 50 _ _ _ _ Try.underlying50, run_slice_lh w 50 a len cap Try.underlying50 kl kh l h h0 h1 h2, sized2]
  simp only [Result.andThen, sliced_subA]
/-- x[l:] of a []int64 -/
theorem slice_lo (w : World) (a : Option Addr) (len cap : Nat) (kl : IntKind) (l : Int) (h0 : 0 ≤ l) (h1 : l ≤ len) :
    (Instr.sliceAt 50 (.slice a len cap) (some (.int kl l)) none none).run Try.prog w = .ok (.slice (subA a cap l.toNat) (len - l.toNat) (cap - l.toNat)) w := by
  rw [run_sliceAt_slice w 50 _ _ _ _ Try.underlying50, run_slice_l w 50 a len cap Try.underlying50 kl l h0 h1, sized2]
  simp only [Result.andThen, sliced_subA]
/-- x[:h] of a []int64 -/
theorem slice_hi (w : World) (a : Option Addr) (len cap : Nat) (kh : IntKind) (h : Int) (h0 : 0 ≤ h) (h2 : h ≤ cap) :
    (Instr.sliceAt 50 (.slice a len cap) none (some (.int kh h)) none).run Try.prog w = .ok (.slice (subA a cap 0) h.toNat cap) w := by
  rw [run_sliceAt_slice w 50 _ _ _ _ Try.underlying50, run_slice_h w 50 a len cap Try.underlying50 kh h h0 h2, sized2]
  simp only [Result.andThen, sliced_subA, Nat.sub_zero]
/-- rows that share no block -/
def Apart (v u : Value) : Prop := v.ownBlock = none ∨ v.ownBlock ≠ u.ownBlock
/-- It came back with an array in memory of its own, and a number. -/
def RetArr (B : Nat) (r : (List Int × List Int) × Int) (e : Ending) (w' : World) : Prop :=
  ∃ v u, e = .returned (.tuple #[.agg #[v, u], .int .i64 r.2]) ∧ RowI B w' v r.1.1 ∧ RowI B w' u r.1.2 ∧ Apart v u

theorem IntsAt.lit (k : IntKind) (W : World) (t : TypeId) (xs : List Int) : IntsAt k (W.alloc (.cells (xs.map (Value.int k)).toArray t)) (some ⟨W.heap.size, 0, none⟩) xs := by
  intro i hi
  refine ⟨W.heap.size, 0, rfl, ?_⟩
  rw [Nat.zero_add, cell_of_row _ W.heap.size i _ t (0, 0) (World.alloc_heap_new W _)]
  simp [hi]
theorem IntsAt.lit2 (k : IntKind) (W : World) (o : Obj) (t : TypeId) (xs : List Int) : IntsAt k ((W.alloc o).alloc (.cells (xs.map (Value.int k)).toArray t)) (some ⟨W.heap.size + 1, 0, none⟩) xs := by
  have := IntsAt.lit k (W.alloc o) t xs
  rwa [World.size_alloc] at this
theorem IntsAt.lit1 (k : IntKind) (W : World) (o : Obj) (t : TypeId) (xs : List Int) : IntsAt k ((W.alloc (.cells (xs.map (Value.int k)).toArray t)).alloc o) (some ⟨W.heap.size, 0, none⟩) xs :=
  (IntsAt.lit k W t xs).below ((Below.refl _ _).alloc (Nat.le_refl _) o) (Nat.le_refl _)
end Go.Proofs.Ytmlfeocdcjhhaaa

namespace Go.Proofs.Ytmlfeocdcjhhaaa
set_option maxRecDepth 100000
open Go.RowKit Go.ChangeShapes Go.WideShapes Go.Deep
set_option linter.unusedVariables false
set_option linter.unusedSimpArgs false

/-! Monomials, and lists of them, in plain lists and in memory. -/
structure Mono where
  n : Int
  e0 : Int
  e1 : Int
  e2 : Int
  e3 : Int
  e4 : Int
  e5 : Int
def Mono.E (m : Mono) : List Int := [m.e0, m.e1, m.e2, m.e3, m.e4, m.e5]
def Mono.enc (m : Mono) : List Value := [.int .i64 m.n, .int .u8 m.e0, .int .u8 m.e1, .int .u8 m.e2, .int .u8 m.e3, .int .u8 m.e4, .int .u8 m.e5]
def Mono.V (m : Mono) : Value := .agg #[.int .i64 m.n, .int .u8 m.e0, .int .u8 m.e1, .int .u8 m.e2, .int .u8 m.e3, .int .u8 m.e4, .int .u8 m.e5]
structure Mono.wf (m : Mono) : Prop where
  n : -9223372036854775808 ≤ m.n ∧ m.n ≤ 9223372036854775807
  e0 : 0 ≤ m.e0 ∧ m.e0 ≤ 255
  e1 : 0 ≤ m.e1 ∧ m.e1 ≤ 255
  e2 : 0 ≤ m.e2 ∧ m.e2 ≤ 255
  e3 : 0 ≤ m.e3 ∧ m.e3 ≤ 255
  e4 : 0 ≤ m.e4 ∧ m.e4 ≤ 255
  e5 : 0 ≤ m.e5 ∧ m.e5 ≤ 255
def monoRep : Rep Mono := Rep.flat 7 Mono.enc Mono.wf (fun _ => rfl) (by intro x v hv; simp [Mono.enc] at hv; rcases hv with rfl | rfl | rfl | rfl | rfl | rfl | rfl <;> rfl)
theorem one_at {cs : List Value} {k : Nat} {x : Value} (h : (cs.drop k).take 1 = [x]) : cs[k]? = some x := by
  have := congrArg (·[0]?) h
  simpa [List.getElem?_take, List.getElem?_drop] using this
theorem opens_mono : Opens 47 monoRep := ⟨by kernel_rfl, fun {H enc w base spare held m cs y} h => by
  obtain ⟨ys, n, _, _, hlen, hyl, hf⟩ := DataW.trod_struct Try.underlying47 h
  have hl : cs.length = 7 := hlen.trans (by kernel_rfl)
  obtain ⟨x0, e0, w0⟩ := field_int Try.underlying2 (by kernel_rfl) ((hf 0 _ rfl).trans (List.getElem?_eq_getElem (by rw [hyl]; decide)))
  have g0 : cs[0]? = some (.int .i64 x0) := one_at e0
  have h1 : DataW.trod enc Try.prog w base spare held n 45 ((cs.drop 1).take (Try.prog.cellsOf 45)) = some (ys[1]'(by rw [hyl]; decide)) := (hf 1 _ rfl).trans (List.getElem?_eq_getElem (by rw [hyl]; decide))
  obtain ⟨zs, k, _, _, _, hzl, hz⟩ := DataW.trod_array Try.underlying45 h1
  rw [show Try.prog.cellsOf 45 = 6 from by kernel_rfl, show Try.prog.cellsOf 5 = 1 from by kernel_rfl] at hz
  have hget : ∀ i, i < 6 → ∃ x, cs[1 + i]? = some (.int .u8 x) ∧ 0 ≤ x ∧ x ≤ 255 := fun i hi => by
    have h1 := (hz i hi).trans (List.getElem?_eq_getElem (by rw [hzl]; exact hi))
    obtain ⟨x, e, _, hw⟩ := DataW.trod_int Try.underlying5 h1
    refine ⟨x, ?_, bounds_u8 hw⟩
    have := one_at (k := i) (cs := (cs.drop 1).take 6) (by simpa using e)
    rw [List.getElem?_take, if_pos hi, List.getElem?_drop] at this
    exact this
  obtain ⟨y0, f0, b0⟩ := hget 0 (by decide)
  obtain ⟨y1, f1, b1⟩ := hget 1 (by decide)
  obtain ⟨y2, f2, b2⟩ := hget 2 (by decide)
  obtain ⟨y3, f3, b3⟩ := hget 3 (by decide)
  obtain ⟨y4, f4, b4⟩ := hget 4 (by decide)
  obtain ⟨y5, f5, b5⟩ := hget 5 (by decide)
  match cs, hl, g0, f0, f1, f2, f3, f4, f5 with
  | [c0, c1, c2, c3, c4, c5, c6], _, g0, f0, f1, f2, f3, f4, f5 =>
    simp at g0 f0 f1 f2 f3 f4 f5
    subst g0; subst f0; subst f1; subst f2; subst f3; subst f4; subst f5
    exact ⟨⟨x0, y0, y1, y2, y3, y4, y5⟩, rfl, bounds_i64 w0, b0, b1, b2, b3, b4, b5⟩⟩
/-- a polynomial: a list of monomials -/
abbrev polyRep : Rep (List Mono) := monoRep.slice
theorem opens_poly : Opens 38 polyRep := opens_slice Try.underlying38 (by kernel_rfl) (by rw [show Try.prog.cellsOf 47 = 7 from by kernel_rfl]; decide) opens_mono
theorem opens_polys : Opens 39 polyRep.slice := opens_slice Try.underlying39 (by kernel_rfl) (by rw [show Try.prog.cellsOf 38 = 1 from by kernel_rfl]; decide) opens_poly
theorem els_mono {w : World} {a : Option Addr} {xs : List Mono} (h : monoRep.Els w a xs) {k : Nat} (hk : k < xs.length) : ∃ b off, a = some ⟨b, off, none⟩ ∧ xs[k].wf ∧
    w.cell? ⟨b, off + k * 7, none⟩ = some (.int .i64 xs[k].n) ∧ w.cell? ⟨b, off + k * 7 + 1, none⟩ = some (.int .u8 xs[k].e0) ∧ w.cell? ⟨b, off + k * 7 + 2, none⟩ = some (.int .u8 xs[k].e1) ∧
    w.cell? ⟨b, off + k * 7 + 3, none⟩ = some (.int .u8 xs[k].e2) ∧ w.cell? ⟨b, off + k * 7 + 4, none⟩ = some (.int .u8 xs[k].e3) ∧ w.cell? ⟨b, off + k * 7 + 5, none⟩ = some (.int .u8 xs[k].e4) ∧
    w.cell? ⟨b, off + k * 7 + 6, none⟩ = some (.int .u8 xs[k].e5) := by
  obtain ⟨b, off, cs, e, ⟨rfl, hw⟩, hc⟩ := h k hk
  exact ⟨b, off, e, hw, hc 0 _ rfl, hc 1 _ rfl, hc 2 _ rfl, hc 3 _ rfl, hc 4 _ rfl, hc 5 _ rfl, hc 6 _ rfl⟩
theorem wf_mono {w : World} {a : Option Addr} {xs : List Mono} (h : monoRep.Els w a xs) : ∀ m ∈ xs, m.wf := fun m hm => by
  obtain ⟨k, hk, rfl⟩ := List.getElem_of_mem hm
  obtain ⟨_, _, _, hw, _⟩ := els_mono h hk
  exact hw
/-- one of a list of lists -/
theorem els_list {α : Type} {R : Rep α} {w : World} {a : Option Addr} {xs : List (List α)} (h : R.slice.Els w a xs) {k : Nat} (hk : k < xs.length) : ∃ b off v, a = some ⟨b, off, none⟩ ∧ w.cell? ⟨b, off + k, none⟩ = some v ∧ R.Sl w v xs[k] := by
  obtain ⟨b, off, cs, e, ⟨v, rfl, hv⟩, hc⟩ := h k hk
  have := hc 0 v rfl
  refine ⟨b, off, v, e, ?_, hv⟩
  simpa [Rep.slice] using this
theorem Rep.Sl.form {α : Type} {R : Rep α} {w : World} {v : Value} {xs : List α} (h : R.Sl w v xs) : ∃ a c, v = .slice a xs.length c ∧ xs.length ≤ 9223372036854775807 ∧ R.Els w a xs := by
  obtain ⟨a, c, e, h1, h2, _, h4⟩ := h
  unfold maxLen at h2
  exact ⟨a, c, e, by omega, h4⟩
end Go.Proofs.Ytmlfeocdcjhhaaa

namespace Go.Proofs.Ytmlfeocdcjhhaaa
set_option maxRecDepth 100000
open Go.RowKit
set_option linter.unusedVariables false
set_option linter.unusedSimpArgs false

/-- 1: the first stands ahead by its first greater number; -1: behind; 0: they are the same -/
def cmpI : List Int → List Int → Int
  | [], [] => 0
  | [], _ :: _ => -1
  | _ :: _, [] => 1
  | a :: xs, b :: ys => if a < b then -1 else if b < a then 1 else cmpI xs ys
theorem u8_lt {a b : Int} (ha : 0 ≤ a ∧ a ≤ 255) (hb : 0 ≤ b ∧ b ≤ 255) : (a.toNat.toUInt8 < b.toNat.toUInt8) = (a < b) := by
  obtain ⟨x, rfl⟩ := Int.eq_ofNat_of_zero_le ha.1
  obtain ⟨y, rfl⟩ := Int.eq_ofNat_of_zero_le hb.1
  rw [UInt8.lt_iff_toNat_lt]
  simp
  omega
theorem cmp_bytes : ∀ (xs ys : List Int), (∀ x ∈ xs, 0 ≤ x ∧ x ≤ 255) → (∀ y ∈ ys, 0 ≤ y ∧ y ≤ 255) → Lib.compareBytes (Lib.bytesOf xs) (Lib.bytesOf ys) = cmpI xs ys
  | [], [], _, _ => rfl
  | [], _ :: _, _, _ => rfl
  | _ :: _, [], _, _ => rfl
  | a :: xs, b :: ys, ha, hb => by
    have ih := cmp_bytes xs ys (fun x hx => ha x (List.mem_cons_of_mem _ hx)) (fun x hx => hb x (List.mem_cons_of_mem _ hx))
    have h0 := ha a (List.mem_cons_self ..)
    have h1 := hb b (List.mem_cons_self ..)
    show Lib.compareBytes (a.toNat.toUInt8 :: Lib.bytesOf xs) (b.toNat.toUInt8 :: Lib.bytesOf ys) = _
    unfold Lib.compareBytes cmpI
    rw [ih]
    simp only [u8_lt h0 h1, u8_lt h1 h0]
theorem cmpI_range : ∀ (xs ys : List Int), -1 ≤ cmpI xs ys ∧ cmpI xs ys ≤ 1
  | [], [] => by simp [cmpI]
  | [], _ :: _ => by simp [cmpI]
  | _ :: _, [] => by simp [cmpI]
  | a :: xs, b :: ys => by
    have ih := cmpI_range xs ys
    unfold cmpI
    split
    · omega
    · split
      · omega
      · exact ih
theorem cmpI_swap : ∀ (xs ys : List Int), cmpI xs ys = - cmpI ys xs
  | [], [] => rfl
  | [], _ :: _ => rfl
  | _ :: _, [] => rfl
  | a :: xs, b :: ys => by
    have ih := cmpI_swap xs ys
    unfold cmpI
    by_cases h1 : a < b
    · have h2 : ¬ b < a := by omega
      simp [h1, h2]
    · by_cases h2 : b < a
      · simp [h1, h2]
      · simp only [h1, h2, if_false]
        exact ih
/-- the entry of the library that compares bytes -/
theorem run_cmp {P : Program} (W : World) (b off n c b' off' n' c' : Nat) (xs ys : List Int) (hx : xs.length = n) (hy : ys.length = n') (hcx : ∀ j x, xs[j]? = some x → W.cell? ⟨b, off + j, none⟩ = some (.int .u8 x)) (hcy : ∀ j x, ys[j]? = some x → W.cell? ⟨b', off' + j, none⟩ = some (.int .u8 x))
    (wx : ∀ x ∈ xs, 0 ≤ x ∧ x ≤ 255) (wy : ∀ x ∈ ys, 0 ≤ x ∧ x ≤ 255) :
    (Extern.BytealgCompare.compare #[.slice (some ⟨b, off, none⟩) n c, .slice (some ⟨b', off', none⟩) n' c']).run P W = .ok (.int .i64 (cmpI xs ys)) W := by
  have adr : ∀ (b off j : Nat), (⟨b, off, none⟩ : Addr).add j = ⟨b, off + j, none⟩ := fun b off j => by unfold Addr.add; split <;> simp_all
  have hl := Lib.run_loadBytesX (P := P) W xs ⟨b, off, none⟩ .empty (fun j x hj => by rw [adr]; exact hcx j x hj)
  have hr := Lib.run_loadBytesX (P := P) W ys ⟨b', off', none⟩ .empty (fun j x hj => by rw [adr]; exact hcy j x hj)
  rw [hx] at hl
  rw [hy] at hr
  have he : ∀ zs, (⟨ByteArray.empty.data ++ (Lib.bytesOf zs).toArray⟩ : ByteArray) = ⟨(Lib.bytesOf zs).toArray⟩ := fun zs => by
    apply ByteArray.ext
    show (#[] : Array UInt8) ++ (Lib.bytesOf zs).toArray = (Lib.bytesOf zs).toArray
    simp
  rw [he] at hl hr
  change Sem.run P (do pure (goInt (Extern.BytealgCompare.cmp (← Extern.Bytes.bytesOf (.slice (some ⟨b, off, none⟩) n c)) (← Extern.Bytes.bytesOf (.slice (some ⟨b', off', none⟩) n' c'))))) W = _
  simp only [Extern.Bytes.bytesOf, Sem.run_bind, Sem.run_pure, hl, hr, Result.andThen]
  rw [Lib.cmp_eq]
  show Result.ok (Value.int .i64 (Lib.compareBytes (Lib.bytesOf xs) (Lib.bytesOf ys))) W = _
  rw [cmp_bytes xs ys wx wy]
theorem compare_any (W : World) (b off n c b' off' n' c' : Nat) (xs ys : List Int) (hx : xs.length = n) (hy : ys.length = n') (hcx : ∀ j x, xs[j]? = some x → W.cell? ⟨b, off + j, none⟩ = some (.int .u8 x)) (hcy : ∀ j x, ys[j]? = some x → W.cell? ⟨b', off' + j, none⟩ = some (.int .u8 x))
    (wx : ∀ x ∈ xs, 0 ≤ x ∧ x ≤ 255) (wy : ∀ x ∈ ys, 0 ≤ x ∧ x ≤ 255) :
    Calls Try.prog 90 #[.slice (some ⟨b, off, none⟩) n c, .slice (some ⟨b', off', none⟩) n' c'] W fun e w' => e = .returned (.int .i64 (cmpI xs ys)) ∧ ∃ k, w' = W.drewN k := by
  have hq := Lib.hid (run_cmp (P := Try.prog) W b off n c b' off' n' c' xs ys hx hy hcx hcy wx wy)
  clear hcx hcy wx wy hx hy
  go_enter Try.func90, Try.ntmps90
  go_wp2
  rw [run_callFunc_extern Try.func130 (by kernel_rfl) (by kernel_rfl) (by kernel_rfl) (e := Extern.BytealgCompare.compare) (by kernel_rfl), hq.out]
  simp only [Result.andThen]
  rw [Oper.upon_value]
  go_wp2
  go_ret
  exact ⟨rfl, 0, rfl⟩

def degF (m : Mono) : Int := m.e0 + m.e1 + m.e2 + m.e3 + m.e4 + m.e5
def smallB (m : Mono) : Bool := m.n != 0 && decide (m.n ≤ 16777216) && decide (-16777216 ≤ m.n) && decide (degF m ≤ 8)
/-- the sum of the first k exponents -/
def degK (m : Mono) : Nat → Int
  | 0 => 0
  | 1 => m.e0
  | 2 => m.e0 + m.e1
  | 3 => m.e0 + m.e1 + m.e2
  | 4 => m.e0 + m.e1 + m.e2 + m.e3
  | 5 => m.e0 + m.e1 + m.e2 + m.e3 + m.e4
  | _ => degF m
theorem mono_E {m : Mono} (h : m.wf) : ∀ x ∈ m.E, 0 ≤ x ∧ x ≤ 255 := by
  intro x hx
  simp [Mono.E] at hx
  rcases hx with rfl | rfl | rfl | rfl | rfl | rfl
  · exact h.e0
  · exact h.e1
  · exact h.e2
  · exact h.e3
  · exact h.e4
  · exact h.e5
end Go.Proofs.Ytmlfeocdcjhhaaa
