import Derived.Test.YtokghjnkfabgiaaGreatDoorTD22
import Derived.Test.YtokghjnkfabgiaaGreatDoorTD40
import Derived.Test.YtokghjnkfabgiaaGreatDoorTD17
set_option linter.unusedVariables false
set_option linter.unusedSimpArgs false
set_option maxRecDepth 100000
namespace Go.Proofs.YtokghjnkfabgiaaGreatDoor
open Go.RowKit Go.Lib
attribute [local go_sem] str_size str_get str_toList
attribute [local go_sem high] run_str_add

theorem post_in {V : Voc} : ∀ (e : Ex), e.fine V (fun n => in64B n = true) → ∀ i ∈ e.post, ∀ n ∈ i.nums, in64B n = true
 | .num l, h, i, hi, n, hn => by
  rw [Ex.post] at hi
  rw [List.mem_singleton.1 hi] at hn
  exact h.2 n hn
 | .nam s, h, i, hi, n, hn => by
  rw [Ex.post] at hi
  rw [List.mem_singleton.1 hi] at hn
  cases hn
 | .mon v e, h, i, hi, n, hn => by
  rw [Ex.post] at hi
  rcases List.mem_append.1 hi with hi | hi
  ·exact post_in e h.2 i hi n hn
  ·rw [List.mem_singleton.1 hi, h.1.2.1] at hn
   cases hn
 | .dy v a b, h, i, hi, n, hn => by
  rw [Ex.post] at hi
  rcases List.mem_append.1 hi with hi | hi
  ·rcases List.mem_append.1 hi with hi | hi
   ·exact post_in a h.2.1 i hi n hn
   ·exact post_in b h.2.2 i hi n hn
  ·rw [List.mem_singleton.1 hi, h.1.2.1] at hn
   cases hn
theorem parsed_right {toks : List (Tk × Nat)} {s : Str} {p : PrgP} (hx : lexP s = some toks) (hp : parseP VV (bare toks) = some p) : RightP VV p := by
 have hr : ∀ x ∈ bare toks, RightT x := by
  unfold lexP at hx
  split at hx
  ·cases hx
  ·intro x hm
   obtain ⟨y, hy, rfl⟩ := List.mem_map.1 hm
   exact lex_right _ _ _ _ hx y hy
 refine parse_right KK.none _ _ ⟨[], []⟩ p 0 hp hr (.inl ⟨fun x h => (by cases h), fun x h => (by cases h), rfl, by omega⟩)
theorem parsed_facts {p : PrgP} (h : RightP VV p) : InN p ∧ (p.inputs.length ≤ 64 ∧ p.lines.length ≤ 64) ∧ (∀ x ∈ p.inputs, x.sides.length ≤ 4) ∧ ∀ x ∈ p.lines, x.items.length ≤ 256 := by
 obtain ⟨T, rfl, hT⟩ := right_tree h
 have hle := hT.le
 have hlines : ∀ x ∈ T.post.lines, ∃ e : Ex, x.items = e.post ∧ e.fine VV (fun n => in64B n = true) ∧ e.len ≤ 255 := by
  intro x hx
  rw [show T.post.lines = T.lines.map linOf ++ [⟨[], T.out.post⟩] from rfl] at hx
  rcases List.mem_append.1 hx with hx | hx
  ·obtain ⟨y, hy, rfl⟩ := List.mem_map.1 hx
   obtain ⟨-, h1, h2, -⟩ := hT.lines y hy
   exact ⟨y.2, rfl, h1, by omega⟩
  ·rw [List.mem_singleton.1 hx]
   obtain ⟨h1, h2, -⟩ := hT.out
   exact ⟨T.out, rfl, h1, h2⟩
 refine ⟨⟨?_, ?_⟩, ⟨?_, ?_⟩, ?_, ?_⟩
 ·intro x hx d hd
  obtain ⟨-, -, hs⟩ := hT.inputs x hx
  rcases hs d hd with ⟨_, h⟩ | ⟨_, h⟩
  ·exact h
  ·rw [h]; decide
 ·intro x hx i hi n hn
  obtain ⟨e, he, hf, -⟩ := hlines x hx
  rw [he] at hi
  exact post_in e hf i hi n hn
 ·show T.inputs.length ≤ 64; omega
 ·rw [show T.post.lines = T.lines.map linOf ++ [⟨[], T.out.post⟩] from rfl]; simp; omega
 ·intro x hx
  exact (hT.inputs x hx).2.1
 ·intro x hx
  obtain ⟨e, he, hf, hl⟩ := hlines x hx
  rw [he]
  have := post_len e hf
  omega
end Go.Proofs.YtokghjnkfabgiaaGreatDoor

namespace Go.Proofs.YtokghjnkfabgiaaGreatDoor
open Go.RowKit Go.Lib
attribute [local go_sem] str_size str_get str_toList
attribute [local go_sem high] run_str_add

structure BxI (w : World) (y5 y6 : Nat) (iv lv : Value) (fa fx : Int) (W : World) : Prop where
 below : Below w.heap.size w W
 b5 : W.heap[y5]? = some (.cells #[iv, lv] 25 (0, 0))
 b6 : W.heap[y6]? = some (.cells #[.int .i64 fa, .int .i64 fx] 28 (0, 0))
theorem BxI.next {w W W' : World} {y5 y6 : Nat} {iv lv : Value} {fa fx : Int} (h : BxI w y5 y6 iv lv fa fx W) (hb : Below W.heap.size W W') : BxI w y5 y6 iv lv fa fx W' :=
 ⟨h.below.trans (hb.mono h.below.size), block_below h.b5 hb, block_below h.b6 hb⟩
theorem BxI.turn {w W : World} {y5 y6 : Nat} {iv lv iv' lv' : Value} {fa fx fa' fx' : Int} (h : BxI w y5 y6 iv lv fa fx W) (h5 : w.heap.size ≤ y5) (h6 : w.heap.size ≤ y6) (hne : y5 ≠ y6) : ∀ X, X = ((((W.setCell ⟨y5, 0, none⟩ iv').setCell ⟨y5, 1, none⟩ lv').setCell ⟨y6, 0, none⟩ (.int .i64 fa')).setCell ⟨y6, 1, none⟩ (.int .i64 fx')) →
  BxI w y5 y6 iv' lv' fa' fx' X ∧ ∀ u, u ≠ 25 → u ≠ 28 → KeepTy u W X := by
 have p0 := set_block (k := 0) (v := iv') h.b5
 have p1 := set_block (k := 1) (v := lv') p0
 have q0 := block_other (p := ⟨y5, 1, none⟩) (block_other (p := ⟨y5, 0, none⟩) h.b6 hne iv') hne lv'
 have q1 := set_block (k := 0) (v := .int .i64 fa') q0
 have q2 := set_block (k := 1) (v := .int .i64 fx') q1
 have p2 := block_other (p := ⟨y6, 1, none⟩) (block_other (p := ⟨y6, 0, none⟩) p1 (Ne.symm hne) (.int .i64 fa')) (Ne.symm hne) (.int .i64 fx')
 rintro _ rfl
 refine ⟨⟨(((h.below.setCell (p := ⟨y5, 0, none⟩) h5 _).setCell (p := ⟨y5, 1, none⟩) h5 _).setCell (p := ⟨y6, 0, none⟩) h6 _).setCell (p := ⟨y6, 1, none⟩) h6 _, p2, q2⟩, fun u h1 h2 => ?_⟩
 exact (((KeepTy.setCell (p := ⟨y5, 0, none⟩) (NotTy.of h.b5 (Ne.symm h1)) _).trans (KeepTy.setCell (p := ⟨y5, 1, none⟩) (NotTy.of p0 (Ne.symm h1)) _)).trans (KeepTy.setCell (p := ⟨y6, 0, none⟩) (NotTy.of q0 (Ne.symm h2)) _)).trans (KeepTy.setCell (p := ⟨y6, 1, none⟩) (NotTy.of q1 (Ne.symm h2)) _)
end Go.Proofs.YtokghjnkfabgiaaGreatDoor
