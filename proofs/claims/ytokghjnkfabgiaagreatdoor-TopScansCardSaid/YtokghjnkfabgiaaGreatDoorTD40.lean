import Derived.Test.YtokghjnkfabgiaaGreatDoorTD39
set_option linter.unusedVariables false
set_option linter.unusedSimpArgs false
set_option maxRecDepth 100000
namespace Go.Proofs.YtokghjnkfabgiaaGreatDoor
open Go.RowKit Go.Lib
attribute [local go_sem] str_size str_get str_toList field_tok0 field_tok2 field_tok3

theorem into_len {V : Voc} {p p' : PrgP} {n : Nat} {over : Bool} {t : Tk} {r : List Tk} (h : intoQ V p n over t r = some p') : n ≠ 64 ∧ p'.inputs.length + p'.lines.length = p.inputs.length + p.lines.length + 1 := by
 unfold intoQ at h
 split at h
 ·cases h
 ·rename_i h64
  refine ⟨h64, ?_⟩
  split at h
  ·cases h
  split at h
  ·cases h
  split at h
  ·cases hx : inputP V r with
   | none => rw [hx] at h; cases h
   | some x => rw [hx] at h; cases h; simp; omega
  split at h
  ·cases h
  split at h
  ·cases hx : exprP V r with
   | none => rw [hx] at h; cases h
   | some x => rw [hx] at h; cases h; simp; omega
  split at h
  ·cases h
  ·cases hx : exprP V r.tail with
   | none => rw [hx] at h; cases h
   | some x => rw [hx] at h; cases h; simp; omega
structure TokS (M : Nat) (w : World) (v : Value) (rest : List (Tk × Nat)) : Prop where
 len : ∃ a c, v = .slice a rest.length c
 right : ∀ p ∈ rest, RightT p.1
 small : rest.length ≤ 65536
 row : rest = [] ∨ ∃ g k cap full, rest = full.drop k ∧ k < full.length ∧ v = .slice (some ⟨g, k * 4, none⟩) rest.length (cap - k) ∧ RowG tokR M 39 w (.slice (some ⟨g, 0, none⟩) full.length cap) full ∧ full.length ≤ cap ∧ cap ≤ maxLen
theorem TokS.keep {M : Nat} {w w' : World} {v : Value} {rest : List (Tk × Nat)} (h : TokS M w v rest) (hk : KeepTy 39 w w') : TokS M w' v rest := by
 refine ⟨h.len, h.right, h.small, ?_⟩
 rcases h.row with h | ⟨g, k, cap, full, h1, h2, h3, h4, h5⟩
 ·exact .inl h
 ·exact .inr ⟨g, k, cap, full, h1, h2, h3, h4.same (w' := w') (fun _ _ h => h) hk, h5⟩
theorem row_els {M g cap : Nat} {w : World} {full : List (Tk × Nat)} (h : RowG tokR M 39 w (.slice (some ⟨g, 0, none⟩) full.length cap) full) (i : Nat) (hi : i < full.length) : ∀ j v, [Value.int .i64 full[i].1.kind, .int .i64 (full[i].2 : Int), .string (str full[i].1.word), .int .i64 full[i].1.n][j]? = some v → w.cell? ⟨g, i * 4 + j, none⟩ = some v := by
 obtain ⟨a, c, e, h1, h2, h3, hx⟩ := h.sl
 cases e
 obtain ⟨b, off, cs, e2, ⟨hcs, _⟩, hc⟩ := hx i hi
 cases e2
 intro j v hj
 have := hc j v (by rw [hcs]; exact hj)
 rw [Nat.zero_add] at this
 exact this
theorem row_sub {M g cap : Nat} {w : World} {full : List (Tk × Nat)} (h : RowG tokR M 39 w (.slice (some ⟨g, 0, none⟩) full.length cap) full) (hcap : full.length ≤ cap) (hcm : cap ≤ maxLen) (k n : Nat) (hk : k + n ≤ full.length) :
  tokR.Sl w (.slice (some ⟨g, k * 4, none⟩) n (cap - k)) ((full.drop k).take n) := by
 have hl : ((full.drop k).take n).length = n := by rw [List.length_take, List.length_drop]; omega
 refine ⟨some ⟨g, k * 4, none⟩, cap - k, by rw [hl], by rw [hl]; omega, by omega, (fun e => by cases e), fun i hi => ?_⟩
 rw [hl] at hi
 have hki : k + i < full.length := by omega
 have he : ((full.drop k).take n)[i] = full[k + i] := by rw [List.getElem_take, List.getElem_drop]
 refine ⟨g, k * 4, [.int .i64 full[k + i].1.kind, .int .i64 (full[k + i].2 : Int), .string (str full[k + i].1.word), .int .i64 full[k + i].1.n], rfl, by rw [he]; exact ⟨rfl, trivial⟩, fun j v hj => ?_⟩
 have := row_els h (k + i) hki j v hj
 show w.cell? ⟨g, k * 4 + i * 4 + j, none⟩ = some v
 rw [show k * 4 + i * 4 + j = (k + i) * 4 + j by omega]
 exact this
def lineN (l : List (Tk × Nat)) : Nat := (takeL (bare l)).1.length
theorem line_take : ∀ l : List (Tk × Nat), lineN l ≤ l.length ∧ bare (l.take (lineN l)) = (takeL (bare l)).1 ∧ (∀ (h : lineN l < l.length), (l[lineN l]).1.kind = 4 ∧ bare (l.drop (lineN l + 1)) = (takeL (bare l)).2) ∧ (lineN l = l.length → (takeL (bare l)).2 = []) ∧ ∀ i (h : i < lineN l) (h' : i < l.length), (l[i]).1.kind ≠ 4
 | [] => ⟨Nat.le_refl _, rfl, (fun h => absurd h (by decide)), (fun _ => rfl), fun i h => absurd h (by unfold lineN bare takeL; simp)⟩
 | x :: l => by
  obtain ⟨h1, h2, h3, h4, h5⟩ := line_take l
  by_cases hk : x.1.kind = 4
  ·have e : takeL (bare (x :: l)) = ([], bare l) := by show takeL (x.1 :: bare l) = _; rw [takeL, if_pos hk]
   have e0 : lineN (x :: l) = 0 := by unfold lineN; rw [e]; rfl
   rw [e0, e]
   exact ⟨Nat.zero_le _, rfl, (fun h => ⟨hk, rfl⟩), (fun h => by simp at h), fun i h => absurd h (Nat.not_lt_zero _)⟩
  ·have e : takeL (bare (x :: l)) = (x.1 :: (takeL (bare l)).1, (takeL (bare l)).2) := by show takeL (x.1 :: bare l) = _; rw [takeL, if_neg hk]
   have e0 : lineN (x :: l) = lineN l + 1 := by unfold lineN; rw [e]; rfl
   rw [e0, e]
   refine ⟨by simp; omega, by rw [List.take_succ_cons]; show x.1 :: bare (l.take (lineN l)) = _; rw [h2], fun h => ?_, fun h => h4 (by simpa using h), fun i h h' => ?_⟩
   ·have := h3 (by simpa using h)
    simpa using this
   ·cases i with
    | zero => exact hk
    | succ i => simpa using h5 i (by omega) (by simpa using h')
theorem lex_len : ∀ (f : Nat) (s : Str) (a : Nat) (l : List (Tk × Nat)), lexK f s a = some l → l.length ≤ f
 | 0, s, a, l, h => by cases h; exact Nat.le_refl _
 | f + 1, [], a, l, h => by cases h; exact Nat.zero_le _
 | f + 1, b :: r, a, l, h => by
  rw [lexK] at h
  split at h
  ·exact Nat.le_succ_of_le (lex_len f _ _ l h)
  split at h
  ·exact Nat.le_succ_of_le (lex_len f _ _ l h)
  cases ht : tokQ (b :: r) with
  | none => rw [ht] at h; cases h
  | some p =>
   rw [ht] at h
   cases hx : lexK f ((b :: r).drop p.2) (a + p.2) with
   | none => rw [Option.bind_some, hx] at h; cases h
   | some l' =>
    rw [Option.bind_some, hx] at h
    cases h
    exact Nat.succ_le_succ (lex_len f _ _ l' hx)
theorem results_parse {tmps : Array Value} {w : World} (g g2 : Nat) {cs cs2 : Array Value}
  (hp : tmps.getD 2 undef = .pointer (some ⟨g, 0, none⟩)) (hp2 : tmps.getD 3 undef = .pointer (some ⟨g2, 0, none⟩)) (hg : w.heap[g]? = some (.cells cs 25 (0, 0))) (hs : (Tryz.prog.info? 25).map (·.size) = some cs.size) (hg2 : w.heap[g2]? = some (.cells cs2 28 (0, 0))) (hs2 : (Tryz.prog.info? 28).map (·.size) = some cs2.size) :
  (results Tryz.f6 tmps).run Tryz.prog w = .ok (.tuple #[.agg cs, .agg cs2]) w := by
 have hp' : tmps[2]?.getD undef = .pointer (some ⟨g, 0, none⟩) := by simpa using hp
 have hp2' : tmps[3]?.getD undef = .pointer (some ⟨g2, 0, none⟩) := by simpa using hp2
 have h : Tryz.f6.results = #[.cell 2 25, .cell 3 28] := by rfl
 simp [results, h, hp', hp2', asAddr, run_loadVar_row w g 25 25 cs (0, 0) _ hg Tryz.underlying25 rfl hs, run_loadVar_row w g2 28 28 cs2 (0, 0) _ hg2 Tryz.underlying28 rfl hs2]
def ParseE (w : World) (R : Option PrgP) (r : Ending) (w' : World) : Prop := Below w.heap.size w w' ∧ ∃ (iv lv : Value) (fa fx : Int), r = .returned (.tuple #[.agg #[iv, lv], .agg #[.int .i64 fa, .int .i64 fx]]) ∧ match R with
 | some p => fa = 0 ∧ fx = 0 ∧ RowG inpR w.heap.size 79 w' iv p.inputs ∧ RowG linR w.heap.size 67 w' lv p.lines
 | none => (fx == 0) = false ∧ iv = .slice none 0 0 ∧ lv = .slice none 0 0
structure PS2 (w : World) (y2 y3 y5 y6 : Nat) (W : World) (v : Value) (rest : List (Tk × Nat)) (p : PrgP) : Prop where
 below : Below w.heap.size w W
 b2 : W.heap[y2]? = some (.cells #[.slice none 0 0, .slice none 0 0] 25 (0, 0))
 b3 : W.heap[y3]? = some (.cells #[.int .i64 0, .int .i64 0] 28 (0, 0))
 b5 : W.heap[y5]? = some (.cells #[.int .i64 0, .int .i64 0] 28 (0, 0))
 pr : PrI w.heap.size y6 W p
 toks : TokS w.heap.size W v rest
 h2 : w.heap.size ≤ y2
 h3 : y2 < y3
 h5 : y3 < y5
 h6 : y5 < y6
theorem PS2.next {w W W' : World} {y2 y3 y5 y6 : Nat} {v : Value} {rest : List (Tk × Nat)} {p : PrgP} (h : PS2 w y2 y3 y5 y6 W v rest p) (hb : Below W.heap.size W W') : PS2 w y2 y3 y5 y6 W' v rest p :=
 ⟨h.below.trans (hb.mono h.below.size), block_below h.b2 hb, block_below h.b3 hb, block_below h.b5 hb, h.pr.next hb, h.toks.keep (KeepTy.below hb), h.h2, h.h3, h.h5, h.h6⟩
theorem line_new {w wo : World} {y2 y3 y5 y6 g k cap i : Nat} {v : Value} {l full : List (Tk × Nat)} {p : PrgP} (h : PS2 w y2 y3 y5 y6 wo v l p) (hd : l = full.drop k) (hk : k < full.length) (hrow : RowG tokR w.heap.size 39 wo (.slice (some ⟨g, 0, none⟩) full.length cap) full) (hc1 : full.length ≤ cap) (hc2 : cap ≤ maxLen) (hi : i ≤ l.length) (e0 e : Int) {v4 : Value} {rest : List (Tk × Nat)} (ht : TokS w.heap.size wo v4 rest) (b : Bool) :
  ∀ W2, W2 = (if b = true then (((wo.alloc (.cells #[.slice none 0 0, .int .i64 0, .int .i64 e0] 62)).setCell ⟨wo.heap.size, 0, none⟩ (.slice (some ⟨g, k * 4, none⟩) i (cap - k))).setCell ⟨wo.heap.size, 2, none⟩ (.int .i64 e)) else ((wo.alloc (.cells #[.slice none 0 0, .int .i64 0, .int .i64 e0] 62)).setCell ⟨wo.heap.size, 0, none⟩ (.slice (some ⟨g, k * 4, none⟩) i (cap - k)))) →
   PS2 w y2 y3 y5 y6 W2 v4 rest p ∧ LineI wo wo.heap.size (.slice (some ⟨g, k * 4, none⟩) i (cap - k)) (l.take i) (if b = true then e else e0) W2 0 := by
 intro W2 hW2
 have hb1 : Below wo.heap.size wo (wo.alloc (.cells #[.slice none 0 0, .int .i64 0, .int .i64 e0] 62)) := (Below.refl _ _).alloc (Nat.le_refl _) _
 have x0 := World.alloc_heap_new wo (.cells #[.slice none 0 0, .int .i64 0, .int .i64 e0] 62)
 have hb2 := hb1.setCell (p := ⟨wo.heap.size, 0, none⟩) (Nat.le_refl _) (.slice (some ⟨g, k * 4, none⟩) i (cap - k))
 have x1 := set_block (k := 0) (v := .slice (some ⟨g, k * 4, none⟩) i (cap - k)) x0
 have hb3 := hb2.setCell (p := ⟨wo.heap.size, 2, none⟩) (Nat.le_refl _) (.int .i64 e)
 have x2 := set_block (k := 2) (v := .int .i64 e) x1
 have key : Below wo.heap.size wo W2 ∧ W2.heap[wo.heap.size]? = some (.cells #[.slice (some ⟨g, k * 4, none⟩) i (cap - k), .int .i64 (0 : Nat), .int .i64 (if b = true then e else e0)] 62 (0, 0)) := by
  cases b with
  | true => rw [if_pos rfl] at hW2; subst hW2; exact ⟨hb3, x2⟩
  | false => rw [if_neg (by decide)] at hW2; subst hW2; exact ⟨hb2, x1⟩
 clear hW2 hb1 x0 hb2 x1 hb3 x2
 obtain ⟨hb, hx⟩ := key
 have hs := row_sub hrow hc1 hc2 k i (by rw [hd, List.length_drop] at hi; omega)
 rw [← hd] at hs
 refine ⟨⟨h.below.trans (hb.mono h.below.size), block_below h.b2 hb, block_below h.b3 hb, block_below h.b5 hb, h.pr.next hb, ht.keep (KeepTy.below hb), h.h2, h.h3, h.h5, h.h6⟩, rfl, hb, hs, hx, Nat.zero_le _, ?_, fun p hp => h.toks.right p (List.mem_of_mem_take hp)⟩
 have := h.toks.small
 rw [List.length_take]; omega
theorem toks_drop {M g k cap : Nat} {w : World} {v : Value} {l full : List (Tk × Nat)} (h : TokS M w v l) (hd : l = full.drop k) (hk : k < full.length) (hrow : RowG tokR M 39 w (.slice (some ⟨g, 0, none⟩) full.length cap) full) (hc1 : full.length ≤ cap) (hc2 : cap ≤ maxLen) (n : Nat) (hn : n ≤ l.length) :
  TokS M w (.slice (if cap - k = n then some ⟨g, k * 4, none⟩ else some ⟨g, k * 4 + n * 4, none⟩) (l.length - n) (cap - k - n)) (l.drop n) := by
 have hl : (l.drop n).length = l.length - n := List.length_drop
 refine ⟨⟨_, _, by rw [hl]⟩, fun p hp => h.right p (List.mem_of_mem_drop hp), by have := h.small; omega, ?_⟩
 by_cases he : l.drop n = []
 ·exact .inl he
 ·refine .inr ⟨g, k + n, cap, full, by rw [hd, List.drop_drop], ?_, ?_, hrow, hc1, hc2⟩
  ·have : l.length - n ≠ 0 := fun e => he (List.eq_nil_of_length_eq_zero (by rw [hl, e]))
   rw [hd, List.length_drop] at this
   omega
  ·have h0 : l.length - n ≠ 0 := fun e => he (List.eq_nil_of_length_eq_zero (by rw [hl, e]))
   have hll : l.length = full.length - k := by rw [hd, List.length_drop]
   rw [if_neg (by omega), hl, show (k + n) * 4 = k * 4 + n * 4 by omega, show cap - (k + n) = cap - k - n by omega]
theorem parse_one {V : Voc} {f : Nat} {l : List (Tk × Nat)} {p : PrgP} {n : Nat} (hl : 0 < l.length) (hf : l.length < f) : parseK V f (bare l) p n = (match takeL (bare l) with | ([], r) => parseK V (f - 1) r p n | (t :: q, r) => (intoQ V p n (overP p) t q).bind fun p' => parseK V (f - 1) r p' (n + 1)) := by
 cases l with
 | nil => exact absurd hl (by decide)
 | cons x r =>
  obtain ⟨f, rfl⟩ : ∃ f', f = f' + 1 := ⟨f - 1, by omega⟩
  rfl
set_option maxHeartbeats 4000000 in
theorem parse_end {w W : World} {y2 y3 : Nat} (hb : Below w.heap.size w W) (b2 : W.heap[y2]? = some (.cells #[.slice none 0 0, .slice none 0 0] 25 (0, 0))) (b3 : W.heap[y3]? = some (.cells #[.int .i64 0, .int .i64 0] 28 (0, 0))) (h2 : w.heap.size ≤ y2) (h3 : y2 < y3) (v0 v1 u0 u1 : Value) :
  ∀ X' : World, (X' = ((((W.setCell ⟨y2, 0, none⟩ v0).setCell ⟨y2, 1, none⟩ v1).setCell ⟨y3, 0, none⟩ u0).setCell ⟨y3, 1, none⟩ u1) ∨ X' = ((((W.setCell ⟨y2, 0, none⟩ v0).setCell ⟨y2, 1, none⟩ v1).setCell ⟨y3, 0, none⟩ u0).setCell ⟨y3, 1, none⟩ u1).drew ∨ (∃ o, X' = (((((W.setCell ⟨y2, 0, none⟩ v0).setCell ⟨y2, 1, none⟩ v1).setCell ⟨y3, 0, none⟩ u0).setCell ⟨y3, 1, none⟩ u1).alloc o).drew) ∨ ∃ o, X' = ((((W.setCell ⟨y2, 0, none⟩ v0).setCell ⟨y2, 1, none⟩ v1).setCell ⟨y3, 0, none⟩ u0).setCell ⟨y3, 1, none⟩ u1).alloc o) →
   X'.heap[y2]? = some (.cells #[v0, v1] 25 (0, 0)) ∧ X'.heap[y3]? = some (.cells #[u0, u1] 28 (0, 0)) ∧ Below w.heap.size w X' ∧ ∀ u, u ≠ 25 → u ≠ 28 → KeepTy u W X' := by
 have hne : y3 ≠ y2 := by omega
 have e1 : (((#[.slice none 0 0, .slice none 0 0] : Array Value).setIfInBounds 0 v0).setIfInBounds 1 v1) = #[v0, v1] := by simp
 have e2 : (((#[.int .i64 0, .int .i64 0] : Array Value).setIfInBounds 0 u0).setIfInBounds 1 u1) = #[u0, u1] := by simp
 have p0 := set_block (k := 0) (v := v0) b2
 have p1 := set_block (k := 1) (v := v1) p0
 have p2 := block_other p1 (p := ⟨y3, 0, none⟩) hne u0
 have z1 := block_other p2 (p := ⟨y3, 1, none⟩) hne u1
 have q0 := block_other b3 (p := ⟨y2, 0, none⟩) (Ne.symm hne) v0
 have q1 := block_other q0 (p := ⟨y2, 1, none⟩) (Ne.symm hne) v1
 have q2 := set_block (k := 0) (v := u0) q1
 have z2 := set_block (k := 1) (v := u1) q2
 rw [e1] at z1
 rw [e2] at z2
 have b0 := hb.setCell (p := ⟨y2, 0, none⟩) h2 v0
 have b1 := b0.setCell (p := ⟨y2, 1, none⟩) h2 v1
 have b2' := b1.setCell (p := ⟨y3, 0, none⟩) (show w.heap.size ≤ y3 by omega) u0
 have zb := b2'.setCell (p := ⟨y3, 1, none⟩) (show w.heap.size ≤ y3 by omega) u1
 have kt : ∀ u, u ≠ 25 → u ≠ 28 → KeepTy u W ((((W.setCell ⟨y2, 0, none⟩ v0).setCell ⟨y2, 1, none⟩ v1).setCell ⟨y3, 0, none⟩ u0).setCell ⟨y3, 1, none⟩ u1) := fun u hu hv => (((KeepTy.setCell (p := ⟨y2, 0, none⟩) (NotTy.of b2 (Ne.symm hu)) v0).trans (KeepTy.setCell (p := ⟨y2, 1, none⟩) (NotTy.of p0 (Ne.symm hu)) v1)).trans (KeepTy.setCell (p := ⟨y3, 0, none⟩) (NotTy.of q1 (Ne.symm hv)) u0)).trans (KeepTy.setCell (p := ⟨y3, 1, none⟩) (NotTy.of q2 (Ne.symm hv)) u1)
 clear p0 p1 p2 q0 q1 q2 b0 b1 b2'
 generalize ((((W.setCell ⟨y2, 0, none⟩ v0).setCell ⟨y2, 1, none⟩ v1).setCell ⟨y3, 0, none⟩ u0).setCell ⟨y3, 1, none⟩ u1) = X at z1 z2 zb kt
 have ka : ∀ u o, KeepTy u X (X.alloc o) := fun u o => KeepTy.below ((Below.refl _ _).alloc (Nat.le_refl _) o)
 have ba : ∀ o, Below w.heap.size w (X.alloc o) := fun o => zb.alloc zb.size o
 rintro _ (rfl | rfl | ⟨o, rfl⟩ | ⟨o, rfl⟩)
 ·exact ⟨z1, z2, zb, kt⟩
 ·exact ⟨z1, z2, zb.drew, kt⟩
 ·have a1 := heap_alloc z1 o; have a2 := heap_alloc z2 o; have a3 := ba o; have a4 := fun u h1 h2 => (kt u h1 h2).trans (ka u o)
  generalize X.alloc o = Y at *
  exact ⟨a1, a2, a3.drew, a4⟩
 ·exact ⟨heap_alloc z1 o, heap_alloc z2 o, ba o, fun u h1 h2 => (kt u h1 h2).trans (ka u o)⟩
set_option maxHeartbeats 16000000 in
theorem parse_any (s : Str) (w : World) (ht : TabT w) (hl : s.length ≤ 9223372036854775807) : Calls Tryz.prog 6 #[.string (str s)] w (ParseE w ((lexP s).bind fun q => parseP VV (bare q))) := by
 obtain ⟨R, hR⟩ : ∃ R, ((lexP s).bind fun q => parseP VV (bare q)) = R := ⟨_, rfl⟩
 rw [hR]
 have hb0 : Below w.heap.size w ((w.alloc (.cells #[.slice none 0 0, .slice none 0 0] 25)).alloc (.cells #[.int .i64 0, .int .i64 0] 28)) := ((Below.refl _ _).alloc (Nat.le_refl _) _).alloc (by simp) _
 have hlx := lex_any _ (ht.below hb0) s hl
 have HLX := Lib.hid hlx; have HB0 := Lib.hid hb0; have HTB := Lib.hid ht; have HR := Lib.hid hR
 clear hlx hb0 ht hR
 go_enter Tryz.func6, Tryz.ntmps6
 go_wp2_with fail
 refine HLX.out.mono ?_
 rintro _ w1 ⟨hx, hb1⟩
 obtain ⟨x2, x3⟩ := new2 hb1
 have hbw := bNext hb1 HB0.out
 have hs1 : w.heap.size + 1 < w1.heap.size := block_lt x3
 cases hq : lexP s with
 | none =>
  rw [hq] at hx
  obtain ⟨a, c, rfl, hc⟩ := hx
  have hRn : R = none := by rw [← HR.out, hq]; rfl
  have c20 := cell_of_row w1 w.heap.size 0 _ _ _ x2
  have c21 := cell_of_row w1 w.heap.size 1 _ _ _ x2
  have f20 := frozen_of_row w1 w.heap.size 0 _ _ x2
  have f21 := frozen_of_row w1 w.heap.size 1 _ _ x2
  have c30 := cell_of_row w1 (w.heap.size + 1) 0 _ _ _ x3
  have c31 := cell_of_row w1 (w.heap.size + 1) 1 _ _ _ x3
  have f30 := frozen_of_row w1 (w.heap.size + 1) 0 _ _ x3
  have f31 := frozen_of_row w1 (w.heap.size + 1) 1 _ _ x3
  have h2l := block_lt x2
  have HX := Lib.hid (And.intro hbw (And.intro x2 x3))
  clear HLX hbw x2 x3 hb1 HR hq
  dsimp only
  go_upto_region 3 with fail
  go_region
  go_wp2_with fail
  obtain ⟨z1, z2, z3, -⟩ := parse_end HX.out.1 HX.out.2.1 HX.out.2.2 (Nat.le_refl _) (Nat.lt_succ_self _) _ _ _ _ _ (.inr (.inr (.inl ⟨_, rfl⟩)))
  exact bodyPost_ret (results_parse w.heap.size (w.heap.size + 1) rfl rfl z1 (by kernel_rfl) z2 (by kernel_rfl)) rfl ⟨z3, _, _, _, _, rfl, by first | exact ⟨hc, rfl, rfl⟩ | (rw [hRn]; exact ⟨hc, rfl, rfl⟩)⟩
 | some q =>
  rw [hq] at hx
  obtain ⟨v, rfl, hrow⟩ := hx
  have hRq : parseP VV (bare q) = R := by rw [← HR.out, hq]; rfl
  have hqr : ∀ p ∈ q, RightT p.1 := by
   unfold lexP at hq
   split at hq
   ·cases hq
   ·exact lex_right _ _ _ _ hq
  have hql : q.length ≤ 65536 := by
   unfold lexP at hq
   split at hq
   ·cases hq
   ·have := lex_len _ _ _ _ hq
    omega
  obtain ⟨va, vc, rfl⟩ := hrow.form
  have hM : w.heap.size ≤ ((w.alloc (.cells #[.slice none 0 0, .slice none 0 0] 25)).alloc (.cells #[.int .i64 0, .int .i64 0] 28)).heap.size := by simp; omega
  have htk : TokS w.heap.size w1 (.slice va q.length vc) q := by
   refine ⟨⟨_, _, rfl⟩, hqr, hql, ?_⟩
   cases q with
   | nil => exact .inl rfl
   | cons x r =>
    obtain ⟨cs, h1, h2⟩ := id hrow
    obtain ⟨_, ⟨hv, h0⟩ | ⟨g, cap, cur, hv, _, _, h3, h4, _⟩⟩ := id h1
    ·cases h0
    ·cases hv
     exact .inr ⟨g, 0, vc, x :: r, rfl, by simp, by simp, hrow.mono hM, h3, h4⟩
  have hW : PS2 w w.heap.size (w.heap.size + 1) w1.heap.size (w1.heap.size + 1) ((w1.alloc (.cells #[.int .i64 0, .int .i64 0] 28)).alloc (.cells #[.slice none 0 0, .slice none 0 0] 25)) (.slice va q.length vc) q ⟨[], []⟩ := by
   have hba : Below w1.heap.size w1 ((w1.alloc (.cells #[.int .i64 0, .int .i64 0] 28)).alloc (.cells #[.slice none 0 0, .slice none 0 0] 25)) := ((Below.refl _ _).alloc (Nat.le_refl _) _).alloc (by simp) _
   refine ⟨hbw.trans (hba.mono hbw.size), block_below x2 hba, block_below x3 hba, heap_alloc (World.alloc_heap_new _ _) _, ⟨_, _, by simpa using World.alloc_heap_new (w1.alloc (.cells #[.int .i64 0, .int .i64 0] 28)) (.cells #[.slice none 0 0, .slice none 0 0] 25), RowG.nil _ _ _ _, RowG.nil _ _ _ _⟩, htk.keep (KeepTy.below hba), Nat.le_refl _, Nat.lt_succ_self _, by omega, Nat.lt_succ_self _⟩
  have HW := Lib.hid hW; have HRQ := Lib.hid hRq
  clear hW hRq htk hM hqr hrow hbw x2 x3 hb1 HLX HR hq
  dsimp only
  go_upto_region 5 with fail
  refine gen_worldA (fun W => PS2 w w.heap.size (w.heap.size + 1) w1.heap.size (w1.heap.size + 1) W (.slice va q.length vc) q ⟨[], []⟩) HW.out ?_
  clear HW
  generalize w1.heap.size + 1 = y6
  generalize w1.heap.size = y5
  generalize w.heap.size + 1 = y3
  obtain ⟨y2, hy2⟩ : ∃ y, w.heap.size = y := ⟨_, rfl⟩
  rw [hy2]
  rintro W hps
  have HPS := Lib.hid hps
  clear hps
  go_wp2_with fail
  go_loopw [4, 7, 8] (fun v4 v7 v8 wr => ∃ (rest : List (Tk × Nat)) (n f : Nat) (p : PrgP), v7 = .int .i64 (n : Int) ∧ v8 = .bool (overP p) ∧ PS2 w y2 y3 y5 y6 wr v4 rest p ∧ n ≤ 64 ∧ p.inputs.length + p.lines.length = n ∧ rest.length < f ∧ parseK VV f (bare rest) p n = R) (fun v4 v7 v8 wr => sliceLen (some v4))
  case atStart => exact ⟨q, 0, q.length + 1, ⟨[], []⟩, rfl, rfl, HPS.out, by omega, rfl, Nat.lt_succ_self _, by have := HRQ.out; unfold parseP at this; rw [show (bare q).length = q.length by unfold bare; simp] at this; exact this⟩
  case round =>
   clear HPS HRQ
   obtain ⟨rest, n, f, p, rfl, rfl, hps, hn, hpn, hf, hR⟩ := hrel
   obtain ⟨ra, rc, rfl⟩ := hps.toks.len
   have hrs := hps.toks.small
   cases rest with
   | nil =>
    obtain ⟨f, rfl⟩ : ∃ f', f = f' + 1 := ⟨f - 1, by omega⟩
    have hR : (if overP p = true then some p else none) = R := hR
    obtain ⟨ov, hov⟩ : ∃ b, overP p = b := ⟨_, rfl⟩
    rw [hov] at hR ⊢
    obtain ⟨iv, jv, hb6, hiv, hjv⟩ := hps.pr
    obtain ⟨ia, ic, rfl⟩ := hiv.form
    obtain ⟨ja, jc, rfl⟩ := hjv.form
    have c60 := cell_of_row wr y6 0 _ _ _ hb6
    have c61 := cell_of_row wr y6 1 _ _ _ hb6
    have c20 := cell_of_row wr y2 0 _ _ _ hps.b2
    have c21 := cell_of_row wr y2 1 _ _ _ hps.b2
    have f20 := frozen_of_row wr y2 0 _ _ hps.b2
    have f21 := frozen_of_row wr y2 1 _ _ hps.b2
    have c30 := cell_of_row wr y3 0 _ _ _ hps.b3
    have c31 := cell_of_row wr y3 1 _ _ _ hps.b3
    have f30 := frozen_of_row wr y3 0 _ _ hps.b3
    have f31 := frozen_of_row wr y3 1 _ _ hps.b3
    have h3 := hps.h3
    have HPS := Lib.hid hps; have HI := Lib.hid hiv; have HJ := Lib.hid hjv; have HOV := Lib.hid hov
    clear hps hb6 hiv hjv hov
    have hend := fun v0 v1 u0 u1 => parse_end HPS.out.below HPS.out.b2 HPS.out.b3 HPS.out.h2 HPS.out.h3 v0 v1 u0 u1
    have HEND := Lib.hid hend
    clear hend
    cases ov with
    | false =>
     have hRn : R = none := hR.symm
     clear hR
     go_wp2_with fail
     obtain ⟨z1, z2, z3, -⟩ := HEND.out _ _ _ _ _ (.inl rfl)
     exact bodyPost_ret (results_parse y2 y3 rfl rfl z1 (by kernel_rfl) z2 (by kernel_rfl)) rfl ⟨z3, _, _, _, _, rfl, by first | exact ⟨by decide, rfl, rfl⟩ | (rw [hRn]; exact ⟨by decide, rfl, rfl⟩)⟩
    | true =>
     have hRs : R = some p := hR.symm
     clear hR
     go_wp2_with fail
     obtain ⟨z1, z2, z3, z4⟩ := HEND.out _ _ _ _ _ (.inl rfl)
     refine bodyPost_ret (results_parse y2 y3 rfl rfl z1 (by kernel_rfl) z2 (by kernel_rfl)) rfl ⟨z3, _, _, _, _, rfl, ?_⟩
     have hfin : RowG inpR w.heap.size 79 _ _ p.inputs ∧ RowG linR w.heap.size 67 _ _ p.lines := ⟨HI.out.same (inp_keep (z4 _ (by decide) (by decide))) (z4 _ (by decide) (by decide)), HJ.out.same (lin_keep (z4 _ (by decide) (by decide)) (z4 _ (by decide) (by decide))) (z4 _ (by decide) (by decide))⟩
     first | exact ⟨rfl, rfl, hfin⟩ | (rw [hRs]; exact ⟨rfl, rfl, hfin⟩)
   | cons x rest =>
    obtain ⟨l, hl⟩ : ∃ l, x :: rest = l := ⟨_, rfl⟩
    have hpos : 0 < l.length := by rw [← hl]; simp
    have hR' := hR
    rw [hl] at hps hf hR' hrs ⊢
    clear hR
    obtain ⟨h1, h2, h3, h4, h5⟩ := line_take l
    obtain ⟨m, hm⟩ : ∃ m, lineN l = m := ⟨_, rfl⟩
    rw [hm] at h1 h2 h3 h4 h5
    obtain ⟨g, k, cap, full, hd, hk, hv, hrow, hc1, hc2⟩ := hps.toks.row.resolve_left (fun e => by rw [e] at hpos; exact absurd hpos (by decide))
    injection hv with hv1 hv2 hv3
    subst hv1 hv3
    have hll : l.length = full.length - k := by rw [hd, List.length_drop]
    have hcell : ∀ i (hi : i < l.length), wr.cell? ⟨g, k * 4 + i * 4, none⟩ = some (.int .i64 l[i].1.kind) ∧ wr.cell? ⟨g, k * 4 + i * 4 + 1, none⟩ = some (.int .i64 (l[i].2 : Int)) := fun i hi => by
     have hki : k + i < full.length := by omega
     have he : l[i] = full[k + i] := by subst hd; rw [List.getElem_drop]
     have e0 := row_els hrow (k + i) hki 0 _ rfl
     have e1 := row_els hrow (k + i) hki 1 _ rfl
     rw [show (k + i) * 4 + 0 = k * 4 + i * 4 by omega] at e0
     rw [show (k + i) * 4 + 1 = k * 4 + i * 4 + 1 by omega] at e1
     rw [he]
     exact ⟨e0, e1⟩
    have hgl : g < wr.heap.size := World.block_lt_of_cell? _ _ (hcell 0 hpos).1
    have HPS := Lib.hid hps; have HR := Lib.hid hR'; have HT2 := Lib.hid h2; have HT3 := Lib.hid h3; have HT4 := Lib.hid h4; have HT5 := Lib.hid h5; have HCE := Lib.hid hcell; have HROW := Lib.hid hrow; have HD := Lib.hid hd; have HM := Lib.hid hm; have HLL := Lib.hid hll
    clear hps hR' h2 h3 h4 h5 hcell hrow hd hm hl hv2 hll
    have hlp : decide ((0 : Int) < (l.length : Int)) = true := decide_eq_true (by omega)
    go_wp2_with fail
    obtain ⟨wo, rfl⟩ : ∃ wo : World, wo = wr := ⟨_, rfl⟩
    obtain ⟨L, hL⟩ : ∃ L, wo.heap.size = L := ⟨_, rfl⟩
    obtain ⟨Wl, hWl⟩ : ∃ W, wo.alloc (.cells #[.slice none 0 0, .int .i64 0, .int .i64 (s.length : Int)] 62) = W := ⟨_, rfl⟩
    have hcl : ∀ i (hi : i < l.length), Wl.cell? ⟨g, k * 4 + i * 4, none⟩ = some (.int .i64 l[i].1.kind) ∧ Wl.cell? ⟨g, k * 4 + i * 4 + 1, none⟩ = some (.int .i64 (l[i].2 : Int)) := fun i hi => by
     rw [← hWl]
     exact ⟨(World.cell?_alloc_lt _ _ _ hgl).trans (HCE.out i hi).1, (World.cell?_alloc_lt _ _ _ hgl).trans (HCE.out i hi).2⟩
    have HCL := Lib.hid hcl; have HWL := Lib.hid hWl; have HL := Lib.hid hL
    clear hcl
    rw [hL, hWl]
    clear hWl hL
    go_loopw [10] (fun v wz => ∃ i : Nat, v = .int .i64 (i : Int) ∧ i ≤ m ∧ wz = Wl) (fun v wz => m - (Lib.intOf v).toNat)
    case atStart => exact ⟨0, rfl, Nat.zero_le _, rfl⟩
    case round =>
     obtain ⟨i, rfl, him, rfl⟩ := hrel
     by_cases hlt : i < m
     ·have hil : i < l.length := by omega
      have hci := (HCL.out i hil).1
      have hki := HT5.out i hlt hil
      have q1 : decide ((i : Int) < (l.length : Int)) = true := decide_eq_true (by omega)
      have q2 : (l[i].1.kind != 4) = true := by simpa using hki
      generalize l[i].1.kind = kd at hci q2
      clear hki
      go_wp2_with fail
      go_roundw
      case rel => exact ⟨i + 1, by go_num, by omega, by first | rfl | trivial⟩
      case measure => simp [Lib.intOf]; omega
     ·obtain rfl : i = m := by omega
      have hbL : wr.heap[L]? = some (.cells #[.slice none 0 0, .int .i64 0, .int .i64 (s.length : Int)] 62 (0, 0)) := by rw [← HWL.out, ← HL.out]; exact World.alloc_heap_new _ _
      have cL0 := cell_of_row wr L 0 _ _ _ hbL
      have cL2 := cell_of_row wr L 2 _ _ _ hbL
      have fL0 := frozen_of_row wr L 0 _ _ hbL
      have fL2 := frozen_of_row wr L 2 _ _ hbL
      have hgL : g ≠ L := by rw [← HL.out]; omega
      have hmc : i ≤ cap - k := by have := HLL.out; omega
      have hlc : l.length ≤ cap - k := by have := HLL.out; omega
      have HBL := Lib.hid hbL
      clear hbL
      by_cases hil : i < l.length
      ·have hci := HCL.out i hil
       have hk4 := (HT3.out hil).1
       rw [hk4] at hci
       have q1 : decide ((i : Int) < (l.length : Int)) = true := decide_eq_true (by omega)
       obtain ⟨ce0, ce1⟩ := hci
       generalize (l[i].2 : Int) = ea at ce1
       clear hk4
       have htk2 : (takeL (bare l)) = (bare (l.take i), bare (l.drop (i + 1))) := by rw [HT2.out, (HT3.out hil).2]
       go_upto_region 16 with fail
       clear cL0 cL2 fL0 fL2 HBL ce0 ce1
       have hnew := line_new HPS.out HD.out hk HROW.out hc1 hc2 h1 (s.length : Int) ea (toks_drop HPS.out.toks HD.out hk HROW.out hc1 hc2 (i + 1) (by omega)) true
       rw [HWL.out, HL.out] at hnew
       refine gen_worldA (fun W2 => PS2 w y2 y3 y5 y6 W2 _ (l.drop (i + 1)) p ∧ LineI wo L (.slice (some ⟨g, k * 4, none⟩) i (cap - k)) (l.take i) _ W2 0) (hnew _ rfl) ?_
       clear hnew
       have hstep := HR.out
       rw [parse_one hpos hf, htk2] at hstep
       generalize (Value.slice (if cap - k = (i + 1) then some ⟨g, k * 4, none⟩ else some ⟨g, k * 4 + (i + 1) * 4, none⟩) (l.length - (i + 1)) (cap - k - (i + 1))) = v4
       rintro W2 ⟨hps2, hli⟩
       obtain ⟨a4, c4, hv4⟩ := hps2.toks.len
       have hdl : (l.drop (i + 1)).length = l.length - (i + 1) := List.length_drop
       rw [hdl] at hv4
       have c0 := hli.cells.1
       have hlt' : (l.take i).length = i := by rw [List.length_take]; omega
       have HST := Lib.hid hstep; have HPS2 := Lib.hid hps2; have HLI := Lib.hid hli; have HV4 := Lib.hid hv4; have HDL := Lib.hid hdl; have HLT := Lib.hid hlt'
       clear hstep hps2 hli hv4 hdl hlt' HR htk2
       have hMt : (i + 1) ≤ l.length := by omega
       have hmea : i ≠ 0 ∨ 0 < (i + 1) := by omega
       have hL64 := HPS.out.below.size
       skip
       by_cases hi0 : i = 0
       ·skip
        have q0 : ((i : Int) == 0) = true := by rw [hi0]; rfl
        have hR1 : parseK VV (f - 1) (bare (l.drop (i + 1))) p n = R := by
         have h := HST.out
         rw [show bare (l.take i) = [] by rw [hi0]; rfl] at h
         exact h
        have HR1 := Lib.hid hR1
        have hN0 : 0 < (i + 1) := by omega
        clear hR1 HST
        go_wp2_with fail
        go_roundw
        case rel => exact ⟨l.drop (i + 1), n, f - 1, p, rfl, rfl, HPS2.out, hn, hpn, by rw [HDL.out]; omega, HR1.out⟩
        case measure =>
         rw [HV4.out]
         show l.length - (i + 1) < l.length
         omega
        all_goals skip
       ·skip
        have q0 : ((i : Int) == 0) = false := by rw [beq_eq_false_iff_ne]; omega
        obtain ⟨t, ht⟩ : ∃ t, headT (restT (l.take i) 0) = t := ⟨_, rfl⟩
        have hbt : bare (l.take i) = t :: restT (l.take i) 1 := hd_cons ht (by rw [HLT.out]; omega)
        have hst := HST.out
        rw [hbt] at hst
        have hR1 : ((intoQ VV p n (overP p) t (restT (l.take i) 1)).bind fun p' => parseK VV (f - 1) (bare (l.drop (i + 1))) p' (n + 1)) = R := hst
        have hin := into_any HLI.out (HTB.out.below HPS.out.below) ht (by rw [HLT.out]; omega) HPS2.out.pr (by rw [← HL.out]; exact hL64) (by have := HPS2.out.h2; have := HPS2.out.h3; have := HPS2.out.h5; have := HPS2.out.h6; omega) n hn (overP p) ⟨by omega, by omega⟩
        obtain ⟨P, hP⟩ : ∃ P, intoQ VV p n (overP p) t (restT (l.take i) 1) = P := ⟨_, rfl⟩
        rw [hP] at hin hR1
        have HIN := Lib.hid hin; have HR1 := Lib.hid hR1; have HP := Lib.hid hP
        clear hin hR1 hP hst hbt ht HST
        go_wp2_with fail
        refine HIN.out.mono ?_
        rintro _ w3 ⟨hbel, hfr, hko, fa, fx, rfl, hm⟩
        have hps := HPS2.out
        have h26 : y2 ≠ y6 := by have := hps.h3; have := hps.h5; have := hps.h6; omega
        have b2 := hko y2 _ h26 hps.b2
        have b3 := hfr 28 (by decide) (by decide) (by decide) (by decide) _ _ hps.b3
        have b5 := hfr 28 (by decide) (by decide) (by decide) (by decide) _ _ hps.b5
        have tk := hps.toks.keep (hfr 39 (by decide) (by decide) (by decide) (by decide))
        have hb3 := hps.below.trans hbel
        have h25 : y5 ≠ y2 := by have := hps.h3; have := hps.h5; omega
        have h35 : y5 ≠ y3 := by have := hps.h5; omega
        have hw5 : w.heap.size ≤ y5 := by have := hps.h2; have := hps.h3; have := hps.h5; omega
        have H5 := Lib.hid b5; have HM := Lib.hid hm; have HF := Lib.hid (And.intro hb3 (And.intro b2 (And.intro b3 tk)))
        clear b2 b3 b5 tk hb3 hps hbel hfr hko hm HIN c0
        dsimp only
        cases P with
        | none =>
         have hRn : R = none := HR1.out.symm
         have hfx : (fx == 0) = false := HM.out
         go_upto_region 19 with (first | ((with_reducible show wpList _ _ _ ({ dst := none, op := Op.store 28 (.tmp 5) (.tmp _), type := _, pos := _, after := _, guard := _ } :: _) _ _); (refine wpList_storeW rfl 28 _ _ rfl y5 rfl _ _ rfl _ H5.out (by kernel_rfl) (by rfl) (by rfl) ?_); intro w7 hr7 hg7) | ((with_reducible show wpList _ _ _ ({ dst := some _, op := Op.load 28 (.tmp 5), type := _, pos := _, after := _, guard := _ } :: _) _ _); (refine wpList_loadW (by rfl) 28 _ rfl y5 rfl _ _ (0, 0) _ hr7 Tryz.underlying28 rfl (by kernel_rfl) ?_)))
         obtain ⟨hb3, b2, b3, -⟩ := HF.out
         have b27 := block_grown b2 hg7 (fun e => by cases e; exact h25 rfl)
         have b37 := block_grown b3 hg7 (fun e => by cases e; exact h35 rfl)
         have hb7 := hb3.grown hg7 (Nat.le_trans hb3.size (Nat.le_refl _)) (fun g e => by cases e; exact hw5)
         have c50 := cell_of_row w7 y5 0 _ _ _ hr7
         have c51 := cell_of_row w7 y5 1 _ _ _ hr7
         have c20 := cell_of_row w7 y2 0 _ _ _ b27
         have c21 := cell_of_row w7 y2 1 _ _ _ b27
         have f20 := frozen_of_row w7 y2 0 _ _ b27
         have f21 := frozen_of_row w7 y2 1 _ _ b27
         have c30 := cell_of_row w7 y3 0 _ _ _ b37
         have c31 := cell_of_row w7 y3 1 _ _ _ b37
         have f30 := frozen_of_row w7 y3 0 _ _ b37
         have f31 := frozen_of_row w7 y3 1 _ _ b37
         have hend := fun v0 v1 u0 u1 => parse_end hb7 b27 b37 HPS2.out.h2 HPS2.out.h3 v0 v1 u0 u1
         have HEND := Lib.hid hend
         have h23 := HPS2.out.h3
         clear hend hb3 b2 b3 b27 b37 hb7 hg7 hr7 H5 HF
         try dsimp only [Act.put]
         go_region
         go_wp2_with fail
         obtain ⟨z1, z2, z3, -⟩ := HEND.out _ _ _ _ _ (.inr (.inl rfl))
         exact bodyPost_ret (results_parse y2 y3 rfl rfl z1 (by kernel_rfl) z2 (by kernel_rfl)) rfl ⟨z3, _, _, _, _, rfl, by first | exact ⟨hfx, rfl, rfl⟩ | (rw [hRn]; exact ⟨hfx, rfl, rfl⟩)⟩
        | some p' =>
         obtain ⟨rfl, rfl, hpr⟩ := HM.out
         have hlen := into_len HP.out
         have hR3 : parseK VV (f - 1) (bare (l.drop (i + 1))) p' (n + 1) = R := HR1.out
         have HPR := Lib.hid hpr; have HR3 := Lib.hid hR3
         clear hpr hR3 HR1 HM HP
         go_upto_region 20 with (first | ((with_reducible show wpList _ _ _ ({ dst := none, op := Op.store 28 (.tmp 5) (.tmp _), type := _, pos := _, after := _, guard := _ } :: _) _ _); (refine wpList_storeW rfl 28 _ _ rfl y5 rfl _ _ rfl _ H5.out (by kernel_rfl) (by rfl) (by rfl) ?_); intro w7 hr7 hg7) | ((with_reducible show wpList _ _ _ ({ dst := some _, op := Op.load 28 (.tmp 5), type := _, pos := _, after := _, guard := _ } :: _) _ _); (refine wpList_loadW (by rfl) 28 _ rfl y5 rfl _ _ (0, 0) _ hr7 Tryz.underlying28 rfl (by kernel_rfl) ?_)))
         obtain ⟨hb3, b2, b3, tk⟩ := HF.out
         have k7 : ∀ u, u ≠ 28 → KeepTy u w3 w7 := fun u hu => KeepTy.grown hg7 (fun g e => by cases e; exact NotTy.of H5.out (Ne.symm hu))
         have hps8 : PS2 w y2 y3 y5 y6 w7 v4 (l.drop (i + 1)) p' := ⟨hb3.grown hg7 (Nat.le_trans hb3.size (Nat.le_refl _)) (fun g e => by cases e; exact hw5), block_grown b2 hg7 (fun e => by cases e; exact h25 rfl), block_grown b3 hg7 (fun e => by cases e; exact h35 rfl), hr7, HPR.out.keep (fun u hu => k7 u (by rcases hu with h | h | h | h | h | h <;> rw [h] <;> decide)), tk.keep (k7 _ (by decide)), HPS2.out.h2, HPS2.out.h3, HPS2.out.h5, HPS2.out.h6⟩
         have HPS8 := Lib.hid hps8
         clear hb3 b2 b3 tk k7 hps8 hg7 hr7 H5 HF HPR HPS2
         try dsimp only [Act.put]
         refine gen_worldA (fun W8 => PS2 w y2 y3 y5 y6 W8 v4 (l.drop (i + 1)) p') HPS8.out ?_
         clear HPS8
         rintro W8 hps8
         obtain ⟨iv, jv, hb6, hiv, hjv⟩ := hps8.pr
         obtain ⟨ja, jc, hjs⟩ := hjv.form
         have c61 := cell_of_row W8 y6 1 _ _ _ hb6
         have HPS8 := Lib.hid hps8
         cases hls : p'.lines with
         | nil =>
          have hov : overP p' = false := by unfold overP; rw [hls]; rfl
          rw [hls] at hjs
          subst hjs
          have HOV := Lib.hid hov
          clear hps8 hb6 hiv hjv hov
          go_wp2_with fail
          go_roundw
          case rel => exact ⟨l.drop (i + 1), n + 1, f - 1, p', by go_num, by rw [HOV.out], HPS8.out, by omega, by omega, by rw [HDL.out]; omega, HR3.out⟩
          case measure =>
           rw [HV4.out]
           show l.length - (i + 1) < l.length
           omega
         | cons z zs =>
          obtain ⟨a, c, e, -, hcc, -, hx⟩ := hjv.sl
          obtain ⟨m', hm'⟩ : ∃ m', p'.lines.length = m' + 1 := ⟨zs.length, by rw [hls]; rfl⟩
          obtain ⟨b, off, cs, e2, ⟨la, lv, hcs, -⟩, hcx⟩ := hx m' (by omega)
          rw [hm'] at hjs e
          subst hjs
          cases e
          cases e2
          have hnm := hcx 0 _ (by rw [hcs]; rfl)
          have hov : overP p' = decide (p'.lines[m'].name = []) := by
           unfold overP
           rw [List.getLast?_eq_getElem?, show p'.lines.length - 1 = m' by omega, List.getElem?_eq_getElem (show m' < p'.lines.length by omega)]
          generalize p'.lines[m'].name = nm at hnm hov
          have hnm : W8.cell? ⟨b, off + m' * 3, none⟩ = some (.string (str nm)) := hnm
          have hm64 : m' ≤ 65536 := by omega
          have HOV := Lib.hid hov
          clear hps8 hb6 hiv hjv hov hx hcx hcs hls
          go_wp2_with fail
          go_roundw
          case rel => exact ⟨l.drop (i + 1), n + 1, f - 1, p', by go_num, by rw [HOV.out]; cases nm <;> rfl, HPS8.out, by omega, by omega, by rw [HDL.out]; omega, HR3.out⟩
          case measure =>
           rw [HV4.out]
           show l.length - (i + 1) < l.length
           omega
        all_goals skip
      ·have q1 : decide ((i : Int) < (l.length : Int)) = false := decide_eq_false (by omega)
       have htk2 : (takeL (bare l)) = (bare (l.take i), bare (l.drop i)) := by
        rw [HT2.out, List.drop_eq_nil_of_le (by omega)]
        exact Prod.ext rfl (HT4.out (by omega))
       go_upto_region 16 with fail
       clear cL0 cL2 fL0 fL2 HBL
       have hnew := line_new HPS.out HD.out hk HROW.out hc1 hc2 h1 (s.length : Int) 0 (toks_drop HPS.out.toks HD.out hk HROW.out hc1 hc2 i (by omega)) false
       rw [HWL.out, HL.out] at hnew
       refine gen_worldA (fun W2 => PS2 w y2 y3 y5 y6 W2 _ (l.drop i) p ∧ LineI wo L (.slice (some ⟨g, k * 4, none⟩) i (cap - k)) (l.take i) _ W2 0) (hnew _ rfl) ?_
       clear hnew
       have hstep := HR.out
       rw [parse_one hpos hf, htk2] at hstep
       generalize (Value.slice (if cap - k = i then some ⟨g, k * 4, none⟩ else some ⟨g, k * 4 + i * 4, none⟩) (l.length - i) (cap - k - i)) = v4
       rintro W2 ⟨hps2, hli⟩
       obtain ⟨a4, c4, hv4⟩ := hps2.toks.len
       have hdl : (l.drop i).length = l.length - i := List.length_drop
       rw [hdl] at hv4
       have c0 := hli.cells.1
       have hlt' : (l.take i).length = i := by rw [List.length_take]; omega
       have HST := Lib.hid hstep; have HPS2 := Lib.hid hps2; have HLI := Lib.hid hli; have HV4 := Lib.hid hv4; have HDL := Lib.hid hdl; have HLT := Lib.hid hlt'
       clear hstep hps2 hli hv4 hdl hlt' HR htk2
       have hMt : i ≤ l.length := by omega
       have hmea : i ≠ 0 ∨ 0 < i := by omega
       have hL64 := HPS.out.below.size
       skip
       have hi0 : ¬ i = 0 := by omega
       have q0 : ((i : Int) == 0) = false := by rw [beq_eq_false_iff_ne]; omega
       obtain ⟨t, ht⟩ : ∃ t, headT (restT (l.take i) 0) = t := ⟨_, rfl⟩
       have hbt : bare (l.take i) = t :: restT (l.take i) 1 := hd_cons ht (by rw [HLT.out]; omega)
       have hst := HST.out
       rw [hbt] at hst
       have hR1 : ((intoQ VV p n (overP p) t (restT (l.take i) 1)).bind fun p' => parseK VV (f - 1) (bare (l.drop i)) p' (n + 1)) = R := hst
       have hin := into_any HLI.out (HTB.out.below HPS.out.below) ht (by rw [HLT.out]; omega) HPS2.out.pr (by rw [← HL.out]; exact hL64) (by have := HPS2.out.h2; have := HPS2.out.h3; have := HPS2.out.h5; have := HPS2.out.h6; omega) n hn (overP p) ⟨by omega, by omega⟩
       obtain ⟨P, hP⟩ : ∃ P, intoQ VV p n (overP p) t (restT (l.take i) 1) = P := ⟨_, rfl⟩
       rw [hP] at hin hR1
       have HIN := Lib.hid hin; have HR1 := Lib.hid hR1; have HP := Lib.hid hP
       clear hin hR1 hP hst hbt ht HST
       go_wp2_with fail
       refine HIN.out.mono ?_
       rintro _ w3 ⟨hbel, hfr, hko, fa, fx, rfl, hm⟩
       have hps := HPS2.out
       have h26 : y2 ≠ y6 := by have := hps.h3; have := hps.h5; have := hps.h6; omega
       have b2 := hko y2 _ h26 hps.b2
       have b3 := hfr 28 (by decide) (by decide) (by decide) (by decide) _ _ hps.b3
       have b5 := hfr 28 (by decide) (by decide) (by decide) (by decide) _ _ hps.b5
       have tk := hps.toks.keep (hfr 39 (by decide) (by decide) (by decide) (by decide))
       have hb3 := hps.below.trans hbel
       have h25 : y5 ≠ y2 := by have := hps.h3; have := hps.h5; omega
       have h35 : y5 ≠ y3 := by have := hps.h5; omega
       have hw5 : w.heap.size ≤ y5 := by have := hps.h2; have := hps.h3; have := hps.h5; omega
       have H5 := Lib.hid b5; have HM := Lib.hid hm; have HF := Lib.hid (And.intro hb3 (And.intro b2 (And.intro b3 tk)))
       clear b2 b3 b5 tk hb3 hps hbel hfr hko hm HIN c0
       dsimp only
       cases P with
       | none =>
        have hRn : R = none := HR1.out.symm
        have hfx : (fx == 0) = false := HM.out
        go_upto_region 19 with (first | ((with_reducible show wpList _ _ _ ({ dst := none, op := Op.store 28 (.tmp 5) (.tmp _), type := _, pos := _, after := _, guard := _ } :: _) _ _); (refine wpList_storeW rfl 28 _ _ rfl y5 rfl _ _ rfl _ H5.out (by kernel_rfl) (by rfl) (by rfl) ?_); intro w7 hr7 hg7) | ((with_reducible show wpList _ _ _ ({ dst := some _, op := Op.load 28 (.tmp 5), type := _, pos := _, after := _, guard := _ } :: _) _ _); (refine wpList_loadW (by rfl) 28 _ rfl y5 rfl _ _ (0, 0) _ hr7 Tryz.underlying28 rfl (by kernel_rfl) ?_)))
        obtain ⟨hb3, b2, b3, -⟩ := HF.out
        have b27 := block_grown b2 hg7 (fun e => by cases e; exact h25 rfl)
        have b37 := block_grown b3 hg7 (fun e => by cases e; exact h35 rfl)
        have hb7 := hb3.grown hg7 (Nat.le_trans hb3.size (Nat.le_refl _)) (fun g e => by cases e; exact hw5)
        have c50 := cell_of_row w7 y5 0 _ _ _ hr7
        have c51 := cell_of_row w7 y5 1 _ _ _ hr7
        have c20 := cell_of_row w7 y2 0 _ _ _ b27
        have c21 := cell_of_row w7 y2 1 _ _ _ b27
        have f20 := frozen_of_row w7 y2 0 _ _ b27
        have f21 := frozen_of_row w7 y2 1 _ _ b27
        have c30 := cell_of_row w7 y3 0 _ _ _ b37
        have c31 := cell_of_row w7 y3 1 _ _ _ b37
        have f30 := frozen_of_row w7 y3 0 _ _ b37
        have f31 := frozen_of_row w7 y3 1 _ _ b37
        have hend := fun v0 v1 u0 u1 => parse_end hb7 b27 b37 HPS2.out.h2 HPS2.out.h3 v0 v1 u0 u1
        have HEND := Lib.hid hend
        have h23 := HPS2.out.h3
        clear hend hb3 b2 b3 b27 b37 hb7 hg7 hr7 H5 HF
        try dsimp only [Act.put]
        go_region
        go_wp2_with fail
        obtain ⟨z1, z2, z3, -⟩ := HEND.out _ _ _ _ _ (.inr (.inl rfl))
        exact bodyPost_ret (results_parse y2 y3 rfl rfl z1 (by kernel_rfl) z2 (by kernel_rfl)) rfl ⟨z3, _, _, _, _, rfl, by first | exact ⟨hfx, rfl, rfl⟩ | (rw [hRn]; exact ⟨hfx, rfl, rfl⟩)⟩
       | some p' =>
        obtain ⟨rfl, rfl, hpr⟩ := HM.out
        have hlen := into_len HP.out
        have hR3 : parseK VV (f - 1) (bare (l.drop i)) p' (n + 1) = R := HR1.out
        have HPR := Lib.hid hpr; have HR3 := Lib.hid hR3
        clear hpr hR3 HR1 HM HP
        go_upto_region 20 with (first | ((with_reducible show wpList _ _ _ ({ dst := none, op := Op.store 28 (.tmp 5) (.tmp _), type := _, pos := _, after := _, guard := _ } :: _) _ _); (refine wpList_storeW rfl 28 _ _ rfl y5 rfl _ _ rfl _ H5.out (by kernel_rfl) (by rfl) (by rfl) ?_); intro w7 hr7 hg7) | ((with_reducible show wpList _ _ _ ({ dst := some _, op := Op.load 28 (.tmp 5), type := _, pos := _, after := _, guard := _ } :: _) _ _); (refine wpList_loadW (by rfl) 28 _ rfl y5 rfl _ _ (0, 0) _ hr7 Tryz.underlying28 rfl (by kernel_rfl) ?_)))
        obtain ⟨hb3, b2, b3, tk⟩ := HF.out
        have k7 : ∀ u, u ≠ 28 → KeepTy u w3 w7 := fun u hu => KeepTy.grown hg7 (fun g e => by cases e; exact NotTy.of H5.out (Ne.symm hu))
        have hps8 : PS2 w y2 y3 y5 y6 w7 v4 (l.drop i) p' := ⟨hb3.grown hg7 (Nat.le_trans hb3.size (Nat.le_refl _)) (fun g e => by cases e; exact hw5), block_grown b2 hg7 (fun e => by cases e; exact h25 rfl), block_grown b3 hg7 (fun e => by cases e; exact h35 rfl), hr7, HPR.out.keep (fun u hu => k7 u (by rcases hu with h | h | h | h | h | h <;> rw [h] <;> decide)), tk.keep (k7 _ (by decide)), HPS2.out.h2, HPS2.out.h3, HPS2.out.h5, HPS2.out.h6⟩
        have HPS8 := Lib.hid hps8
        clear hb3 b2 b3 tk k7 hps8 hg7 hr7 H5 HF HPR HPS2
        try dsimp only [Act.put]
        refine gen_worldA (fun W8 => PS2 w y2 y3 y5 y6 W8 v4 (l.drop i) p') HPS8.out ?_
        clear HPS8
        rintro W8 hps8
        obtain ⟨iv, jv, hb6, hiv, hjv⟩ := hps8.pr
        obtain ⟨ja, jc, hjs⟩ := hjv.form
        have c61 := cell_of_row W8 y6 1 _ _ _ hb6
        have HPS8 := Lib.hid hps8
        cases hls : p'.lines with
        | nil =>
         have hov : overP p' = false := by unfold overP; rw [hls]; rfl
         rw [hls] at hjs
         subst hjs
         have HOV := Lib.hid hov
         clear hps8 hb6 hiv hjv hov
         go_wp2_with fail
         go_roundw
         case rel => exact ⟨l.drop i, n + 1, f - 1, p', by go_num, by rw [HOV.out], HPS8.out, by omega, by omega, by rw [HDL.out]; omega, HR3.out⟩
         case measure =>
          rw [HV4.out]
          show l.length - i < l.length
          omega
        | cons z zs =>
         obtain ⟨a, c, e, -, hcc, -, hx⟩ := hjv.sl
         obtain ⟨m', hm'⟩ : ∃ m', p'.lines.length = m' + 1 := ⟨zs.length, by rw [hls]; rfl⟩
         obtain ⟨b, off, cs, e2, ⟨la, lv, hcs, -⟩, hcx⟩ := hx m' (by omega)
         rw [hm'] at hjs e
         subst hjs
         cases e
         cases e2
         have hnm := hcx 0 _ (by rw [hcs]; rfl)
         have hov : overP p' = decide (p'.lines[m'].name = []) := by
          unfold overP
          rw [List.getLast?_eq_getElem?, show p'.lines.length - 1 = m' by omega, List.getElem?_eq_getElem (show m' < p'.lines.length by omega)]
         generalize p'.lines[m'].name = nm at hnm hov
         have hnm : W8.cell? ⟨b, off + m' * 3, none⟩ = some (.string (str nm)) := hnm
         have hm64 : m' ≤ 65536 := by omega
         have HOV := Lib.hid hov
         clear hps8 hb6 hiv hjv hov hx hcx hcs hls
         go_wp2_with fail
         go_roundw
         case rel => exact ⟨l.drop i, n + 1, f - 1, p', by go_num, by rw [HOV.out]; cases nm <;> rfl, HPS8.out, by omega, by omega, by rw [HDL.out]; omega, HR3.out⟩
         case measure =>
          rw [HV4.out]
          show l.length - i < l.length
          omega
       all_goals skip
end Go.Proofs.YtokghjnkfabgiaaGreatDoor
