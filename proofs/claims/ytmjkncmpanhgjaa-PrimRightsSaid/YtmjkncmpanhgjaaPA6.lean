import Derived.Test.YtmjkncmpanhgjaaPA5
import Derived.Test.YtmjkncmpanhgjaaPA1
import Derived.Laws.OwnMore
import Derived.OneCell
-- DROPS
namespace Go.Proofs.Ytmjkncmpanhgjaa
set_option linter.unusedVariables false
set_option linter.unusedSimpArgs false
set_option maxRecDepth 100000
open Go.RowKit
attribute [local go_sem] Oper.semAt_some

set_option maxRecDepth 100000 in
set_option maxHeartbeats 4000000 in
theorem lanes_bad (w : World) (a0 a1 : Option Addr) (c0 c1 : Nat) (s d : List Int) (hs : s.length ≤ maxLen) (h0 : IntsAt .i64 w a0 s) (hr : right s d = false ∨ d = []) :
    Calls Try.prog 36 #[.agg #[.slice a0 s.length c0, .slice a1 d.length c1]] w fun e w' => RetRows w.heap.size (lanes s d) e w' ∧ Below w.heap.size w w' := by
  have hq := fun o => right_any (w.alloc o) a0 a1 c0 c1 s d hs (h0.below ((Below.refl _ _).alloc (Nat.le_refl _) _) (Nat.le_refl _))
  cases hr2 : right s d with
  | false =>
    rw [hr2] at hq
    have hl : lanes s d = ([], 60) := by unfold lanes; rw [if_neg (by rw [hr2]; simp)]
    have Hq := Lib.hid hq; have Hl := Lib.hid hl; clear hq hl hr hr2 h0 hs
    refine calls_marks Try.func36 rfl ?_
    simp only [Try.ntmps36, List.size_toArray, List.length_cons, List.length_nil, Nat.reduceAdd, Nat.reduceSub, Array.replicate_succ, Array.replicate_zero, List.push_toArray, List.append_toArray, List.nil_append, List.cons_append]
    go_wp2_with fail
    refine (Hq.out _).mono ?_
    rintro e w1 ⟨rfl, hb1⟩
    go_wp2_with fail
    refine bodyPostM_ret (results_tmp2 rfl _ _ _) rfl ⟨?_, ?_⟩
    · rw [Hl.out]; exact ⟨_, rfl, RowR.nil _ _⟩
    · exact bAfter ((Below.refl _ _).alloc (Nat.le_refl _) _) (by simp) hb1
  | true =>
    obtain rfl : d = [] := by rcases hr with h | h; rw [hr2] at h; cases h; exact h
    rw [hr2] at hq
    have hl : lanes s [] = ([], 0) := by unfold lanes; rw [if_pos hr2]; simp [chunks]
    have Hq := Lib.hid hq; have Hl := Lib.hid hl; clear hq hl hr hr2 h0 hs
    refine calls_marks Try.func36 rfl ?_
    simp only [Try.ntmps36, List.size_toArray, List.length_cons, List.length_nil, Nat.reduceAdd, Nat.reduceSub, Array.replicate_succ, Array.replicate_zero, List.push_toArray, List.append_toArray, List.nil_append, List.cons_append]
    go_wp2_with fail
    refine (Hq.out _).mono ?_
    rintro e w1 ⟨rfl, hb1⟩
    obtain ⟨hcc, hff⟩ := bcell hb1
    have hS1 : w1.cell? ⟨w.heap.size, 1, none⟩ = some (.slice a1 0 c1) := by rw [hcc _ _ (by simp)]; simp [go_sem]
    clear hcc hff
    go_wp2_with fail
    refine bodyPostM_ret (results_tmp2 rfl _ _ _) rfl ⟨?_, ?_⟩
    · rw [Hl.out]; exact ⟨_, rfl, RowR.nil _ _⟩
    · exact bAfter ((Below.refl _ _).alloc (Nat.le_refl _) _) (by simp) hb1

/-- Cells that stay as they were, but for blocks that hold none. -/
theorem ownBlock_cells {B n : Nat} {W : World} {t : TypeId} {v : Value} {vs : List Value} (h : W.ownsRow B t 1 v n vs) {row : Option Nat} (hrow : ∀ r, row = some r → ∃ o : Obj, W.heap[r]? = some o ∧ o.isCells = false) : v.ownBlock = none ∨ v.ownBlock ≠ row := by
  obtain ⟨_, ⟨rfl, _⟩ | ⟨g, cap, cur, rfl, _, hg, _⟩⟩ := h
  · exact .inl rfl
  · exact .inr fun e => not_row hg hrow (by simpa [Value.ownBlock] using e)
theorem RowR.keptNC {B : Nat} {W W' : World} {v : Value} {xss : List (List Int)} (h : RowR B W v xss) {row : Option Nat} (hg : W.grownBy W' row) (hrow : ∀ r, row = some r → ∃ o : Obj, W.heap[r]? = some o ∧ o.isCells = false) : RowR B W' v xss := by
  obtain ⟨vs, h1, h2⟩ := h
  refine ⟨vs, World.ownsRow.kept h1 hg (ownBlock_cells h1 hrow), fun i hi => ?_⟩
  obtain ⟨u, a, b, c⟩ := h2 i hi
  exact ⟨u, a, b.kept hg (ownBlock_cells b hrow), c⟩
theorem RowR.setCell_lt {B : Nat} {w : World} {v : Value} {xss : List (List Int)} (h : RowR B w v xss) {p : Addr} (hp : p.block < B) (u : Value) : RowR B (w.setCell p u) v xss := by
  obtain ⟨vs, h1, h2⟩ := h
  refine ⟨vs, World.ownsRow.kept h1 (grownBy_setCellA w p u) ?_, fun i hi => ?_⟩
  · cases hv : v.ownBlock with
    | none => exact .inl rfl
    | some k => exact .inr fun e => by have := (World.ownsRow.lt h1 k hv).1; cases e; omega
  · obtain ⟨x, a, b, c⟩ := h2 i hi
    exact ⟨x, a, b.setCell_lt hp u, c⟩
theorem ownsRow_slice {B n : Nat} {W : World} {t : TypeId} {v : Value} {vs : List Value} (h : W.ownsRow B t 1 v n vs) : ∃ a cap, v = .slice a n cap := by
  obtain ⟨_, ⟨rfl, h0⟩ | ⟨g, cap, cur, rfl, _⟩⟩ := h
  · rw [h0]; exact ⟨_, _, rfl⟩
  · exact ⟨_, _, rfl⟩
theorem IntsAt.at {k : IntKind} {w : World} {b off : Nat} {xs : List Int} (h : IntsAt k w (some ⟨b, off, none⟩) xs) (l n : Nat) : IntsAt k w (some ⟨b, off + l, none⟩) ((xs.drop l).take n) := by
  intro i hi
  rw [List.length_take, List.length_drop] at hi
  obtain ⟨b', off', e, hc⟩ := h (l + i) (by omega)
  cases e
  refine ⟨b, off + l, rfl, ?_⟩
  rw [List.getElem_take, List.getElem_drop, Nat.add_assoc]; exact hc

/-- Between two rounds of Lanes' loop. -/
def LanesInv (w : World) (d : List Int) (m E B q : Nat) (pre : List (Fin q)) (W : World) : Prop :=
  ∃ v xss, Boxed W E 52 v ∧ RowR B W v xss ∧ xss.length = pre.length ∧ (pre <+: List.finRange q → xss = chunks m d pre.length) ∧ Below w.heap.size w W ∧ B ≤ W.heap.size
theorem LanesInv.own (w : World) (d : List Int) (m E B q K : Nat) (hK : w.heap.size ≤ K) : OwnFrom K (LanesInv w d m E B q) := by
  rintro pre W W' row ⟨v, xss, bE, hx, hxl, hr, hb, hsz⟩ hg hrow
  have hn := fun r e => (hrow r e).2
  exact ⟨v, xss, bE.kept hg (not_row bE hn), hx.keptNC hg hn, hxl, hr, hb.grown hg hb.size (fun k e => Nat.le_trans hK (hrow k e).1), Nat.le_trans hsz hg.size⟩
theorem fin_prefix {n : Nat} {pre : List (Fin n)} {x : Fin n} (h : pre ++ [x] <+: List.finRange n) : pre <+: List.finRange n ∧ x.1 = pre.length := by
  refine ⟨(List.prefix_append _ _).trans h, ?_⟩
  have h1 := h.getElem (i := pre.length) (by simp)
  simp at h1
  rw [h1]

set_option maxRecDepth 100000 in
set_option maxHeartbeats 4000000 in
theorem lanes_good (w : World) (a0 : Option Addr) (b1 off1 : Nat) (c0 c1 ls ld : Nat) (s d : List Int) (m q : Nat) (hls : ls = s.length) (hld : ld = d.length) (hs : ls ≤ 4) (hd0 : 0 < ld) (hd : ld ≤ 65536) (hc1 : ld ≤ c1) (h0 : IntsAt .i64 w a0 s) (h1 : IntsAt .i64 w (some ⟨b1, off1, none⟩) d) (hr : right s d = true)
    (hlast : lastOf s = m) (hm1 : 1 ≤ m) (hm2 : m ≤ 65536) (hq : q * m = ld) :
    Calls Try.prog 36 #[.agg #[.slice a0 ls c0, .slice (some ⟨b1, off1, none⟩) ld c1]] w fun e w' => RetRows w.heap.size (chunks m d q, 0) e w' ∧ Below w.heap.size w w' := by
  have hbb : ∀ o, Below w.heap.size w (w.alloc o) := fun o => (Below.refl _ _).alloc (Nat.le_refl _) _
  have hqr := fun o => right_any (w.alloc o) a0 (some ⟨b1, off1, none⟩) c0 c1 s d (by rw [← hls]; unfold maxLen; omega) (h0.below (hbb o) (Nat.le_refl _))
  rw [hr, ← hls, ← hld] at hqr
  have Hqr := Lib.hid hqr; have H0 := Lib.hid h0; have H1 := Lib.hid h1; have Hq := Lib.hid hq; have Hld := Lib.hid hld; have Hb := Lib.hid hbb
  clear hqr hr hq hbb hld
  rcases Nat.eq_zero_or_pos ls with hz | hz
  · have hsn : s = [] := List.eq_nil_of_length_eq_zero (by omega)
    have hm : m = 1 := by
      have h : lastOf [] = 1 := rfl
      rw [hsn, h] at hlast
      omega
    subst hz
    have hmv : (1 : Int) = (m : Int) := by rw [hm]; rfl
    have Hmv := Lib.hid hmv; clear hmv hm
    clear h0 h1 hlast hls hsn
    refine calls_marks Try.func36 rfl ?_
    simp only [Try.ntmps36, List.size_toArray, List.length_cons, List.length_nil, Nat.reduceAdd, Nat.reduceSub, Array.replicate_succ, Array.replicate_zero, List.push_toArray, List.append_toArray, List.nil_append, List.cons_append]
    go_wp2_with fail
    refine (Hqr.out _).mono ?_
    rintro e w1 ⟨rfl, hb1⟩
    obtain ⟨hcc, hff⟩ := bcell hb1
    have hz1 : w.heap.size < w1.heap.size := by have := hb1.size; simp at this; omega
    have hB1 : Below w.heap.size w w1 := (Hb.out _).trans (hb1.mono (by simp))
    have hS0 : w1.cell? ⟨w.heap.size, 0, none⟩ = some (.slice a0 0 c0) := by rw [hcc _ _ (by simp)]; simp [go_sem]
    have hS1 : w1.cell? ⟨w.heap.size, 1, none⟩ = some (.slice (some ⟨b1, off1, none⟩) ld c1) := by rw [hcc _ _ (by simp)]; simp [go_sem]
    have hS1a : ∀ o, (w1.alloc o).cell? ⟨w.heap.size, 1, none⟩ = some (.slice (some ⟨b1, off1, none⟩) ld c1) := fun o => (World.cell?_alloc_lt _ _ _ (by show w.heap.size < _; omega)).trans hS1
    clear hcc hff hb1
    go_wp2_with fail
    refine (chunk_any (some ⟨b1, off1, none⟩) ld c1 1 _ (by decide)).mono ?_
    rintro e w2 ⟨rfl, hw2⟩
    have hB2 : Below w.heap.size w w2 := by rw [hw2]; exact ((hB1.alloc hB1.size _).alloc (by have := hB1.size; simp; omega) _).alloc (by have := hB1.size; simp; omega) _
    have bE : Boxed w2 w1.heap.size 52 (.slice none 0 0) := by rw [hw2]; exact ((Boxed.new w1 52 (.slice none 0 0)).alloc _).alloc _
    have bS : Boxed w2 (w1.heap.size + 1) 22 (.slice (some ⟨b1, off1, none⟩) ld c1) := by
      rw [hw2]
      have := Boxed.new (w1.alloc (.cells #[.slice none 0 0] 52)) 22 (.slice (some ⟨b1, off1, none⟩) ld c1)
      rw [World.size_alloc] at this
      exact this.alloc _
    have bN : Boxed w2 (w1.heap.size + 1 + 1) 3 (.int .i64 1) := by
      rw [hw2]
      have := Boxed.new ((w1.alloc (.cells #[.slice none 0 0] 52)).alloc (.cells #[.slice (some ⟨b1, off1, none⟩) ld c1] 22)) 3 (.int .i64 1)
      simp only [World.size_alloc] at this
      exact this
    have hsz2 : w2.heap.size = w1.heap.size + 3 := by rw [hw2]; simp
    clear hw2 hS0 hS1 hS1a
    have Hsz2 := Lib.hid hsz2; clear hsz2
    go_wp2_with fail
    refine wpIn_wide.1 (wpIn_rangeFunc_ownG (n := 9) rfl (by omega) (gf := 88) (lb := #[.pointer (some ⟨w1.heap.size + 1, 0, none⟩), .pointer (some ⟨w1.heap.size + 1 + 1, 0, none⟩)]) rfl trivial (fun args w => callFunc_enter Try.func88 (by kernel_rfl) rfl args w)
      (chunk_stops (w1.heap.size + 1) (w1.heap.size + 1 + 1) w.heap.size b1 off1 ld c1 m q Hq.out hc1 (by omega) (by omega) (by omega) _ 1 Hmv.out bS bN) keep2_t (keep2_b hB2.size bS.lt bN.lt) (Below.refl _ _) (fun _ => rfl)
      (LanesInv w d m w1.heap.size (w1.heap.size + 3) q) (fun _ _ _ => False) ?own (fun _ _ _ _ _ hs _ _ => hs) ?start
      (fun x => { tmps := #[Value.agg #[Value.slice a0 0 c0, Value.slice (some { block := b1, off := off1 }) ld c1], Value.pointer (some { block := w.heap.size, off := 0 }), Value.slice none 0 0, Value.int IntKind.i64 0, Value.int IntKind.i64 1, Value.int IntKind.i64 0,
        Value.pointer (some { block := w1.heap.size, off := 0 }), Value.slice (some ⟨b1, off1 + x.1 * m, none⟩) m m, Value.agg #[Value.slice a0 0 c0, Value.slice (some { block := b1, off := off1 }) ld c1], Value.bool true, Value.bool false, Value.pointer (some { block := w.heap.size, off := 1 }),
        Value.slice (some { block := b1, off := off1 }) ld c1, Value.int IntKind.i64 ↑ld, Value.bool false, Value.pointer (some { block := w.heap.size, off := 0 }), Value.slice a0 0 c0, Value.int IntKind.i64 0, Value.int IntKind.i64 0, Value.bool false,
        undef, undef, undef, undef, undef, undef, Value.pointer (some { block := w.heap.size, off := 1 }), Value.slice (some { block := b1, off := off1 }) ld c1, Value.int IntKind.i64 1,
        Value.func (Fn.func 88) #[] #[Value.pointer (some { block := w1.heap.size + 1, off := 0 }), Value.pointer (some { block := w1.heap.size + 1 + 1, off := 0 })], Value.slice (some ⟨b1, off1 + x.1 * m, none⟩) m m,
        undef, undef, undef, undef, undef, undef], defers := [] }) ?assign ?body ?done ?stop)
    case own => exact LanesInv.own _ _ _ _ _ _ _ hB2.size
    case start => exact ⟨_, [], bE, RowR.nil _ _, rfl, fun _ => rfl, hB2, by rw [Hsz2.out]; exact Nat.le_refl _⟩
    case assign =>
      intro l x W K hK
      unfold chunkEnc
      gi_wp2
      exact hK
    case body =>
      rintro l pre x W ⟨v, xss, bEW, ⟨vs, hvo, hvi⟩, hxl, hcond, hBW, hszW⟩ hpl
      have hxm : x.1 * m + m ≤ ld := by
        have h1 : (x.1 + 1) * m ≤ q * m := Nat.mul_le_mul_right m x.2
        rw [Hq.out, Nat.succ_mul] at h1
        exact h1
      have hql : q ≤ 65536 := by
        have h1 : q * 1 ≤ q * m := Nat.mul_le_mul_left q hm1
        rw [Hq.out] at h1; omega
      obtain ⟨ys, hys⟩ : ∃ ys, (d.drop (x.1 * m)).take m = ys := ⟨_, rfl⟩
      have hyl : ys.length = m := by rw [← hys, List.length_take, List.length_drop, ← Hld.out]; omega
      have hyI : ∀ W' : World, Below w.heap.size w W' → IntsAt .i64 W' (some ⟨b1, off1 + x.1 * m, none⟩) ys := fun W' hW' => by rw [← hys]; exact (H1.out.below hW' (Nat.le_refl _)).at (x.1 * m) m
      have hE0 := bEW.cell
      have hEf := bEW.frozen
      have hElt := bEW.lt
      have Hql := Lib.hid hql; have Hyl := Lib.hid hyl; have HyI := Lib.hid hyI; have Hys := Lib.hid hys; have Hvo := Lib.hid hvo; have Hvi := Lib.hid hvi; have Hxl := Lib.hid hxl; have Hcond := Lib.hid hcond; have Hxm := Lib.hid hxm
      clear hql hyl hyI hys hvo hvi hxl hcond hxm hB1 bE bS bN
      obtain ⟨ir, hir, hr0, hr1, hr2⟩ := info_parts Try.infoR
      have Hir := Lib.hid hir; have Hr0 := Lib.hid hr0; have Hr1 := Lib.hid hr1; have Hr2 := Lib.hid hr2; clear hir hr0 hr1 hr2
      gi_wp2
      refine wpIn_region_roundZ (S := fun W' => W'.cell? ⟨w1.heap.size, 0, none⟩ = some v) (z := 5) l 7 (by kernel_rfl) (by kernel_rfl) ?out ?_
      case out => rintro ⟨_, _, h⟩; exact h
      have hSS : (fun W' : World => W'.cell? ⟨w1.heap.size, 0, none⟩ = some v) W.drew := hE0
      refine wpAnyZ_take (i := 0) (v := ?_) rfl (by kernel_rfl) (by kernel_rfl) (by kernel_rfl) (fun _ _ _ h => h) (by kernel_rfl) (Or.inl ⟨by rfl, ?_⟩) (by assumption) ?_
      rotate_left
      · intro w' hSw
        try dsimp only at hSw
        try obtain ⟨hSw, hSw2⟩ := hSw
        go_simp
        try with_reducible rfl
      show wpAnyZ _ _ _ _ _ _ _ _ (Act.put _ (some 31) _) _
      simp only [Act.put, List.setIfInBounds_toArray, List.set_cons_zero, List.set_cons_succ]
      refine wpAnyZ_take (i := 1) (v := ?_) rfl (by kernel_rfl) (by kernel_rfl) (by kernel_rfl) (fun _ _ _ h => h) (by kernel_rfl) (Or.inl ⟨by rfl, ?_⟩) (by assumption) ?_
      rotate_left
      · intro w' hSw
        try dsimp only at hSw
        try obtain ⟨hSw, hSw2⟩ := hSw
        go_simp
        try with_reducible rfl
      show wpAnyZ _ _ _ _ _ _ _ _ (Act.put _ (some 32) _) _
      simp only [Act.put, List.setIfInBounds_toArray, List.set_cons_zero, List.set_cons_succ]
      refine wpAnyZ_one (i := 2) (by kernel_rfl) rfl rfl (fun K hK => ?_)
      go_simp
      have hWd : Below w.heap.size w W.drew := hBW.drew
      refine (clone_n _ _ _ _ ys Hyl.out.symm (by rw [Hyl.out]; omega) (HyI.out _ hWd)).mono ?_
      rintro e w3 ⟨⟨u, rfl, hu⟩, hb3⟩
      have hE3 : w3.cell? ⟨w1.heap.size, 0, none⟩ = some v := (hb3.cell (p := ⟨w1.heap.size, 0, none⟩) hElt).trans hE0
      show K _ w3
      refine hK.out _ _ (.inr hE3) ?_
      clear hK K hSS
      obtain ⟨au, cu, rfl, _, _⟩ := hu.slice
      have hz3 : W.heap.size ≤ w3.heap.size := hb3.size
      have hb3' : Below W.heap.size W w3 := (Below.refl _ _).drew.trans hb3
      have HU := Lib.hid hu; have Hb3 := Lib.hid hb3'; clear hu hb3 hb3' hWd
      refine wpAnyZ_one (i := 3) (by kernel_rfl) rfl rfl (fun K hK => ?_)
      go_simp
      refine hK.out _ _ (.inr ((World.cell?_alloc_lt _ _ _ (by show w1.heap.size < _; omega)).trans hE3)) ?_
      clear hK K
      refine wpAnyZ_one (i := 4) (by kernel_rfl) rfl rfl (fun K hK => ?_)
      have hb3a : ∀ o, Below W.heap.size W (w3.alloc o) := fun o => Hb3.out.alloc Hb3.out.size _
      have hvo3 : ∀ o, (w3.alloc o).ownsRow (w1.heap.size + 3) 22 1 v xss.length vs := fun o => World.ownsRow.kept Hvo.out (grownBy_of_below (hb3a o)) (by cases v.ownBlock <;> simp)
      refine wp_append_own _ _ _ 52 rfl (w1.heap.size + 3) 22 ir (.slice none 0 0) 1 24 Try.underlying52 Hir.out Hr0.out Hr1.out Hr2.out rfl (by decide) v _ _ rfl (hvo3 _) ⟨w3.heap.size, 0, none⟩ 1 1 [.slice au ys.length cu] rfl rfl (fun i z hz => lit_cell w3 _ _ i z hz) (by simp [Value.oneCell']) (by have := Hxl.out; have := Hql.out; unfold maxLen; omega) (by have := Hxl.out; have := Hql.out; omega) (by simp; omega) ?_
      intro v' w5 hown5 hgrow5 _
      have hlow : ∀ k, v.ownBlock = some k → w1.heap.size + 3 ≤ k := fun k e => (World.ownsRow.lt Hvo.out k e).1
      have hb35 : Below (w1.heap.size + 3) W w5 := ((Hb3.out.mono hszW).alloc (by omega) _).grown hgrow5 (by simp; omega) hlow
      have bE5 : Boxed w5 w1.heap.size 52 v := (hb35.block _ (by omega)).trans bEW
      refine hK.out _ _ (.inr bE5.cell) ?_
      clear hK K
      obtain ⟨av', cv', rfl⟩ := ownsRow_slice hown5
      have hro : RowR (w1.heap.size + 3) w5 (.slice av' (xss.length + 1) cv') (xss ++ [ys]) := by
        refine RowR.push (hvo3 _) (fun i hi => ?_) ((HU.out.mono (by simpa using hszW)).below ((Below.refl _ _).alloc (Nat.le_refl _) _)) (fun i z hz => ?_) hown5 hgrow5
        · obtain ⟨z, e1, e2, e3⟩ := Hvi.out i hi
          exact ⟨z, e1, e2.below (hb3a _), e3⟩
        · have hi : i < xss.length := by
            have hl := Hvo.out.1
            by_cases h : i < vs.length
            · omega
            · rw [List.getElem?_eq_none (by omega)] at hz; cases hz
          obtain ⟨z', e1, e2, _⟩ := Hvi.out i hi
          rw [hz] at e1
          cases e1
          exact Apart.of_rows e2 HU.out
      have hcl : ∀ (k : Nat) (o' : Obj) (o : Obj), v.ownBlock = some k → (w3.alloc o).heap[k]? = some o' → o'.isCells = true := fun k o' o e ho => by
        obtain ⟨_, ⟨e', _⟩ | ⟨g, cap, cur, e', _, hg, _⟩⟩ := hvo3 o
        · rw [e'] at e; cases e
        · rw [e'] at e; cases e; rw [hg] at ho; cases ho; rfl
      have hko : KeepsOthers W w5 := ((((KeepsOthers.of_grownBy (grownBy_of_below Hb3.out) (by simp))).trans (KeepsOthers.alloc w3 _)).trans (KeepsOthers.of_grownBy hgrow5 (fun k o' e ho => hcl k o' _ e ho)))
      have hF5 := bE5.frozen
      have hE5 := bE5.cell
      have Hro := Lib.hid hro; have Hko := Lib.hid hko; have Hb35 := Lib.hid hb35
      clear hro hko hb35 hown5 hgrow5 hvo3 hb3a hcl hlow hE3 hE0 hEf
      refine wpAnyZ_one (i := 5) (by kernel_rfl) rfl rfl (fun K hK => ?_)
      go_simp
      refine hK.out _ _ (.inl (by omega)) ?_
      clear hK K
      refine wpAnyZ_done (by kernel_rfl) ?_ _
      gi_wp2
      have hn0 : w.heap.size ≤ w1.heap.size + 3 := by omega
      refine ⟨((Hko.out.trans (KeepsOthers.setCell _ ⟨w1.heap.size, 0, none⟩ _))).from _, ⟨(Hb35.out.mono hn0).setCell (p := ⟨w1.heap.size, 0, none⟩) (by show w.heap.size ≤ w1.heap.size; omega) _, ?_, ?_⟩, _, xss ++ [ys], Boxed.set _ bE5, Hro.out.setCell_lt (by show w1.heap.size < _; omega) _, by simp [Hxl.out], fun hpre => ?_, hBW.trans ((Hb35.out.mono hn0).setCell (p := ⟨w1.heap.size, 0, none⟩) (by show w.heap.size ≤ w1.heap.size; omega) _), by have := Hb35.out.size; simp; omega⟩
      · exact (Below.heap_setCell _ ⟨w1.heap.size, 0, none⟩ _ _ (by simp)).trans (Hb35.out.block _ (by omega))
      · exact (Below.heap_setCell _ ⟨w1.heap.size, 0, none⟩ _ _ (by show w1.heap.size + 1 + 1 ≠ w1.heap.size; omega)).trans (Hb35.out.block _ (by omega))
      · obtain ⟨hp1, hp2⟩ := fin_prefix hpre
        rw [Hcond.out hp1, List.length_append, List.length_singleton, chunks_succ, ← Hys.out, hp2]
    case done =>
      rintro D ys W hD rfl ⟨v, xss, bEW, hx, hxl, hcond, hBW, hszW⟩ hK
      have hxe := hcond (List.prefix_refl _)
      rw [List.length_finRange] at hxe
      subst hxe
      obtain ⟨vs, hvo, hvi⟩ := hx
      have hE0 := bEW.cell
      have Hvo := Lib.hid hvo; have Hvi := Lib.hid hvi; have Hcond := Lib.hid hcond; have Hxl := Lib.hid hxl; clear hvo hvi hcond hxl hB1 bE bS bN
      go_wp2
      refine ⟨by simp, .inl ⟨_, _, rfl, run_takeDeferred hK, ?_⟩⟩
      refine ⟨_, results_tmp2 rfl _ _ _, ⟨_, rfl, ?_⟩, hBW.trans (belowK_b (w := w) (Nat.le_refl _) W D _ _ (by have := hB2.size; omega) hK rfl rfl)⟩
      exact (RowR.keptNC ⟨vs, Hvo.out, Hvi.out⟩ (grownBy_putObj' W D _) (fun r e => by cases e; exact ⟨_, hK, rfl⟩)).mono (by omega)
    case stop =>
      rintro D c' pre W _ _ h _
      exact h.elim
  · have hnil : s ≠ [] := by rintro rfl; simp at hls; omega
    obtain ⟨l1, hl1⟩ : ∃ l1, ls = l1 + 1 := ⟨ls - 1, by omega⟩
    obtain ⟨b0, off, rfl, hcl⟩ : ∃ b off, a0 = some ⟨b, off, none⟩ ∧ w.cell? ⟨b, off + l1, none⟩ = some (.int .i64 m) := by
      obtain ⟨b, off, e, h⟩ := h0 l1 (by omega)
      refine ⟨b, off, e, h.trans ?_⟩
      have : s[l1]'(by omega) = lastOf s := by
        unfold lastOf
        rw [List.getLast?_eq_getElem?, show s.length - 1 = l1 by omega, List.getElem?_eq_getElem (by omega)]
        rfl
      rw [this, hlast]
    have hb0 := World.block_lt_of_cell? w _ hcl
    have Hcl := Lib.hid hcl; clear hcl h0 h1 hnil hlast hls
    have hgt : decide ((0 : Int) < (ls : Int)) = true := by simp; omega
    have ew : IntKind.i64.wrap ((ls : Int) - 1) = (l1 : Int) := by rw [IntWalk.i64_in _ (by omega)]; omega
    have ew2 : wrap64 ((ls : Int) - 1) = (l1 : Int) := by unfold wrap64; omega
    have hi1 : (l1 : Int) < (ls : Int) := by omega
    have hi2 : (0 : Int) ≤ (l1 : Int) := by omega
    have Hl1 := Lib.hid hl1; clear hl1
    refine calls_marks Try.func36 rfl ?_
    simp only [Try.ntmps36, List.size_toArray, List.length_cons, List.length_nil, Nat.reduceAdd, Nat.reduceSub, Array.replicate_succ, Array.replicate_zero, List.push_toArray, List.append_toArray, List.nil_append, List.cons_append]
    go_wp2_with fail
    refine (Hqr.out _).mono ?_
    rintro e w1 ⟨rfl, hb1⟩
    obtain ⟨hcc, hff⟩ := bcell hb1
    have hz1 : w.heap.size < w1.heap.size := by have := hb1.size; simp at this; omega
    have hB1 : Below w.heap.size w w1 := (Hb.out _).trans (hb1.mono (by simp))
    have hS0 : w1.cell? ⟨w.heap.size, 0, none⟩ = some (.slice (some ⟨b0, off, none⟩) ls c0) := by rw [hcc _ _ (by simp)]; simp [go_sem]
    have hS1 : w1.cell? ⟨w.heap.size, 1, none⟩ = some (.slice (some ⟨b1, off1, none⟩) ld c1) := by rw [hcc _ _ (by simp)]; simp [go_sem]
    have hS1a : ∀ o, (w1.alloc o).cell? ⟨w.heap.size, 1, none⟩ = some (.slice (some ⟨b1, off1, none⟩) ld c1) := fun o => (World.cell?_alloc_lt _ _ _ (by show w.heap.size < _; omega)).trans hS1
    have hcx1 : w1.cell? ⟨b0, off + l1, none⟩ = some (.int .i64 m) := (hb1.cell (p := ⟨b0, off + l1, none⟩) (by simp; omega)).trans (((Hb.out _).cell (p := ⟨b0, off + l1, none⟩) hb0).trans Hcl.out)
    clear hcc hff hb1
    go_wp2_with fail
    refine (chunk_any (some ⟨b1, off1, none⟩) ld c1 m _ (by omega)).mono ?_
    rintro e w2 ⟨rfl, hw2⟩
    have hB2 : Below w.heap.size w w2 := by rw [hw2]; exact ((hB1.alloc hB1.size _).alloc (by have := hB1.size; simp; omega) _).alloc (by have := hB1.size; simp; omega) _
    have bE : Boxed w2 w1.heap.size 52 (.slice none 0 0) := by rw [hw2]; exact ((Boxed.new w1 52 (.slice none 0 0)).alloc _).alloc _
    have bS : Boxed w2 (w1.heap.size + 1) 22 (.slice (some ⟨b1, off1, none⟩) ld c1) := by
      rw [hw2]
      have := Boxed.new (w1.alloc (.cells #[.slice none 0 0] 52)) 22 (.slice (some ⟨b1, off1, none⟩) ld c1)
      rw [World.size_alloc] at this
      exact this.alloc _
    have bN : Boxed w2 (w1.heap.size + 1 + 1) 3 (.int .i64 (m : Int)) := by
      rw [hw2]
      have := Boxed.new ((w1.alloc (.cells #[.slice none 0 0] 52)).alloc (.cells #[.slice (some ⟨b1, off1, none⟩) ld c1] 22)) 3 (.int .i64 (m : Int))
      simp only [World.size_alloc] at this
      exact this
    have hsz2 : w2.heap.size = w1.heap.size + 3 := by rw [hw2]; simp
    clear hw2 hS0 hS1 hS1a
    have Hsz2 := Lib.hid hsz2; clear hsz2
    go_wp2_with fail
    refine wpIn_wide.1 (wpIn_rangeFunc_ownG (n := 9) rfl (by omega) (gf := 88) (lb := #[.pointer (some ⟨w1.heap.size + 1, 0, none⟩), .pointer (some ⟨w1.heap.size + 1 + 1, 0, none⟩)]) rfl trivial (fun args w => callFunc_enter Try.func88 (by kernel_rfl) rfl args w)
      (chunk_stops (w1.heap.size + 1) (w1.heap.size + 1 + 1) w.heap.size b1 off1 ld c1 m q Hq.out hc1 (by omega) (by omega) (by omega) _ (m : Int) rfl bS bN) keep2_t (keep2_b hB2.size bS.lt bN.lt) (Below.refl _ _) (fun _ => rfl)
      (LanesInv w d m w1.heap.size (w1.heap.size + 3) q) (fun _ _ _ => False) ?own (fun _ _ _ _ _ hs _ _ => hs) ?start
      (fun x => { tmps := #[Value.agg #[Value.slice (some ⟨b0, off, none⟩) ls c0, Value.slice (some { block := b1, off := off1 }) ld c1], Value.pointer (some { block := w.heap.size, off := 0 }), Value.slice none 0 0, Value.int IntKind.i64 0, Value.int IntKind.i64 ↑m, Value.int IntKind.i64 ↑ls,
        Value.pointer (some { block := w1.heap.size, off := 0 }), Value.slice (some ⟨b1, off1 + x.1 * m, none⟩) m m, Value.agg #[Value.slice (some ⟨b0, off, none⟩) ls c0, Value.slice (some { block := b1, off := off1 }) ld c1], Value.bool true, Value.bool false, Value.pointer (some { block := w.heap.size, off := 1 }),
        Value.slice (some { block := b1, off := off1 }) ld c1, Value.int IntKind.i64 ↑ld, Value.bool false, Value.pointer (some { block := w.heap.size, off := 0 }), Value.slice (some ⟨b0, off, none⟩) ls c0, Value.int IntKind.i64 ↑ls, Value.int IntKind.i64 ↑ls, Value.bool true,
        Value.pointer (some { block := w.heap.size, off := 0 }), Value.slice (some { block := b0, off := off }) ls c0, Value.int IntKind.i64 ↑ls, Value.int IntKind.i64 ↑l1, Value.pointer (some { block := b0, off := off + l1 }), Value.int IntKind.i64 ↑m, Value.pointer (some { block := w.heap.size, off := 1 }), Value.slice (some { block := b1, off := off1 }) ld c1, Value.int IntKind.i64 ↑m,
        Value.func (Fn.func 88) #[] #[Value.pointer (some { block := w1.heap.size + 1, off := 0 }), Value.pointer (some { block := w1.heap.size + 1 + 1, off := 0 })], Value.slice (some ⟨b1, off1 + x.1 * m, none⟩) m m,
        undef, undef, undef, undef, undef, undef], defers := [] }) ?assign ?body ?done ?stop)
    case own => exact LanesInv.own _ _ _ _ _ _ _ hB2.size
    case start => exact ⟨_, [], bE, RowR.nil _ _, rfl, fun _ => rfl, hB2, by rw [Hsz2.out]; exact Nat.le_refl _⟩
    case assign =>
      intro l x W K hK
      unfold chunkEnc
      gi_wp2
      exact hK
    case body =>
      rintro l pre x W ⟨v, xss, bEW, ⟨vs, hvo, hvi⟩, hxl, hcond, hBW, hszW⟩ hpl
      have hxm : x.1 * m + m ≤ ld := by
        have h1 : (x.1 + 1) * m ≤ q * m := Nat.mul_le_mul_right m x.2
        rw [Hq.out, Nat.succ_mul] at h1
        exact h1
      have hql : q ≤ 65536 := by
        have h1 : q * 1 ≤ q * m := Nat.mul_le_mul_left q hm1
        rw [Hq.out] at h1; omega
      obtain ⟨ys, hys⟩ : ∃ ys, (d.drop (x.1 * m)).take m = ys := ⟨_, rfl⟩
      have hyl : ys.length = m := by rw [← hys, List.length_take, List.length_drop, ← Hld.out]; omega
      have hyI : ∀ W' : World, Below w.heap.size w W' → IntsAt .i64 W' (some ⟨b1, off1 + x.1 * m, none⟩) ys := fun W' hW' => by rw [← hys]; exact (H1.out.below hW' (Nat.le_refl _)).at (x.1 * m) m
      have hE0 := bEW.cell
      have hEf := bEW.frozen
      have hElt := bEW.lt
      have Hql := Lib.hid hql; have Hyl := Lib.hid hyl; have HyI := Lib.hid hyI; have Hys := Lib.hid hys; have Hvo := Lib.hid hvo; have Hvi := Lib.hid hvi; have Hxl := Lib.hid hxl; have Hcond := Lib.hid hcond; have Hxm := Lib.hid hxm
      clear hql hyl hyI hys hvo hvi hxl hcond hxm hB1 bE bS bN
      obtain ⟨ir, hir, hr0, hr1, hr2⟩ := info_parts Try.infoR
      have Hir := Lib.hid hir; have Hr0 := Lib.hid hr0; have Hr1 := Lib.hid hr1; have Hr2 := Lib.hid hr2; clear hir hr0 hr1 hr2
      gi_wp2
      refine wpIn_region_roundZ (S := fun W' => W'.cell? ⟨w1.heap.size, 0, none⟩ = some v) (z := 5) l 7 (by kernel_rfl) (by kernel_rfl) ?out ?_
      case out => rintro ⟨_, _, h⟩; exact h
      have hSS : (fun W' : World => W'.cell? ⟨w1.heap.size, 0, none⟩ = some v) W.drew := hE0
      refine wpAnyZ_take (i := 0) (v := ?_) rfl (by kernel_rfl) (by kernel_rfl) (by kernel_rfl) (fun _ _ _ h => h) (by kernel_rfl) (Or.inl ⟨by rfl, ?_⟩) (by assumption) ?_
      rotate_left
      · intro w' hSw
        try dsimp only at hSw
        try obtain ⟨hSw, hSw2⟩ := hSw
        go_simp
        try with_reducible rfl
      show wpAnyZ _ _ _ _ _ _ _ _ (Act.put _ (some 31) _) _
      simp only [Act.put, List.setIfInBounds_toArray, List.set_cons_zero, List.set_cons_succ]
      refine wpAnyZ_take (i := 1) (v := ?_) rfl (by kernel_rfl) (by kernel_rfl) (by kernel_rfl) (fun _ _ _ h => h) (by kernel_rfl) (Or.inl ⟨by rfl, ?_⟩) (by assumption) ?_
      rotate_left
      · intro w' hSw
        try dsimp only at hSw
        try obtain ⟨hSw, hSw2⟩ := hSw
        go_simp
        try with_reducible rfl
      show wpAnyZ _ _ _ _ _ _ _ _ (Act.put _ (some 32) _) _
      simp only [Act.put, List.setIfInBounds_toArray, List.set_cons_zero, List.set_cons_succ]
      refine wpAnyZ_one (i := 2) (by kernel_rfl) rfl rfl (fun K hK => ?_)
      go_simp
      have hWd : Below w.heap.size w W.drew := hBW.drew
      refine (clone_n _ _ _ _ ys Hyl.out.symm (by rw [Hyl.out]; omega) (HyI.out _ hWd)).mono ?_
      rintro e w3 ⟨⟨u, rfl, hu⟩, hb3⟩
      have hE3 : w3.cell? ⟨w1.heap.size, 0, none⟩ = some v := (hb3.cell (p := ⟨w1.heap.size, 0, none⟩) hElt).trans hE0
      show K _ w3
      refine hK.out _ _ (.inr hE3) ?_
      clear hK K hSS
      obtain ⟨au, cu, rfl, _, _⟩ := hu.slice
      have hz3 : W.heap.size ≤ w3.heap.size := hb3.size
      have hb3' : Below W.heap.size W w3 := (Below.refl _ _).drew.trans hb3
      have HU := Lib.hid hu; have Hb3 := Lib.hid hb3'; clear hu hb3 hb3' hWd
      refine wpAnyZ_one (i := 3) (by kernel_rfl) rfl rfl (fun K hK => ?_)
      go_simp
      refine hK.out _ _ (.inr ((World.cell?_alloc_lt _ _ _ (by show w1.heap.size < _; omega)).trans hE3)) ?_
      clear hK K
      refine wpAnyZ_one (i := 4) (by kernel_rfl) rfl rfl (fun K hK => ?_)
      have hb3a : ∀ o, Below W.heap.size W (w3.alloc o) := fun o => Hb3.out.alloc Hb3.out.size _
      have hvo3 : ∀ o, (w3.alloc o).ownsRow (w1.heap.size + 3) 22 1 v xss.length vs := fun o => World.ownsRow.kept Hvo.out (grownBy_of_below (hb3a o)) (by cases v.ownBlock <;> simp)
      refine wp_append_own _ _ _ 52 rfl (w1.heap.size + 3) 22 ir (.slice none 0 0) 1 24 Try.underlying52 Hir.out Hr0.out Hr1.out Hr2.out rfl (by decide) v _ _ rfl (hvo3 _) ⟨w3.heap.size, 0, none⟩ 1 1 [.slice au ys.length cu] rfl rfl (fun i z hz => lit_cell w3 _ _ i z hz) (by simp [Value.oneCell']) (by have := Hxl.out; have := Hql.out; unfold maxLen; omega) (by have := Hxl.out; have := Hql.out; omega) (by simp; omega) ?_
      intro v' w5 hown5 hgrow5 _
      have hlow : ∀ k, v.ownBlock = some k → w1.heap.size + 3 ≤ k := fun k e => (World.ownsRow.lt Hvo.out k e).1
      have hb35 : Below (w1.heap.size + 3) W w5 := ((Hb3.out.mono hszW).alloc (by omega) _).grown hgrow5 (by simp; omega) hlow
      have bE5 : Boxed w5 w1.heap.size 52 v := (hb35.block _ (by omega)).trans bEW
      refine hK.out _ _ (.inr bE5.cell) ?_
      clear hK K
      obtain ⟨av', cv', rfl⟩ := ownsRow_slice hown5
      have hro : RowR (w1.heap.size + 3) w5 (.slice av' (xss.length + 1) cv') (xss ++ [ys]) := by
        refine RowR.push (hvo3 _) (fun i hi => ?_) ((HU.out.mono (by simpa using hszW)).below ((Below.refl _ _).alloc (Nat.le_refl _) _)) (fun i z hz => ?_) hown5 hgrow5
        · obtain ⟨z, e1, e2, e3⟩ := Hvi.out i hi
          exact ⟨z, e1, e2.below (hb3a _), e3⟩
        · have hi : i < xss.length := by
            have hl := Hvo.out.1
            by_cases h : i < vs.length
            · omega
            · rw [List.getElem?_eq_none (by omega)] at hz; cases hz
          obtain ⟨z', e1, e2, _⟩ := Hvi.out i hi
          rw [hz] at e1
          cases e1
          exact Apart.of_rows e2 HU.out
      have hcl : ∀ (k : Nat) (o' : Obj) (o : Obj), v.ownBlock = some k → (w3.alloc o).heap[k]? = some o' → o'.isCells = true := fun k o' o e ho => by
        obtain ⟨_, ⟨e', _⟩ | ⟨g, cap, cur, e', _, hg, _⟩⟩ := hvo3 o
        · rw [e'] at e; cases e
        · rw [e'] at e; cases e; rw [hg] at ho; cases ho; rfl
      have hko : KeepsOthers W w5 := ((((KeepsOthers.of_grownBy (grownBy_of_below Hb3.out) (by simp))).trans (KeepsOthers.alloc w3 _)).trans (KeepsOthers.of_grownBy hgrow5 (fun k o' e ho => hcl k o' _ e ho)))
      have hF5 := bE5.frozen
      have hE5 := bE5.cell
      have Hro := Lib.hid hro; have Hko := Lib.hid hko; have Hb35 := Lib.hid hb35
      clear hro hko hb35 hown5 hgrow5 hvo3 hb3a hcl hlow hE3 hE0 hEf
      refine wpAnyZ_one (i := 5) (by kernel_rfl) rfl rfl (fun K hK => ?_)
      go_simp
      refine hK.out _ _ (.inl (by omega)) ?_
      clear hK K
      refine wpAnyZ_done (by kernel_rfl) ?_ _
      gi_wp2
      have hn0 : w.heap.size ≤ w1.heap.size + 3 := by omega
      refine ⟨((Hko.out.trans (KeepsOthers.setCell _ ⟨w1.heap.size, 0, none⟩ _))).from _, ⟨(Hb35.out.mono hn0).setCell (p := ⟨w1.heap.size, 0, none⟩) (by show w.heap.size ≤ w1.heap.size; omega) _, ?_, ?_⟩, _, xss ++ [ys], Boxed.set _ bE5, Hro.out.setCell_lt (by show w1.heap.size < _; omega) _, by simp [Hxl.out], fun hpre => ?_, hBW.trans ((Hb35.out.mono hn0).setCell (p := ⟨w1.heap.size, 0, none⟩) (by show w.heap.size ≤ w1.heap.size; omega) _), by have := Hb35.out.size; simp; omega⟩
      · exact (Below.heap_setCell _ ⟨w1.heap.size, 0, none⟩ _ _ (by simp)).trans (Hb35.out.block _ (by omega))
      · exact (Below.heap_setCell _ ⟨w1.heap.size, 0, none⟩ _ _ (by show w1.heap.size + 1 + 1 ≠ w1.heap.size; omega)).trans (Hb35.out.block _ (by omega))
      · obtain ⟨hp1, hp2⟩ := fin_prefix hpre
        rw [Hcond.out hp1, List.length_append, List.length_singleton, chunks_succ, ← Hys.out, hp2]
    case done =>
      rintro D ys W hD rfl ⟨v, xss, bEW, hx, hxl, hcond, hBW, hszW⟩ hK
      have hxe := hcond (List.prefix_refl _)
      rw [List.length_finRange] at hxe
      subst hxe
      obtain ⟨vs, hvo, hvi⟩ := hx
      have hE0 := bEW.cell
      have Hvo := Lib.hid hvo; have Hvi := Lib.hid hvi; have Hcond := Lib.hid hcond; have Hxl := Lib.hid hxl; clear hvo hvi hcond hxl hB1 bE bS bN
      go_wp2
      refine ⟨by simp, .inl ⟨_, _, rfl, run_takeDeferred hK, ?_⟩⟩
      refine ⟨_, results_tmp2 rfl _ _ _, ⟨_, rfl, ?_⟩, hBW.trans (belowK_b (w := w) (Nat.le_refl _) W D _ _ (by have := hB2.size; omega) hK rfl rfl)⟩
      exact (RowR.keptNC ⟨vs, Hvo.out, Hvi.out⟩ (grownBy_putObj' W D _) (fun r e => by cases e; exact ⟨_, hK, rfl⟩)).mono (by omega)
    case stop =>
      rintro D c' pre W _ _ h _
      exact h.elim

theorem lanes_any (w : World) (a0 a1 : Option Addr) (c0 c1 : Nat) (s d : List Int) (hs : s.length ≤ maxLen) (hc1 : d.length ≤ c1) (h0 : IntsAt .i64 w a0 s) (h1 : IntsAt .i64 w a1 d) :
    Calls Try.prog 36 #[.agg #[.slice a0 s.length c0, .slice a1 d.length c1]] w fun e w' => RetRows w.heap.size (lanes s d) e w' ∧ Below w.heap.size w w' := by
  cases hr : right s d with
  | false => exact lanes_bad w a0 a1 c0 c1 s d hs h0 (.inl hr)
  | true =>
    by_cases hd0 : d = []
    · exact lanes_bad w a0 a1 c0 c1 s d hs h0 (.inr hd0)
    · obtain ⟨_, g⟩ := right_good hr
      have hp : 0 < d.length := List.length_pos_iff.2 hd0
      obtain ⟨m, q, e1, e2, e3, e4⟩ := lanes_facts hr hp
      obtain ⟨b1, off1, rfl, _⟩ := h1 0 hp
      have hl : lanes s d = (chunks m d q, 0) := by
        unfold lanes
        rw [if_pos hr, e1, ← e4]
        simp only [Int.toNat_natCast]
        rw [Nat.mul_div_cancel _ (by omega)]
      rw [hl]
      exact lanes_good w a0 b1 off1 c0 c1 _ _ s d m q rfl rfl g.len hp (by have := g.le; omega) hc1 h0 h1 hr e1 e2 e3 e4

/-- Such rows are a slice of slices that read as xss. -/
theorem RowR.slice {B : Nat} {w : World} {v : Value} {xss : List (List Int)} (h : RowR B w v xss) : ∃ a cap, v = .slice a xss.length cap ∧ xss.length ≤ maxLen ∧
    ∀ i, (hi : i < xss.length) → ∃ b off u, a = some ⟨b, off, none⟩ ∧ w.cell? ⟨b, off + i, none⟩ = some u ∧ RowI B w u xss[i] := by
  obtain ⟨vs, ⟨h1, h2⟩, hin⟩ := h
  rcases h2 with ⟨hv, hn⟩ | ⟨g, cap, cur, hv, hB, hg, hnc, hcm, hcs, ht⟩
  · exact ⟨none, 0, by rw [hv, hn], by rw [hn]; exact Nat.zero_le _, fun i hi => absurd hi (by omega)⟩
  · refine ⟨some ⟨g, 0, none⟩, cap, hv, Nat.le_trans hnc hcm, fun i hi => ?_⟩
    obtain ⟨u, e1, e2, _⟩ := hin i hi
    refine ⟨g, 0, u, rfl, ?_, e2⟩
    rw [Nat.zero_add, cell_of_row w g i cur 22 (0, 0) hg]
    have : (cur.toList.take (xss.length * 1))[i]? = some u := by rw [ht]; exact e1
    rw [List.getElem?_take, if_pos (by omega)] at this
    simpa using this
end Go.Proofs.Ytmjkncmpanhgjaa

namespace Go.Proofs.Ytmjkncmpanhgjaa
set_option linter.unusedVariables false
set_option linter.unusedSimpArgs false
set_option maxRecDepth 100000
open Go.RowKit

/-- From w to w', of the blocks that w has, those of S alone may have turned. -/
structure KB (S : Nat → Prop) (w w' : World) : Prop where
  os : w'.os = w.os
  tape : w'.tape = w.tape
  output : w'.output = w.output
  size : w.heap.size ≤ w'.heap.size
  block : ∀ g, g < w.heap.size → ¬ S g → w'.heap[g]? = w.heap[g]?

theorem KB.refl (S : Nat → Prop) (w : World) : KB S w w := ⟨rfl, rfl, rfl, Nat.le_refl _, fun _ _ _ => rfl⟩
theorem KB.trans {S : Nat → Prop} {a b c : World} (h : KB S a b) (k : KB S b c) : KB S a c :=
  ⟨k.os.trans h.os, k.tape.trans h.tape, k.output.trans h.output, Nat.le_trans h.size k.size, fun g hg hs => (k.block g (Nat.lt_of_lt_of_le hg h.size) hs).trans (h.block g hg hs)⟩
theorem KB.mono {S S' : Nat → Prop} {w w' : World} (h : KB S w w') (hs : ∀ g, g < w.heap.size → S g → S' g) : KB S' w w' := ⟨h.os, h.tape, h.output, h.size, fun g hg hn => h.block g hg (fun e => hn (hs g hg e))⟩
theorem KB.of_below {S : Nat → Prop} {w w' : World} {B : Nat} (h : Below B w w') (hs : ∀ g, B ≤ g → g < w.heap.size → S g) : KB S w w' :=
  ⟨h.os, h.tape, h.output, h.size, fun g hg hn => h.block g (Nat.lt_of_not_le fun e => hn (hs g e hg))⟩
theorem KB.then_below {S : Nat → Prop} {a w w' : World} (h : KB S a w) {B : Nat} (k : Below B w w') (hs : ∀ g, B ≤ g → g < a.heap.size → S g) : KB S a w' :=
  ⟨k.os.trans h.os, k.tape.trans h.tape, k.output.trans h.output, Nat.le_trans h.size k.size, fun g hg hn => (k.block g (Nat.lt_of_not_le fun e => hn (hs g e hg))).trans (h.block g hg hn)⟩
theorem KB.grown {S : Nat → Prop} {a w w' : World} {row : Option Nat} (h : KB S a w) (hg : w.grownBy w' row) (hr : ∀ k, row = some k → k < a.heap.size → S k) : KB S a w' :=
  ⟨hg.os.trans h.os, hg.tape.trans h.tape, hg.output.trans h.output, Nat.le_trans h.size hg.size, fun g hgl hn => (hg.block g (Nat.lt_of_lt_of_le hgl h.size) (fun e => hn (hr g e.symm hgl))).trans (h.block g hgl hn)⟩
theorem KB.alloc {S : Nat → Prop} {a w : World} (h : KB S a w) (o : Obj) : KB S a (w.alloc o) := h.then_below ((Below.refl w.heap.size w).alloc (Nat.le_refl _) o) (fun g hg hl => absurd (Nat.lt_of_lt_of_le hl h.size) (by omega))
theorem KB.drew {S : Nat → Prop} {a w : World} (h : KB S a w) : KB S a w.drew := ⟨h.os, h.tape, h.output, h.size, h.block⟩
theorem KB.drewN {S : Nat → Prop} {a w : World} (h : KB S a w) (n : Nat) : KB S a (w.drewN n) := ⟨h.os, h.tape, h.output, h.size, h.block⟩
theorem KB.setCell {S : Nat → Prop} {a w : World} (h : KB S a w) {p : Addr} (hp : p.block < a.heap.size → S p.block) (u : Value) : KB S a (w.setCell p u) :=
  ⟨h.os, h.tape, h.output, by simpa using h.size, fun g hg hn => (Below.heap_setCell w p u g (fun e => hn (by subst e; exact hp hg))).trans (h.block g hg hn)⟩
theorem KB.below {S : Nat → Prop} {w w' : World} (h : KB S w w') {B : Nat} (hB : B ≤ w.heap.size) (hs : ∀ g, S g → B ≤ g) : Below B w w' :=
  ⟨h.os, h.tape, h.output, h.size, fun g hg => h.block g (Nat.lt_of_lt_of_le hg hB) (fun e => by have := hs g e; omega)⟩
theorem KB.cell {S : Nat → Prop} {w w' : World} (h : KB S w w') {p : Addr} (hp : p.block < w.heap.size) (hs : ¬ S p.block) : w'.cell? p = w.cell? p := World.cell?_of_block (w := w) (h.block p.block hp hs)
theorem KB.frozen {S : Nat → Prop} {w w' : World} (h : KB S w w') {p : Addr} (hp : p.block < w.heap.size) (hs : ¬ S p.block) : w'.frozen? p = w.frozen? p := World.frozen?_of_block (w := w) (h.block p.block hp hs)
/-- A row whose block has not turned. -/
theorem KB.row {S : Nat → Prop} {w w' : World} (h : KB S w w') {B : Nat} {e : TypeId} {size n : Nat} {v : Value} {xs : List Value} (hv : w.ownsRow B e size v n xs) (hs : ∀ g, v.ownBlock = some g → ¬ S g) : w'.ownsRow B e size v n xs := by
  obtain ⟨h1, h2 | ⟨g, cap, cur, rfl, hb, hg, h3⟩⟩ := hv
  · exact ⟨h1, .inl h2⟩
  · exact ⟨h1, .inr ⟨g, cap, cur, rfl, hb, (h.block g (Array.getElem?_eq_some_iff.1 hg).1 (hs g rfl)).trans hg, h3⟩⟩

/-- What append hands back lies where it lay, or in a new block. -/
def Newer (w : World) (v v' : Value) : Prop := v'.ownBlock = v.ownBlock ∨ ∃ k, v'.ownBlock = some k ∧ w.heap.size ≤ k

section
variable {P : Program} (w : World)
theorem run_append_newer (base : Nat) (t ty e : TypeId) (i : TypeInfo) (z : Value) (ht : P.underlying t = some (.slice e)) (hi : P.info? e = some i) (hz : i.zero = some z)
    (v : Value) (n : Nat) (xs : List Value) (hown : w.ownsRow base e i.size v n xs)
    (a : Addr) (m c : Nat) (news : List Value) (hl : news.length = m * i.size) (hnews : ∀ j u, news[j]? = some u → w.cell? (a.add j) = some u) (h1 : ∀ u ∈ news, u.oneCell' = true)
    (h63 : n + m ≤ maxLen) (hbytes : (n + m) * i.bytes ≤ 140737488355328) (v' : Value) (w' : World)
    (hr : (Builtin.append_ #[t, t] ty #[v, .slice (some a) m c]).run P w = .ok v' w') : Newer w v v' := by
  have hsmall : n + m ≤ 9223372036854775807 := by simp only [maxLen] at h63; omega
  rcases hown.2 with ⟨rfl, rfl⟩ | ⟨g, cap, cur, rfl, hbg, hg, hnc, hcm, hcs, htake⟩
  · by_cases hm : m = 0
    · subst hm
      have hn : news = [] := List.eq_nil_of_length_eq_zero (by simpa using hl)
      have : (Builtin.append_ #[t, t] ty #[.slice none 0 0, .slice (some a) 0 c]).run P w = .ok (.slice none 0 0) w := by
        simp [Builtin.append_, run_underlying ht, sizeOf, typeInfo, hi, Builtin.lenOf, Builtin.firstCells, loadCells, loadCellsFrom]
      rw [this] at hr
      cases hr
      exact .inl rfl
    · have := run_append_nil (P := P) w t ty e i z ht hi hz a m c news hl hnews (by omega) (by omega) (by have hb := hbytes; simp only [Nat.zero_add] at hb; omega)
      rw [this] at hr
      cases hr
      exact .inr ⟨_, rfl, Nat.le_refl _⟩
  · by_cases hroom : n + m ≤ cap
    · have := run_append_room (P := P) w t ty e i ht hi g n cap cur hg a m c news hl hnews h1 hroom (by rw [hl, hcs, ← Nat.add_mul]; exact Nat.mul_le_mul_right _ hroom)
      rw [this] at hr
      cases hr
      exact .inl rfl
    · have := run_append_grow (P := P) w t ty e i z ht hi hz ⟨g, 0, none⟩ n cap xs hown.1 (hown.cells (g := g) rfl) a m c news hl hnews (by omega) (by omega) (growslice_fits (by omega) hbytes)
      rw [this] at hr
      cases hr
      exact .inr ⟨_, rfl, Nat.le_refl _⟩

/-- append onto a row of the call's own; where what it hands back lies. -/
theorem wp_append_newer {o : Oper} {a : Act} {K : Act → World → Prop} {Q : Exit → Act → World → Prop} (s x : Operand) (t : TypeId)
    (ho : o.op = .call { callee := .builtin .append, args := #[s, x], argTypes := #[t, t] })
    (base : Nat) (e : TypeId) (i : TypeInfo) (z : Value) (size bytes : Nat) (ht : P.underlying t = some (.slice e)) (hi : P.info? e = some i) (hz : i.zero = some z)
    (hsize : i.size = size) (hby : i.bytes = bytes) (hzs : z.cells.size = size) (hsz : 0 < size)
    (v : Value) (n : Nat) (xs : List Value) (hs : a.eval s = v) (hown : w.ownsRow base e size v n xs)
    (ad : Addr) (m c : Nat) (news : List Value) (hx : a.eval x = .slice (some ad) m c) (hl : news.length = m * size) (hnews : ∀ j u, news[j]? = some u → w.cell? (ad.add j) = some u) (h1 : ∀ u ∈ news, u.oneCell' = true)
    (h63 : n + m ≤ maxLen) (hbytes : (n + m) * bytes ≤ 140737488355328) (hbase : base ≤ w.heap.size)
    (h : ∀ v' w', w'.ownsRow base e size v' (n + m) (xs ++ news) → w.grownBy w' v.ownBlock → Newer w v v' → K (a.put o.dst v') w') : o.wp P a w K Q := by
  obtain ⟨v', w', hr, h2, h3, h4⟩ := run_append_own (P := P) w base t o.type e i z size bytes ht hi hz hsize hby hzs hsz v n xs hown ad m c news hl hnews h1 h63 hbytes hbase
  have h5 := run_append_newer (P := P) w base t o.type e i z ht hi hz v n xs (by rw [hsize]; exact hown) ad m c news (by rw [hsize]; exact hl) hnews h1 h63 (by rw [hby]; exact hbytes) v' w' hr
  unfold Oper.wp execOp
  simp only [ho, resolve, invoke, builtin, Sem.run_bind, Sem.run_pure, Result.andThen_ok, List.map_toArray, List.map_cons, List.map_nil, hs, hx, hr]
  exact h v' w' h2 h3 h5
theorem wpList_append_newer {ops : Array Oper} {rest : List Oper} {o : Oper} {a : Act} {Q : Exit → Act → World → Prop} (hgd : o.guard = none) (s x : Operand) (t : TypeId)
    (ho : o.op = .call { callee := .builtin .append, args := #[s, x], argTypes := #[t, t] })
    (base : Nat) (e : TypeId) (i : TypeInfo) (z : Value) (size bytes : Nat) (ht : P.underlying t = some (.slice e)) (hi : P.info? e = some i) (hz : i.zero = some z)
    (hsize : i.size = size) (hby : i.bytes = bytes) (hzs : z.cells.size = size) (hsz : 0 < size)
    (v : Value) (n : Nat) (xs : List Value) (hs : a.eval s = v) (hown : w.ownsRow base e size v n xs)
    (ad : Addr) (m c : Nat) (news : List Value) (hx : a.eval x = .slice (some ad) m c) (hl : news.length = m * size) (hnews : ∀ j u, news[j]? = some u → w.cell? (ad.add j) = some u) (h1 : ∀ u ∈ news, u.oneCell' = true)
    (h63 : n + m ≤ maxLen) (hbytes : (n + m) * bytes ≤ 140737488355328) (hbase : base ≤ w.heap.size)
    (h : ∀ v' w', w'.ownsRow base e size v' (n + m) (xs ++ news) → w.grownBy w' v.ownBlock → Newer w v v' → wpList P ops Q rest (a.put o.dst v') w') : wpList P ops Q (o :: rest) a w :=
  wpList_plain hgd fun _ hK => wp_append_newer w s x t ho base e i z size bytes ht hi hz hsize hby hzs hsz v n xs hs hown ad m c news hx hl hnews h1 h63 hbytes hbase fun v' w' h2 h3 h4 => hK _ _ (h v' w' h2 h3 h4)

/-- The slice u of m elements reads, in w, as the cells news: a source of an append. -/
def Src (w : World) (u : Value) (m : Nat) (news : List Value) : Prop := (u = .slice none 0 0 ∧ news = [] ∧ m = 0) ∨ ∃ ad c, u = .slice (some ad) m c ∧ ∀ j z, news[j]? = some z → w.cell? (ad.add j) = some z

/-- append of whatever slice onto a row of the call's own. -/
theorem wp_append_src {o : Oper} {a : Act} {K : Act → World → Prop} {Q : Exit → Act → World → Prop} (s x : Operand) (t : TypeId)
    (ho : o.op = .call { callee := .builtin .append, args := #[s, x], argTypes := #[t, t] })
    (base : Nat) (e : TypeId) (i : TypeInfo) (z : Value) (size bytes : Nat) (ht : P.underlying t = some (.slice e)) (hi : P.info? e = some i) (hz : i.zero = some z)
    (hsize : i.size = size) (hby : i.bytes = bytes) (hzs : z.cells.size = size) (hsz : 0 < size)
    (v : Value) (n : Nat) (xs : List Value) (hs : a.eval s = v) (hown : w.ownsRow base e size v n xs)
    (u : Value) (m : Nat) (news : List Value) (hx : a.eval x = u) (hu : Src w u m news) (hl : news.length = m * size) (h1 : ∀ u ∈ news, u.oneCell' = true)
    (h63 : n + m ≤ maxLen) (hbytes : (n + m) * bytes ≤ 140737488355328) (hbase : base ≤ w.heap.size)
    (h : ∀ v' w', w'.ownsRow base e size v' (n + m) (xs ++ news) → w.grownBy w' v.ownBlock → Newer w v v' → K (a.put o.dst v') w') : o.wp P a w K Q := by
  rcases hu with ⟨rfl, rfl, rfl⟩ | ⟨ad, c, rfl, hnews⟩
  · have hr := run_append_owned_none (P := P) w base t o.type e i size ht hi v n xs hown
    unfold Oper.wp execOp
    simp only [ho, resolve, invoke, builtin, Sem.run_bind, Sem.run_pure, Result.andThen_ok, List.map_toArray, List.map_cons, List.map_nil, hs, hx, hr]
    exact h v w (by simpa using hown) ⟨rfl, rfl, rfl, Nat.le_refl _, fun _ _ _ => rfl⟩ (.inl rfl)
  · exact wp_append_newer w s x t ho base e i z size bytes ht hi hz hsize hby hzs hsz v n xs hs hown ad m c news hx hl hnews h1 h63 hbytes hbase h
theorem wpList_append_src {ops : Array Oper} {rest : List Oper} {o : Oper} {a : Act} {Q : Exit → Act → World → Prop} (hgd : o.guard = none) (s x : Operand) (t : TypeId)
    (ho : o.op = .call { callee := .builtin .append, args := #[s, x], argTypes := #[t, t] })
    (base : Nat) (e : TypeId) (i : TypeInfo) (z : Value) (size bytes : Nat) (ht : P.underlying t = some (.slice e)) (hi : P.info? e = some i) (hz : i.zero = some z)
    (hsize : i.size = size) (hby : i.bytes = bytes) (hzs : z.cells.size = size) (hsz : 0 < size)
    (v : Value) (n : Nat) (xs : List Value) (hs : a.eval s = v) (hown : w.ownsRow base e size v n xs)
    (u : Value) (m : Nat) (news : List Value) (hx : a.eval x = u) (hu : Src w u m news) (hl : news.length = m * size) (h1 : ∀ u ∈ news, u.oneCell' = true)
    (h63 : n + m ≤ maxLen) (hbytes : (n + m) * bytes ≤ 140737488355328) (hbase : base ≤ w.heap.size)
    (h : ∀ v' w', w'.ownsRow base e size v' (n + m) (xs ++ news) → w.grownBy w' v.ownBlock → Newer w v v' → wpList P ops Q rest (a.put o.dst v') w') : wpList P ops Q (o :: rest) a w :=
  wpList_plain hgd fun _ hK => wp_append_src w s x t ho base e i z size bytes ht hi hz hsize hby hzs hsz v n xs hs hown u m news hx hu hl h1 h63 hbytes hbase fun v' w' h2 h3 h4 => hK _ _ (h v' w' h2 h3 h4)
end
theorem ownsRow_src {B n : Nat} {w : World} {e : TypeId} {size : Nat} {u : Value} {xs : List Value} (h : w.ownsRow B e size u n xs) : Src w u n xs := by
  rcases h.2 with ⟨rfl, rfl⟩ | ⟨g, cap, cur, rfl, _⟩
  · exact .inl ⟨rfl, List.eq_nil_of_length_eq_zero (by simpa using h.1), rfl⟩
  · exact .inr ⟨_, _, rfl, h.cells (g := g) rfl⟩
end Go.Proofs.Ytmjkncmpanhgjaa

-- DROPS
namespace Go.Proofs.Ytmjkncmpanhgjaa
set_option linter.unusedVariables false
set_option linter.unusedSimpArgs false
set_option maxRecDepth 100000
open Go.RowKit

theorem chunks_flatten (m : Nat) (d : List Int) : ∀ k, (chunks m d k).flatten = d.take (k * m)
  | 0 => by simp [chunks]
  | k + 1 => by
    rw [chunks_succ, List.flatten_append, chunks_flatten m d k, Nat.succ_mul, List.take_add]
    simp

theorem prodTo_good : ∀ (xs : List Int) (n : Int), 1 ≤ n → (∀ x ∈ xs, 1 ≤ x) → n * prodL xs ≤ 65536 → prodTo n xs = (n * prodL xs, 0)
  | [], n, _, _, _ => by simp [prodTo, prodL]
  | s :: r, n, h1, hx, hl => by
    have hs := hx s (by simp)
    have hr : ∀ x ∈ r, 1 ≤ x := fun x h => hx x (by simp [h])
    have hp : 0 < prodL r := prodL_pos fun x h => by have := hr x h; omega
    rw [prodL, ← Int.mul_assoc] at hl
    have hns : 1 ≤ n * s := by have := Int.mul_le_mul h1 hs (by omega) (by omega : (0 : Int) ≤ n); omega
    have hle : n * s ≤ 65536 := by
      have := Int.mul_le_mul_of_nonneg_left (show (1 : Int) ≤ prodL r by omega) (by omega : 0 ≤ n * s)
      omega
    rw [prodTo, if_neg (by omega), prodTo_good r (n * s) hns hr hl, prodL, Int.mul_assoc]

/-- What a cell is cut out of, without the first side, is an array. -/
theorem right_cell {x : Int} {r d : List Int} {k xn P : Nat} (h : right (x :: r) d = true) (hx : x = xn) (hk : k < xn) (hP : prodL r = P) : cell (x :: r) d k = ((r, (d.drop (k * P)).take P), 0) ∧ right r ((d.drop (k * P)).take P) = true ∧ d.length = xn * P := by
  obtain ⟨hsz, g⟩ := right_good h
  have hd : d.length = xn * P := by
    have := g.prod
    rw [prodL, hx, hP] at this
    exact_mod_cast this
  have hkP : k * P + P ≤ xn * P := by have := Nat.mul_le_mul_right P hk; rw [Nat.succ_mul] at this; exact this
  have hdl : (d.length : Int) / x = P := by
    rw [hd, hx, Int.natCast_mul]
    exact Int.mul_ediv_cancel_left _ (by omega)
  have hlen : ((d.drop (k * P)).take P).length = P := by rw [List.length_take, List.length_drop]; omega
  refine ⟨?_, ?_, hd⟩
  · unfold cell
    rw [if_pos h]
    simp only []
    rw [if_neg (by omega), hdl]
    have e1 : ((k : Int) * (P : Int)).toNat = k * P := by rw [← Int.natCast_mul]; rfl
    rw [e1]; rfl
  · unfold right
    have hrl : ¬ 4 < r.length := by have := g.len; simp at this; omega
    have hb : r.any badSide = false := by
      rw [List.any_eq_false]
      intro y hy
      have := g.side y (by simp [hy])
      simp [badSide]; omega
    have e : size r = ((P : Int), 0) := by
      unfold size
      rw [if_neg hrl, if_neg (by rw [hb]; simp)]
      by_cases hz : r.any ((0 : Int) == ·) = true
      · rw [if_pos hz]
        obtain ⟨y, hy, hy0⟩ := List.any_eq_true.1 hz
        have hy0 : (0 : Int) = y := by simpa using hy0
        rw [← hy0] at hy
        rw [← hP, prodL_zero hy]
      · rw [if_neg hz]
        have hpos : ∀ y ∈ r, 1 ≤ y := fun y hy => by
          have := g.side y (by simp [hy])
          have : y ≠ 0 := fun e => hz (List.any_eq_true.2 ⟨y, hy, by simp [e]⟩)
          omega
        have hle : (1 : Int) * prodL r ≤ 65536 := by
          have := g.le
          rw [g.prod, prodL, hx] at this
          have h2 := Int.mul_le_mul_of_nonneg_right (show (1 : Int) ≤ xn by omega) (show 0 ≤ prodL r by omega)
          omega
        rw [prodTo_good r 1 (by omega) hpos hle, Int.one_mul, hP]
    rw [e, hlen]
    simp

/-- Between two rounds of the law's first loop. -/
def Part1 (w2 : World) (vs : List Value) (xss : List (List Int)) (j : Nat) (v : Value) (wr : World) : Prop :=
  RowI w2.heap.size wr v (xss.take j).flatten ∧ KB (fun g => ∃ (i : Nat) (u : Value), i < j ∧ vs[i]? = some u ∧ u.ownBlock = some g) w2 wr

theorem RowI.lit {B : Nat} {W : World} {v : Value} {xs : List Int} (h : RowI B W v xs) (h0 : 0 < xs.length) : ∃ g c, v = .slice (some ⟨g, 0, none⟩) xs.length c ∧ B ≤ g ∧ g < W.heap.size := by
  obtain ⟨_, ⟨rfl, h1⟩ | ⟨g, cap, cur, rfl, hb, hg, _⟩⟩ := h
  · omega
  · exact ⟨g, cap, rfl, hb, (Array.getElem?_eq_some_iff.1 hg).1⟩

/-- a number stored in such a row -/
theorem RowI.stored {B g c n : Nat} {W : World} {xs : List Int} (hn : n = xs.length) (h : RowI B W (.slice (some ⟨g, 0, none⟩) n c) xs) (k : Nat) (x : Int) : RowI B (W.setCell ⟨g, k, none⟩ (.int .i64 x)) (.slice (some ⟨g, 0, none⟩) n c) (xs.set k x) := by
  subst hn
  have := (World.ownsRow.stored (w := W) (show W.ownsRow B 2 1 _ _ _ from h) k (.int .i64 x)).1
  unfold RowI
  rw [List.length_set, List.map_set]
  exact this
theorem flatten_take_succ {xss : List (List Int)} {j : Nat} (hj : j < xss.length) : (xss.take (j + 1)).flatten = (xss.take j).flatten ++ xss[j] := by
  rw [List.take_succ_eq_append_getElem hj, List.flatten_append]; simp
theorem ownsRow_lit2 {B n c : Nat} {W : World} {t : TypeId} {a : Option Addr} {vs : List Value} (h : W.ownsRow B t 1 (.slice a n c) n vs) (h0 : 0 < n) : ∃ g, a = some ⟨g, 0, none⟩ ∧ B ≤ g ∧ g < W.heap.size := by
  obtain ⟨_, ⟨_, h1⟩ | ⟨g, cap, cur, e, hb, hg, _⟩⟩ := h
  · omega
  · cases e
    exact ⟨g, rfl, hb, (Array.getElem?_eq_some_iff.1 hg).1⟩
end Go.Proofs.Ytmjkncmpanhgjaa

namespace Go.Proofs.Ytmjkncmpanhgjaa
set_option linter.unusedVariables false
set_option linter.unusedSimpArgs false
set_option maxRecDepth 100000
open Go.RowKit

def In64 (x : Int) : Prop := -9223372036854775808 ≤ x ∧ x ≤ 9223372036854775807
theorem wrap_id {x : Int} (h : In64 x) : wrap64 x = x := by unfold In64 at h; unfold wrap64; omega
theorem wrap_in (x : Int) : In64 (wrap64 x) := by unfold In64 wrap64; omega
theorem wrap_ex (x : Int) : ∃ k, wrap64 x = x + k * 18446744073709551616 := ⟨-((x + 9223372036854775808) / 18446744073709551616), by unfold wrap64; omega⟩
theorem wrap_add_mul (x k : Int) : wrap64 (x + k * 18446744073709551616) = wrap64 x := by unfold wrap64; omega
theorem wrap_of_ex {x y : Int} (h : ∃ k, x = y + k * 18446744073709551616) : wrap64 x = wrap64 y := by obtain ⟨k, rfl⟩ := h; exact wrap_add_mul y k
theorem wrap_wrap (x : Int) : wrap64 (wrap64 x) = wrap64 x := wrap_id (wrap_in x)
theorem wrap_add_l (x y : Int) : wrap64 (wrap64 x + y) = wrap64 (x + y) := by obtain ⟨k, h⟩ := wrap_ex x; exact wrap_of_ex ⟨k, by rw [h]; omega⟩
theorem wrap_add_r (x y : Int) : wrap64 (x + wrap64 y) = wrap64 (x + y) := by obtain ⟨k, h⟩ := wrap_ex y; exact wrap_of_ex ⟨k, by rw [h]; omega⟩
theorem wrap_sub_l (x y : Int) : wrap64 (wrap64 x - y) = wrap64 (x - y) := by obtain ⟨k, h⟩ := wrap_ex x; exact wrap_of_ex ⟨k, by rw [h]; omega⟩
theorem wrap_sub_r (x y : Int) : wrap64 (x - wrap64 y) = wrap64 (x - y) := by obtain ⟨k, h⟩ := wrap_ex y; exact wrap_of_ex ⟨-k, by rw [h]; omega⟩
theorem wrap_mul_l (x y : Int) : wrap64 (wrap64 x * y) = wrap64 (x * y) := by
  obtain ⟨k, h⟩ := wrap_ex x
  exact wrap_of_ex ⟨k * y, by rw [h, Int.add_mul, Int.mul_assoc k, Int.mul_comm 18446744073709551616 y, Int.mul_assoc]⟩
theorem wrap_mul_r (x y : Int) : wrap64 (x * wrap64 y) = wrap64 (x * y) := by rw [Int.mul_comm, wrap_mul_l, Int.mul_comm]
theorem wrap_pow (x z : Int) (k : Nat) : wrap64 (x * wrap64 z ^ k) = wrap64 (x * z ^ k) := by
  induction k generalizing x with
  | zero => simp
  | succ k ih => rw [Int.pow_succ, Int.mul_comm (wrap64 z ^ k), ← Int.mul_assoc, ih, Int.mul_assoc, Int.mul_comm (wrap64 z), ← Int.mul_assoc, wrap_mul_r, Int.pow_succ, Int.mul_assoc]

/-- does a function take one number, or two? -/
def takes (f : Int) (two : Bool) : Bool := if f < 1 ∨ 17 < f then false else if f = 16 then !two else two || decide (f ≤ 7)
def truthI (b : Bool) : Int := if b then 1 else 0
def isBit (a : Int) : Bool := a == 0 || a == 1
/-- does a function of two numbers refuse these? -/
def refusesB (f a b : Int) : Bool :=
  if f = 4 then b == 0 else if f = 17 then decide (b < 0) else if f = 14 ∨ f = 15 then !isBit a || !isBit b else false
/-- a function of two numbers that does not refuse them -/
def dyv (f a b : Int) : Int :=
  if f = 1 then wrap64 (a + b) else if f = 2 then wrap64 (a - b) else if f = 3 then wrap64 (a * b) else if f = 4 then wrap64 (a.fdiv b)
  else if f = 5 then (if a = 0 then b else b.fmod a) else if f = 6 then min a b else if f = 7 then max a b
  else if f = 8 then truthI (a == b) else if f = 9 then truthI (a != b) else if f = 10 then truthI (decide (a < b)) else if f = 11 then truthI (decide (a ≤ b))
  else if f = 12 then truthI (decide (b ≤ a)) else if f = 14 then a * b else if f = 15 then max a b else if f = 17 then wrap64 (a ^ b.toNat) else truthI (decide (b < a))
def dyadF (f a b : Int) : Int × Int := if takes f true then (if refusesB f a b then (0, 11) else (dyv f a b, 0)) else (0, 10)
def monadF (f a : Int) : Int × Int :=
  if takes f false then
    (if f = 2 then (wrap64 (-a), 0) else if f = 3 then (truthI (decide (0 < a)) - truthI (decide (a < 0)), 0) else if f = 4 then dyadF 4 1 a
      else if f = 5 then (max a (wrap64 (-a)), 0) else if f = 16 then (if isBit a then (1 - a, 0) else (0, 11)) else (a, 0))
  else (0, 10)
def unitF (f : Int) : Int × Bool :=
  if f = 6 then (9223372036854775807, true) else if f = 7 then (-9223372036854775808, true)
  else if f = 3 ∨ f = 4 ∨ f = 8 ∨ f = 11 ∨ f = 12 ∨ f = 14 ∨ f = 17 then (1, true) else (0, takes f true)
def scansB (f : Int) : Bool := f == 1 || f == 3 || f == 6 || f == 7 || f == 14 || f == 15
def totalB (f : Int) (two : Bool) : Bool := if f = 4 ∨ f = 14 ∨ f = 15 ∨ f = 17 ∨ f = 16 then false else takes f two

/-- what rest computes -/
theorem rest_eq {a b : Int} (hb : b ≠ 0) : a.fmod b = if a.tmod b ≠ 0 ∧ ((decide (a.tmod b < 0)) ≠ decide (b < 0)) then a.tmod b + b else a.tmod b := by
  have h1 := Int.tmod_add_mul_tdiv a b
  have h2 := Int.fmod_add_mul_fdiv a b
  have h3 : (a.tmod b).natAbs < b.natAbs := by rw [Int.natAbs_tmod]; exact Nat.mod_lt _ (by omega)
  by_cases hp : 0 < b
  · have f1 := Int.fmod_nonneg_of_pos a hp
    have f2 := Int.fmod_lt_of_pos a hp
    split
    · rename_i hc
      have hneg : a.tmod b < 0 := by have := hc.2; simp at this; omega
      have hk : b * (a.tdiv b - a.fdiv b) = a.fmod b - a.tmod b := by rw [Int.mul_sub]; omega
      have : a.tdiv b - a.fdiv b = 1 := by
        have l1 : 0 < a.fmod b - a.tmod b := by omega
        have l2 : a.fmod b - a.tmod b < b * 2 := by omega
        rw [← hk] at l1 l2
        have m1 := Int.pos_of_mul_pos_right l1 hp
        have m2 := Int.lt_of_mul_lt_mul_left l2 (Int.le_of_lt hp)
        omega
      rw [this] at hk; omega
    · rename_i hc
      have hnn : 0 ≤ a.tmod b := by
        by_cases h : a.tmod b < 0
        · exact absurd ⟨by omega, by simp; omega⟩ hc
        · omega
      have hk : b * (a.tdiv b - a.fdiv b) = a.fmod b - a.tmod b := by rw [Int.mul_sub]; omega
      have : a.tdiv b - a.fdiv b = 0 := by
        have l1 : b * (-1) < a.fmod b - a.tmod b := by omega
        have l2 : a.fmod b - a.tmod b < b * 1 := by omega
        rw [← hk] at l1 l2
        have m1 := Int.lt_of_mul_lt_mul_left l1 (Int.le_of_lt hp)
        have m2 := Int.lt_of_mul_lt_mul_left l2 (Int.le_of_lt hp)
        omega
      rw [this] at hk; omega
  · have hn : b < 0 := by omega
    have f1 : a.fmod b ≤ 0 := by
      rw [Int.fmod_eq_emod]
      have := Int.emod_lt_of_neg a hn
      split
      · rename_i h; rcases h with h | h
        · omega
        · rw [Int.emod_eq_zero_of_dvd h]; omega
      · omega
    have f2 : b < a.fmod b := by
      rw [Int.fmod_eq_emod]
      have h0 := Int.emod_nonneg a hb
      split
      · omega
      · rename_i h
        have : a % b ≠ 0 := fun e => h (.inr (Int.dvd_of_emod_eq_zero e))
        omega
    split
    · rename_i hc
      have hpos : 0 < a.tmod b := by have := hc.2; simp at this; omega
      have hk : (-b) * (a.fdiv b - a.tdiv b) = a.fmod b - a.tmod b := by rw [Int.mul_sub, Int.neg_mul, Int.neg_mul]; omega
      have : a.fdiv b - a.tdiv b = -1 := by
        have l1 : (-b) * (-2) < a.fmod b - a.tmod b := by omega
        have l2 : a.fmod b - a.tmod b < (-b) * 0 := by omega
        rw [← hk] at l1 l2
        have m1 := Int.lt_of_mul_lt_mul_left l1 (by omega)
        have m2 := Int.lt_of_mul_lt_mul_left l2 (by omega)
        omega
      rw [this] at hk; omega
    · rename_i hc
      have hnn : a.tmod b ≤ 0 := by
        by_cases h : 0 < a.tmod b
        · exact absurd ⟨by omega, by simp; omega⟩ hc
        · omega
      have hk : (-b) * (a.fdiv b - a.tdiv b) = a.fmod b - a.tmod b := by rw [Int.mul_sub, Int.neg_mul, Int.neg_mul]; omega
      have : a.fdiv b - a.tdiv b = 0 := by
        have l1 : (-b) * (-1) < a.fmod b - a.tmod b := by omega
        have l2 : a.fmod b - a.tmod b < (-b) * 1 := by omega
        rw [← hk] at l1 l2
        have m1 := Int.lt_of_mul_lt_mul_left l1 (by omega)
        have m2 := Int.lt_of_mul_lt_mul_left l2 (by omega)
        omega
      rw [this] at hk; omega

/-- the quotient that is rounded down, from the one that is cut -/
theorem fdiv_eq {a b : Int} (hb : b ≠ 0) : a.fdiv b = if a.fmod b ≠ a.tmod b then a.tdiv b - 1 else a.tdiv b := by
  have h1 := Int.tmod_add_mul_tdiv a b
  have h2 := Int.fmod_add_mul_fdiv a b
  have h3 := rest_eq (a := a) hb
  split
  · rename_i hne
    have hm : a.fmod b = a.tmod b + b := by
      rw [h3] at hne ⊢
      split
      · rfl
      · rename_i h; rw [if_neg h] at hne; exact absurd rfl hne
    have hk : b * (a.tdiv b - a.fdiv b) = b * 1 := by rw [Int.mul_sub]; omega
    have := Int.eq_of_mul_eq_mul_left hb hk
    omega
  · rename_i he
    have he : a.fmod b = a.tmod b := by omega
    have hk : b * a.fdiv b = b * a.tdiv b := by omega
    exact Int.eq_of_mul_eq_mul_left hb hk

theorem tmod_lt {a b : Int} (hb : b ≠ 0) : (a.tmod b).natAbs < b.natAbs := by rw [Int.natAbs_tmod]; exact Nat.mod_lt _ (by omega)
theorem fmod_in {a b : Int} (h0 : b ≠ 0) (hb : In64 b) : In64 (a.fmod b) := by
  have := tmod_lt (a := a) h0
  unfold In64 at *
  rw [rest_eq h0]
  split
  · rename_i h; have := h.2; simp at this; omega
  · omega

theorem wrap_eq_of {x y : Int} (h : x = y) : wrap64 x = wrap64 y := by rw [h]
theorem sq_pow (y : Int) (k : Nat) : (y * y) ^ k = y ^ (2 * k) := by
  induction k with
  | zero => simp
  | succ k ih => rw [Int.pow_succ, ih, show 2 * (k + 1) = 2 * k + 1 + 1 from by omega, Int.pow_succ, Int.pow_succ, Int.mul_assoc]
/-- the step of a power by halves -/
theorem pow_odd (q y : Int) (m : Nat) (h : m % 2 = 1) : wrap64 (wrap64 (q * y) * wrap64 (y * y) ^ (m / 2)) = wrap64 (q * y ^ m) := by
  rw [wrap_pow, wrap_mul_l, sq_pow]
  refine wrap_eq_of ?_
  have : m = 2 * (m / 2) + 1 := by omega
  conv => rhs; rw [this]
  rw [Int.pow_succ, Int.mul_comm (y ^ _) y, Int.mul_assoc]
theorem pow_even (q y : Int) (m : Nat) (h : m % 2 = 0) : wrap64 (q * wrap64 (y * y) ^ (m / 2)) = wrap64 (q * y ^ m) := by
  rw [wrap_pow, sq_pow]
  refine wrap_eq_of ?_
  have : 2 * (m / 2) = m := by omega
  rw [this]
theorem takes_in {f : Int} {t : Bool} (h : takes f t = true) : 1 ≤ f ∧ f ≤ 17 := by
  unfold takes at h
  split at h
  · cases h
  · omega

theorem two63 : (2 : Int) ^ 63 = 9223372036854775808 := by decide
theorem and_one (m : Int) (h0 : 0 ≤ m) (h1 : m ≤ 9223372036854775807) : bits BinOp.and IntKind.i64 m 1 = m % 2 := by
  have h := bits_mask .i64 63 (by decide) (fun n h0 h1 => by rw [two63] at h1; rw [IntKind.wrap_i64]; omega) 1 (by decide) m (by omega) (by rw [two63]; omega)
  have e : ((2 : Int) ^ 1 - 1) = 1 := by decide
  rw [e] at h
  rw [h]
  omega
end Go.Proofs.Ytmjkncmpanhgjaa
