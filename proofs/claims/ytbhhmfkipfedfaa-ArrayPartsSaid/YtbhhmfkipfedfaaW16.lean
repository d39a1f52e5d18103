import Derived.Test.YtbhhmfkipfedfaaW15
namespace Go.Proofs.Ytbhhmfkipfedfaa
open Go.RowKit
attribute [local go_sem] Oper.semAt_some

set_option maxRecDepth 100000 in
set_option maxHeartbeats 4000000 in
theorem lanes_bad (w : World) (a0 a1 : Option Addr) (c0 c1 : Nat) (s d : List Int) (hs : s.length ≤ maxLen) (h0 : IntsAt .i64 w a0 s) (hr : right s d = false ∨ d = []) :
    Calls Try.prog 21 #[.agg #[.slice a0 s.length c0, .slice a1 d.length c1]] w fun e w' => RetRows w.heap.size (lanes s d) e w' ∧ Below w.heap.size w w' := by
  have hq := fun o => right_any (w.alloc o) a0 a1 c0 c1 s d hs (h0.below ((Below.refl _ _).alloc (Nat.le_refl _) _) (Nat.le_refl _))
  cases hr2 : right s d with
  | false =>
    rw [hr2] at hq
    have hl : lanes s d = ([], 60) := by unfold lanes; rw [if_neg (by rw [hr2]; simp)]
    have Hq := Lib.hid hq; have Hl := Lib.hid hl; clear hq hl hr hr2 h0 hs
    refine calls_marks Try.func21 rfl ?_
    simp only [Try.ntmps21, List.size_toArray, List.length_cons, List.length_nil, Nat.reduceAdd, Nat.reduceSub, Array.replicate_succ, Array.replicate_zero, List.push_toArray, List.append_toArray, List.nil_append, List.cons_append]
    go_wp2_with fail
    refine (Hq.out _).mono ?_
    rintro e w1 ⟨rfl, hb1⟩
    go_wp2_with fail
    refine bodyPostM_ret (results_tmp2 rfl _ _ _) rfl ⟨?_, ?_⟩
    · rw [Hl.out]; exact ⟨_, rfl, RowR.nil _ _⟩
    · exact bAfter ((Below.refl _ _).alloc (Nat.le_refl _) _) (by simp) hb1
  | true =>
    obtain rfl : d = [] := by rcases hr with h | h; rw [hr2] at h; cases h; exact h
    rw [hr2] at hq
    have hl : lanes s [] = ([], 0) := by unfold lanes; rw [if_pos hr2]; simp [chunks]
    have Hq := Lib.hid hq; have Hl := Lib.hid hl; clear hq hl hr hr2 h0 hs
    refine calls_marks Try.func21 rfl ?_
    simp only [Try.ntmps21, List.size_toArray, List.length_cons, List.length_nil, Nat.reduceAdd, Nat.reduceSub, Array.replicate_succ, Array.replicate_zero, List.push_toArray, List.append_toArray, List.nil_append, List.cons_append]
    go_wp2_with fail
    refine (Hq.out _).mono ?_
    rintro e w1 ⟨rfl, hb1⟩
    obtain ⟨hcc, hff⟩ := bcell hb1
    have hS1 : w1.cell? ⟨w.heap.size, 1, none⟩ = some (.slice a1 0 c1) := by rw [hcc _ _ (by simp)]; simp [go_sem]
    clear hcc hff
    go_wp2_with fail
    refine bodyPostM_ret (results_tmp2 rfl _ _ _) rfl ⟨?_, ?_⟩
    · rw [Hl.out]; exact ⟨_, rfl, RowR.nil _ _⟩
    · exact bAfter ((Below.refl _ _).alloc (Nat.le_refl _) _) (by simp) hb1

/-- Cells that stay as they were, but for blocks that hold none. -/
theorem ownBlock_cells {B n : Nat} {W : World} {t : TypeId} {v : Value} {vs : List Value} (h : W.ownsRow B t 1 v n vs) {row : Option Nat} (hrow : ∀ r, row = some r → ∃ o : Obj, W.heap[r]? = some o ∧ o.isCells = false) : v.ownBlock = none ∨ v.ownBlock ≠ row := by
  obtain ⟨_, ⟨rfl, _⟩ | ⟨g, cap, cur, rfl, _, hg, _⟩⟩ := h
  · exact .inl rfl
  · exact .inr fun e => not_row hg hrow (by simpa [Value.ownBlock] using e)
theorem RowR.keptNC {B : Nat} {W W' : World} {v : Value} {xss : List (List Int)} (h : RowR B W v xss) {row : Option Nat} (hg : W.grownBy W' row) (hrow : ∀ r, row = some r → ∃ o : Obj, W.heap[r]? = some o ∧ o.isCells = false) : RowR B W' v xss := by
  obtain ⟨vs, h1, h2⟩ := h
  refine ⟨vs, World.ownsRow.kept h1 hg (ownBlock_cells h1 hrow), fun i hi => ?_⟩
  obtain ⟨u, a, b, c⟩ := h2 i hi
  exact ⟨u, a, b.kept hg (ownBlock_cells b hrow), c⟩
theorem RowR.setCell_lt {B : Nat} {w : World} {v : Value} {xss : List (List Int)} (h : RowR B w v xss) {p : Addr} (hp : p.block < B) (u : Value) : RowR B (w.setCell p u) v xss := by
  obtain ⟨vs, h1, h2⟩ := h
  refine ⟨vs, World.ownsRow.kept h1 (grownBy_setCellA w p u) ?_, fun i hi => ?_⟩
  · cases hv : v.ownBlock with
    | none => exact .inl rfl
    | some k => exact .inr fun e => by have := (World.ownsRow.lt h1 k hv).1; cases e; omega
  · obtain ⟨x, a, b, c⟩ := h2 i hi
    exact ⟨x, a, b.setCell_lt hp u, c⟩
theorem ownsRow_slice {B n : Nat} {W : World} {t : TypeId} {v : Value} {vs : List Value} (h : W.ownsRow B t 1 v n vs) : ∃ a cap, v = .slice a n cap := by
  obtain ⟨_, ⟨rfl, h0⟩ | ⟨g, cap, cur, rfl, _⟩⟩ := h
  · rw [h0]; exact ⟨_, _, rfl⟩
  · exact ⟨_, _, rfl⟩
theorem IntsAt.at {k : IntKind} {w : World} {b off : Nat} {xs : List Int} (h : IntsAt k w (some ⟨b, off, none⟩) xs) (l n : Nat) : IntsAt k w (some ⟨b, off + l, none⟩) ((xs.drop l).take n) := by
  intro i hi
  rw [List.length_take, List.length_drop] at hi
  obtain ⟨b', off', e, hc⟩ := h (l + i) (by omega)
  cases e
  refine ⟨b, off + l, rfl, ?_⟩
  rw [List.getElem_take, List.getElem_drop, Nat.add_assoc]; exact hc

/-- Between two rounds of Lanes' loop. -/
def LanesInv (w : World) (d : List Int) (m E B q : Nat) (pre : List (Fin q)) (W : World) : Prop :=
  ∃ v xss, Boxed W E 39 v ∧ RowR B W v xss ∧ xss.length = pre.length ∧ (pre <+: List.finRange q → xss = chunks m d pre.length) ∧ Below w.heap.size w W ∧ B ≤ W.heap.size
theorem LanesInv.own (w : World) (d : List Int) (m E B q K : Nat) (hK : w.heap.size ≤ K) : OwnFrom K (LanesInv w d m E B q) := by
  rintro pre W W' row ⟨v, xss, bE, hx, hxl, hr, hb, hsz⟩ hg hrow
  have hn := fun r e => (hrow r e).2
  exact ⟨v, xss, bE.kept hg (not_row bE hn), hx.keptNC hg hn, hxl, hr, hb.grown hg hb.size (fun k e => Nat.le_trans hK (hrow k e).1), Nat.le_trans hsz hg.size⟩
theorem fin_prefix {n : Nat} {pre : List (Fin n)} {x : Fin n} (h : pre ++ [x] <+: List.finRange n) : pre <+: List.finRange n ∧ x.1 = pre.length := by
  refine ⟨(List.prefix_append _ _).trans h, ?_⟩
  have h1 := h.getElem (i := pre.length) (by simp)
  simp at h1
  rw [h1]

set_option maxRecDepth 100000 in
set_option maxHeartbeats 4000000 in
theorem lanes_good (w : World) (a0 : Option Addr) (b1 off1 : Nat) (c0 c1 ls ld : Nat) (s d : List Int) (m q : Nat) (hls : ls = s.length) (hld : ld = d.length) (hs : ls ≤ 4) (hd0 : 0 < ld) (hd : ld ≤ 65536) (hc1 : ld ≤ c1) (h0 : IntsAt .i64 w a0 s) (h1 : IntsAt .i64 w (some ⟨b1, off1, none⟩) d) (hr : right s d = true)
    (hlast : lastOf s = m) (hm1 : 1 ≤ m) (hm2 : m ≤ 65536) (hq : q * m = ld) :
    Calls Try.prog 21 #[.agg #[.slice a0 ls c0, .slice (some ⟨b1, off1, none⟩) ld c1]] w fun e w' => RetRows w.heap.size (chunks m d q, 0) e w' ∧ Below w.heap.size w w' := by
  have hbb : ∀ o, Below w.heap.size w (w.alloc o) := fun o => (Below.refl _ _).alloc (Nat.le_refl _) _
  have hqr := fun o => right_any (w.alloc o) a0 (some ⟨b1, off1, none⟩) c0 c1 s d (by rw [← hls]; unfold maxLen; omega) (h0.below (hbb o) (Nat.le_refl _))
  rw [hr, ← hls, ← hld] at hqr
  have Hqr := Lib.hid hqr; have H0 := Lib.hid h0; have H1 := Lib.hid h1; have Hq := Lib.hid hq; have Hld := Lib.hid hld; have Hb := Lib.hid hbb
  clear hqr hr hq hbb hld
  rcases Nat.eq_zero_or_pos ls with hz | hz
  · have hsn : s = [] := List.eq_nil_of_length_eq_zero (by omega)
    have hm : m = 1 := by
      have h : lastOf [] = 1 := rfl
      rw [hsn, h] at hlast
      omega
    subst hz
    have hmv : (1 : Int) = (m : Int) := by rw [hm]; rfl
    have Hmv := Lib.hid hmv; clear hmv hm
    clear h0 h1 hlast hls hsn
    refine calls_marks Try.func21 rfl ?_
    simp only [Try.ntmps21, List.size_toArray, List.length_cons, List.length_nil, Nat.reduceAdd, Nat.reduceSub, Array.replicate_succ, Array.replicate_zero, List.push_toArray, List.append_toArray, List.nil_append, List.cons_append]
    go_wp2_with fail
    refine (Hqr.out _).mono ?_
    rintro e w1 ⟨rfl, hb1⟩
    obtain ⟨hcc, hff⟩ := bcell hb1
    have hz1 : w.heap.size < w1.heap.size := by have := hb1.size; simp at this; omega
    have hB1 : Below w.heap.size w w1 := (Hb.out _).trans (hb1.mono (by simp))
    have hS0 : w1.cell? ⟨w.heap.size, 0, none⟩ = some (.slice a0 0 c0) := by rw [hcc _ _ (by simp)]; simp [go_sem]
    have hS1 : w1.cell? ⟨w.heap.size, 1, none⟩ = some (.slice (some ⟨b1, off1, none⟩) ld c1) := by rw [hcc _ _ (by simp)]; simp [go_sem]
    have hS1a : ∀ o, (w1.alloc o).cell? ⟨w.heap.size, 1, none⟩ = some (.slice (some ⟨b1, off1, none⟩) ld c1) := fun o => (World.cell?_alloc_lt _ _ _ (by show w.heap.size < _; omega)).trans hS1
    clear hcc hff hb1
    go_wp2_with fail
    refine (chunk_any (some ⟨b1, off1, none⟩) ld c1 1 _ (by decide)).mono ?_
    rintro e w2 ⟨rfl, hw2⟩
    have hB2 : Below w.heap.size w w2 := by rw [hw2]; exact ((hB1.alloc hB1.size _).alloc (by have := hB1.size; simp; omega) _).alloc (by have := hB1.size; simp; omega) _
    have bE : Boxed w2 w1.heap.size 39 (.slice none 0 0) := by rw [hw2]; exact ((Boxed.new w1 39 (.slice none 0 0)).alloc _).alloc _
    have bS : Boxed w2 (w1.heap.size + 1) 22 (.slice (some ⟨b1, off1, none⟩) ld c1) := by
      rw [hw2]
      have := Boxed.new (w1.alloc (.cells #[.slice none 0 0] 39)) 22 (.slice (some ⟨b1, off1, none⟩) ld c1)
      rw [World.size_alloc] at this
      exact this.alloc _
    have bN : Boxed w2 (w1.heap.size + 1 + 1) 3 (.int .i64 1) := by
      rw [hw2]
      have := Boxed.new ((w1.alloc (.cells #[.slice none 0 0] 39)).alloc (.cells #[.slice (some ⟨b1, off1, none⟩) ld c1] 22)) 3 (.int .i64 1)
      simp only [World.size_alloc] at this
      exact this
    have hsz2 : w2.heap.size = w1.heap.size + 3 := by rw [hw2]; simp
    clear hw2 hS0 hS1 hS1a
    have Hsz2 := Lib.hid hsz2; clear hsz2
    go_wp2_with fail
    refine wpIn_wide.1 (wpIn_rangeFunc_ownG (n := 9) rfl (by omega) (gf := 33) (lb := #[.pointer (some ⟨w1.heap.size + 1, 0, none⟩), .pointer (some ⟨w1.heap.size + 1 + 1, 0, none⟩)]) rfl trivial (fun args w => callFunc_enter Try.func33 (by kernel_rfl) rfl args w)
      (chunk_stops (w1.heap.size + 1) (w1.heap.size + 1 + 1) w.heap.size b1 off1 ld c1 m q Hq.out hc1 (by omega) (by omega) (by omega) _ 1 Hmv.out bS bN) keep2_t (keep2_b hB2.size bS.lt bN.lt) (Below.refl _ _) (fun _ => rfl)
      (LanesInv w d m w1.heap.size (w1.heap.size + 3) q) (fun _ _ _ => False) ?own (fun _ _ _ _ _ hs _ _ => hs) ?start
      (fun x => { tmps := #[Value.agg #[Value.slice a0 0 c0, Value.slice (some { block := b1, off := off1 }) ld c1], Value.pointer (some { block := w.heap.size, off := 0 }), Value.slice none 0 0, Value.int IntKind.i64 0, Value.int IntKind.i64 1, Value.int IntKind.i64 0,
        Value.pointer (some { block := w1.heap.size, off := 0 }), Value.slice (some ⟨b1, off1 + x.1 * m, none⟩) m m, Value.agg #[Value.slice a0 0 c0, Value.slice (some { block := b1, off := off1 }) ld c1], Value.bool true, Value.bool false, Value.pointer (some { block := w.heap.size, off := 1 }),
        Value.slice (some { block := b1, off := off1 }) ld c1, Value.int IntKind.i64 ↑ld, Value.bool false, Value.pointer (some { block := w.heap.size, off := 0 }), Value.slice a0 0 c0, Value.int IntKind.i64 0, Value.int IntKind.i64 0, Value.bool false,
        undef, undef, undef, undef, undef, undef, Value.pointer (some { block := w.heap.size, off := 1 }), Value.slice (some { block := b1, off := off1 }) ld c1, Value.int IntKind.i64 1,
        Value.func (Fn.func 33) #[] #[Value.pointer (some { block := w1.heap.size + 1, off := 0 }), Value.pointer (some { block := w1.heap.size + 1 + 1, off := 0 })], Value.slice (some ⟨b1, off1 + x.1 * m, none⟩) m m,
        undef, undef, undef, undef, undef, undef], defers := [] }) ?assign ?body ?done ?stop)
    case own => exact LanesInv.own _ _ _ _ _ _ _ hB2.size
    case start => exact ⟨_, [], bE, RowR.nil _ _, rfl, fun _ => rfl, hB2, by rw [Hsz2.out]; exact Nat.le_refl _⟩
    case assign =>
      intro l x W K hK
      unfold chunkEnc
      gi_wp2
      exact hK
    case body =>
      rintro l pre x W ⟨v, xss, bEW, ⟨vs, hvo, hvi⟩, hxl, hcond, hBW, hszW⟩ hpl
      have hxm : x.1 * m + m ≤ ld := by
        have h1 : (x.1 + 1) * m ≤ q * m := Nat.mul_le_mul_right m x.2
        rw [Hq.out, Nat.succ_mul] at h1
        exact h1
      have hql : q ≤ 65536 := by
        have h1 : q * 1 ≤ q * m := Nat.mul_le_mul_left q hm1
        rw [Hq.out] at h1; omega
      obtain ⟨ys, hys⟩ : ∃ ys, (d.drop (x.1 * m)).take m = ys := ⟨_, rfl⟩
      have hyl : ys.length = m := by rw [← hys, List.length_take, List.length_drop, ← Hld.out]; omega
      have hyI : ∀ W' : World, Below w.heap.size w W' → IntsAt .i64 W' (some ⟨b1, off1 + x.1 * m, none⟩) ys := fun W' hW' => by rw [← hys]; exact (H1.out.below hW' (Nat.le_refl _)).at (x.1 * m) m
      have hE0 := bEW.cell
      have hEf := bEW.frozen
      have hElt := bEW.lt
      have Hql := Lib.hid hql; have Hyl := Lib.hid hyl; have HyI := Lib.hid hyI; have Hys := Lib.hid hys; have Hvo := Lib.hid hvo; have Hvi := Lib.hid hvi; have Hxl := Lib.hid hxl; have Hcond := Lib.hid hcond; have Hxm := Lib.hid hxm
      clear hql hyl hyI hys hvo hvi hxl hcond hxm hB1 bE bS bN
      obtain ⟨ir, hir, hr0, hr1, hr2⟩ := info_parts Try.infoR
      have Hir := Lib.hid hir; have Hr0 := Lib.hid hr0; have Hr1 := Lib.hid hr1; have Hr2 := Lib.hid hr2; clear hir hr0 hr1 hr2
      gi_wp2
      refine wpIn_region_roundZ (S := fun W' => W'.cell? ⟨w1.heap.size, 0, none⟩ = some v) (z := 5) l 7 (by kernel_rfl) (by kernel_rfl) ?out ?_
      case out => rintro ⟨_, _, h⟩; exact h
      have hSS : (fun W' : World => W'.cell? ⟨w1.heap.size, 0, none⟩ = some v) W.drew := hE0
      refine wpAnyZ_take (i := 0) (v := ?_) rfl (by kernel_rfl) (by kernel_rfl) (by kernel_rfl) (fun _ _ _ h => h) (by kernel_rfl) (Or.inl ⟨by rfl, ?_⟩) (by assumption) ?_
      rotate_left
      · intro w' hSw
        try dsimp only at hSw
        go_simp
        try with_reducible rfl
      show wpAnyZ _ _ _ _ _ _ _ _ (Act.put _ (some 31) _) _
      simp only [Act.put, List.setIfInBounds_toArray, List.set_cons_zero, List.set_cons_succ]
      refine wpAnyZ_take (i := 1) (v := ?_) rfl (by kernel_rfl) (by kernel_rfl) (by kernel_rfl) (fun _ _ _ h => h) (by kernel_rfl) (Or.inl ⟨by rfl, ?_⟩) (by assumption) ?_
      rotate_left
      · intro w' hSw
        try dsimp only at hSw
        go_simp
        try with_reducible rfl
      show wpAnyZ _ _ _ _ _ _ _ _ (Act.put _ (some 32) _) _
      simp only [Act.put, List.setIfInBounds_toArray, List.set_cons_zero, List.set_cons_succ]
      refine wpAnyZ_one (i := 2) (by kernel_rfl) rfl rfl (fun K hK => ?_)
      go_simp
      have hWd : Below w.heap.size w W.drew := hBW.drew
      refine (clone_n _ _ _ _ ys Hyl.out.symm (by rw [Hyl.out]; omega) (HyI.out _ hWd)).mono ?_
      rintro e w3 ⟨⟨u, rfl, hu⟩, hb3⟩
      have hE3 : w3.cell? ⟨w1.heap.size, 0, none⟩ = some v := (hb3.cell (p := ⟨w1.heap.size, 0, none⟩) hElt).trans hE0
      show K _ w3
      refine hK.out _ _ (.inr hE3) ?_
      clear hK K hSS
      obtain ⟨au, cu, rfl, _, _⟩ := hu.slice
      have hz3 : W.heap.size ≤ w3.heap.size := hb3.size
      have hb3' : Below W.heap.size W w3 := (Below.refl _ _).drew.trans hb3
      have HU := Lib.hid hu; have Hb3 := Lib.hid hb3'; clear hu hb3 hb3' hWd
      refine wpAnyZ_one (i := 3) (by kernel_rfl) rfl rfl (fun K hK => ?_)
      go_simp
      refine hK.out _ _ (.inr ((World.cell?_alloc_lt _ _ _ (by show w1.heap.size < _; omega)).trans hE3)) ?_
      clear hK K
      refine wpAnyZ_one (i := 4) (by kernel_rfl) rfl rfl (fun K hK => ?_)
      have hb3a : ∀ o, Below W.heap.size W (w3.alloc o) := fun o => Hb3.out.alloc Hb3.out.size _
      have hvo3 : ∀ o, (w3.alloc o).ownsRow (w1.heap.size + 3) 22 1 v xss.length vs := fun o => World.ownsRow.kept Hvo.out (grownBy_of_below (hb3a o)) (by cases v.ownBlock <;> simp)
      refine wp_append_own _ _ _ 39 rfl (w1.heap.size + 3) 22 ir (.slice none 0 0) 1 24 Try.underlying39 Hir.out Hr0.out Hr1.out Hr2.out rfl (by decide) v _ _ rfl (hvo3 _) ⟨w3.heap.size, 0, none⟩ 1 1 [.slice au ys.length cu] rfl rfl (fun i z hz => lit_cell w3 _ _ i z hz) (by simp [Value.oneCell']) (by have := Hxl.out; have := Hql.out; unfold maxLen; omega) (by have := Hxl.out; have := Hql.out; omega) (by simp; omega) ?_
      intro v' w5 hown5 hgrow5 _
      have hlow : ∀ k, v.ownBlock = some k → w1.heap.size + 3 ≤ k := fun k e => (World.ownsRow.lt Hvo.out k e).1
      have hb35 : Below (w1.heap.size + 3) W w5 := ((Hb3.out.mono hszW).alloc (by omega) _).grown hgrow5 (by simp; omega) hlow
      have bE5 : Boxed w5 w1.heap.size 39 v := (hb35.block _ (by omega)).trans bEW
      refine hK.out _ _ (.inr bE5.cell) ?_
      clear hK K
      obtain ⟨av', cv', rfl⟩ := ownsRow_slice hown5
      have hro : RowR (w1.heap.size + 3) w5 (.slice av' (xss.length + 1) cv') (xss ++ [ys]) := by
        refine RowR.push (hvo3 _) (fun i hi => ?_) ((HU.out.mono (by simpa using hszW)).below ((Below.refl _ _).alloc (Nat.le_refl _) _)) (fun i z hz => ?_) hown5 hgrow5
        · obtain ⟨z, e1, e2, e3⟩ := Hvi.out i hi
          exact ⟨z, e1, e2.below (hb3a _), e3⟩
        · have hi : i < xss.length := by
            have hl := Hvo.out.1
            by_cases h : i < vs.length
            · omega
            · rw [List.getElem?_eq_none (by omega)] at hz; cases hz
          obtain ⟨z', e1, e2, _⟩ := Hvi.out i hi
          rw [hz] at e1
          cases e1
          exact Apart.of_rows e2 HU.out
      have hcl : ∀ (k : Nat) (o' : Obj) (o : Obj), v.ownBlock = some k → (w3.alloc o).heap[k]? = some o' → o'.isCells = true := fun k o' o e ho => by
        obtain ⟨_, ⟨e', _⟩ | ⟨g, cap, cur, e', _, hg, _⟩⟩ := hvo3 o
        · rw [e'] at e; cases e
        · rw [e'] at e; cases e; rw [hg] at ho; cases ho; rfl
      have hko : KeepsOthers W w5 := ((((KeepsOthers.of_grownBy (grownBy_of_below Hb3.out) (by simp))).trans (KeepsOthers.alloc w3 _)).trans (KeepsOthers.of_grownBy hgrow5 (fun k o' e ho => hcl k o' _ e ho)))
      have hF5 := bE5.frozen
      have hE5 := bE5.cell
      have Hro := Lib.hid hro; have Hko := Lib.hid hko; have Hb35 := Lib.hid hb35
      clear hro hko hb35 hown5 hgrow5 hvo3 hb3a hcl hlow hE3 hE0 hEf
      refine wpAnyZ_one (i := 5) (by kernel_rfl) rfl rfl (fun K hK => ?_)
      go_simp
      refine hK.out _ _ (.inl (by omega)) ?_
      clear hK K
      refine wpAnyZ_done (by kernel_rfl) ?_ _
      gi_wp2
      have hn0 : w.heap.size ≤ w1.heap.size + 3 := by omega
      refine ⟨((Hko.out.trans (KeepsOthers.setCell _ ⟨w1.heap.size, 0, none⟩ _))).from _, ⟨(Hb35.out.mono hn0).setCell (p := ⟨w1.heap.size, 0, none⟩) (by show w.heap.size ≤ w1.heap.size; omega) _, ?_, ?_⟩, _, xss ++ [ys], Boxed.set _ bE5, Hro.out.setCell_lt (by show w1.heap.size < _; omega) _, by simp [Hxl.out], fun hpre => ?_, hBW.trans ((Hb35.out.mono hn0).setCell (p := ⟨w1.heap.size, 0, none⟩) (by show w.heap.size ≤ w1.heap.size; omega) _), by have := Hb35.out.size; simp; omega⟩
      · exact (Below.heap_setCell _ ⟨w1.heap.size, 0, none⟩ _ _ (by simp)).trans (Hb35.out.block _ (by omega))
      · exact (Below.heap_setCell _ ⟨w1.heap.size, 0, none⟩ _ _ (by show w1.heap.size + 1 + 1 ≠ w1.heap.size; omega)).trans (Hb35.out.block _ (by omega))
      · obtain ⟨hp1, hp2⟩ := fin_prefix hpre
        rw [Hcond.out hp1, List.length_append, List.length_singleton, chunks_succ, ← Hys.out, hp2]
    case done =>
      rintro D ys W hD rfl ⟨v, xss, bEW, hx, hxl, hcond, hBW, hszW⟩ hK
      have hxe := hcond (List.prefix_refl _)
      rw [List.length_finRange] at hxe
      subst hxe
      obtain ⟨vs, hvo, hvi⟩ := hx
      have hE0 := bEW.cell
      have Hvo := Lib.hid hvo; have Hvi := Lib.hid hvi; have Hcond := Lib.hid hcond; have Hxl := Lib.hid hxl; clear hvo hvi hcond hxl hB1 bE bS bN
      go_wp2
      refine ⟨by simp, .inl ⟨_, _, rfl, run_takeDeferred hK, ?_⟩⟩
      refine ⟨_, results_tmp2 rfl _ _ _, ⟨_, rfl, ?_⟩, hBW.trans (belowK_b (w := w) (Nat.le_refl _) W D _ _ (by have := hB2.size; omega) hK rfl rfl)⟩
      exact (RowR.keptNC ⟨vs, Hvo.out, Hvi.out⟩ (grownBy_putObj' W D _) (fun r e => by cases e; exact ⟨_, hK, rfl⟩)).mono (by omega)
    case stop =>
      rintro D c' pre W _ _ h _
      exact h.elim
  · have hnil : s ≠ [] := by rintro rfl; simp at hls; omega
    obtain ⟨l1, hl1⟩ : ∃ l1, ls = l1 + 1 := ⟨ls - 1, by omega⟩
    obtain ⟨b0, off, rfl, hcl⟩ : ∃ b off, a0 = some ⟨b, off, none⟩ ∧ w.cell? ⟨b, off + l1, none⟩ = some (.int .i64 m) := by
      obtain ⟨b, off, e, h⟩ := h0 l1 (by omega)
      refine ⟨b, off, e, h.trans ?_⟩
      have : s[l1]'(by omega) = lastOf s := by
        unfold lastOf
        rw [List.getLast?_eq_getElem?, show s.length - 1 = l1 by omega, List.getElem?_eq_getElem (by omega)]
        rfl
      rw [this, hlast]
    have hb0 := World.block_lt_of_cell? w _ hcl
    have Hcl := Lib.hid hcl; clear hcl h0 h1 hnil hlast hls
    have hgt : decide ((0 : Int) < (ls : Int)) = true := by simp; omega
    have ew : IntKind.i64.wrap ((ls : Int) - 1) = (l1 : Int) := by rw [IntWalk.i64_in _ (by omega)]; omega
    have ew2 : wrap64 ((ls : Int) - 1) = (l1 : Int) := by unfold wrap64; omega
    have hi1 : (l1 : Int) < (ls : Int) := by omega
    have hi2 : (0 : Int) ≤ (l1 : Int) := by omega
    have Hl1 := Lib.hid hl1; clear hl1
    refine calls_marks Try.func21 rfl ?_
    simp only [Try.ntmps21, List.size_toArray, List.length_cons, List.length_nil, Nat.reduceAdd, Nat.reduceSub, Array.replicate_succ, Array.replicate_zero, List.push_toArray, List.append_toArray, List.nil_append, List.cons_append]
    go_wp2_with fail
    refine (Hqr.out _).mono ?_
    rintro e w1 ⟨rfl, hb1⟩
    obtain ⟨hcc, hff⟩ := bcell hb1
    have hz1 : w.heap.size < w1.heap.size := by have := hb1.size; simp at this; omega
    have hB1 : Below w.heap.size w w1 := (Hb.out _).trans (hb1.mono (by simp))
    have hS0 : w1.cell? ⟨w.heap.size, 0, none⟩ = some (.slice (some ⟨b0, off, none⟩) ls c0) := by rw [hcc _ _ (by simp)]; simp [go_sem]
    have hS1 : w1.cell? ⟨w.heap.size, 1, none⟩ = some (.slice (some ⟨b1, off1, none⟩) ld c1) := by rw [hcc _ _ (by simp)]; simp [go_sem]
    have hS1a : ∀ o, (w1.alloc o).cell? ⟨w.heap.size, 1, none⟩ = some (.slice (some ⟨b1, off1, none⟩) ld c1) := fun o => (World.cell?_alloc_lt _ _ _ (by show w.heap.size < _; omega)).trans hS1
    have hcx1 : w1.cell? ⟨b0, off + l1, none⟩ = some (.int .i64 m) := (hb1.cell (p := ⟨b0, off + l1, none⟩) (by simp; omega)).trans (((Hb.out _).cell (p := ⟨b0, off + l1, none⟩) hb0).trans Hcl.out)
    clear hcc hff hb1
    go_wp2_with fail
    refine (chunk_any (some ⟨b1, off1, none⟩) ld c1 m _ (by omega)).mono ?_
    rintro e w2 ⟨rfl, hw2⟩
    have hB2 : Below w.heap.size w w2 := by rw [hw2]; exact ((hB1.alloc hB1.size _).alloc (by have := hB1.size; simp; omega) _).alloc (by have := hB1.size; simp; omega) _
    have bE : Boxed w2 w1.heap.size 39 (.slice none 0 0) := by rw [hw2]; exact ((Boxed.new w1 39 (.slice none 0 0)).alloc _).alloc _
    have bS : Boxed w2 (w1.heap.size + 1) 22 (.slice (some ⟨b1, off1, none⟩) ld c1) := by
      rw [hw2]
      have := Boxed.new (w1.alloc (.cells #[.slice none 0 0] 39)) 22 (.slice (some ⟨b1, off1, none⟩) ld c1)
      rw [World.size_alloc] at this
      exact this.alloc _
    have bN : Boxed w2 (w1.heap.size + 1 + 1) 3 (.int .i64 (m : Int)) := by
      rw [hw2]
      have := Boxed.new ((w1.alloc (.cells #[.slice none 0 0] 39)).alloc (.cells #[.slice (some ⟨b1, off1, none⟩) ld c1] 22)) 3 (.int .i64 (m : Int))
      simp only [World.size_alloc] at this
      exact this
    have hsz2 : w2.heap.size = w1.heap.size + 3 := by rw [hw2]; simp
    clear hw2 hS0 hS1 hS1a
    have Hsz2 := Lib.hid hsz2; clear hsz2
    go_wp2_with fail
    refine wpIn_wide.1 (wpIn_rangeFunc_ownG (n := 9) rfl (by omega) (gf := 33) (lb := #[.pointer (some ⟨w1.heap.size + 1, 0, none⟩), .pointer (some ⟨w1.heap.size + 1 + 1, 0, none⟩)]) rfl trivial (fun args w => callFunc_enter Try.func33 (by kernel_rfl) rfl args w)
      (chunk_stops (w1.heap.size + 1) (w1.heap.size + 1 + 1) w.heap.size b1 off1 ld c1 m q Hq.out hc1 (by omega) (by omega) (by omega) _ (m : Int) rfl bS bN) keep2_t (keep2_b hB2.size bS.lt bN.lt) (Below.refl _ _) (fun _ => rfl)
      (LanesInv w d m w1.heap.size (w1.heap.size + 3) q) (fun _ _ _ => False) ?own (fun _ _ _ _ _ hs _ _ => hs) ?start
      (fun x => { tmps := #[Value.agg #[Value.slice (some ⟨b0, off, none⟩) ls c0, Value.slice (some { block := b1, off := off1 }) ld c1], Value.pointer (some { block := w.heap.size, off := 0 }), Value.slice none 0 0, Value.int IntKind.i64 0, Value.int IntKind.i64 ↑m, Value.int IntKind.i64 ↑ls,
        Value.pointer (some { block := w1.heap.size, off := 0 }), Value.slice (some ⟨b1, off1 + x.1 * m, none⟩) m m, Value.agg #[Value.slice (some ⟨b0, off, none⟩) ls c0, Value.slice (some { block := b1, off := off1 }) ld c1], Value.bool true, Value.bool false, Value.pointer (some { block := w.heap.size, off := 1 }),
        Value.slice (some { block := b1, off := off1 }) ld c1, Value.int IntKind.i64 ↑ld, Value.bool false, Value.pointer (some { block := w.heap.size, off := 0 }), Value.slice (some ⟨b0, off, none⟩) ls c0, Value.int IntKind.i64 ↑ls, Value.int IntKind.i64 ↑ls, Value.bool true,
        Value.pointer (some { block := w.heap.size, off := 0 }), Value.slice (some { block := b0, off := off }) ls c0, Value.int IntKind.i64 ↑ls, Value.int IntKind.i64 ↑l1, Value.pointer (some { block := b0, off := off + l1 }), Value.int IntKind.i64 ↑m, Value.pointer (some { block := w.heap.size, off := 1 }), Value.slice (some { block := b1, off := off1 }) ld c1, Value.int IntKind.i64 ↑m,
        Value.func (Fn.func 33) #[] #[Value.pointer (some { block := w1.heap.size + 1, off := 0 }), Value.pointer (some { block := w1.heap.size + 1 + 1, off := 0 })], Value.slice (some ⟨b1, off1 + x.1 * m, none⟩) m m,
        undef, undef, undef, undef, undef, undef], defers := [] }) ?assign ?body ?done ?stop)
    case own => exact LanesInv.own _ _ _ _ _ _ _ hB2.size
    case start => exact ⟨_, [], bE, RowR.nil _ _, rfl, fun _ => rfl, hB2, by rw [Hsz2.out]; exact Nat.le_refl _⟩
    case assign =>
      intro l x W K hK
      unfold chunkEnc
      gi_wp2
      exact hK
    case body =>
      rintro l pre x W ⟨v, xss, bEW, ⟨vs, hvo, hvi⟩, hxl, hcond, hBW, hszW⟩ hpl
      have hxm : x.1 * m + m ≤ ld := by
        have h1 : (x.1 + 1) * m ≤ q * m := Nat.mul_le_mul_right m x.2
        rw [Hq.out, Nat.succ_mul] at h1
        exact h1
      have hql : q ≤ 65536 := by
        have h1 : q * 1 ≤ q * m := Nat.mul_le_mul_left q hm1
        rw [Hq.out] at h1; omega
      obtain ⟨ys, hys⟩ : ∃ ys, (d.drop (x.1 * m)).take m = ys := ⟨_, rfl⟩
      have hyl : ys.length = m := by rw [← hys, List.length_take, List.length_drop, ← Hld.out]; omega
      have hyI : ∀ W' : World, Below w.heap.size w W' → IntsAt .i64 W' (some ⟨b1, off1 + x.1 * m, none⟩) ys := fun W' hW' => by rw [← hys]; exact (H1.out.below hW' (Nat.le_refl _)).at (x.1 * m) m
      have hE0 := bEW.cell
      have hEf := bEW.frozen
      have hElt := bEW.lt
      have Hql := Lib.hid hql; have Hyl := Lib.hid hyl; have HyI := Lib.hid hyI; have Hys := Lib.hid hys; have Hvo := Lib.hid hvo; have Hvi := Lib.hid hvi; have Hxl := Lib.hid hxl; have Hcond := Lib.hid hcond; have Hxm := Lib.hid hxm
      clear hql hyl hyI hys hvo hvi hxl hcond hxm hB1 bE bS bN
      obtain ⟨ir, hir, hr0, hr1, hr2⟩ := info_parts Try.infoR
      have Hir := Lib.hid hir; have Hr0 := Lib.hid hr0; have Hr1 := Lib.hid hr1; have Hr2 := Lib.hid hr2; clear hir hr0 hr1 hr2
      gi_wp2
      refine wpIn_region_roundZ (S := fun W' => W'.cell? ⟨w1.heap.size, 0, none⟩ = some v) (z := 5) l 7 (by kernel_rfl) (by kernel_rfl) ?out ?_
      case out => rintro ⟨_, _, h⟩; exact h
      have hSS : (fun W' : World => W'.cell? ⟨w1.heap.size, 0, none⟩ = some v) W.drew := hE0
      refine wpAnyZ_take (i := 0) (v := ?_) rfl (by kernel_rfl) (by kernel_rfl) (by kernel_rfl) (fun _ _ _ h => h) (by kernel_rfl) (Or.inl ⟨by rfl, ?_⟩) (by assumption) ?_
      rotate_left
      · intro w' hSw
        try dsimp only at hSw
        go_simp
        try with_reducible rfl
      show wpAnyZ _ _ _ _ _ _ _ _ (Act.put _ (some 31) _) _
      simp only [Act.put, List.setIfInBounds_toArray, List.set_cons_zero, List.set_cons_succ]
      refine wpAnyZ_take (i := 1) (v := ?_) rfl (by kernel_rfl) (by kernel_rfl) (by kernel_rfl) (fun _ _ _ h => h) (by kernel_rfl) (Or.inl ⟨by rfl, ?_⟩) (by assumption) ?_
      rotate_left
      · intro w' hSw
        try dsimp only at hSw
        go_simp
        try with_reducible rfl
      show wpAnyZ _ _ _ _ _ _ _ _ (Act.put _ (some 32) _) _
      simp only [Act.put, List.setIfInBounds_toArray, List.set_cons_zero, List.set_cons_succ]
      refine wpAnyZ_one (i := 2) (by kernel_rfl) rfl rfl (fun K hK => ?_)
      go_simp
      have hWd : Below w.heap.size w W.drew := hBW.drew
      refine (clone_n _ _ _ _ ys Hyl.out.symm (by rw [Hyl.out]; omega) (HyI.out _ hWd)).mono ?_
      rintro e w3 ⟨⟨u, rfl, hu⟩, hb3⟩
      have hE3 : w3.cell? ⟨w1.heap.size, 0, none⟩ = some v := (hb3.cell (p := ⟨w1.heap.size, 0, none⟩) hElt).trans hE0
      show K _ w3
      refine hK.out _ _ (.inr hE3) ?_
      clear hK K hSS
      obtain ⟨au, cu, rfl, _, _⟩ := hu.slice
      have hz3 : W.heap.size ≤ w3.heap.size := hb3.size
      have hb3' : Below W.heap.size W w3 := (Below.refl _ _).drew.trans hb3
      have HU := Lib.hid hu; have Hb3 := Lib.hid hb3'; clear hu hb3 hb3' hWd
      refine wpAnyZ_one (i := 3) (by kernel_rfl) rfl rfl (fun K hK => ?_)
      go_simp
      refine hK.out _ _ (.inr ((World.cell?_alloc_lt _ _ _ (by show w1.heap.size < _; omega)).trans hE3)) ?_
      clear hK K
      refine wpAnyZ_one (i := 4) (by kernel_rfl) rfl rfl (fun K hK => ?_)
      have hb3a : ∀ o, Below W.heap.size W (w3.alloc o) := fun o => Hb3.out.alloc Hb3.out.size _
      have hvo3 : ∀ o, (w3.alloc o).ownsRow (w1.heap.size + 3) 22 1 v xss.length vs := fun o => World.ownsRow.kept Hvo.out (grownBy_of_below (hb3a o)) (by cases v.ownBlock <;> simp)
      refine wp_append_own _ _ _ 39 rfl (w1.heap.size + 3) 22 ir (.slice none 0 0) 1 24 Try.underlying39 Hir.out Hr0.out Hr1.out Hr2.out rfl (by decide) v _ _ rfl (hvo3 _) ⟨w3.heap.size, 0, none⟩ 1 1 [.slice au ys.length cu] rfl rfl (fun i z hz => lit_cell w3 _ _ i z hz) (by simp [Value.oneCell']) (by have := Hxl.out; have := Hql.out; unfold maxLen; omega) (by have := Hxl.out; have := Hql.out; omega) (by simp; omega) ?_
      intro v' w5 hown5 hgrow5 _
      have hlow : ∀ k, v.ownBlock = some k → w1.heap.size + 3 ≤ k := fun k e => (World.ownsRow.lt Hvo.out k e).1
      have hb35 : Below (w1.heap.size + 3) W w5 := ((Hb3.out.mono hszW).alloc (by omega) _).grown hgrow5 (by simp; omega) hlow
      have bE5 : Boxed w5 w1.heap.size 39 v := (hb35.block _ (by omega)).trans bEW
      refine hK.out _ _ (.inr bE5.cell) ?_
      clear hK K
      obtain ⟨av', cv', rfl⟩ := ownsRow_slice hown5
      have hro : RowR (w1.heap.size + 3) w5 (.slice av' (xss.length + 1) cv') (xss ++ [ys]) := by
        refine RowR.push (hvo3 _) (fun i hi => ?_) ((HU.out.mono (by simpa using hszW)).below ((Below.refl _ _).alloc (Nat.le_refl _) _)) (fun i z hz => ?_) hown5 hgrow5
        · obtain ⟨z, e1, e2, e3⟩ := Hvi.out i hi
          exact ⟨z, e1, e2.below (hb3a _), e3⟩
        · have hi : i < xss.length := by
            have hl := Hvo.out.1
            by_cases h : i < vs.length
            · omega
            · rw [List.getElem?_eq_none (by omega)] at hz; cases hz
          obtain ⟨z', e1, e2, _⟩ := Hvi.out i hi
          rw [hz] at e1
          cases e1
          exact Apart.of_rows e2 HU.out
      have hcl : ∀ (k : Nat) (o' : Obj) (o : Obj), v.ownBlock = some k → (w3.alloc o).heap[k]? = some o' → o'.isCells = true := fun k o' o e ho => by
        obtain ⟨_, ⟨e', _⟩ | ⟨g, cap, cur, e', _, hg, _⟩⟩ := hvo3 o
        · rw [e'] at e; cases e
        · rw [e'] at e; cases e; rw [hg] at ho; cases ho; rfl
      have hko : KeepsOthers W w5 := ((((KeepsOthers.of_grownBy (grownBy_of_below Hb3.out) (by simp))).trans (KeepsOthers.alloc w3 _)).trans (KeepsOthers.of_grownBy hgrow5 (fun k o' e ho => hcl k o' _ e ho)))
      have hF5 := bE5.frozen
      have hE5 := bE5.cell
      have Hro := Lib.hid hro; have Hko := Lib.hid hko; have Hb35 := Lib.hid hb35
      clear hro hko hb35 hown5 hgrow5 hvo3 hb3a hcl hlow hE3 hE0 hEf
      refine wpAnyZ_one (i := 5) (by kernel_rfl) rfl rfl (fun K hK => ?_)
      go_simp
      refine hK.out _ _ (.inl (by omega)) ?_
      clear hK K
      refine wpAnyZ_done (by kernel_rfl) ?_ _
      gi_wp2
      have hn0 : w.heap.size ≤ w1.heap.size + 3 := by omega
      refine ⟨((Hko.out.trans (KeepsOthers.setCell _ ⟨w1.heap.size, 0, none⟩ _))).from _, ⟨(Hb35.out.mono hn0).setCell (p := ⟨w1.heap.size, 0, none⟩) (by show w.heap.size ≤ w1.heap.size; omega) _, ?_, ?_⟩, _, xss ++ [ys], Boxed.set _ bE5, Hro.out.setCell_lt (by show w1.heap.size < _; omega) _, by simp [Hxl.out], fun hpre => ?_, hBW.trans ((Hb35.out.mono hn0).setCell (p := ⟨w1.heap.size, 0, none⟩) (by show w.heap.size ≤ w1.heap.size; omega) _), by have := Hb35.out.size; simp; omega⟩
      · exact (Below.heap_setCell _ ⟨w1.heap.size, 0, none⟩ _ _ (by simp)).trans (Hb35.out.block _ (by omega))
      · exact (Below.heap_setCell _ ⟨w1.heap.size, 0, none⟩ _ _ (by show w1.heap.size + 1 + 1 ≠ w1.heap.size; omega)).trans (Hb35.out.block _ (by omega))
      · obtain ⟨hp1, hp2⟩ := fin_prefix hpre
        rw [Hcond.out hp1, List.length_append, List.length_singleton, chunks_succ, ← Hys.out, hp2]
    case done =>
      rintro D ys W hD rfl ⟨v, xss, bEW, hx, hxl, hcond, hBW, hszW⟩ hK
      have hxe := hcond (List.prefix_refl _)
      rw [List.length_finRange] at hxe
      subst hxe
      obtain ⟨vs, hvo, hvi⟩ := hx
      have hE0 := bEW.cell
      have Hvo := Lib.hid hvo; have Hvi := Lib.hid hvi; have Hcond := Lib.hid hcond; have Hxl := Lib.hid hxl; clear hvo hvi hcond hxl hB1 bE bS bN
      go_wp2
      refine ⟨by simp, .inl ⟨_, _, rfl, run_takeDeferred hK, ?_⟩⟩
      refine ⟨_, results_tmp2 rfl _ _ _, ⟨_, rfl, ?_⟩, hBW.trans (belowK_b (w := w) (Nat.le_refl _) W D _ _ (by have := hB2.size; omega) hK rfl rfl)⟩
      exact (RowR.keptNC ⟨vs, Hvo.out, Hvi.out⟩ (grownBy_putObj' W D _) (fun r e => by cases e; exact ⟨_, hK, rfl⟩)).mono (by omega)
    case stop =>
      rintro D c' pre W _ _ h _
      exact h.elim

theorem lanes_any (w : World) (a0 a1 : Option Addr) (c0 c1 : Nat) (s d : List Int) (hs : s.length ≤ maxLen) (hc1 : d.length ≤ c1) (h0 : IntsAt .i64 w a0 s) (h1 : IntsAt .i64 w a1 d) :
    Calls Try.prog 21 #[.agg #[.slice a0 s.length c0, .slice a1 d.length c1]] w fun e w' => RetRows w.heap.size (lanes s d) e w' ∧ Below w.heap.size w w' := by
  cases hr : right s d with
  | false => exact lanes_bad w a0 a1 c0 c1 s d hs h0 (.inl hr)
  | true =>
    by_cases hd0 : d = []
    · exact lanes_bad w a0 a1 c0 c1 s d hs h0 (.inr hd0)
    · obtain ⟨_, g⟩ := right_good hr
      have hp : 0 < d.length := List.length_pos_iff.2 hd0
      obtain ⟨m, q, e1, e2, e3, e4⟩ := lanes_facts hr hp
      obtain ⟨b1, off1, rfl, _⟩ := h1 0 hp
      have hl : lanes s d = (chunks m d q, 0) := by
        unfold lanes
        rw [if_pos hr, e1, ← e4]
        simp only [Int.toNat_natCast]
        rw [Nat.mul_div_cancel _ (by omega)]
      rw [hl]
      exact lanes_good w a0 b1 off1 c0 c1 _ _ s d m q rfl rfl g.len hp (by have := g.le; omega) hc1 h0 h1 hr e1 e2 e3 e4

/-- Such rows are a slice of slices that read as xss. -/
theorem RowR.slice {B : Nat} {w : World} {v : Value} {xss : List (List Int)} (h : RowR B w v xss) : ∃ a cap, v = .slice a xss.length cap ∧ xss.length ≤ maxLen ∧
    ∀ i, (hi : i < xss.length) → ∃ b off u, a = some ⟨b, off, none⟩ ∧ w.cell? ⟨b, off + i, none⟩ = some u ∧ RowI B w u xss[i] := by
  obtain ⟨vs, ⟨h1, h2⟩, hin⟩ := h
  rcases h2 with ⟨hv, hn⟩ | ⟨g, cap, cur, hv, hB, hg, hnc, hcm, hcs, ht⟩
  · exact ⟨none, 0, by rw [hv, hn], by rw [hn]; exact Nat.zero_le _, fun i hi => absurd hi (by omega)⟩
  · refine ⟨some ⟨g, 0, none⟩, cap, hv, Nat.le_trans hnc hcm, fun i hi => ?_⟩
    obtain ⟨u, e1, e2, _⟩ := hin i hi
    refine ⟨g, 0, u, rfl, ?_, e2⟩
    rw [Nat.zero_add, cell_of_row w g i cur 22 (0, 0) hg]
    have : (cur.toList.take (xss.length * 1))[i]? = some u := by rw [ht]; exact e1
    rw [List.getElem?_take, if_pos (by omega)] at this
    simpa using this
end Go.Proofs.Ytbhhmfkipfedfaa
