import Derived.Test.YtmjkncmpanhgjaaPA4
-- DROPS
namespace Go.Proofs.Ytmjkncmpanhgjaa
set_option linter.unusedVariables false
set_option linter.unusedSimpArgs false
set_option maxRecDepth 100000
open Go.RowKit

/-- v is a row of the call's own (from block B on) of rows of the call's own that read as xss; no two of them share a block. -/
def RowR (B : Nat) (w : World) (v : Value) (xss : List (List Int)) : Prop :=
  ∃ vs : List Value, w.ownsRow B 22 1 v xss.length vs ∧ ∀ i, (h : i < xss.length) → ∃ u, vs[i]? = some u ∧ RowI B w u xss[i] ∧ ∀ j u', i < j → vs[j]? = some u' → Apart u u'
theorem RowR.nil (B : Nat) (w : World) : RowR B w (.slice none 0 0) [] := ⟨[], World.ownsRow_nil w B 22 1, fun i h => absurd h (Nat.not_lt_zero i)⟩

theorem outer_ne {B B' : Nat} {w : World} {v u : Value} {n : Nat} {vs : List Value} {ys : List Int} (h : w.ownsRow B 22 1 v n vs) (h2 : RowI B' w u ys) : u.ownBlock = none ∨ u.ownBlock ≠ v.ownBlock := by
  obtain ⟨_, ⟨rfl, _⟩ | ⟨g, cap, cur, rfl, _, hg, _⟩⟩ := h
  · cases hu : u.ownBlock with
    | none => exact .inl rfl
    | some k => exact .inr (by simp [Value.ownBlock])
  · obtain ⟨_, ⟨rfl, _⟩ | ⟨g2, cap2, cur2, rfl, _, hg2, _⟩⟩ := h2
    · exact .inl rfl
    · refine .inr fun e => ?_
      simp [Value.ownBlock] at e
      subst e
      rw [hg] at hg2
      simp at hg2

theorem RowR.below {B : Nat} {w w' : World} {v : Value} {xss : List (List Int)} (h : RowR B w v xss) (hb : Below w.heap.size w w') : RowR B w' v xss := by
  obtain ⟨vs, hown, hin⟩ := h
  refine ⟨vs, World.ownsRow.kept hown (grownBy_of_below hb) (by cases v.ownBlock <;> simp), fun i hi => ?_⟩
  obtain ⟨u, h1, h2, h3⟩ := hin i hi
  exact ⟨u, h1, h2.below hb, h3⟩

theorem RowR.push {B : Nat} {w1 w2 : World} {v v' u : Value} {vs : List Value} {xss : List (List Int)} {ys : List Int} (hown : w1.ownsRow B 22 1 v xss.length vs)
    (hin : ∀ i, (h : i < xss.length) → ∃ u, vs[i]? = some u ∧ RowI B w1 u xss[i] ∧ ∀ j u', i < j → vs[j]? = some u' → Apart u u')
    (hu : RowI B w1 u ys) (hap : ∀ (i : Nat) (x : Value), vs[i]? = some x → Apart x u) (hown2 : w2.ownsRow B 22 1 v' (xss.length + 1) (vs ++ [u])) (hg : w1.grownBy w2 v.ownBlock) : RowR B w2 v' (xss ++ [ys]) := by
  have hl : vs.length = xss.length := by have := hown.1; omega
  refine ⟨vs ++ [u], by simpa using hown2, fun i hi => ?_⟩
  by_cases h : i < xss.length
  · obtain ⟨x, h1, h2, h3⟩ := hin i h
    refine ⟨x, by rw [List.getElem?_append_left (by omega)]; exact h1, ?_, fun j u' hj hu' => ?_⟩
    · rw [List.getElem_append_left h]
      exact h2.kept hg (outer_ne hown h2)
    · by_cases hj2 : j < vs.length
      · rw [List.getElem?_append_left hj2] at hu'; exact h3 j u' hj hu'
      · rw [List.getElem?_append_right (by omega)] at hu'
        have : j - vs.length = 0 := by
          by_cases hz : j - vs.length = 0
          · exact hz
          · rw [List.getElem?_eq_none (by simp; omega)] at hu'; cases hu'
        rw [this] at hu'
        cases hu'
        exact hap i x h1
  · simp at hi
    have hi' : i = xss.length := by omega
    subst hi'
    refine ⟨u, by rw [← hl]; simp, ?_, fun j u' hj hu' => ?_⟩
    · simp
      exact hu.kept hg (outer_ne hown hu)
    · rw [List.getElem?_eq_none (by simp; omega)] at hu'; cases hu'

theorem RowR.mono {B B' : Nat} {w : World} {v : Value} {xss : List (List Int)} (h : RowR B w v xss) (hB : B' ≤ B) : RowR B' w v xss := by
  obtain ⟨vs, ⟨h1, h2⟩, hin⟩ := h
  refine ⟨vs, ⟨h1, ?_⟩, fun i hi => ?_⟩
  · rcases h2 with h2 | ⟨g, cap, cur, hv, hb, r⟩
    · exact .inl h2
    · exact .inr ⟨g, cap, cur, hv, Nat.le_trans hB hb, r⟩
  · obtain ⟨u, a, b, c⟩ := hin i hi
    exact ⟨u, a, b.mono hB, c⟩

/-- the k first parts of m numbers each -/
def chunks (m : Nat) (xs : List Int) (k : Nat) : List (List Int) := (List.range k).map fun i => (xs.drop (i * m)).take m
theorem chunks_succ (m : Nat) (xs : List Int) (k : Nat) : chunks m xs (k + 1) = chunks m xs k ++ [(xs.drop (k * m)).take m] := by simp [chunks, List.range_succ]
theorem chunks_len (m : Nat) (xs : List Int) (k : Nat) : (chunks m xs k).length = k := by simp [chunks]
/-- the last side, or 1 -/
def lastOf (s : List Int) : Int := s.getLast?.getD 1
def lanes (s d : List Int) : List (List Int) × Int := if right s d then (chunks (lastOf s).toNat d (d.length / (lastOf s).toNat), 0) else ([], 60)
/-- It came back with rows in memory of its own, and a number. -/
def RetRows (B : Nat) (r : List (List Int) × Int) (e : Ending) (w' : World) : Prop := ∃ v, e = .returned (.tuple #[v, .int .i64 r.2]) ∧ RowR B w' v r.1
theorem Try.infoR : (Try.prog.info? 22).map (fun i => (i.zero, i.size, i.bytes)) = some (some (.slice none 0 0), 1, 24) := by kernel_rfl
theorem prodL_last {s : List Int} (h : s ≠ []) : prodL s = prodL s.dropLast * lastOf s := by
  have e := List.dropLast_concat_getLast h
  have hl : lastOf s = s.getLast h := by unfold lastOf; rw [List.getLast?_eq_some_getLast h]; rfl
  conv => lhs; rw [← e]
  rw [prodL_append, hl]
  simp [prodL]
theorem lanes_facts {s d : List Int} (h : right s d = true) (h0 : 0 < d.length) : ∃ m q : Nat, lastOf s = m ∧ 1 ≤ m ∧ m ≤ 65536 ∧ q * m = d.length := by
  obtain ⟨_, g⟩ := right_good h
  by_cases hs : s = []
  · subst hs
    exact ⟨1, d.length, rfl, by omega, by omega, by omega⟩
  · have hl : lastOf s ∈ s := by unfold lastOf; rw [List.getLast?_eq_some_getLast hs]; exact List.getLast_mem hs
    have hb := g.side _ hl
    have hp := g.prod
    rw [prodL_last hs] at hp
    obtain ⟨m, hm⟩ := Int.eq_ofNat_of_zero_le hb.1
    rw [hm] at hp hb
    have hm1 : m ≠ 0 := by rintro rfl; rw [Int.natCast_zero, Int.mul_zero] at hp; omega
    have hq0 : 0 ≤ prodL s.dropLast := (prodL_le_pow (l := s.dropLast) (fun x hx => g.side x (List.dropLast_subset _ hx))).1
    obtain ⟨q, hq⟩ := Int.eq_ofNat_of_zero_le hq0
    rw [hq] at hp
    exact ⟨m, q, hm, by omega, by omega, by exact_mod_cast hp.symm⟩
end Go.Proofs.Ytmjkncmpanhgjaa

-- DROPS
namespace Go.Proofs.Ytmjkncmpanhgjaa
set_option linter.unusedVariables false
set_option linter.unusedSimpArgs false
set_option maxRecDepth 100000
open Go.RowKit

set_option maxRecDepth 100000 in
set_option maxHeartbeats 4000000 in
theorem rlanes_bad (w : World) (a0 a1 : Option Addr) (c0 c1 : Nat) (s d : List Int) (hs : s.length ≤ maxLen) (h0 : IntsAt .i64 w a0 s) (hr : right s d = false) :
    Calls Try.prog 64 #[.agg #[.slice a0 s.length c0, .slice a1 d.length c1]] w fun e w' => RetRows w.heap.size (lanes s d) e w' ∧ Below w.heap.size w w' := by
  have hq := fun o => rright_any (w.alloc o) a0 a1 c0 c1 s d hs (h0.below ((Below.refl _ _).alloc (Nat.le_refl _) _) (Nat.le_refl _))
  rw [hr] at hq
  have hl : lanes s d = ([], 60) := by unfold lanes; rw [if_neg (by rw [hr]; simp)]
  have Hq := Lib.hid hq; have Hl := Lib.hid hl; clear hq hl hr h0 hs
  go_enter Try.func64, Try.ntmps64
  go_wp2_with (go_at_call 41; refine (Hq.out _).mono ?_; rintro e w1 ⟨rfl, hb1⟩)
  refine bodyPost_ret (v := .tuple #[.slice none 0 0, .int .i64 60]) (by simp [results, Try.results64, go_sem]) rfl ⟨?_, ?_⟩
  · rw [Hl.out]; exact ⟨_, rfl, RowR.nil _ _⟩
  · exact bAfter ((Below.refl _ _).alloc (Nat.le_refl _) _) (by simp) hb1

theorem lit_cell (W : World) (t : TypeId) (x : Value) (j : Nat) (v : Value) (h : [x][j]? = some v) : (W.alloc (.cells #[x] t)).cell? ((⟨W.heap.size, 0, none⟩ : Addr).add j) = some v := by
  cases j with
  | zero =>
    cases h
    have e : (⟨W.heap.size, 0, none⟩ : Addr).add 0 = ⟨W.heap.size, 0, none⟩ := by simp [Addr.add]
    rw [e, cell_of_row _ W.heap.size 0 _ t (0, 0) (World.alloc_heap_new W _)]
    rfl
  | succ j => simp at h

set_option maxRecDepth 100000 in
set_option maxHeartbeats 4000000 in
theorem rlanes_good (w : World) (a0 a1 : Option Addr) (c0 c1 : Nat) (s d : List Int) (m q : Nat) (hs : s.length ≤ 4) (hd : d.length ≤ 65536) (hc1 : d.length ≤ c1) (h0 : IntsAt .i64 w a0 s) (h1 : IntsAt .i64 w a1 d) (hr : right s d = true)
    (hlast : lastOf s = m) (hm1 : (d.length = 0 ∧ q = 0) ∨ 1 ≤ m) (hm2 : m ≤ 65536) (hq : q * m = d.length) :
    Calls Try.prog 64 #[.agg #[.slice a0 s.length c0, .slice a1 d.length c1]] w fun e w' => RetRows w.heap.size (chunks m d q, 0) e w' ∧ Below w.heap.size w w' := by
  have hbb : ∀ o, Below w.heap.size w (w.alloc o) := fun o => (Below.refl _ _).alloc (Nat.le_refl _) _
  have hqr := fun o => rright_any (w.alloc o) a0 a1 c0 c1 s d (by unfold maxLen; omega) (h0.below (hbb o) (Nat.le_refl _))
  rw [hr] at hqr
  obtain ⟨ls, hls⟩ : ∃ ls, s.length = ls := ⟨_, rfl⟩
  obtain ⟨ld, hld⟩ : ∃ ld, d.length = ld := ⟨_, rfl⟩
  rw [hls] at hqr hs ⊢
  rw [hld] at hqr hd hc1 hq hm1 ⊢
  have Hqr := Lib.hid hqr; have H0 := Lib.hid h0; have H1 := Lib.hid h1; have Hq := Lib.hid hq; have Hld := Lib.hid hld; have Hb := Lib.hid hbb
  have Hfin : Hid (∀ k, k * m = ld → (ld = 0 → k = 0) → chunks m d k = chunks m d q) := fun k hk hk0 => by
    rcases hm1 with h | h
    · rw [hk0 h.1, h.2]
    · have : k = q := Nat.eq_of_mul_eq_mul_right (by omega) (hk.trans hq.symm)
      rw [this]
  have Hm1 : Hid (0 < ld → 1 ≤ m) := fun h => by omega
  clear hm1
  clear hqr hr hq hbb
  obtain ⟨ir, hir, hr0, hr1, hr2⟩ := info_parts Try.infoR
  obtain ⟨i0, hi, hz0, hz1, hz2⟩ := info_parts Try.info2
  have Hir := Lib.hid hir; have Hr0 := Lib.hid hr0; have Hr1 := Lib.hid hr1; have Hr2 := Lib.hid hr2; clear hir hr0 hr1 hr2
  have Hi := Lib.hid hi; have Hz0 := Lib.hid hz0; have Hz1 := Lib.hid hz1; have Hz2 := Lib.hid hz2; clear hi hz0 hz1 hz2
  rcases Nat.eq_zero_or_pos ls with hz | hz
  · have hsn : s = [] := List.eq_nil_of_length_eq_zero (by omega)
    have hm : m = 1 := by
      have h : lastOf [] = 1 := rfl
      rw [hsn, h] at hlast
      omega
    have h1m : Value.int .i64 1 = Value.int .i64 (m : Int) := by rw [hm]; rfl
    subst hz
    clear h0 h1 hlast hls hld hm hsn
    have h1m' := Lib.hid h1m; clear h1m
    go_enter Try.func64, Try.ntmps64
    go_wp2_with (go_at_call 41; refine (Hqr.out _).mono ?_; rintro e w1 ⟨rfl, hb1⟩; obtain ⟨hcc, hff⟩ := bcell hb1; have hz1 : w.heap.size < w1.heap.size := (by have := hb1.size; simp at this; omega))
    have h1m := h1m'.out
    have hB1 : Below w.heap.size w w1 := (Hb.out _).trans (hb1.mono (by simp))
    have hS1 : w1.cell? ⟨w.heap.size, 1, none⟩ = some (.slice a1 ld c1) := by rw [hcc _ _ (by simp)]; simp [go_sem]
    clear hcc hff hb1
    rw [h1m]
    have H1m := Lib.hid h1m; clear h1m
    go_loopw [5, 6] (fun o i wr => ∃ (k j : Nat), j = k * m ∧ i = .int .i64 (j : Int) ∧ RowR w1.heap.size wr o (chunks m d k) ∧ Below w1.heap.size w1 wr ∧ j ≤ ld ∧ (ld = 0 → k = 0)) (fun _ i _ => ld - (intOf i).toNat)
    case atStart => exact ⟨0, 0, by omega, rfl, RowR.nil _ _, Below.refl _ _, Nat.zero_le _, fun _ => rfl⟩
    case round =>
      obtain ⟨k, j, hj, rfl, hrow, hbel, hjl, hk0⟩ := hrel
      have Hk0 := Lib.hid hk0; clear hk0
      have hS : wr.cell? ⟨w.heap.size, 1, none⟩ = some (.slice a1 ld c1) := (hbel.cell (p := ⟨w.heap.size, 1, none⟩) hz1).trans hS1
      by_cases hlt : j < ld
      · have hm1 : 1 ≤ m := Hm1.out (by omega)
        have hkq : k + 1 ≤ q := by
          have hq' := Hq.out
          have : k < q := Nat.lt_of_mul_lt_mul_right (a := m) (by omega)
          exact this
        have hjm : j + m ≤ ld := by
          have h1 : (k + 1) * m ≤ q * m := Nat.mul_le_mul_right m hkq
          rw [Hq.out, Nat.succ_mul] at h1
          omega
        have hkj : k ≤ j := by rw [hj]; exact Nat.le_mul_of_pos_right k hm1
        have hBw : Below w.heap.size w wr := hB1.trans (hbel.mono hB1.size)
        obtain ⟨ys, hys⟩ : ∃ ys, (d.drop j).take m = ys := ⟨_, rfl⟩
        have hyl : ys.length = m := by rw [← hys, List.length_take, List.length_drop, Hld.out]; omega
        have hcut : IntsAt .i64 wr (subA a1 c1 j) ys := by rw [← hys]; exact (H1.out.below hBw (Nat.le_refl _)).cut (m := c1) (by rw [Hld.out]; exact hc1)
        obtain ⟨ad, had, hsrc⟩ := hcut.src (by omega)
        obtain ⟨jm, hjm'⟩ : ∃ jm, j + m = jm := ⟨_, rfl⟩
        obtain ⟨cc, hcc'⟩ : ∃ cc, c1 - j = cc := ⟨_, rfl⟩
        have hsl : ∀ W : World, (Instr.sliceAt 22 (.slice a1 ld c1) (some (.int .i64 (j : Int))) (some (.int .i64 ((j : Int) + (m : Int)))) none).run Try.prog W = .ok (.slice (some ad) m cc) W := fun W => by
          rw [slice_lh W a1 ld c1 .i64 .i64 j ((j : Int) + m) (by omega) (by omega) (by omega), show ((j : Int)).toNat = j by omega, show ((j : Int) + (m : Int)).toNat - j = m by omega, had, hcc']
        have hpush : chunks m d (k + 1) = chunks m d k ++ [ys] := by rw [chunks_succ, ← hj, hys]
        have hklen := chunks_len m d k
        have hk6 : k ≤ 65536 := by omega
        have hb1 : w1.heap.size ≤ wr.heap.size := hbel.size
        have hSa : ∀ o, (wr.alloc o).cell? ⟨w.heap.size, 1, none⟩ = some (.slice a1 ld c1) := fun o => (World.cell?_alloc_lt _ _ _ (by show w.heap.size < _; omega)).trans hS
        have hz2 : w.heap.size < wr.heap.size := by omega
        have hj1 : (0 : Int) ≤ (j : Int) := by omega
        have hj2 : (j : Int) < (ld : Int) := by omega
        have Hjm := Lib.hid hjm'; have Hkj := Lib.hid hkj; have Hk6 := Lib.hid hk6; have Hjm2 := Lib.hid hjm; have Hb1 := Lib.hid hb1
        clear hjm' hcc' hkj hk6 hjm hb1 hBw hB1 hS1
        have Hyl := Lib.hid hyl; have Hsrc := Lib.hid hsrc; have Hpush := Lib.hid hpush; have Hkl := Lib.hid hklen; have Hrow := Lib.hid hrow; have Hbel := Lib.hid hbel; have Hj := Lib.hid hj
        clear hyl hsrc hpush hklen hrow hbel hj hcut had hys hkq
        go_wp2_with (at_builtin; refine wpList_append_own _ rfl _ _ 22 rfl wr.heap.size 2 i0 (.int .i64 0) 1 8 Try.underlying22 Hi.out Hz0.out Hz1.out Hz2.out rfl (by decide) _ 0 [] rfl (World.ownsRow_made wr #[] 0 (Nat.le_refl _) (Nat.zero_le _) rfl) ad m cc (ys.map (Value.int .i64)) rfl (by simp [Hyl.out]) (fun j' v hj' => (World.cell?_alloc_lt _ _ _ (World.block_lt_of_cell? wr _ (Hsrc.out j' v hj'))).trans (Hsrc.out j' v hj')) (oneCell_ints _ _) (by unfold maxLen; omega) (by omega) (by simp) ?_)
        intro u w2 hown hgrow _
        have hB2 : Below wr.heap.size wr w2 := ((Below.refl wr.heap.size wr).alloc (Nat.le_refl _) _).grown hgrow (by simp) (fun k e => by cases e; exact Nat.le_refl _)
        have hu : RowI wr.heap.size w2 u ys := by unfold RowI; rw [Hyl.out]; simpa using hown
        have HU := Lib.hid hu; have HB2 := Lib.hid hB2
        obtain ⟨au, cu, rfl, _, _⟩ := hu.slice
        clear hown hgrow hu hB2
        obtain ⟨vs, hvo, hvi⟩ := Hrow.out
        have hB3 : ∀ o, Below wr.heap.size wr (w2.alloc o) := fun o => HB2.out.alloc HB2.out.size _
        have hvo2 : ∀ o, (w2.alloc o).ownsRow w1.heap.size 22 1 u5 k vs := fun o => by
          have := World.ownsRow.kept hvo (grownBy_of_below (hB3 o)) (by cases u5.ownBlock <;> simp)
          rwa [Hkl.out] at this
        have HVO := Lib.hid hvo2; have HVI := Lib.hid hvi; have HV0 := Lib.hid hvo; have HB3 := Lib.hid hB3; clear hvo2 hvi hvo hB3
        have HK6 := Hk6.out
        have hbw2 : w1.heap.size ≤ w2.heap.size := Nat.le_trans Hb1.out HB2.out.size
        go_wp2_with (at_builtin; refine wpList_append_own _ rfl _ _ 52 rfl w1.heap.size 22 ir (.slice none 0 0) 1 24 Try.underlying52 Hir.out Hr0.out Hr1.out Hr2.out rfl (by decide) _ k vs rfl (HVO.out _) ⟨w2.heap.size, 0, none⟩ 1 1 [.slice au ys.length cu] rfl rfl (fun j v hj => lit_cell w2 _ _ j v hj) (by simp [Value.oneCell']) (by unfold maxLen; omega) (by omega) (by simp; omega) ?_)
        intro v' w4 hown hgrow _
        have hro : RowR w1.heap.size w4 v' (chunks m d (k + 1)) := by
          rw [Hpush.out]
          have hvk : ∀ o : Obj, (w2.alloc o).ownsRow w1.heap.size 22 1 u5 (chunks m d k).length vs := fun o => by rw [Hkl.out]; exact HVO.out o
          refine RowR.push (hvk _) (fun i hi => ?_) ((HU.out.mono Hb1.out).below ((Below.refl _ _).alloc (Nat.le_refl _) _)) (fun i x hx => ?_) (by rw [Hkl.out]; exact hown) hgrow
          · obtain ⟨x, e1, e2, e3⟩ := HVI.out i hi
            exact ⟨x, e1, e2.below (HB3.out _), e3⟩
          · have hi : i < (chunks m d k).length := by
              have hl := HV0.out.1
              by_cases h : i < vs.length
              · omega
              · rw [List.getElem?_eq_none (by omega)] at hx; cases hx
            obtain ⟨x', e1, e2, _⟩ := HVI.out i hi
            rw [hx] at e1
            cases e1
            exact Apart.of_rows e2 HU.out
        have hbo : Below w1.heap.size w1 w4 := (Hbel.out.trans ((HB3.out _).mono Hb1.out)).grown hgrow (by simp; omega) (fun k' e => by
          obtain ⟨_, ⟨e', _⟩ | ⟨g, cap, cur, e', hg, _⟩⟩ := HV0.out
          · rw [e'] at e; cases e
          · rw [e'] at e; cases e; exact hg)
        have Hro := Lib.hid hro; have Hbo := Lib.hid hbo; clear hro hbo hown hgrow
        go_wp2_with fail
        go_roundw
        case rel => exact ⟨k + 1, jm, by rw [Nat.succ_mul, ← Hj.out]; exact Hjm.out.symm, by have := Hjm.out; simp; omega, Hro.out, Hbo.out, by have := Hjm.out; have := Hjm2.out; omega, fun h => by omega⟩
        case measure => simp [intOf]; omega
      · have hk : k * m = ld := by omega
        have hch := Hfin.out k hk Hk0.out
        rw [hch] at hrow
        have Hrow := Lib.hid hrow; have Hbel := Lib.hid hbel; clear hrow hbel hj hk hch
        go_wp2_with fail
        refine bodyPost_ret (v := .tuple #[u5, .int .i64 0]) (by simp [results, Try.results64, go_sem]) rfl ⟨⟨_, rfl, Hrow.out.mono hB1.size⟩, hB1.trans (Hbel.out.mono hB1.size)⟩
  · have hnil : s ≠ [] := by rintro rfl; simp at hls; omega
    obtain ⟨l1, hl1⟩ : ∃ l1, ls = l1 + 1 := ⟨ls - 1, by omega⟩
    obtain ⟨b0, off, rfl, hcl⟩ : ∃ b off, a0 = some ⟨b, off, none⟩ ∧ w.cell? ⟨b, off + l1, none⟩ = some (.int .i64 m) := by
      obtain ⟨b, off, e, h⟩ := h0 l1 (by omega)
      refine ⟨b, off, e, h.trans ?_⟩
      have : s[l1]'(by omega) = lastOf s := by
        unfold lastOf
        rw [List.getLast?_eq_getElem?, show s.length - 1 = l1 by omega, List.getElem?_eq_getElem (by omega)]
        rfl
      rw [this, hlast]
    have hb0 := World.block_lt_of_cell? w _ hcl
    have Hcl := Lib.hid hcl; clear hcl h0 h1 hnil hlast hls hld
    have hgt : decide ((0 : Int) < (ls : Int)) = true := by simp; omega
    have ew : IntKind.i64.wrap ((ls : Int) - 1) = (l1 : Int) := by rw [IntWalk.i64_in _ (by omega)]; omega
    have ew2 : wrap64 ((ls : Int) - 1) = (l1 : Int) := by unfold wrap64; omega
    have hi1 : (l1 : Int) < (ls : Int) := by omega
    have hi2 : (0 : Int) ≤ (l1 : Int) := by omega
    have Hl1 := Lib.hid hl1; clear hl1
    have hcl2 := Hcl.out
    go_enter Try.func64, Try.ntmps64
    go_wp2_with (go_at_call 41; refine (Hqr.out _).mono ?_; rintro e w1 ⟨rfl, hb1⟩; obtain ⟨hcc, hff⟩ := bcell hb1; have hz1 : w.heap.size < w1.heap.size := (by have := hb1.size; simp at this; omega); have hcx1 : w1.cell? ⟨b0, off + l1, none⟩ = some (.int .i64 m) := (hb1.cell (p := ⟨b0, off + l1, none⟩) (by simp; omega)).trans (((Hb.out _).cell (p := ⟨b0, off + l1, none⟩) hb0).trans Hcl.out))
    have hB1 : Below w.heap.size w w1 := (Hb.out _).trans (hb1.mono (by simp))
    have hS1 : w1.cell? ⟨w.heap.size, 1, none⟩ = some (.slice a1 ld c1) := by rw [hcc _ _ (by simp)]; simp [go_sem]
    clear hcc hff hb1 hcx1 hcl2
    go_loopw [5, 6] (fun o i wr => ∃ (k j : Nat), j = k * m ∧ i = .int .i64 (j : Int) ∧ RowR w1.heap.size wr o (chunks m d k) ∧ Below w1.heap.size w1 wr ∧ j ≤ ld ∧ (ld = 0 → k = 0)) (fun _ i _ => ld - (intOf i).toNat)
    case atStart => exact ⟨0, 0, by omega, rfl, RowR.nil _ _, Below.refl _ _, Nat.zero_le _, fun _ => rfl⟩
    case round =>
      obtain ⟨k, j, hj, rfl, hrow, hbel, hjl, hk0⟩ := hrel
      have Hk0 := Lib.hid hk0; clear hk0
      have hS : wr.cell? ⟨w.heap.size, 1, none⟩ = some (.slice a1 ld c1) := (hbel.cell (p := ⟨w.heap.size, 1, none⟩) hz1).trans hS1
      by_cases hlt : j < ld
      · have hm1 : 1 ≤ m := Hm1.out (by omega)
        have hkq : k + 1 ≤ q := by
          have hq' := Hq.out
          have : k < q := Nat.lt_of_mul_lt_mul_right (a := m) (by omega)
          exact this
        have hjm : j + m ≤ ld := by
          have h1 : (k + 1) * m ≤ q * m := Nat.mul_le_mul_right m hkq
          rw [Hq.out, Nat.succ_mul] at h1
          omega
        have hkj : k ≤ j := by rw [hj]; exact Nat.le_mul_of_pos_right k hm1
        have hBw : Below w.heap.size w wr := hB1.trans (hbel.mono hB1.size)
        obtain ⟨ys, hys⟩ : ∃ ys, (d.drop j).take m = ys := ⟨_, rfl⟩
        have hyl : ys.length = m := by rw [← hys, List.length_take, List.length_drop, Hld.out]; omega
        have hcut : IntsAt .i64 wr (subA a1 c1 j) ys := by rw [← hys]; exact (H1.out.below hBw (Nat.le_refl _)).cut (m := c1) (by rw [Hld.out]; exact hc1)
        obtain ⟨ad, had, hsrc⟩ := hcut.src (by omega)
        obtain ⟨jm, hjm'⟩ : ∃ jm, j + m = jm := ⟨_, rfl⟩
        obtain ⟨cc, hcc'⟩ : ∃ cc, c1 - j = cc := ⟨_, rfl⟩
        have hsl : ∀ W : World, (Instr.sliceAt 22 (.slice a1 ld c1) (some (.int .i64 (j : Int))) (some (.int .i64 ((j : Int) + (m : Int)))) none).run Try.prog W = .ok (.slice (some ad) m cc) W := fun W => by
          rw [slice_lh W a1 ld c1 .i64 .i64 j ((j : Int) + m) (by omega) (by omega) (by omega), show ((j : Int)).toNat = j by omega, show ((j : Int) + (m : Int)).toNat - j = m by omega, had, hcc']
        have hpush : chunks m d (k + 1) = chunks m d k ++ [ys] := by rw [chunks_succ, ← hj, hys]
        have hklen := chunks_len m d k
        have hk6 : k ≤ 65536 := by omega
        have hb1 : w1.heap.size ≤ wr.heap.size := hbel.size
        have hSa : ∀ o, (wr.alloc o).cell? ⟨w.heap.size, 1, none⟩ = some (.slice a1 ld c1) := fun o => (World.cell?_alloc_lt _ _ _ (by show w.heap.size < _; omega)).trans hS
        have hz2 : w.heap.size < wr.heap.size := by omega
        have hj1 : (0 : Int) ≤ (j : Int) := by omega
        have hj2 : (j : Int) < (ld : Int) := by omega
        have Hjm := Lib.hid hjm'; have Hkj := Lib.hid hkj; have Hk6 := Lib.hid hk6; have Hjm2 := Lib.hid hjm; have Hb1 := Lib.hid hb1
        clear hjm' hcc' hkj hk6 hjm hb1 hBw hB1 hS1
        have Hyl := Lib.hid hyl; have Hsrc := Lib.hid hsrc; have Hpush := Lib.hid hpush; have Hkl := Lib.hid hklen; have Hrow := Lib.hid hrow; have Hbel := Lib.hid hbel; have Hj := Lib.hid hj
        clear hyl hsrc hpush hklen hrow hbel hj hcut had hys hkq
        go_wp2_with (at_builtin; refine wpList_append_own _ rfl _ _ 22 rfl wr.heap.size 2 i0 (.int .i64 0) 1 8 Try.underlying22 Hi.out Hz0.out Hz1.out Hz2.out rfl (by decide) _ 0 [] rfl (World.ownsRow_made wr #[] 0 (Nat.le_refl _) (Nat.zero_le _) rfl) ad m cc (ys.map (Value.int .i64)) rfl (by simp [Hyl.out]) (fun j' v hj' => (World.cell?_alloc_lt _ _ _ (World.block_lt_of_cell? wr _ (Hsrc.out j' v hj'))).trans (Hsrc.out j' v hj')) (oneCell_ints _ _) (by unfold maxLen; omega) (by omega) (by simp) ?_)
        intro u w2 hown hgrow _
        have hB2 : Below wr.heap.size wr w2 := ((Below.refl wr.heap.size wr).alloc (Nat.le_refl _) _).grown hgrow (by simp) (fun k e => by cases e; exact Nat.le_refl _)
        have hu : RowI wr.heap.size w2 u ys := by unfold RowI; rw [Hyl.out]; simpa using hown
        have HU := Lib.hid hu; have HB2 := Lib.hid hB2
        obtain ⟨au, cu, rfl, _, _⟩ := hu.slice
        clear hown hgrow hu hB2
        obtain ⟨vs, hvo, hvi⟩ := Hrow.out
        have hB3 : ∀ o, Below wr.heap.size wr (w2.alloc o) := fun o => HB2.out.alloc HB2.out.size _
        have hvo2 : ∀ o, (w2.alloc o).ownsRow w1.heap.size 22 1 u5 k vs := fun o => by
          have := World.ownsRow.kept hvo (grownBy_of_below (hB3 o)) (by cases u5.ownBlock <;> simp)
          rwa [Hkl.out] at this
        have HVO := Lib.hid hvo2; have HVI := Lib.hid hvi; have HV0 := Lib.hid hvo; have HB3 := Lib.hid hB3; clear hvo2 hvi hvo hB3
        have HK6 := Hk6.out
        have hbw2 : w1.heap.size ≤ w2.heap.size := Nat.le_trans Hb1.out HB2.out.size
        go_wp2_with (at_builtin; refine wpList_append_own _ rfl _ _ 52 rfl w1.heap.size 22 ir (.slice none 0 0) 1 24 Try.underlying52 Hir.out Hr0.out Hr1.out Hr2.out rfl (by decide) _ k vs rfl (HVO.out _) ⟨w2.heap.size, 0, none⟩ 1 1 [.slice au ys.length cu] rfl rfl (fun j v hj => lit_cell w2 _ _ j v hj) (by simp [Value.oneCell']) (by unfold maxLen; omega) (by omega) (by simp; omega) ?_)
        intro v' w4 hown hgrow _
        have hro : RowR w1.heap.size w4 v' (chunks m d (k + 1)) := by
          rw [Hpush.out]
          have hvk : ∀ o : Obj, (w2.alloc o).ownsRow w1.heap.size 22 1 u5 (chunks m d k).length vs := fun o => by rw [Hkl.out]; exact HVO.out o
          refine RowR.push (hvk _) (fun i hi => ?_) ((HU.out.mono Hb1.out).below ((Below.refl _ _).alloc (Nat.le_refl _) _)) (fun i x hx => ?_) (by rw [Hkl.out]; exact hown) hgrow
          · obtain ⟨x, e1, e2, e3⟩ := HVI.out i hi
            exact ⟨x, e1, e2.below (HB3.out _), e3⟩
          · have hi : i < (chunks m d k).length := by
              have hl := HV0.out.1
              by_cases h : i < vs.length
              · omega
              · rw [List.getElem?_eq_none (by omega)] at hx; cases hx
            obtain ⟨x', e1, e2, _⟩ := HVI.out i hi
            rw [hx] at e1
            cases e1
            exact Apart.of_rows e2 HU.out
        have hbo : Below w1.heap.size w1 w4 := (Hbel.out.trans ((HB3.out _).mono Hb1.out)).grown hgrow (by simp; omega) (fun k' e => by
          obtain ⟨_, ⟨e', _⟩ | ⟨g, cap, cur, e', hg, _⟩⟩ := HV0.out
          · rw [e'] at e; cases e
          · rw [e'] at e; cases e; exact hg)
        have Hro := Lib.hid hro; have Hbo := Lib.hid hbo; clear hro hbo hown hgrow
        go_wp2_with fail
        go_roundw
        case rel => exact ⟨k + 1, jm, by rw [Nat.succ_mul, ← Hj.out]; exact Hjm.out.symm, by have := Hjm.out; simp; omega, Hro.out, Hbo.out, by have := Hjm.out; have := Hjm2.out; omega, fun h => by omega⟩
        case measure => simp [intOf]; omega
      · have hk : k * m = ld := by omega
        have hch := Hfin.out k hk Hk0.out
        rw [hch] at hrow
        have Hrow := Lib.hid hrow; have Hbel := Lib.hid hbel; clear hrow hbel hj hk hch
        go_wp2_with fail
        refine bodyPost_ret (v := .tuple #[u5, .int .i64 0]) (by simp [results, Try.results64, go_sem]) rfl ⟨⟨_, rfl, Hrow.out.mono hB1.size⟩, hB1.trans (Hbel.out.mono hB1.size)⟩

theorem rlanes_any (w : World) (a0 a1 : Option Addr) (c0 c1 : Nat) (s d : List Int) (hs : s.length ≤ maxLen) (hc1 : d.length ≤ c1) (h0 : IntsAt .i64 w a0 s) (h1 : IntsAt .i64 w a1 d) :
    Calls Try.prog 64 #[.agg #[.slice a0 s.length c0, .slice a1 d.length c1]] w fun e w' => RetRows w.heap.size (lanes s d) e w' ∧ Below w.heap.size w w' := by
  cases hr : right s d with
  | false => exact rlanes_bad w a0 a1 c0 c1 s d hs h0 hr
  | true =>
    obtain ⟨_, g⟩ := right_good hr
    have hl4 := g.len
    have hd := g.le
    by_cases hd0 : d.length = 0
    · have hl0 : 0 ≤ lastOf s ∧ lastOf s ≤ 65536 := by
        by_cases hs0 : s = []
        · subst hs0; exact ⟨by decide, by decide⟩
        · exact g.side _ (by unfold lastOf; rw [List.getLast?_eq_some_getLast hs0]; exact List.getLast_mem hs0)
      obtain ⟨m, hm⟩ := Int.eq_ofNat_of_zero_le hl0.1
      have hl : lanes s d = (chunks m d 0, 0) := by
        unfold lanes
        rw [if_pos hr, hm, hd0]
        simp
      rw [hl]
      exact rlanes_good w a0 a1 c0 c1 s d m 0 hl4 (by omega) hc1 h0 h1 hr hm (.inl ⟨hd0, rfl⟩) (by omega) (by omega)
    · obtain ⟨m, q, e1, e2, e3, e4⟩ := lanes_facts hr (by omega)
      have hl : lanes s d = (chunks m d q, 0) := by
        unfold lanes
        rw [if_pos hr, e1, ← e4]
        simp only [Int.toNat_natCast]
        rw [Nat.mul_div_cancel _ (by omega)]
      rw [hl]
      exact rlanes_good w a0 a1 c0 c1 s d m q hl4 (by omega) hc1 h0 h1 hr e1 (.inr e2) e3 e4
end Go.Proofs.Ytmjkncmpanhgjaa

-- DROPS
namespace Go.Proofs.Ytmjkncmpanhgjaa
set_option linter.unusedVariables false
set_option linter.unusedSimpArgs false
set_option maxRecDepth 100000
open Go.RowKit

/-- what stands from a on, P numbers at most, of the first i numbers -/
def part (d : List Int) (a P i : Nat) : List Int := ((d.take i).drop a).take P
theorem part_in {d : List Int} {a P i : Nat} (hi : i < d.length) (h1 : a ≤ i) (h2 : i < a + P) : part d a P (i + 1) = part d a P i ++ [d[i]] := by
  unfold part
  have h3 : (d.take i).length = i := by rw [List.length_take]; omega
  rw [List.take_succ_eq_append_getElem hi, List.drop_append_of_le_length (by omega), List.take_of_length_le (l := List.drop a (d.take i) ++ [d[i]]) (by simp only [List.length_append, List.length_drop, h3, List.length_singleton]; omega), List.take_of_length_le (l := List.drop a (d.take i)) (by rw [List.length_drop, h3]; omega)]
theorem part_out {d : List Int} {a P i : Nat} (hi : i < d.length) (h : ¬ (a ≤ i ∧ i < a + P)) : part d a P (i + 1) = part d a P i := by
  unfold part
  by_cases h1 : a ≤ i
  · rw [List.take_succ_eq_append_getElem hi, List.drop_append_of_le_length (by simp; omega), List.take_append_of_le_length (by simp; omega)]
  · rw [List.drop_of_length_le (by simp; omega), List.drop_of_length_le (by simp; omega)]
theorem part_all (d : List Int) (a P : Nat) : part d a P d.length = (d.drop a).take P := by unfold part; rw [List.take_length]
/-- the first index of place i -/
theorem first_idx {P x k i : Nat} (hP : 0 < P) (hi : i < x * P) : (((i : Int) / (P : Int)) % (x : Int) = (k : Int)) ↔ (k * P ≤ i ∧ i < k * P + P) := by
  have h1 : i / P < x := Nat.div_lt_of_lt_mul (by rw [Nat.mul_comm]; exact hi)
  have h2 : ((i : Int) / (P : Int)) % (x : Int) = ((i / P : Nat) : Int) := by
    rw [← Int.natCast_ediv, Int.emod_eq_of_lt (Int.natCast_nonneg _) (by exact_mod_cast h1)]
  rw [h2]
  have h3 := Nat.div_add_mod i P
  have h4 := Nat.mod_lt i hP
  constructor
  · intro h
    have : i / P = k := by exact_mod_cast h
    rw [this, Nat.mul_comm] at h3
    omega
  · intro ⟨ha, hb⟩
    have e : i / P = k := by
      refine Nat.div_eq_of_lt_le ha ?_
      rw [Nat.succ_mul]; exact hb
    rw [e]

theorem IntsAt.srcS {k : IntKind} {w : World} {ad : Addr} {xs : List Int} (h : IntsAt k w (some ad) xs) : ∀ j v, (xs.map (Value.int k))[j]? = some v → w.cell? (ad.add j) = some v := by
  by_cases h0 : 0 < xs.length
  · obtain ⟨ad', e, hs⟩ := h.src h0; cases e; exact hs
  · have : xs = [] := by cases xs <;> simp_all
    subst this; simp

theorem heap_setCell_two {W : World} {g : Nat} {x y : Value} {t : TypeId} {fr : Nat × Nat} (h : W.heap[g]? = some (.cells #[x, y] t fr)) (v : Value) :
    (W.setCell ⟨g, 1, none⟩ v).heap[g]? = some (.cells #[x, v] t fr) := by
  obtain ⟨hlt, hg⟩ := Array.getElem?_eq_some_iff.1 h
  show (W.heap.modify g _)[g]? = _
  rw [Array.getElem?_eq_getElem (by simpa using hlt), Array.getElem_modify_self, hg]
  simp

/-- Between two rounds of ref.Cell's loop. -/
def CellInv (O : Nat) (w2 : World) (p1 : Value) (xs : List Int) (wr : World) : Prop :=
  ∃ v, wr.heap[O]? = some (.cells #[p1, v] 24 (0, 0)) ∧ RowI (O + 1) wr v xs ∧ Below O w2 wr

end Go.Proofs.Ytmjkncmpanhgjaa

-- DROPS
namespace Go.Proofs.Ytmjkncmpanhgjaa
set_option linter.unusedVariables false
set_option linter.unusedSimpArgs false
set_option maxRecDepth 100000
open Go.RowKit
attribute [local go_sem] Oper.semAt_some

/-- what slices.Chunk hands to yield: the i-th part of m numbers -/
def chunkEnc (b off m q : Nat) (i : Fin q) : Array Value := #[.slice (some ⟨b, off + i.1 * m, none⟩) m m]

/-- Below block n₀, and at the blocks Bs, Bn, the world is as it was. -/
def Keep2 (n₀ Bs Bn : Nat) (W W' : World) : Prop := Below n₀ W W' ∧ W'.heap[Bs]? = W.heap[Bs]? ∧ W'.heap[Bn]? = W.heap[Bn]?
theorem keep2_t {n₀ Bs Bn : Nat} {A B C : World} (h : Keep2 n₀ Bs Bn A B) (k : Keep2 n₀ Bs Bn B C) : Keep2 n₀ Bs Bn A C := ⟨h.1.trans k.1, k.2.1.trans h.2.1, k.2.2.trans h.2.2⟩
theorem keep2_b {n₀ Bs Bn : Nat} {w : World} (hn : n₀ ≤ w.heap.size) (hb : Bs < w.heap.size) (hb' : Bn < w.heap.size) (W : World) (l : Nat) (o o' : Obj) (hl : w.heap.size ≤ l) (h : W.heap[l]? = some o) (hc : o.isCells = false) (hw : o.isWalk = false) : Keep2 n₀ Bs Bn W (W.putObj l o') :=
  ⟨belowK_b hn W l o o' hl h hc hw, (grownBy_putObj' W l o').block Bs (Nat.lt_of_lt_of_le hb (Nat.le_of_lt (Nat.lt_of_le_of_lt hl (Array.getElem?_eq_some_iff.1 h).1))) (fun e => by cases e; omega),
    (grownBy_putObj' W l o').block Bn (Nat.lt_of_lt_of_le hb' (Nat.le_of_lt (Nat.lt_of_le_of_lt hl (Array.getElem?_eq_some_iff.1 h).1))) (fun e => by cases e; omega)⟩

theorem slice_lhm (w : World) (b off len cap l m : Nat) (hl : l + m ≤ cap) (hm : 0 < m) :
    (Instr.sliceAt 22 (.slice (some ⟨b, off, none⟩) len cap) (some (.int .i64 (l : Int))) (some (.int .i64 ((l : Int) + (m : Int)))) (some (.int .i64 ((l : Int) + (m : Int))))).run Try.prog w = .ok (.slice (some ⟨b, off + l, none⟩) m m) w := by
  rw [run_sliceAt_slice w 22 _ _ _ _ Try.underlying22, run_slice_lhm w 22 (some ⟨b, off, none⟩) len cap Try.underlying22 .i64 .i64 .i64 (l : Int) ((l : Int) + (m : Int)) ((l : Int) + (m : Int)) (by omega) (by omega) (by omega) (by omega), sized2]
  simp only [Result.andThen, sliced_subA]
  have e1 : ((l : Int)).toNat = l := rfl
  have e2 : ((l : Int) + (m : Int)).toNat = l + m := by omega
  rw [e1, e2]
  have e3 : subA (some ⟨b, off, none⟩) (l + m) l = some ⟨b, off + l, none⟩ := by
    unfold subA
    rw [if_neg (by omega)]
    simp only [Option.map_some, Addr.add]
    split <;> simp_all
  rw [e3]
  simp

set_option maxRecDepth 100000 in
set_option maxHeartbeats 2000000 in
theorem chunk1_in (l Bs Bn n₀ b off len cap m q : Nat) (hq : q * m = len) (hcap : len ≤ cap) (hm : 1 ≤ m) (hm2 : len ≤ 65536) (hm3 : m ≤ 65536) (J Jx : List (Fin q) → World → Prop) (hJd : ∀ pre W, J pre W → J pre W.drew)
    (hY : ∀ pre x W, J pre W → pre.length < q → YieldAt Fence.wide 7 Try.prog l (chunkEnc b off m q x) W fun e W' =>
      (e = .returned (.bool true) ∧ J (pre ++ [x]) W' ∧ Keep2 n₀ Bs Bn W W') ∨ (e = .returned (.bool false) ∧ Jx (pre ++ [x]) W'))
    (W : World) (hBs : Boxed W Bs 22 (.slice (some ⟨b, off, none⟩) len cap)) (hBn : Boxed W Bn 3 (.int .i64 (m : Int))) (h0 : J [] W) :
    CallsIn Fence.wide 8 Try.prog 88 #[.func (.yield l) #[] #[], .pointer (some ⟨Bs, 0, none⟩), .pointer (some ⟨Bn, 0, none⟩)] W fun e W' => (∃ v, e = .returned v) ∧
      ((∃ ys, ys = List.finRange q ∧ J ys W') ∨ (∃ pre, pre <+: List.finRange q ∧ Jx pre W')) := by
  refine callsIn_of_wp Try.func88 rfl trivial ?_ rfl
  simp only [Try.ntmps88, List.size_toArray, List.length_cons, List.length_nil, Nat.reduceAdd, Nat.reduceSub, Array.replicate_succ, Array.replicate_zero, List.push_toArray, List.append_toArray, List.nil_append, List.cons_append]
  have Hq := Lib.hid hq; clear hq
  gi_wp2
  gi_loopw [4] (fun i wr => ∃ (k j : Nat), k ≤ q ∧ j = k * m ∧ i = .int .i64 (j : Int) ∧ J ((List.finRange q).take k) wr ∧ Keep2 n₀ Bs Bn W wr)
    (fun i _ => len - (intOf i).toNat)
  case atStart => exact ⟨0, 0, Nat.zero_le _, by omega, rfl, by simpa using h0, Below.refl _ _, rfl, rfl⟩
  case round =>
    obtain ⟨k, j, hk, hj, rfl, hJs, hnx⟩ := hrel
    have hbs : wr.cell? ⟨Bs, 0, none⟩ = some (.slice (some ⟨b, off, none⟩) len cap) := Boxed.cell (hnx.2.1.trans hBs)
    have hbn : wr.cell? ⟨Bn, 0, none⟩ = some (.int .i64 (m : Int)) := Boxed.cell (hnx.2.2.trans hBn)
    have Hj := Lib.hid hj; clear hj
    by_cases hlt : k < q
    · have hjm : j + m ≤ len := by
        have h1 : (k + 1) * m ≤ q * m := Nat.mul_le_mul_right m hlt
        rw [Hq.out, Nat.succ_mul, ← Hj.out] at h1
        exact h1
      have htk : (List.finRange q).take k ++ [⟨k, hlt⟩] = (List.finRange q).take (k + 1) := by
        rw [List.take_succ_eq_append_getElem (by simp; omega)]
        congr 2
        apply Fin.ext
        simp
      obtain ⟨fn, tmps, assign, body, hy, hR⟩ := hY _ ⟨k, hlt⟩ wr.drew (hJd _ _ hJs) (by simp; omega)
      rw [htk] at hR
      have HR := Lib.hid hR; clear hR hJs htk
      simp only [chunkEnc] at hy
      rw [← Hj.out] at hy
      obtain ⟨lx, hlx⟩ : ∃ lx, len - j = lx := ⟨_, rfl⟩
      have hmlx : m ≤ lx := by omega
      obtain ⟨cx, hcx⟩ : ∃ cx, cap - j = cx := ⟨_, rfl⟩
      obtain ⟨ax, hax⟩ : ∃ ax, subA (some ⟨b, off, none⟩) cap j = ax := ⟨_, rfl⟩
      have hsl : ∀ W : World, (Instr.sliceAt 22 (.slice (some ⟨b, off, none⟩) len cap) (some (.int .i64 (j : Int))) none none).run Try.prog W = .ok (.slice ax lx cx) W := fun W => by
        rw [slice_lo W _ len cap .i64 j (by omega) (by omega), show ((j : Int)).toNat = j from rfl, hlx, hcx, hax]
      have hsl2 := fun W => slice_lhm W b off len cap j m (by omega) (by omega)
      have hjl : (j : Int) < (len : Int) := by
        have : j < len := by omega
        omega
      have hnlt : ¬ (lx : Int) < (m : Int) := by omega
      have e1 : IntKind.i64.wrap ((j : Int) + (m : Int)) = (j : Int) + (m : Int) := IntWalk.i64_in _ (by omega)
      have Hlx := Lib.hid hlx; clear hlx hcx hax
      have Hjm := Lib.hid hjm; clear hjm
      gi_wp2
      gi_region
      clear hsl hnlt
      gi_wp2
      refine HR.out.mono ?_
      rintro e W3 (⟨rfl, hJ3, hk3⟩ | ⟨rfl, hJx3⟩)
      · have hbn3 : W3.cell? ⟨Bn, 0, none⟩ = some (.int .i64 (m : Int)) := Boxed.cell (hk3.2.2.trans (hnx.2.2.trans hBn))
        have HJ3 := Lib.hid hJ3; clear hJ3 hsl2 hy hbs hbn hjl
        gi_wp2
        go_roundw
        case rel => exact ⟨k + 1, j + m, by omega, by rw [Nat.succ_mul, ← Hj.out], by go_num, HJ3.out, keep2_t hnx ⟨(Below.refl _ _).drew.trans hk3.1, hk3.2.1, hk3.2.2⟩⟩
        case measure => simp [intOf]; have := Hjm.out; omega
      · gi_wp2
        refine bodyPost_ret (results_none rfl _ _ _) rfl ?_
        exact ⟨⟨_, rfl⟩, .inr ⟨_, List.take_prefix _ _, hJx3⟩⟩
    · have hkq : k = q := by omega
      have hjl : ¬ ((j : Int) < (len : Int)) := by
        have := Hj.out; rw [hkq, Hq.out] at this; omega
      have hJ2 : J (List.finRange q) wr := by rw [hkq, List.take_of_length_le (by simp)] at hJs; exact hJs
      have HJ := Lib.hid hJ2; clear hJ2 hJs hkq
      gi_wp2
      go_end0
      exact ⟨⟨_, rfl⟩, .inl HJ.out⟩

set_option maxHeartbeats 1000000 in
theorem chunk_any (a : Option Addr) (len cap : Nat) (m : Int) (w : World) (hm : 1 ≤ m) :
    Calls Try.prog 67 #[.slice a len cap, .int .i64 m] w fun e w' => e = .returned (.func (.func 88) #[] #[.pointer (some ⟨w.heap.size, 0, none⟩), .pointer (some ⟨w.heap.size + 1, 0, none⟩)]) ∧
      w' = (w.alloc (.cells #[.slice a len cap] 22)).alloc (.cells #[.int .i64 m] 3) := by
  have h1 : ¬ (m < 1) := by omega
  go_enter Try.func67, Try.ntmps67
  go_wp2
  go_ret
  exact ⟨rfl, rfl⟩

theorem chunk_stops (Bs Bn n₀ b off len cap m q : Nat) (hq : q * m = len) (hcap : len ≤ cap) (hm : 1 ≤ m) (hm2 : len ≤ 65536) (hm3 : m ≤ 65536) (w : World) (mv : Int) (hmv : mv = (m : Int))
    (hc : Boxed w Bs 22 (.slice (some ⟨b, off, none⟩) len cap)) (hn : Boxed w Bn 3 (.int .i64 mv)) :
    SeqStopsK Fence.wide 8 Try.prog 88 #[.pointer (some ⟨Bs, 0, none⟩), .pointer (some ⟨Bn, 0, none⟩)] (chunkEnc b off m q) (Keep2 n₀ Bs Bn) (fun ys => ys = List.finRange q)
      (fun pre => pre <+: List.finRange q) q w := fun l J Jx W hW hJ _ hY h0 => by
  subst hmv
  exact chunk1_in l Bs Bn n₀ b off len cap m q hq hcap hm hm2 hm3 J Jx (fun pre W h => hJ pre W W.drew none h ⟨rfl, rfl, rfl, Nat.le_refl _, fun _ _ _ => rfl⟩ (fun r e => by cases e)) hY W ((hW.block Bs hc.lt).trans hc) ((hW.block Bn hn.lt).trans hn) h0
end Go.Proofs.Ytmjkncmpanhgjaa
