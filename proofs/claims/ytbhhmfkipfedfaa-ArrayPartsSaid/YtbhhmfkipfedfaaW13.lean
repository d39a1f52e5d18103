import Derived.Test.YtbhhmfkipfedfaaW12
namespace Go.Proofs.Ytbhhmfkipfedfaa
open Go.RowKit

set_option maxRecDepth 100000 in
set_option maxHeartbeats 4000000 in
theorem rlanes_bad (w : World) (a0 a1 : Option Addr) (c0 c1 : Nat) (s d : List Int) (hs : s.length ≤ maxLen) (h0 : IntsAt .i64 w a0 s) (hr : right s d = false) :
    Calls Try.prog 22 #[.agg #[.slice a0 s.length c0, .slice a1 d.length c1]] w fun e w' => RetRows w.heap.size (lanes s d) e w' ∧ Below w.heap.size w w' := by
  have hq := fun o => rright_any (w.alloc o) a0 a1 c0 c1 s d hs (h0.below ((Below.refl _ _).alloc (Nat.le_refl _) _) (Nat.le_refl _))
  rw [hr] at hq
  have hl : lanes s d = ([], 60) := by unfold lanes; rw [if_neg (by rw [hr]; simp)]
  have Hq := Lib.hid hq; have Hl := Lib.hid hl; clear hq hl hr h0 hs
  go_enter Try.func22, Try.ntmps22
  go_wp2_with (go_at_call 13; refine (Hq.out _).mono ?_; rintro e w1 ⟨rfl, hb1⟩)
  refine bodyPost_ret (v := .tuple #[.slice none 0 0, .int .i64 60]) (by simp [results, Try.results22, go_sem]) rfl ⟨?_, ?_⟩
  · rw [Hl.out]; exact ⟨_, rfl, RowR.nil _ _⟩
  · exact bAfter ((Below.refl _ _).alloc (Nat.le_refl _) _) (by simp) hb1

theorem lit_cell (W : World) (t : TypeId) (x : Value) (j : Nat) (v : Value) (h : [x][j]? = some v) : (W.alloc (.cells #[x] t)).cell? ((⟨W.heap.size, 0, none⟩ : Addr).add j) = some v := by
  cases j with
  | zero =>
    cases h
    have e : (⟨W.heap.size, 0, none⟩ : Addr).add 0 = ⟨W.heap.size, 0, none⟩ := by simp [Addr.add]
    rw [e, cell_of_row _ W.heap.size 0 _ t (0, 0) (World.alloc_heap_new W _)]
    rfl
  | succ j => simp at h

set_option maxRecDepth 100000 in
set_option maxHeartbeats 4000000 in
theorem rlanes_good (w : World) (a0 a1 : Option Addr) (c0 c1 : Nat) (s d : List Int) (m q : Nat) (hs : s.length ≤ 4) (hd : d.length ≤ 65536) (hc1 : d.length ≤ c1) (h0 : IntsAt .i64 w a0 s) (h1 : IntsAt .i64 w a1 d) (hr : right s d = true)
    (hlast : lastOf s = m) (hm1 : (d.length = 0 ∧ q = 0) ∨ 1 ≤ m) (hm2 : m ≤ 65536) (hq : q * m = d.length) :
    Calls Try.prog 22 #[.agg #[.slice a0 s.length c0, .slice a1 d.length c1]] w fun e w' => RetRows w.heap.size (chunks m d q, 0) e w' ∧ Below w.heap.size w w' := by
  have hbb : ∀ o, Below w.heap.size w (w.alloc o) := fun o => (Below.refl _ _).alloc (Nat.le_refl _) _
  have hqr := fun o => rright_any (w.alloc o) a0 a1 c0 c1 s d (by unfold maxLen; omega) (h0.below (hbb o) (Nat.le_refl _))
  rw [hr] at hqr
  obtain ⟨ls, hls⟩ : ∃ ls, s.length = ls := ⟨_, rfl⟩
  obtain ⟨ld, hld⟩ : ∃ ld, d.length = ld := ⟨_, rfl⟩
  rw [hls] at hqr hs ⊢
  rw [hld] at hqr hd hc1 hq hm1 ⊢
  have Hqr := Lib.hid hqr; have H0 := Lib.hid h0; have H1 := Lib.hid h1; have Hq := Lib.hid hq; have Hld := Lib.hid hld; have Hb := Lib.hid hbb
  have Hfin : Hid (∀ k, k * m = ld → (ld = 0 → k = 0) → chunks m d k = chunks m d q) := fun k hk hk0 => by
    rcases hm1 with h | h
    · rw [hk0 h.1, h.2]
    · have : k = q := Nat.eq_of_mul_eq_mul_right (by omega) (hk.trans hq.symm)
      rw [this]
  have Hm1 : Hid (0 < ld → 1 ≤ m) := fun h => by omega
  clear hm1
  clear hqr hr hq hbb
  obtain ⟨ir, hir, hr0, hr1, hr2⟩ := info_parts Try.infoR
  obtain ⟨i0, hi, hz0, hz1, hz2⟩ := info_parts Try.info2
  have Hir := Lib.hid hir; have Hr0 := Lib.hid hr0; have Hr1 := Lib.hid hr1; have Hr2 := Lib.hid hr2; clear hir hr0 hr1 hr2
  have Hi := Lib.hid hi; have Hz0 := Lib.hid hz0; have Hz1 := Lib.hid hz1; have Hz2 := Lib.hid hz2; clear hi hz0 hz1 hz2
  rcases Nat.eq_zero_or_pos ls with hz | hz
  · have hsn : s = [] := List.eq_nil_of_length_eq_zero (by omega)
    have hm : m = 1 := by
      have h : lastOf [] = 1 := rfl
      rw [hsn, h] at hlast
      omega
    have h1m : Value.int .i64 1 = Value.int .i64 (m : Int) := by rw [hm]; rfl
    subst hz
    clear h0 h1 hlast hls hld hm hsn
    have h1m' := Lib.hid h1m; clear h1m
    go_enter Try.func22, Try.ntmps22
    go_wp2_with (go_at_call 13; refine (Hqr.out _).mono ?_; rintro e w1 ⟨rfl, hb1⟩; obtain ⟨hcc, hff⟩ := bcell hb1; have hz1 : w.heap.size < w1.heap.size := (by have := hb1.size; simp at this; omega))
    have h1m := h1m'.out
    have hB1 : Below w.heap.size w w1 := (Hb.out _).trans (hb1.mono (by simp))
    have hS1 : w1.cell? ⟨w.heap.size, 1, none⟩ = some (.slice a1 ld c1) := by rw [hcc _ _ (by simp)]; simp [go_sem]
    clear hcc hff hb1
    rw [h1m]
    have H1m := Lib.hid h1m; clear h1m
    go_loopw [5, 6] (fun o i wr => ∃ (k j : Nat), j = k * m ∧ i = .int .i64 (j : Int) ∧ RowR w1.heap.size wr o (chunks m d k) ∧ Below w1.heap.size w1 wr ∧ j ≤ ld ∧ (ld = 0 → k = 0)) (fun _ i _ => ld - (intOf i).toNat)
    case atStart => exact ⟨0, 0, by omega, rfl, RowR.nil _ _, Below.refl _ _, Nat.zero_le _, fun _ => rfl⟩
    case round =>
      obtain ⟨k, j, hj, rfl, hrow, hbel, hjl, hk0⟩ := hrel
      have Hk0 := Lib.hid hk0; clear hk0
      have hS : wr.cell? ⟨w.heap.size, 1, none⟩ = some (.slice a1 ld c1) := (hbel.cell (p := ⟨w.heap.size, 1, none⟩) hz1).trans hS1
      by_cases hlt : j < ld
      · have hm1 : 1 ≤ m := Hm1.out (by omega)
        have hkq : k + 1 ≤ q := by
          have hq' := Hq.out
          have : k < q := Nat.lt_of_mul_lt_mul_right (a := m) (by omega)
          exact this
        have hjm : j + m ≤ ld := by
          have h1 : (k + 1) * m ≤ q * m := Nat.mul_le_mul_right m hkq
          rw [Hq.out, Nat.succ_mul] at h1
          omega
        have hkj : k ≤ j := by rw [hj]; exact Nat.le_mul_of_pos_right k hm1
        have hBw : Below w.heap.size w wr := hB1.trans (hbel.mono hB1.size)
        obtain ⟨ys, hys⟩ : ∃ ys, (d.drop j).take m = ys := ⟨_, rfl⟩
        have hyl : ys.length = m := by rw [← hys, List.length_take, List.length_drop, Hld.out]; omega
        have hcut : IntsAt .i64 wr (subA a1 c1 j) ys := by rw [← hys]; exact (H1.out.below hBw (Nat.le_refl _)).cut (m := c1) (by rw [Hld.out]; exact hc1)
        obtain ⟨ad, had, hsrc⟩ := hcut.src (by omega)
        obtain ⟨jm, hjm'⟩ : ∃ jm, j + m = jm := ⟨_, rfl⟩
        obtain ⟨cc, hcc'⟩ : ∃ cc, c1 - j = cc := ⟨_, rfl⟩
        have hsl : ∀ W : World, (Instr.sliceAt 22 (.slice a1 ld c1) (some (.int .i64 (j : Int))) (some (.int .i64 ((j : Int) + (m : Int)))) none).run Try.prog W = .ok (.slice (some ad) m cc) W := fun W => by
          rw [slice_lh W a1 ld c1 .i64 .i64 j ((j : Int) + m) (by omega) (by omega) (by omega), show ((j : Int)).toNat = j by omega, show ((j : Int) + (m : Int)).toNat - j = m by omega, had, hcc']
        have hpush : chunks m d (k + 1) = chunks m d k ++ [ys] := by rw [chunks_succ, ← hj, hys]
        have hklen := chunks_len m d k
        have hk6 : k ≤ 65536 := by omega
        have hb1 : w1.heap.size ≤ wr.heap.size := hbel.size
        have hSa : ∀ o, (wr.alloc o).cell? ⟨w.heap.size, 1, none⟩ = some (.slice a1 ld c1) := fun o => (World.cell?_alloc_lt _ _ _ (by show w.heap.size < _; omega)).trans hS
        have hz2 : w.heap.size < wr.heap.size := by omega
        have hj1 : (0 : Int) ≤ (j : Int) := by omega
        have hj2 : (j : Int) < (ld : Int) := by omega
        have Hjm := Lib.hid hjm'; have Hkj := Lib.hid hkj; have Hk6 := Lib.hid hk6; have Hjm2 := Lib.hid hjm; have Hb1 := Lib.hid hb1
        clear hjm' hcc' hkj hk6 hjm hb1 hBw hB1 hS1
        have Hyl := Lib.hid hyl; have Hsrc := Lib.hid hsrc; have Hpush := Lib.hid hpush; have Hkl := Lib.hid hklen; have Hrow := Lib.hid hrow; have Hbel := Lib.hid hbel; have Hj := Lib.hid hj
        clear hyl hsrc hpush hklen hrow hbel hj hcut had hys hkq
        go_wp2_with (at_builtin; refine wpList_append_own _ rfl _ _ 22 rfl wr.heap.size 2 i0 (.int .i64 0) 1 8 Try.underlying22 Hi.out Hz0.out Hz1.out Hz2.out rfl (by decide) _ 0 [] rfl (World.ownsRow_made wr #[] 0 (Nat.le_refl _) (Nat.zero_le _) rfl) ad m cc (ys.map (Value.int .i64)) rfl (by simp [Hyl.out]) (fun j' v hj' => (World.cell?_alloc_lt _ _ _ (World.block_lt_of_cell? wr _ (Hsrc.out j' v hj'))).trans (Hsrc.out j' v hj')) (oneCell_ints _ _) (by unfold maxLen; omega) (by omega) (by simp) ?_)
        intro u w2 hown hgrow _
        have hB2 : Below wr.heap.size wr w2 := ((Below.refl wr.heap.size wr).alloc (Nat.le_refl _) _).grown hgrow (by simp) (fun k e => by cases e; exact Nat.le_refl _)
        have hu : RowI wr.heap.size w2 u ys := by unfold RowI; rw [Hyl.out]; simpa using hown
        have HU := Lib.hid hu; have HB2 := Lib.hid hB2
        obtain ⟨au, cu, rfl, _, _⟩ := hu.slice
        clear hown hgrow hu hB2
        obtain ⟨vs, hvo, hvi⟩ := Hrow.out
        have hB3 : ∀ o, Below wr.heap.size wr (w2.alloc o) := fun o => HB2.out.alloc HB2.out.size _
        have hvo2 : ∀ o, (w2.alloc o).ownsRow w1.heap.size 22 1 u5 k vs := fun o => by
          have := World.ownsRow.kept hvo (grownBy_of_below (hB3 o)) (by cases u5.ownBlock <;> simp)
          rwa [Hkl.out] at this
        have HVO := Lib.hid hvo2; have HVI := Lib.hid hvi; have HV0 := Lib.hid hvo; have HB3 := Lib.hid hB3; clear hvo2 hvi hvo hB3
        have HK6 := Hk6.out
        have hbw2 : w1.heap.size ≤ w2.heap.size := Nat.le_trans Hb1.out HB2.out.size
        go_wp2_with (at_builtin; refine wpList_append_own _ rfl _ _ 39 rfl w1.heap.size 22 ir (.slice none 0 0) 1 24 Try.underlying39 Hir.out Hr0.out Hr1.out Hr2.out rfl (by decide) _ k vs rfl (HVO.out _) ⟨w2.heap.size, 0, none⟩ 1 1 [.slice au ys.length cu] rfl rfl (fun j v hj => lit_cell w2 _ _ j v hj) (by simp [Value.oneCell']) (by unfold maxLen; omega) (by omega) (by simp; omega) ?_)
        intro v' w4 hown hgrow _
        have hro : RowR w1.heap.size w4 v' (chunks m d (k + 1)) := by
          rw [Hpush.out]
          have hvk : ∀ o : Obj, (w2.alloc o).ownsRow w1.heap.size 22 1 u5 (chunks m d k).length vs := fun o => by rw [Hkl.out]; exact HVO.out o
          refine RowR.push (hvk _) (fun i hi => ?_) ((HU.out.mono Hb1.out).below ((Below.refl _ _).alloc (Nat.le_refl _) _)) (fun i x hx => ?_) (by rw [Hkl.out]; exact hown) hgrow
          · obtain ⟨x, e1, e2, e3⟩ := HVI.out i hi
            exact ⟨x, e1, e2.below (HB3.out _), e3⟩
          · have hi : i < (chunks m d k).length := by
              have hl := HV0.out.1
              by_cases h : i < vs.length
              · omega
              · rw [List.getElem?_eq_none (by omega)] at hx; cases hx
            obtain ⟨x', e1, e2, _⟩ := HVI.out i hi
            rw [hx] at e1
            cases e1
            exact Apart.of_rows e2 HU.out
        have hbo : Below w1.heap.size w1 w4 := (Hbel.out.trans ((HB3.out _).mono Hb1.out)).grown hgrow (by simp; omega) (fun k' e => by
          obtain ⟨_, ⟨e', _⟩ | ⟨g, cap, cur, e', hg, _⟩⟩ := HV0.out
          · rw [e'] at e; cases e
          · rw [e'] at e; cases e; exact hg)
        have Hro := Lib.hid hro; have Hbo := Lib.hid hbo; clear hro hbo hown hgrow
        go_wp2_with fail
        go_roundw
        case rel => exact ⟨k + 1, jm, by rw [Nat.succ_mul, ← Hj.out]; exact Hjm.out.symm, by have := Hjm.out; simp; omega, Hro.out, Hbo.out, by have := Hjm.out; have := Hjm2.out; omega, fun h => by omega⟩
        case measure => simp [intOf]; omega
      · have hk : k * m = ld := by omega
        have hch := Hfin.out k hk Hk0.out
        rw [hch] at hrow
        have Hrow := Lib.hid hrow; have Hbel := Lib.hid hbel; clear hrow hbel hj hk hch
        go_wp2_with fail
        refine bodyPost_ret (v := .tuple #[u5, .int .i64 0]) (by simp [results, Try.results22, go_sem]) rfl ⟨⟨_, rfl, Hrow.out.mono hB1.size⟩, hB1.trans (Hbel.out.mono hB1.size)⟩
  · have hnil : s ≠ [] := by rintro rfl; simp at hls; omega
    obtain ⟨l1, hl1⟩ : ∃ l1, ls = l1 + 1 := ⟨ls - 1, by omega⟩
    obtain ⟨b0, off, rfl, hcl⟩ : ∃ b off, a0 = some ⟨b, off, none⟩ ∧ w.cell? ⟨b, off + l1, none⟩ = some (.int .i64 m) := by
      obtain ⟨b, off, e, h⟩ := h0 l1 (by omega)
      refine ⟨b, off, e, h.trans ?_⟩
      have : s[l1]'(by omega) = lastOf s := by
        unfold lastOf
        rw [List.getLast?_eq_getElem?, show s.length - 1 = l1 by omega, List.getElem?_eq_getElem (by omega)]
        rfl
      rw [this, hlast]
    have hb0 := World.block_lt_of_cell? w _ hcl
    have Hcl := Lib.hid hcl; clear hcl h0 h1 hnil hlast hls hld
    have hgt : decide ((0 : Int) < (ls : Int)) = true := by simp; omega
    have ew : IntKind.i64.wrap ((ls : Int) - 1) = (l1 : Int) := by rw [IntWalk.i64_in _ (by omega)]; omega
    have ew2 : wrap64 ((ls : Int) - 1) = (l1 : Int) := by unfold wrap64; omega
    have hi1 : (l1 : Int) < (ls : Int) := by omega
    have hi2 : (0 : Int) ≤ (l1 : Int) := by omega
    have Hl1 := Lib.hid hl1; clear hl1
    have hcl2 := Hcl.out
    go_enter Try.func22, Try.ntmps22
    go_wp2_with (go_at_call 13; refine (Hqr.out _).mono ?_; rintro e w1 ⟨rfl, hb1⟩; obtain ⟨hcc, hff⟩ := bcell hb1; have hz1 : w.heap.size < w1.heap.size := (by have := hb1.size; simp at this; omega); have hcx1 : w1.cell? ⟨b0, off + l1, none⟩ = some (.int .i64 m) := (hb1.cell (p := ⟨b0, off + l1, none⟩) (by simp; omega)).trans (((Hb.out _).cell (p := ⟨b0, off + l1, none⟩) hb0).trans Hcl.out))
    have hB1 : Below w.heap.size w w1 := (Hb.out _).trans (hb1.mono (by simp))
    have hS1 : w1.cell? ⟨w.heap.size, 1, none⟩ = some (.slice a1 ld c1) := by rw [hcc _ _ (by simp)]; simp [go_sem]
    clear hcc hff hb1 hcx1 hcl2
    go_loopw [5, 6] (fun o i wr => ∃ (k j : Nat), j = k * m ∧ i = .int .i64 (j : Int) ∧ RowR w1.heap.size wr o (chunks m d k) ∧ Below w1.heap.size w1 wr ∧ j ≤ ld ∧ (ld = 0 → k = 0)) (fun _ i _ => ld - (intOf i).toNat)
    case atStart => exact ⟨0, 0, by omega, rfl, RowR.nil _ _, Below.refl _ _, Nat.zero_le _, fun _ => rfl⟩
    case round =>
      obtain ⟨k, j, hj, rfl, hrow, hbel, hjl, hk0⟩ := hrel
      have Hk0 := Lib.hid hk0; clear hk0
      have hS : wr.cell? ⟨w.heap.size, 1, none⟩ = some (.slice a1 ld c1) := (hbel.cell (p := ⟨w.heap.size, 1, none⟩) hz1).trans hS1
      by_cases hlt : j < ld
      · have hm1 : 1 ≤ m := Hm1.out (by omega)
        have hkq : k + 1 ≤ q := by
          have hq' := Hq.out
          have : k < q := Nat.lt_of_mul_lt_mul_right (a := m) (by omega)
          exact this
        have hjm : j + m ≤ ld := by
          have h1 : (k + 1) * m ≤ q * m := Nat.mul_le_mul_right m hkq
          rw [Hq.out, Nat.succ_mul] at h1
          omega
        have hkj : k ≤ j := by rw [hj]; exact Nat.le_mul_of_pos_right k hm1
        have hBw : Below w.heap.size w wr := hB1.trans (hbel.mono hB1.size)
        obtain ⟨ys, hys⟩ : ∃ ys, (d.drop j).take m = ys := ⟨_, rfl⟩
        have hyl : ys.length = m := by rw [← hys, List.length_take, List.length_drop, Hld.out]; omega
        have hcut : IntsAt .i64 wr (subA a1 c1 j) ys := by rw [← hys]; exact (H1.out.below hBw (Nat.le_refl _)).cut (m := c1) (by rw [Hld.out]; exact hc1)
        obtain ⟨ad, had, hsrc⟩ := hcut.src (by omega)
        obtain ⟨jm, hjm'⟩ : ∃ jm, j + m = jm := ⟨_, rfl⟩
        obtain ⟨cc, hcc'⟩ : ∃ cc, c1 - j = cc := ⟨_, rfl⟩
        have hsl : ∀ W : World, (Instr.sliceAt 22 (.slice a1 ld c1) (some (.int .i64 (j : Int))) (some (.int .i64 ((j : Int) + (m : Int)))) none).run Try.prog W = .ok (.slice (some ad) m cc) W := fun W => by
          rw [slice_lh W a1 ld c1 .i64 .i64 j ((j : Int) + m) (by omega) (by omega) (by omega), show ((j : Int)).toNat = j by omega, show ((j : Int) + (m : Int)).toNat - j = m by omega, had, hcc']
        have hpush : chunks m d (k + 1) = chunks m d k ++ [ys] := by rw [chunks_succ, ← hj, hys]
        have hklen := chunks_len m d k
        have hk6 : k ≤ 65536 := by omega
        have hb1 : w1.heap.size ≤ wr.heap.size := hbel.size
        have hSa : ∀ o, (wr.alloc o).cell? ⟨w.heap.size, 1, none⟩ = some (.slice a1 ld c1) := fun o => (World.cell?_alloc_lt _ _ _ (by show w.heap.size < _; omega)).trans hS
        have hz2 : w.heap.size < wr.heap.size := by omega
        have hj1 : (0 : Int) ≤ (j : Int) := by omega
        have hj2 : (j : Int) < (ld : Int) := by omega
        have Hjm := Lib.hid hjm'; have Hkj := Lib.hid hkj; have Hk6 := Lib.hid hk6; have Hjm2 := Lib.hid hjm; have Hb1 := Lib.hid hb1
        clear hjm' hcc' hkj hk6 hjm hb1 hBw hB1 hS1
        have Hyl := Lib.hid hyl; have Hsrc := Lib.hid hsrc; have Hpush := Lib.hid hpush; have Hkl := Lib.hid hklen; have Hrow := Lib.hid hrow; have Hbel := Lib.hid hbel; have Hj := Lib.hid hj
        clear hyl hsrc hpush hklen hrow hbel hj hcut had hys hkq
        go_wp2_with (at_builtin; refine wpList_append_own _ rfl _ _ 22 rfl wr.heap.size 2 i0 (.int .i64 0) 1 8 Try.underlying22 Hi.out Hz0.out Hz1.out Hz2.out rfl (by decide) _ 0 [] rfl (World.ownsRow_made wr #[] 0 (Nat.le_refl _) (Nat.zero_le _) rfl) ad m cc (ys.map (Value.int .i64)) rfl (by simp [Hyl.out]) (fun j' v hj' => (World.cell?_alloc_lt _ _ _ (World.block_lt_of_cell? wr _ (Hsrc.out j' v hj'))).trans (Hsrc.out j' v hj')) (oneCell_ints _ _) (by unfold maxLen; omega) (by omega) (by simp) ?_)
        intro u w2 hown hgrow _
        have hB2 : Below wr.heap.size wr w2 := ((Below.refl wr.heap.size wr).alloc (Nat.le_refl _) _).grown hgrow (by simp) (fun k e => by cases e; exact Nat.le_refl _)
        have hu : RowI wr.heap.size w2 u ys := by unfold RowI; rw [Hyl.out]; simpa using hown
        have HU := Lib.hid hu; have HB2 := Lib.hid hB2
        obtain ⟨au, cu, rfl, _, _⟩ := hu.slice
        clear hown hgrow hu hB2
        obtain ⟨vs, hvo, hvi⟩ := Hrow.out
        have hB3 : ∀ o, Below wr.heap.size wr (w2.alloc o) := fun o => HB2.out.alloc HB2.out.size _
        have hvo2 : ∀ o, (w2.alloc o).ownsRow w1.heap.size 22 1 u5 k vs := fun o => by
          have := World.ownsRow.kept hvo (grownBy_of_below (hB3 o)) (by cases u5.ownBlock <;> simp)
          rwa [Hkl.out] at this
        have HVO := Lib.hid hvo2; have HVI := Lib.hid hvi; have HV0 := Lib.hid hvo; have HB3 := Lib.hid hB3; clear hvo2 hvi hvo hB3
        have HK6 := Hk6.out
        have hbw2 : w1.heap.size ≤ w2.heap.size := Nat.le_trans Hb1.out HB2.out.size
        go_wp2_with (at_builtin; refine wpList_append_own _ rfl _ _ 39 rfl w1.heap.size 22 ir (.slice none 0 0) 1 24 Try.underlying39 Hir.out Hr0.out Hr1.out Hr2.out rfl (by decide) _ k vs rfl (HVO.out _) ⟨w2.heap.size, 0, none⟩ 1 1 [.slice au ys.length cu] rfl rfl (fun j v hj => lit_cell w2 _ _ j v hj) (by simp [Value.oneCell']) (by unfold maxLen; omega) (by omega) (by simp; omega) ?_)
        intro v' w4 hown hgrow _
        have hro : RowR w1.heap.size w4 v' (chunks m d (k + 1)) := by
          rw [Hpush.out]
          have hvk : ∀ o : Obj, (w2.alloc o).ownsRow w1.heap.size 22 1 u5 (chunks m d k).length vs := fun o => by rw [Hkl.out]; exact HVO.out o
          refine RowR.push (hvk _) (fun i hi => ?_) ((HU.out.mono Hb1.out).below ((Below.refl _ _).alloc (Nat.le_refl _) _)) (fun i x hx => ?_) (by rw [Hkl.out]; exact hown) hgrow
          · obtain ⟨x, e1, e2, e3⟩ := HVI.out i hi
            exact ⟨x, e1, e2.below (HB3.out _), e3⟩
          · have hi : i < (chunks m d k).length := by
              have hl := HV0.out.1
              by_cases h : i < vs.length
              · omega
              · rw [List.getElem?_eq_none (by omega)] at hx; cases hx
            obtain ⟨x', e1, e2, _⟩ := HVI.out i hi
            rw [hx] at e1
            cases e1
            exact Apart.of_rows e2 HU.out
        have hbo : Below w1.heap.size w1 w4 := (Hbel.out.trans ((HB3.out _).mono Hb1.out)).grown hgrow (by simp; omega) (fun k' e => by
          obtain ⟨_, ⟨e', _⟩ | ⟨g, cap, cur, e', hg, _⟩⟩ := HV0.out
          · rw [e'] at e; cases e
          · rw [e'] at e; cases e; exact hg)
        have Hro := Lib.hid hro; have Hbo := Lib.hid hbo; clear hro hbo hown hgrow
        go_wp2_with fail
        go_roundw
        case rel => exact ⟨k + 1, jm, by rw [Nat.succ_mul, ← Hj.out]; exact Hjm.out.symm, by have := Hjm.out; simp; omega, Hro.out, Hbo.out, by have := Hjm.out; have := Hjm2.out; omega, fun h => by omega⟩
        case measure => simp [intOf]; omega
      · have hk : k * m = ld := by omega
        have hch := Hfin.out k hk Hk0.out
        rw [hch] at hrow
        have Hrow := Lib.hid hrow; have Hbel := Lib.hid hbel; clear hrow hbel hj hk hch
        go_wp2_with fail
        refine bodyPost_ret (v := .tuple #[u5, .int .i64 0]) (by simp [results, Try.results22, go_sem]) rfl ⟨⟨_, rfl, Hrow.out.mono hB1.size⟩, hB1.trans (Hbel.out.mono hB1.size)⟩

theorem rlanes_any (w : World) (a0 a1 : Option Addr) (c0 c1 : Nat) (s d : List Int) (hs : s.length ≤ maxLen) (hc1 : d.length ≤ c1) (h0 : IntsAt .i64 w a0 s) (h1 : IntsAt .i64 w a1 d) :
    Calls Try.prog 22 #[.agg #[.slice a0 s.length c0, .slice a1 d.length c1]] w fun e w' => RetRows w.heap.size (lanes s d) e w' ∧ Below w.heap.size w w' := by
  cases hr : right s d with
  | false => exact rlanes_bad w a0 a1 c0 c1 s d hs h0 hr
  | true =>
    obtain ⟨_, g⟩ := right_good hr
    have hl4 := g.len
    have hd := g.le
    by_cases hd0 : d.length = 0
    · have hl0 : 0 ≤ lastOf s ∧ lastOf s ≤ 65536 := by
        by_cases hs0 : s = []
        · subst hs0; exact ⟨by decide, by decide⟩
        · exact g.side _ (by unfold lastOf; rw [List.getLast?_eq_some_getLast hs0]; exact List.getLast_mem hs0)
      obtain ⟨m, hm⟩ := Int.eq_ofNat_of_zero_le hl0.1
      have hl : lanes s d = (chunks m d 0, 0) := by
        unfold lanes
        rw [if_pos hr, hm, hd0]
        simp
      rw [hl]
      exact rlanes_good w a0 a1 c0 c1 s d m 0 hl4 (by omega) hc1 h0 h1 hr hm (.inl ⟨hd0, rfl⟩) (by omega) (by omega)
    · obtain ⟨m, q, e1, e2, e3, e4⟩ := lanes_facts hr (by omega)
      have hl : lanes s d = (chunks m d q, 0) := by
        unfold lanes
        rw [if_pos hr, e1, ← e4]
        simp only [Int.toNat_natCast]
        rw [Nat.mul_div_cancel _ (by omega)]
      rw [hl]
      exact rlanes_good w a0 a1 c0 c1 s d m q hl4 (by omega) hc1 h0 h1 hr e1 (.inr e2) e3 e4
end Go.Proofs.Ytbhhmfkipfedfaa
