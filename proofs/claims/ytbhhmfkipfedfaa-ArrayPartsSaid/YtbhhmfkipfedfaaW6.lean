import Derived.Test.YtbhhmfkipfedfaaW5
namespace Go.Proofs.Ytbhhmfkipfedfaa
open Go.RowKit

set_option maxHeartbeats 1000000 in
theorem rindex_any (w : World) (a : Option Addr) (c : Nat) (xs : List Int) (p : Int) (hm : xs.length ≤ maxLen) (h : IntsAt .i64 w a xs) :
    Calls Try.prog 17 #[.slice a xs.length c, .int .i64 p] w fun e w' => RetRow w.heap.size (index xs p) e w' ∧ Below w.heap.size w w' := by
  have hq := rsize_any w a c xs hm h
  have hr : index xs p = if (size xs).2 = 0 then (if p < 0 ∨ (size xs).1 ≤ p then ([], 62) else (idx xs p, 0)) else ([], (size xs).2) := rfl
  unfold maxLen at hm
  unfold two at hq
  rcases size_err xs with he | ⟨n, he⟩
  · rw [he, if_neg (by simp)] at hr
    rw [he] at hq
    have Hq := Lib.hid hq; have Hr := Lib.hid hr; clear hq hr he h
    go_enter Try.func17, Try.ntmps17
    go_wp2_with (go_at_call 11; refine (Hq.out).mono ?_; rintro e w1 ⟨rfl, rfl⟩)
    go_ret2
    exact ⟨by rw [Hr.out]; exact ⟨_, rfl, RowI.nil _ _⟩, Below.refl _ _⟩
  · have g := size_good he
    rw [he, if_pos rfl] at hr
    rw [he] at hq
    have Hq := Lib.hid hq; have Hr := Lib.hid hr; clear hq hr he
    have HI := Lib.hid h; clear h
    by_cases hneg : p < 0
    · go_enter Try.func17, Try.ntmps17
      go_wp2_with (go_at_call 11; refine (Hq.out).mono ?_; rintro e w1 ⟨rfl, rfl⟩)
      go_ret2
      exact ⟨by rw [Hr.out, if_pos (Or.inl hneg)]; exact ⟨_, rfl, RowI.nil _ _⟩, Below.refl _ _⟩
    · have hneg' : decide (p < 0) = false := by simpa using hneg
      by_cases hbig : n ≤ p
      · go_enter Try.func17, Try.ntmps17
        go_wp2_with (go_at_call 11; refine (Hq.out).mono ?_; rintro e w1 ⟨rfl, rfl⟩)
        go_ret2
        exact ⟨by rw [Hr.out, if_pos (Or.inr hbig)]; exact ⟨_, rfl, RowI.nil _ _⟩, Below.refl _ _⟩
      · have hres : Hid (index xs p = (idx xs p, 0)) := by unfold Hid; rw [Hr.out, if_neg (by omega)]
        have hp0 : 0 ≤ p := by omega
        have hpos : ∀ x ∈ xs, 0 < x := fun x hx => by
          have := g.side x hx
          have : x ≠ 0 := fun e => by have := g.zero.2 ⟨x, hx, e⟩; omega
          omega
        have Hpos := Lib.hid hpos; clear hpos
        have hl4 := g.len
        obtain ⟨i0, hi, hz0, hz1, hz2⟩ := info_parts Try.info2
        have Hi := Lib.hid hi; have Hz0 := Lib.hid hz0; have Hz1 := Lib.hid hz1; have Hz2 := Lib.hid hz2; clear hi hz0 hz1 hz2
        go_enter Try.func17, Try.ntmps17
        go_wp2_with (first
          | (go_at_call 11; refine (Hq.out).mono ?_; rintro e w1 ⟨rfl, rfl⟩)
          | (at_make; refine wpList_make_full _ rfl _ _ 22 rfl w.heap.size 2 i0 (.int .i64 0) 1 Try.underlying22 Hi.out Hz0.out Hz1.out _ _ _ _ xs.length rfl rfl rfl rfl ?c2 ?c3 ?c4 ?_))
        case c2 => rw [Hz2.out]; omega
        case c3 => unfold maxLen; omega
        case c4 => exact Nat.le_refl _
        intro w1 hown hgrow
        rw [toList_madeCells_one] at hown
        have hB1 : Below w.heap.size w w1 := (Below.refl _ _).grown hgrow (Nat.le_refl _) (by simp)
        have Hown := Lib.hid hown; have HB1 := Lib.hid hB1; clear hown hgrow hB1
        go_wp2
        go_loopw [1, 9] (fun q i wr => ∃ (k : Nat) (cc : Int), k ≤ xs.length ∧ i = .int .i64 cc ∧ cc = (k : Int) - 1 ∧ q = .int .i64 (p / prodL (xs.drop k)) ∧
            wr.ownsRow w.heap.size 2 1 (.slice (some ⟨w.heap.size, 0, none⟩) xs.length xs.length) xs.length (List.replicate k (.int .i64 0) ++ (idx (xs.drop k) p).map (Value.int .i64)) ∧ Below w.heap.size w wr) (fun _ i _ => (intOf i + 1).toNat)
        case atStart => exact ⟨xs.length, _, Nat.le_refl _, rfl, rfl, by simp [prodL], by simpa [idx] using Hown.out, HB1.out⟩
        case round =>
          obtain ⟨k, cc, hk, rfl, hcc, rfl, hown, hB⟩ := hrel
          cases k with
          | zero =>
            obtain rfl : cc = -1 := by omega
            have Hown2 := Lib.hid hown; clear hown hcc
            go_wp2
            go_ret2
            refine ⟨?_, hB⟩
            rw [hres.out]
            refine ⟨_, rfl, ?_⟩
            have := Hown2.out
            simp only [List.replicate_zero, List.nil_append, List.drop_zero] at this
            unfold RowI
            rw [length_idx]
            exact this
          | succ j =>
            obtain rfl : cc = (j : Int) := by omega
            have hj : j < xs.length := by omega
            obtain ⟨b0, off, rfl, hcell0⟩ := HI.out j hj
            have hb0 := World.block_lt_of_cell? w _ hcell0
            have hcell := (hB.cell (p := ⟨b0, off + j, none⟩) hb0).trans hcell0
            have hcellS : ∀ u, (wr.setCell ⟨w.heap.size, j, none⟩ u).cell? ⟨b0, off + j, none⟩ = some (.int .i64 xs[j]) :=
              fun u => (((Below.refl w.heap.size wr).setCell (p := ⟨w.heap.size, j, none⟩) (Nat.le_refl _) u).cell (p := ⟨b0, off + j, none⟩) hb0).trans hcell
            clear hcell0
            have hd0 : 0 ≤ p / prodL (xs.drop (j + 1)) := Int.ediv_nonneg hp0 (Int.le_of_lt (prodL_pos fun x hx => Hpos.out x (List.mem_of_mem_drop hx)))
            have hple : p ≤ 65536 := by have := g.le; omega
            have hd1 : p / prodL (xs.drop (j + 1)) ≤ 65536 := Int.le_trans (Int.ediv_le_self _ hp0) hple
            have hx0 : 0 < xs[j] := Hpos.out _ (List.getElem_mem hj)
            have hq0 : 0 ≤ p / prodL (xs.drop (j + 1)) / xs[j] := Int.ediv_nonneg hd0 (by omega)
            have hq1 : p / prodL (xs.drop (j + 1)) / xs[j] ≤ 65536 := Int.le_trans (Int.ediv_le_self _ hd0) hd1
            have hc := hown.cellAt j (by omega)
            have hc' : wr.cell? ⟨w.heap.size, j, none⟩ = some (.int .i64 0) := by rw [hc]; rw [List.getElem?_append_left (by simp)]; simp
            have hf := hown.frozenAt j
            have hst := hown.stored j (.int .i64 (p / prodL (xs.drop (j + 1)) % xs[j]))
            rw [set_replicate] at hst
            have Hst := Lib.hid hst
            clear hown hc hst hcc
            go_wp2
            go_roundw
            case rel =>
              refine ⟨j, _, by omega, rfl, rfl, ?_, ?_, hB.setCell (p := ⟨w.heap.size, j, none⟩) (Nat.le_refl _) _⟩
              · rw [prodL_drop hj, Int.ediv_ediv_of_nonneg (Int.le_of_lt (prodL_pos fun x hx => Hpos.out x (List.mem_of_mem_drop hx)))]
              · rw [idx_drop hj]; exact Hst.out.1
            case measure => simp [intOf]
end Go.Proofs.Ytbhhmfkipfedfaa
