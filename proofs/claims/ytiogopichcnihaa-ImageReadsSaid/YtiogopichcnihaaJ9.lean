import Derived.Test.YtiogopichcnihaaJ8
namespace Go.Proofs.Ytiogopichcnihaa
set_option maxRecDepth 100000
open Go.RowKit
set_option linter.unusedVariables false
set_option linter.unusedSimpArgs false

/-! The reader: take, number. -/
/-- the panic of bytes that are none -/
def badE : Ending := .panicked [{ v := .iface 62 (.agg #[]), recovered := false }]
/-- the reader in block R has the bytes l left; what lay in w0 lies there -/
structure Rd (w0 w : World) (R : Nat) (l : List Int) : Prop where
  below : Below w0.heap.size w0 w
  new : w0.heap.size ≤ R
  row : ∃ a c, w.heap[R]? = some (.cells #[.slice a l.length c] 66 (0, 0)) ∧ l.length ≤ c ∧ c ≤ maxLen ∧ IntsAt .u8 w0 a l
  byts : Byts l
theorem Rd.kb {w0 w w' : World} {R : Nat} {l : List Int} (h : Rd w0 w R l) (hk : KB (fun g => g = R) w w') {a : Option Addr} {c : Nat} {l' : List Int} (hr : w'.heap[R]? = some (.cells #[.slice a l'.length c] 66 (0, 0))) (h1 : l'.length ≤ c) (h2 : c ≤ maxLen) (h3 : IntsAt .u8 w0 a l') (h4 : Byts l') : Rd w0 w' R l' :=
  ⟨h.below.trans (hk.below h.below.size (fun g hg => by have := h.new; omega)), h.new, ⟨a, c, hr, h1, h2, h3⟩, h4⟩
theorem sized28 (w : World) : (sizeOf (Try.prog.elem 28)).run Try.prog w = .ok 1 w := by kernel_rfl
/-- x[l:] and x[:h] of a []uint8 -/
theorem slice_loB (w : World) (a : Option Addr) (len cap : Nat) (l : Int) (h0 : 0 ≤ l) (h1 : l ≤ len) :
    (Instr.sliceAt 28 (.slice a len cap) (some (.int .i64 l)) none none).run Try.prog w = .ok (.slice (subA a cap l.toNat) (len - l.toNat) (cap - l.toNat)) w := by
  rw [run_sliceAt_slice w 28 _ _ _ _ Try.underlying28, run_slice_l w 28 a len cap Try.underlying28 .i64 l h0 h1, sized28]
  simp only [Result.andThen, sliced_subA]
theorem slice_hiB (w : World) (a : Option Addr) (len cap : Nat) (h : Int) (h0 : 0 ≤ h) (h2 : h ≤ cap) :
    (Instr.sliceAt 28 (.slice a len cap) none (some (.int .i64 h)) none).run Try.prog w = .ok (.slice (subA a cap 0) h.toNat cap) w := by
  rw [run_sliceAt_slice w 28 _ _ _ _ Try.underlying28, run_slice_h w 28 a len cap Try.underlying28 .i64 h h0 h2, sized28]
  simp only [Result.andThen, sliced_subA, Nat.sub_zero]
/-- what take tells -/
def TakeE (w0 w : World) (R : Nat) (l : List Int) (n : Nat) (e : Ending) (w' : World) : Prop :=
  KB (fun g => g = R) w w' ∧ (if n ≤ l.length then ∃ a c, e = .returned (.slice a (l.take n).length c) ∧ n ≤ c ∧ c ≤ maxLen ∧ IntsAt .u8 w0 a (l.take n) ∧ Rd w0 w' R (l.drop n) else e = badE)
set_option maxHeartbeats 4000000 in
theorem take_any (w0 w : World) (R : Nat) (l : List Int) (n : Nat) (h : Rd w0 w R l) (hn : n ≤ 100) :
    Calls Try.prog 54 #[.pointer (some ⟨R, 0, none⟩), .int .i64 n] w (TakeE w0 w R l n) := by
  obtain ⟨a, c, hr, h1, h2, h3⟩ := h.row
  have x0 := cell_of_row w R 0 _ _ _ hr
  have hf := frozen_of_row w R 0 _ _ hr
  have hm : c ≤ 9223372036854775807 := h2
  have H := Lib.hid h; have HR := Lib.hid hr
  unfold TakeE
  by_cases hle : n ≤ l.length
  · have hlt : decide ((l.length : Int) < (n : Int)) = false := by rw [decide_eq_false_iff_not]; omega
    have s1 := slice_hiB w a l.length c (n : Int) (by omega) (by omega)
    have s2 := slice_loB w a l.length c (n : Int) (by omega) (by omega)
    rw [Int.toNat_natCast] at s1 s2
    have hc1 := h3.cut (l := 0) (n := n) h1
    have hc2 := h3.cut (l := n) (n := l.length) h1
    rw [List.drop_zero] at hc1
    rw [List.take_of_length_le (by rw [List.length_drop]; omega)] at hc2
    have HC1 := Lib.hid hc1; have HC2 := Lib.hid hc2; have H2 := Lib.hid h2
    generalize subA a c 0 = a1 at s1 HC1
    generalize subA a c n = a2 at s2 HC2
    clear h hr h3 hc1 hc2 h2
    go_enter Try.func54, Try.ntmps54
    go_wp2_with fail
    go_ret
    have hkb : KB (fun g => g = R) w (w.setCell ⟨R, 0, none⟩ (.slice a2 (l.length - n) (c - n))) := KB.setCell (S := fun g => g = R) (KB.refl _ _) (p := ⟨R, 0, none⟩) (fun _ => rfl) _
    have hr2 : (w.setCell ⟨R, 0, none⟩ (.slice a2 (l.length - n) (c - n))).heap[R]? = some (.cells #[.slice a2 (l.drop n).length (c - n)] 66 (0, 0)) := by
      rw [heap_setCell_same w R 0 _ _ _ HR.out, List.length_drop]; rfl
    exact ⟨hkb, _, _, rfl, by omega, H2.out, HC1.out, H.out.kb hkb hr2 (by rw [List.length_drop]; omega) (by have := H2.out; omega) HC2.out (fun x hx => H.out.byts x (List.mem_of_mem_drop hx))⟩
  · have hlt : (l.length : Int) < (n : Int) := by omega
    clear h hr h3 h2 hf
    go_enter Try.func54, Try.ntmps54
    go_wp2_with fail
    exact ⟨rfl, KB.refl _ _, rfl⟩
/-! number. -/
theorem and127 {y : Nat} (h : y ≤ 255) : bits BinOp.and IntKind.u8 (y : Int) 127 = (y : Int) % 128 := by
  have h1 : ∀ k : Fin 256, bits BinOp.and IntKind.u8 ((k.1 : Nat) : Int) 127 = ((k.1 : Nat) : Int) % 128 := by decide +kernel
  exact h1 ⟨y, by omega⟩
theorem part_eq (y k : Nat) : ((y : Int) % 128 * 2 ^ (7 * k)) = ((2 ^ (7 * k) * (y % 128) : Nat) : Int) := by
  rw [Int.mul_comm]; push_cast; rfl
theorem pow7 (k : Nat) : 2 ^ (7 * k) = 128 ^ k := by rw [Nat.pow_mul]
theorem or_part (n y k : Nat) (hk : k ≤ 8) (hn : n < 128 ^ k) : bits BinOp.or IntKind.i64 (n : Int) (wrap64 ((y : Int) % 128 * 2 ^ (7 * k))) = ((n + y % 128 * 128 ^ k : Nat) : Int) ∧ n + y % 128 * 128 ^ k < 128 ^ (k + 1) ∧ 128 ^ (k + 1) ≤ 9223372036854775808 := by
  have h1 : 128 ^ k ≤ 128 ^ 8 := Nat.pow_le_pow_right (by omega) hk
  have h2 : (128 : Nat) ^ 8 = 72057594037927936 := rfl
  have h3 : y % 128 * 128 ^ k ≤ 127 * 128 ^ k := Nat.mul_le_mul_right _ (by omega)
  have h4 : 128 ^ (k + 1) = 128 * 128 ^ k := by rw [Nat.pow_succ, Nat.mul_comm]
  refine ⟨?_, by omega, by omega⟩
  rw [part_eq]
  have h5 : 2 ^ (7 * k) * (y % 128) = y % 128 * 128 ^ k := by rw [pow7, Nat.mul_comm]
  have hw : wrap64 ((2 ^ (7 * k) * (y % 128) : Nat) : Int) = ((2 ^ (7 * k) * (y % 128) : Nat) : Int) := by
    rw [h5]; unfold wrap64; omega
  rw [hw, or_i64 (7 * k) (y % 128) n (by rw [pow7]; exact hn) (by rw [h5]; omega), h5]
  congr 1
  omega
/-- what number tells -/
def NumE (w0 w : World) (R : Nat) (res : Option (Int × List Int)) (e : Ending) (w' : World) : Prop :=
  KB (fun g => g = R) w w' ∧ match res with | some (n, r) => e = .returned (.int .i64 n) ∧ Rd w0 w' R r | none => e = badE
set_option maxHeartbeats 4000000 in
theorem num_any (w0 w : World) (R : Nat) (l : List Int) (most : Int) (h : Rd w0 w R l) :
    Calls Try.prog 55 #[.pointer (some ⟨R, 0, none⟩), .int .i64 most] w (NumE w0 w R (numP most l)) := by
  have H := Lib.hid h
  obtain ⟨res, hres⟩ : ∃ res, numP most l = res := ⟨_, rfl⟩
  have HRES := Lib.hid (show numGo most 9 0 0 l = res from hres)
  rw [hres]
  clear hres h
  go_enter Try.func55, Try.ntmps55
  go_wp2_with fail
  go_loopw [5, 8] (fun v i wr => ∃ (k n : Nat) (r : List Int), i = .int .i64 k ∧ v = .int .i64 n ∧ k ≤ 9 ∧ n < 128 ^ k ∧ numGo most (9 - k) k n r = res ∧ Rd w0 wr R r ∧ KB (fun g => g = R) w wr) (fun _ i _ => 9 - (intOf i).toNat)
  case atStart => exact ⟨0, 0, l, rfl, rfl, by omega, by omega, HRES.out, H.out, KB.refl _ _⟩
  case round =>
    obtain ⟨k, n, r, rfl, rfl, hk, hn, hg, hrd, hkb⟩ := hrel
    have hq := take_any w0 wr R r 1 hrd (by omega)
    have HG := Lib.hid hg; have HKB := Lib.hid hkb; have HQ := Lib.hid hq; have HB := Lib.hid hrd.byts
    clear hg hrd hkb hq HRES H
    by_cases hk9 : k < 9
    · go_wp2_with fail
      refine HQ.out.mono ?_
      rintro e w1 ⟨hk1, ht⟩
      clear HQ
      have HK1 := Lib.hid (HKB.out.trans hk1)
      clear hk1 HKB
      rcases r with _ | ⟨x, r⟩
      · obtain rfl : e = badE := ht
        obtain rfl : none = res := by rw [← HG.out, show 9 - k = (8 - k) + 1 from by omega]; rfl
        unfold badE
        go_wp2_with fail
        exact ⟨rfl, HK1.out, rfl⟩
      · obtain ⟨a, c, rfl, hc1, hc2, hi, hrd⟩ := (show ∃ a c, e = .returned (.slice a 1 c) ∧ 1 ≤ c ∧ c ≤ maxLen ∧ IntsAt .u8 w0 a [x] ∧ Rd w0 w1 R r from ht)
        obtain ⟨b, off, rfl, x0'⟩ := hi 0 (by simp)
        have x0 := keepCellB hrd.below (Nat.le_refl _) x0'
        simp only [List.getElem_cons_zero, Nat.add_zero] at x0
        have hx := HB.out x (by simp)
        have hg := HG.out
        rw [show 9 - k = (8 - k) + 1 from by omega, numGo] at hg
        obtain ⟨hx0, hx1⟩ := hx
        obtain ⟨y, rfl⟩ : ∃ y : Nat, x = y := ⟨x.toNat, by omega⟩
        rw [Int.toNat_natCast] at hg
        obtain ⟨ho, hlt, hbig⟩ := or_part n y k (by omega) hn
        have ha := and127 (y := y) (by omega)
        have HRD := Lib.hid hrd; have HO := Lib.hid ho
        obtain ⟨N, hN⟩ : ∃ N, n + y % 128 * 128 ^ k = N := ⟨_, rfl⟩
        rw [hN] at HO hg hlt
        have HG2 := Lib.hid hg
        have hNb : N < 9223372036854775808 := by omega
        have HLT := Lib.hid hlt
        clear ht hi hrd x0' HG HB ho hN hbig hn hlt hg
        go_upto_region 7 with fail
        rw [HO.out]
        clear HO ha x0
        by_cases hc : 127 < y
        · have hg := HG2.out
          rw [if_pos (show (127 : Int) < (y : Int) by omega)] at hg
          have hI : (127 : Int) < (y : Int) := by omega
          have HG3 := Lib.hid hg
          clear hg HG2
          go_wp2_with fail
          go_roundw
          case rel => exact ⟨k + 1, N, r, by go_num, rfl, by omega, HLT.out, by rw [show 9 - (k + 1) = 8 - k from by omega]; exact HG3.out, HRD.out, HK1.out⟩
          case measure => simp [intOf] <;> omega
        · have hI : (y : Int) ≤ 127 := by omega
          have hg := HG2.out
          rw [if_neg (show ¬ (127 : Int) < (y : Int) by omega)] at hg
          by_cases hm : most < (N : Int)
          · rw [if_pos (.inl hm)] at hg
            subst hg
            clear HG2
            go_wp2_with fail
            exact ⟨rfl, HK1.out, rfl⟩
          · have hm' : decide (most < (N : Int)) = false := by simpa using hm
            by_cases hk0 : 0 < k ∧ (y : Int) = 0
            · rw [if_pos (.inr hk0)] at hg
              subst hg
              obtain ⟨hk0, hy0⟩ := hk0
              obtain rfl : y = 0 := by omega
              have hkI : (0 : Int) < (k : Int) := by omega
              clear HG2
              go_wp2_with fail
              exact ⟨rfl, HK1.out, rfl⟩
            · rw [if_neg (not_or.2 ⟨hm, hk0⟩)] at hg
              subst hg
              clear HG2
              by_cases hk1 : 0 < k
              · have hkI : (0 : Int) < (k : Int) := by omega
                have hyI : ((y : Int) == 0) = false := by rw [beq_eq_false_iff_ne]; intro e; exact hk0 ⟨hk1, e⟩
                clear hk0
                go_wp2_with fail
                go_ret
                exact ⟨HK1.out, rfl, HRD.out⟩
              · obtain rfl : k = 0 := by omega
                clear hk0
                go_wp2_with fail
                go_ret
                exact ⟨HK1.out, rfl, HRD.out⟩
    · obtain rfl : k = 9 := by omega
      obtain rfl : none = res := HG.out
      clear HQ HG
      go_wp2_with fail
      exact ⟨rfl, HKB.out, rfl⟩
end Go.Proofs.Ytiogopichcnihaa
