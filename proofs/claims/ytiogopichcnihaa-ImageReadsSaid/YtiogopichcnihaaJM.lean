import Derived.Test.YtiogopichcnihaaJI
namespace Go.Proofs.Ytiogopichcnihaa
set_option maxRecDepth 100000
open Go.RowKit
set_option linter.unusedVariables false
set_option linter.unusedSimpArgs false

/-! The reference's reader: byteOf, number. -/
/-- the reader in block R has the bytes l left, and its flag; what lay in w0 lies there -/
structure Rr (w0 w : World) (R : Nat) (l : List Int) (bad : Bool) : Prop where
  below : Below w0.heap.size w0 w
  new : w0.heap.size ≤ R
  row : ∃ a c, w.heap[R]? = some (.cells #[.slice a l.length c, .bool bad] 71 (0, 0)) ∧ l.length ≤ c ∧ c ≤ maxLen ∧ IntsAt .u8 w0 a l
  byts : Byts l
theorem Rr.kb {w0 w w' : World} {R : Nat} {l : List Int} {b b' : Bool} (h : Rr w0 w R l b) (hk : KB (fun g => g = R) w w') {a : Option Addr} {c : Nat} {l' : List Int} (hr : w'.heap[R]? = some (.cells #[.slice a l'.length c, .bool b'] 71 (0, 0))) (h1 : l'.length ≤ c) (h2 : c ≤ maxLen) (h3 : IntsAt .u8 w0 a l') (h4 : Byts l') : Rr w0 w' R l' b' :=
  ⟨h.below.trans (hk.below h.below.size (fun g hg => by have := h.new; omega)), h.new, ⟨a, c, hr, h1, h2, h3⟩, h4⟩
theorem Rr.ty {w0 w : World} {R : Nat} {l : List Int} {b : Bool} (h : Rr w0 w R l b) {t : TypeId} (hne : 71 ≠ t) : NotTy t w R := by
  obtain ⟨a, c, hr, _⟩ := h.row
  exact NotTy.of hr hne
theorem Rr.keepTy {w0 w w' : World} {R : Nat} {l : List Int} {b : Bool} (h : Rr w0 w R l b) (hk : KB (fun g => g = R) w w') {t : TypeId} (hne : 71 ≠ t) : KeepTy t w w' := KeepTy.kb hk (fun g e => by subst e; exact h.ty hne)
theorem Rr.lt {w0 w : World} {R : Nat} {l : List Int} {b : Bool} (h : Rr w0 w R l b) : R < w.heap.size := by
  obtain ⟨a, c, hr, _⟩ := h.row
  exact (Array.getElem?_eq_some_iff.1 hr).1
theorem Rr.next {w0 w w' : World} {R : Nat} {l : List Int} {b : Bool} (h : Rr w0 w R l b) (hb : Below w0.heap.size w0 w') (hr : w'.heap[R]? = w.heap[R]?) : Rr w0 w' R l b := by
  obtain ⟨a, c, h1, h2, h3, h4⟩ := h.row
  exact ⟨hb, h.new, ⟨a, c, hr.trans h1, h2, h3, h4⟩, h.byts⟩
theorem Rr.c1 {w0 w : World} {R : Nat} {l : List Int} {b : Bool} (h : Rr w0 w R l b) : w.cell? ⟨R, 1, none⟩ = some (.bool b) := by
  obtain ⟨a, c, h1, _⟩ := h.row
  exact cell_of_row w R 1 _ _ _ h1
theorem Rr.f1 {w0 w : World} {R : Nat} {l : List Int} {b : Bool} (h : Rr w0 w R l b) : w.frozen? ⟨R, 1, none⟩ = false := by
  obtain ⟨a, c, h1, _⟩ := h.row
  exact frozen_of_row w R 1 _ _ h1
/-- the flag is set -/
theorem Rr.set {w0 w : World} {R : Nat} {l : List Int} {b : Bool} (h : Rr w0 w R l b) : Rr w0 (w.setCell ⟨R, 1, none⟩ (.bool true)) R l true ∧ KB (fun g => g = R) w (w.setCell ⟨R, 1, none⟩ (.bool true)) := by
  have hk : KB (fun g => g = R) w (w.setCell ⟨R, 1, none⟩ (.bool true)) := KB.setCell (S := fun g => g = R) (KB.refl _ _) (p := ⟨R, 1, none⟩) (fun _ => rfl) _
  obtain ⟨a, c, h1, h2, h3, h4⟩ := h.row
  exact ⟨h.kb hk (by rw [heap_setCell_same w R 1 _ _ _ h1]; rfl) h2 h3 h4 h.byts, hk⟩
/-- what byteOf tells -/
def ByteE (w0 w : World) (R : Nat) (l : List Int) (b : Bool) (e : Ending) (w' : World) : Prop :=
  KB (fun g => g = R) w w' ∧ ∃ x : Nat, e = .returned (.int .u8 x) ∧ x ≤ 255 ∧ (x : Int) = l.headD 0 ∧ Rr w0 w' R l.tail (b || l.isEmpty)
set_option maxHeartbeats 4000000 in
theorem byte_any (w0 w : World) (R : Nat) (l : List Int) (b : Bool) (h : Rr w0 w R l b) : Calls Try.prog 40 #[.pointer (some ⟨R, 0, none⟩)] w (ByteE w0 w R l b) := by
  obtain ⟨a, c, hr, h1, h2, h3⟩ := h.row
  have x0 := cell_of_row w R 0 _ _ _ hr; have x1 := cell_of_row w R 1 _ _ _ hr
  have hf := frozen_of_row w R 0 _ _ hr; have hf1 := frozen_of_row w R 1 _ _ hr
  have hm : c ≤ 9223372036854775807 := h2
  have H := Lib.hid h; have HR := Lib.hid hr; have H2 := Lib.hid h2; have H3 := Lib.hid h3
  clear h hr h3 h2
  rcases l with _ | ⟨y, r⟩
  · go_enter Try.func40, Try.ntmps40
    go_wp2_with fail
    go_ret
    refine ⟨H.out.set.2, 0, rfl, by omega, rfl, ?_⟩
    have := H.out.set.1
    show Rr w0 _ R [] (b || true)
    rw [Bool.or_true]
    exact this
  · obtain ⟨hy0, hy1⟩ := H.out.byts y (by simp)
    obtain ⟨y, rfl⟩ : ∃ n : Nat, y = n := ⟨y.toNat, by omega⟩
    obtain ⟨b0, off, rfl, hx⟩ := H3.out 0 (by simp)
    have hx0 := keepCellB H.out.below (Nat.le_refl _) hx
    simp only [List.getElem_cons_zero, Nat.add_zero] at hx0
    have hle : ((r.length + 1 : Nat) : Int) ≠ 0 := by omega
    have hl0 : (((r.length + 1 : Nat) : Int) == 0) = false := by rw [beq_eq_false_iff_ne]; exact hle
    have s2 := slice_loB w (some ⟨b0, off, none⟩) (r.length + 1) c 1 (by omega) (by omega)
    rw [show ((1 : Int)).toNat = 1 from rfl] at s2
    have hc2 := H3.out.cut (l := 1) (n := r.length + 1) h1
    rw [List.take_of_length_le (by simp), List.drop_succ_cons, List.drop_zero] at hc2
    have HC2 := Lib.hid hc2
    generalize subA (some ⟨b0, off, none⟩) c 1 = a2 at s2 HC2
    simp only [List.length_cons] at x0 h1
    have hpos : (0 : Int) < ((r.length + 1 : Nat) : Int) := by omega
    clear hx hc2 hle
    go_enter Try.func40, Try.ntmps40
    go_wp2_with fail
    go_ret
    have hkb : KB (fun g => g = R) w (w.setCell ⟨R, 0, none⟩ (.slice a2 (r.length + 1 - 1) (c - 1))) := KB.setCell (S := fun g => g = R) (KB.refl _ _) (p := ⟨R, 0, none⟩) (fun _ => rfl) _
    refine ⟨hkb, y, rfl, by omega, rfl, ?_⟩
    have hr2 : (w.setCell ⟨R, 0, none⟩ (.slice a2 (r.length + 1 - 1) (c - 1))).heap[R]? = some (.cells #[.slice a2 r.length (c - 1), .bool b] 71 (0, 0)) := by
      rw [heap_setCell_same w R 0 _ _ _ HR.out]; rfl
    show Rr w0 _ R r (b || false)
    rw [Bool.or_false]
    exact H.out.kb hkb hr2 (by omega) (by have := H2.out; omega) HC2.out (fun x hx => H.out.byts x (List.mem_cons_of_mem _ hx))
/-! number. -/
theorem add_part (n y k : Nat) (hk : k ≤ 8) (hn : n < 128 ^ k) : wrap64 ((n : Int) + wrap64 ((y : Int) % 128 * 2 ^ (7 * k))) = ((n + y % 128 * 128 ^ k : Nat) : Int) ∧ n + y % 128 * 128 ^ k < 128 ^ (k + 1) ∧ 128 ^ (k + 1) ≤ 9223372036854775808 := by
  have h1 : 128 ^ k ≤ 128 ^ 8 := Nat.pow_le_pow_right (by omega) hk
  have h2 : (128 : Nat) ^ 8 = 72057594037927936 := rfl
  have h3 : y % 128 * 128 ^ k ≤ 127 * 128 ^ k := Nat.mul_le_mul_right _ (by omega)
  have h4 : 128 ^ (k + 1) = 128 * 128 ^ k := by rw [Nat.pow_succ, Nat.mul_comm]
  refine ⟨?_, by omega, by omega⟩
  rw [part_eq]
  have h5 : 2 ^ (7 * k) * (y % 128) = y % 128 * 128 ^ k := by rw [pow7, Nat.mul_comm]
  rw [h5]
  generalize y % 128 * 128 ^ k = z at h3
  unfold wrap64
  omega
/-- what number tells -/
def NumR (w0 w : World) (R : Nat) (b : Bool) (res : Option (Int × List Int)) (e : Ending) (w' : World) : Prop :=
  KB (fun g => g = R) w w' ∧ ∃ (v : Nat) (r : List Int) (b' : Bool), e = .returned (.int .i64 v) ∧ v ≤ 9223372036854775807 ∧ Rr w0 w' R r b' ∧ (∀ n r0, res = some (n, r0) → n = v ∧ r0 = r ∧ b' = b) ∧ (res = none → b' = true) ∧ (b = true → b' = true)
set_option maxHeartbeats 4000000 in
theorem numr_any (w0 w : World) (R : Nat) (l : List Int) (b : Bool) (most : Int) (h : Rr w0 w R l b) :
    Calls Try.prog 41 #[.pointer (some ⟨R, 0, none⟩), .int .i64 most] w (NumR w0 w R b (numP most l)) := by
  have H := Lib.hid h
  obtain ⟨res, hres⟩ : ∃ res, numP most l = res := ⟨_, rfl⟩
  have HRES := Lib.hid (show numGo most 9 0 0 l = res from hres)
  rw [hres]
  clear hres h
  go_enter Try.func41, Try.ntmps41
  go_wp2_with fail
  go_loopw [5, 6] (fun v i wr => ∃ (k n : Nat) (r : List Int), i = .int .i64 k ∧ v = .int .i64 n ∧ k ≤ 9 ∧ n < 128 ^ k ∧ numGo most (9 - k) k n r = res ∧ Rr w0 wr R r b ∧ KB (fun g => g = R) w wr) (fun _ i _ => 9 - (intOf i).toNat)
  case atStart => exact ⟨0, 0, l, rfl, rfl, by omega, by omega, HRES.out, H.out, KB.refl _ _⟩
  case round =>
    obtain ⟨k, n, r, rfl, rfl, hk, hn, hg, hrd, hkb⟩ := hrel
    have hq := byte_any w0 wr R r b hrd
    have HG := Lib.hid hg; have HKB := Lib.hid hkb; have HQ := Lib.hid hq; have HRD := Lib.hid hrd
    clear hg hrd hkb hq HRES H
    by_cases hk9 : k < 9
    · go_wp2_with fail
      refine HQ.out.mono ?_
      rintro e w1 ⟨hk1, y, rfl, hy, hyl, hrd1⟩
      clear HQ
      obtain ⟨ho, hlt, hbig⟩ := add_part n y k (by omega) hn
      have HK1 := Lib.hid (HKB.out.trans hk1); have HRD1 := Lib.hid hrd1; have HO := Lib.hid ho; have HYL := Lib.hid hyl
      obtain ⟨N, hN⟩ : ∃ N, n + y % 128 * 128 ^ k = N := ⟨_, rfl⟩
      have hg := HG.out
      rw [show 9 - k = (8 - k) + 1 from by omega] at hg
      have hNb : N < 9223372036854775808 := by omega
      have HLT := Lib.hid (hN ▸ hlt)
      have HGG : Hid (∀ x t, r = x :: t → (if 127 < x then numGo most (8 - k) (k + 1) N t else if most < (N : Int) ∨ (0 < k ∧ x = 0) then none else some ((N : Int), t)) = res) := by
        refine Lib.hid fun x t e => ?_
        subst e
        have e1 : x = (y : Int) := hyl.symm
        subst e1
        rw [numGo, Int.toNat_natCast, hN] at hg
        exact hg
      have HNIL : Hid (r = [] → res = none) := Lib.hid fun e => by subst e; exact hg.symm
      rw [hN] at HO
      clear hk1 HKB hrd1 ho hyl hlt hbig hN hg hn HG
      go_upto_region 7 with fail
      rw [HO.out]
      clear HO
      by_cases hc : 127 < y
      · have hI : (127 : Int) < (y : Int) := by omega
        have hI2 : decide ((y : Int) < 128) = false := by rw [decide_eq_false_iff_not]; omega
        rcases r with _ | ⟨x, t⟩
        · exfalso
          have := HYL.out
          simp at this
          omega
        · have hxy : (y : Int) = x := HYL.out
          have hgg := HGG.out x t rfl
          rw [if_pos (by omega)] at hgg
          have hrd := HRD1.out
          rw [show (b || (x :: t).isEmpty) = b from Bool.or_false b, show (x :: t).tail = t from rfl] at hrd
          have HG3 := Lib.hid hgg; have HR3 := Lib.hid hrd
          clear hgg hrd HRD1 HGG HNIL hxy HYL HRD
          go_wp2_with fail
          go_roundw
          case rel => exact ⟨k + 1, N, t, by go_num, rfl, by omega, HLT.out, by rw [show 9 - (k + 1) = 8 - k from by omega]; exact HG3.out, HR3.out, HK1.out⟩
          case measure => simp [intOf] <;> omega
      · have hI : (y : Int) < 128 := by omega
        have hbad : Hid ((0 < k ∧ y = 0) ∨ most < (N : Int) → res = none) := by
          refine Lib.hid fun hh => ?_
          rcases r with _ | ⟨x, t⟩
          · exact HNIL.out rfl
          · have hxy : (y : Int) = x := HYL.out
            have hgg := HGG.out x t rfl
            rw [if_neg (by omega), if_pos (by rcases hh with ⟨h1, h2⟩ | h1; exact .inr ⟨h1, by omega⟩; exact .inl h1)] at hgg
            exact hgg.symm
        have hgood : Hid (¬ ((0 < k ∧ y = 0) ∨ most < (N : Int)) → (∀ n r0, res = some (n, r0) → n = (N : Int) ∧ r0 = r.tail ∧ (b || r.isEmpty) = b) ∧ (res = none → (b || r.isEmpty) = true) ∧ (b = true → (b || r.isEmpty) = true)) := by
          refine Lib.hid fun hh => ?_
          rcases r with _ | ⟨x, t⟩
          · have := HNIL.out rfl
            exact ⟨(fun n r0 e => by rw [this] at e; cases e), (fun _ => by simp), (fun _ => by simp)⟩
          · have hxy : (y : Int) = x := HYL.out
            have hgg := HGG.out x t rfl
            rw [if_neg (by omega), if_neg (by rintro (h1 | ⟨h1, h2⟩); exact hh (.inr h1); exact hh (.inl ⟨h1, by omega⟩))] at hgg
            exact ⟨(fun n r0 e => by rw [← hgg] at e; cases e; exact ⟨rfl, rfl, by simp⟩), (fun e => by rw [e] at hgg; cases hgg), (fun e => by simp [e])⟩
        have HS := Lib.hid HRD1.out.set
        have x1 := HRD1.out.c1; have f1 := HRD1.out.f1
        clear HGG HNIL HYL HRD
        by_cases h1 : 0 < k ∧ y = 0
        · have hnr := hbad.out (.inl h1)
          obtain ⟨h1, rfl⟩ := h1
          have hkI : (0 : Int) < (k : Int) := by omega
          clear hbad hgood
          go_wp2_with fail
          go_ret
          exact ⟨HK1.out.trans HS.out.2, N, _, true, rfl, by omega, HS.out.1, (fun n r0 e => by rw [hnr] at e; cases e), fun _ => rfl, fun _ => rfl⟩
        · by_cases hm : most < (N : Int)
          · have hnr := hbad.out (.inr hm)
            clear hbad hgood
            by_cases hk0 : 0 < k
            · have hkI : (0 : Int) < (k : Int) := by omega
              have hyI : ((y : Int) == 0) = false := by rw [beq_eq_false_iff_ne]; intro e; exact h1 ⟨hk0, by omega⟩
              clear h1
              go_wp2_with fail
              go_ret
              exact ⟨HK1.out.trans HS.out.2, N, _, true, rfl, by omega, HS.out.1, (fun n r0 e => by rw [hnr] at e; cases e), fun _ => rfl, fun _ => rfl⟩
            · obtain rfl : k = 0 := by omega
              clear h1
              go_wp2_with fail
              go_ret
              exact ⟨HK1.out.trans HS.out.2, N, _, true, rfl, by omega, HS.out.1, (fun n r0 e => by rw [hnr] at e; cases e), fun _ => rfl, fun _ => rfl⟩
          · have hgd := Lib.hid (hgood.out (by rintro (h | h); exact h1 h; exact hm h))
            have hm' : decide (most < (N : Int)) = false := by simpa using hm
            clear hbad hgood
            by_cases hk0 : 0 < k
            · have hkI : (0 : Int) < (k : Int) := by omega
              have hyI : ((y : Int) == 0) = false := by rw [beq_eq_false_iff_ne]; intro e; exact h1 ⟨hk0, by omega⟩
              clear h1
              go_wp2_with fail
              go_ret
              exact ⟨HK1.out, N, _, _, rfl, by omega, HRD1.out, hgd.out⟩
            · obtain rfl : k = 0 := by omega
              clear h1
              go_wp2_with fail
              go_ret
              exact ⟨HK1.out, N, _, _, rfl, by omega, HRD1.out, hgd.out⟩
    · obtain rfl : k = 9 := by omega
      have hnr : res = none := HG.out.symm
      have HS := Lib.hid HRD.out.set
      have x1 := HRD.out.c1; have f1 := HRD.out.f1
      clear HQ HG
      go_wp2_with fail
      go_ret
      exact ⟨HKB.out.trans HS.out.2, 0, r, true, rfl, by omega, HS.out.1, (fun n r0 e => by rw [hnr] at e; cases e), fun _ => rfl, fun _ => rfl⟩
end Go.Proofs.Ytiogopichcnihaa
