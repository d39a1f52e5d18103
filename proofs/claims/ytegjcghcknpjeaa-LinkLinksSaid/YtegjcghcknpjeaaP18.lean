import Derived.Test.YtegjcghcknpjeaaP17
namespace Go.Proofs.Ytegjcghcknpjeaa
open Go.RowKit

set_option maxHeartbeats 4000000 in
theorem find_any (w : World) (a : Option Addr) (c : Nat) (s : List (Int × Int)) (m : Int) (hl : s.length ≤ 32768) (hs : Asc s) (h : spotRep.Els w a s) :
    Calls Try.prog 25 #[.slice a s.length c, .int .i64 m] w fun e w' => e = .returned (.int .i64 (findS s m)) ∧ w = w' := by
  have hmono : ∀ i j, (hi : i < s.length) → (hj : j < s.length) → i ≤ j → s[i].1 ≤ s[j].1 := fun i j hi hj hij => by
    by_cases e : i = j
    · subst e; exact Int.le_refl _
    · have := List.pairwise_iff_getElem.1 hs i j hi hj (by omega)
      rw [aheadB_iff] at this
      omega
  have HI := Lib.hid h; have HM := Lib.hid hmono; clear h hmono hs
  go_enter Try.func25, Try.ntmps25
  go_wp2_with fail
  go_loop [5, 6] (fun f t => ∃ p q : Nat, p ≤ q ∧ q ≤ s.length ∧ f = .int .i64 p ∧ t = .int .i64 q ∧ (∀ j, (hj : j < s.length) → j < p → s[j].1 < m) ∧ (∀ j, (hj : j < s.length) → q ≤ j → m ≤ s[j].1)) (fun f t => (intOf t).toNat - (intOf f).toNat)
  case atStart => exact ⟨0, s.length, Nat.zero_le _, Nat.le_refl _, rfl, rfl, (fun j _ h => by omega), (fun j hj h => by omega)⟩
  case round =>
    obtain ⟨p, q, hpq, hq, rfl, rfl, h1, h2⟩ := hrel
    by_cases hlt : p < q
    · have hmid : (p + q) / 2 < s.length := by omega
      obtain ⟨b, off, rfl, hw, x0, x1⟩ := els_spot HI.out hmid
      have hn1 : s[(p + q) / 2].1 < m → ∀ j, (hj : j < s.length) → j < (p + q) / 2 + 1 → s[j].1 < m := fun hlt' j hj hjm => by
        have := HM.out j ((p + q) / 2) hj hmid (by omega)
        omega
      have hn2 : ¬ s[(p + q) / 2].1 < m → ∀ j, (hj : j < s.length) → (p + q) / 2 ≤ j → m ≤ s[j].1 := fun hlt' j hj hjm => by
        have := HM.out ((p + q) / 2) j hmid hj hjm
        omega
      obtain ⟨t, ht⟩ : ∃ t, s[(p + q) / 2] = t := ⟨_, rfl⟩
      rw [ht] at hw x0 x1 hn1 hn2
      have Hn1 := Lib.hid hn1; have Hn2 := Lib.hid hn2; have H1 := Lib.hid h1; have H2 := Lib.hid h2
      clear hn1 hn2 ht hw h1 h2
      have hz0 : (0 : Int) ≤ ((p : Int) + (q : Int)) / 2 := by omega
      have hz1 : ((p : Int) + (q : Int)) / 2 < (s.length : Int) := by omega
      by_cases hm : t.1 < m
      · go_wp2_with fail
        go_round
        case rel => exact ⟨(p + q) / 2 + 1, q, by omega, hq, by go_num, rfl, Hn1.out hm, H2.out⟩
        case measure => simp [intOf]; omega
      · have hm' : decide (t.1 < m) = false := by simpa using hm
        go_wp2_with fail
        go_round
        case rel => exact ⟨p, (p + q) / 2, by omega, by omega, rfl, by go_num, H1.out, Hn2.out hm⟩
        case measure => simp [intOf]; omega
    · obtain rfl : p = q := by omega
      by_cases hl2 : p < s.length
      · obtain ⟨b, off, rfl, hw, x0, x1⟩ := els_spot HI.out hl2
        have hz0 : (0 : Int) ≤ (p : Int) := by omega
        have hz1 : (p : Int) < (s.length : Int) := by omega
        by_cases he : s[p].1 = m
        · have hf := findS_at hl2 he (fun j hj hjp => by have := h1 j hj hjp; omega)
          have he' : (s[p].1 == m) = true := by simpa using he
          obtain ⟨t, ht⟩ : ∃ t, s[p] = t := ⟨_, rfl⟩
          rw [ht] at hw x0 x1 he' hf
          have HF := Lib.hid hf
          clear hf ht h1 h2 hw he
          go_wp2_with fail
          go_ret
          exact ⟨ret_int HF.out.symm, rfl⟩
        · have hf : findS s m = -1 := findS_no fun t ht e => by
            obtain ⟨j, hj, rfl⟩ := List.getElem_of_mem ht
            by_cases hjp : j < p
            · have := h1 j hj hjp; omega
            · have h3 := h2 p hl2 (Nat.le_refl _)
              have h4 := HM.out p j hl2 hj (by omega)
              omega
          have he' : (s[p].1 == m) = false := by simpa using he
          obtain ⟨t, ht⟩ : ∃ t, s[p] = t := ⟨_, rfl⟩
          rw [ht] at hw x0 x1 he'
          have HF := Lib.hid hf
          clear hf ht h1 h2 hw he
          go_wp2_with fail
          go_ret
          exact ⟨ret_int HF.out.symm, rfl⟩
      · have hf : findS s m = -1 := findS_no fun t ht e => by
          obtain ⟨j, hj, rfl⟩ := List.getElem_of_mem ht
          have := h1 j hj (by omega); omega
        have HF := Lib.hid hf
        clear hf h1 h2
        go_wp2_with fail
        go_ret
        exact ⟨ret_int HF.out.symm, rfl⟩
end Go.Proofs.Ytegjcghcknpjeaa
