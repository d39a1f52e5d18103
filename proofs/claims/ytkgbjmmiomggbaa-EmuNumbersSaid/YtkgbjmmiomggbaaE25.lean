import Derived.Test.YtkgbjmmiomggbaaE24
namespace Go.Proofs.Ytkgbjmmiomggbaa
open Go.RowKit
set_option linter.unusedVariables false
attribute [local go_sem ↓] Go.wp_at_zero Go.wp_at_succ

theorem any_at {code : List Ins} {k : Nat} (hk : k < code.length) (h : code[k].right = false) : (code.any fun i => !i.right) = true := List.any_eq_true.2 ⟨_, List.getElem_mem hk, by simp [h]⟩
theorem any_none {code : List Ins} (h : ∀ j, (hj : j < code.length) → code[j].right = true) : (code.any fun i => !i.right) = false := by
  rw [List.any_eq_false]
  intro x hx
  obtain ⟨k, hk, rfl⟩ := List.getElem_of_mem hx
  simpa using h k hk
theorem goodB_of {code : List Ins} {n : Nat} {most : Int} (h0 : code.length ≤ 32768) (h1 : n ≤ 2097152) (h2 : 0 ≤ most) (h3 : most ≤ 67108864) : goodB code n most = !(code.any fun i => !i.right) := by
  unfold goodB
  rw [decide_eq_true h0, decide_eq_true h1, decide_eq_true h2, decide_eq_true h3]
  rfl
theorem goodB_not {code : List Ins} {n : Nat} {most : Int} (h : 32768 < code.length ∨ 2097152 < n ∨ most < 0 ∨ 67108864 < most) : goodB code n most = false := by
  cases hg : goodB code n most with
  | false => rfl
  | true =>
    obtain ⟨a, b, c, d, _⟩ := good_facts hg
    omega

set_option maxRecDepth 100000 in
set_option maxHeartbeats 8000000 in
theorem rgood_any (w : World) (a : Option Addr) (c n : Nat) (ca : Option Addr) (cc : Nat) (code : List Ins) (most : Int) (he : insRep.Els w ca code) :
    Calls Try.prog 25 #[.slice ca code.length cc, .slice a n c, .int .i64 most] w fun e w' => e = .returned (.bool (goodB code n most)) ∧ Below w.heap.size w w' := by
  by_cases g0 : 32768 < code.length
  · have t0 : decide ((32768 : Int) < (code.length : Int)) = true := by simp; omega
    rw [goodB_not (.inl g0)]
    go_enter Try.func25, Try.ntmps25
    go_wp2_with fail
    go_ret
    exact ⟨rfl, Below.refl _ _⟩
  have t0 : decide ((32768 : Int) < (code.length : Int)) = false := by simp; omega
  by_cases g1 : 2097152 < n
  · have t1 : decide ((2097152 : Int) < (n : Int)) = true := by simp; omega
    rw [goodB_not (.inr (.inl g1))]
    go_enter Try.func25, Try.ntmps25
    go_wp2_with fail
    go_ret
    exact ⟨rfl, Below.refl _ _⟩
  have t1 : decide ((2097152 : Int) < (n : Int)) = false := by simp; omega
  by_cases g2 : most < 0
  · rw [goodB_not (.inr (.inr (.inl g2)))]
    go_enter Try.func25, Try.ntmps25
    go_wp2_with fail
    go_ret
    exact ⟨rfl, Below.refl _ _⟩
  have t2 : decide (most < 0) = false := by simpa using g2
  by_cases g3 : 67108864 < most
  · rw [goodB_not (.inr (.inr (.inr g3)))]
    go_enter Try.func25, Try.ntmps25
    go_wp2_with fail
    go_ret
    exact ⟨rfl, Below.refl _ _⟩
  have t3 : decide (67108864 < most) = false := by simpa using g3
  rw [goodB_of (by omega) (by omega) (by omega) (by omega)]
  have HE := Lib.hid he; clear he
  go_enter Try.func25, Try.ntmps25
  go_wp2_with fail
  clear t0 t1 t2 t3 g2 g3
  go_loopw [7] (fun i wr => ∃ k : Nat, k ≤ code.length ∧ i = .int .i64 k ∧ (∀ j, (hj : j < code.length) → j < k → code[j].right = true) ∧ Below w.heap.size w wr) (fun i _ => code.length - (intOf i).toNat)
  case atStart => exact ⟨0, Nat.zero_le _, rfl, fun j _ h => absurd h (Nat.not_lt_zero j), Below.refl _ _⟩
  case round =>
    obtain ⟨k, hk, rfl, hall, hB⟩ := hrel
    have HALL := Lib.hid hall; have HB := Lib.hid hB
    clear hall hB
    by_cases hlt : k < code.length
    · obtain ⟨b, off, rfl, hw, x0, x1, x2, x3, x4⟩ := els_ins (HE.out.below insRep HB.out (Nat.le_refl _)) hlt
      have hq := rRight_any wr code[k].op code[k].a code[k].b code[k].c code[k].imm hw.op.1 hw.op.2
      have hrule : insRight code[k].op code[k].a code[k].b code[k].c code[k].imm = code[k].right := rfl
      rw [hrule] at hq
      have hz0 : (0 : Int) ≤ (k : Int) := by omega
      have hz1 : (k : Int) < (code.length : Int) := by omega
      cases hR : code[k].right with
      | false =>
        rw [hR] at hq
        have HQ := Lib.hid hq; have HA := Lib.hid (any_at hlt hR)
        clear hq hR hrule hw
        go_wp2_with fail
        refine HQ.out.mono ?_
        rintro e w5 ⟨rfl, hb5⟩
        go_wp2_with fail
        go_ret
        exact ⟨by rw [HA.out]; rfl, bNext hb5 HB.out⟩
      | true =>
        rw [hR] at hq
        have HQ := Lib.hid hq; have HR := Lib.hid hR
        clear hq hR hrule hw
        go_wp2_with fail
        refine HQ.out.mono ?_
        rintro e w5 ⟨rfl, hb5⟩
        go_wp2_with fail
        go_roundw
        case rel => exact ⟨k + 1, by omega, by go_num, fun j hj h => by
          by_cases e : j = k
          · subst e; exact HR.out
          · exact HALL.out j hj (by omega), bNext hb5 HB.out⟩
        case measure => simp [intOf]; omega
    · have HA := Lib.hid (any_none (fun j hj => HALL.out j hj (by omega)))
      go_wp2_with fail
      go_ret
      exact ⟨by rw [HA.out]; rfl, HB.out⟩
end Go.Proofs.Ytkgbjmmiomggbaa
