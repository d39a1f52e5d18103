import Derived.Test.YtabodlhlanolcaaA13
namespace Go.Proofs.Ytabodlhlanolcaa
set_option maxRecDepth 100000
open Go.RowKit
set_option linter.unusedVariables false
set_option linter.unusedSimpArgs false
attribute [local go_sem ↓] Go.wp_at_zero Go.wp_at_succ

def bothB (V : Nat) (p : List Mono) : Bool := ownB V p && growsB p
def growB (V : Nat) (l : List (List Mono)) : Bool := decide (l.length ≤ 4) && l.all (bothB V)
theorem grow_bad {V : Nat} {l : List (List Mono)} {i : Nat} (hi : i < l.length) (h : bothB V l[i] = false) : growB V l = false := by
  unfold growB
  rw [show l.all (bothB V) = false from List.all_eq_false.2 ⟨_, List.getElem_mem hi, by simp [h]⟩, Bool.and_false]
theorem grow_long {V : Nat} {l : List (List Mono)} (h : 4 < l.length) : growB V l = false := by
  unfold growB
  rw [decide_eq_false (by omega)]
  rfl
theorem grow_good {V : Nat} {l : List (List Mono)} (h : ∀ i, (hi : i < l.length) → bothB V l[i] = true) : growB V l = decide (l.length ≤ 4) := by
  unfold growB
  rw [show l.all (bothB V) = true from List.all_eq_true.2 fun m hm => by
    obtain ⟨i, hi, rfl⟩ := List.getElem_of_mem hm
    exact h i hi, Bool.and_true]

set_option maxHeartbeats 8000000 in
theorem grow_any (w : World) (a : Option Addr) (c : Nat) (l : List (List Mono)) (V : Nat) (hV : V ≤ 6) (h : polyRep.Els w a l) (hm : l.length ≤ 9223372036854775807) :
    Calls Try.prog 22 #[.slice a l.length c, .int .i64 (V : Int)] w fun e w' => e = .returned (.bool (growB V l)) ∧ Below w.heap.size w w' := by
  have HE := Lib.hid h
  clear h
  go_enter Try.func22, Try.ntmps22
  go_wp2_with fail
  go_loopw [9] (fun i wr => ∃ k : Nat, k ≤ l.length ∧ i = .int .i64 k ∧ (∀ j, (hj : j < l.length) → j < k → bothB V l[j] = true) ∧ Below w.heap.size w wr) (fun i _ => l.length - (intOf i).toNat)
  case atStart => exact ⟨0, Nat.zero_le _, rfl, fun j _ h => absurd h (Nat.not_lt_zero j), Below.refl _ _⟩
  case round =>
    obtain ⟨i, hi, rfl, hall, hB⟩ := hrel
    have HALL := Lib.hid hall; have HB := Lib.hid hB
    clear hall hB
    have hz0 : (0 : Int) ≤ (i : Int) := by omega
    by_cases hlt : i < l.length
    · obtain ⟨b, off, v, rfl, x0, hs⟩ := els_list (HE.out.below polyRep HB.out (Nat.le_refl _)) hlt
      have hz1 : (i : Int) < (l.length : Int) := by omega
      obtain ⟨pa, pc, rfl, hpl, hpe⟩ := Rep.Sl.form hs
      have hof := of_any wr pa pc l[i] V hV hpe hpl
      have hgr := fun W (hb : Below wr.heap.size wr W) => grows_any W pa pc l[i] (hpe.below monoRep hb (Nat.le_refl _)) hpl
      have hbo : bothB V l[i] = (ownB V l[i] && growsB l[i]) := rfl
      cases ho : ownB V l[i] with
      | false =>
        rw [ho] at hof hbo
        have HOF := Lib.hid hof
        have HG := Lib.hid (grow_bad hlt (hbo.trans (Bool.false_and _)))
        clear hof hgr hbo ho hs hpe
        go_wp2_with (go_at_call 41; refine HOF.out.mono ?_; rintro e w1 ⟨rfl, hb1⟩)
        go_ret
        exact ⟨ret_bool HG.out.symm, bNext hb1 HB.out⟩
      | true =>
        rw [ho] at hof hbo
        rw [Bool.true_and] at hbo
        have HOF := Lib.hid hof
        clear hof hs hpe ho
        cases hg : growsB l[i] with
        | false =>
          rw [hg] at hgr hbo
          have HGR := Lib.hid hgr
          have HG := Lib.hid (grow_bad hlt hbo)
          clear hgr hbo hg
          go_wp2_with fail
          refine HOF.out.mono ?_
          rintro e w1 ⟨rfl, hb1⟩
          go_wp2_with fail
          refine (HGR.out _ hb1).mono ?_
          rintro e w2 ⟨rfl, hb2⟩
          go_wp2_with fail
          go_ret
          exact ⟨ret_bool HG.out.symm, bNext (bNext hb2 hb1) HB.out⟩
        | true =>
          rw [hg] at hgr hbo
          have HGR := Lib.hid hgr
          have HBO := Lib.hid hbo
          clear hgr hbo hg
          go_wp2_with fail
          refine HOF.out.mono ?_
          rintro e w1 ⟨rfl, hb1⟩
          go_wp2_with fail
          refine (HGR.out _ hb1).mono ?_
          rintro e w2 ⟨rfl, hb2⟩
          go_wp2_with fail
          go_roundw
          case rel => exact ⟨i + 1, by omega, by go_num, fun j hj h => by
            by_cases ej : j = i
            · subst ej; exact HBO.out
            · exact HALL.out j hj (by omega), bNext (bNext hb2 hb1) HB.out⟩
          case measure => simp [intOf]; omega
    · have HG := Lib.hid (grow_good (V := V) (l := l) (fun j hj => HALL.out j hj (by omega)))
      by_cases hl4 : l.length ≤ 4
      · have hd : decide ((l.length : Int) ≤ 4) = true := by simp; omega
        have HG2 := Lib.hid (HG.out.trans (decide_eq_true hl4))
        go_wp2_with fail
        go_ret
        exact ⟨ret_bool HG2.out.symm, HB.out⟩
      · have hd : decide ((l.length : Int) ≤ 4) = false := by simp; omega
        have HG2 := Lib.hid (HG.out.trans (decide_eq_false hl4))
        clear hl4
        go_wp2_with fail
        go_ret
        exact ⟨ret_bool HG2.out.symm, HB.out⟩

set_option maxHeartbeats 8000000 in
theorem rgrow_any (w : World) (a : Option Addr) (c : Nat) (l : List (List Mono)) (V : Nat) (hV : V ≤ 6) (h : polyRep.Els w a l) (hm : l.length ≤ 9223372036854775807) :
    Calls Try.prog 26 #[.slice a l.length c, .int .i64 (V : Int)] w fun e w' => e = .returned (.bool (growB V l)) ∧ Below w.heap.size w w' := by
  have HE := Lib.hid h
  clear h
  by_cases hl4 : 4 < l.length
  · have hd : decide ((4 : Int) < (l.length : Int)) = true := by simp; omega
    have HG := Lib.hid (grow_long (V := V) hl4)
    go_enter Try.func26, Try.ntmps26
    go_wp2_with fail
    go_ret
    exact ⟨ret_bool HG.out.symm, Below.refl _ _⟩
  have hd : decide ((4 : Int) < (l.length : Int)) = false := by simp; omega
  have hl4' : l.length ≤ 4 := by omega
  clear hl4
  go_enter Try.func26, Try.ntmps26
  go_wp2_with fail
  clear hd
  go_loopw [5] (fun i wr => ∃ k : Nat, k ≤ l.length ∧ i = .int .i64 k ∧ (∀ j, (hj : j < l.length) → j < k → bothB V l[j] = true) ∧ Below w.heap.size w wr) (fun i _ => l.length - (intOf i).toNat)
  case atStart => exact ⟨0, Nat.zero_le _, rfl, fun j _ h => absurd h (Nat.not_lt_zero j), Below.refl _ _⟩
  case round =>
    obtain ⟨i, hi, rfl, hall, hB⟩ := hrel
    have HALL := Lib.hid hall; have HB := Lib.hid hB
    clear hall hB
    have hz0 : (0 : Int) ≤ (i : Int) := by omega
    by_cases hlt : i < l.length
    · obtain ⟨b, off, v, rfl, x0, hs⟩ := els_list (HE.out.below polyRep HB.out (Nat.le_refl _)) hlt
      have hz1 : (i : Int) < (l.length : Int) := by omega
      obtain ⟨pa, pc, rfl, hpl, hpe⟩ := Rep.Sl.form hs
      have hof := rown_any wr pa pc l[i] V hV hpe hpl
      have hgr := fun W (hb : Below wr.heap.size wr W) => rgrows_any W pa pc l[i] (hpe.below monoRep hb (Nat.le_refl _)) hpl
      have hbo : bothB V l[i] = (ownB V l[i] && growsB l[i]) := rfl
      cases ho : ownB V l[i] with
      | false =>
        rw [ho] at hof hbo
        have HOF := Lib.hid hof
        have HG := Lib.hid (grow_bad hlt (hbo.trans (Bool.false_and _)))
        clear hof hgr hbo ho hs hpe
        go_wp2_with (go_at_call 46; refine HOF.out.mono ?_; rintro e w1 ⟨rfl, hb1⟩)
        go_ret
        exact ⟨ret_bool HG.out.symm, bNext hb1 HB.out⟩
      | true =>
        rw [ho] at hof hbo
        rw [Bool.true_and] at hbo
        have HOF := Lib.hid hof
        clear hof hs hpe ho
        cases hg : growsB l[i] with
        | false =>
          rw [hg] at hgr hbo
          have HGR := Lib.hid hgr
          have HG := Lib.hid (grow_bad hlt hbo)
          clear hgr hbo hg
          go_wp2_with fail
          refine HOF.out.mono ?_
          rintro e w1 ⟨rfl, hb1⟩
          have x0' := keepCell hb1 x0
          clear x0
          go_wp2_with fail
          refine (HGR.out _ hb1).mono ?_
          rintro e w2 ⟨rfl, hb2⟩
          go_wp2_with fail
          go_ret
          exact ⟨ret_bool HG.out.symm, bNext (bNext hb2 hb1) HB.out⟩
        | true =>
          rw [hg] at hgr hbo
          have HGR := Lib.hid hgr
          have HBO := Lib.hid hbo
          clear hgr hbo hg
          go_wp2_with fail
          refine HOF.out.mono ?_
          rintro e w1 ⟨rfl, hb1⟩
          have x0' := keepCell hb1 x0
          clear x0
          go_wp2_with fail
          refine (HGR.out _ hb1).mono ?_
          rintro e w2 ⟨rfl, hb2⟩
          go_wp2_with fail
          go_roundw
          case rel => exact ⟨i + 1, by omega, by go_num, fun j hj h => by
            by_cases ej : j = i
            · subst ej; exact HBO.out
            · exact HALL.out j hj (by omega), bNext (bNext hb2 hb1) HB.out⟩
          case measure => simp [intOf]; omega
    · have HG2 := Lib.hid ((grow_good (V := V) (l := l) (fun j hj => HALL.out j hj (by omega))).trans (decide_eq_true hl4'))
      go_wp2_with fail
      go_ret
      exact ⟨ret_bool HG2.out.symm, HB.out⟩
end Go.Proofs.Ytabodlhlanolcaa
