import Derived.Test.YtabodlhlanolcaaA14
namespace Go.Proofs.Ytabodlhlanolcaa
set_option maxRecDepth 100000
open Go.RowKit
set_option linter.unusedVariables false
set_option linter.unusedSimpArgs false
attribute [local go_sem ↓] Go.wp_at_zero Go.wp_at_succ

/-- how many numbers an operation takes -/
def takesI (how : Int) : Int := if how = 1 ∨ how = 2 ∨ how = 3 then 0 else if how = 4 ∨ how = 5 then 1 else if how = 6 then 2 else -1
theorem takesI_range (h : Int) : -1 ≤ takesI h ∧ takesI h ≤ 2 := by unfold takesI; split <;> (try split) <;> (try split) <;> omega
def depthK : List Cop → Int → Int → Int
  | [], now, most => if now = 1 then most else -1
  | o :: r, now, most => if takesI o.how < 0 ∨ now < takesI o.how then -1 else depthK r (now + (1 - takesI o.how)) (max most (now + (1 - takesI o.how)))
def depthI (l : List Cop) : Int := depthK l 0 0
theorem depthK_step {l : List Cop} {k : Nat} (h : k < l.length) (now most : Int) : depthK (l.drop k) now most = if takesI l[k].how < 0 ∨ now < takesI l[k].how then -1 else depthK (l.drop (k + 1)) (now + (1 - takesI l[k].how)) (max most (now + (1 - takesI l[k].how))) := by rw [List.drop_eq_getElem_cons h, depthK]
set_option maxHeartbeats 4000000 in
theorem ctakes_any (w : World) (how k n fn : Int) (a : Option Addr) (l c : Nat) : Calls Try.prog 33 #[.agg #[.int .i64 how, .int .i64 k, .int .i64 n, .slice a l c, .int .u8 fn]] w fun e w' => e = .returned (.int .i64 (takesI how)) ∧ Below w.heap.size w w' := by
  by_cases h0 : how = 1 ∨ how = 2 ∨ how = 3 ∨ how = 4 ∨ how = 5 ∨ how = 6
  · rcases h0 with rfl | rfl | rfl | rfl | rfl | rfl
    all_goals
      go_enter Try.func33, Try.ntmps33
      go_wp2_with fail
      go_ret
      exact ⟨ret_int rfl, (Below.refl _ _).alloc (Nat.le_refl _) _⟩
  have HV := Lib.hid (show takesI how = -1 from by unfold takesI; rw [if_neg (by omega), if_neg (by omega), if_neg (by omega)])
  have g1 : (how == 1) = false := by simp; omega
  have g2 : (how == 2) = false := by simp; omega
  have g3 : (how == 3) = false := by simp; omega
  have g4 : (how == 4) = false := by simp; omega
  have g5 : (how == 5) = false := by simp; omega
  have g6 : (how == 6) = false := by simp; omega
  clear h0
  go_enter Try.func33, Try.ntmps33
  go_wp2_with fail
  go_ret
  exact ⟨ret_int HV.out.symm, (Below.refl _ _).alloc (Nat.le_refl _) _⟩
set_option maxHeartbeats 4000000 in
theorem rctakes_any (w : World) (how k n fn : Int) (a : Option Addr) (l c : Nat) : Calls Try.prog 38 #[.agg #[.int .i64 how, .int .i64 k, .int .i64 n, .slice a l c, .int .u8 fn]] w fun e w' => e = .returned (.int .i64 (takesI how)) ∧ Below w.heap.size w w' := by
  by_cases h0 : how = 1 ∨ how = 2 ∨ how = 3 ∨ how = 4 ∨ how = 5 ∨ how = 6
  · rcases h0 with rfl | rfl | rfl | rfl | rfl | rfl
    all_goals
      go_enter Try.func38, Try.ntmps38
      go_wp2_with fail
      go_ret
      exact ⟨ret_int rfl, (Below.refl _ _).alloc (Nat.le_refl _) _⟩
  have HV := Lib.hid (show takesI how = -1 from by unfold takesI; rw [if_neg (by omega), if_neg (by omega), if_neg (by omega)])
  have g1 : (how == 1) = false := by simp; omega
  have g2 : (how == 2) = false := by simp; omega
  have g3 : (how == 3) = false := by simp; omega
  have g4 : (how == 4) = false := by simp; omega
  have g5 : (how == 5) = false := by simp; omega
  have g6 : (how == 6) = false := by simp; omega
  clear h0
  go_enter Try.func38, Try.ntmps38
  go_wp2_with fail
  go_ret
  exact ⟨ret_int HV.out.symm, (Below.refl _ _).alloc (Nat.le_refl _) _⟩
set_option maxHeartbeats 16000000 in
theorem depth_any (w : World) (a : Option Addr) (c : Nat) (l : List Cop) (h : copRep.Els w a l) (hm : l.length ≤ 9223372036854775807) :
    Calls Try.prog 14 #[.slice a l.length c] w fun e w' => e = .returned (.int .i64 (depthI l)) ∧ Below w.heap.size w w' := by
  have HE := Lib.hid h
  clear h
  go_enter Try.func14, Try.ntmps14
  go_wp2_with fail
  go_loopw [3, 4, 10] (fun m n i wr => ∃ (k : Nat) (mo no : Int), k ≤ l.length ∧ i = .int .i64 k ∧ m = .int .i64 mo ∧ n = .int .i64 no ∧ depthI l = depthK (l.drop k) no mo ∧ 0 ≤ no ∧ no ≤ k ∧ 0 ≤ mo ∧ mo ≤ k ∧ Below w.heap.size w wr) (fun _ _ i _ => l.length - (intOf i).toNat)
  case atStart => exact ⟨0, 0, 0, Nat.zero_le _, rfl, rfl, rfl, rfl, by omega, by omega, by omega, by omega, Below.refl _ _⟩
  case round =>
    obtain ⟨k, mo, no, hk, rfl, rfl, rfl, hd, hn0, hn1, hm0, hm1, hB⟩ := hrel
    have HD := Lib.hid hd; have HB := Lib.hid hB
    clear hd hB
    have hz0 : (0 : Int) ≤ (k : Int) := by omega
    by_cases hlt : k < l.length
    · have hz1 : (k : Int) < (l.length : Int) := by omega
      obtain ⟨b, off, cs, rfl, ⟨v, rfl, hs, hh, -⟩, hc⟩ := (HE.out.below copRep HB.out (Nat.le_refl _)) k hlt
      have x0 := hc 0 _ rfl; have x1 := hc 1 _ rfl; have x2 := hc 2 _ rfl; have x3 := hc 3 _ rfl; have x4 := hc 4 _ rfl
      simp only [show copRep.n = 5 from rfl, Nat.add_zero] at x0 x1 x2 x3 x4
      obtain ⟨va, vc, rfl⟩ := hs.form0
      have hst := depthK_step hlt no mo
      have hq := fun W => ctakes_any W l[k].how l[k].k l[k].n l[k].fn va l[k].p.length vc
      have hrg := takesI_range l[k].how
      obtain ⟨t, ht⟩ : ∃ t, takesI l[k].how = t := ⟨_, rfl⟩
      rw [ht] at hst hq hrg
      have HQ := Lib.hid hq; have HST := Lib.hid (HD.out.trans hst)
      obtain ⟨hr0, hr1⟩ := hrg
      clear hst hq ht hc hs hh
      by_cases ht0 : t < 0
      · have HG := Lib.hid (HST.out.trans (if_pos (.inl ht0)))
        go_wp2_with fail
        refine (HQ.out _).mono ?_
        rintro e w1 ⟨rfl, hb1⟩
        have hB1 := Lib.hid (HB.out.trans ((((Below.refl wr.heap.size wr).alloc (Nat.le_refl _) _).trans (hb1.mono (by simp))).mono HB.out.size))
        go_wp2_with fail
        go_ret
        exact ⟨ret_int HG.out.symm, hB1.out⟩
      have ht0' : decide (t < 0) = false := by simpa using ht0
      by_cases hnt : no < t
      · have HG := Lib.hid (HST.out.trans (if_pos (.inr hnt)))
        go_wp2_with fail
        refine (HQ.out _).mono ?_
        rintro e w1 ⟨rfl, hb1⟩
        have hB1 := Lib.hid (HB.out.trans ((((Below.refl wr.heap.size wr).alloc (Nat.le_refl _) _).trans (hb1.mono (by simp))).mono HB.out.size))
        go_wp2_with fail
        go_ret
        exact ⟨ret_int HG.out.symm, hB1.out⟩
      have hnt' : decide (no < t) = false := by simpa using hnt
      have HG := Lib.hid (HST.out.trans (if_neg (by omega)))
      have hn2 : 0 ≤ no + (1 - t) := by omega
      have hn3 : no + (1 - t) ≤ (k : Int) + 1 := by omega
      clear hnt ht0 HST
      by_cases hmx : mo < no + (1 - t)
      · have HG2 : Hid (depthI l = depthK (l.drop (k + 1)) (no + (1 - t)) (no + (1 - t))) := Lib.hid (HG.out.trans (by rw [Int.max_eq_right (by omega)]))
        go_wp2_with fail
        refine (HQ.out _).mono ?_
        rintro e w1 ⟨rfl, hb1⟩
        have hB1 := Lib.hid (HB.out.trans ((((Below.refl wr.heap.size wr).alloc (Nat.le_refl _) _).trans (hb1.mono (by simp))).mono HB.out.size))
        go_wp2_with fail
        go_roundw
        case rel => exact ⟨k + 1, no + (1 - t), no + (1 - t), by omega, by go_num, rfl, rfl, HG2.out, by omega, by omega, by omega, by omega, hB1.out⟩
        case measure => simp [intOf]; omega
      · have hmx' : decide (mo < no + (1 - t)) = false := by simpa using hmx
        have HG2 : Hid (depthI l = depthK (l.drop (k + 1)) (no + (1 - t)) mo) := Lib.hid (HG.out.trans (by rw [Int.max_eq_left (by omega)]))
        go_wp2_with fail
        refine (HQ.out _).mono ?_
        rintro e w1 ⟨rfl, hb1⟩
        have hB1 := Lib.hid (HB.out.trans ((((Below.refl wr.heap.size wr).alloc (Nat.le_refl _) _).trans (hb1.mono (by simp))).mono HB.out.size))
        go_wp2_with fail
        go_roundw
        case rel => exact ⟨k + 1, mo, no + (1 - t), by omega, by go_num, rfl, rfl, HG2.out, by omega, by omega, by omega, by omega, hB1.out⟩
        case measure => simp [intOf]; omega
    · obtain rfl : k = l.length := by omega
      by_cases h1 : no = 1
      · have HG := Lib.hid (HD.out.trans (by rw [List.drop_length, depthK, if_pos h1]))
        subst h1
        go_wp2_with fail
        go_ret
        exact ⟨ret_int HG.out.symm, HB.out⟩
      · have HG := Lib.hid (HD.out.trans (by rw [List.drop_length, depthK, if_neg h1]))
        have h1' : (no == 1) = false := by simpa using h1
        go_wp2_with fail
        go_ret
        exact ⟨ret_int HG.out.symm, HB.out⟩
set_option maxHeartbeats 16000000 in
theorem rdepth_any (w : World) (a : Option Addr) (c : Nat) (l : List Cop) (h : copRep.Els w a l) (hm : l.length ≤ 9223372036854775807) :
    Calls Try.prog 18 #[.slice a l.length c] w fun e w' => e = .returned (.int .i64 (depthI l)) ∧ Below w.heap.size w w' := by
  have HE := Lib.hid h
  clear h
  go_enter Try.func18, Try.ntmps18
  go_wp2_with fail
  go_loopw [3, 4, 5] (fun n m i wr => ∃ (k : Nat) (mo no : Int), k ≤ l.length ∧ i = .int .i64 k ∧ m = .int .i64 mo ∧ n = .int .i64 no ∧ depthI l = depthK (l.drop k) no mo ∧ 0 ≤ no ∧ no ≤ k ∧ 0 ≤ mo ∧ mo ≤ k ∧ Below w.heap.size w wr) (fun _ _ i _ => l.length - (intOf i).toNat)
  case atStart => exact ⟨0, 0, 0, Nat.zero_le _, rfl, rfl, rfl, rfl, by omega, by omega, by omega, by omega, Below.refl _ _⟩
  case round =>
    obtain ⟨k, mo, no, hk, rfl, rfl, rfl, hd, hn0, hn1, hm0, hm1, hB⟩ := hrel
    have HD := Lib.hid hd; have HB := Lib.hid hB
    clear hd hB
    have hz0 : (0 : Int) ≤ (k : Int) := by omega
    by_cases hlt : k < l.length
    · have hz1 : (k : Int) < (l.length : Int) := by omega
      obtain ⟨b, off, cs, rfl, ⟨v, rfl, hs, hh, -⟩, hc⟩ := (HE.out.below copRep HB.out (Nat.le_refl _)) k hlt
      have x0 := hc 0 _ rfl; have x1 := hc 1 _ rfl; have x2 := hc 2 _ rfl; have x3 := hc 3 _ rfl; have x4 := hc 4 _ rfl
      simp only [show copRep.n = 5 from rfl, Nat.add_zero] at x0 x1 x2 x3 x4
      obtain ⟨va, vc, rfl⟩ := hs.form0
      have hst := depthK_step hlt no mo
      have hq := fun W => rctakes_any W l[k].how l[k].k l[k].n l[k].fn va l[k].p.length vc
      have hrg := takesI_range l[k].how
      obtain ⟨t, ht⟩ : ∃ t, takesI l[k].how = t := ⟨_, rfl⟩
      rw [ht] at hst hq hrg
      have HQ := Lib.hid hq; have HST := Lib.hid (HD.out.trans hst)
      obtain ⟨hr0, hr1⟩ := hrg
      clear hst hq ht hc hs hh
      by_cases ht0 : t < 0
      · have HG := Lib.hid (HST.out.trans (if_pos (.inl ht0)))
        go_wp2_with fail
        refine (HQ.out _).mono ?_
        rintro e w1 ⟨rfl, hb1⟩
        have hB1 := Lib.hid (HB.out.trans ((hb1).mono HB.out.size))
        go_wp2_with fail
        go_ret
        exact ⟨ret_int HG.out.symm, hB1.out⟩
      have ht0' : decide (t < 0) = false := by simpa using ht0
      by_cases hnt : no < t
      · have HG := Lib.hid (HST.out.trans (if_pos (.inr hnt)))
        go_wp2_with fail
        refine (HQ.out _).mono ?_
        rintro e w1 ⟨rfl, hb1⟩
        have hB1 := Lib.hid (HB.out.trans ((hb1).mono HB.out.size))
        go_wp2_with fail
        go_ret
        exact ⟨ret_int HG.out.symm, hB1.out⟩
      have hnt' : decide (no < t) = false := by simpa using hnt
      have HG := Lib.hid (HST.out.trans (if_neg (by omega)))
      have hn2 : 0 ≤ no + (1 - t) := by omega
      have hn3 : no + (1 - t) ≤ (k : Int) + 1 := by omega
      clear hnt ht0 HST
      by_cases hmx : mo < no - t + 1
      · have HG2 : Hid (depthI l = depthK (l.drop (k + 1)) (no + (1 - t)) (no + (1 - t))) := Lib.hid (HG.out.trans (by rw [Int.max_eq_right (by omega)]))
        go_wp2_with fail
        refine (HQ.out _).mono ?_
        rintro e w1 ⟨rfl, hb1⟩
        have hB1 := Lib.hid (HB.out.trans ((hb1).mono HB.out.size))
        go_wp2_with fail
        go_roundw
        case rel => exact ⟨k + 1, no + (1 - t), no + (1 - t), by omega, by go_num, by rw [show no - t + 1 = no + (1 - t) from by omega], by rw [show no - t + 1 = no + (1 - t) from by omega], HG2.out, by omega, by omega, by omega, by omega, hB1.out⟩
        case measure => simp [intOf]; omega
      · have hmx' : decide (mo < no - t + 1) = false := by simpa using hmx
        have HG2 : Hid (depthI l = depthK (l.drop (k + 1)) (no + (1 - t)) mo) := Lib.hid (HG.out.trans (by rw [Int.max_eq_left (by omega)]))
        go_wp2_with fail
        refine (HQ.out _).mono ?_
        rintro e w1 ⟨rfl, hb1⟩
        have hB1 := Lib.hid (HB.out.trans ((hb1).mono HB.out.size))
        go_wp2_with fail
        go_roundw
        case rel => exact ⟨k + 1, mo, no + (1 - t), by omega, by go_num, rfl, by rw [show no - t + 1 = no + (1 - t) from by omega], HG2.out, by omega, by omega, by omega, by omega, hB1.out⟩
        case measure => simp [intOf]; omega
    · obtain rfl : k = l.length := by omega
      by_cases h1 : no = 1
      · have HG := Lib.hid (HD.out.trans (by rw [List.drop_length, depthK, if_pos h1]))
        subst h1
        go_wp2_with fail
        go_ret
        exact ⟨ret_int HG.out.symm, HB.out⟩
      · have HG := Lib.hid (HD.out.trans (by rw [List.drop_length, depthK, if_neg h1]))
        have h1' : (no == 1) = false := by simpa using h1
        go_wp2_with fail
        go_ret
        exact ⟨ret_int HG.out.symm, HB.out⟩
end Go.Proofs.Ytabodlhlanolcaa
