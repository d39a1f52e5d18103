import Derived.Test.YtiogopichcnihaaW2
namespace Go.Proofs.Ytiogopichcnihaa
set_option maxRecDepth 100000
open Go.RowKit

theorem prodTo_zero (xs : List Int) : xs.any ((0 : Int) == ·) = true → 4 ≥ xs.length → xs.any badSide = false → size xs = (0, 0) := by
  intro h h4 hb
  unfold size
  rw [if_neg (by omega), if_neg (by rw [hb]; simp), if_pos h]

/-- 0, if one of the sides is 0, else 1 -/
def oneZ (l : List Int) : Int := if l.any ((0 : Int) == ·) then 0 else 1

theorem oneZ_succ {xs : List Int} {k : Nat} (hk : k < xs.length) : oneZ (xs.take (k + 1)) = if xs[k] = 0 then 0 else oneZ (xs.take k) := by
  unfold oneZ
  rw [any_take_succ hk]
  by_cases h : xs[k] = 0
  · simp [h]
  · have : ((0 : Int) == xs[k]) = false := by simpa using fun e => h e.symm
    simp [h, this]

set_option maxHeartbeats 1000000 in
theorem rsize_any (w : World) (a : Option Addr) (cap : Nat) (xs : List Int) (hm : xs.length ≤ maxLen) (h : IntsAt .i64 w a xs) :
    Calls Try.prog 53 #[.slice a xs.length cap] w fun e w' => e = two (size xs) ∧ w = w' := by
  have hsz : size xs = size xs := rfl
  conv at hsz => rhs; unfold size
  have Hsz := Lib.hid hsz; clear hsz
  unfold maxLen at hm
  by_cases h4 : (4 : Int) < (xs.length : Int)
  · clear h
    go_enter Try.func53, Try.ntmps53
    go_wp2
    go_ret2
    exact ⟨ret_two (by rw [Hsz.out, if_pos (by omega)]), rfl⟩
  · have h4' : decide ((4 : Int) < (xs.length : Int)) = false := by simpa using h4
    have HI := Lib.hid h; clear h
    go_enter Try.func53, Try.ntmps53
    go_wp2
    go_loop [4, 5] (fun n i => ∃ (k : Nat), k ≤ xs.length ∧ i = .int .i64 k ∧ n = .int .i64 (oneZ (xs.take k)) ∧ (xs.take k).any badSide = false) (fun _ i => xs.length - (intOf i).toNat)
    case atStart => exact ⟨0, Nat.zero_le _, rfl, rfl, rfl⟩
    case round =>
      obtain ⟨k, hk, rfl, rfl, hr⟩ := hrel
      by_cases hlt : k < xs.length
      · obtain ⟨b, off, rfl, hcell⟩ := HI.out k hlt
        have hon := oneZ_succ hlt
        have hat := any_take_succ (p := badSide) hlt
        rw [hr] at hat
        have Hon := Lib.hid hon; have Hr := Lib.hid hr; have Hat := Lib.hid hat; clear hr hon hat
        by_cases hneg : xs[k] < 0
        · go_wp2
          go_ret2
          exact ⟨ret_two (size_bad (List.any_eq_true.2 ⟨xs[k], List.getElem_mem hlt, by simp [badSide, hneg]⟩)), rfl⟩
        · by_cases hbig : 65536 < xs[k]
          · go_wp2
            go_ret2
            exact ⟨ret_two (size_bad (List.any_eq_true.2 ⟨xs[k], List.getElem_mem hlt, by simp [badSide, hbig]⟩)), rfl⟩
          · have hbs : badSide xs[k] = false := by simp [badSide]; omega
            have Hbs := Lib.hid hbs; clear hbs
            by_cases h0 : xs[k] = 0
            · have h0' : (xs[k] == 0) = true := by simpa using h0
              have H0 := Lib.hid h0; clear h0
              go_wp2
              go_round
              case rel => exact ⟨k + 1, by omega, by go_num, by rw [Hon.out, if_pos H0.out], by rw [Hat.out, Hbs.out]; rfl⟩
              case measure => simp [intOf]; omega
            · have h0' : (xs[k] == 0) = false := by simpa using h0
              go_wp2
              go_round
              case rel => exact ⟨k + 1, by omega, by go_num, by rw [Hon.out, if_neg h0], by rw [Hat.out, Hbs.out]; rfl⟩
              case measure => simp [intOf]; omega
      · have hk' : k = xs.length := by omega
        subst hk'
        rw [List.take_length] at *
        have Hb := Lib.hid hr; clear hr
        cases hz : xs.any ((0 : Int) == ·) with
        | true =>
          have Hz := Lib.hid hz; clear hz
          have hone : oneZ xs = 0 := by unfold oneZ; rw [if_pos Hz.out]
          rw [hone]
          clear hone
          go_wp2
          go_loop [4, 6] (fun n i => n = .int .i64 0 ∧ i = .int .i64 0) (fun _ _ => 0)
          case atStart => exact ⟨rfl, rfl⟩
          case round =>
            obtain ⟨rfl, rfl⟩ := hrel
            have Hfin : Hid (size xs = (0, 0)) := prodTo_zero xs Hz.out (by omega) Hb.out
            by_cases h0l : (0 : Int) < (xs.length : Int)
            · go_wp2
              go_ret2
              exact ⟨ret_two Hfin.out, rfl⟩
            · have h0l' : decide ((0 : Int) < (xs.length : Int)) = false := by simpa using h0l
              go_wp2
              go_ret2
              exact ⟨ret_two Hfin.out, rfl⟩
        | false =>
          have Hsz2 : Hid (size xs = prodTo 1 xs) := by
            unfold Hid; rw [Hsz.out, if_neg (by omega), if_neg (by rw [Hb.out]; simp), if_neg (by rw [hz]; simp)]
          have Hz := Lib.hid hz; clear hz
          have hone : oneZ xs = 1 := by unfold oneZ; rw [if_neg (by rw [Hz.out]; simp)]
          rw [hone]
          clear hone
          go_wp2
          go_loop [4, 6] (fun n i => ∃ (k : Nat) (m : Int), k ≤ xs.length ∧ i = .int .i64 k ∧ n = .int .i64 m ∧ 0 < m ∧ m ≤ 65536 ∧ size xs = prodTo m (xs.drop k)) (fun _ i => xs.length - (intOf i).toNat)
          case atStart => exact ⟨0, 1, Nat.zero_le _, rfl, rfl, by omega, by omega, by simpa using Hsz2.out⟩
          case round =>
            obtain ⟨k, m, hk, rfl, rfl, hm0, hm1, hr⟩ := hrel
            by_cases hlt : k < xs.length
            · obtain ⟨b, off, rfl, hcell⟩ := HI.out k hlt
              rw [prodTo_step hlt] at hr
              obtain ⟨hs0, hs1⟩ := badSide_false (any_false_get Hb.out k hlt)
              have hsn : 0 < xs[k] := by have := any_false_get Hz.out k hlt; simp at this; omega
              obtain ⟨hp0, hp1⟩ := mul_bd (by omega) hm1 hs0 hs1
              have hpp := Int.mul_pos hm0 hsn
              have Hr := Lib.hid hr; clear hr
              by_cases hgt : 65536 < m * xs[k]
              · go_wp2
                go_ret2
                exact ⟨ret_two (by rw [Hr.out, if_pos hgt]), rfl⟩
              · go_wp2
                go_round
                case rel => exact ⟨k + 1, m * xs[k], by omega, by go_num, rfl, hpp, by omega, by rw [Hr.out, if_neg hgt]⟩
                case measure => simp [intOf]; omega
            · have Hr := Lib.hid hr; clear hr
              have hlt' : decide ((k : Int) < (xs.length : Int)) = false := by simpa using hlt
              go_wp2
              go_ret2
              exact ⟨ret_two (by rw [Hr.out, List.drop_eq_nil_of_le (by omega)]; rfl), rfl⟩
end Go.Proofs.Ytiogopichcnihaa
