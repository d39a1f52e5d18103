import Derived.Test.YtmjkncmpanhgjaaPA1
namespace Go.Proofs.Ytmjkncmpanhgjaa
set_option linter.unusedVariables false
set_option linter.unusedSimpArgs false
set_option maxRecDepth 100000
open Go.RowKit

set_option maxHeartbeats 400000 in
theorem size1_any (w : World) (s : Int) : Calls Try.prog 83 #[.int .i64 s] w fun e w' => e = .returned (.bool (badSide s)) ∧ w = w' := by
  by_cases h : s < 0
  · go_enter Try.func83, Try.ntmps83
    go_wp2
    go_ret
    exact ⟨ret_bool (by simp [badSide, h]), rfl⟩
  · have h' : decide (s < 0) = false := by simpa using h
    go_enter Try.func83, Try.ntmps83
    go_wp2
    go_ret
    exact ⟨ret_bool (by simp only [badSide, h']; rfl), rfl⟩

theorem size1_all (xs : List Int) (w : World) : ∀ x ∈ xs, ∀ w', Below w.heap.size w w' → Calls Try.prog 83 (#[.int .i64 x] ++ #[]) w' fun e w'' => e = .returned (.bool (badSide x)) ∧ Below w.heap.size w' w'' :=
  fun x _ w' _ => (size1_any w' x).mono fun _ _ ⟨he, hw⟩ => ⟨he, hw ▸ Below.refl _ _⟩

theorem size1_in (args : Array Value) (w : World) : (callFunc 83 args).run Try.prog w = .ok (.enter 83 args) w :=
  callFunc_enter Try.func83 (by kernel_rfl) rfl args w

set_option maxHeartbeats 800000 in
theorem size_any (w : World) (a : Option Addr) (cap : Nat) (xs : List Int) (hm : xs.length ≤ maxLen) (h : IntsAt .i64 w a xs) :
    Calls Try.prog 60 #[.slice a xs.length cap] w fun e w' => e = two (size xs) ∧ Below w.heap.size w w' := by
  have hq := containsFunc_any w a cap xs 83 #[] badSide size1_in hm h (size1_all xs w)
  have hsz : size xs = size xs := rfl
  conv at hsz => rhs; unfold size
  have Hsz := Lib.hid hsz; clear hsz
  unfold maxLen at hm
  by_cases h4 : (4 : Int) < (xs.length : Int)
  · clear hq h
    go_enter Try.func60, Try.ntmps60
    go_wp2
    go_ret2
    exact ⟨ret_two (by rw [Hsz.out, if_pos (by omega)]), Below.refl _ _⟩
  · have h4' : decide ((4 : Int) < (xs.length : Int)) = false := by simpa using h4
    cases hb : xs.any badSide with
    | true =>
      rw [hb] at hq
      have Hq := Lib.hid hq; have Hb := Lib.hid hb
      clear hq h hb
      go_enter Try.func60, Try.ntmps60
      go_wp2_with (go_at_call 78; refine Hq.out.mono ?_; rintro e w' ⟨rfl, hb1⟩)
      go_ret2
      exact ⟨ret_two (by rw [Hsz.out, if_neg (by omega), if_pos Hb.out]), hb1⟩
    | false =>
      rw [hb] at hq
      have Hq := Lib.hid hq; have Hb := Lib.hid hb
      clear hq hb
      have hc := fun w' (hw : Below w.heap.size w w') => contains_any w' a cap xs 0 hm (h.below hw (Nat.le_refl _))
      cases hz : xs.any ((0 : Int) == ·) with
      | true =>
        rw [hz] at hc
        have Hc := Lib.hid hc; have Hz := Lib.hid hz
        clear hc hz h
        go_enter Try.func60, Try.ntmps60
        go_wp2_with (first
          | (go_at_call 78; refine Hq.out.mono ?_; rintro e w1 ⟨rfl, hb1⟩)
          | (go_at_call 84; refine (Hc.out _ (by assumption)).mono ?_; rintro e w2 ⟨rfl, rfl⟩))
        go_ret2
        exact ⟨ret_two (by rw [Hsz.out, if_neg (by omega), if_neg (by rw [Hb.out]; simp), if_pos Hz.out]), by assumption⟩
      | false =>
        rw [hz] at hc
        have Hc := Lib.hid hc; have Hz := Lib.hid hz
        have Hsz2 : Hid (size xs = prodTo 1 xs) := by
          unfold Hid; rw [Hsz.out, if_neg (by omega), if_neg (by rw [Hb.out]; simp), if_neg (by rw [hz]; simp)]
        clear hc hz
        have HI := Lib.hid h; clear h
        go_enter Try.func60, Try.ntmps60
        go_wp2_with (first
          | (go_at_call 78; refine Hq.out.mono ?_; rintro e w1 ⟨rfl, hb1⟩)
          | (go_at_call 84; refine (Hc.out _ (by assumption)).mono ?_; rintro e w2 ⟨rfl, rfl⟩))
        go_loop [4, 18] (fun n i => ∃ (k : Nat) (m : Int), k ≤ xs.length ∧ i = .int .i64 k ∧ n = .int .i64 m ∧ 0 ≤ m ∧ m ≤ 65536 ∧ size xs = prodTo m (xs.drop k)) (fun _ i => xs.length - (intOf i).toNat)
        case atStart => exact ⟨0, 1, Nat.zero_le _, rfl, rfl, by omega, by omega, by simpa using Hsz2.out⟩
        case round =>
          obtain ⟨k, m, hk, rfl, rfl, hm0, hm1, hr⟩ := hrel
          by_cases hlt : k < xs.length
          · obtain ⟨b, off, rfl, hcell⟩ := (HI.out.below hb1 (Nat.le_refl _)) k hlt
            rw [prodTo_step hlt] at hr
            obtain ⟨hs0, hs1⟩ := badSide_false (any_false_get Hb.out k hlt)
            obtain ⟨hp0, hp1⟩ := mul_bd hm0 hm1 hs0 hs1
            have Hr := Lib.hid hr; clear hr
            by_cases hgt : 65536 < m * xs[k]
            · go_wp2
              go_ret2
              exact ⟨ret_two (by rw [Hr.out, if_pos hgt]), hb1⟩
            · go_wp2
              go_round
              case rel => exact ⟨k + 1, m * xs[k], by omega, by go_num, rfl, hp0, by omega, by rw [Hr.out, if_neg hgt]⟩
              case measure => simp [intOf]; omega
          · have Hr := Lib.hid hr; clear hr
            go_wp2
            go_ret2
            exact ⟨ret_two (by rw [Hr.out, List.drop_eq_nil_of_le (by omega)]; rfl), hb1⟩
end Go.Proofs.Ytmjkncmpanhgjaa

namespace Go.Proofs.Ytmjkncmpanhgjaa
set_option linter.unusedVariables false
set_option linter.unusedSimpArgs false
set_option maxRecDepth 100000
open Go.RowKit

theorem prodTo_zero (xs : List Int) : xs.any ((0 : Int) == ·) = true → 4 ≥ xs.length → xs.any badSide = false → size xs = (0, 0) := by
  intro h h4 hb
  unfold size
  rw [if_neg (by omega), if_neg (by rw [hb]; simp), if_pos h]

/-- 0, if one of the sides is 0, else 1 -/
def oneZ (l : List Int) : Int := if l.any ((0 : Int) == ·) then 0 else 1

theorem oneZ_succ {xs : List Int} {k : Nat} (hk : k < xs.length) : oneZ (xs.take (k + 1)) = if xs[k] = 0 then 0 else oneZ (xs.take k) := by
  unfold oneZ
  rw [any_take_succ hk]
  by_cases h : xs[k] = 0
  · simp [h]
  · have : ((0 : Int) == xs[k]) = false := by simpa using fun e => h e.symm
    simp [h, this]

set_option maxHeartbeats 1000000 in
theorem rsize_any (w : World) (a : Option Addr) (cap : Nat) (xs : List Int) (hm : xs.length ≤ maxLen) (h : IntsAt .i64 w a xs) :
    Calls Try.prog 62 #[.slice a xs.length cap] w fun e w' => e = two (size xs) ∧ w = w' := by
  have hsz : size xs = size xs := rfl
  conv at hsz => rhs; unfold size
  have Hsz := Lib.hid hsz; clear hsz
  unfold maxLen at hm
  by_cases h4 : (4 : Int) < (xs.length : Int)
  · clear h
    go_enter Try.func62, Try.ntmps62
    go_wp2
    go_ret2
    exact ⟨ret_two (by rw [Hsz.out, if_pos (by omega)]), rfl⟩
  · have h4' : decide ((4 : Int) < (xs.length : Int)) = false := by simpa using h4
    have HI := Lib.hid h; clear h
    go_enter Try.func62, Try.ntmps62
    go_wp2
    go_loop [4, 5] (fun n i => ∃ (k : Nat), k ≤ xs.length ∧ i = .int .i64 k ∧ n = .int .i64 (oneZ (xs.take k)) ∧ (xs.take k).any badSide = false) (fun _ i => xs.length - (intOf i).toNat)
    case atStart => exact ⟨0, Nat.zero_le _, rfl, rfl, rfl⟩
    case round =>
      obtain ⟨k, hk, rfl, rfl, hr⟩ := hrel
      by_cases hlt : k < xs.length
      · obtain ⟨b, off, rfl, hcell⟩ := HI.out k hlt
        have hon := oneZ_succ hlt
        have hat := any_take_succ (p := badSide) hlt
        rw [hr] at hat
        have Hon := Lib.hid hon; have Hr := Lib.hid hr; have Hat := Lib.hid hat; clear hr hon hat
        by_cases hneg : xs[k] < 0
        · go_wp2
          go_ret2
          exact ⟨ret_two (size_bad (List.any_eq_true.2 ⟨xs[k], List.getElem_mem hlt, by simp [badSide, hneg]⟩)), rfl⟩
        · by_cases hbig : 65536 < xs[k]
          · go_wp2
            go_ret2
            exact ⟨ret_two (size_bad (List.any_eq_true.2 ⟨xs[k], List.getElem_mem hlt, by simp [badSide, hbig]⟩)), rfl⟩
          · have hbs : badSide xs[k] = false := by simp [badSide]; omega
            have Hbs := Lib.hid hbs; clear hbs
            by_cases h0 : xs[k] = 0
            · have h0' : (xs[k] == 0) = true := by simpa using h0
              have H0 := Lib.hid h0; clear h0
              go_wp2
              go_round
              case rel => exact ⟨k + 1, by omega, by go_num, by rw [Hon.out, if_pos H0.out], by rw [Hat.out, Hbs.out]; rfl⟩
              case measure => simp [intOf]; omega
            · have h0' : (xs[k] == 0) = false := by simpa using h0
              go_wp2
              go_round
              case rel => exact ⟨k + 1, by omega, by go_num, by rw [Hon.out, if_neg h0], by rw [Hat.out, Hbs.out]; rfl⟩
              case measure => simp [intOf]; omega
      · have hk' : k = xs.length := by omega
        subst hk'
        rw [List.take_length] at *
        have Hb := Lib.hid hr; clear hr
        cases hz : xs.any ((0 : Int) == ·) with
        | true =>
          have Hz := Lib.hid hz; clear hz
          have hone : oneZ xs = 0 := by unfold oneZ; rw [if_pos Hz.out]
          rw [hone]
          clear hone
          go_wp2
          go_loop [4, 6] (fun n i => n = .int .i64 0 ∧ i = .int .i64 0) (fun _ _ => 0)
          case atStart => exact ⟨rfl, rfl⟩
          case round =>
            obtain ⟨rfl, rfl⟩ := hrel
            have Hfin : Hid (size xs = (0, 0)) := prodTo_zero xs Hz.out (by omega) Hb.out
            by_cases h0l : (0 : Int) < (xs.length : Int)
            · go_wp2
              go_ret2
              exact ⟨ret_two Hfin.out, rfl⟩
            · have h0l' : decide ((0 : Int) < (xs.length : Int)) = false := by simpa using h0l
              go_wp2
              go_ret2
              exact ⟨ret_two Hfin.out, rfl⟩
        | false =>
          have Hsz2 : Hid (size xs = prodTo 1 xs) := by
            unfold Hid; rw [Hsz.out, if_neg (by omega), if_neg (by rw [Hb.out]; simp), if_neg (by rw [hz]; simp)]
          have Hz := Lib.hid hz; clear hz
          have hone : oneZ xs = 1 := by unfold oneZ; rw [if_neg (by rw [Hz.out]; simp)]
          rw [hone]
          clear hone
          go_wp2
          go_loop [4, 6] (fun n i => ∃ (k : Nat) (m : Int), k ≤ xs.length ∧ i = .int .i64 k ∧ n = .int .i64 m ∧ 0 < m ∧ m ≤ 65536 ∧ size xs = prodTo m (xs.drop k)) (fun _ i => xs.length - (intOf i).toNat)
          case atStart => exact ⟨0, 1, Nat.zero_le _, rfl, rfl, by omega, by omega, by simpa using Hsz2.out⟩
          case round =>
            obtain ⟨k, m, hk, rfl, rfl, hm0, hm1, hr⟩ := hrel
            by_cases hlt : k < xs.length
            · obtain ⟨b, off, rfl, hcell⟩ := HI.out k hlt
              rw [prodTo_step hlt] at hr
              obtain ⟨hs0, hs1⟩ := badSide_false (any_false_get Hb.out k hlt)
              have hsn : 0 < xs[k] := by have := any_false_get Hz.out k hlt; simp at this; omega
              obtain ⟨hp0, hp1⟩ := mul_bd (by omega) hm1 hs0 hs1
              have hpp := Int.mul_pos hm0 hsn
              have Hr := Lib.hid hr; clear hr
              by_cases hgt : 65536 < m * xs[k]
              · go_wp2
                go_ret2
                exact ⟨ret_two (by rw [Hr.out, if_pos hgt]), rfl⟩
              · go_wp2
                go_round
                case rel => exact ⟨k + 1, m * xs[k], by omega, by go_num, rfl, hpp, by omega, by rw [Hr.out, if_neg hgt]⟩
                case measure => simp [intOf]; omega
            · have Hr := Lib.hid hr; clear hr
              have hlt' : decide ((k : Int) < (xs.length : Int)) = false := by simpa using hlt
              go_wp2
              go_ret2
              exact ⟨ret_two (by rw [Hr.out, List.drop_eq_nil_of_le (by omega)]; rfl), rfl⟩
end Go.Proofs.Ytmjkncmpanhgjaa

-- DROPS
namespace Go.Proofs.Ytmjkncmpanhgjaa
set_option linter.unusedVariables false
set_option linter.unusedSimpArgs false
set_option maxRecDepth 100000
open Go.RowKit

/-- is this an array? -/
def right (s d : List Int) : Bool := (size s).2 == 0 && (size s).1 == (d.length : Int)

set_option maxHeartbeats 400000 in
theorem right_any (w : World) (a0 a1 : Option Addr) (c0 c1 : Nat) (s d : List Int) (hm : s.length ≤ maxLen) (h : IntsAt .i64 w a0 s) :
    Calls Try.prog 25 #[.agg #[.slice a0 s.length c0, .slice a1 d.length c1]] w fun e w' => e = .returned (.bool (right s d)) ∧ Below w.heap.size w w' := by
  have hq := fun o => size_any (w.alloc o) a0 c0 s hm (h.below ((Below.refl _ w).alloc (Nat.le_refl _) o) (Nat.le_refl _))
  have hr : right s d = ((size s).2 == 0 && (size s).1 == (d.length : Int)) := rfl
  unfold maxLen at hm
  unfold two at hq
  generalize size s = p at hq hr
  obtain ⟨n, er⟩ := p
  have Hq := Lib.hid hq; have Hr := Lib.hid hr; clear hq hr
  by_cases he : er = 0
  · subst he
    by_cases hn : n = d.length
    all_goals
      go_enter Try.func25, Try.ntmps25
      go_wp2_with (go_at_call 60; refine (Hq.out _).mono ?_; rintro e w1 ⟨rfl, hb1⟩; obtain ⟨hc1, hf1⟩ := bcell hb1)
      go_ret
      exact ⟨ret_bool (by rw [Hr.out]; simp [hn]), ((Below.refl _ _).alloc (Nat.le_refl _) _).trans (hb1.mono (by simp))⟩
  · have he' : (er == 0) = false := by simpa using he
    go_enter Try.func25, Try.ntmps25
    go_wp2_with (go_at_call 60; refine (Hq.out _).mono ?_; rintro e w1 ⟨rfl, hb1⟩; obtain ⟨hc1, hf1⟩ := bcell hb1)
    go_ret
    exact ⟨ret_bool (by rw [Hr.out]; simp [he']), ((Below.refl _ _).alloc (Nat.le_refl _) _).trans (hb1.mono (by simp))⟩

set_option maxHeartbeats 400000 in
theorem rright_any (w : World) (a0 a1 : Option Addr) (c0 c1 : Nat) (s d : List Int) (hm : s.length ≤ maxLen) (h : IntsAt .i64 w a0 s) :
    Calls Try.prog 41 #[.agg #[.slice a0 s.length c0, .slice a1 d.length c1]] w fun e w' => e = .returned (.bool (right s d)) ∧ Below w.heap.size w w' := by
  have hq := fun o => rsize_any (w.alloc o) a0 c0 s hm (h.below ((Below.refl _ w).alloc (Nat.le_refl _) o) (Nat.le_refl _))
  have hr : right s d = ((size s).2 == 0 && (size s).1 == (d.length : Int)) := rfl
  unfold maxLen at hm
  unfold two at hq
  generalize size s = p at hq hr
  obtain ⟨n, er⟩ := p
  have Hq := Lib.hid hq; have Hr := Lib.hid hr; clear hq hr
  by_cases he : er = 0
  · subst he
    by_cases hn : n = d.length
    all_goals
      go_enter Try.func41, Try.ntmps41
      go_wp2_with (go_at_call 62; refine (Hq.out _).mono ?_; rintro e w1 ⟨rfl, rfl⟩)
      go_ret
      exact ⟨ret_bool (by rw [Hr.out]; simp [hn]), (Below.refl _ _).alloc (Nat.le_refl _) _⟩
  · have he' : (er == 0) = false := by simpa using he
    go_enter Try.func41, Try.ntmps41
    go_wp2_with (go_at_call 62; refine (Hq.out _).mono ?_; rintro e w1 ⟨rfl, rfl⟩)
    go_ret
    exact ⟨ret_bool (by rw [Hr.out]; simp [he']), (Below.refl _ _).alloc (Nat.le_refl _) _⟩

/-- the same numbers? -/
def ints (xs ys : List Int) : Bool := decide (xs = ys)

theorem take_eq_all {xs ys : List Int} {k : Nat} (hl : xs.length = ys.length) (hk : k < xs.length) (h : xs.take k = ys.take k) (he : xs[k] = ys[k]'(hl ▸ hk)) : xs.take (k + 1) = ys.take (k + 1) := by
  rw [List.take_succ_eq_append_getElem hk, List.take_succ_eq_append_getElem (hl ▸ hk), h, he]

set_option maxHeartbeats 400000 in
theorem ints_any (w : World) (a b : Option Addr) (c d : Nat) (xs ys : List Int) (hm : xs.length ≤ maxLen) (hm2 : ys.length ≤ maxLen) (h : IntsAt .i64 w a xs) (h2 : IntsAt .i64 w b ys) :
    Calls Try.prog 28 #[.slice a xs.length c, .slice b ys.length d] w (SaysB (ints xs ys) w) := by
  unfold maxLen at hm hm2
  have HI := Lib.hid h; have HJ := Lib.hid h2; clear h h2
  by_cases hl : xs.length = ys.length
  · have hl' : ((xs.length : Int) != (ys.length : Int)) = false := by simp [hl]
    have Hl := Lib.hid hl; clear hl
    go_enter Try.func28, Try.ntmps28
    go_wp2
    go_loopw [5] (fun i wr => ∃ (k n : Nat), k ≤ xs.length ∧ i = .int .i64 k ∧ xs.take k = ys.take k ∧ wr = w.drewN n) (fun i _ => xs.length - (intOf i).toNat)
    case atStart => exact ⟨0, 0, Nat.zero_le _, rfl, rfl, rfl⟩
    case round =>
      obtain ⟨k, n, hk, rfl, ht, rfl⟩ := hrel
      have Ht := Lib.hid ht; clear ht
      by_cases hlt : k < xs.length
      · have hlt2 : k < ys.length := Hl.out ▸ hlt
        obtain ⟨b0, off, rfl, hcell⟩ := HI.out k hlt
        obtain ⟨b2, off2, rfl, hcell2⟩ := HJ.out k hlt2
        have hz0 : (0 : Int) ≤ (k : Int) := by omega
        have hz1 : (k : Int) < (xs.length : Int) := by omega
        have hz2 : (k : Int) < (ys.length : Int) := by omega
        by_cases hne : xs[k] = ys[k]
        · have hne' : (xs[k] != ys[k]) = false := by simpa using hne
          have Hne := Lib.hid hne; clear hne
          go_wp2_with fail
          go_quiet (fail)
          go_wp2
          go_roundw
          case rel => exact ⟨k + 1, _, by omega, by go_num, take_eq_all Hl.out hlt Ht.out Hne.out, rfl⟩
          case measure => simp [intOf]; omega
        · have hne' : (xs[k] != ys[k]) = true := by simpa using hne
          go_wp2_with fail
          go_quiet (fail)
          go_wp2
          go_ret
          refine SaysB.drewN (SaysB.mk ?_)
          have : xs ≠ ys := fun e => hne (by subst e; rfl)
          simp [ints, this]
      · go_wp2
        go_ret
        refine SaysB.mk ?_
        have ht := Ht.out
        rw [List.take_of_length_le (by omega), List.take_of_length_le (by rw [← Hl.out]; omega)] at ht
        simp [ints, ht]
  · have hl' : ((xs.length : Int) != (ys.length : Int)) = true := by simp; omega
    go_enter Try.func28, Try.ntmps28
    go_wp2
    go_ret
    refine SaysB.mk0 ?_
    have : xs ≠ ys := fun e => hl (by rw [e])
    simp [ints, this]

set_option maxHeartbeats 800000 in
theorem same_any (w : World) (a0 a1 b0 b1 : Option Addr) (c0 c1 d0 d1 : Nat) (s d t e : List Int) (hs : s.length ≤ maxLen) (hd : d.length ≤ maxLen) (ht : t.length ≤ maxLen) (he : e.length ≤ maxLen)
    (h0 : IntsAt .i64 w a0 s) (h1 : IntsAt .i64 w a1 d) (k0 : IntsAt .i64 w b0 t) (k1 : IntsAt .i64 w b1 e) :
    Calls Try.prog 16 #[.agg #[.slice a0 s.length c0, .slice a1 d.length c1], .agg #[.slice b0 t.length d0, .slice b1 e.length d1]] w
      fun x w' => x = .returned (.bool (ints s t && ints d e)) ∧ Below w.heap.size w w' := by
  have HS := Lib.hid (fun w' (hb : Below w.heap.size w w') => ints_any w' a0 b0 c0 d0 s t hs ht (h0.below hb (Nat.le_refl _)) (k0.below hb (Nat.le_refl _)))
  have HD := Lib.hid (fun w' (hb : Below w.heap.size w w') => ints_any w' a1 b1 c1 d1 d e hd he (h1.below hb (Nat.le_refl _)) (k1.below hb (Nat.le_refl _)))
  clear h0 h1 k0 k1
  have hb2 : ∀ o o', Below w.heap.size w ((w.alloc o).alloc o') := fun o o' => ((Below.refl _ _).alloc (Nat.le_refl _) _).alloc (by simp) _
  cases hx : ints s t with
  | false =>
    have Hx := Lib.hid hx; clear hx
    have Hb := Lib.hid hb2; clear hb2
    go_enter Try.func16, Try.ntmps16
    go_wp2_with (go_at_call 28; refine (HS.out _ (Hb.out _ _)).mono ?_; rintro x w' ⟨hx, n, rfl⟩; rw [Hx.out] at hx; subst hx)
    go_ret
    exact ⟨rfl, (Hb.out _ _).trans (Below.drewN _ _)⟩
  | true =>
    have Hx := Lib.hid hx; clear hx
    have Hb := Lib.hid hb2; clear hb2
    go_enter Try.func16, Try.ntmps16
    go_wp2_with fail
    refine (HS.out _ (Hb.out _ _)).mono ?_
    rintro x w' ⟨hx, n, rfl⟩
    rw [Hx.out] at hx
    subst hx
    go_wp2_with fail
    refine (HD.out _ ((Hb.out _ _).trans (Below.drewN _ _))).mono ?_
    rintro x w' ⟨rfl, m, rfl⟩
    go_wp2_with fail
    go_ret
    exact ⟨rfl, (Hb.out _ _).trans (Below.drewN _ _)⟩
end Go.Proofs.Ytmjkncmpanhgjaa

namespace Go.Proofs.Ytmjkncmpanhgjaa
set_option linter.unusedVariables false
set_option linter.unusedSimpArgs false
set_option maxRecDepth 100000
open Go.RowKit

set_option maxHeartbeats 1000000 in
theorem place_any (w : World) (a b : Option Addr) (c d : Nat) (xs ys : List Int) (hm : xs.length ≤ maxLen) (_hm2 : ys.length ≤ maxLen) (h : IntsAt .i64 w a xs) (h2 : IntsAt .i64 w b ys) :
    Calls Try.prog 70 #[.slice a xs.length c, .slice b ys.length d] w fun e w' => e = two (place xs ys) ∧ Below w.heap.size w w' := by
  have hq := size_any w a c xs hm h
  have hr : place xs ys = if (size xs).2 = 0 then (if ys.length = xs.length then placeTo 0 xs ys else (0, 62)) else (0, (size xs).2) := rfl
  unfold maxLen at hm
  unfold two at hq
  rcases size_err xs with he | ⟨n, he⟩
  · rw [he] at hq hr
    have Hq := Lib.hid hq; have Hr := Lib.hid hr; clear hq hr he h h2
    go_enter Try.func70, Try.ntmps70
    go_wp2_with (go_at_call 60; refine (Hq.out).mono ?_; rintro e w1 ⟨rfl, hb1⟩)
    go_ret2
    exact ⟨ret_two (by rw [Hr.out]; simp), hb1⟩
  · have g := size_good he
    rw [he] at hq hr
    have Hq := Lib.hid hq; have Hr := Lib.hid hr; clear hq hr he
    have HI := Lib.hid h; have HJ := Lib.hid h2; clear h h2
    by_cases hl : xs.length = ys.length
    · have hl' : ((ys.length : Int) != (xs.length : Int)) = false := by simp [hl]
      have Hl := Lib.hid hl; clear hl
      go_enter Try.func70, Try.ntmps70
      go_wp2_with (go_at_call 60; refine (Hq.out).mono ?_; rintro e w1 ⟨rfl, hb1⟩)
      go_loop [8, 26] (fun n i => ∃ (k : Nat) (m : Int), k ≤ xs.length ∧ i = .int .i64 k ∧ n = .int .i64 m ∧ 0 ≤ m ∧ m < prodL (xs.take k) ∧ place xs ys = placeTo m (xs.drop k) (ys.drop k)) (fun _ i => xs.length - (intOf i).toNat)
      case atStart => exact ⟨0, 0, Nat.zero_le _, rfl, rfl, by omega, by simp [prodL], by rw [Hr.out]; simp [Hl.out]⟩
      case round =>
        obtain ⟨k, m, hk, rfl, rfl, hm0, hm1, hr⟩ := hrel
        by_cases hlt : k < xs.length
        · have hlt2 : k < ys.length := Hl.out ▸ hlt
          obtain ⟨b0, off, rfl, hcell⟩ := (HI.out.below hb1 (Nat.le_refl _)) k hlt
          obtain ⟨b2, off2, rfl, hcell2⟩ := (HJ.out.below hb1 (Nat.le_refl _)) k hlt2
          rw [placeTo_step hlt hlt2] at hr
          have Hr := Lib.hid hr; clear hr
          by_cases hneg : ys[k] < 0
          · go_wp2
            go_ret2
            exact ⟨ret_two (by rw [Hr.out, if_pos (Or.inl hneg)]), hb1⟩
          · have hneg' : decide (ys[k] < 0) = false := by simpa using hneg
            by_cases hbig : xs[k] ≤ ys[k]
            · go_wp2
              go_ret2
              exact ⟨ret_two (by rw [Hr.out, if_pos (Or.inr hbig)]), hb1⟩
            · obtain ⟨p0, p1, p2⟩ := place_bd hm0 hm1 (by omega : 0 ≤ ys[k]) (by omega : ys[k] < xs[k])
              rw [← prodL_take_succ hlt] at p2
              have p3 := prodL_take_le g (k := k + 1)
              go_wp2
              go_round
              case rel => exact ⟨k + 1, m * xs[k] + ys[k], by omega, by go_num, rfl, p1, p2, by rw [Hr.out, if_neg (by omega)]⟩
              case measure => simp [intOf]; omega
        · have hlt' : ¬ k < ys.length := by have := Hl.out; omega
          have Hr := Lib.hid hr; clear hr
          go_wp2
          go_ret2
          exact ⟨ret_two (by rw [Hr.out, List.drop_eq_nil_of_le (by omega)]; rfl), hb1⟩
    · have hl' : ((ys.length : Int) != (xs.length : Int)) = true := by simp; omega
      have Hf : Hid (place xs ys = (0, 62)) := by unfold Hid; rw [Hr.out, if_pos rfl, if_neg (fun e => hl e.symm)]
      go_enter Try.func70, Try.ntmps70
      go_wp2_with (go_at_call 60; refine (Hq.out).mono ?_; rintro e w1 ⟨rfl, hb1⟩)
      go_ret2
      exact ⟨ret_two Hf.out, hb1⟩

theorem placeTo_all : ∀ (xs ys : List Int) (m : Int), xs.length = ys.length → (∃ k, ∃ h : k < xs.length, ∃ h' : k < ys.length, ys[k] < 0 ∨ xs[k] ≤ ys[k]) → placeTo m xs ys = (0, 62)
  | [], _, _, _, ⟨_, h, _⟩ => absurd h (by simp)
  | x :: xs, [], _, hl, _ => by simp at hl
  | x :: xs, y :: ys, m, hl, ⟨k, h, h', hk⟩ => by
    rw [placeTo]
    split
    · rfl
    · rename_i hxy
      cases k with
      | zero => exact absurd hk hxy
      | succ k => exact placeTo_all xs ys _ (by simpa using hl) ⟨k, by simpa using h, by simpa using h', by simpa using hk⟩

set_option maxHeartbeats 1600000 in
theorem rplace_any (w : World) (a b : Option Addr) (c d : Nat) (xs ys : List Int) (hm : xs.length ≤ maxLen) (_hm2 : ys.length ≤ maxLen) (h : IntsAt .i64 w a xs) (h2 : IntsAt .i64 w b ys) :
    Calls Try.prog 75 #[.slice a xs.length c, .slice b ys.length d] w fun e w' => e = two (place xs ys) ∧ Below w.heap.size w w' := by
  have hq := rsize_any w a c xs hm h
  have hr : place xs ys = if (size xs).2 = 0 then (if ys.length = xs.length then placeTo 0 xs ys else (0, 62)) else (0, (size xs).2) := rfl
  unfold maxLen at hm
  unfold two at hq
  rcases size_err xs with he | ⟨n, he⟩
  · rw [he] at hq hr
    have Hq := Lib.hid hq; have Hr := Lib.hid hr; clear hq hr he h h2
    go_enter Try.func75, Try.ntmps75
    go_wp2_with (go_at_call 62; refine (Hq.out).mono ?_; rintro e w1 ⟨rfl, rfl⟩)
    go_ret2
    exact ⟨ret_two (by rw [Hr.out]; simp), Below.refl _ _⟩
  · have g := size_good he
    rw [he] at hq hr
    have Hq := Lib.hid hq; have Hr := Lib.hid hr; clear hq hr he
    have HI := Lib.hid h; have HJ := Lib.hid h2; clear h h2
    by_cases hl : xs.length = ys.length
    · have hl' : ((ys.length : Int) != (xs.length : Int)) = false := by simp [hl]
      have Hl := Lib.hid hl; clear hl
      have Hp : Hid (place xs ys = placeTo 0 xs ys) := by unfold Hid; rw [Hr.out, if_pos rfl, if_pos Hl.out.symm]
      go_enter Try.func75, Try.ntmps75
      go_wp2_with (go_at_call 62; refine (Hq.out).mono ?_; rintro e w1 ⟨rfl, rfl⟩)
      go_loopw [9] (fun i wr => ∃ (k n : Nat), k ≤ xs.length ∧ i = .int .i64 k ∧ wr = w.drewN n ∧ ∀ j, j < k → ∀ (h : j < xs.length) (h' : j < ys.length), ¬ (ys[j] < 0 ∨ xs[j] ≤ ys[j])) (fun i _ => xs.length - (intOf i).toNat)
      case atStart => exact ⟨0, 0, Nat.zero_le _, rfl, rfl, fun j hj => absurd hj (Nat.not_lt_zero _)⟩
      case round =>
        obtain ⟨k, nd, hk, rfl, rfl, hall⟩ := hrel
        have Hall := Lib.hid hall; clear hall
        by_cases hlt : k < xs.length
        · have hlt2 : k < ys.length := Hl.out ▸ hlt
          obtain ⟨b0, off, rfl, hcell⟩ := HI.out k hlt
          obtain ⟨b2, off2, rfl, hcell2⟩ := HJ.out k hlt2
          have hz0 : (0 : Int) ≤ (k : Int) := by omega
          have hz1 : (k : Int) < (xs.length : Int) := by omega
          have hz2 : (k : Int) < (ys.length : Int) := by omega
          by_cases hneg : ys[k] < 0
          · go_wp2_with fail
            go_quiet (fail)
            go_wp2
            go_ret2
            exact ⟨ret_two (by rw [Hp.out, placeTo_all xs ys 0 Hl.out ⟨k, hlt, hlt2, .inl hneg⟩]), (Below.drewN _ _).trans (Below.drewN _ _)⟩
          · have hneg' : decide (ys[k] < 0) = false := by simpa using hneg
            by_cases hbig : xs[k] ≤ ys[k]
            · go_wp2_with fail
              go_quiet (fail)
              go_wp2
              go_ret2
              exact ⟨ret_two (by rw [Hp.out, placeTo_all xs ys 0 Hl.out ⟨k, hlt, hlt2, .inr hbig⟩]), (Below.drewN _ _).trans (Below.drewN _ _)⟩
            · go_wp2_with fail
              go_quiet (fail)
              go_wp2
              go_roundw
              case rel =>
                refine ⟨k + 1, _, by omega, by go_num, rfl, fun j hj h h' => ?_⟩
                by_cases e : j = k
                · subst e; omega
                · exact Hall.out j (by omega) h h'
              case measure => simp [intOf]; omega
        · have hlt' : ¬ k < ys.length := by have := Hl.out; omega
          have Hall2 : Hid (∀ j, (h : j < xs.length) → (h' : j < ys.length) → ¬ (ys[j] < 0 ∨ xs[j] ≤ ys[j])) := fun j h h' => Hall.out j (by omega) h h'
          clear Hall
          go_wp2
          go_loopw [8, 10] (fun n i wr => ∃ (k nd : Nat) (m : Int), k ≤ xs.length ∧ i = .int .i64 k ∧ n = .int .i64 m ∧ wr = w.drewN nd ∧ 0 ≤ m ∧ m < prodL (xs.take k) ∧ place xs ys = placeTo m (xs.drop k) (ys.drop k)) (fun _ i _ => xs.length - (intOf i).toNat)
          case atStart => exact ⟨0, _, 0, Nat.zero_le _, rfl, rfl, rfl, by omega, by simp [prodL], by rw [Hp.out]; simp⟩
          case round =>
            obtain ⟨k, nd, m, hk, rfl, rfl, rfl, hm0, hm1, hr⟩ := hrel
            by_cases hlt : k < xs.length
            · have hlt2 : k < ys.length := Hl.out ▸ hlt
              obtain ⟨b0, off, rfl, hcell⟩ := HI.out k hlt
              obtain ⟨b2, off2, rfl, hcell2⟩ := HJ.out k hlt2
              have hz0 : (0 : Int) ≤ (k : Int) := by omega
              have hz1 : (k : Int) < (xs.length : Int) := by omega
              have hz2 : (k : Int) < (ys.length : Int) := by omega
              rw [placeTo_step hlt hlt2] at hr
              have hno := Hall2.out k hlt hlt2
              rw [if_neg hno] at hr
              have Hr := Lib.hid hr; clear hr
              obtain ⟨p0, p1, p2⟩ := place_bd hm0 hm1 (by omega : 0 ≤ ys[k]) (by omega : ys[k] < xs[k])
              rw [← prodL_take_succ hlt] at p2
              have p3 := prodL_take_le g (k := k + 1)
              have hy0 : 0 ≤ ys[k] := by omega
              clear hno
              have e1 : IntKind.i64.wrap (m * xs[k]) = m * xs[k] := IntWalk.i64_in _ (by omega)
              have e2 : IntKind.i64.wrap (m * xs[k] + ys[k]) = m * xs[k] + ys[k] := IntWalk.i64_in _ (by omega)
              go_wp2_with fail
              go_quiet (fail)
              clear e1 e2
              go_wp2
              go_roundw
              case rel => exact ⟨k + 1, _, m * xs[k] + ys[k], by omega, by go_num, rfl, rfl, p1, p2, by rw [Hr.out]⟩
              case measure => simp [intOf]; omega
            · have Hr := Lib.hid hr; clear hr
              go_wp2
              go_ret2
              exact ⟨ret_two (by rw [Hr.out, List.drop_eq_nil_of_le (by omega)]; rfl), Below.drewN _ _⟩
    · have hl' : ((ys.length : Int) != (xs.length : Int)) = true := by simp; omega
      have Hf : Hid (place xs ys = (0, 62)) := by unfold Hid; rw [Hr.out, if_pos rfl, if_neg (fun e => hl e.symm)]
      go_enter Try.func75, Try.ntmps75
      go_wp2_with (go_at_call 62; refine (Hq.out).mono ?_; rintro e w1 ⟨rfl, rfl⟩)
      go_ret2
      exact ⟨ret_two Hf.out, Below.refl _ _⟩
end Go.Proofs.Ytmjkncmpanhgjaa
