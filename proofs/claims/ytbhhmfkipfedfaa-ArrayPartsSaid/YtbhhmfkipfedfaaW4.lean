import Derived.Test.YtbhhmfkipfedfaaW3
namespace Go.Proofs.Ytbhhmfkipfedfaa
open Go.RowKit

/-- is this an array? -/
def right (s d : List Int) : Bool := (size s).2 == 0 && (size s).1 == (d.length : Int)

set_option maxHeartbeats 400000 in
theorem right_any (w : World) (a0 a1 : Option Addr) (c0 c1 : Nat) (s d : List Int) (hm : s.length ≤ maxLen) (h : IntsAt .i64 w a0 s) :
    Calls Try.prog 12 #[.agg #[.slice a0 s.length c0, .slice a1 d.length c1]] w fun e w' => e = .returned (.bool (right s d)) ∧ Below w.heap.size w w' := by
  have hq := fun o => size_any (w.alloc o) a0 c0 s hm (h.below ((Below.refl _ w).alloc (Nat.le_refl _) o) (Nat.le_refl _))
  have hr : right s d = ((size s).2 == 0 && (size s).1 == (d.length : Int)) := rfl
  unfold maxLen at hm
  unfold two at hq
  generalize size s = p at hq hr
  obtain ⟨n, er⟩ := p
  have Hq := Lib.hid hq; have Hr := Lib.hid hr; clear hq hr
  by_cases he : er = 0
  · subst he
    by_cases hn : n = d.length
    all_goals
      go_enter Try.func12, Try.ntmps12
      go_wp2_with (go_at_call 10; refine (Hq.out _).mono ?_; rintro e w1 ⟨rfl, hb1⟩; obtain ⟨hc1, hf1⟩ := bcell hb1)
      go_ret
      exact ⟨ret_bool (by rw [Hr.out]; simp [hn]), ((Below.refl _ _).alloc (Nat.le_refl _) _).trans (hb1.mono (by simp))⟩
  · have he' : (er == 0) = false := by simpa using he
    go_enter Try.func12, Try.ntmps12
    go_wp2_with (go_at_call 10; refine (Hq.out _).mono ?_; rintro e w1 ⟨rfl, hb1⟩; obtain ⟨hc1, hf1⟩ := bcell hb1)
    go_ret
    exact ⟨ret_bool (by rw [Hr.out]; simp [he']), ((Below.refl _ _).alloc (Nat.le_refl _) _).trans (hb1.mono (by simp))⟩

set_option maxHeartbeats 400000 in
theorem rright_any (w : World) (a0 a1 : Option Addr) (c0 c1 : Nat) (s d : List Int) (hm : s.length ≤ maxLen) (h : IntsAt .i64 w a0 s) :
    Calls Try.prog 13 #[.agg #[.slice a0 s.length c0, .slice a1 d.length c1]] w fun e w' => e = .returned (.bool (right s d)) ∧ Below w.heap.size w w' := by
  have hq := fun o => rsize_any (w.alloc o) a0 c0 s hm (h.below ((Below.refl _ w).alloc (Nat.le_refl _) o) (Nat.le_refl _))
  have hr : right s d = ((size s).2 == 0 && (size s).1 == (d.length : Int)) := rfl
  unfold maxLen at hm
  unfold two at hq
  generalize size s = p at hq hr
  obtain ⟨n, er⟩ := p
  have Hq := Lib.hid hq; have Hr := Lib.hid hr; clear hq hr
  by_cases he : er = 0
  · subst he
    by_cases hn : n = d.length
    all_goals
      go_enter Try.func13, Try.ntmps13
      go_wp2_with (go_at_call 11; refine (Hq.out _).mono ?_; rintro e w1 ⟨rfl, rfl⟩)
      go_ret
      exact ⟨ret_bool (by rw [Hr.out]; simp [hn]), (Below.refl _ _).alloc (Nat.le_refl _) _⟩
  · have he' : (er == 0) = false := by simpa using he
    go_enter Try.func13, Try.ntmps13
    go_wp2_with (go_at_call 11; refine (Hq.out _).mono ?_; rintro e w1 ⟨rfl, rfl⟩)
    go_ret
    exact ⟨ret_bool (by rw [Hr.out]; simp [he']), (Below.refl _ _).alloc (Nat.le_refl _) _⟩

/-- the same numbers? -/
def ints (xs ys : List Int) : Bool := decide (xs = ys)

theorem take_eq_all {xs ys : List Int} {k : Nat} (hl : xs.length = ys.length) (hk : k < xs.length) (h : xs.take k = ys.take k) (he : xs[k] = ys[k]'(hl ▸ hk)) : xs.take (k + 1) = ys.take (k + 1) := by
  rw [List.take_succ_eq_append_getElem hk, List.take_succ_eq_append_getElem (hl ▸ hk), h, he]

set_option maxHeartbeats 400000 in
theorem ints_any (w : World) (a b : Option Addr) (c d : Nat) (xs ys : List Int) (hm : xs.length ≤ maxLen) (hm2 : ys.length ≤ maxLen) (h : IntsAt .i64 w a xs) (h2 : IntsAt .i64 w b ys) :
    Calls Try.prog 18 #[.slice a xs.length c, .slice b ys.length d] w (SaysB (ints xs ys) w) := by
  unfold maxLen at hm hm2
  have HI := Lib.hid h; have HJ := Lib.hid h2; clear h h2
  by_cases hl : xs.length = ys.length
  · have hl' : ((xs.length : Int) != (ys.length : Int)) = false := by simp [hl]
    have Hl := Lib.hid hl; clear hl
    go_enter Try.func18, Try.ntmps18
    go_wp2
    go_loopw [5] (fun i wr => ∃ (k n : Nat), k ≤ xs.length ∧ i = .int .i64 k ∧ xs.take k = ys.take k ∧ wr = w.drewN n) (fun i _ => xs.length - (intOf i).toNat)
    case atStart => exact ⟨0, 0, Nat.zero_le _, rfl, rfl, rfl⟩
    case round =>
      obtain ⟨k, n, hk, rfl, ht, rfl⟩ := hrel
      have Ht := Lib.hid ht; clear ht
      by_cases hlt : k < xs.length
      · have hlt2 : k < ys.length := Hl.out ▸ hlt
        obtain ⟨b0, off, rfl, hcell⟩ := HI.out k hlt
        obtain ⟨b2, off2, rfl, hcell2⟩ := HJ.out k hlt2
        have hz0 : (0 : Int) ≤ (k : Int) := by omega
        have hz1 : (k : Int) < (xs.length : Int) := by omega
        have hz2 : (k : Int) < (ys.length : Int) := by omega
        by_cases hne : xs[k] = ys[k]
        · have hne' : (xs[k] != ys[k]) = false := by simpa using hne
          have Hne := Lib.hid hne; clear hne
          go_wp2_with fail
          go_quiet (fail)
          go_wp2
          go_roundw
          case rel => exact ⟨k + 1, _, by omega, by go_num, take_eq_all Hl.out hlt Ht.out Hne.out, rfl⟩
          case measure => simp [intOf]; omega
        · have hne' : (xs[k] != ys[k]) = true := by simpa using hne
          go_wp2_with fail
          go_quiet (fail)
          go_wp2
          go_ret
          refine SaysB.drewN (SaysB.mk ?_)
          have : xs ≠ ys := fun e => hne (by subst e; rfl)
          simp [ints, this]
      · go_wp2
        go_ret
        refine SaysB.mk ?_
        have ht := Ht.out
        rw [List.take_of_length_le (by omega), List.take_of_length_le (by rw [← Hl.out]; omega)] at ht
        simp [ints, ht]
  · have hl' : ((xs.length : Int) != (ys.length : Int)) = true := by simp; omega
    go_enter Try.func18, Try.ntmps18
    go_wp2
    go_ret
    refine SaysB.mk0 ?_
    have : xs ≠ ys := fun e => hl (by rw [e])
    simp [ints, this]

set_option maxHeartbeats 800000 in
theorem same_any (w : World) (a0 a1 b0 b1 : Option Addr) (c0 c1 d0 d1 : Nat) (s d t e : List Int) (hs : s.length ≤ maxLen) (hd : d.length ≤ maxLen) (ht : t.length ≤ maxLen) (he : e.length ≤ maxLen)
    (h0 : IntsAt .i64 w a0 s) (h1 : IntsAt .i64 w a1 d) (k0 : IntsAt .i64 w b0 t) (k1 : IntsAt .i64 w b1 e) :
    Calls Try.prog 23 #[.agg #[.slice a0 s.length c0, .slice a1 d.length c1], .agg #[.slice b0 t.length d0, .slice b1 e.length d1]] w
      fun x w' => x = .returned (.bool (ints s t && ints d e)) ∧ Below w.heap.size w w' := by
  have HS := Lib.hid (fun w' (hb : Below w.heap.size w w') => ints_any w' a0 b0 c0 d0 s t hs ht (h0.below hb (Nat.le_refl _)) (k0.below hb (Nat.le_refl _)))
  have HD := Lib.hid (fun w' (hb : Below w.heap.size w w') => ints_any w' a1 b1 c1 d1 d e hd he (h1.below hb (Nat.le_refl _)) (k1.below hb (Nat.le_refl _)))
  clear h0 h1 k0 k1
  have hb2 : ∀ o o', Below w.heap.size w ((w.alloc o).alloc o') := fun o o' => ((Below.refl _ _).alloc (Nat.le_refl _) _).alloc (by simp) _
  cases hx : ints s t with
  | false =>
    have Hx := Lib.hid hx; clear hx
    have Hb := Lib.hid hb2; clear hb2
    go_enter Try.func23, Try.ntmps23
    go_wp2_with (go_at_call 18; refine (HS.out _ (Hb.out _ _)).mono ?_; rintro x w' ⟨hx, n, rfl⟩; rw [Hx.out] at hx; subst hx)
    go_ret
    exact ⟨rfl, (Hb.out _ _).trans (Below.drewN _ _)⟩
  | true =>
    have Hx := Lib.hid hx; clear hx
    have Hb := Lib.hid hb2; clear hb2
    go_enter Try.func23, Try.ntmps23
    go_wp2_with fail
    refine (HS.out _ (Hb.out _ _)).mono ?_
    rintro x w' ⟨hx, n, rfl⟩
    rw [Hx.out] at hx
    subst hx
    go_wp2_with fail
    refine (HD.out _ ((Hb.out _ _).trans (Below.drewN _ _))).mono ?_
    rintro x w' ⟨rfl, m, rfl⟩
    go_wp2_with fail
    go_ret
    exact ⟨rfl, (Hb.out _ _).trans (Below.drewN _ _)⟩
end Go.Proofs.Ytbhhmfkipfedfaa
