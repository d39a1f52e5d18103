import Derived.Test.YtnfkmmiojgnonaaV6
namespace Go.Proofs.Ytnfkmmiojgnonaa
open Go.RowKit

def ub (p : Int × Bool) : Ending := .returned (.tuple #[.int .i64 p.1, .bool p.2])
theorem ret_ub {a : Int} {b : Bool} {p : Int × Bool} (h : p = (a, b)) : Ending.returned (.tuple #[.int .i64 a, .bool b]) = ub p := by subst h; rfl

theorem unit_no {f : Int} (h : takes f true = false) : unitF f = (0, false) := by
  have : ¬ (f = 6 ∨ f = 7 ∨ f = 3 ∨ f = 4 ∨ f = 8 ∨ f = 11 ∨ f = 12 ∨ f = 14 ∨ f = 17) := by
    rintro (rfl | rfl | rfl | rfl | rfl | rfl | rfl | rfl | rfl) <;> simp [takes] at h
  unfold unitF
  rw [if_neg (by omega), if_neg (by omega), if_neg (by omega), h]
theorem eqs_no {f : Int} (h : takes f true = false) : (f == 1) = false ∧ (f == 2) = false ∧ (f == 3) = false ∧ (f == 4) = false ∧ (f == 5) = false ∧ (f == 6) = false ∧ (f == 7) = false ∧ (f == 8) = false ∧ (f == 9) = false ∧ (f == 10) = false ∧ (f == 11) = false ∧ (f == 12) = false ∧ (f == 13) = false ∧ (f == 14) = false ∧ (f == 15) = false ∧ (f == 17) = false := by
  have : ¬ (f = 1 ∨ f = 2 ∨ f = 3 ∨ f = 4 ∨ f = 5 ∨ f = 6 ∨ f = 7 ∨ f = 8 ∨ f = 9 ∨ f = 10 ∨ f = 11 ∨ f = 12 ∨ f = 13 ∨ f = 14 ∨ f = 15 ∨ f = 17) := by
    rintro (rfl | rfl | rfl | rfl | rfl | rfl | rfl | rfl | rfl | rfl | rfl | rfl | rfl | rfl | rfl | rfl) <;> simp [takes] at h
  simp
  omega

set_option maxHeartbeats 2000000 in
theorem unit_any (w : World) (f : Int) : Calls Try.prog 19 #[.int .u8 f] w fun e w' => e = ub (unitF f) ∧ Drew w w' := by
  cases hx : takes f true with
  | false =>
    have Hf : Hid (unitF f = (0, false)) := unit_no hx
    obtain ⟨h1, h2, h3, h4, h5, h6, h7, h8, h9, h10, h11, h12, h13, h14, h15, h17⟩ := eqs_no hx
    clear h1 h2 h5 h9 h10 h13 h15
    have Hx := Lib.hid hx; clear hx
    go_enter Try.func19, Try.ntmps19
    go_wp2_with (go_at_call 15; refine (takes_at _ _ _ false Hx.out).mono ?_; rintro e w' ⟨rfl, rfl⟩)
    go_ret2
    exact ⟨ret_ub Hf.out, Drew.refl _⟩
  | true =>
    rcases takesT hx with rfl | rfl | rfl | rfl | rfl | rfl | rfl | rfl | rfl | rfl | rfl | rfl | rfl | rfl | rfl | rfl
    all_goals
      clear hx
      go_enter Try.func19, Try.ntmps19
      go_wp2_with (go_at_call 15; refine (takes_at _ _ _ true rfl).mono ?_; rintro e w' ⟨rfl, rfl⟩)
      go_ret2
      exact ⟨ret_ub (by rfl), Drew.refl _⟩

set_option maxHeartbeats 2000000 in
theorem runit_any (w : World) (f : Int) : Calls Try.prog 20 #[.int .u8 f] w fun e w' => e = ub (unitF f) ∧ Drew w w' := by
  cases hx : takes f true with
  | false =>
    have Hf : Hid (unitF f = (0, false)) := unit_no hx
    obtain ⟨h1, h2, h3, h4, h5, h6, h7, h8, h9, h10, h11, h12, h13, h14, h15, h17⟩ := eqs_no hx
    clear hx
    go_enter Try.func20, Try.ntmps20
    go_wp2
    go_ret2
    exact ⟨ret_ub Hf.out, Drew.refl _⟩
  | true =>
    rcases takesT hx with rfl | rfl | rfl | rfl | rfl | rfl | rfl | rfl | rfl | rfl | rfl | rfl | rfl | rfl | rfl | rfl
    all_goals
      clear hx
      go_enter Try.func20, Try.ntmps20
      go_wp2
      go_ret2
      exact ⟨ret_ub (by rfl), Drew.refl _⟩

theorem eqs_scan {f : Int} (h : scansB f = false) : (f == 1) = false ∧ (f == 3) = false ∧ (f == 6) = false ∧ (f == 7) = false ∧ (f == 14) = false ∧ (f == 15) = false := by
  simp [scansB] at h; simp; omega
theorem eqs_scan1 {f : Int} (h : scansB f = true) : f = 1 ∨ f = 3 ∨ f = 6 ∨ f = 7 ∨ f = 14 ∨ f = 15 := by
  simp [scansB] at h; omega

set_option maxHeartbeats 2000000 in
theorem scans_any (w : World) (f : Int) : Calls Try.prog 21 #[.int .u8 f] w fun e w' => e = .returned (.bool (scansB f)) ∧ Drew w w' := by
  cases hx : scansB f with
  | false =>
    obtain ⟨h1, h3, h6, h7, h14, h15⟩ := eqs_scan hx
    clear hx
    go_enter Try.func21, Try.ntmps21
    go_wp2
    go_ret
    exact ⟨rfl, Drew.refl _⟩
  | true =>
    rcases eqs_scan1 hx with rfl | rfl | rfl | rfl | rfl | rfl
    all_goals
      clear hx
      go_enter Try.func21, Try.ntmps21
      go_wp2
      go_ret
      exact ⟨rfl, Drew.refl _⟩

set_option maxHeartbeats 2000000 in
theorem rscans_any (w : World) (f : Int) : Calls Try.prog 23 #[.int .u8 f] w fun e w' => e = .returned (.bool (scansB f)) ∧ Drew w w' := by
  cases hx : scansB f with
  | false =>
    obtain ⟨h1, h3, h6, h7, h14, h15⟩ := eqs_scan hx
    clear hx
    go_enter Try.func23, Try.ntmps23
    go_wp2
    go_ret
    exact ⟨rfl, Drew.refl _⟩
  | true =>
    rcases eqs_scan1 hx with rfl | rfl | rfl | rfl | rfl | rfl
    all_goals
      clear hx
      go_enter Try.func23, Try.ntmps23
      go_wp2
      go_ret
      exact ⟨rfl, Drew.refl _⟩

set_option maxHeartbeats 2000000 in
theorem total_any (w : World) (f : Int) (two : Bool) : Calls Try.prog 22 #[.int .u8 f, .bool two] w fun e w' => e = .returned (.bool (totalB f two)) ∧ Drew w w' := by
  by_cases hs : f = 4 ∨ f = 14 ∨ f = 15 ∨ f = 17 ∨ f = 16
  · rcases hs with rfl | rfl | rfl | rfl | rfl
    all_goals
      go_enter Try.func22, Try.ntmps22
      go_wp2
      go_ret
      exact ⟨rfl, Drew.refl _⟩
  · have Hf : Hid (takes f two = totalB f two) := by unfold Hid totalB; rw [if_neg hs]
    have h4 : (f == 4) = false := by simp; omega
    have h14 : (f == 14) = false := by simp; omega
    have h15 : (f == 15) = false := by simp; omega
    have h17 : (f == 17) = false := by simp; omega
    have h16 : (f == 16) = false := by simp; omega
    clear hs
    generalize totalB f two = r at Hf
    go_enter Try.func22, Try.ntmps22
    go_wp2_with (go_at_call 15; refine (takes_at _ _ _ r Hf.out).mono ?_; rintro e w' ⟨rfl, rfl⟩)
    go_ret
    exact ⟨rfl, Drew.refl _⟩

set_option maxHeartbeats 2000000 in
theorem rtotal_any (w : World) (f : Int) (two : Bool) : Calls Try.prog 24 #[.int .u8 f, .bool two] w fun e w' => e = .returned (.bool (totalB f two)) ∧ Drew w w' := by
  by_cases hs : f = 4 ∨ f = 14 ∨ f = 15 ∨ f = 17 ∨ f = 16
  · rcases hs with rfl | rfl | rfl | rfl | rfl
    all_goals
      go_enter Try.func24, Try.ntmps24
      go_wp2
      go_ret
      exact ⟨rfl, Drew.refl _⟩
  · have Hf : Hid (takes f two = totalB f two) := by unfold Hid totalB; rw [if_neg hs]
    have h4 : (f == 4) = false := by simp; omega
    have h14 : (f == 14) = false := by simp; omega
    have h15 : (f == 15) = false := by simp; omega
    have h17 : (f == 17) = false := by simp; omega
    have h16 : (f == 16) = false := by simp; omega
    clear hs
    generalize totalB f two = r at Hf
    go_enter Try.func24, Try.ntmps24
    go_wp2_with (go_at_call 16; refine (rtakes_at _ _ _ r Hf.out).mono ?_; rintro e w' ⟨rfl, rfl⟩)
    go_ret
    exact ⟨rfl, Drew.refl _⟩

set_option maxHeartbeats 2000000 in
theorem ldyad_any (w : World) (f a b : Int) (ha : In64 a) (hb : In64 b) : Calls Try.prog 25 #[.int .u8 f, .int .i64 a, .int .i64 b] w fun e w' => e = .returned (.int .i64 (dyadF f a b).1) ∧ Drew w w' := by
  have Hd := Lib.hid (fun W => dyad_any W f a b ha hb)
  generalize dyadF f a b = r at Hd
  obtain ⟨r1, r2⟩ := r
  unfold two at Hd
  clear ha hb
  go_enter Try.func25, Try.ntmps25
  go_wp2_with (go_at_call 13; refine (Hd.out _).mono ?_; rintro e w' ⟨rfl, n, rfl⟩)
  go_ret
  exact ⟨rfl, Drew.mk _ _⟩

/-- a call with known values -/
theorem dyad_at (W : World) (f a b n e0 : Int) (ha : In64 a) (hb : In64 b) (h : dyadF f a b = (n, e0)) : Calls Try.prog 13 #[.int .u8 f, .int .i64 a, .int .i64 b] W fun e w' => e = .returned (.tuple #[.int .i64 n, .int .i64 e0]) ∧ ∃ n, w' = W.drewN n :=
  (dyad_any W f a b ha hb).mono fun _ _ ⟨h1, h2⟩ => ⟨by rw [h1, h]; rfl, h2⟩
theorem monad_at (W : World) (f a n e0 : Int) (ha : In64 a) (h : monadF f a = (n, e0)) : Calls Try.prog 17 #[.int .u8 f, .int .i64 a] W fun e w' => e = .returned (.tuple #[.int .i64 n, .int .i64 e0]) ∧ ∃ n, w' = W.drewN n :=
  (monad_any W f a ha).mono fun _ _ ⟨h1, h2⟩ => ⟨by rw [h1, h]; rfl, h2⟩
theorem rdyad_at (W : World) (f a b n e0 : Int) (ha : In64 a) (hb : In64 b) (h : dyadF f a b = (n, e0)) : Calls Try.prog 14 #[.int .u8 f, .int .i64 a, .int .i64 b] W fun e w' => e = .returned (.tuple #[.int .i64 n, .int .i64 e0]) ∧ ∃ n, w' = W.drewN n :=
  (rdyad_any W f a b ha hb).mono fun _ _ ⟨h1, h2⟩ => ⟨by rw [h1, h]; rfl, h2⟩
theorem rmonad_at (W : World) (f a n e0 : Int) (ha : In64 a) (h : monadF f a = (n, e0)) : Calls Try.prog 18 #[.int .u8 f, .int .i64 a] W fun e w' => e = .returned (.tuple #[.int .i64 n, .int .i64 e0]) ∧ ∃ n, w' = W.drewN n :=
  (rmonad_any W f a ha).mono fun _ _ ⟨h1, h2⟩ => ⟨by rw [h1, h]; rfl, h2⟩
theorem unit_at (W : World) (f n : Int) (b : Bool) (h : unitF f = (n, b)) : Calls Try.prog 19 #[.int .u8 f] W fun e w' => e = .returned (.tuple #[.int .i64 n, .bool b]) ∧ ∃ n, w' = W.drewN n :=
  (unit_any W f).mono fun _ _ ⟨h1, h2⟩ => ⟨by rw [h1, h]; rfl, h2⟩
theorem runit_at (W : World) (f n : Int) (b : Bool) (h : unitF f = (n, b)) : Calls Try.prog 20 #[.int .u8 f] W fun e w' => e = .returned (.tuple #[.int .i64 n, .bool b]) ∧ ∃ n, w' = W.drewN n :=
  (runit_any W f).mono fun _ _ ⟨h1, h2⟩ => ⟨by rw [h1, h]; rfl, h2⟩
theorem scans_at (W : World) (f : Int) (b : Bool) (h : scansB f = b) : Calls Try.prog 21 #[.int .u8 f] W fun e w' => e = .returned (.bool b) ∧ ∃ n, w' = W.drewN n :=
  (scans_any W f).mono fun _ _ ⟨h1, h2⟩ => ⟨by rw [h1, h], h2⟩
theorem total_at (W : World) (f : Int) (two b : Bool) (h : totalB f two = b) : Calls Try.prog 22 #[.int .u8 f, .bool two] W fun e w' => e = .returned (.bool b) ∧ ∃ n, w' = W.drewN n :=
  (total_any W f two).mono fun _ _ ⟨h1, h2⟩ => ⟨by rw [h1, h], h2⟩
theorem ldyad_at (W : World) (f a b n : Int) (ha : In64 a) (hb : In64 b) (h : (dyadF f a b).1 = n) : Calls Try.prog 25 #[.int .u8 f, .int .i64 a, .int .i64 b] W fun e w' => e = .returned (.int .i64 n) ∧ ∃ n, w' = W.drewN n :=
  (ldyad_any W f a b ha hb).mono fun _ _ ⟨h1, h2⟩ => ⟨by rw [h1, h], h2⟩

end Go.Proofs.Ytnfkmmiojgnonaa
