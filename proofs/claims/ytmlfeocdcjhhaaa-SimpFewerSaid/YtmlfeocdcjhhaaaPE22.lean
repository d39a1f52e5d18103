import Derived.Test.YtmlfeocdcjhhaaaPE16
import Derived.Test.YtmlfeocdcjhhaaaPE3
import Derived.Laws.StructEq
import Derived.Test.YtmlfeocdcjhhaaaPE18
import Derived.Test.YtmlfeocdcjhhaaaPE21
import Derived.SizedLaws
namespace Go.Proofs.Ytmlfeocdcjhhaaa
set_option maxRecDepth 100000
open Go.RowKit
set_option linter.unusedVariables false
set_option linter.unusedSimpArgs false
attribute [local go_sem ↓] Go.wp_at_zero Go.wp_at_succ

/-! Comparisons of the document's answer: windrowref02.Same, windrowref11.Ops. -/
theorem Mono.ext' {x y : Mono} (h : x.n = y.n) (h0 : x.e0 = y.e0) (h1 : x.e1 = y.e1) (h2 : x.e2 = y.e2) (h3 : x.e3 = y.e3) (h4 : x.e4 = y.e4) (h5 : x.e5 = y.e5) : x = y := by cases x; cases y; simp_all
instance : DecidableEq Mono := fun x y => decidable_of_iff (x.n = y.n ∧ x.e0 = y.e0 ∧ x.e1 = y.e1 ∧ x.e2 = y.e2 ∧ x.e3 = y.e3 ∧ x.e4 = y.e4 ∧ x.e5 = y.e5) ⟨fun ⟨a, b, c, d, e, f, g⟩ => Mono.ext' a b c d e f g, fun h => by subst h; exact ⟨rfl, rfl, rfl, rfl, rfl, rfl, rfl⟩⟩
theorem Cop.ext' {x y : Cop} (h : x.how = y.how) (h0 : x.k = y.k) (h1 : x.n = y.n) (h2 : x.p = y.p) (h3 : x.fn = y.fn) : x = y := by cases x; cases y; simp_all
instance : DecidableEq Cop := fun x y => decidable_of_iff (x.how = y.how ∧ x.k = y.k ∧ x.n = y.n ∧ x.p = y.p ∧ x.fn = y.fn) ⟨fun ⟨a, b, c, d, e⟩ => Cop.ext' a b c d e, fun h => by subst h; exact ⟨rfl, rfl, rfl, rfl, rfl⟩⟩
def sameL {α : Type} [DecidableEq α] (xs ys : List α) : Bool := decide (xs = ys)
theorem take_eq_allL {α : Type} {xs ys : List α} {k : Nat} (hl : xs.length = ys.length) (hk : k < xs.length) (h : xs.take k = ys.take k) (he : xs[k] = ys[k]'(hl ▸ hk)) : xs.take (k + 1) = ys.take (k + 1) := by
  rw [List.take_succ_eq_append_getElem hk, List.take_succ_eq_append_getElem (hl ▸ hk), h, he]
theorem sameL_ne {α : Type} [DecidableEq α] {xs ys : List α} {k : Nat} (hk : k < xs.length) (hk2 : k < ys.length) (he : xs[k] ≠ ys[k]) : sameL xs ys = false := by
  unfold sameL
  exact decide_eq_false (fun e => by subst e; exact he rfl)
theorem sameL_len {α : Type} [DecidableEq α] {xs ys : List α} (h : xs.length ≠ ys.length) : sameL xs ys = false := decide_eq_false (fun e => h (by rw [e]))
theorem sameL_all {α : Type} [DecidableEq α] {xs ys : List α} (hl : xs.length = ys.length) (h : xs.take xs.length = ys.take xs.length) : sameL xs ys = true := by
  rw [List.take_of_length_le (Nat.le_refl _), List.take_of_length_le (by omega)] at h
  exact decide_eq_true h
theorem eq_arr6 (W : World) (a0 a1 a2 a3 a4 a5 b0 b1 b2 b3 b4 b5 : Int) (N : Nat) : (Op.equalIn (N + 2) 45 (.agg #[.int .u8 a0, .int .u8 a1, .int .u8 a2, .int .u8 a3, .int .u8 a4, .int .u8 a5]) (.agg #[.int .u8 b0, .int .u8 b1, .int .u8 b2, .int .u8 b3, .int .u8 b4, .int .u8 b5])).run Try.prog W
    = .ok (a0 == b0 && (a1 == b1 && (a2 == b2 && (a3 == b3 && (a4 == b4 && a5 == b5))))) W := by
  rw [Op.equalIn]
  simp only [Sem.run_bind, run_underlying Try.underlying45, Result.andThen_ok, size_u8]
  simp only [Std.Legacy.Range.forIn_eq_forIn_range', Std.Legacy.Range.size, List.range', Nat.mul_one]
  have e := fun a b w => eq_u8 N a b w
  simp only [Nat.zero_add, Nat.reduceAdd, List.forIn_cons, List.forIn_nil, Sem.run_bind]
  cases h0 : (a0 == b0)
  · simp [part0, e, h0, Result.andThen_ok]
  cases h1 : (a1 == b1)
  · simp [part0, part1, e, h0, h1, Result.andThen_ok]
  cases h2 : (a2 == b2)
  · simp [part0, part1, part2, e, h0, h1, h2, Result.andThen_ok]
  cases h3 : (a3 == b3)
  · simp [part0, part1, part2, part3, e, h0, h1, h2, h3, Result.andThen_ok]
  cases h4 : (a4 == b4)
  · simp [part0, part1, part2, part3, part4, e, h0, h1, h2, h3, h4, Result.andThen_ok]
  cases h5 : (a5 == b5)
  · simp [part0, part1, part2, part3, part4, part5, e, h0, h1, h2, h3, h4, h5, Result.andThen_ok]
  · simp [part0, part1, part2, part3, part4, part5, e, h0, h1, h2, h3, h4, h5, Result.andThen_ok]
theorem neqMono (W : World) (x y : Mono) : (binOp .neq 47 x.V y.V).run Try.prog W = .ok (.bool (!decide (x = y))) W := by
  obtain ⟨o, a, b, c, i, j, k⟩ := x
  obtain ⟨o', a', b', c', i', j', k'⟩ := y
  unfold Mono.V
  simp only [Mono.mk.injEq]
  simp [go_sem, eq_arr6]
  by_cases h : o = o'
  rotate_left
  · simp [h]
  by_cases h0 : a = a'
  rotate_left
  · simp [h, h0]
  by_cases h1 : b = b'
  rotate_left
  · simp [h, h0, h1]
  by_cases h2 : c = c'
  rotate_left
  · simp [h, h0, h1, h2]
  by_cases h3 : i = i'
  rotate_left
  · simp [h, h0, h1, h2, h3]
  by_cases h4 : j = j'
  rotate_left
  · simp [h, h0, h1, h2, h3, h4]
  by_cases h5 : k = k'
  · simp [h, h0, h1, h2, h3, h4, h5]
  · simp [h, h0, h1, h2, h3, h4, h5]
set_option maxHeartbeats 4000000 in
theorem rsame02_any (w : World) (a b : Option Addr) (c d : Nat) (xs ys : List Mono) (hm : xs.length ≤ 9223372036854775807) (hm2 : ys.length ≤ 9223372036854775807) (h : monoRep.Els w a xs) (h2 : monoRep.Els w b ys) :
    Calls Try.prog 29 #[.slice a xs.length c, .slice b ys.length d] w fun e w' => e = .returned (.bool (sameL xs ys)) ∧ Below w.heap.size w w' := by
  obtain ⟨res, hres⟩ : ∃ r, sameL xs ys = r := ⟨_, rfl⟩
  rw [hres]
  have HI := Lib.hid h; have HJ := Lib.hid h2; have HRE := Lib.hid hres; clear h h2 hres
  by_cases hl : xs.length = ys.length
  · have hl' : ((xs.length : Int) != (ys.length : Int)) = false := by simp [hl]
    have Hl := Lib.hid hl; clear hl
    go_enter Try.func29, Try.ntmps29
    go_wp2
    go_loopw [5] (fun i wr => ∃ k : Nat, k ≤ xs.length ∧ i = .int .i64 k ∧ xs.take k = ys.take k ∧ Below w.heap.size w wr) (fun i _ => xs.length - (intOf i).toNat)
    case atStart => exact ⟨0, Nat.zero_le _, rfl, rfl, Below.refl _ _⟩
    case round =>
      obtain ⟨k, hk, rfl, ht, hbel⟩ := hrel
      by_cases hlt : k < xs.length
      · have hlt2 : k < ys.length := Hl.out ▸ hlt
        obtain ⟨b0, off, rfl, -, x0, x1, x2, x3, x4, x5, x6⟩ := els_mono (HI.out.below monoRep hbel (Nat.le_refl _)) hlt
        obtain ⟨b2, off2, rfl, -, y0, y1, y2, y3, y4, y5, y6⟩ := els_mono (HJ.out.below monoRep hbel (Nat.le_refl _)) hlt2
        have hz0 : (0 : Int) ≤ (k : Int) := by omega
        have hz1 : (k : Int) < (xs.length : Int) := by omega
        have hz2 : (k : Int) < (ys.length : Int) := by omega
        have hnx := fun he => take_eq_allL Hl.out hlt ht he
        have hnot := fun he => sameL_ne hlt hlt2 he
        have HBEL := Lib.hid hbel
        have hne := fun W => neqMono W xs[k] ys[k]
        generalize xs[k] = x at x0 x1 x2 x3 x4 x5 x6 hnx hnot hne
        generalize ys[k] = y at y0 y1 y2 y3 y4 y5 y6 hnx hnot hne
        unfold Mono.V at hne
        have f0 := cellBW x0; have f1 := cellBW x1; have f2 := cellBW x2; have f3 := cellBW x3; have f4 := cellBW x4; have f5 := cellBW x5; have f6 := cellBW x6
        have g0 := cellBW y0; have g1 := cellBW y1; have g2 := cellBW y2; have g3 := cellBW y3; have g4 := cellBW y4; have g5 := cellBW y5; have g6 := cellBW y6
        have HNX := Lib.hid hnx; have HNOT := Lib.hid hnot
        clear ht hbel x0 x1 x2 x3 x4 x5 x6 y0 y1 y2 y3 y4 y5 y6 hnx hnot
        go_upto_region 6 with fail
        by_cases he : x = y
        · rw [decide_eq_true he] at hne
          have HG := Lib.hid (HNX.out he)
          clear he
          refine wp_region_below (by kernel_rfl) (by kernel_rfl) ?_
          repeat (go_big_quiet_step (fail))
          refine wpQuiet_nil ?_
          rintro _ ⟨⟨wq, hwq⟩, rfl⟩
          have HQ := Lib.hid (HBEL.out.trans (hwq.mono HBEL.out.size))
          clear f0 f1 f2 f3 f4 f5 f6 g0 g1 g2 g3 g4 g5 g6
          go_wp2_with fail
          go_roundw
          case rel => exact ⟨k + 1, by omega, by go_num, HG.out, HQ.out⟩
          case measure => simp [intOf] <;> omega
        · rw [decide_eq_false he] at hne
          have HG := Lib.hid (show res = false by rw [← HRE.out, HNOT.out he])
          clear he
          refine wp_region_below (by kernel_rfl) (by kernel_rfl) ?_
          repeat (go_big_quiet_step (fail))
          refine wpQuiet_nil ?_
          rintro _ ⟨⟨wq, hwq⟩, rfl⟩
          have HQ := Lib.hid (HBEL.out.trans (hwq.mono HBEL.out.size))
          clear f0 f1 f2 f3 f4 f5 f6 g0 g1 g2 g3 g4 g5 g6
          go_wp2_with fail
          go_ret
          exact ⟨ret_bool HG.out.symm, HQ.out⟩
      · obtain rfl : xs.length = k := by omega
        have HG := Lib.hid (show res = true by rw [← HRE.out]; exact sameL_all Hl.out ht)
        have HQ := Lib.hid hbel
        clear ht hbel
        go_wp2
        go_ret
        exact ⟨ret_bool HG.out.symm, HQ.out⟩
  · have hl' : ((xs.length : Int) != (ys.length : Int)) = true := by simp; omega
    have HG := Lib.hid (show res = false by rw [← HRE.out]; exact sameL_len hl)
    clear hl
    go_enter Try.func29, Try.ntmps29
    go_wp2
    go_ret
    exact ⟨ret_bool HG.out.symm, Below.refl _ _⟩
end Go.Proofs.Ytmlfeocdcjhhaaa

namespace Go.Proofs.Ytmlfeocdcjhhaaa
set_option maxRecDepth 100000
open Go.RowKit
set_option linter.unusedVariables false
set_option linter.unusedSimpArgs false
attribute [local go_sem ↓] Go.wp_at_zero Go.wp_at_succ

/-! windrowref11.Ops. -/
set_option maxHeartbeats 8000000 in
theorem rops11_any (w : World) (a b : Option Addr) (c d : Nat) (xs ys : List Cop) (hm : xs.length ≤ 9223372036854775807) (hm2 : ys.length ≤ 9223372036854775807) (h : copRep.Els w a xs) (h2 : copRep.Els w b ys) :
    Calls Try.prog 12 #[.slice a xs.length c, .slice b ys.length d] w fun e w' => e = .returned (.bool (sameL xs ys)) ∧ Below w.heap.size w w' := by
  obtain ⟨res, hres⟩ : ∃ r, sameL xs ys = r := ⟨_, rfl⟩
  rw [hres]
  have HI := Lib.hid h; have HJ := Lib.hid h2; have HRE := Lib.hid hres; clear h h2 hres
  by_cases hl : xs.length = ys.length
  · have hl' : ((xs.length : Int) != (ys.length : Int)) = false := by simp [hl]
    have Hl := Lib.hid hl; clear hl
    go_enter Try.func12, Try.ntmps12
    go_wp2
    go_loopw [5] (fun i wr => ∃ k : Nat, k ≤ xs.length ∧ i = .int .i64 k ∧ xs.take k = ys.take k ∧ Below w.heap.size w wr) (fun i _ => xs.length - (intOf i).toNat)
    case atStart => exact ⟨0, Nat.zero_le _, rfl, rfl, Below.refl _ _⟩
    case round =>
      obtain ⟨k, hk, rfl, ht, hbel⟩ := hrel
      by_cases hlt : k < xs.length
      · have hlt2 : k < ys.length := Hl.out ▸ hlt
        obtain ⟨b0, off, pa, pc, rfl, x0, x1, x2, x3, x4, hp, hpl⟩ := els_cop (HI.out.below copRep hbel (Nat.le_refl _)) hlt
        obtain ⟨b2, off2, qa, qc, rfl, y0, y1, y2, y3, y4, hq, hql⟩ := els_cop (HJ.out.below copRep hbel (Nat.le_refl _)) hlt2
        have hz0 : (0 : Int) ≤ (k : Int) := by omega
        have hz1 : (k : Int) < (xs.length : Int) := by omega
        have hz2 : (k : Int) < (ys.length : Int) := by omega
        have hnx := fun he => take_eq_allL Hl.out hlt ht he
        have hnot := fun he => sameL_ne hlt hlt2 he
        have HBEL := Lib.hid hbel
        generalize xs[k] = x at x0 x1 x2 x3 x4 hnx hnot hp hpl
        generalize ys[k] = y at y0 y1 y2 y3 y4 hnx hnot hq hql
        have HS := Lib.hid (fun p : BelowW wr => rsame02_any p.world pa qa pc qc x.p y.p hpl hql (hp.below monoRep p.below (Nat.le_refl _)) (hq.below monoRep p.below (Nat.le_refl _)))
        have f0 := cellBW x0; have f1 := cellBW x1; have f2 := cellBW x2; have f3 := cellBW x3; have f4 := cellBW x4
        have g0 := cellBW y0; have g1 := cellBW y1; have g2 := cellBW y2; have g3 := cellBW y3; have g4 := cellBW y4
        have HNX := Lib.hid hnx; have HNOT := Lib.hid hnot
        clear ht hbel x0 x1 x2 x3 x4 y0 y1 y2 y3 y4 hnx hnot hp hq hpl hql
        go_upto_region 6 with fail
        by_cases e0 : x.how = y.how
        rotate_left
        · have q0 : (x.how != y.how) = true := by simpa using e0
          have HG := Lib.hid (show res = false by rw [← HRE.out, HNOT.out (fun e => e0 (by rw [e]))])
          clear e0 HS HNX HNOT
          refine wp_region_below (by kernel_rfl) (by kernel_rfl) ?_
          repeat (go_big_quiet_step (fail))
          refine wpQuiet_nil ?_
          rintro _ ⟨⟨wq, hwq⟩, rfl⟩
          have HQ := Lib.hid (HBEL.out.trans (hwq.mono HBEL.out.size))
          clear f0 f1 f2 f3 f4 g0 g1 g2 g3 g4
          go_wp2_with fail
          go_ret
          exact ⟨ret_bool HG.out.symm, HQ.out⟩
        have q0 : (x.how != y.how) = false := by simpa using e0
        by_cases e1 : x.k = y.k
        rotate_left
        · have q1 : (x.k != y.k) = true := by simpa using e1
          have HG := Lib.hid (show res = false by rw [← HRE.out, HNOT.out (fun e => e1 (by rw [e]))])
          clear e0 e1 HS HNX HNOT
          refine wp_region_below (by kernel_rfl) (by kernel_rfl) ?_
          repeat (go_big_quiet_step (fail))
          refine wpQuiet_nil ?_
          rintro _ ⟨⟨wq, hwq⟩, rfl⟩
          have HQ := Lib.hid (HBEL.out.trans (hwq.mono HBEL.out.size))
          clear f0 f1 f2 f3 f4 g0 g1 g2 g3 g4
          go_wp2_with fail
          go_ret
          exact ⟨ret_bool HG.out.symm, HQ.out⟩
        have q1 : (x.k != y.k) = false := by simpa using e1
        by_cases e2 : x.n = y.n
        rotate_left
        · have q2 : (x.n != y.n) = true := by simpa using e2
          have HG := Lib.hid (show res = false by rw [← HRE.out, HNOT.out (fun e => e2 (by rw [e]))])
          clear e0 e1 e2 HS HNX HNOT
          refine wp_region_below (by kernel_rfl) (by kernel_rfl) ?_
          repeat (go_big_quiet_step (fail))
          refine wpQuiet_nil ?_
          rintro _ ⟨⟨wq, hwq⟩, rfl⟩
          have HQ := Lib.hid (HBEL.out.trans (hwq.mono HBEL.out.size))
          clear f0 f1 f2 f3 f4 g0 g1 g2 g3 g4
          go_wp2_with fail
          go_ret
          exact ⟨ret_bool HG.out.symm, HQ.out⟩
        have q2 : (x.n != y.n) = false := by simpa using e2
        by_cases e3 : x.fn = y.fn
        rotate_left
        · have q3 : (x.fn != y.fn) = true := by simpa using e3
          have HG := Lib.hid (show res = false by rw [← HRE.out, HNOT.out (fun e => e3 (by rw [e]))])
          clear e0 e1 e2 e3 HS HNX HNOT
          refine wp_region_below (by kernel_rfl) (by kernel_rfl) ?_
          repeat (go_big_quiet_step (fail))
          refine wpQuiet_nil ?_
          rintro _ ⟨⟨wq, hwq⟩, rfl⟩
          have HQ := Lib.hid (HBEL.out.trans (hwq.mono HBEL.out.size))
          clear f0 f1 f2 f3 f4 g0 g1 g2 g3 g4
          go_wp2_with fail
          go_ret
          exact ⟨ret_bool HG.out.symm, HQ.out⟩
        have q3 : (x.fn != y.fn) = false := by simpa using e3
        by_cases e4 : x.p = y.p
        · have HG := Lib.hid (HNX.out (Cop.ext' e0 e1 e2 e4 e3))
          have hs : sameL x.p y.p = true := decide_eq_true e4
          rw [hs] at HS
          clear e0 e1 e2 e3 e4 HNX HNOT hs
          refine wp_region_below (by kernel_rfl) (by kernel_rfl) ?_
          repeat (go_big_quiet_step (refine callsBW (HS.out _)))
          refine wpQuiet_nil ?_
          rintro _ ⟨⟨wq, hwq⟩, rfl⟩
          have HQ := Lib.hid (HBEL.out.trans (hwq.mono HBEL.out.size))
          clear f0 f1 f2 f3 f4 g0 g1 g2 g3 g4 HS
          go_wp2_with fail
          go_roundw
          case rel => exact ⟨k + 1, by omega, by go_num, HG.out, HQ.out⟩
          case measure => simp [intOf] <;> omega
        · have HG := Lib.hid (show res = false by rw [← HRE.out, HNOT.out (fun e => e4 (by rw [e]))])
          have hs : sameL x.p y.p = false := decide_eq_false e4
          rw [hs] at HS
          clear e0 e1 e2 e3 e4 HNX HNOT hs
          refine wp_region_below (by kernel_rfl) (by kernel_rfl) ?_
          repeat (go_big_quiet_step (refine callsBW (HS.out _)))
          refine wpQuiet_nil ?_
          rintro _ ⟨⟨wq, hwq⟩, rfl⟩
          have HQ := Lib.hid (HBEL.out.trans (hwq.mono HBEL.out.size))
          clear f0 f1 f2 f3 f4 g0 g1 g2 g3 g4 HS
          go_wp2_with fail
          go_ret
          exact ⟨ret_bool HG.out.symm, HQ.out⟩
      · obtain rfl : xs.length = k := by omega
        have HG := Lib.hid (show res = true by rw [← HRE.out]; exact sameL_all Hl.out ht)
        have HQ := Lib.hid hbel
        clear ht hbel
        go_wp2
        go_ret
        exact ⟨ret_bool HG.out.symm, HQ.out⟩
  · have hl' : ((xs.length : Int) != (ys.length : Int)) = true := by simp; omega
    have HG := Lib.hid (show res = false by rw [← HRE.out]; exact sameL_len hl)
    clear hl
    go_enter Try.func12, Try.ntmps12
    go_wp2
    go_ret
    exact ⟨ret_bool HG.out.symm, Below.refl _ _⟩
end Go.Proofs.Ytmlfeocdcjhhaaa

namespace Go.Proofs.Ytmlfeocdcjhhaaa
set_option maxRecDepth 100000
open Go.RowKit Go.ChangeShapes Go.WideShapes Go.Deep Go.Joins
set_option linter.unusedVariables false
set_option linter.unusedSimpArgs false
attribute [local go_sem ↓] Go.wp_at_zero Go.wp_at_succ

/-! windrowref13.Ops; operations that are handed in, and how long they may be; what law 13 shows at its head. -/
theorem rops13_any (w : World) (a : Option Addr) (c : Nat) (l : List Cop) (h0 : copRep.Sl w (.slice a l.length c) l) (hl : l.length ≤ 2513169434843) :
    Calls Try.prog 11 #[.slice a l.length c] w (RetOps w (opsC l)) := by
  have h := CopS.of h0
  have hq1 := rright13_any w a c l h.els h.le
  have hq3 := fun (hf : fitC l = true) W (hb : Below w.heap.size w W) => rsimple13_any W W.heap.size rfl a c l ((h.below hb).mono hb.size) hl (fit_poly hf).1
  have ho : opsC l = if fitC l then (simpleC l, 0) else ([], 130) := rfl
  rw [ho]
  have hm := h.le
  clear h h0 hl ho
  cases hf : fitC l with
  | true =>
    rw [hf] at hq1
    have HQ := Lib.hid hq1; have HQ3 := Lib.hid (hq3 hf)
    clear hq1 hq3 hf
    rw [if_pos rfl]
    go_enter Try.func11, Try.ntmps11
    go_wp2_with fail
    refine HQ.out.mono ?_
    rintro e w1 ⟨rfl, hb⟩
    have HB := Lib.hid hb
    have HQ := Lib.hid (HQ3.out w1 hb)
    clear HQ3 hb
    go_wp2_with fail
    refine HQ.out.mono ?_
    rintro e w3 ⟨⟨v3, rfl, hv3⟩, hb⟩
    go_wp2_with fail
    go_ret2
    exact ⟨⟨_, rfl, hv3.cop⟩, bNext hb HB.out⟩
  | false =>
    rw [hf] at hq1
    have HQ := Lib.hid hq1
    clear hq1 hq3 hf
    rw [if_neg (by decide)]
    go_enter Try.func11, Try.ntmps11
    go_wp2_with fail
    refine HQ.out.mono ?_
    rintro e w1 ⟨rfl, hb⟩
    go_wp2_with fail
    go_ret2
    exact ⟨⟨_, rfl, Rep.Sl.nil _ _⟩, hb⟩
section
variable {H : Type} {enc : TypeId × Value → H} {w : World} {base : Nat} {spare : Nat → Bool} {held : Bool}
theorem slice_weightO {n l c : Nat} {a : Option Addr} {y : DataW H × List MemPlace} (h : DataW.trod enc Try.prog w base spare held n 22 [.slice a l c] = some y) (hw : ∀ k ∈ y.1.weights Try.prog 22, k ≤ reachBytes) : l ≤ 2513169434843 := by
  rcases open_slice Try.underlying22 h with ⟨hcs, _⟩ | ⟨a', len, cap, m, n', D, Pl, hcs, _, hl, hm, hmm, rfl, _⟩
  · simp at hcs
    omega
  · simp only [List.cons.injEq, Value.slice.injEq, and_true] at hcs
    obtain ⟨_, rfl, _⟩ := hcs
    have h8 : Try.prog.bytesOf 44 = 56 := by kernel_rfl
    have := hw ((((List.range l).map D).length + ((List.range (m - l)).map fun j => D (l + j)).length) * Try.prog.bytesOf 44) (by
      simp only [DataW.weights, Try.underlying22]
      exact List.mem_cons_self)
    rw [h8, List.length_map, List.length_range] at this
    unfold reachBytes at this
    omega
theorem open_copsS {v : Value} {d : DataW H} {p : List MemPlace} {r : Reach} {b0 : Nat} (hv : Value.okWide Try.prog w r b0 22 v) (h : DataW.Trod enc Try.prog w base spare held 22 v d p) :
    ∃ l, copRep.Sl w v l ∧ ((∀ n ∈ d.weights Try.prog 22, n ≤ reachBytes) → l.length ≤ 2513169434843) := by
  obtain ⟨l, s⟩ := opens_sl Try.underlying22 opens_cops hv h
  refine ⟨l, s, fun hw => ?_⟩
  have f := s
  obtain ⟨a, c, rfl, _⟩ := f
  obtain ⟨m, hm⟩ := h
  exact slice_weightO hm hw
end
end Go.Proofs.Ytmlfeocdcjhhaaa
