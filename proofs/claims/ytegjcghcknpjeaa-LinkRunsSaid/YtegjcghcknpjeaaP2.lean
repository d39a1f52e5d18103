import Derived.Test.YtegjcghcknpjeaaP1
import Derived.Laws.StructEq
namespace Go.Proofs.Ytegjcghcknpjeaa
open Go.RowKit

theorem neqIns (W : World) (x y : Ins) : (binOp .neq 35 x.V y.V).run Try.prog W = .ok (.bool (!decide (x = y))) W := by
  obtain ⟨o, a, b, c, i⟩ := x
  obtain ⟨o', a', b', c', i'⟩ := y
  unfold Ins.V
  simp only [Ins.mk.injEq]
  simp [go_sem]
  repeat' split
  all_goals simp_all
theorem neqPiece (W : World) (x y : Piece) : (binOp .neq 37 x.V y.V).run Try.prog W = .ok (.bool (!decide (x = y))) W := by
  obtain ⟨m, ⟨o, a, b, c, i⟩, t⟩ := x
  obtain ⟨m', ⟨o', a', b', c', i'⟩, t'⟩ := y
  unfold Piece.V
  simp only [Piece.mk.injEq, Ins.mk.injEq]
  simp [go_sem]
  repeat' split
  all_goals simp_all

/-- the same lists? -/
def sameL {α : Type} [DecidableEq α] (xs ys : List α) : Bool := decide (xs = ys)
theorem take_eq_allL {α : Type} {xs ys : List α} {k : Nat} (hl : xs.length = ys.length) (hk : k < xs.length) (h : xs.take k = ys.take k) (he : xs[k] = ys[k]'(hl ▸ hk)) : xs.take (k + 1) = ys.take (k + 1) := by
  rw [List.take_succ_eq_append_getElem hk, List.take_succ_eq_append_getElem (hl ▸ hk), h, he]

set_option maxHeartbeats 4000000 in
theorem codes_any (w : World) (a b : Option Addr) (c d : Nat) (xs ys : List Ins) (hm : xs.length ≤ maxLen) (hm2 : ys.length ≤ maxLen) (h : insRep.Els w a xs) (h2 : insRep.Els w b ys) :
    Calls Try.prog 13 #[.slice a xs.length c, .slice b ys.length d] w (SaysB (sameL xs ys) w) := by
  unfold maxLen at hm hm2
  have HI := Lib.hid h; have HJ := Lib.hid h2; clear h h2
  by_cases hl : xs.length = ys.length
  · have hl' : ((xs.length : Int) != (ys.length : Int)) = false := by simp [hl]
    have Hl := Lib.hid hl; clear hl
    go_enter Try.func13, Try.ntmps13
    go_wp2
    go_loopw [5] (fun i wr => ∃ (k n : Nat), k ≤ xs.length ∧ i = .int .i64 k ∧ xs.take k = ys.take k ∧ wr = w.drewN n) (fun i _ => xs.length - (intOf i).toNat)
    case atStart => exact ⟨0, 0, Nat.zero_le _, rfl, rfl, rfl⟩
    case round =>
      obtain ⟨k, n, hk, rfl, ht, rfl⟩ := hrel
      have Ht := Lib.hid ht; clear ht
      by_cases hlt : k < xs.length
      · have hlt2 : k < ys.length := Hl.out ▸ hlt
        obtain ⟨b0, off, rfl, -, x0, x1, x2, x3, x4⟩ := els_ins HI.out hlt
        obtain ⟨b2, off2, rfl, -, y0, y1, y2, y3, y4⟩ := els_ins HJ.out hlt2
        have hz0 : (0 : Int) ≤ (k : Int) := by omega
        have hz1 : (k : Int) < (xs.length : Int) := by omega
        have hz2 : (k : Int) < (ys.length : Int) := by omega
        have hne := fun W => neqIns W xs[k] ys[k]
        unfold Ins.V at hne
        by_cases he : xs[k] = ys[k]
        · rw [decide_eq_true he] at hne
          have He := Lib.hid he; clear he
          go_wp2_with fail
          go_quiet (fail)
          go_wp2
          go_roundw
          case rel => exact ⟨k + 1, _, by omega, by go_num, take_eq_allL Hl.out hlt Ht.out He.out, rfl⟩
          case measure => simp [intOf]; omega
        · rw [decide_eq_false he] at hne
          go_wp2_with fail
          go_quiet (fail)
          go_wp2
          go_ret
          refine SaysB.drewN (SaysB.mk ?_)
          have : xs ≠ ys := fun e => he (by subst e; rfl)
          simp [sameL, this]
      · go_wp2
        go_ret
        refine SaysB.mk ?_
        have ht := Ht.out
        rw [List.take_of_length_le (by omega), List.take_of_length_le (by rw [← Hl.out]; omega)] at ht
        simp [sameL, ht]
  · have hl' : ((xs.length : Int) != (ys.length : Int)) = true := by simp; omega
    go_enter Try.func13, Try.ntmps13
    go_wp2
    go_ret
    refine SaysB.mk0 ?_
    have : xs ≠ ys := fun e => hl (by rw [e])
    simp [sameL, this]
set_option maxHeartbeats 4000000 in
theorem pieces_any (w : World) (a b : Option Addr) (c d : Nat) (xs ys : List Piece) (hm : xs.length ≤ maxLen) (hm2 : ys.length ≤ maxLen) (h : pieceRep.Els w a xs) (h2 : pieceRep.Els w b ys) :
    Calls Try.prog 18 #[.slice a xs.length c, .slice b ys.length d] w (SaysB (sameL xs ys) w) := by
  unfold maxLen at hm hm2
  have HI := Lib.hid h; have HJ := Lib.hid h2; clear h h2
  by_cases hl : xs.length = ys.length
  · have hl' : ((xs.length : Int) != (ys.length : Int)) = false := by simp [hl]
    have Hl := Lib.hid hl; clear hl
    go_enter Try.func18, Try.ntmps18
    go_wp2
    go_loopw [5] (fun i wr => ∃ (k n : Nat), k ≤ xs.length ∧ i = .int .i64 k ∧ xs.take k = ys.take k ∧ wr = w.drewN n) (fun i _ => xs.length - (intOf i).toNat)
    case atStart => exact ⟨0, 0, Nat.zero_le _, rfl, rfl, rfl⟩
    case round =>
      obtain ⟨k, n, hk, rfl, ht, rfl⟩ := hrel
      have Ht := Lib.hid ht; clear ht
      by_cases hlt : k < xs.length
      · have hlt2 : k < ys.length := Hl.out ▸ hlt
        obtain ⟨b0, off, rfl, -, x0, x1, x2, x3, x4, x5, x6⟩ := els_piece HI.out hlt
        obtain ⟨b2, off2, rfl, -, y0, y1, y2, y3, y4, y5, y6⟩ := els_piece HJ.out hlt2
        have hz0 : (0 : Int) ≤ (k : Int) := by omega
        have hz1 : (k : Int) < (xs.length : Int) := by omega
        have hz2 : (k : Int) < (ys.length : Int) := by omega
        have hne := fun W => neqPiece W xs[k] ys[k]
        unfold Piece.V at hne
        by_cases he : xs[k] = ys[k]
        · rw [decide_eq_true he] at hne
          have He := Lib.hid he; clear he
          go_wp2_with fail
          go_quiet (fail)
          go_wp2
          go_roundw
          case rel => exact ⟨k + 1, _, by omega, by go_num, take_eq_allL Hl.out hlt Ht.out He.out, rfl⟩
          case measure => simp [intOf]; omega
        · rw [decide_eq_false he] at hne
          go_wp2_with fail
          go_quiet (fail)
          go_wp2
          go_ret
          refine SaysB.drewN (SaysB.mk ?_)
          have : xs ≠ ys := fun e => he (by subst e; rfl)
          simp [sameL, this]
      · go_wp2
        go_ret
        refine SaysB.mk ?_
        have ht := Ht.out
        rw [List.take_of_length_le (by omega), List.take_of_length_le (by rw [← Hl.out]; omega)] at ht
        simp [sameL, ht]
  · have hl' : ((xs.length : Int) != (ys.length : Int)) = true := by simp; omega
    go_enter Try.func18, Try.ntmps18
    go_wp2
    go_ret
    refine SaysB.mk0 ?_
    have : xs ≠ ys := fun e => hl (by rw [e])
    simp [sameL, this]
end Go.Proofs.Ytegjcghcknpjeaa
