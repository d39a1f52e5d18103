import Derived.Test.YtegjcghcknpjeaaE1
import Derived.Test.YtegjcghcknpjeaaV7
import Derived.Deep.RegionHeld3
import Derived.Deep.DrawnRows
namespace Go.Proofs.Ytegjcghcknpjeaa
open Go.RowKit
attribute [local go_sem ↓] Go.wp_at_zero Go.wp_at_succ

theorem wrap_is (x : Int) : IntKind.i64.wrap x = wrap64 x := by unfold wrap64; exact IntKind.wrap_i64 x
theorem stop_any (w : World) (g : Nat) {v : Value} {more : List Value} {s : St} (how : Int) (hM : StB w g 72 v more s) :
    Calls Try.prog 37 #[.pointer (some ⟨g, 0, none⟩), .int .i64 how] w fun e w' => e = .returned (.bool false) ∧ w' = w.setCell ⟨g, 18, none⟩ (.int .i64 how) := by
  have c := hM.fin
  have f := hM.frozen 18
  have HM := Lib.hid hM; clear hM
  go_enter Try.func37, Try.ntmps37
  go_wp2
  go_ret
  exact ⟨rfl, rfl⟩

set_option maxHeartbeats 4000000 in
theorem mcell_any (w : World) (g : Nat) (am : Option Addr) (n cm : Nat) (more : List Value) (s : St) (i : Ins) (hi : i.wf) (hb : i.b < 16) (hM : StB w g 72 (.slice am n cm) more s) :
    Calls Try.prog 44 #[.pointer (some ⟨g, 0, none⟩), i.V] w fun e w' => e = .returned (.tuple #[.int .i64 (wrap64 (s.R i.b + i.imm)), .bool (decide (0 ≤ wrap64 (s.R i.b + i.imm)) && decide (wrap64 (s.R i.b + i.imm) < (n : Int)))]) ∧ Below w.heap.size w w' := by
  obtain ⟨op, a, b, c, imm⟩ := i
  have hb0 := hi.b.1
  have himm := hi.imm
  dsimp only at hb hb0 himm ⊢
  obtain ⟨bn, rfl⟩ := Int.eq_ofNat_of_zero_le hb0
  have hbn : bn < 16 := by omega
  have hz0 : (0 : Int) ≤ (bn : Int) := by omega
  have hz1 : (bn : Int) < 16 := by omega
  have c0 := hM.reg hbn
  have c1 := hM.memv
  have hlt := hM.lt
  obtain ⟨r, hr⟩ : ∃ r, s.R (bn : Int) = r := ⟨_, rfl⟩
  rw [hr] at c0 ⊢
  obtain ⟨k, hk⟩ : ∃ k, wrap64 (r + imm) = k := ⟨_, rfl⟩
  rw [hk]
  have hs : IntKind.i64.wrap (r + imm) = k := (wrap_is _).trans hk
  have HB : Hid (∀ o, Below w.heap.size w (w.alloc o)) := Lib.hid fun o => (Below.refl _ _).alloc (Nat.le_refl _) o
  have HK := Lib.hid hk; have Hr := Lib.hid hr; have HM := Lib.hid hM
  clear hk hr hM hi hb hb0
  unfold Ins.V
  dsimp only
  by_cases h0 : 0 ≤ k
  · by_cases h1 : k < (n : Int)
    · go_enter Try.func44, Try.ntmps44
      go_wp2_with fail
      go_quiet (fail)
      clear hs
      go_wp2_with fail
      go_quiet (fail)
      go_wp2_with fail
      go_ret2
      exact ⟨by simp [h0, h1], (HB.out _).trans ((Below.drewN _ _).trans (Below.drewN _ _))⟩
    · have h1' : decide (k < (n : Int)) = false := by simpa using h1
      go_enter Try.func44, Try.ntmps44
      go_wp2_with fail
      go_quiet (fail)
      clear hs
      go_wp2_with fail
      go_quiet (fail)
      go_wp2_with fail
      go_ret2
      exact ⟨by simp [h0, h1], (HB.out _).trans ((Below.drewN _ _).trans (Below.drewN _ _))⟩
  · have h0' : decide (0 ≤ k) = false := by simpa using h0
    go_enter Try.func44, Try.ntmps44
    go_wp2_with fail
    go_quiet (fail)
    clear hs
    go_wp2_with fail
    go_quiet (fail)
    go_wp2_with fail
    go_ret2
    exact ⟨by rw [h0']; rfl, (HB.out _).trans ((Below.drewN _ _).trans (Below.drewN _ _))⟩

/-- what a function's instruction comes to -/
def reckS (i : Ins) (s : St) : Int × Int := if 128 ≤ i.op then dyadF (i.op - 128) (s.R i.b) (s.R i.c) else monadF (i.op - 64) (s.R i.b)
def callS (i : Ins) (s : St) : St × Bool := if (reckS i s).2 = 0 then ({ s.setR i.a (reckS i s).1 with pc := s.pc + 1 }, true) else ({ s with fin := 4 }, false)
theorem callS_mem (i : Ins) (s : St) : (callS i s).1.mem = s.mem := by unfold callS St.setR; split <;> rfl
theorem callS_len (i : Ins) {s : St} (h : s.regs.length = 16) : (callS i s).1.regs.length = 16 := by unfold callS St.setR; split <;> simpa using h
theorem R_in {s : St} (h : ∀ x ∈ s.regs, In64 x) (i : Int) : In64 (s.R i) := by
  unfold St.R
  rw [List.getD_eq_getElem?_getD]
  cases hc : s.regs[i.toNat]? with
  | none => exact ⟨by decide, by decide⟩
  | some x => exact h x (List.mem_of_getElem? hc)

set_option maxHeartbeats 8000000 in
theorem mcalls_any (w : World) (g : Nat) (v : Value) (more : List Value) (s : St) (i : Ins) (hi : i.wf) (ho : 64 ≤ i.op) (ha : i.a < 16) (hb : i.b < 16) (hc : i.c < 16) (hs : ∀ x ∈ s.regs, In64 x) (hp0 : 0 ≤ s.pc) (hp1 : s.pc < 9223372036854775807) (hM : StB w g 72 v more s) :
    Calls Try.prog 45 #[.pointer (some ⟨g, 0, none⟩), i.V] w fun e w' => e = .returned (.bool (callS i s).2) ∧ StB w' g 72 v more (callS i s).1 ∧ KB (fun b => b = g) w w' := by
  obtain ⟨op, a, b, c, imm⟩ := i
  have ho1 := hi.op.2
  have ha0 := hi.a.1
  have hb0 := hi.b.1
  have hc0 := hi.c.1
  dsimp only at ha hb hc ha0 hb0 hc0 ho ho1
  obtain ⟨an, rfl⟩ := Int.eq_ofNat_of_zero_le ha0
  obtain ⟨bn, rfl⟩ := Int.eq_ofNat_of_zero_le hb0
  obtain ⟨cn, rfl⟩ := Int.eq_ofNat_of_zero_le hc0
  have hban : an < 16 := by omega
  have hbbn : bn < 16 := by omega
  have hbcn : cn < 16 := by omega
  have hz0 : (0 : Int) ≤ (an : Int) := by omega
  have hz1 : (0 : Int) ≤ (bn : Int) := by omega
  have hz2 : (0 : Int) ≤ (cn : Int) := by omega
  have ca := hM.reg hban
  have cb := hM.reg hbbn
  have cc := hM.reg hbcn
  have cp := hM.pc
  have fa := hM.frozen an
  have fp := hM.frozen 17
  have hlt := hM.lt
  have rb := R_in hs (bn : Int)
  have rc := R_in hs (cn : Int)
  have hst := fun (W : World) (h : StB W g 72 v more s) => stop_any W g 4 h
  obtain ⟨x, hx⟩ : ∃ x, s.R (bn : Int) = x := ⟨_, rfl⟩
  obtain ⟨y, hy⟩ : ∃ y, s.R (cn : Int) = y := ⟨_, rfl⟩
  rw [hx] at cb rb
  rw [hy] at cc rc
  by_cases h2 : 128 ≤ op
  · obtain ⟨m, e0, hd⟩ : ∃ m e0, dyadF (op - 128) x y = (m, e0) := ⟨_, _, rfl⟩
    have hq := fun W => dyad_at W (op - 128) x y m e0 rb rc hd
    have hcs : reckS ⟨op, an, bn, cn, imm⟩ s = (m, e0) := by unfold reckS; dsimp only; rw [if_pos h2, hx, hy, hd]
    have hcs1 : e0 = 0 → callS ⟨op, an, bn, cn, imm⟩ s = ({ s.setR (an : Int) m with pc := s.pc + 1 }, true) := fun e => by unfold callS; rw [hcs]; dsimp only; rw [if_pos e]
    have hcs2 : ¬ e0 = 0 → callS ⟨op, an, bn, cn, imm⟩ s = ({ s with fin := 4 }, false) := fun e => by unfold callS; rw [hcs]; dsimp only; rw [if_neg e]
    have HQ := Lib.hid hq; have HC1 := Lib.hid hcs1; have HC2 := Lib.hid hcs2; have HM := Lib.hid hM; have HST := Lib.hid hst
    clear hq hcs hcs1 hcs2 hM hst hx hy hd rb rc hi hs
    unfold Ins.V
    dsimp only
    by_cases he : e0 = 0
    · subst he
      go_enter Try.func45, Try.ntmps45
      go_wp2_with fail
      go_quiet ((exact Calls.quiet_of (HQ.out _)))
      go_wp2_with fail
      go_region
      go_wp2_with fail
      go_ret
      rw [HC1.out (by trivial)]
      exact ⟨rfl, (((HM.out.alloc _).drewN _).setR hban m).setPc _, ((((KB.refl (fun b => b = g) w).alloc _).drewN _).setCell (p := ⟨g, an, none⟩) (fun _ => rfl) _).setCell (p := ⟨g, 17, none⟩) (fun _ => rfl) _⟩
    · go_enter Try.func45, Try.ntmps45
      go_wp2_with fail
      go_quiet ((exact Calls.quiet_of (HQ.out _)))
      go_wp2_with fail
      refine (HST.out _ ((HM.out.alloc _).drewN _)).mono ?_
      rintro e w' ⟨rfl, rfl⟩
      go_wp2_with fail
      go_ret
      rw [HC2.out he]
      exact ⟨rfl, ((HM.out.alloc _).drewN _).setFin 4, (((KB.refl (fun b => b = g) w).alloc _).drewN _).setCell (p := ⟨g, 18, none⟩) (fun _ => rfl) _⟩
  · have h2' : decide (128 ≤ op) = false := by simpa using h2
    obtain ⟨m, e0, hd⟩ : ∃ m e0, monadF (op - 64) x = (m, e0) := ⟨_, _, rfl⟩
    have hq := fun W => monad_at W (op - 64) x m e0 rb hd
    have hcs : reckS ⟨op, an, bn, cn, imm⟩ s = (m, e0) := by unfold reckS; dsimp only; rw [if_neg h2, hx, hd]
    have hcs1 : e0 = 0 → callS ⟨op, an, bn, cn, imm⟩ s = ({ s.setR (an : Int) m with pc := s.pc + 1 }, true) := fun e => by unfold callS; rw [hcs]; dsimp only; rw [if_pos e]
    have hcs2 : ¬ e0 = 0 → callS ⟨op, an, bn, cn, imm⟩ s = ({ s with fin := 4 }, false) := fun e => by unfold callS; rw [hcs]; dsimp only; rw [if_neg e]
    have HQ := Lib.hid hq; have HC1 := Lib.hid hcs1; have HC2 := Lib.hid hcs2; have HM := Lib.hid hM; have HST := Lib.hid hst
    clear hq hcs hcs1 hcs2 hM hst hx hy hd rb rc hi hs
    unfold Ins.V
    dsimp only
    by_cases he : e0 = 0
    · subst he
      go_enter Try.func45, Try.ntmps45
      go_wp2_with fail
      go_quiet ((exact Calls.quiet_of (HQ.out _)))
      go_wp2_with fail
      go_region
      go_wp2_with fail
      go_ret
      rw [HC1.out (by trivial)]
      exact ⟨rfl, (((HM.out.alloc _).drewN _).setR hban m).setPc _, ((((KB.refl (fun b => b = g) w).alloc _).drewN _).setCell (p := ⟨g, an, none⟩) (fun _ => rfl) _).setCell (p := ⟨g, 17, none⟩) (fun _ => rfl) _⟩
    · go_enter Try.func45, Try.ntmps45
      go_wp2_with fail
      go_quiet ((exact Calls.quiet_of (HQ.out _)))
      go_wp2_with fail
      refine (HST.out _ ((HM.out.alloc _).drewN _)).mono ?_
      rintro e w' ⟨rfl, rfl⟩
      go_wp2_with fail
      go_ret
      rw [HC2.out he]
      exact ⟨rfl, ((HM.out.alloc _).drewN _).setFin 4, (((KB.refl (fun b => b = g) w).alloc _).drewN _).setCell (p := ⟨g, 18, none⟩) (fun _ => rfl) _⟩
end Go.Proofs.Ytegjcghcknpjeaa
