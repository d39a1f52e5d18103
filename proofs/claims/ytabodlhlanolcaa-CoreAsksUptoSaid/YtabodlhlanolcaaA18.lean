import Derived.Test.YtabodlhlanolcaaA17
import Derived.Test.YtabodlhlanolcaaAG
namespace Go.Proofs.Ytabodlhlanolcaa
set_option maxRecDepth 100000
open Go.RowKit
set_option linter.unusedVariables false
set_option linter.unusedSimpArgs false
attribute [local go_sem ↓] Go.wp_at_zero Go.wp_at_succ

/-! One operation's form, whatever its How; the closure of (*core.scope).step. -/
set_option maxHeartbeats 4000000 in
theorem rop_any (w : World) (o : Cop) (pa : Option Addr) (pc V L : Nat) (ma : Option Addr) (mc : Nat) (made : List Bool) (hV : V ≤ 6) (hpe : monoRep.Els w pa o.p) (hpl : o.p.length ≤ 9223372036854775807) (hmade : MadeAt w ma made) :
    Calls Try.prog 49 #[.agg #[.int .i64 o.how, .int .i64 o.k, .int .i64 o.n, .slice pa o.p.length pc, .int .u8 o.fn], .int .i64 V, .int .i64 L, .slice ma made.length mc] w fun e w' => e = .returned (.bool (opB V L made o)) ∧ Below w.heap.size w w' := by
  obtain ⟨how, k, n, p, fn⟩ := o
  dsimp only at hpe hpl ⊢
  by_cases h0 : how = 1 ∨ how = 2 ∨ how = 3 ∨ how = 4 ∨ how = 5 ∨ how = 6
  · rcases h0 with rfl | rfl | rfl | rfl | rfl | rfl
    · exact rop1_any w k n fn p pa pc V L ma mc made
    · exact rop2_any w k n fn p pa pc V L ma mc made hV hpe hpl
    · exact rop3_any w k n fn p pa pc V L ma mc made
    · exact rop4_any w k n fn p pa pc V L ma mc made hmade
    · exact rop5_any w k n fn p pa pc V L ma mc made
    · exact rop6_any w k n fn p pa pc V L ma mc made
  have HV := Lib.hid (show opB V L made ⟨how, k, n, p, fn⟩ = false from by unfold opB; dsimp only; rw [if_neg (by omega), if_neg (by omega), if_neg (by omega), if_neg (by omega), if_neg (by omega), if_neg (by omega)])
  have g1 : (how == 1) = false := by simp; omega
  have g2 : (how == 2) = false := by simp; omega
  have g3 : (how == 3) = false := by simp; omega
  have g4 : (how == 4) = false := by simp; omega
  have g5 : (how == 5) = false := by simp; omega
  have g6 : (how == 6) = false := by simp; omega
  clear h0 hpe hmade hpl
  go_enter Try.func49, Try.ntmps49
  go_wp2_with fail
  go_ret
  exact ⟨ret_bool HV.out.symm, (Below.refl _ _).alloc (Nat.le_refl _) _⟩
structure ScopeAt (w : World) (sb V L : Nat) (buf : Int) (ma : Option Addr) (mc : Nat) (made : List Bool) : Prop where
  s0 : w.cell? ⟨sb, 0, none⟩ = some (.int .i64 V)
  s1 : w.cell? ⟨sb, 1, none⟩ = some (.int .i64 L)
  s2 : w.cell? ⟨sb, 2, none⟩ = some (.int .i64 buf)
  s3 : w.cell? ⟨sb, 3, none⟩ = some (.slice ma made.length mc)
  hbs : sb < w.heap.size
  hmade : MadeAt w ma made
theorem ScopeAt.below {w w' : World} {sb V L : Nat} {buf : Int} {ma : Option Addr} {mc : Nat} {made : List Bool} (h : ScopeAt w sb V L buf ma mc made) (hb : Below w.heap.size w w') : ScopeAt w' sb V L buf ma mc made :=
  ⟨keepCell hb h.s0, keepCell hb h.s1, keepCell hb h.s2, keepCell hb h.s3, Nat.lt_of_lt_of_le h.hbs hb.size, h.hmade.below hb (Nat.le_refl _)⟩
set_option maxHeartbeats 4000000 in
theorem cop_any (w : World) (o : Cop) (pa : Option Addr) (pc V L : Nat) (buf : Int) (ma : Option Addr) (mc : Nat) (made : List Bool) (sb : Nat) (hs : ScopeAt w sb V L buf ma mc made) (hV : V ≤ 6) (hpe : monoRep.Els w pa o.p) (hpl : o.p.length ≤ 9223372036854775807) :
    Calls Try.prog 44 #[.pointer (some ⟨sb, 0, none⟩), .agg #[.int .i64 o.how, .int .i64 o.k, .int .i64 o.n, .slice pa o.p.length pc, .int .u8 o.fn]] w fun e w' => e = .returned (.bool (opS V L made buf o)) ∧ Below w.heap.size w w' := by
  obtain ⟨how, k, n, p, fn⟩ := o
  dsimp only at hpe hpl ⊢
  obtain ⟨s0, s1, s2, s3, hbs, hmade⟩ := hs
  by_cases h0 : how = 1 ∨ how = 2 ∨ how = 3 ∨ how = 4 ∨ how = 5 ∨ how = 6
  · rcases h0 with rfl | rfl | rfl | rfl | rfl | rfl
    · exact cop1_any w k n fn p pa pc V L buf ma mc made sb s0 s1 s2 s3 hbs
    · exact cop2_any w k n fn p pa pc V L buf ma mc made sb s0 s1 s2 s3 hbs hV hpe hpl
    · exact cop3_any w k n fn p pa pc V L buf ma mc made sb s0 s1 s2 s3 hbs
    · exact cop4_any w k n fn p pa pc V L buf ma mc made sb s0 s1 s2 s3 hbs hmade
    · exact cop5_any w k n fn p pa pc V L buf ma mc made sb s0 s1 s2 s3 hbs
    · exact cop6_any w k n fn p pa pc V L buf ma mc made sb s0 s1 s2 s3 hbs
  have HV := Lib.hid (show opS V L made buf ⟨how, k, n, p, fn⟩ = false from by unfold opS opB; dsimp only; rw [if_neg (by omega), if_neg (by omega), if_neg (by omega), if_neg (by omega), if_neg (by omega), if_neg (by omega), Bool.false_and])
  have hbx : Below w.heap.size w (w.alloc (.cells #[.int .i64 how, .int .i64 k, .int .i64 n, .slice pa p.length pc, .int .u8 fn] 48)) := (Below.refl _ _).alloc (Nat.le_refl _) _
  have HBX := Lib.hid hbx
  have g1 : (how == 1) = false := by simp; omega
  have g2 : (how == 2) = false := by simp; omega
  have g3 : (how == 3) = false := by simp; omega
  have g4 : (how == 4) = false := by simp; omega
  have g5 : (how == 5) = false := by simp; omega
  have g6 : (how == 6) = false := by simp; omega
  clear h0 hpe hmade hpl hbx s0 s1 s2 s3
  go_enter Try.func44, Try.ntmps44
  go_upto_region 1 with fail
  go_quiet (fail)
  go_wp2_with fail
  go_ret
  exact ⟨ret_bool HV.out.symm, drewBelow HBX.out _⟩
set_option maxHeartbeats 4000000 in
theorem copnot_any (w : World) (o : Cop) (pa : Option Addr) (pc V L : Nat) (buf : Int) (ma : Option Addr) (mc : Nat) (made : List Bool) (sb : Nat) (q : Addr) (hq : w.cell? q = some (.pointer (some ⟨sb, 0, none⟩))) (hs : ScopeAt w sb V L buf ma mc made) (hV : V ≤ 6) (hpe : monoRep.Els w pa o.p) (hpl : o.p.length ≤ 9223372036854775807) :
    Calls Try.prog 43 #[.agg #[.int .i64 o.how, .int .i64 o.k, .int .i64 o.n, .slice pa o.p.length pc, .int .u8 o.fn], .pointer (some q)] w fun e w' => e = .returned (.bool (!opS V L made buf o)) ∧ Below w.heap.size w w' := by
  obtain ⟨how, k, n, p, fn⟩ := o
  dsimp only at hpe hpl ⊢
  have hbx : Below w.heap.size w (w.alloc (.cells #[.int .i64 how, .int .i64 k, .int .i64 n, .slice pa p.length pc, .int .u8 fn] 48)) := (Below.refl _ _).alloc (Nat.le_refl _) _
  have hc := cop_any (w.alloc (.cells #[.int .i64 how, .int .i64 k, .int .i64 n, .slice pa p.length pc, .int .u8 fn] 48)) ⟨how, k, n, p, fn⟩ pa pc V L buf ma mc made sb (hs.below hbx) hV (hpe.below monoRep hbx (Nat.le_refl _)) hpl
  dsimp only at hc
  have hqb := World.block_lt_of_cell? _ _ hq
  obtain ⟨b, hb⟩ : ∃ b, opS V L made buf ⟨how, k, n, p, fn⟩ = b := ⟨_, rfl⟩
  rw [hb] at hc ⊢
  have HC := Lib.hid hc; have HBX := Lib.hid hbx
  clear hc hbx hs hpe hb
  go_enter Try.func43, Try.ntmps43
  go_wp2_with (go_at_call 44; refine HC.out.mono ?_; rintro e w1 ⟨rfl, hb1⟩)
  all_goals (go_ret; exact ⟨rfl, bNext hb1 HBX.out⟩)
end Go.Proofs.Ytabodlhlanolcaa
