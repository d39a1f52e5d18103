import Derived.Test.YtmlfeocdcjhhaaaPG9
import Derived.Test.YtmlfeocdcjhhaaaPG3
namespace Go.Proofs.Ytmlfeocdcjhhaaa
set_option maxRecDepth 100000
open Go.RowKit
set_option linter.unusedVariables false
set_option linter.unusedSimpArgs false
attribute [local go_sem ↓] Go.wp_at_zero Go.wp_at_succ

/-! (*core.scope).right. (Printed by gen_cop.py.) -/
def opS (V L : Nat) (made : List Bool) (buf : Int) (o : Cop) : Bool := opB V L made o && !(o.how == 4 && o.k == buf)
theorem drewBelow {w w' : World} (h : Below w.heap.size w w') (n : Nat) : Below w.heap.size w (w'.drewN n) := bNext (Below.drewN _ _) h
section
variable (w : World) (k n fn : Int) (p : List Mono) (pa : Option Addr) (pc V L : Nat) (buf : Int) (ma : Option Addr) (mc : Nat) (made : List Bool) (sb : Nat)
set_option maxHeartbeats 8000000 in
theorem cop1_any (s0 : w.cell? ⟨sb, 0, none⟩ = some (.int .i64 V)) (s1 : w.cell? ⟨sb, 1, none⟩ = some (.int .i64 L)) (s2 : w.cell? ⟨sb, 2, none⟩ = some (.int .i64 buf)) (s3 : w.cell? ⟨sb, 3, none⟩ = some (.slice ma made.length mc)) (hbs : sb < w.heap.size) : Calls Try.prog 88 #[.pointer (some ⟨sb, 0, none⟩), .agg #[.int .i64 1, .int .i64 k, .int .i64 n, .slice pa p.length pc, .int .u8 fn]] w fun e w' => e = .returned (.bool (opS V L made buf ⟨1, k, n, p, fn⟩)) ∧ Below w.heap.size w w' := by
  have hbx : Below w.heap.size w (w.alloc (.cells #[.int .i64 1, .int .i64 k, .int .i64 n, .slice pa p.length pc, .int .u8 fn] 44)) := (Below.refl _ _).alloc (Nat.le_refl _) _
  obtain ⟨pn, hpn⟩ : ∃ pn, p.length = pn := ⟨_, rfl⟩
  have hB : ∀ b, (k == 0 && decide (pn = 0) && fn == 0) = b → opS V L made buf ⟨1, k, n, p, fn⟩ = b := fun b h => by rw [← h, ← hpn]; simp [opS, opB]
  rw [hpn] at hbx
  rw [hpn]; clear hpn
  have HBX := Lib.hid hbx; clear hbx
  by_cases hk : k = 0
  · subst hk
    by_cases hp : pn = 0
    · subst hp
      by_cases hf : fn = 0
      · subst hf
        have HB := Lib.hid (hB true (by simp []))
        clear hB s0 s1 s2 s3 hbs
        go_enter Try.func88, Try.ntmps88
        go_upto_region 1 with fail
        go_quiet (fail)
        go_wp2_with fail
        go_ret
        exact ⟨ret_bool HB.out.symm, drewBelow HBX.out _⟩
      · have hf' : (fn == 0) = false := by simp [hf]
        have HB := Lib.hid (hB false (by simp [hf]))
        clear hB s0 s1 s2 s3 hbs
        go_enter Try.func88, Try.ntmps88
        go_upto_region 1 with fail
        go_quiet (fail)
        go_wp2_with fail
        go_ret
        exact ⟨ret_bool HB.out.symm, drewBelow HBX.out _⟩
    · have hp' : ((pn : Int) == 0) = false := by simp; omega
      have hp2 : (pn == 0) = false := by simp; omega
      have HB := Lib.hid (hB false (by simp [hp]))
      clear hB s0 s1 s2 s3 hbs
      go_enter Try.func88, Try.ntmps88
      go_upto_region 1 with fail
      go_quiet (fail)
      go_wp2_with fail
      go_ret
      exact ⟨ret_bool HB.out.symm, drewBelow HBX.out _⟩
  · have hk' : (k == 0) = false := by simp [hk]
    have HB := Lib.hid (hB false (by simp [hk]))
    clear hB s0 s1 s2 s3 hbs
    go_enter Try.func88, Try.ntmps88
    go_upto_region 1 with fail
    go_quiet (fail)
    go_wp2_with fail
    go_ret
    exact ⟨ret_bool HB.out.symm, drewBelow HBX.out _⟩
set_option maxHeartbeats 8000000 in
theorem cop2_any (s0 : w.cell? ⟨sb, 0, none⟩ = some (.int .i64 V)) (s1 : w.cell? ⟨sb, 1, none⟩ = some (.int .i64 L)) (s2 : w.cell? ⟨sb, 2, none⟩ = some (.int .i64 buf)) (s3 : w.cell? ⟨sb, 3, none⟩ = some (.slice ma made.length mc)) (hbs : sb < w.heap.size) (hV : V ≤ 6) (hpe : monoRep.Els w pa p) (hpl : p.length ≤ 9223372036854775807) : Calls Try.prog 88 #[.pointer (some ⟨sb, 0, none⟩), .agg #[.int .i64 2, .int .i64 k, .int .i64 n, .slice pa p.length pc, .int .u8 fn]] w fun e w' => e = .returned (.bool (opS V L made buf ⟨2, k, n, p, fn⟩)) ∧ Below w.heap.size w w' := by
  have hbx : Below w.heap.size w (w.alloc (.cells #[.int .i64 2, .int .i64 k, .int .i64 n, .slice pa p.length pc, .int .u8 fn] 44)) := (Below.refl _ _).alloc (Nat.le_refl _) _
  have hown := fun W (hb : Below w.heap.size w W) => of_any W pa pc p V hV (hpe.below monoRep hb (Nat.le_refl _)) hpl
  clear hpe
  obtain ⟨pn, hpn⟩ : ∃ pn, p.length = pn := ⟨_, rfl⟩
  have hB : ∀ b, (ownB V p && n == 0 && k == 0 && fn == 0) = b → opS V L made buf ⟨2, k, n, p, fn⟩ = b := fun b h => by rw [← h]; simp [opS, opB]; cases ownB V p <;> simp <;> (try (cases (k == 0) <;> cases (n == 0) <;> rfl))
  rw [hpn] at hbx hown
  rw [hpn]; clear hpn
  have hn0 := World.alloc_heap_new w (.cells #[.int .i64 2, .int .i64 k, .int .i64 n, .slice pa pn pc, .int .u8 fn] 44)
  obtain ⟨opc, hopc⟩ : ∃ l : List Value, l = [.int .i64 2, .int .i64 k, .int .i64 n, .slice pa pn pc, .int .u8 fn] := ⟨_, rfl⟩
  have HN0 : Hid (∀ nq, ((w.alloc (.cells #[.int .i64 2, .int .i64 k, .int .i64 n, .slice pa pn pc, .int .u8 fn] 44)).drewN nq).heap[w.heap.size]? = some (.cells opc.toArray 44 (0, 0))) := Lib.hid fun nq => by rw [hopc]; exact hn0
  have OPC := Lib.hid hopc; clear hopc hn0
  have HBX := Lib.hid hbx; clear hbx
  cases ho : ownB V p with
  | true =>
    rw [ho] at hown
    have HO := Lib.hid hown
    clear hown
    by_cases hn : n = 0
    · subst hn
      by_cases hk : k = 0
      · subst hk
        by_cases hf : fn = 0
        · subst hf
          have HB := Lib.hid (hB true (by simp [ho]))
          clear hB ho
          go_enter Try.func88, Try.ntmps88
          go_upto_region 1 with fail
          go_quiet (fail)
          go_upto_region 7 with fail
          refine gen_worldA (fun W => Below w.heap.size w W ∧ W.heap[w.heap.size]? = some (.cells opc.toArray 44 (0, 0))) ⟨drewBelow HBX.out _, HN0.out _⟩ ?_
          rintro W ⟨hbW, g0⟩
          have hq : ∀ p' : BelowW W, Calls Try.prog 85 #[.slice pa pn pc, .int .i64 V] p'.world fun e w' => e = .returned (.bool true) ∧ Below p'.world.heap.size p'.world w' := fun p' => HO.out _ (bNext p'.below hbW)
          have y3 : W.cell? ⟨w.heap.size, 3, none⟩ = some (.slice pa pn pc) := (blockCells g0 3).trans (by rw [OPC.out]; rfl)
          have y0 := keepCell hbW s0
          have f0 := cellBW y0; have f3 := cellBW y3
          have HQ := Lib.hid hq; have HBW := Lib.hid hbW
          clear hq hbW g0 y0 y3 s0 s1 s2 s3 hbs HBX HN0 HO
          refine wp_region_below (by kernel_rfl) (by kernel_rfl) ?_
          repeat (go_big_quiet_step (refine callsBW (HQ.out _)))
          refine wpQuiet_nil ?_
          rintro _ ⟨⟨wq, hwq⟩, rfl⟩
          clear f0 f3
          go_wp2_with fail
          go_ret
          exact ⟨ret_bool HB.out.symm, bNext hwq HBW.out⟩
        · have hf' : (fn == 0) = false := by simp [hf]
          have HB := Lib.hid (hB false (by simp [ho, hf]))
          clear hB ho
          go_enter Try.func88, Try.ntmps88
          go_upto_region 1 with fail
          go_quiet (fail)
          go_upto_region 7 with fail
          refine gen_worldA (fun W => Below w.heap.size w W ∧ W.heap[w.heap.size]? = some (.cells opc.toArray 44 (0, 0))) ⟨drewBelow HBX.out _, HN0.out _⟩ ?_
          rintro W ⟨hbW, g0⟩
          have hq : ∀ p' : BelowW W, Calls Try.prog 85 #[.slice pa pn pc, .int .i64 V] p'.world fun e w' => e = .returned (.bool true) ∧ Below p'.world.heap.size p'.world w' := fun p' => HO.out _ (bNext p'.below hbW)
          have y3 : W.cell? ⟨w.heap.size, 3, none⟩ = some (.slice pa pn pc) := (blockCells g0 3).trans (by rw [OPC.out]; rfl)
          have y0 := keepCell hbW s0
          have f0 := cellBW y0; have f3 := cellBW y3
          have HQ := Lib.hid hq; have HBW := Lib.hid hbW
          clear hq hbW g0 y0 y3 s0 s1 s2 s3 hbs HBX HN0 HO
          refine wp_region_below (by kernel_rfl) (by kernel_rfl) ?_
          repeat (go_big_quiet_step (refine callsBW (HQ.out _)))
          refine wpQuiet_nil ?_
          rintro _ ⟨⟨wq, hwq⟩, rfl⟩
          clear f0 f3
          go_wp2_with fail
          go_ret
          exact ⟨ret_bool HB.out.symm, bNext hwq HBW.out⟩
      · have hk' : (k == 0) = false := by simp [hk]
        have HB := Lib.hid (hB false (by simp [ho, hk]))
        clear hB ho
        go_enter Try.func88, Try.ntmps88
        go_upto_region 1 with fail
        go_quiet (fail)
        go_upto_region 7 with fail
        refine gen_worldA (fun W => Below w.heap.size w W ∧ W.heap[w.heap.size]? = some (.cells opc.toArray 44 (0, 0))) ⟨drewBelow HBX.out _, HN0.out _⟩ ?_
        rintro W ⟨hbW, g0⟩
        have hq : ∀ p' : BelowW W, Calls Try.prog 85 #[.slice pa pn pc, .int .i64 V] p'.world fun e w' => e = .returned (.bool true) ∧ Below p'.world.heap.size p'.world w' := fun p' => HO.out _ (bNext p'.below hbW)
        have y3 : W.cell? ⟨w.heap.size, 3, none⟩ = some (.slice pa pn pc) := (blockCells g0 3).trans (by rw [OPC.out]; rfl)
        have y0 := keepCell hbW s0
        have f0 := cellBW y0; have f3 := cellBW y3
        have HQ := Lib.hid hq; have HBW := Lib.hid hbW
        clear hq hbW g0 y0 y3 s0 s1 s2 s3 hbs HBX HN0 HO
        refine wp_region_below (by kernel_rfl) (by kernel_rfl) ?_
        repeat (go_big_quiet_step (refine callsBW (HQ.out _)))
        refine wpQuiet_nil ?_
        rintro _ ⟨⟨wq, hwq⟩, rfl⟩
        clear f0 f3
        go_wp2_with fail
        go_ret
        exact ⟨ret_bool HB.out.symm, bNext hwq HBW.out⟩
    · have hn' : (n == 0) = false := by simp [hn]
      have HB := Lib.hid (hB false (by simp [ho, hn]))
      clear hB ho
      go_enter Try.func88, Try.ntmps88
      go_upto_region 1 with fail
      go_quiet (fail)
      go_upto_region 7 with fail
      refine gen_worldA (fun W => Below w.heap.size w W ∧ W.heap[w.heap.size]? = some (.cells opc.toArray 44 (0, 0))) ⟨drewBelow HBX.out _, HN0.out _⟩ ?_
      rintro W ⟨hbW, g0⟩
      have hq : ∀ p' : BelowW W, Calls Try.prog 85 #[.slice pa pn pc, .int .i64 V] p'.world fun e w' => e = .returned (.bool true) ∧ Below p'.world.heap.size p'.world w' := fun p' => HO.out _ (bNext p'.below hbW)
      have y3 : W.cell? ⟨w.heap.size, 3, none⟩ = some (.slice pa pn pc) := (blockCells g0 3).trans (by rw [OPC.out]; rfl)
      have y0 := keepCell hbW s0
      have f0 := cellBW y0; have f3 := cellBW y3
      have HQ := Lib.hid hq; have HBW := Lib.hid hbW
      clear hq hbW g0 y0 y3 s0 s1 s2 s3 hbs HBX HN0 HO
      refine wp_region_below (by kernel_rfl) (by kernel_rfl) ?_
      repeat (go_big_quiet_step (refine callsBW (HQ.out _)))
      refine wpQuiet_nil ?_
      rintro _ ⟨⟨wq, hwq⟩, rfl⟩
      clear f0 f3
      go_wp2_with fail
      go_ret
      exact ⟨ret_bool HB.out.symm, bNext hwq HBW.out⟩
  | false =>
    rw [ho] at hown
    have HO := Lib.hid hown
    clear hown
    have HB := Lib.hid (hB false (by simp [ho]))
    clear hB ho
    go_enter Try.func88, Try.ntmps88
    go_upto_region 1 with fail
    go_quiet (fail)
    go_upto_region 7 with fail
    refine gen_worldA (fun W => Below w.heap.size w W ∧ W.heap[w.heap.size]? = some (.cells opc.toArray 44 (0, 0))) ⟨drewBelow HBX.out _, HN0.out _⟩ ?_
    rintro W ⟨hbW, g0⟩
    have hq : ∀ p' : BelowW W, Calls Try.prog 85 #[.slice pa pn pc, .int .i64 V] p'.world fun e w' => e = .returned (.bool false) ∧ Below p'.world.heap.size p'.world w' := fun p' => HO.out _ (bNext p'.below hbW)
    have y3 : W.cell? ⟨w.heap.size, 3, none⟩ = some (.slice pa pn pc) := (blockCells g0 3).trans (by rw [OPC.out]; rfl)
    have y0 := keepCell hbW s0
    have f0 := cellBW y0; have f3 := cellBW y3
    have HQ := Lib.hid hq; have HBW := Lib.hid hbW
    clear hq hbW g0 y0 y3 s0 s1 s2 s3 hbs HBX HN0 HO
    refine wp_region_below (by kernel_rfl) (by kernel_rfl) ?_
    repeat (go_big_quiet_step (refine callsBW (HQ.out _)))
    refine wpQuiet_nil ?_
    rintro _ ⟨⟨wq, hwq⟩, rfl⟩
    clear f0 f3
    go_wp2_with fail
    go_ret
    exact ⟨ret_bool HB.out.symm, bNext hwq HBW.out⟩
set_option maxHeartbeats 8000000 in
theorem cop3_any (s0 : w.cell? ⟨sb, 0, none⟩ = some (.int .i64 V)) (s1 : w.cell? ⟨sb, 1, none⟩ = some (.int .i64 L)) (s2 : w.cell? ⟨sb, 2, none⟩ = some (.int .i64 buf)) (s3 : w.cell? ⟨sb, 3, none⟩ = some (.slice ma made.length mc)) (hbs : sb < w.heap.size) : Calls Try.prog 88 #[.pointer (some ⟨sb, 0, none⟩), .agg #[.int .i64 3, .int .i64 k, .int .i64 n, .slice pa p.length pc, .int .u8 fn]] w fun e w' => e = .returned (.bool (opS V L made buf ⟨3, k, n, p, fn⟩)) ∧ Below w.heap.size w w' := by
  have hbx : Below w.heap.size w (w.alloc (.cells #[.int .i64 3, .int .i64 k, .int .i64 n, .slice pa p.length pc, .int .u8 fn] 44)) := (Below.refl _ _).alloc (Nat.le_refl _) _
  obtain ⟨pn, hpn⟩ : ∃ pn, p.length = pn := ⟨_, rfl⟩
  have hB : ∀ b, (decide (0 ≤ k) && decide (k < L) && n == 0 && decide (pn = 0) && fn == 0) = b → opS V L made buf ⟨3, k, n, p, fn⟩ = b := fun b h => by rw [← h, ← hpn]; simp [opS, opB]
  rw [hpn] at hbx
  rw [hpn]; clear hpn
  have HBX := Lib.hid hbx; clear hbx
  by_cases h0 : 0 ≤ k
  · obtain ⟨kn, rfl⟩ : ∃ kn : Nat, k = kn := ⟨k.toNat, by omega⟩
    by_cases hL : kn < L
    · have hL' : (kn : Int) < (L : Int) := by omega
      by_cases hn : n = 0
      · subst hn
        by_cases hp : pn = 0
        · subst hp
          by_cases hf : fn = 0
          · subst hf
            have HB := Lib.hid (hB true (by simp [hL]))
            clear hB
            go_enter Try.func88, Try.ntmps88
            go_upto_region 1 with fail
            go_quiet (fail)
            go_upto_region 9 with fail
            go_quiet (fail)
            go_wp2_with fail
            go_ret
            exact ⟨ret_bool HB.out.symm, drewBelow HBX.out _⟩
          · have hf' : (fn == 0) = false := by simp [hf]
            have HB := Lib.hid (hB false (by simp [hL, hf]))
            clear hB
            go_enter Try.func88, Try.ntmps88
            go_upto_region 1 with fail
            go_quiet (fail)
            go_upto_region 9 with fail
            go_quiet (fail)
            go_wp2_with fail
            go_ret
            exact ⟨ret_bool HB.out.symm, drewBelow HBX.out _⟩
        · have hp' : ((pn : Int) == 0) = false := by simp; omega
          have hp2 : (pn == 0) = false := by simp; omega
          have HB := Lib.hid (hB false (by simp [hL, hp]))
          clear hB
          go_enter Try.func88, Try.ntmps88
          go_upto_region 1 with fail
          go_quiet (fail)
          go_upto_region 9 with fail
          go_quiet (fail)
          go_wp2_with fail
          go_ret
          exact ⟨ret_bool HB.out.symm, drewBelow HBX.out _⟩
      · have hn' : (n == 0) = false := by simp [hn]
        have HB := Lib.hid (hB false (by simp [hL, hn]))
        clear hB
        go_enter Try.func88, Try.ntmps88
        go_upto_region 1 with fail
        go_quiet (fail)
        go_upto_region 9 with fail
        go_quiet (fail)
        go_wp2_with fail
        go_ret
        exact ⟨ret_bool HB.out.symm, drewBelow HBX.out _⟩
    · have hL' : decide ((kn : Int) < (L : Int)) = false := by simp; omega
      have hL2 : decide (kn < L) = false := by simp; omega
      have HB := Lib.hid (hB false (by simp [hL]))
      clear hB
      go_enter Try.func88, Try.ntmps88
      go_upto_region 1 with fail
      go_quiet (fail)
      go_upto_region 9 with fail
      go_quiet (fail)
      go_wp2_with fail
      go_ret
      exact ⟨ret_bool HB.out.symm, drewBelow HBX.out _⟩
  · have h0' : decide (0 ≤ k) = false := by simpa using h0
    have h0i : k < 0 := by omega
    have HB := Lib.hid (hB false (by simp [h0]))
    clear hB
    go_enter Try.func88, Try.ntmps88
    go_upto_region 1 with fail
    go_quiet (fail)
    go_upto_region 9 with fail
    go_quiet (fail)
    go_wp2_with fail
    go_ret
    exact ⟨ret_bool HB.out.symm, drewBelow HBX.out _⟩
set_option maxHeartbeats 8000000 in
theorem cop4_any (s0 : w.cell? ⟨sb, 0, none⟩ = some (.int .i64 V)) (s1 : w.cell? ⟨sb, 1, none⟩ = some (.int .i64 L)) (s2 : w.cell? ⟨sb, 2, none⟩ = some (.int .i64 buf)) (s3 : w.cell? ⟨sb, 3, none⟩ = some (.slice ma made.length mc)) (hbs : sb < w.heap.size) (hmade : MadeAt w ma made) : Calls Try.prog 88 #[.pointer (some ⟨sb, 0, none⟩), .agg #[.int .i64 4, .int .i64 k, .int .i64 n, .slice pa p.length pc, .int .u8 fn]] w fun e w' => e = .returned (.bool (opS V L made buf ⟨4, k, n, p, fn⟩)) ∧ Below w.heap.size w w' := by
  have hbx : Below w.heap.size w (w.alloc (.cells #[.int .i64 4, .int .i64 k, .int .i64 n, .slice pa p.length pc, .int .u8 fn] 44)) := (Below.refl _ _).alloc (Nat.le_refl _) _
  obtain ⟨pn, hpn⟩ : ∃ pn, p.length = pn := ⟨_, rfl⟩
  have hB : ∀ b, (madeB made k && !(k == buf) && n == 0 && decide (pn = 0) && fn == 0) = b → opS V L made buf ⟨4, k, n, p, fn⟩ = b := fun b h => by rw [← h, ← hpn]; simp only [opS, opB]; cases madeB made k <;> simp <;> (try (cases hkb : k == buf <;> simp))
  rw [hpn] at hbx
  rw [hpn]; clear hpn
  have HBX := Lib.hid hbx; clear hbx
  by_cases h0 : 0 ≤ k
  · obtain ⟨kn, rfl⟩ : ∃ kn : Nat, k = kn := ⟨k.toNat, by omega⟩
    by_cases hM : kn < made.length
    · have hM' : (kn : Int) < (made.length : Int) := by omega
      obtain ⟨mb, off, rfl, xm⟩ := hmade kn hM
      have hbm := World.block_lt_of_cell? _ _ xm
      obtain ⟨mk, hmk⟩ : ∃ mk, made[kn] = mk := ⟨_, rfl⟩
      rw [hmk] at xm
      cases hm : mk with
      | true =>
        subst hm
        by_cases hb : ¬ (kn : Int) = buf
        · have hb' : ((kn : Int) == buf) = false := by simp [hb]
          have hb2 : ((kn : Int) != buf) = true := by simp [hb]
          by_cases hn : n = 0
          · subst hn
            by_cases hp : pn = 0
            · subst hp
              by_cases hf : fn = 0
              · subst hf
                have HB := Lib.hid (hB true (by simp [madeB_nat hM, hmk, hb]))
                clear hB hmk
                go_enter Try.func88, Try.ntmps88
                go_upto_region 1 with fail
                go_quiet (fail)
                go_upto_region 11 with fail
                go_quiet (fail)
                go_wp2_with fail
                go_ret
                exact ⟨ret_bool HB.out.symm, drewBelow HBX.out _⟩
              · have hf' : (fn == 0) = false := by simp [hf]
                have HB := Lib.hid (hB false (by simp [madeB_nat hM, hmk, hb, hf]))
                clear hB hmk
                go_enter Try.func88, Try.ntmps88
                go_upto_region 1 with fail
                go_quiet (fail)
                go_upto_region 11 with fail
                go_quiet (fail)
                go_wp2_with fail
                go_ret
                exact ⟨ret_bool HB.out.symm, drewBelow HBX.out _⟩
            · have hp' : ((pn : Int) == 0) = false := by simp; omega
              have hp2 : (pn == 0) = false := by simp; omega
              have HB := Lib.hid (hB false (by simp [madeB_nat hM, hmk, hb, hp]))
              clear hB hmk
              go_enter Try.func88, Try.ntmps88
              go_upto_region 1 with fail
              go_quiet (fail)
              go_upto_region 11 with fail
              go_quiet (fail)
              go_wp2_with fail
              go_ret
              exact ⟨ret_bool HB.out.symm, drewBelow HBX.out _⟩
          · have hn' : (n == 0) = false := by simp [hn]
            have HB := Lib.hid (hB false (by simp [madeB_nat hM, hmk, hb, hn]))
            clear hB hmk
            go_enter Try.func88, Try.ntmps88
            go_upto_region 1 with fail
            go_quiet (fail)
            go_upto_region 11 with fail
            go_quiet (fail)
            go_wp2_with fail
            go_ret
            exact ⟨ret_bool HB.out.symm, drewBelow HBX.out _⟩
        · have hb := Classical.not_not.1 hb
          subst hb
          have HB := Lib.hid (hB false (by simp [madeB_nat hM, hmk]))
          clear hB hmk
          go_enter Try.func88, Try.ntmps88
          go_upto_region 1 with fail
          go_quiet (fail)
          go_upto_region 11 with fail
          go_quiet (fail)
          go_wp2_with fail
          go_ret
          exact ⟨ret_bool HB.out.symm, drewBelow HBX.out _⟩
      | false =>
        subst hm
        have HB := Lib.hid (hB false (by simp [madeB_nat hM, hmk]))
        clear hB hmk
        go_enter Try.func88, Try.ntmps88
        go_upto_region 1 with fail
        go_quiet (fail)
        go_upto_region 11 with fail
        go_quiet (fail)
        go_wp2_with fail
        go_ret
        exact ⟨ret_bool HB.out.symm, drewBelow HBX.out _⟩
    · have hM' : decide ((kn : Int) < (made.length : Int)) = false := by simp; omega
      have hM2 : decide (kn < made.length) = false := by simp; omega
      have HB := Lib.hid (hB false (by simp [madeB_long hM]))
      clear hB
      go_enter Try.func88, Try.ntmps88
      go_upto_region 1 with fail
      go_quiet (fail)
      go_upto_region 11 with fail
      go_quiet (fail)
      go_wp2_with fail
      go_ret
      exact ⟨ret_bool HB.out.symm, drewBelow HBX.out _⟩
  · have h0' : decide (0 ≤ k) = false := by simpa using h0
    have h0i : k < 0 := by omega
    have HB := Lib.hid (hB false (by simp [h0, madeB_neg h0]))
    clear hB
    go_enter Try.func88, Try.ntmps88
    go_upto_region 1 with fail
    go_quiet (fail)
    go_upto_region 11 with fail
    go_quiet (fail)
    go_wp2_with fail
    go_ret
    exact ⟨ret_bool HB.out.symm, drewBelow HBX.out _⟩
set_option maxHeartbeats 8000000 in
theorem cop5_any (s0 : w.cell? ⟨sb, 0, none⟩ = some (.int .i64 V)) (s1 : w.cell? ⟨sb, 1, none⟩ = some (.int .i64 L)) (s2 : w.cell? ⟨sb, 2, none⟩ = some (.int .i64 buf)) (s3 : w.cell? ⟨sb, 3, none⟩ = some (.slice ma made.length mc)) (hbs : sb < w.heap.size) : Calls Try.prog 88 #[.pointer (some ⟨sb, 0, none⟩), .agg #[.int .i64 5, .int .i64 k, .int .i64 n, .slice pa p.length pc, .int .u8 fn]] w fun e w' => e = .returned (.bool (opS V L made buf ⟨5, k, n, p, fn⟩)) ∧ Below w.heap.size w w' := by
  have hbx : Below w.heap.size w (w.alloc (.cells #[.int .i64 5, .int .i64 k, .int .i64 n, .slice pa p.length pc, .int .u8 fn] 44)) := (Below.refl _ _).alloc (Nat.le_refl _) _
  have htk := fun W => takes_any W fn false
  obtain ⟨pn, hpn⟩ : ∃ pn, p.length = pn := ⟨_, rfl⟩
  have hB : ∀ b, (takes fn false && n == 0 && k == 0 && decide (pn = 0)) = b → opS V L made buf ⟨5, k, n, p, fn⟩ = b := fun b h => by rw [← h, ← hpn]; simp [opS, opB]; cases takes fn false <;> simp <;> (try (cases (k == 0) <;> cases (n == 0) <;> rfl))
  rw [hpn] at hbx
  rw [hpn]; clear hpn
  have HBX := Lib.hid hbx; clear hbx
  cases ht : takes fn false with
  | true =>
    rw [ht] at htk
    have HT := Lib.hid htk
    clear htk
    by_cases hn : n = 0
    · subst hn
      by_cases hk : k = 0
      · subst hk
        by_cases hp : pn = 0
        · subst hp
          have HB := Lib.hid (hB true (by simp [ht]))
          clear hB ht s0 s1 s2 s3 hbs
          go_enter Try.func88, Try.ntmps88
          go_upto_region 1 with fail
          go_quiet (fail)
          go_wp2_with (go_at_call 23; refine (HT.out _).mono ?_; rintro e w1 ⟨rfl, rfl⟩)
          go_ret
          exact ⟨ret_bool HB.out.symm, drewBelow HBX.out _⟩
        · have hp' : ((pn : Int) == 0) = false := by simp; omega
          have hp2 : (pn == 0) = false := by simp; omega
          have HB := Lib.hid (hB false (by simp [ht, hp]))
          clear hB ht s0 s1 s2 s3 hbs
          go_enter Try.func88, Try.ntmps88
          go_upto_region 1 with fail
          go_quiet (fail)
          go_wp2_with (go_at_call 23; refine (HT.out _).mono ?_; rintro e w1 ⟨rfl, rfl⟩)
          go_ret
          exact ⟨ret_bool HB.out.symm, drewBelow HBX.out _⟩
      · have hk' : (k == 0) = false := by simp [hk]
        have HB := Lib.hid (hB false (by simp [ht, hk]))
        clear hB ht s0 s1 s2 s3 hbs
        go_enter Try.func88, Try.ntmps88
        go_upto_region 1 with fail
        go_quiet (fail)
        go_wp2_with (go_at_call 23; refine (HT.out _).mono ?_; rintro e w1 ⟨rfl, rfl⟩)
        go_ret
        exact ⟨ret_bool HB.out.symm, drewBelow HBX.out _⟩
    · have hn' : (n == 0) = false := by simp [hn]
      have HB := Lib.hid (hB false (by simp [ht, hn]))
      clear hB ht s0 s1 s2 s3 hbs
      go_enter Try.func88, Try.ntmps88
      go_upto_region 1 with fail
      go_quiet (fail)
      go_wp2_with (go_at_call 23; refine (HT.out _).mono ?_; rintro e w1 ⟨rfl, rfl⟩)
      go_ret
      exact ⟨ret_bool HB.out.symm, drewBelow HBX.out _⟩
  | false =>
    rw [ht] at htk
    have HT := Lib.hid htk
    clear htk
    have HB := Lib.hid (hB false (by simp [ht]))
    clear hB ht s0 s1 s2 s3 hbs
    go_enter Try.func88, Try.ntmps88
    go_upto_region 1 with fail
    go_quiet (fail)
    go_wp2_with (go_at_call 23; refine (HT.out _).mono ?_; rintro e w1 ⟨rfl, rfl⟩)
    go_ret
    exact ⟨ret_bool HB.out.symm, drewBelow HBX.out _⟩
set_option maxHeartbeats 8000000 in
theorem cop6_any (s0 : w.cell? ⟨sb, 0, none⟩ = some (.int .i64 V)) (s1 : w.cell? ⟨sb, 1, none⟩ = some (.int .i64 L)) (s2 : w.cell? ⟨sb, 2, none⟩ = some (.int .i64 buf)) (s3 : w.cell? ⟨sb, 3, none⟩ = some (.slice ma made.length mc)) (hbs : sb < w.heap.size) : Calls Try.prog 88 #[.pointer (some ⟨sb, 0, none⟩), .agg #[.int .i64 6, .int .i64 k, .int .i64 n, .slice pa p.length pc, .int .u8 fn]] w fun e w' => e = .returned (.bool (opS V L made buf ⟨6, k, n, p, fn⟩)) ∧ Below w.heap.size w w' := by
  have hbx : Below w.heap.size w (w.alloc (.cells #[.int .i64 6, .int .i64 k, .int .i64 n, .slice pa p.length pc, .int .u8 fn] 44)) := (Below.refl _ _).alloc (Nat.le_refl _) _
  have htk := fun W => takes_any W fn true
  obtain ⟨pn, hpn⟩ : ∃ pn, p.length = pn := ⟨_, rfl⟩
  have hB : ∀ b, (takes fn true && n == 0 && k == 0 && decide (pn = 0)) = b → opS V L made buf ⟨6, k, n, p, fn⟩ = b := fun b h => by rw [← h, ← hpn]; simp [opS, opB]; cases takes fn true <;> simp <;> (try (cases (k == 0) <;> cases (n == 0) <;> rfl))
  rw [hpn] at hbx
  rw [hpn]; clear hpn
  have HBX := Lib.hid hbx; clear hbx
  cases ht : takes fn true with
  | true =>
    rw [ht] at htk
    have HT := Lib.hid htk
    clear htk
    by_cases hn : n = 0
    · subst hn
      by_cases hk : k = 0
      · subst hk
        by_cases hp : pn = 0
        · subst hp
          have HB := Lib.hid (hB true (by simp [ht]))
          clear hB ht s0 s1 s2 s3 hbs
          go_enter Try.func88, Try.ntmps88
          go_upto_region 1 with fail
          go_quiet (fail)
          go_wp2_with (go_at_call 23; refine (HT.out _).mono ?_; rintro e w1 ⟨rfl, rfl⟩)
          go_ret
          exact ⟨ret_bool HB.out.symm, drewBelow HBX.out _⟩
        · have hp' : ((pn : Int) == 0) = false := by simp; omega
          have hp2 : (pn == 0) = false := by simp; omega
          have HB := Lib.hid (hB false (by simp [ht, hp]))
          clear hB ht s0 s1 s2 s3 hbs
          go_enter Try.func88, Try.ntmps88
          go_upto_region 1 with fail
          go_quiet (fail)
          go_wp2_with (go_at_call 23; refine (HT.out _).mono ?_; rintro e w1 ⟨rfl, rfl⟩)
          go_ret
          exact ⟨ret_bool HB.out.symm, drewBelow HBX.out _⟩
      · have hk' : (k == 0) = false := by simp [hk]
        have HB := Lib.hid (hB false (by simp [ht, hk]))
        clear hB ht s0 s1 s2 s3 hbs
        go_enter Try.func88, Try.ntmps88
        go_upto_region 1 with fail
        go_quiet (fail)
        go_wp2_with (go_at_call 23; refine (HT.out _).mono ?_; rintro e w1 ⟨rfl, rfl⟩)
        go_ret
        exact ⟨ret_bool HB.out.symm, drewBelow HBX.out _⟩
    · have hn' : (n == 0) = false := by simp [hn]
      have HB := Lib.hid (hB false (by simp [ht, hn]))
      clear hB ht s0 s1 s2 s3 hbs
      go_enter Try.func88, Try.ntmps88
      go_upto_region 1 with fail
      go_quiet (fail)
      go_wp2_with (go_at_call 23; refine (HT.out _).mono ?_; rintro e w1 ⟨rfl, rfl⟩)
      go_ret
      exact ⟨ret_bool HB.out.symm, drewBelow HBX.out _⟩
  | false =>
    rw [ht] at htk
    have HT := Lib.hid htk
    clear htk
    have HB := Lib.hid (hB false (by simp [ht]))
    clear hB ht s0 s1 s2 s3 hbs
    go_enter Try.func88, Try.ntmps88
    go_upto_region 1 with fail
    go_quiet (fail)
    go_wp2_with (go_at_call 23; refine (HT.out _).mono ?_; rintro e w1 ⟨rfl, rfl⟩)
    go_ret
    exact ⟨ret_bool HB.out.symm, drewBelow HBX.out _⟩
end
end Go.Proofs.Ytmlfeocdcjhhaaa

namespace Go.Proofs.Ytmlfeocdcjhhaaa
set_option maxRecDepth 100000
open Go.RowKit
set_option linter.unusedVariables false
set_option linter.unusedSimpArgs false
attribute [local go_sem ↓] Go.wp_at_zero Go.wp_at_succ

/-! One operation's form, whatever its How; the closure of (*core.scope).step. -/
set_option maxHeartbeats 4000000 in
theorem rop_any (w : World) (o : Cop) (pa : Option Addr) (pc V L : Nat) (ma : Option Addr) (mc : Nat) (made : List Bool) (hV : V ≤ 6) (hpe : monoRep.Els w pa o.p) (hpl : o.p.length ≤ 9223372036854775807) (hmade : MadeAt w ma made) :
    Calls Try.prog 108 #[.agg #[.int .i64 o.how, .int .i64 o.k, .int .i64 o.n, .slice pa o.p.length pc, .int .u8 o.fn], .int .i64 V, .int .i64 L, .slice ma made.length mc] w fun e w' => e = .returned (.bool (opB V L made o)) ∧ Below w.heap.size w w' := by
  obtain ⟨how, k, n, p, fn⟩ := o
  dsimp only at hpe hpl ⊢
  by_cases h0 : how = 1 ∨ how = 2 ∨ how = 3 ∨ how = 4 ∨ how = 5 ∨ how = 6
  · rcases h0 with rfl | rfl | rfl | rfl | rfl | rfl
    · exact rop1_any w k n fn p pa pc V L ma mc made
    · exact rop2_any w k n fn p pa pc V L ma mc made hV hpe hpl
    · exact rop3_any w k n fn p pa pc V L ma mc made
    · exact rop4_any w k n fn p pa pc V L ma mc made hmade
    · exact rop5_any w k n fn p pa pc V L ma mc made
    · exact rop6_any w k n fn p pa pc V L ma mc made
  have HV := Lib.hid (show opB V L made ⟨how, k, n, p, fn⟩ = false from by unfold opB; dsimp only; rw [if_neg (by omega), if_neg (by omega), if_neg (by omega), if_neg (by omega), if_neg (by omega), if_neg (by omega)])
  have g1 : (how == 1) = false := by simp; omega
  have g2 : (how == 2) = false := by simp; omega
  have g3 : (how == 3) = false := by simp; omega
  have g4 : (how == 4) = false := by simp; omega
  have g5 : (how == 5) = false := by simp; omega
  have g6 : (how == 6) = false := by simp; omega
  clear h0 hpe hmade hpl
  go_enter Try.func108, Try.ntmps108
  go_wp2_with fail
  go_ret
  exact ⟨ret_bool HV.out.symm, (Below.refl _ _).alloc (Nat.le_refl _) _⟩
structure ScopeAt (w : World) (sb V L : Nat) (buf : Int) (ma : Option Addr) (mc : Nat) (made : List Bool) : Prop where
  s0 : w.cell? ⟨sb, 0, none⟩ = some (.int .i64 V)
  s1 : w.cell? ⟨sb, 1, none⟩ = some (.int .i64 L)
  s2 : w.cell? ⟨sb, 2, none⟩ = some (.int .i64 buf)
  s3 : w.cell? ⟨sb, 3, none⟩ = some (.slice ma made.length mc)
  hbs : sb < w.heap.size
  hmade : MadeAt w ma made
theorem ScopeAt.below {w w' : World} {sb V L : Nat} {buf : Int} {ma : Option Addr} {mc : Nat} {made : List Bool} (h : ScopeAt w sb V L buf ma mc made) (hb : Below w.heap.size w w') : ScopeAt w' sb V L buf ma mc made :=
  ⟨keepCell hb h.s0, keepCell hb h.s1, keepCell hb h.s2, keepCell hb h.s3, Nat.lt_of_lt_of_le h.hbs hb.size, h.hmade.below hb (Nat.le_refl _)⟩
set_option maxHeartbeats 4000000 in
theorem cop_any (w : World) (o : Cop) (pa : Option Addr) (pc V L : Nat) (buf : Int) (ma : Option Addr) (mc : Nat) (made : List Bool) (sb : Nat) (hs : ScopeAt w sb V L buf ma mc made) (hV : V ≤ 6) (hpe : monoRep.Els w pa o.p) (hpl : o.p.length ≤ 9223372036854775807) :
    Calls Try.prog 88 #[.pointer (some ⟨sb, 0, none⟩), .agg #[.int .i64 o.how, .int .i64 o.k, .int .i64 o.n, .slice pa o.p.length pc, .int .u8 o.fn]] w fun e w' => e = .returned (.bool (opS V L made buf o)) ∧ Below w.heap.size w w' := by
  obtain ⟨how, k, n, p, fn⟩ := o
  dsimp only at hpe hpl ⊢
  obtain ⟨s0, s1, s2, s3, hbs, hmade⟩ := hs
  by_cases h0 : how = 1 ∨ how = 2 ∨ how = 3 ∨ how = 4 ∨ how = 5 ∨ how = 6
  · rcases h0 with rfl | rfl | rfl | rfl | rfl | rfl
    · exact cop1_any w k n fn p pa pc V L buf ma mc made sb s0 s1 s2 s3 hbs
    · exact cop2_any w k n fn p pa pc V L buf ma mc made sb s0 s1 s2 s3 hbs hV hpe hpl
    · exact cop3_any w k n fn p pa pc V L buf ma mc made sb s0 s1 s2 s3 hbs
    · exact cop4_any w k n fn p pa pc V L buf ma mc made sb s0 s1 s2 s3 hbs hmade
    · exact cop5_any w k n fn p pa pc V L buf ma mc made sb s0 s1 s2 s3 hbs
    · exact cop6_any w k n fn p pa pc V L buf ma mc made sb s0 s1 s2 s3 hbs
  have HV := Lib.hid (show opS V L made buf ⟨how, k, n, p, fn⟩ = false from by unfold opS opB; dsimp only; rw [if_neg (by omega), if_neg (by omega), if_neg (by omega), if_neg (by omega), if_neg (by omega), if_neg (by omega), Bool.false_and])
  have hbx : Below w.heap.size w (w.alloc (.cells #[.int .i64 how, .int .i64 k, .int .i64 n, .slice pa p.length pc, .int .u8 fn] 44)) := (Below.refl _ _).alloc (Nat.le_refl _) _
  have HBX := Lib.hid hbx
  have g1 : (how == 1) = false := by simp; omega
  have g2 : (how == 2) = false := by simp; omega
  have g3 : (how == 3) = false := by simp; omega
  have g4 : (how == 4) = false := by simp; omega
  have g5 : (how == 5) = false := by simp; omega
  have g6 : (how == 6) = false := by simp; omega
  clear h0 hpe hmade hpl hbx s0 s1 s2 s3
  go_enter Try.func88, Try.ntmps88
  go_upto_region 1 with fail
  go_quiet (fail)
  go_wp2_with fail
  go_ret
  exact ⟨ret_bool HV.out.symm, drewBelow HBX.out _⟩
set_option maxHeartbeats 4000000 in
theorem copnot_any (w : World) (o : Cop) (pa : Option Addr) (pc V L : Nat) (buf : Int) (ma : Option Addr) (mc : Nat) (made : List Bool) (sb : Nat) (q : Addr) (hq : w.cell? q = some (.pointer (some ⟨sb, 0, none⟩))) (hs : ScopeAt w sb V L buf ma mc made) (hV : V ≤ 6) (hpe : monoRep.Els w pa o.p) (hpl : o.p.length ≤ 9223372036854775807) :
    Calls Try.prog 87 #[.agg #[.int .i64 o.how, .int .i64 o.k, .int .i64 o.n, .slice pa o.p.length pc, .int .u8 o.fn], .pointer (some q)] w fun e w' => e = .returned (.bool (!opS V L made buf o)) ∧ Below w.heap.size w w' := by
  obtain ⟨how, k, n, p, fn⟩ := o
  dsimp only at hpe hpl ⊢
  have hbx : Below w.heap.size w (w.alloc (.cells #[.int .i64 how, .int .i64 k, .int .i64 n, .slice pa p.length pc, .int .u8 fn] 44)) := (Below.refl _ _).alloc (Nat.le_refl _) _
  have hc := cop_any (w.alloc (.cells #[.int .i64 how, .int .i64 k, .int .i64 n, .slice pa p.length pc, .int .u8 fn] 44)) ⟨how, k, n, p, fn⟩ pa pc V L buf ma mc made sb (hs.below hbx) hV (hpe.below monoRep hbx (Nat.le_refl _)) hpl
  dsimp only at hc
  have hqb := World.block_lt_of_cell? _ _ hq
  obtain ⟨b, hb⟩ : ∃ b, opS V L made buf ⟨how, k, n, p, fn⟩ = b := ⟨_, rfl⟩
  rw [hb] at hc ⊢
  have HC := Lib.hid hc; have HBX := Lib.hid hbx
  clear hc hbx hs hpe hb
  go_enter Try.func87, Try.ntmps87
  go_wp2_with (go_at_call 88; refine HC.out.mono ?_; rintro e w1 ⟨rfl, hb1⟩)
  all_goals (go_ret; exact ⟨rfl, bNext hb1 HBX.out⟩)
end Go.Proofs.Ytmlfeocdcjhhaaa

namespace Go.Proofs.Ytmlfeocdcjhhaaa
set_option maxRecDepth 100000
open Go.RowKit
set_option linter.unusedVariables false
set_option linter.unusedSimpArgs false
attribute [local go_sem ↓] Go.wp_at_zero Go.wp_at_succ

/-! One step's form: the reference's. -/
/-- what a step's own form asks -/
def stepQ (V : Nat) (made : List Bool) (s : Stp) : Bool :=
  bothB V s.pos && growB V s.loops && (decide (s.how = 1) || decide (s.loops.length ≠ 0)) && (if s.how = 1 then s.fn == 0 else takes s.fn true) && decide (1 ≤ s.how) && decide (s.how ≤ 3)
    && decide (s.ops.length ≤ 256) && decide (0 ≤ depthI s.ops) && s.ops.all (opS V s.loops.length made s.buf)
/-- what its buffer asks -/
def bufQ (bufs : List Buf) (k : Int) : Bool := decide (0 ≤ k) && decide (k < bufs.length) && (match bufs[k.toNat]? with | some b => decide (b.input < 0) | none => false)
def stepS (V : Nat) (bufs : List Buf) (made : List Bool) (s : Stp) : Bool := bufQ bufs s.buf && stepQ V made s
theorem bufQ_neg {bufs : List Buf} {k : Int} (h : k < 0) : bufQ bufs k = false := by unfold bufQ; rw [decide_eq_false (by omega)]; rfl
theorem bufQ_long {bufs : List Buf} {k : Int} (h : ¬ k < bufs.length) : bufQ bufs k = false := by unfold bufQ; rw [decide_eq_false h, Bool.and_false]; rfl
theorem bufQ_at {bufs : List Buf} {k : Nat} (h : k < bufs.length) : bufQ bufs k = decide (bufs[k].input < 0) := by
  unfold bufQ
  rw [decide_eq_true (by omega), decide_eq_true (by omega), Int.toNat_natCast, List.getElem?_eq_getElem h]
  rfl
structure StpIn (w W : World) (x V : Nat) (vb : Value) (how buf : Int) (v0 v1 : Value) (fn : Int) (v2 : Value) : Prop where
  below : Below w.heap.size w W
  c0 : W.cell? ⟨x, 0, none⟩ = some (.int .i64 V)
  c1 : W.cell? ⟨x, 1, none⟩ = some vb
  y0 : W.cell? ⟨x + 1, 0, none⟩ = some (.int .i64 how)
  y1 : W.cell? ⟨x + 1, 1, none⟩ = some (.int .i64 buf)
  y2 : W.cell? ⟨x + 1, 2, none⟩ = some v0
  y3 : W.cell? ⟨x + 1, 3, none⟩ = some v1
  y4 : W.cell? ⟨x + 1, 4, none⟩ = some (.int .u8 fn)
  y5 : W.cell? ⟨x + 1, 5, none⟩ = some v2
  hx : x + 1 < W.heap.size
theorem StpIn.next {w W W' : World} {x V : Nat} {vb v0 v1 v2 : Value} {how buf fn : Int} (h : StpIn w W x V vb how buf v0 v1 fn v2) (hb : Below W.heap.size W W') : StpIn w W' x V vb how buf v0 v1 fn v2 :=
  ⟨bNext hb h.below, keepCell hb h.c0, keepCell hb h.c1, keepCell hb h.y0, keepCell hb h.y1, keepCell hb h.y2, keepCell hb h.y3, keepCell hb h.y4, keepCell hb h.y5, Nat.lt_of_lt_of_le h.hx hb.size⟩
theorem stpIn_new (w : World) (V : Nat) (vb vs vo : Value) (how buf : Int) (v0 v1 : Value) (fn : Int) (v2 : Value) :
    StpIn w ((w.alloc (.cells #[.int .i64 V, vb, vs, vo] 33)).alloc (.cells #[.int .i64 how, .int .i64 buf, v0, v1, .int .u8 fn, v2] 42)) w.heap.size V vb how buf v0 v1 fn v2 := by
  have n0 := oldBlock (World.alloc_heap_new w (.cells #[.int .i64 V, vb, vs, vo] 33)) (.cells #[.int .i64 how, .int .i64 buf, v0, v1, .int .u8 fn, v2] 42)
  have n1 := World.alloc_heap_new (w.alloc (.cells #[.int .i64 V, vb, vs, vo] 33)) (.cells #[.int .i64 how, .int .i64 buf, v0, v1, .int .u8 fn, v2] 42)
  rw [show (w.alloc (.cells #[.int .i64 V, vb, vs, vo] 33)).heap.size = w.heap.size + 1 from by simp] at n1
  have g0 := blockCells (cs := [.int .i64 V, vb, vs, vo]) n0
  have g1 := blockCells (cs := [.int .i64 how, .int .i64 buf, v0, v1, .int .u8 fn, v2]) n1
  exact ⟨((Below.refl _ _).alloc (Nat.le_refl _) _).alloc (by simp) _, g0 0, g0 1, g1 0, g1 1, g1 2, g1 3, g1 4, g1 5, by simp⟩
theorem single_grow (V : Nat) (p : List Mono) : growB V [p] = bothB V p := by simp [growB]
theorem single_els {w : World} {p0 : Option Addr} {c0 : Nat} {p : List Mono} {x : Nat} (h : monoRep.Sl w (.slice p0 p.length c0) p) (hx : w.cell? ⟨x, 0, none⟩ = some (.slice p0 p.length c0)) : polyRep.Els w (some ⟨x, 0, none⟩) [p] := fun i hi => by
  have : i = 0 := by simpa using hi
  subst this
  refine ⟨x, 0, [.slice p0 p.length c0], rfl, ⟨_, rfl, h⟩, fun j v hj => ?_⟩
  match j with
  | 0 => cases hj; exact hx
  | j + 1 => cases hj


set_option maxHeartbeats 16000000 in
theorem rstep_any (w : World) (V : Nat) (hV : V ≤ 6) (ba : Option Addr) (bc : Nat) (bufs : List Buf) (hbe : bufRep.Els w ba bufs) (hbl : bufs.length ≤ 9223372036854775807) (sa : Option Addr) (sl sc : Nat) (oa : Option Addr) (ol oc : Nat)
    (how buf fn : Int) (pos : List Mono) (p0 : Option Addr) (c0 : Nat) (hps : monoRep.Sl w (.slice p0 pos.length c0) pos) (loops : List (List Mono)) (p1 : Option Addr) (c1 : Nat) (hle : polyRep.Els w p1 loops) (hll : loops.length ≤ 9223372036854775807)
    (ops : List Cop) (p2 : Option Addr) (c2 : Nat) (hoe : copRep.Els w p2 ops) (hol : ops.length ≤ 9223372036854775807) (ma : Option Addr) (mc : Nat) (made : List Bool) (hmade : MadeAt w ma made) :
    Calls Try.prog 65 #[.agg #[.int .i64 V, .slice ba bufs.length bc, .slice sa sl sc, .slice oa ol oc], .agg #[.int .i64 how, .int .i64 buf, .slice p0 pos.length c0, .slice p1 loops.length c1, .int .u8 fn, .slice p2 ops.length c2], .slice ma made.length mc] w fun e w' =>
      e = .returned (.bool (stepS V bufs made ⟨how, buf, pos, loops, fn, ops⟩)) ∧ Below w.heap.size w w' := by
  have hnew := stpIn_new w V (.slice ba bufs.length bc) (.slice sa sl sc) (.slice oa ol oc) how buf (.slice p0 pos.length c0) (.slice p1 loops.length c1) fn (.slice p2 ops.length c2)
  have HBE := Lib.hid hbe; have HPS := Lib.hid hps; have HLE := Lib.hid hle; have HOE := Lib.hid hoe; have HMD := Lib.hid hmade; have HN := Lib.hid hnew
  clear hbe hps hle hoe hmade hnew
  have hS : ∀ b, (bufQ bufs buf && stepQ V made ⟨how, buf, pos, loops, fn, ops⟩) = b → stepS V bufs made ⟨how, buf, pos, loops, fn, ops⟩ = b := fun b h => h
  have HS := Lib.hid hS; clear hS
  go_enter Try.func65, Try.ntmps65
  go_upto_region 1 with fail
  refine gen_worldA (fun W => StpIn w W w.heap.size V (.slice ba bufs.length bc) how buf (.slice p0 pos.length c0) (.slice p1 loops.length c1) fn (.slice p2 ops.length c2)) HN.out ?_
  clear HN
  intro W hin
  obtain ⟨hbW, x0, x1, y0, y1, y2, y3, y4, y5, hxx⟩ := hin
  have HBW := Lib.hid hbW; clear hbW
  by_cases a1 : how < 1
  · have HG := Lib.hid (HS.out false (by unfold stepQ; simp [show ¬ 1 ≤ how from by omega]))
    clear HS
    go_wp2_with fail
    go_ret
    exact ⟨ret_bool HG.out.symm, HBW.out⟩
  have a1' : decide (how < 1) = false := by simpa using a1
  by_cases a2 : 3 < how
  · have HG := Lib.hid (HS.out false (by unfold stepQ; simp [show ¬ how ≤ 3 from by omega]))
    clear HS
    go_wp2_with fail
    go_ret
    exact ⟨ret_bool HG.out.symm, HBW.out⟩
  have a2' : decide (3 < how) = false := by simpa using a2
  by_cases a3 : buf < 0
  · have HG := Lib.hid (HS.out false (by rw [bufQ_neg a3]; rfl))
    clear HS
    go_wp2_with fail
    go_ret
    exact ⟨ret_bool HG.out.symm, HBW.out⟩
  have a3' : decide (buf < 0) = false := by simpa using a3
  obtain ⟨bn, rfl⟩ : ∃ bn : Nat, buf = bn := ⟨buf.toNat, by omega⟩
  by_cases a4 : bn < bufs.length
  case neg =>
    have a4' : decide ((bufs.length : Int) ≤ (bn : Int)) = true := by simp; omega
    have a4i : (bufs.length : Int) ≤ (bn : Int) := by omega
    have HG := Lib.hid (HS.out false (by rw [bufQ_long (by omega)]; rfl))
    clear HS
    go_wp2_with fail
    go_ret
    exact ⟨ret_bool HG.out.symm, HBW.out⟩
  have a4' : decide ((bufs.length : Int) ≤ (bn : Int)) = false := by simp; omega
  have a4i : (bn : Int) < (bufs.length : Int) := by omega
  obtain ⟨b, off, cs, rfl, ⟨v, rfl, -, -⟩, hc⟩ := (HBE.out.below bufRep HBW.out (Nat.le_refl _)) bn a4
  have e1 := hc 1 _ rfl
  simp only [show bufRep.n = 2 from rfl] at e1
  clear hc
  obtain ⟨inp, hinp⟩ : ∃ inp, bufs[bn].input = inp := ⟨_, rfl⟩
  rw [hinp] at e1
  by_cases a5 : 0 ≤ inp
  · have HG := Lib.hid (HS.out false (by rw [bufQ_at a4, hinp]; simp [show ¬ inp < 0 from by omega]))
    clear HS hinp
    go_wp2_with fail
    go_ret
    exact ⟨ret_bool HG.out.symm, HBW.out⟩
  have a5' : decide (0 ≤ inp) = false := by simpa using a5
  have HS2 : Hid (∀ b, stepQ V made ⟨how, bn, pos, loops, fn, ops⟩ = b → stepS V bufs made ⟨how, bn, pos, loops, fn, ops⟩ = b) := Lib.hid fun b h => HS.out b (by rw [bufQ_at a4, hinp, decide_eq_true (by omega), Bool.true_and, h])
  clear HS hinp
  go_upto_region 3 with fail
  have hxx0 : w.heap.size < W.heap.size := by omega
  have hal : Below W.heap.size W (W.alloc (.cells #[.slice p0 pos.length c0] 38)) := (Below.refl _ _).alloc (Nat.le_refl _) _
  have hin1 : StpIn w (W.alloc (.cells #[.slice p0 pos.length c0] 38)) w.heap.size V (.slice (some ⟨b, off, none⟩) bufs.length bc) how bn (.slice p0 pos.length c0) (.slice p1 loops.length c1) fn (.slice p2 ops.length c2) := (StpIn.mk HBW.out x0 x1 y0 y1 y2 y3 y4 y5 hxx).next hal
  have hg1 : Calls Try.prog 64 #[.slice (some ⟨W.heap.size, 0, none⟩) 1 1, .int .i64 V] (W.alloc (.cells #[.slice p0 pos.length c0] 38)) fun e w' => e = .returned (.bool (bothB V pos)) ∧ Below (W.alloc (.cells #[.slice p0 pos.length c0] 38)).heap.size (W.alloc (.cells #[.slice p0 pos.length c0] 38)) w' := by
    rw [← single_grow V pos]
    exact rgrow_any (W.alloc (.cells #[.slice p0 pos.length c0] 38)) (some ⟨W.heap.size, 0, none⟩) 1 [pos] V hV (single_els (HPS.out.below monoRep hin1.below (Nat.le_refl _)) (blockCells (cs := [.slice p0 pos.length c0]) (World.alloc_heap_new W (.cells #[.slice p0 pos.length c0] 38)) 0)) (by simp)
  have HIN1 := Lib.hid hin1
  clear hin1 hal
  cases hp : bothB V pos with
  | false =>
    rw [hp] at hg1
    have HG1 := Lib.hid hg1
    have HG := Lib.hid (HS2.out false (by unfold stepQ; simp [hp]))
    clear HS2 hp hg1
    go_wp2_with (go_at_call 64; refine HG1.out.mono ?_; rintro e w1 ⟨rfl, hb1⟩)
    go_ret
    exact ⟨ret_bool HG.out.symm, bNext hb1 HIN1.out.below⟩
  | true =>
    rw [hp] at hg1
    have HG1 := Lib.hid hg1
    have HS3 : Hid (∀ b, (growB V loops && (decide (how = 1) || decide (loops.length ≠ 0)) && (if how = 1 then fn == 0 else takes fn true) && decide (ops.length ≤ 256) && decide (0 ≤ depthI ops) && ops.all (opS V loops.length made bn)) = b → stepS V bufs made ⟨how, bn, pos, loops, fn, ops⟩ = b) := Lib.hid fun b h => HS2.out b (by unfold stepQ; simp only [hp, show (1 : Int) ≤ how from by omega, show how ≤ 3 from by omega, decide_true, Bool.and_true, Bool.true_and]; exact h)
    clear HS2 hp hg1
    go_wp2_with fail
    refine HG1.out.mono ?_
    rintro e w1 ⟨rfl, hb1⟩
    clear HG1
    have hin2 := HIN1.out.next hb1
    clear x0 x1 y0 y1 y2 y3 y4 y5 hxx hxx0 HBW HIN1 hb1 HPS
    obtain ⟨hbW, x0, x1, y0, y1, y2, y3, y4, y5, hxx⟩ := hin2
    have HBW := Lib.hid hbW
    have hg2 := rgrow_any w1 p1 c1 loops V hV (HLE.out.below polyRep hbW (Nat.le_refl _)) hll
    clear hbW
    cases hl : growB V loops with
    | false =>
      rw [hl] at hg2
      have HG2 := Lib.hid hg2
      have HG := Lib.hid (HS3.out false (by simp [hl]))
      clear HS3 hl hg2
      go_wp2_with (go_at_call 64; refine HG2.out.mono ?_; rintro e w2 ⟨rfl, hb2⟩)
      go_ret
      exact ⟨ret_bool HG.out.symm, bNext hb2 HBW.out⟩
    | true =>
      rw [hl] at hg2
      have HG2 := Lib.hid hg2
      have HS4 : Hid (∀ b, ((decide (how = 1) || decide (loops.length ≠ 0)) && (if how = 1 then fn == 0 else takes fn true) && decide (ops.length ≤ 256) && decide (0 ≤ depthI ops) && ops.all (opS V loops.length made bn)) = b → stepS V bufs made ⟨how, bn, pos, loops, fn, ops⟩ = b) := Lib.hid fun b h => HS3.out b (by rw [hl, Bool.true_and]; exact h)
      clear HS3 hl hg2
      have HIN1 := Lib.hid (StpIn.mk HBW.out x0 x1 y0 y1 y2 y3 y4 y5 hxx)
      go_wp2_with fail
      refine HG2.out.mono ?_
      rintro e w2 ⟨rfl, hb2⟩
      clear HG2
      have hin3 := HIN1.out.next hb2
      clear x0 x1 y0 y1 y2 y3 y4 y5 hxx HBW HIN1 hb2
      obtain ⟨hbW, x0, x1, y0, y1, y2, y3, y4, y5, hxx⟩ := hin3
      have HBW := Lib.hid hbW; clear hbW
      by_cases hh : how = 1
      · subst hh
        by_cases hf : fn = 0
        · subst hf
          have HS5 : Hid (∀ b, (decide (ops.length ≤ 256) && decide (0 ≤ depthI ops) && ops.all (opS V loops.length made bn)) = b → stepS V bufs made ⟨1, bn, pos, loops, 0, ops⟩ = b) := Lib.hid fun b h => HS4.out b (by rw [← h]; rfl)
          clear HS4
          go_upto_region 7 with fail
          by_cases z0 : ops.length = 0
          · have z0a : ((ops.length : Int) == 0) = true := by simp [z0]
            have z0b : (ops.length == 0) = true := by simp [z0]
            have HG := Lib.hid (HS5.out false (by simp [List.eq_nil_of_length_eq_zero z0, depthI, depthK]))
            clear HS5
            go_wp2_with fail
            go_ret
            exact ⟨ret_bool HG.out.symm, HBW.out⟩
          have z0a : ((ops.length : Int) == 0) = false := by rw [beq_eq_false_iff_ne]; omega
          have z0b : (ops.length == 0) = false := by rw [beq_eq_false_iff_ne]; exact z0
          by_cases z1 : 256 < ops.length
          · have z1a : decide ((256 : Int) < (ops.length : Int)) = true := by simp; omega
            have z1b : (256 : Int) < (ops.length : Int) := by omega
            have HG := Lib.hid (HS5.out false (by simp [show ¬ ops.length ≤ 256 from by omega]))
            clear HS5
            go_wp2_with fail
            go_ret
            exact ⟨ret_bool HG.out.symm, HBW.out⟩
          have z1a : decide ((256 : Int) < (ops.length : Int)) = false := by simp; omega
          have z1b : (ops.length : Int) ≤ 256 := by omega
          have hdp := rdepth_any w2 p2 c2 ops (HOE.out.below copRep HBW.out (Nat.le_refl _)) hol
          obtain ⟨dd, hdd⟩ : ∃ dd, depthI ops = dd := ⟨_, rfl⟩
          rw [hdd] at hdp
          have HD := Lib.hid hdp
          clear hdp
          by_cases z2 : dd < 0
          · have z2a : decide (dd < 0) = true := by simpa using z2
            have HG := Lib.hid (HS5.out false (by rw [hdd]; simp [show ¬ 0 ≤ dd from by omega]))
            clear HS5 hdd
            go_wp2_with (go_at_call 59; refine HD.out.mono ?_; rintro e w4 ⟨rfl, hb4⟩)
            go_ret
            exact ⟨ret_bool HG.out.symm, bNext hb4 HBW.out⟩
          have z2a : decide (dd < 0) = false := by simpa using z2
          have HS6 : Hid (∀ b, ops.all (opS V loops.length made bn) = b → _ = b) := Lib.hid fun b h => HS5.out b (by rw [hdd, decide_eq_true (show ops.length ≤ 256 from by omega), decide_eq_true (show 0 ≤ dd from by omega)]; exact h)
          clear HS5 hdd
          have HIN := Lib.hid (StpIn.mk HBW.out x0 x1 y0 y1 y2 y3 y4 y5 hxx)
          go_wp2_with (go_at_call 59; refine HD.out.mono ?_; rintro e w4 ⟨rfl, hb4⟩)
          have HIN4 := Lib.hid (HIN.out.next hb4)
          clear x0 x1 y0 y1 y2 y3 y4 y5 hxx HBW HIN hb4 HD
          go_loopw [7] (fun i wr => ∃ k : Nat, k ≤ ops.length ∧ i = .int .i64 k ∧ (∀ j, (hj : j < ops.length) → j < k → opS V loops.length made bn ops[j] = true) ∧ StpIn w wr w.heap.size V (.slice (some ⟨b, off, none⟩) bufs.length bc) _ bn (.slice p0 pos.length c0) (.slice p1 loops.length c1) _ (.slice p2 ops.length c2)) (fun i _ => ops.length - (intOf i).toNat)
          case atStart => exact ⟨0, Nat.zero_le _, rfl, fun j _ h => absurd h (Nat.not_lt_zero j), HIN4.out⟩
          case round =>
            clear HIN4
            obtain ⟨k, hk, rfl, hall, hin⟩ := hrel
            have HALL := Lib.hid hall; have HIN := Lib.hid hin
            clear hall
            obtain ⟨hbW, x0, x1, y0, y1, y2, y3, y4, y5, hxx⟩ := hin
            have HBW := Lib.hid hbW; clear hbW
            have hk0 : (0 : Int) ≤ (k : Int) := by omega
            by_cases hlt : k < ops.length
            · have hk1 : (k : Int) < (ops.length : Int) := by omega
              obtain ⟨b', off', cs, rfl, ⟨v, rfl, hs, hh1, -⟩, hc⟩ := (HOE.out.below copRep HBW.out (Nat.le_refl _)) k hlt
              have o0 := hc 0 _ rfl; have o1 := hc 1 _ rfl; have o2 := hc 2 _ rfl; have o3 := hc 3 _ rfl; have o4 := hc 4 _ rfl
              simp only [show copRep.n = 5 from rfl, Nat.add_zero] at o0 o1 o2 o3 o4
              obtain ⟨pa, pc, rfl, hpl, hpe⟩ := Rep.Sl.form hs
              obtain ⟨o, ho⟩ : ∃ o, ops[k] = o := ⟨_, rfl⟩
              have hrow : ∀ b, opS V loops.length made bn o = b → opS V loops.length made bn ops[k] = b := fun b h => by rw [ho]; exact h
              simp only [ho] at o0 o1 o2 o3 o4 hpl hpe
              have hq : ∀ p' : BelowW wr, _ := fun p' => rop_any p'.world o pa pc V loops.length ma mc made hV (hpe.below monoRep p'.below (Nat.le_refl _)) hpl ((HMD.out.below HBW.out (Nat.le_refl _)).below p'.below (Nat.le_refl _))
              clear hs hpe hc hh1 ho
              obtain ⟨oh, okk, onn, opp, ofn⟩ := o
              dsimp only at o0 o1 o2 o3 o4 hpl hq
              have g0 := cellBW o0; have g1 := cellBW o1; have g2 := cellBW o2; have g3 := cellBW o3; have g4 := cellBW o4; have gx := cellBW x0; have gy := cellBW y3; have gz := cellBW y1; have gw := cellBW y5
              cases hop : opB V loops.length made ⟨oh, okk, onn, opp, ofn⟩ with
              | false =>
                rw [hop] at hq
                have HQ := Lib.hid hq
                have HG := Lib.hid (HS6.out false (List.all_eq_false.2 ⟨_, List.getElem_mem hlt, by rw [hrow false (by unfold opS; rw [hop]; rfl)]; simp⟩))
                clear hq hop hrow
                go_upto_region 12 with fail
                refine wp_region_below (by kernel_rfl) (by kernel_rfl) ?_
                repeat (go_big_quiet_step (refine callsBW (HQ.out _)))
                refine wpQuiet_nil ?_
                rintro _ ⟨⟨wq, hwq⟩, rfl⟩
                clear g0 g1 g2 g3 g4 gx gy gz gw
                go_wp2_with fail
                go_ret
                exact ⟨ret_bool HG.out.symm, bNext hwq HBW.out⟩
              | true =>
                rw [hop] at hq
                have HQ := Lib.hid hq
                by_cases h4 : oh = 4
                · by_cases hkb : okk = bn
                  · have HG := Lib.hid (HS6.out false (List.all_eq_false.2 ⟨_, List.getElem_mem hlt, by rw [hrow false (by unfold opS; rw [hop]; simp [h4, hkb])]; simp⟩))
                    clear hq hop hrow
                    subst h4 hkb
                    go_upto_region 12 with fail
                    refine wp_region_below (by kernel_rfl) (by kernel_rfl) ?_
                    repeat (go_big_quiet_step (refine callsBW (HQ.out _)))
                    refine wpQuiet_nil ?_
                    rintro _ ⟨⟨wq, hwq⟩, rfl⟩
                    clear g0 g1 g2 g3 g4 gx gy gz gw
                    go_wp2_with fail
                    go_ret
                    exact ⟨ret_bool HG.out.symm, bNext hwq HBW.out⟩
                  · have HT := Lib.hid (hrow true (by unfold opS; rw [hop]; simp [hkb]))
                    have hkb' : (okk == (bn : Int)) = false := by simp [hkb]
                    clear hq hop hrow
                    subst h4
                    go_upto_region 12 with fail
                    refine wp_region_below (by kernel_rfl) (by kernel_rfl) ?_
                    repeat (go_big_quiet_step (refine callsBW (HQ.out _)))
                    refine wpQuiet_nil ?_
                    rintro _ ⟨⟨wq, hwq⟩, rfl⟩
                    clear g0 g1 g2 g3 g4 gx gy gz gw
                    go_wp2_with fail
                    go_roundw
                    case rel => exact ⟨k + 1, by omega, by go_num, fun j hj h => by
                      by_cases ej : j = k
                      · subst ej; exact HT.out
                      · exact HALL.out j hj (by omega), HIN.out.next hwq⟩
                    case measure => simp [intOf]; omega
                · have HT := Lib.hid (hrow true (by unfold opS; rw [hop]; simp [h4]))
                  have h4' : (oh == 4) = false := by simp [h4]
                  clear hq hop hrow
                  go_upto_region 12 with fail
                  refine wp_region_below (by kernel_rfl) (by kernel_rfl) ?_
                  repeat (go_big_quiet_step (refine callsBW (HQ.out _)))
                  refine wpQuiet_nil ?_
                  rintro _ ⟨⟨wq, hwq⟩, rfl⟩
                  clear g0 g1 g2 g3 g4 gx gy gz gw
                  go_wp2_with fail
                  go_roundw
                  case rel => exact ⟨k + 1, by omega, by go_num, fun j hj h => by
                    by_cases ej : j = k
                    · subst ej; exact HT.out
                    · exact HALL.out j hj (by omega), HIN.out.next hwq⟩
                  case measure => simp [intOf]; omega
            · have HG := Lib.hid (HS6.out true (List.all_eq_true.2 fun o hm => by
                obtain ⟨j, hj, rfl⟩ := List.getElem_of_mem hm
                exact HALL.out j hj (by omega)))
              go_wp2_with fail
              go_ret
              exact ⟨ret_bool HG.out.symm, HBW.out⟩
        · have hf' : (fn != 0) = true := by simp [hf]
          have HG := Lib.hid (HS4.out false (by simp [hf]))
          clear HS4
          go_wp2_with fail
          go_ret
          exact ⟨ret_bool HG.out.symm, HBW.out⟩
      · have hh' : (how != 1) = true := by simp [hh]
        have hh2 : (how == 1) = false := by simp [hh]
        by_cases hz : loops.length = 0
        · have hz1 : ((loops.length : Int) == 0) = true := by simp [hz]
          have hz2 : (loops.length == 0) = true := by simp [hz]
          have HG := Lib.hid (HS4.out false (by simp [hz, hh]))
          clear HS4
          go_wp2_with fail
          go_ret
          exact ⟨ret_bool HG.out.symm, HBW.out⟩
        · have hz1 : ((loops.length : Int) == 0) = false := by rw [beq_eq_false_iff_ne]; omega
          have hz2 : (loops.length == 0) = false := by rw [beq_eq_false_iff_ne]; exact hz
          have htk := fun W => rtakes_any W fn true
          cases ht : takes fn true with
          | false =>
            rw [ht] at htk
            have HT := Lib.hid htk
            have HG := Lib.hid (HS4.out false (by simp [hh, ht]))
            clear HS4 htk ht
            go_wp2_with (go_at_call 57; refine (HT.out _).mono ?_; rintro e w3 ⟨rfl, rfl⟩)
            go_ret
            exact ⟨ret_bool HG.out.symm, HBW.out⟩
          | true =>
            rw [ht] at htk
            have HT := Lib.hid htk
            have HS5 : Hid (∀ b, (decide (ops.length ≤ 256) && decide (0 ≤ depthI ops) && ops.all (opS V loops.length made bn)) = b → stepS V bufs made ⟨how, bn, pos, loops, fn, ops⟩ = b) := Lib.hid fun b h => HS4.out b (by simp only [hh, hz, ht, decide_false, Bool.false_or, if_false, ne_eq, not_false_eq_true, decide_true, Bool.true_and]; exact h)
            clear HS4 htk ht
            go_upto_region 7 with (go_at_call 57; refine (HT.out _).mono ?_; rintro e w3 ⟨rfl, rfl⟩)
            by_cases z0 : ops.length = 0
            · have z0a : ((ops.length : Int) == 0) = true := by simp [z0]
              have z0b : (ops.length == 0) = true := by simp [z0]
              have HG := Lib.hid (HS5.out false (by simp [List.eq_nil_of_length_eq_zero z0, depthI, depthK]))
              clear HS5
              go_wp2_with fail
              go_ret
              exact ⟨ret_bool HG.out.symm, HBW.out⟩
            have z0a : ((ops.length : Int) == 0) = false := by rw [beq_eq_false_iff_ne]; omega
            have z0b : (ops.length == 0) = false := by rw [beq_eq_false_iff_ne]; exact z0
            by_cases z1 : 256 < ops.length
            · have z1a : decide ((256 : Int) < (ops.length : Int)) = true := by simp; omega
              have z1b : (256 : Int) < (ops.length : Int) := by omega
              have HG := Lib.hid (HS5.out false (by simp [show ¬ ops.length ≤ 256 from by omega]))
              clear HS5
              go_wp2_with fail
              go_ret
              exact ⟨ret_bool HG.out.symm, HBW.out⟩
            have z1a : decide ((256 : Int) < (ops.length : Int)) = false := by simp; omega
            have z1b : (ops.length : Int) ≤ 256 := by omega
            have hdp := rdepth_any w2 p2 c2 ops (HOE.out.below copRep HBW.out (Nat.le_refl _)) hol
            obtain ⟨dd, hdd⟩ : ∃ dd, depthI ops = dd := ⟨_, rfl⟩
            rw [hdd] at hdp
            have HD := Lib.hid hdp
            clear hdp
            by_cases z2 : dd < 0
            · have z2a : decide (dd < 0) = true := by simpa using z2
              have HG := Lib.hid (HS5.out false (by rw [hdd]; simp [show ¬ 0 ≤ dd from by omega]))
              clear HS5 hdd
              go_wp2_with (go_at_call 59; refine HD.out.mono ?_; rintro e w4 ⟨rfl, hb4⟩)
              go_ret
              exact ⟨ret_bool HG.out.symm, bNext hb4 HBW.out⟩
            have z2a : decide (dd < 0) = false := by simpa using z2
            have HS6 : Hid (∀ b, ops.all (opS V loops.length made bn) = b → _ = b) := Lib.hid fun b h => HS5.out b (by rw [hdd, decide_eq_true (show ops.length ≤ 256 from by omega), decide_eq_true (show 0 ≤ dd from by omega)]; exact h)
            clear HS5 hdd
            have HIN := Lib.hid (StpIn.mk HBW.out x0 x1 y0 y1 y2 y3 y4 y5 hxx)
            go_wp2_with (go_at_call 59; refine HD.out.mono ?_; rintro e w4 ⟨rfl, hb4⟩)
            have HIN4 := Lib.hid (HIN.out.next hb4)
            clear x0 x1 y0 y1 y2 y3 y4 y5 hxx HBW HIN hb4 HD
            go_loopw [7] (fun i wr => ∃ k : Nat, k ≤ ops.length ∧ i = .int .i64 k ∧ (∀ j, (hj : j < ops.length) → j < k → opS V loops.length made bn ops[j] = true) ∧ StpIn w wr w.heap.size V (.slice (some ⟨b, off, none⟩) bufs.length bc) _ bn (.slice p0 pos.length c0) (.slice p1 loops.length c1) _ (.slice p2 ops.length c2)) (fun i _ => ops.length - (intOf i).toNat)
            case atStart => exact ⟨0, Nat.zero_le _, rfl, fun j _ h => absurd h (Nat.not_lt_zero j), HIN4.out⟩
            case round =>
              clear HIN4
              obtain ⟨k, hk, rfl, hall, hin⟩ := hrel
              have HALL := Lib.hid hall; have HIN := Lib.hid hin
              clear hall
              obtain ⟨hbW, x0, x1, y0, y1, y2, y3, y4, y5, hxx⟩ := hin
              have HBW := Lib.hid hbW; clear hbW
              have hk0 : (0 : Int) ≤ (k : Int) := by omega
              by_cases hlt : k < ops.length
              · have hk1 : (k : Int) < (ops.length : Int) := by omega
                obtain ⟨b', off', cs, rfl, ⟨v, rfl, hs, hh1, -⟩, hc⟩ := (HOE.out.below copRep HBW.out (Nat.le_refl _)) k hlt
                have o0 := hc 0 _ rfl; have o1 := hc 1 _ rfl; have o2 := hc 2 _ rfl; have o3 := hc 3 _ rfl; have o4 := hc 4 _ rfl
                simp only [show copRep.n = 5 from rfl, Nat.add_zero] at o0 o1 o2 o3 o4
                obtain ⟨pa, pc, rfl, hpl, hpe⟩ := Rep.Sl.form hs
                obtain ⟨o, ho⟩ : ∃ o, ops[k] = o := ⟨_, rfl⟩
                have hrow : ∀ b, opS V loops.length made bn o = b → opS V loops.length made bn ops[k] = b := fun b h => by rw [ho]; exact h
                simp only [ho] at o0 o1 o2 o3 o4 hpl hpe
                have hq : ∀ p' : BelowW wr, _ := fun p' => rop_any p'.world o pa pc V loops.length ma mc made hV (hpe.below monoRep p'.below (Nat.le_refl _)) hpl ((HMD.out.below HBW.out (Nat.le_refl _)).below p'.below (Nat.le_refl _))
                clear hs hpe hc hh1 ho
                obtain ⟨oh, okk, onn, opp, ofn⟩ := o
                dsimp only at o0 o1 o2 o3 o4 hpl hq
                have g0 := cellBW o0; have g1 := cellBW o1; have g2 := cellBW o2; have g3 := cellBW o3; have g4 := cellBW o4; have gx := cellBW x0; have gy := cellBW y3; have gz := cellBW y1; have gw := cellBW y5
                cases hop : opB V loops.length made ⟨oh, okk, onn, opp, ofn⟩ with
                | false =>
                  rw [hop] at hq
                  have HQ := Lib.hid hq
                  have HG := Lib.hid (HS6.out false (List.all_eq_false.2 ⟨_, List.getElem_mem hlt, by rw [hrow false (by unfold opS; rw [hop]; rfl)]; simp⟩))
                  clear hq hop hrow
                  go_upto_region 12 with fail
                  refine wp_region_below (by kernel_rfl) (by kernel_rfl) ?_
                  repeat (go_big_quiet_step (refine callsBW (HQ.out _)))
                  refine wpQuiet_nil ?_
                  rintro _ ⟨⟨wq, hwq⟩, rfl⟩
                  clear g0 g1 g2 g3 g4 gx gy gz gw
                  go_wp2_with fail
                  go_ret
                  exact ⟨ret_bool HG.out.symm, bNext hwq HBW.out⟩
                | true =>
                  rw [hop] at hq
                  have HQ := Lib.hid hq
                  by_cases h4 : oh = 4
                  · by_cases hkb : okk = bn
                    · have HG := Lib.hid (HS6.out false (List.all_eq_false.2 ⟨_, List.getElem_mem hlt, by rw [hrow false (by unfold opS; rw [hop]; simp [h4, hkb])]; simp⟩))
                      clear hq hop hrow
                      subst h4 hkb
                      go_upto_region 12 with fail
                      refine wp_region_below (by kernel_rfl) (by kernel_rfl) ?_
                      repeat (go_big_quiet_step (refine callsBW (HQ.out _)))
                      refine wpQuiet_nil ?_
                      rintro _ ⟨⟨wq, hwq⟩, rfl⟩
                      clear g0 g1 g2 g3 g4 gx gy gz gw
                      go_wp2_with fail
                      go_ret
                      exact ⟨ret_bool HG.out.symm, bNext hwq HBW.out⟩
                    · have HT := Lib.hid (hrow true (by unfold opS; rw [hop]; simp [hkb]))
                      have hkb' : (okk == (bn : Int)) = false := by simp [hkb]
                      clear hq hop hrow
                      subst h4
                      go_upto_region 12 with fail
                      refine wp_region_below (by kernel_rfl) (by kernel_rfl) ?_
                      repeat (go_big_quiet_step (refine callsBW (HQ.out _)))
                      refine wpQuiet_nil ?_
                      rintro _ ⟨⟨wq, hwq⟩, rfl⟩
                      clear g0 g1 g2 g3 g4 gx gy gz gw
                      go_wp2_with fail
                      go_roundw
                      case rel => exact ⟨k + 1, by omega, by go_num, fun j hj h => by
                        by_cases ej : j = k
                        · subst ej; exact HT.out
                        · exact HALL.out j hj (by omega), HIN.out.next hwq⟩
                      case measure => simp [intOf]; omega
                  · have HT := Lib.hid (hrow true (by unfold opS; rw [hop]; simp [h4]))
                    have h4' : (oh == 4) = false := by simp [h4]
                    clear hq hop hrow
                    go_upto_region 12 with fail
                    refine wp_region_below (by kernel_rfl) (by kernel_rfl) ?_
                    repeat (go_big_quiet_step (refine callsBW (HQ.out _)))
                    refine wpQuiet_nil ?_
                    rintro _ ⟨⟨wq, hwq⟩, rfl⟩
                    clear g0 g1 g2 g3 g4 gx gy gz gw
                    go_wp2_with fail
                    go_roundw
                    case rel => exact ⟨k + 1, by omega, by go_num, fun j hj h => by
                      by_cases ej : j = k
                      · subst ej; exact HT.out
                      · exact HALL.out j hj (by omega), HIN.out.next hwq⟩
                    case measure => simp [intOf]; omega
              · have HG := Lib.hid (HS6.out true (List.all_eq_true.2 fun o hm => by
                  obtain ⟨j, hj, rfl⟩ := List.getElem_of_mem hm
                  exact HALL.out j hj (by omega)))
                go_wp2_with fail
                go_ret
                exact ⟨ret_bool HG.out.symm, HBW.out⟩
end Go.Proofs.Ytmlfeocdcjhhaaa
