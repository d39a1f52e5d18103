import Derived.Test.YtabodlhlanolcaaA16
import Derived.Test.YtabodlhlanolcaaQB
namespace Go.Proofs.Ytabodlhlanolcaa
set_option maxRecDepth 100000
open Go.RowKit
set_option linter.unusedVariables false
set_option linter.unusedSimpArgs false
attribute [local go_sem ↓] Go.wp_at_zero Go.wp_at_succ

/-! (*core.scope).right. (Printed by gen_cop.py.) -/
def opS (V L : Nat) (made : List Bool) (buf : Int) (o : Cop) : Bool := opB V L made o && !(o.how == 4 && o.k == buf)
theorem drewBelow {w w' : World} (h : Below w.heap.size w w') (n : Nat) : Below w.heap.size w (w'.drewN n) := bNext (Below.drewN _ _) h
section
variable (w : World) (k n fn : Int) (p : List Mono) (pa : Option Addr) (pc V L : Nat) (buf : Int) (ma : Option Addr) (mc : Nat) (made : List Bool) (sb : Nat)
set_option maxHeartbeats 8000000 in
theorem cop1_any (s0 : w.cell? ⟨sb, 0, none⟩ = some (.int .i64 V)) (s1 : w.cell? ⟨sb, 1, none⟩ = some (.int .i64 L)) (s2 : w.cell? ⟨sb, 2, none⟩ = some (.int .i64 buf)) (s3 : w.cell? ⟨sb, 3, none⟩ = some (.slice ma made.length mc)) (hbs : sb < w.heap.size) : Calls Try.prog 44 #[.pointer (some ⟨sb, 0, none⟩), .agg #[.int .i64 1, .int .i64 k, .int .i64 n, .slice pa p.length pc, .int .u8 fn]] w fun e w' => e = .returned (.bool (opS V L made buf ⟨1, k, n, p, fn⟩)) ∧ Below w.heap.size w w' := by
  have hbx : Below w.heap.size w (w.alloc (.cells #[.int .i64 1, .int .i64 k, .int .i64 n, .slice pa p.length pc, .int .u8 fn] 48)) := (Below.refl _ _).alloc (Nat.le_refl _) _
  obtain ⟨pn, hpn⟩ : ∃ pn, p.length = pn := ⟨_, rfl⟩
  have hB : ∀ b, (k == 0 && decide (pn = 0) && fn == 0) = b → opS V L made buf ⟨1, k, n, p, fn⟩ = b := fun b h => by rw [← h, ← hpn]; simp [opS, opB]
  rw [hpn] at hbx
  rw [hpn]; clear hpn
  have HBX := Lib.hid hbx; clear hbx
  by_cases hk : k = 0
  · subst hk
    by_cases hp : pn = 0
    · subst hp
      by_cases hf : fn = 0
      · subst hf
        have HB := Lib.hid (hB true (by simp []))
        clear hB s0 s1 s2 s3 hbs
        go_enter Try.func44, Try.ntmps44
        go_upto_region 1 with fail
        go_quiet (fail)
        go_wp2_with fail
        go_ret
        exact ⟨ret_bool HB.out.symm, drewBelow HBX.out _⟩
      · have hf' : (fn == 0) = false := by simp [hf]
        have HB := Lib.hid (hB false (by simp [hf]))
        clear hB s0 s1 s2 s3 hbs
        go_enter Try.func44, Try.ntmps44
        go_upto_region 1 with fail
        go_quiet (fail)
        go_wp2_with fail
        go_ret
        exact ⟨ret_bool HB.out.symm, drewBelow HBX.out _⟩
    · have hp' : ((pn : Int) == 0) = false := by simp; omega
      have hp2 : (pn == 0) = false := by simp; omega
      have HB := Lib.hid (hB false (by simp [hp]))
      clear hB s0 s1 s2 s3 hbs
      go_enter Try.func44, Try.ntmps44
      go_upto_region 1 with fail
      go_quiet (fail)
      go_wp2_with fail
      go_ret
      exact ⟨ret_bool HB.out.symm, drewBelow HBX.out _⟩
  · have hk' : (k == 0) = false := by simp [hk]
    have HB := Lib.hid (hB false (by simp [hk]))
    clear hB s0 s1 s2 s3 hbs
    go_enter Try.func44, Try.ntmps44
    go_upto_region 1 with fail
    go_quiet (fail)
    go_wp2_with fail
    go_ret
    exact ⟨ret_bool HB.out.symm, drewBelow HBX.out _⟩
set_option maxHeartbeats 8000000 in
theorem cop2_any (s0 : w.cell? ⟨sb, 0, none⟩ = some (.int .i64 V)) (s1 : w.cell? ⟨sb, 1, none⟩ = some (.int .i64 L)) (s2 : w.cell? ⟨sb, 2, none⟩ = some (.int .i64 buf)) (s3 : w.cell? ⟨sb, 3, none⟩ = some (.slice ma made.length mc)) (hbs : sb < w.heap.size) (hV : V ≤ 6) (hpe : monoRep.Els w pa p) (hpl : p.length ≤ 9223372036854775807) : Calls Try.prog 44 #[.pointer (some ⟨sb, 0, none⟩), .agg #[.int .i64 2, .int .i64 k, .int .i64 n, .slice pa p.length pc, .int .u8 fn]] w fun e w' => e = .returned (.bool (opS V L made buf ⟨2, k, n, p, fn⟩)) ∧ Below w.heap.size w w' := by
  have hbx : Below w.heap.size w (w.alloc (.cells #[.int .i64 2, .int .i64 k, .int .i64 n, .slice pa p.length pc, .int .u8 fn] 48)) := (Below.refl _ _).alloc (Nat.le_refl _) _
  have hown := fun W (hb : Below w.heap.size w W) => of_any W pa pc p V hV (hpe.below monoRep hb (Nat.le_refl _)) hpl
  clear hpe
  obtain ⟨pn, hpn⟩ : ∃ pn, p.length = pn := ⟨_, rfl⟩
  have hB : ∀ b, (ownB V p && n == 0 && k == 0 && fn == 0) = b → opS V L made buf ⟨2, k, n, p, fn⟩ = b := fun b h => by rw [← h]; simp [opS, opB]; cases ownB V p <;> simp <;> (try (cases (k == 0) <;> cases (n == 0) <;> rfl))
  rw [hpn] at hbx hown
  rw [hpn]; clear hpn
  have hn0 := World.alloc_heap_new w (.cells #[.int .i64 2, .int .i64 k, .int .i64 n, .slice pa pn pc, .int .u8 fn] 48)
  obtain ⟨opc, hopc⟩ : ∃ l : List Value, l = [.int .i64 2, .int .i64 k, .int .i64 n, .slice pa pn pc, .int .u8 fn] := ⟨_, rfl⟩
  have HN0 : Hid (∀ nq, ((w.alloc (.cells #[.int .i64 2, .int .i64 k, .int .i64 n, .slice pa pn pc, .int .u8 fn] 48)).drewN nq).heap[w.heap.size]? = some (.cells opc.toArray 48 (0, 0))) := Lib.hid fun nq => by rw [hopc]; exact hn0
  have OPC := Lib.hid hopc; clear hopc hn0
  have HBX := Lib.hid hbx; clear hbx
  cases ho : ownB V p with
  | true =>
    rw [ho] at hown
    have HO := Lib.hid hown
    clear hown
    by_cases hn : n = 0
    · subst hn
      by_cases hk : k = 0
      · subst hk
        by_cases hf : fn = 0
        · subst hf
          have HB := Lib.hid (hB true (by simp [ho]))
          clear hB ho
          go_enter Try.func44, Try.ntmps44
          go_upto_region 1 with fail
          go_quiet (fail)
          go_upto_region 7 with fail
          refine gen_worldA (fun W => Below w.heap.size w W ∧ W.heap[w.heap.size]? = some (.cells opc.toArray 48 (0, 0))) ⟨drewBelow HBX.out _, HN0.out _⟩ ?_
          rintro W ⟨hbW, g0⟩
          have hq : ∀ p' : BelowW W, Calls Try.prog 41 #[.slice pa pn pc, .int .i64 V] p'.world fun e w' => e = .returned (.bool true) ∧ Below p'.world.heap.size p'.world w' := fun p' => HO.out _ (bNext p'.below hbW)
          have y3 : W.cell? ⟨w.heap.size, 3, none⟩ = some (.slice pa pn pc) := (blockCells g0 3).trans (by rw [OPC.out]; rfl)
          have y0 := keepCell hbW s0
          have f0 := cellBW y0; have f3 := cellBW y3
          have HQ := Lib.hid hq; have HBW := Lib.hid hbW
          clear hq hbW g0 y0 y3 s0 s1 s2 s3 hbs HBX HN0 HO
          refine wp_region_below (by kernel_rfl) (by kernel_rfl) ?_
          repeat (go_big_quiet_step (refine callsBW (HQ.out _)))
          refine wpQuiet_nil ?_
          rintro _ ⟨⟨wq, hwq⟩, rfl⟩
          clear f0 f3
          go_wp2_with fail
          go_ret
          exact ⟨ret_bool HB.out.symm, bNext hwq HBW.out⟩
        · have hf' : (fn == 0) = false := by simp [hf]
          have HB := Lib.hid (hB false (by simp [ho, hf]))
          clear hB ho
          go_enter Try.func44, Try.ntmps44
          go_upto_region 1 with fail
          go_quiet (fail)
          go_upto_region 7 with fail
          refine gen_worldA (fun W => Below w.heap.size w W ∧ W.heap[w.heap.size]? = some (.cells opc.toArray 48 (0, 0))) ⟨drewBelow HBX.out _, HN0.out _⟩ ?_
          rintro W ⟨hbW, g0⟩
          have hq : ∀ p' : BelowW W, Calls Try.prog 41 #[.slice pa pn pc, .int .i64 V] p'.world fun e w' => e = .returned (.bool true) ∧ Below p'.world.heap.size p'.world w' := fun p' => HO.out _ (bNext p'.below hbW)
          have y3 : W.cell? ⟨w.heap.size, 3, none⟩ = some (.slice pa pn pc) := (blockCells g0 3).trans (by rw [OPC.out]; rfl)
          have y0 := keepCell hbW s0
          have f0 := cellBW y0; have f3 := cellBW y3
          have HQ := Lib.hid hq; have HBW := Lib.hid hbW
          clear hq hbW g0 y0 y3 s0 s1 s2 s3 hbs HBX HN0 HO
          refine wp_region_below (by kernel_rfl) (by kernel_rfl) ?_
          repeat (go_big_quiet_step (refine callsBW (HQ.out _)))
          refine wpQuiet_nil ?_
          rintro _ ⟨⟨wq, hwq⟩, rfl⟩
          clear f0 f3
          go_wp2_with fail
          go_ret
          exact ⟨ret_bool HB.out.symm, bNext hwq HBW.out⟩
      · have hk' : (k == 0) = false := by simp [hk]
        have HB := Lib.hid (hB false (by simp [ho, hk]))
        clear hB ho
        go_enter Try.func44, Try.ntmps44
        go_upto_region 1 with fail
        go_quiet (fail)
        go_upto_region 7 with fail
        refine gen_worldA (fun W => Below w.heap.size w W ∧ W.heap[w.heap.size]? = some (.cells opc.toArray 48 (0, 0))) ⟨drewBelow HBX.out _, HN0.out _⟩ ?_
        rintro W ⟨hbW, g0⟩
        have hq : ∀ p' : BelowW W, Calls Try.prog 41 #[.slice pa pn pc, .int .i64 V] p'.world fun e w' => e = .returned (.bool true) ∧ Below p'.world.heap.size p'.world w' := fun p' => HO.out _ (bNext p'.below hbW)
        have y3 : W.cell? ⟨w.heap.size, 3, none⟩ = some (.slice pa pn pc) := (blockCells g0 3).trans (by rw [OPC.out]; rfl)
        have y0 := keepCell hbW s0
        have f0 := cellBW y0; have f3 := cellBW y3
        have HQ := Lib.hid hq; have HBW := Lib.hid hbW
        clear hq hbW g0 y0 y3 s0 s1 s2 s3 hbs HBX HN0 HO
        refine wp_region_below (by kernel_rfl) (by kernel_rfl) ?_
        repeat (go_big_quiet_step (refine callsBW (HQ.out _)))
        refine wpQuiet_nil ?_
        rintro _ ⟨⟨wq, hwq⟩, rfl⟩
        clear f0 f3
        go_wp2_with fail
        go_ret
        exact ⟨ret_bool HB.out.symm, bNext hwq HBW.out⟩
    · have hn' : (n == 0) = false := by simp [hn]
      have HB := Lib.hid (hB false (by simp [ho, hn]))
      clear hB ho
      go_enter Try.func44, Try.ntmps44
      go_upto_region 1 with fail
      go_quiet (fail)
      go_upto_region 7 with fail
      refine gen_worldA (fun W => Below w.heap.size w W ∧ W.heap[w.heap.size]? = some (.cells opc.toArray 48 (0, 0))) ⟨drewBelow HBX.out _, HN0.out _⟩ ?_
      rintro W ⟨hbW, g0⟩
      have hq : ∀ p' : BelowW W, Calls Try.prog 41 #[.slice pa pn pc, .int .i64 V] p'.world fun e w' => e = .returned (.bool true) ∧ Below p'.world.heap.size p'.world w' := fun p' => HO.out _ (bNext p'.below hbW)
      have y3 : W.cell? ⟨w.heap.size, 3, none⟩ = some (.slice pa pn pc) := (blockCells g0 3).trans (by rw [OPC.out]; rfl)
      have y0 := keepCell hbW s0
      have f0 := cellBW y0; have f3 := cellBW y3
      have HQ := Lib.hid hq; have HBW := Lib.hid hbW
      clear hq hbW g0 y0 y3 s0 s1 s2 s3 hbs HBX HN0 HO
      refine wp_region_below (by kernel_rfl) (by kernel_rfl) ?_
      repeat (go_big_quiet_step (refine callsBW (HQ.out _)))
      refine wpQuiet_nil ?_
      rintro _ ⟨⟨wq, hwq⟩, rfl⟩
      clear f0 f3
      go_wp2_with fail
      go_ret
      exact ⟨ret_bool HB.out.symm, bNext hwq HBW.out⟩
  | false =>
    rw [ho] at hown
    have HO := Lib.hid hown
    clear hown
    have HB := Lib.hid (hB false (by simp [ho]))
    clear hB ho
    go_enter Try.func44, Try.ntmps44
    go_upto_region 1 with fail
    go_quiet (fail)
    go_upto_region 7 with fail
    refine gen_worldA (fun W => Below w.heap.size w W ∧ W.heap[w.heap.size]? = some (.cells opc.toArray 48 (0, 0))) ⟨drewBelow HBX.out _, HN0.out _⟩ ?_
    rintro W ⟨hbW, g0⟩
    have hq : ∀ p' : BelowW W, Calls Try.prog 41 #[.slice pa pn pc, .int .i64 V] p'.world fun e w' => e = .returned (.bool false) ∧ Below p'.world.heap.size p'.world w' := fun p' => HO.out _ (bNext p'.below hbW)
    have y3 : W.cell? ⟨w.heap.size, 3, none⟩ = some (.slice pa pn pc) := (blockCells g0 3).trans (by rw [OPC.out]; rfl)
    have y0 := keepCell hbW s0
    have f0 := cellBW y0; have f3 := cellBW y3
    have HQ := Lib.hid hq; have HBW := Lib.hid hbW
    clear hq hbW g0 y0 y3 s0 s1 s2 s3 hbs HBX HN0 HO
    refine wp_region_below (by kernel_rfl) (by kernel_rfl) ?_
    repeat (go_big_quiet_step (refine callsBW (HQ.out _)))
    refine wpQuiet_nil ?_
    rintro _ ⟨⟨wq, hwq⟩, rfl⟩
    clear f0 f3
    go_wp2_with fail
    go_ret
    exact ⟨ret_bool HB.out.symm, bNext hwq HBW.out⟩
set_option maxHeartbeats 8000000 in
theorem cop3_any (s0 : w.cell? ⟨sb, 0, none⟩ = some (.int .i64 V)) (s1 : w.cell? ⟨sb, 1, none⟩ = some (.int .i64 L)) (s2 : w.cell? ⟨sb, 2, none⟩ = some (.int .i64 buf)) (s3 : w.cell? ⟨sb, 3, none⟩ = some (.slice ma made.length mc)) (hbs : sb < w.heap.size) : Calls Try.prog 44 #[.pointer (some ⟨sb, 0, none⟩), .agg #[.int .i64 3, .int .i64 k, .int .i64 n, .slice pa p.length pc, .int .u8 fn]] w fun e w' => e = .returned (.bool (opS V L made buf ⟨3, k, n, p, fn⟩)) ∧ Below w.heap.size w w' := by
  have hbx : Below w.heap.size w (w.alloc (.cells #[.int .i64 3, .int .i64 k, .int .i64 n, .slice pa p.length pc, .int .u8 fn] 48)) := (Below.refl _ _).alloc (Nat.le_refl _) _
  obtain ⟨pn, hpn⟩ : ∃ pn, p.length = pn := ⟨_, rfl⟩
  have hB : ∀ b, (decide (0 ≤ k) && decide (k < L) && n == 0 && decide (pn = 0) && fn == 0) = b → opS V L made buf ⟨3, k, n, p, fn⟩ = b := fun b h => by rw [← h, ← hpn]; simp [opS, opB]
  rw [hpn] at hbx
  rw [hpn]; clear hpn
  have HBX := Lib.hid hbx; clear hbx
  by_cases h0 : 0 ≤ k
  · obtain ⟨kn, rfl⟩ : ∃ kn : Nat, k = kn := ⟨k.toNat, by omega⟩
    by_cases hL : kn < L
    · have hL' : (kn : Int) < (L : Int) := by omega
      by_cases hn : n = 0
      · subst hn
        by_cases hp : pn = 0
        · subst hp
          by_cases hf : fn = 0
          · subst hf
            have HB := Lib.hid (hB true (by simp [hL]))
            clear hB
            go_enter Try.func44, Try.ntmps44
            go_upto_region 1 with fail
            go_quiet (fail)
            go_upto_region 9 with fail
            go_quiet (fail)
            go_wp2_with fail
            go_ret
            exact ⟨ret_bool HB.out.symm, drewBelow HBX.out _⟩
          · have hf' : (fn == 0) = false := by simp [hf]
            have HB := Lib.hid (hB false (by simp [hL, hf]))
            clear hB
            go_enter Try.func44, Try.ntmps44
            go_upto_region 1 with fail
            go_quiet (fail)
            go_upto_region 9 with fail
            go_quiet (fail)
            go_wp2_with fail
            go_ret
            exact ⟨ret_bool HB.out.symm, drewBelow HBX.out _⟩
        · have hp' : ((pn : Int) == 0) = false := by simp; omega
          have hp2 : (pn == 0) = false := by simp; omega
          have HB := Lib.hid (hB false (by simp [hL, hp]))
          clear hB
          go_enter Try.func44, Try.ntmps44
          go_upto_region 1 with fail
          go_quiet (fail)
          go_upto_region 9 with fail
          go_quiet (fail)
          go_wp2_with fail
          go_ret
          exact ⟨ret_bool HB.out.symm, drewBelow HBX.out _⟩
      · have hn' : (n == 0) = false := by simp [hn]
        have HB := Lib.hid (hB false (by simp [hL, hn]))
        clear hB
        go_enter Try.func44, Try.ntmps44
        go_upto_region 1 with fail
        go_quiet (fail)
        go_upto_region 9 with fail
        go_quiet (fail)
        go_wp2_with fail
        go_ret
        exact ⟨ret_bool HB.out.symm, drewBelow HBX.out _⟩
    · have hL' : decide ((kn : Int) < (L : Int)) = false := by simp; omega
      have hL2 : decide (kn < L) = false := by simp; omega
      have HB := Lib.hid (hB false (by simp [hL]))
      clear hB
      go_enter Try.func44, Try.ntmps44
      go_upto_region 1 with fail
      go_quiet (fail)
      go_upto_region 9 with fail
      go_quiet (fail)
      go_wp2_with fail
      go_ret
      exact ⟨ret_bool HB.out.symm, drewBelow HBX.out _⟩
  · have h0' : decide (0 ≤ k) = false := by simpa using h0
    have h0i : k < 0 := by omega
    have HB := Lib.hid (hB false (by simp [h0]))
    clear hB
    go_enter Try.func44, Try.ntmps44
    go_upto_region 1 with fail
    go_quiet (fail)
    go_upto_region 9 with fail
    go_quiet (fail)
    go_wp2_with fail
    go_ret
    exact ⟨ret_bool HB.out.symm, drewBelow HBX.out _⟩
set_option maxHeartbeats 8000000 in
theorem cop4_any (s0 : w.cell? ⟨sb, 0, none⟩ = some (.int .i64 V)) (s1 : w.cell? ⟨sb, 1, none⟩ = some (.int .i64 L)) (s2 : w.cell? ⟨sb, 2, none⟩ = some (.int .i64 buf)) (s3 : w.cell? ⟨sb, 3, none⟩ = some (.slice ma made.length mc)) (hbs : sb < w.heap.size) (hmade : MadeAt w ma made) : Calls Try.prog 44 #[.pointer (some ⟨sb, 0, none⟩), .agg #[.int .i64 4, .int .i64 k, .int .i64 n, .slice pa p.length pc, .int .u8 fn]] w fun e w' => e = .returned (.bool (opS V L made buf ⟨4, k, n, p, fn⟩)) ∧ Below w.heap.size w w' := by
  have hbx : Below w.heap.size w (w.alloc (.cells #[.int .i64 4, .int .i64 k, .int .i64 n, .slice pa p.length pc, .int .u8 fn] 48)) := (Below.refl _ _).alloc (Nat.le_refl _) _
  obtain ⟨pn, hpn⟩ : ∃ pn, p.length = pn := ⟨_, rfl⟩
  have hB : ∀ b, (madeB made k && !(k == buf) && n == 0 && decide (pn = 0) && fn == 0) = b → opS V L made buf ⟨4, k, n, p, fn⟩ = b := fun b h => by rw [← h, ← hpn]; simp only [opS, opB]; cases madeB made k <;> simp <;> (try (cases hkb : k == buf <;> simp))
  rw [hpn] at hbx
  rw [hpn]; clear hpn
  have HBX := Lib.hid hbx; clear hbx
  by_cases h0 : 0 ≤ k
  · obtain ⟨kn, rfl⟩ : ∃ kn : Nat, k = kn := ⟨k.toNat, by omega⟩
    by_cases hM : kn < made.length
    · have hM' : (kn : Int) < (made.length : Int) := by omega
      obtain ⟨mb, off, rfl, xm⟩ := hmade kn hM
      have hbm := World.block_lt_of_cell? _ _ xm
      obtain ⟨mk, hmk⟩ : ∃ mk, made[kn] = mk := ⟨_, rfl⟩
      rw [hmk] at xm
      cases hm : mk with
      | true =>
        subst hm
        by_cases hb : ¬ (kn : Int) = buf
        · have hb' : ((kn : Int) == buf) = false := by simp [hb]
          have hb2 : ((kn : Int) != buf) = true := by simp [hb]
          by_cases hn : n = 0
          · subst hn
            by_cases hp : pn = 0
            · subst hp
              by_cases hf : fn = 0
              · subst hf
                have HB := Lib.hid (hB true (by simp [madeB_nat hM, hmk, hb]))
                clear hB hmk
                go_enter Try.func44, Try.ntmps44
                go_upto_region 1 with fail
                go_quiet (fail)
                go_upto_region 11 with fail
                go_quiet (fail)
                go_wp2_with fail
                go_ret
                exact ⟨ret_bool HB.out.symm, drewBelow HBX.out _⟩
              · have hf' : (fn == 0) = false := by simp [hf]
                have HB := Lib.hid (hB false (by simp [madeB_nat hM, hmk, hb, hf]))
                clear hB hmk
                go_enter Try.func44, Try.ntmps44
                go_upto_region 1 with fail
                go_quiet (fail)
                go_upto_region 11 with fail
                go_quiet (fail)
                go_wp2_with fail
                go_ret
                exact ⟨ret_bool HB.out.symm, drewBelow HBX.out _⟩
            · have hp' : ((pn : Int) == 0) = false := by simp; omega
              have hp2 : (pn == 0) = false := by simp; omega
              have HB := Lib.hid (hB false (by simp [madeB_nat hM, hmk, hb, hp]))
              clear hB hmk
              go_enter Try.func44, Try.ntmps44
              go_upto_region 1 with fail
              go_quiet (fail)
              go_upto_region 11 with fail
              go_quiet (fail)
              go_wp2_with fail
              go_ret
              exact ⟨ret_bool HB.out.symm, drewBelow HBX.out _⟩
          · have hn' : (n == 0) = false := by simp [hn]
            have HB := Lib.hid (hB false (by simp [madeB_nat hM, hmk, hb, hn]))
            clear hB hmk
            go_enter Try.func44, Try.ntmps44
            go_upto_region 1 with fail
            go_quiet (fail)
            go_upto_region 11 with fail
            go_quiet (fail)
            go_wp2_with fail
            go_ret
            exact ⟨ret_bool HB.out.symm, drewBelow HBX.out _⟩
        · have hb := Classical.not_not.1 hb
          subst hb
          have HB := Lib.hid (hB false (by simp [madeB_nat hM, hmk]))
          clear hB hmk
          go_enter Try.func44, Try.ntmps44
          go_upto_region 1 with fail
          go_quiet (fail)
          go_upto_region 11 with fail
          go_quiet (fail)
          go_wp2_with fail
          go_ret
          exact ⟨ret_bool HB.out.symm, drewBelow HBX.out _⟩
      | false =>
        subst hm
        have HB := Lib.hid (hB false (by simp [madeB_nat hM, hmk]))
        clear hB hmk
        go_enter Try.func44, Try.ntmps44
        go_upto_region 1 with fail
        go_quiet (fail)
        go_upto_region 11 with fail
        go_quiet (fail)
        go_wp2_with fail
        go_ret
        exact ⟨ret_bool HB.out.symm, drewBelow HBX.out _⟩
    · have hM' : decide ((kn : Int) < (made.length : Int)) = false := by simp; omega
      have hM2 : decide (kn < made.length) = false := by simp; omega
      have HB := Lib.hid (hB false (by simp [madeB_long hM]))
      clear hB
      go_enter Try.func44, Try.ntmps44
      go_upto_region 1 with fail
      go_quiet (fail)
      go_upto_region 11 with fail
      go_quiet (fail)
      go_wp2_with fail
      go_ret
      exact ⟨ret_bool HB.out.symm, drewBelow HBX.out _⟩
  · have h0' : decide (0 ≤ k) = false := by simpa using h0
    have h0i : k < 0 := by omega
    have HB := Lib.hid (hB false (by simp [h0, madeB_neg h0]))
    clear hB
    go_enter Try.func44, Try.ntmps44
    go_upto_region 1 with fail
    go_quiet (fail)
    go_upto_region 11 with fail
    go_quiet (fail)
    go_wp2_with fail
    go_ret
    exact ⟨ret_bool HB.out.symm, drewBelow HBX.out _⟩
set_option maxHeartbeats 8000000 in
theorem cop5_any (s0 : w.cell? ⟨sb, 0, none⟩ = some (.int .i64 V)) (s1 : w.cell? ⟨sb, 1, none⟩ = some (.int .i64 L)) (s2 : w.cell? ⟨sb, 2, none⟩ = some (.int .i64 buf)) (s3 : w.cell? ⟨sb, 3, none⟩ = some (.slice ma made.length mc)) (hbs : sb < w.heap.size) : Calls Try.prog 44 #[.pointer (some ⟨sb, 0, none⟩), .agg #[.int .i64 5, .int .i64 k, .int .i64 n, .slice pa p.length pc, .int .u8 fn]] w fun e w' => e = .returned (.bool (opS V L made buf ⟨5, k, n, p, fn⟩)) ∧ Below w.heap.size w w' := by
  have hbx : Below w.heap.size w (w.alloc (.cells #[.int .i64 5, .int .i64 k, .int .i64 n, .slice pa p.length pc, .int .u8 fn] 48)) := (Below.refl _ _).alloc (Nat.le_refl _) _
  have htk := fun W => takes_any W fn false
  obtain ⟨pn, hpn⟩ : ∃ pn, p.length = pn := ⟨_, rfl⟩
  have hB : ∀ b, (takes fn false && n == 0 && k == 0 && decide (pn = 0)) = b → opS V L made buf ⟨5, k, n, p, fn⟩ = b := fun b h => by rw [← h, ← hpn]; simp [opS, opB]; cases takes fn false <;> simp <;> (try (cases (k == 0) <;> cases (n == 0) <;> rfl))
  rw [hpn] at hbx
  rw [hpn]; clear hpn
  have HBX := Lib.hid hbx; clear hbx
  cases ht : takes fn false with
  | true =>
    rw [ht] at htk
    have HT := Lib.hid htk
    clear htk
    by_cases hn : n = 0
    · subst hn
      by_cases hk : k = 0
      · subst hk
        by_cases hp : pn = 0
        · subst hp
          have HB := Lib.hid (hB true (by simp [ht]))
          clear hB ht s0 s1 s2 s3 hbs
          go_enter Try.func44, Try.ntmps44
          go_upto_region 1 with fail
          go_quiet (fail)
          go_wp2_with (go_at_call 40; refine (HT.out _).mono ?_; rintro e w1 ⟨rfl, rfl⟩)
          go_ret
          exact ⟨ret_bool HB.out.symm, drewBelow HBX.out _⟩
        · have hp' : ((pn : Int) == 0) = false := by simp; omega
          have hp2 : (pn == 0) = false := by simp; omega
          have HB := Lib.hid (hB false (by simp [ht, hp]))
          clear hB ht s0 s1 s2 s3 hbs
          go_enter Try.func44, Try.ntmps44
          go_upto_region 1 with fail
          go_quiet (fail)
          go_wp2_with (go_at_call 40; refine (HT.out _).mono ?_; rintro e w1 ⟨rfl, rfl⟩)
          go_ret
          exact ⟨ret_bool HB.out.symm, drewBelow HBX.out _⟩
      · have hk' : (k == 0) = false := by simp [hk]
        have HB := Lib.hid (hB false (by simp [ht, hk]))
        clear hB ht s0 s1 s2 s3 hbs
        go_enter Try.func44, Try.ntmps44
        go_upto_region 1 with fail
        go_quiet (fail)
        go_wp2_with (go_at_call 40; refine (HT.out _).mono ?_; rintro e w1 ⟨rfl, rfl⟩)
        go_ret
        exact ⟨ret_bool HB.out.symm, drewBelow HBX.out _⟩
    · have hn' : (n == 0) = false := by simp [hn]
      have HB := Lib.hid (hB false (by simp [ht, hn]))
      clear hB ht s0 s1 s2 s3 hbs
      go_enter Try.func44, Try.ntmps44
      go_upto_region 1 with fail
      go_quiet (fail)
      go_wp2_with (go_at_call 40; refine (HT.out _).mono ?_; rintro e w1 ⟨rfl, rfl⟩)
      go_ret
      exact ⟨ret_bool HB.out.symm, drewBelow HBX.out _⟩
  | false =>
    rw [ht] at htk
    have HT := Lib.hid htk
    clear htk
    have HB := Lib.hid (hB false (by simp [ht]))
    clear hB ht s0 s1 s2 s3 hbs
    go_enter Try.func44, Try.ntmps44
    go_upto_region 1 with fail
    go_quiet (fail)
    go_wp2_with (go_at_call 40; refine (HT.out _).mono ?_; rintro e w1 ⟨rfl, rfl⟩)
    go_ret
    exact ⟨ret_bool HB.out.symm, drewBelow HBX.out _⟩
set_option maxHeartbeats 8000000 in
theorem cop6_any (s0 : w.cell? ⟨sb, 0, none⟩ = some (.int .i64 V)) (s1 : w.cell? ⟨sb, 1, none⟩ = some (.int .i64 L)) (s2 : w.cell? ⟨sb, 2, none⟩ = some (.int .i64 buf)) (s3 : w.cell? ⟨sb, 3, none⟩ = some (.slice ma made.length mc)) (hbs : sb < w.heap.size) : Calls Try.prog 44 #[.pointer (some ⟨sb, 0, none⟩), .agg #[.int .i64 6, .int .i64 k, .int .i64 n, .slice pa p.length pc, .int .u8 fn]] w fun e w' => e = .returned (.bool (opS V L made buf ⟨6, k, n, p, fn⟩)) ∧ Below w.heap.size w w' := by
  have hbx : Below w.heap.size w (w.alloc (.cells #[.int .i64 6, .int .i64 k, .int .i64 n, .slice pa p.length pc, .int .u8 fn] 48)) := (Below.refl _ _).alloc (Nat.le_refl _) _
  have htk := fun W => takes_any W fn true
  obtain ⟨pn, hpn⟩ : ∃ pn, p.length = pn := ⟨_, rfl⟩
  have hB : ∀ b, (takes fn true && n == 0 && k == 0 && decide (pn = 0)) = b → opS V L made buf ⟨6, k, n, p, fn⟩ = b := fun b h => by rw [← h, ← hpn]; simp [opS, opB]; cases takes fn true <;> simp <;> (try (cases (k == 0) <;> cases (n == 0) <;> rfl))
  rw [hpn] at hbx
  rw [hpn]; clear hpn
  have HBX := Lib.hid hbx; clear hbx
  cases ht : takes fn true with
  | true =>
    rw [ht] at htk
    have HT := Lib.hid htk
    clear htk
    by_cases hn : n = 0
    · subst hn
      by_cases hk : k = 0
      · subst hk
        by_cases hp : pn = 0
        · subst hp
          have HB := Lib.hid (hB true (by simp [ht]))
          clear hB ht s0 s1 s2 s3 hbs
          go_enter Try.func44, Try.ntmps44
          go_upto_region 1 with fail
          go_quiet (fail)
          go_wp2_with (go_at_call 40; refine (HT.out _).mono ?_; rintro e w1 ⟨rfl, rfl⟩)
          go_ret
          exact ⟨ret_bool HB.out.symm, drewBelow HBX.out _⟩
        · have hp' : ((pn : Int) == 0) = false := by simp; omega
          have hp2 : (pn == 0) = false := by simp; omega
          have HB := Lib.hid (hB false (by simp [ht, hp]))
          clear hB ht s0 s1 s2 s3 hbs
          go_enter Try.func44, Try.ntmps44
          go_upto_region 1 with fail
          go_quiet (fail)
          go_wp2_with (go_at_call 40; refine (HT.out _).mono ?_; rintro e w1 ⟨rfl, rfl⟩)
          go_ret
          exact ⟨ret_bool HB.out.symm, drewBelow HBX.out _⟩
      · have hk' : (k == 0) = false := by simp [hk]
        have HB := Lib.hid (hB false (by simp [ht, hk]))
        clear hB ht s0 s1 s2 s3 hbs
        go_enter Try.func44, Try.ntmps44
        go_upto_region 1 with fail
        go_quiet (fail)
        go_wp2_with (go_at_call 40; refine (HT.out _).mono ?_; rintro e w1 ⟨rfl, rfl⟩)
        go_ret
        exact ⟨ret_bool HB.out.symm, drewBelow HBX.out _⟩
    · have hn' : (n == 0) = false := by simp [hn]
      have HB := Lib.hid (hB false (by simp [ht, hn]))
      clear hB ht s0 s1 s2 s3 hbs
      go_enter Try.func44, Try.ntmps44
      go_upto_region 1 with fail
      go_quiet (fail)
      go_wp2_with (go_at_call 40; refine (HT.out _).mono ?_; rintro e w1 ⟨rfl, rfl⟩)
      go_ret
      exact ⟨ret_bool HB.out.symm, drewBelow HBX.out _⟩
  | false =>
    rw [ht] at htk
    have HT := Lib.hid htk
    clear htk
    have HB := Lib.hid (hB false (by simp [ht]))
    clear hB ht s0 s1 s2 s3 hbs
    go_enter Try.func44, Try.ntmps44
    go_upto_region 1 with fail
    go_quiet (fail)
    go_wp2_with (go_at_call 40; refine (HT.out _).mono ?_; rintro e w1 ⟨rfl, rfl⟩)
    go_ret
    exact ⟨ret_bool HB.out.symm, drewBelow HBX.out _⟩
end
end Go.Proofs.Ytabodlhlanolcaa
