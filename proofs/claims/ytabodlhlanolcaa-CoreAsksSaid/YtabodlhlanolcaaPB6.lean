import Derived.Test.YtabodlhlanolcaaPB5
import Derived.Test.YtabodlhlanolcaaPB1
import Derived.Laws.Rows
namespace Go.Proofs.Ytabodlhlanolcaa
set_option maxRecDepth 100000
open Go.RowKit
set_option linter.unusedVariables false
set_option linter.unusedSimpArgs false
attribute [local go_sem ↓] Go.wp_at_zero Go.wp_at_succ

def opS (V L : Nat) (made : List Bool) (buf : Int) (o : Cop) : Bool := opB V L made o && !(o.how == 4 && o.k == buf)
theorem drewBelow {w w' : World} (h : Below w.heap.size w w') (n : Nat) : Below w.heap.size w (w'.drewN n) := bNext (Below.drewN _ _) h
section
variable (w : World) (k n fn : Int) (p : List Mono) (pa : Option Addr) (pc V L : Nat) (buf : Int) (ma : Option Addr) (mc : Nat) (made : List Bool) (sb : Nat)
set_option maxHeartbeats 8000000 in
theorem cop1_any (s0 : w.cell? ⟨sb, 0, none⟩ = some (.int .i64 V)) (s1 : w.cell? ⟨sb, 1, none⟩ = some (.int .i64 L)) (s2 : w.cell? ⟨sb, 2, none⟩ = some (.int .i64 buf)) (s3 : w.cell? ⟨sb, 3, none⟩ = some (.slice ma made.length mc)) (hbs : sb < w.heap.size) : Calls Try.prog 44 #[.pointer (some ⟨sb, 0, none⟩), .agg #[.int .i64 1, .int .i64 k, .int .i64 n, .slice pa p.length pc, .int .u8 fn]] w fun e w' => e = .returned (.bool (opS V L made buf ⟨1, k, n, p, fn⟩)) ∧ Below w.heap.size w w' := by
  have hbx : Below w.heap.size w (w.alloc (.cells #[.int .i64 1, .int .i64 k, .int .i64 n, .slice pa p.length pc, .int .u8 fn] 48)) := (Below.refl _ _).alloc (Nat.le_refl _) _
  obtain ⟨pn, hpn⟩ : ∃ pn, p.length = pn := ⟨_, rfl⟩
  have hB : ∀ b, (k == 0 && decide (pn = 0) && fn == 0) = b → opS V L made buf ⟨1, k, n, p, fn⟩ = b := fun b h => by rw [← h, ← hpn]; simp [opS, opB]
  rw [hpn] at hbx
  rw [hpn]; clear hpn
  have HBX := Lib.hid hbx; clear hbx
  by_cases hk : k = 0
  · subst hk
    by_cases hp : pn = 0
    · subst hp
      by_cases hf : fn = 0
      · subst hf
        have HB := Lib.hid (hB true (by simp []))
        clear hB s0 s1 s2 s3 hbs
        go_enter Try.func44, Try.ntmps44
        go_upto_region 1 with fail
        go_quiet (fail)
        go_wp2_with fail
        go_ret
        exact ⟨ret_bool HB.out.symm, drewBelow HBX.out _⟩
      · have hf' : (fn == 0) = false := by simp [hf]
        have HB := Lib.hid (hB false (by simp [hf]))
        clear hB s0 s1 s2 s3 hbs
        go_enter Try.func44, Try.ntmps44
        go_upto_region 1 with fail
        go_quiet (fail)
        go_wp2_with fail
        go_ret
        exact ⟨ret_bool HB.out.symm, drewBelow HBX.out _⟩
    · have hp' : ((pn : Int) == 0) = false := by simp; omega
      have hp2 : (pn == 0) = false := by simp; omega
      have HB := Lib.hid (hB false (by simp [hp]))
      clear hB s0 s1 s2 s3 hbs
      go_enter Try.func44, Try.ntmps44
      go_upto_region 1 with fail
      go_quiet (fail)
      go_wp2_with fail
      go_ret
      exact ⟨ret_bool HB.out.symm, drewBelow HBX.out _⟩
  · have hk' : (k == 0) = false := by simp [hk]
    have HB := Lib.hid (hB false (by simp [hk]))
    clear hB s0 s1 s2 s3 hbs
    go_enter Try.func44, Try.ntmps44
    go_upto_region 1 with fail
    go_quiet (fail)
    go_wp2_with fail
    go_ret
    exact ⟨ret_bool HB.out.symm, drewBelow HBX.out _⟩
set_option maxHeartbeats 8000000 in
theorem cop2_any (s0 : w.cell? ⟨sb, 0, none⟩ = some (.int .i64 V)) (s1 : w.cell? ⟨sb, 1, none⟩ = some (.int .i64 L)) (s2 : w.cell? ⟨sb, 2, none⟩ = some (.int .i64 buf)) (s3 : w.cell? ⟨sb, 3, none⟩ = some (.slice ma made.length mc)) (hbs : sb < w.heap.size) (hV : V ≤ 6) (hpe : monoRep.Els w pa p) (hpl : p.length ≤ 9223372036854775807) : Calls Try.prog 44 #[.pointer (some ⟨sb, 0, none⟩), .agg #[.int .i64 2, .int .i64 k, .int .i64 n, .slice pa p.length pc, .int .u8 fn]] w fun e w' => e = .returned (.bool (opS V L made buf ⟨2, k, n, p, fn⟩)) ∧ Below w.heap.size w w' := by
  have hbx : Below w.heap.size w (w.alloc (.cells #[.int .i64 2, .int .i64 k, .int .i64 n, .slice pa p.length pc, .int .u8 fn] 48)) := (Below.refl _ _).alloc (Nat.le_refl _) _
  have hown := fun W (hb : Below w.heap.size w W) => of_any W pa pc p V hV (hpe.below monoRep hb (Nat.le_refl _)) hpl
  clear hpe
  obtain ⟨pn, hpn⟩ : ∃ pn, p.length = pn := ⟨_, rfl⟩
  have hB : ∀ b, (ownB V p && n == 0 && k == 0 && fn == 0) = b → opS V L made buf ⟨2, k, n, p, fn⟩ = b := fun b h => by rw [← h]; simp [opS, opB]; cases ownB V p <;> simp <;> (try (cases (k == 0) <;> cases (n == 0) <;> rfl))
  rw [hpn] at hbx hown
  rw [hpn]; clear hpn
  have hn0 := World.alloc_heap_new w (.cells #[.int .i64 2, .int .i64 k, .int .i64 n, .slice pa pn pc, .int .u8 fn] 48)
  obtain ⟨opc, hopc⟩ : ∃ l : List Value, l = [.int .i64 2, .int .i64 k, .int .i64 n, .slice pa pn pc, .int .u8 fn] := ⟨_, rfl⟩
  have HN0 : Hid (∀ nq, ((w.alloc (.cells #[.int .i64 2, .int .i64 k, .int .i64 n, .slice pa pn pc, .int .u8 fn] 48)).drewN nq).heap[w.heap.size]? = some (.cells opc.toArray 48 (0, 0))) := Lib.hid fun nq => by rw [hopc]; exact hn0
  have OPC := Lib.hid hopc; clear hopc hn0
  have HBX := Lib.hid hbx; clear hbx
  cases ho : ownB V p with
  | true =>
    rw [ho] at hown
    have HO := Lib.hid hown
    clear hown
    by_cases hn : n = 0
    · subst hn
      by_cases hk : k = 0
      · subst hk
        by_cases hf : fn = 0
        · subst hf
          have HB := Lib.hid (hB true (by simp [ho]))
          clear hB ho
          go_enter Try.func44, Try.ntmps44
          go_upto_region 1 with fail
          go_quiet (fail)
          go_upto_region 7 with fail
          refine gen_worldA (fun W => Below w.heap.size w W ∧ W.heap[w.heap.size]? = some (.cells opc.toArray 48 (0, 0))) ⟨drewBelow HBX.out _, HN0.out _⟩ ?_
          rintro W ⟨hbW, g0⟩
          have hq : ∀ p' : BelowW W, Calls Try.prog 41 #[.slice pa pn pc, .int .i64 V] p'.world fun e w' => e = .returned (.bool true) ∧ Below p'.world.heap.size p'.world w' := fun p' => HO.out _ (bNext p'.below hbW)
          have y3 : W.cell? ⟨w.heap.size, 3, none⟩ = some (.slice pa pn pc) := (blockCells g0 3).trans (by rw [OPC.out]; rfl)
          have y0 := keepCell hbW s0
          have f0 := cellBW y0; have f3 := cellBW y3
          have HQ := Lib.hid hq; have HBW := Lib.hid hbW
          clear hq hbW g0 y0 y3 s0 s1 s2 s3 hbs HBX HN0 HO
          refine wp_region_below (by kernel_rfl) (by kernel_rfl) ?_
          repeat (go_big_quiet_step (refine callsBW (HQ.out _)))
          refine wpQuiet_nil ?_
          rintro _ ⟨⟨wq, hwq⟩, rfl⟩
          clear f0 f3
          go_wp2_with fail
          go_ret
          exact ⟨ret_bool HB.out.symm, bNext hwq HBW.out⟩
        · have hf' : (fn == 0) = false := by simp [hf]
          have HB := Lib.hid (hB false (by simp [ho, hf]))
          clear hB ho
          go_enter Try.func44, Try.ntmps44
          go_upto_region 1 with fail
          go_quiet (fail)
          go_upto_region 7 with fail
          refine gen_worldA (fun W => Below w.heap.size w W ∧ W.heap[w.heap.size]? = some (.cells opc.toArray 48 (0, 0))) ⟨drewBelow HBX.out _, HN0.out _⟩ ?_
          rintro W ⟨hbW, g0⟩
          have hq : ∀ p' : BelowW W, Calls Try.prog 41 #[.slice pa pn pc, .int .i64 V] p'.world fun e w' => e = .returned (.bool true) ∧ Below p'.world.heap.size p'.world w' := fun p' => HO.out _ (bNext p'.below hbW)
          have y3 : W.cell? ⟨w.heap.size, 3, none⟩ = some (.slice pa pn pc) := (blockCells g0 3).trans (by rw [OPC.out]; rfl)
          have y0 := keepCell hbW s0
          have f0 := cellBW y0; have f3 := cellBW y3
          have HQ := Lib.hid hq; have HBW := Lib.hid hbW
          clear hq hbW g0 y0 y3 s0 s1 s2 s3 hbs HBX HN0 HO
          refine wp_region_below (by kernel_rfl) (by kernel_rfl) ?_
          repeat (go_big_quiet_step (refine callsBW (HQ.out _)))
          refine wpQuiet_nil ?_
          rintro _ ⟨⟨wq, hwq⟩, rfl⟩
          clear f0 f3
          go_wp2_with fail
          go_ret
          exact ⟨ret_bool HB.out.symm, bNext hwq HBW.out⟩
      · have hk' : (k == 0) = false := by simp [hk]
        have HB := Lib.hid (hB false (by simp [ho, hk]))
        clear hB ho
        go_enter Try.func44, Try.ntmps44
        go_upto_region 1 with fail
        go_quiet (fail)
        go_upto_region 7 with fail
        refine gen_worldA (fun W => Below w.heap.size w W ∧ W.heap[w.heap.size]? = some (.cells opc.toArray 48 (0, 0))) ⟨drewBelow HBX.out _, HN0.out _⟩ ?_
        rintro W ⟨hbW, g0⟩
        have hq : ∀ p' : BelowW W, Calls Try.prog 41 #[.slice pa pn pc, .int .i64 V] p'.world fun e w' => e = .returned (.bool true) ∧ Below p'.world.heap.size p'.world w' := fun p' => HO.out _ (bNext p'.below hbW)
        have y3 : W.cell? ⟨w.heap.size, 3, none⟩ = some (.slice pa pn pc) := (blockCells g0 3).trans (by rw [OPC.out]; rfl)
        have y0 := keepCell hbW s0
        have f0 := cellBW y0; have f3 := cellBW y3
        have HQ := Lib.hid hq; have HBW := Lib.hid hbW
        clear hq hbW g0 y0 y3 s0 s1 s2 s3 hbs HBX HN0 HO
        refine wp_region_below (by kernel_rfl) (by kernel_rfl) ?_
        repeat (go_big_quiet_step (refine callsBW (HQ.out _)))
        refine wpQuiet_nil ?_
        rintro _ ⟨⟨wq, hwq⟩, rfl⟩
        clear f0 f3
        go_wp2_with fail
        go_ret
        exact ⟨ret_bool HB.out.symm, bNext hwq HBW.out⟩
    · have hn' : (n == 0) = false := by simp [hn]
      have HB := Lib.hid (hB false (by simp [ho, hn]))
      clear hB ho
      go_enter Try.func44, Try.ntmps44
      go_upto_region 1 with fail
      go_quiet (fail)
      go_upto_region 7 with fail
      refine gen_worldA (fun W => Below w.heap.size w W ∧ W.heap[w.heap.size]? = some (.cells opc.toArray 48 (0, 0))) ⟨drewBelow HBX.out _, HN0.out _⟩ ?_
      rintro W ⟨hbW, g0⟩
      have hq : ∀ p' : BelowW W, Calls Try.prog 41 #[.slice pa pn pc, .int .i64 V] p'.world fun e w' => e = .returned (.bool true) ∧ Below p'.world.heap.size p'.world w' := fun p' => HO.out _ (bNext p'.below hbW)
      have y3 : W.cell? ⟨w.heap.size, 3, none⟩ = some (.slice pa pn pc) := (blockCells g0 3).trans (by rw [OPC.out]; rfl)
      have y0 := keepCell hbW s0
      have f0 := cellBW y0; have f3 := cellBW y3
      have HQ := Lib.hid hq; have HBW := Lib.hid hbW
      clear hq hbW g0 y0 y3 s0 s1 s2 s3 hbs HBX HN0 HO
      refine wp_region_below (by kernel_rfl) (by kernel_rfl) ?_
      repeat (go_big_quiet_step (refine callsBW (HQ.out _)))
      refine wpQuiet_nil ?_
      rintro _ ⟨⟨wq, hwq⟩, rfl⟩
      clear f0 f3
      go_wp2_with fail
      go_ret
      exact ⟨ret_bool HB.out.symm, bNext hwq HBW.out⟩
  | false =>
    rw [ho] at hown
    have HO := Lib.hid hown
    clear hown
    have HB := Lib.hid (hB false (by simp [ho]))
    clear hB ho
    go_enter Try.func44, Try.ntmps44
    go_upto_region 1 with fail
    go_quiet (fail)
    go_upto_region 7 with fail
    refine gen_worldA (fun W => Below w.heap.size w W ∧ W.heap[w.heap.size]? = some (.cells opc.toArray 48 (0, 0))) ⟨drewBelow HBX.out _, HN0.out _⟩ ?_
    rintro W ⟨hbW, g0⟩
    have hq : ∀ p' : BelowW W, Calls Try.prog 41 #[.slice pa pn pc, .int .i64 V] p'.world fun e w' => e = .returned (.bool false) ∧ Below p'.world.heap.size p'.world w' := fun p' => HO.out _ (bNext p'.below hbW)
    have y3 : W.cell? ⟨w.heap.size, 3, none⟩ = some (.slice pa pn pc) := (blockCells g0 3).trans (by rw [OPC.out]; rfl)
    have y0 := keepCell hbW s0
    have f0 := cellBW y0; have f3 := cellBW y3
    have HQ := Lib.hid hq; have HBW := Lib.hid hbW
    clear hq hbW g0 y0 y3 s0 s1 s2 s3 hbs HBX HN0 HO
    refine wp_region_below (by kernel_rfl) (by kernel_rfl) ?_
    repeat (go_big_quiet_step (refine callsBW (HQ.out _)))
    refine wpQuiet_nil ?_
    rintro _ ⟨⟨wq, hwq⟩, rfl⟩
    clear f0 f3
    go_wp2_with fail
    go_ret
    exact ⟨ret_bool HB.out.symm, bNext hwq HBW.out⟩
set_option maxHeartbeats 8000000 in
theorem cop3_any (s0 : w.cell? ⟨sb, 0, none⟩ = some (.int .i64 V)) (s1 : w.cell? ⟨sb, 1, none⟩ = some (.int .i64 L)) (s2 : w.cell? ⟨sb, 2, none⟩ = some (.int .i64 buf)) (s3 : w.cell? ⟨sb, 3, none⟩ = some (.slice ma made.length mc)) (hbs : sb < w.heap.size) : Calls Try.prog 44 #[.pointer (some ⟨sb, 0, none⟩), .agg #[.int .i64 3, .int .i64 k, .int .i64 n, .slice pa p.length pc, .int .u8 fn]] w fun e w' => e = .returned (.bool (opS V L made buf ⟨3, k, n, p, fn⟩)) ∧ Below w.heap.size w w' := by
  have hbx : Below w.heap.size w (w.alloc (.cells #[.int .i64 3, .int .i64 k, .int .i64 n, .slice pa p.length pc, .int .u8 fn] 48)) := (Below.refl _ _).alloc (Nat.le_refl _) _
  obtain ⟨pn, hpn⟩ : ∃ pn, p.length = pn := ⟨_, rfl⟩
  have hB : ∀ b, (decide (0 ≤ k) && decide (k < L) && n == 0 && decide (pn = 0) && fn == 0) = b → opS V L made buf ⟨3, k, n, p, fn⟩ = b := fun b h => by rw [← h, ← hpn]; simp [opS, opB]
  rw [hpn] at hbx
  rw [hpn]; clear hpn
  have HBX := Lib.hid hbx; clear hbx
  by_cases h0 : 0 ≤ k
  · obtain ⟨kn, rfl⟩ : ∃ kn : Nat, k = kn := ⟨k.toNat, by omega⟩
    by_cases hL : kn < L
    · have hL' : (kn : Int) < (L : Int) := by omega
      by_cases hn : n = 0
      · subst hn
        by_cases hp : pn = 0
        · subst hp
          by_cases hf : fn = 0
          · subst hf
            have HB := Lib.hid (hB true (by simp [hL]))
            clear hB
            go_enter Try.func44, Try.ntmps44
            go_upto_region 1 with fail
            go_quiet (fail)
            go_upto_region 9 with fail
            go_quiet (fail)
            go_wp2_with fail
            go_ret
            exact ⟨ret_bool HB.out.symm, drewBelow HBX.out _⟩
          · have hf' : (fn == 0) = false := by simp [hf]
            have HB := Lib.hid (hB false (by simp [hL, hf]))
            clear hB
            go_enter Try.func44, Try.ntmps44
            go_upto_region 1 with fail
            go_quiet (fail)
            go_upto_region 9 with fail
            go_quiet (fail)
            go_wp2_with fail
            go_ret
            exact ⟨ret_bool HB.out.symm, drewBelow HBX.out _⟩
        · have hp' : ((pn : Int) == 0) = false := by simp; omega
          have hp2 : (pn == 0) = false := by simp; omega
          have HB := Lib.hid (hB false (by simp [hL, hp]))
          clear hB
          go_enter Try.func44, Try.ntmps44
          go_upto_region 1 with fail
          go_quiet (fail)
          go_upto_region 9 with fail
          go_quiet (fail)
          go_wp2_with fail
          go_ret
          exact ⟨ret_bool HB.out.symm, drewBelow HBX.out _⟩
      · have hn' : (n == 0) = false := by simp [hn]
        have HB := Lib.hid (hB false (by simp [hL, hn]))
        clear hB
        go_enter Try.func44, Try.ntmps44
        go_upto_region 1 with fail
        go_quiet (fail)
        go_upto_region 9 with fail
        go_quiet (fail)
        go_wp2_with fail
        go_ret
        exact ⟨ret_bool HB.out.symm, drewBelow HBX.out _⟩
    · have hL' : decide ((kn : Int) < (L : Int)) = false := by simp; omega
      have hL2 : decide (kn < L) = false := by simp; omega
      have HB := Lib.hid (hB false (by simp [hL]))
      clear hB
      go_enter Try.func44, Try.ntmps44
      go_upto_region 1 with fail
      go_quiet (fail)
      go_upto_region 9 with fail
      go_quiet (fail)
      go_wp2_with fail
      go_ret
      exact ⟨ret_bool HB.out.symm, drewBelow HBX.out _⟩
  · have h0' : decide (0 ≤ k) = false := by simpa using h0
    have h0i : k < 0 := by omega
    have HB := Lib.hid (hB false (by simp [h0]))
    clear hB
    go_enter Try.func44, Try.ntmps44
    go_upto_region 1 with fail
    go_quiet (fail)
    go_upto_region 9 with fail
    go_quiet (fail)
    go_wp2_with fail
    go_ret
    exact ⟨ret_bool HB.out.symm, drewBelow HBX.out _⟩
set_option maxHeartbeats 8000000 in
theorem cop4_any (s0 : w.cell? ⟨sb, 0, none⟩ = some (.int .i64 V)) (s1 : w.cell? ⟨sb, 1, none⟩ = some (.int .i64 L)) (s2 : w.cell? ⟨sb, 2, none⟩ = some (.int .i64 buf)) (s3 : w.cell? ⟨sb, 3, none⟩ = some (.slice ma made.length mc)) (hbs : sb < w.heap.size) (hmade : MadeAt w ma made) : Calls Try.prog 44 #[.pointer (some ⟨sb, 0, none⟩), .agg #[.int .i64 4, .int .i64 k, .int .i64 n, .slice pa p.length pc, .int .u8 fn]] w fun e w' => e = .returned (.bool (opS V L made buf ⟨4, k, n, p, fn⟩)) ∧ Below w.heap.size w w' := by
  have hbx : Below w.heap.size w (w.alloc (.cells #[.int .i64 4, .int .i64 k, .int .i64 n, .slice pa p.length pc, .int .u8 fn] 48)) := (Below.refl _ _).alloc (Nat.le_refl _) _
  obtain ⟨pn, hpn⟩ : ∃ pn, p.length = pn := ⟨_, rfl⟩
  have hB : ∀ b, (madeB made k && !(k == buf) && n == 0 && decide (pn = 0) && fn == 0) = b → opS V L made buf ⟨4, k, n, p, fn⟩ = b := fun b h => by rw [← h, ← hpn]; simp only [opS, opB]; cases madeB made k <;> simp <;> (try (cases hkb : k == buf <;> simp))
  rw [hpn] at hbx
  rw [hpn]; clear hpn
  have HBX := Lib.hid hbx; clear hbx
  by_cases h0 : 0 ≤ k
  · obtain ⟨kn, rfl⟩ : ∃ kn : Nat, k = kn := ⟨k.toNat, by omega⟩
    by_cases hM : kn < made.length
    · have hM' : (kn : Int) < (made.length : Int) := by omega
      obtain ⟨mb, off, rfl, xm⟩ := hmade kn hM
      have hbm := World.block_lt_of_cell? _ _ xm
      obtain ⟨mk, hmk⟩ : ∃ mk, made[kn] = mk := ⟨_, rfl⟩
      rw [hmk] at xm
      cases hm : mk with
      | true =>
        subst hm
        by_cases hb : ¬ (kn : Int) = buf
        · have hb' : ((kn : Int) == buf) = false := by simp [hb]
          have hb2 : ((kn : Int) != buf) = true := by simp [hb]
          by_cases hn : n = 0
          · subst hn
            by_cases hp : pn = 0
            · subst hp
              by_cases hf : fn = 0
              · subst hf
                have HB := Lib.hid (hB true (by simp [madeB_nat hM, hmk, hb]))
                clear hB hmk
                go_enter Try.func44, Try.ntmps44
                go_upto_region 1 with fail
                go_quiet (fail)
                go_upto_region 11 with fail
                go_quiet (fail)
                go_wp2_with fail
                go_ret
                exact ⟨ret_bool HB.out.symm, drewBelow HBX.out _⟩
              · have hf' : (fn == 0) = false := by simp [hf]
                have HB := Lib.hid (hB false (by simp [madeB_nat hM, hmk, hb, hf]))
                clear hB hmk
                go_enter Try.func44, Try.ntmps44
                go_upto_region 1 with fail
                go_quiet (fail)
                go_upto_region 11 with fail
                go_quiet (fail)
                go_wp2_with fail
                go_ret
                exact ⟨ret_bool HB.out.symm, drewBelow HBX.out _⟩
            · have hp' : ((pn : Int) == 0) = false := by simp; omega
              have hp2 : (pn == 0) = false := by simp; omega
              have HB := Lib.hid (hB false (by simp [madeB_nat hM, hmk, hb, hp]))
              clear hB hmk
              go_enter Try.func44, Try.ntmps44
              go_upto_region 1 with fail
              go_quiet (fail)
              go_upto_region 11 with fail
              go_quiet (fail)
              go_wp2_with fail
              go_ret
              exact ⟨ret_bool HB.out.symm, drewBelow HBX.out _⟩
          · have hn' : (n == 0) = false := by simp [hn]
            have HB := Lib.hid (hB false (by simp [madeB_nat hM, hmk, hb, hn]))
            clear hB hmk
            go_enter Try.func44, Try.ntmps44
            go_upto_region 1 with fail
            go_quiet (fail)
            go_upto_region 11 with fail
            go_quiet (fail)
            go_wp2_with fail
            go_ret
            exact ⟨ret_bool HB.out.symm, drewBelow HBX.out _⟩
        · have hb := Classical.not_not.1 hb
          subst hb
          have HB := Lib.hid (hB false (by simp [madeB_nat hM, hmk]))
          clear hB hmk
          go_enter Try.func44, Try.ntmps44
          go_upto_region 1 with fail
          go_quiet (fail)
          go_upto_region 11 with fail
          go_quiet (fail)
          go_wp2_with fail
          go_ret
          exact ⟨ret_bool HB.out.symm, drewBelow HBX.out _⟩
      | false =>
        subst hm
        have HB := Lib.hid (hB false (by simp [madeB_nat hM, hmk]))
        clear hB hmk
        go_enter Try.func44, Try.ntmps44
        go_upto_region 1 with fail
        go_quiet (fail)
        go_upto_region 11 with fail
        go_quiet (fail)
        go_wp2_with fail
        go_ret
        exact ⟨ret_bool HB.out.symm, drewBelow HBX.out _⟩
    · have hM' : decide ((kn : Int) < (made.length : Int)) = false := by simp; omega
      have hM2 : decide (kn < made.length) = false := by simp; omega
      have HB := Lib.hid (hB false (by simp [madeB_long hM]))
      clear hB
      go_enter Try.func44, Try.ntmps44
      go_upto_region 1 with fail
      go_quiet (fail)
      go_upto_region 11 with fail
      go_quiet (fail)
      go_wp2_with fail
      go_ret
      exact ⟨ret_bool HB.out.symm, drewBelow HBX.out _⟩
  · have h0' : decide (0 ≤ k) = false := by simpa using h0
    have h0i : k < 0 := by omega
    have HB := Lib.hid (hB false (by simp [h0, madeB_neg h0]))
    clear hB
    go_enter Try.func44, Try.ntmps44
    go_upto_region 1 with fail
    go_quiet (fail)
    go_upto_region 11 with fail
    go_quiet (fail)
    go_wp2_with fail
    go_ret
    exact ⟨ret_bool HB.out.symm, drewBelow HBX.out _⟩
set_option maxHeartbeats 8000000 in
theorem cop5_any (s0 : w.cell? ⟨sb, 0, none⟩ = some (.int .i64 V)) (s1 : w.cell? ⟨sb, 1, none⟩ = some (.int .i64 L)) (s2 : w.cell? ⟨sb, 2, none⟩ = some (.int .i64 buf)) (s3 : w.cell? ⟨sb, 3, none⟩ = some (.slice ma made.length mc)) (hbs : sb < w.heap.size) : Calls Try.prog 44 #[.pointer (some ⟨sb, 0, none⟩), .agg #[.int .i64 5, .int .i64 k, .int .i64 n, .slice pa p.length pc, .int .u8 fn]] w fun e w' => e = .returned (.bool (opS V L made buf ⟨5, k, n, p, fn⟩)) ∧ Below w.heap.size w w' := by
  have hbx : Below w.heap.size w (w.alloc (.cells #[.int .i64 5, .int .i64 k, .int .i64 n, .slice pa p.length pc, .int .u8 fn] 48)) := (Below.refl _ _).alloc (Nat.le_refl _) _
  have htk := fun W => takes_any W fn false
  obtain ⟨pn, hpn⟩ : ∃ pn, p.length = pn := ⟨_, rfl⟩
  have hB : ∀ b, (takes fn false && n == 0 && k == 0 && decide (pn = 0)) = b → opS V L made buf ⟨5, k, n, p, fn⟩ = b := fun b h => by rw [← h, ← hpn]; simp [opS, opB]; cases takes fn false <;> simp <;> (try (cases (k == 0) <;> cases (n == 0) <;> rfl))
  rw [hpn] at hbx
  rw [hpn]; clear hpn
  have HBX := Lib.hid hbx; clear hbx
  cases ht : takes fn false with
  | true =>
    rw [ht] at htk
    have HT := Lib.hid htk
    clear htk
    by_cases hn : n = 0
    · subst hn
      by_cases hk : k = 0
      · subst hk
        by_cases hp : pn = 0
        · subst hp
          have HB := Lib.hid (hB true (by simp [ht]))
          clear hB ht s0 s1 s2 s3 hbs
          go_enter Try.func44, Try.ntmps44
          go_upto_region 1 with fail
          go_quiet (fail)
          go_wp2_with (go_at_call 40; refine (HT.out _).mono ?_; rintro e w1 ⟨rfl, rfl⟩)
          go_ret
          exact ⟨ret_bool HB.out.symm, drewBelow HBX.out _⟩
        · have hp' : ((pn : Int) == 0) = false := by simp; omega
          have hp2 : (pn == 0) = false := by simp; omega
          have HB := Lib.hid (hB false (by simp [ht, hp]))
          clear hB ht s0 s1 s2 s3 hbs
          go_enter Try.func44, Try.ntmps44
          go_upto_region 1 with fail
          go_quiet (fail)
          go_wp2_with (go_at_call 40; refine (HT.out _).mono ?_; rintro e w1 ⟨rfl, rfl⟩)
          go_ret
          exact ⟨ret_bool HB.out.symm, drewBelow HBX.out _⟩
      · have hk' : (k == 0) = false := by simp [hk]
        have HB := Lib.hid (hB false (by simp [ht, hk]))
        clear hB ht s0 s1 s2 s3 hbs
        go_enter Try.func44, Try.ntmps44
        go_upto_region 1 with fail
        go_quiet (fail)
        go_wp2_with (go_at_call 40; refine (HT.out _).mono ?_; rintro e w1 ⟨rfl, rfl⟩)
        go_ret
        exact ⟨ret_bool HB.out.symm, drewBelow HBX.out _⟩
    · have hn' : (n == 0) = false := by simp [hn]
      have HB := Lib.hid (hB false (by simp [ht, hn]))
      clear hB ht s0 s1 s2 s3 hbs
      go_enter Try.func44, Try.ntmps44
      go_upto_region 1 with fail
      go_quiet (fail)
      go_wp2_with (go_at_call 40; refine (HT.out _).mono ?_; rintro e w1 ⟨rfl, rfl⟩)
      go_ret
      exact ⟨ret_bool HB.out.symm, drewBelow HBX.out _⟩
  | false =>
    rw [ht] at htk
    have HT := Lib.hid htk
    clear htk
    have HB := Lib.hid (hB false (by simp [ht]))
    clear hB ht s0 s1 s2 s3 hbs
    go_enter Try.func44, Try.ntmps44
    go_upto_region 1 with fail
    go_quiet (fail)
    go_wp2_with (go_at_call 40; refine (HT.out _).mono ?_; rintro e w1 ⟨rfl, rfl⟩)
    go_ret
    exact ⟨ret_bool HB.out.symm, drewBelow HBX.out _⟩
set_option maxHeartbeats 8000000 in
theorem cop6_any (s0 : w.cell? ⟨sb, 0, none⟩ = some (.int .i64 V)) (s1 : w.cell? ⟨sb, 1, none⟩ = some (.int .i64 L)) (s2 : w.cell? ⟨sb, 2, none⟩ = some (.int .i64 buf)) (s3 : w.cell? ⟨sb, 3, none⟩ = some (.slice ma made.length mc)) (hbs : sb < w.heap.size) : Calls Try.prog 44 #[.pointer (some ⟨sb, 0, none⟩), .agg #[.int .i64 6, .int .i64 k, .int .i64 n, .slice pa p.length pc, .int .u8 fn]] w fun e w' => e = .returned (.bool (opS V L made buf ⟨6, k, n, p, fn⟩)) ∧ Below w.heap.size w w' := by
  have hbx : Below w.heap.size w (w.alloc (.cells #[.int .i64 6, .int .i64 k, .int .i64 n, .slice pa p.length pc, .int .u8 fn] 48)) := (Below.refl _ _).alloc (Nat.le_refl _) _
  have htk := fun W => takes_any W fn true
  obtain ⟨pn, hpn⟩ : ∃ pn, p.length = pn := ⟨_, rfl⟩
  have hB : ∀ b, (takes fn true && n == 0 && k == 0 && decide (pn = 0)) = b → opS V L made buf ⟨6, k, n, p, fn⟩ = b := fun b h => by rw [← h, ← hpn]; simp [opS, opB]; cases takes fn true <;> simp <;> (try (cases (k == 0) <;> cases (n == 0) <;> rfl))
  rw [hpn] at hbx
  rw [hpn]; clear hpn
  have HBX := Lib.hid hbx; clear hbx
  cases ht : takes fn true with
  | true =>
    rw [ht] at htk
    have HT := Lib.hid htk
    clear htk
    by_cases hn : n = 0
    · subst hn
      by_cases hk : k = 0
      · subst hk
        by_cases hp : pn = 0
        · subst hp
          have HB := Lib.hid (hB true (by simp [ht]))
          clear hB ht s0 s1 s2 s3 hbs
          go_enter Try.func44, Try.ntmps44
          go_upto_region 1 with fail
          go_quiet (fail)
          go_wp2_with (go_at_call 40; refine (HT.out _).mono ?_; rintro e w1 ⟨rfl, rfl⟩)
          go_ret
          exact ⟨ret_bool HB.out.symm, drewBelow HBX.out _⟩
        · have hp' : ((pn : Int) == 0) = false := by simp; omega
          have hp2 : (pn == 0) = false := by simp; omega
          have HB := Lib.hid (hB false (by simp [ht, hp]))
          clear hB ht s0 s1 s2 s3 hbs
          go_enter Try.func44, Try.ntmps44
          go_upto_region 1 with fail
          go_quiet (fail)
          go_wp2_with (go_at_call 40; refine (HT.out _).mono ?_; rintro e w1 ⟨rfl, rfl⟩)
          go_ret
          exact ⟨ret_bool HB.out.symm, drewBelow HBX.out _⟩
      · have hk' : (k == 0) = false := by simp [hk]
        have HB := Lib.hid (hB false (by simp [ht, hk]))
        clear hB ht s0 s1 s2 s3 hbs
        go_enter Try.func44, Try.ntmps44
        go_upto_region 1 with fail
        go_quiet (fail)
        go_wp2_with (go_at_call 40; refine (HT.out _).mono ?_; rintro e w1 ⟨rfl, rfl⟩)
        go_ret
        exact ⟨ret_bool HB.out.symm, drewBelow HBX.out _⟩
    · have hn' : (n == 0) = false := by simp [hn]
      have HB := Lib.hid (hB false (by simp [ht, hn]))
      clear hB ht s0 s1 s2 s3 hbs
      go_enter Try.func44, Try.ntmps44
      go_upto_region 1 with fail
      go_quiet (fail)
      go_wp2_with (go_at_call 40; refine (HT.out _).mono ?_; rintro e w1 ⟨rfl, rfl⟩)
      go_ret
      exact ⟨ret_bool HB.out.symm, drewBelow HBX.out _⟩
  | false =>
    rw [ht] at htk
    have HT := Lib.hid htk
    clear htk
    have HB := Lib.hid (hB false (by simp [ht]))
    clear hB ht s0 s1 s2 s3 hbs
    go_enter Try.func44, Try.ntmps44
    go_upto_region 1 with fail
    go_quiet (fail)
    go_wp2_with (go_at_call 40; refine (HT.out _).mono ?_; rintro e w1 ⟨rfl, rfl⟩)
    go_ret
    exact ⟨ret_bool HB.out.symm, drewBelow HBX.out _⟩
end
end Go.Proofs.Ytabodlhlanolcaa

namespace Go.Proofs.Ytabodlhlanolcaa
set_option maxRecDepth 100000
open Go.RowKit
set_option linter.unusedVariables false
set_option linter.unusedSimpArgs false
attribute [local go_sem ↓] Go.wp_at_zero Go.wp_at_succ

structure ScopeAt (w : World) (sb V L : Nat) (buf : Int) (ma : Option Addr) (mc : Nat) (made : List Bool) : Prop where
  s0 : w.cell? ⟨sb, 0, none⟩ = some (.int .i64 V)
  s1 : w.cell? ⟨sb, 1, none⟩ = some (.int .i64 L)
  s2 : w.cell? ⟨sb, 2, none⟩ = some (.int .i64 buf)
  s3 : w.cell? ⟨sb, 3, none⟩ = some (.slice ma made.length mc)
  hbs : sb < w.heap.size
  hmade : MadeAt w ma made
theorem ScopeAt.below {w w' : World} {sb V L : Nat} {buf : Int} {ma : Option Addr} {mc : Nat} {made : List Bool} (h : ScopeAt w sb V L buf ma mc made) (hb : Below w.heap.size w w') : ScopeAt w' sb V L buf ma mc made :=
  ⟨keepCell hb h.s0, keepCell hb h.s1, keepCell hb h.s2, keepCell hb h.s3, Nat.lt_of_lt_of_le h.hbs hb.size, h.hmade.below hb (Nat.le_refl _)⟩
set_option maxHeartbeats 4000000 in
theorem cop_any (w : World) (o : Cop) (pa : Option Addr) (pc V L : Nat) (buf : Int) (ma : Option Addr) (mc : Nat) (made : List Bool) (sb : Nat) (hs : ScopeAt w sb V L buf ma mc made) (hV : V ≤ 6) (hpe : monoRep.Els w pa o.p) (hpl : o.p.length ≤ 9223372036854775807) :
    Calls Try.prog 44 #[.pointer (some ⟨sb, 0, none⟩), .agg #[.int .i64 o.how, .int .i64 o.k, .int .i64 o.n, .slice pa o.p.length pc, .int .u8 o.fn]] w fun e w' => e = .returned (.bool (opS V L made buf o)) ∧ Below w.heap.size w w' := by
  obtain ⟨how, k, n, p, fn⟩ := o
  dsimp only at hpe hpl ⊢
  obtain ⟨s0, s1, s2, s3, hbs, hmade⟩ := hs
  by_cases h0 : how = 1 ∨ how = 2 ∨ how = 3 ∨ how = 4 ∨ how = 5 ∨ how = 6
  · rcases h0 with rfl | rfl | rfl | rfl | rfl | rfl
    · exact cop1_any w k n fn p pa pc V L buf ma mc made sb s0 s1 s2 s3 hbs
    · exact cop2_any w k n fn p pa pc V L buf ma mc made sb s0 s1 s2 s3 hbs hV hpe hpl
    · exact cop3_any w k n fn p pa pc V L buf ma mc made sb s0 s1 s2 s3 hbs
    · exact cop4_any w k n fn p pa pc V L buf ma mc made sb s0 s1 s2 s3 hbs hmade
    · exact cop5_any w k n fn p pa pc V L buf ma mc made sb s0 s1 s2 s3 hbs
    · exact cop6_any w k n fn p pa pc V L buf ma mc made sb s0 s1 s2 s3 hbs
  have HV := Lib.hid (show opS V L made buf ⟨how, k, n, p, fn⟩ = false from by unfold opS opB; dsimp only; rw [if_neg (by omega), if_neg (by omega), if_neg (by omega), if_neg (by omega), if_neg (by omega), if_neg (by omega), Bool.false_and])
  have hbx : Below w.heap.size w (w.alloc (.cells #[.int .i64 how, .int .i64 k, .int .i64 n, .slice pa p.length pc, .int .u8 fn] 48)) := (Below.refl _ _).alloc (Nat.le_refl _) _
  have HBX := Lib.hid hbx
  have g1 : (how == 1) = false := by simp; omega
  have g2 : (how == 2) = false := by simp; omega
  have g3 : (how == 3) = false := by simp; omega
  have g4 : (how == 4) = false := by simp; omega
  have g5 : (how == 5) = false := by simp; omega
  have g6 : (how == 6) = false := by simp; omega
  clear h0 hpe hmade hpl hbx s0 s1 s2 s3
  go_enter Try.func44, Try.ntmps44
  go_upto_region 1 with fail
  go_quiet (fail)
  go_wp2_with fail
  go_ret
  exact ⟨ret_bool HV.out.symm, drewBelow HBX.out _⟩
set_option maxHeartbeats 4000000 in
theorem copnot_any (w : World) (o : Cop) (pa : Option Addr) (pc V L : Nat) (buf : Int) (ma : Option Addr) (mc : Nat) (made : List Bool) (sb : Nat) (q : Addr) (hq : w.cell? q = some (.pointer (some ⟨sb, 0, none⟩))) (hs : ScopeAt w sb V L buf ma mc made) (hV : V ≤ 6) (hpe : monoRep.Els w pa o.p) (hpl : o.p.length ≤ 9223372036854775807) :
    Calls Try.prog 43 #[.agg #[.int .i64 o.how, .int .i64 o.k, .int .i64 o.n, .slice pa o.p.length pc, .int .u8 o.fn], .pointer (some q)] w fun e w' => e = .returned (.bool (!opS V L made buf o)) ∧ Below w.heap.size w w' := by
  obtain ⟨how, k, n, p, fn⟩ := o
  dsimp only at hpe hpl ⊢
  have hbx : Below w.heap.size w (w.alloc (.cells #[.int .i64 how, .int .i64 k, .int .i64 n, .slice pa p.length pc, .int .u8 fn] 48)) := (Below.refl _ _).alloc (Nat.le_refl _) _
  have hc := cop_any (w.alloc (.cells #[.int .i64 how, .int .i64 k, .int .i64 n, .slice pa p.length pc, .int .u8 fn] 48)) ⟨how, k, n, p, fn⟩ pa pc V L buf ma mc made sb (hs.below hbx) hV (hpe.below monoRep hbx (Nat.le_refl _)) hpl
  dsimp only at hc
  have hqb := World.block_lt_of_cell? _ _ hq
  obtain ⟨b, hb⟩ : ∃ b, opS V L made buf ⟨how, k, n, p, fn⟩ = b := ⟨_, rfl⟩
  rw [hb] at hc ⊢
  have HC := Lib.hid hc; have HBX := Lib.hid hbx
  clear hc hbx hs hpe hb
  go_enter Try.func43, Try.ntmps43
  go_wp2_with (go_at_call 44; refine HC.out.mono ?_; rintro e w1 ⟨rfl, hb1⟩)
  all_goals (go_ret; exact ⟨rfl, bNext hb1 HBX.out⟩)
end Go.Proofs.Ytabodlhlanolcaa

namespace Go.Proofs.Ytabodlhlanolcaa
set_option maxRecDepth 100000
open Go.RowKit
set_option linter.unusedVariables false
set_option linter.unusedSimpArgs false
attribute [local go_sem ↓] Go.wp_at_zero Go.wp_at_succ

/-- what a step's own form asks -/
def stepQ (V : Nat) (made : List Bool) (s : Stp) : Bool :=
  bothB V s.pos && growB V s.loops && (decide (s.how = 1) || decide (s.loops.length ≠ 0)) && (if s.how = 1 then s.fn == 0 else takes s.fn true) && decide (1 ≤ s.how) && decide (s.how ≤ 3)
    && decide (s.ops.length ≤ 256) && decide (0 ≤ depthI s.ops) && s.ops.all (opS V s.loops.length made s.buf)
/-- what its buffer asks -/
def bufQ (bufs : List Buf) (k : Int) : Bool := decide (0 ≤ k) && decide (k < bufs.length) && (match bufs[k.toNat]? with | some b => decide (b.input < 0) | none => false)
def stepS (V : Nat) (bufs : List Buf) (made : List Bool) (s : Stp) : Bool := bufQ bufs s.buf && stepQ V made s
theorem bufQ_neg {bufs : List Buf} {k : Int} (h : k < 0) : bufQ bufs k = false := by unfold bufQ; rw [decide_eq_false (by omega)]; rfl
theorem bufQ_long {bufs : List Buf} {k : Int} (h : ¬ k < bufs.length) : bufQ bufs k = false := by unfold bufQ; rw [decide_eq_false h, Bool.and_false]; rfl
theorem bufQ_at {bufs : List Buf} {k : Nat} (h : k < bufs.length) : bufQ bufs k = decide (bufs[k].input < 0) := by
  unfold bufQ
  rw [decide_eq_true (by omega), decide_eq_true (by omega), Int.toNat_natCast, List.getElem?_eq_getElem h]
  rfl
end Go.Proofs.Ytabodlhlanolcaa

namespace Go.Proofs.Ytabodlhlanolcaa
set_option maxRecDepth 100000
open Go.RowKit
set_option linter.unusedVariables false
set_option linter.unusedSimpArgs false
attribute [local go_sem ↓] Go.wp_at_zero Go.wp_at_succ

def ScB (w : World) (sb V : Nat) (L buf : Int) (v : Value) : Prop := w.heap[sb]? = some (.cells #[.int .i64 V, .int .i64 L, .int .i64 buf, v] 57 (0, 0))
theorem ScB.lt {w : World} {sb V : Nat} {L buf : Int} {v : Value} (h : ScB w sb V L buf v) : sb < w.heap.size := (Array.getElem?_eq_some_iff.1 h).1
theorem ScB.cell {w : World} {sb V : Nat} {L buf : Int} {v : Value} (h : ScB w sb V L buf v) (j : Nat) : w.cell? ⟨sb, j, none⟩ = [.int .i64 V, .int .i64 L, .int .i64 buf, v][j]? := blockCells (cs := [.int .i64 V, .int .i64 L, .int .i64 buf, v]) h j
theorem ScB.frozen {w : World} {sb V : Nat} {L buf : Int} {v : Value} (h : ScB w sb V L buf v) (j : Nat) : w.frozen? ⟨sb, j, none⟩ = false := frozen_of_row w sb j _ _ h
theorem ScB.set1 {w : World} {sb V : Nat} {L buf : Int} {v : Value} (h : ScB w sb V L buf v) (x : Int) : ScB (w.setCell ⟨sb, 1, none⟩ (.int .i64 x)) sb V x buf v := by
  unfold ScB
  rw [heap_setCell_same w sb 1 _ _ _ h]
  rfl
theorem ScB.set2 {w : World} {sb V : Nat} {L buf : Int} {v : Value} (h : ScB w sb V L buf v) (x : Int) : ScB (w.setCell ⟨sb, 2, none⟩ (.int .i64 x)) sb V L x v := by
  unfold ScB
  rw [heap_setCell_same w sb 2 _ _ _ h]
  rfl
theorem ScB.below {w w' : World} {sb V : Nat} {L buf : Int} {v : Value} (h : ScB w sb V L buf v) (hb : Below w.heap.size w w') : ScB w' sb V L buf v := keepBlock h hb
theorem ScB.at {w : World} {sb V L : Nat} {buf : Int} {ma : Option Addr} {mc : Nat} {made : List Bool} (h : ScB w sb V L buf (.slice ma made.length mc)) (hm : MadeAt w ma made) : ScopeAt w sb V L buf ma mc made := ⟨h.cell 0, h.cell 1, h.cell 2, h.cell 3, h.lt, hm⟩
theorem MadeAt.kept {w w' : World} {ma : Option Addr} {made : List Bool} {S : Nat → Prop} (h : MadeAt w ma made) (hk : KB S w w') (hne : ∀ b off, ma = some ⟨b, off, none⟩ → ¬ S b) : MadeAt w' ma made := fun k hk' => by
  obtain ⟨b, off, e, hc⟩ := h k hk'
  exact ⟨b, off, e, (hk.cell (World.block_lt_of_cell? _ _ hc) (hne b off e)).trans hc⟩
structure CIn (w W : World) (x sb : Nat) (how buf : Int) (v0 v1 : Value) (fn : Int) (v2 : Value) : Prop where
  below : Below w.heap.size w W
  b0 : W.cell? ⟨x, 0, none⟩ = some (.pointer (some ⟨sb, 0, none⟩))
  y0 : W.cell? ⟨x + 1, 0, none⟩ = some (.int .i64 how)
  y1 : W.cell? ⟨x + 1, 1, none⟩ = some (.int .i64 buf)
  y2 : W.cell? ⟨x + 1, 2, none⟩ = some v0
  y3 : W.cell? ⟨x + 1, 3, none⟩ = some v1
  y4 : W.cell? ⟨x + 1, 4, none⟩ = some (.int .u8 fn)
  y5 : W.cell? ⟨x + 1, 5, none⟩ = some v2
  hx : x + 1 < W.heap.size
theorem CIn.next {w W W' : World} {x sb : Nat} {v0 v1 v2 : Value} {how buf fn : Int} (h : CIn w W x sb how buf v0 v1 fn v2) (hb : Below W.heap.size W W') : CIn w W' x sb how buf v0 v1 fn v2 :=
  ⟨bNext hb h.below, keepCell hb h.b0, keepCell hb h.y0, keepCell hb h.y1, keepCell hb h.y2, keepCell hb h.y3, keepCell hb h.y4, keepCell hb h.y5, Nat.lt_of_lt_of_le h.hx hb.size⟩
theorem cIn_new (w : World) (sb : Nat) (how buf : Int) (v0 v1 : Value) (fn : Int) (v2 : Value) :
    CIn w ((w.alloc (.cells #[.pointer (some ⟨sb, 0, none⟩)] 54)).alloc (.cells #[.int .i64 how, .int .i64 buf, v0, v1, .int .u8 fn, v2] 60)) w.heap.size sb how buf v0 v1 fn v2 := by
  have n0 := oldBlock (World.alloc_heap_new w (.cells #[.pointer (some ⟨sb, 0, none⟩)] 54)) (.cells #[.int .i64 how, .int .i64 buf, v0, v1, .int .u8 fn, v2] 60)
  have n1 := World.alloc_heap_new (w.alloc (.cells #[.pointer (some ⟨sb, 0, none⟩)] 54)) (.cells #[.int .i64 how, .int .i64 buf, v0, v1, .int .u8 fn, v2] 60)
  rw [show (w.alloc (.cells #[.pointer (some ⟨sb, 0, none⟩)] 54)).heap.size = w.heap.size + 1 from by simp] at n1
  have g0 := blockCells (cs := [.pointer (some ⟨sb, 0, none⟩)]) n0
  have g1 := blockCells (cs := [.int .i64 how, .int .i64 buf, v0, v1, .int .u8 fn, v2]) n1
  exact ⟨((Below.refl _ _).alloc (Nat.le_refl _) _).alloc (by simp) _, g0 0, g1 0, g1 1, g1 2, g1 3, g1 4, g1 5, by simp⟩
/-- what a call of (*scope).step leaves -/
def CEnd (w w' : World) (sb V : Nat) (v : Value) : Prop := (∃ L buf, ScB w' sb V L buf v) ∧ KB (fun b => b = sb) w w'
theorem cEnd_below {w w' : World} {sb V : Nat} {L buf : Int} {v : Value} (h : ScB w sb V L buf v) (hb : Below w.heap.size w w') : CEnd w w' sb V v := ⟨⟨L, buf, h.below hb⟩, KB.of_below hb (fun g h1 h2 => by omega)⟩

/-- the world behind the two stores -/
structure CGo (w0 w W : World) (x sb V : Nat) (L buf : Int) (v v2 : Value) : Prop where
  base : Below w0.heap.size w0 W
  kb : KB (fun b => b = sb) w W
  sc : ScB W sb V L buf v
  b0 : W.cell? ⟨x, 0, none⟩ = some (.pointer (some ⟨sb, 0, none⟩))
  y5 : W.cell? ⟨x + 1, 5, none⟩ = some v2
theorem cgo_new {w0 w W : World} {x sb V : Nat} {L0 buf0 how buf fn L : Int} {v v0 v1 v2 : Value} (h0 : Below w0.heap.size w0 w) (hsb : w0.heap.size ≤ sb) (hin : CIn w W x sb how buf v0 v1 fn v2) (hsc : ScB W sb V L0 buf0 v) (n1 : ¬ x = sb) (n2 : ¬ x + 1 = sb) :
    CGo w0 w ((W.setCell ⟨sb, 1, none⟩ (.int .i64 L)).setCell ⟨sb, 2, none⟩ (.int .i64 buf)).drew x sb V L buf v v2 := by
  have hk : KB (fun b => b = sb) W ((W.setCell ⟨sb, 1, none⟩ (.int .i64 L)).setCell ⟨sb, 2, none⟩ (.int .i64 buf)).drew := (((KB.refl (fun b => b = sb) W).setCell (p := ⟨sb, 1, none⟩) (fun _ => rfl) _).setCell (p := ⟨sb, 2, none⟩) (fun _ => rfl) _).drew
  have hkw : KB (fun b => b = sb) w W := KB.of_below hin.below (fun g h1 h2 => by omega)
  have hkk := hkw.trans hk
  have hx := hin.hx
  exact ⟨h0.trans (hkk.below (B := w0.heap.size) h0.size (fun g e => by omega)), hkk, (hsc.set1 L).set2 buf, (hk.cell (p := ⟨x, 0, none⟩) (show x < _ by omega) n1).trans hin.b0, (hk.cell (p := ⟨x + 1, 5, none⟩) (show x + 1 < _ by omega) n2).trans hin.y5⟩
theorem all_not_any (p : Cop → Bool) : ∀ l : List Cop, l.all p = !l.any (fun o => !p o)
  | [] => rfl
  | x :: l => by simp [all_not_any p l]


set_option maxHeartbeats 16000000 in
theorem cstep_any (w0 w : World) (h0 : Below w0.heap.size w0 w) (sb : Nat) (hsb : w0.heap.size ≤ sb) (V : Nat) (hV : V ≤ 6) (L0 buf0 : Int)
    (how buf fn : Int) (pos : List Mono) (p0 : Option Addr) (c0 : Nat) (hps : monoRep.Els w0 p0 pos) (hpl : pos.length ≤ 9223372036854775807) (loops : List (List Mono)) (p1 : Option Addr) (c1 : Nat) (hle : polyRep.Els w0 p1 loops) (hll : loops.length ≤ 9223372036854775807)
    (ops : List Cop) (p2 : Option Addr) (c2 : Nat) (hoe : copRep.Els w0 p2 ops) (hol : ops.length ≤ maxLen) (ma : Option Addr) (mc : Nat) (made : List Bool) (hmade : MadeAt w ma made) (hne : ∀ b off, ma = some ⟨b, off, none⟩ → ¬ b = sb)
    (hsc : ScB w sb V L0 buf0 (.slice ma made.length mc)) :
    Calls Try.prog 23 #[.pointer (some ⟨sb, 0, none⟩), .agg #[.int .i64 how, .int .i64 buf, .slice p0 pos.length c0, .slice p1 loops.length c1, .int .u8 fn, .slice p2 ops.length c2]] w fun e w' =>
      e = .returned (.bool (stepQ V made ⟨how, buf, pos, loops, fn, ops⟩)) ∧ CEnd w w' sb V (.slice ma made.length mc) := by
  have hol' : ops.length ≤ 9223372036854775807 := by unfold maxLen at hol; omega
  have hnew := cIn_new w sb how buf (.slice p0 pos.length c0) (.slice p1 loops.length c1) fn (.slice p2 ops.length c2)
  have HB0 := Lib.hid h0; have HPS := Lib.hid hps; have HLE := Lib.hid hle; have HOE := Lib.hid hoe; have HMD := Lib.hid hmade; have HNE := Lib.hid hne; have HSC := Lib.hid hsc; have HN := Lib.hid hnew; have HOL := Lib.hid hol
  clear h0 hps hle hoe hmade hne hsc hnew hol
  have hS : ∀ b, (stepQ V made ⟨how, buf, pos, loops, fn, ops⟩) = b → stepQ V made ⟨how, buf, pos, loops, fn, ops⟩ = b := fun b h => h
  have HS := Lib.hid hS; clear hS
  go_enter Try.func23, Try.ntmps23
  go_upto_region 1 with fail
  refine gen_worldA (fun W => CIn w W w.heap.size sb how buf (.slice p0 pos.length c0) (.slice p1 loops.length c1) fn (.slice p2 ops.length c2)) HN.out ?_
  clear HN
  intro W hin
  have HIN := Lib.hid hin
  obtain ⟨hbW, b0, y0, y1, y2, y3, y4, y5, hxx⟩ := hin
  have hw0 := bNext hbW HB0.out
  have hsW := HSC.out.below hbW
  have s0 : W.cell? ⟨sb, 0, none⟩ = some (.int .i64 V) := hsW.cell 0
  have hq1 : ∀ p' : BelowW W, _ := fun p' => of_any p'.world p0 c0 pos V hV (HPS.out.below monoRep (bNext p'.below hw0) (Nat.le_refl _)) hpl
  have hq2 : ∀ p' : BelowW W, _ := fun p' => grows_any p'.world p0 c0 pos (HPS.out.below monoRep (bNext p'.below hw0) (Nat.le_refl _)) hpl
  have hq3 : ∀ p' : BelowW W, _ := fun p' => grow_any p'.world p1 c1 loops V hV (HLE.out.below polyRep (bNext p'.below hw0) (Nat.le_refl _)) hll
  have hq4 : ∀ p' : BelowW W, _ := fun p' => depth_any p'.world p2 c2 ops (HOE.out.below copRep (bNext p'.below hw0) (Nat.le_refl _)) hol'
  have HSW := Lib.hid hsW; have HW0 := Lib.hid hw0
  have f0 := cellBW b0; have f2 := cellBW y2; have f3 := cellBW y3; have f5 := cellBW y5; have fs := cellBW s0
  clear hbW hw0 hsW
  cases ho : ownB V pos with
  | false =>
    have HG := Lib.hid (HS.out false (by unfold stepQ bothB; simp [ho]))
    rw [ho] at hq1
    have HQ1 := Lib.hid hq1
    clear hq1 hq2 hq3 hq4 ho HS
    refine wp_region_below (by kernel_rfl) (by kernel_rfl) ?_
    repeat (go_big_quiet_step ((go_at_call 41; refine callsBW (HQ1.out _))))
    refine wpQuiet_nil ?_
    rintro _ ⟨⟨wq, hwq⟩, rfl⟩
    clear f0 f2 f3 f5 fs
    go_wp2_with fail
    go_ret
    exact ⟨ret_bool HG.out.symm, cEnd_below HSC.out (HIN.out.next hwq).below⟩
  | true =>
  rw [ho] at hq1
  have HQ1 := Lib.hid hq1
  clear hq1
  cases hg : growsB pos with
  | false =>
    have HG := Lib.hid (HS.out false (by unfold stepQ bothB; simp [hg]))
    rw [hg] at hq2
    have HQ2 := Lib.hid hq2
    clear hq2 hq3 hq4 ho hg HS
    refine wp_region_below (by kernel_rfl) (by kernel_rfl) ?_
    repeat (go_big_quiet_step (first | (go_at_call 41; refine callsBW (HQ1.out _)) | (go_at_call 42; refine callsBW (HQ2.out _))))
    refine wpQuiet_nil ?_
    rintro _ ⟨⟨wq, hwq⟩, rfl⟩
    clear f0 f2 f3 f5 fs
    go_wp2_with fail
    go_ret
    exact ⟨ret_bool HG.out.symm, cEnd_below HSC.out (HIN.out.next hwq).below⟩
  | true =>
  rw [hg] at hq2
  have HQ2 := Lib.hid hq2
  clear hq2
  have HS2 : Hid (∀ b, (growB V loops && (decide (how = 1) || decide (loops.length ≠ 0)) && (if how = 1 then fn == 0 else takes fn true) && decide (1 ≤ how) && decide (how ≤ 3) && decide (ops.length ≤ 256) && decide (0 ≤ depthI ops) && ops.all (opS V loops.length made buf)) = b → stepQ V made ⟨how, buf, pos, loops, fn, ops⟩ = b) := Lib.hid fun b h => by
    unfold stepQ bothB
    simp only [ho, hg, Bool.true_and]
    exact h
  clear HS ho hg
  cases hl : growB V loops with
  | false =>
    have HG := Lib.hid (HS2.out false (by simp [hl]))
    rw [hl] at hq3
    have HQ3 := Lib.hid hq3
    clear hq3 hq4 hl HS2
    refine wp_region_below (by kernel_rfl) (by kernel_rfl) ?_
    repeat (go_big_quiet_step (first | (go_at_call 41; refine callsBW (HQ1.out _)) | (go_at_call 42; refine callsBW (HQ2.out _)) | (go_at_call 22; refine callsBW (HQ3.out _))))
    refine wpQuiet_nil ?_
    rintro _ ⟨⟨wq, hwq⟩, rfl⟩
    clear f0 f2 f3 f5 fs
    go_wp2_with fail
    go_ret
    exact ⟨ret_bool HG.out.symm, cEnd_below HSC.out (HIN.out.next hwq).below⟩
  | true =>
  rw [hl] at hq3
  have HQ3 := Lib.hid hq3
  clear hq3
  by_cases z1 : 256 < ops.length
  · have z1a : decide ((256 : Int) < (ops.length : Int)) = true := by simp; omega
    have z1b : (256 : Int) < (ops.length : Int) := by omega
    have HG := Lib.hid (HS2.out false (by simp [show ¬ ops.length ≤ 256 from by omega]))
    clear hq4 hl HS2
    refine wp_region_below (by kernel_rfl) (by kernel_rfl) ?_
    repeat (go_big_quiet_step (first | (go_at_call 41; refine callsBW (HQ1.out _)) | (go_at_call 42; refine callsBW (HQ2.out _)) | (go_at_call 22; refine callsBW (HQ3.out _))))
    refine wpQuiet_nil ?_
    rintro _ ⟨⟨wq, hwq⟩, rfl⟩
    clear f0 f2 f3 f5 fs
    go_wp2_with fail
    go_ret
    exact ⟨ret_bool HG.out.symm, cEnd_below HSC.out (HIN.out.next hwq).below⟩
  have z1a : decide ((256 : Int) < (ops.length : Int)) = false := by simp; omega
  have z1b : (ops.length : Int) ≤ 256 := by omega
  obtain ⟨dd, hdd⟩ : ∃ dd, depthI ops = dd := ⟨_, rfl⟩
  rw [hdd] at hq4
  have HQ4 := Lib.hid hq4
  clear hq4
  by_cases z2 : dd < 0
  · have z2a : decide (dd < 0) = true := by simpa using z2
    have HG := Lib.hid (HS2.out false (by rw [hdd]; simp [show ¬ 0 ≤ dd from by omega]))
    clear hl HS2 hdd
    refine wp_region_below (by kernel_rfl) (by kernel_rfl) ?_
    repeat (go_big_quiet_step (first | (go_at_call 41; refine callsBW (HQ1.out _)) | (go_at_call 42; refine callsBW (HQ2.out _)) | (go_at_call 22; refine callsBW (HQ3.out _)) | (go_at_call 14; refine callsBW (HQ4.out _))))
    refine wpQuiet_nil ?_
    rintro _ ⟨⟨wq, hwq⟩, rfl⟩
    clear f0 f2 f3 f5 fs
    go_wp2_with fail
    go_ret
    exact ⟨ret_bool HG.out.symm, cEnd_below HSC.out (HIN.out.next hwq).below⟩
  have z2a : decide (dd < 0) = false := by simpa using z2
  have HS3 : Hid (∀ b, ((decide (how = 1) || decide (loops.length ≠ 0)) && (if how = 1 then fn == 0 else takes fn true) && decide (1 ≤ how) && decide (how ≤ 3) && ops.all (opS V loops.length made buf)) = b → stepQ V made ⟨how, buf, pos, loops, fn, ops⟩ = b) := Lib.hid fun b h => HS2.out b (by
    rw [hl, hdd, decide_eq_true (show ops.length ≤ 256 from by omega), decide_eq_true (show 0 ≤ dd from by omega), Bool.true_and, Bool.and_true, Bool.and_true]; exact h)
  clear HS2 hl hdd
  refine wp_region_below (by kernel_rfl) (by kernel_rfl) ?_
  repeat (go_big_quiet_step (first | (go_at_call 41; refine callsBW (HQ1.out _)) | (go_at_call 42; refine callsBW (HQ2.out _)) | (go_at_call 22; refine callsBW (HQ3.out _)) | (go_at_call 14; refine callsBW (HQ4.out _))))
  refine wpQuiet_nil ?_
  rintro _ ⟨⟨wq, hwq⟩, rfl⟩
  clear f0 f2 f3 f5 fs
  have HIN2 := Lib.hid (HIN.out.next hwq)
  have hsW2 := HSC.out.below HIN2.out.below
  clear b0 y0 y1 y2 y3 y4 y5 s0 hxx HIN hwq HQ1 HQ2 HQ3 HQ4 HSW HW0
  obtain ⟨-, b0, y0, y1, y2, y3, y4, y5, hxx⟩ := HIN2.out
  have hlt := HSC.out.lt
  have n1 : ¬ w.heap.size = sb := by omega
  have n2 : ¬ w.heap.size + 1 = sb := by omega
  have n3 : ¬ sb = w.heap.size := by omega
  have n4 : ¬ sb = w.heap.size + 1 := by omega
  by_cases h1 : how = 1
  · subst h1
    by_cases hf : fn = 0
    · subst hf
      have HS4 : Hid (∀ b, ops.all (opS V loops.length made buf) = b → stepQ V made ⟨1, buf, pos, loops, 0, ops⟩ = b) := Lib.hid fun b h => HS3.out b (by rw [← h]; simp)
      clear HS3
      have t1 := hsW2.cell 1; have t2 := hsW2.cell 2; have u1 := hsW2.frozen 1; have u2 := hsW2.frozen 2
      have HSW2 := Lib.hid hsW2; clear hsW2
      first | go_upto_region 12 with fail | skip
      go_region
      go_upto_region 13 with fail
      refine gen_worldA (fun W2 => CGo w0 w W2 w.heap.size sb V (loops.length : Int) buf (.slice ma made.length mc) (.slice p2 ops.length c2)) (cgo_new HB0.out hsb HIN2.out HSW2.out n1 n2) ?_
      intro W2 hgo
      clear b0 y0 y1 y2 y3 y4 y5 t1 t2 u1 u2 HSW2 HIN2 hxx
      have HGO := Lib.hid hgo
      obtain ⟨hbase, hkb, hsc2, b0, y5⟩ := hgo
      have hmd2 := HMD.out.kept hkb HNE.out
      have hq := containsFuncO W2 p2 c2 ops (.pointer (some ⟨w.heap.size, 0, none⟩)) (fun o => !opS V loops.length made buf o) HOL.out (HOE.out.below copRep hbase (Nat.le_refl _))
        (fun i hi w' pa pc hb hpe hpl => copnot_any w' ops[i] pa pc V loops.length buf ma mc made sb ⟨w.heap.size, 0, none⟩ (keepCell hb b0) ((hsc2.below hb).at (hmd2.below hb (Nat.le_refl _))) hV hpe hpl)
      obtain ⟨bb, hbb⟩ : ∃ bb, ops.any (fun o => !opS V loops.length made buf o) = bb := ⟨_, rfl⟩
      rw [hbb] at hq
      have HQ := Lib.hid hq
      have hg := HS4.out (!bb) (by rw [all_not_any, hbb])
      clear hbase hkb hsc2 hmd2 hq hbb HS4
      cases bb
      all_goals
        have HG := Lib.hid hg
        clear hg
        go_wp2_with (go_at_call 36; refine HQ.out.mono ?_; rintro e w4 ⟨rfl, hb4⟩)
        go_ret
        exact ⟨ret_bool HG.out.symm, ⟨⟨_, _, HGO.out.sc.below hb4⟩, HGO.out.kb.trans (KB.of_below hb4 (fun g h1 h2 => by omega))⟩⟩
    · have hf' : (fn != 0) = true := by simp [hf]
      have HG := Lib.hid (HS3.out false (by simp [hf]))
      clear HS3 hsW2
      go_wp2_with fail
      go_ret
      exact ⟨ret_bool HG.out.symm, cEnd_below HSC.out HIN2.out.below⟩
  have g1 : (how == 1) = false := by simp [h1]
  by_cases h23 : how = 2 ∨ how = 3
  case neg =>
    have g2 : (how == 2) = false := by simp; omega
    have g3 : (how == 3) = false := by simp; omega
    have HG := Lib.hid (HS3.out false (by
      rw [Bool.and_eq_false_iff]; left
      rw [Bool.and_assoc, Bool.and_eq_false_iff]; right
      by_cases hx : 1 ≤ how
      · rw [decide_eq_false (p := how ≤ 3) (by omega), Bool.and_false]
      · rw [decide_eq_false hx, Bool.false_and]))
    clear HS3 hsW2
    go_wp2_with fail
    go_ret
    exact ⟨ret_bool HG.out.symm, cEnd_below HSC.out HIN2.out.below⟩
  by_cases hz : loops.length = 0
  · have hz1 : ((loops.length : Int) == 0) = true := by simp [hz]
    have hz2 : (loops.length == 0) = true := by simp [hz]
    have HG := Lib.hid (HS3.out false (by simp [hz, h1]))
    clear HS3 hsW2
    rcases h23 with rfl | rfl
    all_goals
      go_wp2_with fail
      go_ret
      exact ⟨ret_bool HG.out.symm, cEnd_below HSC.out HIN2.out.below⟩
  have hz1 : ((loops.length : Int) == 0) = false := by rw [beq_eq_false_iff_ne]; omega
  have hz2 : (loops.length == 0) = false := by rw [beq_eq_false_iff_ne]; exact hz
  have htk := fun W => takes_any W fn true
  cases ht : takes fn true with
  | false =>
    rw [ht] at htk
    have HT := Lib.hid htk
    have HG := Lib.hid (HS3.out false (by simp [h1, ht]))
    clear HS3 htk ht hsW2
    rcases h23 with rfl | rfl
    all_goals
      go_wp2_with (go_at_call 40; refine (HT.out _).mono ?_; rintro e w3 ⟨rfl, rfl⟩)
      go_ret
      exact ⟨ret_bool HG.out.symm, cEnd_below HSC.out HIN2.out.below⟩
  | true =>
    rw [ht] at htk
    have HT := Lib.hid htk
    have HS4 : Hid (∀ b, ops.all (opS V loops.length made buf) = b → stepQ V made ⟨how, buf, pos, loops, fn, ops⟩ = b) := Lib.hid fun b h => HS3.out b (by
      rw [decide_eq_true (show 1 ≤ how from by omega), decide_eq_true (show how ≤ 3 from by omega), if_neg h1, ht, decide_eq_false h1, decide_eq_true (p := loops.length ≠ 0) hz]; exact h)
    clear HS3 htk ht
    rcases h23 with rfl | rfl
    all_goals
      have h12 : True := trivial
      have t1 := hsW2.cell 1; have t2 := hsW2.cell 2; have u1 := hsW2.frozen 1; have u2 := hsW2.frozen 2
      go_upto_region 12 with (go_at_call 40; refine (HT.out _).mono ?_; rintro e w3 ⟨rfl, rfl⟩)
      have t1 := hsW2.cell 1; have t2 := hsW2.cell 2; have u1 := hsW2.frozen 1; have u2 := hsW2.frozen 2
      have HSW2 := Lib.hid hsW2; clear hsW2
      first | go_upto_region 12 with fail | skip
      go_region
      go_upto_region 13 with fail
      refine gen_worldA (fun W2 => CGo w0 w W2 w.heap.size sb V (loops.length : Int) buf (.slice ma made.length mc) (.slice p2 ops.length c2)) (cgo_new HB0.out hsb HIN2.out HSW2.out n1 n2) ?_
      intro W2 hgo
      clear b0 y0 y1 y2 y3 y4 y5 t1 t2 u1 u2 HSW2 HIN2 hxx
      have HGO := Lib.hid hgo
      obtain ⟨hbase, hkb, hsc2, b0, y5⟩ := hgo
      have hmd2 := HMD.out.kept hkb HNE.out
      have hq := containsFuncO W2 p2 c2 ops (.pointer (some ⟨w.heap.size, 0, none⟩)) (fun o => !opS V loops.length made buf o) HOL.out (HOE.out.below copRep hbase (Nat.le_refl _))
        (fun i hi w' pa pc hb hpe hpl => copnot_any w' ops[i] pa pc V loops.length buf ma mc made sb ⟨w.heap.size, 0, none⟩ (keepCell hb b0) ((hsc2.below hb).at (hmd2.below hb (Nat.le_refl _))) hV hpe hpl)
      obtain ⟨bb, hbb⟩ : ∃ bb, ops.any (fun o => !opS V loops.length made buf o) = bb := ⟨_, rfl⟩
      rw [hbb] at hq
      have HQ := Lib.hid hq
      have hg := HS4.out (!bb) (by rw [all_not_any, hbb])
      clear hbase hkb hsc2 hmd2 hq hbb HS4
      cases bb
      all_goals
        have HG := Lib.hid hg
        clear hg
        go_wp2_with (go_at_call 36; refine HQ.out.mono ?_; rintro e w4 ⟨rfl, hb4⟩)
        go_ret
        exact ⟨ret_bool HG.out.symm, ⟨⟨_, _, HGO.out.sc.below hb4⟩, HGO.out.kb.trans (KB.of_below hb4 (fun g h1 h2 => by omega))⟩⟩
end Go.Proofs.Ytabodlhlanolcaa
