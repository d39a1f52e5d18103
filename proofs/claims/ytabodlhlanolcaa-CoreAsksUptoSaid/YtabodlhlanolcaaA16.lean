import Derived.Test.YtabodlhlanolcaaA15
import Derived.Test.YtabodlhlanolcaaV2
namespace Go.Proofs.Ytabodlhlanolcaa
set_option maxRecDepth 100000
open Go.RowKit
set_option linter.unusedVariables false
set_option linter.unusedSimpArgs false
attribute [local go_sem ↓] Go.wp_at_zero Go.wp_at_succ

/-! One operation's form. (Printed by gen_op.py.) -/
def MadeAt (w : World) (a : Option Addr) (l : List Bool) : Prop := ∀ k, (hk : k < l.length) → ∃ b off, a = some ⟨b, off, none⟩ ∧ w.cell? ⟨b, off + k, none⟩ = some (.bool l[k])
theorem MadeAt.below {w w' : World} {a : Option Addr} {l : List Bool} {B : Nat} (h : MadeAt w a l) (hb : Below B w w') (hB : w.heap.size ≤ B) : MadeAt w' a l := fun k hk => by
  obtain ⟨b, off, e, hc⟩ := h k hk
  exact ⟨b, off, e, (hb.cell (Nat.lt_of_lt_of_le (World.block_lt_of_cell? _ _ hc) hB)).trans hc⟩
def madeB (made : List Bool) (k : Int) : Bool := decide (0 ≤ k) && decide (k < made.length) && made.getD k.toNat false
def opB (V L : Nat) (made : List Bool) (o : Cop) : Bool :=
  if o.how = 1 then o.k == 0 && decide (o.p.length = 0) && o.fn == 0
  else if o.how = 2 then o.k == 0 && o.n == 0 && o.fn == 0 && ownB V o.p
  else if o.how = 3 then decide (0 ≤ o.k) && decide (o.k < L) && o.n == 0 && decide (o.p.length = 0) && o.fn == 0
  else if o.how = 4 then madeB made o.k && o.n == 0 && decide (o.p.length = 0) && o.fn == 0
  else if o.how = 5 then o.k == 0 && o.n == 0 && decide (o.p.length = 0) && takes o.fn false
  else if o.how = 6 then o.k == 0 && o.n == 0 && decide (o.p.length = 0) && takes o.fn true
  else false
theorem madeB_nat {made : List Bool} {k : Nat} (h : k < made.length) : madeB made k = made[k] := by
  unfold madeB
  rw [decide_eq_true (by omega), decide_eq_true (by omega), Int.toNat_natCast, List.getD_eq_getElem?_getD, List.getElem?_eq_getElem h]
  rfl
theorem madeB_neg {made : List Bool} {k : Int} (h : ¬ 0 ≤ k) : madeB made k = false := by unfold madeB; rw [decide_eq_false h]; rfl
theorem madeB_long {made : List Bool} {k : Nat} (h : ¬ k < made.length) : madeB made k = false := by unfold madeB; rw [decide_eq_false (p := (k : Int) < _) (by omega), Bool.and_false]; rfl
section
variable (w : World) (k n fn : Int) (p : List Mono) (pa : Option Addr) (pc V L : Nat) (ma : Option Addr) (mc : Nat) (made : List Bool)
set_option maxHeartbeats 8000000 in
theorem rop1_any : Calls Try.prog 49 #[.agg #[.int .i64 1, .int .i64 k, .int .i64 n, .slice pa p.length pc, .int .u8 fn], .int .i64 V, .int .i64 L, .slice ma made.length mc] w fun e w' => e = .returned (.bool (opB V L made ⟨1, k, n, p, fn⟩)) ∧ Below w.heap.size w w' := by
  have hbx : Below w.heap.size w (w.alloc (.cells #[.int .i64 1, .int .i64 k, .int .i64 n, .slice pa p.length pc, .int .u8 fn] 48)) := (Below.refl _ _).alloc (Nat.le_refl _) _
  obtain ⟨pn, hpn⟩ : ∃ pn, p.length = pn := ⟨_, rfl⟩
  have hB : ∀ b, (k == 0 && decide (pn = 0) && fn == 0) = b → opB V L made ⟨1, k, n, p, fn⟩ = b := fun b h => by rw [← h, ← hpn]; rfl
  rw [hpn] at hbx
  rw [hpn]; clear hpn
  have HBX := Lib.hid hbx; clear hbx
  by_cases hk : k = 0
  · subst hk
    by_cases hp : pn = 0
    · subst hp
      by_cases hf : fn = 0
      · subst hf
        have HB := Lib.hid (hB true (by simp []))
        clear hB
        go_enter Try.func49, Try.ntmps49
        go_wp2_with fail
        go_ret
        exact ⟨ret_bool HB.out.symm, HBX.out⟩
      · have hf' : (fn == 0) = false := by simp [hf]
        have HB := Lib.hid (hB false (by simp [hf]))
        clear hB
        go_enter Try.func49, Try.ntmps49
        go_wp2_with fail
        go_ret
        exact ⟨ret_bool HB.out.symm, HBX.out⟩
    · have hp' : ((pn : Int) == 0) = false := by simp; omega
      have hp2 : (pn == 0) = false := by simp; omega
      have HB := Lib.hid (hB false (by simp [hp]))
      clear hB
      go_enter Try.func49, Try.ntmps49
      go_wp2_with fail
      go_ret
      exact ⟨ret_bool HB.out.symm, HBX.out⟩
  · have hk' : (k == 0) = false := by simp [hk]
    have HB := Lib.hid (hB false (by simp [hk]))
    clear hB
    go_enter Try.func49, Try.ntmps49
    go_wp2_with fail
    go_ret
    exact ⟨ret_bool HB.out.symm, HBX.out⟩
set_option maxHeartbeats 8000000 in
theorem rop2_any (hV : V ≤ 6) (hpe : monoRep.Els w pa p) (hpl : p.length ≤ 9223372036854775807) : Calls Try.prog 49 #[.agg #[.int .i64 2, .int .i64 k, .int .i64 n, .slice pa p.length pc, .int .u8 fn], .int .i64 V, .int .i64 L, .slice ma made.length mc] w fun e w' => e = .returned (.bool (opB V L made ⟨2, k, n, p, fn⟩)) ∧ Below w.heap.size w w' := by
  have hbx : Below w.heap.size w (w.alloc (.cells #[.int .i64 2, .int .i64 k, .int .i64 n, .slice pa p.length pc, .int .u8 fn] 48)) := (Below.refl _ _).alloc (Nat.le_refl _) _
  have hown := fun W (hb : Below w.heap.size w W) => rown_any W pa pc p V hV (hpe.below monoRep hb (Nat.le_refl _)) hpl
  clear hpe
  obtain ⟨pn, hpn⟩ : ∃ pn, p.length = pn := ⟨_, rfl⟩
  have hB : ∀ b, (k == 0 && n == 0 && fn == 0 && ownB V p) = b → opB V L made ⟨2, k, n, p, fn⟩ = b := fun b h => by rw [← h]; rfl
  rw [hpn] at hbx hown
  rw [hpn]; clear hpn
  have HBX := Lib.hid hbx; clear hbx
  by_cases hk : k = 0
  · subst hk
    by_cases hn : n = 0
    · subst hn
      by_cases hf : fn = 0
      · subst hf
        cases ho : ownB V p with
        | true =>
          rw [ho] at hown
          have HO := Lib.hid hown
          clear hown
          have HB := Lib.hid (hB true (by simp [ho]))
          clear hB
          clear ho
          go_enter Try.func49, Try.ntmps49
          go_wp2_with (go_at_call 46; refine (HO.out _ HBX.out).mono ?_; rintro e w1 ⟨rfl, hb1⟩)
          go_ret
          exact ⟨ret_bool HB.out.symm, bNext hb1 HBX.out⟩
        | false =>
          rw [ho] at hown
          have HO := Lib.hid hown
          clear hown
          have HB := Lib.hid (hB false (by simp [ho]))
          clear hB
          clear ho
          go_enter Try.func49, Try.ntmps49
          go_wp2_with (go_at_call 46; refine (HO.out _ HBX.out).mono ?_; rintro e w1 ⟨rfl, hb1⟩)
          go_ret
          exact ⟨ret_bool HB.out.symm, bNext hb1 HBX.out⟩
      · have hf' : (fn == 0) = false := by simp [hf]
        have HB := Lib.hid (hB false (by simp [hf]))
        clear hB
        clear hown
        go_enter Try.func49, Try.ntmps49
        go_wp2_with fail
        go_ret
        exact ⟨ret_bool HB.out.symm, HBX.out⟩
    · have hn' : (n == 0) = false := by simp [hn]
      have HB := Lib.hid (hB false (by simp [hn]))
      clear hB
      clear hown
      go_enter Try.func49, Try.ntmps49
      go_wp2_with fail
      go_ret
      exact ⟨ret_bool HB.out.symm, HBX.out⟩
  · have hk' : (k == 0) = false := by simp [hk]
    have HB := Lib.hid (hB false (by simp [hk]))
    clear hB
    clear hown
    go_enter Try.func49, Try.ntmps49
    go_wp2_with fail
    go_ret
    exact ⟨ret_bool HB.out.symm, HBX.out⟩
set_option maxHeartbeats 8000000 in
theorem rop3_any : Calls Try.prog 49 #[.agg #[.int .i64 3, .int .i64 k, .int .i64 n, .slice pa p.length pc, .int .u8 fn], .int .i64 V, .int .i64 L, .slice ma made.length mc] w fun e w' => e = .returned (.bool (opB V L made ⟨3, k, n, p, fn⟩)) ∧ Below w.heap.size w w' := by
  have hbx : Below w.heap.size w (w.alloc (.cells #[.int .i64 3, .int .i64 k, .int .i64 n, .slice pa p.length pc, .int .u8 fn] 48)) := (Below.refl _ _).alloc (Nat.le_refl _) _
  obtain ⟨pn, hpn⟩ : ∃ pn, p.length = pn := ⟨_, rfl⟩
  have hB : ∀ b, (decide (0 ≤ k) && decide (k < L) && n == 0 && decide (pn = 0) && fn == 0) = b → opB V L made ⟨3, k, n, p, fn⟩ = b := fun b h => by rw [← h, ← hpn]; rfl
  rw [hpn] at hbx
  rw [hpn]; clear hpn
  have HBX := Lib.hid hbx; clear hbx
  by_cases h0 : 0 ≤ k
  · obtain ⟨kn, rfl⟩ : ∃ kn : Nat, k = kn := ⟨k.toNat, by omega⟩
    by_cases hL : kn < L
    · have hL' : (kn : Int) < (L : Int) := by omega
      by_cases hn : n = 0
      · subst hn
        by_cases hp : pn = 0
        · subst hp
          by_cases hf : fn = 0
          · subst hf
            have HB := Lib.hid (hB true (by simp [hL]))
            clear hB
            go_enter Try.func49, Try.ntmps49
            go_wp2_with fail
            go_ret
            exact ⟨ret_bool HB.out.symm, HBX.out⟩
          · have hf' : (fn == 0) = false := by simp [hf]
            have HB := Lib.hid (hB false (by simp [hL, hf]))
            clear hB
            go_enter Try.func49, Try.ntmps49
            go_wp2_with fail
            go_ret
            exact ⟨ret_bool HB.out.symm, HBX.out⟩
        · have hp' : ((pn : Int) == 0) = false := by simp; omega
          have hp2 : (pn == 0) = false := by simp; omega
          have HB := Lib.hid (hB false (by simp [hL, hp]))
          clear hB
          go_enter Try.func49, Try.ntmps49
          go_wp2_with fail
          go_ret
          exact ⟨ret_bool HB.out.symm, HBX.out⟩
      · have hn' : (n == 0) = false := by simp [hn]
        have HB := Lib.hid (hB false (by simp [hL, hn]))
        clear hB
        go_enter Try.func49, Try.ntmps49
        go_wp2_with fail
        go_ret
        exact ⟨ret_bool HB.out.symm, HBX.out⟩
    · have hL' : decide ((kn : Int) < (L : Int)) = false := by simp; omega
      have hL2 : decide (kn < L) = false := by simp; omega
      have HB := Lib.hid (hB false (by simp [hL]))
      clear hB
      go_enter Try.func49, Try.ntmps49
      go_wp2_with fail
      go_ret
      exact ⟨ret_bool HB.out.symm, HBX.out⟩
  · have h0' : decide (0 ≤ k) = false := by simpa using h0
    have h0i : k < 0 := by omega
    have HB := Lib.hid (hB false (by simp [h0]))
    clear hB
    go_enter Try.func49, Try.ntmps49
    go_wp2_with fail
    go_ret
    exact ⟨ret_bool HB.out.symm, HBX.out⟩
set_option maxHeartbeats 8000000 in
theorem rop4_any (hmade : MadeAt w ma made) : Calls Try.prog 49 #[.agg #[.int .i64 4, .int .i64 k, .int .i64 n, .slice pa p.length pc, .int .u8 fn], .int .i64 V, .int .i64 L, .slice ma made.length mc] w fun e w' => e = .returned (.bool (opB V L made ⟨4, k, n, p, fn⟩)) ∧ Below w.heap.size w w' := by
  have hbx : Below w.heap.size w (w.alloc (.cells #[.int .i64 4, .int .i64 k, .int .i64 n, .slice pa p.length pc, .int .u8 fn] 48)) := (Below.refl _ _).alloc (Nat.le_refl _) _
  obtain ⟨pn, hpn⟩ : ∃ pn, p.length = pn := ⟨_, rfl⟩
  have hB : ∀ b, (madeB made k && n == 0 && decide (pn = 0) && fn == 0) = b → opB V L made ⟨4, k, n, p, fn⟩ = b := fun b h => by rw [← h, ← hpn]; rfl
  rw [hpn] at hbx
  rw [hpn]; clear hpn
  have HBX := Lib.hid hbx; clear hbx
  by_cases h0 : 0 ≤ k
  · obtain ⟨kn, rfl⟩ : ∃ kn : Nat, k = kn := ⟨k.toNat, by omega⟩
    by_cases hM : kn < made.length
    · have hM' : (kn : Int) < (made.length : Int) := by omega
      obtain ⟨mb, off, rfl, xm⟩ := hmade kn hM
      have hbm := World.block_lt_of_cell? _ _ xm
      obtain ⟨mk, hmk⟩ : ∃ mk, made[kn] = mk := ⟨_, rfl⟩
      rw [hmk] at xm
      cases hm : mk with
      | true =>
        subst hm
        by_cases hn : n = 0
        · subst hn
          by_cases hp : pn = 0
          · subst hp
            by_cases hf : fn = 0
            · subst hf
              have HB := Lib.hid (hB true (by simp [madeB_nat hM, hmk]))
              clear hB hmk
              go_enter Try.func49, Try.ntmps49
              go_wp2_with fail
              go_ret
              exact ⟨ret_bool HB.out.symm, HBX.out⟩
            · have hf' : (fn == 0) = false := by simp [hf]
              have HB := Lib.hid (hB false (by simp [madeB_nat hM, hmk, hf]))
              clear hB hmk
              go_enter Try.func49, Try.ntmps49
              go_wp2_with fail
              go_ret
              exact ⟨ret_bool HB.out.symm, HBX.out⟩
          · have hp' : ((pn : Int) == 0) = false := by simp; omega
            have hp2 : (pn == 0) = false := by simp; omega
            have HB := Lib.hid (hB false (by simp [madeB_nat hM, hmk, hp]))
            clear hB hmk
            go_enter Try.func49, Try.ntmps49
            go_wp2_with fail
            go_ret
            exact ⟨ret_bool HB.out.symm, HBX.out⟩
        · have hn' : (n == 0) = false := by simp [hn]
          have HB := Lib.hid (hB false (by simp [madeB_nat hM, hmk, hn]))
          clear hB hmk
          go_enter Try.func49, Try.ntmps49
          go_wp2_with fail
          go_ret
          exact ⟨ret_bool HB.out.symm, HBX.out⟩
      | false =>
        subst hm
        have HB := Lib.hid (hB false (by simp [madeB_nat hM, hmk]))
        clear hB hmk
        go_enter Try.func49, Try.ntmps49
        go_wp2_with fail
        go_ret
        exact ⟨ret_bool HB.out.symm, HBX.out⟩
    · have hM' : decide ((kn : Int) < (made.length : Int)) = false := by simp; omega
      have hM2 : decide (kn < made.length) = false := by simp; omega
      have HB := Lib.hid (hB false (by simp [madeB_long hM]))
      clear hB
      go_enter Try.func49, Try.ntmps49
      go_wp2_with fail
      go_ret
      exact ⟨ret_bool HB.out.symm, HBX.out⟩
  · have h0' : decide (0 ≤ k) = false := by simpa using h0
    have h0i : k < 0 := by omega
    have HB := Lib.hid (hB false (by simp [h0, madeB_neg h0]))
    clear hB
    go_enter Try.func49, Try.ntmps49
    go_wp2_with fail
    go_ret
    exact ⟨ret_bool HB.out.symm, HBX.out⟩
set_option maxHeartbeats 8000000 in
theorem rop5_any : Calls Try.prog 49 #[.agg #[.int .i64 5, .int .i64 k, .int .i64 n, .slice pa p.length pc, .int .u8 fn], .int .i64 V, .int .i64 L, .slice ma made.length mc] w fun e w' => e = .returned (.bool (opB V L made ⟨5, k, n, p, fn⟩)) ∧ Below w.heap.size w w' := by
  have hbx : Below w.heap.size w (w.alloc (.cells #[.int .i64 5, .int .i64 k, .int .i64 n, .slice pa p.length pc, .int .u8 fn] 48)) := (Below.refl _ _).alloc (Nat.le_refl _) _
  have htk := fun W => rtakes_any W fn false
  obtain ⟨pn, hpn⟩ : ∃ pn, p.length = pn := ⟨_, rfl⟩
  have hB : ∀ b, (k == 0 && n == 0 && decide (pn = 0) && takes fn false) = b → opB V L made ⟨5, k, n, p, fn⟩ = b := fun b h => by rw [← h, ← hpn]; rfl
  rw [hpn] at hbx
  rw [hpn]; clear hpn
  have HBX := Lib.hid hbx; clear hbx
  by_cases hk : k = 0
  · subst hk
    by_cases hn : n = 0
    · subst hn
      by_cases hp : pn = 0
      · subst hp
        cases ht : takes fn false with
        | true =>
          rw [ht] at htk
          have HT := Lib.hid htk
          clear htk
          have HB := Lib.hid (hB true (by simp [ht]))
          clear hB
          clear ht
          go_enter Try.func49, Try.ntmps49
          go_wp2_with (go_at_call 48; refine (HT.out _).mono ?_; rintro e w1 ⟨rfl, rfl⟩)
          go_ret
          exact ⟨ret_bool HB.out.symm, HBX.out⟩
        | false =>
          rw [ht] at htk
          have HT := Lib.hid htk
          clear htk
          have HB := Lib.hid (hB false (by simp [ht]))
          clear hB
          clear ht
          go_enter Try.func49, Try.ntmps49
          go_wp2_with (go_at_call 48; refine (HT.out _).mono ?_; rintro e w1 ⟨rfl, rfl⟩)
          go_ret
          exact ⟨ret_bool HB.out.symm, HBX.out⟩
      · have hp' : ((pn : Int) == 0) = false := by simp; omega
        have hp2 : (pn == 0) = false := by simp; omega
        have HB := Lib.hid (hB false (by simp [hp]))
        clear hB
        clear htk
        go_enter Try.func49, Try.ntmps49
        go_wp2_with fail
        go_ret
        exact ⟨ret_bool HB.out.symm, HBX.out⟩
    · have hn' : (n == 0) = false := by simp [hn]
      have HB := Lib.hid (hB false (by simp [hn]))
      clear hB
      clear htk
      go_enter Try.func49, Try.ntmps49
      go_wp2_with fail
      go_ret
      exact ⟨ret_bool HB.out.symm, HBX.out⟩
  · have hk' : (k == 0) = false := by simp [hk]
    have HB := Lib.hid (hB false (by simp [hk]))
    clear hB
    clear htk
    go_enter Try.func49, Try.ntmps49
    go_wp2_with fail
    go_ret
    exact ⟨ret_bool HB.out.symm, HBX.out⟩
set_option maxHeartbeats 8000000 in
theorem rop6_any : Calls Try.prog 49 #[.agg #[.int .i64 6, .int .i64 k, .int .i64 n, .slice pa p.length pc, .int .u8 fn], .int .i64 V, .int .i64 L, .slice ma made.length mc] w fun e w' => e = .returned (.bool (opB V L made ⟨6, k, n, p, fn⟩)) ∧ Below w.heap.size w w' := by
  have hbx : Below w.heap.size w (w.alloc (.cells #[.int .i64 6, .int .i64 k, .int .i64 n, .slice pa p.length pc, .int .u8 fn] 48)) := (Below.refl _ _).alloc (Nat.le_refl _) _
  have htk := fun W => rtakes_any W fn true
  obtain ⟨pn, hpn⟩ : ∃ pn, p.length = pn := ⟨_, rfl⟩
  have hB : ∀ b, (k == 0 && n == 0 && decide (pn = 0) && takes fn true) = b → opB V L made ⟨6, k, n, p, fn⟩ = b := fun b h => by rw [← h, ← hpn]; rfl
  rw [hpn] at hbx
  rw [hpn]; clear hpn
  have HBX := Lib.hid hbx; clear hbx
  by_cases hk : k = 0
  · subst hk
    by_cases hn : n = 0
    · subst hn
      by_cases hp : pn = 0
      · subst hp
        cases ht : takes fn true with
        | true =>
          rw [ht] at htk
          have HT := Lib.hid htk
          clear htk
          have HB := Lib.hid (hB true (by simp [ht]))
          clear hB
          clear ht
          go_enter Try.func49, Try.ntmps49
          go_wp2_with (go_at_call 48; refine (HT.out _).mono ?_; rintro e w1 ⟨rfl, rfl⟩)
          go_ret
          exact ⟨ret_bool HB.out.symm, HBX.out⟩
        | false =>
          rw [ht] at htk
          have HT := Lib.hid htk
          clear htk
          have HB := Lib.hid (hB false (by simp [ht]))
          clear hB
          clear ht
          go_enter Try.func49, Try.ntmps49
          go_wp2_with (go_at_call 48; refine (HT.out _).mono ?_; rintro e w1 ⟨rfl, rfl⟩)
          go_ret
          exact ⟨ret_bool HB.out.symm, HBX.out⟩
      · have hp' : ((pn : Int) == 0) = false := by simp; omega
        have hp2 : (pn == 0) = false := by simp; omega
        have HB := Lib.hid (hB false (by simp [hp]))
        clear hB
        clear htk
        go_enter Try.func49, Try.ntmps49
        go_wp2_with fail
        go_ret
        exact ⟨ret_bool HB.out.symm, HBX.out⟩
    · have hn' : (n == 0) = false := by simp [hn]
      have HB := Lib.hid (hB false (by simp [hn]))
      clear hB
      clear htk
      go_enter Try.func49, Try.ntmps49
      go_wp2_with fail
      go_ret
      exact ⟨ret_bool HB.out.symm, HBX.out⟩
  · have hk' : (k == 0) = false := by simp [hk]
    have HB := Lib.hid (hB false (by simp [hk]))
    clear hB
    clear htk
    go_enter Try.func49, Try.ntmps49
    go_wp2_with fail
    go_ret
    exact ⟨ret_bool HB.out.symm, HBX.out⟩
end
end Go.Proofs.Ytabodlhlanolcaa
