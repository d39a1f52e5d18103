import Derived.Test.YtmlfeocdcjhhaaaPG8
import Derived.Test.YtmlfeocdcjhhaaaPG7
namespace Go.Proofs.Ytmlfeocdcjhhaaa
set_option linter.unusedVariables false
set_option linter.unusedSimpArgs false
set_option maxRecDepth 100000
open Go.RowKit

def Drew (w w' : World) : Prop := ∃ n, w' = w.drewN n
theorem Drew.refl (w : World) : Drew w w := ⟨0, rfl⟩
theorem Drew.mk (w : World) (n : Nat) : Drew w (w.drewN n) := ⟨n, rfl⟩
theorem Drew.mk2 (w : World) (n m : Nat) : Drew w ((w.drewN n).drewN m) := ⟨n + m, by rw [World.drewN_drewN]⟩
theorem Drew.below {B : Nat} {w w' : World} (h : Drew w w') : Below B w w' := by obtain ⟨n, rfl⟩ := h; exact Below.drewN w n

theorem u64_bit (a : Int) (h : In64 a) : (decide (1 < IntKind.u64.wrap a)) = !isBit a := by
  unfold In64 at h
  have : IntKind.u64.wrap a = a % 18446744073709551616 := by rw [IntKind.wrap_u64]
  rw [this]
  unfold isBit
  by_cases h0 : a = 0
  · subst h0; decide
  · by_cases h1 : a = 1
    · subst h1; decide
    · have e0 : (a == 0) = false := by simpa using h0
      have e1 : (a == 1) = false := by simpa using h1
      rw [e0, e1]; simp; omega

set_option maxHeartbeats 1000000 in
theorem holds_any (w : World) (f a b : Int) (hf : 8 ≤ f ∧ f ≤ 13) : Calls Try.prog 151 #[.int .u8 f, .int .i64 a, .int .i64 b] w fun e w' => e = .returned (.bool (
    if f = 8 then a == b else if f = 9 then a != b else if f = 10 then decide (a < b) else if f = 11 then decide (a ≤ b) else if f = 12 then decide (b ≤ a) else decide (b < a))) ∧ w = w' := by
  rcases (by omega : f = 8 ∨ f = 9 ∨ f = 10 ∨ f = 11 ∨ f = 12 ∨ f = 13) with rfl | rfl | rfl | rfl | rfl | rfl
  all_goals
    go_enter Try.func151, Try.ntmps151
    go_wp2
    go_ret
    exact ⟨by simp, rfl⟩


set_option maxHeartbeats 1000000 in
theorem takes_any (w : World) (f : Int) (two : Bool) : Calls Try.prog 23 #[.int .u8 f, .bool two] w fun e w' => e = .returned (.bool (takes f two)) ∧ w = w' := by
  have ht : takes f two = if f < 1 ∨ 17 < f then false else if f = 16 then !two else two || decide (f ≤ 7) := rfl
  have Ht := Lib.hid ht; clear ht
  by_cases h1 : f < 1
  · go_enter Try.func23, Try.ntmps23
    go_wp2
    go_ret
    exact ⟨ret_bool (by rw [Ht.out, if_pos (Or.inl h1)]), rfl⟩
  · have h1' : decide (f < 1) = false := by simpa using h1
    by_cases h2 : 17 < f
    · go_enter Try.func23, Try.ntmps23
      go_wp2
      go_ret
      exact ⟨ret_bool (by rw [Ht.out, if_pos (Or.inr h2)]), rfl⟩
    · have h2' : decide (17 < f) = false := by simpa using h2
      by_cases h3 : f = 16
      · have Hf : Hid (takes f two = !two) := by unfold Hid; rw [Ht.out, if_neg (by omega), if_pos h3]
        subst h3
        cases two
        all_goals
          go_enter Try.func23, Try.ntmps23
          go_wp2
          go_ret
          exact ⟨ret_bool (by rw [Hf.out]; try rfl), rfl⟩
      · have Hf : Hid (takes f two = (two || decide (f ≤ 7))) := by unfold Hid; rw [Ht.out, if_neg (by omega), if_neg h3]
        have h3' : (f == 16) = false := by simpa using h3
        cases two
        all_goals
          go_enter Try.func23, Try.ntmps23
          go_wp2
          go_ret
          exact ⟨ret_bool (by rw [Hf.out]; try rfl), rfl⟩

set_option maxHeartbeats 1000000 in
theorem rtakes_any (w : World) (f : Int) (two : Bool) : Calls Try.prog 57 #[.int .u8 f, .bool two] w fun e w' => e = .returned (.bool (takes f two)) ∧ w = w' := by
  have ht : takes f two = if f < 1 ∨ 17 < f then false else if f = 16 then !two else two || decide (f ≤ 7) := rfl
  have Ht := Lib.hid ht; clear ht
  by_cases h1 : f < 1
  · have Hf : Hid (takes f two = false) := by unfold Hid; rw [Ht.out, if_pos (Or.inl h1)]
    have h1' : decide (1 ≤ f) = false := by simp; omega
    have h3' : (f == 16) = false := by simp; omega
    cases two
    all_goals
      go_enter Try.func57, Try.ntmps57
      go_wp2
      go_ret
      exact ⟨ret_bool (by rw [Hf.out]; try rfl), rfl⟩
  · by_cases h2 : 17 < f
    · have Hf : Hid (takes f two = false) := by unfold Hid; rw [Ht.out, if_pos (Or.inr h2)]
      have h1' : decide (1 ≤ f) = true := by simp; omega
      have h2' : decide (f ≤ 17) = false := by simp; omega
      have h2'' : decide (f ≤ 7) = false := by simp; omega
      have h3' : (f == 16) = false := by simp; omega
      cases two
      all_goals
        go_enter Try.func57, Try.ntmps57
        go_wp2
        go_ret
        exact ⟨ret_bool (by rw [Hf.out]; try rfl), rfl⟩
    · have h1' : decide (1 ≤ f) = true := by simp; omega
      have h2' : decide (f ≤ 17) = true := by simp; omega
      by_cases h3 : f = 16
      · have Hf : Hid (takes f two = !two) := by unfold Hid; rw [Ht.out, if_neg (by omega), if_pos h3]
        subst h3
        cases two
        all_goals
          go_enter Try.func57, Try.ntmps57
          go_wp2
          go_ret
          exact ⟨ret_bool (by rw [Hf.out]; try rfl), rfl⟩
      · have Hf : Hid (takes f two = (two || decide (f ≤ 7))) := by unfold Hid; rw [Ht.out, if_neg (by omega), if_neg h3]
        have h3' : (f == 16) = false := by simpa using h3
        have h4' : (f != 16) = true := by simpa using h3
        by_cases h7 : f ≤ 7
        all_goals
          cases two
          all_goals
            go_enter Try.func57, Try.ntmps57
            go_wp2
            go_ret
            exact ⟨ret_bool (by rw [Hf.out]; simp [h7]), rfl⟩

set_option maxHeartbeats 1000000 in
theorem boolean_any (w : World) (a : Int) : Calls Try.prog 136 #[.int .i64 a] w fun e w' => e = .returned (.bool (isBit a)) ∧ w = w' := by
  by_cases h : a = 0
  · subst h
    go_enter Try.func136, Try.ntmps136
    go_wp2
    go_ret
    exact ⟨rfl, rfl⟩
  · have h' : (a == 0) = false := by simpa using h
    have Hf : Hid (isBit a = (a == 1)) := by unfold Hid isBit; rw [h']; rfl
    go_enter Try.func136, Try.ntmps136
    go_wp2
    go_ret
    exact ⟨ret_bool (by rw [Hf.out]), rfl⟩

set_option maxHeartbeats 2000000 in
theorem refuses_any (w : World) (f a b : Int) (hf : 1 ≤ f ∧ f ≤ 17) (ha : In64 a) (hb : In64 b) : Calls Try.prog 126 #[.int .u8 f, .int .i64 a, .int .i64 b] w fun e w' => e = .returned (.bool (refusesB f a b)) ∧ w = w' := by
  have ua := u64_bit a ha
  have ub := u64_bit b hb
  clear ha hb
  by_cases hs : f = 4 ∨ f = 17 ∨ f = 14 ∨ f = 15
  · rcases hs with rfl | rfl | rfl | rfl
    · go_enter Try.func126, Try.ntmps126
      go_wp2
      go_ret
      exact ⟨ret_bool (by simp [refusesB]), rfl⟩
    · go_enter Try.func126, Try.ntmps126
      go_wp2
      go_ret
      exact ⟨ret_bool (by simp [refusesB]), rfl⟩
    all_goals
      cases hx : isBit a
      all_goals
        rw [hx] at ua
        have Hx := Lib.hid hx; clear hx
        go_enter Try.func126, Try.ntmps126
        go_wp2
        go_ret
        exact ⟨ret_bool (by simp [refusesB, Hx.out]), rfl⟩
  · have h4 : (f == 4) = false := by simp; omega
    have h17 : (f == 17) = false := by simp; omega
    have h14 : (f == 14) = false := by simp; omega
    have h15 : (f == 15) = false := by simp; omega
    have Hf : Hid (refusesB f a b = false) := by unfold Hid refusesB; rw [if_neg (by omega), if_neg (by omega), if_neg (by omega)]
    clear hs ua ub
    go_enter Try.func126, Try.ntmps126
    go_wp2
    go_ret
    exact ⟨ret_bool Hf.out.symm, rfl⟩
end Go.Proofs.Ytmlfeocdcjhhaaa

namespace Go.Proofs.Ytmlfeocdcjhhaaa
set_option maxRecDepth 100000
open Go.RowKit
set_option linter.unusedVariables false
set_option linter.unusedSimpArgs false
attribute [local go_sem ↓] Go.wp_at_zero Go.wp_at_succ

/-! One operation's form. (Printed by gen_op.py.) -/
def MadeAt (w : World) (a : Option Addr) (l : List Bool) : Prop := ∀ k, (hk : k < l.length) → ∃ b off, a = some ⟨b, off, none⟩ ∧ w.cell? ⟨b, off + k, none⟩ = some (.bool l[k])
theorem MadeAt.below {w w' : World} {a : Option Addr} {l : List Bool} {B : Nat} (h : MadeAt w a l) (hb : Below B w w') (hB : w.heap.size ≤ B) : MadeAt w' a l := fun k hk => by
  obtain ⟨b, off, e, hc⟩ := h k hk
  exact ⟨b, off, e, (hb.cell (Nat.lt_of_lt_of_le (World.block_lt_of_cell? _ _ hc) hB)).trans hc⟩
def madeB (made : List Bool) (k : Int) : Bool := decide (0 ≤ k) && decide (k < made.length) && made.getD k.toNat false
def opB (V L : Nat) (made : List Bool) (o : Cop) : Bool :=
  if o.how = 1 then o.k == 0 && decide (o.p.length = 0) && o.fn == 0
  else if o.how = 2 then o.k == 0 && o.n == 0 && o.fn == 0 && ownB V o.p
  else if o.how = 3 then decide (0 ≤ o.k) && decide (o.k < L) && o.n == 0 && decide (o.p.length = 0) && o.fn == 0
  else if o.how = 4 then madeB made o.k && o.n == 0 && decide (o.p.length = 0) && o.fn == 0
  else if o.how = 5 then o.k == 0 && o.n == 0 && decide (o.p.length = 0) && takes o.fn false
  else if o.how = 6 then o.k == 0 && o.n == 0 && decide (o.p.length = 0) && takes o.fn true
  else false
theorem madeB_nat {made : List Bool} {k : Nat} (h : k < made.length) : madeB made k = made[k] := by
  unfold madeB
  rw [decide_eq_true (by omega), decide_eq_true (by omega), Int.toNat_natCast, List.getD_eq_getElem?_getD, List.getElem?_eq_getElem h]
  rfl
theorem madeB_neg {made : List Bool} {k : Int} (h : ¬ 0 ≤ k) : madeB made k = false := by unfold madeB; rw [decide_eq_false h]; rfl
theorem madeB_long {made : List Bool} {k : Nat} (h : ¬ k < made.length) : madeB made k = false := by unfold madeB; rw [decide_eq_false (p := (k : Int) < _) (by omega), Bool.and_false]; rfl
section
variable (w : World) (k n fn : Int) (p : List Mono) (pa : Option Addr) (pc V L : Nat) (ma : Option Addr) (mc : Nat) (made : List Bool)
set_option maxHeartbeats 8000000 in
theorem rop1_any : Calls Try.prog 108 #[.agg #[.int .i64 1, .int .i64 k, .int .i64 n, .slice pa p.length pc, .int .u8 fn], .int .i64 V, .int .i64 L, .slice ma made.length mc] w fun e w' => e = .returned (.bool (opB V L made ⟨1, k, n, p, fn⟩)) ∧ Below w.heap.size w w' := by
  have hbx : Below w.heap.size w (w.alloc (.cells #[.int .i64 1, .int .i64 k, .int .i64 n, .slice pa p.length pc, .int .u8 fn] 44)) := (Below.refl _ _).alloc (Nat.le_refl _) _
  obtain ⟨pn, hpn⟩ : ∃ pn, p.length = pn := ⟨_, rfl⟩
  have hB : ∀ b, (k == 0 && decide (pn = 0) && fn == 0) = b → opB V L made ⟨1, k, n, p, fn⟩ = b := fun b h => by rw [← h, ← hpn]; rfl
  rw [hpn] at hbx
  rw [hpn]; clear hpn
  have HBX := Lib.hid hbx; clear hbx
  by_cases hk : k = 0
  · subst hk
    by_cases hp : pn = 0
    · subst hp
      by_cases hf : fn = 0
      · subst hf
        have HB := Lib.hid (hB true (by simp []))
        clear hB
        go_enter Try.func108, Try.ntmps108
        go_wp2_with fail
        go_ret
        exact ⟨ret_bool HB.out.symm, HBX.out⟩
      · have hf' : (fn == 0) = false := by simp [hf]
        have HB := Lib.hid (hB false (by simp [hf]))
        clear hB
        go_enter Try.func108, Try.ntmps108
        go_wp2_with fail
        go_ret
        exact ⟨ret_bool HB.out.symm, HBX.out⟩
    · have hp' : ((pn : Int) == 0) = false := by simp; omega
      have hp2 : (pn == 0) = false := by simp; omega
      have HB := Lib.hid (hB false (by simp [hp]))
      clear hB
      go_enter Try.func108, Try.ntmps108
      go_wp2_with fail
      go_ret
      exact ⟨ret_bool HB.out.symm, HBX.out⟩
  · have hk' : (k == 0) = false := by simp [hk]
    have HB := Lib.hid (hB false (by simp [hk]))
    clear hB
    go_enter Try.func108, Try.ntmps108
    go_wp2_with fail
    go_ret
    exact ⟨ret_bool HB.out.symm, HBX.out⟩
set_option maxHeartbeats 8000000 in
theorem rop2_any (hV : V ≤ 6) (hpe : monoRep.Els w pa p) (hpl : p.length ≤ 9223372036854775807) : Calls Try.prog 108 #[.agg #[.int .i64 2, .int .i64 k, .int .i64 n, .slice pa p.length pc, .int .u8 fn], .int .i64 V, .int .i64 L, .slice ma made.length mc] w fun e w' => e = .returned (.bool (opB V L made ⟨2, k, n, p, fn⟩)) ∧ Below w.heap.size w w' := by
  have hbx : Below w.heap.size w (w.alloc (.cells #[.int .i64 2, .int .i64 k, .int .i64 n, .slice pa p.length pc, .int .u8 fn] 44)) := (Below.refl _ _).alloc (Nat.le_refl _) _
  have hown := fun W (hb : Below w.heap.size w W) => rown_any W pa pc p V hV (hpe.below monoRep hb (Nat.le_refl _)) hpl
  clear hpe
  obtain ⟨pn, hpn⟩ : ∃ pn, p.length = pn := ⟨_, rfl⟩
  have hB : ∀ b, (k == 0 && n == 0 && fn == 0 && ownB V p) = b → opB V L made ⟨2, k, n, p, fn⟩ = b := fun b h => by rw [← h]; rfl
  rw [hpn] at hbx hown
  rw [hpn]; clear hpn
  have HBX := Lib.hid hbx; clear hbx
  by_cases hk : k = 0
  · subst hk
    by_cases hn : n = 0
    · subst hn
      by_cases hf : fn = 0
      · subst hf
        cases ho : ownB V p with
        | true =>
          rw [ho] at hown
          have HO := Lib.hid hown
          clear hown
          have HB := Lib.hid (hB true (by simp [ho]))
          clear hB
          clear ho
          go_enter Try.func108, Try.ntmps108
          go_wp2_with (go_at_call 106; refine (HO.out _ HBX.out).mono ?_; rintro e w1 ⟨rfl, hb1⟩)
          go_ret
          exact ⟨ret_bool HB.out.symm, bNext hb1 HBX.out⟩
        | false =>
          rw [ho] at hown
          have HO := Lib.hid hown
          clear hown
          have HB := Lib.hid (hB false (by simp [ho]))
          clear hB
          clear ho
          go_enter Try.func108, Try.ntmps108
          go_wp2_with (go_at_call 106; refine (HO.out _ HBX.out).mono ?_; rintro e w1 ⟨rfl, hb1⟩)
          go_ret
          exact ⟨ret_bool HB.out.symm, bNext hb1 HBX.out⟩
      · have hf' : (fn == 0) = false := by simp [hf]
        have HB := Lib.hid (hB false (by simp [hf]))
        clear hB
        clear hown
        go_enter Try.func108, Try.ntmps108
        go_wp2_with fail
        go_ret
        exact ⟨ret_bool HB.out.symm, HBX.out⟩
    · have hn' : (n == 0) = false := by simp [hn]
      have HB := Lib.hid (hB false (by simp [hn]))
      clear hB
      clear hown
      go_enter Try.func108, Try.ntmps108
      go_wp2_with fail
      go_ret
      exact ⟨ret_bool HB.out.symm, HBX.out⟩
  · have hk' : (k == 0) = false := by simp [hk]
    have HB := Lib.hid (hB false (by simp [hk]))
    clear hB
    clear hown
    go_enter Try.func108, Try.ntmps108
    go_wp2_with fail
    go_ret
    exact ⟨ret_bool HB.out.symm, HBX.out⟩
set_option maxHeartbeats 8000000 in
theorem rop3_any : Calls Try.prog 108 #[.agg #[.int .i64 3, .int .i64 k, .int .i64 n, .slice pa p.length pc, .int .u8 fn], .int .i64 V, .int .i64 L, .slice ma made.length mc] w fun e w' => e = .returned (.bool (opB V L made ⟨3, k, n, p, fn⟩)) ∧ Below w.heap.size w w' := by
  have hbx : Below w.heap.size w (w.alloc (.cells #[.int .i64 3, .int .i64 k, .int .i64 n, .slice pa p.length pc, .int .u8 fn] 44)) := (Below.refl _ _).alloc (Nat.le_refl _) _
  obtain ⟨pn, hpn⟩ : ∃ pn, p.length = pn := ⟨_, rfl⟩
  have hB : ∀ b, (decide (0 ≤ k) && decide (k < L) && n == 0 && decide (pn = 0) && fn == 0) = b → opB V L made ⟨3, k, n, p, fn⟩ = b := fun b h => by rw [← h, ← hpn]; rfl
  rw [hpn] at hbx
  rw [hpn]; clear hpn
  have HBX := Lib.hid hbx; clear hbx
  by_cases h0 : 0 ≤ k
  · obtain ⟨kn, rfl⟩ : ∃ kn : Nat, k = kn := ⟨k.toNat, by omega⟩
    by_cases hL : kn < L
    · have hL' : (kn : Int) < (L : Int) := by omega
      by_cases hn : n = 0
      · subst hn
        by_cases hp : pn = 0
        · subst hp
          by_cases hf : fn = 0
          · subst hf
            have HB := Lib.hid (hB true (by simp [hL]))
            clear hB
            go_enter Try.func108, Try.ntmps108
            go_wp2_with fail
            go_ret
            exact ⟨ret_bool HB.out.symm, HBX.out⟩
          · have hf' : (fn == 0) = false := by simp [hf]
            have HB := Lib.hid (hB false (by simp [hL, hf]))
            clear hB
            go_enter Try.func108, Try.ntmps108
            go_wp2_with fail
            go_ret
            exact ⟨ret_bool HB.out.symm, HBX.out⟩
        · have hp' : ((pn : Int) == 0) = false := by simp; omega
          have hp2 : (pn == 0) = false := by simp; omega
          have HB := Lib.hid (hB false (by simp [hL, hp]))
          clear hB
          go_enter Try.func108, Try.ntmps108
          go_wp2_with fail
          go_ret
          exact ⟨ret_bool HB.out.symm, HBX.out⟩
      · have hn' : (n == 0) = false := by simp [hn]
        have HB := Lib.hid (hB false (by simp [hL, hn]))
        clear hB
        go_enter Try.func108, Try.ntmps108
        go_wp2_with fail
        go_ret
        exact ⟨ret_bool HB.out.symm, HBX.out⟩
    · have hL' : decide ((kn : Int) < (L : Int)) = false := by simp; omega
      have hL2 : decide (kn < L) = false := by simp; omega
      have HB := Lib.hid (hB false (by simp [hL]))
      clear hB
      go_enter Try.func108, Try.ntmps108
      go_wp2_with fail
      go_ret
      exact ⟨ret_bool HB.out.symm, HBX.out⟩
  · have h0' : decide (0 ≤ k) = false := by simpa using h0
    have h0i : k < 0 := by omega
    have HB := Lib.hid (hB false (by simp [h0]))
    clear hB
    go_enter Try.func108, Try.ntmps108
    go_wp2_with fail
    go_ret
    exact ⟨ret_bool HB.out.symm, HBX.out⟩
set_option maxHeartbeats 8000000 in
theorem rop4_any (hmade : MadeAt w ma made) : Calls Try.prog 108 #[.agg #[.int .i64 4, .int .i64 k, .int .i64 n, .slice pa p.length pc, .int .u8 fn], .int .i64 V, .int .i64 L, .slice ma made.length mc] w fun e w' => e = .returned (.bool (opB V L made ⟨4, k, n, p, fn⟩)) ∧ Below w.heap.size w w' := by
  have hbx : Below w.heap.size w (w.alloc (.cells #[.int .i64 4, .int .i64 k, .int .i64 n, .slice pa p.length pc, .int .u8 fn] 44)) := (Below.refl _ _).alloc (Nat.le_refl _) _
  obtain ⟨pn, hpn⟩ : ∃ pn, p.length = pn := ⟨_, rfl⟩
  have hB : ∀ b, (madeB made k && n == 0 && decide (pn = 0) && fn == 0) = b → opB V L made ⟨4, k, n, p, fn⟩ = b := fun b h => by rw [← h, ← hpn]; rfl
  rw [hpn] at hbx
  rw [hpn]; clear hpn
  have HBX := Lib.hid hbx; clear hbx
  by_cases h0 : 0 ≤ k
  · obtain ⟨kn, rfl⟩ : ∃ kn : Nat, k = kn := ⟨k.toNat, by omega⟩
    by_cases hM : kn < made.length
    · have hM' : (kn : Int) < (made.length : Int) := by omega
      obtain ⟨mb, off, rfl, xm⟩ := hmade kn hM
      have hbm := World.block_lt_of_cell? _ _ xm
      obtain ⟨mk, hmk⟩ : ∃ mk, made[kn] = mk := ⟨_, rfl⟩
      rw [hmk] at xm
      cases hm : mk with
      | true =>
        subst hm
        by_cases hn : n = 0
        · subst hn
          by_cases hp : pn = 0
          · subst hp
            by_cases hf : fn = 0
            · subst hf
              have HB := Lib.hid (hB true (by simp [madeB_nat hM, hmk]))
              clear hB hmk
              go_enter Try.func108, Try.ntmps108
              go_wp2_with fail
              go_ret
              exact ⟨ret_bool HB.out.symm, HBX.out⟩
            · have hf' : (fn == 0) = false := by simp [hf]
              have HB := Lib.hid (hB false (by simp [madeB_nat hM, hmk, hf]))
              clear hB hmk
              go_enter Try.func108, Try.ntmps108
              go_wp2_with fail
              go_ret
              exact ⟨ret_bool HB.out.symm, HBX.out⟩
          · have hp' : ((pn : Int) == 0) = false := by simp; omega
            have hp2 : (pn == 0) = false := by simp; omega
            have HB := Lib.hid (hB false (by simp [madeB_nat hM, hmk, hp]))
            clear hB hmk
            go_enter Try.func108, Try.ntmps108
            go_wp2_with fail
            go_ret
            exact ⟨ret_bool HB.out.symm, HBX.out⟩
        · have hn' : (n == 0) = false := by simp [hn]
          have HB := Lib.hid (hB false (by simp [madeB_nat hM, hmk, hn]))
          clear hB hmk
          go_enter Try.func108, Try.ntmps108
          go_wp2_with fail
          go_ret
          exact ⟨ret_bool HB.out.symm, HBX.out⟩
      | false =>
        subst hm
        have HB := Lib.hid (hB false (by simp [madeB_nat hM, hmk]))
        clear hB hmk
        go_enter Try.func108, Try.ntmps108
        go_wp2_with fail
        go_ret
        exact ⟨ret_bool HB.out.symm, HBX.out⟩
    · have hM' : decide ((kn : Int) < (made.length : Int)) = false := by simp; omega
      have hM2 : decide (kn < made.length) = false := by simp; omega
      have HB := Lib.hid (hB false (by simp [madeB_long hM]))
      clear hB
      go_enter Try.func108, Try.ntmps108
      go_wp2_with fail
      go_ret
      exact ⟨ret_bool HB.out.symm, HBX.out⟩
  · have h0' : decide (0 ≤ k) = false := by simpa using h0
    have h0i : k < 0 := by omega
    have HB := Lib.hid (hB false (by simp [h0, madeB_neg h0]))
    clear hB
    go_enter Try.func108, Try.ntmps108
    go_wp2_with fail
    go_ret
    exact ⟨ret_bool HB.out.symm, HBX.out⟩
set_option maxHeartbeats 8000000 in
theorem rop5_any : Calls Try.prog 108 #[.agg #[.int .i64 5, .int .i64 k, .int .i64 n, .slice pa p.length pc, .int .u8 fn], .int .i64 V, .int .i64 L, .slice ma made.length mc] w fun e w' => e = .returned (.bool (opB V L made ⟨5, k, n, p, fn⟩)) ∧ Below w.heap.size w w' := by
  have hbx : Below w.heap.size w (w.alloc (.cells #[.int .i64 5, .int .i64 k, .int .i64 n, .slice pa p.length pc, .int .u8 fn] 44)) := (Below.refl _ _).alloc (Nat.le_refl _) _
  have htk := fun W => rtakes_any W fn false
  obtain ⟨pn, hpn⟩ : ∃ pn, p.length = pn := ⟨_, rfl⟩
  have hB : ∀ b, (k == 0 && n == 0 && decide (pn = 0) && takes fn false) = b → opB V L made ⟨5, k, n, p, fn⟩ = b := fun b h => by rw [← h, ← hpn]; rfl
  rw [hpn] at hbx
  rw [hpn]; clear hpn
  have HBX := Lib.hid hbx; clear hbx
  by_cases hk : k = 0
  · subst hk
    by_cases hn : n = 0
    · subst hn
      by_cases hp : pn = 0
      · subst hp
        cases ht : takes fn false with
        | true =>
          rw [ht] at htk
          have HT := Lib.hid htk
          clear htk
          have HB := Lib.hid (hB true (by simp [ht]))
          clear hB
          clear ht
          go_enter Try.func108, Try.ntmps108
          go_wp2_with (go_at_call 57; refine (HT.out _).mono ?_; rintro e w1 ⟨rfl, rfl⟩)
          go_ret
          exact ⟨ret_bool HB.out.symm, HBX.out⟩
        | false =>
          rw [ht] at htk
          have HT := Lib.hid htk
          clear htk
          have HB := Lib.hid (hB false (by simp [ht]))
          clear hB
          clear ht
          go_enter Try.func108, Try.ntmps108
          go_wp2_with (go_at_call 57; refine (HT.out _).mono ?_; rintro e w1 ⟨rfl, rfl⟩)
          go_ret
          exact ⟨ret_bool HB.out.symm, HBX.out⟩
      · have hp' : ((pn : Int) == 0) = false := by simp; omega
        have hp2 : (pn == 0) = false := by simp; omega
        have HB := Lib.hid (hB false (by simp [hp]))
        clear hB
        clear htk
        go_enter Try.func108, Try.ntmps108
        go_wp2_with fail
        go_ret
        exact ⟨ret_bool HB.out.symm, HBX.out⟩
    · have hn' : (n == 0) = false := by simp [hn]
      have HB := Lib.hid (hB false (by simp [hn]))
      clear hB
      clear htk
      go_enter Try.func108, Try.ntmps108
      go_wp2_with fail
      go_ret
      exact ⟨ret_bool HB.out.symm, HBX.out⟩
  · have hk' : (k == 0) = false := by simp [hk]
    have HB := Lib.hid (hB false (by simp [hk]))
    clear hB
    clear htk
    go_enter Try.func108, Try.ntmps108
    go_wp2_with fail
    go_ret
    exact ⟨ret_bool HB.out.symm, HBX.out⟩
set_option maxHeartbeats 8000000 in
theorem rop6_any : Calls Try.prog 108 #[.agg #[.int .i64 6, .int .i64 k, .int .i64 n, .slice pa p.length pc, .int .u8 fn], .int .i64 V, .int .i64 L, .slice ma made.length mc] w fun e w' => e = .returned (.bool (opB V L made ⟨6, k, n, p, fn⟩)) ∧ Below w.heap.size w w' := by
  have hbx : Below w.heap.size w (w.alloc (.cells #[.int .i64 6, .int .i64 k, .int .i64 n, .slice pa p.length pc, .int .u8 fn] 44)) := (Below.refl _ _).alloc (Nat.le_refl _) _
  have htk := fun W => rtakes_any W fn true
  obtain ⟨pn, hpn⟩ : ∃ pn, p.length = pn := ⟨_, rfl⟩
  have hB : ∀ b, (k == 0 && n == 0 && decide (pn = 0) && takes fn true) = b → opB V L made ⟨6, k, n, p, fn⟩ = b := fun b h => by rw [← h, ← hpn]; rfl
  rw [hpn] at hbx
  rw [hpn]; clear hpn
  have HBX := Lib.hid hbx; clear hbx
  by_cases hk : k = 0
  · subst hk
    by_cases hn : n = 0
    · subst hn
      by_cases hp : pn = 0
      · subst hp
        cases ht : takes fn true with
        | true =>
          rw [ht] at htk
          have HT := Lib.hid htk
          clear htk
          have HB := Lib.hid (hB true (by simp [ht]))
          clear hB
          clear ht
          go_enter Try.func108, Try.ntmps108
          go_wp2_with (go_at_call 57; refine (HT.out _).mono ?_; rintro e w1 ⟨rfl, rfl⟩)
          go_ret
          exact ⟨ret_bool HB.out.symm, HBX.out⟩
        | false =>
          rw [ht] at htk
          have HT := Lib.hid htk
          clear htk
          have HB := Lib.hid (hB false (by simp [ht]))
          clear hB
          clear ht
          go_enter Try.func108, Try.ntmps108
          go_wp2_with (go_at_call 57; refine (HT.out _).mono ?_; rintro e w1 ⟨rfl, rfl⟩)
          go_ret
          exact ⟨ret_bool HB.out.symm, HBX.out⟩
      · have hp' : ((pn : Int) == 0) = false := by simp; omega
        have hp2 : (pn == 0) = false := by simp; omega
        have HB := Lib.hid (hB false (by simp [hp]))
        clear hB
        clear htk
        go_enter Try.func108, Try.ntmps108
        go_wp2_with fail
        go_ret
        exact ⟨ret_bool HB.out.symm, HBX.out⟩
    · have hn' : (n == 0) = false := by simp [hn]
      have HB := Lib.hid (hB false (by simp [hn]))
      clear hB
      clear htk
      go_enter Try.func108, Try.ntmps108
      go_wp2_with fail
      go_ret
      exact ⟨ret_bool HB.out.symm, HBX.out⟩
  · have hk' : (k == 0) = false := by simp [hk]
    have HB := Lib.hid (hB false (by simp [hk]))
    clear hB
    clear htk
    go_enter Try.func108, Try.ntmps108
    go_wp2_with fail
    go_ret
    exact ⟨ret_bool HB.out.symm, HBX.out⟩
end
end Go.Proofs.Ytmlfeocdcjhhaaa

namespace Go.Proofs.Ytmlfeocdcjhhaaa
set_option maxRecDepth 100000
open Go.RowKit
set_option linter.unusedVariables false
set_option linter.unusedSimpArgs false
attribute [local go_sem ↓] Go.wp_at_zero Go.wp_at_succ

/-! slices.IndexFunc and ContainsFunc over operations, with a closure that has one variable of its own. -/
def firstO (p : Cop → Bool) : Nat → List Cop → Int
  | _, [] => -1
  | k, x :: xs => if p x then k else firstO p (k + 1) xs
theorem firstO_step {p : Cop → Bool} {k : Nat} {xs : List Cop} (h : k < xs.length) : firstO p k (xs.drop k) = if p xs[k] then (k : Int) else firstO p (k + 1) (xs.drop (k + 1)) := by
  rw [List.drop_eq_getElem_cons h, firstO]
theorem firstO_nonneg {p : Cop → Bool} : ∀ (xs : List Cop) (k : Nat), decide (0 ≤ firstO p k xs) = xs.any p
  | [], k => by simp [firstO]
  | x :: xs, k => by
    rw [firstO]
    by_cases h : p x
    · simp [h]
    · simp [h, firstO_nonneg xs (k + 1)]
set_option maxHeartbeats 4000000 in
theorem indexFuncO (w : World) (a : Option Addr) (cap : Nat) (xs : List Cop) (cv : Value) (p : Cop → Bool) (hm : xs.length ≤ maxLen) (h : copRep.Els w a xs)
    (hp : ∀ i, (hi : i < xs.length) → ∀ w' pa pc, Below w.heap.size w w' → monoRep.Els w' pa xs[i].p → xs[i].p.length ≤ 9223372036854775807 →
      Calls Try.prog 87 #[.agg #[.int .i64 xs[i].how, .int .i64 xs[i].k, .int .i64 xs[i].n, .slice pa xs[i].p.length pc, .int .u8 xs[i].fn], cv] w' fun e w'' => e = .returned (.bool (p xs[i])) ∧ Below w'.heap.size w' w'') :
    Calls Try.prog 52 #[.slice a xs.length cap, .func (.func 87) #[] #[cv]] w fun e w' => e = .returned (.int .i64 (firstO p 0 xs)) ∧ Below w.heap.size w w' := by
  unfold maxLen at hm
  have HI := Lib.hid h; have HP := Lib.hid hp; clear h hp
  go_enter Try.func52, Try.ntmps52
  go_wp2
  go_loopw [8] (fun i wr => ∃ k : Nat, k ≤ xs.length ∧ i = .int .i64 k ∧ firstO p 0 xs = firstO p k (xs.drop k) ∧ Below w.heap.size w wr) (fun i _ => xs.length - (intOf i).toNat)
  case atStart => exact ⟨0, Nat.zero_le _, rfl, rfl, Below.refl _ _⟩
  case round =>
    obtain ⟨k, hk, rfl, hr, hbel⟩ := hrel
    by_cases hlt : k < xs.length
    · rw [firstO_step hlt] at hr
      obtain ⟨b, off, cs, rfl, ⟨v, rfl, hs, hh, -⟩, hc⟩ := (HI.out.below copRep hbel (Nat.le_refl _)) k hlt
      have x0 := hc 0 _ rfl; have x1 := hc 1 _ rfl; have x2 := hc 2 _ rfl; have x3 := hc 3 _ rfl; have x4 := hc 4 _ rfl
      simp only [show copRep.n = 5 from rfl, Nat.add_zero] at x0 x1 x2 x3 x4
      obtain ⟨pa, pc, rfl, hpl, hpe⟩ := Rep.Sl.form hs
      have hq := HP.out k hlt wr pa pc hbel hpe hpl
      have Hr := Lib.hid hr; clear hr hs hpe hc
      cases hv : p xs[k] with
      | true =>
        rw [hv] at hq
        have HQ := Lib.hid hq; have Hv := Lib.hid hv; clear hq hv
        go_wp2_with (refine HQ.out.mono ?_; rintro e w' ⟨rfl, hb1⟩)
        go_ret
        exact ⟨ret_int (by rw [Hr.out, if_pos Hv.out]), bNext hb1 hbel⟩
      | false =>
        rw [hv] at hq
        have HQ := Lib.hid hq; have Hv := Lib.hid hv; clear hq hv
        go_wp2_with (refine HQ.out.mono ?_; rintro e w' ⟨rfl, hb1⟩)
        go_roundw
        case rel => exact ⟨k + 1, by omega, by go_num, by rw [Hr.out, if_neg (by rw [Hv.out]; simp)], bNext hb1 hbel⟩
        case measure => simp [intOf]; omega
    · have Hr := Lib.hid hr; clear hr
      go_wp2
      go_ret
      exact ⟨ret_int (by rw [Hr.out, List.drop_eq_nil_of_le (by omega)]; rfl), hbel⟩

theorem containsFuncO (w : World) (a : Option Addr) (cap : Nat) (xs : List Cop) (cv : Value) (p : Cop → Bool) (hm : xs.length ≤ maxLen) (h : copRep.Els w a xs)
    (hp : ∀ i, (hi : i < xs.length) → ∀ w' pa pc, Below w.heap.size w w' → monoRep.Els w' pa xs[i].p → xs[i].p.length ≤ 9223372036854775807 →
      Calls Try.prog 87 #[.agg #[.int .i64 xs[i].how, .int .i64 xs[i].k, .int .i64 xs[i].n, .slice pa xs[i].p.length pc, .int .u8 xs[i].fn], cv] w' fun e w'' => e = .returned (.bool (p xs[i])) ∧ Below w'.heap.size w' w'') :
    Calls Try.prog 25 #[.slice a xs.length cap, .func (.func 87) #[] #[cv]] w fun e w' => e = .returned (.bool (xs.any p)) ∧ Below w.heap.size w w' := by
  have hq := Lib.hid (indexFuncO w a cap xs cv p hm h hp)
  clear hp h
  go_enter Try.func25, Try.ntmps25
  go_wp2_with (go_at_call 52; refine hq.out.mono ?_; rintro e w' ⟨rfl, hb1⟩)
  go_ret
  exact ⟨ret_bool (firstO_nonneg _ _), hb1⟩
end Go.Proofs.Ytmlfeocdcjhhaaa
