/-
  ArrayRises: for every sides and every two indexes the law returns true, and what was handed in reads as it did. No condition.
-/
import Derived.Test.YtbhhmfkipfedfaaShown
import Derived.Test.YtbhhmfkipfedfaaOpen
import Derived.Test.YtbhhmfkipfedfaaLaws
namespace Go.Proofs.Ytbhhmfkipfedfaa
open Go.ChangeShapes Go.WideShapes Go.ChangeAt Go.RowKit Go.Joins
set_option linter.unusedVariables false

theorem bNext {w W W2 : World} (hb : Below W.heap.size W W2) (hB : Below w.heap.size w W) : Below w.heap.size w W2 := hB.trans (hb.mono hB.size)

set_option maxRecDepth 100000 in
set_option maxHeartbeats 4000000 in
theorem ArrayRises_walk (w : World) (v0 : Value) (xs : List Int) (v1 : Value) (ys : List Int) (v2 : Value) (zs : List Int) (q0 : SlI .i64 w v0 xs) (q1 : SlI .i64 w v1 ys) (q2 : SlI .i64 w v2 zs) :
    Calls Try.prog 6 #[v0, v1, v2] w fun e w' => e = .returned (.bool true) ∧ Below w.heap.size w w' := by
  obtain ⟨a, c, rfl, hm1, hm2, h, -⟩ := q0
  obtain ⟨b, d, rfl, hs1, hs2, h0, -⟩ := q1
  obtain ⟨b2, d2, rfl, ht1, ht2, h2, -⟩ := q2
  have hm := Nat.le_trans hm1 hm2
  have hs := Nat.le_trans hs1 hs2
  have ht := Nat.le_trans ht1 ht2
  have k1 := fun W (hB : Below w.heap.size w W) => place_any W a b c d xs ys hm hs (h.below hB (Nat.le_refl _)) (h0.below hB (Nat.le_refl _))
  have k2 := fun W (hB : Below w.heap.size w W) => place_any W a b2 c d2 xs zs hm ht (h.below hB (Nat.le_refl _)) (h2.below hB (Nat.le_refl _))
  have hys := fun W (hB : Below w.heap.size w W) => h0.below hB (Nat.le_refl _)
  have hzs := fun W (hB : Below w.heap.size w W) => h2.below hB (Nat.le_refl _)
  unfold two at k1 k2
  unfold maxLen at hs
  have K1 := Lib.hid k1; have K2 := Lib.hid k2; have HY := Lib.hid hys; have HZ := Lib.hid hzs; clear k1 k2 h h0 h2 hys hzs
  rcases place_cases xs ys with hp | ⟨n, m, hp, -, hl1, hto1⟩
  · obtain ⟨hp1, -⟩ := hp
    have hp3 : ((place xs ys).2 != 0) = true := by simpa using hp1
    generalize place xs ys = pl at *
    obtain ⟨n, ep⟩ := pl
    clear hp1
    have hp4 : (ep != 0) = true := hp3
    generalize place xs zs = pz at *
    obtain ⟨n2, ep2⟩ := pz
    go_enter Try.func6, Try.ntmps6
    go_wp2_with fail
    refine (shown_any _).mono ?_
    rintro e w1 ⟨rfl, hB1⟩
    go_wp2_with fail
    refine (K1.out _ hB1).mono ?_
    rintro e w2 ⟨rfl, hb⟩
    have hB2 := bNext hb hB1
    clear hb hB1
    go_wp2_with fail
    refine (K2.out _ hB2).mono ?_
    rintro e w3 ⟨rfl, hb⟩
    have hB3 := bNext hb hB2
    clear hb hB2
    go_wp2_with fail
    go_ret
    exact ⟨ret_bool (by simp), hB3⟩
  · rcases place_cases xs zs with hq | ⟨n2, m2, hq, -, hl2, hto2⟩
    · obtain ⟨hp1, -⟩ := hq
      have hp3 : ((place xs zs).2 != 0) = true := by simpa using hp1
      rw [hp] at K1
      generalize place xs zs = pz at *
      obtain ⟨n2, ep⟩ := pz
      have hp4 : (ep != 0) = true := hp3
      clear hp1 hp hto1 hl1
      go_enter Try.func6, Try.ntmps6
      go_wp2_with fail
      refine (shown_any _).mono ?_
      rintro e w1 ⟨rfl, hB1⟩
      go_wp2_with fail
      refine (K1.out _ hB1).mono ?_
      rintro e w2 ⟨rfl, hb⟩
      have hB2 := bNext hb hB1
      clear hb hB1
      go_wp2_with fail
      refine (K2.out _ hB2).mono ?_
      rintro e w3 ⟨rfl, hb⟩
      have hB3 := bNext hb hB2
      clear hb hB2
      go_wp2_with fail
      go_ret
      exact ⟨ret_bool (by simp), hB3⟩
    · rw [hp] at K1
      rw [hq] at K2
      have hll : ((ys.length : Int) != (zs.length : Int)) = false := by simp; omega
      have Hl : Hid (ys.length = zs.length) := by unfold Hid; omega
      have Hr : Hid (∀ (k : Nat) (ha : k < ys.length) (hb : k < zs.length), ys.take k = zs.take k → ys[k] ≠ zs[k] → (n < n2 ↔ ys[k] < zs[k]) ∧ n ≠ n2) :=
        fun k ha hb ht hne => placeTo_rises xs ys zs 0 n n2 k ha hb hl1 hl2 (by omega) ht hto1 hto2 hne
      have He : Hid (ys = zs → n = n2) := fun e => by subst e; rw [hto1] at hto2; simpa using hto2
      clear hp hq hl1 hl2 hto1 hto2
      go_enter Try.func6, Try.ntmps6
      go_wp2_with fail
      refine (shown_any _).mono ?_
      rintro e w1 ⟨rfl, hB1⟩
      go_wp2_with fail
      refine (K1.out _ hB1).mono ?_
      rintro e w2 ⟨rfl, hb⟩
      have hB2 := bNext hb hB1
      clear hb hB1
      go_wp2_with fail
      refine (K2.out _ hB2).mono ?_
      rintro e w3 ⟨rfl, hb⟩
      have hB3 := bNext hb hB2
      clear hb hB2
      go_wp2_with fail
      go_loopw [12, 50] (fun _ i wr => ∃ (k nd : Nat), k ≤ ys.length ∧ i = .int .i64 k ∧ wr = w3.drewN nd ∧ ys.take k = zs.take k) (fun _ i _ => ys.length - (intOf i).toNat)
      case atStart => exact ⟨0, 0, Nat.zero_le _, rfl, rfl, rfl⟩
      case round =>
        obtain ⟨k, nd, hk, rfl, rfl, htk⟩ := hrel
        have Htk := Lib.hid htk; clear htk
        by_cases hlt : k < ys.length
        · have hlt2 : k < zs.length := Hl.out ▸ hlt
          obtain ⟨b0, off, rfl, hcell⟩ := (HY.out _ hB3) k hlt
          obtain ⟨b20, off2, rfl, hcell2⟩ := (HZ.out _ hB3) k hlt2
          have hz0 : (0 : Int) ≤ (k : Int) := by omega
          have hz1 : (k : Int) < (ys.length : Int) := by omega
          have hz2 : (k : Int) < (zs.length : Int) := by omega
          by_cases hne : ys[k] = zs[k]
          · have hne' : (ys[k] != zs[k]) = false := by simpa using hne
            have Hne := Lib.hid hne; clear hne
            go_wp2_with fail
            go_quiet (fail)
            go_wp2
            go_roundw
            case rel => exact ⟨k + 1, _, by omega, by go_num, rfl, take_eq_all Hl.out hlt Htk.out Hne.out⟩
            case measure => simp [intOf]; omega
          · have hne' : (ys[k] != zs[k]) = true := by simpa using hne
            obtain ⟨hr1, hr2⟩ := Hr.out k hlt hlt2 Htk.out hne
            have hr3 : (decide (n < n2) == decide (ys[k] < zs[k])) = true := by simp [hr1]
            have hr4 : (n != n2) = true := by simpa using hr2
            clear hr1 hr2 hne
            go_wp2_with fail
            go_quiet (fail)
            go_wp2_with fail
            go_quiet (fail)
            go_wp2
            go_ret
            exact ⟨ret_bool (by simp), (hB3.trans (Below.drewN _ _)).trans ((Below.drewN _ _).trans (Below.drewN _ _))⟩
        · have hyz : ys = zs := by
            have := Htk.out
            rwa [List.take_of_length_le (by omega), List.take_of_length_le (by rw [← Hl.out]; omega)] at this
          have hnn : (n == n2) = true := by simpa using He.out hyz
          have Hyz := Lib.hid hyz; clear hyz
          go_wp2
          go_ret
          exact ⟨ret_bool (by simp), hB3.trans (Below.drewN _ _)⟩

set_option maxRecDepth 100000 in
theorem ArrayRises_lifted (os : Os) (started : os.Started) (H : Type) (enc : TypeId × Value → H) :
    ReturnsInHanded {} Try.checked os 6 .any (Rows.arrayRisesSpec.pre6 enc Try.prog Try.f6 Rows.arrayRisesRow.domain false) (Rows.arrayRisesSpec.post enc Try.prog Try.f6 false true false false) := by
  refine returnsInHanded_of_change (C := Try.checked) own started (by kernel_rfl) Try.func6
    (ChangeSpec.witness6 (enc := enc) (C := Try.checked) false ⟨#[], #[.slice none 0 0, .slice none 0 0, .slice none 0 0], []⟩ 8 (by kernel_rfl) (by kernel_rfl) (by kernel_rfl) (by kernel_rfl)) ?_
  intro W base args ds gs before hval0 hW hcnd _
  have hval : ∀ (j : Nat) t v, Try.f6.params[j]? = some t → args[j]? = some v → Value.okWide Try.prog W .any base t v := hval0
  have hW' := hW
  obtain ⟨p, q, hA0, hV, rfl, hfz, hnd⟩ := hW
  have hA : DataW.TrodAll enc Try.prog W 0 (fun _ => true) true Try.f6.params.toList args.toList ds p := hA0
  rw [Try.params6] at hA hval
  obtain ⟨v0, vs0, d0, ds0, p0, q0, hargs, rfl, rfl, h0, r0⟩ := trodAll_cons hA
  obtain ⟨v1, vs1, d1, ds1, p1, q1, rfl, rfl, rfl, h1, r1⟩ := trodAll_cons r0
  obtain ⟨v2, vs2, d2, ds2, p2, q2, rfl, rfl, rfl, h2, r2⟩ := trodAll_cons r1
  obtain ⟨rfl, rfl, rfl⟩ := trodAll_nil r2
  obtain rfl : args = #[v0, v1, v2] := by cases args; simp_all
  obtain ⟨rfl, rfl⟩ := trodVars_none hV
  have k0 := h0
  have lt0 : ∀ x ∈ p0, x.block < W.heap.size := by obtain ⟨m, hm⟩ := k0; exact DataW.trod_lt m _ _ _ hm
  obtain ⟨xs0, s0⟩ := sl_of_Trod Try.underlying22 Try.underlying2 (by kernel_rfl) (hval 0 22 v0 rfl rfl) h0
  have k1 := h1
  have lt1 : ∀ x ∈ p1, x.block < W.heap.size := by obtain ⟨m, hm⟩ := k1; exact DataW.trod_lt m _ _ _ hm
  obtain ⟨xs1, s1⟩ := sl_of_Trod Try.underlying22 Try.underlying2 (by kernel_rfl) (hval 1 22 v1 rfl rfl) h1
  have k2 := h2
  have lt2 : ∀ x ∈ p2, x.block < W.heap.size := by obtain ⟨m, hm⟩ := k2; exact DataW.trod_lt m _ _ _ hm
  obtain ⟨xs2, s2⟩ := sl_of_Trod Try.underlying22 Try.underlying2 (by kernel_rfl) (hval 2 22 v2 rfl rfl) h2
  clear hA0 hval0
  refine (ArrayRises_walk W v0 xs0 v1 xs1 v2 xs2 s0 s1 s2).mono fun e W' ⟨he, bel⟩ => ?_
  subst he
  exact ⟨_, rfl, _, _, _, [], _, [], hW', trodAll_mk1 (shut_bool Try.underlying4 _), (trodAll_cons_mk (Below.trod laidOut (by kernel_rfl) (of_decide_eq_true (by kernel_rfl)) k0 bel lt0) (trodAll_cons_mk (Below.trod laidOut (by kernel_rfl) (of_decide_eq_true (by kernel_rfl)) k1 bel lt1) (trodAll_cons_mk (Below.trod laidOut (by kernel_rfl) (of_decide_eq_true (by kernel_rfl)) k2 bel lt2) trodAll_mk0))), rfl, bel.frame _, fun h => by cases h⟩

/-- The given statement. -/
theorem ArrayRises_holds : Rows.ArrayRisesSaid :=
  OpenClaim.holds_of_wide 6 Try.f6 rfl rfl rfl rfl rfl rfl rfl ⟨rfl, rfl, rfl, rfl, rfl⟩ rfl rfl rfl rfl rfl (by kernel_rfl) Try.func6 (by kernel_rfl)
    (of_decide_eq_true (by kernel_rfl)) (by unfold Func.isWrapper; rw [if_neg (by decide +kernel)]; exact ⟨rfl, rfl⟩)
    (fun os started H enc _ => ArrayRises_lifted os started H enc)
#print axioms ArrayRises_holds
end Go.Proofs.Ytbhhmfkipfedfaa
