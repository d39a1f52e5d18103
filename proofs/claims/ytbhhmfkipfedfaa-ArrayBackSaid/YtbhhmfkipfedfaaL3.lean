/-
  ArrayBack: for every sides, every index and every place the law returns true, and what was handed in reads as it did. No condition.
-/
import Derived.Test.YtbhhmfkipfedfaaShown
import Derived.Test.YtbhhmfkipfedfaaOpen
import Derived.Test.YtbhhmfkipfedfaaLaws
namespace Go.Proofs.Ytbhhmfkipfedfaa
open Go.ChangeShapes Go.WideShapes Go.ChangeAt Go.RowKit Go.Joins
set_option linter.unusedVariables false

theorem bNext {w W W2 : World} (hb : Below W.heap.size W W2) (hB : Below w.heap.size w W) : Below w.heap.size w W2 := hB.trans (hb.mono hB.size)

set_option maxRecDepth 100000 in
set_option maxHeartbeats 4000000 in
theorem ArrayBack_walk (w : World) (v0 : Value) (xs : List Int) (v1 : Value) (ys : List Int) (p : Int) (q0 : SlI .i64 w v0 xs) (q1 : SlI .i64 w v1 ys) (_ : (Lit.int .i64 p).wf = true) :
    Calls Try.prog 5 #[v0, v1, .int .i64 p] w fun e w' => e = .returned (.bool true) ∧ Below w.heap.size w w' := by
  obtain ⟨a, c, rfl, hm1, hm2, h, -⟩ := q0
  obtain ⟨b, d, rfl, hs1, hs2, h0, -⟩ := q1
  have hm := Nat.le_trans hm1 hm2
  have hs := Nat.le_trans hs1 hs2
  have k1 := fun W (hB : Below w.heap.size w W) => place_any W a b c d xs ys hm hs (h.below hB (Nat.le_refl _)) (h0.below hB (Nat.le_refl _))
  have k2 := fun W (hB : Below w.heap.size w W) => size_any W a c xs hm (h.below hB (Nat.le_refl _))
  have k3 := fun q W (hB : Below w.heap.size w W) => index_any W a c xs q hm (h.below hB (Nat.le_refl _))
  have k4 := fun W aa cc (zs : List Int) (hz : zs.length ≤ maxLen) (hB : Below w.heap.size w W) (hzz : IntsAt .i64 W aa zs) => place_any W a aa c cc xs zs hm hz (h.below hB (Nat.le_refl _)) hzz
  unfold two at k1 k2 k4
  have hys := fun W (hB : Below w.heap.size w W) => h0.below hB (Nat.le_refl _)
  have K1 := Lib.hid k1; have K2 := Lib.hid k2; have K3 := Lib.hid k3; have K4 := Lib.hid k4; have HYS := Lib.hid hys; clear k1 k2 k3 k4 h h0 hys
  by_cases hix : (index xs p).2 = 0
  · obtain ⟨i, hi⟩ : ∃ i, index xs p = (i, 0) := ⟨(index xs p).1, by rw [← hix]⟩
    obtain ⟨hpi, hil⟩ := index_place hi
    have hil' : ((i.length : Int) != (xs.length : Int)) = false := by simp [hil]
    have Hix := Lib.hid hi; have Hpi := Lib.hid hpi; clear hix hi hpi hil
    rcases place_cases xs ys with hpl | ⟨n, m, hpl, -, -, -⟩
    · have Hpl := Lib.hid hpl; clear hpl
      go_enter Try.func5, Try.ntmps5
      go_wp2_with fail
      refine (shown_any _).mono ?_
      rintro e w1 ⟨rfl, hB1⟩
      go_wp2_with fail
      refine (K3.out p _ hB1).mono ?_
      rintro e w2 ⟨⟨v, rfl, hv⟩, hb⟩
      have hB2 := bNext hb hB1
      clear hb hB1
      rw [Hix.out] at hv ⊢
      obtain ⟨av, cv, rfl, hvl, hvi⟩ := hv.slice
      have Hvi := Lib.hid hvi; clear hv hvi
      go_wp2_with fail
      refine (K4.out _ av cv i hvl hB2 Hvi.out).mono ?_
      rw [Hpi.out]
      rintro e w2' ⟨rfl, hb⟩
      have hB2' := bNext hb hB2
      clear hb hB2 Hvi
      go_wp2_with fail
      refine (K1.out _ hB2').mono ?_
      rintro e w3 ⟨rfl, hb⟩
      have hB3 := bNext hb hB2'
      clear hb hB2'
      generalize place xs ys = pl at *
      obtain ⟨n, ep⟩ := pl
      obtain ⟨hp1, hp2⟩ := Hpl.out
      have hp3 : (ep != 0) = true := by simpa using hp1
      obtain rfl : n = 0 := hp2
      go_wp2_with fail
      go_ret
      exact ⟨ret_bool (by simp), hB3⟩
    · obtain ⟨m', hsz, hin, hn0, hn1⟩ := place_index hpl
      have Hpl := Lib.hid hpl; have Hsz := Lib.hid hsz; have Hin := Lib.hid hin; clear hpl hsz hin
      go_enter Try.func5, Try.ntmps5
      go_wp2_with fail
      refine (shown_any _).mono ?_
      rintro e w1 ⟨rfl, hB1⟩
      go_wp2_with fail
      refine (K3.out p _ hB1).mono ?_
      rintro e w2 ⟨⟨v, rfl, hv⟩, hb⟩
      have hB2 := bNext hb hB1
      clear hb hB1
      rw [Hix.out] at hv ⊢
      obtain ⟨av, cv, rfl, hvl, hvi⟩ := hv.slice
      have Hvi := Lib.hid hvi; clear hv hvi
      go_wp2_with fail
      refine (K4.out _ av cv i hvl hB2 Hvi.out).mono ?_
      rw [Hpi.out]
      rintro e w2' ⟨rfl, hb⟩
      have hB2' := bNext hb hB2
      clear hb hB2 Hvi
      go_wp2_with fail
      refine (K1.out _ hB2').mono ?_
      rw [Hpl.out]
      rintro e w3 ⟨rfl, hb⟩
      have hB3 := bNext hb hB2'
      clear hb hB2'
      go_wp2_with fail
      refine (K3.out n _ hB3).mono ?_
      rw [Hin.out]
      rintro e w4 ⟨⟨v, rfl, hv⟩, hb⟩
      obtain ⟨au, cu, rfl, hul, hui⟩ := hv.slice
      have hB4 := bNext hb hB3
      have Hui := Lib.hid hui; clear hb hB3 hv hui
      go_wp2_with fail
      refine (K2.out _ hB4).mono ?_
      rw [Hsz.out]
      rintro e w5 ⟨rfl, hb⟩
      have hB5 := bNext hb hB4
      have Hui5 := Lib.hid (Hui.out.below hb (Nat.le_refl _))
      clear hb hB4 Hui
      go_wp2_with fail
      refine (ints_any _ au b cu d ys ys hul hs Hui5.out (HYS.out _ hB5)).mono ?_
      rintro e w6 ⟨he, n6, rfl⟩
      rw [show ints ys ys = true from by simp [ints]] at he
      subst he
      go_wp2_with fail
      go_ret
      exact ⟨ret_bool (by simp), hB5.trans (Below.drewN _ _)⟩
  · have hix' : ((index xs p).2 == 0) = false := by simpa using hix
    have Hix := Lib.hid hix'; clear hix hix'
    rcases place_cases xs ys with hpl | ⟨n, m, hpl, -, -, -⟩
    · have Hpl := Lib.hid hpl; clear hpl
      go_enter Try.func5, Try.ntmps5
      go_wp2_with fail
      refine (shown_any _).mono ?_
      rintro e w1 ⟨rfl, hB1⟩
      go_wp2_with fail
      refine (K3.out p _ hB1).mono ?_
      rintro e w2 ⟨⟨v, rfl, hv⟩, hb⟩
      have hB2 := bNext hb hB1
      clear hb hB1
      obtain ⟨av, cv, rfl, hvl, hvi⟩ := hv.slice
      clear hv hvi
      generalize index xs p = ix at *
      obtain ⟨i, er⟩ := ix
      have her : (er == 0) = false := Hix.out
      go_wp2_with fail
      refine (K1.out _ hB2).mono ?_
      rintro e w3 ⟨rfl, hb⟩
      have hB3 := bNext hb hB2
      clear hb hB2
      generalize place xs ys = pl at *
      obtain ⟨n, ep⟩ := pl
      obtain ⟨hp1, hp2⟩ := Hpl.out
      have hp3 : (ep != 0) = true := by simpa using hp1
      obtain rfl : n = 0 := hp2
      go_wp2_with fail
      go_ret
      exact ⟨ret_bool (by simp), hB3⟩
    · obtain ⟨m', hsz, hin, hn0, hn1⟩ := place_index hpl
      have Hpl := Lib.hid hpl; have Hsz := Lib.hid hsz; have Hin := Lib.hid hin; clear hpl hsz hin
      go_enter Try.func5, Try.ntmps5
      go_wp2_with fail
      refine (shown_any _).mono ?_
      rintro e w1 ⟨rfl, hB1⟩
      go_wp2_with fail
      refine (K3.out p _ hB1).mono ?_
      rintro e w2 ⟨⟨v, rfl, hv⟩, hb⟩
      have hB2 := bNext hb hB1
      clear hb hB1
      obtain ⟨av, cv, rfl, hvl, hvi⟩ := hv.slice
      clear hv hvi
      generalize index xs p = ix at *
      obtain ⟨i, er⟩ := ix
      have her : (er == 0) = false := Hix.out
      go_wp2_with fail
      refine (K1.out _ hB2).mono ?_
      rw [Hpl.out]
      rintro e w3 ⟨rfl, hb⟩
      have hB3 := bNext hb hB2
      clear hb hB2
      go_wp2_with fail
      refine (K3.out n _ hB3).mono ?_
      rw [Hin.out]
      rintro e w4 ⟨⟨v, rfl, hv⟩, hb⟩
      obtain ⟨au, cu, rfl, hul, hui⟩ := hv.slice
      have hB4 := bNext hb hB3
      have Hui := Lib.hid hui; clear hb hB3 hv hui
      go_wp2_with fail
      refine (K2.out _ hB4).mono ?_
      rw [Hsz.out]
      rintro e w5 ⟨rfl, hb⟩
      have hB5 := bNext hb hB4
      have Hui5 := Lib.hid (Hui.out.below hb (Nat.le_refl _))
      clear hb hB4 Hui
      go_wp2_with fail
      refine (ints_any _ au b cu d ys ys hul hs Hui5.out (HYS.out _ hB5)).mono ?_
      rintro e w6 ⟨he, n6, rfl⟩
      rw [show ints ys ys = true from by simp [ints]] at he
      subst he
      go_wp2_with fail
      go_ret
      exact ⟨ret_bool (by simp), hB5.trans (Below.drewN _ _)⟩

set_option maxRecDepth 100000 in
theorem ArrayBack_lifted (os : Os) (started : os.Started) (H : Type) (enc : TypeId × Value → H) :
    ReturnsInHanded {} Try.checked os 5 .any (Rows.arrayBackSpec.pre6 enc Try.prog Try.f5 Rows.arrayBackRow.domain false) (Rows.arrayBackSpec.post enc Try.prog Try.f5 false true false false) := by
  refine returnsInHanded_of_change (C := Try.checked) own started (by kernel_rfl) Try.func5
    (ChangeSpec.witness6 (enc := enc) (C := Try.checked) false ⟨#[], #[.slice none 0 0, .slice none 0 0, .int .i64 0], []⟩ 8 (by kernel_rfl) (by kernel_rfl) (by kernel_rfl) (by kernel_rfl)) ?_
  intro W base args ds gs before hval0 hW hcnd _
  have hval : ∀ (j : Nat) t v, Try.f5.params[j]? = some t → args[j]? = some v → Value.okWide Try.prog W .any base t v := hval0
  have hW' := hW
  obtain ⟨p, q, hA0, hV, rfl, hfz, hnd⟩ := hW
  have hA : DataW.TrodAll enc Try.prog W 0 (fun _ => true) true Try.f5.params.toList args.toList ds p := hA0
  rw [Try.params5] at hA hval
  obtain ⟨v0, vs0, d0, ds0, p0, q0, hargs, rfl, rfl, h0, r0⟩ := trodAll_cons hA
  obtain ⟨v1, vs1, d1, ds1, p1, q1, rfl, rfl, rfl, h1, r1⟩ := trodAll_cons r0
  obtain ⟨v2, vs2, d2, ds2, p2, q2, rfl, rfl, rfl, h2, r2⟩ := trodAll_cons r1
  obtain ⟨rfl, rfl, rfl⟩ := trodAll_nil r2
  obtain rfl : args = #[v0, v1, v2] := by cases args; simp_all
  obtain ⟨rfl, rfl⟩ := trodVars_none hV
  have k0 := h0
  have lt0 : ∀ x ∈ p0, x.block < W.heap.size := by obtain ⟨m, hm⟩ := k0; exact DataW.trod_lt m _ _ _ hm
  obtain ⟨xs0, s0⟩ := sl_of_Trod Try.underlying22 Try.underlying2 (by kernel_rfl) (hval 0 22 v0 rfl rfl) h0
  have k1 := h1
  have lt1 : ∀ x ∈ p1, x.block < W.heap.size := by obtain ⟨m, hm⟩ := k1; exact DataW.trod_lt m _ _ _ hm
  obtain ⟨xs1, s1⟩ := sl_of_Trod Try.underlying22 Try.underlying2 (by kernel_rfl) (hval 1 22 v1 rfl rfl) h1
  obtain ⟨a2, rfl, rfl, rfl, w2⟩ := open_int Try.underlying2 (hval 2 2 v2 rfl rfl) h2
  clear hA0 hval0
  refine (ArrayBack_walk W v0 xs0 v1 xs1 a2 s0 s1 w2).mono fun e W' ⟨he, bel⟩ => ?_
  subst he
  exact ⟨_, rfl, _, _, _, [], _, [], hW', trodAll_mk1 (shut_bool Try.underlying4 _), (trodAll_cons_mk (Below.trod laidOut (by kernel_rfl) (of_decide_eq_true (by kernel_rfl)) k0 bel lt0) (trodAll_cons_mk (Below.trod laidOut (by kernel_rfl) (of_decide_eq_true (by kernel_rfl)) k1 bel lt1) (trodAll_cons_mk (shut_int Try.underlying2 w2) trodAll_mk0))), rfl, bel.frame _, fun h => by cases h⟩

/-- The given statement. -/
theorem ArrayBack_holds : Rows.ArrayBackSaid :=
  OpenClaim.holds_of_wide 5 Try.f5 rfl rfl rfl rfl rfl rfl rfl ⟨rfl, rfl, rfl, rfl, rfl⟩ rfl rfl rfl rfl rfl (by kernel_rfl) Try.func5 (by kernel_rfl)
    (of_decide_eq_true (by kernel_rfl)) (by unfold Func.isWrapper; rw [if_neg (by decide +kernel)]; exact ⟨rfl, rfl⟩)
    (fun os started H enc _ => ArrayBack_lifted os started H enc)
#print axioms ArrayBack_holds
end Go.Proofs.Ytbhhmfkipfedfaa
