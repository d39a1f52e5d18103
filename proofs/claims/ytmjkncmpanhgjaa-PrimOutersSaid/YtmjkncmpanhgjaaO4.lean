/-
  PrimOuters: the law returns true for every input, and what was handed in reads as it did. No condition.
-/
import Derived.Test.YtmjkncmpanhgjaaPA23
namespace Go.Proofs.Ytmjkncmpanhgjaa
set_option maxRecDepth 100000
open Go.ChangeShapes Go.WideShapes Go.ChangeAt Go.RowKit Go.Joins
set_option linter.unusedVariables false
set_option linter.unusedSimpArgs false

set_option maxHeartbeats 8000000 in
theorem PrimOuters_walk (w : World) (f : Int) (va vb : Value) (s d : List Int) (vc vd : Value) (t e : List Int) (hf : (Lit.int .u8 f).wf = true) (hs : SlA w va s) (hd : SlA w vb d) (ht : SlA w vc t) (he : SlA w vd e) :
    Calls Try.prog 6 #[.int .u8 f, .agg #[va, vb], .agg #[vc, vd]] w fun e w' => e = .returned (.bool true) ∧ Below w.heap.size w w' := by
  have HS := Lib.hid hs; have HD := Lib.hid hd; have HT := Lib.hid ht; have HE := Lib.hid he
  obtain ⟨a0, c0, rfl, -⟩ := hs
  obtain ⟨a1, c1, rfl, -⟩ := hd
  obtain ⟨a2, c2, rfl, -⟩ := ht
  obtain ⟨a3, c3, rfl, -⟩ := he
  clear hf
  go_enter Try.func6, Try.ntmps6
  go_upto_region 1 with fail
  refine gen_worldA (fun W => BoxB w W (.slice a0 s.length c0) (.slice a1 d.length c1) (.slice a2 t.length c2) (.slice a3 e.length c3)) (BoxB.mk0 _ _ _ _ _) ?_
  rintro W hO
  have HO := Lib.hid hO
  clear hO
  go_wp2_with fail
  refine (shown_any _).mono ?_
  rintro e' W0 ⟨rfl, hb⟩
  have HO := Lib.hid (HO.out.next hb)
  clear hb
  obtain ⟨r0, HRR0⟩ : ∃ r, Hid (outerA f s d t e = r) := ⟨_, Lib.hid rfl⟩
  obtain ⟨⟨S0, D0⟩, E0⟩ := r0
  have hE0 : (E0 == E0) = true := by simp
  have x0 := HO.out.c0; have x1 := HO.out.c1; have x2 := HO.out.c2; have x3 := HO.out.c3
  have hq := po_any W0 f _ _ _ _ s d t e (HS.out.below HO.out.b) (HD.out.below HO.out.b) (HT.out.below HO.out.b) (HE.out.below HO.out.b)
  rw [HRR0.out] at hq
  have HQ := Lib.hid hq
  clear hq
  go_wp2_with fail
  refine HQ.out.mono ?_
  rintro e' X0 ⟨hr, hb⟩
  obtain ⟨n0, m0, p0, q0, u0, v0, rfl, hr2⟩ := ret_rr hr
  obtain ⟨b0, hb0⟩ : ∃ b, X0.heap.size = b := ⟨_, rfl⟩
  have hba : Below X0.heap.size X0 (X0.alloc (.cells #[.slice p0 n0 q0, .slice u0 m0 v0] 24)) := (Below.refl _ _).alloc (Nat.le_refl _) _
  have HO := Lib.hid ((HO.out.next hb).next hba)
  have K0 := Lib.hid (KR.new (c := q0) (c' := v0) hb0 hr2)
  clear HQ hr hr2 hb hba x0 x1 x2 x3
  go_upto_region 3 with fail
  refine gen_worldA (fun W => BoxB w W (.slice a0 s.length c0) (.slice a1 d.length c1) (.slice a2 t.length c2) (.slice a3 e.length c3) ∧ KR W b0 n0 m0 p0 q0 u0 v0 S0 D0) ⟨HO.out, K0.out⟩ ?_
  rintro W1 ⟨hO, k0⟩
  clear HO K0 hb0
  have HO := Lib.hid hO; have K0 := Lib.hid k0
  clear hO k0
  have x0 := HO.out.c0; have x1 := HO.out.c1; have x2 := HO.out.c2; have x3 := HO.out.c3
  have hq := ro_any W1 f _ _ _ _ s d t e (HS.out.below HO.out.b) (HD.out.below HO.out.b) (HT.out.below HO.out.b) (HE.out.below HO.out.b)
  rw [HRR0.out] at hq
  have HQ := Lib.hid hq
  clear hq
  go_wp2_with fail
  refine HQ.out.mono ?_
  rintro e' X1 ⟨hr, hb⟩
  obtain ⟨n1, m1, p1, q1, u1, v1, rfl, hr2⟩ := ret_rr hr
  obtain ⟨b1, hb1⟩ : ∃ b, X1.heap.size = b := ⟨_, rfl⟩
  have hba : Below X1.heap.size X1 (X1.alloc (.cells #[.slice p1 n1 q1, .slice u1 m1 v1] 24)) := (Below.refl _ _).alloc (Nat.le_refl _) _
  have HO := Lib.hid ((HO.out.next hb).next hba)
  have K0 := Lib.hid ((K0.out.next hb).next hba)
  have K1 := Lib.hid (KR.new (c := q1) (c' := v1) hb1 hr2)
  clear HQ hr hr2 hb hba x0 x1 x2 x3
  go_upto_region 4 with fail
  refine gen_worldA (fun W => BoxB w W (.slice a0 s.length c0) (.slice a1 d.length c1) (.slice a2 t.length c2) (.slice a3 e.length c3) ∧ KR W b0 n0 m0 p0 q0 u0 v0 S0 D0 ∧ KR W b1 n1 m1 p1 q1 u1 v1 S0 D0) ⟨HO.out, K0.out, K1.out⟩ ?_
  rintro W2 ⟨hO, k0, k1⟩
  clear HO K0 K1 hb1
  have HO := Lib.hid hO; have K0 := Lib.hid k0; have K1 := Lib.hid k1
  clear hO k0 k1
  have y0 := K0.out.c0; have y1 := K0.out.c1; have y2 := K1.out.c0; have y3 := K1.out.c1
  go_wp2_with fail
  refine (same_rt K0.out.r K1.out.r).mono ?_
  rintro e' Z0 ⟨rfl, hb⟩
  have HO := Lib.hid (HO.out.next hb)
  have K0 := Lib.hid (K0.out.next hb)
  have K1 := Lib.hid (K1.out.next hb)
  clear hb y0 y1 y2 y3
  go_wp2_with fail
  go_ret
  exact ⟨rfl, HO.out.b⟩

set_option maxRecDepth 100000 in
theorem PrimOuters_lifted (os : Os) (started : os.Started) (H : Type) (enc : TypeId × Value → H) :
    ReturnsInHanded {} Try.checked os 6 .any (Rows.primOutersSpec.pre6 enc Try.prog Try.f6 Rows.primOutersRow.domain false) (Rows.primOutersSpec.post enc Try.prog Try.f6 false true false false) := by
  refine returnsInHanded_of_change (C := Try.checked) own started (by kernel_rfl) Try.func6
    (ChangeSpec.witness6 (enc := enc) (C := Try.checked) false ⟨#[], #[.int .u8 0, .agg #[.slice none 0 0, .slice none 0 0], .agg #[.slice none 0 0, .slice none 0 0]], []⟩ 8 (by kernel_rfl) (by kernel_rfl) (by kernel_rfl) (by kernel_rfl)) ?_
  intro W base args ds gs before hval0 hW hcnd _
  have hval : ∀ (j : Nat) t v, Try.f6.params[j]? = some t → args[j]? = some v → Value.okWide Try.prog W .any base t v := hval0
  have hW' := hW
  obtain ⟨p, q, hA0, hV, rfl, hfz, hnd⟩ := hW
  have hA : DataW.TrodAll enc Try.prog W 0 (fun _ => true) true Try.f6.params.toList args.toList ds p := hA0
  rw [Try.params6] at hA hval
  obtain ⟨v0, vs0, d0, ds0, p0, q0, hargs, rfl, rfl, h0, r0⟩ := trodAll_cons hA
  obtain ⟨v1, vs1, d1, ds1, p1, q1, rfl, rfl, rfl, h1, r1⟩ := trodAll_cons r0
  obtain ⟨v2, vs2, d2, ds2, p2, q2, rfl, rfl, rfl, h2, r2⟩ := trodAll_cons r1
  obtain ⟨rfl, rfl, rfl⟩ := trodAll_nil r2
  obtain rfl : args = #[v0, v1, v2] := by cases args; simp_all
  obtain ⟨rfl, rfl⟩ := trodVars_none hV
  obtain ⟨a0, rfl, rfl, rfl, w0⟩ := open_int Try.underlying5 (hval 0 5 v0 rfl rfl) h0
  have k1 := h1
  have lt1 : ∀ x ∈ p1, x.block < W.heap.size := by obtain ⟨m, hm⟩ := k1; exact DataW.trod_lt m _ _ _ hm
  obtain ⟨xs1, ys1, va1, vb1, rfl, s1, u1⟩ := open_arrA (hval 1 24 v1 rfl rfl) h1
  have k2 := h2
  have lt2 : ∀ x ∈ p2, x.block < W.heap.size := by obtain ⟨m, hm⟩ := k2; exact DataW.trod_lt m _ _ _ hm
  obtain ⟨xs2, ys2, va2, vb2, rfl, s2, u2⟩ := open_arrA (hval 2 24 v2 rfl rfl) h2
  clear hA0 hval0
  refine (PrimOuters_walk W a0 va1 vb1 xs1 ys1 va2 vb2 xs2 ys2 w0 s1 u1 s2 u2).mono fun e W' ⟨he, bel⟩ => ?_
  subst he
  exact ⟨_, rfl, _, _, _, [], _, [], hW', trodAll_mk1 (shut_bool Try.underlying4 _), (trodAll_cons_mk (shut_int Try.underlying5 w0) (trodAll_cons_mk (Below.trod laidOut (by kernel_rfl) (of_decide_eq_true (by kernel_rfl)) k1 bel lt1) (trodAll_cons_mk (Below.trod laidOut (by kernel_rfl) (of_decide_eq_true (by kernel_rfl)) k2 bel lt2) trodAll_mk0))), rfl, bel.frame _, fun h => by cases h⟩

/-- The given statement. -/
theorem PrimOuters_holds : Rows.PrimOutersSaid :=
  OpenClaim.holds_of_wide 6 Try.f6 rfl rfl rfl rfl rfl rfl rfl ⟨rfl, rfl, rfl, rfl, rfl⟩ rfl rfl rfl rfl rfl (by kernel_rfl) Try.func6 (by kernel_rfl)
    (of_decide_eq_true (by kernel_rfl)) (by unfold Func.isWrapper; rw [if_neg (by decide +kernel)]; exact ⟨rfl, rfl⟩)
    (fun os started H enc _ => PrimOuters_lifted os started H enc)
#print axioms PrimOuters_holds
end Go.Proofs.Ytmjkncmpanhgjaa
