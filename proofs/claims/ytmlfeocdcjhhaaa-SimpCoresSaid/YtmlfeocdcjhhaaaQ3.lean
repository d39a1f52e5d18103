/-
  SimpCores: the law returns true for every input, and what was handed in reads as it did. No condition.
-/
import Derived.Test.YtmlfeocdcjhhaaaPG34
namespace Go.Proofs.Ytmlfeocdcjhhaaa
set_option maxRecDepth 100000
open Go.ChangeShapes Go.WideShapes Go.ChangeAt Go.RowKit Go.Joins
set_option linter.unusedVariables false
set_option linter.unusedSimpArgs false

set_option maxHeartbeats 16000000 in
theorem SimpCores_walk (w : World) (c : Cor) (vb vs vo : Value) (q : CorAt w vb vs vo c) :
    Calls Try.prog 4 #[.agg #[.int .i64 c.vars, vb, vs, vo]] w fun e w' => e = .returned (.bool true) ∧ Below w.heap.size w w' := by
  obtain ⟨ba, bc, sa, sc, oa, oc, rfl, rfl, rfl, -, -, -⟩ := q.els
  have HQ1 := Lib.hid (fun W hb => score_any W c _ _ _ (q.below (w' := W) hb)); have HQ2 := Lib.hid (fun W hb => rcore_any W c _ _ _ (q.below (w' := W) hb))
  unfold CV at HQ1 HQ2
  have X0 := Lib.hid (CB.new (Below.refl w.heap.size w) c.vars (.slice ba c.bufs.length bc) (.slice sa c.steps.length sc) (.slice oa c.outs.length oc))
  generalize coreR c = r at HQ1 HQ2
  clear q
  go_enter Try.func4, Try.ntmps4
  go_upto_region 1 with fail
  refine gen_worldA (fun W => CB w W w.heap.size c.vars (.slice ba c.bufs.length bc) (.slice sa c.steps.length sc) (.slice oa c.outs.length oc)) X0.out ?_
  clear X0
  intro W1 hx
  have X := Lib.hid hx
  clear hx
  go_wp2_with fail
  refine (shown_any _).mono ?_
  rintro e W2 ⟨rfl, hb⟩
  have X := Lib.hid (X.out.next hb)
  have x0 := X.out.c0; have x1 := X.out.c1; have x2 := X.out.c2; have x3 := X.out.c3
  have HK := Lib.hid (HQ1.out W2 X.out.below)
  clear hb HQ1
  go_wp2_with fail
  refine HK.out.mono ?_
  rintro e W3 ⟨⟨b1, s1, o1, rfl, hk⟩, hb⟩
  obtain ⟨ba1, bc1, sa1, sc1, oa1, oc1, rfl, rfl, rfl, -, -, -⟩ := hk.els
  obtain ⟨n1, hn1⟩ : ∃ n, r.1.bufs.length = n := ⟨_, rfl⟩; obtain ⟨n2, hn2⟩ : ∃ n, r.1.steps.length = n := ⟨_, rfl⟩; obtain ⟨n3, hn3⟩ : ∃ n, r.1.outs.length = n := ⟨_, rfl⟩
  unfold CV
  rw [hn1, hn2, hn3] at hk ⊢
  have X := Lib.hid (X.out.next hb)
  obtain ⟨z4, hz4⟩ : ∃ b, W3.heap.size = b := ⟨_, rfl⟩
  have h4 := CB.new (w := w) X.out.below r.1.vars (.slice ba1 n1 bc1) (.slice sa1 n2 sc1) (.slice oa1 n3 oc1)
  rw [hz4] at h4
  have hba : Below W3.heap.size W3 (W3.alloc (.cells #[.int .i64 r.1.vars, .slice ba1 n1 bc1, .slice sa1 n2 sc1, .slice oa1 n3 oc1] 33)) := (Below.refl _ _).alloc (Nat.le_refl _) _
  have X := Lib.hid (X.out.next hba); have X4 := Lib.hid h4; have K1 := Lib.hid (hk.below hba)
  clear HK hb hk hba h4 hn1 hn2 hn3 x0 x1 x2 x3
  go_upto_region 3 with fail
  refine gen_worldA (fun W => CB w W w.heap.size c.vars (.slice ba c.bufs.length bc) (.slice sa c.steps.length sc) (.slice oa c.outs.length oc) ∧ CB w W z4 r.1.vars (.slice ba1 n1 bc1) (.slice sa1 n2 sc1) (.slice oa1 n3 oc1) ∧ CorAt W (.slice ba1 n1 bc1) (.slice sa1 n2 sc1) (.slice oa1 n3 oc1) r.1) ⟨X.out, X4.out, K1.out⟩ ?_
  clear hz4
  clear X X4 K1
  rintro W4 ⟨hx, h4, hk⟩
  have X := Lib.hid hx; have X4 := Lib.hid h4; have K1 := Lib.hid hk
  have x0 := hx.c0; have x1 := hx.c1; have x2 := hx.c2; have x3 := hx.c3
  have HK := Lib.hid (HQ2.out W4 hx.below)
  clear hx h4 hk HQ2
  go_wp2_with fail
  refine HK.out.mono ?_
  rintro e W5 ⟨⟨b1, s1, o1, rfl, hk⟩, hb⟩
  obtain ⟨ba2, bc2, sa2, sc2, oa2, oc2, rfl, rfl, rfl, -, -, -⟩ := hk.els
  obtain ⟨m1, hm1⟩ : ∃ n, r.1.bufs.length = n := ⟨_, rfl⟩; obtain ⟨m2, hm2⟩ : ∃ n, r.1.steps.length = n := ⟨_, rfl⟩; obtain ⟨m3, hm3⟩ : ∃ n, r.1.outs.length = n := ⟨_, rfl⟩
  unfold CV
  rw [hm1, hm2, hm3] at hk ⊢
  have X := Lib.hid (X.out.next hb); have X4 := Lib.hid (X4.out.next hb); have K1 := Lib.hid (K1.out.below hb)
  obtain ⟨z6, hz6⟩ : ∃ b, W5.heap.size = b := ⟨_, rfl⟩
  have h6 := CB.new (w := w) X.out.below r.1.vars (.slice ba2 m1 bc2) (.slice sa2 m2 sc2) (.slice oa2 m3 oc2)
  rw [hz6] at h6
  have hba : Below W5.heap.size W5 (W5.alloc (.cells #[.int .i64 r.1.vars, .slice ba2 m1 bc2, .slice sa2 m2 sc2, .slice oa2 m3 oc2] 33)) := (Below.refl _ _).alloc (Nat.le_refl _) _
  have X4 := Lib.hid (X4.out.next hba); have X6 := Lib.hid h6; have K1 := Lib.hid (K1.out.below hba); have K2 := Lib.hid (hk.below hba)
  clear HK hb hk hba h6 hm1 hm2 hm3 x0 x1 x2 x3 X
  go_upto_region 4 with fail
  refine gen_worldA (fun W => CB w W z4 r.1.vars (.slice ba1 n1 bc1) (.slice sa1 n2 sc1) (.slice oa1 n3 oc1) ∧ CB w W z6 r.1.vars (.slice ba2 m1 bc2) (.slice sa2 m2 sc2) (.slice oa2 m3 oc2) ∧ CorAt W (.slice ba1 n1 bc1) (.slice sa1 n2 sc1) (.slice oa1 n3 oc1) r.1 ∧ CorAt W (.slice ba2 m1 bc2) (.slice sa2 m2 sc2) (.slice oa2 m3 oc2) r.1) ⟨X4.out, X6.out, K1.out, K2.out⟩ ?_
  clear hz6
  clear X4 X6 K1 K2
  rintro W6 ⟨h4, h6, hk1, hk2⟩
  have x0 := h4.c0; have x1 := h4.c1; have x2 := h4.c2; have x3 := h4.c3
  have y0 := h6.c0; have y1 := h6.c1; have y2 := h6.c2; have y3 := h6.c3
  have hq := rsame11_eq W6 r.1 _ _ _ _ _ _ hk1 hk2
  unfold CV at hq
  have HQ := Lib.hid hq; have HB := Lib.hid h4.below
  have heq : (r.2 == r.2) = true := by simp
  clear h4 h6 hk1 hk2 hq
  go_wp2_with fail
  refine HQ.out.mono ?_
  rintro e W7 ⟨rfl, hb⟩
  have HB := Lib.hid (bNext hb HB.out)
  clear hb
  go_wp2_with fail
  go_ret
  exact ⟨ret_bool (by simp), HB.out⟩

set_option maxRecDepth 100000 in
theorem SimpCores_lifted (os : Os) (started : os.Started) (H : Type) (enc : TypeId × Value → H) :
    ReturnsInHanded {} Try.checked os 4 .any (Rows.simpCoresSpec.pre6 enc Try.prog Try.f4 Rows.simpCoresRow.domain false) (Rows.simpCoresSpec.post enc Try.prog Try.f4 false true false false) := by
  refine returnsInHanded_of_change (C := Try.checked) own started (by kernel_rfl) Try.func4
    (ChangeSpec.witness6 (enc := enc) (C := Try.checked) false ⟨#[], #[.agg #[.int .i64 0, .slice none 0 0, .slice none 0 0, .slice none 0 0]], []⟩ 8 (by kernel_rfl) (by kernel_rfl) (by kernel_rfl) (by kernel_rfl)) ?_
  intro W base args ds gs before hval0 hW hcnd _
  have hval : ∀ (j : Nat) t v, Try.f4.params[j]? = some t → args[j]? = some v → Value.okWide Try.prog W .any base t v := hval0
  have hW' := hW
  obtain ⟨p, q, hA0, hV, rfl, hfz, hnd⟩ := hW
  have hA : DataW.TrodAll enc Try.prog W 0 (fun _ => true) true Try.f4.params.toList args.toList ds p := hA0
  rw [Try.params4] at hA hval
  obtain ⟨v0, vs0, d0, ds0, p0, q0, hargs, rfl, rfl, h0, r0⟩ := trodAll_cons hA
  obtain ⟨rfl, rfl, rfl⟩ := trodAll_nil r0
  obtain rfl : args = #[v0] := by cases args; simp_all
  obtain ⟨rfl, rfl⟩ := trodVars_none hV
  have k0 := h0
  have lt0 : ∀ x ∈ p0, x.block < W.heap.size := by obtain ⟨m, hm⟩ := k0; exact DataW.trod_lt m _ _ _ hm
  obtain ⟨c0, vb0, vs0', vo0, rfl, s0⟩ := open_core (hval 0 33 v0 rfl rfl) h0
  clear hA0 hval0
  refine (SimpCores_walk W c0 vb0 vs0' vo0 s0).mono fun e W' ⟨he, bel⟩ => ?_
  subst he
  exact ⟨_, rfl, _, _, _, [], _, [], hW', trodAll_mk1 (shut_bool Try.underlying4 _), (trodAll_cons_mk (Below.trod laidOut (by kernel_rfl) (of_decide_eq_true (by kernel_rfl)) k0 bel lt0) trodAll_mk0), rfl, bel.frame _, fun h => by cases h⟩

/-- The given statement. -/
theorem SimpCores_holds : Rows.SimpCoresSaid :=
  OpenClaim.holds_of_wide 4 Try.f4 rfl rfl rfl rfl rfl rfl rfl ⟨rfl, rfl, rfl, rfl, rfl⟩ rfl rfl rfl rfl rfl (by kernel_rfl) Try.func4 (by kernel_rfl)
    (of_decide_eq_true (by kernel_rfl)) (by unfold Func.isWrapper; rw [if_neg (by decide +kernel)]; exact ⟨rfl, rfl⟩)
    (fun os started H enc _ => SimpCores_lifted os started H enc)
#print axioms SimpCores_holds
end Go.Proofs.Ytmlfeocdcjhhaaa
