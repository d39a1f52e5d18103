/-
  CoreGrows: the law returns true for every input, and what was handed in reads as it did. No condition.
-/
import Derived.Test.YtabodlhlanolcaaA34
namespace Go.Proofs.Ytabodlhlanolcaa
set_option maxRecDepth 100000
open Go.ChangeShapes Go.WideShapes Go.ChangeAt Go.RowKit Go.Joins
set_option linter.unusedVariables false
set_option linter.unusedSimpArgs false

set_option maxRecDepth 100000 in
set_option maxHeartbeats 16000000 in
theorem CoreGrows_walk (w : World) (c : Cor) (vb vs vo : Value) (v1 : Value) (D : List Int) (side : Int) (q : CorAt w vb vs vo c) (q1 : (Rep.int .i64).Sl w v1 D) (ws : (Lit.int .i64 side).wf = true) :
    Calls Try.prog 6 #[.agg #[.int .i64 c.vars, vb, vs, vo], v1, .int .i64 side] w fun e w' => e = .returned (.bool true) ∧ Below w.heap.size w w' := by
  obtain ⟨ba, bc, sa, sc, oa, oc, rfl, rfl, rfl, he, hsc, hba⟩ := q.els
  obtain ⟨cs, hcs, hsrc⟩ := he.be.cs (R := bufRep) (by decide) rfl hba
  obtain ⟨vars, bufs, steps, outs⟩ := c
  dsimp only at he hsc hcs hsrc ⊢
  obtain ⟨ad, cd, rfl, d1, d2, -, -⟩ := id q1
  have hld : D.length ≤ 9223372036854775807 := by unfold maxLen at d2; omega
  have HD := Lib.hid (int_at q1).2
  have HS := Lib.hid (bounds_i64 ws)
  clear d1 d2 q1 ws
  obtain ⟨i0, hi, hz0, hz1, hz2⟩ := info_parts Try.infoBuf
  have Hi := Lib.hid hi; have Hz0 := Lib.hid hz0; have Hz1 := Lib.hid hz1; have Hz2 := Lib.hid hz2; clear hi hz0 hz1 hz2
  have HE := Lib.hid he; have HCS := Lib.hid hcs; have HSRC := Lib.hid hsrc
  have HN := Lib.hid (CB.new (Below.refl w.heap.size w) vars (.slice ba bufs.length bc) (.slice sa steps.length sc) (.slice oa outs.length oc))
  obtain ⟨xb, hxb⟩ : ∃ xb, w.heap.size = xb := ⟨_, rfl⟩
  have HXB := Lib.hid hxb
  clear he q hcs hsrc hba
  go_enter Try.func6, Try.ntmps6
  go_upto_region 1 with fail
  rw [hxb] at HN
  refine gen_worldA (fun W => CB w W xb vars (.slice ba bufs.length bc) (.slice sa steps.length sc) (.slice oa outs.length oc)) HN.out ?_
  clear HN hxb
  intro W hin
  have HIN := Lib.hid hin
  clear hin
  go_wp2_with fail
  refine (shown_any _).mono ?_
  rintro e w1 ⟨rfl, hb1⟩
  have HIN1 := Lib.hid (HIN.out.next hb1)
  obtain ⟨hbW, x0, x1, x2, x3, hxx⟩ := HIN1.out.rg
  have hq := ccells_any w1 ⟨vars, bufs, steps, outs⟩ ba sa oa bc sc oc (HE.out.below hbW) ad cd D (HD.out.below hbW (Nat.le_refl _)) hld
  have hz := @cells_zero ⟨vars, bufs, steps, outs⟩ D
  have hpush := fun n side => @cells_push ⟨vars, bufs, steps, outs⟩ D n side
  unfold corV two at hq
  dsimp only at hq hpush
  generalize cellsS ⟨vars, bufs, steps, outs⟩ D = p at hq hz hpush
  obtain ⟨n, er⟩ := p
  dsimp only at hq hz
  have HQ := Lib.hid hq; have HP := Lib.hid hpush
  clear hb1 HIN hbW hq hpush
  go_wp2_with fail
  refine HQ.out.mono ?_
  rintro e w2 ⟨rfl, hb2⟩
  have HIN2 := Lib.hid (HIN1.out.next hb2)
  clear x0 x1 x2 x3 hxx hb2 HIN1 HQ
  obtain ⟨hbW, x0, x1, x2, x3, hxx⟩ := HIN2.out.rg
  have HBW2 := Lib.hid hbW
  by_cases h0 : er = 0
  · subst h0
    clear hz
    by_cases hl : bufs.length < 1024
    · have l1 : decide ((1024 : Int) ≤ (bufs.length : Int)) = false := by simp; omega
      have hlI : ¬ (1024 : Int) ≤ (bufs.length : Int) := by omega
      by_cases s0 : side < 1
      · have s0' : decide (side < 1) = true := by simpa using s0
        clear hbW
        go_wp2_with fail
        go_ret
        exact ⟨ret_bool (by simp), HBW2.out⟩
      · have s0' : decide (side < 1) = false := by simpa using s0
        by_cases s1 : 65536 < side
        · have s1' : decide (65536 < side) = true := by simpa using s1
          clear hbW
          go_wp2_with fail
          go_ret
          exact ⟨ret_bool (by simp), HBW2.out⟩
        · have s1' : decide (65536 < side) = false := by simpa using s1
          have HPU := Lib.hid (HP.out n side rfl hl (by omega) (by omega))
          have HSB := Lib.hid (show 1 ≤ side ∧ side ≤ 65536 from ⟨by omega, by omega⟩)
          clear HP
          obtain ⟨mb, hmb⟩ : ∃ mb, w2.heap.size = mb := ⟨_, rfl⟩
          have HM2 := Lib.hid (show CB w (w2.alloc (.cells #[.int .i64 vars, .slice ba bufs.length bc, .slice sa steps.length sc, .slice oa outs.length oc] 26)) mb vars (.slice ba bufs.length bc) (.slice sa steps.length sc) (.slice oa outs.length oc) by rw [← hmb]; exact CB.new HIN2.out.below _ _ _ _)
          have HX2 := Lib.hid (show CB w (w2.alloc (.cells #[.int .i64 vars, .slice ba bufs.length bc, .slice sa steps.length sc, .slice oa outs.length oc] 26)) xb vars (.slice ba bufs.length bc) (.slice sa steps.length sc) (.slice oa outs.length oc) from HIN2.out.next ((Below.refl _ _).alloc (Nat.le_refl _) _))
          have HXM := Lib.hid (show xb < mb ∧ w.heap.size ≤ xb ∧ w.heap.size ≤ mb from ⟨by omega, by rw [HXB.out]; exact Nat.le_refl _, by have := hbW.size; omega⟩)
          clear hbW HIN2
          go_upto_region 6 with fail
          refine gen_worldA (fun W => CB w W mb vars (.slice ba bufs.length bc) (.slice sa steps.length sc) (.slice oa outs.length oc) ∧ CB w W xb vars (.slice ba bufs.length bc) (.slice sa steps.length sc) (.slice oa outs.length oc)) ⟨HM2.out, HX2.out⟩ ?_
          clear HM2 HX2 x0 x1 x2 x3 hxx hmb l1 hlI s0' s1' s0 s1 HBW2
          rintro W5 ⟨hm5, hx5⟩
          have HM5 := Lib.hid hm5; have HX5 := Lib.hid hx5
          clear hm5 hx5
          obtain ⟨hbW, x0, x1, x2, x3, hxx⟩ := HX5.out.rg
          have hmW : mb < W5.heap.size := HM5.out.rg.hx
          have HBW := Lib.hid hbW
          clear hbW
          go_wp2_with (at_builtin; (refine wpList_append_src _ rfl _ _ 22 rfl W5.heap.size 36 i0 _ 2 32 Try.underlying22 Hi.out Hz0.out Hz1.out Hz2.out rfl (by decide) _ 0 [] rfl (World.ownsRow_lit W5 #[] 0 (Nat.le_refl _) (Nat.zero_le _) rfl) _ bufs.length cs rfl (HSRC.out.below (HBW.out.alloc HBW.out.size _)) HCS.out.len HCS.out.one (by unfold maxLen; omega) (by omega) (by simp) ?_))
          intro v1 w6 hown hg _
          have hb6 : Below W5.heap.size W5 w6 := ((Below.refl _ _).alloc (Nat.le_refl _) _).grown hg (by simp) (fun j hj => by cases hj; exact Nat.le_refl _)
          have HOWN := Lib.hid hown; have HB6 := Lib.hid hb6
          clear hown hg hb6
          go_wp2_with (at_builtin; (refine wpList_append_src _ rfl _ _ 22 rfl W5.heap.size 36 i0 _ 2 32 Try.underlying22 Hi.out Hz0.out Hz1.out Hz2.out rfl (by decide) _ bufs.length cs rfl (((HOWN.out.alloc _).alloc _).alloc _) _ 1 [.slice (some ⟨w6.heap.size + 1, 0, none⟩) 1 1, .int .i64 (-1)] rfl (src_lit _ _ _ _ _ _ (by simp) rfl) rfl ?h1 (by unfold maxLen; omega) (by omega) (by have := HB6.out.size; simp; omega) ?_))
          case h1 => intro u hu; simp at hu; rcases hu with rfl | rfl <;> rfl
          intro v2 w7 hown hg _
          obtain ⟨hb7, a2, c2, rfl, hels'⟩ := grow_more HBW.out hmW HXM.out.2.2 HCS.out HB6.out HOWN.out rfl HS.out _ hg hown
          have hm7 := HM5.out.next hb7; have hx7 := HX5.out.next hb7
          have HEL := Lib.hid hels'
          have HM7 := Lib.hid (hm7.put1 HXM.out.2.2 (.slice a2 (bufs.length + 1) c2))
          have m1 := hm7.rg.c1; have f1 := hm7.fr 1
          clear hels' hm7 hx7 hown hg hb7 HM5 HX5 x0 x1 x2 x3 HOWN
          go_upto_region 7 with fail
          refine gen_worldA (fun W => CB w W mb vars (.slice a2 (bufs.length + 1) c2) (.slice sa steps.length sc) (.slice oa outs.length oc) ∧ bufRep.Els W a2 (bufs ++ [⟨[[monoC side]], -1⟩])) ⟨HM7.out, HEL.out⟩ ?_
          clear HM7 HEL m1 f1
          rintro W8 ⟨hm8, he8⟩
          have HM8 := Lib.hid hm8
          have hq : Calls Try.prog 12 #[.agg #[.int .i64 vars, .slice a2 (bufs.length + 1) c2, .slice sa steps.length sc, .slice oa outs.length oc], .slice ad D.length cd] W8 fun e w' => e = two (if 1048576 < n + side then (0, 102) else (n + side, 0)) ∧ Below W8.heap.size W8 w' := by
            have h1 := HE.out.below hm8.below
            have := ccells_any W8 ⟨vars, bufs ++ [⟨[[monoC side]], -1⟩], steps, outs⟩ a2 sa oa c2 sc oc ⟨he8, by simp; omega, h1.se, h1.sl, h1.oe, h1.ol⟩ ad cd D (HD.out.below hm8.below (Nat.le_refl _)) hld
            rw [HPU.out] at this
            unfold corV at this
            dsimp only at this
            rw [List.length_append] at this
            exact this
          have HSB' := HSB.out
          obtain ⟨-, m0, m1, m2, m3, -⟩ := HM8.out.rg
          clear hm8 he8
          by_cases hbig : 1048576 < n + side
          · rw [if_pos hbig] at hq
            unfold two at hq
            have HQ := Lib.hid hq
            have g1 : decide (1048576 - side < n) = true := by simp; omega
            have g2 : 1048576 - side < n := by omega
            clear hq hbig
            go_wp2_with fail
            refine HQ.out.mono ?_
            rintro e w9 ⟨rfl, hb9⟩
            have HB9 := Lib.hid (HM8.out.next hb9).below
            clear m0 m1 m2 m3 hb9 HQ HM8
            go_wp2_with fail
            go_ret
            exact ⟨ret_bool (by simp), HB9.out⟩
          · rw [if_neg hbig] at hq
            unfold two at hq
            have HQ := Lib.hid hq
            have g1 : decide (1048576 - side < n) = false := by simp; omega
            have g2 : n ≤ 1048576 - side := by omega
            have g3 : wrap64 (n + side - n) = side := by rw [show n + side - n = side from by omega]; unfold wrap64; omega
            have G3 := Lib.hid g3
            clear hq hbig g3
            go_wp2_with fail
            refine HQ.out.mono ?_
            rintro e w9 ⟨rfl, hb9⟩
            have HB9 := Lib.hid (HM8.out.next hb9).below
            clear m0 m1 m2 m3 hb9 HQ HM8
            go_wp2_with fail
            go_ret
            exact ⟨ret_bool (by simp; omega), HB9.out⟩
    · have l1 : decide ((1024 : Int) ≤ (bufs.length : Int)) = true := by simp; omega
      have l1' : (1024 : Int) ≤ (bufs.length : Int) := by omega
      clear hbW
      go_wp2_with fail
      go_ret
      exact ⟨ret_bool (by simp), HBW2.out⟩
  · have hn0 : n = 0 := hz h0
    subst hn0
    have h0' : (er == 0) = false := by rw [beq_eq_false_iff_ne]; exact h0
    have h0'' : (er != 0) = true := by simpa using h0
    clear hz hbW
    go_wp2_with fail
    go_ret
    exact ⟨ret_bool (by simp), HBW2.out⟩

set_option maxRecDepth 100000 in
theorem CoreGrows_lifted (os : Os) (started : os.Started) (H : Type) (enc : TypeId × Value → H) :
    ReturnsInHanded {} Try.checked os 6 .any (Rows.coreGrowsSpec.pre6 enc Try.prog Try.f6 Rows.coreGrowsRow.domain false) (Rows.coreGrowsSpec.post enc Try.prog Try.f6 false true false false) := by
  refine returnsInHanded_of_change (C := Try.checked) own started (by kernel_rfl) Try.func6
    (ChangeSpec.witness6 (enc := enc) (C := Try.checked) false ⟨#[], #[.agg #[.int .i64 0, .slice none 0 0, .slice none 0 0, .slice none 0 0], .slice none 0 0, .int .i64 0], []⟩ 8 (by kernel_rfl) (by kernel_rfl) (by kernel_rfl) (by kernel_rfl)) ?_
  intro W base args ds gs before hval0 hW hcnd _
  have hval : ∀ (j : Nat) t v, Try.f6.params[j]? = some t → args[j]? = some v → Value.okWide Try.prog W .any base t v := hval0
  have hW' := hW
  obtain ⟨p, q, hA0, hV, rfl, hfz, hnd⟩ := hW
  have hA : DataW.TrodAll enc Try.prog W 0 (fun _ => true) true Try.f6.params.toList args.toList ds p := hA0
  rw [Try.params6] at hA hval
  obtain ⟨v0, vs0, d0, ds0, p0, q0, hargs, rfl, rfl, h0, r0⟩ := trodAll_cons hA
  obtain ⟨v1, vs1, d1, ds1, p1, q1, rfl, rfl, rfl, h1, r1⟩ := trodAll_cons r0
  obtain ⟨v2, vs2, d2, ds2, p2, q2, rfl, rfl, rfl, h2, r2⟩ := trodAll_cons r1
  obtain ⟨rfl, rfl, rfl⟩ := trodAll_nil r2
  obtain rfl : args = #[v0, v1, v2] := by cases args; simp_all
  obtain ⟨rfl, rfl⟩ := trodVars_none hV
  have k0 := h0
  have lt0 : ∀ x ∈ p0, x.block < W.heap.size := by obtain ⟨m, hm⟩ := k0; exact DataW.trod_lt m _ _ _ hm
  obtain ⟨c0, vb0, vs0', vo0, rfl, s0⟩ := open_core (hval 0 26 v0 rfl rfl) h0
  have k1 := h1
  have lt1 : ∀ x ∈ p1, x.block < W.heap.size := by obtain ⟨m, hm⟩ := k1; exact DataW.trod_lt m _ _ _ hm
  obtain ⟨xs1, s1⟩ := opens_sl Try.underlying29 opens_i64 (hval 1 29 v1 rfl rfl) h1
  obtain ⟨a2, rfl, rfl, rfl, w2⟩ := open_int Try.underlying2 (hval 2 2 v2 rfl rfl) h2
  clear hA0 hval0
  refine (CoreGrows_walk W c0 vb0 vs0' vo0 v1 xs1 a2 s0 s1 w2).mono fun e W' ⟨he, bel⟩ => ?_
  subst he
  exact ⟨_, rfl, _, _, _, [], _, [], hW', trodAll_mk1 (shut_bool Try.underlying4 _), (trodAll_cons_mk (Below.trod laidOut (by kernel_rfl) (of_decide_eq_true (by kernel_rfl)) k0 bel lt0) (trodAll_cons_mk (Below.trod laidOut (by kernel_rfl) (of_decide_eq_true (by kernel_rfl)) k1 bel lt1) (trodAll_cons_mk (shut_int Try.underlying2 w2) trodAll_mk0))), rfl, bel.frame _, fun h => by cases h⟩

/-- The given statement. -/
theorem CoreGrows_holds : Rows.CoreGrowsSaid :=
  OpenClaim.holds_of_wide 6 Try.f6 rfl rfl rfl rfl rfl rfl rfl ⟨rfl, rfl, rfl, rfl, rfl⟩ rfl rfl rfl rfl rfl (by kernel_rfl) Try.func6 (by kernel_rfl)
    (of_decide_eq_true (by kernel_rfl)) (by unfold Func.isWrapper; rw [if_neg (by decide +kernel)]; exact ⟨rfl, rfl⟩)
    (fun os started H enc _ => CoreGrows_lifted os started H enc)
#print axioms CoreGrows_holds
end Go.Proofs.Ytabodlhlanolcaa
