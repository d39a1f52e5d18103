/-
  CoreCuts: the law returns true for every input, and what was handed in reads as it did. No condition.
-/
import Derived.Test.YtabodlhlanolcaaA33
namespace Go.Proofs.Ytabodlhlanolcaa
set_option maxRecDepth 100000
open Go.ChangeShapes Go.WideShapes Go.ChangeAt Go.RowKit Go.Joins
set_option linter.unusedVariables false
set_option linter.unusedSimpArgs false

set_option maxRecDepth 100000 in
set_option maxHeartbeats 16000000 in
theorem CoreCuts_walk (w : World) (c : Cor) (vb vs vo : Value) (q : CorAt w vb vs vo c) :
    Calls Try.prog 5 #[.agg #[.int .i64 c.vars, vb, vs, vo]] w fun e w' => e = .returned (.bool true) ∧ Below w.heap.size w w' := by
  obtain ⟨ba, bc, sa, sc, oa, oc, rfl, rfl, rfl, he, hsc, hba⟩ := q.els
  obtain ⟨cs, hcs, hsrc⟩ := he.be.cs (R := bufRep) (by decide) rfl hba
  obtain ⟨vars, bufs, steps, outs⟩ := c
  dsimp only at he hsc hcs hsrc ⊢
  obtain ⟨i0, hi, hz0, hz1, hz2⟩ := info_parts Try.infoBuf
  have Hi := Lib.hid hi; have Hz0 := Lib.hid hz0; have Hz1 := Lib.hid hz1; have Hz2 := Lib.hid hz2; clear hi hz0 hz1 hz2
  have HE := Lib.hid he; have HCS := Lib.hid hcs; have HSRC := Lib.hid hsrc
  have HN := Lib.hid (CB.new (Below.refl w.heap.size w) vars (.slice ba bufs.length bc) (.slice sa steps.length sc) (.slice oa outs.length oc))
  obtain ⟨xb, hxb⟩ : ∃ xb, w.heap.size = xb := ⟨_, rfl⟩
  have HXB := Lib.hid hxb
  clear he q hcs hsrc hba
  go_enter Try.func5, Try.ntmps5
  go_upto_region 1 with fail
  rw [hxb] at HN
  refine gen_worldA (fun W => CB w W xb vars (.slice ba bufs.length bc) (.slice sa steps.length sc) (.slice oa outs.length oc)) HN.out ?_
  clear HN hxb
  intro W hin
  have HIN := Lib.hid hin
  clear hin
  go_wp2_with fail
  refine (shown_any _).mono ?_
  rintro e w1 ⟨rfl, hb1⟩
  have HIN1 := Lib.hid (HIN.out.next hb1)
  obtain ⟨hbW, x0, x1, x2, x3, hxx⟩ := HIN1.out.rg
  have hq := cright_at w1 ⟨vars, bufs, steps, outs⟩ ba sa oa bc sc oc (HE.out.below hbW)
  unfold corV at hq
  dsimp only at hq
  clear hb1 HIN hbW
  cases hr : rightB ⟨vars, bufs, steps, outs⟩ with
  | false =>
    rw [hr] at hq
    have HQ := Lib.hid hq
    clear hq
    go_wp2_with fail
    refine HQ.out.mono ?_
    rintro e w2 ⟨rfl, hb2⟩
    have HB := Lib.hid (HIN1.out.next hb2).below
    clear x0 x1 x2 x3 hxx hb2 HIN1 HQ
    go_wp2_with fail
    go_ret
    exact ⟨rfl, HB.out⟩
  | true =>
    rw [hr] at hq
    have hmore := right_push (b := ⟨[], -1⟩) hr rfl rfl
    have hless := right_cut hr
    obtain ⟨-, -, hbl, hsl, -⟩ := right_vars hr
    dsimp only at hmore hless hbl hsl
    have hll : decide (bufs.length < 1024) = decide ((bufs.length : Int) < 1024) := by simp; omega
    rw [hll] at hmore
    have HMO := Lib.hid hmore; have HLE := Lib.hid hless
    have HQ := Lib.hid hq
    clear hq hmore hless hll hr
    go_wp2_with fail
    refine HQ.out.mono ?_
    rintro e w2 ⟨rfl, hb2⟩
    have HIN2 := Lib.hid (HIN1.out.next hb2)
    clear x0 x1 x2 x3 hxx hb2 HIN1 HQ
    obtain ⟨hbW, x0, x1, x2, x3, hxx⟩ := HIN2.out.rg
    obtain ⟨mb, hmb⟩ : ∃ mb, w2.heap.size = mb := ⟨_, rfl⟩
    have HM2 := Lib.hid (show CB w (w2.alloc (.cells #[.int .i64 vars, .slice ba bufs.length bc, .slice sa steps.length sc, .slice oa outs.length oc] 26)) mb vars (.slice ba bufs.length bc) (.slice sa steps.length sc) (.slice oa outs.length oc) by rw [← hmb]; exact CB.new HIN2.out.below _ _ _ _)
    have HX2 := Lib.hid (show CB w (w2.alloc (.cells #[.int .i64 vars, .slice ba bufs.length bc, .slice sa steps.length sc, .slice oa outs.length oc] 26)) xb vars (.slice ba bufs.length bc) (.slice sa steps.length sc) (.slice oa outs.length oc) from HIN2.out.next ((Below.refl _ _).alloc (Nat.le_refl _) _))
    have HXM := Lib.hid (show xb < mb ∧ w.heap.size ≤ xb ∧ w.heap.size ≤ mb from ⟨by omega, by rw [HXB.out]; exact Nat.le_refl _, by have := hbW.size; omega⟩)
    have HMB := Lib.hid hmb
    clear hbW HIN2
    go_upto_region 5 with fail
    refine gen_worldA (fun W => CB w W mb vars (.slice ba bufs.length bc) (.slice sa steps.length sc) (.slice oa outs.length oc) ∧ CB w W xb vars (.slice ba bufs.length bc) (.slice sa steps.length sc) (.slice oa outs.length oc)) ⟨HM2.out, HX2.out⟩ ?_
    clear HM2 HX2 x0 x1 x2 x3 hxx hmb HMB
    rintro W5 ⟨hm5, hx5⟩
    have HM5 := Lib.hid hm5; have HX5 := Lib.hid hx5
    clear hm5 hx5
    obtain ⟨hbW, x0, x1, x2, x3, hxx⟩ := HX5.out.rg
    have hmW : mb < W5.heap.size := HM5.out.rg.hx
    have HBW := Lib.hid hbW
    clear hbW
    go_wp2_with (at_builtin; (refine wpList_append_src _ rfl _ _ 22 rfl W5.heap.size 36 i0 _ 2 32 Try.underlying22 Hi.out Hz0.out Hz1.out Hz2.out rfl (by decide) _ 0 [] rfl (World.ownsRow_lit W5 #[] 0 (Nat.le_refl _) (Nat.zero_le _) rfl) _ bufs.length cs rfl (HSRC.out.below (HBW.out.alloc HBW.out.size _)) HCS.out.len HCS.out.one (by unfold maxLen; omega) (by omega) (by simp) ?_))
    intro v1 w6 hown hg _
    have hb6 : Below W5.heap.size W5 w6 := ((Below.refl _ _).alloc (Nat.le_refl _) _).grown hg (by simp) (fun j hj => by cases hj; exact Nat.le_refl _)
    have HOWN := Lib.hid hown; have HB6 := Lib.hid hb6
    clear hown hg hb6
    go_wp2_with (at_builtin; (refine wpList_append_src _ rfl _ _ 22 rfl W5.heap.size 36 i0 _ 2 32 Try.underlying22 Hi.out Hz0.out Hz1.out Hz2.out rfl (by decide) _ bufs.length cs rfl (HOWN.out.alloc _) _ 1 [.slice none 0 0, .int .i64 (-1)] rfl (src_lit _ _ _ _ _ _ (by simp) rfl) rfl ?h1 (by unfold maxLen; omega) (by omega) (by have := HB6.out.size; simp; omega) ?_))
    case h1 => intro u hu; simp at hu; rcases hu with rfl | rfl <;> rfl
    intro v2 w7 hown hg _
    have hb7 : Below W5.heap.size W5 w7 := (HB6.out.alloc HB6.out.size _).grown hg (by have := HB6.out.size; simp; omega) (fun j hj => (World.ownsRow.lt HOWN.out j hj).1)
    have hcs7 : bufRep.Cs w7 (cs ++ [.slice none 0 0, .int .i64 (-1)]) (bufs ++ [⟨[], -1⟩]) := Rep.Cs.append (Rep.Cs.single (R := bufRep) (x := (⟨[], -1⟩ : Buf)) ⟨_, rfl, Rep.Sl.nil _ _, by show (-9223372036854775808 : Int) ≤ -1; decide, by show (-1 : Int) ≤ 9223372036854775807; decide⟩) (HCS.out.keep (bNext hb7 HBW.out))
    obtain ⟨a2, c2, rfl, hels⟩ := hcs7.els (w := w7) hown (by simp)
    have hels' : bufRep.Els (w7.setCell ⟨mb, 1, none⟩ (.slice a2 (bufs.length + 1) c2)) a2 (bufs ++ [⟨[], -1⟩]) := by
      have ho2 := own_other hown (p := ⟨mb, 1, none⟩) (fun g hg' e => by have := (World.ownsRow.lt hown g hg').1; dsimp only at e; omega) (.slice a2 (bufs.length + 1) c2)
      have hc2 : bufRep.Cs (w7.setCell ⟨mb, 1, none⟩ (.slice a2 (bufs.length + 1) c2)) (cs ++ [.slice none 0 0, .int .i64 (-1)]) (bufs ++ [⟨[], -1⟩]) := Rep.Cs.append (Rep.Cs.single (R := bufRep) (x := (⟨[], -1⟩ : Buf)) ⟨_, rfl, Rep.Sl.nil _ _, by show (-9223372036854775808 : Int) ≤ -1; decide, by show (-1 : Int) ≤ 9223372036854775807; decide⟩) (HCS.out.keep ((bNext hb7 HBW.out).setCell (p := ⟨mb, 1, none⟩) HXM.out.2.2 _))
      obtain ⟨a3, c3, e, h3⟩ := hc2.els (w := w7) ho2 (by simp)
      cases e
      exact h3
    have hm7 := HM5.out.next hb7; have hx7 := HX5.out.next hb7
    have HEL := Lib.hid hels'
    have HM7 := Lib.hid (hm7.put1 HXM.out.2.2 (.slice a2 (bufs.length + 1) c2)); have HX7 := Lib.hid (hx7.other (p := ⟨mb, 1, none⟩) HXM.out.2.2 (by have := HXM.out.1; dsimp only; omega) (.slice a2 (bufs.length + 1) c2))
    have m1 := hm7.rg.c1; have f1 := hm7.fr 1
    clear hels hels' hcs7 hm7 hx7 hown hg hb7 HM5 HX5 x0 x1 x2 x3 HOWN
    go_upto_region 6 with fail
    refine gen_worldA (fun W => CB w W mb vars (.slice a2 (bufs.length + 1) c2) (.slice sa steps.length sc) (.slice oa outs.length oc) ∧ CB w W xb vars (.slice ba bufs.length bc) (.slice sa steps.length sc) (.slice oa outs.length oc) ∧ bufRep.Els W a2 (bufs ++ [⟨[], -1⟩])) ⟨HM7.out, HX7.out, HEL.out⟩ ?_
    clear HM7 HX7 HEL m1 f1
    rintro W8 ⟨hm8, hx8, he8⟩
    have HM8 := Lib.hid hm8; have HX8 := Lib.hid hx8
    have hq : ∀ p : BelowW W8, Calls Try.prog 10 #[.agg #[.int .i64 vars, .slice a2 (bufs.length + 1) c2, .slice sa steps.length sc, .slice oa outs.length oc]] p.world fun e w' => e = .returned (.bool (decide ((bufs.length : Int) < 1024))) ∧ Below p.world.heap.size p.world w' := fun p => by
      have h1 := HE.out.below (bNext p.below hm8.below)
      have := cright_at p.world ⟨vars, bufs ++ [⟨[], -1⟩], steps, outs⟩ a2 sa oa c2 sc oc ⟨he8.below _ p.below (Nat.le_refl _), by simp; omega, h1.se, h1.sl, h1.oe, h1.ol⟩
      rw [HMO.out] at this
      unfold corV at this
      dsimp only at this
      rw [List.length_append] at this
      exact this
    have HQ := Lib.hid hq
    obtain ⟨-, m0, m1, m2, m3, -⟩ := HM8.out.rg
    obtain ⟨-, x0, x1, x2, x3, -⟩ := HX8.out.rg
    have g0 := cellBW m0; have g1 := cellBW m1; have g2 := cellBW m2; have g3 := cellBW m3
    have y0 := cellBW x0; have y1 := cellBW x1; have y2 := cellBW x2; have y3 := cellBW x3
    clear hq hm8 hx8 he8 HMO
    have hfin : ∀ bl, decide ((bufs.length : Int) < 1024) = bl → (bl != bl) = false := fun bl _ => by cases bl <;> rfl
    refine wp_region_below (by kernel_rfl) (by kernel_rfl) ?_
    repeat (go_big_quiet_step (first | (go_at_call 10; refine callsBW (HQ.out _))))
    refine wpQuiet_nil ?_
    rintro W9 ⟨⟨_, hwq⟩, rfl⟩
    have HX9 := Lib.hid (show CB w W9 xb vars (.slice ba bufs.length bc) (.slice sa steps.length sc) (.slice oa outs.length oc) from HX8.out.next hwq)
    clear hwq HM8 HX8 m0 m1 m2 m3 x0 x1 x2 x3 g0 g1 g2 g3 y0 y1 y2 y3 HQ
    have hne : (decide ((bufs.length : Int) < 1024) != decide ((bufs.length : Int) < 1024)) = false := by simp
    generalize decide ((bufs.length : Int) < 1024) = bl at hne ⊢
    obtain ⟨hbW, x0, x1, x2, x3, hxx⟩ := HX9.out.rg
    obtain ⟨lb, hlb⟩ : ∃ lb, W9.heap.size = lb := ⟨_, rfl⟩
    have HL9 := Lib.hid (show CB w (W9.alloc (.cells #[.int .i64 vars, .slice ba bufs.length bc, .slice sa steps.length sc, .slice oa outs.length oc] 26)) lb vars (.slice ba bufs.length bc) (.slice sa steps.length sc) (.slice oa outs.length oc) by rw [← hlb]; exact CB.new HX9.out.below _ _ _ _)
    have HX10 := Lib.hid (HX9.out.next ((Below.refl _ _).alloc (Nat.le_refl _) (.cells #[.int .i64 vars, .slice ba bufs.length bc, .slice sa steps.length sc, .slice oa outs.length oc] 26)))
    have HLM := Lib.hid (show xb < lb ∧ w.heap.size ≤ lb from ⟨by omega, by have := hbW.size; omega⟩)
    clear hbW
    go_upto_region 9 with fail
    refine gen_worldA (fun W => CB w W lb vars (.slice ba bufs.length bc) (.slice sa steps.length sc) (.slice oa outs.length oc) ∧ CB w W xb vars (.slice ba bufs.length bc) (.slice sa steps.length sc) (.slice oa outs.length oc)) ⟨HL9.out, HX10.out⟩ ?_
    clear HL9 HX10 HX9 x0 x1 x2 x3 hxx hlb hne
    rintro Wa ⟨hla, hxa⟩
    have HLA := Lib.hid hla
    obtain ⟨hbW, x0, x1, x2, x3, hxx⟩ := hxa.rg
    by_cases hn : steps.length = 0
    · have n0 : decide ((0 : Int) < (steps.length : Int)) = false := by rw [decide_eq_false_iff_not]; omega
      have n0' : ¬ (0 : Int) < (steps.length : Int) := by omega
      have hq := cright_at Wa ⟨vars, bufs, steps, outs⟩ ba sa oa bc sc oc (HE.out.below hbW)
      have hr0 := HLE.out 0
      have hnil : steps = [] := List.eq_nil_of_length_eq_zero hn
      have hr1 : rightB ⟨vars, bufs, steps, outs⟩ = true := by rw [hnil] at hr0 ⊢; exact hr0
      rw [hr1] at hq
      unfold corV at hq
      dsimp only at hq
      have HQ := Lib.hid hq
      obtain ⟨-, l0, l1, l2, l3, -⟩ := HLA.out.rg
      clear hbW hq hr0 hnil hr1 hla hxa hn
      go_wp2_with fail
      refine HQ.out.mono ?_
      rintro e wb ⟨rfl, hbb⟩
      have HB := Lib.hid (HLA.out.next hbb).below
      clear hbb HQ HLA l0 l1 l2 l3 x0 x1 x2 x3 hxx
      go_wp2_with fail
      go_ret
      exact ⟨rfl, HB.out⟩
    · obtain ⟨m, hm⟩ : ∃ m, steps.length = m + 1 := ⟨steps.length - 1, by omega⟩
      have n0 : decide ((0 : Int) < ((m + 1 : Nat) : Int)) = true := by rw [decide_eq_true_iff]; omega
      have hq : ∀ W', Below w.heap.size w W' → Calls Try.prog 10 #[.agg #[.int .i64 vars, .slice ba bufs.length bc, .slice sa m sc, .slice oa outs.length oc]] W' fun e w' => e = .returned (.bool true) ∧ Below W'.heap.size W' w' := fun W' hb' => by
        have h1 := HE.out.below hb'
        have hlt : (steps.take m).length = m := by rw [List.length_take]; omega
        have := cright_at W' ⟨vars, bufs, steps.take m, outs⟩ ba sa oa bc sc oc ⟨h1.be, h1.bl, h1.se.take m, by simp; have := h1.sl; dsimp only at this; omega, h1.oe, h1.ol⟩
        rw [HLE.out m] at this
        unfold corV at this
        dsimp only at this
        rw [hlt] at this
        exact this
      have HQ := Lib.hid hq
      have HLB := Lib.hid (hla.put2 HLM.out.2 (.slice sa m sc))
      have l2 := hla.rg.c2; have f2 := hla.fr 2
      have hml : m < steps.length := by omega
      have hms : (m : Int) ≤ (sc : Int) := by omega
      have hm0 : (0 : Int) ≤ (m : Int) := by omega
      have hmB : (m : Int) ≤ 1024 := by omega
      rw [hm] at l2 x2 ⊢
      clear hbW hq hla hxa hn hm HLA
      go_upto_region 12 with fail
      refine gen_worldA (fun W => CB w W lb vars (.slice ba bufs.length bc) (.slice sa m sc) (.slice oa outs.length oc)) HLB.out ?_
      clear HLB l2 f2 x0 x1 x2 x3 hxx
      intro Wb hlb
      have HLB := Lib.hid hlb
      obtain ⟨hbW, l0, l1, l2, l3, -⟩ := hlb.rg
      have HQ2 := Lib.hid (HQ.out Wb hbW)
      clear HQ hlb hbW
      go_wp2_with fail
      refine HQ2.out.mono ?_
      rintro e wb ⟨rfl, hbb⟩
      have HB := Lib.hid (HLB.out.next hbb).below
      clear hbb HQ2 HLB l0 l1 l2 l3
      go_wp2_with fail
      go_ret
      exact ⟨rfl, HB.out⟩

set_option maxRecDepth 100000 in
theorem CoreCuts_lifted (os : Os) (started : os.Started) (H : Type) (enc : TypeId × Value → H) :
    ReturnsInHanded {} Try.checked os 5 .any (Rows.coreCutsSpec.pre6 enc Try.prog Try.f5 Rows.coreCutsRow.domain false) (Rows.coreCutsSpec.post enc Try.prog Try.f5 false true false false) := by
  refine returnsInHanded_of_change (C := Try.checked) own started (by kernel_rfl) Try.func5
    (ChangeSpec.witness6 (enc := enc) (C := Try.checked) false ⟨#[], #[.agg #[.int .i64 0, .slice none 0 0, .slice none 0 0, .slice none 0 0]], []⟩ 8 (by kernel_rfl) (by kernel_rfl) (by kernel_rfl) (by kernel_rfl)) ?_
  intro W base args ds gs before hval0 hW hcnd _
  have hval : ∀ (j : Nat) t v, Try.f5.params[j]? = some t → args[j]? = some v → Value.okWide Try.prog W .any base t v := hval0
  have hW' := hW
  obtain ⟨p, q, hA0, hV, rfl, hfz, hnd⟩ := hW
  have hA : DataW.TrodAll enc Try.prog W 0 (fun _ => true) true Try.f5.params.toList args.toList ds p := hA0
  rw [Try.params5] at hA hval
  obtain ⟨v0, vs0, d0, ds0, p0, q0, hargs, rfl, rfl, h0, r0⟩ := trodAll_cons hA
  obtain ⟨rfl, rfl, rfl⟩ := trodAll_nil r0
  obtain rfl : args = #[v0] := by cases args; simp_all
  obtain ⟨rfl, rfl⟩ := trodVars_none hV
  have k0 := h0
  have lt0 : ∀ x ∈ p0, x.block < W.heap.size := by obtain ⟨m, hm⟩ := k0; exact DataW.trod_lt m _ _ _ hm
  obtain ⟨c0, vb0, vs0', vo0, rfl, s0⟩ := open_core (hval 0 26 v0 rfl rfl) h0
  clear hA0 hval0
  refine (CoreCuts_walk W c0 vb0 vs0' vo0 s0).mono fun e W' ⟨he, bel⟩ => ?_
  subst he
  exact ⟨_, rfl, _, _, _, [], _, [], hW', trodAll_mk1 (shut_bool Try.underlying4 _), (trodAll_cons_mk (Below.trod laidOut (by kernel_rfl) (of_decide_eq_true (by kernel_rfl)) k0 bel lt0) trodAll_mk0), rfl, bel.frame _, fun h => by cases h⟩

/-- The given statement. -/
theorem CoreCuts_holds : Rows.CoreCutsSaid :=
  OpenClaim.holds_of_wide 5 Try.f5 rfl rfl rfl rfl rfl rfl rfl ⟨rfl, rfl, rfl, rfl, rfl⟩ rfl rfl rfl rfl rfl (by kernel_rfl) Try.func5 (by kernel_rfl)
    (of_decide_eq_true (by kernel_rfl)) (by unfold Func.isWrapper; rw [if_neg (by decide +kernel)]; exact ⟨rfl, rfl⟩)
    (fun os started H enc _ => CoreCuts_lifted os started H enc)
#print axioms CoreCuts_holds
end Go.Proofs.Ytabodlhlanolcaa
