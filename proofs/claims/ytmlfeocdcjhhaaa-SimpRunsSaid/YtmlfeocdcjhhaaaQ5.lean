/-
  SimpRuns: the law returns true for every input, and what was handed in reads as it did. No condition.
-/
import Derived.Test.YtmlfeocdcjhhaaaPH25
import Derived.Test.YtmlfeocdcjhhaaaPH26
import Derived.Test.YtmlfeocdcjhhaaaPH33
import Derived.Test.YtmlfeocdcjhhaaaPH35
namespace Go.Proofs.Ytmlfeocdcjhhaaa
set_option maxRecDepth 100000
open Go.ChangeShapes Go.WideShapes Go.ChangeAt Go.RowKit Go.Joins
set_option linter.unusedVariables false
set_option linter.unusedSimpArgs false

theorem cor_n {w : World} {vb vs vo : Value} {c : Cor} (h : CorAt w vb vs vo c) : ∀ s ∈ c.steps, ∀ o ∈ s.ops, I64 o.n := fun s hs o ho => by
  obtain ⟨_, ⟨a, cap, _, _, _, _, he⟩, _⟩ := h
  obtain ⟨k, hk, rfl⟩ := List.getElem_of_mem hs
  obtain ⟨b, off, cs, _, ⟨v0, v1, v2, _, _, _, h2, _⟩, _⟩ := he k hk
  obtain ⟨a2, cap2, _, _, _, _, he2⟩ := h2
  obtain ⟨j, hj, rfl⟩ := List.getElem_of_mem ho
  obtain ⟨b3, off3, cs3, _, ⟨v3, _, _, _, _, hn, _⟩, _⟩ := he2 j hj
  exact hn
theorem ins_in {w : World} {v : Value} {ins : List Ary} (h : arrRep.Sl w v ins) : ∀ a ∈ ins, ∀ x ∈ a.2, In64 x := fun a ha => by
  obtain ⟨_, _, _, _, _, _, he⟩ := h
  obtain ⟨k, hk, rfl⟩ := List.getElem_of_mem ha
  obtain ⟨b, off, cs, _, ⟨v, u, _, _, h2⟩, _⟩ := he k hk
  exact int_in h2
/-- the law's argument in its box -/
def CoreX (w W : World) (z : Nat) (cv : Int) (vb vs vo vd vi : Value) : Prop := Below w.heap.size w W ∧ W.heap[z]? = some (.cells #[.int .i64 cv, vb, vs, vo, vd, vi] 61 (0, 0))
theorem CoreX.next {w W W' : World} {z : Nat} {cv : Int} {vb vs vo vd vi : Value} (h : CoreX w W z cv vb vs vo vd vi) (hb : Below W.heap.size W W') : CoreX w W' z cv vb vs vo vd vi := ⟨bNext hb h.1, block_below h.2 hb⟩
set_option maxHeartbeats 16000000 in
theorem SimpRuns_walk (w : World) (c : Cor) (D : List Int) (ins : List Ary) (vb vs vo vd vi : Value) (q : CorAt w vb vs vo c) (q1 : (Rep.int .i64).Sl w vd D) (q2 : arrRep.Sl w vi ins) :
    Calls Try.prog 8 #[.agg #[.int .i64 c.vars, vb, vs, vo, vd, vi]] w fun e w' => e = .returned (.bool true) ∧ Below w.heap.size w w' := by
  obtain ⟨ba, bc, sa, sc, oa, oc, rfl, rfl, rfl, hels, -, -⟩ := q.els
  have hcn := cor_n q
  have hci := ins_in q2
  have hld : D.length ≤ 9223372036854775807 := by obtain ⟨_, _, _, g1, g2, _⟩ := q1; exact Nat.le_trans g1 g2
  obtain ⟨ad, cd, rfl⟩ := q1.form0
  have hd := (int_at q1).2
  have hil : ins.length ≤ maxLen := by obtain ⟨_, _, _, g1, g2, _⟩ := q2; exact Nat.le_trans g1 g2
  obtain ⟨ia, ic, e1, -, -, -, hi⟩ := q2
  subst e1
  have hq1 := fun W (hb : Below w.heap.size w W) => score_any W c _ _ _ (q.below hb)
  have hri := fun W (hb : Below w.heap.size w W) => cright_at W c ba sa oa bc sc oc (hels.below hb)
  have hr1 := fun W (hb : Below w.heap.size w W) => run_any W c ba sa oa bc sc oc (q.below hb) ad cd D (hd.below hb (Nat.le_refl _)) hld ia ic ins (hi.below arrRep hb (Nat.le_refl _)) hil
  unfold CV at hq1
  unfold corV at hri
  obtain ⟨bl, hbl⟩ : ∃ n, c.bufs.length = n := ⟨_, rfl⟩
  obtain ⟨sl, hsl⟩ : ∃ n, c.steps.length = n := ⟨_, rfl⟩
  obtain ⟨ol, hol⟩ : ∃ n, c.outs.length = n := ⟨_, rfl⟩
  obtain ⟨dl, hdl⟩ : ∃ n, D.length = n := ⟨_, rfl⟩
  obtain ⟨il, hin⟩ : ∃ n, ins.length = n := ⟨_, rfl⟩
  obtain ⟨cv, hcv⟩ : ∃ n, c.vars = n := ⟨_, rfl⟩
  simp only [hbl, hsl, hol, hdl, hin, hcv] at hq1 hri hr1
  rw [hbl, hsl, hol, hdl, hin, hcv]
  have HQ1 := Lib.hid hq1; have HRI := Lib.hid hri; have HR1 := Lib.hid hr1; have HCN := Lib.hid hcn; have HCI := Lib.hid hci; have HD := Lib.hid hd; have HI := Lib.hid hi; have HLD := Lib.hid hld; have HIL := Lib.hid hil; have HDL := Lib.hid hdl; have HINL := Lib.hid hin
  have X0 := Lib.hid (show CoreX w (w.alloc (.cells #[.int .i64 cv, .slice ba bl bc, .slice sa sl sc, .slice oa ol oc, .slice ad dl cd, .slice ia il ic] 61)) w.heap.size cv (.slice ba bl bc) (.slice sa sl sc) (.slice oa ol oc) (.slice ad dl cd) (.slice ia il ic) from ⟨(Below.refl _ _).alloc (Nat.le_refl _) _, World.alloc_heap_new w _⟩)
  clear q q1 hels hcn hci hq1 hri hr1 hd hi hld hil hbl hsl hol hdl hin hcv
  go_enter Try.func8, Try.ntmps8
  go_upto_region 1 with fail
  refine gen_worldA (fun W => CoreX w W w.heap.size cv (.slice ba bl bc) (.slice sa sl sc) (.slice oa ol oc) (.slice ad dl cd) (.slice ia il ic)) X0.out ?_
  clear X0
  intro W1 hx
  have X := Lib.hid hx
  clear hx
  obtain ⟨z, hz⟩ : ∃ z, w.heap.size = z := ⟨_, rfl⟩
  rw [hz] at X ⊢
  have HZ := Lib.hid hz
  clear hz
  go_wp2_with fail
  refine (shown_any _).mono ?_
  rintro e W2 ⟨rfl, hb⟩
  have hx := X.out.next hb
  have x0 := cell_of_row W2 z 0 _ _ _ hx.2; have x1 := cell_of_row W2 z 1 _ _ _ hx.2; have x2 := cell_of_row W2 z 2 _ _ _ hx.2; have x3 := cell_of_row W2 z 3 _ _ _ hx.2
  have HK := Lib.hid (HQ1.out W2 hx.1)
  have X := Lib.hid hx
  clear hb HQ1 hx
  go_wp2_with fail
  refine HK.out.mono ?_
  unfold RetK CV
  rintro e W3 ⟨⟨b1, s1, o1, rfl, hk⟩, hb⟩
  have hx := X.out.next hb
  obtain ⟨ba1, bc1, sa1, sc1, oa1, oc1, rfl, rfl, rfl, hels1, -, -⟩ := hk.els
  obtain ⟨n1, hn1⟩ : ∃ n, (coreR c).1.bufs.length = n := ⟨_, rfl⟩; obtain ⟨n2, hn2⟩ : ∃ n, (coreR c).1.steps.length = n := ⟨_, rfl⟩; obtain ⟨n3, hn3⟩ : ∃ n, (coreR c).1.outs.length = n := ⟨_, rfl⟩
  have hri1 := fun W (hb : Below W3.heap.size W3 W) => cright_at W (coreR c).1 ba1 sa1 oa1 bc1 sc1 oc1 (hels1.below hb)
  have hr2 := fun W (hb : Below W3.heap.size W3 W) => run_any W (coreR c).1 ba1 sa1 oa1 bc1 sc1 oc1 (hk.below hb) ad cd D (HD.out.below (bNext hb hx.1) (Nat.le_refl _)) HLD.out ia ic ins (HI.out.below arrRep (bNext hb hx.1) (Nat.le_refl _)) HIL.out
  unfold corV at hri1
  obtain ⟨r, hr⟩ : ∃ r, coreR c = r := ⟨_, rfl⟩
  rw [hr] at hn1 hn2 hn3 hk ⊢
  simp only [hr] at hri1 hr2
  simp only [hn1, hn2, hn3, HDL.out, HINL.out] at hri1 hr2
  rw [hn1, hn2, hn3]
  obtain ⟨z4, hz4⟩ : ∃ b, W3.heap.size = b := ⟨_, rfl⟩
  have h4 := CB.new (w := W3) (Below.refl _ _) r.1.vars (.slice ba1 n1 bc1) (.slice sa1 n2 sc1) (.slice oa1 n3 oc1)
  rw [hz4] at h4
  have hba : Below W3.heap.size W3 (W3.alloc (.cells #[.int .i64 r.1.vars, .slice ba1 n1 bc1, .slice sa1 n2 sc1, .slice oa1 n3 oc1] 33)) := (Below.refl _ _).alloc (Nat.le_refl _) _
  have X := Lib.hid (hx.next hba); have X4 := Lib.hid h4; have HRI1 := Lib.hid hri1; have HR2 := Lib.hid hr2; have HRR := Lib.hid hr
  clear HK hb hk hba h4 hn1 hn2 hn3 x0 x1 x2 x3 hx hri1 hr2 hels1 hr
  go_upto_region 3 with fail
  refine gen_worldA (fun W => CoreX w W z cv (.slice ba bl bc) (.slice sa sl sc) (.slice oa ol oc) (.slice ad dl cd) (.slice ia il ic) ∧ CB W3 W z4 r.1.vars (.slice ba1 n1 bc1) (.slice sa1 n2 sc1) (.slice oa1 n3 oc1)) ⟨X.out, X4.out⟩ ?_
  clear X X4 hz4
  rintro W4 ⟨hx, h4⟩
  have X := Lib.hid hx; have X4 := Lib.hid h4
  have x0 := cell_of_row W4 z 0 _ _ _ hx.2; have x1 := cell_of_row W4 z 1 _ _ _ hx.2; have x2 := cell_of_row W4 z 2 _ _ _ hx.2; have x3 := cell_of_row W4 z 3 _ _ _ hx.2; have x4 := cell_of_row W4 z 4 _ _ _ hx.2; have x5 := cell_of_row W4 z 5 _ _ _ hx.2
  clear hx h4
  cases hc : rightB c with
  | false =>
    have hrn : r.2 = 100 := by rw [← HRR.out]; unfold coreR; rw [hc]; rfl
    have hq := HRI.out W4 X.out.1
    rw [hc] at hq
    have HQ := Lib.hid hq
    clear hq hc
    rw [hrn]
    go_wp2_with (go_at_call 20; refine HQ.out.mono ?_; rintro e w5 ⟨rfl, hb5⟩)
    go_ret
    exact ⟨rfl, bNext hb5 X.out.1⟩
  | true =>
    have hrn : r.2 = 0 := by rw [← HRR.out]; unfold coreR; rw [if_pos hc]
    have hrc : r.1 = coreC c := by rw [← HRR.out]; unfold coreR; rw [if_pos hc]
    have hlaw := run_simple (D := D) (ins := ins) hc HCN.out HCI.out
    have hrt := right_coreC hc
    rw [← hrc] at hlaw hrt
    have HRT := Lib.hid hrt
    rw [hrn]
    clear hc hrn hrc hrt
    have HQ := Lib.hid (HR1.out W4 X.out.1)
    obtain ⟨A, hA⟩ : ∃ A, runR c D ins = A := ⟨_, rfl⟩
    obtain ⟨B, hB⟩ : ∃ B, runR r.1 D ins = B := ⟨_, rfl⟩
    rw [hA, hB] at hlaw
    rw [hA] at HQ
    have HB := Lib.hid hB
    have HLAW := Lib.hid hlaw
    clear hA hB hlaw
    go_upto_region 6 with (go_at_call 18; refine HQ.out.mono ?_; rintro e w5 ⟨ra, rfl, hra, hb5⟩)
    have hx := X.out.next hb5
    have h4 := X4.out.next hb5
    have hq := HR2.out w5 h4.below
    rw [HB.out] at hq
    have HQ2 := Lib.hid hq; have HX5 := Lib.hid hx; have H45 := Lib.hid h4; have HRA := Lib.hid hra
    clear x0 x1 x2 x3 x4 x5
    have x4 := cell_of_row w5 z 4 _ _ _ hx.2; have x5 := cell_of_row w5 z 5 _ _ _ hx.2
    have y0 := h4.c0; have y1 := h4.c1; have y2 := h4.c2; have y3 := h4.c3
    clear hx h4 hq hra hb5 HQ X X4
    go_upto_region 7 with (go_at_call 18; refine HQ2.out.mono ?_; rintro e w6 ⟨rb, rfl, hrb, hb6⟩)
    have hx := HX5.out.next hb6
    have h4 := H45.out.next hb6
    have y0 := h4.c0; have y1 := h4.c1; have y2 := h4.c2; have y3 := h4.c3
    have hq := HRI1.out w6 h4.below
    rw [HRT.out] at hq
    have HQ3 := Lib.hid hq; have HX6 := Lib.hid hx
    have HRA6 := Lib.hid (HRA.out.below arrRep hb6 (Nat.le_refl _)); have HRB := Lib.hid hrb
    clear x4 x5 hq hx h4 hrb hb6 HQ2 HX5 H45 HRA
    obtain ⟨l1, l2⟩ := HLAW.out
    obtain ⟨A0, A1, A2⟩ := A
    obtain ⟨B0, B1, B2⟩ := B
    dsimp only at l1 l2 HRA6 HRB ⊢
    by_cases h122 : A2 = 122
    · obtain ⟨g1, g2⟩ := l1 h122
      have hI : (A2 == 122) = true := by simpa using h122
      clear l1 l2 HLAW h122
      by_cases hb0 : B2 = 0
      · have hJ : (B2 != 0) = false := by simpa using hb0
        have hK : (B2 == 0) = true := by simpa using hb0
        have h10 : B1 = 0 := by rcases g1 with g | g; exact absurd hb0 g; exact g
        have hL : (B1 == 0) = true := by simpa using h10
        clear g1 g2 hb0
        go_wp2_with (go_at_call 20; refine HQ3.out.mono ?_; rintro e w7 ⟨rfl, hb7⟩)
        go_ret
        exact ⟨rfl, bNext hb7 HX6.out.1⟩
      · have hJ : (B2 != 0) = true := by simpa using hb0
        have hK : (B2 == 0) = false := by simpa using hb0
        have hge : A1 ≤ B1 := by rcases g2 with g | g; exact absurd g hb0; exact g
        have hL : decide (A1 ≤ B1) = true := by simpa using hge
        clear g1 g2 hb0
        go_wp2_with (go_at_call 20; refine HQ3.out.mono ?_; rintro e w7 ⟨rfl, hb7⟩)
        go_ret
        exact ⟨rfl, bNext hb7 HX6.out.1⟩
    · have heq := l2 h122
      have hI : (A2 == 122) = false := by simpa using h122
      cases heq
      have hJ : (A2 == A2) = true := by simp
      have hK : (A1 == A1) = true := by simp
      clear l1 l2 HLAW h122
      go_wp2_with (first | (go_at_call 20; refine HQ3.out.mono ?_; rintro e w7 ⟨rfl, hb7⟩) | (go_at_call 19; refine (same08_any _ _ _ _ (HRA6.out.below arrRep hb7 (Nat.le_refl _)) (HRB.out.below arrRep hb7 (Nat.le_refl _))).mono ?_; rintro e w8 ⟨rfl, hb8⟩))
      go_ret
      exact ⟨rfl, bNext (bNext hb8 hb7) HX6.out.1⟩

set_option maxRecDepth 100000 in
theorem SimpRuns_lifted (os : Os) (started : os.Started) (H : Type) (enc : TypeId × Value → H) :
    ReturnsInHanded {} Try.checked os 8 .any (Rows.simpRunsSpec.pre6 enc Try.prog Try.f8 Rows.simpRunsRow.domain false) (Rows.simpRunsSpec.post enc Try.prog Try.f8 false true false false) := by
  refine returnsInHanded_of_change (C := Try.checked) own started (by kernel_rfl) Try.func8
    (ChangeSpec.witness6 (enc := enc) (C := Try.checked) false ⟨#[], #[.agg #[.int .i64 0, .slice none 0 0, .slice none 0 0, .slice none 0 0, .slice none 0 0, .slice none 0 0]], []⟩ 8 (by kernel_rfl) (by kernel_rfl) (by kernel_rfl) (by kernel_rfl)) ?_
  intro W base args ds gs before hval0 hW hcnd _
  have hval : ∀ (j : Nat) t v, Try.f8.params[j]? = some t → args[j]? = some v → Value.okWide Try.prog W .any base t v := hval0
  have hW' := hW
  obtain ⟨p, q, hA0, hV, rfl, hfz, hnd⟩ := hW
  have hA : DataW.TrodAll enc Try.prog W 0 (fun _ => true) true Try.f8.params.toList args.toList ds p := hA0
  rw [Try.params8] at hA hval
  obtain ⟨v0, vs0, d0, ds0, p0, q0, hargs, rfl, rfl, h0, r0⟩ := trodAll_cons hA
  obtain ⟨rfl, rfl, rfl⟩ := trodAll_nil r0
  obtain rfl : args = #[v0] := by cases args; simp_all
  obtain ⟨rfl, rfl⟩ := trodVars_none hV
  have k0 := h0
  have lt0 : ∀ x ∈ p0, x.block < W.heap.size := by obtain ⟨m, hm⟩ := k0; exact DataW.trod_lt m _ _ _ hm
  obtain ⟨c0, D0, in0, vb0, vs0', vo0, vd0, vi0, rfl, s0, t0, u0⟩ := open_core13 (hval 0 61 v0 rfl rfl) h0
  clear hA0 hval0
  refine (SimpRuns_walk W c0 D0 in0 vb0 vs0' vo0 vd0 vi0 s0 t0 u0).mono fun e W' ⟨he, bel⟩ => ?_
  subst he
  exact ⟨_, rfl, _, _, _, [], _, [], hW', trodAll_mk1 (shut_bool Try.underlying4 _), (trodAll_cons_mk (Below.trod laidOut (by kernel_rfl) (of_decide_eq_true (by kernel_rfl)) k0 bel lt0) trodAll_mk0), rfl, bel.frame _, fun h => by cases h⟩

/-- The given statement. -/
theorem SimpRuns_holds : Rows.SimpRunsSaid :=
  OpenClaim.holds_of_wide 8 Try.f8 rfl rfl rfl rfl rfl rfl rfl ⟨rfl, rfl, rfl, rfl, rfl⟩ rfl rfl rfl rfl rfl (by kernel_rfl) Try.func8 (by kernel_rfl)
    (of_decide_eq_true (by kernel_rfl)) (by unfold Func.isWrapper; rw [if_neg (by decide +kernel)]; exact ⟨rfl, rfl⟩)
    (fun os started H enc _ => SimpRuns_lifted os started H enc)
#print axioms SimpRuns_holds
end Go.Proofs.Ytmlfeocdcjhhaaa
