/-
  SimpNew: the law returns true for every input, and what was handed in reads as it did. No condition.
-/
import Derived.Test.YtmlfeocdcjhhaaaPG34
namespace Go.Proofs.Ytmlfeocdcjhhaaa
set_option maxRecDepth 100000
open Go.ChangeShapes Go.WideShapes Go.ChangeAt Go.RowKit Go.Joins
set_option linter.unusedVariables false
set_option linter.unusedSimpArgs false

set_option maxHeartbeats 4000000 in
theorem SimpNew_bad (w : World) (c : Cor) (vb vs vo : Value) (q : CorAt w vb vs vo c) (hr : rightB c = false) :
    Calls Try.prog 5 #[.agg #[.int .i64 c.vars, vb, vs, vo]] w fun e w' => e = .returned (.bool true) ∧ Below w.heap.size w w' := by
  obtain ⟨ba, bc, sa, sc, oa, oc, rfl, rfl, rfl, -, -, -⟩ := q.els
  have HA := Lib.hid q; have HR := Lib.hid hr
  have X0 := Lib.hid (CB.new (Below.refl w.heap.size w) c.vars (.slice ba c.bufs.length bc) (.slice sa c.steps.length sc) (.slice oa c.outs.length oc))
  obtain ⟨h0, hh0⟩ : ∃ z, w.heap.size = z := ⟨_, rfl⟩
  have HH0 := Lib.hid hh0
  clear q hr
  go_enter Try.func5, Try.ntmps5
  go_upto_region 1 with fail
  refine gen_worldA (fun W => CB w W w.heap.size c.vars (.slice ba c.bufs.length bc) (.slice sa c.steps.length sc) (.slice oa c.outs.length oc)) X0.out ?_
  rw [hh0] at X0 ⊢
  clear X0 hh0
  intro W1 hx
  have X := Lib.hid hx
  clear hx
  go_wp2_with fail
  refine (shown_any _).mono ?_
  rintro e W2 ⟨rfl, hb⟩
  have X := Lib.hid (X.out.next hb)
  have x0 := X.out.c0; have x1 := X.out.c1; have x2 := X.out.c2; have x3 := X.out.c3
  clear hb
  have hq := score_bad W2 c _ _ _ (HA.out.below X.out.below) HR.out
  unfold CV noneC at hq
  dsimp only at hq
  have HK := Lib.hid hq
  clear hq
  go_wp2_with fail
  refine HK.out.mono ?_
  rintro e W3 ⟨rfl, hb⟩
  obtain ⟨z4, hz4⟩ : ∃ b, W3.heap.size = b := ⟨_, rfl⟩
  have h4 := CB.new (w := w) (bNext hb X.out.below) 0 (.slice none 0 0) (.slice none 0 0) (.slice none 0 0)
  rw [hz4] at h4
  have X4 := Lib.hid h4
  clear HK hb h4 x0 x1 x2 x3
  go_upto_region 3 with fail
  refine gen_worldA (fun W => CB w W z4 0 (.slice none 0 0) (.slice none 0 0) (.slice none 0 0)) X4.out ?_
  clear hz4
  clear X4
  intro W4 h4
  have y1 := h4.c1; have y2 := h4.c2
  have HB := Lib.hid h4.below
  clear h4
  go_wp2_with fail
  go_ret
  exact ⟨ret_bool (by simp), HB.out⟩
set_option maxHeartbeats 16000000 in
theorem SimpNew_good (w : World) (c : Cor) (vb vs vo : Value) (q : CorAt w vb vs vo c) (hr : rightB c = true) :
    Calls Try.prog 5 #[.agg #[.int .i64 c.vars, vb, vs, vo]] w fun e w' => e = .returned (.bool true) ∧ Below w.heap.size w w' := by
  obtain ⟨ba, bc, sa, sc, oa, oc, rfl, rfl, rfl, -, -, -⟩ := q.els
  have HA := Lib.hid q; have HR := Lib.hid hr
  have X0 := Lib.hid (CB.new (Below.refl w.heap.size w) c.vars (.slice ba c.bufs.length bc) (.slice sa c.steps.length sc) (.slice oa c.outs.length oc))
  obtain ⟨h0, hh0⟩ : ∃ z, w.heap.size = z := ⟨_, rfl⟩
  have HH0 := Lib.hid hh0
  clear q hr
  go_enter Try.func5, Try.ntmps5
  go_upto_region 1 with fail
  refine gen_worldA (fun W => CB w W w.heap.size c.vars (.slice ba c.bufs.length bc) (.slice sa c.steps.length sc) (.slice oa c.outs.length oc)) X0.out ?_
  rw [hh0] at X0 ⊢
  clear X0 hh0
  intro W1 hx
  have X := Lib.hid hx
  clear hx
  go_wp2_with fail
  refine (shown_any _).mono ?_
  rintro e W2 ⟨rfl, hb⟩
  have X := Lib.hid (X.out.next hb)
  have x0 := X.out.c0; have x1 := X.out.c1; have x2 := X.out.c2; have x3 := X.out.c3
  clear hb
  obtain ⟨H, hH⟩ : ∃ z, W2.heap.size = z := ⟨_, rfl⟩
  have hq := score_good W2 (bN H) hH.symm c _ _ _ (HA.out.below X.out.below) HR.out
  obtain ⟨cc, hcc⟩ : ∃ cc, coreC c = cc := ⟨_, rfl⟩
  have HCC := Lib.hid hcc; have HHH := Lib.hid (show h0 ≤ H by rw [← hH, ← HH0.out]; exact X.out.below.size)
  rw [hcc] at hq
  unfold CV at hq
  have HK := Lib.hid hq
  clear hq hcc hH
  go_wp2_with fail
  refine HK.out.mono ?_
  rintro e Wa ⟨⟨b1, s1, o1, rfl, hn⟩, hb⟩
  obtain ⟨ba1, bc1, sa1, sc1, oa1, oc1, rfl, rfl, rfl, -, -, -⟩ := hn.cor.els
  obtain ⟨n1, hn1⟩ : ∃ n, cc.bufs.length = n := ⟨_, rfl⟩; obtain ⟨n2, hn2⟩ : ∃ n, cc.steps.length = n := ⟨_, rfl⟩; obtain ⟨n3, hn3⟩ : ∃ n, cc.outs.length = n := ⟨_, rfl⟩
  have HN2 := Lib.hid hn2; have HN3 := Lib.hid hn3
  rw [hn1, hn2, hn3] at hn
  rw [hn1, hn2, hn3]
  have X := Lib.hid (X.out.next hb)
  obtain ⟨z4, hz4⟩ : ∃ b, Wa.heap.size = b := ⟨_, rfl⟩
  have h4 := CB.new (w := w) X.out.below cc.vars (.slice ba1 n1 bc1) (.slice sa1 n2 sc1) (.slice oa1 n3 oc1)
  rw [hz4] at h4
  have hba : Below Wa.heap.size Wa (Wa.alloc (.cells #[.int .i64 cc.vars, .slice ba1 n1 bc1, .slice sa1 n2 sc1, .slice oa1 n3 oc1] 33)) := (Below.refl _ _).alloc (Nat.le_refl _) _
  have HBA := Lib.hid hba
  have XA := Lib.hid X.out
  have X := Lib.hid (X.out.next hba); have X4 := Lib.hid h4; have NA := Lib.hid hn; have HZ4 := Lib.hid hz4
  clear HK hb hn hba h4 hn1 hn2 hn3 x0 x1 x2 x3
  go_upto_region 3 with fail
  refine gen_worldA (fun W => CB w W h0 c.vars (.slice ba c.bufs.length bc) (.slice sa c.steps.length sc) (.slice oa c.outs.length oc) ∧ CB w W z4 cc.vars (.slice ba1 n1 bc1) (.slice sa1 n2 sc1) (.slice oa1 n3 oc1) ∧ Below Wa.heap.size Wa W) ⟨X.out, X4.out, HBA.out⟩ ?_
  clear hz4
  clear X X4 HBA
  rintro W4 ⟨hx, h4, hba⟩
  have X := Lib.hid hx; have X4 := Lib.hid h4; have HBA := Lib.hid hba
  have x0 := hx.c0; have x1 := hx.c1; have x2 := hx.c2; have x3 := hx.c3
  obtain ⟨H4, hH4⟩ : ∃ z, W4.heap.size = z := ⟨_, rfl⟩
  have hz4H : z4 < H4 := by rw [← hH4]; exact h4.lt
  have hq := rcore_good w W4 ⟨H4, fun b => b < h0 ∨ H4 ≤ b, fun b hb => .inr hb⟩ hH4.symm hx.below (fun b hb => .inl (by rw [← HH0.out]; exact hb)) c _ _ _ HA.out HR.out
  rw [HCC.out] at hq
  unfold CV at hq
  have HK := Lib.hid hq; have HZH := Lib.hid hz4H
  clear hq hx h4 hba hH4 hz4H
  go_wp2_with fail
  refine HK.out.mono ?_
  rintro e W5 ⟨⟨b2, s2, o2, rfl, hn⟩, hb⟩
  obtain ⟨ba2, bc2, sa2, sc2, oa2, oc2, rfl, rfl, rfl, -, -, -⟩ := hn.cor.els
  obtain ⟨m1, hm1⟩ : ∃ n, cc.bufs.length = n := ⟨_, rfl⟩; obtain ⟨m2, hm2⟩ : ∃ n, cc.steps.length = n := ⟨_, rfl⟩; obtain ⟨m3, hm3⟩ : ∃ n, cc.outs.length = n := ⟨_, rfl⟩
  rw [hm1, hm2, hm3] at hn
  rw [hm1, hm2, hm3]
  have X := Lib.hid (X.out.next hb); have X4 := Lib.hid (X4.out.next hb); have HBA := Lib.hid (bNext hb HBA.out)
  obtain ⟨z6, hz6⟩ : ∃ b, W5.heap.size = b := ⟨_, rfl⟩
  have h6 := CB.new (w := w) X.out.below cc.vars (.slice ba2 m1 bc2) (.slice sa2 m2 sc2) (.slice oa2 m3 oc2)
  rw [hz6] at h6
  have hba : Below W5.heap.size W5 (W5.alloc (.cells #[.int .i64 cc.vars, .slice ba2 m1 bc2, .slice sa2 m2 sc2, .slice oa2 m3 oc2] 33)) := (Below.refl _ _).alloc (Nat.le_refl _) _
  have hz64 : Wa.heap.size ≤ z6 := by rw [← hz6]; exact HBA.out.size
  have X := Lib.hid (X.out.next hba); have X4 := Lib.hid (X4.out.next hba); have X6 := Lib.hid h6; have NB := Lib.hid (hn.below hba); have HBA := Lib.hid (bNext hba HBA.out); have HZ6 := Lib.hid hz64
  clear HK hb hn hba h6 hm1 hm2 hm3 x0 x1 x2 x3 hz64
  go_upto_region 6 with fail
  refine gen_worldA (fun W => CB w W h0 c.vars (.slice ba c.bufs.length bc) (.slice sa c.steps.length sc) (.slice oa c.outs.length oc) ∧ CB w W z4 cc.vars (.slice ba1 n1 bc1) (.slice sa1 n2 sc1) (.slice oa1 n3 oc1) ∧ CB w W z6 cc.vars (.slice ba2 m1 bc2) (.slice sa2 m2 sc2) (.slice oa2 m3 oc2) ∧ NewC ⟨H4, fun b => b < h0 ∨ H4 ≤ b, fun b hb => .inr hb⟩ W (.slice ba2 m1 bc2) (.slice sa2 m2 sc2) (.slice oa2 m3 oc2) cc ∧ Below Wa.heap.size Wa W) ⟨X.out, X4.out, X6.out, NB.out, HBA.out⟩ ?_
  clear hz6
  clear X X4 X6 NB HBA
  rintro W6 ⟨hx, h4, h6, hnb, hba⟩
  have X := Lib.hid hx; have X4 := Lib.hid h4; have X6 := Lib.hid h6; have NB := Lib.hid hnb; have HBA := Lib.hid hba
  have x0 := hx.c0; have x1 := hx.c1; have x2 := hx.c2; have x3 := hx.c3
  obtain ⟨H6, hH6⟩ : ∃ z, W6.heap.size = z := ⟨_, rfl⟩
  have HW6 := Lib.hid (show Wa.heap.size ≤ H6 by rw [← hH6]; exact hba.size)
  have hq := score_good W6 (bN H6) hH6.symm c _ _ _ (HA.out.below hx.below) HR.out
  rw [HCC.out] at hq
  unfold CV at hq
  have HK := Lib.hid hq
  clear hq hx h4 h6 hnb hba hH6
  go_wp2_with fail
  refine HK.out.mono ?_
  rintro e W7 ⟨⟨b3, s3, o3, rfl, hn⟩, hb⟩
  obtain ⟨ba3, bc3, sa3, sc3, oa3, oc3, rfl, rfl, rfl, -, -, -⟩ := hn.cor.els
  obtain ⟨k1, hk1⟩ : ∃ n, cc.bufs.length = n := ⟨_, rfl⟩; obtain ⟨k2, hk2⟩ : ∃ n, cc.steps.length = n := ⟨_, rfl⟩; obtain ⟨k3, hk3⟩ : ∃ n, cc.outs.length = n := ⟨_, rfl⟩
  rw [hk1, hk2, hk3] at hn
  rw [hk1, hk2, hk3]
  have X := Lib.hid (X.out.next hb); have X4 := Lib.hid (X4.out.next hb); have X6 := Lib.hid (X6.out.next hb); have NB := Lib.hid (NB.out.below hb); have HBA := Lib.hid (bNext hb HBA.out)
  obtain ⟨z8, hz8⟩ : ∃ b, W7.heap.size = b := ⟨_, rfl⟩
  have h8 := CB.new (w := w) X.out.below cc.vars (.slice ba3 k1 bc3) (.slice sa3 k2 sc3) (.slice oa3 k3 oc3)
  rw [hz8] at h8
  have hba : Below W7.heap.size W7 (W7.alloc (.cells #[.int .i64 cc.vars, .slice ba3 k1 bc3, .slice sa3 k2 sc3, .slice oa3 k3 oc3] 33)) := (Below.refl _ _).alloc (Nat.le_refl _) _
  have hz84 : Wa.heap.size ≤ z8 := by rw [← hz8]; exact HBA.out.size
  have X := Lib.hid (X.out.next hba); have X4 := Lib.hid (X4.out.next hba); have X6 := Lib.hid (X6.out.next hba); have X8 := Lib.hid h8; have NB := Lib.hid (NB.out.below hba); have NC := Lib.hid (hn.below hba); have HBA := Lib.hid (bNext hba HBA.out); have HZ8 := Lib.hid hz84
  clear HK hb hn hba h8 hk1 hk2 hk3 x0 x1 x2 x3 hz84
  go_upto_region 7 with fail
  refine gen_worldA (fun W => CB w W h0 c.vars (.slice ba c.bufs.length bc) (.slice sa c.steps.length sc) (.slice oa c.outs.length oc) ∧ CB w W z4 cc.vars (.slice ba1 n1 bc1) (.slice sa1 n2 sc1) (.slice oa1 n3 oc1) ∧ CB w W z6 cc.vars (.slice ba2 m1 bc2) (.slice sa2 m2 sc2) (.slice oa2 m3 oc2) ∧ CB w W z8 cc.vars (.slice ba3 k1 bc3) (.slice sa3 k2 sc3) (.slice oa3 k3 oc3) ∧ NewC ⟨H4, fun b => b < h0 ∨ H4 ≤ b, fun b hb => .inr hb⟩ W (.slice ba2 m1 bc2) (.slice sa2 m2 sc2) (.slice oa2 m3 oc2) cc ∧ NewC (bN H6) W (.slice ba3 k1 bc3) (.slice sa3 k2 sc3) (.slice oa3 k3 oc3) cc ∧ Below Wa.heap.size Wa W) ⟨X.out, X4.out, X6.out, X8.out, NB.out, NC.out, HBA.out⟩ ?_
  clear hz8
  clear X X4 X6 X8 NB NC HBA
  rintro V ⟨hx, h4, h6, h8, hnb, hnc, hba⟩
  have X := Lib.hid hx; have X4 := Lib.hid h4; have X6 := Lib.hid h6; have X8 := Lib.hid h8; have NB := Lib.hid hnb; have NC := Lib.hid hnc
  obtain ⟨S, hS⟩ : ∃ S : Nat → Prop, (fun b => h0 ≤ b ∧ b < Wa.heap.size) = S := ⟨_, rfl⟩
  have HS := Lib.hid (show ∀ b, S b ↔ (h0 ≤ b ∧ b < Wa.heap.size) from fun b => by rw [← hS])
  have W0 := Lib.hid (show Wst S Wa V ∧ KB S V V from ⟨Wst.of_below hba, KB.refl _ _⟩)
  have Y4 := Lib.hid (fun W (h : KB S V W) => show W.cell? ⟨z4, 2, none⟩ = some (.slice sa1 n2 sc1) ∧ W.cell? ⟨z4, 3, none⟩ = some (.slice oa1 n3 oc1) from
    ⟨(h.cell (p := ⟨z4, 2, none⟩) h4.lt (fun e => by have h1 := ((HS.out z4).1 e).2; have h2 := HZ4.out; omega)).trans h4.c2, (h.cell (p := ⟨z4, 3, none⟩) h4.lt (fun e => by have h1 := ((HS.out z4).1 e).2; have h2 := HZ4.out; omega)).trans h4.c3⟩)
  have y2 := h4.c2
  have hn2 : n2 ≤ 9223372036854775807 := by have := (sl_elsR NA.out.cor.2.1).2; omega
  have hn3 : n3 ≤ 9223372036854775807 := by have := (sl_elsR NA.out.cor.2.2.1).2; omega
  clear hx h4 h6 h8 hnb hnc hba hS
  go_wp2_with fail
  clear y2
  go_loopw [51] (fun i wr => ∃ k : Nat, k ≤ n2 ∧ i = .int .i64 k ∧ Wst S Wa wr ∧ KB S V wr) (fun i _ => n2 - (intOf i).toNat)
  case atStart => exact ⟨0, Nat.zero_le _, rfl, W0.out⟩
  case round =>
    obtain ⟨k, hk, rfl, hws⟩ := hrel
    by_cases hlt : k < n2
    · obtain ⟨g, pa, pc, oa', oc', cur, rfl, x2, x5, hm, ho, hg⟩ := step_base NA.out.steps (k := k) (by rw [HN2.out]; exact hlt)
      have hnp := (sl_elsR hm.1).2.2; have hno := ho.le
      generalize cc.steps[k]'(by rw [HN2.out]; exact hlt) = s at x2 x5 hm ho hnp hno
      obtain ⟨np, hnp'⟩ : ∃ n, s.pos.length = n := ⟨_, rfl⟩; obtain ⟨no, hno'⟩ : ∃ n, s.ops.length = n := ⟨_, rfl⟩
      have HNP := Lib.hid hnp'; have HNO := Lib.hid hno'
      rw [hnp'] at x2 hm hnp; rw [hno'] at x5 ho hno
      have HX2 := Lib.hid x2; have HX5 := Lib.hid x5; have HG := Lib.hid hg; have HM := Lib.hid hm; have HO := Lib.hid ho
      have y2 := (Y4.out _ hws.2).1; have s5 := hws.1.stepC hg x5
      have hz0 : (0 : Int) ≤ (k : Int) := by omega
      have hzl : (k : Int) < (n2 : Int) := by omega
      have W0 := Lib.hid hws
      clear x2 x5 hm ho hg hws hnp' hno'
      go_wp2_with fail
      clear y2 s5
      go_loopw [61] (fun i wr => ∃ q : Nat, q ≤ no ∧ i = .int .i64 q ∧ Wst S Wa wr ∧ KB S V wr) (fun i _ => no - (intOf i).toNat)
      case atStart => exact ⟨0, Nat.zero_le _, rfl, W0.out⟩
      case round =>
        clear W0
        obtain ⟨q, hq, rfl, hws⟩ := hrel
        by_cases hlq : q < no
        · obtain ⟨g2, pa2, pc2, cur2, u2, rfl, hgr, x3, xn, hp, hg2⟩ := op_base HO.out (k := q) (by rw [HNO.out]; exact hlq)
          have hnp2 := (sl_elsR hp.1).2.2
          generalize s.ops[q]'(by rw [HNO.out]; exact hlq) = o at x3 hp hnp2
          obtain ⟨nq, hnq'⟩ : ∃ n, o.p.length = n := ⟨_, rfl⟩
          have HNQ := Lib.hid hnq'
          rw [hnq'] at x3 hp hnp2
          have HX3 := Lib.hid x3; have HYtmlfeocdcjhhaaa := Lib.hid xn; have HG2 := Lib.hid hg2; have HP := Lib.hid hp; have HGR := Lib.hid hgr
          have y2 := (Y4.out _ hws.2).1; have s5 := hws.1.stepC HG.out HX5.out; have p3 := hws.1.opC hg2 x3
          have hq0 : (0 : Int) ≤ (q : Int) := by omega
          have hql : (q : Int) < (no : Int) := by omega
          have W0 := Lib.hid hws
          clear x3 xn hg2 hp hgr hws hnq'
          go_wp2_with fail
          clear y2 s5 p3
          go_loopw [75] (fun i wr => ∃ m : Nat, m ≤ nq ∧ i = .int .i64 m ∧ Wst S Wa wr ∧ KB S V wr) (fun i _ => nq - (intOf i).toNat)
          case atStart => exact ⟨0, Nat.zero_le _, rfl, W0.out⟩
          case round =>
            clear W0
            obtain ⟨m, hm, rfl, hws⟩ := hrel
            by_cases hlm : m < nq
            · obtain ⟨g3, cur3, u3, rfl, hgr3, x0, hg3⟩ := mono_base HP.out (k := m) (by rw [HNQ.out]; exact hlm)
              have y2 := (Y4.out _ hws.2).1; have s5 := hws.1.stepC HG.out HX5.out; have p3 := hws.1.opC HG2.out HX3.out
              obtain ⟨cur4, u4, t4, xc, xf⟩ := hws.1.mono.store hg3 x0
              have hSg : S g3 := (HS.out g3).2 (by have h1 := HHH.out; omega)
              have hm0 : (0 : Int) ≤ (m : Int) := by omega
              have hml : (m : Int) < (nq : Int) := by omega
              have HZ := Lib.hid (show Wst S Wa (wr.setCell ⟨g3, m * 7, none⟩ (.int .i64 (-77))) ∧ KB S V (wr.setCell ⟨g3, m * 7, none⟩ (.int .i64 (-77))) from ⟨hws.1.setMono t4 hSg _, hws.2.setCell (p := ⟨g3, m * 7, none⟩) (fun _ => hSg) _⟩)
              clear hws hg3 x0 t4 hSg hgr3
              go_wp2_with fail
              go_roundw
              case rel => exact ⟨m + 1, by omega, by go_num, HZ.out⟩
              case measure => simp [intOf] <;> omega
            · obtain rfl : m = nq := by omega
              have y2 := (Y4.out _ hws.2).1; have s5 := hws.1.stepC HG.out HX5.out
              obtain ⟨cur4, u4, t4, xc, xf⟩ := hws.1.op.store HG2.out HYtmlfeocdcjhhaaa.out
              have hSg : S g2 := (HS.out g2).2 (by have h1 := HHH.out; have h2 := HGR.out; omega)
              have HZ := Lib.hid (show Wst S Wa (wr.setCell ⟨g2, q * 5 + 2, none⟩ (.int .i64 77)) ∧ KB S V (wr.setCell ⟨g2, q * 5 + 2, none⟩ (.int .i64 77)) from ⟨hws.1.setOp t4 hSg (by omega) _, hws.2.setCell (p := ⟨g2, q * 5 + 2, none⟩) (fun _ => hSg) _⟩)
              clear hws t4 hSg hlm hm
              go_wp2_with fail
              go_roundw
              case rel => exact ⟨q + 1, by omega, by go_num, HZ.out⟩
              case measure => simp [intOf] <;> omega
        · obtain rfl : q = no := by omega
          have y2 := (Y4.out _ hws.2).1; have s2 := hws.1.stepC HG.out HX2.out
          have W0 := Lib.hid hws
          clear hws hlq hq
          go_wp2_with fail
          clear y2 s2
          go_loopw [109] (fun i wr => ∃ m : Nat, m ≤ np ∧ i = .int .i64 m ∧ Wst S Wa wr ∧ KB S V wr) (fun i _ => np - (intOf i).toNat)
          case atStart => exact ⟨0, Nat.zero_le _, rfl, W0.out⟩
          case round =>
            clear W0
            obtain ⟨m, hm, rfl, hws⟩ := hrel
            by_cases hlm : m < np
            · obtain ⟨g3, cur3, u3, rfl, hgr3, x0, hg3⟩ := mono_base HM.out (k := m) (by rw [HNP.out]; exact hlm)
              have y2 := (Y4.out _ hws.2).1; have s2 := hws.1.stepC HG.out HX2.out
              obtain ⟨cur4, u4, t4, xc, xf⟩ := hws.1.mono.store hg3 x0
              have hSg : S g3 := (HS.out g3).2 (by have h1 := HHH.out; omega)
              have hm0 : (0 : Int) ≤ (m : Int) := by omega
              have hml : (m : Int) < (np : Int) := by omega
              have HZ := Lib.hid (show Wst S Wa (wr.setCell ⟨g3, m * 7, none⟩ (.int .i64 (-77))) ∧ KB S V (wr.setCell ⟨g3, m * 7, none⟩ (.int .i64 (-77))) from ⟨hws.1.setMono t4 hSg _, hws.2.setCell (p := ⟨g3, m * 7, none⟩) (fun _ => hSg) _⟩)
              clear hws hg3 x0 t4 hSg hgr3
              go_wp2_with fail
              go_roundw
              case rel => exact ⟨m + 1, by omega, by go_num, HZ.out⟩
              case measure => simp [intOf] <;> omega
            · obtain rfl : m = np := by omega
              have HZ := Lib.hid hws
              clear hws hlm hm
              go_wp2_with fail
              go_roundw
              case rel => exact ⟨k + 1, by omega, by go_num, HZ.out⟩
              case measure => simp [intOf] <;> omega
    · obtain rfl : k = n2 := by omega
      have y3 := (Y4.out _ hws.2).2
      have W0 := Lib.hid hws
      clear hws hlt hk
      go_wp2_with fail
      clear y3
      go_loopw [126] (fun i wr => ∃ m : Nat, m ≤ n3 ∧ i = .int .i64 m ∧ Wst S Wa wr ∧ KB S V wr) (fun i _ => n3 - (intOf i).toNat)
      case atStart => exact ⟨0, Nat.zero_le _, rfl, W0.out⟩
      case round =>
        clear W0
        obtain ⟨m, hm, rfl, hws⟩ := hrel
        by_cases hlm : m < n3
        · obtain ⟨g3, cur3, u3, rfl, hgr3, x0, hg3⟩ := int_base NA.out.outs (k := m) (by rw [HN3.out]; exact hlm)
          have y3 := (Y4.out _ hws.2).2
          obtain ⟨cur4, u4, t4, xc, xf⟩ := hws.1.int.store hg3 x0
          have hSg : S g3 := (HS.out g3).2 (by have h1 := HHH.out; omega)
          have hm0 : (0 : Int) ≤ (m : Int) := by omega
          have hml : (m : Int) < (n3 : Int) := by omega
          have HZ := Lib.hid (show Wst S Wa (wr.setCell ⟨g3, m, none⟩ (.int .i64 (-7))) ∧ KB S V (wr.setCell ⟨g3, m, none⟩ (.int .i64 (-7))) from ⟨hws.1.setInt t4 hSg _, hws.2.setCell (p := ⟨g3, m, none⟩) (fun _ => hSg) _⟩)
          clear hws hg3 x0 t4 hSg hgr3
          go_wp2_with fail
          go_roundw
          case rel => exact ⟨m + 1, by omega, by go_num, HZ.out⟩
          case measure => simp [intOf] <;> omega
        · obtain rfl : m = n3 := by omega
          have hbv : Below w.heap.size w wr := X.out.below.trans (by rw [HH0.out]; exact hws.2.below (by have h1 := X.out.below.size; have h2 := HH0.out; omega) (fun g hg => ((HS.out g).1 hg).1))
          have hx : CB w wr h0 c.vars (.slice ba c.bufs.length bc) (.slice sa c.steps.length sc) (.slice oa c.outs.length oc) := ⟨hbv, hws.1.core _ _ XA.out.blk⟩
          have h6 : CB w wr z6 cc.vars (.slice ba2 m1 bc2) (.slice sa2 m2 sc2) (.slice oa2 m3 oc2) := ⟨hbv, (hws.2.block z6 X6.out.lt (fun e => by have h1 := ((HS.out z6).1 e).2; have h2 := HZ6.out; omega)).trans X6.out.blk⟩
          have h8 : CB w wr z8 cc.vars (.slice ba3 k1 bc3) (.slice sa3 k2 sc3) (.slice oa3 k3 oc3) := ⟨hbv, (hws.2.block z8 X8.out.lt (fun e => by have h1 := ((HS.out z8).1 e).2; have h2 := HZ8.out; omega)).trans X8.out.blk⟩
          have kw := NB.out.kb hws.2 (fun b hb e => by have h1 := (HS.out b).1 e; have h2 := HZH.out; have h3 := HZ4.out; have hb : b < h0 ∨ H4 ≤ b := hb; omega)
          have kb := NC.out.kb hws.2 (fun b hb e => by have h1 := (HS.out b).1 e; have h2 := HW6.out; have hb : H6 ≤ b := hb; omega)
          have hq := score_good wr (b0 wr.heap.size) rfl c _ _ _ (HA.out.below hbv) HR.out
          rw [HCC.out] at hq
          unfold CV at hq
          have HK := Lib.hid hq; have X := Lib.hid hx; have X6 := Lib.hid h6; have X8 := Lib.hid h8; have KW := Lib.hid kw; have KB' := Lib.hid kb
          have x0 := hx.c0; have x1 := hx.c1; have x2 := hx.c2; have x3 := hx.c3
          have y3 := (Y4.out _ hws.2).2
          clear hws hlm hm hbv hx h6 h8 kw kb hq
          go_wp2_with fail
          refine HK.out.mono ?_
          rintro e U1 ⟨⟨b4, s4, o4, rfl, hn⟩, hb⟩
          have hn := hn.cor
          obtain ⟨ba4, bc4, sa4, sc4, oa4, oc4, rfl, rfl, rfl, -, -, -⟩ := hn.els
          obtain ⟨j1, hj1⟩ : ∃ n, cc.bufs.length = n := ⟨_, rfl⟩; obtain ⟨j2, hj2⟩ : ∃ n, cc.steps.length = n := ⟨_, rfl⟩; obtain ⟨j3, hj3⟩ : ∃ n, cc.outs.length = n := ⟨_, rfl⟩
          rw [hj1, hj2, hj3] at hn
          rw [hj1, hj2, hj3]
          have X6 := Lib.hid (X6.out.next hb); have X8 := Lib.hid (X8.out.next hb); have KW := Lib.hid (KW.out.below hb); have KB' := Lib.hid (KB'.out.below hb)
          obtain ⟨z9, hz9⟩ : ∃ b, U1.heap.size = b := ⟨_, rfl⟩
          have h9 := CB.new (w := w) X6.out.below cc.vars (.slice ba4 j1 bc4) (.slice sa4 j2 sc4) (.slice oa4 j3 oc4)
          rw [hz9] at h9
          have hba : Below U1.heap.size U1 (U1.alloc (.cells #[.int .i64 cc.vars, .slice ba4 j1 bc4, .slice sa4 j2 sc4, .slice oa4 j3 oc4] 33)) := (Below.refl _ _).alloc (Nat.le_refl _) _
          have X6 := Lib.hid (X6.out.next hba); have X8 := Lib.hid (X8.out.next hba); have X9 := Lib.hid h9; have KW := Lib.hid (KW.out.below hba); have KB' := Lib.hid (KB'.out.below hba); have KA := Lib.hid (hn.below hba)
          clear HK hb hn hba h9 hj1 hj2 hj3 x0 x1 x2 x3 y3 X
          go_upto_region 32 with fail
          refine gen_worldA (fun W => CB w W z6 cc.vars (.slice ba2 m1 bc2) (.slice sa2 m2 sc2) (.slice oa2 m3 oc2) ∧ CB w W z8 cc.vars (.slice ba3 k1 bc3) (.slice sa3 k2 sc3) (.slice oa3 k3 oc3) ∧ CB w W z9 cc.vars (.slice ba4 j1 bc4) (.slice sa4 j2 sc4) (.slice oa4 j3 oc4) ∧ CorAt W (.slice ba2 m1 bc2) (.slice sa2 m2 sc2) (.slice oa2 m3 oc2) cc ∧ CorAt W (.slice ba3 k1 bc3) (.slice sa3 k2 sc3) (.slice oa3 k3 oc3) cc ∧ CorAt W (.slice ba4 j1 bc4) (.slice sa4 j2 sc4) (.slice oa4 j3 oc4) cc) ⟨X6.out, X8.out, X9.out, KW.out, KB'.out, KA.out⟩ ?_
          clear hz9
          clear X6 X8 X9 KW KB' KA
          rintro U2 ⟨h6, h8, h9, kw, kb, ka⟩
          have x0 := h6.c0; have x1 := h6.c1; have x2 := h6.c2; have x3 := h6.c3
          have y0 := h8.c0; have y1 := h8.c1; have y2 := h8.c2; have y3 := h8.c3
          have hq := rsame11_eq U2 cc _ _ _ _ _ _ kb kw
          unfold CV at hq
          have HQ := Lib.hid hq; have X6 := Lib.hid h6; have X9 := Lib.hid h9; have KW := Lib.hid kw; have KA := Lib.hid ka
          clear hq h6 h8 h9 kw kb ka
          go_wp2_with fail
          refine HQ.out.mono ?_
          rintro e U3 ⟨rfl, hb⟩
          have X6 := Lib.hid (X6.out.next hb); have X9 := Lib.hid (X9.out.next hb); have KW := Lib.hid (KW.out.below hb); have KA := Lib.hid (KA.out.below hb)
          clear HQ hb x0 x1 x2 x3 y0 y1 y2 y3
          have x0 := X6.out.c0; have x1 := X6.out.c1; have x2 := X6.out.c2; have x3 := X6.out.c3
          have y0 := X9.out.c0; have y1 := X9.out.c1; have y2 := X9.out.c2; have y3 := X9.out.c3
          have hq := rsame11_eq U3 cc _ _ _ _ _ _ KA.out KW.out
          unfold CV at hq
          have HQ := Lib.hid hq
          clear hq
          go_wp2_with fail
          refine HQ.out.mono ?_
          rintro e U4 ⟨rfl, hb⟩
          have HB := Lib.hid (bNext hb X6.out.below)
          clear hb
          go_wp2_with fail
          go_ret
          exact ⟨ret_bool (by simp), HB.out⟩
theorem SimpNew_walk (w : World) (c : Cor) (vb vs vo : Value) (q : CorAt w vb vs vo c) :
    Calls Try.prog 5 #[.agg #[.int .i64 c.vars, vb, vs, vo]] w fun e w' => e = .returned (.bool true) ∧ Below w.heap.size w w' := by
  cases hr : rightB c with
  | true => exact SimpNew_good w c vb vs vo q hr
  | false => exact SimpNew_bad w c vb vs vo q hr

set_option maxRecDepth 100000 in
theorem SimpNew_lifted (os : Os) (started : os.Started) (H : Type) (enc : TypeId × Value → H) :
    ReturnsInHanded {} Try.checked os 5 .any (Rows.simpNewSpec.pre6 enc Try.prog Try.f5 Rows.simpNewRow.domain false) (Rows.simpNewSpec.post enc Try.prog Try.f5 false true false false) := by
  refine returnsInHanded_of_change (C := Try.checked) own started (by kernel_rfl) Try.func5
    (ChangeSpec.witness6 (enc := enc) (C := Try.checked) false ⟨#[], #[.agg #[.int .i64 0, .slice none 0 0, .slice none 0 0, .slice none 0 0]], []⟩ 8 (by kernel_rfl) (by kernel_rfl) (by kernel_rfl) (by kernel_rfl)) ?_
  intro W base args ds gs before hval0 hW hcnd _
  have hval : ∀ (j : Nat) t v, Try.f5.params[j]? = some t → args[j]? = some v → Value.okWide Try.prog W .any base t v := hval0
  have hW' := hW
  obtain ⟨p, q, hA0, hV, rfl, hfz, hnd⟩ := hW
  have hA : DataW.TrodAll enc Try.prog W 0 (fun _ => true) true Try.f5.params.toList args.toList ds p := hA0
  rw [Try.params5] at hA hval
  obtain ⟨v0, vs0, d0, ds0, p0, q0, hargs, rfl, rfl, h0, r0⟩ := trodAll_cons hA
  obtain ⟨rfl, rfl, rfl⟩ := trodAll_nil r0
  obtain rfl : args = #[v0] := by cases args; simp_all
  obtain ⟨rfl, rfl⟩ := trodVars_none hV
  have k0 := h0
  have lt0 : ∀ x ∈ p0, x.block < W.heap.size := by obtain ⟨m, hm⟩ := k0; exact DataW.trod_lt m _ _ _ hm
  obtain ⟨c0, vb0, vs0', vo0, rfl, s0⟩ := open_core (hval 0 33 v0 rfl rfl) h0
  clear hA0 hval0
  refine (SimpNew_walk W c0 vb0 vs0' vo0 s0).mono fun e W' ⟨he, bel⟩ => ?_
  subst he
  exact ⟨_, rfl, _, _, _, [], _, [], hW', trodAll_mk1 (shut_bool Try.underlying4 _), (trodAll_cons_mk (Below.trod laidOut (by kernel_rfl) (of_decide_eq_true (by kernel_rfl)) k0 bel lt0) trodAll_mk0), rfl, bel.frame _, fun h => by cases h⟩

/-- The given statement. -/
theorem SimpNew_holds : Rows.SimpNewSaid :=
  OpenClaim.holds_of_wide 5 Try.f5 rfl rfl rfl rfl rfl rfl rfl ⟨rfl, rfl, rfl, rfl, rfl⟩ rfl rfl rfl rfl rfl (by kernel_rfl) Try.func5 (by kernel_rfl)
    (of_decide_eq_true (by kernel_rfl)) (by unfold Func.isWrapper; rw [if_neg (by decide +kernel)]; exact ⟨rfl, rfl⟩)
    (fun os started H enc _ => SimpNew_lifted os started H enc)
#print axioms SimpNew_holds
end Go.Proofs.Ytmlfeocdcjhhaaa
