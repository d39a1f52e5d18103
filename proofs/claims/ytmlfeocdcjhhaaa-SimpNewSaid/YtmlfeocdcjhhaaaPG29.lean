import Derived.Test.YtmlfeocdcjhhaaaPG28
namespace Go.Proofs.Ytmlfeocdcjhhaaa
set_option linter.unusedVariables false
set_option linter.unusedSimpArgs false
set_option maxRecDepth 100000
end Go.Proofs.Ytmlfeocdcjhhaaa

namespace Go.Proofs.Ytmlfeocdcjhhaaa
set_option maxRecDepth 100000
open Go.RowKit
set_option linter.unusedVariables false
set_option linter.unusedSimpArgs false
attribute [local go_sem ↓] Go.wp_at_zero Go.wp_at_succ

/-! windrowref11.polys, Steps: two that are the same. -/
theorem sl_elsR {α : Type} {R : Rep α} {w : World} {a : Option Addr} {n c : Nat} {l : List α} (h : R.Sl w (.slice a n c) l) : R.Els w a l ∧ n = l.length ∧ l.length ≤ 9223372036854775807 := by
  obtain ⟨a', c', e, h1, h2⟩ := Rep.Sl.form h
  simp only [Value.slice.injEq] at e
  obtain ⟨rfl, rfl, rfl⟩ := e
  exact ⟨h2, rfl, h1⟩
theorem rsame02_eq (w : World) (a b : Option Addr) (n m c d : Nat) (xs : List Mono) (h : monoRep.Sl w (.slice a n c) xs) (h2 : monoRep.Sl w (.slice b m d) xs) :
    Calls Try.prog 29 #[.slice a n c, .slice b m d] w fun e w' => e = .returned (.bool true) ∧ Below w.heap.size w w' := by
  obtain ⟨e1, rfl, l1⟩ := sl_elsR h
  obtain ⟨e2, rfl, l2⟩ := sl_elsR h2
  have := rsame02_any w a b c d xs xs l1 l2 e1 e2
  rwa [show sameL xs xs = true from decide_eq_true rfl] at this
theorem rops11_eq (w : World) (a b : Option Addr) (n m c d : Nat) (xs : List Cop) (h : copRep.Sl w (.slice a n c) xs) (h2 : copRep.Sl w (.slice b m d) xs) :
    Calls Try.prog 12 #[.slice a n c, .slice b m d] w fun e w' => e = .returned (.bool true) ∧ Below w.heap.size w w' := by
  have := rops11_at w a b n m c d xs xs h h2
  rwa [show sameL xs xs = true from decide_eq_true rfl] at this
set_option maxHeartbeats 4000000 in
theorem rpolys_eq (w : World) (a b : Option Addr) (n m c d : Nat) (ps : List (List Mono)) (h : polyRep.Sl w (.slice a n c) ps) (h2 : polyRep.Sl w (.slice b m d) ps) :
    Calls Try.prog 35 #[.slice a n c, .slice b m d] w fun e w' => e = .returned (.bool true) ∧ Below w.heap.size w w' := by
  obtain ⟨-, e1, hl⟩ := sl_elsR h
  obtain ⟨-, e2, -⟩ := sl_elsR h2
  obtain rfl : m = n := by omega
  have HI := Lib.hid h; have HJ := Lib.hid h2; have HL := Lib.hid e1
  have hml : m ≤ 9223372036854775807 := by omega
  clear h h2 e1 e2 hl
  have hl' : ((m : Int) != (m : Int)) = false := by simp
  go_enter Try.func35, Try.ntmps35
  go_wp2
  go_loopw [5] (fun i wr => ∃ k : Nat, k ≤ m ∧ i = .int .i64 k ∧ Below w.heap.size w wr) (fun i _ => m - (intOf i).toNat)
  case atStart => exact ⟨0, Nat.zero_le _, rfl, Below.refl _ _⟩
  case round =>
    obtain ⟨k, hk, rfl, hbel⟩ := hrel
    by_cases hlt : k < m
    · have hlt' : k < ps.length := by rw [← HL.out]; exact hlt
      obtain ⟨b0, off, u, rfl, x0, hu⟩ := els_list (R := monoRep) (sl_elsR (HI.out.below _ hbel (Nat.le_refl _))).1 hlt'
      obtain ⟨b2, off2, v, rfl, y0, hv⟩ := els_list (R := monoRep) (sl_elsR (HJ.out.below _ hbel (Nat.le_refl _))).1 hlt'
      obtain ⟨ua, uc, rfl⟩ := hu.form0
      obtain ⟨va, vc, rfl⟩ := hv.form0
      have hz0 : (0 : Int) ≤ (k : Int) := by omega
      have hz1 : (k : Int) < (m : Int) := by omega
      have HBEL := Lib.hid hbel
      generalize ps[k] = p at x0 y0 hu hv
      have HS := Lib.hid (fun q : BelowW wr => rsame02_eq q.world ua va p.length p.length uc vc p (hu.below _ q.below (Nat.le_refl _)) (hv.below _ q.below (Nat.le_refl _)))
      have f0 := cellBW x0; have g0 := cellBW y0
      clear hbel x0 y0 hu hv hlt'
      go_upto_region 6 with fail
      refine wp_region_below (by kernel_rfl) (by kernel_rfl) ?_
      repeat (go_big_quiet_step (refine callsBW (HS.out _)))
      refine wpQuiet_nil ?_
      rintro _ ⟨⟨wq, hwq⟩, rfl⟩
      have HQ := Lib.hid (HBEL.out.trans (hwq.mono HBEL.out.size))
      clear f0 g0 HS
      go_wp2_with fail
      go_roundw
      case rel => exact ⟨k + 1, by omega, by go_num, HQ.out⟩
      case measure => simp [intOf] <;> omega
    · have HQ := Lib.hid hbel
      clear hbel
      go_wp2
      go_ret
      exact ⟨rfl, HQ.out⟩
set_option maxHeartbeats 8000000 in
theorem rsteps_eq (w : World) (a b : Option Addr) (n m c d : Nat) (ss : List Stp) (h : stpRep.Sl w (.slice a n c) ss) (h2 : stpRep.Sl w (.slice b m d) ss) :
    Calls Try.prog 34 #[.slice a n c, .slice b m d] w fun e w' => e = .returned (.bool true) ∧ Below w.heap.size w w' := by
  obtain ⟨-, e1, hl⟩ := sl_elsR h
  obtain ⟨-, e2, -⟩ := sl_elsR h2
  obtain rfl : m = n := by omega
  have HI := Lib.hid h; have HJ := Lib.hid h2; have HL := Lib.hid e1
  have hml : m ≤ 9223372036854775807 := by omega
  clear h h2 e1 e2 hl
  have hl' : ((m : Int) != (m : Int)) = false := by simp
  go_enter Try.func34, Try.ntmps34
  go_wp2
  go_loopw [5] (fun i wr => ∃ k : Nat, k ≤ m ∧ i = .int .i64 k ∧ Below w.heap.size w wr) (fun i _ => m - (intOf i).toNat)
  case atStart => exact ⟨0, Nat.zero_le _, rfl, Below.refl _ _⟩
  case round =>
    obtain ⟨k, hk, rfl, hbel⟩ := hrel
    by_cases hlt : k < m
    · have hlt' : k < ss.length := by rw [← HL.out]; exact hlt
      obtain ⟨b0, off, cs, rfl, ⟨u0, u1, u2, rfl, hu0, hu1, hu2, -⟩, hc⟩ := (sl_elsR (HI.out.below _ hbel (Nat.le_refl _))).1 k hlt'
      obtain ⟨b2, off2, ds, rfl, ⟨v0, v1, v2, rfl, hv0, hv1, hv2, -⟩, hd⟩ := (sl_elsR (HJ.out.below _ hbel (Nat.le_refl _))).1 k hlt'
      have x0 := hc 0 _ rfl; have x1 := hc 1 _ rfl; have x2 := hc 2 _ rfl; have x3 := hc 3 _ rfl; have x4 := hc 4 _ rfl; have x5 := hc 5 _ rfl
      have y0 := hd 0 _ rfl; have y1 := hd 1 _ rfl; have y2 := hd 2 _ rfl; have y3 := hd 3 _ rfl; have y4 := hd 4 _ rfl; have y5 := hd 5 _ rfl
      simp only [show stpRep.n = 6 from rfl, Nat.add_zero] at x0 x1 x2 x3 x4 x5 y0 y1 y2 y3 y4 y5
      obtain ⟨ua0, uc0, rfl⟩ := hu0.form0; obtain ⟨ua1, uc1, rfl⟩ := hu1.form0; obtain ⟨ua2, uc2, rfl⟩ := hu2.form0
      obtain ⟨va0, vc0, rfl⟩ := hv0.form0; obtain ⟨va1, vc1, rfl⟩ := hv1.form0; obtain ⟨va2, vc2, rfl⟩ := hv2.form0
      have hz0 : (0 : Int) ≤ (k : Int) := by omega
      have hz1 : (k : Int) < (m : Int) := by omega
      have HBEL := Lib.hid hbel
      generalize ss[k] = s at x0 x1 x2 x3 x4 x5 y0 y1 y2 y3 y4 y5 hu0 hu1 hu2 hv0 hv1 hv2
      have HS0 := Lib.hid (fun q : BelowW wr => rsame02_eq q.world _ _ _ _ _ _ _ (hu0.below _ q.below (Nat.le_refl _)) (hv0.below _ q.below (Nat.le_refl _)))
      have HS1 := Lib.hid (fun q : BelowW wr => rpolys_eq q.world _ _ _ _ _ _ _ (hu1.below _ q.below (Nat.le_refl _)) (hv1.below _ q.below (Nat.le_refl _)))
      have HS2 := Lib.hid (fun q : BelowW wr => rops11_eq q.world _ _ _ _ _ _ _ (hu2.below _ q.below (Nat.le_refl _)) (hv2.below _ q.below (Nat.le_refl _)))
      have f0 := cellBW x0; have f1 := cellBW x1; have f2 := cellBW x2; have f3 := cellBW x3; have f4 := cellBW x4; have f5 := cellBW x5
      have g0 := cellBW y0; have g1 := cellBW y1; have g2 := cellBW y2; have g3 := cellBW y3; have g4 := cellBW y4; have g5 := cellBW y5
      have q0 : (s.how != s.how) = false := by simp
      have q1 : (s.buf != s.buf) = false := by simp
      have q2 : (s.fn != s.fn) = false := by simp
      clear hbel x0 x1 x2 x3 x4 x5 y0 y1 y2 y3 y4 y5 hu0 hu1 hu2 hv0 hv1 hv2 hlt' hc hd
      go_upto_region 6 with fail
      simp only [List.append_eq, List.cons_append, List.nil_append]
      refine wp_region_below (by kernel_rfl) (by kernel_rfl) ?_
      repeat (go_big_quiet_step (first | (go_at_call 29; refine callsBW (HS0.out _)) | (go_at_call 35; refine callsBW (HS1.out _)) | (go_at_call 12; refine callsBW (HS2.out _))))
      refine wpQuiet_nil ?_
      rintro _ ⟨⟨wq, hwq⟩, rfl⟩
      have HQ := Lib.hid (HBEL.out.trans (hwq.mono HBEL.out.size))
      clear f0 f1 f2 f3 f4 f5 g0 g1 g2 g3 g4 g5 HS0 HS1 HS2
      go_wp2_with fail
      go_roundw
      case rel => exact ⟨k + 1, by omega, by go_num, HQ.out⟩
      case measure => simp [intOf] <;> omega
    · have HQ := Lib.hid hbel
      clear hbel
      go_wp2
      go_ret
      exact ⟨rfl, HQ.out⟩
end Go.Proofs.Ytmlfeocdcjhhaaa

namespace Go.Proofs.Ytmlfeocdcjhhaaa
set_option maxRecDepth 100000
open Go.RowKit
set_option linter.unusedVariables false
set_option linter.unusedSimpArgs false
attribute [local go_sem ↓] Go.wp_at_zero Go.wp_at_succ

/-! windrowref11.Same: two cores that are the same. -/
/-- a core in a block of its own -/
structure CBox (w W : World) (z : Nat) (vars : Int) (vb vs vo : Value) : Prop where
  x : W.heap[z]? = some (.cells #[.int .i64 vars, vb, vs, vo] 33 (0, 0))
  b : Below w.heap.size w W
section
variable {w W W' : World} {z : Nat} {vars : Int} {vb vs vo : Value}
theorem CBox.next (h : CBox w W z vars vb vs vo) (hb : Below W.heap.size W W') : CBox w W' z vars vb vs vo := ⟨block_below h.x hb, bNext hb h.b⟩
theorem CBox.new (w : World) (vars : Int) (vb vs vo : Value) : CBox w (w.alloc (.cells #[.int .i64 vars, vb, vs, vo] 33)) w.heap.size vars vb vs vo := ⟨World.alloc_heap_new _ _, (Below.refl _ _).alloc (Nat.le_refl _) _⟩
theorem CBox.put {W0 : World} (hb : Below w.heap.size w W0) (hz : W0.heap.size = z) (vars : Int) (vb vs vo : Value) : CBox w (W0.alloc (.cells #[.int .i64 vars, vb, vs, vo] 33)) z vars vb vs vo := by
  subst hz
  exact ⟨World.alloc_heap_new _ _, hb.alloc hb.size _⟩
theorem CBox.c0 (h : CBox w W z vars vb vs vo) : W.cell? ⟨z, 0, none⟩ = some (.int .i64 vars) := cell_of_row W z 0 _ _ _ h.x
theorem CBox.c1 (h : CBox w W z vars vb vs vo) : W.cell? ⟨z, 1, none⟩ = some vb := cell_of_row W z 1 _ _ _ h.x
theorem CBox.c2 (h : CBox w W z vars vb vs vo) : W.cell? ⟨z, 2, none⟩ = some vs := cell_of_row W z 2 _ _ _ h.x
theorem CBox.c3 (h : CBox w W z vars vb vs vo) : W.cell? ⟨z, 3, none⟩ = some vo := cell_of_row W z 3 _ _ _ h.x
end
def CV (c : Cor) (vb vs vo : Value) : Value := .agg #[.int .i64 c.vars, vb, vs, vo]
set_option maxHeartbeats 8000000 in
theorem rsame11_eq (w : World) (c : Cor) (b1 s1 o1 b2 s2 o2 : Value) (h : CorAt w b1 s1 o1 c) (h2 : CorAt w b2 s2 o2 c) :
    Calls Try.prog 15 #[CV c b1 s1 o1, CV c b2 s2 o2] w fun e w' => e = .returned (.bool true) ∧ Below w.heap.size w w' := by
  obtain ⟨hb1, hs1, ho1, hv⟩ := h
  obtain ⟨hb2, hs2, ho2, -⟩ := h2
  obtain ⟨ba, bc, rfl⟩ := hb1.form0; obtain ⟨sa, sc, rfl⟩ := hs1.form0; obtain ⟨oa, oc, rfl⟩ := ho1.form0
  obtain ⟨ba2, bc2, rfl⟩ := hb2.form0; obtain ⟨sa2, sc2, rfl⟩ := hs2.form0; obtain ⟨oa2, oc2, rfl⟩ := ho2.form0
  have hbl := (sl_elsR hb1).2.2; have hol := (sl_elsR ho1).2.2
  obtain ⟨vars, bufs, steps, outs⟩ := c
  dsimp only at hb1 hs1 ho1 hb2 hs2 ho2 hbl hol ⊢
  obtain ⟨n, hn⟩ : ∃ n, bufs.length = n := ⟨_, rfl⟩
  obtain ⟨m, hm⟩ : ∃ n, outs.length = n := ⟨_, rfl⟩
  obtain ⟨q, hq⟩ : ∃ n, steps.length = n := ⟨_, rfl⟩
  rw [hn] at hbl hb1 hb2; rw [hm] at hol ho1 ho2; rw [hq] at hs1 hs2
  have HN := Lib.hid hn; have HM := Lib.hid hm
  have B1 := Lib.hid hb1; have B2 := Lib.hid hb2; have S1 := Lib.hid hs1; have S2 := Lib.hid hs2; have O1 := Lib.hid ho1; have O2 := Lib.hid ho2
  unfold CV
  dsimp only
  rw [hn, hm, hq]
  have q0 : (vars != vars) = false := by simp
  have q1 : ((n : Int) != (n : Int)) = false := by simp
  have q2 : ((m : Int) != (m : Int)) = false := by simp
  clear hb1 hb2 hs1 hs2 ho1 ho2 hv hn hm hq
  obtain ⟨z, hz⟩ : ∃ z, w.heap.size = z := ⟨_, rfl⟩
  have h1 := CBox.new w vars (.slice ba n bc) (.slice sa q sc) (.slice oa m oc)
  have h2 := CBox.put (z := z + 1) h1.b (by simp [hz]) vars (.slice ba2 n bc2) (.slice sa2 q sc2) (.slice oa2 m oc2)
  have h1 := h1.next ((Below.refl _ _).alloc (Nat.le_refl _) (.cells #[.int .i64 vars, .slice ba2 n bc2, .slice sa2 q sc2, .slice oa2 m oc2] 33))
  have X1 := Lib.hid h1; have X2 := Lib.hid h2
  clear h1 h2
  go_enter Try.func15, Try.ntmps15
  go_upto_region 1 with fail
  refine gen_worldA (fun W => CBox w W w.heap.size vars (.slice ba n bc) (.slice sa q sc) (.slice oa m oc) ∧ CBox w W (z + 1) vars (.slice ba2 n bc2) (.slice sa2 q sc2) (.slice oa2 m oc2)) ⟨X1.out, X2.out⟩ ?_
  rw [hz]
  clear X1 X2
  rintro W ⟨h1, h2⟩
  have X1 := Lib.hid h1; have X2 := Lib.hid h2
  have x0 := h1.c0; have x1 := h1.c1; have x2 := h1.c2; have x3 := h1.c3
  have y0 := h2.c0; have y1 := h2.c1; have y2 := h2.c2; have y3 := h2.c3
  have HQ := Lib.hid (rsteps_eq W _ _ _ _ _ _ _ (S1.out.below _ h1.b (Nat.le_refl _)) (S2.out.below _ h1.b (Nat.le_refl _)))
  clear h1 h2 hz
  go_wp2_with fail
  refine HQ.out.mono ?_
  rintro e W1 ⟨rfl, hb⟩
  have X1 := Lib.hid (X1.out.next hb); have X2 := Lib.hid (X2.out.next hb)
  clear HQ hb x0 x1 x2 x3 y0 y1 y2 y3
  go_wp2_with fail
  go_loopw [5] (fun i wr => ∃ k : Nat, k ≤ n ∧ i = .int .i64 k ∧ Below W1.heap.size W1 wr) (fun i _ => n - (intOf i).toNat)
  case atStart => exact ⟨0, Nat.zero_le _, rfl, Below.refl _ _⟩
  case round =>
    obtain ⟨k, hk, rfl, hbel⟩ := hrel
    have x1 := (X1.out.next hbel).c1; have y1 := (X2.out.next hbel).c1
    have hw := bNext hbel X1.out.b
    by_cases hlt : k < n
    · have hlt' : k < bufs.length := by rw [HN.out]; exact hlt
      obtain ⟨p0, off, cs, rfl, ⟨u, rfl, hu, -⟩, hc⟩ := (sl_elsR (B1.out.below _ hw (Nat.le_refl _))).1 k hlt'
      obtain ⟨p2, off2, ds, rfl, ⟨v, rfl, hv, -⟩, hd⟩ := (sl_elsR (B2.out.below _ hw (Nat.le_refl _))).1 k hlt'
      have s0 := hc 0 _ rfl; have s1 := hc 1 _ rfl
      have t0 := hd 0 _ rfl; have t1 := hd 1 _ rfl
      simp only [show bufRep.n = 2 from rfl, Nat.add_zero] at s0 s1 t0 t1
      obtain ⟨ua, uc, rfl⟩ := hu.form0; obtain ⟨va, vc, rfl⟩ := hv.form0
      have hz0 : (0 : Int) ≤ (k : Int) := by omega
      have hz1 : (k : Int) < (n : Int) := by omega
      have HBEL := Lib.hid hbel
      generalize bufs[k] = bu at s0 s1 t0 t1 hu hv
      have q3 : (bu.input != bu.input) = false := by simp
      have HS := Lib.hid (fun q : BelowW wr => rpolys_eq q.world _ _ _ _ _ _ _ (hu.below _ q.below (Nat.le_refl _)) (hv.below _ q.below (Nat.le_refl _)))
      have f0 := cellBW s0; have f1 := cellBW s1; have g0 := cellBW t0; have g1 := cellBW t1; have fx := cellBW x1; have gx := cellBW y1
      clear hbel hw s0 s1 t0 t1 hu hv hlt' hc hd
      go_upto_region 6 with fail
      refine wp_region_below (by kernel_rfl) (by kernel_rfl) ?_
      repeat (go_big_quiet_step (refine callsBW (HS.out _)))
      refine wpQuiet_nil ?_
      rintro _ ⟨⟨wq, hwq⟩, rfl⟩
      have HQ := Lib.hid (HBEL.out.trans (hwq.mono HBEL.out.size))
      clear f0 f1 g0 g1 fx gx HS
      go_wp2_with fail
      go_roundw
      case rel => exact ⟨k + 1, by omega, by go_num, HQ.out⟩
      case measure => simp [intOf] <;> omega
    · have X1 := Lib.hid (X1.out.next hbel); have X2 := Lib.hid (X2.out.next hbel)
      obtain ⟨W2, rfl⟩ : ∃ W : World, W = wr := ⟨_, rfl⟩
      clear hbel hw y1
      go_wp2_with fail
      clear x1 hlt hk
      go_loopw [6] (fun i wr => ∃ k : Nat, k ≤ m ∧ i = .int .i64 k ∧ Below W2.heap.size W2 wr) (fun i _ => m - (intOf i).toNat)
      case atStart => exact ⟨0, Nat.zero_le _, rfl, Below.refl _ _⟩
      case round =>
        obtain ⟨k, hk, rfl, hbel⟩ := hrel
        have x3 := (X1.out.next hbel).c3; have y3 := (X2.out.next hbel).c3
        have hw := bNext hbel X1.out.b
        by_cases hlt : k < m
        · have hlt' : k < outs.length := by rw [HM.out]; exact hlt
          obtain ⟨p0, off, cs, rfl, ⟨rfl, -⟩, hc⟩ := (sl_elsR (O1.out.below _ hw (Nat.le_refl _))).1 k hlt'
          obtain ⟨p2, off2, ds, rfl, ⟨rfl, -⟩, hd⟩ := (sl_elsR (O2.out.below _ hw (Nat.le_refl _))).1 k hlt'
          have s0 := hc 0 _ rfl
          have t0 := hd 0 _ rfl
          simp only [show (Rep.int .i64).n = 1 from rfl, Nat.add_zero, Nat.mul_one] at s0 t0
          have hz0 : (0 : Int) ≤ (k : Int) := by omega
          have hz1 : (k : Int) < (m : Int) := by omega
          have HBEL := Lib.hid hbel
          generalize outs[k] = o at s0 t0
          have q3 : (o != o) = false := by simp
          have f0 := cellBW s0; have g0 := cellBW t0; have fx := cellBW x3; have gx := cellBW y3
          clear hbel hw s0 t0 hlt' hc hd
          go_upto_region 11 with fail
          refine wp_region_below (by kernel_rfl) (by kernel_rfl) ?_
          repeat (go_big_quiet_step (fail))
          refine wpQuiet_nil ?_
          rintro _ ⟨⟨wq, hwq⟩, rfl⟩
          have HQ := Lib.hid (HBEL.out.trans (hwq.mono HBEL.out.size))
          clear f0 g0 fx gx
          go_wp2_with fail
          go_roundw
          case rel => exact ⟨k + 1, by omega, by go_num, HQ.out⟩
          case measure => simp [intOf] <;> omega
        · have X1 := Lib.hid (X1.out.next hbel)
          clear hbel hw
          go_wp2_with fail
          go_ret
          exact ⟨rfl, X1.out.b⟩
end Go.Proofs.Ytmlfeocdcjhhaaa
