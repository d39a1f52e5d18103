/-
  ArrayCells: the law returns true for every input, and what was handed in reads as it did. No condition.
-/
import Derived.Test.YtbhhmfkipfedfaaW16
import Derived.Test.YtbhhmfkipfedfaaShown
import Derived.Test.YtbhhmfkipfedfaaOpen
namespace Go.Proofs.Ytbhhmfkipfedfaa
open Go.ChangeShapes Go.WideShapes Go.ChangeAt Go.RowKit Go.Joins
set_option linter.unusedVariables false

set_option maxRecDepth 100000 in
set_option maxHeartbeats 4000000 in
theorem ArrayCells_walk (w : World) (va vb : Value) (s d : List Int) (k : Int) (q0 : SlI .i64 w va s) (q1 : SlI .i64 w vb d) (_ : (Lit.int .i64 k).wf = true) :
    Calls Try.prog 7 #[.agg #[va, vb], .int .i64 k] w fun e w' => e = .returned (.bool true) ∧ Below w.heap.size w w' := by
  obtain ⟨a0, c0, rfl, hm1, hm2, h0, -⟩ := q0
  obtain ⟨a1, c1, rfl, hn1, hn2, h1, -⟩ := q1
  have hs := Nat.le_trans hm1 hm2
  have hd := Nat.le_trans hn1 hn2
  have k1 := fun W (hB : Below w.heap.size w W) => cell_any W a0 a1 c0 c1 s d k hs hm1 hn1 (h0.below hB (Nat.le_refl _)) (h1.below hB (Nat.le_refl _))
  have k2 := fun W (hB : Below w.heap.size w W) => rcell_any W a0 a1 c0 c1 s d k hs hm1 hn1 (h0.below hB (Nat.le_refl _)) (h1.below hB (Nat.le_refl _))
  have k3 := fun W (hB : Below w.heap.size w W) => lanes_any W a0 a1 c0 c1 s d hs hn1 (h0.below hB (Nat.le_refl _)) (h1.below hB (Nat.le_refl _))
  have k4 := fun W (hB : Below w.heap.size w W) => rlanes_any W a0 a1 c0 c1 s d hs hn1 (h0.below hB (Nat.le_refl _)) (h1.below hB (Nat.le_refl _))
  generalize cell s d k = cc at k1 k2
  generalize lanes s d = ll at k3 k4
  obtain ⟨⟨cs, cd⟩, ce⟩ := cc
  obtain ⟨lx, le⟩ := ll
  have K1 := Lib.hid k1; have K2 := Lib.hid k2; have K3 := Lib.hid k3; have K4 := Lib.hid k4; clear k1 k2 k3 k4 h0 h1
  go_enter Try.func7, Try.ntmps7
  go_wp2_with fail
  obtain ⟨W0, hW0⟩ : ∃ W0, w.alloc (.cells #[.slice a0 s.length c0, .slice a1 d.length c1] 24) = W0 := ⟨_, rfl⟩
  have hB0 : Below w.heap.size w W0 := by rw [← hW0]; exact (Below.refl _ _).alloc (Nat.le_refl _) _
  have hsz0 : w.heap.size < W0.heap.size := by rw [← hW0]; simp
  have hS0 : W0.cell? ⟨w.heap.size, 0, none⟩ = some (.slice a0 s.length c0) := by rw [← hW0]; simp [go_sem]
  have hS1 : W0.cell? ⟨w.heap.size, 1, none⟩ = some (.slice a1 d.length c1) := by rw [← hW0]; simp [go_sem]
  have HS0 := Lib.hid hS0; have HS1 := Lib.hid hS1; clear hS0 hS1
  rw [hW0]
  clear hW0
  refine (shown_any _).mono ?_
  rintro e w1 ⟨rfl, hB1⟩
  have hz1 := Nat.lt_of_lt_of_le hsz0 hB1.size
  have hS0 := (hB1.cell (p := ⟨w.heap.size, 0, none⟩) hsz0).trans HS0.out
  have hS1 := (hB1.cell (p := ⟨w.heap.size, 1, none⟩) hsz0).trans HS1.out
  go_wp2_with fail
  refine (K1.out _ (hB0.trans (hB1.mono hB0.size))).mono ?_
  rintro e w2 ⟨⟨p, u, rfl, hp, hu, -⟩, hb⟩
  have hB2 := bNext hb hB1
  obtain ⟨ap, cp, rfl, hpl, hpi⟩ := hp.slice
  obtain ⟨au, cu, rfl, hul, hui⟩ := hu.slice
  have hz2 := Nat.lt_of_lt_of_le hsz0 hB2.size
  have hS0 := (hB2.cell (p := ⟨w.heap.size, 0, none⟩) hsz0).trans HS0.out
  have hS1 := (hB2.cell (p := ⟨w.heap.size, 1, none⟩) hsz0).trans HS1.out
  have Hpi := Lib.hid hpi; have Hui := Lib.hid hui
  clear hb hB1 hpi hui hp hu
  go_wp2_with fail
  refine (K2.out _ (hB0.trans ((hB2.alloc hB2.size _).mono hB0.size))).mono ?_
  rintro e w3 ⟨⟨p', u', rfl, hp, hu, -⟩, hb⟩
  have hB3 : Below W0.heap.size W0 w3 := bAfter (hB2.alloc hB2.size _) (by have := hB2.size; simp; omega) hb
  have hB23 : Below w2.heap.size w2 w3 := bAfter ((Below.refl _ _).alloc (Nat.le_refl _) _) (by simp) hb
  obtain ⟨aq, cq, rfl, hql, hqi⟩ := hp.slice
  obtain ⟨av, cv, rfl, hvl, hvi⟩ := hu.slice
  have hz3 := Nat.lt_of_lt_of_le hsz0 hB3.size
  have hz23 : w2.heap.size < w3.heap.size := by have := hb.size; simp at this; omega
  have hC0 : w3.cell? ⟨w2.heap.size, 0, none⟩ = some (.slice ap cs.length cp) := by rw [hb.cell (p := ⟨w2.heap.size, 0, none⟩) (by simp)]; simp [go_sem]
  have hC1 : w3.cell? ⟨w2.heap.size, 1, none⟩ = some (.slice au cd.length cu) := by rw [hb.cell (p := ⟨w2.heap.size, 1, none⟩) (by simp)]; simp [go_sem]
  have hS0 := (hB3.cell (p := ⟨w.heap.size, 0, none⟩) hsz0).trans HS0.out
  have hS1 := (hB3.cell (p := ⟨w.heap.size, 1, none⟩) hsz0).trans HS1.out
  have Hpi3 := Lib.hid (Hpi.out.below hB23 (Nat.le_refl _)); have Hui3 := Lib.hid (Hui.out.below hB23 (Nat.le_refl _)); have Hqi := Lib.hid hqi; have Hvi := Lib.hid hvi; have HC0 := Lib.hid hC0; have HC1 := Lib.hid hC1
  clear hb hB2 hB23 hqi hvi hp hu Hpi Hui hC0 hC1
  go_wp2_with fail
  refine (K3.out _ (hB0.trans ((hB3.alloc hB3.size _).mono hB0.size))).mono ?_
  rintro e w4 ⟨⟨p', rfl, hl⟩, hb⟩
  have hB4 : Below W0.heap.size W0 w4 := bAfter (hB3.alloc hB3.size _) (by have := hB3.size; simp; omega) hb
  have hB34 : Below w3.heap.size w3 w4 := bAfter ((Below.refl _ _).alloc (Nat.le_refl _) _) (by simp) hb
  obtain ⟨al, cl, rfl, hll, hlr⟩ := hl.slice
  have hz4 := Nat.lt_of_lt_of_le hsz0 hB4.size
  have hz34 : w3.heap.size < w4.heap.size := by have := hb.size; simp at this; omega
  have hC2 : w4.cell? ⟨w3.heap.size, 0, none⟩ = some (.slice aq cs.length cq) := by rw [hb.cell (p := ⟨w3.heap.size, 0, none⟩) (by simp)]; simp [go_sem]
  have hC3 : w4.cell? ⟨w3.heap.size, 1, none⟩ = some (.slice av cd.length cv) := by rw [hb.cell (p := ⟨w3.heap.size, 1, none⟩) (by simp)]; simp [go_sem]
  have hS0 := (hB4.cell (p := ⟨w.heap.size, 0, none⟩) hsz0).trans HS0.out
  have hS1 := (hB4.cell (p := ⟨w.heap.size, 1, none⟩) hsz0).trans HS1.out
  have HC0 := Lib.hid ((hB34.cell (p := ⟨w2.heap.size, 0, none⟩) hz23).trans HC0.out); have HC1 := Lib.hid ((hB34.cell (p := ⟨w2.heap.size, 1, none⟩) hz23).trans HC1.out); have HC2 := Lib.hid hC2; have HC3 := Lib.hid hC3
  have Hpi := Lib.hid (Hpi3.out.below hB34 (Nat.le_refl _)); have Hui := Lib.hid (Hui3.out.below hB34 (Nat.le_refl _)); have Hqi3 := Lib.hid (Hqi.out.below hB34 (Nat.le_refl _)); have Hvi3 := Lib.hid (Hvi.out.below hB34 (Nat.le_refl _)); have HL := Lib.hid hlr
  clear hb hB3 hB34 hl hlr Hpi3 Hui3 Hqi Hvi hC2 hC3
  go_wp2_with fail
  refine (K4.out _ (hB0.trans (hB4.mono hB0.size))).mono ?_
  rintro e w5 ⟨⟨p', rfl, hl⟩, hb⟩
  have hB5 : Below W0.heap.size W0 w5 := bNext hb hB4
  obtain ⟨am, cm, rfl, hml, hmr⟩ := hl.slice
  have hz24 : w2.heap.size < w4.heap.size := by omega
  have hC0 := (hb.cell (p := ⟨w2.heap.size, 0, none⟩) hz24).trans HC0.out
  have hC1 := (hb.cell (p := ⟨w2.heap.size, 1, none⟩) hz24).trans HC1.out
  have hC2 := (hb.cell (p := ⟨w3.heap.size, 0, none⟩) hz34).trans HC2.out
  have hC3 := (hb.cell (p := ⟨w3.heap.size, 1, none⟩) hz34).trans HC3.out
  have hsame := same_any w5 ap au aq av cp cu cq cv cs cd cs cd hpl hul hql hvl (Hpi.out.below hb (Nat.le_refl _)) (Hui.out.below hb (Nat.le_refl _)) (Hqi3.out.below hb (Nat.le_refl _)) (Hvi3.out.below hb (Nat.le_refl _))
  rw [show (ints cs cs && ints cd cd) = true from by simp [ints]] at hsame
  have HSame := Lib.hid hsame; have Hb45 := Lib.hid hb; have HM := Lib.hid hmr
  clear hb hB4 hl hmr Hpi Hui Hqi3 Hvi3 hsame hS0 hS1 HC0 HC1 HC2 HC3
  go_wp2_with fail
  refine HSame.out.mono ?_
  rintro e w6 ⟨rfl, hb⟩
  have hB6 : Below W0.heap.size W0 w6 := bNext hb hB5
  have hrows : ∀ i, (hi : i < lx.length) → ∃ b off a c b' off' a' c', al = some ⟨b, off, none⟩ ∧ am = some ⟨b', off', none⟩ ∧ w6.cell? ⟨b, off + i, none⟩ = some (.slice a lx[i].length c) ∧ w6.cell? ⟨b', off' + i, none⟩ = some (.slice a' lx[i].length c') ∧
      lx[i].length ≤ maxLen ∧ IntsAt .i64 w6 a lx[i] ∧ IntsAt .i64 w6 a' lx[i] := fun i hi => by
    obtain ⟨b, off, z, e1, e2, e3⟩ := HL.out i hi
    obtain ⟨b', off', z', e1', e2', e3'⟩ := HM.out i hi
    obtain ⟨a, c, rfl, hzl, hzi⟩ := e3.slice
    obtain ⟨a', c', rfl, _, hzi'⟩ := e3'.slice
    have h46 := bNext hb Hb45.out
    exact ⟨b, off, a, c, b', off', a', c', e1, e1', (h46.cell (p := ⟨b, off + i, none⟩) (World.block_lt_of_cell? w4 _ e2)).trans e2, (hb.cell (p := ⟨b', off' + i, none⟩) (World.block_lt_of_cell? w5 _ e2')).trans e2', hzl, hzi.below h46 (Nat.le_refl _), hzi'.below hb (Nat.le_refl _)⟩
  have HR := Lib.hid hrows
  unfold maxLen at hll
  clear hrows hb HSame hB5 hC0 hC1 hC2 hC3 hpl hul hql hvl hml
  go_wp2_with fail
  go_loopw [61] (fun i wr => ∃ (j n : Nat), j ≤ lx.length ∧ i = .int .i64 (j : Int) ∧ wr = w6.drewN n) (fun i _ => lx.length - (intOf i).toNat)
  case atStart => exact ⟨0, 0, Nat.zero_le _, rfl, rfl⟩
  case round =>
    obtain ⟨j, n, hj, rfl, hw⟩ := hrel
    have Hw := Lib.hid hw
    by_cases hlt : j < lx.length
    · obtain ⟨b, off, a, c, b', off', a', c', rfl, rfl, e2, e2', hzl, hzi, hzi'⟩ := HR.out j hlt
      have hz0 : (0 : Int) ≤ (j : Int) := by omega
      have hz1 : (j : Int) < (lx.length : Int) := by omega
      have hi := fun m => ints_any (wr.drewN m) a a' c c' lx[j] lx[j] hzl hzl (by rw [hw]; exact hzi) (by rw [hw]; exact hzi')
      have f2 : wr.cell? ⟨b, off + j, none⟩ = some (.slice a lx[j].length c) := by rw [hw]; exact e2
      have f2' : wr.cell? ⟨b', off' + j, none⟩ = some (.slice a' lx[j].length c') := by rw [hw]; exact e2'
      clear e2 e2' hw
      rw [show ints lx[j] lx[j] = true from by simp [ints]] at hi
      have HIn := Lib.hid hi; clear hi hzl hzi hzi'
      go_wp2_with fail
      go_quiet ((go_at_call 18; exact Calls.quiet_of (HIn.out _)))
      go_wp2_with fail
      go_roundw
      case rel => exact ⟨j + 1, _, by omega, by go_num, by rw [Hw.out]; exact World.drewN_drewN _ _ _⟩
      case measure => simp [intOf]; omega
    · clear hw
      go_wp2_with fail
      go_ret
      refine ⟨rfl, ?_⟩
      rw [Hw.out]
      exact (hB0.trans (hB6.mono hB0.size)).trans (Below.drewN _ _)

set_option maxRecDepth 100000 in
theorem ArrayCells_lifted (os : Os) (started : os.Started) (H : Type) (enc : TypeId × Value → H) :
    ReturnsInHanded {} Try.checked os 7 .any (Rows.arrayCellsSpec.pre6 enc Try.prog Try.f7 Rows.arrayCellsRow.domain false) (Rows.arrayCellsSpec.post enc Try.prog Try.f7 false true false false) := by
  refine returnsInHanded_of_change (C := Try.checked) own started (by kernel_rfl) Try.func7
    (ChangeSpec.witness6 (enc := enc) (C := Try.checked) false ⟨#[], #[.agg #[.slice none 0 0, .slice none 0 0], .int .i64 0], []⟩ 8 (by kernel_rfl) (by kernel_rfl) (by kernel_rfl) (by kernel_rfl)) ?_
  intro W base args ds gs before hval0 hW hcnd _
  have hval : ∀ (j : Nat) t v, Try.f7.params[j]? = some t → args[j]? = some v → Value.okWide Try.prog W .any base t v := hval0
  have hW' := hW
  obtain ⟨p, q, hA0, hV, rfl, hfz, hnd⟩ := hW
  have hA : DataW.TrodAll enc Try.prog W 0 (fun _ => true) true Try.f7.params.toList args.toList ds p := hA0
  rw [Try.params7] at hA hval
  obtain ⟨v0, vs0, d0, ds0, p0, q0, hargs, rfl, rfl, h0, r0⟩ := trodAll_cons hA
  obtain ⟨v1, vs1, d1, ds1, p1, q1, rfl, rfl, rfl, h1, r1⟩ := trodAll_cons r0
  obtain ⟨rfl, rfl, rfl⟩ := trodAll_nil r1
  obtain rfl : args = #[v0, v1] := by cases args; simp_all
  obtain ⟨rfl, rfl⟩ := trodVars_none hV
  have k0 := h0
  have lt0 : ∀ x ∈ p0, x.block < W.heap.size := by obtain ⟨m, hm⟩ := k0; exact DataW.trod_lt m _ _ _ hm
  obtain ⟨va0, vb0, ya0, yb0, n0, rfl, -, -, ta0, tb0⟩ := open_agg2 Try.underlying24 (by kernel_rfl) (by kernel_rfl) (hval 0 24 v0 rfl rfl) h0
  obtain ⟨xs0, s0⟩ := sl_of_trod Try.underlying22 Try.underlying2 (by kernel_rfl) ta0
  obtain ⟨ys0, u0⟩ := sl_of_trod Try.underlying22 Try.underlying2 (by kernel_rfl) tb0
  obtain ⟨a1, rfl, rfl, rfl, w1⟩ := open_int Try.underlying2 (hval 1 2 v1 rfl rfl) h1
  clear hA0 hval0
  refine (ArrayCells_walk W va0 vb0 xs0 ys0 a1 s0 u0 w1).mono fun e W' ⟨he, bel⟩ => ?_
  subst he
  exact ⟨_, rfl, _, _, _, [], _, [], hW', trodAll_mk1 (shut_bool Try.underlying4 _), (trodAll_cons_mk (Below.trod laidOut (by kernel_rfl) (of_decide_eq_true (by kernel_rfl)) k0 bel lt0) (trodAll_cons_mk (shut_int Try.underlying2 w1) trodAll_mk0)), rfl, bel.frame _, fun h => by cases h⟩

/-- The given statement. -/
theorem ArrayCells_holds : Rows.ArrayCellsSaid :=
  OpenClaim.holds_of_wide 7 Try.f7 rfl rfl rfl rfl rfl rfl rfl ⟨rfl, rfl, rfl, rfl, rfl⟩ rfl rfl rfl rfl rfl (by kernel_rfl) Try.func7 (by kernel_rfl)
    (of_decide_eq_true (by kernel_rfl)) (by unfold Func.isWrapper; rw [if_neg (by decide +kernel)]; exact ⟨rfl, rfl⟩)
    (fun os started H enc _ => ArrayCells_lifted os started H enc)
#print axioms ArrayCells_holds
end Go.Proofs.Ytbhhmfkipfedfaa
