/-
  PrimTwice: the law returns true for every input, and what was handed in reads as it did. No condition.
-/
import Derived.Test.YtmjkncmpanhgjaaBX
namespace Go.Proofs.Ytmjkncmpanhgjaa
set_option maxRecDepth 100000
open Go.ChangeShapes Go.WideShapes Go.ChangeAt Go.RowKit Go.Joins
set_option linter.unusedVariables false
set_option linter.unusedSimpArgs false

set_option maxHeartbeats 8000000 in
theorem PrimTwice_no (w : World) (va vb : Value) (s d : List Int) (hs : SlA w va s) (hd : SlA w vb d) (hr : right s d = false) :
    Calls Try.prog 7 #[.agg #[va, vb]] w fun e w' => e = .returned (.bool true) ∧ Below w.heap.size w w' := by
  have HS := Lib.hid hs; have HD := Lib.hid hd; have HR := Lib.hid hr
  obtain ⟨a0, c0, rfl, -⟩ := hs
  obtain ⟨a1, c1, rfl, -⟩ := hd
  have HM0 := Lib.hid (mon_bad 35 hr); have HM1 := Lib.hid (mon_bad 35 right_none)
  have HT0 := Lib.hid (Rt.noA (e := 60) (by decide)); have HT1 := HT0
  unfold noA at HT0 HT1 HM0 HM1
  clear hr
  go_enter Try.func7, Try.ntmps7
  go_upto_region 1 with fail
  refine gen_worldA (fun W => BoxA w W (.slice a0 s.length c0) (.slice a1 d.length c1)) (BoxA.mk0 _ _ _) ?_
  rintro W hO
  have HO := Lib.hid hO
  clear hO
  go_wp2_with fail
  refine (shown_any _).mono ?_
  rintro e' W0 ⟨rfl, hb⟩
  have HO := Lib.hid (HO.out.next hb)
  clear hb
  obtain ⟨z, hz⟩ : ∃ z, W0.heap.size = z := ⟨_, rfl⟩
  have hzc : (W0.alloc (.cells #[.int .u8 35, .int .u8 36] 29)).heap[z]? = some (.cells #[.int .u8 35, .int .u8 36] 29 (0, 0)) := by rw [← hz]; exact World.alloc_heap_new _ _
  have HO := Lib.hid (HO.out.next ((Below.refl _ _).alloc (Nat.le_refl _) (.cells #[.int .u8 35, .int .u8 36] 29)))
  have HZ := Lib.hid hzc
  clear hzc
  go_wp2_with fail
  go_loopw [13] (fun i wr => i = .int .i64 0 ∧ BoxA w wr (.slice a0 s.length c0) (.slice a1 d.length c1) ∧ wr.heap[z]? = some (.cells #[.int .u8 35, .int .u8 36] 29 (0, 0))) (fun _ _ => 0)
  case atStart => exact ⟨rfl, HO.out, HZ.out⟩
  case round =>
    obtain ⟨rfl, hO, hZ⟩ := hrel
    clear HO HZ hz
    have HO := Lib.hid hO
    have x0 := HO.out.c0; have x1 := HO.out.c1
    have z0 := cell_of_row wr z 0 _ _ _ hZ
    clear hO hZ
    have hq := pm_any wr 35 _ _ s d (HS.out.below HO.out.b) (HD.out.below HO.out.b)
    rw [HM0.out] at hq
    have HQ := Lib.hid hq
    clear hq
    go_wp2_with fail
    refine HQ.out.mono ?_
    rintro e' X0 ⟨hr, hb⟩
    obtain ⟨p0, q0, r0, t0, rfl, hs0, hd0⟩ := ret_own (S := []) (D := []) (E := 60) hr
    obtain ⟨b0, hb0⟩ : ∃ b, X0.heap.size = b := ⟨_, rfl⟩
    have hba : Below X0.heap.size X0 (X0.alloc (.cells #[.slice p0 0 q0, .slice r0 0 t0] 24)) := (Below.refl _ _).alloc (Nat.le_refl _) _
    have hbc := bNext hba hb
    have HO := Lib.hid (HO.out.next hbc)
    have K0 := Lib.hid (KeptR.new (b := b0) hb0 hs0 hd0 HT0.out.i1 HT0.out.i2)
    clear HQ hr hs0 hd0 hb hba hbc x0 x1 z0
    go_upto_region 6 with fail
    refine gen_worldA (fun W => BoxA w W (.slice a0 s.length c0) (.slice a1 d.length c1) ∧ KeptR W b0 (.slice p0 0 q0) (.slice r0 0 t0) [] []) ⟨HO.out, K0.out⟩ ?_
    rintro W2 ⟨hO, k0⟩
    clear HO K0 hb0
    have HO := Lib.hid hO; have K0 := Lib.hid k0
    clear hO k0
    have y0 := K0.out.c0; have y1 := K0.out.c1
    have hq := pm_any W2 35 _ _ _ _ K0.out.sv K0.out.su
    rw [HM1.out] at hq
    have HQ := Lib.hid hq
    clear hq
    go_wp2_with fail
    refine HQ.out.mono ?_
    rintro e' X1 ⟨hr, hb⟩
    obtain ⟨p1, q1, r1, t1, rfl, hs1, hd1⟩ := ret_own (S := []) (D := []) (E := 60) hr
    obtain ⟨b1, hb1⟩ : ∃ b, X1.heap.size = b := ⟨_, rfl⟩
    have hba : Below X1.heap.size X1 (X1.alloc (.cells #[.slice p1 0 q1, .slice r1 0 t1] 24)) := (Below.refl _ _).alloc (Nat.le_refl _) _
    have hbc := bNext hba hb
    have HO := Lib.hid (HO.out.next hbc)
    have K0 := Lib.hid (K0.out.next hbc)
    clear HQ hr hs1 hd1 hb hba hbc y0 y1
    go_upto_region 7 with fail
    refine gen_worldA (fun W => BoxA w W (.slice a0 s.length c0) (.slice a1 d.length c1) ∧ KeptR W b0 (.slice p0 0 q0) (.slice r0 0 t0) [] []) ⟨HO.out, K0.out⟩ ?_
    rintro W3 ⟨hO, k0⟩
    clear HO K0 hb1
    have HO := Lib.hid hO; have K0 := Lib.hid k0
    have x0 := HO.out.c0; have x1 := HO.out.c1; have y0 := K0.out.c0; have y1 := K0.out.c1
    clear hO k0
    have hq := aright_sl W3 _ _ s d (HS.out.below HO.out.b) (HD.out.below HO.out.b)
    rw [HR.out] at hq
    have HQ := Lib.hid hq
    clear hq
    go_wp2_with fail
    refine HQ.out.mono ?_
    rintro e' W4 ⟨rfl, hb⟩
    have HO := Lib.hid (HO.out.next hb)
    have K0 := Lib.hid (K0.out.next hb)
    clear HQ x0 x1 y0 y1 hb
    have y0 := K0.out.c0; have y1 := K0.out.c1
    go_wp2_with fail
    go_ret
    exact ⟨rfl, HO.out.b⟩
set_option maxHeartbeats 8000000 in
theorem PrimTwice_yes (w : World) (va vb : Value) (s d : List Int) (hs : SlA w va s) (hd : SlA w vb d) (hr : right s d = true) :
    Calls Try.prog 7 #[.agg #[va, vb]] w fun e w' => e = .returned (.bool true) ∧ Below w.heap.size w w' := by
  have HS := Lib.hid hs; have HD := Lib.hid hd; have HR := Lib.hid hr
  obtain ⟨a0, c0, rfl, -⟩ := hs
  obtain ⟨a1, c1, rfl, -⟩ := hd
  have HT35 := Lib.hid (Rt.okA (right_same hr (revD_len hr)) (fun x hx => in_of HD.out x (revD_mem hr hx)))
  have HT36 := Lib.hid (Rt.okA (right_same (by rw [right_reverse]; exact hr) (turnD_len s d)) (turnD_in (in_of HD.out)))
  have HT1 := Lib.hid (Rt.okA hr (in_of HD.out))
  have HF : Hid (∀ k : Nat, k < 2 → ∃ (f : Int) (S D : List Int), #[Value.int .u8 35, .int .u8 36][k]? = some (.int .u8 f) ∧ monadA f s d = ((S, D), 0) ∧ monadA f S D = ((s, d), 0) ∧ S.length = s.length ∧ Rt ((S, D), 0)) := Lib.hid (fun k hk => by
    have hk2 : k = 0 ∨ k = 1 := by omega
    rcases hk2 with rfl | rfl
    · exact ⟨35, s, revD s d, rfl, mon_rev hr, mon_rev2 hr, rfl, HT35.out⟩
    · exact ⟨36, s.reverse, turnD s d, rfl, mon_turn hr, mon_turn2 hr, by simp, HT36.out⟩)
  clear HT35 HT36
  unfold okA at HT1
  clear hr
  go_enter Try.func7, Try.ntmps7
  go_upto_region 1 with fail
  refine gen_worldA (fun W => BoxA w W (.slice a0 s.length c0) (.slice a1 d.length c1)) (BoxA.mk0 _ _ _) ?_
  rintro W hO
  have HO := Lib.hid hO
  clear hO
  go_wp2_with fail
  refine (shown_any _).mono ?_
  rintro e' W0 ⟨rfl, hb⟩
  have HO := Lib.hid (HO.out.next hb)
  clear hb
  obtain ⟨z, hz⟩ : ∃ z, W0.heap.size = z := ⟨_, rfl⟩
  have hzc : (W0.alloc (.cells #[.int .u8 35, .int .u8 36] 29)).heap[z]? = some (.cells #[.int .u8 35, .int .u8 36] 29 (0, 0)) := by rw [← hz]; exact World.alloc_heap_new _ _
  have HO := Lib.hid (HO.out.next ((Below.refl _ _).alloc (Nat.le_refl _) (.cells #[.int .u8 35, .int .u8 36] 29)))
  have HZ := Lib.hid hzc
  clear hzc
  go_wp2_with fail
  go_loopw [13] (fun i wr => ∃ k : Nat, k ≤ 2 ∧ i = .int .i64 k ∧ BoxA w wr (.slice a0 s.length c0) (.slice a1 d.length c1) ∧ wr.heap[z]? = some (.cells #[.int .u8 35, .int .u8 36] 29 (0, 0))) (fun i _ => 2 - (intOf i).toNat)
  case atStart => exact ⟨0, by omega, rfl, HO.out, HZ.out⟩
  case round =>
    obtain ⟨k, hk, rfl, hO, hZ⟩ := hrel
    by_cases hlt : k < 2
    · obtain ⟨f, S, D, hf, hm0, hm1, hl, ht0⟩ := HF.out k hlt
      have HM0 := Lib.hid hm0; have HM1 := Lib.hid hm1; have HL := Lib.hid hl; have HT0 := Lib.hid ht0
      have HLI := Lib.hid (show (((S.length : Nat) : Int) != (s.length : Int)) = false by rw [hl]; simp)
      clear HO HZ hz hm0 hm1 hl ht0
      have HO := Lib.hid hO; have HZ := Lib.hid hZ
      have x0 := HO.out.c0; have x1 := HO.out.c1
      have z0 := (cell_of_row wr z k _ _ _ hZ).trans hf
      clear hO hZ hf
      have hq := pm_any wr f _ _ s d (HS.out.below HO.out.b) (HD.out.below HO.out.b)
      rw [HM0.out] at hq
      have HQ := Lib.hid hq
      clear hq
      go_wp2_with fail
      refine HQ.out.mono ?_
      rintro e' X0 ⟨hr, hb⟩
      obtain ⟨p0, q0, r0, t0, rfl, hs0, hd0⟩ := ret_own (S := S) (D := D) (E := 0) hr
      obtain ⟨b0, hb0⟩ : ∃ b, X0.heap.size = b := ⟨_, rfl⟩
      have hba : Below X0.heap.size X0 (X0.alloc (.cells #[.slice p0 S.length q0, .slice r0 D.length t0] 24)) := (Below.refl _ _).alloc (Nat.le_refl _) _
      have hbc := bNext hba hb
      have HO := Lib.hid (HO.out.next hbc)
      have HZ := Lib.hid (block_below HZ.out hbc)
      have K0 := Lib.hid (KeptR.new (b := b0) hb0 hs0 hd0 HT0.out.i1 HT0.out.i2)
      clear HQ hr hs0 hd0 hb hba hbc x0 x1 z0
      go_upto_region 6 with fail
      refine gen_worldA (fun W => BoxA w W (.slice a0 s.length c0) (.slice a1 d.length c1) ∧ KeptR W b0 (.slice p0 S.length q0) (.slice r0 D.length t0) S D ∧ W.heap[z]? = some (.cells #[.int .u8 35, .int .u8 36] 29 (0, 0))) ⟨HO.out, K0.out, HZ.out⟩ ?_
      rintro W2 ⟨hO, k0, hZ⟩
      clear HO K0 hb0 HZ
      have HO := Lib.hid hO; have K0 := Lib.hid k0; have HZ := Lib.hid hZ
      clear hO k0 hZ
      have y0 := K0.out.c0; have y1 := K0.out.c1
      have hq := pm_any W2 f _ _ _ _ K0.out.sv K0.out.su
      rw [HM1.out] at hq
      have HQ := Lib.hid hq
      clear hq
      go_wp2_with fail
      refine HQ.out.mono ?_
      rintro e' X1 ⟨hr, hb⟩
      obtain ⟨p1, q1, r1, t1, rfl, hs1, hd1⟩ := ret_own (S := s) (D := d) (E := 0) hr
      obtain ⟨b1, hb1⟩ : ∃ b, X1.heap.size = b := ⟨_, rfl⟩
      have hba : Below X1.heap.size X1 (X1.alloc (.cells #[.slice p1 s.length q1, .slice r1 d.length t1] 24)) := (Below.refl _ _).alloc (Nat.le_refl _) _
      have hbc := bNext hba hb
      have HO := Lib.hid (HO.out.next hbc)
      have HZ := Lib.hid (block_below HZ.out hbc)
      have K0 := Lib.hid (K0.out.next hbc)
      have K1 := Lib.hid (KeptR.new (b := b1) hb1 hs1 hd1 HT1.out.i1 HT1.out.i2)
      clear HQ hr hs1 hd1 hb hba hbc y0 y1
      go_upto_region 7 with fail
      refine gen_worldA (fun W => BoxA w W (.slice a0 s.length c0) (.slice a1 d.length c1) ∧ KeptR W b0 (.slice p0 S.length q0) (.slice r0 D.length t0) S D ∧ KeptR W b1 (.slice p1 s.length q1) (.slice r1 d.length t1) s d ∧ W.heap[z]? = some (.cells #[.int .u8 35, .int .u8 36] 29 (0, 0))) ⟨HO.out, K0.out, K1.out, HZ.out⟩ ?_
      rintro W3 ⟨hO, k0, k1, hZ⟩
      clear HO K0 K1 hb1 HZ
      have HO := Lib.hid hO; have K0 := Lib.hid k0; have K1 := Lib.hid k1; have HZ := Lib.hid hZ
      have x0 := HO.out.c0; have x1 := HO.out.c1; have y0 := K1.out.c0; have y1 := K1.out.c1
      clear hO k0 k1 hZ
      have HQ := Lib.hid (same_is K1.out.sv K1.out.su (HS.out.below HO.out.b) (HD.out.below HO.out.b))
      go_wp2_with fail
      refine HQ.out.mono ?_
      rintro e' W4 ⟨rfl, hb⟩
      have HO := Lib.hid (HO.out.next hb)
      have K0 := Lib.hid (K0.out.next hb)
      have HZ := Lib.hid (block_below HZ.out hb)
      clear HQ x0 x1 y0 y1 hb
      have x0 := HO.out.c0; have x1 := HO.out.c1; have y0 := K0.out.c0; have y1 := K0.out.c1
      have hli := HLI.out
      go_wp2_with fail
      go_roundw
      case rel => exact ⟨k + 1, by omega, by go_num, HO.out, HZ.out⟩
      case measure => simp [intOf] <;> omega
    · obtain rfl : k = 2 := by omega
      have HO := Lib.hid hO
      clear hO hZ
      go_wp2_with fail
      go_ret
      exact ⟨rfl, HO.out.b⟩
theorem PrimTwice_walk (w : World) (va vb : Value) (s d : List Int) (hs : SlA w va s) (hd : SlA w vb d) :
    Calls Try.prog 7 #[.agg #[va, vb]] w fun e w' => e = .returned (.bool true) ∧ Below w.heap.size w w' := by
  cases hr : right s d with
  | false => exact PrimTwice_no w va vb s d hs hd hr
  | true => exact PrimTwice_yes w va vb s d hs hd hr

set_option maxRecDepth 100000 in
theorem PrimTwice_lifted (os : Os) (started : os.Started) (H : Type) (enc : TypeId × Value → H) :
    ReturnsInHanded {} Try.checked os 7 .any (Rows.primTwiceSpec.pre6 enc Try.prog Try.f7 Rows.primTwiceRow.domain false) (Rows.primTwiceSpec.post enc Try.prog Try.f7 false true false false) := by
  refine returnsInHanded_of_change (C := Try.checked) own started (by kernel_rfl) Try.func7
    (ChangeSpec.witness6 (enc := enc) (C := Try.checked) false ⟨#[], #[.agg #[.slice none 0 0, .slice none 0 0]], []⟩ 8 (by kernel_rfl) (by kernel_rfl) (by kernel_rfl) (by kernel_rfl)) ?_
  intro W base args ds gs before hval0 hW hcnd _
  have hval : ∀ (j : Nat) t v, Try.f7.params[j]? = some t → args[j]? = some v → Value.okWide Try.prog W .any base t v := hval0
  have hW' := hW
  obtain ⟨p, q, hA0, hV, rfl, hfz, hnd⟩ := hW
  have hA : DataW.TrodAll enc Try.prog W 0 (fun _ => true) true Try.f7.params.toList args.toList ds p := hA0
  rw [Try.params7] at hA hval
  obtain ⟨v0, vs0, d0, ds0, p0, q0, hargs, rfl, rfl, h0, r0⟩ := trodAll_cons hA
  obtain ⟨rfl, rfl, rfl⟩ := trodAll_nil r0
  obtain rfl : args = #[v0] := by cases args; simp_all
  obtain ⟨rfl, rfl⟩ := trodVars_none hV
  have k0 := h0
  have lt0 : ∀ x ∈ p0, x.block < W.heap.size := by obtain ⟨m, hm⟩ := k0; exact DataW.trod_lt m _ _ _ hm
  obtain ⟨xs0, ys0, va0, vb0, rfl, s0, u0⟩ := open_arrA (hval 0 24 v0 rfl rfl) h0
  clear hA0 hval0
  refine (PrimTwice_walk W va0 vb0 xs0 ys0 s0 u0).mono fun e W' ⟨he, bel⟩ => ?_
  subst he
  exact ⟨_, rfl, _, _, _, [], _, [], hW', trodAll_mk1 (shut_bool Try.underlying4 _), (trodAll_cons_mk (Below.trod laidOut (by kernel_rfl) (of_decide_eq_true (by kernel_rfl)) k0 bel lt0) trodAll_mk0), rfl, bel.frame _, fun h => by cases h⟩

/-- The given statement. -/
theorem PrimTwice_holds : Rows.PrimTwiceSaid :=
  OpenClaim.holds_of_wide 7 Try.f7 rfl rfl rfl rfl rfl rfl rfl ⟨rfl, rfl, rfl, rfl, rfl⟩ rfl rfl rfl rfl rfl (by kernel_rfl) Try.func7 (by kernel_rfl)
    (of_decide_eq_true (by kernel_rfl)) (by unfold Func.isWrapper; rw [if_neg (by decide +kernel)]; exact ⟨rfl, rfl⟩)
    (fun os started H enc _ => PrimTwice_lifted os started H enc)
#print axioms PrimTwice_holds
end Go.Proofs.Ytmjkncmpanhgjaa
