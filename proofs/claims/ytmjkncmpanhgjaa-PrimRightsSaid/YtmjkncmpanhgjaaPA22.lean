import Derived.Test.YtmjkncmpanhgjaaPA20
namespace Go.Proofs.Ytmjkncmpanhgjaa
set_option maxRecDepth 100000
open Go.RowKit
set_option linter.unusedVariables false
set_option linter.unusedSimpArgs false

/-! windrowref07.cat. -/
theorem SideV.mono {w W wr : World} {v V : Value} {s : List Int} (h : SideV W wr v V s) (hb : w.heap.size ≤ W.heap.size) : SideV w wr v V s := by
  rcases h with h | ⟨h, hr⟩
  · exact .inl h
  · exact .inr ⟨h, hr.mono hb⟩
theorem Duo.putAx {w W : World} {v u v2 u2 : Value} (h : Duo w W v u v2 u2) (z z' : Value) : Duo w ((W.setCell ⟨w.heap.size, 0, none⟩ z).setCell ⟨w.heap.size, 1, none⟩ z') z z' v2 u2 := by
  have h1 := h.put0 z
  exact ⟨heap_setCell_same _ _ 1 _ _ _ h1.x, block_other h1.y (by show w.heap.size ≠ w.heap.size + 1; omega) _, block_other h1.r (by show w.heap.size ≠ w.heap.size + 2; omega) _, h1.b.setCell (p := ⟨w.heap.size, 1, none⟩) (Nat.le_refl _) _⟩
theorem Duo.putAy {w W : World} {v u v2 u2 : Value} (h : Duo w W v u v2 u2) (z z' : Value) : Duo w ((W.setCell ⟨w.heap.size + 1, 0, none⟩ z).setCell ⟨w.heap.size + 1, 1, none⟩ z') v u z z' := by
  have h1 := h.put2 z
  exact ⟨block_other h1.x (by show w.heap.size + 1 ≠ w.heap.size; omega) _, heap_setCell_same _ _ 1 _ _ _ h1.y, block_other h1.r (by show w.heap.size + 1 ≠ w.heap.size + 2; omega) _, h1.b.setCell (p := ⟨w.heap.size + 1, 1, none⟩) (by show _ ≤ w.heap.size + 1; omega) _⟩
theorem SideV.put {w wr : World} {v V : Value} {s : List Int} {g : Nat} {cs : Array Value} (h : SideV w wr v V s) (hg : wr.heap[g]? = some (.cells cs 24 (0, 0))) (z z' : Value) :
    SideV w ((wr.setCell ⟨g, 0, none⟩ z).setCell ⟨g, 1, none⟩ z') v V s := by
  have h1 : KeepTy 2 wr (wr.setCell ⟨g, 0, none⟩ z) := KeepTy.setCell (p := ⟨g, 0, none⟩) (NotTy.of hg (by decide)) _
  have h2 := heap_setCell_same wr g 0 _ _ z hg
  exact (h.keep h1).keep (KeepTy.setCell (p := ⟨g, 1, none⟩) (NotTy.of h2 (by decide)) _)
set_option maxHeartbeats 8000000 in
theorem rcat_any (w : World) (v u v2 u2 : Value) (s d t e : List Int) (hs : SlA w v s) (hd : SlA w u d) (ht : SlA w v2 t) (he : SlA w u2 e) (hr1 : right s d = true) (hr2 : right t e = true) :
    Calls Try.prog 57 #[.agg #[v, u], .agg #[v2, u2]] w fun e' w' => RetArr w.heap.size (catA s d t e) e' w' ∧ Below w.heap.size w w' := by
  have hs4 := (right_good hr1).2.len
  have hd6 := (right_good hr1).2.le
  have ht4 := (right_good hr2).2.len
  have he6 := (right_good hr2).2.le
  have HSL := Lib.hid hs; have HTL := Lib.hid ht; have HDL := Lib.hid hd; have HEL := Lib.hid he
  have HSB := Lib.hid (sided_bd hr1); have HTB := Lib.hid (sided_bd hr2)
  obtain ⟨n1, hn1⟩ : ∃ n, (sided s).length = n := ⟨_, rfl⟩
  obtain ⟨n2, hn2⟩ : ∃ n, (sided t).length = n := ⟨_, rfl⟩
  have HN1 := Lib.hid hn1; have HN2 := Lib.hid hn2
  clear hr1 hr2 hn1 hn2
  have HS0 := Lib.hid hs.src; have HS1 := Lib.hid hd.src; have HS2 := Lib.hid ht.src; have HS3 := Lib.hid he.src
  obtain ⟨a0, c0, rfl, h01, h02, -, h04, -⟩ := hs
  obtain ⟨a1, c1, rfl, h11, h12, -, h14, hin⟩ := hd
  obtain ⟨a2, c2, rfl, h21, h22, -, h24, -⟩ := ht
  obtain ⟨a3, c3, rfl, h31, h32, -, h34, hie⟩ := he
  have h02' : c0 ≤ 9223372036854775807 := h02
  have h12' : c1 ≤ 9223372036854775807 := h12
  have h22' : c2 ≤ 9223372036854775807 := h22
  have h32' : c3 ≤ 9223372036854775807 := h32
  have HM : Hid (s.length ≤ maxLen) := Lib.hid (Nat.le_trans h01 h02)
  have HM2 : Hid (t.length ≤ maxLen) := Lib.hid (Nat.le_trans h21 h22)
  have H0 := Lib.hid h04; have H1 := Lib.hid h14; have HIN := Lib.hid hin
  have H2 := Lib.hid h24; have H3 := Lib.hid h34; have HIE := Lib.hid hie
  have HO := Lib.hid (Duo.mk0 w (.slice a0 s.length c0) (.slice a1 d.length c1) (.slice a2 t.length c2) (.slice a3 e.length c3))
  obtain ⟨r, HRR⟩ : ∃ r, Hid ((catA s d t e) = r) := ⟨_, Lib.hid rfl⟩
  rw [HRR.out]
  clear h04 h14 h24 h34 h02 h12 h22 h32 hin hie
  go_enter Try.func57, Try.ntmps57
  go_upto_region 1 with fail
  refine gen_worldA (fun W => Duo w W (.slice a0 s.length c0) (.slice a1 d.length c1) (.slice a2 t.length c2) (.slice a3 e.length c3)) HO.out ?_
  rintro W1 hO
  have HO2 := Lib.hid hO
  have x0 := hO.c0; have x1 := hO.c1; have x2 := hO.c2; have x3 := hO.c3
  clear HO hO
  have hq := rsided_any W1 (.slice a0 s.length c0) (.slice a1 d.length c1) s d (HSL.out.below HO2.out.b) (HDL.out.below HO2.out.b)
  have HQ := Lib.hid hq
  clear hq
  go_wp2_with fail
  refine HQ.out.mono ?_
  rintro e' W2 ⟨V, rfl, hv, hb2⟩
  have hO3 := HO2.out.next hb2
  have hv := hv.mono HO2.out.b.size
  obtain ⟨A0, C0, e0, -⟩ := hv.sl HSL.out hO3.b
  rw [HN1.out] at e0
  subst e0
  have f0 := frozen_of_row W2 w.heap.size 0 _ _ hO3.x; have f1 := frozen_of_row W2 w.heap.size 1 _ _ hO3.x
  have y0 := hO3.c0; have y1 := hO3.c1
  have HO4 := Lib.hid (hO3.putAx (.slice A0 n1 C0) (.slice a1 d.length c1))
  have HV4 := Lib.hid (hv.put hO3.x (.slice A0 n1 C0) (.slice a1 d.length c1))
  clear hv hO3 hb2 HQ HO2 x0 x1 x2 x3
  go_upto_region 2 with fail
  refine gen_worldA (fun W => Duo w W (.slice A0 n1 C0) (.slice a1 d.length c1) (.slice a2 t.length c2) (.slice a3 e.length c3) ∧ SideV w W (.slice a0 s.length c0) (.slice A0 n1 C0) s) ⟨HO4.out, HV4.out⟩ ?_
  rintro W3 ⟨hO, hv⟩
  have HO5 := Lib.hid hO; have HV5 := Lib.hid hv
  have x2 := hO.c2; have x3 := hO.c3
  have hq := rsided_any W3 (.slice a2 t.length c2) (.slice a3 e.length c3) t e (HTL.out.below hO.b) (HEL.out.below hO.b)
  have HQ := Lib.hid hq
  clear hq hO hv f0 f1 y0 y1 HO4 HV4
  go_wp2_with fail
  refine HQ.out.mono ?_
  rintro e' W4 ⟨V, rfl, hv, hb4⟩
  have hO6 := HO5.out.next hb4
  have hv := hv.mono HO5.out.b.size
  obtain ⟨A2, C2, e0, -⟩ := hv.sl HTL.out hO6.b
  rw [HN2.out] at e0
  subst e0
  have f0 := frozen_of_row W4 (w.heap.size + 1) 0 _ _ hO6.y; have f1 := frozen_of_row W4 (w.heap.size + 1) 1 _ _ hO6.y
  have y0 := hO6.c2; have y1 := hO6.c3
  have HO7 := Lib.hid (hO6.putAy (.slice A2 n2 C2) (.slice a3 e.length c3))
  have HV7 := Lib.hid ((HV5.out.keep (KeepTy.below hb4)).put hO6.y (.slice A2 n2 C2) (.slice a3 e.length c3))
  have HV8 := Lib.hid (hv.put hO6.y (.slice A2 n2 C2) (.slice a3 e.length c3))
  clear hv hO6 hb4 HQ HO5 HV5 x2 x3
  go_upto_region 3 with fail
  refine gen_worldA (fun W => Duo w W (.slice A0 n1 C0) (.slice a1 d.length c1) (.slice A2 n2 C2) (.slice a3 e.length c3) ∧ SideV w W (.slice a0 s.length c0) (.slice A0 n1 C0) s ∧ SideV w W (.slice a2 t.length c2) (.slice A2 n2 C2) t) ⟨HO7.out, HV7.out, HV8.out⟩ ?_
  rintro wc ⟨hO, hv1, hv2⟩
  clear f0 f1 y0 y1 HO7 HV7 HV8
  have hS := hv1.sl HSL.out hO.b
  have hT := hv2.sl HTL.out hO.b
  have HSS := Lib.hid hS.src
  have hSl : (sided s).length ≤ 4 := by unfold sided; split; (· simp); (· omega)
  have hTl : (sided t).length ≤ 4 := by unfold sided; split; (· simp); (· omega)
  have hS0 : 0 < (sided s).length := by unfold sided; split; (· simp); (· omega)
  have hT0 : 0 < (sided t).length := by unfold sided; split; (· simp); (· omega)
  have hcat : catA s d t e = if (sided s).length ≠ (sided t).length ∨ (sided s).tail ≠ (sided t).tail then noA 72 else
    (if (size (((sided s).headD 0 + (sided t).headD 0) :: (sided s).tail)).2 ≠ 0 then noA 74 else okA (((sided s).headD 0 + (sided t).headD 0) :: (sided s).tail) (d ++ e)) := rfl
  rw [hcat] at HRR
  have hSb : 0 ≤ (sided s).headD 0 ∧ (sided s).headD 0 ≤ 65536 := HSB.out
  have hTb : 0 ≤ (sided t).headD 0 ∧ (sided t).headD 0 ≤ 65536 := HTB.out
  generalize sided s = S at hS hSl hS0 HRR hSb HN1 HSS
  generalize sided t = T at hT hTl hT0 HRR hTb HN2
  rw [HN1.out] at HSS hSl hS0
  rw [HN2.out] at hTl hT0
  obtain ⟨A0', C0', e0, hA1, hA2, -, hA4, -⟩ := hS
  obtain ⟨A2', C2', e2, hB1, hB2, -, hB4, -⟩ := hT
  rw [HN1.out] at e0 hA1
  rw [HN2.out] at e2 hB1
  cases e0; cases e2
  have hA2' : C0 ≤ 9223372036854775807 := hA2
  have hB2' : C2 ≤ 9223372036854775807 := hB2
  have hsd : S.getD 0 0 = S.headD 0 := by cases S <;> rfl
  have htd : T.getD 0 0 = T.headD 0 := by cases T <;> rfl
  have HA := Lib.hid hA4; have HA2 := Lib.hid hB4; have HSD := Lib.hid hsd; have HTD := Lib.hid htd
  have x0 := hO.c0; have x2 := hO.c2
  have f0 := cellBW x0; have f2 := cellBW x2
  have HO5 := Lib.hid hO
  clear hv1 hv2 hcat HSL HTL HDL HEL hA4 hB4 hsd htd hA2 hB2 hO HSB HTB x0 x2
  by_cases hl : n1 = n2
  case neg =>
    rw [if_pos (.inl (by rw [HN1.out, HN2.out]; exact hl))] at HRR
    have hlI : ((n1 : Int) != (n2 : Int)) = true := by rw [bne_iff_ne]; omega
    clear hl
    go_upto_region 3 with fail
    refine wp_region_below (by kernel_rfl) (by kernel_rfl) ?_
    repeat (go_big_quiet_step (fail))
    refine wpQuiet_nil ?_
    rintro wq ⟨⟨_, hwq⟩, rfl⟩
    have HO6 := Lib.hid (HO5.out.next hwq)
    have hq := rno_at wq w.heap.size HO6.out.b.size 72 r HRR.out
    have HQ := Lib.hid hq; have HR := Lib.hid HO6.out.r; have HB := Lib.hid HO6.out.b
    clear hq hwq HO5 f0 f2
    go_wp2_with fail
    refine (Hid.out HQ).mono ?_
    rintro e w9 ⟨⟨v9, u9, rfl, hv9, hu9, hap9⟩, hb9⟩
    have hR9 := block_below (Hid.out HR) hb9
    have HV9 := Lib.hid hv9; have HU9 := Lib.hid hu9; have HAP9 := Lib.hid hap9; have HR9 := Lib.hid hR9
    have HB9 := Lib.hid (bNext hb9 (Hid.out HB))
    obtain ⟨a9, c9, rfl, -, -⟩ := RowI.slice hv9
    obtain ⟨a8, c8, rfl, -, -⟩ := RowI.slice hu9
    have g0 := cell_of_row w9 _ 0 _ _ _ hR9; have g1 := cell_of_row w9 _ 1 _ _ _ hR9
    have z0 := frozen_of_row w9 _ 0 _ _ hR9; have z1 := frozen_of_row w9 _ 1 _ _ hR9
    clear hv9 hu9 hap9 hb9 hR9
    go_wp2_with fail
    exact fin_arr rfl rfl rfl HR9.out HV9.out HU9.out HAP9.out HB9.out (by omega)
  subst hl
  have HO6 := HO5
  have sl1 : ∀ W, (Instr.sliceAt 22 (.slice A0 n1 C0) (some (.int .i64 1)) none none).run Try.prog W = .ok (.slice (subA A0 C0 1) (n1 - 1) (C0 - 1)) W := fun W => slice_lo W A0 n1 C0 .i64 1 (by omega) (by omega)
  have sl2 : ∀ W, (Instr.sliceAt 22 (.slice A2 n1 C2) (some (.int .i64 1)) none none).run Try.prog W = .ok (.slice (subA A2 C2 1) (n1 - 1) (C2 - 1)) W := fun W => slice_lo W A2 n1 C2 .i64 1 (by omega) (by omega)
  have hcut1 : IntsAt .i64 wc (subA A0 C0 1) S.tail := by
    have := HA.out.cut (l := 1) (n := S.length) (m := C0) (by rw [HN1.out]; omega)
    rwa [List.take_of_length_le (by simp), List.drop_one] at this
  have hcut2 : IntsAt .i64 wc (subA A2 C2 1) T.tail := by
    have := HA2.out.cut (l := 1) (n := T.length) (m := C2) (by rw [HN2.out]; omega)
    rwa [List.take_of_length_le (by simp), List.drop_one] at this
  have hl1 : S.tail.length = n1 - 1 := by simp [HN1.out]
  have hl2 : T.tail.length = n1 - 1 := by simp [HN2.out]
  have heq : ∀ p : BelowW wc, Calls Try.prog 28 #[.slice (subA A0 C0 1) (n1 - 1) (C0 - 1), .slice (subA A2 C2 1) (n1 - 1) (C2 - 1)] p.world fun e w' => e = .returned (.bool (ints S.tail T.tail)) ∧ Below p.world.heap.size p.world w' := fun p => by
    have := ints_any p.world (subA A0 C0 1) (subA A2 C2 1) (C0 - 1) (C2 - 1) S.tail T.tail (by rw [hl1]; unfold maxLen; omega) (by rw [hl2]; unfold maxLen; omega) (hcut1.below p.below (Nat.le_refl _)) (hcut2.below p.below (Nat.le_refl _))
    rw [hl1, hl2] at this
    exact this.mono fun e w' ⟨h1, n, h2⟩ => ⟨h1, h2 ▸ Below.drewN _ _⟩
  clear hcut1 hcut2 hl1 hl2 HO5
  generalize subA A0 C0 1 = B0 at sl1 heq
  generalize subA A2 C2 1 = B2 at sl2 heq
  have hint : ints S.tail T.tail = decide (S.tail = T.tail) := rfl
  rw [hint] at heq
  have hnn : ((n1 : Int) != (n1 : Int)) = false := by rw [bne_eq_false_iff_eq]
  by_cases htl : S.tail = T.tail
  case neg =>
    rw [if_pos (.inr htl)] at HRR
    rw [decide_eq_false htl] at heq
    have HEQ := Lib.hid heq
    clear htl hint heq
    go_upto_region 3 with fail
    refine wp_region_below (by kernel_rfl) (by kernel_rfl) ?_
    repeat (go_big_quiet_step ((go_at_call 28; refine callsBW (HEQ.out _))))
    refine wpQuiet_nil ?_
    rintro wq ⟨⟨_, hwq⟩, rfl⟩
    have HO7 := Lib.hid (HO6.out.next hwq)
    have hq := rno_at wq w.heap.size HO7.out.b.size 72 r HRR.out
    have HQ := Lib.hid hq; have HR := Lib.hid HO7.out.r; have HB := Lib.hid HO7.out.b
    clear hq hwq HO6 f0 f2 sl1 sl2 HEQ
    go_wp2_with fail
    refine (Hid.out HQ).mono ?_
    rintro e w9 ⟨⟨v9, u9, rfl, hv9, hu9, hap9⟩, hb9⟩
    have hR9 := block_below (Hid.out HR) hb9
    have HV9 := Lib.hid hv9; have HU9 := Lib.hid hu9; have HAP9 := Lib.hid hap9; have HR9 := Lib.hid hR9
    have HB9 := Lib.hid (bNext hb9 (Hid.out HB))
    obtain ⟨a9, c9, rfl, -, -⟩ := RowI.slice hv9
    obtain ⟨a8, c8, rfl, -, -⟩ := RowI.slice hu9
    have g0 := cell_of_row w9 _ 0 _ _ _ hR9; have g1 := cell_of_row w9 _ 1 _ _ _ hR9
    have z0 := frozen_of_row w9 _ 0 _ _ hR9; have z1 := frozen_of_row w9 _ 1 _ _ hR9
    clear hv9 hu9 hap9 hb9 hR9
    go_wp2_with fail
    exact fin_arr rfl rfl rfl HR9.out HV9.out HU9.out HAP9.out HB9.out (by omega)
  rw [if_neg (fun h => h.elim (fun h => h (by rw [HN1.out, HN2.out])) (fun h => h htl))] at HRR
  rw [decide_eq_true htl] at heq
  have HEQ := Lib.hid heq
  clear htl hint heq
  go_upto_region 3 with fail
  refine wp_region_below (by kernel_rfl) (by kernel_rfl) ?_
  repeat (go_big_quiet_step ((go_at_call 28; refine callsBW (HEQ.out _))))
  refine wpQuiet_nil ?_
  rintro wq ⟨⟨_, hwq⟩, rfl⟩
  have HO7 := Lib.hid (HO6.out.next hwq)
  have HWQ := Lib.hid hwq
  have hba : Below wq.heap.size wq (wq.alloc (.cells #[] 2)) := (Below.refl _ _).alloc (Nat.le_refl _) _
  have HLIT := Lib.hid (row_nil_lit wq.heap.size wq (Nat.le_refl _))
  have HO8 := Lib.hid (HO7.out.next hba)
  have hsz := hba.size
  have hwq2 := hwq.trans (hba.mono hwq.size)
  have HSR := Lib.hid (HSS.out.below hwq2)
  have HWQ2 := Lib.hid hwq2
  have x0 := HO7.out.c0
  have hlw0 := HO7.out.lt
  have hlw : w.heap.size < wq.heap.size := by omega
  have hlw1 : w.heap.size + 1 < wq.heap.size := by omega
  have hqb := HO7.out.b.size
  have hqc := hwq.size
  clear hwq HO6 f0 f2 sl1 sl2 HEQ HSS hnn hwq2 HWQ
  go_wp2_with (at_builtin; refine wpList_app rfl _ _ rfl wq.heap.size _ [] S _ n1 HN1.out rfl HLIT.out rfl HSR.out (by simp; omega) hsz ?_)
  intro v8 W5 hv8 hg8 hn8
  have hv5 : RowI wq.heap.size W5 v8 S := hv8
  have HO9 := Lib.hid (HO8.out.app (Below.refl _ _) (HLIT.out.mono hqb) hg8)
  have hb5 : Below wc.heap.size wc W5 := HWQ2.out.grown hg8 HWQ2.out.size (fun g e => Nat.le_trans hqc (HLIT.out.lt g e).1)
  have hv5 := hv5.mono hqb
  obtain ⟨G, c5, e5, hGB, hG⟩ := hv5.form (by rw [HN1.out]; omega)
  rw [HN1.out] at e5
  subst e5
  have hc5 := hv5.at (k := 0) (by rw [HN1.out]; omega)
  have hf5 := hv5.fr 0
  obtain ⟨b0, o0, rfl, hc0⟩ := HA.out.atD (k := 0) (by rw [HN1.out]; omega)
  obtain ⟨b2, o2, rfl, hc2⟩ := HA2.out.atD (k := 0) (by rw [HN2.out]; omega)
  have hc0 := keepCell hb5 hc0
  have hc2 := keepCell hb5 hc2
  rw [HTD.out, Nat.add_zero] at hc2
  rw [HSD.out, Nat.add_zero] at hc0
  rw [HSD.out] at hc5
  have hst0 : S.set 0 (S.headD 0 + T.headD 0) = (S.headD 0 + T.headD 0) :: S.tail := set_zero (by rw [HN1.out]; omega) _
  have hset := (hv5.drewN 1).set 0 (S.headD 0 + T.headD 0)
  rw [hst0] at hset
  have HOA := Lib.hid ((HO9.out.next (Below.drewN W5 1)).row2 (k := 0) (x := .int .i64 (S.headD 0 + T.headD 0)) (hv5.drewN 1))
  have hUl : ((S.headD 0 + T.headD 0) :: S.tail).length = n1 := by have := HN1.out; simp; omega
  clear hst0 x0
  generalize S.headD 0 = x at *
  generalize T.headD 0 = y at *
  generalize S.tail = tl at *
  have HSET := Lib.hid hset; have HUL := Lib.hid hUl
  have x0 := HO9.out.c0; have x2 := HO9.out.c2
  have hx1 := hSb.1; have hx2 := hSb.2; have hy1 := hTb.1; have hy2 := hTb.2
  clear hSb hTb hv5 hb5 hset hUl HLIT HO7 HO8 HWQ2 HA HA2 HSD HTD HN1 HN2 HSR hv8 hg8 hn8 hba
  go_wp2_with fail
  go_region
  go_upto_region 7 with fail
  refine gen_worldA (fun W => Duo w W (.slice (some ⟨b0, o0, none⟩) n1 C0) (.slice a1 d.length c1) (.slice (some ⟨b2, o2, none⟩) n1 C2) (.slice a3 e.length c3) ∧ RowI w.heap.size W (.slice (some ⟨G, 0, none⟩) n1 c5) ((x + y) :: tl)) ⟨HOA.out, HSET.out⟩ ?_
  rintro W6 ⟨hO, hv6⟩
  have hq := rsize_any W6 (some ⟨G, 0, none⟩) c5 ((x + y) :: tl) (by rw [HUL.out]; unfold maxLen; omega) hv6.ints
  rw [HUL.out] at hq
  obtain ⟨nz, er, hsz⟩ : ∃ nz er, size ((x + y) :: tl) = (nz, er) := ⟨_, _, rfl⟩
  rw [hsz] at hq HRR
  have HQ := Lib.hid hq; have HOB := Lib.hid hO; have HV7 := Lib.hid hv6
  have HGL := Lib.hid (show G < W6.heap.size from (hv6.lt G rfl).2)
  clear hq hO hv6 hsz hc5 hf5 hc0 hc2 x0 x2 HO9 HOA HSET hlw hlw0 hlw1 hqb hqc hG
  go_wp2_with fail
  refine HQ.out.mono ?_
  rintro e' W7 ⟨rfl, rfl⟩
  unfold two
  clear HQ
  by_cases her : er = 0
  case neg =>
    have her' : (er != 0) = true := by simpa using her
    rw [if_pos her] at HRR
    have hq := rno_at W6 w.heap.size HOB.out.b.size 74 r HRR.out
    have HQ := Lib.hid hq; have HR := Lib.hid HOB.out.r; have HB := Lib.hid HOB.out.b
    clear hq her
    go_wp2_with fail
    refine (Hid.out HQ).mono ?_
    rintro e w9 ⟨⟨v9, u9, rfl, hv9, hu9, hap9⟩, hb9⟩
    have hR9 := block_below (Hid.out HR) hb9
    have HV9 := Lib.hid hv9; have HU9 := Lib.hid hu9; have HAP9 := Lib.hid hap9; have HR9 := Lib.hid hR9
    have HB9 := Lib.hid (bNext hb9 (Hid.out HB))
    obtain ⟨a9, c9, rfl, -, -⟩ := RowI.slice hv9
    obtain ⟨a8, c8, rfl, -, -⟩ := RowI.slice hu9
    have g0 := cell_of_row w9 _ 0 _ _ _ hR9; have g1 := cell_of_row w9 _ 1 _ _ _ hR9
    have z0 := frozen_of_row w9 _ 0 _ _ hR9; have z1 := frozen_of_row w9 _ 1 _ _ hR9
    clear hv9 hu9 hap9 hb9 hR9
    go_wp2_with fail
    exact fin_arr rfl rfl rfl HR9.out HV9.out HU9.out HAP9.out HB9.out (by omega)
  subst her
  rw [if_neg (by decide)] at HRR
  go_upto_region 10 with fail
  have x1 := HOB.out.c1; have x3 := HOB.out.c3
  refine wp_region_Z (S := fun W' => W'.cell? ⟨w.heap.size, 1, none⟩ = some (.slice a1 d.length c1) ∧ W'.cell? ⟨w.heap.size + 1, 1, none⟩ = some (.slice a3 e.length c3)) (z := 11) (by kernel_rfl) ?_
  have hSS : (fun W' : World => W'.cell? ⟨w.heap.size, 1, none⟩ = some (.slice a1 d.length c1) ∧ W'.cell? ⟨w.heap.size + 1, 1, none⟩ = some (.slice a3 e.length c3)) W6.drew := ⟨x1, x3⟩
  refine wpAnyZ_take (i := 0) (v := ?_) rfl (by kernel_rfl) (by kernel_rfl) (by kernel_rfl) (fun _ _ _ h => h) (by kernel_rfl) (Or.inl ⟨by rfl, ?_⟩) (by assumption) ?_
  rotate_left
  · intro w' hSw
    try dsimp only at hSw
    try obtain ⟨hSw, hSw2⟩ := hSw
    go_simp
    try with_reducible rfl
  show wpAnyZ _ _ _ _ _ _ _ _ (Act.put _ (some 58) _) _
  simp only [Act.put, List.setIfInBounds_toArray, List.set_cons_zero, List.set_cons_succ]
  refine wpAnyZ_take (i := 2) (v := ?_) rfl (by kernel_rfl) (by kernel_rfl) (by kernel_rfl) (fun _ _ _ h => h) (by kernel_rfl) (Or.inl ⟨by rfl, ?_⟩) (by assumption) ?_
  rotate_left
  · intro w' hSw
    try dsimp only at hSw
    try obtain ⟨hSw, hSw2⟩ := hSw
    go_simp
    try with_reducible rfl
  show wpAnyZ _ _ _ _ _ _ _ _ (Act.put _ (some 60) _) _
  simp only [Act.put, List.setIfInBounds_toArray, List.set_cons_zero, List.set_cons_succ]
  refine wpAnyZ_take (i := 3) (v := ?_) rfl (by kernel_rfl) (by kernel_rfl) (by kernel_rfl) (fun _ _ _ h => h) (by kernel_rfl) (Or.inl ⟨by rfl, ?_⟩) (by assumption) ?_
  rotate_left
  · intro w' hSw
    try dsimp only at hSw
    try obtain ⟨hSw, hSw2⟩ := hSw
    go_simp
    try with_reducible rfl
  show wpAnyZ _ _ _ _ _ _ _ _ (Act.put _ (some 61) _) _
  simp only [Act.put, List.setIfInBounds_toArray, List.set_cons_zero, List.set_cons_succ]
  refine wpAnyZ_take (i := 5) (v := ?_) rfl (by kernel_rfl) (by kernel_rfl) (by kernel_rfl) (fun _ _ _ h => h) (by kernel_rfl) (Or.inl ⟨by rfl, ?_⟩) (by assumption) ?_
  rotate_left
  · intro w' hSw
    try dsimp only at hSw
    try obtain ⟨hSw, hSw2⟩ := hSw
    go_simp
    try with_reducible rfl
  show wpAnyZ _ _ _ _ _ _ _ _ (Act.put _ (some 63) _) _
  simp only [Act.put, List.setIfInBounds_toArray, List.set_cons_zero, List.set_cons_succ]
  refine wpAnyZ_take (i := 6) (v := ?_) rfl (by kernel_rfl) (by kernel_rfl) (by kernel_rfl) (fun _ _ _ h => h) (by kernel_rfl) (Or.inl ⟨by rfl, ?_⟩) (by assumption) ?_
  rotate_left
  · intro w' hSw
    try dsimp only at hSw
    try obtain ⟨hSw, hSw2⟩ := hSw
    go_simp
    try with_reducible rfl
  show wpAnyZ _ _ _ _ _ _ _ _ (Act.put _ (some 64) _) _
  simp only [Act.put, List.setIfInBounds_toArray, List.set_cons_zero, List.set_cons_succ]
  clear hSS x1 x3
  refine wpAnyZ_one (i := 1) (by kernel_rfl) rfl rfl (fun K hK => ?_)
  go_simp
  have hba : Below W6.heap.size W6 (W6.alloc (.cells #[] 2)).drew := ((Below.refl _ _).alloc (Nat.le_refl _) _).drew
  have HLIT : Hid (RowI W6.heap.size (W6.alloc (.cells #[] 2)).drew (.slice (some ⟨W6.heap.size, 0, none⟩) 0 0) []) := Lib.hid (row_nil_lit W6.heap.size W6 (Nat.le_refl _))
  have HOC := Lib.hid (HOB.out.next hba); have HVC := Lib.hid (HV7.out.below hba)
  refine hK.out _ _ (.inr ⟨HOC.out.c1, HOC.out.c3⟩) ?_
  have h6 := HOB.out.b.size
  have h6c := hba.size
  clear hK hba HV7
  generalize (W6.alloc (.cells #[] 2)).drew = W8 at HLIT HOC HVC h6c ⊢
  obtain ⟨L, hL⟩ : ∃ L, W6.heap.size = L := ⟨_, rfl⟩
  rw [hL] at HLIT HGL h6 h6c ⊢
  clear hL HOB
  refine wpAnyZ_one (i := 4) (by kernel_rfl) rfl rfl (fun K hK => ?_)
  refine wp_app (.tmp 59) (.tmp 61) rfl L (.slice (some ⟨L, 0, none⟩) 0 0) [] d _ d.length rfl rfl HLIT.out rfl (HS1.out.below HOC.out.b) (by simp; omega) h6c ?_
  intro v9 W9 hv9 hg9 hn9
  have hv9 : RowI L W9 v9 d := hv9
  have HOD := Lib.hid (HOC.out.app (Below.refl _ _) (HLIT.out.mono h6) hg9); have HV9 := Lib.hid hv9
  have HVD := Lib.hid (HVC.out.kept hg9 (.inr (fun e => by
    have e2 : G = L := Option.some.inj e
    have := HGL.out
    omega)))
  have h9 : L ≤ W9.heap.size := Nat.le_trans h6c hg9.size
  refine hK.out _ _ (.inr ⟨HOD.out.c1, HOD.out.c3⟩) ?_
  clear hK hv9 hg9 hn9 HLIT HOC HVC h6c
  refine wpAnyZ_one (i := 7) (by kernel_rfl) rfl rfl (fun K hK => ?_)
  refine wp_app (.tmp 62) (.tmp 64) rfl L v9 d e _ e.length rfl rfl HV9.out rfl (HS3.out.below HOD.out.b) (by omega) h9 ?_
  intro va WA hva hga hna
  have HOE := Lib.hid (HOD.out.app (Below.refl _ _) (HV9.out.mono h6) hga); have HVA := Lib.hid hva
  have HVE := Lib.hid (HVD.out.kept hga (.inr (fun e => by
    have h1 := (HV9.out.lt G e.symm).1
    have := HGL.out
    omega)))
  refine hK.out _ _ (.inr ⟨HOE.out.c1, HOE.out.c3⟩) ?_
  clear hK hva hga hna HV9 HOD HVD h9
  refine wpAnyZ_one (i := 8) (by kernel_rfl) rfl rfl (fun K hK => ?_)
  obtain ⟨aa, ca, ea, -, -⟩ := HVA.out.slice
  have hq := made_any WA w.heap.size HOE.out.b.size (.slice (some ⟨G, 0, none⟩) n1 c5) va ((x + y) :: tl) (d ++ e) ⟨_, _, by rw [HUL.out]⟩ HVE.out.src (by rw [HUL.out]; omega) (HVA.out.mono h6)
  rw [HRR.out] at hq
  rw [List.length_append] at ea
  subst ea
  go_simp
  refine hq.mono ?_
  rintro e' w9 ⟨⟨v9, u9, rfl, hv9, hu9, hap9⟩, hb9⟩
  have hO9 := HOE.out.next hb9
  have HV9 := Lib.hid hv9; have HU9 := Lib.hid hu9; have HAP9 := Lib.hid hap9; have HO9 := Lib.hid hO9
  obtain ⟨a9, c9, rfl, -, -⟩ := RowI.slice hv9
  obtain ⟨a8, c8, rfl, -, -⟩ := RowI.slice hu9
  show K _ w9
  have hSS : (fun W' : World => W'.cell? ⟨w.heap.size, 1, none⟩ = some (.slice a1 d.length c1) ∧ W'.cell? ⟨w.heap.size + 1, 1, none⟩ = some (.slice a3 e.length c3)) w9 := ⟨hO9.c1, hO9.c3⟩
  refine hK.out _ _ (.inr hSS) ?_
  clear hK hv9 hu9 hap9 hb9 hO9 HOE HVA HVE hq
  refine wpAnyZ_take (i := 9) (v := ?_) rfl (by kernel_rfl) (by kernel_rfl) (by kernel_rfl) (fun _ _ _ h => h) (by kernel_rfl) (Or.inl ⟨by rfl, ?_⟩) (by assumption) ?_
  rotate_left
  · intro w' hSw
    try dsimp only at hSw
    try obtain ⟨hSw, hSw2⟩ := hSw
    go_simp
    try with_reducible rfl
  show wpAnyZ _ _ _ _ _ _ _ _ (Act.put _ (some 67) _) _
  simp only [Act.put, List.setIfInBounds_toArray, List.set_cons_zero, List.set_cons_succ]
  refine wpAnyZ_take (i := 10) (v := ?_) rfl (by kernel_rfl) (by kernel_rfl) (by kernel_rfl) (fun _ _ _ h => h) (by kernel_rfl) (Or.inl ⟨by rfl, ?_⟩) (by assumption) ?_
  rotate_left
  · intro w' hSw
    try dsimp only at hSw
    try obtain ⟨hSw, hSw2⟩ := hSw
    go_simp
    try with_reducible rfl
  show wpAnyZ _ _ _ _ _ _ _ _ (Act.put _ (some 68) _) _
  simp only [Act.put, List.setIfInBounds_toArray, List.set_cons_zero, List.set_cons_succ]
  clear hSS
  refine wpAnyZ_one (i := 11) (by kernel_rfl) rfl rfl (fun K hK => ?_)
  have g0 := cell_of_row w9 _ 0 _ _ _ HO9.out.r; have g1 := cell_of_row w9 _ 1 _ _ _ HO9.out.r
  have z0 := frozen_of_row w9 _ 0 _ _ HO9.out.r; have z1 := frozen_of_row w9 _ 1 _ _ HO9.out.r
  go_simp
  refine hK.out _ _ (.inl (Nat.le_refl _)) ?_
  clear hK g0 g1 z0 z1
  refine wpAnyZ_one (i := 12) (by kernel_rfl) rfl rfl (fun K hK => ?_)
  go_simp
  refine hK.out _ _ (.inl (by omega)) ?_
  clear hK
  refine wpAnyZ_done (by kernel_rfl) ?_ _
  go_wp2_with fail
  exact fin_arr rfl rfl rfl HO9.out.r HV9.out HU9.out HAP9.out HO9.out.b (by omega)
end Go.Proofs.Ytmjkncmpanhgjaa

namespace Go.Proofs.Ytmjkncmpanhgjaa
set_option maxRecDepth 100000
open Go.RowKit
set_option linter.unusedVariables false
set_option linter.unusedSimpArgs false

/-! windrowref07.Dyad: all but functions of two numbers. -/
set_option maxHeartbeats 4000000 in
theorem rd_bad1 (w : World) (f : Int) (v u v2 u2 : Value) (s d t e : List Int) (hs : SlA w v s) (hd : SlA w u d) (ht : SlA w v2 t) (he : SlA w u2 e) (hr1 : right s d = false) :
    Calls Try.prog 18 #[.int .u8 f, .agg #[v, u], .agg #[v2, u2]] w fun e' w' => RetArr w.heap.size (noA 60) e' w' ∧ Below w.heap.size w w' := by
  have HR1 := Lib.hid hr1
  clear hr1
  have HS0 := Lib.hid hs.src; have HS1 := Lib.hid hd.src; have HS2 := Lib.hid ht.src; have HS3 := Lib.hid he.src
  obtain ⟨a0, c0, rfl, h01, h02, -, h04, -⟩ := hs
  obtain ⟨a1, c1, rfl, h11, h12, -, h14, hin⟩ := hd
  obtain ⟨a2, c2, rfl, h21, h22, -, h24, -⟩ := ht
  obtain ⟨a3, c3, rfl, h31, h32, -, h34, hie⟩ := he
  have h02' : c0 ≤ 9223372036854775807 := h02
  have h12' : c1 ≤ 9223372036854775807 := h12
  have h22' : c2 ≤ 9223372036854775807 := h22
  have h32' : c3 ≤ 9223372036854775807 := h32
  have HM : Hid (s.length ≤ maxLen) := Lib.hid (Nat.le_trans h01 h02)
  have HM2 : Hid (t.length ≤ maxLen) := Lib.hid (Nat.le_trans h21 h22)
  have H0 := Lib.hid h04; have H1 := Lib.hid h14; have HIN := Lib.hid hin
  have H2 := Lib.hid h24; have H3 := Lib.hid h34; have HIE := Lib.hid hie
  have HO := Lib.hid (Duo.mk0 w (.slice a0 s.length c0) (.slice a1 d.length c1) (.slice a2 t.length c2) (.slice a3 e.length c3))
  obtain ⟨r, HRR⟩ : ∃ r, Hid ((noA 60) = r) := ⟨_, Lib.hid rfl⟩
  rw [HRR.out]
  clear h04 h14 h24 h34 h02 h12 h22 h32 hin hie
  go_enter Try.func18, Try.ntmps18
  go_upto_region 1 with fail
  refine gen_worldA (fun W => Duo w W (.slice a0 s.length c0) (.slice a1 d.length c1) (.slice a2 t.length c2) (.slice a3 e.length c3)) HO.out ?_
  rintro W1 hO
  have HO2 := Lib.hid hO
  have x0 := hO.c0; have x1 := hO.c1; have x2 := hO.c2; have x3 := hO.c3
  clear HO hO
  have hq := rright_any W1 a0 a1 c0 c1 s d HM.out (H0.out.below HO2.out.b (Nat.le_refl _))
  rw [HR1.out] at hq
  have HQ := Lib.hid hq
  clear hq
  go_wp2_with fail
  refine HQ.out.mono ?_
  rintro e' W2 ⟨rfl, hb2⟩
  have HO3 := Lib.hid (HO2.out.next hb2)
  have hq := rno_at W2 w.heap.size HO3.out.b.size 60 r HRR.out
  clear HQ x0 x1 x2 x3
  have HQ := Lib.hid hq; have HR := Lib.hid HO3.out.r; have HB := Lib.hid HO3.out.b
  clear hq hb2 HO2
  go_wp2_with fail
  refine (Hid.out HQ).mono ?_
  rintro e w9 ⟨⟨v9, u9, rfl, hv9, hu9, hap9⟩, hb9⟩
  have hR9 := block_below (Hid.out HR) hb9
  have HV9 := Lib.hid hv9; have HU9 := Lib.hid hu9; have HAP9 := Lib.hid hap9; have HR9 := Lib.hid hR9
  have HB9 := Lib.hid (bNext hb9 (Hid.out HB))
  obtain ⟨a9, c9, rfl, -, -⟩ := RowI.slice hv9
  obtain ⟨a8, c8, rfl, -, -⟩ := RowI.slice hu9
  have g0 := cell_of_row w9 _ 0 _ _ _ hR9; have g1 := cell_of_row w9 _ 1 _ _ _ hR9
  have z0 := frozen_of_row w9 _ 0 _ _ hR9; have z1 := frozen_of_row w9 _ 1 _ _ hR9
  clear hv9 hu9 hap9 hb9 hR9
  go_wp2_with fail
  exact fin_arr rfl rfl rfl HR9.out HV9.out HU9.out HAP9.out HB9.out (by omega)
set_option maxHeartbeats 4000000 in
theorem rd_bad2 (w : World) (f : Int) (v u v2 u2 : Value) (s d t e : List Int) (hs : SlA w v s) (hd : SlA w u d) (ht : SlA w v2 t) (he : SlA w u2 e) (hr1 : right s d = true) (hr2 : right t e = false) :
    Calls Try.prog 18 #[.int .u8 f, .agg #[v, u], .agg #[v2, u2]] w fun e' w' => RetArr w.heap.size (noA 60) e' w' ∧ Below w.heap.size w w' := by
  have HR1 := Lib.hid hr1; have HR2 := Lib.hid hr2
  clear hr1 hr2
  have HS0 := Lib.hid hs.src; have HS1 := Lib.hid hd.src; have HS2 := Lib.hid ht.src; have HS3 := Lib.hid he.src
  obtain ⟨a0, c0, rfl, h01, h02, -, h04, -⟩ := hs
  obtain ⟨a1, c1, rfl, h11, h12, -, h14, hin⟩ := hd
  obtain ⟨a2, c2, rfl, h21, h22, -, h24, -⟩ := ht
  obtain ⟨a3, c3, rfl, h31, h32, -, h34, hie⟩ := he
  have h02' : c0 ≤ 9223372036854775807 := h02
  have h12' : c1 ≤ 9223372036854775807 := h12
  have h22' : c2 ≤ 9223372036854775807 := h22
  have h32' : c3 ≤ 9223372036854775807 := h32
  have HM : Hid (s.length ≤ maxLen) := Lib.hid (Nat.le_trans h01 h02)
  have HM2 : Hid (t.length ≤ maxLen) := Lib.hid (Nat.le_trans h21 h22)
  have H0 := Lib.hid h04; have H1 := Lib.hid h14; have HIN := Lib.hid hin
  have H2 := Lib.hid h24; have H3 := Lib.hid h34; have HIE := Lib.hid hie
  have HO := Lib.hid (Duo.mk0 w (.slice a0 s.length c0) (.slice a1 d.length c1) (.slice a2 t.length c2) (.slice a3 e.length c3))
  obtain ⟨r, HRR⟩ : ∃ r, Hid ((noA 60) = r) := ⟨_, Lib.hid rfl⟩
  rw [HRR.out]
  clear h04 h14 h24 h34 h02 h12 h22 h32 hin hie
  go_enter Try.func18, Try.ntmps18
  go_upto_region 1 with fail
  refine gen_worldA (fun W => Duo w W (.slice a0 s.length c0) (.slice a1 d.length c1) (.slice a2 t.length c2) (.slice a3 e.length c3)) HO.out ?_
  rintro W1 hO
  have HO2 := Lib.hid hO
  have x0 := hO.c0; have x1 := hO.c1; have x2 := hO.c2; have x3 := hO.c3
  clear HO hO
  have hq := rright_any W1 a0 a1 c0 c1 s d HM.out (H0.out.below HO2.out.b (Nat.le_refl _))
  rw [HR1.out] at hq
  have HQ := Lib.hid hq
  clear hq
  go_wp2_with fail
  refine HQ.out.mono ?_
  rintro e' W2 ⟨rfl, hb2⟩
  have HO3 := Lib.hid (HO2.out.next hb2)
  have hq := rright_any W2 a2 a3 c2 c3 t e HM2.out (H2.out.below HO3.out.b (Nat.le_refl _))
  rw [HR2.out] at hq
  clear HQ x0 x1 x2 x3
  have HQ := Lib.hid hq
  have x2 := HO3.out.c2; have x3 := HO3.out.c3
  clear hq hb2 HO2
  go_wp2_with fail
  refine HQ.out.mono ?_
  rintro e' W3 ⟨rfl, hb3⟩
  have HO4 := Lib.hid (HO3.out.next hb3)
  clear HQ x2 x3 hb3 HO3
  have x0 := HO4.out.c0; have x1 := HO4.out.c1; have x2 := HO4.out.c2; have x3 := HO4.out.c3
  have hq := rno_at W3 w.heap.size HO4.out.b.size 60 r HRR.out
  have HQ := Lib.hid hq; have HR := Lib.hid HO4.out.r; have HB := Lib.hid HO4.out.b
  clear hq x0 x1 x2 x3
  go_wp2_with fail
  refine (Hid.out HQ).mono ?_
  rintro e w9 ⟨⟨v9, u9, rfl, hv9, hu9, hap9⟩, hb9⟩
  have hR9 := block_below (Hid.out HR) hb9
  have HV9 := Lib.hid hv9; have HU9 := Lib.hid hu9; have HAP9 := Lib.hid hap9; have HR9 := Lib.hid hR9
  have HB9 := Lib.hid (bNext hb9 (Hid.out HB))
  obtain ⟨a9, c9, rfl, -, -⟩ := RowI.slice hv9
  obtain ⟨a8, c8, rfl, -, -⟩ := RowI.slice hu9
  have g0 := cell_of_row w9 _ 0 _ _ _ hR9; have g1 := cell_of_row w9 _ 1 _ _ _ hR9
  have z0 := frozen_of_row w9 _ 0 _ _ hR9; have z1 := frozen_of_row w9 _ 1 _ _ hR9
  clear hv9 hu9 hap9 hb9 hR9
  go_wp2_with fail
  exact fin_arr rfl rfl rfl HR9.out HV9.out HU9.out HAP9.out HB9.out (by omega)
set_option maxHeartbeats 4000000 in
theorem rd_rho (w : World) (v u v2 u2 : Value) (s d t e : List Int) (hs : SlA w v s) (hd : SlA w u d) (ht : SlA w v2 t) (he : SlA w u2 e) (hr1 : right s d = true) (hr2 : right t e = true) :
    Calls Try.prog 18 #[.int .u8 37, .agg #[v, u], .agg #[v2, u2]] w fun e' w' => RetArr w.heap.size (rhoA s d t e) e' w' ∧ Below w.heap.size w w' := by
  have HR1 := Lib.hid hr1; have HR2 := Lib.hid hr2
  have hs' := hs; have hd' := hd; have ht' := ht; have he' := he
  have HI := Lib.hid (fun W (hb : Below w.heap.size w W) => rrho_any W v u v2 u2 s d t e (hs'.below hb) (hd'.below hb) (ht'.below hb) (he'.below hb) (by have := (right_good hr2).2.le; omega))
  clear hr1 hr2 hs' hd' ht' he'
  have HS0 := Lib.hid hs.src; have HS1 := Lib.hid hd.src; have HS2 := Lib.hid ht.src; have HS3 := Lib.hid he.src
  obtain ⟨a0, c0, rfl, h01, h02, -, h04, -⟩ := hs
  obtain ⟨a1, c1, rfl, h11, h12, -, h14, hin⟩ := hd
  obtain ⟨a2, c2, rfl, h21, h22, -, h24, -⟩ := ht
  obtain ⟨a3, c3, rfl, h31, h32, -, h34, hie⟩ := he
  have h02' : c0 ≤ 9223372036854775807 := h02
  have h12' : c1 ≤ 9223372036854775807 := h12
  have h22' : c2 ≤ 9223372036854775807 := h22
  have h32' : c3 ≤ 9223372036854775807 := h32
  have HM : Hid (s.length ≤ maxLen) := Lib.hid (Nat.le_trans h01 h02)
  have HM2 : Hid (t.length ≤ maxLen) := Lib.hid (Nat.le_trans h21 h22)
  have H0 := Lib.hid h04; have H1 := Lib.hid h14; have HIN := Lib.hid hin
  have H2 := Lib.hid h24; have H3 := Lib.hid h34; have HIE := Lib.hid hie
  have HO := Lib.hid (Duo.mk0 w (.slice a0 s.length c0) (.slice a1 d.length c1) (.slice a2 t.length c2) (.slice a3 e.length c3))
  obtain ⟨r, HRR⟩ : ∃ r, Hid ((rhoA s d t e) = r) := ⟨_, Lib.hid rfl⟩
  rw [HRR.out]
  clear h04 h14 h24 h34 h02 h12 h22 h32 hin hie
  rw [HRR.out] at HI
  go_enter Try.func18, Try.ntmps18
  go_upto_region 1 with fail
  refine gen_worldA (fun W => Duo w W (.slice a0 s.length c0) (.slice a1 d.length c1) (.slice a2 t.length c2) (.slice a3 e.length c3)) HO.out ?_
  rintro W1 hO
  have HO2 := Lib.hid hO
  have x0 := hO.c0; have x1 := hO.c1; have x2 := hO.c2; have x3 := hO.c3
  clear HO hO
  have hq := rright_any W1 a0 a1 c0 c1 s d HM.out (H0.out.below HO2.out.b (Nat.le_refl _))
  rw [HR1.out] at hq
  have HQ := Lib.hid hq
  clear hq
  go_wp2_with fail
  refine HQ.out.mono ?_
  rintro e' W2 ⟨rfl, hb2⟩
  have HO3 := Lib.hid (HO2.out.next hb2)
  have hq := rright_any W2 a2 a3 c2 c3 t e HM2.out (H2.out.below HO3.out.b (Nat.le_refl _))
  rw [HR2.out] at hq
  clear HQ x0 x1 x2 x3
  have HQ := Lib.hid hq
  have x2 := HO3.out.c2; have x3 := HO3.out.c3
  clear hq hb2 HO2
  go_wp2_with fail
  refine HQ.out.mono ?_
  rintro e' W3 ⟨rfl, hb3⟩
  have HO4 := Lib.hid (HO3.out.next hb3)
  clear HQ x2 x3 hb3 HO3
  have x0 := HO4.out.c0; have x1 := HO4.out.c1; have x2 := HO4.out.c2; have x3 := HO4.out.c3
  have hq := retB HO4.out.b.size (Hid.out HI W3 HO4.out.b)
  have HQ := Lib.hid hq; have HR := Lib.hid HO4.out.r; have HB := Lib.hid HO4.out.b
  clear hq
  go_wp2_with fail
  refine (Hid.out HQ).mono ?_
  rintro e w9 ⟨⟨v9, u9, rfl, hv9, hu9, hap9⟩, hb9⟩
  have hR9 := block_below (Hid.out HR) hb9
  have HV9 := Lib.hid hv9; have HU9 := Lib.hid hu9; have HAP9 := Lib.hid hap9; have HR9 := Lib.hid hR9
  have HB9 := Lib.hid (bNext hb9 (Hid.out HB))
  obtain ⟨a9, c9, rfl, -, -⟩ := RowI.slice hv9
  obtain ⟨a8, c8, rfl, -, -⟩ := RowI.slice hu9
  have g0 := cell_of_row w9 _ 0 _ _ _ hR9; have g1 := cell_of_row w9 _ 1 _ _ _ hR9
  have z0 := frozen_of_row w9 _ 0 _ _ hR9; have z1 := frozen_of_row w9 _ 1 _ _ hR9
  clear hv9 hu9 hap9 hb9 hR9
  go_wp2_with fail
  exact fin_arr rfl rfl rfl HR9.out HV9.out HU9.out HAP9.out HB9.out (by omega)
  done
set_option maxHeartbeats 4000000 in
theorem rd_take (w : World) (v u v2 u2 : Value) (s d t e : List Int) (hs : SlA w v s) (hd : SlA w u d) (ht : SlA w v2 t) (he : SlA w u2 e) (hr1 : right s d = true) (hr2 : right t e = true) :
    Calls Try.prog 18 #[.int .u8 38, .agg #[v, u], .agg #[v2, u2]] w fun e' w' => RetArr w.heap.size (takeA s d t e false) e' w' ∧ Below w.heap.size w w' := by
  have HR1 := Lib.hid hr1; have HR2 := Lib.hid hr2
  have hs' := hs; have hd' := hd; have ht' := ht; have he' := he
  have HI := Lib.hid (fun W (hb : Below w.heap.size w W) => rtake_any W false v u v2 u2 s d t e (hs'.below hb) (hd'.below hb) (ht'.below hb) (he'.below hb) hr1 hr2)
  clear hr1 hr2 hs' hd' ht' he'
  have HS0 := Lib.hid hs.src; have HS1 := Lib.hid hd.src; have HS2 := Lib.hid ht.src; have HS3 := Lib.hid he.src
  obtain ⟨a0, c0, rfl, h01, h02, -, h04, -⟩ := hs
  obtain ⟨a1, c1, rfl, h11, h12, -, h14, hin⟩ := hd
  obtain ⟨a2, c2, rfl, h21, h22, -, h24, -⟩ := ht
  obtain ⟨a3, c3, rfl, h31, h32, -, h34, hie⟩ := he
  have h02' : c0 ≤ 9223372036854775807 := h02
  have h12' : c1 ≤ 9223372036854775807 := h12
  have h22' : c2 ≤ 9223372036854775807 := h22
  have h32' : c3 ≤ 9223372036854775807 := h32
  have HM : Hid (s.length ≤ maxLen) := Lib.hid (Nat.le_trans h01 h02)
  have HM2 : Hid (t.length ≤ maxLen) := Lib.hid (Nat.le_trans h21 h22)
  have H0 := Lib.hid h04; have H1 := Lib.hid h14; have HIN := Lib.hid hin
  have H2 := Lib.hid h24; have H3 := Lib.hid h34; have HIE := Lib.hid hie
  have HO := Lib.hid (Duo.mk0 w (.slice a0 s.length c0) (.slice a1 d.length c1) (.slice a2 t.length c2) (.slice a3 e.length c3))
  obtain ⟨r, HRR⟩ : ∃ r, Hid ((takeA s d t e false) = r) := ⟨_, Lib.hid rfl⟩
  rw [HRR.out]
  clear h04 h14 h24 h34 h02 h12 h22 h32 hin hie
  rw [show takeA s d t e false = r from HRR.out] at HI
  go_enter Try.func18, Try.ntmps18
  go_upto_region 1 with fail
  refine gen_worldA (fun W => Duo w W (.slice a0 s.length c0) (.slice a1 d.length c1) (.slice a2 t.length c2) (.slice a3 e.length c3)) HO.out ?_
  rintro W1 hO
  have HO2 := Lib.hid hO
  have x0 := hO.c0; have x1 := hO.c1; have x2 := hO.c2; have x3 := hO.c3
  clear HO hO
  have hq := rright_any W1 a0 a1 c0 c1 s d HM.out (H0.out.below HO2.out.b (Nat.le_refl _))
  rw [HR1.out] at hq
  have HQ := Lib.hid hq
  clear hq
  go_wp2_with fail
  refine HQ.out.mono ?_
  rintro e' W2 ⟨rfl, hb2⟩
  have HO3 := Lib.hid (HO2.out.next hb2)
  have hq := rright_any W2 a2 a3 c2 c3 t e HM2.out (H2.out.below HO3.out.b (Nat.le_refl _))
  rw [HR2.out] at hq
  clear HQ x0 x1 x2 x3
  have HQ := Lib.hid hq
  have x2 := HO3.out.c2; have x3 := HO3.out.c3
  clear hq hb2 HO2
  go_wp2_with fail
  refine HQ.out.mono ?_
  rintro e' W3 ⟨rfl, hb3⟩
  have HO4 := Lib.hid (HO3.out.next hb3)
  clear HQ x2 x3 hb3 HO3
  have x0 := HO4.out.c0; have x1 := HO4.out.c1; have x2 := HO4.out.c2; have x3 := HO4.out.c3
  have hq := retB HO4.out.b.size (Hid.out HI W3 HO4.out.b)
  have HQ := Lib.hid hq; have HR := Lib.hid HO4.out.r; have HB := Lib.hid HO4.out.b
  clear hq
  go_wp2_with fail
  refine (Hid.out HQ).mono ?_
  rintro e w9 ⟨⟨v9, u9, rfl, hv9, hu9, hap9⟩, hb9⟩
  have hR9 := block_below (Hid.out HR) hb9
  have HV9 := Lib.hid hv9; have HU9 := Lib.hid hu9; have HAP9 := Lib.hid hap9; have HR9 := Lib.hid hR9
  have HB9 := Lib.hid (bNext hb9 (Hid.out HB))
  obtain ⟨a9, c9, rfl, -, -⟩ := RowI.slice hv9
  obtain ⟨a8, c8, rfl, -, -⟩ := RowI.slice hu9
  have g0 := cell_of_row w9 _ 0 _ _ _ hR9; have g1 := cell_of_row w9 _ 1 _ _ _ hR9
  have z0 := frozen_of_row w9 _ 0 _ _ hR9; have z1 := frozen_of_row w9 _ 1 _ _ hR9
  clear hv9 hu9 hap9 hb9 hR9
  go_wp2_with fail
  exact fin_arr rfl rfl rfl HR9.out HV9.out HU9.out HAP9.out HB9.out (by omega)
  done
set_option maxHeartbeats 4000000 in
theorem rd_drop (w : World) (v u v2 u2 : Value) (s d t e : List Int) (hs : SlA w v s) (hd : SlA w u d) (ht : SlA w v2 t) (he : SlA w u2 e) (hr1 : right s d = true) (hr2 : right t e = true) :
    Calls Try.prog 18 #[.int .u8 39, .agg #[v, u], .agg #[v2, u2]] w fun e' w' => RetArr w.heap.size (takeA s d t e true) e' w' ∧ Below w.heap.size w w' := by
  have HR1 := Lib.hid hr1; have HR2 := Lib.hid hr2
  have hs' := hs; have hd' := hd; have ht' := ht; have he' := he
  have HI := Lib.hid (fun W (hb : Below w.heap.size w W) => rtake_any W true v u v2 u2 s d t e (hs'.below hb) (hd'.below hb) (ht'.below hb) (he'.below hb) hr1 hr2)
  clear hr1 hr2 hs' hd' ht' he'
  have HS0 := Lib.hid hs.src; have HS1 := Lib.hid hd.src; have HS2 := Lib.hid ht.src; have HS3 := Lib.hid he.src
  obtain ⟨a0, c0, rfl, h01, h02, -, h04, -⟩ := hs
  obtain ⟨a1, c1, rfl, h11, h12, -, h14, hin⟩ := hd
  obtain ⟨a2, c2, rfl, h21, h22, -, h24, -⟩ := ht
  obtain ⟨a3, c3, rfl, h31, h32, -, h34, hie⟩ := he
  have h02' : c0 ≤ 9223372036854775807 := h02
  have h12' : c1 ≤ 9223372036854775807 := h12
  have h22' : c2 ≤ 9223372036854775807 := h22
  have h32' : c3 ≤ 9223372036854775807 := h32
  have HM : Hid (s.length ≤ maxLen) := Lib.hid (Nat.le_trans h01 h02)
  have HM2 : Hid (t.length ≤ maxLen) := Lib.hid (Nat.le_trans h21 h22)
  have H0 := Lib.hid h04; have H1 := Lib.hid h14; have HIN := Lib.hid hin
  have H2 := Lib.hid h24; have H3 := Lib.hid h34; have HIE := Lib.hid hie
  have HO := Lib.hid (Duo.mk0 w (.slice a0 s.length c0) (.slice a1 d.length c1) (.slice a2 t.length c2) (.slice a3 e.length c3))
  obtain ⟨r, HRR⟩ : ∃ r, Hid ((takeA s d t e true) = r) := ⟨_, Lib.hid rfl⟩
  rw [HRR.out]
  clear h04 h14 h24 h34 h02 h12 h22 h32 hin hie
  rw [show takeA s d t e true = r from HRR.out] at HI
  go_enter Try.func18, Try.ntmps18
  go_upto_region 1 with fail
  refine gen_worldA (fun W => Duo w W (.slice a0 s.length c0) (.slice a1 d.length c1) (.slice a2 t.length c2) (.slice a3 e.length c3)) HO.out ?_
  rintro W1 hO
  have HO2 := Lib.hid hO
  have x0 := hO.c0; have x1 := hO.c1; have x2 := hO.c2; have x3 := hO.c3
  clear HO hO
  have hq := rright_any W1 a0 a1 c0 c1 s d HM.out (H0.out.below HO2.out.b (Nat.le_refl _))
  rw [HR1.out] at hq
  have HQ := Lib.hid hq
  clear hq
  go_wp2_with fail
  refine HQ.out.mono ?_
  rintro e' W2 ⟨rfl, hb2⟩
  have HO3 := Lib.hid (HO2.out.next hb2)
  have hq := rright_any W2 a2 a3 c2 c3 t e HM2.out (H2.out.below HO3.out.b (Nat.le_refl _))
  rw [HR2.out] at hq
  clear HQ x0 x1 x2 x3
  have HQ := Lib.hid hq
  have x2 := HO3.out.c2; have x3 := HO3.out.c3
  clear hq hb2 HO2
  go_wp2_with fail
  refine HQ.out.mono ?_
  rintro e' W3 ⟨rfl, hb3⟩
  have HO4 := Lib.hid (HO3.out.next hb3)
  clear HQ x2 x3 hb3 HO3
  have x0 := HO4.out.c0; have x1 := HO4.out.c1; have x2 := HO4.out.c2; have x3 := HO4.out.c3
  have hq := retB HO4.out.b.size (Hid.out HI W3 HO4.out.b)
  have HQ := Lib.hid hq; have HR := Lib.hid HO4.out.r; have HB := Lib.hid HO4.out.b
  clear hq
  go_wp2_with fail
  refine (Hid.out HQ).mono ?_
  rintro e w9 ⟨⟨v9, u9, rfl, hv9, hu9, hap9⟩, hb9⟩
  have hR9 := block_below (Hid.out HR) hb9
  have HV9 := Lib.hid hv9; have HU9 := Lib.hid hu9; have HAP9 := Lib.hid hap9; have HR9 := Lib.hid hR9
  have HB9 := Lib.hid (bNext hb9 (Hid.out HB))
  obtain ⟨a9, c9, rfl, -, -⟩ := RowI.slice hv9
  obtain ⟨a8, c8, rfl, -, -⟩ := RowI.slice hu9
  have g0 := cell_of_row w9 _ 0 _ _ _ hR9; have g1 := cell_of_row w9 _ 1 _ _ _ hR9
  have z0 := frozen_of_row w9 _ 0 _ _ hR9; have z1 := frozen_of_row w9 _ 1 _ _ hR9
  clear hv9 hu9 hap9 hb9 hR9
  go_wp2_with fail
  exact fin_arr rfl rfl rfl HR9.out HV9.out HU9.out HAP9.out HB9.out (by omega)
  done
set_option maxHeartbeats 4000000 in
theorem rd_cat (w : World) (v u v2 u2 : Value) (s d t e : List Int) (hs : SlA w v s) (hd : SlA w u d) (ht : SlA w v2 t) (he : SlA w u2 e) (hr1 : right s d = true) (hr2 : right t e = true) :
    Calls Try.prog 18 #[.int .u8 40, .agg #[v, u], .agg #[v2, u2]] w fun e' w' => RetArr w.heap.size (catA s d t e) e' w' ∧ Below w.heap.size w w' := by
  have HR1 := Lib.hid hr1; have HR2 := Lib.hid hr2
  have hs' := hs; have hd' := hd; have ht' := ht; have he' := he
  have HI := Lib.hid (fun W (hb : Below w.heap.size w W) => rcat_any W v u v2 u2 s d t e (hs'.below hb) (hd'.below hb) (ht'.below hb) (he'.below hb) hr1 hr2)
  clear hr1 hr2 hs' hd' ht' he'
  have HS0 := Lib.hid hs.src; have HS1 := Lib.hid hd.src; have HS2 := Lib.hid ht.src; have HS3 := Lib.hid he.src
  obtain ⟨a0, c0, rfl, h01, h02, -, h04, -⟩ := hs
  obtain ⟨a1, c1, rfl, h11, h12, -, h14, hin⟩ := hd
  obtain ⟨a2, c2, rfl, h21, h22, -, h24, -⟩ := ht
  obtain ⟨a3, c3, rfl, h31, h32, -, h34, hie⟩ := he
  have h02' : c0 ≤ 9223372036854775807 := h02
  have h12' : c1 ≤ 9223372036854775807 := h12
  have h22' : c2 ≤ 9223372036854775807 := h22
  have h32' : c3 ≤ 9223372036854775807 := h32
  have HM : Hid (s.length ≤ maxLen) := Lib.hid (Nat.le_trans h01 h02)
  have HM2 : Hid (t.length ≤ maxLen) := Lib.hid (Nat.le_trans h21 h22)
  have H0 := Lib.hid h04; have H1 := Lib.hid h14; have HIN := Lib.hid hin
  have H2 := Lib.hid h24; have H3 := Lib.hid h34; have HIE := Lib.hid hie
  have HO := Lib.hid (Duo.mk0 w (.slice a0 s.length c0) (.slice a1 d.length c1) (.slice a2 t.length c2) (.slice a3 e.length c3))
  obtain ⟨r, HRR⟩ : ∃ r, Hid ((catA s d t e) = r) := ⟨_, Lib.hid rfl⟩
  rw [HRR.out]
  clear h04 h14 h24 h34 h02 h12 h22 h32 hin hie
  rw [HRR.out] at HI
  go_enter Try.func18, Try.ntmps18
  go_upto_region 1 with fail
  refine gen_worldA (fun W => Duo w W (.slice a0 s.length c0) (.slice a1 d.length c1) (.slice a2 t.length c2) (.slice a3 e.length c3)) HO.out ?_
  rintro W1 hO
  have HO2 := Lib.hid hO
  have x0 := hO.c0; have x1 := hO.c1; have x2 := hO.c2; have x3 := hO.c3
  clear HO hO
  have hq := rright_any W1 a0 a1 c0 c1 s d HM.out (H0.out.below HO2.out.b (Nat.le_refl _))
  rw [HR1.out] at hq
  have HQ := Lib.hid hq
  clear hq
  go_wp2_with fail
  refine HQ.out.mono ?_
  rintro e' W2 ⟨rfl, hb2⟩
  have HO3 := Lib.hid (HO2.out.next hb2)
  have hq := rright_any W2 a2 a3 c2 c3 t e HM2.out (H2.out.below HO3.out.b (Nat.le_refl _))
  rw [HR2.out] at hq
  clear HQ x0 x1 x2 x3
  have HQ := Lib.hid hq
  have x2 := HO3.out.c2; have x3 := HO3.out.c3
  clear hq hb2 HO2
  go_wp2_with fail
  refine HQ.out.mono ?_
  rintro e' W3 ⟨rfl, hb3⟩
  have HO4 := Lib.hid (HO3.out.next hb3)
  clear HQ x2 x3 hb3 HO3
  have x0 := HO4.out.c0; have x1 := HO4.out.c1; have x2 := HO4.out.c2; have x3 := HO4.out.c3
  have hq := retB HO4.out.b.size (Hid.out HI W3 HO4.out.b)
  have HQ := Lib.hid hq; have HR := Lib.hid HO4.out.r; have HB := Lib.hid HO4.out.b
  clear hq
  go_wp2_with fail
  refine (Hid.out HQ).mono ?_
  rintro e w9 ⟨⟨v9, u9, rfl, hv9, hu9, hap9⟩, hb9⟩
  have hR9 := block_below (Hid.out HR) hb9
  have HV9 := Lib.hid hv9; have HU9 := Lib.hid hu9; have HAP9 := Lib.hid hap9; have HR9 := Lib.hid hR9
  have HB9 := Lib.hid (bNext hb9 (Hid.out HB))
  obtain ⟨a9, c9, rfl, -, -⟩ := RowI.slice hv9
  obtain ⟨a8, c8, rfl, -, -⟩ := RowI.slice hu9
  have g0 := cell_of_row w9 _ 0 _ _ _ hR9; have g1 := cell_of_row w9 _ 1 _ _ _ hR9
  have z0 := frozen_of_row w9 _ 0 _ _ hR9; have z1 := frozen_of_row w9 _ 1 _ _ hR9
  clear hv9 hu9 hap9 hb9 hR9
  go_wp2_with fail
  exact fin_arr rfl rfl rfl HR9.out HV9.out HU9.out HAP9.out HB9.out (by omega)
  done
set_option maxHeartbeats 4000000 in
theorem rd_no (w : World) (f : Int) (v u v2 u2 : Value) (s d t e : List Int) (hs : SlA w v s) (hd : SlA w u d) (ht : SlA w v2 t) (he : SlA w u2 e) (hr1 : right s d = true) (hr2 : right t e = true) (hf : f < 37 ∨ 40 < f) (htk : takes f true = false) :
    Calls Try.prog 18 #[.int .u8 f, .agg #[v, u], .agg #[v2, u2]] w fun e' w' => RetArr w.heap.size (noA 70) e' w' ∧ Below w.heap.size w w' := by
  have g0 : (f == 37) = false := by rw [beq_eq_false_iff_ne]; omega
  have g1 : (f == 38) = false := by rw [beq_eq_false_iff_ne]; omega
  have g2 : (f == 39) = false := by rw [beq_eq_false_iff_ne]; omega
  have g3 : (f == 40) = false := by rw [beq_eq_false_iff_ne]; omega
  have HR1 := Lib.hid hr1; have HR2 := Lib.hid hr2
  have HT := Lib.hid (fun W => rtakes_at W f true false htk)
  clear hr1 hr2 hf htk
  have HS0 := Lib.hid hs.src; have HS1 := Lib.hid hd.src; have HS2 := Lib.hid ht.src; have HS3 := Lib.hid he.src
  obtain ⟨a0, c0, rfl, h01, h02, -, h04, -⟩ := hs
  obtain ⟨a1, c1, rfl, h11, h12, -, h14, hin⟩ := hd
  obtain ⟨a2, c2, rfl, h21, h22, -, h24, -⟩ := ht
  obtain ⟨a3, c3, rfl, h31, h32, -, h34, hie⟩ := he
  have h02' : c0 ≤ 9223372036854775807 := h02
  have h12' : c1 ≤ 9223372036854775807 := h12
  have h22' : c2 ≤ 9223372036854775807 := h22
  have h32' : c3 ≤ 9223372036854775807 := h32
  have HM : Hid (s.length ≤ maxLen) := Lib.hid (Nat.le_trans h01 h02)
  have HM2 : Hid (t.length ≤ maxLen) := Lib.hid (Nat.le_trans h21 h22)
  have H0 := Lib.hid h04; have H1 := Lib.hid h14; have HIN := Lib.hid hin
  have H2 := Lib.hid h24; have H3 := Lib.hid h34; have HIE := Lib.hid hie
  have HO := Lib.hid (Duo.mk0 w (.slice a0 s.length c0) (.slice a1 d.length c1) (.slice a2 t.length c2) (.slice a3 e.length c3))
  obtain ⟨r, HRR⟩ : ∃ r, Hid ((noA 70) = r) := ⟨_, Lib.hid rfl⟩
  rw [HRR.out]
  clear h04 h14 h24 h34 h02 h12 h22 h32 hin hie
  go_enter Try.func18, Try.ntmps18
  go_upto_region 1 with fail
  refine gen_worldA (fun W => Duo w W (.slice a0 s.length c0) (.slice a1 d.length c1) (.slice a2 t.length c2) (.slice a3 e.length c3)) HO.out ?_
  rintro W1 hO
  have HO2 := Lib.hid hO
  have x0 := hO.c0; have x1 := hO.c1; have x2 := hO.c2; have x3 := hO.c3
  clear HO hO
  have hq := rright_any W1 a0 a1 c0 c1 s d HM.out (H0.out.below HO2.out.b (Nat.le_refl _))
  rw [HR1.out] at hq
  have HQ := Lib.hid hq
  clear hq
  go_wp2_with fail
  refine HQ.out.mono ?_
  rintro e' W2 ⟨rfl, hb2⟩
  have HO3 := Lib.hid (HO2.out.next hb2)
  have hq := rright_any W2 a2 a3 c2 c3 t e HM2.out (H2.out.below HO3.out.b (Nat.le_refl _))
  rw [HR2.out] at hq
  clear HQ x0 x1 x2 x3
  have HQ := Lib.hid hq
  have x2 := HO3.out.c2; have x3 := HO3.out.c3
  clear hq hb2 HO2
  go_wp2_with fail
  refine HQ.out.mono ?_
  rintro e' W3 ⟨rfl, hb3⟩
  have HO4 := Lib.hid (HO3.out.next hb3)
  clear HQ x2 x3 hb3 HO3
  have x0 := HO4.out.c0; have x1 := HO4.out.c1; have x2 := HO4.out.c2; have x3 := HO4.out.c3
  have HQ0 := Lib.hid (HT.out W3)
  go_wp2_with fail
  refine HQ0.out.mono ?_
  rintro e' W4 ⟨rfl, rfl⟩
  have hq := rno_at W3 w.heap.size HO4.out.b.size 70 r HRR.out
  have HQ := Lib.hid hq; have HR := Lib.hid HO4.out.r; have HB := Lib.hid HO4.out.b
  clear hq HQ0 HT
  go_wp2_with fail
  refine (Hid.out HQ).mono ?_
  rintro e w9 ⟨⟨v9, u9, rfl, hv9, hu9, hap9⟩, hb9⟩
  have hR9 := block_below (Hid.out HR) hb9
  have HV9 := Lib.hid hv9; have HU9 := Lib.hid hu9; have HAP9 := Lib.hid hap9; have HR9 := Lib.hid hR9
  have HB9 := Lib.hid (bNext hb9 (Hid.out HB))
  obtain ⟨a9, c9, rfl, -, -⟩ := RowI.slice hv9
  obtain ⟨a8, c8, rfl, -, -⟩ := RowI.slice hu9
  have g0 := cell_of_row w9 _ 0 _ _ _ hR9; have g1 := cell_of_row w9 _ 1 _ _ _ hR9
  have z0 := frozen_of_row w9 _ 0 _ _ hR9; have z1 := frozen_of_row w9 _ 1 _ _ hR9
  clear hv9 hu9 hap9 hb9 hR9
  go_wp2_with fail
  exact fin_arr rfl rfl rfl HR9.out HV9.out HU9.out HAP9.out HB9.out (by omega)
end Go.Proofs.Ytmjkncmpanhgjaa

namespace Go.Proofs.Ytmjkncmpanhgjaa
set_option maxRecDepth 100000
open Go.RowKit
set_option linter.unusedVariables false
set_option linter.unusedSimpArgs false

/-! windrowref07.Dyad: functions of two numbers; whole. -/
set_option maxHeartbeats 8000000 in
theorem rd_none (w : World) (f : Int) (v u v2 u2 : Value) (s d t e : List Int) (hs : SlA w v s) (hd : SlA w u d) (ht : SlA w v2 t) (he : SlA w u2 e) (hr1 : right s d = true) (hr2 : right t e = true) (htk : takes f true = true) (hst : s ≠ t) (hs0 : s.length ≠ 0) (ht0 : t.length ≠ 0) :
    Calls Try.prog 18 #[.int .u8 f, .agg #[v, u], .agg #[v2, u2]] w fun e' w' => RetArr w.heap.size (noA 72) e' w' ∧ Below w.heap.size w w' := by
  have hf := (takes_in htk).2
  have g0 : (f == 37) = false := by rw [beq_eq_false_iff_ne]; omega
  have g1 : (f == 38) = false := by rw [beq_eq_false_iff_ne]; omega
  have g2 : (f == 39) = false := by rw [beq_eq_false_iff_ne]; omega
  have g3 : (f == 40) = false := by rw [beq_eq_false_iff_ne]; omega
  have hints : ints s t = false := by unfold ints; first | exact decide_eq_false hst | exact decide_eq_true hst
  have HINTS := Lib.hid hints
  have hs4 := (right_good hr1).2.len
  have hd6 := (right_good hr1).2.le
  have ht4 := (right_good hr2).2.len
  have he6 := (right_good hr2).2.le
  have HR1 := Lib.hid hr1; have HR2 := Lib.hid hr2; have HTK := Lib.hid htk
  have HT := Lib.hid (fun W => rtakes_at W f true true htk)
  have hs1 : ((s.length : Int) == 0) = false := by rw [beq_eq_false_iff_ne]; omega
  have ht1 : ((t.length : Int) == 0) = false := by rw [beq_eq_false_iff_ne]; omega
  clear hr1 hr2 hf htk hst hs0 ht0 hints
  have HS0 := Lib.hid hs.src; have HS1 := Lib.hid hd.src; have HS2 := Lib.hid ht.src; have HS3 := Lib.hid he.src
  obtain ⟨a0, c0, rfl, h01, h02, -, h04, -⟩ := hs
  obtain ⟨a1, c1, rfl, h11, h12, -, h14, hin⟩ := hd
  obtain ⟨a2, c2, rfl, h21, h22, -, h24, -⟩ := ht
  obtain ⟨a3, c3, rfl, h31, h32, -, h34, hie⟩ := he
  have h02' : c0 ≤ 9223372036854775807 := h02
  have h12' : c1 ≤ 9223372036854775807 := h12
  have h22' : c2 ≤ 9223372036854775807 := h22
  have h32' : c3 ≤ 9223372036854775807 := h32
  have HM : Hid (s.length ≤ maxLen) := Lib.hid (Nat.le_trans h01 h02)
  have HM2 : Hid (t.length ≤ maxLen) := Lib.hid (Nat.le_trans h21 h22)
  have H0 := Lib.hid h04; have H1 := Lib.hid h14; have HIN := Lib.hid hin
  have H2 := Lib.hid h24; have H3 := Lib.hid h34; have HIE := Lib.hid hie
  have HO := Lib.hid (Duo.mk0 w (.slice a0 s.length c0) (.slice a1 d.length c1) (.slice a2 t.length c2) (.slice a3 e.length c3))
  obtain ⟨r, HRR⟩ : ∃ r, Hid ((noA 72) = r) := ⟨_, Lib.hid rfl⟩
  rw [HRR.out]
  clear h04 h14 h24 h34 h02 h12 h22 h32 hin hie
  go_enter Try.func18, Try.ntmps18
  go_upto_region 1 with fail
  refine gen_worldA (fun W => Duo w W (.slice a0 s.length c0) (.slice a1 d.length c1) (.slice a2 t.length c2) (.slice a3 e.length c3)) HO.out ?_
  rintro W1 hO
  have HO2 := Lib.hid hO
  have x0 := hO.c0; have x1 := hO.c1; have x2 := hO.c2; have x3 := hO.c3
  clear HO hO
  have hq := rright_any W1 a0 a1 c0 c1 s d HM.out (H0.out.below HO2.out.b (Nat.le_refl _))
  rw [HR1.out] at hq
  have HQ := Lib.hid hq
  clear hq
  go_wp2_with fail
  refine HQ.out.mono ?_
  rintro e' W2 ⟨rfl, hb2⟩
  have HO3 := Lib.hid (HO2.out.next hb2)
  have hq := rright_any W2 a2 a3 c2 c3 t e HM2.out (H2.out.below HO3.out.b (Nat.le_refl _))
  rw [HR2.out] at hq
  clear HQ x0 x1 x2 x3
  have HQ := Lib.hid hq
  have x2 := HO3.out.c2; have x3 := HO3.out.c3
  clear hq hb2 HO2
  go_wp2_with fail
  refine HQ.out.mono ?_
  rintro e' W3 ⟨rfl, hb3⟩
  have HO4 := Lib.hid (HO3.out.next hb3)
  clear HQ x2 x3 hb3 HO3
  have x0 := HO4.out.c0; have x1 := HO4.out.c1; have x2 := HO4.out.c2; have x3 := HO4.out.c3
  have HQ0 := Lib.hid (HT.out W3)
  go_wp2_with fail
  refine HQ0.out.mono ?_
  rintro e' W4 ⟨rfl, rfl⟩
  have hq := ints_any W3 a0 a2 c0 c2 s t HM.out HM2.out (H0.out.below HO4.out.b (Nat.le_refl _)) (H2.out.below HO4.out.b (Nat.le_refl _))
  rw [HINTS.out] at hq
  have HQ := Lib.hid hq
  clear hq HQ0 HT g0 g1 g2 g3
  go_wp2_with fail
  refine HQ.out.mono ?_
  rintro e' W6 ⟨rfl, n6, rfl⟩
  clear x0 x1 x2 x3
  have HO6 := Lib.hid (HO4.out.next (Below.drewN W3 n6))
  obtain ⟨W7, hW7⟩ : ∃ W, W3.drewN n6 = W := ⟨_, rfl⟩
  rw [hW7] at HO6 ⊢
  clear HQ HO4 hW7
  have x0 := HO6.out.c0; have x1 := HO6.out.c1; have x2 := HO6.out.c2; have x3 := HO6.out.c3
  have hq := rno_at W7 w.heap.size HO6.out.b.size 72 r HRR.out
  have HQ := Lib.hid hq; have HR := Lib.hid HO6.out.r; have HB := Lib.hid HO6.out.b
  clear hq
  go_wp2_with fail
  refine (Hid.out HQ).mono ?_
  rintro e w9 ⟨⟨v9, u9, rfl, hv9, hu9, hap9⟩, hb9⟩
  have hR9 := block_below (Hid.out HR) hb9
  have HV9 := Lib.hid hv9; have HU9 := Lib.hid hu9; have HAP9 := Lib.hid hap9; have HR9 := Lib.hid hR9
  have HB9 := Lib.hid (bNext hb9 (Hid.out HB))
  obtain ⟨a9, c9, rfl, -, -⟩ := RowI.slice hv9
  obtain ⟨a8, c8, rfl, -, -⟩ := RowI.slice hu9
  have g0 := cell_of_row w9 _ 0 _ _ _ hR9; have g1 := cell_of_row w9 _ 1 _ _ _ hR9
  have z0 := frozen_of_row w9 _ 0 _ _ hR9; have z1 := frozen_of_row w9 _ 1 _ _ hR9
  clear hv9 hu9 hap9 hb9 hR9
  go_wp2_with fail
  exact fin_arr rfl rfl rfl HR9.out HV9.out HU9.out HAP9.out HB9.out (by omega)
set_option maxHeartbeats 8000000 in
theorem rd_eq (w : World) (f : Int) (v u v2 u2 : Value) (s d t e : List Int) (hs : SlA w v s) (hd : SlA w u d) (ht : SlA w v2 t) (he : SlA w u2 e) (hr1 : right s d = true) (hr2 : right t e = true) (htk : takes f true = true) (hst : s = t) :
    Calls Try.prog 18 #[.int .u8 f, .agg #[v, u], .agg #[v2, u2]] w fun e' w' => RetArr w.heap.size (pairsA f d e s) e' w' ∧ Below w.heap.size w w' := by
  have hf := (takes_in htk).2
  have g0 : (f == 37) = false := by rw [beq_eq_false_iff_ne]; omega
  have g1 : (f == 38) = false := by rw [beq_eq_false_iff_ne]; omega
  have g2 : (f == 39) = false := by rw [beq_eq_false_iff_ne]; omega
  have g3 : (f == 40) = false := by rw [beq_eq_false_iff_ne]; omega
  have hints : ints s t = true := by unfold ints; first | exact decide_eq_false hst | exact decide_eq_true hst
  have HINTS := Lib.hid hints
  have hs4 := (right_good hr1).2.len
  have hd6 := (right_good hr1).2.le
  have ht4 := (right_good hr2).2.len
  have he6 := (right_good hr2).2.le
  have HR1 := Lib.hid hr1; have HR2 := Lib.hid hr2; have HTK := Lib.hid htk
  have HT := Lib.hid (fun W => rtakes_at W f true true htk)
  have hlen : d.length = e.length := by
    have h1 := right_size hr1
    have h2 := right_size hr2
    rw [hst, h2] at h1
    injection h1 with h1
    omega
  have HLE := Lib.hid hlen
  clear hr1 hr2 hf htk hst hints hlen
  have HS0 := Lib.hid hs.src; have HS1 := Lib.hid hd.src; have HS2 := Lib.hid ht.src; have HS3 := Lib.hid he.src
  obtain ⟨a0, c0, rfl, h01, h02, -, h04, -⟩ := hs
  obtain ⟨a1, c1, rfl, h11, h12, -, h14, hin⟩ := hd
  obtain ⟨a2, c2, rfl, h21, h22, -, h24, -⟩ := ht
  obtain ⟨a3, c3, rfl, h31, h32, -, h34, hie⟩ := he
  have h02' : c0 ≤ 9223372036854775807 := h02
  have h12' : c1 ≤ 9223372036854775807 := h12
  have h22' : c2 ≤ 9223372036854775807 := h22
  have h32' : c3 ≤ 9223372036854775807 := h32
  have HM : Hid (s.length ≤ maxLen) := Lib.hid (Nat.le_trans h01 h02)
  have HM2 : Hid (t.length ≤ maxLen) := Lib.hid (Nat.le_trans h21 h22)
  have H0 := Lib.hid h04; have H1 := Lib.hid h14; have HIN := Lib.hid hin
  have H2 := Lib.hid h24; have H3 := Lib.hid h34; have HIE := Lib.hid hie
  have HO := Lib.hid (Duo.mk0 w (.slice a0 s.length c0) (.slice a1 d.length c1) (.slice a2 t.length c2) (.slice a3 e.length c3))
  obtain ⟨r, HRR⟩ : ∃ r, Hid ((pairsA f d e s) = r) := ⟨_, Lib.hid rfl⟩
  rw [HRR.out]
  clear h04 h14 h24 h34 h02 h12 h22 h32 hin hie
  go_enter Try.func18, Try.ntmps18
  go_upto_region 1 with fail
  refine gen_worldA (fun W => Duo w W (.slice a0 s.length c0) (.slice a1 d.length c1) (.slice a2 t.length c2) (.slice a3 e.length c3)) HO.out ?_
  rintro W1 hO
  have HO2 := Lib.hid hO
  have x0 := hO.c0; have x1 := hO.c1; have x2 := hO.c2; have x3 := hO.c3
  clear HO hO
  have hq := rright_any W1 a0 a1 c0 c1 s d HM.out (H0.out.below HO2.out.b (Nat.le_refl _))
  rw [HR1.out] at hq
  have HQ := Lib.hid hq
  clear hq
  go_wp2_with fail
  refine HQ.out.mono ?_
  rintro e' W2 ⟨rfl, hb2⟩
  have HO3 := Lib.hid (HO2.out.next hb2)
  have hq := rright_any W2 a2 a3 c2 c3 t e HM2.out (H2.out.below HO3.out.b (Nat.le_refl _))
  rw [HR2.out] at hq
  clear HQ x0 x1 x2 x3
  have HQ := Lib.hid hq
  have x2 := HO3.out.c2; have x3 := HO3.out.c3
  clear hq hb2 HO2
  go_wp2_with fail
  refine HQ.out.mono ?_
  rintro e' W3 ⟨rfl, hb3⟩
  have HO4 := Lib.hid (HO3.out.next hb3)
  clear HQ x2 x3 hb3 HO3
  have x0 := HO4.out.c0; have x1 := HO4.out.c1; have x2 := HO4.out.c2; have x3 := HO4.out.c3
  have HQ0 := Lib.hid (HT.out W3)
  go_wp2_with fail
  refine HQ0.out.mono ?_
  rintro e' W4 ⟨rfl, rfl⟩
  have hq := ints_any W3 a0 a2 c0 c2 s t HM.out HM2.out (H0.out.below HO4.out.b (Nat.le_refl _)) (H2.out.below HO4.out.b (Nat.le_refl _))
  rw [HINTS.out] at hq
  have HQ := Lib.hid hq
  clear hq HQ0 HT g0 g1 g2 g3
  go_wp2_with fail
  refine HQ.out.mono ?_
  rintro e' W6 ⟨rfl, n6, rfl⟩
  clear x0 x1 x2 x3
  have HO6 := Lib.hid (HO4.out.next (Below.drewN W3 n6))
  obtain ⟨W7, hW7⟩ : ∃ W, W3.drewN n6 = W := ⟨_, rfl⟩
  rw [hW7] at HO6 ⊢
  clear HQ HO4 hW7
  have x0 := HO6.out.c0; have x1 := HO6.out.c1; have x2 := HO6.out.c2; have x3 := HO6.out.c3
  have hq : Calls Try.prog 58 #[.int .u8 f, .slice a1 d.length c1, .slice a3 e.length c3, .slice a0 s.length c0] W7 fun e' w' => RetArr W7.heap.size (pairsA f d e s) e' w' ∧ Below W7.heap.size W7 w' := by
    have := rpairs_any W7 f a1 a3 d.length c1 c3 (.slice a0 s.length c0) d e s rfl HLE.out.symm (by omega) (H1.out.below HO6.out.b (Nat.le_refl _)) (H3.out.below HO6.out.b (Nat.le_refl _)) HIN.out HIE.out ⟨_, _, rfl⟩ (HS0.out.below HO6.out.b) (by omega) HTK.out
    rwa [show Value.slice a3 d.length c3 = Value.slice a3 e.length c3 from by rw [HLE.out]] at this
  rw [HRR.out] at hq
  have hq := retB HO6.out.b.size hq
  have HQ := Lib.hid hq; have HR := Lib.hid HO6.out.r; have HB := Lib.hid HO6.out.b
  clear hq
  go_wp2_with fail
  refine (Hid.out HQ).mono ?_
  rintro e w9 ⟨⟨v9, u9, rfl, hv9, hu9, hap9⟩, hb9⟩
  have hR9 := block_below (Hid.out HR) hb9
  have HV9 := Lib.hid hv9; have HU9 := Lib.hid hu9; have HAP9 := Lib.hid hap9; have HR9 := Lib.hid hR9
  have HB9 := Lib.hid (bNext hb9 (Hid.out HB))
  obtain ⟨a9, c9, rfl, -, -⟩ := RowI.slice hv9
  obtain ⟨a8, c8, rfl, -, -⟩ := RowI.slice hu9
  have g0 := cell_of_row w9 _ 0 _ _ _ hR9; have g1 := cell_of_row w9 _ 1 _ _ _ hR9
  have z0 := frozen_of_row w9 _ 0 _ _ hR9; have z1 := frozen_of_row w9 _ 1 _ _ hR9
  clear hv9 hu9 hap9 hb9 hR9
  go_wp2_with fail
  exact fin_arr rfl rfl rfl HR9.out HV9.out HU9.out HAP9.out HB9.out (by omega)
set_option maxHeartbeats 8000000 in
theorem rd_left (w : World) (f : Int) (v u v2 u2 : Value) (s d t e : List Int) (hs : SlA w v s) (hd : SlA w u d) (ht : SlA w v2 t) (he : SlA w u2 e) (hr1 : right s d = true) (hr2 : right t e = true) (htk : takes f true = true) (hst : s ≠ t) (hs0 : s.length = 0) :
    Calls Try.prog 18 #[.int .u8 f, .agg #[v, u], .agg #[v2, u2]] w fun e' w' => RetArr w.heap.size (pairsA f (List.replicate e.length (d.headD 0)) e t) e' w' ∧ Below w.heap.size w w' := by
  have hf := (takes_in htk).2
  have g0 : (f == 37) = false := by rw [beq_eq_false_iff_ne]; omega
  have g1 : (f == 38) = false := by rw [beq_eq_false_iff_ne]; omega
  have g2 : (f == 39) = false := by rw [beq_eq_false_iff_ne]; omega
  have g3 : (f == 40) = false := by rw [beq_eq_false_iff_ne]; omega
  have hints : ints s t = false := by unfold ints; first | exact decide_eq_false hst | exact decide_eq_true hst
  have HINTS := Lib.hid hints
  have hs4 := (right_good hr1).2.len
  have hd6 := (right_good hr1).2.le
  have ht4 := (right_good hr2).2.len
  have he6 := (right_good hr2).2.le
  have HR1 := Lib.hid hr1; have HR2 := Lib.hid hr2; have HTK := Lib.hid htk
  have HT := Lib.hid (fun W => rtakes_at W f true true htk)
  have hd1 := one_of_none hr1 hs0
  have hs1 : ((s.length : Int) == 0) = true := by rw [beq_iff_eq]; omega
  have hd0 : (0 : Int) < (d.length : Int) := by omega
  have hdl : 0 < d.length := by omega
  have hxd := head_getD d
  obtain ⟨x, hx0⟩ : ∃ x, d.headD 0 = x := ⟨_, rfl⟩
  rw [hx0] at hxd ⊢
  have HXD := Lib.hid hxd
  have hxi : In64 x := by
    obtain ⟨_, _, _, _, _, _, _, h⟩ := hd
    rw [← hxd]
    exact getD_in64 h 0
  have HXI := Lib.hid hxi
  clear hr1 hr2 hf htk hst hs0 hd1 hx0 hxd hints hxi
  have HS0 := Lib.hid hs.src; have HS1 := Lib.hid hd.src; have HS2 := Lib.hid ht.src; have HS3 := Lib.hid he.src
  obtain ⟨a0, c0, rfl, h01, h02, -, h04, -⟩ := hs
  obtain ⟨a1, c1, rfl, h11, h12, -, h14, hin⟩ := hd
  obtain ⟨a2, c2, rfl, h21, h22, -, h24, -⟩ := ht
  obtain ⟨a3, c3, rfl, h31, h32, -, h34, hie⟩ := he
  have h02' : c0 ≤ 9223372036854775807 := h02
  have h12' : c1 ≤ 9223372036854775807 := h12
  have h22' : c2 ≤ 9223372036854775807 := h22
  have h32' : c3 ≤ 9223372036854775807 := h32
  have HM : Hid (s.length ≤ maxLen) := Lib.hid (Nat.le_trans h01 h02)
  have HM2 : Hid (t.length ≤ maxLen) := Lib.hid (Nat.le_trans h21 h22)
  have H0 := Lib.hid h04; have H1 := Lib.hid h14; have HIN := Lib.hid hin
  have H2 := Lib.hid h24; have H3 := Lib.hid h34; have HIE := Lib.hid hie
  have HO := Lib.hid (Duo.mk0 w (.slice a0 s.length c0) (.slice a1 d.length c1) (.slice a2 t.length c2) (.slice a3 e.length c3))
  obtain ⟨r, HRR⟩ : ∃ r, Hid ((pairsA f (List.replicate e.length x) e t) = r) := ⟨_, Lib.hid rfl⟩
  rw [HRR.out]
  clear h04 h14 h24 h34 h02 h12 h22 h32 hin hie
  go_enter Try.func18, Try.ntmps18
  go_upto_region 1 with fail
  refine gen_worldA (fun W => Duo w W (.slice a0 s.length c0) (.slice a1 d.length c1) (.slice a2 t.length c2) (.slice a3 e.length c3)) HO.out ?_
  rintro W1 hO
  have HO2 := Lib.hid hO
  have x0 := hO.c0; have x1 := hO.c1; have x2 := hO.c2; have x3 := hO.c3
  clear HO hO
  have hq := rright_any W1 a0 a1 c0 c1 s d HM.out (H0.out.below HO2.out.b (Nat.le_refl _))
  rw [HR1.out] at hq
  have HQ := Lib.hid hq
  clear hq
  go_wp2_with fail
  refine HQ.out.mono ?_
  rintro e' W2 ⟨rfl, hb2⟩
  have HO3 := Lib.hid (HO2.out.next hb2)
  have hq := rright_any W2 a2 a3 c2 c3 t e HM2.out (H2.out.below HO3.out.b (Nat.le_refl _))
  rw [HR2.out] at hq
  clear HQ x0 x1 x2 x3
  have HQ := Lib.hid hq
  have x2 := HO3.out.c2; have x3 := HO3.out.c3
  clear hq hb2 HO2
  go_wp2_with fail
  refine HQ.out.mono ?_
  rintro e' W3 ⟨rfl, hb3⟩
  have HO4 := Lib.hid (HO3.out.next hb3)
  clear HQ x2 x3 hb3 HO3
  have x0 := HO4.out.c0; have x1 := HO4.out.c1; have x2 := HO4.out.c2; have x3 := HO4.out.c3
  have HQ0 := Lib.hid (HT.out W3)
  go_wp2_with fail
  refine HQ0.out.mono ?_
  rintro e' W4 ⟨rfl, rfl⟩
  have hq := ints_any W3 a0 a2 c0 c2 s t HM.out HM2.out (H0.out.below HO4.out.b (Nat.le_refl _)) (H2.out.below HO4.out.b (Nat.le_refl _))
  rw [HINTS.out] at hq
  have HQ := Lib.hid hq
  clear hq HQ0 HT g0 g1 g2 g3
  go_wp2_with fail
  refine HQ.out.mono ?_
  rintro e' W6 ⟨rfl, n6, rfl⟩
  clear x0 x1 x2 x3
  have HO6 := Lib.hid (HO4.out.next (Below.drewN W3 n6))
  obtain ⟨W7, hW7⟩ : ∃ W, W3.drewN n6 = W := ⟨_, rfl⟩
  rw [hW7] at HO6 ⊢
  clear HQ HO4 hW7
  have x0 := HO6.out.c0; have x1 := HO6.out.c1; have x2 := HO6.out.c2; have x3 := HO6.out.c3
  obtain ⟨b1, o1, rfl, hc1⟩ := H1.out.atD hdl
  rw [HXD.out, Nat.add_zero] at hc1
  have HC1 := Lib.hid hc1
  have hc1 := keepCell HO6.out.b hc1
  have hel : (0 : Int) ≤ (e.length : Int) := by omega
  go_upto_region 16 with fail
  refine wp_region_Z (S := fun W' => (W'.cell? ⟨w.heap.size, 1, none⟩ = some (.slice (some ⟨b1, o1, none⟩) d.length c1) ∧ W'.cell? ⟨w.heap.size + 1, 1, none⟩ = some (.slice a3 e.length c3)) ∧ W'.cell? ⟨w.heap.size + 1, 0, none⟩ = some (.slice a2 t.length c2) ∧ W'.cell? ⟨b1, o1, none⟩ = some (.int .i64 x)) (z := 16) (by kernel_rfl) ?_
  have hSS : (fun W' : World => (W'.cell? ⟨w.heap.size, 1, none⟩ = some (.slice (some ⟨b1, o1, none⟩) d.length c1) ∧ W'.cell? ⟨w.heap.size + 1, 1, none⟩ = some (.slice a3 e.length c3)) ∧ W'.cell? ⟨w.heap.size + 1, 0, none⟩ = some (.slice a2 t.length c2) ∧ W'.cell? ⟨b1, o1, none⟩ = some (.int .i64 x)) W7.drew := ⟨⟨x1, x3⟩, x2, hc1⟩
  clear x0 x1 x2 x3 hc1
  refine wpAnyZ_take (i := 0) (v := ?_) rfl (by kernel_rfl) (by kernel_rfl) (by kernel_rfl) (fun _ _ _ h => h) (by kernel_rfl) (Or.inl ⟨by rfl, ?_⟩) (by assumption) ?_
  rotate_left
  · intro w' hSw
    try dsimp only at hSw
    try obtain ⟨hSw, hSw2⟩ := hSw
    go_simp
    try with_reducible rfl
  show wpAnyZ _ _ _ _ _ _ _ _ (Act.put _ (some 69) _) _
  simp only [Act.put, List.setIfInBounds_toArray, List.set_cons_zero, List.set_cons_succ]
  refine wpAnyZ_take (i := 1) (v := ?_) rfl (by kernel_rfl) (by kernel_rfl) (by kernel_rfl) (fun _ _ _ h => h) (by kernel_rfl) (Or.inl ⟨by rfl, ?_⟩) (by assumption) ?_
  rotate_left
  · intro w' hSw
    try dsimp only at hSw
    try obtain ⟨hSw, hSw2⟩ := hSw
    go_simp
    try with_reducible rfl
  show wpAnyZ _ _ _ _ _ _ _ _ (Act.put _ (some 70) _) _
  simp only [Act.put, List.setIfInBounds_toArray, List.set_cons_zero, List.set_cons_succ]
  refine wpAnyZ_take (i := 2) (v := ?_) rfl (by kernel_rfl) (by kernel_rfl) (by kernel_rfl) (fun _ _ _ h => h) (by kernel_rfl) (Or.inl ⟨by rfl, ?_⟩) (by assumption) ?_
  rotate_left
  · intro w' hSw
    try dsimp only at hSw
    try obtain ⟨hSw, hSw2⟩ := hSw
    go_simp
    try with_reducible rfl
  show wpAnyZ _ _ _ _ _ _ _ _ (Act.put _ (some 71) _) _
  simp only [Act.put, List.setIfInBounds_toArray, List.set_cons_zero, List.set_cons_succ]
  refine wpAnyZ_take (i := 3) (v := ?_) rfl (by kernel_rfl) (by kernel_rfl) (by kernel_rfl) (fun _ _ _ h => h) (by kernel_rfl) (Or.inl ⟨by rfl, ?_⟩) (by assumption) ?_
  rotate_left
  · intro w' hSw
    try dsimp only at hSw
    try obtain ⟨hSw, hSw2⟩ := hSw
    go_simp
    try with_reducible rfl
  show wpAnyZ _ _ _ _ _ _ _ _ (Act.put _ (some 72) _) _
  simp only [Act.put, List.setIfInBounds_toArray, List.set_cons_zero, List.set_cons_succ]
  refine wpAnyZ_take (i := 4) (v := ?_) rfl (by kernel_rfl) (by kernel_rfl) (by kernel_rfl) (fun _ _ _ h => h) (by kernel_rfl) (Or.inl ⟨by rfl, ?_⟩) (by assumption) ?_
  rotate_left
  · intro w' hSw
    try dsimp only at hSw
    try obtain ⟨hSw, hSw2⟩ := hSw
    go_simp
    try with_reducible rfl
  show wpAnyZ _ _ _ _ _ _ _ _ (Act.put _ (some 73) _) _
  simp only [Act.put, List.setIfInBounds_toArray, List.set_cons_zero, List.set_cons_succ]
  refine wpAnyZ_take (i := 5) (v := ?_) rfl (by kernel_rfl) (by kernel_rfl) (by kernel_rfl) (fun _ _ _ h => h) (by kernel_rfl) (Or.inl ⟨by rfl, ?_⟩) (by assumption) ?_
  rotate_left
  · intro w' hSw
    try dsimp only at hSw
    try obtain ⟨hSw, hSw2⟩ := hSw
    go_simp
    try with_reducible rfl
  show wpAnyZ _ _ _ _ _ _ _ _ (Act.put _ (some 74) _) _
  simp only [Act.put, List.setIfInBounds_toArray, List.set_cons_zero, List.set_cons_succ]
  refine wpAnyZ_take (i := 6) (v := ?_) rfl (by kernel_rfl) (by kernel_rfl) (by kernel_rfl) (fun _ _ _ h => h) (by kernel_rfl) (Or.inl ⟨by rfl, ?_⟩) (by assumption) ?_
  rotate_left
  · intro w' hSw
    try dsimp only at hSw
    try obtain ⟨hSw, hSw2⟩ := hSw
    go_simp
    try with_reducible rfl
  show wpAnyZ _ _ _ _ _ _ _ _ (Act.put _ (some 75) _) _
  simp only [Act.put, List.setIfInBounds_toArray, List.set_cons_zero, List.set_cons_succ]
  refine wpAnyZ_take (i := 7) (v := ?_) rfl (by kernel_rfl) (by kernel_rfl) (by kernel_rfl) (fun _ _ _ h => h) (by kernel_rfl) (Or.inl ⟨by rfl, ?_⟩) (by assumption) ?_
  rotate_left
  · intro w' hSw
    try dsimp only at hSw
    try obtain ⟨hSw, hSw2⟩ := hSw
    go_simp
    try with_reducible rfl
  show wpAnyZ _ _ _ _ _ _ _ _ (Act.put _ (some 76) _) _
  simp only [Act.put, List.setIfInBounds_toArray, List.set_cons_zero, List.set_cons_succ]
  refine wpAnyZ_take (i := 9) (v := ?_) rfl (by kernel_rfl) (by kernel_rfl) (by kernel_rfl) (fun _ _ _ h => h) (by kernel_rfl) (Or.inl ⟨by rfl, ?_⟩) (by assumption) ?_
  rotate_left
  · intro w' hSw
    try dsimp only at hSw
    try obtain ⟨hSw, hSw2⟩ := hSw
    go_simp
    try with_reducible rfl
  show wpAnyZ _ _ _ _ _ _ _ _ (Act.put _ (some 78) _) _
  simp only [Act.put, List.setIfInBounds_toArray, List.set_cons_zero, List.set_cons_succ]
  refine wpAnyZ_take (i := 10) (v := ?_) rfl (by kernel_rfl) (by kernel_rfl) (by kernel_rfl) (fun _ _ _ h => h) (by kernel_rfl) (Or.inl ⟨by rfl, ?_⟩) (by assumption) ?_
  rotate_left
  · intro w' hSw
    try dsimp only at hSw
    try obtain ⟨hSw, hSw2⟩ := hSw
    go_simp
    try with_reducible rfl
  show wpAnyZ _ _ _ _ _ _ _ _ (Act.put _ (some 79) _) _
  simp only [Act.put, List.setIfInBounds_toArray, List.set_cons_zero, List.set_cons_succ]
  refine wpAnyZ_take (i := 11) (v := ?_) rfl (by kernel_rfl) (by kernel_rfl) (by kernel_rfl) (fun _ _ _ h => h) (by kernel_rfl) (Or.inl ⟨by rfl, ?_⟩) (by assumption) ?_
  rotate_left
  · intro w' hSw
    try dsimp only at hSw
    try obtain ⟨hSw, hSw2⟩ := hSw
    go_simp
    try with_reducible rfl
  show wpAnyZ _ _ _ _ _ _ _ _ (Act.put _ (some 80) _) _
  simp only [Act.put, List.setIfInBounds_toArray, List.set_cons_zero, List.set_cons_succ]
  refine wpAnyZ_take (i := 12) (v := ?_) rfl (by kernel_rfl) (by kernel_rfl) (by kernel_rfl) (fun _ _ _ h => h) (by kernel_rfl) (Or.inl ⟨by rfl, ?_⟩) (by assumption) ?_
  rotate_left
  · intro w' hSw
    try dsimp only at hSw
    try obtain ⟨hSw, hSw2⟩ := hSw
    go_simp
    try with_reducible rfl
  show wpAnyZ _ _ _ _ _ _ _ _ (Act.put _ (some 81) _) _
  simp only [Act.put, List.setIfInBounds_toArray, List.set_cons_zero, List.set_cons_succ]
  clear hSS
  have HO7 := Lib.hid (HO6.out.next (Below.refl W7.heap.size W7).drew)
  refine wpAnyZ_one (i := 8) (by kernel_rfl) rfl rfl (fun K hK => ?_)
  go_simp
  refine (times_any W7.drew x e.length (by omega)).mono ?_
  rintro e' W8 ⟨v8, rfl, hv8, hb8⟩
  have HO8 := Lib.hid (HO7.out.next hb8)
  obtain ⟨a8', c8', e8, -, hi8⟩ := hv8.slice
  rw [List.length_replicate] at e8
  subst e8
  show K _ W8
  refine hK.out _ _ (.inr ⟨⟨HO8.out.c1, HO8.out.c3⟩, HO8.out.c2, keepCell HO8.out.b HC1.out⟩) ?_
  have HI8 := Lib.hid hi8
  clear hK hv8 hb8 hi8 HO7
  refine wpAnyZ_one (i := 13) (by kernel_rfl) rfl rfl (fun K hK => ?_)
  go_simp
  have hq := rpairs_any W8 f a8' a3 e.length c8' c3 (.slice a2 t.length c2) (List.replicate e.length x) e t (by simp) rfl (by omega) HI8.out (H3.out.below HO8.out.b (Nat.le_refl _)) (fun y hy => by rw [(List.mem_replicate.1 hy).2]; exact HXI.out) HIE.out ⟨_, _, rfl⟩ (HS2.out.below HO8.out.b) (by omega) HTK.out
  rw [HRR.out] at hq
  refine ((retB HO8.out.b.size hq)).mono ?_
  rintro e' w9 ⟨⟨v9, u9, rfl, hv9, hu9, hap9⟩, hb9⟩
  have hO9 := HO8.out.next hb9
  have HV9 := Lib.hid hv9; have HU9 := Lib.hid hu9; have HAP9 := Lib.hid hap9; have HO9 := Lib.hid hO9
  obtain ⟨a9, c9, rfl, -, -⟩ := RowI.slice hv9
  obtain ⟨a8, c8, rfl, -, -⟩ := RowI.slice hu9
  show K _ w9
  have hSS : (fun W' : World => (W'.cell? ⟨w.heap.size, 1, none⟩ = some (.slice (some ⟨b1, o1, none⟩) d.length c1) ∧ W'.cell? ⟨w.heap.size + 1, 1, none⟩ = some (.slice a3 e.length c3)) ∧ W'.cell? ⟨w.heap.size + 1, 0, none⟩ = some (.slice a2 t.length c2) ∧ W'.cell? ⟨b1, o1, none⟩ = some (.int .i64 x)) w9 := ⟨⟨hO9.c1, hO9.c3⟩, hO9.c2, keepCell hO9.b HC1.out⟩
  refine hK.out _ _ (.inr hSS) ?_
  clear hK hv9 hu9 hap9 hb9 hO9 HO8 HI8 hq
  refine wpAnyZ_take (i := 14) (v := ?_) rfl (by kernel_rfl) (by kernel_rfl) (by kernel_rfl) (fun _ _ _ h => h) (by kernel_rfl) (Or.inl ⟨by rfl, ?_⟩) (by assumption) ?_
  rotate_left
  · intro w' hSw
    try dsimp only at hSw
    try obtain ⟨hSw, hSw2⟩ := hSw
    go_simp
    try with_reducible rfl
  show wpAnyZ _ _ _ _ _ _ _ _ (Act.put _ (some 83) _) _
  simp only [Act.put, List.setIfInBounds_toArray, List.set_cons_zero, List.set_cons_succ]
  refine wpAnyZ_take (i := 15) (v := ?_) rfl (by kernel_rfl) (by kernel_rfl) (by kernel_rfl) (fun _ _ _ h => h) (by kernel_rfl) (Or.inl ⟨by rfl, ?_⟩) (by assumption) ?_
  rotate_left
  · intro w' hSw
    try dsimp only at hSw
    try obtain ⟨hSw, hSw2⟩ := hSw
    go_simp
    try with_reducible rfl
  show wpAnyZ _ _ _ _ _ _ _ _ (Act.put _ (some 84) _) _
  simp only [Act.put, List.setIfInBounds_toArray, List.set_cons_zero, List.set_cons_succ]
  clear hSS
  refine wpAnyZ_one (i := 16) (by kernel_rfl) rfl rfl (fun K hK => ?_)
  have g0 := cell_of_row w9 _ 0 _ _ _ HO9.out.r; have g1 := cell_of_row w9 _ 1 _ _ _ HO9.out.r
  have z0 := frozen_of_row w9 _ 0 _ _ HO9.out.r; have z1 := frozen_of_row w9 _ 1 _ _ HO9.out.r
  go_simp
  refine hK.out _ _ (.inl (Nat.le_refl _)) ?_
  clear hK g0 g1 z0 z1
  refine wpAnyZ_one (i := 17) (by kernel_rfl) rfl rfl (fun K hK => ?_)
  go_simp
  refine hK.out _ _ (.inl (by omega)) ?_
  clear hK
  refine wpAnyZ_done (by kernel_rfl) ?_ _
  go_wp2_with fail
  exact fin_arr rfl rfl rfl HO9.out.r HV9.out HU9.out HAP9.out HO9.out.b (by omega)
set_option maxHeartbeats 8000000 in
theorem rd_right (w : World) (f : Int) (v u v2 u2 : Value) (s d t e : List Int) (hs : SlA w v s) (hd : SlA w u d) (ht : SlA w v2 t) (he : SlA w u2 e) (hr1 : right s d = true) (hr2 : right t e = true) (htk : takes f true = true) (hst : s ≠ t) (hs0 : s.length ≠ 0) (ht0 : t.length = 0) :
    Calls Try.prog 18 #[.int .u8 f, .agg #[v, u], .agg #[v2, u2]] w fun e' w' => RetArr w.heap.size (pairsA f d (List.replicate d.length (e.headD 0)) s) e' w' ∧ Below w.heap.size w w' := by
  have hf := (takes_in htk).2
  have g0 : (f == 37) = false := by rw [beq_eq_false_iff_ne]; omega
  have g1 : (f == 38) = false := by rw [beq_eq_false_iff_ne]; omega
  have g2 : (f == 39) = false := by rw [beq_eq_false_iff_ne]; omega
  have g3 : (f == 40) = false := by rw [beq_eq_false_iff_ne]; omega
  have hints : ints s t = false := by unfold ints; first | exact decide_eq_false hst | exact decide_eq_true hst
  have HINTS := Lib.hid hints
  have hs4 := (right_good hr1).2.len
  have hd6 := (right_good hr1).2.le
  have ht4 := (right_good hr2).2.len
  have he6 := (right_good hr2).2.le
  have HR1 := Lib.hid hr1; have HR2 := Lib.hid hr2; have HTK := Lib.hid htk
  have HT := Lib.hid (fun W => rtakes_at W f true true htk)
  have he1 := one_of_none hr2 ht0
  have hs1 : ((s.length : Int) == 0) = false := by rw [beq_eq_false_iff_ne]; omega
  have ht1 : ((t.length : Int) == 0) = true := by rw [beq_iff_eq]; omega
  have hd0 : (0 : Int) < (e.length : Int) := by omega
  have hdl : 0 < e.length := by omega
  have hxd := head_getD e
  obtain ⟨x, hx0⟩ : ∃ x, e.headD 0 = x := ⟨_, rfl⟩
  rw [hx0] at hxd ⊢
  have HXD := Lib.hid hxd
  have hxi : In64 x := by
    obtain ⟨_, _, _, _, _, _, _, h⟩ := he
    rw [← hxd]
    exact getD_in64 h 0
  have HXI := Lib.hid hxi
  clear hr1 hr2 hf htk hst hs0 ht0 he1 hx0 hxd hints hxi
  have HS0 := Lib.hid hs.src; have HS1 := Lib.hid hd.src; have HS2 := Lib.hid ht.src; have HS3 := Lib.hid he.src
  obtain ⟨a0, c0, rfl, h01, h02, -, h04, -⟩ := hs
  obtain ⟨a1, c1, rfl, h11, h12, -, h14, hin⟩ := hd
  obtain ⟨a2, c2, rfl, h21, h22, -, h24, -⟩ := ht
  obtain ⟨a3, c3, rfl, h31, h32, -, h34, hie⟩ := he
  have h02' : c0 ≤ 9223372036854775807 := h02
  have h12' : c1 ≤ 9223372036854775807 := h12
  have h22' : c2 ≤ 9223372036854775807 := h22
  have h32' : c3 ≤ 9223372036854775807 := h32
  have HM : Hid (s.length ≤ maxLen) := Lib.hid (Nat.le_trans h01 h02)
  have HM2 : Hid (t.length ≤ maxLen) := Lib.hid (Nat.le_trans h21 h22)
  have H0 := Lib.hid h04; have H1 := Lib.hid h14; have HIN := Lib.hid hin
  have H2 := Lib.hid h24; have H3 := Lib.hid h34; have HIE := Lib.hid hie
  have HO := Lib.hid (Duo.mk0 w (.slice a0 s.length c0) (.slice a1 d.length c1) (.slice a2 t.length c2) (.slice a3 e.length c3))
  obtain ⟨r, HRR⟩ : ∃ r, Hid ((pairsA f d (List.replicate d.length x) s) = r) := ⟨_, Lib.hid rfl⟩
  rw [HRR.out]
  clear h04 h14 h24 h34 h02 h12 h22 h32 hin hie
  go_enter Try.func18, Try.ntmps18
  go_upto_region 1 with fail
  refine gen_worldA (fun W => Duo w W (.slice a0 s.length c0) (.slice a1 d.length c1) (.slice a2 t.length c2) (.slice a3 e.length c3)) HO.out ?_
  rintro W1 hO
  have HO2 := Lib.hid hO
  have x0 := hO.c0; have x1 := hO.c1; have x2 := hO.c2; have x3 := hO.c3
  clear HO hO
  have hq := rright_any W1 a0 a1 c0 c1 s d HM.out (H0.out.below HO2.out.b (Nat.le_refl _))
  rw [HR1.out] at hq
  have HQ := Lib.hid hq
  clear hq
  go_wp2_with fail
  refine HQ.out.mono ?_
  rintro e' W2 ⟨rfl, hb2⟩
  have HO3 := Lib.hid (HO2.out.next hb2)
  have hq := rright_any W2 a2 a3 c2 c3 t e HM2.out (H2.out.below HO3.out.b (Nat.le_refl _))
  rw [HR2.out] at hq
  clear HQ x0 x1 x2 x3
  have HQ := Lib.hid hq
  have x2 := HO3.out.c2; have x3 := HO3.out.c3
  clear hq hb2 HO2
  go_wp2_with fail
  refine HQ.out.mono ?_
  rintro e' W3 ⟨rfl, hb3⟩
  have HO4 := Lib.hid (HO3.out.next hb3)
  clear HQ x2 x3 hb3 HO3
  have x0 := HO4.out.c0; have x1 := HO4.out.c1; have x2 := HO4.out.c2; have x3 := HO4.out.c3
  have HQ0 := Lib.hid (HT.out W3)
  go_wp2_with fail
  refine HQ0.out.mono ?_
  rintro e' W4 ⟨rfl, rfl⟩
  have hq := ints_any W3 a0 a2 c0 c2 s t HM.out HM2.out (H0.out.below HO4.out.b (Nat.le_refl _)) (H2.out.below HO4.out.b (Nat.le_refl _))
  rw [HINTS.out] at hq
  have HQ := Lib.hid hq
  clear hq HQ0 HT g0 g1 g2 g3
  go_wp2_with fail
  refine HQ.out.mono ?_
  rintro e' W6 ⟨rfl, n6, rfl⟩
  clear x0 x1 x2 x3
  have HO6 := Lib.hid (HO4.out.next (Below.drewN W3 n6))
  obtain ⟨W7, hW7⟩ : ∃ W, W3.drewN n6 = W := ⟨_, rfl⟩
  rw [hW7] at HO6 ⊢
  clear HQ HO4 hW7
  have x0 := HO6.out.c0; have x1 := HO6.out.c1; have x2 := HO6.out.c2; have x3 := HO6.out.c3
  obtain ⟨b3, o3, rfl, hc3⟩ := H3.out.atD hdl
  rw [HXD.out, Nat.add_zero] at hc3
  have HC3 := Lib.hid hc3
  have hc3 := keepCell HO6.out.b hc3
  have hel : (0 : Int) ≤ (d.length : Int) := by omega
  go_upto_region 18 with fail
  refine wp_region_Z (S := fun W' => (W'.cell? ⟨w.heap.size, 1, none⟩ = some (.slice a1 d.length c1) ∧ W'.cell? ⟨w.heap.size + 1, 1, none⟩ = some (.slice (some ⟨b3, o3, none⟩) e.length c3)) ∧ W'.cell? ⟨w.heap.size, 0, none⟩ = some (.slice a0 s.length c0) ∧ W'.cell? ⟨b3, o3, none⟩ = some (.int .i64 x)) (z := 16) (by kernel_rfl) ?_
  have hSS : (fun W' : World => (W'.cell? ⟨w.heap.size, 1, none⟩ = some (.slice a1 d.length c1) ∧ W'.cell? ⟨w.heap.size + 1, 1, none⟩ = some (.slice (some ⟨b3, o3, none⟩) e.length c3)) ∧ W'.cell? ⟨w.heap.size, 0, none⟩ = some (.slice a0 s.length c0) ∧ W'.cell? ⟨b3, o3, none⟩ = some (.int .i64 x)) W7.drew := ⟨⟨x1, x3⟩, x0, hc3⟩
  clear x0 x1 x2 x3 hc3
  refine wpAnyZ_take (i := 0) (v := ?_) rfl (by kernel_rfl) (by kernel_rfl) (by kernel_rfl) (fun _ _ _ h => h) (by kernel_rfl) (Or.inl ⟨by rfl, ?_⟩) (by assumption) ?_
  rotate_left
  · intro w' hSw
    try dsimp only at hSw
    try obtain ⟨hSw, hSw2⟩ := hSw
    go_simp
    try with_reducible rfl
  show wpAnyZ _ _ _ _ _ _ _ _ (Act.put _ (some 89) _) _
  simp only [Act.put, List.setIfInBounds_toArray, List.set_cons_zero, List.set_cons_succ]
  refine wpAnyZ_take (i := 1) (v := ?_) rfl (by kernel_rfl) (by kernel_rfl) (by kernel_rfl) (fun _ _ _ h => h) (by kernel_rfl) (Or.inl ⟨by rfl, ?_⟩) (by assumption) ?_
  rotate_left
  · intro w' hSw
    try dsimp only at hSw
    try obtain ⟨hSw, hSw2⟩ := hSw
    go_simp
    try with_reducible rfl
  show wpAnyZ _ _ _ _ _ _ _ _ (Act.put _ (some 90) _) _
  simp only [Act.put, List.setIfInBounds_toArray, List.set_cons_zero, List.set_cons_succ]
  refine wpAnyZ_take (i := 2) (v := ?_) rfl (by kernel_rfl) (by kernel_rfl) (by kernel_rfl) (fun _ _ _ h => h) (by kernel_rfl) (Or.inl ⟨by rfl, ?_⟩) (by assumption) ?_
  rotate_left
  · intro w' hSw
    try dsimp only at hSw
    try obtain ⟨hSw, hSw2⟩ := hSw
    go_simp
    try with_reducible rfl
  show wpAnyZ _ _ _ _ _ _ _ _ (Act.put _ (some 91) _) _
  simp only [Act.put, List.setIfInBounds_toArray, List.set_cons_zero, List.set_cons_succ]
  refine wpAnyZ_take (i := 3) (v := ?_) rfl (by kernel_rfl) (by kernel_rfl) (by kernel_rfl) (fun _ _ _ h => h) (by kernel_rfl) (Or.inl ⟨by rfl, ?_⟩) (by assumption) ?_
  rotate_left
  · intro w' hSw
    try dsimp only at hSw
    try obtain ⟨hSw, hSw2⟩ := hSw
    go_simp
    try with_reducible rfl
  show wpAnyZ _ _ _ _ _ _ _ _ (Act.put _ (some 92) _) _
  simp only [Act.put, List.setIfInBounds_toArray, List.set_cons_zero, List.set_cons_succ]
  refine wpAnyZ_take (i := 4) (v := ?_) rfl (by kernel_rfl) (by kernel_rfl) (by kernel_rfl) (fun _ _ _ h => h) (by kernel_rfl) (Or.inl ⟨by rfl, ?_⟩) (by assumption) ?_
  rotate_left
  · intro w' hSw
    try dsimp only at hSw
    try obtain ⟨hSw, hSw2⟩ := hSw
    go_simp
    try with_reducible rfl
  show wpAnyZ _ _ _ _ _ _ _ _ (Act.put _ (some 93) _) _
  simp only [Act.put, List.setIfInBounds_toArray, List.set_cons_zero, List.set_cons_succ]
  refine wpAnyZ_take (i := 5) (v := ?_) rfl (by kernel_rfl) (by kernel_rfl) (by kernel_rfl) (fun _ _ _ h => h) (by kernel_rfl) (Or.inl ⟨by rfl, ?_⟩) (by assumption) ?_
  rotate_left
  · intro w' hSw
    try dsimp only at hSw
    try obtain ⟨hSw, hSw2⟩ := hSw
    go_simp
    try with_reducible rfl
  show wpAnyZ _ _ _ _ _ _ _ _ (Act.put _ (some 94) _) _
  simp only [Act.put, List.setIfInBounds_toArray, List.set_cons_zero, List.set_cons_succ]
  refine wpAnyZ_take (i := 6) (v := ?_) rfl (by kernel_rfl) (by kernel_rfl) (by kernel_rfl) (fun _ _ _ h => h) (by kernel_rfl) (Or.inl ⟨by rfl, ?_⟩) (by assumption) ?_
  rotate_left
  · intro w' hSw
    try dsimp only at hSw
    try obtain ⟨hSw, hSw2⟩ := hSw
    go_simp
    try with_reducible rfl
  show wpAnyZ _ _ _ _ _ _ _ _ (Act.put _ (some 95) _) _
  simp only [Act.put, List.setIfInBounds_toArray, List.set_cons_zero, List.set_cons_succ]
  refine wpAnyZ_take (i := 7) (v := ?_) rfl (by kernel_rfl) (by kernel_rfl) (by kernel_rfl) (fun _ _ _ h => h) (by kernel_rfl) (Or.inl ⟨by rfl, ?_⟩) (by assumption) ?_
  rotate_left
  · intro w' hSw
    try dsimp only at hSw
    try obtain ⟨hSw, hSw2⟩ := hSw
    go_simp
    try with_reducible rfl
  show wpAnyZ _ _ _ _ _ _ _ _ (Act.put _ (some 96) _) _
  simp only [Act.put, List.setIfInBounds_toArray, List.set_cons_zero, List.set_cons_succ]
  refine wpAnyZ_take (i := 8) (v := ?_) rfl (by kernel_rfl) (by kernel_rfl) (by kernel_rfl) (fun _ _ _ h => h) (by kernel_rfl) (Or.inl ⟨by rfl, ?_⟩) (by assumption) ?_
  rotate_left
  · intro w' hSw
    try dsimp only at hSw
    try obtain ⟨hSw, hSw2⟩ := hSw
    go_simp
    try with_reducible rfl
  show wpAnyZ _ _ _ _ _ _ _ _ (Act.put _ (some 97) _) _
  simp only [Act.put, List.setIfInBounds_toArray, List.set_cons_zero, List.set_cons_succ]
  refine wpAnyZ_take (i := 9) (v := ?_) rfl (by kernel_rfl) (by kernel_rfl) (by kernel_rfl) (fun _ _ _ h => h) (by kernel_rfl) (Or.inl ⟨by rfl, ?_⟩) (by assumption) ?_
  rotate_left
  · intro w' hSw
    try dsimp only at hSw
    try obtain ⟨hSw, hSw2⟩ := hSw
    go_simp
    try with_reducible rfl
  show wpAnyZ _ _ _ _ _ _ _ _ (Act.put _ (some 98) _) _
  simp only [Act.put, List.setIfInBounds_toArray, List.set_cons_zero, List.set_cons_succ]
  refine wpAnyZ_take (i := 11) (v := ?_) rfl (by kernel_rfl) (by kernel_rfl) (by kernel_rfl) (fun _ _ _ h => h) (by kernel_rfl) (Or.inl ⟨by rfl, ?_⟩) (by assumption) ?_
  rotate_left
  · intro w' hSw
    try dsimp only at hSw
    try obtain ⟨hSw, hSw2⟩ := hSw
    go_simp
    try with_reducible rfl
  show wpAnyZ _ _ _ _ _ _ _ _ (Act.put _ (some 100) _) _
  simp only [Act.put, List.setIfInBounds_toArray, List.set_cons_zero, List.set_cons_succ]
  refine wpAnyZ_take (i := 12) (v := ?_) rfl (by kernel_rfl) (by kernel_rfl) (by kernel_rfl) (fun _ _ _ h => h) (by kernel_rfl) (Or.inl ⟨by rfl, ?_⟩) (by assumption) ?_
  rotate_left
  · intro w' hSw
    try dsimp only at hSw
    try obtain ⟨hSw, hSw2⟩ := hSw
    go_simp
    try with_reducible rfl
  show wpAnyZ _ _ _ _ _ _ _ _ (Act.put _ (some 101) _) _
  simp only [Act.put, List.setIfInBounds_toArray, List.set_cons_zero, List.set_cons_succ]
  clear hSS
  have HO7 := Lib.hid (HO6.out.next (Below.refl W7.heap.size W7).drew)
  refine wpAnyZ_one (i := 10) (by kernel_rfl) rfl rfl (fun K hK => ?_)
  go_simp
  refine (times_any W7.drew x d.length (by omega)).mono ?_
  rintro e' W8 ⟨v8, rfl, hv8, hb8⟩
  have HO8 := Lib.hid (HO7.out.next hb8)
  obtain ⟨a8', c8', e8, -, hi8⟩ := hv8.slice
  rw [List.length_replicate] at e8
  subst e8
  show K _ W8
  refine hK.out _ _ (.inr ⟨⟨HO8.out.c1, HO8.out.c3⟩, HO8.out.c0, keepCell HO8.out.b HC3.out⟩) ?_
  have HI8 := Lib.hid hi8
  clear hK hv8 hb8 hi8 HO7
  refine wpAnyZ_one (i := 13) (by kernel_rfl) rfl rfl (fun K hK => ?_)
  go_simp
  have hq := rpairs_any W8 f a1 a8' d.length c1 c8' (.slice a0 s.length c0) d (List.replicate d.length x) s rfl (by simp) (by omega) (H1.out.below HO8.out.b (Nat.le_refl _)) HI8.out HIN.out (fun y hy => by rw [(List.mem_replicate.1 hy).2]; exact HXI.out) ⟨_, _, rfl⟩ (HS0.out.below HO8.out.b) (by omega) HTK.out
  rw [HRR.out] at hq
  refine ((retB HO8.out.b.size hq)).mono ?_
  rintro e' w9 ⟨⟨v9, u9, rfl, hv9, hu9, hap9⟩, hb9⟩
  have hO9 := HO8.out.next hb9
  have HV9 := Lib.hid hv9; have HU9 := Lib.hid hu9; have HAP9 := Lib.hid hap9; have HO9 := Lib.hid hO9
  obtain ⟨a9, c9, rfl, -, -⟩ := RowI.slice hv9
  obtain ⟨a8, c8, rfl, -, -⟩ := RowI.slice hu9
  show K _ w9
  have hSS : (fun W' : World => (W'.cell? ⟨w.heap.size, 1, none⟩ = some (.slice a1 d.length c1) ∧ W'.cell? ⟨w.heap.size + 1, 1, none⟩ = some (.slice (some ⟨b3, o3, none⟩) e.length c3)) ∧ W'.cell? ⟨w.heap.size, 0, none⟩ = some (.slice a0 s.length c0) ∧ W'.cell? ⟨b3, o3, none⟩ = some (.int .i64 x)) w9 := ⟨⟨hO9.c1, hO9.c3⟩, hO9.c0, keepCell hO9.b HC3.out⟩
  refine hK.out _ _ (.inr hSS) ?_
  clear hK hv9 hu9 hap9 hb9 hO9 HO8 HI8 hq
  refine wpAnyZ_take (i := 14) (v := ?_) rfl (by kernel_rfl) (by kernel_rfl) (by kernel_rfl) (fun _ _ _ h => h) (by kernel_rfl) (Or.inl ⟨by rfl, ?_⟩) (by assumption) ?_
  rotate_left
  · intro w' hSw
    try dsimp only at hSw
    try obtain ⟨hSw, hSw2⟩ := hSw
    go_simp
    try with_reducible rfl
  show wpAnyZ _ _ _ _ _ _ _ _ (Act.put _ (some 103) _) _
  simp only [Act.put, List.setIfInBounds_toArray, List.set_cons_zero, List.set_cons_succ]
  refine wpAnyZ_take (i := 15) (v := ?_) rfl (by kernel_rfl) (by kernel_rfl) (by kernel_rfl) (fun _ _ _ h => h) (by kernel_rfl) (Or.inl ⟨by rfl, ?_⟩) (by assumption) ?_
  rotate_left
  · intro w' hSw
    try dsimp only at hSw
    try obtain ⟨hSw, hSw2⟩ := hSw
    go_simp
    try with_reducible rfl
  show wpAnyZ _ _ _ _ _ _ _ _ (Act.put _ (some 104) _) _
  simp only [Act.put, List.setIfInBounds_toArray, List.set_cons_zero, List.set_cons_succ]
  clear hSS
  refine wpAnyZ_one (i := 16) (by kernel_rfl) rfl rfl (fun K hK => ?_)
  have g0 := cell_of_row w9 _ 0 _ _ _ HO9.out.r; have g1 := cell_of_row w9 _ 1 _ _ _ HO9.out.r
  have z0 := frozen_of_row w9 _ 0 _ _ HO9.out.r; have z1 := frozen_of_row w9 _ 1 _ _ HO9.out.r
  go_simp
  refine hK.out _ _ (.inl (Nat.le_refl _)) ?_
  clear hK g0 g1 z0 z1
  refine wpAnyZ_one (i := 17) (by kernel_rfl) rfl rfl (fun K hK => ?_)
  go_simp
  refine hK.out _ _ (.inl (by omega)) ?_
  clear hK
  refine wpAnyZ_done (by kernel_rfl) ?_ _
  go_wp2_with fail
  exact fin_arr rfl rfl rfl HO9.out.r HV9.out HU9.out HAP9.out HO9.out.b (by omega)
theorem rd_any (w : World) (f : Int) (v u v2 u2 : Value) (s d t e : List Int) (hs : SlA w v s) (hd : SlA w u d) (ht : SlA w v2 t) (he : SlA w u2 e) :
    Calls Try.prog 18 #[.int .u8 f, .agg #[v, u], .agg #[v2, u2]] w fun e' w' => RetArr w.heap.size (dyadA f s d t e) e' w' ∧ Below w.heap.size w w' := by
  cases hr1 : right s d with
  | false => exact retB' (rd_bad1 w f v u v2 u2 s d t e hs hd ht he hr1) (by unfold dyadA; rw [hr1]; rfl)
  | true =>
    cases hr2 : right t e with
    | false => exact retB' (rd_bad2 w f v u v2 u2 s d t e hs hd ht he hr1 hr2) (by unfold dyadA; rw [hr1, hr2]; rfl)
    | true =>
      have e1 : dyadA f s d t e = if f = 37 then rhoA s d t e else if f = 38 then takeA s d t e false else if f = 39 then takeA s d t e true else if f = 40 then catA s d t e
        else if takes f true then (if s = t then pairsA f d e s else if s.length = 0 then pairsA f (List.replicate e.length (d.headD 0)) e t else if t.length = 0 then pairsA f d (List.replicate d.length (e.headD 0)) s else noA 72) else noA 70 := by
        unfold dyadA; rw [hr1, hr2]; rfl
      rw [e1]
      by_cases h1 : f = 37
      · subst h1; exact rd_rho w v u v2 u2 s d t e hs hd ht he hr1 hr2
      rw [if_neg h1]
      by_cases h2 : f = 38
      · subst h2; exact rd_take w v u v2 u2 s d t e hs hd ht he hr1 hr2
      rw [if_neg h2]
      by_cases h3 : f = 39
      · subst h3; exact rd_drop w v u v2 u2 s d t e hs hd ht he hr1 hr2
      rw [if_neg h3]
      by_cases h4 : f = 40
      · subst h4; exact rd_cat w v u v2 u2 s d t e hs hd ht he hr1 hr2
      rw [if_neg h4]
      cases htk : takes f true with
      | false => exact rd_no w f v u v2 u2 s d t e hs hd ht he hr1 hr2 (by omega) htk
      | true =>
        rw [if_pos rfl]
        by_cases hst : s = t
        · rw [if_pos hst]; exact rd_eq w f v u v2 u2 s d t e hs hd ht he hr1 hr2 htk hst
        rw [if_neg hst]
        by_cases hs0 : s.length = 0
        · rw [if_pos hs0]; exact rd_left w f v u v2 u2 s d t e hs hd ht he hr1 hr2 htk hst hs0
        rw [if_neg hs0]
        by_cases ht0 : t.length = 0
        · rw [if_pos ht0]; exact rd_right w f v u v2 u2 s d t e hs hd ht he hr1 hr2 htk hst hs0 ht0
        rw [if_neg ht0]
        exact rd_none w f v u v2 u2 s d t e hs hd ht he hr1 hr2 htk hst hs0 ht0
end Go.Proofs.Ytmjkncmpanhgjaa

namespace Go.Proofs.Ytmjkncmpanhgjaa
set_option maxRecDepth 100000
open Go.RowKit
set_option linter.unusedVariables false
set_option linter.unusedSimpArgs false

/-! windrowref07.Scan: the lanes; whole. -/
theorem scan_flat_len (f : Int) (lx : List (List Int)) : ((lx.map (scanR f)).flatten).length = lx.flatten.length := by
  induction lx with
  | nil => rfl
  | cons x lx ih => rw [List.map_cons, List.flatten_cons, List.flatten_cons, List.length_append, List.length_append, ih]; unfold scanR; rw [laneL_len]
theorem take_flat_le (lx : List (List Int)) (k : Nat) : (lx.take k).flatten.length ≤ lx.flatten.length := by
  have : lx.flatten = (lx.take k).flatten ++ (lx.drop k).flatten := by rw [← List.flatten_append, List.take_append_drop]
  rw [this, List.length_append]; omega
theorem scanL_bad {f : Int} {s : List Int} {lx : List (List Int)} (h : badL f lx = true) : scanL f s lx = noA 11 := by unfold scanL; rw [h]; rfl
theorem scanL_good {f : Int} {s : List Int} {lx : List (List Int)} (h : badL f lx = false) : scanL f s lx = okA s ((lx.map (scanR f)).flatten) := by unfold scanL; rw [h]; rfl
set_option maxHeartbeats 8000000 in
theorem rs_lanes (w : World) (f : Int) (v u : Value) (s d : List Int) (hs : SlA w v s) (hd : SlA w u d) (hr : right s d = true) (ht : takes f true = true) (lx : List (List Int)) (hl : LaneF s d lx) :
    Calls Try.prog 22 #[.int .u8 f, .agg #[v, u]] w fun e w' => RetArr w.heap.size (scanL f s lx) e w' ∧ Below w.heap.size w w' := by
  have HT := Lib.hid (fun W => rtakes_at W f true true ht)
  have HTK := Lib.hid ht
  have hs4 := (right_good hr).2.len
  have hd6 := (right_good hr).2.le
  have HSC := Lib.hid hs.src
  have HLX := Lib.hid hl
  have hdi : ∀ x ∈ d, In64 x := by obtain ⟨_, _, _, _, _, _, _, h⟩ := hd; exact h
  have HLI := Lib.hid (lanes_in hl.flat hdi); have HLL := Lib.hid (lane_len_le hl.flat)
  have HFL := Lib.hid (fun k => show ((lx.take k).map (scanR f)).flatten.length ≤ 65536 by rw [scan_flat_len]; have := take_flat_le lx k; rw [hl.flat] at this; omega)
  obtain ⟨nl, hnl⟩ : ∃ nl, lx.length = nl := ⟨_, rfl⟩
  have hnl6 : nl ≤ 65536 := hnl ▸ hl.len
  have HLN := Lib.hid hnl
  clear ht hl hdi hnl
  obtain ⟨a0, c0, rfl, h01, h02, -, h04, -⟩ := hs
  obtain ⟨a1, c1, rfl, h11, h12, -, h14, hin⟩ := hd
  have h02' : c0 ≤ 9223372036854775807 := h02
  have h12' : c1 ≤ 9223372036854775807 := h12
  have HM : Hid (s.length ≤ maxLen) := Lib.hid (Nat.le_trans h01 h02)
  have HRT := Lib.hid hr; have H0 := Lib.hid h04; have H1 := Lib.hid h14; have HIN := Lib.hid hin
  have HO := Lib.hid (One.mk0 w (.slice a0 s.length c0) (.slice a1 d.length c1))
  obtain ⟨r, HRR⟩ : ∃ r, Hid ((scanL f s lx) = r) := ⟨_, Lib.hid rfl⟩
  rw [HRR.out]
  clear hr h04 h14 h02 h12 hin
  go_enter Try.func22, Try.ntmps22
  go_upto_region 1 with fail
  refine gen_worldA (fun W => One w W (.slice a0 s.length c0) (.slice a1 d.length c1)) HO.out ?_
  rintro W hO
  have hq := rright_any W a0 a1 c0 c1 s d HM.out (H0.out.below hO.b (Nat.le_refl _))
  rw [HRT.out] at hq
  have HQ := Lib.hid hq; have HO1 := Lib.hid hO
  have x0 := hO.c0; have x1 := hO.c1
  clear hq hO
  go_wp2_with fail
  refine HQ.out.mono ?_
  rintro e W1 ⟨rfl, hb1⟩
  have HO2 := Lib.hid (HO1.out.next hb1)
  clear x0 x1
  have x0 := HO2.out.c0; have x1 := HO2.out.c1
  clear hb1 HQ HO1
  have HQ0 := Lib.hid (HT.out W1)
  go_wp2_with fail
  refine HQ0.out.mono ?_
  rintro e W2 ⟨rfl, rfl⟩
  clear HQ0 HT HO
  have hq := rlanes_any W1 a0 a1 c0 c1 s d HM.out h11 (H0.out.below HO2.out.b (Nat.le_refl _)) (H1.out.below HO2.out.b (Nat.le_refl _))
  rw [HLX.out.eq] at hq
  have HQ := Lib.hid hq
  clear hq
  go_wp2_with fail
  refine HQ.out.mono ?_
  rintro e W8 ⟨⟨v15, rfl, hv15⟩, hb8⟩
  obtain ⟨a15, c15, e15, hlm, hfo⟩ := hv15.form
  rw [HLN.out] at e15 hfo
  subst e15
  have HO8 := Lib.hid (HO2.out.next hb8); have HR8 := Lib.hid (hv15.mono HO2.out.b.size); have HFO := Lib.hid hfo
  have hw8 := HO8.out.b.size
  clear HQ hv15 hb8 hlm hfo HO2 x0 x1
  go_wp2_with fail
  go_loopw [8, 9] (fun o i wr => ∃ k : Nat, k ≤ nl ∧ i = .int .i64 k ∧ Below W8.heap.size W8 wr ∧ RowI W8.heap.size wr o ((lx.take k).map (scanR f)).flatten ∧ badL f (lx.take k) = false) (fun _ i _ => nl - (intOf i).toNat)
  case atStart => exact ⟨0, by omega, rfl, Below.refl _ _, RowI.nil _ _, rfl⟩
  case round =>
    obtain ⟨k, hk, rfl, hb, hrw, hg⟩ := hrel
    by_cases hlt : k < nl
    · obtain ⟨g15, rfl, -⟩ := HFO.out (by omega)
      have hkx : k < lx.length := by rw [HLN.out]; exact hlt
      obtain ⟨u9, hc9, hr9, -⟩ := (HR8.out.below hb).get hkx
      have hlki := HLI.out _ (List.getElem_mem hkx)
      have hlkl := HLL.out _ (List.getElem_mem hkx)
      have hbs := badL_succ f hkx
      have hbo := badL_of (f := f) hkx
      have hst : ((lx.take (k + 1)).map (scanR f)).flatten = ((lx.take k).map (scanR f)).flatten ++ scanR f lx[k] := by
        rw [List.take_succ_eq_append_getElem hkx, List.map_append, List.flatten_append]; simp
      generalize lx[k] = lk at hr9 hlki hlkl hbs hbo hst
      obtain ⟨a9, c9, e9, -, hi9⟩ := hr9.slice
      obtain ⟨m, hm⟩ : ∃ m, lk.length = m := ⟨_, rfl⟩
      rw [hm] at e9 hlkl
      subst e9
      have hq := rsteps_any wr f a9 m c9 lk hm (by omega) hi9 hlki HTK.out
      have HQ := Lib.hid hq; have HRW := Lib.hid hrw; have HB := Lib.hid hb; have HM1 := Lib.hid hm
      have HKL := Lib.hid (HFL.out k)
      have HSTT := Lib.hid hst
      clear hq hrw hr9 hi9 hlki hkx
      cases hbd : (laneL f lk).2 with
      | true =>
        have hs : stepsR f lk = ([], 11) := by unfold stepsR; rw [hbd]; rfl
        have HS := Lib.hid hs
        have HRB := Lib.hid (scanL_bad (s := s) (hbo hbd))
        clear hbo hbs hst hs hbd hg hm hb
        rw [HS.out] at HQ
        go_wp2_with fail
        refine HQ.out.mono ?_
        rintro e W9 ⟨⟨v9, rfl, -⟩, hb9⟩
        have HO9 := Lib.hid ((HO8.out.next HB.out).next hb9)
        have hq := rno_at W9 w.heap.size HO9.out.b.size 11 r (by rw [← HRB.out]; exact HRR.out)
        clear HQ
        have HQ := Lib.hid hq; have HR := Lib.hid HO9.out.r; have HB2 := Lib.hid HO9.out.b
        clear hq hb9 hc9
        go_wp2_with fail
        refine (Hid.out HQ).mono ?_
        rintro e w9 ⟨⟨v9, u9, rfl, hv9, hu9, hap9⟩, hb9⟩
        have hR9 := block_below (Hid.out HR) hb9
        have HV9 := Lib.hid hv9; have HU9 := Lib.hid hu9; have HAP9 := Lib.hid hap9; have HR9 := Lib.hid hR9
        have HB9 := Lib.hid (bNext hb9 (Hid.out HB2))
        obtain ⟨a9, c9, rfl, -, -⟩ := RowI.slice hv9
        obtain ⟨a8, c8, rfl, -, -⟩ := RowI.slice hu9
        have g0 := cell_of_row w9 _ 0 _ _ _ hR9; have g1 := cell_of_row w9 _ 1 _ _ _ hR9
        have z0 := frozen_of_row w9 _ 0 _ _ hR9; have z1 := frozen_of_row w9 _ 1 _ _ hR9
        clear hv9 hu9 hap9 hb9 hR9
        go_wp2_with fail
        exact fin_arr rfl rfl rfl HR9.out HV9.out HU9.out HAP9.out HB9.out (by omega)
      | false =>
        have hs : stepsR f lk = (scanR f lk, 0) := by unfold stepsR; rw [hbd]; rfl
        rw [hs] at HQ
        have hsl : (scanR f lk).length = m := by unfold scanR; rw [laneL_len, hm]
        rw [hbd, hg] at hbs
        have HBS := Lib.hid hbs; have HSL := Lib.hid hsl
        generalize scanR f lk = z at HQ HSTT HSL
        generalize ((lx.take k).map (scanR f)).flatten = ou at HSTT HRW HKL
        clear hbo hbs hst hs hbd hg hm hb hsl
        go_wp2_with fail
        refine HQ.out.mono ?_
        rintro e W9 ⟨⟨v9, rfl, hv9⟩, hb9⟩
        have hs9 := hv9.src
        obtain ⟨g9, c9', e9, -, -⟩ := hv9.slice
        rw [HSL.out] at e9 hs9
        subst e9
        have HB9 := Lib.hid (HB.out.trans (hb9.mono HB.out.size)); have HR9 := Lib.hid (HRW.out.below hb9); have HS9 := Lib.hid hs9
        have hsz := HB9.out.size
        clear HQ hv9 hb9 HB HRW hc9 hs9
        go_wp2_with (at_builtin; refine wpList_app rfl _ _ rfl W8.heap.size _ ou z _ m HSL.out rfl HR9.out rfl HS9.out (by have := HKL.out; omega) hsz ?_)
        intro v' wz hvz hgz hnz
        have HVZ := Lib.hid (show RowI W8.heap.size wz v' ((lx.take (k + 1)).map (scanR f)).flatten by rw [HSTT.out]; exact hvz)
        have HBZ := Lib.hid (HB9.out.grown hgz hsz (fun g e => (HR9.out.lt g e).1))
        clear hvz hgz hnz HR9 HS9 HB9 hsz
        go_wp2_with fail
        go_roundw
        case rel => exact ⟨k + 1, by omega, by go_num, HBZ.out, HVZ.out, HBS.out⟩
        case measure => simp [intOf] <;> omega
    · obtain rfl : k = nl := by omega
      have hall : lx.take k = lx := List.take_of_length_le (by rw [HLN.out]; exact Nat.le_refl _)
      rw [hall] at hrw hg
      have hrr := scanL_good (s := s) hg
      rw [HRR.out] at hrr
      have hO := HO8.out.next hb
      generalize (lx.map (scanR f)).flatten = D at hrw hrr
      obtain ⟨a9, c9, e9, -, -⟩ := hrw.slice
      have hq := made_any wr w.heap.size hO.b.size (.slice a0 s.length c0) _ s D ⟨_, _, rfl⟩ (HSC.out.below hO.b) (by omega) (hrw.mono hw8)
      rw [← hrr] at hq
      have HQ := Lib.hid hq; have HR := Lib.hid hO.r; have HB := Lib.hid hO.b
      have x0 := hO.c0
      subst e9
      clear hq hO hrw hlt hg hall hrr hb
      go_wp2_with fail
      refine (Hid.out HQ).mono ?_
      rintro e w9 ⟨⟨v9, u9, rfl, hv9, hu9, hap9⟩, hb9⟩
      have hR9 := block_below (Hid.out HR) hb9
      have HV9 := Lib.hid hv9; have HU9 := Lib.hid hu9; have HAP9 := Lib.hid hap9; have HR9 := Lib.hid hR9
      have HB9 := Lib.hid (bNext hb9 (Hid.out HB))
      obtain ⟨a9, c9, rfl, -, -⟩ := RowI.slice hv9
      obtain ⟨a8, c8, rfl, -, -⟩ := RowI.slice hu9
      have g0 := cell_of_row w9 _ 0 _ _ _ hR9; have g1 := cell_of_row w9 _ 1 _ _ _ hR9
      have z0 := frozen_of_row w9 _ 0 _ _ hR9; have z1 := frozen_of_row w9 _ 1 _ _ hR9
      clear hv9 hu9 hap9 hb9 hR9
      go_wp2_with fail
      exact fin_arr rfl rfl rfl HR9.out HV9.out HU9.out HAP9.out HB9.out (by omega)
theorem rs_any (w : World) (f : Int) (v u : Value) (s d : List Int) (hs : SlA w v s) (hd : SlA w u d) :
    Calls Try.prog 22 #[.int .u8 f, .agg #[v, u]] w fun e w' => RetArr w.heap.size (scanA f s d) e w' ∧ Below w.heap.size w w' := by
  cases hr : right s d with
  | false => exact retB' (rs_bad w f v u s d hs hd hr) (by unfold scanA; rw [hr]; rfl)
  | true =>
    cases ht : takes f true with
    | false => exact retB' (rs_no w f v u s d hs hd hr ht) (by unfold scanA; rw [hr, ht]; rfl)
    | true =>
      obtain ⟨lx, hl⟩ := lane_facts hr
      rw [scanA_eq hr ht hl]
      exact rs_lanes w f v u s d hs hd hr ht lx hl
end Go.Proofs.Ytmjkncmpanhgjaa
