import Derived.Test.YtmjkncmpanhgjaaPA19
namespace Go.Proofs.Ytmjkncmpanhgjaa
set_option maxRecDepth 100000
open Go.RowKit
set_option linter.unusedVariables false
set_option linter.unusedSimpArgs false

/-! windrowref07.sided. -/
theorem ret_one {fn : Func} {p : Tmp} (h : fn.results = #[.cell p 24]) (tmps : Array Value) (w : World) (R : Nat) (v u : Value)
    (hp : tmps.getD p undef = .pointer (some ⟨R, 0, none⟩)) (hg : w.heap[R]? = some (.cells #[v, u] 24 (0, 0))) : (results fn tmps).run Try.prog w = .ok (.agg #[v, u]) w := by
  have hp' : tmps[p]?.getD undef = .pointer (some ⟨R, 0, none⟩) := by simpa using hp
  have hl1 := run_loadVar_row (P := Try.prog) w R 24 24 #[v, u] (0, 0) _ hg Try.underlying24 rfl (by kernel_rfl)
  simp [results, h, hp', asAddr, hl1]
set_option maxHeartbeats 2000000 in
theorem rsided_any (w : World) (v u : Value) (s d : List Int) (hs : SlA w v s) (hd : SlA w u d) :
    Calls Try.prog 82 #[.agg #[v, u]] w fun e w' => ∃ V, e = .returned (.agg #[V, u]) ∧ SideV w w' v V s ∧ Below w.heap.size w w' := by
  obtain ⟨a0, c0, rfl, -⟩ := hs
  obtain ⟨a1, c1, rfl, -⟩ := hd
  by_cases hz : s.length = 0
  · have hzI : ((s.length : Int) == 0) = true := by rw [hz]; rfl
    have HZ := Lib.hid hz
    clear hz
    go_enter Try.func82, Try.ntmps82
    go_upto_region 1 with fail
    refine gen_worldA (fun W => One w W (.slice a0 s.length c0) (.slice a1 d.length c1)) (One.mk0 w _ _) ?_
    rintro W hO
    have x0 := hO.c0; have x1 := hO.c1
    have hba : Below W.heap.size W (W.alloc (.cells #[.int .i64 1] 2)) := (Below.refl _ _).alloc (Nat.le_refl _) _
    have hO2 := hO.next hba
    have y0 := cell_of_row W _ 0 _ _ _ hO.r; have y1 := cell_of_row W _ 1 _ _ _ hO.r
    have f0 := frozen_of_row W _ 0 _ _ hO.r; have f1 := frozen_of_row W _ 1 _ _ hO.r
    have hlw := hO.lt
    have hlw0 : w.heap.size < W.heap.size := by omega
    have hv := row_one W w.heap.size hO.b.size 1
    have HO := Lib.hid hO; have HV := Lib.hid hv
    clear hO hba hO2 hv
    go_wp2_with fail
    have h1 : (W.setCell ⟨w.heap.size + 1, 0, none⟩ (.slice (some ⟨W.heap.size, 0, none⟩) 1 1)).heap[w.heap.size + 1]? = some (.cells #[.slice (some ⟨W.heap.size, 0, none⟩) 1 1, .slice none 0 0] 24 (0, 0)) := heap_setCell_same W _ 0 _ _ _ HO.out.r
    have h2 : ((W.setCell ⟨w.heap.size + 1, 0, none⟩ (.slice (some ⟨W.heap.size, 0, none⟩) 1 1)).setCell ⟨w.heap.size + 1, 1, none⟩ (.slice a1 d.length c1)).heap[w.heap.size + 1]? = some (.cells #[.slice (some ⟨W.heap.size, 0, none⟩) 1 1, .slice a1 d.length c1] 24 (0, 0)) := heap_setCell_same _ _ 1 _ _ _ h1
    have hb : Below w.heap.size w ((W.setCell ⟨w.heap.size + 1, 0, none⟩ (.slice (some ⟨W.heap.size, 0, none⟩) 1 1)).setCell ⟨w.heap.size + 1, 1, none⟩ (.slice a1 d.length c1)) := put_below HO.out.b (by omega) _ _
    refine bodyPost_ret (v := .agg #[.slice (some ⟨W.heap.size, 0, none⟩) 1 1, .slice a1 d.length c1]) (ret_one rfl _ _ (w.heap.size + 1) _ _ rfl (block_alloc h2 _)) rfl ⟨_, rfl, .inr ⟨HZ.out, ?_⟩, hb.alloc hb.size _⟩
    have := row_one ((W.setCell ⟨w.heap.size + 1, 0, none⟩ (.slice (some ⟨W.heap.size, 0, none⟩) 1 1)).setCell ⟨w.heap.size + 1, 1, none⟩ (.slice a1 d.length c1)) w.heap.size hb.size 1
    simpa using this
  · have hzI : ((s.length : Int) == 0) = false := by rw [beq_eq_false_iff_ne]; omega
    have HZ := Lib.hid hz
    clear hz
    go_enter Try.func82, Try.ntmps82
    go_wp2_with fail
    refine bodyPost_ret (v := .agg #[.slice a0 s.length c0, .slice a1 d.length c1]) (ret_one rfl _ _ (w.heap.size + 1) _ _ rfl (heap_two2 _ _ _)) rfl ⟨_, rfl, .inl ⟨rfl, HZ.out⟩, Below.two _ _ _⟩
end Go.Proofs.Ytmjkncmpanhgjaa

namespace Go.Proofs.Ytmjkncmpanhgjaa
set_option maxRecDepth 100000
open Go.RowKit
set_option linter.unusedVariables false
set_option linter.unusedSimpArgs false

/-! windrowref07.Fold, Scan: what is refused ahead. -/
set_option maxHeartbeats 4000000 in
theorem rf_bad (w : World) (f : Int) (v u : Value) (s d : List Int) (hs : SlA w v s) (hd : SlA w u d) (hr : right s d = false) :
    Calls Try.prog 20 #[.int .u8 f, .agg #[v, u]] w fun e w' => RetArr w.heap.size (noA 60) e w' ∧ Below w.heap.size w w' := by
  obtain ⟨a0, c0, rfl, h01, h02, -, h04, -⟩ := hs
  obtain ⟨a1, c1, rfl, h11, h12, -, h14, hin⟩ := hd
  have h02' : c0 ≤ 9223372036854775807 := h02
  have h12' : c1 ≤ 9223372036854775807 := h12
  have HM : Hid (s.length ≤ maxLen) := Lib.hid (Nat.le_trans h01 h02)
  have HRT := Lib.hid hr; have H0 := Lib.hid h04; have H1 := Lib.hid h14; have HIN := Lib.hid hin
  have HO := Lib.hid (One.mk0 w (.slice a0 s.length c0) (.slice a1 d.length c1))
  obtain ⟨r, HRR⟩ : ∃ r, Hid ((noA 60) = r) := ⟨_, Lib.hid rfl⟩
  rw [HRR.out]
  clear hr h04 h14 h02 h12 hin
  go_enter Try.func20, Try.ntmps20
  go_upto_region 1 with fail
  refine gen_worldA (fun W => One w W (.slice a0 s.length c0) (.slice a1 d.length c1)) HO.out ?_
  rintro W hO
  have hq := rright_any W a0 a1 c0 c1 s d HM.out (H0.out.below hO.b (Nat.le_refl _))
  rw [HRT.out] at hq
  have HQ := Lib.hid hq; have HO1 := Lib.hid hO
  have x0 := hO.c0; have x1 := hO.c1
  clear hq hO
  go_wp2_with fail
  refine HQ.out.mono ?_
  rintro e W1 ⟨rfl, hb1⟩
  have HO2 := Lib.hid (HO1.out.next hb1)
  have hq := rno_at W1 w.heap.size HO2.out.b.size 60 r HRR.out
  clear HQ
  have HQ := Lib.hid hq; have HR := Lib.hid HO2.out.r; have HB := Lib.hid HO2.out.b
  clear hq HO hb1 HO1 x0 x1
  go_wp2_with fail
  refine (Hid.out HQ).mono ?_
  rintro e w9 ⟨⟨v9, u9, rfl, hv9, hu9, hap9⟩, hb9⟩
  have hR9 := block_below (Hid.out HR) hb9
  have HV9 := Lib.hid hv9; have HU9 := Lib.hid hu9; have HAP9 := Lib.hid hap9; have HR9 := Lib.hid hR9
  have HB9 := Lib.hid (bNext hb9 (Hid.out HB))
  obtain ⟨a9, c9, rfl, -, -⟩ := RowI.slice hv9
  obtain ⟨a8, c8, rfl, -, -⟩ := RowI.slice hu9
  have g0 := cell_of_row w9 _ 0 _ _ _ hR9; have g1 := cell_of_row w9 _ 1 _ _ _ hR9
  have z0 := frozen_of_row w9 _ 0 _ _ hR9; have z1 := frozen_of_row w9 _ 1 _ _ hR9
  clear hv9 hu9 hap9 hb9 hR9
  go_wp2_with fail
  exact fin_arr rfl rfl rfl HR9.out HV9.out HU9.out HAP9.out HB9.out (by omega)
set_option maxHeartbeats 4000000 in
theorem rf_no (w : World) (f : Int) (v u : Value) (s d : List Int) (hs : SlA w v s) (hd : SlA w u d) (hr : right s d = true) (ht : takes f true = false) :
    Calls Try.prog 20 #[.int .u8 f, .agg #[v, u]] w fun e w' => RetArr w.heap.size (noA 70) e w' ∧ Below w.heap.size w w' := by
  have HT := Lib.hid (fun W => rtakes_at W f true false ht)
  clear ht
  obtain ⟨a0, c0, rfl, h01, h02, -, h04, -⟩ := hs
  obtain ⟨a1, c1, rfl, h11, h12, -, h14, hin⟩ := hd
  have h02' : c0 ≤ 9223372036854775807 := h02
  have h12' : c1 ≤ 9223372036854775807 := h12
  have HM : Hid (s.length ≤ maxLen) := Lib.hid (Nat.le_trans h01 h02)
  have HRT := Lib.hid hr; have H0 := Lib.hid h04; have H1 := Lib.hid h14; have HIN := Lib.hid hin
  have HO := Lib.hid (One.mk0 w (.slice a0 s.length c0) (.slice a1 d.length c1))
  obtain ⟨r, HRR⟩ : ∃ r, Hid ((noA 70) = r) := ⟨_, Lib.hid rfl⟩
  rw [HRR.out]
  clear hr h04 h14 h02 h12 hin
  go_enter Try.func20, Try.ntmps20
  go_upto_region 1 with fail
  refine gen_worldA (fun W => One w W (.slice a0 s.length c0) (.slice a1 d.length c1)) HO.out ?_
  rintro W hO
  have hq := rright_any W a0 a1 c0 c1 s d HM.out (H0.out.below hO.b (Nat.le_refl _))
  rw [HRT.out] at hq
  have HQ := Lib.hid hq; have HO1 := Lib.hid hO
  have x0 := hO.c0; have x1 := hO.c1
  clear hq hO
  go_wp2_with fail
  refine HQ.out.mono ?_
  rintro e W1 ⟨rfl, hb1⟩
  have HO2 := Lib.hid (HO1.out.next hb1)
  clear x0 x1
  have x0 := HO2.out.c0; have x1 := HO2.out.c1
  clear hb1 HQ HO1
  have HQ0 := Lib.hid (HT.out W1)
  go_wp2_with fail
  refine HQ0.out.mono ?_
  rintro e W2 ⟨rfl, rfl⟩
  clear HQ0 HT HO
  have hq := rno_at W1 w.heap.size HO2.out.b.size 70 r HRR.out
  have HQ := Lib.hid hq; have HR := Lib.hid HO2.out.r; have HB := Lib.hid HO2.out.b
  clear hq
  go_wp2_with fail
  refine (Hid.out HQ).mono ?_
  rintro e w9 ⟨⟨v9, u9, rfl, hv9, hu9, hap9⟩, hb9⟩
  have hR9 := block_below (Hid.out HR) hb9
  have HV9 := Lib.hid hv9; have HU9 := Lib.hid hu9; have HAP9 := Lib.hid hap9; have HR9 := Lib.hid hR9
  have HB9 := Lib.hid (bNext hb9 (Hid.out HB))
  obtain ⟨a9, c9, rfl, -, -⟩ := RowI.slice hv9
  obtain ⟨a8, c8, rfl, -, -⟩ := RowI.slice hu9
  have g0 := cell_of_row w9 _ 0 _ _ _ hR9; have g1 := cell_of_row w9 _ 1 _ _ _ hR9
  have z0 := frozen_of_row w9 _ 0 _ _ hR9; have z1 := frozen_of_row w9 _ 1 _ _ hR9
  clear hv9 hu9 hap9 hb9 hR9
  go_wp2_with fail
  exact fin_arr rfl rfl rfl HR9.out HV9.out HU9.out HAP9.out HB9.out (by omega)
set_option maxHeartbeats 4000000 in
theorem rs_bad (w : World) (f : Int) (v u : Value) (s d : List Int) (hs : SlA w v s) (hd : SlA w u d) (hr : right s d = false) :
    Calls Try.prog 22 #[.int .u8 f, .agg #[v, u]] w fun e w' => RetArr w.heap.size (noA 60) e w' ∧ Below w.heap.size w w' := by
  obtain ⟨a0, c0, rfl, h01, h02, -, h04, -⟩ := hs
  obtain ⟨a1, c1, rfl, h11, h12, -, h14, hin⟩ := hd
  have h02' : c0 ≤ 9223372036854775807 := h02
  have h12' : c1 ≤ 9223372036854775807 := h12
  have HM : Hid (s.length ≤ maxLen) := Lib.hid (Nat.le_trans h01 h02)
  have HRT := Lib.hid hr; have H0 := Lib.hid h04; have H1 := Lib.hid h14; have HIN := Lib.hid hin
  have HO := Lib.hid (One.mk0 w (.slice a0 s.length c0) (.slice a1 d.length c1))
  obtain ⟨r, HRR⟩ : ∃ r, Hid ((noA 60) = r) := ⟨_, Lib.hid rfl⟩
  rw [HRR.out]
  clear hr h04 h14 h02 h12 hin
  go_enter Try.func22, Try.ntmps22
  go_upto_region 1 with fail
  refine gen_worldA (fun W => One w W (.slice a0 s.length c0) (.slice a1 d.length c1)) HO.out ?_
  rintro W hO
  have hq := rright_any W a0 a1 c0 c1 s d HM.out (H0.out.below hO.b (Nat.le_refl _))
  rw [HRT.out] at hq
  have HQ := Lib.hid hq; have HO1 := Lib.hid hO
  have x0 := hO.c0; have x1 := hO.c1
  clear hq hO
  go_wp2_with fail
  refine HQ.out.mono ?_
  rintro e W1 ⟨rfl, hb1⟩
  have HO2 := Lib.hid (HO1.out.next hb1)
  have hq := rno_at W1 w.heap.size HO2.out.b.size 60 r HRR.out
  clear HQ
  have HQ := Lib.hid hq; have HR := Lib.hid HO2.out.r; have HB := Lib.hid HO2.out.b
  clear hq HO hb1 HO1 x0 x1
  go_wp2_with fail
  refine (Hid.out HQ).mono ?_
  rintro e w9 ⟨⟨v9, u9, rfl, hv9, hu9, hap9⟩, hb9⟩
  have hR9 := block_below (Hid.out HR) hb9
  have HV9 := Lib.hid hv9; have HU9 := Lib.hid hu9; have HAP9 := Lib.hid hap9; have HR9 := Lib.hid hR9
  have HB9 := Lib.hid (bNext hb9 (Hid.out HB))
  obtain ⟨a9, c9, rfl, -, -⟩ := RowI.slice hv9
  obtain ⟨a8, c8, rfl, -, -⟩ := RowI.slice hu9
  have g0 := cell_of_row w9 _ 0 _ _ _ hR9; have g1 := cell_of_row w9 _ 1 _ _ _ hR9
  have z0 := frozen_of_row w9 _ 0 _ _ hR9; have z1 := frozen_of_row w9 _ 1 _ _ hR9
  clear hv9 hu9 hap9 hb9 hR9
  go_wp2_with fail
  exact fin_arr rfl rfl rfl HR9.out HV9.out HU9.out HAP9.out HB9.out (by omega)
set_option maxHeartbeats 4000000 in
theorem rs_no (w : World) (f : Int) (v u : Value) (s d : List Int) (hs : SlA w v s) (hd : SlA w u d) (hr : right s d = true) (ht : takes f true = false) :
    Calls Try.prog 22 #[.int .u8 f, .agg #[v, u]] w fun e w' => RetArr w.heap.size (noA 70) e w' ∧ Below w.heap.size w w' := by
  have HT := Lib.hid (fun W => rtakes_at W f true false ht)
  clear ht
  obtain ⟨a0, c0, rfl, h01, h02, -, h04, -⟩ := hs
  obtain ⟨a1, c1, rfl, h11, h12, -, h14, hin⟩ := hd
  have h02' : c0 ≤ 9223372036854775807 := h02
  have h12' : c1 ≤ 9223372036854775807 := h12
  have HM : Hid (s.length ≤ maxLen) := Lib.hid (Nat.le_trans h01 h02)
  have HRT := Lib.hid hr; have H0 := Lib.hid h04; have H1 := Lib.hid h14; have HIN := Lib.hid hin
  have HO := Lib.hid (One.mk0 w (.slice a0 s.length c0) (.slice a1 d.length c1))
  obtain ⟨r, HRR⟩ : ∃ r, Hid ((noA 70) = r) := ⟨_, Lib.hid rfl⟩
  rw [HRR.out]
  clear hr h04 h14 h02 h12 hin
  go_enter Try.func22, Try.ntmps22
  go_upto_region 1 with fail
  refine gen_worldA (fun W => One w W (.slice a0 s.length c0) (.slice a1 d.length c1)) HO.out ?_
  rintro W hO
  have hq := rright_any W a0 a1 c0 c1 s d HM.out (H0.out.below hO.b (Nat.le_refl _))
  rw [HRT.out] at hq
  have HQ := Lib.hid hq; have HO1 := Lib.hid hO
  have x0 := hO.c0; have x1 := hO.c1
  clear hq hO
  go_wp2_with fail
  refine HQ.out.mono ?_
  rintro e W1 ⟨rfl, hb1⟩
  have HO2 := Lib.hid (HO1.out.next hb1)
  clear x0 x1
  have x0 := HO2.out.c0; have x1 := HO2.out.c1
  clear hb1 HQ HO1
  have HQ0 := Lib.hid (HT.out W1)
  go_wp2_with fail
  refine HQ0.out.mono ?_
  rintro e W2 ⟨rfl, rfl⟩
  clear HQ0 HT HO
  have hq := rno_at W1 w.heap.size HO2.out.b.size 70 r HRR.out
  have HQ := Lib.hid hq; have HR := Lib.hid HO2.out.r; have HB := Lib.hid HO2.out.b
  clear hq
  go_wp2_with fail
  refine (Hid.out HQ).mono ?_
  rintro e w9 ⟨⟨v9, u9, rfl, hv9, hu9, hap9⟩, hb9⟩
  have hR9 := block_below (Hid.out HR) hb9
  have HV9 := Lib.hid hv9; have HU9 := Lib.hid hu9; have HAP9 := Lib.hid hap9; have HR9 := Lib.hid hR9
  have HB9 := Lib.hid (bNext hb9 (Hid.out HB))
  obtain ⟨a9, c9, rfl, -, -⟩ := RowI.slice hv9
  obtain ⟨a8, c8, rfl, -, -⟩ := RowI.slice hu9
  have g0 := cell_of_row w9 _ 0 _ _ _ hR9; have g1 := cell_of_row w9 _ 1 _ _ _ hR9
  have z0 := frozen_of_row w9 _ 0 _ _ hR9; have z1 := frozen_of_row w9 _ 1 _ _ hR9
  clear hv9 hu9 hap9 hb9 hR9
  go_wp2_with fail
  exact fin_arr rfl rfl rfl HR9.out HV9.out HU9.out HAP9.out HB9.out (by omega)
end Go.Proofs.Ytmjkncmpanhgjaa

namespace Go.Proofs.Ytmjkncmpanhgjaa
set_option maxRecDepth 100000
open Go.RowKit
set_option linter.unusedVariables false
set_option linter.unusedSimpArgs false

/-! windrowref07.Fold: without sides; too large. -/
set_option maxHeartbeats 4000000 in
theorem rf_zero (w : World) (f : Int) (v u : Value) (s d : List Int) (hs : SlA w v s) (hd : SlA w u d) (hr : right s d = true) (ht : takes f true = true) (hs0 : s.length = 0) :
    Calls Try.prog 20 #[.int .u8 f, .agg #[v, u]] w fun e w' => RetArr w.heap.size (okA [] d) e w' ∧ Below w.heap.size w w' := by
  have HT := Lib.hid (fun W => rtakes_at W f true true ht)
  have hd6 := (right_good hr).2.le
  have hs1 : ((s.length : Int) == 0) = true := by rw [beq_iff_eq]; omega
  have HSC := Lib.hid hd.src
  clear ht hs0
  obtain ⟨a0, c0, rfl, h01, h02, -, h04, -⟩ := hs
  obtain ⟨a1, c1, rfl, h11, h12, -, h14, hin⟩ := hd
  have h02' : c0 ≤ 9223372036854775807 := h02
  have h12' : c1 ≤ 9223372036854775807 := h12
  have HM : Hid (s.length ≤ maxLen) := Lib.hid (Nat.le_trans h01 h02)
  have HRT := Lib.hid hr; have H0 := Lib.hid h04; have H1 := Lib.hid h14; have HIN := Lib.hid hin
  have HO := Lib.hid (One.mk0 w (.slice a0 s.length c0) (.slice a1 d.length c1))
  obtain ⟨r, HRR⟩ : ∃ r, Hid ((okA [] d) = r) := ⟨_, Lib.hid rfl⟩
  rw [HRR.out]
  clear hr h04 h14 h02 h12 hin
  go_enter Try.func20, Try.ntmps20
  go_upto_region 1 with fail
  refine gen_worldA (fun W => One w W (.slice a0 s.length c0) (.slice a1 d.length c1)) HO.out ?_
  rintro W hO
  have hq := rright_any W a0 a1 c0 c1 s d HM.out (H0.out.below hO.b (Nat.le_refl _))
  rw [HRT.out] at hq
  have HQ := Lib.hid hq; have HO1 := Lib.hid hO
  have x0 := hO.c0; have x1 := hO.c1
  clear hq hO
  go_wp2_with fail
  refine HQ.out.mono ?_
  rintro e W1 ⟨rfl, hb1⟩
  have HO2 := Lib.hid (HO1.out.next hb1)
  clear x0 x1
  have x0 := HO2.out.c0; have x1 := HO2.out.c1
  clear hb1 HQ HO1
  have HQ0 := Lib.hid (HT.out W1)
  go_wp2_with fail
  refine HQ0.out.mono ?_
  rintro e W2 ⟨rfl, rfl⟩
  clear HQ0 HT HO
  have hba : Below W1.heap.size W1 (W1.alloc (.cells #[] 2)) := (Below.refl _ _).alloc (Nat.le_refl _) _
  have HLIT := Lib.hid (row_nil_lit w.heap.size W1 HO2.out.b.size)
  have HOa := Lib.hid (HO2.out.next hba)
  have hsz := (HO2.out.next hba).b.size
  have HSR := Lib.hid (HSC.out.below (HO2.out.next hba).b)
  have hlw := HO2.out.lt
  have hlw0 : w.heap.size < W1.heap.size := by omega
  clear hba HO2
  go_wp2_with (at_builtin; refine wpList_app rfl _ _ rfl w.heap.size _ [] d _ d.length rfl rfl HLIT.out rfl HSR.out (by simp; omega) hsz ?_)
  intro v8 W3 hv8 hg8 hn8
  have hv8 : RowI w.heap.size W3 v8 d := hv8
  have HO3 := Lib.hid (HOa.out.app (Below.refl _ _) HLIT.out hg8)
  have hq := made_any W3 w.heap.size HO3.out.b.size (.slice none 0 0) v8 [] d ⟨_, _, rfl⟩ (.inl ⟨rfl, rfl, rfl⟩) (by simp) hv8
  rw [HRR.out] at hq
  obtain ⟨a9, c9, e9, -, -⟩ := hv8.slice
  subst e9
  have HQ := Lib.hid hq; have HR := Lib.hid HO3.out.r; have HB := Lib.hid HO3.out.b
  clear hq hv8 hg8 hn8 HLIT HSR HOa x0 x1 hsz hlw hlw0
  go_wp2_with fail
  refine (Hid.out HQ).mono ?_
  rintro e w9 ⟨⟨v9, u9, rfl, hv9, hu9, hap9⟩, hb9⟩
  have hR9 := block_below (Hid.out HR) hb9
  have HV9 := Lib.hid hv9; have HU9 := Lib.hid hu9; have HAP9 := Lib.hid hap9; have HR9 := Lib.hid hR9
  have HB9 := Lib.hid (bNext hb9 (Hid.out HB))
  obtain ⟨a9, c9, rfl, -, -⟩ := RowI.slice hv9
  obtain ⟨a8, c8, rfl, -, -⟩ := RowI.slice hu9
  have g0 := cell_of_row w9 _ 0 _ _ _ hR9; have g1 := cell_of_row w9 _ 1 _ _ _ hR9
  have z0 := frozen_of_row w9 _ 0 _ _ hR9; have z1 := frozen_of_row w9 _ 1 _ _ hR9
  clear hv9 hu9 hap9 hb9 hR9
  go_wp2_with fail
  exact fin_arr rfl rfl rfl HR9.out HV9.out HU9.out HAP9.out HB9.out (by omega)
set_option maxHeartbeats 4000000 in
theorem rf_large (w : World) (f : Int) (v u : Value) (s d : List Int) (hs : SlA w v s) (hd : SlA w u d) (hr : right s d = true) (ht : takes f true = true) (hs0 : s.length ≠ 0) (her : (size s.dropLast).2 ≠ 0) :
    Calls Try.prog 20 #[.int .u8 f, .agg #[v, u]] w fun e w' => RetArr w.heap.size (noA 74) e w' ∧ Below w.heap.size w w' := by
  have HT := Lib.hid (fun W => rtakes_at W f true true ht)
  have hs4 := (right_good hr).2.len
  have hs1 : ((s.length : Int) == 0) = false := by rw [beq_eq_false_iff_ne]; omega
  have hsp : 0 < s.length := by omega
  obtain ⟨nz, er, hsz⟩ : ∃ nz er, size s.dropLast = (nz, er) := ⟨_, _, rfl⟩
  rw [hsz] at her
  have her' : (er != 0) = true := by simpa using her
  have HSZ := Lib.hid hsz
  have HSC := Lib.hid hs.src
  clear ht hs0 her hsz
  obtain ⟨a0, c0, rfl, h01, h02, -, h04, -⟩ := hs
  obtain ⟨a1, c1, rfl, h11, h12, -, h14, hin⟩ := hd
  have h02' : c0 ≤ 9223372036854775807 := h02
  have h12' : c1 ≤ 9223372036854775807 := h12
  have HM : Hid (s.length ≤ maxLen) := Lib.hid (Nat.le_trans h01 h02)
  have HRT := Lib.hid hr; have H0 := Lib.hid h04; have H1 := Lib.hid h14; have HIN := Lib.hid hin
  have HO := Lib.hid (One.mk0 w (.slice a0 s.length c0) (.slice a1 d.length c1))
  obtain ⟨r, HRR⟩ : ∃ r, Hid ((noA 74) = r) := ⟨_, Lib.hid rfl⟩
  rw [HRR.out]
  clear hr h04 h14 h02 h12 hin
  go_enter Try.func20, Try.ntmps20
  go_upto_region 1 with fail
  refine gen_worldA (fun W => One w W (.slice a0 s.length c0) (.slice a1 d.length c1)) HO.out ?_
  rintro W hO
  have hq := rright_any W a0 a1 c0 c1 s d HM.out (H0.out.below hO.b (Nat.le_refl _))
  rw [HRT.out] at hq
  have HQ := Lib.hid hq; have HO1 := Lib.hid hO
  have x0 := hO.c0; have x1 := hO.c1
  clear hq hO
  go_wp2_with fail
  refine HQ.out.mono ?_
  rintro e W1 ⟨rfl, hb1⟩
  have HO2 := Lib.hid (HO1.out.next hb1)
  clear x0 x1
  have x0 := HO2.out.c0; have x1 := HO2.out.c1
  clear hb1 HQ HO1
  have HQ0 := Lib.hid (HT.out W1)
  go_wp2_with fail
  refine HQ0.out.mono ?_
  rintro e W2 ⟨rfl, rfl⟩
  clear HQ0 HT HO
  have hsl : ∀ W, (Instr.sliceAt 22 (.slice a0 s.length c0) none (some (.int .i64 ((s.length : Int) - 1))) none).run Try.prog W = .ok (.slice (subA a0 c0 0) (s.length - 1) c0) W := fun W => by
    have := slice_hi W a0 s.length c0 .i64 ((s.length : Int) - 1) (by omega) (by omega)
    rwa [show ((s.length : Int) - 1).toNat = s.length - 1 from by omega] at this
  have hcut : IntsAt .i64 w (subA a0 c0 0) s.dropLast := by
    have := H0.out.cut (l := 0) (n := s.length - 1) (m := c0) h01
    rwa [dropLast_take] at this
  have hsrc : Src w (.slice (subA a0 c0 0) (s.length - 1) c0) (s.length - 1) (s.dropLast.map (Value.int .i64)) := by
    have := src_cut HSC.out (k := s.length - 1) (by omega)
    rwa [← List.dropLast_eq_take] at this
  have hdl : s.dropLast.length = s.length - 1 := by simp
  generalize subA a0 c0 0 = a7 at hsl hcut hsrc
  have hq := rsize_any W1 a7 c0 s.dropLast (by rw [hdl]; unfold maxLen; omega) (hcut.below HO2.out.b (Nat.le_refl _))
  rw [hdl, HSZ.out] at hq
  have HQ := Lib.hid hq; have HDL := Lib.hid hdl; have HSD := Lib.hid hsrc
  clear hq hcut hdl hsrc
  go_wp2_with fail
  refine HQ.out.mono ?_
  rintro e W4 ⟨rfl, rfl⟩
  clear HQ
  unfold two
  have hq := rno_at W1 w.heap.size HO2.out.b.size 74 r HRR.out
  have HQ := Lib.hid hq; have HR := Lib.hid HO2.out.r; have HB := Lib.hid HO2.out.b
  clear hq
  go_wp2_with fail
  refine (Hid.out HQ).mono ?_
  rintro e w9 ⟨⟨v9, u9, rfl, hv9, hu9, hap9⟩, hb9⟩
  have hR9 := block_below (Hid.out HR) hb9
  have HV9 := Lib.hid hv9; have HU9 := Lib.hid hu9; have HAP9 := Lib.hid hap9; have HR9 := Lib.hid hR9
  have HB9 := Lib.hid (bNext hb9 (Hid.out HB))
  obtain ⟨a9, c9, rfl, -, -⟩ := RowI.slice hv9
  obtain ⟨a8, c8, rfl, -, -⟩ := RowI.slice hu9
  have g0 := cell_of_row w9 _ 0 _ _ _ hR9; have g1 := cell_of_row w9 _ 1 _ _ _ hR9
  have z0 := frozen_of_row w9 _ 0 _ _ hR9; have z1 := frozen_of_row w9 _ 1 _ _ hR9
  clear hv9 hu9 hap9 hb9 hR9
  go_wp2_with fail
  exact fin_arr rfl rfl rfl HR9.out HV9.out HU9.out HAP9.out HB9.out (by omega)
set_option maxHeartbeats 4000000 in
theorem rf_unit (w : World) (f : Int) (v u : Value) (s d : List Int) (hs : SlA w v s) (hd : SlA w u d) (hr : right s d = true) (ht : takes f true = true) (hs0 : s.length ≠ 0) (n : Nat) (hn : n ≤ 65536) (hsz : size s.dropLast = ((n : Int), 0)) (hl0 : lastOf s = 0) :
    Calls Try.prog 20 #[.int .u8 f, .agg #[v, u]] w fun e w' => RetArr w.heap.size (okA s.dropLast (List.replicate n (unitF f).1)) e w' ∧ Below w.heap.size w w' := by
  have HT := Lib.hid (fun W => rtakes_at W f true true ht)
  have hs4 := (right_good hr).2.len
  have hs1 : ((s.length : Int) == 0) = false := by rw [beq_eq_false_iff_ne]; omega
  have hsp : 0 < s.length := by omega
  have HSZ := Lib.hid hsz
  have HSC := Lib.hid hs.src
  have HLS := Lib.hid (last_getD hs0)
  have HL0 := Lib.hid hl0
  have HU := Lib.hid (fun W => runit_at W f (unitF f).1 (unitF f).2 rfl)
  generalize (unitF f).1 = un at HU
  generalize (unitF f).2 = ub at HU
  clear ht hs0 hsz hl0
  obtain ⟨a0, c0, rfl, h01, h02, -, h04, -⟩ := hs
  obtain ⟨a1, c1, rfl, h11, h12, -, h14, hin⟩ := hd
  have h02' : c0 ≤ 9223372036854775807 := h02
  have h12' : c1 ≤ 9223372036854775807 := h12
  have HM : Hid (s.length ≤ maxLen) := Lib.hid (Nat.le_trans h01 h02)
  have HRT := Lib.hid hr; have H0 := Lib.hid h04; have H1 := Lib.hid h14; have HIN := Lib.hid hin
  have HO := Lib.hid (One.mk0 w (.slice a0 s.length c0) (.slice a1 d.length c1))
  obtain ⟨r, HRR⟩ : ∃ r, Hid ((okA s.dropLast (List.replicate n un)) = r) := ⟨_, Lib.hid rfl⟩
  rw [HRR.out]
  clear hr h04 h14 h02 h12 hin
  go_enter Try.func20, Try.ntmps20
  go_upto_region 1 with fail
  refine gen_worldA (fun W => One w W (.slice a0 s.length c0) (.slice a1 d.length c1)) HO.out ?_
  rintro W hO
  have hq := rright_any W a0 a1 c0 c1 s d HM.out (H0.out.below hO.b (Nat.le_refl _))
  rw [HRT.out] at hq
  have HQ := Lib.hid hq; have HO1 := Lib.hid hO
  have x0 := hO.c0; have x1 := hO.c1
  clear hq hO
  go_wp2_with fail
  refine HQ.out.mono ?_
  rintro e W1 ⟨rfl, hb1⟩
  have HO2 := Lib.hid (HO1.out.next hb1)
  clear x0 x1
  have x0 := HO2.out.c0; have x1 := HO2.out.c1
  clear hb1 HQ HO1
  have HQ0 := Lib.hid (HT.out W1)
  go_wp2_with fail
  refine HQ0.out.mono ?_
  rintro e W2 ⟨rfl, rfl⟩
  clear HQ0 HT HO
  have hsl : ∀ W, (Instr.sliceAt 22 (.slice a0 s.length c0) none (some (.int .i64 ((s.length : Int) - 1))) none).run Try.prog W = .ok (.slice (subA a0 c0 0) (s.length - 1) c0) W := fun W => by
    have := slice_hi W a0 s.length c0 .i64 ((s.length : Int) - 1) (by omega) (by omega)
    rwa [show ((s.length : Int) - 1).toNat = s.length - 1 from by omega] at this
  have hcut : IntsAt .i64 w (subA a0 c0 0) s.dropLast := by
    have := H0.out.cut (l := 0) (n := s.length - 1) (m := c0) h01
    rwa [dropLast_take] at this
  have hsrc : Src w (.slice (subA a0 c0 0) (s.length - 1) c0) (s.length - 1) (s.dropLast.map (Value.int .i64)) := by
    have := src_cut HSC.out (k := s.length - 1) (by omega)
    rwa [← List.dropLast_eq_take] at this
  have hdl : s.dropLast.length = s.length - 1 := by simp
  generalize subA a0 c0 0 = a7 at hsl hcut hsrc
  have hq := rsize_any W1 a7 c0 s.dropLast (by rw [hdl]; unfold maxLen; omega) (hcut.below HO2.out.b (Nat.le_refl _))
  rw [hdl, HSZ.out] at hq
  have HQ := Lib.hid hq; have HDL := Lib.hid hdl; have HSD := Lib.hid hsrc
  clear hq hcut hdl hsrc
  go_wp2_with fail
  refine HQ.out.mono ?_
  rintro e W4 ⟨rfl, rfl⟩
  clear HQ
  unfold two
  obtain ⟨b0, o0, rfl, hcl⟩ := H0.out.atD (k := s.length - 1) (by omega)
  rw [HLS.out] at hcl
  have hcl := keepCell HO2.out.b hcl
  have els : (s.length : Int) - 1 = ((s.length - 1 : Nat) : Int) := by omega
  obtain ⟨sl, hsl2⟩ : ∃ sl, s.length - 1 = sl := ⟨_, rfl⟩
  rw [hsl2] at hcl els HDL HSD ⊢
  have hsl0 : (sl : Int) < (s.length : Int) := by omega
  have HSLE := Lib.hid hsl2
  clear hsl2
  rw [HL0.out] at hcl
  have HQU := Lib.hid (HU.out W1)
  go_wp2_with fail
  refine HQU.out.mono ?_
  rintro e W7 ⟨rfl, n7, rfl⟩
  have HO7 := Lib.hid (HO2.out.next (Below.drewN W1 n7))
  have HQT := Lib.hid (times_any (W1.drewN n7) un n hn)
  clear HQU hcl x0 x1 els hsl0 HO2
  go_wp2_with fail
  refine HQT.out.mono ?_
  rintro e W8 ⟨v8, rfl, hv8, hb8⟩
  have HO8 := Lib.hid (HO7.out.next hb8)
  have hv8 := hv8.mono HO7.out.b.size
  have hq := made_any W8 w.heap.size HO8.out.b.size (.slice a7 sl c0) v8 s.dropLast (List.replicate n un) ⟨_, _, by rw [HDL.out]⟩ (by rw [HDL.out]; exact HSD.out.below HO8.out.b) (by rw [HDL.out]; have := HSLE.out; omega) hv8
  rw [HRR.out] at hq
  obtain ⟨a9, c9, e9, -, -⟩ := hv8.slice
  rw [List.length_replicate] at e9
  subst e9
  have HQ := Lib.hid hq; have HR := Lib.hid HO8.out.r; have HB := Lib.hid HO8.out.b
  clear hq hv8 hb8 HO7 HQT
  go_wp2_with fail
  refine (Hid.out HQ).mono ?_
  rintro e w9 ⟨⟨v9, u9, rfl, hv9, hu9, hap9⟩, hb9⟩
  have hR9 := block_below (Hid.out HR) hb9
  have HV9 := Lib.hid hv9; have HU9 := Lib.hid hu9; have HAP9 := Lib.hid hap9; have HR9 := Lib.hid hR9
  have HB9 := Lib.hid (bNext hb9 (Hid.out HB))
  obtain ⟨a9, c9, rfl, -, -⟩ := RowI.slice hv9
  obtain ⟨a8, c8, rfl, -, -⟩ := RowI.slice hu9
  have g0 := cell_of_row w9 _ 0 _ _ _ hR9; have g1 := cell_of_row w9 _ 1 _ _ _ hR9
  have z0 := frozen_of_row w9 _ 0 _ _ hR9; have z1 := frozen_of_row w9 _ 1 _ _ hR9
  clear hv9 hu9 hap9 hb9 hR9
  go_wp2_with fail
  exact fin_arr rfl rfl rfl HR9.out HV9.out HU9.out HAP9.out HB9.out (by omega)
end Go.Proofs.Ytmjkncmpanhgjaa

namespace Go.Proofs.Ytmjkncmpanhgjaa
set_option maxRecDepth 100000
open Go.RowKit
set_option linter.unusedVariables false
set_option linter.unusedSimpArgs false

/-! windrowref07.Fold: the lanes. -/
theorem lane_len_le {lx : List (List Int)} {d : List Int} (hf : lx.flatten = d) : ∀ l ∈ lx, l.length ≤ d.length := fun l hl => by
  rw [← hf]
  induction lx generalizing d with
  | nil => cases hl
  | cons x lx ih =>
    rw [List.flatten_cons, List.length_append]
    rcases List.mem_cons.1 hl with rfl | h
    · omega
    · have := ih rfl h; omega
theorem badL_of {f : Int} {lx : List (List Int)} {k : Nat} (h : k < lx.length) (hb : (laneL f lx[k]).2 = true) : badL f lx = true := by
  unfold badL
  exact List.any_eq_true.2 ⟨laneL f lx[k], List.mem_map.2 ⟨_, List.getElem_mem h, rfl⟩, hb⟩
theorem foldL_bad {f : Int} {s : List Int} {lx : List (List Int)} (h : badL f lx = true) : foldL f s lx = noA 11 := by unfold foldL; rw [h]; rfl
theorem foldL_good {f : Int} {s : List Int} {lx : List (List Int)} (h : badL f lx = false) : foldL f s lx = okA s (lx.map fun l => (laneL f l).1.getLastD 0) := by unfold foldL; rw [h]; rfl
theorem scanR_last (f : Int) {l : List Int} (h : 0 < l.length) : (scanR f l).getD (l.length - 1) 0 = (laneL f l).1.getLastD 0 := by
  have := laneL_last f (l := l) (j := l.length) (by omega) (Nat.le_refl _)
  rw [List.take_length] at this
  rw [← (laneV_all f l).1]
  exact this
set_option maxHeartbeats 8000000 in
theorem rf_lanes (w : World) (f : Int) (v u : Value) (s d : List Int) (hs : SlA w v s) (hd : SlA w u d) (hr : right s d = true) (ht : takes f true = true) (hs0 : s.length ≠ 0) (n : Nat) (hn : n ≤ 65536) (hsz : size s.dropLast = ((n : Int), 0)) (hl0 : lastOf s ≠ 0)
    (lx : List (List Int)) (hl : LaneF s d lx) :
    Calls Try.prog 20 #[.int .u8 f, .agg #[v, u]] w fun e w' => RetArr w.heap.size (foldL f s.dropLast lx) e w' ∧ Below w.heap.size w w' := by
  have HT := Lib.hid (fun W => rtakes_at W f true true ht)
  have HTK := Lib.hid ht
  have hs4 := (right_good hr).2.len
  have hd6 := (right_good hr).2.le
  have hs1 : ((s.length : Int) == 0) = false := by rw [beq_eq_false_iff_ne]; omega
  have hsp : 0 < s.length := by omega
  have HSZ := Lib.hid hsz
  have HSC := Lib.hid hs.src
  have HLS := Lib.hid (last_getD hs0)
  have hla : (lastOf s == 0) = false := by rw [beq_eq_false_iff_ne]; exact hl0
  have HLX := Lib.hid hl
  have hdi : ∀ x ∈ d, In64 x := by obtain ⟨_, _, _, _, _, _, _, h⟩ := hd; exact h
  have HLI := Lib.hid (lanes_in hl.flat hdi); have HLL := Lib.hid (lane_len_le hl.flat)
  generalize lastOf s = la at hla HLS
  obtain ⟨nl, hnl⟩ : ∃ nl, lx.length = nl := ⟨_, rfl⟩
  have hnl6 : nl ≤ 65536 := hnl ▸ hl.len
  have HLN := Lib.hid hnl
  clear ht hs0 hsz hl0 hl hdi hnl
  obtain ⟨a0, c0, rfl, h01, h02, -, h04, -⟩ := hs
  obtain ⟨a1, c1, rfl, h11, h12, -, h14, hin⟩ := hd
  have h02' : c0 ≤ 9223372036854775807 := h02
  have h12' : c1 ≤ 9223372036854775807 := h12
  have HM : Hid (s.length ≤ maxLen) := Lib.hid (Nat.le_trans h01 h02)
  have HRT := Lib.hid hr; have H0 := Lib.hid h04; have H1 := Lib.hid h14; have HIN := Lib.hid hin
  have HO := Lib.hid (One.mk0 w (.slice a0 s.length c0) (.slice a1 d.length c1))
  obtain ⟨r, HRR⟩ : ∃ r, Hid ((foldL f s.dropLast lx) = r) := ⟨_, Lib.hid rfl⟩
  rw [HRR.out]
  clear hr h04 h14 h02 h12 hin
  go_enter Try.func20, Try.ntmps20
  go_upto_region 1 with fail
  refine gen_worldA (fun W => One w W (.slice a0 s.length c0) (.slice a1 d.length c1)) HO.out ?_
  rintro W hO
  have hq := rright_any W a0 a1 c0 c1 s d HM.out (H0.out.below hO.b (Nat.le_refl _))
  rw [HRT.out] at hq
  have HQ := Lib.hid hq; have HO1 := Lib.hid hO
  have x0 := hO.c0; have x1 := hO.c1
  clear hq hO
  go_wp2_with fail
  refine HQ.out.mono ?_
  rintro e W1 ⟨rfl, hb1⟩
  have HO2 := Lib.hid (HO1.out.next hb1)
  clear x0 x1
  have x0 := HO2.out.c0; have x1 := HO2.out.c1
  clear hb1 HQ HO1
  have HQ0 := Lib.hid (HT.out W1)
  go_wp2_with fail
  refine HQ0.out.mono ?_
  rintro e W2 ⟨rfl, rfl⟩
  clear HQ0 HT HO
  have hsl : ∀ W, (Instr.sliceAt 22 (.slice a0 s.length c0) none (some (.int .i64 ((s.length : Int) - 1))) none).run Try.prog W = .ok (.slice (subA a0 c0 0) (s.length - 1) c0) W := fun W => by
    have := slice_hi W a0 s.length c0 .i64 ((s.length : Int) - 1) (by omega) (by omega)
    rwa [show ((s.length : Int) - 1).toNat = s.length - 1 from by omega] at this
  have hcut : IntsAt .i64 w (subA a0 c0 0) s.dropLast := by
    have := H0.out.cut (l := 0) (n := s.length - 1) (m := c0) h01
    rwa [dropLast_take] at this
  have hsrc : Src w (.slice (subA a0 c0 0) (s.length - 1) c0) (s.length - 1) (s.dropLast.map (Value.int .i64)) := by
    have := src_cut HSC.out (k := s.length - 1) (by omega)
    rwa [← List.dropLast_eq_take] at this
  have hdl : s.dropLast.length = s.length - 1 := by simp
  generalize subA a0 c0 0 = a7 at hsl hcut hsrc
  have hq := rsize_any W1 a7 c0 s.dropLast (by rw [hdl]; unfold maxLen; omega) (hcut.below HO2.out.b (Nat.le_refl _))
  rw [hdl, HSZ.out] at hq
  have HQ := Lib.hid hq; have HDL := Lib.hid hdl; have HSD := Lib.hid hsrc
  clear hq hcut hdl hsrc
  go_wp2_with fail
  refine HQ.out.mono ?_
  rintro e W4 ⟨rfl, rfl⟩
  clear HQ
  unfold two
  obtain ⟨b0, o0, rfl, hcl⟩ := H0.out.atD (k := s.length - 1) (by omega)
  rw [HLS.out] at hcl
  have hcl := keepCell HO2.out.b hcl
  have els : (s.length : Int) - 1 = ((s.length - 1 : Nat) : Int) := by omega
  obtain ⟨sl, hsl2⟩ : ∃ sl, s.length - 1 = sl := ⟨_, rfl⟩
  rw [hsl2] at hcl els HDL HSD ⊢
  have hsl0 : (sl : Int) < (s.length : Int) := by omega
  have HSLE := Lib.hid hsl2
  clear hsl2
  have hq := rlanes_any W1 (some ⟨b0, o0, none⟩) a1 c0 c1 s d HM.out h11 (H0.out.below HO2.out.b (Nat.le_refl _)) (H1.out.below HO2.out.b (Nat.le_refl _))
  rw [HLX.out.eq] at hq
  have HQ := Lib.hid hq
  clear hq
  go_wp2_with fail
  refine HQ.out.mono ?_
  rintro e W8 ⟨⟨v15, rfl, hv15⟩, hb8⟩
  obtain ⟨a15, c15, e15, hlm, hfo⟩ := hv15.form
  rw [HLN.out] at e15 hfo
  subst e15
  have HO8 := Lib.hid (HO2.out.next hb8); have HR8 := Lib.hid (hv15.mono HO2.out.b.size); have HFO := Lib.hid hfo
  have hw8 := HO8.out.b.size
  clear HQ hv15 hb8 hlm hfo HO2 hcl x0 x1 els hsl0
  go_wp2_with fail
  go_loopw [13, 14] (fun o i wr => ∃ k : Nat, k ≤ nl ∧ i = .int .i64 k ∧ Below W8.heap.size W8 wr ∧ RowI W8.heap.size wr o ((lx.take k).map fun l => (laneL f l).1.getLastD 0) ∧ badL f (lx.take k) = false) (fun _ i _ => nl - (intOf i).toNat)
  case atStart => exact ⟨0, by omega, rfl, Below.refl _ _, RowI.nil _ _, rfl⟩
  case round =>
    obtain ⟨k, hk, rfl, hb, hrw, hg⟩ := hrel
    by_cases hlt : k < nl
    · obtain ⟨g15, rfl, -⟩ := HFO.out (by omega)
      have hkx : k < lx.length := by rw [HLN.out]; exact hlt
      obtain ⟨u9, hc9, hr9, -⟩ := (HR8.out.below hb).get hkx
      have hlk0 := HLX.out.ne _ (List.getElem_mem hkx)
      have hlki := HLI.out _ (List.getElem_mem hkx)
      have hlkl := HLL.out _ (List.getElem_mem hkx)
      have hbs := badL_succ f hkx
      have hbo := badL_of (f := f) hkx
      have hst : (lx.take (k + 1)).map (fun l => (laneL f l).1.getLastD 0) = (lx.take k).map (fun l => (laneL f l).1.getLastD 0) ++ [(laneL f lx[k]).1.getLastD 0] := by
        rw [List.take_succ_eq_append_getElem hkx, List.map_append]; rfl
      generalize lx[k] = lk at hr9 hlk0 hlki hlkl hbs hbo hst
      obtain ⟨a9, c9, e9, -, hi9⟩ := hr9.slice
      obtain ⟨m, hm⟩ : ∃ m, lk.length = m := ⟨_, rfl⟩
      rw [hm] at e9 hlk0 hlkl
      subst e9
      have hq := rsteps_any wr f a9 m c9 lk hm (by omega) hi9 hlki HTK.out
      have HQ := Lib.hid hq; have HRW := Lib.hid hrw; have HB := Lib.hid hb; have HM1 := Lib.hid hm
      have hll : ((lx.take k).map fun l => (laneL f l).1.getLastD 0).length ≤ 65536 := by rw [List.length_map, List.length_take]; omega
      have HKL := Lib.hid hll
      have HSTT := Lib.hid hst
      clear hq hrw hr9 hi9 hlki hkx hll
      cases hbd : (laneL f lk).2 with
      | true =>
        have hs : stepsR f lk = ([], 11) := by unfold stepsR; rw [hbd]; rfl
        have HS := Lib.hid hs
        have HRB := Lib.hid (foldL_bad (s := s.dropLast) (hbo hbd))
        clear hbo hbs hst hs hbd hg hm hb
        rw [HS.out] at HQ
        go_wp2_with fail
        refine HQ.out.mono ?_
        rintro e W9 ⟨⟨v9, rfl, -⟩, hb9⟩
        have HO9 := Lib.hid ((HO8.out.next HB.out).next hb9)
        have hq := rno_at W9 w.heap.size HO9.out.b.size 11 r (by rw [← HRB.out]; exact HRR.out)
        clear HQ
        have HQ := Lib.hid hq; have HR := Lib.hid HO9.out.r; have HB2 := Lib.hid HO9.out.b
        clear hq hb9 hc9
        go_wp2_with fail
        refine (Hid.out HQ).mono ?_
        rintro e w9 ⟨⟨v9, u9, rfl, hv9, hu9, hap9⟩, hb9⟩
        have hR9 := block_below (Hid.out HR) hb9
        have HV9 := Lib.hid hv9; have HU9 := Lib.hid hu9; have HAP9 := Lib.hid hap9; have HR9 := Lib.hid hR9
        have HB9 := Lib.hid (bNext hb9 (Hid.out HB2))
        obtain ⟨a9, c9, rfl, -, -⟩ := RowI.slice hv9
        obtain ⟨a8, c8, rfl, -, -⟩ := RowI.slice hu9
        have g0 := cell_of_row w9 _ 0 _ _ _ hR9; have g1 := cell_of_row w9 _ 1 _ _ _ hR9
        have z0 := frozen_of_row w9 _ 0 _ _ hR9; have z1 := frozen_of_row w9 _ 1 _ _ hR9
        clear hv9 hu9 hap9 hb9 hR9
        go_wp2_with fail
        exact fin_arr rfl rfl rfl HR9.out HV9.out HU9.out HAP9.out HB9.out (by omega)
      | false =>
        have hs : stepsR f lk = (scanR f lk, 0) := by unfold stepsR; rw [hbd]; rfl
        rw [hs] at HQ
        have hsr := scanR_last f (l := lk) (by rw [hm]; exact hlk0)
        have hsl : (scanR f lk).length = m := by unfold scanR; rw [laneL_len, hm]
        rw [hm] at hsr
        rw [hbd, hg] at hbs
        obtain ⟨p, rfl⟩ : ∃ p, m = p + 1 := ⟨m - 1, by omega⟩
        rw [Nat.add_sub_cancel] at hsr
        have HBS := Lib.hid hbs; have HSR := Lib.hid hsr; have HSL := Lib.hid hsl
        generalize (laneL f lk).1.getLastD 0 = y at HSTT HSR
        generalize ((lx.take k).map fun l => (laneL f l).1.getLastD 0) = ou at HSTT HRW HKL
        have hp0 : (0 : Int) ≤ (p : Int) := by omega
        have hpp : (p : Int) < (p : Int) + 1 := by omega
        clear hbo hbs hst hs hbd hg hm hb hsr hsl
        go_wp2_with fail
        refine HQ.out.mono ?_
        rintro e W9 ⟨⟨v9, rfl, hv9⟩, hb9⟩
        obtain ⟨g9, c9', e9, -, -⟩ := hv9.form (by rw [HSL.out]; omega)
        rw [HSL.out] at e9
        subst e9
        have hcp := hv9.at (k := p) (by rw [HSL.out]; omega)
        rw [HSR.out] at hcp
        have HB9 := Lib.hid (HB.out.trans (hb9.mono HB.out.size)); have HR9 := Lib.hid (HRW.out.below hb9)
        have hba : Below W9.heap.size W9 (W9.alloc (.cells #[.int .i64 y] 2)) := (Below.refl _ _).alloc (Nat.le_refl _) _
        have HRA := Lib.hid (HR9.out.below hba); have HBA := Lib.hid (HB9.out.trans (hba.mono HB9.out.size))
        have hsz := HBA.out.size
        clear HQ hv9 hb9 HB HRW hba HR9 HB9 hc9
        go_wp2_with (at_builtin; refine wpList_app rfl _ _ rfl W8.heap.size _ ou [y] _ 1 rfl rfl HRA.out rfl (src_one W9 y _ rfl) (by have := HKL.out; omega) hsz ?_)
        intro v' wz hvz hgz hnz
        have HVZ := Lib.hid (show RowI W8.heap.size wz v' ((lx.take (k + 1)).map fun l => (laneL f l).1.getLastD 0) by rw [HSTT.out]; exact hvz)
        have HBZ := Lib.hid (HBA.out.grown hgz hsz (fun g e => (HRA.out.lt g e).1))
        clear hvz hgz hnz HRA HBA hsz hcp
        go_wp2_with fail
        go_roundw
        case rel => exact ⟨k + 1, by omega, by go_num, HBZ.out, HVZ.out, HBS.out⟩
        case measure => simp [intOf] <;> omega
    · obtain rfl : k = nl := by omega
      have hall : lx.take k = lx := List.take_of_length_le (by rw [HLN.out]; exact Nat.le_refl _)
      rw [hall] at hrw hg
      have hrr := foldL_good (s := s.dropLast) hg
      rw [HRR.out] at hrr
      have hO := HO8.out.next hb
      generalize (lx.map fun l => (laneL f l).1.getLastD 0) = D at hrw hrr
      obtain ⟨a9, c9, e9, -, -⟩ := hrw.slice
      have hq := made_any wr w.heap.size hO.b.size (.slice a7 sl c0) _ s.dropLast D ⟨_, _, by rw [HDL.out]⟩ (by rw [HDL.out]; exact HSD.out.below hO.b) (by rw [HDL.out]; have := HSLE.out; omega) (hrw.mono hw8)
      rw [← hrr] at hq
      have HQ := Lib.hid hq; have HR := Lib.hid hO.r; have HB := Lib.hid hO.b
      subst e9
      clear hq hO hrw hlt hg hall hrr hb
      go_wp2_with fail
      refine (Hid.out HQ).mono ?_
      rintro e w9 ⟨⟨v9, u9, rfl, hv9, hu9, hap9⟩, hb9⟩
      have hR9 := block_below (Hid.out HR) hb9
      have HV9 := Lib.hid hv9; have HU9 := Lib.hid hu9; have HAP9 := Lib.hid hap9; have HR9 := Lib.hid hR9
      have HB9 := Lib.hid (bNext hb9 (Hid.out HB))
      obtain ⟨a9, c9, rfl, -, -⟩ := RowI.slice hv9
      obtain ⟨a8, c8, rfl, -, -⟩ := RowI.slice hu9
      have g0 := cell_of_row w9 _ 0 _ _ _ hR9; have g1 := cell_of_row w9 _ 1 _ _ _ hR9
      have z0 := frozen_of_row w9 _ 0 _ _ hR9; have z1 := frozen_of_row w9 _ 1 _ _ hR9
      clear hv9 hu9 hap9 hb9 hR9
      go_wp2_with fail
      exact fin_arr rfl rfl rfl HR9.out HV9.out HU9.out HAP9.out HB9.out (by omega)
theorem rf_any (w : World) (f : Int) (v u : Value) (s d : List Int) (hs : SlA w v s) (hd : SlA w u d) :
    Calls Try.prog 20 #[.int .u8 f, .agg #[v, u]] w fun e w' => RetArr w.heap.size (foldA f s d) e w' ∧ Below w.heap.size w w' := by
  cases hr : right s d with
  | false => exact retB' (rf_bad w f v u s d hs hd hr) (by unfold foldA; rw [hr]; rfl)
  | true =>
    cases ht : takes f true with
    | false => exact retB' (rf_no w f v u s d hs hd hr ht) (by unfold foldA; rw [hr, ht]; rfl)
    | true =>
      by_cases hs0 : s.length = 0
      · exact retB' (rf_zero w f v u s d hs hd hr ht hs0) (by unfold foldA; rw [if_pos hr, if_pos ht, if_pos hs0])
      obtain ⟨lx, hl⟩ := lane_facts hr
      rw [foldA_eq hr ht hl hs0]
      by_cases her : (size s.dropLast).2 ≠ 0
      · rw [if_pos her]; exact rf_large w f v u s d hs hd hr ht hs0 her
      rw [if_neg her]
      have her : (size s.dropLast).2 = 0 := by omega
      obtain ⟨nz, hsz⟩ : ∃ nz, size s.dropLast = (nz, 0) := ⟨(size s.dropLast).1, by rw [← her]⟩
      obtain ⟨h0, h1, h2⟩ := fold_count hr hl hs0 hsz
      obtain ⟨n, rfl⟩ := Int.eq_ofNat_of_zero_le h0
      by_cases hl0 : lastOf s = 0
      · rw [if_pos hl0, hsz]; exact rf_unit w f v u s d hs hd hr ht hs0 n (by omega) hsz hl0
      · rw [if_neg hl0]; exact rf_lanes w f v u s d hs hd hr ht hs0 n (by omega) hsz hl0 lx hl
end Go.Proofs.Ytmjkncmpanhgjaa
