import Derived.Test.YtokghjnkfabgiaaGreatDoorTC28
set_option linter.unusedVariables false
set_option linter.unusedSimpArgs false
set_option maxRecDepth 100000
-- DROPS
namespace Go.Proofs.YtokghjnkfabgiaaGreatDoor
open Go.RowKit

theorem one_of_none {s d : List Int} (h : right s d = true) (h0 : s.length = 0) : d.length = 1 := by
 have e := (right_good h).1
 rw [List.eq_nil_of_length_eq_zero h0] at e
 have : size [] = (1, 0) := rfl
 rw [this] at e
 injection e with e
 omega
theorem head_getD (d : List Int) : d.getD 0 0 = d.headD 0 := by cases d <;> rfl
theorem rep_getD {n k : Nat} (x : Int) (h : k < n) : (List.replicate n x).getD k 0 = x := by
 rw [List.getD_eq_getElem?_getD, List.getElem?_replicate, if_pos h]; rfl
theorem RowI.box {B : Nat} {W : World} {x z : Value} {xs : List Int} {g k : Nat} {cs : Array Value} (h : RowI B W x xs) (hg : W.heap[g]? = some (.cells cs 44 (0, 0))) : RowI B (W.setCell ⟨g, k, none⟩ z) x xs :=
 own_keep h (KeepTy.setCell (p := ⟨g, k, none⟩) (NotTy.of hg (by decide)) _)
theorem PairAt.box {W : World} {P F : Nat} {f wr : Int} {z : Value} {g k : Nat} {cs : Array Value} (h : PairAt W P F f wr) (hg : W.heap[g]? = some (.cells cs 44 (0, 0))) : PairAt (W.setCell ⟨g, k, none⟩ z) P F f wr :=
 ⟨KeepTy.setCell (p := ⟨g, k, none⟩) (NotTy.of hg (by decide)) _ _ _ h.p, KeepTy.setCell (p := ⟨g, k, none⟩) (NotTy.of hg (by decide)) _ _ _ h.f⟩
set_option maxHeartbeats 8000000 in
theorem pd_left (w : World) (f : Int) (v u v2 u2 : Value) (s d t e : List Int) (hs : SlA w v s) (hd : SlA w u d) (ht : SlA w v2 t) (he : SlA w u2 e) (hr1 : right s d = true) (hr2 : right t e = true) (htk : takes f true = true) (hst : s ≠ t) (hs0 : s.length = 0) :
  Calls Tryz.prog 98 #[.int .u8 f, .agg #[v, u], .agg #[v2, u2]] w fun e' w' => RetArr w.heap.size (pairsA f (List.replicate e.length (d.headD 0)) e t) e' w' ∧ Below w.heap.size w w' := by
 have hf := (takes_in htk).2
 have g0 : (f == 37) = false := by rw [beq_eq_false_iff_ne]; omega
 have g1 : (f == 38) = false := by rw [beq_eq_false_iff_ne]; omega
 have g2 : (f == 39) = false := by rw [beq_eq_false_iff_ne]; omega
 have g3 : (f == 40) = false := by rw [beq_eq_false_iff_ne]; omega
 have hd1 := one_of_none hr1 hs0
 have he6 := (right_good hr2).2.le
 have ht4 := (right_good hr2).2.len
 have HST := Lib.hid hst
 have HR1 := Lib.hid hr1; have HR2 := Lib.hid hr2; have HTK := Lib.hid htk
 have HT := Lib.hid (fun W => takes_at W f true true htk)
 have hs1 : ((s.length : Int) == 0) = true := by rw [beq_iff_eq]; omega
 have hd0 : (0 : Int) < (d.length : Int) := by omega
 have hdl : 0 < d.length := by omega
 rw [pairsA_eq]
 have hxd := head_getD d
 obtain ⟨x, hx0⟩ : ∃ x, d.headD 0 = x := ⟨_, rfl⟩
 rw [hx0] at hxd ⊢
 have HXD := Lib.hid hxd
 obtain ⟨xs, hxs⟩ : ∃ xs, List.replicate e.length x = xs := ⟨_, rfl⟩
 have HXL : Hid (xs.length = e.length) := Lib.hid (by rw [← hxs]; simp)
 have HXG : Hid (∀ k, k < e.length → xs.getD k 0 = x) := Lib.hid fun k hk => by rw [← hxs]; exact rep_getD x hk
 rw [hxs]
 clear hr1 hr2 hf htk hst hs0 hd1 hx0 hxd hxs
 have HS0 := Lib.hid hs.src; have HS1 := Lib.hid hd.src; have HS2 := Lib.hid ht.src; have HS3 := Lib.hid he.src
 obtain ⟨a0, c0, rfl, h01, h02, -, h04, -⟩ := hs
 obtain ⟨a1, c1, rfl, h11, h12, -, h14, hin⟩ := hd
 obtain ⟨a2, c2, rfl, h21, h22, -, h24, -⟩ := ht
 obtain ⟨a3, c3, rfl, h31, h32, -, h34, hie⟩ := he
 have h02' : c0 ≤ 9223372036854775807 := h02
 have h12' : c1 ≤ 9223372036854775807 := h12
 have h22' : c2 ≤ 9223372036854775807 := h22
 have h32' : c3 ≤ 9223372036854775807 := h32
 have HM : Hid (s.length ≤ maxLen) := Lib.hid (Nat.le_trans h01 h02)
 have HM2 : Hid (t.length ≤ maxLen) := Lib.hid (Nat.le_trans h21 h22)
 have H0 := Lib.hid h04; have H1 := Lib.hid h14; have HIN := Lib.hid hin
 have H2 := Lib.hid h24; have H3 := Lib.hid h34; have HIE := Lib.hid hie
 have HO := Lib.hid (Duo.mk0 w (.slice a0 s.length c0) (.slice a1 d.length c1) (.slice a2 t.length c2) (.slice a3 e.length c3))
 obtain ⟨r, HRR⟩ : ∃ r, Hid ((doneA (wrongP f (xs.zip e)) t (outP f (xs.zip e))) = r) := ⟨_, Lib.hid rfl⟩
 rw [HRR.out]
 clear h04 h14 h24 h34 h02 h12 h22 h32 hin hie
 go_enter Tryz.func98, Tryz.ntmps98
 go_upto_region 1 with fail
 refine gen_worldA (fun W => Duo w W (.slice a0 s.length c0) (.slice a1 d.length c1) (.slice a2 t.length c2) (.slice a3 e.length c3)) HO.out ?_
 rintro W1 hO
 have HO2 := Lib.hid hO
 have x0 := hO.c0; have x1 := hO.c1; have x2 := hO.c2; have x3 := hO.c3
 clear HO hO
 have hq := right_any W1 a0 a1 c0 c1 s d HM.out (H0.out.below HO2.out.b (Nat.le_refl _))
 rw [HR1.out] at hq
 have HQ := Lib.hid hq
 clear hq
 go_wp2_with fail
 refine HQ.out.mono ?_
 rintro e' W2 ⟨rfl, hb2⟩
 have HO3 := Lib.hid (HO2.out.next hb2)
 have hq := right_any W2 a2 a3 c2 c3 t e HM2.out (H2.out.below HO3.out.b (Nat.le_refl _))
 rw [HR2.out] at hq
 clear HQ x0 x1 x2 x3
 have HQ := Lib.hid hq
 have x2 := HO3.out.c2; have x3 := HO3.out.c3
 clear hq hb2 HO2
 go_wp2_with fail
 refine HQ.out.mono ?_
 rintro e' W3 ⟨rfl, hb3⟩
 have HO4 := Lib.hid (HO3.out.next hb3)
 clear HQ x2 x3 hb3 HO3
 have x0 := HO4.out.c0; have x1 := HO4.out.c1; have x2 := HO4.out.c2; have x3 := HO4.out.c3
 have HQ0 := Lib.hid (HT.out W3)
 go_wp2_with fail
 refine HQ0.out.mono ?_
 rintro e' W4 ⟨rfl, rfl⟩
 have HQ1 := Lib.hid (of_any W3 f)
 clear HQ0 HT g0 g1 g2 g3 x0 x1 x2 x3
 go_wp2_with fail
 refine HQ1.out.mono ?_
 rintro e' W5 ⟨rfl, hp5, hb5⟩
 have HO5 := Lib.hid (HO4.out.next hb5)
 have hP : w.heap.size ≤ W3.heap.size + 1 := by have := HO4.out.b.size; omega
 obtain ⟨P, hPe⟩ : ∃ P, W3.heap.size + 1 = P := ⟨_, rfl⟩
 obtain ⟨F, hFe⟩ : ∃ F, W3.heap.size = F := ⟨_, rfl⟩
 rw [hPe] at hp5 hP ⊢
 rw [hFe] at hp5
 have HPA := Lib.hid hp5; have hPw := Lib.hid hP
 clear HQ1 hp5 hb5 HO4 hPe hFe hP
 have x0 := HO5.out.c0; have x1 := HO5.out.c1; have x2 := HO5.out.c2; have x3 := HO5.out.c3
 have hq := equal_any W5 a0 a2 c0 c2 s t HM.out HM2.out (H0.out.below HO5.out.b (Nat.le_refl _)) (H2.out.below HO5.out.b (Nat.le_refl _))
 have HQ := Lib.hid hq
 clear hq
 go_wp2_with fail
 refine HQ.out.mono ?_
 rintro e' W6 ⟨rfl, n6, rfl⟩
 have HO6 := Lib.hid (HO5.out.next (Below.drewN W5 n6)); have HPB := Lib.hid (HPA.out.below (Below.drewN W5 n6))
 clear HQ HO5 HPA x0 x1 x2 x3
 obtain ⟨W7, hW7⟩ : ∃ W, W5.drewN n6 = W := ⟨_, rfl⟩
 rw [hW7] at HO6 HPB ⊢
 clear hW7
 have hints : ints s t = false := by unfold ints; exact decide_eq_false HST.out
 rw [hints]
 clear hints
 have x0 := HO6.out.c0; have x3 := HO6.out.c3
 go_wp2_with fail
 clear x0 x3 hs1
 go_loopw [9, 98] (fun o i wr => ∃ k : Nat, k ≤ e.length ∧ i = .int .i64 k ∧ Duo w wr (.slice a0 s.length c0) (.slice a1 d.length c1) (.slice a2 t.length c2) (.slice a3 e.length c3) ∧
  PairAt wr P F f (wrongP f ((xs.zip e).take k)) ∧ RowI w.heap.size wr o (outP f ((xs.zip e).take k))) (fun _ i _ => e.length - (intOf i).toNat)
 case atStart => exact ⟨0, by omega, rfl, HO6.out, HPB.out, RowI.nil _ _⟩
 case round =>
  obtain ⟨k, hk, rfl, hO, hpa, hrw⟩ := hrel
  clear HO6 HPB
  have x1 := hO.c1
  by_cases hlt : k < e.length
  ·have hz := zip_step HXL.out (k := k) (by rw [HXL.out]; exact hlt)
   rw [HXG.out k hlt] at hz
   obtain ⟨b1, o1, rfl, hc1⟩ := H1.out.atD hdl
   rw [HXD.out, Nat.add_zero] at hc1
   obtain ⟨b3, o3, rfl, hc3⟩ := H3.out.atD hlt
   have hc1 := keepCell hO.b hc1; have hc3 := keepCell hO.b hc3
   have hx := In64.getD HIN.out hdl; have hy := In64.getD HIE.out hlt
   rw [HXD.out] at hx
   have hke : (k : Int) < (e.length : Int) := by omega
   generalize e.getD k 0 = y at hz hc3 hy
   have hol : (outP f ((xs.zip e).take k)).length ≤ 65536 := by rw [outP_len, List.length_take]; omega
   have hO1 : outP f ((xs.zip e).take (k + 1)) = outP f ((xs.zip e).take k) ++ [callV f x y] := by rw [hz, outP_snoc]
   have hW1 : wrongP f ((xs.zip e).take (k + 1)) = nextE f x y (wrongP f ((xs.zip e).take k)) := by rw [hz, wrongP_snoc]
   have HOL := Lib.hid hol; have HO1 := Lib.hid hO1; have HW1 := Lib.hid hW1
   have hcl := call_any wr P F f _ x y hpa HTK.out hx hy
   have HC := Lib.hid hcl; have HOR := Lib.hid hO; have HPA := Lib.hid hpa; have HRW := Lib.hid hrw
   clear hz hol hO1 hW1 hcl hO hpa hrw hx hy
   generalize outP f ((xs.zip e).take k) = ou at HOL HO1 HRW ⊢
   generalize wrongP f ((xs.zip e).take k) = wg at HW1 HPA HC
   go_wp2_with fail
   refine HC.out.mono ?_
   rintro e' w5 ⟨rfl, hp5, hk5⟩
   have HO5 := Lib.hid (HOR.out.call HPA.out hPw.out hk5)
   have HV5 := Lib.hid (HRW.out.call HPA.out hk5)
   have HP5 := Lib.hid hp5
   have hba : Below w5.heap.size w5 (w5.alloc (.cells #[.int .i64 (callV f x y)] 2)) := (Below.refl _ _).alloc (Nat.le_refl _) _
   have HBA := Lib.hid hba; have HR6 := Lib.hid (HV5.out.below hba)
   have hsz := (HO5.out.next hba).b.size
   clear hp5 hk5 HC HOR HPA HRW hba x1 hc1 hc3
   go_wp2_with (at_builtin; refine wpList_app rfl _ _ rfl w.heap.size _ ou [callV f x y] _ 1 rfl rfl HR6.out rfl (src_one w5 (callV f x y) _ rfl) (by have := HOL.out; omega) hsz ?_)
   intro v' w9 hv9 hg9 hn9
   have hv9 : RowI w.heap.size w9 v' (ou ++ [callV f x y]) := hv9
   rw [← HO1.out] at hv9
   have HV9 := Lib.hid hv9
   have HO9 := Lib.hid (HO5.out.app HBA.out HR6.out hg9); have HP9 := Lib.hid (HP5.out.app HBA.out HR6.out hg9)
   rw [← HW1.out] at HP9
   clear hv9 hg9 hn9 HBA HR6 HO5 HV5 HP5 HO1 HW1 hsz
   go_wp2_with fail
   go_roundw
   case rel => exact ⟨k + 1, by omega, by go_num, HO9.out, HP9.out, HV9.out⟩
   case measure => simp [intOf] <;> omega
  ·obtain rfl : k = e.length := by omega
   have hall : (xs.zip e).take e.length = xs.zip e := List.take_of_length_le (by simp; omega)
   rw [hall] at hpa hrw
   have x2 := hO.c2; have x0 := hO.c0
   have f0 := frozen_of_row wr w.heap.size 0 _ _ hO.x
   have HO7 := Lib.hid (hO.put0 (.slice a2 t.length c2)); have HP7 := Lib.hid (hpa.box (z := .slice a2 t.length c2) (k := 0) hO.x); have HV7 := Lib.hid (hrw.box (z := .slice a2 t.length c2) (k := 0) hO.x)
   have hlw := hO.lt
   have hlw0 : w.heap.size < wr.heap.size := by omega
   obtain ⟨a9, c9, e9, -, -⟩ := hrw.slice
   subst e9
   clear hO hpa hrw hlt hall x1
   go_upto_region 35 with fail
   refine gen_worldA (fun W => Duo w W (.slice a2 t.length c2) (.slice a1 d.length c1) (.slice a2 t.length c2) (.slice a3 e.length c3) ∧ PairAt W P F f (wrongP f (xs.zip e)) ∧ RowI w.heap.size W (.slice a9 (outP f (xs.zip e)).length c9) (outP f (xs.zip e))) ⟨HO7.out, HP7.out, HV7.out⟩ ?_
   rintro W8 ⟨hO, hpa, hrw⟩
   have hcl := clone_any W8 a2 c2 t (by omega) (H2.out.below hO.b (Nat.le_refl _))
   have HC := Lib.hid hcl; have HOR := Lib.hid hO; have HPA := Lib.hid hpa; have HRW := Lib.hid hrw
   clear x0 x2 f0 HO7 HP7 HV7
   have x0 := hO.c0
   clear hcl hO hpa hrw
   go_wp2_with fail
   refine HC.out.mono ?_
   rintro e' w5 ⟨⟨v5, rfl, hv5⟩, hb5⟩
   have HO5 := Lib.hid (HOR.out.next hb5)
   have hap := (Apart.of_rows HRW.out hv5).symm
   have hq := done_any w5 w.heap.size P F f _ (HPA.out.below hb5) t _ v5 _ HO5.out.b.size (hv5.mono HOR.out.b.size) (HRW.out.below hb5) hap
   rw [HRR.out] at hq
   have HQ := Lib.hid hq; have HR := Lib.hid HO5.out.r; have HB := Lib.hid HO5.out.b
   obtain ⟨a8, c8, rfl, -, -⟩ := hv5.slice
   clear hq hv5 hb5 hap HC HOR HPA HRW x0
   go_wp2_with fail
   refine (Hid.out HQ).mono ?_
   rintro e w9 ⟨⟨v9, u9, rfl, hv9, hu9, hap9⟩, hb9⟩
   have hR9 := block_below (Hid.out HR) hb9
   have HV9 := Lib.hid hv9; have HU9 := Lib.hid hu9; have HAP9 := Lib.hid hap9; have HR9 := Lib.hid hR9
   have HB9 := Lib.hid (bNext hb9 (Hid.out HB))
   obtain ⟨a9, c9, rfl, -, -⟩ := RowI.slice hv9
   obtain ⟨a8, c8, rfl, -, -⟩ := RowI.slice hu9
   have g0 := cell_of_row w9 _ 0 _ _ _ hR9; have g1 := cell_of_row w9 _ 1 _ _ _ hR9
   have z0 := frozen_of_row w9 _ 0 _ _ hR9; have z1 := frozen_of_row w9 _ 1 _ _ hR9
   clear hv9 hu9 hap9 hb9 hR9
   go_wp2_with fail
   exact fin_arr rfl rfl rfl HR9.out HV9.out HU9.out HAP9.out HB9.out (by omega)
set_option maxHeartbeats 8000000 in
theorem pd_right (w : World) (f : Int) (v u v2 u2 : Value) (s d t e : List Int) (hs : SlA w v s) (hd : SlA w u d) (ht : SlA w v2 t) (he : SlA w u2 e) (hr1 : right s d = true) (hr2 : right t e = true) (htk : takes f true = true) (hst : s ≠ t) (hs0 : s.length ≠ 0) (ht0 : t.length = 0) :
  Calls Tryz.prog 98 #[.int .u8 f, .agg #[v, u], .agg #[v2, u2]] w fun e' w' => RetArr w.heap.size (pairsA f d (List.replicate d.length (e.headD 0)) s) e' w' ∧ Below w.heap.size w w' := by
 have hf := (takes_in htk).2
 have g0 : (f == 37) = false := by rw [beq_eq_false_iff_ne]; omega
 have g1 : (f == 38) = false := by rw [beq_eq_false_iff_ne]; omega
 have g2 : (f == 39) = false := by rw [beq_eq_false_iff_ne]; omega
 have g3 : (f == 40) = false := by rw [beq_eq_false_iff_ne]; omega
 have he1 := one_of_none hr2 ht0
 have hd6 := (right_good hr1).2.le
 have hs4 := (right_good hr1).2.len
 have HST := Lib.hid hst
 have HR1 := Lib.hid hr1; have HR2 := Lib.hid hr2; have HTK := Lib.hid htk
 have HT := Lib.hid (fun W => takes_at W f true true htk)
 have hs1 : ((s.length : Int) == 0) = false := by rw [beq_eq_false_iff_ne]; omega
 have ht1 : ((t.length : Int) == 0) = true := by rw [beq_iff_eq]; omega
 have he0 : (0 : Int) < (e.length : Int) := by omega
 have hel : 0 < e.length := by omega
 rw [pairsA_eq]
 have hxd := head_getD e
 obtain ⟨y, hx0⟩ : ∃ x, e.headD 0 = x := ⟨_, rfl⟩
 rw [hx0] at hxd ⊢
 have HXD := Lib.hid hxd
 obtain ⟨xs, hxs⟩ : ∃ xs, List.replicate d.length y = xs := ⟨_, rfl⟩
 have HXL : Hid (d.length = xs.length) := Lib.hid (by rw [← hxs]; simp)
 have HXG : Hid (∀ k, k < d.length → xs.getD k 0 = y) := Lib.hid fun k hk => by rw [← hxs]; exact rep_getD y hk
 rw [hxs]
 clear hr1 hr2 hf htk hst hs0 ht0 he1 hx0 hxd hxs
 have HS0 := Lib.hid hs.src; have HS1 := Lib.hid hd.src; have HS2 := Lib.hid ht.src; have HS3 := Lib.hid he.src
 obtain ⟨a0, c0, rfl, h01, h02, -, h04, -⟩ := hs
 obtain ⟨a1, c1, rfl, h11, h12, -, h14, hin⟩ := hd
 obtain ⟨a2, c2, rfl, h21, h22, -, h24, -⟩ := ht
 obtain ⟨a3, c3, rfl, h31, h32, -, h34, hie⟩ := he
 have h02' : c0 ≤ 9223372036854775807 := h02
 have h12' : c1 ≤ 9223372036854775807 := h12
 have h22' : c2 ≤ 9223372036854775807 := h22
 have h32' : c3 ≤ 9223372036854775807 := h32
 have HM : Hid (s.length ≤ maxLen) := Lib.hid (Nat.le_trans h01 h02)
 have HM2 : Hid (t.length ≤ maxLen) := Lib.hid (Nat.le_trans h21 h22)
 have H0 := Lib.hid h04; have H1 := Lib.hid h14; have HIN := Lib.hid hin
 have H2 := Lib.hid h24; have H3 := Lib.hid h34; have HIE := Lib.hid hie
 have HO := Lib.hid (Duo.mk0 w (.slice a0 s.length c0) (.slice a1 d.length c1) (.slice a2 t.length c2) (.slice a3 e.length c3))
 obtain ⟨r, HRR⟩ : ∃ r, Hid ((doneA (wrongP f (d.zip xs)) s (outP f (d.zip xs))) = r) := ⟨_, Lib.hid rfl⟩
 rw [HRR.out]
 clear h04 h14 h24 h34 h02 h12 h22 h32 hin hie
 go_enter Tryz.func98, Tryz.ntmps98
 go_upto_region 1 with fail
 refine gen_worldA (fun W => Duo w W (.slice a0 s.length c0) (.slice a1 d.length c1) (.slice a2 t.length c2) (.slice a3 e.length c3)) HO.out ?_
 rintro W1 hO
 have HO2 := Lib.hid hO
 have x0 := hO.c0; have x1 := hO.c1; have x2 := hO.c2; have x3 := hO.c3
 clear HO hO
 have hq := right_any W1 a0 a1 c0 c1 s d HM.out (H0.out.below HO2.out.b (Nat.le_refl _))
 rw [HR1.out] at hq
 have HQ := Lib.hid hq
 clear hq
 go_wp2_with fail
 refine HQ.out.mono ?_
 rintro e' W2 ⟨rfl, hb2⟩
 have HO3 := Lib.hid (HO2.out.next hb2)
 have hq := right_any W2 a2 a3 c2 c3 t e HM2.out (H2.out.below HO3.out.b (Nat.le_refl _))
 rw [HR2.out] at hq
 clear HQ x0 x1 x2 x3
 have HQ := Lib.hid hq
 have x2 := HO3.out.c2; have x3 := HO3.out.c3
 clear hq hb2 HO2
 go_wp2_with fail
 refine HQ.out.mono ?_
 rintro e' W3 ⟨rfl, hb3⟩
 have HO4 := Lib.hid (HO3.out.next hb3)
 clear HQ x2 x3 hb3 HO3
 have x0 := HO4.out.c0; have x1 := HO4.out.c1; have x2 := HO4.out.c2; have x3 := HO4.out.c3
 have HQ0 := Lib.hid (HT.out W3)
 go_wp2_with fail
 refine HQ0.out.mono ?_
 rintro e' W4 ⟨rfl, rfl⟩
 have HQ1 := Lib.hid (of_any W3 f)
 clear HQ0 HT g0 g1 g2 g3 x0 x1 x2 x3
 go_wp2_with fail
 refine HQ1.out.mono ?_
 rintro e' W5 ⟨rfl, hp5, hb5⟩
 have HO5 := Lib.hid (HO4.out.next hb5)
 have hP : w.heap.size ≤ W3.heap.size + 1 := by have := HO4.out.b.size; omega
 obtain ⟨P, hPe⟩ : ∃ P, W3.heap.size + 1 = P := ⟨_, rfl⟩
 obtain ⟨F, hFe⟩ : ∃ F, W3.heap.size = F := ⟨_, rfl⟩
 rw [hPe] at hp5 hP ⊢
 rw [hFe] at hp5
 have HPA := Lib.hid hp5; have hPw := Lib.hid hP
 clear HQ1 hp5 hb5 HO4 hPe hFe hP
 have x0 := HO5.out.c0; have x1 := HO5.out.c1; have x2 := HO5.out.c2; have x3 := HO5.out.c3
 have hq := equal_any W5 a0 a2 c0 c2 s t HM.out HM2.out (H0.out.below HO5.out.b (Nat.le_refl _)) (H2.out.below HO5.out.b (Nat.le_refl _))
 have HQ := Lib.hid hq
 clear hq
 go_wp2_with fail
 refine HQ.out.mono ?_
 rintro e' W6 ⟨rfl, n6, rfl⟩
 have HO6 := Lib.hid (HO5.out.next (Below.drewN W5 n6)); have HPB := Lib.hid (HPA.out.below (Below.drewN W5 n6))
 clear HQ HO5 HPA x0 x1 x2 x3
 obtain ⟨W7, hW7⟩ : ∃ W, W5.drewN n6 = W := ⟨_, rfl⟩
 rw [hW7] at HO6 HPB ⊢
 clear hW7
 have hints : ints s t = false := by unfold ints; exact decide_eq_false HST.out
 rw [hints]
 clear hints
 have x0 := HO6.out.c0; have x1 := HO6.out.c1; have x2 := HO6.out.c2
 go_wp2_with fail
 clear x0 x1 x2 hs1 ht1
 go_loopw [9, 124] (fun o i wr => ∃ k : Nat, k ≤ d.length ∧ i = .int .i64 k ∧ Duo w wr (.slice a0 s.length c0) (.slice a1 d.length c1) (.slice a2 t.length c2) (.slice a3 e.length c3) ∧
  PairAt wr P F f (wrongP f ((d.zip xs).take k)) ∧ RowI w.heap.size wr o (outP f ((d.zip xs).take k))) (fun _ i _ => d.length - (intOf i).toNat)
 case atStart => exact ⟨0, by omega, rfl, HO6.out, HPB.out, RowI.nil _ _⟩
 case round =>
  obtain ⟨k, hk, rfl, hO, hpa, hrw⟩ := hrel
  clear HO6 HPB
  have x0 := hO.c0; have x3 := hO.c3
  by_cases hlt : k < d.length
  ·have hz := zip_step HXL.out hlt
   rw [HXG.out k hlt] at hz
   obtain ⟨b3, o3, rfl, hc3⟩ := H3.out.atD hel
   rw [HXD.out, Nat.add_zero] at hc3
   obtain ⟨b1, o1, rfl, hc1⟩ := H1.out.atD hlt
   have hc1 := keepCell hO.b hc1; have hc3 := keepCell hO.b hc3
   have hx := In64.getD HIN.out hlt; have hy := In64.getD HIE.out hel
   rw [HXD.out] at hy
   have hke : (k : Int) < (d.length : Int) := by omega
   generalize d.getD k 0 = x at hz hc1 hx
   have hol : (outP f ((d.zip xs).take k)).length ≤ 65536 := by rw [outP_len, List.length_take]; omega
   have hO1 : outP f ((d.zip xs).take (k + 1)) = outP f ((d.zip xs).take k) ++ [callV f x y] := by rw [hz, outP_snoc]
   have hW1 : wrongP f ((d.zip xs).take (k + 1)) = nextE f x y (wrongP f ((d.zip xs).take k)) := by rw [hz, wrongP_snoc]
   have HOL := Lib.hid hol; have HO1 := Lib.hid hO1; have HW1 := Lib.hid hW1
   have hcl := call_any wr P F f _ x y hpa HTK.out hx hy
   have HC := Lib.hid hcl; have HOR := Lib.hid hO; have HPA := Lib.hid hpa; have HRW := Lib.hid hrw
   clear hz hol hO1 hW1 hcl hO hpa hrw hx hy x0
   generalize outP f ((d.zip xs).take k) = ou at HOL HO1 HRW ⊢
   generalize wrongP f ((d.zip xs).take k) = wg at HW1 HPA HC
   go_wp2_with fail
   refine HC.out.mono ?_
   rintro e' w5 ⟨rfl, hp5, hk5⟩
   have HO5 := Lib.hid (HOR.out.call HPA.out hPw.out hk5)
   have HV5 := Lib.hid (HRW.out.call HPA.out hk5)
   have HP5 := Lib.hid hp5
   have hba : Below w5.heap.size w5 (w5.alloc (.cells #[.int .i64 (callV f x y)] 2)) := (Below.refl _ _).alloc (Nat.le_refl _) _
   have HBA := Lib.hid hba; have HR6 := Lib.hid (HV5.out.below hba)
   have hsz := (HO5.out.next hba).b.size
   clear hp5 hk5 HC HOR HPA HRW hba x3 hc1 hc3
   go_wp2_with (at_builtin; refine wpList_app rfl _ _ rfl w.heap.size _ ou [callV f x y] _ 1 rfl rfl HR6.out rfl (src_one w5 (callV f x y) _ rfl) (by have := HOL.out; omega) hsz ?_)
   intro v' w9 hv9 hg9 hn9
   have hv9 : RowI w.heap.size w9 v' (ou ++ [callV f x y]) := hv9
   rw [← HO1.out] at hv9
   have HV9 := Lib.hid hv9
   have HO9 := Lib.hid (HO5.out.app HBA.out HR6.out hg9); have HP9 := Lib.hid (HP5.out.app HBA.out HR6.out hg9)
   rw [← HW1.out] at HP9
   clear hv9 hg9 hn9 HBA HR6 HO5 HV5 HP5 HO1 HW1 hsz
   go_wp2_with fail
   go_roundw
   case rel => exact ⟨k + 1, by omega, by go_num, HO9.out, HP9.out, HV9.out⟩
   case measure => simp [intOf] <;> omega
  ·obtain rfl : k = d.length := by omega
   have hall : (d.zip xs).take d.length = d.zip xs := List.take_of_length_le (by simp; omega)
   rw [hall] at hpa hrw
   have hcl := clone_any wr a0 c0 s (by omega) (H0.out.below hO.b (Nat.le_refl _))
   have HC := Lib.hid hcl; have HOR := Lib.hid hO; have HPA := Lib.hid hpa; have HRW := Lib.hid hrw
   obtain ⟨a9, c9, e9, -, -⟩ := hrw.slice
   subst e9
   clear hcl hO hpa hrw hlt hall
   go_wp2_with fail
   refine HC.out.mono ?_
   rintro e' w5 ⟨⟨v5, rfl, hv5⟩, hb5⟩
   have HO5 := Lib.hid (HOR.out.next hb5)
   have hap := (Apart.of_rows HRW.out hv5).symm
   have hq := done_any w5 w.heap.size P F f _ (HPA.out.below hb5) s _ v5 _ HO5.out.b.size (hv5.mono HOR.out.b.size) (HRW.out.below hb5) hap
   rw [HRR.out] at hq
   have HQ := Lib.hid hq; have HR := Lib.hid HO5.out.r; have HB := Lib.hid HO5.out.b
   obtain ⟨a8, c8, rfl, -, -⟩ := hv5.slice
   clear hq hv5 hb5 hap HC HOR HPA HRW
   go_wp2_with fail
   refine (Hid.out HQ).mono ?_
   rintro e w9 ⟨⟨v9, u9, rfl, hv9, hu9, hap9⟩, hb9⟩
   have hR9 := block_below (Hid.out HR) hb9
   have HV9 := Lib.hid hv9; have HU9 := Lib.hid hu9; have HAP9 := Lib.hid hap9; have HR9 := Lib.hid hR9
   have HB9 := Lib.hid (bNext hb9 (Hid.out HB))
   obtain ⟨a9, c9, rfl, -, -⟩ := RowI.slice hv9
   obtain ⟨a8, c8, rfl, -, -⟩ := RowI.slice hu9
   have g0 := cell_of_row w9 _ 0 _ _ _ hR9; have g1 := cell_of_row w9 _ 1 _ _ _ hR9
   have z0 := frozen_of_row w9 _ 0 _ _ hR9; have z1 := frozen_of_row w9 _ 1 _ _ hR9
   clear hv9 hu9 hap9 hb9 hR9
   go_wp2_with fail
   exact fin_arr rfl rfl rfl HR9.out HV9.out HU9.out HAP9.out HB9.out (by omega)
   done
end Go.Proofs.YtokghjnkfabgiaaGreatDoor

-- DROPS
namespace Go.Proofs.YtokghjnkfabgiaaGreatDoor
open Go.RowKit

theorem One.kb {w W W' : World} {v u : Value} {S : Nat → Prop} (h : One w W v u) (hk : KB S W W') (hS : ∀ g, S g → w.heap.size + 1 < g) : One w W' v u :=
 ⟨(hk.block _ (Array.getElem?_eq_some_iff.1 h.x).1 (fun e => by have := hS _ e; omega)).trans h.x, (hk.block _ (Array.getElem?_eq_some_iff.1 h.r).1 (fun e => by have := hS _ e; omega)).trans h.r,
  h.b.trans (hk.below h.b.size (fun g e => by have := hS _ e; omega))⟩
theorem RowR.kb {B : Nat} {w w' : World} {v : Value} {xss : List (List Int)} {S : Nat → Prop} (h : RowR B w v xss) (hk : KB S w w') (hS : ∀ g, S g → g < B) : RowR B w' v xss := by
 obtain ⟨vs, hown, hin⟩ := h
 refine ⟨vs, hk.row hown (fun g e hs => ?_), fun i hi => ?_⟩
 ·rcases hown.2 with ⟨h0, _⟩ | ⟨g', cap, cur, e2, hB, _⟩
  ·rw [h0] at e; cases e
  ·rw [e2] at e
   have e3 : g' = g := by injection e
   have := hS _ hs
   omega
 ·obtain ⟨u, hu, hr, hap⟩ := hin i hi
  exact ⟨u, hu, hk.row hr (fun g e hs => by have := hS _ hs; have := (hr.lt g e).1; omega), hap⟩
set_option maxHeartbeats 4000000 in
theorem pf_bad (w : World) (f : Int) (v u : Value) (s d : List Int) (hs : SlA w v s) (hd : SlA w u d) (hr : right s d = false) :
  Calls Tryz.prog 96 #[.int .u8 f, .agg #[v, u]] w fun e w' => RetArr w.heap.size (noA 60) e w' ∧ Below w.heap.size w w' := by
 obtain ⟨a0, c0, rfl, h01, h02, -, h04, -⟩ := hs
 obtain ⟨a1, c1, rfl, h11, h12, -, h14, hin⟩ := hd
 have h02' : c0 ≤ 9223372036854775807 := h02
 have h12' : c1 ≤ 9223372036854775807 := h12
 have HM : Hid (s.length ≤ maxLen) := Lib.hid (Nat.le_trans h01 h02)
 have HRT := Lib.hid hr; have H0 := Lib.hid h04; have H1 := Lib.hid h14; have HIN := Lib.hid hin
 have HO := Lib.hid (One.mk0 w (.slice a0 s.length c0) (.slice a1 d.length c1))
 obtain ⟨r, HRR⟩ : ∃ r, Hid ((noA 60) = r) := ⟨_, Lib.hid rfl⟩
 rw [HRR.out]
 clear hr h04 h14 h02 h12 hin
 go_enter Tryz.func96, Tryz.ntmps96
 go_upto_region 1 with fail
 refine gen_worldA (fun W => One w W (.slice a0 s.length c0) (.slice a1 d.length c1)) HO.out ?_
 rintro W hO
 have hq := right_any W a0 a1 c0 c1 s d HM.out (H0.out.below hO.b (Nat.le_refl _))
 rw [HRT.out] at hq
 have HQ := Lib.hid hq; have HO1 := Lib.hid hO
 have x0 := hO.c0; have x1 := hO.c1
 clear hq hO
 go_wp2_with fail
 refine HQ.out.mono ?_
 rintro e W1 ⟨rfl, hb1⟩
 have HO2 := Lib.hid (HO1.out.next hb1)
 have hq := fault_at W1 w.heap.size HO2.out.b.size 60 r HRR.out
 clear HQ
 have HQ := Lib.hid hq; have HR := Lib.hid HO2.out.r; have HB := Lib.hid HO2.out.b
 clear hq HO hb1 HO1 x0 x1
 go_wp2_with fail
 refine (Hid.out HQ).mono ?_
 rintro e w9 ⟨⟨v9, u9, rfl, hv9, hu9, hap9⟩, hb9⟩
 have hR9 := block_below (Hid.out HR) hb9
 have HV9 := Lib.hid hv9; have HU9 := Lib.hid hu9; have HAP9 := Lib.hid hap9; have HR9 := Lib.hid hR9
 have HB9 := Lib.hid (bNext hb9 (Hid.out HB))
 obtain ⟨a9, c9, rfl, -, -⟩ := RowI.slice hv9
 obtain ⟨a8, c8, rfl, -, -⟩ := RowI.slice hu9
 have g0 := cell_of_row w9 _ 0 _ _ _ hR9; have g1 := cell_of_row w9 _ 1 _ _ _ hR9
 have z0 := frozen_of_row w9 _ 0 _ _ hR9; have z1 := frozen_of_row w9 _ 1 _ _ hR9
 clear hv9 hu9 hap9 hb9 hR9
 go_wp2_with fail
 exact fin_arr rfl rfl rfl HR9.out HV9.out HU9.out HAP9.out HB9.out (by omega)
set_option maxHeartbeats 4000000 in
theorem pf_no (w : World) (f : Int) (v u : Value) (s d : List Int) (hs : SlA w v s) (hd : SlA w u d) (hr : right s d = true) (ht : takes f true = false) :
  Calls Tryz.prog 96 #[.int .u8 f, .agg #[v, u]] w fun e w' => RetArr w.heap.size (noA 70) e w' ∧ Below w.heap.size w w' := by
 have HT := Lib.hid (fun W => takes_at W f true false ht)
 clear ht
 obtain ⟨a0, c0, rfl, h01, h02, -, h04, -⟩ := hs
 obtain ⟨a1, c1, rfl, h11, h12, -, h14, hin⟩ := hd
 have h02' : c0 ≤ 9223372036854775807 := h02
 have h12' : c1 ≤ 9223372036854775807 := h12
 have HM : Hid (s.length ≤ maxLen) := Lib.hid (Nat.le_trans h01 h02)
 have HRT := Lib.hid hr; have H0 := Lib.hid h04; have H1 := Lib.hid h14; have HIN := Lib.hid hin
 have HO := Lib.hid (One.mk0 w (.slice a0 s.length c0) (.slice a1 d.length c1))
 obtain ⟨r, HRR⟩ : ∃ r, Hid ((noA 70) = r) := ⟨_, Lib.hid rfl⟩
 rw [HRR.out]
 clear hr h04 h14 h02 h12 hin
 go_enter Tryz.func96, Tryz.ntmps96
 go_upto_region 1 with fail
 refine gen_worldA (fun W => One w W (.slice a0 s.length c0) (.slice a1 d.length c1)) HO.out ?_
 rintro W hO
 have hq := right_any W a0 a1 c0 c1 s d HM.out (H0.out.below hO.b (Nat.le_refl _))
 rw [HRT.out] at hq
 have HQ := Lib.hid hq; have HO1 := Lib.hid hO
 have x0 := hO.c0; have x1 := hO.c1
 clear hq hO
 go_wp2_with fail
 refine HQ.out.mono ?_
 rintro e W1 ⟨rfl, hb1⟩
 have HO2 := Lib.hid (HO1.out.next hb1)
 clear x0 x1
 have x0 := HO2.out.c0; have x1 := HO2.out.c1
 clear hb1 HQ HO1
 have HQ0 := Lib.hid (HT.out W1)
 go_wp2_with fail
 refine HQ0.out.mono ?_
 rintro e W2 ⟨rfl, rfl⟩
 clear HQ0 HT HO
 have hq := fault_at W1 w.heap.size HO2.out.b.size 70 r HRR.out
 have HQ := Lib.hid hq; have HR := Lib.hid HO2.out.r; have HB := Lib.hid HO2.out.b
 clear hq
 go_wp2_with fail
 refine (Hid.out HQ).mono ?_
 rintro e w9 ⟨⟨v9, u9, rfl, hv9, hu9, hap9⟩, hb9⟩
 have hR9 := block_below (Hid.out HR) hb9
 have HV9 := Lib.hid hv9; have HU9 := Lib.hid hu9; have HAP9 := Lib.hid hap9; have HR9 := Lib.hid hR9
 have HB9 := Lib.hid (bNext hb9 (Hid.out HB))
 obtain ⟨a9, c9, rfl, -, -⟩ := RowI.slice hv9
 obtain ⟨a8, c8, rfl, -, -⟩ := RowI.slice hu9
 have g0 := cell_of_row w9 _ 0 _ _ _ hR9; have g1 := cell_of_row w9 _ 1 _ _ _ hR9
 have z0 := frozen_of_row w9 _ 0 _ _ hR9; have z1 := frozen_of_row w9 _ 1 _ _ hR9
 clear hv9 hu9 hap9 hb9 hR9
 go_wp2_with fail
 exact fin_arr rfl rfl rfl HR9.out HV9.out HU9.out HAP9.out HB9.out (by omega)
set_option maxHeartbeats 4000000 in
theorem pf_zero (w : World) (f : Int) (v u : Value) (s d : List Int) (hs : SlA w v s) (hd : SlA w u d) (hr : right s d = true) (ht : takes f true = true) (hs0 : s.length = 0) :
  Calls Tryz.prog 96 #[.int .u8 f, .agg #[v, u]] w fun e w' => RetArr w.heap.size (okA [] d) e w' ∧ Below w.heap.size w w' := by
 have HT := Lib.hid (fun W => takes_at W f true true ht)
 have hd6 := (right_good hr).2.le
 have hs1 : ((s.length : Int) == 0) = true := by rw [beq_iff_eq]; omega
 clear ht hs0
 obtain ⟨a0, c0, rfl, h01, h02, -, h04, -⟩ := hs
 obtain ⟨a1, c1, rfl, h11, h12, -, h14, hin⟩ := hd
 have h02' : c0 ≤ 9223372036854775807 := h02
 have h12' : c1 ≤ 9223372036854775807 := h12
 have HM : Hid (s.length ≤ maxLen) := Lib.hid (Nat.le_trans h01 h02)
 have HRT := Lib.hid hr; have H0 := Lib.hid h04; have H1 := Lib.hid h14; have HIN := Lib.hid hin
 have HO := Lib.hid (One.mk0 w (.slice a0 s.length c0) (.slice a1 d.length c1))
 obtain ⟨r, HRR⟩ : ∃ r, Hid ((okA [] d) = r) := ⟨_, Lib.hid rfl⟩
 rw [HRR.out]
 clear hr h04 h14 h02 h12 hin
 go_enter Tryz.func96, Tryz.ntmps96
 go_upto_region 1 with fail
 refine gen_worldA (fun W => One w W (.slice a0 s.length c0) (.slice a1 d.length c1)) HO.out ?_
 rintro W hO
 have hq := right_any W a0 a1 c0 c1 s d HM.out (H0.out.below hO.b (Nat.le_refl _))
 rw [HRT.out] at hq
 have HQ := Lib.hid hq; have HO1 := Lib.hid hO
 have x0 := hO.c0; have x1 := hO.c1
 clear hq hO
 go_wp2_with fail
 refine HQ.out.mono ?_
 rintro e W1 ⟨rfl, hb1⟩
 have HO2 := Lib.hid (HO1.out.next hb1)
 clear x0 x1
 have x0 := HO2.out.c0; have x1 := HO2.out.c1
 clear hb1 HQ HO1
 have HQ0 := Lib.hid (HT.out W1)
 go_wp2_with fail
 refine HQ0.out.mono ?_
 rintro e W2 ⟨rfl, rfl⟩
 clear HQ0 HT HO
 have hq := clone_any W1 a1 c1 d (by omega) (H1.out.below HO2.out.b (Nat.le_refl _))
 have HQ := Lib.hid hq
 clear hq
 go_wp2_with fail
 refine HQ.out.mono ?_
 rintro e W3 ⟨⟨v3, rfl, hv3⟩, hb3⟩
 have HO3 := Lib.hid (HO2.out.next hb3)
 have hv3 := hv3.mono HO2.out.b.size
 have hq := good_any W3 w.heap.size HO3.out.b.size none 0 0 [] d v3 rfl (by simp) (IntsAt.nil _ _ _) hv3
 rw [HRR.out] at hq
 clear HQ
 have HQ := Lib.hid hq; have HR := Lib.hid HO3.out.r; have HB := Lib.hid HO3.out.b
 obtain ⟨a9, c9, rfl, -, -⟩ := hv3.slice
 clear hq hv3 hb3 HO2 x0 x1
 go_wp2_with fail
 refine (Hid.out HQ).mono ?_
 rintro e w9 ⟨⟨v9, u9, rfl, hv9, hu9, hap9⟩, hb9⟩
 have hR9 := block_below (Hid.out HR) hb9
 have HV9 := Lib.hid hv9; have HU9 := Lib.hid hu9; have HAP9 := Lib.hid hap9; have HR9 := Lib.hid hR9
 have HB9 := Lib.hid (bNext hb9 (Hid.out HB))
 obtain ⟨a9, c9, rfl, -, -⟩ := RowI.slice hv9
 obtain ⟨a8, c8, rfl, -, -⟩ := RowI.slice hu9
 have g0 := cell_of_row w9 _ 0 _ _ _ hR9; have g1 := cell_of_row w9 _ 1 _ _ _ hR9
 have z0 := frozen_of_row w9 _ 0 _ _ hR9; have z1 := frozen_of_row w9 _ 1 _ _ hR9
 clear hv9 hu9 hap9 hb9 hR9
 go_wp2_with fail
 exact fin_arr rfl rfl rfl HR9.out HV9.out HU9.out HAP9.out HB9.out (by omega)
set_option maxHeartbeats 4000000 in
theorem pf_large (w : World) (f : Int) (v u : Value) (s d : List Int) (hs : SlA w v s) (hd : SlA w u d) (hr : right s d = true) (ht : takes f true = true) (hs0 : s.length ≠ 0) (her : (size s.dropLast).2 ≠ 0) :
  Calls Tryz.prog 96 #[.int .u8 f, .agg #[v, u]] w fun e w' => RetArr w.heap.size (noA 74) e w' ∧ Below w.heap.size w w' := by
 have HT := Lib.hid (fun W => takes_at W f true true ht)
 have hs4 := (right_good hr).2.len
 have hs1 : ((s.length : Int) == 0) = false := by rw [beq_eq_false_iff_ne]; omega
 have hsp : 0 < s.length := by omega
 obtain ⟨nz, er, hsz⟩ : ∃ nz er, size s.dropLast = (nz, er) := ⟨_, _, rfl⟩
 rw [hsz] at her
 have her' : (er != 0) = true := by simpa using her
 have HSZ := Lib.hid hsz
 clear ht hs0 her hsz
 obtain ⟨a0, c0, rfl, h01, h02, -, h04, -⟩ := hs
 obtain ⟨a1, c1, rfl, h11, h12, -, h14, hin⟩ := hd
 have h02' : c0 ≤ 9223372036854775807 := h02
 have h12' : c1 ≤ 9223372036854775807 := h12
 have HM : Hid (s.length ≤ maxLen) := Lib.hid (Nat.le_trans h01 h02)
 have HRT := Lib.hid hr; have H0 := Lib.hid h04; have H1 := Lib.hid h14; have HIN := Lib.hid hin
 have HO := Lib.hid (One.mk0 w (.slice a0 s.length c0) (.slice a1 d.length c1))
 obtain ⟨r, HRR⟩ : ∃ r, Hid ((noA 74) = r) := ⟨_, Lib.hid rfl⟩
 rw [HRR.out]
 clear hr h04 h14 h02 h12 hin
 go_enter Tryz.func96, Tryz.ntmps96
 go_upto_region 1 with fail
 refine gen_worldA (fun W => One w W (.slice a0 s.length c0) (.slice a1 d.length c1)) HO.out ?_
 rintro W hO
 have hq := right_any W a0 a1 c0 c1 s d HM.out (H0.out.below hO.b (Nat.le_refl _))
 rw [HRT.out] at hq
 have HQ := Lib.hid hq; have HO1 := Lib.hid hO
 have x0 := hO.c0; have x1 := hO.c1
 clear hq hO
 go_wp2_with fail
 refine HQ.out.mono ?_
 rintro e W1 ⟨rfl, hb1⟩
 have HO2 := Lib.hid (HO1.out.next hb1)
 clear x0 x1
 have x0 := HO2.out.c0; have x1 := HO2.out.c1
 clear hb1 HQ HO1
 have HQ0 := Lib.hid (HT.out W1)
 go_wp2_with fail
 refine HQ0.out.mono ?_
 rintro e W2 ⟨rfl, rfl⟩
 clear HQ0 HT HO
 have hsl : ∀ W, (Instr.sliceAt 42 (.slice a0 s.length c0) none (some (.int .i64 ((s.length : Int) - 1))) none).run Tryz.prog W = .ok (.slice (subA a0 c0 0) (s.length - 1) c0) W := fun W => by
  have := slice_hi W a0 s.length c0 .i64 ((s.length : Int) - 1) (by omega) (by omega)
  rwa [show ((s.length : Int) - 1).toNat = s.length - 1 from by omega] at this
 have hcut : IntsAt .i64 W1 (subA a0 c0 0) s.dropLast := by
  have := (H0.out.below HO2.out.b (Nat.le_refl _)).cut (l := 0) (n := s.length - 1) (m := c0) h01
  rwa [dropLast_take] at this
 have hdl : s.dropLast.length = s.length - 1 := by simp
 have hq := clone_n W1 (subA a0 c0 0) (s.length - 1) c0 s.dropLast hdl.symm (by omega) hcut
 have HQ := Lib.hid hq; have HDL := Lib.hid hdl
 generalize subA a0 c0 0 = a7 at hsl HQ
 clear hq hcut hdl
 go_wp2_with fail
 refine HQ.out.mono ?_
 rintro e W3 ⟨⟨v7, rfl, hv7⟩, hb3⟩
 have HO3 := Lib.hid (HO2.out.next hb3)
 have hv7 := hv7.mono HO2.out.b.size
 obtain ⟨a7', c7, e7, -, hi7⟩ := hv7.slice
 rw [HDL.out] at e7
 subst e7
 have hq := size_any W3 a7' c7 s.dropLast (by rw [HDL.out]; unfold maxLen; omega) hi7
 rw [HDL.out, HSZ.out] at hq
 clear HQ
 have HQ := Lib.hid hq; have HV7 := Lib.hid hv7
 clear hq hv7 hb3 hi7 HO2 x0 x1 hsl
 go_wp2_with fail
 refine HQ.out.mono ?_
 rintro e W4 ⟨rfl, hb4⟩
 have HO4 := Lib.hid (HO3.out.next hb4); have HV8 := Lib.hid (HV7.out.below hb4)
 have x0 := HO4.out.c0; have x1 := HO4.out.c1
 clear HQ HV7 hb4 HO3
 unfold two
 have hq := fault_at W4 w.heap.size HO4.out.b.size 74 r HRR.out
 have HQ := Lib.hid hq; have HR := Lib.hid HO4.out.r; have HB := Lib.hid HO4.out.b
 clear hq
 go_wp2_with fail
 refine (Hid.out HQ).mono ?_
 rintro e w9 ⟨⟨v9, u9, rfl, hv9, hu9, hap9⟩, hb9⟩
 have hR9 := block_below (Hid.out HR) hb9
 have HV9 := Lib.hid hv9; have HU9 := Lib.hid hu9; have HAP9 := Lib.hid hap9; have HR9 := Lib.hid hR9
 have HB9 := Lib.hid (bNext hb9 (Hid.out HB))
 obtain ⟨a9, c9, rfl, -, -⟩ := RowI.slice hv9
 obtain ⟨a8, c8, rfl, -, -⟩ := RowI.slice hu9
 have g0 := cell_of_row w9 _ 0 _ _ _ hR9; have g1 := cell_of_row w9 _ 1 _ _ _ hR9
 have z0 := frozen_of_row w9 _ 0 _ _ hR9; have z1 := frozen_of_row w9 _ 1 _ _ hR9
 clear hv9 hu9 hap9 hb9 hR9
 go_wp2_with fail
 exact fin_arr rfl rfl rfl HR9.out HV9.out HU9.out HAP9.out HB9.out (by omega)
set_option maxHeartbeats 8000000 in
theorem pf_unit (w : World) (f : Int) (v u : Value) (s d : List Int) (hs : SlA w v s) (hd : SlA w u d) (hr : right s d = true) (ht : takes f true = true) (hs0 : s.length ≠ 0) (n : Nat) (hn : n ≤ 65536) (hsz : size s.dropLast = ((n : Int), 0)) (hl0 : lastOf s = 0) :
  Calls Tryz.prog 96 #[.int .u8 f, .agg #[v, u]] w fun e w' => RetArr w.heap.size (okA s.dropLast (List.replicate n (unitF f).1)) e w' ∧ Below w.heap.size w w' := by
 have HT := Lib.hid (fun W => takes_at W f true true ht)
 have hs4 := (right_good hr).2.len
 have hs1 : ((s.length : Int) == 0) = false := by rw [beq_eq_false_iff_ne]; omega
 have hsp : 0 < s.length := by omega
 have HSZ := Lib.hid hsz
 have HLS := Lib.hid (last_getD hs0)
 have HL0 := Lib.hid hl0
 have HU := Lib.hid (fun W => unit_at W f (unitF f).1 (unitF f).2 rfl)
 generalize (unitF f).1 = un at HU
 generalize (unitF f).2 = ub at HU
 clear ht hs0 hsz hl0
 obtain ⟨a0, c0, rfl, h01, h02, -, h04, -⟩ := hs
 obtain ⟨a1, c1, rfl, h11, h12, -, h14, hin⟩ := hd
 have h02' : c0 ≤ 9223372036854775807 := h02
 have h12' : c1 ≤ 9223372036854775807 := h12
 have HM : Hid (s.length ≤ maxLen) := Lib.hid (Nat.le_trans h01 h02)
 have HRT := Lib.hid hr; have H0 := Lib.hid h04; have H1 := Lib.hid h14; have HIN := Lib.hid hin
 have HO := Lib.hid (One.mk0 w (.slice a0 s.length c0) (.slice a1 d.length c1))
 obtain ⟨r, HRR⟩ : ∃ r, Hid ((okA s.dropLast (List.replicate n un)) = r) := ⟨_, Lib.hid rfl⟩
 rw [HRR.out]
 clear hr h04 h14 h02 h12 hin
 go_enter Tryz.func96, Tryz.ntmps96
 go_upto_region 1 with fail
 refine gen_worldA (fun W => One w W (.slice a0 s.length c0) (.slice a1 d.length c1)) HO.out ?_
 rintro W hO
 have hq := right_any W a0 a1 c0 c1 s d HM.out (H0.out.below hO.b (Nat.le_refl _))
 rw [HRT.out] at hq
 have HQ := Lib.hid hq; have HO1 := Lib.hid hO
 have x0 := hO.c0; have x1 := hO.c1
 clear hq hO
 go_wp2_with fail
 refine HQ.out.mono ?_
 rintro e W1 ⟨rfl, hb1⟩
 have HO2 := Lib.hid (HO1.out.next hb1)
 clear x0 x1
 have x0 := HO2.out.c0; have x1 := HO2.out.c1
 clear hb1 HQ HO1
 have HQ0 := Lib.hid (HT.out W1)
 go_wp2_with fail
 refine HQ0.out.mono ?_
 rintro e W2 ⟨rfl, rfl⟩
 clear HQ0 HT HO
 have hsl : ∀ W, (Instr.sliceAt 42 (.slice a0 s.length c0) none (some (.int .i64 ((s.length : Int) - 1))) none).run Tryz.prog W = .ok (.slice (subA a0 c0 0) (s.length - 1) c0) W := fun W => by
  have := slice_hi W a0 s.length c0 .i64 ((s.length : Int) - 1) (by omega) (by omega)
  rwa [show ((s.length : Int) - 1).toNat = s.length - 1 from by omega] at this
 have hcut : IntsAt .i64 W1 (subA a0 c0 0) s.dropLast := by
  have := (H0.out.below HO2.out.b (Nat.le_refl _)).cut (l := 0) (n := s.length - 1) (m := c0) h01
  rwa [dropLast_take] at this
 have hdl : s.dropLast.length = s.length - 1 := by simp
 have hq := clone_n W1 (subA a0 c0 0) (s.length - 1) c0 s.dropLast hdl.symm (by omega) hcut
 have HQ := Lib.hid hq; have HDL := Lib.hid hdl
 generalize subA a0 c0 0 = a7 at hsl HQ
 clear hq hcut hdl
 go_wp2_with fail
 refine HQ.out.mono ?_
 rintro e W3 ⟨⟨v7, rfl, hv7⟩, hb3⟩
 have HO3 := Lib.hid (HO2.out.next hb3)
 have hv7 := hv7.mono HO2.out.b.size
 obtain ⟨a7', c7, e7, -, hi7⟩ := hv7.slice
 rw [HDL.out] at e7
 subst e7
 have hq := size_any W3 a7' c7 s.dropLast (by rw [HDL.out]; unfold maxLen; omega) hi7
 rw [HDL.out, HSZ.out] at hq
 clear HQ
 have HQ := Lib.hid hq; have HV7 := Lib.hid hv7
 clear hq hv7 hb3 hi7 HO2 x0 x1 hsl
 go_wp2_with fail
 refine HQ.out.mono ?_
 rintro e W4 ⟨rfl, hb4⟩
 have HO4 := Lib.hid (HO3.out.next hb4); have HV8 := Lib.hid (HV7.out.below hb4)
 have x0 := HO4.out.c0; have x1 := HO4.out.c1
 clear HQ HV7 hb4 HO3
 unfold two
 have HQ1 := Lib.hid (of_any W4 f)
 go_wp2_with fail
 refine HQ1.out.mono ?_
 rintro e W5 ⟨rfl, hp5, hb5⟩
 have HO5 := Lib.hid (HO4.out.next hb5); have HV9 := Lib.hid (HV8.out.below hb5)
 have hP : w.heap.size + 1 < W4.heap.size + 1 := by have := HO4.out.lt; omega
 obtain ⟨P, hPe⟩ : ∃ P, W4.heap.size + 1 = P := ⟨_, rfl⟩
 obtain ⟨F, hFe⟩ : ∃ F, W4.heap.size = F := ⟨_, rfl⟩
 rw [hPe] at hp5 hP ⊢
 rw [hFe] at hp5
 have HPA := Lib.hid hp5
 have HVP : Hid (∀ g, (Value.slice a7' (s.length - 1) c7).ownBlock = some g → g < P) := Lib.hid fun g e => by have := (HV8.out.lt g e).2; omega
 have hsz5 := HO5.out.b.size
 clear HQ1 hp5 hb5 HO4 HV8 hPe hFe x0 x1
 obtain ⟨i0, hi, hz0, hz1, hz2⟩ := info_parts Tryz.info2
 have Hi := Lib.hid hi; have Hz0 := Lib.hid hz0; have Hz1 := Lib.hid hz1; have Hz2 := Lib.hid hz2; clear hi hz0 hz1 hz2
 have x0 := HO5.out.c0
 go_wp2_with (at_make; refine wpList_make_full _ rfl _ _ 42 rfl w.heap.size 2 i0 (.int .i64 0) 1 Tryz.underlying42 Hi.out Hz0.out Hz1.out _ _ _ _ n rfl rfl rfl rfl ?c2 ?c3 ?c4 ?_)
 case c2 => rw [Hz2.out]; omega
 case c3 => unfold maxLen; omega
 case c4 => exact hsz5
 intro W6 hown hgrow
 have hb6 : Below W5.heap.size W5 W6 := (Below.refl _ _).grown hgrow (Nat.le_refl _) (by simp)
 have HO6 := Lib.hid (HO5.out.next hb6)
 have HROW := Lib.hid (made_ints hown)
 have HPB := Lib.hid (HPA.out.below hb6); have HVA := Lib.hid (HV9.out.below hb6)
 have hPG : P < W5.heap.size := HPA.out.lt
 obtain ⟨G, hG⟩ : ∃ G, W5.heap.size = G := ⟨_, rfl⟩
 rw [hG] at HROW hPG ⊢
 have hGW : G < W6.heap.size := by have := (Array.getElem?_eq_some_iff.1 (own_typed HROW.out rfl).choose_spec).1; exact this
 clear hown hgrow HO5 hb6 HPA HV9 hG x0 hsz5
 have x0 := HO6.out.c0
 obtain ⟨b0, o0, rfl, hcl⟩ := H0.out.atD (k := s.length - 1) (by omega)
 rw [HLS.out] at hcl
 have hcl := keepCell HO6.out.b hcl
 have els : (s.length : Int) - 1 = ((s.length - 1 : Nat) : Int) := by omega
 obtain ⟨sl, hsl⟩ : ∃ sl, s.length - 1 = sl := ⟨_, rfl⟩
 rw [hsl] at hcl els HVA HVP ⊢
 have hsl0 : (sl : Int) < (s.length : Int) := by omega
 have HSLE := Lib.hid hsl
 clear hsl
 rw [HL0.out] at hcl
 have HQU := Lib.hid (HU.out W6)
 go_wp2_with fail
 refine HQU.out.mono ?_
 rintro e W7 ⟨rfl, n7, rfl⟩
 have HO7 := Lib.hid (HO6.out.next (Below.drewN W6 n7)); have HPC := Lib.hid (HPB.out.below (Below.drewN W6 n7)); have HVB := Lib.hid (HVA.out.below (Below.drewN W6 n7)); have HRW := Lib.hid (HROW.out.drewN n7)
 clear HQU HO6 HPB HVA HROW hcl x0 els hsl0
 go_wp2_with fail
 go_loopw [78] (fun i wr => ∃ k : Nat, k ≤ n ∧ i = .int .i64 k ∧ One w wr (.slice (some ⟨b0, o0, none⟩) s.length c0) (.slice a1 d.length c1) ∧ PairAt wr P F f 0 ∧ RowI w.heap.size wr (.slice a7' sl c7) s.dropLast ∧
  RowI w.heap.size wr (.slice (some ⟨G, 0, none⟩) n n) ((List.range k).map (fun _ => un) ++ List.replicate (n - k) 0)) (fun i _ => n - (intOf i).toNat)
 case atStart => exact ⟨0, by omega, rfl, HO7.out, HPC.out, HVB.out, by simpa using HRW.out⟩
 case round =>
  obtain ⟨k, hk, rfl, hO, hpa, hv, hrw⟩ := hrel
  clear HO7 HPC HVB HRW
  by_cases hlt : k < n
  ·have hf := hrw.fr k
   have hcc := hrw.at (k := k) (by rw [rep_len _ (by omega)]; exact hlt)
   have hset := hrw.set k un
   rw [rep_step (fun _ => un) hlt] at hset
   have hkb : KB (fun g => g = G) wr (wr.setCell ⟨G, k, none⟩ (.int .i64 un)) := (KB.refl (fun g => g = G) wr).setCell (p := ⟨G, k, none⟩) (fun _ => rfl) _
   have HS := Lib.hid hset; have HOS := Lib.hid (hO.kb hkb (fun g e => by rw [e]; omega))
   have HPS : Hid (PairAt (wr.setCell ⟨G, k, none⟩ (.int .i64 un)) P F f 0) := Lib.hid ⟨block_other hpa.p (by show G ≠ P; omega) _, block_other hpa.f (fun e => by
    have h1 := hpa.f
    obtain ⟨cur, h2⟩ := own_typed hrw rfl
    rw [← show G = F from e, h2] at h1
    simp at h1) _⟩
   have HVS := Lib.hid (own_other hv (p := ⟨G, k, none⟩) (fun g e => by have := HVP.out g e; show g ≠ G; omega) (.int .i64 un))
   clear hrw hO hset hkb hpa hv
   go_wp2_with fail
   go_roundw
   case rel => exact ⟨k + 1, by omega, by go_num, HOS.out, HPS.out, HVS.out, HS.out⟩
   case measure => simp [intOf]; omega
  ·obtain rfl : k = n := by omega
   have hrep : (List.range k).map (fun _ => un) = List.replicate k un := by
    apply List.ext_getElem
    ·simp
    ·intro i h1 h2; simp
   rw [Nat.sub_self, List.replicate_zero, List.append_nil, hrep] at hrw
   have hap : Apart (.slice a7' sl c7) (.slice (some ⟨G, 0, none⟩) k k) := by
    cases hq : (Value.slice a7' sl c7).ownBlock with
    | none => exact .inl hq
    | some g => exact .inr (fun e => by
      have h1 := HVP.out g hq
      rw [hq] at e
      have h2 : g = G := by injection e
      omega)
   have hq := done_any wr w.heap.size P F f 0 hpa s.dropLast (List.replicate k un) _ _ hO.b.size hv hrw hap
   rw [show doneA 0 s.dropLast (List.replicate k un) = r from HRR.out] at hq
   have HQ := Lib.hid hq; have HR := Lib.hid hO.r; have HB := Lib.hid hO.b
   clear hq hO hrw hlt hpa hv hap hrep
   go_wp2_with fail
   refine (Hid.out HQ).mono ?_
   rintro e w9 ⟨⟨v9, u9, rfl, hv9, hu9, hap9⟩, hb9⟩
   have hR9 := block_below (Hid.out HR) hb9
   have HV9 := Lib.hid hv9; have HU9 := Lib.hid hu9; have HAP9 := Lib.hid hap9; have HR9 := Lib.hid hR9
   have HB9 := Lib.hid (bNext hb9 (Hid.out HB))
   obtain ⟨a9, c9, rfl, -, -⟩ := RowI.slice hv9
   obtain ⟨a8, c8, rfl, -, -⟩ := RowI.slice hu9
   have g0 := cell_of_row w9 _ 0 _ _ _ hR9; have g1 := cell_of_row w9 _ 1 _ _ _ hR9
   have z0 := frozen_of_row w9 _ 0 _ _ hR9; have z1 := frozen_of_row w9 _ 1 _ _ hR9
   clear hv9 hu9 hap9 hb9 hR9
   go_wp2_with fail
   exact fin_arr rfl rfl rfl HR9.out HV9.out HU9.out HAP9.out HB9.out (by omega)
end Go.Proofs.YtokghjnkfabgiaaGreatDoor

-- DROPS
namespace Go.Proofs.YtokghjnkfabgiaaGreatDoor
open Go.RowKit

theorem PairAt.put {B P F G n c k : Nat} {w : World} {f wg : Int} {xs : List Int} {z : Value} (h : PairAt w P F f wg) (hr : RowI B w (.slice (some ⟨G, 0, none⟩) n c) xs) : PairAt (w.setCell ⟨G, k, none⟩ z) P F f wg := by
 obtain ⟨cur, hc⟩ := own_typed hr rfl
 exact ⟨KeepTy.setCell (p := ⟨G, k, none⟩) (NotTy.of hc (by decide)) _ _ _ h.p, KeepTy.setCell (p := ⟨G, k, none⟩) (NotTy.of hc (by decide)) _ _ _ h.f⟩
def outFB (f : Int) (lx : List (List Int)) (n k : Nat) : List Int := (List.range k).map (fun i => laneV f (lx.getD i []) (lx.getD i []).length) ++ List.replicate (n - k) 0
theorem outF_len {f : Int} {lx : List (List Int)} {n k : Nat} (h : k ≤ n) : (outFB f lx n k).length = n := rep_len _ h
theorem outF_step {f : Int} {lx : List (List Int)} {n k : Nat} (h : k < n) : (outFB f lx n k).set k (laneV f (lx.getD k []) (lx.getD k []).length) = outFB f lx n (k + 1) := rep_step (fun i => laneV f (lx.getD i []) (lx.getD i []).length) h
theorem outF_all (f : Int) {lx : List (List Int)} {n : Nat} (h : lx.length = n) : outFB f lx n n = lx.map fun l => (laneL f l).1.getLastD 0 := by
 unfold outFB
 rw [Nat.sub_self, List.replicate_zero, List.append_nil]
 apply List.ext_getElem
 ·simp [h]
 ·intro i h1 h2
  have hi : i < lx.length := by simpa [h] using h1
  simp only [List.getElem_map, List.getElem_range]
  rw [List.getD_eq_getElem?_getD, List.getElem?_eq_getElem hi]
  exact (laneV_all f _).1
theorem outF_zero (f : Int) (lx : List (List Int)) (n : Nat) : outFB f lx n 0 = List.replicate n 0 := by simp [outFB]
theorem tail_getD {l : List Int} {j : Nat} : (l.drop 1).getD j 0 = l.getD (j + 1) 0 := by
 rw [List.getD_eq_getElem?_getD, List.getD_eq_getElem?_getD, List.getElem?_drop, Nat.add_comm]
set_option maxHeartbeats 8000000 in
theorem pf_lanes (w : World) (f : Int) (v u : Value) (s d : List Int) (hs : SlA w v s) (hd : SlA w u d) (hr : right s d = true) (ht : takes f true = true) (hs0 : s.length ≠ 0) (n : Nat) (hn : n ≤ 65536) (hsz : size s.dropLast = ((n : Int), 0)) (hl0 : lastOf s ≠ 0)
  (lx : List (List Int)) (hl : LaneF s d lx) (hln : lx.length = n) :
  Calls Tryz.prog 96 #[.int .u8 f, .agg #[v, u]] w fun e w' => RetArr w.heap.size (foldL f s.dropLast lx) e w' ∧ Below w.heap.size w w' := by
 have HT := Lib.hid (fun W => takes_at W f true true ht)
 have HTK := Lib.hid ht
 have hs4 := (right_good hr).2.len
 have hs1 : ((s.length : Int) == 0) = false := by rw [beq_eq_false_iff_ne]; omega
 have hsp : 0 < s.length := by omega
 have HSZ := Lib.hid hsz
 have HLS := Lib.hid (last_getD hs0)
 have hla : (lastOf s == 0) = false := by rw [beq_eq_false_iff_ne]; exact hl0
 have HLX := Lib.hid hl; have HLN := Lib.hid hln
 have hdi : ∀ x ∈ d, In64 x := by obtain ⟨_, _, _, _, _, _, _, h⟩ := hd; exact h
 have HLI := Lib.hid (lanes_in hl.flat hdi)
 generalize lastOf s = la at hla HLS
 clear ht hs0 hsz hl0 hl hln hdi
 obtain ⟨a0, c0, rfl, h01, h02, -, h04, -⟩ := hs
 obtain ⟨a1, c1, rfl, h11, h12, -, h14, hin⟩ := hd
 have h02' : c0 ≤ 9223372036854775807 := h02
 have h12' : c1 ≤ 9223372036854775807 := h12
 have HM : Hid (s.length ≤ maxLen) := Lib.hid (Nat.le_trans h01 h02)
 have HRT := Lib.hid hr; have H0 := Lib.hid h04; have H1 := Lib.hid h14; have HIN := Lib.hid hin
 have HO := Lib.hid (One.mk0 w (.slice a0 s.length c0) (.slice a1 d.length c1))
 obtain ⟨r, HRR⟩ : ∃ r, Hid ((foldL f s.dropLast lx) = r) := ⟨_, Lib.hid rfl⟩
 rw [HRR.out]
 clear hr h04 h14 h02 h12 hin
 go_enter Tryz.func96, Tryz.ntmps96
 go_upto_region 1 with fail
 refine gen_worldA (fun W => One w W (.slice a0 s.length c0) (.slice a1 d.length c1)) HO.out ?_
 rintro W hO
 have hq := right_any W a0 a1 c0 c1 s d HM.out (H0.out.below hO.b (Nat.le_refl _))
 rw [HRT.out] at hq
 have HQ := Lib.hid hq; have HO1 := Lib.hid hO
 have x0 := hO.c0; have x1 := hO.c1
 clear hq hO
 go_wp2_with fail
 refine HQ.out.mono ?_
 rintro e W1 ⟨rfl, hb1⟩
 have HO2 := Lib.hid (HO1.out.next hb1)
 clear x0 x1
 have x0 := HO2.out.c0; have x1 := HO2.out.c1
 clear hb1 HQ HO1
 have HQ0 := Lib.hid (HT.out W1)
 go_wp2_with fail
 refine HQ0.out.mono ?_
 rintro e W2 ⟨rfl, rfl⟩
 clear HQ0 HT HO
 have hsl : ∀ W, (Instr.sliceAt 42 (.slice a0 s.length c0) none (some (.int .i64 ((s.length : Int) - 1))) none).run Tryz.prog W = .ok (.slice (subA a0 c0 0) (s.length - 1) c0) W := fun W => by
  have := slice_hi W a0 s.length c0 .i64 ((s.length : Int) - 1) (by omega) (by omega)
  rwa [show ((s.length : Int) - 1).toNat = s.length - 1 from by omega] at this
 have hcut : IntsAt .i64 W1 (subA a0 c0 0) s.dropLast := by
  have := (H0.out.below HO2.out.b (Nat.le_refl _)).cut (l := 0) (n := s.length - 1) (m := c0) h01
  rwa [dropLast_take] at this
 have hdl : s.dropLast.length = s.length - 1 := by simp
 have hq := clone_n W1 (subA a0 c0 0) (s.length - 1) c0 s.dropLast hdl.symm (by omega) hcut
 have HQ := Lib.hid hq; have HDL := Lib.hid hdl
 generalize subA a0 c0 0 = a7 at hsl HQ
 clear hq hcut hdl
 go_wp2_with fail
 refine HQ.out.mono ?_
 rintro e W3 ⟨⟨v7, rfl, hv7⟩, hb3⟩
 have HO3 := Lib.hid (HO2.out.next hb3)
 have hv7 := hv7.mono HO2.out.b.size
 obtain ⟨a7', c7, e7, -, hi7⟩ := hv7.slice
 rw [HDL.out] at e7
 subst e7
 have hq := size_any W3 a7' c7 s.dropLast (by rw [HDL.out]; unfold maxLen; omega) hi7
 rw [HDL.out, HSZ.out] at hq
 clear HQ
 have HQ := Lib.hid hq; have HV7 := Lib.hid hv7
 clear hq hv7 hb3 hi7 HO2 x0 x1 hsl
 go_wp2_with fail
 refine HQ.out.mono ?_
 rintro e W4 ⟨rfl, hb4⟩
 have HO4 := Lib.hid (HO3.out.next hb4); have HV8 := Lib.hid (HV7.out.below hb4)
 have x0 := HO4.out.c0; have x1 := HO4.out.c1
 clear HQ HV7 hb4 HO3
 unfold two
 have HQ1 := Lib.hid (of_any W4 f)
 go_wp2_with fail
 refine HQ1.out.mono ?_
 rintro e W5 ⟨rfl, hp5, hb5⟩
 have HO5 := Lib.hid (HO4.out.next hb5); have HV9 := Lib.hid (HV8.out.below hb5)
 have hP : w.heap.size + 1 < W4.heap.size + 1 := by have := HO4.out.lt; omega
 obtain ⟨P, hPe⟩ : ∃ P, W4.heap.size + 1 = P := ⟨_, rfl⟩
 obtain ⟨F, hFe⟩ : ∃ F, W4.heap.size = F := ⟨_, rfl⟩
 rw [hPe] at hp5 hP ⊢
 rw [hFe] at hp5
 have HPA := Lib.hid hp5
 have HVP : Hid (∀ g, (Value.slice a7' (s.length - 1) c7).ownBlock = some g → g < P) := Lib.hid fun g e => by have := (HV8.out.lt g e).2; omega
 have hsz5 := HO5.out.b.size
 clear HQ1 hp5 hb5 HO4 HV8 hPe hFe x0 x1
 obtain ⟨i0, hi, hz0, hz1, hz2⟩ := info_parts Tryz.info2
 have Hi := Lib.hid hi; have Hz0 := Lib.hid hz0; have Hz1 := Lib.hid hz1; have Hz2 := Lib.hid hz2; clear hi hz0 hz1 hz2
 have x0 := HO5.out.c0
 go_wp2_with (at_make; refine wpList_make_full _ rfl _ _ 42 rfl w.heap.size 2 i0 (.int .i64 0) 1 Tryz.underlying42 Hi.out Hz0.out Hz1.out _ _ _ _ n rfl rfl rfl rfl ?c2 ?c3 ?c4 ?_)
 case c2 => rw [Hz2.out]; omega
 case c3 => unfold maxLen; omega
 case c4 => exact hsz5
 intro W6 hown hgrow
 have hb6 : Below W5.heap.size W5 W6 := (Below.refl _ _).grown hgrow (Nat.le_refl _) (by simp)
 have HO6 := Lib.hid (HO5.out.next hb6)
 have HROW := Lib.hid (made_ints hown)
 have HPB := Lib.hid (HPA.out.below hb6); have HVA := Lib.hid (HV9.out.below hb6)
 have hPG : P < W5.heap.size := HPA.out.lt
 obtain ⟨G, hG⟩ : ∃ G, W5.heap.size = G := ⟨_, rfl⟩
 rw [hG] at HROW hPG ⊢
 have hGW : G < W6.heap.size := by have := (Array.getElem?_eq_some_iff.1 (own_typed HROW.out rfl).choose_spec).1; exact this
 clear hown hgrow HO5 hb6 HPA HV9 hG x0 hsz5
 have x0 := HO6.out.c0
 obtain ⟨b0, o0, rfl, hcl⟩ := H0.out.atD (k := s.length - 1) (by omega)
 rw [HLS.out] at hcl
 have hcl := keepCell HO6.out.b hcl
 have els : (s.length : Int) - 1 = ((s.length - 1 : Nat) : Int) := by omega
 obtain ⟨sl, hsl⟩ : ∃ sl, s.length - 1 = sl := ⟨_, rfl⟩
 rw [hsl] at hcl els HVA HVP ⊢
 have hsl0 : (sl : Int) < (s.length : Int) := by omega
 have HSLE := Lib.hid hsl
 clear hsl
 have x1 := HO6.out.c1
 have hq := lanes_any W6 (some ⟨b0, o0, none⟩) a1 c0 c1 s d HM.out h11 (H0.out.below HO6.out.b (Nat.le_refl _)) (H1.out.below HO6.out.b (Nat.le_refl _))
 rw [HLX.out.eq] at hq
 have HQ := Lib.hid hq
 clear hq
 go_wp2_with fail
 refine HQ.out.mono ?_
 rintro e W8 ⟨⟨v15, rfl, hv15⟩, hb8⟩
 obtain ⟨a15, c15, e15, hlm, hfo⟩ := hv15.form
 rw [HLN.out] at e15 hfo
 subst e15
 have HO8 := Lib.hid (HO6.out.next hb8); have HP8 := Lib.hid (HPB.out.below hb8); have HV8 := Lib.hid (HVA.out.below hb8); have HG8 := Lib.hid (HROW.out.below hb8); have HR8 := Lib.hid hv15; have HFO := Lib.hid hfo
 obtain ⟨B8, hB8⟩ : ∃ B, W6.heap.size = B := ⟨_, rfl⟩
 rw [hB8] at HR8 HFO hGW
 have hB8w : w.heap.size ≤ B8 := hB8 ▸ HO6.out.b.size
 clear HQ hv15 hb8 hlm hfo HO6 HPB HVA HROW hcl x0 x1 els hsl0 hB8
 have HSK : Hid (∀ g, (g = G ∨ g = P) → w.heap.size + 1 < g) := Lib.hid fun g e => by omega
 have HSB : Hid (∀ g, (g = G ∨ g = P) → g < B8) := Lib.hid fun g e => by omega
 go_wp2_with fail
 go_loopw [99] (fun i wr => ∃ k : Nat, k ≤ n ∧ i = .int .i64 k ∧ KB (fun g => g = G ∨ g = P) W8 wr ∧ PairAt wr P F f (wgB (badL f (lx.take k))) ∧ RowI w.heap.size wr (.slice (some ⟨G, 0, none⟩) n n) (outFB f lx n k)) (fun i _ => n - (intOf i).toNat)
 case atStart => exact ⟨0, by omega, rfl, KB.refl _ _, by simpa [badL, wgB] using HP8.out, by rw [outF_zero]; exact HG8.out⟩
 case round =>
  obtain ⟨k, hk, rfl, hkb, hpa, hrw⟩ := hrel
  clear HP8 HG8
  by_cases hlt : k < n
  ·have hkx : k < lx.length := by rw [HLN.out]; exact hlt
   obtain ⟨g15, rfl, hg15⟩ := HFO.out (by omega)
   obtain ⟨u18, hc18, hr18, -⟩ := (HR8.out.kb hkb HSB.out).get hkx
   have hlk0 := HLX.out.ne _ (List.getElem_mem hkx)
   have hlki := HLI.out _ (List.getElem_mem hkx)
   have hbs := badL_succ f hkx
   have hgd : lx.getD k [] = lx[k] := by rw [List.getD_eq_getElem?_getD, List.getElem?_eq_getElem hkx]; rfl
   have hfs := outF_step (f := f) (lx := lx) hlt
   rw [hgd] at hfs
   generalize lx[k] = lk at hr18 hlk0 hlki hbs hfs
   obtain ⟨g18, c18, e18, hg18, -⟩ := hr18.form hlk0
   obtain ⟨m, hm⟩ : ∃ m, lk.length = m := ⟨_, rfl⟩
   rw [hm] at e18 hlk0
   subst e18
   have hcap : m ≤ c18 := by
    rcases hr18.2 with ⟨h0, _⟩ | ⟨_, _, _, h0, _, _, h1, _⟩
    ·cases h0
    ·simp only [Value.slice.injEq] at h0; omega
   have hm63 : m ≤ 9223372036854775807 := by
    obtain ⟨_, _, _, h, _⟩ := hr18.slice
    rw [hm] at h; exact h
   have h0c := hr18.at (k := 0) (by rw [hm]; exact hlk0)
   have hf0 := hrw.fr k
   have hgc := hrw.at (k := k) (by rw [outF_len (by omega)]; exact hlt)
   have hset := hrw.set k (lk.getD 0 0)
   obtain ⟨hv1, hb1⟩ := laneV_one f (l := lk) (by rw [hm]; exact hlk0)
   rw [← hv1] at hset h0c
   have HLV := Lib.hid (laneV_in f hlki)
   have HST := Lib.hid (fun j h1 h2 => laneV_step f (l := lk) (j := j) h1 h2)
   have HLD := Lib.hid (fun j => getD_in64 hlki j)
   have HRT18 := Lib.hid hr18.ints
   have hr18k := fun wi (h : KB (fun g => g = G ∨ g = P) wr wi) => h.row hr18 (fun g e hs => by
    have h1 := (hr18.lt g e).1
    have h2 := HSB.out g hs
    omega)
   have HRK : Hid (∀ wi, KB (fun g => g = G ∨ g = P) wr wi → IntsAt .i64 wi (subA (some ⟨g18, 0, none⟩) c18 1) (lk.drop 1)) := Lib.hid fun wi h => by
    have h2 : RowI B8 wi (.slice (some ⟨g18, 0, none⟩) m c18) lk := hr18k wi h
    have := h2.ints.cut (l := 1) (n := lk.length) (m := c18) (by rw [hm]; exact hcap)
    rwa [List.take_of_length_le (by simp)] at this
   have hsl : ∀ W, (Instr.sliceAt 42 (.slice (some ⟨g18, 0, none⟩) m c18) (some (.int .i64 1)) none none).run Tryz.prog W = .ok (.slice (subA (some ⟨g18, 0, none⟩) c18 1) (m - 1) (c18 - 1)) W := fun W => slice_lo W (some ⟨g18, 0, none⟩) m c18 .i64 1 (by omega) (by omega)
   generalize subA (some ⟨g18, 0, none⟩) c18 1 = at1 at HRK hsl
   have HPA1 : Hid (PairAt (wr.setCell ⟨G, k, none⟩ (.int .i64 (laneV f lk 1))) P F f (wgB (badL f (lx.take k) || laneB f lk 1))) := Lib.hid (by rw [hb1, Bool.or_false]; exact hpa.put hrw)
   have HSET := Lib.hid hset; have HKB := Lib.hid hkb
   have HKB1 : Hid (KB (fun g => g = G ∨ g = P) wr (wr.setCell ⟨G, k, none⟩ (.int .i64 (laneV f lk 1)))) := Lib.hid ((KB.refl (fun g => g = G ∨ g = P) wr).setCell (p := ⟨G, k, none⟩) (fun _ => .inl rfl) _)
   have HBS := Lib.hid hbs; have HFS := Lib.hid hfs; have HM1 := Lib.hid hm
   have HOL := Lib.hid (outF_len (f := f) (lx := lx) hk)
   have hm0 : (0 : Int) < (m : Int) := by omega
   obtain ⟨y1, hy1⟩ : ∃ y, laneV f lk 1 = y := ⟨_, rfl⟩
   rw [hy1] at h0c
   have HY1 := Lib.hid hy1
   clear hkb hpa hrw hr18 hlki hbs hgd hfs hset hv1 hb1 hr18k hkx hm hy1
   go_wp2_with fail
   rw [← HY1.out]
   go_loopw [113] (fun i wi => ∃ j : Nat, j + 1 ≤ m ∧ i = .int .i64 j ∧ KB (fun g => g = G ∨ g = P) wr wi ∧ PairAt wi P F f (wgB (badL f (lx.take k) || laneB f lk (j + 1))) ∧
    RowI w.heap.size wi (.slice (some ⟨G, 0, none⟩) n n) ((outFB f lx n k).set k (laneV f lk (j + 1)))) (fun i _ => m - (intOf i).toNat)
   case atStart => exact ⟨0, by omega, rfl, HKB1.out, HPA1.out, HSET.out⟩
   case round =>
    obtain ⟨j, hj, rfl, hki, hpa, hrw⟩ := hrel
    clear HKB1 HPA1 HSET h0c hf0 hgc
    have hkl : k < (outFB f lx n k).length := by rw [HOL.out]; exact hlt
    by_cases hjm : j + 1 < m
    ·obtain ⟨bt, ot, rfl, hct⟩ := (HRK.out _ hki).atD (k := j) (by have := HM1.out; simp; omega)
     rw [tail_getD] at hct
     obtain ⟨sv, sb⟩ := HST.out (j + 1) (by omega) (by rw [HM1.out]; omega)
     have hv64 := HLV.out (j + 1) (by omega) (by rw [HM1.out]; omega)
     have hx64 := HLD.out (j + 1)
     have hf0 := hrw.fr k
     have hgc := hrw.at (k := k) (by rw [List.length_set]; exact hkl)
     rw [getD_set, if_pos ⟨rfl, hkl⟩] at hgc
     have hjI : (j : Int) < ((m - 1 : Nat) : Int) := by omega
     generalize lk.getD (j + 1) 0 = x at hct sv sb hx64
     generalize laneV f lk (j + 1) = y at hgc sv sb hv64 hrw
     have hq := call_any _ P F f _ y x hpa HTK.out hv64 hx64
     rw [nextE_wg, Bool.or_assoc, ← sb] at hq
     have HQ := Lib.hid hq; have HSV := Lib.hid sv; have HPA := Lib.hid hpa; have HRW := Lib.hid hrw; have HKI := Lib.hid hki
     clear hq sv sb hpa hrw hki hv64 hx64
     go_wp2_with fail
     refine HQ.out.mono ?_
     rintro e w5 ⟨rfl, hp5, hk5⟩
     have hr5 := HRW.out.call HPA.out hk5
     have hf5 := hr5.fr k
     have hg5 := hr5.at (k := k) (by rw [List.length_set]; exact hkl)
     have hs5 := hr5.set k (callV f y x)
     rw [List.set_set, ← HSV.out] at hs5
     have HS5 := Lib.hid hs5; have HP5 := Lib.hid (hp5.put (k := k) (z := .int .i64 (callV f y x)) hr5)
     have HK5 := Lib.hid ((HKI.out.trans (hk5.mono (fun g _ e => .inr e))).setCell (p := ⟨G, k, none⟩) (fun _ => .inl rfl) (.int .i64 (callV f y x)))
     rw [HSV.out] at HS5
     clear hr5 hs5 hp5 hk5 HQ HPA HRW HKI hct hf0 hgc
     go_wp2_with fail
     go_roundw
     case rel => exact ⟨j + 1, by omega, by go_num, HK5.out, HP5.out, by rw [HSV.out]; exact HS5.out⟩
     case measure => simp [intOf] <;> omega
    ·have hjI : ¬ (j : Int) < ((m - 1 : Nat) : Int) := by omega
     obtain ⟨la1, la2⟩ := laneV_all f lk
     rw [HM1.out] at la1 la2
     have hje : j + 1 = m := by omega
     rw [hje] at hpa hrw
     have hfs := HFS.out
     rw [HM1.out] at hfs
     rw [hfs] at hrw
     rw [la2, ← HBS.out] at hpa
     have HPA := Lib.hid hpa; have HRW := Lib.hid hrw; have HKI := Lib.hid (HKB.out.trans hki)
     clear la1 la2 hje hfs hpa hrw hki hkl
     go_wp2_with fail
     go_roundw
     case rel => exact ⟨k + 1, by omega, by go_num, HKI.out, HPA.out, HRW.out⟩
     case measure => simp [intOf] <;> omega
  ·obtain rfl : k = n := by omega
   have hall : lx.take k = lx := List.take_of_length_le (by rw [HLN.out]; exact Nat.le_refl _)
   rw [hall] at hpa
   rw [outF_all f HLN.out] at hrw
   have hO := HO8.out.kb hkb HSK.out
   have hv : RowI w.heap.size _ (.slice a7' sl c7) s.dropLast := hkb.row HV8.out (fun g e hs => by
    have := HVP.out g e
    omega)
   have hap : Apart (.slice a7' sl c7) (.slice (some ⟨G, 0, none⟩) k k) := by
    cases hq : (Value.slice a7' sl c7).ownBlock with
    | none => exact .inl hq
    | some g => exact .inr (fun e => by
      have h1 := HVP.out g hq
      rw [hq] at e
      have h2 : g = G := by injection e
      omega)
   have hq := done_any _ w.heap.size P F f _ hpa s.dropLast _ _ _ hO.b.size hv hrw hap
   rw [show doneA (wgB (badL f lx)) s.dropLast (lx.map fun l => (laneL f l).1.getLastD 0) = r from HRR.out] at hq
   have HQ := Lib.hid hq; have HR := Lib.hid hO.r; have HB := Lib.hid hO.b
   clear hq hO hrw hlt hpa hv hap hall hkb
   go_wp2_with fail
   refine (Hid.out HQ).mono ?_
   rintro e w9 ⟨⟨v9, u9, rfl, hv9, hu9, hap9⟩, hb9⟩
   have hR9 := block_below (Hid.out HR) hb9
   have HV9 := Lib.hid hv9; have HU9 := Lib.hid hu9; have HAP9 := Lib.hid hap9; have HR9 := Lib.hid hR9
   have HB9 := Lib.hid (bNext hb9 (Hid.out HB))
   obtain ⟨a9, c9, rfl, -, -⟩ := RowI.slice hv9
   obtain ⟨a8, c8, rfl, -, -⟩ := RowI.slice hu9
   have g0 := cell_of_row w9 _ 0 _ _ _ hR9; have g1 := cell_of_row w9 _ 1 _ _ _ hR9
   have z0 := frozen_of_row w9 _ 0 _ _ hR9; have z1 := frozen_of_row w9 _ 1 _ _ hR9
   clear hv9 hu9 hap9 hb9 hR9
   go_wp2_with fail
   exact fin_arr rfl rfl rfl HR9.out HV9.out HU9.out HAP9.out HB9.out (by omega)
theorem pf_any (w : World) (f : Int) (v u : Value) (s d : List Int) (hs : SlA w v s) (hd : SlA w u d) :
  Calls Tryz.prog 96 #[.int .u8 f, .agg #[v, u]] w fun e w' => RetArr w.heap.size (foldA f s d) e w' ∧ Below w.heap.size w w' := by
 cases hr : right s d with
 | false => exact retB' (pf_bad w f v u s d hs hd hr) (by unfold foldA; rw [hr]; rfl)
 | true =>
  cases ht : takes f true with
  | false => exact retB' (pf_no w f v u s d hs hd hr ht) (by unfold foldA; rw [hr, ht]; rfl)
  | true =>
   by_cases hs0 : s.length = 0
   ·exact retB' (pf_zero w f v u s d hs hd hr ht hs0) (by unfold foldA; rw [if_pos hr, if_pos ht, if_pos hs0])
   obtain ⟨lx, hl⟩ := lane_facts hr
   rw [foldA_eq hr ht hl hs0]
   by_cases her : (size s.dropLast).2 ≠ 0
   ·rw [if_pos her]; exact pf_large w f v u s d hs hd hr ht hs0 her
   rw [if_neg her]
   have her : (size s.dropLast).2 = 0 := by omega
   obtain ⟨nz, hsz⟩ : ∃ nz, size s.dropLast = (nz, 0) := ⟨(size s.dropLast).1, by rw [← her]⟩
   obtain ⟨h0, h1, h2⟩ := fold_count hr hl hs0 hsz
   obtain ⟨n, rfl⟩ := Int.eq_ofNat_of_zero_le h0
   by_cases hl0 : lastOf s = 0
   ·rw [if_pos hl0, hsz]; exact pf_unit w f v u s d hs hd hr ht hs0 n (by omega) hsz hl0
   ·rw [if_neg hl0]; exact pf_lanes w f v u s d hs hd hr ht hs0 n (by omega) hsz hl0 lx hl (by have := h2 hl0; omega)
end Go.Proofs.YtokghjnkfabgiaaGreatDoor
