import Derived.Test.YtokghjnkfabgiaaGreatDoorTD31
import Derived.Test.YtokghjnkfabgiaaGreatDoorTD33
import Derived.Test.YtokghjnkfabgiaaGreatDoorTD32
set_option linter.unusedVariables false
set_option linter.unusedSimpArgs false
set_option maxRecDepth 100000
namespace Go.Proofs.YtokghjnkfabgiaaGreatDoor
open Go.RowKit Go.Lib
attribute [local go_sem] str_size str_get str_toList

set_option maxHeartbeats 8000000 in
theorem it_fold (w : World) (B0 R B n k : Nat) (MV : Str → Option Value) (M : Str → Option AryP) (hv : Value) (st : List AryP) (H : ItH B0 R B n k MV M hv st w) (ia fn : Int) (name : Str) (nums : List Int) (nv : Value) (hn : RowI 0 w nv nums)
  (st' : List AryP) (k' t : Nat) (a : AryP) (hit : ItemA M k ⟨5, fn, name, nums⟩ st st' k' t a) :
  Calls Tryz.prog 58 #[.pointer (some ⟨R, 0, none⟩), .agg #[.int .i64 5, .int .i64 ia, .int .u8 fn, .string (str name), nv], hv] w fun e w' => ItemE w R B B0 st' k' e w' := by
 have htop : ∃ x r, st = x :: r ∧ t = 1 ∧ foldA fn x.1 x.2 = (a, 0) := by
  have h := hit.top
  clear hit H
  cases st with
  | nil => cases h
  | cons x r =>
   have h : okO 1 (foldA fn x.1 x.2) = some (t, a) := h
   obtain ⟨h1, h2⟩ := okO_eq h
   exact ⟨x, r, rfl, h1, h2⟩
 obtain ⟨x, r, rfl, rfl, hval⟩ := htop
 have HH := Lib.hid H; have HIT := Lib.hid hit
 obtain ⟨na, nc, rfl, -⟩ := hn.slice
 obtain ⟨ha, hc, rfl⟩ := H.stk.form
 have HN := Lib.hid hn
 have hy9 : w.heap.size ≤ w.heap.size + 1 := by omega
 have hne9 : w.heap.size + 1 ≠ w.heap.size := by omega
 clear H hit hn
 go_enter Tryz.func58, Tryz.ntmps58
 go_upto_region 4 with fail
 refine gen_worldA (fun W => ItS w w.heap.size (w.heap.size + 1) (#[.int .i64 5, .int .i64 ia, .int .u8 fn, .string (str name), .slice na nums.length nc]) (.slice none 0 0) (.slice none 0 0) W) (ItS.new w _) ?_
 generalize w.heap.size + 1 = y9 at hy9 hne9 ⊢
 obtain ⟨y4, hy4⟩ : ∃ y4, w.heap.size = y4 := ⟨_, rfl⟩
 have hy4' : w.heap.size ≤ y4 := by omega
 rw [hy4] at hne9 ⊢
 clear hy4
 rintro W hx
 obtain ⟨g, v, u, rfl, hn1, hncap, hgM, hgl, hvx, hux, hc0, hc1⟩ := stk_end HH.out.stk
 have hrl : r.length ≤ 1000 := by have := HH.out.stl; simp at this; omega
 have c0 := keepCell hx.below hc0
 have c1 := keepCell hx.below hc1
 have x0 := cell_of_row _ y4 0 _ _ _ hx.b4
 have x2 := cell_of_row _ y4 2 _ _ _ hx.b4
 have hpm : ∀ W', Below w.heap.size w W' → Calls Tryz.prog 96 #[.int .u8 fn, .agg #[v, u]] W' fun e w' => RetArr W'.heap.size (a, 0) e w' ∧ Below W'.heap.size W' w' := fun W' hb => by
  have h := pf_any W' fn v u x.1 x.2 (hvx.below (hb)).sl (hux.below hb).sl
  rwa [hval] at h
 have HP := Lib.hid hpm; have HX := Lib.hid hx
 obtain ⟨va, vc, rfl⟩ := hvx.form
 obtain ⟨ua, uc, rfl⟩ := hux.form
 have hncap : r.length + 1 ≤ hc := by omega
 rw [hn1]
 have HC0 := Lib.hid hc0; have HC1 := Lib.hid hc1
 have hg4 : g ≠ y4 := by omega
 have hg9 : g ≠ y9 := by omega
 clear hpm hx hvx hux hc0 hc1 hval hn1
 go_upto_region 19 with fail
 clear x0
 refine wp_region_Z (S := fun W' => (W'.cell? ⟨y4, 2, none⟩ = some (.int .u8 fn) ∧ W'.cell? ⟨g, r.length * 2, none⟩ = some (.slice va x.1.length vc)) ∧ W'.cell? ⟨g, r.length * 2 + 1, none⟩ = some (.slice ua x.2.length uc)) (z := 12) (by kernel_rfl) ?_
 have hSS : (fun W' : World => (W'.cell? ⟨y4, 2, none⟩ = some (.int .u8 fn) ∧ W'.cell? ⟨g, r.length * 2, none⟩ = some (.slice va x.1.length vc)) ∧ W'.cell? ⟨g, r.length * 2 + 1, none⟩ = some (.slice ua x.2.length uc)) W.drew := ⟨⟨x2, c0⟩, c1⟩
 clear c0 c1 x2
 refine wpAnyZ_take (i := 0) (v := ?_) rfl (by kernel_rfl) (by kernel_rfl) (by kernel_rfl) (fun _ _ _ h => h) (by kernel_rfl) (Or.inl ⟨by rfl, ?_⟩) (by assumption) ?_
 rotate_left
 ·intro w' hSw
  try dsimp only at hSw
  try obtain ⟨hSw, hSw2⟩ := hSw
  go_simp
  try with_reducible rfl
 show wpAnyZ _ _ _ _ _ _ _ _ (Act.put _ (some 62) _) _
 simp only [Act.put, List.setIfInBounds_toArray, List.set_cons_zero, List.set_cons_succ]
 refine wpAnyZ_take (i := 1) (v := ?_) rfl (by kernel_rfl) (by kernel_rfl) (by kernel_rfl) (fun _ _ _ h => h) (by kernel_rfl) (Or.inl ⟨by rfl, ?_⟩) (by assumption) ?_
 rotate_left
 ·intro w' hSw
  try dsimp only at hSw
  try obtain ⟨hSw, hSw2⟩ := hSw
  go_simp
  try with_reducible rfl
 show wpAnyZ _ _ _ _ _ _ _ _ (Act.put _ (some 63) _) _
 simp only [Act.put, List.setIfInBounds_toArray, List.set_cons_zero, List.set_cons_succ]
 refine wpAnyZ_take (i := 2) (v := ?_) rfl (by kernel_rfl) (by kernel_rfl) (by kernel_rfl) (fun _ _ _ h => h) (by kernel_rfl) (Or.inl ⟨by rfl, ?_⟩) (by assumption) ?_
 rotate_left
 ·intro w' hSw
  try dsimp only at hSw
  try obtain ⟨hSw, hSw2⟩ := hSw
  go_simp
  try with_reducible rfl
 show wpAnyZ _ _ _ _ _ _ _ _ (Act.put _ (some 64) _) _
 simp only [Act.put, List.setIfInBounds_toArray, List.set_cons_zero, List.set_cons_succ]
 refine wpAnyZ_take (i := 3) (v := ?_) rfl (by kernel_rfl) (by kernel_rfl) (by kernel_rfl) (fun _ _ _ h => h) (by kernel_rfl) (Or.inl ⟨by rfl, ?_⟩) (by assumption) ?_
 rotate_left
 ·intro w' hSw
  try dsimp only at hSw
  try obtain ⟨hSw, hSw2⟩ := hSw
  go_simp
  try with_reducible rfl
 show wpAnyZ _ _ _ _ _ _ _ _ (Act.put _ (some 65) _) _
 simp only [Act.put, List.setIfInBounds_toArray, List.set_cons_zero, List.set_cons_succ]
 refine wpAnyZ_take (i := 4) (v := ?_) rfl (by kernel_rfl) (by kernel_rfl) (by kernel_rfl) (fun _ _ _ h => h) (by kernel_rfl) (Or.inl ⟨by rfl, ?_⟩) (by assumption) ?_
 rotate_left
 ·intro w' hSw
  try dsimp only at hSw
  try obtain ⟨hSw, hSw2⟩ := hSw
  go_simp
  try with_reducible rfl
 show wpAnyZ _ _ _ _ _ _ _ _ (Act.put _ (some 66) _) _
 simp only [Act.put, List.setIfInBounds_toArray, List.set_cons_zero, List.set_cons_succ]
 refine wpAnyZ_take (i := 5) (v := .pointer (some ⟨g, r.length * 2, none⟩)) rfl (by kernel_rfl) (by kernel_rfl) (by kernel_rfl) (fun _ _ _ h => h) (by kernel_rfl) (Or.inl ⟨by rfl, ?_⟩) (by assumption) ?_
 ·intro w' hSw
  clear hSw
  go_simp
  rw [wrap_nat hrl, if_pos ⟨by omega, by omega⟩, Int.toNat_natCast]
 show wpAnyZ _ _ _ _ _ _ _ _ (Act.put _ (some 67) _) _
 simp only [Act.put, List.setIfInBounds_toArray, List.set_cons_zero, List.set_cons_succ]
 refine wpAnyZ_take (i := 6) (v := ?_) rfl (by kernel_rfl) (by kernel_rfl) (by kernel_rfl) (fun _ _ _ h => h) (by kernel_rfl) (Or.inl ⟨by rfl, ?_⟩) (by assumption) ?_
 rotate_left
 ·intro w' hSw
  try dsimp only at hSw
  try obtain ⟨hSw, hSw2⟩ := hSw
  go_simp
  try with_reducible rfl
 show wpAnyZ _ _ _ _ _ _ _ _ (Act.put _ (some 68) _) _
 simp only [Act.put, List.setIfInBounds_toArray, List.set_cons_zero, List.set_cons_succ]
 refine wpAnyZ_oneG (i := 7) (by kernel_rfl) rfl (by rfl) (fun K hK => ?_)
 go_simp
 refine (HP.out W.drew (HX.out.below.drew)).mono ?_
 rintro e w5 ⟨⟨v5, u5, rfl, hv5, hu5, -⟩, hb5⟩
 have hx5 := (HX.out.next ((Below.refl _ _).drew)).next hb5
 have HV5 := Lib.hid (SlK.own (B0 := B0) hv5 HIT.out.i1); have HU5 := Lib.hid (SlK.own (B0 := B0) hu5 HIT.out.i2)
 have c0 := keepCell hx5.below HC0.out
 have c1 := keepCell hx5.below HC1.out
 have x2 := cell_of_row _ y4 2 _ _ _ hx5.b4
 obtain ⟨a5, k5, rfl, -⟩ := hv5.slice
 obtain ⟨a6, k6, rfl, -⟩ := hu5.slice
 have HX5 := Lib.hid hx5
 show K _ w5
 refine hK.out _ _ (.inr ⟨⟨x2, c0⟩, c1⟩) ?_
 clear hK hv5 hu5 hb5 hx5 HP HX hSS
 have hSS : (fun W' : World => (W'.cell? ⟨y4, 2, none⟩ = some (.int .u8 fn) ∧ W'.cell? ⟨g, r.length * 2, none⟩ = some (.slice va x.1.length vc)) ∧ W'.cell? ⟨g, r.length * 2 + 1, none⟩ = some (.slice ua x.2.length uc)) w5 := ⟨⟨x2, c0⟩, c1⟩
 clear c0 c1 x2
 refine wpAnyZ_take (i := 8) (v := ?_) rfl (by kernel_rfl) (by kernel_rfl) (by kernel_rfl) (fun _ _ _ h => h) (by kernel_rfl) (Or.inl ⟨by rfl, ?_⟩) (by assumption) ?_
 rotate_left
 ·intro w' hSw
  try dsimp only at hSw
  try obtain ⟨hSw, hSw2⟩ := hSw
  go_simp
  try with_reducible rfl
 show wpAnyZ _ _ _ _ _ _ _ _ (Act.put _ (some 61) _) _
 simp only [Act.put, List.setIfInBounds_toArray, List.set_cons_zero, List.set_cons_succ]
 refine wpAnyZ_take (i := 9) (v := ?_) rfl (by kernel_rfl) (by kernel_rfl) (by kernel_rfl) (fun _ _ _ h => h) (by kernel_rfl) (Or.inl ⟨by rfl, ?_⟩) (by assumption) ?_
 rotate_left
 ·intro w' hSw
  try dsimp only at hSw
  try obtain ⟨hSw, hSw2⟩ := hSw
  go_simp
  try with_reducible rfl
 show wpAnyZ _ _ _ _ _ _ _ _ (Act.put _ (some 70) _) _
 simp only [Act.put, List.setIfInBounds_toArray, List.set_cons_zero, List.set_cons_succ]
 refine wpAnyZ_take (i := 10) (v := ?_) rfl (by kernel_rfl) (by kernel_rfl) (by kernel_rfl) (fun _ _ _ h => h) (by kernel_rfl) (Or.inl ⟨by rfl, ?_⟩) (by assumption) ?_
 rotate_left
 ·intro w' hSw
  try dsimp only at hSw
  try obtain ⟨hSw, hSw2⟩ := hSw
  go_simp
  try with_reducible rfl
 show wpAnyZ _ _ _ _ _ _ _ _ (Act.put _ (some 71) _) _
 simp only [Act.put, List.setIfInBounds_toArray, List.set_cons_zero, List.set_cons_succ]
 clear hSS
 have g0 := cell_of_row w5 y9 0 _ _ _ HX5.out.b9; have g1 := cell_of_row w5 y9 1 _ _ _ HX5.out.b9
 have z0 := frozen_of_row w5 y9 0 _ _ HX5.out.b9; have z1 := frozen_of_row w5 y9 1 _ _ HX5.out.b9
 refine wpAnyZ_oneG (i := 11) (by kernel_rfl) rfl (by rfl) (fun K hK => ?_)
 go_simp
 have hx6 := HX5.out.store (v' := .slice a5 a.1.length k5) (u' := .slice a6 a.2.length k6) hy9 hne9
 have hv6 := HV5.out.turn (w' := ((w5.setCell ⟨y9, 0, none⟩ (.slice a5 a.1.length k5)).setCell ⟨y9, 1, none⟩ (.slice a6 a.2.length k6))) (itst_below HH.out.hB0 hy9 _ _ _) (itst_keep HX5.out.b9 _ _ (by decide))
 have hu6 := HU5.out.turn (w' := ((w5.setCell ⟨y9, 0, none⟩ (.slice a5 a.1.length k5)).setCell ⟨y9, 1, none⟩ (.slice a6 a.2.length k6))) (itst_below HH.out.hB0 hy9 _ _ _) (itst_keep HX5.out.b9 _ _ (by decide))
 clear g0 g1 z0 z1
 generalize ((w5.setCell ⟨y9, 0, none⟩ (.slice a5 a.1.length k5)).setCell ⟨y9, 1, none⟩ (.slice a6 a.2.length k6)) = w6 at hx6 hv6 hu6 ⊢
 have c0 := keepCell hx6.below HC0.out
 have c1 := keepCell hx6.below HC1.out
 have x2 := cell_of_row _ y4 2 _ _ _ hx6.b4
 refine hK.out _ _ (.inr ⟨⟨x2, c0⟩, c1⟩) ?_
 have HT := Lib.hid (ItT.mk (a := a) hx6.below hx6.b9 hv6 hu6)
 clear hK hx6 hv6 hu6 HX5 HV5 HU5
 refine wpAnyZ_oneG (i := 12) (by kernel_rfl) rfl (by rfl) (fun K hK => ?_)
 go_simp
 refine hK.out _ _ (.inl (by omega)) ?_
 clear hK
 refine wpAnyZ_done (by kernel_rfl) ?_ _
 clear x2 c0 c1
 go_upto_region 31 with fail
 have hk1 : (k : Int) ≤ 1048576 := by have := HIT.out.work; omega
 have hk2 : (k : Int) + (a.2.length : Int) ≤ 1048576 := by have := HIT.out.work; omega
 have hRun := block_below HH.out.run HT.out.below
 have r0 := cell_of_row _ R 1 _ _ _ hRun
 have fr0 := frozen_of_row _ R 1 _ _ hRun
 have g1 := cell_of_row _ y9 1 _ _ _ HT.out.b9
 have HRUN := Lib.hid hRun
 clear hRun
 go_region
 have hxu := HT.out.turn HRUN.out HH.out.hR HH.out.hB0 HH.out.run hy9 (k' := k + a.2.length) (.int .i64 ((k : Int) + (a.2.length : Int))) (by simp)
 have hst := hxu.stack HH.out.stk HH.out.hR HH.out.run HH.out.hB0
 clear r0 fr0 g1 HRUN HT
 generalize (w6.setCell { block := R, off := 1 } (Value.int IntKind.i64 ((k : Int) + (a.2.length : Int)))).drew = X at hxu hst ⊢
 have r0 := cell_of_row _ R 1 _ _ _ hxu.run
 have HU := Lib.hid hxu; have HST := Lib.hid hst
 clear hxu hst
 go_upto_region 34 with fail
 clear r0
 have g0 := cell_of_row _ y9 0 _ _ _ HU.out.b9
 have g1 := cell_of_row _ y9 1 _ _ _ HU.out.b9
 refine wp_region_Z (S := fun W' => W'.cell? ⟨y9, 0, none⟩ = some (.slice a5 a.1.length k5) ∧ W'.cell? ⟨y9, 1, none⟩ = some (.slice a6 a.2.length k6)) (z := 11) (by kernel_rfl) ?_
 have hSS : (fun W' : World => W'.cell? ⟨y9, 0, none⟩ = some (.slice a5 a.1.length k5) ∧ W'.cell? ⟨y9, 1, none⟩ = some (.slice a6 a.2.length k6)) X.drew := ⟨g0, g1⟩
 refine wpAnyZ_take (i := 0) (v := ?_) rfl (by kernel_rfl) (by kernel_rfl) (by kernel_rfl) (fun _ _ _ h => h) (by kernel_rfl) (Or.inl ⟨by rfl, ?_⟩) (by assumption) ?_
 rotate_left
 ·intro w' hSw
  try dsimp only at hSw
  try obtain ⟨hSw, hSw2⟩ := hSw
  go_simp
  try with_reducible rfl
 show wpAnyZ _ _ _ _ _ _ _ _ (Act.put _ (some 139) _) _
 simp only [Act.put, List.setIfInBounds_toArray, List.set_cons_zero, List.set_cons_succ]
 refine wpAnyZ_take (i := 1) (v := ?_) rfl (by kernel_rfl) (by kernel_rfl) (by kernel_rfl) (fun _ _ _ h => h) (by kernel_rfl) (Or.inl ⟨by rfl, ?_⟩) (by assumption) ?_
 rotate_left
 ·intro w' hSw
  try dsimp only at hSw
  try obtain ⟨hSw, hSw2⟩ := hSw
  go_simp
  try with_reducible rfl
 show wpAnyZ _ _ _ _ _ _ _ _ (Act.put _ (some 140) _) _
 simp only [Act.put, List.setIfInBounds_toArray, List.set_cons_zero, List.set_cons_succ]
 refine wpAnyZ_take (i := 2) (v := ?_) rfl (by kernel_rfl) (by kernel_rfl) (by kernel_rfl) (fun _ _ _ h => h) (by kernel_rfl) (Or.inl ⟨by rfl, ?_⟩) (by assumption) ?_
 rotate_left
 ·intro w' hSw
  try dsimp only at hSw
  try obtain ⟨hSw, hSw2⟩ := hSw
  go_simp
  try with_reducible rfl
 show wpAnyZ _ _ _ _ _ _ _ _ (Act.put _ (some 141) _) _
 simp only [Act.put, List.setIfInBounds_toArray, List.set_cons_zero, List.set_cons_succ]
 refine wpAnyZ_take (i := 3) (v := ?_) rfl (by kernel_rfl) (by kernel_rfl) (by kernel_rfl) (fun _ _ _ h => h) (by kernel_rfl) (Or.inl ⟨by rfl, ?_⟩) (by assumption) ?_
 rotate_left
 ·intro w' hSw
  try dsimp only at hSw
  try obtain ⟨hSw, hSw2⟩ := hSw
  go_simp
  try with_reducible rfl
 show wpAnyZ _ _ _ _ _ _ _ _ (Act.put _ (some 142) _) _
 simp only [Act.put, List.setIfInBounds_toArray, List.set_cons_zero, List.set_cons_succ]
 refine wpAnyZ_take (i := 4) (v := ?_) rfl (by kernel_rfl) (by kernel_rfl) (by kernel_rfl) (fun _ _ _ h => h) (by kernel_rfl) (Or.inl ⟨by rfl, ?_⟩) (by assumption) ?_
 rotate_left
 ·intro w' hSw
  try dsimp only at hSw
  try obtain ⟨hSw, hSw2⟩ := hSw
  go_simp
  try with_reducible rfl
 show wpAnyZ _ _ _ _ _ _ _ _ (Act.put _ (some 143) _) _
 simp only [Act.put, List.setIfInBounds_toArray, List.set_cons_zero, List.set_cons_succ]
 refine wpAnyZ_take (i := 5) (v := ?_) rfl (by kernel_rfl) (by kernel_rfl) (by kernel_rfl) (fun _ _ _ h => h) (by kernel_rfl) (Or.inl ⟨by rfl, ?_⟩) (by assumption) ?_
 rotate_left
 ·intro w' hSw
  try dsimp only at hSw
  try obtain ⟨hSw, hSw2⟩ := hSw
  go_simp
  try with_reducible rfl
 show wpAnyZ _ _ _ _ _ _ _ _ (Act.put _ (some 144) _) _
 simp only [Act.put, List.setIfInBounds_toArray, List.set_cons_zero, List.set_cons_succ]
 refine wpAnyZ_take (i := 6) (v := ?_) rfl (by kernel_rfl) (by kernel_rfl) (by kernel_rfl) (fun _ _ _ h => h) (by kernel_rfl) (Or.inl ⟨by rfl, ?_⟩) (by assumption) ?_
 rotate_left
 ·intro w' hSw
  try dsimp only at hSw
  try obtain ⟨hSw, hSw2⟩ := hSw
  go_simp
  try with_reducible rfl
 show wpAnyZ _ _ _ _ _ _ _ _ (Act.put _ (some 145) _) _
 simp only [Act.put, List.setIfInBounds_toArray, List.set_cons_zero, List.set_cons_succ]
 refine wpAnyZ_take (i := 7) (v := .slice (some ⟨g, 0, none⟩) r.length r.length) rfl (by kernel_rfl) (by kernel_rfl) (by kernel_rfl) (fun _ _ _ h => h) (by kernel_rfl) (Or.inl ⟨by rfl, ?_⟩) (by assumption) ?_
 ·intro w' hSw
  clear hSw
  go_simp
  rw [wrap_nat hrl, if_pos ⟨by omega, by omega⟩, if_pos ⟨by omega, by omega⟩, Int.toNat_natCast]
 show wpAnyZ _ _ _ _ _ _ _ _ (Act.put _ (some 146) _) _
 simp only [Act.put, List.setIfInBounds_toArray, List.set_cons_zero, List.set_cons_succ]
 refine wpAnyZ_take (i := 8) (v := ?_) rfl (by kernel_rfl) (by kernel_rfl) (by kernel_rfl) (fun _ _ _ h => h) (by kernel_rfl) (Or.inl ⟨by rfl, ?_⟩) (by assumption) ?_
 rotate_left
 ·intro w' hSw
  try dsimp only at hSw
  try obtain ⟨hSw, hSw2⟩ := hSw
  go_simp
  try with_reducible rfl
 show wpAnyZ _ _ _ _ _ _ _ _ (Act.put _ (some 147) _) _
 simp only [Act.put, List.setIfInBounds_toArray, List.set_cons_zero, List.set_cons_succ]
 clear hSS g0 g1
 have hdx : Below X.heap.size X (X.alloc (.cells #[.slice a5 a.1.length k5, .slice a6 a.2.length k6] 44)).drew := ((Below.refl _ X).alloc (Nat.le_refl _) _).drew
 have HV7 := Lib.hid (HU.out.v.below hdx); have HU7 := Lib.hid (HU.out.u.below hdx)
 have HS7 := Lib.hid (RowG.next HST.out hdx)
 have hG : (X.alloc (.cells #[.slice a5 a.1.length k5, .slice a6 a.2.length k6] 44)).drew.heap[X.heap.size]? = some (.cells #[.slice a5 a.1.length k5, .slice a6 a.2.length k6] 44 (0, 0)) := World.alloc_heap_new X (.cells #[.slice a5 a.1.length k5, .slice a6 a.2.length k6] 44)
 have HKB := Lib.hid (kb_out HU.out.kb hdx); have HRX := Lib.hid (block_below HU.out.run hdx)
 have HB9 := Lib.hid (block_below HU.out.b9 hdx)
 refine wpAnyZ_oneG (i := 9) (by kernel_rfl) rfl (by rfl) (fun K hK => ?_)
 go_simp
 clear HU HST hdx
 generalize (X.alloc (.cells #[.slice a5 a.1.length k5, .slice a6 a.2.length k6] 44)).drew = Y at hG HV7 HU7 HS7 HKB HRX HB9 ⊢
 refine hK.out _ _ (.inr ⟨cell_of_row _ y9 0 _ _ _ HB9.out, cell_of_row _ y9 1 _ _ _ HB9.out⟩) ?_
 clear hK
 refine wpAnyZ_oneG (i := 10) (by kernel_rfl) rfl (by rfl) (fun K hK => ?_)
 refine wp_pushP (R := arrK B0) _ _ 47 44 rfl zeroArr 48 Tryz.underlying47 Tryz.infoAry (by rfl) (show 0 < 2 by decide) B0 _ _ _ _ r.length (x :: r).reverse a _ rfl HS7.out (by simp) (fun e => by cases e) rfl hG ⟨_, _, rfl, HV7.out, HU7.out⟩ (by unfold maxLen; omega) (by omega) ?_
 intro v8 w8 hs8 hb8
 refine hK.out _ _ (.inr ⟨cell_of_row _ y9 0 _ _ _ (block_below HB9.out hb8), cell_of_row _ y9 1 _ _ _ (block_below HB9.out hb8)⟩) ?_
 have hfin : ItemE w R B B0 st' k' (.returned (.tuple #[v8, .int .i64 0])) w8 := by
  refine ⟨v8, rfl, ?_, kb_out HKB.out hb8, ?_⟩
  ·have e : ((x :: r).reverse).take r.length ++ [a] = st'.reverse := by
    rw [HIT.out.st, List.reverse_cons, List.take_left' (by simp)]
    simp
   rw [← e]
   exact RowG.mono hs8 HKB.out.size
  ·rw [HIT.out.k]
   exact block_below HRX.out hb8
 have HF := Lib.hid hfin
 clear hK hfin hs8 hb8 HKB HRX HB9 HV7 HU7 HS7 hG
 refine wpAnyZ_oneG (i := 11) (by kernel_rfl) rfl (by rfl) (fun K hK => ?_)
 go_simp
 refine hK.out _ _ (.inl (by omega)) ?_
 clear hK
 refine wpAnyZ_oneG (i := 12) (by kernel_rfl) rfl (by rfl) (fun K hK => ?_)
 go_simp
 refine hK.out _ _ (.inl (by omega)) ?_
 clear hK
 refine wpAnyZ_done (by kernel_rfl) ?_ _
 go_wp2_with fail
 refine bodyPost_ret (v := .tuple #[v8, .int .i64 0]) (results_t2 rfl _ _ rfl rfl) rfl ?_
 exact HF.out
end Go.Proofs.YtokghjnkfabgiaaGreatDoor

namespace Go.Proofs.YtokghjnkfabgiaaGreatDoor
open Go.RowKit Go.Lib
attribute [local go_sem] str_size str_get str_toList

set_option maxHeartbeats 8000000 in
theorem it_scan (w : World) (B0 R B n k : Nat) (MV : Str → Option Value) (M : Str → Option AryP) (hv : Value) (st : List AryP) (H : ItH B0 R B n k MV M hv st w) (ia fn : Int) (name : Str) (nums : List Int) (nv : Value) (hn : RowI 0 w nv nums)
  (st' : List AryP) (k' t : Nat) (a : AryP) (hit : ItemA M k ⟨6, fn, name, nums⟩ st st' k' t a) :
  Calls Tryz.prog 58 #[.pointer (some ⟨R, 0, none⟩), .agg #[.int .i64 6, .int .i64 ia, .int .u8 fn, .string (str name), nv], hv] w fun e w' => ItemE w R B B0 st' k' e w' := by
 have htop : ∃ x r, st = x :: r ∧ t = 1 ∧ scanA fn x.1 x.2 = (a, 0) := by
  have h := hit.top
  clear hit H
  cases st with
  | nil => cases h
  | cons x r =>
   have h : okO 1 (scanA fn x.1 x.2) = some (t, a) := h
   obtain ⟨h1, h2⟩ := okO_eq h
   exact ⟨x, r, rfl, h1, h2⟩
 obtain ⟨x, r, rfl, rfl, hval⟩ := htop
 have HH := Lib.hid H; have HIT := Lib.hid hit
 obtain ⟨na, nc, rfl, -⟩ := hn.slice
 obtain ⟨ha, hc, rfl⟩ := H.stk.form
 have HN := Lib.hid hn
 have hy9 : w.heap.size ≤ w.heap.size + 1 := by omega
 have hne9 : w.heap.size + 1 ≠ w.heap.size := by omega
 clear H hit hn
 go_enter Tryz.func58, Tryz.ntmps58
 go_upto_region 4 with fail
 refine gen_worldA (fun W => ItS w w.heap.size (w.heap.size + 1) (#[.int .i64 6, .int .i64 ia, .int .u8 fn, .string (str name), .slice na nums.length nc]) (.slice none 0 0) (.slice none 0 0) W) (ItS.new w _) ?_
 generalize w.heap.size + 1 = y9 at hy9 hne9 ⊢
 obtain ⟨y4, hy4⟩ : ∃ y4, w.heap.size = y4 := ⟨_, rfl⟩
 have hy4' : w.heap.size ≤ y4 := by omega
 rw [hy4] at hne9 ⊢
 clear hy4
 rintro W hx
 obtain ⟨g, v, u, rfl, hn1, hncap, hgM, hgl, hvx, hux, hc0, hc1⟩ := stk_end HH.out.stk
 have hrl : r.length ≤ 1000 := by have := HH.out.stl; simp at this; omega
 have c0 := keepCell hx.below hc0
 have c1 := keepCell hx.below hc1
 have x0 := cell_of_row _ y4 0 _ _ _ hx.b4
 have x2 := cell_of_row _ y4 2 _ _ _ hx.b4
 have hpm : ∀ W', Below w.heap.size w W' → Calls Tryz.prog 97 #[.int .u8 fn, .agg #[v, u]] W' fun e w' => RetArr W'.heap.size (a, 0) e w' ∧ Below W'.heap.size W' w' := fun W' hb => by
  have h := ps_any W' fn v u x.1 x.2 (hvx.below (hb)).sl (hux.below hb).sl
  rwa [hval] at h
 have HP := Lib.hid hpm; have HX := Lib.hid hx
 obtain ⟨va, vc, rfl⟩ := hvx.form
 obtain ⟨ua, uc, rfl⟩ := hux.form
 have hncap : r.length + 1 ≤ hc := by omega
 rw [hn1]
 have HC0 := Lib.hid hc0; have HC1 := Lib.hid hc1
 have hg4 : g ≠ y4 := by omega
 have hg9 : g ≠ y9 := by omega
 clear hpm hx hvx hux hc0 hc1 hval hn1
 go_upto_region 22 with fail
 clear x0
 refine wp_region_Z (S := fun W' => (W'.cell? ⟨y4, 2, none⟩ = some (.int .u8 fn) ∧ W'.cell? ⟨g, r.length * 2, none⟩ = some (.slice va x.1.length vc)) ∧ W'.cell? ⟨g, r.length * 2 + 1, none⟩ = some (.slice ua x.2.length uc)) (z := 12) (by kernel_rfl) ?_
 have hSS : (fun W' : World => (W'.cell? ⟨y4, 2, none⟩ = some (.int .u8 fn) ∧ W'.cell? ⟨g, r.length * 2, none⟩ = some (.slice va x.1.length vc)) ∧ W'.cell? ⟨g, r.length * 2 + 1, none⟩ = some (.slice ua x.2.length uc)) W.drew := ⟨⟨x2, c0⟩, c1⟩
 clear c0 c1 x2
 refine wpAnyZ_take (i := 0) (v := ?_) rfl (by kernel_rfl) (by kernel_rfl) (by kernel_rfl) (fun _ _ _ h => h) (by kernel_rfl) (Or.inl ⟨by rfl, ?_⟩) (by assumption) ?_
 rotate_left
 ·intro w' hSw
  try dsimp only at hSw
  try obtain ⟨hSw, hSw2⟩ := hSw
  go_simp
  try with_reducible rfl
 show wpAnyZ _ _ _ _ _ _ _ _ (Act.put _ (some 75) _) _
 simp only [Act.put, List.setIfInBounds_toArray, List.set_cons_zero, List.set_cons_succ]
 refine wpAnyZ_take (i := 1) (v := ?_) rfl (by kernel_rfl) (by kernel_rfl) (by kernel_rfl) (fun _ _ _ h => h) (by kernel_rfl) (Or.inl ⟨by rfl, ?_⟩) (by assumption) ?_
 rotate_left
 ·intro w' hSw
  try dsimp only at hSw
  try obtain ⟨hSw, hSw2⟩ := hSw
  go_simp
  try with_reducible rfl
 show wpAnyZ _ _ _ _ _ _ _ _ (Act.put _ (some 76) _) _
 simp only [Act.put, List.setIfInBounds_toArray, List.set_cons_zero, List.set_cons_succ]
 refine wpAnyZ_take (i := 2) (v := ?_) rfl (by kernel_rfl) (by kernel_rfl) (by kernel_rfl) (fun _ _ _ h => h) (by kernel_rfl) (Or.inl ⟨by rfl, ?_⟩) (by assumption) ?_
 rotate_left
 ·intro w' hSw
  try dsimp only at hSw
  try obtain ⟨hSw, hSw2⟩ := hSw
  go_simp
  try with_reducible rfl
 show wpAnyZ _ _ _ _ _ _ _ _ (Act.put _ (some 77) _) _
 simp only [Act.put, List.setIfInBounds_toArray, List.set_cons_zero, List.set_cons_succ]
 refine wpAnyZ_take (i := 3) (v := ?_) rfl (by kernel_rfl) (by kernel_rfl) (by kernel_rfl) (fun _ _ _ h => h) (by kernel_rfl) (Or.inl ⟨by rfl, ?_⟩) (by assumption) ?_
 rotate_left
 ·intro w' hSw
  try dsimp only at hSw
  try obtain ⟨hSw, hSw2⟩ := hSw
  go_simp
  try with_reducible rfl
 show wpAnyZ _ _ _ _ _ _ _ _ (Act.put _ (some 78) _) _
 simp only [Act.put, List.setIfInBounds_toArray, List.set_cons_zero, List.set_cons_succ]
 refine wpAnyZ_take (i := 4) (v := ?_) rfl (by kernel_rfl) (by kernel_rfl) (by kernel_rfl) (fun _ _ _ h => h) (by kernel_rfl) (Or.inl ⟨by rfl, ?_⟩) (by assumption) ?_
 rotate_left
 ·intro w' hSw
  try dsimp only at hSw
  try obtain ⟨hSw, hSw2⟩ := hSw
  go_simp
  try with_reducible rfl
 show wpAnyZ _ _ _ _ _ _ _ _ (Act.put _ (some 79) _) _
 simp only [Act.put, List.setIfInBounds_toArray, List.set_cons_zero, List.set_cons_succ]
 refine wpAnyZ_take (i := 5) (v := .pointer (some ⟨g, r.length * 2, none⟩)) rfl (by kernel_rfl) (by kernel_rfl) (by kernel_rfl) (fun _ _ _ h => h) (by kernel_rfl) (Or.inl ⟨by rfl, ?_⟩) (by assumption) ?_
 ·intro w' hSw
  clear hSw
  go_simp
  rw [wrap_nat hrl, if_pos ⟨by omega, by omega⟩, Int.toNat_natCast]
 show wpAnyZ _ _ _ _ _ _ _ _ (Act.put _ (some 80) _) _
 simp only [Act.put, List.setIfInBounds_toArray, List.set_cons_zero, List.set_cons_succ]
 refine wpAnyZ_take (i := 6) (v := ?_) rfl (by kernel_rfl) (by kernel_rfl) (by kernel_rfl) (fun _ _ _ h => h) (by kernel_rfl) (Or.inl ⟨by rfl, ?_⟩) (by assumption) ?_
 rotate_left
 ·intro w' hSw
  try dsimp only at hSw
  try obtain ⟨hSw, hSw2⟩ := hSw
  go_simp
  try with_reducible rfl
 show wpAnyZ _ _ _ _ _ _ _ _ (Act.put _ (some 81) _) _
 simp only [Act.put, List.setIfInBounds_toArray, List.set_cons_zero, List.set_cons_succ]
 refine wpAnyZ_oneG (i := 7) (by kernel_rfl) rfl (by rfl) (fun K hK => ?_)
 go_simp
 refine (HP.out W.drew (HX.out.below.drew)).mono ?_
 rintro e w5 ⟨⟨v5, u5, rfl, hv5, hu5, -⟩, hb5⟩
 have hx5 := (HX.out.next ((Below.refl _ _).drew)).next hb5
 have HV5 := Lib.hid (SlK.own (B0 := B0) hv5 HIT.out.i1); have HU5 := Lib.hid (SlK.own (B0 := B0) hu5 HIT.out.i2)
 have c0 := keepCell hx5.below HC0.out
 have c1 := keepCell hx5.below HC1.out
 have x2 := cell_of_row _ y4 2 _ _ _ hx5.b4
 obtain ⟨a5, k5, rfl, -⟩ := hv5.slice
 obtain ⟨a6, k6, rfl, -⟩ := hu5.slice
 have HX5 := Lib.hid hx5
 show K _ w5
 refine hK.out _ _ (.inr ⟨⟨x2, c0⟩, c1⟩) ?_
 clear hK hv5 hu5 hb5 hx5 HP HX hSS
 have hSS : (fun W' : World => (W'.cell? ⟨y4, 2, none⟩ = some (.int .u8 fn) ∧ W'.cell? ⟨g, r.length * 2, none⟩ = some (.slice va x.1.length vc)) ∧ W'.cell? ⟨g, r.length * 2 + 1, none⟩ = some (.slice ua x.2.length uc)) w5 := ⟨⟨x2, c0⟩, c1⟩
 clear c0 c1 x2
 refine wpAnyZ_take (i := 8) (v := ?_) rfl (by kernel_rfl) (by kernel_rfl) (by kernel_rfl) (fun _ _ _ h => h) (by kernel_rfl) (Or.inl ⟨by rfl, ?_⟩) (by assumption) ?_
 rotate_left
 ·intro w' hSw
  try dsimp only at hSw
  try obtain ⟨hSw, hSw2⟩ := hSw
  go_simp
  try with_reducible rfl
 show wpAnyZ _ _ _ _ _ _ _ _ (Act.put _ (some 74) _) _
 simp only [Act.put, List.setIfInBounds_toArray, List.set_cons_zero, List.set_cons_succ]
 refine wpAnyZ_take (i := 9) (v := ?_) rfl (by kernel_rfl) (by kernel_rfl) (by kernel_rfl) (fun _ _ _ h => h) (by kernel_rfl) (Or.inl ⟨by rfl, ?_⟩) (by assumption) ?_
 rotate_left
 ·intro w' hSw
  try dsimp only at hSw
  try obtain ⟨hSw, hSw2⟩ := hSw
  go_simp
  try with_reducible rfl
 show wpAnyZ _ _ _ _ _ _ _ _ (Act.put _ (some 83) _) _
 simp only [Act.put, List.setIfInBounds_toArray, List.set_cons_zero, List.set_cons_succ]
 refine wpAnyZ_take (i := 10) (v := ?_) rfl (by kernel_rfl) (by kernel_rfl) (by kernel_rfl) (fun _ _ _ h => h) (by kernel_rfl) (Or.inl ⟨by rfl, ?_⟩) (by assumption) ?_
 rotate_left
 ·intro w' hSw
  try dsimp only at hSw
  try obtain ⟨hSw, hSw2⟩ := hSw
  go_simp
  try with_reducible rfl
 show wpAnyZ _ _ _ _ _ _ _ _ (Act.put _ (some 84) _) _
 simp only [Act.put, List.setIfInBounds_toArray, List.set_cons_zero, List.set_cons_succ]
 clear hSS
 have g0 := cell_of_row w5 y9 0 _ _ _ HX5.out.b9; have g1 := cell_of_row w5 y9 1 _ _ _ HX5.out.b9
 have z0 := frozen_of_row w5 y9 0 _ _ HX5.out.b9; have z1 := frozen_of_row w5 y9 1 _ _ HX5.out.b9
 refine wpAnyZ_oneG (i := 11) (by kernel_rfl) rfl (by rfl) (fun K hK => ?_)
 go_simp
 have hx6 := HX5.out.store (v' := .slice a5 a.1.length k5) (u' := .slice a6 a.2.length k6) hy9 hne9
 have hv6 := HV5.out.turn (w' := ((w5.setCell ⟨y9, 0, none⟩ (.slice a5 a.1.length k5)).setCell ⟨y9, 1, none⟩ (.slice a6 a.2.length k6))) (itst_below HH.out.hB0 hy9 _ _ _) (itst_keep HX5.out.b9 _ _ (by decide))
 have hu6 := HU5.out.turn (w' := ((w5.setCell ⟨y9, 0, none⟩ (.slice a5 a.1.length k5)).setCell ⟨y9, 1, none⟩ (.slice a6 a.2.length k6))) (itst_below HH.out.hB0 hy9 _ _ _) (itst_keep HX5.out.b9 _ _ (by decide))
 clear g0 g1 z0 z1
 generalize ((w5.setCell ⟨y9, 0, none⟩ (.slice a5 a.1.length k5)).setCell ⟨y9, 1, none⟩ (.slice a6 a.2.length k6)) = w6 at hx6 hv6 hu6 ⊢
 have c0 := keepCell hx6.below HC0.out
 have c1 := keepCell hx6.below HC1.out
 have x2 := cell_of_row _ y4 2 _ _ _ hx6.b4
 refine hK.out _ _ (.inr ⟨⟨x2, c0⟩, c1⟩) ?_
 have HT := Lib.hid (ItT.mk (a := a) hx6.below hx6.b9 hv6 hu6)
 clear hK hx6 hv6 hu6 HX5 HV5 HU5
 refine wpAnyZ_oneG (i := 12) (by kernel_rfl) rfl (by rfl) (fun K hK => ?_)
 go_simp
 refine hK.out _ _ (.inl (by omega)) ?_
 clear hK
 refine wpAnyZ_done (by kernel_rfl) ?_ _
 clear x2 c0 c1
 go_upto_region 31 with fail
 have hk1 : (k : Int) ≤ 1048576 := by have := HIT.out.work; omega
 have hk2 : (k : Int) + (a.2.length : Int) ≤ 1048576 := by have := HIT.out.work; omega
 have hRun := block_below HH.out.run HT.out.below
 have r0 := cell_of_row _ R 1 _ _ _ hRun
 have fr0 := frozen_of_row _ R 1 _ _ hRun
 have g1 := cell_of_row _ y9 1 _ _ _ HT.out.b9
 have HRUN := Lib.hid hRun
 clear hRun
 go_region
 have hxu := HT.out.turn HRUN.out HH.out.hR HH.out.hB0 HH.out.run hy9 (k' := k + a.2.length) (.int .i64 ((k : Int) + (a.2.length : Int))) (by simp)
 have hst := hxu.stack HH.out.stk HH.out.hR HH.out.run HH.out.hB0
 clear r0 fr0 g1 HRUN HT
 generalize (w6.setCell { block := R, off := 1 } (Value.int IntKind.i64 ((k : Int) + (a.2.length : Int)))).drew = X at hxu hst ⊢
 have r0 := cell_of_row _ R 1 _ _ _ hxu.run
 have HU := Lib.hid hxu; have HST := Lib.hid hst
 clear hxu hst
 go_upto_region 34 with fail
 clear r0
 have g0 := cell_of_row _ y9 0 _ _ _ HU.out.b9
 have g1 := cell_of_row _ y9 1 _ _ _ HU.out.b9
 refine wp_region_Z (S := fun W' => W'.cell? ⟨y9, 0, none⟩ = some (.slice a5 a.1.length k5) ∧ W'.cell? ⟨y9, 1, none⟩ = some (.slice a6 a.2.length k6)) (z := 11) (by kernel_rfl) ?_
 have hSS : (fun W' : World => W'.cell? ⟨y9, 0, none⟩ = some (.slice a5 a.1.length k5) ∧ W'.cell? ⟨y9, 1, none⟩ = some (.slice a6 a.2.length k6)) X.drew := ⟨g0, g1⟩
 refine wpAnyZ_take (i := 0) (v := ?_) rfl (by kernel_rfl) (by kernel_rfl) (by kernel_rfl) (fun _ _ _ h => h) (by kernel_rfl) (Or.inl ⟨by rfl, ?_⟩) (by assumption) ?_
 rotate_left
 ·intro w' hSw
  try dsimp only at hSw
  try obtain ⟨hSw, hSw2⟩ := hSw
  go_simp
  try with_reducible rfl
 show wpAnyZ _ _ _ _ _ _ _ _ (Act.put _ (some 139) _) _
 simp only [Act.put, List.setIfInBounds_toArray, List.set_cons_zero, List.set_cons_succ]
 refine wpAnyZ_take (i := 1) (v := ?_) rfl (by kernel_rfl) (by kernel_rfl) (by kernel_rfl) (fun _ _ _ h => h) (by kernel_rfl) (Or.inl ⟨by rfl, ?_⟩) (by assumption) ?_
 rotate_left
 ·intro w' hSw
  try dsimp only at hSw
  try obtain ⟨hSw, hSw2⟩ := hSw
  go_simp
  try with_reducible rfl
 show wpAnyZ _ _ _ _ _ _ _ _ (Act.put _ (some 140) _) _
 simp only [Act.put, List.setIfInBounds_toArray, List.set_cons_zero, List.set_cons_succ]
 refine wpAnyZ_take (i := 2) (v := ?_) rfl (by kernel_rfl) (by kernel_rfl) (by kernel_rfl) (fun _ _ _ h => h) (by kernel_rfl) (Or.inl ⟨by rfl, ?_⟩) (by assumption) ?_
 rotate_left
 ·intro w' hSw
  try dsimp only at hSw
  try obtain ⟨hSw, hSw2⟩ := hSw
  go_simp
  try with_reducible rfl
 show wpAnyZ _ _ _ _ _ _ _ _ (Act.put _ (some 141) _) _
 simp only [Act.put, List.setIfInBounds_toArray, List.set_cons_zero, List.set_cons_succ]
 refine wpAnyZ_take (i := 3) (v := ?_) rfl (by kernel_rfl) (by kernel_rfl) (by kernel_rfl) (fun _ _ _ h => h) (by kernel_rfl) (Or.inl ⟨by rfl, ?_⟩) (by assumption) ?_
 rotate_left
 ·intro w' hSw
  try dsimp only at hSw
  try obtain ⟨hSw, hSw2⟩ := hSw
  go_simp
  try with_reducible rfl
 show wpAnyZ _ _ _ _ _ _ _ _ (Act.put _ (some 142) _) _
 simp only [Act.put, List.setIfInBounds_toArray, List.set_cons_zero, List.set_cons_succ]
 refine wpAnyZ_take (i := 4) (v := ?_) rfl (by kernel_rfl) (by kernel_rfl) (by kernel_rfl) (fun _ _ _ h => h) (by kernel_rfl) (Or.inl ⟨by rfl, ?_⟩) (by assumption) ?_
 rotate_left
 ·intro w' hSw
  try dsimp only at hSw
  try obtain ⟨hSw, hSw2⟩ := hSw
  go_simp
  try with_reducible rfl
 show wpAnyZ _ _ _ _ _ _ _ _ (Act.put _ (some 143) _) _
 simp only [Act.put, List.setIfInBounds_toArray, List.set_cons_zero, List.set_cons_succ]
 refine wpAnyZ_take (i := 5) (v := ?_) rfl (by kernel_rfl) (by kernel_rfl) (by kernel_rfl) (fun _ _ _ h => h) (by kernel_rfl) (Or.inl ⟨by rfl, ?_⟩) (by assumption) ?_
 rotate_left
 ·intro w' hSw
  try dsimp only at hSw
  try obtain ⟨hSw, hSw2⟩ := hSw
  go_simp
  try with_reducible rfl
 show wpAnyZ _ _ _ _ _ _ _ _ (Act.put _ (some 144) _) _
 simp only [Act.put, List.setIfInBounds_toArray, List.set_cons_zero, List.set_cons_succ]
 refine wpAnyZ_take (i := 6) (v := ?_) rfl (by kernel_rfl) (by kernel_rfl) (by kernel_rfl) (fun _ _ _ h => h) (by kernel_rfl) (Or.inl ⟨by rfl, ?_⟩) (by assumption) ?_
 rotate_left
 ·intro w' hSw
  try dsimp only at hSw
  try obtain ⟨hSw, hSw2⟩ := hSw
  go_simp
  try with_reducible rfl
 show wpAnyZ _ _ _ _ _ _ _ _ (Act.put _ (some 145) _) _
 simp only [Act.put, List.setIfInBounds_toArray, List.set_cons_zero, List.set_cons_succ]
 refine wpAnyZ_take (i := 7) (v := .slice (some ⟨g, 0, none⟩) r.length r.length) rfl (by kernel_rfl) (by kernel_rfl) (by kernel_rfl) (fun _ _ _ h => h) (by kernel_rfl) (Or.inl ⟨by rfl, ?_⟩) (by assumption) ?_
 ·intro w' hSw
  clear hSw
  go_simp
  rw [wrap_nat hrl, if_pos ⟨by omega, by omega⟩, if_pos ⟨by omega, by omega⟩, Int.toNat_natCast]
 show wpAnyZ _ _ _ _ _ _ _ _ (Act.put _ (some 146) _) _
 simp only [Act.put, List.setIfInBounds_toArray, List.set_cons_zero, List.set_cons_succ]
 refine wpAnyZ_take (i := 8) (v := ?_) rfl (by kernel_rfl) (by kernel_rfl) (by kernel_rfl) (fun _ _ _ h => h) (by kernel_rfl) (Or.inl ⟨by rfl, ?_⟩) (by assumption) ?_
 rotate_left
 ·intro w' hSw
  try dsimp only at hSw
  try obtain ⟨hSw, hSw2⟩ := hSw
  go_simp
  try with_reducible rfl
 show wpAnyZ _ _ _ _ _ _ _ _ (Act.put _ (some 147) _) _
 simp only [Act.put, List.setIfInBounds_toArray, List.set_cons_zero, List.set_cons_succ]
 clear hSS g0 g1
 have hdx : Below X.heap.size X (X.alloc (.cells #[.slice a5 a.1.length k5, .slice a6 a.2.length k6] 44)).drew := ((Below.refl _ X).alloc (Nat.le_refl _) _).drew
 have HV7 := Lib.hid (HU.out.v.below hdx); have HU7 := Lib.hid (HU.out.u.below hdx)
 have HS7 := Lib.hid (RowG.next HST.out hdx)
 have hG : (X.alloc (.cells #[.slice a5 a.1.length k5, .slice a6 a.2.length k6] 44)).drew.heap[X.heap.size]? = some (.cells #[.slice a5 a.1.length k5, .slice a6 a.2.length k6] 44 (0, 0)) := World.alloc_heap_new X (.cells #[.slice a5 a.1.length k5, .slice a6 a.2.length k6] 44)
 have HKB := Lib.hid (kb_out HU.out.kb hdx); have HRX := Lib.hid (block_below HU.out.run hdx)
 have HB9 := Lib.hid (block_below HU.out.b9 hdx)
 refine wpAnyZ_oneG (i := 9) (by kernel_rfl) rfl (by rfl) (fun K hK => ?_)
 go_simp
 clear HU HST hdx
 generalize (X.alloc (.cells #[.slice a5 a.1.length k5, .slice a6 a.2.length k6] 44)).drew = Y at hG HV7 HU7 HS7 HKB HRX HB9 ⊢
 refine hK.out _ _ (.inr ⟨cell_of_row _ y9 0 _ _ _ HB9.out, cell_of_row _ y9 1 _ _ _ HB9.out⟩) ?_
 clear hK
 refine wpAnyZ_oneG (i := 10) (by kernel_rfl) rfl (by rfl) (fun K hK => ?_)
 refine wp_pushP (R := arrK B0) _ _ 47 44 rfl zeroArr 48 Tryz.underlying47 Tryz.infoAry (by rfl) (show 0 < 2 by decide) B0 _ _ _ _ r.length (x :: r).reverse a _ rfl HS7.out (by simp) (fun e => by cases e) rfl hG ⟨_, _, rfl, HV7.out, HU7.out⟩ (by unfold maxLen; omega) (by omega) ?_
 intro v8 w8 hs8 hb8
 refine hK.out _ _ (.inr ⟨cell_of_row _ y9 0 _ _ _ (block_below HB9.out hb8), cell_of_row _ y9 1 _ _ _ (block_below HB9.out hb8)⟩) ?_
 have hfin : ItemE w R B B0 st' k' (.returned (.tuple #[v8, .int .i64 0])) w8 := by
  refine ⟨v8, rfl, ?_, kb_out HKB.out hb8, ?_⟩
  ·have e : ((x :: r).reverse).take r.length ++ [a] = st'.reverse := by
    rw [HIT.out.st, List.reverse_cons, List.take_left' (by simp)]
    simp
   rw [← e]
   exact RowG.mono hs8 HKB.out.size
  ·rw [HIT.out.k]
   exact block_below HRX.out hb8
 have HF := Lib.hid hfin
 clear hK hfin hs8 hb8 HKB HRX HB9 HV7 HU7 HS7 hG
 refine wpAnyZ_oneG (i := 11) (by kernel_rfl) rfl (by rfl) (fun K hK => ?_)
 go_simp
 refine hK.out _ _ (.inl (by omega)) ?_
 clear hK
 refine wpAnyZ_oneG (i := 12) (by kernel_rfl) rfl (by rfl) (fun K hK => ?_)
 go_simp
 refine hK.out _ _ (.inl (by omega)) ?_
 clear hK
 refine wpAnyZ_done (by kernel_rfl) ?_ _
 go_wp2_with fail
 refine bodyPost_ret (v := .tuple #[v8, .int .i64 0]) (results_t2 rfl _ _ rfl rfl) rfl ?_
 exact HF.out
end Go.Proofs.YtokghjnkfabgiaaGreatDoor

namespace Go.Proofs.YtokghjnkfabgiaaGreatDoor
open Go.RowKit Go.Lib

def ItmS (it : Itm) : Prop := it.how = 2 ∨ it.how = 5 ∨ it.how = 6
theorem items_scans : ItemOK ItmS := by
 intro w B0 R B n k MV M hv st H ia it nv hn st' k' t a hit hnm hP
 obtain ⟨how, fn, name, nums⟩ := it
 dsimp only at hn hnm hP ⊢
 have hP : how = 2 ∨ how = 5 ∨ how = 6 := hP
 rcases hP with h2 | h5 | h6
 ·subst h2
  rcases stk_cases H.stk with ⟨rfl, rfl⟩ | ⟨g, c, rfl, hc⟩
  ·exact it_nam0 w B0 R B n k MV M H ia fn name nums nv hn st' k' t a hit hnm
  ·exact it_nam1 w B0 R B n k MV M st g c hc H ia fn name nums nv hn st' k' t a hit hnm
 ·subst h5; exact it_fold w B0 R B n k MV M hv st H ia fn name nums nv hn st' k' t a hit
 ·subst h6; exact it_scan w B0 R B n k MV M hv st H ia fn name nums nv hn st' k' t a hit
end Go.Proofs.YtokghjnkfabgiaaGreatDoor
