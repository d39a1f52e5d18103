import Derived.Test.YtokghjnkfabgiaaGreatDoorTC32
import Derived.Test.YtokghjnkfabgiaaGreatDoorTC30
set_option linter.unusedVariables false
set_option linter.unusedSimpArgs false
set_option maxRecDepth 100000
namespace Go.Proofs.YtokghjnkfabgiaaGreatDoor
open Go.RowKit Go.Lib
attribute [local go_sem] str_size str_get str_toList

set_option maxHeartbeats 8000000 in
theorem it_fold (w : World) (B0 R B n k : Nat) (MV : Str → Option Value) (M : Str → Option AryP) (hv : Value) (st : List AryP) (H : ItH B0 R B n k MV M hv st w) (ia fn : Int) (name : Str) (nums : List Int) (nv : Value) (hn : RowI 0 w nv nums)
  (st' : List AryP) (k' t : Nat) (a : AryP) (hit : ItemA M k ⟨5, fn, name, nums⟩ st st' k' t a) :
  Calls Tryz.prog 58 #[.pointer (some ⟨R, 0, none⟩), .agg #[.int .i64 5, .int .i64 ia, .int .u8 fn, .string (str name), nv], hv] w fun e w' => ItemE w R B B0 st' k' e w' := by
 have htop : ∃ x r, st = x :: r ∧ t = 1 ∧ foldA fn x.1 x.2 = (a, 0) := by
  have h := hit.top
  clear hit H
  cases st with
  | nil => cases h
  | cons x r =>
   have h : okO 1 (foldA fn x.1 x.2) = some (t, a) := h
   obtain ⟨h1, h2⟩ := okO_eq h
   exact ⟨x, r, rfl, h1, h2⟩
 obtain ⟨x, r, rfl, rfl, hval⟩ := htop
 have HH := Lib.hid H; have HIT := Lib.hid hit
 obtain ⟨na, nc, rfl, -⟩ := hn.slice
 obtain ⟨ha, hc, rfl⟩ := H.stk.form
 have HN := Lib.hid hn
 have hy9 : w.heap.size ≤ w.heap.size + 1 := by omega
 have hne9 : w.heap.size + 1 ≠ w.heap.size := by omega
 clear H hit hn
 go_enter Tryz.func58, Tryz.ntmps58
 go_upto_region 4 with fail
 refine gen_worldA (fun W => ItS w w.heap.size (w.heap.size + 1) (#[.int .i64 5, .int .i64 ia, .int .u8 fn, .string (str name), .slice na nums.length nc]) (.slice none 0 0) (.slice none 0 0) W) (ItS.new w _) ?_
 generalize w.heap.size + 1 = y9 at hy9 hne9 ⊢
 obtain ⟨y4, hy4⟩ : ∃ y4, w.heap.size = y4 := ⟨_, rfl⟩
 have hy4' : w.heap.size ≤ y4 := by omega
 rw [hy4] at hne9 ⊢
 clear hy4
 rintro W hx
 obtain ⟨g, v, u, rfl, hn1, hncap, hgM, hgl, hvx, hux, hc0, hc1⟩ := stk_end HH.out.stk
 have hrl : r.length ≤ 1000 := by have := HH.out.stl; simp at this; omega
 have c0 := keepCell hx.below hc0
 have c1 := keepCell hx.below hc1
 have x0 := cell_of_row _ y4 0 _ _ _ hx.b4
 have x2 := cell_of_row _ y4 2 _ _ _ hx.b4
 have hpm : ∀ W', Below w.heap.size w W' → Calls Tryz.prog 96 #[.int .u8 fn, .agg #[v, u]] W' fun e w' => RetArr W'.heap.size (a, 0) e w' ∧ Below W'.heap.size W' w' := fun W' hb => by
  have h := pf_any W' fn v u x.1 x.2 (hvx.below (hb)).sl (hux.below hb).sl
  rwa [hval] at h
 have HP := Lib.hid hpm; have HX := Lib.hid hx
 obtain ⟨va, vc, rfl⟩ := hvx.form
 obtain ⟨ua, uc, rfl⟩ := hux.form
 have hncap : r.length + 1 ≤ hc := by omega
 rw [hn1]
 have HC0 := Lib.hid hc0; have HC1 := Lib.hid hc1
 have hg4 : g ≠ y4 := by omega
 have hg9 : g ≠ y9 := by omega
 clear hpm hx hvx hux hc0 hc1 hval hn1
 go_upto_region 19 with fail
 clear x0
 refine wp_region_Z (S := fun W' => (W'.cell? ⟨y4, 2, none⟩ = some (.int .u8 fn) ∧ W'.cell? ⟨g, r.length * 2, none⟩ = some (.slice va x.1.length vc)) ∧ W'.cell? ⟨g, r.length * 2 + 1, none⟩ = some (.slice ua x.2.length uc)) (z := 12) (by kernel_rfl) ?_
 have hSS : (fun W' : World => (W'.cell? ⟨y4, 2, none⟩ = some (.int .u8 fn) ∧ W'.cell? ⟨g, r.length * 2, none⟩ = some (.slice va x.1.length vc)) ∧ W'.cell? ⟨g, r.length * 2 + 1, none⟩ = some (.slice ua x.2.length uc)) W.drew := ⟨⟨x2, c0⟩, c1⟩
 clear c0 c1 x2
 refine wpAnyZ_take (i := 0) (v := ?_) rfl (by kernel_rfl) (by kernel_rfl) (by kernel_rfl) (fun _ _ _ h => h) (by kernel_rfl) (Or.inl ⟨by rfl, ?_⟩) (by assumption) ?_
 rotate_left
 ·intro w' hSw
  try dsimp only at hSw
  try obtain ⟨hSw, hSw2⟩ := hSw
  go_simp
  try with_reducible rfl
 show wpAnyZ _ _ _ _ _ _ _ _ (Act.put _ (some 62) _) _
 simp only [Act.put, List.setIfInBounds_toArray, List.set_cons_zero, List.set_cons_succ]
 refine wpAnyZ_take (i := 1) (v := ?_) rfl (by kernel_rfl) (by kernel_rfl) (by kernel_rfl) (fun _ _ _ h => h) (by kernel_rfl) (Or.inl ⟨by rfl, ?_⟩) (by assumption) ?_
 rotate_left
 ·intro w' hSw
  try dsimp only at hSw
  try obtain ⟨hSw, hSw2⟩ := hSw
  go_simp
  try with_reducible rfl
 show wpAnyZ _ _ _ _ _ _ _ _ (Act.put _ (some 63) _) _
 simp only [Act.put, List.setIfInBounds_toArray, List.set_cons_zero, List.set_cons_succ]
 refine wpAnyZ_take (i := 2) (v := ?_) rfl (by kernel_rfl) (by kernel_rfl) (by kernel_rfl) (fun _ _ _ h => h) (by kernel_rfl) (Or.inl ⟨by rfl, ?_⟩) (by assumption) ?_
 rotate_left
 ·intro w' hSw
  try dsimp only at hSw
  try obtain ⟨hSw, hSw2⟩ := hSw
  go_simp
  try with_reducible rfl
 show wpAnyZ _ _ _ _ _ _ _ _ (Act.put _ (some 64) _) _
 simp only [Act.put, List.setIfInBounds_toArray, List.set_cons_zero, List.set_cons_succ]
 refine wpAnyZ_take (i := 3) (v := ?_) rfl (by kernel_rfl) (by kernel_rfl) (by kernel_rfl) (fun _ _ _ h => h) (by kernel_rfl) (Or.inl ⟨by rfl, ?_⟩) (by assumption) ?_
 rotate_left
 ·intro w' hSw
  try dsimp only at hSw
  try obtain ⟨hSw, hSw2⟩ := hSw
  go_simp
  try with_reducible rfl
 show wpAnyZ _ _ _ _ _ _ _ _ (Act.put _ (some 65) _) _
 simp only [Act.put, List.setIfInBounds_toArray, List.set_cons_zero, List.set_cons_succ]
 refine wpAnyZ_take (i := 4) (v := ?_) rfl (by kernel_rfl) (by kernel_rfl) (by kernel_rfl) (fun _ _ _ h => h) (by kernel_rfl) (Or.inl ⟨by rfl, ?_⟩) (by assumption) ?_
 rotate_left
 ·intro w' hSw
  try dsimp only at hSw
  try obtain ⟨hSw, hSw2⟩ := hSw
  go_simp
  try with_reducible rfl
 show wpAnyZ _ _ _ _ _ _ _ _ (Act.put _ (some 66) _) _
 simp only [Act.put, List.setIfInBounds_toArray, List.set_cons_zero, List.set_cons_succ]
 refine wpAnyZ_take (i := 5) (v := .pointer (some ⟨g, r.length * 2, none⟩)) rfl (by kernel_rfl) (by kernel_rfl) (by kernel_rfl) (fun _ _ _ h => h) (by kernel_rfl) (Or.inl ⟨by rfl, ?_⟩) (by assumption) ?_
 ·intro w' hSw
  clear hSw
  go_simp
  rw [wrap_nat hrl, if_pos ⟨by omega, by omega⟩, Int.toNat_natCast]
 show wpAnyZ _ _ _ _ _ _ _ _ (Act.put _ (some 67) _) _
 simp only [Act.put, List.setIfInBounds_toArray, List.set_cons_zero, List.set_cons_succ]
 refine wpAnyZ_take (i := 6) (v := ?_) rfl (by kernel_rfl) (by kernel_rfl) (by kernel_rfl) (fun _ _ _ h => h) (by kernel_rfl) (Or.inl ⟨by rfl, ?_⟩) (by assumption) ?_
 rotate_left
 ·intro w' hSw
  try dsimp only at hSw
  try obtain ⟨hSw, hSw2⟩ := hSw
  go_simp
  try with_reducible rfl
 show wpAnyZ _ _ _ _ _ _ _ _ (Act.put _ (some 68) _) _
 simp only [Act.put, List.setIfInBounds_toArray, List.set_cons_zero, List.set_cons_succ]
 refine wpAnyZ_oneG (i := 7) (by kernel_rfl) rfl (by rfl) (fun K hK => ?_)
 go_simp
 refine (HP.out W.drew (HX.out.below.drew)).mono ?_
 rintro e w5 ⟨⟨v5, u5, rfl, hv5, hu5, -⟩, hb5⟩
 have hx5 := (HX.out.next ((Below.refl _ _).drew)).next hb5
 have HV5 := Lib.hid (SlK.own (B0 := B0) hv5 HIT.out.i1); have HU5 := Lib.hid (SlK.own (B0 := B0) hu5 HIT.out.i2)
 have c0 := keepCell hx5.below HC0.out
 have c1 := keepCell hx5.below HC1.out
 have x2 := cell_of_row _ y4 2 _ _ _ hx5.b4
 obtain ⟨a5, k5, rfl, -⟩ := hv5.slice
 obtain ⟨a6, k6, rfl, -⟩ := hu5.slice
 have HX5 := Lib.hid hx5
 show K _ w5
 refine hK.out _ _ (.inr ⟨⟨x2, c0⟩, c1⟩) ?_
 clear hK hv5 hu5 hb5 hx5 HP HX hSS
 have hSS : (fun W' : World => (W'.cell? ⟨y4, 2, none⟩ = some (.int .u8 fn) ∧ W'.cell? ⟨g, r.length * 2, none⟩ = some (.slice va x.1.length vc)) ∧ W'.cell? ⟨g, r.length * 2 + 1, none⟩ = some (.slice ua x.2.length uc)) w5 := ⟨⟨x2, c0⟩, c1⟩
 clear c0 c1 x2
 refine wpAnyZ_take (i := 8) (v := ?_) rfl (by kernel_rfl) (by kernel_rfl) (by kernel_rfl) (fun _ _ _ h => h) (by kernel_rfl) (Or.inl ⟨by rfl, ?_⟩) (by assumption) ?_
 rotate_left
 ·intro w' hSw
  try dsimp only at hSw
  try obtain ⟨hSw, hSw2⟩ := hSw
  go_simp
  try with_reducible rfl
 show wpAnyZ _ _ _ _ _ _ _ _ (Act.put _ (some 61) _) _
 simp only [Act.put, List.setIfInBounds_toArray, List.set_cons_zero, List.set_cons_succ]
 refine wpAnyZ_take (i := 9) (v := ?_) rfl (by kernel_rfl) (by kernel_rfl) (by kernel_rfl) (fun _ _ _ h => h) (by kernel_rfl) (Or.inl ⟨by rfl, ?_⟩) (by assumption) ?_
 rotate_left
 ·intro w' hSw
  try dsimp only at hSw
  try obtain ⟨hSw, hSw2⟩ := hSw
  go_simp
  try with_reducible rfl
 show wpAnyZ _ _ _ _ _ _ _ _ (Act.put _ (some 70) _) _
 simp only [Act.put, List.setIfInBounds_toArray, List.set_cons_zero, List.set_cons_succ]
 refine wpAnyZ_take (i := 10) (v := ?_) rfl (by kernel_rfl) (by kernel_rfl) (by kernel_rfl) (fun _ _ _ h => h) (by kernel_rfl) (Or.inl ⟨by rfl, ?_⟩) (by assumption) ?_
 rotate_left
 ·intro w' hSw
  try dsimp only at hSw
  try obtain ⟨hSw, hSw2⟩ := hSw
  go_simp
  try with_reducible rfl
 show wpAnyZ _ _ _ _ _ _ _ _ (Act.put _ (some 71) _) _
 simp only [Act.put, List.setIfInBounds_toArray, List.set_cons_zero, List.set_cons_succ]
 clear hSS
 have g0 := cell_of_row w5 y9 0 _ _ _ HX5.out.b9; have g1 := cell_of_row w5 y9 1 _ _ _ HX5.out.b9
 have z0 := frozen_of_row w5 y9 0 _ _ HX5.out.b9; have z1 := frozen_of_row w5 y9 1 _ _ HX5.out.b9
 refine wpAnyZ_oneG (i := 11) (by kernel_rfl) rfl (by rfl) (fun K hK => ?_)
 go_simp
 have hx6 := HX5.out.store (v' := .slice a5 a.1.length k5) (u' := .slice a6 a.2.length k6) hy9 hne9
 have hv6 := HV5.out.turn (w' := ((w5.setCell ⟨y9, 0, none⟩ (.slice a5 a.1.length k5)).setCell ⟨y9, 1, none⟩ (.slice a6 a.2.length k6))) (itst_below HH.out.hB0 hy9 _ _ _) (itst_keep HX5.out.b9 _ _ (by decide))
 have hu6 := HU5.out.turn (w' := ((w5.setCell ⟨y9, 0, none⟩ (.slice a5 a.1.length k5)).setCell ⟨y9, 1, none⟩ (.slice a6 a.2.length k6))) (itst_below HH.out.hB0 hy9 _ _ _) (itst_keep HX5.out.b9 _ _ (by decide))
 clear g0 g1 z0 z1
 generalize ((w5.setCell ⟨y9, 0, none⟩ (.slice a5 a.1.length k5)).setCell ⟨y9, 1, none⟩ (.slice a6 a.2.length k6)) = w6 at hx6 hv6 hu6 ⊢
 have c0 := keepCell hx6.below HC0.out
 have c1 := keepCell hx6.below HC1.out
 have x2 := cell_of_row _ y4 2 _ _ _ hx6.b4
 refine hK.out _ _ (.inr ⟨⟨x2, c0⟩, c1⟩) ?_
 have HT := Lib.hid (ItT.mk (a := a) hx6.below hx6.b9 hv6 hu6)
 clear hK hx6 hv6 hu6 HX5 HV5 HU5
 refine wpAnyZ_oneG (i := 12) (by kernel_rfl) rfl (by rfl) (fun K hK => ?_)
 go_simp
 refine hK.out _ _ (.inl (by omega)) ?_
 clear hK
 refine wpAnyZ_done (by kernel_rfl) ?_ _
 clear x2 c0 c1
 go_upto_region 31 with fail
 have hk1 : (k : Int) ≤ 1048576 := by have := HIT.out.work; omega
 have hk2 : (k : Int) + (a.2.length : Int) ≤ 1048576 := by have := HIT.out.work; omega
 have hRun := block_below HH.out.run HT.out.below
 have r0 := cell_of_row _ R 1 _ _ _ hRun
 have fr0 := frozen_of_row _ R 1 _ _ hRun
 have g1 := cell_of_row _ y9 1 _ _ _ HT.out.b9
 have HRUN := Lib.hid hRun
 clear hRun
 go_region
 have hxu := HT.out.turn HRUN.out HH.out.hR HH.out.hB0 HH.out.run hy9 (k' := k + a.2.length) (.int .i64 ((k : Int) + (a.2.length : Int))) (by simp)
 have hst := hxu.stack HH.out.stk HH.out.hR HH.out.run HH.out.hB0
 clear r0 fr0 g1 HRUN HT
 generalize (w6.setCell { block := R, off := 1 } (Value.int IntKind.i64 ((k : Int) + (a.2.length : Int)))).drew = X at hxu hst ⊢
 have r0 := cell_of_row _ R 1 _ _ _ hxu.run
 have HU := Lib.hid hxu; have HST := Lib.hid hst
 clear hxu hst
 go_upto_region 34 with fail
 clear r0
 have g0 := cell_of_row _ y9 0 _ _ _ HU.out.b9
 have g1 := cell_of_row _ y9 1 _ _ _ HU.out.b9
 refine wp_region_Z (S := fun W' => W'.cell? ⟨y9, 0, none⟩ = some (.slice a5 a.1.length k5) ∧ W'.cell? ⟨y9, 1, none⟩ = some (.slice a6 a.2.length k6)) (z := 11) (by kernel_rfl) ?_
 have hSS : (fun W' : World => W'.cell? ⟨y9, 0, none⟩ = some (.slice a5 a.1.length k5) ∧ W'.cell? ⟨y9, 1, none⟩ = some (.slice a6 a.2.length k6)) X.drew := ⟨g0, g1⟩
 refine wpAnyZ_take (i := 0) (v := ?_) rfl (by kernel_rfl) (by kernel_rfl) (by kernel_rfl) (fun _ _ _ h => h) (by kernel_rfl) (Or.inl ⟨by rfl, ?_⟩) (by assumption) ?_
 rotate_left
 ·intro w' hSw
  try dsimp only at hSw
  try obtain ⟨hSw, hSw2⟩ := hSw
  go_simp
  try with_reducible rfl
 show wpAnyZ _ _ _ _ _ _ _ _ (Act.put _ (some 139) _) _
 simp only [Act.put, List.setIfInBounds_toArray, List.set_cons_zero, List.set_cons_succ]
 refine wpAnyZ_take (i := 1) (v := ?_) rfl (by kernel_rfl) (by kernel_rfl) (by kernel_rfl) (fun _ _ _ h => h) (by kernel_rfl) (Or.inl ⟨by rfl, ?_⟩) (by assumption) ?_
 rotate_left
 ·intro w' hSw
  try dsimp only at hSw
  try obtain ⟨hSw, hSw2⟩ := hSw
  go_simp
  try with_reducible rfl
 show wpAnyZ _ _ _ _ _ _ _ _ (Act.put _ (some 140) _) _
 simp only [Act.put, List.setIfInBounds_toArray, List.set_cons_zero, List.set_cons_succ]
 refine wpAnyZ_take (i := 2) (v := ?_) rfl (by kernel_rfl) (by kernel_rfl) (by kernel_rfl) (fun _ _ _ h => h) (by kernel_rfl) (Or.inl ⟨by rfl, ?_⟩) (by assumption) ?_
 rotate_left
 ·intro w' hSw
  try dsimp only at hSw
  try obtain ⟨hSw, hSw2⟩ := hSw
  go_simp
  try with_reducible rfl
 show wpAnyZ _ _ _ _ _ _ _ _ (Act.put _ (some 141) _) _
 simp only [Act.put, List.setIfInBounds_toArray, List.set_cons_zero, List.set_cons_succ]
 refine wpAnyZ_take (i := 3) (v := ?_) rfl (by kernel_rfl) (by kernel_rfl) (by kernel_rfl) (fun _ _ _ h => h) (by kernel_rfl) (Or.inl ⟨by rfl, ?_⟩) (by assumption) ?_
 rotate_left
 ·intro w' hSw
  try dsimp only at hSw
  try obtain ⟨hSw, hSw2⟩ := hSw
  go_simp
  try with_reducible rfl
 show wpAnyZ _ _ _ _ _ _ _ _ (Act.put _ (some 142) _) _
 simp only [Act.put, List.setIfInBounds_toArray, List.set_cons_zero, List.set_cons_succ]
 refine wpAnyZ_take (i := 4) (v := ?_) rfl (by kernel_rfl) (by kernel_rfl) (by kernel_rfl) (fun _ _ _ h => h) (by kernel_rfl) (Or.inl ⟨by rfl, ?_⟩) (by assumption) ?_
 rotate_left
 ·intro w' hSw
  try dsimp only at hSw
  try obtain ⟨hSw, hSw2⟩ := hSw
  go_simp
  try with_reducible rfl
 show wpAnyZ _ _ _ _ _ _ _ _ (Act.put _ (some 143) _) _
 simp only [Act.put, List.setIfInBounds_toArray, List.set_cons_zero, List.set_cons_succ]
 refine wpAnyZ_take (i := 5) (v := ?_) rfl (by kernel_rfl) (by kernel_rfl) (by kernel_rfl) (fun _ _ _ h => h) (by kernel_rfl) (Or.inl ⟨by rfl, ?_⟩) (by assumption) ?_
 rotate_left
 ·intro w' hSw
  try dsimp only at hSw
  try obtain ⟨hSw, hSw2⟩ := hSw
  go_simp
  try with_reducible rfl
 show wpAnyZ _ _ _ _ _ _ _ _ (Act.put _ (some 144) _) _
 simp only [Act.put, List.setIfInBounds_toArray, List.set_cons_zero, List.set_cons_succ]
 refine wpAnyZ_take (i := 6) (v := ?_) rfl (by kernel_rfl) (by kernel_rfl) (by kernel_rfl) (fun _ _ _ h => h) (by kernel_rfl) (Or.inl ⟨by rfl, ?_⟩) (by assumption) ?_
 rotate_left
 ·intro w' hSw
  try dsimp only at hSw
  try obtain ⟨hSw, hSw2⟩ := hSw
  go_simp
  try with_reducible rfl
 show wpAnyZ _ _ _ _ _ _ _ _ (Act.put _ (some 145) _) _
 simp only [Act.put, List.setIfInBounds_toArray, List.set_cons_zero, List.set_cons_succ]
 refine wpAnyZ_take (i := 7) (v := .slice (some ⟨g, 0, none⟩) r.length r.length) rfl (by kernel_rfl) (by kernel_rfl) (by kernel_rfl) (fun _ _ _ h => h) (by kernel_rfl) (Or.inl ⟨by rfl, ?_⟩) (by assumption) ?_
 ·intro w' hSw
  clear hSw
  go_simp
  rw [wrap_nat hrl, if_pos ⟨by omega, by omega⟩, if_pos ⟨by omega, by omega⟩, Int.toNat_natCast]
 show wpAnyZ _ _ _ _ _ _ _ _ (Act.put _ (some 146) _) _
 simp only [Act.put, List.setIfInBounds_toArray, List.set_cons_zero, List.set_cons_succ]
 refine wpAnyZ_take (i := 8) (v := ?_) rfl (by kernel_rfl) (by kernel_rfl) (by kernel_rfl) (fun _ _ _ h => h) (by kernel_rfl) (Or.inl ⟨by rfl, ?_⟩) (by assumption) ?_
 rotate_left
 ·intro w' hSw
  try dsimp only at hSw
  try obtain ⟨hSw, hSw2⟩ := hSw
  go_simp
  try with_reducible rfl
 show wpAnyZ _ _ _ _ _ _ _ _ (Act.put _ (some 147) _) _
 simp only [Act.put, List.setIfInBounds_toArray, List.set_cons_zero, List.set_cons_succ]
 clear hSS g0 g1
 have hdx : Below X.heap.size X (X.alloc (.cells #[.slice a5 a.1.length k5, .slice a6 a.2.length k6] 44)).drew := ((Below.refl _ X).alloc (Nat.le_refl _) _).drew
 have HV7 := Lib.hid (HU.out.v.below hdx); have HU7 := Lib.hid (HU.out.u.below hdx)
 have HS7 := Lib.hid (RowG.next HST.out hdx)
 have hG : (X.alloc (.cells #[.slice a5 a.1.length k5, .slice a6 a.2.length k6] 44)).drew.heap[X.heap.size]? = some (.cells #[.slice a5 a.1.length k5, .slice a6 a.2.length k6] 44 (0, 0)) := World.alloc_heap_new X (.cells #[.slice a5 a.1.length k5, .slice a6 a.2.length k6] 44)
 have HKB := Lib.hid (kb_out HU.out.kb hdx); have HRX := Lib.hid (block_below HU.out.run hdx)
 have HB9 := Lib.hid (block_below HU.out.b9 hdx)
 refine wpAnyZ_oneG (i := 9) (by kernel_rfl) rfl (by rfl) (fun K hK => ?_)
 go_simp
 clear HU HST hdx
 generalize (X.alloc (.cells #[.slice a5 a.1.length k5, .slice a6 a.2.length k6] 44)).drew = Y at hG HV7 HU7 HS7 HKB HRX HB9 ⊢
 refine hK.out _ _ (.inr ⟨cell_of_row _ y9 0 _ _ _ HB9.out, cell_of_row _ y9 1 _ _ _ HB9.out⟩) ?_
 clear hK
 refine wpAnyZ_oneG (i := 10) (by kernel_rfl) rfl (by rfl) (fun K hK => ?_)
 refine wp_pushP (R := arrK B0) _ _ 47 44 rfl zeroArr 48 Tryz.underlying47 Tryz.infoAry (by rfl) (show 0 < 2 by decide) B0 _ _ _ _ r.length (x :: r).reverse a _ rfl HS7.out (by simp) (fun e => by cases e) rfl hG ⟨_, _, rfl, HV7.out, HU7.out⟩ (by unfold maxLen; omega) (by omega) ?_
 intro v8 w8 hs8 hb8
 refine hK.out _ _ (.inr ⟨cell_of_row _ y9 0 _ _ _ (block_below HB9.out hb8), cell_of_row _ y9 1 _ _ _ (block_below HB9.out hb8)⟩) ?_
 have hfin : ItemE w R B B0 st' k' (.returned (.tuple #[v8, .int .i64 0])) w8 := by
  refine ⟨v8, rfl, ?_, kb_out HKB.out hb8, ?_⟩
  ·have e : ((x :: r).reverse).take r.length ++ [a] = st'.reverse := by
    rw [HIT.out.st, List.reverse_cons, List.take_left' (by simp)]
    simp
   rw [← e]
   exact RowG.mono hs8 HKB.out.size
  ·rw [HIT.out.k]
   exact block_below HRX.out hb8
 have HF := Lib.hid hfin
 clear hK hfin hs8 hb8 HKB HRX HB9 HV7 HU7 HS7 hG
 refine wpAnyZ_oneG (i := 11) (by kernel_rfl) rfl (by rfl) (fun K hK => ?_)
 go_simp
 refine hK.out _ _ (.inl (by omega)) ?_
 clear hK
 refine wpAnyZ_oneG (i := 12) (by kernel_rfl) rfl (by rfl) (fun K hK => ?_)
 go_simp
 refine hK.out _ _ (.inl (by omega)) ?_
 clear hK
 refine wpAnyZ_done (by kernel_rfl) ?_ _
 go_wp2_with fail
 refine bodyPost_ret (v := .tuple #[v8, .int .i64 0]) (results_t2 rfl _ _ rfl rfl) rfl ?_
 exact HF.out
end Go.Proofs.YtokghjnkfabgiaaGreatDoor

namespace Go.Proofs.YtokghjnkfabgiaaGreatDoor
open Go.RowKit Go.Lib
attribute [local go_sem] str_size str_get str_toList

theorem stk_end2 {B0 M : Nat} {w : World} {a : Option Addr} {n c : Nat} {y x : AryP} {r : List AryP} (h : StkI B0 M w (.slice a n c) (y :: x :: r).reverse) :
  ∃ g v u v2 u2, a = some ⟨g, 0, none⟩ ∧ n = r.length + 2 ∧ n ≤ c ∧ g < w.heap.size ∧ SlK B0 w v x.1 ∧ SlK B0 w u x.2 ∧ SlK B0 w v2 y.1 ∧ SlK B0 w u2 y.2 ∧
   w.cell? ⟨g, r.length * 2, none⟩ = some v ∧ w.cell? ⟨g, r.length * 2 + 1, none⟩ = some u ∧ w.cell? ⟨g, (r.length + 1) * 2, none⟩ = some v2 ∧ w.cell? ⟨g, (r.length + 1) * 2 + 1, none⟩ = some u2 := by
 obtain ⟨g, v2, u2, e, hn, hnc, hM, hg, h1, h2, h3, h4⟩ := stk_end h
 obtain ⟨g', v, u, e', -, g1, g2, g3, g4⟩ := stk_at h r.length (by simp)
 have hx : (y :: x :: r).reverse[r.length]'(by simp) = x := by
  rw [List.getElem_reverse]
  simp
 rw [hx] at g1 g2
 rw [e] at e'
 cases e'
 exact ⟨g, v, u, v2, u2, e, hn, hnc, hg, g1, g2, h1, h2, g3, g4, h3, h4⟩
theorem wrap_nat1 {n : Nat} (h : n ≤ 998) : IntKind.i64.wrap ((n : Int) + 2 - 1) = ((n + 1 : Nat) : Int) := by rw [IntKind.wrap_i64]; omega
theorem pd_word (w : World) (f : Int) (v u v2 u2 : Value) (s d t e : List Int) (hs : SlA w v s) (hd : SlA w u d) (ht : SlA w v2 t) (he : SlA w u2 e) (htk : takes f true = true) {a : AryP} (hval : dyadA f s d t e = (a, 0)) :
  Calls Tryz.prog 98 #[.int .u8 f, .agg #[v, u], .agg #[v2, u2]] w fun e' w' => RetArr w.heap.size (a, 0) e' w' ∧ Below w.heap.size w w' := by
 have hf := takes_in htk
 cases hr1 : right s d with
 | false =>
  unfold dyadA at hval
  rw [hr1] at hval
  cases hval
 | true =>
  cases hr2 : right t e with
  | false =>
   unfold dyadA at hval
   rw [hr1, hr2] at hval
   cases hval
  | true =>
   have e1 : dyadA f s d t e = if s = t then pairsA f d e s else if s.length = 0 then pairsA f (List.replicate e.length (d.headD 0)) e t else if t.length = 0 then pairsA f d (List.replicate d.length (e.headD 0)) s else noA 72 := by
    unfold dyadA
    rw [hr1, hr2, if_pos (by rfl), if_neg (by omega), if_neg (by omega), if_neg (by omega), if_neg (by omega), if_pos htk]
   rw [← hval, e1]
   by_cases hst : s = t
   ·rw [if_pos hst]; exact pd_eq w f v u v2 u2 s d t e hs hd ht he hr1 hr2 htk hst
   rw [if_neg hst]
   by_cases hs0 : s.length = 0
   ·rw [if_pos hs0]; exact pd_left w f v u v2 u2 s d t e hs hd ht he hr1 hr2 htk hst hs0
   rw [if_neg hs0]
   by_cases ht0 : t.length = 0
   ·rw [if_pos ht0]; exact pd_right w f v u v2 u2 s d t e hs hd ht he hr1 hr2 htk hst hs0 ht0
   rw [hval] at e1
   rw [if_neg hst, if_neg hs0, if_neg ht0] at e1
   cases e1
set_option maxHeartbeats 8000000 in
theorem it_dy (w : World) (B0 R B n k : Nat) (MV : Str → Option Value) (M : Str → Option AryP) (hv : Value) (st : List AryP) (H : ItH B0 R B n k MV M hv st w) (ia fn : Int) (name : Str) (nums : List Int) (nv : Value) (hn : RowI 0 w nv nums)
  (st' : List AryP) (k' t : Nat) (a : AryP) (hit : ItemA M k ⟨4, fn, name, nums⟩ st st' k' t a) (htk : takes fn true = true) :
  Calls Tryz.prog 58 #[.pointer (some ⟨R, 0, none⟩), .agg #[.int .i64 4, .int .i64 ia, .int .u8 fn, .string (str name), nv], hv] w fun e w' => ItemE w R B B0 st' k' e w' := by
 have htop : ∃ y x r, st = y :: x :: r ∧ t = 2 ∧ dyadA fn x.1 x.2 y.1 y.2 = (a, 0) := by
  have h := hit.top
  clear hit H
  match st, h with
  | [], h => cases h
  | [_], h => cases h
  | y :: x :: r, h =>
   have h : okO 2 (dyadA fn x.1 x.2 y.1 y.2) = some (t, a) := h
   obtain ⟨h1, h2⟩ := okO_eq h
   exact ⟨y, x, r, rfl, h1, h2⟩
 obtain ⟨y, x, r, rfl, rfl, hval⟩ := htop
 have HH := Lib.hid H; have HIT := Lib.hid hit
 obtain ⟨na, nc, rfl, -⟩ := hn.slice
 obtain ⟨ha, hc, rfl⟩ := H.stk.form
 have HN := Lib.hid hn
 have hy9 : w.heap.size ≤ w.heap.size + 1 := by omega
 have hne9 : w.heap.size + 1 ≠ w.heap.size := by omega
 clear H hit hn
 go_enter Tryz.func58, Tryz.ntmps58
 go_upto_region 4 with fail
 refine gen_worldA (fun W => ItS w w.heap.size (w.heap.size + 1) (#[.int .i64 4, .int .i64 ia, .int .u8 fn, .string (str name), .slice na nums.length nc]) (.slice none 0 0) (.slice none 0 0) W) (ItS.new w _) ?_
 generalize w.heap.size + 1 = y9 at hy9 hne9 ⊢
 obtain ⟨y4, hy4⟩ : ∃ y4, w.heap.size = y4 := ⟨_, rfl⟩
 have hy4' : w.heap.size ≤ y4 := by omega
 rw [hy4] at hne9 ⊢
 clear hy4
 rintro W hx
 obtain ⟨g, v, u, v2, u2, rfl, hn1, hncap, hgl, hvx, hux, hvy, huy, hc0, hc1, hc2, hc3⟩ := stk_end2 HH.out.stk
 have hrl : r.length ≤ 998 := by have := HH.out.stl; simp at this; omega
 have c0 := keepCell hx.below hc0
 have c1 := keepCell hx.below hc1
 have c2 := keepCell hx.below hc2
 have c3 := keepCell hx.below hc3
 have x0 := cell_of_row _ y4 0 _ _ _ hx.b4
 have x2 := cell_of_row _ y4 2 _ _ _ hx.b4
 have hpm : ∀ W', Below w.heap.size w W' → Calls Tryz.prog 98 #[.int .u8 fn, .agg #[v, u], .agg #[v2, u2]] W' fun e w' => RetArr W'.heap.size (a, 0) e w' ∧ Below W'.heap.size W' w' := fun W' hb => by
  exact pd_word W' fn v u v2 u2 x.1 x.2 y.1 y.2 (hvx.below (hb)).sl (hux.below hb).sl (hvy.below (hb)).sl (huy.below hb).sl htk hval
 have HP := Lib.hid hpm; have HX := Lib.hid hx
 obtain ⟨va, vc, rfl⟩ := hvx.form
 obtain ⟨ua, uc, rfl⟩ := hux.form
 obtain ⟨va2, vc2, rfl⟩ := hvy.form
 obtain ⟨ua2, uc2, rfl⟩ := huy.form
 have hncap : r.length + 2 ≤ hc := by omega
 rw [hn1]
 have HC0 := Lib.hid hc0; have HC1 := Lib.hid hc1; have HC2 := Lib.hid hc2; have HC3 := Lib.hid hc3
 have hg4 : g ≠ y4 := by omega
 have hg9 : g ≠ y9 := by omega
 clear hpm hx hvx hux hvy huy hc0 hc1 hc2 hc3 hval hn1
 go_upto_region 25 with fail
 clear x0
 refine wp_region_Z (S := fun W' => ((((W'.cell? ⟨y4, 2, none⟩ = some (.int .u8 fn) ∧ W'.cell? ⟨g, r.length * 2, none⟩ = some (.slice va x.1.length vc)) ∧ W'.cell? ⟨g, r.length * 2 + 1, none⟩ = some (.slice ua x.2.length uc)) ∧ W'.cell? ⟨g, (r.length + 1) * 2, none⟩ = some (.slice va2 y.1.length vc2)) ∧ W'.cell? ⟨g, (r.length + 1) * 2 + 1, none⟩ = some (.slice ua2 y.2.length uc2))) (z := 17) (by kernel_rfl) ?_
 have hSS : (fun W' : World => ((((W'.cell? ⟨y4, 2, none⟩ = some (.int .u8 fn) ∧ W'.cell? ⟨g, r.length * 2, none⟩ = some (.slice va x.1.length vc)) ∧ W'.cell? ⟨g, r.length * 2 + 1, none⟩ = some (.slice ua x.2.length uc)) ∧ W'.cell? ⟨g, (r.length + 1) * 2, none⟩ = some (.slice va2 y.1.length vc2)) ∧ W'.cell? ⟨g, (r.length + 1) * 2 + 1, none⟩ = some (.slice ua2 y.2.length uc2))) W.drew := ⟨⟨⟨⟨x2, c0⟩, c1⟩, c2⟩, c3⟩
 clear c0 c1 c2 c3 x2
 refine wpAnyZ_take (i := 0) (v := ?_) rfl (by kernel_rfl) (by kernel_rfl) (by kernel_rfl) (fun _ _ _ h => h) (by kernel_rfl) (Or.inl ⟨by rfl, ?_⟩) (by assumption) ?_
 rotate_left
 ·intro w' hSw
  try dsimp only at hSw
  try obtain ⟨hSw, hSw2⟩ := hSw
  go_simp
  try with_reducible rfl
 show wpAnyZ _ _ _ _ _ _ _ _ (Act.put _ (some 88) _) _
 simp only [Act.put, List.setIfInBounds_toArray, List.set_cons_zero, List.set_cons_succ]
 refine wpAnyZ_take (i := 1) (v := ?_) rfl (by kernel_rfl) (by kernel_rfl) (by kernel_rfl) (fun _ _ _ h => h) (by kernel_rfl) (Or.inl ⟨by rfl, ?_⟩) (by assumption) ?_
 rotate_left
 ·intro w' hSw
  try dsimp only at hSw
  try obtain ⟨hSw, hSw2⟩ := hSw
  go_simp
  try with_reducible rfl
 show wpAnyZ _ _ _ _ _ _ _ _ (Act.put _ (some 89) _) _
 simp only [Act.put, List.setIfInBounds_toArray, List.set_cons_zero, List.set_cons_succ]
 refine wpAnyZ_take (i := 2) (v := ?_) rfl (by kernel_rfl) (by kernel_rfl) (by kernel_rfl) (fun _ _ _ h => h) (by kernel_rfl) (Or.inl ⟨by rfl, ?_⟩) (by assumption) ?_
 rotate_left
 ·intro w' hSw
  try dsimp only at hSw
  try obtain ⟨hSw, hSw2⟩ := hSw
  go_simp
  try with_reducible rfl
 show wpAnyZ _ _ _ _ _ _ _ _ (Act.put _ (some 90) _) _
 simp only [Act.put, List.setIfInBounds_toArray, List.set_cons_zero, List.set_cons_succ]
 refine wpAnyZ_take (i := 3) (v := ?_) rfl (by kernel_rfl) (by kernel_rfl) (by kernel_rfl) (fun _ _ _ h => h) (by kernel_rfl) (Or.inl ⟨by rfl, ?_⟩) (by assumption) ?_
 rotate_left
 ·intro w' hSw
  try dsimp only at hSw
  try obtain ⟨hSw, hSw2⟩ := hSw
  go_simp
  try with_reducible rfl
 show wpAnyZ _ _ _ _ _ _ _ _ (Act.put _ (some 91) _) _
 simp only [Act.put, List.setIfInBounds_toArray, List.set_cons_zero, List.set_cons_succ]
 refine wpAnyZ_take (i := 4) (v := ?_) rfl (by kernel_rfl) (by kernel_rfl) (by kernel_rfl) (fun _ _ _ h => h) (by kernel_rfl) (Or.inl ⟨by rfl, ?_⟩) (by assumption) ?_
 rotate_left
 ·intro w' hSw
  try dsimp only at hSw
  try obtain ⟨hSw, hSw2⟩ := hSw
  go_simp
  try with_reducible rfl
 show wpAnyZ _ _ _ _ _ _ _ _ (Act.put _ (some 92) _) _
 simp only [Act.put, List.setIfInBounds_toArray, List.set_cons_zero, List.set_cons_succ]
 refine wpAnyZ_take (i := 5) (v := .pointer (some ⟨g, r.length * 2, none⟩)) rfl (by kernel_rfl) (by kernel_rfl) (by kernel_rfl) (fun _ _ _ h => h) (by kernel_rfl) (Or.inl ⟨by rfl, ?_⟩) (by assumption) ?_
 ·intro w' hSw
  clear hSw
  go_simp
  rw [wrap_nat (by omega), if_pos ⟨by omega, by omega⟩, Int.toNat_natCast]
 show wpAnyZ _ _ _ _ _ _ _ _ (Act.put _ (some 93) _) _
 simp only [Act.put, List.setIfInBounds_toArray, List.set_cons_zero, List.set_cons_succ]
 refine wpAnyZ_take (i := 6) (v := ?_) rfl (by kernel_rfl) (by kernel_rfl) (by kernel_rfl) (fun _ _ _ h => h) (by kernel_rfl) (Or.inl ⟨by rfl, ?_⟩) (by assumption) ?_
 rotate_left
 ·intro w' hSw
  try dsimp only at hSw
  try obtain ⟨hSw, hSw2⟩ := hSw
  go_simp
  try with_reducible rfl
 show wpAnyZ _ _ _ _ _ _ _ _ (Act.put _ (some 94) _) _
 simp only [Act.put, List.setIfInBounds_toArray, List.set_cons_zero, List.set_cons_succ]
 refine wpAnyZ_take (i := 7) (v := ?_) rfl (by kernel_rfl) (by kernel_rfl) (by kernel_rfl) (fun _ _ _ h => h) (by kernel_rfl) (Or.inl ⟨by rfl, ?_⟩) (by assumption) ?_
 rotate_left
 ·intro w' hSw
  try dsimp only at hSw
  try obtain ⟨hSw, hSw2⟩ := hSw
  go_simp
  try with_reducible rfl
 show wpAnyZ _ _ _ _ _ _ _ _ (Act.put _ (some 95) _) _
 simp only [Act.put, List.setIfInBounds_toArray, List.set_cons_zero, List.set_cons_succ]
 refine wpAnyZ_take (i := 8) (v := ?_) rfl (by kernel_rfl) (by kernel_rfl) (by kernel_rfl) (fun _ _ _ h => h) (by kernel_rfl) (Or.inl ⟨by rfl, ?_⟩) (by assumption) ?_
 rotate_left
 ·intro w' hSw
  try dsimp only at hSw
  try obtain ⟨hSw, hSw2⟩ := hSw
  go_simp
  try with_reducible rfl
 show wpAnyZ _ _ _ _ _ _ _ _ (Act.put _ (some 96) _) _
 simp only [Act.put, List.setIfInBounds_toArray, List.set_cons_zero, List.set_cons_succ]
 refine wpAnyZ_take (i := 9) (v := ?_) rfl (by kernel_rfl) (by kernel_rfl) (by kernel_rfl) (fun _ _ _ h => h) (by kernel_rfl) (Or.inl ⟨by rfl, ?_⟩) (by assumption) ?_
 rotate_left
 ·intro w' hSw
  try dsimp only at hSw
  try obtain ⟨hSw, hSw2⟩ := hSw
  go_simp
  try with_reducible rfl
 show wpAnyZ _ _ _ _ _ _ _ _ (Act.put _ (some 97) _) _
 simp only [Act.put, List.setIfInBounds_toArray, List.set_cons_zero, List.set_cons_succ]
 refine wpAnyZ_take (i := 10) (v := .pointer (some ⟨g, (r.length + 1) * 2, none⟩)) rfl (by kernel_rfl) (by kernel_rfl) (by kernel_rfl) (fun _ _ _ h => h) (by kernel_rfl) (Or.inl ⟨by rfl, ?_⟩) (by assumption) ?_
 ·intro w' hSw
  clear hSw
  go_simp
  rw [wrap_nat1 hrl, if_pos ⟨by omega, by omega⟩, Int.toNat_natCast]
 show wpAnyZ _ _ _ _ _ _ _ _ (Act.put _ (some 98) _) _
 simp only [Act.put, List.setIfInBounds_toArray, List.set_cons_zero, List.set_cons_succ]
 refine wpAnyZ_take (i := 11) (v := ?_) rfl (by kernel_rfl) (by kernel_rfl) (by kernel_rfl) (fun _ _ _ h => h) (by kernel_rfl) (Or.inl ⟨by rfl, ?_⟩) (by assumption) ?_
 rotate_left
 ·intro w' hSw
  try dsimp only at hSw
  try obtain ⟨hSw, hSw2⟩ := hSw
  go_simp
  try with_reducible rfl
 show wpAnyZ _ _ _ _ _ _ _ _ (Act.put _ (some 99) _) _
 simp only [Act.put, List.setIfInBounds_toArray, List.set_cons_zero, List.set_cons_succ]
 refine wpAnyZ_oneG (i := 12) (by kernel_rfl) rfl (by rfl) (fun K hK => ?_)
 go_simp
 refine (HP.out W.drew (HX.out.below.drew)).mono ?_
 rintro e w5 ⟨⟨v5, u5, rfl, hv5, hu5, -⟩, hb5⟩
 have hx5 := (HX.out.next ((Below.refl _ _).drew)).next hb5
 have HV5 := Lib.hid (SlK.own (B0 := B0) hv5 HIT.out.i1); have HU5 := Lib.hid (SlK.own (B0 := B0) hu5 HIT.out.i2)
 have c0 := keepCell hx5.below HC0.out
 have c1 := keepCell hx5.below HC1.out
 have c2 := keepCell hx5.below HC2.out
 have c3 := keepCell hx5.below HC3.out
 have x2 := cell_of_row _ y4 2 _ _ _ hx5.b4
 obtain ⟨a5, k5, rfl, -⟩ := hv5.slice
 obtain ⟨a6, k6, rfl, -⟩ := hu5.slice
 have HX5 := Lib.hid hx5
 show K _ w5
 refine hK.out _ _ (.inr ⟨⟨⟨⟨x2, c0⟩, c1⟩, c2⟩, c3⟩) ?_
 clear hK hv5 hu5 hb5 hx5 HP HX hSS
 have hSS : (fun W' : World => ((((W'.cell? ⟨y4, 2, none⟩ = some (.int .u8 fn) ∧ W'.cell? ⟨g, r.length * 2, none⟩ = some (.slice va x.1.length vc)) ∧ W'.cell? ⟨g, r.length * 2 + 1, none⟩ = some (.slice ua x.2.length uc)) ∧ W'.cell? ⟨g, (r.length + 1) * 2, none⟩ = some (.slice va2 y.1.length vc2)) ∧ W'.cell? ⟨g, (r.length + 1) * 2 + 1, none⟩ = some (.slice ua2 y.2.length uc2))) w5 := ⟨⟨⟨⟨x2, c0⟩, c1⟩, c2⟩, c3⟩
 clear c0 c1 c2 c3 x2
 refine wpAnyZ_take (i := 13) (v := ?_) rfl (by kernel_rfl) (by kernel_rfl) (by kernel_rfl) (fun _ _ _ h => h) (by kernel_rfl) (Or.inl ⟨by rfl, ?_⟩) (by assumption) ?_
 rotate_left
 ·intro w' hSw
  try dsimp only at hSw
  try obtain ⟨hSw, hSw2⟩ := hSw
  go_simp
  try with_reducible rfl
 show wpAnyZ _ _ _ _ _ _ _ _ (Act.put _ (some 87) _) _
 simp only [Act.put, List.setIfInBounds_toArray, List.set_cons_zero, List.set_cons_succ]
 refine wpAnyZ_take (i := 14) (v := ?_) rfl (by kernel_rfl) (by kernel_rfl) (by kernel_rfl) (fun _ _ _ h => h) (by kernel_rfl) (Or.inl ⟨by rfl, ?_⟩) (by assumption) ?_
 rotate_left
 ·intro w' hSw
  try dsimp only at hSw
  try obtain ⟨hSw, hSw2⟩ := hSw
  go_simp
  try with_reducible rfl
 show wpAnyZ _ _ _ _ _ _ _ _ (Act.put _ (some 101) _) _
 simp only [Act.put, List.setIfInBounds_toArray, List.set_cons_zero, List.set_cons_succ]
 refine wpAnyZ_take (i := 15) (v := ?_) rfl (by kernel_rfl) (by kernel_rfl) (by kernel_rfl) (fun _ _ _ h => h) (by kernel_rfl) (Or.inl ⟨by rfl, ?_⟩) (by assumption) ?_
 rotate_left
 ·intro w' hSw
  try dsimp only at hSw
  try obtain ⟨hSw, hSw2⟩ := hSw
  go_simp
  try with_reducible rfl
 show wpAnyZ _ _ _ _ _ _ _ _ (Act.put _ (some 102) _) _
 simp only [Act.put, List.setIfInBounds_toArray, List.set_cons_zero, List.set_cons_succ]
 clear hSS
 have g0 := cell_of_row w5 y9 0 _ _ _ HX5.out.b9; have g1 := cell_of_row w5 y9 1 _ _ _ HX5.out.b9
 have z0 := frozen_of_row w5 y9 0 _ _ HX5.out.b9; have z1 := frozen_of_row w5 y9 1 _ _ HX5.out.b9
 refine wpAnyZ_oneG (i := 16) (by kernel_rfl) rfl (by rfl) (fun K hK => ?_)
 go_simp
 have hx6 := HX5.out.store (v' := .slice a5 a.1.length k5) (u' := .slice a6 a.2.length k6) hy9 hne9
 have hv6 := HV5.out.turn (w' := ((w5.setCell ⟨y9, 0, none⟩ (.slice a5 a.1.length k5)).setCell ⟨y9, 1, none⟩ (.slice a6 a.2.length k6))) (itst_below HH.out.hB0 hy9 _ _ _) (itst_keep HX5.out.b9 _ _ (by decide))
 have hu6 := HU5.out.turn (w' := ((w5.setCell ⟨y9, 0, none⟩ (.slice a5 a.1.length k5)).setCell ⟨y9, 1, none⟩ (.slice a6 a.2.length k6))) (itst_below HH.out.hB0 hy9 _ _ _) (itst_keep HX5.out.b9 _ _ (by decide))
 clear g0 g1 z0 z1
 generalize ((w5.setCell ⟨y9, 0, none⟩ (.slice a5 a.1.length k5)).setCell ⟨y9, 1, none⟩ (.slice a6 a.2.length k6)) = w6 at hx6 hv6 hu6 ⊢
 have c0 := keepCell hx6.below HC0.out
 have c1 := keepCell hx6.below HC1.out
 have c2 := keepCell hx6.below HC2.out
 have c3 := keepCell hx6.below HC3.out
 have x2 := cell_of_row _ y4 2 _ _ _ hx6.b4
 refine hK.out _ _ (.inr ⟨⟨⟨⟨x2, c0⟩, c1⟩, c2⟩, c3⟩) ?_
 have HT := Lib.hid (ItT.mk (a := a) hx6.below hx6.b9 hv6 hu6)
 clear hK hx6 hv6 hu6 HX5 HV5 HU5
 refine wpAnyZ_oneG (i := 17) (by kernel_rfl) rfl (by rfl) (fun K hK => ?_)
 go_simp
 refine hK.out _ _ (.inl (by omega)) ?_
 clear hK
 refine wpAnyZ_done (by kernel_rfl) ?_ _
 clear x2 c0 c1 c2 c3
 go_upto_region 31 with fail
 have hk1 : (k : Int) ≤ 1048576 := by have := HIT.out.work; omega
 have hk2 : (k : Int) + (a.2.length : Int) ≤ 1048576 := by have := HIT.out.work; omega
 have hRun := block_below HH.out.run HT.out.below
 have r0 := cell_of_row _ R 1 _ _ _ hRun
 have fr0 := frozen_of_row _ R 1 _ _ hRun
 have g1 := cell_of_row _ y9 1 _ _ _ HT.out.b9
 have HRUN := Lib.hid hRun
 clear hRun
 go_region
 have hxu := HT.out.turn HRUN.out HH.out.hR HH.out.hB0 HH.out.run hy9 (k' := k + a.2.length) (.int .i64 ((k : Int) + (a.2.length : Int))) (by simp)
 have hst := hxu.stack HH.out.stk HH.out.hR HH.out.run HH.out.hB0
 clear r0 fr0 g1 HRUN HT
 generalize (w6.setCell { block := R, off := 1 } (Value.int IntKind.i64 ((k : Int) + (a.2.length : Int)))).drew = X at hxu hst ⊢
 have r0 := cell_of_row _ R 1 _ _ _ hxu.run
 have HU := Lib.hid hxu; have HST := Lib.hid hst
 clear hxu hst
 go_upto_region 34 with fail
 clear r0
 have g0 := cell_of_row _ y9 0 _ _ _ HU.out.b9
 have g1 := cell_of_row _ y9 1 _ _ _ HU.out.b9
 refine wp_region_Z (S := fun W' => W'.cell? ⟨y9, 0, none⟩ = some (.slice a5 a.1.length k5) ∧ W'.cell? ⟨y9, 1, none⟩ = some (.slice a6 a.2.length k6)) (z := 11) (by kernel_rfl) ?_
 have hSS : (fun W' : World => W'.cell? ⟨y9, 0, none⟩ = some (.slice a5 a.1.length k5) ∧ W'.cell? ⟨y9, 1, none⟩ = some (.slice a6 a.2.length k6)) X.drew := ⟨g0, g1⟩
 refine wpAnyZ_take (i := 0) (v := ?_) rfl (by kernel_rfl) (by kernel_rfl) (by kernel_rfl) (fun _ _ _ h => h) (by kernel_rfl) (Or.inl ⟨by rfl, ?_⟩) (by assumption) ?_
 rotate_left
 ·intro w' hSw
  try dsimp only at hSw
  try obtain ⟨hSw, hSw2⟩ := hSw
  go_simp
  try with_reducible rfl
 show wpAnyZ _ _ _ _ _ _ _ _ (Act.put _ (some 139) _) _
 simp only [Act.put, List.setIfInBounds_toArray, List.set_cons_zero, List.set_cons_succ]
 refine wpAnyZ_take (i := 1) (v := ?_) rfl (by kernel_rfl) (by kernel_rfl) (by kernel_rfl) (fun _ _ _ h => h) (by kernel_rfl) (Or.inl ⟨by rfl, ?_⟩) (by assumption) ?_
 rotate_left
 ·intro w' hSw
  try dsimp only at hSw
  try obtain ⟨hSw, hSw2⟩ := hSw
  go_simp
  try with_reducible rfl
 show wpAnyZ _ _ _ _ _ _ _ _ (Act.put _ (some 140) _) _
 simp only [Act.put, List.setIfInBounds_toArray, List.set_cons_zero, List.set_cons_succ]
 refine wpAnyZ_take (i := 2) (v := ?_) rfl (by kernel_rfl) (by kernel_rfl) (by kernel_rfl) (fun _ _ _ h => h) (by kernel_rfl) (Or.inl ⟨by rfl, ?_⟩) (by assumption) ?_
 rotate_left
 ·intro w' hSw
  try dsimp only at hSw
  try obtain ⟨hSw, hSw2⟩ := hSw
  go_simp
  try with_reducible rfl
 show wpAnyZ _ _ _ _ _ _ _ _ (Act.put _ (some 141) _) _
 simp only [Act.put, List.setIfInBounds_toArray, List.set_cons_zero, List.set_cons_succ]
 refine wpAnyZ_take (i := 3) (v := ?_) rfl (by kernel_rfl) (by kernel_rfl) (by kernel_rfl) (fun _ _ _ h => h) (by kernel_rfl) (Or.inl ⟨by rfl, ?_⟩) (by assumption) ?_
 rotate_left
 ·intro w' hSw
  try dsimp only at hSw
  try obtain ⟨hSw, hSw2⟩ := hSw
  go_simp
  try with_reducible rfl
 show wpAnyZ _ _ _ _ _ _ _ _ (Act.put _ (some 142) _) _
 simp only [Act.put, List.setIfInBounds_toArray, List.set_cons_zero, List.set_cons_succ]
 refine wpAnyZ_take (i := 4) (v := ?_) rfl (by kernel_rfl) (by kernel_rfl) (by kernel_rfl) (fun _ _ _ h => h) (by kernel_rfl) (Or.inl ⟨by rfl, ?_⟩) (by assumption) ?_
 rotate_left
 ·intro w' hSw
  try dsimp only at hSw
  try obtain ⟨hSw, hSw2⟩ := hSw
  go_simp
  try with_reducible rfl
 show wpAnyZ _ _ _ _ _ _ _ _ (Act.put _ (some 143) _) _
 simp only [Act.put, List.setIfInBounds_toArray, List.set_cons_zero, List.set_cons_succ]
 refine wpAnyZ_take (i := 5) (v := ?_) rfl (by kernel_rfl) (by kernel_rfl) (by kernel_rfl) (fun _ _ _ h => h) (by kernel_rfl) (Or.inl ⟨by rfl, ?_⟩) (by assumption) ?_
 rotate_left
 ·intro w' hSw
  try dsimp only at hSw
  try obtain ⟨hSw, hSw2⟩ := hSw
  go_simp
  try with_reducible rfl
 show wpAnyZ _ _ _ _ _ _ _ _ (Act.put _ (some 144) _) _
 simp only [Act.put, List.setIfInBounds_toArray, List.set_cons_zero, List.set_cons_succ]
 refine wpAnyZ_take (i := 6) (v := ?_) rfl (by kernel_rfl) (by kernel_rfl) (by kernel_rfl) (fun _ _ _ h => h) (by kernel_rfl) (Or.inl ⟨by rfl, ?_⟩) (by assumption) ?_
 rotate_left
 ·intro w' hSw
  try dsimp only at hSw
  try obtain ⟨hSw, hSw2⟩ := hSw
  go_simp
  try with_reducible rfl
 show wpAnyZ _ _ _ _ _ _ _ _ (Act.put _ (some 145) _) _
 simp only [Act.put, List.setIfInBounds_toArray, List.set_cons_zero, List.set_cons_succ]
 refine wpAnyZ_take (i := 7) (v := .slice (some ⟨g, 0, none⟩) r.length r.length) rfl (by kernel_rfl) (by kernel_rfl) (by kernel_rfl) (fun _ _ _ h => h) (by kernel_rfl) (Or.inl ⟨by rfl, ?_⟩) (by assumption) ?_
 ·intro w' hSw
  clear hSw
  go_simp
  rw [wrap_nat (by omega), if_pos ⟨by omega, by omega⟩, if_pos ⟨by omega, by omega⟩, Int.toNat_natCast]
 show wpAnyZ _ _ _ _ _ _ _ _ (Act.put _ (some 146) _) _
 simp only [Act.put, List.setIfInBounds_toArray, List.set_cons_zero, List.set_cons_succ]
 refine wpAnyZ_take (i := 8) (v := ?_) rfl (by kernel_rfl) (by kernel_rfl) (by kernel_rfl) (fun _ _ _ h => h) (by kernel_rfl) (Or.inl ⟨by rfl, ?_⟩) (by assumption) ?_
 rotate_left
 ·intro w' hSw
  try dsimp only at hSw
  try obtain ⟨hSw, hSw2⟩ := hSw
  go_simp
  try with_reducible rfl
 show wpAnyZ _ _ _ _ _ _ _ _ (Act.put _ (some 147) _) _
 simp only [Act.put, List.setIfInBounds_toArray, List.set_cons_zero, List.set_cons_succ]
 clear hSS g0 g1
 have hdx : Below X.heap.size X (X.alloc (.cells #[.slice a5 a.1.length k5, .slice a6 a.2.length k6] 44)).drew := ((Below.refl _ X).alloc (Nat.le_refl _) _).drew
 have HV7 := Lib.hid (HU.out.v.below hdx); have HU7 := Lib.hid (HU.out.u.below hdx)
 have HS7 := Lib.hid (RowG.next HST.out hdx)
 have hG : (X.alloc (.cells #[.slice a5 a.1.length k5, .slice a6 a.2.length k6] 44)).drew.heap[X.heap.size]? = some (.cells #[.slice a5 a.1.length k5, .slice a6 a.2.length k6] 44 (0, 0)) := World.alloc_heap_new X (.cells #[.slice a5 a.1.length k5, .slice a6 a.2.length k6] 44)
 have HKB := Lib.hid (kb_out HU.out.kb hdx); have HRX := Lib.hid (block_below HU.out.run hdx)
 have HB9 := Lib.hid (block_below HU.out.b9 hdx)
 refine wpAnyZ_oneG (i := 9) (by kernel_rfl) rfl (by rfl) (fun K hK => ?_)
 go_simp
 clear HU HST hdx
 generalize (X.alloc (.cells #[.slice a5 a.1.length k5, .slice a6 a.2.length k6] 44)).drew = Y at hG HV7 HU7 HS7 HKB HRX HB9 ⊢
 refine hK.out _ _ (.inr ⟨cell_of_row _ y9 0 _ _ _ HB9.out, cell_of_row _ y9 1 _ _ _ HB9.out⟩) ?_
 clear hK
 refine wpAnyZ_oneG (i := 10) (by kernel_rfl) rfl (by rfl) (fun K hK => ?_)
 refine wp_pushP (R := arrK B0) _ _ 47 44 rfl zeroArr 48 Tryz.underlying47 Tryz.infoAry (by rfl) (show 0 < 2 by decide) B0 _ _ _ _ r.length (y :: x :: r).reverse a _ rfl HS7.out (by simp) (fun e => by cases e) rfl hG ⟨_, _, rfl, HV7.out, HU7.out⟩ (by unfold maxLen; omega) (by omega) ?_
 intro v8 w8 hs8 hb8
 refine hK.out _ _ (.inr ⟨cell_of_row _ y9 0 _ _ _ (block_below HB9.out hb8), cell_of_row _ y9 1 _ _ _ (block_below HB9.out hb8)⟩) ?_
 have hfin : ItemE w R B B0 st' k' (.returned (.tuple #[v8, .int .i64 0])) w8 := by
  refine ⟨v8, rfl, ?_, kb_out HKB.out hb8, ?_⟩
  ·have e : ((y :: x :: r).reverse).take r.length ++ [a] = st'.reverse := by
    rw [HIT.out.st, List.reverse_cons, List.reverse_cons, List.append_assoc, List.take_left' (by simp)]
    simp
   rw [← e]
   exact RowG.mono hs8 HKB.out.size
  ·rw [HIT.out.k]
   exact block_below HRX.out hb8
 have HF := Lib.hid hfin
 clear hK hfin hs8 hb8 HKB HRX HB9 HV7 HU7 HS7 hG
 refine wpAnyZ_oneG (i := 11) (by kernel_rfl) rfl (by rfl) (fun K hK => ?_)
 go_simp
 refine hK.out _ _ (.inl (by omega)) ?_
 clear hK
 refine wpAnyZ_oneG (i := 12) (by kernel_rfl) rfl (by rfl) (fun K hK => ?_)
 go_simp
 refine hK.out _ _ (.inl (by omega)) ?_
 clear hK
 refine wpAnyZ_done (by kernel_rfl) ?_ _
 go_wp2_with fail
 refine bodyPost_ret (v := .tuple #[v8, .int .i64 0]) (results_t2 rfl _ _ rfl rfl) rfl ?_
 exact HF.out
end Go.Proofs.YtokghjnkfabgiaaGreatDoor

namespace Go.Proofs.YtokghjnkfabgiaaGreatDoor
open Go.RowKit Go.Lib
attribute [local go_sem] str_size str_get str_toList

theorem stk_cases {B0 M : Nat} {w : World} {v : Value} {st : List AryP} (h : StkI B0 M w v st.reverse) : (st = [] ∧ v = .slice none 0 0) ∨ ∃ g c, v = .slice (some ⟨g, 0, none⟩) st.length c ∧ st.length ≤ c := by
 obtain ⟨cs, h0, -⟩ := h
 obtain ⟨_, ⟨hv, h0⟩ | ⟨g', cap, cur, hv, _, _, hc, _⟩⟩ := h0
 ·exact .inl ⟨by simpa using h0, hv⟩
 ·rw [List.length_reverse] at hv hc
  exact .inr ⟨g', cap, hv, hc⟩
theorem SlK.nil (B0 : Nat) (w : World) : SlK B0 w (.slice none 0 0) [] := .inl ⟨⟨none, 0, rfl, Nat.le_refl _, Nat.zero_le _, fun _ => rfl, IntsAt.nil _ _ _, fun x hx => by cases hx⟩, fun h0 => absurd h0 (Nat.lt_irrefl 0)⟩
theorem ItS.store1 {w W : World} {y4 y9 : Nat} {cs : Array Value} {v u u' : Value} (h : ItS w y4 y9 cs v u W) (hy : w.heap.size ≤ y9) (hne : y9 ≠ y4) : ItS w y4 y9 cs v u' (W.setCell ⟨y9, 1, none⟩ u') := by
 refine ⟨h.below.setCell hy _, block_other h.b4 hne _, ?_⟩
 rw [heap_setCell_same _ y9 1 _ _ _ h.b9]
 rfl
theorem itst_below1 {B0 y9 : Nat} {w : World} (h : B0 ≤ w.heap.size) (hy : w.heap.size ≤ y9) (W : World) (u : Value) : Below B0 W (W.setCell ⟨y9, 1, none⟩ u) := (Below.refl B0 W).setCell (p := ⟨y9, 1, none⟩) (show B0 ≤ y9 by omega) _
theorem itst_keep1 {y9 : Nat} {W : World} {v0 u0 : Value} {t : TypeId} (h : W.heap[y9]? = some (.cells #[v0, u0] 44 (0, 0))) (u : Value) (ht : 44 ≠ t) : KeepTy t W (W.setCell ⟨y9, 1, none⟩ u) := KeepTy.setCell (p := ⟨y9, 1, none⟩) (NotTy.of h ht) _
set_option maxHeartbeats 8000000 in
theorem it_num0 (w : World) (B0 R B n k : Nat) (MV : Str → Option Value) (M : Str → Option AryP)  (H : ItH B0 R B n k MV M (.slice none 0 0) [] w) (ia fn : Int) (name : Str) (nums : List Int) (nv : Value) (hn : RowI 0 w nv nums)
  (st' : List AryP) (k' t : Nat) (a : AryP) (hit : ItemA M k ⟨1, fn, name, nums⟩ [] st' k' t a) :
  Calls Tryz.prog 58 #[.pointer (some ⟨R, 0, none⟩), .agg #[.int .i64 1, .int .i64 ia, .int .u8 fn, .string (str name), nv], (.slice none 0 0)] w fun e w' => ItemE w R B B0 st' k' e w' := by
 have htop : nums.length = 1 ∧ t = 0 ∧ a = ([], nums) := by
  have h := hit.top
  have h : (if nums.length = 1 then some (0, (([], nums) : AryP)) else none) = some (t, a) := h
  split at h
  ·rename_i h1
   simp only [Option.some.injEq, Prod.mk.injEq] at h
   exact ⟨h1, h.1.symm, h.2.symm⟩
  ·cases h
 obtain ⟨hn1, rfl, ha⟩ := htop
 have HN1 := Lib.hid hn1; have HA := Lib.hid ha
 clear hn1 ha
 have HH := Lib.hid H; have HIT := Lib.hid hit
 obtain ⟨na, nc, rfl, hn2⟩ := hn.slice
 have HN := Lib.hid hn; have HN2 := Lib.hid hn2
 have hy9 : w.heap.size ≤ w.heap.size + 1 := by omega
 have hne9 : w.heap.size + 1 ≠ w.heap.size := by omega
 clear H hit hn hn2
 go_enter Tryz.func58, Tryz.ntmps58
 go_upto_region 4 with fail
 refine gen_worldA (fun W => ItS w w.heap.size (w.heap.size + 1) (#[.int .i64 1, .int .i64 ia, .int .u8 fn, .string (str name), .slice na nums.length nc]) (.slice none 0 0) (.slice none 0 0) W) (ItS.new w _) ?_
 generalize w.heap.size + 1 = y9 at hy9 hne9 ⊢
 obtain ⟨y4, hy4⟩ : ∃ y4, w.heap.size = y4 := ⟨_, rfl⟩
 have hy4' : w.heap.size ≤ y4 := by omega
 rw [hy4] at hne9 ⊢
 clear hy4
 rintro W hx
 have hcl := fun W' (hb : Below w.heap.size w W') => clone_any W' na nc nums (by rw [HN1.out]; decide) (HN2.out.2.below hb (Nat.le_refl _))
 have HC := Lib.hid hcl; have HX := Lib.hid hx
 have x0 := cell_of_row _ y4 0 _ _ _ hx.b4
 have x4 := cell_of_row _ y4 4 _ _ _ hx.b4
 clear hcl hx
 go_wp2_with (go_at_call 59; fail)
 refine (HC.out W HX.out.below).mono ?_
 rintro e w5 ⟨⟨u5, rfl, hu5⟩, hb5⟩
 have hx5 := HX.out.next hb5
 have HV5 := Lib.hid (show SlK B0 w5 (.slice none 0 0) a.1 by rw [HA.out]; exact SlK.nil _ _)
 have HU5 := Lib.hid (show SlK B0 w5 u5 a.2 by rw [HA.out]; exact SlK.own hu5 (fun x hx => HIT.out.i2 x (by rw [HA.out]; exact hx)))
 obtain ⟨a6, k6, rfl, -⟩ := hu5.slice
 have HX5 := Lib.hid hx5
 clear x0 x4 hb5 hx5 hu5 HC HX
 have g0 := cell_of_row w5 y9 0 _ _ _ HX5.out.b9; have g1 := cell_of_row w5 y9 1 _ _ _ HX5.out.b9
 have z0 := frozen_of_row w5 y9 0 _ _ HX5.out.b9; have z1 := frozen_of_row w5 y9 1 _ _ HX5.out.b9
 rw [HN1.out] at HU5 ⊢
 go_upto_region 7 with fail
 have hx6 := HX5.out.store1 (u' := .slice a6 1 k6) hy9 hne9
 have hv6 := HV5.out.turn (w' := (w5.setCell ⟨y9, 1, none⟩ (.slice a6 1 k6))) (itst_below1 HH.out.hB0 hy9 _ _) (itst_keep1 HX5.out.b9 _ (by decide))
 have hu6 := HU5.out.turn (w' := (w5.setCell ⟨y9, 1, none⟩ (.slice a6 1 k6))) (itst_below1 HH.out.hB0 hy9 _ _) (itst_keep1 HX5.out.b9 _ (by decide))
 clear g0 g1 z0 z1
 generalize (w5.setCell ⟨y9, 1, none⟩ (.slice a6 1 k6)) = w6 at hx6 hv6 hu6 ⊢
 have g1 := cell_of_row _ y9 1 _ _ _ hx6.b9
 obtain ⟨a5, k5, e5⟩ : ∃ a5 k5, Value.slice none 0 0 = .slice a5 a.1.length k5 := ⟨none, 0, by rw [HA.out]; rfl⟩
 have e6 : Value.slice a6 1 k6 = .slice a6 a.2.length k6 := by rw [HA.out, HN1.out]
 have hb9 := hx6.b9
 have hv6 : SlK B0 w6 (.slice a5 a.1.length k5) a.1 := by rw [← e5]; exact hv6
 have hu6 : SlK B0 w6 (.slice a6 a.2.length k6) a.2 := by rw [← e6]; exact hu6
 rw [e5, e6] at hb9
 have HT := Lib.hid (ItT.mk (a := a) hx6.below hb9 hv6 hu6)
 clear hx6 hv6 hu6 HX5 HV5 HU5 HA e5 e6 hb9 HN1
 go_upto_region 9 with fail
 clear g1
 go_upto_region 31 with fail
 have hk1 : (k : Int) ≤ 1048576 := by have := HIT.out.work; omega
 have hk2 : (k : Int) + (a.2.length : Int) ≤ 1048576 := by have := HIT.out.work; omega
 have hRun := block_below HH.out.run HT.out.below
 have r0 := cell_of_row _ R 1 _ _ _ hRun
 have fr0 := frozen_of_row _ R 1 _ _ hRun
 have g1 := cell_of_row _ y9 1 _ _ _ HT.out.b9
 have HRUN := Lib.hid hRun
 clear hRun
 go_region
 have hxu := HT.out.turn HRUN.out HH.out.hR HH.out.hB0 HH.out.run hy9 (k' := k + a.2.length) (.int .i64 ((k : Int) + (a.2.length : Int))) (by simp)
 have hst := hxu.stack HH.out.stk HH.out.hR HH.out.run HH.out.hB0
 clear r0 fr0 g1 HRUN HT
 generalize (w6.setCell { block := R, off := 1 } (Value.int IntKind.i64 ((k : Int) + (a.2.length : Int)))).drew = X at hxu hst ⊢
 have r0 := cell_of_row _ R 1 _ _ _ hxu.run
 have HU := Lib.hid hxu; have HST := Lib.hid hst
 clear hxu hst
 go_upto_region 34 with fail
 clear r0
 have g0 := cell_of_row _ y9 0 _ _ _ HU.out.b9
 have g1 := cell_of_row _ y9 1 _ _ _ HU.out.b9
 refine wp_region_Z (S := fun W' => W'.cell? ⟨y9, 0, none⟩ = some (.slice a5 a.1.length k5) ∧ W'.cell? ⟨y9, 1, none⟩ = some (.slice a6 a.2.length k6)) (z := 11) (by kernel_rfl) ?_
 have hSS : (fun W' : World => W'.cell? ⟨y9, 0, none⟩ = some (.slice a5 a.1.length k5) ∧ W'.cell? ⟨y9, 1, none⟩ = some (.slice a6 a.2.length k6)) X.drew := ⟨g0, g1⟩
 refine wpAnyZ_take (i := 0) (v := ?_) rfl (by kernel_rfl) (by kernel_rfl) (by kernel_rfl) (fun _ _ _ h => h) (by kernel_rfl) (Or.inl ⟨by rfl, ?_⟩) (by assumption) ?_
 rotate_left
 ·intro w' hSw
  try dsimp only at hSw
  try obtain ⟨hSw, hSw2⟩ := hSw
  go_simp
  try with_reducible rfl
 show wpAnyZ _ _ _ _ _ _ _ _ (Act.put _ (some 139) _) _
 simp only [Act.put, List.setIfInBounds_toArray, List.set_cons_zero, List.set_cons_succ]
 refine wpAnyZ_take (i := 1) (v := ?_) rfl (by kernel_rfl) (by kernel_rfl) (by kernel_rfl) (fun _ _ _ h => h) (by kernel_rfl) (Or.inl ⟨by rfl, ?_⟩) (by assumption) ?_
 rotate_left
 ·intro w' hSw
  try dsimp only at hSw
  try obtain ⟨hSw, hSw2⟩ := hSw
  go_simp
  try with_reducible rfl
 show wpAnyZ _ _ _ _ _ _ _ _ (Act.put _ (some 140) _) _
 simp only [Act.put, List.setIfInBounds_toArray, List.set_cons_zero, List.set_cons_succ]
 refine wpAnyZ_take (i := 2) (v := ?_) rfl (by kernel_rfl) (by kernel_rfl) (by kernel_rfl) (fun _ _ _ h => h) (by kernel_rfl) (Or.inl ⟨by rfl, ?_⟩) (by assumption) ?_
 rotate_left
 ·intro w' hSw
  try dsimp only at hSw
  try obtain ⟨hSw, hSw2⟩ := hSw
  go_simp
  try with_reducible rfl
 show wpAnyZ _ _ _ _ _ _ _ _ (Act.put _ (some 141) _) _
 simp only [Act.put, List.setIfInBounds_toArray, List.set_cons_zero, List.set_cons_succ]
 refine wpAnyZ_take (i := 3) (v := ?_) rfl (by kernel_rfl) (by kernel_rfl) (by kernel_rfl) (fun _ _ _ h => h) (by kernel_rfl) (Or.inl ⟨by rfl, ?_⟩) (by assumption) ?_
 rotate_left
 ·intro w' hSw
  try dsimp only at hSw
  try obtain ⟨hSw, hSw2⟩ := hSw
  go_simp
  try with_reducible rfl
 show wpAnyZ _ _ _ _ _ _ _ _ (Act.put _ (some 142) _) _
 simp only [Act.put, List.setIfInBounds_toArray, List.set_cons_zero, List.set_cons_succ]
 refine wpAnyZ_take (i := 4) (v := ?_) rfl (by kernel_rfl) (by kernel_rfl) (by kernel_rfl) (fun _ _ _ h => h) (by kernel_rfl) (Or.inl ⟨by rfl, ?_⟩) (by assumption) ?_
 rotate_left
 ·intro w' hSw
  try dsimp only at hSw
  try obtain ⟨hSw, hSw2⟩ := hSw
  go_simp
  try with_reducible rfl
 show wpAnyZ _ _ _ _ _ _ _ _ (Act.put _ (some 143) _) _
 simp only [Act.put, List.setIfInBounds_toArray, List.set_cons_zero, List.set_cons_succ]
 refine wpAnyZ_take (i := 5) (v := ?_) rfl (by kernel_rfl) (by kernel_rfl) (by kernel_rfl) (fun _ _ _ h => h) (by kernel_rfl) (Or.inl ⟨by rfl, ?_⟩) (by assumption) ?_
 rotate_left
 ·intro w' hSw
  try dsimp only at hSw
  try obtain ⟨hSw, hSw2⟩ := hSw
  go_simp
  try with_reducible rfl
 show wpAnyZ _ _ _ _ _ _ _ _ (Act.put _ (some 144) _) _
 simp only [Act.put, List.setIfInBounds_toArray, List.set_cons_zero, List.set_cons_succ]
 refine wpAnyZ_take (i := 6) (v := ?_) rfl (by kernel_rfl) (by kernel_rfl) (by kernel_rfl) (fun _ _ _ h => h) (by kernel_rfl) (Or.inl ⟨by rfl, ?_⟩) (by assumption) ?_
 rotate_left
 ·intro w' hSw
  try dsimp only at hSw
  try obtain ⟨hSw, hSw2⟩ := hSw
  go_simp
  try with_reducible rfl
 show wpAnyZ _ _ _ _ _ _ _ _ (Act.put _ (some 145) _) _
 simp only [Act.put, List.setIfInBounds_toArray, List.set_cons_zero, List.set_cons_succ]
 refine wpAnyZ_take (i := 7) (v := .slice none 0 0) rfl (by kernel_rfl) (by kernel_rfl) (by kernel_rfl) (fun _ _ _ h => h) (by kernel_rfl) (Or.inl ⟨by rfl, ?_⟩) (by assumption) ?_
 ·intro w' hSw
  clear hSw
  go_simp
  rw [show IntKind.i64.wrap 0 = 0 from by decide]; rfl
 show wpAnyZ _ _ _ _ _ _ _ _ (Act.put _ (some 146) _) _
 simp only [Act.put, List.setIfInBounds_toArray, List.set_cons_zero, List.set_cons_succ]
 refine wpAnyZ_take (i := 8) (v := ?_) rfl (by kernel_rfl) (by kernel_rfl) (by kernel_rfl) (fun _ _ _ h => h) (by kernel_rfl) (Or.inl ⟨by rfl, ?_⟩) (by assumption) ?_
 rotate_left
 ·intro w' hSw
  try dsimp only at hSw
  try obtain ⟨hSw, hSw2⟩ := hSw
  go_simp
  try with_reducible rfl
 show wpAnyZ _ _ _ _ _ _ _ _ (Act.put _ (some 147) _) _
 simp only [Act.put, List.setIfInBounds_toArray, List.set_cons_zero, List.set_cons_succ]
 clear hSS g0 g1
 have hdx : Below X.heap.size X (X.alloc (.cells #[.slice a5 a.1.length k5, .slice a6 a.2.length k6] 44)).drew := ((Below.refl _ X).alloc (Nat.le_refl _) _).drew
 have HV7 := Lib.hid (HU.out.v.below hdx); have HU7 := Lib.hid (HU.out.u.below hdx)
 have HS7 := Lib.hid (RowG.next HST.out hdx)
 have hG : (X.alloc (.cells #[.slice a5 a.1.length k5, .slice a6 a.2.length k6] 44)).drew.heap[X.heap.size]? = some (.cells #[.slice a5 a.1.length k5, .slice a6 a.2.length k6] 44 (0, 0)) := World.alloc_heap_new X (.cells #[.slice a5 a.1.length k5, .slice a6 a.2.length k6] 44)
 have HKB := Lib.hid (kb_out HU.out.kb hdx); have HRX := Lib.hid (block_below HU.out.run hdx)
 have HB9 := Lib.hid (block_below HU.out.b9 hdx)
 refine wpAnyZ_oneG (i := 9) (by kernel_rfl) rfl (by rfl) (fun K hK => ?_)
 go_simp
 clear HU HST hdx
 generalize (X.alloc (.cells #[.slice a5 a.1.length k5, .slice a6 a.2.length k6] 44)).drew = Y at hG HV7 HU7 HS7 HKB HRX HB9 ⊢
 refine hK.out _ _ (.inr ⟨cell_of_row _ y9 0 _ _ _ HB9.out, cell_of_row _ y9 1 _ _ _ HB9.out⟩) ?_
 clear hK
 refine wpAnyZ_oneG (i := 10) (by kernel_rfl) rfl (by rfl) (fun K hK => ?_)
 refine wp_pushP (R := arrK B0) _ _ 47 44 rfl zeroArr 48 Tryz.underlying47 Tryz.infoAry (by rfl) (show 0 < 2 by decide) B0 _ _ _ _ 0 ([] : List AryP).reverse a _ rfl HS7.out (by simp) (fun _ => rfl) rfl hG ⟨_, _, rfl, HV7.out, HU7.out⟩ (by unfold maxLen; omega) (by omega) ?_
 intro v8 w8 hs8 hb8
 refine hK.out _ _ (.inr ⟨cell_of_row _ y9 0 _ _ _ (block_below HB9.out hb8), cell_of_row _ y9 1 _ _ _ (block_below HB9.out hb8)⟩) ?_
 have hfin : ItemE w R B B0 st' k' (.returned (.tuple #[v8, .int .i64 0])) w8 := by
  refine ⟨v8, rfl, ?_, kb_out HKB.out hb8, ?_⟩
  ·have e : (([] : List AryP).reverse).take 0 ++ [a] = st'.reverse := by
    rw [HIT.out.st]; rfl
   rw [← e]
   exact RowG.mono hs8 HKB.out.size
  ·rw [HIT.out.k]
   exact block_below HRX.out hb8
 have HF := Lib.hid hfin
 clear hK hfin hs8 hb8 HKB HRX HB9 HV7 HU7 HS7 hG
 refine wpAnyZ_oneG (i := 11) (by kernel_rfl) rfl (by rfl) (fun K hK => ?_)
 go_simp
 refine hK.out _ _ (.inl (by omega)) ?_
 clear hK
 refine wpAnyZ_oneG (i := 12) (by kernel_rfl) rfl (by rfl) (fun K hK => ?_)
 go_simp
 refine hK.out _ _ (.inl (by omega)) ?_
 clear hK
 refine wpAnyZ_done (by kernel_rfl) ?_ _
 go_wp2_with fail
 refine bodyPost_ret (v := .tuple #[v8, .int .i64 0]) (results_t2 rfl _ _ rfl rfl) rfl ?_
 exact HF.out
set_option maxHeartbeats 8000000 in
theorem it_num1 (w : World) (B0 R B n k : Nat) (MV : Str → Option Value) (M : Str → Option AryP) (st : List AryP) (g hc : Nat) (hcap : st.length ≤ hc) (H : ItH B0 R B n k MV M (.slice (some ⟨g, 0, none⟩) st.length hc) st w) (ia fn : Int) (name : Str) (nums : List Int) (nv : Value) (hn : RowI 0 w nv nums)
  (st' : List AryP) (k' t : Nat) (a : AryP) (hit : ItemA M k ⟨1, fn, name, nums⟩ st st' k' t a) :
  Calls Tryz.prog 58 #[.pointer (some ⟨R, 0, none⟩), .agg #[.int .i64 1, .int .i64 ia, .int .u8 fn, .string (str name), nv], (.slice (some ⟨g, 0, none⟩) st.length hc)] w fun e w' => ItemE w R B B0 st' k' e w' := by
 have htop : nums.length = 1 ∧ t = 0 ∧ a = ([], nums) := by
  have h := hit.top
  have h : (if nums.length = 1 then some (0, (([], nums) : AryP)) else none) = some (t, a) := h
  split at h
  ·rename_i h1
   simp only [Option.some.injEq, Prod.mk.injEq] at h
   exact ⟨h1, h.1.symm, h.2.symm⟩
  ·cases h
 obtain ⟨hn1, rfl, ha⟩ := htop
 have HN1 := Lib.hid hn1; have HA := Lib.hid ha
 clear hn1 ha
 have HH := Lib.hid H; have HIT := Lib.hid hit
 obtain ⟨na, nc, rfl, hn2⟩ := hn.slice
 have HN := Lib.hid hn; have HN2 := Lib.hid hn2
 have hy9 : w.heap.size ≤ w.heap.size + 1 := by omega
 have hne9 : w.heap.size + 1 ≠ w.heap.size := by omega
 clear H hit hn hn2
 go_enter Tryz.func58, Tryz.ntmps58
 go_upto_region 4 with fail
 refine gen_worldA (fun W => ItS w w.heap.size (w.heap.size + 1) (#[.int .i64 1, .int .i64 ia, .int .u8 fn, .string (str name), .slice na nums.length nc]) (.slice none 0 0) (.slice none 0 0) W) (ItS.new w _) ?_
 generalize w.heap.size + 1 = y9 at hy9 hne9 ⊢
 obtain ⟨y4, hy4⟩ : ∃ y4, w.heap.size = y4 := ⟨_, rfl⟩
 have hy4' : w.heap.size ≤ y4 := by omega
 rw [hy4] at hne9 ⊢
 clear hy4
 rintro W hx
 have hcl := fun W' (hb : Below w.heap.size w W') => clone_any W' na nc nums (by rw [HN1.out]; decide) (HN2.out.2.below hb (Nat.le_refl _))
 have HC := Lib.hid hcl; have HX := Lib.hid hx
 have x0 := cell_of_row _ y4 0 _ _ _ hx.b4
 have x4 := cell_of_row _ y4 4 _ _ _ hx.b4
 clear hcl hx
 go_wp2_with (go_at_call 59; fail)
 refine (HC.out W HX.out.below).mono ?_
 rintro e w5 ⟨⟨u5, rfl, hu5⟩, hb5⟩
 have hx5 := HX.out.next hb5
 have HV5 := Lib.hid (show SlK B0 w5 (.slice none 0 0) a.1 by rw [HA.out]; exact SlK.nil _ _)
 have HU5 := Lib.hid (show SlK B0 w5 u5 a.2 by rw [HA.out]; exact SlK.own hu5 (fun x hx => HIT.out.i2 x (by rw [HA.out]; exact hx)))
 obtain ⟨a6, k6, rfl, -⟩ := hu5.slice
 have HX5 := Lib.hid hx5
 clear x0 x4 hb5 hx5 hu5 HC HX
 have g0 := cell_of_row w5 y9 0 _ _ _ HX5.out.b9; have g1 := cell_of_row w5 y9 1 _ _ _ HX5.out.b9
 have z0 := frozen_of_row w5 y9 0 _ _ HX5.out.b9; have z1 := frozen_of_row w5 y9 1 _ _ HX5.out.b9
 rw [HN1.out] at HU5 ⊢
 go_upto_region 7 with fail
 have hx6 := HX5.out.store1 (u' := .slice a6 1 k6) hy9 hne9
 have hv6 := HV5.out.turn (w' := (w5.setCell ⟨y9, 1, none⟩ (.slice a6 1 k6))) (itst_below1 HH.out.hB0 hy9 _ _) (itst_keep1 HX5.out.b9 _ (by decide))
 have hu6 := HU5.out.turn (w' := (w5.setCell ⟨y9, 1, none⟩ (.slice a6 1 k6))) (itst_below1 HH.out.hB0 hy9 _ _) (itst_keep1 HX5.out.b9 _ (by decide))
 clear g0 g1 z0 z1
 generalize (w5.setCell ⟨y9, 1, none⟩ (.slice a6 1 k6)) = w6 at hx6 hv6 hu6 ⊢
 have g1 := cell_of_row _ y9 1 _ _ _ hx6.b9
 obtain ⟨a5, k5, e5⟩ : ∃ a5 k5, Value.slice none 0 0 = .slice a5 a.1.length k5 := ⟨none, 0, by rw [HA.out]; rfl⟩
 have e6 : Value.slice a6 1 k6 = .slice a6 a.2.length k6 := by rw [HA.out, HN1.out]
 have hb9 := hx6.b9
 have hv6 : SlK B0 w6 (.slice a5 a.1.length k5) a.1 := by rw [← e5]; exact hv6
 have hu6 : SlK B0 w6 (.slice a6 a.2.length k6) a.2 := by rw [← e6]; exact hu6
 rw [e5, e6] at hb9
 have HT := Lib.hid (ItT.mk (a := a) hx6.below hb9 hv6 hu6)
 clear hx6 hv6 hu6 HX5 HV5 HU5 HA e5 e6 hb9 HN1
 go_upto_region 9 with fail
 clear g1
 have hstl : st.length ≤ 1000 := HH.out.stl
 go_upto_region 31 with fail
 have hk1 : (k : Int) ≤ 1048576 := by have := HIT.out.work; omega
 have hk2 : (k : Int) + (a.2.length : Int) ≤ 1048576 := by have := HIT.out.work; omega
 have hRun := block_below HH.out.run HT.out.below
 have r0 := cell_of_row _ R 1 _ _ _ hRun
 have fr0 := frozen_of_row _ R 1 _ _ hRun
 have g1 := cell_of_row _ y9 1 _ _ _ HT.out.b9
 have HRUN := Lib.hid hRun
 clear hRun
 go_region
 have hxu := HT.out.turn HRUN.out HH.out.hR HH.out.hB0 HH.out.run hy9 (k' := k + a.2.length) (.int .i64 ((k : Int) + (a.2.length : Int))) (by simp)
 have hst := hxu.stack HH.out.stk HH.out.hR HH.out.run HH.out.hB0
 clear r0 fr0 g1 HRUN HT
 generalize (w6.setCell { block := R, off := 1 } (Value.int IntKind.i64 ((k : Int) + (a.2.length : Int)))).drew = X at hxu hst ⊢
 have r0 := cell_of_row _ R 1 _ _ _ hxu.run
 have HU := Lib.hid hxu; have HST := Lib.hid hst
 clear hxu hst
 go_upto_region 34 with fail
 clear r0
 have g0 := cell_of_row _ y9 0 _ _ _ HU.out.b9
 have g1 := cell_of_row _ y9 1 _ _ _ HU.out.b9
 refine wp_region_Z (S := fun W' => W'.cell? ⟨y9, 0, none⟩ = some (.slice a5 a.1.length k5) ∧ W'.cell? ⟨y9, 1, none⟩ = some (.slice a6 a.2.length k6)) (z := 11) (by kernel_rfl) ?_
 have hSS : (fun W' : World => W'.cell? ⟨y9, 0, none⟩ = some (.slice a5 a.1.length k5) ∧ W'.cell? ⟨y9, 1, none⟩ = some (.slice a6 a.2.length k6)) X.drew := ⟨g0, g1⟩
 refine wpAnyZ_take (i := 0) (v := ?_) rfl (by kernel_rfl) (by kernel_rfl) (by kernel_rfl) (fun _ _ _ h => h) (by kernel_rfl) (Or.inl ⟨by rfl, ?_⟩) (by assumption) ?_
 rotate_left
 ·intro w' hSw
  try dsimp only at hSw
  try obtain ⟨hSw, hSw2⟩ := hSw
  go_simp
  try with_reducible rfl
 show wpAnyZ _ _ _ _ _ _ _ _ (Act.put _ (some 139) _) _
 simp only [Act.put, List.setIfInBounds_toArray, List.set_cons_zero, List.set_cons_succ]
 refine wpAnyZ_take (i := 1) (v := ?_) rfl (by kernel_rfl) (by kernel_rfl) (by kernel_rfl) (fun _ _ _ h => h) (by kernel_rfl) (Or.inl ⟨by rfl, ?_⟩) (by assumption) ?_
 rotate_left
 ·intro w' hSw
  try dsimp only at hSw
  try obtain ⟨hSw, hSw2⟩ := hSw
  go_simp
  try with_reducible rfl
 show wpAnyZ _ _ _ _ _ _ _ _ (Act.put _ (some 140) _) _
 simp only [Act.put, List.setIfInBounds_toArray, List.set_cons_zero, List.set_cons_succ]
 refine wpAnyZ_take (i := 2) (v := ?_) rfl (by kernel_rfl) (by kernel_rfl) (by kernel_rfl) (fun _ _ _ h => h) (by kernel_rfl) (Or.inl ⟨by rfl, ?_⟩) (by assumption) ?_
 rotate_left
 ·intro w' hSw
  try dsimp only at hSw
  try obtain ⟨hSw, hSw2⟩ := hSw
  go_simp
  try with_reducible rfl
 show wpAnyZ _ _ _ _ _ _ _ _ (Act.put _ (some 141) _) _
 simp only [Act.put, List.setIfInBounds_toArray, List.set_cons_zero, List.set_cons_succ]
 refine wpAnyZ_take (i := 3) (v := ?_) rfl (by kernel_rfl) (by kernel_rfl) (by kernel_rfl) (fun _ _ _ h => h) (by kernel_rfl) (Or.inl ⟨by rfl, ?_⟩) (by assumption) ?_
 rotate_left
 ·intro w' hSw
  try dsimp only at hSw
  try obtain ⟨hSw, hSw2⟩ := hSw
  go_simp
  try with_reducible rfl
 show wpAnyZ _ _ _ _ _ _ _ _ (Act.put _ (some 142) _) _
 simp only [Act.put, List.setIfInBounds_toArray, List.set_cons_zero, List.set_cons_succ]
 refine wpAnyZ_take (i := 4) (v := ?_) rfl (by kernel_rfl) (by kernel_rfl) (by kernel_rfl) (fun _ _ _ h => h) (by kernel_rfl) (Or.inl ⟨by rfl, ?_⟩) (by assumption) ?_
 rotate_left
 ·intro w' hSw
  try dsimp only at hSw
  try obtain ⟨hSw, hSw2⟩ := hSw
  go_simp
  try with_reducible rfl
 show wpAnyZ _ _ _ _ _ _ _ _ (Act.put _ (some 143) _) _
 simp only [Act.put, List.setIfInBounds_toArray, List.set_cons_zero, List.set_cons_succ]
 refine wpAnyZ_take (i := 5) (v := ?_) rfl (by kernel_rfl) (by kernel_rfl) (by kernel_rfl) (fun _ _ _ h => h) (by kernel_rfl) (Or.inl ⟨by rfl, ?_⟩) (by assumption) ?_
 rotate_left
 ·intro w' hSw
  try dsimp only at hSw
  try obtain ⟨hSw, hSw2⟩ := hSw
  go_simp
  try with_reducible rfl
 show wpAnyZ _ _ _ _ _ _ _ _ (Act.put _ (some 144) _) _
 simp only [Act.put, List.setIfInBounds_toArray, List.set_cons_zero, List.set_cons_succ]
 refine wpAnyZ_take (i := 6) (v := ?_) rfl (by kernel_rfl) (by kernel_rfl) (by kernel_rfl) (fun _ _ _ h => h) (by kernel_rfl) (Or.inl ⟨by rfl, ?_⟩) (by assumption) ?_
 rotate_left
 ·intro w' hSw
  try dsimp only at hSw
  try obtain ⟨hSw, hSw2⟩ := hSw
  go_simp
  try with_reducible rfl
 show wpAnyZ _ _ _ _ _ _ _ _ (Act.put _ (some 145) _) _
 simp only [Act.put, List.setIfInBounds_toArray, List.set_cons_zero, List.set_cons_succ]
 refine wpAnyZ_take (i := 7) (v := .slice (some ⟨g, 0, none⟩) st.length st.length) rfl (by kernel_rfl) (by kernel_rfl) (by kernel_rfl) (fun _ _ _ h => h) (by kernel_rfl) (Or.inl ⟨by rfl, ?_⟩) (by assumption) ?_
 ·intro w' hSw
  clear hSw
  go_simp
  rw [wrap_nat hstl, if_pos ⟨by omega, by omega⟩, if_pos ⟨by omega, by omega⟩, Int.toNat_natCast]
 show wpAnyZ _ _ _ _ _ _ _ _ (Act.put _ (some 146) _) _
 simp only [Act.put, List.setIfInBounds_toArray, List.set_cons_zero, List.set_cons_succ]
 refine wpAnyZ_take (i := 8) (v := ?_) rfl (by kernel_rfl) (by kernel_rfl) (by kernel_rfl) (fun _ _ _ h => h) (by kernel_rfl) (Or.inl ⟨by rfl, ?_⟩) (by assumption) ?_
 rotate_left
 ·intro w' hSw
  try dsimp only at hSw
  try obtain ⟨hSw, hSw2⟩ := hSw
  go_simp
  try with_reducible rfl
 show wpAnyZ _ _ _ _ _ _ _ _ (Act.put _ (some 147) _) _
 simp only [Act.put, List.setIfInBounds_toArray, List.set_cons_zero, List.set_cons_succ]
 clear hSS g0 g1
 have hdx : Below X.heap.size X (X.alloc (.cells #[.slice a5 a.1.length k5, .slice a6 a.2.length k6] 44)).drew := ((Below.refl _ X).alloc (Nat.le_refl _) _).drew
 have HV7 := Lib.hid (HU.out.v.below hdx); have HU7 := Lib.hid (HU.out.u.below hdx)
 have HS7 := Lib.hid (RowG.next HST.out hdx)
 have hG : (X.alloc (.cells #[.slice a5 a.1.length k5, .slice a6 a.2.length k6] 44)).drew.heap[X.heap.size]? = some (.cells #[.slice a5 a.1.length k5, .slice a6 a.2.length k6] 44 (0, 0)) := World.alloc_heap_new X (.cells #[.slice a5 a.1.length k5, .slice a6 a.2.length k6] 44)
 have HKB := Lib.hid (kb_out HU.out.kb hdx); have HRX := Lib.hid (block_below HU.out.run hdx)
 have HB9 := Lib.hid (block_below HU.out.b9 hdx)
 refine wpAnyZ_oneG (i := 9) (by kernel_rfl) rfl (by rfl) (fun K hK => ?_)
 go_simp
 clear HU HST hdx
 generalize (X.alloc (.cells #[.slice a5 a.1.length k5, .slice a6 a.2.length k6] 44)).drew = Y at hG HV7 HU7 HS7 HKB HRX HB9 ⊢
 refine hK.out _ _ (.inr ⟨cell_of_row _ y9 0 _ _ _ HB9.out, cell_of_row _ y9 1 _ _ _ HB9.out⟩) ?_
 clear hK
 refine wpAnyZ_oneG (i := 10) (by kernel_rfl) rfl (by rfl) (fun K hK => ?_)
 refine wp_pushP (R := arrK B0) _ _ 47 44 rfl zeroArr 48 Tryz.underlying47 Tryz.infoAry (by rfl) (show 0 < 2 by decide) B0 _ _ _ _ st.length st.reverse a _ rfl HS7.out (by simp) (fun e => by cases e) rfl hG ⟨_, _, rfl, HV7.out, HU7.out⟩ (by unfold maxLen; omega) (by omega) ?_
 intro v8 w8 hs8 hb8
 refine hK.out _ _ (.inr ⟨cell_of_row _ y9 0 _ _ _ (block_below HB9.out hb8), cell_of_row _ y9 1 _ _ _ (block_below HB9.out hb8)⟩) ?_
 have hfin : ItemE w R B B0 st' k' (.returned (.tuple #[v8, .int .i64 0])) w8 := by
  refine ⟨v8, rfl, ?_, kb_out HKB.out hb8, ?_⟩
  ·have e : (st.reverse).take st.length ++ [a] = st'.reverse := by
    rw [HIT.out.st, List.take_of_length_le (by simp), List.drop_zero, List.reverse_cons]
   rw [← e]
   exact RowG.mono hs8 HKB.out.size
  ·rw [HIT.out.k]
   exact block_below HRX.out hb8
 have HF := Lib.hid hfin
 clear hK hfin hs8 hb8 HKB HRX HB9 HV7 HU7 HS7 hG
 refine wpAnyZ_oneG (i := 11) (by kernel_rfl) rfl (by rfl) (fun K hK => ?_)
 go_simp
 refine hK.out _ _ (.inl (by omega)) ?_
 clear hK
 refine wpAnyZ_oneG (i := 12) (by kernel_rfl) rfl (by rfl) (fun K hK => ?_)
 go_simp
 refine hK.out _ _ (.inl (by omega)) ?_
 clear hK
 refine wpAnyZ_done (by kernel_rfl) ?_ _
 go_wp2_with fail
 refine bodyPost_ret (v := .tuple #[v8, .int .i64 0]) (results_t2 rfl _ _ rfl rfl) rfl ?_
 exact HF.out
end Go.Proofs.YtokghjnkfabgiaaGreatDoor
