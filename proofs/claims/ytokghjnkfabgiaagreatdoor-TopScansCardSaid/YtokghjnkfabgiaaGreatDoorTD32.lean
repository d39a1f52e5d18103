import Derived.Test.YtokghjnkfabgiaaGreatDoorTD31
set_option linter.unusedVariables false
set_option linter.unusedSimpArgs false
set_option maxRecDepth 100000
namespace Go.Proofs.YtokghjnkfabgiaaGreatDoor
open Go.RowKit Go.Lib
attribute [local go_sem] str_size str_get str_toList

set_option maxHeartbeats 8000000 in
theorem it_nam0 (w : World) (B0 R B n k : Nat) (MV : Str → Option Value) (M : Str → Option AryP)  (H : ItH B0 R B n k MV M (.slice none 0 0) [] w) (ia fn : Int) (name : Str) (nums : List Int) (nv : Value) (hn : RowI 0 w nv nums)
  (st' : List AryP) (k' t : Nat) (a : AryP) (hit : ItemA M k ⟨2, fn, name, nums⟩ [] st' k' t a) (hnm : name.length ≤ 1000) :
  Calls Tryz.prog 58 #[.pointer (some ⟨R, 0, none⟩), .agg #[.int .i64 2, .int .i64 ia, .int .u8 fn, .string (str name), nv], (.slice none 0 0)] w fun e w' => ItemE w R B B0 st' k' e w' := by
 have htop : t = 0 ∧ M name = some a := by
  have h := hit.top
  have h : (M name).map (fun a => (0, a)) = some (t, a) := h
  cases hm : M name with
  | none => rw [hm] at h; cases h
  | some b =>
   rw [hm] at h
   simp only [Option.map_some, Option.some.injEq, Prod.mk.injEq] at h
   exact ⟨h.1.symm, by rw [h.2]⟩
 obtain ⟨rfl, hma⟩ := htop
 have HH := Lib.hid H; have HIT := Lib.hid hit
 obtain ⟨na, nc, rfl, hn2⟩ := hn.slice
 have HN := Lib.hid hn; have HN2 := Lib.hid hn2
 have hy9 : w.heap.size ≤ w.heap.size + 1 := by omega
 have hne9 : w.heap.size + 1 ≠ w.heap.size := by omega
 clear H hit hn hn2
 go_enter Tryz.func58, Tryz.ntmps58
 go_upto_region 4 with fail
 refine gen_worldA (fun W => ItS w w.heap.size (w.heap.size + 1) (#[.int .i64 2, .int .i64 ia, .int .u8 fn, .string (str name), .slice na nums.length nc]) (.slice none 0 0) (.slice none 0 0) W) (ItS.new w _) ?_
 generalize w.heap.size + 1 = y9 at hy9 hne9 ⊢
 obtain ⟨y4, hy4⟩ : ∃ y4, w.heap.size = y4 := ⟨_, rfl⟩
 have hy4' : w.heap.size ≤ y4 := by omega
 rw [hy4] at hne9 ⊢
 clear hy4
 rintro W hx
 obtain ⟨v, u, hmv, hv, hu⟩ := HH.out.vals _ _ hma
 have HV := Lib.hid hv; have HU := Lib.hid hu
 obtain ⟨a5, k5, rfl⟩ := hv.form
 obtain ⟨a6, k6, rfl⟩ := hu.form
 have HMV := Lib.hid hmv; have HX := Lib.hid hx
 have x0 := cell_of_row _ y4 0 _ _ _ hx.b4
 have hnR : R < w.heap.size := block_lt HH.out.run
 have hnB : B < w.heap.size := HH.out.map.lt
 clear hmv hx hma hv hu
 go_upto_region 11 with fail
 clear x0
 refine wp_region_Z (S := fun W' => ((W'.cell? ⟨R, 0, none⟩ = some (.map (some B)) ∧ W'.cell? ⟨y4, 3, none⟩ = some (.string (str name))) ∧ MapV zeroArr B n MV W')) (z := 11) (by kernel_rfl) ?_
 have hSS : (fun W' : World => ((W'.cell? ⟨R, 0, none⟩ = some (.map (some B)) ∧ W'.cell? ⟨y4, 3, none⟩ = some (.string (str name))) ∧ MapV zeroArr B n MV W')) W.drew := by
  have hd := HX.out.below.drew
  exact ⟨⟨cell_of_row _ R 0 _ _ _ (block_below HH.out.run hd), cell_of_row _ y4 3 _ _ _ HX.out.b4⟩, HH.out.map.below hd⟩
 refine wpAnyZ_take (i := 0) (v := ?_) rfl (by kernel_rfl) (by kernel_rfl) (by kernel_rfl) (fun _ _ _ h => h) (by kernel_rfl) (Or.inl ⟨by rfl, ?_⟩) (by assumption) ?_
 rotate_left
 ·intro w' hSw
  try dsimp only at hSw
  try obtain ⟨hSw, hSw2⟩ := hSw
  go_simp
  try with_reducible rfl
 show wpAnyZ _ _ _ _ _ _ _ _ (Act.put _ (some 35) _) _
 simp only [Act.put, List.setIfInBounds_toArray, List.set_cons_zero, List.set_cons_succ]
 refine wpAnyZ_take (i := 1) (v := ?_) rfl (by kernel_rfl) (by kernel_rfl) (by kernel_rfl) (fun _ _ _ h => h) (by kernel_rfl) (Or.inl ⟨by rfl, ?_⟩) (by assumption) ?_
 rotate_left
 ·intro w' hSw
  try dsimp only at hSw
  try obtain ⟨hSw, hSw2⟩ := hSw
  go_simp
  try with_reducible rfl
 show wpAnyZ _ _ _ _ _ _ _ _ (Act.put _ (some 36) _) _
 simp only [Act.put, List.setIfInBounds_toArray, List.set_cons_zero, List.set_cons_succ]
 refine wpAnyZ_take (i := 2) (v := ?_) rfl (by kernel_rfl) (by kernel_rfl) (by kernel_rfl) (fun _ _ _ h => h) (by kernel_rfl) (Or.inl ⟨by rfl, ?_⟩) (by assumption) ?_
 rotate_left
 ·intro w' hSw
  try dsimp only at hSw
  try obtain ⟨hSw, hSw2⟩ := hSw
  go_simp
  try with_reducible rfl
 show wpAnyZ _ _ _ _ _ _ _ _ (Act.put _ (some 37) _) _
 simp only [Act.put, List.setIfInBounds_toArray, List.set_cons_zero, List.set_cons_succ]
 refine wpAnyZ_take (i := 3) (v := ?_) rfl (by kernel_rfl) (by kernel_rfl) (by kernel_rfl) (fun _ _ _ h => h) (by kernel_rfl) (Or.inl ⟨by rfl, ?_⟩) (by assumption) ?_
 rotate_left
 ·intro w' hSw
  try dsimp only at hSw
  try obtain ⟨hSw, hSw2⟩ := hSw
  go_simp
  try with_reducible rfl
 show wpAnyZ _ _ _ _ _ _ _ _ (Act.put _ (some 38) _) _
 simp only [Act.put, List.setIfInBounds_toArray, List.set_cons_zero, List.set_cons_succ]
 refine wpAnyZ_take (i := 4) (v := ?_) rfl (by kernel_rfl) (by kernel_rfl) (by kernel_rfl) (fun _ _ _ h => h) (by kernel_rfl) (Or.inl ⟨by rfl, ?_⟩) (by assumption) ?_
 rotate_left
 ·intro w' hSw
  try dsimp only at hSw
  try obtain ⟨hSw, hSw2⟩ := hSw
  go_simp
  try with_reducible rfl
 show wpAnyZ _ _ _ _ _ _ _ _ (Act.put _ (some 39) _) _
 simp only [Act.put, List.setIfInBounds_toArray, List.set_cons_zero, List.set_cons_succ]
 refine wpAnyZ_take (i := 5) (v := ?_) rfl (by kernel_rfl) (by kernel_rfl) (by kernel_rfl) (fun _ _ _ h => h) (by kernel_rfl) (Or.inl ⟨by rfl, ?_⟩) (by assumption) ?_
 rotate_left
 ·intro w' hSw
  try dsimp only at hSw
  try obtain ⟨hSw, hSw2⟩ := hSw
  go_simp
  try with_reducible rfl
 show wpAnyZ _ _ _ _ _ _ _ _ (Act.put _ (some 40) _) _
 simp only [Act.put, List.setIfInBounds_toArray, List.set_cons_zero, List.set_cons_succ]
 refine wpAnyZ_take (i := 6) (v := .tuple #[.agg #[.slice a5 a.1.length k5, .slice a6 a.2.length k6], .bool true]) rfl (by kernel_rfl) (by kernel_rfl) (by kernel_rfl) (fun _ _ _ h => h) (by kernel_rfl) (Or.inl ⟨by rfl, ?_⟩) (by assumption) ?_
 ·intro w' hSw
  have hlk := MapV.look (mt := 129) (et := 44) (by kernel_rfl) (by kernel_rfl) hSw.2 name (by have := hnm; unfold maxLen; omega)
  rw [HMV.out] at hlk
  have hlk : (Instr.lookup 129 (.map (some B)) (.string (str name)) true).run Tryz.prog w' = .ok (.tuple #[.agg #[.slice a5 a.1.length k5, .slice a6 a.2.length k6], .bool true]) w' := hlk
  clear hSw
  go_simp
 show wpAnyZ _ _ _ _ _ _ _ _ (Act.put _ (some 41) _) _
 simp only [Act.put, List.setIfInBounds_toArray, List.set_cons_zero, List.set_cons_succ]
 refine wpAnyZ_take (i := 7) (v := ?_) rfl (by kernel_rfl) (by kernel_rfl) (by kernel_rfl) (fun _ _ _ h => h) (by kernel_rfl) (Or.inl ⟨by rfl, ?_⟩) (by assumption) ?_
 rotate_left
 ·intro w' hSw
  try dsimp only at hSw
  try obtain ⟨hSw, hSw2⟩ := hSw
  go_simp
  try with_reducible rfl
 show wpAnyZ _ _ _ _ _ _ _ _ (Act.put _ (some 34) _) _
 simp only [Act.put, List.setIfInBounds_toArray, List.set_cons_zero, List.set_cons_succ]
 refine wpAnyZ_take (i := 8) (v := ?_) rfl (by kernel_rfl) (by kernel_rfl) (by kernel_rfl) (fun _ _ _ h => h) (by kernel_rfl) (Or.inl ⟨by rfl, ?_⟩) (by assumption) ?_
 rotate_left
 ·intro w' hSw
  try dsimp only at hSw
  try obtain ⟨hSw, hSw2⟩ := hSw
  go_simp
  try with_reducible rfl
 show wpAnyZ _ _ _ _ _ _ _ _ (Act.put _ (some 42) _) _
 simp only [Act.put, List.setIfInBounds_toArray, List.set_cons_zero, List.set_cons_succ]
 refine wpAnyZ_take (i := 9) (v := ?_) rfl (by kernel_rfl) (by kernel_rfl) (by kernel_rfl) (fun _ _ _ h => h) (by kernel_rfl) (Or.inl ⟨by rfl, ?_⟩) (by assumption) ?_
 rotate_left
 ·intro w' hSw
  try dsimp only at hSw
  try obtain ⟨hSw, hSw2⟩ := hSw
  go_simp
  try with_reducible rfl
 show wpAnyZ _ _ _ _ _ _ _ _ (Act.put _ (some 43) _) _
 simp only [Act.put, List.setIfInBounds_toArray, List.set_cons_zero, List.set_cons_succ]
 clear hSS
 have HX5 := Lib.hid (HX.out.next ((Below.refl _ W).drew)); have HV5 := Lib.hid (HV.out.below (HX.out.below.drew)); have HU5 := Lib.hid (HU.out.below (HX.out.below.drew))
 have HR5 := Lib.hid (block_below HH.out.run (HX.out.below.drew)); have HM5 := Lib.hid (HH.out.map.below (HX.out.below.drew))
 clear HX HV HU HMV
 generalize W.drew = w5 at HX5 HV5 HU5 HR5 HM5 ⊢
 have g0 := cell_of_row w5 y9 0 _ _ _ HX5.out.b9; have g1 := cell_of_row w5 y9 1 _ _ _ HX5.out.b9
 have z0 := frozen_of_row w5 y9 0 _ _ HX5.out.b9; have z1 := frozen_of_row w5 y9 1 _ _ HX5.out.b9
 refine wpAnyZ_oneG (i := 10) (by kernel_rfl) rfl (by rfl) (fun K hK => ?_)
 go_simp
 have hx6 := HX5.out.store (v' := .slice a5 a.1.length k5) (u' := .slice a6 a.2.length k6) hy9 hne9
 have hv6 := HV5.out.turn (w' := ((w5.setCell ⟨y9, 0, none⟩ (.slice a5 a.1.length k5)).setCell ⟨y9, 1, none⟩ (.slice a6 a.2.length k6))) (itst_below HH.out.hB0 hy9 _ _ _) (itst_keep HX5.out.b9 _ _ (by decide))
 have hu6 := HU5.out.turn (w' := ((w5.setCell ⟨y9, 0, none⟩ (.slice a5 a.1.length k5)).setCell ⟨y9, 1, none⟩ (.slice a6 a.2.length k6))) (itst_below HH.out.hB0 hy9 _ _ _) (itst_keep HX5.out.b9 _ _ (by decide))
 clear g0 g1 z0 z1
 generalize ((w5.setCell ⟨y9, 0, none⟩ (.slice a5 a.1.length k5)).setCell ⟨y9, 1, none⟩ (.slice a6 a.2.length k6)) = w6 at hx6 hv6 hu6 ⊢
 have r0 : w6.cell? ⟨R, 0, none⟩ = some (.map (some B)) := keepCell hx6.below (cell_of_row _ R 0 _ _ _ HH.out.run)
 have x3 := cell_of_row _ y4 3 _ _ _ hx6.b4
 have mp := HH.out.map.below hx6.below
 refine hK.out _ _ (.inr ⟨⟨r0, x3⟩, mp⟩) ?_
 have HT := Lib.hid (ItT.mk (a := a) hx6.below hx6.b9 hv6 hu6)
 clear hK hx6 hv6 hu6 HX5 HV5 HU5
 refine wpAnyZ_oneG (i := 11) (by kernel_rfl) rfl (by rfl) (fun K hK => ?_)
 go_simp
 refine hK.out _ _ (.inl (by omega)) ?_
 clear hK
 refine wpAnyZ_done (by kernel_rfl) ?_ _
 clear r0 x3 mp HR5 HM5
 go_upto_region 31 with fail
 have hk1 : (k : Int) ≤ 1048576 := by have := HIT.out.work; omega
 have hk2 : (k : Int) + (a.2.length : Int) ≤ 1048576 := by have := HIT.out.work; omega
 have hRun := block_below HH.out.run HT.out.below
 have r0 := cell_of_row _ R 1 _ _ _ hRun
 have fr0 := frozen_of_row _ R 1 _ _ hRun
 have g1 := cell_of_row _ y9 1 _ _ _ HT.out.b9
 have HRUN := Lib.hid hRun
 clear hRun
 go_region
 have hxu := HT.out.turn HRUN.out HH.out.hR HH.out.hB0 HH.out.run hy9 (k' := k + a.2.length) (.int .i64 ((k : Int) + (a.2.length : Int))) (by simp)
 have hst := hxu.stack HH.out.stk HH.out.hR HH.out.run HH.out.hB0
 clear r0 fr0 g1 HRUN HT
 generalize (w6.setCell { block := R, off := 1 } (Value.int IntKind.i64 ((k : Int) + (a.2.length : Int)))).drew = X at hxu hst ⊢
 have r0 := cell_of_row _ R 1 _ _ _ hxu.run
 have HU := Lib.hid hxu; have HST := Lib.hid hst
 clear hxu hst
 go_upto_region 34 with fail
 clear r0
 have g0 := cell_of_row _ y9 0 _ _ _ HU.out.b9
 have g1 := cell_of_row _ y9 1 _ _ _ HU.out.b9
 refine wp_region_Z (S := fun W' => W'.cell? ⟨y9, 0, none⟩ = some (.slice a5 a.1.length k5) ∧ W'.cell? ⟨y9, 1, none⟩ = some (.slice a6 a.2.length k6)) (z := 11) (by kernel_rfl) ?_
 have hSS : (fun W' : World => W'.cell? ⟨y9, 0, none⟩ = some (.slice a5 a.1.length k5) ∧ W'.cell? ⟨y9, 1, none⟩ = some (.slice a6 a.2.length k6)) X.drew := ⟨g0, g1⟩
 refine wpAnyZ_take (i := 0) (v := ?_) rfl (by kernel_rfl) (by kernel_rfl) (by kernel_rfl) (fun _ _ _ h => h) (by kernel_rfl) (Or.inl ⟨by rfl, ?_⟩) (by assumption) ?_
 rotate_left
 ·intro w' hSw
  try dsimp only at hSw
  try obtain ⟨hSw, hSw2⟩ := hSw
  go_simp
  try with_reducible rfl
 show wpAnyZ _ _ _ _ _ _ _ _ (Act.put _ (some 139) _) _
 simp only [Act.put, List.setIfInBounds_toArray, List.set_cons_zero, List.set_cons_succ]
 refine wpAnyZ_take (i := 1) (v := ?_) rfl (by kernel_rfl) (by kernel_rfl) (by kernel_rfl) (fun _ _ _ h => h) (by kernel_rfl) (Or.inl ⟨by rfl, ?_⟩) (by assumption) ?_
 rotate_left
 ·intro w' hSw
  try dsimp only at hSw
  try obtain ⟨hSw, hSw2⟩ := hSw
  go_simp
  try with_reducible rfl
 show wpAnyZ _ _ _ _ _ _ _ _ (Act.put _ (some 140) _) _
 simp only [Act.put, List.setIfInBounds_toArray, List.set_cons_zero, List.set_cons_succ]
 refine wpAnyZ_take (i := 2) (v := ?_) rfl (by kernel_rfl) (by kernel_rfl) (by kernel_rfl) (fun _ _ _ h => h) (by kernel_rfl) (Or.inl ⟨by rfl, ?_⟩) (by assumption) ?_
 rotate_left
 ·intro w' hSw
  try dsimp only at hSw
  try obtain ⟨hSw, hSw2⟩ := hSw
  go_simp
  try with_reducible rfl
 show wpAnyZ _ _ _ _ _ _ _ _ (Act.put _ (some 141) _) _
 simp only [Act.put, List.setIfInBounds_toArray, List.set_cons_zero, List.set_cons_succ]
 refine wpAnyZ_take (i := 3) (v := ?_) rfl (by kernel_rfl) (by kernel_rfl) (by kernel_rfl) (fun _ _ _ h => h) (by kernel_rfl) (Or.inl ⟨by rfl, ?_⟩) (by assumption) ?_
 rotate_left
 ·intro w' hSw
  try dsimp only at hSw
  try obtain ⟨hSw, hSw2⟩ := hSw
  go_simp
  try with_reducible rfl
 show wpAnyZ _ _ _ _ _ _ _ _ (Act.put _ (some 142) _) _
 simp only [Act.put, List.setIfInBounds_toArray, List.set_cons_zero, List.set_cons_succ]
 refine wpAnyZ_take (i := 4) (v := ?_) rfl (by kernel_rfl) (by kernel_rfl) (by kernel_rfl) (fun _ _ _ h => h) (by kernel_rfl) (Or.inl ⟨by rfl, ?_⟩) (by assumption) ?_
 rotate_left
 ·intro w' hSw
  try dsimp only at hSw
  try obtain ⟨hSw, hSw2⟩ := hSw
  go_simp
  try with_reducible rfl
 show wpAnyZ _ _ _ _ _ _ _ _ (Act.put _ (some 143) _) _
 simp only [Act.put, List.setIfInBounds_toArray, List.set_cons_zero, List.set_cons_succ]
 refine wpAnyZ_take (i := 5) (v := ?_) rfl (by kernel_rfl) (by kernel_rfl) (by kernel_rfl) (fun _ _ _ h => h) (by kernel_rfl) (Or.inl ⟨by rfl, ?_⟩) (by assumption) ?_
 rotate_left
 ·intro w' hSw
  try dsimp only at hSw
  try obtain ⟨hSw, hSw2⟩ := hSw
  go_simp
  try with_reducible rfl
 show wpAnyZ _ _ _ _ _ _ _ _ (Act.put _ (some 144) _) _
 simp only [Act.put, List.setIfInBounds_toArray, List.set_cons_zero, List.set_cons_succ]
 refine wpAnyZ_take (i := 6) (v := ?_) rfl (by kernel_rfl) (by kernel_rfl) (by kernel_rfl) (fun _ _ _ h => h) (by kernel_rfl) (Or.inl ⟨by rfl, ?_⟩) (by assumption) ?_
 rotate_left
 ·intro w' hSw
  try dsimp only at hSw
  try obtain ⟨hSw, hSw2⟩ := hSw
  go_simp
  try with_reducible rfl
 show wpAnyZ _ _ _ _ _ _ _ _ (Act.put _ (some 145) _) _
 simp only [Act.put, List.setIfInBounds_toArray, List.set_cons_zero, List.set_cons_succ]
 refine wpAnyZ_take (i := 7) (v := .slice none 0 0) rfl (by kernel_rfl) (by kernel_rfl) (by kernel_rfl) (fun _ _ _ h => h) (by kernel_rfl) (Or.inl ⟨by rfl, ?_⟩) (by assumption) ?_
 ·intro w' hSw
  clear hSw
  go_simp
  rw [show IntKind.i64.wrap 0 = 0 from by decide]; rfl
 show wpAnyZ _ _ _ _ _ _ _ _ (Act.put _ (some 146) _) _
 simp only [Act.put, List.setIfInBounds_toArray, List.set_cons_zero, List.set_cons_succ]
 refine wpAnyZ_take (i := 8) (v := ?_) rfl (by kernel_rfl) (by kernel_rfl) (by kernel_rfl) (fun _ _ _ h => h) (by kernel_rfl) (Or.inl ⟨by rfl, ?_⟩) (by assumption) ?_
 rotate_left
 ·intro w' hSw
  try dsimp only at hSw
  try obtain ⟨hSw, hSw2⟩ := hSw
  go_simp
  try with_reducible rfl
 show wpAnyZ _ _ _ _ _ _ _ _ (Act.put _ (some 147) _) _
 simp only [Act.put, List.setIfInBounds_toArray, List.set_cons_zero, List.set_cons_succ]
 clear hSS g0 g1
 have hdx : Below X.heap.size X (X.alloc (.cells #[.slice a5 a.1.length k5, .slice a6 a.2.length k6] 44)).drew := ((Below.refl _ X).alloc (Nat.le_refl _) _).drew
 have HV7 := Lib.hid (HU.out.v.below hdx); have HU7 := Lib.hid (HU.out.u.below hdx)
 have HS7 := Lib.hid (RowG.next HST.out hdx)
 have hG : (X.alloc (.cells #[.slice a5 a.1.length k5, .slice a6 a.2.length k6] 44)).drew.heap[X.heap.size]? = some (.cells #[.slice a5 a.1.length k5, .slice a6 a.2.length k6] 44 (0, 0)) := World.alloc_heap_new X (.cells #[.slice a5 a.1.length k5, .slice a6 a.2.length k6] 44)
 have HKB := Lib.hid (kb_out HU.out.kb hdx); have HRX := Lib.hid (block_below HU.out.run hdx)
 have HB9 := Lib.hid (block_below HU.out.b9 hdx)
 refine wpAnyZ_oneG (i := 9) (by kernel_rfl) rfl (by rfl) (fun K hK => ?_)
 go_simp
 clear HU HST hdx
 generalize (X.alloc (.cells #[.slice a5 a.1.length k5, .slice a6 a.2.length k6] 44)).drew = Y at hG HV7 HU7 HS7 HKB HRX HB9 ⊢
 refine hK.out _ _ (.inr ⟨cell_of_row _ y9 0 _ _ _ HB9.out, cell_of_row _ y9 1 _ _ _ HB9.out⟩) ?_
 clear hK
 refine wpAnyZ_oneG (i := 10) (by kernel_rfl) rfl (by rfl) (fun K hK => ?_)
 refine wp_pushP (R := arrK B0) _ _ 47 44 rfl zeroArr 48 Tryz.underlying47 Tryz.infoAry (by rfl) (show 0 < 2 by decide) B0 _ _ _ _ 0 ([] : List AryP).reverse a _ rfl HS7.out (by simp) (fun _ => rfl) rfl hG ⟨_, _, rfl, HV7.out, HU7.out⟩ (by unfold maxLen; omega) (by omega) ?_
 intro v8 w8 hs8 hb8
 refine hK.out _ _ (.inr ⟨cell_of_row _ y9 0 _ _ _ (block_below HB9.out hb8), cell_of_row _ y9 1 _ _ _ (block_below HB9.out hb8)⟩) ?_
 have hfin : ItemE w R B B0 st' k' (.returned (.tuple #[v8, .int .i64 0])) w8 := by
  refine ⟨v8, rfl, ?_, kb_out HKB.out hb8, ?_⟩
  ·have e : (([] : List AryP).reverse).take 0 ++ [a] = st'.reverse := by
    rw [HIT.out.st]; rfl
   rw [← e]
   exact RowG.mono hs8 HKB.out.size
  ·rw [HIT.out.k]
   exact block_below HRX.out hb8
 have HF := Lib.hid hfin
 clear hK hfin hs8 hb8 HKB HRX HB9 HV7 HU7 HS7 hG
 refine wpAnyZ_oneG (i := 11) (by kernel_rfl) rfl (by rfl) (fun K hK => ?_)
 go_simp
 refine hK.out _ _ (.inl (by omega)) ?_
 clear hK
 refine wpAnyZ_oneG (i := 12) (by kernel_rfl) rfl (by rfl) (fun K hK => ?_)
 go_simp
 refine hK.out _ _ (.inl (by omega)) ?_
 clear hK
 refine wpAnyZ_done (by kernel_rfl) ?_ _
 go_wp2_with fail
 refine bodyPost_ret (v := .tuple #[v8, .int .i64 0]) (results_t2 rfl _ _ rfl rfl) rfl ?_
 exact HF.out
set_option maxHeartbeats 8000000 in
theorem it_nam1 (w : World) (B0 R B n k : Nat) (MV : Str → Option Value) (M : Str → Option AryP) (st : List AryP) (g hc : Nat) (hcap : st.length ≤ hc) (H : ItH B0 R B n k MV M (.slice (some ⟨g, 0, none⟩) st.length hc) st w) (ia fn : Int) (name : Str) (nums : List Int) (nv : Value) (hn : RowI 0 w nv nums)
  (st' : List AryP) (k' t : Nat) (a : AryP) (hit : ItemA M k ⟨2, fn, name, nums⟩ st st' k' t a) (hnm : name.length ≤ 1000) :
  Calls Tryz.prog 58 #[.pointer (some ⟨R, 0, none⟩), .agg #[.int .i64 2, .int .i64 ia, .int .u8 fn, .string (str name), nv], (.slice (some ⟨g, 0, none⟩) st.length hc)] w fun e w' => ItemE w R B B0 st' k' e w' := by
 have htop : t = 0 ∧ M name = some a := by
  have h := hit.top
  have h : (M name).map (fun a => (0, a)) = some (t, a) := h
  cases hm : M name with
  | none => rw [hm] at h; cases h
  | some b =>
   rw [hm] at h
   simp only [Option.map_some, Option.some.injEq, Prod.mk.injEq] at h
   exact ⟨h.1.symm, by rw [h.2]⟩
 obtain ⟨rfl, hma⟩ := htop
 have HH := Lib.hid H; have HIT := Lib.hid hit
 obtain ⟨na, nc, rfl, hn2⟩ := hn.slice
 have HN := Lib.hid hn; have HN2 := Lib.hid hn2
 have hy9 : w.heap.size ≤ w.heap.size + 1 := by omega
 have hne9 : w.heap.size + 1 ≠ w.heap.size := by omega
 clear H hit hn hn2
 go_enter Tryz.func58, Tryz.ntmps58
 go_upto_region 4 with fail
 refine gen_worldA (fun W => ItS w w.heap.size (w.heap.size + 1) (#[.int .i64 2, .int .i64 ia, .int .u8 fn, .string (str name), .slice na nums.length nc]) (.slice none 0 0) (.slice none 0 0) W) (ItS.new w _) ?_
 generalize w.heap.size + 1 = y9 at hy9 hne9 ⊢
 obtain ⟨y4, hy4⟩ : ∃ y4, w.heap.size = y4 := ⟨_, rfl⟩
 have hy4' : w.heap.size ≤ y4 := by omega
 rw [hy4] at hne9 ⊢
 clear hy4
 rintro W hx
 obtain ⟨v, u, hmv, hv, hu⟩ := HH.out.vals _ _ hma
 have HV := Lib.hid hv; have HU := Lib.hid hu
 obtain ⟨a5, k5, rfl⟩ := hv.form
 obtain ⟨a6, k6, rfl⟩ := hu.form
 have HMV := Lib.hid hmv; have HX := Lib.hid hx
 have x0 := cell_of_row _ y4 0 _ _ _ hx.b4
 have hnR : R < w.heap.size := block_lt HH.out.run
 have hnB : B < w.heap.size := HH.out.map.lt
 clear hmv hx hma hv hu
 go_upto_region 11 with fail
 clear x0
 refine wp_region_Z (S := fun W' => ((W'.cell? ⟨R, 0, none⟩ = some (.map (some B)) ∧ W'.cell? ⟨y4, 3, none⟩ = some (.string (str name))) ∧ MapV zeroArr B n MV W')) (z := 11) (by kernel_rfl) ?_
 have hSS : (fun W' : World => ((W'.cell? ⟨R, 0, none⟩ = some (.map (some B)) ∧ W'.cell? ⟨y4, 3, none⟩ = some (.string (str name))) ∧ MapV zeroArr B n MV W')) W.drew := by
  have hd := HX.out.below.drew
  exact ⟨⟨cell_of_row _ R 0 _ _ _ (block_below HH.out.run hd), cell_of_row _ y4 3 _ _ _ HX.out.b4⟩, HH.out.map.below hd⟩
 refine wpAnyZ_take (i := 0) (v := ?_) rfl (by kernel_rfl) (by kernel_rfl) (by kernel_rfl) (fun _ _ _ h => h) (by kernel_rfl) (Or.inl ⟨by rfl, ?_⟩) (by assumption) ?_
 rotate_left
 ·intro w' hSw
  try dsimp only at hSw
  try obtain ⟨hSw, hSw2⟩ := hSw
  go_simp
  try with_reducible rfl
 show wpAnyZ _ _ _ _ _ _ _ _ (Act.put _ (some 35) _) _
 simp only [Act.put, List.setIfInBounds_toArray, List.set_cons_zero, List.set_cons_succ]
 refine wpAnyZ_take (i := 1) (v := ?_) rfl (by kernel_rfl) (by kernel_rfl) (by kernel_rfl) (fun _ _ _ h => h) (by kernel_rfl) (Or.inl ⟨by rfl, ?_⟩) (by assumption) ?_
 rotate_left
 ·intro w' hSw
  try dsimp only at hSw
  try obtain ⟨hSw, hSw2⟩ := hSw
  go_simp
  try with_reducible rfl
 show wpAnyZ _ _ _ _ _ _ _ _ (Act.put _ (some 36) _) _
 simp only [Act.put, List.setIfInBounds_toArray, List.set_cons_zero, List.set_cons_succ]
 refine wpAnyZ_take (i := 2) (v := ?_) rfl (by kernel_rfl) (by kernel_rfl) (by kernel_rfl) (fun _ _ _ h => h) (by kernel_rfl) (Or.inl ⟨by rfl, ?_⟩) (by assumption) ?_
 rotate_left
 ·intro w' hSw
  try dsimp only at hSw
  try obtain ⟨hSw, hSw2⟩ := hSw
  go_simp
  try with_reducible rfl
 show wpAnyZ _ _ _ _ _ _ _ _ (Act.put _ (some 37) _) _
 simp only [Act.put, List.setIfInBounds_toArray, List.set_cons_zero, List.set_cons_succ]
 refine wpAnyZ_take (i := 3) (v := ?_) rfl (by kernel_rfl) (by kernel_rfl) (by kernel_rfl) (fun _ _ _ h => h) (by kernel_rfl) (Or.inl ⟨by rfl, ?_⟩) (by assumption) ?_
 rotate_left
 ·intro w' hSw
  try dsimp only at hSw
  try obtain ⟨hSw, hSw2⟩ := hSw
  go_simp
  try with_reducible rfl
 show wpAnyZ _ _ _ _ _ _ _ _ (Act.put _ (some 38) _) _
 simp only [Act.put, List.setIfInBounds_toArray, List.set_cons_zero, List.set_cons_succ]
 refine wpAnyZ_take (i := 4) (v := ?_) rfl (by kernel_rfl) (by kernel_rfl) (by kernel_rfl) (fun _ _ _ h => h) (by kernel_rfl) (Or.inl ⟨by rfl, ?_⟩) (by assumption) ?_
 rotate_left
 ·intro w' hSw
  try dsimp only at hSw
  try obtain ⟨hSw, hSw2⟩ := hSw
  go_simp
  try with_reducible rfl
 show wpAnyZ _ _ _ _ _ _ _ _ (Act.put _ (some 39) _) _
 simp only [Act.put, List.setIfInBounds_toArray, List.set_cons_zero, List.set_cons_succ]
 refine wpAnyZ_take (i := 5) (v := ?_) rfl (by kernel_rfl) (by kernel_rfl) (by kernel_rfl) (fun _ _ _ h => h) (by kernel_rfl) (Or.inl ⟨by rfl, ?_⟩) (by assumption) ?_
 rotate_left
 ·intro w' hSw
  try dsimp only at hSw
  try obtain ⟨hSw, hSw2⟩ := hSw
  go_simp
  try with_reducible rfl
 show wpAnyZ _ _ _ _ _ _ _ _ (Act.put _ (some 40) _) _
 simp only [Act.put, List.setIfInBounds_toArray, List.set_cons_zero, List.set_cons_succ]
 refine wpAnyZ_take (i := 6) (v := .tuple #[.agg #[.slice a5 a.1.length k5, .slice a6 a.2.length k6], .bool true]) rfl (by kernel_rfl) (by kernel_rfl) (by kernel_rfl) (fun _ _ _ h => h) (by kernel_rfl) (Or.inl ⟨by rfl, ?_⟩) (by assumption) ?_
 ·intro w' hSw
  have hlk := MapV.look (mt := 129) (et := 44) (by kernel_rfl) (by kernel_rfl) hSw.2 name (by have := hnm; unfold maxLen; omega)
  rw [HMV.out] at hlk
  have hlk : (Instr.lookup 129 (.map (some B)) (.string (str name)) true).run Tryz.prog w' = .ok (.tuple #[.agg #[.slice a5 a.1.length k5, .slice a6 a.2.length k6], .bool true]) w' := hlk
  clear hSw
  go_simp
 show wpAnyZ _ _ _ _ _ _ _ _ (Act.put _ (some 41) _) _
 simp only [Act.put, List.setIfInBounds_toArray, List.set_cons_zero, List.set_cons_succ]
 refine wpAnyZ_take (i := 7) (v := ?_) rfl (by kernel_rfl) (by kernel_rfl) (by kernel_rfl) (fun _ _ _ h => h) (by kernel_rfl) (Or.inl ⟨by rfl, ?_⟩) (by assumption) ?_
 rotate_left
 ·intro w' hSw
  try dsimp only at hSw
  try obtain ⟨hSw, hSw2⟩ := hSw
  go_simp
  try with_reducible rfl
 show wpAnyZ _ _ _ _ _ _ _ _ (Act.put _ (some 34) _) _
 simp only [Act.put, List.setIfInBounds_toArray, List.set_cons_zero, List.set_cons_succ]
 refine wpAnyZ_take (i := 8) (v := ?_) rfl (by kernel_rfl) (by kernel_rfl) (by kernel_rfl) (fun _ _ _ h => h) (by kernel_rfl) (Or.inl ⟨by rfl, ?_⟩) (by assumption) ?_
 rotate_left
 ·intro w' hSw
  try dsimp only at hSw
  try obtain ⟨hSw, hSw2⟩ := hSw
  go_simp
  try with_reducible rfl
 show wpAnyZ _ _ _ _ _ _ _ _ (Act.put _ (some 42) _) _
 simp only [Act.put, List.setIfInBounds_toArray, List.set_cons_zero, List.set_cons_succ]
 refine wpAnyZ_take (i := 9) (v := ?_) rfl (by kernel_rfl) (by kernel_rfl) (by kernel_rfl) (fun _ _ _ h => h) (by kernel_rfl) (Or.inl ⟨by rfl, ?_⟩) (by assumption) ?_
 rotate_left
 ·intro w' hSw
  try dsimp only at hSw
  try obtain ⟨hSw, hSw2⟩ := hSw
  go_simp
  try with_reducible rfl
 show wpAnyZ _ _ _ _ _ _ _ _ (Act.put _ (some 43) _) _
 simp only [Act.put, List.setIfInBounds_toArray, List.set_cons_zero, List.set_cons_succ]
 clear hSS
 have HX5 := Lib.hid (HX.out.next ((Below.refl _ W).drew)); have HV5 := Lib.hid (HV.out.below (HX.out.below.drew)); have HU5 := Lib.hid (HU.out.below (HX.out.below.drew))
 have HR5 := Lib.hid (block_below HH.out.run (HX.out.below.drew)); have HM5 := Lib.hid (HH.out.map.below (HX.out.below.drew))
 clear HX HV HU HMV
 generalize W.drew = w5 at HX5 HV5 HU5 HR5 HM5 ⊢
 have g0 := cell_of_row w5 y9 0 _ _ _ HX5.out.b9; have g1 := cell_of_row w5 y9 1 _ _ _ HX5.out.b9
 have z0 := frozen_of_row w5 y9 0 _ _ HX5.out.b9; have z1 := frozen_of_row w5 y9 1 _ _ HX5.out.b9
 refine wpAnyZ_oneG (i := 10) (by kernel_rfl) rfl (by rfl) (fun K hK => ?_)
 go_simp
 have hx6 := HX5.out.store (v' := .slice a5 a.1.length k5) (u' := .slice a6 a.2.length k6) hy9 hne9
 have hv6 := HV5.out.turn (w' := ((w5.setCell ⟨y9, 0, none⟩ (.slice a5 a.1.length k5)).setCell ⟨y9, 1, none⟩ (.slice a6 a.2.length k6))) (itst_below HH.out.hB0 hy9 _ _ _) (itst_keep HX5.out.b9 _ _ (by decide))
 have hu6 := HU5.out.turn (w' := ((w5.setCell ⟨y9, 0, none⟩ (.slice a5 a.1.length k5)).setCell ⟨y9, 1, none⟩ (.slice a6 a.2.length k6))) (itst_below HH.out.hB0 hy9 _ _ _) (itst_keep HX5.out.b9 _ _ (by decide))
 clear g0 g1 z0 z1
 generalize ((w5.setCell ⟨y9, 0, none⟩ (.slice a5 a.1.length k5)).setCell ⟨y9, 1, none⟩ (.slice a6 a.2.length k6)) = w6 at hx6 hv6 hu6 ⊢
 have r0 : w6.cell? ⟨R, 0, none⟩ = some (.map (some B)) := keepCell hx6.below (cell_of_row _ R 0 _ _ _ HH.out.run)
 have x3 := cell_of_row _ y4 3 _ _ _ hx6.b4
 have mp := HH.out.map.below hx6.below
 refine hK.out _ _ (.inr ⟨⟨r0, x3⟩, mp⟩) ?_
 have HT := Lib.hid (ItT.mk (a := a) hx6.below hx6.b9 hv6 hu6)
 clear hK hx6 hv6 hu6 HX5 HV5 HU5
 refine wpAnyZ_oneG (i := 11) (by kernel_rfl) rfl (by rfl) (fun K hK => ?_)
 go_simp
 refine hK.out _ _ (.inl (by omega)) ?_
 clear hK
 refine wpAnyZ_done (by kernel_rfl) ?_ _
 clear r0 x3 mp HR5 HM5
 have hstl : st.length ≤ 1000 := HH.out.stl
 go_upto_region 31 with fail
 have hk1 : (k : Int) ≤ 1048576 := by have := HIT.out.work; omega
 have hk2 : (k : Int) + (a.2.length : Int) ≤ 1048576 := by have := HIT.out.work; omega
 have hRun := block_below HH.out.run HT.out.below
 have r0 := cell_of_row _ R 1 _ _ _ hRun
 have fr0 := frozen_of_row _ R 1 _ _ hRun
 have g1 := cell_of_row _ y9 1 _ _ _ HT.out.b9
 have HRUN := Lib.hid hRun
 clear hRun
 go_region
 have hxu := HT.out.turn HRUN.out HH.out.hR HH.out.hB0 HH.out.run hy9 (k' := k + a.2.length) (.int .i64 ((k : Int) + (a.2.length : Int))) (by simp)
 have hst := hxu.stack HH.out.stk HH.out.hR HH.out.run HH.out.hB0
 clear r0 fr0 g1 HRUN HT
 generalize (w6.setCell { block := R, off := 1 } (Value.int IntKind.i64 ((k : Int) + (a.2.length : Int)))).drew = X at hxu hst ⊢
 have r0 := cell_of_row _ R 1 _ _ _ hxu.run
 have HU := Lib.hid hxu; have HST := Lib.hid hst
 clear hxu hst
 go_upto_region 34 with fail
 clear r0
 have g0 := cell_of_row _ y9 0 _ _ _ HU.out.b9
 have g1 := cell_of_row _ y9 1 _ _ _ HU.out.b9
 refine wp_region_Z (S := fun W' => W'.cell? ⟨y9, 0, none⟩ = some (.slice a5 a.1.length k5) ∧ W'.cell? ⟨y9, 1, none⟩ = some (.slice a6 a.2.length k6)) (z := 11) (by kernel_rfl) ?_
 have hSS : (fun W' : World => W'.cell? ⟨y9, 0, none⟩ = some (.slice a5 a.1.length k5) ∧ W'.cell? ⟨y9, 1, none⟩ = some (.slice a6 a.2.length k6)) X.drew := ⟨g0, g1⟩
 refine wpAnyZ_take (i := 0) (v := ?_) rfl (by kernel_rfl) (by kernel_rfl) (by kernel_rfl) (fun _ _ _ h => h) (by kernel_rfl) (Or.inl ⟨by rfl, ?_⟩) (by assumption) ?_
 rotate_left
 ·intro w' hSw
  try dsimp only at hSw
  try obtain ⟨hSw, hSw2⟩ := hSw
  go_simp
  try with_reducible rfl
 show wpAnyZ _ _ _ _ _ _ _ _ (Act.put _ (some 139) _) _
 simp only [Act.put, List.setIfInBounds_toArray, List.set_cons_zero, List.set_cons_succ]
 refine wpAnyZ_take (i := 1) (v := ?_) rfl (by kernel_rfl) (by kernel_rfl) (by kernel_rfl) (fun _ _ _ h => h) (by kernel_rfl) (Or.inl ⟨by rfl, ?_⟩) (by assumption) ?_
 rotate_left
 ·intro w' hSw
  try dsimp only at hSw
  try obtain ⟨hSw, hSw2⟩ := hSw
  go_simp
  try with_reducible rfl
 show wpAnyZ _ _ _ _ _ _ _ _ (Act.put _ (some 140) _) _
 simp only [Act.put, List.setIfInBounds_toArray, List.set_cons_zero, List.set_cons_succ]
 refine wpAnyZ_take (i := 2) (v := ?_) rfl (by kernel_rfl) (by kernel_rfl) (by kernel_rfl) (fun _ _ _ h => h) (by kernel_rfl) (Or.inl ⟨by rfl, ?_⟩) (by assumption) ?_
 rotate_left
 ·intro w' hSw
  try dsimp only at hSw
  try obtain ⟨hSw, hSw2⟩ := hSw
  go_simp
  try with_reducible rfl
 show wpAnyZ _ _ _ _ _ _ _ _ (Act.put _ (some 141) _) _
 simp only [Act.put, List.setIfInBounds_toArray, List.set_cons_zero, List.set_cons_succ]
 refine wpAnyZ_take (i := 3) (v := ?_) rfl (by kernel_rfl) (by kernel_rfl) (by kernel_rfl) (fun _ _ _ h => h) (by kernel_rfl) (Or.inl ⟨by rfl, ?_⟩) (by assumption) ?_
 rotate_left
 ·intro w' hSw
  try dsimp only at hSw
  try obtain ⟨hSw, hSw2⟩ := hSw
  go_simp
  try with_reducible rfl
 show wpAnyZ _ _ _ _ _ _ _ _ (Act.put _ (some 142) _) _
 simp only [Act.put, List.setIfInBounds_toArray, List.set_cons_zero, List.set_cons_succ]
 refine wpAnyZ_take (i := 4) (v := ?_) rfl (by kernel_rfl) (by kernel_rfl) (by kernel_rfl) (fun _ _ _ h => h) (by kernel_rfl) (Or.inl ⟨by rfl, ?_⟩) (by assumption) ?_
 rotate_left
 ·intro w' hSw
  try dsimp only at hSw
  try obtain ⟨hSw, hSw2⟩ := hSw
  go_simp
  try with_reducible rfl
 show wpAnyZ _ _ _ _ _ _ _ _ (Act.put _ (some 143) _) _
 simp only [Act.put, List.setIfInBounds_toArray, List.set_cons_zero, List.set_cons_succ]
 refine wpAnyZ_take (i := 5) (v := ?_) rfl (by kernel_rfl) (by kernel_rfl) (by kernel_rfl) (fun _ _ _ h => h) (by kernel_rfl) (Or.inl ⟨by rfl, ?_⟩) (by assumption) ?_
 rotate_left
 ·intro w' hSw
  try dsimp only at hSw
  try obtain ⟨hSw, hSw2⟩ := hSw
  go_simp
  try with_reducible rfl
 show wpAnyZ _ _ _ _ _ _ _ _ (Act.put _ (some 144) _) _
 simp only [Act.put, List.setIfInBounds_toArray, List.set_cons_zero, List.set_cons_succ]
 refine wpAnyZ_take (i := 6) (v := ?_) rfl (by kernel_rfl) (by kernel_rfl) (by kernel_rfl) (fun _ _ _ h => h) (by kernel_rfl) (Or.inl ⟨by rfl, ?_⟩) (by assumption) ?_
 rotate_left
 ·intro w' hSw
  try dsimp only at hSw
  try obtain ⟨hSw, hSw2⟩ := hSw
  go_simp
  try with_reducible rfl
 show wpAnyZ _ _ _ _ _ _ _ _ (Act.put _ (some 145) _) _
 simp only [Act.put, List.setIfInBounds_toArray, List.set_cons_zero, List.set_cons_succ]
 refine wpAnyZ_take (i := 7) (v := .slice (some ⟨g, 0, none⟩) st.length st.length) rfl (by kernel_rfl) (by kernel_rfl) (by kernel_rfl) (fun _ _ _ h => h) (by kernel_rfl) (Or.inl ⟨by rfl, ?_⟩) (by assumption) ?_
 ·intro w' hSw
  clear hSw
  go_simp
  rw [wrap_nat hstl, if_pos ⟨by omega, by omega⟩, if_pos ⟨by omega, by omega⟩, Int.toNat_natCast]
 show wpAnyZ _ _ _ _ _ _ _ _ (Act.put _ (some 146) _) _
 simp only [Act.put, List.setIfInBounds_toArray, List.set_cons_zero, List.set_cons_succ]
 refine wpAnyZ_take (i := 8) (v := ?_) rfl (by kernel_rfl) (by kernel_rfl) (by kernel_rfl) (fun _ _ _ h => h) (by kernel_rfl) (Or.inl ⟨by rfl, ?_⟩) (by assumption) ?_
 rotate_left
 ·intro w' hSw
  try dsimp only at hSw
  try obtain ⟨hSw, hSw2⟩ := hSw
  go_simp
  try with_reducible rfl
 show wpAnyZ _ _ _ _ _ _ _ _ (Act.put _ (some 147) _) _
 simp only [Act.put, List.setIfInBounds_toArray, List.set_cons_zero, List.set_cons_succ]
 clear hSS g0 g1
 have hdx : Below X.heap.size X (X.alloc (.cells #[.slice a5 a.1.length k5, .slice a6 a.2.length k6] 44)).drew := ((Below.refl _ X).alloc (Nat.le_refl _) _).drew
 have HV7 := Lib.hid (HU.out.v.below hdx); have HU7 := Lib.hid (HU.out.u.below hdx)
 have HS7 := Lib.hid (RowG.next HST.out hdx)
 have hG : (X.alloc (.cells #[.slice a5 a.1.length k5, .slice a6 a.2.length k6] 44)).drew.heap[X.heap.size]? = some (.cells #[.slice a5 a.1.length k5, .slice a6 a.2.length k6] 44 (0, 0)) := World.alloc_heap_new X (.cells #[.slice a5 a.1.length k5, .slice a6 a.2.length k6] 44)
 have HKB := Lib.hid (kb_out HU.out.kb hdx); have HRX := Lib.hid (block_below HU.out.run hdx)
 have HB9 := Lib.hid (block_below HU.out.b9 hdx)
 refine wpAnyZ_oneG (i := 9) (by kernel_rfl) rfl (by rfl) (fun K hK => ?_)
 go_simp
 clear HU HST hdx
 generalize (X.alloc (.cells #[.slice a5 a.1.length k5, .slice a6 a.2.length k6] 44)).drew = Y at hG HV7 HU7 HS7 HKB HRX HB9 ⊢
 refine hK.out _ _ (.inr ⟨cell_of_row _ y9 0 _ _ _ HB9.out, cell_of_row _ y9 1 _ _ _ HB9.out⟩) ?_
 clear hK
 refine wpAnyZ_oneG (i := 10) (by kernel_rfl) rfl (by rfl) (fun K hK => ?_)
 refine wp_pushP (R := arrK B0) _ _ 47 44 rfl zeroArr 48 Tryz.underlying47 Tryz.infoAry (by rfl) (show 0 < 2 by decide) B0 _ _ _ _ st.length st.reverse a _ rfl HS7.out (by simp) (fun e => by cases e) rfl hG ⟨_, _, rfl, HV7.out, HU7.out⟩ (by unfold maxLen; omega) (by omega) ?_
 intro v8 w8 hs8 hb8
 refine hK.out _ _ (.inr ⟨cell_of_row _ y9 0 _ _ _ (block_below HB9.out hb8), cell_of_row _ y9 1 _ _ _ (block_below HB9.out hb8)⟩) ?_
 have hfin : ItemE w R B B0 st' k' (.returned (.tuple #[v8, .int .i64 0])) w8 := by
  refine ⟨v8, rfl, ?_, kb_out HKB.out hb8, ?_⟩
  ·have e : (st.reverse).take st.length ++ [a] = st'.reverse := by
    rw [HIT.out.st, List.take_of_length_le (by simp), List.drop_zero, List.reverse_cons]
   rw [← e]
   exact RowG.mono hs8 HKB.out.size
  ·rw [HIT.out.k]
   exact block_below HRX.out hb8
 have HF := Lib.hid hfin
 clear hK hfin hs8 hb8 HKB HRX HB9 HV7 HU7 HS7 hG
 refine wpAnyZ_oneG (i := 11) (by kernel_rfl) rfl (by rfl) (fun K hK => ?_)
 go_simp
 refine hK.out _ _ (.inl (by omega)) ?_
 clear hK
 refine wpAnyZ_oneG (i := 12) (by kernel_rfl) rfl (by rfl) (fun K hK => ?_)
 go_simp
 refine hK.out _ _ (.inl (by omega)) ?_
 clear hK
 refine wpAnyZ_done (by kernel_rfl) ?_ _
 go_wp2_with fail
 refine bodyPost_ret (v := .tuple #[v8, .int .i64 0]) (results_t2 rfl _ _ rfl rfl) rfl ?_
 exact HF.out
end Go.Proofs.YtokghjnkfabgiaaGreatDoor
