import Derived.Test.YtmlfeocdcjhhaaaPH23
import Derived.Test.YtmlfeocdcjhhaaaPH2
import Derived.Deep.DeepCutAuto
import Derived.Deep.CutBlock
import Derived.Test.YtmlfeocdcjhhaaaPH15
import Derived.Test.YtmlfeocdcjhhaaaPH13
import Derived.Test.YtmlfeocdcjhhaaaPH14
namespace Go.Proofs.Ytmlfeocdcjhhaaa
set_option maxRecDepth 100000
open Go.RowKit
set_option linter.unusedVariables false
set_option linter.unusedSimpArgs false
attribute [local go_sem ↓] Go.wp_at_zero Go.wp_at_succ

theorem ret_core {fn : Func} {p q : Tmp} (h : fn.results = #[.cell p 33, .tmp q]) (tmps : Array Value) (w : World) (R : Nat) (v0 v1 v2 v3 u : Value)
    (hp : tmps.getD p undef = .pointer (some ⟨R, 0, none⟩)) (hu : tmps.getD q undef = u) (hg : w.heap[R]? = some (.cells #[v0, v1, v2, v3] 33 (0, 0))) : (results fn tmps).run Try.prog w = .ok (.tuple #[.agg #[v0, v1, v2, v3], u]) w := by
  have hp' : tmps[p]?.getD undef = .pointer (some ⟨R, 0, none⟩) := by simpa using hp
  have hu' : tmps[q]?.getD undef = u := by simpa using hu
  have hl1 := run_loadVar_row (P := Try.prog) w R 33 33 #[v0, v1, v2, v3] (0, 0) _ hg Try.underlying33 rfl (by kernel_rfl)
  simp [results, h, hp', hu', asAddr, hl1]
/-- a buffer in a box -/
structure BB (W : World) (z : Nat) (v : Value) (k : Int) : Prop where
  x : W.heap[z]? = some (.cells #[v, .int .i64 k] 52 (0, 0))
theorem BB.next {W W' : World} {z : Nat} {v : Value} {k : Int} (h : BB W z v k) (hb : Below W.heap.size W W') : BB W' z v k := ⟨block_below h.x hb⟩
theorem BB.new {W : World} {z : Nat} (hz : W.heap.size = z) (v : Value) (k : Int) : BB (W.alloc (.cells #[v, .int .i64 k] 52)) z v k := ⟨heap_new hz⟩
theorem BB.c0 {W : World} {z : Nat} {v : Value} {k : Int} (h : BB W z v k) : W.cell? ⟨z, 0, none⟩ = some v := cell_of_row W z 0 _ _ _ h.x
theorem BB.c1 {W : World} {z : Nat} {v : Value} {k : Int} (h : BB W z v k) : W.cell? ⟨z, 1, none⟩ = some (.int .i64 k) := cell_of_row W z 1 _ _ _ h.x
theorem BB.grown {W W' : World} {z : Nat} {v : Value} {k : Int} {row : Option Nat} (h : BB W z v k) (hg : W.grownBy W' row) (hne : row ≠ some z) : BB W' z v k := ⟨block_grown h.x hg (fun e => absurd e hne)⟩
/-- a step in a box -/
structure SB (W : World) (z : Nat) (how buf : Int) (v0 v1 : Value) (fn : Int) (v2 : Value) : Prop where
  x : W.heap[z]? = some (.cells #[.int .i64 how, .int .i64 buf, v0, v1, .int .u8 fn, v2] 42 (0, 0))
section
variable {W W' : World} {z : Nat} {how buf fn : Int} {v0 v1 v2 : Value}
theorem SB.next (h : SB W z how buf v0 v1 fn v2) (hb : Below W.heap.size W W') : SB W' z how buf v0 v1 fn v2 := ⟨block_below h.x hb⟩
theorem SB.new (hz : W.heap.size = z) (how buf : Int) (v0 v1 : Value) (fn : Int) (v2 : Value) : SB (W.alloc (.cells #[.int .i64 how, .int .i64 buf, v0, v1, .int .u8 fn, v2] 42)) z how buf v0 v1 fn v2 := ⟨heap_new hz⟩
theorem SB.c0 (h : SB W z how buf v0 v1 fn v2) : W.cell? ⟨z, 0, none⟩ = some (.int .i64 how) := cell_of_row W z 0 _ _ _ h.x
theorem SB.c1 (h : SB W z how buf v0 v1 fn v2) : W.cell? ⟨z, 1, none⟩ = some (.int .i64 buf) := cell_of_row W z 1 _ _ _ h.x
theorem SB.c2 (h : SB W z how buf v0 v1 fn v2) : W.cell? ⟨z, 2, none⟩ = some v0 := cell_of_row W z 2 _ _ _ h.x
theorem SB.c3 (h : SB W z how buf v0 v1 fn v2) : W.cell? ⟨z, 3, none⟩ = some v1 := cell_of_row W z 3 _ _ _ h.x
theorem SB.c4 (h : SB W z how buf v0 v1 fn v2) : W.cell? ⟨z, 4, none⟩ = some (.int .u8 fn) := cell_of_row W z 4 _ _ _ h.x
theorem SB.c5 (h : SB W z how buf v0 v1 fn v2) : W.cell? ⟨z, 5, none⟩ = some v2 := cell_of_row W z 5 _ _ _ h.x
theorem SB.fr (h : SB W z how buf v0 v1 fn v2) (j : Nat) : W.frozen? ⟨z, j, none⟩ = false := frozen_of_row W z j _ _ h.x
theorem SB.put2 (h : SB W z how buf v0 v1 fn v2) (u : Value) : SB (W.setCell ⟨z, 2, none⟩ u) z how buf u v1 fn v2 := ⟨by rw [heap_setCell_same W z _ _ _ _ h.x]; rfl⟩
theorem SB.put3 (h : SB W z how buf v0 v1 fn v2) (u : Value) : SB (W.setCell ⟨z, 3, none⟩ u) z how buf v0 u fn v2 := ⟨by rw [heap_setCell_same W z _ _ _ _ h.x]; rfl⟩
theorem SB.put5 (h : SB W z how buf v0 v1 fn v2) (u : Value) : SB (W.setCell ⟨z, 5, none⟩ u) z how buf v0 v1 fn u := ⟨by rw [heap_setCell_same W z _ _ _ _ h.x]; rfl⟩
end
section
variable {w W : World} {z : Nat} {vars : Int} {vb vs vo : Value}
theorem CB.c0 (h : CB w W z vars vb vs vo) : W.cell? ⟨z, 0, none⟩ = some (.int .i64 vars) := cell_of_row W z 0 _ _ _ h.blk
theorem CB.c1 (h : CB w W z vars vb vs vo) : W.cell? ⟨z, 1, none⟩ = some vb := cell_of_row W z 1 _ _ _ h.blk
theorem CB.c2 (h : CB w W z vars vb vs vo) : W.cell? ⟨z, 2, none⟩ = some vs := cell_of_row W z 2 _ _ _ h.blk
theorem CB.c3 (h : CB w W z vars vb vs vo) : W.cell? ⟨z, 3, none⟩ = some vo := cell_of_row W z 3 _ _ _ h.blk
theorem CB.lt (h : CB w W z vars vb vs vo) : z < W.heap.size := (Array.getElem?_eq_some_iff.1 h.blk).1
theorem CB.put0 (h : CB w W z vars vb vs vo) (hx : w.heap.size ≤ z) (n : Int) : CB w (W.setCell ⟨z, 0, none⟩ (.int .i64 n)) z n vb vs vo := ⟨h.below.setCell hx _, by rw [heap_setCell_same W z _ _ _ _ h.blk]; rfl⟩
theorem CB.put3 (h : CB w W z vars vb vs vo) (hx : w.heap.size ≤ z) (u : Value) : CB w (W.setCell ⟨z, 3, none⟩ u) z vars vb vs u := ⟨h.below.setCell hx _, by rw [heap_setCell_same W z _ _ _ _ h.blk]; rfl⟩
theorem CB.put (h : CB w W z vars vb vs vo) (hx : w.heap.size ≤ z) (n : Int) (u1 u2 u3 : Value) : CB w ((((W.setCell ⟨z, 0, none⟩ (.int .i64 n)).setCell ⟨z, 1, none⟩ u1).setCell ⟨z, 2, none⟩ u2).setCell ⟨z, 3, none⟩ u3) z n u1 u2 u3 := (((h.put0 hx n).put1 hx u1).put2 hx u2).put3 hx u3
theorem CB.apart {z' : Nat} {vars' : Int} {vb' vs' vo' : Value} (h : CB w W z vars vb vs vo) (hx : w.heap.size ≤ z') (hne : z' ≠ z) (u0 u1 u2 u3 : Value) : CB w ((((W.setCell ⟨z', 0, none⟩ u0).setCell ⟨z', 1, none⟩ u1).setCell ⟨z', 2, none⟩ u2).setCell ⟨z', 3, none⟩ u3) z vars vb vs vo := (((h.other hx hne u0).other hx hne u1).other hx hne u2).other hx hne u3
theorem keep4 {t : TypeId} (h : CB w W z vars vb vs vo) (hx : w.heap.size ≤ z) (ht : t ≠ 33) (n : Int) (u1 u2 u3 : Value) : KeepTy t W ((((W.setCell ⟨z, 0, none⟩ (.int .i64 n)).setCell ⟨z, 1, none⟩ u1).setCell ⟨z, 2, none⟩ u2).setCell ⟨z, 3, none⟩ u3) := by
  have h0 := h.put0 hx n; have h1 := h0.put1 hx u1; have h2 := h1.put2 hx u2
  intro g cur hg
  have k : ∀ {W : World} {x1 : Int} {y1 y2 y3 : Value}, CB w W z x1 y1 y2 y3 → ∀ j u, KeepTy t W (W.setCell ⟨z, j, none⟩ u) := fun h j u => KeepTy.setCell (p := ⟨z, j, none⟩) (NotTy.of h.blk (Ne.symm ht)) _
  exact k h2 3 u3 g cur (k h1 2 u2 g cur (k h0 1 u1 g cur (k h 0 _ g cur hg)))
theorem below4 {M : Nat} (hx : M ≤ z) (u0 u1 u2 u3 : Value) : Below M W ((((W.setCell ⟨z, 0, none⟩ u0).setCell ⟨z, 1, none⟩ u1).setCell ⟨z, 2, none⟩ u2).setCell ⟨z, 3, none⟩ u3) := ((((Below.refl M W).setCell hx _).setCell hx _).setCell hx _).setCell hx _
end
theorem Cst.start {B : Bd} {w W : World} {z z1 z4 : Nat} {c : Cor} {vb vs vo ov : Value} (X1 : CB w W z c.vars vb vs vo) (X2 : CB w W z1 0 (.slice none 0 0) (.slice none 0 0) (.slice none 0 0)) (X4 : CB w W z4 0 (.slice none 0 0) (.slice none 0 0) (.slice none 0 0))
    (ho : IntG B W ov c.outs) (hz : w.heap.size = z) (hz1 : z + 1 = z1) (h4 : z1 < z4) (hB : B.hi = w.heap.size) :
    Cst B w ((((W.setCell ⟨z4, 0, none⟩ (.int .i64 c.vars)).setCell ⟨z4, 1, none⟩ (.slice none 0 0)).setCell ⟨z4, 2, none⟩ (.slice none 0 0)).setCell ⟨z4, 3, none⟩ ov) z z1 z4 c vb vs vo (.slice none 0 0) (.slice none 0 0) ov [] [] :=
  ⟨X1.apart (vars' := 0) (vb' := ov) (vs' := ov) (vo' := ov) (by omega) (by omega) _ _ _ _, X2.apart (vars' := 0) (vb' := ov) (vs' := ov) (vo' := ov) (by omega) (by omega) _ _ _ _, X4.put (by omega) _ _ _ _, RowG.nil _ _ _ _, RowG.nil _ _ _ _, ho.keep (below4 (by omega) _ _ _ _) (keep4 X4 (by omega) (by decide) _ _ _ _), ⟨by omega, by omega, by omega, by omega⟩, hB⟩
theorem Cst.fin {B : Bd} {w W : World} {z z1 z4 : Nat} {c : Cor} {vb vs vo bv sv ov : Value} {bs : List Buf} {ss : List Stp} (h : Cst B w W z z1 z4 c vb vs vo bv sv ov bs ss) (hz : w.heap.size = z) (hz1 : z + 1 = z1) (hv : I64 c.vars) :
    CB w ((((W.setCell ⟨z1, 0, none⟩ (.int .i64 c.vars)).setCell ⟨z1, 1, none⟩ bv).setCell ⟨z1, 2, none⟩ sv).setCell ⟨z1, 3, none⟩ ov) z1 c.vars bv sv ov ∧
    NewC B ((((W.setCell ⟨z1, 0, none⟩ (.int .i64 c.vars)).setCell ⟨z1, 1, none⟩ bv).setCell ⟨z1, 2, none⟩ sv).setCell ⟨z1, 3, none⟩ ov) bv sv ov ⟨c.vars, bs, ss, c.outs⟩ := by
  have hx : w.heap.size ≤ z1 := by omega
  have hB2 : Below B.hi W _ := below4 (W := W) (z := z1) (by rw [h.hB]; exact hx) (.int .i64 c.vars) bv sv ov
  have hk : ∀ t, t ≠ 33 → KeepTy t W _ := fun t ht => keep4 h.res hx ht c.vars bv sv ov
  have h1 := h.bufs.turn (B := B) (fun cs x hx => by
      obtain ⟨v, e, hx, h2⟩ := hx
      exact ⟨v, e, hx.keep hB2 (hk _ (by decide)) (hk _ (by decide)), h2⟩) (hk _ (by decide))
  have h2 := h.steps.turn (B := B) (fun cs x hx => by
      obtain ⟨v0, v1, v2, e, h0, h1, h2, h3⟩ := hx
      exact ⟨v0, v1, v2, e, h0.keep hB2 (hk _ (by decide)), h1.keep hB2 (hk _ (by decide)) (hk _ (by decide)), h2.keep hB2 (hk _ (by decide)) (hk _ (by decide)), h3⟩) (hk _ (by decide))
  exact ⟨h.res.put hx _ _ _ _, h1.sl B (Nat.le_refl _), h2.sl B (Nat.le_refl _), h.outs.keep hB2 (hk _ (by decide)), hv⟩
set_option maxHeartbeats 16000000 in
theorem score_good (w : World) (B : Bd) (hB : B.hi = w.heap.size) (c : Cor) (vb vs vo : Value) (h : CorAt w vb vs vo c) (hr : rightB c = true) :
    Calls Try.prog 13 #[CV c vb vs vo] w fun e w' => (∃ vb' vs' vo', e = .returned (.tuple #[CV (coreC c) vb' vs' vo', .int .i64 0]) ∧ NewC B w' vb' vs' vo' (coreC c)) ∧ Below w.heap.size w w' := by
  obtain ⟨ba, bc, sa, sc, oa, oc, rfl, rfl, rfl, hce, -, -⟩ := h.els
  have HA := Lib.hid h; have HCE := Lib.hid hce; have HR := Lib.hid hr; have HF := Lib.hid (right_fine hr); have HBB := Lib.hid hB
  have hv := h.2.2.2
  have HV := Lib.hid hv
  obtain ⟨z, hz⟩ : ∃ z, w.heap.size = z := ⟨_, rfl⟩
  obtain ⟨z1, hz1⟩ : ∃ z1, z + 1 = z1 := ⟨_, rfl⟩
  have h1 := CB.new (Below.refl w.heap.size w) c.vars (.slice ba c.bufs.length bc) (.slice sa c.steps.length sc) (.slice oa c.outs.length oc)
  rw [hz] at h1
  have hs1 : (w.alloc (.cells #[.int .i64 c.vars, .slice ba c.bufs.length bc, .slice sa c.steps.length sc, .slice oa c.outs.length oc] 33)).heap.size = z1 := by rw [← hz1, ← hz]; simp
  have h2 := CB.new (W := w.alloc (.cells #[.int .i64 c.vars, .slice ba c.bufs.length bc, .slice sa c.steps.length sc, .slice oa c.outs.length oc] 33)) h1.below 0 (.slice none 0 0) (.slice none 0 0) (.slice none 0 0)
  rw [hs1] at h2
  have h1 := h1.next (W' := (w.alloc (.cells #[.int .i64 c.vars, .slice ba c.bufs.length bc, .slice sa c.steps.length sc, .slice oa c.outs.length oc] 33)).alloc (.cells #[.int .i64 0, .slice none 0 0, .slice none 0 0, .slice none 0 0] 33)) ((Below.refl _ _).alloc (Nat.le_refl _) _)
  have X1 := Lib.hid h1; have X2 := Lib.hid h2; have HZ := Lib.hid hz; have HZ1 := Lib.hid hz1
  unfold CV
  clear h hce hr hB hv h1 h2 hs1
  go_enter Try.func13, Try.ntmps13
  go_upto_region 1 with fail
  refine gen_worldA (fun W => CB w W w.heap.size c.vars (.slice ba c.bufs.length bc) (.slice sa c.steps.length sc) (.slice oa c.outs.length oc) ∧ CB w W (w.heap.size + 1) 0 (.slice none 0 0) (.slice none 0 0) (.slice none 0 0)) (by rw [hz, hz1]; exact ⟨X1.out, X2.out⟩) ?_
  rw [hz, hz1]
  clear X1 X2 hz hz1
  rintro W1 ⟨h1, h2⟩
  have X1 := Lib.hid h1; have X2 := Lib.hid h2
  have x0 := h1.c0; have x1 := h1.c1; have x2 := h1.c2; have x3 := h1.c3
  have hq := cright_at W1 c ba sa oa bc sc oc (HCE.out.below h1.below)
  rw [HR.out] at hq
  unfold corV at hq
  have HQ := Lib.hid hq
  clear h1 h2 hq
  go_wp2_with fail
  refine HQ.out.mono ?_
  rintro e W2 ⟨rfl, hb⟩
  have X1 := Lib.hid (X1.out.next hb); have X2 := Lib.hid (X2.out.next hb)
  clear HQ hb x0 x1 x2 x3
  go_upto_region 3 with fail
  go_cut [4] (fun s4 wx => ∃ z4 ov, s4 = .pointer (some ⟨z4, 0, none⟩) ∧ Cst B w wx z z1 z4 c (.slice ba c.bufs.length bc) (.slice sa c.steps.length sc) (.slice oa c.outs.length oc) (.slice none 0 0) (.slice none 0 0) ov [] [])
  case first =>
    refine wp_region_Z (S := fun W' => W'.cell? ⟨z, 0, none⟩ = some (.int .i64 c.vars) ∧ W'.cell? ⟨z, 1, none⟩ = some (.slice ba c.bufs.length bc) ∧ W'.cell? ⟨z, 2, none⟩ = some (.slice sa c.steps.length sc) ∧ W'.cell? ⟨z, 3, none⟩ = some (.slice oa c.outs.length oc)) (z := 7) (by kernel_rfl) ?_
    have hdr : Below W2.heap.size W2 W2.drew := (Below.refl _ _).drew
    have X1 := Lib.hid (X1.out.next hdr); have X2 := Lib.hid (X2.out.next hdr)
    clear hdr
    generalize W2.drew = Y at X1 X2 ⊢
    have hSS : (fun W' : World => W'.cell? ⟨z, 0, none⟩ = some (.int .i64 c.vars) ∧ W'.cell? ⟨z, 1, none⟩ = some (.slice ba c.bufs.length bc) ∧ W'.cell? ⟨z, 2, none⟩ = some (.slice sa c.steps.length sc) ∧ W'.cell? ⟨z, 3, none⟩ = some (.slice oa c.outs.length oc)) Y := ⟨X1.out.c0, X1.out.c1, X1.out.c2, X1.out.c3⟩
    refine wpAnyZ_take (i := 0) (v := ?_) rfl (by kernel_rfl) (by kernel_rfl) (by kernel_rfl) (fun _ _ _ h => h) (by kernel_rfl) (Or.inl ⟨by rfl, ?_⟩) (by assumption) ?_
    rotate_left
    · intro w' hSw
      try dsimp only at hSw
      try obtain ⟨hSw, hSw2⟩ := hSw
      go_simp
      try with_reducible rfl
    show wpAnyZ _ _ _ _ _ _ _ _ (Act.put _ (some 13) _) _
    simp only [Act.put, List.setIfInBounds_toArray, List.set_cons_zero, List.set_cons_succ]
    refine wpAnyZ_take (i := 1) (v := ?_) rfl (by kernel_rfl) (by kernel_rfl) (by kernel_rfl) (fun _ _ _ h => h) (by kernel_rfl) (Or.inl ⟨by rfl, ?_⟩) (by assumption) ?_
    rotate_left
    · intro w' hSw
      try dsimp only at hSw
      try obtain ⟨hSw, hSw2⟩ := hSw
      go_simp
      try with_reducible rfl
    show wpAnyZ _ _ _ _ _ _ _ _ (Act.put _ (some 14) _) _
    simp only [Act.put, List.setIfInBounds_toArray, List.set_cons_zero, List.set_cons_succ]
    refine wpAnyZ_take (i := 2) (v := ?_) rfl (by kernel_rfl) (by kernel_rfl) (by kernel_rfl) (fun _ _ _ h => h) (by kernel_rfl) (Or.inl ⟨by rfl, ?_⟩) (by assumption) ?_
    rotate_left
    · intro w' hSw
      try dsimp only at hSw
      try obtain ⟨hSw, hSw2⟩ := hSw
      go_simp
      try with_reducible rfl
    show wpAnyZ _ _ _ _ _ _ _ _ (Act.put _ (some 15) _) _
    simp only [Act.put, List.setIfInBounds_toArray, List.set_cons_zero, List.set_cons_succ]
    refine wpAnyZ_take (i := 3) (v := ?_) rfl (by kernel_rfl) (by kernel_rfl) (by kernel_rfl) (fun _ _ _ h => h) (by kernel_rfl) (Or.inl ⟨by rfl, ?_⟩) (by assumption) ?_
    rotate_left
    · intro w' hSw
      try dsimp only at hSw
      try obtain ⟨hSw, hSw2⟩ := hSw
      go_simp
      try with_reducible rfl
    show wpAnyZ _ _ _ _ _ _ _ _ (Act.put _ (some 16) _) _
    simp only [Act.put, List.setIfInBounds_toArray, List.set_cons_zero, List.set_cons_succ]
    clear hSS
    refine wpAnyZ_twoG (i := 4) (j := 6) (by kernel_rfl) rfl rfl (by rfl) (by rfl) (fun K hK => ?_) (fun K hK => ?_)
    · skip
      go_simp
      have hq := cloneI_any Y B (by have := X1.out.below.size; have h2 := HBB.out; omega) oa c.outs.length oc c.outs (HA.out.2.2.1.below _ X1.out.below (Nat.le_refl _)) rfl (by have := HF.out.ol; omega)
      refine hq.mono ?_
      rintro e Y1 ⟨⟨ov, rfl, hov⟩, hb⟩
      obtain ⟨oa2, oc2, rfl⟩ := hov.1.form0
      have X1 := Lib.hid (X1.out.next hb)
      have X2 := Lib.hid (X2.out.next hb)
      have HOV := Lib.hid hov
      show K _ Y1
      refine hK.out _ _ (.inr ⟨X1.out.c0, X1.out.c1, X1.out.c2, X1.out.c3⟩) ?_
      clear hK hq hov hb
      have hSS : (fun W' : World => W'.cell? ⟨z, 0, none⟩ = some (.int .i64 c.vars) ∧ W'.cell? ⟨z, 1, none⟩ = some (.slice ba c.bufs.length bc) ∧ W'.cell? ⟨z, 2, none⟩ = some (.slice sa c.steps.length sc) ∧ W'.cell? ⟨z, 3, none⟩ = some (.slice oa c.outs.length oc)) Y1 := ⟨X1.out.c0, X1.out.c1, X1.out.c2, X1.out.c3⟩
      refine wpAnyZ_take (i := 5) (v := ?_) rfl (by kernel_rfl) (by kernel_rfl) (by kernel_rfl) (fun _ _ _ h => h) (by kernel_rfl) (Or.inl ⟨by rfl, ?_⟩) (by assumption) ?_
      rotate_left
      · intro w' hSw
        try dsimp only at hSw
        try obtain ⟨hSw, hSw2⟩ := hSw
        go_simp
        try with_reducible rfl
      show wpAnyZ _ _ _ _ _ _ _ _ (Act.put _ (some 18) _) _
      simp only [Act.put, List.setIfInBounds_toArray, List.set_cons_zero, List.set_cons_succ]
      clear hSS
      refine wpAnyZ_oneG (i := 6) (by kernel_rfl) rfl (by rfl) (fun K hK => ?_)
      go_simp
      obtain ⟨z4, hz4⟩ : ∃ b, Y1.heap.size = b := ⟨_, rfl⟩
      have hba : Below Y1.heap.size Y1 (Y1.alloc (.cells #[.int .i64 0, .slice none 0 0, .slice none 0 0, .slice none 0 0] 33)) := (Below.refl _ _).alloc (Nat.le_refl _) _
      have x4 := CB.new (W := Y1) X1.out.below 0 (.slice none 0 0) (.slice none 0 0) (.slice none 0 0)
      rw [hz4] at x4
      have hlt1 := X1.out.lt; have hlt2 := X2.out.lt; have hwz := X1.out.below.size
      rw [hz4] at hlt1 hlt2 hwz
      have X1 := Lib.hid (X1.out.next hba)
      have X2 := Lib.hid (X2.out.next hba)
      have HOV := Lib.hid (HOV.out.below hba)
      have X4 := Lib.hid x4
      rw [hz4]
      refine hK.out _ _ (.inr ⟨X1.out.c0, X1.out.c1, X1.out.c2, X1.out.c3⟩) ?_
      clear hK hba hz4 x4
      generalize Y1.alloc (.cells #[.int .i64 0, .slice none 0 0, .slice none 0 0, .slice none 0 0] 33) = Y2 at *
      have g0 := X4.out.fr 0; have g1 := X4.out.fr 1; have g2 := X4.out.fr 2; have g3 := X4.out.fr 3
      have y0 := X4.out.c0; have y1 := X4.out.c1; have y2 := X4.out.c2; have y3 := X4.out.c3
      refine wpAnyZ_oneG (i := 7) (by kernel_rfl) rfl (by rfl) (fun K hK => ?_)
      go_simp
      refine hK.out _ _ (.inl (by omega)) ?_
      clear hK
      refine wpAnyZ_done (by kernel_rfl) ?_ _
      go_wp2_with fail
      go_meet
      exact ⟨z4, _, rfl, Cst.start X1.out X2.out X4.out HOV.out HZ.out HZ1.out (by omega) HBB.out⟩
    · skip
      go_simp
      obtain ⟨z4, hz4⟩ : ∃ b, Y.heap.size = b := ⟨_, rfl⟩
      have hba : Below Y.heap.size Y (Y.alloc (.cells #[.int .i64 0, .slice none 0 0, .slice none 0 0, .slice none 0 0] 33)) := (Below.refl _ _).alloc (Nat.le_refl _) _
      have x4 := CB.new (W := Y) X1.out.below 0 (.slice none 0 0) (.slice none 0 0) (.slice none 0 0)
      rw [hz4] at x4
      have hlt1 := X1.out.lt; have hlt2 := X2.out.lt; have hwz := X1.out.below.size
      rw [hz4] at hlt1 hlt2 hwz
      have X1 := Lib.hid (X1.out.next hba)
      have X2 := Lib.hid (X2.out.next hba)
      have X4 := Lib.hid x4
      rw [hz4]
      refine hK.out _ _ (.inr ⟨X1.out.c0, X1.out.c1, X1.out.c2, X1.out.c3⟩) ?_
      clear hK hba hz4 x4
      generalize Y.alloc (.cells #[.int .i64 0, .slice none 0 0, .slice none 0 0, .slice none 0 0] 33) = Y1 at *
      refine wpAnyZ_oneG (i := 4) (by kernel_rfl) rfl (by rfl) (fun K hK => ?_)
      go_simp
      have hq := cloneI_any Y1 B (by have := X1.out.below.size; have h2 := HBB.out; omega) oa c.outs.length oc c.outs (HA.out.2.2.1.below _ X1.out.below (Nat.le_refl _)) rfl (by have := HF.out.ol; omega)
      refine hq.mono ?_
      rintro e Y2 ⟨⟨ov, rfl, hov⟩, hb⟩
      obtain ⟨oa2, oc2, rfl⟩ := hov.1.form0
      have X1 := Lib.hid (X1.out.next hb)
      have X2 := Lib.hid (X2.out.next hb)
      have X4 := Lib.hid (X4.out.next hb)
      have HOV := Lib.hid hov
      show K _ Y2
      refine hK.out _ _ (.inr ⟨X1.out.c0, X1.out.c1, X1.out.c2, X1.out.c3⟩) ?_
      clear hK hq hov hb
      have hSS : (fun W' : World => W'.cell? ⟨z, 0, none⟩ = some (.int .i64 c.vars) ∧ W'.cell? ⟨z, 1, none⟩ = some (.slice ba c.bufs.length bc) ∧ W'.cell? ⟨z, 2, none⟩ = some (.slice sa c.steps.length sc) ∧ W'.cell? ⟨z, 3, none⟩ = some (.slice oa c.outs.length oc)) Y2 := ⟨X1.out.c0, X1.out.c1, X1.out.c2, X1.out.c3⟩
      refine wpAnyZ_take (i := 5) (v := ?_) rfl (by kernel_rfl) (by kernel_rfl) (by kernel_rfl) (fun _ _ _ h => h) (by kernel_rfl) (Or.inl ⟨by rfl, ?_⟩) (by assumption) ?_
      rotate_left
      · intro w' hSw
        try dsimp only at hSw
        try obtain ⟨hSw, hSw2⟩ := hSw
        go_simp
        try with_reducible rfl
      show wpAnyZ _ _ _ _ _ _ _ _ (Act.put _ (some 18) _) _
      simp only [Act.put, List.setIfInBounds_toArray, List.set_cons_zero, List.set_cons_succ]
      clear hSS
      have g0 := X4.out.fr 0; have g1 := X4.out.fr 1; have g2 := X4.out.fr 2; have g3 := X4.out.fr 3
      have y0 := X4.out.c0; have y1 := X4.out.c1; have y2 := X4.out.c2; have y3 := X4.out.c3
      refine wpAnyZ_oneG (i := 7) (by kernel_rfl) rfl (by rfl) (fun K hK => ?_)
      go_simp
      refine hK.out _ _ (.inl (by omega)) ?_
      clear hK
      refine wpAnyZ_done (by kernel_rfl) ?_ _
      go_wp2_with fail
      go_meet
      exact ⟨z4, _, rfl, Cst.start X1.out X2.out X4.out HOV.out HZ.out HZ1.out (by omega) HBB.out⟩
  case rest =>
    clear X1 X2
    obtain ⟨z4, ov, rfl, hc⟩ := hcut
    have HC := Lib.hid hc
    have x1 := hc.arg.c1
    have hbl : c.bufs.length ≤ 1024 := HF.out.bl
    have hslen : c.steps.length ≤ 1024 := HF.out.sl
    clear hc
    go_wp2_with fail
    clear x1
    go_loopw [22] (fun i wr => ∃ (k : Nat) (bv : Value), k ≤ c.bufs.length ∧ i = .int .i64 k ∧ Cst B w wr z z1 z4 c (.slice ba c.bufs.length bc) (.slice sa c.steps.length sc) (.slice oa c.outs.length oc) bv (.slice none 0 0) ov (c.bufs.take k) []) (fun i _ => c.bufs.length - (intOf i).toNat)
    case atStart => exact ⟨0, _, Nat.zero_le _, rfl, HC.out⟩
    case round =>
      obtain ⟨k, bv, hk, rfl, hc⟩ := hrel
      clear HC
      by_cases hlt : k < c.bufs.length
      · obtain ⟨b, off, cs, rfl, ⟨v, rfl, hv, hin⟩, hcell⟩ := (sl_elsR HA.out.1).1 k hlt
        obtain ⟨va, vc, rfl⟩ := hv.form0
        have x0 := keepCell hc.b (hcell 0 _ rfl); have x1 := keepCell hc.b (hcell 1 _ rfl)
        simp only [show bufRep.n = 2 from rfl, Nat.add_zero] at x0 x1
        have hp := (PolS.of hv).below hc.b
        have hbf := HF.out.bufs _ (List.getElem_mem hlt)
        have hst : c.bufs.take (k + 1) = c.bufs.take k ++ [c.bufs[k]] := List.take_succ_eq_append_getElem hlt
        have htl : (c.bufs.take k).length = k := by rw [List.length_take]; omega
        obtain ⟨bva, bvc, rfl⟩ := hc.bufs.form
        rw [htl] at hc
        generalize c.bufs[k] = bu at x0 x1 hp hbf hst hin
        generalize c.bufs.take k = bs at hc hst htl
        obtain ⟨sl, hsl⟩ : ∃ n, bu.sides.length = n := ⟨_, rfl⟩
        rw [hsl] at x0 hp hbf
        obtain ⟨z6, hz6⟩ : ∃ b, wr.heap.size = b := ⟨_, rfl⟩
        have hne := hc.bufs.lt; rw [hz6] at hne
        have hba : Below wr.heap.size wr (wr.alloc (.cells #[.slice va sl vc, .int .i64 bu.input] 52)) := (Below.refl _ _).alloc (Nat.le_refl _) _
        have hb6 := BB.new hz6 (.slice va sl vc) bu.input
        have HC := Lib.hid (hc.next hba); have B6 := Lib.hid hb6; have HP := Lib.hid (hp.below hba); have HST := Lib.hid hst; have HTL := Lib.hid htl; have HBF := Lib.hid hbf; have HNE := Lib.hid hne; have HIN := Lib.hid hin; have HSL := Lib.hid hsl
        have y1 := hc.arg.c1
        have hz0 : (0 : Int) ≤ (k : Int) := by omega
        have hzl : (k : Int) < (c.bufs.length : Int) := by omega
        clear hc hba hb6 hp hst htl hbf hne hin hcell hv hsl
        go_upto_region 7 with fail
        refine gen_worldA (fun W => Cst B w W z z1 z4 c (.slice (some ⟨b, off, none⟩) c.bufs.length bc) (.slice sa c.steps.length sc) (.slice oa c.outs.length oc) (.slice bva k bvc) (.slice none 0 0) ov bs [] ∧ BB W z6 (.slice va sl vc) bu.input ∧ PolS (b0 w.heap.size) W (.slice va sl vc) bu.sides) ⟨HC.out, B6.out, HP.out⟩ ?_
        clear HC B6 HP x0 x1 y1 hz6
        rintro W1 ⟨hc, hb6, hp⟩
        have hdr : Below W1.heap.size W1 W1.drew := (Below.refl _ _).drew
        have HC := Lib.hid (hc.next hdr); have B6 := Lib.hid (hb6.next hdr); have HP := Lib.hid (hp.below hdr)
        clear hc hb6 hp hdr
        refine wp_region_Z (S := fun W' => (W'.cell? ⟨z4, 0, none⟩ = some (.int .i64 c.vars) ∧ W'.cell? ⟨z4, 1, none⟩ = some (.slice bva k bvc) ∧ W'.cell? ⟨z4, 2, none⟩ = some (.slice none 0 0) ∧ W'.cell? ⟨z4, 3, none⟩ = some ov) ∧ (W'.cell? ⟨z6, 0, none⟩ = some (.slice va sl vc) ∧ W'.cell? ⟨z6, 1, none⟩ = some (.int .i64 bu.input))) (z := 11) (by kernel_rfl) ?_
        generalize W1.drew = Y at HC B6 HP ⊢
        have hSS : (fun W' : World => (W'.cell? ⟨z4, 0, none⟩ = some (.int .i64 c.vars) ∧ W'.cell? ⟨z4, 1, none⟩ = some (.slice bva k bvc) ∧ W'.cell? ⟨z4, 2, none⟩ = some (.slice none 0 0) ∧ W'.cell? ⟨z4, 3, none⟩ = some ov) ∧ (W'.cell? ⟨z6, 0, none⟩ = some (.slice va sl vc) ∧ W'.cell? ⟨z6, 1, none⟩ = some (.int .i64 bu.input))) Y := ⟨⟨HC.out.out.c0, HC.out.out.c1, HC.out.out.c2, HC.out.out.c3⟩, B6.out.c0, B6.out.c1⟩
        refine wpAnyZ_take (i := 0) (v := ?_) rfl (by kernel_rfl) (by kernel_rfl) (by kernel_rfl) (fun _ _ _ h => h) (by kernel_rfl) (Or.inl ⟨by rfl, ?_⟩) (by assumption) ?_
        rotate_left
        · intro w' hSw
          try dsimp only at hSw
          try obtain ⟨hSw, hSw2⟩ := hSw
          go_simp
          try with_reducible rfl
        show wpAnyZ _ _ _ _ _ _ _ _ (Act.put _ (some 26) _) _
        simp only [Act.put, List.setIfInBounds_toArray, List.set_cons_zero, List.set_cons_succ]
        refine wpAnyZ_take (i := 1) (v := ?_) rfl (by kernel_rfl) (by kernel_rfl) (by kernel_rfl) (fun _ _ _ h => h) (by kernel_rfl) (Or.inl ⟨by rfl, ?_⟩) (by assumption) ?_
        rotate_left
        · intro w' hSw
          try dsimp only at hSw
          try obtain ⟨hSw, hSw2⟩ := hSw
          go_simp
          try with_reducible rfl
        show wpAnyZ _ _ _ _ _ _ _ _ (Act.put _ (some 27) _) _
        simp only [Act.put, List.setIfInBounds_toArray, List.set_cons_zero, List.set_cons_succ]
        refine wpAnyZ_take (i := 2) (v := ?_) rfl (by kernel_rfl) (by kernel_rfl) (by kernel_rfl) (fun _ _ _ h => h) (by kernel_rfl) (Or.inl ⟨by rfl, ?_⟩) (by assumption) ?_
        rotate_left
        · intro w' hSw
          try dsimp only at hSw
          try obtain ⟨hSw, hSw2⟩ := hSw
          go_simp
          try with_reducible rfl
        show wpAnyZ _ _ _ _ _ _ _ _ (Act.put _ (some 28) _) _
        simp only [Act.put, List.setIfInBounds_toArray, List.set_cons_zero, List.set_cons_succ]
        refine wpAnyZ_take (i := 3) (v := ?_) rfl (by kernel_rfl) (by kernel_rfl) (by kernel_rfl) (fun _ _ _ h => h) (by kernel_rfl) (Or.inl ⟨by rfl, ?_⟩) (by assumption) ?_
        rotate_left
        · intro w' hSw
          try dsimp only at hSw
          try obtain ⟨hSw, hSw2⟩ := hSw
          go_simp
          try with_reducible rfl
        show wpAnyZ _ _ _ _ _ _ _ _ (Act.put _ (some 29) _) _
        simp only [Act.put, List.setIfInBounds_toArray, List.set_cons_zero, List.set_cons_succ]
        refine wpAnyZ_take (i := 5) (v := ?_) rfl (by kernel_rfl) (by kernel_rfl) (by kernel_rfl) (fun _ _ _ h => h) (by kernel_rfl) (Or.inl ⟨by rfl, ?_⟩) (by assumption) ?_
        rotate_left
        · intro w' hSw
          try dsimp only at hSw
          try obtain ⟨hSw, hSw2⟩ := hSw
          go_simp
          try with_reducible rfl
        show wpAnyZ _ _ _ _ _ _ _ _ (Act.put _ (some 31) _) _
        simp only [Act.put, List.setIfInBounds_toArray, List.set_cons_zero, List.set_cons_succ]
        refine wpAnyZ_take (i := 6) (v := ?_) rfl (by kernel_rfl) (by kernel_rfl) (by kernel_rfl) (fun _ _ _ h => h) (by kernel_rfl) (Or.inl ⟨by rfl, ?_⟩) (by assumption) ?_
        rotate_left
        · intro w' hSw
          try dsimp only at hSw
          try obtain ⟨hSw, hSw2⟩ := hSw
          go_simp
          try with_reducible rfl
        show wpAnyZ _ _ _ _ _ _ _ _ (Act.put _ (some 32) _) _
        simp only [Act.put, List.setIfInBounds_toArray, List.set_cons_zero, List.set_cons_succ]
        clear hSS
        refine wpAnyZ_oneG (i := 4) (by kernel_rfl) rfl (by rfl) (fun K hK => ?_)
        go_simp
        have hq := copied_any Y (b0 w.heap.size) B (by have := HC.out.b.size; have h2 := HBB.out; omega) va sl vc bu.sides HP.out HSL.out.symm (by have := HBF.out.1; omega) (fun p hp => Nat.le_trans (HBF.out.2 p hp) (by decide))
        refine hq.mono ?_
        rintro e W2 ⟨⟨v2, rfl, hv2⟩, hb⟩
        obtain ⟨va2, vc2, rfl⟩ := hv2.form0
        rw [HSL.out] at hv2 ⊢
        have HC := Lib.hid (HC.out.next hb); have B6 := Lib.hid (B6.out.next hb); have HV := Lib.hid hv2
        show K _ W2
        refine hK.out _ _ (.inr ⟨⟨HC.out.out.c0, HC.out.out.c1, HC.out.out.c2, HC.out.out.c3⟩, B6.out.c0, B6.out.c1⟩) ?_
        clear hK hq hv2 hb HP
        have hSS : (fun W' : World => (W'.cell? ⟨z4, 0, none⟩ = some (.int .i64 c.vars) ∧ W'.cell? ⟨z4, 1, none⟩ = some (.slice bva k bvc) ∧ W'.cell? ⟨z4, 2, none⟩ = some (.slice none 0 0) ∧ W'.cell? ⟨z4, 3, none⟩ = some ov) ∧ (W'.cell? ⟨z6, 0, none⟩ = some (.slice va sl vc) ∧ W'.cell? ⟨z6, 1, none⟩ = some (.int .i64 bu.input))) W2 := ⟨⟨HC.out.out.c0, HC.out.out.c1, HC.out.out.c2, HC.out.out.c3⟩, B6.out.c0, B6.out.c1⟩
        refine wpAnyZ_take (i := 7) (v := ?_) rfl (by kernel_rfl) (by kernel_rfl) (by kernel_rfl) (fun _ _ _ h => h) (by kernel_rfl) (Or.inl ⟨by rfl, ?_⟩) (by assumption) ?_
        rotate_left
        · intro w' hSw
          try dsimp only at hSw
          try obtain ⟨hSw, hSw2⟩ := hSw
          go_simp
          try with_reducible rfl
        show wpAnyZ _ _ _ _ _ _ _ _ (Act.put _ (some 33) _) _
        simp only [Act.put, List.setIfInBounds_toArray, List.set_cons_zero, List.set_cons_succ]
        clear hSS
        refine wpAnyZ_oneG (i := 8) (by kernel_rfl) rfl (by rfl) (fun K hK => ?_)
        go_simp
        obtain ⟨G, hG⟩ : ∃ b, W2.heap.size = b := ⟨_, rfl⟩
        have hba : Below W2.heap.size W2 (W2.alloc (.cells #[.slice va2 sl vc2, .int .i64 bu.input] 52)) := (Below.refl _ _).alloc (Nat.le_refl _) _
        have HG := Lib.hid (heap_new hG (o := .cells #[.slice va2 sl vc2, .int .i64 bu.input] 52))
        have HC := Lib.hid (HC.out.next hba); have B6 := Lib.hid (B6.out.next hba); have HV := Lib.hid (HV.out.below hba)
        rw [hG]
        refine hK.out _ _ (.inr ⟨⟨HC.out.out.c0, HC.out.out.c1, HC.out.out.c2, HC.out.out.c3⟩, B6.out.c0, B6.out.c1⟩) ?_
        clear hK hba hG
        generalize W2.alloc (.cells #[.slice va2 sl vc2, .int .i64 bu.input] 52) = W3 at *
        refine wpAnyZ_oneG (i := 9) (by kernel_rfl) rfl (by rfl) (fun K hK => ?_)
        refine wp_pushG (.tmp 27) (.tmp 34) 29 52 rfl (.agg #[.slice none 0 0, .int .i64 0]) 32 Try.underlying29 (by kernel_rfl) (by rfl) (show 0 < 2 by decide) B B.hi G (keep_buf B) _ bs bu _ rfl (by have := HC.out.bufs; exact this) rfl HG.out ⟨_, rfl, HV.out, HIN.out⟩ (by rw [HTL.out]; have := HF.out.bl; unfold maxLen; omega) (by rw [HTL.out]; have := HF.out.bl; omega) (Nat.le_refl _) (by have := HC.out.b.size; have h2 := HBB.out; omega) ?_
        intro v' W4 hr hb hg hk4
        obtain ⟨bva2, bvc2, rfl⟩ := hr.form
        obtain ⟨q4, hq4⟩ : ∃ q, (bs ++ [bu]).length = q := ⟨_, rfl⟩
        rw [hq4] at hr ⊢
        have hc4 := HC.out.push1 hr hb hk4
        have hout := HC.out.out.keep (HC.out.b.trans (HBB.out ▸ hb)) (hk4 _ (by decide))
        have hb6 := B6.out.grown hg (fun e => by have := (HNE.out z6 e).2; omega)
        refine hK.out _ _ (.inr ⟨⟨hout.c0, hout.c1, hout.c2, hout.c3⟩, hb6.c0, hb6.c1⟩) ?_
        clear hK hr hb hg hk4
        have hSS : (fun W' : World => (W'.cell? ⟨z4, 0, none⟩ = some (.int .i64 c.vars) ∧ W'.cell? ⟨z4, 1, none⟩ = some (.slice bva k bvc) ∧ W'.cell? ⟨z4, 2, none⟩ = some (.slice none 0 0) ∧ W'.cell? ⟨z4, 3, none⟩ = some ov) ∧ (W'.cell? ⟨z6, 0, none⟩ = some (.slice va sl vc) ∧ W'.cell? ⟨z6, 1, none⟩ = some (.int .i64 bu.input))) W4 := ⟨⟨hout.c0, hout.c1, hout.c2, hout.c3⟩, hb6.c0, hb6.c1⟩
        refine wpAnyZ_take (i := 10) (v := ?_) rfl (by kernel_rfl) (by kernel_rfl) (by kernel_rfl) (fun _ _ _ h => h) (by kernel_rfl) (Or.inl ⟨by rfl, ?_⟩) (by assumption) ?_
        rotate_left
        · intro w' hSw
          try dsimp only at hSw
          try obtain ⟨hSw, hSw2⟩ := hSw
          go_simp
          try with_reducible rfl
        show wpAnyZ _ _ _ _ _ _ _ _ (Act.put _ (some 36) _) _
        simp only [Act.put, List.setIfInBounds_toArray, List.set_cons_zero, List.set_cons_succ]
        clear hSS
        have y0 := hout.c1; have g0 := hout.fr 1
        refine wpAnyZ_oneG (i := 11) (by kernel_rfl) rfl (by rfl) (fun K hK => ?_)
        go_simp
        refine hK.out _ _ (.inl (by omega)) ?_
        clear hK
        refine wpAnyZ_done (by kernel_rfl) ?_ _
        have HCZ := Lib.hid hc4
        clear hc4 hout hb6 y0 g0 HC B6 HV HG hq4
        go_wp2_with fail
        go_roundw
        case rel => exact ⟨k + 1, _, by omega, by go_num, by rw [HST.out]; exact HCZ.out⟩
        case measure => simp [intOf] <;> omega
      · obtain rfl : k = c.bufs.length := by omega
        rw [List.take_length] at hc
        have HC := Lib.hid hc
        have x2 := hc.arg.c2
        clear hc hlt hk
        go_wp2_with fail
        clear x2
        go_loopw [41] (fun i wr => ∃ (k : Nat) (sv : Value), k ≤ c.steps.length ∧ i = .int .i64 k ∧ Cst B w wr z z1 z4 c (.slice ba c.bufs.length bc) (.slice sa c.steps.length sc) (.slice oa c.outs.length oc) bv sv ov c.bufs ((c.steps.take k).map stepO)) (fun i _ => c.steps.length - (intOf i).toNat)
        case atStart => exact ⟨0, _, Nat.zero_le _, rfl, HC.out⟩
        case round =>
          obtain ⟨k, sv, hk, rfl, hc⟩ := hrel
          clear HC
          by_cases hlt : k < c.steps.length
          · obtain ⟨b, off, cs, rfl, ⟨v0, v1, v2, rfl, hv0, hv1, hv2, hi0, hi1, hi2⟩, hcell⟩ := (sl_elsR HA.out.2.1).1 k hlt
            obtain ⟨va0, vc0, rfl⟩ := hv0.form0; obtain ⟨va1, vc1, rfl⟩ := hv1.form0; obtain ⟨va2, vc2, rfl⟩ := hv2.form0
            have x0 := keepCell hc.b (hcell 0 _ rfl); have x1 := keepCell hc.b (hcell 1 _ rfl); have x2 := keepCell hc.b (hcell 2 _ rfl); have x3 := keepCell hc.b (hcell 3 _ rfl); have x4 := keepCell hc.b (hcell 4 _ rfl); have x5 := keepCell hc.b (hcell 5 _ rfl)
            simp only [show stpRep.n = 6 from rfl, Nat.add_zero] at x0 x1 x2 x3 x4 x5
            have hm := (MonS.of hv0).below hc.b; have hp := (PolS.of hv1).below hc.b; have ho := (CopS.of hv2).below hc.b
            have hbf := HF.out.steps _ (List.getElem_mem hlt)
            have hst : (c.steps.take (k + 1)).map stepO = (c.steps.take k).map stepO ++ [stepO c.steps[k]] := by rw [List.take_succ_eq_append_getElem hlt, List.map_append]; rfl
            have htl : ((c.steps.take k).map stepO).length = k := by rw [List.length_map, List.length_take]; omega
            obtain ⟨sva, svc, rfl⟩ := hc.steps.form
            rw [htl] at hc
            generalize c.steps[k] = s at x0 x1 x2 x3 x4 x5 hm hp ho hbf hst hi0 hi1 hi2
            generalize (c.steps.take k).map stepO = ss at hc hst htl
            obtain ⟨l0, hl0⟩ : ∃ n, s.pos.length = n := ⟨_, rfl⟩; obtain ⟨l1, hl1⟩ : ∃ n, s.loops.length = n := ⟨_, rfl⟩; obtain ⟨l2, hl2⟩ : ∃ n, s.ops.length = n := ⟨_, rfl⟩
            rw [hl0] at x2 hm; rw [hl1] at x3 hp; rw [hl2] at x5 ho
            obtain ⟨z8, hz8⟩ : ∃ b, wr.heap.size = b := ⟨_, rfl⟩
            have hne := hc.steps.lt; rw [hz8] at hne
            have hba : Below wr.heap.size wr (wr.alloc (.cells #[.int .i64 s.how, .int .i64 s.buf, .slice va0 l0 vc0, .slice va1 l1 vc1, .int .u8 s.fn, .slice va2 l2 vc2] 42)) := (Below.refl _ _).alloc (Nat.le_refl _) _
            have hb8 := SB.new hz8 s.how s.buf (.slice va0 l0 vc0) (.slice va1 l1 vc1) s.fn (.slice va2 l2 vc2)
            have hw8 : w.heap.size ≤ z8 := by rw [← hz8]; exact hc.b.size
            have HC := Lib.hid (hc.next hba); have B8 := Lib.hid hb8; have HM := Lib.hid (hm.below hba); have HP := Lib.hid (hp.below hba); have HO := Lib.hid (ho.below hba); have HST := Lib.hid hst; have HTL := Lib.hid htl; have HBF := Lib.hid hbf; have HNE := Lib.hid hne; have HI := Lib.hid (show I64 s.how ∧ I64 s.buf ∧ U8 s.fn from ⟨hi0, hi1, hi2⟩); have HL := Lib.hid (show s.pos.length = l0 ∧ s.loops.length = l1 ∧ s.ops.length = l2 from ⟨hl0, hl1, hl2⟩); have HW8 := Lib.hid hw8
            have y1 := hc.arg.c2
            have hz0 : (0 : Int) ≤ (k : Int) := by omega
            have hzl : (k : Int) < (c.steps.length : Int) := by omega
            clear hc hba hb8 hm hp ho hst htl hbf hne hi0 hi1 hi2 hcell hv0 hv1 hv2 hl0 hl1 hl2 hw8
            go_upto_region 12 with fail
            refine gen_worldA (fun W => Cst B w W z z1 z4 c (.slice ba c.bufs.length bc) (.slice (some ⟨b, off, none⟩) c.steps.length sc) (.slice oa c.outs.length oc) bv (.slice sva k svc) ov c.bufs ss ∧ SB W z8 s.how s.buf (.slice va0 l0 vc0) (.slice va1 l1 vc1) s.fn (.slice va2 l2 vc2) ∧ MonS (b0 w.heap.size) W (.slice va0 l0 vc0) s.pos ∧ PolS (b0 w.heap.size) W (.slice va1 l1 vc1) s.loops ∧ CopS (b0 w.heap.size) W (.slice va2 l2 vc2) s.ops) ⟨HC.out, B8.out, HM.out, HP.out, HO.out⟩ ?_
            clear HC B8 HM HP HO x0 x1 x2 x3 x4 x5 y1 hz8
            rintro W1 ⟨hc, hb8, hm, hp, ho⟩
            have hdr : Below W1.heap.size W1 W1.drew := (Below.refl _ _).drew
            have HC := Lib.hid (hc.next hdr); have B8 := Lib.hid (hb8.next hdr); have HM := Lib.hid (hm.below hdr); have HP := Lib.hid (hp.below hdr); have HO := Lib.hid (ho.below hdr)
            clear hc hb8 hm hp ho hdr
            refine wp_region_Z (S := fun W' => W'.cell? ⟨z8, 0, none⟩ = some (.int .i64 s.how) ∧ W'.cell? ⟨z8, 1, none⟩ = some (.int .i64 s.buf) ∧ W'.cell? ⟨z8, 2, none⟩ = some (.slice va0 l0 vc0) ∧ W'.cell? ⟨z8, 3, none⟩ = some (.slice va1 l1 vc1) ∧ W'.cell? ⟨z8, 4, none⟩ = some (.int .u8 s.fn) ∧ W'.cell? ⟨z8, 5, none⟩ = some (.slice va2 l2 vc2)) (z := 10) (by kernel_rfl) ?_
            generalize W1.drew = Y at HC B8 HM HP HO ⊢
            have hSS : (fun W' : World => W'.cell? ⟨z8, 0, none⟩ = some (.int .i64 s.how) ∧ W'.cell? ⟨z8, 1, none⟩ = some (.int .i64 s.buf) ∧ W'.cell? ⟨z8, 2, none⟩ = some (.slice va0 l0 vc0) ∧ W'.cell? ⟨z8, 3, none⟩ = some (.slice va1 l1 vc1) ∧ W'.cell? ⟨z8, 4, none⟩ = some (.int .u8 s.fn) ∧ W'.cell? ⟨z8, 5, none⟩ = some (.slice va2 l2 vc2)) Y := ⟨B8.out.c0, B8.out.c1, B8.out.c2, B8.out.c3, B8.out.c4, B8.out.c5⟩
            refine wpAnyZ_take (i := 0) (v := ?_) rfl (by kernel_rfl) (by kernel_rfl) (by kernel_rfl) (fun _ _ _ h => h) (by kernel_rfl) (Or.inl ⟨by rfl, ?_⟩) (by assumption) ?_
            rotate_left
            · intro w' hSw
              try dsimp only at hSw
              try obtain ⟨hSw, hSw2⟩ := hSw
              go_simp
              try with_reducible rfl
            show wpAnyZ _ _ _ _ _ _ _ _ (Act.put _ (some 45) _) _
            simp only [Act.put, List.setIfInBounds_toArray, List.set_cons_zero, List.set_cons_succ]
            refine wpAnyZ_take (i := 1) (v := ?_) rfl (by kernel_rfl) (by kernel_rfl) (by kernel_rfl) (fun _ _ _ h => h) (by kernel_rfl) (Or.inl ⟨by rfl, ?_⟩) (by assumption) ?_
            rotate_left
            · intro w' hSw
              try dsimp only at hSw
              try obtain ⟨hSw, hSw2⟩ := hSw
              go_simp
              try with_reducible rfl
            show wpAnyZ _ _ _ _ _ _ _ _ (Act.put _ (some 46) _) _
            simp only [Act.put, List.setIfInBounds_toArray, List.set_cons_zero, List.set_cons_succ]
            refine wpAnyZ_take (i := 3) (v := ?_) rfl (by kernel_rfl) (by kernel_rfl) (by kernel_rfl) (fun _ _ _ h => h) (by kernel_rfl) (Or.inl ⟨by rfl, ?_⟩) (by assumption) ?_
            rotate_left
            · intro w' hSw
              try dsimp only at hSw
              try obtain ⟨hSw, hSw2⟩ := hSw
              go_simp
              try with_reducible rfl
            show wpAnyZ _ _ _ _ _ _ _ _ (Act.put _ (some 48) _) _
            simp only [Act.put, List.setIfInBounds_toArray, List.set_cons_zero, List.set_cons_succ]
            refine wpAnyZ_take (i := 4) (v := ?_) rfl (by kernel_rfl) (by kernel_rfl) (by kernel_rfl) (fun _ _ _ h => h) (by kernel_rfl) (Or.inl ⟨by rfl, ?_⟩) (by assumption) ?_
            rotate_left
            · intro w' hSw
              try dsimp only at hSw
              try obtain ⟨hSw, hSw2⟩ := hSw
              go_simp
              try with_reducible rfl
            show wpAnyZ _ _ _ _ _ _ _ _ (Act.put _ (some 49) _) _
            simp only [Act.put, List.setIfInBounds_toArray, List.set_cons_zero, List.set_cons_succ]
            refine wpAnyZ_take (i := 6) (v := ?_) rfl (by kernel_rfl) (by kernel_rfl) (by kernel_rfl) (fun _ _ _ h => h) (by kernel_rfl) (Or.inl ⟨by rfl, ?_⟩) (by assumption) ?_
            rotate_left
            · intro w' hSw
              try dsimp only at hSw
              try obtain ⟨hSw, hSw2⟩ := hSw
              go_simp
              try with_reducible rfl
            show wpAnyZ _ _ _ _ _ _ _ _ (Act.put _ (some 51) _) _
            simp only [Act.put, List.setIfInBounds_toArray, List.set_cons_zero, List.set_cons_succ]
            refine wpAnyZ_take (i := 7) (v := ?_) rfl (by kernel_rfl) (by kernel_rfl) (by kernel_rfl) (fun _ _ _ h => h) (by kernel_rfl) (Or.inl ⟨by rfl, ?_⟩) (by assumption) ?_
            rotate_left
            · intro w' hSw
              try dsimp only at hSw
              try obtain ⟨hSw, hSw2⟩ := hSw
              go_simp
              try with_reducible rfl
            show wpAnyZ _ _ _ _ _ _ _ _ (Act.put _ (some 52) _) _
            simp only [Act.put, List.setIfInBounds_toArray, List.set_cons_zero, List.set_cons_succ]
            clear hSS
            refine wpAnyZ_oneG (i := 2) (by kernel_rfl) rfl (by rfl) (fun K hK => ?_)
            go_simp
            have hq := cloneM_any Y (b0 w.heap.size) B (by have := HC.out.b.size; have h2 := HBB.out; omega) va0 vc0 s.pos (by rw [HL.out.1]; exact HM.out) (Nat.le_trans HBF.out.pos (by decide))
            rw [HL.out.1] at hq
            refine hq.mono ?_
            rintro e W2 ⟨⟨v2, rfl, hv2⟩, hb⟩
            obtain ⟨ua0, uc0, rfl⟩ := hv2.1.form0
            have HC := Lib.hid (HC.out.next hb)
            have B8 := Lib.hid (B8.out.next hb)
            have HP := Lib.hid (HP.out.below hb)
            have HO := Lib.hid (HO.out.below hb)
            have NM := Lib.hid hv2
            show K _ W2
            refine hK.out _ _ (.inr ⟨B8.out.c0, B8.out.c1, B8.out.c2, B8.out.c3, B8.out.c4, B8.out.c5⟩) ?_
            clear hK hq hv2 hb HM
            rw [HL.out.1] at NM ⊢
            have hSS : (fun W' : World => W'.cell? ⟨z8, 0, none⟩ = some (.int .i64 s.how) ∧ W'.cell? ⟨z8, 1, none⟩ = some (.int .i64 s.buf) ∧ W'.cell? ⟨z8, 2, none⟩ = some (.slice va0 l0 vc0) ∧ W'.cell? ⟨z8, 3, none⟩ = some (.slice va1 l1 vc1) ∧ W'.cell? ⟨z8, 4, none⟩ = some (.int .u8 s.fn) ∧ W'.cell? ⟨z8, 5, none⟩ = some (.slice va2 l2 vc2)) W2 := ⟨B8.out.c0, B8.out.c1, B8.out.c2, B8.out.c3, B8.out.c4, B8.out.c5⟩
            refine wpAnyZ_take (i := 9) (v := ?_) rfl (by kernel_rfl) (by kernel_rfl) (by kernel_rfl) (fun _ _ _ h => h) (by kernel_rfl) (Or.inl ⟨by rfl, ?_⟩) (by assumption) ?_
            rotate_left
            · intro w' hSw
              try dsimp only at hSw
              try obtain ⟨hSw, hSw2⟩ := hSw
              go_simp
              try with_reducible rfl
            show wpAnyZ _ _ _ _ _ _ _ _ (Act.put _ (some 54) _) _
            simp only [Act.put, List.setIfInBounds_toArray, List.set_cons_zero, List.set_cons_succ]
            clear hSS
            refine wpAnyZ_oneG (i := 5) (by kernel_rfl) rfl (by rfl) (fun K hK => ?_)
            go_simp
            have hq := copied_any W2 (b0 w.heap.size) B (by have := HC.out.b.size; have h2 := HBB.out; omega) va1 l1 vc1 s.loops HP.out HL.out.2.1.symm (by have := HBF.out.loops; have := HL.out.2.1; omega) (fun p hp => Nat.le_trans (HBF.out.each p hp) (by decide))
            refine hq.mono ?_
            rintro e W3 ⟨⟨v2, rfl, hv2⟩, hb⟩
            obtain ⟨ua1, uc1, rfl⟩ := hv2.form0
            have HC := Lib.hid (HC.out.next hb)
            have B8 := Lib.hid (B8.out.next hb)
            have NM := Lib.hid (NM.out.below hb)
            have HO := Lib.hid (HO.out.below hb)
            have NP := Lib.hid hv2
            show K _ W3
            refine hK.out _ _ (.inr ⟨B8.out.c0, B8.out.c1, B8.out.c2, B8.out.c3, B8.out.c4, B8.out.c5⟩) ?_
            clear hK hq hv2 hb HP
            rw [HL.out.2.1] at NP ⊢
            refine wpAnyZ_oneG (i := 8) (by kernel_rfl) rfl (by rfl) (fun K hK => ?_)
            go_simp
            have hq := simple13_any W3 B (by have := HC.out.b.size; have h2 := HBB.out; omega) va2 vc2 s.ops (by rw [HL.out.2.2, HBB.out]; exact HO.out) (Nat.le_trans HBF.out.ops (by decide)) HBF.out.deep (fun o ho _ => Nat.le_trans (HBF.out.p o ho) (by decide)) (.inr HBF.out.no)
            rw [HL.out.2.2] at hq
            refine hq.mono ?_
            rintro e W4 ⟨⟨v2, rfl, hv2⟩, hb⟩
            obtain ⟨ua2, uc2, rfl, -, -⟩ := hv2.form
            have HC := Lib.hid (HC.out.next hb)
            have B8 := Lib.hid (B8.out.next hb)
            have NM := Lib.hid (NM.out.below hb)
            have NP := Lib.hid (NP.out.below hb)
            have NO := Lib.hid hv2
            show K _ W4
            refine hK.out _ _ (.inr ⟨B8.out.c0, B8.out.c1, B8.out.c2, B8.out.c3, B8.out.c4, B8.out.c5⟩) ?_
            clear hK hq hv2 hb HO
            obtain ⟨l3, hl3⟩ : ∃ n, (simpleC s.ops).length = n := ⟨_, rfl⟩
            rw [hl3] at NO ⊢
            clear hl3
            have y2 := B8.out.c2; have g2 := B8.out.fr 2
            refine wpAnyZ_oneG (i := 10) (by kernel_rfl) rfl (by rfl) (fun K hK => ?_)
            go_simp
            refine hK.out _ _ (.inl (by omega)) ?_
            clear hK y2 g2
            have hB5 : Below B.hi W4 (W4.setCell ⟨z8, 2, none⟩ (.slice ua0 l0 uc0)) := (Below.refl _ _).setCell (by have := HW8.out; have h2 := HBB.out; show B.hi ≤ z8; omega) _
            have hk5 : ∀ t, t ≠ 42 → KeepTy t W4 (W4.setCell ⟨z8, 2, none⟩ (.slice ua0 l0 uc0)) := fun t ht => KeepTy.setCell (p := ⟨z8, 2, none⟩) (NotTy.of B8.out.x (Ne.symm ht)) _
            have HC := Lib.hid (HC.out.step B8.out.x (fun g e => by have := (HNE.out g e).2; omega) HW8.out 2 (.slice ua0 l0 uc0)); have NM := Lib.hid (NM.out.keep hB5 (hk5 _ (by decide))); have NP := Lib.hid (NP.out.keep hB5 (hk5 _ (by decide)) (hk5 _ (by decide))); have NO := Lib.hid (NO.out.keep hB5 (hk5 _ (by decide)) (hk5 _ (by decide)))
            have B8 := Lib.hid (B8.out.put2 (.slice ua0 l0 uc0))
            clear hB5 hk5
            generalize W4.setCell ⟨z8, 2, none⟩ (.slice ua0 l0 uc0) = W5 at *
            refine wpAnyZ_oneG (i := 11) (by kernel_rfl) rfl (by rfl) (fun K hK => ?_)
            go_simp
            refine hK.out _ _ (.inl (by omega)) ?_
            clear hK
            have y2 := B8.out.c3; have g2 := B8.out.fr 3
            refine wpAnyZ_oneG (i := 12) (by kernel_rfl) rfl (by rfl) (fun K hK => ?_)
            go_simp
            refine hK.out _ _ (.inl (by omega)) ?_
            clear hK y2 g2
            have hB5 : Below B.hi W5 (W5.setCell ⟨z8, 3, none⟩ (.slice ua1 l1 uc1)) := (Below.refl _ _).setCell (by have := HW8.out; have h2 := HBB.out; show B.hi ≤ z8; omega) _
            have hk5 : ∀ t, t ≠ 42 → KeepTy t W5 (W5.setCell ⟨z8, 3, none⟩ (.slice ua1 l1 uc1)) := fun t ht => KeepTy.setCell (p := ⟨z8, 3, none⟩) (NotTy.of B8.out.x (Ne.symm ht)) _
            have HC := Lib.hid (HC.out.step B8.out.x (fun g e => by have := (HNE.out g e).2; omega) HW8.out 3 (.slice ua1 l1 uc1)); have NM := Lib.hid (NM.out.keep hB5 (hk5 _ (by decide))); have NP := Lib.hid (NP.out.keep hB5 (hk5 _ (by decide)) (hk5 _ (by decide))); have NO := Lib.hid (NO.out.keep hB5 (hk5 _ (by decide)) (hk5 _ (by decide)))
            have B8 := Lib.hid (B8.out.put3 (.slice ua1 l1 uc1))
            clear hB5 hk5
            generalize W5.setCell ⟨z8, 3, none⟩ (.slice ua1 l1 uc1) = W6 at *
            refine wpAnyZ_oneG (i := 13) (by kernel_rfl) rfl (by rfl) (fun K hK => ?_)
            go_simp
            refine hK.out _ _ (.inl (by omega)) ?_
            clear hK
            have y2 := B8.out.c5; have g2 := B8.out.fr 5
            refine wpAnyZ_oneG (i := 14) (by kernel_rfl) rfl (by rfl) (fun K hK => ?_)
            go_simp
            refine hK.out _ _ (.inl (by omega)) ?_
            clear hK y2 g2
            have hB5 : Below B.hi W6 (W6.setCell ⟨z8, 5, none⟩ (.slice ua2 l3 uc2)) := (Below.refl _ _).setCell (by have := HW8.out; have h2 := HBB.out; show B.hi ≤ z8; omega) _
            have hk5 : ∀ t, t ≠ 42 → KeepTy t W6 (W6.setCell ⟨z8, 5, none⟩ (.slice ua2 l3 uc2)) := fun t ht => KeepTy.setCell (p := ⟨z8, 5, none⟩) (NotTy.of B8.out.x (Ne.symm ht)) _
            have HC := Lib.hid (HC.out.step B8.out.x (fun g e => by have := (HNE.out g e).2; omega) HW8.out 5 (.slice ua2 l3 uc2)); have NM := Lib.hid (NM.out.keep hB5 (hk5 _ (by decide))); have NP := Lib.hid (NP.out.keep hB5 (hk5 _ (by decide)) (hk5 _ (by decide))); have NO := Lib.hid (NO.out.keep hB5 (hk5 _ (by decide)) (hk5 _ (by decide)))
            have B8 := Lib.hid (B8.out.put5 (.slice ua2 l3 uc2))
            clear hB5 hk5
            generalize W6.setCell ⟨z8, 5, none⟩ (.slice ua2 l3 uc2) = W7 at *
            refine wpAnyZ_done (by kernel_rfl) ?_ _
            obtain ⟨G, hG⟩ : ∃ b, W7.heap.size = b := ⟨_, rfl⟩
            have hba : Below W7.heap.size W7 (W7.alloc (.cells #[.int .i64 s.how, .int .i64 s.buf, .slice ua0 l0 uc0, .slice ua1 l1 uc1, .int .u8 s.fn, .slice ua2 l3 uc2] 42)) := (Below.refl _ _).alloc (Nat.le_refl _) _
            have HG := Lib.hid (heap_new hG (o := .cells #[.int .i64 s.how, .int .i64 s.buf, .slice ua0 l0 uc0, .slice ua1 l1 uc1, .int .u8 s.fn, .slice ua2 l3 uc2] 42))
            have y0 := B8.out.c0; have y1 := B8.out.c1; have y2 := B8.out.c2; have y3 := B8.out.c3; have y4 := B8.out.c4; have y5 := B8.out.c5; have yo := HC.out.out.c2
            have HC := Lib.hid (HC.out.next hba); have NM := Lib.hid (NM.out.below hba); have NP := Lib.hid (NP.out.below hba); have NO := Lib.hid (NO.out.below hba)
            clear hba B8
            go_wp2_with (at_builtin; (refine wpList_pushG rfl _ _ 30 42 rfl (.agg #[.int .i64 0, .int .i64 0, .slice none 0 0, .slice none 0 0, .int .u8 0, .slice none 0 0]) 96 Try.underlying30 (by kernel_rfl) (by rfl) (show 0 < 6 by decide) B B.hi G (keep_stp B) _ ss (stepO s) _ rfl (by have := HC.out.steps; exact this) rfl HG.out ⟨_, _, _, rfl, NM.out, NP.out, NO.out, HI.out.1, HI.out.2.1, HI.out.2.2⟩ (by rw [HTL.out]; unfold maxLen; omega) (by rw [HTL.out]; omega) (Nat.le_refl _) (by have := HC.out.b.size; have h2 := HBB.out; omega) ?_); intro v' wz hrz hbz hgz hkz; obtain ⟨xa, xc, rfl⟩ := hrz.form; obtain ⟨q5, hq5⟩ : ∃ q, (ss ++ [stepO s]).length = q := ⟨_, rfl⟩; rw [hq5] at hrz ⊢; have hcz := HC.out.push2 hrz hbz hkz; have hout := HC.out.out.keep (HC.out.b.trans (HBB.out ▸ hbz)) (hkz _ (by decide)); have yz := hout.c2; have gz := hout.fr 2)
            have HCZ := Lib.hid hcz
            clear hcz hrz hbz hgz hkz hout yz gz HC NM NP NO HG hG hq5
            go_roundw
            case rel => exact ⟨k + 1, _, by omega, by go_num, by rw [HST.out]; exact HCZ.out⟩
            case measure => simp [intOf] <;> omega
          · obtain rfl : k = c.steps.length := by omega
            rw [List.take_length] at hc
            obtain ⟨bva, bvc, rfl⟩ := hc.bufs.form; obtain ⟨sva, svc, rfl⟩ := hc.steps.form; obtain ⟨ova, ovc, rfl⟩ := hc.outs.1.form0
            have hfin := hc.fin HZ.out HZ1.out HV.out
            obtain ⟨q1, hq1⟩ : ∃ q, (c.steps.map stepO).length = q := ⟨_, rfl⟩
            rw [hq1] at hc hfin
            have y0 := hc.out.c0; have y1 := hc.out.c1; have y2 := hc.out.c2; have y3 := hc.out.c3
            have t0 := hc.res.c0; have t1 := hc.res.c1; have t2 := hc.res.c2; have t3 := hc.res.c3
            have g0 := hc.res.fr 0; have g1 := hc.res.fr 1; have g2 := hc.res.fr 2; have g3 := hc.res.fr 3
            have HFI := Lib.hid hfin
            clear hc hfin hq1 hlt hk
            go_wp2_with fail
            refine bodyPost_ret (v := .tuple #[CV (coreC c) (.slice bva c.bufs.length bvc) (.slice sva q1 svc) (.slice ova c.outs.length ovc), .int .i64 0]) (ret_core rfl _ _ z1 _ _ _ _ _ rfl rfl HFI.out.1.blk) rfl ⟨⟨_, _, _, rfl, HFI.out.2⟩, HFI.out.1.below⟩
theorem score_bad (w : World) (c : Cor) (vb vs vo : Value) (h : CorAt w vb vs vo c) (hr : rightB c = false) :
    Calls Try.prog 13 #[CV c vb vs vo] w fun e w' => e = .returned (.tuple #[CV noneC (.slice none 0 0) (.slice none 0 0) (.slice none 0 0), .int .i64 100]) ∧ Below w.heap.size w w' := by
  obtain ⟨ba, bc, sa, sc, oa, oc, rfl, rfl, rfl, hce, -, -⟩ := h.els
  have HCE := Lib.hid hce; have HR := Lib.hid hr
  obtain ⟨z, hz⟩ : ∃ z, w.heap.size = z := ⟨_, rfl⟩
  obtain ⟨z1, hz1⟩ : ∃ z1, z + 1 = z1 := ⟨_, rfl⟩
  have h1 := CB.new (Below.refl w.heap.size w) c.vars (.slice ba c.bufs.length bc) (.slice sa c.steps.length sc) (.slice oa c.outs.length oc)
  rw [hz] at h1
  have hs1 : (w.alloc (.cells #[.int .i64 c.vars, .slice ba c.bufs.length bc, .slice sa c.steps.length sc, .slice oa c.outs.length oc] 33)).heap.size = z1 := by rw [← hz1, ← hz]; simp
  have h2 := CB.new (W := w.alloc (.cells #[.int .i64 c.vars, .slice ba c.bufs.length bc, .slice sa c.steps.length sc, .slice oa c.outs.length oc] 33)) h1.below 0 (.slice none 0 0) (.slice none 0 0) (.slice none 0 0)
  rw [hs1] at h2
  have h1 := h1.next (W' := (w.alloc (.cells #[.int .i64 c.vars, .slice ba c.bufs.length bc, .slice sa c.steps.length sc, .slice oa c.outs.length oc] 33)).alloc (.cells #[.int .i64 0, .slice none 0 0, .slice none 0 0, .slice none 0 0] 33)) ((Below.refl _ _).alloc (Nat.le_refl _) _)
  have X1 := Lib.hid h1; have X2 := Lib.hid h2; have HZ := Lib.hid hz; have HZ1 := Lib.hid hz1
  unfold CV
  clear h hce hr h1 h2 hs1
  go_enter Try.func13, Try.ntmps13
  go_upto_region 1 with fail
  refine gen_worldA (fun W => CB w W w.heap.size c.vars (.slice ba c.bufs.length bc) (.slice sa c.steps.length sc) (.slice oa c.outs.length oc) ∧ CB w W (w.heap.size + 1) 0 (.slice none 0 0) (.slice none 0 0) (.slice none 0 0)) (by rw [hz, hz1]; exact ⟨X1.out, X2.out⟩) ?_
  rw [hz, hz1]
  clear X1 X2 hz hz1
  rintro W1 ⟨h1, h2⟩
  have X2 := Lib.hid h2
  have x0 := h1.c0; have x1 := h1.c1; have x2 := h1.c2; have x3 := h1.c3
  have hq := cright_at W1 c ba sa oa bc sc oc (HCE.out.below h1.below)
  rw [HR.out] at hq
  unfold corV at hq
  have HQ := Lib.hid hq
  clear h1 h2 hq
  go_wp2_with fail
  refine HQ.out.mono ?_
  rintro e W2 ⟨rfl, hb⟩
  have X2 := Lib.hid (X2.out.next hb)
  clear HQ hb x0 x1 x2 x3
  have t0 := X2.out.c0; have t1 := X2.out.c1; have t2 := X2.out.c2; have t3 := X2.out.c3
  have g0 := X2.out.fr 0; have g1 := X2.out.fr 1; have g2 := X2.out.fr 2; have g3 := X2.out.fr 3
  have hx : w.heap.size ≤ z1 := by have := HZ.out; have := HZ1.out; omega
  have HFI := Lib.hid (X2.out.put hx 0 (.slice none 0 0) (.slice none 0 0) (.slice none 0 0))
  clear X2
  go_wp2_with fail
  refine bodyPost_ret (v := .tuple #[CV noneC (.slice none 0 0) (.slice none 0 0) (.slice none 0 0), .int .i64 100]) (ret_core rfl _ _ z1 _ _ _ _ _ rfl rfl HFI.out.blk) rfl ⟨rfl, HFI.out.below⟩
end Go.Proofs.Ytmlfeocdcjhhaaa

namespace Go.Proofs.Ytmlfeocdcjhhaaa
set_option maxRecDepth 100000
open Go.RowKit
set_option linter.unusedVariables false
set_option linter.unusedSimpArgs false
attribute [local go_sem ↓] Go.wp_at_zero Go.wp_at_succ

theorem corAt_none (w : World) : CorAt w (.slice none 0 0) (.slice none 0 0) (.slice none 0 0) noneC := ⟨Rep.Sl.nil _ _, Rep.Sl.nil _ _, Rep.Sl.nil _ _, by show I64 0; unfold I64; omega⟩
/-- what Core tells -/
def RetK (w : World) (r : Cor × Int) (e : Ending) (w' : World) : Prop := (∃ vb vs vo, e = .returned (.tuple #[CV r.1 vb vs vo, .int .i64 r.2]) ∧ CorAt w' vb vs vo r.1) ∧ Below w.heap.size w w'
theorem score_any (w : World) (c : Cor) (vb vs vo : Value) (h : CorAt w vb vs vo c) : Calls Try.prog 13 #[CV c vb vs vo] w (RetK w (coreR c)) := by
  cases hr : rightB c with
  | true =>
    rw [show coreR c = (coreC c, 0) by unfold coreR; rw [if_pos hr]]
    exact (score_good w (b0 w.heap.size) rfl c vb vs vo h hr).mono fun e w' ⟨⟨a, b, d, he, hn⟩, hb⟩ => ⟨⟨a, b, d, he, hn.cor⟩, hb⟩
  | false =>
    rw [show coreR c = (noneC, 100) by unfold coreR; rw [if_neg (by rw [hr]; decide)]]
    exact (score_bad w c vb vs vo h hr).mono fun e w' ⟨he, hb⟩ => ⟨⟨_, _, _, he, corAt_none _⟩, hb⟩
end Go.Proofs.Ytmlfeocdcjhhaaa
