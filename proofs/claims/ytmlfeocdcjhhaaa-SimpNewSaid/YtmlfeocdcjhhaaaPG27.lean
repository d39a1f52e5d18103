import Derived.Test.YtmlfeocdcjhhaaaPG17
import Derived.Test.YtmlfeocdcjhhaaaPG26
import Derived.Test.YtmlfeocdcjhhaaaPG16
import Derived.Test.YtmlfeocdcjhhaaaPG3
import Derived.Laws.StructEq
namespace Go.Proofs.Ytmlfeocdcjhhaaa
set_option maxRecDepth 100000
open Go.RowKit
set_option linter.unusedVariables false
set_option linter.unusedSimpArgs false
attribute [local go_sem ↓] Go.wp_at_zero Go.wp_at_succ

/-! windrowref13.simple. -/
/-- one round: the operation's cells, the stack so far -/
structure RoundR (B : Bd) (w W : World) (bo oo : Nat) (v : Value) (s : List (List Cop)) (o : Cop) (pv : Value) : Prop where
  c0 : W.cell? ⟨bo, oo, none⟩ = some (.int .i64 o.how)
  c1 : W.cell? ⟨bo, oo + 1, none⟩ = some (.int .i64 o.k)
  c2 : W.cell? ⟨bo, oo + 2, none⟩ = some (.int .i64 o.n)
  c3 : W.cell? ⟨bo, oo + 3, none⟩ = some pv
  c4 : W.cell? ⟨bo, oo + 4, none⟩ = some (.int .u8 o.fn)
  sp : Spine B w.heap.size W v s
  mon : MonS B W pv o.p
  b : Below w.heap.size w W
  hB : B ≤ W.heap.size
theorem RoundR.next {B : Bd} {w W W' : World} {bo oo : Nat} {v pv : Value} {s : List (List Cop)} {o : Cop} (h : RoundR B w W bo oo v s o pv) (hb : Below W.heap.size W W') : RoundR B w W' bo oo v s o pv :=
  ⟨keepCell hb h.c0, keepCell hb h.c1, keepCell hb h.c2, keepCell hb h.c3, keepCell hb h.c4, h.sp.next hb, h.mon.below hb, bNext hb h.b, Nat.le_trans h.hB hb.size⟩
set_option maxHeartbeats 16000000 in
theorem rsimple13_any (w : World) (B : Bd) (hB : B ≤ w.heap.size) (a : Option Addr) (c : Nat) (l : List Cop) (h : CopS B w (.slice a l.length c) l) (hl : l.length ≤ 2513169434843) (hd : 0 ≤ depthI l) :
    Calls Try.prog 28 #[.slice a l.length c] w (RetC B w (simpleC l)) := by
  have HC := Lib.hid h; have HL := Lib.hid hl; have HD := Lib.hid hd; have HBB := Lib.hid hB
  obtain ⟨n, hn⟩ : ∃ n, l.length = n := ⟨_, rfl⟩
  rw [hn]
  have hnl : n ≤ 2513169434843 := hn ▸ hl
  have HN := Lib.hid hn
  clear h hl hd hB hn
  go_enter Try.func28, Try.ntmps28
  go_wp2_with fail
  go_loopw [3, 4] (fun v i wr => ∃ k : Nat, k ≤ n ∧ i = .int .i64 k ∧ Below w.heap.size w wr ∧ Spine B w.heap.size wr v (stackC (l.take k))) (fun _ i _ => n - (intOf i).toNat)
  case atStart => exact ⟨0, by omega, rfl, Below.refl _ _, Spine.nil _ _ _⟩
  case round =>
    obtain ⟨k, hk, rfl, hb, hsp⟩ := hrel
    have hBr : B ≤ wr.heap.size := Nat.le_trans HBB.out hb.size
    have hcr := HC.out.below hb
    by_cases hlt : k < n
    · have hkx : k < l.length := by rw [HN.out]; exact hlt
      obtain ⟨p1, p2, p3, p4, p5⟩ := simple_pre HD.out hkx
      obtain ⟨bo, off, pa, pc, rfl, x0, x1, x2, x3, x4, hmon, hok⟩ := els_copO hcr hkx
      generalize l[k] = o at p3 p4 p5 x0 x1 x2 x3 x4 hmon hok
      generalize stackC (l.take k) = s at p1 p2 p4 p5 hsp
      obtain ⟨ma, mc, rfl⟩ := hsp.slice
      have HR := Lib.hid (show RoundR B w wr bo (off + k * 5) (.slice ma s.length mc) s o (.slice pa o.p.length pc) from ⟨x0, x1, x2, x3, x4, hsp, hmon, hb, hBr⟩)
      have P5 := Lib.hid p5; have OKO := Lib.hid hok; have HP2 := Lib.hid p2
      obtain ⟨m, hm⟩ : ∃ m, s.length = m := ⟨_, rfl⟩
      have hml : m ≤ 2513169434843 := by omega
      rw [hm] at HR p1 p4 ⊢
      have HM := Lib.hid hm
      clear hcr hsp hmon hok p5 p2 hm hkx hBr hb x0 x1 x2 x3 x4
      by_cases h2 : o.how = 2
      · have HF := Lib.hid h2
        have HS := Lib.hid (step_val h2 s)
        clear h2
        have y0 := HR.out.c0; have y1 := HR.out.c1; have y2 := HR.out.c2; have y3 := HR.out.c3; have y4 := HR.out.c4
        rw [HF.out] at y0
        go_upto_region 9 with fail
        clear y0
        have y0 := HR.out.c0
        have HQ := Lib.hid (rvalue13_any wr B HR.out.hB o pa pc HR.out.mon OKO.out)
        unfold opV at HQ
        go_wp2_with fail
        refine HQ.out.mono ?_
        rintro e W2 ⟨⟨v2, rfl, hv2⟩, hb2⟩
        obtain ⟨va, vc, rfl, -, -⟩ := hv2.form
        obtain ⟨vl, hvl⟩ : ∃ m, (valueC o).length = m := ⟨_, rfl⟩
        rw [hvl] at hv2 ⊢
        clear hvl
        have HR2 := Lib.hid (HR.out.next hb2)
        obtain ⟨G, hG⟩ : ∃ G, W2.heap.size = G := ⟨_, rfl⟩
        have hba : Below W2.heap.size W2 (W2.alloc (.cells #[.slice va vl vc] 22)) := (Below.refl _ _).alloc (Nat.le_refl _) _
        have HR3 := Lib.hid (HR2.out.next hba); have HV3 := Lib.hid (hv2.below hba); have HG := Lib.hid (heap_new hG (o := .cells #[.slice va vl vc] 22))
        clear HQ hb2 hba HR HR2 y0 y1 y2 y3 y4 hv2
        go_wp2_with (at_builtin; (refine wpList_push rfl _ _ rfl B w.heap.size G _ (.slice va vl vc) s _ rfl (by have := HR3.out.sp; exact this) rfl HG.out HV3.out (by rw [HM.out]; omega) HBB.out HR3.out.b.size ?_); intro v' wz hvz hbz hgz hnz)
        have HSZ := Lib.hid (show Spine B w.heap.size wz v' (stackC (l.take (k + 1))) by rw [P5.out, HS.out]; exact hvz)
        have HBZ := Lib.hid (HR3.out.b.trans hbz)
        clear hvz hbz hgz hnz HR3 HV3 HG hG
        go_wp2_with fail
        go_roundw
        case rel => exact ⟨k + 1, by omega, by go_num, HBZ.out, HSZ.out⟩
        case measure => simp [intOf] <;> omega
      by_cases h4 : o.how = 4
      · skip
        have q2 : (o.how == 2) = false := by rw [beq_eq_false_iff_ne]; exact h2
        have HS := Lib.hid (fun st x => step_load h4 st x)
        have ht : takesI o.how = 1 := by rw [h4]; rfl
        rw [ht] at p4
        obtain ⟨st, x, rfl⟩ := snoc_of_pos (s := s) (by rw [HM.out]; omega)
        obtain ⟨t, hst⟩ : ∃ t, st.length = t := ⟨_, rfl⟩
        obtain rfl : m = t + 1 := by rw [← HM.out, List.length_append, hst]; rfl
        have hx : (st ++ [x])[t]'(by simp; omega) = x := by subst hst; simp
        have hset : ∀ y, (st ++ [x]).set t y = st ++ [y] := fun y => by subst hst; simp
        have hsum := HP2.out; rw [sum_snoc] at hsum
        have HXL := Lib.hid (show x.length + 1 ≤ 2513169434843 by omega)
        obtain ⟨g, cap, e, hgB, hgl, hcap, hmax, cur, hgc⟩ := HR.out.sp.form (by simp)
        simp only [Value.slice.injEq] at e
        obtain ⟨rfl, -, rfl⟩ := e
        obtain ⟨ax, cx, hc, hcx, hfz⟩ := HR.out.sp.at (i := t) (by simp; omega)
        rw [hx] at hc hcx
        obtain ⟨xl, hxl⟩ : ∃ n, x.length = n := ⟨_, rfl⟩
        rw [hxl] at hc hcx
        have HSET := Lib.hid hset; have HXX := Lib.hid hxl; have HGB := Lib.hid hgB; have HCX := Lib.hid hcx; have HC0 := Lib.hid hc; have HFZ := Lib.hid hfz; have HTS := Lib.hid hst
        clear hsum hset hx hst ht p4 hgB hcx hc hfz hgc hxl hmax hcap
        have HF := Lib.hid h4
        clear h2 h4
        have y0 := HR.out.c0; have y1 := HR.out.c1; have y2 := HR.out.c2; have y3 := HR.out.c3; have y4 := HR.out.c4
        rw [HF.out] at y0
        have htt : (t : Int) < (t : Int) + 1 := by omega
        have hwt : IntKind.i64.wrap (t : Int) = (t : Int) := by rw [IntKind.wrap_i64]; omega
        have ht0 : (0 : Int) ≤ (t : Int) := by omega
        go_upto_region 11 with fail
        clear y0 y1 y2 y3 y4
        refine wp_region_Z (S := fun W' => W'.cell? ⟨g, t, none⟩ = some (.slice ax xl cx) ∧ (W'.cell? ⟨bo, off + k * 5, none⟩ = some (.int .i64 o.how) ∧ W'.cell? ⟨bo, off + k * 5 + 1, none⟩ = some (.int .i64 o.k) ∧ W'.cell? ⟨bo, off + k * 5 + 2, none⟩ = some (.int .i64 o.n) ∧ W'.cell? ⟨bo, off + k * 5 + 3, none⟩ = some (.slice pa o.p.length pc) ∧ W'.cell? ⟨bo, off + k * 5 + 4, none⟩ = some (.int .u8 o.fn))) (z := 14) (by kernel_rfl) ?_
        have hdr : Below wr.heap.size wr wr.drew := (Below.refl _ _).drew
        have HR := Lib.hid (HR.out.next hdr); have HCX := Lib.hid (HCX.out.below hdr); have hc := keepCell hdr HC0.out; have HC0 := Lib.hid hc
        have hgl' : g < wr.drew.heap.size := Nat.lt_of_lt_of_le hgl hdr.size
        have hfz' : wr.drew.frozen? ⟨g, t, none⟩ = false := HFZ.out
        clear hdr hc hgl HFZ
        generalize wr.drew = Y at HR HCX HC0 hgl' hfz' ⊢
        have hSS : (fun W' : World => W'.cell? ⟨g, t, none⟩ = some (.slice ax xl cx) ∧ (W'.cell? ⟨bo, off + k * 5, none⟩ = some (.int .i64 o.how) ∧ W'.cell? ⟨bo, off + k * 5 + 1, none⟩ = some (.int .i64 o.k) ∧ W'.cell? ⟨bo, off + k * 5 + 2, none⟩ = some (.int .i64 o.n) ∧ W'.cell? ⟨bo, off + k * 5 + 3, none⟩ = some (.slice pa o.p.length pc) ∧ W'.cell? ⟨bo, off + k * 5 + 4, none⟩ = some (.int .u8 o.fn))) Y := ⟨HC0.out, HR.out.c0, HR.out.c1, HR.out.c2, HR.out.c3, HR.out.c4⟩
        refine wpAnyZ_take (i := 0) (v := ?_) rfl (by kernel_rfl) (by kernel_rfl) (by kernel_rfl) (fun _ _ _ h => h) (by kernel_rfl) (Or.inl ⟨by rfl, ?_⟩) (by assumption) ?_
        rotate_left
        · intro w' hSw
          try dsimp only at hSw
          try obtain ⟨hSw, hSw2⟩ := hSw
          go_simp
          try with_reducible rfl
        show wpAnyZ _ _ _ _ _ _ _ _ (Act.put _ (some 40) _) _
        simp only [Act.put, List.setIfInBounds_toArray, List.set_cons_zero, List.set_cons_succ]
        refine wpAnyZ_take (i := 1) (v := ?_) rfl (by kernel_rfl) (by kernel_rfl) (by kernel_rfl) (fun _ _ _ h => h) (by kernel_rfl) (Or.inl ⟨by rfl, ?_⟩) (by assumption) ?_
        rotate_left
        · intro w' hSw
          try dsimp only at hSw
          try obtain ⟨hSw, hSw2⟩ := hSw
          go_simp
          try with_reducible rfl
        show wpAnyZ _ _ _ _ _ _ _ _ (Act.put _ (some 41) _) _
        simp only [Act.put, List.setIfInBounds_toArray, List.set_cons_zero, List.set_cons_succ]
        refine wpAnyZ_take (i := 2) (v := ?_) rfl (by kernel_rfl) (by kernel_rfl) (by kernel_rfl) (fun _ _ _ h => h) (by kernel_rfl) (Or.inl ⟨by rfl, ?_⟩) (by assumption) ?_
        rotate_left
        · intro w' hSw
          try dsimp only at hSw
          try obtain ⟨hSw, hSw2⟩ := hSw
          go_simp
          try with_reducible rfl
        show wpAnyZ _ _ _ _ _ _ _ _ (Act.put _ (some 42) _) _
        simp only [Act.put, List.setIfInBounds_toArray, List.set_cons_zero, List.set_cons_succ]
        refine wpAnyZ_take (i := 3) (v := ?_) rfl (by kernel_rfl) (by kernel_rfl) (by kernel_rfl) (fun _ _ _ h => h) (by kernel_rfl) (Or.inl ⟨by rfl, ?_⟩) (by assumption) ?_
        rotate_left
        · intro w' hSw
          try dsimp only at hSw
          try obtain ⟨hSw, hSw2⟩ := hSw
          go_simp
          try with_reducible rfl
        show wpAnyZ _ _ _ _ _ _ _ _ (Act.put _ (some 43) _) _
        simp only [Act.put, List.setIfInBounds_toArray, List.set_cons_zero, List.set_cons_succ]
        refine wpAnyZ_take (i := 4) (v := ?_) rfl (by kernel_rfl) (by kernel_rfl) (by kernel_rfl) (fun _ _ _ h => h) (by kernel_rfl) (Or.inl ⟨by rfl, ?_⟩) (by assumption) ?_
        rotate_left
        · intro w' hSw
          try dsimp only at hSw
          try obtain ⟨hSw, hSw2⟩ := hSw
          go_simp
          try with_reducible rfl
        show wpAnyZ _ _ _ _ _ _ _ _ (Act.put _ (some 44) _) _
        simp only [Act.put, List.setIfInBounds_toArray, List.set_cons_zero, List.set_cons_succ]
        refine wpAnyZ_take (i := 5) (v := ?_) rfl (by kernel_rfl) (by kernel_rfl) (by kernel_rfl) (fun _ _ _ h => h) (by kernel_rfl) (Or.inl ⟨by rfl, ?_⟩) (by assumption) ?_
        rotate_left
        · intro w' hSw
          try dsimp only at hSw
          try obtain ⟨hSw, hSw2⟩ := hSw
          go_simp
          try with_reducible rfl
        show wpAnyZ _ _ _ _ _ _ _ _ (Act.put _ (some 45) _) _
        simp only [Act.put, List.setIfInBounds_toArray, List.set_cons_zero, List.set_cons_succ]
        refine wpAnyZ_take (i := 6) (v := ?_) rfl (by kernel_rfl) (by kernel_rfl) (by kernel_rfl) (fun _ _ _ h => h) (by kernel_rfl) (Or.inl ⟨by rfl, ?_⟩) (by assumption) ?_
        rotate_left
        · intro w' hSw
          try dsimp only at hSw
          try obtain ⟨hSw, hSw2⟩ := hSw
          go_simp
          try with_reducible rfl
        show wpAnyZ _ _ _ _ _ _ _ _ (Act.put _ (some 46) _) _
        simp only [Act.put, List.setIfInBounds_toArray, List.set_cons_zero, List.set_cons_succ]
        refine wpAnyZ_take (i := 7) (v := ?_) rfl (by kernel_rfl) (by kernel_rfl) (by kernel_rfl) (fun _ _ _ h => h) (by kernel_rfl) (Or.inl ⟨by rfl, ?_⟩) (by assumption) ?_
        rotate_left
        · intro w' hSw
          try dsimp only at hSw
          try obtain ⟨hSw, hSw2⟩ := hSw
          go_simp
          try with_reducible rfl
        show wpAnyZ _ _ _ _ _ _ _ _ (Act.put _ (some 47) _) _
        simp only [Act.put, List.setIfInBounds_toArray, List.set_cons_zero, List.set_cons_succ]
        refine wpAnyZ_take (i := 8) (v := ?_) rfl (by kernel_rfl) (by kernel_rfl) (by kernel_rfl) (fun _ _ _ h => h) (by kernel_rfl) (Or.inl ⟨by rfl, ?_⟩) (by assumption) ?_
        rotate_left
        · intro w' hSw
          try dsimp only at hSw
          try obtain ⟨hSw, hSw2⟩ := hSw
          go_simp
          try with_reducible rfl
        show wpAnyZ _ _ _ _ _ _ _ _ (Act.put _ (some 48) _) _
        simp only [Act.put, List.setIfInBounds_toArray, List.set_cons_zero, List.set_cons_succ]
        refine wpAnyZ_take (i := 9) (v := ?_) rfl (by kernel_rfl) (by kernel_rfl) (by kernel_rfl) (fun _ _ _ h => h) (by kernel_rfl) (Or.inl ⟨by rfl, ?_⟩) (by assumption) ?_
        rotate_left
        · intro w' hSw
          try dsimp only at hSw
          try obtain ⟨hSw, hSw2⟩ := hSw
          go_simp
          try with_reducible rfl
        show wpAnyZ _ _ _ _ _ _ _ _ (Act.put _ (some 49) _) _
        simp only [Act.put, List.setIfInBounds_toArray, List.set_cons_zero, List.set_cons_succ]
        refine wpAnyZ_take (i := 10) (v := ?_) rfl (by kernel_rfl) (by kernel_rfl) (by kernel_rfl) (fun _ _ _ h => h) (by kernel_rfl) (Or.inl ⟨by rfl, ?_⟩) (by assumption) ?_
        rotate_left
        · intro w' hSw
          try dsimp only at hSw
          try obtain ⟨hSw, hSw2⟩ := hSw
          go_simp
          try with_reducible rfl
        show wpAnyZ _ _ _ _ _ _ _ _ (Act.put _ (some 50) _) _
        simp only [Act.put, List.setIfInBounds_toArray, List.set_cons_zero, List.set_cons_succ]
        refine wpAnyZ_take (i := 11) (v := ?_) rfl (by kernel_rfl) (by kernel_rfl) (by kernel_rfl) (fun _ _ _ h => h) (by kernel_rfl) (Or.inl ⟨by rfl, ?_⟩) (by assumption) ?_
        rotate_left
        · intro w' hSw
          try dsimp only at hSw
          try obtain ⟨hSw, hSw2⟩ := hSw
          go_simp
          try with_reducible rfl
        show wpAnyZ _ _ _ _ _ _ _ _ (Act.put _ (some 51) _) _
        simp only [Act.put, List.setIfInBounds_toArray, List.set_cons_zero, List.set_cons_succ]
        clear hSS
        refine wpAnyZ_one (i := 12) (by kernel_rfl) rfl rfl (fun K hK => ?_)
        go_simp
        have hq := behind_any Y B HR.out.hB ax cx x (by rw [HXX.out]; exact HCX.out) HXL.out o pa pc HR.out.mon OKO.out
        unfold opV at hq
        rw [HXX.out] at hq
        refine hq.mono ?_
        rintro e W2 ⟨⟨v2, rfl, hv2⟩, hb2⟩
        have HR2 := Lib.hid (HR.out.next hb2); have HV2 := Lib.hid hv2
        have hc2 := keepCell hb2 HC0.out
        have hfz2 : W2.frozen? ⟨g, t, none⟩ = false := by have := World.frozen?_of_block (w := Y) (w' := W2) (a := ⟨g, t, none⟩) (hb2.block g hgl'); rw [this]; exact hfz'
        obtain ⟨va, vc, rfl, -, -⟩ := hv2.form
        obtain ⟨vl, hvl⟩ : ∃ m, (x ++ [o]).length = m := ⟨_, rfl⟩
        rw [hvl] at HV2 ⊢
        show K _ W2
        refine hK.out _ _ (.inr ⟨hc2, HR2.out.c0, HR2.out.c1, HR2.out.c2, HR2.out.c3, HR2.out.c4⟩) ?_
        clear hK hq hv2 hb2 hvl hfz' hgl' HR HCX HC0
        have hSS : (fun W' : World => W'.cell? ⟨g, t, none⟩ = some (.slice ax xl cx) ∧ (W'.cell? ⟨bo, off + k * 5, none⟩ = some (.int .i64 o.how) ∧ W'.cell? ⟨bo, off + k * 5 + 1, none⟩ = some (.int .i64 o.k) ∧ W'.cell? ⟨bo, off + k * 5 + 2, none⟩ = some (.int .i64 o.n) ∧ W'.cell? ⟨bo, off + k * 5 + 3, none⟩ = some (.slice pa o.p.length pc) ∧ W'.cell? ⟨bo, off + k * 5 + 4, none⟩ = some (.int .u8 o.fn))) W2 := ⟨hc2, HR2.out.c0, HR2.out.c1, HR2.out.c2, HR2.out.c3, HR2.out.c4⟩
        refine wpAnyZ_take (i := 13) (v := ?_) rfl (by kernel_rfl) (by kernel_rfl) (by kernel_rfl) (fun _ _ _ h => h) (by kernel_rfl) (Or.inl ⟨by rfl, ?_⟩) (by assumption) ?_
        rotate_left
        · intro w' hSw
          try dsimp only at hSw
          try obtain ⟨hSw, hSw2⟩ := hSw
          go_simp
          try with_reducible rfl
        show wpAnyZ _ _ _ _ _ _ _ _ (Act.put _ (some 53) _) _
        simp only [Act.put, List.setIfInBounds_toArray, List.set_cons_zero, List.set_cons_succ]
        clear hSS
        refine wpAnyZ_one (i := 14) (by kernel_rfl) rfl rfl (fun K hK => ?_)
        go_simp
        refine hK.out _ _ (.inl (by omega)) ?_
        clear hK
        refine wpAnyZ_done (by kernel_rfl) ?_ _
        have HSZ := Lib.hid (show Spine B w.heap.size (W2.setCell ⟨g, t, none⟩ (.slice va vl vc)) (.slice (some ⟨g, 0, none⟩) (t + 1) mc) (stackC (l.take (k + 1))) by
          rw [P5.out, HS.out, ← HSET.out]
          exact HR2.out.sp.set (i := t) (by rw [List.length_append, HTS.out]; simp) (Nat.le_trans HBB.out HGB.out) HV2.out)
        have HBZ := Lib.hid (show Below w.heap.size w (W2.setCell ⟨g, t, none⟩ (.slice va vl vc)) from HR2.out.b.setCell (by show w.heap.size ≤ g; exact HGB.out) _)
        clear HR2 HV2 hc2 hfz2
        go_wp2_with fail
        go_roundw
        case rel => exact ⟨k + 1, by omega, by go_num, HBZ.out, HSZ.out⟩
        case measure => simp [intOf] <;> omega
      by_cases h5 : o.how = 5
      · skip
        have q2 : (o.how == 2) = false := by rw [beq_eq_false_iff_ne]; exact h2
        have q4 : (o.how == 4) = false := by rw [beq_eq_false_iff_ne]; exact h4
        have HS := Lib.hid (fun st x => step_mon h5 st x)
        have ht : takesI o.how = 1 := by rw [h5]; rfl
        rw [ht] at p4
        obtain ⟨st, x, rfl⟩ := snoc_of_pos (s := s) (by rw [HM.out]; omega)
        obtain ⟨t, hst⟩ : ∃ t, st.length = t := ⟨_, rfl⟩
        obtain rfl : m = t + 1 := by rw [← HM.out, List.length_append, hst]; rfl
        have hx : (st ++ [x])[t]'(by simp; omega) = x := by subst hst; simp
        have hset : ∀ y, (st ++ [x]).set t y = st ++ [y] := fun y => by subst hst; simp
        have hsum := HP2.out; rw [sum_snoc] at hsum
        have HXL := Lib.hid (show x.length + 1 ≤ 2513169434843 by omega)
        obtain ⟨g, cap, e, hgB, hgl, hcap, hmax, cur, hgc⟩ := HR.out.sp.form (by simp)
        simp only [Value.slice.injEq] at e
        obtain ⟨rfl, -, rfl⟩ := e
        obtain ⟨ax, cx, hc, hcx, hfz⟩ := HR.out.sp.at (i := t) (by simp; omega)
        rw [hx] at hc hcx
        obtain ⟨xl, hxl⟩ : ∃ n, x.length = n := ⟨_, rfl⟩
        rw [hxl] at hc hcx
        have HSET := Lib.hid hset; have HXX := Lib.hid hxl; have HGB := Lib.hid hgB; have HCX := Lib.hid hcx; have HC0 := Lib.hid hc; have HFZ := Lib.hid hfz; have HTS := Lib.hid hst
        clear hsum hset hx hst ht p4 hgB hcx hc hfz hgc hxl hmax hcap
        have HF := Lib.hid h5
        clear h2 h4 h5
        have y0 := HR.out.c0; have y1 := HR.out.c1; have y2 := HR.out.c2; have y3 := HR.out.c3; have y4 := HR.out.c4
        rw [HF.out] at y0
        have htt : (t : Int) < (t : Int) + 1 := by omega
        have hwt : IntKind.i64.wrap (t : Int) = (t : Int) := by rw [IntKind.wrap_i64]; omega
        have ht0 : (0 : Int) ≤ (t : Int) := by omega
        go_upto_region 13 with fail
        clear y0 y1 y2 y3 y4
        refine wp_region_Z (S := fun W' => W'.cell? ⟨g, t, none⟩ = some (.slice ax xl cx) ∧ (W'.cell? ⟨bo, off + k * 5, none⟩ = some (.int .i64 o.how) ∧ W'.cell? ⟨bo, off + k * 5 + 1, none⟩ = some (.int .i64 o.k) ∧ W'.cell? ⟨bo, off + k * 5 + 2, none⟩ = some (.int .i64 o.n) ∧ W'.cell? ⟨bo, off + k * 5 + 3, none⟩ = some (.slice pa o.p.length pc) ∧ W'.cell? ⟨bo, off + k * 5 + 4, none⟩ = some (.int .u8 o.fn))) (z := 14) (by kernel_rfl) ?_
        have hdr : Below wr.heap.size wr wr.drew := (Below.refl _ _).drew
        have HR := Lib.hid (HR.out.next hdr); have HCX := Lib.hid (HCX.out.below hdr); have hc := keepCell hdr HC0.out; have HC0 := Lib.hid hc
        have hgl' : g < wr.drew.heap.size := Nat.lt_of_lt_of_le hgl hdr.size
        have hfz' : wr.drew.frozen? ⟨g, t, none⟩ = false := HFZ.out
        clear hdr hc hgl HFZ
        generalize wr.drew = Y at HR HCX HC0 hgl' hfz' ⊢
        have hSS : (fun W' : World => W'.cell? ⟨g, t, none⟩ = some (.slice ax xl cx) ∧ (W'.cell? ⟨bo, off + k * 5, none⟩ = some (.int .i64 o.how) ∧ W'.cell? ⟨bo, off + k * 5 + 1, none⟩ = some (.int .i64 o.k) ∧ W'.cell? ⟨bo, off + k * 5 + 2, none⟩ = some (.int .i64 o.n) ∧ W'.cell? ⟨bo, off + k * 5 + 3, none⟩ = some (.slice pa o.p.length pc) ∧ W'.cell? ⟨bo, off + k * 5 + 4, none⟩ = some (.int .u8 o.fn))) Y := ⟨HC0.out, HR.out.c0, HR.out.c1, HR.out.c2, HR.out.c3, HR.out.c4⟩
        refine wpAnyZ_take (i := 0) (v := ?_) rfl (by kernel_rfl) (by kernel_rfl) (by kernel_rfl) (fun _ _ _ h => h) (by kernel_rfl) (Or.inl ⟨by rfl, ?_⟩) (by assumption) ?_
        rotate_left
        · intro w' hSw
          try dsimp only at hSw
          try obtain ⟨hSw, hSw2⟩ := hSw
          go_simp
          try with_reducible rfl
        show wpAnyZ _ _ _ _ _ _ _ _ (Act.put _ (some 56) _) _
        simp only [Act.put, List.setIfInBounds_toArray, List.set_cons_zero, List.set_cons_succ]
        refine wpAnyZ_take (i := 1) (v := ?_) rfl (by kernel_rfl) (by kernel_rfl) (by kernel_rfl) (fun _ _ _ h => h) (by kernel_rfl) (Or.inl ⟨by rfl, ?_⟩) (by assumption) ?_
        rotate_left
        · intro w' hSw
          try dsimp only at hSw
          try obtain ⟨hSw, hSw2⟩ := hSw
          go_simp
          try with_reducible rfl
        show wpAnyZ _ _ _ _ _ _ _ _ (Act.put _ (some 57) _) _
        simp only [Act.put, List.setIfInBounds_toArray, List.set_cons_zero, List.set_cons_succ]
        refine wpAnyZ_take (i := 2) (v := ?_) rfl (by kernel_rfl) (by kernel_rfl) (by kernel_rfl) (fun _ _ _ h => h) (by kernel_rfl) (Or.inl ⟨by rfl, ?_⟩) (by assumption) ?_
        rotate_left
        · intro w' hSw
          try dsimp only at hSw
          try obtain ⟨hSw, hSw2⟩ := hSw
          go_simp
          try with_reducible rfl
        show wpAnyZ _ _ _ _ _ _ _ _ (Act.put _ (some 58) _) _
        simp only [Act.put, List.setIfInBounds_toArray, List.set_cons_zero, List.set_cons_succ]
        refine wpAnyZ_take (i := 3) (v := ?_) rfl (by kernel_rfl) (by kernel_rfl) (by kernel_rfl) (fun _ _ _ h => h) (by kernel_rfl) (Or.inl ⟨by rfl, ?_⟩) (by assumption) ?_
        rotate_left
        · intro w' hSw
          try dsimp only at hSw
          try obtain ⟨hSw, hSw2⟩ := hSw
          go_simp
          try with_reducible rfl
        show wpAnyZ _ _ _ _ _ _ _ _ (Act.put _ (some 59) _) _
        simp only [Act.put, List.setIfInBounds_toArray, List.set_cons_zero, List.set_cons_succ]
        refine wpAnyZ_take (i := 4) (v := ?_) rfl (by kernel_rfl) (by kernel_rfl) (by kernel_rfl) (fun _ _ _ h => h) (by kernel_rfl) (Or.inl ⟨by rfl, ?_⟩) (by assumption) ?_
        rotate_left
        · intro w' hSw
          try dsimp only at hSw
          try obtain ⟨hSw, hSw2⟩ := hSw
          go_simp
          try with_reducible rfl
        show wpAnyZ _ _ _ _ _ _ _ _ (Act.put _ (some 60) _) _
        simp only [Act.put, List.setIfInBounds_toArray, List.set_cons_zero, List.set_cons_succ]
        refine wpAnyZ_take (i := 5) (v := ?_) rfl (by kernel_rfl) (by kernel_rfl) (by kernel_rfl) (fun _ _ _ h => h) (by kernel_rfl) (Or.inl ⟨by rfl, ?_⟩) (by assumption) ?_
        rotate_left
        · intro w' hSw
          try dsimp only at hSw
          try obtain ⟨hSw, hSw2⟩ := hSw
          go_simp
          try with_reducible rfl
        show wpAnyZ _ _ _ _ _ _ _ _ (Act.put _ (some 61) _) _
        simp only [Act.put, List.setIfInBounds_toArray, List.set_cons_zero, List.set_cons_succ]
        refine wpAnyZ_take (i := 6) (v := ?_) rfl (by kernel_rfl) (by kernel_rfl) (by kernel_rfl) (fun _ _ _ h => h) (by kernel_rfl) (Or.inl ⟨by rfl, ?_⟩) (by assumption) ?_
        rotate_left
        · intro w' hSw
          try dsimp only at hSw
          try obtain ⟨hSw, hSw2⟩ := hSw
          go_simp
          try with_reducible rfl
        show wpAnyZ _ _ _ _ _ _ _ _ (Act.put _ (some 62) _) _
        simp only [Act.put, List.setIfInBounds_toArray, List.set_cons_zero, List.set_cons_succ]
        refine wpAnyZ_take (i := 7) (v := ?_) rfl (by kernel_rfl) (by kernel_rfl) (by kernel_rfl) (fun _ _ _ h => h) (by kernel_rfl) (Or.inl ⟨by rfl, ?_⟩) (by assumption) ?_
        rotate_left
        · intro w' hSw
          try dsimp only at hSw
          try obtain ⟨hSw, hSw2⟩ := hSw
          go_simp
          try with_reducible rfl
        show wpAnyZ _ _ _ _ _ _ _ _ (Act.put _ (some 63) _) _
        simp only [Act.put, List.setIfInBounds_toArray, List.set_cons_zero, List.set_cons_succ]
        refine wpAnyZ_take (i := 8) (v := ?_) rfl (by kernel_rfl) (by kernel_rfl) (by kernel_rfl) (fun _ _ _ h => h) (by kernel_rfl) (Or.inl ⟨by rfl, ?_⟩) (by assumption) ?_
        rotate_left
        · intro w' hSw
          try dsimp only at hSw
          try obtain ⟨hSw, hSw2⟩ := hSw
          go_simp
          try with_reducible rfl
        show wpAnyZ _ _ _ _ _ _ _ _ (Act.put _ (some 64) _) _
        simp only [Act.put, List.setIfInBounds_toArray, List.set_cons_zero, List.set_cons_succ]
        refine wpAnyZ_take (i := 9) (v := ?_) rfl (by kernel_rfl) (by kernel_rfl) (by kernel_rfl) (fun _ _ _ h => h) (by kernel_rfl) (Or.inl ⟨by rfl, ?_⟩) (by assumption) ?_
        rotate_left
        · intro w' hSw
          try dsimp only at hSw
          try obtain ⟨hSw, hSw2⟩ := hSw
          go_simp
          try with_reducible rfl
        show wpAnyZ _ _ _ _ _ _ _ _ (Act.put _ (some 65) _) _
        simp only [Act.put, List.setIfInBounds_toArray, List.set_cons_zero, List.set_cons_succ]
        refine wpAnyZ_take (i := 10) (v := ?_) rfl (by kernel_rfl) (by kernel_rfl) (by kernel_rfl) (fun _ _ _ h => h) (by kernel_rfl) (Or.inl ⟨by rfl, ?_⟩) (by assumption) ?_
        rotate_left
        · intro w' hSw
          try dsimp only at hSw
          try obtain ⟨hSw, hSw2⟩ := hSw
          go_simp
          try with_reducible rfl
        show wpAnyZ _ _ _ _ _ _ _ _ (Act.put _ (some 66) _) _
        simp only [Act.put, List.setIfInBounds_toArray, List.set_cons_zero, List.set_cons_succ]
        refine wpAnyZ_take (i := 11) (v := ?_) rfl (by kernel_rfl) (by kernel_rfl) (by kernel_rfl) (fun _ _ _ h => h) (by kernel_rfl) (Or.inl ⟨by rfl, ?_⟩) (by assumption) ?_
        rotate_left
        · intro w' hSw
          try dsimp only at hSw
          try obtain ⟨hSw, hSw2⟩ := hSw
          go_simp
          try with_reducible rfl
        show wpAnyZ _ _ _ _ _ _ _ _ (Act.put _ (some 67) _) _
        simp only [Act.put, List.setIfInBounds_toArray, List.set_cons_zero, List.set_cons_succ]
        clear hSS
        refine wpAnyZ_one (i := 12) (by kernel_rfl) rfl rfl (fun K hK => ?_)
        go_simp
        have hq := rmonad13_any Y B HR.out.hB ax cx x (by rw [HXX.out]; exact HCX.out) HXL.out o pa pc HR.out.mon OKO.out
        unfold opV at hq
        rw [HXX.out] at hq
        refine hq.mono ?_
        rintro e W2 ⟨⟨v2, rfl, hv2⟩, hb2⟩
        have HR2 := Lib.hid (HR.out.next hb2); have HV2 := Lib.hid hv2
        have hc2 := keepCell hb2 HC0.out
        have hfz2 : W2.frozen? ⟨g, t, none⟩ = false := by have := World.frozen?_of_block (w := Y) (w' := W2) (a := ⟨g, t, none⟩) (hb2.block g hgl'); rw [this]; exact hfz'
        obtain ⟨va, vc, rfl, -, -⟩ := hv2.form
        obtain ⟨vl, hvl⟩ : ∃ m, (monadC x o).length = m := ⟨_, rfl⟩
        rw [hvl] at HV2 ⊢
        show K _ W2
        refine hK.out _ _ (.inr ⟨hc2, HR2.out.c0, HR2.out.c1, HR2.out.c2, HR2.out.c3, HR2.out.c4⟩) ?_
        clear hK hq hv2 hb2 hvl hfz' hgl' HR HCX HC0
        have hSS : (fun W' : World => W'.cell? ⟨g, t, none⟩ = some (.slice ax xl cx) ∧ (W'.cell? ⟨bo, off + k * 5, none⟩ = some (.int .i64 o.how) ∧ W'.cell? ⟨bo, off + k * 5 + 1, none⟩ = some (.int .i64 o.k) ∧ W'.cell? ⟨bo, off + k * 5 + 2, none⟩ = some (.int .i64 o.n) ∧ W'.cell? ⟨bo, off + k * 5 + 3, none⟩ = some (.slice pa o.p.length pc) ∧ W'.cell? ⟨bo, off + k * 5 + 4, none⟩ = some (.int .u8 o.fn))) W2 := ⟨hc2, HR2.out.c0, HR2.out.c1, HR2.out.c2, HR2.out.c3, HR2.out.c4⟩
        refine wpAnyZ_take (i := 13) (v := ?_) rfl (by kernel_rfl) (by kernel_rfl) (by kernel_rfl) (fun _ _ _ h => h) (by kernel_rfl) (Or.inl ⟨by rfl, ?_⟩) (by assumption) ?_
        rotate_left
        · intro w' hSw
          try dsimp only at hSw
          try obtain ⟨hSw, hSw2⟩ := hSw
          go_simp
          try with_reducible rfl
        show wpAnyZ _ _ _ _ _ _ _ _ (Act.put _ (some 69) _) _
        simp only [Act.put, List.setIfInBounds_toArray, List.set_cons_zero, List.set_cons_succ]
        clear hSS
        refine wpAnyZ_one (i := 14) (by kernel_rfl) rfl rfl (fun K hK => ?_)
        go_simp
        refine hK.out _ _ (.inl (by omega)) ?_
        clear hK
        refine wpAnyZ_done (by kernel_rfl) ?_ _
        have HSZ := Lib.hid (show Spine B w.heap.size (W2.setCell ⟨g, t, none⟩ (.slice va vl vc)) (.slice (some ⟨g, 0, none⟩) (t + 1) mc) (stackC (l.take (k + 1))) by
          rw [P5.out, HS.out, ← HSET.out]
          exact HR2.out.sp.set (i := t) (by rw [List.length_append, HTS.out]; simp) (Nat.le_trans HBB.out HGB.out) HV2.out)
        have HBZ := Lib.hid (show Below w.heap.size w (W2.setCell ⟨g, t, none⟩ (.slice va vl vc)) from HR2.out.b.setCell (by show w.heap.size ≤ g; exact HGB.out) _)
        clear HR2 HV2 hc2 hfz2
        go_wp2_with fail
        go_roundw
        case rel => exact ⟨k + 1, by omega, by go_num, HBZ.out, HSZ.out⟩
        case measure => simp [intOf] <;> omega
      by_cases h6 : o.how = 6
      · skip
        have q2 : (o.how == 2) = false := by rw [beq_eq_false_iff_ne]; exact h2
        have q4 : (o.how == 4) = false := by rw [beq_eq_false_iff_ne]; exact h4
        have q5 : (o.how == 5) = false := by rw [beq_eq_false_iff_ne]; exact h5
        have HS := Lib.hid (fun st x y => step_dy h6 st x y)
        have ht : takesI o.how = 2 := by rw [h6]; rfl
        rw [ht] at p4
        obtain ⟨s1, y, rfl⟩ := snoc_of_pos (s := s) (by rw [HM.out]; omega)
        obtain ⟨st, x, rfl⟩ := snoc_of_pos (s := s1) (by have := HM.out; simp at this; omega)
        have hss : (st ++ [x]) ++ [y] = st ++ [x, y] := by simp
        rw [hss] at P5 HM HP2 HR
        obtain ⟨t, hst⟩ : ∃ t, st.length = t := ⟨_, rfl⟩
        obtain ⟨u, hu⟩ : ∃ u, t + 1 = u := ⟨_, rfl⟩
        have hmt : m = t + 2 := by rw [← HM.out, List.length_append, hst]; rfl
        have hm2 : (m : Int) - 2 = (t : Int) := by omega
        have hm1 : (m : Int) - 1 = (u : Int) := by omega
        have HU := Lib.hid hu; have HMT := Lib.hid hmt
        have hx : (st ++ [x, y])[t]'(by simp; omega) = x := by subst hst; simp
        have hy : (st ++ [x, y])[u]'(by simp; omega) = y := by subst hu; subst hst; simp
        have htk : (st ++ [x, y]).take t = st := by subst hst; simp
        have hsum : (st.map List.length).sum + (x.length + y.length) ≤ k := by have := HP2.out; simpa [Nat.add_assoc] using this
        have HXL := Lib.hid (show x.length + y.length + 1 ≤ 2513169434843 by omega)
        obtain ⟨g, cap, e, hgB, hgl, hcap, hmax, cur, hgc⟩ := HR.out.sp.form (by simp)
        simp only [Value.slice.injEq] at e
        obtain ⟨rfl, -, rfl⟩ := e
        have hcap2 : t ≤ mc := by have := HM.out; omega
        have sl := fun W => slice_hiL W g m mc t hcap2
        have hcapI : (t : Int) ≤ (mc : Int) := by omega
        obtain ⟨ax, cx, hc, hcx, hfz⟩ := HR.out.sp.at (i := t) (by simp; omega)
        obtain ⟨ay, cy, hd, hdx, -⟩ := HR.out.sp.at (i := u) (by simp; omega)
        rw [hx] at hc hcx; rw [hy] at hd hdx
        obtain ⟨xl, hxl⟩ : ∃ n, x.length = n := ⟨_, rfl⟩
        obtain ⟨yl, hyl⟩ : ∃ n, y.length = n := ⟨_, rfl⟩
        rw [hxl] at hc hcx; rw [hyl] at hd hdx
        have HTK := Lib.hid htk; have HXX := Lib.hid hxl; have HYY := Lib.hid hyl; have HCX := Lib.hid hcx; have HDX := Lib.hid hdx; have HC0 := Lib.hid hc; have HD0 := Lib.hid hd; have HTS := Lib.hid hst
        have HF := Lib.hid h6
        have htt : (t : Int) < (m : Int) := by omega
        have hwt : IntKind.i64.wrap (t : Int) = (t : Int) := by rw [IntKind.wrap_i64]; omega
        have hwu : IntKind.i64.wrap (u : Int) = (u : Int) := by rw [IntKind.wrap_i64]; omega
        have htt2 : (u : Int) < (m : Int) := by omega
        have ht0 : (0 : Int) ≤ (t : Int) := by omega
        have ht1 : (0 : Int) ≤ (u : Int) := by omega
        have htl : t + 1 ≤ 2513169434843 := by omega
        clear hsum htk hx hy hss hst ht p4 hgB hcx hdx hc hd hfz hgc hxl hyl hmax hcap hcap2 hu hmt h2 h4 h5 h6
        have y0 := HR.out.c0; have y1 := HR.out.c1; have y2 := HR.out.c2; have y3 := HR.out.c3; have y4 := HR.out.c4
        rw [HF.out] at y0
        go_upto_region 15 with fail
        clear y0 y1 y2 y3 y4
        refine wp_region_Z (S := fun W' => (W'.cell? ⟨g, t, none⟩ = some (.slice ax xl cx) ∧ W'.cell? ⟨g, u, none⟩ = some (.slice ay yl cy)) ∧ (W'.cell? ⟨bo, off + k * 5, none⟩ = some (.int .i64 o.how) ∧ W'.cell? ⟨bo, off + k * 5 + 1, none⟩ = some (.int .i64 o.k) ∧ W'.cell? ⟨bo, off + k * 5 + 2, none⟩ = some (.int .i64 o.n) ∧ W'.cell? ⟨bo, off + k * 5 + 3, none⟩ = some (.slice pa o.p.length pc) ∧ W'.cell? ⟨bo, off + k * 5 + 4, none⟩ = some (.int .u8 o.fn))) (z := 15) (by kernel_rfl) ?_
        have hdr : Below wr.heap.size wr wr.drew := (Below.refl _ _).drew
        have HR := Lib.hid (HR.out.next hdr); have HCX := Lib.hid (HCX.out.below hdr); have HDX := Lib.hid (HDX.out.below hdr); have hc := keepCell hdr HC0.out; have HC0 := Lib.hid hc; have hd := keepCell hdr HD0.out; have HD0 := Lib.hid hd
        clear hdr hc hd hgl
        generalize wr.drew = Y at HR HCX HDX HC0 HD0 ⊢
        have hSS : (fun W' : World => (W'.cell? ⟨g, t, none⟩ = some (.slice ax xl cx) ∧ W'.cell? ⟨g, u, none⟩ = some (.slice ay yl cy)) ∧ (W'.cell? ⟨bo, off + k * 5, none⟩ = some (.int .i64 o.how) ∧ W'.cell? ⟨bo, off + k * 5 + 1, none⟩ = some (.int .i64 o.k) ∧ W'.cell? ⟨bo, off + k * 5 + 2, none⟩ = some (.int .i64 o.n) ∧ W'.cell? ⟨bo, off + k * 5 + 3, none⟩ = some (.slice pa o.p.length pc) ∧ W'.cell? ⟨bo, off + k * 5 + 4, none⟩ = some (.int .u8 o.fn))) Y := ⟨⟨HC0.out, HD0.out⟩, HR.out.c0, HR.out.c1, HR.out.c2, HR.out.c3, HR.out.c4⟩
        refine wpAnyZ_take (i := 0) (v := ?_) rfl (by kernel_rfl) (by kernel_rfl) (by kernel_rfl) (fun _ _ _ h => h) (by kernel_rfl) (Or.inl ⟨by rfl, ?_⟩) (by assumption) ?_
        rotate_left
        · intro w' hSw
          try dsimp only at hSw
          try obtain ⟨hSw, hSw2⟩ := hSw
          go_simp
          try with_reducible rfl
        show wpAnyZ _ _ _ _ _ _ _ _ (Act.put _ (some 72) _) _
        simp only [Act.put, List.setIfInBounds_toArray, List.set_cons_zero, List.set_cons_succ]
        refine wpAnyZ_take (i := 1) (v := ?_) rfl (by kernel_rfl) (by kernel_rfl) (by kernel_rfl) (fun _ _ _ h => h) (by kernel_rfl) (Or.inl ⟨by rfl, ?_⟩) (by assumption) ?_
        rotate_left
        · intro w' hSw
          try dsimp only at hSw
          try obtain ⟨hSw, hSw2⟩ := hSw
          go_simp
          try with_reducible rfl
        show wpAnyZ _ _ _ _ _ _ _ _ (Act.put _ (some 73) _) _
        simp only [Act.put, List.setIfInBounds_toArray, List.set_cons_zero, List.set_cons_succ]
        refine wpAnyZ_take (i := 2) (v := ?_) rfl (by kernel_rfl) (by kernel_rfl) (by kernel_rfl) (fun _ _ _ h => h) (by kernel_rfl) (Or.inl ⟨by rfl, ?_⟩) (by assumption) ?_
        rotate_left
        · intro w' hSw
          try dsimp only at hSw
          try obtain ⟨hSw, hSw2⟩ := hSw
          go_simp
          try with_reducible rfl
        show wpAnyZ _ _ _ _ _ _ _ _ (Act.put _ (some 74) _) _
        simp only [Act.put, List.setIfInBounds_toArray, List.set_cons_zero, List.set_cons_succ]
        refine wpAnyZ_take (i := 3) (v := ?_) rfl (by kernel_rfl) (by kernel_rfl) (by kernel_rfl) (fun _ _ _ h => h) (by kernel_rfl) (Or.inl ⟨by rfl, ?_⟩) (by assumption) ?_
        rotate_left
        · intro w' hSw
          try dsimp only at hSw
          try obtain ⟨hSw, hSw2⟩ := hSw
          go_simp
          try with_reducible rfl
        show wpAnyZ _ _ _ _ _ _ _ _ (Act.put _ (some 75) _) _
        simp only [Act.put, List.setIfInBounds_toArray, List.set_cons_zero, List.set_cons_succ]
        refine wpAnyZ_take (i := 4) (v := ?_) rfl (by kernel_rfl) (by kernel_rfl) (by kernel_rfl) (fun _ _ _ h => h) (by kernel_rfl) (Or.inl ⟨by rfl, ?_⟩) (by assumption) ?_
        rotate_left
        · intro w' hSw
          try dsimp only at hSw
          try obtain ⟨hSw, hSw2⟩ := hSw
          go_simp
          try with_reducible rfl
        show wpAnyZ _ _ _ _ _ _ _ _ (Act.put _ (some 76) _) _
        simp only [Act.put, List.setIfInBounds_toArray, List.set_cons_zero, List.set_cons_succ]
        refine wpAnyZ_take (i := 5) (v := ?_) rfl (by kernel_rfl) (by kernel_rfl) (by kernel_rfl) (fun _ _ _ h => h) (by kernel_rfl) (Or.inl ⟨by rfl, ?_⟩) (by assumption) ?_
        rotate_left
        · intro w' hSw
          try dsimp only at hSw
          try obtain ⟨hSw, hSw2⟩ := hSw
          go_simp
          try with_reducible rfl
        show wpAnyZ _ _ _ _ _ _ _ _ (Act.put _ (some 77) _) _
        simp only [Act.put, List.setIfInBounds_toArray, List.set_cons_zero, List.set_cons_succ]
        refine wpAnyZ_take (i := 6) (v := ?_) rfl (by kernel_rfl) (by kernel_rfl) (by kernel_rfl) (fun _ _ _ h => h) (by kernel_rfl) (Or.inl ⟨by rfl, ?_⟩) (by assumption) ?_
        rotate_left
        · intro w' hSw
          try dsimp only at hSw
          try obtain ⟨hSw, hSw2⟩ := hSw
          go_simp
          try with_reducible rfl
        show wpAnyZ _ _ _ _ _ _ _ _ (Act.put _ (some 78) _) _
        simp only [Act.put, List.setIfInBounds_toArray, List.set_cons_zero, List.set_cons_succ]
        refine wpAnyZ_take (i := 7) (v := ?_) rfl (by kernel_rfl) (by kernel_rfl) (by kernel_rfl) (fun _ _ _ h => h) (by kernel_rfl) (Or.inl ⟨by rfl, ?_⟩) (by assumption) ?_
        rotate_left
        · intro w' hSw
          try dsimp only at hSw
          try obtain ⟨hSw, hSw2⟩ := hSw
          go_simp
          try with_reducible rfl
        show wpAnyZ _ _ _ _ _ _ _ _ (Act.put _ (some 79) _) _
        simp only [Act.put, List.setIfInBounds_toArray, List.set_cons_zero, List.set_cons_succ]
        refine wpAnyZ_take (i := 8) (v := ?_) rfl (by kernel_rfl) (by kernel_rfl) (by kernel_rfl) (fun _ _ _ h => h) (by kernel_rfl) (Or.inl ⟨by rfl, ?_⟩) (by assumption) ?_
        rotate_left
        · intro w' hSw
          try dsimp only at hSw
          try obtain ⟨hSw, hSw2⟩ := hSw
          go_simp
          try with_reducible rfl
        show wpAnyZ _ _ _ _ _ _ _ _ (Act.put _ (some 80) _) _
        simp only [Act.put, List.setIfInBounds_toArray, List.set_cons_zero, List.set_cons_succ]
        refine wpAnyZ_take (i := 9) (v := ?_) rfl (by kernel_rfl) (by kernel_rfl) (by kernel_rfl) (fun _ _ _ h => h) (by kernel_rfl) (Or.inl ⟨by rfl, ?_⟩) (by assumption) ?_
        rotate_left
        · intro w' hSw
          try dsimp only at hSw
          try obtain ⟨hSw, hSw2⟩ := hSw
          go_simp
          try with_reducible rfl
        show wpAnyZ _ _ _ _ _ _ _ _ (Act.put _ (some 81) _) _
        simp only [Act.put, List.setIfInBounds_toArray, List.set_cons_zero, List.set_cons_succ]
        refine wpAnyZ_take (i := 10) (v := ?_) rfl (by kernel_rfl) (by kernel_rfl) (by kernel_rfl) (fun _ _ _ h => h) (by kernel_rfl) (Or.inl ⟨by rfl, ?_⟩) (by assumption) ?_
        rotate_left
        · intro w' hSw
          try dsimp only at hSw
          try obtain ⟨hSw, hSw2⟩ := hSw
          go_simp
          try with_reducible rfl
        show wpAnyZ _ _ _ _ _ _ _ _ (Act.put _ (some 82) _) _
        simp only [Act.put, List.setIfInBounds_toArray, List.set_cons_zero, List.set_cons_succ]
        refine wpAnyZ_take (i := 11) (v := ?_) rfl (by kernel_rfl) (by kernel_rfl) (by kernel_rfl) (fun _ _ _ h => h) (by kernel_rfl) (Or.inl ⟨by rfl, ?_⟩) (by assumption) ?_
        rotate_left
        · intro w' hSw
          try dsimp only at hSw
          try obtain ⟨hSw, hSw2⟩ := hSw
          go_simp
          try with_reducible rfl
        show wpAnyZ _ _ _ _ _ _ _ _ (Act.put _ (some 83) _) _
        simp only [Act.put, List.setIfInBounds_toArray, List.set_cons_zero, List.set_cons_succ]
        refine wpAnyZ_take (i := 12) (v := ?_) rfl (by kernel_rfl) (by kernel_rfl) (by kernel_rfl) (fun _ _ _ h => h) (by kernel_rfl) (Or.inl ⟨by rfl, ?_⟩) (by assumption) ?_
        rotate_left
        · intro w' hSw
          try dsimp only at hSw
          try obtain ⟨hSw, hSw2⟩ := hSw
          go_simp
          try with_reducible rfl
        show wpAnyZ _ _ _ _ _ _ _ _ (Act.put _ (some 84) _) _
        simp only [Act.put, List.setIfInBounds_toArray, List.set_cons_zero, List.set_cons_succ]
        refine wpAnyZ_take (i := 13) (v := ?_) rfl (by kernel_rfl) (by kernel_rfl) (by kernel_rfl) (fun _ _ _ h => h) (by kernel_rfl) (Or.inl ⟨by rfl, ?_⟩) (by assumption) ?_
        rotate_left
        · intro w' hSw
          try dsimp only at hSw
          try obtain ⟨hSw, hSw2⟩ := hSw
          go_simp
          try with_reducible rfl
        show wpAnyZ _ _ _ _ _ _ _ _ (Act.put _ (some 85) _) _
        simp only [Act.put, List.setIfInBounds_toArray, List.set_cons_zero, List.set_cons_succ]
        clear hSS
        refine wpAnyZ_one (i := 14) (by kernel_rfl) rfl rfl (fun K hK => ?_)
        go_simp
        have hq := rdyad13_any Y B HR.out.hB ax ay cx cy x y (by rw [HXX.out]; exact HCX.out) (by rw [HYY.out]; exact HDX.out) HXL.out o pa pc HR.out.mon OKO.out
        unfold opV at hq
        rw [HXX.out, HYY.out] at hq
        refine hq.mono ?_
        rintro e W2 ⟨⟨v2, rfl, hv2⟩, hb2⟩
        have HR2 := Lib.hid (HR.out.next hb2); have HV2 := Lib.hid hv2
        have hc2 := keepCell hb2 HC0.out; have hd2 := keepCell hb2 HD0.out
        obtain ⟨va, vc, rfl, -, -⟩ := hv2.form
        obtain ⟨vl, hvl⟩ : ∃ m, (dyadC x y o).length = m := ⟨_, rfl⟩
        rw [hvl] at HV2 ⊢
        show K _ W2
        refine hK.out _ _ (.inr ⟨⟨hc2, hd2⟩, HR2.out.c0, HR2.out.c1, HR2.out.c2, HR2.out.c3, HR2.out.c4⟩) ?_
        clear hK hq hv2 hb2 hvl HR HCX HDX HC0 HD0 hc2 hd2
        refine wpAnyZ_one (i := 15) (by kernel_rfl) rfl rfl (fun K hK => ?_)
        go_simp
        refine hK.out _ _ (.inl (by omega)) ?_
        clear hK
        refine wpAnyZ_done (by kernel_rfl) ?_ _
        have hsp2 : Spine B w.heap.size W2 (.slice (some ⟨g, 0, none⟩) t mc) st := by have h := HR2.out.sp.take (m := t) (by rw [List.length_append, HTS.out]; simp); rw [HTK.out] at h; exact h
        obtain ⟨G, hG⟩ : ∃ G, W2.heap.size = G := ⟨_, rfl⟩
        have hba : Below W2.heap.size W2 (W2.alloc (.cells #[.slice va vl vc] 22)) := (Below.refl _ _).alloc (Nat.le_refl _) _
        have HR3 := Lib.hid (HR2.out.next hba); have HV3 := Lib.hid (HV2.out.below hba); have HS3 := Lib.hid (hsp2.next hba); have HG := Lib.hid (heap_new hG (o := .cells #[.slice va vl vc] 22))
        clear hba HR2 HV2 hsp2
        go_wp2_with (at_builtin; (refine wpList_push rfl _ _ rfl B w.heap.size G _ (.slice va vl vc) st _ rfl (by have := HS3.out; exact this) rfl HG.out HV3.out (by rw [HTS.out]; exact htl) HBB.out HR3.out.b.size ?_); intro v' wz hvz hbz hgz hnz)
        have HSZ := Lib.hid (show Spine B w.heap.size wz v' (stackC (l.take (k + 1))) by rw [P5.out, HS.out]; exact hvz)
        have HBZ := Lib.hid (HR3.out.b.trans hbz)
        clear hvz hbz hgz hnz HR3 HV3 HG hG HS3
        go_wp2_with fail
        go_roundw
        case rel => exact ⟨k + 1, by omega, by go_num, HBZ.out, HSZ.out⟩
        case measure => simp [intOf] <;> omega
      have q2 : (o.how == 2) = false := by rw [beq_eq_false_iff_ne]; exact h2
      have q4 : (o.how == 4) = false := by rw [beq_eq_false_iff_ne]; exact h4
      have q5 : (o.how == 5) = false := by rw [beq_eq_false_iff_ne]; exact h5
      have q6 : (o.how == 6) = false := by rw [beq_eq_false_iff_ne]; exact h6
      have HS := Lib.hid (step_else h2 h4 h5 h6 s)
      clear h2 h4 h5 h6
      have y0 := HR.out.c0; have y1 := HR.out.c1; have y2 := HR.out.c2; have y3 := HR.out.c3; have y4 := HR.out.c4
      obtain ⟨G1, hG1⟩ : ∃ G, wr.heap.size = G := ⟨_, rfl⟩
      have hlo := lit_one wr B G1 (by rw [← hG1]; exact Bd.low HR.out.hB) o _ hG1 HR.out.mon OKO.out
      have hba : Below wr.heap.size wr (wr.alloc (.cells #[.int .i64 o.how, .int .i64 o.k, .int .i64 o.n, .slice pa o.p.length pc, .int .u8 o.fn] 44)) := (Below.refl _ _).alloc (Nat.le_refl _) _
      obtain ⟨W2, hW2⟩ : ∃ W, wr.alloc (.cells #[.int .i64 o.how, .int .i64 o.k, .int .i64 o.n, .slice pa o.p.length pc, .int .u8 o.fn] 44) = W := ⟨_, rfl⟩
      have hs2 : W2.heap.size = G1 + 1 := by rw [← hW2]; simp; omega
      rw [hW2] at hlo hba
      have HR2 := HR.out.next hba
      have hbb : Below W2.heap.size W2 (W2.alloc (.cells #[.slice (some ⟨G1, 0, none⟩) 1 1] 22)) := (Below.refl _ _).alloc (Nat.le_refl _) _
      have HR3 := Lib.hid (HR2.next hbb); have HV3 := Lib.hid (hlo.below hbb); have HG := Lib.hid (heap_new hs2 (o := .cells #[.slice (some ⟨G1, 0, none⟩) 1 1] 22))
      rw [← hW2] at HR3 HV3 HG
      clear hlo hba hbb HR2 hW2 hs2 HR
      go_wp2_with (at_builtin; (refine wpList_push rfl _ _ rfl B w.heap.size (G1 + 1) _ (.slice (some ⟨G1, 0, none⟩) 1 1) s _ rfl (by have := HR3.out.sp; exact this) rfl HG.out HV3.out (by rw [HM.out]; omega) HBB.out HR3.out.b.size ?_); intro v' wz hvz hbz hgz hnz)
      have HSZ := Lib.hid (show Spine B w.heap.size wz v' (stackC (l.take (k + 1))) by rw [P5.out, HS.out]; exact hvz)
      have HBZ := Lib.hid (HR3.out.b.trans hbz)
      clear hvz hbz hgz hnz HR3 HV3 HG hG1
      go_wp2_with fail
      go_roundw
      case rel => exact ⟨k + 1, by omega, by go_num, HBZ.out, HSZ.out⟩
      case measure => simp [intOf] <;> omega
    · obtain rfl : n = k := by omega
      rw [← HN.out, List.take_length] at hsp
      have hsi := (simple_facts HD.out).1
      rw [hsi] at hsp
      obtain ⟨g, cap, rfl, hgB, hgl, -, -, cur, hgc⟩ := hsp.form (by simp)
      obtain ⟨ax, cx, hc, hcx, -⟩ := hsp.at (i := 0) (by simp)
      simp only [List.getElem_cons_zero] at hc hcx
      have HV := Lib.hid hcx; have HB := Lib.hid hb
      have e1 : [simpleC l].length = 1 := rfl
      rw [e1]
      clear hsp hcr hcx hb hsi hgc hlt e1 hBr
      go_wp2_with fail
      go_ret
      exact ⟨⟨_, rfl, HV.out⟩, HB.out⟩
end Go.Proofs.Ytmlfeocdcjhhaaa

namespace Go.Proofs.Ytmlfeocdcjhhaaa
set_option maxRecDepth 100000
open Go.RowKit
set_option linter.unusedVariables false
set_option linter.unusedSimpArgs false
attribute [local go_sem ↓] Go.wp_at_zero Go.wp_at_succ

/-! Comparisons of the document's answer: windrowref02.Same, windrowref11.Ops. -/
theorem Mono.ext' {x y : Mono} (h : x.n = y.n) (h0 : x.e0 = y.e0) (h1 : x.e1 = y.e1) (h2 : x.e2 = y.e2) (h3 : x.e3 = y.e3) (h4 : x.e4 = y.e4) (h5 : x.e5 = y.e5) : x = y := by cases x; cases y; simp_all
instance : DecidableEq Mono := fun x y => decidable_of_iff (x.n = y.n ∧ x.e0 = y.e0 ∧ x.e1 = y.e1 ∧ x.e2 = y.e2 ∧ x.e3 = y.e3 ∧ x.e4 = y.e4 ∧ x.e5 = y.e5) ⟨fun ⟨a, b, c, d, e, f, g⟩ => Mono.ext' a b c d e f g, fun h => by subst h; exact ⟨rfl, rfl, rfl, rfl, rfl, rfl, rfl⟩⟩
theorem Cop.ext' {x y : Cop} (h : x.how = y.how) (h0 : x.k = y.k) (h1 : x.n = y.n) (h2 : x.p = y.p) (h3 : x.fn = y.fn) : x = y := by cases x; cases y; simp_all
instance : DecidableEq Cop := fun x y => decidable_of_iff (x.how = y.how ∧ x.k = y.k ∧ x.n = y.n ∧ x.p = y.p ∧ x.fn = y.fn) ⟨fun ⟨a, b, c, d, e⟩ => Cop.ext' a b c d e, fun h => by subst h; exact ⟨rfl, rfl, rfl, rfl, rfl⟩⟩
def sameL {α : Type} [DecidableEq α] (xs ys : List α) : Bool := decide (xs = ys)
theorem take_eq_allL {α : Type} {xs ys : List α} {k : Nat} (hl : xs.length = ys.length) (hk : k < xs.length) (h : xs.take k = ys.take k) (he : xs[k] = ys[k]'(hl ▸ hk)) : xs.take (k + 1) = ys.take (k + 1) := by
  rw [List.take_succ_eq_append_getElem hk, List.take_succ_eq_append_getElem (hl ▸ hk), h, he]
theorem sameL_ne {α : Type} [DecidableEq α] {xs ys : List α} {k : Nat} (hk : k < xs.length) (hk2 : k < ys.length) (he : xs[k] ≠ ys[k]) : sameL xs ys = false := by
  unfold sameL
  exact decide_eq_false (fun e => by subst e; exact he rfl)
theorem sameL_len {α : Type} [DecidableEq α] {xs ys : List α} (h : xs.length ≠ ys.length) : sameL xs ys = false := decide_eq_false (fun e => h (by rw [e]))
theorem sameL_all {α : Type} [DecidableEq α] {xs ys : List α} (hl : xs.length = ys.length) (h : xs.take xs.length = ys.take xs.length) : sameL xs ys = true := by
  rw [List.take_of_length_le (Nat.le_refl _), List.take_of_length_le (by omega)] at h
  exact decide_eq_true h
theorem eq_arr6 (W : World) (a0 a1 a2 a3 a4 a5 b0 b1 b2 b3 b4 b5 : Int) (N : Nat) : (Op.equalIn (N + 2) 45 (.agg #[.int .u8 a0, .int .u8 a1, .int .u8 a2, .int .u8 a3, .int .u8 a4, .int .u8 a5]) (.agg #[.int .u8 b0, .int .u8 b1, .int .u8 b2, .int .u8 b3, .int .u8 b4, .int .u8 b5])).run Try.prog W
    = .ok (a0 == b0 && (a1 == b1 && (a2 == b2 && (a3 == b3 && (a4 == b4 && a5 == b5))))) W := by
  rw [Op.equalIn]
  simp only [Sem.run_bind, run_underlying Try.underlying45, Result.andThen_ok, size_u8]
  simp only [Std.Legacy.Range.forIn_eq_forIn_range', Std.Legacy.Range.size, List.range', Nat.mul_one]
  have e := fun a b w => eq_u8 N a b w
  simp only [Nat.zero_add, Nat.reduceAdd, List.forIn_cons, List.forIn_nil, Sem.run_bind]
  cases h0 : (a0 == b0)
  · simp [part0, e, h0, Result.andThen_ok]
  cases h1 : (a1 == b1)
  · simp [part0, part1, e, h0, h1, Result.andThen_ok]
  cases h2 : (a2 == b2)
  · simp [part0, part1, part2, e, h0, h1, h2, Result.andThen_ok]
  cases h3 : (a3 == b3)
  · simp [part0, part1, part2, part3, e, h0, h1, h2, h3, Result.andThen_ok]
  cases h4 : (a4 == b4)
  · simp [part0, part1, part2, part3, part4, e, h0, h1, h2, h3, h4, Result.andThen_ok]
  cases h5 : (a5 == b5)
  · simp [part0, part1, part2, part3, part4, part5, e, h0, h1, h2, h3, h4, h5, Result.andThen_ok]
  · simp [part0, part1, part2, part3, part4, part5, e, h0, h1, h2, h3, h4, h5, Result.andThen_ok]
theorem neqMono (W : World) (x y : Mono) : (binOp .neq 47 x.V y.V).run Try.prog W = .ok (.bool (!decide (x = y))) W := by
  obtain ⟨o, a, b, c, i, j, k⟩ := x
  obtain ⟨o', a', b', c', i', j', k'⟩ := y
  unfold Mono.V
  simp only [Mono.mk.injEq]
  simp [go_sem, eq_arr6]
  by_cases h : o = o'
  rotate_left
  · simp [h]
  by_cases h0 : a = a'
  rotate_left
  · simp [h, h0]
  by_cases h1 : b = b'
  rotate_left
  · simp [h, h0, h1]
  by_cases h2 : c = c'
  rotate_left
  · simp [h, h0, h1, h2]
  by_cases h3 : i = i'
  rotate_left
  · simp [h, h0, h1, h2, h3]
  by_cases h4 : j = j'
  rotate_left
  · simp [h, h0, h1, h2, h3, h4]
  by_cases h5 : k = k'
  · simp [h, h0, h1, h2, h3, h4, h5]
  · simp [h, h0, h1, h2, h3, h4, h5]
set_option maxHeartbeats 4000000 in
theorem rsame02_any (w : World) (a b : Option Addr) (c d : Nat) (xs ys : List Mono) (hm : xs.length ≤ 9223372036854775807) (hm2 : ys.length ≤ 9223372036854775807) (h : monoRep.Els w a xs) (h2 : monoRep.Els w b ys) :
    Calls Try.prog 29 #[.slice a xs.length c, .slice b ys.length d] w fun e w' => e = .returned (.bool (sameL xs ys)) ∧ Below w.heap.size w w' := by
  obtain ⟨res, hres⟩ : ∃ r, sameL xs ys = r := ⟨_, rfl⟩
  rw [hres]
  have HI := Lib.hid h; have HJ := Lib.hid h2; have HRE := Lib.hid hres; clear h h2 hres
  by_cases hl : xs.length = ys.length
  · have hl' : ((xs.length : Int) != (ys.length : Int)) = false := by simp [hl]
    have Hl := Lib.hid hl; clear hl
    go_enter Try.func29, Try.ntmps29
    go_wp2
    go_loopw [5] (fun i wr => ∃ k : Nat, k ≤ xs.length ∧ i = .int .i64 k ∧ xs.take k = ys.take k ∧ Below w.heap.size w wr) (fun i _ => xs.length - (intOf i).toNat)
    case atStart => exact ⟨0, Nat.zero_le _, rfl, rfl, Below.refl _ _⟩
    case round =>
      obtain ⟨k, hk, rfl, ht, hbel⟩ := hrel
      by_cases hlt : k < xs.length
      · have hlt2 : k < ys.length := Hl.out ▸ hlt
        obtain ⟨b0, off, rfl, -, x0, x1, x2, x3, x4, x5, x6⟩ := els_mono (HI.out.below monoRep hbel (Nat.le_refl _)) hlt
        obtain ⟨b2, off2, rfl, -, y0, y1, y2, y3, y4, y5, y6⟩ := els_mono (HJ.out.below monoRep hbel (Nat.le_refl _)) hlt2
        have hz0 : (0 : Int) ≤ (k : Int) := by omega
        have hz1 : (k : Int) < (xs.length : Int) := by omega
        have hz2 : (k : Int) < (ys.length : Int) := by omega
        have hnx := fun he => take_eq_allL Hl.out hlt ht he
        have hnot := fun he => sameL_ne hlt hlt2 he
        have HBEL := Lib.hid hbel
        have hne := fun W => neqMono W xs[k] ys[k]
        generalize xs[k] = x at x0 x1 x2 x3 x4 x5 x6 hnx hnot hne
        generalize ys[k] = y at y0 y1 y2 y3 y4 y5 y6 hnx hnot hne
        unfold Mono.V at hne
        have f0 := cellBW x0; have f1 := cellBW x1; have f2 := cellBW x2; have f3 := cellBW x3; have f4 := cellBW x4; have f5 := cellBW x5; have f6 := cellBW x6
        have g0 := cellBW y0; have g1 := cellBW y1; have g2 := cellBW y2; have g3 := cellBW y3; have g4 := cellBW y4; have g5 := cellBW y5; have g6 := cellBW y6
        have HNX := Lib.hid hnx; have HNOT := Lib.hid hnot
        clear ht hbel x0 x1 x2 x3 x4 x5 x6 y0 y1 y2 y3 y4 y5 y6 hnx hnot
        go_upto_region 6 with fail
        by_cases he : x = y
        · rw [decide_eq_true he] at hne
          have HG := Lib.hid (HNX.out he)
          clear he
          refine wp_region_below (by kernel_rfl) (by kernel_rfl) ?_
          repeat (go_big_quiet_step (fail))
          refine wpQuiet_nil ?_
          rintro _ ⟨⟨wq, hwq⟩, rfl⟩
          have HQ := Lib.hid (HBEL.out.trans (hwq.mono HBEL.out.size))
          clear f0 f1 f2 f3 f4 f5 f6 g0 g1 g2 g3 g4 g5 g6
          go_wp2_with fail
          go_roundw
          case rel => exact ⟨k + 1, by omega, by go_num, HG.out, HQ.out⟩
          case measure => simp [intOf] <;> omega
        · rw [decide_eq_false he] at hne
          have HG := Lib.hid (show res = false by rw [← HRE.out, HNOT.out he])
          clear he
          refine wp_region_below (by kernel_rfl) (by kernel_rfl) ?_
          repeat (go_big_quiet_step (fail))
          refine wpQuiet_nil ?_
          rintro _ ⟨⟨wq, hwq⟩, rfl⟩
          have HQ := Lib.hid (HBEL.out.trans (hwq.mono HBEL.out.size))
          clear f0 f1 f2 f3 f4 f5 f6 g0 g1 g2 g3 g4 g5 g6
          go_wp2_with fail
          go_ret
          exact ⟨ret_bool HG.out.symm, HQ.out⟩
      · obtain rfl : xs.length = k := by omega
        have HG := Lib.hid (show res = true by rw [← HRE.out]; exact sameL_all Hl.out ht)
        have HQ := Lib.hid hbel
        clear ht hbel
        go_wp2
        go_ret
        exact ⟨ret_bool HG.out.symm, HQ.out⟩
  · have hl' : ((xs.length : Int) != (ys.length : Int)) = true := by simp; omega
    have HG := Lib.hid (show res = false by rw [← HRE.out]; exact sameL_len hl)
    clear hl
    go_enter Try.func29, Try.ntmps29
    go_wp2
    go_ret
    exact ⟨ret_bool HG.out.symm, Below.refl _ _⟩
end Go.Proofs.Ytmlfeocdcjhhaaa

namespace Go.Proofs.Ytmlfeocdcjhhaaa
set_option maxRecDepth 100000
open Go.RowKit
set_option linter.unusedVariables false
set_option linter.unusedSimpArgs false
attribute [local go_sem ↓] Go.wp_at_zero Go.wp_at_succ

/-! windrowref11.Ops. -/
set_option maxHeartbeats 8000000 in
theorem rops11_any (w : World) (a b : Option Addr) (c d : Nat) (xs ys : List Cop) (hm : xs.length ≤ 9223372036854775807) (hm2 : ys.length ≤ 9223372036854775807) (h : copRep.Els w a xs) (h2 : copRep.Els w b ys) :
    Calls Try.prog 12 #[.slice a xs.length c, .slice b ys.length d] w fun e w' => e = .returned (.bool (sameL xs ys)) ∧ Below w.heap.size w w' := by
  obtain ⟨res, hres⟩ : ∃ r, sameL xs ys = r := ⟨_, rfl⟩
  rw [hres]
  have HI := Lib.hid h; have HJ := Lib.hid h2; have HRE := Lib.hid hres; clear h h2 hres
  by_cases hl : xs.length = ys.length
  · have hl' : ((xs.length : Int) != (ys.length : Int)) = false := by simp [hl]
    have Hl := Lib.hid hl; clear hl
    go_enter Try.func12, Try.ntmps12
    go_wp2
    go_loopw [5] (fun i wr => ∃ k : Nat, k ≤ xs.length ∧ i = .int .i64 k ∧ xs.take k = ys.take k ∧ Below w.heap.size w wr) (fun i _ => xs.length - (intOf i).toNat)
    case atStart => exact ⟨0, Nat.zero_le _, rfl, rfl, Below.refl _ _⟩
    case round =>
      obtain ⟨k, hk, rfl, ht, hbel⟩ := hrel
      by_cases hlt : k < xs.length
      · have hlt2 : k < ys.length := Hl.out ▸ hlt
        obtain ⟨b0, off, pa, pc, rfl, x0, x1, x2, x3, x4, hp, hpl⟩ := els_cop (HI.out.below copRep hbel (Nat.le_refl _)) hlt
        obtain ⟨b2, off2, qa, qc, rfl, y0, y1, y2, y3, y4, hq, hql⟩ := els_cop (HJ.out.below copRep hbel (Nat.le_refl _)) hlt2
        have hz0 : (0 : Int) ≤ (k : Int) := by omega
        have hz1 : (k : Int) < (xs.length : Int) := by omega
        have hz2 : (k : Int) < (ys.length : Int) := by omega
        have hnx := fun he => take_eq_allL Hl.out hlt ht he
        have hnot := fun he => sameL_ne hlt hlt2 he
        have HBEL := Lib.hid hbel
        generalize xs[k] = x at x0 x1 x2 x3 x4 hnx hnot hp hpl
        generalize ys[k] = y at y0 y1 y2 y3 y4 hnx hnot hq hql
        have HS := Lib.hid (fun p : BelowW wr => rsame02_any p.world pa qa pc qc x.p y.p hpl hql (hp.below monoRep p.below (Nat.le_refl _)) (hq.below monoRep p.below (Nat.le_refl _)))
        have f0 := cellBW x0; have f1 := cellBW x1; have f2 := cellBW x2; have f3 := cellBW x3; have f4 := cellBW x4
        have g0 := cellBW y0; have g1 := cellBW y1; have g2 := cellBW y2; have g3 := cellBW y3; have g4 := cellBW y4
        have HNX := Lib.hid hnx; have HNOT := Lib.hid hnot
        clear ht hbel x0 x1 x2 x3 x4 y0 y1 y2 y3 y4 hnx hnot hp hq hpl hql
        go_upto_region 6 with fail
        by_cases e0 : x.how = y.how
        rotate_left
        · have q0 : (x.how != y.how) = true := by simpa using e0
          have HG := Lib.hid (show res = false by rw [← HRE.out, HNOT.out (fun e => e0 (by rw [e]))])
          clear e0 HS HNX HNOT
          refine wp_region_below (by kernel_rfl) (by kernel_rfl) ?_
          repeat (go_big_quiet_step (fail))
          refine wpQuiet_nil ?_
          rintro _ ⟨⟨wq, hwq⟩, rfl⟩
          have HQ := Lib.hid (HBEL.out.trans (hwq.mono HBEL.out.size))
          clear f0 f1 f2 f3 f4 g0 g1 g2 g3 g4
          go_wp2_with fail
          go_ret
          exact ⟨ret_bool HG.out.symm, HQ.out⟩
        have q0 : (x.how != y.how) = false := by simpa using e0
        by_cases e1 : x.k = y.k
        rotate_left
        · have q1 : (x.k != y.k) = true := by simpa using e1
          have HG := Lib.hid (show res = false by rw [← HRE.out, HNOT.out (fun e => e1 (by rw [e]))])
          clear e0 e1 HS HNX HNOT
          refine wp_region_below (by kernel_rfl) (by kernel_rfl) ?_
          repeat (go_big_quiet_step (fail))
          refine wpQuiet_nil ?_
          rintro _ ⟨⟨wq, hwq⟩, rfl⟩
          have HQ := Lib.hid (HBEL.out.trans (hwq.mono HBEL.out.size))
          clear f0 f1 f2 f3 f4 g0 g1 g2 g3 g4
          go_wp2_with fail
          go_ret
          exact ⟨ret_bool HG.out.symm, HQ.out⟩
        have q1 : (x.k != y.k) = false := by simpa using e1
        by_cases e2 : x.n = y.n
        rotate_left
        · have q2 : (x.n != y.n) = true := by simpa using e2
          have HG := Lib.hid (show res = false by rw [← HRE.out, HNOT.out (fun e => e2 (by rw [e]))])
          clear e0 e1 e2 HS HNX HNOT
          refine wp_region_below (by kernel_rfl) (by kernel_rfl) ?_
          repeat (go_big_quiet_step (fail))
          refine wpQuiet_nil ?_
          rintro _ ⟨⟨wq, hwq⟩, rfl⟩
          have HQ := Lib.hid (HBEL.out.trans (hwq.mono HBEL.out.size))
          clear f0 f1 f2 f3 f4 g0 g1 g2 g3 g4
          go_wp2_with fail
          go_ret
          exact ⟨ret_bool HG.out.symm, HQ.out⟩
        have q2 : (x.n != y.n) = false := by simpa using e2
        by_cases e3 : x.fn = y.fn
        rotate_left
        · have q3 : (x.fn != y.fn) = true := by simpa using e3
          have HG := Lib.hid (show res = false by rw [← HRE.out, HNOT.out (fun e => e3 (by rw [e]))])
          clear e0 e1 e2 e3 HS HNX HNOT
          refine wp_region_below (by kernel_rfl) (by kernel_rfl) ?_
          repeat (go_big_quiet_step (fail))
          refine wpQuiet_nil ?_
          rintro _ ⟨⟨wq, hwq⟩, rfl⟩
          have HQ := Lib.hid (HBEL.out.trans (hwq.mono HBEL.out.size))
          clear f0 f1 f2 f3 f4 g0 g1 g2 g3 g4
          go_wp2_with fail
          go_ret
          exact ⟨ret_bool HG.out.symm, HQ.out⟩
        have q3 : (x.fn != y.fn) = false := by simpa using e3
        by_cases e4 : x.p = y.p
        · have HG := Lib.hid (HNX.out (Cop.ext' e0 e1 e2 e4 e3))
          have hs : sameL x.p y.p = true := decide_eq_true e4
          rw [hs] at HS
          clear e0 e1 e2 e3 e4 HNX HNOT hs
          refine wp_region_below (by kernel_rfl) (by kernel_rfl) ?_
          repeat (go_big_quiet_step (refine callsBW (HS.out _)))
          refine wpQuiet_nil ?_
          rintro _ ⟨⟨wq, hwq⟩, rfl⟩
          have HQ := Lib.hid (HBEL.out.trans (hwq.mono HBEL.out.size))
          clear f0 f1 f2 f3 f4 g0 g1 g2 g3 g4 HS
          go_wp2_with fail
          go_roundw
          case rel => exact ⟨k + 1, by omega, by go_num, HG.out, HQ.out⟩
          case measure => simp [intOf] <;> omega
        · have HG := Lib.hid (show res = false by rw [← HRE.out, HNOT.out (fun e => e4 (by rw [e]))])
          have hs : sameL x.p y.p = false := decide_eq_false e4
          rw [hs] at HS
          clear e0 e1 e2 e3 e4 HNX HNOT hs
          refine wp_region_below (by kernel_rfl) (by kernel_rfl) ?_
          repeat (go_big_quiet_step (refine callsBW (HS.out _)))
          refine wpQuiet_nil ?_
          rintro _ ⟨⟨wq, hwq⟩, rfl⟩
          have HQ := Lib.hid (HBEL.out.trans (hwq.mono HBEL.out.size))
          clear f0 f1 f2 f3 f4 g0 g1 g2 g3 g4 HS
          go_wp2_with fail
          go_ret
          exact ⟨ret_bool HG.out.symm, HQ.out⟩
      · obtain rfl : xs.length = k := by omega
        have HG := Lib.hid (show res = true by rw [← HRE.out]; exact sameL_all Hl.out ht)
        have HQ := Lib.hid hbel
        clear ht hbel
        go_wp2
        go_ret
        exact ⟨ret_bool HG.out.symm, HQ.out⟩
  · have hl' : ((xs.length : Int) != (ys.length : Int)) = true := by simp; omega
    have HG := Lib.hid (show res = false by rw [← HRE.out]; exact sameL_len hl)
    clear hl
    go_enter Try.func12, Try.ntmps12
    go_wp2
    go_ret
    exact ⟨ret_bool HG.out.symm, Below.refl _ _⟩
end Go.Proofs.Ytmlfeocdcjhhaaa
