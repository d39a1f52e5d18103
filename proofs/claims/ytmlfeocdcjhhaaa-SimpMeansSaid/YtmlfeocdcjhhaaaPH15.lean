import Derived.Test.YtmlfeocdcjhhaaaPH7
import Derived.Test.YtmlfeocdcjhhaaaPH14
import Derived.Test.YtmlfeocdcjhhaaaPH13
namespace Go.Proofs.Ytmlfeocdcjhhaaa
set_option maxRecDepth 100000
open Go.RowKit
set_option linter.unusedVariables false
set_option linter.unusedSimpArgs false
attribute [local go_sem ↓] Go.wp_at_zero Go.wp_at_succ

/-- what is so ahead of one operation -/
theorem simple_pre {l : List Cop} (h : 0 ≤ depthI l) {k : Nat} (hk : k < l.length) : (stackC (l.take k)).length ≤ k ∧ ((stackC (l.take k)).map List.length).sum ≤ k ∧ 0 ≤ takesI l[k].how ∧ takesI l[k].how ≤ ((stackC (l.take k)).length : Int) ∧
    stackC (l.take (k + 1)) = stepC (stackC (l.take k)) l[k] := by
  obtain ⟨hr, -, -⟩ := depth_run h
  clear h
  generalize depthI l = D at hr
  have e1 : l.take (k + 1) = l.take k ++ [l[k]] := List.take_succ_eq_append_getElem hk
  rw [← List.take_append_drop (k + 1) l, runK_append, e1, runK_append] at hr
  cases h1 : runK (l.take k) 0 0 with
  | none => rw [h1] at hr; cases hr
  | some p =>
    obtain ⟨n, m⟩ := p
    rw [h1] at hr
    obtain ⟨hn, hs⟩ := stack_ok _ n m h1
    have hl := runK_len _ h1
    have hle := runK_le _ h1 (Int.le_refl _)
    have htl : (l.take k).length = k := by rw [List.length_take]; omega
    have hf := hs.few
    rw [htl] at hl hf
    refine ⟨by omega, hf, ?_, ?_, by rw [e1, stackC_snoc]⟩
    all_goals
      have hr : ((runK [l[k]] n m).bind fun p => runK (l.drop (k + 1)) p.1 p.2) = some (1, D) := hr
      rw [runK] at hr
      by_cases hc : takesI l[k].how < 0 ∨ n < takesI l[k].how
      · rw [if_pos hc] at hr; cases hr
      · omega
theorem sum_snoc (st : List (List Cop)) (x : List Cop) : ((st ++ [x]).map List.length).sum = (st.map List.length).sum + x.length := by simp
/-- an operation's cells -/
theorem els_copO {B : Bd} {w : World} {a : Option Addr} {n c : Nat} {l : List Cop} (h : CopS B w (.slice a n c) l) {k : Nat} (hk : k < l.length) : ∃ b off pa pc, a = some ⟨b, off, none⟩ ∧ w.cell? ⟨b, off + k * 5, none⟩ = some (.int .i64 l[k].how) ∧ w.cell? ⟨b, off + k * 5 + 1, none⟩ = some (.int .i64 l[k].k) ∧
    w.cell? ⟨b, off + k * 5 + 2, none⟩ = some (.int .i64 l[k].n) ∧ w.cell? ⟨b, off + k * 5 + 3, none⟩ = some (.slice pa l[k].p.length pc) ∧ w.cell? ⟨b, off + k * 5 + 4, none⟩ = some (.int .u8 l[k].fn) ∧ MonS B w (.slice pa l[k].p.length pc) l[k].p ∧ OkO l[k] := by
  obtain ⟨⟨a', cap, e, _, _, _, hx⟩, _⟩ := h
  simp only [Value.slice.injEq] at e
  obtain ⟨b, off, cs, e2, ⟨v, rfl, hm, h1, h2, h3, h4⟩, hc⟩ := hx k hk
  obtain ⟨pa, pc, rfl, _, _⟩ := Rep.Sl.form hm.1
  exact ⟨b, off, pa, pc, e.1.trans e2, hc 0 _ rfl, hc 1 _ rfl, hc 2 _ rfl, hc 3 _ rfl, hc 4 _ rfl, hm, ⟨h1, h2, h3, h4⟩⟩
/-- one round: from the stack s by the operation o -/
structure RoundS (B : Bd) (w wr W : World) (z : Nat) (v : Value) (s : List (List Cop)) (o : Cop) (pv : Value) : Prop where
  box : OpBox wr W z o pv
  sp : Spine B w.heap.size W v s
  mon : MonS (b0 B.hi) W pv o.p
  b : Below w.heap.size w W
  hB : B ≤ W.heap.size
theorem RoundS.next {B : Bd} {w wr W W' : World} {z : Nat} {v pv : Value} {s : List (List Cop)} {o : Cop} (h : RoundS B w wr W z v s o pv) (hb : Below W.heap.size W W') : RoundS B w wr W' z v s o pv :=
  ⟨h.box.next hb, h.sp.next hb, h.mon.below hb, bNext hb h.b, Nat.le_trans h.hB hb.size⟩
set_option maxHeartbeats 16000000 in
theorem simple13_any (w : World) (B : Bd) (hB : B ≤ w.heap.size) (a : Option Addr) (c : Nat) (l : List Cop) (h : CopS (b0 B.hi) w (.slice a l.length c) l) (hl : l.length ≤ 2513169434843) (hd : 0 ≤ depthI l) (hpoly : ∀ o ∈ l, o.how = 2 → o.p.length ≤ 1048576) (hlo : (∀ b, B.ok b) ∨ ∀ o ∈ l, o.how ≠ 2 → o.p = []) :
    Calls Try.prog 26 #[.slice a l.length c] w (RetC B w (simpleC l)) := by
  have HC := Lib.hid h; have HL := Lib.hid hl; have HD := Lib.hid hd; have HPO := Lib.hid hpoly; have HLO := Lib.hid hlo; have HBB := Lib.hid hB
  obtain ⟨n, hn⟩ : ∃ n, l.length = n := ⟨_, rfl⟩
  rw [hn]
  have hnl : n ≤ 2513169434843 := hn ▸ hl
  have HN := Lib.hid hn
  clear h hl hd hpoly hlo hB hn
  go_enter Try.func26, Try.ntmps26
  go_wp2_with fail
  go_loopw [3, 9] (fun v i wr => ∃ k : Nat, k ≤ n ∧ i = .int .i64 k ∧ Below w.heap.size w wr ∧ Spine B w.heap.size wr v (stackC (l.take k))) (fun _ i _ => n - (intOf i).toNat)
  case atStart => exact ⟨0, by omega, rfl, Below.refl _ _, Spine.nil _ _ _⟩
  case round =>
    obtain ⟨k, hk, rfl, hb, hsp⟩ := hrel
    have hBr : B ≤ wr.heap.size := Nat.le_trans HBB.out hb.size
    have hcr := HC.out.below hb
    by_cases hlt : k < n
    · have hkx : k < l.length := by rw [HN.out]; exact hlt
      obtain ⟨p1, p2, p3, p4, p5⟩ := simple_pre HD.out hkx
      obtain ⟨bo, off, pa, pc, rfl, x0, x1, x2, x3, x4, hmon, hok⟩ := els_copO hcr hkx
      have hpo := HPO.out _ (List.getElem_mem hkx)
      have hup : l[k].how ≠ 2 → (∀ b, B.ok b) ∨ l[k].p = [] := fun h2 => HLO.out.imp id (fun h => h _ (List.getElem_mem hkx) h2)
      generalize l[k] = o at p3 p4 p5 x0 x1 x2 x3 x4 hmon hok hpo hup
      generalize stackC (l.take k) = s at p1 p2 p4 p5 hsp
      obtain ⟨ma, mc, rfl⟩ := hsp.slice
      obtain ⟨z, hz⟩ : ∃ z, wr.heap.size = z := ⟨_, rfl⟩
      have hba : Below wr.heap.size wr (wr.alloc (.cells #[.int .i64 o.how, .int .i64 o.k, .int .i64 o.n, .slice pa o.p.length pc, .int .u8 o.fn] 44)) := (Below.refl _ _).alloc (Nat.le_refl _) _
      have HR := Lib.hid (show RoundS B w wr (wr.alloc (.cells #[.int .i64 o.how, .int .i64 o.k, .int .i64 o.n, .slice pa o.p.length pc, .int .u8 o.fn] 44)) z (.slice ma s.length mc) s o (.slice pa o.p.length pc) from ⟨⟨heap_new hz, hba⟩, hsp.next hba, hmon.below hba, bNext hba hb, Nat.le_trans hBr hba.size⟩)
      have P5 := Lib.hid p5; have OKO := Lib.hid hok; have HPP := Lib.hid hpo; have HUP := Lib.hid hup; have HP2 := Lib.hid p2
      obtain ⟨m, hm⟩ : ∃ m, s.length = m := ⟨_, rfl⟩
      have hml : m ≤ 2513169434843 := by omega
      rw [hm] at HR p1 p4 ⊢
      have HM := Lib.hid hm
      clear hcr hba hsp hmon hok hpo hup p5 p2 hm hkx hBr hb
      go_upto_region 5 with fail
      refine gen_worldA (fun W => RoundS B w wr W z (.slice ma m mc) s o (.slice pa o.p.length pc)) HR.out ?_
      rintro W1 hR1
      clear HR x0 x1 x2 x3 x4 hz
      have HR := Lib.hid hR1
      clear hR1
      by_cases h2 : o.how = 2
      · have HF := Lib.hid h2; have hp6 := HPP.out h2
        have HS := Lib.hid (step_val h2 s)
        clear h2
        have y0 := HR.out.box.c0; have y1 := HR.out.box.c1; have y2 := HR.out.box.c2; have y3 := HR.out.box.c3; have y4 := HR.out.box.c4
        rw [HF.out] at y0
        go_upto_region 9 with fail
        clear y0
        have y0 := HR.out.box.c0
        have HQ := Lib.hid (value13_any W1 (b0 B.hi) B HR.out.hB o pa pc HR.out.mon OKO.out hp6)
        unfold opV at HQ
        go_wp2_with fail
        refine HQ.out.mono ?_
        rintro e W2 ⟨⟨v2, rfl, hv2⟩, hb2⟩
        obtain ⟨va, vc, rfl, -, -⟩ := hv2.form
        obtain ⟨vl, hvl⟩ : ∃ m, (valueC o).length = m := ⟨_, rfl⟩
        rw [hvl] at hv2 ⊢
        clear hvl
        have HR2 := Lib.hid (HR.out.next hb2)
        obtain ⟨G, hG⟩ : ∃ G, W2.heap.size = G := ⟨_, rfl⟩
        have hba : Below W2.heap.size W2 (W2.alloc (.cells #[.slice va vl vc] 22)) := (Below.refl _ _).alloc (Nat.le_refl _) _
        have HR3 := Lib.hid (HR2.out.next hba); have HV3 := Lib.hid (hv2.below hba); have HG := Lib.hid (heap_new hG (o := .cells #[.slice va vl vc] 22))
        clear HQ hb2 hba HR HR2 y0 y1 y2 y3 y4 hv2
        go_wp2_with (at_builtin; (refine wpList_push rfl _ _ rfl B w.heap.size G _ (.slice va vl vc) s _ rfl (by have := HR3.out.sp; exact this) rfl HG.out HV3.out (by rw [HM.out]; omega) HBB.out HR3.out.b.size ?_); intro v' wz hvz hbz hgz hnz)
        have HSZ := Lib.hid (show Spine B w.heap.size wz v' (stackC (l.take (k + 1))) by rw [P5.out, HS.out]; exact hvz)
        have HBZ := Lib.hid (HR3.out.b.trans hbz)
        clear hvz hbz hgz hnz HR3 HV3 HG hG
        go_wp2_with fail
        go_roundw
        case rel => exact ⟨k + 1, by omega, by go_num, HBZ.out, HSZ.out⟩
        case measure => simp [intOf] <;> omega
      by_cases h4 : o.how = 4
      · skip
        have HU2 := Lib.hid (HUP.out h2)
        have q2 : (o.how == 2) = false := by rw [beq_eq_false_iff_ne]; exact h2
        have HS := Lib.hid (fun st x => step_load h4 st x)
        have ht : takesI o.how = 1 := by rw [h4]; rfl
        rw [ht] at p4
        obtain ⟨st, x, rfl⟩ := snoc_of_pos (s := s) (by rw [HM.out]; omega)
        obtain ⟨t, hst⟩ : ∃ t, st.length = t := ⟨_, rfl⟩
        obtain rfl : m = t + 1 := by rw [← HM.out, List.length_append, hst]; rfl
        have hx : (st ++ [x])[t]'(by simp; omega) = x := by subst hst; simp
        have hset : ∀ y, (st ++ [x]).set t y = st ++ [y] := fun y => by subst hst; simp
        have hsum := HP2.out; rw [sum_snoc] at hsum
        have HXL := Lib.hid (show x.length + 1 ≤ 2513169434843 by omega)
        obtain ⟨g, cap, e, hgB, hgl, hcap, hmax, cur, hgc⟩ := HR.out.sp.form (by simp)
        simp only [Value.slice.injEq] at e
        obtain ⟨rfl, -, rfl⟩ := e
        obtain ⟨ax, cx, hc, hcx, hfz⟩ := HR.out.sp.at (i := t) (by simp; omega)
        rw [hx] at hc hcx
        obtain ⟨xl, hxl⟩ : ∃ n, x.length = n := ⟨_, rfl⟩
        rw [hxl] at hc hcx
        have HSET := Lib.hid hset; have HXX := Lib.hid hxl; have HGB := Lib.hid hgB; have HCX := Lib.hid hcx; have HC0 := Lib.hid hc; have HFZ := Lib.hid hfz; have HTS := Lib.hid hst
        clear hsum hset hx hst ht p4 hgB hcx hc hfz hgc hxl hmax hcap
        have HF := Lib.hid h4
        clear h2 h4
        have y0 := HR.out.box.c0; have y1 := HR.out.box.c1; have y2 := HR.out.box.c2; have y3 := HR.out.box.c3; have y4 := HR.out.box.c4
        rw [HF.out] at y0
        have htt : (t : Int) < (t : Int) + 1 := by omega
        have ht0 : (0 : Int) ≤ (t : Int) := by omega
        go_upto_region 11 with fail
        clear y0 y1 y2 y3 y4
        refine wp_region_Z (S := fun W' => W'.cell? ⟨g, t, none⟩ = some (.slice ax xl cx) ∧ (W'.cell? ⟨z, 0, none⟩ = some (.int .i64 o.how) ∧ W'.cell? ⟨z, 1, none⟩ = some (.int .i64 o.k) ∧ W'.cell? ⟨z, 2, none⟩ = some (.int .i64 o.n) ∧ W'.cell? ⟨z, 3, none⟩ = some (.slice pa o.p.length pc) ∧ W'.cell? ⟨z, 4, none⟩ = some (.int .u8 o.fn))) (z := 11) (by kernel_rfl) ?_
        have hdr : Below W1.heap.size W1 W1.drew := (Below.refl _ _).drew
        have HR := Lib.hid (HR.out.next hdr); have HCX := Lib.hid (HCX.out.below hdr); have hc := keepCell hdr HC0.out; have HC0 := Lib.hid hc
        have hgl' : g < W1.drew.heap.size := Nat.lt_of_lt_of_le hgl hdr.size
        have hfz' : W1.drew.frozen? ⟨g, t, none⟩ = false := HFZ.out
        clear hdr hc hgl HFZ
        generalize W1.drew = Y at HR HCX HC0 hgl' hfz' ⊢
        have hSS : (fun W' : World => W'.cell? ⟨g, t, none⟩ = some (.slice ax xl cx) ∧ (W'.cell? ⟨z, 0, none⟩ = some (.int .i64 o.how) ∧ W'.cell? ⟨z, 1, none⟩ = some (.int .i64 o.k) ∧ W'.cell? ⟨z, 2, none⟩ = some (.int .i64 o.n) ∧ W'.cell? ⟨z, 3, none⟩ = some (.slice pa o.p.length pc) ∧ W'.cell? ⟨z, 4, none⟩ = some (.int .u8 o.fn))) Y := ⟨HC0.out, HR.out.box.c0, HR.out.box.c1, HR.out.box.c2, HR.out.box.c3, HR.out.box.c4⟩
        refine wpAnyZ_take (i := 0) (v := ?_) rfl (by kernel_rfl) (by kernel_rfl) (by kernel_rfl) (fun _ _ _ h => h) (by kernel_rfl) (Or.inl ⟨by rfl, ?_⟩) (by assumption) ?_
        rotate_left
        · intro w' hSw
          try dsimp only at hSw
          try obtain ⟨hSw, hSw2⟩ := hSw
          go_simp
          try with_reducible rfl
        show wpAnyZ _ _ _ _ _ _ _ _ (Act.put _ (some 32) _) _
        simp only [Act.put, List.setIfInBounds_toArray, List.set_cons_zero, List.set_cons_succ]
        refine wpAnyZ_take (i := 1) (v := ?_) rfl (by kernel_rfl) (by kernel_rfl) (by kernel_rfl) (fun _ _ _ h => h) (by kernel_rfl) (Or.inl ⟨by rfl, ?_⟩) (by assumption) ?_
        rotate_left
        · intro w' hSw
          try dsimp only at hSw
          try obtain ⟨hSw, hSw2⟩ := hSw
          go_simp
          try with_reducible rfl
        show wpAnyZ _ _ _ _ _ _ _ _ (Act.put _ (some 33) _) _
        simp only [Act.put, List.setIfInBounds_toArray, List.set_cons_zero, List.set_cons_succ]
        refine wpAnyZ_take (i := 2) (v := ?_) rfl (by kernel_rfl) (by kernel_rfl) (by kernel_rfl) (fun _ _ _ h => h) (by kernel_rfl) (Or.inl ⟨by rfl, ?_⟩) (by assumption) ?_
        rotate_left
        · intro w' hSw
          try dsimp only at hSw
          try obtain ⟨hSw, hSw2⟩ := hSw
          go_simp
          try with_reducible rfl
        show wpAnyZ _ _ _ _ _ _ _ _ (Act.put _ (some 34) _) _
        simp only [Act.put, List.setIfInBounds_toArray, List.set_cons_zero, List.set_cons_succ]
        refine wpAnyZ_take (i := 3) (v := ?_) rfl (by kernel_rfl) (by kernel_rfl) (by kernel_rfl) (fun _ _ _ h => h) (by kernel_rfl) (Or.inl ⟨by rfl, ?_⟩) (by assumption) ?_
        rotate_left
        · intro w' hSw
          try dsimp only at hSw
          try obtain ⟨hSw, hSw2⟩ := hSw
          go_simp
          try with_reducible rfl
        show wpAnyZ _ _ _ _ _ _ _ _ (Act.put _ (some 35) _) _
        simp only [Act.put, List.setIfInBounds_toArray, List.set_cons_zero, List.set_cons_succ]
        refine wpAnyZ_take (i := 4) (v := ?_) rfl (by kernel_rfl) (by kernel_rfl) (by kernel_rfl) (fun _ _ _ h => h) (by kernel_rfl) (Or.inl ⟨by rfl, ?_⟩) (by assumption) ?_
        rotate_left
        · intro w' hSw
          try dsimp only at hSw
          try obtain ⟨hSw, hSw2⟩ := hSw
          go_simp
          try with_reducible rfl
        show wpAnyZ _ _ _ _ _ _ _ _ (Act.put _ (some 36) _) _
        simp only [Act.put, List.setIfInBounds_toArray, List.set_cons_zero, List.set_cons_succ]
        refine wpAnyZ_take (i := 5) (v := ?_) rfl (by kernel_rfl) (by kernel_rfl) (by kernel_rfl) (fun _ _ _ h => h) (by kernel_rfl) (Or.inl ⟨by rfl, ?_⟩) (by assumption) ?_
        rotate_left
        · intro w' hSw
          try dsimp only at hSw
          try obtain ⟨hSw, hSw2⟩ := hSw
          go_simp
          try with_reducible rfl
        show wpAnyZ _ _ _ _ _ _ _ _ (Act.put _ (some 37) _) _
        simp only [Act.put, List.setIfInBounds_toArray, List.set_cons_zero, List.set_cons_succ]
        refine wpAnyZ_take (i := 6) (v := ?_) rfl (by kernel_rfl) (by kernel_rfl) (by kernel_rfl) (fun _ _ _ h => h) (by kernel_rfl) (Or.inl ⟨by rfl, ?_⟩) (by assumption) ?_
        rotate_left
        · intro w' hSw
          try dsimp only at hSw
          try obtain ⟨hSw, hSw2⟩ := hSw
          go_simp
          try with_reducible rfl
        show wpAnyZ _ _ _ _ _ _ _ _ (Act.put _ (some 38) _) _
        simp only [Act.put, List.setIfInBounds_toArray, List.set_cons_zero, List.set_cons_succ]
        clear hSS
        obtain ⟨G1, hG1⟩ : ∃ G, Y.heap.size = G := ⟨_, rfl⟩
        refine wpAnyZ_one (i := 7) (by kernel_rfl) rfl rfl (fun K hK => ?_)
        go_simp
        have hba : Below Y.heap.size Y (Y.alloc (.cells #[.int .i64 o.how, .int .i64 o.k, .int .i64 o.n, .slice pa o.p.length pc, .int .u8 o.fn] 44)) := (Below.refl _ _).alloc (Nat.le_refl _) _
        refine hK.out _ _ (.inr ⟨keepCell hba HC0.out, (HR.out.box.next hba).c0, (HR.out.box.next hba).c1, (HR.out.box.next hba).c2, (HR.out.box.next hba).c3, (HR.out.box.next hba).c4⟩) ?_
        clear hK
        refine wpAnyZ_one (i := 8) (by kernel_rfl) rfl rfl (fun K hK => ?_)
        go_simp
        have hbb := hba.alloc hba.size (.cells #[.slice ax xl cx, .slice (some ⟨G1, 0, none⟩) 1 1] 22)
        skip
        refine hK.out _ _ (.inr ⟨keepCell hbb HC0.out, (HR.out.box.next hbb).c0, (HR.out.box.next hbb).c1, (HR.out.box.next hbb).c2, (HR.out.box.next hbb).c3, (HR.out.box.next hbb).c4⟩) ?_
        clear hK hba hbb
        refine wpAnyZ_one (i := 9) (by kernel_rfl) rfl rfl (fun K hK => ?_)
        go_simp
        have hq := join2_any Y B G1 (G1 + 1) HR.out.hB hG1 rfl _ x HCX.out o _ (HR.out.mon.up (Nat.le_refl _) HU2.out) OKO.out HXL.out
        refine hq.mono ?_
        rintro e W2 ⟨⟨v2, rfl, hv2⟩, hb2⟩
        have HR2 := Lib.hid (HR.out.next hb2); have HV2 := Lib.hid hv2
        have hc2 := keepCell hb2 HC0.out
        have hfz2 : W2.frozen? ⟨g, t, none⟩ = false := by have := World.frozen?_of_block (w := Y) (w' := W2) (a := ⟨g, t, none⟩) (hb2.block g hgl'); rw [this]; exact hfz'
        obtain ⟨va, vc, rfl, -, -⟩ := hv2.form
        obtain ⟨vl, hvl⟩ : ∃ m, (x ++ [o]).length = m := ⟨_, rfl⟩
        rw [hvl] at HV2 ⊢
        show K _ W2
        refine hK.out _ _ (.inr ⟨hc2, HR2.out.box.c0, HR2.out.box.c1, HR2.out.box.c2, HR2.out.box.c3, HR2.out.box.c4⟩) ?_
        clear hK hq hv2 hb2 hvl hfz' hgl' HR HCX HC0
        have hSS : (fun W' : World => W'.cell? ⟨g, t, none⟩ = some (.slice ax xl cx) ∧ (W'.cell? ⟨z, 0, none⟩ = some (.int .i64 o.how) ∧ W'.cell? ⟨z, 1, none⟩ = some (.int .i64 o.k) ∧ W'.cell? ⟨z, 2, none⟩ = some (.int .i64 o.n) ∧ W'.cell? ⟨z, 3, none⟩ = some (.slice pa o.p.length pc) ∧ W'.cell? ⟨z, 4, none⟩ = some (.int .u8 o.fn))) W2 := ⟨hc2, HR2.out.box.c0, HR2.out.box.c1, HR2.out.box.c2, HR2.out.box.c3, HR2.out.box.c4⟩
        refine wpAnyZ_take (i := 10) (v := ?_) rfl (by kernel_rfl) (by kernel_rfl) (by kernel_rfl) (fun _ _ _ h => h) (by kernel_rfl) (Or.inl ⟨by rfl, ?_⟩) (by assumption) ?_
        rotate_left
        · intro w' hSw
          try dsimp only at hSw
          try obtain ⟨hSw, hSw2⟩ := hSw
          go_simp
          try with_reducible rfl
        show wpAnyZ _ _ _ _ _ _ _ _ (Act.put _ (some 42) _) _
        simp only [Act.put, List.setIfInBounds_toArray, List.set_cons_zero, List.set_cons_succ]
        clear hSS
        refine wpAnyZ_one (i := 11) (by kernel_rfl) rfl rfl (fun K hK => ?_)
        go_simp
        refine hK.out _ _ (.inl (by omega)) ?_
        clear hK
        refine wpAnyZ_done (by kernel_rfl) ?_ _
        have HSZ := Lib.hid (show Spine B w.heap.size (W2.setCell ⟨g, t, none⟩ (.slice va vl vc)) (.slice (some ⟨g, 0, none⟩) (t + 1) mc) (stackC (l.take (k + 1))) by
          rw [P5.out, HS.out, ← HSET.out]
          exact HR2.out.sp.set (i := t) (by rw [List.length_append, HTS.out]; simp) (Nat.le_trans HBB.out HGB.out) HV2.out)
        have HBZ := Lib.hid (show Below w.heap.size w (W2.setCell ⟨g, t, none⟩ (.slice va vl vc)) from HR2.out.b.setCell (by show w.heap.size ≤ g; exact HGB.out) _)
        clear HR2 HV2 hc2 hfz2
        go_wp2_with fail
        go_roundw
        case rel => exact ⟨k + 1, by omega, by go_num, HBZ.out, HSZ.out⟩
        case measure => simp [intOf] <;> omega
      by_cases h5 : o.how = 5
      · skip
        have HU2 := Lib.hid (HUP.out h2)
        have q2 : (o.how == 2) = false := by rw [beq_eq_false_iff_ne]; exact h2
        have q4 : (o.how == 4) = false := by rw [beq_eq_false_iff_ne]; exact h4
        have HS := Lib.hid (fun st x => step_mon h5 st x)
        have ht : takesI o.how = 1 := by rw [h5]; rfl
        rw [ht] at p4
        obtain ⟨st, x, rfl⟩ := snoc_of_pos (s := s) (by rw [HM.out]; omega)
        obtain ⟨t, hst⟩ : ∃ t, st.length = t := ⟨_, rfl⟩
        obtain rfl : m = t + 1 := by rw [← HM.out, List.length_append, hst]; rfl
        have hx : (st ++ [x])[t]'(by simp; omega) = x := by subst hst; simp
        have hset : ∀ y, (st ++ [x]).set t y = st ++ [y] := fun y => by subst hst; simp
        have hsum := HP2.out; rw [sum_snoc] at hsum
        have HXL := Lib.hid (show x.length + 1 ≤ 2513169434843 by omega)
        obtain ⟨g, cap, e, hgB, hgl, hcap, hmax, cur, hgc⟩ := HR.out.sp.form (by simp)
        simp only [Value.slice.injEq] at e
        obtain ⟨rfl, -, rfl⟩ := e
        obtain ⟨ax, cx, hc, hcx, hfz⟩ := HR.out.sp.at (i := t) (by simp; omega)
        rw [hx] at hc hcx
        obtain ⟨xl, hxl⟩ : ∃ n, x.length = n := ⟨_, rfl⟩
        rw [hxl] at hc hcx
        have HSET := Lib.hid hset; have HXX := Lib.hid hxl; have HGB := Lib.hid hgB; have HCX := Lib.hid hcx; have HC0 := Lib.hid hc; have HFZ := Lib.hid hfz; have HTS := Lib.hid hst
        clear hsum hset hx hst ht p4 hgB hcx hc hfz hgc hxl hmax hcap
        have HF := Lib.hid h5
        clear h2 h4 h5
        have y0 := HR.out.box.c0; have y1 := HR.out.box.c1; have y2 := HR.out.box.c2; have y3 := HR.out.box.c3; have y4 := HR.out.box.c4
        rw [HF.out] at y0
        have htt : (t : Int) < (t : Int) + 1 := by omega
        have ht0 : (0 : Int) ≤ (t : Int) := by omega
        go_upto_region 13 with fail
        clear y0 y1 y2 y3 y4
        refine wp_region_Z (S := fun W' => W'.cell? ⟨g, t, none⟩ = some (.slice ax xl cx) ∧ (W'.cell? ⟨z, 0, none⟩ = some (.int .i64 o.how) ∧ W'.cell? ⟨z, 1, none⟩ = some (.int .i64 o.k) ∧ W'.cell? ⟨z, 2, none⟩ = some (.int .i64 o.n) ∧ W'.cell? ⟨z, 3, none⟩ = some (.slice pa o.p.length pc) ∧ W'.cell? ⟨z, 4, none⟩ = some (.int .u8 o.fn))) (z := 9) (by kernel_rfl) ?_
        have hdr : Below W1.heap.size W1 W1.drew := (Below.refl _ _).drew
        have HR := Lib.hid (HR.out.next hdr); have HCX := Lib.hid (HCX.out.below hdr); have hc := keepCell hdr HC0.out; have HC0 := Lib.hid hc
        have hgl' : g < W1.drew.heap.size := Nat.lt_of_lt_of_le hgl hdr.size
        have hfz' : W1.drew.frozen? ⟨g, t, none⟩ = false := HFZ.out
        clear hdr hc hgl HFZ
        generalize W1.drew = Y at HR HCX HC0 hgl' hfz' ⊢
        have hSS : (fun W' : World => W'.cell? ⟨g, t, none⟩ = some (.slice ax xl cx) ∧ (W'.cell? ⟨z, 0, none⟩ = some (.int .i64 o.how) ∧ W'.cell? ⟨z, 1, none⟩ = some (.int .i64 o.k) ∧ W'.cell? ⟨z, 2, none⟩ = some (.int .i64 o.n) ∧ W'.cell? ⟨z, 3, none⟩ = some (.slice pa o.p.length pc) ∧ W'.cell? ⟨z, 4, none⟩ = some (.int .u8 o.fn))) Y := ⟨HC0.out, HR.out.box.c0, HR.out.box.c1, HR.out.box.c2, HR.out.box.c3, HR.out.box.c4⟩
        refine wpAnyZ_take (i := 0) (v := ?_) rfl (by kernel_rfl) (by kernel_rfl) (by kernel_rfl) (fun _ _ _ h => h) (by kernel_rfl) (Or.inl ⟨by rfl, ?_⟩) (by assumption) ?_
        rotate_left
        · intro w' hSw
          try dsimp only at hSw
          try obtain ⟨hSw, hSw2⟩ := hSw
          go_simp
          try with_reducible rfl
        show wpAnyZ _ _ _ _ _ _ _ _ (Act.put _ (some 45) _) _
        simp only [Act.put, List.setIfInBounds_toArray, List.set_cons_zero, List.set_cons_succ]
        refine wpAnyZ_take (i := 1) (v := ?_) rfl (by kernel_rfl) (by kernel_rfl) (by kernel_rfl) (fun _ _ _ h => h) (by kernel_rfl) (Or.inl ⟨by rfl, ?_⟩) (by assumption) ?_
        rotate_left
        · intro w' hSw
          try dsimp only at hSw
          try obtain ⟨hSw, hSw2⟩ := hSw
          go_simp
          try with_reducible rfl
        show wpAnyZ _ _ _ _ _ _ _ _ (Act.put _ (some 46) _) _
        simp only [Act.put, List.setIfInBounds_toArray, List.set_cons_zero, List.set_cons_succ]
        refine wpAnyZ_take (i := 2) (v := ?_) rfl (by kernel_rfl) (by kernel_rfl) (by kernel_rfl) (fun _ _ _ h => h) (by kernel_rfl) (Or.inl ⟨by rfl, ?_⟩) (by assumption) ?_
        rotate_left
        · intro w' hSw
          try dsimp only at hSw
          try obtain ⟨hSw, hSw2⟩ := hSw
          go_simp
          try with_reducible rfl
        show wpAnyZ _ _ _ _ _ _ _ _ (Act.put _ (some 47) _) _
        simp only [Act.put, List.setIfInBounds_toArray, List.set_cons_zero, List.set_cons_succ]
        refine wpAnyZ_take (i := 3) (v := ?_) rfl (by kernel_rfl) (by kernel_rfl) (by kernel_rfl) (fun _ _ _ h => h) (by kernel_rfl) (Or.inl ⟨by rfl, ?_⟩) (by assumption) ?_
        rotate_left
        · intro w' hSw
          try dsimp only at hSw
          try obtain ⟨hSw, hSw2⟩ := hSw
          go_simp
          try with_reducible rfl
        show wpAnyZ _ _ _ _ _ _ _ _ (Act.put _ (some 48) _) _
        simp only [Act.put, List.setIfInBounds_toArray, List.set_cons_zero, List.set_cons_succ]
        refine wpAnyZ_take (i := 4) (v := ?_) rfl (by kernel_rfl) (by kernel_rfl) (by kernel_rfl) (fun _ _ _ h => h) (by kernel_rfl) (Or.inl ⟨by rfl, ?_⟩) (by assumption) ?_
        rotate_left
        · intro w' hSw
          try dsimp only at hSw
          try obtain ⟨hSw, hSw2⟩ := hSw
          go_simp
          try with_reducible rfl
        show wpAnyZ _ _ _ _ _ _ _ _ (Act.put _ (some 49) _) _
        simp only [Act.put, List.setIfInBounds_toArray, List.set_cons_zero, List.set_cons_succ]
        refine wpAnyZ_take (i := 5) (v := ?_) rfl (by kernel_rfl) (by kernel_rfl) (by kernel_rfl) (fun _ _ _ h => h) (by kernel_rfl) (Or.inl ⟨by rfl, ?_⟩) (by assumption) ?_
        rotate_left
        · intro w' hSw
          try dsimp only at hSw
          try obtain ⟨hSw, hSw2⟩ := hSw
          go_simp
          try with_reducible rfl
        show wpAnyZ _ _ _ _ _ _ _ _ (Act.put _ (some 50) _) _
        simp only [Act.put, List.setIfInBounds_toArray, List.set_cons_zero, List.set_cons_succ]
        refine wpAnyZ_take (i := 6) (v := ?_) rfl (by kernel_rfl) (by kernel_rfl) (by kernel_rfl) (fun _ _ _ h => h) (by kernel_rfl) (Or.inl ⟨by rfl, ?_⟩) (by assumption) ?_
        rotate_left
        · intro w' hSw
          try dsimp only at hSw
          try obtain ⟨hSw, hSw2⟩ := hSw
          go_simp
          try with_reducible rfl
        show wpAnyZ _ _ _ _ _ _ _ _ (Act.put _ (some 51) _) _
        simp only [Act.put, List.setIfInBounds_toArray, List.set_cons_zero, List.set_cons_succ]
        clear hSS
        obtain ⟨G1, hG1⟩ : ∃ G, Y.heap.size = G := ⟨_, rfl⟩
        refine wpAnyZ_one (i := 7) (by kernel_rfl) rfl rfl (fun K hK => ?_)
        go_simp
        have hq := monad13_any Y B HR.out.hB ax cx x (by rw [HXX.out]; exact HCX.out) HXL.out o pa pc (HR.out.mon.up (Nat.le_refl _) HU2.out) OKO.out
        unfold opV at hq
        rw [HXX.out] at hq
        refine hq.mono ?_
        rintro e W2 ⟨⟨v2, rfl, hv2⟩, hb2⟩
        have HR2 := Lib.hid (HR.out.next hb2); have HV2 := Lib.hid hv2
        have hc2 := keepCell hb2 HC0.out
        have hfz2 : W2.frozen? ⟨g, t, none⟩ = false := by have := World.frozen?_of_block (w := Y) (w' := W2) (a := ⟨g, t, none⟩) (hb2.block g hgl'); rw [this]; exact hfz'
        obtain ⟨va, vc, rfl, -, -⟩ := hv2.form
        obtain ⟨vl, hvl⟩ : ∃ m, (monadC x o).length = m := ⟨_, rfl⟩
        rw [hvl] at HV2 ⊢
        show K _ W2
        refine hK.out _ _ (.inr ⟨hc2, HR2.out.box.c0, HR2.out.box.c1, HR2.out.box.c2, HR2.out.box.c3, HR2.out.box.c4⟩) ?_
        clear hK hq hv2 hb2 hvl hfz' hgl' HR HCX HC0
        have hSS : (fun W' : World => W'.cell? ⟨g, t, none⟩ = some (.slice ax xl cx) ∧ (W'.cell? ⟨z, 0, none⟩ = some (.int .i64 o.how) ∧ W'.cell? ⟨z, 1, none⟩ = some (.int .i64 o.k) ∧ W'.cell? ⟨z, 2, none⟩ = some (.int .i64 o.n) ∧ W'.cell? ⟨z, 3, none⟩ = some (.slice pa o.p.length pc) ∧ W'.cell? ⟨z, 4, none⟩ = some (.int .u8 o.fn))) W2 := ⟨hc2, HR2.out.box.c0, HR2.out.box.c1, HR2.out.box.c2, HR2.out.box.c3, HR2.out.box.c4⟩
        refine wpAnyZ_take (i := 8) (v := ?_) rfl (by kernel_rfl) (by kernel_rfl) (by kernel_rfl) (fun _ _ _ h => h) (by kernel_rfl) (Or.inl ⟨by rfl, ?_⟩) (by assumption) ?_
        rotate_left
        · intro w' hSw
          try dsimp only at hSw
          try obtain ⟨hSw, hSw2⟩ := hSw
          go_simp
          try with_reducible rfl
        show wpAnyZ _ _ _ _ _ _ _ _ (Act.put _ (some 53) _) _
        simp only [Act.put, List.setIfInBounds_toArray, List.set_cons_zero, List.set_cons_succ]
        clear hSS
        refine wpAnyZ_one (i := 9) (by kernel_rfl) rfl rfl (fun K hK => ?_)
        go_simp
        refine hK.out _ _ (.inl (by omega)) ?_
        clear hK
        refine wpAnyZ_done (by kernel_rfl) ?_ _
        have HSZ := Lib.hid (show Spine B w.heap.size (W2.setCell ⟨g, t, none⟩ (.slice va vl vc)) (.slice (some ⟨g, 0, none⟩) (t + 1) mc) (stackC (l.take (k + 1))) by
          rw [P5.out, HS.out, ← HSET.out]
          exact HR2.out.sp.set (i := t) (by rw [List.length_append, HTS.out]; simp) (Nat.le_trans HBB.out HGB.out) HV2.out)
        have HBZ := Lib.hid (show Below w.heap.size w (W2.setCell ⟨g, t, none⟩ (.slice va vl vc)) from HR2.out.b.setCell (by show w.heap.size ≤ g; exact HGB.out) _)
        clear HR2 HV2 hc2 hfz2
        go_wp2_with fail
        go_roundw
        case rel => exact ⟨k + 1, by omega, by go_num, HBZ.out, HSZ.out⟩
        case measure => simp [intOf] <;> omega
      by_cases h6 : o.how = 6
      · skip
        have HU2 := Lib.hid (HUP.out h2)
        have q2 : (o.how == 2) = false := by rw [beq_eq_false_iff_ne]; exact h2
        have q4 : (o.how == 4) = false := by rw [beq_eq_false_iff_ne]; exact h4
        have q5 : (o.how == 5) = false := by rw [beq_eq_false_iff_ne]; exact h5
        have HS := Lib.hid (fun st x y => step_dy h6 st x y)
        have ht : takesI o.how = 2 := by rw [h6]; rfl
        rw [ht] at p4
        obtain ⟨s1, y, rfl⟩ := snoc_of_pos (s := s) (by rw [HM.out]; omega)
        obtain ⟨st, x, rfl⟩ := snoc_of_pos (s := s1) (by have := HM.out; simp at this; omega)
        have hss : (st ++ [x]) ++ [y] = st ++ [x, y] := by simp
        rw [hss] at P5 HM HP2 HR
        obtain ⟨t, hst⟩ : ∃ t, st.length = t := ⟨_, rfl⟩
        obtain ⟨u, hu⟩ : ∃ u, t + 1 = u := ⟨_, rfl⟩
        have hut : (u : Int) - 1 = (t : Int) := by omega
        obtain rfl : m = u + 1 := by rw [← HM.out, List.length_append, hst, ← hu]; rfl
        have HU := Lib.hid hu
        have hx : (st ++ [x, y])[t]'(by simp; omega) = x := by subst hst; simp
        have hy : (st ++ [x, y])[u]'(by simp; omega) = y := by subst hu; subst hst; simp
        have hset : ∀ q, ((st ++ [x, y]).set t q).take u = st ++ [q] := fun q => by subst hu; subst hst; rw [show (st ++ [x, y]).set st.length q = (st ++ [q]) ++ [y] by simp]; exact List.take_left' (by simp)
        have hsum : (st.map List.length).sum + (x.length + y.length) ≤ k := by have := HP2.out; simpa [Nat.add_assoc] using this
        have HXL := Lib.hid (show x.length + y.length + 1 ≤ 2513169434843 by omega)
        obtain ⟨g, cap, e, hgB, hgl, hcap, hmax, cur, hgc⟩ := HR.out.sp.form (by simp)
        simp only [Value.slice.injEq] at e
        obtain ⟨rfl, -, rfl⟩ := e
        have hcap2 : u ≤ mc := by have := HM.out; omega
        have sl := fun W => slice_hiL W g (u + 1) mc u hcap2
        have hcapI : (u : Int) ≤ (mc : Int) := by omega
        obtain ⟨ax, cx, hc, hcx, hfz⟩ := HR.out.sp.at (i := t) (by simp; omega)
        obtain ⟨ay, cy, hd, hdx, -⟩ := HR.out.sp.at (i := u) (by simp; omega)
        rw [hx] at hc hcx; rw [hy] at hd hdx
        obtain ⟨xl, hxl⟩ : ∃ n, x.length = n := ⟨_, rfl⟩
        obtain ⟨yl, hyl⟩ : ∃ n, y.length = n := ⟨_, rfl⟩
        rw [hxl] at hc hcx; rw [hyl] at hd hdx
        have HSET := Lib.hid hset; have HXX := Lib.hid hxl; have HYY := Lib.hid hyl; have HGB := Lib.hid hgB; have HCX := Lib.hid hcx; have HDX := Lib.hid hdx; have HC0 := Lib.hid hc; have HD0 := Lib.hid hd; have HFZ := Lib.hid hfz; have HTS := Lib.hid hst
        have HF := Lib.hid h6
        clear hsum hset hx hy hss hst ht p4 hgB hcx hdx hc hd hfz hgc hxl hyl hmax hcap hcap2 hu h2 h4 h5 h6
        have y0 := HR.out.box.c0; have y1 := HR.out.box.c1; have y2 := HR.out.box.c2; have y3 := HR.out.box.c3; have y4 := HR.out.box.c4
        rw [HF.out] at y0
        have htt : (t : Int) < (u : Int) + 1 := by omega
        have hwt : IntKind.i64.wrap (t : Int) = (t : Int) := by rw [IntKind.wrap_i64]; omega
        have htt2 : (u : Int) < (u : Int) + 1 := by omega
        have ht0 : (0 : Int) ≤ (t : Int) := by omega
        have ht1 : (0 : Int) ≤ (u : Int) := by omega
        go_upto_region 15 with fail
        clear y0 y1 y2 y3 y4
        refine wp_region_Z (S := fun W' => (W'.cell? ⟨g, t, none⟩ = some (.slice ax xl cx) ∧ W'.cell? ⟨g, u, none⟩ = some (.slice ay yl cy)) ∧ (W'.cell? ⟨z, 0, none⟩ = some (.int .i64 o.how) ∧ W'.cell? ⟨z, 1, none⟩ = some (.int .i64 o.k) ∧ W'.cell? ⟨z, 2, none⟩ = some (.int .i64 o.n) ∧ W'.cell? ⟨z, 3, none⟩ = some (.slice pa o.p.length pc) ∧ W'.cell? ⟨z, 4, none⟩ = some (.int .u8 o.fn))) (z := 15) (by kernel_rfl) ?_
        have hdr : Below W1.heap.size W1 W1.drew := (Below.refl _ _).drew
        have HR := Lib.hid (HR.out.next hdr); have HCX := Lib.hid (HCX.out.below hdr); have HDX := Lib.hid (HDX.out.below hdr); have hc := keepCell hdr HC0.out; have HC0 := Lib.hid hc; have hd := keepCell hdr HD0.out; have HD0 := Lib.hid hd
        have hgl' : g < W1.drew.heap.size := Nat.lt_of_lt_of_le hgl hdr.size
        have hfz' : W1.drew.frozen? ⟨g, t, none⟩ = false := HFZ.out
        clear hdr hc hd hgl HFZ
        generalize W1.drew = Y at HR HCX HDX HC0 HD0 hgl' hfz' ⊢
        have hSS : (fun W' : World => (W'.cell? ⟨g, t, none⟩ = some (.slice ax xl cx) ∧ W'.cell? ⟨g, u, none⟩ = some (.slice ay yl cy)) ∧ (W'.cell? ⟨z, 0, none⟩ = some (.int .i64 o.how) ∧ W'.cell? ⟨z, 1, none⟩ = some (.int .i64 o.k) ∧ W'.cell? ⟨z, 2, none⟩ = some (.int .i64 o.n) ∧ W'.cell? ⟨z, 3, none⟩ = some (.slice pa o.p.length pc) ∧ W'.cell? ⟨z, 4, none⟩ = some (.int .u8 o.fn))) Y := ⟨⟨HC0.out, HD0.out⟩, HR.out.box.c0, HR.out.box.c1, HR.out.box.c2, HR.out.box.c3, HR.out.box.c4⟩
        refine wpAnyZ_take (i := 0) (v := ?_) rfl (by kernel_rfl) (by kernel_rfl) (by kernel_rfl) (fun _ _ _ h => h) (by kernel_rfl) (Or.inl ⟨by rfl, ?_⟩) (by assumption) ?_
        rotate_left
        · intro w' hSw
          try dsimp only at hSw
          try obtain ⟨hSw, hSw2⟩ := hSw
          go_simp
          try with_reducible rfl
        show wpAnyZ _ _ _ _ _ _ _ _ (Act.put _ (some 56) _) _
        simp only [Act.put, List.setIfInBounds_toArray, List.set_cons_zero, List.set_cons_succ]
        refine wpAnyZ_take (i := 1) (v := ?_) rfl (by kernel_rfl) (by kernel_rfl) (by kernel_rfl) (fun _ _ _ h => h) (by kernel_rfl) (Or.inl ⟨by rfl, ?_⟩) (by assumption) ?_
        rotate_left
        · intro w' hSw
          try dsimp only at hSw
          try obtain ⟨hSw, hSw2⟩ := hSw
          go_simp
          try with_reducible rfl
        show wpAnyZ _ _ _ _ _ _ _ _ (Act.put _ (some 57) _) _
        simp only [Act.put, List.setIfInBounds_toArray, List.set_cons_zero, List.set_cons_succ]
        refine wpAnyZ_take (i := 2) (v := ?_) rfl (by kernel_rfl) (by kernel_rfl) (by kernel_rfl) (fun _ _ _ h => h) (by kernel_rfl) (Or.inl ⟨by rfl, ?_⟩) (by assumption) ?_
        rotate_left
        · intro w' hSw
          try dsimp only at hSw
          try obtain ⟨hSw, hSw2⟩ := hSw
          go_simp
          try with_reducible rfl
        show wpAnyZ _ _ _ _ _ _ _ _ (Act.put _ (some 58) _) _
        simp only [Act.put, List.setIfInBounds_toArray, List.set_cons_zero, List.set_cons_succ]
        refine wpAnyZ_take (i := 3) (v := ?_) rfl (by kernel_rfl) (by kernel_rfl) (by kernel_rfl) (fun _ _ _ h => h) (by kernel_rfl) (Or.inl ⟨by rfl, ?_⟩) (by assumption) ?_
        rotate_left
        · intro w' hSw
          try dsimp only at hSw
          try obtain ⟨hSw, hSw2⟩ := hSw
          go_simp
          try with_reducible rfl
        show wpAnyZ _ _ _ _ _ _ _ _ (Act.put _ (some 59) _) _
        simp only [Act.put, List.setIfInBounds_toArray, List.set_cons_zero, List.set_cons_succ]
        refine wpAnyZ_take (i := 4) (v := ?_) rfl (by kernel_rfl) (by kernel_rfl) (by kernel_rfl) (fun _ _ _ h => h) (by kernel_rfl) (Or.inl ⟨by rfl, ?_⟩) (by assumption) ?_
        rotate_left
        · intro w' hSw
          try dsimp only at hSw
          try obtain ⟨hSw, hSw2⟩ := hSw
          go_simp
          try with_reducible rfl
        show wpAnyZ _ _ _ _ _ _ _ _ (Act.put _ (some 60) _) _
        simp only [Act.put, List.setIfInBounds_toArray, List.set_cons_zero, List.set_cons_succ]
        refine wpAnyZ_take (i := 5) (v := ?_) rfl (by kernel_rfl) (by kernel_rfl) (by kernel_rfl) (fun _ _ _ h => h) (by kernel_rfl) (Or.inl ⟨by rfl, ?_⟩) (by assumption) ?_
        rotate_left
        · intro w' hSw
          try dsimp only at hSw
          try obtain ⟨hSw, hSw2⟩ := hSw
          go_simp
          try with_reducible rfl
        show wpAnyZ _ _ _ _ _ _ _ _ (Act.put _ (some 61) _) _
        simp only [Act.put, List.setIfInBounds_toArray, List.set_cons_zero, List.set_cons_succ]
        refine wpAnyZ_take (i := 6) (v := ?_) rfl (by kernel_rfl) (by kernel_rfl) (by kernel_rfl) (fun _ _ _ h => h) (by kernel_rfl) (Or.inl ⟨by rfl, ?_⟩) (by assumption) ?_
        rotate_left
        · intro w' hSw
          try dsimp only at hSw
          try obtain ⟨hSw, hSw2⟩ := hSw
          go_simp
          try with_reducible rfl
        show wpAnyZ _ _ _ _ _ _ _ _ (Act.put _ (some 62) _) _
        simp only [Act.put, List.setIfInBounds_toArray, List.set_cons_zero, List.set_cons_succ]
        refine wpAnyZ_take (i := 7) (v := ?_) rfl (by kernel_rfl) (by kernel_rfl) (by kernel_rfl) (fun _ _ _ h => h) (by kernel_rfl) (Or.inl ⟨by rfl, ?_⟩) (by assumption) ?_
        rotate_left
        · intro w' hSw
          try dsimp only at hSw
          try obtain ⟨hSw, hSw2⟩ := hSw
          go_simp
          try with_reducible rfl
        show wpAnyZ _ _ _ _ _ _ _ _ (Act.put _ (some 63) _) _
        simp only [Act.put, List.setIfInBounds_toArray, List.set_cons_zero, List.set_cons_succ]
        refine wpAnyZ_take (i := 8) (v := ?_) rfl (by kernel_rfl) (by kernel_rfl) (by kernel_rfl) (fun _ _ _ h => h) (by kernel_rfl) (Or.inl ⟨by rfl, ?_⟩) (by assumption) ?_
        rotate_left
        · intro w' hSw
          try dsimp only at hSw
          try obtain ⟨hSw, hSw2⟩ := hSw
          go_simp
          try with_reducible rfl
        show wpAnyZ _ _ _ _ _ _ _ _ (Act.put _ (some 64) _) _
        simp only [Act.put, List.setIfInBounds_toArray, List.set_cons_zero, List.set_cons_succ]
        refine wpAnyZ_take (i := 9) (v := ?_) rfl (by kernel_rfl) (by kernel_rfl) (by kernel_rfl) (fun _ _ _ h => h) (by kernel_rfl) (Or.inl ⟨by rfl, ?_⟩) (by assumption) ?_
        rotate_left
        · intro w' hSw
          try dsimp only at hSw
          try obtain ⟨hSw, hSw2⟩ := hSw
          go_simp
          try with_reducible rfl
        show wpAnyZ _ _ _ _ _ _ _ _ (Act.put _ (some 65) _) _
        simp only [Act.put, List.setIfInBounds_toArray, List.set_cons_zero, List.set_cons_succ]
        refine wpAnyZ_take (i := 10) (v := ?_) rfl (by kernel_rfl) (by kernel_rfl) (by kernel_rfl) (fun _ _ _ h => h) (by kernel_rfl) (Or.inl ⟨by rfl, ?_⟩) (by assumption) ?_
        rotate_left
        · intro w' hSw
          try dsimp only at hSw
          try obtain ⟨hSw, hSw2⟩ := hSw
          go_simp
          try with_reducible rfl
        show wpAnyZ _ _ _ _ _ _ _ _ (Act.put _ (some 66) _) _
        simp only [Act.put, List.setIfInBounds_toArray, List.set_cons_zero, List.set_cons_succ]
        refine wpAnyZ_take (i := 11) (v := ?_) rfl (by kernel_rfl) (by kernel_rfl) (by kernel_rfl) (fun _ _ _ h => h) (by kernel_rfl) (Or.inl ⟨by rfl, ?_⟩) (by assumption) ?_
        rotate_left
        · intro w' hSw
          try dsimp only at hSw
          try obtain ⟨hSw, hSw2⟩ := hSw
          go_simp
          try with_reducible rfl
        show wpAnyZ _ _ _ _ _ _ _ _ (Act.put _ (some 67) _) _
        simp only [Act.put, List.setIfInBounds_toArray, List.set_cons_zero, List.set_cons_succ]
        refine wpAnyZ_take (i := 12) (v := ?_) rfl (by kernel_rfl) (by kernel_rfl) (by kernel_rfl) (fun _ _ _ h => h) (by kernel_rfl) (Or.inl ⟨by rfl, ?_⟩) (by assumption) ?_
        rotate_left
        · intro w' hSw
          try dsimp only at hSw
          try obtain ⟨hSw, hSw2⟩ := hSw
          go_simp
          try with_reducible rfl
        show wpAnyZ _ _ _ _ _ _ _ _ (Act.put _ (some 68) _) _
        simp only [Act.put, List.setIfInBounds_toArray, List.set_cons_zero, List.set_cons_succ]
        clear hSS
        refine wpAnyZ_one (i := 13) (by kernel_rfl) rfl rfl (fun K hK => ?_)
        go_simp
        have hq := dyad13_any Y B HR.out.hB ax ay cx cy x y (by rw [HXX.out]; exact HCX.out) (by rw [HYY.out]; exact HDX.out) HXL.out o pa pc (HR.out.mon.up (Nat.le_refl _) HU2.out) OKO.out
        unfold opV at hq
        rw [HXX.out, HYY.out] at hq
        refine hq.mono ?_
        rintro e W2 ⟨⟨v2, rfl, hv2⟩, hb2⟩
        have HR2 := Lib.hid (HR.out.next hb2); have HV2 := Lib.hid hv2
        have hc2 := keepCell hb2 HC0.out; have hd2 := keepCell hb2 HD0.out
        have hfz2 : W2.frozen? ⟨g, t, none⟩ = false := by have := World.frozen?_of_block (w := Y) (w' := W2) (a := ⟨g, t, none⟩) (hb2.block g hgl'); rw [this]; exact hfz'
        obtain ⟨va, vc, rfl, -, -⟩ := hv2.form
        obtain ⟨vl, hvl⟩ : ∃ m, (dyadC x y o).length = m := ⟨_, rfl⟩
        rw [hvl] at HV2 ⊢
        show K _ W2
        refine hK.out _ _ (.inr ⟨⟨hc2, hd2⟩, HR2.out.box.c0, HR2.out.box.c1, HR2.out.box.c2, HR2.out.box.c3, HR2.out.box.c4⟩) ?_
        clear hK hq hv2 hb2 hvl hfz' hgl' HR HCX HDX HC0 HD0
        have hSS : (fun W' : World => (W'.cell? ⟨g, t, none⟩ = some (.slice ax xl cx) ∧ W'.cell? ⟨g, u, none⟩ = some (.slice ay yl cy)) ∧ (W'.cell? ⟨z, 0, none⟩ = some (.int .i64 o.how) ∧ W'.cell? ⟨z, 1, none⟩ = some (.int .i64 o.k) ∧ W'.cell? ⟨z, 2, none⟩ = some (.int .i64 o.n) ∧ W'.cell? ⟨z, 3, none⟩ = some (.slice pa o.p.length pc) ∧ W'.cell? ⟨z, 4, none⟩ = some (.int .u8 o.fn))) W2 := ⟨⟨hc2, hd2⟩, HR2.out.box.c0, HR2.out.box.c1, HR2.out.box.c2, HR2.out.box.c3, HR2.out.box.c4⟩
        refine wpAnyZ_take (i := 14) (v := ?_) rfl (by kernel_rfl) (by kernel_rfl) (by kernel_rfl) (fun _ _ _ h => h) (by kernel_rfl) (Or.inl ⟨by rfl, ?_⟩) (by assumption) ?_
        rotate_left
        · intro w' hSw
          try dsimp only at hSw
          try obtain ⟨hSw, hSw2⟩ := hSw
          go_simp
          try with_reducible rfl
        show wpAnyZ _ _ _ _ _ _ _ _ (Act.put _ (some 70) _) _
        simp only [Act.put, List.setIfInBounds_toArray, List.set_cons_zero, List.set_cons_succ]
        clear hSS
        refine wpAnyZ_one (i := 15) (by kernel_rfl) rfl rfl (fun K hK => ?_)
        go_simp
        refine hK.out _ _ (.inl (by omega)) ?_
        clear hK
        refine wpAnyZ_done (by kernel_rfl) ?_ _
        have HSZ := Lib.hid (show Spine B w.heap.size (W2.setCell ⟨g, t, none⟩ (.slice va vl vc)) (.slice (some ⟨g, 0, none⟩) u mc) (stackC (l.take (k + 1))) by
          rw [P5.out, HS.out, ← HSET.out]
          exact (HR2.out.sp.set (i := t) (by rw [List.length_append, HTS.out]; simp) (Nat.le_trans HBB.out HGB.out) HV2.out).take (by rw [List.length_set, List.length_append, HTS.out, ← HU.out]; simp))
        have HBZ := Lib.hid (show Below w.heap.size w (W2.setCell ⟨g, t, none⟩ (.slice va vl vc)) from HR2.out.b.setCell (by show w.heap.size ≤ g; exact HGB.out) _)
        clear HR2 HV2 hc2 hd2 hfz2
        go_wp2_with fail
        go_roundw
        case rel => exact ⟨k + 1, by omega, by go_num, HBZ.out, HSZ.out⟩
        case measure => simp [intOf] <;> omega
      have HU2 := Lib.hid (HUP.out h2)
      have q2 : (o.how == 2) = false := by rw [beq_eq_false_iff_ne]; exact h2
      have q4 : (o.how == 4) = false := by rw [beq_eq_false_iff_ne]; exact h4
      have q5 : (o.how == 5) = false := by rw [beq_eq_false_iff_ne]; exact h5
      have q6 : (o.how == 6) = false := by rw [beq_eq_false_iff_ne]; exact h6
      have HS := Lib.hid (step_else h2 h4 h5 h6 s)
      clear h2 h4 h5 h6
      have y0 := HR.out.box.c0; have y1 := HR.out.box.c1; have y2 := HR.out.box.c2; have y3 := HR.out.box.c3; have y4 := HR.out.box.c4
      obtain ⟨G1, hG1⟩ : ∃ G, W1.heap.size = G := ⟨_, rfl⟩
      have hlo := lit_one W1 B G1 (by rw [← hG1]; exact Bd.low HR.out.hB) o _ hG1 (HR.out.mon.up (Nat.le_refl _) HU2.out) OKO.out
      have hba : Below W1.heap.size W1 (W1.alloc (.cells #[.int .i64 o.how, .int .i64 o.k, .int .i64 o.n, .slice pa o.p.length pc, .int .u8 o.fn] 44)) := (Below.refl _ _).alloc (Nat.le_refl _) _
      obtain ⟨W2, hW2⟩ : ∃ W, W1.alloc (.cells #[.int .i64 o.how, .int .i64 o.k, .int .i64 o.n, .slice pa o.p.length pc, .int .u8 o.fn] 44) = W := ⟨_, rfl⟩
      have hs2 : W2.heap.size = G1 + 1 := by rw [← hW2]; simp; omega
      rw [hW2] at hlo hba
      have HR2 := HR.out.next hba
      have hbb : Below W2.heap.size W2 (W2.alloc (.cells #[.slice (some ⟨G1, 0, none⟩) 1 1] 22)) := (Below.refl _ _).alloc (Nat.le_refl _) _
      have HR3 := Lib.hid (HR2.next hbb); have HV3 := Lib.hid (hlo.below hbb); have HG := Lib.hid (heap_new hs2 (o := .cells #[.slice (some ⟨G1, 0, none⟩) 1 1] 22))
      rw [← hW2] at HR3 HV3 HG
      clear hlo hba hbb HR2 hW2 hs2 HR
      go_wp2_with (at_builtin; (refine wpList_push rfl _ _ rfl B w.heap.size (G1 + 1) _ (.slice (some ⟨G1, 0, none⟩) 1 1) s _ rfl (by have := HR3.out.sp; exact this) rfl HG.out HV3.out (by rw [HM.out]; omega) HBB.out HR3.out.b.size ?_); intro v' wz hvz hbz hgz hnz)
      have HSZ := Lib.hid (show Spine B w.heap.size wz v' (stackC (l.take (k + 1))) by rw [P5.out, HS.out]; exact hvz)
      have HBZ := Lib.hid (HR3.out.b.trans hbz)
      clear hvz hbz hgz hnz HR3 HV3 HG hG1
      go_wp2_with fail
      go_roundw
      case rel => exact ⟨k + 1, by omega, by go_num, HBZ.out, HSZ.out⟩
      case measure => simp [intOf] <;> omega
    · obtain rfl : n = k := by omega
      rw [← HN.out, List.take_length] at hsp
      have hsi := (simple_facts HD.out).1
      rw [hsi] at hsp
      obtain ⟨g, cap, rfl, hgB, hgl, -, -, cur, hgc⟩ := hsp.form (by simp)
      obtain ⟨ax, cx, hc, hcx, -⟩ := hsp.at (i := 0) (by simp)
      simp only [List.getElem_cons_zero] at hc hcx
      have HV := Lib.hid hcx; have HB := Lib.hid hb
      have e1 : [simpleC l].length = 1 := rfl
      rw [e1]
      clear hsp hcr hcx hb hsi hgc hlt e1 hBr
      go_wp2_with fail
      go_ret
      exact ⟨⟨_, rfl, HV.out⟩, HB.out⟩
end Go.Proofs.Ytmlfeocdcjhhaaa

namespace Go.Proofs.Ytmlfeocdcjhhaaa
set_option maxRecDepth 100000
open Go.RowKit
set_option linter.unusedVariables false
set_option linter.unusedSimpArgs false
attribute [local go_sem ↓] Go.wp_at_zero Go.wp_at_succ

theorem wrong_5 {o : Cop} (h : o.how = 5) : wrongC o = !takes o.fn false := by unfold wrongC; rw [if_pos h]
theorem wrong_6 {o : Cop} (h : o.how = 6) : wrongC o = !takes o.fn true := by unfold wrongC; rw [if_neg (by omega), if_pos h]
theorem wrong_2 {o : Cop} (h : o.how = 2) : wrongC o = !polyB o.p := by unfold wrongC; rw [if_neg (by omega), if_neg (by omega), if_pos h]
theorem wrong_no {o : Cop} (h5 : o.how ≠ 5) (h6 : o.how ≠ 6) (h2 : o.how ≠ 2) : wrongC o = false := by unfold wrongC; rw [if_neg h5, if_neg h6, if_neg h2]
theorem wronglam_any (w : World) (o : Cop) (pa : Option Addr) (pc : Nat) (he : monoRep.Els w pa o.p) (hm : o.p.length ≤ 9223372036854775807) : Calls Try.prog 22 #[.agg #[.int .i64 o.how, .int .i64 o.k, .int .i64 o.n, .slice pa o.p.length pc, .int .u8 o.fn]] w fun e w' => e = .returned (.bool (wrongC o)) ∧ Below w.heap.size w w' := by
  have HO := Lib.hid (OpBox.new w o (.slice pa o.p.length pc))
  have HE := Lib.hid he
  by_cases h5 : o.how = 5
  · rw [wrong_5 h5]
    have HF := Lib.hid h5
    have HT := Lib.hid (fun W => takes_any W o.fn false)
    clear h5 he
    go_enter Try.func22, Try.ntmps22
    go_upto_region 1 with fail
    refine gen_worldA (fun W => OpBox w W w.heap.size o (.slice pa o.p.length pc)) HO.out ?_
    rintro W hO
    have y0 := hO.c0; have y4 := hO.c4
    rw [HF.out] at y0
    have HQ := Lib.hid (HT.out W); have HO := Lib.hid hO
    clear hO
    go_wp2_with fail
    refine HQ.out.mono ?_
    rintro e W1 ⟨rfl, rfl⟩
    go_wp2_with fail
    go_ret
    exact ⟨rfl, HO.out.b⟩
  by_cases h6 : o.how = 6
  · rw [wrong_6 h6]
    have HF := Lib.hid h6
    have HT := Lib.hid (fun W => takes_any W o.fn true)
    clear h5 h6 he
    go_enter Try.func22, Try.ntmps22
    go_upto_region 1 with fail
    refine gen_worldA (fun W => OpBox w W w.heap.size o (.slice pa o.p.length pc)) HO.out ?_
    rintro W hO
    have y0 := hO.c0; have y4 := hO.c4
    rw [HF.out] at y0
    have HQ := Lib.hid (HT.out W); have HO := Lib.hid hO
    clear hO
    go_wp2_with fail
    refine HQ.out.mono ?_
    rintro e W1 ⟨rfl, rfl⟩
    go_wp2_with fail
    go_ret
    exact ⟨rfl, HO.out.b⟩
  have q5 : (o.how == 5) = false := by rw [beq_eq_false_iff_ne]; exact h5
  have q6 : (o.how == 6) = false := by rw [beq_eq_false_iff_ne]; exact h6
  by_cases h2 : o.how = 2
  · rw [wrong_2 h2]
    have HF := Lib.hid h2
    clear h2 h5 h6 he q5 q6
    go_enter Try.func22, Try.ntmps22
    go_upto_region 1 with fail
    refine gen_worldA (fun W => OpBox w W w.heap.size o (.slice pa o.p.length pc)) HO.out ?_
    rintro W hO
    have y0 := hO.c0; have y3 := hO.c3
    rw [HF.out] at y0
    have HQ := Lib.hid (right_any W pa pc o.p (HE.out.below monoRep hO.b (Nat.le_refl _)) hm); have HO := Lib.hid hO
    clear hO
    go_wp2_with fail
    refine HQ.out.mono ?_
    rintro e W1 ⟨rfl, hb⟩
    go_wp2_with fail
    go_ret
    exact ⟨rfl, bNext hb HO.out.b⟩
  · rw [wrong_no h5 h6 h2]
    have q2 : (o.how == 2) = false := by rw [beq_eq_false_iff_ne]; exact h2
    clear h2 h5 h6 he
    go_enter Try.func22, Try.ntmps22
    go_upto_region 1 with fail
    refine gen_worldA (fun W => OpBox w W w.heap.size o (.slice pa o.p.length pc)) HO.out ?_
    rintro W hO
    have y0 := hO.c0
    have HO := Lib.hid hO
    clear hO
    go_wp2_with fail
    go_ret
    exact ⟨rfl, HO.out.b⟩
set_option maxHeartbeats 4000000 in
theorem indexFuncW (w : World) (a : Option Addr) (cap : Nat) (xs : List Cop) (p : Cop → Bool) (hm : xs.length ≤ maxLen) (h : copRep.Els w a xs)
    (hp : ∀ i, (hi : i < xs.length) → ∀ w' pa pc, Below w.heap.size w w' → monoRep.Els w' pa xs[i].p → xs[i].p.length ≤ 9223372036854775807 →
      Calls Try.prog 22 #[.agg #[.int .i64 xs[i].how, .int .i64 xs[i].k, .int .i64 xs[i].n, .slice pa xs[i].p.length pc, .int .u8 xs[i].fn]] w' fun e w'' => e = .returned (.bool (p xs[i])) ∧ Below w'.heap.size w' w'') :
    Calls Try.prog 52 #[.slice a xs.length cap, .func (.func 22) #[] #[]] w fun e w' => e = .returned (.int .i64 (firstO p 0 xs)) ∧ Below w.heap.size w w' := by
  unfold maxLen at hm
  have HI := Lib.hid h; have HP := Lib.hid hp; clear h hp
  go_enter Try.func52, Try.ntmps52
  go_wp2
  go_loopw [8] (fun i wr => ∃ k : Nat, k ≤ xs.length ∧ i = .int .i64 k ∧ firstO p 0 xs = firstO p k (xs.drop k) ∧ Below w.heap.size w wr) (fun i _ => xs.length - (intOf i).toNat)
  case atStart => exact ⟨0, Nat.zero_le _, rfl, rfl, Below.refl _ _⟩
  case round =>
    obtain ⟨k, hk, rfl, hr, hbel⟩ := hrel
    by_cases hlt : k < xs.length
    · rw [firstO_step hlt] at hr
      obtain ⟨b, off, cs, rfl, ⟨v, rfl, hs, hh, -⟩, hc⟩ := (HI.out.below copRep hbel (Nat.le_refl _)) k hlt
      have x0 := hc 0 _ rfl; have x1 := hc 1 _ rfl; have x2 := hc 2 _ rfl; have x3 := hc 3 _ rfl; have x4 := hc 4 _ rfl
      simp only [show copRep.n = 5 from rfl, Nat.add_zero] at x0 x1 x2 x3 x4
      obtain ⟨pa, pc, rfl, hpl, hpe⟩ := Rep.Sl.form hs
      have hq := HP.out k hlt wr pa pc hbel hpe hpl
      have Hr := Lib.hid hr; clear hr hs hpe hc
      cases hv : p xs[k] with
      | true =>
        rw [hv] at hq
        have HQ := Lib.hid hq; have Hv := Lib.hid hv; clear hq hv
        go_wp2_with (refine HQ.out.mono ?_; rintro e w' ⟨rfl, hb1⟩)
        go_ret
        exact ⟨ret_int (by rw [Hr.out, if_pos Hv.out]), bNext hb1 hbel⟩
      | false =>
        rw [hv] at hq
        have HQ := Lib.hid hq; have Hv := Lib.hid hv; clear hq hv
        go_wp2_with (refine HQ.out.mono ?_; rintro e w' ⟨rfl, hb1⟩)
        go_roundw
        case rel => exact ⟨k + 1, by omega, by go_num, by rw [Hr.out, if_neg (by rw [Hv.out]; simp)], bNext hb1 hbel⟩
        case measure => simp [intOf]; omega
    · have Hr := Lib.hid hr; clear hr
      go_wp2
      go_ret
      exact ⟨ret_int (by rw [Hr.out, List.drop_eq_nil_of_le (by omega)]; rfl), hbel⟩

theorem containsFuncW (w : World) (a : Option Addr) (cap : Nat) (xs : List Cop) (p : Cop → Bool) (hm : xs.length ≤ maxLen) (h : copRep.Els w a xs)
    (hp : ∀ i, (hi : i < xs.length) → ∀ w' pa pc, Below w.heap.size w w' → monoRep.Els w' pa xs[i].p → xs[i].p.length ≤ 9223372036854775807 →
      Calls Try.prog 22 #[.agg #[.int .i64 xs[i].how, .int .i64 xs[i].k, .int .i64 xs[i].n, .slice pa xs[i].p.length pc, .int .u8 xs[i].fn]] w' fun e w'' => e = .returned (.bool (p xs[i])) ∧ Below w'.heap.size w' w'') :
    Calls Try.prog 25 #[.slice a xs.length cap, .func (.func 22) #[] #[]] w fun e w' => e = .returned (.bool (xs.any p)) ∧ Below w.heap.size w w' := by
  have hq := Lib.hid (indexFuncW w a cap xs p hm h hp)
  clear hp h
  go_enter Try.func25, Try.ntmps25
  go_wp2_with (go_at_call 52; refine hq.out.mono ?_; rintro e w' ⟨rfl, hb1⟩)
  go_ret
  exact ⟨ret_bool (firstO_nonneg _ _), hb1⟩

/-- what Ops tells -/
def RetOps (w : World) (r : List Cop × Int) (e : Ending) (w' : World) : Prop := (∃ v, e = .returned (.tuple #[v, .int .i64 r.2]) ∧ copRep.Sl w' v r.1) ∧ Below w.heap.size w w'
theorem fit_poly {l : List Cop} (h : fitC l = true) : 0 ≤ depthI l ∧ ∀ o ∈ l, o.how = 2 → o.p.length ≤ 1048576 := by
  unfold fitC at h
  simp only [Bool.and_eq_true, decide_eq_true_eq, Bool.not_eq_true', List.any_eq_false] at h
  refine ⟨h.1, fun o ho h2 => ?_⟩
  have h3 := h.2 o ho
  rw [wrong_2 h2] at h3
  have h4 : polyB o.p = true := by simpa using h3
  unfold polyB at h4
  simp only [Bool.and_eq_true, decide_eq_true_eq] at h4
  omega
theorem ops13_any (w : World) (a : Option Addr) (c : Nat) (l : List Cop) (h0 : copRep.Sl w (.slice a l.length c) l) (hl : l.length ≤ 2513169434843) :
    Calls Try.prog 10 #[.slice a l.length c] w (RetOps w (opsC l)) := by
  have h := CopS.of h0
  have hq1 := depth_any w a c l h.els h.le
  have hq2 := fun W (hb : Below w.heap.size w W) => containsFuncW W a c l wrongC (by have := h.le; unfold maxLen; exact this) (h.els.below copRep hb (Nat.le_refl _)) (fun i hi w' pa pc _ he hm => wronglam_any w' l[i] pa pc he hm)
  have hq3 := fun (hf : fitC l = true) W (hb : Below w.heap.size w W) => simple13_any W (b0 W.heap.size) (Nat.le_refl _) a c l ((h.below hb).mono hb.size (fun _ h => h)) hl (fit_poly hf).1 (fit_poly hf).2 (.inl (fun _ => trivial))
  have ho : opsC l = if fitC l then (simpleC l, 0) else ([], 130) := rfl
  have hf : fitC l = (decide (0 ≤ depthI l) && !l.any wrongC) := rfl
  rw [ho]
  obtain ⟨D, hD⟩ : ∃ D, depthI l = D := ⟨_, rfl⟩
  obtain ⟨g, hg⟩ : ∃ g, l.any wrongC = g := ⟨_, rfl⟩
  rw [hD] at hq1
  simp only [hg] at hq2
  rw [hD, hg] at hf
  have hm := h.le
  clear h h0 hl hD hg ho
  by_cases h0 : D < 0
  · have hdc : decide (0 ≤ D) = false := by rw [decide_eq_false_iff_not]; omega
    rw [hdc, Bool.false_and] at hf
    rw [if_neg (by rw [hf]; decide)]
    have HQ := Lib.hid hq1
    clear hq1 hq2 hq3 hf hdc
    go_enter Try.func10, Try.ntmps10
    go_wp2_with fail
    refine HQ.out.mono ?_
    rintro e w1 ⟨rfl, hb⟩
    go_wp2_with fail
    go_ret2
    exact ⟨⟨_, rfl, Rep.Sl.nil _ _⟩, hb⟩
  · have hdc : decide (0 ≤ D) = true := by rw [decide_eq_true_iff]; omega
    rw [hdc, Bool.true_and] at hf
    cases g with
    | true =>
      rw [if_neg (by rw [hf]; decide)]
      have HQ := Lib.hid hq1; have HQ2 := Lib.hid hq2
      clear hq1 hq2 hq3 hf hdc
      go_enter Try.func10, Try.ntmps10
      go_wp2_with fail
      refine HQ.out.mono ?_
      rintro e w1 ⟨rfl, hb⟩
      have HB := Lib.hid hb; have HQ3 := Lib.hid (HQ2.out w1 hb)
      clear HQ HQ2 hb
      go_wp2_with fail
      refine HQ3.out.mono ?_
      rintro e w2 ⟨rfl, hb⟩
      go_wp2_with fail
      go_ret2
      exact ⟨⟨_, rfl, Rep.Sl.nil _ _⟩, bNext hb HB.out⟩
    | false =>
      have hf : fitC l = true := hf
      rw [if_pos hf]
      have HQ := Lib.hid hq1; have HQ2 := Lib.hid hq2; have HQ3 := Lib.hid (hq3 hf)
      clear hq1 hq2 hq3 hf hdc
      go_enter Try.func10, Try.ntmps10
      go_wp2_with fail
      refine HQ.out.mono ?_
      rintro e w1 ⟨rfl, hb⟩
      have HB := Lib.hid hb; have HQ4 := Lib.hid (HQ2.out w1 hb)
      clear HQ HQ2 hb
      go_wp2_with fail
      refine HQ4.out.mono ?_
      rintro e w2 ⟨rfl, hb⟩
      have HB := Lib.hid (bNext hb HB.out)
      have HQ := Lib.hid (HQ3.out w2 HB.out)
      clear HQ3 HQ4 hb
      go_wp2_with fail
      refine HQ.out.mono ?_
      rintro e w3 ⟨⟨v3, rfl, hv3⟩, hb⟩
      go_wp2_with fail
      go_ret2
      exact ⟨⟨_, rfl, hv3.cop⟩, bNext hb HB.out⟩
end Go.Proofs.Ytmlfeocdcjhhaaa
