import Derived.Test.YtiogopichcnihaaJC
namespace Go.Proofs.Ytiogopichcnihaa
set_option maxRecDepth 100000
open Go.RowKit
set_option linter.unusedVariables false
set_option linter.unusedSimpArgs false

/-! The reader's image. -/
theorem results_im {fn : Func} {p : Tmp} (h : fn.results = #[.cell p 26]) (tmps : Array Value) (w : World) (g : Nat) (t : TypeId) (cs : Array Value) (fr : Nat × Nat)
    (hp : tmps.getD p undef = .pointer (some ⟨g, 0, none⟩)) (hg : w.heap[g]? = some (.cells cs t fr)) (hi : cs.size = 5) : (results fn tmps).run Try.prog w = .ok (.agg cs) w := by
  have hp' : tmps[p]?.getD undef = .pointer (some ⟨g, 0, none⟩) := by simpa using hp
  simp [results, h, hp', asAddr, run_loadVar_row w g t 26 cs fr _ hg Try.underlying26 rfl (by rw [hi]; kernel_rfl)]
theorem imgP_head {l : List Int} (h : l.take 3 ≠ [87, 82, 1]) : imgP l = none := by unfold imgP; rw [if_neg h]
/-- imgP behind the numbers of dimensions -/
def imgP2 (dims l : List Int) : Option (Img × List Int) := match numP 2097152 l with
  | none => none
  | some (mem, r) => match slotsP 64 r with
    | none => none
    | some (ins, r) => match slotsP 64 r with
      | none => none
      | some (outs, r) => match numP 32768 r with
        | none => none
        | some (k, r) => match manyA insP k.toNat [] r with
          | none => none
          | some (code, r) => some (⟨dims, mem, ins, outs, code⟩, r)
theorem imgP_1 {l : List Int} (h : l.take 3 = [87, 82, 1]) : imgP l = match numP 6 (l.drop 3) with
    | none => none
    | some (n, r) => match manyA (numP 65536) n.toNat [] r with
      | none => none
      | some (dims, r) => imgP2 dims r := by unfold imgP; rw [if_pos h]; rfl
set_option maxHeartbeats 16000000 in
theorem image_any (w0 w : World) (R : Nat) (l : List Int) (h : Rd w0 w R l) : Calls Try.prog 38 #[.pointer (some ⟨R, 0, none⟩)] w (ImageE w0 w R (imgP l)) := by
  have hrd0 := fun o1 o2 => h.next ((h.below.alloc h.below.size o1).alloc (by have := h.below.size; simp; omega) o2) ((Below.heap_alloc _ _ _ (by have := h.lt; simp; omega)).trans (Below.heap_alloc _ _ _ h.lt))
  have hq := fun o1 o2 => take_any w0 ((w.alloc o1).alloc o2) R l 3 (hrd0 o1 o2) (by omega)
  have hb3 : Byts (l.take 3) := fun x hx => h.byts x (List.mem_of_mem_take hx)
  have HQ := Lib.hid hq; have HB3 := Lib.hid hb3; have HRL := Lib.hid h.lt; have HWB := Lib.hid h.below.size
  obtain ⟨j0, hj, hy0, hy1, hy2⟩ := info_parts Try.info2
  have Hj := Lib.hid hj; have Hy0 := Lib.hid hy0; have Hy1 := Lib.hid hy1; have Hy2 := Lib.hid hy2
  obtain ⟨i0, hi, hz0, hz1, hz2⟩ := info_parts Try.infoInsU
  have Hi := Lib.hid hi; have Hz0 := Lib.hid hz0; have Hz1 := Lib.hid hz1; have Hz2 := Lib.hid hz2
  obtain ⟨res, hres⟩ : ∃ res, imgP l = res := ⟨_, rfl⟩
  have HRES := Lib.hid hres
  rw [hres]
  clear hq hb3 hrd0 hj hy0 hy1 hy2 hi hz0 hz1 hz2 hres h
  by_cases h3 : 3 ≤ l.length
  case neg =>
    have hn : none = res := by
      rw [← HRES.out]
      exact (imgP_head (fun e => by have := congrArg List.length e; rw [List.length_take] at this; simp at this; omega)).symm
    subst hn
    go_enter Try.func38, Try.ntmps38
    go_wp2_with fail
    refine (HQ.out _ _).mono ?_
    rintro e w1 ⟨hk1, ht⟩
    rw [if_neg h3] at ht
    subst ht
    have HK1 := Lib.hid ((((KB.refl (fun g => g = R) w).alloc _).alloc _).trans hk1)
    clear hk1
    unfold badE
    go_wp2_with fail
    exact ⟨rfl, HK1.out, rfl⟩
  by_cases ht3 : l.take 3 = [87, 82, 1]
  case neg =>
    have hn : none = res := by rw [← HRES.out]; exact (imgP_head ht3).symm
    subst hn
    have hcmp : (!(strOf (l.take 3)).toList == [87, 82, 1]) = true := by rw [str_head HB3.out, decide_eq_false ht3]; rfl
    go_enter Try.func38, Try.ntmps38
    go_wp2_with fail
    refine (HQ.out _ _).mono ?_
    rintro e w1 ⟨hk1, ht⟩
    rw [if_pos h3] at ht
    obtain ⟨a, c, rfl, hc1, hc2, hi, hrd⟩ := ht
    have hcv := conv_str w1 a c (l.take 3) (fun i hi' => by obtain ⟨b, off, e, hc⟩ := hi i hi'; exact ⟨b, off, e, keepCellB hrd.below (Nat.le_refl _) hc⟩) HB3.out
    rw [show (l.take 3).length = 3 from by rw [List.length_take]; omega] at hcv
    have HK1 := Lib.hid ((((KB.refl (fun g => g = R) w).alloc _).alloc _).trans hk1)
    clear hk1 hi hrd
    go_wp2_with fail
    exact ⟨rfl, HK1.out, rfl⟩
  have hcmp : (!(strOf (l.take 3)).toList == [87, 82, 1]) = false := by rw [str_head HB3.out, decide_eq_true ht3]; rfl
  have hr1 := HRES.out
  rw [imgP_1 ht3] at hr1
  have HR1 := Lib.hid hr1
  clear HRES hr1 ht3
  go_enter Try.func38, Try.ntmps38
  go_wp2_with fail
  refine (HQ.out _ _).mono ?_
  rintro e w1 ⟨hk1, ht⟩
  rw [if_pos h3] at ht
  obtain ⟨a, c, rfl, hc1, hc2, hi, hrd⟩ := ht
  have hcv := conv_str w1 a c (l.take 3) (fun i hi' => by obtain ⟨b, off, e, hc⟩ := hi i hi'; exact ⟨b, off, e, keepCellB hrd.below (Nat.le_refl _) hc⟩) HB3.out
  rw [show (l.take 3).length = 3 from by rw [List.length_take]; omega] at hcv
  have hZ := hk1.block w.heap.size (by simp; omega) (fun e => by have := HRL.out; omega)
  have hM := hk1.block (w.heap.size + 1) (by simp) (fun e => by have := HRL.out; omega)
  rw [Below.heap_alloc _ _ _ (by simp), World.alloc_heap_new] at hZ
  have hM2 : w1.heap[w.heap.size + 1]? = some (.cells #[.slice none 0 0, .int .i64 0, .slice none 0 0, .slice none 0 0, .slice none 0 0] 26 (0, 0)) := hM.trans ((congrArg (fun n => ((w.alloc _).alloc _).heap[n]?) (by simp)).trans (World.alloc_heap_new _ _))
  have HIM := Lib.hid (ImIn.mk (w := w) (M := w.heap.size + 1) (Z := w.heap.size) hrd hM2 hZ ((((KB.refl (fun g => g = R) w).alloc _).alloc _).trans hk1) HWB.out (by omega) (Nat.le_refl _) (by omega))
  have hq1 := num_any w0 w1 R (l.drop 3) 6 hrd
  have hbd := fun n r' hh => @numP_back 6 n (l.drop 3) r' hrd.byts hh
  clear hk1 hi hrd hZ hM hM2 HQ
  obtain ⟨Z, hZ⟩ : ∃ Z, w.heap.size = Z := ⟨_, rfl⟩
  cases hn : numP 6 (l.drop 3) with
  | none =>
    rw [hn] at hq1
    have hr1 := HR1.out
    rw [hn] at hr1
    obtain rfl : none = res := hr1
    have HQ := Lib.hid hq1
    clear hq1 hn hbd HR1
    go_wp2_with fail
    refine HQ.out.mono ?_
    rintro e w2 ⟨hk2, rfl⟩
    have HK2 := Lib.hid (HIM.out.kb.trans hk2)
    clear hk2
    unfold badE
    go_wp2_with fail
    exact ⟨rfl, HK2.out, rfl⟩
  | some nr =>
    obtain ⟨n6, r3⟩ := nr
    rw [hn] at hq1
    have hr1 := HR1.out
    rw [hn] at hr1
    dsimp only at hr1
    obtain ⟨-, hn0, hn1⟩ := hbd n6 r3 hn
    obtain ⟨N, rfl⟩ : ∃ N : Nat, n6 = N := ⟨n6.toNat, by omega⟩
    rw [Int.toNat_natCast] at hr1
    obtain ⟨resD, hresD⟩ : ∃ resD, manyA (numP 65536) N [] r3 = resD := ⟨_, rfl⟩
    rw [hresD] at hr1
    have HQ := Lib.hid hq1; have HRD := Lib.hid hresD; have HR2 := Lib.hid hr1
    clear hq1 hn hbd hr1 HR1 hresD
    go_wp2_with fail
    refine HQ.out.mono ?_
    rintro e w2 ⟨hk2, rfl, hrd2⟩
    rw [hZ] at HIM
    have HIM2 := Lib.hid (HIM.out.next hk2 hrd2)
    have HZ := Lib.hid hZ
    clear hk2 hrd2 HQ HIM hZ
    go_wp2_with fail
    go_loopw [14] (fun i wx => ∃ (j : Nat) (vd : Value) (dims r : List Int), j ≤ N ∧ i = .int .i64 j ∧ dims.length = j ∧ manyA (numP 65536) (N - j) dims r = resD ∧ ImIn w0 w wx R (Z + 1) Z vd 0 (.slice none 0 0) (.slice none 0 0) (.slice none 0 0) r ∧ RowI w.heap.size wx vd dims) (fun i _ => N - (intOf i).toNat)
    case atStart => exact ⟨0, _, [], r3, by omega, rfl, rfl, HRD.out, HIM2.out, RowI.nil _ _⟩
    case round =>
      clear HRD HIM2
      obtain ⟨j, vd, dims, rx, hj, rfl, hjl, hmI, him, hrow⟩ := hrel
      by_cases hjlt : j < N
      · rw [manyA_step hjlt] at hmI
        have g1 := cell_of_row wr (Z + 1) 0 _ _ _ him.g
        have hq5 := num_any w0 wr.drew R rx 65536 (him.rd.next him.rd.below.drew rfl)
        have HIM := Lib.hid him; have HROW := Lib.hid hrow
        have hjI : (j : Int) < (N : Int) := by omega
        clear him hrow
        go_wp2_with fail
        refine wp_region_Z (S := fun W' => W'.cell? ⟨Z + 1, 0, none⟩ = some vd) (z := 7) (by kernel_rfl) ?_
        have hSS : (fun W' : World => W'.cell? ⟨Z + 1, 0, none⟩ = some vd) wr.drew := g1
        refine wpAnyZ_take (i := 0) (v := ?_) rfl (by kernel_rfl) (by kernel_rfl) (by kernel_rfl) (fun _ _ _ h => h) (by kernel_rfl) (Or.inl ⟨by rfl, ?_⟩) (by assumption) ?_
        rotate_left
        · intro w' hSw
          try dsimp only at hSw
          try obtain ⟨hSw, hSw2⟩ := hSw
          go_simp
          try with_reducible rfl
        show wpAnyZ _ _ _ _ _ _ _ _ (Act.put _ (some 16) _) _
        simp only [Act.put, List.setIfInBounds_toArray, List.set_cons_zero, List.set_cons_succ]
        refine wpAnyZ_take (i := 1) (v := ?_) rfl (by kernel_rfl) (by kernel_rfl) (by kernel_rfl) (fun _ _ _ h => h) (by kernel_rfl) (Or.inl ⟨by rfl, ?_⟩) (by assumption) ?_
        rotate_left
        · intro w' hSw
          try dsimp only at hSw
          try obtain ⟨hSw, hSw2⟩ := hSw
          go_simp
          try with_reducible rfl
        show wpAnyZ _ _ _ _ _ _ _ _ (Act.put _ (some 17) _) _
        simp only [Act.put, List.setIfInBounds_toArray, List.set_cons_zero, List.set_cons_succ]
        refine wpAnyZ_take (i := 2) (v := ?_) rfl (by kernel_rfl) (by kernel_rfl) (by kernel_rfl) (fun _ _ _ h => h) (by kernel_rfl) (Or.inl ⟨by rfl, ?_⟩) (by assumption) ?_
        rotate_left
        · intro w' hSw
          try dsimp only at hSw
          try obtain ⟨hSw, hSw2⟩ := hSw
          go_simp
          try with_reducible rfl
        show wpAnyZ _ _ _ _ _ _ _ _ (Act.put _ (some 18) _) _
        simp only [Act.put, List.setIfInBounds_toArray, List.set_cons_zero, List.set_cons_succ]
        clear hSS g1
        have hbp := fun n r' hh => @numP_back 65536 n rx r' HIM.out.rd.byts hh
        refine wpAnyZ_one (i := 3) (by kernel_rfl) rfl rfl (fun K hK => ?_)
        go_simp
        refine hq5.mono ?_
        cases hn : numP 65536 rx with
        | none =>
          rw [hn] at hmI
          obtain rfl : none = resD := hmI
          obtain rfl : none = res := HR2.out
          rintro e w5 ⟨hk5, rfl⟩
          exact ⟨rfl, HIM.out.kb.trans hk5.ofDrew, rfl⟩
        | some nr =>
          obtain ⟨x, r5⟩ := nr
          rw [hn] at hmI
          obtain ⟨-, hx0, hx1⟩ := hbp x r5 hn
          rintro e w5 ⟨hk5, rfl, hrd5⟩
          have HIM5 := Lib.hid (HIM.out.next hk5.ofDrew hrd5); have HROW5 := Lib.hid (own_keep HROW.out (HIM.out.rd.keepTy hk5.ofDrew (by decide)))
          clear hn hq5 hbp
          show K _ w5
          refine hK.out _ _ (.inr (cell_of_row w5 (Z + 1) 0 _ _ _ HIM5.out.g)) ?_
          clear hK hk5 hrd5 HIM HROW
          refine wpAnyZ_one (i := 4) (by kernel_rfl) rfl rfl (fun K hK => ?_)
          go_simp
          refine hK.out _ _ (.inr (keepCell ((Below.refl _ _).alloc (Nat.le_refl _) _) (cell_of_row w5 (Z + 1) 0 _ _ _ HIM5.out.g))) ?_
          clear hK
          refine wpAnyZ_one (i := 5) (by kernel_rfl) rfl rfl (fun K hK => ?_)
          have hst5 : w.heap.size ≤ w5.heap.size := HIM5.out.kb.size
          refine wp_append_src _ (.tmp 17) (.tmp 20) 22 rfl w.heap.size 2 j0 _ 1 8 Try.underlying22 Hj.out Hy0.out Hy1.out Hy2.out rfl (by decide) vd dims.length _ rfl (World.ownsRow.alloc HROW5.out _) _ 1 [.int .i64 x] rfl (src_lit1 _ _ _ _ _ _ rfl rfl) rfl (by intro u hu; cases List.mem_singleton.1 hu; rfl) (by unfold maxLen; omega) (by omega) (by simp; omega) ?_
          intro v6 w6 hown hgr hnw
          obtain ⟨a6, c6, rfl⟩ : ∃ a c, v6 = .slice a (j + 1) c := by
            rw [← hjl]
            obtain ⟨-, ⟨e, h0⟩ | ⟨g, cap, cur, e, _⟩⟩ := hown
            · omega
            · exact ⟨_, _, e⟩
          have hrow6 : RowI w.heap.size w6 (.slice a6 (j + 1) c6) (dims ++ [x]) := by
            unfold RowI
            rw [List.length_append, List.map_append]
            exact hown
          have HIM6 := Lib.hid (HIM5.out.grown (o := .cells #[.int .i64 x] 2) HROW5.out (by decide) (by decide) hgr)
          have HROW6 := Lib.hid hrow6
          refine hK.out _ _ (.inr (cell_of_row w6 (Z + 1) 0 _ _ _ HIM6.out.g)) ?_
          clear hK hown hgr hnw HIM5 HROW5 hrow6
          refine wpAnyZ_one (i := 6) (by kernel_rfl) rfl rfl (fun K hK => ?_)
          go_simp
          refine hK.out _ _ (.inr (cell_of_row w6 (Z + 1) 0 _ _ _ HIM6.out.g)) ?_
          clear hK
          refine wpAnyZ_one (i := 7) (by kernel_rfl) rfl rfl (fun K hK => ?_)
          have f1 := frozen_of_row w6 (Z + 1) 0 _ _ HIM6.out.g; have g1 := cell_of_row w6 (Z + 1) 0 _ _ _ HIM6.out.g
          go_simp
          refine hK.out _ _ (.inl (Nat.le_refl _)) ?_
          clear hK f1 g1
          refine wpAnyZ_done (by kernel_rfl) ?_ _
          go_wp2_with fail
          go_roundw
          case rel => exact ⟨j + 1, _, dims ++ [x], r5, by omega, by go_num, by simp [hjl], hmI, HIM6.out.put 0 _ rfl, own_keep HROW6.out (KeepTy.setCell (p := ⟨Z + 1, 0, none⟩) (HIM6.out.tyM (by decide)) _)⟩
          case measure => simp [intOf] <;> omega
      · obtain rfl : j = N := by omega
        rw [Nat.sub_self] at hmI
        obtain rfl : some (dims, rx) = resD := hmI
        have hr2 : imgP2 dims rx = res := HR2.out
        have HR3 := Lib.hid hr2; have HIM := Lib.hid him; have HROW := Lib.hid hrow
        have hq1 := num_any w0 wr R rx 2097152 him.rd
        have hbd := fun n r' hh => @numP_back 2097152 n rx r' him.rd.byts hh
        clear him hrow hr2 HR2
        cases hn : numP 2097152 rx with
        | none =>
          rw [hn] at hq1
          have hr3 := HR3.out
          unfold imgP2 at hr3
          rw [hn] at hr3
          obtain rfl : none = res := hr3
          have HQ := Lib.hid hq1
          clear hq1 hn hbd HR3
          go_wp2_with fail
          refine HQ.out.mono ?_
          rintro e w5 ⟨hk5, rfl⟩
          have HK5 := Lib.hid (HIM.out.kb.trans hk5)
          clear hk5
          unfold badE
          go_wp2_with fail
          exact ⟨rfl, HK5.out, rfl⟩
        | some nr =>
          obtain ⟨mem, r5⟩ := nr
          rw [hn] at hq1
          have hr3 := HR3.out
          unfold imgP2 at hr3
          rw [hn] at hr3
          dsimp only at hr3
          obtain ⟨-, hm0, hm1⟩ := hbd mem r5 hn
          have HQ := Lib.hid hq1; have HR4 := Lib.hid hr3
          clear hq1 hn hbd HR3 hr3
          go_wp2_with fail
          refine HQ.out.mono ?_
          rintro e w5 ⟨hk5, rfl, hrd5⟩
          have him5 := HIM.out.next hk5 hrd5
          have hrow5 := own_keep HROW.out (HIM.out.rd.keepTy hk5 (by decide))
          have g1 := cell_of_row w5 (Z + 1) 1 _ _ _ him5.g
          have f1 := frozen_of_row w5 (Z + 1) 1 _ _ him5.g
          have him6 := him5.put 1 (.int .i64 mem) rfl
          have HIM6 := Lib.hid him6; have HROW6 := Lib.hid (own_keep hrow5 (KeepTy.setCell (p := ⟨Z + 1, 1, none⟩) (him5.tyM (by decide)) (.int .i64 mem)))
          have hq6 := rdslots_any w0 _ R r5 him6.rd
          clear hk5 hrd5 him5 hrow5 him6 HQ HIM HROW
          cases hn : slotsP 64 r5 with
          | none =>
            rw [hn] at hq6
            have hr4 := HR4.out
            rw [hn] at hr4
            obtain rfl : none = res := hr4
            have HQ := Lib.hid hq6
            clear hq6 hn HR4
            go_wp2_with fail
            refine HQ.out.mono ?_
            rintro e w6 ⟨hk6, rfl⟩
            have HK6 := Lib.hid (HIM6.out.kb.trans hk6)
            clear hk6
            unfold badE
            go_wp2_with fail
            exact ⟨rfl, HK6.out, rfl⟩
          | some nr =>
            obtain ⟨ins, r6⟩ := nr
            rw [hn] at hq6
            have hr4 := HR4.out
            rw [hn] at hr4
            dsimp only at hr4
            have HQ := Lib.hid hq6; have HR5 := Lib.hid hr4
            clear hq6 hn HR4 hr4
            go_wp2_with fail
            refine HQ.out.mono ?_
            rintro e w6 ⟨hk6, ⟨vi, rfl, hvi, hil⟩, hrd6⟩
            have hsz6 := HIM6.out.kb.size
            have HIM7 := Lib.hid (HIM6.out.next hk6 hrd6); have HROW7 := Lib.hid (own_keep HROW6.out (HIM6.out.rd.keepTy hk6 (by decide))); have HVI7 := Lib.hid (OwnSl.mono hvi hsz6)
            obtain ⟨ia, ic, rfl⟩ : ∃ a c, vi = .slice a ins.length c := by obtain ⟨a, c, e, _⟩ := hvi.sl; exact ⟨a, c, e⟩
            have hq7 := rdslots_any w0 w6 R r6 hrd6
            clear hk6 hvi hrd6 HQ HIM6 HROW6 g1 f1
            cases hn : slotsP 64 r6 with
            | none =>
              rw [hn] at hq7
              have hr5 := HR5.out
              rw [hn] at hr5
              obtain rfl : none = res := hr5
              have HQ := Lib.hid hq7
              clear hq7 hn HR5
              go_wp2_with fail
              refine HQ.out.mono ?_
              rintro e w7 ⟨hk7, rfl⟩
              have HK7 := Lib.hid (HIM7.out.kb.trans hk7)
              clear hk7
              unfold badE
              go_wp2_with fail
              exact ⟨rfl, HK7.out, rfl⟩
            | some nr =>
              obtain ⟨outs, r7⟩ := nr
              rw [hn] at hq7
              have hr5 := HR5.out
              rw [hn] at hr5
              dsimp only at hr5
              have HQ := Lib.hid hq7; have HR6 := Lib.hid hr5
              clear hq7 hn HR5 hr5
              go_wp2_with fail
              refine HQ.out.mono ?_
              rintro e w7 ⟨hk7, ⟨vo, rfl, hvo, hol⟩, hrd7⟩
              have hsz7 := HIM7.out.kb.size
              obtain ⟨oa, oc, rfl⟩ : ∃ a c, vo = .slice a outs.length c := by obtain ⟨a, c, e, _⟩ := hvo.sl; exact ⟨a, c, e⟩
              have him7 := HIM7.out.next hk7 hrd7
              have hrow7 := own_keep HROW7.out (HIM7.out.rd.keepTy hk7 (by decide))
              have hvi7 := OwnSl.keep HVI7.out (HIM7.out.rd.keepTy hk7 (by decide)) (HIM7.out.rd.keepTy hk7 (by decide))
              have hvo7 := OwnSl.mono hvo hsz7
              have g2 := cell_of_row w7 (Z + 1) 2 _ _ _ him7.g; have g3 := cell_of_row w7 (Z + 1) 3 _ _ _ him7.g
              have f2 := frozen_of_row w7 (Z + 1) 2 _ _ him7.g; have f3 := frozen_of_row w7 (Z + 1) 3 _ _ him7.g
              have hk8 : ∀ {t : TypeId}, 26 ≠ t → KeepTy t w7 ((w7.setCell ⟨Z + 1, 2, none⟩ (.slice ia ins.length ic)).setCell ⟨Z + 1, 3, none⟩ (.slice oa outs.length oc)) := fun hne =>
                (KeepTy.setCell (p := ⟨Z + 1, 2, none⟩) (him7.tyM hne) _).trans (KeepTy.setCell (p := ⟨Z + 1, 3, none⟩) ((him7.put 2 (.slice ia ins.length ic) rfl).tyM hne) _)
              have him8 := (him7.put 2 (.slice ia ins.length ic) rfl).put 3 (.slice oa outs.length oc) rfl
              have HIM8 := Lib.hid him8; have HROW8 := Lib.hid (own_keep hrow7 (hk8 (by decide))); have HVI8 := Lib.hid (OwnSl.keep hvi7 (hk8 (by decide)) (hk8 (by decide))); have HVO8 := Lib.hid (OwnSl.keep hvo7 (hk8 (by decide)) (hk8 (by decide)))
              have hq8 := num_any w0 _ R r7 32768 him8.rd
              have hbd := fun n r' hh => @numP_back 32768 n r7 r' him8.rd.byts hh
              clear hk7 hvo hrd7 HQ HIM7 HROW7 HVI7 him7 hrow7 hvi7 hvo7 hk8 him8
              cases hn : numP 32768 r7 with
              | none =>
                rw [hn] at hq8
                have hr6 := HR6.out
                rw [hn] at hr6
                obtain rfl : none = res := hr6
                have HQ := Lib.hid hq8
                clear hq8 hn HR6 hbd
                go_wp2_with fail
                refine HQ.out.mono ?_
                rintro e w8 ⟨hk8, rfl⟩
                have HK8 := Lib.hid (HIM8.out.kb.trans hk8)
                clear hk8
                unfold badE
                go_wp2_with fail
                exact ⟨rfl, HK8.out, rfl⟩
              | some nr =>
                obtain ⟨kc, r8⟩ := nr
                rw [hn] at hq8
                have hr6 := HR6.out
                rw [hn] at hr6
                dsimp only at hr6
                obtain ⟨-, hk0, hk1⟩ := hbd kc r8 hn
                obtain ⟨K, rfl⟩ : ∃ K : Nat, kc = K := ⟨kc.toNat, by omega⟩
                rw [Int.toNat_natCast] at hr6
                obtain ⟨resC, hresC⟩ : ∃ resC, manyA insP K [] r8 = resC := ⟨_, rfl⟩
                rw [hresC] at hr6
                have HQ := Lib.hid hq8; have HRC := Lib.hid hresC; have HR7 := Lib.hid hr6
                clear hq8 hn hbd hr6 HR6 hresC
                go_wp2_with fail
                refine HQ.out.mono ?_
                rintro e w8 ⟨hk8, rfl, hrd8⟩
                have ht : ∀ {t : TypeId}, 66 ≠ t → KeepTy t _ w8 := fun hne => HIM8.out.rd.keepTy hk8 hne
                have HIM9 := Lib.hid (HIM8.out.next hk8 hrd8); have HROW9 := Lib.hid (own_keep HROW8.out (ht (by decide))); have HVI9 := Lib.hid (OwnSl.keep HVI8.out (ht (by decide)) (ht (by decide))); have HVO9 := Lib.hid (OwnSl.keep HVO8.out (ht (by decide)) (ht (by decide)))
                clear hk8 hrd8 HQ HIM8 HROW8 HVI8 HVO8 ht g2 g3 f2 f3
                go_wp2_with fail
                go_loopw [35] (fun i wx => ∃ (k : Nat) (vc : Value) (code : List Ins) (r : List Int), k ≤ K ∧ i = .int .i64 k ∧ code.length = k ∧ manyA insP (K - k) code r = resC ∧ ImIn w0 w wx R (Z + 1) Z vd mem (.slice ia ins.length ic) (.slice oa outs.length oc) vc r ∧ RowI w.heap.size wx vd dims ∧
                  OwnSl w.heap.size wx (.slice ia ins.length ic) ins ∧ OwnSl w.heap.size wx (.slice oa outs.length oc) outs ∧ wx.ownsRow w.heap.size 43 5 vc k (code.flatMap Ins.enc) ∧ (∀ i ∈ code, i.wf)) (fun i _ => K - (intOf i).toNat)
                case atStart => exact ⟨0, _, [], r8, by omega, rfl, rfl, HRC.out, HIM9.out, HROW9.out, HVI9.out, HVO9.out, World.ownsRow_nil _ _ _ _, by simp⟩
                case round =>
                  clear HRC HIM9 HROW9 HVI9 HVO9
                  obtain ⟨k, vc, code, rc, hk, rfl, hkl, hmC, him, hrow, hvi, hvo, hvc, hwf⟩ := hrel
                  by_cases hklt : k < K
                  · rw [manyA_step hklt] at hmC
                    have hqt := take_any w0 wr R rc 8 him.rd (by omega)
                    have hbr := him.rd.byts
                    have HIM := Lib.hid him; have HROW := Lib.hid hrow; have HVI := Lib.hid hvi; have HVO := Lib.hid hvo; have HVC := Lib.hid hvc; have HWF := Lib.hid hwf; have HQ := Lib.hid hqt
                    have hkI : (k : Int) < (K : Int) := by omega
                    clear him hrow hvi hvo hvc hwf hqt
                    by_cases h8 : 8 ≤ rc.length
                    · go_wp2_with fail
                      refine HQ.out.mono ?_
                      rintro e wA ⟨hkA, ht⟩
                      rw [if_pos h8] at ht
                      obtain ⟨ta, tc, rfl, -, -, hti, hrdA⟩ := ht
                      have hb8 : Byts (rc.take 8) := fun x hx => hbr x (List.mem_of_mem_take hx)
                      have hl8 : (rc.take 8).length = 8 := by rw [List.length_take]; omega
                      have hwh := whole_any wA ta tc (rc.take 8) (fun i hi' => by obtain ⟨b, off, e, hc⟩ := hti i hi'; exact ⟨b, off, e, keepCellB hrdA.below (Nat.le_refl _) hc⟩) hb8 (by omega)
                      have hwl := (wholeB_run hb8 (by omega)).2
                      have hde := dec_any wA (wholeB (rc.take 8)) hwl
                      have hip : insP rc = if (decI (wholeB (rc.take 8))).right then some (decI (wholeB (rc.take 8)), rc.drop 8) else none := by unfold insP; rw [if_neg (by omega)]
                      have hiw := decI_wf (wholeB (rc.take 8))
                      rw [hip] at hmC
                      rw [hl8] at hwh ⊢
                      generalize wholeB (rc.take 8) = W8 at hwh hwl hde hmC hiw
                      generalize decI W8 = ii at hde hmC hiw
                      have HWH := Lib.hid hwh; have HDE := Lib.hid hde; have HMC := Lib.hid hmC; have HIW := Lib.hid hiw
                      have htA : ∀ {t : TypeId}, 66 ≠ t → KeepTy t wr wA := fun hne => HIM.out.rd.keepTy hkA hne
                      have HIMA := Lib.hid (HIM.out.next hkA hrdA); have HROWA := Lib.hid (own_keep HROW.out (htA (by decide))); have HVIA := Lib.hid (OwnSl.keep HVI.out (htA (by decide)) (htA (by decide))); have HVOA := Lib.hid (OwnSl.keep HVO.out (htA (by decide)) (htA (by decide))); have HVCA := Lib.hid (own_keep HVC.out (htA (by decide)))
                      clear hkA hti hrdA hb8 hl8 hwh hde hmC hip hiw htA HQ HIM HROW HVI HVO HVC hbr
                      go_wp2_with fail
                      refine HWH.out.mono ?_
                      rintro e wA ⟨rfl, rfl⟩
                      go_wp2_with fail
                      refine HDE.out.mono ?_
                      rintro e wB ⟨rfl, hbB⟩
                      clear HWH HDE
                      have hkB : KB (fun g => g = R) wA wB := KB.of_below hbB (fun g h1 h2 => by omega)
                      have hrB : wB.heap[R]? = wA.heap[R]? := hbB.block R HIMA.out.rd.lt
                      have hrdB := HIMA.out.rd.next (HIMA.out.rd.below.trans (hbB.mono HIMA.out.rd.below.size)) hrB
                      have HIMB := Lib.hid (HIMA.out.next hkB hrdB); have HROWB := Lib.hid (own_below HROWA.out hbB); have HVIB := Lib.hid (OwnSl.keep HVIA.out (KeepTy.below hbB) (KeepTy.below hbB)); have HVOB := Lib.hid (OwnSl.keep HVOA.out (KeepTy.below hbB) (KeepTy.below hbB)); have HVCB := Lib.hid (own_below HVCA.out hbB)
                      unfold DecE
                      clear hbB hkB hrB hrdB HIMA HROWA HVIA HVOA HVCA
                      cases hir : ii.right with
                      | false =>
                        have hmc := HMC.out
                        rw [hir] at hmc
                        obtain rfl : none = resC := hmc
                        obtain rfl : none = res := HR7.out
                        clear HMC
                        go_wp2_with fail
                        exact ⟨rfl, HIMB.out.kb.alloc _, rfl⟩
                      | true =>
                        have hmc := HMC.out
                        rw [hir] at hmc
                        have hmc : manyA insP (K - (k + 1)) (code ++ [ii]) (rc.drop 8) = resC := hmc
                        have HMC2 := Lib.hid hmc
                        have hszB := HIMB.out.kb.size
                        have g4 := cell_of_row wB (Z + 1) 4 _ _ _ HIMB.out.g
                        have hZl : Z + 1 < wB.heap.size := World.block_lt_of_cell? _ _ g4
                        clear HMC hmc hir
                        go_wp2_with (at_builtin; (refine wpList_append_src _ rfl _ _ 24 rfl w.heap.size 43 i0 _ 5 8 Try.underlying24 Hi.out Hz0.out Hz1.out Hz2.out rfl (by decide) vc k (code.flatMap Ins.enc) rfl (World.ownsRow.alloc (World.ownsRow.alloc HVCB.out _) _) _ 1 ii.enc rfl (src_lit1 _ _ _ _ _ _ (by simp) rfl) rfl ?h1 (by unfold maxLen; omega) (by omega) (by simp; omega) ?_))
                        case h1 => intro u hu; simp [Ins.enc] at hu; rcases hu with rfl | rfl | rfl | rfl | rfl <;> rfl
                        intro vE wE hown hgr hnw
                        obtain ⟨ea, ec, rfl⟩ : ∃ a c, vE = .slice a (k + 1) c := by
                          obtain ⟨-, ⟨e, h0⟩ | ⟨g, cap, cur, e, _⟩⟩ := hown
                          · omega
                          · exact ⟨_, _, e⟩
                        have himB2 := HIMB.out.alloc (.cells #[.int .u8 ii.op, .int .u8 ii.a, .int .u8 ii.b, .int .u8 ii.c, .int .i32 ii.imm] 43)
                        have himE := himB2.grown (World.ownsRow.alloc HVCB.out _) (by decide) (by decide) hgr
                        have hvcT := fun g (e : vc.ownBlock = some g) => own_typed (World.ownsRow.alloc (World.ownsRow.alloc HVCB.out (.cells #[.int .u8 ii.op, .int .u8 ii.a, .int .u8 ii.b, .int .u8 ii.c, .int .i32 ii.imm] 43)) (.cells #[.int .u8 ii.op, .int .u8 ii.a, .int .u8 ii.b, .int .u8 ii.c, .int .i32 ii.imm] 43)) e
                        have htE : ∀ {t : TypeId}, 43 ≠ t → KeepTy t wB wE := fun hne => ((KeepTy.below ((Below.refl _ _).alloc (Nat.le_refl _) _)).trans (KeepTy.below ((Below.refl _ _).alloc (Nat.le_refl _) _))).trans (KeepTy.grown hgr fun g e => by
                          obtain ⟨cur, hc⟩ := hvcT g e
                          exact NotTy.of hc hne)
                        have h4 := cell_of_row wE (Z + 1) 4 _ _ _ himE.g
                        have h4f := frozen_of_row wE (Z + 1) 4 _ _ himE.g
                        have hvcE : wE.ownsRow w.heap.size 43 5 (.slice ea (k + 1) ec) (k + 1) ((code ++ [ii]).flatMap Ins.enc) := by
                          rw [List.flatMap_append]
                          simpa using hown
                        have hput : ∀ {t : TypeId}, 26 ≠ t → KeepTy t wE (wE.setCell ⟨Z + 1, 4, none⟩ (.slice ea (k + 1) ec)) := fun hne => KeepTy.setCell (p := ⟨Z + 1, 4, none⟩) (himE.tyM hne) _
                        have HIMF := Lib.hid (himE.put 4 (.slice ea (k + 1) ec) rfl); have HROWF := Lib.hid (own_keep (own_keep HROWB.out (htE (by decide))) (hput (by decide))); have HVIF := Lib.hid ((OwnSl.keep HVIB.out (htE (by decide)) (htE (by decide))).keep (hput (by decide)) (hput (by decide))); have HVOF := Lib.hid ((OwnSl.keep HVOB.out (htE (by decide)) (htE (by decide))).keep (hput (by decide)) (hput (by decide))); have HVCF := Lib.hid (own_keep hvcE (hput (by decide)))
                        clear hown hgr hnw himB2 himE hvcT htE hvcE hput HIMB HROWB HVIB HVOB HVCB g4
                        go_wp2_with fail
                        go_roundw
                        case rel => exact ⟨k + 1, _, code ++ [ii], rc.drop 8, by omega, by go_num, by simp [hkl], HMC2.out, HIMF.out, HROWF.out, HVIF.out, HVOF.out, HVCF.out, fun i hi => by
                          rcases List.mem_append.1 hi with h | h
                          · exact HWF.out i h
                          · rw [List.mem_singleton.1 h]; exact HIW.out⟩
                        case measure => simp [intOf] <;> omega
                    · have hip : insP rc = none := by unfold insP; rw [if_pos (by omega)]
                      rw [hip] at hmC
                      obtain rfl : none = resC := hmC
                      obtain rfl : none = res := HR7.out
                      go_wp2_with fail
                      refine HQ.out.mono ?_
                      rintro e wA ⟨hkA, ht⟩
                      rw [if_neg h8] at ht
                      subst ht
                      have HKA := Lib.hid (HIM.out.kb.trans hkA)
                      clear hkA
                      unfold badE
                      go_wp2_with fail
                      exact ⟨rfl, HKA.out, rfl⟩
                  · obtain rfl : k = K := by omega
                    rw [Nat.sub_self] at hmC
                    obtain rfl : some (code, rc) = resC := hmC
                    obtain rfl : some (⟨dims, mem, ins, outs, code⟩, rc) = res := HR7.out
                    have HIM := Lib.hid him; have HROW := Lib.hid hrow; have HVI := Lib.hid hvi; have HVO := Lib.hid hvo; have HVC := Lib.hid hvc; have HWF := Lib.hid hwf
                    clear him hrow hvi hvo hvc hwf HR7
                    have hone : (#[vd, .int .i64 mem, .slice ia ins.length ic, .slice oa outs.length oc, vc] : Array Value).toList.all (fun v => v.oneCell') = true := by
                      show (vd.oneCell' && (true && (true && (true && (vc.oneCell' && true))))) = true
                      rw [own_cell1 HROW.out, own_cell1 HVC.out]
                      rfl
                    go_wp2_with (first | ((with_reducible show wpList _ _ _ ({ dst := some _, op := Op.load 26 (.tmp 3), type := _, pos := _, after := _, guard := _ } :: _) _ _); (refine wpList_loadW (by rfl) 26 _ rfl (Z + 1) rfl _ _ (0, 0) _ HIM.out.g Try.underlying26 rfl (by kernel_rfl) ?_)) | ((with_reducible show wpList _ _ _ ({ dst := none, op := Op.store 26 (.tmp 2) (.tmp _), type := _, pos := _, after := _, guard := _ } :: _) _ _); (refine wpList_storeW rfl 26 _ _ rfl Z rfl _ _ rfl _ HIM.out.z (by kernel_rfl) (by rfl) hone ?_); intro w9 hr9 hg9))
                    refine bodyPost_ret (v := .agg #[vd, .int .i64 mem, .slice ia ins.length ic, .slice oa outs.length oc, vc]) (results_im rfl _ _ Z 26 _ (0, 0) rfl hr9 rfl) rfl ?_
                    have hkb9 : KB (fun g => g = R) w w9 := HIM.out.kb.grown hg9 (fun g e hg => by cases e; have := HIM.out.gz; omega)
                    have ht9 : ∀ {t : TypeId}, 26 ≠ t → KeepTy t wr w9 := fun hne => KeepTy.grown hg9 fun g e => by cases e; exact NotTy.of HIM.out.z hne
                    have hrd9 : Rd w0 w9 R rc := HIM.out.rd.next (HIM.out.rd.below.grown hg9 HIM.out.rd.below.size (fun g e => by cases e; have := HIM.out.base; have := HIM.out.gz; omega)) (hg9.block R HIM.out.rd.lt (fun e => HIM.out.rz (by injection e)))
                    refine ⟨hkb9, ⟨_, _, _, _, rfl, ⟨own_keep HROW.out (ht9 (by decide)), HVI.out.keep (ht9 (by decide)) (ht9 (by decide)), HVO.out.keep (ht9 (by decide)) (ht9 (by decide)), ?_⟩, by dsimp only; omega, hil, hol, by dsimp only; omega, HWF.out, by unfold I64; dsimp only; omega⟩, hrd9⟩
                    dsimp only
                    rw [hkl]
                    exact own_keep HVC.out (ht9 (by decide))
end Go.Proofs.Ytiogopichcnihaa
