import Derived.Test.YtiogopichcnihaaJO
import Derived.Deep.DeepCutAuto
import Derived.Deep.CutBlock
namespace Go.Proofs.Ytiogopichcnihaa
set_option maxRecDepth 100000
open Go.RowKit
set_option linter.unusedVariables false
set_option linter.unusedSimpArgs false

/-! windrowref20.Read. -/
theorem readB_head {l : List Int} (h : l.headD 0 ≠ 87 ∨ l.tail.headD 0 ≠ 82 ∨ l.tail.tail.headD 0 ≠ 1) : readB l = none := by
  refine readB_none (imgP_head fun e => ?_)
  rcases l with _ | ⟨x, _ | ⟨y, _ | ⟨z, l⟩⟩⟩
  · cases e
  · cases e
  · cases e
  · simp only [List.take_succ_cons, List.take_zero, List.cons.injEq, and_true] at e
    obtain ⟨rfl, rfl, rfl⟩ := e
    simp at h
theorem head_three {l : List Int} (h1 : l.headD 0 = 87) (h2 : l.tail.headD 0 = 82) (h3 : l.tail.tail.headD 0 = 1) : ∃ r, l = 87 :: 82 :: 1 :: r := by
  rcases l with _ | ⟨x, _ | ⟨y, _ | ⟨z, l⟩⟩⟩
  · cases h1
  · cases h2
  · cases h3
  · simp at h1 h2 h3
    subst h1 h2 h3
    exact ⟨l, rfl⟩
theorem readE_bad {w w' : World} {l : List Int} (h : readB l = none) (hb : Below w.heap.size w w') : ReadE w (readB l) (.returned (.tuple #[.agg #[.slice none 0 0, .int .i64 0, .slice none 0 0, .slice none 0 0, .slice none 0 0], .int .i64 191])) w' := by
  rw [h]
  exact ⟨_, _, _, _, rfl, ImgOwn.zero _ _, (by intro i hi; cases hi), (by show I64 0; unfold I64; omega), hb⟩
set_option maxHeartbeats 16000000 in
theorem rread_any (w : World) (a : Option Addr) (c : Nat) (l : List Int) (hi : IntsAt .u8 w a l) (hc : l.length ≤ c) (hc2 : c ≤ maxLen) (hb : Byts l) :
    Calls Try.prog 15 #[.slice a l.length c] w (ReadE w (readB l)) := by
  have hc3 : c ≤ 9223372036854775807 := hc2
  obtain ⟨j0, hj, hy0, hy1, hy2⟩ := info_parts Try.info2
  have Hj := Lib.hid hj; have Hy0 := Lib.hid hy0; have Hy1 := Lib.hid hy1; have Hy2 := Lib.hid hy2
  obtain ⟨i0, hi0, hz0, hz1, hz2⟩ := info_parts Try.infoInsU
  have Hi := Lib.hid hi0; have Hz0 := Lib.hid hz0; have Hz1 := Lib.hid hz1; have Hz2 := Lib.hid hz2
  clear hj hy0 hy1 hy2 hi0 hz0 hz1 hz2
  obtain ⟨Z, hZ⟩ : ∃ Z, w.heap.size = Z := ⟨_, rfl⟩
  have hrd : Rr w ((w.alloc (.cells #[.slice none 0 0, .int .i64 0, .slice none 0 0, .slice none 0 0, .slice none 0 0] 26)).alloc (.cells #[.slice a l.length c, .bool false] 71)) (Z + 1) l false :=
    ⟨((Below.refl _ _).alloc (Nat.le_refl _) _).alloc (by simp) _, by omega, ⟨a, c, (congrArg (fun n => ((w.alloc _).alloc _).heap[n]?) (by simp [← hZ])).trans (World.alloc_heap_new _ _), hc, hc2, hi⟩, hb⟩
  have hz0 : ((w.alloc (.cells #[.slice none 0 0, .int .i64 0, .slice none 0 0, .slice none 0 0, .slice none 0 0] 26)).alloc (.cells #[.slice a l.length c, .bool false] 71)).heap[Z]? = some (.cells #[.slice none 0 0, .int .i64 0, .slice none 0 0, .slice none 0 0, .slice none 0 0] 26 (0, 0)) :=
    block_alloc (hZ ▸ World.alloc_heap_new _ _) _
  have hq := byte_any w _ (Z + 1) l false hrd
  have HQ := Lib.hid hq; have HRD := Lib.hid hrd; have HZ0 := Lib.hid hz0; have HI := Lib.hid hi; have HBY := Lib.hid hb; have HC2 := Lib.hid hc2
  clear hq hrd hz0 hi hb hc2
  go_enter Try.func15, Try.ntmps15
  go_wp2_with fail
  refine HQ.out.mono ?_
  rintro e w1 ⟨hk1, x1, rfl, hx1, he1, hrd1⟩
  have HZ1 := Lib.hid ((hk1.block Z (by simp; omega) (by omega)).trans HZ0.out)
  have HR1 := Lib.hid hrd1; have HE1 := Lib.hid he1
  clear hk1 hrd1 he1 HQ HZ0 HRD
  by_cases hx87 : x1 = 87
  case neg =>
    have hne : (!((x1 : Int) == 87)) = true := by simp; omega
    have hn := Lib.hid (readB_head (l := l) (.inl (by rw [← HE1.out]; omega)))
    go_wp2_with ((with_reducible show wpList _ _ _ ({ dst := none, op := Op.store 26 (.tmp 2) (.tmp _), type := _, pos := _, after := _, guard := _ } :: _) _ _); (refine wpList_storeW rfl 26 _ _ rfl Z rfl _ _ rfl _ HZ1.out (by kernel_rfl) (by rfl) (by rfl) ?_); intro w9 hr9 hg9)
    refine bodyPost_ret (v := .tuple #[.agg #[.slice none 0 0, .int .i64 0, .slice none 0 0, .slice none 0 0, .slice none 0 0], .int .i64 191]) (results_ri rfl _ _ Z _ _ rfl rfl hr9 rfl) rfl ?_
    exact readE_bad hn.out (Below.grown HR1.out.below hg9 (Below.size HR1.out.below) (fun g e => by cases e; exact Nat.le_of_eq hZ))
  subst hx87
  have hq := byte_any w _ (Z + 1) l.tail _ HR1.out
  have HQ := Lib.hid hq
  clear hq
  go_wp2_with fail
  refine HQ.out.mono ?_
  rintro e w2 ⟨hk2, x2, rfl, hx2, he2, hrd2⟩
  have HZ2 := Lib.hid ((hk2.block Z (World.block_lt_of_cell? _ _ (cell_of_row w1 Z 0 _ _ _ HZ1.out)) (by omega)).trans HZ1.out)
  have HR2 := Lib.hid hrd2; have HE2 := Lib.hid he2
  clear hk2 hrd2 he2 HQ HZ1 HR1
  by_cases hx82 : x2 = 82
  case neg =>
    have hne : (!((x2 : Int) == 82)) = true := by simp; omega
    have hn := Lib.hid (readB_head (l := l) (.inr (.inl (by rw [← HE2.out]; omega))))
    go_wp2_with ((with_reducible show wpList _ _ _ ({ dst := none, op := Op.store 26 (.tmp 2) (.tmp _), type := _, pos := _, after := _, guard := _ } :: _) _ _); (refine wpList_storeW rfl 26 _ _ rfl Z rfl _ _ rfl _ HZ2.out (by kernel_rfl) (by rfl) (by rfl) ?_); intro w9 hr9 hg9)
    refine bodyPost_ret (v := .tuple #[.agg #[.slice none 0 0, .int .i64 0, .slice none 0 0, .slice none 0 0, .slice none 0 0], .int .i64 191]) (results_ri rfl _ _ Z _ _ rfl rfl hr9 rfl) rfl ?_
    exact readE_bad hn.out (Below.grown HR2.out.below hg9 (Below.size HR2.out.below) (fun g e => by cases e; exact Nat.le_of_eq hZ))
  subst hx82
  have hq := byte_any w _ (Z + 1) l.tail.tail _ HR2.out
  have HQ := Lib.hid hq
  clear hq
  go_wp2_with fail
  refine HQ.out.mono ?_
  rintro e w3 ⟨hk3, x3, rfl, hx3, he3, hrd3⟩
  have HZ3 := Lib.hid ((hk3.block Z (World.block_lt_of_cell? _ _ (cell_of_row w2 Z 0 _ _ _ HZ2.out)) (by omega)).trans HZ2.out)
  have HR3 := Lib.hid hrd3; have HE3 := Lib.hid he3
  clear hk3 hrd3 he3 HQ HZ2 HR2
  by_cases hx1' : x3 = 1
  case neg =>
    have hne : (!((x3 : Int) == 1)) = true := by simp; omega
    have hn := Lib.hid (readB_head (l := l) (.inr (.inr (by rw [← HE3.out]; omega))))
    go_wp2_with ((with_reducible show wpList _ _ _ ({ dst := none, op := Op.store 26 (.tmp 2) (.tmp _), type := _, pos := _, after := _, guard := _ } :: _) _ _); (refine wpList_storeW rfl 26 _ _ rfl Z rfl _ _ rfl _ HZ3.out (by kernel_rfl) (by rfl) (by rfl) ?_); intro w9 hr9 hg9)
    refine bodyPost_ret (v := .tuple #[.agg #[.slice none 0 0, .int .i64 0, .slice none 0 0, .slice none 0 0, .slice none 0 0], .int .i64 191]) (results_ri rfl _ _ Z _ _ rfl rfl hr9 rfl) rfl ?_
    exact readE_bad hn.out (Below.grown HR3.out.below hg9 (Below.size HR3.out.below) (fun g e => by cases e; exact Nat.le_of_eq hZ))
  subst hx1'
  obtain ⟨l3, hl3⟩ := head_three HE1.out.symm HE2.out.symm HE3.out.symm
  have hrd3 := HR3.out
  rw [hl3] at hrd3
  have hrd3 : Rr w w3 (Z + 1) l3 false := hrd3
  have y1 := hrd3.c1
  have hlt3 := hrd3.lt
  have hZ3 : Z < w3.heap.size := by omega
  obtain ⟨P, hP⟩ : ∃ P, imgP l = P := ⟨_, rfl⟩
  have hpe : (match numP 6 l3 with | none => none | some (n, r) => imgC1 (manyA (numP 65536) n.toNat [] r)) = P := by rw [← hP, hl3, imgP_eq]; rfl
  have HL3 := Lib.hid hl3; have HP := Lib.hid hP; have HPE := Lib.hid hpe
  obtain ⟨M, hM⟩ : ∃ g, w3.heap.size = g := ⟨_, rfl⟩
  have him : RIm w (w3.alloc (.cells #[.slice none 0 0, .int .i64 0, .slice none 0 0, .slice none 0 0, .slice none 0 0] 26)) (Z + 1) M Z (.slice none 0 0) 0 (.slice none 0 0) (.slice none 0 0) (.slice none 0 0) l3 false :=
    ⟨hrd3.next (hrd3.below.alloc hrd3.below.size _) (Below.heap_alloc _ _ _ hrd3.lt), hM ▸ World.alloc_heap_new _ _, block_alloc HZ3.out _, by omega, by omega, by omega⟩
  have hq := numr_any w _ (Z + 1) l3 false 6 him.rd
  have HQ := Lib.hid hq; have HIM := Lib.hid him
  clear hq him hrd3 hpe hP hl3 HR3 HZ3 HE1 HE2 HE3
  go_wp2_with fail
  refine HQ.out.mono ?_
  rintro e w4 ⟨hk4, N, r4, b4, rfl, hN, hrd4, hs4, hn4, hbb4⟩
  have hst := num_stage (b := false) (P := P) (fun n r => imgC1 (manyA (numP 65536) n.toNat [] r)) HIM.out.rd.byts ⟨fun _ => HPE.out, fun e => by cases e⟩ hs4 hn4 hbb4
  have hst2 : Stg b4 (N ≤ 6 ∧ imgC1 (manyA (numP 65536) N [] r4) = P) P := hst.imp fun ⟨h1, h2⟩ => ⟨by omega, by simpa using h2⟩
  have HST := Lib.hid hst2; have HIM4 := Lib.hid (HIM.out.next hk4 hrd4)
  clear hk4 hrd4 hs4 hn4 hbb4 hst hst2 HQ HIM HPE y1 hlt3 hZ3 hM
  go_upto_block 0 with fail
  go_cut [6] (fun s6 wx => ∃ (vd : Value) (dims r : List Int) (b : Bool), dims.length ≤ 6 ∧ Stg b (imgP2 dims r = P) P ∧ RIm w wx (Z + 1) M Z vd 0 (.slice none 0 0) (.slice none 0 0) (.slice none 0 0) r b ∧ RowI w.heap.size wx vd dims)
  case first =>
    go_wp2_with fail
    go_loopw [6] (fun i wx => ∃ (q : Nat) (vd : Value) (dims r : List Int) (b : Bool), i = .int .i64 q ∧ q ≤ 9223372036854775807 ∧ dims.length ≤ 6 ∧ Stg b (dims.length + q ≤ 6 ∧ imgC1 (manyA (numP 65536) q dims r) = P) P ∧ RIm w wx (Z + 1) M Z vd 0 (.slice none 0 0) (.slice none 0 0) (.slice none 0 0) r b ∧ RowI w.heap.size wx vd dims) (fun i _ => (intOf i).toNat)
    case atStart => exact ⟨N, _, [], r4, b4, rfl, hN, by simp, HST.out.imp fun ⟨h1, h2⟩ => ⟨by simpa using h1, h2⟩, HIM4.out, RowI.nil _ _⟩
    case round =>
      clear HST HIM4
      obtain ⟨q, vd, dims, rx, b, rfl, hq, hdl, hst, him, hrow⟩ := hrel
      have y1 := him.rd.c1
      by_cases hgo : 0 < q ∧ b = false
      · obtain ⟨hq0, rfl⟩ := hgo
        obtain ⟨q, rfl⟩ : ∃ z, q = z + 1 := ⟨q - 1, by omega⟩
        obtain ⟨hdq, hm⟩ := hst.good
        have g1 := cell_of_row wr M 0 _ _ _ him.g
        have hq5 := numr_any w wr.drew (Z + 1) rx false 65536 (him.rd.next him.rd.below.drew rfl)
        have HIM := Lib.hid him; have HROW := Lib.hid hrow; have HM := Lib.hid hm
        have hqI : (0 : Int) < ((q + 1 : Nat) : Int) := by omega
        clear him hrow hm hst
        go_wp2_with fail
        refine wp_region_Z (S := fun W' => W'.cell? ⟨M, 0, none⟩ = some vd) (z := 7) (by kernel_rfl) ?_
        have hSS : (fun W' : World => W'.cell? ⟨M, 0, none⟩ = some vd) wr.drew := g1
        refine wpAnyZ_take (i := 0) (v := ?_) rfl (by kernel_rfl) (by kernel_rfl) (by kernel_rfl) (fun _ _ _ h => h) (by kernel_rfl) (Or.inl ⟨by rfl, ?_⟩) (by assumption) ?_
        rotate_left
        · intro w' hSw
          try dsimp only at hSw
          try obtain ⟨hSw, hSw2⟩ := hSw
          go_simp
          try with_reducible rfl
        show wpAnyZ _ _ _ _ _ _ _ _ (Act.put _ (some 49) _) _
        simp only [Act.put, List.setIfInBounds_toArray, List.set_cons_zero, List.set_cons_succ]
        refine wpAnyZ_take (i := 1) (v := ?_) rfl (by kernel_rfl) (by kernel_rfl) (by kernel_rfl) (fun _ _ _ h => h) (by kernel_rfl) (Or.inl ⟨by rfl, ?_⟩) (by assumption) ?_
        rotate_left
        · intro w' hSw
          try dsimp only at hSw
          try obtain ⟨hSw, hSw2⟩ := hSw
          go_simp
          try with_reducible rfl
        show wpAnyZ _ _ _ _ _ _ _ _ (Act.put _ (some 50) _) _
        simp only [Act.put, List.setIfInBounds_toArray, List.set_cons_zero, List.set_cons_succ]
        refine wpAnyZ_take (i := 2) (v := ?_) rfl (by kernel_rfl) (by kernel_rfl) (by kernel_rfl) (fun _ _ _ h => h) (by kernel_rfl) (Or.inl ⟨by rfl, ?_⟩) (by assumption) ?_
        rotate_left
        · intro w' hSw
          try dsimp only at hSw
          try obtain ⟨hSw, hSw2⟩ := hSw
          go_simp
          try with_reducible rfl
        show wpAnyZ _ _ _ _ _ _ _ _ (Act.put _ (some 51) _) _
        simp only [Act.put, List.setIfInBounds_toArray, List.set_cons_zero, List.set_cons_succ]
        clear hSS g1 y1
        refine wpAnyZ_one (i := 3) (by kernel_rfl) rfl rfl (fun K hK => ?_)
        go_simp
        refine hq5.mono ?_
        rintro e w5 ⟨hk5, v5, r5, b5, rfl, hv5, hrd5, hs5, hn5, -⟩
        have hst := Lib.hid (step_stage imgC1 rfl HM.out hs5 hn5)
        have HIM5 := Lib.hid (HIM.out.next hk5.ofDrew hrd5); have HROW5 := Lib.hid (own_keep HROW.out (HIM.out.rd.keepTy hk5.ofDrew (by decide)))
        clear hs5 hn5 hq5 HM
        show K _ w5
        refine hK.out _ _ (.inr (cell_of_row w5 M 0 _ _ _ HIM5.out.g)) ?_
        clear hK hk5 hrd5 HIM HROW
        refine wpAnyZ_one (i := 4) (by kernel_rfl) rfl rfl (fun K hK => ?_)
        go_simp
        refine hK.out _ _ (.inr (keepCell ((Below.refl _ _).alloc (Nat.le_refl _) _) (cell_of_row w5 M 0 _ _ _ HIM5.out.g))) ?_
        clear hK
        refine wpAnyZ_one (i := 5) (by kernel_rfl) rfl rfl (fun K hK => ?_)
        have hst5 : w.heap.size ≤ w5.heap.size := HIM5.out.rd.below.size
        refine wp_append_src _ (.tmp 50) (.tmp 53) 22 rfl w.heap.size 2 j0 _ 1 8 Try.underlying22 Hj.out Hy0.out Hy1.out Hy2.out rfl (by decide) vd dims.length _ rfl (World.ownsRow.alloc HROW5.out _) _ 1 [.int .i64 (v5 : Int)] rfl (src_lit1 _ _ _ _ _ _ rfl rfl) rfl (by intro u hu; cases List.mem_singleton.1 hu; rfl) (by unfold maxLen; omega) (by omega) (by simp; omega) ?_
        intro v6 w6 hown hgr hnw
        obtain ⟨a6, c6, rfl⟩ : ∃ a c, v6 = .slice a (dims.length + 1) c := by
          obtain ⟨-, ⟨e, h0⟩ | ⟨g, cap, cur, e, _⟩⟩ := hown
          · omega
          · exact ⟨_, _, e⟩
        have hrow6 : RowI w.heap.size w6 (.slice a6 (dims.length + 1) c6) (dims ++ [(v5 : Int)]) := by
          unfold RowI
          rw [List.length_append, List.map_append]
          exact hown
        have HIM6 := Lib.hid (HIM5.out.grown (o := .cells #[.int .i64 (v5 : Int)] 2) HROW5.out (by decide) (by decide) hgr)
        have HROW6 := Lib.hid hrow6
        refine hK.out _ _ (.inr (cell_of_row w6 M 0 _ _ _ HIM6.out.g)) ?_
        clear hK hown hgr hnw HIM5 HROW5 hrow6
        refine wpAnyZ_one (i := 6) (by kernel_rfl) rfl rfl (fun K hK => ?_)
        go_simp
        refine hK.out _ _ (.inr (cell_of_row w6 M 0 _ _ _ HIM6.out.g)) ?_
        clear hK
        refine wpAnyZ_one (i := 7) (by kernel_rfl) rfl rfl (fun K hK => ?_)
        have f1 := frozen_of_row w6 M 0 _ _ HIM6.out.g; have g1 := cell_of_row w6 M 0 _ _ _ HIM6.out.g
        go_simp
        refine hK.out _ _ (.inl (Nat.le_refl _)) ?_
        clear hK f1 g1
        refine wpAnyZ_done (by kernel_rfl) ?_ _
        go_wp2_with fail
        go_roundw
        case rel => exact ⟨q, _, dims ++ [(v5 : Int)], r5, b5, by go_num, by omega, by simp; omega, hst.out.imp fun h => ⟨by simp; omega, h⟩, HIM6.out.put 0 _ rfl, own_keep HROW6.out (KeepTy.setCell (p := ⟨M, 0, none⟩) (HIM6.out.tyM (by decide)) _)⟩
        case measure => simp [intOf] <;> omega
      · have hst2 : Stg b (imgP2 dims rx = P) P := by
          refine ⟨fun e => ?_, hst.2⟩
          obtain ⟨-, h1⟩ := hst.1 e
          obtain rfl : q = 0 := by
            by_cases h0 : 0 < q
            · exact absurd ⟨h0, e⟩ hgo
            · omega
          exact h1
        have HST := Lib.hid hst2; have HIM := Lib.hid him; have HROW := Lib.hid hrow
        by_cases hq0 : 0 < q
        · obtain rfl : b = true := by
            cases b with
            | true => rfl
            | false => exact absurd ⟨hq0, rfl⟩ hgo
          have hqI : (0 : Int) < (q : Int) := by omega
          clear hst hst2 him hrow hgo
          go_wp2_with fail
          go_meet
          exact ⟨vd, dims, rx, true, hdl, HST.out, HIM.out, HROW.out⟩
        · obtain rfl : q = 0 := by omega
          clear hst hst2 him hrow hgo
          go_wp2_with fail
          go_meet
          exact ⟨vd, dims, rx, b, hdl, HST.out, HIM.out, HROW.out⟩
  case rest =>
    obtain ⟨vd, dims, r5, b5, hdl, hst, him, hrow⟩ := hcut
    have hq := numr_any w _ (Z + 1) r5 b5 2097152 him.rd
    have HQ := Lib.hid hq; have HIM := Lib.hid him; have HROW := Lib.hid hrow; have HST := Lib.hid hst
    clear hq him hrow hst
    go_wp2_with fail
    refine HQ.out.mono ?_
    rintro e w7 ⟨hk7, mem, r7, b7, rfl, hmem, hrd7, hs7, hn7, hbb7⟩
    have hst7 := (num_stage (P := P) (fun mem r => imgP3 dims mem r) HIM.out.rd.byts HST.out hs7 hn7 hbb7).imp fun h => h.2
    have him7 := HIM.out.next hk7 hrd7
    have hk7t : ∀ {t : TypeId}, 71 ≠ t → KeepTy t _ w7 := fun hne => HIM.out.rd.keepTy hk7 hne
    have hrow7 := own_keep HROW.out (hk7t (by decide))
    have g1 := cell_of_row w7 M 1 _ _ _ him7.g; have f1 := frozen_of_row w7 M 1 _ _ him7.g
    have him8 := him7.put 1 (.int .i64 (mem : Int)) rfl
    have hrow8 := own_keep hrow7 (KeepTy.setCell (p := ⟨M, 1, none⟩) (him7.tyM (by decide)) (.int .i64 (mem : Int)))
    have hq := rrslots_any w _ (Z + 1) r7 b7 him8.rd
    have HQ8 := Lib.hid hq; have HIM8 := Lib.hid him8; have HROW8 := Lib.hid hrow8; have HST7 := Lib.hid hst7
    have hsz8 := him8.rd.below.size
    clear hk7 hrd7 hs7 hn7 hbb7 hst7 him7 hk7t hrow7 him8 hrow8 hq HQ HIM HROW HST
    go_wp2_with fail
    refine HQ8.out.mono ?_
    rintro e w9 ⟨hk9, vi, ins, r9, b9, rfl, hvi, hil, hrd9, hs9, hn9, hmo9⟩
    have hst9 := slots_stage (P := P) (fun ins r => imgP4 dims mem ins r) HST7.out hs9 hn9 hmo9
    obtain ⟨ia, ic, rfl⟩ : ∃ a c, vi = .slice a ins.length c := by obtain ⟨a, c, e, _⟩ := hvi.sl; exact ⟨a, c, e⟩
    have him9 := HIM8.out.next hk9 hrd9
    have hk9t : ∀ {t : TypeId}, 71 ≠ t → KeepTy t _ w9 := fun hne => HIM8.out.rd.keepTy hk9 hne
    have hrow9 := own_keep HROW8.out (hk9t (by decide))
    have hvi9 := OwnSl.mono hvi hsz8
    clear g1 f1 hsz8
    have g2 := cell_of_row w9 M 2 _ _ _ him9.g; have f2 := frozen_of_row w9 M 2 _ _ him9.g
    have him10 := him9.put 2 (.slice ia ins.length ic) rfl
    have hk10t : ∀ {t : TypeId}, 26 ≠ t → KeepTy t w9 (w9.setCell ⟨M, 2, none⟩ (.slice ia ins.length ic)) := fun hne => KeepTy.setCell (p := ⟨M, 2, none⟩) (him9.tyM hne) _
    have hrow10 := own_keep hrow9 (hk10t (by decide))
    have hvi10 := hvi9.keep (hk10t (by decide)) (hk10t (by decide))
    have hq := rrslots_any w _ (Z + 1) r9 b9 him10.rd
    have hsz10 := him10.rd.below.size
    have HQ10 := Lib.hid hq; have HIM10 := Lib.hid him10; have HROW10 := Lib.hid hrow10; have HVI10 := Lib.hid hvi10; have HST9 := Lib.hid hst9
    clear hk9 hvi hrd9 hs9 hn9 hmo9 hst9 him9 hk9t hrow9 hvi9 him10 hk10t hrow10 hvi10 hq HQ8 HIM8 HROW8 HST7
    go_wp2_with fail
    refine HQ10.out.mono ?_
    rintro e wA ⟨hkA, vo, outs, rA, bA, rfl, hvo, hol, hrdA, hsA, hnA, hmoA⟩
    have hstA := slots_stage (P := P) (fun outs r => imgP5 dims mem ins outs r) HST9.out hsA hnA hmoA
    obtain ⟨oa, oc, rfl⟩ : ∃ a c, vo = .slice a outs.length c := by obtain ⟨a, c, e, _⟩ := hvo.sl; exact ⟨a, c, e⟩
    have himA := HIM10.out.next hkA hrdA
    have hkAt : ∀ {t : TypeId}, 71 ≠ t → KeepTy t _ wA := fun hne => HIM10.out.rd.keepTy hkA hne
    have hrowA := own_keep HROW10.out (hkAt (by decide))
    have hviA := HVI10.out.keep (hkAt (by decide)) (hkAt (by decide))
    have hvoA := OwnSl.mono hvo hsz10
    clear g2 f2 hsz10
    have g3 := cell_of_row wA M 3 _ _ _ himA.g; have f3 := frozen_of_row wA M 3 _ _ himA.g
    have himB := himA.put 3 (.slice oa outs.length oc) rfl
    have hkBt : ∀ {t : TypeId}, 26 ≠ t → KeepTy t wA (wA.setCell ⟨M, 3, none⟩ (.slice oa outs.length oc)) := fun hne => KeepTy.setCell (p := ⟨M, 3, none⟩) (himA.tyM hne) _
    have hrowB := own_keep hrowA (hkBt (by decide))
    have hviB := hviA.keep (hkBt (by decide)) (hkBt (by decide))
    have hvoB := hvoA.keep (hkBt (by decide)) (hkBt (by decide))
    have hq := numr_any w _ (Z + 1) rA bA 32768 himB.rd
    have HQB := Lib.hid hq; have HIMB := Lib.hid himB; have HROWB := Lib.hid hrowB; have HVIB := Lib.hid hviB; have HVOB := Lib.hid hvoB; have HSTA := Lib.hid hstA
    clear hkA hvo hrdA hsA hnA hmoA hstA himA hkAt hrowA hviA hvoA himB hkBt hrowB hviB hvoB hq HQ10 HIM10 HROW10 HVI10 HST9
    go_wp2_with fail
    refine HQB.out.mono ?_
    rintro e wC ⟨hkC, K, rC, bC, rfl, hK, hrdC, hsC, hnC, hbbC⟩
    have hstC := (num_stage (P := P) (fun k r => imgC dims mem ins outs (manyA insP k.toNat [] r)) HIMB.out.rd.byts HSTA.out hsC hnC hbbC).imp fun (h : _ ∧ _) => (show K ≤ 32768 ∧ imgC dims mem ins outs (manyA insP K [] rC) = P from ⟨by omega, by simpa using h.2⟩)
    have hkCt : ∀ {t : TypeId}, 71 ≠ t → KeepTy t _ wC := fun hne => HIMB.out.rd.keepTy hkC hne
    have HIMC := Lib.hid (HIMB.out.next hkC hrdC); have HROWC := Lib.hid (own_keep HROWB.out (hkCt (by decide))); have HVIC := Lib.hid (HVIB.out.keep (hkCt (by decide)) (hkCt (by decide))); have HVOC := Lib.hid (HVOB.out.keep (hkCt (by decide)) (hkCt (by decide))); have HSTC := Lib.hid hstC
    clear hkC hrdC hsC hnC hbbC hstC hkCt HQB HIMB HROWB HVIB HVOB HSTA g3 f3
    have HAC := Lib.hid (show RAll w wC (Z + 1) M Z vd (.slice ia ins.length ic) (.slice oa outs.length oc) (.slice none 0 0) ⟨dims, mem, ins, outs, []⟩ rC bC from ⟨HIMC.out, ⟨HROWC.out, HVIC.out, HVOC.out, World.ownsRow_nil _ _ _ _⟩, (by intro i hi; cases hi)⟩)
    clear HIMC HROWC HVIC HVOC
    go_upto_block 2 with fail
    go_cut [7] (fun s7 wx => ∃ (vc : Value) (code : List Ins) (r : List Int) (b : Bool), code.length ≤ 32768 ∧ Stg b (some ((⟨dims, mem, ins, outs, code⟩ : Img), r) = P) P ∧ RAll w wx (Z + 1) M Z vd (.slice ia ins.length ic) (.slice oa outs.length oc) vc ⟨dims, mem, ins, outs, code⟩ r b)
    case first =>
      go_wp2_with fail
      go_loopw [7] (fun i wx => ∃ (q : Nat) (vc : Value) (code : List Ins) (r : List Int) (b : Bool), i = .int .i64 q ∧ q ≤ 9223372036854775807 ∧ code.length ≤ 32768 ∧ Stg b (code.length + q ≤ 32768 ∧ imgC dims mem ins outs (manyA insP q code r) = P) P ∧ RAll w wx (Z + 1) M Z vd (.slice ia ins.length ic) (.slice oa outs.length oc) vc ⟨dims, mem, ins, outs, code⟩ r b) (fun i _ => (intOf i).toNat)
      case atStart => exact ⟨K, _, [], rC, bC, rfl, hK, by simp, HSTC.out.imp fun h => ⟨by simpa using h.1, h.2⟩, HAC.out⟩
      case round =>
        clear HSTC HAC
        obtain ⟨q, vc, code, rc, b, rfl, hq, hcl, hst, hall⟩ := hrel
        have y1 := hall.1.rd.c1
        by_cases hgo : 0 < q ∧ b = false
        · obtain ⟨hq0, rfl⟩ := hgo
          obtain ⟨z, hz⟩ : ∃ z, q = z + 1 := ⟨q - 1, by omega⟩
          obtain ⟨hcq, hm⟩ := hst.good
          rw [hz] at hm
          have hqI : (0 : Int) < (q : Int) := by omega
          have HALL := Lib.hid hall; have HM := Lib.hid hm; have HQZ := Lib.hid hz
          clear hall hm hst hz
          go_wp2_with fail
          clear y1
          go_loopw [8, 9] (fun v i wx => ∃ (k W : Nat) (r : List Int) (b : Bool), k ≤ 8 ∧ i = .int .i64 k ∧ v = .int .u64 W ∧ Eight rc k W r b ∧ RAll w wx (Z + 1) M Z vd (.slice ia ins.length ic) (.slice oa outs.length oc) vc ⟨dims, mem, ins, outs, code⟩ r b) (fun _ i _ => 8 - (intOf i).toNat)
          case atStart => exact ⟨0, 0, rc, false, by omega, rfl, rfl, Eight.zero rc, HALL.out⟩
          case round =>
            clear HALL
            obtain ⟨k, W8, rx, b, hk, rfl, rfl, h8, hall⟩ := hrel
            by_cases hk8 : k < 8
            · have hq1 := byte_any w wr (Z + 1) rx b hall.1.rd
              have HALL := Lib.hid hall; have HQ := Lib.hid hq1; have H8 := Lib.hid h8
              have hW8 := h8.lt
              have hkI : (k : Int) < 8 := by omega
              clear hall hq1 h8
              go_wp2_with fail
              refine HQ.out.mono ?_
              rintro e w5 ⟨hk5, x, rfl, hx, hxh, hrd5⟩
              have HA5 := Lib.hid (HALL.out.next hk5 hrd5); have H85 := Lib.hid (H8.out.step hxh)
              have hx256 := Lib.hid (step256 W8 x hx)
              clear hk5 hxh hrd5 HQ HALL H8
              go_wp2_with fail
              go_roundw
              case rel => exact ⟨k + 1, _, rx.tail, _, by omega, by go_num, by rw [← hx256.out], H85.out, HA5.out⟩
              case measure => simp [intOf] <;> omega
            · obtain rfl : k = 8 := by omega
              have hde := rdec_any wr W8 h8.lt
              have hstg := eight_stage HM.out h8
              have hiw := decI_wf W8
              generalize decI W8 = ii at hde hstg hiw
              have HDE := Lib.hid hde; have HSTG := Lib.hid hstg; have HIW := Lib.hid hiw; have HALL := Lib.hid hall
              clear hde hstg hiw hall h8 HM
              go_wp2_with fail
              refine HDE.out.mono ?_
              rintro e wB ⟨rfl, hbB⟩
              have hab := HALL.out.below hbB
              have HAB := Lib.hid hab
              clear HDE hbB HALL hab
              obtain ⟨BX, hBX⟩ : ∃ g, wB.heap.size = g := ⟨_, rfl⟩
              cases hir : ii.right with
              | true =>
                rw [hir, Bool.not_true, Bool.or_false] at HSTG
                have hstz : Hid (Stg b ((code ++ [ii]).length + z ≤ 32768 ∧ imgC dims mem ins outs (manyA insP z (code ++ [ii]) rx) = P) P) := Lib.hid (HSTG.out.imp fun h => ⟨by have := HQZ.out; simp; omega, h⟩)
                have hde : DecE ii = .returned (.tuple #[.agg #[.int .u8 ii.op, .int .u8 ii.a, .int .u8 ii.b, .int .u8 ii.c, .int .i32 ii.imm], .int .i64 0]) := by unfold DecE; rw [hir]; rfl
                rw [hde]
                clear hde hir HSTG
                go_upto_region 23 with fail
                refine gen_worldA (fun W => RAll w W (Z + 1) M Z vd (.slice ia ins.length ic) (.slice oa outs.length oc) vc ⟨dims, mem, ins, outs, code⟩ rx b ∧ W.heap[BX]? = some (.cells #[.int .u8 ii.op, .int .u8 ii.a, .int .u8 ii.b, .int .u8 ii.c, .int .i32 ii.imm] 43 (0, 0))) ⟨HAB.out.below ((Below.refl _ _).alloc (Nat.le_refl _) _), hBX ▸ World.alloc_heap_new _ _⟩ ?_
                rintro wD ⟨had, hbx⟩
                have HAD := Lib.hid had; have HBX := Lib.hid hbx
                have g4 := cell_of_row wD M 4 _ _ _ had.1.g
                have hszD := had.1.rd.below.size
                clear HAB hBX had hbx
                go_wp2_with (first | ((with_reducible show wpList _ _ _ ({ dst := some _, op := Op.load 43 (.tmp 10), type := _, pos := _, after := _, guard := _ } :: _) _ _); (refine wpList_loadW (by rfl) 43 _ rfl BX rfl _ _ (0, 0) _ HBX.out Try.underlying43 rfl (by kernel_rfl) ?_)) | (at_builtin; (refine wpList_append_src _ rfl _ _ 24 rfl w.heap.size 43 i0 _ 5 8 Try.underlying24 Hi.out Hz0.out Hz1.out Hz2.out rfl (by decide) vc code.length (code.flatMap Ins.enc) rfl (World.ownsRow.alloc HAD.out.2.1.2.2.2 _) _ 1 (Ins.enc ii) rfl (src_lit1 _ _ _ _ _ _ rfl rfl) rfl ?h1 (by unfold maxLen; omega) (by omega) (by simp; omega) ?_)))
                case h1 => exact enc_one ii
                intro vE wE hown hgr hnw
                obtain ⟨ea, ec, rfl⟩ : ∃ a c, vE = .slice a (code.length + 1) c := by
                  obtain ⟨-, ⟨e, h0⟩ | ⟨g, cap, cur, e, _⟩⟩ := hown
                  · omega
                  · exact ⟨_, _, e⟩
                rw [← hZ] at hown
                have hE := RAll.app HAD.out HIW.out hown hgr
                have g4 := cell_of_row wE M 4 _ _ _ hE.1.g; have f4 := frozen_of_row wE M 4 _ _ hE.1.g
                have HAE := Lib.hid hE.2
                clear hown hgr hnw hE
                go_wp2_with fail
                go_roundw
                case rel => exact ⟨z, _, code ++ [ii], rx, _, by (have hz := HQZ.out; subst hz; go_num), by have := HQZ.out; omega, by simp; omega, hstz.out, HAE.out⟩
                case measure => simp [intOf] <;> omega
              | false =>
                rw [hir, Bool.not_false, Bool.or_true] at HSTG
                have hstz : Hid (Stg true ((code ++ [insZ]).length + z ≤ 32768 ∧ imgC dims mem ins outs (manyA insP z (code ++ [insZ]) rx) = P) P) := Lib.hid (Stg.none HSTG.out.bad)
                have hde : DecE ii = .returned (.tuple #[.agg #[.int .u8 0, .int .u8 0, .int .u8 0, .int .u8 0, .int .i32 0], .int .i64 150]) := by unfold DecE; rw [hir]; rfl
                rw [hde]
                have y1 := HAB.out.1.rd.c1; have f1 := HAB.out.1.rd.f1
                have hltR := HAB.out.1.rd.lt
                rw [hBX] at hltR
                clear hde hir HSTG
                go_upto_region 23 with fail
                refine gen_worldA (fun W => RAll w W (Z + 1) M Z vd (.slice ia ins.length ic) (.slice oa outs.length oc) vc ⟨dims, mem, ins, outs, code⟩ rx true ∧ W.heap[BX]? = some (.cells #[.int .u8 0, .int .u8 0, .int .u8 0, .int .u8 0, .int .i32 0] 43 (0, 0))) ⟨HAB.out.flag.below ((Below.refl _ _).alloc (Nat.le_refl _) _), (congrArg (fun n => ((wB.setCell ⟨Z + 1, 1, none⟩ (.bool true)).alloc (.cells #[.int .u8 0, .int .u8 0, .int .u8 0, .int .u8 0, .int .i32 0] 43)).heap[n]?) (by simp [← hBX])).trans (World.alloc_heap_new _ _)⟩ ?_
                rintro wD ⟨had, hbx⟩
                have HAD := Lib.hid had; have HBX := Lib.hid hbx
                have g4 := cell_of_row wD M 4 _ _ _ had.1.g
                have hszD := had.1.rd.below.size
                clear HAB hBX had hbx y1 f1 hltR
                go_wp2_with (first | ((with_reducible show wpList _ _ _ ({ dst := some _, op := Op.load 43 (.tmp 10), type := _, pos := _, after := _, guard := _ } :: _) _ _); (refine wpList_loadW (by rfl) 43 _ rfl BX rfl _ _ (0, 0) _ HBX.out Try.underlying43 rfl (by kernel_rfl) ?_)) | (at_builtin; (refine wpList_append_src _ rfl _ _ 24 rfl w.heap.size 43 i0 _ 5 8 Try.underlying24 Hi.out Hz0.out Hz1.out Hz2.out rfl (by decide) vc code.length (code.flatMap Ins.enc) rfl (World.ownsRow.alloc HAD.out.2.1.2.2.2 _) _ 1 (Ins.enc insZ) rfl (src_lit1 _ _ _ _ _ _ rfl rfl) rfl ?h1 (by unfold maxLen; omega) (by omega) (by simp; omega) ?_)))
                case h1 => exact enc_one insZ
                intro vE wE hown hgr hnw
                obtain ⟨ea, ec, rfl⟩ : ∃ a c, vE = .slice a (code.length + 1) c := by
                  obtain ⟨-, ⟨e, h0⟩ | ⟨g, cap, cur, e, _⟩⟩ := hown
                  · omega
                  · exact ⟨_, _, e⟩
                rw [← hZ] at hown
                have hE := RAll.app HAD.out insZ_wf hown hgr
                have g4 := cell_of_row wE M 4 _ _ _ hE.1.g; have f4 := frozen_of_row wE M 4 _ _ hE.1.g
                have HAE := Lib.hid hE.2
                clear hown hgr hnw hE
                go_wp2_with fail
                go_roundw
                case rel => exact ⟨z, _, code ++ [insZ], rx, _, by (have hz := HQZ.out; subst hz; go_num), by have := HQZ.out; omega, by simp; omega, hstz.out, HAE.out⟩
                case measure => simp [intOf] <;> omega
        · have hst2 : Stg b (some ((⟨dims, mem, ins, outs, code⟩ : Img), rc) = P) P := by
            refine ⟨fun e => ?_, hst.2⟩
            obtain ⟨-, h1⟩ := hst.1 e
            obtain rfl : q = 0 := by
              by_cases h0 : 0 < q
              · exact absurd ⟨h0, e⟩ hgo
              · omega
            exact h1
          have HST := Lib.hid hst2; have HALL := Lib.hid hall
          by_cases hq0 : 0 < q
          · obtain rfl : b = true := by
              cases b with
              | true => rfl
              | false => exact absurd ⟨hq0, rfl⟩ hgo
            have hqI : (0 : Int) < (q : Int) := by omega
            clear hst hst2 hall hgo
            go_wp2_with fail
            go_meet
            exact ⟨vc, code, rc, true, hcl, HST.out, HALL.out⟩
          · obtain rfl : q = 0 := by omega
            clear hst hst2 hall hgo
            go_wp2_with fail
            go_meet
            exact ⟨vc, code, rc, b, hcl, HST.out, HALL.out⟩
    case rest =>
      obtain ⟨vc, code, rx, b, hcl, hst, hall⟩ := hcut
      cases b with
      | true =>
        have hn := Lib.hid (readB_none (HP.out.trans hst.bad))
        have y1 := hall.1.rd.c1
        have HALL := Lib.hid hall
        clear hst hall
        go_wp2_with ((with_reducible show wpList _ _ _ ({ dst := none, op := Op.store 26 (.tmp 2) (.tmp _), type := _, pos := _, after := _, guard := _ } :: _) _ _); (refine wpList_storeW rfl 26 _ _ rfl Z rfl _ _ rfl _ HALL.out.1.z (by kernel_rfl) (by rfl) (by rfl) ?_); intro w9 hr9 hg9)
        refine bodyPost_ret (v := .tuple #[.agg #[.slice none 0 0, .int .i64 0, .slice none 0 0, .slice none 0 0, .slice none 0 0], .int .i64 191]) (results_ri rfl _ _ Z _ _ rfl rfl hr9 rfl) rfl ?_
        exact readE_bad hn.out (Below.grown HALL.out.1.rd.below hg9 (Below.size HALL.out.1.rd.below) (fun g e => by cases e; exact Nat.le_of_eq hZ))
      | false =>
        have hp := HP.out.trans hst.good.symm
        have hrb : readB l = if rx.length = 4 ∧ wholeB rx = checkB (l.take (l.length - 4)) ∧ imgRight ⟨dims, mem, ins, outs, code⟩ = true then some ⟨dims, mem, ins, outs, code⟩ else none := by unfold readB; rw [hp]
        have hbk := congrArg List.length (imgP_back HBY.out hp).1
        rw [List.length_append] at hbk
        have y1 := hall.1.rd.c1
        obtain ⟨ra, rc, hrow, hr1, hr2, hr3⟩ := hall.1.rd.row
        have y0 := cell_of_row _ (Z + 1) 0 _ _ _ hrow
        have x0 := cell_of_row _ M 0 _ _ _ hall.1.g; have x1 := cell_of_row _ M 1 _ _ _ hall.1.g; have x2 := cell_of_row _ M 2 _ _ _ hall.1.g; have x3 := cell_of_row _ M 3 _ _ _ hall.1.g; have x4 := cell_of_row _ M 4 _ _ _ hall.1.g
        have HALL := Lib.hid hall; have HRB := Lib.hid hrb
        have hlr : rx.length ≤ l.length := by omega
        clear hst hall hp hrb hbk hrow
        by_cases h4 : rx.length = 4
        case neg =>
          have hn := Lib.hid (show readB l = none by rw [HRB.out, if_neg (fun h => h4 h.1)])
          have h4' : ((rx.length : Int) != 4) = true := by simp; omega
          clear h4 hr1 hr2 hr3 HRB
          go_wp2_with ((with_reducible show wpList _ _ _ ({ dst := none, op := Op.store 26 (.tmp 2) (.tmp _), type := _, pos := _, after := _, guard := _ } :: _) _ _); (refine wpList_storeW rfl 26 _ _ rfl Z rfl _ _ rfl _ HALL.out.1.z (by kernel_rfl) (by rfl) (by rfl) ?_); intro w9 hr9 hg9)
          refine bodyPost_ret (v := .tuple #[.agg #[.slice none 0 0, .int .i64 0, .slice none 0 0, .slice none 0 0, .slice none 0 0], .int .i64 191]) (results_ri rfl _ _ Z _ _ rfl rfl hr9 rfl) rfl ?_
          exact readE_bad hn.out (Below.grown HALL.out.1.rd.below hg9 (Below.size HALL.out.1.rd.below) (fun g e => by cases e; exact Nat.le_of_eq hZ))
        rw [h4] at y0 hr1 hlr
        have hI64 : I64 (mem : Int) := by unfold I64; omega
        have hat : ImgAt _ vd (.slice ia ins.length ic) (.slice oa outs.length oc) vc ⟨dims, mem, ins, outs, code⟩ := HALL.out.2.1.at HALL.out.2.2 hI64
        have hq := rright20_any _ _ _ _ _ _ hat
        have HQ := Lib.hid hq; have H4 := Lib.hid h4; have HR3 := Lib.hid hr3; have HR2 := Lib.hid hr2
        clear hq hat h4 hr3 hr2
        cases hri : imgRight ⟨dims, mem, ins, outs, code⟩ with
        | false =>
          have hn := Lib.hid (show readB l = none by rw [HRB.out, if_neg (fun h => by have := h.2.2; rw [hri] at this; cases this)])
          rw [hri] at HQ
          clear HRB hri
          go_wp2_with fail
          refine HQ.out.mono ?_
          rintro e wR ⟨rfl, hbR⟩
          have HAR := Lib.hid (HALL.out.below hbR)
          clear hbR HALL HQ x0 x1 x2 x3 x4 y0 y1
          go_wp2_with ((with_reducible show wpList _ _ _ ({ dst := none, op := Op.store 26 (.tmp 2) (.tmp _), type := _, pos := _, after := _, guard := _ } :: _) _ _); (refine wpList_storeW rfl 26 _ _ rfl Z rfl _ _ rfl _ HAR.out.1.z (by kernel_rfl) (by rfl) (by rfl) ?_); intro w9 hr9 hg9)
          refine bodyPost_ret (v := .tuple #[.agg #[.slice none 0 0, .int .i64 0, .slice none 0 0, .slice none 0 0, .slice none 0 0], .int .i64 191]) (results_ri rfl _ _ Z _ _ rfl rfl hr9 rfl) rfl ?_
          exact readE_bad hn.out (Below.grown HAR.out.1.rd.below hg9 (Below.size HAR.out.1.rd.below) (fun g e => by cases e; exact Nat.le_of_eq hZ))
        | true =>
          rw [hri] at HQ
          have hrb2 : readB l = if wholeB rx = checkB (l.take (l.length - 4)) then some ⟨dims, mem, ins, outs, code⟩ else none := by
            rw [HRB.out, hri]
            by_cases hw : wholeB rx = checkB (l.take (l.length - 4))
            · rw [if_pos ⟨H4.out, hw, rfl⟩, if_pos hw]
            · rw [if_neg (fun h => hw h.2.1), if_neg hw]
          have HRB2 := Lib.hid hrb2
          clear HRB hri hrb2
          go_wp2_with fail
          refine HQ.out.mono ?_
          rintro e wR ⟨rfl, hbR⟩
          have y0' := keepCell hbR y0; have y1' := keepCell hbR y1
          have HAR := Lib.hid (HALL.out.below hbR)
          clear hbR HALL HQ x0 x1 x2 x3 x4 y0 y1
          have s1 := fun W => slice_hiB W a l.length c ((l.length : Int) - 4) (by omega) (by omega)
          have hcut := HI.out.cut (l := 0) (n := l.length - 4) (m := c) hc
          rw [List.drop_zero] at hcut
          rw [show ((l.length : Int) - 4).toNat = l.length - 4 from by omega] at s1
          generalize subA a c 0 = a2 at s1 hcut
          have HCUT := Lib.hid hcut
          clear hcut
          have hlen : (l.take (l.length - 4)).length = l.length - 4 := by rw [List.length_take]; omega
          have hbt : Byts (l.take (l.length - 4)) := fun x hx => HBY.out x (List.mem_of_mem_take hx)
          have hck := rcheck_any wR.drew a2 c (l.take (l.length - 4)) (HCUT.out.below HAR.out.1.rd.below.drew (Nat.le_refl _)) hbt (by rw [hlen]; omega)
          rw [hlen] at hck
          have hlt := checkB_lt (l.take (l.length - 4))
          generalize checkB (l.take (l.length - 4)) = ch at hck hlt HRB2
          have hS : ∀ W', Below wR.heap.size wR W' → W'.cell? ⟨Z + 1, 0, none⟩ = some (.slice ra 4 rc) ∧ (convert 28 9 (.slice ra 4 rc)).run Try.prog W' = .ok (.string (strOf rx)) W' := fun W' h => by
            refine ⟨keepCell h y0', ?_⟩
            have := conv_str W' ra rc rx (HR3.out.below (bNext h HAR.out.1.rd.below) (Nat.le_refl _)) HAR.out.1.rd.byts
            rwa [H4.out] at this
          have hhi := fun W => rhigh_any W W.heap.size (.slice none 0 0) [] ch 4 (by omega) (by omega) (RowU.nil _ _) (Nat.le_refl _) (by simp)
          have HHI := Lib.hid hhi; have HCK := Lib.hid hck; have HSS := Lib.hid hS
          clear hhi hck hS hbt hlen
          go_upto_region 27 with fail
          refine wp_region_Z (S := fun W' => W'.cell? ⟨Z + 1, 0, none⟩ = some (.slice ra 4 rc) ∧ (convert 28 9 (.slice ra 4 rc)).run Try.prog W' = .ok (.string (strOf rx)) W') (z := 11) (by kernel_rfl) ?_
          have hSS : (fun W' : World => W'.cell? ⟨Z + 1, 0, none⟩ = some (.slice ra 4 rc) ∧ (convert 28 9 (.slice ra 4 rc)).run Try.prog W' = .ok (.string (strOf rx)) W') wR.drew := HSS.out _ (Below.refl _ _).drew
          refine wpAnyZ_take (i := 0) (v := ?_) rfl (by kernel_rfl) (by kernel_rfl) (by kernel_rfl) (fun _ _ _ h => h) (by kernel_rfl) (Or.inl ⟨by rfl, ?_⟩) (by assumption) ?_
          rotate_left
          · intro w' hSw
            try dsimp only at hSw
            try obtain ⟨hSw, hSw2⟩ := hSw
            go_simp
            try with_reducible rfl
          show wpAnyZ _ _ _ _ _ _ _ _ (Act.put _ (some 127) _) _
          simp only [Act.put, List.setIfInBounds_toArray, List.set_cons_zero, List.set_cons_succ]
          refine wpAnyZ_take (i := 5) (v := ?_) rfl (by kernel_rfl) (by kernel_rfl) (by kernel_rfl) (fun _ _ _ h => h) (by kernel_rfl) (Or.inl ⟨by rfl, ?_⟩) (by assumption) ?_
          rotate_left
          · intro w' hSw
            try dsimp only at hSw
            try obtain ⟨hSw, hSw2⟩ := hSw
            go_simp
            try with_reducible rfl
          show wpAnyZ _ _ _ _ _ _ _ _ (Act.put _ (some 132) _) _
          simp only [Act.put, List.setIfInBounds_toArray, List.set_cons_zero, List.set_cons_succ]
          refine wpAnyZ_take (i := 6) (v := ?_) rfl (by kernel_rfl) (by kernel_rfl) (by kernel_rfl) (fun _ _ _ h => h) (by kernel_rfl) (Or.inl ⟨by rfl, ?_⟩) (by assumption) ?_
          rotate_left
          · intro w' hSw
            try dsimp only at hSw
            try obtain ⟨hSw, hSw2⟩ := hSw
            go_simp
            try with_reducible rfl
          show wpAnyZ _ _ _ _ _ _ _ _ (Act.put _ (some 133) _) _
          simp only [Act.put, List.setIfInBounds_toArray, List.set_cons_zero, List.set_cons_succ]
          refine wpAnyZ_take (i := 7) (v := ?_) rfl (by kernel_rfl) (by kernel_rfl) (by kernel_rfl) (fun _ _ _ h => h) (by kernel_rfl) (Or.inl ⟨by rfl, ?_⟩) (by assumption) ?_
          rotate_left
          · intro w' hSw
            try dsimp only at hSw
            try obtain ⟨hSw, hSw2⟩ := hSw
            go_simp
            try with_reducible rfl
          show wpAnyZ _ _ _ _ _ _ _ _ (Act.put _ (some 134) _) _
          simp only [Act.put, List.setIfInBounds_toArray, List.set_cons_zero, List.set_cons_succ]
          refine wpAnyZ_take (i := 8) (v := ?_) rfl (by kernel_rfl) (by kernel_rfl) (by kernel_rfl) (fun _ _ _ h => h) (by kernel_rfl) (Or.inl ⟨by rfl, ?_⟩) (by assumption) ?_
          rotate_left
          · intro w' hSw
            try dsimp only at hSw
            try obtain ⟨hSw, hSw2⟩ := hSw
            go_simp
            try with_reducible rfl
          show wpAnyZ _ _ _ _ _ _ _ _ (Act.put _ (some 135) _) _
          simp only [Act.put, List.setIfInBounds_toArray, List.set_cons_zero, List.set_cons_succ]
          refine wpAnyZ_take (i := 9) (v := ?_) rfl (by kernel_rfl) (by kernel_rfl) (by kernel_rfl) (fun _ _ _ h => h) (by kernel_rfl) (Or.inl ⟨by rfl, ?_⟩) (by assumption) ?_
          rotate_left
          · intro w' hSw
            try dsimp only at hSw
            try obtain ⟨hSw, hSw2⟩ := hSw
            go_simp
            try with_reducible rfl
          show wpAnyZ _ _ _ _ _ _ _ _ (Act.put _ (some 136) _) _
          simp only [Act.put, List.setIfInBounds_toArray, List.set_cons_zero, List.set_cons_succ]
          clear hSS
          refine wpAnyZ_one (i := 1) (by kernel_rfl) rfl rfl (fun K hK => ?_)
          go_simp
          refine HCK.out.mono ?_
          rintro e wx ⟨rfl, rfl⟩
          show K _ wR.drew
          refine hK.out _ _ (.inr (HSS.out _ (Below.refl _ _).drew)) ?_
          clear hK
          refine wpAnyZ_one (i := 2) (by kernel_rfl) rfl rfl (fun K hK => ?_)
          go_simp
          refine hK.out _ _ (.inr (HSS.out _ (Below.refl _ _).drew)) ?_
          clear hK
          refine wpAnyZ_one (i := 3) (by kernel_rfl) rfl rfl (fun K hK => ?_)
          go_simp
          have hwr : IntKind.u64.wrap (ch : Int) = (ch : Int) := by
            have e : IntKind.u64.wrap (ch : Int) = (ch : Int) % 18446744073709551616 := by simp [IntKind.wrap, IntKind.signed, IntKind.bits]
            rw [e]; omega
          rw [hwr]
          clear hwr
          refine (HHI.out _).mono ?_
          rintro e wx ⟨v', rfl, hrv, hgv⟩
          rw [List.nil_append] at hrv
          have hbx : Below wR.heap.size wR wx := (Below.refl _ _).drew.trans (hgv.toBelow (Nat.le_refl _) (fun g e => by cases e))
          obtain ⟨va, vc', rfl, -, -, hvi, -⟩ := hrv.slice2
          have hcv := conv_str wx va vc' (highB ch 4) hvi (highB_byts ch 4)
          rw [highB_len] at hcv
          have HBX := Lib.hid hbx; have HCV := Lib.hid hcv
          rw [highB_len]
          clear hrv hgv hbx hvi hcv
          show K _ wx
          refine hK.out _ _ (.inr (HSS.out _ HBX.out)) ?_
          clear hK
          refine wpAnyZ_one (i := 4) (by kernel_rfl) rfl rfl (fun K hK => ?_)
          have hcv := HCV.out
          go_simp
          refine hK.out _ _ (.inr (HSS.out _ HBX.out)) ?_
          clear hK hcv
          refine wpAnyZ_one (i := 10) (by kernel_rfl) rfl rfl (fun K hK => ?_)
          go_simp
          refine hK.out _ _ (.inr (HSS.out _ HBX.out)) ?_
          clear hK
          refine wpAnyZ_done (by kernel_rfl) ?_ _
          have hse := str_eq (highB_byts ch 4) HAR.out.1.rd.byts
          have HAX := Lib.hid (HAR.out.below HBX.out)
          have hgo : ∀ (W : World), RAll w W (Z + 1) M Z vd (.slice ia ins.length ic) (.slice oa outs.length oc) vc ⟨dims, mem, ins, outs, code⟩ rx false → True := fun _ _ => trivial
          clear HSS HHI HCK HCV HBX HAR y0' y1' s1 hgo
          clear hcl hr1 HR3 HR2 HCUT HI hmem hil hol hK HSTC HAC hlr HC2
          generalize ((strOf (highB ch 4)).toList == (strOf rx).toList) = bb at hse
          subst hse
          by_cases heq : highB ch 4 = rx
          · have hw : wholeB rx = ch := by rw [← heq]; exact whole_high4 hlt
            have hrr : readB l = some ⟨dims, mem, ins, outs, code⟩ := by rw [HRB2.out, if_pos hw]
            rw [decide_eq_true heq]
            have HRR := Lib.hid hrr
            have hone : (#[vd, .int .i64 mem, .slice ia ins.length ic, .slice oa outs.length oc, vc] : Array Value).toList.all (fun v => v.oneCell') = true := by
              show (vd.oneCell' && (true && (true && (true && (vc.oneCell' && true))))) = true
              rw [own_cell1 HAX.out.2.1.1, own_cell1 HAX.out.2.1.2.2.2]
              rfl
            have HONE := Lib.hid hone; have HI64 := Lib.hid hI64
            clear hw hrr hone heq HRB2 hlt hI64
            go_wp2_with (first | ((with_reducible show wpList _ _ _ ({ dst := some _, op := Op.load 26 (.tmp 5), type := _, pos := _, after := _, guard := _ } :: _) _ _); (refine wpList_loadW (by rfl) 26 _ rfl M rfl _ _ (0, 0) _ HAX.out.1.g Try.underlying26 rfl (by kernel_rfl) ?_)) | ((with_reducible show wpList _ _ _ ({ dst := none, op := Op.store 26 (.tmp 2) (.tmp _), type := _, pos := _, after := _, guard := _ } :: _) _ _); (refine wpList_storeW rfl 26 _ _ rfl Z rfl _ _ rfl _ HAX.out.1.z (by kernel_rfl) (by rfl) HONE.out ?_); intro w9 hr9 hg9))
            refine bodyPost_ret (v := .tuple #[.agg #[vd, .int .i64 mem, .slice ia ins.length ic, .slice oa outs.length oc, vc], .int .i64 0]) (results_ri rfl _ _ Z _ _ rfl rfl hr9 rfl) rfl ?_
            have ht9 : ∀ {t : TypeId}, 26 ≠ t → KeepTy t wx w9 := fun hne => KeepTy.grown hg9 fun g e => by cases e; exact NotTy.of HAX.out.1.z hne
            rw [HRR.out]
            exact ⟨_, _, _, _, rfl, ImgOwn.keep HAX.out.2.1 (ht9 (by decide)) (ht9 (by decide)) (ht9 (by decide)), HAX.out.2.2, HI64.out, HAX.out.1.rd.below.grown hg9 HAX.out.1.rd.below.size (fun g e => by cases e; exact HAX.out.1.gz)⟩
          · have hn := Lib.hid (show readB l = none by rw [HRB2.out, if_neg (fun hw => heq (by rw [← hw]; exact high_whole4 HAX.out.1.rd.byts H4.out))])
            rw [decide_eq_false heq]
            clear heq HRB2 hlt hI64
            go_wp2_with ((with_reducible show wpList _ _ _ ({ dst := none, op := Op.store 26 (.tmp 2) (.tmp _), type := _, pos := _, after := _, guard := _ } :: _) _ _); (refine wpList_storeW rfl 26 _ _ rfl Z rfl _ _ rfl _ HAX.out.1.z (by kernel_rfl) (by rfl) (by rfl) ?_); intro w9 hr9 hg9)
            refine bodyPost_ret (v := .tuple #[.agg #[.slice none 0 0, .int .i64 0, .slice none 0 0, .slice none 0 0, .slice none 0 0], .int .i64 191]) (results_ri rfl _ _ Z _ _ rfl rfl hr9 rfl) rfl ?_
            exact readE_bad hn.out (Below.grown HAX.out.1.rd.below hg9 (Below.size HAX.out.1.rd.below) (fun g e => by cases e; exact Nat.le_of_eq hZ))
theorem rreadO_any (w : World) (a : Option Addr) (c n : Nat) (l : List Int) (hn : l.length = n) (hi : IntsAt .u8 w a l) (hc : n ≤ c) (hc2 : c ≤ maxLen) (hb : Byts l) (res : Option Img) (hr : readB l = res) :
    Calls Try.prog 15 #[.slice a n c] w (ReadO w (res.getD img0) (if res.isSome then 0 else 191)) := by
  subst hn hr
  refine (rread_any w a c l hi hc hc2 hb).mono ?_
  rintro e w' ⟨vd, vi, vo, vc, rfl, h1, h2, h3, h4⟩
  obtain ⟨da, dc, ia, ic, oa, oc, ca, cc, rfl, rfl, rfl, rfl⟩ := h1.forms
  exact ⟨_, _, _, _, _, _, _, _, rfl, h1, h1.at h2 h3, h4⟩
end Go.Proofs.Ytiogopichcnihaa
