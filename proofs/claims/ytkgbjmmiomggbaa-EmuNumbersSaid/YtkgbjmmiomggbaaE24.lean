import Derived.Test.YtkgbjmmiomggbaaE23
namespace Go.Proofs.Ytkgbjmmiomggbaa
open Go.RowKit
set_option linter.unusedVariables false
attribute [local go_sem ↓] Go.wp_at_zero Go.wp_at_succ

theorem runI_succ_go {code : List Ins} {n : Nat} {s : St} (h : (mstepS code s).2 = true) : runI code (n + 1) s = ((runI code n (mstepS code s).1).1, (runI code n (mstepS code s).1).2 + 1) := by rw [runI, if_pos h]
theorem runI_succ_end {code : List Ins} {n : Nat} {s : St} (h : (mstepS code s).2 = false) : runI code (n + 1) s = ((mstepS code s).1, 1) := by rw [runI, if_neg (by simp [h])]
/-- behind k steps the machine is at s -/
def RunAt (code : List Ins) (M : Nat) (q : St × Nat) (k : Nat) (s : St) : Prop := q = ((runI code (M - k) s).1, (runI code (M - k) s).2 + k)
theorem RunAt.go {code : List Ins} {M k : Nat} {q : St × Nat} {s : St} (h : RunAt code M q k s) (hk : k < M) (hg : (mstepS code s).2 = true) : RunAt code M q (k + 1) (mstepS code s).1 := by
  unfold RunAt at *
  rw [h, show M - k = (M - (k + 1)) + 1 from by omega, runI_succ_go hg]
  dsimp only
  rw [show (runI code (M - (k + 1)) (mstepS code s).1).2 + 1 + k = (runI code (M - (k + 1)) (mstepS code s).1).2 + (k + 1) from by omega]
theorem RunAt.end {code : List Ins} {M k : Nat} {q : St × Nat} {s : St} (h : RunAt code M q k s) (hk : k < M) (hg : (mstepS code s).2 = false) : q = ((mstepS code s).1, k + 1) := by
  unfold RunAt at *
  rw [h, show M - k = (M - (k + 1)) + 1 from by omega, runI_succ_end hg]
  dsimp only
  rw [Nat.add_comm]
theorem RunAt.most {code : List Ins} {M : Nat} {q : St × Nat} {s : St} (h : RunAt code M q M s) : q = ({ s with fin := 6 }, M) := by
  unfold RunAt at *
  rw [h, Nat.sub_self, runI]
  simp
theorem good_facts {code : List Ins} {n : Nat} {most : Int} (h : goodB code n most = true) : code.length ≤ 32768 ∧ n ≤ 2097152 ∧ 0 ≤ most ∧ most ≤ 67108864 ∧ (code.any fun i => !i.right) = false := by
  unfold goodB at h
  simp only [Bool.and_eq_true, decide_eq_true_eq, Bool.not_eq_true'] at h
  exact ⟨h.1.1.1.1, h.1.1.1.2, h.1.1.2, h.1.2, h.2⟩
theorem right_all {code : List Ins} (h : (code.any fun i => !i.right) = false) {k : Nat} (hk : k < code.length) : code[k].right = true := by
  rw [List.any_eq_false] at h
  simpa using h _ (List.getElem_mem hk)
/-- the loop's way: so many steps are done -/
def RunRel (w wr : World) (r B g : Nat) (am : Option Addr) (n cm : Nat) (ca : Option Addr) (cc : Nat) (code : List Ins) (M : Nat) (q : St × Nat) (k : Nat) : Prop := ∃ s, s.mem.length = n ∧ MB w wr r B g am cm ca cc code s ∧ RunAt code M q k s

set_option maxRecDepth 100000 in
set_option maxHeartbeats 32000000 in
theorem run_good (w : World) (a : Option Addr) (c : Nat) (mem : List Int) (ca : Option Addr) (cc : Nat) (code : List Ins) (most : Int) (hg : goodB code mem.length most = true) (he : insRep.Els w ca code) (hi : IntsAt .i64 w a mem) (hmem : ∀ x ∈ mem, In64 x) :
    Calls Try.prog 15 #[.slice ca code.length cc, .slice a mem.length c, .int .i64 most] w (RunOut w (runI code most.toNat (St0 mem))) := by
  obtain ⟨g0, g1, g2, g3, hw⟩ := good_facts hg
  have hall : ∀ k, (hk : k < code.length) → code[k].right = true := fun k hk => right_all hw hk
  obtain ⟨M, rfl⟩ := Int.eq_ofNat_of_zero_le g2
  have hcf := fun W (hb : Below w.heap.size w W) => containsFuncI W ca cc code 23 _ run1_in (by unfold maxLen; omega) (he.below insRep hb (Nat.le_refl _)) (fun x hx w' => run1_any w' x hx)
  have hal := fun o => (Below.refl w.heap.size w).alloc (Nat.le_refl _) o
  have hnew := fun c => World.alloc_heap_new w (.cells c 26)
  have hcw := els_wf he
  rw [hw] at hcf
  obtain ⟨xb, hxb⟩ : ∃ xb, w.heap.size = xb := ⟨_, rfl⟩
  rw [hxb] at hnew
  have t0 : decide ((32768 : Int) < (code.length : Int)) = false := by simp; omega
  have t1 : decide ((2097152 : Int) < (mem.length : Int)) = false := by simp; omega
  have t2 : decide ((M : Int) < 0) = false := by simp
  have t3 : decide ((67108864 : Int) < (M : Int)) = false := by simp; omega
  have HCF := Lib.hid hcf; have HAL := Lib.hid hal; have HNEW := Lib.hid hnew; have HA := Lib.hid hall; have Hxb := Lib.hid hxb; have HE := Lib.hid he; have HI := Lib.hid hi; have HME := Lib.hid hmem; have HCW := Lib.hid hcw
  clear hcf he hal hnew hg hw hall hi hmem g2 hcw
  go_enter Try.func15, Try.ntmps15
  go_upto_region 4 with (go_at_call 24; refine (HCF.out _ (HAL.out _)).mono ?_; rintro e w1 ⟨rfl, hb1⟩)
  refine gen_world (fun W => Below w.heap.size w W ∧ ∃ c0, c0.size = 20 ∧ W.heap[xb]? = some (.cells c0 26 (0, 0))) ⟨(HAL.out _).trans (hb1.mono (by simp)), _, (by rfl), (block_below (HNEW.out _) hb1)⟩ ?_
  rintro W ⟨hbW, c0, hc0, hr0⟩
  have hlx := block_lt hr0
  have HB := Lib.hid hbW; have HR := Lib.hid hr0; have HC := Lib.hid hc0
  clear hbW hr0 hc0 t0 t1 t2 t3 hb1
  go_wp2_with fail
  refine (clone_n W a mem.length c mem rfl (by omega) (HI.out.below HB.out (Nat.le_refl _))).mono ?_
  rintro e w2 ⟨⟨v', rfl, hm2⟩, hb2⟩
  have hm2' : MemR W.heap.size w2 v' mem := hm2
  obtain ⟨a', c', rfl, _⟩ := MemR.form hm2'
  have HM2 := Lib.hid hm2'; have HB2 := Lib.hid hb2
  have hsz2 := hb2.size
  have HN2 := Lib.hid (fun (c : Array Value) => World.alloc_heap_new w2 (.cells c 49))
  obtain ⟨xm, hxm⟩ : ∃ xm, w2.heap.size = xm := ⟨_, rfl⟩
  clear hm2 hm2' hb2
  go_upto_region 5 with fail
  have hst : StB (w2.alloc (.cells (cellsSt (.slice a' mem.length c') (St0 mem) ++ [Value.slice ca code.length cc]).toArray 49)) xm 49 (.slice a' mem.length c') [.slice ca code.length cc] (St0 mem) := by
    rw [← hxm]; exact ⟨HN2.out _, rfl⟩
  have hbw : Below w.heap.size w (w2.alloc (.cells (cellsSt (.slice a' mem.length c') (St0 mem) ++ [Value.slice ca code.length cc]).toArray 49)) := (HB.out.trans (HB2.out.mono HB.out.size)).alloc (by have := HB.out.size; omega) _
  have hmb : MB w (w2.alloc (.cells (cellsSt (.slice a' mem.length c') (St0 mem) ++ [Value.slice ca code.length cc]).toArray 49)) xb W.heap.size xm a' c' ca cc code (St0 mem) :=
    ⟨hbw, ⟨c0, HC.out, block_alloc (block_below HR.out HB2.out) _⟩, ⟨hst, St0_wf HME.out, World.ownsRow.alloc HM2.out _, fun k hk => by have := (World.ownsRow.lt HM2.out k hk).2; omega, HE.out.below insRep hbw (Nat.le_refl _), by omega⟩, by rw [Hxb.out]; omega⟩
  refine gen_world (fun W4 => MB w W4 xb W.heap.size xm a' c' ca cc code (St0 mem)) hmb ?_
  intro W4 h4
  have hrun : RunRel w W4 xb W.heap.size xm a' mem.length c' ca cc code M (runI code M (St0 mem)) 0 := ⟨St0 mem, rfl, h4, by unfold RunAt; simp⟩
  obtain ⟨q, hq⟩ : ∃ q, runI code M (St0 mem) = q := ⟨_, rfl⟩
  have hM : ((M : Int)).toNat = M := by simp
  rw [hq] at hrun
  have H4 := Lib.hid h4; have HQ := Lib.hid hq; have HRUN := Lib.hid hrun; have HMM := Lib.hid hM
  clear h4 hq hst hbw hmb HN2 HB HR HC HM2 HB2 hrun hM hxm
  go_wp2_with fail
  go_loopw [41] (fun i wr => ∃ k : Nat, k ≤ M ∧ i = .int .i64 k ∧ RunRel w wr xb W.heap.size xm a' mem.length c' ca cc code M q k) (fun i _ => M - (intOf i).toNat)
  case atStart => exact ⟨0, Nat.zero_le _, rfl, HRUN.out⟩
  case round =>
    obtain ⟨k, hk, rfl, s, hsl, hmb, hat⟩ := hrel
    have HMB := Lib.hid hmb; have HSL := Lib.hid hsl; have HAT := Lib.hid hat
    clear hmb hsl hat
    by_cases hlt : k < M
    · obtain ⟨b, hb⟩ : ∃ b, (mstepS code s).2 = b := ⟨_, rfl⟩
      have hms := mstep_any _ xm _ _ _ _ _ code s HMB.out.sin (fun k hk _ => HA.out k hk)
      rw [hb] at hms
      cases b with
      | true =>
        have hgo := HAT.out.go hlt hb
        have HGO := Lib.hid hgo; have HMS := Lib.hid hms
        clear hgo hms hb
        go_wp2_with (go_at_call 20; refine HMS.out.mono ?_; rintro e w6 ⟨rfl, ho⟩)
        go_roundw
        case rel => exact ⟨k + 1, by omega, by go_num, _, (mstepS_memlen code s).trans HSL.out, HMB.out.next ho (mstepS_wf HCW.out (by omega) HMB.out.sin.wf) (mstepS_memlen code s) HE.out, HGO.out⟩
        case measure => simp [intOf]; omega
      | false =>
        have hend := HAT.out.end hlt hb
        have HEN := Lib.hid hend; have HMS := Lib.hid hms
        clear hend hms hb
        go_wp2_with fail
        refine HMS.out.mono ?_
        rintro e w6 ⟨rfl, ho⟩
        have hqq := HEN.out
        generalize hs1 : (mstepS code s).1 = s1 at ho hqq
        have hE := HMB.out.run ho
        obtain ⟨c5, hc5, hr5⟩ := hE.res
        have hl5 := hE.st.2
        have HE5 := Lib.hid hE; have HR5 := Lib.hid hr5; have HC5 := Lib.hid hc5; have HL5 := Lib.hid hl5; have HQQ := Lib.hid hqq
        clear ho hE hr5 hc5 hl5 hqq
        go_wp2_with (first
          | ((with_reducible show wpList _ _ _ ({ dst := some _, op := Op.load 26 (.tmp 49), type := _, pos := _, after := _, guard := _ } :: _) _ _); (refine wpList_load_mid rfl 26 _ rfl xm 0 rfl (cellsSt (.slice a' s.mem.length c') s1) _ HE5.out.st.range Try.underlying26 rfl (by rw [Try.sizeSt, cellsSt_len HL5.out]) ?_))
          | ((with_reducible show wpList _ _ _ ({ dst := none, op := Op.store 26 (.tmp 6) (.tmp _), type := _, pos := _, after := _, guard := _ } :: _) _ _); (refine wpList_store_whole rfl 26 _ _ rfl xb rfl c5 _ rfl 26 HR5.out (by rw [Try.sizeSt, List.size_toArray, cellsSt_len HL5.out]) (by rw [HC5.out, List.size_toArray, cellsSt_len HL5.out]) (by simpa using cellsSt_one rfl _) ?_); intro w' hr6 hg6))
        refine bodyPost_ret (v := .tuple #[.agg (cellsSt (.slice a' s.mem.length c') s1).toArray, .int .i64 ((k : Int) + 1), .int .i64 0]) (results_3 rfl _ _ xb 26 _ (0, 0) _ _ rfl rfl rfl hr6 (by rw [List.size_toArray, cellsSt_len HL5.out])) rfl ?_
        rw [HMM.out, HQ.out]
        exact HE5.out.run hg6 HQQ.out (by first | rfl | omega)
    · obtain rfl : k = M := by omega
      go_wp2_with fail
      refine (stop_any wr xm 6 HMB.out.sin.st).mono ?_
      rintro e w6 ⟨rfl, rfl⟩
      have hqq := HAT.out.most
      have ho := (HMB.out.sin.start (KB.refl _ _)).setFin HMB.out.sin.apart 6
      generalize hs1 : ({ s with fin := 6 } : St) = s1 at ho hqq
      have hE := HMB.out.run ho
      obtain ⟨c5, hc5, hr5⟩ := hE.res
      have hl5 := hE.st.2
      have HE5 := Lib.hid hE; have HR5 := Lib.hid hr5; have HC5 := Lib.hid hc5; have HL5 := Lib.hid hl5; have HQQ := Lib.hid hqq
      clear ho hE hr5 hc5 hl5 hqq
      go_wp2_with (first
        | ((with_reducible show wpList _ _ _ ({ dst := some _, op := Op.load 26 (.tmp 58), type := _, pos := _, after := _, guard := _ } :: _) _ _); (refine wpList_load_mid rfl 26 _ rfl xm 0 rfl (cellsSt (.slice a' s.mem.length c') s1) _ HE5.out.st.range Try.underlying26 rfl (by rw [Try.sizeSt, cellsSt_len HL5.out]) ?_))
        | ((with_reducible show wpList _ _ _ ({ dst := none, op := Op.store 26 (.tmp 6) (.tmp _), type := _, pos := _, after := _, guard := _ } :: _) _ _); (refine wpList_store_whole rfl 26 _ _ rfl xb rfl c5 _ rfl 26 HR5.out (by rw [Try.sizeSt, List.size_toArray, cellsSt_len HL5.out]) (by rw [HC5.out, List.size_toArray, cellsSt_len HL5.out]) (by simpa using cellsSt_one rfl _) ?_); intro w' hr6 hg6))
      refine bodyPost_ret (v := .tuple #[.agg (cellsSt (.slice a' s.mem.length c') s1).toArray, .int .i64 (k : Int), .int .i64 0]) (results_3 rfl _ _ xb 26 _ (0, 0) _ _ rfl rfl rfl hr6 (by rw [List.size_toArray, cellsSt_len HL5.out])) rfl ?_
      rw [HMM.out, HQ.out]
      exact HE5.out.run hg6 HQQ.out (by first | rfl | omega)
end Go.Proofs.Ytkgbjmmiomggbaa
