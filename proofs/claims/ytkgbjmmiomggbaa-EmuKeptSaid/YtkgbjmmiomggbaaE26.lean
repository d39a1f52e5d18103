import Derived.Test.YtkgbjmmiomggbaaE25
namespace Go.Proofs.Ytkgbjmmiomggbaa
open Go.RowKit
set_option linter.unusedVariables false
attribute [local go_sem ↓] Go.wp_at_zero Go.wp_at_succ

theorem stepI_fin (i : Ins) {s : St} (h : s.fin = 0) : ((stepI i s).2 = true ∧ (stepI i s).1.fin = 0) ∨ ((stepI i s).2 = false ∧ (stepI i s).1.fin ≠ 0) := by
  show (fun r : St × Bool => (r.2 = true ∧ r.1.fin = 0) ∨ (r.2 = false ∧ r.1.fin ≠ 0)) (stepI i s)
  unfold stepI
  repeat' (apply ite_pred (p := fun r : St × Bool => (r.2 = true ∧ r.1.fin = 0) ∨ (r.2 = false ∧ r.1.fin ≠ 0)))
  all_goals first | exact .inl ⟨rfl, h⟩ | (refine .inr ⟨rfl, ?_⟩; show (_ : Int) ≠ 0; dsimp only; omega)
theorem mstepS_fin (code : List Ins) {s : St} (h : s.fin = 0) : ((mstepS code s).2 = true ∧ (mstepS code s).1.fin = 0) ∨ ((mstepS code s).2 = false ∧ (mstepS code s).1.fin ≠ 0) := by
  unfold mstepS
  split
  · exact stepI_fin _ h
  · exact .inr ⟨rfl, by show (5 : Int) ≠ 0; decide⟩
theorem rstepS_all {code : List Ins} (h : ∀ k, (hk : k < code.length) → code[k].right = true) (s : St) : rstepS code s = (mstepS code s).1 := by
  by_cases hp : 0 ≤ s.pc ∧ s.pc < code.length
  · obtain ⟨k, hk⟩ := Int.eq_ofNat_of_zero_le hp.1
    exact rstepS_right (k := k) (by omega) hk (h k (by omega))
  · rw [rstepS_out hp]
    unfold mstepS
    rw [dif_neg hp]
theorem rstepS_memlen (code : List Ins) (s : St) : (rstepS code s).mem.length = s.mem.length := by
  unfold rstepS
  split
  · split
    · exact stepI_memlen _ _
    · rfl
  · rfl
/-- the reference's run, k steps done -/
def RefAt (code : List Ins) (M : Nat) (q : St × Nat) (k : Nat) (s : St) : Prop := (s.fin = 0 ∧ RunAt code M q k s) ∨ (s.fin ≠ 0 ∧ q = (s, k))
theorem RefAt.go {code : List Ins} {M k : Nat} {q : St × Nat} {s : St} (h : RunAt code M q k s) (hf : s.fin = 0) (hk : k < M) (ha : ∀ k, (hk : k < code.length) → code[k].right = true) : RefAt code M q (k + 1) (rstepS code s) := by
  rw [rstepS_all ha]
  rcases mstepS_fin code hf with ⟨h1, h2⟩ | ⟨h1, h2⟩
  · exact .inl ⟨h2, h.go hk h1⟩
  · exact .inr ⟨h2, h.end hk h1⟩

/-- the reference's run in memory: r: the answer's block; g: the state's -/
structure RB (w W : World) (r B g : Nat) (am : Option Addr) (cm : Nat) (s : St) : Prop where
  below : Below w.heap.size w W
  res : ∃ c, c.size = 20 ∧ W.heap[r]? = some (.cells c 26 (0, 0))
  st : StB W g 26 (.slice am s.mem.length cm) [] s
  mem : MemR B W (.slice am s.mem.length cm) s.mem
  apart : ∀ k, (Value.slice am s.mem.length cm).ownBlock = some k → k ≠ g
  ne : w.heap.size ≤ r ∧ r < B ∧ B ≤ g
  wf : s.wf
section
variable {w W W' : World} {r B g : Nat} {am : Option Addr} {cm : Nat} {s s1 : St} (h : RB w W r B g am cm s)
include h
theorem RB.step (hm : MemR B W' (.slice am s.mem.length cm) s1.mem) (hk : KB (fun b => (Value.slice am s.mem.length cm).ownBlock = some b) W W') {W2 : World} (hg : W'.grownBy W2 (some g)) (hr : W2.heap[g]? = some (.cells (cellsSt (.slice am s.mem.length cm) s1).toArray 26 (0, 0))) (hw : s1.wf) (hl : s1.mem.length = s.mem.length) : RB w W2 r B g am cm s1 := by
  have hn := h.ne
  have hbl := h.st.lt
  have hbs := h.below.size
  have hb : Below B W W' := hk.below (B := B) (by omega) (fun k hk => (World.ownsRow.lt h.mem k hk).1)
  have hb2 : Below B W W2 := hb.grown hg (by have := hb.size; omega) (fun k e => by cases e; exact hn.2.2)
  obtain ⟨c, h1, h2⟩ := h.res
  refine ⟨h.below.trans (hb2.mono (by omega)), ⟨c, h1, (hb2.block r hn.2.1).trans h2⟩, ⟨by rw [hl, List.append_nil]; exact hr, hw.len⟩, ?_, by rw [hl]; exact h.apart, hn, hw⟩
  rw [hl]
  exact World.ownsRow.kept hm hg (by
    cases hv : (Value.slice am s.mem.length cm).ownBlock with
    | none => exact .inl rfl
    | some k => exact .inr (fun e => by cases e; exact h.apart g hv rfl))
theorem RB.keep (hg : W.grownBy W' (some r)) : MemR w.heap.size W' (.slice am s.mem.length cm) s.mem ∧ Below w.heap.size w W' := by
  have hn := h.ne
  refine ⟨MemR.mono (World.ownsRow.kept h.mem hg ?_) (by omega), h.below.grown hg h.below.size (fun k e => by cases e; exact hn.1)⟩
  cases hv : (Value.slice am s.mem.length cm).ownBlock with
  | none => exact .inl rfl
  | some k => exact .inr (fun e => by have := (World.ownsRow.lt h.mem k hv).1; cases e; omega)
theorem RB.run (hg : W.grownBy W' (some r)) {q : St × Nat} {k : Nat} (he : q = (s, k)) : RunOut w q (.returned (.tuple #[.agg (cellsSt (.slice am s.mem.length cm) s).toArray, .int .i64 (k : Int), .int .i64 0])) W' := by
  subst he
  exact ⟨_, rfl, (h.keep hg).1, (h.keep hg).2⟩
theorem RB.fin (x : Int) (hx : In64 x) : RB w (W.setCell ⟨g, 18, none⟩ (.int .i64 x)) r B g am cm { s with fin := x } := by
  have hn := h.ne
  obtain ⟨c, h1, h2⟩ := h.res
  exact ⟨h.below.setCell (by show w.heap.size ≤ g; omega) _, ⟨c, h1, block_other (p := ⟨g, 18, none⟩) h2 (by show g ≠ r; omega) _⟩, h.st.setFin x, own_other (p := ⟨g, 18, none⟩) h.mem h.apart _, h.apart, hn, fin_wf h.wf hx⟩
end
/-- the loop's way -/
def RefRel (w wr : World) (r B g : Nat) (am : Option Addr) (n cm : Nat) (code : List Ins) (M : Nat) (q : St × Nat) (k : Nat) : Prop := ∃ s, s.mem.length = n ∧ RB w wr r B g am cm s ∧ RefAt code M q k s

set_option maxRecDepth 100000 in
set_option maxHeartbeats 32000000 in
theorem rRun_bad (w : World) (a : Option Addr) (c : Nat) (mem : List Int) (ca : Option Addr) (cc : Nat) (code : List Ins) (most : Int) (hg : goodB code mem.length most = false) (he : insRep.Els w ca code) :
    Calls Try.prog 16 #[.slice ca code.length cc, .slice a mem.length c, .int .i64 most] w fun e w' => e = .returned (.tuple #[.agg (cellsSt (.slice none 0 0) (St0 [])).toArray, .int .i64 0, .int .i64 160]) ∧ Below w.heap.size w w' := by
  have hcf := fun W (hb : Below w.heap.size w W) => rgood_any W a c mem.length ca cc code most (he.below insRep hb (Nat.le_refl _))
  have hal := fun o => (Below.refl w.heap.size w).alloc (Nat.le_refl _) o
  have hnew := fun c => World.alloc_heap_new w (.cells c 26)
  obtain ⟨xb, hxb⟩ : ∃ xb, w.heap.size = xb := ⟨_, rfl⟩
  rw [hxb] at hnew
  rw [hg] at hcf
  have HCF := Lib.hid hcf; have HAL := Lib.hid hal; have HNEW := Lib.hid hnew; have Hxb := Lib.hid hxb
  clear hcf he hal hnew hg
  go_enter Try.func16, Try.ntmps16
  go_upto_region 2 with (go_at_call 25; refine (HCF.out _ (HAL.out _)).mono ?_; rintro e w1 ⟨rfl, hb1⟩)
  refine gen_world (fun W => Below w.heap.size w W ∧ ∃ c0, c0.size = 20 ∧ W.heap[xb]? = some (.cells c0 26 (0, 0))) ⟨(HAL.out _).trans (hb1.mono (by simp)), _, (by rfl), (block_below (HNEW.out _) hb1)⟩ ?_
  rintro W ⟨hbW, c0, hc0, hr0⟩
  have HB := Lib.hid hbW; have HR := Lib.hid hr0; have HC := Lib.hid hc0
  clear hbW hr0 hc0
  go_wp2_with ((with_reducible show wpList _ _ _ ({ dst := none, op := Op.store 26 (.tmp 6) (.tmp _), type := _, pos := _, after := _, guard := _ } :: _) _ _); (refine wpList_store_whole rfl 26 _ _ rfl xb rfl c0 _ rfl 26 HR.out (by rw [Try.sizeSt]; rfl) (by rw [HC.out]; rfl) (cellsSt_one (v := .slice none 0 0) rfl (St0 [])) ?_); intro w' hr5 hg5)
  refine bodyPost_ret (v := .tuple #[.agg (cellsSt (.slice none 0 0) (St0 [])).toArray, .int .i64 0, .int .i64 160]) (results_3 rfl _ _ xb 26 _ (0, 0) _ _ rfl rfl rfl hr5 rfl) rfl ?_
  have hfin : Below w.heap.size w w' := HB.out.grown hg5 HB.out.size (fun k e => by cases e; rw [Hxb.out]; exact Nat.le_refl _)
  refine ⟨rfl, ?_⟩
  first | exact hfin | (rw [Hxb.out] at hfin; exact hfin)

set_option maxRecDepth 100000 in
set_option maxHeartbeats 32000000 in
theorem rRun_good (w : World) (a : Option Addr) (c : Nat) (mem : List Int) (ca : Option Addr) (cc : Nat) (code : List Ins) (most : Int) (hg : goodB code mem.length most = true) (he : insRep.Els w ca code) (hs : (Rep.int .i64).Sl w (.slice a mem.length c) mem) (hmem : ∀ x ∈ mem, In64 x) :
    Calls Try.prog 16 #[.slice ca code.length cc, .slice a mem.length c, .int .i64 most] w (RunOut w (runI code most.toNat (St0 mem))) := by
  obtain ⟨g0, g1, g2, g3, hw⟩ := good_facts hg
  have hall : ∀ k, (hk : k < code.length) → code[k].right = true := fun k hk => right_all hw hk
  obtain ⟨M, rfl⟩ := Int.eq_ofNat_of_zero_le g2
  have hcf := fun W (hb : Below w.heap.size w W) => rgood_any W a c mem.length ca cc code M (he.below insRep hb (Nat.le_refl _))
  have hsrc := fun W (hb : Below w.heap.size w W) => int_src (hs.below _ hb (Nat.le_refl _))
  have hal := fun o => (Below.refl w.heap.size w).alloc (Nat.le_refl _) o
  have hnew := fun c => World.alloc_heap_new w (.cells c 26)
  have hcw := els_wf he
  rw [hg] at hcf
  obtain ⟨xb, hxb⟩ : ∃ xb, w.heap.size = xb := ⟨_, rfl⟩
  rw [hxb] at hnew
  have HCF := Lib.hid hcf; have HAL := Lib.hid hal; have HNEW := Lib.hid hnew; have HA := Lib.hid hall; have Hxb := Lib.hid hxb; have HE := Lib.hid he; have HS := Lib.hid hsrc; have HME := Lib.hid hmem; have HCW := Lib.hid hcw
  clear hcf he hal hnew hg hw hall hs hsrc hmem g2 hcw
  go_enter Try.func16, Try.ntmps16
  go_upto_region 3 with (go_at_call 25; refine (HCF.out _ (HAL.out _)).mono ?_; rintro e w1 ⟨rfl, hb1⟩)
  refine gen_world (fun W => Below w.heap.size w W ∧ ∃ c0, c0.size = 20 ∧ W.heap[xb]? = some (.cells c0 26 (0, 0))) ⟨(HAL.out _).trans (hb1.mono (by simp)), _, (by rfl), (block_below (HNEW.out _) hb1)⟩ ?_
  rintro W ⟨hbW, c0, hc0, hr0⟩
  have hlx := block_lt hr0
  have HB := Lib.hid hbW; have HR := Lib.hid hr0; have HC := Lib.hid hc0
  clear hbW hr0 hc0 hb1
  go_wp2_with fail
  refine (copied_any W a c (St0 mem) rfl g1 (HS.out _ HB.out) (fun W' hb => HS.out _ (HB.out.trans (hb.mono HB.out.size)))).mono ?_
  rintro e w2 ⟨⟨v', rfl, hm2⟩, hb2⟩
  obtain ⟨a', c', rfl, _⟩ := MemR.form hm2
  have HM2 := Lib.hid hm2; have HB2 := Lib.hid hb2
  have hsz2 := hb2.size
  have HN2 := Lib.hid (fun (c : Array Value) => World.alloc_heap_new w2 (.cells c 26))
  obtain ⟨xm, hxm⟩ : ∃ xm, w2.heap.size = xm := ⟨_, rfl⟩
  clear hm2 hb2
  go_upto_region 5 with ((with_reducible show wpList _ _ _ ({ dst := none, op := Op.store 26 (.tmp 9) (.tmp _), type := _, pos := _, after := _, guard := _ } :: _) _ _); (refine wpList_store_whole rfl 26 _ _ rfl xm rfl _ _ rfl 26 (by rw [← hxm]; exact HN2.out _) (by rw [Try.sizeSt]; rfl) (by rfl) (by simpa using cellsSt_one rfl (St0 mem)) ?_); intro w3 hr5 hg5)
  have hbw : Below w.heap.size w w2 := HB.out.trans (HB2.out.mono HB.out.size)
  have hbz := hbw.size
  have hn : (w2.alloc (.cells (cellsSt (.slice none 0 0) (St0 [])).toArray 26)).heap[xm]? = some (.cells (cellsSt (.slice none 0 0) (St0 [])).toArray 26 (0, 0)) := by rw [← hxm]; exact HN2.out _
  have hrb : RB w w3 xb W.heap.size xm a' c' (St0 mem) := by
    refine ⟨(hbw.alloc hbz _).grown hg5 (by simp; omega) (fun k e => by cases e; omega), ⟨c0, HC.out, block_grown (block_alloc (block_below HR.out HB2.out) _) hg5 (fun e => by cases e; omega)⟩, ⟨by rw [List.append_nil]; exact hr5, rfl⟩, World.ownsRow.kept (World.ownsRow.alloc HM2.out _) hg5 ?_, fun k hk => by have := (World.ownsRow.lt HM2.out k hk).2; omega, by rw [Hxb.out]; omega, St0_wf HME.out⟩
    cases hv : (Value.slice a' (St0 mem).mem.length c').ownBlock with
    | none => exact .inl rfl
    | some k => exact .inr (fun e => by have := (World.ownsRow.lt HM2.out k hv).2; cases e; omega)
  refine gen_world (fun W4 => RB w W4 xb W.heap.size xm a' c' (St0 mem)) hrb ?_
  intro W4 h4
  obtain ⟨q, hq⟩ : ∃ q, runI code M (St0 mem) = q := ⟨_, rfl⟩
  have hrun : RefRel w W4 xb W.heap.size xm a' mem.length c' code M q 0 := ⟨St0 mem, rfl, h4, .inl ⟨rfl, by rw [← hq]; unfold RunAt; simp⟩⟩
  have hM : ((M : Int)).toNat = M := by simp
  have HQ := Lib.hid hq; have HRUN := Lib.hid hrun; have HMM := Lib.hid hM
  clear h4 hq hn hbw hrb HN2 HB HR HC HM2 HB2 hrun hM hxm hr5 hg5 hbz
  go_loopw [10] (fun i wr => ∃ k : Nat, k ≤ M ∧ i = .int .i64 k ∧ RefRel w wr xb W.heap.size xm a' mem.length c' code M q k) (fun i _ => M - (intOf i).toNat)
  case atStart => exact ⟨0, Nat.zero_le _, rfl, HRUN.out⟩
  case round =>
    obtain ⟨k, hk, rfl, s, hsl, hmb, hat⟩ := hrel
    have c18 := hmb.st.fin
    have hz0 : (0 : Int) ≤ (k : Int) := by omega
    rcases hat with ⟨hf, hat⟩ | ⟨hf, hat⟩
    · rw [hf] at c18
      by_cases hlt : k < M
      · have hgo := RefAt.go hat hf hlt HA.out
        have hlt' : (k : Int) < (M : Int) := by omega
        have hrow := hmb.st.row0
        have hle := hmb.wf.len
        have HMB := Lib.hid hmb; have HSL := Lib.hid hsl; have HGO := Lib.hid hgo; have HRO := Lib.hid hrow; have HLE := Lib.hid hle
        clear hmb hsl hat hf hgo hrow hle
        go_wp2_with ((with_reducible show wpList _ _ _ ({ dst := some _, op := Op.load 26 (.tmp 9), type := _, pos := _, after := _, guard := _ } :: _) _ _); (refine wpList_load_row rfl 26 _ rfl xm rfl 26 _ (0, 0) _ HRO.out Try.underlying26 rfl (by rw [Try.sizeSt, List.size_toArray, cellsSt_len HLE.out]) ?_))
        refine (rstep_all w wr W.heap.size a' c' ca cc code s HMB.out.wf HMB.out.mem HE.out (by rw [Hxb.out]; have := HMB.out.ne; omega) (HE.out.below insRep HMB.out.below (Nat.le_refl _)) (by omega)).mono ?_
        rintro e w5 ⟨rfl, hm5, hk5⟩
        have hwf5 := rstepS_wf HCW.out (by omega) HMB.out.wf
        have hml5 := rstepS_memlen code s
        have hrow5 := (hk5.block xm HMB.out.st.lt (fun e => HMB.out.apart _ e rfl)).trans HRO.out
        generalize rstepS code s = s1 at hm5 hwf5 hml5 hrow5 HGO ⊢
        have HM5 := Lib.hid hm5; have HK5 := Lib.hid hk5; have HW5 := Lib.hid hwf5; have HML5 := Lib.hid hml5; have HRO5 := Lib.hid hrow5
        clear hm5 hk5 hwf5 hml5 hrow5 c18
        go_wp2_with ((with_reducible show wpList _ _ _ ({ dst := none, op := Op.store 26 (.tmp 9) (.tmp _), type := _, pos := _, after := _, guard := _ } :: _) _ _); (refine wpList_store_whole rfl 26 _ _ rfl xm rfl _ _ rfl 26 HRO5.out (by rw [Try.sizeSt, List.size_toArray, cellsSt_len HW5.out.len]) (by rw [List.size_toArray, List.size_toArray, cellsSt_len HW5.out.len, cellsSt_len HLE.out]) (by simpa using cellsSt_one rfl _) ?_); intro w6 hr6 hg6)
        go_roundw
        case rel => exact ⟨k + 1, by omega, by go_num, s1, HML5.out.trans HSL.out, HMB.out.step HM5.out HK5.out hg6 hr6 HW5.out HML5.out, HGO.out⟩
        case measure => simp [intOf]; omega
      · obtain rfl : k = M := by omega
        have hqq := hat.most
        have hE := hmb.fin 6 ⟨by decide, by decide⟩
        have f18 := hmb.st.frozen 18
        have HE6 := Lib.hid hE; have HQ6 := Lib.hid hqq
        clear hmb hat hf hE hqq hsl
        go_upto_region 10 with fail
        have hE := HE6.out
        have hqq := HQ6.out
        clear HE6 HQ6 c18 f18
        obtain ⟨c5, hc5, hr5⟩ := hE.res
        have hl5 := hE.st.2
        have HE5 := Lib.hid hE; have HR5 := Lib.hid hr5; have HC5 := Lib.hid hc5; have HL5 := Lib.hid hl5; have HQQ := Lib.hid hqq
        clear hE hr5 hc5 hl5 hqq
        go_wp2_with (first
          | ((with_reducible show wpList _ _ _ ({ dst := some _, op := Op.load 26 (.tmp 9), type := _, pos := _, after := _, guard := _ } :: _) _ _); (refine wpList_load_row rfl 26 _ rfl xm rfl 26 _ (0, 0) _ HE5.out.st.row0 Try.underlying26 rfl (by rw [Try.sizeSt, List.size_toArray, cellsSt_len HL5.out]) ?_))
          | ((with_reducible show wpList _ _ _ ({ dst := none, op := Op.store 26 (.tmp 6) (.tmp _), type := _, pos := _, after := _, guard := _ } :: _) _ _); (refine wpList_store_whole rfl 26 _ _ rfl xb rfl c5 _ rfl 26 HR5.out (by rw [Try.sizeSt, List.size_toArray, cellsSt_len HL5.out]) (by rw [HC5.out, List.size_toArray, cellsSt_len HL5.out]) (by simpa using cellsSt_one rfl _) ?_); intro w' hr6 hg6))
        refine bodyPost_ret (v := .tuple #[.agg (cellsSt (.slice a' s.mem.length c') { s with fin := 6 }).toArray, .int .i64 (k : Int), .int .i64 0]) (results_3 rfl _ _ xb 26 _ (0, 0) _ _ rfl rfl rfl hr6 (by rw [List.size_toArray]; exact cellsSt_len HL5.out)) rfl ?_
        first | rw [HMM.out, HQ.out] | rw [HQ.out]
        exact HE5.out.run hg6 HQQ.out
    · have hf' : (s.fin == 0) = false := by simpa using hf
      have hE := hmb
      have HQ6 := Lib.hid hat
      clear hmb hf hsl
      go_upto_region 10 with fail
      have hqq := HQ6.out
      clear HQ6 c18 hf'
      obtain ⟨c5, hc5, hr5⟩ := hE.res
      have hl5 := hE.st.2
      have HE5 := Lib.hid hE; have HR5 := Lib.hid hr5; have HC5 := Lib.hid hc5; have HL5 := Lib.hid hl5; have HQQ := Lib.hid hqq
      clear hE hr5 hc5 hl5 hqq
      go_wp2_with (first
        | ((with_reducible show wpList _ _ _ ({ dst := some _, op := Op.load 26 (.tmp 9), type := _, pos := _, after := _, guard := _ } :: _) _ _); (refine wpList_load_row rfl 26 _ rfl xm rfl 26 _ (0, 0) _ HE5.out.st.row0 Try.underlying26 rfl (by rw [Try.sizeSt, List.size_toArray, cellsSt_len HL5.out]) ?_))
        | ((with_reducible show wpList _ _ _ ({ dst := none, op := Op.store 26 (.tmp 6) (.tmp _), type := _, pos := _, after := _, guard := _ } :: _) _ _); (refine wpList_store_whole rfl 26 _ _ rfl xb rfl c5 _ rfl 26 HR5.out (by rw [Try.sizeSt, List.size_toArray, cellsSt_len HL5.out]) (by rw [HC5.out, List.size_toArray, cellsSt_len HL5.out]) (by simpa using cellsSt_one rfl _) ?_); intro w' hr6 hg6))
      refine bodyPost_ret (v := .tuple #[.agg (cellsSt (.slice a' s.mem.length c') s).toArray, .int .i64 (k : Int), .int .i64 0]) (results_3 rfl _ _ xb 26 _ (0, 0) _ _ rfl rfl rfl hr6 (by rw [List.size_toArray]; exact cellsSt_len HL5.out)) rfl ?_
      first | rw [HMM.out, HQ.out] | rw [HQ.out]
      exact HE5.out.run hg6 HQQ.out
end Go.Proofs.Ytkgbjmmiomggbaa
