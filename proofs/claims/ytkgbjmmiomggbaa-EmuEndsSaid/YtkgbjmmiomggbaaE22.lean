import Derived.Test.YtkgbjmmiomggbaaE21
import Derived.Great.BuildSlice
namespace Go.Proofs.Ytkgbjmmiomggbaa
open Go.RowKit
set_option linter.unusedVariables false
attribute [local go_sem ↓] Go.wp_at_zero Go.wp_at_succ

set_option maxRecDepth 100000 in
/-- a state's cells, put into a machine of zeros -/
theorem fold_state (v : Value) (s : St) (hl : s.regs.length = 16) : List.foldl (fun (cs : Array Value) (x : Value × Nat) => cs.setIfInBounds x.snd x.fst) #[.int .i64 0, .int .i64 0, .int .i64 0, .int .i64 0, .int .i64 0, .int .i64 0, .int .i64 0, .int .i64 0, .int .i64 0, .int .i64 0, .int .i64 0, .int .i64 0, .int .i64 0, .int .i64 0, .int .i64 0, .int .i64 0, .slice none 0 0, .int .i64 0, .int .i64 0, .int .i32 0, .slice none 0 0] (cellsSt v s).zipIdx = (cellsSt v s ++ [Value.slice none 0 0]).toArray := by
  obtain ⟨regs, mem, pc, fin, told⟩ := s
  dsimp only at hl
  match regs, hl with
  | [r0, r1, r2, r3, r4, r5, r6, r7, r8, r9, r10, r11, r12, r13, r14, r15], _ => show List.foldl _ _ _ = _; kernel_rfl
theorem StB.mk_new (w : World) (v cv : Value) (s : St) (t : TypeId) (h : s.regs.length = 16) : StB (w.alloc (.cells (cellsSt v s ++ [cv]).toArray t)) w.heap.size t v [cv] s := ⟨World.alloc_heap_new w _, h⟩

/-- the machine is laid: what is known of the world W, reached from w; r: the block of the answer; B: from there on lies the machine's memory -/
structure MB (w W : World) (r B g : Nat) (am : Option Addr) (cm : Nat) (ca : Option Addr) (cc : Nat) (code : List Ins) (s : St) : Prop where
  below : Below w.heap.size w W
  res : ∃ c, c.size = 20 ∧ W.heap[r]? = some (.cells c 26 (0, 0))
  sin : SIn W g B am cm ca cc code s
  ne : w.heap.size ≤ r ∧ r < B ∧ B ≤ g
/-- .. and has run -/
structure ME (w W : World) (r B g : Nat) (v : Value) (cv : Value) (s : St) : Prop where
  below : Below w.heap.size w W
  res : ∃ c, c.size = 20 ∧ W.heap[r]? = some (.cells c 26 (0, 0))
  st : StB W g 49 v [cv] s
  mem : MemR B W v s.mem
  ne : w.heap.size ≤ r ∧ r < B ∧ B ≤ g
theorem MB.run {w W W' : World} {r B g : Nat} {am : Option Addr} {cm : Nat} {ca : Option Addr} {cc : Nat} {code : List Ins} {s s1 : St} (h : MB w W r B g am cm ca cc code s) (ho : SOut g B am cm ca cc code s.mem.length W s1 W') : ME w W' r B g (.slice am s.mem.length cm) (.slice ca code.length cc) s1 := by
  have hn := h.ne
  have hb : Below B W W' := ho.2.2.below (B := B) (by have := block_lt h.sin.st.1; omega) (fun k hk => by
    rcases hk with rfl | hk
    · exact hn.2.2
    · exact (World.ownsRow.lt h.sin.mem k hk).1)
  refine ⟨h.below.trans (hb.mono (by omega)), ?_, ho.1, ho.2.1, h.ne⟩
  obtain ⟨c, h1, h2⟩ := h.res
  exact ⟨c, h1, (hb.block r (by omega)).trans h2⟩
theorem ME.keep {w W W' : World} {r B g : Nat} {v cv : Value} {s : St} (h : ME w W r B g v cv s) (hg : W.grownBy W' (some r)) : MemR w.heap.size W' v s.mem ∧ Below w.heap.size w W' := by
  have hn := h.ne
  refine ⟨MemR.mono (World.ownsRow.kept h.mem hg ?_) (by omega), h.below.grown hg h.below.size (fun k e => by cases e; exact hn.1)⟩
  cases hv : v.ownBlock with
  | none => exact .inl rfl
  | some k => exact .inr (fun e => by have := (World.ownsRow.lt h.mem k hv).1; cases e; omega)
theorem ME.out {w W W' : World} {r B g : Nat} {v cv : Value} {s s0 : St} (h : ME w W r B g v cv s) (hg : W.grownBy W' (some r)) (he : s0 = s) : StepOut w s0 (.returned (.agg (cellsSt v s).toArray)) W' := by
  subst he
  exact ⟨_, rfl, (h.keep hg).1, (h.keep hg).2⟩
theorem SIn.below {w w' : World} {g B : Nat} {am : Option Addr} {cm : Nat} {ca : Option Addr} {cc : Nat} {code : List Ins} {s : St} (h : SIn w g B am cm ca cc code s) (hb : Below w.heap.size w w') : SIn w' g B am cm ca cc code s :=
  ⟨h.st.below hb, h.wf, own_below h.mem hb, h.apart, h.codeE.below insRep hb (Nat.le_refl _), h.len⟩
theorem MB.under {w W W' : World} {r B g : Nat} {am : Option Addr} {cm : Nat} {ca : Option Addr} {cc : Nat} {code : List Ins} {s : St} (h : MB w W r B g am cm ca cc code s) (hb : Below W.heap.size W W') : MB w W' r B g am cm ca cc code s :=
  ⟨h.below.trans (hb.mono h.below.size), let ⟨c, h1, h2⟩ := h.res; ⟨c, h1, block_below h2 hb⟩, h.sin.below hb, h.ne⟩
theorem rstepS_out {code : List Ins} {s : St} (h : ¬ (0 ≤ s.pc ∧ s.pc < code.length)) : rstepS code s = { s with fin := 5 } := by unfold rstepS; rw [dif_neg h]
theorem rstepS_wrong {code : List Ins} {s : St} {k : Nat} (hk : k < code.length) (hp : s.pc = k) (hr : code[k].right = false) : rstepS code s = { s with fin := 5 } := by
  unfold rstepS
  rw [dif_pos (by omega), if_neg (by simp [hp, hr])]
theorem rstepS_right {code : List Ins} {s : St} {k : Nat} (hk : k < code.length) (hp : s.pc = k) (hr : code[k].right = true) : rstepS code s = (mstepS code s).1 := by
  unfold rstepS mstepS
  rw [dif_pos (by omega), dif_pos (by omega), if_pos (by simp [hp, hr])]

set_option maxRecDepth 100000 in
set_option maxHeartbeats 16000000 in
theorem step_go (w : World) (a : Option Addr) (c : Nat) (ca : Option Addr) (cc : Nat) (code : List Ins) (s : St) (hwf : s.wf) (hf : s.fin = 0) (hm : s.mem.length ≤ 2097152) (hs : (Rep.int .i64).Sl w (.slice a s.mem.length c) s.mem) (he : insRep.Els w ca code) (hlen : code.length ≤ 9223372036854775807) :
    Calls Try.prog 12 #[.slice ca code.length cc, .agg (cellsSt (.slice a s.mem.length c) s).toArray] w (StepOut w (rstepS code s)) := by
  obtain ⟨xb, hxb⟩ : ∃ xb, w.heap.size = xb := ⟨_, rfl⟩
  have hl := hwf.len
  have hst := SB.start w (.slice a s.mem.length c) s hl
  have hint := (int_at hs).2
  rw [hxb] at hst
  have HST := Lib.hid hst; have HL := Lib.hid hl; have HF := Lib.hid hf; have Hwf := Lib.hid hwf; have HI := Lib.hid hint; have Hxb := Lib.hid hxb; have HE0 := Lib.hid he
  clear hst hl hf hwf hs he hint
  go_enter Try.func12, Try.ntmps12
  go_upto_region 1 with fail
  refine gen_world (fun W => SB w W xb (.slice a s.mem.length c) s) (HST.out _ (by rfl)) ?_
  intro W hW
  have c16 := hW.st.memv
  have c18 := hW.st.fin
  rw [HF.out] at c18
  obtain ⟨cr, hcr, hres⟩ := hW.res
  have HW := Lib.hid hW; have HR := Lib.hid hres; have HCR := Lib.hid hcr; clear hW hxb hres hcr
  go_wp2_with fail
  refine (clone_n W a s.mem.length c s.mem rfl (by omega) (HI.out.below HW.out.below (Nat.le_refl _))).mono ?_
  rintro e w2 ⟨⟨v', rfl, hm2⟩, hb2⟩
  have hm2' : MemR W.heap.size w2 v' s.mem := hm2
  obtain ⟨a', c', rfl, _⟩ := MemR.form hm2'
  have st2 := HW.out.st.below hb2
  have d16 := st2.memv
  have g16 := st2.frozen 16
  have hwx : xb + 2 ≤ W.heap.size := by have := block_lt HR.out; omega
  have hw2 := hb2.size
  have hs2 := st2.setMem (.slice a' s.mem.length c')
  have hres2 := block_other (p := ⟨xb, 16, none⟩) (block_below HR.out hb2) (by show xb ≠ xb + 1; omega) (.slice a' s.mem.length c')
  have hmem2 : MemR W.heap.size (w2.setCell ⟨xb, 16, none⟩ (.slice a' s.mem.length c')) (.slice a' s.mem.length c') s.mem := own_other (p := ⟨xb, 16, none⟩) hm2' (fun g hg => by have := (World.ownsRow.lt hm2' g hg).1; show g ≠ xb; omega) _
  have hb3 : Below w.heap.size w (w2.setCell ⟨xb, 16, none⟩ (.slice a' s.mem.length c')) := (HW.out.below.trans (hb2.mono HW.out.below.size)).setCell (by rw [Hxb.out]; exact Nat.le_refl _) _
  have HS2 := Lib.hid hs2; have HR2 := Lib.hid hres2; have HM2 := Lib.hid hmem2; have HB3 := Lib.hid hb3
  have h20 := cellsSt_len (v := .slice a' s.mem.length c') HL.out
  have hfold := fold_state (.slice a' s.mem.length c') s HL.out
  clear hm2 hm2' hb2 st2 hs2 hres2 hmem2 hb3 c16 c18
  go_upto_region 5 with (first
    | ((with_reducible show wpList _ _ _ ({ dst := some _, op := Op.load 26 (.tmp 3), type := _, pos := _, after := _, guard := _ } :: _) _ _); (refine wpList_load_row rfl 26 _ rfl xb rfl 26 _ (0, 0) _ HS2.out.row0 Try.underlying26 rfl (by rw [Try.sizeSt, List.size_toArray, cellsSt_len HL.out]) ?_)))
  obtain ⟨xm, hxm⟩ : ∃ xm, (w2.setCell ⟨xb, 16, none⟩ (.slice a' s.mem.length c')).heap.size = xm := ⟨_, rfl⟩
  have hxm' : w2.heap.size = xm := by simpa using hxm
  simp only [hxm']
  refine gen_world (fun W4 => MB w W4 (xb + 1) (xb + 2) xm a' c' ca cc code s) ⟨HB3.out.alloc HB3.out.size _, ⟨cr, HCR.out, block_alloc HR2.out _⟩, ⟨?_, Hwf.out, (MemR.mono (World.ownsRow.alloc HM2.out _) (by omega)), fun k hk => ?_, HE0.out.below insRep (HB3.out.alloc HB3.out.size _) (Nat.le_refl _), hlen⟩, ?_⟩ ?_
  · have := StB.mk_new (w2.setCell ⟨xb, 16, none⟩ (.slice a' s.mem.length c')) (.slice a' s.mem.length c') (.slice ca code.length cc) s 49 HL.out
    rwa [hxm] at this
  · have := (World.ownsRow.lt HM2.out k hk).2
    omega
  · rw [Hxb.out]; omega
  intro W4 h4
  have hpcs : (0 ≤ s.pc ∧ s.pc < code.length) ∨ s.pc < 0 ∨ (0 ≤ s.pc ∧ (code.length : Int) ≤ s.pc) := by omega
  have h17 := h4.sin.st.pc
  have h20' : W4.cell? ⟨xm, 20, none⟩ = some (.slice ca code.length cc) := h4.sin.st.rest 0
  have H4 := Lib.hid h4
  clear h4 h20 hfold HS2 HR2 HM2 HB3 d16 g16 HST hxm hxm' hw2
  rcases hpcs with hp | hp | hp
  · obtain ⟨k, hk⟩ := Int.eq_ofNat_of_zero_le hp.1
    have hlt : k < code.length := by omega
    rw [hk] at h17
    obtain ⟨b, off, rfl, hw, x0, x1, x2, x3, x4⟩ := els_ins H4.out.sin.codeE hlt
    have hq := fun W => isaRight_any W code[k].op code[k].a code[k].b code[k].c code[k].imm hw.op.1 hw.op.2
    have hrule : insRight code[k].op code[k].a code[k].b code[k].c code[k].imm = code[k].right := rfl
    rw [hrule] at hq
    have hz0 : (0 : Int) ≤ (k : Int) := by omega
    have hz1 : (k : Int) < (code.length : Int) := by omega
    cases hR : code[k].right with
    | false =>
      rw [hR] at hq
      have hrs := rstepS_wrong hlt hk hR
      have HQ := Lib.hid hq; have HRS0 := Lib.hid hrs
      clear hq hR hrs hrule hw hk hp
      go_wp2_with (go_at_call 17; refine (HQ.out _).mono ?_; rintro e w5 ⟨rfl, hb5⟩)
      refine (stop_any w5 xm 5 (H4.out.sin.st.below hb5)).mono ?_
      rintro e w6 ⟨rfl, rfl⟩
      have h5 := H4.out.under hb5
      have ho := ((h5.sin.start (KB.refl _ _)).setFin h5.sin.apart 5)
      have hrs := HRS0.out
      have H5 := Lib.hid h5; clear h5 HQ x0 x1 x2 x3 x4 HRS0 hb5
      generalize hs1 : ({ s with fin := 5 } : St) = s1 at ho hrs
      have hE := MB.run H5.out ho
      obtain ⟨c5, hc5, hr5⟩ := hE.res
      have hl5 := hE.st.2
      have HE5 := Lib.hid hE; have HR5 := Lib.hid hr5; have HC5 := Lib.hid hc5; have HL5 := Lib.hid hl5; have HRS := Lib.hid hrs
      clear ho hE hr5 hc5 hl5 hrs h17 h20'
      go_wp2_with (first
        | ((with_reducible show wpList _ _ _ ({ dst := some _, op := Op.load 26 (.tmp 52), type := _, pos := _, after := _, guard := _ } :: _) _ _); (refine wpList_load_mid rfl 26 _ rfl xm 0 rfl (cellsSt (.slice a' s.mem.length c') s1) _ HE5.out.st.range Try.underlying26 rfl (by rw [Try.sizeSt, cellsSt_len HL5.out]) ?_))
        | ((with_reducible show wpList _ _ _ ({ dst := none, op := Op.store 26 (.tmp 4) (.tmp _), type := _, pos := _, after := _, guard := _ } :: _) _ _); (refine wpList_store_whole rfl 26 _ _ rfl (xb + 1) rfl c5 _ rfl 26 HR5.out (by rw [Try.sizeSt, List.size_toArray, cellsSt_len HL5.out]) (by rw [HC5.out, List.size_toArray, cellsSt_len HL5.out]) (by simpa using cellsSt_one rfl _) ?_); intro w' hr6 hg6))
      refine bodyPost_ret (v := .agg (cellsSt (.slice a' s.mem.length c') s1).toArray) (results_cell_row rfl _ _ (xb + 1) 26 _ (0, 0) _ rfl hr6 Try.underlying26 rfl (by rw [Try.sizeSt, List.size_toArray, cellsSt_len HL5.out])) rfl ?_
      exact HE5.out.out hg6 HRS.out

    | true =>
      rw [hR] at hq
      have hrs := rstepS_right hlt hk hR
      have hall : ∀ k', (hk' : k' < code.length) → s.pc = k' → code[k'].right = true := fun k' hk' e => by
        obtain rfl : k' = k := by omega
        exact hR
      have HQ := Lib.hid hq; have HRS0 := Lib.hid hrs; have HA := Lib.hid hall
      clear hq hR hrs hall hrule hw hk hp
      go_wp2_with (go_at_call 17; refine (HQ.out _).mono ?_; rintro e w5 ⟨rfl, hb5⟩)
      have h5 := H4.out.under hb5
      refine (mstep_any w5 xm _ _ _ _ _ code s h5.sin HA.out).mono ?_
      rintro e w6 ⟨rfl, ho⟩
      have hrs := HRS0.out
      have H5 := Lib.hid h5; clear h5 HQ x0 x1 x2 x3 x4 HRS0 hb5 HA
      generalize hs1 : (mstepS code s).1 = s1 at ho hrs
      have hE := MB.run H5.out ho
      obtain ⟨c5, hc5, hr5⟩ := hE.res
      have hl5 := hE.st.2
      have HE5 := Lib.hid hE; have HR5 := Lib.hid hr5; have HC5 := Lib.hid hc5; have HL5 := Lib.hid hl5; have HRS := Lib.hid hrs
      clear ho hE hr5 hc5 hl5 hrs h17 h20'
      go_wp2_with (first
        | ((with_reducible show wpList _ _ _ ({ dst := some _, op := Op.load 26 (.tmp 52), type := _, pos := _, after := _, guard := _ } :: _) _ _); (refine wpList_load_mid rfl 26 _ rfl xm 0 rfl (cellsSt (.slice a' s.mem.length c') s1) _ HE5.out.st.range Try.underlying26 rfl (by rw [Try.sizeSt, cellsSt_len HL5.out]) ?_))
        | ((with_reducible show wpList _ _ _ ({ dst := none, op := Op.store 26 (.tmp 4) (.tmp _), type := _, pos := _, after := _, guard := _ } :: _) _ _); (refine wpList_store_whole rfl 26 _ _ rfl (xb + 1) rfl c5 _ rfl 26 HR5.out (by rw [Try.sizeSt, List.size_toArray, cellsSt_len HL5.out]) (by rw [HC5.out, List.size_toArray, cellsSt_len HL5.out]) (by simpa using cellsSt_one rfl _) ?_); intro w' hr6 hg6))
      refine bodyPost_ret (v := .agg (cellsSt (.slice a' s.mem.length c') s1).toArray) (results_cell_row rfl _ _ (xb + 1) 26 _ (0, 0) _ rfl hr6 Try.underlying26 rfl (by rw [Try.sizeSt, List.size_toArray, cellsSt_len HL5.out])) rfl ?_
      exact HE5.out.out hg6 HRS.out

  · have hnp : ¬ (0 ≤ s.pc ∧ s.pc < code.length) := by omega
    have hrs := rstepS_out hnp
    have HN := Lib.hid hnp; have HRS0 := Lib.hid hrs
    obtain ⟨p, hpe⟩ : ∃ p, s.pc = p := ⟨_, rfl⟩
    rw [hpe] at h17 hp
    clear hnp hrs hpe
    have h0' : decide (0 ≤ p) = false := by simpa using hp
    go_wp2_with fail
    refine (mstep_end W4 xm _ _ _ _ _ code s H4.out.sin HN.out).mono ?_
    rintro e w6 ⟨rfl, ho⟩
    have hrs := HRS0.out
    clear HRS0 HN h0'
    generalize hs1 : ({ s with fin := 5 } : St) = s1 at ho hrs
    have hE := MB.run H4.out ho
    obtain ⟨c5, hc5, hr5⟩ := hE.res
    have hl5 := hE.st.2
    have HE5 := Lib.hid hE; have HR5 := Lib.hid hr5; have HC5 := Lib.hid hc5; have HL5 := Lib.hid hl5; have HRS := Lib.hid hrs
    clear ho hE hr5 hc5 hl5 hrs h17 h20'
    go_wp2_with (first
      | ((with_reducible show wpList _ _ _ ({ dst := some _, op := Op.load 26 (.tmp 52), type := _, pos := _, after := _, guard := _ } :: _) _ _); (refine wpList_load_mid rfl 26 _ rfl xm 0 rfl (cellsSt (.slice a' s.mem.length c') s1) _ HE5.out.st.range Try.underlying26 rfl (by rw [Try.sizeSt, cellsSt_len HL5.out]) ?_))
      | ((with_reducible show wpList _ _ _ ({ dst := none, op := Op.store 26 (.tmp 4) (.tmp _), type := _, pos := _, after := _, guard := _ } :: _) _ _); (refine wpList_store_whole rfl 26 _ _ rfl (xb + 1) rfl c5 _ rfl 26 HR5.out (by rw [Try.sizeSt, List.size_toArray, cellsSt_len HL5.out]) (by rw [HC5.out, List.size_toArray, cellsSt_len HL5.out]) (by simpa using cellsSt_one rfl _) ?_); intro w' hr6 hg6))
    refine bodyPost_ret (v := .agg (cellsSt (.slice a' s.mem.length c') s1).toArray) (results_cell_row rfl _ _ (xb + 1) 26 _ (0, 0) _ rfl hr6 Try.underlying26 rfl (by rw [Try.sizeSt, List.size_toArray, cellsSt_len HL5.out])) rfl ?_
    exact HE5.out.out hg6 HRS.out

  · have hnp : ¬ (0 ≤ s.pc ∧ s.pc < code.length) := by omega
    have hrs := rstepS_out hnp
    have HN := Lib.hid hnp; have HRS0 := Lib.hid hrs
    obtain ⟨p, hpe⟩ : ∃ p, s.pc = p := ⟨_, rfl⟩
    rw [hpe] at h17 hp
    clear hnp hrs hpe
    obtain ⟨hp0, hp1⟩ := hp
    have h1' : decide (p < (code.length : Int)) = false := by simpa using hp1
    go_wp2_with fail
    refine (mstep_end W4 xm _ _ _ _ _ code s H4.out.sin HN.out).mono ?_
    rintro e w6 ⟨rfl, ho⟩
    have hrs := HRS0.out
    clear HRS0 HN h1'
    generalize hs1 : ({ s with fin := 5 } : St) = s1 at ho hrs
    have hE := MB.run H4.out ho
    obtain ⟨c5, hc5, hr5⟩ := hE.res
    have hl5 := hE.st.2
    have HE5 := Lib.hid hE; have HR5 := Lib.hid hr5; have HC5 := Lib.hid hc5; have HL5 := Lib.hid hl5; have HRS := Lib.hid hrs
    clear ho hE hr5 hc5 hl5 hrs h17 h20'
    go_wp2_with (first
      | ((with_reducible show wpList _ _ _ ({ dst := some _, op := Op.load 26 (.tmp 52), type := _, pos := _, after := _, guard := _ } :: _) _ _); (refine wpList_load_mid rfl 26 _ rfl xm 0 rfl (cellsSt (.slice a' s.mem.length c') s1) _ HE5.out.st.range Try.underlying26 rfl (by rw [Try.sizeSt, cellsSt_len HL5.out]) ?_))
      | ((with_reducible show wpList _ _ _ ({ dst := none, op := Op.store 26 (.tmp 4) (.tmp _), type := _, pos := _, after := _, guard := _ } :: _) _ _); (refine wpList_store_whole rfl 26 _ _ rfl (xb + 1) rfl c5 _ rfl 26 HR5.out (by rw [Try.sizeSt, List.size_toArray, cellsSt_len HL5.out]) (by rw [HC5.out, List.size_toArray, cellsSt_len HL5.out]) (by simpa using cellsSt_one rfl _) ?_); intro w' hr6 hg6))
    refine bodyPost_ret (v := .agg (cellsSt (.slice a' s.mem.length c') s1).toArray) (results_cell_row rfl _ _ (xb + 1) 26 _ (0, 0) _ rfl hr6 Try.underlying26 rfl (by rw [Try.sizeSt, List.size_toArray, cellsSt_len HL5.out])) rfl ?_
    exact HE5.out.out hg6 HRS.out

end Go.Proofs.Ytkgbjmmiomggbaa
