import Derived.Test.YtkgbjmmiomggbaaE18
import Derived.Test.YtkgbjmmiomggbaaE20
import Derived.Deep.MidRow
namespace Go.Proofs.Ytkgbjmmiomggbaa
open Go.RowKit
set_option linter.unusedVariables false
attribute [local go_sem ↓] Go.wp_at_zero Go.wp_at_succ

set_option maxRecDepth 100000 in
theorem built_machine (v : Value) (s : St) (hl : s.regs.length = 16) (ca : Option Addr) (cn cc : Nat) : Try.prog.built 49 [(0, .agg (cellsSt v s).toArray), (1, .slice ca cn cc)] = some (cellsSt v s ++ [Value.slice ca cn cc]).toArray := by
  obtain ⟨regs, mem, pc, fin, told⟩ := s
  dsimp only at hl
  match regs, hl with
  | [r0, r1, r2, r3, r4, r5, r6, r7, r8, r9, r10, r11, r12, r13, r14, r15], _ => show Try.prog.built 49 _ = _; kernel_rfl
theorem run_machine (v : Value) (s : St) (hl : s.regs.length = 16) (ca : Option Addr) (cn cc : Nat) (W : World) : (Instr.build 49 #[(0, .agg (cellsSt v s).toArray), (1, .slice ca cn cc)]).run Try.prog W = .ok (.agg (cellsSt v s ++ [Value.slice ca cn cc]).toArray) W := run_build W _ _ _ (built_machine v s hl ca cn cc)

theorem rstepS_len (code : List Ins) {s : St} (h : s.regs.length = 16) : (rstepS code s).regs.length = 16 := by
  unfold rstepS
  split
  · split
    · exact stepI_len _ h
    · exact h
  · exact h
/-- it came back with the state s1, its cells in memory of its own -/
def StepOut (w : World) (s1 : St) (e : Ending) (w' : World) : Prop := ∃ v', e = .returned (.agg (cellsSt v' s1).toArray) ∧ MemR w.heap.size w' v' s1.mem ∧ Below w.heap.size w w'

theorem StB.range {w : World} {g : Nat} {t : TypeId} {v : Value} {more : List Value} {s : St} (h : StB w g t v more s) : w.rangeAt g 0 (cellsSt v s) := fun j u hj => by
  have hlt := (List.getElem?_eq_some_iff.1 hj).1
  rw [cellsSt_len h.2] at hlt
  rw [Nat.zero_add, h.at hlt, hj]

set_option maxRecDepth 100000 in
set_option maxHeartbeats 8000000 in
theorem step_stop (w : World) (v : Value) (ca : Option Addr) (n cc : Nat) (s : St) (hl : s.regs.length = 16) (hv : v.oneCell' = true) (hf : s.fin ≠ 0) :
    Calls Try.prog 12 #[.slice ca n cc, .agg (cellsSt v s).toArray] w fun e w' => e = .returned (.agg (cellsSt v s).toArray) ∧ Below w.heap.size w w' := by
  obtain ⟨xb, hxb⟩ : ∃ xb, w.heap.size = xb := ⟨_, rfl⟩
  have hst := SB.start w v s hl
  rw [hxb] at hst
  have hf' : (s.fin == 0) = false := by simpa using hf
  have HST := Lib.hid hst; have HL := Lib.hid hl; have HV := Lib.hid hv; have Hxb := Lib.hid hxb
  clear hst hl hf hv
  go_enter Try.func12, Try.ntmps12
  go_upto_region 1 with fail
  refine gen_world (fun W => SB w W xb v s) (HST.out _ (by rfl)) ?_
  intro W hW
  have c18 := hW.st.fin
  obtain ⟨cr, hcr, hres⟩ := hW.res
  have HW := Lib.hid hW; have HR := Lib.hid hres; have HCR := Lib.hid hcr; clear hW hxb hres hcr
  go_wp2_with (first
    | ((with_reducible show wpList _ _ _ ({ dst := some _, op := Op.load 26 (.tmp 3), type := _, pos := _, after := _, guard := _ } :: _) _ _); (refine wpList_load_row rfl 26 _ rfl xb rfl 26 _ (0, 0) _ HW.out.st.row0 Try.underlying26 rfl (by rw [Try.sizeSt, List.size_toArray, cellsSt_len HL.out]) ?_))
    | ((with_reducible show wpList _ _ _ ({ dst := none, op := Op.store 26 (.tmp 4) (.tmp _), type := _, pos := _, after := _, guard := _ } :: _) _ _); (refine wpList_store_whole rfl 26 _ _ rfl (xb + 1) rfl cr _ rfl 26 HR.out (by rw [Try.sizeSt, List.size_toArray, cellsSt_len HL.out]) (by rw [HCR.out, List.size_toArray, cellsSt_len HL.out]) (by simpa using cellsSt_one HV.out _) ?_); intro w' hr5 hg5))
  refine bodyPost_ret (v := .agg (cellsSt v s).toArray) (results_cell_row rfl _ _ (xb + 1) 26 _ (0, 0) _ rfl hr5 Try.underlying26 rfl (by rw [Try.sizeSt, List.size_toArray, cellsSt_len HL.out])) rfl ?_
  exact ⟨rfl, HW.out.below.grown hg5 HW.out.below.size (fun k e => by cases e; rw [Hxb.out]; omega)⟩

set_option maxRecDepth 100000 in
set_option maxHeartbeats 8000000 in
theorem rStep_stop (w : World) (v : Value) (ca : Option Addr) (n cc : Nat) (s : St) (hl : s.regs.length = 16) (hv : v.oneCell' = true) (hf : s.fin ≠ 0) :
    Calls Try.prog 13 #[.slice ca n cc, .agg (cellsSt v s).toArray] w fun e w' => e = .returned (.agg (cellsSt v s).toArray) ∧ Below w.heap.size w w' := by
  obtain ⟨xb, hxb⟩ : ∃ xb, w.heap.size = xb := ⟨_, rfl⟩
  have hst := SB.start w v s hl
  rw [hxb] at hst
  have hf' : (s.fin == 0) = false := by simpa using hf
  have HST := Lib.hid hst; have HL := Lib.hid hl; have HV := Lib.hid hv; have Hxb := Lib.hid hxb
  clear hst hl hf hv
  go_enter Try.func13, Try.ntmps13
  go_upto_region 1 with fail
  refine gen_world (fun W => SB w W xb v s) (HST.out _ (by rfl)) ?_
  intro W hW
  have c18 := hW.st.fin
  obtain ⟨cr, hcr, hres⟩ := hW.res
  have HW := Lib.hid hW; have HR := Lib.hid hres; have HCR := Lib.hid hcr; clear hW hxb hres hcr
  go_wp2_with (first
    | ((with_reducible show wpList _ _ _ ({ dst := some _, op := Op.load 26 (.tmp 3), type := _, pos := _, after := _, guard := _ } :: _) _ _); (refine wpList_load_row rfl 26 _ rfl xb rfl 26 _ (0, 0) _ HW.out.st.row0 Try.underlying26 rfl (by rw [Try.sizeSt, List.size_toArray, cellsSt_len HL.out]) ?_))
    | ((with_reducible show wpList _ _ _ ({ dst := none, op := Op.store 26 (.tmp 4) (.tmp _), type := _, pos := _, after := _, guard := _ } :: _) _ _); (refine wpList_store_whole rfl 26 _ _ rfl (xb + 1) rfl cr _ rfl 26 HR.out (by rw [Try.sizeSt, List.size_toArray, cellsSt_len HL.out]) (by rw [HCR.out, List.size_toArray, cellsSt_len HL.out]) (by simpa using cellsSt_one HV.out _) ?_); intro w' hr5 hg5))
  refine bodyPost_ret (v := .agg (cellsSt v s).toArray) (results_cell_row rfl _ _ (xb + 1) 26 _ (0, 0) _ rfl hr5 Try.underlying26 rfl (by rw [Try.sizeSt, List.size_toArray, cellsSt_len HL.out])) rfl ?_
  exact ⟨rfl, HW.out.below.grown hg5 HW.out.below.size (fun k e => by cases e; rw [Hxb.out]; omega)⟩

/-- the reference's step, whatever the code's length -/
theorem rstep_all (w0 w : World) (B : Nat) (am : Option Addr) (cm : Nat) (ca : Option Addr) (cc : Nat) (code : List Ins) (s : St) (hwf : s.wf) (hm : MemR B w (.slice am s.mem.length cm) s.mem) (he0 : insRep.Els w0 ca code) (hb : w0.heap.size ≤ B) (he : insRep.Els w ca code) (hlen : code.length ≤ 9223372036854775807) :
    Calls Try.prog 21 #[.slice ca code.length cc, .agg (cellsSt (.slice am s.mem.length cm) s).toArray] w (ROut B am cm s.mem.length w (rstepS code s)) := by
  by_cases h0 : 0 < code.length
  · refine rstep_any w B am cm ca cc code s hwf hm he hlen fun b off e => ?_
    obtain ⟨b', off', e', _, x, _⟩ := els_ins he0 h0
    rw [e] at e'
    cases e'
    have : b < w0.heap.size := World.block_lt_of_cell? w0 _ x
    omega
  · have hz : code.length = 0 := by omega
    have hp : ¬ (0 ≤ s.pc ∧ s.pc < code.length) := by omega
    rw [show rstepS code s = { s with fin := 5 } from by unfold rstepS; rw [dif_neg hp]]
    by_cases h0 : s.pc < 0
    · exact rstep_neg w B am cm ca cc code s hwf hm hlen h0
    · exact rstep_over w B am cm ca cc code s hwf hm hlen (by omega) (by omega)

set_option maxRecDepth 100000 in
set_option maxHeartbeats 8000000 in
theorem rStep_go (w : World) (a : Option Addr) (c : Nat) (ca : Option Addr) (cc : Nat) (code : List Ins) (s : St) (hwf : s.wf) (hf : s.fin = 0) (hm : s.mem.length ≤ 2097152) (hs : (Rep.int .i64).Sl w (.slice a s.mem.length c) s.mem) (he : insRep.Els w ca code) (hlen : code.length ≤ 9223372036854775807) :
    Calls Try.prog 13 #[.slice ca code.length cc, .agg (cellsSt (.slice a s.mem.length c) s).toArray] w (StepOut w (rstepS code s)) := by
  obtain ⟨xb, hxb⟩ : ∃ xb, w.heap.size = xb := ⟨_, rfl⟩
  have hl := hwf.len
  have hst := SB.start w (.slice a s.mem.length c) s hl
  have hsrc := fun W (hb : Below w.heap.size w W) => int_src (hs.below _ hb (Nat.le_refl _))
  have hel := fun W (hb : Below w.heap.size w W) => he.below insRep hb (Nat.le_refl _)
  rw [hxb] at hst hsrc hel
  have HST := Lib.hid hst; have HL := Lib.hid hl; have HF := Lib.hid hf; have Hwf := Lib.hid hwf; have HS := Lib.hid hsrc; have HE := Lib.hid hel; have Hxb := Lib.hid hxb; have HE0 := Lib.hid he
  clear hst hl hf hwf hs hsrc he hel
  go_enter Try.func13, Try.ntmps13
  go_upto_region 1 with fail
  refine gen_world (fun W => SB w W xb (.slice a s.mem.length c) s) (HST.out _ (by rfl)) ?_
  intro W hW
  have c18 := hW.st.fin
  rw [HF.out] at c18
  obtain ⟨cr, hcr, hres⟩ := hW.res
  have hbw := hW.below
  rw [hxb] at hbw
  have HW := Lib.hid hW; have HR := Lib.hid hres; have HCR := Lib.hid hcr; have HBW := Lib.hid hbw; clear hW hxb hres hcr hbw
  go_wp2_with (first
    | ((with_reducible show wpList _ _ _ ({ dst := some _, op := Op.load 26 (.tmp 3), type := _, pos := _, after := _, guard := _ } :: _) _ _); (refine wpList_load_row rfl 26 _ rfl xb rfl 26 _ (0, 0) _ HW.out.st.row0 Try.underlying26 rfl (by rw [Try.sizeSt, List.size_toArray, cellsSt_len HL.out]) ?_))
    )
  refine (copied_any W a c s HL.out hm (HS.out _ HBW.out) (fun W' hb => HS.out _ (HBW.out.trans (hb.mono (by rw [← Hxb.out]; exact HBW.out.size))))).mono ?_
  rintro e w2 ⟨⟨v', rfl, hm2⟩, hb2⟩
  obtain ⟨a', c', rfl, _⟩ := MemR.form hm2
  have HM2 := Lib.hid hm2; have HB2 := Lib.hid hb2
  clear hm2 hb2 c18
  go_wp2_with fail
  refine (rstep_all W w2 W.heap.size a' c' ca cc code s Hwf.out HM2.out (HE.out _ HBW.out) (Nat.le_refl _) (HE.out _ (HBW.out.trans (HB2.out.mono (by rw [← Hxb.out]; exact HBW.out.size)))) hlen).mono ?_
  rintro e w3 ⟨rfl, hm3, hk3⟩
  obtain ⟨s1, hs1⟩ : ∃ s1, rstepS code s = s1 := ⟨_, rfl⟩
  rw [hs1] at hm3 ⊢
  have hl1 : s1.regs.length = 16 := by rw [← hs1]; exact rstepS_len code Hwf.out.len
  have hb3 : Below W.heap.size W w3 := HB2.out.trans (hk3.below (B := W.heap.size) HB2.out.size (fun g hg => (World.ownsRow.lt HM2.out g hg).1))
  have hr3 := block_below HR.out hb3
  have HR3 := Lib.hid hr3; have HL1 := Lib.hid hl1; have HM3 := Lib.hid hm3; have HB3 := Lib.hid hb3
  have hrl := block_lt HR.out
  have HS1 := Lib.hid hs1
  clear hr3 hl1 hm3 hk3 hs1 hb3
  go_wp2_with ((with_reducible show wpList _ _ _ ({ dst := none, op := Op.store 26 (.tmp 4) (.tmp _), type := _, pos := _, after := _, guard := _ } :: _) _ _); (refine wpList_store_whole rfl 26 _ _ rfl (xb + 1) rfl cr _ rfl 26 HR3.out (by rw [Try.sizeSt, List.size_toArray, cellsSt_len HL1.out]) (by rw [HCR.out, List.size_toArray, cellsSt_len HL1.out]) (by simpa using cellsSt_one rfl _) ?_); intro w' hr5 hg5)
  refine bodyPost_ret (v := .agg (cellsSt (.slice a' s.mem.length c') s1).toArray) (results_cell_row rfl _ _ (xb + 1) 26 _ (0, 0) _ rfl hr5 Try.underlying26 rfl (by rw [Try.sizeSt, List.size_toArray, cellsSt_len HL1.out])) rfl ?_
  have hb4 : Below w.heap.size w w3 := HW.out.below.trans (HB3.out.mono HW.out.below.size)
  rw [HS1.out]
  refine ⟨_, rfl, ?_, hb4.grown hg5 hb4.size (fun k e => by cases e; rw [Hxb.out]; omega)⟩
  exact MemR.mono (World.ownsRow.kept HM3.out hg5 (by
    cases hv : (Value.slice a' s.mem.length c').ownBlock with
    | none => exact .inl rfl
    | some k => exact .inr (fun e => by have := (World.ownsRow.lt HM3.out k hv).1; cases e; omega))) HW.out.below.size
end Go.Proofs.Ytkgbjmmiomggbaa
