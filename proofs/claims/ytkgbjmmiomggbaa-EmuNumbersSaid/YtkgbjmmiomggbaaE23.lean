import Derived.Test.YtkgbjmmiomggbaaE22
import Derived.Test.YtkgbjmmiomggbaaCF
namespace Go.Proofs.Ytkgbjmmiomggbaa
open Go.RowKit
set_option linter.unusedVariables false
attribute [local go_sem ↓] Go.wp_at_zero Go.wp_at_succ

/-- a run of so many steps at most: its end, how many it did -/
def runI (code : List Ins) : Nat → St → St × Nat
  | 0, s => ({ s with fin := 6 }, 0)
  | n + 1, s => if (mstepS code s).2 then ((runI code n (mstepS code s).1).1, (runI code n (mstepS code s).1).2 + 1) else ((mstepS code s).1, 1)
def goodB (code : List Ins) (n : Nat) (most : Int) : Bool := decide (code.length ≤ 32768) && decide (n ≤ 2097152) && decide (0 ≤ most) && decide (most ≤ 67108864) && !(code.any fun i => !i.right)
def St0 (mem : List Int) : St := ⟨List.replicate 16 0, mem, 0, 0, 0⟩
theorem St0_wf {mem : List Int} (h : ∀ x ∈ mem, In64 x) : (St0 mem).wf :=
  ⟨by simp [St0], by intro x hx; simp [St0] at hx; subst hx; exact ⟨by decide, by decide⟩, h, (show In64 0 from ⟨by decide, by decide⟩), (show In64 0 from ⟨by decide, by decide⟩), (show (-2147483648 : Int) ≤ 0 ∧ (0 : Int) ≤ 2147483647 from ⟨by decide, by decide⟩)⟩
theorem stepI_memlen (i : Ins) (s : St) : (stepI i s).1.mem.length = s.mem.length := by
  show (fun r : St × Bool => r.1.mem.length = s.mem.length) (stepI i s)
  unfold stepI
  repeat' (apply ite_pred (p := fun r : St × Bool => r.1.mem.length = s.mem.length))
  all_goals first | rfl | simp
theorem mstepS_memlen (code : List Ins) (s : St) : (mstepS code s).1.mem.length = s.mem.length := by
  unfold mstepS
  split
  · exact stepI_memlen _ _
  · rfl
theorem mstepS_wf {code : List Ins} {s : St} (hc : ∀ x ∈ code, x.wf) (hl : code.length ≤ 9223372036854775807) (hs : s.wf) : (mstepS code s).1.wf := by
  unfold mstepS
  split
  · rename_i h
    exact stepI_wf (hc _ (List.getElem_mem _)) hs ⟨by omega, by omega⟩
  · exact fin_wf hs ⟨by decide, by decide⟩
theorem rstepS_wf {code : List Ins} {s : St} (hc : ∀ x ∈ code, x.wf) (hl : code.length ≤ 9223372036854775807) (hs : s.wf) : (rstepS code s).wf := by
  unfold rstepS
  split
  · rename_i h
    split
    · exact stepI_wf (hc _ (List.getElem_mem _)) hs ⟨by omega, by omega⟩
    · exact fin_wf hs ⟨by decide, by decide⟩
  · exact fin_wf hs ⟨by decide, by decide⟩
theorem els_wf {w : World} {a : Option Addr} {x : List Ins} (h : insRep.Els w a x) : ∀ p ∈ x, p.wf := fun p hp => by
  obtain ⟨k, hk, rfl⟩ := List.getElem_of_mem hp
  obtain ⟨_, _, _, hw, _⟩ := els_ins h hk
  exact hw
/-- a run came back -/
def RunOut (w : World) (r : St × Nat) (e : Ending) (w' : World) : Prop := ∃ v', e = .returned (.tuple #[.agg (cellsSt v' r.1).toArray, .int .i64 (r.2 : Int), .int .i64 0]) ∧ MemR w.heap.size w' v' r.1.mem ∧ Below w.heap.size w w'
theorem ME.run {w W W' : World} {r B g k : Nat} {v cv : Value} {s : St} {q : St × Nat} (h : ME w W r B g v cv s) (hg : W.grownBy W' (some r)) (he : q = (s, k)) {x : Int} (hx : x = k) : RunOut w q (.returned (.tuple #[.agg (cellsSt v s).toArray, .int .i64 x, .int .i64 0])) W' := by
  subst he; subst hx
  exact ⟨_, rfl, (h.keep hg).1, (h.keep hg).2⟩
theorem MB.next {w W W' : World} {r B g : Nat} {am : Option Addr} {cm : Nat} {ca : Option Addr} {cc : Nat} {code : List Ins} {s s1 : St} (h : MB w W r B g am cm ca cc code s) (ho : SOut g B am cm ca cc code s.mem.length W s1 W') (hw : s1.wf) (hl : s1.mem.length = s.mem.length) (he0 : insRep.Els w ca code) : MB w W' r B g am cm ca cc code s1 := by
  have hE := h.run ho
  refine ⟨hE.below, hE.res, ⟨by rw [hl]; exact ho.1, hw, by rw [hl]; exact ho.2.1, by rw [hl]; exact h.sin.apart, he0.below insRep hE.below (Nat.le_refl _), h.sin.len⟩, h.ne⟩
theorem results_3 {fn : Func} {p q r : Tmp} (h : fn.results = #[.cell p 26, .tmp q, .tmp r]) (tmps : Array Value) (w : World) (g : Nat) (t : TypeId) (cs : Array Value) (fr : Nat × Nat) (x y : Value)
    (hp : tmps.getD p undef = .pointer (some ⟨g, 0, none⟩)) (hq : tmps.getD q undef = x) (hr : tmps.getD r undef = y) (hg : w.heap[g]? = some (.cells cs t fr)) (hi : cs.size = 20) :
    (results fn tmps).run Try.prog w = .ok (.tuple #[.agg cs, x, y]) w := by
  have hp' : tmps[p]?.getD undef = .pointer (some ⟨g, 0, none⟩) := by simpa using hp
  have hq' : tmps[q]?.getD undef = x := by simpa using hq
  have hr' : tmps[r]?.getD undef = y := by simpa using hr
  simp [results, h, hp', hq', hr', asAddr, run_loadVar_row w g t 26 cs fr _ hg Try.underlying26 rfl (by rw [Try.sizeSt, hi])]

theorem run1_any (w : World) (x : Ins) (hx : x.wf) : Calls Try.prog 23 #[x.V] w fun e w' => e = .returned (.bool (!x.right)) ∧ Below w.heap.size w w' := by
  obtain ⟨op, a, b, c, imm⟩ := x
  have ho := hx.op
  simp only [] at ho
  have hr := fun o => isaRight_any (w.alloc o) op a b c imm ho.1 ho.2
  have he : Ins.right ⟨op, a, b, c, imm⟩ = insRight op a b c imm := rfl
  rw [he]
  generalize insRight op a b c imm = r at hr
  have HR := Lib.hid hr; clear hr he hx ho
  unfold Ins.V
  simp only []
  go_enter Try.func23, Try.ntmps23
  go_wp2_with fail
  refine (HR.out _).mono ?_
  rintro e w' ⟨rfl, hb⟩
  go_wp2_with fail
  go_ret
  exact ⟨rfl, bAfter ((Below.refl _ _).alloc (Nat.le_refl _) _) (by simp) hb⟩
theorem run1_in (args : Array Value) (w : World) : (callFunc 23 args).run Try.prog w = .ok (.enter 23 args) w := callFunc_enter Try.func23 (by kernel_rfl) rfl args w

set_option maxRecDepth 100000 in
set_option maxHeartbeats 16000000 in
theorem run_bad (w : World) (a : Option Addr) (c : Nat) (mem : List Int) (ca : Option Addr) (cc : Nat) (code : List Ins) (most : Int) (hg : goodB code mem.length most = false) (he : insRep.Els w ca code) (hlen : code.length ≤ maxLen) :
    Calls Try.prog 15 #[.slice ca code.length cc, .slice a mem.length c, .int .i64 most] w fun e w' => e = .returned (.tuple #[.agg (cellsSt (.slice none 0 0) (St0 [])).toArray, .int .i64 0, .int .i64 160]) ∧ Below w.heap.size w w' := by
  have hcf := fun W (hb : Below w.heap.size w W) => containsFuncI W ca cc code 23 _ run1_in hlen (he.below insRep hb (Nat.le_refl _)) (fun x hx w' => run1_any w' x hx)
  have hal := fun o => (Below.refl w.heap.size w).alloc (Nat.le_refl _) o
  have hnew := fun c => World.alloc_heap_new w (.cells c 26)
  obtain ⟨xb, hxb⟩ : ∃ xb, w.heap.size = xb := ⟨_, rfl⟩
  rw [hxb] at hnew
  have HCF := Lib.hid hcf; have HAL := Lib.hid hal; have HNEW := Lib.hid hnew; have HG := Lib.hid hg; have Hxb := Lib.hid hxb
  clear hcf he hal hnew hlen
  by_cases g0 : 32768 < code.length
  · have t0 : decide ((32768 : Int) < (code.length : Int)) = true := by simp; omega
    clear hg
    go_enter Try.func15, Try.ntmps15
    go_upto_region 3 with fail
    refine gen_world (fun W => Below w.heap.size w W ∧ ∃ c0, c0.size = 20 ∧ W.heap[xb]? = some (.cells c0 26 (0, 0))) ⟨(HAL.out _), _, (by rfl), (HNEW.out _)⟩ ?_
    rintro W ⟨hbW, c0, hc0, hr0⟩
    have HB := Lib.hid hbW; have HR := Lib.hid hr0; have HC := Lib.hid hc0
    clear hbW hr0 hc0
    go_wp2_with ((with_reducible show wpList _ _ _ ({ dst := none, op := Op.store 26 (.tmp 6) (.tmp _), type := _, pos := _, after := _, guard := _ } :: _) _ _); (refine wpList_store_whole rfl 26 _ _ rfl xb rfl c0 _ rfl 26 HR.out (by rw [Try.sizeSt]; rfl) (by rw [HC.out]; rfl) (cellsSt_one (v := .slice none 0 0) rfl (St0 [])) ?_); intro w' hr5 hg5)
    refine bodyPost_ret (v := .tuple #[.agg (cellsSt (.slice none 0 0) (St0 [])).toArray, .int .i64 0, .int .i64 160]) (results_3 rfl _ _ xb 26 _ (0, 0) _ _ rfl rfl rfl hr5 rfl) rfl ?_
    have hfin : Below w.heap.size w w' := HB.out.grown hg5 HB.out.size (fun k e => by cases e; rw [Hxb.out]; exact Nat.le_refl _)
    refine ⟨rfl, ?_⟩
    first | exact hfin | (rw [Hxb.out] at hfin; exact hfin)
  have t0 : decide ((32768 : Int) < (code.length : Int)) = false := by simp; omega
  by_cases g1 : 2097152 < mem.length
  · have t1 : decide ((2097152 : Int) < (mem.length : Int)) = true := by simp; omega
    clear hg
    go_enter Try.func15, Try.ntmps15
    go_upto_region 3 with fail
    refine gen_world (fun W => Below w.heap.size w W ∧ ∃ c0, c0.size = 20 ∧ W.heap[xb]? = some (.cells c0 26 (0, 0))) ⟨(HAL.out _), _, (by rfl), (HNEW.out _)⟩ ?_
    rintro W ⟨hbW, c0, hc0, hr0⟩
    have HB := Lib.hid hbW; have HR := Lib.hid hr0; have HC := Lib.hid hc0
    clear hbW hr0 hc0
    go_wp2_with ((with_reducible show wpList _ _ _ ({ dst := none, op := Op.store 26 (.tmp 6) (.tmp _), type := _, pos := _, after := _, guard := _ } :: _) _ _); (refine wpList_store_whole rfl 26 _ _ rfl xb rfl c0 _ rfl 26 HR.out (by rw [Try.sizeSt]; rfl) (by rw [HC.out]; rfl) (cellsSt_one (v := .slice none 0 0) rfl (St0 [])) ?_); intro w' hr5 hg5)
    refine bodyPost_ret (v := .tuple #[.agg (cellsSt (.slice none 0 0) (St0 [])).toArray, .int .i64 0, .int .i64 160]) (results_3 rfl _ _ xb 26 _ (0, 0) _ _ rfl rfl rfl hr5 rfl) rfl ?_
    have hfin : Below w.heap.size w w' := HB.out.grown hg5 HB.out.size (fun k e => by cases e; rw [Hxb.out]; exact Nat.le_refl _)
    refine ⟨rfl, ?_⟩
    first | exact hfin | (rw [Hxb.out] at hfin; exact hfin)
  have t1 : decide ((2097152 : Int) < (mem.length : Int)) = false := by simp; omega
  by_cases g2 : most < 0
  · clear hg
    go_enter Try.func15, Try.ntmps15
    go_upto_region 3 with fail
    refine gen_world (fun W => Below w.heap.size w W ∧ ∃ c0, c0.size = 20 ∧ W.heap[xb]? = some (.cells c0 26 (0, 0))) ⟨(HAL.out _), _, (by rfl), (HNEW.out _)⟩ ?_
    rintro W ⟨hbW, c0, hc0, hr0⟩
    have HB := Lib.hid hbW; have HR := Lib.hid hr0; have HC := Lib.hid hc0
    clear hbW hr0 hc0
    go_wp2_with ((with_reducible show wpList _ _ _ ({ dst := none, op := Op.store 26 (.tmp 6) (.tmp _), type := _, pos := _, after := _, guard := _ } :: _) _ _); (refine wpList_store_whole rfl 26 _ _ rfl xb rfl c0 _ rfl 26 HR.out (by rw [Try.sizeSt]; rfl) (by rw [HC.out]; rfl) (cellsSt_one (v := .slice none 0 0) rfl (St0 [])) ?_); intro w' hr5 hg5)
    refine bodyPost_ret (v := .tuple #[.agg (cellsSt (.slice none 0 0) (St0 [])).toArray, .int .i64 0, .int .i64 160]) (results_3 rfl _ _ xb 26 _ (0, 0) _ _ rfl rfl rfl hr5 rfl) rfl ?_
    have hfin : Below w.heap.size w w' := HB.out.grown hg5 HB.out.size (fun k e => by cases e; rw [Hxb.out]; exact Nat.le_refl _)
    refine ⟨rfl, ?_⟩
    first | exact hfin | (rw [Hxb.out] at hfin; exact hfin)
  have t2 : decide (most < 0) = false := by simpa using g2
  by_cases g3 : 67108864 < most
  · clear hg
    go_enter Try.func15, Try.ntmps15
    go_upto_region 3 with fail
    refine gen_world (fun W => Below w.heap.size w W ∧ ∃ c0, c0.size = 20 ∧ W.heap[xb]? = some (.cells c0 26 (0, 0))) ⟨(HAL.out _), _, (by rfl), (HNEW.out _)⟩ ?_
    rintro W ⟨hbW, c0, hc0, hr0⟩
    have HB := Lib.hid hbW; have HR := Lib.hid hr0; have HC := Lib.hid hc0
    clear hbW hr0 hc0
    go_wp2_with ((with_reducible show wpList _ _ _ ({ dst := none, op := Op.store 26 (.tmp 6) (.tmp _), type := _, pos := _, after := _, guard := _ } :: _) _ _); (refine wpList_store_whole rfl 26 _ _ rfl xb rfl c0 _ rfl 26 HR.out (by rw [Try.sizeSt]; rfl) (by rw [HC.out]; rfl) (cellsSt_one (v := .slice none 0 0) rfl (St0 [])) ?_); intro w' hr5 hg5)
    refine bodyPost_ret (v := .tuple #[.agg (cellsSt (.slice none 0 0) (St0 [])).toArray, .int .i64 0, .int .i64 160]) (results_3 rfl _ _ xb 26 _ (0, 0) _ _ rfl rfl rfl hr5 rfl) rfl ?_
    have hfin : Below w.heap.size w w' := HB.out.grown hg5 HB.out.size (fun k e => by cases e; rw [Hxb.out]; exact Nat.le_refl _)
    refine ⟨rfl, ?_⟩
    first | exact hfin | (rw [Hxb.out] at hfin; exact hfin)
  have t3 : decide (67108864 < most) = false := by simpa using g3
  have hw : (code.any fun i => !i.right) = true := by
    unfold goodB at hg
    rw [show decide (code.length ≤ 32768) = true from by simp; omega, show decide (mem.length ≤ 2097152) = true from by simp; omega, show decide (0 ≤ most) = true from by simp; omega, show decide (most ≤ 67108864) = true from by simp; omega] at hg
    simpa using hg
  have hcg := HCF.out
  rw [hw] at hcg
  have HCG := Lib.hid hcg
  clear hg hcg hw HG HCF
  go_enter Try.func15, Try.ntmps15
  go_upto_region 3 with (go_at_call 24; refine (HCG.out _ (HAL.out _)).mono ?_; rintro e w1 ⟨rfl, hb1⟩)
  refine gen_world (fun W => Below w.heap.size w W ∧ ∃ c0, c0.size = 20 ∧ W.heap[xb]? = some (.cells c0 26 (0, 0))) ⟨((HAL.out _).trans (hb1.mono (by simp))), _, (by rfl), (block_below (HNEW.out _) hb1)⟩ ?_
  rintro W ⟨hbW, c0, hc0, hr0⟩
  have HB := Lib.hid hbW; have HR := Lib.hid hr0; have HC := Lib.hid hc0
  clear hbW hr0 hc0
  go_wp2_with ((with_reducible show wpList _ _ _ ({ dst := none, op := Op.store 26 (.tmp 6) (.tmp _), type := _, pos := _, after := _, guard := _ } :: _) _ _); (refine wpList_store_whole rfl 26 _ _ rfl xb rfl c0 _ rfl 26 HR.out (by rw [Try.sizeSt]; rfl) (by rw [HC.out]; rfl) (cellsSt_one (v := .slice none 0 0) rfl (St0 [])) ?_); intro w' hr5 hg5)
  refine bodyPost_ret (v := .tuple #[.agg (cellsSt (.slice none 0 0) (St0 [])).toArray, .int .i64 0, .int .i64 160]) (results_3 rfl _ _ xb 26 _ (0, 0) _ _ rfl rfl rfl hr5 rfl) rfl ?_
  have hfin : Below w.heap.size w w' := HB.out.grown hg5 HB.out.size (fun k e => by cases e; rw [Hxb.out]; exact Nat.le_refl _)
  refine ⟨rfl, ?_⟩
  first | exact hfin | (rw [Hxb.out] at hfin; exact hfin)
end Go.Proofs.Ytkgbjmmiomggbaa
