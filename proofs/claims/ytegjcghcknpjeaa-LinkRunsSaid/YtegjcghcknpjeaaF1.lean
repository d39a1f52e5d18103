import Derived.Test.YtegjcghcknpjeaaE9
import Derived.Test.YtegjcghcknpjeaaKeep
import Derived.Test.YtegjcghcknpjeaaClone
import Derived.Test.YtegjcghcknpjeaaCF
import Derived.Test.YtegjcghcknpjeaaFlat
import Derived.Outline
import Derived.Deep.MidRow
import Derived.Great.BuildSlice
import Derived.Laws.StructEq
import Derived.DataShut
namespace Go.Proofs.Ytegjcghcknpjeaa
open Go.RowKit Go.ChangeShapes Go.WideShapes Go.Deep
set_option linter.unusedVariables false
attribute [local go_sem ↓] Go.wp_at_zero Go.wp_at_succ

theorem addr_add_none (b off j : Nat) : (Addr.mk b off none).add j = ⟨b, off + j, none⟩ := by
  unfold Addr.add
  split
  · rename_i h; rw [show off + j = off from by omega]
  · rfl
theorem int_src {w : World} {v : Value} {xs : List Int} (h : (Rep.int .i64).Sl w v xs) : Src w v xs.length (xs.map (Value.int .i64)) := by
  obtain ⟨a, cap, rfl, hle, _, h2, h4⟩ := h
  cases a with
  | none =>
    have hc : cap = 0 := h2 rfl
    have hx : xs.length = 0 := by omega
    obtain rfl := List.eq_nil_of_length_eq_zero hx
    exact .inl ⟨by rw [hc]; rfl, rfl, rfl⟩
  | some ad =>
    refine .inr ⟨ad, cap, rfl, fun j z hz => ?_⟩
    have hj : j < xs.length := by
      have := (List.getElem?_eq_some_iff.1 hz).1
      simpa using this
    obtain ⟨b, off, cs, e, ⟨rfl, _⟩, hc⟩ := h4 j hj
    cases e
    rw [addr_add_none]
    have := hc 0 (.int .i64 xs[j]) rfl
    rw [List.getElem?_map, List.getElem?_eq_getElem hj] at hz
    cases hz
    simpa [Rep.int, Rep.flat] using this
theorem int_at {w : World} {a : Option Addr} {n c : Nat} {xs : List Int} (h : (Rep.int .i64).Sl w (.slice a n c) xs) : n = xs.length ∧ IntsAt .i64 w a xs := by
  obtain ⟨a', cap, e, hle, _, h2, h4⟩ := h
  cases e
  refine ⟨rfl, fun i hi => ?_⟩
  obtain ⟨b, off, cs, e, ⟨rfl, _⟩, hc⟩ := h4 i hi
  refine ⟨b, off, e, ?_⟩
  simpa [Rep.int, Rep.flat] using hc 0 (.int .i64 xs[i]) rfl
theorem MemR.mono {B B' : Nat} {w : World} {v : Value} {l : List Int} (h : MemR B w v l) (hb : B' ≤ B) : MemR B' w v l :=
  ⟨h.1, h.2.imp id fun ⟨g, cap, cur, e, h1, h2⟩ => ⟨g, cap, cur, e, Nat.le_trans hb h1, h2⟩⟩
theorem StB.row0 {w : World} {g : Nat} {t : TypeId} {v : Value} {s : St} (h : StB w g t v [] s) : w.heap[g]? = some (.cells (cellsSt v s).toArray t (0, 0)) := by have := h.1; rwa [List.append_nil] at this
theorem StB.range {w : World} {g : Nat} {t : TypeId} {v : Value} {more : List Value} {s : St} (h : StB w g t v more s) : w.rangeAt g 0 (cellsSt v s) := fun j u hj => by
  have hlt := (List.getElem?_eq_some_iff.1 hj).1
  rw [cellsSt_len h.2] at hlt
  rw [Nat.zero_add, h.at hlt, hj]
structure MB (w W : World) (r B g : Nat) (am : Option Addr) (cm : Nat) (ca : Option Addr) (cc : Nat) (code : List Ins) (s : St) : Prop where
  below : Below w.heap.size w W
  res : ∃ c, c.size = 20 ∧ W.heap[r]? = some (.cells c 47 (0, 0))
  sin : SIn W g B am cm ca cc code s
  ne : w.heap.size ≤ r ∧ r < B ∧ B ≤ g
structure ME (w W : World) (r B g : Nat) (v : Value) (cv : Value) (s : St) : Prop where
  below : Below w.heap.size w W
  res : ∃ c, c.size = 20 ∧ W.heap[r]? = some (.cells c 47 (0, 0))
  st : StB W g 72 v [cv] s
  mem : MemR B W v s.mem
  ne : w.heap.size ≤ r ∧ r < B ∧ B ≤ g
theorem MB.run {w W W' : World} {r B g : Nat} {am : Option Addr} {cm : Nat} {ca : Option Addr} {cc : Nat} {code : List Ins} {s s1 : St} (h : MB w W r B g am cm ca cc code s) (ho : SOut g B am cm ca cc code s.mem.length W s1 W') : ME w W' r B g (.slice am s.mem.length cm) (.slice ca code.length cc) s1 := by
  have hn := h.ne
  have hb : Below B W W' := ho.2.2.below (B := B) (by have := block_lt h.sin.st.1; omega) (fun k hk => by
    rcases hk with rfl | hk
    · exact hn.2.2
    · exact (World.ownsRow.lt h.sin.mem k hk).1)
  refine ⟨h.below.trans (hb.mono (by omega)), ?_, ho.1, ho.2.1, h.ne⟩
  obtain ⟨c, h1, h2⟩ := h.res
  exact ⟨c, h1, (hb.block r (by omega)).trans h2⟩
theorem ME.keep {w W W' : World} {r B g : Nat} {v cv : Value} {s : St} (h : ME w W r B g v cv s) (hg : W.grownBy W' (some r)) : MemR w.heap.size W' v s.mem ∧ Below w.heap.size w W' := by
  have hn := h.ne
  refine ⟨MemR.mono (World.ownsRow.kept h.mem hg ?_) (by omega), h.below.grown hg h.below.size (fun k e => by cases e; exact hn.1)⟩
  cases hv : v.ownBlock with
  | none => exact .inl rfl
  | some k => exact .inr (fun e => by have := (World.ownsRow.lt h.mem k hv).1; cases e; omega)
theorem SIn.below {w w' : World} {g B : Nat} {am : Option Addr} {cm : Nat} {ca : Option Addr} {cc : Nat} {code : List Ins} {s : St} (h : SIn w g B am cm ca cc code s) (hb : Below w.heap.size w w') : SIn w' g B am cm ca cc code s :=
  ⟨h.st.below hb, h.wf, own_below h.mem hb, h.apart, h.codeE.below insRep hb (Nat.le_refl _), h.len⟩
theorem MB.under {w W W' : World} {r B g : Nat} {am : Option Addr} {cm : Nat} {ca : Option Addr} {cc : Nat} {code : List Ins} {s : St} (h : MB w W r B g am cm ca cc code s) (hb : Below W.heap.size W W') : MB w W' r B g am cm ca cc code s :=
  ⟨h.below.trans (hb.mono h.below.size), let ⟨c, h1, h2⟩ := h.res; ⟨c, h1, block_below h2 hb⟩, h.sin.below hb, h.ne⟩
def runI (code : List Ins) : Nat → St → St × Nat
  | 0, s => ({ s with fin := 6 }, 0)
  | n + 1, s => if (mstepS code s).2 then ((runI code n (mstepS code s).1).1, (runI code n (mstepS code s).1).2 + 1) else ((mstepS code s).1, 1)
def goodB (code : List Ins) (n : Nat) (most : Int) : Bool := decide (code.length ≤ 32768) && decide (n ≤ 2097152) && decide (0 ≤ most) && decide (most ≤ 67108864) && !(code.any fun i => !i.right)
def St0 (mem : List Int) : St := ⟨List.replicate 16 0, mem, 0, 0, 0⟩
theorem St0_wf {mem : List Int} (h : ∀ x ∈ mem, In64 x) : (St0 mem).wf :=
  ⟨by simp [St0], by intro x hx; simp [St0] at hx; subst hx; exact ⟨by decide, by decide⟩, h, (show In64 0 from ⟨by decide, by decide⟩), (show In64 0 from ⟨by decide, by decide⟩), (show (-2147483648 : Int) ≤ 0 ∧ (0 : Int) ≤ 2147483647 from ⟨by decide, by decide⟩)⟩
theorem stepI_memlen (i : Ins) (s : St) : (stepI i s).1.mem.length = s.mem.length := by
  show (fun r : St × Bool => r.1.mem.length = s.mem.length) (stepI i s)
  unfold stepI
  repeat' (apply ite_pred (p := fun r : St × Bool => r.1.mem.length = s.mem.length))
  all_goals first | rfl | simp
theorem mstepS_memlen (code : List Ins) (s : St) : (mstepS code s).1.mem.length = s.mem.length := by
  unfold mstepS
  split
  · exact stepI_memlen _ _
  · rfl
theorem mstepS_wf {code : List Ins} {s : St} (hc : ∀ x ∈ code, x.wf) (hl : code.length ≤ 9223372036854775807) (hs : s.wf) : (mstepS code s).1.wf := by
  unfold mstepS
  split
  · rename_i h
    exact stepI_wf (hc _ (List.getElem_mem _)) hs ⟨by omega, by omega⟩
  · exact fin_wf hs ⟨by decide, by decide⟩
theorem els_wf {w : World} {a : Option Addr} {x : List Ins} (h : insRep.Els w a x) : ∀ p ∈ x, p.wf := fun p hp => by
  obtain ⟨k, hk, rfl⟩ := List.getElem_of_mem hp
  obtain ⟨_, _, _, hw, _⟩ := els_ins h hk
  exact hw
def RunOut (w : World) (r : St × Nat) (e : Ending) (w' : World) : Prop := ∃ v', e = .returned (.tuple #[.agg (cellsSt v' r.1).toArray, .int .i64 (r.2 : Int), .int .i64 0]) ∧ MemR w.heap.size w' v' r.1.mem ∧ Below w.heap.size w w'
theorem ME.run {w W W' : World} {r B g k : Nat} {v cv : Value} {s : St} {q : St × Nat} (h : ME w W r B g v cv s) (hg : W.grownBy W' (some r)) (he : q = (s, k)) {x : Int} (hx : x = k) : RunOut w q (.returned (.tuple #[.agg (cellsSt v s).toArray, .int .i64 x, .int .i64 0])) W' := by
  subst he; subst hx
  exact ⟨_, rfl, (h.keep hg).1, (h.keep hg).2⟩
theorem MB.next {w W W' : World} {r B g : Nat} {am : Option Addr} {cm : Nat} {ca : Option Addr} {cc : Nat} {code : List Ins} {s s1 : St} (h : MB w W r B g am cm ca cc code s) (ho : SOut g B am cm ca cc code s.mem.length W s1 W') (hw : s1.wf) (hl : s1.mem.length = s.mem.length) (he0 : insRep.Els w ca code) : MB w W' r B g am cm ca cc code s1 := by
  have hE := h.run ho
  refine ⟨hE.below, hE.res, ⟨by rw [hl]; exact ho.1, hw, by rw [hl]; exact ho.2.1, by rw [hl]; exact h.sin.apart, he0.below insRep hE.below (Nat.le_refl _), h.sin.len⟩, h.ne⟩
theorem results_3 {fn : Func} {p q r : Tmp} (h : fn.results = #[.cell p 47, .tmp q, .tmp r]) (tmps : Array Value) (w : World) (g : Nat) (t : TypeId) (cs : Array Value) (fr : Nat × Nat) (x y : Value)
    (hp : tmps.getD p undef = .pointer (some ⟨g, 0, none⟩)) (hq : tmps.getD q undef = x) (hr : tmps.getD r undef = y) (hg : w.heap[g]? = some (.cells cs t fr)) (hi : cs.size = 20) :
    (results fn tmps).run Try.prog w = .ok (.tuple #[.agg cs, x, y]) w := by
  have hp' : tmps[p]?.getD undef = .pointer (some ⟨g, 0, none⟩) := by simpa using hp
  have hq' : tmps[q]?.getD undef = x := by simpa using hq
  have hr' : tmps[r]?.getD undef = y := by simpa using hr
  simp [results, h, hp', hq', hr', asAddr, run_loadVar_row w g t 47 cs fr _ hg Try.underlying47 rfl (by rw [Try.sizeSt, hi])]
theorem run1_any (w : World) (x : Ins) (hx : x.wf) : Calls Try.prog 34 #[x.V] w fun e w' => e = .returned (.bool (!x.right)) ∧ Below w.heap.size w w' := by
  obtain ⟨op, a, b, c, imm⟩ := x
  have ho := hx.op
  simp only [] at ho
  have hr := fun o => isaRight_any (w.alloc o) op a b c imm ho.1 ho.2
  have he : Ins.right ⟨op, a, b, c, imm⟩ = insRight op a b c imm := rfl
  rw [he]
  generalize insRight op a b c imm = r at hr
  have HR := Lib.hid hr; clear hr he hx ho
  unfold Ins.V
  simp only []
  go_enter Try.func34, Try.ntmps34
  go_wp2_with fail
  refine (HR.out _).mono ?_
  rintro e w' ⟨rfl, hb⟩
  go_wp2_with fail
  go_ret
  exact ⟨rfl, bAfter ((Below.refl _ _).alloc (Nat.le_refl _) _) (by simp) hb⟩
theorem run1_in (args : Array Value) (w : World) : (callFunc 34 args).run Try.prog w = .ok (.enter 34 args) w := callFunc_enter Try.func34 (by kernel_rfl) rfl args w
theorem run_bad (w : World) (a : Option Addr) (c : Nat) (mem : List Int) (ca : Option Addr) (cc : Nat) (code : List Ins) (most : Int) (hg : goodB code mem.length most = false) (he : insRep.Els w ca code) (hlen : code.length ≤ maxLen) :
    Calls Try.prog 20 #[.slice ca code.length cc, .slice a mem.length c, .int .i64 most] w fun e w' => e = .returned (.tuple #[.agg (cellsSt (.slice none 0 0) (St0 [])).toArray, .int .i64 0, .int .i64 160]) ∧ Below w.heap.size w w' := by
  have hcf := fun W (hb : Below w.heap.size w W) => containsFuncI W ca cc code 34 _ run1_in hlen (he.below insRep hb (Nat.le_refl _)) (fun x hx w' => run1_any w' x hx)
  have hal := fun o => (Below.refl w.heap.size w).alloc (Nat.le_refl _) o
  have hnew := fun c => World.alloc_heap_new w (.cells c 47)
  obtain ⟨xb, hxb⟩ : ∃ xb, w.heap.size = xb := ⟨_, rfl⟩
  rw [hxb] at hnew
  have HCF := Lib.hid hcf; have HAL := Lib.hid hal; have HNEW := Lib.hid hnew; have HG := Lib.hid hg; have Hxb := Lib.hid hxb
  clear hcf he hal hnew hlen
  by_cases g0 : 32768 < code.length
  · have t0 : decide ((32768 : Int) < (code.length : Int)) = true := by simp; omega
    clear hg
    go_enter Try.func20, Try.ntmps20
    go_upto_region 3 with fail
    refine gen_world (fun W => Below w.heap.size w W ∧ ∃ c0, c0.size = 20 ∧ W.heap[xb]? = some (.cells c0 47 (0, 0))) ⟨(HAL.out _), _, (by rfl), (HNEW.out _)⟩ ?_
    rintro W ⟨hbW, c0, hc0, hr0⟩
    have HB := Lib.hid hbW; have HR := Lib.hid hr0; have HC := Lib.hid hc0
    clear hbW hr0 hc0
    go_wp2_with ((with_reducible show wpList _ _ _ ({ dst := none, op := Op.store 47 (.tmp 6) (.tmp _), type := _, pos := _, after := _, guard := _ } :: _) _ _); (refine wpList_store_whole rfl 47 _ _ rfl xb rfl c0 _ rfl 47 HR.out (by rw [Try.sizeSt]; rfl) (by rw [HC.out]; rfl) (cellsSt_one (v := .slice none 0 0) rfl (St0 [])) ?_); intro w' hr5 hg5)
    refine bodyPost_ret (v := .tuple #[.agg (cellsSt (.slice none 0 0) (St0 [])).toArray, .int .i64 0, .int .i64 160]) (results_3 rfl _ _ xb 47 _ (0, 0) _ _ rfl rfl rfl hr5 rfl) rfl ?_
    have hfin : Below w.heap.size w w' := HB.out.grown hg5 HB.out.size (fun k e => by cases e; rw [Hxb.out]; exact Nat.le_refl _)
    refine ⟨rfl, ?_⟩
    first | exact hfin | (rw [Hxb.out] at hfin; exact hfin)
  have t0 : decide ((32768 : Int) < (code.length : Int)) = false := by simp; omega
  by_cases g1 : 2097152 < mem.length
  · have t1 : decide ((2097152 : Int) < (mem.length : Int)) = true := by simp; omega
    clear hg
    go_enter Try.func20, Try.ntmps20
    go_upto_region 3 with fail
    refine gen_world (fun W => Below w.heap.size w W ∧ ∃ c0, c0.size = 20 ∧ W.heap[xb]? = some (.cells c0 47 (0, 0))) ⟨(HAL.out _), _, (by rfl), (HNEW.out _)⟩ ?_
    rintro W ⟨hbW, c0, hc0, hr0⟩
    have HB := Lib.hid hbW; have HR := Lib.hid hr0; have HC := Lib.hid hc0
    clear hbW hr0 hc0
    go_wp2_with ((with_reducible show wpList _ _ _ ({ dst := none, op := Op.store 47 (.tmp 6) (.tmp _), type := _, pos := _, after := _, guard := _ } :: _) _ _); (refine wpList_store_whole rfl 47 _ _ rfl xb rfl c0 _ rfl 47 HR.out (by rw [Try.sizeSt]; rfl) (by rw [HC.out]; rfl) (cellsSt_one (v := .slice none 0 0) rfl (St0 [])) ?_); intro w' hr5 hg5)
    refine bodyPost_ret (v := .tuple #[.agg (cellsSt (.slice none 0 0) (St0 [])).toArray, .int .i64 0, .int .i64 160]) (results_3 rfl _ _ xb 47 _ (0, 0) _ _ rfl rfl rfl hr5 rfl) rfl ?_
    have hfin : Below w.heap.size w w' := HB.out.grown hg5 HB.out.size (fun k e => by cases e; rw [Hxb.out]; exact Nat.le_refl _)
    refine ⟨rfl, ?_⟩
    first | exact hfin | (rw [Hxb.out] at hfin; exact hfin)
  have t1 : decide ((2097152 : Int) < (mem.length : Int)) = false := by simp; omega
  by_cases g2 : most < 0
  · clear hg
    go_enter Try.func20, Try.ntmps20
    go_upto_region 3 with fail
    refine gen_world (fun W => Below w.heap.size w W ∧ ∃ c0, c0.size = 20 ∧ W.heap[xb]? = some (.cells c0 47 (0, 0))) ⟨(HAL.out _), _, (by rfl), (HNEW.out _)⟩ ?_
    rintro W ⟨hbW, c0, hc0, hr0⟩
    have HB := Lib.hid hbW; have HR := Lib.hid hr0; have HC := Lib.hid hc0
    clear hbW hr0 hc0
    go_wp2_with ((with_reducible show wpList _ _ _ ({ dst := none, op := Op.store 47 (.tmp 6) (.tmp _), type := _, pos := _, after := _, guard := _ } :: _) _ _); (refine wpList_store_whole rfl 47 _ _ rfl xb rfl c0 _ rfl 47 HR.out (by rw [Try.sizeSt]; rfl) (by rw [HC.out]; rfl) (cellsSt_one (v := .slice none 0 0) rfl (St0 [])) ?_); intro w' hr5 hg5)
    refine bodyPost_ret (v := .tuple #[.agg (cellsSt (.slice none 0 0) (St0 [])).toArray, .int .i64 0, .int .i64 160]) (results_3 rfl _ _ xb 47 _ (0, 0) _ _ rfl rfl rfl hr5 rfl) rfl ?_
    have hfin : Below w.heap.size w w' := HB.out.grown hg5 HB.out.size (fun k e => by cases e; rw [Hxb.out]; exact Nat.le_refl _)
    refine ⟨rfl, ?_⟩
    first | exact hfin | (rw [Hxb.out] at hfin; exact hfin)
  have t2 : decide (most < 0) = false := by simpa using g2
  by_cases g3 : 67108864 < most
  · clear hg
    go_enter Try.func20, Try.ntmps20
    go_upto_region 3 with fail
    refine gen_world (fun W => Below w.heap.size w W ∧ ∃ c0, c0.size = 20 ∧ W.heap[xb]? = some (.cells c0 47 (0, 0))) ⟨(HAL.out _), _, (by rfl), (HNEW.out _)⟩ ?_
    rintro W ⟨hbW, c0, hc0, hr0⟩
    have HB := Lib.hid hbW; have HR := Lib.hid hr0; have HC := Lib.hid hc0
    clear hbW hr0 hc0
    go_wp2_with ((with_reducible show wpList _ _ _ ({ dst := none, op := Op.store 47 (.tmp 6) (.tmp _), type := _, pos := _, after := _, guard := _ } :: _) _ _); (refine wpList_store_whole rfl 47 _ _ rfl xb rfl c0 _ rfl 47 HR.out (by rw [Try.sizeSt]; rfl) (by rw [HC.out]; rfl) (cellsSt_one (v := .slice none 0 0) rfl (St0 [])) ?_); intro w' hr5 hg5)
    refine bodyPost_ret (v := .tuple #[.agg (cellsSt (.slice none 0 0) (St0 [])).toArray, .int .i64 0, .int .i64 160]) (results_3 rfl _ _ xb 47 _ (0, 0) _ _ rfl rfl rfl hr5 rfl) rfl ?_
    have hfin : Below w.heap.size w w' := HB.out.grown hg5 HB.out.size (fun k e => by cases e; rw [Hxb.out]; exact Nat.le_refl _)
    refine ⟨rfl, ?_⟩
    first | exact hfin | (rw [Hxb.out] at hfin; exact hfin)
  have t3 : decide (67108864 < most) = false := by simpa using g3
  have hw : (code.any fun i => !i.right) = true := by
    unfold goodB at hg
    rw [show decide (code.length ≤ 32768) = true from by simp; omega, show decide (mem.length ≤ 2097152) = true from by simp; omega, show decide (0 ≤ most) = true from by simp; omega, show decide (most ≤ 67108864) = true from by simp; omega] at hg
    simpa using hg
  have hcg := HCF.out
  rw [hw] at hcg
  have HCG := Lib.hid hcg
  clear hg hcg hw HG HCF
  go_enter Try.func20, Try.ntmps20
  go_upto_region 3 with (go_at_call 26; refine (HCG.out _ (HAL.out _)).mono ?_; rintro e w1 ⟨rfl, hb1⟩)
  refine gen_world (fun W => Below w.heap.size w W ∧ ∃ c0, c0.size = 20 ∧ W.heap[xb]? = some (.cells c0 47 (0, 0))) ⟨((HAL.out _).trans (hb1.mono (by simp))), _, (by rfl), (block_below (HNEW.out _) hb1)⟩ ?_
  rintro W ⟨hbW, c0, hc0, hr0⟩
  have HB := Lib.hid hbW; have HR := Lib.hid hr0; have HC := Lib.hid hc0
  clear hbW hr0 hc0
  go_wp2_with ((with_reducible show wpList _ _ _ ({ dst := none, op := Op.store 47 (.tmp 6) (.tmp _), type := _, pos := _, after := _, guard := _ } :: _) _ _); (refine wpList_store_whole rfl 47 _ _ rfl xb rfl c0 _ rfl 47 HR.out (by rw [Try.sizeSt]; rfl) (by rw [HC.out]; rfl) (cellsSt_one (v := .slice none 0 0) rfl (St0 [])) ?_); intro w' hr5 hg5)
  refine bodyPost_ret (v := .tuple #[.agg (cellsSt (.slice none 0 0) (St0 [])).toArray, .int .i64 0, .int .i64 160]) (results_3 rfl _ _ xb 47 _ (0, 0) _ _ rfl rfl rfl hr5 rfl) rfl ?_
  have hfin : Below w.heap.size w w' := HB.out.grown hg5 HB.out.size (fun k e => by cases e; rw [Hxb.out]; exact Nat.le_refl _)
  refine ⟨rfl, ?_⟩
  first | exact hfin | (rw [Hxb.out] at hfin; exact hfin)
theorem runI_succ_go {code : List Ins} {n : Nat} {s : St} (h : (mstepS code s).2 = true) : runI code (n + 1) s = ((runI code n (mstepS code s).1).1, (runI code n (mstepS code s).1).2 + 1) := by rw [runI, if_pos h]
theorem runI_succ_end {code : List Ins} {n : Nat} {s : St} (h : (mstepS code s).2 = false) : runI code (n + 1) s = ((mstepS code s).1, 1) := by rw [runI, if_neg (by simp [h])]
def RunAt (code : List Ins) (M : Nat) (q : St × Nat) (k : Nat) (s : St) : Prop := q = ((runI code (M - k) s).1, (runI code (M - k) s).2 + k)
theorem RunAt.go {code : List Ins} {M k : Nat} {q : St × Nat} {s : St} (h : RunAt code M q k s) (hk : k < M) (hg : (mstepS code s).2 = true) : RunAt code M q (k + 1) (mstepS code s).1 := by
  unfold RunAt at *
  rw [h, show M - k = (M - (k + 1)) + 1 from by omega, runI_succ_go hg]
  dsimp only
  rw [show (runI code (M - (k + 1)) (mstepS code s).1).2 + 1 + k = (runI code (M - (k + 1)) (mstepS code s).1).2 + (k + 1) from by omega]
theorem RunAt.end {code : List Ins} {M k : Nat} {q : St × Nat} {s : St} (h : RunAt code M q k s) (hk : k < M) (hg : (mstepS code s).2 = false) : q = ((mstepS code s).1, k + 1) := by
  unfold RunAt at *
  rw [h, show M - k = (M - (k + 1)) + 1 from by omega, runI_succ_end hg]
  dsimp only
  rw [Nat.add_comm]
theorem RunAt.most {code : List Ins} {M : Nat} {q : St × Nat} {s : St} (h : RunAt code M q M s) : q = ({ s with fin := 6 }, M) := by
  unfold RunAt at *
  rw [h, Nat.sub_self, runI]
  simp
theorem good_facts {code : List Ins} {n : Nat} {most : Int} (h : goodB code n most = true) : code.length ≤ 32768 ∧ n ≤ 2097152 ∧ 0 ≤ most ∧ most ≤ 67108864 ∧ (code.any fun i => !i.right) = false := by
  unfold goodB at h
  simp only [Bool.and_eq_true, decide_eq_true_eq, Bool.not_eq_true'] at h
  exact ⟨h.1.1.1.1, h.1.1.1.2, h.1.1.2, h.1.2, h.2⟩
theorem right_all {code : List Ins} (h : (code.any fun i => !i.right) = false) {k : Nat} (hk : k < code.length) : code[k].right = true := by
  rw [List.any_eq_false] at h
  simpa using h _ (List.getElem_mem hk)
def RunRel (w wr : World) (r B g : Nat) (am : Option Addr) (n cm : Nat) (ca : Option Addr) (cc : Nat) (code : List Ins) (M : Nat) (q : St × Nat) (k : Nat) : Prop := ∃ s, s.mem.length = n ∧ MB w wr r B g am cm ca cc code s ∧ RunAt code M q k s
theorem run_good (w : World) (a : Option Addr) (c : Nat) (mem : List Int) (ca : Option Addr) (cc : Nat) (code : List Ins) (most : Int) (hg : goodB code mem.length most = true) (he : insRep.Els w ca code) (hi : IntsAt .i64 w a mem) (hmem : ∀ x ∈ mem, In64 x) :
    Calls Try.prog 20 #[.slice ca code.length cc, .slice a mem.length c, .int .i64 most] w (RunOut w (runI code most.toNat (St0 mem))) := by
  obtain ⟨g0, g1, g2, g3, hw⟩ := good_facts hg
  have hall : ∀ k, (hk : k < code.length) → code[k].right = true := fun k hk => right_all hw hk
  obtain ⟨M, rfl⟩ := Int.eq_ofNat_of_zero_le g2
  have hcf := fun W (hb : Below w.heap.size w W) => containsFuncI W ca cc code 34 _ run1_in (by unfold maxLen; omega) (he.below insRep hb (Nat.le_refl _)) (fun x hx w' => run1_any w' x hx)
  have hal := fun o => (Below.refl w.heap.size w).alloc (Nat.le_refl _) o
  have hnew := fun c => World.alloc_heap_new w (.cells c 47)
  have hcw := els_wf he
  rw [hw] at hcf
  obtain ⟨xb, hxb⟩ : ∃ xb, w.heap.size = xb := ⟨_, rfl⟩
  rw [hxb] at hnew
  have t0 : decide ((32768 : Int) < (code.length : Int)) = false := by simp; omega
  have t1 : decide ((2097152 : Int) < (mem.length : Int)) = false := by simp; omega
  have t2 : decide ((M : Int) < 0) = false := by simp
  have t3 : decide ((67108864 : Int) < (M : Int)) = false := by simp; omega
  have HCF := Lib.hid hcf; have HAL := Lib.hid hal; have HNEW := Lib.hid hnew; have HA := Lib.hid hall; have Hxb := Lib.hid hxb; have HE := Lib.hid he; have HI := Lib.hid hi; have HME := Lib.hid hmem; have HCW := Lib.hid hcw
  clear hcf he hal hnew hg hw hall hi hmem g2 hcw
  go_enter Try.func20, Try.ntmps20
  go_upto_region 4 with (go_at_call 26; refine (HCF.out _ (HAL.out _)).mono ?_; rintro e w1 ⟨rfl, hb1⟩)
  refine gen_world (fun W => Below w.heap.size w W ∧ ∃ c0, c0.size = 20 ∧ W.heap[xb]? = some (.cells c0 47 (0, 0))) ⟨(HAL.out _).trans (hb1.mono (by simp)), _, (by rfl), (block_below (HNEW.out _) hb1)⟩ ?_
  rintro W ⟨hbW, c0, hc0, hr0⟩
  have hlx := block_lt hr0
  have HB := Lib.hid hbW; have HR := Lib.hid hr0; have HC := Lib.hid hc0
  clear hbW hr0 hc0 t0 t1 t2 t3 hb1
  go_wp2_with fail
  refine (clone_n W a mem.length c mem rfl (by omega) (HI.out.below HB.out (Nat.le_refl _))).mono ?_
  rintro e w2 ⟨⟨v', rfl, hm2⟩, hb2⟩
  have hm2' : MemR W.heap.size w2 v' mem := hm2
  obtain ⟨a', c', rfl, _⟩ := MemR.form hm2'
  have HM2 := Lib.hid hm2'; have HB2 := Lib.hid hb2
  have hsz2 := hb2.size
  have HN2 := Lib.hid (fun (c : Array Value) => World.alloc_heap_new w2 (.cells c 72))
  obtain ⟨xm, hxm⟩ : ∃ xm, w2.heap.size = xm := ⟨_, rfl⟩
  clear hm2 hm2' hb2
  go_upto_region 5 with fail
  have hst : StB (w2.alloc (.cells (cellsSt (.slice a' mem.length c') (St0 mem) ++ [Value.slice ca code.length cc]).toArray 72)) xm 72 (.slice a' mem.length c') [.slice ca code.length cc] (St0 mem) := by
    rw [← hxm]; exact ⟨HN2.out _, rfl⟩
  have hbw : Below w.heap.size w (w2.alloc (.cells (cellsSt (.slice a' mem.length c') (St0 mem) ++ [Value.slice ca code.length cc]).toArray 72)) := (HB.out.trans (HB2.out.mono HB.out.size)).alloc (by have := HB.out.size; omega) _
  have hmb : MB w (w2.alloc (.cells (cellsSt (.slice a' mem.length c') (St0 mem) ++ [Value.slice ca code.length cc]).toArray 72)) xb W.heap.size xm a' c' ca cc code (St0 mem) :=
    ⟨hbw, ⟨c0, HC.out, block_alloc (block_below HR.out HB2.out) _⟩, ⟨hst, St0_wf HME.out, World.ownsRow.alloc HM2.out _, fun k hk => by have := (World.ownsRow.lt HM2.out k hk).2; omega, HE.out.below insRep hbw (Nat.le_refl _), by omega⟩, by rw [Hxb.out]; omega⟩
  refine gen_world (fun W4 => MB w W4 xb W.heap.size xm a' c' ca cc code (St0 mem)) hmb ?_
  intro W4 h4
  have hrun : RunRel w W4 xb W.heap.size xm a' mem.length c' ca cc code M (runI code M (St0 mem)) 0 := ⟨St0 mem, rfl, h4, by unfold RunAt; simp⟩
  obtain ⟨q, hq⟩ : ∃ q, runI code M (St0 mem) = q := ⟨_, rfl⟩
  have hM : ((M : Int)).toNat = M := by simp
  rw [hq] at hrun
  have H4 := Lib.hid h4; have HQ := Lib.hid hq; have HRUN := Lib.hid hrun; have HMM := Lib.hid hM
  clear h4 hq hst hbw hmb HN2 HB HR HC HM2 HB2 hrun hM hxm
  go_wp2_with fail
  go_loopw [41] (fun i wr => ∃ k : Nat, k ≤ M ∧ i = .int .i64 k ∧ RunRel w wr xb W.heap.size xm a' mem.length c' ca cc code M q k) (fun i _ => M - (intOf i).toNat)
  case atStart => exact ⟨0, Nat.zero_le _, rfl, HRUN.out⟩
  case round =>
    obtain ⟨k, hk, rfl, s, hsl, hmb, hat⟩ := hrel
    have HMB := Lib.hid hmb; have HSL := Lib.hid hsl; have HAT := Lib.hid hat
    clear hmb hsl hat
    by_cases hlt : k < M
    · obtain ⟨b, hb⟩ : ∃ b, (mstepS code s).2 = b := ⟨_, rfl⟩
      have hms := mstep_any _ xm _ _ _ _ _ code s HMB.out.sin (fun k hk _ => HA.out k hk)
      rw [hb] at hms
      cases b with
      | true =>
        have hgo := HAT.out.go hlt hb
        have HGO := Lib.hid hgo; have HMS := Lib.hid hms
        clear hgo hms hb
        go_wp2_with (go_at_call 36; refine HMS.out.mono ?_; rintro e w6 ⟨rfl, ho⟩)
        go_roundw
        case rel => exact ⟨k + 1, by omega, by go_num, _, (mstepS_memlen code s).trans HSL.out, HMB.out.next ho (mstepS_wf HCW.out (by omega) HMB.out.sin.wf) (mstepS_memlen code s) HE.out, HGO.out⟩
        case measure => simp [intOf]; omega
      | false =>
        have hend := HAT.out.end hlt hb
        have HEN := Lib.hid hend; have HMS := Lib.hid hms
        clear hend hms hb
        go_wp2_with fail
        refine HMS.out.mono ?_
        rintro e w6 ⟨rfl, ho⟩
        have hqq := HEN.out
        generalize hs1 : (mstepS code s).1 = s1 at ho hqq
        have hE := HMB.out.run ho
        obtain ⟨c5, hc5, hr5⟩ := hE.res
        have hl5 := hE.st.2
        have HE5 := Lib.hid hE; have HR5 := Lib.hid hr5; have HC5 := Lib.hid hc5; have HL5 := Lib.hid hl5; have HQQ := Lib.hid hqq
        clear ho hE hr5 hc5 hl5 hqq
        go_wp2_with (first
          | ((with_reducible show wpList _ _ _ ({ dst := some _, op := Op.load 47 (.tmp 49), type := _, pos := _, after := _, guard := _ } :: _) _ _); (refine wpList_load_mid rfl 47 _ rfl xm 0 rfl (cellsSt (.slice a' s.mem.length c') s1) _ HE5.out.st.range Try.underlying47 rfl (by rw [Try.sizeSt, cellsSt_len HL5.out]) ?_))
          | ((with_reducible show wpList _ _ _ ({ dst := none, op := Op.store 47 (.tmp 6) (.tmp _), type := _, pos := _, after := _, guard := _ } :: _) _ _); (refine wpList_store_whole rfl 47 _ _ rfl xb rfl c5 _ rfl 47 HR5.out (by rw [Try.sizeSt, List.size_toArray, cellsSt_len HL5.out]) (by rw [HC5.out, List.size_toArray, cellsSt_len HL5.out]) (by simpa using cellsSt_one rfl _) ?_); intro w' hr6 hg6))
        refine bodyPost_ret (v := .tuple #[.agg (cellsSt (.slice a' s.mem.length c') s1).toArray, .int .i64 ((k : Int) + 1), .int .i64 0]) (results_3 rfl _ _ xb 47 _ (0, 0) _ _ rfl rfl rfl hr6 (by rw [List.size_toArray, cellsSt_len HL5.out])) rfl ?_
        rw [HMM.out, HQ.out]
        exact HE5.out.run hg6 HQQ.out (by first | rfl | omega)
    · obtain rfl : k = M := by omega
      go_wp2_with fail
      refine (stop_any wr xm 6 HMB.out.sin.st).mono ?_
      rintro e w6 ⟨rfl, rfl⟩
      have hqq := HAT.out.most
      have ho := (HMB.out.sin.start (KB.refl _ _)).setFin HMB.out.sin.apart 6
      generalize hs1 : ({ s with fin := 6 } : St) = s1 at ho hqq
      have hE := HMB.out.run ho
      obtain ⟨c5, hc5, hr5⟩ := hE.res
      have hl5 := hE.st.2
      have HE5 := Lib.hid hE; have HR5 := Lib.hid hr5; have HC5 := Lib.hid hc5; have HL5 := Lib.hid hl5; have HQQ := Lib.hid hqq
      clear ho hE hr5 hc5 hl5 hqq
      go_wp2_with (first
        | ((with_reducible show wpList _ _ _ ({ dst := some _, op := Op.load 47 (.tmp 58), type := _, pos := _, after := _, guard := _ } :: _) _ _); (refine wpList_load_mid rfl 47 _ rfl xm 0 rfl (cellsSt (.slice a' s.mem.length c') s1) _ HE5.out.st.range Try.underlying47 rfl (by rw [Try.sizeSt, cellsSt_len HL5.out]) ?_))
        | ((with_reducible show wpList _ _ _ ({ dst := none, op := Op.store 47 (.tmp 6) (.tmp _), type := _, pos := _, after := _, guard := _ } :: _) _ _); (refine wpList_store_whole rfl 47 _ _ rfl xb rfl c5 _ rfl 47 HR5.out (by rw [Try.sizeSt, List.size_toArray, cellsSt_len HL5.out]) (by rw [HC5.out, List.size_toArray, cellsSt_len HL5.out]) (by simpa using cellsSt_one rfl _) ?_); intro w' hr6 hg6))
      refine bodyPost_ret (v := .tuple #[.agg (cellsSt (.slice a' s.mem.length c') s1).toArray, .int .i64 (k : Int), .int .i64 0]) (results_3 rfl _ _ xb 47 _ (0, 0) _ _ rfl rfl rfl hr6 (by rw [List.size_toArray, cellsSt_len HL5.out])) rfl ?_
      rw [HMM.out, HQ.out]
      exact HE5.out.run hg6 HQQ.out (by first | rfl | omega)
theorem StB.rangeR {w : World} {g : Nat} {t : TypeId} {v : Value} {more : List Value} {s : St} (h : StB w g t v more s) : w.rangeAt g 0 (s.regs.map (Value.int .i64)) := fun j u hj => by
  have hlt := (List.getElem?_eq_some_iff.1 hj).1
  rw [List.length_map, h.2] at hlt
  rw [Nat.zero_add, h.reg hlt, ← hj, List.getElem?_map, List.getElem?_eq_getElem (by rw [h.2]; exact hlt)]
  unfold St.R
  simp [List.getD_eq_getElem?_getD, List.getElem?_eq_getElem (show j < s.regs.length by rw [h.2]; exact hlt)]
theorem Try.size16 : (Try.prog.info? 45).map (·.size) = some 16 := by kernel_rfl
theorem eq16 (W : World) (r0 r1 r2 r3 r4 r5 r6 r7 r8 r9 r10 r11 r12 r13 r14 r15 : Int) : (Op.equalIn 10000 45 (.agg #[.int .i64 r0, .int .i64 r1, .int .i64 r2, .int .i64 r3, .int .i64 r4, .int .i64 r5, .int .i64 r6, .int .i64 r7, .int .i64 r8, .int .i64 r9, .int .i64 r10, .int .i64 r11, .int .i64 r12, .int .i64 r13, .int .i64 r14, .int .i64 r15]) (.agg #[.int .i64 r0, .int .i64 r1, .int .i64 r2, .int .i64 r3, .int .i64 r4, .int .i64 r5, .int .i64 r6, .int .i64 r7, .int .i64 r8, .int .i64 r9, .int .i64 r10, .int .i64 r11, .int .i64 r12, .int .i64 r13, .int .i64 r14, .int .i64 r15])).run Try.prog W = .ok true W := by
  have u2 := Try.underlying2
  have a2 := Try.isAgg2
  have z2 := Try.sizeOf2
  rw [show (10000 : Nat) = 9999 + 1 from rfl, Op.equalIn]
  simp only [Sem.run_bind, run_underlying Try.underlying45, Result.andThen_ok]
  simp only [Std.Legacy.Range.forIn_eq_forIn_range', Std.Legacy.Range.size, Nat.sub_zero, Nat.add_sub_cancel, Nat.div_one, List.range'_succ, List.range'_zero, List.forIn_cons, List.forIn_nil]
  go_simp
theorem neq16 (W : World) (l : List Int) (hl : l.length = 16) : (binOp .neq 45 (.agg (l.map (Value.int .i64)).toArray) (.agg (l.map (Value.int .i64)).toArray)).run Try.prog W = .ok (.bool false) W := by
  match l, hl with
  | [r0, r1, r2, r3, r4, r5, r6, r7, r8, r9, r10, r11, r12, r13, r14, r15], _ =>
    rw [run_neq_struct]
    simp only [List.map_cons, List.map_nil, eq16, Result.andThen_ok, Bool.not_true]
theorem same_any (w : World) (a b : Option Addr) (c d : Nat) (s : St) (hl : s.regs.length = 16) (hm : s.mem.length ≤ 9223372036854775806) (hx : IntsAt .i64 w a s.mem) (hy : IntsAt .i64 w b s.mem) :
    Calls Try.prog 21 #[.agg (cellsSt (.slice a s.mem.length c) s).toArray, .agg (cellsSt (.slice b s.mem.length d) s).toArray] w fun e w' => e = .returned (.bool true) ∧ Below w.heap.size w w' := by
  have h0 := StB.new w (.slice a s.mem.length c) s 47 hl
  have h1 := StB.new (w.alloc (.cells (cellsSt (.slice a s.mem.length c) s).toArray 47)) (.slice b s.mem.length d) s 47 hl
  have hb : Below w.heap.size w ((w.alloc (.cells (cellsSt (.slice a s.mem.length c) s).toArray 47)).alloc (.cells (cellsSt (.slice b s.mem.length d) s).toArray 47)) := ((Below.refl _ _).alloc (Nat.le_refl _) _).alloc (by simp) _
  have h0' := h0.alloc (.cells (cellsSt (.slice b s.mem.length d) s).toArray 47)
  rw [show (w.alloc (.cells (cellsSt (.slice a s.mem.length c) s).toArray 47)).heap.size = w.heap.size + 1 from by simp] at h1
  obtain ⟨xb, hxb⟩ : ∃ xb, w.heap.size = xb := ⟨_, rfl⟩
  rw [hxb] at h0' h1
  have H0 := Lib.hid h0'; have H1 := Lib.hid h1; have HB := Lib.hid hb; have HX := Lib.hid hx; have HY := Lib.hid hy; have HL := Lib.hid hl; have Hxb := Lib.hid hxb
  clear h0 h1 hb h0' hx hy hl
  go_enter Try.func21, Try.ntmps21
  go_upto_region 1 with fail
  refine gen_world (fun W => Below w.heap.size w W ∧ StB W xb 47 (.slice a s.mem.length c) [] s ∧ StB W (xb + 1) 47 (.slice b s.mem.length d) [] s) ⟨HB.out, H0.out, H1.out⟩ ?_
  rintro W ⟨hbW, g0, g1⟩
  have c16 := g0.memv; have c17 := g0.pc; have c18 := g0.fin; have c19 := g0.told
  have d16 := g1.memv; have d17 := g1.pc; have d18 := g1.fin; have d19 := g1.told
  have hne := fun W => neq16 W s.regs HL.out
  have HBW := Lib.hid hbW; have R0 := Lib.hid g0.rangeR; have R1 := Lib.hid g1.rangeR
  clear hbW g0 g1 H0 H1 HB hxb
  go_wp2_with (first
    | ((with_reducible show wpList _ _ _ ({ dst := some _, op := Op.load 45 (.tmp 6), type := _, pos := _, after := _, guard := _ } :: _) _ _); (refine wpList_load_mid rfl 45 _ rfl xb 0 rfl (s.regs.map (Value.int .i64)) _ R0.out Try.underlying45 rfl (by rw [Try.size16, List.length_map, HL.out]) ?_))
    | ((with_reducible show wpList _ _ _ ({ dst := some _, op := Op.load 45 (.tmp 8), type := _, pos := _, after := _, guard := _ } :: _) _ _); (refine wpList_load_mid rfl 45 _ rfl (xb + 1) 0 rfl (s.regs.map (Value.int .i64)) _ R1.out Try.underlying45 rfl (by rw [Try.size16, List.length_map, HL.out]) ?_)))
  clear hne
  go_loopw [5] (fun i wr => ∃ (k n : Nat), k ≤ s.mem.length ∧ i = .int .i64 k ∧ wr = W.drewN n) (fun i _ => s.mem.length - (intOf i).toNat)
  case atStart => exact ⟨0, 0, Nat.zero_le _, rfl, rfl⟩
  case round =>
    obtain ⟨k, n, hk, rfl, rfl⟩ := hrel
    by_cases hlt : k < s.mem.length
    · obtain ⟨b0, off, rfl, x0⟩ := (HX.out.below HBW.out (Nat.le_refl _)) k hlt
      obtain ⟨b2, off2, rfl, y0⟩ := (HY.out.below HBW.out (Nat.le_refl _)) k hlt
      have hz0 : (0 : Int) ≤ (k : Int) := by omega
      have hz1 : (k : Int) < (s.mem.length : Int) := by omega
      go_wp2_with fail
      go_quiet (fail)
      go_wp2_with fail
      go_roundw
      case rel => exact ⟨k + 1, _, by omega, by go_num, rfl⟩
      case measure => simp [intOf]; omega
    · go_wp2_with fail
      go_ret
      exact ⟨rfl, HBW.out.trans (Below.drewN _ _)⟩
theorem stored_state {w1 w2 : World} {o : Obj} {v : Value} {s : St} {z : Nat} (hz : w1.heap.size = z) (hl : s.regs.length = 16) (hr : w2.heap[z]? = some (.cells (cellsSt v s).toArray 47 (0, 0))) (hg : (w1.alloc o).grownBy w2 (some z)) : StB w2 z 47 v [] s ∧ Below w1.heap.size w1 w2 := by
  subst hz
  exact
  ⟨⟨by rw [List.append_nil]; exact hr, hl⟩, ((Below.refl _ _).alloc (Nat.le_refl _) o).grown hg (by simp) (fun k e => by cases e; exact Nat.le_refl _)⟩
theorem runI_len (code : List Ins) : ∀ (n : Nat) {s : St}, s.regs.length = 16 → (runI code n s).1.regs.length = 16
  | 0, s, h => h
  | n + 1, s, h => by
    have h1 : (mstepS code s).1.regs.length = 16 := by
      unfold mstepS
      split
      · exact stepI_len _ h
      · exact h
    rw [runI]
    split
    · exact runI_len code n h1
    · exact h1
def IntSl (w : World) (v : Value) (xs : List Int) : Prop := (Rep.int .i64).Sl w v xs
theorem IntSl.below {w w' : World} {v : Value} {xs : List Int} (h : IntSl w v xs) (hb : Below w.heap.size w w') : IntSl w' v xs := Rep.Sl.below _ h hb (Nat.le_refl _)
theorem IntSl.form {w : World} {v : Value} {xs : List Int} (h : IntSl w v xs) : ∃ a c, v = .slice a xs.length c := by
  obtain ⟨a, c, e, _⟩ := h
  exact ⟨a, c, e⟩
theorem IntSl.in64 {w : World} {v : Value} {xs : List Int} (h : IntSl w v xs) : ∀ x ∈ xs, In64 x := by
  obtain ⟨a, c, e, _, _, _, h⟩ := h
  intro x hx
  obtain ⟨k, hk, rfl⟩ := List.getElem_of_mem hx
  obtain ⟨_, _, _, _, ⟨_, hw⟩, _⟩ := h k hk
  exact wf_i64 hw
theorem IntSl.at {w : World} {a : Option Addr} {n c : Nat} {xs : List Int} (h : IntSl w (.slice a n c) xs) : n = xs.length ∧ IntsAt .i64 w a xs := int_at h
theorem IntSl.len {w : World} {v : Value} {xs : List Int} (h : IntSl w v xs) : xs.length ≤ 9223372036854775807 := by
  obtain ⟨a, c, e, h1, h2, _⟩ := h
  unfold maxLen at h2
  omega
theorem IntSl.take {w : World} {a : Option Addr} {n c : Nat} {xs : List Int} (h : IntSl w (.slice a n c) xs) (k : Nat) (hk : k ≤ xs.length) : IntSl w (.slice a k c) (xs.take k) := by
  obtain ⟨a', c', e, h1, h2, h3, h4⟩ := h
  cases e
  refine ⟨a, c, by simp [Nat.min_eq_left hk], by simp; omega, h2, h3, fun i hi => ?_⟩
  simp at hi
  obtain ⟨b, off, cs, e, g1, g2⟩ := h4 i (by omega)
  exact ⟨b, off, cs, e, by rw [List.getElem_take]; exact g1, g2⟩
theorem lit_in {x : Int} (h : In64 x) : (Lit.int .i64 x).wf = true := by
  unfold In64 at h
  simp [Lit.wf, IntKind.min, IntKind.max, IntKind.signed, IntKind.bits]
  omega
theorem map_flat (xs : List Int) : xs.map (Value.int .i64) = xs.flatMap (fun x => [Value.int .i64 x]) := by induction xs <;> simp_all
theorem MemR.sl {B : Nat} {w : World} {v : Value} {xs : List Int} (h : MemR B w v xs) (hx : ∀ x ∈ xs, In64 x) : IntSl w v xs :=
  flat_own (n := 1) (enc := fun x => [Value.int .i64 x]) (wf := fun x => (Lit.int .i64 x).wf = true) (fun _ => rfl) (by intro x v hv; cases List.mem_singleton.1 hv; rfl) (by unfold MemR at h; rwa [map_flat] at h) (fun x hm => lit_in (hx x hm))
theorem opens_i64 : Opens 43 (Rep.int .i64).slice := opens_slice Try.underlying43 (by kernel_rfl) (by rw [show Try.prog.cellsOf 2 = 1 from by kernel_rfl]; decide) (opens_int Try.underlying2 (by kernel_rfl))
def RunS (code : List Ins) (mem : List Int) (most : Int) : (St × Nat) × Int := if goodB code mem.length most then (runI code most.toNat (St0 mem), 0) else ((St0 [], 0), 160)
def RunW (w : World) (r : (St × Nat) × Int) (e : Ending) (w' : World) : Prop := ∃ v', e = .returned (.tuple #[.agg (cellsSt v' r.1.1).toArray, .int .i64 (r.1.2 : Int), .int .i64 r.2]) ∧ IntSl w' v' r.1.1.mem ∧ r.1.1.wf ∧ Below w.heap.size w w'
theorem runI_wf {code : List Ins} (hc : ∀ x ∈ code, x.wf) (hl : code.length ≤ 9223372036854775807) : ∀ (n : Nat) {s : St}, s.wf → (runI code n s).1.wf
  | 0, s, h => fin_wf h ⟨by decide, by decide⟩
  | n + 1, s, h => by
    rw [runI]
    split
    · exact runI_wf hc hl n (mstepS_wf hc hl h)
    · exact mstepS_wf hc hl h
theorem St0_nil : (St0 []).wf := St0_wf (by simp)
theorem run_any (w : World) (v : Value) (mem : List Int) (ca : Option Addr) (cc : Nat) (code : List Ins) (most : Int) (he : insRep.Els w ca code) (hlen : code.length ≤ 9223372036854775807) (hs : IntSl w v mem) :
    Calls Try.prog 20 #[.slice ca code.length cc, v, .int .i64 most] w (RunW w (RunS code mem most)) := by
  obtain ⟨a, c, rfl⟩ := hs.form
  unfold RunS
  cases hg : goodB code mem.length most with
  | true =>
    have hw := runI_wf (els_wf he) hlen most.toNat (St0_wf hs.in64)
    exact (run_good w a c mem ca cc code most hg he hs.at.2 hs.in64).mono fun e w' ⟨v', h1, h2, h3⟩ => ⟨v', h1, h2.sl hw.mem, hw, h3⟩
  | false => exact (run_bad w a c mem ca cc code most hg he (by unfold maxLen; omega)).mono fun e w' ⟨h1, h3⟩ => ⟨_, h1, Rep.Sl.nil _ _, St0_nil, h3⟩
theorem subA_zero (a : Option Addr) (m : Nat) : subA a m 0 = a := by
  unfold subA
  split
  · rfl
  · cases a with
    | none => rfl
    | some ad => simp [Addr.add]
theorem wpList_load_rowW {P : Program} {ops : Array Oper} {rest : List Oper} {o : Oper} {a : Act} {w : World} {Q : Exit → Act → World → Prop} (hw : Region.wanted o (yielded ops a.tmps) = true) (ty : TypeId) (x : Operand) (ho : o.op = .load ty x)
    (g : Nat) (hx : a.eval x = .pointer (some ⟨g, 0, none⟩)) (t : TypeId) (cs : Array Value) (fr : Nat × Nat) (d : TypeDesc) (hg : w.heap[g]? = some (.cells cs t fr))
    (hu : P.underlying ty = some d) (hd : (match d with | .struct _ | .array _ _ => true | _ => false) = true) (hi : (P.info? ty).map (·.size) = some cs.size)
    (h : wpList P ops Q rest (a.put o.dst (.agg cs)) w) : wpList P ops Q (o :: rest) a w :=
  wpList_step fun K hK => by rw [if_pos hw]; exact wp_load_row ty x ho g hx t cs fr d hg hu hd hi (hK _ _ h)
def InB (W : World) (z : Nat) (v : Value) (s : St) : Prop := StB W z 47 v [] s
theorem InB.row0 {w : World} {g : Nat} {v : Value} {s : St} (h : InB w g v s) : w.heap[g]? = some (.cells (cellsSt v s).toArray 47 (0, 0)) := StB.row0 h
theorem InB.below {w w' : World} {g : Nat} {v : Value} {s : St} (h : InB w g v s) (hb : Below w.heap.size w w') : InB w' g v s := StB.below h hb
theorem new_state {w1 w2 : World} {o : Obj} {v : Value} {s : St} {z : Nat} (hz : w1.heap.size = z) (hl : s.regs.length = 16) (hr : w2.heap[z]? = some (.cells (cellsSt v s).toArray 47 (0, 0))) (hg : (w1.alloc o).grownBy w2 (some z)) : InB w2 z v s ∧ Below w1.heap.size w1 w2 := stored_state hz hl hr hg
theorem same_any' (w : World) (v u : Value) (s : St) (hl : s.wf) (hm : s.mem.length ≤ 9223372036854775806) (hx : IntSl w v s.mem) (hy : IntSl w u s.mem) :
    Calls Try.prog 21 #[.agg (cellsSt v s).toArray, .agg (cellsSt u s).toArray] w fun e w' => e = .returned (.bool true) ∧ Below w.heap.size w w' := by
  obtain ⟨a, c, rfl⟩ := hx.form
  obtain ⟨b, d, rfl⟩ := hy.form
  exact same_any w a b c d s hl.len hm hx.at.2 hy.at.2
theorem runI_memlen (code : List Ins) : ∀ (n : Nat) (s : St), (runI code n s).1.mem.length = s.mem.length
  | 0, s => rfl
  | n + 1, s => by
    rw [runI]
    split
    · exact (runI_memlen code n _).trans (mstepS_memlen code s)
    · exact mstepS_memlen code s
theorem RunS_small (code : List Ins) (mem : List Int) (most : Int) : (RunS code mem most).1.1.mem.length ≤ 9223372036854775806 := by
  unfold RunS
  split
  · rename_i hg
    have := (good_facts hg).2.1
    rw [runI_memlen]
    show mem.length ≤ _
    omega
  · simp [St0]
end Go.Proofs.Ytegjcghcknpjeaa
