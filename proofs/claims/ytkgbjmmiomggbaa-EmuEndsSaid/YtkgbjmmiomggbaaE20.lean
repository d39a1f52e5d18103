import Derived.Test.YtkgbjmmiomggbaaE19
import Derived.Test.YtkgbjmmiomggbaaClone
namespace Go.Proofs.Ytkgbjmmiomggbaa
open Go.RowKit
set_option linter.unusedVariables false
attribute [local go_sem ↓] Go.wp_at_zero Go.wp_at_succ

theorem int_at {w : World} {a : Option Addr} {n c : Nat} {xs : List Int} (h : (Rep.int .i64).Sl w (.slice a n c) xs) : n = xs.length ∧ IntsAt .i64 w a xs := by
  obtain ⟨a', cap, e, hle, _, h2, h4⟩ := h
  cases e
  refine ⟨rfl, fun i hi => ?_⟩
  obtain ⟨b, off, cs, e, ⟨rfl, _⟩, hc⟩ := h4 i hi
  refine ⟨b, off, e, ?_⟩
  simpa [Rep.int, Rep.flat] using hc 0 (.int .i64 xs[i]) rfl

theorem MemR.mono {B B' : Nat} {w : World} {v : Value} {l : List Int} (h : MemR B w v l) (hb : B' ≤ B) : MemR B' w v l :=
  ⟨h.1, h.2.imp id fun ⟨g, cap, cur, e, h1, h2⟩ => ⟨g, cap, cur, e, Nat.le_trans hb h1, h2⟩⟩
theorem StB.row0 {w : World} {g : Nat} {t : TypeId} {v : Value} {s : St} (h : StB w g t v [] s) : w.heap[g]? = some (.cells (cellsSt v s).toArray t (0, 0)) := by have := h.1; rwa [List.append_nil] at this

/-- the state that a call has taken in, and the block of its answer -/
structure SB (w W : World) (x : Nat) (v : Value) (s : St) : Prop where
  below : Below w.heap.size w W
  st : StB W x 26 v [] s
  res : ∃ c, c.size = 20 ∧ W.heap[x + 1]? = some (.cells c 26 (0, 0))
theorem SB.start (w : World) (v : Value) (s : St) (hl : s.regs.length = 16) (c : Array Value) (hc : c.size = 20) : SB w ((w.alloc (.cells (cellsSt v s).toArray 26)).alloc (.cells c 26)) w.heap.size v s :=
  ⟨((Below.refl _ _).alloc (Nat.le_refl _) _).alloc (by simp) _, (StB.new w _ s _ hl).alloc _, ⟨c, hc, by
    have := World.alloc_heap_new (w.alloc (.cells (cellsSt v s).toArray 26)) (.cells c 26)
    rwa [show (w.alloc (.cells (cellsSt v s).toArray 26)).heap.size = w.heap.size + 1 from by simp] at this⟩⟩

set_option maxRecDepth 100000 in
set_option maxHeartbeats 8000000 in
/-- a state in memory of its own -/
theorem copied_any (w : World) (a : Option Addr) (c : Nat) (s : St) (hl : s.regs.length = 16) (hm : s.mem.length ≤ 2097152) (hs : Src w (.slice a s.mem.length c) s.mem.length (s.mem.map (Value.int .i64)))
    (hk : ∀ W, Below w.heap.size w W → Src W (.slice a s.mem.length c) s.mem.length (s.mem.map (Value.int .i64))) :
    Calls Try.prog 22 #[.agg (cellsSt (.slice a s.mem.length c) s).toArray] w fun e w' => (∃ v', e = .returned (.agg (cellsSt v' s).toArray) ∧ MemR w.heap.size w' v' s.mem) ∧ Below w.heap.size w w' := by
  obtain ⟨i0, hi, hz0, hz1, hz2⟩ := info_parts Try.info2
  have Hi := Lib.hid hi; have Hz0 := Lib.hid hz0; have Hz1 := Lib.hid hz1; have Hz2 := Lib.hid hz2; clear hi hz0 hz1 hz2
  obtain ⟨xb, hxb⟩ : ∃ xb, w.heap.size = xb := ⟨_, rfl⟩
  have hst := SB.start w (.slice a s.mem.length c) s hl
  rw [hxb] at hst hk
  have HST := Lib.hid hst; have HK := Lib.hid hk; have HM := Lib.hid hm; have HL := Lib.hid hl; have Hxb := Lib.hid hxb
  clear hst hk hs hm hl
  go_enter Try.func22, Try.ntmps22
  go_upto_region 1 with fail
  refine gen_world (fun W => SB w W xb (.slice a s.mem.length c) s) (HST.out _ (by rfl)) ?_
  intro W hW
  have c16 := hW.st.memv
  have hlt := hW.st.lt
  have HW := Lib.hid hW; clear hW hxb
  have hsz : xb ≤ W.heap.size := by omega
  go_wp2_with (at_builtin; (refine wpList_append_src _ rfl _ _ 24 rfl W.heap.size 2 i0 (.int .i64 0) 1 8 Try.underlying24 Hi.out Hz0.out Hz1.out Hz2.out rfl (by decide) _ 0 [] rfl (World.ownsRow_made W #[] 0 (Nat.le_refl _) (Nat.zero_le _) rfl) _ s.mem.length (s.mem.map (Value.int .i64)) rfl (HK.out _ (by have := HW.out.below; rw [Hxb.out] at this; exact this.alloc hsz _)) (by simp) (oneCell_ints _ _) (by have := HM.out; unfold maxLen; omega) (by have := HM.out; omega) (by simp) ?_))
  intro v' w1 hown hgrow _
  obtain ⟨cr, hcr, hres⟩ := HW.out.res
  have hlr := block_lt hres
  have hst1 : StB w1 xb 26 (.slice a s.mem.length c) [] s := (HW.out.st.alloc _).grown hgrow (fun e => absurd (show W.heap.size = xb by simpa [Value.ownBlock] using e) (by omega))
  have hres1 := block_grown (block_alloc hres _) hgrow (fun e => absurd (show W.heap.size = xb + 1 by simpa [Value.ownBlock] using e) (by omega))
  have hmem1 : MemR W.heap.size w1 v' s.mem := by unfold MemR; simpa using hown
  obtain ⟨a', c', rfl, _⟩ := MemR.form hmem1
  have hb0 := HW.out.below
  have hb1 : Below w.heap.size w w1 := (hb0.alloc (by rw [Hxb.out]; exact hsz) _).grown hgrow (by have := hb0.size; simp; omega) (fun k e => by cases e; exact hb0.size)
  have d16 := hst1.memv
  have g16 := hst1.frozen 16
  have hs2 := hst1.setMem (.slice a' s.mem.length c')
  have hres2 := block_other (p := ⟨xb, 16, none⟩) hres1 (by show xb ≠ xb + 1; omega) (.slice a' s.mem.length c')
  have hmem2 : MemR W.heap.size (w1.setCell ⟨xb, 16, none⟩ (.slice a' s.mem.length c')) (.slice a' s.mem.length c') s.mem := own_other (p := ⟨xb, 16, none⟩) hmem1 (fun g hg => by have := (World.ownsRow.lt hmem1 g hg).1; show g ≠ xb; omega) _
  have hb2 : Below w.heap.size w (w1.setCell ⟨xb, 16, none⟩ (.slice a' s.mem.length c')) := hb1.setCell (by rw [Hxb.out]; exact Nat.le_refl _) _
  have HS2 := Lib.hid hs2; have HR2 := Lib.hid hres2; have HM2 := Lib.hid hmem2; have HB2 := Lib.hid hb2; have HCR := Lib.hid hcr
  clear hown hgrow hst1 hres1 hmem1 hb0 hb1 hs2 hres2 hmem2 hb2 hcr hres c16 hlt
  go_wp2_with (first
    | ((with_reducible show wpList _ _ _ ({ dst := some _, op := Op.load 26 (.tmp 1), type := _, pos := _, after := _, guard := _ } :: _) _ _); (refine wpList_load_row rfl 26 _ rfl xb rfl 26 _ (0, 0) _ HS2.out.row0 Try.underlying26 rfl (by rw [Try.sizeSt, List.size_toArray, cellsSt_len HL.out]) ?_))
    | ((with_reducible show wpList _ _ _ ({ dst := none, op := Op.store 26 (.tmp 2) (.tmp _), type := _, pos := _, after := _, guard := _ } :: _) _ _); (refine wpList_store_whole rfl 26 _ _ rfl (xb + 1) rfl cr _ rfl 26 HR2.out (by rw [Try.sizeSt, List.size_toArray, cellsSt_len HL.out]) (by rw [HCR.out, List.size_toArray, cellsSt_len HL.out]) (by simpa using cellsSt_one (by obtain ⟨_, _, e, _⟩ := MemR.form HM2.out; rw [e]; rfl) _) ?_); intro w' hr5 hg5))
  refine bodyPost_ret (v := .agg (cellsSt (.slice a' s.mem.length c') s).toArray) (results_cell_row rfl _ _ (xb + 1) 26 _ (0, 0) _ rfl hr5 Try.underlying26 rfl (by rw [Try.sizeSt, List.size_toArray, cellsSt_len HL.out])) rfl ?_
  refine ⟨⟨_, rfl, ?_⟩, HB2.out.grown hg5 HB2.out.size (fun k e => by cases e; rw [Hxb.out]; omega)⟩
  exact MemR.mono (World.ownsRow.kept HM2.out hg5 (by
    cases hv : (Value.slice a' s.mem.length c').ownBlock with
    | none => exact .inl rfl
    | some k => exact .inr (fun e => by have := (World.ownsRow.lt HM2.out k hv).1; cases e; omega))) (by rw [Hxb.out]; exact hsz)
end Go.Proofs.Ytkgbjmmiomggbaa
