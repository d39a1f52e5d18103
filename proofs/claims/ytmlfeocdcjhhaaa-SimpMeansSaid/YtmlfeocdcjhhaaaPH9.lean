import Derived.Test.YtmlfeocdcjhhaaaPH7
import Derived.Laws.Rows
namespace Go.Proofs.Ytmlfeocdcjhhaaa
set_option maxRecDepth 100000
open Go.RowKit
set_option linter.unusedVariables false
set_option linter.unusedSimpArgs false
attribute [local go_sem ↓] Go.wp_at_zero Go.wp_at_succ

def ScB (w : World) (sb V : Nat) (L buf : Int) (v : Value) : Prop := w.heap[sb]? = some (.cells #[.int .i64 V, .int .i64 L, .int .i64 buf, v] 92 (0, 0))
theorem ScB.lt {w : World} {sb V : Nat} {L buf : Int} {v : Value} (h : ScB w sb V L buf v) : sb < w.heap.size := (Array.getElem?_eq_some_iff.1 h).1
theorem ScB.cell {w : World} {sb V : Nat} {L buf : Int} {v : Value} (h : ScB w sb V L buf v) (j : Nat) : w.cell? ⟨sb, j, none⟩ = [.int .i64 V, .int .i64 L, .int .i64 buf, v][j]? := blockCells (cs := [.int .i64 V, .int .i64 L, .int .i64 buf, v]) h j
theorem ScB.frozen {w : World} {sb V : Nat} {L buf : Int} {v : Value} (h : ScB w sb V L buf v) (j : Nat) : w.frozen? ⟨sb, j, none⟩ = false := frozen_of_row w sb j _ _ h
theorem ScB.set1 {w : World} {sb V : Nat} {L buf : Int} {v : Value} (h : ScB w sb V L buf v) (x : Int) : ScB (w.setCell ⟨sb, 1, none⟩ (.int .i64 x)) sb V x buf v := by
  unfold ScB
  rw [heap_setCell_same w sb 1 _ _ _ h]
  rfl
theorem ScB.set2 {w : World} {sb V : Nat} {L buf : Int} {v : Value} (h : ScB w sb V L buf v) (x : Int) : ScB (w.setCell ⟨sb, 2, none⟩ (.int .i64 x)) sb V L x v := by
  unfold ScB
  rw [heap_setCell_same w sb 2 _ _ _ h]
  rfl
theorem ScB.below {w w' : World} {sb V : Nat} {L buf : Int} {v : Value} (h : ScB w sb V L buf v) (hb : Below w.heap.size w w') : ScB w' sb V L buf v := keepBlock h hb
theorem ScB.at {w : World} {sb V L : Nat} {buf : Int} {ma : Option Addr} {mc : Nat} {made : List Bool} (h : ScB w sb V L buf (.slice ma made.length mc)) (hm : MadeAt w ma made) : ScopeAt w sb V L buf ma mc made := ⟨h.cell 0, h.cell 1, h.cell 2, h.cell 3, h.lt, hm⟩
theorem MadeAt.kept {w w' : World} {ma : Option Addr} {made : List Bool} {S : Nat → Prop} (h : MadeAt w ma made) (hk : KB S w w') (hne : ∀ b off, ma = some ⟨b, off, none⟩ → ¬ S b) : MadeAt w' ma made := fun k hk' => by
  obtain ⟨b, off, e, hc⟩ := h k hk'
  exact ⟨b, off, e, (hk.cell (World.block_lt_of_cell? _ _ hc) (hne b off e)).trans hc⟩
structure CIn (w W : World) (x sb : Nat) (how buf : Int) (v0 v1 : Value) (fn : Int) (v2 : Value) : Prop where
  below : Below w.heap.size w W
  b0 : W.cell? ⟨x, 0, none⟩ = some (.pointer (some ⟨sb, 0, none⟩))
  y0 : W.cell? ⟨x + 1, 0, none⟩ = some (.int .i64 how)
  y1 : W.cell? ⟨x + 1, 1, none⟩ = some (.int .i64 buf)
  y2 : W.cell? ⟨x + 1, 2, none⟩ = some v0
  y3 : W.cell? ⟨x + 1, 3, none⟩ = some v1
  y4 : W.cell? ⟨x + 1, 4, none⟩ = some (.int .u8 fn)
  y5 : W.cell? ⟨x + 1, 5, none⟩ = some v2
  hx : x + 1 < W.heap.size
theorem CIn.next {w W W' : World} {x sb : Nat} {v0 v1 v2 : Value} {how buf fn : Int} (h : CIn w W x sb how buf v0 v1 fn v2) (hb : Below W.heap.size W W') : CIn w W' x sb how buf v0 v1 fn v2 :=
  ⟨bNext hb h.below, keepCell hb h.b0, keepCell hb h.y0, keepCell hb h.y1, keepCell hb h.y2, keepCell hb h.y3, keepCell hb h.y4, keepCell hb h.y5, Nat.lt_of_lt_of_le h.hx hb.size⟩
theorem cIn_new (w : World) (sb : Nat) (how buf : Int) (v0 v1 : Value) (fn : Int) (v2 : Value) :
    CIn w ((w.alloc (.cells #[.pointer (some ⟨sb, 0, none⟩)] 89)).alloc (.cells #[.int .i64 how, .int .i64 buf, v0, v1, .int .u8 fn, v2] 42)) w.heap.size sb how buf v0 v1 fn v2 := by
  have n0 := oldBlock (World.alloc_heap_new w (.cells #[.pointer (some ⟨sb, 0, none⟩)] 89)) (.cells #[.int .i64 how, .int .i64 buf, v0, v1, .int .u8 fn, v2] 42)
  have n1 := World.alloc_heap_new (w.alloc (.cells #[.pointer (some ⟨sb, 0, none⟩)] 89)) (.cells #[.int .i64 how, .int .i64 buf, v0, v1, .int .u8 fn, v2] 42)
  rw [show (w.alloc (.cells #[.pointer (some ⟨sb, 0, none⟩)] 89)).heap.size = w.heap.size + 1 from by simp] at n1
  have g0 := blockCells (cs := [.pointer (some ⟨sb, 0, none⟩)]) n0
  have g1 := blockCells (cs := [.int .i64 how, .int .i64 buf, v0, v1, .int .u8 fn, v2]) n1
  exact ⟨((Below.refl _ _).alloc (Nat.le_refl _) _).alloc (by simp) _, g0 0, g1 0, g1 1, g1 2, g1 3, g1 4, g1 5, by simp⟩
/-- what a call of (*scope).step leaves -/
def CEnd (w w' : World) (sb V : Nat) (v : Value) : Prop := (∃ L buf, ScB w' sb V L buf v) ∧ KB (fun b => b = sb) w w'
theorem cEnd_below {w w' : World} {sb V : Nat} {L buf : Int} {v : Value} (h : ScB w sb V L buf v) (hb : Below w.heap.size w w') : CEnd w w' sb V v := ⟨⟨L, buf, h.below hb⟩, KB.of_below hb (fun g h1 h2 => by omega)⟩

/-- the world behind the two stores -/
structure CGo (w0 w W : World) (x sb V : Nat) (L buf : Int) (v v2 : Value) : Prop where
  base : Below w0.heap.size w0 W
  kb : KB (fun b => b = sb) w W
  sc : ScB W sb V L buf v
  b0 : W.cell? ⟨x, 0, none⟩ = some (.pointer (some ⟨sb, 0, none⟩))
  y5 : W.cell? ⟨x + 1, 5, none⟩ = some v2
theorem cgo_new {w0 w W : World} {x sb V : Nat} {L0 buf0 how buf fn L : Int} {v v0 v1 v2 : Value} (h0 : Below w0.heap.size w0 w) (hsb : w0.heap.size ≤ sb) (hin : CIn w W x sb how buf v0 v1 fn v2) (hsc : ScB W sb V L0 buf0 v) (n1 : ¬ x = sb) (n2 : ¬ x + 1 = sb) :
    CGo w0 w ((W.setCell ⟨sb, 1, none⟩ (.int .i64 L)).setCell ⟨sb, 2, none⟩ (.int .i64 buf)).drew x sb V L buf v v2 := by
  have hk : KB (fun b => b = sb) W ((W.setCell ⟨sb, 1, none⟩ (.int .i64 L)).setCell ⟨sb, 2, none⟩ (.int .i64 buf)).drew := (((KB.refl (fun b => b = sb) W).setCell (p := ⟨sb, 1, none⟩) (fun _ => rfl) _).setCell (p := ⟨sb, 2, none⟩) (fun _ => rfl) _).drew
  have hkw : KB (fun b => b = sb) w W := KB.of_below hin.below (fun g h1 h2 => by omega)
  have hkk := hkw.trans hk
  have hx := hin.hx
  exact ⟨h0.trans (hkk.below (B := w0.heap.size) h0.size (fun g e => by omega)), hkk, (hsc.set1 L).set2 buf, (hk.cell (p := ⟨x, 0, none⟩) (show x < _ by omega) n1).trans hin.b0, (hk.cell (p := ⟨x + 1, 5, none⟩) (show x + 1 < _ by omega) n2).trans hin.y5⟩
theorem all_not_any (p : Cop → Bool) : ∀ l : List Cop, l.all p = !l.any (fun o => !p o)
  | [] => rfl
  | x :: l => by simp [all_not_any p l]


set_option maxHeartbeats 16000000 in
theorem cstep_any (w0 w : World) (h0 : Below w0.heap.size w0 w) (sb : Nat) (hsb : w0.heap.size ≤ sb) (V : Nat) (hV : V ≤ 6) (L0 buf0 : Int)
    (how buf fn : Int) (pos : List Mono) (p0 : Option Addr) (c0 : Nat) (hps : monoRep.Els w0 p0 pos) (hpl : pos.length ≤ 9223372036854775807) (loops : List (List Mono)) (p1 : Option Addr) (c1 : Nat) (hle : polyRep.Els w0 p1 loops) (hll : loops.length ≤ 9223372036854775807)
    (ops : List Cop) (p2 : Option Addr) (c2 : Nat) (hoe : copRep.Els w0 p2 ops) (hol : ops.length ≤ maxLen) (ma : Option Addr) (mc : Nat) (made : List Bool) (hmade : MadeAt w ma made) (hne : ∀ b off, ma = some ⟨b, off, none⟩ → ¬ b = sb)
    (hsc : ScB w sb V L0 buf0 (.slice ma made.length mc)) :
    Calls Try.prog 47 #[.pointer (some ⟨sb, 0, none⟩), .agg #[.int .i64 how, .int .i64 buf, .slice p0 pos.length c0, .slice p1 loops.length c1, .int .u8 fn, .slice p2 ops.length c2]] w fun e w' =>
      e = .returned (.bool (stepQ V made ⟨how, buf, pos, loops, fn, ops⟩)) ∧ CEnd w w' sb V (.slice ma made.length mc) := by
  have hol' : ops.length ≤ 9223372036854775807 := by unfold maxLen at hol; omega
  have hnew := cIn_new w sb how buf (.slice p0 pos.length c0) (.slice p1 loops.length c1) fn (.slice p2 ops.length c2)
  have HB0 := Lib.hid h0; have HPS := Lib.hid hps; have HLE := Lib.hid hle; have HOE := Lib.hid hoe; have HMD := Lib.hid hmade; have HNE := Lib.hid hne; have HSC := Lib.hid hsc; have HN := Lib.hid hnew; have HOL := Lib.hid hol
  clear h0 hps hle hoe hmade hne hsc hnew hol
  have hS : ∀ b, (stepQ V made ⟨how, buf, pos, loops, fn, ops⟩) = b → stepQ V made ⟨how, buf, pos, loops, fn, ops⟩ = b := fun b h => h
  have HS := Lib.hid hS; clear hS
  go_enter Try.func47, Try.ntmps47
  go_upto_region 1 with fail
  refine gen_worldA (fun W => CIn w W w.heap.size sb how buf (.slice p0 pos.length c0) (.slice p1 loops.length c1) fn (.slice p2 ops.length c2)) HN.out ?_
  clear HN
  intro W hin
  have HIN := Lib.hid hin
  obtain ⟨hbW, b0, y0, y1, y2, y3, y4, y5, hxx⟩ := hin
  have hw0 := bNext hbW HB0.out
  have hsW := HSC.out.below hbW
  have s0 : W.cell? ⟨sb, 0, none⟩ = some (.int .i64 V) := hsW.cell 0
  have hq1 : ∀ p' : BelowW W, _ := fun p' => of_any p'.world p0 c0 pos V hV (HPS.out.below monoRep (bNext p'.below hw0) (Nat.le_refl _)) hpl
  have hq2 : ∀ p' : BelowW W, _ := fun p' => grows_any p'.world p0 c0 pos (HPS.out.below monoRep (bNext p'.below hw0) (Nat.le_refl _)) hpl
  have hq3 : ∀ p' : BelowW W, _ := fun p' => grow_any p'.world p1 c1 loops V hV (HLE.out.below polyRep (bNext p'.below hw0) (Nat.le_refl _)) hll
  have hq4 : ∀ p' : BelowW W, _ := fun p' => depth_any p'.world p2 c2 ops (HOE.out.below copRep (bNext p'.below hw0) (Nat.le_refl _)) hol'
  have HSW := Lib.hid hsW; have HW0 := Lib.hid hw0
  have f0 := cellBW b0; have f2 := cellBW y2; have f3 := cellBW y3; have f5 := cellBW y5; have fs := cellBW s0
  clear hbW hw0 hsW
  cases ho : ownB V pos with
  | false =>
    have HG := Lib.hid (HS.out false (by unfold stepQ bothB; simp [ho]))
    rw [ho] at hq1
    have HQ1 := Lib.hid hq1
    clear hq1 hq2 hq3 hq4 ho HS
    refine wp_region_below (by kernel_rfl) (by kernel_rfl) ?_
    repeat (go_big_quiet_step ((go_at_call 85; refine callsBW (HQ1.out _))))
    refine wpQuiet_nil ?_
    rintro _ ⟨⟨wq, hwq⟩, rfl⟩
    clear f0 f2 f3 f5 fs
    go_wp2_with fail
    go_ret
    exact ⟨ret_bool HG.out.symm, cEnd_below HSC.out (HIN.out.next hwq).below⟩
  | true =>
  rw [ho] at hq1
  have HQ1 := Lib.hid hq1
  clear hq1
  cases hg : growsB pos with
  | false =>
    have HG := Lib.hid (HS.out false (by unfold stepQ bothB; simp [hg]))
    rw [hg] at hq2
    have HQ2 := Lib.hid hq2
    clear hq2 hq3 hq4 ho hg HS
    refine wp_region_below (by kernel_rfl) (by kernel_rfl) ?_
    repeat (go_big_quiet_step (first | (go_at_call 85; refine callsBW (HQ1.out _)) | (go_at_call 86; refine callsBW (HQ2.out _))))
    refine wpQuiet_nil ?_
    rintro _ ⟨⟨wq, hwq⟩, rfl⟩
    clear f0 f2 f3 f5 fs
    go_wp2_with fail
    go_ret
    exact ⟨ret_bool HG.out.symm, cEnd_below HSC.out (HIN.out.next hwq).below⟩
  | true =>
  rw [hg] at hq2
  have HQ2 := Lib.hid hq2
  clear hq2
  have HS2 : Hid (∀ b, (growB V loops && (decide (how = 1) || decide (loops.length ≠ 0)) && (if how = 1 then fn == 0 else takes fn true) && decide (1 ≤ how) && decide (how ≤ 3) && decide (ops.length ≤ 256) && decide (0 ≤ depthI ops) && ops.all (opS V loops.length made buf)) = b → stepQ V made ⟨how, buf, pos, loops, fn, ops⟩ = b) := Lib.hid fun b h => by
    unfold stepQ bothB
    simp only [ho, hg, Bool.true_and]
    exact h
  clear HS ho hg
  cases hl : growB V loops with
  | false =>
    have HG := Lib.hid (HS2.out false (by simp [hl]))
    rw [hl] at hq3
    have HQ3 := Lib.hid hq3
    clear hq3 hq4 hl HS2
    refine wp_region_below (by kernel_rfl) (by kernel_rfl) ?_
    repeat (go_big_quiet_step (first | (go_at_call 85; refine callsBW (HQ1.out _)) | (go_at_call 86; refine callsBW (HQ2.out _)) | (go_at_call 46; refine callsBW (HQ3.out _))))
    refine wpQuiet_nil ?_
    rintro _ ⟨⟨wq, hwq⟩, rfl⟩
    clear f0 f2 f3 f5 fs
    go_wp2_with fail
    go_ret
    exact ⟨ret_bool HG.out.symm, cEnd_below HSC.out (HIN.out.next hwq).below⟩
  | true =>
  rw [hl] at hq3
  have HQ3 := Lib.hid hq3
  clear hq3
  by_cases z1 : 256 < ops.length
  · have z1a : decide ((256 : Int) < (ops.length : Int)) = true := by simp; omega
    have z1b : (256 : Int) < (ops.length : Int) := by omega
    have HG := Lib.hid (HS2.out false (by simp [show ¬ ops.length ≤ 256 from by omega]))
    clear hq4 hl HS2
    refine wp_region_below (by kernel_rfl) (by kernel_rfl) ?_
    repeat (go_big_quiet_step (first | (go_at_call 85; refine callsBW (HQ1.out _)) | (go_at_call 86; refine callsBW (HQ2.out _)) | (go_at_call 46; refine callsBW (HQ3.out _))))
    refine wpQuiet_nil ?_
    rintro _ ⟨⟨wq, hwq⟩, rfl⟩
    clear f0 f2 f3 f5 fs
    go_wp2_with fail
    go_ret
    exact ⟨ret_bool HG.out.symm, cEnd_below HSC.out (HIN.out.next hwq).below⟩
  have z1a : decide ((256 : Int) < (ops.length : Int)) = false := by simp; omega
  have z1b : (ops.length : Int) ≤ 256 := by omega
  obtain ⟨dd, hdd⟩ : ∃ dd, depthI ops = dd := ⟨_, rfl⟩
  rw [hdd] at hq4
  have HQ4 := Lib.hid hq4
  clear hq4
  by_cases z2 : dd < 0
  · have z2a : decide (dd < 0) = true := by simpa using z2
    have HG := Lib.hid (HS2.out false (by rw [hdd]; simp [show ¬ 0 ≤ dd from by omega]))
    clear hl HS2 hdd
    refine wp_region_below (by kernel_rfl) (by kernel_rfl) ?_
    repeat (go_big_quiet_step (first | (go_at_call 85; refine callsBW (HQ1.out _)) | (go_at_call 86; refine callsBW (HQ2.out _)) | (go_at_call 46; refine callsBW (HQ3.out _)) | (go_at_call 17; refine callsBW (HQ4.out _))))
    refine wpQuiet_nil ?_
    rintro _ ⟨⟨wq, hwq⟩, rfl⟩
    clear f0 f2 f3 f5 fs
    go_wp2_with fail
    go_ret
    exact ⟨ret_bool HG.out.symm, cEnd_below HSC.out (HIN.out.next hwq).below⟩
  have z2a : decide (dd < 0) = false := by simpa using z2
  have HS3 : Hid (∀ b, ((decide (how = 1) || decide (loops.length ≠ 0)) && (if how = 1 then fn == 0 else takes fn true) && decide (1 ≤ how) && decide (how ≤ 3) && ops.all (opS V loops.length made buf)) = b → stepQ V made ⟨how, buf, pos, loops, fn, ops⟩ = b) := Lib.hid fun b h => HS2.out b (by
    rw [hl, hdd, decide_eq_true (show ops.length ≤ 256 from by omega), decide_eq_true (show 0 ≤ dd from by omega), Bool.true_and, Bool.and_true, Bool.and_true]; exact h)
  clear HS2 hl hdd
  refine wp_region_below (by kernel_rfl) (by kernel_rfl) ?_
  repeat (go_big_quiet_step (first | (go_at_call 85; refine callsBW (HQ1.out _)) | (go_at_call 86; refine callsBW (HQ2.out _)) | (go_at_call 46; refine callsBW (HQ3.out _)) | (go_at_call 17; refine callsBW (HQ4.out _))))
  refine wpQuiet_nil ?_
  rintro _ ⟨⟨wq, hwq⟩, rfl⟩
  clear f0 f2 f3 f5 fs
  have HIN2 := Lib.hid (HIN.out.next hwq)
  have hsW2 := HSC.out.below HIN2.out.below
  clear b0 y0 y1 y2 y3 y4 y5 s0 hxx HIN hwq HQ1 HQ2 HQ3 HQ4 HSW HW0
  obtain ⟨-, b0, y0, y1, y2, y3, y4, y5, hxx⟩ := HIN2.out
  have hlt := HSC.out.lt
  have n1 : ¬ w.heap.size = sb := by omega
  have n2 : ¬ w.heap.size + 1 = sb := by omega
  have n3 : ¬ sb = w.heap.size := by omega
  have n4 : ¬ sb = w.heap.size + 1 := by omega
  by_cases h1 : how = 1
  · subst h1
    by_cases hf : fn = 0
    · subst hf
      have HS4 : Hid (∀ b, ops.all (opS V loops.length made buf) = b → stepQ V made ⟨1, buf, pos, loops, 0, ops⟩ = b) := Lib.hid fun b h => HS3.out b (by rw [← h]; simp)
      clear HS3
      have t1 := hsW2.cell 1; have t2 := hsW2.cell 2; have u1 := hsW2.frozen 1; have u2 := hsW2.frozen 2
      have HSW2 := Lib.hid hsW2; clear hsW2
      first | go_upto_region 12 with fail | skip
      go_region
      go_upto_region 13 with fail
      refine gen_worldA (fun W2 => CGo w0 w W2 w.heap.size sb V (loops.length : Int) buf (.slice ma made.length mc) (.slice p2 ops.length c2)) (cgo_new HB0.out hsb HIN2.out HSW2.out n1 n2) ?_
      intro W2 hgo
      clear b0 y0 y1 y2 y3 y4 y5 t1 t2 u1 u2 HSW2 HIN2 hxx
      have HGO := Lib.hid hgo
      obtain ⟨hbase, hkb, hsc2, b0, y5⟩ := hgo
      have hmd2 := HMD.out.kept hkb HNE.out
      have hq := containsFuncO W2 p2 c2 ops (.pointer (some ⟨w.heap.size, 0, none⟩)) (fun o => !opS V loops.length made buf o) HOL.out (HOE.out.below copRep hbase (Nat.le_refl _))
        (fun i hi w' pa pc hb hpe hpl => copnot_any w' ops[i] pa pc V loops.length buf ma mc made sb ⟨w.heap.size, 0, none⟩ (keepCell hb b0) ((hsc2.below hb).at (hmd2.below hb (Nat.le_refl _))) hV hpe hpl)
      obtain ⟨bb, hbb⟩ : ∃ bb, ops.any (fun o => !opS V loops.length made buf o) = bb := ⟨_, rfl⟩
      rw [hbb] at hq
      have HQ := Lib.hid hq
      have hg := HS4.out (!bb) (by rw [all_not_any, hbb])
      clear hbase hkb hsc2 hmd2 hq hbb HS4
      cases bb
      all_goals
        have HG := Lib.hid hg
        clear hg
        go_wp2_with (go_at_call 25; refine HQ.out.mono ?_; rintro e w4 ⟨rfl, hb4⟩)
        go_ret
        exact ⟨ret_bool HG.out.symm, ⟨⟨_, _, HGO.out.sc.below hb4⟩, HGO.out.kb.trans (KB.of_below hb4 (fun g h1 h2 => by omega))⟩⟩
    · have hf' : (fn != 0) = true := by simp [hf]
      have HG := Lib.hid (HS3.out false (by simp [hf]))
      clear HS3 hsW2
      go_wp2_with fail
      go_ret
      exact ⟨ret_bool HG.out.symm, cEnd_below HSC.out HIN2.out.below⟩
  have g1 : (how == 1) = false := by simp [h1]
  by_cases h23 : how = 2 ∨ how = 3
  case neg =>
    have g2 : (how == 2) = false := by simp; omega
    have g3 : (how == 3) = false := by simp; omega
    have HG := Lib.hid (HS3.out false (by
      rw [Bool.and_eq_false_iff]; left
      rw [Bool.and_assoc, Bool.and_eq_false_iff]; right
      by_cases hx : 1 ≤ how
      · rw [decide_eq_false (p := how ≤ 3) (by omega), Bool.and_false]
      · rw [decide_eq_false hx, Bool.false_and]))
    clear HS3 hsW2
    go_wp2_with fail
    go_ret
    exact ⟨ret_bool HG.out.symm, cEnd_below HSC.out HIN2.out.below⟩
  by_cases hz : loops.length = 0
  · have hz1 : ((loops.length : Int) == 0) = true := by simp [hz]
    have hz2 : (loops.length == 0) = true := by simp [hz]
    have HG := Lib.hid (HS3.out false (by simp [hz, h1]))
    clear HS3 hsW2
    rcases h23 with rfl | rfl
    all_goals
      go_wp2_with fail
      go_ret
      exact ⟨ret_bool HG.out.symm, cEnd_below HSC.out HIN2.out.below⟩
  have hz1 : ((loops.length : Int) == 0) = false := by rw [beq_eq_false_iff_ne]; omega
  have hz2 : (loops.length == 0) = false := by rw [beq_eq_false_iff_ne]; exact hz
  have htk := fun W => takes_any W fn true
  cases ht : takes fn true with
  | false =>
    rw [ht] at htk
    have HT := Lib.hid htk
    have HG := Lib.hid (HS3.out false (by simp [h1, ht]))
    clear HS3 htk ht hsW2
    rcases h23 with rfl | rfl
    all_goals
      go_wp2_with (go_at_call 23; refine (HT.out _).mono ?_; rintro e w3 ⟨rfl, rfl⟩)
      go_ret
      exact ⟨ret_bool HG.out.symm, cEnd_below HSC.out HIN2.out.below⟩
  | true =>
    rw [ht] at htk
    have HT := Lib.hid htk
    have HS4 : Hid (∀ b, ops.all (opS V loops.length made buf) = b → stepQ V made ⟨how, buf, pos, loops, fn, ops⟩ = b) := Lib.hid fun b h => HS3.out b (by
      rw [decide_eq_true (show 1 ≤ how from by omega), decide_eq_true (show how ≤ 3 from by omega), if_neg h1, ht, decide_eq_false h1, decide_eq_true (p := loops.length ≠ 0) hz]; exact h)
    clear HS3 htk ht
    rcases h23 with rfl | rfl
    all_goals
      have h12 : True := trivial
      have t1 := hsW2.cell 1; have t2 := hsW2.cell 2; have u1 := hsW2.frozen 1; have u2 := hsW2.frozen 2
      go_upto_region 12 with (go_at_call 23; refine (HT.out _).mono ?_; rintro e w3 ⟨rfl, rfl⟩)
      have t1 := hsW2.cell 1; have t2 := hsW2.cell 2; have u1 := hsW2.frozen 1; have u2 := hsW2.frozen 2
      have HSW2 := Lib.hid hsW2; clear hsW2
      first | go_upto_region 12 with fail | skip
      go_region
      go_upto_region 13 with fail
      refine gen_worldA (fun W2 => CGo w0 w W2 w.heap.size sb V (loops.length : Int) buf (.slice ma made.length mc) (.slice p2 ops.length c2)) (cgo_new HB0.out hsb HIN2.out HSW2.out n1 n2) ?_
      intro W2 hgo
      clear b0 y0 y1 y2 y3 y4 y5 t1 t2 u1 u2 HSW2 HIN2 hxx
      have HGO := Lib.hid hgo
      obtain ⟨hbase, hkb, hsc2, b0, y5⟩ := hgo
      have hmd2 := HMD.out.kept hkb HNE.out
      have hq := containsFuncO W2 p2 c2 ops (.pointer (some ⟨w.heap.size, 0, none⟩)) (fun o => !opS V loops.length made buf o) HOL.out (HOE.out.below copRep hbase (Nat.le_refl _))
        (fun i hi w' pa pc hb hpe hpl => copnot_any w' ops[i] pa pc V loops.length buf ma mc made sb ⟨w.heap.size, 0, none⟩ (keepCell hb b0) ((hsc2.below hb).at (hmd2.below hb (Nat.le_refl _))) hV hpe hpl)
      obtain ⟨bb, hbb⟩ : ∃ bb, ops.any (fun o => !opS V loops.length made buf o) = bb := ⟨_, rfl⟩
      rw [hbb] at hq
      have HQ := Lib.hid hq
      have hg := HS4.out (!bb) (by rw [all_not_any, hbb])
      clear hbase hkb hsc2 hmd2 hq hbb HS4
      cases bb
      all_goals
        have HG := Lib.hid hg
        clear hg
        go_wp2_with (go_at_call 25; refine HQ.out.mono ?_; rintro e w4 ⟨rfl, hb4⟩)
        go_ret
        exact ⟨ret_bool HG.out.symm, ⟨⟨_, _, HGO.out.sc.below hb4⟩, HGO.out.kb.trans (KB.of_below hb4 (fun g h1 h2 => by omega))⟩⟩
end Go.Proofs.Ytmlfeocdcjhhaaa

namespace Go.Proofs.Ytmlfeocdcjhhaaa
set_option maxRecDepth 100000
open Go.RowKit
set_option linter.unusedVariables false
set_option linter.unusedSimpArgs false
attribute [local go_sem ↓] Go.wp_at_zero Go.wp_at_succ

def outB (nb : Nat) (k : Int) : Bool := decide (0 ≤ k) && decide (k < nb)
def firstZ (p : Int → Bool) : Nat → List Int → Int
  | _, [] => -1
  | k, x :: xs => if p x then k else firstZ p (k + 1) xs
theorem firstZ_step {p : Int → Bool} {k : Nat} {xs : List Int} (h : k < xs.length) : firstZ p k (xs.drop k) = if p xs[k] then (k : Int) else firstZ p (k + 1) (xs.drop (k + 1)) := by
  rw [List.drop_eq_getElem_cons h, firstZ]
theorem firstZ_nonneg {p : Int → Bool} : ∀ (xs : List Int) (k : Nat), decide (0 ≤ firstZ p k xs) = xs.any p
  | [], k => by simp [firstZ]
  | x :: xs, k => by
    rw [firstZ]
    by_cases h : p x
    · simp [h]
    · simp [h, firstZ_nonneg xs (k + 1)]
theorem els_z {w : World} {a : Option Addr} {xs : List Int} {k : Nat} (h : (Rep.int .i64).Els w a xs) (hk : k < xs.length) : ∃ b off, a = some ⟨b, off, none⟩ ∧ w.cell? ⟨b, off + k, none⟩ = some (.int .i64 xs[k]) := by
  obtain ⟨b, off, cs, rfl, ⟨rfl, hw⟩, hc⟩ := h k hk
  have x0 := hc 0 _ rfl
  simp only [show (Rep.int .i64).n = 1 from rfl, Nat.mul_one, Nat.add_zero] at x0
  exact ⟨b, off, rfl, x0⟩
set_option maxHeartbeats 4000000 in
theorem outnot_any (w : World) (k : Int) (q : Addr) (a : Option Addr) (nb c : Nat) (hq : w.cell? (q.add 1) = some (.slice a nb c)) (hq0 : q = ⟨q.block, 0, none⟩) :
    Calls Try.prog 49 #[.int .i64 k, .pointer (some q)] w fun e w' => e = .returned (.bool (!outB nb k)) ∧ Below w.heap.size w w' := by
  obtain ⟨qb, qo, qi⟩ := q
  cases hq0
  have hq1 : w.cell? ⟨qb, 1, none⟩ = some (.slice a nb c) := hq
  clear hq
  by_cases h0 : k < 0
  · have HG := Lib.hid (show (!outB nb k) = true from by unfold outB; rw [decide_eq_false (by omega)]; rfl)
    go_enter Try.func49, Try.ntmps49
    go_wp2_with fail
    go_ret
    exact ⟨ret_bool HG.out.symm, Below.refl _ _⟩
  have h0' : decide (k < 0) = false := by simpa using h0
  obtain ⟨kn, rfl⟩ : ∃ kn : Nat, k = kn := ⟨k.toNat, by omega⟩
  by_cases h1 : kn < nb
  · have h1' : decide ((nb : Int) ≤ (kn : Int)) = false := by simp; omega
    have h1i : (kn : Int) < (nb : Int) := by omega
    have HG := Lib.hid (show (!outB nb kn) = false from by unfold outB; rw [decide_eq_true (by omega), decide_eq_true (by omega)]; rfl)
    go_enter Try.func49, Try.ntmps49
    go_wp2_with fail
    go_ret
    exact ⟨ret_bool ((decide_eq_false (by omega)).trans HG.out.symm), Below.refl _ _⟩
  · have h1' : decide ((nb : Int) ≤ (kn : Int)) = true := by simp; omega
    have h1i : (nb : Int) ≤ (kn : Int) := by omega
    have HG := Lib.hid (show (!outB nb kn) = true from by unfold outB; rw [decide_eq_false (p := (kn : Int) < nb) (by omega), Bool.and_false]; rfl)
    clear h1
    go_enter Try.func49, Try.ntmps49
    go_wp2_with fail
    go_ret
    exact ⟨ret_bool HG.out.symm, Below.refl _ _⟩
set_option maxHeartbeats 4000000 in
theorem indexFuncZ (w : World) (a : Option Addr) (cap : Nat) (xs : List Int) (cv : Value) (p : Int → Bool) (hm : xs.length ≤ 9223372036854775807) (h : (Rep.int .i64).Els w a xs)
    (hp : ∀ i, (hi : i < xs.length) → ∀ w', Below w.heap.size w w' → Calls Try.prog 49 #[.int .i64 xs[i], cv] w' fun e w'' => e = .returned (.bool (p xs[i])) ∧ Below w'.heap.size w' w'') :
    Calls Try.prog 89 #[.slice a xs.length cap, .func (.func 49) #[] #[cv]] w fun e w' => e = .returned (.int .i64 (firstZ p 0 xs)) ∧ Below w.heap.size w w' := by
  have HI := Lib.hid h; have HP := Lib.hid hp; clear h hp
  go_enter Try.func89, Try.ntmps89
  go_wp2
  go_loopw [8] (fun i wr => ∃ k : Nat, k ≤ xs.length ∧ i = .int .i64 k ∧ firstZ p 0 xs = firstZ p k (xs.drop k) ∧ Below w.heap.size w wr) (fun i _ => xs.length - (intOf i).toNat)
  case atStart => exact ⟨0, Nat.zero_le _, rfl, rfl, Below.refl _ _⟩
  case round =>
    obtain ⟨k, hk, rfl, hr, hbel⟩ := hrel
    by_cases hlt : k < xs.length
    · rw [firstZ_step hlt] at hr
      obtain ⟨b, off, rfl, x0⟩ := els_z (HI.out.below _ hbel (Nat.le_refl _)) hlt
      have hq := HP.out k hlt wr hbel
      have Hr := Lib.hid hr; clear hr
      cases hv : p xs[k] with
      | true =>
        rw [hv] at hq
        have HQ := Lib.hid hq; have Hv := Lib.hid hv; clear hq hv
        go_wp2_with (refine HQ.out.mono ?_; rintro e w' ⟨rfl, hb1⟩)
        go_ret
        exact ⟨ret_int (by rw [Hr.out, if_pos Hv.out]), bNext hb1 hbel⟩
      | false =>
        rw [hv] at hq
        have HQ := Lib.hid hq; have Hv := Lib.hid hv; clear hq hv
        go_wp2_with (refine HQ.out.mono ?_; rintro e w' ⟨rfl, hb1⟩)
        go_roundw
        case rel => exact ⟨k + 1, by omega, by go_num, by rw [Hr.out, if_neg (by rw [Hv.out]; simp)], bNext hb1 hbel⟩
        case measure => simp [intOf]; omega
    · have Hr := Lib.hid hr; clear hr
      go_wp2
      go_ret
      exact ⟨ret_int (by rw [Hr.out, List.drop_eq_nil_of_le (by omega)]; rfl), hbel⟩
theorem containsFuncZ (w : World) (a : Option Addr) (cap : Nat) (xs : List Int) (cv : Value) (p : Int → Bool) (hm : xs.length ≤ 9223372036854775807) (h : (Rep.int .i64).Els w a xs)
    (hp : ∀ i, (hi : i < xs.length) → ∀ w', Below w.heap.size w w' → Calls Try.prog 49 #[.int .i64 xs[i], cv] w' fun e w'' => e = .returned (.bool (p xs[i])) ∧ Below w'.heap.size w' w'') :
    Calls Try.prog 48 #[.slice a xs.length cap, .func (.func 49) #[] #[cv]] w fun e w' => e = .returned (.bool (xs.any p)) ∧ Below w.heap.size w w' := by
  have hq := Lib.hid (indexFuncZ w a cap xs cv p hm h hp)
  clear hp h
  go_enter Try.func48, Try.ntmps48
  go_wp2_with (go_at_call 89; refine hq.out.mono ?_; rintro e w' ⟨rfl, hb1⟩)
  go_ret
  exact ⟨ret_bool (firstZ_nonneg _ _), hb1⟩
end Go.Proofs.Ytmlfeocdcjhhaaa

namespace Go.Proofs.Ytmlfeocdcjhhaaa
set_option maxRecDepth 100000
open Go.RowKit
set_option linter.unusedVariables false
set_option linter.unusedSimpArgs false

/-- a buffer behind others -/
def bufOk (V : Nat) (before : List Buf) (b : Buf) : Bool := growB V b.sides && decide (-1 ≤ b.input) && decide (b.input < 64) && !(decide (0 ≤ b.input) && before.any fun x => x.input == b.input)
def bufsOk (V : Nat) (bufs : List Buf) : Bool := (List.range bufs.length).all fun i => match bufs[i]? with | some b => bufOk V (bufs.take i) b | none => true
def madeOf (bufs : List Buf) : List Bool := bufs.map fun b => decide (0 ≤ b.input)
def stepsK (V : Nat) (bufs : List Buf) : List Stp → List Bool → Bool
  | [], _ => true
  | s :: r, made => stepS V bufs made s && stepsK V bufs r (made.set s.buf.toNat true)
def sizesB (c : Cor) : Bool := decide (0 ≤ c.vars) && decide (c.vars ≤ 6) && decide (c.bufs.length ≤ 1024) && decide (c.steps.length ≤ 1024) && decide (c.outs.length ≤ 64)
def rightB (c : Cor) : Bool := sizesB c && (bufsOk c.vars.toNat c.bufs && (stepsK c.vars.toNat c.bufs c.steps (madeOf c.bufs) && c.outs.all (outB c.bufs.length)))
theorem bufsOk_bad {V : Nat} {bufs : List Buf} {i : Nat} (hi : i < bufs.length) (h : bufOk V (bufs.take i) bufs[i] = false) : bufsOk V bufs = false := by
  unfold bufsOk
  refine List.all_eq_false.2 ⟨i, List.mem_range.2 hi, ?_⟩
  rw [List.getElem?_eq_getElem hi]
  simp [h]
theorem bufsOk_good {V : Nat} {bufs : List Buf} (h : ∀ i, (hi : i < bufs.length) → bufOk V (bufs.take i) bufs[i] = true) : bufsOk V bufs = true := by
  unfold bufsOk
  refine List.all_eq_true.2 fun i hm => ?_
  have hi := List.mem_range.1 hm
  rw [List.getElem?_eq_getElem hi]
  exact h i hi
theorem stepsK_step {V : Nat} {bufs : List Buf} {l : List Stp} {k : Nat} (h : k < l.length) (made : List Bool) : stepsK V bufs (l.drop k) made = (stepS V bufs made l[k] && stepsK V bufs (l.drop (k + 1)) (made.set l[k].buf.toNat true)) := by rw [List.drop_eq_getElem_cons h, stepsK]
end Go.Proofs.Ytmlfeocdcjhhaaa
