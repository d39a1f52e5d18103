import Derived.Test.YtiogopichcnihaaJE
import Derived.Test.YtiogopichcnihaaFlat
namespace Go.Proofs.Ytiogopichcnihaa
set_option maxRecDepth 100000
open Go.RowKit
set_option linter.unusedVariables false
set_option linter.unusedSimpArgs false

/-! image.Read. -/
/-- what Read tells -/
def ReadE (w : World) (res : Option Img) (e : Ending) (w' : World) : Prop := ∃ vd vi vo vc, e = .returned (.tuple #[.agg #[vd, .int .i64 (res.getD img0).mem, vi, vo, vc], .int .i64 (if res.isSome then 0 else 191)]) ∧
  ImgOwn w.heap.size w' vd vi vo vc (res.getD img0) ∧ (∀ i ∈ (res.getD img0).code, i.wf) ∧ I64 (res.getD img0).mem ∧ Below w.heap.size w w'
theorem ImgOwn.zero (B : Nat) (w : World) : ImgOwn B w (.slice none 0 0) (.slice none 0 0) (.slice none 0 0) (.slice none 0 0) img0 := ⟨RowI.nil _ _, OwnSl.nil _ _, OwnSl.nil _ _, World.ownsRow_nil _ _ _ _⟩
theorem readB_none {l : List Int} (h : imgP l = none) : readB l = none := by unfold readB; rw [h]
theorem results_rr {fn : Func} {p q : Tmp} (h : fn.results = #[.cell p 26, .cell q 29]) (tmps : Array Value) (w : World) (g g2 : Nat) (cs : Array Value) (x : Int)
    (hp : tmps.getD p undef = .pointer (some ⟨g, 0, none⟩)) (hq : tmps.getD q undef = .pointer (some ⟨g2, 0, none⟩)) (hg : w.heap[g]? = some (.cells cs 26 (0, 0))) (hi : cs.size = 5) (hg2 : w.heap[g2]? = some (.cells #[.int .i64 x] 29 (0, 0))) :
    (results fn tmps).run Try.prog w = .ok (.tuple #[.agg cs, .int .i64 x]) w := by
  have hp' : tmps[p]?.getD undef = .pointer (some ⟨g, 0, none⟩) := by simpa using hp
  have hq' : tmps[q]?.getD undef = .pointer (some ⟨g2, 0, none⟩) := by simpa using hq
  have hc := cell_of_row w g2 0 _ _ _ hg2
  have hl1 := run_loadVar_row (P := Try.prog) w g 26 26 cs (0, 0) _ hg Try.underlying26 rfl (by rw [hi]; kernel_rfl)
  have hl2 : (loadVar 29 ⟨g2, 0, none⟩).run Try.prog w = .ok (.int .i64 x) w := by simp [go_sem, hc]
  simp [results, h, hp', hq', asAddr, hl1, hl2]
theorem ImgOwn.keep {B : Nat} {w w' : World} {vd vi vo vc : Value} {m : Img} (h : ImgOwn B w vd vi vo vc m) (h1 : KeepTy 2 w w') (h2 : KeepTy 41 w w') (h3 : KeepTy 43 w w') : ImgOwn B w' vd vi vo vc m :=
  ⟨own_keep h.1 h1, h.2.1.keep h2 h1, h.2.2.1.keep h2 h1, own_keep h.2.2.2 h3⟩
theorem ImgOwn.mono {B B' : Nat} {w : World} {vd vi vo vc : Value} {m : Img} (h : ImgOwn B w vd vi vo vc m) (hB : B' ≤ B) : ImgOwn B' w vd vi vo vc m := ⟨own_mono h.1 hB, h.2.1.mono hB, h.2.2.1.mono hB, own_mono h.2.2.2 hB⟩
theorem ImgOwn.below {B : Nat} {w w' : World} {vd vi vo vc : Value} {m : Img} (h : ImgOwn B w vd vi vo vc m) (hb : Below w.heap.size w w') : ImgOwn B w' vd vi vo vc m := h.keep (KeepTy.below hb) (KeepTy.below hb) (KeepTy.below hb)
/-- an image of the call's own, read as an image -/
theorem ImgOwn.at {B : Nat} {w : World} {vd vi vo vc : Value} {m : Img} (h : ImgOwn B w vd vi vo vc m) (hw : ∀ i ∈ m.code, i.wf) (hm : I64 m.mem) : ImgAt w vd vi vo vc m := by
  refine ⟨h.1.sl, h.2.1.sl, h.2.2.1.sl, ?_, hm⟩
  exact flat_own (n := 5) (enc := Ins.enc) (wf := Ins.wf) (fun _ => rfl) (by intro x v hv; simp [Ins.enc] at hv; rcases hv with rfl | rfl | rfl | rfl | rfl <;> rfl) h.2.2.2 hw
/-- in Read, behind the image's making -/
structure RIn (w W : World) (a : Option Addr) (c Z : Nat) (l r : List Int) (vd vi vo vc : Value) (m : Img) : Prop where
  z : W.heap[Z]? = some (.cells #[vd, .int .i64 m.mem, vi, vo, vc] 26 (0, 0))
  e : W.heap[Z + 1]? = some (.cells #[.int .i64 0] 29 (0, 0))
  rd : Rd w W (Z + 2) r
  own : ImgOwn w.heap.size W vd vi vo vc m
theorem RIn.below {w W W' : World} {a : Option Addr} {c Z : Nat} {l r : List Int} {vd vi vo vc : Value} {m : Img} (h : RIn w W a c Z l r vd vi vo vc m) (hb : Below W.heap.size W W') : RIn w W' a c Z l r vd vi vo vc m := by
  refine ⟨block_below h.z hb, block_below h.e hb, h.rd.next (h.rd.below.trans (hb.mono h.rd.below.size)) (hb.block _ h.rd.lt), h.own.below hb⟩
set_option maxHeartbeats 8000000 in
theorem read_any (w : World) (a : Option Addr) (c : Nat) (l : List Int) (hi : IntsAt .u8 w a l) (hc : l.length ≤ c) (hc2 : c ≤ maxLen) (hb : Byts l) :
    Calls Try.prog 14 #[.slice a l.length c] w (ReadE w (readB l)) := by
  have hmf : ∀ (fn : Fn) (first cap : Array Value) (w : World), (Instr.makeFunc fn first cap).run Try.prog w = .ok (.func fn first cap) w := fun _ _ _ _ => rfl
  have hc3 : c ≤ 9223372036854775807 := hc2
  obtain ⟨Z, hZ⟩ : ∃ Z, w.heap.size = Z := ⟨_, rfl⟩
  have hrd : Rd w (((w.alloc (.cells #[.slice none 0 0, .int .i64 0, .slice none 0 0, .slice none 0 0, .slice none 0 0] 26)).alloc (.cells #[.int .i64 0] 29)).alloc (.cells #[.slice a l.length c] 66)) (Z + 2) l :=
    ⟨(((Below.refl _ _).alloc (Nat.le_refl _) _).alloc (by simp) _).alloc (by simp; omega) _, by omega, ⟨a, c, (congrArg (fun n => (((w.alloc _).alloc _).alloc _).heap[n]?) (by simp [← hZ])).trans (World.alloc_heap_new _ _), hc, hc2, hi⟩, hb⟩
  have hq := image_any w _ (Z + 2) l hrd
  have HQ := Lib.hid hq; have HRD := Lib.hid hrd
  clear hq hrd
  cases hp : imgP l with
  | none =>
    rw [hp] at HQ
    rw [readB_none hp]
    clear hp
    go_enter_defers Try.func14, Try.ntmps14
    go_wp2_with fail
    refine HQ.out.mono ?_
    rintro e w1 ⟨hk1, rfl⟩
    unfold badE
    go_wp2_with fail
    have hbw : Below w.heap.size w (((w.alloc (.cells #[.slice none 0 0, .int .i64 0, .slice none 0 0, .slice none 0 0, .slice none 0 0] 26)).alloc (.cells #[.int .i64 0] 29)).alloc (.cells #[.slice a l.length c] 66)) := HRD.out.below
    have hz := hk1.block Z (by simp; omega) (by omega)
    have hz1 := hk1.block (Z + 1) (by simp; omega) (by omega)
    rw [Below.heap_alloc _ _ _ (by simp; omega), Below.heap_alloc _ _ _ (by simp; omega), ← hZ, World.alloc_heap_new, hZ] at hz
    have hz2 : w1.heap[Z + 1]? = some (.cells #[.int .i64 0] 29 (0, 0)) := hz1.trans ((Below.heap_alloc _ _ _ (by simp; omega)).trans ((congrArg (fun n => ((w.alloc _).alloc _).heap[n]?) (by simp [← hZ])).trans (World.alloc_heap_new _ _)))
    have hb1 : Below w.heap.size w w1 := hbw.trans (hk1.below hbw.size (fun g hg => by omega))
    refine leaves_cons (f := 37) (args := #[.pointer (some ⟨Z, 0, none⟩), .pointer (some ⟨Z + 1, 0, none⟩)]) (by simp) (by simp [go_sem]) ?_
    refine (catch_bad Z (Z + 1) _ _ _ _ _ _ _ hz hz2 (by omega)).mono ?_
    rintro e u' w2 ⟨rfl, rfl, g1, g2, g3⟩
    refine ⟨_, results_rr rfl _ _ Z (Z + 1) _ 191 rfl rfl g1 rfl g2, ?_⟩
    exact ⟨_, _, _, _, rfl, ImgOwn.zero _ _, (by intro i hi; cases hi), (by show I64 0; unfold I64; omega), hb1.trans (g3.below hb1.size (fun g hg => by omega))⟩
  | some mr =>
    obtain ⟨m, r⟩ := mr
    rw [hp] at HQ
    have hrb : readB l = if r.length = 4 ∧ wholeB r = checkB (l.take (l.length - 4)) ∧ imgRight m = true then some m else none := by unfold readB; rw [hp]
    obtain ⟨res, hres⟩ : ∃ res, readB l = res := ⟨_, rfl⟩
    rw [hres] at hrb ⊢
    have HRB := Lib.hid hrb; have HI := Lib.hid hi
    have HLR := Lib.hid (show r.length ≤ l.length from by have := congrArg List.length (imgP_back hb hp).1; rw [List.length_append] at this; omega)
    clear hp hrb hres hi
    go_enter_defers Try.func14, Try.ntmps14
    go_wp2_with fail
    refine HQ.out.mono ?_
    rintro e w1 ⟨hk1, ⟨vd, vi, vo, vc, rfl, hown, n1, n2, n3, n4, hwf, hmem⟩, hrd1⟩
    have hbw : Below w.heap.size w (((w.alloc (.cells #[.slice none 0 0, .int .i64 0, .slice none 0 0, .slice none 0 0, .slice none 0 0] 26)).alloc (.cells #[.int .i64 0] 29)).alloc (.cells #[.slice a l.length c] 66)) := HRD.out.below
    have hz := hk1.block Z (by simp; omega) (by omega)
    have hz1 := hk1.block (Z + 1) (by simp; omega) (by omega)
    rw [Below.heap_alloc _ _ _ (by simp; omega), Below.heap_alloc _ _ _ (by simp; omega), ← hZ, World.alloc_heap_new, hZ] at hz
    have hz2 : w1.heap[Z + 1]? = some (.cells #[.int .i64 0] 29 (0, 0)) := hz1.trans ((Below.heap_alloc _ _ _ (by simp; omega)).trans ((congrArg (fun n => ((w.alloc _).alloc _).heap[n]?) (by simp [← hZ])).trans (World.alloc_heap_new _ _)))
    have hb1 : Below w.heap.size w w1 := hbw.trans (hk1.below hbw.size (fun g hg => by omega))
    obtain ⟨oD, oI, oO, oC⟩ := hown
    have hone : (#[vd, .int .i64 m.mem, vi, vo, vc] : Array Value).toList.all (fun v => v.oneCell') = true := by
      obtain ⟨c1, i1, _⟩ := id oI
      obtain ⟨c2, i2, _⟩ := id oO
      show (vd.oneCell' && (true && (vi.oneCell' && (vo.oneCell' && (vc.oneCell' && true))))) = true
      rw [own_cell1 oD, own_cell1 i1, own_cell1 i2, own_cell1 oC]
      rfl
    have HZ1 := Lib.hid hz; have HZ2 := Lib.hid hz2; have HB1 := Lib.hid hb1; have HRD1 := Lib.hid hrd1
    clear hz hz1 hz2 hb1 hbw hk1 hrd1 HRD HQ
    go_upto_region 4 with ((with_reducible show wpList _ _ _ ({ dst := none, op := Op.store 26 (.tmp 2) (.tmp _), type := _, pos := _, after := _, guard := _ } :: _) _ _); (refine wpList_storeW rfl 26 _ _ rfl Z rfl _ _ rfl _ HZ1.out (by kernel_rfl) (by rfl) hone ?_); intro w9 hr9 hg9)
    dsimp only [Act.put]
    have ht9 : ∀ {t : TypeId}, 26 ≠ t → KeepTy t w1 w9 := fun hne => KeepTy.grown hg9 fun g e => by cases e; exact NotTy.of HZ1.out hne
    have hO1 : ImgOwn w.heap.size w1 vd vi vo vc m := ImgOwn.mono ⟨oD, oI, oO, oC⟩ (by simp; omega)
    refine gen_worldA (fun W => RIn w W a c Z l r vd vi vo vc m) ⟨hr9, block_grown HZ2.out hg9 (fun e => by injection e with e; omega), HRD1.out.next (HB1.out.grown hg9 HB1.out.size (fun k e => by cases e; omega)) (hg9.block _ HRD1.out.lt (fun e => by injection e with e; omega)), hO1.keep (ht9 (by decide)) (ht9 (by decide)) (ht9 (by decide))⟩ ?_
    have HONE := Lib.hid hone
    clear hr9 hg9 ht9 hO1 HZ1 HZ2 HB1 HRD1 oD oI oO oC hone
    rintro W hin
    have HIN := Lib.hid hin
    obtain ⟨ra, rc, hrow, hlc, hcm, hri⟩ := hin.rd.row
    have x0 := cell_of_row W (Z + 2) 0 _ _ _ hrow
    have z0 := cell_of_row W Z 0 _ _ _ hin.z; have z1 := cell_of_row W Z 1 _ _ _ hin.z; have z2 := cell_of_row W Z 2 _ _ _ hin.z; have z3 := cell_of_row W Z 3 _ _ _ hin.z; have z4 := cell_of_row W Z 4 _ _ _ hin.z
    have f0 := cellBW x0; have y0 := cellBW z0; have y1 := cellBW z1; have y2 := cellBW z2; have y3 := cellBW z3; have y4 := cellBW z4
    have HRI := Lib.hid hri; have HBR := Lib.hid hin.rd.byts; have HB0 := Lib.hid hin.rd.below
    clear hin hrow hri x0 z0 z1 z2 z3 z4
    by_cases h4 : r.length = 4
    case neg =>
      have h4' : ((r.length : Int) != 4) = true := by simp; omega
      obtain rfl : res = none := by rw [HRB.out, if_neg (fun h => h4 h.1)]
      refine wp_region_below (by kernel_rfl) (by kernel_rfl) ?_
      repeat (go_big_quiet_step (fail))
      refine wpQuiet_nil ?_
      rintro _ ⟨⟨wq, hwq⟩, rfl⟩
      have HIQ := Lib.hid (HIN.out.below hwq)
      clear f0 y0 y1 y2 y3 y4
      go_wp2_with fail
      refine leaves_cons (f := 37) (args := #[.pointer (some ⟨Z, 0, none⟩), .pointer (some ⟨Z + 1, 0, none⟩)]) (by simp) (by simp [go_sem]) ?_
      refine (catch_bad Z (Z + 1) _ _ _ _ _ _ _ (RIn.z HIQ.out) (RIn.e HIQ.out) (by omega)).mono ?_
      rintro e u' w2 ⟨rfl, rfl, g1, g2, g3⟩
      have hb2 := (RIn.rd HIQ.out).below
      refine ⟨_, results_rr rfl _ _ Z (Z + 1) _ 191 rfl rfl g1 rfl g2, ?_⟩
      exact ⟨_, _, _, _, rfl, ImgOwn.zero _ _, (by intro i hi; cases hi), (by show I64 0; unfold I64; omega), hb2.trans (g3.below hb2.size (fun g hg => by omega))⟩
    have h4' : ((r.length : Int) != 4) = false := by rw [h4]; rfl
    -- the bytes ahead of the check
    have hrl : r.length ≤ l.length := by
      have := HLR.out
      omega
    have hl4 : ((l.length : Int) - 4).toNat = l.length - 4 := by omega
    have s1 := fun W => slice_hiB W a l.length c ((l.length : Int) - 4) (by omega) (by omega)
    rw [hl4] at s1
    have hcut := HI.out.cut (l := 0) (n := l.length - 4) hc
    rw [List.drop_zero] at hcut
    generalize subA a c 0 = a1 at s1 hcut
    have hbt : Byts (l.take (l.length - 4)) := fun x hx => hb x (List.mem_of_mem_take hx)
    have htl : (l.take (l.length - 4)).length = l.length - 4 := by rw [List.length_take]; omega
    have hck : ∀ p' : BelowW W, _ := fun p' => check_any p'.world a1 c (l.take (l.length - 4)) (hcut.below (HB0.out.trans (p'.below.mono HB0.out.size)) (Nat.le_refl _)) hbt (by rw [htl]; omega)
    rw [htl] at hck
    have hwh : ∀ p' : BelowW W, _ := fun p' => whole_any p'.world ra rc r (fun i hi' => by obtain ⟨b, off, e, hc'⟩ := HRI.out i hi'; exact ⟨b, off, e, keepCellB (HB0.out.trans (p'.below.mono HB0.out.size)) (Nat.le_refl _) hc'⟩) HBR.out (by omega)
    rw [h4] at hwh f0
    have hck2 : ∀ p' : BelowW W, Calls Try.prog 21 #[.slice a1 (l.length - 4) c] p'.world fun e w' => e = .returned (.int .u32 (checkB (l.take (l.length - 4)))) ∧ Below p'.world.heap.size p'.world w' := fun p' => (hck p').mono fun e w' ⟨h1, h2⟩ => ⟨h1, h2 ▸ Below.refl _ _⟩
    have hwh2 : ∀ p' : BelowW W, Calls Try.prog 39 #[.slice ra 4 rc] p'.world fun e w' => e = .returned (.int .u64 (wholeB r)) ∧ Below p'.world.heap.size p'.world w' := fun p' => (hwh p').mono fun e w' ⟨h1, h2⟩ => ⟨h1, h2 ▸ Below.refl _ _⟩
    have hrt : ∀ p' : BelowW W, _ := fun p' => iright_any p'.world vd vi vo vc m ((HIN.out.below p'.below).own.at hwf hmem)
    have hcl := checkB_lt (l.take (l.length - 4))
    have hrb2 := HRB.out
    generalize checkB (l.take (l.length - 4)) = ck at hck2 hrb2 hcl
    generalize wholeB r = wh at hwh2 hrb2
    have HCK := Lib.hid hck2; have HWH := Lib.hid hwh2; have HRB2 := Lib.hid hrb2
    clear hck hwh hck2 hwh2 hrb2 hcut hbt htl HRB HRI
    by_cases hwc : wh = ck
    case neg =>
      have hwc' : ((wh : Int) != (ck : Int)) = true := by simp; omega
      obtain rfl : res = none := by rw [HRB2.out, if_neg (fun h => hwc h.2.1)]
      clear hrt
      refine wp_region_below (by kernel_rfl) (by kernel_rfl) ?_
      repeat (go_big_quiet_step (first | (go_at_call 39; refine callsBW (HWH.out _)) | (go_at_call 21; refine callsBW (HCK.out _))))
      refine wpQuiet_nil ?_
      rintro _ ⟨⟨wq, hwq⟩, rfl⟩
      have HIQ := Lib.hid (HIN.out.below hwq)
      clear f0 y0 y1 y2 y3 y4
      go_wp2_with fail
      refine leaves_cons (f := 37) (args := #[.pointer (some ⟨Z, 0, none⟩), .pointer (some ⟨Z + 1, 0, none⟩)]) (by simp) (by simp [go_sem]) ?_
      refine (catch_bad Z (Z + 1) _ _ _ _ _ _ _ (RIn.z HIQ.out) (RIn.e HIQ.out) (by omega)).mono ?_
      rintro e u' w2 ⟨rfl, rfl, g1, g2, g3⟩
      have hb2 := (RIn.rd HIQ.out).below
      refine ⟨_, results_rr rfl _ _ Z (Z + 1) _ 191 rfl rfl g1 rfl g2, ?_⟩
      exact ⟨_, _, _, _, rfl, ImgOwn.zero _ _, (by intro i hi; cases hi), (by show I64 0; unfold I64; omega), hb2.trans (g3.below hb2.size (fun g hg => by omega))⟩
    subst hwc
    have hwc' : ((wh : Int) != (wh : Int)) = false := by simp
    cases hir : imgRight m with
    | false =>
      rw [hir] at hrt
      have HRT := Lib.hid hrt
      obtain rfl : res = none := by rw [HRB2.out, if_neg (fun h => by rw [hir] at h; exact absurd h.2.2 (by simp))]
      clear hrt hir
      refine wp_region_below (by kernel_rfl) (by kernel_rfl) ?_
      repeat (go_big_quiet_step (first | (go_at_call 39; refine callsBW (HWH.out _)) | (go_at_call 21; refine callsBW (HCK.out _)) | (go_at_call 12; refine callsBW (HRT.out _))))
      refine wpQuiet_nil ?_
      rintro _ ⟨⟨wq, hwq⟩, rfl⟩
      have HIQ := Lib.hid (HIN.out.below hwq)
      clear f0 y0 y1 y2 y3 y4
      go_wp2_with fail
      refine leaves_cons (f := 37) (args := #[.pointer (some ⟨Z, 0, none⟩), .pointer (some ⟨Z + 1, 0, none⟩)]) (by simp) (by simp [go_sem]) ?_
      refine (catch_bad Z (Z + 1) _ _ _ _ _ _ _ (RIn.z HIQ.out) (RIn.e HIQ.out) (by omega)).mono ?_
      rintro e u' w2 ⟨rfl, rfl, g1, g2, g3⟩
      have hb2 := (RIn.rd HIQ.out).below
      refine ⟨_, results_rr rfl _ _ Z (Z + 1) _ 191 rfl rfl g1 rfl g2, ?_⟩
      exact ⟨_, _, _, _, rfl, ImgOwn.zero _ _, (by intro i hi; cases hi), (by show I64 0; unfold I64; omega), hb2.trans (g3.below hb2.size (fun g hg => by omega))⟩
    | true =>
      rw [hir] at hrt
      have HRT := Lib.hid hrt
      obtain rfl : res = some m := by rw [HRB2.out, if_pos ⟨h4, rfl, hir⟩]
      clear hrt hir
      refine wp_region_below (by kernel_rfl) (by kernel_rfl) ?_
      repeat (go_big_quiet_step (first | (go_at_call 39; refine callsBW (HWH.out _)) | (go_at_call 21; refine callsBW (HCK.out _)) | (go_at_call 12; refine callsBW (HRT.out _))))
      refine wpQuiet_nil ?_
      rintro _ ⟨⟨wq, hwq⟩, rfl⟩
      have HIQ := Lib.hid (HIN.out.below hwq)
      have HZQ := Lib.hid HIQ.out.z
      clear f0 y0 y1 y2 y3 y4
      go_wp2_with (first | ((with_reducible show wpList _ _ _ ({ dst := some _, op := Op.load 26 (.tmp 2), type := _, pos := _, after := _, guard := _ } :: _) _ _); (refine wpList_loadW (by rfl) 26 _ rfl Z rfl _ _ (0, 0) _ HZQ.out Try.underlying26 rfl (by kernel_rfl) ?_)) | (((with_reducible show wpList _ _ _ ({ dst := none, op := Op.store 26 (.tmp 2) (.tmp _), type := _, pos := _, after := _, guard := _ } :: _) _ _); (refine wpList_storeW rfl 26 _ _ rfl Z rfl _ _ rfl _ HZQ.out (by kernel_rfl) (by rfl) HONE.out ?_); intro w9 hr9 hg9); (have he9 := block_grown HIQ.out.e hg9 (fun e => by injection e with e; omega)); (have ec9 := cell_of_row w9 (Z + 1) 0 _ _ _ he9); (have ef9 := frozen_of_row w9 (Z + 1) 0 _ _ he9)))
      have hg1 : (w9.setCell ⟨Z + 1, 0, none⟩ (.int .i64 0)).heap[Z]? = some (.cells #[vd, .int .i64 m.mem, vi, vo, vc] 26 (0, 0)) := (Below.heap_setCell _ _ _ _ (by show Z ≠ Z + 1; omega)).trans hr9
      have hg2 : (w9.setCell ⟨Z + 1, 0, none⟩ (.int .i64 0)).heap[Z + 1]? = some (.cells #[.int .i64 0] 29 (0, 0)) := by rw [heap_setCell_same w9 (Z + 1) 0 _ _ _ he9]; rfl
      have ht9 : ∀ {t : TypeId}, 26 ≠ t → 29 ≠ t → KeepTy t _ (w9.setCell ⟨Z + 1, 0, none⟩ (.int .i64 0)) := fun hne hne2 => (KeepTy.grown hg9 fun g e => by cases e; exact NotTy.of HIQ.out.z hne).trans (KeepTy.setCell (p := ⟨Z + 1, 0, none⟩) (NotTy.of he9 hne2) _)
      have hO9 := HIQ.out.own.keep (ht9 (by decide) (by decide)) (ht9 (by decide) (by decide)) (ht9 (by decide) (by decide))
      have hb9 : Below w.heap.size w (w9.setCell ⟨Z + 1, 0, none⟩ (.int .i64 0)) := (HIQ.out.rd.below.grown hg9 HIQ.out.rd.below.size (fun k e => by cases e; omega)).setCell (p := ⟨Z + 1, 0, none⟩) (by show w.heap.size ≤ Z + 1; omega) _
      clear ec9 ef9 hr9 hg9 he9
      generalize w9.setCell ⟨Z + 1, 0, none⟩ (.int .i64 0) = wz at hg1 hg2 ht9 hO9 hb9 ⊢
      refine leaves_cons (f := 37) (args := #[.pointer (some ⟨Z, 0, none⟩), .pointer (some ⟨Z + 1, 0, none⟩)]) (by simp) (by simp [go_sem]) ?_
      refine (catch_idle _ _ _).mono ?_
      rintro e u' w2 ⟨rfl, rfl, rfl⟩
      refine ⟨_, results_rr rfl _ _ Z (Z + 1) _ 0 rfl rfl hg1 rfl hg2, ?_⟩
      exact ⟨_, _, _, _, rfl, hO9, hwf, hmem, hb9⟩
end Go.Proofs.Ytiogopichcnihaa
