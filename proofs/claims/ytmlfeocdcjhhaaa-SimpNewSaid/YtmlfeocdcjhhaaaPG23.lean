import Derived.Test.YtmlfeocdcjhhaaaPG22
import Derived.Test.YtmlfeocdcjhhaaaPG14
import Derived.Test.YtmlfeocdcjhhaaaPG17
import Derived.Test.YtmlfeocdcjhhaaaPG16
namespace Go.Proofs.Ytmlfeocdcjhhaaa
set_option maxRecDepth 100000
open Go.RowKit Go.ChangeShapes Go.WideShapes
set_option linter.unusedVariables false
-- DROPS
set_option linter.unusedSimpArgs false

/-! What the laws of cores need beside the walks. -/
theorem int_at {w : World} {a : Option Addr} {n c : Nat} {xs : List Int} (h : (Rep.int .i64).Sl w (.slice a n c) xs) : n = xs.length ∧ IntsAt .i64 w a xs := by
  obtain ⟨a', cap, e, hle, _, h2, h4⟩ := h
  cases e
  refine ⟨rfl, fun i hi => ?_⟩
  obtain ⟨b, off, cs, e, ⟨rfl, _⟩, hc⟩ := h4 i hi
  refine ⟨b, off, e, ?_⟩
  simpa [Rep.int, Rep.flat] using hc 0 (.int .i64 xs[i]) rfl
theorem opens_i64 : Opens 50 (Rep.int .i64).slice := opens_slice Try.underlying50 (by kernel_rfl) (by rw [show Try.prog.cellsOf 2 = 1 from by kernel_rfl]; decide) (opens_int Try.underlying2 (by kernel_rfl))
theorem CorAt.els {w : World} {vb vs vo : Value} {c : Cor} (h : CorAt w vb vs vo c) : ∃ ba bc sa sc oa oc, vb = .slice ba c.bufs.length bc ∧ vs = .slice sa c.steps.length sc ∧ vo = .slice oa c.outs.length oc ∧ CorEls w c ba sa oa ∧ c.steps.length ≤ sc ∧ (ba = none → c.bufs.length = 0 ∧ bc = 0) := by
  obtain ⟨⟨ba, bc, rfl, b1, b2, b3, hb⟩, ⟨sa, sc, rfl, s1, s2, -, hs⟩, ⟨oa, oc, rfl, o1, o2, -, ho⟩, _⟩ := h
  unfold maxLen at b2 s2 o2
  exact ⟨ba, bc, sa, sc, oa, oc, rfl, rfl, rfl, ⟨hb, by omega, hs, by omega, ho, by omega⟩, s1, fun e => by have := b3 e; omega⟩
/-- a core in a box, as a block -/
structure CB (w W : World) (x : Nat) (vars : Int) (vb vs vo : Value) : Prop where
  below : Below w.heap.size w W
  blk : W.heap[x]? = some (.cells #[.int .i64 vars, vb, vs, vo] 33 (0, 0))
theorem CB.next {w W W' : World} {x : Nat} {vars : Int} {vb vs vo : Value} (h : CB w W x vars vb vs vo) (hb : Below W.heap.size W W') : CB w W' x vars vb vs vo := ⟨bNext hb h.below, block_below h.blk hb⟩
theorem CB.rg {w W : World} {x : Nat} {vars : Int} {vb vs vo : Value} (h : CB w W x vars vb vs vo) : RgIn w W x vars vb vs vo := by
  have g0 := blockCells (cs := [.int .i64 vars, vb, vs, vo]) h.blk
  exact ⟨h.below, g0 0, g0 1, g0 2, g0 3, (Array.getElem?_eq_some_iff.1 h.blk).1⟩
theorem CB.new {w W : World} (hb : Below w.heap.size w W) (vars : Int) (vb vs vo : Value) : CB w (W.alloc (.cells #[.int .i64 vars, vb, vs, vo] 33)) W.heap.size vars vb vs vo := ⟨hb.alloc hb.size _, World.alloc_heap_new W _⟩
theorem CB.other {w W : World} {x : Nat} {vars : Int} {vb vs vo : Value} (h : CB w W x vars vb vs vo) {p : Addr} (hp : w.heap.size ≤ p.block) (hx : p.block ≠ x) (u : Value) : CB w (W.setCell p u) x vars vb vs vo := ⟨h.below.setCell hp u, block_other h.blk hx u⟩
theorem CB.put1 {w W : World} {x : Nat} {vars : Int} {vb vs vo : Value} (h : CB w W x vars vb vs vo) (hx : w.heap.size ≤ x) (u : Value) : CB w (W.setCell ⟨x, 1, none⟩ u) x vars u vs vo := ⟨h.below.setCell hx u, by rw [heap_setCell_same W x _ _ _ _ h.blk]; rfl⟩
theorem CB.put2 {w W : World} {x : Nat} {vars : Int} {vb vs vo : Value} (h : CB w W x vars vb vs vo) (hx : w.heap.size ≤ x) (u : Value) : CB w (W.setCell ⟨x, 2, none⟩ u) x vars vb u vo := ⟨h.below.setCell hx u, by rw [heap_setCell_same W x _ _ _ _ h.blk]; rfl⟩
theorem CB.fr {w W : World} {x : Nat} {vars : Int} {vb vs vo : Value} (h : CB w W x vars vb vs vo) (j : Nat) : W.frozen? ⟨x, j, none⟩ = false := frozen_of_row _ x j _ _ h.blk
theorem Rep.Els.take {α : Type} {R : Rep α} {w : World} {a : Option Addr} {xs : List α} (h : R.Els w a xs) (k : Nat) : R.Els w a (xs.take k) := fun i hi => by
  simp at hi
  obtain ⟨b, off, cs, e, h1, h2⟩ := h i (by omega)
  exact ⟨b, off, cs, e, by rw [List.getElem_take]; exact h1, h2⟩
end Go.Proofs.Ytmlfeocdcjhhaaa

namespace Go.Proofs.Ytmlfeocdcjhhaaa
set_option maxRecDepth 100000
open Go.RowKit
set_option linter.unusedVariables false
set_option linter.unusedSimpArgs false
attribute [local go_sem ↓] Go.wp_at_zero Go.wp_at_succ

/-! simp.Ops. -/
theorem wrong_5 {o : Cop} (h : o.how = 5) : wrongC o = !takes o.fn false := by unfold wrongC; rw [if_pos h]
theorem wrong_6 {o : Cop} (h : o.how = 6) : wrongC o = !takes o.fn true := by unfold wrongC; rw [if_neg (by omega), if_pos h]
theorem wrong_2 {o : Cop} (h : o.how = 2) : wrongC o = !polyB o.p := by unfold wrongC; rw [if_neg (by omega), if_neg (by omega), if_pos h]
theorem wrong_no {o : Cop} (h5 : o.how ≠ 5) (h6 : o.how ≠ 6) (h2 : o.how ≠ 2) : wrongC o = false := by unfold wrongC; rw [if_neg h5, if_neg h6, if_neg h2]
theorem wronglam_any (w : World) (o : Cop) (pa : Option Addr) (pc : Nat) (he : monoRep.Els w pa o.p) (hm : o.p.length ≤ 9223372036854775807) : Calls Try.prog 22 #[.agg #[.int .i64 o.how, .int .i64 o.k, .int .i64 o.n, .slice pa o.p.length pc, .int .u8 o.fn]] w fun e w' => e = .returned (.bool (wrongC o)) ∧ Below w.heap.size w w' := by
  have HO := Lib.hid (OpBox.new w o (.slice pa o.p.length pc))
  have HE := Lib.hid he
  by_cases h5 : o.how = 5
  · rw [wrong_5 h5]
    have HF := Lib.hid h5
    have HT := Lib.hid (fun W => takes_any W o.fn false)
    clear h5 he
    go_enter Try.func22, Try.ntmps22
    go_upto_region 1 with fail
    refine gen_worldA (fun W => OpBox w W w.heap.size o (.slice pa o.p.length pc)) HO.out ?_
    rintro W hO
    have y0 := hO.c0; have y4 := hO.c4
    rw [HF.out] at y0
    have HQ := Lib.hid (HT.out W); have HO := Lib.hid hO
    clear hO
    go_wp2_with fail
    refine HQ.out.mono ?_
    rintro e W1 ⟨rfl, rfl⟩
    go_wp2_with fail
    go_ret
    exact ⟨rfl, HO.out.b⟩
  by_cases h6 : o.how = 6
  · rw [wrong_6 h6]
    have HF := Lib.hid h6
    have HT := Lib.hid (fun W => takes_any W o.fn true)
    clear h5 h6 he
    go_enter Try.func22, Try.ntmps22
    go_upto_region 1 with fail
    refine gen_worldA (fun W => OpBox w W w.heap.size o (.slice pa o.p.length pc)) HO.out ?_
    rintro W hO
    have y0 := hO.c0; have y4 := hO.c4
    rw [HF.out] at y0
    have HQ := Lib.hid (HT.out W); have HO := Lib.hid hO
    clear hO
    go_wp2_with fail
    refine HQ.out.mono ?_
    rintro e W1 ⟨rfl, rfl⟩
    go_wp2_with fail
    go_ret
    exact ⟨rfl, HO.out.b⟩
  have q5 : (o.how == 5) = false := by rw [beq_eq_false_iff_ne]; exact h5
  have q6 : (o.how == 6) = false := by rw [beq_eq_false_iff_ne]; exact h6
  by_cases h2 : o.how = 2
  · rw [wrong_2 h2]
    have HF := Lib.hid h2
    clear h2 h5 h6 he q5 q6
    go_enter Try.func22, Try.ntmps22
    go_upto_region 1 with fail
    refine gen_worldA (fun W => OpBox w W w.heap.size o (.slice pa o.p.length pc)) HO.out ?_
    rintro W hO
    have y0 := hO.c0; have y3 := hO.c3
    rw [HF.out] at y0
    have HQ := Lib.hid (right_any W pa pc o.p (HE.out.below monoRep hO.b (Nat.le_refl _)) hm); have HO := Lib.hid hO
    clear hO
    go_wp2_with fail
    refine HQ.out.mono ?_
    rintro e W1 ⟨rfl, hb⟩
    go_wp2_with fail
    go_ret
    exact ⟨rfl, bNext hb HO.out.b⟩
  · rw [wrong_no h5 h6 h2]
    have q2 : (o.how == 2) = false := by rw [beq_eq_false_iff_ne]; exact h2
    clear h2 h5 h6 he
    go_enter Try.func22, Try.ntmps22
    go_upto_region 1 with fail
    refine gen_worldA (fun W => OpBox w W w.heap.size o (.slice pa o.p.length pc)) HO.out ?_
    rintro W hO
    have y0 := hO.c0
    have HO := Lib.hid hO
    clear hO
    go_wp2_with fail
    go_ret
    exact ⟨rfl, HO.out.b⟩
set_option maxHeartbeats 4000000 in
theorem indexFuncW (w : World) (a : Option Addr) (cap : Nat) (xs : List Cop) (p : Cop → Bool) (hm : xs.length ≤ maxLen) (h : copRep.Els w a xs)
    (hp : ∀ i, (hi : i < xs.length) → ∀ w' pa pc, Below w.heap.size w w' → monoRep.Els w' pa xs[i].p → xs[i].p.length ≤ 9223372036854775807 →
      Calls Try.prog 22 #[.agg #[.int .i64 xs[i].how, .int .i64 xs[i].k, .int .i64 xs[i].n, .slice pa xs[i].p.length pc, .int .u8 xs[i].fn]] w' fun e w'' => e = .returned (.bool (p xs[i])) ∧ Below w'.heap.size w' w'') :
    Calls Try.prog 52 #[.slice a xs.length cap, .func (.func 22) #[] #[]] w fun e w' => e = .returned (.int .i64 (firstO p 0 xs)) ∧ Below w.heap.size w w' := by
  unfold maxLen at hm
  have HI := Lib.hid h; have HP := Lib.hid hp; clear h hp
  go_enter Try.func52, Try.ntmps52
  go_wp2
  go_loopw [8] (fun i wr => ∃ k : Nat, k ≤ xs.length ∧ i = .int .i64 k ∧ firstO p 0 xs = firstO p k (xs.drop k) ∧ Below w.heap.size w wr) (fun i _ => xs.length - (intOf i).toNat)
  case atStart => exact ⟨0, Nat.zero_le _, rfl, rfl, Below.refl _ _⟩
  case round =>
    obtain ⟨k, hk, rfl, hr, hbel⟩ := hrel
    by_cases hlt : k < xs.length
    · rw [firstO_step hlt] at hr
      obtain ⟨b, off, cs, rfl, ⟨v, rfl, hs, hh, -⟩, hc⟩ := (HI.out.below copRep hbel (Nat.le_refl _)) k hlt
      have x0 := hc 0 _ rfl; have x1 := hc 1 _ rfl; have x2 := hc 2 _ rfl; have x3 := hc 3 _ rfl; have x4 := hc 4 _ rfl
      simp only [show copRep.n = 5 from rfl, Nat.add_zero] at x0 x1 x2 x3 x4
      obtain ⟨pa, pc, rfl, hpl, hpe⟩ := Rep.Sl.form hs
      have hq := HP.out k hlt wr pa pc hbel hpe hpl
      have Hr := Lib.hid hr; clear hr hs hpe hc
      cases hv : p xs[k] with
      | true =>
        rw [hv] at hq
        have HQ := Lib.hid hq; have Hv := Lib.hid hv; clear hq hv
        go_wp2_with (refine HQ.out.mono ?_; rintro e w' ⟨rfl, hb1⟩)
        go_ret
        exact ⟨ret_int (by rw [Hr.out, if_pos Hv.out]), bNext hb1 hbel⟩
      | false =>
        rw [hv] at hq
        have HQ := Lib.hid hq; have Hv := Lib.hid hv; clear hq hv
        go_wp2_with (refine HQ.out.mono ?_; rintro e w' ⟨rfl, hb1⟩)
        go_roundw
        case rel => exact ⟨k + 1, by omega, by go_num, by rw [Hr.out, if_neg (by rw [Hv.out]; simp)], bNext hb1 hbel⟩
        case measure => simp [intOf]; omega
    · have Hr := Lib.hid hr; clear hr
      go_wp2
      go_ret
      exact ⟨ret_int (by rw [Hr.out, List.drop_eq_nil_of_le (by omega)]; rfl), hbel⟩

theorem containsFuncW (w : World) (a : Option Addr) (cap : Nat) (xs : List Cop) (p : Cop → Bool) (hm : xs.length ≤ maxLen) (h : copRep.Els w a xs)
    (hp : ∀ i, (hi : i < xs.length) → ∀ w' pa pc, Below w.heap.size w w' → monoRep.Els w' pa xs[i].p → xs[i].p.length ≤ 9223372036854775807 →
      Calls Try.prog 22 #[.agg #[.int .i64 xs[i].how, .int .i64 xs[i].k, .int .i64 xs[i].n, .slice pa xs[i].p.length pc, .int .u8 xs[i].fn]] w' fun e w'' => e = .returned (.bool (p xs[i])) ∧ Below w'.heap.size w' w'') :
    Calls Try.prog 25 #[.slice a xs.length cap, .func (.func 22) #[] #[]] w fun e w' => e = .returned (.bool (xs.any p)) ∧ Below w.heap.size w w' := by
  have hq := Lib.hid (indexFuncW w a cap xs p hm h hp)
  clear hp h
  go_enter Try.func25, Try.ntmps25
  go_wp2_with (go_at_call 52; refine hq.out.mono ?_; rintro e w' ⟨rfl, hb1⟩)
  go_ret
  exact ⟨ret_bool (firstO_nonneg _ _), hb1⟩

/-- what Ops tells -/
def RetOps (w : World) (r : List Cop × Int) (e : Ending) (w' : World) : Prop := (∃ v, e = .returned (.tuple #[v, .int .i64 r.2]) ∧ copRep.Sl w' v r.1) ∧ Below w.heap.size w w'
theorem fit_poly {l : List Cop} (h : fitC l = true) : 0 ≤ depthI l ∧ ∀ o ∈ l, o.how = 2 → o.p.length ≤ 1048576 := by
  unfold fitC at h
  simp only [Bool.and_eq_true, decide_eq_true_eq, Bool.not_eq_true', List.any_eq_false] at h
  refine ⟨h.1, fun o ho h2 => ?_⟩
  have h3 := h.2 o ho
  rw [wrong_2 h2] at h3
  have h4 : polyB o.p = true := by simpa using h3
  unfold polyB at h4
  simp only [Bool.and_eq_true, decide_eq_true_eq] at h4
  omega
theorem ops13_any (w : World) (a : Option Addr) (c : Nat) (l : List Cop) (h0 : copRep.Sl w (.slice a l.length c) l) (hl : l.length ≤ 2513169434843) :
    Calls Try.prog 10 #[.slice a l.length c] w (RetOps w (opsC l)) := by
  have h := CopS.of h0
  have hq1 := depth_any w a c l h.els h.le
  have hq2 := fun W (hb : Below w.heap.size w W) => containsFuncW W a c l wrongC (by have := h.le; unfold maxLen; exact this) (h.els.below copRep hb (Nat.le_refl _)) (fun i hi w' pa pc _ he hm => wronglam_any w' l[i] pa pc he hm)
  have hq3 := fun (hf : fitC l = true) W (hb : Below w.heap.size w W) => simple13_any W (b0 W.heap.size) (Nat.le_refl _) a c l ((h.below hb).mono hb.size (fun _ h => h)) hl (fit_poly hf).1 (fit_poly hf).2 (.inl (fun _ => trivial))
  have ho : opsC l = if fitC l then (simpleC l, 0) else ([], 130) := rfl
  have hf : fitC l = (decide (0 ≤ depthI l) && !l.any wrongC) := rfl
  rw [ho]
  obtain ⟨D, hD⟩ : ∃ D, depthI l = D := ⟨_, rfl⟩
  obtain ⟨g, hg⟩ : ∃ g, l.any wrongC = g := ⟨_, rfl⟩
  rw [hD] at hq1
  simp only [hg] at hq2
  rw [hD, hg] at hf
  have hm := h.le
  clear h h0 hl hD hg ho
  by_cases h0 : D < 0
  · have hdc : decide (0 ≤ D) = false := by rw [decide_eq_false_iff_not]; omega
    rw [hdc, Bool.false_and] at hf
    rw [if_neg (by rw [hf]; decide)]
    have HQ := Lib.hid hq1
    clear hq1 hq2 hq3 hf hdc
    go_enter Try.func10, Try.ntmps10
    go_wp2_with fail
    refine HQ.out.mono ?_
    rintro e w1 ⟨rfl, hb⟩
    go_wp2_with fail
    go_ret2
    exact ⟨⟨_, rfl, Rep.Sl.nil _ _⟩, hb⟩
  · have hdc : decide (0 ≤ D) = true := by rw [decide_eq_true_iff]; omega
    rw [hdc, Bool.true_and] at hf
    cases g with
    | true =>
      rw [if_neg (by rw [hf]; decide)]
      have HQ := Lib.hid hq1; have HQ2 := Lib.hid hq2
      clear hq1 hq2 hq3 hf hdc
      go_enter Try.func10, Try.ntmps10
      go_wp2_with fail
      refine HQ.out.mono ?_
      rintro e w1 ⟨rfl, hb⟩
      have HB := Lib.hid hb; have HQ3 := Lib.hid (HQ2.out w1 hb)
      clear HQ HQ2 hb
      go_wp2_with fail
      refine HQ3.out.mono ?_
      rintro e w2 ⟨rfl, hb⟩
      go_wp2_with fail
      go_ret2
      exact ⟨⟨_, rfl, Rep.Sl.nil _ _⟩, bNext hb HB.out⟩
    | false =>
      have hf : fitC l = true := hf
      rw [if_pos hf]
      have HQ := Lib.hid hq1; have HQ2 := Lib.hid hq2; have HQ3 := Lib.hid (hq3 hf)
      clear hq1 hq2 hq3 hf hdc
      go_enter Try.func10, Try.ntmps10
      go_wp2_with fail
      refine HQ.out.mono ?_
      rintro e w1 ⟨rfl, hb⟩
      have HB := Lib.hid hb; have HQ4 := Lib.hid (HQ2.out w1 hb)
      clear HQ HQ2 hb
      go_wp2_with fail
      refine HQ4.out.mono ?_
      rintro e w2 ⟨rfl, hb⟩
      have HB := Lib.hid (bNext hb HB.out)
      have HQ := Lib.hid (HQ3.out w2 HB.out)
      clear HQ3 HQ4 hb
      go_wp2_with fail
      refine HQ.out.mono ?_
      rintro e w3 ⟨⟨v3, rfl, hv3⟩, hb⟩
      go_wp2_with fail
      go_ret2
      exact ⟨⟨_, rfl, hv3.cop⟩, bNext hb HB.out⟩
end Go.Proofs.Ytmlfeocdcjhhaaa

namespace Go.Proofs.Ytmlfeocdcjhhaaa
set_option maxRecDepth 100000
open Go.RowKit
set_option linter.unusedVariables false
set_option linter.unusedSimpArgs false
attribute [local go_sem ↓] Go.wp_at_zero Go.wp_at_succ
attribute [local go_sem] field_zero eq_six

/-! windrowref13: list, number, is, harmless, value. -/
theorem rlist_any (w : World) (B : Bd) (hL : B.hi ≤ w.heap.size) (n : Int) (hn : I64 n) : Calls Try.prog 100 #[.int .i64 n] w (RetC B w [numC n]) := by
  have HL := Lib.hid (lit_one w B w.heap.size hL (numC n) (.slice none 0 0) rfl (MonS.nil _ _) (okO_num hn))
  go_enter Try.func100, Try.ntmps100
  go_wp2
  go_ret
  exact ⟨⟨_, rfl, HL.out⟩, (Below.refl _ _).alloc (Nat.le_refl _) _⟩
theorem rnumber_any (w : World) (a : Option Addr) (c : Nat) (l : List Cop) (h : copRep.Els w a l) (hm : l.length ≤ 9223372036854775807) :
    Calls Try.prog 101 #[.slice a l.length c] w fun e w' => e = .returned (.tuple #[.int .i64 ((knownC l).getD 0), .bool (knownC l).isSome]) ∧ Below w.heap.size w w' := by
  by_cases hl : l.length = 1
  · obtain ⟨o, rfl⟩ := List.length_eq_one_iff.1 hl
    obtain ⟨b, off, pa, pc, rfl, x0, x1, x2, x3, x4, -, -⟩ := els_cop h (k := 0) (by simp)
    simp only [Nat.zero_mul, Nat.add_zero, List.getElem_cons_zero] at x0 x1 x2 x3 x4
    have hk := Lib.hid (known_one o)
    have e1 : [o].length = 1 := rfl
    rw [e1]
    by_cases hh : o.how = 1
    · rw [hh] at x0
      rw [hk.out, if_pos hh]
      clear h hm hl hk hh
      go_enter Try.func101, Try.ntmps101
      go_wp2
      go_ret2
      exact ⟨rfl, Below.refl _ _⟩
    · have hh' : (o.how == 1) = false := by simpa using hh
      rw [hk.out, if_neg hh]
      clear h hm hl hk hh
      go_enter Try.func101, Try.ntmps101
      go_wp2
      go_ret2
      exact ⟨rfl, Below.refl _ _⟩
  · rw [known_len2 hl]
    have hl' : ((l.length : Int) == 1) = false := by rw [beq_eq_false_iff_ne]; omega
    clear h hl
    go_enter Try.func101, Try.ntmps101
    go_wp2
    go_ret2
    exact ⟨rfl, Below.refl _ _⟩
theorem ris_any (w : World) (a : Option Addr) (c : Nat) (l : List Cop) (n : Int) (h : copRep.Els w a l) (hm : l.length ≤ 9223372036854775807) :
    Calls Try.prog 104 #[.slice a l.length c, .int .i64 n] w fun e w' => e = .returned (.bool (onlyC l n)) ∧ Below w.heap.size w w' := by
  have hq := rnumber_any w a c l h hm
  have ho : onlyC l n = (knownC l == some n) := rfl
  generalize knownC l = k at hq ho
  rw [ho]
  have HQ := Lib.hid hq
  clear h hm hq ho
  cases k with
  | none =>
    go_enter Try.func104, Try.ntmps104
    go_wp2_with fail
    refine HQ.out.mono ?_
    rintro e w1 ⟨rfl, hb⟩
    go_wp2_with fail
    go_ret
    exact ⟨rfl, hb⟩
  | some m =>
    go_enter Try.func104, Try.ntmps104
    go_wp2_with fail
    refine HQ.out.mono ?_
    rintro e w1 ⟨rfl, hb⟩
    go_wp2_with fail
    go_ret
    exact ⟨ret_bool (by simp), hb⟩
theorem reach_take {l : List Cop} {k : Nat} (hk : k < l.length) : (l.take (k + 1)).any reachC = ((l.take k).any reachC || reachC l[k]) := by
  rw [List.take_succ_eq_append_getElem hk, List.any_append]; simp
set_option maxHeartbeats 1000000 in
theorem rharmless_any (w : World) (a : Option Addr) (c : Nat) (l : List Cop) (h : copRep.Els w a l) (hm : l.length ≤ 9223372036854775807) :
    Calls Try.prog 105 #[.slice a l.length c] w fun e w' => e = .returned (.bool (harmC l)) ∧ Below w.heap.size w w' := by
  have hq := rtotal10_any w a c l h hm
  have hr : harmC l = (totS l && !l.any reachC) := rfl
  generalize totS l = t at hq hr
  have HE := Lib.hid h; have HQ := Lib.hid hq; have HR := Lib.hid hr
  obtain ⟨n, hn⟩ : ∃ n, l.length = n := ⟨_, rfl⟩
  rw [hn] at HQ hm ⊢
  have HN := Lib.hid hn
  clear h hq hr hn
  go_enter Try.func105, Try.ntmps105
  go_wp2_with fail
  go_loop [3] (fun i => ∃ k : Nat, k ≤ n ∧ i = .int .i64 k ∧ (l.take k).any reachC = false) (fun i => n - (intOf i).toNat)
  case atStart => exact ⟨0, by omega, rfl, rfl⟩
  case round =>
    obtain ⟨k, hk, rfl, hg⟩ := hrel
    by_cases hlt : k < n
    · have hkx : k < l.length := by rw [HN.out]; exact hlt
      obtain ⟨b, off, pa, pc, rfl, x0, -⟩ := els_cop HE.out hkx
      have hs := reach_take hkx
      rw [hg, Bool.false_or] at hs
      have hall : reachC l[k] = true → l.any reachC = true := fun hh => List.any_eq_true.2 ⟨_, List.getElem_mem hkx, hh⟩
      have hrc : reachC l[k] = (l[k].how == 2 || l[k].how == 4) := rfl
      generalize l[k].how = hw at x0 hrc
      generalize reachC l[k] = rc at hs hall hrc
      have HS := Lib.hid hs; have HALL := Lib.hid hall; have HRC := Lib.hid hrc
      clear hs hall hrc hg hkx
      by_cases h2 : hw = 2
      · subst h2
        go_wp2_with fail
        go_ret
        have := HALL.out (by rw [HRC.out]; rfl)
        exact ⟨ret_bool (by rw [HR.out, this]; simp), Below.refl _ _⟩
      · have q2 : (hw == 2) = false := by rw [beq_eq_false_iff_ne]; exact h2
        by_cases h4 : hw = 4
        · subst h4
          go_wp2_with fail
          go_ret
          have := HALL.out (by rw [HRC.out]; rfl)
          exact ⟨ret_bool (by rw [HR.out, this]; simp), Below.refl _ _⟩
        · have q4 : (hw == 4) = false := by rw [beq_eq_false_iff_ne]; exact h4
          have HG := Lib.hid (show (l.take (k + 1)).any reachC = false by rw [HS.out, HRC.out, q2, q4]; rfl)
          clear h2 h4
          go_wp2_with fail
          go_round
          case rel => exact ⟨k + 1, by omega, by go_num, HG.out⟩
          case measure => simp [intOf] <;> omega
    · obtain rfl : n = k := by omega
      rw [← HN.out, List.take_length] at hg
      have HG := Lib.hid hg
      clear hg hlt
      go_wp2_with fail
      refine HQ.out.mono ?_
      rintro e w1 ⟨rfl, hb⟩
      go_wp2_with fail
      go_ret
      exact ⟨ret_bool (by rw [HR.out, HG.out]; simp), hb⟩
/-! value -/
theorem rvalue13_0 (w : World) (B : Bd) (hB : B ≤ w.heap.size) (o : Cop) (pa : Option Addr) (pc : Nat) (h0 : o.p = []) : Calls Try.prog 60 #[opV o pa pc] w (RetC B w (valueC o)) := by
  rw [value_0 h0]
  have hl : o.p.length = 0 := by rw [h0]; rfl
  have HN := Lib.hid (fun W hL => rlist_any W B hL 0 (by unfold I64; omega))
  have HO := Lib.hid (OpBox.new w o (.slice pa 0 pc))
  unfold opV
  rw [hl]
  clear h0 hl
  go_enter Try.func60, Try.ntmps60
  go_upto_region 1 with fail
  refine gen_worldA (fun W => OpBox w W w.heap.size o (.slice pa 0 pc)) HO.out ?_
  rintro W hO
  have x3 := hO.c3
  have HQ := Lib.hid (HN.out W (Nat.le_trans (Bd.low hB) hO.b.size))
  have HO := Lib.hid hO
  clear hO HN
  go_wp2_with fail
  refine HQ.out.mono ?_
  rintro e w1 ⟨⟨v, rfl, hv⟩, hb⟩
  go_wp2_with fail
  go_ret
  exact ⟨⟨_, rfl, hv⟩, bNext hb HO.out.b⟩
set_option maxHeartbeats 1000000 in
theorem rvalue13_1 (w : World) (B : Bd) (hB : B ≤ w.heap.size) (o : Cop) (m : Mono) (pa : Option Addr) (pc : Nat) (hp : MonS B w (.slice pa o.p.length pc) o.p) (ho : OkO o) (h0 : o.p = [m]) : Calls Try.prog 60 #[opV o pa pc] w (RetC B w (valueC o)) := by
  rw [value_1 h0]
  have hl : o.p.length = 1 := by rw [h0]; rfl
  have HP := Lib.hid hp; have OKO := Lib.hid ho
  obtain ⟨b, off, rfl, hwf, y0, y1, y2, y3, y4, y5, y6⟩ := els_mono hp.els (k := 0) (by rw [hl]; omega)
  simp only [h0, List.getElem_cons_zero, Nat.zero_mul, Nat.add_zero] at hwf y0 y1 y2 y3 y4 y5 y6
  have hfe : (m.e0 == 0 && (m.e1 == 0 && (m.e2 == 0 && (m.e3 == 0 && (m.e4 == 0 && m.e5 == 0))))) = flatE m := by unfold flatE Mono.E; simp [List.cons_beq_cons]
  have HN := Lib.hid (fun W hL => rlist_any W B hL m.n hwf.n)
  have HO := Lib.hid (OpBox.new w o (.slice (some ⟨b, off, none⟩) 1 pc))
  unfold opV
  rw [hl] at HP ⊢
  clear hp h0 hl hwf ho
  cases hf : flatE m with
  | true =>
    rw [hf] at hfe
    rw [if_pos rfl]
    clear hf
    go_enter Try.func60, Try.ntmps60
    go_upto_region 1 with fail
    refine gen_worldA (fun W => OpBox w W w.heap.size o (.slice (some ⟨b, off, none⟩) 1 pc)) HO.out ?_
    rintro W hO
    have x3 := hO.c3
    have y0 := keepCell hO.b y0; have y1 := keepCell hO.b y1; have y2 := keepCell hO.b y2; have y3 := keepCell hO.b y3; have y4 := keepCell hO.b y4; have y5 := keepCell hO.b y5; have y6 := keepCell hO.b y6
    have HQ := Lib.hid (HN.out W (Nat.le_trans (Bd.low hB) hO.b.size))
    have HO := Lib.hid hO
    clear hO HN
    go_wp2_with fail
    refine HQ.out.mono ?_
    rintro e w1 ⟨⟨v, rfl, hv⟩, hb⟩
    go_wp2_with fail
    go_ret
    exact ⟨⟨_, rfl, hv⟩, bNext hb HO.out.b⟩
  | false =>
    rw [hf] at hfe
    rw [if_neg (by decide)]
    clear hf HN
    go_enter Try.func60, Try.ntmps60
    go_upto_region 1 with fail
    refine gen_worldA (fun W => OpBox w W w.heap.size o (.slice (some ⟨b, off, none⟩) 1 pc)) HO.out ?_
    rintro W hO
    have x0 := hO.c0; have x1 := hO.c1; have x2 := hO.c2; have x3 := hO.c3; have x4 := hO.c4
    have y0 := keepCell hO.b y0; have y1 := keepCell hO.b y1; have y2 := keepCell hO.b y2; have y3 := keepCell hO.b y3; have y4 := keepCell hO.b y4; have y5 := keepCell hO.b y5; have y6 := keepCell hO.b y6
    obtain ⟨G, hG⟩ : ∃ G, W.heap.size = G := ⟨_, rfl⟩
    have HL := Lib.hid (lit_one W B G (by rw [← hG]; exact Nat.le_trans (Bd.low hB) hO.b.size) o _ hG (HP.out.below hO.b) OKO.out)
    have HO := Lib.hid hO
    clear hO
    go_wp2_with fail
    go_ret
    exact ⟨⟨_, rfl, HL.out⟩, HO.out.b.alloc HO.out.b.size _⟩
theorem rvalue13_2 (w : World) (B : Bd) (hB : B ≤ w.heap.size) (o : Cop) (pa : Option Addr) (pc : Nat) (hp : MonS B w (.slice pa o.p.length pc) o.p) (ho : OkO o) (h1 : 1 < o.p.length) : Calls Try.prog 60 #[opV o pa pc] w (RetC B w (valueC o)) := by
  rw [value_2 h1]
  have HP := Lib.hid hp; have OKO := Lib.hid ho
  have HO := Lib.hid (OpBox.new w o (.slice pa o.p.length pc))
  have l0 : ((o.p.length : Int) == 0) = false := by rw [beq_eq_false_iff_ne]; omega
  have l1 : ((o.p.length : Int) == 1) = false := by rw [beq_eq_false_iff_ne]; omega
  unfold opV
  clear hp ho h1
  go_enter Try.func60, Try.ntmps60
  go_upto_region 1 with fail
  refine gen_worldA (fun W => OpBox w W w.heap.size o (.slice pa o.p.length pc)) HO.out ?_
  rintro W hO
  have x0 := hO.c0; have x1 := hO.c1; have x2 := hO.c2; have x3 := hO.c3; have x4 := hO.c4
  obtain ⟨G, hG⟩ : ∃ G, W.heap.size = G := ⟨_, rfl⟩
  have HL := Lib.hid (lit_one W B G (by rw [← hG]; exact Nat.le_trans (Bd.low hB) hO.b.size) o _ hG (HP.out.below hO.b) OKO.out)
  have HO := Lib.hid hO
  clear hO
  go_wp2_with fail
  go_ret
  exact ⟨⟨_, rfl, HL.out⟩, HO.out.b.alloc HO.out.b.size _⟩
theorem rvalue13_any (w : World) (B : Bd) (hB : B ≤ w.heap.size) (o : Cop) (pa : Option Addr) (pc : Nat) (hp : MonS B w (.slice pa o.p.length pc) o.p) (ho : OkO o) : Calls Try.prog 60 #[opV o pa pc] w (RetC B w (valueC o)) := by
  rcases Nat.lt_or_ge 1 o.p.length with h | h
  · exact rvalue13_2 w B hB o pa pc hp ho h
  · rcases Nat.eq_zero_or_pos o.p.length with h0 | h0
    · exact rvalue13_0 w B hB o pa pc (List.eq_nil_of_length_eq_zero h0)
    · obtain ⟨m, hm⟩ := List.length_eq_one_iff.1 (show o.p.length = 1 by omega)
      exact rvalue13_1 w B hB o m pa pc hp ho hm
end Go.Proofs.Ytmlfeocdcjhhaaa
