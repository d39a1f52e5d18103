/-
  LinkRight: the law returns true for every input, and what was handed in reads as it did. No condition.
-/
import Derived.Test.YtegjcghcknpjeaaP10
import Derived.Test.YtegjcghcknpjeaaQB
import Derived.Deep.RegionHeld3
import Derived.Deep.DrawnRows
import Derived.Outline
namespace Go.Proofs.Ytegjcghcknpjeaa
open Go.ChangeShapes Go.WideShapes Go.ChangeAt Go.RowKit Go.Joins
set_option linter.unusedVariables false

attribute [local go_sem ↓] Go.wp_at_zero Go.wp_at_succ
theorem Piece.Els.take {w : World} {a : Option Addr} {l : List Piece} (h : pieceRep.Els w a l) (k : Nat) : pieceRep.Els w a (l.take k) := by
  intro i hi
  simp at hi
  obtain ⟨b, off, cs, e, h1, h2⟩ := h i (by omega)
  exact ⟨b, off, cs, e, by rw [List.getElem_take]; exact h1, h2⟩

set_option maxRecDepth 100000 in
set_option maxHeartbeats 4000000 in
theorem LinkRight_walk (w : World) (v0 : Value) (l : List Piece) (q0 : pieceRep.Sl w v0 l) :
    Calls Try.prog 5 #[v0] w fun e w' => e = .returned (.bool true) ∧ Below w.heap.size w w' := by
  obtain ⟨a, cp, rfl, hm1, hm2, hnil, h⟩ := q0
  have hm := Nat.le_trans hm1 hm2
  have hwf : ∀ p ∈ l, p.wf := fun p hp => by
    obtain ⟨k, hk, rfl⟩ := List.getElem_of_mem hp
    obtain ⟨_, _, _, hw, _⟩ := els_piece h hk
    exact hw
  have k1 := fun W (hB : Below w.heap.size w W) => link_any W a cp l hm (h.below pieceRep hB (Nat.le_refl _))
  have hlw := linkS_wf hwf
  have hok := @linkS_ok l
  have hshort := @linkS_short l
  have hmany := @linkS_many l
  generalize linkS l = u at k1 hlw hok hshort hmany
  obtain ⟨⟨c, n⟩, er⟩ := u
  have K1 := Lib.hid k1
  have HI := Lib.hid h
  have HW := Lib.hid hwf
  have HLW := Lib.hid hlw
  clear k1 h hwf hlw
  by_cases h0 : er = 0
  · subst h0
    obtain ⟨rfl, hbig, hlen, hk⟩ := hok rfl
    clear hshort hmany hok
    have HK : Hid (∀ k (h1 : k < l.length) (h2 : k < c.length), c[k].right = true ∧ c[k].op = l[k].ins.op ∧ (l[k].to = 0 → c[k] = l[k].ins) ∧ (l[k].to ≠ 0 → ∃ t : Nat, ∃ ht : t < l.length, c[k] = { l[k].ins with imm := (t : Int) } ∧ l[t].mark = l[k].to)) := Lib.hid (fun k h1 _ => hk k h1)
    clear hk
    have HC := Lib.hid hlen; clear hlen
    go_enter Try.func5, Try.ntmps5
    go_wp2_with fail
    refine (shown_any _).mono ?_
    rintro e w1 ⟨rfl, hB1⟩
    go_wp2_with fail
    refine (K1.out _ hB1).mono ?_
    rintro e w2 ⟨⟨v, rfl, hr⟩, hb⟩
    have hB2 := bNext hb hB1
    obtain ⟨al, cl, rfl, _, _, _, hel⟩ := RowIns.sl hr HLW.out
    have HE := Lib.hid hel
    have HIw := Lib.hid (HI.out.below pieceRep hB2 (Nat.le_refl _))
    clear hb hr hel hB1
    dsimp only at HE ⊢
    rw [show ∀ x y, Value.slice x c.length y = Value.slice x l.length y from fun x y => by rw [HC.out]]
    go_wp2_with fail
    go_loopw [23] (fun i wr => ∃ k : Nat, k ≤ l.length ∧ i = .int .i64 k ∧ Below w2.heap.size w2 wr) (fun i _ => l.length - (intOf i).toNat)
    case atStart => exact ⟨0, Nat.zero_le _, rfl, Below.refl _ _⟩
    case round =>
      obtain ⟨k, hk, rfl, hbr⟩ := hrel
      by_cases hlt : k < l.length
      · have hkc : k < c.length := HC.out ▸ hlt
        obtain ⟨hr, hop, hto0, hto1⟩ := HK.out k hlt hkc
        have hpE := HIw.out.below pieceRep hbr (Nat.le_refl _)
        obtain ⟨b, off, rfl, hwc, x0, x1, x2, x3, x4⟩ := els_ins (HE.out.below insRep hbr (Nat.le_refl _)) hkc
        obtain ⟨b2, off2, rfl, hwl, y0, y1, y2, y3, y4, y5, y6⟩ := els_piece hpE hlt
        have HP := Lib.hid hpE; clear hpE
        obtain ⟨p, hp⟩ : ∃ p, l[k] = p := ⟨_, rfl⟩
        rw [hp] at hop hto0 hto1 hwl y0 y1 y2 y3 y4 y5 y6
        have Hp := Lib.hid hp; clear hp
        obtain ⟨x, hx⟩ : ∃ x, c[k] = x := ⟨_, rfl⟩
        rw [hx] at hr hop hto0 hto1 hwc x0 x1 x2 x3 x4
        clear hx
        obtain ⟨xo, xa, xb, xc, xi⟩ := x
        dsimp only at hop hwc x0 x1 x2 x3 x4
        subst hop
        have hq := fun W => isaRight_any W p.ins.op xa xb xc xi hwc.op.1 hwc.op.2
        have hr' : insRight p.ins.op xa xb xc xi = true := hr
        rw [hr'] at hq
        have HQ := Lib.hid hq; have H0 := Lib.hid hto0; have H1 := Lib.hid hto1
        clear hq hr hr' hto0 hto1 y0 y2 y3 y4 y5
        have hz0 : (0 : Int) ≤ (k : Int) := by omega
        have hz1 : (k : Int) < (l.length : Int) := by omega
        have hbr' := Lib.hid hbr; clear hbr
        by_cases ht : 0 < p.to
        · obtain ⟨t, htl, he, hmk⟩ := H1.out (by omega)
          obtain ⟨rfl, rfl, rfl, rfl⟩ : xa = p.ins.a ∧ xb = p.ins.b ∧ xc = p.ins.c ∧ xi = (t : Int) := by cases he; exact ⟨rfl, rfl, rfl, rfl⟩
          obtain ⟨b3, off3, e3, -, z0, -⟩ := els_piece HP.out htl
          cases e3
          rw [hmk] at z0
          clear he hmk hwc
          have hz2 : (0 : Int) ≤ (t : Int) := by omega
          have hz3 : (t : Int) < (l.length : Int) := by omega
          have f0 := cellBW x0; have f1 := cellBW x1; have f2 := cellBW x2; have f3 := cellBW x3; have f4 := cellBW x4; have f5 := cellBW y1
          go_wp2_with fail
          refine wp_region_below (by kernel_rfl) (by kernel_rfl) ?_
          repeat (go_big_quiet_step (refine callsBW (HQ.out _)))
          refine wpQuiet_nil ?_
          rintro _ ⟨⟨wq, hwq⟩, rfl⟩
          clear f0 f1 f2 f3 f4 f5
          replace z0 := keepCell hwq z0
          replace x4 := keepCell hwq x4
          replace y6 := keepCell hwq y6
          have HB := Lib.hid (bNext hwq hbr'.out)
          go_wp2_with fail
          go_quiet (fail)
          replace HB := Lib.hid (HB.out.trans (Below.drewN _ nq))
          go_wp2
          go_roundw
          case rel => exact ⟨k + 1, by omega, by go_num, HB.out⟩
          case measure => simp [intOf]; omega
        · have ht' : decide (0 < p.to) = false := by simpa using ht
          have f0 := cellBW x0; have f1 := cellBW x1; have f2 := cellBW x2; have f3 := cellBW x3; have f4 := cellBW x4; have f5 := cellBW y1
          go_wp2_with fail
          refine wp_region_below (by kernel_rfl) (by kernel_rfl) ?_
          repeat (go_big_quiet_step (refine callsBW (HQ.out _)))
          refine wpQuiet_nil ?_
          rintro _ ⟨⟨wq, hwq⟩, rfl⟩
          clear f0 f1 f2 f3 f4 f5
          replace x4 := keepCell hwq x4
          replace y6 := keepCell hwq y6
          have HB := Lib.hid (bNext hwq hbr'.out)
          go_wp2_with fail
          go_quiet (fail)
          replace HB := Lib.hid (HB.out.trans (Below.drewN _ nq))
          go_wp2
          go_roundw
          case rel => exact ⟨k + 1, by omega, by go_num, HB.out⟩
          case measure => simp [intOf]; omega
      · obtain rfl : k = l.length := by omega
        have hbr' := bNext hbr hB2
        clear hbr hB2
        go_wp2_with fail
        go_ret
        exact ⟨ret_bool (by simp), hbr'⟩
  by_cases h1 : er = 173
  · subst h1
    obtain ⟨rfl, rfl, hlen⟩ := hmany rfl
    clear hok hshort hmany
    go_enter Try.func5, Try.ntmps5
    go_wp2_with fail
    refine (shown_any _).mono ?_
    rintro e w1 ⟨rfl, hB1⟩
    go_wp2_with fail
    refine (K1.out _ hB1).mono ?_
    rintro e w2 ⟨⟨v, rfl, hr⟩, hb⟩
    have hB2 := bNext hb hB1
    obtain ⟨al, cl, rfl, _⟩ := RowIns.sl hr HLW.out
    clear hb hr
    go_wp2_with fail
    go_ret
    exact ⟨ret_bool (by simp), hB2⟩
  · obtain ⟨rfl, k, rfl, hk, hbig, hres⟩ := hshort rfl h0 h1
    clear hok hshort hmany
    go_enter Try.func5, Try.ntmps5
    go_wp2_with fail
    refine (shown_any _).mono ?_
    rintro e w1 ⟨rfl, hB1⟩
    go_wp2_with fail
    refine (K1.out _ hB1).mono ?_
    rintro e w2 ⟨⟨v, rfl, hr⟩, hb⟩
    have hB2 := bNext hb hB1
    obtain ⟨al, cl, rfl, _⟩ := RowIns.sl hr HLW.out
    clear hb hr
    go_wp2_with fail
    have K2 := link_any w2 a cp (l.take k) (by simp; omega) (Piece.Els.take (HI.out.below pieceRep hB2 (Nat.le_refl _)) k)
    rw [show (l.take k).length = k from by simp; omega] at K2
    generalize linkS (l.take k) = u2 at K2 hres
    obtain ⟨⟨c2, n2⟩, f⟩ := u2
    refine K2.mono ?_
    rintro e w3 ⟨⟨v, rfl, hr⟩, hb⟩
    have hB3 := bNext hb hB2
    clear hb hr K2
    dsimp only at hres ⊢
    rcases hres with rfl | rfl
    · go_wp2_with fail
      go_ret
      exact ⟨ret_bool (by simp), hB3⟩
    · go_wp2_with fail
      go_ret
      exact ⟨ret_bool (by simp), hB3⟩

set_option maxRecDepth 100000 in
theorem LinkRight_lifted (os : Os) (started : os.Started) (H : Type) (enc : TypeId × Value → H) :
    ReturnsInHanded {} Try.checked os 5 .any (Rows.linkRightSpec.pre6 enc Try.prog Try.f5 Rows.linkRightRow.domain false) (Rows.linkRightSpec.post enc Try.prog Try.f5 false true false false) := by
  refine returnsInHanded_of_change (C := Try.checked) own started (by kernel_rfl) Try.func5
    (ChangeSpec.witness6 (enc := enc) (C := Try.checked) false ⟨#[], #[.slice none 0 0], []⟩ 8 (by kernel_rfl) (by kernel_rfl) (by kernel_rfl) (by kernel_rfl)) ?_
  intro W base args ds gs before hval0 hW hcnd _
  have hval : ∀ (j : Nat) t v, Try.f5.params[j]? = some t → args[j]? = some v → Value.okWide Try.prog W .any base t v := hval0
  have hW' := hW
  obtain ⟨p, q, hA0, hV, rfl, hfz, hnd⟩ := hW
  have hA : DataW.TrodAll enc Try.prog W 0 (fun _ => true) true Try.f5.params.toList args.toList ds p := hA0
  rw [Try.params5] at hA hval
  obtain ⟨v0, vs0, d0, ds0, p0, q0, hargs, rfl, rfl, h0, r0⟩ := trodAll_cons hA
  obtain ⟨rfl, rfl, rfl⟩ := trodAll_nil r0
  obtain rfl : args = #[v0] := by cases args; simp_all
  obtain ⟨rfl, rfl⟩ := trodVars_none hV
  have k0 := h0
  have lt0 : ∀ x ∈ p0, x.block < W.heap.size := by obtain ⟨m, hm⟩ := k0; exact DataW.trod_lt m _ _ _ hm
  obtain ⟨xs0, s0⟩ := opens_sl Try.underlying22 opens_pieces (hval 0 22 v0 rfl rfl) h0
  clear hA0 hval0
  refine (LinkRight_walk W v0 xs0 s0).mono fun e W' ⟨he, bel⟩ => ?_
  subst he
  exact ⟨_, rfl, _, _, _, [], _, [], hW', trodAll_mk1 (shut_bool Try.underlying4 _), (trodAll_cons_mk (Below.trod laidOut (by kernel_rfl) (of_decide_eq_true (by kernel_rfl)) k0 bel lt0) trodAll_mk0), rfl, bel.frame _, fun h => by cases h⟩

/-- The given statement. -/
theorem LinkRight_holds : Rows.LinkRightSaid :=
  OpenClaim.holds_of_wide 5 Try.f5 rfl rfl rfl rfl rfl rfl rfl ⟨rfl, rfl, rfl, rfl, rfl⟩ rfl rfl rfl rfl rfl (by kernel_rfl) Try.func5 (by kernel_rfl)
    (of_decide_eq_true (by kernel_rfl)) (by unfold Func.isWrapper; rw [if_neg (by decide +kernel)]; exact ⟨rfl, rfl⟩)
    (fun os started H enc _ => LinkRight_lifted os started H enc)
#print axioms LinkRight_holds
end Go.Proofs.Ytegjcghcknpjeaa
