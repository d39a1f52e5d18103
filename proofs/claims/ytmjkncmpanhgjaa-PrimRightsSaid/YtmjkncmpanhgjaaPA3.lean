import Derived.Test.YtmjkncmpanhgjaaPA2
import Derived.RangeFuncNested
import Derived.RangeFuncBound
import Derived.RangeFuncCalls
import Derived.RangeFuncLeaves
import Derived.RangeFuncWrites
import Derived.RangeFuncBox
import Derived.OwnWalkIn
import Derived.TacticsInMore
import Derived.LoopNIn
import Derived.LoopIn
import Derived.BigRegionIn
import Derived.Test.YtmjkncmpanhgjaaPA1
import Derived.OrdersHeld
import Derived.Deep.RegionHeld3
namespace Go.Proofs.Ytmjkncmpanhgjaa
set_option linter.unusedVariables false
set_option linter.unusedSimpArgs false
set_option maxRecDepth 100000
open Go.RowKit

set_option maxHeartbeats 1000000 in
theorem rindex_any (w : World) (a : Option Addr) (c : Nat) (xs : List Int) (p : Int) (hm : xs.length ≤ maxLen) (h : IntsAt .i64 w a xs) :
    Calls Try.prog 74 #[.slice a xs.length c, .int .i64 p] w fun e w' => RetRow w.heap.size (index xs p) e w' ∧ Below w.heap.size w w' := by
  have hq := rsize_any w a c xs hm h
  have hr : index xs p = if (size xs).2 = 0 then (if p < 0 ∨ (size xs).1 ≤ p then ([], 62) else (idx xs p, 0)) else ([], (size xs).2) := rfl
  unfold maxLen at hm
  unfold two at hq
  rcases size_err xs with he | ⟨n, he⟩
  · rw [he, if_neg (by simp)] at hr
    rw [he] at hq
    have Hq := Lib.hid hq; have Hr := Lib.hid hr; clear hq hr he h
    go_enter Try.func74, Try.ntmps74
    go_wp2_with (go_at_call 62; refine (Hq.out).mono ?_; rintro e w1 ⟨rfl, rfl⟩)
    go_ret2
    exact ⟨by rw [Hr.out]; exact ⟨_, rfl, RowI.nil _ _⟩, Below.refl _ _⟩
  · have g := size_good he
    rw [he, if_pos rfl] at hr
    rw [he] at hq
    have Hq := Lib.hid hq; have Hr := Lib.hid hr; clear hq hr he
    have HI := Lib.hid h; clear h
    by_cases hneg : p < 0
    · go_enter Try.func74, Try.ntmps74
      go_wp2_with (go_at_call 62; refine (Hq.out).mono ?_; rintro e w1 ⟨rfl, rfl⟩)
      go_ret2
      exact ⟨by rw [Hr.out, if_pos (Or.inl hneg)]; exact ⟨_, rfl, RowI.nil _ _⟩, Below.refl _ _⟩
    · have hneg' : decide (p < 0) = false := by simpa using hneg
      by_cases hbig : n ≤ p
      · go_enter Try.func74, Try.ntmps74
        go_wp2_with (go_at_call 62; refine (Hq.out).mono ?_; rintro e w1 ⟨rfl, rfl⟩)
        go_ret2
        exact ⟨by rw [Hr.out, if_pos (Or.inr hbig)]; exact ⟨_, rfl, RowI.nil _ _⟩, Below.refl _ _⟩
      · have hres : Hid (index xs p = (idx xs p, 0)) := by unfold Hid; rw [Hr.out, if_neg (by omega)]
        have hp0 : 0 ≤ p := by omega
        have hpos : ∀ x ∈ xs, 0 < x := fun x hx => by
          have := g.side x hx
          have : x ≠ 0 := fun e => by have := g.zero.2 ⟨x, hx, e⟩; omega
          omega
        have Hpos := Lib.hid hpos; clear hpos
        have hl4 := g.len
        obtain ⟨i0, hi, hz0, hz1, hz2⟩ := info_parts Try.info2
        have Hi := Lib.hid hi; have Hz0 := Lib.hid hz0; have Hz1 := Lib.hid hz1; have Hz2 := Lib.hid hz2; clear hi hz0 hz1 hz2
        go_enter Try.func74, Try.ntmps74
        go_wp2_with (first
          | (go_at_call 62; refine (Hq.out).mono ?_; rintro e w1 ⟨rfl, rfl⟩)
          | (at_make; refine wpList_make_full _ rfl _ _ 22 rfl w.heap.size 2 i0 (.int .i64 0) 1 Try.underlying22 Hi.out Hz0.out Hz1.out _ _ _ _ xs.length rfl rfl rfl rfl ?c2 ?c3 ?c4 ?_))
        case c2 => rw [Hz2.out]; omega
        case c3 => unfold maxLen; omega
        case c4 => exact Nat.le_refl _
        intro w1 hown hgrow
        rw [toList_madeCells_one] at hown
        have hB1 : Below w.heap.size w w1 := (Below.refl _ _).grown hgrow (Nat.le_refl _) (by simp)
        have Hown := Lib.hid hown; have HB1 := Lib.hid hB1; clear hown hgrow hB1
        go_wp2
        go_loopw [1, 9] (fun q i wr => ∃ (k : Nat) (cc : Int), k ≤ xs.length ∧ i = .int .i64 cc ∧ cc = (k : Int) - 1 ∧ q = .int .i64 (p / prodL (xs.drop k)) ∧
            wr.ownsRow w.heap.size 2 1 (.slice (some ⟨w.heap.size, 0, none⟩) xs.length xs.length) xs.length (List.replicate k (.int .i64 0) ++ (idx (xs.drop k) p).map (Value.int .i64)) ∧ Below w.heap.size w wr) (fun _ i _ => (intOf i + 1).toNat)
        case atStart => exact ⟨xs.length, _, Nat.le_refl _, rfl, rfl, by simp [prodL], by simpa [idx] using Hown.out, HB1.out⟩
        case round =>
          obtain ⟨k, cc, hk, rfl, hcc, rfl, hown, hB⟩ := hrel
          cases k with
          | zero =>
            obtain rfl : cc = -1 := by omega
            have Hown2 := Lib.hid hown; clear hown hcc
            go_wp2
            go_ret2
            refine ⟨?_, hB⟩
            rw [hres.out]
            refine ⟨_, rfl, ?_⟩
            have := Hown2.out
            simp only [List.replicate_zero, List.nil_append, List.drop_zero] at this
            unfold RowI
            rw [length_idx]
            exact this
          | succ j =>
            obtain rfl : cc = (j : Int) := by omega
            have hj : j < xs.length := by omega
            obtain ⟨b0, off, rfl, hcell0⟩ := HI.out j hj
            have hb0 := World.block_lt_of_cell? w _ hcell0
            have hcell := (hB.cell (p := ⟨b0, off + j, none⟩) hb0).trans hcell0
            have hcellS : ∀ u, (wr.setCell ⟨w.heap.size, j, none⟩ u).cell? ⟨b0, off + j, none⟩ = some (.int .i64 xs[j]) :=
              fun u => (((Below.refl w.heap.size wr).setCell (p := ⟨w.heap.size, j, none⟩) (Nat.le_refl _) u).cell (p := ⟨b0, off + j, none⟩) hb0).trans hcell
            clear hcell0
            have hd0 : 0 ≤ p / prodL (xs.drop (j + 1)) := Int.ediv_nonneg hp0 (Int.le_of_lt (prodL_pos fun x hx => Hpos.out x (List.mem_of_mem_drop hx)))
            have hple : p ≤ 65536 := by have := g.le; omega
            have hd1 : p / prodL (xs.drop (j + 1)) ≤ 65536 := Int.le_trans (Int.ediv_le_self _ hp0) hple
            have hx0 : 0 < xs[j] := Hpos.out _ (List.getElem_mem hj)
            have hq0 : 0 ≤ p / prodL (xs.drop (j + 1)) / xs[j] := Int.ediv_nonneg hd0 (by omega)
            have hq1 : p / prodL (xs.drop (j + 1)) / xs[j] ≤ 65536 := Int.le_trans (Int.ediv_le_self _ hd0) hd1
            have hc := hown.cellAt j (by omega)
            have hc' : wr.cell? ⟨w.heap.size, j, none⟩ = some (.int .i64 0) := by rw [hc]; rw [List.getElem?_append_left (by simp)]; simp
            have hf := hown.frozenAt j
            have hst := hown.stored j (.int .i64 (p / prodL (xs.drop (j + 1)) % xs[j]))
            rw [set_replicate] at hst
            have Hst := Lib.hid hst
            clear hown hc hst hcc
            go_wp2
            go_roundw
            case rel =>
              refine ⟨j, _, by omega, rfl, rfl, ?_, ?_, hB.setCell (p := ⟨w.heap.size, j, none⟩) (Nat.le_refl _) _⟩
              · rw [prodL_drop hj, Int.ediv_ediv_of_nonneg (Int.le_of_lt (prodL_pos fun x hx => Hpos.out x (List.mem_of_mem_drop hx)))]
              · rw [idx_drop hj]; exact Hst.out.1
            case measure => simp [intOf]
end Go.Proofs.Ytmjkncmpanhgjaa

namespace Go.Proofs.Ytmjkncmpanhgjaa
set_option linter.unusedVariables false
set_option linter.unusedSimpArgs false
set_option maxRecDepth 100000
open Go.RowKit
attribute [local go_sem] Oper.semAt_some

/-- A function that holds a range over a function: its contract from its body. -/
theorem calls_marks {P : Program} {f : FuncId} {fn : Func} {c : Code} {args : Array Value} {w : World} {R : Ending → World → Prop} (hf : P.funcs[f]? = some fn) (hb : fn.body = some c)
    (h : c.wp P (bodyPostM Fence.wide 9 P fn R) { tmps := args ++ Array.replicate (fn.ntmps - args.size) undef, defers := [] } w) : Calls P f args w R :=
  callsIn_wide.1 (callsIn_of_wp_marks hf hb trivial (wpIn_wide.2 h) rfl)
/-- .. it leaves by a return, no range behind it. -/
theorem bodyPostM_ret {P : Program} {fn : Func} {R : Ending → World → Prop} {a : Act} {w : World} {v : Value} {n : Nat}
    (hr : (results fn a.tmps).run P w = .ok v w) (hd : a.defers = []) (hR : R (.returned v) w) : bodyPostM Fence.wide n P fn R .ret a w := by
  show LeavesInM Fence.wide n P fn a.tmps R a.defers .returning w
  rw [hd]; exact ⟨v, hr, hR⟩

/-- what slices.Backward hands to yield: a place and the number there -/
def backEnc (xs : List Int) (i : Fin xs.length) : Array Value := #[.int .i64 (i.1 : Int), .int .i64 xs[i.1]]

/-- Below block n₀, and at block Bs, the world is as it was. -/
def KeepAt (n₀ Bs : Nat) (W W' : World) : Prop := Below n₀ W W' ∧ W'.heap[Bs]? = W.heap[Bs]?
theorem keepAt_t {n₀ Bs : Nat} {A B C : World} (h : KeepAt n₀ Bs A B) (k : KeepAt n₀ Bs B C) : KeepAt n₀ Bs A C := ⟨h.1.trans k.1, k.2.trans h.2⟩
theorem keepAt_b {n₀ Bs : Nat} {w : World} (hn : n₀ ≤ w.heap.size) (hb : Bs < w.heap.size) (W : World) (l : Nat) (o o' : Obj) (hl : w.heap.size ≤ l) (h : W.heap[l]? = some o) (hc : o.isCells = false) (hw : o.isWalk = false) : KeepAt n₀ Bs W (W.putObj l o') :=
  ⟨belowK_b hn W l o o' hl h hc hw, (grownBy_putObj' W l o').block Bs (Nat.lt_of_lt_of_le hb (Nat.le_of_lt (Nat.lt_of_le_of_lt hl (Array.getElem?_eq_some_iff.1 h).1))) (fun e => by cases e; omega)⟩

set_option maxRecDepth 100000 in
set_option maxHeartbeats 2000000 in
theorem backward1_in (l Bs n₀ : Nat) (a : Option Addr) (cap : Nat) (xs : List Int) (hm : xs.length ≤ maxLen) (J Jx : List (Fin xs.length) → World → Prop)
    (hY : ∀ pre x W, J pre W → pre.length < xs.length → YieldAt Fence.wide 7 Try.prog l (backEnc xs x) W fun e W' =>
      (e = .returned (.bool true) ∧ J (pre ++ [x]) W' ∧ KeepAt n₀ Bs W W') ∨ (e = .returned (.bool false) ∧ Jx (pre ++ [x]) W'))
    (W : World) (hBs : Boxed W Bs 22 (.slice a xs.length cap)) (hc : ∀ W', Below n₀ W W' → IntsAt .i64 W' a xs) (h0 : J [] W) :
    CallsIn Fence.wide 8 Try.prog 94 #[.func (.yield l) #[] #[], .pointer (some ⟨Bs, 0, none⟩)] W fun e W' => (∃ v, e = .returned v) ∧
      ((∃ ys, ys = (List.finRange xs.length).reverse ∧ J ys W') ∨ (∃ pre, pre <+: (List.finRange xs.length).reverse ∧ Jx pre W')) := by
  unfold maxLen at hm
  refine callsIn_of_wp Try.func94 rfl trivial ?_ rfl
  simp only [Try.ntmps94, List.size_toArray, List.length_cons, List.length_nil, Nat.reduceAdd, Nat.reduceSub, Array.replicate_succ, Array.replicate_zero, List.push_toArray, List.append_toArray, List.nil_append, List.cons_append]
  have HC := Lib.hid hc; clear hc
  have hbx := hBs.cell
  gi_wp2
  gi_loopw [3] (fun i wr => ∃ (k : Nat) (c : Int), k ≤ xs.length ∧ i = .int .i64 c ∧ c = (k : Int) - 1 ∧ J ((List.finRange xs.length).reverse.take (xs.length - k)) wr ∧ KeepAt n₀ Bs W wr)
    (fun i _ => (intOf i + 1).toNat)
  case atStart => exact ⟨xs.length, _, Nat.le_refl _, rfl, rfl, by simpa using h0, Below.refl _ _, rfl⟩
  case round =>
    obtain ⟨k, c, hk, rfl, hcc, hJs, hnx⟩ := hrel
    have hbox : wr.cell? ⟨Bs, 0, none⟩ = some (.slice a xs.length cap) := Boxed.cell (hnx.2.trans hBs)
    clear hbx
    cases k with
    | zero =>
      obtain rfl : c = -1 := by omega
      clear hcc
      have HJ := Lib.hid hJs; clear hJs
      gi_wp2
      go_end0
      exact ⟨⟨_, rfl⟩, .inl ⟨_, rfl, by have := HJ.out; rw [Nat.sub_zero, List.take_of_length_le (by simp)] at this; exact this⟩⟩
    | succ j =>
      obtain rfl : c = (j : Int) := by omega
      have hj : j < xs.length := by omega
      clear hcc
      obtain ⟨b0, off, rfl, hcell⟩ := HC.out wr hnx.1 j hj
      have htk : (List.finRange xs.length).reverse.take (xs.length - (j + 1)) ++ [⟨j, hj⟩] = (List.finRange xs.length).reverse.take (xs.length - j) := by
        rw [show xs.length - j = (xs.length - (j + 1)) + 1 from by omega, List.take_succ_eq_append_getElem (by simp; omega)]
        congr 2
        apply Fin.ext
        simp
        omega
      obtain ⟨fn, tmps, assign, body, hy, hR⟩ := hY _ ⟨j, hj⟩ wr hJs (by simp; omega)
      rw [htk] at hR
      have HR := Lib.hid hR; clear hR hJs htk
      simp only [backEnc] at hy
      gi_wp2
      refine HR.out.mono ?_
      rintro e W3 (⟨rfl, hJ3, hk3⟩ | ⟨rfl, hJx3⟩)
      · gi_wp2
        go_roundw
        case rel => exact ⟨j, _, by omega, rfl, rfl, hJ3, keepAt_t hnx hk3⟩
        case measure => simp [intOf]
      · gi_wp2
        refine bodyPost_ret (results_none rfl _ _ _) rfl ?_
        exact ⟨⟨_, rfl⟩, .inr ⟨_, List.take_prefix _ _, hJx3⟩⟩

set_option maxHeartbeats 1000000 in
theorem backward_any (a : Option Addr) (len cap : Nat) (w : World) :
    Calls Try.prog 89 #[.slice a len cap] w fun e w' => e = .returned (.func (.func 94) #[] #[.pointer (some ⟨w.heap.size, 0, none⟩)]) ∧ w' = w.alloc (.cells #[.slice a len cap] 22) := by
  go_enter Try.func89, Try.ntmps89
  go_wp2
  go_ret
  exact ⟨rfl, rfl⟩

theorem backward_stops (Bs n₀ : Nat) (a : Option Addr) (cap : Nat) (xs : List Int) (hm : xs.length ≤ maxLen) (w : World) (hn₀ : n₀ ≤ w.heap.size)
    (hc : Boxed w Bs 22 (.slice a xs.length cap)) (hI : ∀ W', Below n₀ w W' → IntsAt .i64 W' a xs) :
    SeqStopsK Fence.wide 8 Try.prog 94 #[.pointer (some ⟨Bs, 0, none⟩)] (backEnc xs) (KeepAt n₀ Bs) (fun ys => ys = (List.finRange xs.length).reverse)
      (fun pre => pre <+: (List.finRange xs.length).reverse) xs.length w := fun l J Jx W hW _ _ hY h0 => by
  have hW' := hW.mono hn₀
  exact backward1_in l Bs n₀ a cap xs hm J Jx hY W ((hW.block Bs hc.lt).trans hc) (fun W' h => hI W' (hW'.trans h)) h0
end Go.Proofs.Ytmjkncmpanhgjaa

namespace Go
set_option linter.unusedVariables false
set_option linter.unusedSimpArgs false
section
variable {P : Program} {ops : Array Oper} {Q : Exit → Act → World → Prop} {md : Region.Mode} {S : World → Prop} {z : Nat}

/-- Whatever order is picked from here on, and S holds behind every operation ahead of number z. -/
def wpAnyZ (P : Program) (md : Region.Mode) (ops : Array Oper) (Q : Exit → Act → World → Prop) (S : World → Prop) (z : Nat) : Nat → Array Bool → Act → World → Prop
  | 0, listed, a, w => Region.ready md ops listed = [] ∧ Q .normal a w
  | fuel + 1, listed, a, w =>
    (Region.ready md ops listed = [] → Q .normal a w) ∧
    ∀ i ∈ Region.ready md ops listed, wpOp P ops Q i (fun a' w' => (z ≤ i ∨ S w') ∧ wpAnyZ P md ops Q S z fuel (listed.setIfInBounds i true) a' w') a w

theorem wpAny_of_Z : ∀ (fuel : Nat) (listed : Array Bool) (a : Act) (w : World), wpAnyZ P md ops Q S z fuel listed a w → wpAny P md ops Q fuel listed a w
  | 0, _, _, _, h => h
  | fuel + 1, _, _, _, h => ⟨h.1, fun i hi => wpOp_mono (fun a' w' h' => wpAny_of_Z fuel _ a' w' h'.2) (h.2 i hi)⟩

theorem wpAnyZ_first {i : Nat} {oi : Oper} {v : Value} (hi : ops[i]? = some oi) (hsel : ∀ (j : Nat) (o : Oper) cs b, ops[j]? = some o → o.op ≠ .select cs b)
    (hQ : ∀ c a w, Q (.panic c) (a.put oi.dst v) w → Q (.panic c) a w) (hz : ∀ j, z ≤ j → ∀ oz, ops[j]? = some oz → ∃ e ∈ oz.after, Region.binds md e = true ∧ e.on = i) :
    ∀ (fuel : Nat) (listed : Array Bool) (a : Act) (w : World),
      (∀ j oj, ops[j]? = some oj → j ≠ i → listed.getD j true = false → (∀ e ∈ oj.after, Region.binds md e = true → e.on ≠ i) → oi.apart ops oj = true) →
      i ∈ Region.ready md ops listed → YieldsIf P ops S oi v a → S w →
      wpAnyZ P md ops Q S z fuel (listed.setIfInBounds i true) (a.put oi.dst v) w → wpAnyZ P md ops Q S z (fuel + 1) listed a w := by
  intro fuel
  induction fuel with
  | zero =>
    intro listed a w _ hr hy hS H
    refine ⟨fun h => (by rw [h] at hr; cases hr), fun j hj => ?_⟩
    by_cases hji : j = i
    · subst hji; exact hy.wpOp hi hS ⟨.inr hS, H⟩
    · have := ready_mono hj hji
      rw [H.1] at this
      cases this
  | succ fuel ih =>
    intro listed a w hfree hr hy hS H
    refine ⟨fun h => (by rw [h] at hr; cases hr), fun j hj => ?_⟩
    by_cases hji : j = i
    · subst hji; exact hy.wpOp hi hS ⟨.inr hS, H⟩
    · have h1 := H.2 j (ready_mono hj hji)
      obtain ⟨hjun, oj, hoj, hall⟩ := mem_ready.1 hj
      have hnot : ∀ e ∈ oj.after, Region.binds md e = true → e.on ≠ i := fun e he hb heq => by
        have h1 := hall e he hb
        have h0 := (mem_ready.1 hr).1
        rw [heq] at h1
        rcases Nat.lt_or_ge i listed.size with h' | h'
        · simp [h'] at h0 h1; rw [h0] at h1; cases h1
        · simp [Array.getElem?_eq_none h'] at h1
      have hjz : ¬ z ≤ j := fun hzj => by
        obtain ⟨e, he, hb, hon⟩ := hz j hzj oj hoj
        exact hnot e he hb hon
      have h2 := wpOp_putIf hoj (hfree j oj hoj hji hjun hnot) (fun cs b => hsel i oi cs b hi) (fun cs b => hsel j oj cs b hoj) hQ hy h1
      have hfree' : ∀ k ok, ops[k]? = some ok → k ≠ i → (listed.setIfInBounds j true).getD k true = false →
          (∀ e ∈ ok.after, Region.binds md e = true → e.on ≠ i) → oi.apart ops ok = true := fun k ok hk hki hun hno => by
        refine hfree k ok hk hki ?_ hno
        by_cases hjk : j = k
        · subst hjk; exact hjun
        · rw [getD_set_ne true hjk] at hun; exact hun
      refine wpOp_mono (fun a' w' h3 => ⟨h3.2.1, ih (listed.setIfInBounds j true) a' w' hfree' (ready_mono hr (Ne.symm hji)) h3.1 (h3.2.1.resolve_left hjz) ?_⟩) h2
      rw [Array.setIfInBounds_comm _ _ hji]
      exact h3.2.2

/-- all from number z on wait for number i -/
def waitsB (md : Region.Mode) (ops : Array Oper) (z i : Nat) : Bool := (ops.toList.drop z).all fun oz => oz.after.any fun e => Region.binds md e && e.on == i
theorem waitsB_spec {i : Nat} (h : waitsB md ops z i = true) : ∀ j, z ≤ j → ∀ oz, ops[j]? = some oz → ∃ e ∈ oz.after, Region.binds md e = true ∧ e.on = i := by
  intro j hj oz ho
  unfold waitsB at h
  have hm : oz ∈ ops.toList.drop z := by
    refine List.mem_of_getElem? (i := j - z) ?_
    rw [List.getElem?_drop, show z + (j - z) = j from by omega]
    simpa using ho
  have h2 := List.all_eq_true.1 h oz hm
  obtain ⟨e, he, hb⟩ := Array.any_eq_true'.1 h2
  simp only [Bool.and_eq_true, beq_iff_eq] at hb
  exact ⟨e, he, hb⟩

theorem wpAnyZ_take {i : Nat} {oi : Oper} {v : Value} {fuel : Nat} {listed : Array Bool} {a : Act} {w : World} (hi : ops[i]? = some oi)
    (hs : Region.noSelect ops = true) (hf : Region.free md ops listed i = true) (hr : (Region.ready md ops listed).contains i = true)
    (hQ : ∀ c a w, Q (.panic c) (a.put oi.dst v) w → Q (.panic c) a w) (hw : waitsB md ops z i = true) (hy : YieldsIf P ops S oi v a) (hS : S w)
    (h : wpAnyZ P md ops Q S z fuel (listed.setIfInBounds i true) (a.put oi.dst v) w) : wpAnyZ P md ops Q S z (fuel + 1) listed a w :=
  wpAnyZ_first hi (Region.noSelect_spec hs) hQ (waitsB_spec hw) fuel listed a w (Region.free_spec hi hf) (by simpa using hr) hy hS h

/-- The one that may come up comes up. -/
theorem wpAnyZ_one {i : Nat} {o : Oper} {fuel : Nat} {listed : Array Bool} {a : Act} {w : World} (hr : Region.ready md ops listed = [i]) (ho : ops[i]? = some o) (hg : o.guard = none)
    (h : ∀ K : Act → World → Prop, Shut (∀ a w, (z ≤ i ∨ S w) → wpAnyZ P md ops Q S z fuel (listed.setIfInBounds i true) a w → K a w) → o.wp P a w K Q) : wpAnyZ P md ops Q S z (fuel + 1) listed a w := by
  refine ⟨fun h0 => (by rw [hr] at h0; cases h0), fun j hj => ?_⟩
  rw [hr] at hj
  obtain rfl : j = i := by simpa using hj
  unfold wpOp
  rw [ho]
  simp only [Region.wanted, hg, if_true]
  exact .inl (h _ (fun a w h1 h2 => ⟨h1, h2⟩))

theorem wpAnyZ_done {listed : Array Bool} {a : Act} {w : World} (hr : Region.ready md ops listed = []) (h : Q .normal a w) : ∀ fuel, wpAnyZ P md ops Q S z fuel listed a w
  | 0 => ⟨hr, h⟩
  | _ + 1 => ⟨fun _ => h, by rw [hr]; simp⟩

theorem wp_region_Z {id : Nat} {a : Act} {w : World} (hm : P.follows .mixedOrders = true) (h : wpAnyZ P .any ops Q S z ops.size (Array.replicate ops.size false) a w.drew) : (Code.region id ops true).wp P Q a w :=
  wp_region_any hm (wpAny_of_Z _ _ _ _ h)
end
end Go

namespace Go
set_option linter.unusedVariables false
set_option linter.unusedSimpArgs false
/-- In a round of a range over a function, at the fence that asks nothing: an operation goes as everywhere. -/
theorem Oper.wpIn_round {P : Program} {o : Oper} {a : Act} {w : World} {K : Act → World → Prop} {Q : Exit → Act → World → Prop} (l n : Nat) (hd : ∀ c, o.op ≠ .defer c) (h : o.wp P a w K Q) :
    o.wpIn (Fence.wide.inRound l) n P a w K Q := by
  refine ⟨fun _ _ => trivial, ?_⟩
  unfold Oper.wp at h
  rw [show (Fence.wide.inRound l).round = some l from rfl, Oper.semAt_some l a.eval o hd]
  generalize (execOp a.eval o).run P w = r at h ⊢
  cases r with
  | ok nx w' =>
    cases nx with
    | value v => exact h
    | skip => exact h
    | defer d => exact h
    | enter f args => exact ⟨fun e => absurd e (by simp [Fence.wide, Fence.inRound]), CallsIn.inRound l (callsIn_wide.2 h)⟩
    | row row args => exact ⟨fun e => absurd e (by simp [Fence.wide, Fence.inRound]), fun c cs _ => let ⟨v, w2, hr, hs⟩ := h c cs; ⟨v, w2, hr, stepsIn_wide.2 hs⟩⟩
    | _ => exact h.elim
  | halt x w' =>
    cases x <;> first | exact h | exact h.elim

theorem wpAnyIn_round {P : Program} {ops : Array Oper} {Q : Exit → Act → World → Prop} {md : Region.Mode} (l n : Nat) (hd : ∀ (i : Nat) (o : Oper), ops[i]? = some o → ∀ c, o.op ≠ .defer c) (hout : ¬ LetsOut Q) :
    ∀ (fuel : Nat) (listed : Array Bool) (a : Act) (w : World), wpAny P md ops Q fuel listed a w → wpAnyIn (Fence.wide.inRound l) n P md ops Q fuel listed a w
  | 0, _, _, _, h => h
  | fuel + 1, listed, a, w, h => ⟨h.1, fun i hi => by
      have hh := h.2 i hi
      unfold wpOp at hh
      unfold wpOpIn
      split
      · rename_i ho; simp only [ho] at hh; exact wpAnyIn_round l n hd hout fuel _ _ _ hh
      · rename_i o ho
        simp only [ho] at hh
        by_cases hw : Region.wanted o (yielded ops a.tmps) = true
        · rw [if_pos hw] at hh ⊢
          rcases hh with hh | hh
          · exact Oper.wpIn_mono (fun a' w' h' => wpAnyIn_round l n hd hout fuel _ a' w' h') (Oper.wpIn_round l n (hd i o ho) hh)
          · exact absurd hh.2 hout
        · rw [if_neg hw] at hh ⊢
          exact ⟨fun _ _ => trivial, wpAnyIn_round l n hd hout fuel _ _ _ hh⟩⟩

/-- A region that draws its order, in a round: by what holds of every world in it. -/
theorem wpIn_region_round {P : Program} {id : Nat} {ops : Array Oper} {Q : Exit → Act → World → Prop} {S : World → Prop} {a : Act} {w : World} (l n : Nat) (hm : P.follows .mixedOrders = true)
    (hd : ops.all (fun o => match o.op with | .defer _ => false | _ => true) = true) (hout : ¬ LetsOut Q) (hS : S w.drew)
    (h : S w.drew → wpAnyH P .any ops Q S ops.size (Array.replicate ops.size false) a w.drew) : (Code.region id ops true).wpIn (Fence.wide.inRound l) n P Q a w :=
  wpIn_region_any hm (wpAnyIn_round l n (fun i o ho c e => by
    have := Array.all_eq_true.1 hd i (Array.getElem?_eq_some_iff.1 ho).1
    rw [(Array.getElem?_eq_some_iff.1 ho).2, e] at this
    cases this) hout _ _ _ _ (wpAny_of_held _ _ _ _ (h hS)))

section
variable {P : Program} {ops : Array Oper} {Q : Exit → Act → World → Prop} {md : Region.Mode} {S : World → Prop} {z : Nat}
theorem wpIn_region_roundZ {id : Nat} {a : Act} {w : World} (l n : Nat) (hm : P.follows .mixedOrders = true)
    (hd : ops.all (fun o => match o.op with | .defer _ => false | _ => true) = true) (hout : ¬ LetsOut Q)
    (h : wpAnyZ P .any ops Q S z ops.size (Array.replicate ops.size false) a w.drew) : (Code.region id ops true).wpIn (Fence.wide.inRound l) n P Q a w :=
  wpIn_region_any hm (wpAnyIn_round l n (fun i o ho c e => by
    have := Array.all_eq_true.1 hd i (Array.getElem?_eq_some_iff.1 ho).1
    rw [(Array.getElem?_eq_some_iff.1 ho).2, e] at this
    cases this) hout _ _ _ _ (wpAny_of_Z _ _ _ _ h))
end
end Go
