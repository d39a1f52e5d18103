import Derived.Test.YtbhhmfkipfedfaaW6
import Derived.RangeFuncNested
import Derived.RangeFuncBound
import Derived.RangeFuncCalls
import Derived.RangeFuncLeaves
import Derived.RangeFuncWrites
import Derived.RangeFuncBox
import Derived.OwnWalkIn
import Derived.TacticsInMore
import Derived.LoopNIn
import Derived.LoopIn
import Derived.BigRegionIn
namespace Go.Proofs.Ytbhhmfkipfedfaa
open Go.RowKit
attribute [local go_sem] Oper.semAt_some

/-- A function that holds a range over a function: its contract from its body. -/
theorem calls_marks {P : Program} {f : FuncId} {fn : Func} {c : Code} {args : Array Value} {w : World} {R : Ending → World → Prop} (hf : P.funcs[f]? = some fn) (hb : fn.body = some c)
    (h : c.wp P (bodyPostM Fence.wide 9 P fn R) { tmps := args ++ Array.replicate (fn.ntmps - args.size) undef, defers := [] } w) : Calls P f args w R :=
  callsIn_wide.1 (callsIn_of_wp_marks hf hb trivial (wpIn_wide.2 h) rfl)
/-- .. it leaves by a return, no range behind it. -/
theorem bodyPostM_ret {P : Program} {fn : Func} {R : Ending → World → Prop} {a : Act} {w : World} {v : Value} {n : Nat}
    (hr : (results fn a.tmps).run P w = .ok v w) (hd : a.defers = []) (hR : R (.returned v) w) : bodyPostM Fence.wide n P fn R .ret a w := by
  show LeavesInM Fence.wide n P fn a.tmps R a.defers .returning w
  rw [hd]; exact ⟨v, hr, hR⟩

/-- what slices.Backward hands to yield: a place and the number there -/
def backEnc (xs : List Int) (i : Fin xs.length) : Array Value := #[.int .i64 (i.1 : Int), .int .i64 xs[i.1]]

/-- Below block n₀, and at block Bs, the world is as it was. -/
def KeepAt (n₀ Bs : Nat) (W W' : World) : Prop := Below n₀ W W' ∧ W'.heap[Bs]? = W.heap[Bs]?
theorem keepAt_t {n₀ Bs : Nat} {A B C : World} (h : KeepAt n₀ Bs A B) (k : KeepAt n₀ Bs B C) : KeepAt n₀ Bs A C := ⟨h.1.trans k.1, k.2.trans h.2⟩
theorem keepAt_b {n₀ Bs : Nat} {w : World} (hn : n₀ ≤ w.heap.size) (hb : Bs < w.heap.size) (W : World) (l : Nat) (o o' : Obj) (hl : w.heap.size ≤ l) (h : W.heap[l]? = some o) (hc : o.isCells = false) (hw : o.isWalk = false) : KeepAt n₀ Bs W (W.putObj l o') :=
  ⟨belowK_b hn W l o o' hl h hc hw, (grownBy_putObj' W l o').block Bs (Nat.lt_of_lt_of_le hb (Nat.le_of_lt (Nat.lt_of_le_of_lt hl (Array.getElem?_eq_some_iff.1 h).1))) (fun e => by cases e; omega)⟩

set_option maxRecDepth 100000 in
set_option maxHeartbeats 2000000 in
theorem backward1_in (l Bs n₀ : Nat) (a : Option Addr) (cap : Nat) (xs : List Int) (hm : xs.length ≤ maxLen) (J Jx : List (Fin xs.length) → World → Prop)
    (hY : ∀ pre x W, J pre W → pre.length < xs.length → YieldAt Fence.wide 7 Try.prog l (backEnc xs x) W fun e W' =>
      (e = .returned (.bool true) ∧ J (pre ++ [x]) W' ∧ KeepAt n₀ Bs W W') ∨ (e = .returned (.bool false) ∧ Jx (pre ++ [x]) W'))
    (W : World) (hBs : Boxed W Bs 22 (.slice a xs.length cap)) (hc : ∀ W', Below n₀ W W' → IntsAt .i64 W' a xs) (h0 : J [] W) :
    CallsIn Fence.wide 8 Try.prog 32 #[.func (.yield l) #[] #[], .pointer (some ⟨Bs, 0, none⟩)] W fun e W' => (∃ v, e = .returned v) ∧
      ((∃ ys, ys = (List.finRange xs.length).reverse ∧ J ys W') ∨ (∃ pre, pre <+: (List.finRange xs.length).reverse ∧ Jx pre W')) := by
  unfold maxLen at hm
  refine callsIn_of_wp Try.func32 rfl trivial ?_ rfl
  simp only [Try.ntmps32, List.size_toArray, List.length_cons, List.length_nil, Nat.reduceAdd, Nat.reduceSub, Array.replicate_succ, Array.replicate_zero, List.push_toArray, List.append_toArray, List.nil_append, List.cons_append]
  have HC := Lib.hid hc; clear hc
  have hbx := hBs.cell
  gi_wp2
  gi_loopw [3] (fun i wr => ∃ (k : Nat) (c : Int), k ≤ xs.length ∧ i = .int .i64 c ∧ c = (k : Int) - 1 ∧ J ((List.finRange xs.length).reverse.take (xs.length - k)) wr ∧ KeepAt n₀ Bs W wr)
    (fun i _ => (intOf i + 1).toNat)
  case atStart => exact ⟨xs.length, _, Nat.le_refl _, rfl, rfl, by simpa using h0, Below.refl _ _, rfl⟩
  case round =>
    obtain ⟨k, c, hk, rfl, hcc, hJs, hnx⟩ := hrel
    have hbox : wr.cell? ⟨Bs, 0, none⟩ = some (.slice a xs.length cap) := Boxed.cell (hnx.2.trans hBs)
    clear hbx
    cases k with
    | zero =>
      obtain rfl : c = -1 := by omega
      clear hcc
      have HJ := Lib.hid hJs; clear hJs
      gi_wp2
      go_end0
      exact ⟨⟨_, rfl⟩, .inl ⟨_, rfl, by have := HJ.out; rw [Nat.sub_zero, List.take_of_length_le (by simp)] at this; exact this⟩⟩
    | succ j =>
      obtain rfl : c = (j : Int) := by omega
      have hj : j < xs.length := by omega
      clear hcc
      obtain ⟨b0, off, rfl, hcell⟩ := HC.out wr hnx.1 j hj
      have htk : (List.finRange xs.length).reverse.take (xs.length - (j + 1)) ++ [⟨j, hj⟩] = (List.finRange xs.length).reverse.take (xs.length - j) := by
        rw [show xs.length - j = (xs.length - (j + 1)) + 1 from by omega, List.take_succ_eq_append_getElem (by simp; omega)]
        congr 2
        apply Fin.ext
        simp
        omega
      obtain ⟨fn, tmps, assign, body, hy, hR⟩ := hY _ ⟨j, hj⟩ wr hJs (by simp; omega)
      rw [htk] at hR
      have HR := Lib.hid hR; clear hR hJs htk
      simp only [backEnc] at hy
      gi_wp2
      refine HR.out.mono ?_
      rintro e W3 (⟨rfl, hJ3, hk3⟩ | ⟨rfl, hJx3⟩)
      · gi_wp2
        go_roundw
        case rel => exact ⟨j, _, by omega, rfl, rfl, hJ3, keepAt_t hnx hk3⟩
        case measure => simp [intOf]
      · gi_wp2
        refine bodyPost_ret (results_none rfl _ _ _) rfl ?_
        exact ⟨⟨_, rfl⟩, .inr ⟨_, List.take_prefix _ _, hJx3⟩⟩

set_option maxHeartbeats 1000000 in
theorem backward_any (a : Option Addr) (len cap : Nat) (w : World) :
    Calls Try.prog 27 #[.slice a len cap] w fun e w' => e = .returned (.func (.func 32) #[] #[.pointer (some ⟨w.heap.size, 0, none⟩)]) ∧ w' = w.alloc (.cells #[.slice a len cap] 22) := by
  go_enter Try.func27, Try.ntmps27
  go_wp2
  go_ret
  exact ⟨rfl, rfl⟩

theorem backward_stops (Bs n₀ : Nat) (a : Option Addr) (cap : Nat) (xs : List Int) (hm : xs.length ≤ maxLen) (w : World) (hn₀ : n₀ ≤ w.heap.size)
    (hc : Boxed w Bs 22 (.slice a xs.length cap)) (hI : ∀ W', Below n₀ w W' → IntsAt .i64 W' a xs) :
    SeqStopsK Fence.wide 8 Try.prog 32 #[.pointer (some ⟨Bs, 0, none⟩)] (backEnc xs) (KeepAt n₀ Bs) (fun ys => ys = (List.finRange xs.length).reverse)
      (fun pre => pre <+: (List.finRange xs.length).reverse) xs.length w := fun l J Jx W hW _ _ hY h0 => by
  have hW' := hW.mono hn₀
  exact backward1_in l Bs n₀ a cap xs hm J Jx hY W ((hW.block Bs hc.lt).trans hc) (fun W' h => hI W' (hW'.trans h)) h0
end Go.Proofs.Ytbhhmfkipfedfaa
