import Derived.Test.YtegjcghcknpjeaaBase
import Derived.WalkSpells
namespace Go.Proofs.Ytegjcghcknpjeaa
open Go.RowKit

theorem eqlNil (w : World) (a : Option Addr) (l c : Nat) : (binOp .eql 43 (.slice a l c) (.slice none 0 0)).run Try.prog w = .ok (.bool a.isNone) w := Lib.run_eql_slice_nil w 43 2 a l c 0 0 Try.underlying43

set_option maxHeartbeats 1000000 in
theorem clone_any (w : World) (a : Option Addr) (c : Nat) (xs : List Int) (hm : xs.length ≤ 17592186044416) (h : IntsAt .i64 w a xs) :
    Calls Try.prog 35 #[.slice a xs.length c] w fun e w' => (∃ v, e = .returned v ∧ RowI w.heap.size w' v xs) ∧ Below w.heap.size w w' := by
  obtain ⟨i0, hi, hz0, hz1, hz2⟩ := info_parts Try.info2
  cases a with
  | none =>
    have hx : xs = [] := by
      cases xs with
      | nil => rfl
      | cons x xs => obtain ⟨b, off, e, _⟩ := h 0 (by simp); cases e
    subst hx
    clear h hm hi hz0 hz1 hz2
    have hn := eqlNil w none 0 c
    go_enter Try.func35, Try.ntmps35
    go_wp2
    go_ret
    exact ⟨⟨_, rfl, RowI.nil _ _⟩, Below.refl _ _⟩
  | some ad =>
    have Hi := Lib.hid hi; have Hz0 := Lib.hid hz0; have Hz1 := Lib.hid hz1; have Hz2 := Lib.hid hz2; clear hi hz0 hz1 hz2
    have hsrc : ∀ j v, (xs.map (Value.int .i64))[j]? = some v → w.cell? (ad.add j) = some v := by
      by_cases h0 : 0 < xs.length
      · obtain ⟨ad', e, hs⟩ := h.src h0
        cases e; exact hs
      · have : xs = [] := by cases xs <;> simp_all
        subst this; simp
    have Hs := Lib.hid hsrc; clear hsrc h
    have hn := eqlNil w (some ad) xs.length c
    go_enter Try.func35, Try.ntmps35
    go_wp2_with (at_builtin; (refine wpList_append_own _ rfl _ _ 43 rfl w.heap.size 2 i0 (.int .i64 0) 1 8 Try.underlying43 Hi.out Hz0.out Hz1.out Hz2.out rfl (by decide) _ 0 [] rfl (World.ownsRow_made w #[] 0 (Nat.le_refl _) (Nat.zero_le _) rfl) ad xs.length c (xs.map (Value.int .i64)) rfl (by simp) (fun j v hj => (World.cell?_alloc_lt _ _ _ (World.block_lt_of_cell? w _ (Hs.out j v hj))).trans (Hs.out j v hj)) (oneCell_ints _ _) (by unfold maxLen; omega) (by omega) (by simp) ?_))
    intro v' w1 hown hgrow _
    have HO := Lib.hid hown; have HG := Lib.hid hgrow; clear hown hgrow
    go_wp2
    go_ret
    refine ⟨⟨_, rfl, HO.out⟩, ?_⟩
    exact ((Below.refl w.heap.size w).alloc (Nat.le_refl _) _).grown HG.out (by simp) (fun k e => by cases e; exact Nat.le_refl _)

theorem clone_n (w : World) (a : Option Addr) (n c : Nat) (xs : List Int) (hn : n = xs.length) (hm : xs.length ≤ 17592186044416) (h : IntsAt .i64 w a xs) :
    Calls Try.prog 35 #[.slice a n c] w fun e w' => (∃ v, e = .returned v ∧ RowI w.heap.size w' v xs) ∧ Below w.heap.size w w' := by
  subst hn; exact clone_any w a c xs hm h

end Go.Proofs.Ytegjcghcknpjeaa
