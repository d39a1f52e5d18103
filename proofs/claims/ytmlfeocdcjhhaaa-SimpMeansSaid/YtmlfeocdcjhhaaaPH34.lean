import Derived.Test.YtmlfeocdcjhhaaaPH33
import Derived.Recover
import Derived.Defers
namespace Go.Proofs.Ytmlfeocdcjhhaaa
set_option maxRecDepth 100000
open Go.RowKit
set_option linter.unusedVariables false
set_option linter.unusedSimpArgs false
attribute [local go_sem ↓] Go.wp_at_zero Go.wp_at_succ

section
variable {wB : World} {O : Nat → Prop} {N M : Nat} {q : MQ} {D : List Int} {vals : List Value} {w w' : World} {mem : List (List Int)}
theorem RunS.out (h : RunS wB O N M q D vals w mem) (hb : Below w.heap.size w w') : RunS wB O N M q D vals w' mem :=
  ⟨h.mac.out hb, h.rows.out hb, h.memI, h.memN, h.sep, h.below.trans (hb.mono h.below.size), h.old, h.dis, h.t0, h.t1⟩
/-- behind load -/
theorem RunS.of_load (h : LoadI w M q D N vals mem w') (hwB : Below wB.heap.size wB w) (hMB : wB.heap.size ≤ M) (hM : M < w.heap.size) (hO : ∀ g, g < wB.heap.size → O g) (hOM : ¬ O M) (hOw : ∀ g, O g → g < w.heap.size) (ht : q.t = 0) : RunS wB O N M q D vals w' mem := by
  have hs := h.kb.size
  refine ⟨⟨⟨_, h.row, RowI.nil _ _, fun g e => by cases e⟩, fun e => ?_, fun g e => ?_, fun x hx => by cases hx⟩, h.rows, h.memI, h.len, h.sep, hwB.trans (h.kb.below hwB.size (fun g e => e ▸ hMB)), hO, fun g e1 e2 => ?_, by rw [ht]; decide, by rw [ht]; decide⟩
  · rcases e with e | e
    · exact hOM e
    · have := h.new M e; omega
  · rcases e with e | e
    · have := hOw g e; omega
    · exact (h.new g e).2
  · have := hOw g e1; have := h.new g e2; omega
end
theorem errno_as (e : Int) (w : World) : (Instr.typeAssert (.iface 24 (.int .i64 e)) 20 24 true).run Try.prog w = .ok (.tuple #[.int .i64 e, .bool true]) w := by kernel_rfl
theorem rcatch_idle (p q : Addr) (w : World) :
    CallsD Try.prog 40 #[.pointer (some p), .pointer (some q)] .returning w fun e u' w' => e = .returned (.tuple #[]) ∧ u' = .returning ∧ w' = w := by
  refine callsD_of_wpS Try.func40 rfl fun c₀ cs hu => ?_
  apply wpS_seq
  apply wpS_region
  simp [wpOpsS, go_sem, recoverD, hu, Try.ntmps40, Exit.thenS]
  refine wpS_of_wp ?_
  show Code.wp Try.prog _ _ { tmps := #[.pointer (some p), .pointer (some q), undef, undef, undef, .nilIface, undef, undef, undef, undef, undef, undef], defers := [] } w
  go_wp2_with fail
  cases c₀
  simp_all [bodyPostS, results, Try.results40]
theorem rcatch (ob eb : Nat) (w : World) (v0 : Value) (e0 e : Int) (h1 : w.heap[ob]? = some (.cells #[v0] 55 (0, 0))) (h2 : w.heap[eb]? = some (.cells #[.int .i64 e0] 24 (0, 0))) (hne : ob ≠ eb) :
    CallsD Try.prog 40 #[.pointer (some ⟨ob, 0, none⟩), .pointer (some ⟨eb, 0, none⟩)] (.panicking ({ v := .iface 24 (.int .i64 e), recovered := false } :: [])) w fun x u' w' =>
      x = .returned (.tuple #[]) ∧ u' = .panicking ({ v := .iface 24 (.int .i64 e), recovered := true } :: []) ∧
        w'.heap[ob]? = some (.cells #[.slice none 0 0] 55 (0, 0)) ∧ w'.heap[eb]? = some (.cells #[.int .i64 e] 24 (0, 0)) ∧ KB (fun g => g = ob ∨ g = eb) w w' := by
  have has := errno_as e
  have x0 := cell_of_row w ob 0 _ _ _ h1; have x1 := cell_of_row w eb 0 _ _ _ h2
  have f0 := frozen_of_row w ob 0 _ _ h1; have f1 := frozen_of_row w eb 0 _ _ h2
  have h3 : (w.setCell ⟨ob, 0, none⟩ (.slice none 0 0)).heap[eb]? = some (.cells #[.int .i64 e0] 24 (0, 0)) := block_other h2 hne _
  have h4 : ((w.setCell ⟨ob, 0, none⟩ (.slice none 0 0)).setCell ⟨eb, 0, none⟩ (.int .i64 e)).heap[ob]? = some (.cells #[.slice none 0 0] 55 (0, 0)) :=
    block_other (by rw [heap_setCell_same w ob 0 _ _ _ h1]; rfl) (p := ⟨eb, 0, none⟩) (Ne.symm hne) _
  have h5 : ((w.setCell ⟨ob, 0, none⟩ (.slice none 0 0)).setCell ⟨eb, 0, none⟩ (.int .i64 e)).heap[eb]? = some (.cells #[.int .i64 e] 24 (0, 0)) := by
    rw [heap_setCell_same _ eb 0 _ _ _ h3]; rfl
  have h6 : KB (fun g => g = ob ∨ g = eb) w ((w.setCell ⟨ob, 0, none⟩ (.slice none 0 0)).setCell ⟨eb, 0, none⟩ (.int .i64 e)) :=
    ((KB.refl _ w).setCell (p := ⟨ob, 0, none⟩) (fun _ => .inl rfl) _).setCell (p := ⟨eb, 0, none⟩) (fun _ => .inr rfl) _
  have x3 := cell_of_row _ eb 0 _ _ _ h3; have f3 := frozen_of_row _ eb 0 _ _ h3
  have H4 := Lib.hid h4; have H5 := Lib.hid h5; have H6 := Lib.hid h6
  clear h1 h2 h3 h4 h5 h6
  refine callsD_of_wpS Try.func40 rfl fun c₀ cs hu => ?_
  apply wpS_seq
  apply wpS_region
  simp [wpOpsS, go_sem, recoverD, hu, Try.ntmps40, Exit.thenS]
  refine wpS_of_wp ?_
  show Code.wp Try.prog _ _ { tmps := #[.pointer (some ⟨ob, 0, none⟩), .pointer (some ⟨eb, 0, none⟩), undef, undef, undef, .iface 24 (.int .i64 e), undef, undef, undef, undef, undef, undef], defers := [] } w
  go_wp2_with fail
  have h4 := H4.out; have h5 := H5.out; have h6 := H6.out
  generalize (w.setCell ⟨ob, 0, none⟩ (.slice none 0 0)).setCell ⟨eb, 0, none⟩ (.int .i64 e) = wz at h4 h5 h6 ⊢
  cases c₀
  simp_all [bodyPostS, results, Try.results40]
/-- an array in rows of the call's own -/
def arrO (B : Bd) : Rep Ary where
  n := 2
  At w cs a := ∃ v u, cs = [v, u] ∧ RowI B.hi w v a.1 ∧ RowI B.hi w u a.2 ∧ (∀ x ∈ a.1, In64 x) ∧ ∀ x ∈ a.2, In64 x
  len := by rintro w cs a ⟨v, u, rfl, _⟩; rfl
  keep := by rintro w w' cs a ⟨v, u, e, h, h2, h3⟩ hb; exact ⟨v, u, e, own_keep h (KeepTy.below hb), own_keep h2 (KeepTy.below hb), h3⟩
  one := by
    rintro w cs a ⟨v, u, rfl, h, h2, _⟩ x hx
    simp at hx
    rcases hx with rfl | rfl
    · exact own_cell1 h
    · exact own_cell1 h2
theorem keep_arr (B : Bd) : KeepR (arrO B) B 54 := fun w w' hB hk cs x h => by
  obtain ⟨v, u, e, h, h2, h3⟩ := h
  exact ⟨v, u, e, own_keep h (hk _ (by decide)), own_keep h2 (hk _ (by decide)), h3⟩
theorem RowI.slR {B : Nat} {w : World} {v : Value} {xs : List Int} (h : RowI B w v xs) (h5 : ∀ x ∈ xs, In64 x) : (Rep.int .i64).Sl w v xs := by
  obtain ⟨h1, ⟨hv, hn⟩ | ⟨g, cap, cur, hv, hB, hg, hnc, hcm, hcs, ht⟩⟩ := id h
  · have hx : xs = [] := List.eq_nil_of_length_eq_zero hn
    subst hx
    exact ⟨none, 0, hv, Nat.le_refl _, Nat.zero_le _, fun _ => rfl, Rep.Els.nil _ _ _⟩
  · obtain ⟨a, c, e, _, hi⟩ := h.slice
    rw [hv] at e
    cases e
    refine ⟨_, _, hv, hnc, hcm, (fun e => by cases e), fun i hi2 => ?_⟩
    obtain ⟨b, off, e, hc⟩ := hi i hi2
    refine ⟨b, off, [.int .i64 xs[i]], e, ⟨rfl, ?_⟩, fun j v hj => ?_⟩
    · have := h5 _ (List.getElem_mem hi2)
      unfold In64 at this
      simpa [Lit.wf, IntKind.min, IntKind.max, IntKind.signed, IntKind.bits] using this
    · obtain ⟨rfl, rfl⟩ : j = 0 ∧ v = .int .i64 xs[i] := by
        cases j with
        | zero => exact ⟨rfl, by simpa using hj.symm⟩
        | succ j => simp at hj
      rw [show off + i * (Rep.int .i64).n + 0 = off + i from by show off + i * 1 + 0 = off + i; omega]
      exact hc
theorem arrO_sl {B : Bd} {W : World} {v : Value} {xs : List Ary} (h : (arrO B).Sl W v xs) : arrRep.Sl W v xs := by
  obtain ⟨a, cap, e, h1, h2, h3, hx⟩ := h
  refine ⟨a, cap, e, h1, h2, h3, fun i hi => ?_⟩
  obtain ⟨b, off, cs, e2, ⟨v0, v1, e3, h4, h5, h6, h7⟩, hc⟩ := hx i hi
  exact ⟨b, off, cs, e2, ⟨v0, v1, e3, h4.slR h6, h5.slR h7⟩, hc⟩
end Go.Proofs.Ytmlfeocdcjhhaaa
