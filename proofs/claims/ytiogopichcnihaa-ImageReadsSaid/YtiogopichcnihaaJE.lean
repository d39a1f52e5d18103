import Derived.Test.YtiogopichcnihaaJD
import Derived.Recover
import Derived.Defers
namespace Go.Proofs.Ytiogopichcnihaa
set_option maxRecDepth 100000
open Go.RowKit
set_option linter.unusedVariables false
set_option linter.unusedSimpArgs false

/-! The deferred function of image.Read. -/
theorem assert_bad (w : World) : (Instr.typeAssert (.iface 62 (.agg #[])) 20 62 true).run Try.prog w = .ok (.tuple #[.agg #[], .bool true]) w := by kernel_rfl
theorem catch_idle (p q : Addr) (w : World) :
    CallsD Try.prog 37 #[.pointer (some p), .pointer (some q)] .returning w fun e u' w' => e = .returned (.tuple #[]) ∧ u' = .returning ∧ w' = w := by
  refine callsD_of_wpS Try.func37 rfl fun c₀ cs hu => ?_
  apply wpS_seq
  apply wpS_region
  simp [wpOpsS, go_sem, recoverD, hu, Try.ntmps37, Exit.thenS]
  refine wpS_of_wp ?_
  show Code.wp Try.prog _ _ { tmps := #[.pointer (some p), .pointer (some q), .nilIface, undef, undef, .nilIface, undef, undef, undef, undef, undef, undef, undef, undef, undef, undef, undef], defers := [] } w
  go_wp2_with fail
  cases c₀
  simp_all [bodyPostS, results, Try.results37]
theorem catch_bad (mb eb : Nat) (w : World) (o0 o1 o2 o3 o4 : Value) (e0 : Int) (h1 : w.heap[mb]? = some (.cells #[o0, o1, o2, o3, o4] 26 (0, 0))) (h2 : w.heap[eb]? = some (.cells #[.int .i64 e0] 29 (0, 0))) (hne : mb ≠ eb) :
    CallsD Try.prog 37 #[.pointer (some ⟨mb, 0, none⟩), .pointer (some ⟨eb, 0, none⟩)] (.panicking ({ v := .iface 62 (.agg #[]), recovered := false } :: [])) w fun e u' w' =>
      e = .returned (.tuple #[]) ∧ u' = .panicking ({ v := .iface 62 (.agg #[]), recovered := true } :: []) ∧
        w'.heap[mb]? = some (.cells #[.slice none 0 0, .int .i64 0, .slice none 0 0, .slice none 0 0, .slice none 0 0] 26 (0, 0)) ∧ w'.heap[eb]? = some (.cells #[.int .i64 191] 29 (0, 0)) ∧ KB (fun g => g = mb ∨ g = eb) w w' := by
  have has := assert_bad
  have H1 := Lib.hid h1; have H2 := Lib.hid h2
  refine callsD_of_wpS Try.func37 rfl fun c₀ cs hu => ?_
  apply wpS_seq
  apply wpS_region
  simp [wpOpsS, go_sem, recoverD, hu, Try.ntmps37, Exit.thenS]
  clear h1 h2
  refine wpS_of_wp ?_
  show Code.wp Try.prog _ _ { tmps := #[.pointer (some ⟨mb, 0, none⟩), .pointer (some ⟨eb, 0, none⟩), .iface 62 (.agg #[]), undef, undef, .iface 62 (.agg #[]), undef, undef, undef, undef, undef, undef, undef, undef, undef, undef, undef], defers := [] } w
  go_upto_region 5 with fail
  refine gen_worldA (fun W => W.heap[mb]? = some (.cells #[o0, o1, o2, o3, o4] 26 (0, 0)) ∧ W.heap[eb]? = some (.cells #[.int .i64 e0] 29 (0, 0)) ∧ KB (fun g => g = mb ∨ g = eb) w W) ⟨block_alloc H1.out _, block_alloc H2.out _, (KB.refl _ w).alloc _⟩ ?_
  rintro W ⟨k1, k2, k3⟩
  have K1 := Lib.hid k1; have K2 := Lib.hid k2; have K3 := Lib.hid k3
  clear k1 k2 k3 H1 H2
  go_wp2_with (((with_reducible show wpList _ _ _ ({ dst := none, op := Op.store 26 (.tmp 0) (.tmp _), type := _, pos := _, after := _, guard := _ } :: _) _ _); (refine wpList_storeW rfl 26 _ _ rfl mb rfl _ _ rfl _ K1.out (by kernel_rfl) (by rfl) (by rfl) ?_); intro w9 hr9 hg9); (have he9 := block_grown K2.out hg9 (fun e => hne (by injection e))); (have ec9 := cell_of_row w9 eb 0 _ _ _ he9); (have ef9 := frozen_of_row w9 eb 0 _ _ he9))
  have hk9 : KB (fun g => g = mb ∨ g = eb) w (w9.setCell ⟨eb, 0, none⟩ (.int .i64 191)) := (K3.out.grown hg9 (fun k e _ => .inl (by injection e with e; exact e.symm))).setCell (p := ⟨eb, 0, none⟩) (fun _ => .inr rfl) _
  have hm9 : (w9.setCell ⟨eb, 0, none⟩ (.int .i64 191)).heap[mb]? = some (.cells #[.slice none 0 0, .int .i64 0, .slice none 0 0, .slice none 0 0, .slice none 0 0] 26 (0, 0)) := (Below.heap_setCell _ _ _ _ hne).trans hr9
  have hee : (w9.setCell ⟨eb, 0, none⟩ (.int .i64 191)).heap[eb]? = some (.cells #[.int .i64 191] 29 (0, 0)) := by rw [heap_setCell_same w9 eb 0 _ _ _ he9]; rfl
  clear has he9 ec9 ef9 hr9 hg9 K1 K2 K3
  generalize w9.setCell ⟨eb, 0, none⟩ (.int .i64 191) = wz at hk9 hm9 hee ⊢
  cases c₀
  simp_all [bodyPostS, results, Try.results37]
end Go.Proofs.Ytiogopichcnihaa
