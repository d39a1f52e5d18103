import Derived.Test.YtiogopichcnihaaJ2
namespace Go.Proofs.Ytiogopichcnihaa
set_option maxRecDepth 100000
open Go.RowKit
set_option linter.unusedVariables false
set_option linter.unusedSimpArgs false

/-! windrowref16.Decode; image.Right; windrowref20.Right. -/
theorem rdec_fields (n : Nat) (h : n < 18446744073709551616) : (n : Int) / 4294967296 / 16777216 = (decI n).op ∧ (n : Int) / 4294967296 / 65536 % 256 = (decI n).a ∧ (n : Int) / 4294967296 / 256 % 256 = (decI n).b ∧ (n : Int) / 4294967296 % 256 = (decI n).c ∧
    (if 2147483648 ≤ (n : Int) % 4294967296 then (n : Int) % 4294967296 - 4294967296 else (n : Int) % 4294967296) = (decI n).imm := by
  unfold decI
  refine ⟨?_, ?_, ?_, ?_, ?_⟩ <;> dsimp only
  · omega
  · omega
  · omega
  · omega
  · split <;> split <;> omega
set_option maxHeartbeats 4000000 in
theorem rdec_any (w : World) (n : Nat) (hn : n < 18446744073709551616) :
    Calls Try.prog 43 #[.int .u64 n] w fun e w' => e = DecE (decI n) ∧ Below w.heap.size w w' := by
  have hwf := decI_wf n
  obtain ⟨e0, e1, e2, e3, e4⟩ := rdec_fields n hn
  have hri := fun W => rRight_any W (decI n).op (decI n).a (decI n).b (decI n).c (decI n).imm hwf.op.1 hwf.op.2
  have hD : (decI n).right = insRight (decI n).op (decI n).a (decI n).b (decI n).c (decI n).imm := rfl
  rw [← hD] at hri
  generalize decI n = i at hri e0 e1 e2 e3 e4
  unfold DecE
  obtain ⟨r, hr⟩ : ∃ r, i.right = r := ⟨_, rfl⟩
  rw [hr] at hri ⊢
  clear hr
  have HRI := Lib.hid hri; have E0 := Lib.hid e0; have E1 := Lib.hid e1; have E2 := Lib.hid e2; have E3 := Lib.hid e3
  clear hri e0 e1 e2 e3 hwf hD
  obtain ⟨op, a, b, c, imm⟩ := i
  by_cases h31 : 2147483648 ≤ (n : Int) % 4294967296
  · rw [if_pos h31] at e4
    have E4 := Lib.hid e4
    clear e4
    go_enter Try.func43, Try.ntmps43
    go_wp2_with fail
    rw [E0.out, E1.out, E2.out, E3.out, E4.out]
    clear E0 E1 E2 E3 E4 h31
    try clear h31'
    refine (HRI.out _).mono ?_
    rintro e w1 ⟨rfl, hb1⟩
    obtain ⟨hr0, hc⟩ := new2 hb1
    have HB1 := Lib.hid (bNext hb1 (((Below.refl _ _).alloc (Nat.le_refl _) _).alloc (by simp) _))
    have HC := Lib.hid hc; have HR0 := Lib.hid hr0
    clear hb1 HRI hc hr0
    cases r with
    | true =>
      obtain ⟨G, hG⟩ : ∃ G, w.heap.size = G := ⟨_, rfl⟩
      rw [hG] at HC HR0 ⊢
      go_wp2_with (first | ((with_reducible show wpList _ _ _ ({ dst := some _, op := Op.load 43 (.tmp 5), type := _, pos := _, after := _, guard := _ } :: _) _ _); (refine wpList_loadW (by rfl) 43 _ rfl (G + 1) rfl _ _ (0, 0) _ HC.out Try.underlying43 rfl (by kernel_rfl) ?_)) | ((with_reducible show wpList _ _ _ ({ dst := none, op := Op.store 43 (.tmp 2) (.tmp _), type := _, pos := _, after := _, guard := _ } :: _) _ _); (refine wpList_storeW rfl 43 _ _ rfl G rfl _ _ rfl _ HR0.out (by kernel_rfl) (by rfl) (by rfl) ?_); intro w2 hr2 hg2))
      refine bodyPost_ret (v := .tuple #[.agg #[.int .u8 op, .int .u8 a, .int .u8 b, .int .u8 c, .int .i32 imm], .int .i64 0]) (results_ct rfl _ _ G 43 _ (0, 0) _ rfl rfl hr2 rfl) rfl ?_
      exact ⟨rfl, hG ▸ HB1.out.grown hg2 HB1.out.size (fun k hk => by cases hk; omega)⟩
    | false =>
      go_wp2_with (first | ((with_reducible show wpList _ _ _ ({ dst := some _, op := Op.load 43 (.tmp 5), type := _, pos := _, after := _, guard := _ } :: _) _ _); (refine wpList_loadW (by rfl) 43 _ rfl (w.heap.size + 1) rfl _ _ (0, 0) _ HC.out Try.underlying43 rfl (by kernel_rfl) ?_)) | ((with_reducible show wpList _ _ _ ({ dst := none, op := Op.store 43 (.tmp 2) (.tmp _), type := _, pos := _, after := _, guard := _ } :: _) _ _); (refine wpList_storeW rfl 43 _ _ rfl w.heap.size rfl _ _ rfl _ HR0.out (by kernel_rfl) (by rfl) (by rfl) ?_); intro w2 hr2 hg2))
      refine bodyPost_ret (v := .tuple #[.agg #[.int .u8 0, .int .u8 0, .int .u8 0, .int .u8 0, .int .i32 0], .int .i64 150]) (results_ct rfl _ _ w.heap.size 43 _ (0, 0) _ rfl rfl hr2 rfl) rfl ?_
      exact ⟨rfl, HB1.out.grown hg2 HB1.out.size (fun k hk => by cases hk; omega)⟩
  · rw [if_neg h31] at e4
    have E4 := Lib.hid e4
    have h31' : (n : Int) % 4294967296 < 2147483648 := by omega
    clear e4
    go_enter Try.func43, Try.ntmps43
    go_wp2_with fail
    rw [E0.out, E1.out, E2.out, E3.out, E4.out]
    clear E0 E1 E2 E3 E4 h31
    try clear h31'
    refine (HRI.out _).mono ?_
    rintro e w1 ⟨rfl, hb1⟩
    obtain ⟨hr0, hc⟩ := new2 hb1
    have HB1 := Lib.hid (bNext hb1 (((Below.refl _ _).alloc (Nat.le_refl _) _).alloc (by simp) _))
    have HC := Lib.hid hc; have HR0 := Lib.hid hr0
    clear hb1 HRI hc hr0
    cases r with
    | true =>
      obtain ⟨G, hG⟩ : ∃ G, w.heap.size = G := ⟨_, rfl⟩
      rw [hG] at HC HR0 ⊢
      go_wp2_with (first | ((with_reducible show wpList _ _ _ ({ dst := some _, op := Op.load 43 (.tmp 5), type := _, pos := _, after := _, guard := _ } :: _) _ _); (refine wpList_loadW (by rfl) 43 _ rfl (G + 1) rfl _ _ (0, 0) _ HC.out Try.underlying43 rfl (by kernel_rfl) ?_)) | ((with_reducible show wpList _ _ _ ({ dst := none, op := Op.store 43 (.tmp 2) (.tmp _), type := _, pos := _, after := _, guard := _ } :: _) _ _); (refine wpList_storeW rfl 43 _ _ rfl G rfl _ _ rfl _ HR0.out (by kernel_rfl) (by rfl) (by rfl) ?_); intro w2 hr2 hg2))
      refine bodyPost_ret (v := .tuple #[.agg #[.int .u8 op, .int .u8 a, .int .u8 b, .int .u8 c, .int .i32 imm], .int .i64 0]) (results_ct rfl _ _ G 43 _ (0, 0) _ rfl rfl hr2 rfl) rfl ?_
      exact ⟨rfl, hG ▸ HB1.out.grown hg2 HB1.out.size (fun k hk => by cases hk; omega)⟩
    | false =>
      go_wp2_with (first | ((with_reducible show wpList _ _ _ ({ dst := some _, op := Op.load 43 (.tmp 5), type := _, pos := _, after := _, guard := _ } :: _) _ _); (refine wpList_loadW (by rfl) 43 _ rfl (w.heap.size + 1) rfl _ _ (0, 0) _ HC.out Try.underlying43 rfl (by kernel_rfl) ?_)) | ((with_reducible show wpList _ _ _ ({ dst := none, op := Op.store 43 (.tmp 2) (.tmp _), type := _, pos := _, after := _, guard := _ } :: _) _ _); (refine wpList_storeW rfl 43 _ _ rfl w.heap.size rfl _ _ rfl _ HR0.out (by kernel_rfl) (by rfl) (by rfl) ?_); intro w2 hr2 hg2))
      refine bodyPost_ret (v := .tuple #[.agg #[.int .u8 0, .int .u8 0, .int .u8 0, .int .u8 0, .int .i32 0], .int .i64 150]) (results_ct rfl _ _ w.heap.size 43 _ (0, 0) _ rfl rfl hr2 rfl) rfl ?_
      exact ⟨rfl, HB1.out.grown hg2 HB1.out.size (fun k hk => by cases hk; omega)⟩
end Go.Proofs.Ytiogopichcnihaa
