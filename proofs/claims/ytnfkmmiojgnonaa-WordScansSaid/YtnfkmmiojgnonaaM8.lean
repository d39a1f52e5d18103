/-
  WordScans: the law returns true for every input, and what was handed in reads as it did. No condition.
-/
import Derived.Test.YtnfkmmiojgnonaaV10
namespace Go.Proofs.Ytnfkmmiojgnonaa
open Go.ChangeShapes Go.WideShapes Go.ChangeAt Go.RowKit Go.Joins
set_option linter.unusedVariables false

theorem and_one_any (a : Int) : isBit (bits BinOp.and IntKind.i64 a 1) = true := by
  have h : (BitVec.ofInt IntKind.i64.bits a &&& BitVec.ofInt IntKind.i64.bits 1).toNat = (BitVec.ofInt IntKind.i64.bits a).toNat % 2 := by
    rw [BitVec.toNat_and, show (BitVec.ofInt IntKind.i64.bits 1).toNat = 1 from rfl, Nat.and_one_is_mod]
  have h2 : bits BinOp.and IntKind.i64 a 1 = IntKind.i64.wrap (((BitVec.ofInt IntKind.i64.bits a).toNat % 2 : Nat) : Int) := by
    rw [← h]; rfl
  rw [h2, IntKind.wrap_i64]
  unfold isBit
  simp
  omega

theorem bit_in {a : Int} (h : isBit a = true) : In64 a := by unfold isBit at h; simp at h; unfold In64; omega

/-- what a function that scans does, on numbers that it takes -/
structure Sc (f a b c ab bc l n : Int) : Prop where
  d1 : dyadF f a b = (ab, 0)
  d2 : dyadF f b c = (bc, 0)
  d3 : dyadF f ab c = (l, 0)
  d4 : dyadF f a bc = (l, 0)
  u : unitF f = (n, true)
  d5 : dyadF f n a = (a, 0)
  i1 : In64 ab
  i2 : In64 bc
  i3 : In64 n

theorem min_in {a b : Int} (ha : In64 a) (hb : In64 b) : In64 (min a b) := by unfold In64 at *; omega
theorem max_in {a b : Int} (ha : In64 a) (hb : In64 b) : In64 (max a b) := by unfold In64 at *; omega
theorem dy14 {a b : Int} (ha : isBit a = true) (hb : isBit b = true) : dyadF 14 a b = (a * b, 0) := by simp [dyadF, takes, refusesB, dyv, ha, hb]
theorem dy15 {a b : Int} (ha : isBit a = true) (hb : isBit b = true) : dyadF 15 a b = (max a b, 0) := by simp [dyadF, takes, refusesB, dyv, ha, hb]
theorem bit_mul {a b : Int} (ha : isBit a = true) (hb : isBit b = true) : isBit (a * b) = true := by
  unfold isBit at ha hb
  simp at ha hb
  rcases ha with rfl | rfl <;> rcases hb with rfl | rfl <;> decide
theorem bit_max {a b : Int} (ha : isBit a = true) (hb : isBit b = true) : isBit (max a b) = true := by
  unfold isBit at ha hb
  simp at ha hb
  rcases ha with rfl | rfl <;> rcases hb with rfl | rfl <;> decide

theorem sc_total {f : Int} (h : scansB f = true) (ht : totalB f true = true) (a b c : Int) (ha : In64 a) (hb : In64 b) (hc : In64 c) : ∃ ab bc l n, Sc f a b c ab bc l n := by
  rcases eqs_scan1 h with rfl | rfl | rfl | rfl | rfl | rfl
  · refine ⟨wrap64 (a + b), wrap64 (b + c), wrap64 (wrap64 (a + b) + c), 0, dy1 _ _, dy1 _ _, dy1 _ _, ?_, rfl, ?_, wrap_in _, wrap_in _, by unfold In64; omega⟩
    · rw [dy1, wrap_add_r, wrap_add_l, Int.add_assoc]
    · rw [dy1, Int.zero_add, wrap_id ha]
  · refine ⟨wrap64 (a * b), wrap64 (b * c), wrap64 (wrap64 (a * b) * c), 1, dy3 _ _, dy3 _ _, dy3 _ _, ?_, rfl, ?_, wrap_in _, wrap_in _, by unfold In64; omega⟩
    · rw [dy3, wrap_mul_r, wrap_mul_l, Int.mul_assoc]
    · rw [dy3, Int.one_mul, wrap_id ha]
  · refine ⟨min a b, min b c, min (min a b) c, 9223372036854775807, dy6 _ _, dy6 _ _, dy6 _ _, ?_, rfl, ?_, min_in ha hb, min_in hb hc, by unfold In64; omega⟩
    · rw [dy6, Int.min_assoc]
    · rw [dy6]; unfold In64 at ha; rw [Int.min_eq_right (by omega)]
  · refine ⟨max a b, max b c, max (max a b) c, -9223372036854775808, dy7 _ _, dy7 _ _, dy7 _ _, ?_, rfl, ?_, max_in ha hb, max_in hb hc, by unfold In64; omega⟩
    · rw [dy7, Int.max_assoc]
    · rw [dy7]; unfold In64 at ha; rw [Int.max_eq_right (by omega)]
  · cases ht
  · cases ht
theorem sc_bits {f : Int} (h : scansB f = true) (ht : totalB f true = false) (a b c : Int) (ha : isBit a = true) (hb : isBit b = true) (hc : isBit c = true) : ∃ ab bc l n, Sc f a b c ab bc l n := by
  rcases eqs_scan1 h with rfl | rfl | rfl | rfl | rfl | rfl
  iterate 4
    · cases ht
  · refine ⟨a * b, b * c, a * b * c, 1, dy14 ha hb, dy14 hb hc, dy14 (bit_mul ha hb) hc, ?_, rfl, ?_, bit_in (bit_mul ha hb), bit_in (bit_mul hb hc), by unfold In64; omega⟩
    · rw [dy14 ha (bit_mul hb hc), Int.mul_assoc]
    · rw [dy14 (by decide) ha, Int.one_mul]
  · refine ⟨max a b, max b c, max (max a b) c, 0, dy15 ha hb, dy15 hb hc, dy15 (bit_max ha hb) hc, ?_, rfl, ?_, bit_in (bit_max ha hb), bit_in (bit_max hb hc), by unfold In64; omega⟩
    · rw [dy15 ha (bit_max hb hc), Int.max_assoc]
    · rw [dy15 (by decide) ha]; unfold isBit at ha; simp at ha; rw [Int.max_eq_right (by omega)]

set_option maxRecDepth 100000 in
set_option maxHeartbeats 4000000 in
theorem WordScans_walk (w : World) (f a b c : Int) (_ : (Lit.int .u8 f).wf = true) (ha : (Lit.int .i64 a).wf = true) (hb : (Lit.int .i64 b).wf = true) (hc : (Lit.int .i64 c).wf = true) :
    Calls Try.prog 10 #[.agg #[.int .u8 f, .int .i64 a, .int .i64 b], .int .i64 c] w fun e w' => e = .returned (.bool true) ∧ Below w.heap.size w w' := by
  have ha := in64_wf ha
  have hb := in64_wf hb
  have hc := in64_wf hc
  cases hs : scansB f with
  | false =>
    have K1 := Lib.hid (fun W => scans_at W f false hs)
    clear ha hb hc hs
    go_enter Try.func10, Try.ntmps10
    go_wp2_with fail
    refine (shown_any _).mono ?_; rintro e w1 ⟨rfl, n9, rfl⟩
    go_wp2_with fail
    refine (K1.out _).mono ?_; rintro e w1 ⟨rfl, n9, rfl⟩
    go_wp2_with fail
    go_ret
    exact ⟨ret_bool (by simp), ((Below.refl _ _).alloc (Nat.le_refl _) _).trans (Below.drewN _ _)⟩
  | true =>
    have K1 := Lib.hid (fun W => scans_at W f true hs)
    cases ht : totalB f true with
    | true =>
      have K2 := Lib.hid (fun W => total_at W f true true ht)
      obtain ⟨ab, bc, l, n, hsc⟩ := sc_total hs ht a b c ha hb hc
      have C1 := Lib.hid (fun W => dyad_at W f a b ab 0 ha hb hsc.d1)
      have C2 := Lib.hid (fun W => dyad_at W f b c bc 0 hb hc hsc.d2)
      have C3 := Lib.hid (fun W => dyad_at W f ab c l 0 hsc.i1 hc hsc.d3)
      have C4 := Lib.hid (fun W => dyad_at W f a bc l 0 ha hsc.i2 hsc.d4)
      have C5 := Lib.hid (fun W => unit_at W f n true hsc.u)
      have C6 := Lib.hid (fun W => dyad_at W f n a a 0 hsc.i3 ha hsc.d5)
      clear ha hb hc hs ht hsc
      go_enter Try.func10, Try.ntmps10
      go_wp2_with fail
      refine (shown_any _).mono ?_; rintro e w1 ⟨rfl, n9, rfl⟩
      go_wp2_with fail
      refine (K1.out _).mono ?_; rintro e w1 ⟨rfl, n9, rfl⟩
      go_wp2_with fail
      refine (K2.out _).mono ?_; rintro e w1 ⟨rfl, n9, rfl⟩
      go_wp2_with fail
      refine (C1.out _).mono ?_; rintro e w1 ⟨rfl, n9, rfl⟩
      go_wp2_with fail
      refine (C2.out _).mono ?_; rintro e w1 ⟨rfl, n9, rfl⟩
      go_wp2_with fail
      refine (C3.out _).mono ?_; rintro e w1 ⟨rfl, n9, rfl⟩
      go_wp2_with fail
      refine (C4.out _).mono ?_; rintro e w1 ⟨rfl, n9, rfl⟩
      go_wp2_with fail
      refine (C5.out _).mono ?_; rintro e w1 ⟨rfl, n9, rfl⟩
      go_wp2_with fail
      refine (C6.out _).mono ?_; rintro e w1 ⟨rfl, n9, rfl⟩
      go_wp2_with fail
      go_ret
      exact ⟨ret_bool (by simp), ((Below.refl _ _).alloc (Nat.le_refl _) _).trans (Below.drewN _ _)⟩
    | false =>
      have K2 := Lib.hid (fun W => total_at W f true false ht)
      have ka := and_one_any a
      have kb := and_one_any b
      have kc := and_one_any c
      obtain ⟨a', ea⟩ : ∃ a', bits BinOp.and IntKind.i64 a 1 = a' := ⟨_, rfl⟩
      obtain ⟨b', eb⟩ : ∃ a', bits BinOp.and IntKind.i64 b 1 = a' := ⟨_, rfl⟩
      obtain ⟨c', ec⟩ : ∃ a', bits BinOp.and IntKind.i64 c 1 = a' := ⟨_, rfl⟩
      rw [ea] at ka
      rw [eb] at kb
      rw [ec] at kc
      obtain ⟨ab, bc, l, n, hsc⟩ := sc_bits hs ht a' b' c' ka kb kc
      have ha := bit_in ka
      have hb := bit_in kb
      have hc := bit_in kc
      have C1 := Lib.hid (fun W => dyad_at W f a' b' ab 0 ha hb hsc.d1)
      have C2 := Lib.hid (fun W => dyad_at W f b' c' bc 0 hb hc hsc.d2)
      have C3 := Lib.hid (fun W => dyad_at W f ab c' l 0 hsc.i1 hc hsc.d3)
      have C4 := Lib.hid (fun W => dyad_at W f a' bc l 0 ha hsc.i2 hsc.d4)
      have C5 := Lib.hid (fun W => unit_at W f n true hsc.u)
      have C6 := Lib.hid (fun W => dyad_at W f n a' a' 0 hsc.i3 ha hsc.d5)
      clear ha hb hc hs ht hsc ka kb kc
      go_enter Try.func10, Try.ntmps10
      go_wp2_with fail
      refine (shown_any _).mono ?_; rintro e w1 ⟨rfl, n9, rfl⟩
      go_wp2_with fail
      refine (K1.out _).mono ?_; rintro e w1 ⟨rfl, n9, rfl⟩
      go_wp2_with fail
      refine (K2.out _).mono ?_; rintro e w1 ⟨rfl, n9, rfl⟩
      go_wp2_with fail
      refine (C1.out _).mono ?_; rintro e w1 ⟨rfl, n9, rfl⟩
      go_wp2_with fail
      refine (C2.out _).mono ?_; rintro e w1 ⟨rfl, n9, rfl⟩
      go_wp2_with fail
      refine (C3.out _).mono ?_; rintro e w1 ⟨rfl, n9, rfl⟩
      go_wp2_with fail
      refine (C4.out _).mono ?_; rintro e w1 ⟨rfl, n9, rfl⟩
      go_wp2_with fail
      refine (C5.out _).mono ?_; rintro e w1 ⟨rfl, n9, rfl⟩
      go_wp2_with fail
      refine (C6.out _).mono ?_; rintro e w1 ⟨rfl, n9, rfl⟩
      go_wp2_with fail
      go_ret
      exact ⟨ret_bool (by simp), (((((Below.refl _ _).alloc (Nat.le_refl _) _).trans (Below.drewN _ _)).setCell (by simp) _).setCell (by simp) _).trans (Below.drewN _ _)⟩

set_option maxRecDepth 100000 in
theorem WordScans_lifted (os : Os) (started : os.Started) (H : Type) (enc : TypeId × Value → H) :
    ReturnsInHanded {} Try.checked os 10 .any (Rows.wordScansSpec.pre6 enc Try.prog Try.f10 Rows.wordScansRow.domain false) (Rows.wordScansSpec.post enc Try.prog Try.f10 false true false false) := by
  refine returnsInHanded_of_change (C := Try.checked) own started (by kernel_rfl) Try.func10
    (ChangeSpec.witness6 (enc := enc) (C := Try.checked) false ⟨#[], #[.agg #[.int .u8 0, .int .i64 0, .int .i64 0], .int .i64 0], []⟩ 8 (by kernel_rfl) (by kernel_rfl) (by kernel_rfl) (by kernel_rfl)) ?_
  intro W base args ds gs before hval0 hW hcnd _
  have hval : ∀ (j : Nat) t v, Try.f10.params[j]? = some t → args[j]? = some v → Value.okWide Try.prog W .any base t v := hval0
  have hW' := hW
  obtain ⟨p, q, hA0, hV, rfl, hfz, hnd⟩ := hW
  have hA : DataW.TrodAll enc Try.prog W 0 (fun _ => true) true Try.f10.params.toList args.toList ds p := hA0
  rw [Try.params10] at hA hval
  obtain ⟨v0, vs0, d0, ds0, p0, q0, hargs, rfl, rfl, h0, r0⟩ := trodAll_cons hA
  obtain ⟨v1, vs1, d1, ds1, p1, q1, rfl, rfl, rfl, h1, r1⟩ := trodAll_cons r0
  obtain ⟨rfl, rfl, rfl⟩ := trodAll_nil r1
  obtain rfl : args = #[v0, v1] := by cases args; simp_all
  obtain ⟨rfl, rfl⟩ := trodVars_none hV
  have k0 := h0
  have lt0 : ∀ x ∈ p0, x.block < W.heap.size := by obtain ⟨m, hm⟩ := k0; exact DataW.trod_lt m _ _ _ hm
  obtain ⟨va0, vb0, vc0, ya0, yb0, yc0, n0, rfl, -, -, ta0, tb0, tc0⟩ := open_agg3 Try.underlying23 (by kernel_rfl) (by kernel_rfl) (hval 0 23 v0 rfl rfl) h0
  obtain ⟨na0, ea0, -, wa0⟩ := DataW.trod_int Try.underlying5 ta0
  simp at ea0
  subst ea0
  obtain ⟨nb0, eb0, -, wb0⟩ := DataW.trod_int Try.underlying2 tb0
  simp at eb0
  subst eb0
  obtain ⟨nc0, ec0, -, wc0⟩ := DataW.trod_int Try.underlying2 tc0
  simp at ec0
  subst ec0
  obtain ⟨a1, rfl, rfl, rfl, w1⟩ := open_int Try.underlying2 (hval 1 2 v1 rfl rfl) h1
  clear hA0 hval0
  refine (WordScans_walk W na0 nb0 nc0 a1 wa0 wb0 wc0 w1).mono fun e W' ⟨he, bel⟩ => ?_
  subst he
  exact ⟨_, rfl, _, _, _, [], _, [], hW', trodAll_mk1 (shut_bool Try.underlying4 _), (trodAll_cons_mk (Below.trod laidOut (by kernel_rfl) (of_decide_eq_true (by kernel_rfl)) k0 bel lt0) (trodAll_cons_mk (shut_int Try.underlying2 w1) trodAll_mk0)), rfl, bel.frame _, fun h => by cases h⟩

/-- The given statement. -/
theorem WordScans_holds : Rows.WordScansSaid :=
  OpenClaim.holds_of_wide 10 Try.f10 rfl rfl rfl rfl rfl rfl rfl ⟨rfl, rfl, rfl, rfl, rfl⟩ rfl rfl rfl rfl rfl (by kernel_rfl) Try.func10 (by kernel_rfl)
    (of_decide_eq_true (by kernel_rfl)) (by unfold Func.isWrapper; rw [if_neg (by decide +kernel)]; exact ⟨rfl, rfl⟩)
    (fun os started H enc _ => WordScans_lifted os started H enc)
#print axioms WordScans_holds
end Go.Proofs.Ytnfkmmiojgnonaa
