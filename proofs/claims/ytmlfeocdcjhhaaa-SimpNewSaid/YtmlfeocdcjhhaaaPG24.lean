import Derived.Test.YtmlfeocdcjhhaaaPG23
import Derived.Test.YtmlfeocdcjhhaaaPG17
namespace Go.Proofs.Ytmlfeocdcjhhaaa
set_option maxRecDepth 100000
open Go.RowKit
set_option linter.unusedVariables false
set_option linter.unusedSimpArgs false
attribute [local go_sem ↓] Go.wp_at_zero Go.wp_at_succ

/-! windrowref13.right. -/
theorem depth_pos {l : List Cop} (h : 0 ≤ depthI l) : 0 < depthI l := by
  obtain ⟨_, _, h1, h2, _⟩ := simple_facts h
  omega
theorem fit_pos (l : List Cop) : fitC l = (decide (0 < depthI l) && !l.any wrongC) := by
  unfold fitC
  congr 1
  by_cases h : 0 ≤ depthI l
  · rw [decide_eq_true h, decide_eq_true (depth_pos h)]
  · rw [decide_eq_false h, decide_eq_false (by omega)]
theorem wrong_take {l : List Cop} {k : Nat} (hk : k < l.length) : (l.take (k + 1)).any wrongC = ((l.take k).any wrongC || wrongC l[k]) := by
  rw [List.take_succ_eq_append_getElem hk, List.any_append]; simp
set_option maxHeartbeats 4000000 in
theorem rright13_any (w : World) (a : Option Addr) (c : Nat) (l : List Cop) (h : copRep.Els w a l) (hm : l.length ≤ 9223372036854775807) :
    Calls Try.prog 27 #[.slice a l.length c] w fun e w' => e = .returned (.bool (fitC l)) ∧ Below w.heap.size w w' := by
  have hq := fun W (hb : Below w.heap.size w W) => rdepth_any W a c l (h.below copRep hb (Nat.le_refl _)) hm
  have hr := fit_pos l
  generalize depthI l = D at hq hr
  have HE := Lib.hid h; have HQ := Lib.hid hq; have HR := Lib.hid hr
  obtain ⟨n, hn⟩ : ∃ n, l.length = n := ⟨_, rfl⟩
  rw [hn] at HQ hm ⊢
  have HN := Lib.hid hn
  clear h hq hr hn
  go_enter Try.func27, Try.ntmps27
  go_wp2_with fail
  go_loopw [3] (fun i wr => ∃ k : Nat, k ≤ n ∧ i = .int .i64 k ∧ (l.take k).any wrongC = false ∧ Below w.heap.size w wr) (fun i _ => n - (intOf i).toNat)
  case atStart => exact ⟨0, by omega, rfl, rfl, Below.refl _ _⟩
  case round =>
    obtain ⟨k, hk, rfl, hg, hbel⟩ := hrel
    by_cases hlt : k < n
    · have hkx : k < l.length := by rw [HN.out]; exact hlt
      obtain ⟨b, off, pa, pc, rfl, x0, x1, x2, x3, x4, hme, hml⟩ := els_cop (HE.out.below copRep hbel (Nat.le_refl _)) hkx
      have hs := wrong_take hkx
      rw [hg, Bool.false_or] at hs
      have hall : wrongC l[k] = true → l.any wrongC = true := fun hh => List.any_eq_true.2 ⟨_, List.getElem_mem hkx, hh⟩
      generalize l[k] = o at x0 x1 x2 x3 x4 hme hml hs hall
      have HO := Lib.hid (OpBox.new wr o (.slice pa o.p.length pc))
      have HBW := Lib.hid hbel; have HME := Lib.hid hme; have HML := Lib.hid hml
      obtain ⟨z, hz⟩ : ∃ z, wr.heap.size = z := ⟨_, rfl⟩
      rw [hz] at HO
      clear hg hkx hbel hme hml
      go_upto_region 5 with fail
      refine gen_worldA (fun W => OpBox wr W z o (.slice pa o.p.length pc)) HO.out ?_
      rintro W hO
      clear HO x0 x1 x2 x3 x4 hz
      have y0 := hO.c0; have y3 := hO.c3; have y4 := hO.c4
      by_cases h5 : o.how = 5
      · rw [h5] at y0
        obtain ⟨v, hv⟩ : ∃ v, takes o.fn false = v := ⟨_, rfl⟩
        have hwr : wrongC o = !v := by rw [wrong_5 h5, hv]
        have HQ2 := Lib.hid (rtakes_at W o.fn false v hv)
        have HBZ := Lib.hid (bNext hO.b HBW.out)
        clear h5 hv hO
        cases v with
        | false =>
          have HG := Lib.hid (hall hwr)
          clear hall hs hwr
          go_wp2_with fail
          refine HQ2.out.mono ?_
          rintro e w1 ⟨rfl, rfl⟩
          go_wp2_with fail
          go_ret
          exact ⟨ret_bool (by rw [HR.out, HG.out]; simp), HBZ.out⟩
        | true =>
          have HG := Lib.hid (hs.trans hwr)
          clear hall hs hwr
          go_wp2_with fail
          refine HQ2.out.mono ?_
          rintro e w1 ⟨rfl, rfl⟩
          go_wp2_with fail
          go_roundw
          case rel => exact ⟨k + 1, by omega, by go_num, HG.out, HBZ.out⟩
          case measure => simp [intOf] <;> omega
      have q5 : (o.how == 5) = false := by rw [beq_eq_false_iff_ne]; exact h5
      by_cases h6 : o.how = 6
      · rw [h6] at y0
        obtain ⟨v, hv⟩ : ∃ v, takes o.fn true = v := ⟨_, rfl⟩
        have hwr : wrongC o = !v := by rw [wrong_6 h6, hv]
        have HQ2 := Lib.hid (rtakes_at W o.fn true v hv)
        have HBZ := Lib.hid (bNext hO.b HBW.out)
        clear h5 h6 q5 hv hO
        cases v with
        | false =>
          have HG := Lib.hid (hall hwr)
          clear hall hs hwr
          go_wp2_with fail
          refine HQ2.out.mono ?_
          rintro e w1 ⟨rfl, rfl⟩
          go_wp2_with fail
          go_ret
          exact ⟨ret_bool (by rw [HR.out, HG.out]; simp), HBZ.out⟩
        | true =>
          have HG := Lib.hid (hs.trans hwr)
          clear hall hs hwr
          go_wp2_with fail
          refine HQ2.out.mono ?_
          rintro e w1 ⟨rfl, rfl⟩
          go_wp2_with fail
          go_roundw
          case rel => exact ⟨k + 1, by omega, by go_num, HG.out, HBZ.out⟩
          case measure => simp [intOf] <;> omega
      have q6 : (o.how == 6) = false := by rw [beq_eq_false_iff_ne]; exact h6
      by_cases h2 : o.how = 2
      · rw [h2] at y0
        have hq2 := rright_any W pa pc o.p (HME.out.below monoRep hO.b (Nat.le_refl _)) HML.out
        have hwr := wrong_2 h2
        generalize polyB o.p = v at hq2 hwr
        have HQ2 := Lib.hid hq2; have HBZ := Lib.hid (bNext hO.b HBW.out)
        clear h5 h6 q5 q6 hq2 h2 hO
        cases v with
        | false =>
          have HG := Lib.hid (hall hwr)
          clear hall hs hwr
          go_wp2_with fail
          refine HQ2.out.mono ?_
          rintro e w1 ⟨rfl, hb1⟩
          go_wp2_with fail
          go_ret
          exact ⟨ret_bool (by rw [HR.out, HG.out]; simp), bNext hb1 HBZ.out⟩
        | true =>
          have HG := Lib.hid (hs.trans hwr)
          clear hall hs hwr
          go_wp2_with fail
          refine HQ2.out.mono ?_
          rintro e w1 ⟨rfl, hb1⟩
          have HBZ := Lib.hid (bNext hb1 HBZ.out)
          clear hb1
          go_wp2_with fail
          go_roundw
          case rel => exact ⟨k + 1, by omega, by go_num, HG.out, HBZ.out⟩
          case measure => simp [intOf] <;> omega
      have q2 : (o.how == 2) = false := by rw [beq_eq_false_iff_ne]; exact h2
      have HG := Lib.hid (hs.trans (wrong_no h5 h6 h2))
      have HBZ := Lib.hid (bNext hO.b HBW.out)
      clear hall hs h5 h6 h2 hO
      go_wp2_with fail
      go_roundw
      case rel => exact ⟨k + 1, by omega, by go_num, HG.out, HBZ.out⟩
      case measure => simp [intOf] <;> omega
    · obtain rfl : n = k := by omega
      rw [← HN.out, List.take_length] at hg
      have HG := Lib.hid hg
      have HQ2 := Lib.hid (HQ.out wr hbel); have HB := Lib.hid hbel
      clear hg hlt hbel
      go_wp2_with fail
      refine HQ2.out.mono ?_
      rintro e w1 ⟨rfl, hb⟩
      go_wp2_with fail
      go_ret
      exact ⟨ret_bool (by rw [HR.out, HG.out]; simp), bNext hb HB.out⟩
end Go.Proofs.Ytmlfeocdcjhhaaa

namespace Go
set_option linter.unusedVariables false
set_option linter.unusedSimpArgs false
section
variable {P : Program} {ops : Array Oper} {Q : Exit → Act → World → Prop} {md : Region.Mode} {S : World → Prop} {z : Nat}
/-- One of two comes up. -/
theorem wpAnyZ_two {i j : Nat} {o p : Oper} {fuel : Nat} {listed : Array Bool} {a : Act} {w : World} (hr : Region.ready md ops listed = [i, j]) (ho : ops[i]? = some o) (hp : ops[j]? = some p) (hg : o.guard = none) (hk : p.guard = none)
    (h : ∀ K : Act → World → Prop, Shut (∀ a w, (z ≤ i ∨ S w) → wpAnyZ P md ops Q S z fuel (listed.setIfInBounds i true) a w → K a w) → o.wp P a w K Q)
    (h2 : ∀ K : Act → World → Prop, Shut (∀ a w, (z ≤ j ∨ S w) → wpAnyZ P md ops Q S z fuel (listed.setIfInBounds j true) a w → K a w) → p.wp P a w K Q) : wpAnyZ P md ops Q S z (fuel + 1) listed a w := by
  refine ⟨fun h0 => (by rw [hr] at h0; cases h0), fun k hk' => ?_⟩
  rw [hr] at hk'
  have hk2 : k = i ∨ k = j := by simpa using hk'
  rcases hk2 with rfl | rfl
  · unfold wpOp
    rw [ho]
    simp only [Region.wanted, hg, if_true]
    exact .inl (h _ (fun a w h1 h2 => ⟨h1, h2⟩))
  · unfold wpOp
    rw [hp]
    simp only [Region.wanted, hk, if_true]
    exact .inl (h2 _ (fun a w h1 h2 => ⟨h1, h2⟩))
end
end Go

namespace Go.Proofs.Ytmlfeocdcjhhaaa
set_option maxRecDepth 100000
open Go.RowKit
set_option linter.unusedVariables false
set_option linter.unusedSimpArgs false
attribute [local go_sem ↓] Go.wp_at_zero Go.wp_at_succ

/-! windrowref13.behind. -/
theorem CopS.same {B : Bd} {w w' : World} {v : Value} {xs : List Cop} (h : CopS B w v xs) (hB : Below B w w') (k1 : KeepTy 47 w w') (he : ∀ b off n c, v = .slice (some ⟨b, off, none⟩) n c → 0 < n → w'.heap[b]? = w.heap[b]?) : CopS B w' v xs := by
  obtain ⟨⟨a, cap, e, h1, h2, h3, hx⟩, ho⟩ := h
  refine ⟨⟨a, cap, e, h1, h2, h3, fun i hi => ?_⟩, fun b off n c e2 h0 => ?_⟩
  · obtain ⟨b, off, cs, e2, hat, hc⟩ := hx i hi
    subst e2
    have hb := he b off _ _ e (by omega)
    exact ⟨b, off, cs, rfl, copO_keep hB k1 _ _ hat, fun j u hj => (World.cell?_of_block (w := w) (a := ⟨b, off + i * (copO B).n + j, none⟩) hb).trans (hc j u hj)⟩
  · have hb := he b off n c e2 h0
    refine ⟨(ho b off n c e2 h0).1, ?_⟩
    rcases (ho b off n c e2 h0).2 with h | ⟨h0, cur, h⟩
    · exact .inl h
    · exact .inr ⟨h0, cur, hb.trans h⟩
/-- operations in a row of the call's own -/
def RowC (B : Bd) (M : Nat) (w : World) (v : Value) (xs : List Cop) : Prop := ∃ cs, w.ownsRow M 44 5 v xs.length cs ∧ (copO B).Cs w cs xs
theorem RowC.next {B : Bd} {M : Nat} {w w' : World} {v : Value} {xs : List Cop} (h : RowC B M w v xs) (hb : Below w.heap.size w w') : RowC B M w' v xs := by
  obtain ⟨cs, h1, h2⟩ := h
  exact ⟨cs, own_keep h1 (KeepTy.below hb), Rep.Cs.keep hb h2⟩
theorem RowC.cop {B : Bd} {M : Nat} {w : World} {v : Value} {xs : List Cop} (h : RowC B M w v xs) (hBM : B.hi ≤ M) : CopS B w v xs := by
  obtain ⟨cs, h1, h2⟩ := h
  exact CopS.own hBM h1 h2 rfl
theorem RowC.new {B : Bd} {M : Nat} {w : World} {g : Nat} (hM : M ≤ w.heap.size) (hg : w.heap.size = g) : RowC B M (w.alloc (.cells #[] 44)) (.slice (some ⟨g, 0, none⟩) 0 0) [] := by
  subst hg
  exact ⟨[], World.ownsRow_made w #[] 0 hM (Nat.zero_le _) rfl, rfl⟩
theorem wp_appC {o : Oper} {a : Act} {w : World} {K : Act → World → Prop} {Q : Exit → Act → World → Prop} (s x : Operand) (ho : o.op = .call { callee := .builtin .append, args := #[s, x], argTypes := #[22, 22] })
    (B : Bd) (M : Nat) (v : Value) (xs ys : List Cop) (u : Value) (hs : a.eval s = v) (hv : RowC B M w v xs) (hx : a.eval x = u) (hu : CopS B w u ys)
    (hl : xs.length + ys.length ≤ 2513169434843) (hBM : B ≤ M) (hM : M ≤ w.heap.size) (h : ∀ v' w', RowC B M w' v' (xs ++ ys) → Below M w w' → w.grownBy w' v.ownBlock → K (a.put o.dst v') w') : o.wp Try.prog a w K Q := by
  obtain ⟨i0, hi, hz0, hz1, hz2⟩ := info_parts Try.infoOp
  obtain ⟨cs, h1, h2⟩ := hv
  obtain ⟨ds, h3, h4⟩ := hu.src
  refine wp_append_src _ s x 22 ho M 44 i0 _ 5 56 Try.underlying22 hi hz0 hz1 hz2 rfl (by decide) v xs.length cs hs h1 u ys.length ds hx h4 (Rep.Cs.len h3) (Rep.Cs.one h3) (by unfold maxLen; omega) (by omega) hM ?_
  intro v' w' hown hg hn
  have hge : ∀ j, v.ownBlock = some j → M ≤ j := fun j hj => (World.ownsRow.lt h1 j hj).1
  have hbM : Below M w w' := (Below.refl M w).grown hg hM hge
  have hbB : Below B w w' := hbM.mono hBM
  have k1 : KeepTy 47 w w' := KeepTy.grown hg (fun g e => by obtain ⟨cur, hh⟩ := own_typed h1 e; exact NotTy.of hh (by decide))
  refine h v' w' ⟨cs ++ ds, by rw [List.length_append]; exact hown, (copO_keepCs hbB k1 h3).append (copO_keepCs hbB k1 h2)⟩ hbM hg
set_option maxHeartbeats 4000000 in
theorem behind_any (w : World) (B : Bd) (hB : B ≤ w.heap.size) (a : Option Addr) (c : Nat) (x : List Cop) (hx : CopS B w (.slice a x.length c) x) (hl : x.length + 1 ≤ 2513169434843) (o : Cop) (pa : Option Addr) (pc : Nat) (hp : MonS B w (.slice pa o.p.length pc) o.p) (ho : OkO o) :
    Calls Try.prog 61 #[.slice a x.length c, opV o pa pc] w (RetC B w (x ++ [o])) := by
  have HX := Lib.hid hx; have HP := Lib.hid hp; have OKO := Lib.hid ho; have HB0 := Lib.hid hB; have HLL := Lib.hid hl
  have HO := Lib.hid (OpBox.new w o (.slice pa o.p.length pc))
  obtain ⟨n, hn⟩ : ∃ n, x.length = n := ⟨_, rfl⟩
  have HN := Lib.hid hn
  rw [hn]
  rw [hn] at HX
  unfold opV
  clear hx hp ho hB hl hn
  go_enter Try.func61, Try.ntmps61
  go_upto_region 1 with fail
  refine gen_worldA (fun W => OpBox w W w.heap.size o (.slice pa o.p.length pc)) HO.out ?_
  rintro W1 hO
  clear HO
  have HO := Lib.hid (hO.next (show Below W1.heap.size W1 W1.drew from (Below.refl _ _).drew))
  clear hO
  refine wp_region_Z (S := fun W' => W'.cell? ⟨w.heap.size, 0, none⟩ = some (.int .i64 o.how) ∧ W'.cell? ⟨w.heap.size, 1, none⟩ = some (.int .i64 o.k) ∧ W'.cell? ⟨w.heap.size, 2, none⟩ = some (.int .i64 o.n) ∧ W'.cell? ⟨w.heap.size, 3, none⟩ = some (.slice pa o.p.length pc) ∧ W'.cell? ⟨w.heap.size, 4, none⟩ = some (.int .u8 o.fn)) (z := 6) (by kernel_rfl) ?_
  generalize W1.drew = Y at HO ⊢
  have hSS : (fun W' : World => W'.cell? ⟨w.heap.size, 0, none⟩ = some (.int .i64 o.how) ∧ W'.cell? ⟨w.heap.size, 1, none⟩ = some (.int .i64 o.k) ∧ W'.cell? ⟨w.heap.size, 2, none⟩ = some (.int .i64 o.n) ∧ W'.cell? ⟨w.heap.size, 3, none⟩ = some (.slice pa o.p.length pc) ∧ W'.cell? ⟨w.heap.size, 4, none⟩ = some (.int .u8 o.fn)) Y := ⟨HO.out.c0, HO.out.c1, HO.out.c2, HO.out.c3, HO.out.c4⟩
  refine wpAnyZ_take (i := 1) (v := ?_) rfl (by kernel_rfl) (by kernel_rfl) (by kernel_rfl) (fun _ _ _ h => h) (by kernel_rfl) (Or.inl ⟨by rfl, ?_⟩) (by assumption) ?_
  rotate_left
  · intro w' hSw
    try dsimp only at hSw
    try obtain ⟨hSw, hSw2⟩ := hSw
    go_simp
    try with_reducible rfl
  show wpAnyZ _ _ _ _ _ _ _ _ (Act.put _ (some 6) _) _
  simp only [Act.put, List.setIfInBounds_toArray, List.set_cons_zero, List.set_cons_succ]
  refine wpAnyZ_take (i := 3) (v := ?_) rfl (by kernel_rfl) (by kernel_rfl) (by kernel_rfl) (fun _ _ _ h => h) (by kernel_rfl) (Or.inl ⟨by rfl, ?_⟩) (by assumption) ?_
  rotate_left
  · intro w' hSw
    try dsimp only at hSw
    try obtain ⟨hSw, hSw2⟩ := hSw
    go_simp
    try with_reducible rfl
  show wpAnyZ _ _ _ _ _ _ _ _ (Act.put _ (some 8) _) _
  simp only [Act.put, List.setIfInBounds_toArray, List.set_cons_zero, List.set_cons_succ]
  clear hSS
  obtain ⟨M, hM⟩ : ∃ M, Y.heap.size = M := ⟨_, rfl⟩
  have HMM := Lib.hid hM
  have HB := Lib.hid (show Below M Y Y from Below.refl _ _)
  have HBM := Lib.hid (show B ≤ M by rw [← hM]; exact Nat.le_trans HB0.out HO.out.b.size)
  clear hM
  refine wpAnyZ_two (i := 0) (j := 4) (by kernel_rfl) rfl rfl rfl rfl (fun K hK => ?_) (fun K hK => ?_)
  · skip
    go_simp
    obtain ⟨g0, hg0⟩ : ∃ b, Y.heap.size = b := ⟨_, rfl⟩
    have hba : Below Y.heap.size Y (Y.alloc (.cells #[] 44)) := (Below.refl _ _).alloc (Nat.le_refl _) _
    have E0 := Lib.hid (RowC.new (B := B) (M := M) (by have := HB.out.size; have h2 := HMM.out; omega) hg0)
    have HB := Lib.hid (HB.out.alloc (by have := HB.out.size; have h2 := HMM.out; omega) (.cells #[] 44))
    rw [hg0]
    refine hK.out _ _ (.inr (by have h := HO.out.next (HMM.out ▸ HB.out); exact ⟨h.c0, h.c1, h.c2, h.c3, h.c4⟩)) ?_
    clear hK hba hg0
    generalize Y.alloc (.cells #[] 44) = Y1 at *
    refine wpAnyZ_two (i := 2) (j := 4) (by kernel_rfl) rfl rfl rfl rfl (fun K hK => ?_) (fun K hK => ?_)
    · skip
      refine wp_appC (.tmp 5) (.tmp 6) rfl B M (.slice (some ⟨g0, 0, none⟩) 0 0) [] x (.slice a n c) rfl E0.out rfl (HX.out.below (bNext (HMM.out ▸ HB.out) HO.out.b)) (by have := HLL.out; simp; omega) HBM.out (by have := HB.out.size; have h2 := HMM.out; omega) ?_
      intro v2 Y2 hr hb hg
      have R2 := Lib.hid (show RowC B M _ v2 x from hr)
      have HB := Lib.hid (HB.out.trans hb)
      refine hK.out _ _ (.inr (by have h := HO.out.next (HMM.out ▸ HB.out); exact ⟨h.c0, h.c1, h.c2, h.c3, h.c4⟩)) ?_
      clear hK hr hb hg E0
      refine wpAnyZ_one (i := 4) (by kernel_rfl) rfl rfl (fun K hK => ?_)
      go_simp
      obtain ⟨g4, hg4⟩ : ∃ b, Y2.heap.size = b := ⟨_, rfl⟩
      have hba : Below Y2.heap.size Y2 (Y2.alloc (.cells #[.int .i64 o.how, .int .i64 o.k, .int .i64 o.n, .slice pa o.p.length pc, .int .u8 o.fn] 44)) := (Below.refl _ _).alloc (Nat.le_refl _) _
      have HV4 := Lib.hid (lit_one Y2 B g4 (by rw [← hg4]; exact Nat.le_trans (Bd.low HBM.out) (by have := HB.out.size; have h2 := HMM.out; omega)) o _ hg4 (HP.out.below (bNext (HMM.out ▸ HB.out) HO.out.b)) OKO.out)
      have R2 := Lib.hid (R2.out.next hba)
      have HB := Lib.hid (HB.out.alloc (by have := HB.out.size; have h2 := HMM.out; omega) (.cells #[.int .i64 o.how, .int .i64 o.k, .int .i64 o.n, .slice pa o.p.length pc, .int .u8 o.fn] 44))
      have h4l : g4 < (Y2.alloc (.cells #[.int .i64 o.how, .int .i64 o.k, .int .i64 o.n, .slice pa o.p.length pc, .int .u8 o.fn] 44)).heap.size := by simp; omega
      rw [hg4]
      refine hK.out _ _ (.inr (by have h := HO.out.next (HMM.out ▸ HB.out); exact ⟨h.c0, h.c1, h.c2, h.c3, h.c4⟩)) ?_
      clear hK hba hg4
      generalize Y2.alloc (.cells #[.int .i64 o.how, .int .i64 o.k, .int .i64 o.n, .slice pa o.p.length pc, .int .u8 o.fn] 44) = Y3 at *
      refine wpAnyZ_one (i := 5) (by kernel_rfl) rfl rfl (fun K hK => ?_)
      refine wp_appC (.tmp 7) (.tmp 9) rfl B M v2 x [o] (.slice (some ⟨g4, 0, none⟩) 1 1) rfl R2.out rfl HV4.out (by have := HLL.out; simp; omega) HBM.out (by have := HB.out.size; have h2 := HMM.out; omega) ?_
      intro v5 Y4 hr hb hg
      have R5 := Lib.hid hr
      have HB := Lib.hid (HB.out.trans hb)
      refine hK.out _ _ (.inr (by have h := HO.out.next (HMM.out ▸ HB.out); exact ⟨h.c0, h.c1, h.c2, h.c3, h.c4⟩)) ?_
      clear hK hr hb hg R2 HV4
      refine wpAnyZ_one (i := 6) (by kernel_rfl) rfl rfl (fun K hK => ?_)
      go_simp
      refine hK.out _ _ (.inl (by omega)) ?_
      clear hK
      refine wpAnyZ_done (by kernel_rfl) ?_ _
      go_wp2_with fail
      go_ret
      exact ⟨⟨_, rfl, (R5.out.cop (Bd.low HBM.out))⟩, bNext (HMM.out ▸ HB.out) HO.out.b⟩
    · skip
      go_simp
      obtain ⟨g4, hg4⟩ : ∃ b, Y1.heap.size = b := ⟨_, rfl⟩
      have hba : Below Y1.heap.size Y1 (Y1.alloc (.cells #[.int .i64 o.how, .int .i64 o.k, .int .i64 o.n, .slice pa o.p.length pc, .int .u8 o.fn] 44)) := (Below.refl _ _).alloc (Nat.le_refl _) _
      have HV4 := Lib.hid (lit_one Y1 B g4 (by rw [← hg4]; exact Nat.le_trans (Bd.low HBM.out) (by have := HB.out.size; have h2 := HMM.out; omega)) o _ hg4 (HP.out.below (bNext (HMM.out ▸ HB.out) HO.out.b)) OKO.out)
      have E00 := E0; have E0 := Lib.hid (E0.out.next hba)
      have HB := Lib.hid (HB.out.alloc (by have := HB.out.size; have h2 := HMM.out; omega) (.cells #[.int .i64 o.how, .int .i64 o.k, .int .i64 o.n, .slice pa o.p.length pc, .int .u8 o.fn] 44))
      have n04 : g4 ≠ g0 := fun e => by obtain ⟨cs, h1, _⟩ := E00.out; have := (World.ownsRow.lt h1 g0 rfl).2; omega
      have h4l : g4 < (Y1.alloc (.cells #[.int .i64 o.how, .int .i64 o.k, .int .i64 o.n, .slice pa o.p.length pc, .int .u8 o.fn] 44)).heap.size := by simp; omega
      rw [hg4]
      refine hK.out _ _ (.inr (by have h := HO.out.next (HMM.out ▸ HB.out); exact ⟨h.c0, h.c1, h.c2, h.c3, h.c4⟩)) ?_
      clear hK hba hg4
      generalize Y1.alloc (.cells #[.int .i64 o.how, .int .i64 o.k, .int .i64 o.n, .slice pa o.p.length pc, .int .u8 o.fn] 44) = Y5 at *
      refine wpAnyZ_one (i := 2) (by kernel_rfl) rfl rfl (fun K hK => ?_)
      refine wp_appC (.tmp 5) (.tmp 6) rfl B M (.slice (some ⟨g0, 0, none⟩) 0 0) [] x (.slice a n c) rfl E0.out rfl (HX.out.below (bNext (HMM.out ▸ HB.out) HO.out.b)) (by have := HLL.out; simp; omega) HBM.out (by have := HB.out.size; have h2 := HMM.out; omega) ?_
      intro v2 Y6 hr hb hg
      have k1 := KeepTy.grown (t := 47) hg (fun g e => by obtain ⟨cs, h1, _⟩ := E0.out; obtain ⟨cur, hh⟩ := own_typed h1 e; exact NotTy.of hh (by decide))
      have HV4 := Lib.hid (HV4.out.same (hb.mono HBM.out) k1 (fun b off n c e _ => by cases e; exact hg.block _ (World.block_lt_of_cell? _ _ (by obtain ⟨b', off', _, _, e', x0, _⟩ := els_cop HV4.out.els (k := 0) (by simp); cases e'; exact x0)) (by simpa [Value.ownBlock] using n04)))
      have R2 := Lib.hid (show RowC B M _ v2 x from hr)
      have HB := Lib.hid (HB.out.trans hb)
      refine hK.out _ _ (.inr (by have h := HO.out.next (HMM.out ▸ HB.out); exact ⟨h.c0, h.c1, h.c2, h.c3, h.c4⟩)) ?_
      clear hK hr hb hg E0
      refine wpAnyZ_one (i := 5) (by kernel_rfl) rfl rfl (fun K hK => ?_)
      refine wp_appC (.tmp 7) (.tmp 9) rfl B M v2 x [o] (.slice (some ⟨g4, 0, none⟩) 1 1) rfl R2.out rfl HV4.out (by have := HLL.out; simp; omega) HBM.out (by have := HB.out.size; have h2 := HMM.out; omega) ?_
      intro v5 Y7 hr hb hg
      have R5 := Lib.hid hr
      have HB := Lib.hid (HB.out.trans hb)
      refine hK.out _ _ (.inr (by have h := HO.out.next (HMM.out ▸ HB.out); exact ⟨h.c0, h.c1, h.c2, h.c3, h.c4⟩)) ?_
      clear hK hr hb hg R2 HV4
      refine wpAnyZ_one (i := 6) (by kernel_rfl) rfl rfl (fun K hK => ?_)
      go_simp
      refine hK.out _ _ (.inl (by omega)) ?_
      clear hK
      refine wpAnyZ_done (by kernel_rfl) ?_ _
      go_wp2_with fail
      go_ret
      exact ⟨⟨_, rfl, (R5.out.cop (Bd.low HBM.out))⟩, bNext (HMM.out ▸ HB.out) HO.out.b⟩
  · skip
    go_simp
    obtain ⟨g4, hg4⟩ : ∃ b, Y.heap.size = b := ⟨_, rfl⟩
    have hba : Below Y.heap.size Y (Y.alloc (.cells #[.int .i64 o.how, .int .i64 o.k, .int .i64 o.n, .slice pa o.p.length pc, .int .u8 o.fn] 44)) := (Below.refl _ _).alloc (Nat.le_refl _) _
    have HV4 := Lib.hid (lit_one Y B g4 (by rw [← hg4]; exact Nat.le_trans (Bd.low HBM.out) (by have := HB.out.size; have h2 := HMM.out; omega)) o _ hg4 (HP.out.below (bNext (HMM.out ▸ HB.out) HO.out.b)) OKO.out)
    have HB := Lib.hid (HB.out.alloc (by have := HB.out.size; have h2 := HMM.out; omega) (.cells #[.int .i64 o.how, .int .i64 o.k, .int .i64 o.n, .slice pa o.p.length pc, .int .u8 o.fn] 44))
    have h4l : g4 < (Y.alloc (.cells #[.int .i64 o.how, .int .i64 o.k, .int .i64 o.n, .slice pa o.p.length pc, .int .u8 o.fn] 44)).heap.size := by simp; omega
    rw [hg4]
    refine hK.out _ _ (.inr (by have h := HO.out.next (HMM.out ▸ HB.out); exact ⟨h.c0, h.c1, h.c2, h.c3, h.c4⟩)) ?_
    clear hK hba hg4
    generalize Y.alloc (.cells #[.int .i64 o.how, .int .i64 o.k, .int .i64 o.n, .slice pa o.p.length pc, .int .u8 o.fn] 44) = Y8 at *
    refine wpAnyZ_one (i := 0) (by kernel_rfl) rfl rfl (fun K hK => ?_)
    go_simp
    obtain ⟨g0, hg0⟩ : ∃ b, Y8.heap.size = b := ⟨_, rfl⟩
    have hba : Below Y8.heap.size Y8 (Y8.alloc (.cells #[] 44)) := (Below.refl _ _).alloc (Nat.le_refl _) _
    have E0 := Lib.hid (RowC.new (B := B) (M := M) (by have := HB.out.size; have h2 := HMM.out; omega) hg0)
    have HV4 := Lib.hid (HV4.out.below hba)
    have HB := Lib.hid (HB.out.alloc (by have := HB.out.size; have h2 := HMM.out; omega) (.cells #[] 44))
    have n04 : g4 ≠ g0 := by omega
    rw [hg0]
    refine hK.out _ _ (.inr (by have h := HO.out.next (HMM.out ▸ HB.out); exact ⟨h.c0, h.c1, h.c2, h.c3, h.c4⟩)) ?_
    clear hK hba hg0
    generalize Y8.alloc (.cells #[] 44) = Y9 at *
    refine wpAnyZ_one (i := 2) (by kernel_rfl) rfl rfl (fun K hK => ?_)
    refine wp_appC (.tmp 5) (.tmp 6) rfl B M (.slice (some ⟨g0, 0, none⟩) 0 0) [] x (.slice a n c) rfl E0.out rfl (HX.out.below (bNext (HMM.out ▸ HB.out) HO.out.b)) (by have := HLL.out; simp; omega) HBM.out (by have := HB.out.size; have h2 := HMM.out; omega) ?_
    intro v2 Y10 hr hb hg
    have k1 := KeepTy.grown (t := 47) hg (fun g e => by obtain ⟨cs, h1, _⟩ := E0.out; obtain ⟨cur, hh⟩ := own_typed h1 e; exact NotTy.of hh (by decide))
    have HV4 := Lib.hid (HV4.out.same (hb.mono HBM.out) k1 (fun b off n c e _ => by cases e; exact hg.block _ (World.block_lt_of_cell? _ _ (by obtain ⟨b', off', _, _, e', x0, _⟩ := els_cop HV4.out.els (k := 0) (by simp); cases e'; exact x0)) (by simpa [Value.ownBlock] using n04)))
    have R2 := Lib.hid (show RowC B M _ v2 x from hr)
    have HB := Lib.hid (HB.out.trans hb)
    refine hK.out _ _ (.inr (by have h := HO.out.next (HMM.out ▸ HB.out); exact ⟨h.c0, h.c1, h.c2, h.c3, h.c4⟩)) ?_
    clear hK hr hb hg E0
    refine wpAnyZ_one (i := 5) (by kernel_rfl) rfl rfl (fun K hK => ?_)
    refine wp_appC (.tmp 7) (.tmp 9) rfl B M v2 x [o] (.slice (some ⟨g4, 0, none⟩) 1 1) rfl R2.out rfl HV4.out (by have := HLL.out; simp; omega) HBM.out (by have := HB.out.size; have h2 := HMM.out; omega) ?_
    intro v5 Y11 hr hb hg
    have R5 := Lib.hid hr
    have HB := Lib.hid (HB.out.trans hb)
    refine hK.out _ _ (.inr (by have h := HO.out.next (HMM.out ▸ HB.out); exact ⟨h.c0, h.c1, h.c2, h.c3, h.c4⟩)) ?_
    clear hK hr hb hg R2 HV4
    refine wpAnyZ_one (i := 6) (by kernel_rfl) rfl rfl (fun K hK => ?_)
    go_simp
    refine hK.out _ _ (.inl (by omega)) ?_
    clear hK
    refine wpAnyZ_done (by kernel_rfl) ?_ _
    go_wp2_with fail
    go_ret
    exact ⟨⟨_, rfl, (R5.out.cop (Bd.low HBM.out))⟩, bNext (HMM.out ▸ HB.out) HO.out.b⟩
end Go.Proofs.Ytmlfeocdcjhhaaa
