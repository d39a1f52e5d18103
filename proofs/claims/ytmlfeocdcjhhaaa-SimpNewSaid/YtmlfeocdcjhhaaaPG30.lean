import Derived.Test.YtmlfeocdcjhhaaaPG17
import Derived.Test.YtmlfeocdcjhhaaaPG23
import Derived.Test.YtmlfeocdcjhhaaaPG29
import Derived.Test.YtmlfeocdcjhhaaaPG21
import Derived.Test.YtmlfeocdcjhhaaaPG12
namespace Go.Proofs.Ytmlfeocdcjhhaaa
set_option maxRecDepth 100000
open Go.RowKit
set_option linter.unusedVariables false
set_option linter.unusedSimpArgs false
attribute [local go_sem ↓] Go.wp_at_zero Go.wp_at_succ

/-! Polynomials, buffers, steps in blocks that are old, or of their types; rows of the call's own. -/
def polO (B : Bd) : Rep (List Mono) where
  n := 1
  At w cs p := ∃ v, cs = [v] ∧ MonS B w v p
  len := by rintro w cs b ⟨v, rfl, _⟩; rfl
  keep := by rintro w w' cs b ⟨v, e, h⟩ hb; exact ⟨v, e, h.below hb⟩
  one := by
    rintro w cs b ⟨v, rfl, h⟩ u hu
    obtain ⟨a, c, rfl⟩ := h.1.form0
    cases List.mem_singleton.1 hu; rfl
def PolS (B : Bd) (w : World) (v : Value) (ps : List (List Mono)) : Prop := (polO B).Sl w v ps ∧ OkB B 38 w v
section
variable {B B' : Bd} {w w' : World} {v : Value} {ps : List (List Mono)}
theorem polO_keep (hB : Below B w w') (hk : KeepTy 47 w w') (cs : List Value) (p : List Mono) (h : (polO B).At w cs p) : (polO B).At w' cs p := by
  obtain ⟨v, e, h⟩ := h
  exact ⟨v, e, h.keep hB hk⟩
theorem polO_mono (hB : B.hi ≤ B'.hi) (hL : ∀ b, B.ok b → B'.ok b) {cs : List Value} {p : List Mono} (h : (polO B).At w cs p) : (polO B').At w cs p := by
  obtain ⟨v, e, h⟩ := h
  exact ⟨v, e, h.mono hB hL⟩
theorem PolS.keep (h : PolS B w v ps) (hB : Below B w w') (k1 : KeepTy 47 w w') (k2 : KeepTy 38 w w') : PolS B w' v ps := ⟨Sl_keep (polO_keep hB k1) h.1 h.2 hB k2, h.2.keep k2⟩
theorem PolS.below (h : PolS B w v ps) (hb : Below w.heap.size w w') : PolS B w' v ps := ⟨h.1.below _ hb (Nat.le_refl _), h.2.keep (KeepTy.below hb)⟩
theorem PolS.mono (h : PolS B w v ps) (hB : B.hi ≤ B'.hi) (hL : ∀ b, B.ok b → B'.ok b) : PolS B' w v ps := by
  obtain ⟨⟨a, cap, e, h1, h2, h3, hx⟩, ho⟩ := h
  refine ⟨⟨a, cap, e, h1, h2, h3, fun i hi => ?_⟩, ho.mono hB hL⟩
  obtain ⟨b, off, cs, e2, hat, hc⟩ := hx i hi
  exact ⟨b, off, cs, e2, polO_mono hB hL hat, hc⟩
theorem PolS.pol (h : PolS B w v ps) : polyRep.Sl w v ps := by
  obtain ⟨⟨a, cap, e, h1, h2, h3, hx⟩, _⟩ := h
  refine ⟨a, cap, e, h1, h2, h3, fun i hi => ?_⟩
  obtain ⟨b, off, cs, e2, ⟨u, e3, hu⟩, hc⟩ := hx i hi
  exact ⟨b, off, cs, e2, ⟨u, e3, hu.1⟩, hc⟩
theorem PolS.of (h : polyRep.Sl w v ps) : PolS (b0 w.heap.size) w v ps := by
  refine ⟨?_, OkB.old _ (by decide) h⟩
  obtain ⟨a, cap, e, h1, h2, h3, hx⟩ := h
  refine ⟨a, cap, e, h1, h2, h3, fun i hi => ?_⟩
  obtain ⟨b, off, cs, e2, ⟨u, e3, hu⟩, hc⟩ := hx i hi
  exact ⟨b, off, cs, e2, ⟨u, e3, MonS.of hu⟩, hc⟩
theorem PolS.ofB (h : polyRep.Sl w v ps) (hn : w.heap.size ≤ B.hi) (hok : ∀ b, b < w.heap.size → B.ok b) : PolS B w v ps := by
  refine ⟨?_, OkB.upB (Sl_lt (show 0 < 1 by decide) h) hn hok⟩
  obtain ⟨a, cap, e, h1, h2, h3, hx⟩ := h
  refine ⟨a, cap, e, h1, h2, h3, fun i hi => ?_⟩
  obtain ⟨b, off, cs, e2, ⟨u, e3, hu⟩, hc⟩ := hx i hi
  exact ⟨b, off, cs, e2, ⟨u, e3, MonS.ofB hu hn hok⟩, hc⟩
theorem PolS.form0 (h : PolS B w v ps) : ∃ a c, v = .slice a ps.length c := h.1.form0
end
def bufO (B : Bd) : Rep Buf where
  n := 2
  At w cs b := ∃ v, cs = [v, .int .i64 b.input] ∧ PolS B w v b.sides ∧ I64 b.input
  len := by rintro w cs b ⟨v, rfl, _⟩; rfl
  keep := by rintro w w' cs b ⟨v, e, h, h2⟩ hb; exact ⟨v, e, h.below hb, h2⟩
  one := by
    rintro w cs b ⟨v, rfl, h, _⟩ u hu
    obtain ⟨a, c, rfl⟩ := h.form0
    simp at hu
    rcases hu with rfl | rfl <;> rfl
def stpO (B : Bd) : Rep Stp where
  n := 6
  At w cs s := ∃ v0 v1 v2, cs = [.int .i64 s.how, .int .i64 s.buf, v0, v1, .int .u8 s.fn, v2] ∧ MonS B w v0 s.pos ∧ PolS B w v1 s.loops ∧ CopS B w v2 s.ops ∧ I64 s.how ∧ I64 s.buf ∧ U8 s.fn
  len := by rintro w cs b ⟨v0, v1, v2, rfl, _⟩; rfl
  keep := by rintro w w' cs b ⟨v0, v1, v2, e, h0, h1, h2, h3⟩ hb; exact ⟨v0, v1, v2, e, h0.below hb, h1.below hb, h2.below hb, h3⟩
  one := by
    rintro w cs b ⟨v0, v1, v2, rfl, h0, h1, h2, _⟩ u hu
    obtain ⟨a, c, rfl⟩ := h0.1.form0
    obtain ⟨a, c, rfl⟩ := h1.form0
    obtain ⟨a, c, rfl⟩ := h2.1.form0
    simp at hu
    rcases hu with rfl | rfl | rfl | rfl | rfl | rfl <;> rfl
section
variable {α : Type}
/-- what turns no thing of R: old blocks stay, and all of another type than t -/
def KeepR (R : Rep α) (B : Bd) (t : TypeId) : Prop := ∀ w w', Below B.hi w w' → (∀ u, u ≠ t → KeepTy u w w') → ∀ cs x, R.At w cs x → R.At w' cs x
theorem keep_pol (B : Bd) : KeepR (polO B) B 38 := fun w w' hB hk cs x h => polO_keep hB (hk _ (by decide)) cs x h
theorem keep_buf (B : Bd) : KeepR (bufO B) B 52 := fun w w' hB hk cs x h => by
  obtain ⟨v, e, h, h2⟩ := h
  exact ⟨v, e, h.keep hB (hk _ (by decide)) (hk _ (by decide)), h2⟩
theorem keep_stp (B : Bd) : KeepR (stpO B) B 42 := fun w w' hB hk cs x h => by
  obtain ⟨v0, v1, v2, e, h0, h1, h2, h3⟩ := h
  exact ⟨v0, v1, v2, e, h0.keep hB (hk _ (by decide)), h1.keep hB (hk _ (by decide)) (hk _ (by decide)), h2.keep hB (hk _ (by decide)) (hk _ (by decide)), h3⟩
theorem KeepR.cs {R : Rep α} {B : Bd} {t : TypeId} (h : KeepR R B t) {w w' : World} (hB : Below B.hi w w') (hk : ∀ u, u ≠ t → KeepTy u w w') : ∀ {xs : List α} {cs : List Value}, R.Cs w cs xs → R.Cs w' cs xs
  | [], cs, h => h
  | x :: xs, cs, ⟨ds, r, e, h1, h3⟩ => ⟨ds, r, e, h _ _ hB hk _ _ h1, KeepR.cs h hB hk h3⟩
/-- a row of the call's own, from block M on -/
def RowG (R : Rep α) (M : Nat) (t : TypeId) (w : World) (v : Value) (xs : List α) : Prop := ∃ cs, w.ownsRow M t R.n v xs.length cs ∧ R.Cs w cs xs
theorem RowG.nil (R : Rep α) (M : Nat) (t : TypeId) (w : World) : RowG R M t w (.slice none 0 0) [] := ⟨[], World.ownsRow_nil _ _ _ _, rfl⟩
theorem RowG.next {R : Rep α} {M : Nat} {t : TypeId} {w w' : World} {v : Value} {xs : List α} (h : RowG R M t w v xs) (hb : Below w.heap.size w w') : RowG R M t w' v xs := by
  obtain ⟨cs, h1, h2⟩ := h
  exact ⟨cs, own_keep h1 (KeepTy.below hb), Rep.Cs.keep hb h2⟩
/-- kept where a block of another type turns -/
theorem RowG.turn {R : Rep α} {B : Bd} {M : Nat} {t : TypeId} {w w' : World} {v : Value} {xs : List α} (h : RowG R M t w v xs) (hR : ∀ cs x, R.At w cs x → R.At w' cs x) (hk : KeepTy t w w') : RowG R M t w' v xs := by
  obtain ⟨cs, h1, h2⟩ := h
  refine ⟨cs, own_keep h1 hk, ?_⟩
  clear h1
  induction xs generalizing cs with
  | nil => exact h2
  | cons x xs ih =>
    obtain ⟨ds, r, e, h3, h4⟩ := h2
    exact ⟨ds, r, e, hR _ _ h3, ih _ h4⟩
theorem RowG.form {R : Rep α} {M : Nat} {t : TypeId} {w : World} {v : Value} {xs : List α} (h : RowG R M t w v xs) : ∃ a c, v = .slice a xs.length c := by
  obtain ⟨cs, ⟨_, ⟨hv, h0⟩ | ⟨g, cap, cur, hv, _⟩⟩, _⟩ := h
  · exact ⟨none, 0, by rw [hv, h0]⟩
  · exact ⟨_, _, hv⟩
theorem RowG.sl {R : Rep α} {M : Nat} {t : TypeId} {w : World} {v : Value} {xs : List α} (h : RowG R M t w v xs) (B : Bd) (hG : B.hi ≤ M) : R.Sl w v xs ∧ OkB B t w v := by
  obtain ⟨cs, h1, h2⟩ := h
  exact Own_sl B hG h1 h2 rfl
theorem src_block {w : World} {G : Nat} {cs : Array Value} {t : TypeId} (hG : w.heap[G]? = some (.cells cs t (0, 0))) (m : Nat) : Src w (.slice (some ⟨G, 0, none⟩) m m) m cs.toList := by
  refine .inr ⟨_, _, rfl, fun j z hz => ?_⟩
  have e : (⟨G, 0, none⟩ : Addr).add j = ⟨G, j, none⟩ := by unfold Addr.add; split <;> simp_all
  rw [e, cell_of_row _ _ j _ _ _ hG]
  simpa using hz
/-- one thing more, that lies in block G -/
theorem wpList_pushG {R : Rep α} {ops : Array Oper} {rest : List Oper} {o : Oper} {a : Act} {w : World} {Q : Exit → Act → World → Prop} (hgd : o.guard = none) (s x : Operand) (ts t : TypeId) (ho : o.op = .call { callee := .builtin .append, args := #[s, x], argTypes := #[ts, ts] })
    (z : Value) (bytes : Nat) (ht : Try.prog.underlying ts = some (.slice t)) (hi : (Try.prog.info? t).map (fun i => (i.zero, i.size, i.bytes)) = some (some z, R.n, bytes)) (hz : z.cells.size = R.n) (hn : 0 < R.n)
    (B : Bd) (M G : Nat) (hkr : KeepR R B t) (v : Value) (xs : List α) (y : α) (cs : Array Value) (hs : a.eval s = v) (hv : RowG R M t w v xs) (hx : a.eval x = .slice (some ⟨G, 0, none⟩) 1 1) (hG : w.heap[G]? = some (.cells cs t (0, 0))) (hy : R.At w cs.toList y)
    (hl : xs.length + 1 ≤ maxLen) (hby : (xs.length + 1) * bytes ≤ 140737488355328) (hBM : B.hi ≤ M) (hM : M ≤ w.heap.size)
    (h : ∀ v' w', RowG R M t w' v' (xs ++ [y]) → Below M w w' → w.grownBy w' v.ownBlock → (∀ u, u ≠ t → KeepTy u w w') → wpList Try.prog ops Q rest (a.put o.dst v') w') : wpList Try.prog ops Q (o :: rest) a w := by
  obtain ⟨i0, hi, hz0, hz1, hz2⟩ := info_parts hi
  obtain ⟨ds, h1, h2⟩ := hv
  refine wpList_append_src _ hgd s x ts ho M t i0 _ R.n bytes ht hi hz0 hz1 hz2 hz hn v xs.length ds hs h1 _ 1 cs.toList hx (src_block hG 1) (by rw [Nat.one_mul]; exact R.len _ _ _ hy) (R.one _ _ _ hy) hl hby hM ?_
  intro v' w' hown hg hnw
  have hge : ∀ j, v.ownBlock = some j → M ≤ j := fun j hj => (World.ownsRow.lt h1 j hj).1
  have hbM : Below M w w' := (Below.refl M w).grown hg hM hge
  have hk : ∀ u, u ≠ t → KeepTy u w w' := fun u hu => KeepTy.grown hg (fun g e => by obtain ⟨cur, hh⟩ := own_typed h1 e; exact NotTy.of hh (Ne.symm hu))
  have hbB : Below B.hi w w' := hbM.mono hBM
  exact h v' w' ⟨ds ++ cs.toList, by simpa using hown, (hkr.cs hbB hk (Rep.Cs.single hy)).append (hkr.cs hbB hk h2)⟩ hbM hg hk
theorem wp_pushG {R : Rep α} {o : Oper} {a : Act} {w : World} {K : Act → World → Prop} {Q : Exit → Act → World → Prop} (s x : Operand) (ts t : TypeId) (ho : o.op = .call { callee := .builtin .append, args := #[s, x], argTypes := #[ts, ts] })
    (z : Value) (bytes : Nat) (ht : Try.prog.underlying ts = some (.slice t)) (hi : (Try.prog.info? t).map (fun i => (i.zero, i.size, i.bytes)) = some (some z, R.n, bytes)) (hz : z.cells.size = R.n) (hn : 0 < R.n)
    (B : Bd) (M G : Nat) (hkr : KeepR R B t) (v : Value) (xs : List α) (y : α) (cs : Array Value) (hs : a.eval s = v) (hv : RowG R M t w v xs) (hx : a.eval x = .slice (some ⟨G, 0, none⟩) 1 1) (hG : w.heap[G]? = some (.cells cs t (0, 0))) (hy : R.At w cs.toList y)
    (hl : xs.length + 1 ≤ maxLen) (hby : (xs.length + 1) * bytes ≤ 140737488355328) (hBM : B.hi ≤ M) (hM : M ≤ w.heap.size)
    (h : ∀ v' w', RowG R M t w' v' (xs ++ [y]) → Below M w w' → w.grownBy w' v.ownBlock → (∀ u, u ≠ t → KeepTy u w w') → K (a.put o.dst v') w') : o.wp Try.prog a w K Q := by
  obtain ⟨i0, hi, hz0, hz1, hz2⟩ := info_parts hi
  obtain ⟨ds, h1, h2⟩ := hv
  refine wp_append_src _ s x ts ho M t i0 _ R.n bytes ht hi hz0 hz1 hz2 hz hn v xs.length ds hs h1 _ 1 cs.toList hx (src_block hG 1) (by rw [Nat.one_mul]; exact R.len _ _ _ hy) (R.one _ _ _ hy) hl hby hM ?_
  intro v' w' hown hg hnw
  have hge : ∀ j, v.ownBlock = some j → M ≤ j := fun j hj => (World.ownsRow.lt h1 j hj).1
  have hbM : Below M w w' := (Below.refl M w).grown hg hM hge
  have hk : ∀ u, u ≠ t → KeepTy u w w' := fun u hu => KeepTy.grown hg (fun g e => by obtain ⟨cur, hh⟩ := own_typed h1 e; exact NotTy.of hh (Ne.symm hu))
  have hbB : Below B.hi w w' := hbM.mono hBM
  exact h v' w' ⟨ds ++ cs.toList, by simpa using hown, (hkr.cs hbB hk (Rep.Cs.single hy)).append (hkr.cs hbB hk h2)⟩ hbM hg hk
end
end Go.Proofs.Ytmlfeocdcjhhaaa

namespace Go.Proofs.Ytmlfeocdcjhhaaa
set_option maxRecDepth 100000
open Go.RowKit
set_option linter.unusedVariables false
set_option linter.unusedSimpArgs false
attribute [local go_sem ↓] Go.wp_at_zero Go.wp_at_succ

/-! simp.copied, and the copy of numbers. -/
theorem els_polS {B : Bd} {w : World} {a : Option Addr} {n c : Nat} {ps : List (List Mono)} (h : PolS B w (.slice a n c) ps) {k : Nat} (hk : k < ps.length) : ∃ b off ua uc, a = some ⟨b, off, none⟩ ∧ w.cell? ⟨b, off + k, none⟩ = some (.slice ua ps[k].length uc) ∧ MonS B w (.slice ua ps[k].length uc) ps[k] := by
  obtain ⟨⟨a', cap, e, _, _, _, hx⟩, _⟩ := h
  simp only [Value.slice.injEq] at e
  obtain ⟨rfl, _, _⟩ := e
  obtain ⟨b, off, cs, e2, ⟨v, rfl, hm⟩, hc⟩ := hx k hk
  obtain ⟨ua, uc, rfl⟩ := hm.1.form0
  have x0 := hc 0 _ rfl
  rw [show off + k * (polO B).n + 0 = off + k from by show off + k * 1 + 0 = off + k; omega] at x0
  exact ⟨b, off, ua, uc, e2, x0, hm⟩
set_option maxHeartbeats 4000000 in
theorem copied_any (w : World) (B0 B : Bd) (hB : B.hi ≤ w.heap.size) (a : Option Addr) (n c : Nat) (ps : List (List Mono)) (h : PolS B0 w (.slice a n c) ps) (hn : n = ps.length) (hl : n ≤ 1048576) (hp : ∀ p ∈ ps, p.length ≤ 1048576) :
    Calls Try.prog 31 #[.slice a n c] w fun e w' => (∃ v, e = .returned v ∧ PolS B w' v ps) ∧ Below w.heap.size w w' := by
  have HC := Lib.hid h; have HN := Lib.hid hn; have HP := Lib.hid hp; have HB0 := Lib.hid hB
  clear h hn hp hB
  obtain ⟨M, hM⟩ : ∃ M, w.heap.size = M := ⟨_, rfl⟩
  have HM := Lib.hid hM
  clear hM
  go_enter Try.func31, Try.ntmps31
  go_wp2_with fail
  go_loopw [3, 8] (fun v i wr => ∃ k : Nat, k ≤ n ∧ i = .int .i64 k ∧ Below w.heap.size w wr ∧ RowG (polO B) M 38 wr v (ps.take k)) (fun _ i _ => n - (intOf i).toNat)
  case atStart => exact ⟨0, by omega, rfl, Below.refl _ _, RowG.nil _ _ _ _⟩
  case round =>
    obtain ⟨k, hk, rfl, hb, hrow⟩ := hrel
    by_cases hlt : k < n
    · have hkx : k < ps.length := by rw [← HN.out]; exact hlt
      obtain ⟨b1, off, ua, uc, rfl, x0, hm⟩ := els_polS (HC.out.below hb) hkx
      have hpl := HP.out _ (List.getElem_mem hkx)
      have hst : ps.take (k + 1) = ps.take k ++ [ps[k]] := List.take_succ_eq_append_getElem hkx
      have htl : (ps.take k).length = k := by rw [List.length_take]; omega
      generalize ps[k] = p at x0 hm hpl hst
      generalize ps.take k = qs at hrow hst htl
      obtain ⟨va, vc, rfl⟩ := hrow.form
      have hz0 : (0 : Int) ≤ (k : Int) := by omega
      have hz1 : (k : Int) < (n : Int) := by omega
      have HQ := Lib.hid (cloneM_any wr B0 B (Nat.le_trans (Bd.low HB0.out) hb.size) ua uc p hm hpl)
      have HROW := Lib.hid hrow; have HST := Lib.hid hst; have HTL := Lib.hid htl; have HBW := Lib.hid hb
      clear hm hpl hst htl hrow hb hkx
      go_wp2_with fail
      refine HQ.out.mono ?_
      rintro e W2 ⟨⟨v2, rfl, hv2⟩, hb2⟩
      obtain ⟨va2, vc2, rfl⟩ := hv2.1.form0
      obtain ⟨pl, hpl⟩ : ∃ m, p.length = m := ⟨_, rfl⟩
      rw [hpl] at hv2 ⊢
      obtain ⟨G, hG⟩ : ∃ G, W2.heap.size = G := ⟨_, rfl⟩
      have hba : Below W2.heap.size W2 (W2.alloc (.cells #[.slice va2 pl vc2] 38)) := (Below.refl _ _).alloc (Nat.le_refl _) _
      have HROW := Lib.hid ((HROW.out.next hb2).next hba); have HV := Lib.hid (hv2.below hba); have HG := Lib.hid (heap_new hG (o := .cells #[.slice va2 pl vc2] 38))
      have HBW := Lib.hid (bNext hba (bNext hb2 HBW.out))
      clear HQ hb2 hba hv2 hpl x0
      go_wp2_with (at_builtin; (refine wpList_pushG rfl _ _ 39 38 rfl (.slice none 0 0) 24 Try.underlying39 (by kernel_rfl) (by rfl) (Nat.zero_lt_one) B M G (keep_pol B) _ _ p _ rfl (by have := HROW.out; exact this) rfl HG.out ⟨_, rfl, HV.out⟩ (by rw [HTL.out]; unfold maxLen; omega) (by rw [HTL.out]; omega) (by rw [← HM.out]; exact HB0.out) (by rw [← HM.out]; exact HBW.out.size) ?_); intro v' wz hrz hbz hgz hkz)
      have HRZ := Lib.hid (show RowG (polO B) M 38 wz v' (ps.take (k + 1)) by rw [HST.out]; exact hrz)
      have HBZ := Lib.hid (HBW.out.trans (HM.out ▸ hbz))
      clear hrz hbz hgz hkz HROW HV HG hG HBW
      go_wp2_with fail
      go_roundw
      case rel => exact ⟨k + 1, by omega, by go_num, HBZ.out, HRZ.out⟩
      case measure => simp [intOf] <;> omega
    · obtain rfl : n = k := by omega
      rw [HN.out, List.take_length] at hrow
      obtain ⟨va, vc, rfl⟩ := hrow.form
      have hs := hrow.sl B (by rw [← HM.out]; exact Bd.low HB0.out)
      have HV := Lib.hid (show PolS B wr (.slice va ps.length vc) ps from hs); have HB := Lib.hid hb
      clear hrow hs hb hlt
      go_wp2_with fail
      go_ret
      exact ⟨⟨_, rfl, HV.out⟩, HB.out⟩
theorem eqlNilI (w : World) (a : Option Addr) (l c : Nat) : (binOp .eql 31 (.slice a l c) (.slice none 0 0)).run Try.prog w = .ok (.bool a.isNone) w := Lib.run_eql_slice_nil w 31 3 a l c 0 0 Try.underlying31
theorem Try.infoIntZ : (Try.prog.info? 3).map (fun i => (i.zero, i.size, i.bytes)) = some (some (.int .i64 0), 1, 8) := by kernel_rfl
/-- numbers, in blocks that are old or of their type -/
def IntG (B : Bd) (w : World) (v : Value) (xs : List Int) : Prop := (Rep.int .i64).Sl w v xs ∧ OkB B 3 w v
theorem int_cs {w w' : World} : ∀ {xs : List Int} {cs : List Value}, (Rep.int .i64).Cs w cs xs → (Rep.int .i64).Cs w' cs xs
  | [], cs, h => h
  | x :: xs, cs, ⟨ds, r, e, h1, h3⟩ => ⟨ds, r, e, h1, int_cs h3⟩
set_option maxHeartbeats 1000000 in
theorem cloneI_any (w : World) (B : Bd) (hL : B.hi ≤ w.heap.size) (a : Option Addr) (n c : Nat) (p : List Int) (h : (Rep.int .i64).Sl w (.slice a n c) p) (hn : n = p.length) (hl : n ≤ 1048576) :
    Calls Try.prog 30 #[.slice a n c] w fun e w' => (∃ v, e = .returned v ∧ IntG B w' v p) ∧ Below w.heap.size w w' := by
  subst hn
  obtain ⟨i0, hi, hz0, hz1, hz2⟩ := info_parts Try.infoIntZ
  have hn := eqlNilI w a p.length c
  cases a with
  | none =>
    have hx : p = [] := by
      cases p with
      | nil => rfl
      | cons x xs => obtain ⟨a', c', e, _, _, _, hx⟩ := h; simp only [Value.slice.injEq] at e; obtain ⟨b, off, cs, e2, _⟩ := hx 0 (by simp); rw [← e.1] at e2; cases e2
    subst hx
    clear h hi hz0 hz1 hz2 hn
    have hn := eqlNilI w none 0 c
    go_enter Try.func30, Try.ntmps30
    go_wp2
    go_ret
    exact ⟨⟨_, rfl, Rep.Sl.nil _ _, OkB.nil _ _ _ _ _⟩, Below.refl _ _⟩
  | some ad =>
    obtain ⟨cs, hcs, hsrc⟩ : ∃ cs, (Rep.int .i64).Cs w cs p ∧ Src w (.slice (some ad) p.length c) p.length cs := by
      obtain ⟨a', cap, e, h1, h2, h3, hx⟩ := h
      simp only [Value.slice.injEq] at e
      obtain ⟨rfl, -, rfl⟩ := e
      exact Rep.Els.cs (R := Rep.int .i64) (show 0 < 1 by decide) hx rfl (fun e => by cases e)
    have hcl := Rep.Cs.len hcs
    have hc1 := Rep.Cs.one hcs
    have hba : Below w.heap.size w (w.alloc (.cells #[] 3)) := (Below.refl _ _).alloc (Nat.le_refl _) _
    have HS := Lib.hid (hsrc.below hba)
    have HO := Lib.hid (World.ownsRow_made (base := w.heap.size) (e := 3) (size := 1) w #[] 0 (Nat.le_refl _) (Nat.zero_le _) rfl)
    have HCS := Lib.hid hcs; have HCL := Lib.hid hcl; have HC1 := Lib.hid hc1; have HB := Lib.hid hba
    have Hi := Lib.hid hi; have Hz0 := Lib.hid hz0; have Hz1 := Lib.hid hz1; have Hz2 := Lib.hid hz2
    clear h hcs hsrc hcl hc1 hba hi hz0 hz1 hz2
    go_enter Try.func30, Try.ntmps30
    go_wp2_with (at_builtin; (refine wpList_append_src _ rfl _ _ 31 rfl w.heap.size 3 i0 _ 1 8 Try.underlying31 Hi.out Hz0.out Hz1.out Hz2.out rfl (by decide) _ 0 _ rfl HO.out _ p.length cs rfl HS.out HCL.out HC1.out (by unfold maxLen; omega) (by omega) HB.out.size ?_); intro v' w1 hown hgrow _)
    have hr := Own_sl (R := Rep.int .i64) B hL hown (int_cs HCS.out) (by simp)
    have hb := HB.out.grown hgrow HB.out.size (fun k e => by cases e; exact Nat.le_refl _)
    have HR := Lib.hid hr; have HB2 := Lib.hid hb
    clear hown hgrow hr hb
    go_wp2
    go_ret
    exact ⟨⟨_, rfl, HR.out⟩, HB2.out⟩
end Go.Proofs.Ytmlfeocdcjhhaaa

namespace Go.Proofs.Ytmlfeocdcjhhaaa
set_option maxRecDepth 100000
open Go.RowKit
set_option linter.unusedVariables false
set_option linter.unusedSimpArgs false

/-! A core that is simplified: plain. -/
def stepO (s : Stp) : Stp := ⟨s.how, s.buf, s.pos, s.loops, s.fn, simpleC s.ops⟩
def coreC (c : Cor) : Cor := ⟨c.vars, c.bufs, c.steps.map stepO, c.outs⟩
def noneC : Cor := ⟨0, [], [], []⟩
def coreR (c : Cor) : Cor × Int := if rightB c then (coreC c, 0) else (noneC, 100)
theorem polyB_len {p : List Mono} (h : polyB p = true) : p.length ≤ 48 := by
  unfold polyB at h
  simp only [Bool.and_eq_true, decide_eq_true_eq] at h
  exact h.1
theorem both_len {V : Nat} {p : List Mono} (h : bothB V p = true) : p.length ≤ 48 := by
  unfold bothB ownB at h
  simp only [Bool.and_eq_true] at h
  exact polyB_len h.1.1
theorem grow_len {V : Nat} {l : List (List Mono)} (h : growB V l = true) : l.length ≤ 4 ∧ ∀ p ∈ l, p.length ≤ 48 := by
  unfold growB at h
  simp only [Bool.and_eq_true, decide_eq_true_eq, List.all_eq_true] at h
  exact ⟨h.1, fun p hp => both_len (h.2 p hp)⟩
theorem opB_p {V L : Nat} {made : List Bool} {o : Cop} (h : opB V L made o = true) : o.p.length ≤ 48 ∧ (o.how ≠ 2 → o.p = []) := by
  unfold opB at h
  by_cases h1 : o.how = 1
  · rw [if_pos h1] at h
    simp only [Bool.and_eq_true, decide_eq_true_eq] at h
    have hp : o.p = [] := List.eq_nil_of_length_eq_zero h.1.2
    exact ⟨by rw [hp]; simp, fun _ => hp⟩
  rw [if_neg h1] at h
  by_cases h2 : o.how = 2
  · rw [if_pos h2] at h
    unfold ownB at h
    simp only [Bool.and_eq_true] at h
    exact ⟨polyB_len h.2.1, fun e => absurd h2 e⟩
  rw [if_neg h2] at h
  by_cases h3 : o.how = 3
  · rw [if_pos h3] at h
    simp only [Bool.and_eq_true, decide_eq_true_eq] at h
    have hp : o.p = [] := List.eq_nil_of_length_eq_zero h.1.2
    exact ⟨by rw [hp]; simp, fun _ => hp⟩
  rw [if_neg h3] at h
  by_cases h4 : o.how = 4
  · rw [if_pos h4] at h
    simp only [Bool.and_eq_true, decide_eq_true_eq] at h
    have hp : o.p = [] := List.eq_nil_of_length_eq_zero h.1.2
    exact ⟨by rw [hp]; simp, fun _ => hp⟩
  rw [if_neg h4] at h
  by_cases h5 : o.how = 5
  · rw [if_pos h5] at h
    simp only [Bool.and_eq_true, decide_eq_true_eq] at h
    have hp : o.p = [] := List.eq_nil_of_length_eq_zero h.1.2
    exact ⟨by rw [hp]; simp, fun _ => hp⟩
  rw [if_neg h5] at h
  by_cases h6 : o.how = 6
  · rw [if_pos h6] at h
    simp only [Bool.and_eq_true, decide_eq_true_eq] at h
    have hp : o.p = [] := List.eq_nil_of_length_eq_zero h.1.2
    exact ⟨by rw [hp]; simp, fun _ => hp⟩
  rw [if_neg h6] at h
  cases h
/-- what a right step's parts are -/
structure FineS (s : Stp) : Prop where
  pos : s.pos.length ≤ 48
  loops : s.loops.length ≤ 4
  each : ∀ p ∈ s.loops, p.length ≤ 48
  ops : s.ops.length ≤ 256
  deep : 0 ≤ depthI s.ops
  p : ∀ o ∈ s.ops, o.p.length ≤ 48
  no : ∀ o ∈ s.ops, o.how ≠ 2 → o.p = []
theorem stepQ_fine {V : Nat} {made : List Bool} {s : Stp} (h : stepQ V made s = true) : FineS s := by
  unfold stepQ at h
  simp only [Bool.and_eq_true, decide_eq_true_eq, List.all_eq_true] at h
  obtain ⟨⟨⟨⟨⟨⟨⟨⟨h1, h2⟩, -⟩, -⟩, -⟩, -⟩, h3⟩, h4⟩, h5⟩ := h
  have h6 : ∀ o ∈ s.ops, opB V s.loops.length made o = true := fun o ho => by
    have := h5 o ho
    unfold opS at this
    simp only [Bool.and_eq_true] at this
    exact this.1
  exact ⟨both_len h1, (grow_len h2).1, (grow_len h2).2, h3, h4, fun o ho => (opB_p (h6 o ho)).1, fun o ho => (opB_p (h6 o ho)).2⟩
theorem stepsK_fine {V : Nat} {bufs : List Buf} : ∀ {l : List Stp} {made : List Bool}, stepsK V bufs l made = true → ∀ s ∈ l, FineS s
  | [], _, _, s, hs => by cases hs
  | x :: l, made, h, s, hs => by
    unfold stepsK at h
    simp only [Bool.and_eq_true] at h
    rcases List.mem_cons.1 hs with rfl | hs
    · have h1 := h.1
      unfold stepS at h1
      simp only [Bool.and_eq_true] at h1
      exact stepQ_fine h1.2
    · exact stepsK_fine h.2 s hs
theorem bufs_fine {V : Nat} {bufs : List Buf} (h : bufsOk V bufs = true) : ∀ b ∈ bufs, b.sides.length ≤ 4 ∧ ∀ p ∈ b.sides, p.length ≤ 48 := fun b hb => by
  obtain ⟨i, hi, rfl⟩ := List.getElem_of_mem hb
  unfold bufsOk at h
  have h1 := List.all_eq_true.1 h i (List.mem_range.2 hi)
  rw [List.getElem?_eq_getElem hi] at h1
  unfold bufOk at h1
  simp only [Bool.and_eq_true] at h1
  exact grow_len h1.1.1.1
/-- what a right core's parts are -/
structure FineC (c : Cor) : Prop where
  bl : c.bufs.length ≤ 1024
  sl : c.steps.length ≤ 1024
  ol : c.outs.length ≤ 64
  bufs : ∀ b ∈ c.bufs, b.sides.length ≤ 4 ∧ ∀ p ∈ b.sides, p.length ≤ 48
  steps : ∀ s ∈ c.steps, FineS s
theorem right_fine {c : Cor} (h : rightB c = true) : FineC c := by
  obtain ⟨-, -, h1, h2, h3⟩ := right_vars h
  refine ⟨h1, h2, h3, bufs_fine (right_bufs h), ?_⟩
  unfold rightB at h
  simp only [Bool.and_eq_true] at h
  exact stepsK_fine h.2.2.1
end Go.Proofs.Ytmlfeocdcjhhaaa
