import Derived.Test.YtmlfeocdcjhhaaaPH15
import Derived.Test.YtmlfeocdcjhhaaaPH19
import Derived.Test.YtmlfeocdcjhhaaaPH22
import Derived.Test.YtmlfeocdcjhhaaaPH20
import Derived.Test.YtmlfeocdcjhhaaaPH1
import Derived.Test.YtmlfeocdcjhhaaaPH2
namespace Go.Proofs.Ytmlfeocdcjhhaaa
set_option maxRecDepth 100000
open Go.RowKit
set_option linter.unusedVariables false
set_option linter.unusedSimpArgs false
attribute [local go_sem ↓] Go.wp_at_zero Go.wp_at_succ

def polO (B : Bd) : Rep (List Mono) where
  n := 1
  At w cs p := ∃ v, cs = [v] ∧ MonS B w v p
  len := by rintro w cs b ⟨v, rfl, _⟩; rfl
  keep := by rintro w w' cs b ⟨v, e, h⟩ hb; exact ⟨v, e, h.below hb⟩
  one := by
    rintro w cs b ⟨v, rfl, h⟩ u hu
    obtain ⟨a, c, rfl⟩ := h.1.form0
    cases List.mem_singleton.1 hu; rfl
def PolS (B : Bd) (w : World) (v : Value) (ps : List (List Mono)) : Prop := (polO B).Sl w v ps ∧ OkB B 38 w v
section
variable {B B' : Bd} {w w' : World} {v : Value} {ps : List (List Mono)}
theorem polO_keep (hB : Below B w w') (hk : KeepTy 47 w w') (cs : List Value) (p : List Mono) (h : (polO B).At w cs p) : (polO B).At w' cs p := by
  obtain ⟨v, e, h⟩ := h
  exact ⟨v, e, h.keep hB hk⟩
theorem polO_mono (hB : B.hi ≤ B'.hi) (hL : ∀ b, B.ok b → B'.ok b) {cs : List Value} {p : List Mono} (h : (polO B).At w cs p) : (polO B').At w cs p := by
  obtain ⟨v, e, h⟩ := h
  exact ⟨v, e, h.mono hB hL⟩
theorem PolS.keep (h : PolS B w v ps) (hB : Below B w w') (k1 : KeepTy 47 w w') (k2 : KeepTy 38 w w') : PolS B w' v ps := ⟨Sl_keep (polO_keep hB k1) h.1 h.2 hB k2, h.2.keep k2⟩
theorem PolS.below (h : PolS B w v ps) (hb : Below w.heap.size w w') : PolS B w' v ps := ⟨h.1.below _ hb (Nat.le_refl _), h.2.keep (KeepTy.below hb)⟩
theorem PolS.mono (h : PolS B w v ps) (hB : B.hi ≤ B'.hi) (hL : ∀ b, B.ok b → B'.ok b) : PolS B' w v ps := by
  obtain ⟨⟨a, cap, e, h1, h2, h3, hx⟩, ho⟩ := h
  refine ⟨⟨a, cap, e, h1, h2, h3, fun i hi => ?_⟩, ho.mono hB hL⟩
  obtain ⟨b, off, cs, e2, hat, hc⟩ := hx i hi
  exact ⟨b, off, cs, e2, polO_mono hB hL hat, hc⟩
theorem PolS.pol (h : PolS B w v ps) : polyRep.Sl w v ps := by
  obtain ⟨⟨a, cap, e, h1, h2, h3, hx⟩, _⟩ := h
  refine ⟨a, cap, e, h1, h2, h3, fun i hi => ?_⟩
  obtain ⟨b, off, cs, e2, ⟨u, e3, hu⟩, hc⟩ := hx i hi
  exact ⟨b, off, cs, e2, ⟨u, e3, hu.1⟩, hc⟩
theorem PolS.of (h : polyRep.Sl w v ps) : PolS (b0 w.heap.size) w v ps := by
  refine ⟨?_, OkB.old _ (by decide) h⟩
  obtain ⟨a, cap, e, h1, h2, h3, hx⟩ := h
  refine ⟨a, cap, e, h1, h2, h3, fun i hi => ?_⟩
  obtain ⟨b, off, cs, e2, ⟨u, e3, hu⟩, hc⟩ := hx i hi
  exact ⟨b, off, cs, e2, ⟨u, e3, MonS.of hu⟩, hc⟩
theorem PolS.form0 (h : PolS B w v ps) : ∃ a c, v = .slice a ps.length c := h.1.form0
end
def bufO (B : Bd) : Rep Buf where
  n := 2
  At w cs b := ∃ v, cs = [v, .int .i64 b.input] ∧ PolS B w v b.sides ∧ I64 b.input
  len := by rintro w cs b ⟨v, rfl, _⟩; rfl
  keep := by rintro w w' cs b ⟨v, e, h, h2⟩ hb; exact ⟨v, e, h.below hb, h2⟩
  one := by
    rintro w cs b ⟨v, rfl, h, _⟩ u hu
    obtain ⟨a, c, rfl⟩ := h.form0
    simp at hu
    rcases hu with rfl | rfl <;> rfl
def stpO (B : Bd) : Rep Stp where
  n := 6
  At w cs s := ∃ v0 v1 v2, cs = [.int .i64 s.how, .int .i64 s.buf, v0, v1, .int .u8 s.fn, v2] ∧ MonS B w v0 s.pos ∧ PolS B w v1 s.loops ∧ CopS B w v2 s.ops ∧ I64 s.how ∧ I64 s.buf ∧ U8 s.fn
  len := by rintro w cs b ⟨v0, v1, v2, rfl, _⟩; rfl
  keep := by rintro w w' cs b ⟨v0, v1, v2, e, h0, h1, h2, h3⟩ hb; exact ⟨v0, v1, v2, e, h0.below hb, h1.below hb, h2.below hb, h3⟩
  one := by
    rintro w cs b ⟨v0, v1, v2, rfl, h0, h1, h2, _⟩ u hu
    obtain ⟨a, c, rfl⟩ := h0.1.form0
    obtain ⟨a, c, rfl⟩ := h1.form0
    obtain ⟨a, c, rfl⟩ := h2.1.form0
    simp at hu
    rcases hu with rfl | rfl | rfl | rfl | rfl | rfl <;> rfl
section
variable {α : Type}
/-- what turns no thing of R: old blocks stay, and all of another type than t -/
def KeepR (R : Rep α) (B : Bd) (t : TypeId) : Prop := ∀ w w', Below B.hi w w' → (∀ u, u ≠ t → KeepTy u w w') → ∀ cs x, R.At w cs x → R.At w' cs x
theorem keep_pol (B : Bd) : KeepR (polO B) B 38 := fun w w' hB hk cs x h => polO_keep hB (hk _ (by decide)) cs x h
theorem keep_buf (B : Bd) : KeepR (bufO B) B 52 := fun w w' hB hk cs x h => by
  obtain ⟨v, e, h, h2⟩ := h
  exact ⟨v, e, h.keep hB (hk _ (by decide)) (hk _ (by decide)), h2⟩
theorem keep_stp (B : Bd) : KeepR (stpO B) B 42 := fun w w' hB hk cs x h => by
  obtain ⟨v0, v1, v2, e, h0, h1, h2, h3⟩ := h
  exact ⟨v0, v1, v2, e, h0.keep hB (hk _ (by decide)), h1.keep hB (hk _ (by decide)) (hk _ (by decide)), h2.keep hB (hk _ (by decide)) (hk _ (by decide)), h3⟩
theorem KeepR.cs {R : Rep α} {B : Bd} {t : TypeId} (h : KeepR R B t) {w w' : World} (hB : Below B.hi w w') (hk : ∀ u, u ≠ t → KeepTy u w w') : ∀ {xs : List α} {cs : List Value}, R.Cs w cs xs → R.Cs w' cs xs
  | [], cs, h => h
  | x :: xs, cs, ⟨ds, r, e, h1, h3⟩ => ⟨ds, r, e, h _ _ hB hk _ _ h1, KeepR.cs h hB hk h3⟩
/-- a row of the call's own, from block M on -/
def RowG (R : Rep α) (M : Nat) (t : TypeId) (w : World) (v : Value) (xs : List α) : Prop := ∃ cs, w.ownsRow M t R.n v xs.length cs ∧ R.Cs w cs xs
theorem RowG.nil (R : Rep α) (M : Nat) (t : TypeId) (w : World) : RowG R M t w (.slice none 0 0) [] := ⟨[], World.ownsRow_nil _ _ _ _, rfl⟩
theorem RowG.next {R : Rep α} {M : Nat} {t : TypeId} {w w' : World} {v : Value} {xs : List α} (h : RowG R M t w v xs) (hb : Below w.heap.size w w') : RowG R M t w' v xs := by
  obtain ⟨cs, h1, h2⟩ := h
  exact ⟨cs, own_keep h1 (KeepTy.below hb), Rep.Cs.keep hb h2⟩
/-- kept where a block of another type turns -/
theorem RowG.turn {R : Rep α} {B : Bd} {M : Nat} {t : TypeId} {w w' : World} {v : Value} {xs : List α} (h : RowG R M t w v xs) (hR : ∀ cs x, R.At w cs x → R.At w' cs x) (hk : KeepTy t w w') : RowG R M t w' v xs := by
  obtain ⟨cs, h1, h2⟩ := h
  refine ⟨cs, own_keep h1 hk, ?_⟩
  clear h1
  induction xs generalizing cs with
  | nil => exact h2
  | cons x xs ih =>
    obtain ⟨ds, r, e, h3, h4⟩ := h2
    exact ⟨ds, r, e, hR _ _ h3, ih _ h4⟩
theorem RowG.form {R : Rep α} {M : Nat} {t : TypeId} {w : World} {v : Value} {xs : List α} (h : RowG R M t w v xs) : ∃ a c, v = .slice a xs.length c := by
  obtain ⟨cs, ⟨_, ⟨hv, h0⟩ | ⟨g, cap, cur, hv, _⟩⟩, _⟩ := h
  · exact ⟨none, 0, by rw [hv, h0]⟩
  · exact ⟨_, _, hv⟩
theorem RowG.sl {R : Rep α} {M : Nat} {t : TypeId} {w : World} {v : Value} {xs : List α} (h : RowG R M t w v xs) (B : Bd) (hG : B.hi ≤ M) : R.Sl w v xs ∧ OkB B t w v := by
  obtain ⟨cs, h1, h2⟩ := h
  exact Own_sl B hG h1 h2 rfl
theorem src_block {w : World} {G : Nat} {cs : Array Value} {t : TypeId} (hG : w.heap[G]? = some (.cells cs t (0, 0))) (m : Nat) : Src w (.slice (some ⟨G, 0, none⟩) m m) m cs.toList := by
  refine .inr ⟨_, _, rfl, fun j z hz => ?_⟩
  have e : (⟨G, 0, none⟩ : Addr).add j = ⟨G, j, none⟩ := by unfold Addr.add; split <;> simp_all
  rw [e, cell_of_row _ _ j _ _ _ hG]
  simpa using hz
/-- one thing more, that lies in block G -/
theorem wpList_pushG {R : Rep α} {ops : Array Oper} {rest : List Oper} {o : Oper} {a : Act} {w : World} {Q : Exit → Act → World → Prop} (hgd : o.guard = none) (s x : Operand) (ts t : TypeId) (ho : o.op = .call { callee := .builtin .append, args := #[s, x], argTypes := #[ts, ts] })
    (z : Value) (bytes : Nat) (ht : Try.prog.underlying ts = some (.slice t)) (hi : (Try.prog.info? t).map (fun i => (i.zero, i.size, i.bytes)) = some (some z, R.n, bytes)) (hz : z.cells.size = R.n) (hn : 0 < R.n)
    (B : Bd) (M G : Nat) (hkr : KeepR R B t) (v : Value) (xs : List α) (y : α) (cs : Array Value) (hs : a.eval s = v) (hv : RowG R M t w v xs) (hx : a.eval x = .slice (some ⟨G, 0, none⟩) 1 1) (hG : w.heap[G]? = some (.cells cs t (0, 0))) (hy : R.At w cs.toList y)
    (hl : xs.length + 1 ≤ maxLen) (hby : (xs.length + 1) * bytes ≤ 140737488355328) (hBM : B.hi ≤ M) (hM : M ≤ w.heap.size)
    (h : ∀ v' w', RowG R M t w' v' (xs ++ [y]) → Below M w w' → w.grownBy w' v.ownBlock → (∀ u, u ≠ t → KeepTy u w w') → wpList Try.prog ops Q rest (a.put o.dst v') w') : wpList Try.prog ops Q (o :: rest) a w := by
  obtain ⟨i0, hi, hz0, hz1, hz2⟩ := info_parts hi
  obtain ⟨ds, h1, h2⟩ := hv
  refine wpList_append_src _ hgd s x ts ho M t i0 _ R.n bytes ht hi hz0 hz1 hz2 hz hn v xs.length ds hs h1 _ 1 cs.toList hx (src_block hG 1) (by rw [Nat.one_mul]; exact R.len _ _ _ hy) (R.one _ _ _ hy) hl hby hM ?_
  intro v' w' hown hg hnw
  have hge : ∀ j, v.ownBlock = some j → M ≤ j := fun j hj => (World.ownsRow.lt h1 j hj).1
  have hbM : Below M w w' := (Below.refl M w).grown hg hM hge
  have hk : ∀ u, u ≠ t → KeepTy u w w' := fun u hu => KeepTy.grown hg (fun g e => by obtain ⟨cur, hh⟩ := own_typed h1 e; exact NotTy.of hh (Ne.symm hu))
  have hbB : Below B.hi w w' := hbM.mono hBM
  exact h v' w' ⟨ds ++ cs.toList, by simpa using hown, (hkr.cs hbB hk (Rep.Cs.single hy)).append (hkr.cs hbB hk h2)⟩ hbM hg hk
theorem wp_pushG {R : Rep α} {o : Oper} {a : Act} {w : World} {K : Act → World → Prop} {Q : Exit → Act → World → Prop} (s x : Operand) (ts t : TypeId) (ho : o.op = .call { callee := .builtin .append, args := #[s, x], argTypes := #[ts, ts] })
    (z : Value) (bytes : Nat) (ht : Try.prog.underlying ts = some (.slice t)) (hi : (Try.prog.info? t).map (fun i => (i.zero, i.size, i.bytes)) = some (some z, R.n, bytes)) (hz : z.cells.size = R.n) (hn : 0 < R.n)
    (B : Bd) (M G : Nat) (hkr : KeepR R B t) (v : Value) (xs : List α) (y : α) (cs : Array Value) (hs : a.eval s = v) (hv : RowG R M t w v xs) (hx : a.eval x = .slice (some ⟨G, 0, none⟩) 1 1) (hG : w.heap[G]? = some (.cells cs t (0, 0))) (hy : R.At w cs.toList y)
    (hl : xs.length + 1 ≤ maxLen) (hby : (xs.length + 1) * bytes ≤ 140737488355328) (hBM : B.hi ≤ M) (hM : M ≤ w.heap.size)
    (h : ∀ v' w', RowG R M t w' v' (xs ++ [y]) → Below M w w' → w.grownBy w' v.ownBlock → (∀ u, u ≠ t → KeepTy u w w') → K (a.put o.dst v') w') : o.wp Try.prog a w K Q := by
  obtain ⟨i0, hi, hz0, hz1, hz2⟩ := info_parts hi
  obtain ⟨ds, h1, h2⟩ := hv
  refine wp_append_src _ s x ts ho M t i0 _ R.n bytes ht hi hz0 hz1 hz2 hz hn v xs.length ds hs h1 _ 1 cs.toList hx (src_block hG 1) (by rw [Nat.one_mul]; exact R.len _ _ _ hy) (R.one _ _ _ hy) hl hby hM ?_
  intro v' w' hown hg hnw
  have hge : ∀ j, v.ownBlock = some j → M ≤ j := fun j hj => (World.ownsRow.lt h1 j hj).1
  have hbM : Below M w w' := (Below.refl M w).grown hg hM hge
  have hk : ∀ u, u ≠ t → KeepTy u w w' := fun u hu => KeepTy.grown hg (fun g e => by obtain ⟨cur, hh⟩ := own_typed h1 e; exact NotTy.of hh (Ne.symm hu))
  have hbB : Below B.hi w w' := hbM.mono hBM
  exact h v' w' ⟨ds ++ cs.toList, by simpa using hown, (hkr.cs hbB hk (Rep.Cs.single hy)).append (hkr.cs hbB hk h2)⟩ hbM hg hk
end
end Go.Proofs.Ytmlfeocdcjhhaaa

namespace Go.Proofs.Ytmlfeocdcjhhaaa
set_option maxRecDepth 100000
open Go.RowKit
set_option linter.unusedVariables false
set_option linter.unusedSimpArgs false
attribute [local go_sem ↓] Go.wp_at_zero Go.wp_at_succ

theorem els_polS {B : Bd} {w : World} {a : Option Addr} {n c : Nat} {ps : List (List Mono)} (h : PolS B w (.slice a n c) ps) {k : Nat} (hk : k < ps.length) : ∃ b off ua uc, a = some ⟨b, off, none⟩ ∧ w.cell? ⟨b, off + k, none⟩ = some (.slice ua ps[k].length uc) ∧ MonS B w (.slice ua ps[k].length uc) ps[k] := by
  obtain ⟨⟨a', cap, e, _, _, _, hx⟩, _⟩ := h
  simp only [Value.slice.injEq] at e
  obtain ⟨rfl, _, _⟩ := e
  obtain ⟨b, off, cs, e2, ⟨v, rfl, hm⟩, hc⟩ := hx k hk
  obtain ⟨ua, uc, rfl⟩ := hm.1.form0
  have x0 := hc 0 _ rfl
  rw [show off + k * (polO B).n + 0 = off + k from by show off + k * 1 + 0 = off + k; omega] at x0
  exact ⟨b, off, ua, uc, e2, x0, hm⟩
set_option maxHeartbeats 4000000 in
theorem copied_any (w : World) (B0 B : Bd) (hB : B.hi ≤ w.heap.size) (a : Option Addr) (n c : Nat) (ps : List (List Mono)) (h : PolS B0 w (.slice a n c) ps) (hn : n = ps.length) (hl : n ≤ 1048576) (hp : ∀ p ∈ ps, p.length ≤ 1048576) :
    Calls Try.prog 31 #[.slice a n c] w fun e w' => (∃ v, e = .returned v ∧ PolS B w' v ps) ∧ Below w.heap.size w w' := by
  have HC := Lib.hid h; have HN := Lib.hid hn; have HP := Lib.hid hp; have HB0 := Lib.hid hB
  clear h hn hp hB
  obtain ⟨M, hM⟩ : ∃ M, w.heap.size = M := ⟨_, rfl⟩
  have HM := Lib.hid hM
  clear hM
  go_enter Try.func31, Try.ntmps31
  go_wp2_with fail
  go_loopw [3, 8] (fun v i wr => ∃ k : Nat, k ≤ n ∧ i = .int .i64 k ∧ Below w.heap.size w wr ∧ RowG (polO B) M 38 wr v (ps.take k)) (fun _ i _ => n - (intOf i).toNat)
  case atStart => exact ⟨0, by omega, rfl, Below.refl _ _, RowG.nil _ _ _ _⟩
  case round =>
    obtain ⟨k, hk, rfl, hb, hrow⟩ := hrel
    by_cases hlt : k < n
    · have hkx : k < ps.length := by rw [← HN.out]; exact hlt
      obtain ⟨b1, off, ua, uc, rfl, x0, hm⟩ := els_polS (HC.out.below hb) hkx
      have hpl := HP.out _ (List.getElem_mem hkx)
      have hst : ps.take (k + 1) = ps.take k ++ [ps[k]] := List.take_succ_eq_append_getElem hkx
      have htl : (ps.take k).length = k := by rw [List.length_take]; omega
      generalize ps[k] = p at x0 hm hpl hst
      generalize ps.take k = qs at hrow hst htl
      obtain ⟨va, vc, rfl⟩ := hrow.form
      have hz0 : (0 : Int) ≤ (k : Int) := by omega
      have hz1 : (k : Int) < (n : Int) := by omega
      have HQ := Lib.hid (cloneM_any wr B0 B (Nat.le_trans (Bd.low HB0.out) hb.size) ua uc p hm hpl)
      have HROW := Lib.hid hrow; have HST := Lib.hid hst; have HTL := Lib.hid htl; have HBW := Lib.hid hb
      clear hm hpl hst htl hrow hb hkx
      go_wp2_with fail
      refine HQ.out.mono ?_
      rintro e W2 ⟨⟨v2, rfl, hv2⟩, hb2⟩
      obtain ⟨va2, vc2, rfl⟩ := hv2.1.form0
      obtain ⟨pl, hpl⟩ : ∃ m, p.length = m := ⟨_, rfl⟩
      rw [hpl] at hv2 ⊢
      obtain ⟨G, hG⟩ : ∃ G, W2.heap.size = G := ⟨_, rfl⟩
      have hba : Below W2.heap.size W2 (W2.alloc (.cells #[.slice va2 pl vc2] 38)) := (Below.refl _ _).alloc (Nat.le_refl _) _
      have HROW := Lib.hid ((HROW.out.next hb2).next hba); have HV := Lib.hid (hv2.below hba); have HG := Lib.hid (heap_new hG (o := .cells #[.slice va2 pl vc2] 38))
      have HBW := Lib.hid (bNext hba (bNext hb2 HBW.out))
      clear HQ hb2 hba hv2 hpl x0
      go_wp2_with (at_builtin; (refine wpList_pushG rfl _ _ 39 38 rfl (.slice none 0 0) 24 Try.underlying39 (by kernel_rfl) (by rfl) (Nat.zero_lt_one) B M G (keep_pol B) _ _ p _ rfl (by have := HROW.out; exact this) rfl HG.out ⟨_, rfl, HV.out⟩ (by rw [HTL.out]; unfold maxLen; omega) (by rw [HTL.out]; omega) (by rw [← HM.out]; exact HB0.out) (by rw [← HM.out]; exact HBW.out.size) ?_); intro v' wz hrz hbz hgz hkz)
      have HRZ := Lib.hid (show RowG (polO B) M 38 wz v' (ps.take (k + 1)) by rw [HST.out]; exact hrz)
      have HBZ := Lib.hid (HBW.out.trans (HM.out ▸ hbz))
      clear hrz hbz hgz hkz HROW HV HG hG HBW
      go_wp2_with fail
      go_roundw
      case rel => exact ⟨k + 1, by omega, by go_num, HBZ.out, HRZ.out⟩
      case measure => simp [intOf] <;> omega
    · obtain rfl : n = k := by omega
      rw [HN.out, List.take_length] at hrow
      obtain ⟨va, vc, rfl⟩ := hrow.form
      have hs := hrow.sl B (by rw [← HM.out]; exact Bd.low HB0.out)
      have HV := Lib.hid (show PolS B wr (.slice va ps.length vc) ps from hs); have HB := Lib.hid hb
      clear hrow hs hb hlt
      go_wp2_with fail
      go_ret
      exact ⟨⟨_, rfl, HV.out⟩, HB.out⟩
theorem eqlNilI (w : World) (a : Option Addr) (l c : Nat) : (binOp .eql 31 (.slice a l c) (.slice none 0 0)).run Try.prog w = .ok (.bool a.isNone) w := Lib.run_eql_slice_nil w 31 3 a l c 0 0 Try.underlying31
theorem Try.infoIntZ : (Try.prog.info? 3).map (fun i => (i.zero, i.size, i.bytes)) = some (some (.int .i64 0), 1, 8) := by kernel_rfl
/-- numbers, in blocks that are old or of their type -/
def IntG (B : Bd) (w : World) (v : Value) (xs : List Int) : Prop := (Rep.int .i64).Sl w v xs ∧ OkB B 3 w v
theorem int_cs {w w' : World} : ∀ {xs : List Int} {cs : List Value}, (Rep.int .i64).Cs w cs xs → (Rep.int .i64).Cs w' cs xs
  | [], cs, h => h
  | x :: xs, cs, ⟨ds, r, e, h1, h3⟩ => ⟨ds, r, e, h1, int_cs h3⟩
set_option maxHeartbeats 1000000 in
theorem cloneI_any (w : World) (B : Bd) (hL : B.hi ≤ w.heap.size) (a : Option Addr) (n c : Nat) (p : List Int) (h : (Rep.int .i64).Sl w (.slice a n c) p) (hn : n = p.length) (hl : n ≤ 1048576) :
    Calls Try.prog 30 #[.slice a n c] w fun e w' => (∃ v, e = .returned v ∧ IntG B w' v p) ∧ Below w.heap.size w w' := by
  subst hn
  obtain ⟨i0, hi, hz0, hz1, hz2⟩ := info_parts Try.infoIntZ
  have hn := eqlNilI w a p.length c
  cases a with
  | none =>
    have hx : p = [] := by
      cases p with
      | nil => rfl
      | cons x xs => obtain ⟨a', c', e, _, _, _, hx⟩ := h; simp only [Value.slice.injEq] at e; obtain ⟨b, off, cs, e2, _⟩ := hx 0 (by simp); rw [← e.1] at e2; cases e2
    subst hx
    clear h hi hz0 hz1 hz2 hn
    have hn := eqlNilI w none 0 c
    go_enter Try.func30, Try.ntmps30
    go_wp2
    go_ret
    exact ⟨⟨_, rfl, Rep.Sl.nil _ _, OkB.nil _ _ _ _ _⟩, Below.refl _ _⟩
  | some ad =>
    obtain ⟨cs, hcs, hsrc⟩ : ∃ cs, (Rep.int .i64).Cs w cs p ∧ Src w (.slice (some ad) p.length c) p.length cs := by
      obtain ⟨a', cap, e, h1, h2, h3, hx⟩ := h
      simp only [Value.slice.injEq] at e
      obtain ⟨rfl, -, rfl⟩ := e
      exact Rep.Els.cs (R := Rep.int .i64) (show 0 < 1 by decide) hx rfl (fun e => by cases e)
    have hcl := Rep.Cs.len hcs
    have hc1 := Rep.Cs.one hcs
    have hba : Below w.heap.size w (w.alloc (.cells #[] 3)) := (Below.refl _ _).alloc (Nat.le_refl _) _
    have HS := Lib.hid (hsrc.below hba)
    have HO := Lib.hid (World.ownsRow_made (base := w.heap.size) (e := 3) (size := 1) w #[] 0 (Nat.le_refl _) (Nat.zero_le _) rfl)
    have HCS := Lib.hid hcs; have HCL := Lib.hid hcl; have HC1 := Lib.hid hc1; have HB := Lib.hid hba
    have Hi := Lib.hid hi; have Hz0 := Lib.hid hz0; have Hz1 := Lib.hid hz1; have Hz2 := Lib.hid hz2
    clear h hcs hsrc hcl hc1 hba hi hz0 hz1 hz2
    go_enter Try.func30, Try.ntmps30
    go_wp2_with (at_builtin; (refine wpList_append_src _ rfl _ _ 31 rfl w.heap.size 3 i0 _ 1 8 Try.underlying31 Hi.out Hz0.out Hz1.out Hz2.out rfl (by decide) _ 0 _ rfl HO.out _ p.length cs rfl HS.out HCL.out HC1.out (by unfold maxLen; omega) (by omega) HB.out.size ?_); intro v' w1 hown hgrow _)
    have hr := Own_sl (R := Rep.int .i64) B hL hown (int_cs HCS.out) (by simp)
    have hb := HB.out.grown hgrow HB.out.size (fun k e => by cases e; exact Nat.le_refl _)
    have HR := Lib.hid hr; have HB2 := Lib.hid hb
    clear hown hgrow hr hb
    go_wp2
    go_ret
    exact ⟨⟨_, rfl, HR.out⟩, HB2.out⟩
end Go.Proofs.Ytmlfeocdcjhhaaa

namespace Go.Proofs.Ytmlfeocdcjhhaaa
set_option maxRecDepth 100000
open Go.RowKit
set_option linter.unusedVariables false
set_option linter.unusedSimpArgs false
attribute [local go_sem ↓] Go.wp_at_zero Go.wp_at_succ

theorem CB.keep {w W W' : World} {x : Nat} {vars : Int} {vb vs vo : Value} (h : CB w W x vars vb vs vo) (hb : Below w.heap.size w W') (hk : KeepTy 33 W W') : CB w W' x vars vb vs vo := ⟨hb, hk _ _ h.blk⟩
theorem IntG.below {B : Bd} {w w' : World} {v : Value} {xs : List Int} (h : IntG B w v xs) (hb : Below w.heap.size w w') : IntG B w' v xs := ⟨h.1.below _ hb (Nat.le_refl _), h.2.keep (KeepTy.below hb)⟩
theorem IntG.keep {B : Bd} {w w' : World} {v : Value} {xs : List Int} (h : IntG B w v xs) (hB : Below B w w') (hk : KeepTy 3 w w') : IntG B w' v xs := ⟨Sl_keep (w := w) (w' := w') (R := Rep.int .i64) (fun _ _ h => h) h.1 h.2 hB hk, h.2.keep hk⟩
/-- a row of the call's own is kept where its block has not turned -/
theorem RowG.same {α : Type} {R : Rep α} {M : Nat} {t : TypeId} {w w' : World} {v : Value} {xs : List α} (h : RowG R M t w v xs) (hR : ∀ cs x, R.At w cs x → R.At w' cs x) (he : ∀ g, v.ownBlock = some g → w'.heap[g]? = w.heap[g]?) : RowG R M t w' v xs := by
  obtain ⟨cs, ⟨h1, h3⟩, h2⟩ := h
  refine ⟨cs, ⟨h1, ?_⟩, ?_⟩
  · rcases h3 with h3 | ⟨g, cap, cur, rfl, hb', hg, h3⟩
    · exact .inl h3
    · exact .inr ⟨g, cap, cur, rfl, hb', (he g rfl).trans hg, h3⟩
  · clear h1 h3 he
    induction xs generalizing cs with
    | nil => exact h2
    | cons x xs ih =>
      obtain ⟨ds, r, e, h3, h4⟩ := h2
      exact ⟨ds, r, e, hR _ _ h3, ih _ h4⟩
theorem RowG.lt {α : Type} {R : Rep α} {M : Nat} {t : TypeId} {w : World} {v : Value} {xs : List α} (h : RowG R M t w v xs) : ∀ g, v.ownBlock = some g → M ≤ g ∧ g < w.heap.size := fun g e => by
  obtain ⟨cs, h1, h2⟩ := h
  exact World.ownsRow.lt h1 g e
/-- the three boxes, the rows so far -/
structure Cst (B : Bd) (w W : World) (z z1 z4 : Nat) (c : Cor) (vb vs vo : Value) (bv sv ov : Value) (bs : List Buf) (ss : List Stp) : Prop where
  arg : CB w W z c.vars vb vs vo
  res : CB w W z1 0 (.slice none 0 0) (.slice none 0 0) (.slice none 0 0)
  out : CB w W z4 c.vars bv sv ov
  bufs : RowG (bufO B) B.hi 52 W bv bs
  steps : RowG (stpO B) B.hi 42 W sv ss
  outs : IntG B W ov c.outs
  ne : z ≠ z1 ∧ z ≠ z4 ∧ z1 ≠ z4 ∧ w.heap.size ≤ z4
  hB : B.hi = w.heap.size
section
variable {B : Bd} {w W W' : World} {z z1 z4 : Nat} {c : Cor} {vb vs vo bv sv ov : Value} {bs : List Buf} {ss : List Stp}
theorem Cst.next (h : Cst B w W z z1 z4 c vb vs vo bv sv ov bs ss) (hb : Below W.heap.size W W') : Cst B w W' z z1 z4 c vb vs vo bv sv ov bs ss :=
  ⟨h.arg.next hb, h.res.next hb, h.out.next hb, h.bufs.next hb, h.steps.next hb, h.outs.below hb, h.ne, h.hB⟩
theorem Cst.b (h : Cst B w W z z1 z4 c vb vs vo bv sv ov bs ss) : Below w.heap.size w W := h.arg.below
/-- one box's field more -/
theorem CB.set1 (h : CB w W z4 c.vars bv sv ov) (hx : w.heap.size ≤ z4) (u : Value) : CB w (W.setCell ⟨z4, 1, none⟩ u) z4 c.vars u sv ov := h.put1 hx u
theorem keep_set {t : TypeId} (h : CB w W z4 c.vars bv sv ov) (ht : t ≠ 33) (j : Nat) (u : Value) : KeepTy t W (W.setCell ⟨z4, j, none⟩ u) := KeepTy.setCell (p := ⟨z4, j, none⟩) (NotTy.of h.blk (Ne.symm ht)) _
theorem Cst.push1 {bv' : Value} {bs' : List Buf} (h : Cst B w W z z1 z4 c vb vs vo bv sv ov bs ss) (hr : RowG (bufO B) B.hi 52 W' bv' bs') (hb : Below B.hi W W') (hk : ∀ u, u ≠ 52 → KeepTy u W W') :
    Cst B w (W'.setCell ⟨z4, 1, none⟩ bv') z z1 z4 c vb vs vo bv' sv ov bs' ss := by
  obtain ⟨n1, n2, n3, n4⟩ := h.ne
  have hbw : Below w.heap.size w W' := h.b.trans (h.hB ▸ hb)
  have o1 := h.out.keep hbw (hk _ (by decide))
  have a1 := h.arg.keep hbw (hk _ (by decide))
  have r1 := h.res.keep hbw (hk _ (by decide))
  have hB2 : Below B.hi W' (W'.setCell ⟨z4, 1, none⟩ bv') := (Below.refl _ _).setCell (by rw [h.hB]; exact n4) _
  have hs1 : RowG (stpO B) B.hi 42 W' sv ss := h.steps.turn (B := B) (fun cs x hx => by
    obtain ⟨v0, v1, v2, e, h0, h1, h2, h3⟩ := hx
    exact ⟨v0, v1, v2, e, h0.keep hb (hk _ (by decide)), h1.keep hb (hk _ (by decide)) (hk _ (by decide)), h2.keep hb (hk _ (by decide)) (hk _ (by decide)), h3⟩) (hk _ (by decide))
  refine ⟨a1.other n4 (Ne.symm n2) _, r1.other n4 (Ne.symm n3) _, o1.put1 n4 _, ?_, ?_, ?_, h.ne, h.hB⟩
  · exact hr.turn (B := B) (fun cs x hx => by
      obtain ⟨v, e, hx, h2⟩ := hx
      exact ⟨v, e, hx.keep hB2 (keep_set o1 (by decide) _ _) (keep_set o1 (by decide) _ _), h2⟩) (keep_set o1 (by decide) _ _)
  · exact hs1.turn (B := B) (fun cs x hx => by
      obtain ⟨v0, v1, v2, e, h0, h1, h2, h3⟩ := hx
      exact ⟨v0, v1, v2, e, h0.keep hB2 (keep_set o1 (by decide) _ _), h1.keep hB2 (keep_set o1 (by decide) _ _) (keep_set o1 (by decide) _ _), h2.keep hB2 (keep_set o1 (by decide) _ _) (keep_set o1 (by decide) _ _), h3⟩) (keep_set o1 (by decide) _ _)
  · exact (h.outs.keep hb (hk _ (by decide))).keep hB2 (keep_set o1 (by decide) _ _)
theorem Cst.push2 {sv' : Value} {ss' : List Stp} (h : Cst B w W z z1 z4 c vb vs vo bv sv ov bs ss) (hr : RowG (stpO B) B.hi 42 W' sv' ss') (hb : Below B.hi W W') (hk : ∀ u, u ≠ 42 → KeepTy u W W') :
    Cst B w (W'.setCell ⟨z4, 2, none⟩ sv') z z1 z4 c vb vs vo bv sv' ov bs ss' := by
  obtain ⟨n1, n2, n3, n4⟩ := h.ne
  have hbw : Below w.heap.size w W' := h.b.trans (h.hB ▸ hb)
  have o1 := h.out.keep hbw (hk _ (by decide))
  have a1 := h.arg.keep hbw (hk _ (by decide))
  have r1 := h.res.keep hbw (hk _ (by decide))
  have hB2 : Below B.hi W' (W'.setCell ⟨z4, 2, none⟩ sv') := (Below.refl _ _).setCell (by rw [h.hB]; exact n4) _
  have hs1 : RowG (bufO B) B.hi 52 W' bv bs := h.bufs.turn (B := B) (fun cs x hx => by
    obtain ⟨v, e, hx, h2⟩ := hx
    exact ⟨v, e, hx.keep hb (hk _ (by decide)) (hk _ (by decide)), h2⟩) (hk _ (by decide))
  refine ⟨a1.other n4 (Ne.symm n2) _, r1.other n4 (Ne.symm n3) _, o1.put2 n4 _, ?_, ?_, ?_, h.ne, h.hB⟩
  · exact hs1.turn (B := B) (fun cs x hx => by
      obtain ⟨v, e, hx, h2⟩ := hx
      exact ⟨v, e, hx.keep hB2 (keep_set o1 (by decide) _ _) (keep_set o1 (by decide) _ _), h2⟩) (keep_set o1 (by decide) _ _)
  · exact hr.turn (B := B) (fun cs x hx => by
      obtain ⟨v0, v1, v2, e, h0, h1, h2, h3⟩ := hx
      exact ⟨v0, v1, v2, e, h0.keep hB2 (keep_set o1 (by decide) _ _), h1.keep hB2 (keep_set o1 (by decide) _ _) (keep_set o1 (by decide) _ _), h2.keep hB2 (keep_set o1 (by decide) _ _) (keep_set o1 (by decide) _ _), h3⟩) (keep_set o1 (by decide) _ _)
  · exact (h.outs.keep hb (hk _ (by decide))).keep hB2 (keep_set o1 (by decide) _ _)
/-- a box of another type turns -/
theorem Cst.step {z8 : Nat} {cs : Array Value} (h : Cst B w W z z1 z4 c vb vs vo bv sv ov bs ss) (hz : W.heap[z8]? = some (.cells cs 42 (0, 0))) (hne : ∀ g, sv.ownBlock = some g → g ≠ z8) (h8 : w.heap.size ≤ z8) (j : Nat) (u : Value) :
    Cst B w (W.setCell ⟨z8, j, none⟩ u) z z1 z4 c vb vs vo bv sv ov bs ss := by
  have hB2 : Below B.hi W (W.setCell ⟨z8, j, none⟩ u) := (Below.refl _ _).setCell (by rw [h.hB]; exact h8) _
  have hk : ∀ t, t ≠ 42 → KeepTy t W (W.setCell ⟨z8, j, none⟩ u) := fun t ht => KeepTy.setCell (p := ⟨z8, j, none⟩) (NotTy.of hz (Ne.symm ht)) _
  have hbw : Below w.heap.size w (W.setCell ⟨z8, j, none⟩ u) := h.b.setCell h8 _
  refine ⟨h.arg.keep hbw (hk _ (by decide)), h.res.keep hbw (hk _ (by decide)), h.out.keep hbw (hk _ (by decide)), ?_, ?_, ?_, h.ne, h.hB⟩
  · exact h.bufs.turn (B := B) (fun cs x hx => by
      obtain ⟨v, e, hx, h2⟩ := hx
      exact ⟨v, e, hx.keep hB2 (hk _ (by decide)) (hk _ (by decide)), h2⟩) (hk _ (by decide))
  · exact h.steps.same (fun cs x hx => by
      obtain ⟨v0, v1, v2, e, h0, h1, h2, h3⟩ := hx
      exact ⟨v0, v1, v2, e, h0.keep hB2 (hk _ (by decide)), h1.keep hB2 (hk _ (by decide)) (hk _ (by decide)), h2.keep hB2 (hk _ (by decide)) (hk _ (by decide)), h3⟩) (fun g e => by
        have := hne g e
        exact Below.heap_setCell W ⟨z8, j, none⟩ u g this)
  · exact h.outs.keep hB2 (hk _ (by decide))
end
/-- a core that was made by the call -/
structure NewC (B : Bd) (W : World) (vb vs vo : Value) (c : Cor) : Prop where
  bufs : (bufO B).Sl W vb c.bufs ∧ OkB B 52 W vb
  steps : (stpO B).Sl W vs c.steps ∧ OkB B 42 W vs
  outs : IntG B W vo c.outs
  vars : I64 c.vars
theorem bufO_sl {B : Bd} {W : World} {v : Value} {xs : List Buf} (h : (bufO B).Sl W v xs) : bufRep.Sl W v xs := by
  obtain ⟨a, cap, e, h1, h2, h3, hx⟩ := h
  refine ⟨a, cap, e, h1, h2, h3, fun i hi => ?_⟩
  obtain ⟨b, off, cs, e2, ⟨v, e3, h4, h5⟩, hc⟩ := hx i hi
  exact ⟨b, off, cs, e2, ⟨v, e3, h4.pol, h5⟩, hc⟩
theorem stpO_sl {B : Bd} {W : World} {v : Value} {xs : List Stp} (h : (stpO B).Sl W v xs) : stpRep.Sl W v xs := by
  obtain ⟨a, cap, e, h1, h2, h3, hx⟩ := h
  refine ⟨a, cap, e, h1, h2, h3, fun i hi => ?_⟩
  obtain ⟨b, off, cs, e2, ⟨v0, v1, v2, e3, h4, h5, h6, h7⟩, hc⟩ := hx i hi
  exact ⟨b, off, cs, e2, ⟨v0, v1, v2, e3, h4.1, h5.pol, h6.cop, h7⟩, hc⟩
theorem NewC.cor {B : Bd} {W : World} {vb vs vo : Value} {c : Cor} (h : NewC B W vb vs vo c) : CorAt W vb vs vo c := ⟨bufO_sl h.bufs.1, stpO_sl h.steps.1, h.outs.1, h.vars⟩
end Go.Proofs.Ytmlfeocdcjhhaaa

namespace Go.Proofs.Ytmlfeocdcjhhaaa
set_option maxRecDepth 100000
open Go.RowKit
set_option linter.unusedVariables false
set_option linter.unusedSimpArgs false

/-- the panic of an error -/
def panE (e : Int) : Ending := .panicked [{ v := .iface 24 (.int .i64 e), recovered := false }]
def endV (r : Ex Int) : Ending := match r with | .ok v => .returned (.int .i64 v) | .error e => panE e
/-- the machine's fields, but for its stack -/
structure MQ where
  vars : Int
  vb : Value
  vs : Value
  vo : Value
  ad : Option Addr
  cd : Nat
  ma : Option Addr
  ml : Nat
  mc : Nat
  t : Int
def MQ.row (q : MQ) (D : List Int) (v : Value) : Array Value := #[.int .i64 q.vars, q.vb, q.vs, q.vo, .slice q.ad D.length q.cd, .slice q.ma q.ml q.mc, .int .i64 q.t, v]
set_option maxHeartbeats 4000000 in
theorem must_any (w : World) (n e : Int) : Calls Try.prog 81 #[.int .i64 n, .int .i64 e] w fun x w' => x = endV (mustR (n, e)) ∧ w' = w := by
  by_cases h : e = 0
  · subst h
    go_enter Try.func81, Try.ntmps81
    go_wp2_with fail
    go_ret
    exact ⟨rfl, rfl⟩
  · have hI : (e != 0) = true := by simpa using h
    have hm : mustR (n, e) = .error e := by unfold mustR; rw [if_neg h]
    rw [hm]
    clear hm h
    go_enter Try.func81, Try.ntmps81
    go_wp2_with fail
    exact ⟨rfl, rfl, rfl⟩
set_option maxHeartbeats 4000000 in
theorem rval_any (w : World) (M : Nat) (q : MQ) (D : List Int) (v : Value) (hrow : w.heap[M]? = some (.cells (q.row D v) 82 (0, 0))) (a : Option Addr) (c : Nat) (p : List Mono) (e : Int) (h : monoRep.Els w a p) (hm : p.length ≤ 9223372036854775807) (hd : IntsAt .i64 w q.ad D) (hld : D.length ≤ 9223372036854775807) :
    Calls Try.prog 77 #[.pointer (some ⟨M, 0, none⟩), .slice a p.length c, .int .i64 e] w fun x w' => x = endV (valR D p e) ∧ Below w.heap.size w w' := by
  have hq := eval_any w a c p q.ad q.cd D h hm hd hld
  obtain ⟨vars, vb, vs, vo, ad, cd, ma, ml, mc, t⟩ := q
  unfold MQ.row at hrow
  dsimp only at hq hrow
  have x4 := cell_of_row w M 4 _ _ _ hrow
  unfold valR
  obtain ⟨n, hn⟩ : ∃ n, evalS p D = n := ⟨_, rfl⟩
  rw [hn] at hq ⊢
  obtain ⟨n, e1⟩ := n
  have HQ := Lib.hid hq
  clear hq h hd hrow hn
  dsimp only
  by_cases h0 : e1 = 0
  · subst h0
    rw [if_pos rfl]
    go_enter Try.func77, Try.ntmps77
    go_wp2_with (go_at_call 121; refine HQ.out.mono ?_; rintro e' w1 ⟨rfl, hb1⟩; unfold two)
    go_ret
    exact ⟨rfl, hb1⟩
  · rw [if_neg h0]
    have hI : (e1 != 0) = true := by simpa using h0
    clear h0
    go_enter Try.func77, Try.ntmps77
    go_wp2_with (go_at_call 121; refine HQ.out.mono ?_; rintro e' w1 ⟨rfl, hb1⟩; unfold two)
    exact ⟨rfl, rfl, hb1⟩
/-- the machine in block M: what lies on its stack (the top ahead); the stack's block is none of P -/
structure MacS (P : Nat → Prop) (w : World) (M : Nat) (q : MQ) (D : List Int) (s : List Int) : Prop where
  row : ∃ v, w.heap[M]? = some (.cells (q.row D v) 82 (0, 0)) ∧ RowI 0 w v s.reverse ∧ ∀ g, v.ownBlock = some g → ¬ P g
  nM : ¬ P M
  lt : ∀ g, P g → g < w.heap.size
  in64 : ∀ x ∈ s, In64 x
theorem MacS.out {P : Nat → Prop} {w w' : World} {M : Nat} {q : MQ} {D s : List Int} (h : MacS P w M q D s) (hb : Below w.heap.size w w') : MacS P w' M q D s := by
  obtain ⟨v, h1, h2, h3⟩ := h.row
  exact ⟨⟨v, block_below h1 hb, own_keep h2 (KeepTy.below hb), h3⟩, h.nM, fun g hg => Nat.lt_of_lt_of_le (h.lt g hg) hb.size, h.in64⟩
/-- fewer blocks -/
theorem MacS.less {P P' : Nat → Prop} {w : World} {M : Nat} {q : MQ} {D s : List Int} (h : MacS P w M q D s) (hp : ∀ g, P' g → P g) : MacS P' w M q D s := by
  obtain ⟨v, h1, h2, h3⟩ := h.row
  exact ⟨⟨v, h1, h2, fun g hg e => h3 g hg (hp g e)⟩, fun e => h.nM (hp M e), fun g hg => h.lt g (hp g hg), h.in64⟩
/-- a block that is new, more -/
theorem MacS.new {P : Nat → Prop} {w w' : World} {M : Nat} {q : MQ} {D s : List Int} (h : MacS P w M q D s) (hb : Below w.heap.size w w') : MacS (fun g => P g ∨ (w.heap.size ≤ g ∧ g < w'.heap.size)) w' M q D s := by
  have hM := block_lt h.row.choose_spec.1
  obtain ⟨v, h1, h2, h3⟩ := h.row
  refine ⟨⟨v, block_below h1 hb, own_keep h2 (KeepTy.below hb), fun g hg e => ?_⟩, fun e => ?_, fun g hg => ?_, h.in64⟩
  · have := (World.ownsRow.lt h2 g hg).2
    rcases e with e | e
    · exact h3 g hg e
    · omega
  · rcases e with e | e
    · exact h.nM e
    · omega
  · rcases hg with e | e
    · exact Nat.lt_of_lt_of_le (h.lt g e) hb.size
    · exact e.2
theorem MacS.put {P : Nat → Prop} {w : World} {M : Nat} {q : MQ} {D s : List Int} {v v' : Value} (h1 : w.heap[M]? = some (.cells (q.row D v) 82 (0, 0))) (h2 : RowI 0 w v' s.reverse) (h3 : ∀ g, v'.ownBlock = some g → ¬ P g) (nM : ¬ P M) (lt : ∀ g, P g → g < w.heap.size) (hs : ∀ x ∈ s, In64 x) :
    MacS P (w.setCell ⟨M, 7, none⟩ v') M q D s := by
  refine ⟨⟨v', ?_, own_keep h2 (KeepTy.setCell (p := ⟨M, 7, none⟩) (NotTy.of h1 (by decide)) _), h3⟩, nM, by simpa using lt, hs⟩
  rw [heap_setCell_same w M 7 _ _ _ h1]
  rfl
set_option maxHeartbeats 4000000 in
theorem push_any (P : Nat → Prop) (w : World) (M : Nat) (q : MQ) (D s : List Int) (n : Int) (h : MacS P w M q D s) (hn : In64 n) (hl : s.length ≤ 1000) :
    Calls Try.prog 124 #[.pointer (some ⟨M, 0, none⟩), .int .i64 n] w fun x w' => x = .returned (.tuple #[]) ∧ MacS P w' M q D (n :: s) ∧ KB (fun g => ¬ P g) w w' := by
  obtain ⟨v, h1, h2, h3⟩ := h.row
  have H := Lib.hid h
  obtain ⟨vars, vb, vs, vo, ad, cd, ma, ml, mc, t⟩ := q
  obtain ⟨i0, hi, hz0, hz1, hz2⟩ := info_parts (show (Try.prog.info? 2).map (fun i => (i.zero, i.size, i.bytes)) = some (some (.int .i64 0), 1, 8) by kernel_rfl)
  obtain ⟨r, er⟩ : ∃ r, s.reverse = r := ⟨_, rfl⟩
  have hlr : r.length ≤ 1000 := by rw [← er, List.length_reverse]; exact hl
  have ER := Lib.hid er
  rw [er] at h2
  obtain ⟨a, c, rfl, -, -⟩ := h2.slice
  unfold MQ.row at h1
  dsimp only at h1
  have x7 := cell_of_row w M 7 _ _ _ h1
  have hf := frozen_of_row w M 7 _ _ h1
  have H1 := Lib.hid h1; have H2 := Lib.hid h2; have H3 := Lib.hid h3; have Hi := Lib.hid hi; have Hz0 := Lib.hid hz0; have Hz1 := Lib.hid hz1; have Hz2 := Lib.hid hz2
  have HL := Lib.hid hlr
  clear h h1 h2 h3 hi hz0 hz1 hz2 hl er hlr
  go_enter Try.func124, Try.ntmps124
  go_wp2_with ((at_builtin; (refine wpList_append_src _ rfl _ _ 50 rfl 0 2 i0 _ 1 8 Try.underlying50 Hi.out Hz0.out Hz1.out Hz2.out rfl (by decide) _ r.length _ rfl (World.ownsRow.alloc H2.out _) _ 1 [.int .i64 n] rfl (src_lit _ _ _ _ _ _ (by simp) rfl) rfl ?h1 (by have := HL.out; unfold maxLen; omega) (by have := HL.out; omega) (Nat.zero_le _) ?_)))
  case h1 => intro z hz; cases List.mem_singleton.1 hz; rfl
  intro v' w' hown hg hnw
  obtain ⟨a', c', rfl⟩ : ∃ a' c', v' = .slice a' (r.length + 1) c' := by
    obtain ⟨_, ⟨h, h0⟩ | ⟨g, cap, cur, hv, _⟩⟩ := hown
    · omega
    · exact ⟨_, _, hv⟩
  have hr : w'.heap[M]? = some (.cells #[.int .i64 vars, vb, vs, vo, .slice ad D.length cd, .slice ma ml mc, .int .i64 t, .slice a r.length c] 82 (0, 0)) := block_grown (block_alloc H1.out _) hg (fun e => by
    obtain ⟨cur, e2⟩ := own_typed H2.out e
    rw [H1.out] at e2; cases e2)
  have x7' := cell_of_row w' M 7 _ _ _ hr
  have hf' := frozen_of_row w' M 7 _ _ hr
  have HR := Lib.hid hr; have HO := Lib.hid hown; have HG := Lib.hid hg; have HN := Lib.hid hnw
  clear hr hown hg hnw x7 hf H1
  go_wp2_with fail
  go_end0
  have hPM := H.out.nM
  refine ⟨rfl, MacS.put HR.out (by
    have := HO.out
    rw [List.reverse_cons, ER.out]
    unfold RowI
    simpa using this) (fun g hg e => ?_) H.out.nM (fun g hg => Nat.lt_of_lt_of_le (H.out.lt g hg) (by have := HG.out.size; simp at this; omega)) (by
      intro x hx
      rcases List.mem_cons.1 hx with rfl | hx
      · exact hn
      · exact H.out.in64 x hx), ?_⟩
  · rcases HN.out with e2 | ⟨k, e2, e3⟩
    · exact H3.out g (by rw [← e2]; exact hg) e
    · rw [hg] at e2
      have := H.out.lt g e
      simp at e3
      injection e2
      omega
  · refine KB.setCell (KB.grown ((KB.refl _ w).alloc _) HG.out fun k hk _ => H3.out k hk) (fun _ => H.out.nM) _
set_option maxHeartbeats 4000000 in
theorem pop_any (P : Nat → Prop) (w : World) (M : Nat) (q : MQ) (D s : List Int) (n : Int) (h : MacS P w M q D (n :: s)) :
    Calls Try.prog 125 #[.pointer (some ⟨M, 0, none⟩)] w fun x w' => x = .returned (.int .i64 n) ∧ MacS P w' M q D s ∧ KB (fun g => ¬ P g) w w' := by
  obtain ⟨v, h1, h2, h3⟩ := h.row
  have H := Lib.hid h
  obtain ⟨vars, vb, vs, vo, ad, cd, ma, ml, mc, t⟩ := q
  obtain ⟨hlen, h0⟩ := h2
  obtain ⟨rfl, h0⟩ | ⟨g, cap, cur, rfl, hb, hg, hle, hcm, hsz, htk⟩ := h0
  · simp at h0
  obtain ⟨k, hk⟩ : ∃ k, s.length = k := ⟨_, rfl⟩
  have hk1 : (n :: s).reverse.length = k + 1 := by simp [hk]
  rw [hk1] at h1 h3 hle htk
  have hkc : k < cur.size := by rw [hsz]; omega
  have hn : cur[k]? = some (.int .i64 n) := by
    have : ((List.map (Value.int .i64) (n :: s).reverse)[k]?) = some (.int .i64 n) := by
      rw [List.reverse_cons, List.map_append, List.getElem?_append_right (by simp [hk])]
      simp [hk]
    rw [← htk, List.getElem?_take_of_lt (by omega)] at this
    simpa using this
  have hx := cell_of_row w g k _ _ _ hg
  rw [hn] at hx
  unfold MQ.row at h1
  dsimp only at h1
  have x7 := cell_of_row w M 7 _ _ _ h1
  have hf := frozen_of_row w M 7 _ _ h1
  have hcm' : cap ≤ 9223372036854775807 := hcm
  have H1 := Lib.hid h1; have H3 := Lib.hid h3; have HG := Lib.hid hg; have HSZ := Lib.hid hsz; have HTK := Lib.hid htk; have HCM := Lib.hid hcm
  have e1 : wrap64 (((k + 1 : Nat) : Int) - 1) = (k : Int) := by unfold wrap64; omega
  have s1 := run_slice_h w 50 (some ⟨g, 0, none⟩) (k + 1) cap Try.underlying50 .i64 (k : Int) (by omega) (by omega)
  clear h h1 h3 hg hsz htk hcm hlen hkc hn
  go_enter Try.func125, Try.ntmps125
  go_wp2_with (go_region)
  go_ret
  have hp := MacS.put (P := P) (w := w) (M := M) (q := ⟨vars, vb, vs, vo, ad, cd, ma, ml, mc, t⟩) (D := D) (s := s) (v := .slice (some ⟨g, 0, none⟩) (k + 1) cap) (v' := .slice (some ⟨g, 0, none⟩) k cap) H1.out ⟨by simp, .inr ⟨g, cap, cur, by simp [hk], hb, HG.out, by simp [hk]; omega, HCM.out, HSZ.out, by
    have := congrArg (List.take k) HTK.out
    rw [List.take_take, Nat.min_eq_left (by omega), List.reverse_cons, List.map_append, List.take_left' (by simp [hk])] at this
    simpa [hk] using this⟩⟩ H3.out H.out.nM H.out.lt (fun x hx => H.out.in64 x (List.mem_cons_of_mem _ hx))
  exact ⟨rfl, (hp.out (Below.drewN _ 1)).out (Below.drewN _ 1), ((KB.setCell (KB.refl _ w) (fun _ => H.out.nM) _).drew).drew⟩
end Go.Proofs.Ytmlfeocdcjhhaaa

namespace Go.Proofs.Ytmlfeocdcjhhaaa
set_option maxRecDepth 100000
open Go.RowKit
set_option linter.unusedVariables false
set_option linter.unusedSimpArgs false
attribute [local go_sem ↓] Go.wp_at_zero Go.wp_at_succ

theorem KB.stay {P : Nat → Prop} {w w' : World} (hk : KB (fun g => ¬ P g) w w') (lt : ∀ g, P g → g < w.heap.size) {g : Nat} (hg : P g) : w'.heap[g]? = w.heap[g]? := hk.block g (lt g hg) (fun h => h hg)
/-- the machine's memory: the rows' blocks, and that of the list of rows, are of P -/
structure MemAt (P : Nat → Prop) (w : World) (ma : Option Addr) (ml mc : Nat) (vals : List Value) (mem : List (List Int)) : Prop where
  hdr : w.ownsRow 0 50 1 (.slice ma ml mc) mem.length vals
  hP : ∀ g, (Value.slice ma ml mc).ownBlock = some g → P g
  row : ∀ k (h : k < mem.length), ∃ v, vals[k]? = some v ∧ RowI 0 w v mem[k] ∧ ∀ g, v.ownBlock = some g → P g
theorem MemAt.keep {P : Nat → Prop} {w w' : World} {ma : Option Addr} {ml mc : Nat} {vals : List Value} {mem : List (List Int)} (h : MemAt P w ma ml mc vals mem) (hk : KB (fun g => ¬ P g) w w') : MemAt P w' ma ml mc vals mem :=
  ⟨hk.row h.hdr (fun g hg hn => hn (h.hP g hg)), h.hP, fun k hk' => by
    obtain ⟨v, e, hr, hp⟩ := h.row k hk'
    exact ⟨v, e, hk.row hr (fun g hg hn => hn (hp g hg)), hp⟩⟩
theorem MemAt.out {P : Nat → Prop} {w w' : World} {ma : Option Addr} {ml mc : Nat} {vals : List Value} {mem : List (List Int)} (h : MemAt P w ma ml mc vals mem) (hb : Below w.heap.size w w') : MemAt P w' ma ml mc vals mem :=
  ⟨own_keep h.hdr (KeepTy.below hb), h.hP, fun k hk' => by
    obtain ⟨v, e, hr, hp⟩ := h.row k hk'
    exact ⟨v, e, own_keep hr (KeepTy.below hb), hp⟩⟩
theorem MemAt.more {P P' : Nat → Prop} {w : World} {ma : Option Addr} {ml mc : Nat} {vals : List Value} {mem : List (List Int)} (h : MemAt P w ma ml mc vals mem) (hp : ∀ g, P g → P' g) : MemAt P' w ma ml mc vals mem :=
  ⟨h.hdr, fun g hg => hp g (h.hP g hg), fun k hk => by
    obtain ⟨v, e, hr, h2⟩ := h.row k hk
    exact ⟨v, e, hr, fun g hg => hp g (h2 g hg)⟩⟩
/-- what the operations read: old memory below wB -/
structure OIn (wB : World) (P : Nat → Prop) (w : World) (M : Nat) (q : MQ) (D : List Int) (vals : List Value) (mem : List (List Int)) (vi : Value) (ix : List Int) (s : List Int) : Prop where
  mac : MacS P w M q D s
  below : Below wB.heap.size wB w
  old : ∀ g, g < wB.heap.size → P g
  dims : IntsAt .i64 wB q.ad D
  mem : MemAt P w q.ma q.ml q.mc vals mem
  at_ : RowI 0 w vi ix
  atP : ∀ g, vi.ownBlock = some g → P g
section
variable {wB : World} {P : Nat → Prop} {w w' : World} {M : Nat} {q : MQ} {D : List Int} {vals : List Value} {mem : List (List Int)} {vi : Value} {ix s s' : List Int}
theorem OIn.next (h : OIn wB P w M q D vals mem vi ix s) (hk : KB (fun g => ¬ P g) w w') (hm : MacS P w' M q D s') : OIn wB P w' M q D vals mem vi ix s' :=
  ⟨hm, h.below.trans (hk.below h.below.size (fun g hg => Nat.le_of_not_lt fun e => hg (h.old g e))), h.old, h.dims, h.mem.keep hk, hk.row h.at_ (fun g hg hn => hn (h.atP g hg)), h.atP⟩
theorem OIn.out (h : OIn wB P w M q D vals mem vi ix s) (hb : Below w.heap.size w w') : OIn wB P w' M q D vals mem vi ix s :=
  ⟨h.mac.out hb, h.below.trans (hb.mono h.below.size), h.old, h.dims, h.mem.out hb, own_keep h.at_ (KeepTy.below hb), h.atP⟩
theorem KB.out {S : Nat → Prop} (h : KB S w w') {w'' : World} (hb : Below w'.heap.size w' w'') : KB S w w'' := h.then_below hb (fun g hg hl => absurd hg (by have := h.size; omega))
structure LInv (D : List Int) (mem : List (List Int)) (ix : List Int) (l : List Cop) (R : Ex Int) (i : Nat) (s : List Int) : Prop where
  le : i ≤ l.length
  dep : ∃ most, 0 ≤ depthK (l.drop i) (s.length : Int) most
  run : (runM D mem ix (l.drop i) s).map (·.headD 0) = R
  len : s.length ≤ i
theorem LInv.start {l : List Cop} {R : Ex Int} (hd : 0 ≤ depthI l) (hR : opsM D mem ix l = R) : LInv D mem ix l R 0 [] := ⟨Nat.zero_le _, ⟨0, hd⟩, hR, Nat.le_refl _⟩
theorem LInv.takes {l : List Cop} {R : Ex Int} {i : Nat} (h : LInv D mem ix l R i s) (hi : i < l.length) : 0 ≤ takesI l[i].how ∧ takesI l[i].how ≤ s.length := by
  obtain ⟨most, hd⟩ := h.dep
  rw [depthK_step hi] at hd
  split at hd
  · omega
  · omega
theorem LInv.step {l : List Cop} {R : Ex Int} {i : Nat} (h : LInv D mem ix l R i s) (hi : i < l.length) (ho : opM D mem ix l[i] s = .ok s') (hl : (s'.length : Int) = s.length + (1 - takesI l[i].how)) : LInv D mem ix l R (i + 1) s' := by
  obtain ⟨most, hd⟩ := h.dep
  have ht := h.takes hi
  rw [depthK_step hi, if_neg (by omega)] at hd
  refine ⟨hi, ⟨_, by rw [hl]; exact hd⟩, ?_, by have := h.len; omega⟩
  have := h.run
  rw [List.drop_eq_getElem_cons hi, runM, ho] at this
  exact this
theorem LInv.bad {l : List Cop} {R : Ex Int} {i : Nat} {e : Int} (h : LInv D mem ix l R i s) (hi : i < l.length) (ho : opM D mem ix l[i] s = .error e) : R = .error e := by
  have := h.run
  rw [List.drop_eq_getElem_cons hi, runM, ho] at this
  exact this.symm
theorem LInv.done {l : List Cop} {R : Ex Int} (h : LInv D mem ix l R l.length s) : ∃ x, s = [x] ∧ R = .ok x := by
  obtain ⟨most, hd⟩ := h.dep
  have hr := h.run
  rw [List.drop_length] at hd hr
  rw [depthK] at hd
  split at hd
  · obtain ⟨x, rfl⟩ := List.length_eq_one_iff.1 (show s.length = 1 by omega)
    exact ⟨x, rfl, hr.symm⟩
  · omega
end
end Go.Proofs.Ytmlfeocdcjhhaaa
