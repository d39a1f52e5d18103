import Derived.Test.YtmlfeocdcjhhaaaPG1
import Derived.OrdersHeld
import Derived.Deep.RegionHeld3
import Derived.Test.YtmlfeocdcjhhaaaPG16
import Derived.Test.YtmlfeocdcjhhaaaPG12
namespace Go
set_option linter.unusedVariables false
set_option linter.unusedSimpArgs false
section
variable {P : Program} {ops : Array Oper} {Q : Exit → Act → World → Prop} {md : Region.Mode} {S : World → Prop} {z : Nat}

/-- Whatever order is picked from here on, and S holds behind every operation ahead of number z. -/
def wpAnyZ (P : Program) (md : Region.Mode) (ops : Array Oper) (Q : Exit → Act → World → Prop) (S : World → Prop) (z : Nat) : Nat → Array Bool → Act → World → Prop
  | 0, listed, a, w => Region.ready md ops listed = [] ∧ Q .normal a w
  | fuel + 1, listed, a, w =>
    (Region.ready md ops listed = [] → Q .normal a w) ∧
    ∀ i ∈ Region.ready md ops listed, wpOp P ops Q i (fun a' w' => (z ≤ i ∨ S w') ∧ wpAnyZ P md ops Q S z fuel (listed.setIfInBounds i true) a' w') a w

theorem wpAny_of_Z : ∀ (fuel : Nat) (listed : Array Bool) (a : Act) (w : World), wpAnyZ P md ops Q S z fuel listed a w → wpAny P md ops Q fuel listed a w
  | 0, _, _, _, h => h
  | fuel + 1, _, _, _, h => ⟨h.1, fun i hi => wpOp_mono (fun a' w' h' => wpAny_of_Z fuel _ a' w' h'.2) (h.2 i hi)⟩

theorem wpAnyZ_first {i : Nat} {oi : Oper} {v : Value} (hi : ops[i]? = some oi) (hsel : ∀ (j : Nat) (o : Oper) cs b, ops[j]? = some o → o.op ≠ .select cs b)
    (hQ : ∀ c a w, Q (.panic c) (a.put oi.dst v) w → Q (.panic c) a w) (hz : ∀ j, z ≤ j → ∀ oz, ops[j]? = some oz → ∃ e ∈ oz.after, Region.binds md e = true ∧ e.on = i) :
    ∀ (fuel : Nat) (listed : Array Bool) (a : Act) (w : World),
      (∀ j oj, ops[j]? = some oj → j ≠ i → listed.getD j true = false → (∀ e ∈ oj.after, Region.binds md e = true → e.on ≠ i) → oi.apart ops oj = true) →
      i ∈ Region.ready md ops listed → YieldsIf P ops S oi v a → S w →
      wpAnyZ P md ops Q S z fuel (listed.setIfInBounds i true) (a.put oi.dst v) w → wpAnyZ P md ops Q S z (fuel + 1) listed a w := by
  intro fuel
  induction fuel with
  | zero =>
    intro listed a w _ hr hy hS H
    refine ⟨fun h => (by rw [h] at hr; cases hr), fun j hj => ?_⟩
    by_cases hji : j = i
    · subst hji; exact hy.wpOp hi hS ⟨.inr hS, H⟩
    · have := ready_mono hj hji
      rw [H.1] at this
      cases this
  | succ fuel ih =>
    intro listed a w hfree hr hy hS H
    refine ⟨fun h => (by rw [h] at hr; cases hr), fun j hj => ?_⟩
    by_cases hji : j = i
    · subst hji; exact hy.wpOp hi hS ⟨.inr hS, H⟩
    · have h1 := H.2 j (ready_mono hj hji)
      obtain ⟨hjun, oj, hoj, hall⟩ := mem_ready.1 hj
      have hnot : ∀ e ∈ oj.after, Region.binds md e = true → e.on ≠ i := fun e he hb heq => by
        have h1 := hall e he hb
        have h0 := (mem_ready.1 hr).1
        rw [heq] at h1
        rcases Nat.lt_or_ge i listed.size with h' | h'
        · simp [h'] at h0 h1; rw [h0] at h1; cases h1
        · simp [Array.getElem?_eq_none h'] at h1
      have hjz : ¬ z ≤ j := fun hzj => by
        obtain ⟨e, he, hb, hon⟩ := hz j hzj oj hoj
        exact hnot e he hb hon
      have h2 := wpOp_putIf hoj (hfree j oj hoj hji hjun hnot) (fun cs b => hsel i oi cs b hi) (fun cs b => hsel j oj cs b hoj) hQ hy h1
      have hfree' : ∀ k ok, ops[k]? = some ok → k ≠ i → (listed.setIfInBounds j true).getD k true = false →
          (∀ e ∈ ok.after, Region.binds md e = true → e.on ≠ i) → oi.apart ops ok = true := fun k ok hk hki hun hno => by
        refine hfree k ok hk hki ?_ hno
        by_cases hjk : j = k
        · subst hjk; exact hjun
        · rw [getD_set_ne true hjk] at hun; exact hun
      refine wpOp_mono (fun a' w' h3 => ⟨h3.2.1, ih (listed.setIfInBounds j true) a' w' hfree' (ready_mono hr (Ne.symm hji)) h3.1 (h3.2.1.resolve_left hjz) ?_⟩) h2
      rw [Array.setIfInBounds_comm _ _ hji]
      exact h3.2.2

/-- all from number z on wait for number i -/
def waitsB (md : Region.Mode) (ops : Array Oper) (z i : Nat) : Bool := (ops.toList.drop z).all fun oz => oz.after.any fun e => Region.binds md e && e.on == i
theorem waitsB_spec {i : Nat} (h : waitsB md ops z i = true) : ∀ j, z ≤ j → ∀ oz, ops[j]? = some oz → ∃ e ∈ oz.after, Region.binds md e = true ∧ e.on = i := by
  intro j hj oz ho
  unfold waitsB at h
  have hm : oz ∈ ops.toList.drop z := by
    refine List.mem_of_getElem? (i := j - z) ?_
    rw [List.getElem?_drop, show z + (j - z) = j from by omega]
    simpa using ho
  have h2 := List.all_eq_true.1 h oz hm
  obtain ⟨e, he, hb⟩ := Array.any_eq_true'.1 h2
  simp only [Bool.and_eq_true, beq_iff_eq] at hb
  exact ⟨e, he, hb⟩

theorem wpAnyZ_take {i : Nat} {oi : Oper} {v : Value} {fuel : Nat} {listed : Array Bool} {a : Act} {w : World} (hi : ops[i]? = some oi)
    (hs : Region.noSelect ops = true) (hf : Region.free md ops listed i = true) (hr : (Region.ready md ops listed).contains i = true)
    (hQ : ∀ c a w, Q (.panic c) (a.put oi.dst v) w → Q (.panic c) a w) (hw : waitsB md ops z i = true) (hy : YieldsIf P ops S oi v a) (hS : S w)
    (h : wpAnyZ P md ops Q S z fuel (listed.setIfInBounds i true) (a.put oi.dst v) w) : wpAnyZ P md ops Q S z (fuel + 1) listed a w :=
  wpAnyZ_first hi (Region.noSelect_spec hs) hQ (waitsB_spec hw) fuel listed a w (Region.free_spec hi hf) (by simpa using hr) hy hS h

/-- The one that may come up comes up. -/
theorem wpAnyZ_one {i : Nat} {o : Oper} {fuel : Nat} {listed : Array Bool} {a : Act} {w : World} (hr : Region.ready md ops listed = [i]) (ho : ops[i]? = some o) (hg : o.guard = none)
    (h : ∀ K : Act → World → Prop, Shut (∀ a w, (z ≤ i ∨ S w) → wpAnyZ P md ops Q S z fuel (listed.setIfInBounds i true) a w → K a w) → o.wp P a w K Q) : wpAnyZ P md ops Q S z (fuel + 1) listed a w := by
  refine ⟨fun h0 => (by rw [hr] at h0; cases h0), fun j hj => ?_⟩
  rw [hr] at hj
  obtain rfl : j = i := by simpa using hj
  unfold wpOp
  rw [ho]
  simp only [Region.wanted, hg, if_true]
  exact .inl (h _ (fun a w h1 h2 => ⟨h1, h2⟩))

theorem wpAnyZ_done {listed : Array Bool} {a : Act} {w : World} (hr : Region.ready md ops listed = []) (h : Q .normal a w) : ∀ fuel, wpAnyZ P md ops Q S z fuel listed a w
  | 0 => ⟨hr, h⟩
  | _ + 1 => ⟨fun _ => h, by rw [hr]; simp⟩

theorem wp_region_Z {id : Nat} {a : Act} {w : World} (hm : P.follows .mixedOrders = true) (h : wpAnyZ P .any ops Q S z ops.size (Array.replicate ops.size false) a w.drew) : (Code.region id ops true).wp P Q a w :=
  wp_region_any hm (wpAny_of_Z _ _ _ _ h)
end
end Go

namespace Go.Proofs.Ytmlfeocdcjhhaaa
set_option maxRecDepth 100000
open Go.RowKit
set_option linter.unusedVariables false
set_option linter.unusedSimpArgs false
attribute [local go_sem ↓] Go.wp_at_zero Go.wp_at_succ

/-! The stack of lists, in a row of the call's own. -/
def Spine (B : Bd) (M : Nat) (W : World) (v : Value) (s : List (List Cop)) : Prop := ∃ vs : List Value, W.ownsRow M 22 1 v s.length vs ∧ vs.length = s.length ∧ ∀ i (hi : i < s.length) (hv : i < vs.length), CopS B W vs[i] s[i]
theorem Spine.nil (B : Bd) (M : Nat) (W : World) : Spine B M W (.slice none 0 0) [] := ⟨[], World.ownsRow_nil _ _ _ _, rfl, fun i hi => absurd hi (Nat.not_lt_zero i)⟩
theorem own_below' {w w' : World} {B : Nat} {t : TypeId} {size n : Nat} {v : Value} {xs : List Value} (h : w.ownsRow B t size v n xs) (hb : Below w.heap.size w w') : w'.ownsRow B t size v n xs := own_keep h (KeepTy.below hb)
theorem Spine.next {B : Bd} {M : Nat} {W W' : World} {v : Value} {s : List (List Cop)} (h : Spine B M W v s) (hb : Below W.heap.size W W') : Spine B M W' v s := by
  obtain ⟨vs, h1, h2, h3⟩ := h
  exact ⟨vs, own_below' h1 hb, h2, fun i hi hv => (h3 i hi hv).below hb⟩
theorem Spine.form {B : Bd} {M : Nat} {W : World} {v : Value} {s : List (List Cop)} (h : Spine B M W v s) (h0 : 0 < s.length) : ∃ g cap, v = .slice (some ⟨g, 0, none⟩) s.length cap ∧ M ≤ g ∧ g < W.heap.size ∧ s.length ≤ cap ∧ cap ≤ maxLen ∧ ∃ cur, W.heap[g]? = some (.cells cur 22 (0, 0)) := by
  obtain ⟨vs, ⟨_, ⟨_, hn⟩ | ⟨g, cap, cur, hv, hB, hg, h1, h2, _⟩⟩, _⟩ := h
  · omega
  · exact ⟨g, cap, hv, hB, (Array.getElem?_eq_some_iff.1 hg).1, h1, h2, cur, hg⟩
theorem Spine.slice {B : Bd} {M : Nat} {W : World} {v : Value} {s : List (List Cop)} (h : Spine B M W v s) : ∃ a cap, v = .slice a s.length cap := by
  obtain ⟨vs, ⟨_, ⟨hv, hn⟩ | ⟨g, cap, cur, hv, _⟩⟩, _⟩ := h
  · exact ⟨none, 0, by rw [hv, hn]⟩
  · exact ⟨_, _, hv⟩
theorem Spine.at {B : Bd} {M : Nat} {W : World} {g n cap : Nat} {s : List (List Cop)} (h : Spine B M W (.slice (some ⟨g, 0, none⟩) n cap) s) {i : Nat} (hi : i < s.length) :
    ∃ a c, W.cell? ⟨g, i, none⟩ = some (.slice a s[i].length c) ∧ CopS B W (.slice a s[i].length c) s[i] ∧ W.frozen? ⟨g, i, none⟩ = false := by
  obtain ⟨vs, h1, h2, h3⟩ := h
  have hn : n = s.length := by
    rcases h1.2 with ⟨hv, _⟩ | ⟨g', cap', cur, hv, _⟩
    · cases hv
    · simp only [Value.slice.injEq] at hv; exact hv.2.1
  subst hn
  have hc := World.ownsRow.cellAt h1 i (by omega)
  have hcp := h3 i hi (by omega)
  obtain ⟨a, c, e, _, _⟩ := hcp.form
  refine ⟨a, c, ?_, e ▸ hcp, World.ownsRow.frozenAt h1 i⟩
  rw [hc, List.getElem?_eq_getElem (by omega), e]
/-- another list in one's place -/
theorem Spine.set {B : Bd} {M : Nat} {W : World} {g n cap : Nat} {s : List (List Cop)} (h : Spine B M W (.slice (some ⟨g, 0, none⟩) n cap) s) {i : Nat} (hi : i < s.length) (hB : B ≤ g) {u : Value} {x : List Cop} (hu : CopS B W u x) : Spine B M (W.setCell ⟨g, i, none⟩ u) (.slice (some ⟨g, 0, none⟩) n cap) (s.set i x) := by
  obtain ⟨vs, h1, h2, h3⟩ := h
  have hn : n = s.length := by
    rcases h1.2 with ⟨hv, _⟩ | ⟨g', cap', cur, hv, _⟩
    · cases hv
    · simp only [Value.slice.injEq] at hv; exact hv.2.1
  subst hn
  obtain ⟨cur, hg⟩ := own_typed h1 (g := g) rfl
  have hb : Below B W (W.setCell ⟨g, i, none⟩ u) := (Below.refl B.hi W).setCell hB _
  have k1 : KeepTy 47 W (W.setCell ⟨g, i, none⟩ u) := KeepTy.setCell (p := ⟨g, i, none⟩) (NotTy.of hg (by decide)) _
  have k2 : KeepTy 44 W (W.setCell ⟨g, i, none⟩ u) := KeepTy.setCell (p := ⟨g, i, none⟩) (NotTy.of hg (by decide)) _
  have hs := (World.ownsRow.stored (w := W) h1 i u).1
  refine ⟨vs.set i u, by rw [List.length_set]; exact hs, by rw [List.length_set, List.length_set]; exact h2, fun j hj hv => ?_⟩
  rw [List.length_set] at hj hv
  by_cases hij : i = j
  · subst hij
    rw [List.getElem_set_self, List.getElem_set_self]
    exact hu.keep hb k1 k2
  · rw [List.getElem_set_ne hij, List.getElem_set_ne hij]
    exact (h3 j hj hv).keep hb k1 k2
/-- the first ones -/
theorem Spine.take {B : Bd} {M : Nat} {W : World} {g n cap : Nat} {s : List (List Cop)} (h : Spine B M W (.slice (some ⟨g, 0, none⟩) n cap) s) {m : Nat} (hm : m ≤ s.length) : Spine B M W (.slice (some ⟨g, 0, none⟩) m cap) (s.take m) := by
  obtain ⟨vs, h1, h2, h3⟩ := h
  have hl : (s.take m).length = m := by rw [List.length_take]; omega
  refine ⟨vs.take m, ?_, by rw [List.length_take, hl]; omega, fun i hi hv => ?_⟩
  · rw [hl]
    obtain ⟨h0, ⟨hv, _⟩ | ⟨g', cap', cur, hv, hB, hg, hnc, hcm, hcs, ht⟩⟩ := h1
    · cases hv
    · simp only [Value.slice.injEq, Option.some.injEq, Addr.mk.injEq, and_true, true_and] at hv
      obtain ⟨rfl, _, rfl⟩ := hv
      refine ⟨by rw [List.length_take]; omega, .inr ⟨g, cap, cur, rfl, hB, hg, by omega, hcm, hcs, ?_⟩⟩
      rw [← ht, List.take_take]
      congr 1; omega
  · rw [List.getElem_take, List.getElem_take]
    exact h3 i _ _
theorem sizedL (w : World) : (sizeOf (Try.prog.elem 100)).run Try.prog w = .ok 1 w := by kernel_rfl
theorem slice_hiL (w : World) (g n mc h : Nat) (hh : h ≤ mc) : (Instr.sliceAt 100 (.slice (some ⟨g, 0, none⟩) n mc) none (some (.int .i64 (h : Int))) none).run Try.prog w = .ok (.slice (some ⟨g, 0, none⟩) h mc) w := by
  rw [run_sliceAt_slice w 100 _ _ _ _ Try.underlying100, run_slice_h w 100 (some ⟨g, 0, none⟩) n mc Try.underlying100 .i64 (h : Int) (by omega) (by omega), sizedL]
  simp only [Result.andThen, Int.toNat_natCast]
  unfold sliced
  simp [Addr.add]
/-- a list more -/
theorem wpList_push {ops : Array Oper} {rest : List Oper} {o : Oper} {a : Act} {w : World} {Q : Exit → Act → World → Prop} (hgd : o.guard = none) (s x : Operand) (ho : o.op = .call { callee := .builtin .append, args := #[s, x], argTypes := #[100, 100] })
    (B : Bd) (M G : Nat) (v u : Value) (st : List (List Cop)) (y : List Cop) (hs : a.eval s = v) (hv : Spine B M w v st) (hx : a.eval x = .slice (some ⟨G, 0, none⟩) 1 1) (hG : w.heap[G]? = some (.cells #[u] 22 (0, 0))) (hu : CopS B w u y)
    (hl : st.length + 1 ≤ 2513169434843) (hBM : B ≤ M) (hB : M ≤ w.heap.size) (h : ∀ v' w', Spine B M w' v' (st ++ [y]) → Below M w w' → w.grownBy w' v.ownBlock → Newer w v v' → wpList Try.prog ops Q rest (a.put o.dst v') w') : wpList Try.prog ops Q (o :: rest) a w := by
  obtain ⟨i0, hi, hz0, hz1, hz2⟩ := info_parts (show (Try.prog.info? 22).map (fun i => (i.zero, i.size, i.bytes)) = some (some (.slice none 0 0), 1, 24) by kernel_rfl)
  obtain ⟨vs, h1, h2, h3⟩ := hv
  have hsrc : Src w (.slice (some ⟨G, 0, none⟩) 1 1) 1 [u] := .inr ⟨⟨G, 0, none⟩, 1, rfl, fun j z hz => by
    have : j = 0 := by have := (List.getElem?_eq_some_iff.1 hz).1; simp at this; exact this
    subst this
    simp at hz
    subst hz
    have e : (⟨G, 0, none⟩ : Addr).add 0 = ⟨G, 0, none⟩ := by unfold Addr.add; simp
    rw [e, cell_of_row w G 0 _ _ _ hG]; rfl⟩
  have hone : ∀ z ∈ [u], z.oneCell' = true := fun z hz => by
    rw [List.mem_singleton.1 hz]
    obtain ⟨a', c', e, _, _⟩ := hu.form
    rw [e]; rfl
  refine wpList_append_src _ hgd s x 100 ho M 22 i0 _ 1 24 Try.underlying100 hi hz0 hz1 hz2 rfl (by decide) v st.length vs hs h1 _ 1 [u] hx hsrc rfl hone (by unfold maxLen; omega) (by omega) hB ?_
  intro v' w' hown hg hn
  have hge : ∀ j, v.ownBlock = some j → M ≤ j := fun j hj => (World.ownsRow.lt h1 j hj).1
  have hbM : Below M w w' := (Below.refl M w).grown hg hB hge
  have hbB : Below B w w' := hbM.mono hBM
  have k1 : KeepTy 47 w w' := KeepTy.grown hg (fun g e => by obtain ⟨cur, hh⟩ := own_typed h1 e; exact NotTy.of hh (by decide))
  have k2 : KeepTy 44 w w' := KeepTy.grown hg (fun g e => by obtain ⟨cur, hh⟩ := own_typed h1 e; exact NotTy.of hh (by decide))
  refine h v' w' ⟨vs ++ [u], by simpa using hown, by simp [h2], fun i hi hv => ?_⟩ hbM hg hn
  by_cases hil : i < st.length
  · rw [List.getElem_append_left hil, List.getElem_append_left (by omega)]
    exact (h3 i hil (by omega)).keep hbB k1 k2
  · have : i = st.length := by simp at hi; omega
    subst this
    rw [List.getElem_append_right (Nat.le_refl _), List.getElem_append_right (by omega)]
    simp only [Nat.sub_self, List.getElem_cons_zero, h2]
    exact hu.keep hbB k1 k2
end Go.Proofs.Ytmlfeocdcjhhaaa

namespace Go.Proofs.Ytmlfeocdcjhhaaa
set_option maxRecDepth 100000
open Go.RowKit
set_option linter.unusedVariables false
set_option linter.unusedSimpArgs false
attribute [local go_sem ↓] Go.wp_at_zero Go.wp_at_succ

/-! simp.simple. -/
/-- what is so ahead of one operation -/
theorem simple_pre {l : List Cop} (h : 0 ≤ depthI l) {k : Nat} (hk : k < l.length) : (stackC (l.take k)).length ≤ k ∧ ((stackC (l.take k)).map List.length).sum ≤ k ∧ 0 ≤ takesI l[k].how ∧ takesI l[k].how ≤ ((stackC (l.take k)).length : Int) ∧
    stackC (l.take (k + 1)) = stepC (stackC (l.take k)) l[k] := by
  obtain ⟨hr, -, -⟩ := depth_run h
  clear h
  generalize depthI l = D at hr
  have e1 : l.take (k + 1) = l.take k ++ [l[k]] := List.take_succ_eq_append_getElem hk
  rw [← List.take_append_drop (k + 1) l, runK_append, e1, runK_append] at hr
  cases h1 : runK (l.take k) 0 0 with
  | none => rw [h1] at hr; cases hr
  | some p =>
    obtain ⟨n, m⟩ := p
    rw [h1] at hr
    obtain ⟨hn, hs⟩ := stack_ok _ n m h1
    have hl := runK_len _ h1
    have hle := runK_le _ h1 (Int.le_refl _)
    have htl : (l.take k).length = k := by rw [List.length_take]; omega
    have hf := hs.few
    rw [htl] at hl hf
    refine ⟨by omega, hf, ?_, ?_, by rw [e1, stackC_snoc]⟩
    all_goals
      have hr : ((runK [l[k]] n m).bind fun p => runK (l.drop (k + 1)) p.1 p.2) = some (1, D) := hr
      rw [runK] at hr
      by_cases hc : takesI l[k].how < 0 ∨ n < takesI l[k].how
      · rw [if_pos hc] at hr; cases hr
      · omega
theorem sum_snoc (st : List (List Cop)) (x : List Cop) : ((st ++ [x]).map List.length).sum = (st.map List.length).sum + x.length := by simp
/-- an operation's cells -/
theorem els_copO {B : Bd} {w : World} {a : Option Addr} {n c : Nat} {l : List Cop} (h : CopS B w (.slice a n c) l) {k : Nat} (hk : k < l.length) : ∃ b off pa pc, a = some ⟨b, off, none⟩ ∧ w.cell? ⟨b, off + k * 5, none⟩ = some (.int .i64 l[k].how) ∧ w.cell? ⟨b, off + k * 5 + 1, none⟩ = some (.int .i64 l[k].k) ∧
    w.cell? ⟨b, off + k * 5 + 2, none⟩ = some (.int .i64 l[k].n) ∧ w.cell? ⟨b, off + k * 5 + 3, none⟩ = some (.slice pa l[k].p.length pc) ∧ w.cell? ⟨b, off + k * 5 + 4, none⟩ = some (.int .u8 l[k].fn) ∧ MonS B w (.slice pa l[k].p.length pc) l[k].p ∧ OkO l[k] := by
  obtain ⟨⟨a', cap, e, _, _, _, hx⟩, _⟩ := h
  simp only [Value.slice.injEq] at e
  obtain ⟨b, off, cs, e2, ⟨v, rfl, hm, h1, h2, h3, h4⟩, hc⟩ := hx k hk
  obtain ⟨pa, pc, rfl, _, _⟩ := Rep.Sl.form hm.1
  exact ⟨b, off, pa, pc, e.1.trans e2, hc 0 _ rfl, hc 1 _ rfl, hc 2 _ rfl, hc 3 _ rfl, hc 4 _ rfl, hm, ⟨h1, h2, h3, h4⟩⟩
/-- one round: from the stack s by the operation o -/
structure RoundS (B : Bd) (w wr W : World) (z : Nat) (v : Value) (s : List (List Cop)) (o : Cop) (pv : Value) : Prop where
  box : OpBox wr W z o pv
  sp : Spine B w.heap.size W v s
  mon : MonS (b0 B.hi) W pv o.p
  b : Below w.heap.size w W
  hB : B ≤ W.heap.size
theorem RoundS.next {B : Bd} {w wr W W' : World} {z : Nat} {v pv : Value} {s : List (List Cop)} {o : Cop} (h : RoundS B w wr W z v s o pv) (hb : Below W.heap.size W W') : RoundS B w wr W' z v s o pv :=
  ⟨h.box.next hb, h.sp.next hb, h.mon.below hb, bNext hb h.b, Nat.le_trans h.hB hb.size⟩
set_option maxHeartbeats 16000000 in
theorem simple13_any (w : World) (B : Bd) (hB : B ≤ w.heap.size) (a : Option Addr) (c : Nat) (l : List Cop) (h : CopS (b0 B.hi) w (.slice a l.length c) l) (hl : l.length ≤ 2513169434843) (hd : 0 ≤ depthI l) (hpoly : ∀ o ∈ l, o.how = 2 → o.p.length ≤ 1048576) (hlo : (∀ b, B.ok b) ∨ ∀ o ∈ l, o.how ≠ 2 → o.p = []) :
    Calls Try.prog 26 #[.slice a l.length c] w (RetC B w (simpleC l)) := by
  have HC := Lib.hid h; have HL := Lib.hid hl; have HD := Lib.hid hd; have HPO := Lib.hid hpoly; have HLO := Lib.hid hlo; have HBB := Lib.hid hB
  obtain ⟨n, hn⟩ : ∃ n, l.length = n := ⟨_, rfl⟩
  rw [hn]
  have hnl : n ≤ 2513169434843 := hn ▸ hl
  have HN := Lib.hid hn
  clear h hl hd hpoly hlo hB hn
  go_enter Try.func26, Try.ntmps26
  go_wp2_with fail
  go_loopw [3, 9] (fun v i wr => ∃ k : Nat, k ≤ n ∧ i = .int .i64 k ∧ Below w.heap.size w wr ∧ Spine B w.heap.size wr v (stackC (l.take k))) (fun _ i _ => n - (intOf i).toNat)
  case atStart => exact ⟨0, by omega, rfl, Below.refl _ _, Spine.nil _ _ _⟩
  case round =>
    obtain ⟨k, hk, rfl, hb, hsp⟩ := hrel
    have hBr : B ≤ wr.heap.size := Nat.le_trans HBB.out hb.size
    have hcr := HC.out.below hb
    by_cases hlt : k < n
    · have hkx : k < l.length := by rw [HN.out]; exact hlt
      obtain ⟨p1, p2, p3, p4, p5⟩ := simple_pre HD.out hkx
      obtain ⟨bo, off, pa, pc, rfl, x0, x1, x2, x3, x4, hmon, hok⟩ := els_copO hcr hkx
      have hpo := HPO.out _ (List.getElem_mem hkx)
      have hup : l[k].how ≠ 2 → (∀ b, B.ok b) ∨ l[k].p = [] := fun h2 => HLO.out.imp id (fun h => h _ (List.getElem_mem hkx) h2)
      generalize l[k] = o at p3 p4 p5 x0 x1 x2 x3 x4 hmon hok hpo hup
      generalize stackC (l.take k) = s at p1 p2 p4 p5 hsp
      obtain ⟨ma, mc, rfl⟩ := hsp.slice
      obtain ⟨z, hz⟩ : ∃ z, wr.heap.size = z := ⟨_, rfl⟩
      have hba : Below wr.heap.size wr (wr.alloc (.cells #[.int .i64 o.how, .int .i64 o.k, .int .i64 o.n, .slice pa o.p.length pc, .int .u8 o.fn] 44)) := (Below.refl _ _).alloc (Nat.le_refl _) _
      have HR := Lib.hid (show RoundS B w wr (wr.alloc (.cells #[.int .i64 o.how, .int .i64 o.k, .int .i64 o.n, .slice pa o.p.length pc, .int .u8 o.fn] 44)) z (.slice ma s.length mc) s o (.slice pa o.p.length pc) from ⟨⟨heap_new hz, hba⟩, hsp.next hba, hmon.below hba, bNext hba hb, Nat.le_trans hBr hba.size⟩)
      have P5 := Lib.hid p5; have OKO := Lib.hid hok; have HPP := Lib.hid hpo; have HUP := Lib.hid hup; have HP2 := Lib.hid p2
      obtain ⟨m, hm⟩ : ∃ m, s.length = m := ⟨_, rfl⟩
      have hml : m ≤ 2513169434843 := by omega
      rw [hm] at HR p1 p4 ⊢
      have HM := Lib.hid hm
      clear hcr hba hsp hmon hok hpo hup p5 p2 hm hkx hBr hb
      go_upto_region 5 with fail
      refine gen_worldA (fun W => RoundS B w wr W z (.slice ma m mc) s o (.slice pa o.p.length pc)) HR.out ?_
      rintro W1 hR1
      clear HR x0 x1 x2 x3 x4 hz
      have HR := Lib.hid hR1
      clear hR1
      by_cases h2 : o.how = 2
      · have HF := Lib.hid h2; have hp6 := HPP.out h2
        have HS := Lib.hid (step_val h2 s)
        clear h2
        have y0 := HR.out.box.c0; have y1 := HR.out.box.c1; have y2 := HR.out.box.c2; have y3 := HR.out.box.c3; have y4 := HR.out.box.c4
        rw [HF.out] at y0
        go_upto_region 9 with fail
        clear y0
        have y0 := HR.out.box.c0
        have HQ := Lib.hid (value13_any W1 (b0 B.hi) B HR.out.hB o pa pc HR.out.mon OKO.out hp6)
        unfold opV at HQ
        go_wp2_with fail
        refine HQ.out.mono ?_
        rintro e W2 ⟨⟨v2, rfl, hv2⟩, hb2⟩
        obtain ⟨va, vc, rfl, -, -⟩ := hv2.form
        obtain ⟨vl, hvl⟩ : ∃ m, (valueC o).length = m := ⟨_, rfl⟩
        rw [hvl] at hv2 ⊢
        clear hvl
        have HR2 := Lib.hid (HR.out.next hb2)
        obtain ⟨G, hG⟩ : ∃ G, W2.heap.size = G := ⟨_, rfl⟩
        have hba : Below W2.heap.size W2 (W2.alloc (.cells #[.slice va vl vc] 22)) := (Below.refl _ _).alloc (Nat.le_refl _) _
        have HR3 := Lib.hid (HR2.out.next hba); have HV3 := Lib.hid (hv2.below hba); have HG := Lib.hid (heap_new hG (o := .cells #[.slice va vl vc] 22))
        clear HQ hb2 hba HR HR2 y0 y1 y2 y3 y4 hv2
        go_wp2_with (at_builtin; (refine wpList_push rfl _ _ rfl B w.heap.size G _ (.slice va vl vc) s _ rfl (by have := HR3.out.sp; exact this) rfl HG.out HV3.out (by rw [HM.out]; omega) HBB.out HR3.out.b.size ?_); intro v' wz hvz hbz hgz hnz)
        have HSZ := Lib.hid (show Spine B w.heap.size wz v' (stackC (l.take (k + 1))) by rw [P5.out, HS.out]; exact hvz)
        have HBZ := Lib.hid (HR3.out.b.trans hbz)
        clear hvz hbz hgz hnz HR3 HV3 HG hG
        go_wp2_with fail
        go_roundw
        case rel => exact ⟨k + 1, by omega, by go_num, HBZ.out, HSZ.out⟩
        case measure => simp [intOf] <;> omega
      by_cases h4 : o.how = 4
      · skip
        have HU2 := Lib.hid (HUP.out h2)
        have q2 : (o.how == 2) = false := by rw [beq_eq_false_iff_ne]; exact h2
        have HS := Lib.hid (fun st x => step_load h4 st x)
        have ht : takesI o.how = 1 := by rw [h4]; rfl
        rw [ht] at p4
        obtain ⟨st, x, rfl⟩ := snoc_of_pos (s := s) (by rw [HM.out]; omega)
        obtain ⟨t, hst⟩ : ∃ t, st.length = t := ⟨_, rfl⟩
        obtain rfl : m = t + 1 := by rw [← HM.out, List.length_append, hst]; rfl
        have hx : (st ++ [x])[t]'(by simp; omega) = x := by subst hst; simp
        have hset : ∀ y, (st ++ [x]).set t y = st ++ [y] := fun y => by subst hst; simp
        have hsum := HP2.out; rw [sum_snoc] at hsum
        have HXL := Lib.hid (show x.length + 1 ≤ 2513169434843 by omega)
        obtain ⟨g, cap, e, hgB, hgl, hcap, hmax, cur, hgc⟩ := HR.out.sp.form (by simp)
        simp only [Value.slice.injEq] at e
        obtain ⟨rfl, -, rfl⟩ := e
        obtain ⟨ax, cx, hc, hcx, hfz⟩ := HR.out.sp.at (i := t) (by simp; omega)
        rw [hx] at hc hcx
        obtain ⟨xl, hxl⟩ : ∃ n, x.length = n := ⟨_, rfl⟩
        rw [hxl] at hc hcx
        have HSET := Lib.hid hset; have HXX := Lib.hid hxl; have HGB := Lib.hid hgB; have HCX := Lib.hid hcx; have HC0 := Lib.hid hc; have HFZ := Lib.hid hfz; have HTS := Lib.hid hst
        clear hsum hset hx hst ht p4 hgB hcx hc hfz hgc hxl hmax hcap
        have HF := Lib.hid h4
        clear h2 h4
        have y0 := HR.out.box.c0; have y1 := HR.out.box.c1; have y2 := HR.out.box.c2; have y3 := HR.out.box.c3; have y4 := HR.out.box.c4
        rw [HF.out] at y0
        have htt : (t : Int) < (t : Int) + 1 := by omega
        have ht0 : (0 : Int) ≤ (t : Int) := by omega
        go_upto_region 11 with fail
        clear y0 y1 y2 y3 y4
        refine wp_region_Z (S := fun W' => W'.cell? ⟨g, t, none⟩ = some (.slice ax xl cx) ∧ (W'.cell? ⟨z, 0, none⟩ = some (.int .i64 o.how) ∧ W'.cell? ⟨z, 1, none⟩ = some (.int .i64 o.k) ∧ W'.cell? ⟨z, 2, none⟩ = some (.int .i64 o.n) ∧ W'.cell? ⟨z, 3, none⟩ = some (.slice pa o.p.length pc) ∧ W'.cell? ⟨z, 4, none⟩ = some (.int .u8 o.fn))) (z := 11) (by kernel_rfl) ?_
        have hdr : Below W1.heap.size W1 W1.drew := (Below.refl _ _).drew
        have HR := Lib.hid (HR.out.next hdr); have HCX := Lib.hid (HCX.out.below hdr); have hc := keepCell hdr HC0.out; have HC0 := Lib.hid hc
        have hgl' : g < W1.drew.heap.size := Nat.lt_of_lt_of_le hgl hdr.size
        have hfz' : W1.drew.frozen? ⟨g, t, none⟩ = false := HFZ.out
        clear hdr hc hgl HFZ
        generalize W1.drew = Y at HR HCX HC0 hgl' hfz' ⊢
        have hSS : (fun W' : World => W'.cell? ⟨g, t, none⟩ = some (.slice ax xl cx) ∧ (W'.cell? ⟨z, 0, none⟩ = some (.int .i64 o.how) ∧ W'.cell? ⟨z, 1, none⟩ = some (.int .i64 o.k) ∧ W'.cell? ⟨z, 2, none⟩ = some (.int .i64 o.n) ∧ W'.cell? ⟨z, 3, none⟩ = some (.slice pa o.p.length pc) ∧ W'.cell? ⟨z, 4, none⟩ = some (.int .u8 o.fn))) Y := ⟨HC0.out, HR.out.box.c0, HR.out.box.c1, HR.out.box.c2, HR.out.box.c3, HR.out.box.c4⟩
        refine wpAnyZ_take (i := 0) (v := ?_) rfl (by kernel_rfl) (by kernel_rfl) (by kernel_rfl) (fun _ _ _ h => h) (by kernel_rfl) (Or.inl ⟨by rfl, ?_⟩) (by assumption) ?_
        rotate_left
        · intro w' hSw
          try dsimp only at hSw
          try obtain ⟨hSw, hSw2⟩ := hSw
          go_simp
          try with_reducible rfl
        show wpAnyZ _ _ _ _ _ _ _ _ (Act.put _ (some 32) _) _
        simp only [Act.put, List.setIfInBounds_toArray, List.set_cons_zero, List.set_cons_succ]
        refine wpAnyZ_take (i := 1) (v := ?_) rfl (by kernel_rfl) (by kernel_rfl) (by kernel_rfl) (fun _ _ _ h => h) (by kernel_rfl) (Or.inl ⟨by rfl, ?_⟩) (by assumption) ?_
        rotate_left
        · intro w' hSw
          try dsimp only at hSw
          try obtain ⟨hSw, hSw2⟩ := hSw
          go_simp
          try with_reducible rfl
        show wpAnyZ _ _ _ _ _ _ _ _ (Act.put _ (some 33) _) _
        simp only [Act.put, List.setIfInBounds_toArray, List.set_cons_zero, List.set_cons_succ]
        refine wpAnyZ_take (i := 2) (v := ?_) rfl (by kernel_rfl) (by kernel_rfl) (by kernel_rfl) (fun _ _ _ h => h) (by kernel_rfl) (Or.inl ⟨by rfl, ?_⟩) (by assumption) ?_
        rotate_left
        · intro w' hSw
          try dsimp only at hSw
          try obtain ⟨hSw, hSw2⟩ := hSw
          go_simp
          try with_reducible rfl
        show wpAnyZ _ _ _ _ _ _ _ _ (Act.put _ (some 34) _) _
        simp only [Act.put, List.setIfInBounds_toArray, List.set_cons_zero, List.set_cons_succ]
        refine wpAnyZ_take (i := 3) (v := ?_) rfl (by kernel_rfl) (by kernel_rfl) (by kernel_rfl) (fun _ _ _ h => h) (by kernel_rfl) (Or.inl ⟨by rfl, ?_⟩) (by assumption) ?_
        rotate_left
        · intro w' hSw
          try dsimp only at hSw
          try obtain ⟨hSw, hSw2⟩ := hSw
          go_simp
          try with_reducible rfl
        show wpAnyZ _ _ _ _ _ _ _ _ (Act.put _ (some 35) _) _
        simp only [Act.put, List.setIfInBounds_toArray, List.set_cons_zero, List.set_cons_succ]
        refine wpAnyZ_take (i := 4) (v := ?_) rfl (by kernel_rfl) (by kernel_rfl) (by kernel_rfl) (fun _ _ _ h => h) (by kernel_rfl) (Or.inl ⟨by rfl, ?_⟩) (by assumption) ?_
        rotate_left
        · intro w' hSw
          try dsimp only at hSw
          try obtain ⟨hSw, hSw2⟩ := hSw
          go_simp
          try with_reducible rfl
        show wpAnyZ _ _ _ _ _ _ _ _ (Act.put _ (some 36) _) _
        simp only [Act.put, List.setIfInBounds_toArray, List.set_cons_zero, List.set_cons_succ]
        refine wpAnyZ_take (i := 5) (v := ?_) rfl (by kernel_rfl) (by kernel_rfl) (by kernel_rfl) (fun _ _ _ h => h) (by kernel_rfl) (Or.inl ⟨by rfl, ?_⟩) (by assumption) ?_
        rotate_left
        · intro w' hSw
          try dsimp only at hSw
          try obtain ⟨hSw, hSw2⟩ := hSw
          go_simp
          try with_reducible rfl
        show wpAnyZ _ _ _ _ _ _ _ _ (Act.put _ (some 37) _) _
        simp only [Act.put, List.setIfInBounds_toArray, List.set_cons_zero, List.set_cons_succ]
        refine wpAnyZ_take (i := 6) (v := ?_) rfl (by kernel_rfl) (by kernel_rfl) (by kernel_rfl) (fun _ _ _ h => h) (by kernel_rfl) (Or.inl ⟨by rfl, ?_⟩) (by assumption) ?_
        rotate_left
        · intro w' hSw
          try dsimp only at hSw
          try obtain ⟨hSw, hSw2⟩ := hSw
          go_simp
          try with_reducible rfl
        show wpAnyZ _ _ _ _ _ _ _ _ (Act.put _ (some 38) _) _
        simp only [Act.put, List.setIfInBounds_toArray, List.set_cons_zero, List.set_cons_succ]
        clear hSS
        obtain ⟨G1, hG1⟩ : ∃ G, Y.heap.size = G := ⟨_, rfl⟩
        refine wpAnyZ_one (i := 7) (by kernel_rfl) rfl rfl (fun K hK => ?_)
        go_simp
        have hba : Below Y.heap.size Y (Y.alloc (.cells #[.int .i64 o.how, .int .i64 o.k, .int .i64 o.n, .slice pa o.p.length pc, .int .u8 o.fn] 44)) := (Below.refl _ _).alloc (Nat.le_refl _) _
        refine hK.out _ _ (.inr ⟨keepCell hba HC0.out, (HR.out.box.next hba).c0, (HR.out.box.next hba).c1, (HR.out.box.next hba).c2, (HR.out.box.next hba).c3, (HR.out.box.next hba).c4⟩) ?_
        clear hK
        refine wpAnyZ_one (i := 8) (by kernel_rfl) rfl rfl (fun K hK => ?_)
        go_simp
        have hbb := hba.alloc hba.size (.cells #[.slice ax xl cx, .slice (some ⟨G1, 0, none⟩) 1 1] 22)
        skip
        refine hK.out _ _ (.inr ⟨keepCell hbb HC0.out, (HR.out.box.next hbb).c0, (HR.out.box.next hbb).c1, (HR.out.box.next hbb).c2, (HR.out.box.next hbb).c3, (HR.out.box.next hbb).c4⟩) ?_
        clear hK hba hbb
        refine wpAnyZ_one (i := 9) (by kernel_rfl) rfl rfl (fun K hK => ?_)
        go_simp
        have hq := join2_any Y B G1 (G1 + 1) HR.out.hB hG1 rfl _ x HCX.out o _ (HR.out.mon.up (Nat.le_refl _) HU2.out) OKO.out HXL.out
        refine hq.mono ?_
        rintro e W2 ⟨⟨v2, rfl, hv2⟩, hb2⟩
        have HR2 := Lib.hid (HR.out.next hb2); have HV2 := Lib.hid hv2
        have hc2 := keepCell hb2 HC0.out
        have hfz2 : W2.frozen? ⟨g, t, none⟩ = false := by have := World.frozen?_of_block (w := Y) (w' := W2) (a := ⟨g, t, none⟩) (hb2.block g hgl'); rw [this]; exact hfz'
        obtain ⟨va, vc, rfl, -, -⟩ := hv2.form
        obtain ⟨vl, hvl⟩ : ∃ m, (x ++ [o]).length = m := ⟨_, rfl⟩
        rw [hvl] at HV2 ⊢
        show K _ W2
        refine hK.out _ _ (.inr ⟨hc2, HR2.out.box.c0, HR2.out.box.c1, HR2.out.box.c2, HR2.out.box.c3, HR2.out.box.c4⟩) ?_
        clear hK hq hv2 hb2 hvl hfz' hgl' HR HCX HC0
        have hSS : (fun W' : World => W'.cell? ⟨g, t, none⟩ = some (.slice ax xl cx) ∧ (W'.cell? ⟨z, 0, none⟩ = some (.int .i64 o.how) ∧ W'.cell? ⟨z, 1, none⟩ = some (.int .i64 o.k) ∧ W'.cell? ⟨z, 2, none⟩ = some (.int .i64 o.n) ∧ W'.cell? ⟨z, 3, none⟩ = some (.slice pa o.p.length pc) ∧ W'.cell? ⟨z, 4, none⟩ = some (.int .u8 o.fn))) W2 := ⟨hc2, HR2.out.box.c0, HR2.out.box.c1, HR2.out.box.c2, HR2.out.box.c3, HR2.out.box.c4⟩
        refine wpAnyZ_take (i := 10) (v := ?_) rfl (by kernel_rfl) (by kernel_rfl) (by kernel_rfl) (fun _ _ _ h => h) (by kernel_rfl) (Or.inl ⟨by rfl, ?_⟩) (by assumption) ?_
        rotate_left
        · intro w' hSw
          try dsimp only at hSw
          try obtain ⟨hSw, hSw2⟩ := hSw
          go_simp
          try with_reducible rfl
        show wpAnyZ _ _ _ _ _ _ _ _ (Act.put _ (some 42) _) _
        simp only [Act.put, List.setIfInBounds_toArray, List.set_cons_zero, List.set_cons_succ]
        clear hSS
        refine wpAnyZ_one (i := 11) (by kernel_rfl) rfl rfl (fun K hK => ?_)
        go_simp
        refine hK.out _ _ (.inl (by omega)) ?_
        clear hK
        refine wpAnyZ_done (by kernel_rfl) ?_ _
        have HSZ := Lib.hid (show Spine B w.heap.size (W2.setCell ⟨g, t, none⟩ (.slice va vl vc)) (.slice (some ⟨g, 0, none⟩) (t + 1) mc) (stackC (l.take (k + 1))) by
          rw [P5.out, HS.out, ← HSET.out]
          exact HR2.out.sp.set (i := t) (by rw [List.length_append, HTS.out]; simp) (Nat.le_trans HBB.out HGB.out) HV2.out)
        have HBZ := Lib.hid (show Below w.heap.size w (W2.setCell ⟨g, t, none⟩ (.slice va vl vc)) from HR2.out.b.setCell (by show w.heap.size ≤ g; exact HGB.out) _)
        clear HR2 HV2 hc2 hfz2
        go_wp2_with fail
        go_roundw
        case rel => exact ⟨k + 1, by omega, by go_num, HBZ.out, HSZ.out⟩
        case measure => simp [intOf] <;> omega
      by_cases h5 : o.how = 5
      · skip
        have HU2 := Lib.hid (HUP.out h2)
        have q2 : (o.how == 2) = false := by rw [beq_eq_false_iff_ne]; exact h2
        have q4 : (o.how == 4) = false := by rw [beq_eq_false_iff_ne]; exact h4
        have HS := Lib.hid (fun st x => step_mon h5 st x)
        have ht : takesI o.how = 1 := by rw [h5]; rfl
        rw [ht] at p4
        obtain ⟨st, x, rfl⟩ := snoc_of_pos (s := s) (by rw [HM.out]; omega)
        obtain ⟨t, hst⟩ : ∃ t, st.length = t := ⟨_, rfl⟩
        obtain rfl : m = t + 1 := by rw [← HM.out, List.length_append, hst]; rfl
        have hx : (st ++ [x])[t]'(by simp; omega) = x := by subst hst; simp
        have hset : ∀ y, (st ++ [x]).set t y = st ++ [y] := fun y => by subst hst; simp
        have hsum := HP2.out; rw [sum_snoc] at hsum
        have HXL := Lib.hid (show x.length + 1 ≤ 2513169434843 by omega)
        obtain ⟨g, cap, e, hgB, hgl, hcap, hmax, cur, hgc⟩ := HR.out.sp.form (by simp)
        simp only [Value.slice.injEq] at e
        obtain ⟨rfl, -, rfl⟩ := e
        obtain ⟨ax, cx, hc, hcx, hfz⟩ := HR.out.sp.at (i := t) (by simp; omega)
        rw [hx] at hc hcx
        obtain ⟨xl, hxl⟩ : ∃ n, x.length = n := ⟨_, rfl⟩
        rw [hxl] at hc hcx
        have HSET := Lib.hid hset; have HXX := Lib.hid hxl; have HGB := Lib.hid hgB; have HCX := Lib.hid hcx; have HC0 := Lib.hid hc; have HFZ := Lib.hid hfz; have HTS := Lib.hid hst
        clear hsum hset hx hst ht p4 hgB hcx hc hfz hgc hxl hmax hcap
        have HF := Lib.hid h5
        clear h2 h4 h5
        have y0 := HR.out.box.c0; have y1 := HR.out.box.c1; have y2 := HR.out.box.c2; have y3 := HR.out.box.c3; have y4 := HR.out.box.c4
        rw [HF.out] at y0
        have htt : (t : Int) < (t : Int) + 1 := by omega
        have ht0 : (0 : Int) ≤ (t : Int) := by omega
        go_upto_region 13 with fail
        clear y0 y1 y2 y3 y4
        refine wp_region_Z (S := fun W' => W'.cell? ⟨g, t, none⟩ = some (.slice ax xl cx) ∧ (W'.cell? ⟨z, 0, none⟩ = some (.int .i64 o.how) ∧ W'.cell? ⟨z, 1, none⟩ = some (.int .i64 o.k) ∧ W'.cell? ⟨z, 2, none⟩ = some (.int .i64 o.n) ∧ W'.cell? ⟨z, 3, none⟩ = some (.slice pa o.p.length pc) ∧ W'.cell? ⟨z, 4, none⟩ = some (.int .u8 o.fn))) (z := 9) (by kernel_rfl) ?_
        have hdr : Below W1.heap.size W1 W1.drew := (Below.refl _ _).drew
        have HR := Lib.hid (HR.out.next hdr); have HCX := Lib.hid (HCX.out.below hdr); have hc := keepCell hdr HC0.out; have HC0 := Lib.hid hc
        have hgl' : g < W1.drew.heap.size := Nat.lt_of_lt_of_le hgl hdr.size
        have hfz' : W1.drew.frozen? ⟨g, t, none⟩ = false := HFZ.out
        clear hdr hc hgl HFZ
        generalize W1.drew = Y at HR HCX HC0 hgl' hfz' ⊢
        have hSS : (fun W' : World => W'.cell? ⟨g, t, none⟩ = some (.slice ax xl cx) ∧ (W'.cell? ⟨z, 0, none⟩ = some (.int .i64 o.how) ∧ W'.cell? ⟨z, 1, none⟩ = some (.int .i64 o.k) ∧ W'.cell? ⟨z, 2, none⟩ = some (.int .i64 o.n) ∧ W'.cell? ⟨z, 3, none⟩ = some (.slice pa o.p.length pc) ∧ W'.cell? ⟨z, 4, none⟩ = some (.int .u8 o.fn))) Y := ⟨HC0.out, HR.out.box.c0, HR.out.box.c1, HR.out.box.c2, HR.out.box.c3, HR.out.box.c4⟩
        refine wpAnyZ_take (i := 0) (v := ?_) rfl (by kernel_rfl) (by kernel_rfl) (by kernel_rfl) (fun _ _ _ h => h) (by kernel_rfl) (Or.inl ⟨by rfl, ?_⟩) (by assumption) ?_
        rotate_left
        · intro w' hSw
          try dsimp only at hSw
          try obtain ⟨hSw, hSw2⟩ := hSw
          go_simp
          try with_reducible rfl
        show wpAnyZ _ _ _ _ _ _ _ _ (Act.put _ (some 45) _) _
        simp only [Act.put, List.setIfInBounds_toArray, List.set_cons_zero, List.set_cons_succ]
        refine wpAnyZ_take (i := 1) (v := ?_) rfl (by kernel_rfl) (by kernel_rfl) (by kernel_rfl) (fun _ _ _ h => h) (by kernel_rfl) (Or.inl ⟨by rfl, ?_⟩) (by assumption) ?_
        rotate_left
        · intro w' hSw
          try dsimp only at hSw
          try obtain ⟨hSw, hSw2⟩ := hSw
          go_simp
          try with_reducible rfl
        show wpAnyZ _ _ _ _ _ _ _ _ (Act.put _ (some 46) _) _
        simp only [Act.put, List.setIfInBounds_toArray, List.set_cons_zero, List.set_cons_succ]
        refine wpAnyZ_take (i := 2) (v := ?_) rfl (by kernel_rfl) (by kernel_rfl) (by kernel_rfl) (fun _ _ _ h => h) (by kernel_rfl) (Or.inl ⟨by rfl, ?_⟩) (by assumption) ?_
        rotate_left
        · intro w' hSw
          try dsimp only at hSw
          try obtain ⟨hSw, hSw2⟩ := hSw
          go_simp
          try with_reducible rfl
        show wpAnyZ _ _ _ _ _ _ _ _ (Act.put _ (some 47) _) _
        simp only [Act.put, List.setIfInBounds_toArray, List.set_cons_zero, List.set_cons_succ]
        refine wpAnyZ_take (i := 3) (v := ?_) rfl (by kernel_rfl) (by kernel_rfl) (by kernel_rfl) (fun _ _ _ h => h) (by kernel_rfl) (Or.inl ⟨by rfl, ?_⟩) (by assumption) ?_
        rotate_left
        · intro w' hSw
          try dsimp only at hSw
          try obtain ⟨hSw, hSw2⟩ := hSw
          go_simp
          try with_reducible rfl
        show wpAnyZ _ _ _ _ _ _ _ _ (Act.put _ (some 48) _) _
        simp only [Act.put, List.setIfInBounds_toArray, List.set_cons_zero, List.set_cons_succ]
        refine wpAnyZ_take (i := 4) (v := ?_) rfl (by kernel_rfl) (by kernel_rfl) (by kernel_rfl) (fun _ _ _ h => h) (by kernel_rfl) (Or.inl ⟨by rfl, ?_⟩) (by assumption) ?_
        rotate_left
        · intro w' hSw
          try dsimp only at hSw
          try obtain ⟨hSw, hSw2⟩ := hSw
          go_simp
          try with_reducible rfl
        show wpAnyZ _ _ _ _ _ _ _ _ (Act.put _ (some 49) _) _
        simp only [Act.put, List.setIfInBounds_toArray, List.set_cons_zero, List.set_cons_succ]
        refine wpAnyZ_take (i := 5) (v := ?_) rfl (by kernel_rfl) (by kernel_rfl) (by kernel_rfl) (fun _ _ _ h => h) (by kernel_rfl) (Or.inl ⟨by rfl, ?_⟩) (by assumption) ?_
        rotate_left
        · intro w' hSw
          try dsimp only at hSw
          try obtain ⟨hSw, hSw2⟩ := hSw
          go_simp
          try with_reducible rfl
        show wpAnyZ _ _ _ _ _ _ _ _ (Act.put _ (some 50) _) _
        simp only [Act.put, List.setIfInBounds_toArray, List.set_cons_zero, List.set_cons_succ]
        refine wpAnyZ_take (i := 6) (v := ?_) rfl (by kernel_rfl) (by kernel_rfl) (by kernel_rfl) (fun _ _ _ h => h) (by kernel_rfl) (Or.inl ⟨by rfl, ?_⟩) (by assumption) ?_
        rotate_left
        · intro w' hSw
          try dsimp only at hSw
          try obtain ⟨hSw, hSw2⟩ := hSw
          go_simp
          try with_reducible rfl
        show wpAnyZ _ _ _ _ _ _ _ _ (Act.put _ (some 51) _) _
        simp only [Act.put, List.setIfInBounds_toArray, List.set_cons_zero, List.set_cons_succ]
        clear hSS
        obtain ⟨G1, hG1⟩ : ∃ G, Y.heap.size = G := ⟨_, rfl⟩
        refine wpAnyZ_one (i := 7) (by kernel_rfl) rfl rfl (fun K hK => ?_)
        go_simp
        have hq := monad13_any Y B HR.out.hB ax cx x (by rw [HXX.out]; exact HCX.out) HXL.out o pa pc (HR.out.mon.up (Nat.le_refl _) HU2.out) OKO.out
        unfold opV at hq
        rw [HXX.out] at hq
        refine hq.mono ?_
        rintro e W2 ⟨⟨v2, rfl, hv2⟩, hb2⟩
        have HR2 := Lib.hid (HR.out.next hb2); have HV2 := Lib.hid hv2
        have hc2 := keepCell hb2 HC0.out
        have hfz2 : W2.frozen? ⟨g, t, none⟩ = false := by have := World.frozen?_of_block (w := Y) (w' := W2) (a := ⟨g, t, none⟩) (hb2.block g hgl'); rw [this]; exact hfz'
        obtain ⟨va, vc, rfl, -, -⟩ := hv2.form
        obtain ⟨vl, hvl⟩ : ∃ m, (monadC x o).length = m := ⟨_, rfl⟩
        rw [hvl] at HV2 ⊢
        show K _ W2
        refine hK.out _ _ (.inr ⟨hc2, HR2.out.box.c0, HR2.out.box.c1, HR2.out.box.c2, HR2.out.box.c3, HR2.out.box.c4⟩) ?_
        clear hK hq hv2 hb2 hvl hfz' hgl' HR HCX HC0
        have hSS : (fun W' : World => W'.cell? ⟨g, t, none⟩ = some (.slice ax xl cx) ∧ (W'.cell? ⟨z, 0, none⟩ = some (.int .i64 o.how) ∧ W'.cell? ⟨z, 1, none⟩ = some (.int .i64 o.k) ∧ W'.cell? ⟨z, 2, none⟩ = some (.int .i64 o.n) ∧ W'.cell? ⟨z, 3, none⟩ = some (.slice pa o.p.length pc) ∧ W'.cell? ⟨z, 4, none⟩ = some (.int .u8 o.fn))) W2 := ⟨hc2, HR2.out.box.c0, HR2.out.box.c1, HR2.out.box.c2, HR2.out.box.c3, HR2.out.box.c4⟩
        refine wpAnyZ_take (i := 8) (v := ?_) rfl (by kernel_rfl) (by kernel_rfl) (by kernel_rfl) (fun _ _ _ h => h) (by kernel_rfl) (Or.inl ⟨by rfl, ?_⟩) (by assumption) ?_
        rotate_left
        · intro w' hSw
          try dsimp only at hSw
          try obtain ⟨hSw, hSw2⟩ := hSw
          go_simp
          try with_reducible rfl
        show wpAnyZ _ _ _ _ _ _ _ _ (Act.put _ (some 53) _) _
        simp only [Act.put, List.setIfInBounds_toArray, List.set_cons_zero, List.set_cons_succ]
        clear hSS
        refine wpAnyZ_one (i := 9) (by kernel_rfl) rfl rfl (fun K hK => ?_)
        go_simp
        refine hK.out _ _ (.inl (by omega)) ?_
        clear hK
        refine wpAnyZ_done (by kernel_rfl) ?_ _
        have HSZ := Lib.hid (show Spine B w.heap.size (W2.setCell ⟨g, t, none⟩ (.slice va vl vc)) (.slice (some ⟨g, 0, none⟩) (t + 1) mc) (stackC (l.take (k + 1))) by
          rw [P5.out, HS.out, ← HSET.out]
          exact HR2.out.sp.set (i := t) (by rw [List.length_append, HTS.out]; simp) (Nat.le_trans HBB.out HGB.out) HV2.out)
        have HBZ := Lib.hid (show Below w.heap.size w (W2.setCell ⟨g, t, none⟩ (.slice va vl vc)) from HR2.out.b.setCell (by show w.heap.size ≤ g; exact HGB.out) _)
        clear HR2 HV2 hc2 hfz2
        go_wp2_with fail
        go_roundw
        case rel => exact ⟨k + 1, by omega, by go_num, HBZ.out, HSZ.out⟩
        case measure => simp [intOf] <;> omega
      by_cases h6 : o.how = 6
      · skip
        have HU2 := Lib.hid (HUP.out h2)
        have q2 : (o.how == 2) = false := by rw [beq_eq_false_iff_ne]; exact h2
        have q4 : (o.how == 4) = false := by rw [beq_eq_false_iff_ne]; exact h4
        have q5 : (o.how == 5) = false := by rw [beq_eq_false_iff_ne]; exact h5
        have HS := Lib.hid (fun st x y => step_dy h6 st x y)
        have ht : takesI o.how = 2 := by rw [h6]; rfl
        rw [ht] at p4
        obtain ⟨s1, y, rfl⟩ := snoc_of_pos (s := s) (by rw [HM.out]; omega)
        obtain ⟨st, x, rfl⟩ := snoc_of_pos (s := s1) (by have := HM.out; simp at this; omega)
        have hss : (st ++ [x]) ++ [y] = st ++ [x, y] := by simp
        rw [hss] at P5 HM HP2 HR
        obtain ⟨t, hst⟩ : ∃ t, st.length = t := ⟨_, rfl⟩
        obtain ⟨u, hu⟩ : ∃ u, t + 1 = u := ⟨_, rfl⟩
        have hut : (u : Int) - 1 = (t : Int) := by omega
        obtain rfl : m = u + 1 := by rw [← HM.out, List.length_append, hst, ← hu]; rfl
        have HU := Lib.hid hu
        have hx : (st ++ [x, y])[t]'(by simp; omega) = x := by subst hst; simp
        have hy : (st ++ [x, y])[u]'(by simp; omega) = y := by subst hu; subst hst; simp
        have hset : ∀ q, ((st ++ [x, y]).set t q).take u = st ++ [q] := fun q => by subst hu; subst hst; rw [show (st ++ [x, y]).set st.length q = (st ++ [q]) ++ [y] by simp]; exact List.take_left' (by simp)
        have hsum : (st.map List.length).sum + (x.length + y.length) ≤ k := by have := HP2.out; simpa [Nat.add_assoc] using this
        have HXL := Lib.hid (show x.length + y.length + 1 ≤ 2513169434843 by omega)
        obtain ⟨g, cap, e, hgB, hgl, hcap, hmax, cur, hgc⟩ := HR.out.sp.form (by simp)
        simp only [Value.slice.injEq] at e
        obtain ⟨rfl, -, rfl⟩ := e
        have hcap2 : u ≤ mc := by have := HM.out; omega
        have sl := fun W => slice_hiL W g (u + 1) mc u hcap2
        have hcapI : (u : Int) ≤ (mc : Int) := by omega
        obtain ⟨ax, cx, hc, hcx, hfz⟩ := HR.out.sp.at (i := t) (by simp; omega)
        obtain ⟨ay, cy, hd, hdx, -⟩ := HR.out.sp.at (i := u) (by simp; omega)
        rw [hx] at hc hcx; rw [hy] at hd hdx
        obtain ⟨xl, hxl⟩ : ∃ n, x.length = n := ⟨_, rfl⟩
        obtain ⟨yl, hyl⟩ : ∃ n, y.length = n := ⟨_, rfl⟩
        rw [hxl] at hc hcx; rw [hyl] at hd hdx
        have HSET := Lib.hid hset; have HXX := Lib.hid hxl; have HYY := Lib.hid hyl; have HGB := Lib.hid hgB; have HCX := Lib.hid hcx; have HDX := Lib.hid hdx; have HC0 := Lib.hid hc; have HD0 := Lib.hid hd; have HFZ := Lib.hid hfz; have HTS := Lib.hid hst
        have HF := Lib.hid h6
        clear hsum hset hx hy hss hst ht p4 hgB hcx hdx hc hd hfz hgc hxl hyl hmax hcap hcap2 hu h2 h4 h5 h6
        have y0 := HR.out.box.c0; have y1 := HR.out.box.c1; have y2 := HR.out.box.c2; have y3 := HR.out.box.c3; have y4 := HR.out.box.c4
        rw [HF.out] at y0
        have htt : (t : Int) < (u : Int) + 1 := by omega
        have hwt : IntKind.i64.wrap (t : Int) = (t : Int) := by rw [IntKind.wrap_i64]; omega
        have htt2 : (u : Int) < (u : Int) + 1 := by omega
        have ht0 : (0 : Int) ≤ (t : Int) := by omega
        have ht1 : (0 : Int) ≤ (u : Int) := by omega
        go_upto_region 15 with fail
        clear y0 y1 y2 y3 y4
        refine wp_region_Z (S := fun W' => (W'.cell? ⟨g, t, none⟩ = some (.slice ax xl cx) ∧ W'.cell? ⟨g, u, none⟩ = some (.slice ay yl cy)) ∧ (W'.cell? ⟨z, 0, none⟩ = some (.int .i64 o.how) ∧ W'.cell? ⟨z, 1, none⟩ = some (.int .i64 o.k) ∧ W'.cell? ⟨z, 2, none⟩ = some (.int .i64 o.n) ∧ W'.cell? ⟨z, 3, none⟩ = some (.slice pa o.p.length pc) ∧ W'.cell? ⟨z, 4, none⟩ = some (.int .u8 o.fn))) (z := 15) (by kernel_rfl) ?_
        have hdr : Below W1.heap.size W1 W1.drew := (Below.refl _ _).drew
        have HR := Lib.hid (HR.out.next hdr); have HCX := Lib.hid (HCX.out.below hdr); have HDX := Lib.hid (HDX.out.below hdr); have hc := keepCell hdr HC0.out; have HC0 := Lib.hid hc; have hd := keepCell hdr HD0.out; have HD0 := Lib.hid hd
        have hgl' : g < W1.drew.heap.size := Nat.lt_of_lt_of_le hgl hdr.size
        have hfz' : W1.drew.frozen? ⟨g, t, none⟩ = false := HFZ.out
        clear hdr hc hd hgl HFZ
        generalize W1.drew = Y at HR HCX HDX HC0 HD0 hgl' hfz' ⊢
        have hSS : (fun W' : World => (W'.cell? ⟨g, t, none⟩ = some (.slice ax xl cx) ∧ W'.cell? ⟨g, u, none⟩ = some (.slice ay yl cy)) ∧ (W'.cell? ⟨z, 0, none⟩ = some (.int .i64 o.how) ∧ W'.cell? ⟨z, 1, none⟩ = some (.int .i64 o.k) ∧ W'.cell? ⟨z, 2, none⟩ = some (.int .i64 o.n) ∧ W'.cell? ⟨z, 3, none⟩ = some (.slice pa o.p.length pc) ∧ W'.cell? ⟨z, 4, none⟩ = some (.int .u8 o.fn))) Y := ⟨⟨HC0.out, HD0.out⟩, HR.out.box.c0, HR.out.box.c1, HR.out.box.c2, HR.out.box.c3, HR.out.box.c4⟩
        refine wpAnyZ_take (i := 0) (v := ?_) rfl (by kernel_rfl) (by kernel_rfl) (by kernel_rfl) (fun _ _ _ h => h) (by kernel_rfl) (Or.inl ⟨by rfl, ?_⟩) (by assumption) ?_
        rotate_left
        · intro w' hSw
          try dsimp only at hSw
          try obtain ⟨hSw, hSw2⟩ := hSw
          go_simp
          try with_reducible rfl
        show wpAnyZ _ _ _ _ _ _ _ _ (Act.put _ (some 56) _) _
        simp only [Act.put, List.setIfInBounds_toArray, List.set_cons_zero, List.set_cons_succ]
        refine wpAnyZ_take (i := 1) (v := ?_) rfl (by kernel_rfl) (by kernel_rfl) (by kernel_rfl) (fun _ _ _ h => h) (by kernel_rfl) (Or.inl ⟨by rfl, ?_⟩) (by assumption) ?_
        rotate_left
        · intro w' hSw
          try dsimp only at hSw
          try obtain ⟨hSw, hSw2⟩ := hSw
          go_simp
          try with_reducible rfl
        show wpAnyZ _ _ _ _ _ _ _ _ (Act.put _ (some 57) _) _
        simp only [Act.put, List.setIfInBounds_toArray, List.set_cons_zero, List.set_cons_succ]
        refine wpAnyZ_take (i := 2) (v := ?_) rfl (by kernel_rfl) (by kernel_rfl) (by kernel_rfl) (fun _ _ _ h => h) (by kernel_rfl) (Or.inl ⟨by rfl, ?_⟩) (by assumption) ?_
        rotate_left
        · intro w' hSw
          try dsimp only at hSw
          try obtain ⟨hSw, hSw2⟩ := hSw
          go_simp
          try with_reducible rfl
        show wpAnyZ _ _ _ _ _ _ _ _ (Act.put _ (some 58) _) _
        simp only [Act.put, List.setIfInBounds_toArray, List.set_cons_zero, List.set_cons_succ]
        refine wpAnyZ_take (i := 3) (v := ?_) rfl (by kernel_rfl) (by kernel_rfl) (by kernel_rfl) (fun _ _ _ h => h) (by kernel_rfl) (Or.inl ⟨by rfl, ?_⟩) (by assumption) ?_
        rotate_left
        · intro w' hSw
          try dsimp only at hSw
          try obtain ⟨hSw, hSw2⟩ := hSw
          go_simp
          try with_reducible rfl
        show wpAnyZ _ _ _ _ _ _ _ _ (Act.put _ (some 59) _) _
        simp only [Act.put, List.setIfInBounds_toArray, List.set_cons_zero, List.set_cons_succ]
        refine wpAnyZ_take (i := 4) (v := ?_) rfl (by kernel_rfl) (by kernel_rfl) (by kernel_rfl) (fun _ _ _ h => h) (by kernel_rfl) (Or.inl ⟨by rfl, ?_⟩) (by assumption) ?_
        rotate_left
        · intro w' hSw
          try dsimp only at hSw
          try obtain ⟨hSw, hSw2⟩ := hSw
          go_simp
          try with_reducible rfl
        show wpAnyZ _ _ _ _ _ _ _ _ (Act.put _ (some 60) _) _
        simp only [Act.put, List.setIfInBounds_toArray, List.set_cons_zero, List.set_cons_succ]
        refine wpAnyZ_take (i := 5) (v := ?_) rfl (by kernel_rfl) (by kernel_rfl) (by kernel_rfl) (fun _ _ _ h => h) (by kernel_rfl) (Or.inl ⟨by rfl, ?_⟩) (by assumption) ?_
        rotate_left
        · intro w' hSw
          try dsimp only at hSw
          try obtain ⟨hSw, hSw2⟩ := hSw
          go_simp
          try with_reducible rfl
        show wpAnyZ _ _ _ _ _ _ _ _ (Act.put _ (some 61) _) _
        simp only [Act.put, List.setIfInBounds_toArray, List.set_cons_zero, List.set_cons_succ]
        refine wpAnyZ_take (i := 6) (v := ?_) rfl (by kernel_rfl) (by kernel_rfl) (by kernel_rfl) (fun _ _ _ h => h) (by kernel_rfl) (Or.inl ⟨by rfl, ?_⟩) (by assumption) ?_
        rotate_left
        · intro w' hSw
          try dsimp only at hSw
          try obtain ⟨hSw, hSw2⟩ := hSw
          go_simp
          try with_reducible rfl
        show wpAnyZ _ _ _ _ _ _ _ _ (Act.put _ (some 62) _) _
        simp only [Act.put, List.setIfInBounds_toArray, List.set_cons_zero, List.set_cons_succ]
        refine wpAnyZ_take (i := 7) (v := ?_) rfl (by kernel_rfl) (by kernel_rfl) (by kernel_rfl) (fun _ _ _ h => h) (by kernel_rfl) (Or.inl ⟨by rfl, ?_⟩) (by assumption) ?_
        rotate_left
        · intro w' hSw
          try dsimp only at hSw
          try obtain ⟨hSw, hSw2⟩ := hSw
          go_simp
          try with_reducible rfl
        show wpAnyZ _ _ _ _ _ _ _ _ (Act.put _ (some 63) _) _
        simp only [Act.put, List.setIfInBounds_toArray, List.set_cons_zero, List.set_cons_succ]
        refine wpAnyZ_take (i := 8) (v := ?_) rfl (by kernel_rfl) (by kernel_rfl) (by kernel_rfl) (fun _ _ _ h => h) (by kernel_rfl) (Or.inl ⟨by rfl, ?_⟩) (by assumption) ?_
        rotate_left
        · intro w' hSw
          try dsimp only at hSw
          try obtain ⟨hSw, hSw2⟩ := hSw
          go_simp
          try with_reducible rfl
        show wpAnyZ _ _ _ _ _ _ _ _ (Act.put _ (some 64) _) _
        simp only [Act.put, List.setIfInBounds_toArray, List.set_cons_zero, List.set_cons_succ]
        refine wpAnyZ_take (i := 9) (v := ?_) rfl (by kernel_rfl) (by kernel_rfl) (by kernel_rfl) (fun _ _ _ h => h) (by kernel_rfl) (Or.inl ⟨by rfl, ?_⟩) (by assumption) ?_
        rotate_left
        · intro w' hSw
          try dsimp only at hSw
          try obtain ⟨hSw, hSw2⟩ := hSw
          go_simp
          try with_reducible rfl
        show wpAnyZ _ _ _ _ _ _ _ _ (Act.put _ (some 65) _) _
        simp only [Act.put, List.setIfInBounds_toArray, List.set_cons_zero, List.set_cons_succ]
        refine wpAnyZ_take (i := 10) (v := ?_) rfl (by kernel_rfl) (by kernel_rfl) (by kernel_rfl) (fun _ _ _ h => h) (by kernel_rfl) (Or.inl ⟨by rfl, ?_⟩) (by assumption) ?_
        rotate_left
        · intro w' hSw
          try dsimp only at hSw
          try obtain ⟨hSw, hSw2⟩ := hSw
          go_simp
          try with_reducible rfl
        show wpAnyZ _ _ _ _ _ _ _ _ (Act.put _ (some 66) _) _
        simp only [Act.put, List.setIfInBounds_toArray, List.set_cons_zero, List.set_cons_succ]
        refine wpAnyZ_take (i := 11) (v := ?_) rfl (by kernel_rfl) (by kernel_rfl) (by kernel_rfl) (fun _ _ _ h => h) (by kernel_rfl) (Or.inl ⟨by rfl, ?_⟩) (by assumption) ?_
        rotate_left
        · intro w' hSw
          try dsimp only at hSw
          try obtain ⟨hSw, hSw2⟩ := hSw
          go_simp
          try with_reducible rfl
        show wpAnyZ _ _ _ _ _ _ _ _ (Act.put _ (some 67) _) _
        simp only [Act.put, List.setIfInBounds_toArray, List.set_cons_zero, List.set_cons_succ]
        refine wpAnyZ_take (i := 12) (v := ?_) rfl (by kernel_rfl) (by kernel_rfl) (by kernel_rfl) (fun _ _ _ h => h) (by kernel_rfl) (Or.inl ⟨by rfl, ?_⟩) (by assumption) ?_
        rotate_left
        · intro w' hSw
          try dsimp only at hSw
          try obtain ⟨hSw, hSw2⟩ := hSw
          go_simp
          try with_reducible rfl
        show wpAnyZ _ _ _ _ _ _ _ _ (Act.put _ (some 68) _) _
        simp only [Act.put, List.setIfInBounds_toArray, List.set_cons_zero, List.set_cons_succ]
        clear hSS
        refine wpAnyZ_one (i := 13) (by kernel_rfl) rfl rfl (fun K hK => ?_)
        go_simp
        have hq := dyad13_any Y B HR.out.hB ax ay cx cy x y (by rw [HXX.out]; exact HCX.out) (by rw [HYY.out]; exact HDX.out) HXL.out o pa pc (HR.out.mon.up (Nat.le_refl _) HU2.out) OKO.out
        unfold opV at hq
        rw [HXX.out, HYY.out] at hq
        refine hq.mono ?_
        rintro e W2 ⟨⟨v2, rfl, hv2⟩, hb2⟩
        have HR2 := Lib.hid (HR.out.next hb2); have HV2 := Lib.hid hv2
        have hc2 := keepCell hb2 HC0.out; have hd2 := keepCell hb2 HD0.out
        have hfz2 : W2.frozen? ⟨g, t, none⟩ = false := by have := World.frozen?_of_block (w := Y) (w' := W2) (a := ⟨g, t, none⟩) (hb2.block g hgl'); rw [this]; exact hfz'
        obtain ⟨va, vc, rfl, -, -⟩ := hv2.form
        obtain ⟨vl, hvl⟩ : ∃ m, (dyadC x y o).length = m := ⟨_, rfl⟩
        rw [hvl] at HV2 ⊢
        show K _ W2
        refine hK.out _ _ (.inr ⟨⟨hc2, hd2⟩, HR2.out.box.c0, HR2.out.box.c1, HR2.out.box.c2, HR2.out.box.c3, HR2.out.box.c4⟩) ?_
        clear hK hq hv2 hb2 hvl hfz' hgl' HR HCX HDX HC0 HD0
        have hSS : (fun W' : World => (W'.cell? ⟨g, t, none⟩ = some (.slice ax xl cx) ∧ W'.cell? ⟨g, u, none⟩ = some (.slice ay yl cy)) ∧ (W'.cell? ⟨z, 0, none⟩ = some (.int .i64 o.how) ∧ W'.cell? ⟨z, 1, none⟩ = some (.int .i64 o.k) ∧ W'.cell? ⟨z, 2, none⟩ = some (.int .i64 o.n) ∧ W'.cell? ⟨z, 3, none⟩ = some (.slice pa o.p.length pc) ∧ W'.cell? ⟨z, 4, none⟩ = some (.int .u8 o.fn))) W2 := ⟨⟨hc2, hd2⟩, HR2.out.box.c0, HR2.out.box.c1, HR2.out.box.c2, HR2.out.box.c3, HR2.out.box.c4⟩
        refine wpAnyZ_take (i := 14) (v := ?_) rfl (by kernel_rfl) (by kernel_rfl) (by kernel_rfl) (fun _ _ _ h => h) (by kernel_rfl) (Or.inl ⟨by rfl, ?_⟩) (by assumption) ?_
        rotate_left
        · intro w' hSw
          try dsimp only at hSw
          try obtain ⟨hSw, hSw2⟩ := hSw
          go_simp
          try with_reducible rfl
        show wpAnyZ _ _ _ _ _ _ _ _ (Act.put _ (some 70) _) _
        simp only [Act.put, List.setIfInBounds_toArray, List.set_cons_zero, List.set_cons_succ]
        clear hSS
        refine wpAnyZ_one (i := 15) (by kernel_rfl) rfl rfl (fun K hK => ?_)
        go_simp
        refine hK.out _ _ (.inl (by omega)) ?_
        clear hK
        refine wpAnyZ_done (by kernel_rfl) ?_ _
        have HSZ := Lib.hid (show Spine B w.heap.size (W2.setCell ⟨g, t, none⟩ (.slice va vl vc)) (.slice (some ⟨g, 0, none⟩) u mc) (stackC (l.take (k + 1))) by
          rw [P5.out, HS.out, ← HSET.out]
          exact (HR2.out.sp.set (i := t) (by rw [List.length_append, HTS.out]; simp) (Nat.le_trans HBB.out HGB.out) HV2.out).take (by rw [List.length_set, List.length_append, HTS.out, ← HU.out]; simp))
        have HBZ := Lib.hid (show Below w.heap.size w (W2.setCell ⟨g, t, none⟩ (.slice va vl vc)) from HR2.out.b.setCell (by show w.heap.size ≤ g; exact HGB.out) _)
        clear HR2 HV2 hc2 hd2 hfz2
        go_wp2_with fail
        go_roundw
        case rel => exact ⟨k + 1, by omega, by go_num, HBZ.out, HSZ.out⟩
        case measure => simp [intOf] <;> omega
      have HU2 := Lib.hid (HUP.out h2)
      have q2 : (o.how == 2) = false := by rw [beq_eq_false_iff_ne]; exact h2
      have q4 : (o.how == 4) = false := by rw [beq_eq_false_iff_ne]; exact h4
      have q5 : (o.how == 5) = false := by rw [beq_eq_false_iff_ne]; exact h5
      have q6 : (o.how == 6) = false := by rw [beq_eq_false_iff_ne]; exact h6
      have HS := Lib.hid (step_else h2 h4 h5 h6 s)
      clear h2 h4 h5 h6
      have y0 := HR.out.box.c0; have y1 := HR.out.box.c1; have y2 := HR.out.box.c2; have y3 := HR.out.box.c3; have y4 := HR.out.box.c4
      obtain ⟨G1, hG1⟩ : ∃ G, W1.heap.size = G := ⟨_, rfl⟩
      have hlo := lit_one W1 B G1 (by rw [← hG1]; exact Bd.low HR.out.hB) o _ hG1 (HR.out.mon.up (Nat.le_refl _) HU2.out) OKO.out
      have hba : Below W1.heap.size W1 (W1.alloc (.cells #[.int .i64 o.how, .int .i64 o.k, .int .i64 o.n, .slice pa o.p.length pc, .int .u8 o.fn] 44)) := (Below.refl _ _).alloc (Nat.le_refl _) _
      obtain ⟨W2, hW2⟩ : ∃ W, W1.alloc (.cells #[.int .i64 o.how, .int .i64 o.k, .int .i64 o.n, .slice pa o.p.length pc, .int .u8 o.fn] 44) = W := ⟨_, rfl⟩
      have hs2 : W2.heap.size = G1 + 1 := by rw [← hW2]; simp; omega
      rw [hW2] at hlo hba
      have HR2 := HR.out.next hba
      have hbb : Below W2.heap.size W2 (W2.alloc (.cells #[.slice (some ⟨G1, 0, none⟩) 1 1] 22)) := (Below.refl _ _).alloc (Nat.le_refl _) _
      have HR3 := Lib.hid (HR2.next hbb); have HV3 := Lib.hid (hlo.below hbb); have HG := Lib.hid (heap_new hs2 (o := .cells #[.slice (some ⟨G1, 0, none⟩) 1 1] 22))
      rw [← hW2] at HR3 HV3 HG
      clear hlo hba hbb HR2 hW2 hs2 HR
      go_wp2_with (at_builtin; (refine wpList_push rfl _ _ rfl B w.heap.size (G1 + 1) _ (.slice (some ⟨G1, 0, none⟩) 1 1) s _ rfl (by have := HR3.out.sp; exact this) rfl HG.out HV3.out (by rw [HM.out]; omega) HBB.out HR3.out.b.size ?_); intro v' wz hvz hbz hgz hnz)
      have HSZ := Lib.hid (show Spine B w.heap.size wz v' (stackC (l.take (k + 1))) by rw [P5.out, HS.out]; exact hvz)
      have HBZ := Lib.hid (HR3.out.b.trans hbz)
      clear hvz hbz hgz hnz HR3 HV3 HG hG1
      go_wp2_with fail
      go_roundw
      case rel => exact ⟨k + 1, by omega, by go_num, HBZ.out, HSZ.out⟩
      case measure => simp [intOf] <;> omega
    · obtain rfl : n = k := by omega
      rw [← HN.out, List.take_length] at hsp
      have hsi := (simple_facts HD.out).1
      rw [hsi] at hsp
      obtain ⟨g, cap, rfl, hgB, hgl, -, -, cur, hgc⟩ := hsp.form (by simp)
      obtain ⟨ax, cx, hc, hcx, -⟩ := hsp.at (i := 0) (by simp)
      simp only [List.getElem_cons_zero] at hc hcx
      have HV := Lib.hid hcx; have HB := Lib.hid hb
      have e1 : [simpleC l].length = 1 := rfl
      rw [e1]
      clear hsp hcr hcx hb hsi hgc hlt e1 hBr
      go_wp2_with fail
      go_ret
      exact ⟨⟨_, rfl, HV.out⟩, HB.out⟩
end Go.Proofs.Ytmlfeocdcjhhaaa
