import Derived.Test.YtokghjnkfabgiaaGreatDoorTD1
import Derived.OrdersHeld
import Derived.Deep.RegionHeld3
set_option linter.unusedVariables false
set_option linter.unusedSimpArgs false
namespace Go
section
variable {P : Program} {ops : Array Oper} {Q : Exit → Act → World → Prop} {md : Region.Mode} {S : World → Prop} {z : Nat}

def wpAnyZ (P : Program) (md : Region.Mode) (ops : Array Oper) (Q : Exit → Act → World → Prop) (S : World → Prop) (z : Nat) : Nat → Array Bool → Act → World → Prop
 | 0, listed, a, w => Region.ready md ops listed = [] ∧ Q .normal a w
 | fuel + 1, listed, a, w =>
  (Region.ready md ops listed = [] → Q .normal a w) ∧
  ∀ i ∈ Region.ready md ops listed, wpOp P ops Q i (fun a' w' => (z ≤ i ∨ S w') ∧ wpAnyZ P md ops Q S z fuel (listed.setIfInBounds i true) a' w') a w

theorem wpAny_of_Z : ∀ (fuel : Nat) (listed : Array Bool) (a : Act) (w : World), wpAnyZ P md ops Q S z fuel listed a w → wpAny P md ops Q fuel listed a w
 | 0, _, _, _, h => h
 | fuel + 1, _, _, _, h => ⟨h.1, fun i hi => wpOp_mono (fun a' w' h' => wpAny_of_Z fuel _ a' w' h'.2) (h.2 i hi)⟩

theorem wpAnyZ_first {i : Nat} {oi : Oper} {v : Value} (hi : ops[i]? = some oi) (hsel : ∀ (j : Nat) (o : Oper) cs b, ops[j]? = some o → o.op ≠ .select cs b)
  (hQ : ∀ c a w, Q (.panic c) (a.put oi.dst v) w → Q (.panic c) a w) (hz : ∀ j, z ≤ j → ∀ oz, ops[j]? = some oz → ∃ e ∈ oz.after, Region.binds md e = true ∧ e.on = i) :
  ∀ (fuel : Nat) (listed : Array Bool) (a : Act) (w : World),
   (∀ j oj, ops[j]? = some oj → j ≠ i → listed.getD j true = false → (∀ e ∈ oj.after, Region.binds md e = true → e.on ≠ i) → oi.apart ops oj = true) →
   i ∈ Region.ready md ops listed → YieldsIf P ops S oi v a → S w →
   wpAnyZ P md ops Q S z fuel (listed.setIfInBounds i true) (a.put oi.dst v) w → wpAnyZ P md ops Q S z (fuel + 1) listed a w := by
 intro fuel
 induction fuel with
 | zero =>
  intro listed a w _ hr hy hS H
  refine ⟨fun h => (by rw [h] at hr; cases hr), fun j hj => ?_⟩
  by_cases hji : j = i
  ·subst hji; exact hy.wpOp hi hS ⟨.inr hS, H⟩
  ·have := ready_mono hj hji
   rw [H.1] at this
   cases this
 | succ fuel ih =>
  intro listed a w hfree hr hy hS H
  refine ⟨fun h => (by rw [h] at hr; cases hr), fun j hj => ?_⟩
  by_cases hji : j = i
  ·subst hji; exact hy.wpOp hi hS ⟨.inr hS, H⟩
  ·have h1 := H.2 j (ready_mono hj hji)
   obtain ⟨hjun, oj, hoj, hall⟩ := mem_ready.1 hj
   have hnot : ∀ e ∈ oj.after, Region.binds md e = true → e.on ≠ i := fun e he hb heq => by
    have h1 := hall e he hb
    have h0 := (mem_ready.1 hr).1
    rw [heq] at h1
    rcases Nat.lt_or_ge i listed.size with h' | h'
    ·simp [h'] at h0 h1; rw [h0] at h1; cases h1
    ·simp [Array.getElem?_eq_none h'] at h1
   have hjz : ¬ z ≤ j := fun hzj => by
    obtain ⟨e, he, hb, hon⟩ := hz j hzj oj hoj
    exact hnot e he hb hon
   have h2 := wpOp_putIf hoj (hfree j oj hoj hji hjun hnot) (fun cs b => hsel i oi cs b hi) (fun cs b => hsel j oj cs b hoj) hQ hy h1
   have hfree' : ∀ k ok, ops[k]? = some ok → k ≠ i → (listed.setIfInBounds j true).getD k true = false →
     (∀ e ∈ ok.after, Region.binds md e = true → e.on ≠ i) → oi.apart ops ok = true := fun k ok hk hki hun hno => by
    refine hfree k ok hk hki ?_ hno
    by_cases hjk : j = k
    ·subst hjk; exact hjun
    ·rw [getD_set_ne true hjk] at hun; exact hun
   refine wpOp_mono (fun a' w' h3 => ⟨h3.2.1, ih (listed.setIfInBounds j true) a' w' hfree' (ready_mono hr (Ne.symm hji)) h3.1 (h3.2.1.resolve_left hjz) ?_⟩) h2
   rw [Array.setIfInBounds_comm _ _ hji]
   exact h3.2.2

def waitsB (md : Region.Mode) (ops : Array Oper) (z i : Nat) : Bool := (ops.toList.drop z).all fun oz => oz.after.any fun e => Region.binds md e && e.on == i
theorem waitsB_spec {i : Nat} (h : waitsB md ops z i = true) : ∀ j, z ≤ j → ∀ oz, ops[j]? = some oz → ∃ e ∈ oz.after, Region.binds md e = true ∧ e.on = i := by
 intro j hj oz ho
 unfold waitsB at h
 have hm : oz ∈ ops.toList.drop z := by
  refine List.mem_of_getElem? (i := j - z) ?_
  rw [List.getElem?_drop, show z + (j - z) = j from by omega]
  simpa using ho
 have h2 := List.all_eq_true.1 h oz hm
 obtain ⟨e, he, hb⟩ := Array.any_eq_true'.1 h2
 simp only [Bool.and_eq_true, beq_iff_eq] at hb
 exact ⟨e, he, hb⟩

theorem wpAnyZ_take {i : Nat} {oi : Oper} {v : Value} {fuel : Nat} {listed : Array Bool} {a : Act} {w : World} (hi : ops[i]? = some oi)
  (hs : Region.noSelect ops = true) (hf : Region.free md ops listed i = true) (hr : (Region.ready md ops listed).contains i = true)
  (hQ : ∀ c a w, Q (.panic c) (a.put oi.dst v) w → Q (.panic c) a w) (hw : waitsB md ops z i = true) (hy : YieldsIf P ops S oi v a) (hS : S w)
  (h : wpAnyZ P md ops Q S z fuel (listed.setIfInBounds i true) (a.put oi.dst v) w) : wpAnyZ P md ops Q S z (fuel + 1) listed a w :=
 wpAnyZ_first hi (Region.noSelect_spec hs) hQ (waitsB_spec hw) fuel listed a w (Region.free_spec hi hf) (by simpa using hr) hy hS h

theorem wpAnyZ_one {i : Nat} {o : Oper} {fuel : Nat} {listed : Array Bool} {a : Act} {w : World} (hr : Region.ready md ops listed = [i]) (ho : ops[i]? = some o) (hg : o.guard = none)
  (h : ∀ K : Act → World → Prop, Shut (∀ a w, (z ≤ i ∨ S w) → wpAnyZ P md ops Q S z fuel (listed.setIfInBounds i true) a w → K a w) → o.wp P a w K Q) : wpAnyZ P md ops Q S z (fuel + 1) listed a w := by
 refine ⟨fun h0 => (by rw [hr] at h0; cases h0), fun j hj => ?_⟩
 rw [hr] at hj
 obtain rfl : j = i := by simpa using hj
 unfold wpOp
 rw [ho]
 simp only [Region.wanted, hg, if_true]
 exact .inl (h _ (fun a w h1 h2 => ⟨h1, h2⟩))

theorem wpAnyZ_done {listed : Array Bool} {a : Act} {w : World} (hr : Region.ready md ops listed = []) (h : Q .normal a w) : ∀ fuel, wpAnyZ P md ops Q S z fuel listed a w
 | 0 => ⟨hr, h⟩
 | _ + 1 => ⟨fun _ => h, by rw [hr]; simp⟩

theorem wp_region_Z {id : Nat} {a : Act} {w : World} (hm : P.follows .mixedOrders = true) (h : wpAnyZ P .any ops Q S z ops.size (Array.replicate ops.size false) a w.drew) : (Code.region id ops true).wp P Q a w :=
 wp_region_any hm (wpAny_of_Z _ _ _ _ h)
end
end Go

namespace Go
section
variable {P : Program} {ops : Array Oper} {Q : Exit → Act → World → Prop} {md : Region.Mode} {S : World → Prop} {z : Nat}
theorem wpAnyZ_oneG {i : Nat} {o : Oper} {fuel : Nat} {listed : Array Bool} {a : Act} {w : World} (hr : Region.ready md ops listed = [i]) (ho : ops[i]? = some o) (hg : Region.wanted o (yielded ops a.tmps) = true)
  (h : ∀ K : Act → World → Prop, Shut (∀ a w, (z ≤ i ∨ S w) → wpAnyZ P md ops Q S z fuel (listed.setIfInBounds i true) a w → K a w) → o.wp P a w K Q) : wpAnyZ P md ops Q S z (fuel + 1) listed a w := by
 refine ⟨fun h0 => (by rw [hr] at h0; cases h0), fun j hj => ?_⟩
 rw [hr] at hj
 obtain rfl : j = i := by simpa using hj
 unfold wpOp
 rw [ho]
 simp only [hg, if_true]
 exact .inl (h _ (fun a w h1 h2 => ⟨h1, h2⟩))
theorem wpAnyZ_twoG {i j : Nat} {o p : Oper} {fuel : Nat} {listed : Array Bool} {a : Act} {w : World} (hr : Region.ready md ops listed = [i, j]) (ho : ops[i]? = some o) (hp : ops[j]? = some p) (hg : Region.wanted o (yielded ops a.tmps) = true) (hk : Region.wanted p (yielded ops a.tmps) = true)
  (h : ∀ K : Act → World → Prop, Shut (∀ a w, (z ≤ i ∨ S w) → wpAnyZ P md ops Q S z fuel (listed.setIfInBounds i true) a w → K a w) → o.wp P a w K Q)
  (h2 : ∀ K : Act → World → Prop, Shut (∀ a w, (z ≤ j ∨ S w) → wpAnyZ P md ops Q S z fuel (listed.setIfInBounds j true) a w → K a w) → p.wp P a w K Q) : wpAnyZ P md ops Q S z (fuel + 1) listed a w := by
 refine ⟨fun h0 => (by rw [hr] at h0; cases h0), fun k hk' => ?_⟩
 rw [hr] at hk'
 have hk2 : k = i ∨ k = j := by simpa using hk'
 rcases hk2 with rfl | rfl
 ·unfold wpOp
  rw [ho]
  simp only [hg, if_true]
  exact .inl (h _ (fun a w h1 h2 => ⟨h1, h2⟩))
 ·unfold wpOp
  rw [hp]
  simp only [hk, if_true]
  exact .inl (h2 _ (fun a w h1 h2 => ⟨h1, h2⟩))
end
end Go
