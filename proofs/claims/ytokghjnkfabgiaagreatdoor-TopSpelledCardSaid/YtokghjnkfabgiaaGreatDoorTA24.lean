import Derived.Test.YtokghjnkfabgiaaGreatDoorTA23
import Derived.Test.YtokghjnkfabgiaaGreatDoorTA19
namespace Go.Proofs.YtokghjnkfabgiaaGreatDoor
set_option maxRecDepth 100000
open Go.RowKit Go.Lib
set_option linter.unusedVariables false
set_option linter.unusedSimpArgs false
attribute [local go_sem] str_size str_get str_toList

/-! (*shower).expr: plain laws, and its memory. -/
theorem brack_set {ws : List Str} {s0 s1 : Str} (h0 : ws[0]? = some s0) (h1 : (ws.set 0 (40 :: s0))[ws.length - 1]? = some s1) : brackW ws = (ws.set 0 (40 :: s0)).set (ws.length - 1) (s1 ++ [41]) := by
  cases ws with
  | nil => cases h0
  | cons w r =>
    have e0 : w = s0 := Option.some.inj h0
    subst e0
    rcases snoc_cases r with rfl | ⟨q, z, rfl⟩
    · simp at h1
      subst h1
      rfl
    · rw [brack_more]
      have e : (w :: (q ++ [z])).length - 1 = q.length + 1 := by simp
      rw [e] at h1 ⊢
      have h2 : (q ++ [z])[q.length]? = some s1 := h1
      rw [List.getElem?_append_right (Nat.le_refl _), Nat.sub_self] at h2
      have e2 : z = s1 := Option.some.inj h2
      subst e2
      show _ = (40 :: w) :: (q ++ [z]).set q.length (z ++ [41])
      rw [List.set_append_right _ _ (Nat.le_refl _), Nat.sub_self]
      rfl
def szW (ws : List Str) : Nat := (ws.map fun s => s.length + 1).sum
def szH (h : List Pc) : Nat := (h.map fun p => szW p.words).sum
theorem szW_app (a b : List Str) : szW (a ++ b) = szW a + szW b := by simp [szW]
theorem szW_len (ws : List Str) : ws.length ≤ szW ws := by
  induction ws with
  | nil => exact Nat.le_refl _
  | cons w r ih => simp [szW] at ih ⊢; omega
theorem szW_mem {ws : List Str} {s : Str} (h : s ∈ ws) : s.length + 1 ≤ szW ws := by
  induction ws with
  | nil => cases h
  | cons w r ih =>
    rcases List.mem_cons.1 h with rfl | h
    · simp [szW]
    · have := ih h; simp [szW] at this ⊢; omega
theorem szW_brack {ws : List Str} (h : ws ≠ []) : szW (brackW ws) = szW ws + 2 := by
  cases ws with
  | nil => exact absurd rfl h
  | cons w r =>
    rcases snoc_cases r with rfl | ⟨q, z, rfl⟩
    · rw [brack_one]; simp [szW]
    · rw [brack_more]; simp [szW]; omega
theorem numStr_len {n : Int} (h : in64B n = true) : (numStr n).length ≤ 24 := (spell_facts (right_num h)).1
theorem name_len {s : Str} (h : nameW s = true) : s.length ≤ 24 := (spell_facts (RR.name s h)).1
theorem szW_nums : ∀ (l : List Int), (∀ n ∈ l, in64B n = true) → szW (l.map numStr) ≤ l.length * 25
  | [], _ => Nat.le_refl _
  | n :: l, h => by
    have h1 := numStr_len (h n List.mem_cons_self)
    have h2 := szW_nums l fun x hx => h x (List.mem_cons_of_mem _ hx)
    simp [szW] at h2 ⊢
    omega
theorem words16 (k : Int) : (wtwoW k).length ≤ 16 ∧ (woneW k).length ≤ 16 ∧ (wtwoW k ≠ [] → (Lit.int .u8 k).wf = true) ∧ (woneW k ≠ [] → (Lit.int .u8 k).wf = true) := by
  refine ⟨?_, ?_, ?_, ?_⟩
  · unfold wtwoW
    split
    · simp
    · split
      · rename_i x hx
        exact (words_own _ (List.mem_of_find?_eq_some hx)).2.2.2.2
      · simp
  · unfold woneW
    split
    · simp
    · split
      · rename_i x hx
        exact (words_own _ (List.mem_of_find?_eq_some hx)).2.2.2.2
      · simp
  · unfold wtwoW
    split
    · intro h; exact absurd rfl h
    · split
      · rename_i x hx
        intro _
        have h1 := (words_own _ (List.mem_of_find?_eq_some hx)).2.2.1
        have h2 : x.2.1 = k := by simpa using List.find?_some hx
        rw [← h2]; exact h1
      · intro h; exact absurd rfl h
  · unfold woneW
    split
    · intro h; exact absurd rfl h
    · split
      · rename_i x hx
        intro _
        have h1 := (words_own _ (List.mem_of_find?_eq_some hx)).2.2.2.1
        have h2 : x.2.2 = k := by simpa using List.find?_some hx
        rw [← h2]; exact h1
      · intro h; exact absurd rfl h
theorem vstr_len (i : Itm) : (vstrS LL i).1.length ≤ 17 ∧ (vstrS LL i).2 ≤ 2 ∧ ((vstrS LL i).1 ≠ [] → (Lit.int .u8 i.fn).wf = true) := by
  obtain ⟨h1, h2, h3, h4⟩ := words16 i.fn
  have e1 : LL.wone i.fn = woneW i.fn := rfl
  have e2 : LL.wtwo i.fn = wtwoW i.fn := rfl
  unfold vstrS
  rw [e1, e2]
  split
  · exact ⟨by show (woneW i.fn).length ≤ 17; omega, by show 1 ≤ 2; omega, h4⟩
  · split
    · exact ⟨by show (wtwoW i.fn).length ≤ 17; omega, by show 1 ≤ 2; omega, h3⟩
    · rename_i hne
      split
      · exact ⟨by simp, by show 0 ≤ 2; omega, fun h => absurd rfl h⟩
      · refine ⟨?_, Nat.le_refl _, fun _ => h3 fun e => hne (.inl e)⟩
        simp only [List.length_append]
        have : (if i.how = 5 then [47] else if i.how = 6 then [92] else [46] : Str).length ≤ 1 := by
          split
          · simp
          · split <;> simp
        omega
/-- what a step is -/
inductive StepC (h : List Pc) (i : Itm) (h' : List Pc) : Prop
  | name (e : i.how = 2) (hf : i.fn = 0) (hn : i.nums = []) (hv : nameW i.name = true) (r : h' = ⟨[i.name], 0, 1, true⟩ :: h)
  | num (e : i.how = 1) (hf : i.fn = 0) (hn : i.name = []) (h0 : i.nums ≠ []) (hl : i.nums.length ≤ 256) (r : h' = ⟨i.nums.map numStr, 0, i.nums.length, true⟩ :: h)
  | mon (p : Pc) (q : List Pc) (e : i.how = 3 ∨ i.how = 5 ∨ i.how = 6) (hn : i.nums = []) (hm : i.name = []) (hv : (vstrS LL i).1 ≠ []) (hh : h = p :: q) (r : h' = ⟨(vstrS LL i).1 :: p.words, p.nest, p.tokens + (vstrS LL i).2, false⟩ :: q)
  | dy (p l : Pc) (q : List Pc) (e : i.how = 4 ∨ i.how = 7) (hn : i.nums = []) (hm : i.name = []) (hv : (vstrS LL i).1 ≠ []) (hh : h = p :: l :: q) (r : h' = ⟨(if l.plain then l.words else brackW l.words) ++ ((vstrS LL i).1 :: p.words), max p.nest (if l.plain then l.nest else l.nest + 1), p.tokens + (vstrS LL i).2 + (if l.plain then l.tokens else l.tokens + 2), false⟩ :: q)
theorem step_cases {h h' : List Pc} {i : Itm} (hs : showStep LL h i = some h') : StepC h i h' := by
  unfold showStep at hs
  by_cases h2 : i.how = 2
  · rw [if_pos h2] at hs
    by_cases hc : i.fn = 0 ∧ i.nums = [] ∧ LL.V.name i.name = true
    · rw [if_pos hc] at hs; exact .name h2 hc.1 hc.2.1 hc.2.2 (Option.some.inj hs).symm
    · rw [if_neg hc] at hs; cases hs
  rw [if_neg h2] at hs
  by_cases h1 : i.how = 1
  · rw [if_pos h1] at hs
    by_cases hc : i.fn = 0 ∧ i.name = [] ∧ i.nums ≠ [] ∧ i.nums.length ≤ 256
    · rw [if_pos hc] at hs; exact .num h1 hc.1 hc.2.1 hc.2.2.1 hc.2.2.2 (Option.some.inj hs).symm
    · rw [if_neg hc] at hs; cases hs
  rw [if_neg h1] at hs
  by_cases hb : i.how < 3 ∨ 7 < i.how ∨ i.nums ≠ [] ∨ i.name ≠ []
  · rw [if_pos hb] at hs; cases hs
  rw [if_neg hb] at hs
  have hb1 : ¬ i.how < 3 := fun h => hb (.inl h)
  have hb2 : ¬ 7 < i.how := fun h => hb (.inr (.inl h))
  have hb3 : i.nums = [] := Classical.byContradiction fun h => hb (.inr (.inr (.inl h)))
  have hb4 : i.name = [] := Classical.byContradiction fun h => hb (.inr (.inr (.inr h)))
  by_cases hv : (vstrS LL i).1 = []
  · rw [if_pos hv] at hs; cases hs
  rw [if_neg hv] at hs
  by_cases h4 : i.how = 4 ∨ i.how = 7
  · rw [if_pos h4] at hs
    cases h with
    | nil => cases hs
    | cons p r =>
      cases r with
      | nil => cases hs
      | cons l r => exact .dy p l r h4 hb3 hb4 hv rfl (Option.some.inj hs).symm
  · rw [if_neg h4] at hs
    cases h with
    | nil => cases hs
    | cons p r =>
      refine .mon p r ?_ hb3 hb4 hv rfl (Option.some.inj hs).symm
      have : i.how ≠ 4 := fun e => h4 (.inl e)
      have : i.how ≠ 7 := fun e => h4 (.inr e)
      omega
theorem step_size {h h' : List Pc} {i : Itm} (hs : showStep LL h i = some h') (hw : ∀ p ∈ h, p.words ≠ []) (h64 : ∀ n ∈ i.nums, in64B n = true) : szH h' ≤ szH h + 6420 ∧ (∀ p ∈ h', p.words ≠ []) ∧ h'.length ≤ h.length + 1 := by
  cases step_cases hs with
  | name e hf hn hv r =>
    subst r
    have := name_len hv
    refine ⟨?_, fun p hp => ?_, by simp⟩
    · simp [szH, szW]; omega
    · rcases List.mem_cons.1 hp with rfl | hp
      · simp
      · exact hw p hp
  | num e hf hn h0 hl r =>
    subst r
    have := szW_nums _ h64
    have h3 : i.nums.length * 25 ≤ 256 * 25 := Nat.mul_le_mul_right _ hl
    refine ⟨?_, fun p hp => ?_, by simp⟩
    · simp only [szH, List.map_cons, List.sum_cons]; omega
    · rcases List.mem_cons.1 hp with rfl | hp
      · simpa using h0
      · exact hw p hp
  | mon p q e hn hm hv hh r =>
    subst hh r
    have := (vstr_len i).1
    refine ⟨?_, fun p hp => ?_, by simp⟩
    · simp only [szH, List.map_cons, List.sum_cons, szW]; omega
    · rcases List.mem_cons.1 hp with rfl | hp
      · simp
      · exact hw p (List.mem_cons_of_mem _ hp)
  | dy p l q e hn hm hv hh r =>
    subst hh r
    have := (vstr_len i).1
    have hlw := hw l (by simp)
    have hb : szW (if l.plain then l.words else brackW l.words) ≤ szW l.words + 2 := by
      split
      · omega
      · rw [szW_brack hlw]; omega
    refine ⟨?_, fun p hp => ?_, by simp⟩
    · have e1 : ∀ (a : Str) (r : List Str), szW (a :: r) = a.length + 1 + szW r := fun a r => by simp [szW]
      simp only [szH, List.map_cons, List.sum_cons, szW_app, e1]; omega
    · rcases List.mem_cons.1 hp with rfl | hp
      · simp
      · exact hw p (by simp [hp])
def tkH (h : List Pc) : Nat := (h.map (·.tokens)).sum
def nsH (h : List Pc) : Nat := (h.map (·.nest)).sum
theorem step_toks {h h' : List Pc} {i : Itm} (hs : showStep LL h i = some h') : tkH h' ≤ tkH h + 256 ∧ nsH h' ≤ nsH h + 1 := by
  cases step_cases hs with
  | name e hf hn hv r => subst r; simp [tkH, nsH]; omega
  | num e hf hn h0 hl r => subst r; simp [tkH, nsH]; omega
  | mon p q e hn hm hv hh r =>
    subst hh r
    have := (vstr_len i).2.1
    simp [tkH, nsH]; omega
  | dy p l q e hn hm hv hh r =>
    subst hh r
    have := (vstr_len i).2.1
    simp only [tkH, nsH, List.map_cons, List.sum_cons]
    constructor
    · split <;> omega
    · have : (if l.plain = true then l.nest else l.nest + 1) ≤ l.nest + 1 := by split <;> omega
      have : max p.nest (if l.plain = true then l.nest else l.nest + 1) ≤ p.nest + (l.nest + 1) := by omega
      omega
end Go.Proofs.YtokghjnkfabgiaaGreatDoor

namespace Go.Proofs.YtokghjnkfabgiaaGreatDoor
set_option maxRecDepth 100000
open Go.RowKit Go.Lib
set_option linter.unusedVariables false
set_option linter.unusedSimpArgs false
attribute [local go_sem] str_size str_get str_toList

/-! What rows hold, by their places. -/
/-- a thing of a row, by its place -/
theorem row_at {α : Type} {R : Rep α} {M : Nat} {t : TypeId} {w : World} {v : Value} {xs : List α} (h : RowG R M t w v xs) (i : Nat) (hi : i < xs.length) : ∃ b off c cs, v = .slice (some ⟨b, off, none⟩) xs.length c ∧ R.At w cs xs[i] ∧ ∀ j u, cs[j]? = some u → w.cell? ⟨b, off + i * R.n + j, none⟩ = some u := by
  obtain ⟨a, c, e, -, -, -, hx⟩ := h.sl
  obtain ⟨b, off, cs, e2, h1, h2⟩ := hx i hi
  subst e2
  exact ⟨b, off, c, cs, e, h1, h2⟩
theorem itm_at {M : Nat} {w : World} {v : Value} {xs : List Itm} (h : RowG itmR M 121 w v xs) (i : Nat) (hi : i < xs.length) : ∃ b off c a u, v = .slice (some ⟨b, off, none⟩) xs.length c ∧ w.cell? ⟨b, off + i * 5, none⟩ = some (.int .i64 xs[i].how) ∧ w.cell? ⟨b, off + i * 5 + 1, none⟩ = some (.int .i64 a) ∧ w.cell? ⟨b, off + i * 5 + 2, none⟩ = some (.int .u8 xs[i].fn) ∧ w.cell? ⟨b, off + i * 5 + 3, none⟩ = some (.string (str xs[i].name)) ∧ w.cell? ⟨b, off + i * 5 + 4, none⟩ = some u ∧ RowI 0 w u xs[i].nums := by
  obtain ⟨b, off, c, cs, e, ⟨a, u, hcs, hr⟩, hx⟩ := row_at h i hi
  subst hcs
  exact ⟨b, off, c, a, u, e, hx 0 _ rfl, hx 1 _ rfl, hx 2 _ rfl, hx 3 _ rfl, hx 4 _ rfl, hr⟩
theorem inp_at {M : Nat} {w : World} {v : Value} {xs : List InpP} (h : RowG inpR M 79 w v xs) (i : Nat) (hi : i < xs.length) : ∃ b off c u, v = .slice (some ⟨b, off, none⟩) xs.length c ∧ w.cell? ⟨b, off + i * 3, none⟩ = some (.string (str xs[i].name)) ∧ w.cell? ⟨b, off + i * 3 + 2, none⟩ = some u ∧ RowG sidR 0 81 w u xs[i].sides := by
  obtain ⟨b, off, c, cs, e, ⟨a, u, hcs, hr⟩, hx⟩ := row_at h i hi
  subst hcs
  exact ⟨b, off, c, u, e, hx 0 _ rfl, hx 2 _ rfl, hr⟩
theorem lin_at {M : Nat} {w : World} {v : Value} {xs : List LinP} (h : RowG linR M 67 w v xs) (i : Nat) (hi : i < xs.length) : ∃ b off c u, v = .slice (some ⟨b, off, none⟩) xs.length c ∧ w.cell? ⟨b, off + i * 3, none⟩ = some (.string (str xs[i].name)) ∧ w.cell? ⟨b, off + i * 3 + 2, none⟩ = some u ∧ RowG itmR 0 121 w u xs[i].items := by
  obtain ⟨b, off, c, cs, e, ⟨a, u, hcs, hr⟩, hx⟩ := row_at h i hi
  subst hcs
  exact ⟨b, off, c, u, e, hx 0 _ rfl, hx 2 _ rfl, hr⟩
theorem sid_at {M : Nat} {w : World} {v : Value} {xs : List SidP} (h : RowG sidR M 81 w v xs) (i : Nat) (hi : i < xs.length) : ∃ b off c, v = .slice (some ⟨b, off, none⟩) xs.length c ∧ w.cell? ⟨b, off + i * 2, none⟩ = some (.string (str xs[i].name)) ∧ w.cell? ⟨b, off + i * 2 + 1, none⟩ = some (.int .i64 xs[i].n) := by
  obtain ⟨b, off, c, cs, e, ⟨hcs, _⟩, hx⟩ := row_at h i hi
  subst hcs
  exact ⟨b, off, c, e, hx 0 _ rfl, hx 1 _ rfl⟩
end Go.Proofs.YtokghjnkfabgiaaGreatDoor
