import Derived.Test.YtmlfeocdcjhhaaaPH6
import Derived.Test.YtmlfeocdcjhhaaaPH1
namespace Go.Proofs.Ytmlfeocdcjhhaaa
set_option maxRecDepth 100000
open Go.RowKit
set_option linter.unusedVariables false
set_option linter.unusedSimpArgs false

theorem last_snoc {α : Type} (st : List (List α)) (x : List α) : (st ++ [x]).getLastD [] = x := by simp
theorem drop_snoc {α : Type} (st : List (List α)) (x : List α) : (st ++ [x]).dropLast = st := by simp
theorem last_two {α : Type} (st : List (List α)) (x y : List α) : (st ++ [x, y]).getLastD [] = y := by
  rw [show st ++ [x, y] = (st ++ [x]) ++ [y] by simp, last_snoc]
theorem drop_two {α : Type} (st : List (List α)) (x y : List α) : (st ++ [x, y]).dropLast = st ++ [x] := by
  rw [show st ++ [x, y] = (st ++ [x]) ++ [y] by simp, drop_snoc]
theorem snoc_indC {α : Type} {p : List α → Prop} (h0 : p []) (h1 : ∀ l x, p l → p (l ++ [x])) : ∀ l, p l := by
  intro l
  have h : ∀ r : List α, p r.reverse := fun r => by
    induction r with
    | nil => exact h0
    | cons x r ih => rw [List.reverse_cons]; exact h1 _ _ ih
  have := h l.reverse
  rwa [List.reverse_reverse] at this
/-- simplified: it leaves itself -/
structure Sm (x : List Cop) : Prop where
  ne : 0 < x.length
  self : ∀ st, x.foldl stepC st = st ++ [x]
theorem step_load {o : Cop} (h : o.how = 4) (st : List (List Cop)) (x : List Cop) : stepC (st ++ [x]) o = st ++ [x ++ [o]] := by
  unfold stepC; rw [if_neg (by omega), if_pos h, last_snoc, drop_snoc]
theorem step_mon {o : Cop} (h : o.how = 5) (st : List (List Cop)) (x : List Cop) : stepC (st ++ [x]) o = st ++ [monadC x o] := by
  unfold stepC; rw [if_neg (by omega), if_neg (by omega), if_pos h, last_snoc, drop_snoc]
theorem step_dy {o : Cop} (h : o.how = 6) (st : List (List Cop)) (x y : List Cop) : stepC (st ++ [x, y]) o = st ++ [dyadC x y o] := by
  unfold stepC; rw [if_neg (by omega), if_neg (by omega), if_neg (by omega), if_pos h, last_two, drop_two, last_snoc, drop_snoc]
theorem step_val {o : Cop} (h : o.how = 2) (st : List (List Cop)) : stepC st o = st ++ [valueC o] := by
  unfold stepC; rw [if_pos h]
theorem step_else {o : Cop} (h2 : o.how ≠ 2) (h4 : o.how ≠ 4) (h5 : o.how ≠ 5) (h6 : o.how ≠ 6) (st : List (List Cop)) : stepC st o = st ++ [[o]] := by
  unfold stepC; rw [if_neg h2, if_neg h4, if_neg h5, if_neg h6]
theorem sm_num (n : Int) : Sm [numC n] := ⟨by simp, fun st => step_else (o := numC n) (show (1 : Int) ≠ 2 by decide) (show (1 : Int) ≠ 4 by decide) (show (1 : Int) ≠ 5 by decide) (show (1 : Int) ≠ 6 by decide) st⟩
theorem sm_else {o : Cop} (h2 : o.how ≠ 2) (h4 : o.how ≠ 4) (h5 : o.how ≠ 5) (h6 : o.how ≠ 6) : Sm [o] := ⟨by simp, fun st => step_else h2 h4 h5 h6 st⟩
theorem value_cases (o : Cop) : (∃ n, valueC o = [numC n]) ∨ valueC o = [o] := by
  unfold valueC
  split
  · exact .inl ⟨0, rfl⟩
  · split
    · exact .inl ⟨_, rfl⟩
    · exact .inr rfl
  · exact .inr rfl
theorem sm_val {o : Cop} (h : o.how = 2) : Sm (valueC o) := by
  rcases value_cases o with ⟨n, e⟩ | e
  · rw [e]; exact sm_num n
  · refine ⟨by rw [e]; simp, fun st => ?_⟩
    have := step_val h st
    rw [e] at this ⊢
    exact this
theorem sm_load {o : Cop} {x : List Cop} (hx : Sm x) (h : o.how = 4) : Sm (x ++ [o]) := ⟨by simp, fun st => by
  rw [List.foldl_append, hx.self]; exact step_load h st x⟩
theorem mon_cases (x : List Cop) (o : Cop) : monadC x o = x ∨ (∃ n, monadC x o = [numC n] ∧ (knownC x).isSome) ∨ monadC x o = x ++ [o] := by
  unfold monadC
  split
  · exact .inl rfl
  · unfold oneC
    cases hk : knownC x with
    | none => exact .inr (.inr rfl)
    | some a =>
      dsimp only
      split
      · rename_i n hn; exact .inr (.inl ⟨n, rfl, rfl⟩)
      · exact .inr (.inr rfl)
theorem sm_mon {o : Cop} {x : List Cop} (hx : Sm x) (h : o.how = 5) : Sm (monadC x o) := by
  rcases mon_cases x o with e | ⟨n, e, -⟩ | e
  · rw [e]; exact hx
  · rw [e]; exact sm_num n
  · refine ⟨by rw [e]; simp, fun st => ?_⟩
    have := step_mon h st x
    rw [e] at this ⊢
    rw [List.foldl_append, hx.self]
    exact this
theorem dy_cases (x y : List Cop) (o : Cop) : dyadC x y o = x ∨ dyadC x y o = y ∨ (∃ n, dyadC x y o = [numC n] ∧ ((knownC x).isSome ∨ (knownC y).isSome)) ∨ dyadC x y o = x ++ y ++ [o] := by
  unfold dyadC
  split
  · rename_i n hn
    refine .inr (.inr (.inl ⟨n, rfl, ?_⟩))
    unfold twoC at hn
    cases hk : knownC x with
    | none => rw [hk] at hn; cases hn
    | some a => exact .inl rfl
  · split
    · exact .inr (.inl rfl)
    · split
      · exact .inl rfl
      · split
        · rename_i hz
          refine .inr (.inr (.inl ⟨0, rfl, ?_⟩))
          unfold ruleZ onlyC at hz
          simp only [Bool.and_eq_true, Bool.or_eq_true, beq_iff_eq] at hz
          rcases hz.2 with h | h
          · left; rw [h.1]; rfl
          · right; rw [h.1]; rfl
        · exact .inr (.inr (.inr rfl))
theorem sm_dy {o : Cop} {x y : List Cop} (hx : Sm x) (hy : Sm y) (h : o.how = 6) : Sm (dyadC x y o) := by
  rcases dy_cases x y o with e | e | ⟨n, e, -⟩ | e
  · rw [e]; exact hx
  · rw [e]; exact hy
  · rw [e]; exact sm_num n
  · refine ⟨by rw [e]; simp; omega, fun st => ?_⟩
    have := step_dy h st x y
    rw [e] at this ⊢
    rw [List.foldl_append, List.foldl_append, hx.self, hy.self]
    simpa using this
/-- how deep a list is that leaves one -/
def Dp (x : List Cop) (d : Int) : Prop := runK x 0 0 = some (1, d) ∧ 1 ≤ d
theorem takes_one {h : Int} (h4 : h = 4 ∨ h = 5) : takesI h = 1 := by rcases h4 with rfl | rfl <;> rfl
theorem takes_two {h : Int} (h6 : h = 6) : takesI h = 2 := by subst h6; rfl
theorem dp_num (n : Int) : Dp [numC n] 1 := ⟨rfl, Int.le_refl _⟩
theorem dp_zero {o : Cop} (h : takesI o.how = 0) : Dp [o] 1 := by
  refine ⟨?_, Int.le_refl _⟩
  rw [runK, h, if_neg (by decide)]; rfl
theorem dp_one {o : Cop} {x : List Cop} {d : Int} (hx : Dp x d) (h : takesI o.how = 1) : Dp (x ++ [o]) d := by
  refine ⟨?_, hx.2⟩
  have := hx.2
  rw [runK_append, hx.1]
  show runK [o] 1 d = _
  rw [runK, h, if_neg (by decide), runK]
  congr 2; omega
theorem dp_two {o : Cop} {x y : List Cop} {d e : Int} (hx : Dp x d) (hy : Dp y e) (h : takesI o.how = 2) : Dp (x ++ y ++ [o]) (max d (e + 1)) := by
  have h1 := hx.2
  have h2 := hy.2
  refine ⟨?_, by omega⟩
  have hs := runK_shift y hy.1 1 d (by decide)
  rw [show max d (0 + 1) = d from by omega, show (0 : Int) + 1 = 1 from rfl, show (1 : Int) + 1 = 2 from rfl] at hs
  rw [runK_append, runK_append, hx.1]
  show ((runK y 1 d).bind fun p => runK [o] p.1 p.2) = _
  rw [hs]
  show runK [o] 2 (max d (e + 1)) = _
  rw [runK, h, if_neg (by decide), runK]
  congr 2; omega
/-- what lies on the stack behind some operations -/
structure StOk (l : List Cop) (s : List (List Cop)) (most : Int) : Prop where
  sm : ∀ x ∈ s, Sm x
  dp : ∀ (i : Nat) x, s[i]? = some x → ∃ d, Dp x d ∧ (i : Int) + d ≤ most
  few : (s.map List.length).sum ≤ l.length
  ops : ∀ x ∈ s, ∀ o ∈ x, o ∈ l ∨ ∃ n, o = numC n
theorem known_len {x : List Cop} (h : (knownC x).isSome = true) : x.length = 1 := by
  unfold knownC at h
  split at h
  · rfl
  · cases h
theorem get_snoc {α : Type} {st : List α} {x y : α} {i : Nat} (h : (st ++ [x])[i]? = some y) : st[i]? = some y ∨ (i = st.length ∧ y = x) := by
  rw [List.getElem?_append] at h
  split at h
  · exact .inl h
  · rename_i hi
    right
    have : i - st.length = 0 := by
      rcases Nat.eq_zero_or_pos (i - st.length) with h0 | h0
      · exact h0
      · rw [List.getElem?_eq_none (by simp; omega)] at h; cases h
    rw [this] at h
    simp at h
    exact ⟨by omega, h.symm⟩
/-- a list more on the stack -/
theorem StOk.push {l : List Cop} {st : List (List Cop)} {most m' : Int} {x : List Cop} {o : Cop} {d : Int} (hm : most ≤ m') (hd : Dp x d) (hdm : (st.length : Int) + d ≤ m') (hx : Sm x)
    (h1 : ∀ y ∈ st, Sm y) (h2 : ∀ (i : Nat) y, st[i]? = some y → ∃ d, Dp y d ∧ (i : Int) + d ≤ most) (h3 : (st.map List.length).sum + x.length ≤ l.length + 1)
    (h4 : ∀ y ∈ st, ∀ q ∈ y, q ∈ l ∨ ∃ n, q = numC n) (h5 : ∀ q ∈ x, q = o ∨ q ∈ l ∨ ∃ n, q = numC n) : StOk (l ++ [o]) (st ++ [x]) m' := by
  refine ⟨fun y hy => ?_, fun i y hy => ?_, by simp; omega, fun y hy q hq => ?_⟩
  · rcases List.mem_append.1 hy with h | h
    · exact h1 y h
    · rw [List.mem_singleton.1 h]; exact hx
  · rcases get_snoc hy with h | ⟨rfl, rfl⟩
    · obtain ⟨d, h6, h7⟩ := h2 i y h
      exact ⟨d, h6, by omega⟩
    · exact ⟨d, hd, hdm⟩
  · rcases List.mem_append.1 hy with h | h
    · rcases h4 y h q hq with h | h
      · exact .inl (by simp [h])
      · exact .inr h
    · rw [List.mem_singleton.1 h] at hq
      rcases h5 q hq with rfl | h | h
      · exact .inl (by simp)
      · exact .inl (by simp [h])
      · exact .inr h
theorem snoc_of_pos {α : Type} {s : List α} (h : 0 < s.length) : ∃ st x, s = st ++ [x] := ⟨s.dropLast, s.getLast (by intro e; rw [e] at h; simp at h), (List.dropLast_concat_getLast _).symm⟩
theorem stack_ok : ∀ l : List Cop, ∀ n m : Int, runK l 0 0 = some (n, m) → ((stackC l).length : Int) = n ∧ StOk l (stackC l) m := by
  intro l
  induction l using snoc_indC with
  | h0 =>
    intro n m h
    cases h
    exact ⟨rfl, ⟨(fun x hx => by cases hx), (fun i x h => by cases h), Nat.le_refl _, (fun x hx => by cases hx)⟩⟩
  | h1 l o ih =>
    intro n m h
    rw [runK_append] at h
    cases hr : runK l 0 0 with
    | none => rw [hr] at h; cases h
    | some p =>
      obtain ⟨n0, m0⟩ := p
      rw [hr] at h
      have h : runK [o] n0 m0 = some (n, m) := h
      obtain ⟨hl, hs⟩ := ih n0 m0 hr
      have hnm := runK_le l hr (Int.le_refl _)
      rw [stackC_snoc]
      generalize stackC l = s at hl hs
      rw [runK] at h
      by_cases hc : takesI o.how < 0 ∨ n0 < takesI o.how
      · rw [if_pos hc] at h; cases h
      rw [if_neg hc, runK] at h
      injection h with h
      injection h with hn hm
      subst hn hm
      by_cases h2 : o.how = 2
      · have ht : takesI o.how = 0 := by rw [h2]; rfl
        rw [step_val h2, ht]
        refine ⟨by simp; omega, ?_⟩
        rcases value_cases o with ⟨q, e⟩ | e
        · rw [e]
          exact StOk.push (by omega) (dp_num q) (by omega) (sm_num q) hs.sm hs.dp (by have := hs.few; simp; omega) hs.ops (fun x hx => .inr (.inr ⟨q, List.mem_singleton.1 hx⟩))
        · have hsm := sm_val h2
          rw [e] at hsm ⊢
          exact StOk.push (by omega) (dp_zero ht) (by omega) hsm hs.sm hs.dp (by have := hs.few; simp; omega) hs.ops (fun x hx => .inl (List.mem_singleton.1 hx))
      by_cases h4 : o.how = 4
      · have ht : takesI o.how = 1 := takes_one (.inl h4)
        rw [ht] at hc ⊢
        obtain ⟨st, x, rfl⟩ := snoc_of_pos (s := s) (by omega)
        rw [step_load h4]
        obtain ⟨d, hd, hdm⟩ := hs.dp st.length x (by simp)
        have hf := hs.few
        simp at hf hl
        refine ⟨by simp; omega, StOk.push (by omega) (dp_one hd ht) (by omega) (sm_load (hs.sm x (by simp)) h4) (fun y hy => hs.sm y (by simp [hy])) (fun i y hy => hs.dp i y (by rw [List.getElem?_append_left (List.getElem?_eq_some_iff.1 hy).1]; exact hy)) (by simp; omega) (fun y hy => hs.ops y (by simp [hy])) (fun q hq => ?_)⟩
        rcases List.mem_append.1 hq with h | h
        · exact .inr (hs.ops x (by simp) q h)
        · exact .inl (List.mem_singleton.1 h)
      by_cases h5 : o.how = 5
      · have ht : takesI o.how = 1 := takes_one (.inr h5)
        rw [ht] at hc ⊢
        obtain ⟨st, x, rfl⟩ := snoc_of_pos (s := s) (by omega)
        rw [step_mon h5]
        obtain ⟨d, hd, hdm⟩ := hs.dp st.length x (by simp)
        have hf := hs.few
        have hx1 := (hs.sm x (by simp)).ne
        simp at hf hl
        have hsm := sm_mon (hs.sm x (by simp)) h5
        have g1 : ∀ y ∈ st, Sm y := fun y hy => hs.sm y (by simp [hy])
        have g2 : ∀ (i : Nat) y, st[i]? = some y → ∃ d, Dp y d ∧ (i : Int) + d ≤ m0 := fun i y hy => hs.dp i y (by rw [List.getElem?_append_left (List.getElem?_eq_some_iff.1 hy).1]; exact hy)
        have g4 : ∀ y ∈ st, ∀ q ∈ y, q ∈ l ∨ ∃ n, q = numC n := fun y hy => hs.ops y (by simp [hy])
        have g5 := hs.ops x (by simp)
        refine ⟨by simp; omega, ?_⟩
        rcases mon_cases x o with e | ⟨q, e, hk⟩ | e
        · rw [e] at hsm ⊢
          exact StOk.push (by omega) hd (by omega) hsm g1 g2 (by omega) g4 (fun q hq => .inr (g5 q hq))
        · rw [e] at hsm ⊢
          exact StOk.push (by omega) (dp_num q) (by have := hd.2; omega) hsm g1 g2 (by simp; omega) g4 (fun x hx => .inr (.inr ⟨q, List.mem_singleton.1 hx⟩))
        · rw [e] at hsm ⊢
          exact StOk.push (by omega) (dp_one hd ht) (by omega) hsm g1 g2 (by simp; omega) g4 (fun q hq => (List.mem_append.1 hq).elim (fun h => .inr (g5 q h)) (fun h => .inl (List.mem_singleton.1 h)))
      by_cases h6 : o.how = 6
      · have ht : takesI o.how = 2 := takes_two h6
        rw [ht] at hc ⊢
        obtain ⟨s1, y, rfl⟩ := snoc_of_pos (s := s) (by omega)
        obtain ⟨st, x, rfl⟩ := snoc_of_pos (s := s1) (by simp at hl; omega)
        rw [List.append_assoc] at hs hl ⊢
        have hxy : (st ++ ([x] ++ [y])) = st ++ [x, y] := rfl
        rw [hxy] at hs hl ⊢
        rw [step_dy h6]
        obtain ⟨d, hd, hdm⟩ := hs.dp st.length x (by simp)
        obtain ⟨f, hf', hfm⟩ := hs.dp (st.length + 1) y (by simp)
        have hf := hs.few
        have hx1 := (hs.sm x (by simp)).ne
        have hy1 := (hs.sm y (by simp)).ne
        simp at hf hl
        have hsm := sm_dy (hs.sm x (by simp)) (hs.sm y (by simp)) h6
        have g1 : ∀ y ∈ st, Sm y := fun y hy => hs.sm y (by simp [hy])
        have g2 : ∀ (i : Nat) y, st[i]? = some y → ∃ d, Dp y d ∧ (i : Int) + d ≤ m0 := fun i y hy => hs.dp i y (by rw [List.getElem?_append_left (List.getElem?_eq_some_iff.1 hy).1]; exact hy)
        have g4 : ∀ y ∈ st, ∀ q ∈ y, q ∈ l ∨ ∃ n, q = numC n := fun y hy => hs.ops y (by simp [hy])
        have g5 := hs.ops x (by simp)
        have g6 := hs.ops y (by simp)
        have d2 := hd.2
        have f2 := hf'.2
        refine ⟨by simp; omega, ?_⟩
        rcases dy_cases x y o with e | e | ⟨q, e, hk⟩ | e
        · rw [e] at hsm ⊢
          exact StOk.push (by omega) hd (by omega) hsm g1 g2 (by omega) g4 (fun q hq => .inr (g5 q hq))
        · rw [e] at hsm ⊢
          exact StOk.push (by omega) hf' (by omega) hsm g1 g2 (by omega) g4 (fun q hq => .inr (g6 q hq))
        · rw [e] at hsm ⊢
          exact StOk.push (by omega) (dp_num q) (by omega) hsm g1 g2 (by simp; omega) g4 (fun x hx => .inr (.inr ⟨q, List.mem_singleton.1 hx⟩))
        · rw [e] at hsm ⊢
          refine StOk.push (by omega) (dp_two hd hf' ht) (by omega) hsm g1 g2 (by simp; omega) g4 (fun q hq => ?_)
          rcases List.mem_append.1 hq with h | h
          · rcases List.mem_append.1 h with h | h
            · exact .inr (g5 q h)
            · exact .inr (g6 q h)
          · exact .inl (List.mem_singleton.1 h)
      · have ht : takesI o.how = 0 := by
          unfold takesI at hc ⊢
          by_cases hh : o.how = 1 ∨ o.how = 2 ∨ o.how = 3
          · rw [if_pos hh]
          · rw [if_neg hh, if_neg (by omega), if_neg h6] at hc
            omega
        rw [step_else h2 h4 h5 h6, ht]
        refine ⟨by simp; omega, ?_⟩
        exact StOk.push (by omega) (dp_zero ht) (by omega) (sm_else h2 h4 h5 h6) hs.sm hs.dp (by have := hs.few; simp; omega) hs.ops (fun x hx => .inl (List.mem_singleton.1 hx))
/-- what is simplified -/
theorem simple_facts {l : List Cop} (h : 0 ≤ depthI l) : stackC l = [simpleC l] ∧ (simpleC l).length ≤ l.length ∧ 1 ≤ depthI (simpleC l) ∧ depthI (simpleC l) ≤ depthI l ∧ simpleC (simpleC l) = simpleC l ∧
    ∀ o ∈ simpleC l, o ∈ l ∨ ∃ n, o = numC n := by
  obtain ⟨hr, h1, -⟩ := depth_run h
  obtain ⟨hl, hs⟩ := stack_ok l 1 _ hr
  obtain ⟨x, hx⟩ : ∃ x, stackC l = [x] := List.length_eq_one_iff.1 (by omega)
  have e : simpleC l = x := by unfold simpleC; rw [hx]; rfl
  rw [e]
  rw [hx] at hs
  obtain ⟨d, hd, hdm⟩ := hs.dp 0 x rfl
  have hdx : depthI x = d := by unfold depthI; rw [depthK_run, hd.1]; rfl
  have hf := hs.few
  simp at hf
  refine ⟨hx, hf, by rw [hdx]; exact hd.2, by rw [hdx]; simpa using hdm, ?_, hs.ops x (by simp)⟩
  unfold simpleC stackC
  rw [(hs.sm x (by simp)).self]
  rfl
end Go.Proofs.Ytmlfeocdcjhhaaa

namespace Go.Proofs.Ytmlfeocdcjhhaaa
set_option maxRecDepth 100000
open Go.RowKit
set_option linter.unusedVariables false
set_option linter.unusedSimpArgs false
attribute [local go_sem ↓] Go.wp_at_zero Go.wp_at_succ

def opS (V L : Nat) (made : List Bool) (buf : Int) (o : Cop) : Bool := opB V L made o && !(o.how == 4 && o.k == buf)
theorem drewBelow {w w' : World} (h : Below w.heap.size w w') (n : Nat) : Below w.heap.size w (w'.drewN n) := bNext (Below.drewN _ _) h
section
variable (w : World) (k n fn : Int) (p : List Mono) (pa : Option Addr) (pc V L : Nat) (buf : Int) (ma : Option Addr) (mc : Nat) (made : List Bool) (sb : Nat)
set_option maxHeartbeats 8000000 in
theorem cop1_any (s0 : w.cell? ⟨sb, 0, none⟩ = some (.int .i64 V)) (s1 : w.cell? ⟨sb, 1, none⟩ = some (.int .i64 L)) (s2 : w.cell? ⟨sb, 2, none⟩ = some (.int .i64 buf)) (s3 : w.cell? ⟨sb, 3, none⟩ = some (.slice ma made.length mc)) (hbs : sb < w.heap.size) : Calls Try.prog 88 #[.pointer (some ⟨sb, 0, none⟩), .agg #[.int .i64 1, .int .i64 k, .int .i64 n, .slice pa p.length pc, .int .u8 fn]] w fun e w' => e = .returned (.bool (opS V L made buf ⟨1, k, n, p, fn⟩)) ∧ Below w.heap.size w w' := by
  have hbx : Below w.heap.size w (w.alloc (.cells #[.int .i64 1, .int .i64 k, .int .i64 n, .slice pa p.length pc, .int .u8 fn] 44)) := (Below.refl _ _).alloc (Nat.le_refl _) _
  obtain ⟨pn, hpn⟩ : ∃ pn, p.length = pn := ⟨_, rfl⟩
  have hB : ∀ b, (k == 0 && decide (pn = 0) && fn == 0) = b → opS V L made buf ⟨1, k, n, p, fn⟩ = b := fun b h => by rw [← h, ← hpn]; simp [opS, opB]
  rw [hpn] at hbx
  rw [hpn]; clear hpn
  have HBX := Lib.hid hbx; clear hbx
  by_cases hk : k = 0
  · subst hk
    by_cases hp : pn = 0
    · subst hp
      by_cases hf : fn = 0
      · subst hf
        have HB := Lib.hid (hB true (by simp []))
        clear hB s0 s1 s2 s3 hbs
        go_enter Try.func88, Try.ntmps88
        go_upto_region 1 with fail
        go_quiet (fail)
        go_wp2_with fail
        go_ret
        exact ⟨ret_bool HB.out.symm, drewBelow HBX.out _⟩
      · have hf' : (fn == 0) = false := by simp [hf]
        have HB := Lib.hid (hB false (by simp [hf]))
        clear hB s0 s1 s2 s3 hbs
        go_enter Try.func88, Try.ntmps88
        go_upto_region 1 with fail
        go_quiet (fail)
        go_wp2_with fail
        go_ret
        exact ⟨ret_bool HB.out.symm, drewBelow HBX.out _⟩
    · have hp' : ((pn : Int) == 0) = false := by simp; omega
      have hp2 : (pn == 0) = false := by simp; omega
      have HB := Lib.hid (hB false (by simp [hp]))
      clear hB s0 s1 s2 s3 hbs
      go_enter Try.func88, Try.ntmps88
      go_upto_region 1 with fail
      go_quiet (fail)
      go_wp2_with fail
      go_ret
      exact ⟨ret_bool HB.out.symm, drewBelow HBX.out _⟩
  · have hk' : (k == 0) = false := by simp [hk]
    have HB := Lib.hid (hB false (by simp [hk]))
    clear hB s0 s1 s2 s3 hbs
    go_enter Try.func88, Try.ntmps88
    go_upto_region 1 with fail
    go_quiet (fail)
    go_wp2_with fail
    go_ret
    exact ⟨ret_bool HB.out.symm, drewBelow HBX.out _⟩
set_option maxHeartbeats 8000000 in
theorem cop2_any (s0 : w.cell? ⟨sb, 0, none⟩ = some (.int .i64 V)) (s1 : w.cell? ⟨sb, 1, none⟩ = some (.int .i64 L)) (s2 : w.cell? ⟨sb, 2, none⟩ = some (.int .i64 buf)) (s3 : w.cell? ⟨sb, 3, none⟩ = some (.slice ma made.length mc)) (hbs : sb < w.heap.size) (hV : V ≤ 6) (hpe : monoRep.Els w pa p) (hpl : p.length ≤ 9223372036854775807) : Calls Try.prog 88 #[.pointer (some ⟨sb, 0, none⟩), .agg #[.int .i64 2, .int .i64 k, .int .i64 n, .slice pa p.length pc, .int .u8 fn]] w fun e w' => e = .returned (.bool (opS V L made buf ⟨2, k, n, p, fn⟩)) ∧ Below w.heap.size w w' := by
  have hbx : Below w.heap.size w (w.alloc (.cells #[.int .i64 2, .int .i64 k, .int .i64 n, .slice pa p.length pc, .int .u8 fn] 44)) := (Below.refl _ _).alloc (Nat.le_refl _) _
  have hown := fun W (hb : Below w.heap.size w W) => of_any W pa pc p V hV (hpe.below monoRep hb (Nat.le_refl _)) hpl
  clear hpe
  obtain ⟨pn, hpn⟩ : ∃ pn, p.length = pn := ⟨_, rfl⟩
  have hB : ∀ b, (ownB V p && n == 0 && k == 0 && fn == 0) = b → opS V L made buf ⟨2, k, n, p, fn⟩ = b := fun b h => by rw [← h]; simp [opS, opB]; cases ownB V p <;> simp <;> (try (cases (k == 0) <;> cases (n == 0) <;> rfl))
  rw [hpn] at hbx hown
  rw [hpn]; clear hpn
  have hn0 := World.alloc_heap_new w (.cells #[.int .i64 2, .int .i64 k, .int .i64 n, .slice pa pn pc, .int .u8 fn] 44)
  obtain ⟨opc, hopc⟩ : ∃ l : List Value, l = [.int .i64 2, .int .i64 k, .int .i64 n, .slice pa pn pc, .int .u8 fn] := ⟨_, rfl⟩
  have HN0 : Hid (∀ nq, ((w.alloc (.cells #[.int .i64 2, .int .i64 k, .int .i64 n, .slice pa pn pc, .int .u8 fn] 44)).drewN nq).heap[w.heap.size]? = some (.cells opc.toArray 44 (0, 0))) := Lib.hid fun nq => by rw [hopc]; exact hn0
  have OPC := Lib.hid hopc; clear hopc hn0
  have HBX := Lib.hid hbx; clear hbx
  cases ho : ownB V p with
  | true =>
    rw [ho] at hown
    have HO := Lib.hid hown
    clear hown
    by_cases hn : n = 0
    · subst hn
      by_cases hk : k = 0
      · subst hk
        by_cases hf : fn = 0
        · subst hf
          have HB := Lib.hid (hB true (by simp [ho]))
          clear hB ho
          go_enter Try.func88, Try.ntmps88
          go_upto_region 1 with fail
          go_quiet (fail)
          go_upto_region 7 with fail
          refine gen_worldA (fun W => Below w.heap.size w W ∧ W.heap[w.heap.size]? = some (.cells opc.toArray 44 (0, 0))) ⟨drewBelow HBX.out _, HN0.out _⟩ ?_
          rintro W ⟨hbW, g0⟩
          have hq : ∀ p' : BelowW W, Calls Try.prog 85 #[.slice pa pn pc, .int .i64 V] p'.world fun e w' => e = .returned (.bool true) ∧ Below p'.world.heap.size p'.world w' := fun p' => HO.out _ (bNext p'.below hbW)
          have y3 : W.cell? ⟨w.heap.size, 3, none⟩ = some (.slice pa pn pc) := (blockCells g0 3).trans (by rw [OPC.out]; rfl)
          have y0 := keepCell hbW s0
          have f0 := cellBW y0; have f3 := cellBW y3
          have HQ := Lib.hid hq; have HBW := Lib.hid hbW
          clear hq hbW g0 y0 y3 s0 s1 s2 s3 hbs HBX HN0 HO
          refine wp_region_below (by kernel_rfl) (by kernel_rfl) ?_
          repeat (go_big_quiet_step (refine callsBW (HQ.out _)))
          refine wpQuiet_nil ?_
          rintro _ ⟨⟨wq, hwq⟩, rfl⟩
          clear f0 f3
          go_wp2_with fail
          go_ret
          exact ⟨ret_bool HB.out.symm, bNext hwq HBW.out⟩
        · have hf' : (fn == 0) = false := by simp [hf]
          have HB := Lib.hid (hB false (by simp [ho, hf]))
          clear hB ho
          go_enter Try.func88, Try.ntmps88
          go_upto_region 1 with fail
          go_quiet (fail)
          go_upto_region 7 with fail
          refine gen_worldA (fun W => Below w.heap.size w W ∧ W.heap[w.heap.size]? = some (.cells opc.toArray 44 (0, 0))) ⟨drewBelow HBX.out _, HN0.out _⟩ ?_
          rintro W ⟨hbW, g0⟩
          have hq : ∀ p' : BelowW W, Calls Try.prog 85 #[.slice pa pn pc, .int .i64 V] p'.world fun e w' => e = .returned (.bool true) ∧ Below p'.world.heap.size p'.world w' := fun p' => HO.out _ (bNext p'.below hbW)
          have y3 : W.cell? ⟨w.heap.size, 3, none⟩ = some (.slice pa pn pc) := (blockCells g0 3).trans (by rw [OPC.out]; rfl)
          have y0 := keepCell hbW s0
          have f0 := cellBW y0; have f3 := cellBW y3
          have HQ := Lib.hid hq; have HBW := Lib.hid hbW
          clear hq hbW g0 y0 y3 s0 s1 s2 s3 hbs HBX HN0 HO
          refine wp_region_below (by kernel_rfl) (by kernel_rfl) ?_
          repeat (go_big_quiet_step (refine callsBW (HQ.out _)))
          refine wpQuiet_nil ?_
          rintro _ ⟨⟨wq, hwq⟩, rfl⟩
          clear f0 f3
          go_wp2_with fail
          go_ret
          exact ⟨ret_bool HB.out.symm, bNext hwq HBW.out⟩
      · have hk' : (k == 0) = false := by simp [hk]
        have HB := Lib.hid (hB false (by simp [ho, hk]))
        clear hB ho
        go_enter Try.func88, Try.ntmps88
        go_upto_region 1 with fail
        go_quiet (fail)
        go_upto_region 7 with fail
        refine gen_worldA (fun W => Below w.heap.size w W ∧ W.heap[w.heap.size]? = some (.cells opc.toArray 44 (0, 0))) ⟨drewBelow HBX.out _, HN0.out _⟩ ?_
        rintro W ⟨hbW, g0⟩
        have hq : ∀ p' : BelowW W, Calls Try.prog 85 #[.slice pa pn pc, .int .i64 V] p'.world fun e w' => e = .returned (.bool true) ∧ Below p'.world.heap.size p'.world w' := fun p' => HO.out _ (bNext p'.below hbW)
        have y3 : W.cell? ⟨w.heap.size, 3, none⟩ = some (.slice pa pn pc) := (blockCells g0 3).trans (by rw [OPC.out]; rfl)
        have y0 := keepCell hbW s0
        have f0 := cellBW y0; have f3 := cellBW y3
        have HQ := Lib.hid hq; have HBW := Lib.hid hbW
        clear hq hbW g0 y0 y3 s0 s1 s2 s3 hbs HBX HN0 HO
        refine wp_region_below (by kernel_rfl) (by kernel_rfl) ?_
        repeat (go_big_quiet_step (refine callsBW (HQ.out _)))
        refine wpQuiet_nil ?_
        rintro _ ⟨⟨wq, hwq⟩, rfl⟩
        clear f0 f3
        go_wp2_with fail
        go_ret
        exact ⟨ret_bool HB.out.symm, bNext hwq HBW.out⟩
    · have hn' : (n == 0) = false := by simp [hn]
      have HB := Lib.hid (hB false (by simp [ho, hn]))
      clear hB ho
      go_enter Try.func88, Try.ntmps88
      go_upto_region 1 with fail
      go_quiet (fail)
      go_upto_region 7 with fail
      refine gen_worldA (fun W => Below w.heap.size w W ∧ W.heap[w.heap.size]? = some (.cells opc.toArray 44 (0, 0))) ⟨drewBelow HBX.out _, HN0.out _⟩ ?_
      rintro W ⟨hbW, g0⟩
      have hq : ∀ p' : BelowW W, Calls Try.prog 85 #[.slice pa pn pc, .int .i64 V] p'.world fun e w' => e = .returned (.bool true) ∧ Below p'.world.heap.size p'.world w' := fun p' => HO.out _ (bNext p'.below hbW)
      have y3 : W.cell? ⟨w.heap.size, 3, none⟩ = some (.slice pa pn pc) := (blockCells g0 3).trans (by rw [OPC.out]; rfl)
      have y0 := keepCell hbW s0
      have f0 := cellBW y0; have f3 := cellBW y3
      have HQ := Lib.hid hq; have HBW := Lib.hid hbW
      clear hq hbW g0 y0 y3 s0 s1 s2 s3 hbs HBX HN0 HO
      refine wp_region_below (by kernel_rfl) (by kernel_rfl) ?_
      repeat (go_big_quiet_step (refine callsBW (HQ.out _)))
      refine wpQuiet_nil ?_
      rintro _ ⟨⟨wq, hwq⟩, rfl⟩
      clear f0 f3
      go_wp2_with fail
      go_ret
      exact ⟨ret_bool HB.out.symm, bNext hwq HBW.out⟩
  | false =>
    rw [ho] at hown
    have HO := Lib.hid hown
    clear hown
    have HB := Lib.hid (hB false (by simp [ho]))
    clear hB ho
    go_enter Try.func88, Try.ntmps88
    go_upto_region 1 with fail
    go_quiet (fail)
    go_upto_region 7 with fail
    refine gen_worldA (fun W => Below w.heap.size w W ∧ W.heap[w.heap.size]? = some (.cells opc.toArray 44 (0, 0))) ⟨drewBelow HBX.out _, HN0.out _⟩ ?_
    rintro W ⟨hbW, g0⟩
    have hq : ∀ p' : BelowW W, Calls Try.prog 85 #[.slice pa pn pc, .int .i64 V] p'.world fun e w' => e = .returned (.bool false) ∧ Below p'.world.heap.size p'.world w' := fun p' => HO.out _ (bNext p'.below hbW)
    have y3 : W.cell? ⟨w.heap.size, 3, none⟩ = some (.slice pa pn pc) := (blockCells g0 3).trans (by rw [OPC.out]; rfl)
    have y0 := keepCell hbW s0
    have f0 := cellBW y0; have f3 := cellBW y3
    have HQ := Lib.hid hq; have HBW := Lib.hid hbW
    clear hq hbW g0 y0 y3 s0 s1 s2 s3 hbs HBX HN0 HO
    refine wp_region_below (by kernel_rfl) (by kernel_rfl) ?_
    repeat (go_big_quiet_step (refine callsBW (HQ.out _)))
    refine wpQuiet_nil ?_
    rintro _ ⟨⟨wq, hwq⟩, rfl⟩
    clear f0 f3
    go_wp2_with fail
    go_ret
    exact ⟨ret_bool HB.out.symm, bNext hwq HBW.out⟩
set_option maxHeartbeats 8000000 in
theorem cop3_any (s0 : w.cell? ⟨sb, 0, none⟩ = some (.int .i64 V)) (s1 : w.cell? ⟨sb, 1, none⟩ = some (.int .i64 L)) (s2 : w.cell? ⟨sb, 2, none⟩ = some (.int .i64 buf)) (s3 : w.cell? ⟨sb, 3, none⟩ = some (.slice ma made.length mc)) (hbs : sb < w.heap.size) : Calls Try.prog 88 #[.pointer (some ⟨sb, 0, none⟩), .agg #[.int .i64 3, .int .i64 k, .int .i64 n, .slice pa p.length pc, .int .u8 fn]] w fun e w' => e = .returned (.bool (opS V L made buf ⟨3, k, n, p, fn⟩)) ∧ Below w.heap.size w w' := by
  have hbx : Below w.heap.size w (w.alloc (.cells #[.int .i64 3, .int .i64 k, .int .i64 n, .slice pa p.length pc, .int .u8 fn] 44)) := (Below.refl _ _).alloc (Nat.le_refl _) _
  obtain ⟨pn, hpn⟩ : ∃ pn, p.length = pn := ⟨_, rfl⟩
  have hB : ∀ b, (decide (0 ≤ k) && decide (k < L) && n == 0 && decide (pn = 0) && fn == 0) = b → opS V L made buf ⟨3, k, n, p, fn⟩ = b := fun b h => by rw [← h, ← hpn]; simp [opS, opB]
  rw [hpn] at hbx
  rw [hpn]; clear hpn
  have HBX := Lib.hid hbx; clear hbx
  by_cases h0 : 0 ≤ k
  · obtain ⟨kn, rfl⟩ : ∃ kn : Nat, k = kn := ⟨k.toNat, by omega⟩
    by_cases hL : kn < L
    · have hL' : (kn : Int) < (L : Int) := by omega
      by_cases hn : n = 0
      · subst hn
        by_cases hp : pn = 0
        · subst hp
          by_cases hf : fn = 0
          · subst hf
            have HB := Lib.hid (hB true (by simp [hL]))
            clear hB
            go_enter Try.func88, Try.ntmps88
            go_upto_region 1 with fail
            go_quiet (fail)
            go_upto_region 9 with fail
            go_quiet (fail)
            go_wp2_with fail
            go_ret
            exact ⟨ret_bool HB.out.symm, drewBelow HBX.out _⟩
          · have hf' : (fn == 0) = false := by simp [hf]
            have HB := Lib.hid (hB false (by simp [hL, hf]))
            clear hB
            go_enter Try.func88, Try.ntmps88
            go_upto_region 1 with fail
            go_quiet (fail)
            go_upto_region 9 with fail
            go_quiet (fail)
            go_wp2_with fail
            go_ret
            exact ⟨ret_bool HB.out.symm, drewBelow HBX.out _⟩
        · have hp' : ((pn : Int) == 0) = false := by simp; omega
          have hp2 : (pn == 0) = false := by simp; omega
          have HB := Lib.hid (hB false (by simp [hL, hp]))
          clear hB
          go_enter Try.func88, Try.ntmps88
          go_upto_region 1 with fail
          go_quiet (fail)
          go_upto_region 9 with fail
          go_quiet (fail)
          go_wp2_with fail
          go_ret
          exact ⟨ret_bool HB.out.symm, drewBelow HBX.out _⟩
      · have hn' : (n == 0) = false := by simp [hn]
        have HB := Lib.hid (hB false (by simp [hL, hn]))
        clear hB
        go_enter Try.func88, Try.ntmps88
        go_upto_region 1 with fail
        go_quiet (fail)
        go_upto_region 9 with fail
        go_quiet (fail)
        go_wp2_with fail
        go_ret
        exact ⟨ret_bool HB.out.symm, drewBelow HBX.out _⟩
    · have hL' : decide ((kn : Int) < (L : Int)) = false := by simp; omega
      have hL2 : decide (kn < L) = false := by simp; omega
      have HB := Lib.hid (hB false (by simp [hL]))
      clear hB
      go_enter Try.func88, Try.ntmps88
      go_upto_region 1 with fail
      go_quiet (fail)
      go_upto_region 9 with fail
      go_quiet (fail)
      go_wp2_with fail
      go_ret
      exact ⟨ret_bool HB.out.symm, drewBelow HBX.out _⟩
  · have h0' : decide (0 ≤ k) = false := by simpa using h0
    have h0i : k < 0 := by omega
    have HB := Lib.hid (hB false (by simp [h0]))
    clear hB
    go_enter Try.func88, Try.ntmps88
    go_upto_region 1 with fail
    go_quiet (fail)
    go_upto_region 9 with fail
    go_quiet (fail)
    go_wp2_with fail
    go_ret
    exact ⟨ret_bool HB.out.symm, drewBelow HBX.out _⟩
set_option maxHeartbeats 8000000 in
theorem cop4_any (s0 : w.cell? ⟨sb, 0, none⟩ = some (.int .i64 V)) (s1 : w.cell? ⟨sb, 1, none⟩ = some (.int .i64 L)) (s2 : w.cell? ⟨sb, 2, none⟩ = some (.int .i64 buf)) (s3 : w.cell? ⟨sb, 3, none⟩ = some (.slice ma made.length mc)) (hbs : sb < w.heap.size) (hmade : MadeAt w ma made) : Calls Try.prog 88 #[.pointer (some ⟨sb, 0, none⟩), .agg #[.int .i64 4, .int .i64 k, .int .i64 n, .slice pa p.length pc, .int .u8 fn]] w fun e w' => e = .returned (.bool (opS V L made buf ⟨4, k, n, p, fn⟩)) ∧ Below w.heap.size w w' := by
  have hbx : Below w.heap.size w (w.alloc (.cells #[.int .i64 4, .int .i64 k, .int .i64 n, .slice pa p.length pc, .int .u8 fn] 44)) := (Below.refl _ _).alloc (Nat.le_refl _) _
  obtain ⟨pn, hpn⟩ : ∃ pn, p.length = pn := ⟨_, rfl⟩
  have hB : ∀ b, (madeB made k && !(k == buf) && n == 0 && decide (pn = 0) && fn == 0) = b → opS V L made buf ⟨4, k, n, p, fn⟩ = b := fun b h => by rw [← h, ← hpn]; simp only [opS, opB]; cases madeB made k <;> simp <;> (try (cases hkb : k == buf <;> simp))
  rw [hpn] at hbx
  rw [hpn]; clear hpn
  have HBX := Lib.hid hbx; clear hbx
  by_cases h0 : 0 ≤ k
  · obtain ⟨kn, rfl⟩ : ∃ kn : Nat, k = kn := ⟨k.toNat, by omega⟩
    by_cases hM : kn < made.length
    · have hM' : (kn : Int) < (made.length : Int) := by omega
      obtain ⟨mb, off, rfl, xm⟩ := hmade kn hM
      have hbm := World.block_lt_of_cell? _ _ xm
      obtain ⟨mk, hmk⟩ : ∃ mk, made[kn] = mk := ⟨_, rfl⟩
      rw [hmk] at xm
      cases hm : mk with
      | true =>
        subst hm
        by_cases hb : ¬ (kn : Int) = buf
        · have hb' : ((kn : Int) == buf) = false := by simp [hb]
          have hb2 : ((kn : Int) != buf) = true := by simp [hb]
          by_cases hn : n = 0
          · subst hn
            by_cases hp : pn = 0
            · subst hp
              by_cases hf : fn = 0
              · subst hf
                have HB := Lib.hid (hB true (by simp [madeB_nat hM, hmk, hb]))
                clear hB hmk
                go_enter Try.func88, Try.ntmps88
                go_upto_region 1 with fail
                go_quiet (fail)
                go_upto_region 11 with fail
                go_quiet (fail)
                go_wp2_with fail
                go_ret
                exact ⟨ret_bool HB.out.symm, drewBelow HBX.out _⟩
              · have hf' : (fn == 0) = false := by simp [hf]
                have HB := Lib.hid (hB false (by simp [madeB_nat hM, hmk, hb, hf]))
                clear hB hmk
                go_enter Try.func88, Try.ntmps88
                go_upto_region 1 with fail
                go_quiet (fail)
                go_upto_region 11 with fail
                go_quiet (fail)
                go_wp2_with fail
                go_ret
                exact ⟨ret_bool HB.out.symm, drewBelow HBX.out _⟩
            · have hp' : ((pn : Int) == 0) = false := by simp; omega
              have hp2 : (pn == 0) = false := by simp; omega
              have HB := Lib.hid (hB false (by simp [madeB_nat hM, hmk, hb, hp]))
              clear hB hmk
              go_enter Try.func88, Try.ntmps88
              go_upto_region 1 with fail
              go_quiet (fail)
              go_upto_region 11 with fail
              go_quiet (fail)
              go_wp2_with fail
              go_ret
              exact ⟨ret_bool HB.out.symm, drewBelow HBX.out _⟩
          · have hn' : (n == 0) = false := by simp [hn]
            have HB := Lib.hid (hB false (by simp [madeB_nat hM, hmk, hb, hn]))
            clear hB hmk
            go_enter Try.func88, Try.ntmps88
            go_upto_region 1 with fail
            go_quiet (fail)
            go_upto_region 11 with fail
            go_quiet (fail)
            go_wp2_with fail
            go_ret
            exact ⟨ret_bool HB.out.symm, drewBelow HBX.out _⟩
        · have hb := Classical.not_not.1 hb
          subst hb
          have HB := Lib.hid (hB false (by simp [madeB_nat hM, hmk]))
          clear hB hmk
          go_enter Try.func88, Try.ntmps88
          go_upto_region 1 with fail
          go_quiet (fail)
          go_upto_region 11 with fail
          go_quiet (fail)
          go_wp2_with fail
          go_ret
          exact ⟨ret_bool HB.out.symm, drewBelow HBX.out _⟩
      | false =>
        subst hm
        have HB := Lib.hid (hB false (by simp [madeB_nat hM, hmk]))
        clear hB hmk
        go_enter Try.func88, Try.ntmps88
        go_upto_region 1 with fail
        go_quiet (fail)
        go_upto_region 11 with fail
        go_quiet (fail)
        go_wp2_with fail
        go_ret
        exact ⟨ret_bool HB.out.symm, drewBelow HBX.out _⟩
    · have hM' : decide ((kn : Int) < (made.length : Int)) = false := by simp; omega
      have hM2 : decide (kn < made.length) = false := by simp; omega
      have HB := Lib.hid (hB false (by simp [madeB_long hM]))
      clear hB
      go_enter Try.func88, Try.ntmps88
      go_upto_region 1 with fail
      go_quiet (fail)
      go_upto_region 11 with fail
      go_quiet (fail)
      go_wp2_with fail
      go_ret
      exact ⟨ret_bool HB.out.symm, drewBelow HBX.out _⟩
  · have h0' : decide (0 ≤ k) = false := by simpa using h0
    have h0i : k < 0 := by omega
    have HB := Lib.hid (hB false (by simp [h0, madeB_neg h0]))
    clear hB
    go_enter Try.func88, Try.ntmps88
    go_upto_region 1 with fail
    go_quiet (fail)
    go_upto_region 11 with fail
    go_quiet (fail)
    go_wp2_with fail
    go_ret
    exact ⟨ret_bool HB.out.symm, drewBelow HBX.out _⟩
set_option maxHeartbeats 8000000 in
theorem cop5_any (s0 : w.cell? ⟨sb, 0, none⟩ = some (.int .i64 V)) (s1 : w.cell? ⟨sb, 1, none⟩ = some (.int .i64 L)) (s2 : w.cell? ⟨sb, 2, none⟩ = some (.int .i64 buf)) (s3 : w.cell? ⟨sb, 3, none⟩ = some (.slice ma made.length mc)) (hbs : sb < w.heap.size) : Calls Try.prog 88 #[.pointer (some ⟨sb, 0, none⟩), .agg #[.int .i64 5, .int .i64 k, .int .i64 n, .slice pa p.length pc, .int .u8 fn]] w fun e w' => e = .returned (.bool (opS V L made buf ⟨5, k, n, p, fn⟩)) ∧ Below w.heap.size w w' := by
  have hbx : Below w.heap.size w (w.alloc (.cells #[.int .i64 5, .int .i64 k, .int .i64 n, .slice pa p.length pc, .int .u8 fn] 44)) := (Below.refl _ _).alloc (Nat.le_refl _) _
  have htk := fun W => takes_any W fn false
  obtain ⟨pn, hpn⟩ : ∃ pn, p.length = pn := ⟨_, rfl⟩
  have hB : ∀ b, (takes fn false && n == 0 && k == 0 && decide (pn = 0)) = b → opS V L made buf ⟨5, k, n, p, fn⟩ = b := fun b h => by rw [← h, ← hpn]; simp [opS, opB]; cases takes fn false <;> simp <;> (try (cases (k == 0) <;> cases (n == 0) <;> rfl))
  rw [hpn] at hbx
  rw [hpn]; clear hpn
  have HBX := Lib.hid hbx; clear hbx
  cases ht : takes fn false with
  | true =>
    rw [ht] at htk
    have HT := Lib.hid htk
    clear htk
    by_cases hn : n = 0
    · subst hn
      by_cases hk : k = 0
      · subst hk
        by_cases hp : pn = 0
        · subst hp
          have HB := Lib.hid (hB true (by simp [ht]))
          clear hB ht s0 s1 s2 s3 hbs
          go_enter Try.func88, Try.ntmps88
          go_upto_region 1 with fail
          go_quiet (fail)
          go_wp2_with (go_at_call 23; refine (HT.out _).mono ?_; rintro e w1 ⟨rfl, rfl⟩)
          go_ret
          exact ⟨ret_bool HB.out.symm, drewBelow HBX.out _⟩
        · have hp' : ((pn : Int) == 0) = false := by simp; omega
          have hp2 : (pn == 0) = false := by simp; omega
          have HB := Lib.hid (hB false (by simp [ht, hp]))
          clear hB ht s0 s1 s2 s3 hbs
          go_enter Try.func88, Try.ntmps88
          go_upto_region 1 with fail
          go_quiet (fail)
          go_wp2_with (go_at_call 23; refine (HT.out _).mono ?_; rintro e w1 ⟨rfl, rfl⟩)
          go_ret
          exact ⟨ret_bool HB.out.symm, drewBelow HBX.out _⟩
      · have hk' : (k == 0) = false := by simp [hk]
        have HB := Lib.hid (hB false (by simp [ht, hk]))
        clear hB ht s0 s1 s2 s3 hbs
        go_enter Try.func88, Try.ntmps88
        go_upto_region 1 with fail
        go_quiet (fail)
        go_wp2_with (go_at_call 23; refine (HT.out _).mono ?_; rintro e w1 ⟨rfl, rfl⟩)
        go_ret
        exact ⟨ret_bool HB.out.symm, drewBelow HBX.out _⟩
    · have hn' : (n == 0) = false := by simp [hn]
      have HB := Lib.hid (hB false (by simp [ht, hn]))
      clear hB ht s0 s1 s2 s3 hbs
      go_enter Try.func88, Try.ntmps88
      go_upto_region 1 with fail
      go_quiet (fail)
      go_wp2_with (go_at_call 23; refine (HT.out _).mono ?_; rintro e w1 ⟨rfl, rfl⟩)
      go_ret
      exact ⟨ret_bool HB.out.symm, drewBelow HBX.out _⟩
  | false =>
    rw [ht] at htk
    have HT := Lib.hid htk
    clear htk
    have HB := Lib.hid (hB false (by simp [ht]))
    clear hB ht s0 s1 s2 s3 hbs
    go_enter Try.func88, Try.ntmps88
    go_upto_region 1 with fail
    go_quiet (fail)
    go_wp2_with (go_at_call 23; refine (HT.out _).mono ?_; rintro e w1 ⟨rfl, rfl⟩)
    go_ret
    exact ⟨ret_bool HB.out.symm, drewBelow HBX.out _⟩
set_option maxHeartbeats 8000000 in
theorem cop6_any (s0 : w.cell? ⟨sb, 0, none⟩ = some (.int .i64 V)) (s1 : w.cell? ⟨sb, 1, none⟩ = some (.int .i64 L)) (s2 : w.cell? ⟨sb, 2, none⟩ = some (.int .i64 buf)) (s3 : w.cell? ⟨sb, 3, none⟩ = some (.slice ma made.length mc)) (hbs : sb < w.heap.size) : Calls Try.prog 88 #[.pointer (some ⟨sb, 0, none⟩), .agg #[.int .i64 6, .int .i64 k, .int .i64 n, .slice pa p.length pc, .int .u8 fn]] w fun e w' => e = .returned (.bool (opS V L made buf ⟨6, k, n, p, fn⟩)) ∧ Below w.heap.size w w' := by
  have hbx : Below w.heap.size w (w.alloc (.cells #[.int .i64 6, .int .i64 k, .int .i64 n, .slice pa p.length pc, .int .u8 fn] 44)) := (Below.refl _ _).alloc (Nat.le_refl _) _
  have htk := fun W => takes_any W fn true
  obtain ⟨pn, hpn⟩ : ∃ pn, p.length = pn := ⟨_, rfl⟩
  have hB : ∀ b, (takes fn true && n == 0 && k == 0 && decide (pn = 0)) = b → opS V L made buf ⟨6, k, n, p, fn⟩ = b := fun b h => by rw [← h, ← hpn]; simp [opS, opB]; cases takes fn true <;> simp <;> (try (cases (k == 0) <;> cases (n == 0) <;> rfl))
  rw [hpn] at hbx
  rw [hpn]; clear hpn
  have HBX := Lib.hid hbx; clear hbx
  cases ht : takes fn true with
  | true =>
    rw [ht] at htk
    have HT := Lib.hid htk
    clear htk
    by_cases hn : n = 0
    · subst hn
      by_cases hk : k = 0
      · subst hk
        by_cases hp : pn = 0
        · subst hp
          have HB := Lib.hid (hB true (by simp [ht]))
          clear hB ht s0 s1 s2 s3 hbs
          go_enter Try.func88, Try.ntmps88
          go_upto_region 1 with fail
          go_quiet (fail)
          go_wp2_with (go_at_call 23; refine (HT.out _).mono ?_; rintro e w1 ⟨rfl, rfl⟩)
          go_ret
          exact ⟨ret_bool HB.out.symm, drewBelow HBX.out _⟩
        · have hp' : ((pn : Int) == 0) = false := by simp; omega
          have hp2 : (pn == 0) = false := by simp; omega
          have HB := Lib.hid (hB false (by simp [ht, hp]))
          clear hB ht s0 s1 s2 s3 hbs
          go_enter Try.func88, Try.ntmps88
          go_upto_region 1 with fail
          go_quiet (fail)
          go_wp2_with (go_at_call 23; refine (HT.out _).mono ?_; rintro e w1 ⟨rfl, rfl⟩)
          go_ret
          exact ⟨ret_bool HB.out.symm, drewBelow HBX.out _⟩
      · have hk' : (k == 0) = false := by simp [hk]
        have HB := Lib.hid (hB false (by simp [ht, hk]))
        clear hB ht s0 s1 s2 s3 hbs
        go_enter Try.func88, Try.ntmps88
        go_upto_region 1 with fail
        go_quiet (fail)
        go_wp2_with (go_at_call 23; refine (HT.out _).mono ?_; rintro e w1 ⟨rfl, rfl⟩)
        go_ret
        exact ⟨ret_bool HB.out.symm, drewBelow HBX.out _⟩
    · have hn' : (n == 0) = false := by simp [hn]
      have HB := Lib.hid (hB false (by simp [ht, hn]))
      clear hB ht s0 s1 s2 s3 hbs
      go_enter Try.func88, Try.ntmps88
      go_upto_region 1 with fail
      go_quiet (fail)
      go_wp2_with (go_at_call 23; refine (HT.out _).mono ?_; rintro e w1 ⟨rfl, rfl⟩)
      go_ret
      exact ⟨ret_bool HB.out.symm, drewBelow HBX.out _⟩
  | false =>
    rw [ht] at htk
    have HT := Lib.hid htk
    clear htk
    have HB := Lib.hid (hB false (by simp [ht]))
    clear hB ht s0 s1 s2 s3 hbs
    go_enter Try.func88, Try.ntmps88
    go_upto_region 1 with fail
    go_quiet (fail)
    go_wp2_with (go_at_call 23; refine (HT.out _).mono ?_; rintro e w1 ⟨rfl, rfl⟩)
    go_ret
    exact ⟨ret_bool HB.out.symm, drewBelow HBX.out _⟩
end
end Go.Proofs.Ytmlfeocdcjhhaaa

namespace Go.Proofs.Ytmlfeocdcjhhaaa
set_option maxRecDepth 100000
open Go.RowKit
set_option linter.unusedVariables false
set_option linter.unusedSimpArgs false
attribute [local go_sem ↓] Go.wp_at_zero Go.wp_at_succ

structure ScopeAt (w : World) (sb V L : Nat) (buf : Int) (ma : Option Addr) (mc : Nat) (made : List Bool) : Prop where
  s0 : w.cell? ⟨sb, 0, none⟩ = some (.int .i64 V)
  s1 : w.cell? ⟨sb, 1, none⟩ = some (.int .i64 L)
  s2 : w.cell? ⟨sb, 2, none⟩ = some (.int .i64 buf)
  s3 : w.cell? ⟨sb, 3, none⟩ = some (.slice ma made.length mc)
  hbs : sb < w.heap.size
  hmade : MadeAt w ma made
theorem ScopeAt.below {w w' : World} {sb V L : Nat} {buf : Int} {ma : Option Addr} {mc : Nat} {made : List Bool} (h : ScopeAt w sb V L buf ma mc made) (hb : Below w.heap.size w w') : ScopeAt w' sb V L buf ma mc made :=
  ⟨keepCell hb h.s0, keepCell hb h.s1, keepCell hb h.s2, keepCell hb h.s3, Nat.lt_of_lt_of_le h.hbs hb.size, h.hmade.below hb (Nat.le_refl _)⟩
set_option maxHeartbeats 4000000 in
theorem cop_any (w : World) (o : Cop) (pa : Option Addr) (pc V L : Nat) (buf : Int) (ma : Option Addr) (mc : Nat) (made : List Bool) (sb : Nat) (hs : ScopeAt w sb V L buf ma mc made) (hV : V ≤ 6) (hpe : monoRep.Els w pa o.p) (hpl : o.p.length ≤ 9223372036854775807) :
    Calls Try.prog 88 #[.pointer (some ⟨sb, 0, none⟩), .agg #[.int .i64 o.how, .int .i64 o.k, .int .i64 o.n, .slice pa o.p.length pc, .int .u8 o.fn]] w fun e w' => e = .returned (.bool (opS V L made buf o)) ∧ Below w.heap.size w w' := by
  obtain ⟨how, k, n, p, fn⟩ := o
  dsimp only at hpe hpl ⊢
  obtain ⟨s0, s1, s2, s3, hbs, hmade⟩ := hs
  by_cases h0 : how = 1 ∨ how = 2 ∨ how = 3 ∨ how = 4 ∨ how = 5 ∨ how = 6
  · rcases h0 with rfl | rfl | rfl | rfl | rfl | rfl
    · exact cop1_any w k n fn p pa pc V L buf ma mc made sb s0 s1 s2 s3 hbs
    · exact cop2_any w k n fn p pa pc V L buf ma mc made sb s0 s1 s2 s3 hbs hV hpe hpl
    · exact cop3_any w k n fn p pa pc V L buf ma mc made sb s0 s1 s2 s3 hbs
    · exact cop4_any w k n fn p pa pc V L buf ma mc made sb s0 s1 s2 s3 hbs hmade
    · exact cop5_any w k n fn p pa pc V L buf ma mc made sb s0 s1 s2 s3 hbs
    · exact cop6_any w k n fn p pa pc V L buf ma mc made sb s0 s1 s2 s3 hbs
  have HV := Lib.hid (show opS V L made buf ⟨how, k, n, p, fn⟩ = false from by unfold opS opB; dsimp only; rw [if_neg (by omega), if_neg (by omega), if_neg (by omega), if_neg (by omega), if_neg (by omega), if_neg (by omega), Bool.false_and])
  have hbx : Below w.heap.size w (w.alloc (.cells #[.int .i64 how, .int .i64 k, .int .i64 n, .slice pa p.length pc, .int .u8 fn] 44)) := (Below.refl _ _).alloc (Nat.le_refl _) _
  have HBX := Lib.hid hbx
  have g1 : (how == 1) = false := by simp; omega
  have g2 : (how == 2) = false := by simp; omega
  have g3 : (how == 3) = false := by simp; omega
  have g4 : (how == 4) = false := by simp; omega
  have g5 : (how == 5) = false := by simp; omega
  have g6 : (how == 6) = false := by simp; omega
  clear h0 hpe hmade hpl hbx s0 s1 s2 s3
  go_enter Try.func88, Try.ntmps88
  go_upto_region 1 with fail
  go_quiet (fail)
  go_wp2_with fail
  go_ret
  exact ⟨ret_bool HV.out.symm, drewBelow HBX.out _⟩
set_option maxHeartbeats 4000000 in
theorem copnot_any (w : World) (o : Cop) (pa : Option Addr) (pc V L : Nat) (buf : Int) (ma : Option Addr) (mc : Nat) (made : List Bool) (sb : Nat) (q : Addr) (hq : w.cell? q = some (.pointer (some ⟨sb, 0, none⟩))) (hs : ScopeAt w sb V L buf ma mc made) (hV : V ≤ 6) (hpe : monoRep.Els w pa o.p) (hpl : o.p.length ≤ 9223372036854775807) :
    Calls Try.prog 87 #[.agg #[.int .i64 o.how, .int .i64 o.k, .int .i64 o.n, .slice pa o.p.length pc, .int .u8 o.fn], .pointer (some q)] w fun e w' => e = .returned (.bool (!opS V L made buf o)) ∧ Below w.heap.size w w' := by
  obtain ⟨how, k, n, p, fn⟩ := o
  dsimp only at hpe hpl ⊢
  have hbx : Below w.heap.size w (w.alloc (.cells #[.int .i64 how, .int .i64 k, .int .i64 n, .slice pa p.length pc, .int .u8 fn] 44)) := (Below.refl _ _).alloc (Nat.le_refl _) _
  have hc := cop_any (w.alloc (.cells #[.int .i64 how, .int .i64 k, .int .i64 n, .slice pa p.length pc, .int .u8 fn] 44)) ⟨how, k, n, p, fn⟩ pa pc V L buf ma mc made sb (hs.below hbx) hV (hpe.below monoRep hbx (Nat.le_refl _)) hpl
  dsimp only at hc
  have hqb := World.block_lt_of_cell? _ _ hq
  obtain ⟨b, hb⟩ : ∃ b, opS V L made buf ⟨how, k, n, p, fn⟩ = b := ⟨_, rfl⟩
  rw [hb] at hc ⊢
  have HC := Lib.hid hc; have HBX := Lib.hid hbx
  clear hc hbx hs hpe hb
  go_enter Try.func87, Try.ntmps87
  go_wp2_with (go_at_call 88; refine HC.out.mono ?_; rintro e w1 ⟨rfl, hb1⟩)
  all_goals (go_ret; exact ⟨rfl, bNext hb1 HBX.out⟩)
end Go.Proofs.Ytmlfeocdcjhhaaa

namespace Go.Proofs.Ytmlfeocdcjhhaaa
set_option maxRecDepth 100000
open Go.RowKit
set_option linter.unusedVariables false
set_option linter.unusedSimpArgs false
attribute [local go_sem ↓] Go.wp_at_zero Go.wp_at_succ

/-- what a step's own form asks -/
def stepQ (V : Nat) (made : List Bool) (s : Stp) : Bool :=
  bothB V s.pos && growB V s.loops && (decide (s.how = 1) || decide (s.loops.length ≠ 0)) && (if s.how = 1 then s.fn == 0 else takes s.fn true) && decide (1 ≤ s.how) && decide (s.how ≤ 3)
    && decide (s.ops.length ≤ 256) && decide (0 ≤ depthI s.ops) && s.ops.all (opS V s.loops.length made s.buf)
/-- what its buffer asks -/
def bufQ (bufs : List Buf) (k : Int) : Bool := decide (0 ≤ k) && decide (k < bufs.length) && (match bufs[k.toNat]? with | some b => decide (b.input < 0) | none => false)
def stepS (V : Nat) (bufs : List Buf) (made : List Bool) (s : Stp) : Bool := bufQ bufs s.buf && stepQ V made s
theorem bufQ_neg {bufs : List Buf} {k : Int} (h : k < 0) : bufQ bufs k = false := by unfold bufQ; rw [decide_eq_false (by omega)]; rfl
theorem bufQ_long {bufs : List Buf} {k : Int} (h : ¬ k < bufs.length) : bufQ bufs k = false := by unfold bufQ; rw [decide_eq_false h, Bool.and_false]; rfl
theorem bufQ_at {bufs : List Buf} {k : Nat} (h : k < bufs.length) : bufQ bufs k = decide (bufs[k].input < 0) := by
  unfold bufQ
  rw [decide_eq_true (by omega), decide_eq_true (by omega), Int.toNat_natCast, List.getElem?_eq_getElem h]
  rfl
end Go.Proofs.Ytmlfeocdcjhhaaa
