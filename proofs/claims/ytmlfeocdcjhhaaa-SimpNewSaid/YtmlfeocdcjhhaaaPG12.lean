import Derived.Test.YtmlfeocdcjhhaaaPG11
import Derived.Test.YtmlfeocdcjhhaaaPG9
namespace Go.Proofs.Ytmlfeocdcjhhaaa
set_option maxRecDepth 100000
open Go.RowKit
set_option linter.unusedVariables false
set_option linter.unusedSimpArgs false

/-! Depths of operations behind others: plain. -/
def runK : List Cop → Int → Int → Option (Int × Int)
  | [], now, most => some (now, most)
  | o :: r, now, most => if takesI o.how < 0 ∨ now < takesI o.how then none else runK r (now + (1 - takesI o.how)) (max most (now + (1 - takesI o.how)))
theorem depthK_run : ∀ (l : List Cop) (now most : Int), depthK l now most = match runK l now most with | some (n, m) => if n = 1 then m else -1 | none => -1
  | [], now, most => rfl
  | o :: r, now, most => by
    rw [depthK, runK]
    by_cases h : takesI o.how < 0 ∨ now < takesI o.how
    · rw [if_pos h, if_pos h]
    · rw [if_neg h, if_neg h]; exact depthK_run r _ _
theorem runK_append : ∀ (a b : List Cop) (now most : Int), runK (a ++ b) now most = (runK a now most).bind fun p => runK b p.1 p.2
  | [], b, now, most => rfl
  | o :: r, b, now, most => by
    rw [List.cons_append, runK, runK]
    by_cases h : takesI o.how < 0 ∨ now < takesI o.how
    · rw [if_pos h, if_pos h]; rfl
    · rw [if_neg h, if_neg h]; exact runK_append r b _ _
theorem runK_shift : ∀ (l : List Cop) {now most n m : Int}, runK l now most = some (n, m) → ∀ d M : Int, 0 ≤ d → runK l (now + d) (max M (most + d)) = some (n + d, max M (m + d))
  | [], now, most, n, m, h, d, M, hd => by cases h; rfl
  | o :: r, now, most, n, m, h, d, M, hd => by
    rw [runK] at h ⊢
    by_cases hc : takesI o.how < 0 ∨ now < takesI o.how
    · rw [if_pos hc] at h; cases h
    · rw [if_neg hc] at h
      rw [if_neg (by omega)]
      have := runK_shift r h d M hd
      rw [← this]
      congr 1 <;> omega
theorem runK_le : ∀ (l : List Cop) {now most n m : Int}, runK l now most = some (n, m) → now ≤ most → n ≤ m ∧ most ≤ m
  | [], now, most, n, m, h, hl => by cases h; exact ⟨hl, Int.le_refl _⟩
  | o :: r, now, most, n, m, h, hl => by
    rw [runK] at h
    by_cases hc : takesI o.how < 0 ∨ now < takesI o.how
    · rw [if_pos hc] at h; cases h
    · rw [if_neg hc] at h
      have := runK_le r h (by omega)
      omega
theorem runK_len : ∀ (l : List Cop) {now most n m : Int}, runK l now most = some (n, m) → m ≤ max most (now + l.length)
  | [], now, most, n, m, h => by cases h; omega
  | o :: r, now, most, n, m, h => by
    rw [runK] at h
    by_cases hc : takesI o.how < 0 ∨ now < takesI o.how
    · rw [if_pos hc] at h; cases h
    · rw [if_neg hc] at h
      have := runK_len r h
      simp only [List.length_cons]
      omega
theorem depth_run {l : List Cop} (h : 0 ≤ depthI l) : runK l 0 0 = some (1, depthI l) ∧ 1 ≤ depthI l ∧ depthI l ≤ l.length := by
  unfold depthI at h ⊢
  rw [depthK_run] at h ⊢
  cases hr : runK l 0 0 with
  | none => rw [hr] at h; simp at h
  | some p =>
    obtain ⟨n, m⟩ := p
    rw [hr] at h
    dsimp only at h ⊢
    by_cases hn : n = 1
    · subst hn
      rw [if_pos rfl]
      have h1 := runK_le l hr (Int.le_refl _)
      have h2 := runK_len l hr
      exact ⟨rfl, h1.1, by omega⟩
    · rw [if_neg hn] at h; simp at h
theorem depth_neg {l : List Cop} (h : depthI l < 0) : depthI l = -1 := by
  unfold depthI at h ⊢
  rw [depthK_run] at h ⊢
  cases hr : runK l 0 0 with
  | none => rfl
  | some p =>
    obtain ⟨n, m⟩ := p
    rw [hr] at h
    dsimp only at h ⊢
    have h1 := runK_le l hr (Int.le_refl _)
    by_cases hn : n = 1
    · rw [if_pos hn] at h; omega
    · rw [if_neg hn]
end Go.Proofs.Ytmlfeocdcjhhaaa

namespace Go.Proofs.Ytmlfeocdcjhhaaa
set_option maxRecDepth 100000
open Go.RowKit
set_option linter.unusedVariables false
set_option linter.unusedSimpArgs false

/-! The plain meanings of chapter 13. -/
def numC (n : Int) : Cop := ⟨1, 0, n, [], 0⟩
def knownC : List Cop → Option Int
  | [o] => if o.how = 1 then some o.n else none
  | _ => none
def onlyC (l : List Cop) (n : Int) : Bool := knownC l == some n
def reachC (o : Cop) : Bool := o.how == 2 || o.how == 4
def harmC (l : List Cop) : Bool := totS l && !l.any reachC
def flatE (m : Mono) : Bool := m.E == [0, 0, 0, 0, 0, 0]
def valueC (o : Cop) : List Cop :=
  match o.p with
  | [] => [numC 0]
  | [m] => if flatE m then [numC m.n] else [o]
  | _ => [o]
def oneC (f : Int) (x : List Cop) : Option Int :=
  match knownC x with
  | some a => if (monadF f a).2 = 0 then some (monadF f a).1 else none
  | none => none
def monadC (x : List Cop) (o : Cop) : List Cop :=
  if o.fn = 1 ∨ o.fn = 6 ∨ o.fn = 7 then x
  else match oneC o.fn x with
    | some n => [numC n]
    | none => x ++ [o]
def twoC (f : Int) (x y : List Cop) : Option Int :=
  match knownC x with
  | some a => (match knownC y with
    | some b => if (dyadF f a b).2 = 0 then some (dyadF f a b).1 else none
    | none => none)
  | none => none
def ruleY (f : Int) (x : List Cop) : Bool := (f == 1 && onlyC x 0) || (f == 3 && onlyC x 1)
def ruleX (f : Int) (y : List Cop) : Bool := ((f == 1 || f == 2) && onlyC y 0) || ((f == 3 || f == 4 || f == 17) && onlyC y 1)
def ruleZ (f : Int) (x y : List Cop) : Bool := f == 3 && ((onlyC x 0 && harmC y) || (onlyC y 0 && harmC x))
def dyadC (x y : List Cop) (o : Cop) : List Cop :=
  match twoC o.fn x y with
  | some n => [numC n]
  | none => if ruleY o.fn x then y else if ruleX o.fn y then x else if ruleZ o.fn x y then [numC 0] else x ++ y ++ [o]
/-- the lists that were left, the top one behind; an operation more -/
def stepC (s : List (List Cop)) (o : Cop) : List (List Cop) :=
  if o.how = 2 then s ++ [valueC o]
  else if o.how = 4 then s.dropLast ++ [s.getLastD [] ++ [o]]
  else if o.how = 5 then s.dropLast ++ [monadC (s.getLastD []) o]
  else if o.how = 6 then s.dropLast.dropLast ++ [dyadC (s.dropLast.getLastD []) (s.getLastD []) o]
  else s ++ [[o]]
def stackC (l : List Cop) : List (List Cop) := l.foldl stepC []
def simpleC (l : List Cop) : List Cop := (stackC l).headD []
def wrongC (o : Cop) : Bool := if o.how = 5 then !takes o.fn false else if o.how = 6 then !takes o.fn true else if o.how = 2 then !polyB o.p else false
def fitC (l : List Cop) : Bool := decide (0 ≤ depthI l) && !l.any wrongC
def opsC (l : List Cop) : List Cop × Int := if fitC l then (simpleC l, 0) else ([], 130)
theorem stackC_snoc (l : List Cop) (o : Cop) : stackC (l ++ [o]) = stepC (stackC l) o := by simp [stackC, List.foldl_append]
/-- a step pushes one and takes as many as the operation takes -/
theorem stepC_push (s : List (List Cop)) (o : Cop) (h : takesI o.how = 0) : ∃ x, stepC s o = s ++ [x] ∧ x = (if o.how = 2 then valueC o else [o]) := by
  unfold stepC
  by_cases h2 : o.how = 2
  · rw [if_pos h2, if_pos h2]; exact ⟨_, rfl, rfl⟩
  have h3 : o.how = 1 ∨ o.how = 3 := by
    unfold takesI at h
    by_cases hh : o.how = 1 ∨ o.how = 2 ∨ o.how = 3
    · omega
    · rw [if_neg hh] at h
      split at h
      · omega
      · split at h <;> omega
  rw [if_neg h2, if_neg h2, if_neg (by omega), if_neg (by omega), if_neg (by omega)]
  exact ⟨_, rfl, rfl⟩
end Go.Proofs.Ytmlfeocdcjhhaaa

namespace Go.Proofs.Ytmlfeocdcjhhaaa
set_option maxRecDepth 100000
open Go.RowKit
set_option linter.unusedVariables false
set_option linter.unusedSimpArgs false

/-! Simplified lists: what they leave when they are simplified again; their length, depth, operations. -/
theorem last_snoc {α : Type} (st : List (List α)) (x : List α) : (st ++ [x]).getLastD [] = x := by simp
theorem drop_snoc {α : Type} (st : List (List α)) (x : List α) : (st ++ [x]).dropLast = st := by simp
theorem last_two {α : Type} (st : List (List α)) (x y : List α) : (st ++ [x, y]).getLastD [] = y := by
  rw [show st ++ [x, y] = (st ++ [x]) ++ [y] by simp, last_snoc]
theorem drop_two {α : Type} (st : List (List α)) (x y : List α) : (st ++ [x, y]).dropLast = st ++ [x] := by
  rw [show st ++ [x, y] = (st ++ [x]) ++ [y] by simp, drop_snoc]
theorem snoc_indC {α : Type} {p : List α → Prop} (h0 : p []) (h1 : ∀ l x, p l → p (l ++ [x])) : ∀ l, p l := by
  intro l
  have h : ∀ r : List α, p r.reverse := fun r => by
    induction r with
    | nil => exact h0
    | cons x r ih => rw [List.reverse_cons]; exact h1 _ _ ih
  have := h l.reverse
  rwa [List.reverse_reverse] at this
/-- simplified: it leaves itself -/
structure Sm (x : List Cop) : Prop where
  ne : 0 < x.length
  self : ∀ st, x.foldl stepC st = st ++ [x]
theorem step_load {o : Cop} (h : o.how = 4) (st : List (List Cop)) (x : List Cop) : stepC (st ++ [x]) o = st ++ [x ++ [o]] := by
  unfold stepC; rw [if_neg (by omega), if_pos h, last_snoc, drop_snoc]
theorem step_mon {o : Cop} (h : o.how = 5) (st : List (List Cop)) (x : List Cop) : stepC (st ++ [x]) o = st ++ [monadC x o] := by
  unfold stepC; rw [if_neg (by omega), if_neg (by omega), if_pos h, last_snoc, drop_snoc]
theorem step_dy {o : Cop} (h : o.how = 6) (st : List (List Cop)) (x y : List Cop) : stepC (st ++ [x, y]) o = st ++ [dyadC x y o] := by
  unfold stepC; rw [if_neg (by omega), if_neg (by omega), if_neg (by omega), if_pos h, last_two, drop_two, last_snoc, drop_snoc]
theorem step_val {o : Cop} (h : o.how = 2) (st : List (List Cop)) : stepC st o = st ++ [valueC o] := by
  unfold stepC; rw [if_pos h]
theorem step_else {o : Cop} (h2 : o.how ≠ 2) (h4 : o.how ≠ 4) (h5 : o.how ≠ 5) (h6 : o.how ≠ 6) (st : List (List Cop)) : stepC st o = st ++ [[o]] := by
  unfold stepC; rw [if_neg h2, if_neg h4, if_neg h5, if_neg h6]
theorem sm_num (n : Int) : Sm [numC n] := ⟨by simp, fun st => step_else (o := numC n) (show (1 : Int) ≠ 2 by decide) (show (1 : Int) ≠ 4 by decide) (show (1 : Int) ≠ 5 by decide) (show (1 : Int) ≠ 6 by decide) st⟩
theorem sm_else {o : Cop} (h2 : o.how ≠ 2) (h4 : o.how ≠ 4) (h5 : o.how ≠ 5) (h6 : o.how ≠ 6) : Sm [o] := ⟨by simp, fun st => step_else h2 h4 h5 h6 st⟩
theorem value_cases (o : Cop) : (∃ n, valueC o = [numC n]) ∨ valueC o = [o] := by
  unfold valueC
  split
  · exact .inl ⟨0, rfl⟩
  · split
    · exact .inl ⟨_, rfl⟩
    · exact .inr rfl
  · exact .inr rfl
theorem sm_val {o : Cop} (h : o.how = 2) : Sm (valueC o) := by
  rcases value_cases o with ⟨n, e⟩ | e
  · rw [e]; exact sm_num n
  · refine ⟨by rw [e]; simp, fun st => ?_⟩
    have := step_val h st
    rw [e] at this ⊢
    exact this
theorem sm_load {o : Cop} {x : List Cop} (hx : Sm x) (h : o.how = 4) : Sm (x ++ [o]) := ⟨by simp, fun st => by
  rw [List.foldl_append, hx.self]; exact step_load h st x⟩
theorem mon_cases (x : List Cop) (o : Cop) : monadC x o = x ∨ (∃ n, monadC x o = [numC n] ∧ (knownC x).isSome) ∨ monadC x o = x ++ [o] := by
  unfold monadC
  split
  · exact .inl rfl
  · unfold oneC
    cases hk : knownC x with
    | none => exact .inr (.inr rfl)
    | some a =>
      dsimp only
      split
      · rename_i n hn; exact .inr (.inl ⟨n, rfl, rfl⟩)
      · exact .inr (.inr rfl)
theorem sm_mon {o : Cop} {x : List Cop} (hx : Sm x) (h : o.how = 5) : Sm (monadC x o) := by
  rcases mon_cases x o with e | ⟨n, e, -⟩ | e
  · rw [e]; exact hx
  · rw [e]; exact sm_num n
  · refine ⟨by rw [e]; simp, fun st => ?_⟩
    have := step_mon h st x
    rw [e] at this ⊢
    rw [List.foldl_append, hx.self]
    exact this
theorem dy_cases (x y : List Cop) (o : Cop) : dyadC x y o = x ∨ dyadC x y o = y ∨ (∃ n, dyadC x y o = [numC n] ∧ ((knownC x).isSome ∨ (knownC y).isSome)) ∨ dyadC x y o = x ++ y ++ [o] := by
  unfold dyadC
  split
  · rename_i n hn
    refine .inr (.inr (.inl ⟨n, rfl, ?_⟩))
    unfold twoC at hn
    cases hk : knownC x with
    | none => rw [hk] at hn; cases hn
    | some a => exact .inl rfl
  · split
    · exact .inr (.inl rfl)
    · split
      · exact .inl rfl
      · split
        · rename_i hz
          refine .inr (.inr (.inl ⟨0, rfl, ?_⟩))
          unfold ruleZ onlyC at hz
          simp only [Bool.and_eq_true, Bool.or_eq_true, beq_iff_eq] at hz
          rcases hz.2 with h | h
          · left; rw [h.1]; rfl
          · right; rw [h.1]; rfl
        · exact .inr (.inr (.inr rfl))
theorem sm_dy {o : Cop} {x y : List Cop} (hx : Sm x) (hy : Sm y) (h : o.how = 6) : Sm (dyadC x y o) := by
  rcases dy_cases x y o with e | e | ⟨n, e, -⟩ | e
  · rw [e]; exact hx
  · rw [e]; exact hy
  · rw [e]; exact sm_num n
  · refine ⟨by rw [e]; simp; omega, fun st => ?_⟩
    have := step_dy h st x y
    rw [e] at this ⊢
    rw [List.foldl_append, List.foldl_append, hx.self, hy.self]
    simpa using this
/-- how deep a list is that leaves one -/
def Dp (x : List Cop) (d : Int) : Prop := runK x 0 0 = some (1, d) ∧ 1 ≤ d
theorem takes_one {h : Int} (h4 : h = 4 ∨ h = 5) : takesI h = 1 := by rcases h4 with rfl | rfl <;> rfl
theorem takes_two {h : Int} (h6 : h = 6) : takesI h = 2 := by subst h6; rfl
theorem dp_num (n : Int) : Dp [numC n] 1 := ⟨rfl, Int.le_refl _⟩
theorem dp_zero {o : Cop} (h : takesI o.how = 0) : Dp [o] 1 := by
  refine ⟨?_, Int.le_refl _⟩
  rw [runK, h, if_neg (by decide)]; rfl
theorem dp_one {o : Cop} {x : List Cop} {d : Int} (hx : Dp x d) (h : takesI o.how = 1) : Dp (x ++ [o]) d := by
  refine ⟨?_, hx.2⟩
  have := hx.2
  rw [runK_append, hx.1]
  show runK [o] 1 d = _
  rw [runK, h, if_neg (by decide), runK]
  congr 2; omega
theorem dp_two {o : Cop} {x y : List Cop} {d e : Int} (hx : Dp x d) (hy : Dp y e) (h : takesI o.how = 2) : Dp (x ++ y ++ [o]) (max d (e + 1)) := by
  have h1 := hx.2
  have h2 := hy.2
  refine ⟨?_, by omega⟩
  have hs := runK_shift y hy.1 1 d (by decide)
  rw [show max d (0 + 1) = d from by omega, show (0 : Int) + 1 = 1 from rfl, show (1 : Int) + 1 = 2 from rfl] at hs
  rw [runK_append, runK_append, hx.1]
  show ((runK y 1 d).bind fun p => runK [o] p.1 p.2) = _
  rw [hs]
  show runK [o] 2 (max d (e + 1)) = _
  rw [runK, h, if_neg (by decide), runK]
  congr 2; omega
/-- what lies on the stack behind some operations -/
structure StOk (l : List Cop) (s : List (List Cop)) (most : Int) : Prop where
  sm : ∀ x ∈ s, Sm x
  dp : ∀ (i : Nat) x, s[i]? = some x → ∃ d, Dp x d ∧ (i : Int) + d ≤ most
  few : (s.map List.length).sum ≤ l.length
  ops : ∀ x ∈ s, ∀ o ∈ x, o ∈ l ∨ ∃ n, o = numC n
theorem known_len {x : List Cop} (h : (knownC x).isSome = true) : x.length = 1 := by
  unfold knownC at h
  split at h
  · rfl
  · cases h
theorem get_snoc {α : Type} {st : List α} {x y : α} {i : Nat} (h : (st ++ [x])[i]? = some y) : st[i]? = some y ∨ (i = st.length ∧ y = x) := by
  rw [List.getElem?_append] at h
  split at h
  · exact .inl h
  · rename_i hi
    right
    have : i - st.length = 0 := by
      rcases Nat.eq_zero_or_pos (i - st.length) with h0 | h0
      · exact h0
      · rw [List.getElem?_eq_none (by simp; omega)] at h; cases h
    rw [this] at h
    simp at h
    exact ⟨by omega, h.symm⟩
/-- a list more on the stack -/
theorem StOk.push {l : List Cop} {st : List (List Cop)} {most m' : Int} {x : List Cop} {o : Cop} {d : Int} (hm : most ≤ m') (hd : Dp x d) (hdm : (st.length : Int) + d ≤ m') (hx : Sm x)
    (h1 : ∀ y ∈ st, Sm y) (h2 : ∀ (i : Nat) y, st[i]? = some y → ∃ d, Dp y d ∧ (i : Int) + d ≤ most) (h3 : (st.map List.length).sum + x.length ≤ l.length + 1)
    (h4 : ∀ y ∈ st, ∀ q ∈ y, q ∈ l ∨ ∃ n, q = numC n) (h5 : ∀ q ∈ x, q = o ∨ q ∈ l ∨ ∃ n, q = numC n) : StOk (l ++ [o]) (st ++ [x]) m' := by
  refine ⟨fun y hy => ?_, fun i y hy => ?_, by simp; omega, fun y hy q hq => ?_⟩
  · rcases List.mem_append.1 hy with h | h
    · exact h1 y h
    · rw [List.mem_singleton.1 h]; exact hx
  · rcases get_snoc hy with h | ⟨rfl, rfl⟩
    · obtain ⟨d, h6, h7⟩ := h2 i y h
      exact ⟨d, h6, by omega⟩
    · exact ⟨d, hd, hdm⟩
  · rcases List.mem_append.1 hy with h | h
    · rcases h4 y h q hq with h | h
      · exact .inl (by simp [h])
      · exact .inr h
    · rw [List.mem_singleton.1 h] at hq
      rcases h5 q hq with rfl | h | h
      · exact .inl (by simp)
      · exact .inl (by simp [h])
      · exact .inr h
theorem snoc_of_pos {α : Type} {s : List α} (h : 0 < s.length) : ∃ st x, s = st ++ [x] := ⟨s.dropLast, s.getLast (by intro e; rw [e] at h; simp at h), (List.dropLast_concat_getLast _).symm⟩
theorem stack_ok : ∀ l : List Cop, ∀ n m : Int, runK l 0 0 = some (n, m) → ((stackC l).length : Int) = n ∧ StOk l (stackC l) m := by
  intro l
  induction l using snoc_indC with
  | h0 =>
    intro n m h
    cases h
    exact ⟨rfl, ⟨(fun x hx => by cases hx), (fun i x h => by cases h), Nat.le_refl _, (fun x hx => by cases hx)⟩⟩
  | h1 l o ih =>
    intro n m h
    rw [runK_append] at h
    cases hr : runK l 0 0 with
    | none => rw [hr] at h; cases h
    | some p =>
      obtain ⟨n0, m0⟩ := p
      rw [hr] at h
      have h : runK [o] n0 m0 = some (n, m) := h
      obtain ⟨hl, hs⟩ := ih n0 m0 hr
      have hnm := runK_le l hr (Int.le_refl _)
      rw [stackC_snoc]
      generalize stackC l = s at hl hs
      rw [runK] at h
      by_cases hc : takesI o.how < 0 ∨ n0 < takesI o.how
      · rw [if_pos hc] at h; cases h
      rw [if_neg hc, runK] at h
      injection h with h
      injection h with hn hm
      subst hn hm
      by_cases h2 : o.how = 2
      · have ht : takesI o.how = 0 := by rw [h2]; rfl
        rw [step_val h2, ht]
        refine ⟨by simp; omega, ?_⟩
        rcases value_cases o with ⟨q, e⟩ | e
        · rw [e]
          exact StOk.push (by omega) (dp_num q) (by omega) (sm_num q) hs.sm hs.dp (by have := hs.few; simp; omega) hs.ops (fun x hx => .inr (.inr ⟨q, List.mem_singleton.1 hx⟩))
        · have hsm := sm_val h2
          rw [e] at hsm ⊢
          exact StOk.push (by omega) (dp_zero ht) (by omega) hsm hs.sm hs.dp (by have := hs.few; simp; omega) hs.ops (fun x hx => .inl (List.mem_singleton.1 hx))
      by_cases h4 : o.how = 4
      · have ht : takesI o.how = 1 := takes_one (.inl h4)
        rw [ht] at hc ⊢
        obtain ⟨st, x, rfl⟩ := snoc_of_pos (s := s) (by omega)
        rw [step_load h4]
        obtain ⟨d, hd, hdm⟩ := hs.dp st.length x (by simp)
        have hf := hs.few
        simp at hf hl
        refine ⟨by simp; omega, StOk.push (by omega) (dp_one hd ht) (by omega) (sm_load (hs.sm x (by simp)) h4) (fun y hy => hs.sm y (by simp [hy])) (fun i y hy => hs.dp i y (by rw [List.getElem?_append_left (List.getElem?_eq_some_iff.1 hy).1]; exact hy)) (by simp; omega) (fun y hy => hs.ops y (by simp [hy])) (fun q hq => ?_)⟩
        rcases List.mem_append.1 hq with h | h
        · exact .inr (hs.ops x (by simp) q h)
        · exact .inl (List.mem_singleton.1 h)
      by_cases h5 : o.how = 5
      · have ht : takesI o.how = 1 := takes_one (.inr h5)
        rw [ht] at hc ⊢
        obtain ⟨st, x, rfl⟩ := snoc_of_pos (s := s) (by omega)
        rw [step_mon h5]
        obtain ⟨d, hd, hdm⟩ := hs.dp st.length x (by simp)
        have hf := hs.few
        have hx1 := (hs.sm x (by simp)).ne
        simp at hf hl
        have hsm := sm_mon (hs.sm x (by simp)) h5
        have g1 : ∀ y ∈ st, Sm y := fun y hy => hs.sm y (by simp [hy])
        have g2 : ∀ (i : Nat) y, st[i]? = some y → ∃ d, Dp y d ∧ (i : Int) + d ≤ m0 := fun i y hy => hs.dp i y (by rw [List.getElem?_append_left (List.getElem?_eq_some_iff.1 hy).1]; exact hy)
        have g4 : ∀ y ∈ st, ∀ q ∈ y, q ∈ l ∨ ∃ n, q = numC n := fun y hy => hs.ops y (by simp [hy])
        have g5 := hs.ops x (by simp)
        refine ⟨by simp; omega, ?_⟩
        rcases mon_cases x o with e | ⟨q, e, hk⟩ | e
        · rw [e] at hsm ⊢
          exact StOk.push (by omega) hd (by omega) hsm g1 g2 (by omega) g4 (fun q hq => .inr (g5 q hq))
        · rw [e] at hsm ⊢
          exact StOk.push (by omega) (dp_num q) (by have := hd.2; omega) hsm g1 g2 (by simp; omega) g4 (fun x hx => .inr (.inr ⟨q, List.mem_singleton.1 hx⟩))
        · rw [e] at hsm ⊢
          exact StOk.push (by omega) (dp_one hd ht) (by omega) hsm g1 g2 (by simp; omega) g4 (fun q hq => (List.mem_append.1 hq).elim (fun h => .inr (g5 q h)) (fun h => .inl (List.mem_singleton.1 h)))
      by_cases h6 : o.how = 6
      · have ht : takesI o.how = 2 := takes_two h6
        rw [ht] at hc ⊢
        obtain ⟨s1, y, rfl⟩ := snoc_of_pos (s := s) (by omega)
        obtain ⟨st, x, rfl⟩ := snoc_of_pos (s := s1) (by simp at hl; omega)
        rw [List.append_assoc] at hs hl ⊢
        have hxy : (st ++ ([x] ++ [y])) = st ++ [x, y] := rfl
        rw [hxy] at hs hl ⊢
        rw [step_dy h6]
        obtain ⟨d, hd, hdm⟩ := hs.dp st.length x (by simp)
        obtain ⟨f, hf', hfm⟩ := hs.dp (st.length + 1) y (by simp)
        have hf := hs.few
        have hx1 := (hs.sm x (by simp)).ne
        have hy1 := (hs.sm y (by simp)).ne
        simp at hf hl
        have hsm := sm_dy (hs.sm x (by simp)) (hs.sm y (by simp)) h6
        have g1 : ∀ y ∈ st, Sm y := fun y hy => hs.sm y (by simp [hy])
        have g2 : ∀ (i : Nat) y, st[i]? = some y → ∃ d, Dp y d ∧ (i : Int) + d ≤ m0 := fun i y hy => hs.dp i y (by rw [List.getElem?_append_left (List.getElem?_eq_some_iff.1 hy).1]; exact hy)
        have g4 : ∀ y ∈ st, ∀ q ∈ y, q ∈ l ∨ ∃ n, q = numC n := fun y hy => hs.ops y (by simp [hy])
        have g5 := hs.ops x (by simp)
        have g6 := hs.ops y (by simp)
        have d2 := hd.2
        have f2 := hf'.2
        refine ⟨by simp; omega, ?_⟩
        rcases dy_cases x y o with e | e | ⟨q, e, hk⟩ | e
        · rw [e] at hsm ⊢
          exact StOk.push (by omega) hd (by omega) hsm g1 g2 (by omega) g4 (fun q hq => .inr (g5 q hq))
        · rw [e] at hsm ⊢
          exact StOk.push (by omega) hf' (by omega) hsm g1 g2 (by omega) g4 (fun q hq => .inr (g6 q hq))
        · rw [e] at hsm ⊢
          exact StOk.push (by omega) (dp_num q) (by omega) hsm g1 g2 (by simp; omega) g4 (fun x hx => .inr (.inr ⟨q, List.mem_singleton.1 hx⟩))
        · rw [e] at hsm ⊢
          refine StOk.push (by omega) (dp_two hd hf' ht) (by omega) hsm g1 g2 (by simp; omega) g4 (fun q hq => ?_)
          rcases List.mem_append.1 hq with h | h
          · rcases List.mem_append.1 h with h | h
            · exact .inr (g5 q h)
            · exact .inr (g6 q h)
          · exact .inl (List.mem_singleton.1 h)
      · have ht : takesI o.how = 0 := by
          unfold takesI at hc ⊢
          by_cases hh : o.how = 1 ∨ o.how = 2 ∨ o.how = 3
          · rw [if_pos hh]
          · rw [if_neg hh, if_neg (by omega), if_neg h6] at hc
            omega
        rw [step_else h2 h4 h5 h6, ht]
        refine ⟨by simp; omega, ?_⟩
        exact StOk.push (by omega) (dp_zero ht) (by omega) (sm_else h2 h4 h5 h6) hs.sm hs.dp (by have := hs.few; simp; omega) hs.ops (fun x hx => .inl (List.mem_singleton.1 hx))
theorem wrong_num (n : Int) : wrongC (numC n) = false := rfl
/-- what is simplified -/
theorem simple_facts {l : List Cop} (h : 0 ≤ depthI l) : stackC l = [simpleC l] ∧ (simpleC l).length ≤ l.length ∧ 1 ≤ depthI (simpleC l) ∧ depthI (simpleC l) ≤ depthI l ∧ simpleC (simpleC l) = simpleC l ∧
    ∀ o ∈ simpleC l, o ∈ l ∨ ∃ n, o = numC n := by
  obtain ⟨hr, h1, -⟩ := depth_run h
  obtain ⟨hl, hs⟩ := stack_ok l 1 _ hr
  obtain ⟨x, hx⟩ : ∃ x, stackC l = [x] := List.length_eq_one_iff.1 (by omega)
  have e : simpleC l = x := by unfold simpleC; rw [hx]; rfl
  rw [e]
  rw [hx] at hs
  obtain ⟨d, hd, hdm⟩ := hs.dp 0 x rfl
  have hdx : depthI x = d := by unfold depthI; rw [depthK_run, hd.1]; rfl
  have hf := hs.few
  simp at hf
  refine ⟨hx, hf, by rw [hdx]; exact hd.2, by rw [hdx]; simpa using hdm, ?_, hs.ops x (by simp)⟩
  unfold simpleC stackC
  rw [(hs.sm x (by simp)).self]
  rfl
theorem fit_simple {l : List Cop} (h : fitC l = true) : fitC (simpleC l) = true := by
  unfold fitC at h ⊢
  simp only [Bool.and_eq_true, decide_eq_true_eq, Bool.not_eq_true', List.any_eq_false] at h ⊢
  obtain ⟨-, -, h1, -, -, h5⟩ := simple_facts h.1
  refine ⟨by omega, fun o ho => ?_⟩
  rcases h5 o ho with h6 | ⟨n, rfl⟩
  · exact h.2 o h6
  · rw [wrong_num]; simp
end Go.Proofs.Ytmlfeocdcjhhaaa
