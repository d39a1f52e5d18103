import Derived.Test.YtokghjnkfabgiaaGreatDoorTA2
namespace Go.Proofs.YtokghjnkfabgiaaGreatDoor
set_option maxRecDepth 100000
set_option linter.unusedVariables false
set_option linter.unusedSimpArgs false

/-! Expressions: what is shown is read as the same. -/
/-- a language's words, the verbs' spelling -/
structure Spl where
  V : Voc
  wtwo : Int → Str
  wone : Int → Str
  /-- a word's or a sign's kind: 1 or 3 -/
  kind : Str → Int
  kinds : ∀ s, kind s = 1 ∨ kind s = 3
  two : ∀ s, V.two s ≠ 0 → V.two (wtwo (V.two s)) = V.two s
  one : ∀ s, V.one s ≠ 0 → V.one (wone (V.one s)) = V.one s
  verb47 : V.verb [47] = false
  verb92 : V.verb [92] = false
  verb46 : V.verb [46] = false
  verb40 : V.verb [40] = false
  verb41 : V.verb [41] = false
  nverb : ∀ s, V.name s = true → V.verb s = false
  two0 : V.two [] = 0
  one0 : V.one [] = 0
section
variable (L : Spl)
def Spl.tok (s : Str) : Tk := ⟨L.kind s, s, 0⟩
def numT (n : Int) : Tk := ⟨2, [], n⟩
def nameT (s : Str) : Tk := ⟨1, s, 0⟩
def Spl.vtok (i : Itm) : List Tk :=
  if i.how = 3 then [L.tok (L.wone i.fn)]
  else if i.how = 4 then [L.tok (L.wtwo i.fn)]
  else [L.tok (L.wtwo i.fn), signT (if i.how = 5 then 47 else if i.how = 6 then 92 else 46)]
def Spl.etok : Ex → List Tk
  | .num l => l.map numT
  | .nam s => [nameT s]
  | .mon i e => L.vtok i ++ Spl.etok e
  | .dy i a b => (if a.plain then Spl.etok a else signT 40 :: (Spl.etok a ++ [signT 41])) ++ (L.vtok i ++ Spl.etok b)
end
variable {L : Spl}
theorem vtok_len {i : Itm} : (L.vtok i).length = vlen i := by
  unfold Spl.vtok vlen
  by_cases h3 : i.how = 3
  · rw [if_pos h3, if_pos (.inl h3)]; rfl
  rw [if_neg h3]
  by_cases h4 : i.how = 4
  · rw [if_pos h4, if_pos (.inr h4)]; rfl
  rw [if_neg h4, if_neg (show ¬ (i.how = 3 ∨ i.how = 4) from fun h => h.elim h3 h4)]
  rfl
theorem etok_len : ∀ e : Ex, (L.etok e).length = e.len
  | .num l => by simp [Spl.etok, Ex.len]
  | .nam s => rfl
  | .mon i e => by rw [Spl.etok, List.length_append, vtok_len, etok_len e]; rfl
  | .dy i a b => by
    rw [Spl.etok, List.length_append, List.length_append, vtok_len, etok_len b]
    simp only [Ex.len]
    split
    · rw [etok_len a]; omega
    · simp only [List.length_cons, List.length_append, List.length_nil, etok_len a]; omega
/-! fuel -/
theorem want_congr {V : Voc} {K K' : Bool → PS → Option (List Itm)} {t : Tk} {r : List Tk} {out : List Itm} {todo : List (Option Itm)} {k : Nat} (h : ∀ b (s : PS), s.rest.length ≤ r.length → K b s = K' b s) : wantQ V K t ⟨t :: r, out, todo, k⟩ = wantQ V K' t ⟨t :: r, out, todo, k⟩ := by
  unfold wantQ
  by_cases hv : t.kind ≠ 2 ∧ t.kind ≠ 4 ∧ V.verb t.word = true
  · rw [if_pos hv, if_pos hv]
    cases hp : phraseP V false (t :: r) with
    | none => rfl
    | some p =>
      have := (phrase_facts (i := p.1) (r' := p.2) hp).2.1
      refine h _ _ ?_
      have h1 : 1 ≤ vlen p.1 := by unfold vlen; split <;> omega
      simp only [List.length_cons] at this
      dsimp only
      omega
  rw [if_neg hv, if_neg hv]
  by_cases hs : isSign t 40 = true
  · rw [if_pos hs, if_pos hs, h _ _ (Nat.le_refl _)]
  rw [if_neg hs, if_neg hs]
  by_cases hk : t.kind = 2
  · rw [if_pos hk, if_pos hk]
    refine h _ _ ?_
    have := (nums_facts (t :: r)).1
    have h1 : 1 ≤ (numsP (t :: r)).1.length := by rw [numsP, if_pos hk]; simp
    simp only [List.length_cons] at this
    dsimp only
    omega
  rw [if_neg hk, if_neg hk]
  by_cases hn : t.kind = 1 ∧ V.name t.word = true
  · rw [if_pos hn, if_pos hn, h _ _ (Nat.le_refl _)]
  rw [if_neg hn, if_neg hn]
theorem beh_congr {V : Voc} {K K' : Bool → PS → Option (List Itm)} {s : PS} (h : ∀ b (s' : PS), s'.rest.length + 1 ≤ s.rest.length → K b s' = K' b s') : behQ V K (headT s.rest) s = behQ V K' (headT s.rest) s := by
  obtain ⟨rest, out, todo, k⟩ := s
  cases rest with
  | nil => rfl
  | cons t r =>
    show behQ V K t _ = behQ V K' t _
    unfold behQ
    by_cases h4 : t.kind = 4
    · rw [if_pos h4, if_pos h4]
    rw [if_neg h4, if_neg h4]
    by_cases hv : t.kind = 2 ∨ V.verb t.word = false
    · rw [if_pos hv, if_pos hv]
    rw [if_neg hv, if_neg hv]
    cases hp : phraseP V true (t :: r) with
    | none => rfl
    | some p =>
      have := (phrase_facts (i := p.1) (r' := p.2) hp).2.1
      refine h _ _ ?_
      have h1 : 1 ≤ vlen p.1 := by unfold vlen; split <;> omega
      simp only [List.length_cons] at this ⊢
      omega
theorem fuel_any {V : Voc} : ∀ (f g : Nat) (b : Bool) (s : PS), s.rest.length < f → s.rest.length < g → exprK V f b s = exprK V g b s
  | 0, g, b, s, h, _ => absurd h (Nat.not_lt_zero _)
  | f + 1, 0, b, s, _, h => absurd h (Nat.not_lt_zero _)
  | f + 1, g + 1, true, s, hf, hg => by
    rw [exprK, exprK]
    obtain ⟨rest, out, todo, k⟩ := s
    cases rest with
    | nil => simp [wantQ, headT, lineT, isSign]
    | cons t r =>
      simp only [List.length_cons] at hf hg
      exact want_congr fun b s h => fuel_any f g b s (by omega) (by omega)
  | f + 1, g + 1, false, s, hf, hg => by
    rw [exprK, exprK]
    have := close_rest s.rest s.out s.todo s.opn
    exact beh_congr fun b s' h => fuel_any f g b s' (by omega) (by omega)
theorem fuel_more {V : Voc} : ∀ (f : Nat) (b : Bool) (s : PS) (l : List Itm), exprK V f b s = some l → exprK V (f + 1) b s = some l
  | 0, b, s, l, h => by cases h
  | f + 1, true, s, l, h => by
    rw [exprK] at h ⊢
    unfold wantQ at h ⊢
    by_cases hv : (headT s.rest).kind ≠ 2 ∧ (headT s.rest).kind ≠ 4 ∧ V.verb (headT s.rest).word = true
    · rw [if_pos hv] at h ⊢
      cases hp : phraseP V false s.rest with
      | none => rw [hp] at h; cases h
      | some p => rw [hp] at h; exact fuel_more f _ _ _ h
    rw [if_neg hv] at h ⊢
    by_cases hs : isSign (headT s.rest) 40 = true
    · rw [if_pos hs] at h ⊢
      by_cases h32 : s.opn = 32
      · rw [if_pos h32] at h; cases h
      rw [if_neg h32] at h ⊢
      exact fuel_more f _ _ _ h
    rw [if_neg hs] at h ⊢
    by_cases hk : (headT s.rest).kind = 2
    · rw [if_pos hk] at h ⊢
      exact fuel_more f _ _ _ h
    rw [if_neg hk] at h ⊢
    by_cases hn : (headT s.rest).kind = 1 ∧ V.name (headT s.rest).word = true
    · rw [if_pos hn] at h ⊢
      exact fuel_more f _ _ _ h
    rw [if_neg hn] at h
    cases h
  | f + 1, false, s, l, h => by
    rw [exprK] at h ⊢
    obtain ⟨s', hs'⟩ : ∃ s', closeP s.rest s.out s.todo s.opn = s' := ⟨_, rfl⟩
    rw [hs'] at h ⊢
    unfold behQ at h ⊢
    by_cases h4 : (headT s'.rest).kind = 4
    · rw [if_pos h4] at h ⊢; exact h
    rw [if_neg h4] at h ⊢
    by_cases hv : (headT s'.rest).kind = 2 ∨ V.verb (headT s'.rest).word = false
    · rw [if_pos hv] at h; cases h
    rw [if_neg hv] at h ⊢
    cases hp : phraseP V true s'.rest with
    | none => rw [hp] at h; cases h
    | some p => rw [hp] at h; exact fuel_more f _ _ _ h
theorem fuel_le {V : Voc} {f : Nat} {b : Bool} {s : PS} {l : List Itm} (h : exprK V f b s = some l) : ∀ k, exprK V (f + k) b s = some l
  | 0 => h
  | k + 1 => fuel_more _ _ _ _ (fuel_le h k)
/-- an expression, read whole -/
def exprP (V : Voc) (r : List Tk) : Option (List Itm) := exprK V (r.length + 1) true ⟨r, [], [], 0⟩
theorem expr_of {V : Voc} {g : Nat} {r : List Tk} {l : List Itm} (h : exprK V g true ⟨r, [], [], 0⟩ = some l) : exprP V r = some l := by
  have h1 := fuel_le h (r.length + 1)
  unfold exprP
  rw [← h1]
  exact fuel_any _ _ _ _ (Nat.lt_succ_self _) (by show r.length < g + (r.length + 1); omega)
/-! the tree's way through the reader -/
def spine : Ex → List Itm × List (Option Itm)
  | .mon i e => ((spine e).1, (spine e).2 ++ [some i])
  | .dy i a b => (a.post ++ (spine b).1, (spine b).2 ++ [some i])
  | e => (e.post, [])
theorem spine_finish : ∀ (e : Ex) (out : List Itm) (todo : List (Option Itm)), finishP (out ++ (spine e).1) ((spine e).2 ++ todo) = finishP (out ++ e.post) todo
  | .num l, out, todo => rfl
  | .nam s, out, todo => rfl
  | .mon i e, out, todo => by
    simp only [spine, List.append_assoc]
    rw [spine_finish e out, Ex.post]
    show finishP (out ++ e.post ++ [i]) todo = _
    rw [List.append_assoc]
  | .dy i a b, out, todo => by
    simp only [spine, List.append_assoc]
    rw [← List.append_assoc, spine_finish b (out ++ a.post), Ex.post]
    show finishP (out ++ a.post ++ b.post ++ [i]) todo = _
    simp only [List.append_assoc]
theorem finish_none (out : List Itm) (todo : List (Option Itm)) : finishP out (none :: todo) = (out, none :: todo) := rfl
theorem spine_plain {e : Ex} (h : e.plain = true) : spine e = (e.post, []) := by cases e <;> first | rfl | cases h
end Go.Proofs.YtokghjnkfabgiaaGreatDoor

namespace Go.Proofs.YtokghjnkfabgiaaGreatDoor
set_option maxRecDepth 100000
set_option linter.unusedVariables false
set_option linter.unusedSimpArgs false

/-! Expressions: what is shown is read as the same, second part. -/
variable {L : Spl}
/-- no sign that makes a verb more -/
def NoOp (t : Tk) : Prop := ¬ (t.kind = 3 ∧ (t.word = [47] ∨ t.word = [92] ∨ t.word = [46]))
theorem kind_verb {s : Str} : (L.tok s).kind ≠ 2 ∧ (L.tok s).kind ≠ 4 := by
  rcases L.kinds s with h | h <;> (unfold Spl.tok; dsimp only; rw [h]; decide)
theorem verb_two {s : Str} (h : L.V.two s ≠ 0) : L.V.verb s = true := by unfold Voc.verb; simp [h]
theorem verb_one {s : Str} (h : L.V.one s ≠ 0) : L.V.verb s = true := by unfold Voc.verb; simp [h]
theorem verb_noop {s : Str} (h : L.V.verb s = true) : NoOp (L.tok s) := fun ⟨_, h2⟩ => by
  rcases h2 with e | e | e
  · have := L.verb47; rw [← e] at this; exact absurd (h.symm.trans this) (by decide)
  · have := L.verb92; rw [← e] at this; exact absurd (h.symm.trans this) (by decide)
  · have := L.verb46; rw [← e] at this; exact absurd (h.symm.trans this) (by decide)
/-- a verb's tokens: the word is a verb -/
theorem vtok_head {two : Bool} {i : Itm} (h : VI L.V two i) : ∃ s q, L.vtok i = L.tok s :: q ∧ L.V.verb s = true := by
  obtain ⟨-, -, s, h⟩ := h
  unfold Spl.vtok
  rcases h with ⟨h1, -, h3, h4⟩ | ⟨h1, -, h3, h4⟩ | ⟨h1, -, h3, h4, -⟩ | ⟨h1, -, h3, h4, -⟩
  · rw [if_pos h1]
    exact ⟨_, _, rfl, verb_one (by rw [← h3, L.one s (by rw [h3]; exact h4), h3]; exact h4)⟩
  · rw [if_neg (by omega), if_pos h1]
    exact ⟨_, _, rfl, verb_two (by rw [← h3, L.two s (by rw [h3]; exact h4), h3]; exact h4)⟩
  · rw [if_neg (by omega), if_neg (by omega)]
    exact ⟨_, _, rfl, verb_two (by rw [← h3, L.two s (by rw [h3]; exact h4), h3]; exact h4)⟩
  · rw [if_neg (by omega), if_neg (by omega)]
    exact ⟨_, _, rfl, verb_two (by rw [← h3, L.two s (by rw [h3]; exact h4), h3]; exact h4)⟩
theorem ex_head {P : Int → Prop} {e : Ex} (h : e.fine L.V P) : ∃ t q, L.etok e = t :: q ∧ NoOp t := by
  cases e with
  | num l =>
    cases l with
    | nil => exact absurd rfl h.1
    | cons n l => exact ⟨numT n, l.map numT, rfl, fun ⟨h, _⟩ => absurd h (show ¬ (2 : Int) = 3 by decide)⟩
  | nam s => exact ⟨nameT s, [], rfl, fun ⟨h, _⟩ => absurd h (show ¬ (1 : Int) = 3 by decide)⟩
  | mon i e =>
    obtain ⟨s, q, h1, h2⟩ := vtok_head h.1
    exact ⟨_, q ++ L.etok e, by rw [Spl.etok, h1]; rfl, verb_noop h2⟩
  | dy i a b =>
    have ih := ex_head (e := a) h.2.1
    obtain ⟨t, q, h1, h2⟩ := ih
    by_cases hp : a.plain = true
    · exact ⟨t, _, by rw [Spl.etok, if_pos hp, h1]; rfl, h2⟩
    · exact ⟨signT 40, _, by rw [Spl.etok, if_neg hp]; rfl, fun ⟨_, h⟩ => absurd h (by decide)⟩
/-- a phrase, read -/
theorem phrase_read {two : Bool} {i : Itm} (h : VI L.V two i) {t : Tk} {r : List Tk} (ht : NoOp t) : phraseP L.V two (L.vtok i ++ t :: r) = some (i, t :: r) := by
  obtain ⟨hn, hl, s, h⟩ := h
  obtain ⟨how, fn, name, nums⟩ := i
  dsimp only at hn hl h
  subst hn hl
  rcases h with ⟨h1, h2, h3, h4⟩ | ⟨h1, h2, h3, h4⟩ | ⟨h1, h2, h3, h4, h5⟩ | ⟨h1, h2, h3, h4, h5⟩
  · subst h1 h2
    have hw : L.V.one (L.wone fn) = fn := by rw [← h3]; exact L.one s (by rw [h3]; exact h4)
    show phraseQ L.V false (L.tok (L.wone fn)) t (t :: r) r = _
    unfold phraseQ
    rw [if_neg ht]
    simp [Spl.tok, hw, h4]
  · subst h1 h2
    have hw : L.V.two (L.wtwo fn) = fn := by rw [← h3]; exact L.two s (by rw [h3]; exact h4)
    show phraseQ L.V true (L.tok (L.wtwo fn)) t (t :: r) r = _
    unfold phraseQ
    rw [if_neg ht]
    simp [Spl.tok, hw, h4]
  · subst h2
    have hw : L.V.two (L.wtwo fn) = fn := by rw [← h3]; exact L.two s (by rw [h3]; exact h4)
    rcases h1 with rfl | rfl
    · show phraseQ L.V false (L.tok (L.wtwo fn)) (signT 47) (signT 47 :: t :: r) (t :: r) = _
      unfold phraseQ
      rw [if_pos ⟨rfl, .inl rfl⟩]
      simp only [Spl.tok, hw]
      rw [if_neg (by rintro (h | h); omega; exact absurd h (by decide)), if_neg h4]
      rfl
    · show phraseQ L.V false (L.tok (L.wtwo fn)) (signT 92) (signT 92 :: t :: r) (t :: r) = _
      unfold phraseQ
      rw [if_pos ⟨rfl, .inr (.inl rfl)⟩]
      simp only [Spl.tok, hw]
      rw [if_neg (by rintro (h | h); omega; exact absurd h (by decide)), if_neg h4]
      rfl
  · subst h1 h2
    have hw : L.V.two (L.wtwo fn) = fn := by rw [← h3]; exact L.two s (by rw [h3]; exact h4)
    show phraseQ L.V true (L.tok (L.wtwo fn)) (signT 46) (signT 46 :: t :: r) (t :: r) = _
    unfold phraseQ
    rw [if_pos ⟨rfl, .inr (.inr rfl)⟩]
    simp only [Spl.tok, hw]
    rw [if_neg (by rintro (h | h); omega; exact absurd h (by decide)), if_neg h4]
    rfl
theorem nums_read {r : List Tk} (hr : (headT r).kind ≠ 2) : ∀ l : List Int, numsP (l.map numT ++ r) = (l, r)
  | [] => by
    cases r with
    | nil => rfl
    | cons t r => show numsP (t :: r) = _; rw [numsP, if_neg (show ¬ t.kind = 2 from hr)]
  | n :: l => by
    show numsP (numT n :: (l.map numT ++ r)) = _
    rw [numsP, if_pos (show (numT n).kind = 2 from rfl), nums_read hr l]
    rfl
theorem close_no {r : List Tk} {out : List Itm} {todo : List (Option Itm)} {k : Nat} (h : isSign (headT r) 41 = false) : closeP r out todo k = ⟨r, out, todo, k⟩ := by
  cases r with
  | nil => cases k <;> rfl
  | cons t r =>
    cases k with
    | zero => rfl
    | succ k =>
      rw [closeP, if_neg (by rw [show isSign t 41 = false from h]; decide)]
theorem sign_no {s : Str} (h : L.V.verb s = true) (b : UInt8) (hb : L.V.verb [b] = false) : isSign (L.tok s) b = false := by
  unfold isSign
  have : ¬ s = [b] := fun e => by rw [e] at h; rw [h] at hb; cases hb
  simp [Spl.tok, this]
theorem read_ex {P : Int → Prop} : ∀ (e : Ex) (r : List Tk) (out : List Itm) (todo : List (Option Itm)) (k f : Nat) (l : List Itm), e.fine L.V P → e.nest + k ≤ 32 → (headT r).kind ≠ 2 →
    exprK L.V f false ⟨r, out ++ (spine e).1, (spine e).2 ++ todo, k⟩ = some l → ∃ g, exprK L.V g true ⟨L.etok e ++ r, out, todo, k⟩ = some l
  | .num ns, r, out, todo, k, f, l, he, hn, hr, h => by
    refine ⟨f + 1, ?_⟩
    obtain ⟨n, ns, rfl⟩ : ∃ n ns', ns = n :: ns' := by
      cases ns with
      | nil => exact absurd rfl he.1
      | cons n ns => exact ⟨n, ns, rfl⟩
    rw [exprK]
    show wantQ L.V _ (numT n) _ = _
    unfold wantQ
    rw [if_neg (fun h => h.1 rfl), if_neg (show ¬ isSign (numT n) 40 = true by simp [isSign, numT]), if_pos (show (numT n).kind = 2 from rfl)]
    dsimp only
    rw [Spl.etok, nums_read hr (n :: ns)]
    exact h
  | .nam s, r, out, todo, k, f, l, he, hn, hr, h => by
    refine ⟨f + 1, ?_⟩
    rw [exprK]
    show wantQ L.V _ (nameT s) _ = _
    unfold wantQ
    have hv : L.V.verb s = false := L.nverb s he
    rw [if_neg (fun h => by have := h.2.2; rw [show (nameT s).word = s from rfl, hv] at this; cases this), if_neg (by simp [isSign, nameT]), if_neg (show ¬ (nameT s).kind = 2 from (show ¬ (1 : Int) = 2 by decide)), if_pos (show (nameT s).kind = 1 ∧ L.V.name (nameT s).word = true from ⟨rfl, he⟩)]
    exact h
  | .mon i e, r, out, todo, k, f, l, he, hn, hr, h => by
    obtain ⟨t, q, hq, hno⟩ := ex_head he.2
    obtain ⟨s, q2, hs, hv⟩ := vtok_head he.1
    have h2 : exprK L.V f false ⟨r, out ++ (spine e).1, (spine e).2 ++ (some i :: todo), k⟩ = some l := by
      have := h
      simp only [spine, List.append_assoc] at this
      exact this
    obtain ⟨g, hg⟩ := read_ex e r out (some i :: todo) k f l he.2 hn hr h2
    refine ⟨g + 1, ?_⟩
    rw [exprK, Spl.etok, List.append_assoc]
    have hhd : headT (L.vtok i ++ (L.etok e ++ r)) = L.tok s := by rw [hs]; rfl
    dsimp only
    rw [hhd]
    unfold wantQ
    rw [if_pos ⟨(kind_verb).1, (kind_verb).2, hv⟩]
    dsimp only
    rw [hq]
    show (phraseP L.V false (L.vtok i ++ t :: (q ++ r))).bind _ = _
    rw [phrase_read he.1 hno]
    show exprK L.V g true ⟨t :: (q ++ r), out, some i :: todo, k⟩ = some l
    rw [hq] at hg
    exact hg
  | .dy i a b, r, out, todo, k, f, l, he, hn, hr, h => by
    obtain ⟨hvi, hfa, hfb⟩ := he
    obtain ⟨t, q, hq, hno⟩ := ex_head hfb
    obtain ⟨s, q2, hs, hv⟩ := vtok_head hvi
    simp only [Ex.nest] at hn
    have h2 : exprK L.V f false ⟨r, (out ++ a.post) ++ (spine b).1, (spine b).2 ++ (some i :: todo), k⟩ = some l := by
      have := h
      simp only [spine, List.append_assoc] at this ⊢
      exact this
    obtain ⟨g, hg⟩ := read_ex b r (out ++ a.post) (some i :: todo) k f l hfb (by omega) hr h2
    -- behind the left operand
    have hbe : exprK L.V (g + 1) false ⟨L.vtok i ++ (L.etok b ++ r), out ++ a.post, todo, k⟩ = some l := by
      have hhd : headT (L.vtok i ++ (L.etok b ++ r)) = L.tok s := by rw [hs]; rfl
      rw [exprK]
      dsimp only
      rw [close_no (by rw [hhd]; exact sign_no hv 41 L.verb41)]
      dsimp only
      rw [hhd]
      unfold behQ
      rw [if_neg (kind_verb).2, if_neg (by rintro (h | h); exact (kind_verb).1 h; rw [show (L.tok s).word = s from rfl, hv] at h; cases h)]
      dsimp only
      rw [hq]
      show (phraseP L.V true (L.vtok i ++ t :: (q ++ r))).bind _ = _
      rw [phrase_read hvi hno]
      show exprK L.V g true ⟨t :: (q ++ r), out ++ a.post, some i :: todo, k⟩ = some l
      rw [hq] at hg
      exact hg
    have hk2 : (headT (L.vtok i ++ (L.etok b ++ r))).kind ≠ 2 := by rw [hs]; exact (kind_verb).1
    by_cases hp : a.plain = true
    · rw [Spl.etok, if_pos hp, List.append_assoc, List.append_assoc]
      refine read_ex a _ out todo k (g + 1) l hfa (by rw [if_pos hp] at hn; omega) hk2 ?_
      rw [spine_plain hp]
      exact hbe
    · rw [if_neg hp] at hn
      have hk : k + 1 ≤ 32 := by omega
      have h3 : exprK L.V (g + 1) false ⟨signT 41 :: (L.vtok i ++ (L.etok b ++ r)), out ++ (spine a).1, (spine a).2 ++ (none :: todo), k + 1⟩ = some l := by
        rw [exprK] at hbe ⊢
        dsimp only at hbe ⊢
        have hcl : closeP (signT 41 :: (L.vtok i ++ (L.etok b ++ r))) (out ++ (spine a).1) ((spine a).2 ++ (none :: todo)) (k + 1) = closeP (L.vtok i ++ (L.etok b ++ r)) (out ++ a.post) todo k := by
          rw [closeP, if_pos (by decide), spine_finish a out (none :: todo), finish_none]
          rfl
        rw [hcl]
        exact hbe
      obtain ⟨g2, hg2⟩ := read_ex a (signT 41 :: (L.vtok i ++ (L.etok b ++ r))) out (none :: todo) (k + 1) (g + 1) l hfa (by omega) (show ¬ (3 : Int) = 2 by decide) h3
      refine ⟨g2 + 1, ?_⟩
      rw [exprK, Spl.etok, if_neg hp]
      show wantQ L.V _ (signT 40) _ = _
      unfold wantQ
      rw [if_neg (fun h => by have := h.2.2; rw [show (signT 40).word = [40] from rfl, L.verb40] at this; cases this), if_pos (by decide)]
      dsimp only
      rw [if_neg (by omega)]
      show exprK L.V g2 true ⟨(L.etok a ++ [signT 41]) ++ (L.vtok i ++ L.etok b) ++ r, out, none :: todo, k + 1⟩ = some l
      have : (L.etok a ++ [signT 41]) ++ (L.vtok i ++ L.etok b) ++ r = L.etok a ++ signT 41 :: (L.vtok i ++ (L.etok b ++ r)) := by simp
      rw [this]
      exact hg2
/-- what is shown is read as the same -/
theorem expr_read {P : Int → Prop} {e : Ex} (he : e.fine L.V P) (hn : e.nest ≤ 32) : exprP L.V (L.etok e) = some e.post := by
  have h0 : exprK L.V 1 false ⟨[], [] ++ (spine e).1, (spine e).2 ++ [], 0⟩ = some e.post := by
    rw [exprK]
    show behQ L.V _ lineT ⟨[], [] ++ (spine e).1, (spine e).2 ++ [], 0⟩ = _
    unfold behQ
    rw [if_pos (show lineT.kind = 4 from rfl), if_neg (Nat.lt_irrefl 0)]
    dsimp only
    rw [spine_finish e [] []]
    rfl
  obtain ⟨g, hg⟩ := read_ex e [] [] [] 0 1 e.post he hn (show ¬ (4 : Int) = 2 by decide) h0
  rw [List.append_nil] at hg
  exact expr_of hg
/-- what is read is a tree's: not longer, nor deeper -/
theorem expr_tree {V : Voc} {P : Int → Prop} {r : List Tk} {l : List Itm} (h : exprP V r = some l) (hn : ∀ t ∈ r, t.kind = 2 → P t.n) : ∃ e : Ex, l = e.post ∧ e.fine V P ∧ e.len ≤ r.length ∧ e.nest ≤ 32 :=
  (expr_sound (N := r.length) _ _ _).1 [] ⟨rfl, rfl, rfl, by decide, trivial, by simp [lenF], hn⟩ h
end Go.Proofs.YtokghjnkfabgiaaGreatDoor
