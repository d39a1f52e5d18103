import Derived.Test.YtokghjnkfabgiaaGreatDoorTA3
namespace Go.Proofs.YtokghjnkfabgiaaGreatDoor
set_option maxRecDepth 100000
open Go.Lib
set_option linter.unusedVariables false
set_option linter.unusedSimpArgs false

/-! Texts, cut into tokens: plain. -/
def isBlank (b : UInt8) : Bool := b == 32 || b == 9
def isLetter (b : UInt8) : Bool := (decide (97 ≤ b.toNat) && decide (b.toNat ≤ 122)) || (decide (65 ≤ b.toNat) && decide (b.toNat ≤ 90))
def isDigit (b : UInt8) : Bool := decide (48 ≤ b.toNat) && decide (b.toNat ≤ 57)
def isNameB (b : UInt8) : Bool := isLetter b || isDigit b
def spanN (p : UInt8 → Bool) : Str → Nat
  | [] => 0
  | b :: r => if p b = true then spanN p r + 1 else 0
def isSignB (b : UInt8) : Bool := [43, 45, 42, 37, 124, 61, 126, 60, 62, 47, 92, 46, 58, 40, 41].contains b
def decV (l : Str) : Nat := (decFrom 0 l).getD 0
def in64B (v : Int) : Bool := decide (-9223372036854775808 ≤ v) && decide (v ≤ 9223372036854775807)
/-- the sign ahead -/
def signQ (b : UInt8) (r : Str) : Option (Tk × Nat) :=
  if (b = 60 ∨ b = 62) ∧ r.head? = some 61 then some (⟨3, [b, 61], 0⟩, 2) else if isSignB b = true then some (⟨3, [b], 0⟩, 1) else none
/-- the token ahead, and how long it is; none: a fault -/
def tokQ : Str → Option (Tk × Nat)
  | [] => none
  | b :: r =>
    if b = 10 then some (lineT, 1)
    else if isLetter b = true then (if 16 < spanN isNameB (b :: r) then none else some (⟨1, (b :: r).take (spanN isNameB (b :: r)), 0⟩, spanN isNameB (b :: r)))
    else if b = 95 then
      if spanN isDigit r = 0 then signQ b r
      else if in64B (-(decV (r.take (spanN isDigit r)) : Int)) = true then some (⟨2, [], -(decV (r.take (spanN isDigit r)) : Int)⟩, spanN isDigit r + 1) else none
    else if spanN isDigit (b :: r) = 0 then signQ b r
    else if in64B (decV ((b :: r).take (spanN isDigit (b :: r))) : Int) = true then some (⟨2, [], (decV ((b :: r).take (spanN isDigit (b :: r))) : Int)⟩, spanN isDigit (b :: r)) else none
/-- all tokens, with their places -/
def lexK : Nat → Str → Nat → Option (List (Tk × Nat))
  | 0, _, _ => some []
  | _ + 1, [], _ => some []
  | f + 1, b :: r, a =>
    if isBlank b = true then lexK f r (a + 1)
    else if b = 35 then lexK f ((b :: r).drop (spanN (fun c => c != 10) (b :: r))) (a + spanN (fun c => c != 10) (b :: r))
    else (tokQ (b :: r)).bind fun p => (lexK f ((b :: r).drop p.2) (a + p.2)).map fun l => (p.1, a) :: l
def lexF (s : Str) (a : Nat) : Option (List (Tk × Nat)) := lexK s.length s a
def lexP (s : Str) : Option (List (Tk × Nat)) := if 65536 < s.length then none else lexF s 0
/-! spans -/
theorem span_le (p : UInt8 → Bool) : ∀ s : Str, spanN p s ≤ s.length
  | [] => Nat.le_refl _
  | b :: r => by rw [spanN]; have := span_le p r; split <;> simp <;> omega
theorem span_all {p : UInt8 → Bool} : ∀ (w r : Str), (∀ b ∈ w, p b = true) → (∀ b, r.head? = some b → p b = false) → spanN p (w ++ r) = w.length
  | [], [], _, _ => rfl
  | [], b :: r, _, h => by
    show spanN p (b :: r) = 0
    rw [spanN, if_neg (by rw [h b rfl]; decide)]
  | b :: w, r, hw, h => by
    show spanN p (b :: (w ++ r)) = _
    rw [spanN, if_pos (hw b List.mem_cons_self), span_all w r (fun c hc => hw c (List.mem_cons_of_mem _ hc)) h]
    rfl
theorem span_take {p : UInt8 → Bool} : ∀ (s : Str), ∀ b ∈ s.take (spanN p s), p b = true
  | [], b, h => by cases h
  | c :: r, b, h => by
    rw [spanN] at h
    split at h
    · rename_i hc
      rcases List.mem_cons.1 (by simpa using h) with e | e
      · rw [e]; exact hc
      · exact span_take r b e
    · cases h
/-! numerals -/
theorem dec_append : ∀ (l m : Str) (acc : Nat), decFrom acc (l ++ m) = (decFrom acc l).bind fun n => decFrom n m
  | [], m, acc => rfl
  | b :: l, m, acc => by
    show decFrom acc (b :: (l ++ m)) = _
    rw [decFrom, decFrom]
    cases digitVal b with
    | none => rfl
    | some d => exact dec_append l m _
theorem digit_ofNat {d : Nat} (h : d < 10) : digitVal (UInt8.ofNat (48 + d)) = some d ∧ isDigit (UInt8.ofNat (48 + d)) = true := by
  have hn : (UInt8.ofNat (48 + d)).toNat = 48 + d := by rw [UInt8.toNat_ofNat']; omega
  unfold digitVal isDigit
  rw [hn]
  refine ⟨?_, ?_⟩
  · rw [if_pos (by omega)]; congr 1; omega
  · simp; omega
theorem dec_digits (u : Nat) : decFrom 0 (decDigits u) = some u ∧ (∀ b ∈ decDigits u, isDigit b = true) ∧ decDigits u ≠ [] := by
  induction u using Nat.strongRecOn with
  | _ u ih =>
    by_cases h : u < 10
    · rw [decDigits, dif_pos h]
      obtain ⟨h1, h2⟩ := digit_ofNat h
      refine ⟨?_, fun b hb => by cases List.mem_singleton.1 hb; exact h2, by simp⟩
      rw [decFrom, h1]
      show some (0 * 10 + u) = _
      simp
    · rw [decDigits, dif_neg h]
      obtain ⟨i1, i2, i3⟩ := ih (u / 10) (by omega)
      obtain ⟨h1, h2⟩ := digit_ofNat (show u % 10 < 10 by omega)
      refine ⟨?_, fun b hb => ?_, by simp⟩
      · rw [dec_append, i1]
        show decFrom (u / 10) [UInt8.ofNat (48 + u % 10)] = some u
        rw [decFrom, h1]
        show some (u / 10 * 10 + u % 10) = some u
        congr 1
        omega
      · rcases List.mem_append.1 hb with hb | hb
        · exact i2 b hb
        · cases List.mem_singleton.1 hb; exact h2
theorem dec_val (u : Nat) : decV (decDigits u) = u := by unfold decV; rw [(dec_digits u).1]; rfl
/-- a number's text -/
def numStr (n : Int) : Str := if n < 0 then 95 :: decDigits n.natAbs else decDigits n.toNat
def spellT (t : Tk) : Str := if t.kind = 2 then numStr t.n else if t.kind = 4 then [10] else t.word
/-- a token that is one -/
def RightT (t : Tk) : Prop :=
  (t.kind = 1 ∧ t.n = 0 ∧ ∃ b q, t.word = b :: q ∧ isLetter b = true ∧ (∀ c ∈ t.word, isNameB c = true) ∧ t.word.length ≤ 16) ∨
  (t.kind = 2 ∧ t.word = [] ∧ in64B t.n = true) ∨
  (t.kind = 3 ∧ t.n = 0 ∧ ((∃ b, t.word = [b] ∧ isSignB b = true) ∨ t.word = [60, 61] ∨ t.word = [62, 61])) ∨
  t = lineT
/-- what may stand right behind it -/
def Stop (t : Tk) (r : Str) : Prop := ∀ b, r.head? = some b → (t.kind = 1 → isNameB b = false) ∧ (t.kind = 2 → isDigit b = false) ∧ ((t.word = [60] ∨ t.word = [62]) → b ≠ 61)
theorem letter_facts {b : UInt8} (h : isLetter b = true) : b ≠ 10 ∧ isBlank b = false ∧ b ≠ 35 ∧ isNameB b = true := by
  unfold isLetter at h
  simp only [Bool.or_eq_true, Bool.and_eq_true, decide_eq_true_eq] at h
  have hn : ∀ n : Nat, n < 65 → b ≠ UInt8.ofNat n := fun n hn e => by
    rw [e, UInt8.toNat_ofNat'] at h
    omega
  refine ⟨hn 10 (by decide), ?_, hn 35 (by decide), ?_⟩
  · unfold isBlank
    have h1 : b ≠ 32 := hn 32 (by decide)
    have h2 : b ≠ 9 := hn 9 (by decide)
    simp [h1, h2]
  · unfold isNameB isLetter
    simp only [Bool.or_eq_true, Bool.and_eq_true, decide_eq_true_eq]
    exact .inl h
theorem digit_facts {b : UInt8} (h : isDigit b = true) : b ≠ 10 ∧ isBlank b = false ∧ b ≠ 35 ∧ isLetter b = false ∧ b ≠ 95 := by
  unfold isDigit at h
  simp only [Bool.and_eq_true, decide_eq_true_eq] at h
  have hn : ∀ n : Nat, (n < 48 ∨ 57 < n) → n < 256 → b ≠ UInt8.ofNat n := fun n hn h2 e => by
    rw [e, UInt8.toNat_ofNat'] at h
    omega
  refine ⟨hn 10 (by decide) (by decide), ?_, hn 35 (by decide) (by decide), ?_, hn 95 (by decide) (by decide)⟩
  · unfold isBlank
    have h1 : b ≠ 32 := hn 32 (by decide) (by decide)
    have h2 : b ≠ 9 := hn 9 (by decide) (by decide)
    simp [h1, h2]
  · unfold isLetter
    simp
    omega
theorem take_len {w r : Str} : (w ++ r).take w.length = w := by simp
theorem sign_facts {b : UInt8} (h : isSignB b = true) : b ≠ 10 ∧ isBlank b = false ∧ b ≠ 35 ∧ isLetter b = false ∧ isDigit b = false ∧ b ≠ 95 := by
  unfold isSignB at h
  have : ∀ b ∈ ([43, 45, 42, 37, 124, 61, 126, 60, 62, 47, 92, 46, 58, 40, 41] : Str), b ≠ 10 ∧ isBlank b = false ∧ b ≠ 35 ∧ isLetter b = false ∧ isDigit b = false ∧ b ≠ 95 := by decide
  exact this b (by simpa using h)
theorem head_app {w r : Str} {b : UInt8} {q : Str} (h : w = b :: q) : w ++ r = b :: (q ++ r) := by rw [h]; rfl
/-- a token's text is read as it -/
theorem tok_spell {t : Tk} (h : RightT t) {r : Str} (hs : Stop t r) : tokQ (spellT t ++ r) = some (t, (spellT t).length) := by
  obtain ⟨kind, word, n⟩ := t
  rcases h with ⟨hk, hn, b, q, hw, hb, hall, hlen⟩ | ⟨hk, hw, hin⟩ | ⟨hk, hn, hw⟩ | h
  · dsimp only at hk hn hw hall hlen
    subst hk hn
    have hsp : spellT ⟨1, word, 0⟩ = word := rfl
    rw [hsp, head_app hw]
    obtain ⟨h10, -, -, -⟩ := letter_facts hb
    have hspan : spanN isNameB (b :: (q ++ r)) = word.length := by
      rw [← head_app hw]
      exact span_all word r hall (fun c hc => (hs c hc).1 rfl)
    rw [tokQ, if_neg h10, if_pos hb, hspan, if_neg (by omega), ← head_app hw, take_len]
  · dsimp only at hk hw hin
    subst hk hw
    have hsp : spellT ⟨2, [], n⟩ = numStr n := rfl
    rw [hsp]
    have hst : ∀ c, r.head? = some c → isDigit c = false := fun c hc => (hs c hc).2.1 rfl
    unfold numStr
    by_cases hneg : n < 0
    · rw [if_pos hneg]
      obtain ⟨d1, d2, d3⟩ := dec_digits n.natAbs
      have hspan : spanN isDigit (decDigits n.natAbs ++ r) = (decDigits n.natAbs).length := span_all _ r d2 hst
      have hpos : (decDigits n.natAbs).length ≠ 0 := by simp [d3]
      show tokQ (95 :: (decDigits n.natAbs ++ r)) = _
      rw [tokQ, if_neg (by decide), if_neg (by decide), if_pos rfl, hspan, if_neg hpos, take_len, dec_val]
      have hv : -(n.natAbs : Int) = n := by omega
      rw [hv, if_pos hin]
      rfl
    · rw [if_neg hneg]
      obtain ⟨d1, d2, d3⟩ := dec_digits n.toNat
      obtain ⟨b, q, hb⟩ : ∃ b q, decDigits n.toNat = b :: q := by
        cases hx : decDigits n.toNat with
        | nil => exact absurd hx d3
        | cons b q => exact ⟨b, q, rfl⟩
      have hspan : spanN isDigit (decDigits n.toNat ++ r) = (decDigits n.toNat).length := span_all _ r d2 hst
      have hpos : (decDigits n.toNat).length ≠ 0 := by simp [d3]
      obtain ⟨f1, -, -, f4, f5⟩ := digit_facts (d2 b (by rw [hb]; exact List.mem_cons_self))
      rw [head_app hb, tokQ, if_neg f1, if_neg (by rw [f4]; decide), if_neg f5, ← head_app hb, hspan, if_neg hpos, take_len, dec_val]
      have hv : (n.toNat : Int) = n := by omega
      rw [hv, if_pos hin]
  · dsimp only at hk hn hw
    subst hk hn
    have hsp : spellT ⟨3, word, 0⟩ = word := rfl
    rw [hsp]
    have hsg : ∀ {b : UInt8} {q : Str}, isSignB b = true → tokQ (b :: q) = signQ b q := fun {b q} h => by
      obtain ⟨f1, -, -, f4, f5, f6⟩ := sign_facts h
      have : spanN isDigit (b :: q) = 0 := by rw [spanN, if_neg (by rw [f5]; decide)]
      rw [tokQ, if_neg f1, if_neg (by rw [f4]; decide), if_neg f6, this, if_pos rfl]
    rcases hw with ⟨b, hw, hb⟩ | hw | hw
    · subst hw
      show tokQ (b :: r) = _
      rw [hsg hb]
      unfold signQ
      rw [if_neg, if_pos hb]
      · rfl
      · rintro ⟨h1, h2⟩
        refine (hs 61 h2).2.2 ?_ rfl
        rcases h1 with e | e
        · exact .inl (by rw [e])
        · exact .inr (by rw [e])
    · subst hw
      show tokQ (60 :: 61 :: r) = _
      rw [hsg (by decide)]
      rfl
    · subst hw
      show tokQ (62 :: 61 :: r) = _
      rw [hsg (by decide)]
      rfl
  · rw [h]
    rfl
end Go.Proofs.YtokghjnkfabgiaaGreatDoor

namespace Go.Proofs.YtokghjnkfabgiaaGreatDoor
set_option maxRecDepth 100000
open Go.Lib
set_option linter.unusedVariables false
set_option linter.unusedSimpArgs false

/-! Texts, cut into tokens: what is cut is right; texts put together of tokens. -/
theorem sign_right {b : UInt8} {r : Str} {t : Tk} {n : Nat} (h : signQ b r = some (t, n)) : RightT t ∧ 1 ≤ n ∧ n ≤ (b :: r).length := by
  unfold signQ at h
  by_cases h1 : (b = 60 ∨ b = 62) ∧ r.head? = some 61
  · rw [if_pos h1] at h
    simp only [Option.some.injEq, Prod.mk.injEq] at h
    obtain ⟨rfl, rfl⟩ := h
    refine ⟨.inr (.inr (.inl ⟨rfl, rfl, ?_⟩)), by decide, ?_⟩
    · rcases h1.1 with e | e
      · subst e; exact .inr (.inl rfl)
      · subst e; exact .inr (.inr rfl)
    · cases r with
      | nil => cases h1.2
      | cons c r => simp
  · rw [if_neg h1] at h
    by_cases h2 : isSignB b = true
    · rw [if_pos h2] at h
      simp only [Option.some.injEq, Prod.mk.injEq] at h
      obtain ⟨rfl, rfl⟩ := h
      exact ⟨.inr (.inr (.inl ⟨rfl, rfl, .inl ⟨b, rfl, h2⟩⟩)), by decide, by simp⟩
    · rw [if_neg h2] at h; cases h
/-- what is cut is a right token -/
theorem tok_right {s : Str} {t : Tk} {n : Nat} (h : tokQ s = some (t, n)) : RightT t ∧ 1 ≤ n ∧ n ≤ s.length := by
  cases s with
  | nil => cases h
  | cons b r =>
    rw [tokQ] at h
    by_cases h10 : b = 10
    · rw [if_pos h10] at h
      simp only [Option.some.injEq, Prod.mk.injEq] at h
      obtain ⟨rfl, rfl⟩ := h
      exact ⟨.inr (.inr (.inr rfl)), by decide, by simp⟩
    rw [if_neg h10] at h
    by_cases hl : isLetter b = true
    · rw [if_pos hl] at h
      by_cases h16 : 16 < spanN isNameB (b :: r)
      · rw [if_pos h16] at h; cases h
      rw [if_neg h16] at h
      simp only [Option.some.injEq, Prod.mk.injEq] at h
      obtain ⟨rfl, rfl⟩ := h
      have hle := span_le isNameB (b :: r)
      have h1 : spanN isNameB (b :: r) = spanN isNameB r + 1 := by rw [spanN, if_pos (letter_facts hl).2.2.2]
      refine ⟨.inl ⟨rfl, rfl, b, r.take (spanN isNameB r), by rw [h1]; rfl, hl, fun c hc => span_take _ c hc, ?_⟩, by omega, hle⟩
      show ((b :: r).take _).length ≤ 16
      rw [List.length_take]
      omega
    rw [if_neg hl] at h
    by_cases h95 : b = 95
    · rw [if_pos h95] at h
      by_cases h0 : spanN isDigit r = 0
      · rw [if_pos h0] at h; exact sign_right h
      rw [if_neg h0] at h
      split at h
      · rename_i hin
        simp only [Option.some.injEq, Prod.mk.injEq] at h
        obtain ⟨rfl, rfl⟩ := h
        have hle := span_le isDigit r
        exact ⟨.inr (.inl ⟨rfl, rfl, hin⟩), by omega, by simp; omega⟩
      · cases h
    rw [if_neg h95] at h
    by_cases h0 : spanN isDigit (b :: r) = 0
    · rw [if_pos h0] at h; exact sign_right h
    rw [if_neg h0] at h
    split at h
    · rename_i hin
      simp only [Option.some.injEq, Prod.mk.injEq] at h
      obtain ⟨rfl, rfl⟩ := h
      have hle := span_le isDigit (b :: r)
      exact ⟨.inr (.inl ⟨rfl, rfl, hin⟩), by omega, hle⟩
    · cases h
theorem lex_right : ∀ (f : Nat) (s : Str) (a : Nat) (l : List (Tk × Nat)), lexK f s a = some l → ∀ p ∈ l, RightT p.1
  | 0, s, a, l, h => by cases h; exact fun p hp => by cases hp
  | f + 1, [], a, l, h => by cases h; exact fun p hp => by cases hp
  | f + 1, b :: r, a, l, h => by
    rw [lexK] at h
    by_cases hb : isBlank b = true
    · rw [if_pos hb] at h; exact lex_right f _ _ _ h
    rw [if_neg hb] at h
    by_cases h35 : b = 35
    · rw [if_pos h35] at h; exact lex_right f _ _ _ h
    rw [if_neg h35] at h
    cases ht : tokQ (b :: r) with
    | none => rw [ht] at h; cases h
    | some p =>
      rw [ht] at h
      dsimp only [Option.bind] at h
      cases hl : lexK f ((b :: r).drop p.2) (a + p.2) with
      | none => rw [hl] at h; cases h
      | some l2 =>
        rw [hl] at h
        cases h
        intro x hx
        rcases List.mem_cons.1 hx with e | e
        · subst e; exact (tok_right (t := p.1) (n := p.2) ht).1
        · exact lex_right f _ _ _ hl x e
/-! fuel -/
theorem lex_fuel : ∀ (f g : Nat) (s : Str) (a : Nat), s.length ≤ f → s.length ≤ g → lexK f s a = lexK g s a
  | 0, 0, s, a, _, _ => rfl
  | 0, g + 1, [], a, _, _ => rfl
  | 0, g + 1, b :: r, a, h, _ => absurd h (by simp)
  | f + 1, 0, [], a, _, _ => rfl
  | f + 1, 0, b :: r, a, _, h => absurd h (by simp)
  | f + 1, g + 1, [], a, _, _ => rfl
  | f + 1, g + 1, b :: r, a, hf, hg => by
    simp only [List.length_cons] at hf hg
    rw [lexK, lexK]
    by_cases hb : isBlank b = true
    · rw [if_pos hb, if_pos hb]; exact lex_fuel f g _ _ (by omega) (by omega)
    rw [if_neg hb, if_neg hb]
    by_cases h35 : b = 35
    · rw [if_pos h35, if_pos h35]
      have h1 : spanN (fun c => c != 10) (b :: r) = spanN (fun c => c != 10) r + 1 := by rw [spanN, if_pos (by rw [h35]; decide)]
      exact lex_fuel f g _ _ (by rw [List.length_drop, h1]; simp; omega) (by rw [List.length_drop, h1]; simp; omega)
    rw [if_neg h35, if_neg h35]
    cases ht : tokQ (b :: r) with
    | none => rfl
    | some p =>
      obtain ⟨-, h1, h2⟩ := tok_right (t := p.1) (n := p.2) ht
      dsimp only [Option.bind]
      rw [lex_fuel f g ((b :: r).drop p.2) (a + p.2) (by rw [List.length_drop]; simp only [List.length_cons]; omega) (by rw [List.length_drop]; simp only [List.length_cons]; omega)]
theorem lexF_nil (a : Nat) : lexF [] a = some [] := rfl
theorem lexF_blank {b : UInt8} {r : Str} {a : Nat} (h : isBlank b = true) : lexF (b :: r) a = lexF r (a + 1) := by
  show lexK (r.length + 1) (b :: r) a = _
  rw [lexK, if_pos h]
  rfl
theorem lexF_tok {b : UInt8} {r : Str} {a : Nat} {t : Tk} {n : Nat} (hb : isBlank b = false) (h35 : b ≠ 35) (h : tokQ (b :: r) = some (t, n)) : lexF (b :: r) a = (lexF ((b :: r).drop n) (a + n)).map fun l => (t, a) :: l := by
  obtain ⟨-, h1, h2⟩ := tok_right h
  show lexK (r.length + 1) (b :: r) a = _
  rw [lexK, if_neg (by rw [hb]; decide), if_neg h35, h]
  dsimp only [Option.bind]
  unfold lexF
  rw [lex_fuel r.length _ ((b :: r).drop n) (a + n) (by rw [List.length_drop]; simp only [List.length_cons]; omega) (Nat.le_refl _)]
/-- a token's text begins with no blank and no note -/
theorem spell_head {t : Tk} (h : RightT t) : ∃ b q, spellT t = b :: q ∧ isBlank b = false ∧ b ≠ 35 := by
  obtain ⟨kind, word, n⟩ := t
  rcases h with ⟨hk, hn, b, q, hw, hb, hall, hlen⟩ | ⟨hk, hw, hin⟩ | ⟨hk, hn, hw⟩ | h
  · dsimp only at hk hn hw
    subst hk hn
    obtain ⟨-, f2, f3, -⟩ := letter_facts hb
    exact ⟨b, q, hw, f2, f3⟩
  · dsimp only at hk hw
    subst hk hw
    show ∃ b q, numStr n = b :: q ∧ _
    unfold numStr
    by_cases hneg : n < 0
    · rw [if_pos hneg]
      exact ⟨95, _, rfl, by decide, by decide⟩
    · rw [if_neg hneg]
      obtain ⟨d1, d2, d3⟩ := dec_digits n.toNat
      cases hx : decDigits n.toNat with
      | nil => exact absurd hx d3
      | cons b q =>
        obtain ⟨-, f2, f3, -, -⟩ := digit_facts (d2 b (by rw [hx]; exact List.mem_cons_self))
        exact ⟨b, q, rfl, f2, f3⟩
  · dsimp only at hk hn hw
    subst hk hn
    rcases hw with ⟨b, hw, hb⟩ | hw | hw
    · obtain ⟨-, f2, f3, -, -, -⟩ := sign_facts hb
      exact ⟨b, [], hw, f2, f3⟩
    · exact ⟨60, [61], hw, by decide, by decide⟩
    · exact ⟨62, [61], hw, by decide, by decide⟩
  · rw [h]
    exact ⟨10, [], rfl, by decide, by decide⟩
theorem lex_one {t : Tk} (h : RightT t) {r : Str} (hs : Stop t r) (a : Nat) : lexF (spellT t ++ r) a = (lexF r (a + (spellT t).length)).map fun l => (t, a) :: l := by
  obtain ⟨b, q, hb, h1, h2⟩ := spell_head h
  have ht := tok_spell h hs
  rw [hb] at ht ⊢
  rw [List.cons_append] at ht ⊢
  rw [lexF_tok h1 h2 ht]
  congr 1
  rw [← List.cons_append, List.drop_left]
theorem stop_nil (t : Tk) : Stop t [] := fun b h => by cases h
theorem stop_blank (t : Tk) (r : Str) : Stop t (32 :: r) := fun b h => by
  cases h
  exact ⟨fun _ => by decide, fun _ => by decide, fun _ => by decide⟩
/-- the tokens of a text; places apart -/
def bare (l : List (Tk × Nat)) : List Tk := l.map (·.1)
theorem lex_shift : ∀ (f : Nat) (s : Str) (a a' : Nat), (lexK f s a).map bare = (lexK f s a').map bare
  | 0, s, a, a' => rfl
  | f + 1, [], a, a' => rfl
  | f + 1, b :: r, a, a' => by
    rw [lexK, lexK]
    by_cases hb : isBlank b = true
    · rw [if_pos hb, if_pos hb]; exact lex_shift f _ _ _
    rw [if_neg hb, if_neg hb]
    by_cases h35 : b = 35
    · rw [if_pos h35, if_pos h35]; exact lex_shift f _ _ _
    rw [if_neg h35, if_neg h35]
    cases tokQ (b :: r) with
    | none => rfl
    | some p =>
      dsimp only [Option.bind]
      have := lex_shift f ((b :: r).drop p.2) (a + p.2) (a' + p.2)
      cases h1 : lexK f ((b :: r).drop p.2) (a + p.2) <;> cases h2 : lexK f ((b :: r).drop p.2) (a' + p.2) <;> rw [h1, h2] at this
      · rfl
      · cases this
      · cases this
      · simp only [Option.map_some, Option.some.injEq] at this ⊢
        simp only [bare, List.map_cons] at this ⊢
        rw [this]
/-- texts of tokens, some one behind the other, some with blanks between -/
inductive Laid : Str → List Tk → Prop where
  | nil : Laid [] []
  | blank {s l} : Laid s l → Laid (32 :: s) l
  | tok {t s l} : RightT t → Stop t s → Laid s l → Laid (spellT t ++ s) (t :: l)
theorem laid_lex {s : Str} {l : List Tk} (h : Laid s l) : ∀ a, ∃ q, lexF s a = some q ∧ bare q = l := by
  induction h with
  | nil => exact fun a => ⟨[], rfl, rfl⟩
  | blank _ ih => exact fun a => by rw [lexF_blank (by decide)]; exact ih (a + 1)
  | tok ht hs _ ih =>
    intro a
    obtain ⟨q, h1, h2⟩ := ih (a + (spellT _).length)
    exact ⟨_ :: q, by rw [lex_one ht hs a, h1]; rfl, by unfold bare at h2 ⊢; rw [List.map_cons, h2]⟩
/-- each token's text, blanks behind it -/
def spaced (k : Nat) : List Tk → Str
  | [] => []
  | t :: l => spellT t ++ (List.replicate (k + 1) 32 ++ spaced k l)
theorem laid_blanks : ∀ (k : Nat) {s : Str} {l : List Tk}, Laid s l → Laid (List.replicate k 32 ++ s) l
  | 0, s, l, h => h
  | k + 1, s, l, h => .blank (laid_blanks k h)
theorem laid_spaced (k : Nat) : ∀ {l : List Tk}, (∀ t ∈ l, RightT t) → Laid (spaced k l) l
  | [], _ => .nil
  | t :: l, h => .tok (h t List.mem_cons_self) (stop_blank t _) (laid_blanks (k + 1) (laid_spaced k fun x hx => h x (List.mem_cons_of_mem _ hx)))
end Go.Proofs.YtokghjnkfabgiaaGreatDoor
