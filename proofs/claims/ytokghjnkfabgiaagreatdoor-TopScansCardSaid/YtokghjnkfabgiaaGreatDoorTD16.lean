import Derived.Test.YtokghjnkfabgiaaGreatDoorTD10
import Derived.Lib.Replace
import Derived.Lib.Space
set_option linter.unusedVariables false
set_option linter.unusedSimpArgs false
set_option maxRecDepth 100000
namespace Go.Proofs.YtokghjnkfabgiaaGreatDoor
open Go.Lib

theorem index_miss : ∀ {d : Str} {c : UInt8}, ¬ c ∈ d → index d [c] = -1
 | [], c, _ => rfl
 | b :: d, c, h => by
  have hb : ¬ c = b := fun e => h (e ▸ List.mem_cons_self)
  have hd := index_miss (d := d) (c := c) fun e => h (List.mem_cons_of_mem _ e)
  rw [index, if_neg (by simp [List.isPrefixOf]; exact hb), hd]
  rfl
theorem digits_no {d : Str} (h : ∀ b ∈ d, isDigit b = true) {c : UInt8} (hc : isDigit c = false) : ¬ c ∈ d := fun e => by
 have := h c e
 rw [hc] at this; cases this
theorem replace_num (n : Int) : replace (itoa n) [45] [95] 1 = numStr n := by
 unfold replace
 rw [if_neg (by decide)]
 unfold itoa numStr
 by_cases hn : n < 0
 ·rw [if_pos hn, if_pos hn]
  have hd := digits_no (dec_digits n.natAbs).2.1 (c := 45) (by decide)
  have h0 : index (45 :: decDigits n.natAbs) [45] = ((0 : Nat) : Int) := by rw [index, if_pos (by simp [List.isPrefixOf])]; rfl
  have hc := count_hit (by simp) h0
  have hr : replaceNum (45 :: decDigits n.natAbs) [45] 1 = 1 := by
   unfold replaceNum
   have h1 : count (45 :: decDigits n.natAbs) [45] = 1 := by
    rw [hc]
    show 1 + count (decDigits n.natAbs) [45] = 1
    rw [count_miss (index_miss hd)]
   rw [h1]; rfl
  rw [hr, replaceK_hit _ _ _ _ 0 h0]
  rfl
 ·rw [if_neg hn, if_neg hn]
  have hd := digits_no (dec_digits n.toNat).2.1 (c := 45) (by decide)
  have hr : replaceNum (decDigits n.toNat) [45] 1 = 0 := by
   unfold replaceNum
   rw [count_miss (index_miss hd)]; rfl
  rw [hr]; rfl
theorem trim_same {s : Str} (h : ∀ b ∈ s, isSp b = false) : trimSpace s = s := by
 have hd : ∀ l : Str, (∀ b ∈ l, isSp b = false) → l.dropWhile isSp = l := by
  intro l hl
  cases l with
  | nil => rfl
  | cons b l => rw [List.dropWhile, hl b List.mem_cons_self]
 unfold trimSpace
 rw [hd s h, hd s.reverse (fun b hb => h b (List.mem_reverse.1 hb)), List.reverse_reverse]
theorem nameB_facts : ∀ b : UInt8, (isNameB b = true ∨ isDigit b = true ∨ isSignB b = true ∨ b = 95) → isSp b = false ∧ b ≠ 35 ∧ b.toNat < 128 := by
 have h : ∀ n : Nat, n < 256 → (isNameB (UInt8.ofNat n) = true ∨ isDigit (UInt8.ofNat n) = true ∨ isSignB (UInt8.ofNat n) = true ∨ UInt8.ofNat n = 95) → isSp (UInt8.ofNat n) = false ∧ UInt8.ofNat n ≠ 35 ∧ (UInt8.ofNat n).toNat < 128 := by decide +kernel
 intro b hb
 have := h b.toNat (UInt8.toNat_lt b)
 rw [UInt8.ofNat_toNat] at this
 exact this hb
theorem decDigits_len (u : Nat) : ∀ k, u < 10 ^ (k + 1) → (decDigits u).length ≤ k + 1 := by
 induction u using Nat.strongRecOn with
 | _ u ih =>
  intro k hk
  by_cases h : u < 10
  ·rw [decDigits, dif_pos h]; simp
  ·rw [decDigits, dif_neg h]
   cases k with
   | zero => simp at hk; omega
   | succ k =>
    have := ih (u / 10) (by omega) k (by rw [Nat.pow_succ] at hk; omega)
    simp
    omega
theorem spell_facts {t : Tk} (h : RightT t) : (spellT t).length ≤ 24 ∧ (∀ b ∈ spellT t, b ≠ 35 ∧ b.toNat < 128) ∧ (t.kind ≠ 4 → ∀ b ∈ spellT t, isSp b = false) ∧ lexP (spellT t) = some [(t, 0)] := by
 have hl : (spellT t).length ≤ 24 ∧ (∀ b ∈ spellT t, b ≠ 35 ∧ b.toNat < 128) ∧ (t.kind ≠ 4 → ∀ b ∈ spellT t, isSp b = false) := by
  obtain ⟨kind, word, n⟩ := t
  rcases h with ⟨hk, hn, b, q, hw, hb, hall, hlen⟩ | ⟨hk, hw, hin⟩ | ⟨hk, hn, hw⟩ | h
  ·dsimp only at hk hall hlen
   subst hk
   have e : spellT ⟨1, word, n⟩ = word := rfl
   rw [e]
   exact ⟨by omega, fun c hc => (nameB_facts c (.inl (hall c hc))).2, fun _ c hc => (nameB_facts c (.inl (hall c hc))).1⟩
  ·dsimp only at hk hin
   subst hk
   have e : spellT ⟨2, word, n⟩ = numStr n := rfl
   rw [e]
   unfold in64B at hin
   simp only [Bool.and_eq_true, decide_eq_true_eq] at hin
   have hall : ∀ c ∈ numStr n, isDigit c = true ∨ c = 95 := by
    intro c hc
    unfold numStr at hc
    split at hc
    ·rcases List.mem_cons.1 hc with h | h
     ·exact .inr h
     ·exact .inl ((dec_digits _).2.1 c h)
    ·exact .inl ((dec_digits _).2.1 c hc)
   have hf : ∀ c ∈ numStr n, isSp c = false ∧ c ≠ 35 ∧ c.toNat < 128 := fun c hc => nameB_facts c (by rcases hall c hc with h | h <;> simp [h])
   refine ⟨?_, fun c hc => (hf c hc).2, fun _ c hc => (hf c hc).1⟩
   unfold numStr
   split
   ·have := decDigits_len n.natAbs 18 (by omega)
    simp; omega
   ·have := decDigits_len n.toNat 18 (by omega)
    omega
  ·dsimp only at hk hw
   subst hk
   have e : spellT ⟨3, word, n⟩ = word := rfl
   rw [e]
   have hall : ∀ c ∈ word, isSignB c = true := by
    rcases hw with ⟨b, hw, hb⟩ | hw | hw
    ·rw [hw]; intro c hc; cases List.mem_singleton.1 hc; exact hb
    ·rw [hw]; decide
    ·rw [hw]; decide
   have hwl : word.length ≤ 2 := by
    rcases hw with ⟨b, hw, hb⟩ | hw | hw <;> rw [hw] <;> simp
   exact ⟨by omega, fun c hc => (nameB_facts c (.inr (.inr (.inl (hall c hc))))).2, fun _ c hc => (nameB_facts c (.inr (.inr (.inl (hall c hc))))).1⟩
  ·rw [h]
   refine ⟨by decide, ?_, fun e => absurd rfl e⟩
   show ∀ b ∈ ([10] : Str), b ≠ 35 ∧ b.toNat < 128
   decide
 refine ⟨hl.1, hl.2.1, hl.2.2, ?_⟩
 unfold lexP
 rw [if_neg (by omega)]
 have := lex_one h (stop_nil t) 0
 rw [List.append_nil, lexF_nil] at this
 exact this
theorem no_hash {s : Str} (h : ∀ b ∈ s, b ≠ 35) : ¬ (35 : UInt8) ∈ s := fun e => h 35 e rfl
end Go.Proofs.YtokghjnkfabgiaaGreatDoor
