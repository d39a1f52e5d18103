import Derived.Test.YtabodlhlanolcaaA32
namespace Go.Proofs.Ytabodlhlanolcaa
set_option maxRecDepth 100000
open Go.RowKit
set_option linter.unusedVariables false
set_option linter.unusedSimpArgs false

/-! Cores with a buffer more, and with a step less: plain. -/
theorem madeB_push (made : List Bool) (k : Int) : madeB (made ++ [false]) k = madeB made k := by
  by_cases h0 : 0 ≤ k
  · obtain ⟨n, rfl⟩ := Int.eq_ofNat_of_zero_le h0
    by_cases h1 : n < made.length
    · rw [madeB_nat h1, madeB_nat (made := made ++ [false]) (by simp; omega), List.getElem_append_left h1]
    · have e : madeB made n = false := by unfold madeB; rw [decide_eq_false (by omega : ¬ ((n : Nat) : Int) < (made.length : Int)), Bool.and_false]; rfl
      by_cases h2 : n = made.length
      · subst h2
        rw [e, madeB_nat (made := made ++ [false]) (by simp), List.getElem_append_right (Nat.le_refl _)]
        simp
      · rw [e]
        unfold madeB
        rw [decide_eq_false (by simp; omega : ¬ ((n : Nat) : Int) < ((made ++ [false]).length : Int)), Bool.and_false]; rfl
  · rw [madeB_neg h0, madeB_neg h0]
theorem opS_push (V L : Nat) (made : List Bool) (buf : Int) : opS V L (made ++ [false]) buf = opS V L made buf := by
  funext o
  unfold opS opB
  rw [madeB_push]
theorem stepQ_push (V : Nat) (made : List Bool) (s : Stp) : stepQ V (made ++ [false]) s = stepQ V made s := by
  unfold stepQ
  rw [opS_push]
theorem stepS_push {V : Nat} {bufs : List Buf} {made : List Bool} {s : Stp} {b : Buf} (h : stepS V bufs made s = true) : stepS V (bufs ++ [b]) (made ++ [false]) s = true := by
  obtain ⟨k, hk, hlt⟩ := stepS_buf h
  unfold stepS at h ⊢
  rw [stepQ_push]
  rw [Bool.and_eq_true] at h ⊢
  refine ⟨?_, h.2⟩
  have h1 := h.1
  rw [hk] at h1 ⊢
  rw [bufQ_at hlt] at h1
  rw [bufQ_at (bufs := bufs ++ [b]) (by simp; omega), List.getElem_append_left hlt]
  exact h1
theorem stepsK_push {V : Nat} {bufs : List Buf} {b : Buf} : ∀ {l : List Stp} {made : List Bool}, made.length = bufs.length → stepsK V bufs l made = true → stepsK V (bufs ++ [b]) l (made ++ [false]) = true
  | [], made, hl, h => rfl
  | s :: r, made, hl, h => by
    rw [stepsK, Bool.and_eq_true] at h ⊢
    obtain ⟨k, hk, hlt⟩ := stepS_buf h.1
    refine ⟨stepS_push h.1, ?_⟩
    have h2 := h.2
    rw [hk, Int.toNat_natCast] at h2 ⊢
    rw [List.set_append_left _ _ (by omega)]
    exact stepsK_push (by simpa using hl) h2
theorem stepsK_take {V : Nat} {bufs : List Buf} : ∀ {l : List Stp} {made : List Bool} (k : Nat), stepsK V bufs l made = true → stepsK V bufs (l.take k) made = true
  | [], made, k, h => by rw [List.take_nil]; rfl
  | s :: r, made, 0, h => rfl
  | s :: r, made, k + 1, h => by
    rw [stepsK, Bool.and_eq_true] at h
    rw [List.take_succ_cons, stepsK, Bool.and_eq_true]
    exact ⟨h.1, stepsK_take k h.2⟩
theorem madeOf_push (bufs : List Buf) (b : Buf) (h : b.input = -1) : madeOf (bufs ++ [b]) = madeOf bufs ++ [false] := by
  unfold madeOf
  rw [List.map_append]
  simp [h]
theorem bufsOk_push {V : Nat} {bufs : List Buf} {b : Buf} (h : bufsOk V bufs = true) (hb : growB V b.sides = true) (hi : b.input = -1) : bufsOk V (bufs ++ [b]) = true := by
  refine bufsOk_good fun i hlt => ?_
  by_cases h1 : i < bufs.length
  · rw [List.getElem_append_left h1, List.take_append_of_le_length (by omega)]
    unfold bufsOk at h
    have := List.all_eq_true.1 h i (List.mem_range.2 h1)
    rw [List.getElem?_eq_getElem h1] at this
    exact this
  · have h2 : i = bufs.length := by simp at hlt; omega
    subst h2
    rw [List.getElem_append_right (Nat.le_refl _)]
    simp only [Nat.sub_self, List.getElem_cons_zero]
    unfold bufOk
    rw [hb, hi]
    rfl
theorem outB_more {n : Nat} {k : Int} (h : outB n k = true) : outB (n + 1) k = true := by
  unfold outB at h ⊢
  simp only [Bool.and_eq_true, decide_eq_true_eq] at h ⊢
  omega
theorem right_push {c : Cor} {b : Buf} (h : rightB c = true) (hb : growB c.vars.toNat b.sides = true) (hi : b.input = -1) : rightB ⟨c.vars, c.bufs ++ [b], c.steps, c.outs⟩ = decide (c.bufs.length < 1024) := by
  obtain ⟨v0, v1, l1, l2, l3⟩ := right_vars h
  by_cases hl : c.bufs.length < 1024
  · rw [decide_eq_true hl]
    unfold rightB at h ⊢
    simp only [Bool.and_eq_true] at h ⊢
    refine ⟨?_, bufsOk_push h.2.1 hb hi, ?_, ?_⟩
    · unfold sizesB
      simp only [Bool.and_eq_true, decide_eq_true_eq, List.length_append, List.length_cons, List.length_nil]
      omega
    · rw [madeOf_push _ _ hi]
      exact stepsK_push (by simp [madeOf]) h.2.2.1
    · refine List.all_eq_true.2 fun x hx => ?_
      rw [List.length_append]
      exact outB_more (List.all_eq_true.1 h.2.2.2 x hx)
  · rw [decide_eq_false hl]
    unfold rightB sizesB
    rw [show decide ((c.bufs ++ [b]).length ≤ 1024) = false from decide_eq_false (by simp; omega)]
    simp
theorem right_cut {c : Cor} (h : rightB c = true) (k : Nat) : rightB ⟨c.vars, c.bufs, c.steps.take k, c.outs⟩ = true := by
  obtain ⟨v0, v1, l1, l2, l3⟩ := right_vars h
  unfold rightB at h ⊢
  simp only [Bool.and_eq_true] at h ⊢
  refine ⟨?_, h.2.1, stepsK_take k h.2.2.1, h.2.2.2⟩
  unfold sizesB
  simp only [Bool.and_eq_true, decide_eq_true_eq, List.length_take]
  omega
/-- the number as a polynomial -/
def monoC (n : Int) : Mono := ⟨n, 0, 0, 0, 0, 0, 0⟩
theorem monoC_wf {n : Int} (h : I64 n) : (monoC n).wf := ⟨h, by simp [monoC], by simp [monoC], by simp [monoC], by simp [monoC], by simp [monoC], by simp [monoC]⟩
theorem polyC {n : Int} (h0 : 1 ≤ n) (h1 : n ≤ 65536) : polyB [monoC n] = true := by
  refine polyB_good (by simp) fun k hk => ?_
  have : k = 0 := by simpa using hk
  subst this
  unfold fineAt
  have : smallB (monoC n) = true := by
    unfold smallB
    have e : degF (monoC n) = 0 := by rfl
    rw [e]
    have : (monoC n).n = n := rfl
    rw [this]
    simp
    omega
  simpa using this
theorem exC (n : Int) (k : Nat) : (monoC n).ex k = 0 := by
  unfold Mono.ex monoC Mono.E
  match k with
  | 0 => rfl
  | 1 => rfl
  | 2 => rfl
  | 3 => rfl
  | 4 => rfl
  | 5 => rfl
  | k + 6 => rfl
theorem growC {n : Int} (h0 : 1 ≤ n) (h1 : n ≤ 65536) (V : Nat) : growB V [[monoC n]] = true := by
  unfold growB bothB ownB growsB
  rw [List.all_cons, List.all_nil, polyC h0 h1, List.all_cons, List.all_nil, List.any_cons, List.any_nil, free_good (m := monoC n) (fun k _ _ => by rw [exC]; decide)]
  have : (monoC n).n = n := rfl
  rw [this, decide_eq_false (by omega : ¬ n < 0)]
  rfl
theorem valC {n : Int} (h0 : 1 ≤ n) (D : List Int) : valO (monoC n) D = some n := by
  rw [valO_prod fun k _ => by unfold zeroAt; rw [exC]; rfl]
  have : ∀ k, prodK (monoC n) D k = some n := by
    intro k
    induction k with
    | zero =>
      rw [prodK]
      have : (monoC n).n = n := rfl
      rw [this, Int.max_eq_left (by omega)]
    | succ k ih => rw [prodK, ih, exC]; rfl
  exact this 6
theorem dimsC_dimsB {c : Cor} {D : List Int} (hr : rightB c = true) (h : dimsC c D = true) : dimsB D = true := by
  obtain ⟨v0, v1, -⟩ := right_vars hr
  unfold dimsC at h
  unfold dimsB
  simp only [Bool.and_eq_true, decide_eq_true_eq, Bool.not_eq_true'] at h ⊢
  refine ⟨by omega, List.all_eq_true.2 fun x hx => ?_⟩
  have := List.any_eq_false.1 h.2 x hx
  unfold dimQ at this
  simp only [Bool.or_eq_true, decide_eq_true_eq, Bool.and_eq_true] at this ⊢
  omega
theorem sizeC {n : Int} (h0 : 1 ≤ n) (h1 : n ≤ 65536) {D : List Int} (hd : dimsB D = true) : sizeS D [[monoC n]] = (n, true) := by
  have he : evalS [monoC n] D = (n, 0) := by
    unfold evalS
    rw [if_pos (polyC h0 h1), if_pos hd]
    unfold evalK
    rw [valC h0]
    have : (monoC n).n = n := rfl
    simp only [this]
    rw [if_neg (by omega), if_neg (by omega)]
    unfold evalK
    rw [Int.zero_add]
  unfold sizeS valsO
  rw [side_good (by rw [he]) (by rw [he]; show 0 ≤ n; omega) (by rw [he]; exact h1), he]
  unfold valsO sizeP
  simp only [List.nil_append, List.any_cons, List.any_nil, Bool.or_false]
  rw [if_neg (by simp; omega)]
  unfold prodO
  rw [if_neg (by omega)]
  unfold prodO prodE
  simp
theorem sum_push {D : List Int} {b : Buf} {m : Int} (hb : sizeS D b.sides = (m, true)) : ∀ (bufs : List Buf) (a n : Int), sumS D bufs a = (n, 0) → sumS D (bufs ++ [b]) a = if 1048576 < n + m then (0, 102) else (n + m, 0)
  | [], a, n, h => by
    have h : (a, (0 : Int)) = (n, 0) := h
    cases h
    show (if (sizeS D b.sides).2 = false ∨ 1048576 < a + (sizeS D b.sides).1 then ((0 : Int), (102 : Int)) else sumS D [] (a + (sizeS D b.sides).1)) = _
    rw [hb]
    simp [sumS]
  | x :: l, a, n, h => by
    have h : (if (sizeS D x.sides).2 = false ∨ 1048576 < a + (sizeS D x.sides).1 then ((0 : Int), (102 : Int)) else sumS D l (a + (sizeS D x.sides).1)) = (n, 0) := h
    show (if (sizeS D x.sides).2 = false ∨ 1048576 < a + (sizeS D x.sides).1 then ((0 : Int), (102 : Int)) else sumS D (l ++ [b]) (a + (sizeS D x.sides).1)) = _
    by_cases hc : (sizeS D x.sides).2 = false ∨ 1048576 < a + (sizeS D x.sides).1
    · rw [if_pos hc] at h; cases h
    · rw [if_neg hc] at h ⊢
      exact sum_push hb l _ n h
theorem sum_zero {D : List Int} : ∀ (bufs : List Buf) (a : Int), (sumS D bufs a).2 ≠ 0 → (sumS D bufs a).1 = 0
  | [], a, h => absurd rfl h
  | x :: l, a, h => by
    rw [sumS] at h ⊢
    by_cases hc : (sizeS D x.sides).2 = false ∨ 1048576 < a + (sizeS D x.sides).1
    · rw [if_pos hc]
    · rw [if_neg hc] at h ⊢
      exact sum_zero l _ h
theorem cells_ok {c : Cor} {D : List Int} {n : Int} (h : cellsS c D = (n, 0)) : rightB c = true ∧ dimsC c D = true ∧ sumS D c.bufs 0 = (n, 0) := by
  unfold cellsS at h
  split at h
  · next h1 =>
    split at h
    · next h2 => exact ⟨h1, h2, h⟩
    · cases h
  · cases h
theorem cells_zero {c : Cor} {D : List Int} (h : (cellsS c D).2 ≠ 0) : (cellsS c D).1 = 0 := by
  unfold cellsS at h ⊢
  split
  · next h1 =>
    rw [if_pos h1] at h
    split
    · next h2 =>
      rw [if_pos h2] at h
      exact sum_zero _ _ h
    · rfl
  · rfl
theorem cells_push {c : Cor} {D : List Int} {n side : Int} (h : cellsS c D = (n, 0)) (hl : c.bufs.length < 1024) (h0 : 1 ≤ side) (h1 : side ≤ 65536) :
    cellsS ⟨c.vars, c.bufs ++ [⟨[[monoC side]], -1⟩], c.steps, c.outs⟩ D = if 1048576 < n + side then (0, 102) else (n + side, 0) := by
  obtain ⟨hr, hd, hs⟩ := cells_ok h
  unfold cellsS
  rw [right_push hr (growC h0 h1 _) rfl, decide_eq_true hl, if_pos rfl]
  have : dimsC ⟨c.vars, c.bufs ++ [⟨[[monoC side]], -1⟩], c.steps, c.outs⟩ D = true := hd
  rw [this, if_pos rfl]
  exact sum_push (sizeC h0 h1 (dimsC_dimsB hr hd)) _ _ _ hs
end Go.Proofs.Ytabodlhlanolcaa
