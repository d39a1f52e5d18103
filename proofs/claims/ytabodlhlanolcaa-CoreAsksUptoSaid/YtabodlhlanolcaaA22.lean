import Derived.Test.YtabodlhlanolcaaA21
namespace Go.Proofs.Ytabodlhlanolcaa
set_option maxRecDepth 100000
open Go.RowKit
set_option linter.unusedVariables false
set_option linter.unusedSimpArgs false

/-! Which cores are right: plain. -/
/-- a buffer behind others -/
def bufOk (V : Nat) (before : List Buf) (b : Buf) : Bool := growB V b.sides && decide (-1 ≤ b.input) && decide (b.input < 64) && !(decide (0 ≤ b.input) && before.any fun x => x.input == b.input)
def bufsOk (V : Nat) (bufs : List Buf) : Bool := (List.range bufs.length).all fun i => match bufs[i]? with | some b => bufOk V (bufs.take i) b | none => true
def madeOf (bufs : List Buf) : List Bool := bufs.map fun b => decide (0 ≤ b.input)
def stepsK (V : Nat) (bufs : List Buf) : List Stp → List Bool → Bool
  | [], _ => true
  | s :: r, made => stepS V bufs made s && stepsK V bufs r (made.set s.buf.toNat true)
def sizesB (c : Cor) : Bool := decide (0 ≤ c.vars) && decide (c.vars ≤ 6) && decide (c.bufs.length ≤ 1024) && decide (c.steps.length ≤ 1024) && decide (c.outs.length ≤ 64)
def rightB (c : Cor) : Bool := sizesB c && (bufsOk c.vars.toNat c.bufs && (stepsK c.vars.toNat c.bufs c.steps (madeOf c.bufs) && c.outs.all (outB c.bufs.length)))
theorem bufsOk_bad {V : Nat} {bufs : List Buf} {i : Nat} (hi : i < bufs.length) (h : bufOk V (bufs.take i) bufs[i] = false) : bufsOk V bufs = false := by
  unfold bufsOk
  refine List.all_eq_false.2 ⟨i, List.mem_range.2 hi, ?_⟩
  rw [List.getElem?_eq_getElem hi]
  simp [h]
theorem bufsOk_good {V : Nat} {bufs : List Buf} (h : ∀ i, (hi : i < bufs.length) → bufOk V (bufs.take i) bufs[i] = true) : bufsOk V bufs = true := by
  unfold bufsOk
  refine List.all_eq_true.2 fun i hm => ?_
  have hi := List.mem_range.1 hm
  rw [List.getElem?_eq_getElem hi]
  exact h i hi
theorem stepsK_step {V : Nat} {bufs : List Buf} {l : List Stp} {k : Nat} (h : k < l.length) (made : List Bool) : stepsK V bufs (l.drop k) made = (stepS V bufs made l[k] && stepsK V bufs (l.drop (k + 1)) (made.set l[k].buf.toNat true)) := by rw [List.drop_eq_getElem_cons h, stepsK]
theorem stepS_buf {V : Nat} {bufs : List Buf} {made : List Bool} {s : Stp} (h : stepS V bufs made s = true) : ∃ k : Nat, s.buf = k ∧ k < bufs.length := by
  unfold stepS at h
  have hb := (Bool.and_eq_true_iff.1 h).1
  by_cases h0 : s.buf < 0
  · rw [bufQ_neg h0] at hb; cases hb
  · by_cases h1 : s.buf < bufs.length
    · exact ⟨s.buf.toNat, by omega, by omega⟩
    · rw [bufQ_long h1] at hb; cases hb
end Go.Proofs.Ytabodlhlanolcaa
