import Derived.Test.YtkgbjmmiomggbaaE30
namespace Go.Proofs.Ytkgbjmmiomggbaa
open Go.RowKit Go.ChangeShapes Go.WideShapes Go.Deep
set_option linter.unusedVariables false

theorem stepI_end (i : Ins) {s : St} (h : (stepI i s).2 = false) : 1 ≤ (stepI i s).1.fin ∧ (stepI i s).1.fin ≤ 4 := by
  revert h
  show (fun r : St × Bool => r.2 = false → 1 ≤ r.1.fin ∧ r.1.fin ≤ 4) (stepI i s)
  unfold stepI
  repeat' (apply ite_pred (p := fun r : St × Bool => r.2 = false → 1 ≤ r.1.fin ∧ r.1.fin ≤ 4))
  all_goals first | (intro h; cases h; done) | (intro _; dsimp only; omega)
theorem mstepS_end {code : List Ins} {s : St} (h : (mstepS code s).2 = false) : 1 ≤ (mstepS code s).1.fin ∧ (mstepS code s).1.fin ≤ 5 := by
  revert h
  unfold mstepS
  split
  · intro h
    have := stepI_end _ h
    omega
  · intro _
    dsimp only
    omega
theorem runI_le (code : List Ins) : ∀ (n : Nat) (s : St), (runI code n s).2 ≤ n
  | 0, s => Nat.le_refl _
  | n + 1, s => by
    rw [runI]
    split
    · exact Nat.succ_le_succ (runI_le code n _)
    · show 1 ≤ n + 1; omega
theorem runI_more (code : List Ins) (D : Nat) : ∀ (A : Nat) (s : St), (runI code A s).1.fin ≠ 6 → runI code (A + D) s = runI code A s
  | 0, s, h => absurd rfl h
  | A + 1, s, h => by
    rw [show A + 1 + D = (A + D) + 1 from by omega]
    by_cases hg : (mstepS code s).2 = true
    · rw [runI_succ_go hg] at h ⊢
      rw [runI_succ_go hg, runI_more code D A _ h]
    · have hg : (mstepS code s).2 = false := by simpa using hg
      rw [runI_succ_end hg, runI_succ_end hg]
theorem runI_six (code : List Ins) : ∀ (A : Nat) (s : St), (runI code A s).1.fin = 6 → (runI code A s).2 = A
  | 0, s, h => rfl
  | A + 1, s, h => by
    by_cases hg : (mstepS code s).2 = true
    · rw [runI_succ_go hg] at h ⊢
      exact congrArg (· + 1) (runI_six code A _ h)
    · have hg : (mstepS code s).2 = false := by simpa using hg
      rw [runI_succ_end hg] at h
      have := mstepS_end hg
      dsimp only at h
      omega
theorem runI_far (code : List Ins) (D : Nat) : ∀ (A : Nat) (s : St), (runI code A s).1.fin = 6 → A ≤ (runI code (A + D) s).2
  | 0, s, h => Nat.zero_le _
  | A + 1, s, h => by
    rw [show A + 1 + D = (A + D) + 1 from by omega]
    by_cases hg : (mstepS code s).2 = true
    · rw [runI_succ_go hg] at h ⊢
      exact Nat.succ_le_succ (runI_far code D A _ h)
    · have hg : (mstepS code s).2 = false := by simpa using hg
      rw [runI_succ_end hg] at h
      have := mstepS_end hg
      dsimp only at h
      omega
theorem goodB_like {code : List Ins} {n : Nat} {a b : Int} (ha : 0 ≤ a ∧ a ≤ 67108864) (hb : 0 ≤ b ∧ b ≤ 67108864) : goodB code n a = goodB code n b := by
  unfold goodB
  rw [decide_eq_true ha.1, decide_eq_true ha.2, decide_eq_true hb.1, decide_eq_true hb.2]

theorem okWide_array {P : Program} {w : World} {r : Reach} {base : Nat} {v : Value} {t e : TypeId} {n : Nat} (ht : P.underlying t = some (.array n e)) (h : Value.okWide P w r base t v) : ∃ cs, v = .agg cs ∧ cs.size = P.cellsOf t := by
  simp only [Value.okWide, ht] at h
  obtain ⟨cs, h1, h2, _⟩ := h
  exact ⟨cs, h1, h2⟩
section
variable {H : Type} {enc : TypeId × Value → H}
theorem open_two {w : World} {base b0 : Nat} {spare : Nat → Bool} {held : Bool} {v : Value} {d : DataW H} {p : List MemPlace} {r : Reach}
    (hv : Value.okWide Try.prog w r b0 38 v) (h : DataW.Trod enc Try.prog w base spare held 38 v d p) : ∃ x y, v = .agg #[.int .u16 x, .int .u16 y] ∧ (0 ≤ x ∧ x ≤ 65535) ∧ (0 ≤ y ∧ y ≤ 65535) := by
  obtain ⟨⟨cs⟩, rfl, hsz⟩ := okWide_array Try.underlying38 hv
  have hl : cs.length = 2 := by simpa using hsz.trans (by kernel_rfl : Try.prog.cellsOf 38 = 2)
  obtain ⟨m, hm⟩ := h
  obtain ⟨zs, k, _, _, _, hzl, hz⟩ := DataW.trod_array Try.underlying38 hm
  rw [show Try.prog.cellsOf 37 = 1 from by kernel_rfl] at hz
  match cs, hl with
  | [c0, c1], _ =>
    obtain ⟨x0, e0, _, w0⟩ := DataW.trod_int Try.underlying37 ((hz 0 (by decide)).trans (List.getElem?_eq_getElem (by rw [hzl]; decide)))
    obtain ⟨x1, e1, _, w1⟩ := DataW.trod_int Try.underlying37 ((hz 1 (by decide)).trans (List.getElem?_eq_getElem (by rw [hzl]; decide)))
    simp [Value.cells] at e0 e1
    subst e0; subst e1
    exact ⟨x0, x1, rfl, bounds_u16 w0, bounds_u16 w1⟩
end
end Go.Proofs.Ytkgbjmmiomggbaa
