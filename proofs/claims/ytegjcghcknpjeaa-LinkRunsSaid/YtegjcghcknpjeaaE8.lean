import Derived.Test.YtegjcghcknpjeaaE4
import Derived.Test.YtegjcghcknpjeaaE5
import Derived.Test.YtegjcghcknpjeaaE6
import Derived.Test.YtegjcghcknpjeaaE7
namespace Go.Proofs.Ytegjcghcknpjeaa
open Go.RowKit
set_option linter.unusedVariables false

theorem truth_in (b : Bool) : In64 (truthI b) := by cases b <;> exact ⟨by decide, by decide⟩
theorem bit_of {a : Int} (h : isBit a = true) : a = 0 ∨ a = 1 := by unfold isBit at h; simpa using h
theorem ite_pred' {α : Type} {p : α → Prop} {c : Prop} [Decidable c] {a b : α} (ha : c → p a) (hb : ¬ c → p b) : p (if c then a else b) := by
  by_cases h : c
  · rw [if_pos h]; exact ha h
  · rw [if_neg h]; exact hb h
theorem dyv_in {f a b : Int} (ha : In64 a) (hb : In64 b) (hr : refusesB f a b = false) : In64 (dyv f a b) := by
  have hmin : In64 (min a b) := by unfold In64 at *; omega
  have hmax : In64 (max a b) := by unfold In64 at *; omega
  unfold dyv
  refine ite_pred' (fun h0 => ?_) (fun _ => ?_)
  · exact wrap_in _
  refine ite_pred' (fun h1 => ?_) (fun _ => ?_)
  · exact wrap_in _
  refine ite_pred' (fun h2 => ?_) (fun _ => ?_)
  · exact wrap_in _
  refine ite_pred' (fun h3 => ?_) (fun _ => ?_)
  · exact wrap_in _
  refine ite_pred' (fun h4 => ?_) (fun _ => ?_)
  · exact ite_pred' (fun _ => hb) (fun h => fmod_in h ha)
  refine ite_pred' (fun h5 => ?_) (fun _ => ?_)
  · exact hmin
  refine ite_pred' (fun h6 => ?_) (fun _ => ?_)
  · exact hmax
  refine ite_pred' (fun h7 => ?_) (fun _ => ?_)
  · exact truth_in _
  refine ite_pred' (fun h8 => ?_) (fun _ => ?_)
  · exact truth_in _
  refine ite_pred' (fun h9 => ?_) (fun _ => ?_)
  · exact truth_in _
  refine ite_pred' (fun h10 => ?_) (fun _ => ?_)
  · exact truth_in _
  refine ite_pred' (fun h11 => ?_) (fun _ => ?_)
  · exact truth_in _
  refine ite_pred' (fun h12 => ?_) (fun _ => ?_)
  · (subst h12; unfold refusesB at hr; simp at hr; rcases bit_of hr.1 with rfl | rfl <;> rcases bit_of hr.2 with rfl | rfl <;> exact ⟨by decide, by decide⟩)
  refine ite_pred' (fun h13 => ?_) (fun _ => ?_)
  · exact hmax
  refine ite_pred' (fun h14 => ?_) (fun _ => ?_)
  · exact wrap_in _
  exact truth_in _
theorem dyad_in {f a b : Int} (ha : In64 a) (hb : In64 b) : In64 (dyadF f a b).1 := by
  unfold dyadF
  split
  · split
    · exact ⟨by decide, by decide⟩
    · rename_i h; exact dyv_in ha hb (by simpa using h)
  · exact ⟨by decide, by decide⟩
theorem monad_in {f a : Int} (ha : In64 a) : In64 (monadF f a).1 := by
  have h01 : In64 0 := ⟨by decide, by decide⟩
  have h11 : In64 1 := ⟨by decide, by decide⟩
  show (fun r : Int × Int => In64 r.1) (monadF f a)
  unfold monadF
  refine ite_pred (p := fun r : Int × Int => In64 r.1) (ite_pred (p := fun r : Int × Int => In64 r.1) (wrap_in _) (ite_pred (p := fun r : Int × Int => In64 r.1) ?_ (ite_pred (p := fun r : Int × Int => In64 r.1) (dyad_in h11 ha) (ite_pred (p := fun r : Int × Int => In64 r.1) ?_ ?_)))) h01
  · have h1 := truth_in (decide (0 < a)); have h2 := truth_in (decide (a < 0))
    unfold truthI
    unfold In64
    dsimp only
    split <;> split <;> omega
  · have h1 := wrap_in (-a)
    unfold In64 at *
    dsimp only
    omega
  · by_cases h : f = 16
    · rw [if_pos h]
      by_cases hb : isBit a = true
      · rw [if_pos hb]
        rcases bit_of hb with rfl | rfl <;> exact ⟨by decide, by decide⟩
      · rw [if_neg hb]; exact ⟨by decide, by decide⟩
    · rw [if_neg h]; exact ha
theorem reck_in {i : Ins} {s : St} (hs : ∀ x ∈ s.regs, In64 x) : In64 (reckS i s).1 := by
  unfold reckS
  split
  · exact dyad_in (R_in hs _) (R_in hs _)
  · exact monad_in (R_in hs _)
theorem setR_wf {s : St} (hs : s.wf) (i x : Int) (hx : In64 x) : (s.setR i x).wf :=
  ⟨by unfold St.setR; simpa using hs.len, fun y hy => by
    unfold St.setR at hy
    rcases List.mem_or_eq_of_mem_set hy with h | h
    · exact hs.regs y h
    · rw [h]; exact hx, hs.mem, hs.pc, hs.fin, hs.told⟩
theorem pc_wf {s : St} (hs : s.wf) {p : Int} (hp : In64 p) : ({ s with pc := p } : St).wf := ⟨hs.len, hs.regs, hs.mem, hp, hs.fin, hs.told⟩
theorem fin_wf {s : St} (hs : s.wf) {p : Int} (hp : In64 p) : ({ s with fin := p } : St).wf := ⟨hs.len, hs.regs, hs.mem, hs.pc, hp, hs.told⟩
theorem told_wf {s : St} (hs : s.wf) {p : Int} (hp : -2147483648 ≤ p ∧ p ≤ 2147483647) : ({ s with told := p } : St).wf := ⟨hs.len, hs.regs, hs.mem, hs.pc, hs.fin, hp⟩
theorem mem_wf {s : St} (hs : s.wf) {l : List Int} (hl : ∀ x ∈ l, In64 x) : ({ s with mem := l } : St).wf := ⟨hs.len, hs.regs, hl, hs.pc, hs.fin, hs.told⟩
theorem getD_in {l : List Int} (h : ∀ x ∈ l, In64 x) (k : Nat) : In64 (l.getD k 0) := by
  rw [List.getD_eq_getElem?_getD]
  cases hc : l[k]? with
  | none => exact ⟨by decide, by decide⟩
  | some x => exact h x (List.mem_of_getElem? hc)
theorem set_in {l : List Int} (h : ∀ x ∈ l, In64 x) (k : Nat) {y : Int} (hy : In64 y) : ∀ x ∈ l.set k y, In64 x := fun x hx => by
  rcases List.mem_or_eq_of_mem_set hx with h1 | h1
  · exact h x h1
  · rw [h1]; exact hy
theorem stepI_wf {i : Ins} {s : St} (hi : i.wf) (hs : s.wf) (hp : In64 (s.pc + 1)) : (stepI i s).1.wf := by
  have i32 : In64 i.imm := by have := hi.imm; unfold In64; omega
  show (fun r : St × Bool => r.1.wf) (stepI i s)
  unfold stepI
  have e : ∀ n : Int, -9223372036854775808 ≤ n → n ≤ 9223372036854775807 → In64 n := fun n a b => ⟨a, b⟩
  refine ite_pred (p := fun r : St × Bool => r.1.wf) ?_ (ite_pred (p := fun r : St × Bool => r.1.wf) ?_ (ite_pred (p := fun r : St × Bool => r.1.wf) ?_ (ite_pred (p := fun r : St × Bool => r.1.wf) ?_ (ite_pred (p := fun r : St × Bool => r.1.wf) ?_ (ite_pred (p := fun r : St × Bool => r.1.wf) ?_ (ite_pred (p := fun r : St × Bool => r.1.wf) ?_ (ite_pred (p := fun r : St × Bool => r.1.wf) ?_ (ite_pred (p := fun r : St × Bool => r.1.wf) ?_ (ite_pred (p := fun r : St × Bool => r.1.wf) ?_ (ite_pred (p := fun r : St × Bool => r.1.wf) ?_ ?_))))))))))
  · exact fin_wf hs (e 1 (by decide) (by decide))
  · exact told_wf (fin_wf hs (e 2 (by decide) (by decide))) hi.imm
  · exact pc_wf (setR_wf hs _ _ i32) hp
  · exact pc_wf (setR_wf hs _ _ (wrap_in _)) hp
  · exact pc_wf (setR_wf hs _ _ (R_in hs.regs _)) hp
  · exact pc_wf (setR_wf hs _ _ (wrap_in _)) hp
  · exact ite_pred (p := fun r : St × Bool => r.1.wf) (pc_wf (setR_wf hs _ _ (getD_in hs.mem _)) hp) (fin_wf hs (e 3 (by decide) (by decide)))
  · exact ite_pred (p := fun r : St × Bool => r.1.wf) (pc_wf (mem_wf hs (set_in hs.mem _ (R_in hs.regs _))) hp) (fin_wf hs (e 3 (by decide) (by decide)))
  · exact pc_wf hs i32
  · exact ite_pred (p := fun r : St × Bool => r.1.wf) (pc_wf hs i32) (pc_wf hs hp)
  · exact ite_pred (p := fun r : St × Bool => r.1.wf) (pc_wf hs i32) (pc_wf hs hp)
  · exact ite_pred (p := fun r : St × Bool => r.1.wf) (pc_wf (setR_wf hs _ _ (reck_in (i := i) hs.regs)) hp) (fin_wf hs (e 4 (by decide) (by decide)))

theorem right_facts {i : Ins} (h : i.right = true) : i.a < 16 ∧ i.b < 16 ∧ i.c < 16 ∧ (i.op = 0 ∨ i.op = 1 ∨ i.op = 2 ∨ i.op = 3 ∨ i.op = 4 ∨ i.op = 5 ∨ i.op = 6 ∨ i.op = 7 ∨ i.op = 8 ∨ i.op = 9 ∨ i.op = 10 ∨ 64 ≤ i.op) := by
  unfold Ins.right insRight at h
  simp only [Bool.and_eq_true, decide_eq_true_eq, bne_iff_ne] at h
  obtain ⟨⟨⟨⟨⟨⟨⟨hk, ha⟩, hb⟩, hc⟩, _⟩, _⟩, _⟩, _⟩ := h
  refine ⟨ha, hb, hc, ?_⟩
  by_cases h0 : i.op = 0 ∨ i.op = 1 ∨ i.op = 2 ∨ i.op = 3 ∨ i.op = 4 ∨ i.op = 5 ∨ i.op = 6 ∨ i.op = 7 ∨ i.op = 8 ∨ i.op = 9 ∨ i.op = 10 ∨ 64 ≤ i.op
  · exact h0
  · refine absurd ?_ hk
    unfold kind
    rw [if_neg (by omega), if_neg (by omega), if_neg (by omega), if_neg (by omega), if_neg (by omega), if_neg (by omega), if_neg (by omega)]
theorem stepI_call {i : Ins} {s : St} (h : 64 ≤ i.op) : stepI i s = callS i s := by
  unfold stepI
  rw [if_neg (by omega), if_neg (by omega), if_neg (by omega), if_neg (by omega), if_neg (by omega), if_neg (by omega), if_neg (by omega), if_neg (by omega), if_neg (by omega), if_neg (by omega), if_neg (by omega)]
  rfl
theorem mstep_any (w : World) (g B : Nat) (am : Option Addr) (cm : Nat) (ca : Option Addr) (cc : Nat) (code : List Ins) (s : St) (h : SIn w g B am cm ca cc code s) (hr : ∀ k, (hk : k < code.length) → s.pc = k → code[k].right = true) :
    Calls Try.prog 36 #[.pointer (some ⟨g, 0, none⟩)] w fun e w' => e = .returned (.bool (mstepS code s).2) ∧ SOut g B am cm ca cc code s.mem.length w (mstepS code s).1 w' := by
  by_cases hp : 0 ≤ s.pc ∧ s.pc < code.length
  · obtain ⟨k, hk⟩ := Int.eq_ofNat_of_zero_le hp.1
    have hlt : k < code.length := by omega
    obtain ⟨ra, rb, rc, ro⟩ := right_facts (hr k hlt hk)
    have hwf : (code[k]).wf := by obtain ⟨_, _, _, hw, _⟩ := els_ins h.codeE hlt; exact hw
    have hA : At code[k] k code s := ⟨hlt, hk, rfl, hwf.op, ra, rb, rc⟩
    have hm : mstepS code s = stepI code[k] s := by
      unfold mstepS
      rw [dif_pos hp]
      congr 1
      simp [hk]
    rw [hm]
    generalize code[k] = i at hA ro
    rcases ro with ho | ho | ho | ho | ho | ho | ho | ho | ho | ho | ho | ho
    · have := mstep_0 w g B am cm ca cc code s h i k hA ho
      rwa [show stepI i s = ({ s with fin := 1 }, false) from by unfold stepI; rw [if_pos ho]]
    · have := mstep_1 w g B am cm ca cc code s h i k hA ho
      rwa [show stepI i s = ({ s with fin := 2, told := i.imm }, false) from by unfold stepI; simp [ho]]
    · have := mstep_2 w g B am cm ca cc code s h i k hA ho
      rwa [show stepI i s = ({ s.setR i.a i.imm with pc := (k : Int) + 1 }, true) from by unfold stepI; simp [ho, hk]]
    · have := mstep_3 w g B am cm ca cc code s h i k hA ho
      rwa [show stepI i s = ({ s.setR i.a (wrap64 (s.R i.a * 4294967296 + low32 i.imm)) with pc := (k : Int) + 1 }, true) from by unfold stepI; simp [ho, hk]]
    · have := mstep_4 w g B am cm ca cc code s h i k hA ho
      rwa [show stepI i s = ({ s.setR i.a (s.R i.b) with pc := (k : Int) + 1 }, true) from by unfold stepI; simp [ho, hk]]
    · by_cases hin : 0 ≤ wrap64 (s.R i.b + i.imm) ∧ wrap64 (s.R i.b + i.imm) < (s.mem.length : Int)
      · obtain ⟨q, hq⟩ := Int.eq_ofNat_of_zero_le hin.1
        have := mstep_5a w g B am cm ca cc code s h i k hA ho q hq (by omega)
        rwa [show stepI i s = ({ s.setR i.a (s.mem.getD q 0) with pc := (k : Int) + 1 }, true) from by unfold stepI; rw [if_neg (by omega), if_neg (by omega), if_neg (by omega), if_neg (by omega), if_neg (by omega), if_neg (by omega), if_pos ho, if_pos hin, hq, hk]; rfl]
      · have := mstep_5b w g B am cm ca cc code s h i k hA ho hin
        rwa [show stepI i s = ({ s with fin := 3 }, false) from by unfold stepI; rw [if_neg (by omega), if_neg (by omega), if_neg (by omega), if_neg (by omega), if_neg (by omega), if_neg (by omega), if_pos ho, if_neg hin]]
    · by_cases hin : 0 ≤ wrap64 (s.R i.b + i.imm) ∧ wrap64 (s.R i.b + i.imm) < (s.mem.length : Int)
      · obtain ⟨q, hq⟩ := Int.eq_ofNat_of_zero_le hin.1
        have := mstep_6a w g B am cm ca cc code s h i k hA ho q hq (by omega)
        rwa [show stepI i s = ({ s with mem := s.mem.set q (s.R i.a), pc := (k : Int) + 1 }, true) from by unfold stepI; rw [if_neg (by omega), if_neg (by omega), if_neg (by omega), if_neg (by omega), if_neg (by omega), if_neg (by omega), if_neg (by omega), if_pos ho, if_pos hin, hq, hk]; rfl]
      · have := mstep_6b w g B am cm ca cc code s h i k hA ho hin
        rwa [show stepI i s = ({ s with fin := 3 }, false) from by unfold stepI; rw [if_neg (by omega), if_neg (by omega), if_neg (by omega), if_neg (by omega), if_neg (by omega), if_neg (by omega), if_neg (by omega), if_pos ho, if_neg hin]]
    · have := mstep_7 w g B am cm ca cc code s h i k hA ho
      rwa [show stepI i s = ({ s with pc := i.imm }, true) from by unfold stepI; simp [ho]]
    · by_cases hl : s.R i.a < s.R i.b
      · have := mstep_8a w g B am cm ca cc code s h i k hA ho hl
        rwa [show stepI i s = ({ s with pc := i.imm }, true) from by unfold stepI; simp [ho, hl]]
      · have := mstep_8b w g B am cm ca cc code s h i k hA ho hl
        rwa [show stepI i s = ({ s with pc := (k : Int) + 1 }, true) from by unfold stepI; simp [ho, hl, hk]]
    · by_cases hl : s.R i.a = 0
      · have := mstep_9a w g B am cm ca cc code s h i k hA ho hl
        rwa [show stepI i s = ({ s with pc := i.imm }, true) from by unfold stepI; simp [ho, hl]]
      · have := mstep_9b w g B am cm ca cc code s h i k hA ho hl
        rwa [show stepI i s = ({ s with pc := (k : Int) + 1 }, true) from by unfold stepI; simp [ho, hl, hk]]
    · have := mstep_10 w g B am cm ca cc code s h i k hA ho
      rwa [show stepI i s = ({ s.setR i.a (wrap64 (s.R i.b + i.imm)) with pc := (k : Int) + 1 }, true) from by unfold stepI; simp [ho, hk]]
    · have := mstep_call w g B am cm ca cc code s h i k hA ho
      rwa [stepI_call ho]
  · have := mstep_end w g B am cm ca cc code s h hp
    rwa [show mstepS code s = ({ s with fin := 5 }, false) from by unfold mstepS; rw [dif_neg hp]]
end Go.Proofs.Ytegjcghcknpjeaa
