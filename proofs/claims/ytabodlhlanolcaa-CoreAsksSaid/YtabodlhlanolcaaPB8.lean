import Derived.Test.YtabodlhlanolcaaPB6
namespace Go.Proofs.Ytabodlhlanolcaa
set_option maxRecDepth 100000
open Go.RowKit
set_option linter.unusedVariables false
set_option linter.unusedSimpArgs false
attribute [local go_sem ↓] Go.wp_at_zero Go.wp_at_succ

def outB (nb : Nat) (k : Int) : Bool := decide (0 ≤ k) && decide (k < nb)
def firstZ (p : Int → Bool) : Nat → List Int → Int
  | _, [] => -1
  | k, x :: xs => if p x then k else firstZ p (k + 1) xs
theorem firstZ_step {p : Int → Bool} {k : Nat} {xs : List Int} (h : k < xs.length) : firstZ p k (xs.drop k) = if p xs[k] then (k : Int) else firstZ p (k + 1) (xs.drop (k + 1)) := by
  rw [List.drop_eq_getElem_cons h, firstZ]
theorem firstZ_nonneg {p : Int → Bool} : ∀ (xs : List Int) (k : Nat), decide (0 ≤ firstZ p k xs) = xs.any p
  | [], k => by simp [firstZ]
  | x :: xs, k => by
    rw [firstZ]
    by_cases h : p x
    · simp [h]
    · simp [h, firstZ_nonneg xs (k + 1)]
theorem els_z {w : World} {a : Option Addr} {xs : List Int} {k : Nat} (h : (Rep.int .i64).Els w a xs) (hk : k < xs.length) : ∃ b off, a = some ⟨b, off, none⟩ ∧ w.cell? ⟨b, off + k, none⟩ = some (.int .i64 xs[k]) := by
  obtain ⟨b, off, cs, rfl, ⟨rfl, hw⟩, hc⟩ := h k hk
  have x0 := hc 0 _ rfl
  simp only [show (Rep.int .i64).n = 1 from rfl, Nat.mul_one, Nat.add_zero] at x0
  exact ⟨b, off, rfl, x0⟩
set_option maxHeartbeats 4000000 in
theorem outnot_any (w : World) (k : Int) (q : Addr) (a : Option Addr) (nb c : Nat) (hq : w.cell? (q.add 1) = some (.slice a nb c)) (hq0 : q = ⟨q.block, 0, none⟩) :
    Calls Try.prog 25 #[.int .i64 k, .pointer (some q)] w fun e w' => e = .returned (.bool (!outB nb k)) ∧ Below w.heap.size w w' := by
  obtain ⟨qb, qo, qi⟩ := q
  cases hq0
  have hq1 : w.cell? ⟨qb, 1, none⟩ = some (.slice a nb c) := hq
  clear hq
  by_cases h0 : k < 0
  · have HG := Lib.hid (show (!outB nb k) = true from by unfold outB; rw [decide_eq_false (by omega)]; rfl)
    go_enter Try.func25, Try.ntmps25
    go_wp2_with fail
    go_ret
    exact ⟨ret_bool HG.out.symm, Below.refl _ _⟩
  have h0' : decide (k < 0) = false := by simpa using h0
  obtain ⟨kn, rfl⟩ : ∃ kn : Nat, k = kn := ⟨k.toNat, by omega⟩
  by_cases h1 : kn < nb
  · have h1' : decide ((nb : Int) ≤ (kn : Int)) = false := by simp; omega
    have h1i : (kn : Int) < (nb : Int) := by omega
    have HG := Lib.hid (show (!outB nb kn) = false from by unfold outB; rw [decide_eq_true (by omega), decide_eq_true (by omega)]; rfl)
    go_enter Try.func25, Try.ntmps25
    go_wp2_with fail
    go_ret
    exact ⟨ret_bool ((decide_eq_false (by omega)).trans HG.out.symm), Below.refl _ _⟩
  · have h1' : decide ((nb : Int) ≤ (kn : Int)) = true := by simp; omega
    have h1i : (nb : Int) ≤ (kn : Int) := by omega
    have HG := Lib.hid (show (!outB nb kn) = true from by unfold outB; rw [decide_eq_false (p := (kn : Int) < nb) (by omega), Bool.and_false]; rfl)
    clear h1
    go_enter Try.func25, Try.ntmps25
    go_wp2_with fail
    go_ret
    exact ⟨ret_bool HG.out.symm, Below.refl _ _⟩
set_option maxHeartbeats 4000000 in
theorem indexFuncZ (w : World) (a : Option Addr) (cap : Nat) (xs : List Int) (cv : Value) (p : Int → Bool) (hm : xs.length ≤ 9223372036854775807) (h : (Rep.int .i64).Els w a xs)
    (hp : ∀ i, (hi : i < xs.length) → ∀ w', Below w.heap.size w w' → Calls Try.prog 25 #[.int .i64 xs[i], cv] w' fun e w'' => e = .returned (.bool (p xs[i])) ∧ Below w'.heap.size w' w'') :
    Calls Try.prog 45 #[.slice a xs.length cap, .func (.func 25) #[] #[cv]] w fun e w' => e = .returned (.int .i64 (firstZ p 0 xs)) ∧ Below w.heap.size w w' := by
  have HI := Lib.hid h; have HP := Lib.hid hp; clear h hp
  go_enter Try.func45, Try.ntmps45
  go_wp2
  go_loopw [8] (fun i wr => ∃ k : Nat, k ≤ xs.length ∧ i = .int .i64 k ∧ firstZ p 0 xs = firstZ p k (xs.drop k) ∧ Below w.heap.size w wr) (fun i _ => xs.length - (intOf i).toNat)
  case atStart => exact ⟨0, Nat.zero_le _, rfl, rfl, Below.refl _ _⟩
  case round =>
    obtain ⟨k, hk, rfl, hr, hbel⟩ := hrel
    by_cases hlt : k < xs.length
    · rw [firstZ_step hlt] at hr
      obtain ⟨b, off, rfl, x0⟩ := els_z (HI.out.below _ hbel (Nat.le_refl _)) hlt
      have hq := HP.out k hlt wr hbel
      have Hr := Lib.hid hr; clear hr
      cases hv : p xs[k] with
      | true =>
        rw [hv] at hq
        have HQ := Lib.hid hq; have Hv := Lib.hid hv; clear hq hv
        go_wp2_with (refine HQ.out.mono ?_; rintro e w' ⟨rfl, hb1⟩)
        go_ret
        exact ⟨ret_int (by rw [Hr.out, if_pos Hv.out]), bNext hb1 hbel⟩
      | false =>
        rw [hv] at hq
        have HQ := Lib.hid hq; have Hv := Lib.hid hv; clear hq hv
        go_wp2_with (refine HQ.out.mono ?_; rintro e w' ⟨rfl, hb1⟩)
        go_roundw
        case rel => exact ⟨k + 1, by omega, by go_num, by rw [Hr.out, if_neg (by rw [Hv.out]; simp)], bNext hb1 hbel⟩
        case measure => simp [intOf]; omega
    · have Hr := Lib.hid hr; clear hr
      go_wp2
      go_ret
      exact ⟨ret_int (by rw [Hr.out, List.drop_eq_nil_of_le (by omega)]; rfl), hbel⟩
theorem containsFuncZ (w : World) (a : Option Addr) (cap : Nat) (xs : List Int) (cv : Value) (p : Int → Bool) (hm : xs.length ≤ 9223372036854775807) (h : (Rep.int .i64).Els w a xs)
    (hp : ∀ i, (hi : i < xs.length) → ∀ w', Below w.heap.size w w' → Calls Try.prog 25 #[.int .i64 xs[i], cv] w' fun e w'' => e = .returned (.bool (p xs[i])) ∧ Below w'.heap.size w' w'') :
    Calls Try.prog 24 #[.slice a xs.length cap, .func (.func 25) #[] #[cv]] w fun e w' => e = .returned (.bool (xs.any p)) ∧ Below w.heap.size w w' := by
  have hq := Lib.hid (indexFuncZ w a cap xs cv p hm h hp)
  clear hp h
  go_enter Try.func24, Try.ntmps24
  go_wp2_with (go_at_call 45; refine hq.out.mono ?_; rintro e w' ⟨rfl, hb1⟩)
  go_ret
  exact ⟨ret_bool (firstZ_nonneg _ _), hb1⟩
end Go.Proofs.Ytabodlhlanolcaa

namespace Go.Proofs.Ytabodlhlanolcaa
set_option maxRecDepth 100000
open Go.RowKit
set_option linter.unusedVariables false
set_option linter.unusedSimpArgs false

/-- a buffer behind others -/
def bufOk (V : Nat) (before : List Buf) (b : Buf) : Bool := growB V b.sides && decide (-1 ≤ b.input) && decide (b.input < 64) && !(decide (0 ≤ b.input) && before.any fun x => x.input == b.input)
def bufsOk (V : Nat) (bufs : List Buf) : Bool := (List.range bufs.length).all fun i => match bufs[i]? with | some b => bufOk V (bufs.take i) b | none => true
def madeOf (bufs : List Buf) : List Bool := bufs.map fun b => decide (0 ≤ b.input)
def stepsK (V : Nat) (bufs : List Buf) : List Stp → List Bool → Bool
  | [], _ => true
  | s :: r, made => stepS V bufs made s && stepsK V bufs r (made.set s.buf.toNat true)
def sizesB (c : Cor) : Bool := decide (0 ≤ c.vars) && decide (c.vars ≤ 6) && decide (c.bufs.length ≤ 1024) && decide (c.steps.length ≤ 1024) && decide (c.outs.length ≤ 64)
def rightB (c : Cor) : Bool := sizesB c && (bufsOk c.vars.toNat c.bufs && (stepsK c.vars.toNat c.bufs c.steps (madeOf c.bufs) && c.outs.all (outB c.bufs.length)))
theorem bufsOk_bad {V : Nat} {bufs : List Buf} {i : Nat} (hi : i < bufs.length) (h : bufOk V (bufs.take i) bufs[i] = false) : bufsOk V bufs = false := by
  unfold bufsOk
  refine List.all_eq_false.2 ⟨i, List.mem_range.2 hi, ?_⟩
  rw [List.getElem?_eq_getElem hi]
  simp [h]
theorem bufsOk_good {V : Nat} {bufs : List Buf} (h : ∀ i, (hi : i < bufs.length) → bufOk V (bufs.take i) bufs[i] = true) : bufsOk V bufs = true := by
  unfold bufsOk
  refine List.all_eq_true.2 fun i hm => ?_
  have hi := List.mem_range.1 hm
  rw [List.getElem?_eq_getElem hi]
  exact h i hi
theorem stepsK_step {V : Nat} {bufs : List Buf} {l : List Stp} {k : Nat} (h : k < l.length) (made : List Bool) : stepsK V bufs (l.drop k) made = (stepS V bufs made l[k] && stepsK V bufs (l.drop (k + 1)) (made.set l[k].buf.toNat true)) := by rw [List.drop_eq_getElem_cons h, stepsK]
end Go.Proofs.Ytabodlhlanolcaa
