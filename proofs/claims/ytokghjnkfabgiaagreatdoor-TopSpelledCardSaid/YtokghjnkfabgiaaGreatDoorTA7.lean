import Derived.Test.YtokghjnkfabgiaaGreatDoorTA6
import Derived.WalkSpells
namespace Go.Proofs.YtokghjnkfabgiaaGreatDoor
set_option maxRecDepth 100000
open Go.Lib
set_option linter.unusedVariables false
set_option linter.unusedSimpArgs false

/-! The program's own words: plain. -/
def verbsW : List (Str × Int × Int) :=
  [([43], 1, 1), ([45], 2, 2), ([42], 3, 3), ([37], 4, 4), ([124], 5, 5), ([109, 105, 110], 6, 6), ([109, 97, 120], 7, 7),
   ([61], 8, 0), ([126], 9, 16), ([60], 10, 0), ([60, 61], 11, 0), ([62, 61], 12, 0), ([62], 13, 0), ([97, 110, 100], 14, 0), ([111, 114], 15, 0), ([112, 111, 119], 17, 0),
   ([114, 104, 111], 37, 0), ([116, 97, 107, 101], 38, 0), ([100, 114, 111, 112], 39, 0), ([99, 97, 116], 40, 0),
   ([105, 111, 116, 97], 0, 32), ([115, 104, 97, 112, 101], 0, 33), ([114, 97, 118, 101, 108], 0, 34), ([114, 101, 118], 0, 35), ([116, 117, 114, 110], 0, 36)]
def findW (s : Str) : Option (Str × Int × Int) := verbsW.find? fun x => decide (x.1 = s)
def twoW (s : Str) : Int := match findW s with | some x => x.2.1 | none => 0
def oneW (s : Str) : Int := match findW s with | some x => x.2.2 | none => 0
def verbW (s : Str) : Bool := oneW s != 0 || twoW s != 0
/-- a text that is one word -/
def lexName (s : Str) : Bool := match lexP s with
  | some [p] => p.1.kind == 1 && decide (p.1.word = s)
  | _ => false
def nameW (s : Str) : Bool := !(verbW s || decide (s = kwIn) || decide (s = kwOut)) && lexName s
def VV : Voc := ⟨twoW, oneW, nameW⟩
def wtwoW (n : Int) : Str := if n = 0 then [] else match verbsW.find? (fun x => decide (x.2.1 = n)) with | some x => x.1 | none => []
def woneW (n : Int) : Str := if n = 0 then [] else match verbsW.find? (fun x => decide (x.2.2 = n)) with | some x => x.1 | none => []
def kindW (s : Str) : Int := match s with | b :: _ => if isLetter b = true then 1 else 3 | [] => 3
theorem find_mem {s : Str} {x : Str × Int × Int} (h : findW s = some x) : x ∈ verbsW ∧ x.1 = s := ⟨List.mem_of_find?_eq_some h, by simpa using List.find?_some h⟩
theorem verbs_all : ∀ x ∈ verbsW, (x.2.1 ≠ 0 → twoW (wtwoW x.2.1) = x.2.1) ∧ (x.2.2 ≠ 0 → oneW (woneW x.2.2) = x.2.2) := by decide
theorem verb_mem {s : Str} (h : verbW s = true) : ∃ x ∈ verbsW, x.1 = s := by
  unfold verbW oneW twoW at h
  cases hf : findW s with
  | none => rw [hf] at h; cases h
  | some x => exact ⟨x, find_mem hf⟩
theorem verbs_right : ∀ x ∈ verbsW, (kindW x.1 = 1 ∧ (∃ b q, x.1 = b :: q ∧ isLetter b = true ∧ (∀ c ∈ x.1, isNameB c = true) ∧ x.1.length ≤ 16)) ∨ (kindW x.1 = 3 ∧ ((∃ b, x.1 = [b] ∧ isSignB b = true) ∨ x.1 = [60, 61] ∨ x.1 = [62, 61])) := by
  have : ∀ x ∈ verbsW, (kindW x.1 = 1 ∧ (isLetter (x.1.headD 0) = true ∧ (∀ c ∈ x.1, isNameB c = true) ∧ x.1.length ≤ 16) ∧ x.1 ≠ []) ∨ (kindW x.1 = 3 ∧ ((x.1 = [x.1.headD 0] ∧ isSignB (x.1.headD 0) = true) ∨ x.1 = [60, 61] ∨ x.1 = [62, 61])) := by decide
  intro x hx
  rcases this x hx with ⟨h1, ⟨h2, h3, h4⟩, h5⟩ | ⟨h1, h2⟩
  · refine .inl ⟨h1, ?_⟩
    cases hw : x.1 with
    | nil => exact absurd hw h5
    | cons b q =>
      rw [hw] at h2 h3 h4
      exact ⟨b, q, rfl, h2, h3, h4⟩
  · refine .inr ⟨h1, ?_⟩
    rcases h2 with ⟨h, h'⟩ | h
    · exact .inl ⟨_, h, h'⟩
    · exact .inr h
def LL : Spl where
  V := VV
  wtwo := wtwoW
  wone := woneW
  kind := kindW
  kinds := fun s => by unfold kindW; split <;> (try split) <;> simp
  two := fun s h => by
    show twoW (wtwoW (twoW s)) = twoW s
    have h' : twoW s ≠ 0 := h
    unfold twoW at h'
    cases hf : findW s with
    | none => rw [hf] at h'; exact absurd rfl h'
    | some x =>
      have e : twoW s = x.2.1 := by unfold twoW; rw [hf]
      rw [hf] at h'
      rw [e]
      exact (verbs_all x (find_mem hf).1).1 h'
  one := fun s h => by
    show oneW (woneW (oneW s)) = oneW s
    have h' : oneW s ≠ 0 := h
    unfold oneW at h'
    cases hf : findW s with
    | none => rw [hf] at h'; exact absurd rfl h'
    | some x =>
      have e : oneW s = x.2.2 := by unfold oneW; rw [hf]
      rw [hf] at h'
      rw [e]
      exact (verbs_all x (find_mem hf).1).2 h'
  verb47 := by decide
  verb92 := by decide
  verb46 := by decide
  verb40 := by decide
  verb41 := by decide
  nverb := fun s h => by
    have h : nameW s = true := h
    show verbW s = false
    unfold nameW at h
    cases hv : verbW s with
    | false => rfl
    | true => rw [hv] at h; cases h
  two0 := by decide
  one0 := by decide
theorem KK : Kw LL.V := ⟨by decide, by decide, by decide⟩
theorem RR : SplR LL where
  verb := fun s h => by
    obtain ⟨x, hx, rfl⟩ := verb_mem h
    rcases verbs_right x hx with ⟨h1, h2⟩ | ⟨h1, h2⟩
    · exact .inl ⟨h1, rfl, h2⟩
    · exact .inr (.inr (.inl ⟨h1, rfl, h2⟩))
  name := fun s h => by
    have h : nameW s = true := h
    unfold nameW at h
    simp only [Bool.and_eq_true] at h
    have h2 := h.2
    unfold lexName at h2
    split at h2
    · rename_i p hp
      simp only [Bool.and_eq_true, beq_iff_eq, decide_eq_true_eq] at h2
      unfold lexP at hp
      split at hp
      · cases hp
      · have hr := lex_right _ _ _ _ hp p List.mem_cons_self
        obtain ⟨⟨k, w, n⟩, a⟩ := p
        dsimp only at h2 hr
        obtain ⟨rfl, rfl⟩ := h2
        rcases hr with hr | ⟨e, _⟩ | ⟨e, _⟩ | e
        · obtain ⟨-, hn, hw⟩ := hr
          dsimp only at hn
          subst hn
          exact .inl ⟨rfl, rfl, hw⟩
        · exact absurd (show (1 : Int) = 2 from e) (by decide)
        · exact absurd (show (1 : Int) = 3 from e) (by decide)
        · exact absurd (congrArg Tk.kind e) (show ¬ (1 : Int) = 4 by decide)
    · cases h2
/-- the text that the law tries first -/
theorem first_read : ∃ q p, lexP [111, 117, 116, 32, 49, 43, 50] = some q ∧ parseP VV (bare q) = some p ∧ p.lines.length = 1 := by
  have h : (match lexP [111, 117, 116, 32, 49, 43, 50] with | some q => (match parseP VV (bare q) with | some p => p.lines.length == 1 | none => false) | none => false) = true := by decide +kernel
  split at h
  · rename_i q hq
    split at h
    · rename_i p hp
      exact ⟨q, p, hq, hp, by simpa using h⟩
    · cases h
  · cases h
end Go.Proofs.YtokghjnkfabgiaaGreatDoor

namespace Go.Proofs.YtokghjnkfabgiaaGreatDoor
set_option maxRecDepth 100000
open Go.RowKit Go.Lib
set_option linter.unusedVariables false
set_option linter.unusedSimpArgs false

/-! Strings by their lists of bytes. -/
def str (l : Str) : ByteArray := ⟨l.toArray⟩
def ls (s : ByteArray) : Str := s.data.toList
theorem str_ls (s : ByteArray) : str (ls s) = s := by unfold str ls; simp
theorem ls_str (l : Str) : ls (str l) = l := by unfold str ls; simp
theorem str_size (l : Str) : (str l).size = l.length := by unfold str; simp [ByteArray.size]
theorem str_get (l : Str) (i : Nat) (h : i < (str l).size) : (str l)[i] = l[i]'(by rw [← str_size]; exact h) := by
  unfold str
  rfl
theorem str_toList (l : Str) : (str l).toList = l := by unfold str; simp
theorem str_append (a b : Str) : str a ++ str b = str (a ++ b) := ByteArray.mk_append_mk a b
theorem str_extract (l : Str) (a b : Nat) : (str l).extract a b = str ((l.take b).drop a) := by
  have h : ((str l).extract a b).data = (str ((l.take b).drop a)).data := by
    rw [ByteArray.data_extract]
    unfold str
    simp [List.extract_eq_take_drop, List.drop_take]
  cases hx : (str l).extract a b with
  | mk d => rw [hx] at h; cases hy : str ((l.take b).drop a) with
    | mk e => rw [hy] at h; exact congrArg ByteArray.mk h
theorem str_from (l : Str) (a : Nat) : (str l).extract a l.length = str (l.drop a) := by rw [str_extract, List.take_length]
theorem str_upto (l : Str) (b : Nat) : (str l).extract 0 b = str (l.take b) := by rw [str_extract, List.drop_zero]
section
variable {P : Program} (w : World)
theorem run_str_from (t : TypeId) (l : Str) (k : IntKind) (i : Int) (h : P.underlying t = some .string) :
    (Instr.slice t (.string (str l)) (some (.int k i)) none none).run P w =
      if 0 ≤ i ∧ i ≤ (l.length : Int) then .ok (.string (str (l.drop i.toNat))) w else ((boundsPanic k i l.length .sliceB : Sem Nat).run P w).andThen fun a w' => .ok (.string (str (l.drop a))) w' := by
  rw [run_slice_string_from_if w t (str l) k i h, str_size]
  simp only [str_from]
theorem run_str_to (t : TypeId) (l : Str) (k : IntKind) (j : Int) (h : P.underlying t = some .string) :
    (Instr.slice t (.string (str l)) none (some (.int k j)) none).run P w =
      if 0 ≤ j ∧ j ≤ (l.length : Int) then .ok (.string (str (l.take j.toNat))) w else ((boundsPanic k j l.length .sliceAlen : Sem Nat).run P w).andThen fun a w' => .ok (.string (str (l.take a))) w' := by
  rw [run_slice_string_to_if w t (str l) k j h, str_size]
  simp only [str_upto]
theorem run_str_add (a b : Str) (h : a.length + b.length ≤ 9223372036854775807) : (Op.stringOp .add (str a) (str b)).run P w = .ok (.string (str (a ++ b))) w := by
  rw [run_string_add_sum w _ _ (by rw [str_size, str_size]; exact h), str_append]
end
theorem str_inj {a b : Str} : str a = str b ↔ a = b := ⟨fun h => by rw [← ls_str a, h, ls_str], fun h => by rw [h]⟩
end Go.Proofs.YtokghjnkfabgiaaGreatDoor
