import Derived.Test.YtokghjnkfabgiaaGreatDoorTD3
import Derived.WalkSpells
set_option linter.unusedVariables false
set_option linter.unusedSimpArgs false
set_option maxRecDepth 100000
namespace Go.Proofs.YtokghjnkfabgiaaGreatDoor
open Go.RowKit Go.Lib

def str (l : Str) : ByteArray := ⟨l.toArray⟩
def ls (s : ByteArray) : Str := s.data.toList
theorem ls_str (l : Str) : ls (str l) = l := by unfold str ls; simp
theorem str_size (l : Str) : (str l).size = l.length := by unfold str; simp [ByteArray.size]
theorem str_get (l : Str) (i : Nat) (h : i < (str l).size) : (str l)[i] = l[i]'(by rw [← str_size]; exact h) := by
 unfold str
 rfl
theorem str_toList (l : Str) : (str l).toList = l := by unfold str; simp
theorem str_append (a b : Str) : str a ++ str b = str (a ++ b) := ByteArray.mk_append_mk a b
theorem str_extract (l : Str) (a b : Nat) : (str l).extract a b = str ((l.take b).drop a) := by
 have h : ((str l).extract a b).data = (str ((l.take b).drop a)).data := by
  rw [ByteArray.data_extract]
  unfold str
  simp [List.extract_eq_take_drop, List.drop_take]
 cases hx : (str l).extract a b with
 | mk d => rw [hx] at h; cases hy : str ((l.take b).drop a) with
  | mk e => rw [hy] at h; exact congrArg ByteArray.mk h
theorem str_from (l : Str) (a : Nat) : (str l).extract a l.length = str (l.drop a) := by rw [str_extract, List.take_length]
theorem str_upto (l : Str) (b : Nat) : (str l).extract 0 b = str (l.take b) := by rw [str_extract, List.drop_zero]
section
variable {P : Program} (w : World)
theorem run_str_from (t : TypeId) (l : Str) (k : IntKind) (i : Int) (h : P.underlying t = some .string) :
  (Instr.slice t (.string (str l)) (some (.int k i)) none none).run P w =
   if 0 ≤ i ∧ i ≤ (l.length : Int) then .ok (.string (str (l.drop i.toNat))) w else ((boundsPanic k i l.length .sliceB : Sem Nat).run P w).andThen fun a w' => .ok (.string (str (l.drop a))) w' := by
 rw [run_slice_string_from_if w t (str l) k i h, str_size]
 simp only [str_from]
theorem run_str_to (t : TypeId) (l : Str) (k : IntKind) (j : Int) (h : P.underlying t = some .string) :
  (Instr.slice t (.string (str l)) none (some (.int k j)) none).run P w =
   if 0 ≤ j ∧ j ≤ (l.length : Int) then .ok (.string (str (l.take j.toNat))) w else ((boundsPanic k j l.length .sliceAlen : Sem Nat).run P w).andThen fun a w' => .ok (.string (str (l.take a))) w' := by
 rw [run_slice_string_to_if w t (str l) k j h, str_size]
 simp only [str_upto]
theorem run_str_add (a b : Str) (h : a.length + b.length ≤ 9223372036854775807) : (Op.stringOp .add (str a) (str b)).run P w = .ok (.string (str (a ++ b))) w := by
 rw [run_string_add_sum w _ _ (by rw [str_size, str_size]; exact h), str_append]
end
end Go.Proofs.YtokghjnkfabgiaaGreatDoor
