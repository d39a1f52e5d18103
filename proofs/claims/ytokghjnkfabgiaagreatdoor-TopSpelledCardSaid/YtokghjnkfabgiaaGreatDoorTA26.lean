import Derived.Test.YtokghjnkfabgiaaGreatDoorTA19
import Derived.Test.YtokghjnkfabgiaaGreatDoorTA14
import Derived.Lib.UnsafeStr
namespace Go.Proofs.YtokghjnkfabgiaaGreatDoor
set_option maxRecDepth 100000
open Go.RowKit Go.Lib
set_option linter.unusedVariables false
set_option linter.unusedSimpArgs false
attribute [local go_sem] str_size str_get str_toList

/-! strings.Builder within the shower's block: it stands behind the two maps, at offset 2. -/
/-- the shower's block b: two maps, the builder, which holds the bytes of s -/
def ShB (w : World) (M b : Nat) (m1 m2 p : Value) (s : Str) : Prop :=
  M ≤ b ∧ ∃ v, w.heap[b]? = some (.cells #[m1, m2, p, v] 102 (0, 0)) ∧ w.ownsRow M 5 1 v s.length (Lib.strCells (str s)) ∧ v.ownBlock ≠ some b
theorem ShB.cell {w : World} {M b : Nat} {m1 m2 p : Value} {s : Str} (h : ShB w M b m1 m2 p s) : w.cell? ⟨b, 0, none⟩ = some m1 ∧ w.cell? ⟨b, 1, none⟩ = some m2 ∧ w.cell? ⟨b, 2, none⟩ = some p := by
  obtain ⟨_, v, hb, _⟩ := h
  simp [World.cell?, hb]
theorem ShB.lt {w : World} {M b : Nat} {m1 m2 p : Value} {s : Str} (h : ShB w M b m1 m2 p s) : b < w.heap.size := by
  obtain ⟨_, v, hb, _⟩ := h
  exact (Array.getElem?_eq_some_iff.1 hb).1
theorem ShB.used {w : World} {M b : Nat} {m1 m2 p : Value} {s : Str} (h : ShB w M b m1 m2 p s) (q : Value) : ShB (w.setCell ⟨b, 2, none⟩ q) M b m1 m2 q s := by
  obtain ⟨hB, v, hb, hown, hne⟩ := h
  refine ⟨hB, v, ?_, ?_, hne⟩
  · simp [World.setCell, Array.getElem?_modify, hb]
  · refine hown.kept (row := some b) ⟨rfl, rfl, rfl, by simp [World.setCell], fun k _ hk => Below.heap_setCell _ _ _ _ (fun e => hk (by simp [e]))⟩ ?_
    exact Or.inr hne
/-- blocks of other types than the shower's and its text's stay -/
def KeepSh (w w' : World) : Prop := ∀ u, u ≠ 5 → u ≠ 102 → KeepTy u w w'
theorem ShB.keepUsed {w : World} {M b k : Nat} {m1 m2 p : Value} {s : Str} (h : ShB w M b m1 m2 p s) (q : Value) : KeepSh w (w.setCell ⟨b, k, none⟩ q) := by
  obtain ⟨hB, v, hb, hown, hne⟩ := h
  exact fun u _ h2 => KeepTy.setCell (p := ⟨b, k, none⟩) (NotTy.of hb (Ne.symm h2)) _
theorem ShB.next {w w' : World} {M b : Nat} {m1 m2 p : Value} {s : Str} (h : ShB w M b m1 m2 p s) (hb : Below w.heap.size w w') : ShB w' M b m1 m2 p s := by
  obtain ⟨hB, v, h1, hown, hne⟩ := h
  exact ⟨hB, v, block_below h1 hb, own_keep hown (KeepTy.below hb), hne⟩
set_option maxHeartbeats 4000000 in
theorem check_used (b : Nat) (w : World) (h0 : w.cell? ⟨b, 2, none⟩ = some (.pointer (some ⟨b, 2, none⟩))) :
    Calls Tryz.prog 77 #[.pointer (some ⟨b, 2, none⟩)] w fun e w' => e = .returned (.tuple #[]) ∧ w' = w := by
  have hne := Lib.run_neq_ptr_same (P := Tryz.prog) (tp := 98) (te := 100) w ⟨b, 2, none⟩ (by kernel_rfl) rfl
  go_enter Tryz.func77, Tryz.ntmps77
  go_wp2
  go_end0
  exact ⟨rfl, rfl⟩
set_option maxHeartbeats 4000000 in
theorem check_fresh (b : Nat) (w : World) (h0 : w.cell? ⟨b, 2, none⟩ = some (.pointer none)) (hsh : w.shape? b = some (102, 4)) (hfz : w.frozen? ⟨b, 2, none⟩ = false) :
    Calls Tryz.prog 77 #[.pointer (some ⟨b, 2, none⟩)] w fun e w' => e = .returned (.tuple #[]) ∧ w' = w.setCell ⟨b, 2, none⟩ (.pointer (some ⟨b, 2, none⟩)) := by
  have hto := Lib.run_to_unsafe (P := Tryz.prog) (src := 98) (dst := 179) (t := 100) w ⟨b, 2, none⟩ (by kernel_rfl) (by kernel_rfl) rfl (by decide) hsh (by show 2 < 4; decide)
  have hfr := Lib.run_from_unsafe (P := Tryz.prog) (src := 179) (dst := 98) (u := 100) w ⟨b, 2, none⟩ (by kernel_rfl) (by kernel_rfl) rfl hsh (by kernel_rfl)
  go_enter Tryz.func77, Tryz.ntmps77
  go_wp2
  rw [run_callFunc_extern (f := 110) rfl (by kernel_rfl) (by kernel_rfl) (by kernel_rfl) (e := Extern.AbiNoEscape.same) (by kernel_rfl)]
  rw [Lib.run_noEscape]
  simp only [Result.andThen]
  rw [Oper.upon_value]
  go_wp2
  go_end0
  exact ⟨rfl, rfl⟩
theorem check_any (w : World) (M b : Nat) (m1 m2 p : Value) (s : Str) (hp : p = .pointer none ∨ p = .pointer (some ⟨b, 2, none⟩)) (h : ShB w M b m1 m2 p s) :
    Calls Tryz.prog 77 #[.pointer (some ⟨b, 2, none⟩)] w fun e w' => e = .returned (.tuple #[]) ∧ ShB w' M b m1 m2 (.pointer (some ⟨b, 2, none⟩)) s ∧ Below M w w' ∧ KeepSh w w' := by
  rcases hp with rfl | rfl
  · have hs : w.shape? b = some (102, 4) := by obtain ⟨_, v, hb, _⟩ := h; simp [World.shape?, hb]
    have hf : w.frozen? ⟨b, 2, none⟩ = false := by obtain ⟨_, v, hb, _⟩ := h; simp [World.frozen?, hb]
    refine (check_fresh b w h.cell.2.2 hs hf).mono ?_
    rintro e w' ⟨rfl, rfl⟩
    exact ⟨rfl, h.used _, (Below.refl M w).setCell (p := ⟨b, 2, none⟩) h.1 _, h.keepUsed _⟩
  · refine (check_used b w h.cell.2.2).mono ?_
    rintro e w' ⟨rfl, rfl⟩
    exact ⟨rfl, h, Below.refl M _, fun u _ _ => KeepTy.refl _ _⟩
theorem ShB.put {w : World} {M b : Nat} {m1 m2 p v0 v : Value} {s : Str} (hM : M ≤ b) (hb : w.heap[b]? = some (.cells #[m1, m2, p, v0] 102 (0, 0))) (hown : w.ownsRow M 5 1 v s.length (Lib.strCells (str s))) :
    ShB (w.setCell ⟨b, 3, none⟩ v) M b m1 m2 p s := by
  have hne := Lib.ownBlock_ne hown hb (by decide)
  refine ⟨hM, v, ?_, ?_, hne⟩
  · simp [World.setCell, Array.getElem?_modify, hb]
  · refine hown.kept (row := some b) ⟨rfl, rfl, rfl, by simp [World.setCell], fun k _ hk => Below.heap_setCell _ _ _ _ (fun e => hk (by simp [e]))⟩ ?_
    exact Or.inr hne
theorem strCells_app (s t : Str) : Lib.strCells (str (s ++ t)) = Lib.strCells (str s) ++ Lib.strCells (str t) := by
  simp [Lib.strCells, str]
set_option maxHeartbeats 4000000 in
theorem writes_any (w : World) (M b : Nat) (m1 m2 p : Value) (s t : Str) (hp : p = .pointer none ∨ p = .pointer (some ⟨b, 2, none⟩)) (h : ShB w M b m1 m2 p s) (hl : s.length + t.length ≤ 100000000000) (hM : M ≤ w.heap.size) :
    Calls Tryz.prog 50 #[.pointer (some ⟨b, 2, none⟩), .string (str t)] w fun e w' => e = .returned (.tuple #[.int .i64 t.length, .nilIface]) ∧ ShB w' M b m1 m2 (.pointer (some ⟨b, 2, none⟩)) (s ++ t) ∧ Below M w w' ∧ KeepSh w w' := by
  have HC := Lib.hid (check_any w M b m1 m2 p s hp h)
  clear h hp
  go_enter Tryz.func50, Tryz.ntmps50
  obtain ⟨i0, hi, hz0, hz1, hz2⟩ := info_parts (P := Tryz.prog) (e := 5) (z := .int .u8 0) (size := 1) (bytes := 1) (by kernel_rfl)
  go_wp2_with (go_at_call 77; refine HC.out.mono ?_)
  rintro e w1 ⟨rfl, h1, hb1, hk1⟩
  have HB1 := Lib.hid hb1; have H1 := Lib.hid h1; have HK1 := Lib.hid hk1
  clear hk1
  obtain ⟨hB, v, hbk, hown, hne⟩ := h1
  have c3 : w1.cell? ⟨b, 3, none⟩ = some v := by rw [Lib.cell_of_heap hbk]; rfl
  go_wp2_with (at_builtin; refine Lib.wpList_append_own_string _ rfl _ _ 53 9 rfl M 5 i0 (by kernel_rfl) (by kernel_rfl) hi hz0 hz1 hz2 _ _ _ rfl hown (str t) rfl ?c3 ?c4 ?c5 ?_)
  case c3 => rw [str_size]; unfold maxLen; omega
  case c4 => rw [str_size]; omega
  case c5 => have := HB1.out.size; omega
  intro v' w2 hown' hgrow _
  have hlt : b < w1.heap.size := H1.out.lt
  have hb2 : w2.heap[b]? = some (.cells #[m1, m2, .pointer (some ⟨b, 2, none⟩), v] 102 (0, 0)) := by
    rw [hgrow.block b hlt (fun e => hne e.symm)]
    exact hbk
  have f1 : w2.frozen? ⟨b, 3, none⟩ = false := Lib.frozen_of_heap hb2 3
  have d3 : w2.cell? ⟨b, 3, none⟩ = some v := by rw [Lib.cell_of_heap hb2]; rfl
  obtain ⟨ao, n', cap, rfl⟩ : ∃ ao n' cap, v' = .slice ao n' cap := by
    rcases hown'.2 with ⟨hv, _⟩ | ⟨g, cap, cur, hv, _⟩
    · exact ⟨_, _, _, hv⟩
    · exact ⟨_, _, _, hv⟩
  go_wp2
  go_ret2
  have hk2 : KeepSh w1 w2 := fun u h1 _ => KeepTy.grown hgrow (fun g e => by obtain ⟨cur, hc⟩ := own_typed hown e; exact NotTy.of hc (Ne.symm h1))
  refine ⟨by simp, ?_, ?_, fun u h1 h2 => ((HK1.out u h1 h2).trans (hk2 u h1 h2)).trans (KeepTy.setCell (p := ⟨b, 3, none⟩) (NotTy.of hb2 (Ne.symm h2)) _)⟩
  · refine ShB.put hB hb2 ?_
    rw [strCells_app]
    simpa [str_size] using hown'
  · exact (HB1.out.grown hgrow (by have := HB1.out.size; omega) (fun k hk => (hown.lt k hk).1)).setCell (p := ⟨b, 3, none⟩) hB _
end Go.Proofs.YtokghjnkfabgiaaGreatDoor

namespace Go.Proofs.YtokghjnkfabgiaaGreatDoor
set_option maxRecDepth 100000
open Go.RowKit Go.Lib
set_option linter.unusedVariables false
set_option linter.unusedSimpArgs false
attribute [local go_sem] str_size str_get str_toList
attribute [local go_sem high] run_str_add

/-! (*strings.Builder).String within the shower's block; (*shower).line. -/
theorem strCells_bytes (s : Str) : Lib.strCells (str s) = Lib.byteCells s := by
  simp [Lib.strCells, Lib.byteCells, str]
set_option maxHeartbeats 4000000 in
theorem read_any (w : World) (M b : Nat) (m1 m2 p : Value) (s : Str) (h : ShB w M b m1 m2 p s) (h0 : s ≠ []) :
    Calls Tryz.prog 41 #[.pointer (some ⟨b, 2, none⟩)] w fun e w' => e = .returned (.string (str s)) ∧ Below M w w' := by
  obtain ⟨hB, v, hbk, hown, hne⟩ := h
  have hl0 : s.length ≠ 0 := by simpa using h0
  rw [strCells_bytes] at hown
  obtain ⟨g, cap, cur, rfl, hbg, hg, hnc, hcm, hcs, htake⟩ : ∃ g cap cur, v = .slice (some ⟨g, 0, none⟩) s.length cap ∧ M ≤ g ∧ w.heap[g]? = some (.cells cur 5 (0, 0)) ∧ s.length ≤ cap ∧ cap ≤ maxLen ∧ cur.size = cap * 1 ∧ cur.toList.take (s.length * 1) = Lib.byteCells s := by
    rcases hown.2 with ⟨_, hz⟩ | ⟨g, cap, cur, hv, r⟩
    · exact absurd hz hl0
    · exact ⟨g, cap, cur, hv, r⟩
  have c1 : w.drew.cell? ⟨b, 3, none⟩ = some (.slice (some ⟨g, 0, none⟩) s.length cap) := by
    have : w.drew.heap[b]? = some (.cells #[m1, m2, p, .slice (some ⟨g, 0, none⟩) s.length cap] 102 (0, 0)) := hbk
    rw [Lib.cell_of_heap this]; rfl
  have hSD : (Builtin.unsafeSliceData_ #[53] 144 #[.slice (some ⟨g, 0, none⟩) s.length cap]).run Tryz.prog w.drew = .ok (.pointer (some ⟨g, 0, none⟩)) w.drew :=
    Lib.run_unsafeSliceData_row _ _ _ _ _ _ (by omega)
  have hUS : (Builtin.unsafeString_ #[144, 3] 9 #[.pointer (some ⟨g, 0, none⟩), .int .i64 s.length]).run Tryz.prog w.drew = .ok (.string (str s)) (w.drew.freeze ⟨g, 0, none⟩ s.length) := by
    refine Lib.run_unsafeString_row w.drew 144 3 9 5 (by kernel_rfl) (by kernel_rfl) g cur.size (by have hg' : w.drew.heap[g]? = some (.cells cur 5 (0, 0)) := hg; simp [World.shape?, hg']) s h0 (by omega) (by unfold maxLen at hcm; omega) ?_
    intro j x hx
    have := hown.cells (g := g) rfl j (.int .u8 x.toNat) (by simp [Lib.byteCells, hx])
    exact this
  go_enter Tryz.func41, Tryz.ntmps41
  go_wp2
  go_region
  all_goals (go_wp2; go_ret; exact ⟨rfl, Lib.below_freeze (Below.drew (Below.refl M w)) (p := ⟨g, 0, none⟩) hbg _⟩)
set_option maxHeartbeats 4000000 in
/-- one line of the text: head, words and a line's end -/
theorem showline_any (w : World) (M b : Nat) (m1 m2 p : Value) (s a c : Str) (hp : p = .pointer none ∨ p = .pointer (some ⟨b, 2, none⟩)) (h : ShB w M b m1 m2 p s) (hl : s.length + a.length + c.length ≤ 90000000000) (hM : M ≤ w.heap.size) :
    Calls Tryz.prog 70 #[.pointer (some ⟨b, 0, none⟩), .string (str a), .string (str c)] w fun e w' => e = .returned (.tuple #[]) ∧ ShB w' M b m1 m2 (.pointer (some ⟨b, 2, none⟩)) (s ++ (a ++ c ++ [10])) ∧ Below M w w' ∧ KeepSh w w' := by
  have hw := writes_any w M b m1 m2 p s (a ++ c ++ [10]) hp h (by simp; omega) hM
  have HW := Lib.hid hw
  clear hw h hp
  go_enter Tryz.func70, Tryz.ntmps70
  go_wp2_with (go_at_call 50; refine HW.out.mono ?_; rintro e w1 ⟨rfl, h1, h2, h3⟩; have H1 := Lib.hid h1; have H2 := Lib.hid h2; have H3 := Lib.hid h3)
  go_end0
  exact ⟨rfl, H1.out, H2.out, H3.out⟩
end Go.Proofs.YtokghjnkfabgiaaGreatDoor
