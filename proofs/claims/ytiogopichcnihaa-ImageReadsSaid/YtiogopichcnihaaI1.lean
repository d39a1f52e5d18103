-- DROPS
import Derived.Test.YtiogopichcnihaaV2
import Derived.Lib.OthersKept
import Derived.Deep.LoopGhost
namespace Go.Proofs.Ytiogopichcnihaa
set_option maxRecDepth 100000
open Go.RowKit
set_option linter.unusedVariables false
set_option linter.unusedSimpArgs false

/-- which fields an Op has: 0: it is none -/
def kind (op : Int) : Nat :=
  if op = 0 then 1 else if op = 1 ∨ op = 7 then 2 else if op = 2 ∨ op = 3 ∨ op = 9 then 3 else if op = 4 then 4 else if op = 5 ∨ op = 6 ∨ op = 8 ∨ op = 10 then 5
  else if 128 ≤ op then (if takes (op - 128) true then 6 else 0) else if 64 ≤ op then (if takes (op - 64) false then 7 else 0) else 0

/-- the letters of its fields -/
def letS : Nat → ByteArray
  | 2 => ⟨#[105]⟩
  | 3 => ⟨#[97, 105]⟩
  | 4 => ⟨#[97, 98]⟩
  | 5 => ⟨#[97, 98, 105]⟩
  | 6 => ⟨#[110, 97, 98, 99]⟩
  | 7 => ⟨#[110, 97, 98]⟩
  | _ => ⟨#[]⟩
def HasP (k : Nat) (l : ByteArray) (w : World) (e : Ending) (w' : World) : Prop := (∃ nm : ByteArray, e = .returned (.tuple #[.string nm, .string l]) ∧ nm.toList.isEmpty = (k == 0)) ∧ w = w'

set_option maxHeartbeats 4000000 in
theorem has_any (w : World) (op : Int) (h0 : 0 ≤ op) (h1 : op ≤ 255) : Calls Try.prog 50 #[.int .u8 op] w (HasP (kind op) (letS (kind op)) w) := by
  have hc : op = 0 ∨ op = 1 ∨ op = 2 ∨ op = 3 ∨ op = 4 ∨ op = 5 ∨ op = 6 ∨ op = 7 ∨ op = 8 ∨ op = 9 ∨ op = 10 ∨ (11 ≤ op ∧ op < 64) ∨ (64 ≤ op ∧ op < 128) ∨ 128 ≤ op := by omega
  rcases hc with rfl | rfl | rfl | rfl | rfl | rfl | rfl | rfl | rfl | rfl | rfl | ⟨ha, hb⟩ | ⟨ha, hb⟩ | ha
  iterate 11
    · go_enter Try.func50, Try.ntmps50
      go_wp2
      go_ret2
      exact ⟨⟨_, rfl, by kernel_rfl⟩, rfl⟩
  · have hk : kind op = 0 := by unfold kind; rw [if_neg (by omega), if_neg (by omega), if_neg (by omega), if_neg (by omega), if_neg (by omega), if_neg (by omega), if_neg (by omega)]
    rw [hk]
    clear hk
    go_enter Try.func50, Try.ntmps50
    go_wp2
    go_ret2
    exact ⟨⟨_, rfl, by kernel_rfl⟩, rfl⟩
  · have hk : kind op = if takes (op - 64) false then 7 else 0 := by unfold kind; rw [if_neg (by omega), if_neg (by omega), if_neg (by omega), if_neg (by omega), if_neg (by omega), if_neg (by omega), if_pos (by omega)]
    have ht := takes_any w (op - 64) false
    cases hx : takes (op - 64) false with
    | true =>
      rw [hx] at ht hk
      rw [hk]
      have HT := Lib.hid ht
      clear hk ht hx
      go_enter Try.func50, Try.ntmps50
      go_wp2_with (go_at_call 61; refine HT.out.mono ?_; rintro e w1 ⟨rfl, rfl⟩)
      go_ret2
      exact ⟨⟨_, rfl, by kernel_rfl⟩, rfl⟩
    | false =>
      rw [hx] at ht hk
      rw [hk]
      have HT := Lib.hid ht
      clear hk ht hx
      go_enter Try.func50, Try.ntmps50
      go_wp2_with (go_at_call 61; refine HT.out.mono ?_; rintro e w1 ⟨rfl, rfl⟩)
      go_ret2
      exact ⟨⟨_, rfl, by kernel_rfl⟩, rfl⟩
  · have hk : kind op = if takes (op - 128) true then 6 else 0 := by unfold kind; rw [if_neg (by omega), if_neg (by omega), if_neg (by omega), if_neg (by omega), if_neg (by omega), if_pos (by omega)]
    have ht := takes_any w (op - 128) true
    cases hx : takes (op - 128) true with
    | true =>
      rw [hx] at ht hk
      rw [hk]
      have HT := Lib.hid ht
      clear hk ht hx
      go_enter Try.func50, Try.ntmps50
      go_wp2_with (go_at_call 61; refine HT.out.mono ?_; rintro e w1 ⟨rfl, rfl⟩)
      go_ret2
      exact ⟨⟨_, rfl, by kernel_rfl⟩, rfl⟩
    | false =>
      rw [hx] at ht hk
      rw [hk]
      have HT := Lib.hid ht
      clear hk ht hx
      go_enter Try.func50, Try.ntmps50
      go_wp2_with (go_at_call 61; refine HT.out.mono ?_; rintro e w1 ⟨rfl, rfl⟩)
      go_ret2
      exact ⟨⟨_, rfl, by kernel_rfl⟩, rfl⟩

/-- an instruction -/
def insRight (op a b c imm : Int) : Bool :=
  kind op != 0 && decide (a < 16) && decide (b < 16) && decide (c < 16) && (decide (3 ≤ kind op) || a == 0) && (decide (4 ≤ kind op) || b == 0) && (kind op == 6 || c == 0) && (kind op == 2 || kind op == 3 || kind op == 5 || imm == 0)

/-- what is left of a field whose letter is x, when the letters bs are struck -/
def struck (bs : List UInt8) (x : UInt8) (n : Int) : Int := if x ∈ bs then 0 else n
theorem struck_snoc (bs : List UInt8) (x y : UInt8) (n : Int) : struck (bs ++ [y]) x n = if y = x then 0 else struck bs x n := by
  unfold struck
  by_cases h : y = x
  · subst h; simp
  · have : ¬ x = y := fun e => h e.symm
    simp [h, this]
theorem struck_way {x : UInt8} {y : Int} (hy : (x.toNat : Int) = y) (bs : List UInt8) (z : UInt8) (n : Int) : struck (bs ++ [x]) z n = if y = z.toNat then 0 else struck bs z n := by
  rw [struck_snoc]
  by_cases h : x = z
  · subst h; rw [if_pos rfl, if_pos hy.symm]
  · rw [if_neg h, if_neg (fun e => h (UInt8.toNat_inj.1 (by omega)))]
def insV (op a b c imm : Int) : Array Value := #[.int .u8 op, .int .u8 a, .int .u8 b, .int .u8 c, .int .i32 imm]
theorem take_snocB (s : ByteArray) (k : Nat) (h : k < s.size) : s.data.toList.take (k + 1) = s.data.toList.take k ++ [s[k]] := by
  rw [List.take_succ_eq_append_getElem (by simpa using h)]; rfl
def LetRel (w : World) (l : ByteArray) (op a b c imm : Int) (n : Nat) (wr : World) : Prop :=
  ∃ pos, pos ≤ l.size ∧ n = l.size - pos ∧ wr.heap[w.heap.size + 2]? = some (.stringIter l pos) ∧ wr.heap[w.heap.size]? = some (.cells (insV op a b c imm) 43 (0, 0)) ∧
    wr.heap[w.heap.size + 1]? = some (.cells (insV op (struck (l.data.toList.take pos) 97 a) (struck (l.data.toList.take pos) 98 b) (struck (l.data.toList.take pos) 99 c) (struck (l.data.toList.take pos) 105 imm)) 43 (0, 0)) ∧ Below w.heap.size w wr

set_option maxHeartbeats 4000000 in
theorem isaRight_loop (w : World) (op a b c imm : Int) (l : ByteArray) (hl : l.size ≤ 4) (hasc : ∀ i, (h : i < l.size) → (l[i]).toNat < 128) (h0 : 0 ≤ op) (h1 : op ≤ 255) (ha : a < 16) (hb : b < 16) (hc : c < 16)
    (hk : ∀ W, Calls Try.prog 50 #[.int .u8 op] W (HasP 1 l W)) :
    Calls Try.prog 34 #[.agg #[.int .u8 op, .int .u8 a, .int .u8 b, .int .u8 c, .int .i32 imm]] w fun e w' =>
      e = .returned (.bool (struck l.data.toList 97 a == 0 && struck l.data.toList 98 b == 0 && struck l.data.toList 99 c == 0 && struck l.data.toList 105 imm == 0)) ∧ Below w.heap.size w w' := by
  have HK := Lib.hid hk; have HA := Lib.hid hasc
  clear hk hasc
  go_enter Try.func34, Try.ntmps34
  go_wp2_with fail
  refine (HK.out _).mono ?_
  rintro e w1 ⟨⟨nm, rfl, hn⟩, rfl⟩
  have hn1 : nm.toList.isEmpty = false := hn
  clear hn
  go_wp2_with fail
  go_loopg [7] (l.size) (fun k ch wr => LetRel w l op a b c imm k wr)
  case atStart =>
    refine ⟨0, Nat.zero_le _, rfl, ?_, ?_, ?_, ?_⟩
    · simp only [World.iter]; exact (congrArg (fun n => (((w.alloc _).alloc _).alloc (.stringIter l 0)).heap[n]?) (by simp)).trans (World.alloc_heap_new _ _)
    · simp only [World.iter]; exact (Below.heap_alloc _ _ _ (by simp; omega)).trans ((Below.heap_alloc _ _ _ (by simp)).trans (World.alloc_heap_new _ _))
    · simp only [World.iter, List.take_zero, struck]; exact (Below.heap_alloc _ _ _ (by simp)).trans ((congrArg (fun n => ((w.alloc _).alloc _).heap[n]?) (by simp)).trans (World.alloc_heap_new _ _))
    · exact (((Below.refl _ _).alloc (Nat.le_refl _) _).alloc (by simp) _).alloc (by simp; omega) _
  case round =>
    obtain ⟨pos, hp, hg, hit, hpar, hle, hB⟩ := hrel
    have Hg := Lib.hid hg; have Hit := Lib.hid hit; have Hpar := Lib.hid hpar; have Hle := Lib.hid hle
    have hsz : w.heap.size + 2 < wr.heap.size := (Array.getElem?_eq_some_iff.1 hit).1
    have HB := Lib.hid hB
    by_cases hlt : pos < l.size
    · have hnx := Lib.run_next_ascii_at (P := Try.prog) wr (w.heap.size + 1 + 1) l pos 0 hit hlt (HA.out pos hlt)
      obtain ⟨wi, hwi⟩ : ∃ wi, wr.iterAt (w.heap.size + 1 + 1) l (pos + 1) = wi := ⟨_, rfl⟩
      have hit1 : wi.heap[w.heap.size + 2]? = some (.stringIter l (pos + 1)) := by rw [← hwi]; exact Lib.iterAt_heap _ _ _ _ _ hit
      have hpar1 : wi.heap[w.heap.size]? = some (.cells (insV op a b c imm) 43 (0, 0)) := by rw [← hwi]; exact (Lib.iterAt_other _ _ _ _ _ (by omega)).trans hpar
      have hle1 := (Lib.iterAt_other wr (w.heap.size + 1 + 1) (w.heap.size + 1) l (pos + 1) (by omega)).trans hle
      rw [hwi] at hle1 hnx
      have hB1 : Below w.heap.size w wi := by rw [← hwi]; exact Lib.below_iterAt hB (by omega) _ _
      have hts := take_snocB l pos hlt
      obtain ⟨x, hx⟩ : ∃ x, l[pos] = x := ⟨_, rfl⟩
      rw [hx] at hnx hts
      obtain ⟨y, hy⟩ : ∃ y : Int, (x.toNat : Int) = y := ⟨_, rfl⟩
      rw [hy] at hnx
      have Hit1 := Lib.hid hit1; have Hpar1 := Lib.hid hpar1; have Hle1 := Lib.hid hle1; have HB1 := Lib.hid hB1; have Hts := Lib.hid hts; have Hy := Lib.hid hy
      clear hg hit hpar hle hB hit1 hpar1 hle1 hB1 hts hwi hx hy
      obtain ⟨za, hza⟩ : ∃ za, struck (l.data.toList.take pos) 97 a = za := ⟨_, rfl⟩
      obtain ⟨zb, hzb⟩ : ∃ zb, struck (l.data.toList.take pos) 98 b = zb := ⟨_, rfl⟩
      obtain ⟨zc, hzc⟩ : ∃ zc, struck (l.data.toList.take pos) 99 c = zc := ⟨_, rfl⟩
      obtain ⟨zi, hzi⟩ : ∃ zi, struck (l.data.toList.take pos) 105 imm = zi := ⟨_, rfl⟩
      have hL := Hle1.out
      rw [hza, hzb, hzc, hzi] at hL
      have hc1 : wi.cell? ⟨w.heap.size + 1, 1, none⟩ = some (.int .u8 za) := by rw [cell_of_row wi _ 1 _ _ _ hL]; rfl
      have hc2 : wi.cell? ⟨w.heap.size + 1, 2, none⟩ = some (.int .u8 zb) := by rw [cell_of_row wi _ 2 _ _ _ hL]; rfl
      have hc3 : wi.cell? ⟨w.heap.size + 1, 3, none⟩ = some (.int .u8 zc) := by rw [cell_of_row wi _ 3 _ _ _ hL]; rfl
      have hc4 : wi.cell? ⟨w.heap.size + 1, 4, none⟩ = some (.int .i32 zi) := by rw [cell_of_row wi _ 4 _ _ _ hL]; rfl
      have hf : ∀ j, wi.frozen? ⟨w.heap.size + 1, j, none⟩ = false := fun j => frozen_of_row wi _ j _ _ hL
      have hnew : ∀ z n, struck (l.data.toList.take (pos + 1)) z n = if y = z.toNat then 0 else struck (l.data.toList.take pos) z n := fun z n => by rw [Hts.out]; exact struck_way Hy.out _ _ _
      have HL := Lib.hid hL; have Hnew := Lib.hid hnew; have Hza := Lib.hid hza; have Hzb := Lib.hid hzb; have Hzc := Lib.hid hzc; have Hzi := Lib.hid hzi
      clear hL hnew hza hzb hzc hzi
      go_wp2_with fail
      all_goals
        go_roundg (l.size - (pos + 1))
        case measure => have := Hg.out; omega
      case rel =>
        have hy : y = 97 := by simpa using ‹(y == 97) = true›
        refine ⟨pos + 1, by omega, rfl, (Below.heap_setCell _ _ _ _ (by show w.heap.size + 2 ≠ w.heap.size + 1; omega)).trans Hit1.out, (Below.heap_setCell _ _ _ _ (by show w.heap.size ≠ w.heap.size + 1; omega)).trans Hpar1.out, ?_, HB1.out.setCell (by show w.heap.size ≤ w.heap.size + 1; omega) _⟩
        rw [heap_setCell_same wi _ 1 _ _ _ HL.out, Hnew.out, Hnew.out, Hnew.out, Hnew.out, Hzb.out, Hzc.out, Hzi.out, hy]
        rfl
      case rel =>
        have hy : y = 98 := by simpa using ‹(y == 98) = true›
        refine ⟨pos + 1, by omega, rfl, (Below.heap_setCell _ _ _ _ (by show w.heap.size + 2 ≠ w.heap.size + 1; omega)).trans Hit1.out, (Below.heap_setCell _ _ _ _ (by show w.heap.size ≠ w.heap.size + 1; omega)).trans Hpar1.out, ?_, HB1.out.setCell (by show w.heap.size ≤ w.heap.size + 1; omega) _⟩
        rw [heap_setCell_same wi _ 2 _ _ _ HL.out, Hnew.out, Hnew.out, Hnew.out, Hnew.out, Hza.out, Hzc.out, Hzi.out, hy]
        rfl
      case rel =>
        have hy : y = 99 := by simpa using ‹(y == 99) = true›
        refine ⟨pos + 1, by omega, rfl, (Below.heap_setCell _ _ _ _ (by show w.heap.size + 2 ≠ w.heap.size + 1; omega)).trans Hit1.out, (Below.heap_setCell _ _ _ _ (by show w.heap.size ≠ w.heap.size + 1; omega)).trans Hpar1.out, ?_, HB1.out.setCell (by show w.heap.size ≤ w.heap.size + 1; omega) _⟩
        rw [heap_setCell_same wi _ 3 _ _ _ HL.out, Hnew.out, Hnew.out, Hnew.out, Hnew.out, Hza.out, Hzb.out, Hzi.out, hy]
        rfl
      case rel =>
        have hy : y = 105 := by simpa using ‹(y == 105) = true›
        refine ⟨pos + 1, by omega, rfl, (Below.heap_setCell _ _ _ _ (by show w.heap.size + 2 ≠ w.heap.size + 1; omega)).trans Hit1.out, (Below.heap_setCell _ _ _ _ (by show w.heap.size ≠ w.heap.size + 1; omega)).trans Hpar1.out, ?_, HB1.out.setCell (by show w.heap.size ≤ w.heap.size + 1; omega) _⟩
        rw [heap_setCell_same wi _ 4 _ _ _ HL.out, Hnew.out, Hnew.out, Hnew.out, Hnew.out, Hza.out, Hzb.out, Hzc.out, hy]
        rfl
      case rel =>
        refine ⟨pos + 1, by omega, rfl, Hit1.out, Hpar1.out, ?_, HB1.out⟩
        rw [HL.out, Hnew.out, Hnew.out, Hnew.out, Hnew.out, Hza.out, Hzb.out, Hzc.out, Hzi.out]
        rw [if_neg (by simp_all), if_neg (by simp_all), if_neg (by simp_all), if_neg (by simp_all)]
    · have hpl : pos = l.size := by omega
      have hnx := Lib.run_next_end_at (P := Try.prog) wr (w.heap.size + 1 + 1) l pos 0 hit hlt
      rw [hpl] at hle
      have htk : l.data.toList.take l.size = l.data.toList := List.take_of_length_le (by simp)
      rw [htk] at hle
      obtain ⟨za, hza⟩ : ∃ za, struck l.data.toList 97 a = za := ⟨_, rfl⟩
      obtain ⟨zb, hzb⟩ : ∃ zb, struck l.data.toList 98 b = zb := ⟨_, rfl⟩
      obtain ⟨zc, hzc⟩ : ∃ zc, struck l.data.toList 99 c = zc := ⟨_, rfl⟩
      obtain ⟨zi, hzi⟩ : ∃ zi, struck l.data.toList 105 imm = zi := ⟨_, rfl⟩
      rw [hza, hzb, hzc, hzi] at hle
      have Hza := Lib.hid hza; have Hzb := Lib.hid hzb; have Hzc := Lib.hid hzc; have Hzi := Lib.hid hzi
      have hc0 : wr.cell? ⟨w.heap.size + 1, 0, none⟩ = some (.int .u8 op) := by rw [cell_of_row wr _ 0 _ _ _ hle]; rfl
      have hc1 : wr.cell? ⟨w.heap.size + 1, 1, none⟩ = some (.int .u8 za) := by rw [cell_of_row wr _ 1 _ _ _ hle]; rfl
      have hc2 : wr.cell? ⟨w.heap.size + 1, 2, none⟩ = some (.int .u8 zb) := by rw [cell_of_row wr _ 2 _ _ _ hle]; rfl
      have hc3 : wr.cell? ⟨w.heap.size + 1, 3, none⟩ = some (.int .u8 zc) := by rw [cell_of_row wr _ 3 _ _ _ hle]; rfl
      have hc4 : wr.cell? ⟨w.heap.size + 1, 4, none⟩ = some (.int .i32 zi) := by rw [cell_of_row wr _ 4 _ _ _ hle]; rfl
      have hp0 : wr.cell? ⟨w.heap.size, 0, none⟩ = some (.int .u8 op) := by rw [cell_of_row wr _ 0 _ _ _ hpar]; rfl
      clear hg hit hpar hle hB hpl htk hza hzb hzc hzi
      go_wp2_with fail
      all_goals
        go_ret
        refine ⟨ret_bool ?_, HB.out⟩
        rw [Hza.out, Hzb.out, Hzc.out, Hzi.out]
        first | done | simp_all | skip

theorem kind_le (op : Int) : kind op ≤ 7 := by unfold kind; repeat' split
                                               all_goals omega
theorem struck_let (k : Nat) (h1 : 1 ≤ k) (h7 : k ≤ 7) (a b c imm : Int) : (struck (letS k).data.toList 97 a == 0 && struck (letS k).data.toList 98 b == 0 && struck (letS k).data.toList 99 c == 0 && struck (letS k).data.toList 105 imm == 0) =
    ((decide (3 ≤ k) || a == 0) && (decide (4 ≤ k) || b == 0) && (k == 6 || c == 0) && (k == 2 || k == 3 || k == 5 || imm == 0)) := by
  have h : k = 1 ∨ k = 2 ∨ k = 3 ∨ k = 4 ∨ k = 5 ∨ k = 6 ∨ k = 7 := by omega
  rcases h with rfl | rfl | rfl | rfl | rfl | rfl | rfl <;> simp [struck, letS]
theorem let_small (k : Nat) : (letS k).size ≤ 4 ∧ ∀ i, (h : i < (letS k).size) → ((letS k)[i]).toNat < 128 := by
  unfold letS
  split
  all_goals
    refine ⟨by decide, ?_⟩
    first | decide | exact fun i h => absurd h (Nat.not_lt_zero i)

set_option maxHeartbeats 4000000 in
theorem isaRight_early (w : World) (op a b c imm : Int) (h0 : 0 ≤ op) (h1 : op ≤ 255) (h : kind op = 0 ∨ 16 ≤ a ∨ 16 ≤ b ∨ 16 ≤ c) :
    Calls Try.prog 34 #[.agg #[.int .u8 op, .int .u8 a, .int .u8 b, .int .u8 c, .int .i32 imm]] w fun e w' => e = .returned (.bool false) ∧ Below w.heap.size w w' := by
  have hk := fun o => has_any (w.alloc o) op h0 h1
  have HK := Lib.hid hk; clear hk
  cases hz : (kind op == 0) with
  | true =>
    have Hz := Lib.hid hz; clear hz h
    go_enter Try.func34, Try.ntmps34
    go_wp2_with fail
    refine (HK.out _).mono ?_
    rintro e w1 ⟨⟨nm, rfl, hn⟩, rfl⟩
    rw [Hz.out] at hn
    go_wp2_with fail
    go_ret
    exact ⟨rfl, (Below.refl _ _).alloc (Nat.le_refl _) _⟩
  | false =>
    have h' : 16 ≤ a ∨ 16 ≤ b ∨ 16 ≤ c := by rcases h with h | h; · rw [h] at hz; cases hz
                                             · exact h
    have Hz := Lib.hid hz; clear hz h
    by_cases ha : 16 ≤ a
    · clear h'
      go_enter Try.func34, Try.ntmps34
      go_wp2_with fail
      refine (HK.out _).mono ?_
      rintro e w1 ⟨⟨nm, rfl, hn⟩, rfl⟩
      rw [Hz.out] at hn
      go_wp2_with fail
      go_ret
      exact ⟨rfl, (Below.refl _ _).alloc (Nat.le_refl _) _⟩
    · have ha' : decide (16 ≤ a) = false := by simpa using ha
      by_cases hb : 16 ≤ b
      · clear h'
        go_enter Try.func34, Try.ntmps34
        go_wp2_with fail
        refine (HK.out _).mono ?_
        rintro e w1 ⟨⟨nm, rfl, hn⟩, rfl⟩
        rw [Hz.out] at hn
        go_wp2_with fail
        go_ret
        exact ⟨rfl, (Below.refl _ _).alloc (Nat.le_refl _) _⟩
      · have hb' : decide (16 ≤ b) = false := by simpa using hb
        have hc : 16 ≤ c := by omega
        clear h'
        go_enter Try.func34, Try.ntmps34
        go_wp2_with fail
        refine (HK.out _).mono ?_
        rintro e w1 ⟨⟨nm, rfl, hn⟩, rfl⟩
        rw [Hz.out] at hn
        go_wp2_with fail
        go_ret
        exact ⟨rfl, (Below.refl _ _).alloc (Nat.le_refl _) _⟩

theorem isaRight_any (w : World) (op a b c imm : Int) (h0 : 0 ≤ op) (h1 : op ≤ 255) :
    Calls Try.prog 34 #[.agg #[.int .u8 op, .int .u8 a, .int .u8 b, .int .u8 c, .int .i32 imm]] w fun e w' => e = .returned (.bool (insRight op a b c imm)) ∧ Below w.heap.size w w' := by
  by_cases h : kind op = 0 ∨ 16 ≤ a ∨ 16 ≤ b ∨ 16 ≤ c
  · have e : insRight op a b c imm = false := by
      unfold insRight
      rcases h with h | h | h | h
      · simp [h]
      · rw [show decide (a < 16) = false from by simpa using h]; simp
      · rw [show decide (b < 16) = false from by simpa using h]; simp
      · rw [show decide (c < 16) = false from by simpa using h]; simp
    rw [e]
    exact isaRight_early w op a b c imm h0 h1 h
  · have hk : kind op ≠ 0 := fun e => h (.inl e)
    have e : insRight op a b c imm = (struck (letS (kind op)).data.toList 97 a == 0 && struck (letS (kind op)).data.toList 98 b == 0 && struck (letS (kind op)).data.toList 99 c == 0 && struck (letS (kind op)).data.toList 105 imm == 0) := by
      rw [struck_let (kind op) (by omega) (kind_le op)]
      unfold insRight
      rw [show (kind op != 0) = true from by simpa using hk, show decide (a < 16) = true from by simp; omega, show decide (b < 16) = true from by simp; omega, show decide (c < 16) = true from by simp; omega]
      simp only [Bool.true_and]
    rw [e]
    refine isaRight_loop w op a b c imm _ (let_small _).1 (let_small _).2 h0 h1 (by omega) (by omega) (by omega) fun W => ?_
    have := has_any W op h0 h1
    refine this.mono fun e w' ⟨⟨nm, h1, h2⟩, h3⟩ => ⟨⟨nm, h1, ?_⟩, h3⟩
    rw [h2]
    simpa using hk
end Go.Proofs.Ytiogopichcnihaa
