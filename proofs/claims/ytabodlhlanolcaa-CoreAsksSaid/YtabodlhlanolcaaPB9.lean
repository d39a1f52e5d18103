import Derived.Shelf.Sort.Plain
import Derived.Ground.Names2Prog
import Derived.Shelf.Slices.CompactI
import Derived.Shelf.Slices.In.SortNone
import Derived.Test.YtabodlhlanolcaaPB1
import Derived.Test.YtabodlhlanolcaaPB5
import Derived.Lib.SlicesCompact
import Derived.Test.YtabodlhlanolcaaPB7
import Derived.Sort.OwnSortedInts
namespace Go.Proofs.Ytabodlhlanolcaa
set_option maxRecDepth 100000
open Go.Shelf
def Try.lays189_ren : Go.Shelf.Ren := ⟨fun | 189 => 34 | 125 => 55 | 257 => 54 | 128 => 73 | 129 => 74 | 294 => 64 | 295 => 65 | 296 => 66 | 297 => 67 | 298 => 68 | 299 => 69 | 216 => 70 | 300 => 71 | 301 => 72 | 328 => 81 | 329 => 82 | 330 => 83 | 331 => 84 | 332 => 85 | 215 => 86 | 343 => 88 | n => n, fun | 28 => 24 | 3 => 3 | 46 => 85 | 0 => 0 | 51 => 104 | 53 => 106 | 4 => 4 | 183 => 96 | 182 => 95 | 131 => 101 | 5 => 5 | 9 => 9 | 218 => 111 | 222 => 115 | 228 => 118 | 229 => 119 | n => n, fun | n => n⟩
theorem Try.lays189 : Go.Proofs.Lays.n189 Try.prog Try.lays189_ren := {
  mixed := by kernel_rfl
  f125 := Try.func55.trans (congrArg some (by kernel_rfl))
  f128 := Try.func73.trans (congrArg some (by kernel_rfl))
  f129 := Try.func74.trans (congrArg some (by kernel_rfl))
  f189 := Try.func34.trans (congrArg some (by kernel_rfl))
  f215 := Try.func86.trans (congrArg some (by kernel_rfl))
  f216 := Try.func70.trans (congrArg some (by kernel_rfl))
  f257 := Try.func54.trans (congrArg some (by kernel_rfl))
  f294 := Try.func64.trans (congrArg some (by kernel_rfl))
  f295 := Try.func65.trans (congrArg some (by kernel_rfl))
  f296 := Try.func66.trans (congrArg some (by kernel_rfl))
  f297 := Try.func67.trans (congrArg some (by kernel_rfl))
  f298 := Try.func68.trans (congrArg some (by kernel_rfl))
  f299 := Try.func69.trans (congrArg some (by kernel_rfl))
  f300 := Try.func71.trans (congrArg some (by kernel_rfl))
  f301 := Try.func72.trans (congrArg some (by kernel_rfl))
  f328 := Try.func81.trans (congrArg some (by kernel_rfl))
  f329 := Try.func82.trans (congrArg some (by kernel_rfl))
  f330 := Try.func83.trans (congrArg some (by kernel_rfl))
  f331 := Try.func84.trans (congrArg some (by kernel_rfl))
  f332 := Try.func85.trans (congrArg some (by kernel_rfl))
  f343 := Try.func88.trans (congrArg some (by kernel_rfl))
  t0 := Try.underlying0
  a0 := Try.isAgg0
  z0 := Try.sizeOf0
  v0 := Try.zeroValue0
  t3 := Try.underlying3
  a3 := Try.isAgg3
  z3 := Try.sizeOf3
  v3 := Try.zeroValue3
  t4 := Try.underlying4
  a4 := Try.isAgg4
  z4 := Try.sizeOf4
  v4 := Try.zeroValue4
  t5 := Try.underlying5
  a5 := Try.isAgg5
  z5 := Try.sizeOf5
  v5 := Try.zeroValue5
  t9 := Try.underlying9
  a9 := Try.isAgg9
  z9 := Try.sizeOf9
  v9 := Try.zeroValue9
  t28 := Try.underlying24
  a28 := Try.isAgg24
  z28 := Try.sizeOf24
  v28 := Try.zeroValue24
  t46 := Try.underlying85
  a46 := Try.isAgg85
  z46 := Try.sizeOf85
  v46 := Try.zeroValue85
  t51 := Try.underlying104
  a51 := Try.isAgg104
  z51 := Try.sizeOf104
  v51 := Try.zeroValue104
  t53 := Try.underlying106
  a53 := Try.isAgg106
  z53 := Try.sizeOf106
  v53 := Try.zeroValue106
  t131 := Try.underlying101
  a131 := Try.isAgg101
  z131 := Try.sizeOf101
  v131 := Try.zeroValue101
  t182 := Try.underlying95
  a182 := Try.isAgg95
  z182 := Try.sizeOf95
  v182 := Try.zeroValue95
  t183 := Try.underlying96
  a183 := Try.isAgg96
  z183 := Try.sizeOf96
  v183 := Try.zeroValue96
  t218 := Try.underlying111
  a218 := Try.isAgg111
  z218 := Try.sizeOf111
  v218 := Try.zeroValue111
  t222 := Try.underlying115
  a222 := Try.isAgg115
  z222 := Try.sizeOf115
  v222 := Try.zeroValue115
  t228 := Try.underlying118
  a228 := Try.isAgg118
  z228 := Try.sizeOf118
  v228 := Try.zeroValue118
  t229 := Try.underlying119
  a229 := Try.isAgg119
  z229 := Try.sizeOf119
  v229 := Try.zeroValue119 }
open Go.Sort Go.RowKit in
theorem Try.slices_Sort_int (blk off cap : Nat) (zs : List Int) (w : World) (hH : Holds (Value.int .i64) w blk off zs.toArray) (hblk : blk < w.heap.size) (hsz : zs.length < 4611686018427387904) :
    Calls Try.prog 34 #[.slice (some ⟨blk, off, none⟩) zs.length cap] w fun e w' =>
      e = .returned (.tuple #[]) ∧ ∃ n os, w' = grow (putRow (Value.int .i64) (Sort.ahead w n) blk off (zs.mergeSort fun x y => decide (x ≤ y)).toArray) os := Any.slices_Sort_int Try.lays189 blk off cap zs w hH hblk hsz
def Try.laysNm220_ren : Go.Shelf.Ren := ⟨fun | 20 => 35 | n => n, fun | 22 => 24 | 3 => 3 | 4 => 4 | 0 => 0 | n => n, fun | n => n⟩
theorem Try.laysNm220 : Go.Proofs.Lays2.n20 Try.prog Try.laysNm220_ren := {
  mixed := by kernel_rfl
  f20 := Try.func35.trans (congrArg some (by kernel_rfl))
  t0 := Try.underlying0
  a0 := Try.isAgg0
  z0 := Try.sizeOf0
  v0 := Try.zeroValue0
  t3 := Try.underlying3
  a3 := Try.isAgg3
  z3 := Try.sizeOf3
  v3 := Try.zeroValue3
  t4 := Try.underlying4
  a4 := Try.isAgg4
  z4 := Try.sizeOf4
  v4 := Try.zeroValue4
  t22 := Try.underlying24
  a22 := Try.isAgg24
  z22 := Try.sizeOf24
  v22 := Try.zeroValue24
  i3 := by kernel_rfl }
open Go.RowKit Go.Lib Go.Sort in
open Go.RowKit Go.Lib Go.Sort in
theorem Try.slices_Compact_int (blk off cap : Nat) (zs : List Int) (w : World) (hH : Holds (Value.int .i64) w blk off zs.toArray) (hsz : zs.length ≤ 9223372036854775807) (hcap : zs.length ≤ cap) :
    Calls Try.prog 35 #[.slice (some ⟨blk, off, none⟩) zs.length cap] w fun e w' => e = .returned (.slice (some ⟨blk, off, none⟩) (Lib.compact zs).length cap) ∧ ∃ q, w' = putRow (Value.int .i64) (Sort.ahead w q) blk off (Lib.compact zs ++ List.replicate (zs.length - (Lib.compact zs).length) 0).toArray := Any.slices_Compact_int Try.laysNm220 blk off cap zs w hH hsz hcap
open Go.RowKit Go.Lib Go.Sort in
theorem Try.slices_Compact_int_empty (a : Option Addr) (cap : Nat) (w : World) :
    Calls Try.prog 35 #[.slice a 0 cap] w fun e w' => e = .returned (.slice a 0 cap) ∧ w' = w := Any.slices_Compact_int_empty Try.laysNm220 a cap w
open Go.RowKit Go.Sort in
theorem Try.slices_Sort_int_none (p : Option Addr) (cap : Nat) (w : World) :
    Calls Try.prog 34 #[.slice p 0 cap] w fun e w' => e = .returned (.tuple #[]) ∧ w' = w := Any.slices_Sort_int_none Try.lays189 p cap w
end Go.Proofs.Ytabodlhlanolcaa
namespace Go.Proofs.Ytabodlhlanolcaa
set_option linter.unusedVariables false
set_option linter.unusedSimpArgs false

def insU (k : Int) : List Int → List Int
  | [] => [k]
  | x :: xs => if x < k then x :: insU k xs else if x = k then x :: xs else k :: x :: xs
theorem insU_mem {k x : Int} : ∀ {l : List Int}, x ∈ insU k l ↔ x = k ∨ x ∈ l
  | [] => by simp [insU]
  | y :: l => by
    rw [insU]
    by_cases h1 : y < k
    · rw [if_pos h1, List.mem_cons, List.mem_cons, insU_mem]
      constructor
      · rintro (h | h | h) <;> simp [h]
      · rintro (h | h | h) <;> simp [h]
    · rw [if_neg h1]
      by_cases h2 : y = k
      · subst h2
        rw [if_pos rfl, List.mem_cons]
        constructor
        · rintro (h | h) <;> simp [h]
        · rintro (h | h | h) <;> simp [h]
      · rw [if_neg h2, List.mem_cons]
theorem insU_rises {k : Int} : ∀ {l : List Int}, l.Pairwise (· < ·) → (insU k l).Pairwise (· < ·)
  | [], h => by simp [insU]
  | y :: l, h => by
    have h0 := List.pairwise_cons.1 h
    rw [insU]
    by_cases h1 : y < k
    · rw [if_pos h1, List.pairwise_cons]
      refine ⟨fun x hx => ?_, insU_rises h0.2⟩
      rcases insU_mem.1 hx with rfl | hx
      · exact h1
      · exact h0.1 x hx
    · rw [if_neg h1]
      by_cases h2 : y = k
      · rw [if_pos h2]; exact h
      · rw [if_neg h2, List.pairwise_cons]
        refine ⟨fun x hx => ?_, h⟩
        rcases List.mem_cons.1 hx with rfl | hx
        · omega
        · have := h0.1 x hx; omega
def foldU (l : List Int) (o : List Int) : List Int := l.foldl (fun o k => insU k o) o
theorem foldU_mem {x : Int} : ∀ {l o : List Int}, x ∈ foldU l o ↔ x ∈ l ∨ x ∈ o
  | [], o => by simp [foldU]
  | k :: l, o => by
    show x ∈ foldU l (insU k o) ↔ _
    rw [foldU_mem, insU_mem, List.mem_cons]
    constructor
    · rintro (h | h | h) <;> simp [h]
    · rintro ((h | h) | h) <;> simp [h]
theorem foldU_rises : ∀ {l o : List Int}, o.Pairwise (· < ·) → (foldU l o).Pairwise (· < ·)
  | [], o, h => h
  | k :: l, o, h => foldU_rises (l := l) (o := insU k o) (insU_rises h)
def loadK (o : Cop) : List Int := if o.how = 4 then [o.k] else []
def loadsK (l : List Cop) : List Int := l.flatMap loadK
def usesS (l : List Cop) : List Int := foldU (loadsK l) []
theorem uses_mem {x : Int} {l : List Cop} : x ∈ usesS l ↔ x ∈ loadsK l := by unfold usesS; rw [foldU_mem]; simp
theorem uses_rises (l : List Cop) : (usesS l).Pairwise (· < ·) := foldU_rises List.Pairwise.nil
theorem rises_eq : ∀ {l m : List Int}, l.Pairwise (· < ·) → m.Pairwise (· < ·) → (∀ x, x ∈ l ↔ x ∈ m) → l = m
  | [], m, _, _, h => by
    cases m with
    | nil => rfl
    | cons y m => exact absurd ((h y).2 List.mem_cons_self) (by simp)
  | x :: l, [], _, _, h => absurd ((h x).1 List.mem_cons_self) (by simp)
  | x :: l, y :: m, h1, h2, h => by
    obtain ⟨a1, a2⟩ := List.pairwise_cons.1 h1
    obtain ⟨b1, b2⟩ := List.pairwise_cons.1 h2
    have e : x = y := by
      rcases List.mem_cons.1 ((h x).1 List.mem_cons_self) with e | hx
      · exact e
      · rcases List.mem_cons.1 ((h y).2 List.mem_cons_self) with e | hy
        · exact e.symm
        · have := b1 x hx; have := a1 y hy; omega
    subst e
    rw [rises_eq a2 b2 fun z => ?_]
    have hz := h z
    rw [List.mem_cons, List.mem_cons] at hz
    constructor
    · intro hl
      rcases hz.1 (.inr hl) with rfl | hm
      · have := a1 z hl; omega
      · exact hm
    · intro hm
      rcases hz.2 (.inr hm) with rfl | hl
      · have := b1 z hm; omega
      · exact hl
theorem compact_rises {zs : List Int} (hs : zs.Pairwise (· ≤ ·)) : ∀ m, m ≤ zs.length → (Lib.compactUpTo zs.toArray m).Pairwise (· < ·) ∧ ∀ x, x ∈ Lib.compactUpTo zs.toArray m ↔ ∃ j, ∃ h : j < zs.length, j < m ∧ zs[j] = x
  | 0, _ => ⟨by simp [Lib.compactUpTo], fun x => by simp [Lib.compactUpTo]⟩
  | m + 1, hm => by
    obtain ⟨h1, h2⟩ := compact_rises hs m (by omega)
    have hml : m < zs.length := by omega
    have hg : ∀ j, (h : j < zs.length) → zs.toArray[j]! = zs[j] := fun j h => by simp [h]
    have hle : ∀ i j, (hi : i < zs.length) → (hj : j < zs.length) → i < j → zs[i] ≤ zs[j] := fun i j hi hj hij => List.pairwise_iff_getElem.1 hs i j hi hj hij
    rw [Lib.compactUpTo_succ]
    by_cases hk : Lib.keeps zs.toArray m = true
    · rw [if_pos hk, hg m hml]
      refine ⟨List.pairwise_append.2 ⟨h1, List.pairwise_singleton _ _, fun a ha b hb => ?_⟩, fun x => ?_⟩
      · rw [List.mem_singleton.1 hb]
        obtain ⟨j, hj, hjm, rfl⟩ := (h2 a).1 ha
        unfold Lib.keeps at hk
        rw [hg m hml, hg (m - 1) (by omega)] at hk
        simp only [decide_eq_true_eq] at hk
        have hne : zs[m] ≠ zs[m - 1] := by
          rcases hk with h | h
          · omega
          · exact h
        have l1 := hle (m - 1) m (by omega) hml (by omega)
        have l2 : zs[j] ≤ zs[m - 1] := by
          by_cases e : j = m - 1
          · subst e; exact Int.le_refl _
          · exact hle j (m - 1) hj (by omega) (by omega)
        omega
      · rw [List.mem_append, List.mem_singleton, h2]
        constructor
        · rintro (⟨j, hj, hjm, rfl⟩ | rfl)
          · exact ⟨j, hj, by omega, rfl⟩
          · exact ⟨m, hml, by omega, rfl⟩
        · rintro ⟨j, hj, hjm, rfl⟩
          by_cases e : j = m
          · subst e; exact .inr rfl
          · exact .inl ⟨j, hj, by omega, rfl⟩
    · rw [if_neg hk, List.append_nil]
      refine ⟨h1, fun x => ?_⟩
      rw [h2]
      constructor
      · rintro ⟨j, hj, hjm, rfl⟩; exact ⟨j, hj, by omega, rfl⟩
      · rintro ⟨j, hj, hjm, rfl⟩
        by_cases e : j = m
        · subst e
          unfold Lib.keeps at hk
          simp only [decide_eq_true_eq, not_or, Decidable.not_not] at hk
          have hk2 := hk.2
          rw [hg j hml, hg (j - 1) (by omega)] at hk2
          exact ⟨j - 1, by omega, by omega, hk2.symm⟩
        · exact ⟨j, hj, by omega, rfl⟩
theorem compact_uses (l : List Cop) : Lib.compact ((loadsK l).mergeSort fun x y => decide (x ≤ y)) = usesS l := by
  have hs : ((loadsK l).mergeSort fun x y => decide (x ≤ y)).Pairwise (· ≤ ·) := by
    have := List.pairwise_mergeSort (le := fun x y : Int => decide (x ≤ y)) (by intro a b c h1 h2; simp at *; omega) (by intro a b; simp; omega) (loadsK l)
    exact this.imp (by intro a b h; simpa using h)
  obtain ⟨h1, h2⟩ := compact_rises hs _ (Nat.le_refl _)
  refine rises_eq h1 (uses_rises l) fun x => ?_
  unfold Lib.compact
  rw [h2, uses_mem, ← (List.mergeSort_perm (loadsK l) fun x y => decide (x ≤ y)).mem_iff]
  constructor
  · rintro ⟨j, hj, _, rfl⟩; exact List.getElem_mem hj
  · intro hx
    obtain ⟨j, hj, e⟩ := List.getElem_of_mem hx
    exact ⟨j, hj, hj, e⟩
theorem len_subset : ∀ {l m : List Int}, l.Pairwise (· < ·) → (∀ x ∈ l, x ∈ m) → l.length ≤ m.length
  | [], m, _, _ => Nat.zero_le _
  | x :: l, m, h1, h => by
    obtain ⟨a1, a2⟩ := List.pairwise_cons.1 h1
    have hx := h x List.mem_cons_self
    have := len_subset (l := l) (m := m.erase x) a2 fun y hy => by
      have hne : y ≠ x := fun e => by subst e; have := a1 y hy; omega
      exact (List.mem_erase_of_ne hne).2 (h y (List.mem_cons_of_mem _ hy))
    rw [List.length_erase_of_mem hx] at this
    have := List.length_pos_of_mem hx
    simp only [List.length_cons]
    omega
end Go.Proofs.Ytabodlhlanolcaa
namespace Go.Proofs.Ytabodlhlanolcaa
open Go.RowKit
set_option linter.unusedVariables false
set_option linter.unusedSimpArgs false
attribute [local go_sem ↓] Go.wp_at_zero Go.wp_at_succ

theorem loadsK_len : ∀ l : List Cop, (loadsK l).length ≤ l.length
  | [] => Nat.le_refl _
  | o :: l => by
    unfold loadsK at *
    rw [List.flatMap_cons, List.length_append, List.length_cons]
    have := loadsK_len l
    unfold loadsK at this
    have : (loadK o).length ≤ 1 := by unfold loadK; split <;> simp
    omega
theorem loadsK_take {l : List Cop} {k : Nat} (h : k < l.length) : loadsK (l.take (k + 1)) = loadsK (l.take k) ++ loadK l[k] := by
  unfold loadsK
  rw [List.take_succ_eq_append_getElem h, List.flatMap_append]
  simp
theorem Try.infoIntU : (Try.prog.info? 3).map (fun i => (i.zero, i.size, i.bytes)) = some (some (.int .i64 0), 1, 8) := by kernel_rfl
theorem srcU (W : World) (cs : Array Value) (t : TypeId) (m : Nat) (news : List Value) (G : Nat) (hG : W.heap.size = G) (hn : news = cs.toList) : Src (W.alloc (.cells cs t)) (.slice (some ⟨G, 0, none⟩) m m) m news := by
  subst hG hn
  refine .inr ⟨_, _, rfl, fun j z hz => ?_⟩
  have e : (⟨W.heap.size, 0, none⟩ : Addr).add j = ⟨W.heap.size, j, none⟩ := by unfold Addr.add; split <;> simp_all
  rw [e, cell_of_row _ _ j _ _ _ (World.alloc_heap_new W _)]
  simpa using hz
/-- a slice of numbers that it came back with -/
def RetZ (w : World) (us : List Int) (e : Ending) (w' : World) : Prop := ∃ a c, e = .returned (.slice a us.length c) ∧ IntsAt .i64 w' a us ∧ Below w.heap.size w w'
/-- behind the sort and the compacting -/
theorem sorted_row {w : World} {B g cap n q : Nat} {os : Array Obj} {cur : Array Value} {zs ts : List Int} (hb : w.heap[g]? = some (.cells cur 3 (0, 0))) (hB : B ≤ g) (h1 : zs.length ≤ cap) (h2 : cap ≤ maxLen) (h3 : cur.size = cap * 1) (hl : ts.length = zs.length) :
    Below B w (Sort.grow (Sort.putRow (Value.int .i64) (Sort.ahead w n) g 0 ts.toArray) os) ∧ Sort.Holds (Value.int .i64) (Sort.grow (Sort.putRow (Value.int .i64) (Sort.ahead w n) g 0 ts.toArray) os) g 0 ts.toArray ∧
      ∃ cur', (Sort.grow (Sort.putRow (Value.int .i64) (Sort.ahead w n) g 0 ts.toArray) os).heap[g]? = some (.cells cur' 3 (0, 0)) ∧ cur'.size = cap * 1 := by
  have hh := heap_sortedI (w := w) (n := n) (os := os) ts.toArray hb
  refine ⟨(Below.refl _ _).grown (grownBy_sortedI ts.toArray) (Nat.le_of_lt (Nat.lt_of_le_of_lt hB (Array.getElem?_eq_some_iff.1 hb).1)) (fun j hj => by cases hj; exact hB), holds_of_blockI hh (take_putCellsI cur ts (by omega)), _, hh, by simp [Sort.putCells, h3]⟩
set_option maxHeartbeats 8000000 in
theorem cuses_any (w : World) (a : Option Addr) (c : Nat) (l : List Cop) (h : copRep.Els w a l) (hm : l.length ≤ 8796093022208) :
    Calls Try.prog 15 #[.slice a l.length c] w (RetZ w (usesS l)) := by
  have HE := Lib.hid h
  obtain ⟨i0, hi, hz0, hz1, hz2⟩ := info_parts Try.infoIntU
  have Hi := Lib.hid hi; have Hz0 := Lib.hid hz0; have Hz1 := Lib.hid hz1; have Hz2 := Lib.hid hz2; clear hi hz0 hz1 hz2 h
  go_enter Try.func15, Try.ntmps15
  go_wp2_with fail
  go_loopw [3, 8] (fun v i wr => ∃ k : Nat, k ≤ l.length ∧ i = .int .i64 k ∧ wr.ownsRow w.heap.size 3 1 v (loadsK (l.take k)).length ((loadsK (l.take k)).map (Value.int .i64)) ∧ Below w.heap.size w wr) (fun _ i _ => l.length - (intOf i).toNat)
  case atStart => exact ⟨0, Nat.zero_le _, rfl, World.ownsRow_nil _ _ _ _, Below.refl _ _⟩
  case round =>
    obtain ⟨k, hk, rfl, hown, hbel⟩ := hrel
    by_cases hlt : k < l.length
    · have hkl := loadsK_len (l.take k)
      have hkt := loadsK_take hlt
      have htk : (l.take k).length = k := by simp; omega
      rw [htk] at hkl
      clear htk
      obtain ⟨b, off, cs, rfl, ⟨v, rfl, hs, hh, -⟩, hc⟩ := (HE.out.below copRep hbel (Nat.le_refl _)) k hlt
      have x0 := hc 0 _ rfl; have x1 := hc 1 _ rfl; have x2 := hc 2 _ rfl; have x3 := hc 3 _ rfl; have x4 := hc 4 _ rfl
      simp only [show copRep.n = 5 from rfl, Nat.add_zero] at x0 x1 x2 x3 x4
      obtain ⟨pa, pc, rfl, hpl, hpe⟩ := Rep.Sl.form hs
      obtain ⟨o, ho⟩ : ∃ o, l[k] = o := ⟨_, rfl⟩
      rw [ho] at x0 x1 x2 x3 x4 hkt
      obtain ⟨how, ok, n, p, fn⟩ := o
      dsimp only at x0 x1 x2 x3 x4
      have hz0 : (0 : Int) ≤ (k : Int) := by omega
      have hz1 : (k : Int) < (l.length : Int) := by omega
      have HB := Lib.hid hbel; have HO := Lib.hid hown
      generalize loadsK (l.take k) = ks at hkl hkt HO
      clear hbel hown hs hh hpe hpl hc ho
      obtain ⟨nk, hnk⟩ : ∃ nk, ks.length = nk := ⟨_, rfl⟩
      have HNK := Lib.hid hnk
      rw [hnk] at HO hkl
      clear hnk
      by_cases h4 : how = 4
      · subst h4
        have HKT := Lib.hid (show loadsK (l.take (k + 1)) = ks ++ [ok] by rw [hkt]; rfl)
        clear hkt
        go_wp2_with (at_builtin; (refine wpList_append_src _ rfl _ _ 24 rfl w.heap.size 3 i0 _ 1 8 Try.underlying24 Hi.out Hz0.out Hz1.out Hz2.out rfl (by decide) _ nk _ rfl ((HO.out.alloc _).alloc _) _ 1 [.int .i64 ok] rfl (srcU _ _ _ _ _ _ (by simp) rfl) rfl ?h1 (by unfold maxLen; omega) (by omega) (by have := HB.out.size; simp; omega) ?_))
        case h1 => intro u hu; simp at hu; subst hu; rfl
        intro v' w' hown hg _
        have hb1 : Below w.heap.size w w' := ((HB.out.alloc HB.out.size _).alloc (by have := HB.out.size; simp; omega) _).grown hg (by have := HB.out.size; simp; omega) (fun j hj => (World.ownsRow.lt HO.out j hj).1)
        have hown' : w'.ownsRow w.heap.size 3 1 v' (loadsK (l.take (k + 1))).length ((loadsK (l.take (k + 1))).map (Value.int .i64)) := by
          rw [HKT.out, List.length_append, List.map_append, HNK.out]; exact hown
        have HO' := Lib.hid hown'; have HB1 := Lib.hid hb1
        clear hown hg hown' hb1 x0 x1 x2 x3 x4
        go_wp2_with fail
        go_roundw
        case rel => exact ⟨k + 1, by omega, by go_num, HO'.out, HB1.out⟩
        case measure => simp [intOf]; omega
      · have g4 : (how == 4) = false := beq_eq_false_iff_ne.2 h4
        have HO' := Lib.hid (show wr.ownsRow w.heap.size 3 1 u3 (loadsK (l.take (k + 1))).length ((loadsK (l.take (k + 1))).map (Value.int .i64)) by
          rw [hkt]; unfold loadK; rw [if_neg h4, List.append_nil, HNK.out]; exact HO.out)
        have HB1 := Lib.hid (HB.out.alloc HB.out.size (.cells #[.int .i64 how, .int .i64 ok, .int .i64 n, .slice pa p.length pc, .int .u8 fn] 48))
        clear hkt h4
        go_wp2_with fail
        go_roundw
        case rel => exact ⟨k + 1, by omega, by go_num, HO'.out.alloc _, HB1.out⟩
        case measure => simp [intOf]; omega
    · obtain rfl : k = l.length := by omega
      rw [List.take_length] at hown
      have hcu := compact_uses l
      have hkl := loadsK_len l
      generalize loadsK l = ks at hown hcu hkl
      obtain ⟨us, hus0⟩ : ∃ us, usesS l = us := ⟨_, rfl⟩
      rw [hus0] at hcu
      have HUS := Lib.hid hus0
      clear hus0
      have HCU := Lib.hid hcu; have HB := Lib.hid hbel
      clear hcu hbel
      obtain ⟨-, ⟨rfl, hnil⟩ | ⟨g, cap, cur, rfl, hB, hg, hn, hcap, hcs, htk⟩⟩ := id hown
      · have hks : ks = [] := by cases ks with | nil => rfl | cons x t => simp at hnil
        subst hks
        have hus : us = [] := by rw [← HCU.out]; simp [Lib.compact, Lib.compactUpTo]
        subst hus
        clear hown hnil
        go_wp2_with fail
        refine (Try.slices_Sort_int_none _ _ _).mono ?_
        rintro e w1 ⟨rfl, rfl⟩
        go_wp2_with fail
        refine (Try.slices_Compact_int_empty _ _ _).mono ?_
        rintro e w1 ⟨rfl, rfl⟩
        go_wp2_with fail
        go_ret
        unfold RetZ
        rw [HUS.out]
        exact ⟨none, 0, rfl, IntsAt.nil _ _ _, HB.out⟩
      · have hh : Sort.Holds (Value.int .i64) wr g 0 ks.toArray := holds_of_blockI hg (by simpa using htk)
        have hgl : g < wr.heap.size := (Array.getElem?_eq_some_iff.1 hg).1
        have hq := Try.slices_Sort_int g 0 cap ks wr hh hgl (by omega)
        have HQ := Lib.hid hq; have HG := Lib.hid hg
        clear hh hq hown htk hgl hg
        go_wp2_with fail
        refine HQ.out.mono ?_
        rintro e w1 ⟨rfl, n, os, rfl⟩
        have hl : (ks.mergeSort fun x y => decide (x ≤ y)).length = ks.length := List.length_mergeSort _
        obtain ⟨hb1, hh1, cur1, hg1, hcs1⟩ := sorted_row (n := n) (q := 0) (os := os) HG.out hB hn hcap hcs hl
        have HB1 := Lib.hid (Below.trans HB.out hb1)
        generalize Sort.grow (Sort.putRow (Value.int .i64) (Sort.ahead wr n) g 0 (ks.mergeSort fun x y => decide (x ≤ y)).toArray) os = w1 at hh1 hg1 HB1 ⊢
        have hq2 := Try.slices_Compact_int g 0 cap (ks.mergeSort fun x y => decide (x ≤ y)) w1 hh1 (by rw [hl]; omega) (by rw [hl]; exact hn)
        rw [HCU.out, hl] at hq2
        have HQ2 := Lib.hid hq2; have HG1 := Lib.hid hg1
        have hul : us.length ≤ ks.length := by
          rw [← HCU.out, ← hl]
          unfold Lib.compact Lib.compactUpTo
          rw [List.length_map]
          exact Nat.le_trans (List.length_filter_le _ _) (by simp)
        clear hb1 hh1 hq2 hg1 HQ HB HG
        go_wp2_with fail
        refine HQ2.out.mono ?_
        rintro e w2 ⟨rfl, q, rfl⟩
        have hl2 : (us ++ List.replicate (ks.length - us.length) 0).length = ks.length := by simp; omega
        obtain ⟨hb2, hh2, -⟩ := sorted_row (n := q) (q := 0) (os := #[]) HG1.out hB hn hcap hcs1 hl2
        rw [Sort.grow_empty] at hb2 hh2
        have HB2 := Lib.hid (Below.trans HB1.out hb2)
        have hints : IntsAt .i64 (Sort.putRow (Value.int .i64) (Sort.ahead w1 q) g 0 (us ++ List.replicate (ks.length - us.length) 0).toArray) (some ⟨g, 0, none⟩) us := fun j hj => by
          have := (hh2 j (by simp; omega)).1
          refine ⟨g, 0, rfl, ?_⟩
          rw [this]
          have e : (us ++ List.replicate (ks.length - us.length) 0)[j]? = some us[j] := by rw [List.getElem?_append_left hj, List.getElem?_eq_getElem hj]
          simp [e]
        have HINT := Lib.hid hints
        clear hb2 hh2 hints HQ2
        go_wp2_with fail
        go_ret
        unfold RetZ
        rw [HUS.out]
        exact ⟨some ⟨g, 0, none⟩, cap, rfl, HINT.out, HB2.out⟩
end Go.Proofs.Ytabodlhlanolcaa
namespace Go.Proofs.Ytabodlhlanolcaa
open Go.RowKit
set_option linter.unusedVariables false
set_option linter.unusedSimpArgs false
attribute [local go_sem ↓] Go.wp_at_zero Go.wp_at_succ

def totO (o : Cop) : Bool := (o.how == 5 || o.how == 6) && !totalB o.fn (o.how == 6)
def totS (l : List Cop) : Bool := !l.any totO
theorem totO_5 (k n fn : Int) (p : List Mono) : totO ⟨5, k, n, p, fn⟩ = !totalB fn false := rfl
theorem totO_6 (k n fn : Int) (p : List Mono) : totO ⟨6, k, n, p, fn⟩ = !totalB fn true := rfl
theorem totO_no {o : Cop} (h5 : o.how ≠ 5) (h6 : o.how ≠ 6) : totO o = false := by unfold totO; rw [beq_eq_false_iff_ne.2 h5, beq_eq_false_iff_ne.2 h6]; rfl
set_option maxHeartbeats 4000000 in
theorem totlam_any (w : World) (o : Cop) (pa : Option Addr) (pl pc : Nat) : Calls Try.prog 37 #[.agg #[.int .i64 o.how, .int .i64 o.k, .int .i64 o.n, .slice pa pl pc, .int .u8 o.fn]] w fun e w' => e = .returned (.bool (totO o)) ∧ Below w.heap.size w w' := by
  obtain ⟨how, k, n, p, fn⟩ := o
  dsimp only
  by_cases h5 : how = 5
  · subst h5
    rw [totO_5]
    obtain ⟨r, hr⟩ : ∃ r, totalB fn false = r := ⟨_, rfl⟩
    have ht := fun W => total_any W fn false
    rw [hr] at ht ⊢
    have HT := Lib.hid ht
    clear ht hr
    go_enter Try.func37, Try.ntmps37
    go_wp2_with fail
    refine (HT.out _).mono ?_
    rintro e w1 ⟨rfl, hd⟩
    have HB := Lib.hid (bNext hd.below ((Below.refl w.heap.size w).alloc (Nat.le_refl _) _))
    clear hd HT
    go_wp2_with fail
    go_ret
    exact ⟨rfl, HB.out⟩
  · by_cases h6 : how = 6
    · subst h6
      rw [totO_6]
      obtain ⟨r, hr⟩ : ∃ r, totalB fn true = r := ⟨_, rfl⟩
      have ht := fun W => total_any W fn true
      rw [hr] at ht ⊢
      have HT := Lib.hid ht
      clear ht hr h5
      go_enter Try.func37, Try.ntmps37
      go_wp2_with fail
      refine (HT.out _).mono ?_
      rintro e w1 ⟨rfl, hd⟩
      have HB := Lib.hid (bNext hd.below ((Below.refl w.heap.size w).alloc (Nat.le_refl _) _))
      clear hd HT
      go_wp2_with fail
      go_ret
      exact ⟨rfl, HB.out⟩
    · rw [totO_no (o := ⟨how, k, n, p, fn⟩) h5 h6]
      have g5 : (how == 5) = false := beq_eq_false_iff_ne.2 h5
      have g6 : (how == 6) = false := beq_eq_false_iff_ne.2 h6
      clear h5 h6
      go_enter Try.func37, Try.ntmps37
      go_wp2_with fail
      go_ret
      exact ⟨rfl, (Below.refl _ _).alloc (Nat.le_refl _) _⟩
set_option maxHeartbeats 4000000 in
theorem indexFuncT (w : World) (a : Option Addr) (cap : Nat) (xs : List Cop) (p : Cop → Bool) (hm : xs.length ≤ maxLen) (h : copRep.Els w a xs)
    (hp : ∀ i, (hi : i < xs.length) → ∀ w' pa pc, Below w.heap.size w w' → monoRep.Els w' pa xs[i].p → xs[i].p.length ≤ 9223372036854775807 →
      Calls Try.prog 37 #[.agg #[.int .i64 xs[i].how, .int .i64 xs[i].k, .int .i64 xs[i].n, .slice pa xs[i].p.length pc, .int .u8 xs[i].fn]] w' fun e w'' => e = .returned (.bool (p xs[i])) ∧ Below w'.heap.size w' w'') :
    Calls Try.prog 56 #[.slice a xs.length cap, .func (.func 37) #[] #[]] w fun e w' => e = .returned (.int .i64 (firstO p 0 xs)) ∧ Below w.heap.size w w' := by
  unfold maxLen at hm
  have HI := Lib.hid h; have HP := Lib.hid hp; clear h hp
  go_enter Try.func56, Try.ntmps56
  go_wp2
  go_loopw [8] (fun i wr => ∃ k : Nat, k ≤ xs.length ∧ i = .int .i64 k ∧ firstO p 0 xs = firstO p k (xs.drop k) ∧ Below w.heap.size w wr) (fun i _ => xs.length - (intOf i).toNat)
  case atStart => exact ⟨0, Nat.zero_le _, rfl, rfl, Below.refl _ _⟩
  case round =>
    obtain ⟨k, hk, rfl, hr, hbel⟩ := hrel
    by_cases hlt : k < xs.length
    · rw [firstO_step hlt] at hr
      obtain ⟨b, off, cs, rfl, ⟨v, rfl, hs, hh, -⟩, hc⟩ := (HI.out.below copRep hbel (Nat.le_refl _)) k hlt
      have x0 := hc 0 _ rfl; have x1 := hc 1 _ rfl; have x2 := hc 2 _ rfl; have x3 := hc 3 _ rfl; have x4 := hc 4 _ rfl
      simp only [show copRep.n = 5 from rfl, Nat.add_zero] at x0 x1 x2 x3 x4
      obtain ⟨pa, pc, rfl, hpl, hpe⟩ := Rep.Sl.form hs
      have hq := HP.out k hlt wr pa pc hbel hpe hpl
      have Hr := Lib.hid hr; clear hr hs hpe hc
      cases hv : p xs[k] with
      | true =>
        rw [hv] at hq
        have HQ := Lib.hid hq; have Hv := Lib.hid hv; clear hq hv
        go_wp2_with (refine HQ.out.mono ?_; rintro e w' ⟨rfl, hb1⟩)
        go_ret
        exact ⟨ret_int (by rw [Hr.out, if_pos Hv.out]), bNext hb1 hbel⟩
      | false =>
        rw [hv] at hq
        have HQ := Lib.hid hq; have Hv := Lib.hid hv; clear hq hv
        go_wp2_with (refine HQ.out.mono ?_; rintro e w' ⟨rfl, hb1⟩)
        go_roundw
        case rel => exact ⟨k + 1, by omega, by go_num, by rw [Hr.out, if_neg (by rw [Hv.out]; simp)], bNext hb1 hbel⟩
        case measure => simp [intOf]; omega
    · have Hr := Lib.hid hr; clear hr
      go_wp2
      go_ret
      exact ⟨ret_int (by rw [Hr.out, List.drop_eq_nil_of_le (by omega)]; rfl), hbel⟩

theorem containsFuncT (w : World) (a : Option Addr) (cap : Nat) (xs : List Cop) (p : Cop → Bool) (hm : xs.length ≤ maxLen) (h : copRep.Els w a xs)
    (hp : ∀ i, (hi : i < xs.length) → ∀ w' pa pc, Below w.heap.size w w' → monoRep.Els w' pa xs[i].p → xs[i].p.length ≤ 9223372036854775807 →
      Calls Try.prog 37 #[.agg #[.int .i64 xs[i].how, .int .i64 xs[i].k, .int .i64 xs[i].n, .slice pa xs[i].p.length pc, .int .u8 xs[i].fn]] w' fun e w'' => e = .returned (.bool (p xs[i])) ∧ Below w'.heap.size w' w'') :
    Calls Try.prog 36 #[.slice a xs.length cap, .func (.func 37) #[] #[]] w fun e w' => e = .returned (.bool (xs.any p)) ∧ Below w.heap.size w w' := by
  have hq := Lib.hid (indexFuncT w a cap xs p hm h hp)
  clear hp h
  go_enter Try.func36, Try.ntmps36
  go_wp2_with (go_at_call 56; refine hq.out.mono ?_; rintro e w' ⟨rfl, hb1⟩)
  go_ret
  exact ⟨ret_bool (firstO_nonneg _ _), hb1⟩

theorem ctotal_any (w : World) (a : Option Addr) (c : Nat) (l : List Cop) (h : copRep.Els w a l) (hm : l.length ≤ maxLen) :
    Calls Try.prog 16 #[.slice a l.length c] w fun e w' => e = .returned (.bool (totS l)) ∧ Below w.heap.size w w' := by
  have hq := Lib.hid (containsFuncT w a c l totO hm h (fun i hi w' pa pc _ _ _ => totlam_any w' l[i] pa l[i].p.length pc))
  clear h
  go_enter Try.func16, Try.ntmps16
  go_wp2_with (go_at_call 36; refine hq.out.mono ?_; rintro e w' ⟨rfl, hb1⟩)
  go_ret
  exact ⟨rfl, hb1⟩
theorem totS_bad {l : List Cop} {k : Nat} (hk : k < l.length) (h : totO l[k] = true) : totS l = false := by
  unfold totS
  rw [List.any_eq_true.2 ⟨_, List.getElem_mem hk, h⟩]
  rfl
theorem totS_good {l : List Cop} (h : ∀ k, (hk : k < l.length) → totO l[k] = false) : totS l = true := by
  unfold totS
  rw [List.any_eq_false.2 fun o ho => by
    obtain ⟨k, hk, rfl⟩ := List.getElem_of_mem ho
    simp [h k hk]]
  rfl
set_option maxHeartbeats 4000000 in
theorem rtotal10_any (w : World) (a : Option Addr) (c : Nat) (l : List Cop) (h : copRep.Els w a l) (hm : l.length ≤ 9223372036854775807) :
    Calls Try.prog 19 #[.slice a l.length c] w fun e w' => e = .returned (.bool (totS l)) ∧ Below w.heap.size w w' := by
  have HE := Lib.hid h
  clear h
  go_enter Try.func19, Try.ntmps19
  go_wp2_with fail
  go_loopw [3] (fun i wr => ∃ k : Nat, k ≤ l.length ∧ i = .int .i64 k ∧ (∀ j, (hj : j < l.length) → j < k → totO l[j] = false) ∧ Below w.heap.size w wr) (fun i _ => l.length - (intOf i).toNat)
  case atStart => exact ⟨0, Nat.zero_le _, rfl, (fun j _ h => absurd h (Nat.not_lt_zero j)), Below.refl _ _⟩
  case round =>
    obtain ⟨k, hk, rfl, hall, hbel⟩ := hrel
    have HB := Lib.hid hbel
    by_cases hlt : k < l.length
    · have hbad := totS_bad hlt
      have hnext : totO l[k] = false → ∀ j, (hj : j < l.length) → j < k + 1 → totO l[j] = false := fun h j hj hjk => by
        by_cases e : j = k
        · subst e; exact h
        · exact hall j hj (by omega)
      obtain ⟨b, off, cs, rfl, ⟨v, rfl, hs, hh, -⟩, hc⟩ := (HE.out.below copRep hbel (Nat.le_refl _)) k hlt
      have x0 := hc 0 _ rfl; have x4 := hc 4 _ rfl
      simp only [show copRep.n = 5 from rfl, Nat.add_zero] at x0 x4
      obtain ⟨o, ho⟩ : ∃ o, l[k] = o := ⟨_, rfl⟩
      rw [ho] at x0 x4 hbad hnext
      obtain ⟨how, ok, n, p, fn⟩ := o
      dsimp only at x0 x4
      have hz0 : (0 : Int) ≤ (k : Int) := by omega
      have hz1 : (k : Int) < (l.length : Int) := by omega
      have HBAD := Lib.hid hbad; have HN := Lib.hid hnext
      clear hbad hnext hall hs hh hc ho hbel
      by_cases h5 : how = 5
      · subst h5
        rw [totO_5] at HBAD HN
        obtain ⟨r, hr⟩ : ∃ r, totalB fn false = r := ⟨_, rfl⟩
        have ht := fun W => rtotal_any W fn false
        rw [hr] at ht HBAD HN
        have HT := Lib.hid ht
        clear ht hr
        cases r with
        | true =>
          go_wp2_with fail
          refine (HT.out _).mono ?_
          rintro e w1 ⟨rfl, hd⟩
          have HB1 := Lib.hid (bNext hd.below HB.out)
          have y0 := keepCell hd.below x0
          clear hd HT x0 x4
          go_wp2_with fail
          go_roundw
          case rel => exact ⟨k + 1, by omega, by go_num, HN.out rfl, HB1.out⟩
          case measure => simp [intOf]; omega
        | false =>
          go_wp2_with fail
          refine (HT.out _).mono ?_
          rintro e w1 ⟨rfl, hd⟩
          have HB1 := Lib.hid (bNext hd.below HB.out)
          clear hd HT x0 x4
          go_wp2_with fail
          go_ret
          exact ⟨ret_bool (HBAD.out rfl).symm, HB1.out⟩
      · by_cases h6 : how = 6
        · subst h6
          rw [totO_6] at HBAD HN
          obtain ⟨r, hr⟩ : ∃ r, totalB fn true = r := ⟨_, rfl⟩
          have ht := fun W => rtotal_any W fn true
          rw [hr] at ht HBAD HN
          have HT := Lib.hid ht
          clear ht hr h5
          cases r with
          | true =>
            go_wp2_with fail
            refine (HT.out _).mono ?_
            rintro e w1 ⟨rfl, hd⟩
            have HB1 := Lib.hid (bNext hd.below HB.out)
            clear hd HT x0 x4
            go_wp2_with fail
            go_roundw
            case rel => exact ⟨k + 1, by omega, by go_num, HN.out rfl, HB1.out⟩
            case measure => simp [intOf]; omega
          | false =>
            go_wp2_with fail
            refine (HT.out _).mono ?_
            rintro e w1 ⟨rfl, hd⟩
            have HB1 := Lib.hid (bNext hd.below HB.out)
            clear hd HT x0 x4
            go_wp2_with fail
            go_ret
            exact ⟨ret_bool (HBAD.out rfl).symm, HB1.out⟩
        · have hno := HN.out (totO_no h5 h6)
          have HNO := Lib.hid hno
          have g5 : (how == 5) = false := beq_eq_false_iff_ne.2 h5
          have g6 : (how == 6) = false := beq_eq_false_iff_ne.2 h6
          clear h5 h6 hno HN HBAD
          go_wp2_with fail
          go_roundw
          case rel => exact ⟨k + 1, by omega, by go_num, HNO.out, HB.out⟩
          case measure => simp [intOf]; omega
    · have HG := Lib.hid (totS_good fun j hj => hall j hj (by omega))
      clear hall
      go_wp2_with fail
      go_ret
      exact ⟨ret_bool HG.out.symm, hbel⟩
end Go.Proofs.Ytabodlhlanolcaa
namespace Go.Proofs.Ytabodlhlanolcaa
open Go.RowKit
set_option linter.unusedVariables false
set_option linter.unusedSimpArgs false

theorem uses_len (l : List Cop) : (usesS l).length ≤ l.length :=
  Nat.le_trans (len_subset (uses_rises l) fun x hx => uses_mem.1 hx) (loadsK_len l)
end Go.Proofs.Ytabodlhlanolcaa
