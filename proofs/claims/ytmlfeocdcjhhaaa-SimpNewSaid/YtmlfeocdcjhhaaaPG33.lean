import Derived.Test.YtmlfeocdcjhhaaaPG8
import Derived.Lib.SlicesCompact
import Derived.Test.YtmlfeocdcjhhaaaPG32
import Derived.Test.YtmlfeocdcjhhaaaPG9
import Derived.Test.YtmlfeocdcjhhaaaPG13
import Derived.Test.YtmlfeocdcjhhaaaPG3
import Derived.Sort.OwnSortedInts
import Derived.Test.YtmlfeocdcjhhaaaPG29
namespace Go.Proofs.Ytmlfeocdcjhhaaa
set_option maxRecDepth 100000
set_option linter.unusedVariables false
set_option linter.unusedSimpArgs false

/-! Which buffers operations load, rising: plain. -/
def insU (k : Int) : List Int → List Int
  | [] => [k]
  | x :: xs => if x < k then x :: insU k xs else if x = k then x :: xs else k :: x :: xs
theorem insU_mem {k x : Int} : ∀ {l : List Int}, x ∈ insU k l ↔ x = k ∨ x ∈ l
  | [] => by simp [insU]
  | y :: l => by
    rw [insU]
    by_cases h1 : y < k
    · rw [if_pos h1, List.mem_cons, List.mem_cons, insU_mem]
      constructor
      · rintro (h | h | h) <;> simp [h]
      · rintro (h | h | h) <;> simp [h]
    · rw [if_neg h1]
      by_cases h2 : y = k
      · subst h2
        rw [if_pos rfl, List.mem_cons]
        constructor
        · rintro (h | h) <;> simp [h]
        · rintro (h | h | h) <;> simp [h]
      · rw [if_neg h2, List.mem_cons]
theorem insU_rises {k : Int} : ∀ {l : List Int}, l.Pairwise (· < ·) → (insU k l).Pairwise (· < ·)
  | [], h => by simp [insU]
  | y :: l, h => by
    have h0 := List.pairwise_cons.1 h
    rw [insU]
    by_cases h1 : y < k
    · rw [if_pos h1, List.pairwise_cons]
      refine ⟨fun x hx => ?_, insU_rises h0.2⟩
      rcases insU_mem.1 hx with rfl | hx
      · exact h1
      · exact h0.1 x hx
    · rw [if_neg h1]
      by_cases h2 : y = k
      · rw [if_pos h2]; exact h
      · rw [if_neg h2, List.pairwise_cons]
        refine ⟨fun x hx => ?_, h⟩
        rcases List.mem_cons.1 hx with rfl | hx
        · omega
        · have := h0.1 x hx; omega
def foldU (l : List Int) (o : List Int) : List Int := l.foldl (fun o k => insU k o) o
theorem foldU_mem {x : Int} : ∀ {l o : List Int}, x ∈ foldU l o ↔ x ∈ l ∨ x ∈ o
  | [], o => by simp [foldU]
  | k :: l, o => by
    show x ∈ foldU l (insU k o) ↔ _
    rw [foldU_mem, insU_mem, List.mem_cons]
    constructor
    · rintro (h | h | h) <;> simp [h]
    · rintro ((h | h) | h) <;> simp [h]
theorem foldU_rises : ∀ {l o : List Int}, o.Pairwise (· < ·) → (foldU l o).Pairwise (· < ·)
  | [], o, h => h
  | k :: l, o, h => foldU_rises (l := l) (o := insU k o) (insU_rises h)
def loadK (o : Cop) : List Int := if o.how = 4 then [o.k] else []
def loadsK (l : List Cop) : List Int := l.flatMap loadK
def usesS (l : List Cop) : List Int := foldU (loadsK l) []
theorem uses_mem {x : Int} {l : List Cop} : x ∈ usesS l ↔ x ∈ loadsK l := by unfold usesS; rw [foldU_mem]; simp
theorem uses_rises (l : List Cop) : (usesS l).Pairwise (· < ·) := foldU_rises List.Pairwise.nil
theorem rises_eq : ∀ {l m : List Int}, l.Pairwise (· < ·) → m.Pairwise (· < ·) → (∀ x, x ∈ l ↔ x ∈ m) → l = m
  | [], m, _, _, h => by
    cases m with
    | nil => rfl
    | cons y m => exact absurd ((h y).2 List.mem_cons_self) (by simp)
  | x :: l, [], _, _, h => absurd ((h x).1 List.mem_cons_self) (by simp)
  | x :: l, y :: m, h1, h2, h => by
    obtain ⟨a1, a2⟩ := List.pairwise_cons.1 h1
    obtain ⟨b1, b2⟩ := List.pairwise_cons.1 h2
    have e : x = y := by
      rcases List.mem_cons.1 ((h x).1 List.mem_cons_self) with e | hx
      · exact e
      · rcases List.mem_cons.1 ((h y).2 List.mem_cons_self) with e | hy
        · exact e.symm
        · have := b1 x hx; have := a1 y hy; omega
    subst e
    rw [rises_eq a2 b2 fun z => ?_]
    have hz := h z
    rw [List.mem_cons, List.mem_cons] at hz
    constructor
    · intro hl
      rcases hz.1 (.inr hl) with rfl | hm
      · have := a1 z hl; omega
      · exact hm
    · intro hm
      rcases hz.2 (.inr hm) with rfl | hl
      · have := b1 z hm; omega
      · exact hl
theorem compact_rises {zs : List Int} (hs : zs.Pairwise (· ≤ ·)) : ∀ m, m ≤ zs.length → (Lib.compactUpTo zs.toArray m).Pairwise (· < ·) ∧ ∀ x, x ∈ Lib.compactUpTo zs.toArray m ↔ ∃ j, ∃ h : j < zs.length, j < m ∧ zs[j] = x
  | 0, _ => ⟨by simp [Lib.compactUpTo], fun x => by simp [Lib.compactUpTo]⟩
  | m + 1, hm => by
    obtain ⟨h1, h2⟩ := compact_rises hs m (by omega)
    have hml : m < zs.length := by omega
    have hg : ∀ j, (h : j < zs.length) → zs.toArray[j]! = zs[j] := fun j h => by simp [h]
    have hle : ∀ i j, (hi : i < zs.length) → (hj : j < zs.length) → i < j → zs[i] ≤ zs[j] := fun i j hi hj hij => List.pairwise_iff_getElem.1 hs i j hi hj hij
    rw [Lib.compactUpTo_succ]
    by_cases hk : Lib.keeps zs.toArray m = true
    · rw [if_pos hk, hg m hml]
      refine ⟨List.pairwise_append.2 ⟨h1, List.pairwise_singleton _ _, fun a ha b hb => ?_⟩, fun x => ?_⟩
      · rw [List.mem_singleton.1 hb]
        obtain ⟨j, hj, hjm, rfl⟩ := (h2 a).1 ha
        unfold Lib.keeps at hk
        rw [hg m hml, hg (m - 1) (by omega)] at hk
        simp only [decide_eq_true_eq] at hk
        have hne : zs[m] ≠ zs[m - 1] := by
          rcases hk with h | h
          · omega
          · exact h
        have l1 := hle (m - 1) m (by omega) hml (by omega)
        have l2 : zs[j] ≤ zs[m - 1] := by
          by_cases e : j = m - 1
          · subst e; exact Int.le_refl _
          · exact hle j (m - 1) hj (by omega) (by omega)
        omega
      · rw [List.mem_append, List.mem_singleton, h2]
        constructor
        · rintro (⟨j, hj, hjm, rfl⟩ | rfl)
          · exact ⟨j, hj, by omega, rfl⟩
          · exact ⟨m, hml, by omega, rfl⟩
        · rintro ⟨j, hj, hjm, rfl⟩
          by_cases e : j = m
          · subst e; exact .inr rfl
          · exact .inl ⟨j, hj, by omega, rfl⟩
    · rw [if_neg hk, List.append_nil]
      refine ⟨h1, fun x => ?_⟩
      rw [h2]
      constructor
      · rintro ⟨j, hj, hjm, rfl⟩; exact ⟨j, hj, by omega, rfl⟩
      · rintro ⟨j, hj, hjm, rfl⟩
        by_cases e : j = m
        · subst e
          unfold Lib.keeps at hk
          simp only [decide_eq_true_eq, not_or, Decidable.not_not] at hk
          have hk2 := hk.2
          rw [hg j hml, hg (j - 1) (by omega)] at hk2
          exact ⟨j - 1, by omega, by omega, hk2.symm⟩
        · exact ⟨j, hj, by omega, rfl⟩
theorem compact_uses (l : List Cop) : Lib.compact ((loadsK l).mergeSort fun x y => decide (x ≤ y)) = usesS l := by
  have hs : ((loadsK l).mergeSort fun x y => decide (x ≤ y)).Pairwise (· ≤ ·) := by
    have := List.pairwise_mergeSort (le := fun x y : Int => decide (x ≤ y)) (by intro a b c h1 h2; simp at *; omega) (by intro a b; simp; omega) (loadsK l)
    exact this.imp (by intro a b h; simpa using h)
  obtain ⟨h1, h2⟩ := compact_rises hs _ (Nat.le_refl _)
  refine rises_eq h1 (uses_rises l) fun x => ?_
  unfold Lib.compact
  rw [h2, uses_mem, ← (List.mergeSort_perm (loadsK l) fun x y => decide (x ≤ y)).mem_iff]
  constructor
  · rintro ⟨j, hj, _, rfl⟩; exact List.getElem_mem hj
  · intro hx
    obtain ⟨j, hj, e⟩ := List.getElem_of_mem hx
    exact ⟨j, hj, hj, e⟩
theorem len_subset : ∀ {l m : List Int}, l.Pairwise (· < ·) → (∀ x ∈ l, x ∈ m) → l.length ≤ m.length
  | [], m, _, _ => Nat.zero_le _
  | x :: l, m, h1, h => by
    obtain ⟨a1, a2⟩ := List.pairwise_cons.1 h1
    have hx := h x List.mem_cons_self
    have := len_subset (l := l) (m := m.erase x) a2 fun y hy => by
      have hne : y ≠ x := fun e => by subst e; have := a1 y hy; omega
      exact (List.mem_erase_of_ne hne).2 (h y (List.mem_cons_of_mem _ hy))
    rw [List.length_erase_of_mem hx] at this
    have := List.length_pos_of_mem hx
    simp only [List.length_cons]
    omega
end Go.Proofs.Ytmlfeocdcjhhaaa

namespace Go.Proofs.Ytmlfeocdcjhhaaa
set_option maxRecDepth 100000
open Go.RowKit
set_option linter.unusedVariables false
set_option linter.unusedSimpArgs false
attribute [local go_sem ↓] Go.wp_at_zero Go.wp_at_succ

/-! core.Uses. -/
theorem loadsK_len : ∀ l : List Cop, (loadsK l).length ≤ l.length
  | [] => Nat.le_refl _
  | o :: l => by
    unfold loadsK at *
    rw [List.flatMap_cons, List.length_append, List.length_cons]
    have := loadsK_len l
    unfold loadsK at this
    have : (loadK o).length ≤ 1 := by unfold loadK; split <;> simp
    omega
theorem loadsK_take {l : List Cop} {k : Nat} (h : k < l.length) : loadsK (l.take (k + 1)) = loadsK (l.take k) ++ loadK l[k] := by
  unfold loadsK
  rw [List.take_succ_eq_append_getElem h, List.flatMap_append]
  simp
theorem Try.infoIntU : (Try.prog.info? 3).map (fun i => (i.zero, i.size, i.bytes)) = some (some (.int .i64 0), 1, 8) := by kernel_rfl
theorem srcU (W : World) (cs : Array Value) (t : TypeId) (m : Nat) (news : List Value) (G : Nat) (hG : W.heap.size = G) (hn : news = cs.toList) : Src (W.alloc (.cells cs t)) (.slice (some ⟨G, 0, none⟩) m m) m news := by
  subst hG hn
  refine .inr ⟨_, _, rfl, fun j z hz => ?_⟩
  have e : (⟨W.heap.size, 0, none⟩ : Addr).add j = ⟨W.heap.size, j, none⟩ := by unfold Addr.add; split <;> simp_all
  rw [e, cell_of_row _ _ j _ _ _ (World.alloc_heap_new W _)]
  simpa using hz
/-- a slice of numbers that it came back with -/
def RetZ (w : World) (us : List Int) (e : Ending) (w' : World) : Prop := ∃ a c, e = .returned (.slice a us.length c) ∧ IntsAt .i64 w' a us ∧ Below w.heap.size w w'
/-- behind the sort and the compacting -/
theorem sorted_row {w : World} {B g cap n q : Nat} {os : Array Obj} {cur : Array Value} {zs ts : List Int} (hb : w.heap[g]? = some (.cells cur 3 (0, 0))) (hB : B ≤ g) (h1 : zs.length ≤ cap) (h2 : cap ≤ maxLen) (h3 : cur.size = cap * 1) (hl : ts.length = zs.length) :
    Below B w (Sort.grow (Sort.putRow (Value.int .i64) (Sort.ahead w n) g 0 ts.toArray) os) ∧ Sort.Holds (Value.int .i64) (Sort.grow (Sort.putRow (Value.int .i64) (Sort.ahead w n) g 0 ts.toArray) os) g 0 ts.toArray ∧
      ∃ cur', (Sort.grow (Sort.putRow (Value.int .i64) (Sort.ahead w n) g 0 ts.toArray) os).heap[g]? = some (.cells cur' 3 (0, 0)) ∧ cur'.size = cap * 1 := by
  have hh := heap_sortedI (w := w) (n := n) (os := os) ts.toArray hb
  refine ⟨(Below.refl _ _).grown (grownBy_sortedI ts.toArray) (Nat.le_of_lt (Nat.lt_of_le_of_lt hB (Array.getElem?_eq_some_iff.1 hb).1)) (fun j hj => by cases hj; exact hB), holds_of_blockI hh (take_putCellsI cur ts (by omega)), _, hh, by simp [Sort.putCells, h3]⟩
set_option maxHeartbeats 8000000 in
theorem cuses_any (w : World) (a : Option Addr) (c : Nat) (l : List Cop) (h : copRep.Els w a l) (hm : l.length ≤ 8796093022208) :
    Calls Try.prog 16 #[.slice a l.length c] w (RetZ w (usesS l)) := by
  have HE := Lib.hid h
  obtain ⟨i0, hi, hz0, hz1, hz2⟩ := info_parts Try.infoIntU
  have Hi := Lib.hid hi; have Hz0 := Lib.hid hz0; have Hz1 := Lib.hid hz1; have Hz2 := Lib.hid hz2; clear hi hz0 hz1 hz2 h
  go_enter Try.func16, Try.ntmps16
  go_wp2_with fail
  go_loopw [3, 8] (fun v i wr => ∃ k : Nat, k ≤ l.length ∧ i = .int .i64 k ∧ wr.ownsRow w.heap.size 3 1 v (loadsK (l.take k)).length ((loadsK (l.take k)).map (Value.int .i64)) ∧ Below w.heap.size w wr) (fun _ i _ => l.length - (intOf i).toNat)
  case atStart => exact ⟨0, Nat.zero_le _, rfl, World.ownsRow_nil _ _ _ _, Below.refl _ _⟩
  case round =>
    obtain ⟨k, hk, rfl, hown, hbel⟩ := hrel
    by_cases hlt : k < l.length
    · have hkl := loadsK_len (l.take k)
      have hkt := loadsK_take hlt
      have htk : (l.take k).length = k := by simp; omega
      rw [htk] at hkl
      clear htk
      obtain ⟨b, off, cs, rfl, ⟨v, rfl, hs, hh, -⟩, hc⟩ := (HE.out.below copRep hbel (Nat.le_refl _)) k hlt
      have x0 := hc 0 _ rfl; have x1 := hc 1 _ rfl; have x2 := hc 2 _ rfl; have x3 := hc 3 _ rfl; have x4 := hc 4 _ rfl
      simp only [show copRep.n = 5 from rfl, Nat.add_zero] at x0 x1 x2 x3 x4
      obtain ⟨pa, pc, rfl, hpl, hpe⟩ := Rep.Sl.form hs
      obtain ⟨o, ho⟩ : ∃ o, l[k] = o := ⟨_, rfl⟩
      rw [ho] at x0 x1 x2 x3 x4 hkt
      obtain ⟨how, ok, n, p, fn⟩ := o
      dsimp only at x0 x1 x2 x3 x4
      have hz0 : (0 : Int) ≤ (k : Int) := by omega
      have hz1 : (k : Int) < (l.length : Int) := by omega
      have HB := Lib.hid hbel; have HO := Lib.hid hown
      generalize loadsK (l.take k) = ks at hkl hkt HO
      clear hbel hown hs hh hpe hpl hc ho
      obtain ⟨nk, hnk⟩ : ∃ nk, ks.length = nk := ⟨_, rfl⟩
      have HNK := Lib.hid hnk
      rw [hnk] at HO hkl
      clear hnk
      by_cases h4 : how = 4
      · subst h4
        have HKT := Lib.hid (show loadsK (l.take (k + 1)) = ks ++ [ok] by rw [hkt]; rfl)
        clear hkt
        go_wp2_with (at_builtin; (refine wpList_append_src _ rfl _ _ 31 rfl w.heap.size 3 i0 _ 1 8 Try.underlying31 Hi.out Hz0.out Hz1.out Hz2.out rfl (by decide) _ nk _ rfl ((HO.out.alloc _).alloc _) _ 1 [.int .i64 ok] rfl (srcU _ _ _ _ _ _ (by simp) rfl) rfl ?h1 (by unfold maxLen; omega) (by omega) (by have := HB.out.size; simp; omega) ?_))
        case h1 => intro u hu; simp at hu; subst hu; rfl
        intro v' w' hown hg _
        have hb1 : Below w.heap.size w w' := ((HB.out.alloc HB.out.size _).alloc (by have := HB.out.size; simp; omega) _).grown hg (by have := HB.out.size; simp; omega) (fun j hj => (World.ownsRow.lt HO.out j hj).1)
        have hown' : w'.ownsRow w.heap.size 3 1 v' (loadsK (l.take (k + 1))).length ((loadsK (l.take (k + 1))).map (Value.int .i64)) := by
          rw [HKT.out, List.length_append, List.map_append, HNK.out]; exact hown
        have HO' := Lib.hid hown'; have HB1 := Lib.hid hb1
        clear hown hg hown' hb1 x0 x1 x2 x3 x4
        go_wp2_with fail
        go_roundw
        case rel => exact ⟨k + 1, by omega, by go_num, HO'.out, HB1.out⟩
        case measure => simp [intOf]; omega
      · have g4 : (how == 4) = false := beq_eq_false_iff_ne.2 h4
        have HO' := Lib.hid (show wr.ownsRow w.heap.size 3 1 u3 (loadsK (l.take (k + 1))).length ((loadsK (l.take (k + 1))).map (Value.int .i64)) by
          rw [hkt]; unfold loadK; rw [if_neg h4, List.append_nil, HNK.out]; exact HO.out)
        have HB1 := Lib.hid (HB.out.alloc HB.out.size (.cells #[.int .i64 how, .int .i64 ok, .int .i64 n, .slice pa p.length pc, .int .u8 fn] 44))
        clear hkt h4
        go_wp2_with fail
        go_roundw
        case rel => exact ⟨k + 1, by omega, by go_num, HO'.out.alloc _, HB1.out⟩
        case measure => simp [intOf]; omega
    · obtain rfl : k = l.length := by omega
      rw [List.take_length] at hown
      have hcu := compact_uses l
      have hkl := loadsK_len l
      generalize loadsK l = ks at hown hcu hkl
      obtain ⟨us, hus0⟩ : ∃ us, usesS l = us := ⟨_, rfl⟩
      rw [hus0] at hcu
      have HUS := Lib.hid hus0
      clear hus0
      have HCU := Lib.hid hcu; have HB := Lib.hid hbel
      clear hcu hbel
      obtain ⟨-, ⟨rfl, hnil⟩ | ⟨g, cap, cur, rfl, hB, hg, hn, hcap, hcs, htk⟩⟩ := id hown
      · have hks : ks = [] := by cases ks with | nil => rfl | cons x t => simp at hnil
        subst hks
        have hus : us = [] := by rw [← HCU.out]; simp [Lib.compact, Lib.compactUpTo]
        subst hus
        clear hown hnil
        go_wp2_with fail
        refine (Try.slices_Sort_int_none _ _ _).mono ?_
        rintro e w1 ⟨rfl, rfl⟩
        go_wp2_with fail
        refine (Try.slices_Compact_int_empty _ _ _).mono ?_
        rintro e w1 ⟨rfl, rfl⟩
        go_wp2_with fail
        go_ret
        unfold RetZ
        rw [HUS.out]
        exact ⟨none, 0, rfl, IntsAt.nil _ _ _, HB.out⟩
      · have hh : Sort.Holds (Value.int .i64) wr g 0 ks.toArray := holds_of_blockI hg (by simpa using htk)
        have hgl : g < wr.heap.size := (Array.getElem?_eq_some_iff.1 hg).1
        have hq := Try.slices_Sort_int g 0 cap ks wr hh hgl (by omega)
        have HQ := Lib.hid hq; have HG := Lib.hid hg
        clear hh hq hown htk hgl hg
        go_wp2_with fail
        refine HQ.out.mono ?_
        rintro e w1 ⟨rfl, n, os, rfl⟩
        have hl : (ks.mergeSort fun x y => decide (x ≤ y)).length = ks.length := List.length_mergeSort _
        obtain ⟨hb1, hh1, cur1, hg1, hcs1⟩ := sorted_row (n := n) (q := 0) (os := os) HG.out hB hn hcap hcs hl
        have HB1 := Lib.hid (Below.trans HB.out hb1)
        generalize Sort.grow (Sort.putRow (Value.int .i64) (Sort.ahead wr n) g 0 (ks.mergeSort fun x y => decide (x ≤ y)).toArray) os = w1 at hh1 hg1 HB1 ⊢
        have hq2 := Try.slices_Compact_int g 0 cap (ks.mergeSort fun x y => decide (x ≤ y)) w1 hh1 (by rw [hl]; omega) (by rw [hl]; exact hn)
        rw [HCU.out, hl] at hq2
        have HQ2 := Lib.hid hq2; have HG1 := Lib.hid hg1
        have hul : us.length ≤ ks.length := by
          rw [← HCU.out, ← hl]
          unfold Lib.compact Lib.compactUpTo
          rw [List.length_map]
          exact Nat.le_trans (List.length_filter_le _ _) (by simp)
        clear hb1 hh1 hq2 hg1 HQ HB HG
        go_wp2_with fail
        refine HQ2.out.mono ?_
        rintro e w2 ⟨rfl, q, rfl⟩
        have hl2 : (us ++ List.replicate (ks.length - us.length) 0).length = ks.length := by simp; omega
        obtain ⟨hb2, hh2, -⟩ := sorted_row (n := q) (q := 0) (os := #[]) HG1.out hB hn hcap hcs1 hl2
        rw [Sort.grow_empty] at hb2 hh2
        have HB2 := Lib.hid (Below.trans HB1.out hb2)
        have hints : IntsAt .i64 (Sort.putRow (Value.int .i64) (Sort.ahead w1 q) g 0 (us ++ List.replicate (ks.length - us.length) 0).toArray) (some ⟨g, 0, none⟩) us := fun j hj => by
          have := (hh2 j (by simp; omega)).1
          refine ⟨g, 0, rfl, ?_⟩
          rw [this]
          have e : (us ++ List.replicate (ks.length - us.length) 0)[j]? = some us[j] := by rw [List.getElem?_append_left hj, List.getElem?_eq_getElem hj]
          simp [e]
        have HINT := Lib.hid hints
        clear hb2 hh2 hints HQ2
        go_wp2_with fail
        go_ret
        unfold RetZ
        rw [HUS.out]
        exact ⟨some ⟨g, 0, none⟩, cap, rfl, HINT.out, HB2.out⟩
end Go.Proofs.Ytmlfeocdcjhhaaa

namespace Go.Proofs.Ytmlfeocdcjhhaaa
set_option maxRecDepth 100000
open Go.RowKit
set_option linter.unusedVariables false
set_option linter.unusedSimpArgs false

/-! What SimpFewer wants of the plain meanings. -/
theorem uses_len13 (l : List Cop) : (usesS l).length ≤ l.length :=
  Nat.le_trans (len_subset (uses_rises l) (fun x hx => uses_mem.1 hx)) (loadsK_len l)
theorem loads_mem {x : Int} {l : List Cop} : x ∈ loadsK l ↔ ∃ o ∈ l, o.how = 4 ∧ o.k = x := by
  unfold loadsK
  rw [List.mem_flatMap]
  constructor
  · rintro ⟨o, ho, hx⟩
    unfold loadK at hx
    by_cases h : o.how = 4
    · rw [if_pos h, List.mem_singleton] at hx; exact ⟨o, ho, h, hx.symm⟩
    · rw [if_neg h] at hx; cases hx
  · rintro ⟨o, ho, h, rfl⟩
    exact ⟨o, ho, by unfold loadK; rw [if_pos h]; exact List.mem_singleton.2 rfl⟩
theorem uses_simple {l : List Cop} (h : 0 ≤ depthI l) {x : Int} (hx : x ∈ usesS (simpleC l)) : x ∈ usesS l := by
  obtain ⟨-, -, -, -, -, h5⟩ := simple_facts h
  rw [uses_mem, loads_mem] at hx ⊢
  obtain ⟨o, ho, h4, hk⟩ := hx
  rcases h5 o ho with h6 | ⟨n, rfl⟩
  · exact ⟨o, h6, h4, hk⟩
  · have : (1 : Int) = 4 := h4
    omega
theorem opsC_fit {l : List Cop} (h : fitC l = true) : opsC l = (simpleC l, 0) := by unfold opsC; rw [if_pos h]
theorem opsC_not {l : List Cop} (h : fitC l = false) : opsC l = ([], 130) := by unfold opsC; rw [if_neg (by rw [h]; decide)]
theorem opsC_again {l : List Cop} (h : fitC l = true) : opsC (simpleC l) = (simpleC l, 0) := by
  rw [opsC_fit (fit_simple h), (simple_facts (fit_poly h).1).2.2.2.2.1]
theorem fit_depth {l : List Cop} (h : fitC l = true) : 0 ≤ depthI l := (fit_poly h).1
theorem any_snoc {us : List Int} {k : Nat} (hk : k < us.length) (x : Int) : (us.take (k + 1)).any (· == x) = ((us.take k).any (· == x) || us[k] == x) := by
  rw [List.take_succ_eq_append_getElem hk, List.any_append]; simp
theorem any_here {us : List Int} {x : Int} (h : x ∈ us) : (us.take us.length).any (· == x) = true := by
  rw [List.take_length]
  exact List.any_eq_true.2 ⟨x, h, by simp⟩
end Go.Proofs.Ytmlfeocdcjhhaaa
