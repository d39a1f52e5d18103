import Derived.Test.YtokghjnkfabgiaaGreatDoorTD17
import Derived.Maps.OwnOps
import Derived.Maps.OwnSet
import Derived.Maps.Ext
import Derived.Maps.StringElems
set_option linter.unusedVariables false
set_option linter.unusedSimpArgs false
set_option maxRecDepth 100000
namespace Go.Proofs.YtokghjnkfabgiaaGreatDoor
open Go.RowKit Go.Lib Go.Maps

section
variable {kt mt : TypeId} {q : IntKind}
def MapS (kt : TypeId) (q : IntKind) (B n : Nat) (M : Int → Str) (w : World) : Prop :=
 ∃ D : DataW Unit, w.ownsMap Tryz.prog kt (plainElem Tryz.prog 9) B n D ∧ IsMap D ∧ ∀ k, D.atKey (.int q k) (.lit (.string [])) = .lit (.string (M k))
theorem litKeyQ (q : IntKind) (k : Int) : WideAt.IsKeyLit (.int q k) := by first | trivial | exact .int _ _ | simp [WideAt.IsKeyLit]
theorem litNeQ {q : IntKind} {j k : Int} (h : j ≠ k) : (Lit.int q j) ≠ .int q k := fun e => h (by cases e; rfl)
theorem zeroStr (w : World) : (zeroValue 9).run Tryz.prog w = .ok (.string (str [])) w := by kernel_rfl
theorem MapS.made (w : World) : MapS kt q w.heap.size 0 (fun _ => []) (w.alloc (.map #[] 0)) :=
 ⟨.map [], World.ownsMap_made _ _ _ _, isMap_empty, fun k => rfl⟩
theorem MapS.kept {B n : Nat} {M : Int → Str} {w w' : World} (h : MapS kt q B n M w) (hb : w'.heap[B]? = w.heap[B]?) : MapS kt q B n M w' := by
 obtain ⟨D, ⟨es, clock, h1, h2⟩, h3⟩ := h
 exact ⟨D, ⟨es, clock, hb.trans h1, h2⟩, h3⟩
theorem MapS.lt {B n : Nat} {M : Int → Str} {w : World} (h : MapS kt q B n M w) : B < w.heap.size := by
 obtain ⟨D, ⟨es, clock, h1, h2⟩, h3⟩ := h
 exact (Array.getElem?_eq_some_iff.1 h1).1
theorem MapS.below {B n : Nat} {M : Int → Str} {w w' : World} (h : MapS kt q B n M w) (hb : Below w.heap.size w w') : MapS kt q B n M w' := h.kept (hb.block B h.lt)
def putS (M : Int → Str) (k : Int) (v : Str) : Int → Str := fun j => if j = k then v else M j
theorem MapS.put {B n : Nat} {M : Int → Str} {w : World} (hk : Tryz.prog.underlying kt = some (.int q)) (hm : Tryz.prog.underlying mt = some (.map kt 9)) (h : MapS kt q B n M w) (hn : n < maxLen) (k : Int) (wk : (Lit.int q k).wf = true) (v : Str) (hv : v.length ≤ maxLen) :
  ∃ w', (Instr.mapUpdate mt (.map (some B)) (.int q k) (.string (str v))).run Tryz.prog w = .ok () w' ∧ MapS kt q B (n + 1) (putS M k v) w' ∧ w.grownBy w' (some B) := by
 obtain ⟨D, hD, hi, hM⟩ := h
 obtain ⟨w', h1, h2, h3⟩ := hD.update (int_keyed hk) hm hn (keyOf_int_mk hk wk) (plainElem_string (s := str v) (H := Unit) (by kernel_rfl) (by rw [str_size]; exact hv))
 refine ⟨w', h1, ⟨_, h2, hi.put _ _, fun j => ?_⟩, h3⟩
 unfold putS
 by_cases hj : j = k
 ·subst hj
  rw [if_pos rfl, atKey_put_same hi (litKeyQ _ _)]
  rfl
 ·rw [if_neg hj, atKey_put_other (litNeQ hj)]
  exact hM j
theorem MapS.get {B n : Nat} {M : Int → Str} {w : World} (hk : Tryz.prog.underlying kt = some (.int q)) (hm : Tryz.prog.underlying mt = some (.map kt 9)) (h : MapS kt q B n M w) (k : Int) (wk : (Lit.int q k).wf = true) :
  (Instr.lookup mt (.map (some B)) (.int q k) false).run Tryz.prog w = .ok (.string (str (M k))) w := by
 obtain ⟨D, hD, hi, hM⟩ := h
 have hs : Tryz.prog.underlying 9 = some .string := by kernel_rfl
 obtain ⟨v, ps, hr, hv⟩ := hD.lookup (int_keyed hk) hm (zeroStr w) (plainElem_string (s := str []) (H := Unit) hs (by decide)) (keyOf_int_mk hk wk)
 obtain ⟨s, rfl, hz, _⟩ := plainElem_string_inv hs hv
 simp only [Prod.mk.injEq] at hz
 have e := (hM k).symm.trans hz.1
 injection e with e
 injection e with e
 rw [hr, e]
 rfl
end
end Go.Proofs.YtokghjnkfabgiaaGreatDoor

namespace Go.Proofs.YtokghjnkfabgiaaGreatDoor
open Go.RowKit Go.Lib
attribute [local go_sem] str_size str_get str_toList
attribute [local go_sem high] run_str_add

def itV (i : Itm) (a : Int) (nm nu : Value) : Value := .agg #[.int .i64 i.how, .int .i64 a, .int .u8 i.fn, nm, nu]
def FnOk (i : Itm) : Prop := (Lit.int .u8 i.fn).wf = true
set_option maxHeartbeats 4000000 in
theorem showverb_three (w : World) (b B1 n1 : Nat) (i : Itm) (a : Int) (nm nu : Value) (one : Int → Str) (hb : b < w.heap.size)
  (hc0 : w.cell? ⟨b, 0, none⟩ = some (.map (some B1))) (h1 : MapS 119 .u8 B1 n1 one w) (hf : FnOk i) (h3 : i.how = 3) :
  Calls Tryz.prog 104 #[.pointer (some ⟨b, 0, none⟩), itV i a nm nu] w fun e w' => e = .returned (.tuple #[.string (str (one i.fn)), .int .i64 1]) ∧ Below w.heap.size w w' := by
 obtain ⟨how, fn, name, nums⟩ := i
 dsimp only at h3
 subst h3
 have hg := fun (W : World) (hW : Below w.heap.size w W) => (h1.below hW).get (mt := 96) (by kernel_rfl) (by kernel_rfl) fn hf
 unfold itV
 dsimp only
 have hB := (Below.refl w.heap.size w).alloc (Nat.le_refl _) (.cells #[.int .i64 3, .int .i64 a, .int .u8 fn, nm, nu] 121)
 have HB := Lib.hid hB
 have hg1 := hg _ (Below.drew hB)
 have c0 : (w.alloc (.cells #[.int .i64 3, .int .i64 a, .int .u8 fn, nm, nu] 121)).drew.cell? ⟨b, 0, none⟩ = some (.map (some B1)) := by
  show (w.alloc _).cell? _ = _
  rw [← hc0]
  exact Below.cell hB hb
 clear hB hg h1
 go_enter Tryz.func104, Tryz.ntmps104
 go_wp2
 go_region
 all_goals (go_wp2)
 all_goals (go_ret2; exact ⟨rfl, Below.drew HB.out⟩)
set_option maxHeartbeats 4000000 in
theorem showverb_rest (w : World) (b B2 n2 : Nat) (i : Itm) (a : Int) (nm nu : Value) (two : Int → Str) (hb : b < w.heap.size)
  (hc0 : w.cell? ⟨b, 1, none⟩ = some (.map (some B2))) (h1 : MapS 119 .u8 B2 n2 two w) (hf : FnOk i) (hl : (two i.fn).length ≤ 60000) (h3 : i.how = 4 ∨ i.how = 5 ∨ i.how = 6 ∨ i.how = 7) :
  Calls Tryz.prog 104 #[.pointer (some ⟨b, 0, none⟩), itV i a nm nu] w fun e w' => e = .returned (if two i.fn = [] ∨ i.how = 4 then .tuple #[.string (str (two i.fn)), .int .i64 1] else if 17 < i.fn then .tuple #[.string (str []), .int .i64 0] else .tuple #[.string (str (two i.fn ++ (if i.how = 5 then [47] else if i.how = 6 then [92] else [46]))), .int .i64 2]) ∧ Below w.heap.size w w' := by
 obtain ⟨how, fn, name, nums⟩ := i
 dsimp only at h3 hl ⊢
 have hg := fun (W : World) (hW : Below w.heap.size w W) => (h1.below hW).get (mt := 96) (by kernel_rfl) (by kernel_rfl) fn hf
 unfold itV
 dsimp only
 have hB := (Below.refl w.heap.size w).alloc (Nat.le_refl _) (.cells #[.int .i64 how, .int .i64 a, .int .u8 fn, nm, nu] 121)
 have HB := Lib.hid hB
 have hg1 := hg _ (Below.drew hB)
 have c0 : (w.alloc (.cells #[.int .i64 how, .int .i64 a, .int .u8 fn, nm, nu] 121)).drew.cell? ⟨b, 1, none⟩ = some (.map (some B2)) := by
  show (w.alloc _).cell? _ = _
  rw [← hc0]
  exact Below.cell hB hb
 clear hB hg h1
 generalize two fn = t at hg1 hl ⊢
 have hn3 : (how == 3) = false := by rcases h3 with rfl | rfl | rfl | rfl <;> rfl
 by_cases ht : t = []
 ·subst ht
  rw [if_pos (Or.inl rfl)]
  go_enter Tryz.func104, Tryz.ntmps104
  go_wp2
  go_region
  all_goals (go_wp2)
  all_goals (go_ret2; exact ⟨rfl, Below.drew HB.out⟩)
 have et : t.isEmpty = false := by
  cases t with
  | nil => exact absurd rfl ht
  | cons x r => rfl
 by_cases h4 : how = 4
 ·subst h4
  rw [if_pos (Or.inr rfl)]
  go_enter Tryz.func104, Tryz.ntmps104
  go_wp2
  go_region
  all_goals (go_wp2)
  all_goals (go_ret2; exact ⟨rfl, Below.drew HB.out⟩)
 rw [if_neg (by simp [ht, h4])]
 by_cases h17 : 17 < fn
 ·rw [if_pos h17]
  have h4b : (how == 4) = false := beq_eq_false_iff_ne.2 h4
  go_enter Tryz.func104, Tryz.ntmps104
  go_wp2
  go_region
  all_goals (go_wp2)
  all_goals (go_ret2; exact ⟨rfl, Below.drew HB.out⟩)
 rw [if_neg h17]
 have hs : (w.alloc (.cells #[.int .i64 how, .int .i64 a, .int .u8 fn, nm, nu] 121)).heap.size = w.heap.size + 1 := by simp
 have hm0 : MapS 3 .i64 (w.heap.size + 1) 0 (fun _ => []) ((w.alloc (.cells #[.int .i64 how, .int .i64 a, .int .u8 fn, nm, nu] 121)).alloc (.map #[] 0)).drew := by
  have h := MapS.made (kt := 3) (q := .i64) (w.alloc (.cells #[.int .i64 how, .int .i64 a, .int .u8 fn, nm, nu] 121))
  rw [hs] at h
  exact h.kept rfl
 have hW0 : Below w.heap.size w ((w.alloc (.cells #[.int .i64 how, .int .i64 a, .int .u8 fn, nm, nu] 121)).alloc (.map #[] 0)).drew := Below.drew (HB.out.alloc (by rw [hs]; omega) _)
 have hcell : ((w.alloc (.cells #[.int .i64 how, .int .i64 a, .int .u8 fn, nm, nu] 121)).alloc (.map #[] 0)).drew.heap[w.heap.size]? = some (.cells #[.int .i64 how, .int .i64 a, .int .u8 fn, nm, nu] 121 (0, 0)) := by
  show ((w.heap.push _).push _)[w.heap.size]? = _
  rw [Array.getElem?_push_lt (by simp), Array.getElem_push_eq]
 have hz0 : ((w.alloc (.cells #[.int .i64 how, .int .i64 a, .int .u8 fn, nm, nu] 121)).alloc (.map #[] 0)).drew.heap.size = w.heap.size + 2 := by simp [World.drew]
 have hmm := @run_makeMap Tryz.prog
 obtain ⟨W0, eW⟩ : ∃ W0, W0 = ((w.alloc (.cells #[.int .i64 how, .int .i64 a, .int .u8 fn, nm, nu] 121)).alloc (.map #[] 0)).drew := ⟨_, rfl⟩
 rw [← eW] at hm0 hW0 hcell hz0
 obtain ⟨W1, r1, m1, g1⟩ := hm0.put (mt := 224) (by kernel_rfl) (by kernel_rfl) (by decide) 5 (by decide) [47] (by decide)
 obtain ⟨W2, r2, m2, g2⟩ := m1.put (mt := 224) (by kernel_rfl) (by kernel_rfl) (by decide) 6 (by decide) [92] (by decide)
 obtain ⟨W3, r3, m3, g3⟩ := m2.put (mt := 224) (by kernel_rfl) (by kernel_rfl) (by decide) 7 (by decide) [46] (by decide)
 have b1 := hW0.grown g1 (by omega) (fun k hk => by cases hk; omega)
 have b2 := b1.grown g2 (by have := b1.size; omega) (fun k hk => by cases hk; omega)
 have b3 := b2.grown g3 (by have := b2.size; omega) (fun k hk => by cases hk; omega)
 have l1 := g1.size; have l2 := g2.size
 have ch : W3.heap[w.heap.size]? = some (.cells #[.int .i64 how, .int .i64 a, .int .u8 fn, nm, nu] 121 (0, 0)) := by
  rw [g3.block _ (by omega) (fun e => by have := Option.some.inj e; omega), g2.block _ (by omega) (fun e => by have := Option.some.inj e; omega), g1.block _ (by omega) (fun e => by have := Option.some.inj e; omega)]
  exact hcell
 have ch0 : W3.cell? ⟨w.heap.size, 0, none⟩ = some (.int .i64 how) := by rw [Lib.cell_of_heap ch]; rfl
 have gt := m3.get (mt := 224) (by kernel_rfl) (by kernel_rfl) how (by rcases h3 with rfl | rfl | rfl | rfl <;> decide)
 have r1' : (Instr.mapUpdate 224 (.map (some (w.heap.size + 1))) (.int .i64 5) (.string ⟨#[47]⟩)).run Tryz.prog W0 = .ok () W1 := r1
 have r2' : (Instr.mapUpdate 224 (.map (some (w.heap.size + 1))) (.int .i64 6) (.string ⟨#[92]⟩)).run Tryz.prog W1 = .ok () W2 := r2
 have r3' : (Instr.mapUpdate 224 (.map (some (w.heap.size + 1))) (.int .i64 7) (.string ⟨#[46]⟩)).run Tryz.prog W2 = .ok () W3 := r3
 have B3 := Lib.hid b3
 rw [eW] at r1'
 clear eW hm0 hW0 hcell hz0 m1 m2 m3 g1 g2 g3 b1 b2 b3 ch r1 r2 r3 l1 l2
 have eu : putS (putS (putS (fun x => []) 5 [47]) 6 [92]) 7 [46] how = (if how = 5 then [47] else if how = 6 then [92] else [46]) := by
  rcases h3 with rfl | rfl | rfl | rfl
  ·exact absurd rfl h4
  all_goals rfl
 rw [eu] at gt
 have hu : (if how = 5 then [47] else if how = 6 then [92] else [46] : Str).length ≤ 1 := by
  split
  ·simp
  ·split <;> simp
 generalize (if how = 5 then [47] else if how = 6 then [92] else [46] : Str) = u at gt hu ⊢
 have h4b : (how == 4) = false := beq_eq_false_iff_ne.2 h4
 clear eu h3
 go_enter Tryz.func104, Tryz.ntmps104
 go_wp2
 go_region
 go_wp2
 all_goals (go_ret2; exact ⟨rfl, B3.out⟩)
end Go.Proofs.YtokghjnkfabgiaaGreatDoor

namespace Go.Proofs.YtokghjnkfabgiaaGreatDoor
open Go.RowKit Go.Lib Go.Maps
attribute [local go_sem] str_size str_get str_toList

def foldW (g : Str × Int × Int → Int) : List (Str × Int × Int) → (Int → Str) → Int → Str
 | [], M => M
 | x :: r, M => foldW g r (if g x = 0 then M else putS M (g x) x.1)
theorem fold_out {g : Str × Int × Int → Int} {k : Int} : ∀ (l : List (Str × Int × Int)) (M : Int → Str), (∀ x ∈ l, g x = 0 ∨ g x ≠ k) → foldW g l M k = M k
 | [], M, _ => rfl
 | x :: r, M, h => by
  rw [foldW, fold_out r _ fun y hy => h y (List.mem_cons_of_mem _ hy)]
  rcases h x List.mem_cons_self with h | h
  ·rw [if_pos h]
  ·split
   ·rfl
   ·unfold putS; rw [if_neg (Ne.symm h)]
theorem fold_in {g : Str × Int × Int → Int} {k : Int} (hk : k ≠ 0) : ∀ (l : List (Str × Int × Int)) (M : Int → Str), l.Pairwise (fun x y => g x = 0 ∨ g x ≠ g y) →
  foldW g l M k = match l.find? (fun x => decide (g x = k)) with | some x => x.1 | none => M k
 | [], M, _ => rfl
 | x :: r, M, h => by
  obtain ⟨h1, h2⟩ := List.pairwise_cons.1 h
  rw [foldW, List.find?_cons]
  by_cases hx : g x = k
  ·rw [decide_eq_true hx]
   dsimp only
   rw [fold_out, if_neg (by rw [hx]; exact hk)]
   ·unfold putS; rw [if_pos hx.symm]
   ·intro y hy
    rcases h1 y hy with h | h
    ·exact absurd (hx.symm.trans h) hk
    ·exact .inr fun e => h (hx.trans e.symm)
  ·rw [decide_eq_false hx]
   dsimp only
   rw [fold_in hk r _ h2, show (if g x = 0 then M else putS M (g x) x.1) k = M k from by
    split
    ·rfl
    ·unfold putS; rw [if_neg (fun e => hx e.symm)]]
theorem fold_two : foldW (fun x => x.2.1) verbsW (fun _ => []) = wtwoW := by
 funext k
 by_cases hk : k = 0
 ·subst hk
  rw [fold_out _ _ fun x _ => by by_cases h : x.2.1 = 0 <;> simp [h]]
  rfl
 ·rw [fold_in hk _ _ (by decide)]
  unfold wtwoW
  rw [if_neg hk]
  rfl
theorem fold_one : foldW (fun x => x.2.2) verbsW (fun _ => []) = woneW := by
 funext k
 by_cases hk : k = 0
 ·subst hk
  rw [fold_out _ _ fun x _ => by by_cases h : x.2.2 = 0 <;> simp [h]]
  rfl
 ·rw [fold_in hk _ _ (by decide)]
  unfold woneW
  rw [if_neg hk]
  rfl
theorem words_own : ∀ x ∈ verbsW, twoW x.1 = x.2.1 ∧ oneW x.1 = x.2.2 ∧ (Lit.int .u8 x.2.1).wf = true ∧ (Lit.int .u8 x.2.2).wf = true ∧ x.1.length ≤ 16 := by decide
def textC : Str := joinS [32] (verbsW.map (·.1))
theorem text_fields : Lib.fields textC = verbsW.map (·.1) := by decide +kernel
theorem text_ascii : ∀ b ∈ textC, b.toNat < 128 := by decide +kernel
theorem fields_c (s : ByteArray) (hs : s.data.toList = textC) (w : World) (ht : TabT w) : Calls Tryz.prog 67 #[.string s] w fun e w' =>
  e = .returned (.slice (some ⟨w.heap.size, 0, none⟩) verbsW.length verbsW.length) ∧ w' = w.alloc (.cells (verbsW.map fun x => Value.string (str x.1)).toArray 9) := by
 have hz : s.size = textC.length := by rw [← hs]; exact (Array.length_toList).symm
 have h := Tryz.strings_Fields s w (by rw [hz]; exact (by decide +kernel : textC.length < 4294967281)) (by intro j b hb; rw [hs] at hb; exact text_ascii b (List.mem_of_getElem? hb)) ht.space
 rw [hs, text_fields] at h
 simp only [List.length_map, List.map_map] at h
 exact h
structure TxS (w : World) (B fb : Nat) (F : Int → Str) (g : Str × Int × Int → Int) (wr : World) (j : Nat) : Prop where
 below : Below w.heap.size w wr
 row : wr.heap[fb]? = some (.cells (verbsW.map fun x => Value.string (str x.1)).toArray 9 (0, 0))
 map : ∃ n M, n ≤ j ∧ MapS 119 .u8 B n M wr ∧ foldW g (verbsW.drop j) M = F
 hj : j ≤ verbsW.length
theorem TxS.cell {w wr : World} {B fb j : Nat} {F : Int → Str} {g : Str × Int × Int → Int} (h : TxS w B fb F g wr j) (hj : j < verbsW.length) : wr.cell? ⟨fb, j, none⟩ = some (.string (str verbsW[j].1)) := by
 rw [Lib.cell_of_heap h.row]
 simp [hj]
set_option maxHeartbeats 4000000 in
theorem texts_any (two : Bool) (w : World) (ht : TabT w) (g : Str × Int × Int → Int) (hg : ∀ x ∈ verbsW, (if two = true then twoW x.1 else oneW x.1) = g x ∧ (Lit.int .u8 (g x)).wf = true) :
  Calls Tryz.prog 39 #[.bool two] w fun e w' => ∃ n, e = .returned (.map (some w.heap.size)) ∧ MapS 119 .u8 w.heap.size n (foldW g verbsW fun _ => []) w' ∧ Below w.heap.size w w' := by
 obtain ⟨F, hF⟩ : ∃ F, foldW g verbsW (fun _ => []) = F := ⟨_, rfl⟩
 rw [hF]
 have hm0 : MapS 119 .u8 w.heap.size 0 (fun _ => []) (w.alloc (.map #[] 0)) := MapS.made w
 have hb0 : Below w.heap.size w (w.alloc (.map #[] 0)) := (Below.refl _ _).alloc (Nat.le_refl _) _
 have hs0 : (w.alloc (.map #[] 0)).heap.size = w.heap.size + 1 := by simp
 have ht0 := ht.below hb0
 obtain ⟨W0, eW⟩ : ∃ W0, W0 = w.alloc (.map #[] 0) := ⟨_, rfl⟩
 rw [← eW] at hm0 hb0 hs0 ht0
 have hx0 : TxS w w.heap.size (w.heap.size + 1) F g (W0.alloc (.cells (verbsW.map fun x => Value.string (str x.1)).toArray 9)) 0 := by
  refine ⟨hb0.alloc (by omega) _, ?_, ⟨0, _, Nat.le_refl _, hm0.below ((Below.refl _ _).alloc (Nat.le_refl _) _), hF⟩, Nat.zero_le _⟩
  rw [← hs0]
  exact World.alloc_heap_new _ _
 have HT0 := Lib.hid ht0; have HX0 := Lib.hid hx0; have HS0 := Lib.hid hs0; have HG := Lib.hid hg
 have hmm := @run_makeMap Tryz.prog
 clear hm0 hb0 hs0 ht0 hx0 hg ht hF
 obtain ⟨B, hB⟩ : ∃ B, w.heap.size = B := ⟨_, rfl⟩
 go_enter Tryz.func39, Tryz.ntmps39
 go_wp2_with (go_at_call 67; fail)
 rw [← eW]
 clear eW
 go_wp2_with (go_at_call 67; refine (fields_c _ (by kernel_rfl) _ HT0.out).mono ?_)
 rintro e w1 ⟨rfl, rfl⟩
 rw [HS0.out]
 dsimp only
 go_wp2_with fail
 rw [hB] at HX0 ⊢
 generalize W0.alloc (.cells (verbsW.map fun x => Value.string (str x.1)).toArray 9) = W1 at HX0 ⊢
 clear HT0 HS0 hmm
 generalize B + 1 = fb at HX0 ⊢
 obtain ⟨N, hN⟩ : ∃ N, verbsW.length = N := ⟨_, rfl⟩
 have hN30 : N ≤ 30 := by rw [← hN]; decide
 rw [hN]
 have HNN := Lib.hid hN
 clear hN
 go_loopw [11] (fun v wr => ∃ j : Nat, v = .int .i64 (j : Int) ∧ TxS w B fb F g wr j) (fun v wr => N - (Lib.intOf v).toNat)
 case atStart => exact ⟨0, rfl, HX0.out⟩
 case round =>
  obtain ⟨j, rfl, hx⟩ := hrel
  have hjN := hx.hj
  rw [HNN.out] at hjN
  by_cases hj : j < N
  ·have hj' : j < verbsW.length := by rw [HNN.out]; exact hj
   have c0 := hx.cell hj'
   obtain ⟨hg1, hg2⟩ := HG.out _ (List.getElem_mem hj')
   obtain ⟨-, -, -, -, hw16⟩ := words_own _ (List.getElem_mem hj')
   have hv := Verb_any verbsW[j].1 two wr
   rw [hg1] at hv
   obtain ⟨n, M, hn, hM, hf⟩ := hx.map
   have hdr : verbsW.drop j = verbsW[j] :: verbsW.drop (j + 1) := List.drop_eq_getElem_cons hj'
   rw [hdr, foldW] at hf
   generalize g verbsW[j] = k at hv hf hg2
   generalize verbsW[j].1 = s at hv hf c0 hw16
   have q : decide ((j : Int) < (N : Int)) = true := decide_eq_true (by omega)
   have HV := Lib.hid hv; have HX := Lib.hid hx; have HM := Lib.hid hM
   clear hv hx hM hdr hg1
   by_cases hk : k = 0
   ·rw [if_pos hk] at hf
    have hx1 : TxS w B fb F g wr (j + 1) := ⟨HX.out.below, HX.out.row, ⟨n, M, by omega, HM.out, hf⟩, hj'⟩
    have HX1 := Lib.hid hx1
    clear hf hx1 HX HM hg2 hw16
    have qk : (k != 0) = false := by rw [hk]; rfl
    rw [qk] at HV
    go_wp2_with (go_at_call 68; refine HV.out.mono ?_; rintro e w' ⟨rfl, rfl⟩)
    go_roundw
    case rel => exact ⟨j + 1, by go_num, HX1.out⟩
    case measure => simp [Lib.intOf]; omega
   ·rw [if_neg hk] at hf
    have qk : (k != 0) = true := by simpa using hk
    rw [qk] at HV
    obtain ⟨w2, r2, m2, g2⟩ := HM.out.put (mt := 96) (by kernel_rfl) (by kernel_rfl) (by unfold maxLen; omega) k hg2 s (by unfold maxLen; omega)
    have hx1 : TxS w B fb F g w2 (j + 1) := by
     refine ⟨HX.out.below.grown g2 (by have := HX.out.below.size; omega) (fun k hk => by cases hk; omega), ?_, ⟨n + 1, _, by omega, m2, hf⟩, hj'⟩
     rw [g2.block _ (block_lt HX.out.row) (fun e => ?_)]
     ·exact HX.out.row
     ·obtain ⟨D, ⟨es, clock, h1, h2⟩, h3⟩ := HM.out
      rw [← Option.some.inj e, HX.out.row] at h1
      cases h1
    have HX1 := Lib.hid hx1
    clear hf hx1 HX HM hg2 hw16 m2 g2
    go_wp2_with (go_at_call 68; refine HV.out.mono ?_; rintro e w' ⟨rfl, rfl⟩)
    go_roundw
    case rel => exact ⟨j + 1, by go_num, HX1.out⟩
    case measure => simp [Lib.intOf]; omega
  ·obtain rfl : j = N := by omega
   obtain ⟨n, M, hn, hM, hf⟩ := hx.map
   rw [← HNN.out, List.drop_length, foldW] at hf
   have HE := Lib.hid (And.intro hM hx.below)
   clear hM hx hn
   go_wp2_with fail
   go_ret
   exact ⟨n, by rw [hB]; rfl, by rw [← hf, hB]; exact HE.out.1, hB ▸ HE.out.2⟩
end Go.Proofs.YtokghjnkfabgiaaGreatDoor
