import Derived.Test.YtokghjnkfabgiaaGreatDoorTA20
import Derived.Test.YtokghjnkfabgiaaGreatDoorTA1
import Derived.OrdersHeld
import Derived.Deep.RegionHeld3
namespace Go.Proofs.YtokghjnkfabgiaaGreatDoor
set_option maxRecDepth 100000
open Go.RowKit Go.Lib Go.Maps
set_option linter.unusedVariables false
set_option linter.unusedSimpArgs false
attribute [local go_sem] str_size str_get str_toList

/-! show.texts. -/
def foldW (g : Str × Int × Int → Int) : List (Str × Int × Int) → (Int → Str) → Int → Str
  | [], M => M
  | x :: r, M => foldW g r (if g x = 0 then M else putS M (g x) x.1)
theorem fold_out {g : Str × Int × Int → Int} {k : Int} : ∀ (l : List (Str × Int × Int)) (M : Int → Str), (∀ x ∈ l, g x = 0 ∨ g x ≠ k) → foldW g l M k = M k
  | [], M, _ => rfl
  | x :: r, M, h => by
    rw [foldW, fold_out r _ fun y hy => h y (List.mem_cons_of_mem _ hy)]
    rcases h x List.mem_cons_self with h | h
    · rw [if_pos h]
    · split
      · rfl
      · unfold putS; rw [if_neg (Ne.symm h)]
theorem fold_in {g : Str × Int × Int → Int} {k : Int} (hk : k ≠ 0) : ∀ (l : List (Str × Int × Int)) (M : Int → Str), l.Pairwise (fun x y => g x = 0 ∨ g x ≠ g y) →
    foldW g l M k = match l.find? (fun x => decide (g x = k)) with | some x => x.1 | none => M k
  | [], M, _ => rfl
  | x :: r, M, h => by
    obtain ⟨h1, h2⟩ := List.pairwise_cons.1 h
    rw [foldW, List.find?_cons]
    by_cases hx : g x = k
    · rw [decide_eq_true hx]
      dsimp only
      rw [fold_out, if_neg (by rw [hx]; exact hk)]
      · unfold putS; rw [if_pos hx.symm]
      · intro y hy
        rcases h1 y hy with h | h
        · exact absurd (hx.symm.trans h) hk
        · exact .inr fun e => h (hx.trans e.symm)
    · rw [decide_eq_false hx]
      dsimp only
      rw [fold_in hk r _ h2, show (if g x = 0 then M else putS M (g x) x.1) k = M k from by
        split
        · rfl
        · unfold putS; rw [if_neg (fun e => hx e.symm)]]
theorem fold_two : foldW (fun x => x.2.1) verbsW (fun _ => []) = wtwoW := by
  funext k
  by_cases hk : k = 0
  · subst hk
    rw [fold_out _ _ fun x _ => by by_cases h : x.2.1 = 0 <;> simp [h]]
    rfl
  · rw [fold_in hk _ _ (by decide)]
    unfold wtwoW
    rw [if_neg hk]
    rfl
theorem fold_one : foldW (fun x => x.2.2) verbsW (fun _ => []) = woneW := by
  funext k
  by_cases hk : k = 0
  · subst hk
    rw [fold_out _ _ fun x _ => by by_cases h : x.2.2 = 0 <;> simp [h]]
    rfl
  · rw [fold_in hk _ _ (by decide)]
    unfold woneW
    rw [if_neg hk]
    rfl
theorem words_own : ∀ x ∈ verbsW, twoW x.1 = x.2.1 ∧ oneW x.1 = x.2.2 ∧ (Lit.int .u8 x.2.1).wf = true ∧ (Lit.int .u8 x.2.2).wf = true ∧ x.1.length ≤ 16 := by decide
def textC : Str := joinS [32] (verbsW.map (·.1))
theorem text_fields : Lib.fields textC = verbsW.map (·.1) := by decide +kernel
theorem text_ascii : ∀ b ∈ textC, b.toNat < 128 := by decide +kernel
theorem fields_c (s : ByteArray) (hs : s.data.toList = textC) (w : World) (ht : TabT w) : Calls Tryz.prog 67 #[.string s] w fun e w' =>
    e = .returned (.slice (some ⟨w.heap.size, 0, none⟩) verbsW.length verbsW.length) ∧ w' = w.alloc (.cells (verbsW.map fun x => Value.string (str x.1)).toArray 9) := by
  have hz : s.size = textC.length := by rw [← hs]; exact (Array.length_toList).symm
  have h := Tryz.strings_Fields s w (by rw [hz]; exact (by decide +kernel : textC.length < 4294967281)) (by intro j b hb; rw [hs] at hb; exact text_ascii b (List.mem_of_getElem? hb)) ht.space
  rw [hs, text_fields] at h
  simp only [List.length_map, List.map_map] at h
  exact h
structure TxS (w : World) (B fb : Nat) (F : Int → Str) (g : Str × Int × Int → Int) (wr : World) (j : Nat) : Prop where
  below : Below w.heap.size w wr
  row : wr.heap[fb]? = some (.cells (verbsW.map fun x => Value.string (str x.1)).toArray 9 (0, 0))
  map : ∃ n M, n ≤ j ∧ MapS 119 .u8 B n M wr ∧ foldW g (verbsW.drop j) M = F
  hj : j ≤ verbsW.length
theorem TxS.cell {w wr : World} {B fb j : Nat} {F : Int → Str} {g : Str × Int × Int → Int} (h : TxS w B fb F g wr j) (hj : j < verbsW.length) : wr.cell? ⟨fb, j, none⟩ = some (.string (str verbsW[j].1)) := by
  rw [Lib.cell_of_heap h.row]
  simp [hj]
set_option maxHeartbeats 4000000 in
theorem texts_any (two : Bool) (w : World) (ht : TabT w) (g : Str × Int × Int → Int) (hg : ∀ x ∈ verbsW, (if two = true then twoW x.1 else oneW x.1) = g x ∧ (Lit.int .u8 (g x)).wf = true) :
    Calls Tryz.prog 39 #[.bool two] w fun e w' => ∃ n, e = .returned (.map (some w.heap.size)) ∧ MapS 119 .u8 w.heap.size n (foldW g verbsW fun _ => []) w' ∧ Below w.heap.size w w' := by
  obtain ⟨F, hF⟩ : ∃ F, foldW g verbsW (fun _ => []) = F := ⟨_, rfl⟩
  rw [hF]
  have hm0 : MapS 119 .u8 w.heap.size 0 (fun _ => []) (w.alloc (.map #[] 0)) := MapS.made w
  have hb0 : Below w.heap.size w (w.alloc (.map #[] 0)) := (Below.refl _ _).alloc (Nat.le_refl _) _
  have hs0 : (w.alloc (.map #[] 0)).heap.size = w.heap.size + 1 := by simp
  have ht0 := ht.below hb0
  obtain ⟨W0, eW⟩ : ∃ W0, W0 = w.alloc (.map #[] 0) := ⟨_, rfl⟩
  rw [← eW] at hm0 hb0 hs0 ht0
  have hx0 : TxS w w.heap.size (w.heap.size + 1) F g (W0.alloc (.cells (verbsW.map fun x => Value.string (str x.1)).toArray 9)) 0 := by
    refine ⟨hb0.alloc (by omega) _, ?_, ⟨0, _, Nat.le_refl _, hm0.below ((Below.refl _ _).alloc (Nat.le_refl _) _), hF⟩, Nat.zero_le _⟩
    rw [← hs0]
    exact World.alloc_heap_new _ _
  have HT0 := Lib.hid ht0; have HX0 := Lib.hid hx0; have HS0 := Lib.hid hs0; have HG := Lib.hid hg
  have hmm := @run_makeMap Tryz.prog
  clear hm0 hb0 hs0 ht0 hx0 hg ht hF
  obtain ⟨B, hB⟩ : ∃ B, w.heap.size = B := ⟨_, rfl⟩
  go_enter Tryz.func39, Tryz.ntmps39
  go_wp2_with (go_at_call 67; fail)
  rw [← eW]
  clear eW
  go_wp2_with (go_at_call 67; refine (fields_c _ (by kernel_rfl) _ HT0.out).mono ?_)
  rintro e w1 ⟨rfl, rfl⟩
  rw [HS0.out]
  dsimp only
  go_wp2_with fail
  rw [hB] at HX0 ⊢
  generalize W0.alloc (.cells (verbsW.map fun x => Value.string (str x.1)).toArray 9) = W1 at HX0 ⊢
  clear HT0 HS0 hmm
  generalize B + 1 = fb at HX0 ⊢
  obtain ⟨N, hN⟩ : ∃ N, verbsW.length = N := ⟨_, rfl⟩
  have hN30 : N ≤ 30 := by rw [← hN]; decide
  rw [hN]
  have HNN := Lib.hid hN
  clear hN
  go_loopw [11] (fun v wr => ∃ j : Nat, v = .int .i64 (j : Int) ∧ TxS w B fb F g wr j) (fun v wr => N - (Lib.intOf v).toNat)
  case atStart => exact ⟨0, rfl, HX0.out⟩
  case round =>
    obtain ⟨j, rfl, hx⟩ := hrel
    have hjN := hx.hj
    rw [HNN.out] at hjN
    by_cases hj : j < N
    · have hj' : j < verbsW.length := by rw [HNN.out]; exact hj
      have c0 := hx.cell hj'
      obtain ⟨hg1, hg2⟩ := HG.out _ (List.getElem_mem hj')
      obtain ⟨-, -, -, -, hw16⟩ := words_own _ (List.getElem_mem hj')
      have hv := Verb_any verbsW[j].1 two wr
      rw [hg1] at hv
      obtain ⟨n, M, hn, hM, hf⟩ := hx.map
      have hdr : verbsW.drop j = verbsW[j] :: verbsW.drop (j + 1) := List.drop_eq_getElem_cons hj'
      rw [hdr, foldW] at hf
      generalize g verbsW[j] = k at hv hf hg2
      generalize verbsW[j].1 = s at hv hf c0 hw16
      have q : decide ((j : Int) < (N : Int)) = true := decide_eq_true (by omega)
      have HV := Lib.hid hv; have HX := Lib.hid hx; have HM := Lib.hid hM
      clear hv hx hM hdr hg1
      by_cases hk : k = 0
      · rw [if_pos hk] at hf
        have hx1 : TxS w B fb F g wr (j + 1) := ⟨HX.out.below, HX.out.row, ⟨n, M, by omega, HM.out, hf⟩, hj'⟩
        have HX1 := Lib.hid hx1
        clear hf hx1 HX HM hg2 hw16
        have qk : (k != 0) = false := by rw [hk]; rfl
        rw [qk] at HV
        go_wp2_with (go_at_call 68; refine HV.out.mono ?_; rintro e w' ⟨rfl, rfl⟩)
        go_roundw
        case rel => exact ⟨j + 1, by go_num, HX1.out⟩
        case measure => simp [Lib.intOf]; omega
      · rw [if_neg hk] at hf
        have qk : (k != 0) = true := by simpa using hk
        rw [qk] at HV
        obtain ⟨w2, r2, m2, g2⟩ := HM.out.put (mt := 96) (by kernel_rfl) (by kernel_rfl) (by unfold maxLen; omega) k hg2 s (by unfold maxLen; omega)
        have hx1 : TxS w B fb F g w2 (j + 1) := by
          refine ⟨HX.out.below.grown g2 (by have := HX.out.below.size; omega) (fun k hk => by cases hk; omega), ?_, ⟨n + 1, _, by omega, m2, hf⟩, hj'⟩
          rw [g2.block _ (block_lt HX.out.row) (fun e => ?_)]
          · exact HX.out.row
          · obtain ⟨D, ⟨es, clock, h1, h2⟩, h3⟩ := HM.out
            rw [← Option.some.inj e, HX.out.row] at h1
            cases h1
        have HX1 := Lib.hid hx1
        clear hf hx1 HX HM hg2 hw16 m2 g2
        go_wp2_with (go_at_call 68; refine HV.out.mono ?_; rintro e w' ⟨rfl, rfl⟩)
        go_roundw
        case rel => exact ⟨j + 1, by go_num, HX1.out⟩
        case measure => simp [Lib.intOf]; omega
    · obtain rfl : j = N := by omega
      obtain ⟨n, M, hn, hM, hf⟩ := hx.map
      rw [← HNN.out, List.drop_length, foldW] at hf
      have HE := Lib.hid (And.intro hM hx.below)
      clear hM hx hn
      go_wp2_with fail
      go_ret
      exact ⟨n, by rw [hB]; rfl, by rw [← hf, hB]; exact HE.out.1, hB ▸ HE.out.2⟩
end Go.Proofs.YtokghjnkfabgiaaGreatDoor

namespace Go
set_option linter.unusedVariables false
set_option linter.unusedSimpArgs false
section
variable {P : Program} {ops : Array Oper} {Q : Exit → Act → World → Prop} {md : Region.Mode} {S : World → Prop} {z : Nat}

/-- Whatever order is picked from here on, and S holds behind every operation ahead of number z. -/
def wpAnyZ (P : Program) (md : Region.Mode) (ops : Array Oper) (Q : Exit → Act → World → Prop) (S : World → Prop) (z : Nat) : Nat → Array Bool → Act → World → Prop
  | 0, listed, a, w => Region.ready md ops listed = [] ∧ Q .normal a w
  | fuel + 1, listed, a, w =>
    (Region.ready md ops listed = [] → Q .normal a w) ∧
    ∀ i ∈ Region.ready md ops listed, wpOp P ops Q i (fun a' w' => (z ≤ i ∨ S w') ∧ wpAnyZ P md ops Q S z fuel (listed.setIfInBounds i true) a' w') a w

theorem wpAny_of_Z : ∀ (fuel : Nat) (listed : Array Bool) (a : Act) (w : World), wpAnyZ P md ops Q S z fuel listed a w → wpAny P md ops Q fuel listed a w
  | 0, _, _, _, h => h
  | fuel + 1, _, _, _, h => ⟨h.1, fun i hi => wpOp_mono (fun a' w' h' => wpAny_of_Z fuel _ a' w' h'.2) (h.2 i hi)⟩

theorem wpAnyZ_first {i : Nat} {oi : Oper} {v : Value} (hi : ops[i]? = some oi) (hsel : ∀ (j : Nat) (o : Oper) cs b, ops[j]? = some o → o.op ≠ .select cs b)
    (hQ : ∀ c a w, Q (.panic c) (a.put oi.dst v) w → Q (.panic c) a w) (hz : ∀ j, z ≤ j → ∀ oz, ops[j]? = some oz → ∃ e ∈ oz.after, Region.binds md e = true ∧ e.on = i) :
    ∀ (fuel : Nat) (listed : Array Bool) (a : Act) (w : World),
      (∀ j oj, ops[j]? = some oj → j ≠ i → listed.getD j true = false → (∀ e ∈ oj.after, Region.binds md e = true → e.on ≠ i) → oi.apart ops oj = true) →
      i ∈ Region.ready md ops listed → YieldsIf P ops S oi v a → S w →
      wpAnyZ P md ops Q S z fuel (listed.setIfInBounds i true) (a.put oi.dst v) w → wpAnyZ P md ops Q S z (fuel + 1) listed a w := by
  intro fuel
  induction fuel with
  | zero =>
    intro listed a w _ hr hy hS H
    refine ⟨fun h => (by rw [h] at hr; cases hr), fun j hj => ?_⟩
    by_cases hji : j = i
    · subst hji; exact hy.wpOp hi hS ⟨.inr hS, H⟩
    · have := ready_mono hj hji
      rw [H.1] at this
      cases this
  | succ fuel ih =>
    intro listed a w hfree hr hy hS H
    refine ⟨fun h => (by rw [h] at hr; cases hr), fun j hj => ?_⟩
    by_cases hji : j = i
    · subst hji; exact hy.wpOp hi hS ⟨.inr hS, H⟩
    · have h1 := H.2 j (ready_mono hj hji)
      obtain ⟨hjun, oj, hoj, hall⟩ := mem_ready.1 hj
      have hnot : ∀ e ∈ oj.after, Region.binds md e = true → e.on ≠ i := fun e he hb heq => by
        have h1 := hall e he hb
        have h0 := (mem_ready.1 hr).1
        rw [heq] at h1
        rcases Nat.lt_or_ge i listed.size with h' | h'
        · simp [h'] at h0 h1; rw [h0] at h1; cases h1
        · simp [Array.getElem?_eq_none h'] at h1
      have hjz : ¬ z ≤ j := fun hzj => by
        obtain ⟨e, he, hb, hon⟩ := hz j hzj oj hoj
        exact hnot e he hb hon
      have h2 := wpOp_putIf hoj (hfree j oj hoj hji hjun hnot) (fun cs b => hsel i oi cs b hi) (fun cs b => hsel j oj cs b hoj) hQ hy h1
      have hfree' : ∀ k ok, ops[k]? = some ok → k ≠ i → (listed.setIfInBounds j true).getD k true = false →
          (∀ e ∈ ok.after, Region.binds md e = true → e.on ≠ i) → oi.apart ops ok = true := fun k ok hk hki hun hno => by
        refine hfree k ok hk hki ?_ hno
        by_cases hjk : j = k
        · subst hjk; exact hjun
        · rw [getD_set_ne true hjk] at hun; exact hun
      refine wpOp_mono (fun a' w' h3 => ⟨h3.2.1, ih (listed.setIfInBounds j true) a' w' hfree' (ready_mono hr (Ne.symm hji)) h3.1 (h3.2.1.resolve_left hjz) ?_⟩) h2
      rw [Array.setIfInBounds_comm _ _ hji]
      exact h3.2.2

/-- all from number z on wait for number i -/
def waitsB (md : Region.Mode) (ops : Array Oper) (z i : Nat) : Bool := (ops.toList.drop z).all fun oz => oz.after.any fun e => Region.binds md e && e.on == i
theorem waitsB_spec {i : Nat} (h : waitsB md ops z i = true) : ∀ j, z ≤ j → ∀ oz, ops[j]? = some oz → ∃ e ∈ oz.after, Region.binds md e = true ∧ e.on = i := by
  intro j hj oz ho
  unfold waitsB at h
  have hm : oz ∈ ops.toList.drop z := by
    refine List.mem_of_getElem? (i := j - z) ?_
    rw [List.getElem?_drop, show z + (j - z) = j from by omega]
    simpa using ho
  have h2 := List.all_eq_true.1 h oz hm
  obtain ⟨e, he, hb⟩ := Array.any_eq_true'.1 h2
  simp only [Bool.and_eq_true, beq_iff_eq] at hb
  exact ⟨e, he, hb⟩

theorem wpAnyZ_take {i : Nat} {oi : Oper} {v : Value} {fuel : Nat} {listed : Array Bool} {a : Act} {w : World} (hi : ops[i]? = some oi)
    (hs : Region.noSelect ops = true) (hf : Region.free md ops listed i = true) (hr : (Region.ready md ops listed).contains i = true)
    (hQ : ∀ c a w, Q (.panic c) (a.put oi.dst v) w → Q (.panic c) a w) (hw : waitsB md ops z i = true) (hy : YieldsIf P ops S oi v a) (hS : S w)
    (h : wpAnyZ P md ops Q S z fuel (listed.setIfInBounds i true) (a.put oi.dst v) w) : wpAnyZ P md ops Q S z (fuel + 1) listed a w :=
  wpAnyZ_first hi (Region.noSelect_spec hs) hQ (waitsB_spec hw) fuel listed a w (Region.free_spec hi hf) (by simpa using hr) hy hS h

/-- The one that may come up comes up. -/
theorem wpAnyZ_one {i : Nat} {o : Oper} {fuel : Nat} {listed : Array Bool} {a : Act} {w : World} (hr : Region.ready md ops listed = [i]) (ho : ops[i]? = some o) (hg : o.guard = none)
    (h : ∀ K : Act → World → Prop, Shut (∀ a w, (z ≤ i ∨ S w) → wpAnyZ P md ops Q S z fuel (listed.setIfInBounds i true) a w → K a w) → o.wp P a w K Q) : wpAnyZ P md ops Q S z (fuel + 1) listed a w := by
  refine ⟨fun h0 => (by rw [hr] at h0; cases h0), fun j hj => ?_⟩
  rw [hr] at hj
  obtain rfl : j = i := by simpa using hj
  unfold wpOp
  rw [ho]
  simp only [Region.wanted, hg, if_true]
  exact .inl (h _ (fun a w h1 h2 => ⟨h1, h2⟩))

theorem wpAnyZ_done {listed : Array Bool} {a : Act} {w : World} (hr : Region.ready md ops listed = []) (h : Q .normal a w) : ∀ fuel, wpAnyZ P md ops Q S z fuel listed a w
  | 0 => ⟨hr, h⟩
  | _ + 1 => ⟨fun _ => h, by rw [hr]; simp⟩

theorem wp_region_Z {id : Nat} {a : Act} {w : World} (hm : P.follows .mixedOrders = true) (h : wpAnyZ P .any ops Q S z ops.size (Array.replicate ops.size false) a w.drew) : (Code.region id ops true).wp P Q a w :=
  wp_region_any hm (wpAny_of_Z _ _ _ _ h)
end
end Go
