import Derived.Test.YtmjkncmpanhgjaaPA12
import Derived.Test.YtmjkncmpanhgjaaPA3
namespace Go.Proofs.Ytmjkncmpanhgjaa
set_option maxRecDepth 100000
open Go.RowKit
set_option linter.unusedVariables false
set_option linter.unusedSimpArgs false

/-! Lanes: plain facts; a row of rows, one of which is turned. -/
structure LaneF (s d : List Int) (lx : List (List Int)) : Prop where
  eq : lanes s d = (lx, 0)
  flat : lx.flatten = d
  ne : ∀ x ∈ lx, 0 < x.length
  len : lx.length ≤ 65536
  each : ∀ x ∈ lx, (x.length : Int) = lastOf s
  count : lastOf s ≠ 0 → (lx.length : Int) * lastOf s = (d.length : Int)
theorem flat_len (l : List (List Int)) (h : ∀ x ∈ l, 0 < x.length) : l.length ≤ l.flatten.length := by
  induction l with
  | nil => simp
  | cons x l ih => have h1 := ih (fun y hy => h y (by simp [hy])); have h2 := h x (by simp); simp only [List.flatten_cons, List.length_append, List.length_cons]; omega
theorem lane_facts {s d : List Int} (hr : right s d = true) : ∃ lx, LaneF s d lx := by
  have hdl : d.length ≤ 65536 := by have := (right_good hr).2.le; omega
  by_cases hd0 : d.length = 0
  · have : d = [] := List.eq_nil_of_length_eq_zero hd0
    subst this
    exact ⟨[], by unfold lanes; rw [if_pos hr]; simp [chunks], rfl, by simp, by simp, by simp, fun _ => by simp⟩
  · obtain ⟨m, q, e1, e2, e3, e4⟩ := lanes_facts hr (by omega)
    have hl : ∀ x ∈ chunks m d q, x.length = m := fun x hx => by
      unfold chunks at hx
      obtain ⟨i, hi, rfl⟩ := List.mem_map.1 hx
      have hi := List.mem_range.1 hi
      have : i * m + m ≤ q * m := by have := Nat.mul_le_mul_right m hi; rw [Nat.succ_mul] at this; exact this
      rw [List.length_take, List.length_drop]; omega
    have hf : (chunks m d q).flatten = d := by rw [chunks_flatten, e4, List.take_length]
    refine ⟨chunks m d q, ?_, hf, fun x hx => by rw [hl x hx]; omega, ?_, fun x hx => by rw [hl x hx, e1], fun _ => by rw [chunks_len, e1]; exact_mod_cast e4⟩
    · unfold lanes
      rw [if_pos hr, e1, ← e4]
      simp only [Int.toNat_natCast]
      rw [Nat.mul_div_cancel _ (by omega)]
    · have := flat_len (chunks m d q) (fun x hx => by rw [hl x hx]; omega)
      rw [hf] at this
      omega
theorem set_get_self {α : Type} {l : List α} {k : Nat} (h : k < l.length) : l.set k l[k] = l := by
  apply List.ext_getElem
  · simp
  · intro i h1 h2
    rw [List.getElem_set]
    split
    · rename_i e; subst e; rfl
    · rfl
/-- one of the rows -/
theorem RowR.get {B g n c : Nat} {w : World} {xss : List (List Int)} (h : RowR B w (.slice (some ⟨g, 0, none⟩) n c) xss) {q : Nat} (hq : q < xss.length) :
    ∃ u, w.cell? ⟨g, q, none⟩ = some u ∧ RowI B w u xss[q] ∧ ∀ w' ys, KB (fun k => u.ownBlock = some k) w w' → RowI B w' u ys → RowR B w' (.slice (some ⟨g, 0, none⟩) n c) (xss.set q ys) := by
  obtain ⟨vs, hown, hin⟩ := h
  have hn : xss.length = n := by
    rcases hown.2 with ⟨h0, _⟩ | ⟨g', cap, cur, e, _⟩
    · simp at h0
    · simp only [Value.slice.injEq] at e; exact e.2.1.symm
  subst hn
  obtain ⟨u, hu, hr, hap⟩ := hin q hq
  refine ⟨u, ?_, hr, fun w' ys hk hy => ?_⟩
  · rw [World.ownsRow.cellAt hown q (by simpa using hq)]; exact hu
  · refine ⟨vs, ?_, fun i hi => ?_⟩
    · rw [List.length_set]
      refine hk.row hown fun k e he => ?_
      rcases outer_ne hown hr with h0 | h0
      · rw [h0] at he; cases he
      · exact h0 (he.trans e.symm)
    · rw [List.length_set] at hi
      by_cases hiq : i = q
      · subst hiq
        exact ⟨u, hu, by rw [List.getElem_set_self]; exact hy, hap⟩
      · obtain ⟨ui, hui, hri, hapi⟩ := hin i hi
        refine ⟨ui, hui, ?_, hapi⟩
        rw [List.getElem_set_ne (fun e => hiq e.symm)]
        refine hk.row hri fun k e he => ?_
        have hne : Apart ui u ∨ Apart u ui := by
          rcases Nat.lt_or_gt_of_ne hiq with h1 | h1
          · exact .inl (hapi q u h1 hu)
          · exact .inr (hap i ui h1 hui)
        have hne : Apart ui u := hne.elim id Apart.symm
        rcases hne with h0 | h0
        · rw [h0] at e; cases e
        · exact h0 (e.trans he.symm)
theorem RowR.form {B : Nat} {w : World} {v : Value} {xss : List (List Int)} (h : RowR B w v xss) : ∃ a c, v = .slice a xss.length c ∧ xss.length ≤ maxLen ∧ (0 < xss.length → ∃ g, a = some ⟨g, 0, none⟩ ∧ B ≤ g) := by
  obtain ⟨vs, hown, -⟩ := h
  rcases hown.2 with ⟨h0, h1⟩ | ⟨g', cap, cur, e, hB, _, hnc, hm, _⟩
  · exact ⟨none, 0, by rw [h0, h1], by rw [h1]; exact Nat.zero_le _, fun h => by omega⟩
  · exact ⟨_, _, e, Nat.le_trans hnc hm, fun _ => ⟨g', rfl, hB⟩⟩
theorem RowR.len {B n c : Nat} {a : Option Addr} {w : World} {xss : List (List Int)} (h : RowR B w (.slice a n c) xss) : xss.length = n := by
  obtain ⟨a', c', e, _⟩ := h.form
  simp only [Value.slice.injEq] at e; exact e.2.1.symm
/-- the first ones reversed -/
theorem map_take_set {α : Type} (f : α → α) {l : List α} {k : Nat} (h : k < l.length) : ((l.take k).map f ++ l.drop k).set k (f l[k]) = (l.take (k + 1)).map f ++ l.drop (k + 1) := by
  rw [List.set_append_right _ _ (by simp; omega)]
  have e : k - ((l.take k).map f).length = 0 := by simp; omega
  rw [e, List.drop_eq_getElem_cons h, List.set_cons_zero, List.take_succ_eq_append_getElem h, List.map_append]
  simp only [List.map_cons, List.map_nil, List.append_assoc, List.singleton_append]
theorem map_take_get {α : Type} (f : α → α) {l : List α} {k : Nat} (h : k < l.length) (h2 : k < ((l.take k).map f ++ l.drop k).length) : ((l.take k).map f ++ l.drop k)[k] = l[k] := by
  rw [List.getElem_append_right (by simp; omega)]
  simp only [List.length_map, List.length_take, List.getElem_drop]
  congr 1; omega
theorem flat_rev_len (l : List (List Int)) : ((l.map List.reverse).flatten).length = l.flatten.length := by
  induction l with
  | nil => rfl
  | cons x l ih => simp only [List.map_cons, List.flatten_cons, List.length_append, List.length_reverse, ih]
end Go.Proofs.Ytmjkncmpanhgjaa

namespace Go.Proofs.Ytmjkncmpanhgjaa
set_option maxRecDepth 100000
open Go.RowKit
set_option linter.unusedVariables false
set_option linter.unusedSimpArgs false

/-! prim.Monad, by its functions. -/
theorem monadA_bad {f : Int} {s d : List Int} (h : right s d = false) : monadA f s d = noA 60 := by unfold monadA; rw [h]; rfl
set_option maxHeartbeats 4000000 in
theorem pm_bad (w : World) (f : Int) (v u : Value) (s d : List Int) (hs : SlA w v s) (hd : SlA w u d) (hr : right s d = false) :
    Calls Try.prog 14 #[.int .u8 f, .agg #[v, u]] w fun e w' => RetArr w.heap.size (noA 60) e w' ∧ Below w.heap.size w w' := by
  obtain ⟨a0, c0, rfl, h01, h02, -, h04, -⟩ := hs
  obtain ⟨a1, c1, rfl, h11, h12, -, h14, hin⟩ := hd
  have h02' : c0 ≤ 9223372036854775807 := h02
  have h12' : c1 ≤ 9223372036854775807 := h12
  have HM : Hid (s.length ≤ maxLen) := Lib.hid (Nat.le_trans h01 h02)
  have HRT := Lib.hid hr; have H0 := Lib.hid h04; have H1 := Lib.hid h14; have HIN := Lib.hid hin
  have HO := Lib.hid (One.mk0 w (.slice a0 s.length c0) (.slice a1 d.length c1))
  obtain ⟨r, HRR⟩ : ∃ r, Hid ((noA 60) = r) := ⟨_, Lib.hid rfl⟩
  rw [HRR.out]
  clear hr h04 h14 h02 h12 hin
  go_enter Try.func14, Try.ntmps14
  go_upto_region 1 with fail
  refine gen_worldA (fun W => One w W (.slice a0 s.length c0) (.slice a1 d.length c1)) HO.out ?_
  rintro W hO
  have hq := right_any W a0 a1 c0 c1 s d HM.out (H0.out.below hO.b (Nat.le_refl _))
  rw [HRT.out] at hq
  have HQ := Lib.hid hq; have HO1 := Lib.hid hO
  have x0 := hO.c0; have x1 := hO.c1
  clear hq hO
  go_wp2_with fail
  refine HQ.out.mono ?_
  rintro e W1 ⟨rfl, hb1⟩
  have HO2 := Lib.hid (HO1.out.next hb1)
  clear x0 x1
  have x0 := HO2.out.c0; have x1 := HO2.out.c1
  clear hb1 HQ HO1
  have hq := fault_at W1 w.heap.size HO2.out.b.size 60 r HRR.out
  have HQ := Lib.hid hq; have HR := Lib.hid HO2.out.r; have HB := Lib.hid HO2.out.b
  clear hq HO
  go_wp2_with fail
  refine (Hid.out HQ).mono ?_
  rintro e w9 ⟨⟨v9, u9, rfl, hv9, hu9, hap9⟩, hb9⟩
  have hR9 := block_below (Hid.out HR) hb9
  have HV9 := Lib.hid hv9; have HU9 := Lib.hid hu9; have HAP9 := Lib.hid hap9; have HR9 := Lib.hid hR9
  have HB9 := Lib.hid (bNext hb9 (Hid.out HB))
  obtain ⟨a9, c9, rfl, -, -⟩ := RowI.slice hv9
  obtain ⟨a8, c8, rfl, -, -⟩ := RowI.slice hu9
  have g0 := cell_of_row w9 _ 0 _ _ _ hR9; have g1 := cell_of_row w9 _ 1 _ _ _ hR9
  have z0 := frozen_of_row w9 _ 0 _ _ hR9; have z1 := frozen_of_row w9 _ 1 _ _ hR9
  clear hv9 hu9 hap9 hb9 hR9
  go_wp2_with fail
  exact fin_arr rfl rfl rfl HR9.out HV9.out HU9.out HAP9.out HB9.out (by omega)
set_option maxHeartbeats 4000000 in
theorem pm_iota (w : World) (v u : Value) (s d : List Int) (hs : SlA w v s) (hd : SlA w u d) (hr : right s d = true) :
    Calls Try.prog 14 #[.int .u8 32, .agg #[v, u]] w fun e w' => RetArr w.heap.size (iotaA s d) e w' ∧ Below w.heap.size w w' := by
  have hs0 := hs; have hd0 := hd; have hr0 := hr
  have HI := Lib.hid (fun W (hb : Below w.heap.size w W) => iota0_any W v u s d (hs0.below hb) (hd0.below hb) hr0)
  clear hs0 hd0 hr0
  obtain ⟨a0, c0, rfl, h01, h02, -, h04, -⟩ := hs
  obtain ⟨a1, c1, rfl, h11, h12, -, h14, hin⟩ := hd
  have h02' : c0 ≤ 9223372036854775807 := h02
  have h12' : c1 ≤ 9223372036854775807 := h12
  have HM : Hid (s.length ≤ maxLen) := Lib.hid (Nat.le_trans h01 h02)
  have HRT := Lib.hid hr; have H0 := Lib.hid h04; have H1 := Lib.hid h14; have HIN := Lib.hid hin
  have HO := Lib.hid (One.mk0 w (.slice a0 s.length c0) (.slice a1 d.length c1))
  obtain ⟨r, HRR⟩ : ∃ r, Hid ((iotaA s d) = r) := ⟨_, Lib.hid rfl⟩
  rw [HRR.out]
  clear hr h04 h14 h02 h12 hin
  rw [HRR.out] at HI
  go_enter Try.func14, Try.ntmps14
  go_upto_region 1 with fail
  refine gen_worldA (fun W => One w W (.slice a0 s.length c0) (.slice a1 d.length c1)) HO.out ?_
  rintro W hO
  have hq := right_any W a0 a1 c0 c1 s d HM.out (H0.out.below hO.b (Nat.le_refl _))
  rw [HRT.out] at hq
  have HQ := Lib.hid hq; have HO1 := Lib.hid hO
  have x0 := hO.c0; have x1 := hO.c1
  clear hq hO
  go_wp2_with fail
  refine HQ.out.mono ?_
  rintro e W1 ⟨rfl, hb1⟩
  have HO2 := Lib.hid (HO1.out.next hb1)
  clear x0 x1
  have x0 := HO2.out.c0; have x1 := HO2.out.c1
  clear hb1 HQ HO1
  have hq := retB HO2.out.b.size (HI.out W1 HO2.out.b)
  have HQ := Lib.hid hq; have HR := Lib.hid HO2.out.r; have HB := Lib.hid HO2.out.b
  clear hq HO HI
  go_wp2_with fail
  refine (Hid.out HQ).mono ?_
  rintro e w9 ⟨⟨v9, u9, rfl, hv9, hu9, hap9⟩, hb9⟩
  have hR9 := block_below (Hid.out HR) hb9
  have HV9 := Lib.hid hv9; have HU9 := Lib.hid hu9; have HAP9 := Lib.hid hap9; have HR9 := Lib.hid hR9
  have HB9 := Lib.hid (bNext hb9 (Hid.out HB))
  obtain ⟨a9, c9, rfl, -, -⟩ := RowI.slice hv9
  obtain ⟨a8, c8, rfl, -, -⟩ := RowI.slice hu9
  have g0 := cell_of_row w9 _ 0 _ _ _ hR9; have g1 := cell_of_row w9 _ 1 _ _ _ hR9
  have z0 := frozen_of_row w9 _ 0 _ _ hR9; have z1 := frozen_of_row w9 _ 1 _ _ hR9
  clear hv9 hu9 hap9 hb9 hR9
  go_wp2_with fail
  exact fin_arr rfl rfl rfl HR9.out HV9.out HU9.out HAP9.out HB9.out (by omega)
set_option maxHeartbeats 4000000 in
theorem pm_turn (w : World) (v u : Value) (s d : List Int) (hs : SlA w v s) (hd : SlA w u d) (hr : right s d = true) :
    Calls Try.prog 14 #[.int .u8 36, .agg #[v, u]] w fun e w' => RetArr w.heap.size (turnA s d) e w' ∧ Below w.heap.size w w' := by
  have hs0 := hs; have hd0 := hd; have hr0 := hr
  have HI := Lib.hid (fun W (hb : Below w.heap.size w W) => turn_any W v u s d (hs0.below hb) (hd0.below hb) hr0)
  clear hs0 hd0 hr0
  obtain ⟨a0, c0, rfl, h01, h02, -, h04, -⟩ := hs
  obtain ⟨a1, c1, rfl, h11, h12, -, h14, hin⟩ := hd
  have h02' : c0 ≤ 9223372036854775807 := h02
  have h12' : c1 ≤ 9223372036854775807 := h12
  have HM : Hid (s.length ≤ maxLen) := Lib.hid (Nat.le_trans h01 h02)
  have HRT := Lib.hid hr; have H0 := Lib.hid h04; have H1 := Lib.hid h14; have HIN := Lib.hid hin
  have HO := Lib.hid (One.mk0 w (.slice a0 s.length c0) (.slice a1 d.length c1))
  obtain ⟨r, HRR⟩ : ∃ r, Hid ((turnA s d) = r) := ⟨_, Lib.hid rfl⟩
  rw [HRR.out]
  clear hr h04 h14 h02 h12 hin
  rw [HRR.out] at HI
  go_enter Try.func14, Try.ntmps14
  go_upto_region 1 with fail
  refine gen_worldA (fun W => One w W (.slice a0 s.length c0) (.slice a1 d.length c1)) HO.out ?_
  rintro W hO
  have hq := right_any W a0 a1 c0 c1 s d HM.out (H0.out.below hO.b (Nat.le_refl _))
  rw [HRT.out] at hq
  have HQ := Lib.hid hq; have HO1 := Lib.hid hO
  have x0 := hO.c0; have x1 := hO.c1
  clear hq hO
  go_wp2_with fail
  refine HQ.out.mono ?_
  rintro e W1 ⟨rfl, hb1⟩
  have HO2 := Lib.hid (HO1.out.next hb1)
  clear x0 x1
  have x0 := HO2.out.c0; have x1 := HO2.out.c1
  clear hb1 HQ HO1
  have hq := retB HO2.out.b.size (HI.out W1 HO2.out.b)
  have HQ := Lib.hid hq; have HR := Lib.hid HO2.out.r; have HB := Lib.hid HO2.out.b
  clear hq HO HI
  go_wp2_with fail
  refine (Hid.out HQ).mono ?_
  rintro e w9 ⟨⟨v9, u9, rfl, hv9, hu9, hap9⟩, hb9⟩
  have hR9 := block_below (Hid.out HR) hb9
  have HV9 := Lib.hid hv9; have HU9 := Lib.hid hu9; have HAP9 := Lib.hid hap9; have HR9 := Lib.hid hR9
  have HB9 := Lib.hid (bNext hb9 (Hid.out HB))
  obtain ⟨a9, c9, rfl, -, -⟩ := RowI.slice hv9
  obtain ⟨a8, c8, rfl, -, -⟩ := RowI.slice hu9
  have g0 := cell_of_row w9 _ 0 _ _ _ hR9; have g1 := cell_of_row w9 _ 1 _ _ _ hR9
  have z0 := frozen_of_row w9 _ 0 _ _ hR9; have z1 := frozen_of_row w9 _ 1 _ _ hR9
  clear hv9 hu9 hap9 hb9 hR9
  go_wp2_with fail
  exact fin_arr rfl rfl rfl HR9.out HV9.out HU9.out HAP9.out HB9.out (by omega)
set_option maxHeartbeats 4000000 in
theorem pm_no (w : World) (f : Int) (v u : Value) (s d : List Int) (hs : SlA w v s) (hd : SlA w u d) (hr : right s d = true) (hf : f < 32 ∨ 36 < f) (ht : takes f false = false) :
    Calls Try.prog 14 #[.int .u8 f, .agg #[v, u]] w fun e w' => RetArr w.heap.size (noA 70) e w' ∧ Below w.heap.size w w' := by
  have g0 : (f == 32) = false := by rw [beq_eq_false_iff_ne]; omega
  have g1 : (f == 33) = false := by rw [beq_eq_false_iff_ne]; omega
  have g2 : (f == 34) = false := by rw [beq_eq_false_iff_ne]; omega
  have g3 : (f == 35) = false := by rw [beq_eq_false_iff_ne]; omega
  have g4 : (f == 36) = false := by rw [beq_eq_false_iff_ne]; omega
  have HT := Lib.hid (fun W => takes_at W f false false ht)
  clear hf ht
  obtain ⟨a0, c0, rfl, h01, h02, -, h04, -⟩ := hs
  obtain ⟨a1, c1, rfl, h11, h12, -, h14, hin⟩ := hd
  have h02' : c0 ≤ 9223372036854775807 := h02
  have h12' : c1 ≤ 9223372036854775807 := h12
  have HM : Hid (s.length ≤ maxLen) := Lib.hid (Nat.le_trans h01 h02)
  have HRT := Lib.hid hr; have H0 := Lib.hid h04; have H1 := Lib.hid h14; have HIN := Lib.hid hin
  have HO := Lib.hid (One.mk0 w (.slice a0 s.length c0) (.slice a1 d.length c1))
  obtain ⟨r, HRR⟩ : ∃ r, Hid ((noA 70) = r) := ⟨_, Lib.hid rfl⟩
  rw [HRR.out]
  clear hr h04 h14 h02 h12 hin
  go_enter Try.func14, Try.ntmps14
  go_upto_region 1 with fail
  refine gen_worldA (fun W => One w W (.slice a0 s.length c0) (.slice a1 d.length c1)) HO.out ?_
  rintro W hO
  have hq := right_any W a0 a1 c0 c1 s d HM.out (H0.out.below hO.b (Nat.le_refl _))
  rw [HRT.out] at hq
  have HQ := Lib.hid hq; have HO1 := Lib.hid hO
  have x0 := hO.c0; have x1 := hO.c1
  clear hq hO
  go_wp2_with fail
  refine HQ.out.mono ?_
  rintro e W1 ⟨rfl, hb1⟩
  have HO2 := Lib.hid (HO1.out.next hb1)
  clear x0 x1
  have x0 := HO2.out.c0; have x1 := HO2.out.c1
  clear hb1 HQ HO1
  have HQ0 := Lib.hid (HT.out W1)
  go_wp2_with fail
  refine HQ0.out.mono ?_
  rintro e W2 ⟨rfl, rfl⟩
  have hq := fault_at W1 w.heap.size HO2.out.b.size 70 r HRR.out
  have HQ := Lib.hid hq; have HR := Lib.hid HO2.out.r; have HB := Lib.hid HO2.out.b
  clear hq HO HQ0 HT
  go_wp2_with fail
  refine (Hid.out HQ).mono ?_
  rintro e w9 ⟨⟨v9, u9, rfl, hv9, hu9, hap9⟩, hb9⟩
  have hR9 := block_below (Hid.out HR) hb9
  have HV9 := Lib.hid hv9; have HU9 := Lib.hid hu9; have HAP9 := Lib.hid hap9; have HR9 := Lib.hid hR9
  have HB9 := Lib.hid (bNext hb9 (Hid.out HB))
  obtain ⟨a9, c9, rfl, -, -⟩ := RowI.slice hv9
  obtain ⟨a8, c8, rfl, -, -⟩ := RowI.slice hu9
  have g0 := cell_of_row w9 _ 0 _ _ _ hR9; have g1 := cell_of_row w9 _ 1 _ _ _ hR9
  have z0 := frozen_of_row w9 _ 0 _ _ hR9; have z1 := frozen_of_row w9 _ 1 _ _ hR9
  clear hv9 hu9 hap9 hb9 hR9
  go_wp2_with fail
  exact fin_arr rfl rfl rfl HR9.out HV9.out HU9.out HAP9.out HB9.out (by omega)
end Go.Proofs.Ytmjkncmpanhgjaa

namespace Go.Proofs.Ytmjkncmpanhgjaa
set_option maxRecDepth 100000
open Go.RowKit
set_option linter.unusedVariables false
set_option linter.unusedSimpArgs false

/-! prim.Monad: Rev. -/
theorem One.row {w W W' : World} {v u x : Value} {xs : List Int} (h : One w W v u) (hr : RowI w.heap.size W x xs) (hk : KB (fun g => x.ownBlock = some g) W W') : One w W' v u :=
  h.kt (h.b.trans (hk.below h.b.size (fun g e => (hr.lt g e).1))) (KeepTy.kb hk (fun g e => by
    obtain ⟨cur, hc⟩ := own_typed hr e
    exact NotTy.of hc (by decide)))
theorem retB' {f : FuncId} {args : Array Value} {w : World} {B : Nat} {r r' : ArrE} (h : Calls Try.prog f args w fun e w' => RetArr B r e w' ∧ Below w.heap.size w w') (hr : r = r') :
    Calls Try.prog f args w fun e w' => RetArr B r' e w' ∧ Below w.heap.size w w' := hr ▸ h
set_option maxHeartbeats 4000000 in
theorem pm_rev (w : World) (v u : Value) (s d : List Int) (hs : SlA w v s) (hd : SlA w u d) (hr : right s d = true) :
    Calls Try.prog 14 #[.int .u8 35, .agg #[v, u]] w fun e w' => RetArr w.heap.size (okA s (revD s d)) e w' ∧ Below w.heap.size w w' := by
  obtain ⟨lx, hl⟩ := lane_facts hr
  have hrev : revD s d = (lx.map List.reverse).flatten := by unfold revD; rw [hl.eq]
  obtain ⟨fl, hfl⟩ : ∃ fl, (lx.map List.reverse).flatten = fl := ⟨_, rfl⟩
  rw [hfl] at hrev
  have HFL := Lib.hid hfl
  have HL := Lib.hid hl
  have hd6 := (right_good hr).2.le
  have hs4 := (right_good hr).2.len
  rw [hrev]
  clear hl hrev hfl
  obtain ⟨a0, c0, rfl, h01, h02, -, h04, -⟩ := hs
  obtain ⟨a1, c1, rfl, h11, h12, -, h14, hin⟩ := hd
  have h02' : c0 ≤ 9223372036854775807 := h02
  have h12' : c1 ≤ 9223372036854775807 := h12
  have HM : Hid (s.length ≤ maxLen) := Lib.hid (Nat.le_trans h01 h02)
  have HRT := Lib.hid hr; have H0 := Lib.hid h04; have H1 := Lib.hid h14; have HIN := Lib.hid hin
  have HO := Lib.hid (One.mk0 w (.slice a0 s.length c0) (.slice a1 d.length c1))
  obtain ⟨r, HRR⟩ : ∃ r, Hid ((okA s fl) = r) := ⟨_, Lib.hid rfl⟩
  rw [HRR.out]
  clear hr h04 h14 h02 h12 hin
  go_enter Try.func14, Try.ntmps14
  go_upto_region 1 with fail
  refine gen_worldA (fun W => One w W (.slice a0 s.length c0) (.slice a1 d.length c1)) HO.out ?_
  rintro W hO
  have hq := right_any W a0 a1 c0 c1 s d HM.out (H0.out.below hO.b (Nat.le_refl _))
  rw [HRT.out] at hq
  have HQ := Lib.hid hq; have HO1 := Lib.hid hO
  have x0 := hO.c0; have x1 := hO.c1
  clear hq hO
  go_wp2_with fail
  refine HQ.out.mono ?_
  rintro e W1 ⟨rfl, hb1⟩
  have HO2 := Lib.hid (HO1.out.next hb1)
  clear x0 x1
  have x0 := HO2.out.c0; have x1 := HO2.out.c1
  clear hb1 HQ HO1
  have hq := lanes_any W1 a0 a1 c0 c1 s d HM.out h11 (H0.out.below HO2.out.b (Nat.le_refl _)) (H1.out.below HO2.out.b (Nat.le_refl _))
  rw [HL.out.eq] at hq
  have HQ := Lib.hid hq
  clear hq HO
  go_wp2_with fail
  refine HQ.out.mono ?_
  rintro e W2 ⟨⟨v6, rfl, hv6⟩, hb2⟩
  have HO3 := Lib.hid (HO2.out.next hb2)
  obtain ⟨a6, c6, rfl, hlm, hfo⟩ := hv6.form
  have HR6 := Lib.hid (hv6.mono HO2.out.b.size)
  have hlen := HL.out.len
  obtain ⟨n, hn⟩ : ∃ n, lx.length = n := ⟨_, rfl⟩
  rw [hn] at HR6 hlen hfo ⊢
  have HN := Lib.hid hn; have HFO := Lib.hid hfo
  clear hv6 hb2 HQ HO2 hlm hn x0 x1 hfo
  go_wp2_with fail
  go_loopw [60] (fun i wr => ∃ k : Nat, k ≤ n ∧ i = .int .i64 k ∧ One w wr (.slice a0 s.length c0) (.slice a1 d.length c1) ∧ RowR w.heap.size wr (.slice a6 n c6) ((lx.take k).map List.reverse ++ lx.drop k)) (fun i _ => n - (intOf i).toNat)
  case atStart => exact ⟨0, by omega, rfl, HO3.out, by simpa using HR6.out⟩
  case round =>
    obtain ⟨k, hk, rfl, hO, hrw⟩ := hrel
    clear HO3 HR6
    by_cases hlt : k < n
    · obtain ⟨g, rfl, hgB⟩ := HFO.out (by omega)
      have hkx : k < lx.length := by rw [HN.out]; exact hlt
      have hkl : k < ((lx.take k).map List.reverse ++ lx.drop k).length := by simp; omega
      obtain ⟨u9, hc9, hr9, hset⟩ := hrw.get hkl
      rw [map_take_get List.reverse hkx] at hr9
      have hset2 : ∀ w', KB (fun j => u9.ownBlock = some j) wr w' → RowI w.heap.size w' u9 lx[k].reverse → RowR w.heap.size w' (.slice (some ⟨g, 0, none⟩) n c6) ((lx.take (k + 1)).map List.reverse ++ lx.drop (k + 1)) := fun w' hk' hy => by
        have := hset w' (lx[k].reverse) hk' hy
        rwa [map_take_set List.reverse hkx] at this
      generalize lx[k] = lk at hr9 hset2
      have hq := reverse_any wr w.heap.size u9 lk hr9
      have HQ := Lib.hid hq; have HS := Lib.hid hset2; have HOR := Lib.hid hO; have HR9 := Lib.hid hr9
      clear hq hset hset2 hO hr9 hrw hkl hkx
      go_wp2_with fail
      refine HQ.out.mono ?_
      rintro e w5 ⟨rfl, hv5, hk5⟩
      have HO5 := Lib.hid (HOR.out.row HR9.out hk5)
      have HS5 := Lib.hid (HS.out _ hk5 hv5)
      clear hv5 hk5 HQ HS HOR HR9 hc9
      go_wp2_with fail
      go_roundw
      case rel => exact ⟨k + 1, by omega, by go_num, HO5.out, HS5.out⟩
      case measure => simp [intOf]; omega
    · obtain rfl : k = n := by omega
      have hfin : (lx.take k).map List.reverse ++ lx.drop k = lx.map List.reverse := by
        rw [List.take_of_length_le (by rw [HN.out]; exact Nat.le_refl _), List.drop_eq_nil_of_le (by rw [HN.out]; exact Nat.le_refl _), List.append_nil]
      rw [hfin] at hrw
      obtain ⟨N, hN⟩ : ∃ N, d.length = N := ⟨_, rfl⟩
      have hfl : ((lx.map List.reverse).flatten).length = N := by rw [flat_rev_len, HL.out.flat, hN]
      have hcc := fun W (hb : Below wr.heap.size wr W) => concat_any W a6 c6 k N (lx.map List.reverse) (by rw [List.length_map, HN.out]) (by omega) hfl (by omega) (hrw.rows.below hb)
      rw [HFL.out] at hcc
      have HC := Lib.hid hcc; have HOR := Lib.hid hO
      have x0 := hO.c0
      clear hcc hfl hfin hrw hO hlt hN
      go_upto_region 17 with fail
      refine wp_region_Z (S := fun W' => W'.cell? ⟨w.heap.size, 0, none⟩ = some (.slice a0 s.length c0)) (z := 7) (by kernel_rfl) ?_
      have hSS : (fun W' : World => W'.cell? ⟨w.heap.size, 0, none⟩ = some (.slice a0 s.length c0)) wr.drew := x0
      refine wpAnyZ_take (i := 0) (v := ?_) rfl (by kernel_rfl) (by kernel_rfl) (by kernel_rfl) (fun _ _ _ h => h) (by kernel_rfl) (Or.inl ⟨by rfl, ?_⟩) (by assumption) ?_
      rotate_left
      · intro w' hSw
        try dsimp only at hSw
        try obtain ⟨hSw, hSw2⟩ := hSw
        go_simp
        try with_reducible rfl
      show wpAnyZ _ _ _ _ _ _ _ _ (Act.put _ (some 67) _) _
      simp only [Act.put, List.setIfInBounds_toArray, List.set_cons_zero, List.set_cons_succ]
      refine wpAnyZ_take (i := 1) (v := ?_) rfl (by kernel_rfl) (by kernel_rfl) (by kernel_rfl) (fun _ _ _ h => h) (by kernel_rfl) (Or.inl ⟨by rfl, ?_⟩) (by assumption) ?_
      rotate_left
      · intro w' hSw
        try dsimp only at hSw
        try obtain ⟨hSw, hSw2⟩ := hSw
        go_simp
        try with_reducible rfl
      show wpAnyZ _ _ _ _ _ _ _ _ (Act.put _ (some 68) _) _
      simp only [Act.put, List.setIfInBounds_toArray, List.set_cons_zero, List.set_cons_succ]
      refine wpAnyZ_take (i := 2) (v := ?_) rfl (by kernel_rfl) (by kernel_rfl) (by kernel_rfl) (fun _ _ _ h => h) (by kernel_rfl) (Or.inl ⟨by rfl, ?_⟩) (by assumption) ?_
      rotate_left
      · intro w' hSw
        try dsimp only at hSw
        try obtain ⟨hSw, hSw2⟩ := hSw
        go_simp
        try with_reducible rfl
      show wpAnyZ _ _ _ _ _ _ _ _ (Act.put _ (some 69) _) _
      simp only [Act.put, List.setIfInBounds_toArray, List.set_cons_zero, List.set_cons_succ]
      clear hSS x0
      refine wpAnyZ_one (i := 3) (by kernel_rfl) rfl rfl (fun K hK => ?_)
      go_simp
      refine (HC.out _ (Below.refl _ _).drew).mono ?_
      rintro e w5 ⟨v5, rfl, hv5, hb5⟩
      have hb5' := (Below.refl wr.heap.size wr).drew.trans hb5
      have hO5 := HOR.out.next hb5'
      have HO5 := Lib.hid hO5; have HV5 := Lib.hid (hv5.mono (B' := w.heap.size) HOR.out.b.size)
      show K _ w5
      refine hK.out _ _ (.inr hO5.c0) ?_
      obtain ⟨a5, c5, rfl, -, -⟩ := hv5.slice
      clear hK hv5 hb5 hb5' hO5 HC HOR
      refine wpAnyZ_one (i := 4) (by kernel_rfl) rfl rfl (fun K hK => ?_)
      go_simp
      refine ((retB' (good_any w5 w.heap.size HO5.out.b.size a0 s.length c0 s fl (.slice a5 fl.length c5) rfl (by omega) (H0.out.below HO5.out.b (Nat.le_refl _)) HV5.out) HRR.out)).mono ?_
      rintro e w9 ⟨⟨v9, u9, rfl, hv9, hu9, hap9⟩, hb9⟩
      have hO9 := HO5.out.next hb9
      have HV9 := Lib.hid hv9; have HU9 := Lib.hid hu9; have HAP9 := Lib.hid hap9; have HO9 := Lib.hid hO9
      obtain ⟨a9, c9, rfl, -, -⟩ := RowI.slice hv9
      obtain ⟨a8, c8, rfl, -, -⟩ := RowI.slice hu9
      have hSS : (fun W' : World => W'.cell? ⟨w.heap.size, 0, none⟩ = some (.slice a0 s.length c0)) w9 := hO9.c0
      show K _ w9
      refine hK.out _ _ (.inr hO9.c0) ?_
      clear hK hv9 hu9 hap9 hb9 hO9 HO5 HV5
      refine wpAnyZ_take (i := 5) (v := ?_) rfl (by kernel_rfl) (by kernel_rfl) (by kernel_rfl) (fun _ _ _ h => h) (by kernel_rfl) (Or.inl ⟨by rfl, ?_⟩) (by assumption) ?_
      rotate_left
      · intro w' hSw
        try dsimp only at hSw
        try obtain ⟨hSw, hSw2⟩ := hSw
        go_simp
        try with_reducible rfl
      show wpAnyZ _ _ _ _ _ _ _ _ (Act.put _ (some 72) _) _
      simp only [Act.put, List.setIfInBounds_toArray, List.set_cons_zero, List.set_cons_succ]
      refine wpAnyZ_take (i := 6) (v := ?_) rfl (by kernel_rfl) (by kernel_rfl) (by kernel_rfl) (fun _ _ _ h => h) (by kernel_rfl) (Or.inl ⟨by rfl, ?_⟩) (by assumption) ?_
      rotate_left
      · intro w' hSw
        try dsimp only at hSw
        try obtain ⟨hSw, hSw2⟩ := hSw
        go_simp
        try with_reducible rfl
      show wpAnyZ _ _ _ _ _ _ _ _ (Act.put _ (some 73) _) _
      simp only [Act.put, List.setIfInBounds_toArray, List.set_cons_zero, List.set_cons_succ]
      clear hSS
      refine wpAnyZ_one (i := 7) (by kernel_rfl) rfl rfl (fun K hK => ?_)
      have g0 := cell_of_row w9 _ 0 _ _ _ HO9.out.r; have g1 := cell_of_row w9 _ 1 _ _ _ HO9.out.r
      have z0 := frozen_of_row w9 _ 0 _ _ HO9.out.r; have z1 := frozen_of_row w9 _ 1 _ _ HO9.out.r
      go_simp
      refine hK.out _ _ (.inl (Nat.le_refl _)) ?_
      clear hK g0 g1 z0 z1
      refine wpAnyZ_one (i := 8) (by kernel_rfl) rfl rfl (fun K hK => ?_)
      go_simp
      refine hK.out _ _ (.inl (by omega)) ?_
      clear hK
      refine wpAnyZ_done (by kernel_rfl) ?_ _
      go_wp2_with fail
      exact fin_arr rfl rfl rfl HO9.out.r HV9.out HU9.out HAP9.out HO9.out.b (by omega)
end Go.Proofs.Ytmjkncmpanhgjaa

namespace Go
set_option linter.unusedVariables false
set_option linter.unusedSimpArgs false
section
variable {P : Program} {ops : Array Oper} {Q : Exit → Act → World → Prop} {md : Region.Mode} {S : World → Prop} {z : Nat}
/-- One of two comes up. -/
theorem wpAnyZ_two {i j : Nat} {o p : Oper} {fuel : Nat} {listed : Array Bool} {a : Act} {w : World} (hr : Region.ready md ops listed = [i, j]) (ho : ops[i]? = some o) (hp : ops[j]? = some p) (hg : o.guard = none) (hk : p.guard = none)
    (h : ∀ K : Act → World → Prop, Shut (∀ a w, (z ≤ i ∨ S w) → wpAnyZ P md ops Q S z fuel (listed.setIfInBounds i true) a w → K a w) → o.wp P a w K Q)
    (h2 : ∀ K : Act → World → Prop, Shut (∀ a w, (z ≤ j ∨ S w) → wpAnyZ P md ops Q S z fuel (listed.setIfInBounds j true) a w → K a w) → p.wp P a w K Q) : wpAnyZ P md ops Q S z (fuel + 1) listed a w := by
  refine ⟨fun h0 => (by rw [hr] at h0; cases h0), fun k hk' => ?_⟩
  rw [hr] at hk'
  have hk2 : k = i ∨ k = j := by simpa using hk'
  rcases hk2 with rfl | rfl
  · unfold wpOp
    rw [ho]
    simp only [Region.wanted, hg, if_true]
    exact .inl (h _ (fun a w h1 h2 => ⟨h1, h2⟩))
  · unfold wpOp
    rw [hp]
    simp only [Region.wanted, hk, if_true]
    exact .inl (h2 _ (fun a w h1 h2 => ⟨h1, h2⟩))
end
end Go
