import Derived.Test.YtbhhmfkipfedfaaW13
namespace Go.Proofs.Ytbhhmfkipfedfaa
open Go.RowKit

/-- what stands from a on, P numbers at most, of the first i numbers -/
def part (d : List Int) (a P i : Nat) : List Int := ((d.take i).drop a).take P
theorem part_in {d : List Int} {a P i : Nat} (hi : i < d.length) (h1 : a ≤ i) (h2 : i < a + P) : part d a P (i + 1) = part d a P i ++ [d[i]] := by
  unfold part
  have h3 : (d.take i).length = i := by rw [List.length_take]; omega
  rw [List.take_succ_eq_append_getElem hi, List.drop_append_of_le_length (by omega), List.take_of_length_le (l := List.drop a (d.take i) ++ [d[i]]) (by simp only [List.length_append, List.length_drop, h3, List.length_singleton]; omega), List.take_of_length_le (l := List.drop a (d.take i)) (by rw [List.length_drop, h3]; omega)]
theorem part_out {d : List Int} {a P i : Nat} (hi : i < d.length) (h : ¬ (a ≤ i ∧ i < a + P)) : part d a P (i + 1) = part d a P i := by
  unfold part
  by_cases h1 : a ≤ i
  · rw [List.take_succ_eq_append_getElem hi, List.drop_append_of_le_length (by simp; omega), List.take_append_of_le_length (by simp; omega)]
  · rw [List.drop_of_length_le (by simp; omega), List.drop_of_length_le (by simp; omega)]
theorem part_all (d : List Int) (a P : Nat) : part d a P d.length = (d.drop a).take P := by unfold part; rw [List.take_length]
/-- the first index of place i -/
theorem first_idx {P x k i : Nat} (hP : 0 < P) (hi : i < x * P) : (((i : Int) / (P : Int)) % (x : Int) = (k : Int)) ↔ (k * P ≤ i ∧ i < k * P + P) := by
  have h1 : i / P < x := Nat.div_lt_of_lt_mul (by rw [Nat.mul_comm]; exact hi)
  have h2 : ((i : Int) / (P : Int)) % (x : Int) = ((i / P : Nat) : Int) := by
    rw [← Int.natCast_ediv, Int.emod_eq_of_lt (Int.natCast_nonneg _) (by exact_mod_cast h1)]
  rw [h2]
  have h3 := Nat.div_add_mod i P
  have h4 := Nat.mod_lt i hP
  constructor
  · intro h
    have : i / P = k := by exact_mod_cast h
    rw [this, Nat.mul_comm] at h3
    omega
  · intro ⟨ha, hb⟩
    have e : i / P = k := by
      refine Nat.div_eq_of_lt_le ha ?_
      rw [Nat.succ_mul]; exact hb
    rw [e]

theorem IntsAt.srcS {k : IntKind} {w : World} {ad : Addr} {xs : List Int} (h : IntsAt k w (some ad) xs) : ∀ j v, (xs.map (Value.int k))[j]? = some v → w.cell? (ad.add j) = some v := by
  by_cases h0 : 0 < xs.length
  · obtain ⟨ad', e, hs⟩ := h.src h0; cases e; exact hs
  · have : xs = [] := by cases xs <;> simp_all
    subst this; simp

set_option maxRecDepth 100000 in
set_option maxHeartbeats 2000000 in
theorem rcell_bad (w : World) (a0 a1 : Option Addr) (c0 c1 : Nat) (s d : List Int) (k : Int) (hs : s.length ≤ maxLen) (hc0 : s.length ≤ c0) (h0 : IntsAt .i64 w a0 s) (hb : (cell s d k).2 ≠ 0) :
    Calls Try.prog 20 #[.agg #[.slice a0 s.length c0, .slice a1 d.length c1], .int .i64 k] w fun e w' => RetArr w.heap.size (cell s d k) e w' ∧ Below w.heap.size w w' := by
  have hbb : ∀ o o', Below w.heap.size w ((w.alloc o).alloc o') := fun o o' => ((Below.refl _ _).alloc (Nat.le_refl _) _).alloc (by simp) _
  have hq := fun o o' => rright_any ((w.alloc o).alloc o') a0 a1 c0 c1 s d hs (h0.below (hbb o o') (Nat.le_refl _))
  unfold maxLen at hs
  cases hr : right s d with
  | false =>
    have hcell : cell s d k = (([], []), 60) := by unfold cell; rw [if_neg (by rw [hr]; simp)]
    rw [hr] at hq
    have Hq := Lib.hid hq; have Hb := Lib.hid hbb; have Hc := Lib.hid hcell; clear hq hbb hcell hb hr h0
    go_enter Try.func20, Try.ntmps20
    go_wp2_with (go_at_call 13; refine (Hq.out _ _).mono ?_; rintro e w1 ⟨rfl, hb1⟩; obtain ⟨hc1, hf1⟩ := bcell hb1; have hz1 : w.heap.size + 1 < w1.heap.size := by have := hb1.size; simp at this; omega)
    refine bodyPost_ret (v := .tuple #[.agg #[.slice none 0 0, .slice none 0 0], .int .i64 60]) (by simp [results, Try.results20, go_sem, hc1]) rfl ⟨?_, ?_⟩
    · rw [Hc.out]; exact ⟨_, _, rfl, RowI.nil _ _, RowI.nil _ _, .inl rfl⟩
    · exact (((Hb.out _ _).trans (hb1.mono (by simp; omega))).setCell (p := ⟨w.heap.size + 1, 0, none⟩) (by simp) _).setCell (p := ⟨w.heap.size + 1, 1, none⟩) (by simp) _
  | true =>
    rw [hr] at hq
    have Hq := Lib.hid hq; have Hb := Lib.hid hbb; clear hq hbb
    cases s with
    | nil =>
      have hcell : cell [] d k = (([], []), 62) := by unfold cell; rw [if_pos hr]
      have Hc := Lib.hid hcell; clear hcell hb hr h0
      go_enter Try.func20, Try.ntmps20
      go_wp2_with (go_at_call 13; refine (Hq.out _ _).mono ?_; rintro e w1 ⟨rfl, hb1⟩; obtain ⟨hc1, hf1⟩ := bcell hb1; have hz1 : w.heap.size + 1 < w1.heap.size := by have := hb1.size; simp at this; omega)
      refine bodyPost_ret (v := .tuple #[.agg #[.slice none 0 0, .slice none 0 0], .int .i64 62]) (by simp [results, Try.results20, go_sem, hc1]) rfl ⟨?_, ?_⟩
      · rw [Hc.out]; exact ⟨_, _, rfl, RowI.nil _ _, RowI.nil _ _, .inl rfl⟩
      · exact (((Hb.out _ _).trans (hb1.mono (by simp; omega))).setCell (p := ⟨w.heap.size + 1, 0, none⟩) (by simp) _).setCell (p := ⟨w.heap.size + 1, 1, none⟩) (by simp) _
    | cons x r =>
      obtain ⟨b0, off, rfl, hcx⟩ := h0 0 (by simp)
      have hb0 := World.block_lt_of_cell? w _ hcx
      simp only [Nat.add_zero, List.getElem_cons_zero] at hcx
      have hc0' : 0 < (x :: r).length := by simp
      have hcc : ∀ o o', ((w.alloc o).alloc o').cell? ⟨b0, off, none⟩ = some (.int .i64 x) := fun o o' => (((Hb.out o o').cell (p := ⟨b0, off, none⟩) hb0)).trans hcx
      have Hcc := Lib.hid hcc; clear hcc
      clear h0 hc0
      by_cases hk : k < 0
      · have hcell : cell (x :: r) d k = (([], []), 62) := by unfold cell; rw [if_pos hr]; simp only []; rw [if_pos (Or.inl hk)]
        have Hc := Lib.hid hcell; clear hcell hb hr
        go_enter Try.func20, Try.ntmps20
        go_wp2_with (go_at_call 13; refine (Hq.out _ _).mono ?_; rintro e w1 ⟨rfl, hb1⟩; obtain ⟨hc1, hf1⟩ := bcell hb1; have hz1 : w.heap.size + 1 < w1.heap.size := by have := hb1.size; simp at this; omega)
        refine bodyPost_ret (v := .tuple #[.agg #[.slice none 0 0, .slice none 0 0], .int .i64 62]) (by simp [results, Try.results20, go_sem, hc1]) rfl ⟨?_, ?_⟩
        · rw [Hc.out]; exact ⟨_, _, rfl, RowI.nil _ _, RowI.nil _ _, .inl rfl⟩
        · exact (((Hb.out _ _).trans (hb1.mono (by simp; omega))).setCell (p := ⟨w.heap.size + 1, 0, none⟩) (by simp) _).setCell (p := ⟨w.heap.size + 1, 1, none⟩) (by simp) _
      · have hk' : decide (k < 0) = false := by simpa using hk
        by_cases hx : x ≤ k
        · have hcell : cell (x :: r) d k = (([], []), 62) := by unfold cell; rw [if_pos hr]; simp only []; rw [if_pos (Or.inr hx)]
          have Hc := Lib.hid hcell; clear hcell hb hr
          go_enter Try.func20, Try.ntmps20
          go_wp2_with (go_at_call 13; refine (Hq.out _ _).mono ?_; rintro e w1 ⟨rfl, hb1⟩; obtain ⟨hc1, hf1⟩ := bcell hb1; have hz1 : w.heap.size + 1 < w1.heap.size := (by have := hb1.size; simp at this; omega); have hcx1 : w1.cell? ⟨b0, off, none⟩ = some (.int .i64 x) := (hb1.cell (p := ⟨b0, off, none⟩) (by simp; omega)).trans (Hcc.out _ _))
          refine bodyPost_ret (v := .tuple #[.agg #[.slice none 0 0, .slice none 0 0], .int .i64 62]) (by simp [results, Try.results20, go_sem, hc1]) rfl ⟨?_, ?_⟩
          · rw [Hc.out]; exact ⟨_, _, rfl, RowI.nil _ _, RowI.nil _ _, .inl rfl⟩
          · exact (((Hb.out _ _).trans (hb1.mono (by simp; omega))).setCell (p := ⟨w.heap.size + 1, 0, none⟩) (by simp) _).setCell (p := ⟨w.heap.size + 1, 1, none⟩) (by simp) _
        · exfalso
          apply hb
          unfold cell
          rw [if_pos hr]
          simp only []
          rw [if_neg (by omega)]

theorem heap_setCell_two {W : World} {g : Nat} {x y : Value} {t : TypeId} {fr : Nat × Nat} (h : W.heap[g]? = some (.cells #[x, y] t fr)) (v : Value) :
    (W.setCell ⟨g, 1, none⟩ v).heap[g]? = some (.cells #[x, v] t fr) := by
  obtain ⟨hlt, hg⟩ := Array.getElem?_eq_some_iff.1 h
  show (W.heap.modify g _)[g]? = _
  rw [Array.getElem?_eq_getElem (by simpa using hlt), Array.getElem_modify_self, hg]
  simp

/-- Between two rounds of ref.Cell's loop. -/
def CellInv (O : Nat) (w2 : World) (p1 : Value) (xs : List Int) (wr : World) : Prop :=
  ∃ v, wr.heap[O]? = some (.cells #[p1, v] 24 (0, 0)) ∧ RowI (O + 1) wr v xs ∧ Below O w2 wr

set_option maxRecDepth 100000 in
set_option maxHeartbeats 4000000 in
theorem rcell_good (w : World) (b0 off : Nat) (a1 : Option Addr) (ls ld c0 c1 xn P k : Nat) (x : Int) (r d : List Int) (hls : ls = (x :: r).length) (hld : ld = d.length) (hc0 : ls ≤ c0) (hc1 : ld ≤ c1)
    (h0 : IntsAt .i64 w (some ⟨b0, off, none⟩) (x :: r)) (h1 : IntsAt .i64 w a1 d) (hr : right (x :: r) d = true) (hx : x = xn) (hP : prodL r = P) (hkx : k < xn) :
    Calls Try.prog 20 #[.agg #[.slice (some ⟨b0, off, none⟩) ls c0, .slice a1 ld c1], .int .i64 (k : Int)] w fun e w' =>
      RetArr w.heap.size ((r, (d.drop (k * P)).take P), 0) e w' ∧ Below w.heap.size w w' := by
  obtain ⟨hsz, g⟩ := right_good hr
  have hlr : ls ≤ 4 := hls ▸ g.len
  have hldn : ld ≤ 65536 := by have := g.le; omega
  have hprod : ld = xn * P := by
    have := g.prod
    rw [prodL, hx, hP] at this
    have : (ld : Int) = ((xn * P : Nat) : Int) := by rw [hld, this]; simp
    exact_mod_cast this
  have hbb : ∀ o o', Below w.heap.size w ((w.alloc o).alloc o') := fun o o' => ((Below.refl _ _).alloc (Nat.le_refl _) _).alloc (by simp) _
  have hq := fun o o' => rright_any ((w.alloc o).alloc o') (some ⟨b0, off, none⟩) a1 c0 c1 (x :: r) d (by rw [← hls]; unfold maxLen; omega) (h0.below (hbb o o') (Nat.le_refl _))
  rw [hr, ← hls, ← hld] at hq
  have hix := fun W (hW : Below w.heap.size w W) (p : Int) => rindex_any W (some ⟨b0, off, none⟩) c0 (x :: r) p (by rw [← hls]; unfold maxLen; omega) (h0.below hW (Nat.le_refl _))
  rw [← hls] at hix
  have hidx : ∀ j : Nat, j < ld → index (x :: r) (j : Int) = (((j : Int) / (P : Int)) % (xn : Int) :: idx r j, 0) := fun j hj => by
    unfold index
    rw [hsz, if_pos rfl, if_neg (by simp only []; omega), idx, hP, hx]
  have hlen : 0 < ls := by rw [hls]; simp
  have hl1 : ((ls : Int) == 0) = false := by simp; omega
  have hcx : w.cell? ⟨b0, off, none⟩ = some (.int .i64 x) := by obtain ⟨b, o, e, h⟩ := h0 0 (by simp); cases e; simpa using h
  have hb0 := World.block_lt_of_cell? w _ hcx
  have hcc : ∀ o o', ((w.alloc o).alloc o').cell? ⟨b0, off, none⟩ = some (.int .i64 x) := fun o o' => (((hbb o o').cell (p := ⟨b0, off, none⟩) hb0)).trans hcx
  obtain ⟨ad1, had1⟩ : ∃ ad1, subA (some ⟨b0, off, none⟩) c0 1 = some ad1 := by unfold subA; split; exact ⟨_, rfl⟩; exact ⟨_, rfl⟩
  obtain ⟨lr, hlr1⟩ : ∃ lr, ls - 1 = lr := ⟨_, rfl⟩
  obtain ⟨cr, hcr1⟩ : ∃ cr, c0 - 1 = cr := ⟨_, rfl⟩
  have hrl : r.length = lr := by rw [← hlr1, hls]; simp
  have hlr4 : lr ≤ 4 := by omega
  have hsl1 : ∀ W : World, (Instr.sliceAt 22 (.slice (some ⟨b0, off, none⟩) ls c0) (some (.int .i64 1)) none none).run Try.prog W = .ok (.slice (some ad1) lr cr) W := fun W => by
    rw [slice_lo W (some ⟨b0, off, none⟩) ls c0 .i64 1 (by omega) (by omega), show (1 : Int).toNat = 1 from rfl, had1, hlr1, hcr1]
  have hsrc : ∀ W : World, Below w.heap.size w W → ∀ j v, (r.map (Value.int .i64))[j]? = some v → W.cell? (ad1.add j) = some v := fun W hW => by
    have := (h0.below hW (Nat.le_refl _)).cut (m := c0) (l := 1) (n := r.length) (by rw [← hls]; exact hc0)
    rw [had1] at this
    simp only [List.drop_one, List.tail_cons, List.take_length] at this
    exact this.srcS
  have H1 := Lib.hid h1; have Hq := Lib.hid hq; have Hix := Lib.hid hix; have Hidx := Lib.hid hidx; have Hcc := Lib.hid hcc; have Hb := Lib.hid hbb; have Hsrc := Lib.hid hsrc
  have Hprod := Lib.hid hprod; have Hld := Lib.hid hld; have Hx := Lib.hid hx; have Hrl := Lib.hid hrl
  have hk0' : decide ((k : Int) < 0) = false := by simp
  have hxk : (k : Int) < x := by omega
  clear h0 h1 hq hix hidx hcc hbb hsrc hprod hld hls hsz hr g hP had1 hlr1 hcr1 hcx hrl hx
  obtain ⟨i0, hi, hz0, hz1, hz2⟩ := info_parts Try.info2
  have Hi := Lib.hid hi; have Hz0 := Lib.hid hz0; have Hz1 := Lib.hid hz1; have Hz2 := Lib.hid hz2; clear hi hz0 hz1 hz2
  go_enter Try.func20, Try.ntmps20
  go_wp2_with fail
  refine (Hq.out _ _).mono ?_
  rintro e w1 ⟨rfl, hb1⟩
  obtain ⟨hc1, hf1⟩ := bcell hb1
  have hz1 : w.heap.size + 1 < w1.heap.size := by have := hb1.size; simp at this; omega
  have hcx1 : w1.cell? ⟨b0, off, none⟩ = some (.int .i64 x) := (hb1.cell (p := ⟨b0, off, none⟩) (by simp; omega)).trans (Hcc.out _ _)
  have hS0 : w1.cell? ⟨w.heap.size, 0, none⟩ = some (.slice (some ⟨b0, off, none⟩) ls c0) := by rw [hc1 _ _ (by simp; omega)]; simp [go_sem]
  have hS1 : w1.cell? ⟨w.heap.size, 1, none⟩ = some (.slice a1 ld c1) := by rw [hc1 _ _ (by simp; omega)]; simp [go_sem]
  have hS0a : ∀ o, (w1.alloc o).cell? ⟨w.heap.size, 0, none⟩ = some (.slice (some ⟨b0, off, none⟩) ls c0) := fun o => (World.cell?_alloc_lt _ _ _ (by show w.heap.size < _; omega)).trans hS0
  have hR0 : w1.cell? ⟨w.heap.size + 1, 0, none⟩ = some (.slice none 0 0) := by rw [hc1 _ _ (by simp)]; simp [go_sem]
  have hR1 : w1.cell? ⟨w.heap.size + 1, 1, none⟩ = some (.slice none 0 0) := by rw [hc1 _ _ (by simp)]; simp [go_sem]
  have hF : ∀ o, w1.frozen? ⟨w.heap.size + 1, o, none⟩ = false := fun o => by rw [hf1 _ _ (by simp)]; simp [go_sem]
  have hB1 : Below w.heap.size w w1 := (Hb.out _ _).trans (hb1.mono (by simp; omega))
  clear hc1 hf1 hb1
  have HF := Lib.hid hF; have HR0 := Lib.hid hR0; have HR1 := Lib.hid hR1; clear hF hR0 hR1
  have hBa : ∀ o, Below w.heap.size w (w1.alloc o) := fun o => hB1.alloc hB1.size _
  have HBa := Lib.hid hBa; clear hBa
  go_wp2_with (at_builtin; (refine wpList_append_own _ rfl _ _ 22 rfl w1.heap.size 2 i0 (.int .i64 0) 1 8 Try.underlying22 Hi.out Hz0.out Hz1.out Hz2.out rfl (by decide) _ 0 [] rfl (World.ownsRow_made w1 #[] 0 (Nat.le_refl _) (Nat.zero_le _) rfl) ad1 lr cr (r.map (Value.int .i64)) rfl (by simp [Hrl.out]) (Hsrc.out _ (HBa.out _)) (oneCell_ints _ _) (by unfold maxLen; omega) (by omega) (by simp) ?_))
  intro p1 w2 hown hgrow _
  have hB2 : Below w1.heap.size w1 w2 := ((Below.refl w1.heap.size w1).alloc (Nat.le_refl _) _).grown hgrow (by simp) (fun k e => by cases e; exact Nat.le_refl _)
  have hp1 : RowI w1.heap.size w2 p1 r := by unfold RowI; rw [Hrl.out]; simpa using hown
  have HP1 := Lib.hid hp1; have HB2 := Lib.hid hB2
  have hz2 : w1.heap.size ≤ w2.heap.size := hB2.size
  have hS1b : ∀ o, (w2.alloc o).cell? ⟨w.heap.size, 1, none⟩ = some (.slice a1 ld c1) := fun o => (World.cell?_alloc_lt _ _ _ (by show w.heap.size < _; omega)).trans ((hB2.cell (p := ⟨w.heap.size, 1, none⟩) (by show w.heap.size < _; omega)).trans hS1)
  obtain ⟨ap, cp, rfl, _, _⟩ := hp1.slice
  clear hown hgrow hp1 hB2 hS0a hcx1 HBa
  go_wp2_with fail
  have hB12 : Below w.heap.size w w2 := hB1.trans (HB2.out.mono hB1.size)
  have hS0w : w2.cell? ⟨w.heap.size, 0, none⟩ = some (.slice (some ⟨b0, off, none⟩) ls c0) := (HB2.out.cell (p := ⟨w.heap.size, 0, none⟩) (by show w.heap.size < _; omega)).trans hS0
  have hS1w : w2.cell? ⟨w.heap.size, 1, none⟩ = some (.slice a1 ld c1) := (HB2.out.cell (p := ⟨w.heap.size, 1, none⟩) (by show w.heap.size < _; omega)).trans hS1
  have hR0w : w2.cell? ⟨w.heap.size + 1, 0, none⟩ = some (.slice none 0 0) := (HB2.out.cell (p := ⟨w.heap.size + 1, 0, none⟩) (by show w.heap.size + 1 < _; omega)).trans HR0.out
  have hR1w : w2.cell? ⟨w.heap.size + 1, 1, none⟩ = some (.slice none 0 0) := (HB2.out.cell (p := ⟨w.heap.size + 1, 1, none⟩) (by show w.heap.size + 1 < _; omega)).trans HR1.out
  have hFw : ∀ o, w2.frozen? ⟨w.heap.size + 1, o, none⟩ = false := fun o => (HB2.out.frozen (p := ⟨w.heap.size + 1, o, none⟩) (by show w.heap.size + 1 < _; omega)).trans (HF.out o)
  have HFw := Lib.hid hFw; have HR0w := Lib.hid hR0w; have HR1w := Lib.hid hR1w; have HS0w := Lib.hid hS0w; have HS1w := Lib.hid hS1w
  clear hFw hR0w hR1w hS0w hS1w hS0 hS1 HR0 HR1 HF hS1b hsl1
  go_loopw [7] (fun i wr => ∃ j : Nat, j ≤ ld ∧ i = .int .i64 (j : Int) ∧ CellInv w2.heap.size w2 (.slice ap r.length cp) (part d (k * P) P j) wr) (fun i _ => ld - (intOf i).toNat)
  case atStart => exact ⟨0, Nat.zero_le _, rfl, .slice none 0 0, World.alloc_heap_new _ _, by simpa [part] using RowI.nil _ _, (Below.refl _ _).alloc (Nat.le_refl _) _⟩
  case round =>
    obtain ⟨j, hj, rfl, v, hO, hrow, hbel⟩ := hrel
    obtain ⟨av, cv, hve, _, _⟩ := hrow.slice
    obtain ⟨lv, hlv⟩ : ∃ lv, (part d (k * P) P j).length = lv := ⟨_, rfl⟩
    rw [hlv] at hve
    have Hve := Lib.hid hve; clear hve hlv
    have hz : w2.heap.size < wr.heap.size := (Array.getElem?_eq_some_iff.1 hO).1
    have hBw : Below w.heap.size w wr := hB12.trans (hbel.mono hB12.size)
    have hS0 : wr.cell? ⟨w.heap.size, 0, none⟩ = some (.slice (some ⟨b0, off, none⟩) ls c0) := (hbel.cell (p := ⟨w.heap.size, 0, none⟩) (by show w.heap.size < _; omega)).trans HS0w.out
    have hS1 : wr.cell? ⟨w.heap.size, 1, none⟩ = some (.slice a1 ld c1) := (hbel.cell (p := ⟨w.heap.size, 1, none⟩) (by show w.heap.size < _; omega)).trans HS1w.out
    have HO := Lib.hid hO; have Hrow := Lib.hid hrow; have Hbel := Lib.hid hbel; clear hO hrow hbel
    by_cases hlt : j < ld
    · have hq := Hix.out wr hBw (j : Int)
      rw [Hidx.out j hlt] at hq
      obtain ⟨q, hqd⟩ : ∃ q, (j : Int) / (P : Int) % (xn : Int) = q := ⟨_, rfl⟩
      rw [hqd] at hq
      have HQ := Lib.hid hq; have Hqd := Lib.hid hqd; clear hq hqd
      go_wp2_with fail
      refine HQ.out.mono ?_
      rintro e w4 ⟨⟨va, rfl, hva⟩, hb4⟩
      obtain ⟨aa, ca, rfl, _, hai⟩ := hva.slice
      obtain ⟨b4, o4, rfl, hat⟩ := hai 0 (by simp)
      obtain ⟨la, hla⟩ : ∃ la, (q :: idx r (j : Int)).length = la := ⟨_, rfl⟩
      have hla0 : 0 < la := by rw [← hla]; simp
      simp only [Nat.add_zero, List.getElem_cons_zero] at hat
      dsimp only
      rw [hla]
      clear hla hai hva
      have hz4 : w2.heap.size < w4.heap.size := Nat.lt_of_lt_of_le hz hb4.size
      have hO4 : w4.heap[w2.heap.size]? = some (.cells #[.slice ap r.length cp, v] 24 (0, 0)) := (hb4.block _ hz).trans HO.out
      have hrow4 := Hrow.out.below hb4
      have hbel4 : Below w2.heap.size w2 w4 := Hbel.out.trans (hb4.mono (Nat.le_of_lt hz))
      obtain ⟨b1, off1, rfl, hd⟩ := H1.out j (by have := Hld.out; omega)
      have hb1 := World.block_lt_of_cell? w _ hd
      have hBw4 : Below w.heap.size w w4 := hB12.trans (hbel4.mono hB12.size)
      have hd4 : w4.cell? ⟨b1, off1 + j, none⟩ = some (.int .i64 (d[j]'(by have := Hld.out; omega))) := (hBw4.cell (p := ⟨b1, off1 + j, none⟩) hb1).trans hd
      have hO41 : w4.cell? ⟨w2.heap.size, 1, none⟩ = some v := by rw [cell_of_row w4 _ 1 _ _ _ hO4]; rfl
      have hS14 : w4.cell? ⟨w.heap.size, 1, none⟩ = some (.slice (some ⟨b1, off1, none⟩) ld c1) := (hbel4.cell (p := ⟨w.heap.size, 1, none⟩) (by show w.heap.size < _; omega)).trans HS1w.out
      have hj0 : (0 : Int) ≤ (j : Int) := by omega
      have hj1 : (j : Int) < (ld : Int) := by omega
      obtain ⟨dj, hdj⟩ : ∃ dj, d[j]'(by have := Hld.out; omega) = dj := ⟨_, rfl⟩
      rw [hdj] at hd4
      have hF4 : w4.frozen? ⟨w2.heap.size, 1, none⟩ = false := by simp [World.frozen?, hO4]
      have HO4 := Lib.hid hO4; have Hrow4 := Lib.hid hrow4; have Hbel4 := Lib.hid hbel4; have Hdj := Lib.hid hdj
      clear hO4 hrow4 hbel4 hb4 hd hBw4 hS0 hS1 hdj
      have hPk : q = (k : Int) ↔ (k * P ≤ j ∧ j < k * P + P) := by
        rw [← Hqd.out]
        refine first_idx ?_ (by rw [← Hprod.out]; exact hlt)
        rcases Nat.eq_zero_or_pos P with h | h
        · have := Hprod.out; rw [h] at this; omega
        · exact h
      by_cases hqk : q = (k : Int)
      · have hin := hPk.1 hqk
        have hqk' : (q == (k : Int)) = true := by simpa using hqk
        have Hin := Lib.hid hin; clear hin hPk hqk
        go_wp2_with fail
        refine wp_region_Z (S := fun W' => W'.cell? ⟨w2.heap.size, 1, none⟩ = some v ∧ W'.cell? ⟨w.heap.size, 1, none⟩ = some (.slice (some ⟨b1, off1, none⟩) ld c1) ∧ W'.cell? ⟨b1, off1 + j, none⟩ = some (.int .i64 dj)) (z := 10) (by kernel_rfl) ?_
        have hSS : (fun W' : World => W'.cell? ⟨w2.heap.size, 1, none⟩ = some v ∧ W'.cell? ⟨w.heap.size, 1, none⟩ = some (.slice (some ⟨b1, off1, none⟩) ld c1) ∧ W'.cell? ⟨b1, off1 + j, none⟩ = some (.int .i64 dj)) w4.drew := ⟨hO41, hS14, hd4⟩
        refine wpAnyZ_take (i := 0) (v := ?_) rfl (by kernel_rfl) (by kernel_rfl) (by kernel_rfl) (fun _ _ _ h => h) (by kernel_rfl) (Or.inl ⟨by rfl, ?_⟩) (by assumption) ?_
        rotate_left
        · intro w' hSw
          try dsimp only at hSw
          go_simp
          try with_reducible rfl
        show wpAnyZ _ _ _ _ _ _ _ _ (Act.put _ (some 56) _) _
        simp only [Act.put, List.setIfInBounds_toArray, List.set_cons_zero, List.set_cons_succ]
        refine wpAnyZ_take (i := 1) (v := ?_) rfl (by kernel_rfl) (by kernel_rfl) (by kernel_rfl) (fun _ _ _ h => h) (by kernel_rfl) (Or.inl ⟨by rfl, ?_⟩) (by assumption) ?_
        rotate_left
        · intro w' hSw
          try dsimp only at hSw
          go_simp
          try with_reducible rfl
        show wpAnyZ _ _ _ _ _ _ _ _ (Act.put _ (some 57) _) _
        simp only [Act.put, List.setIfInBounds_toArray, List.set_cons_zero, List.set_cons_succ]
        refine wpAnyZ_take (i := 2) (v := ?_) rfl (by kernel_rfl) (by kernel_rfl) (by kernel_rfl) (fun _ _ _ h => h) (by kernel_rfl) (Or.inl ⟨by rfl, ?_⟩) (by assumption) ?_
        rotate_left
        · intro w' hSw
          try dsimp only at hSw
          go_simp
          try with_reducible rfl
        show wpAnyZ _ _ _ _ _ _ _ _ (Act.put _ (some 58) _) _
        simp only [Act.put, List.setIfInBounds_toArray, List.set_cons_zero, List.set_cons_succ]
        refine wpAnyZ_take (i := 3) (v := ?_) rfl (by kernel_rfl) (by kernel_rfl) (by kernel_rfl) (fun _ _ _ h => h) (by kernel_rfl) (Or.inl ⟨by rfl, ?_⟩) (by assumption) ?_
        rotate_left
        · intro w' hSw
          try dsimp only at hSw
          go_simp
          try with_reducible rfl
        show wpAnyZ _ _ _ _ _ _ _ _ (Act.put _ (some 59) _) _
        simp only [Act.put, List.setIfInBounds_toArray, List.set_cons_zero, List.set_cons_succ]
        refine wpAnyZ_take (i := 4) (v := ?_) rfl (by kernel_rfl) (by kernel_rfl) (by kernel_rfl) (fun _ _ _ h => h) (by kernel_rfl) (Or.inl ⟨by rfl, ?_⟩) (by assumption) ?_
        rotate_left
        · intro w' hSw
          try dsimp only at hSw
          go_simp
          try with_reducible rfl
        show wpAnyZ _ _ _ _ _ _ _ _ (Act.put _ (some 60) _) _
        simp only [Act.put, List.setIfInBounds_toArray, List.set_cons_zero, List.set_cons_succ]
        refine wpAnyZ_take (i := 5) (v := ?_) rfl (by kernel_rfl) (by kernel_rfl) (by kernel_rfl) (fun _ _ _ h => h) (by kernel_rfl) (Or.inl ⟨by rfl, ?_⟩) (by assumption) ?_
        rotate_left
        · intro w' hSw
          try dsimp only at hSw
          go_simp
          try with_reducible rfl
        show wpAnyZ _ _ _ _ _ _ _ _ (Act.put _ (some 61) _) _
        simp only [Act.put, List.setIfInBounds_toArray, List.set_cons_zero, List.set_cons_succ]
        refine wpAnyZ_take (i := 6) (v := ?_) rfl (by kernel_rfl) (by kernel_rfl) (by kernel_rfl) (fun _ _ _ h => h) (by kernel_rfl) (Or.inl ⟨by rfl, ?_⟩) (by assumption) ?_
        rotate_left
        · intro w' hSw
          try dsimp only at hSw
          go_simp
          try with_reducible rfl
        show wpAnyZ _ _ _ _ _ _ _ _ (Act.put _ (some 62) _) _
        simp only [Act.put, List.setIfInBounds_toArray, List.set_cons_zero, List.set_cons_succ]
        clear hSS
        refine wpAnyZ_one (i := 7) (by kernel_rfl) rfl rfl (fun K hK => ?_)
        go_simp
        have hSa : ∀ o : Obj, (w4.alloc o).cell? ⟨w2.heap.size, 1, none⟩ = some v ∧ (w4.alloc o).cell? ⟨w.heap.size, 1, none⟩ = some (.slice (some ⟨b1, off1, none⟩) ld c1) ∧ (w4.alloc o).cell? ⟨b1, off1 + j, none⟩ = some (.int .i64 dj) := fun o =>
          ⟨(World.cell?_alloc_lt _ _ _ hz4).trans hO41, (World.cell?_alloc_lt _ _ _ (by show w.heap.size < _; omega)).trans hS14, (World.cell?_alloc_lt _ _ _ (World.block_lt_of_cell? w4 _ hd4)).trans hd4⟩
        refine hK.out _ _ (.inr (hSa _)) ?_
        clear hK K
        refine wpAnyZ_one (i := 8) (by kernel_rfl) rfl rfl (fun K hK => ?_)
        have hvo : ∀ o : Obj, (w4.alloc o).ownsRow (w2.heap.size + 1) 2 1 v (part d (k * P) P j).length ((part d (k * P) P j).map (Value.int .i64)) := fun o => (Hrow4.out.below ((Below.refl _ _).alloc (Nat.le_refl _) o))
        have hpl : (part d (k * P) P j).length ≤ 65536 := by unfold part; rw [List.length_take, List.length_drop, List.length_take]; omega
        refine wp_append_own _ _ _ 22 rfl (w2.heap.size + 1) 2 i0 (.int .i64 0) 1 8 Try.underlying22 Hi.out Hz0.out Hz1.out Hz2.out rfl (by decide) v _ _ rfl (hvo _) ⟨w4.heap.size, 0, none⟩ 1 1 [.int .i64 dj] rfl rfl (fun i u hu => lit_cell w4 _ _ i u hu) (by simp [Value.oneCell']) (by unfold maxLen; omega) (by omega) (by simp; omega) ?_
        intro v' w5 hown5 hgrow5 _
        have hb45 : Below (w2.heap.size + 1) w4 w5 := ((Below.refl (w2.heap.size + 1) w4).alloc (by omega) _).drew.grown hgrow5 (by simp; omega) (fun b e => (Hrow4.out.lt b e).1)
        have hO5 : w5.heap[w2.heap.size]? = some (.cells #[.slice ap r.length cp, v] 24 (0, 0)) := (hb45.block _ (by omega)).trans HO4.out
        have hSS : (fun W' : World => W'.cell? ⟨w2.heap.size, 1, none⟩ = some v ∧ W'.cell? ⟨w.heap.size, 1, none⟩ = some (.slice (some ⟨b1, off1, none⟩) ld c1) ∧ W'.cell? ⟨b1, off1 + j, none⟩ = some (.int .i64 dj)) w5 :=
          ⟨(hb45.cell (p := ⟨w2.heap.size, 1, none⟩) (by simp)).trans hO41, (hb45.cell (p := ⟨w.heap.size, 1, none⟩) (by show w.heap.size < _; omega)).trans hS14, (hb45.cell (p := ⟨b1, off1 + j, none⟩) (by show b1 < _; have := hB12.size; omega)).trans hd4⟩
        refine hK.out _ _ (.inr hSS) ?_
        clear hK K
        have hv5 : RowI (w2.heap.size + 1) w5 v' (part d (k * P) P (j + 1)) := by
          rw [part_in (by have := Hld.out; omega) Hin.out.1 Hin.out.2, Hdj.out]
          unfold RowI
          simpa using hown5
        obtain ⟨av', cv', hve, _, _⟩ := hv5.slice
        subst hve
        have hF5 : w5.frozen? ⟨w2.heap.size, 1, none⟩ = false := by simp [World.frozen?, hO5]
        have hO51 : w5.cell? ⟨w2.heap.size, 1, none⟩ = some v := by rw [cell_of_row w5 _ 1 _ _ _ hO5]; rfl
        have Hv5 := Lib.hid hv5; have HO5 := Lib.hid hO5; have Hb45 := Lib.hid hb45
        clear hv5 hown5 hgrow5 hb45 hO5 hvo hSa hO41 hS14 hd4 hF4
        refine wpAnyZ_take (i := 9) (v := ?_) rfl (by kernel_rfl) (by kernel_rfl) (by kernel_rfl) (fun _ _ _ h => h) (by kernel_rfl) (Or.inl ⟨by rfl, ?_⟩) (by assumption) ?_
        rotate_left
        · intro w' hSw
          try dsimp only at hSw
          go_simp
          try with_reducible rfl
        show wpAnyZ _ _ _ _ _ _ _ _ (Act.put _ (some 65) _) _
        simp only [Act.put, List.setIfInBounds_toArray, List.set_cons_zero, List.set_cons_succ]
        refine wpAnyZ_one (i := 10) (by kernel_rfl) rfl rfl (fun K hK => ?_)
        go_simp
        refine hK.out _ _ (.inl (by omega)) ?_
        clear hK K
        refine wpAnyZ_done (by kernel_rfl) ?_ _
        go_wp2_with fail
        go_roundw
        case rel =>
          refine ⟨j + 1, by omega, by go_num, _, heap_setCell_two HO5.out _, Hv5.out.setCell_lt (by simp) _, ?_⟩
          exact ((Hbel4.out.trans (Hb45.out.mono (by omega))).setCell (p := ⟨w2.heap.size, 1, none⟩) (by simp) _)
        case measure => simp [intOf]; omega
      · have hin : ¬ (k * P ≤ j ∧ j < k * P + P) := fun h => hqk (hPk.2 h)
        have hqk' : (q == (k : Int)) = false := by simpa using hqk
        have Hin := Lib.hid hin; clear hin hPk hqk
        go_wp2_with fail
        go_roundw
        case rel => exact ⟨j + 1, by omega, by go_num, v, HO4.out, by rw [part_out (by have := Hld.out; omega) Hin.out]; exact Hrow4.out, Hbel4.out⟩
        case measure => simp [intOf]; omega
    · obtain rfl : j = ld := by omega
      have hO0 : wr.cell? ⟨w2.heap.size, 0, none⟩ = some (.slice ap r.length cp) := by rw [cell_of_row wr _ 0 _ _ _ HO.out]; rfl
      have hO1 : wr.cell? ⟨w2.heap.size, 1, none⟩ = some v := by rw [cell_of_row wr _ 1 _ _ _ HO.out]; rfl
      have hR0 : wr.cell? ⟨w.heap.size + 1, 0, none⟩ = some (.slice none 0 0) := (Hbel.out.cell (p := ⟨w.heap.size + 1, 0, none⟩) (by show w.heap.size + 1 < _; omega)).trans HR0w.out
      have hR1 : wr.cell? ⟨w.heap.size + 1, 1, none⟩ = some (.slice none 0 0) := (Hbel.out.cell (p := ⟨w.heap.size + 1, 1, none⟩) (by show w.heap.size + 1 < _; omega)).trans HR1w.out
      have hF : ∀ o, wr.frozen? ⟨w.heap.size + 1, o, none⟩ = false := fun o => (Hbel.out.frozen (p := ⟨w.heap.size + 1, o, none⟩) (by show w.heap.size + 1 < _; omega)).trans (HFw.out o)
      have hp2 : RowI w1.heap.size wr (.slice ap r.length cp) r := HP1.out.below Hbel.out
      have hap : Apart (.slice ap r.length cp) v := by
        unfold Apart
        cases hv : (Value.slice ap r.length cp).ownBlock with
        | none => exact .inl rfl
        | some b => exact .inr fun e => by have := (HP1.out.lt b hv).2; have := (Hrow.out.lt b e.symm).1; omega
      have Hp2 := Lib.hid hp2; have Hap := Lib.hid hap; have HB12 := Lib.hid hB12; clear hp2 hap hB12 HFw
      have hve := Hve.out
      subst hve
      go_wp2_with fail
      refine bodyPost_ret (v := .tuple #[.agg #[.slice ap r.length cp, .slice av lv cv], .int .i64 0]) (by simp [results, Try.results20, go_sem, hR0, hR1]) rfl ⟨?_, ?_⟩
      · refine ⟨_, _, rfl, ?_, ?_, Hap.out⟩
        · exact ((Hp2.out.setCell_lt (p := ⟨w.heap.size + 1, 0, none⟩) hz1 _).setCell_lt (p := ⟨w.heap.size + 1, 1, none⟩) hz1 _).mono (by omega)
        · have hz' : w.heap.size + 1 < w2.heap.size + 1 := by omega
          have := (Hrow.out.setCell_lt (p := ⟨w.heap.size + 1, 0, none⟩) hz' (.slice ap r.length cp)).setCell_lt (p := ⟨w.heap.size + 1, 1, none⟩) hz' (.slice av lv cv)
          rw [Hld.out, part_all] at this
          exact this.mono (by have := HB12.out.size; omega)
      · exact (hBw.setCell (p := ⟨w.heap.size + 1, 0, none⟩) (by simp) _).setCell (p := ⟨w.heap.size + 1, 1, none⟩) (by simp) _

theorem rcell_any (w : World) (a0 a1 : Option Addr) (c0 c1 : Nat) (s d : List Int) (k : Int) (hs : s.length ≤ maxLen) (hc0 : s.length ≤ c0) (hc1 : d.length ≤ c1) (h0 : IntsAt .i64 w a0 s) (h1 : IntsAt .i64 w a1 d) :
    Calls Try.prog 20 #[.agg #[.slice a0 s.length c0, .slice a1 d.length c1], .int .i64 k] w fun e w' => RetArr w.heap.size (cell s d k) e w' ∧ Below w.heap.size w w' := by
  by_cases hb : (cell s d k).2 ≠ 0
  · exact rcell_bad w a0 a1 c0 c1 s d k hs hc0 h0 hb
  · cases hr : right s d with
    | false => exact absurd (by unfold cell; rw [if_neg (by rw [hr]; simp)]; simp) hb
    | true =>
      cases s with
      | nil => exact absurd (by unfold cell; rw [if_pos hr]; simp) hb
      | cons x r =>
        by_cases hk : k < 0 ∨ x ≤ k
        · exact absurd (by unfold cell; rw [if_pos hr]; simp only []; rw [if_pos hk]; simp) hb
        · obtain ⟨b0, off, rfl, _⟩ := h0 0 (by simp)
          obtain ⟨_, g⟩ := right_good hr
          obtain ⟨xn, hxn⟩ := Int.eq_ofNat_of_zero_le (g.side x (by simp)).1
          obtain ⟨kn, hkn⟩ := Int.eq_ofNat_of_zero_le (show 0 ≤ k by omega)
          have hP0 := (prodL_le_pow (l := r) fun y hy => g.side y (by simp [hy])).1
          obtain ⟨P, hP⟩ := Int.eq_ofNat_of_zero_le hP0
          have hdl : (d.length : Int) / x = P := by
            rw [g.prod, prodL, hP]
            exact Int.mul_ediv_cancel_left _ (by omega)
          have e : cell (x :: r) d k = ((r, (d.drop (kn * P)).take P), 0) := by
            unfold cell; rw [if_pos hr]; simp only []; rw [if_neg hk, hdl, hkn]
            have e1 : ((kn : Int) * (P : Int)).toNat = kn * P := by rw [← Int.natCast_mul]; rfl
            rw [e1]; rfl
          rw [e, hkn]
          exact rcell_good w b0 off a1 _ _ c0 c1 xn P kn x r d rfl rfl hc0 hc1 h0 h1 hr hxn hP (by omega)
end Go.Proofs.Ytbhhmfkipfedfaa
