import Derived.Test.YtmjkncmpanhgjaaPA3
import Derived.Laws.CopyOwn
import Derived.WalkSpells
import Derived.Deep.RegionHeld3
namespace Go.Proofs.Ytmjkncmpanhgjaa
set_option linter.unusedVariables false
set_option linter.unusedSimpArgs false
set_option maxRecDepth 100000
open Go.RowKit
attribute [local go_sem] Oper.semAt_some

set_option maxRecDepth 100000 in
set_option maxHeartbeats 2000000 in
theorem index_bad (w : World) (a : Option Addr) (c : Nat) (xs : List Int) (p : Int) (hm : xs.length ≤ maxLen) (h : IntsAt .i64 w a xs) (hb : (size xs).2 ≠ 0 ∨ p < 0 ∨ (size xs).1 ≤ p) :
    Calls Try.prog 69 #[.slice a xs.length c, .int .i64 p] w fun e w' => RetRow w.heap.size (index xs p) e w' ∧ Below w.heap.size w w' := by
  have hq := fun (o o' : Obj) => size_any ((w.alloc o).alloc o') a c xs hm (h.below (((Below.refl _ w).alloc (Nat.le_refl _) o).alloc (by simp) o') (Nat.le_refl _))
  have hr : index xs p = if (size xs).2 = 0 then (if p < 0 ∨ (size xs).1 ≤ p then ([], 62) else (idx xs p, 0)) else ([], (size xs).2) := rfl
  have hbb : ∀ o o', Below w.heap.size w ((w.alloc o).alloc o') := fun o o' => ((Below.refl _ _).alloc (Nat.le_refl _) _).alloc (by simp) _
  unfold maxLen at hm
  unfold two at hq
  rcases size_err xs with he | ⟨n, he⟩
  · rw [he, if_neg (by simp)] at hr
    rw [he] at hq
    have Hq := Lib.hid hq; have Hr := Lib.hid hr; have Hb := Lib.hid hbb; clear hq hr he h hb hbb
    refine calls_marks Try.func69 rfl ?_
    simp only [Try.ntmps69, List.size_toArray, List.length_cons, List.length_nil, Nat.reduceAdd, Nat.reduceSub, Array.replicate_succ, Array.replicate_zero, List.push_toArray, List.append_toArray, List.nil_append, List.cons_append]
    go_wp2_with (go_at_call 60; refine (Hq.out _ _).mono ?_; rintro e w1 ⟨rfl, hb1⟩; obtain ⟨hc1, hf1⟩ := bcell hb1)
    refine bodyPostM_ret (results_tmp2 rfl _ _ _) rfl ?_
    exact ⟨by rw [Hr.out]; exact ⟨_, rfl, RowI.nil _ _⟩, (Hb.out _ _).trans (hb1.mono (by simp; omega))⟩
  · rw [he, if_pos rfl] at hr
    rw [he] at hq hb
    have Hq := Lib.hid hq; have Hr := Lib.hid hr; have Hb := Lib.hid hbb; clear hq hr he h hbb
    by_cases hneg : p < 0
    · clear hb
      refine calls_marks Try.func69 rfl ?_
      simp only [Try.ntmps69, List.size_toArray, List.length_cons, List.length_nil, Nat.reduceAdd, Nat.reduceSub, Array.replicate_succ, Array.replicate_zero, List.push_toArray, List.append_toArray, List.nil_append, List.cons_append]
      go_wp2_with (go_at_call 60; refine (Hq.out _ _).mono ?_; rintro e w1 ⟨rfl, hb1⟩; obtain ⟨hc1, hf1⟩ := bcell hb1)
      refine bodyPostM_ret (results_tmp2 rfl _ _ _) rfl ?_
      exact ⟨by rw [Hr.out, if_pos (Or.inl hneg)]; exact ⟨_, rfl, RowI.nil _ _⟩, (Hb.out _ _).trans (hb1.mono (by simp; omega))⟩
    · have hneg' : decide (p < 0) = false := by simpa using hneg
      have hbig : n ≤ p := by simp at hb; omega
      clear hb
      refine calls_marks Try.func69 rfl ?_
      simp only [Try.ntmps69, List.size_toArray, List.length_cons, List.length_nil, Nat.reduceAdd, Nat.reduceSub, Array.replicate_succ, Array.replicate_zero, List.push_toArray, List.append_toArray, List.nil_append, List.cons_append]
      go_wp2_with (go_at_call 60; refine (Hq.out _ _).mono ?_; rintro e w1 ⟨rfl, hb1⟩; obtain ⟨hc1, hf1⟩ := bcell hb1)
      refine bodyPostM_ret (results_tmp2 rfl _ _ _) rfl ?_
      exact ⟨by rw [Hr.out, if_pos (Or.inr hbig)]; exact ⟨_, rfl, RowI.nil _ _⟩, (Hb.out _ _).trans (hb1.mono (by simp; omega))⟩

theorem back_prefix {n : Nat} {pre : List (Fin n)} {x : Fin n} (h : pre ++ [x] <+: (List.finRange n).reverse) : pre <+: (List.finRange n).reverse ∧ pre.length + x.1 + 1 = n := by
  refine ⟨(List.prefix_append _ _).trans h, ?_⟩
  have h1 := h.getElem (i := pre.length) (by simp)
  have h2 := h.length_le
  simp at h1 h2
  rw [h1]
  simp
  omega

theorem idx_round {xs L : List Int} {p q : Int} {k : Nat} (hk : k < xs.length) (hpos : ∀ x ∈ xs, 0 < x) (hq : q = p / prodL (xs.drop (k + 1))) (hL : L = xs.take (k + 1) ++ idx (xs.drop (k + 1)) p) :
    q / xs[k] = p / prodL (xs.drop k) ∧ L.set k (q % xs[k]) = xs.take k ++ idx (xs.drop k) p := by
  constructor
  · rw [hq, prodL_drop hk, Int.ediv_ediv_of_nonneg (Int.le_of_lt (prodL_pos fun x hx => hpos x (List.mem_of_mem_drop hx)))]
  · rw [hL, idx_drop hk, hq, List.take_succ_eq_append_getElem hk, List.append_assoc, List.set_append_right _ _ (by rw [List.length_take]; omega)]
    simp [Nat.min_eq_left (Nat.le_of_lt hk)]

theorem heap_setCell_row {W : World} {g : Nat} {L : List Int} {t : TypeId} (h : W.heap[g]? = some (.cells (L.map (Value.int .i64)).toArray t (0, 0))) (i : Nat) (v : Int) :
    (W.setCell ⟨g, i, none⟩ (.int .i64 v)).heap[g]? = some (.cells ((L.set i v).map (Value.int .i64)).toArray t (0, 0)) := by
  obtain ⟨hlt, hg⟩ := Array.getElem?_eq_some_iff.1 h
  show (W.heap.modify g _)[g]? = _
  rw [Array.getElem?_eq_getElem (by simpa using hlt), Array.getElem_modify_self, hg]
  simp [List.map_set]

/-- Between two rounds of Index's loop: what lies where. -/
def IdxInv (w : World) (a : Option Addr) (c : Nat) (xs : List Int) (p : Int) (G E : Nat) (pre : List (Fin xs.length)) (W : World) : Prop :=
  ∃ (L : List Int) (q : Int), Boxed W (w.heap.size + 1) 2 (.int .i64 q) ∧ 0 ≤ q ∧ q ≤ 65536 ∧ W.heap[G]? = some (.cells (L.map (Value.int .i64)).toArray 2 (0, 0)) ∧ L.length = xs.length ∧
    Boxed W w.heap.size 22 (.slice a xs.length c) ∧ Boxed W E 22 (.slice (some ⟨G, 0, none⟩) xs.length xs.length) ∧ Below w.heap.size w W ∧
    (pre <+: (List.finRange xs.length).reverse → q = p / prodL (xs.drop (xs.length - pre.length)) ∧ L = xs.take (xs.length - pre.length) ++ idx (xs.drop (xs.length - pre.length)) p)

theorem not_row {W : World} {k : Nat} {row : Option Nat} {cs : Array Value} {t : TypeId} {m : Nat × Nat} (h : W.heap[k]? = some (.cells cs t m)) (hr : ∀ r, row = some r → ∃ o : Obj, W.heap[r]? = some o ∧ o.isCells = false) : some k ≠ row := by
  intro e
  obtain ⟨o, ho, hc⟩ := hr k e.symm
  rw [h] at ho
  cases ho
  cases hc

theorem Boxed.other' {W : World} {B : Nat} {t : TypeId} {v : Value} (h : Boxed W B t v) (p : Addr) (hne : B ≠ p.block) (u : Value) : Boxed (W.setCell p u) B t v :=
  (Below.heap_setCell W p u B hne).trans h

theorem IdxInv.own (w : World) (a : Option Addr) (c : Nat) (xs : List Int) (p : Int) (G E B : Nat) (hB : w.heap.size ≤ B := by simp; omega) : OwnFrom B (IdxInv w a c xs p G E) := by
  rintro pre W W' row ⟨L, q, bP, hq0, hq1, hr, hL, bS, bO, hb, hcond⟩ hg hrow
  have hn := fun r e => (hrow r e).2
  exact ⟨L, q, bP.kept hg (not_row bP hn), hq0, hq1, (hg.block G (Array.getElem?_eq_some_iff.1 hr).1 (not_row hr hn)).trans hr, hL, bS.kept hg (not_row bS hn), bO.kept hg (not_row bO hn),
    hb.grown hg hb.size (fun k e => Nat.le_trans hB (hrow k e).1), hcond⟩

set_option maxRecDepth 100000 in
set_option maxHeartbeats 4000000 in
theorem index_good (w : World) (a : Option Addr) (c : Nat) (xs : List Int) (p : Int) (hm : xs.length ≤ maxLen) (h : IntsAt .i64 w a xs) (n : Int) (he : size xs = (n, 0)) (hp0 : 0 ≤ p) (hp1 : p < n) :
    Calls Try.prog 69 #[.slice a xs.length c, .int .i64 p] w fun e w' => RetRow w.heap.size (idx xs p, 0) e w' ∧ Below w.heap.size w w' := by
  have hq := fun (o o' : Obj) => size_any ((w.alloc o).alloc o') a c xs hm (h.below (((Below.refl _ w).alloc (Nat.le_refl _) o).alloc (by simp) o') (Nat.le_refl _))
  have hbb : ∀ o o', Below w.heap.size w ((w.alloc o).alloc o') := fun o o' => ((Below.refl _ _).alloc (Nat.le_refl _) _).alloc (by simp) _
  have g := size_good he
  have hl4 := g.len
  unfold maxLen at hm
  unfold two at hq
  rw [he] at hq
  have hneg' : decide (p < 0) = false := by simp; omega
  have hpos : ∀ x ∈ xs, 0 < x := fun x hx => by
    have := g.side x hx
    have : x ≠ 0 := fun e => by have := g.zero.2 ⟨x, hx, e⟩; omega
    omega
  have Hpos := Lib.hid hpos; clear hpos
  have HI := Lib.hid h; clear h
  have Hq := Lib.hid hq; have Hb := Lib.hid hbb; clear hq hbb he
  obtain ⟨i0, hi, hz0, hz1, hz2⟩ := info_parts Try.info2
  have Hi := Lib.hid hi; have Hz0 := Lib.hid hz0; have Hz1 := Lib.hid hz1; have Hz2 := Lib.hid hz2; clear hi hz0 hz1 hz2
  refine calls_marks Try.func69 rfl ?_
  simp only [Try.ntmps69, List.size_toArray, List.length_cons, List.length_nil, Nat.reduceAdd, Nat.reduceSub, Array.replicate_succ, Array.replicate_zero, List.push_toArray, List.append_toArray, List.nil_append, List.cons_append]
  go_wp2_with (first
    | (go_at_call 60; refine (Hq.out _ _).mono ?_; rintro e w1 ⟨rfl, hb1⟩; obtain ⟨hc1, hf1⟩ := bcell hb1)
    | (at_make; refine wpList_make_full _ rfl _ _ 22 rfl w.heap.size 2 i0 (.int .i64 0) 1 Try.underlying22 Hi.out Hz0.out Hz1.out _ _ _ _ xs.length rfl rfl rfl rfl ?c2 ?c3 ?c4 ?_))
  case c2 => rw [Hz2.out]; omega
  case c3 => unfold maxLen; omega
  case c4 => have := hb1.size; simp at this; omega
  intro w2 hown hgrow
  have bS0 : Boxed w2 w.heap.size 22 (.slice a xs.length c) := (hgrow.block w.heap.size (by have := hb1.size; simp at this; omega) (by simp)).trans ((hb1.block w.heap.size (by simp; omega)).trans ((Boxed.new w _ _).alloc _))
  have bP0 : Boxed w2 (w.heap.size + 1) 2 (.int .i64 p) := (hgrow.block (w.heap.size + 1) (by have := hb1.size; simp at this; omega) (by simp)).trans ((hb1.block (w.heap.size + 1) (by simp)).trans (by have := Boxed.new (w.alloc (.cells #[.slice a xs.length c] 22)) 2 (.int .i64 p); rwa [World.size_alloc] at this))
  have hB2 : Below w.heap.size w w2 := ((Hb.out _ _).trans (hb1.mono (by simp; omega))).grown hgrow (by have := hb1.size; simp at this; omega) (by simp)
  have hG : w.heap.size + 2 ≤ w1.heap.size := by have := hb1.size; simp at this; omega
  have hG2 : w1.heap.size < w2.heap.size := (hown.lt _ rfl).2
  rw [toList_madeCells_one] at hown
  have hrow : w2.heap[w1.heap.size]? = some (.cells (List.replicate xs.length (Value.int .i64 0)).toArray 2 (0, 0)) := by
    obtain ⟨_, ⟨hv, _⟩ | ⟨g', cap, cur, hv, _, hg, _, _, hcs, ht⟩⟩ := hown
    · cases hv
    · cases hv
      rw [hg]
      congr 2
      rw [List.take_of_length_le (by simp [hcs])] at ht
      rw [← ht]
  clear hown hgrow hb1 hc1 hf1 Hq Hb
  generalize w1.heap.size = G at *
  have hS := fun o => (bS0.alloc o).cell
  have hP := fun o => (bP0.alloc o).cell
  have hrow2 := fun o => (Below.heap_alloc w2 o G hG2).trans hrow
  have Hrow2 := Lib.hid hrow2; clear hrow hrow2
  go_wp2_with (refine wpList_copy_grown rfl _ _ 22 22 rfl 2 Try.underlying22 (by rw [Hi.out, ← Hz1.out]; rfl) _ _ _ _ _ _ rfl rfl G 0 _ 2 (Hrow2.out _) (xs.map (Value.int .i64)) (by simp) (fun h0 => ⟨rfl, IntsAt.src (HI.out.below (hB2.alloc (by omega) _) (Nat.le_refl _)) (by simpa using h0)⟩) (by simp) (oneCell_ints _ _) ?_)
  intro w3 hrow3 hgrow3
  have hsz3 := hgrow3.size
  rw [World.size_alloc] at hsz3
  have bO3 : Boxed w3 w2.heap.size 22 (.slice (some ⟨G, 0, none⟩) xs.length xs.length) := (Boxed.new w2 22 (.slice (some ⟨G, 0, none⟩) xs.length xs.length)).kept hgrow3 (by simp; omega)
  have bS3 : Boxed w3 w.heap.size 22 (.slice a xs.length c) := (bS0.alloc _).kept hgrow3 (by simp; omega)
  have bP3 : Boxed w3 (w.heap.size + 1) 2 (.int .i64 p) := (bP0.alloc _).kept hgrow3 (by simp; omega)
  have hB3 : Below w.heap.size w w3 := (hB2.alloc (by omega) _).grown hgrow3 (by simp; omega) (fun k e => by cases e; omega)
  have hr3 : w3.heap[G]? = some (.cells (xs.map (Value.int .i64)).toArray 2 (0, 0)) := by
    have := hrow3.out; rwa [splice_all _ _ (by simp)] at this
  clear hgrow3 hrow3 Hrow2 bS0 bP0 hB2 hS hP
  generalize w2.heap.size = E at *
  have hS := bS3.cell
  go_wp2_with (go_at_call 89; refine (backward_any a xs.length c _).mono ?_; rintro e w' ⟨rfl, rfl⟩)
  have hbx := Boxed.new w3 22 (.slice a xs.length c)
  refine wpIn_wide.1 (wpIn_rangeFunc_ownG (n := 9) rfl (by omega) (gf := 94) (lb := #[.pointer (some ⟨w3.heap.size, 0, none⟩)]) rfl trivial (fun args w => callFunc_enter Try.func94 (by kernel_rfl) rfl args w)
    (backward_stops w3.heap.size w.heap.size a c xs (by unfold maxLen; omega) _ (by simp; omega) hbx (fun W' hW' => HI.out.below ((hB3.alloc (by omega) _).trans hW') (Nat.le_refl _))) keepAt_t (keepAt_b (by simp; omega) (by simp)) (Below.refl _ _) (fun _ => rfl)
    (IdxInv w a c xs p G E) (fun _ _ _ => False) ?own (fun _ _ _ _ _ hs _ _ => hs) ?start
    (fun x => { tmps := #[Value.slice a xs.length c, Value.int IntKind.i64 p, Value.pointer (some { block := w.heap.size, off := 0 }),
          Value.pointer (some { block := w.heap.size + 1, off := 0 }), Value.slice none 0 0, Value.int IntKind.i64 0,
          Value.int IntKind.i64 n, Value.int IntKind.i64 0, Value.pointer (some { block := E, off := 0 }), Value.int IntKind.i64 (x.1 : Int),
          Value.tuple #[Value.int IntKind.i64 n, Value.int IntKind.i64 0], Value.slice a xs.length c,
          Value.tuple #[Value.int IntKind.i64 n, Value.int IntKind.i64 0], Value.int IntKind.i64 n,
          Value.int IntKind.i64 0, Value.int IntKind.i64 0, Value.bool false, undef, Value.int IntKind.i64 p,
          Value.bool false, Value.bool false, Value.int IntKind.i64 p, Value.int IntKind.i64 n,
          Value.bool (decide (n ≤ p)), Value.bool (decide (n ≤ p)), Value.slice a xs.length c,
          Value.int IntKind.i64 ↑xs.length, Value.slice (some { block := G, off := 0 }) xs.length xs.length,
          Value.slice (some { block := G, off := 0 }) xs.length xs.length, Value.slice a xs.length c,
          Value.int IntKind.i64 ↑xs.length, Value.slice a xs.length c,
          Value.func (Fn.func 94) #[] #[Value.pointer (some { block := w3.heap.size, off := 0 })], Value.int IntKind.i64 (x.1 : Int), Value.int IntKind.i64 (xs[x.1]), undef,
          undef, undef, undef, undef, undef, undef, undef, undef, undef, undef, undef, undef, undef, undef, undef], defers := [] }) ?assign ?body ?done ?stop)
  case own => exact IdxInv.own _ _ _ _ _ _ _ _
  case start =>
    have hg2 := World.grownBy_alloc w3 (.cells #[.slice a xs.length c] 22) none
    exact ⟨xs, p, bP3.alloc _, hp0, by have := g.le; omega, (hg2.block G (by omega) (by simp)).trans hr3, rfl, bS3.alloc _, bO3.alloc _, hB3.alloc (by omega) _, fun _ => ⟨by simp [prodL], by simp [idx]⟩⟩
  case assign =>
    intro l x W K hK
    unfold backEnc
    gi_wp2
    exact hK
  case body =>
    rintro l pre x W ⟨L, q, bP, hq0, hq1, hr, hL, bS, bO, hB, hcond⟩ _
    have Hcond := Lib.hid hcond; clear hcond
    have hxl : x.1 < xs.length := x.2
    obtain ⟨b0, off, rfl, hcell0⟩ := HI.out x.1 x.2
    have hb0 := World.block_lt_of_cell? w _ hcell0
    have hcell := (hB.cell (p := ⟨b0, off + x.1, none⟩) hb0).trans hcell0
    have hx0 : 0 < xs[x.1] := Hpos.out _ (List.getElem_mem _)
    have hq2 : 0 ≤ q / xs[x.1] := Int.ediv_nonneg hq0 (by omega)
    have hq3 : q / xs[x.1] ≤ 65536 := Int.le_trans (Int.ediv_le_self _ hq0) hq1
    have hP := bP.cell
    have hPf := bP.frozen
    have hS := bS.cell
    have hO := bO.cell
    have hGc : W.cell? ⟨G, x.1, none⟩ = some (.int .i64 (L[x.1]'(by omega))) := by rw [cell_of_row W G x.1 _ 2 (0, 0) hr]; simp [hL, hxl]
    have hGf : W.frozen? ⟨G, x.1, none⟩ = false := by simp [World.frozen?, hr]
    have hGP : ∀ v, (W.setCell ⟨G, x.1, none⟩ v).cell? ⟨w.heap.size + 1, 0, none⟩ = some (.int .i64 q) := fun v => (Boxed.other' bP ⟨G, x.1, none⟩ (by simp; omega) v).cell
    have hGE : ∀ v, (W.setCell ⟨G, x.1, none⟩ v).cell? ⟨E, 0, none⟩ = some (.slice (some ⟨G, 0, none⟩) xs.length xs.length) := fun v => (Boxed.other' bO ⟨G, x.1, none⟩ (by simp; omega) v).cell
    have hGS : ∀ v, (W.setCell ⟨G, x.1, none⟩ v).cell? ⟨w.heap.size, 0, none⟩ = some (.slice (some ⟨b0, off, none⟩) xs.length c) := fun v => (Boxed.other' bS ⟨G, x.1, none⟩ (by simp; omega) v).cell
    have hGX : ∀ v, (W.setCell ⟨G, x.1, none⟩ v).cell? ⟨b0, off + x.1, none⟩ = some (.int .i64 xs[x.1]) := fun v => (((Below.refl w.heap.size W).setCell (p := ⟨G, x.1, none⟩) (by simp; omega) v).cell (p := ⟨b0, off + x.1, none⟩) hb0).trans hcell
    have hx00 : ¬ xs[x.1] = 0 := by omega
    have e1 : q.tmod xs[x.1] = q % xs[x.1] := Int.tmod_eq_emod_of_nonneg hq0
    have e2 : IntKind.i64.wrap (q.tdiv xs[x.1]) = q / xs[x.1] := by rw [Int.tdiv_eq_ediv_of_nonneg hq0]; exact IntWalk.i64_in _ (by omega)
    clear hcell0
    gi_wp2
    refine wpIn_region_roundZ (S := fun W' => W'.cell? ⟨E, 0, none⟩ = some (.slice (some ⟨G, 0, none⟩) xs.length xs.length) ∧ W'.cell? ⟨w.heap.size, 0, none⟩ = some (.slice (some ⟨b0, off, none⟩) xs.length c) ∧
      W'.cell? ⟨w.heap.size + 1, 0, none⟩ = some (.int .i64 q) ∧ W'.cell? ⟨b0, off + x.1, none⟩ = some (.int .i64 xs[x.1])) (z := 16) l 7 (by kernel_rfl) (by kernel_rfl) ?out ?_
    case out => rintro ⟨_, _, h⟩; exact h
    have hSS : (fun W' : World => W'.cell? ⟨E, 0, none⟩ = some (.slice (some ⟨G, 0, none⟩) xs.length xs.length) ∧ W'.cell? ⟨w.heap.size, 0, none⟩ = some (.slice (some ⟨b0, off, none⟩) xs.length c) ∧
      W'.cell? ⟨w.heap.size + 1, 0, none⟩ = some (.int .i64 q) ∧ W'.cell? ⟨b0, off + x.1, none⟩ = some (.int .i64 xs[x.1])) W.drew := ⟨hO, hS, hP, hcell⟩
    refine wpAnyZ_take (i := 0) (v := ?_) rfl (by kernel_rfl) (by kernel_rfl) (by kernel_rfl) (fun _ _ _ h => h) (by kernel_rfl) (Or.inl ⟨by rfl, ?_⟩) (by assumption) ?_
    rotate_left
    · intro w' hSw
      try dsimp only at hSw
      try obtain ⟨hSw, hSw2⟩ := hSw
      go_simp
      try with_reducible rfl
    show wpAnyZ _ _ _ _ _ _ _ _ (Act.put _ (some 35) _) _
    simp only [Act.put, List.setIfInBounds_toArray, List.set_cons_zero, List.set_cons_succ]
    refine wpAnyZ_take (i := 1) (v := ?_) rfl (by kernel_rfl) (by kernel_rfl) (by kernel_rfl) (fun _ _ _ h => h) (by kernel_rfl) (Or.inl ⟨by rfl, ?_⟩) (by assumption) ?_
    rotate_left
    · intro w' hSw
      try dsimp only at hSw
      try obtain ⟨hSw, hSw2⟩ := hSw
      go_simp
      try with_reducible rfl
    show wpAnyZ _ _ _ _ _ _ _ _ (Act.put _ (some 36) _) _
    simp only [Act.put, List.setIfInBounds_toArray, List.set_cons_zero, List.set_cons_succ]
    refine wpAnyZ_take (i := 2) (v := ?_) rfl (by kernel_rfl) (by kernel_rfl) (by kernel_rfl) (fun _ _ _ h => h) (by kernel_rfl) (Or.inl ⟨by rfl, ?_⟩) (by assumption) ?_
    rotate_left
    · intro w' hSw
      try dsimp only at hSw
      try obtain ⟨hSw, hSw2⟩ := hSw
      go_simp
      try with_reducible rfl
    show wpAnyZ _ _ _ _ _ _ _ _ (Act.put _ (some 37) _) _
    simp only [Act.put, List.setIfInBounds_toArray, List.set_cons_zero, List.set_cons_succ]
    refine wpAnyZ_take (i := 3) (v := ?_) rfl (by kernel_rfl) (by kernel_rfl) (by kernel_rfl) (fun _ _ _ h => h) (by kernel_rfl) (Or.inl ⟨by rfl, ?_⟩) (by assumption) ?_
    rotate_left
    · intro w' hSw
      try dsimp only at hSw
      try obtain ⟨hSw, hSw2⟩ := hSw
      go_simp
      try with_reducible rfl
    show wpAnyZ _ _ _ _ _ _ _ _ (Act.put _ (some 38) _) _
    simp only [Act.put, List.setIfInBounds_toArray, List.set_cons_zero, List.set_cons_succ]
    refine wpAnyZ_take (i := 4) (v := ?_) rfl (by kernel_rfl) (by kernel_rfl) (by kernel_rfl) (fun _ _ _ h => h) (by kernel_rfl) (Or.inl ⟨by rfl, ?_⟩) (by assumption) ?_
    rotate_left
    · intro w' hSw
      try dsimp only at hSw
      try obtain ⟨hSw, hSw2⟩ := hSw
      go_simp
      try with_reducible rfl
    show wpAnyZ _ _ _ _ _ _ _ _ (Act.put _ (some 39) _) _
    simp only [Act.put, List.setIfInBounds_toArray, List.set_cons_zero, List.set_cons_succ]
    refine wpAnyZ_take (i := 5) (v := ?_) rfl (by kernel_rfl) (by kernel_rfl) (by kernel_rfl) (fun _ _ _ h => h) (by kernel_rfl) (Or.inl ⟨by rfl, ?_⟩) (by assumption) ?_
    rotate_left
    · intro w' hSw
      try dsimp only at hSw
      try obtain ⟨hSw, hSw2⟩ := hSw
      go_simp
      try with_reducible rfl
    show wpAnyZ _ _ _ _ _ _ _ _ (Act.put _ (some 40) _) _
    simp only [Act.put, List.setIfInBounds_toArray, List.set_cons_zero, List.set_cons_succ]
    refine wpAnyZ_take (i := 6) (v := ?_) rfl (by kernel_rfl) (by kernel_rfl) (by kernel_rfl) (fun _ _ _ h => h) (by kernel_rfl) (Or.inl ⟨by rfl, ?_⟩) (by assumption) ?_
    rotate_left
    · intro w' hSw
      try dsimp only at hSw
      try obtain ⟨hSw, hSw2⟩ := hSw
      go_simp
      try with_reducible rfl
    show wpAnyZ _ _ _ _ _ _ _ _ (Act.put _ (some 41) _) _
    simp only [Act.put, List.setIfInBounds_toArray, List.set_cons_zero, List.set_cons_succ]
    refine wpAnyZ_take (i := 7) (v := ?_) rfl (by kernel_rfl) (by kernel_rfl) (by kernel_rfl) (fun _ _ _ h => h) (by kernel_rfl) (Or.inl ⟨by rfl, ?_⟩) (by assumption) ?_
    rotate_left
    · intro w' hSw
      try dsimp only at hSw
      try obtain ⟨hSw, hSw2⟩ := hSw
      go_simp
      try with_reducible rfl
    show wpAnyZ _ _ _ _ _ _ _ _ (Act.put _ (some 42) _) _
    simp only [Act.put, List.setIfInBounds_toArray, List.set_cons_zero, List.set_cons_succ]
    refine wpAnyZ_take (i := 8) (v := ?_) rfl (by kernel_rfl) (by kernel_rfl) (by kernel_rfl) (fun _ _ _ h => h) (by kernel_rfl) (Or.inl ⟨by rfl, ?_⟩) (by assumption) ?_
    rotate_left
    · intro w' hSw
      try dsimp only at hSw
      try obtain ⟨hSw, hSw2⟩ := hSw
      go_simp
      try with_reducible rfl
    show wpAnyZ _ _ _ _ _ _ _ _ (Act.put _ (some 43) _) _
    simp only [Act.put, List.setIfInBounds_toArray, List.set_cons_zero, List.set_cons_succ]
    refine wpAnyZ_take (i := 9) (v := ?_) rfl (by kernel_rfl) (by kernel_rfl) (by kernel_rfl) (fun _ _ _ h => h) (by kernel_rfl) (Or.inl ⟨by rfl, ?_⟩) (by assumption) ?_
    rotate_left
    · intro w' hSw
      try dsimp only at hSw
      try obtain ⟨hSw, hSw2⟩ := hSw
      go_simp
      try with_reducible rfl
    show wpAnyZ _ _ _ _ _ _ _ _ (Act.put _ (some 44) _) _
    simp only [Act.put, List.setIfInBounds_toArray, List.set_cons_zero, List.set_cons_succ]
    refine wpAnyZ_take (i := 10) (v := ?_) rfl (by kernel_rfl) (by kernel_rfl) (by kernel_rfl) (fun _ _ _ h => h) (by kernel_rfl) (Or.inl ⟨by rfl, ?_⟩) (by assumption) ?_
    rotate_left
    · intro w' hSw
      try dsimp only at hSw
      try obtain ⟨hSw, hSw2⟩ := hSw
      go_simp
      try with_reducible rfl
    show wpAnyZ _ _ _ _ _ _ _ _ (Act.put _ (some 45) _) _
    simp only [Act.put, List.setIfInBounds_toArray, List.set_cons_zero, List.set_cons_succ]
    refine wpAnyZ_take (i := 11) (v := ?_) rfl (by kernel_rfl) (by kernel_rfl) (by kernel_rfl) (fun _ _ _ h => h) (by kernel_rfl) (Or.inl ⟨by rfl, ?_⟩) (by assumption) ?_
    rotate_left
    · intro w' hSw
      try dsimp only at hSw
      try obtain ⟨hSw, hSw2⟩ := hSw
      go_simp
      try with_reducible rfl
    show wpAnyZ _ _ _ _ _ _ _ _ (Act.put _ (some 46) _) _
    simp only [Act.put, List.setIfInBounds_toArray, List.set_cons_zero, List.set_cons_succ]
    refine wpAnyZ_take (i := 12) (v := ?_) rfl (by kernel_rfl) (by kernel_rfl) (by kernel_rfl) (fun _ _ _ h => h) (by kernel_rfl) (Or.inl ⟨by rfl, ?_⟩) (by assumption) ?_
    rotate_left
    · intro w' hSw
      try dsimp only at hSw
      try obtain ⟨hSw, hSw2⟩ := hSw
      go_simp
      try with_reducible rfl
    show wpAnyZ _ _ _ _ _ _ _ _ (Act.put _ (some 47) _) _
    simp only [Act.put, List.setIfInBounds_toArray, List.set_cons_zero, List.set_cons_succ]
    refine wpAnyZ_take (i := 13) (v := ?_) rfl (by kernel_rfl) (by kernel_rfl) (by kernel_rfl) (fun _ _ _ h => h) (by kernel_rfl) (Or.inl ⟨by rfl, ?_⟩) (by assumption) ?_
    rotate_left
    · intro w' hSw
      try dsimp only at hSw
      try obtain ⟨hSw, hSw2⟩ := hSw
      go_simp
      try with_reducible rfl
    show wpAnyZ _ _ _ _ _ _ _ _ (Act.put _ (some 48) _) _
    simp only [Act.put, List.setIfInBounds_toArray, List.set_cons_zero, List.set_cons_succ]
    refine wpAnyZ_take (i := 14) (v := ?_) rfl (by kernel_rfl) (by kernel_rfl) (by kernel_rfl) (fun _ _ _ h => h) (by kernel_rfl) (Or.inl ⟨by rfl, ?_⟩) (by assumption) ?_
    rotate_left
    · intro w' hSw
      try dsimp only at hSw
      try obtain ⟨hSw, hSw2⟩ := hSw
      go_simp
      try with_reducible rfl
    show wpAnyZ _ _ _ _ _ _ _ _ (Act.put _ (some 49) _) _
    simp only [Act.put, List.setIfInBounds_toArray, List.set_cons_zero, List.set_cons_succ]
    refine wpAnyZ_one (i := 15) (by kernel_rfl) rfl rfl (fun K hK => ?_)
    go_simp
    refine hK.out _ _ (.inr ⟨hGE _, hGS _, hGP _, hGX _⟩) ?_
    refine wpAnyZ_one (i := 16) (by kernel_rfl) rfl rfl (fun K hK => ?_)
    go_simp
    refine hK.out _ _ (.inl (Nat.le_refl _)) ?_
    refine wpAnyZ_done (by kernel_rfl) ?_ _
    gi_wp2
    refine ⟨(((KeepsOthers.setCell W ⟨G, x.1, none⟩ _).trans (KeepsOthers.setCell _ ⟨w.heap.size + 1, 0, none⟩ _)).trans (KeepsOthers.drew _)).from _, ⟨(((Below.refl w.heap.size W).setCell (p := ⟨G, x.1, none⟩) (by simp; omega) _).setCell (p := ⟨w.heap.size + 1, 0, none⟩) (by simp) _).drew, ?_⟩, L.set x.1 (q % xs[x.1]), q / xs[x.1], ?_⟩
    · exact (Below.heap_setCell _ ⟨w.heap.size + 1, 0, none⟩ _ w3.heap.size (by simp; omega)).trans (Below.heap_setCell _ ⟨G, x.1, none⟩ _ w3.heap.size (by simp; omega))
    refine ⟨Boxed.set _ (Boxed.other' bP ⟨G, x.1, none⟩ (by simp; omega) _), hq2, hq3, ?_, by simp [hL], Boxed.other' (Boxed.other' bS ⟨G, x.1, none⟩ (by simp; omega) _) ⟨w.heap.size + 1, 0, none⟩ (by simp) _, Boxed.other' (Boxed.other' bO ⟨G, x.1, none⟩ (by simp; omega) _) ⟨w.heap.size + 1, 0, none⟩ (by simp; omega) _,
      ((hB.setCell (p := ⟨G, x.1, none⟩) (by simp; omega) _).setCell (p := ⟨w.heap.size + 1, 0, none⟩) (by simp) _).drew, fun hpre => ?_⟩
    · refine (Below.heap_setCell _ ⟨w.heap.size + 1, 0, none⟩ _ G (by simp; omega)).trans ?_
      exact heap_setCell_row hr x.1 _
    · obtain ⟨hp1, hp2⟩ := back_prefix hpre
      obtain ⟨h1, h2⟩ := Hcond.out hp1
      rw [show xs.length - pre.length = x.1 + 1 from by omega] at h1 h2
      rw [show xs.length - (pre ++ [x]).length = x.1 from by simp; omega]
      exact idx_round hxl Hpos.out h1 h2
  case done =>
    rintro D ys W hD rfl ⟨L, q, bP, hq0, hq1, hr, hL, bS, bO, hB, hcond⟩ hK
    obtain ⟨_, hL2⟩ := hcond (List.prefix_refl _)
    have hL3 : L = idx xs p := by simpa using hL2
    clear hL2 hcond hr3
    have hO := bO.cell
    have hLl : L.length = xs.length := hL
    have HL := Lib.hid hL3; clear hL3 hL
    go_wp2
    refine ⟨by simp, .inl ⟨_, _, rfl, run_takeDeferred hK, ?_⟩⟩
    refine ⟨_, results_tmp2 rfl _ _ _, ⟨_, rfl, ?_⟩, hB.trans (belowK_b (w := w) (Nat.le_refl _) W D _ _ (by simp at hD; omega) hK rfl rfl)⟩
    refine ownsRow_putObj ?_ _ hK rfl
    have e := length_idx xs p
    refine ⟨by simp, .inr ⟨G, xs.length, _, congrArg (fun n => Value.slice (some ⟨G, 0, none⟩) n xs.length) e.symm, by omega, hr, Nat.le_of_eq e, by unfold maxLen; omega, by simp [hLl], ?_⟩⟩
    rw [HL.out]
    simp only [Nat.mul_one]
    rw [List.take_of_length_le (by simp)]
  case stop =>
    rintro D c' pre W _ _ h _
    exact h.elim

theorem index_any (w : World) (a : Option Addr) (c : Nat) (xs : List Int) (p : Int) (hm : xs.length ≤ maxLen) (h : IntsAt .i64 w a xs) :
    Calls Try.prog 69 #[.slice a xs.length c, .int .i64 p] w fun e w' => RetRow w.heap.size (index xs p) e w' ∧ Below w.heap.size w w' := by
  by_cases hb : (size xs).2 ≠ 0 ∨ p < 0 ∨ (size xs).1 ≤ p
  · exact index_bad w a c xs p hm h hb
  · have h1 : (size xs).2 = 0 := by omega
    have he : size xs = ((size xs).1, 0) := by rw [← h1]
    have hr : index xs p = (idx xs p, 0) := by unfold index; rw [if_pos h1, if_neg (by omega)]
    rw [hr]
    exact index_good w a c xs p hm h _ he (by omega) (by omega)
end Go.Proofs.Ytmjkncmpanhgjaa

namespace Go.Proofs.Ytmjkncmpanhgjaa
set_option linter.unusedVariables false
set_option linter.unusedSimpArgs false
set_option maxRecDepth 100000
open Go.RowKit

theorem eqlNil (w : World) (a : Option Addr) (l c : Nat) : (binOp .eql 22 (.slice a l c) (.slice none 0 0)).run Try.prog w = .ok (.bool a.isNone) w := Lib.run_eql_slice_nil w 22 2 a l c 0 0 Try.underlying22

set_option maxHeartbeats 1000000 in
theorem clone_any (w : World) (a : Option Addr) (c : Nat) (xs : List Int) (hm : xs.length ≤ 17592186044416) (h : IntsAt .i64 w a xs) :
    Calls Try.prog 35 #[.slice a xs.length c] w fun e w' => (∃ v, e = .returned v ∧ RowI w.heap.size w' v xs) ∧ Below w.heap.size w w' := by
  obtain ⟨i0, hi, hz0, hz1, hz2⟩ := info_parts Try.info2
  cases a with
  | none =>
    have hx : xs = [] := by
      cases xs with
      | nil => rfl
      | cons x xs => obtain ⟨b, off, e, _⟩ := h 0 (by simp); cases e
    subst hx
    clear h hm hi hz0 hz1 hz2
    have hn := eqlNil w none 0 c
    go_enter Try.func35, Try.ntmps35
    go_wp2
    go_ret
    exact ⟨⟨_, rfl, RowI.nil _ _⟩, Below.refl _ _⟩
  | some ad =>
    have Hi := Lib.hid hi; have Hz0 := Lib.hid hz0; have Hz1 := Lib.hid hz1; have Hz2 := Lib.hid hz2; clear hi hz0 hz1 hz2
    have hsrc : ∀ j v, (xs.map (Value.int .i64))[j]? = some v → w.cell? (ad.add j) = some v := by
      by_cases h0 : 0 < xs.length
      · obtain ⟨ad', e, hs⟩ := h.src h0
        cases e; exact hs
      · have : xs = [] := by cases xs <;> simp_all
        subst this; simp
    have Hs := Lib.hid hsrc; clear hsrc h
    have hn := eqlNil w (some ad) xs.length c
    go_enter Try.func35, Try.ntmps35
    go_wp2_with (at_builtin; (refine wpList_append_own _ rfl _ _ 22 rfl w.heap.size 2 i0 (.int .i64 0) 1 8 Try.underlying22 Hi.out Hz0.out Hz1.out Hz2.out rfl (by decide) _ 0 [] rfl (World.ownsRow_made w #[] 0 (Nat.le_refl _) (Nat.zero_le _) rfl) ad xs.length c (xs.map (Value.int .i64)) rfl (by simp) (fun j v hj => (World.cell?_alloc_lt _ _ _ (World.block_lt_of_cell? w _ (Hs.out j v hj))).trans (Hs.out j v hj)) (oneCell_ints _ _) (by unfold maxLen; omega) (by omega) (by simp) ?_))
    intro v' w1 hown hgrow _
    have HO := Lib.hid hown; have HG := Lib.hid hgrow; clear hown hgrow
    go_wp2
    go_ret
    refine ⟨⟨_, rfl, HO.out⟩, ?_⟩
    exact ((Below.refl w.heap.size w).alloc (Nat.le_refl _) _).grown HG.out (by simp) (fun k e => by cases e; exact Nat.le_refl _)

theorem clone_n (w : World) (a : Option Addr) (n c : Nat) (xs : List Int) (hn : n = xs.length) (hm : xs.length ≤ 17592186044416) (h : IntsAt .i64 w a xs) :
    Calls Try.prog 35 #[.slice a n c] w fun e w' => (∃ v, e = .returned v ∧ RowI w.heap.size w' v xs) ∧ Below w.heap.size w w' := by
  subst hn; exact clone_any w a c xs hm h

/-- the part at place k of the first side -/
def cell (s d : List Int) (k : Int) : (List Int × List Int) × Int :=
  if right s d then
    match s with
    | [] => (([], []), 62)
    | x :: r => if k < 0 ∨ x ≤ k then (([], []), 62) else ((r, (d.drop (k * (d.length / x)).toNat).take (d.length / x : Int).toNat), 0)
  else (([], []), 60)

theorem RowI.mono {B B' : Nat} {w : World} {v : Value} {xs : List Int} (h : RowI B w v xs) (hB : B' ≤ B) : RowI B' w v xs := by
  obtain ⟨h1, h2 | ⟨g, cap, cur, hv, hb, r⟩⟩ := h
  · exact ⟨h1, .inl h2⟩
  · exact ⟨h1, .inr ⟨g, cap, cur, hv, Nat.le_trans hB hb, r⟩⟩
theorem RowI.lt {B : Nat} {w : World} {v : Value} {xs : List Int} (h : RowI B w v xs) : ∀ k, v.ownBlock = some k → B ≤ k ∧ k < w.heap.size := World.ownsRow.lt h

theorem Apart.of_rows {B : Nat} {w w' : World} {v u : Value} {xs ys : List Int} (h : RowI B w v xs) (h2 : RowI w.heap.size w' u ys) : Apart v u := by
  unfold Apart
  cases hv : v.ownBlock with
  | none => exact .inl rfl
  | some k => exact .inr fun e => by have := (h.lt k hv).2; have := (h2.lt k e.symm).1; omega
theorem Apart.symm {v u : Value} (h : Apart v u) : Apart u v := by
  unfold Apart at *
  rcases h with h | h
  · cases hu : u.ownBlock with
    | none => exact .inl rfl
    | some k => exact .inr (by rw [h]; simp)
  · exact .inr (Ne.symm h)

theorem grownBy_setCellA (W : World) (p : Addr) (u : Value) : W.grownBy (W.setCell p u) (some p.block) :=
  ⟨rfl, rfl, rfl, by simp [World.setCell], fun k _ hk => Below.heap_setCell W p u k (fun e => hk (by rw [e]))⟩
theorem RowI.setCell_lt {B : Nat} {w : World} {v : Value} {xs : List Int} (h : RowI B w v xs) {p : Addr} (hp : p.block < B) (u : Value) : RowI B (w.setCell p u) v xs :=
  h.kept (grownBy_setCellA w p u) (by
    cases hv : v.ownBlock with
    | none => exact .inl rfl
    | some k => exact .inr fun e => by have := (h.lt k hv).1; cases e; omega)
end Go.Proofs.Ytmjkncmpanhgjaa

-- DROPS
namespace Go.Proofs.Ytmjkncmpanhgjaa
set_option linter.unusedVariables false
set_option linter.unusedSimpArgs false
set_option maxRecDepth 100000
open Go.RowKit

theorem right_good {s d : List Int} (h : right s d = true) : size s = ((d.length : Int), 0) ∧ Good s d.length := by
  unfold right at h
  simp only [Bool.and_eq_true, beq_iff_eq] at h
  have e : size s = ((d.length : Int), 0) := by rw [← h.1, ← h.2]
  exact ⟨e, size_good e⟩

end Go.Proofs.Ytmjkncmpanhgjaa

-- DROPS
namespace Go.Proofs.Ytmjkncmpanhgjaa
set_option linter.unusedVariables false
set_option linter.unusedSimpArgs false
set_option maxRecDepth 100000
open Go.RowKit

/-- what Cell cuts out lies within the numbers -/
theorem cell_bd {n x k : Int} (h0 : 0 ≤ k) (h1 : k < x) (hn : 0 ≤ n) : 0 ≤ n / x ∧ 0 ≤ k * (n / x) ∧ k * (n / x) + n / x ≤ n ∧ n / x ≤ n := by
  have a : 0 ≤ n / x := Int.ediv_nonneg hn (by omega)
  have b : 0 ≤ k * (n / x) := Int.mul_nonneg h0 a
  have c : x * (n / x) ≤ n := Int.mul_ediv_self_le (by omega)
  have d : (k + 1) * (n / x) ≤ x * (n / x) := Int.mul_le_mul_of_nonneg_right (by omega) a
  rw [Int.add_mul] at d
  exact ⟨a, b, by omega, by omega⟩

end Go.Proofs.Ytmjkncmpanhgjaa
