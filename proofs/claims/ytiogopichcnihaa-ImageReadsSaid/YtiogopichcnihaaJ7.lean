import Derived.Test.YtiogopichcnihaaJ6
import Derived.Test.YtiogopichcnihaaRnd
namespace Go.Proofs.Ytiogopichcnihaa
set_option maxRecDepth 100000
open Go.RowKit
set_option linter.unusedVariables false
set_option linter.unusedSimpArgs false

/-! image.slots, windrowref20.slotBytes. -/
/-- numbers that have bytes -/
def Pos (x : Int) : Prop := 0 ≤ x ∧ x ≤ 9223372036854775807
def SloPos (s : Slo) : Prop := Pos s.pos ∧ s.sides.length ≤ 4 ∧ ∀ x ∈ s.sides, Pos x
theorem numI_len {x : Int} (h : Pos x) : (numI x).length ≤ 9 := numB_len9 (by unfold Pos at h; omega)
theorem flat_len {α : Type} {e : α → List Int} {n : Nat} : ∀ {l : List α}, (∀ x ∈ l, (e x).length ≤ n) → (l.flatMap e).length ≤ n * l.length
  | [], _ => by simp
  | x :: l, h => by
    have h1 := h x (by simp)
    have h2 := flat_len (l := l) fun y hy => h y (by simp [hy])
    simp only [List.flatMap_cons, List.length_append, List.length_cons, Nat.mul_succ]
    omega
theorem slotB_len {s : Slo} (h : SloPos s) : (slotB s).length ≤ 54 := by
  have h1 := numI_len h.1
  have h2 := numI_len (x := s.sides.length) (by have := h.2.1; unfold Pos; omega)
  have h3 := flat_len (e := numI) (n := 9) (l := s.sides) (fun x hx => numI_len (h.2.2 x hx))
  have := h.2.1
  unfold slotB
  simp only [List.length_append]
  omega
theorem flat_take {α : Type} {e : α → List Int} {l : List α} {k : Nat} (h : k < l.length) : (l.take (k + 1)).flatMap e = (l.take k).flatMap e ++ e l[k] := by
  rw [List.take_succ_eq_append_getElem h, List.flatMap_append]; simp
theorem toNat_pos {x : Int} (h : Pos x) : ((x.toNat : Nat) : Int) = x := by unfold Pos at h; omega
/-- number, in numbers as they lie -/
theorem numberI (w : World) (B : Nat) (v : Value) (xs : List Int) (n : Int) (hn : Pos n) (h : RowU B w v xs) (hB : B ≤ w.heap.size) (hl : xs.length ≤ 1099511627776) :
    Calls Try.prog 17 #[v, .int .i64 n] w fun e w' => ∃ v', e = .returned v' ∧ RowU B w' v' (xs ++ numI n) ∧ Grew w v w' v' := by
  have := number_any w B v xs n.toNat (by unfold Pos at hn; omega) h hB hl
  rw [toNat_pos hn] at this
  exact this
theorem rnumberI (w : World) (B : Nat) (v : Value) (xs : List Int) (n : Int) (hn : Pos n) (h : RowU B w v xs) (hB : B ≤ w.heap.size) (hl : xs.length ≤ 1099511627776) :
    Calls Try.prog 22 #[v, .int .i64 n] w fun e w' => ∃ v', e = .returned v' ∧ RowU B w' v' (xs ++ numI n) ∧ Grew w v w' v' := by
  have := rnumber_any w B v xs n.toNat (by unfold Pos at hn; omega) h hB hl
  rw [toNat_pos hn] at this
  exact this
/-- where a row has grown: what was there before B is there -/
theorem Grew.keep {B : Nat} {w0 w w' : World} {v v' : Value} {xs : List Int} (h : Grew w v w' v') (hr : RowU B w v xs) (h0 : Below B w0 w) (hB : B ≤ w.heap.size) : Below B w0 w' := h0.trans (h.toBelow hB hr.ge)
theorem Grew.block {w w' : World} {v v' : Value} (h : Grew w v w' v') {G : Nat} {o : Obj} (hg : w.heap[G]? = some o) (hne : ∀ g, v.ownBlock = some g → g ≠ G) : w'.heap[G]? = some o := block_grown hg h.grown (fun e => hne G e rfl)
theorem Grew.ne {w w' : World} {v v' : Value} (h : Grew w v w' v') {G : Nat} (hG : G < w.heap.size) (hne : ∀ g, v.ownBlock = some g → g ≠ G) : ∀ g, v'.ownBlock = some g → g ≠ G := fun g e => by
  rcases h.newer with e1 | ⟨q, e1, hq⟩
  · exact hne g (e1 ▸ e)
  · rw [e1] at e; cases e; omega
theorem Grew.ofDrew {w w' : World} {v v' : Value} (h : Grew w.drew v w' v') : Grew w v w' v' := ⟨⟨h.grown.os, h.grown.tape, h.grown.output, h.grown.size, h.grown.block⟩, h.newer⟩
theorem keepCellB {B : Nat} {w0 W : World} (hb : Below B w0 W) (hB : w0.heap.size ≤ B) {p : Addr} {v : Value} (h : w0.cell? p = some v) : W.cell? p = some v := keepCell (hb.mono hB) h
/-- a row lies in blocks that there are -/
theorem RowU.lt {B : Nat} {w : World} {v : Value} {xs : List Int} (h : RowU B w v xs) : ∀ g, v.ownBlock = some g → g < w.heap.size := fun g e => (World.ownsRow.lt h g e).2

set_option maxHeartbeats 8000000 in
theorem slots_any (w : World) (B : Nat) (v : Value) (xs : List Int) (w0 : World) (a : Option Addr) (cap : Nat) (l : List Slo) (he : slotRep.Els w0 a l) (hw0 : Below B w0 w) (hB0 : w0.heap.size ≤ B) (hll : l.length ≤ 64) (hp : ∀ s ∈ l, SloPos s)
    (h : RowU B w v xs) (hB : B ≤ w.heap.size) (hl : xs.length ≤ 549755813888) :
    Calls Try.prog 18 #[v, .slice a l.length cap] w fun e w' => ∃ v', e = .returned v' ∧ RowU B w' v' (xs ++ slotsB l) ∧ Grew w v w' v' := by
  have HR := Lib.hid h; have HE := Lib.hid he; have HW := Lib.hid hw0; have HP := Lib.hid hp
  have hq := Lib.hid (numberI w B v xs (l.length : Int) (by unfold Pos; omega) h hB (by omega))
  clear h he hw0 hp
  have hn9 := numI_len (x := (l.length : Int)) (by unfold Pos; omega)
  go_enter Try.func18, Try.ntmps18
  go_wp2_with fail
  refine hq.out.mono ?_
  rintro e w1 ⟨v1, rfl, hr1, hg1⟩
  have HR1 := Lib.hid hr1; have HG1 := Lib.hid hg1
  clear hr1 hg1 hq
  go_wp2_with fail
  go_loopw [0, 15] (fun b i wr => ∃ k : Nat, k ≤ l.length ∧ i = .int .i64 k ∧ RowU B wr b (xs ++ numI l.length ++ (l.take k).flatMap slotB) ∧ Grew w v wr b) (fun _ i _ => l.length - (intOf i).toNat)
  case atStart => exact ⟨0, Nat.zero_le _, rfl, by simpa using HR1.out, HG1.out⟩
  case round =>
    obtain ⟨k, hk, rfl, hrow, hg⟩ := hrel
    by_cases hlt : k < l.length
    · have hst := flat_take (e := slotB) hlt
      have hfl := flat_len (e := slotB) (n := 54) (l := l.take k) (fun x hx => slotB_len (HP.out x (List.mem_of_mem_take hx)))
      have hlen : (xs ++ numI l.length ++ (l.take k).flatMap slotB).length ≤ 549755813888 + 4000 := by
        simp only [List.length_append]
        rw [List.length_take] at hfl
        have : 54 * min k l.length ≤ 54 * 64 := Nat.mul_le_mul_left _ (by omega)
        omega
      obtain ⟨zs, hz⟩ : ∃ zs, xs ++ numI l.length ++ (l.take k).flatMap slotB = zs := ⟨_, rfl⟩
      rw [hz] at hrow hlen
      have hnext : xs ++ numI l.length ++ (l.take (k + 1)).flatMap slotB = zs ++ slotB l[k] := by rw [hst, ← List.append_assoc, hz]
      have hbw : Below B w0 wr := hg.keep HR.out HW.out hB
      obtain ⟨b, off, pa, pc, rfl, hpo, hsl, hspc, hsi, x0', x1'⟩ := els_slot HE.out hlt
      have x0 := keepCellB hbw hB0 x0'; have x1 := keepCellB hbw hB0 x1'
      clear x0' x1'
      have hps := HP.out l[k] (List.getElem_mem hlt)
      generalize l[k] = s at hnext hpo hsl hspc hsi x0 x1 hps
      obtain ⟨pos, sides⟩ := s
      dsimp only at hpo hsl hspc hsi x0 x1
      have hsz := hg.grown.size
      have HROW := Lib.hid hrow; have HG := Lib.hid hg; have HNX := Lib.hid hnext; have HSI := Lib.hid hsi; have HPS := Lib.hid hps
      have hk0 : (0 : Int) ≤ (k : Int) := by omega
      have hk1 : (k : Int) < (l.length : Int) := by omega
      clear hrow hg hnext hst hfl hz hbw hsi hps hpo
      go_wp2_with fail
      obtain ⟨G, hG⟩ : ∃ G, wr.heap.size = G := ⟨_, rfl⟩
      rw [hG]
      refine gen_worldA (fun W => W.heap[G]? = some (.cells #[.int .i64 pos, .slice pa sides.length pc] 41 (0, 0)) ∧ RowU B W u0 zs ∧ Grew w v W u0 ∧ (∀ g, u0.ownBlock = some g → g ≠ G) ∧ w.heap.size ≤ W.heap.size)
        ⟨hG ▸ World.alloc_heap_new _ _, HROW.out.below ((Below.refl _ _).alloc (Nat.le_refl _) _), HG.out.below ((Below.refl _ _).alloc (Nat.le_refl _) _), (fun g e => by have := HROW.out.lt g e; omega), by simp; omega⟩ ?_
      clear HROW HG hG x0 x1 hsz
      rintro W ⟨hM, hrow, hg, hlt2, hsz⟩
      have HROW := Lib.hid hrow; have HG := Lib.hid hg; have HLT := Lib.hid hlt2; have HM := Lib.hid hM
      clear hrow hg hlt2 hM
      refine wp_region_Z (S := fun W' => W'.cell? ⟨G, 0, none⟩ = some (.int .i64 pos) ∧ W'.cell? ⟨G, 1, none⟩ = some (.slice pa sides.length pc)) (z := 9) (by kernel_rfl) ?_
      have hSS : (fun W' : World => W'.cell? ⟨G, 0, none⟩ = some (.int .i64 pos) ∧ W'.cell? ⟨G, 1, none⟩ = some (.slice pa sides.length pc)) W.drew := ⟨cell_of_row W G 0 _ _ _ HM.out, cell_of_row W G 1 _ _ _ HM.out⟩
      refine wpAnyZ_take (i := 0) (v := ?_) rfl (by kernel_rfl) (by kernel_rfl) (by kernel_rfl) (fun _ _ _ h => h) (by kernel_rfl) (Or.inl ⟨by rfl, ?_⟩) (by assumption) ?_
      rotate_left
      · intro w' hSw
        try dsimp only at hSw
        try obtain ⟨hSw, hSw2⟩ := hSw
        go_simp
        try with_reducible rfl
      show wpAnyZ _ _ _ _ _ _ _ _ (Act.put _ (some 19) _) _
      simp only [Act.put, List.setIfInBounds_toArray, List.set_cons_zero, List.set_cons_succ]
      refine wpAnyZ_take (i := 1) (v := ?_) rfl (by kernel_rfl) (by kernel_rfl) (by kernel_rfl) (fun _ _ _ h => h) (by kernel_rfl) (Or.inl ⟨by rfl, ?_⟩) (by assumption) ?_
      rotate_left
      · intro w' hSw
        try dsimp only at hSw
        try obtain ⟨hSw, hSw2⟩ := hSw
        go_simp
        try with_reducible rfl
      show wpAnyZ _ _ _ _ _ _ _ _ (Act.put _ (some 20) _) _
      simp only [Act.put, List.setIfInBounds_toArray, List.set_cons_zero, List.set_cons_succ]
      refine wpAnyZ_take (i := 2) (v := ?_) rfl (by kernel_rfl) (by kernel_rfl) (by kernel_rfl) (fun _ _ _ h => h) (by kernel_rfl) (Or.inl ⟨by rfl, ?_⟩) (by assumption) ?_
      rotate_left
      · intro w' hSw
        try dsimp only at hSw
        try obtain ⟨hSw, hSw2⟩ := hSw
        go_simp
        try with_reducible rfl
      show wpAnyZ _ _ _ _ _ _ _ _ (Act.put _ (some 21) _) _
      simp only [Act.put, List.setIfInBounds_toArray, List.set_cons_zero, List.set_cons_succ]
      refine wpAnyZ_take (i := 4) (v := ?_) rfl (by kernel_rfl) (by kernel_rfl) (by kernel_rfl) (fun _ _ _ h => h) (by kernel_rfl) (Or.inl ⟨by rfl, ?_⟩) (by assumption) ?_
      rotate_left
      · intro w' hSw
        try dsimp only at hSw
        try obtain ⟨hSw, hSw2⟩ := hSw
        go_simp
        try with_reducible rfl
      show wpAnyZ _ _ _ _ _ _ _ _ (Act.put _ (some 23) _) _
      simp only [Act.put, List.setIfInBounds_toArray, List.set_cons_zero, List.set_cons_succ]
      refine wpAnyZ_take (i := 5) (v := ?_) rfl (by kernel_rfl) (by kernel_rfl) (by kernel_rfl) (fun _ _ _ h => h) (by kernel_rfl) (Or.inl ⟨by rfl, ?_⟩) (by assumption) ?_
      rotate_left
      · intro w' hSw
        try dsimp only at hSw
        try obtain ⟨hSw, hSw2⟩ := hSw
        go_simp
        try with_reducible rfl
      show wpAnyZ _ _ _ _ _ _ _ _ (Act.put _ (some 24) _) _
      simp only [Act.put, List.setIfInBounds_toArray, List.set_cons_zero, List.set_cons_succ]
      refine wpAnyZ_take (i := 6) (v := ?_) rfl (by kernel_rfl) (by kernel_rfl) (by kernel_rfl) (fun _ _ _ h => h) (by kernel_rfl) (Or.inl ⟨by rfl, ?_⟩) (by assumption) ?_
      rotate_left
      · intro w' hSw
        try dsimp only at hSw
        try obtain ⟨hSw, hSw2⟩ := hSw
        go_simp
        try with_reducible rfl
      show wpAnyZ _ _ _ _ _ _ _ _ (Act.put _ (some 25) _) _
      simp only [Act.put, List.setIfInBounds_toArray, List.set_cons_zero, List.set_cons_succ]
      clear hSS
      refine wpAnyZ_one (i := 3) (by kernel_rfl) rfl rfl (fun K hK => ?_)
      go_simp
      refine (numberI W.drew B u0 zs pos HPS.out.1 HROW.out (Nat.le_trans hB hsz) (by omega)).mono ?_
      rintro e w2 ⟨v2, rfl, hr2, hg2⟩
      have hg2 := hg2.ofDrew
      have hM2 := hg2.block HM.out HLT.out
      have hl2 : (numI pos).length ≤ 9 := numI_len HPS.out.1
      have hs2 := hg2.grown.size
      show K _ w2
      refine hK.out _ _ (.inr ⟨cell_of_row w2 G 0 _ _ _ hM2, cell_of_row w2 G 1 _ _ _ hM2⟩) ?_
      clear hK
      have HR2 := Lib.hid hr2; have HG2 := Lib.hid hg2; have HM2 := Lib.hid hM2
      clear hr2 hg2 hM2
      refine wpAnyZ_one (i := 7) (by kernel_rfl) rfl rfl (fun K hK => ?_)
      go_simp
      refine (numberI w2 B v2 (zs ++ numI pos) sides.length (by have := HPS.out.2.1; unfold Pos; dsimp only at this; omega) HR2.out (by omega) (by simp only [List.length_append]; omega)).mono ?_
      rintro e w3 ⟨v3, rfl, hr3, hg3⟩
      have hs3 := hg3.grown.size
      have hM3 := hg3.block HM2.out (HG2.out.ne (Array.getElem?_eq_some_iff.1 HM.out).1 HLT.out)
      have hne3 := hg3.ne (Array.getElem?_eq_some_iff.1 HM2.out).1 (HG2.out.ne (Array.getElem?_eq_some_iff.1 HM.out).1 HLT.out)
      show K _ w3
      refine hK.out _ _ (.inr ⟨cell_of_row w3 G 0 _ _ _ hM3, cell_of_row w3 G 1 _ _ _ hM3⟩) ?_
      clear hK
      have hl3 : (numI (sides.length : Int)).length ≤ 9 := numI_len (by have := HPS.out.2.1; unfold Pos; dsimp only at this; omega)
      have hgg := (HG.out.trans HG2.out).trans hg3
      have m1 := cell_of_row w3 G 1 _ _ _ hM3
      have HR3 := Lib.hid hr3; have HG3 := Lib.hid hgg; have HM3 := Lib.hid hM3; have HNE3 := Lib.hid hne3
      clear hr3 hg3 hM3 hne3 hgg HG HG2 HM HM2 HLT HR2 HROW
      refine wpAnyZ_one (i := 8) (by kernel_rfl) rfl rfl (fun K hK => ?_)
      go_simp
      refine hK.out _ _ (.inr ⟨cell_of_row w3 G 0 _ _ _ HM3.out, m1⟩) ?_
      clear hK
      refine wpAnyZ_done (by kernel_rfl) ?_ _
      have hlen3 : (zs ++ numI pos ++ numI (sides.length : Int)).length ≤ 549755813888 + 4018 := by simp only [List.length_append] at hlen ⊢; omega
      have hsl4 : sides.length ≤ 4 := HPS.out.2.1
      obtain ⟨z3, hz3⟩ : ∃ z3, zs ++ numI pos ++ numI (sides.length : Int) = z3 := ⟨_, rfl⟩
      rw [hz3] at hlen3 HR3
      have hnx3 := HNX.out
      rw [show zs ++ slotB ⟨pos, sides⟩ = z3 ++ sides.flatMap numI by rw [← hz3]; unfold slotB; simp] at hnx3
      have HNX3 := Lib.hid hnx3
      clear HNX hnx3 hz3 hl2 hl3
      go_wp2_with fail
      go_loopw [0, 30] (fun b i wx => ∃ j : Nat, j ≤ sides.length ∧ i = .int .i64 j ∧ RowU B wx b (z3 ++ (sides.take j).flatMap numI) ∧ Grew w v wx b) (fun _ i _ => sides.length - (intOf i).toNat)
      case atStart => exact ⟨0, Nat.zero_le _, rfl, by simpa using HR3.out, HG3.out⟩
      case round =>
        obtain ⟨j, hj, rfl, hrow, hg⟩ := hrel
        by_cases hjl : j < sides.length
        · have hst := flat_take (e := numI) hjl
          have hfl := flat_len (e := numI) (n := 9) (l := sides.take j) (fun x hx => numI_len (HPS.out.2.2 x (List.mem_of_mem_take hx)))
          have hlenj : (z3 ++ (sides.take j).flatMap numI).length ≤ 549755813888 + 5000 := by
            simp only [List.length_append]
            rw [List.length_take] at hfl
            omega
          have hbw : Below B w0 wr := hg.keep HR.out HW.out hB
          obtain ⟨b2, off2, rfl, y0⟩ := (HSI.out.below hbw hB0) j hjl
          have hpx := HPS.out.2.2 sides[j] (List.getElem_mem hjl)
          obtain ⟨x, hx⟩ : ∃ x, sides[j] = x := ⟨_, rfl⟩
          rw [hx] at y0 hpx hst
          have hsz := hg.grown.size
          have hqq := numberI wr B u0 _ x hpx hrow (by omega) (by omega)
          rw [List.append_assoc, ← hst] at hqq
          have HQQ := Lib.hid hqq; have HG := Lib.hid hg
          have hk0 : (0 : Int) ≤ (j : Int) := by omega
          have hk1 : (j : Int) < (sides.length : Int) := by omega
          clear hqq hg hst hfl hlenj hrow hpx hx hbw
          go_wp2_with fail
          refine HQQ.out.mono ?_
          rintro e w5 ⟨v5, rfl, hr5, hg5⟩
          have HR5 := Lib.hid hr5; have HG5 := Lib.hid (HG.out.trans hg5)
          clear hr5 hg5
          go_wp2_with fail
          go_roundw
          case rel => exact ⟨j + 1, by omega, by go_num, HR5.out, HG5.out⟩
          case measure => simp [intOf] <;> omega
        · obtain rfl : j = sides.length := by omega
          rw [List.take_length] at hrow
          have HROW := Lib.hid hrow; have HG := Lib.hid hg
          clear hrow hg
          go_wp2_with fail
          go_roundw
          case rel => exact ⟨k + 1, by omega, by go_num, by rw [HNX3.out]; exact HROW.out, HG.out⟩
          case measure => simp [intOf] <;> omega
    · obtain rfl : k = l.length := by omega
      rw [List.take_length] at hrow
      have HROW := Lib.hid hrow; have HG := Lib.hid hg
      clear hrow hg
      go_wp2_with fail
      go_ret
      exact ⟨_, rfl, by unfold slotsB; rw [← List.append_assoc]; exact HROW.out, HG.out⟩

set_option maxHeartbeats 8000000 in
theorem rslotB_any (w : World) (B : Nat) (v : Value) (xs : List Int) (w0 : World) (a : Option Addr) (cap : Nat) (l : List Slo) (he : slotRep.Els w0 a l) (hw0 : Below B w0 w) (hB0 : w0.heap.size ≤ B) (hll : l.length ≤ 64) (hp : ∀ s ∈ l, SloPos s)
    (h : RowU B w v xs) (hB : B ≤ w.heap.size) (hl : xs.length ≤ 549755813888) :
    Calls Try.prog 23 #[v, .slice a l.length cap] w fun e w' => ∃ v', e = .returned v' ∧ RowU B w' v' (xs ++ slotsB l) ∧ Grew w v w' v' := by
  have HR := Lib.hid h; have HE := Lib.hid he; have HW := Lib.hid hw0; have HP := Lib.hid hp
  have hq := Lib.hid (rnumberI w B v xs (l.length : Int) (by unfold Pos; omega) h hB (by omega))
  clear h he hw0 hp
  have hn9 := numI_len (x := (l.length : Int)) (by unfold Pos; omega)
  go_enter Try.func23, Try.ntmps23
  go_wp2_with fail
  refine hq.out.mono ?_
  rintro e w1 ⟨v1, rfl, hr1, hg1⟩
  have HR1 := Lib.hid hr1; have HG1 := Lib.hid hg1
  clear hr1 hg1 hq
  go_wp2_with fail
  go_loopw [0, 5] (fun b i wr => ∃ k : Nat, k ≤ l.length ∧ i = .int .i64 k ∧ RowU B wr b (xs ++ numI l.length ++ (l.take k).flatMap slotB) ∧ Grew w v wr b) (fun _ i _ => l.length - (intOf i).toNat)
  case atStart => exact ⟨0, Nat.zero_le _, rfl, by simpa using HR1.out, HG1.out⟩
  case round =>
    obtain ⟨k, hk, rfl, hrow, hg⟩ := hrel
    by_cases hlt : k < l.length
    · have hst := flat_take (e := slotB) hlt
      have hfl := flat_len (e := slotB) (n := 54) (l := l.take k) (fun x hx => slotB_len (HP.out x (List.mem_of_mem_take hx)))
      have hlen : (xs ++ numI l.length ++ (l.take k).flatMap slotB).length ≤ 549755813888 + 4000 := by
        simp only [List.length_append]
        rw [List.length_take] at hfl
        have : 54 * min k l.length ≤ 54 * 64 := Nat.mul_le_mul_left _ (by omega)
        omega
      obtain ⟨zs, hz⟩ : ∃ zs, xs ++ numI l.length ++ (l.take k).flatMap slotB = zs := ⟨_, rfl⟩
      rw [hz] at hrow hlen
      have hnext : xs ++ numI l.length ++ (l.take (k + 1)).flatMap slotB = zs ++ slotB l[k] := by rw [hst, ← List.append_assoc, hz]
      have hbw : Below B w0 wr := hg.keep HR.out HW.out hB
      obtain ⟨b, off, pa, pc, rfl, hpo, hsl, hspc, hsi, x0', x1'⟩ := els_slot HE.out hlt
      have x0 := keepCellB hbw hB0 x0'; have x1 := keepCellB hbw hB0 x1'
      have hps := HP.out l[k] (List.getElem_mem hlt)
      generalize l[k] = s at hnext hpo hsl hspc hsi x0 x1 x0' x1' hps
      obtain ⟨pos, sides⟩ := s
      dsimp only at hpo hsl hspc hsi x0 x1 x0' x1'
      have hsz := hg.grown.size
      have HG := Lib.hid hg; have HNX := Lib.hid hnext; have HSI := Lib.hid hsi; have HPS := Lib.hid hps; have HX1 := Lib.hid x1'
      have hk0 : (0 : Int) ≤ (k : Int) := by omega
      have hk1 : (k : Int) < (l.length : Int) := by omega
      have hl2 : (numI pos).length ≤ 9 := numI_len HPS.out.1
      have hsl4 : sides.length ≤ 4 := HPS.out.2.1
      have hl3 : (numI (sides.length : Int)).length ≤ 9 := numI_len (by unfold Pos; omega)
      have h2 := rnumberI wr B u0 zs pos hps.1 hrow (by omega) (by omega)
      have H2 := Lib.hid h2
      clear hrow hg hnext hst hfl hz hbw hsi hps hpo h2 x0' x1'
      go_wp2_with fail
      refine H2.out.mono ?_
      rintro e w2 ⟨v2, rfl, hr2, hg2⟩
      have hbw2 : Below B w0 w2 := (HG.out.trans hg2).keep HR.out HW.out hB
      have y1 := keepCellB hbw2 hB0 HX1.out
      have hs2 := hg2.grown.size
      have h3 := rnumberI w2 B v2 (zs ++ numI pos) sides.length (by unfold Pos; omega) hr2 (by omega) (by simp only [List.length_append]; omega)
      have H3 := Lib.hid h3; have HG2 := Lib.hid (HG.out.trans hg2)
      clear hr2 hg2 hbw2 h3 H2 x0 x1
      go_wp2_with fail
      refine H3.out.mono ?_
      rintro e w3 ⟨v3, rfl, hr3, hg3⟩
      have HR3 := Lib.hid hr3; have HG3 := Lib.hid (HG2.out.trans hg3)
      clear hr3 hg3 H3 HG2 y1
      have hlen3 : (zs ++ numI pos ++ numI (sides.length : Int)).length ≤ 549755813888 + 4018 := by simp only [List.length_append] at hlen ⊢; omega
      obtain ⟨z3, hz3⟩ : ∃ z3, zs ++ numI pos ++ numI (sides.length : Int) = z3 := ⟨_, rfl⟩
      rw [hz3] at hlen3 HR3
      have hnx3 := HNX.out
      rw [show zs ++ slotB ⟨pos, sides⟩ = z3 ++ sides.flatMap numI by rw [← hz3]; unfold slotB; simp] at hnx3
      have HNX3 := Lib.hid hnx3
      clear HNX hnx3 hz3 hl2 hl3
      go_wp2_with fail
      go_loopw [0, 6] (fun b i wx => ∃ j : Nat, j ≤ sides.length ∧ i = .int .i64 j ∧ RowU B wx b (z3 ++ (sides.take j).flatMap numI) ∧ Grew w v wx b) (fun _ i _ => sides.length - (intOf i).toNat)
      case atStart => exact ⟨0, Nat.zero_le _, rfl, by simpa using HR3.out, HG3.out⟩
      case round =>
        obtain ⟨j, hj, rfl, hrow, hg⟩ := hrel
        have hbw : Below B w0 wr := hg.keep HR.out HW.out hB
        have z1 := keepCellB hbw hB0 HX1.out
        by_cases hjl : j < sides.length
        · have hst := flat_take (e := numI) hjl
          have hfl := flat_len (e := numI) (n := 9) (l := sides.take j) (fun x hx => numI_len (HPS.out.2.2 x (List.mem_of_mem_take hx)))
          have hlenj : (z3 ++ (sides.take j).flatMap numI).length ≤ 549755813888 + 5000 := by
            simp only [List.length_append]
            rw [List.length_take] at hfl
            omega
          obtain ⟨b2, off2, rfl, y0⟩ := (HSI.out.below hbw hB0) j hjl
          have hpx := HPS.out.2.2 sides[j] (List.getElem_mem hjl)
          obtain ⟨x, hx⟩ : ∃ x, sides[j] = x := ⟨_, rfl⟩
          rw [hx] at y0 hpx hst
          have hsz := hg.grown.size
          have hqq := rnumberI wr B u0 _ x hpx hrow (by omega) (by omega)
          rw [List.append_assoc, ← hst] at hqq
          have HQQ := Lib.hid hqq; have HG := Lib.hid hg
          have hj0 : (0 : Int) ≤ (j : Int) := by omega
          have hj1 : (j : Int) < (sides.length : Int) := by omega
          clear hqq hg hst hfl hlenj hrow hpx hx hbw
          go_wp2_with fail
          refine HQQ.out.mono ?_
          rintro e w5 ⟨v5, rfl, hr5, hg5⟩
          have HR5 := Lib.hid hr5; have HG5 := Lib.hid (HG.out.trans hg5)
          clear hr5 hg5
          go_wp2_with fail
          go_roundw
          case rel => exact ⟨j + 1, by omega, by go_num, HR5.out, HG5.out⟩
          case measure => simp [intOf] <;> omega
        · obtain rfl : j = sides.length := by omega
          rw [List.take_length] at hrow
          have HROW := Lib.hid hrow; have HG := Lib.hid hg
          clear hrow hg hbw
          go_wp2_with fail
          go_roundw
          case rel => exact ⟨k + 1, by omega, by go_num, by rw [HNX3.out]; exact HROW.out, HG.out⟩
          case measure => simp [intOf] <;> omega
    · obtain rfl : k = l.length := by omega
      rw [List.take_length] at hrow
      have HROW := Lib.hid hrow; have HG := Lib.hid hg
      clear hrow hg
      go_wp2_with fail
      go_ret
      exact ⟨_, rfl, by unfold slotsB; rw [← List.append_assoc]; exact HROW.out, HG.out⟩
end Go.Proofs.Ytiogopichcnihaa
