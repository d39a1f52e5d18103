import Derived.Test.YtiogopichcnihaaJM
namespace Go.Proofs.Ytiogopichcnihaa
set_option maxRecDepth 100000
open Go.RowKit
set_option linter.unusedVariables false
set_option linter.unusedSimpArgs false

/-! The reference's reader: slots. -/
/-- the inner rounds of one slot -/
structure SlR (w0 wb wx : World) (R G : Nat) (pos : Int) (vs : Value) (sacc r : List Int) (b : Bool) : Prop where
  rd : Rr w0 wx R r b
  g : wx.heap[G]? = some (.cells #[.int .i64 pos, vs] 41 (0, 0))
  row : RowI wb.heap.size wx vs sacc
  kb : KB (fun g => g = R ∨ g = G) wb wx
  base : w0.heap.size ≤ wb.heap.size
  gnew : w0.heap.size ≤ G
theorem SlR.ne {w0 wb wx : World} {R G : Nat} {pos : Int} {vs : Value} {sacc r : List Int} {b : Bool} (h : SlR w0 wb wx R G pos vs sacc r b) : R ≠ G := by
  intro e
  subst e
  obtain ⟨a, c, hr, _⟩ := h.rd.row
  have := hr.symm.trans h.g
  cases this
/-- behind one number more -/
theorem SlR.next {w0 wb wx w5 : World} {R G : Nat} {pos : Int} {vs : Value} {sacc r r5 : List Int} {b b5 : Bool} (h : SlR w0 wb wx R G pos vs sacc r b) (hk : KB (fun g => g = R) wx.drew w5) (hrd : Rr w0 w5 R r5 b5) : SlR w0 wb w5 R G pos vs sacc r5 b5 := by
  have hk' : KB (fun g => g = R) wx w5 := hk.ofDrew
  exact ⟨hrd, (hk'.block G (Array.getElem?_eq_some_iff.1 h.g).1 (fun e => h.ne e.symm)).trans h.g, own_keep h.row (h.rd.keepTy hk' (by decide)), h.kb.trans (hk'.weak fun g e => .inl e), h.base, h.gnew⟩
/-- behind the growing of the sides: the slot's block as it is, and as it is behind the store -/
theorem SlR.app {w0 wb w5 w6 : World} {R G : Nat} {pos : Int} {vs v6 : Value} {sacc r : List Int} {x : Int} {o : Obj} {b : Bool} (h : SlR w0 wb w5 R G pos vs sacc r b)
    (hown : w6.ownsRow wb.heap.size 2 1 v6 (sacc.length + 1) (sacc.map (Value.int .i64) ++ [.int .i64 x])) (hgr : (w5.alloc o).grownBy w6 vs.ownBlock) :
    w6.heap[G]? = some (.cells #[.int .i64 pos, vs] 41 (0, 0)) ∧ SlR w0 wb (w6.setCell ⟨G, 1, none⟩ v6) R G pos v6 (sacc ++ [x]) r b := by
  have hvB : ∀ g, vs.ownBlock = some g → wb.heap.size ≤ g := fun g e => (World.ownsRow.lt h.row g e).1
  have hG : w6.heap[G]? = some (.cells #[.int .i64 pos, vs] 41 (0, 0)) := block_grown (block_alloc h.g o) hgr (fun e => by
    obtain ⟨cur, hc⟩ := own_typed h.row e
    have := hc.symm.trans h.g
    cases this)
  have hR : w6.heap[R]? = w5.heap[R]? := by
    obtain ⟨a, c, hr, _⟩ := h.rd.row
    rw [hr]
    exact block_grown (block_alloc hr o) hgr (fun e => by
      obtain ⟨cur, hc⟩ := own_typed h.row e
      have := hc.symm.trans hr
      cases this)
  have hrow : RowI wb.heap.size w6 v6 (sacc ++ [x]) := by
    unfold RowI
    rw [List.length_append, List.map_append]
    exact hown
  have hb6 : Below w0.heap.size w0 w6 := (h.rd.below.alloc h.rd.below.size o).grown hgr (by have := h.rd.below.size; simp; omega) (fun g e => by
    have h1 := hvB g e
    have h2 := h.base
    omega)
  have hkb : KB (fun g => g = R ∨ g = G) wb (w6.setCell ⟨G, 1, none⟩ v6) := ((h.kb.alloc o).grown hgr (fun k e hk => by have := hvB k e; omega)).setCell (p := ⟨G, 1, none⟩) (fun _ => .inr rfl) _
  refine ⟨hG, h.rd.next (hb6.setCell (p := ⟨G, 1, none⟩) h.gnew _) ?_, ?_, own_keep hrow (KeepTy.setCell (p := ⟨G, 1, none⟩) (NotTy.of hG (by decide)) _), hkb, h.base, h.gnew⟩
  · exact (Below.heap_setCell _ _ _ _ (fun e => h.ne e)).trans hR
  · rw [heap_setCell_same w6 G 1 _ _ _ hG]; rfl
/-- behind a slot's sides -/
def slCont (q : Nat) (acc : List Slo) (pos : Int) (o : Option (List Int × List Int)) : Option (List Slo × List Int) := match o with
  | none => none
  | some (ss, r) => manyA slotP q (acc ++ [⟨pos, ss⟩]) r
theorem slot_stage {q v1 v2 : Nat} {acc : List Slo} {r r1 r2 : List Int} {b1 b2 : Bool} {res : Option (List Slo × List Int)} (hr : Byts r1) (hm : manyA slotP (q + 1) acc r = res)
    (h1 : ∀ n r0, numP 2097152 r = some (n, r0) → n = (v1 : Int) ∧ r0 = r1 ∧ b1 = false) (h1n : numP 2097152 r = none → b1 = true)
    (h2 : ∀ n r0, numP 4 r1 = some (n, r0) → n = (v2 : Int) ∧ r0 = r2 ∧ b2 = b1) (h2n : numP 4 r1 = none → b2 = true) (h2b : b1 = true → b2 = true) :
    (b2 = false → v2 ≤ 4 ∧ slCont q acc (v1 : Int) (manyA (numP 65536) v2 [] r2) = res) ∧ (b2 = true → res = none) := by
  rw [manyA] at hm
  cases hn : numP 2097152 r with
  | none =>
    rw [slotP_1 hn] at hm
    have hb := h2b (h1n hn)
    exact ⟨(fun e => by rw [hb] at e; cases e), fun _ => hm.symm⟩
  | some nr =>
    obtain ⟨n, r0⟩ := nr
    obtain ⟨rfl, rfl, hb1⟩ := h1 n r0 hn
    cases hn2 : numP 4 r0 with
    | none =>
      rw [slotP_2 hn hn2] at hm
      have hb := h2n hn2
      exact ⟨(fun e => by rw [hb] at e; cases e), fun _ => hm.symm⟩
    | some nr =>
      obtain ⟨n2, r02⟩ := nr
      obtain ⟨rfl, rfl, hb2⟩ := h2 n2 r02 hn2
      obtain ⟨-, -, hle⟩ := numP_back hr hn2
      rw [slotP_3 hn hn2] at hm
      rw [hb1] at hb2
      refine ⟨fun _ => ⟨by omega, ?_⟩, (fun e => by rw [hb2] at e; cases e)⟩
      rw [← hm]
      unfold slCont
      cases manyA (numP 65536) v2 [] r02 with
      | none => rfl
      | some sr => rfl
theorem side_stage {q j v5 : Nat} {acc : List Slo} {pos : Int} {sacc r r5 : List Int} {b5 : Bool} {res : Option (List Slo × List Int)} (hm : slCont q acc pos (manyA (numP 65536) (j + 1) sacc r) = res)
    (h : ∀ n r0, numP 65536 r = some (n, r0) → n = (v5 : Int) ∧ r0 = r5 ∧ b5 = false) (hn : numP 65536 r = none → b5 = true) :
    (b5 = false → slCont q acc pos (manyA (numP 65536) j (sacc ++ [(v5 : Int)]) r5) = res) ∧ (b5 = true → res = none) := by
  rw [manyA] at hm
  cases hn2 : numP 65536 r with
  | none =>
    rw [hn2] at hm
    have hb := hn hn2
    exact ⟨(fun e => by rw [hb] at e; cases e), fun _ => hm.symm⟩
  | some nr =>
    obtain ⟨n, r0⟩ := nr
    obtain ⟨rfl, rfl, hb1⟩ := h n r0 hn2
    rw [hn2] at hm
    exact ⟨fun _ => hm, (fun e => by rw [hb1] at e; cases e)⟩
/-- where the one flag is set, so is the other -/
def Mono2 (b0 b : Bool) : Prop := b0 = true → b = true
theorem Mono2.of {b0 : Bool} (h : Mono2 b0 false) (b : Bool) : Mono2 b0 b := fun e => by have := h e; cases this
/-- what slots tells -/
def SlotsR (w0 w : World) (R : Nat) (b0 : Bool) (res : Option (List Slo × List Int)) (e : Ending) (w' : World) : Prop :=
  KB (fun g => g = R) w w' ∧ ∃ v xs r b, e = .returned v ∧ OwnSl w.heap.size w' v xs ∧ xs.length ≤ 64 ∧ Rr w0 w' R r b ∧ (b = false → res = some (xs, r)) ∧ (b = true → b0 = true ∨ res = none) ∧ Mono2 b0 b
theorem sl_one {B : Nat} {w : World} {v : Value} {xs : List Int} {x : Int} (h : RowI B w v xs) : ∀ u ∈ [Value.int .i64 x, v], u.oneCell' = true := fun u hu => by
  simp at hu
  rcases hu with rfl | rfl
  · rfl
  · exact own_cell1 h
set_option maxHeartbeats 8000000 in
theorem rrslots_any (w0 w : World) (R : Nat) (l : List Int) (b0 : Bool) (h : Rr w0 w R l b0) :
    Calls Try.prog 42 #[.pointer (some ⟨R, 0, none⟩), .int .i64 64] w (SlotsR w0 w R b0 (slotsP 64 l)) := by
  have hq := numr_any w0 w R l b0 64 h
  have hbd := fun n r hh => (@numP_back 64 n l r h.byts hh).2
  obtain ⟨res, hres⟩ : ∃ res, slotsP 64 l = res := ⟨_, rfl⟩
  have hres' : (match numP 64 l with | none => none | some (n, r) => manyA slotP n.toNat [] r) = res := hres
  rw [hres]
  obtain ⟨i0, hi, hz0, hz1, hz2⟩ := info_parts Try.infoSlot
  have Hi := Lib.hid hi; have Hz0 := Lib.hid hz0; have Hz1 := Lib.hid hz1; have Hz2 := Lib.hid hz2
  obtain ⟨j0, hj, hy0, hy1, hy2⟩ := info_parts Try.info2
  have Hj := Lib.hid hj; have Hy0 := Lib.hid hy0; have Hy1 := Lib.hid hy1; have Hy2 := Lib.hid hy2
  have H := Lib.hid h; have HWB := Lib.hid h.below.size; have HRES := Lib.hid hres'; have HBD := Lib.hid hbd; have HQ := Lib.hid hq
  clear hi hz0 hz1 hz2 hj hy0 hy1 hy2 h hres hres' hbd hq
  go_enter Try.func42, Try.ntmps42
  go_wp2_with fail
  refine HQ.out.mono ?_
  rintro e w1 ⟨hk1, N, r1, b1, rfl, hN, hrd1, hs1, hn1, hb1⟩
  have hst : (b1 = false → N ≤ 64 ∧ manyA slotP N [] r1 = res) ∧ (b1 = true → b0 = true ∨ res = none) := by
    have hr := HRES.out
    cases hp : numP 64 l with
    | none =>
      rw [hp] at hr
      have := hn1 hp
      exact ⟨(fun e => by rw [this] at e; cases e), fun _ => .inr hr.symm⟩
    | some nr =>
      obtain ⟨n, r⟩ := nr
      obtain ⟨rfl, rfl, hb⟩ := hs1 n r hp
      rw [hp] at hr
      refine ⟨fun _ => ⟨?_, by simpa using hr⟩, fun e => .inl (by rw [← hb, e])⟩
      have := (HBD.out _ _ hp).2
      omega
  have HMO := Lib.hid (show Mono2 b0 b1 from hb1); have HST := Lib.hid hst; have HK1 := Lib.hid hk1; have HRD1 := Lib.hid hrd1
  clear hs1 hn1 hb1 hst hk1 hrd1 HQ HRES HBD
  go_wp2_with fail
  go_loopw [5, 6] (fun v i wr => ∃ (q : Nat) (acc : List Slo) (r : List Int) (b : Bool), i = .int .i64 q ∧ q ≤ 9223372036854775807 ∧ acc.length ≤ 64 ∧ (b = false → acc.length + q ≤ 64 ∧ manyA slotP q acc r = res) ∧ (b = true → b0 = true ∨ res = none) ∧ Mono2 b0 b ∧ OwnSl w.heap.size wr v acc ∧ Rr w0 wr R r b ∧ KB (fun g => g = R) w wr) (fun _ i _ => (intOf i).toNat)
  case atStart => exact ⟨N, [], r1, b1, rfl, hN, by simp, (fun e => by have := HST.out.1 e; exact ⟨by simpa using this.1, this.2⟩), HST.out.2, HMO.out, OwnSl.nil _ _, HRD1.out, HK1.out⟩
  case round =>
    clear HST HRD1 HK1 HMO
    obtain ⟨q, acc, r, b, rfl, hq, hal, hmf, hmt, hmo, hown, hrd, hkb⟩ := hrel
    have x1 := hrd.c1
    by_cases hgo : 0 < q ∧ b = false
    · obtain ⟨hq0, rfl⟩ := hgo
      obtain ⟨q, rfl⟩ : ∃ p, q = p + 1 := ⟨q - 1, by omega⟩
      obtain ⟨hacc, hm⟩ := hmf rfl
      have hqI : (0 : Int) < ((q + 1 : Nat) : Int) := by omega
      have hq1 := numr_any w0 wr R r false 2097152 hrd
      have HO := Lib.hid hown; have HRD := Lib.hid hrd; have HKB := Lib.hid hkb; have HM := Lib.hid hm; have HQ := Lib.hid hq1
      have hwl := hkb.size
      have HMO := Lib.hid hmo
      clear hown hrd hkb hmf hmt hm hq1 hmo
      go_wp2_with fail
      refine HQ.out.mono ?_
      rintro e w2 ⟨hk2, v1, r1, b1, rfl, hv1, hrd2, hs1, hn1, -⟩
      have hty1 := HRD.out.keepTy hk2 (t := 41) (by decide); have hty2 := HRD.out.keepTy hk2 (t := 2) (by decide)
      have HO2 := Lib.hid (HO.out.keep hty1 hty2); have HK2 := Lib.hid (HKB.out.trans hk2)
      have hs2 := hk2.size
      have hrd3 : Rr w0 (w2.alloc (.cells #[.int .i64 (v1 : Int), .slice none 0 0] 41)) R r1 b1 := hrd2.next (hrd2.below.alloc hrd2.below.size _) (Below.heap_alloc _ _ _ hrd2.lt)
      have hq3 := numr_any w0 _ R r1 b1 4 hrd3
      have HRD3 := Lib.hid hrd3; have HB1 := Lib.hid hrd2.byts; have HS1 := Lib.hid hs1; have HN1 := Lib.hid hn1; have HQ3 := Lib.hid hq3
      have HRDL := Lib.hid hrd2.lt; have HRW := Lib.hid hrd2.below.size
      have HOL := Lib.hid (show ∀ g, u5.ownBlock = some g → g < w2.heap.size from fun g e => by obtain ⟨cs, h1, _⟩ := HO2.out; exact (World.ownsRow.lt h1 g e).2)
      clear hk2 hrd2 hty1 hty2 HO HKB HQ HRD hrd3 hq3 hs1 hn1 x1
      obtain ⟨G, hG⟩ : ∃ G, w2.heap.size = G := ⟨_, rfl⟩
      rw [hG] at HOL
      go_wp2_with fail
      refine HQ3.out.mono ?_
      rintro e w3 ⟨hk3, v2, r2, b2, rfl, hv2, hrd3, hs2', hn2, hb2⟩
      have hst := slot_stage HB1.out HM.out HS1.out HN1.out hs2' hn2 hb2
      have hGR : R ≠ G := fun e => by have := hrd3.lt; have := HRD3.out.lt; simp at this; have := HRDL.out; omega
      have hg3 : w3.heap[G]? = some (.cells #[.int .i64 (v1 : Int), .slice none 0 0] 41 (0, 0)) := (hk3.block G (by simp; omega) (fun e => hGR e.symm)).trans (hG ▸ World.alloc_heap_new _ _)
      have hty : ∀ {t : TypeId}, 71 ≠ t → KeepTy t w2 w3 := fun hne => (KeepTy.below ((Below.refl _ _).alloc (Nat.le_refl _) _)).trans (HRD3.out.keepTy hk3 hne)
      have HO3 := Lib.hid (HO2.out.keep (hty (by decide)) (hty (by decide))); have HK3 := Lib.hid ((HK2.out.alloc (.cells #[.int .i64 (v1 : Int), .slice none 0 0] 41)).trans hk3)
      have hsz3 := hk3.size
      simp only [World.size_alloc] at hsz3
      rw [hG] at hsz3
      have HT1 := Lib.hid (hrd3.ty (t := 41) (by decide)); have HT2 := Lib.hid (hrd3.ty (t := 2) (by decide)); have HT3 := Lib.hid (NotTy.of hg3 (show 41 ≠ 2 by decide))
      have HS0 := Lib.hid (SlR.mk (wb := w3) hrd3 hg3 (RowI.nil _ _) (KB.refl _ _) hrd3.below.size (by have := HRW.out; omega))
      have HSTG := Lib.hid hst
      have hG2 : w.heap.size ≤ G := by have := HK2.out.size; omega
      clear hk3 hrd3 hg3 hst hs2' hn2 hb2 HRD3 HO2 HK2 hty HRDL HRW hG HB1 HM HS1 HN1 HQ3
      go_wp2_with fail
      go_loopw [8] (fun i wx => ∃ (p : Nat) (vs : Value) (sacc r : List Int) (b : Bool), i = .int .i64 p ∧ p ≤ 9223372036854775807 ∧ sacc.length ≤ 4 ∧ (b = false → sacc.length + p ≤ 4 ∧ slCont q acc (v1 : Int) (manyA (numP 65536) p sacc r) = res) ∧ (b = true → res = none) ∧ SlR w0 w3 wx R G (v1 : Int) vs sacc r b) (fun i _ => (intOf i).toNat)
      case atStart => exact ⟨v2, _, [], r2, b2, rfl, hv2, by simp, (fun e => by have := HSTG.out.1 e; exact ⟨by simpa using this.1, this.2⟩), HSTG.out.2, HS0.out⟩
      case round =>
        clear HSTG HS0
        obtain ⟨p, vs, sacc, rx, b, rfl, hp, hsl, hmf, hmt, hs⟩ := hrel
        have x1 := hs.rd.c1
        by_cases hgo : 0 < p ∧ b = false
        · obtain ⟨hp0, rfl⟩ := hgo
          obtain ⟨p, rfl⟩ : ∃ z, p = z + 1 := ⟨p - 1, by omega⟩
          obtain ⟨hsacc, hm⟩ := hmf rfl
          have g1 := cell_of_row wr G 1 _ _ _ hs.g
          have HS := Lib.hid hs; have HM := Lib.hid hm
          have hq5 := numr_any w0 wr.drew R rx false 65536 (hs.rd.next hs.rd.below.drew rfl)
          have hpI : (0 : Int) < ((p + 1 : Nat) : Int) := by omega
          clear hs hmf hmt hm
          go_wp2_with fail
          refine wp_region_Z (S := fun W' => W'.cell? ⟨G, 1, none⟩ = some vs) (z := 7) (by kernel_rfl) ?_
          have hSS : (fun W' : World => W'.cell? ⟨G, 1, none⟩ = some vs) wr.drew := g1
          refine wpAnyZ_take (i := 0) (v := ?_) rfl (by kernel_rfl) (by kernel_rfl) (by kernel_rfl) (fun _ _ _ h => h) (by kernel_rfl) (Or.inl ⟨by rfl, ?_⟩) (by assumption) ?_
          rotate_left
          · intro w' hSw
            try dsimp only at hSw
            try obtain ⟨hSw, hSw2⟩ := hSw
            go_simp
            try with_reducible rfl
          show wpAnyZ _ _ _ _ _ _ _ _ (Act.put _ (some 39) _) _
          simp only [Act.put, List.setIfInBounds_toArray, List.set_cons_zero, List.set_cons_succ]
          refine wpAnyZ_take (i := 1) (v := ?_) rfl (by kernel_rfl) (by kernel_rfl) (by kernel_rfl) (fun _ _ _ h => h) (by kernel_rfl) (Or.inl ⟨by rfl, ?_⟩) (by assumption) ?_
          rotate_left
          · intro w' hSw
            try dsimp only at hSw
            try obtain ⟨hSw, hSw2⟩ := hSw
            go_simp
            try with_reducible rfl
          show wpAnyZ _ _ _ _ _ _ _ _ (Act.put _ (some 40) _) _
          simp only [Act.put, List.setIfInBounds_toArray, List.set_cons_zero, List.set_cons_succ]
          refine wpAnyZ_take (i := 2) (v := ?_) rfl (by kernel_rfl) (by kernel_rfl) (by kernel_rfl) (fun _ _ _ h => h) (by kernel_rfl) (Or.inl ⟨by rfl, ?_⟩) (by assumption) ?_
          rotate_left
          · intro w' hSw
            try dsimp only at hSw
            try obtain ⟨hSw, hSw2⟩ := hSw
            go_simp
            try with_reducible rfl
          show wpAnyZ _ _ _ _ _ _ _ _ (Act.put _ (some 41) _) _
          simp only [Act.put, List.setIfInBounds_toArray, List.set_cons_zero, List.set_cons_succ]
          clear hSS g1 x1
          refine wpAnyZ_one (i := 3) (by kernel_rfl) rfl rfl (fun K hK => ?_)
          go_simp
          refine hq5.mono ?_
          rintro e w5 ⟨hk5, v5, r5, b5, rfl, hv5, hrd5, hs5, hn5, -⟩
          have hst := Lib.hid (side_stage HM.out hs5 hn5)
          have HIN5 := Lib.hid (HS.out.next hk5 hrd5)
          clear hq5 hs5 hn5 HM
          show K _ w5
          refine hK.out _ _ (.inr (cell_of_row w5 G 1 _ _ _ HIN5.out.g)) ?_
          clear hK hk5 hrd5 HS
          refine wpAnyZ_one (i := 4) (by kernel_rfl) rfl rfl (fun K hK => ?_)
          go_simp
          refine hK.out _ _ (.inr (keepCell ((Below.refl _ _).alloc (Nat.le_refl _) _) (cell_of_row w5 G 1 _ _ _ HIN5.out.g))) ?_
          clear hK
          refine wpAnyZ_one (i := 5) (by kernel_rfl) rfl rfl (fun K hK => ?_)
          have hst5 : w3.heap.size ≤ w5.heap.size := HIN5.out.kb.size
          refine wp_append_src _ (.tmp 40) (.tmp 43) 22 rfl w3.heap.size 2 j0 _ 1 8 Try.underlying22 Hj.out Hy0.out Hy1.out Hy2.out rfl (by decide) vs sacc.length _ rfl (World.ownsRow.alloc HIN5.out.row _) _ 1 [.int .i64 (v5 : Int)] rfl (src_lit1 _ _ _ _ _ _ rfl rfl) rfl (by intro u hu; cases List.mem_singleton.1 hu; rfl) (by unfold maxLen; omega) (by omega) (by simp; omega) ?_
          intro v6 w6 hown hgr hnw
          obtain ⟨a6, c6, rfl⟩ : ∃ a c, v6 = .slice a (sacc.length + 1) c := by
            obtain ⟨-, ⟨e, h0⟩ | ⟨g, cap, cur, e, _⟩⟩ := hown
            · omega
            · exact ⟨_, _, e⟩
          have HIN6 := Lib.hid (HIN5.out.app hown hgr)
          refine hK.out _ _ (.inr (cell_of_row w6 G 1 _ _ _ HIN6.out.1)) ?_
          clear hK hown hgr hnw HIN5
          refine wpAnyZ_one (i := 6) (by kernel_rfl) rfl rfl (fun K hK => ?_)
          go_simp
          refine hK.out _ _ (.inr (cell_of_row w6 G 1 _ _ _ HIN6.out.1)) ?_
          clear hK
          refine wpAnyZ_one (i := 7) (by kernel_rfl) rfl rfl (fun K hK => ?_)
          have f1 := frozen_of_row w6 G 1 _ _ HIN6.out.1; have g1 := cell_of_row w6 G 1 _ _ _ HIN6.out.1
          go_simp
          refine hK.out _ _ (.inl (Nat.le_refl _)) ?_
          clear hK f1 g1
          refine wpAnyZ_done (by kernel_rfl) ?_ _
          go_wp2_with fail
          go_roundw
          case rel => exact ⟨p, _, sacc ++ [(v5 : Int)], r5, b5, by go_num, by omega, by simp; omega, (fun e => ⟨by simp; omega, hst.out.1 e⟩), hst.out.2, HIN6.out.2⟩
          case measure => simp [intOf] <;> omega
        · have hst : (b = false → manyA slotP q (acc ++ [⟨(v1 : Int), sacc⟩]) rx = res) ∧ (b = true → res = none) := by
            refine ⟨fun e => ?_, hmt⟩
            obtain ⟨-, h1⟩ := hmf e
            obtain rfl : p = 0 := by
              by_cases h0 : 0 < p
              · exact absurd ⟨h0, e⟩ hgo
              · omega
            exact h1
          have HST := Lib.hid hst
          have hO := HO3.out.keep2 hs.kb (fun g e => by have := HOL.out g e; omega) HT1.out HT2.out HT3.out
          obtain ⟨cs, ho1, ho2⟩ := hO
          have HO1 := Lib.hid ho1; have HO2 := Lib.hid ho2; have HS := Lib.hid hs; have HGG := Lib.hid hs.g
          have hsz := hs.kb.size
          by_cases hp0 : 0 < p
          · obtain rfl : b = true := by
              cases b with
              | true => rfl
              | false => exact absurd ⟨hp0, rfl⟩ hgo
            have hpI : (0 : Int) < (p : Int) := by omega
            have hno := Lib.hid (show b0 = true ∨ res = none from .inr (hmt rfl))
            clear ho1 ho2 hs hmf hmt hst hgo HO3 HT1 HT2 HT3 HST
            go_wp2_with (first | ((with_reducible show wpList _ _ _ ({ dst := some _, op := Op.load 41 (.tmp 7), type := _, pos := _, after := _, guard := _ } :: _) _ _); (refine wpList_loadW (by rfl) 41 _ rfl G rfl _ _ (0, 0) _ HGG.out Try.underlying41 rfl (by kernel_rfl) ?_)) | (at_builtin; (refine wpList_append_src _ rfl _ _ 23 rfl w.heap.size 41 i0 _ 2 32 Try.underlying23 Hi.out Hz0.out Hz1.out Hz2.out rfl (by decide) _ acc.length cs rfl (World.ownsRow.alloc HO1.out _) _ 1 [.int .i64 (v1 : Int), vs] rfl (src_lit1 _ _ _ _ _ _ rfl rfl) rfl ?h1 (by unfold maxLen; omega) (by omega) (by simp; omega) ?_)))
            case h1 => exact sl_one HS.out.row
            intro v4 w4 hown hgr hnw
            have hO4 := OwnSl.push (pos := (v1 : Int)) (o := .cells #[.int .i64 (v1 : Int), vs] 41) HO1.out HO2.out (own_mono HS.out.row (by omega)) (by unfold I64; omega) hown rfl hgr
            have hub : ∀ g, u5.ownBlock = some g → w.heap.size ≤ g := fun g e => (World.ownsRow.lt HO1.out g e).1
            have hkb4 : KB (fun g => g = R) w w4 := ((HK3.out.glue HS.out.kb hG2).alloc _).grown hgr (fun g e hg => by have := hub g e; omega)
            have hb4 : Below w0.heap.size w0 w4 := (HS.out.rd.below.alloc HS.out.rd.below.size _).grown hgr (by have := HS.out.rd.below.size; simp; omega) (fun g e => by have := hub g e; have := HWB.out; omega)
            have hR4 : w4.heap[R]? = wr.heap[R]? := by
              obtain ⟨a, c, hr, _⟩ := HS.out.rd.row
              rw [hr]
              exact block_grown (block_alloc hr _) hgr (fun e => by
                obtain ⟨cur, hc⟩ := own_typed HO1.out e
                have := hc.symm.trans hr
                cases this)
            have HO4 := Lib.hid hO4; have HK4 := Lib.hid hkb4; have HR4 := Lib.hid (HS.out.rd.next hb4 hR4)
            clear hown hgr hnw hO4 hub hkb4 hb4 hR4 x1
            go_wp2_with fail
            go_roundw
            case rel => exact ⟨q, acc ++ [⟨(v1 : Int), sacc⟩], rx, _, by go_num, by omega, by simp; omega, (fun e => ⟨by simp; omega, (fun e => by cases e) e⟩), (fun e => (fun _ => hno.out) e), HMO.out.of _, HO4.out, HR4.out, HK4.out⟩
            case measure => simp [intOf] <;> omega
          · obtain rfl : p = 0 := by omega
            clear ho1 ho2 hs hmf hmt hst hgo HO3 HT1 HT2 HT3
            go_wp2_with (first | ((with_reducible show wpList _ _ _ ({ dst := some _, op := Op.load 41 (.tmp 7), type := _, pos := _, after := _, guard := _ } :: _) _ _); (refine wpList_loadW (by rfl) 41 _ rfl G rfl _ _ (0, 0) _ HGG.out Try.underlying41 rfl (by kernel_rfl) ?_)) | (at_builtin; (refine wpList_append_src _ rfl _ _ 23 rfl w.heap.size 41 i0 _ 2 32 Try.underlying23 Hi.out Hz0.out Hz1.out Hz2.out rfl (by decide) _ acc.length cs rfl (World.ownsRow.alloc HO1.out _) _ 1 [.int .i64 (v1 : Int), vs] rfl (src_lit1 _ _ _ _ _ _ rfl rfl) rfl ?h1 (by unfold maxLen; omega) (by omega) (by simp; omega) ?_)))
            case h1 => exact sl_one HS.out.row
            intro v4 w4 hown hgr hnw
            have hO4 := OwnSl.push (pos := (v1 : Int)) (o := .cells #[.int .i64 (v1 : Int), vs] 41) HO1.out HO2.out (own_mono HS.out.row (by omega)) (by unfold I64; omega) hown rfl hgr
            have hub : ∀ g, u5.ownBlock = some g → w.heap.size ≤ g := fun g e => (World.ownsRow.lt HO1.out g e).1
            have hkb4 : KB (fun g => g = R) w w4 := ((HK3.out.glue HS.out.kb hG2).alloc _).grown hgr (fun g e hg => by have := hub g e; omega)
            have hb4 : Below w0.heap.size w0 w4 := (HS.out.rd.below.alloc HS.out.rd.below.size _).grown hgr (by have := HS.out.rd.below.size; simp; omega) (fun g e => by have := hub g e; have := HWB.out; omega)
            have hR4 : w4.heap[R]? = wr.heap[R]? := by
              obtain ⟨a, c, hr, _⟩ := HS.out.rd.row
              rw [hr]
              exact block_grown (block_alloc hr _) hgr (fun e => by
                obtain ⟨cur, hc⟩ := own_typed HO1.out e
                have := hc.symm.trans hr
                cases this)
            have HO4 := Lib.hid hO4; have HK4 := Lib.hid hkb4; have HR4 := Lib.hid (HS.out.rd.next hb4 hR4)
            clear hown hgr hnw hO4 hub hkb4 hb4 hR4 x1
            go_wp2_with fail
            go_roundw
            case rel => exact ⟨q, acc ++ [⟨(v1 : Int), sacc⟩], rx, _, by go_num, by omega, by simp; omega, (fun e => ⟨by simp; omega, (HST.out.1) e⟩), (fun e => (fun e => .inr (HST.out.2 e)) e), HMO.out.of _, HO4.out, HR4.out, HK4.out⟩
            case measure => simp [intOf] <;> omega
    · have hout : (b = false → res = some (acc, r)) ∧ (b = true → b0 = true ∨ res = none) := by
        refine ⟨fun e => ?_, hmt⟩
        obtain ⟨-, h1⟩ := hmf e
        obtain rfl : q = 0 := by
          by_cases h0 : 0 < q
          · exact absurd ⟨h0, e⟩ hgo
          · omega
        exact h1.symm
      have HMO := Lib.hid hmo; have HOUT := Lib.hid hout; have HO := Lib.hid hown; have HRD := Lib.hid hrd; have HKB := Lib.hid hkb
      by_cases hq0 : 0 < q
      · obtain rfl : b = true := by
          cases b with
          | true => rfl
          | false => exact absurd ⟨hq0, rfl⟩ hgo
        have hqI : (0 : Int) < (q : Int) := by omega
        have hno := Lib.hid (hmt rfl)
        clear hown hrd hkb hmf hmt hout hgo hmo HOUT
        go_wp2_with fail
        go_ret
        exact ⟨HKB.out, _, acc, r, true, rfl, HO.out, hal, HRD.out, (fun e => by cases e), (fun _ => hno.out), HMO.out⟩
      · obtain rfl : q = 0 := by omega
        clear hown hrd hkb hmf hmt hout hgo hmo
        go_wp2_with fail
        go_ret
        exact ⟨HKB.out, _, acc, r, b, rfl, HO.out, hal, HRD.out, HOUT.out.1, HOUT.out.2, HMO.out⟩
end Go.Proofs.Ytiogopichcnihaa
