import Derived.Test.YtiogopichcnihaaJA
import Derived.Test.YtiogopichcnihaaRnd
namespace Go.Proofs.Ytiogopichcnihaa
set_option maxRecDepth 100000
open Go.RowKit
set_option linter.unusedVariables false
set_option linter.unusedSimpArgs false

/-! The reader's slots. -/
theorem manyA_step {α : Type} {p : List Int → Option (α × List Int)} {k n : Nat} (h : k < n) (acc : List α) (l : List Int) : manyA p (n - k) acc l = match p l with | none => none | some (x, r) => manyA p (n - (k + 1)) (acc ++ [x]) r := by
  rw [show n - k = (n - (k + 1)) + 1 from by omega]
  rfl
theorem slotP_1 {l : List Int} (h : numP 2097152 l = none) : slotP l = none := by unfold slotP; rw [h]
theorem slotP_2 {l r : List Int} {a : Int} (h : numP 2097152 l = some (a, r)) (h2 : numP 4 r = none) : slotP l = none := by unfold slotP; rw [h]; dsimp only; rw [h2]
theorem slotP_3 {l r r2 : List Int} {a : Int} {n : Nat} (h : numP 2097152 l = some (a, r)) (h2 : numP 4 r = some ((n : Int), r2)) : slotP l = match manyA (numP 65536) n [] r2 with | none => none | some (ss, r) => some (⟨a, ss⟩, r) := by
  unfold slotP; rw [h]; dsimp only; rw [h2]; rfl
/-- the inner rounds of one slot -/
structure SlIn (w0 wb wx : World) (R G : Nat) (pos : Int) (vs : Value) (sacc r : List Int) : Prop where
  rd : Rd w0 wx R r
  g : wx.heap[G]? = some (.cells #[.int .i64 pos, vs] 41 (0, 0))
  row : RowI wb.heap.size wx vs sacc
  kb : KB (fun g => g = R ∨ g = G) wb wx
  base : w0.heap.size ≤ wb.heap.size
  gnew : w0.heap.size ≤ G
theorem SlIn.ne {w0 wb wx : World} {R G : Nat} {pos : Int} {vs : Value} {sacc r : List Int} (h : SlIn w0 wb wx R G pos vs sacc r) : R ≠ G := by
  intro e
  subst e
  obtain ⟨a, c, hr, _⟩ := h.rd.row
  have := hr.symm.trans h.g
  cases this
theorem KB.weak {S S' : Nat → Prop} {w w' : World} (h : KB S w w') (hs : ∀ g, S g → S' g) : KB S' w w' := h.mono (fun g _ hg => hs g hg)
theorem KB.glue {R G : Nat} {w w3 w5 : World} (h : KB (fun g => g = R) w w3) (k : KB (fun g => g = R ∨ g = G) w3 w5) (hG : w.heap.size ≤ G) : KB (fun g => g = R) w w5 :=
  ((h.weak (S' := fun g => g = R ∨ g = G) fun _ e => .inl e).trans k).mono fun g hg e => e.resolve_right (by omega)
theorem KB.ofDrew {S : Nat → Prop} {w w' : World} (h : KB S w.drew w') : KB S w w' := ⟨h.os, h.tape, h.output, h.size, h.block⟩
/-- behind one number more -/
theorem SlIn.next {w0 wb wx w5 : World} {R G : Nat} {pos : Int} {vs : Value} {sacc r r5 : List Int} (h : SlIn w0 wb wx R G pos vs sacc r) (hk : KB (fun g => g = R) wx.drew w5) (hrd : Rd w0 w5 R r5) : SlIn w0 wb w5 R G pos vs sacc r5 := by
  have hk' : KB (fun g => g = R) wx w5 := hk.ofDrew
  exact ⟨hrd, (hk'.block G (Array.getElem?_eq_some_iff.1 h.g).1 (fun e => h.ne e.symm)).trans h.g, own_keep h.row (h.rd.keepTy hk' (by decide)), h.kb.trans (hk'.weak fun g e => .inl e), h.base, h.gnew⟩
/-- behind the growing of the sides: the slot's block as it is, and as it is behind the store -/
theorem SlIn.app {w0 wb w5 w6 : World} {R G : Nat} {pos : Int} {vs v6 : Value} {sacc r : List Int} {x : Int} {o : Obj} (h : SlIn w0 wb w5 R G pos vs sacc r)
    (hown : w6.ownsRow wb.heap.size 2 1 v6 (sacc.length + 1) (sacc.map (Value.int .i64) ++ [.int .i64 x])) (hgr : (w5.alloc o).grownBy w6 vs.ownBlock) :
    w6.heap[G]? = some (.cells #[.int .i64 pos, vs] 41 (0, 0)) ∧ SlIn w0 wb (w6.setCell ⟨G, 1, none⟩ v6) R G pos v6 (sacc ++ [x]) r := by
  have hvB : ∀ g, vs.ownBlock = some g → wb.heap.size ≤ g := fun g e => (World.ownsRow.lt h.row g e).1
  have hG : w6.heap[G]? = some (.cells #[.int .i64 pos, vs] 41 (0, 0)) := block_grown (block_alloc h.g o) hgr (fun e => by
    obtain ⟨cur, hc⟩ := own_typed h.row e
    have := hc.symm.trans h.g
    cases this)
  have hR : w6.heap[R]? = w5.heap[R]? := by
    obtain ⟨a, c, hr, _⟩ := h.rd.row
    rw [hr]
    exact block_grown (block_alloc hr o) hgr (fun e => by
      obtain ⟨cur, hc⟩ := own_typed h.row e
      have := hc.symm.trans hr
      cases this)
  have hrow : RowI wb.heap.size w6 v6 (sacc ++ [x]) := by
    unfold RowI
    rw [List.length_append, List.map_append]
    exact hown
  have hb6 : Below w0.heap.size w0 w6 := (h.rd.below.alloc h.rd.below.size o).grown hgr (by have := h.rd.below.size; simp; omega) (fun g e => by
    have h1 := hvB g e
    have h2 := h.base
    omega)
  have hkb : KB (fun g => g = R ∨ g = G) wb (w6.setCell ⟨G, 1, none⟩ v6) := ((h.kb.alloc o).grown hgr (fun k e hk => by have := hvB k e; omega)).setCell (p := ⟨G, 1, none⟩) (fun _ => .inr rfl) _
  refine ⟨hG, h.rd.next (hb6.setCell (p := ⟨G, 1, none⟩) h.gnew _) ?_, ?_, own_keep hrow (KeepTy.setCell (p := ⟨G, 1, none⟩) (NotTy.of hG (by decide)) _), hkb, h.base, h.gnew⟩
  · exact (Below.heap_setCell _ _ _ _ (fun e => h.ne e)).trans hR
  · rw [heap_setCell_same w6 G 1 _ _ _ hG]; rfl
/-- slots behind the rounds of one more -/
theorem OwnSl.keep2 {B R G : Nat} {w3 wr : World} {v : Value} {xs : List Slo} (h : OwnSl B w3 v xs) (hk : KB (fun g => g = R ∨ g = G) w3 wr) (hv : ∀ g, v.ownBlock = some g → g ≠ G) (hs : NotTy 41 w3 R) (hr : NotTy 2 w3 R) (hg : NotTy 2 w3 G) : OwnSl B wr v xs := by
  obtain ⟨cs, h1, h2⟩ := h
  refine ⟨cs, hk.row h1 (fun g e hh => ?_), slotO_keep (KeepTy.kb hk fun g e => ?_) h2⟩
  · rcases hh with rfl | rfl
    · obtain ⟨cur, hc⟩ := own_typed h1 e
      exact hs cur hc
    · exact hv _ e rfl
  · rcases e with rfl | rfl
    · exact hr
    · exact hg
theorem OwnSl.push {B : Nat} {wr w4 : World} {v v' : Value} {cs : List Value} {acc : List Slo} {pos : Int} {vs : Value} {sides : List Int} {o : Obj} {n : Nat} (h1 : wr.ownsRow B 41 2 v acc.length cs) (h2 : (slotO B).Cs wr cs acc) (hrow : RowI B wr vs sides) (hp : I64 pos)
    (hown : w4.ownsRow B 41 2 v' n (cs ++ [.int .i64 pos, vs])) (hn : n = acc.length + 1) (hgr : (wr.alloc o).grownBy w4 v.ownBlock) : OwnSl B w4 v' (acc ++ [⟨pos, sides⟩]) := by
  have hk : KeepTy 2 wr w4 := (KeepTy.below ((Below.refl _ _).alloc (Nat.le_refl _) o)).trans (KeepTy.grown hgr fun g e => by
    obtain ⟨cur, hc⟩ := own_typed h1 e
    exact NotTy.of (block_alloc hc o) (by decide))
  subst hn
  exact ⟨_, by rw [List.length_append]; exact hown, Rep.Cs.append (R := slotO B) (w := w4) (Rep.Cs.single (R := slotO B) (w := w4) (x := ⟨pos, sides⟩) (ds := [.int .i64 pos, vs]) ⟨vs, rfl, own_keep hrow hk, hp⟩) (slotO_keep hk h2)⟩
/-- what slots tells -/
def SlotsE (w0 w : World) (R : Nat) (res : Option (List Slo × List Int)) (e : Ending) (w' : World) : Prop :=
  KB (fun g => g = R) w w' ∧ match res with | some (ss, r) => (∃ v, e = .returned v ∧ OwnSl w.heap.size w' v ss ∧ ss.length ≤ 64) ∧ Rd w0 w' R r | none => e = badE
set_option maxHeartbeats 8000000 in
theorem rdslots_any (w0 w : World) (R : Nat) (l : List Int) (h : Rd w0 w R l) :
    Calls Try.prog 56 #[.pointer (some ⟨R, 0, none⟩), .int .i64 64] w (SlotsE w0 w R (slotsP 64 l)) := by
  have hq := num_any w0 w R l 64 h
  have hbd := fun n r hh => @numP_back 64 n l r h.byts hh
  unfold slotsP
  obtain ⟨i0, hi, hz0, hz1, hz2⟩ := info_parts Try.infoSlot
  have Hi := Lib.hid hi; have Hz0 := Lib.hid hz0; have Hz1 := Lib.hid hz1; have Hz2 := Lib.hid hz2
  obtain ⟨j0, hj, hy0, hy1, hy2⟩ := info_parts Try.info2
  have Hj := Lib.hid hj; have Hy0 := Lib.hid hy0; have Hy1 := Lib.hid hy1; have Hy2 := Lib.hid hy2
  have H := Lib.hid h; have HWB := Lib.hid h.below.size
  clear hi hz0 hz1 hz2 hj hy0 hy1 hy2 h
  cases hn : numP 64 l with
  | none =>
    rw [hn] at hq
    have HQ := Lib.hid hq
    clear hq hn hbd
    go_enter Try.func56, Try.ntmps56
    go_wp2_with fail
    refine HQ.out.mono ?_
    rintro e w1 ⟨hk, rfl⟩
    unfold badE
    go_wp2_with fail
    exact ⟨rfl, hk, rfl⟩
  | some nr =>
    obtain ⟨n, r1⟩ := nr
    rw [hn] at hq
    obtain ⟨-, hb0, hb1⟩ := hbd n r1 hn
    obtain ⟨N, rfl⟩ : ∃ N : Nat, n = N := ⟨n.toNat, by omega⟩
    have HQ := Lib.hid hq
    obtain ⟨res, hres⟩ : ∃ res, manyA slotP ((N : Int)).toNat [] r1 = res := ⟨_, rfl⟩
    rw [Int.toNat_natCast] at hres
    have HRES := Lib.hid hres
    show Calls Try.prog 56 _ w (SlotsE w0 w R (manyA slotP ((N : Int)).toNat [] r1))
    rw [Int.toNat_natCast, hres]
    clear hq hn hbd hres
    go_enter Try.func56, Try.ntmps56
    go_wp2_with fail
    refine HQ.out.mono ?_
    rintro e w1 ⟨hk1, rfl, hrd1⟩
    have HK1 := Lib.hid hk1; have HRD1 := Lib.hid hrd1
    clear hk1 hrd1 HQ
    go_wp2_with fail
    go_loopw [5, 10] (fun v i wr => ∃ (k : Nat) (acc : List Slo) (r : List Int), k ≤ N ∧ i = .int .i64 k ∧ acc.length = k ∧ manyA slotP (N - k) acc r = res ∧ OwnSl w.heap.size wr v acc ∧ Rd w0 wr R r ∧ KB (fun g => g = R) w wr) (fun _ i _ => N - (intOf i).toNat)
    case atStart => exact ⟨0, [], r1, by omega, rfl, rfl, HRES.out, OwnSl.nil _ _, HRD1.out, HK1.out⟩
    case round =>
      clear HRES HRD1 HK1
      obtain ⟨k, acc, r, hk, rfl, hacc, hm, hown, hrd, hkb⟩ := hrel
      by_cases hlt : k < N
      · rw [manyA_step hlt] at hm
        have hq1 := num_any w0 wr R r 2097152 hrd
        have hbd := fun n r' hh => @numP_back 2097152 n r r' hrd.byts hh
        have HO := Lib.hid hown; have HRD := Lib.hid hrd; have HKB := Lib.hid hkb; have HACC := Lib.hid hacc
        have hwl := hkb.size
        have hkI : (k : Int) < (N : Int) := by omega
        clear hown hrd hkb hacc
        cases hn : numP 2097152 r with
        | none =>
          rw [hn] at hq1
          rw [slotP_1 hn] at hm
          obtain rfl : none = res := hm
          have HQ := Lib.hid hq1
          clear hq1 hn hbd
          go_wp2_with fail
          refine HQ.out.mono ?_
          rintro e w2 ⟨hk2, rfl⟩
          have HK2 := Lib.hid (HKB.out.trans hk2)
          clear hk2
          unfold badE
          go_wp2_with fail
          exact ⟨rfl, HK2.out, rfl⟩
        | some nr =>
          obtain ⟨pos, r2⟩ := nr
          rw [hn] at hq1
          have hn1 := hn
          obtain ⟨-, hp0, hp1⟩ := hbd pos r2 hn
          have HQ := Lib.hid hq1
          clear hq1 hn hbd
          have HN1 := Lib.hid hn1
          clear hn1
          go_wp2_with fail
          refine HQ.out.mono ?_
          rintro e w2 ⟨hk2, rfl, hrd2⟩
          have hty1 := HRD.out.keepTy hk2 (t := 41) (by decide); have hty2 := HRD.out.keepTy hk2 (t := 2) (by decide)
          have HO2 := Lib.hid (HO.out.keep hty1 hty2); have HK2 := Lib.hid (HKB.out.trans hk2)
          have hs2 := hk2.size
          have hrd3 : Rd w0 (w2.alloc (.cells #[.int .i64 pos, .slice none 0 0] 41)) R r2 := hrd2.next (hrd2.below.alloc hrd2.below.size _) (Below.heap_alloc _ _ _ hrd2.lt)
          have hq3 := num_any w0 _ R r2 4 hrd3
          have hbd := fun n r' hh => @numP_back 4 n r2 r' hrd2.byts hh
          have HRD3 := Lib.hid hrd3
          have HRDL := Lib.hid hrd2.lt; have HRW := Lib.hid hrd2.below.size
          have HOL := Lib.hid (show ∀ g, u5.ownBlock = some g → g < w2.heap.size from fun g e => by obtain ⟨cs, h1, _⟩ := HO2.out; exact (World.ownsRow.lt h1 g e).2)
          clear hk2 hrd2 hty1 hty2 HO HKB HQ HRD hrd3
          obtain ⟨G, hG⟩ : ∃ G, w2.heap.size = G := ⟨_, rfl⟩
          rw [hG] at HOL
          cases hn : numP 4 r2 with
          | none =>
            rw [hn] at hq3
            rw [slotP_2 HN1.out hn] at hm
            obtain rfl : none = res := hm
            have HQ := Lib.hid hq3
            clear hq3 hn hbd
            go_wp2_with fail
            refine HQ.out.mono ?_
            rintro e w3 ⟨hk3, rfl⟩
            have HK3 := Lib.hid ((HK2.out.alloc _).trans hk3)
            clear hk3
            unfold badE
            go_wp2_with fail
            exact ⟨rfl, HK3.out, rfl⟩
          | some nr =>
            obtain ⟨n4, r3⟩ := nr
            rw [hn] at hq3
            obtain ⟨-, hb40, hb41⟩ := hbd n4 r3 hn
            obtain ⟨N4, rfl⟩ : ∃ N4 : Nat, n4 = N4 := ⟨n4.toNat, by omega⟩
            rw [slotP_3 HN1.out hn] at hm
            have HQ := Lib.hid hq3
            clear hq3 hn hbd
            go_wp2_with fail
            refine HQ.out.mono ?_
            rintro e w3 ⟨hk3, rfl, hrd3⟩
            have hGR : R ≠ G := fun e => by have := hrd3.lt; have := HRD3.out.lt; simp at this; have := HRDL.out; omega
            have hg3 : w3.heap[G]? = some (.cells #[.int .i64 pos, .slice none 0 0] 41 (0, 0)) := (hk3.block G (by simp; omega) (fun e => hGR e.symm)).trans (hG ▸ World.alloc_heap_new _ _)
            have hty : ∀ {t : TypeId}, 66 ≠ t → KeepTy t w2 w3 := fun hne => (KeepTy.below ((Below.refl _ _).alloc (Nat.le_refl _) _)).trans (HRD3.out.keepTy hk3 hne)
            have HO3 := Lib.hid (HO2.out.keep (hty (by decide)) (hty (by decide))); have HK3 := Lib.hid ((HK2.out.alloc (.cells #[.int .i64 pos, .slice none 0 0] 41)).trans hk3)
            have hsz3 := hk3.size
            simp only [World.size_alloc] at hsz3
            rw [hG] at hsz3
            have HT1 := Lib.hid (hrd3.ty (t := 41) (by decide)); have HT2 := Lib.hid (hrd3.ty (t := 2) (by decide)); have HT3 := Lib.hid (NotTy.of hg3 (show 41 ≠ 2 by decide))
            have HS0 := Lib.hid (SlIn.mk (wb := w3) hrd3 hg3 (RowI.nil _ _) (KB.refl _ _) hrd3.below.size (by have := HRW.out; omega))
            obtain ⟨resI, hresI⟩ : ∃ resI, manyA (numP 65536) N4 [] r3 = resI := ⟨_, rfl⟩
            rw [hresI] at hm
            have HRI := Lib.hid hresI; have HM := Lib.hid hm
            have hG2 : w.heap.size ≤ G := by have := HK2.out.size; omega
            clear hk3 hrd3 hg3 hresI hm HRD3 HQ HO2 HK2 hty HRDL HRW hG
            go_wp2_with fail
            go_loopw [17] (fun i wx => ∃ (j : Nat) (vs : Value) (sacc r : List Int), j ≤ N4 ∧ i = .int .i64 j ∧ sacc.length = j ∧ manyA (numP 65536) (N4 - j) sacc r = resI ∧ SlIn w0 w3 wx R G pos vs sacc r) (fun i _ => N4 - (intOf i).toNat)
            case atStart => exact ⟨0, _, [], r3, by omega, rfl, rfl, HRI.out, HS0.out⟩
            case round =>
              clear HRI HS0
              obtain ⟨j, vs, sacc, rx, hj, rfl, hjl, hmI, hs⟩ := hrel
              by_cases hjlt : j < N4
              · rw [manyA_step hjlt] at hmI
                have g1 := cell_of_row wr G 1 _ _ _ hs.g
                have HS := Lib.hid hs
                have hq5 := num_any w0 wr.drew R rx 65536 (hs.rd.next hs.rd.below.drew rfl)
                have hjI : (j : Int) < (N4 : Int) := by omega
                clear hs
                go_wp2_with fail
                refine wp_region_Z (S := fun W' => W'.cell? ⟨G, 1, none⟩ = some vs) (z := 7) (by kernel_rfl) ?_
                have hSS : (fun W' : World => W'.cell? ⟨G, 1, none⟩ = some vs) wr.drew := g1
                refine wpAnyZ_take (i := 0) (v := ?_) rfl (by kernel_rfl) (by kernel_rfl) (by kernel_rfl) (fun _ _ _ h => h) (by kernel_rfl) (Or.inl ⟨by rfl, ?_⟩) (by assumption) ?_
                rotate_left
                · intro w' hSw
                  try dsimp only at hSw
                  try obtain ⟨hSw, hSw2⟩ := hSw
                  go_simp
                  try with_reducible rfl
                show wpAnyZ _ _ _ _ _ _ _ _ (Act.put _ (some 19) _) _
                simp only [Act.put, List.setIfInBounds_toArray, List.set_cons_zero, List.set_cons_succ]
                refine wpAnyZ_take (i := 1) (v := ?_) rfl (by kernel_rfl) (by kernel_rfl) (by kernel_rfl) (fun _ _ _ h => h) (by kernel_rfl) (Or.inl ⟨by rfl, ?_⟩) (by assumption) ?_
                rotate_left
                · intro w' hSw
                  try dsimp only at hSw
                  try obtain ⟨hSw, hSw2⟩ := hSw
                  go_simp
                  try with_reducible rfl
                show wpAnyZ _ _ _ _ _ _ _ _ (Act.put _ (some 20) _) _
                simp only [Act.put, List.setIfInBounds_toArray, List.set_cons_zero, List.set_cons_succ]
                refine wpAnyZ_take (i := 2) (v := ?_) rfl (by kernel_rfl) (by kernel_rfl) (by kernel_rfl) (fun _ _ _ h => h) (by kernel_rfl) (Or.inl ⟨by rfl, ?_⟩) (by assumption) ?_
                rotate_left
                · intro w' hSw
                  try dsimp only at hSw
                  try obtain ⟨hSw, hSw2⟩ := hSw
                  go_simp
                  try with_reducible rfl
                show wpAnyZ _ _ _ _ _ _ _ _ (Act.put _ (some 21) _) _
                simp only [Act.put, List.setIfInBounds_toArray, List.set_cons_zero, List.set_cons_succ]
                clear hSS g1
                have hne := HS.out.ne
                have hbp := fun n r' hh => @numP_back 65536 n rx r' HS.out.rd.byts hh
                refine wpAnyZ_one (i := 3) (by kernel_rfl) rfl rfl (fun K hK => ?_)
                go_simp
                refine hq5.mono ?_
                cases hn : numP 65536 rx with
                | none =>
                  rw [hn] at hmI
                  obtain rfl : none = resI := hmI
                  obtain rfl : none = res := HM.out
                  rintro e w5 ⟨hk5, rfl⟩
                  have hk6 : KB (fun g => g = R) w w5 := HK3.out.glue (HS.out.kb.trans (hk5.ofDrew.weak fun _ e => .inl e)) hG2
                  exact ⟨rfl, hk6, rfl⟩
                | some nr =>
                  obtain ⟨x, r5⟩ := nr
                  rw [hn] at hmI
                  obtain ⟨-, hx0, hx1⟩ := hbp x r5 hn
                  rintro e w5 ⟨hk5, rfl, hrd5⟩
                  have HIN5 := Lib.hid (HS.out.next hk5 hrd5)
                  clear hn hq5 hbp
                  show K _ w5
                  refine hK.out _ _ (.inr (cell_of_row w5 G 1 _ _ _ HIN5.out.g)) ?_
                  clear hK hk5 hrd5 HS
                  refine wpAnyZ_one (i := 4) (by kernel_rfl) rfl rfl (fun K hK => ?_)
                  go_simp
                  refine hK.out _ _ (.inr (keepCell ((Below.refl _ _).alloc (Nat.le_refl _) _) (cell_of_row w5 G 1 _ _ _ HIN5.out.g))) ?_
                  clear hK
                  refine wpAnyZ_one (i := 5) (by kernel_rfl) rfl rfl (fun K hK => ?_)
                  have hst5 : w3.heap.size ≤ w5.heap.size := HIN5.out.kb.size
                  refine wp_append_src _ (.tmp 20) (.tmp 23) 22 rfl w3.heap.size 2 j0 _ 1 8 Try.underlying22 Hj.out Hy0.out Hy1.out Hy2.out rfl (by decide) vs sacc.length _ rfl (World.ownsRow.alloc HIN5.out.row _) _ 1 [.int .i64 x] rfl (src_lit1 _ _ _ _ _ _ rfl rfl) rfl (by intro u hu; cases List.mem_singleton.1 hu; rfl) (by unfold maxLen; omega) (by omega) (by simp; omega) ?_
                  intro v6 w6 hown hgr hnw
                  obtain ⟨a6, c6, rfl⟩ : ∃ a c, v6 = .slice a (j + 1) c := by
                    rw [← hjl]
                    obtain ⟨-, ⟨e, h0⟩ | ⟨g, cap, cur, e, _⟩⟩ := hown
                    · omega
                    · exact ⟨_, _, e⟩
                  have HIN6 := Lib.hid (HIN5.out.app hown hgr)
                  refine hK.out _ _ (.inr (cell_of_row w6 G 1 _ _ _ HIN6.out.1)) ?_
                  clear hK hown hgr hnw HIN5
                  refine wpAnyZ_one (i := 6) (by kernel_rfl) rfl rfl (fun K hK => ?_)
                  go_simp
                  refine hK.out _ _ (.inr (cell_of_row w6 G 1 _ _ _ HIN6.out.1)) ?_
                  clear hK
                  refine wpAnyZ_one (i := 7) (by kernel_rfl) rfl rfl (fun K hK => ?_)
                  have f1 := frozen_of_row w6 G 1 _ _ HIN6.out.1; have g1 := cell_of_row w6 G 1 _ _ _ HIN6.out.1
                  go_simp
                  refine hK.out _ _ (.inl (Nat.le_refl _)) ?_
                  clear hK f1 g1
                  refine wpAnyZ_done (by kernel_rfl) ?_ _
                  go_wp2_with fail
                  go_roundw
                  case rel => exact ⟨j + 1, _, sacc ++ [x], r5, by omega, by go_num, by simp [hjl], hmI, HIN6.out.2⟩
                  case measure => simp [intOf] <;> omega
              · obtain rfl : j = N4 := by omega
                rw [Nat.sub_self] at hmI
                obtain rfl : some (sacc, rx) = resI := hmI
                have hm2 : manyA slotP (N - (k + 1)) (acc ++ [⟨pos, sacc⟩]) rx = res := HM.out
                have hO := HO3.out.keep2 hs.kb (fun g e => by have := HOL.out g e; omega) HT1.out HT2.out HT3.out
                obtain ⟨cs, ho1, ho2⟩ := hO
                rw [HACC.out] at ho1
                have HO1 := Lib.hid ho1; have HO2 := Lib.hid ho2; have HS := Lib.hid hs; have HM2 := Lib.hid hm2; have HGG := Lib.hid hs.g
                have hsz := hs.kb.size
                have hkl : k ≤ 64 := by omega
                clear ho1 ho2 hs hm2 HM HO3 HT1 HT2 HT3
                go_wp2_with (first | ((with_reducible show wpList _ _ _ ({ dst := some _, op := Op.load 41 (.tmp 6), type := _, pos := _, after := _, guard := _ } :: _) _ _); (refine wpList_loadW (by rfl) 41 _ rfl G rfl _ _ (0, 0) _ HGG.out Try.underlying41 rfl (by kernel_rfl) ?_)) | (at_builtin; (refine wpList_append_src _ rfl _ _ 23 rfl w.heap.size 41 i0 _ 2 32 Try.underlying23 Hi.out Hz0.out Hz1.out Hz2.out rfl (by decide) _ k cs rfl (World.ownsRow.alloc HO1.out _) _ 1 [.int .i64 pos, vs] rfl (src_lit1 _ _ _ _ _ _ rfl rfl) rfl ?h1 (by unfold maxLen; omega) (by omega) (by simp; omega) ?_)))
                case h1 =>
                  intro u hu
                  simp at hu
                  rcases hu with rfl | rfl
                  · rfl
                  · exact own_cell1 HS.out.row
                intro v4 w4 hown hgr hnw
                have hO4 := OwnSl.push (pos := pos) (o := .cells #[.int .i64 pos, vs] 41) (by rw [HACC.out]; exact HO1.out) HO2.out (own_mono HS.out.row (by omega)) (by unfold I64; omega) hown (by rw [HACC.out]) hgr
                have hub : ∀ g, u5.ownBlock = some g → w.heap.size ≤ g := fun g e => (World.ownsRow.lt HO1.out g e).1
                have hkb4 : KB (fun g => g = R) w w4 := ((HK3.out.glue HS.out.kb hG2).alloc _).grown hgr (fun g e hg => by have := hub g e; omega)
                have hb4 : Below w0.heap.size w0 w4 := (HS.out.rd.below.alloc HS.out.rd.below.size _).grown hgr (by have := HS.out.rd.below.size; simp; omega) (fun g e => by have := hub g e; have := HWB.out; omega)
                have hR4 : w4.heap[R]? = wr.heap[R]? := by
                  obtain ⟨a, c, hr, _⟩ := HS.out.rd.row
                  rw [hr]
                  exact block_grown (block_alloc hr _) hgr (fun e => by
                    obtain ⟨cur, hc⟩ := own_typed HO1.out e
                    have := hc.symm.trans hr
                    cases this)
                have HO4 := Lib.hid hO4; have HK4 := Lib.hid hkb4; have HR4 := Lib.hid (HS.out.rd.next hb4 hR4)
                clear hown hgr hnw hO4 hub hkb4 hb4 hR4
                go_wp2_with fail
                go_roundw
                case rel => exact ⟨k + 1, acc ++ [⟨pos, sacc⟩], rx, by omega, by go_num, by simp [HACC.out], HM2.out, HO4.out, HR4.out, HK4.out⟩
                case measure => simp [intOf] <;> omega
      · obtain rfl : k = N := by omega
        rw [Nat.sub_self] at hm
        obtain rfl : some (acc, r) = res := hm
        have HO := Lib.hid hown; have HRD := Lib.hid hrd; have HKB := Lib.hid hkb
        clear hown hrd hkb
        go_wp2_with fail
        go_ret
        exact ⟨HKB.out, ⟨_, rfl, HO.out, by omega⟩, HRD.out⟩
end Go.Proofs.Ytiogopichcnihaa
