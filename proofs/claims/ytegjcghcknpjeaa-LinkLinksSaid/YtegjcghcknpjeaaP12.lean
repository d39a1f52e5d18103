import Derived.Test.YtegjcghcknpjeaaP11
namespace Go.Proofs.Ytegjcghcknpjeaa
open Go.RowKit

def most1 (m : Int) (p : Piece) : Int := if (if m < p.mark then p.mark else m) < p.to then p.to else (if m < p.mark then p.mark else m)
/-- the greatest mark of the first k pieces -/
def mostJ (l : List Piece) : Nat → Int
  | 0 => 0
  | k + 1 => match l[k]? with
    | some p => most1 (mostJ l k) p
    | none => mostJ l k
theorem mostJ_succ {l : List Piece} {k : Nat} (h : k < l.length) : mostJ l (k + 1) = most1 (mostJ l k) l[k] := by
  rw [mostJ, List.getElem?_eq_getElem h]
def shiftJ (m : Int) (p : Piece) : Piece := ⟨if 0 < p.mark then wrap64 (p.mark + m) else p.mark, p.ins, if 0 < p.to then wrap64 (p.to + m) else p.to⟩
def joinS (x y : List Piece) : List Piece := x ++ y.map (shiftJ (mostJ x x.length))
/-- when k of y are done -/
def joinK (m : Int) (x y : List Piece) (k : Nat) : List Piece := x ++ (y.take k).map (shiftJ m) ++ y.drop k
theorem joinK_len (m : Int) (x y : List Piece) (k : Nat) : (joinK m x y k).length = x.length + y.length := by unfold joinK; simp; omega
theorem joinK_get {m : Int} {x y : List Piece} {k : Nat} (h : k < y.length) (h2 : x.length + k < (joinK m x y k).length) : (joinK m x y k)[x.length + k] = y[k] := by
  apply Option.some.inj
  rw [← List.getElem?_eq_getElem h2, ← List.getElem?_eq_getElem h]
  unfold joinK
  rw [List.getElem?_append_right (by simp; omega)]
  simp only [List.length_append, List.length_map, List.length_take, List.getElem?_drop]
  congr 1
  omega
theorem joinK_set {m : Int} {x y : List Piece} {k : Nat} (h : k < y.length) : (joinK m x y k).set (x.length + k) (shiftJ m y[k]) = joinK m x y (k + 1) := by
  unfold joinK
  rw [List.set_append_right _ _ (by simp; omega), List.drop_eq_getElem_cons h, List.take_succ_eq_append_getElem h]
  have e : x.length + k - (x ++ List.map (shiftJ m) (List.take k y)).length = 0 := by simp; omega
  rw [e, List.set_cons_zero]
  simp only [List.map_append, List.map_cons, List.map_nil, List.append_assoc, List.cons_append, List.nil_append]
theorem joinK_zero (m : Int) (x y : List Piece) : joinK m x y 0 = x ++ y := by unfold joinK; simp
theorem joinK_all (m : Int) (x y : List Piece) : joinK m x y y.length = x ++ y.map (shiftJ m) := by unfold joinK; simp

theorem RowP.set {B : Nat} {w : World} {g n cap : Nat} {l : List Piece} (h : RowP B w (.slice (some ⟨g, 0, none⟩) n cap) l) (hn : n = l.length) {i j : Nat} (hi : i < l.length) (hj : j < 7) (u : Value) (p' : Piece)
    (he : Piece.enc p' = (Piece.enc l[i]).set j u) : RowP B (w.setCell ⟨g, i * 7 + j, none⟩ u) (.slice (some ⟨g, 0, none⟩) n cap) (l.set i p') := by
  subst hn
  have h1 := (World.ownsRow.stored h (i * 7 + j) u).1
  rw [flatMap_field len_enc hj l i hi p' he] at h1
  unfold RowP
  rw [List.length_set]
  exact h1
theorem RowP.cell {B : Nat} {w : World} {g n cap : Nat} {l : List Piece} (h : RowP B w (.slice (some ⟨g, 0, none⟩) n cap) l) (hn : n = l.length) {i j : Nat} (hi : i < l.length) (hj : j < 7) :
    w.cell? ⟨g, i * 7 + j, none⟩ = (Piece.enc l[i])[j]? := by
  subst hn
  have := World.ownsRow.cellAt h (i * 7 + j) (Nat.lt_of_lt_of_le (by rw [Nat.succ_mul]; omega : i * 7 + j < (i + 1) * 7) (Nat.mul_le_mul_right 7 hi))
  rw [this, flatMap_get len_enc l i hi j hj]

set_option maxHeartbeats 8000000 in
set_option maxRecDepth 100000 in
theorem join_any (w : World) (a b : Option Addr) (c d : Nat) (x y : List Piece) (hx : x.length ≤ 1048576) (hy : y.length ≤ 1048576) (sx : pieceRep.Sl w (.slice a x.length c) x) (sy : pieceRep.Sl w (.slice b y.length d) y) :
    Calls Try.prog 17 #[.slice a x.length c, .slice b y.length d] w (RetP w.heap.size w (joinS x y)) := by
  obtain ⟨a', cx, ex, _, _, _, hex⟩ := sx
  obtain ⟨b', cy, ey, _, _, _, hey⟩ := sy
  cases ex; cases ey
  have HX := Lib.hid hex; have HY := Lib.hid hey
  have hcc := fun (W : World) (hB : Below w.heap.size w W) (G : Nat) (h0 : W.cell? ⟨G, 0, none⟩ = some (.slice a x.length c)) (h1 : W.cell? ⟨G, 1, none⟩ = some (.slice b y.length d)) =>
    concatP_any W G a b c d x y hx hy h0 h1 (Rep.Sl.below pieceRep ⟨_, _, rfl, ‹_›, ‹_›, ‹_›, hex⟩ hB (Nat.le_refl _)) (Rep.Sl.below pieceRep ⟨_, _, rfl, ‹_›, ‹_›, ‹_›, hey⟩ hB (Nat.le_refl _))
  have HC := Lib.hid hcc
  clear hcc hex hey
  go_enter Try.func17, Try.ntmps17
  go_wp2_with fail
  go_loopw [5, 13] (fun t i wr => ∃ k : Nat, k ≤ x.length ∧ i = .int .i64 k ∧ t = .int .i64 (mostJ x k) ∧ Below w.heap.size w wr) (fun _ i _ => x.length - (intOf i).toNat)
  case atStart => exact ⟨0, Nat.zero_le _, rfl, rfl, Below.refl _ _⟩
  case round =>
    obtain ⟨k, hk, rfl, rfl, hB⟩ := hrel
    by_cases hlt : k < x.length
    · have hms := mostJ_succ hlt
      obtain ⟨b0, off, rfl, hw, x0, x1, x2, x3, x4, x5, x6⟩ := els_piece (HX.out.below pieceRep hB (Nat.le_refl _)) hlt
      obtain ⟨p, hp⟩ : ∃ p, x[k] = p := ⟨_, rfl⟩
      obtain ⟨m, hm⟩ : ∃ m, mostJ x k = m := ⟨_, rfl⟩
      rw [hp] at hw x0 x1 x2 x3 x4 x5 x6 hms
      rw [hm] at hms ⊢
      have hz0 : (0 : Int) ≤ (k : Int) := by omega
      have hz1 : (k : Int) < (x.length : Int) := by omega
      have hbs := hB.size
      have Hms := Lib.hid hms; have HB := Lib.hid hB; clear hms hp hm hB
      go_wp2_with fail
      all_goals
        go_roundw
        case rel => exact ⟨k + 1, by omega, by go_num, by rw [Hms.out]; unfold most1; simp only [*], HB.out.alloc hbs _⟩
        case measure => simp [intOf]; omega
    · obtain rfl : k = x.length := by omega
      obtain ⟨m, hm⟩ : ∃ m, mostJ x x.length = m := ⟨_, rfl⟩
      rw [hm]
      have hj : joinS x y = joinK m x y y.length := by unfold joinS; rw [hm, joinK_all]
      have HJ := Lib.hid hj
      have hbs := hB.size
      have HB := Lib.hid hB
      clear hj hm hB
      go_wp2_with fail
      have hq := HC.out (wr.alloc (.cells #[.slice a x.length c, .slice b y.length d] 22)) (HB.out.alloc hbs _) wr.heap.size (by simp [go_sem]) (by simp [go_sem])
      refine hq.mono ?_
      rintro e w1 ⟨v, rfl, hrow, hb⟩
      have hbs2 := hb.size
      have hB2 : Below w.heap.size w w1 := bNext hb (HB.out.alloc hbs _)
      have hrow2 : RowP w.heap.size w1 v (joinK m x y 0) := by rw [joinK_zero]; exact ⟨hrow.1, hrow.2.imp id (fun ⟨g, cap, cur, e1, e2, e3⟩ => ⟨g, cap, cur, e1, by simp at e2; omega, e3⟩)⟩
      have HR := Lib.hid hrow2; have HB2 := Lib.hid hB2
      clear hb hrow hrow2 hB2 hq
      go_wp2_with fail
      go_loopw [30] (fun i wr => ∃ k : Nat, k ≤ y.length ∧ i = .int .i64 k ∧ RowP w.heap.size wr v (joinK m x y k) ∧ Below w.heap.size w wr) (fun i _ => y.length - (intOf i).toNat)
      case atStart => exact ⟨0, Nat.zero_le _, rfl, HR.out, HB2.out⟩
      case round =>
        obtain ⟨k, hk, rfl, hr, hB3⟩ := hrel
        by_cases hlt : k < y.length
        · have hlen := joinK_len m x y k
          obtain ⟨g, cap, rfl, hg0, hg1, hg2, hg3⟩ := flat_form hr (by rw [hlen]; omega)
          have hi : x.length + k < (joinK m x y k).length := by rw [hlen]; omega
          have hget := joinK_get (m := m) hlt hi
          have hset := joinK_set (m := m) (x := x) hlt
          have cm := RowP.cell hr rfl hi (j := 0) (by omega)
          have ct := RowP.cell hr rfl hi (j := 6) (by omega)
          have fr := fun j => World.ownsRow.frozenAt hr j
          have fm := fr ((x.length + k) * 7); have ft := fr ((x.length + k) * 7 + 6)
          rw [hget] at cm ct
          obtain ⟨p, hp⟩ : ∃ p, y[k] = p := ⟨_, rfl⟩
          rw [hp] at cm ct hget hset
          obtain ⟨pm, pi, pt⟩ := p
          replace cm : wr.cell? ⟨g, (x.length + k) * 7, none⟩ = some (.int .i64 pm) := cm
          replace ct : wr.cell? ⟨g, (x.length + k) * 7 + 6, none⟩ = some (.int .i64 pt) := ct
          have hz0 : (0 : Int) ≤ (k : Int) := by omega
          have hz1 : (k : Int) < (y.length : Int) := by omega
          rw [hlen]
          rw [hlen] at hr
          have Hr := Lib.hid hr; have Hlen := Lib.hid hlen; have Hget := Lib.hid hget; have Hset := Lib.hid hset; have HB3 := Lib.hid hB3; have Hi := Lib.hid hi
          clear hr hlen hget hset hB3 fr hp
          have key : ∀ pm' pt', shiftJ m ⟨pm, pi, pt⟩ = ⟨pm', pi, pt'⟩ → ∀ W, RowP w.heap.size W (.slice (some ⟨g, 0, none⟩) (x.length + y.length) cap) ((joinK m x y k).set (x.length + k) ⟨pm', pi, pt'⟩) → RowP w.heap.size W (.slice (some ⟨g, 0, none⟩) (x.length + y.length) cap) (joinK m x y (k + 1)) := fun pm' pt' e W h => by
            rw [← Hset.out, e]; exact h
          have Key := Lib.hid key; clear key
          have s1 : ∀ pm', RowP w.heap.size (wr.setCell ⟨g, (x.length + k) * 7, none⟩ (.int .i64 pm')) (.slice (some ⟨g, 0, none⟩) (x.length + y.length) cap) ((joinK m x y k).set (x.length + k) ⟨pm', pi, pt⟩) := fun pm' =>
            RowP.set Hr.out Hlen.out.symm Hi.out (j := 0) (by omega) _ _ (by rw [Hget.out]; rfl)
          have s2 : ∀ pt', RowP w.heap.size (wr.setCell ⟨g, (x.length + k) * 7 + 6, none⟩ (.int .i64 pt')) (.slice (some ⟨g, 0, none⟩) (x.length + y.length) cap) ((joinK m x y k).set (x.length + k) ⟨pm, pi, pt'⟩) := fun pt' =>
            RowP.set Hr.out Hlen.out.symm Hi.out (j := 6) (by omega) _ _ (by rw [Hget.out]; rfl)
          have s3 : ∀ pm' pt', RowP w.heap.size ((wr.setCell ⟨g, (x.length + k) * 7, none⟩ (.int .i64 pm')).setCell ⟨g, (x.length + k) * 7 + 6, none⟩ (.int .i64 pt')) (.slice (some ⟨g, 0, none⟩) (x.length + y.length) cap) ((joinK m x y k).set (x.length + k) ⟨pm', pi, pt'⟩) := fun pm' pt' => by
            have := RowP.set (s1 pm') (by rw [List.length_set]; exact Hlen.out.symm) (i := x.length + k) (by rw [List.length_set]; exact Hi.out) (j := 6) (by omega) (.int .i64 pt') ⟨pm', pi, pt'⟩ (by rw [List.getElem_set_self]; rfl)
            rwa [List.set_set] at this
          have s0 : RowP w.heap.size wr (.slice (some ⟨g, 0, none⟩) (x.length + y.length) cap) ((joinK m x y k).set (x.length + k) ⟨pm, pi, pt⟩) := by
            rw [← Hget.out, List.set_getElem_self]; exact Hr.out
          have S0 := Lib.hid s0; have S1 := Lib.hid s1; have S2 := Lib.hid s2; have S3 := Lib.hid s3
          clear s0 s1 s2 s3
          by_cases h1 : 0 < pm
          · by_cases h2 : 0 < pt
            · go_wp2_with fail
              go_roundw
              case rel => exact ⟨k + 1, by omega, by go_num, Key.out _ _ (by unfold shiftJ; simp only [h1, h2, if_true]) _ (S3.out _ _), (HB3.out.setCell (by exact hg0) _).setCell (by exact hg0) _⟩
              case measure => simp [intOf]; omega
            · have h2' : decide (0 < pt) = false := by simpa using h2
              go_wp2_with fail
              go_roundw
              case rel => exact ⟨k + 1, by omega, by go_num, Key.out _ _ (by unfold shiftJ; simp only [h1, h2, if_true, if_false]) _ (S1.out _), HB3.out.setCell (by exact hg0) _⟩
              case measure => simp [intOf]; omega
          · have h1' : decide (0 < pm) = false := by simpa using h1
            by_cases h2 : 0 < pt
            · go_wp2_with fail
              go_roundw
              case rel => exact ⟨k + 1, by omega, by go_num, Key.out _ _ (by unfold shiftJ; simp only [h1, h2, if_true, if_false]) _ (S2.out _), HB3.out.setCell (by exact hg0) _⟩
              case measure => simp [intOf]; omega
            · have h2' : decide (0 < pt) = false := by simpa using h2
              go_wp2_with fail
              go_roundw
              case rel => exact ⟨k + 1, by omega, by go_num, Key.out _ _ (by unfold shiftJ; simp only [h1, h2, if_false]) _ S0.out, HB3.out⟩
              case measure => simp [intOf]; omega
        · obtain rfl : k = y.length := by omega
          have Hr := Lib.hid hr; have HB3 := Lib.hid hB3; clear hr hB3
          go_wp2_with fail
          go_ret
          exact ⟨_, rfl, by rw [HJ.out]; exact Hr.out, HB3.out⟩
end Go.Proofs.Ytegjcghcknpjeaa
