import Derived.Test.YtegjcghcknpjeaaP12
namespace Go.Proofs.Ytegjcghcknpjeaa
open Go.RowKit

/-- what a literal has laid, as a source of an append -/
theorem src_lit (W : World) (cs : Array Value) (t : TypeId) (m : Nat) (news : List Value) (G : Nat) (hG : W.heap.size = G) (hn : news = cs.toList) : Src (W.alloc (.cells cs t)) (.slice (some ⟨G, 0, none⟩) m m) m news := by
  subst hG hn
  refine .inr ⟨_, _, rfl, fun j z hz => ?_⟩
  rw [add_none, Nat.zero_add, cell_of_row _ _ j _ _ _ (World.alloc_heap_new W _)]
  simpa using hz
/-- when k are behind the others -/
def joinA (m : Int) (x y : List Piece) (k : Nat) : List Piece := x ++ (y.take k).map (shiftJ m)
theorem joinA_succ {m : Int} {x y : List Piece} {k : Nat} (h : k < y.length) : joinA m x y (k + 1) = joinA m x y k ++ [shiftJ m y[k]] := by
  unfold joinA
  rw [List.take_succ_eq_append_getElem h, List.map_append, List.append_assoc]
  rfl
theorem joinA_len (m : Int) (x y : List Piece) {k : Nat} (h : k ≤ y.length) : (joinA m x y k).length = x.length + k := by unfold joinA; simp; omega
theorem RowP.of_append {B : Nat} {w : World} {v : Value} {l : List Piece} {n : Nat} {p : Piece} (hn : l.length = n) (h : w.ownsRow B 37 7 v (n + 1) (l.flatMap Piece.enc ++ Piece.enc p)) : RowP B w v (l ++ [p]) := by
  unfold RowP
  rw [List.length_append, hn, List.flatMap_append]
  simpa using h

set_option maxHeartbeats 8000000 in
set_option maxRecDepth 100000 in
theorem rjoin_any (w : World) (a b : Option Addr) (c d : Nat) (x y : List Piece) (hx : x.length ≤ 1048576) (hy : y.length ≤ 1048576) (sx : pieceRep.Sl w (.slice a x.length c) x) (sy : pieceRep.Sl w (.slice b y.length d) y) :
    Calls Try.prog 19 #[.slice a x.length c, .slice b y.length d] w (RetP w.heap.size w (joinS x y)) := by
  have hsx := fun W (hB : Below w.heap.size w W) => flat_src (by decide) (sx.below pieceRep hB (Nat.le_refl _))
  obtain ⟨a', cx, ex, _, _, _, hex⟩ := sx
  obtain ⟨b', cy, ey, _, _, _, hey⟩ := sy
  cases ex; cases ey
  have HX := Lib.hid hex; have HY := Lib.hid hey; have HS := Lib.hid hsx
  clear hex hey hsx
  obtain ⟨i0, hi, hz0, hz1, hz2⟩ := info_parts Try.infoP
  have Hi := Lib.hid hi; have Hz0 := Lib.hid hz0; have Hz1 := Lib.hid hz1; have Hz2 := Lib.hid hz2; clear hi hz0 hz1 hz2
  go_enter Try.func19, Try.ntmps19
  go_wp2_with fail
  go_loopw [5, 6] (fun t i wr => ∃ k : Nat, k ≤ x.length ∧ i = .int .i64 k ∧ t = .int .i64 (mostJ x k) ∧ Below w.heap.size w wr) (fun _ i _ => x.length - (intOf i).toNat)
  case atStart => exact ⟨0, Nat.zero_le _, rfl, rfl, Below.refl _ _⟩
  case round =>
    obtain ⟨k, hk, rfl, rfl, hB⟩ := hrel
    by_cases hlt : k < x.length
    · have hms := mostJ_succ hlt
      obtain ⟨b0, off, rfl, hw, x0, x1, x2, x3, x4, x5, x6⟩ := els_piece (HX.out.below pieceRep hB (Nat.le_refl _)) hlt
      obtain ⟨p, hp⟩ : ∃ p, x[k] = p := ⟨_, rfl⟩
      obtain ⟨m, hm⟩ : ∃ m, mostJ x k = m := ⟨_, rfl⟩
      rw [hp] at hw x0 x1 x2 x3 x4 x5 x6 hms
      rw [hm] at hms ⊢
      have hz0 : (0 : Int) ≤ (k : Int) := by omega
      have hz1 : (k : Int) < (x.length : Int) := by omega
      have Hms := Lib.hid hms; have HB := Lib.hid hB; clear hms hp hm hB
      go_wp2_with fail
      go_quiet (fail)
      go_wp2_with fail
      all_goals
        go_roundw
        case rel => exact ⟨k + 1, by omega, by go_num, by rw [Hms.out]; unfold most1; simp only [*], HB.out.trans (Below.drewN _ _)⟩
        case measure => simp [intOf]; omega
    · obtain rfl : k = x.length := by omega
      obtain ⟨m, hm⟩ : ∃ m, mostJ x x.length = m := ⟨_, rfl⟩
      rw [hm]
      have hj : joinS x y = joinA m x y y.length := by unfold joinS joinA; rw [hm, List.take_length]
      have HJ := Lib.hid hj
      have hbs := hB.size
      have hsrc : ∀ o, Src (wr.alloc o) (.slice a x.length c) x.length (x.flatMap Piece.enc) := fun o => HS.out _ (hB.alloc hbs _)
      have hemp : ∀ o : TypeId, (wr.alloc (.cells #[] 37)).ownsRow w.heap.size 37 7 (.slice (some ⟨wr.heap.size, 0, none⟩) 0 0) 0 [] := fun _ => World.ownsRow_lit wr #[] 0 hbs (Nat.zero_le _) rfl
      have Hsrc := Lib.hid hsrc; have Hemp := Lib.hid hemp
      have HB := Lib.hid hB
      clear hj hm hB hsrc hemp
      go_wp2_with (at_builtin; (refine wpList_append_src _ rfl _ _ 22 rfl w.heap.size 37 i0 _ 7 24 Try.underlying22 Hi.out Hz0.out Hz1.out Hz2.out rfl (by decide) _ 0 _ rfl (Hemp.out 0) _ x.length _ rfl (Hsrc.out _) (by rw [flatMap_len len_enc]) (by intro z hz; obtain ⟨p, _, hp⟩ := List.mem_flatMap.1 hz; exact pieceRep_one p z hp) (by unfold maxLen; omega) (by omega) (by simp; omega) ?_); intro v1 w1 hown hg _)
      have hB1 : Below w.heap.size w w1 := (HB.out.alloc hbs _).grown hg (by simp; omega) (fun j hj => by cases hj; exact hbs)
      have hr1 : RowP w.heap.size w1 v1 (joinA m x y 0) := by unfold joinA; simpa [RowP] using hown
      have HR := Lib.hid hr1; have HB1 := Lib.hid hB1
      clear hown hg hr1 hB1
      go_wp2_with fail
      go_loopw [7, 8] (fun v i wr => ∃ k : Nat, k ≤ y.length ∧ i = .int .i64 k ∧ RowP w.heap.size wr v (joinA m x y k) ∧ Below w.heap.size w wr) (fun _ i _ => y.length - (intOf i).toNat)
      case atStart => exact ⟨0, Nat.zero_le _, rfl, HR.out, HB1.out⟩
      case round =>
        obtain ⟨k, hk, rfl, hr, hB3⟩ := hrel
        by_cases hlt : k < y.length
        · have hlen := joinA_len m x y hk
          have hsucc := joinA_succ (m := m) (x := x) hlt
          obtain ⟨b0, off, rfl, hw, x0, x1, x2, x3, x4, x5, x6⟩ := els_piece (HY.out.below pieceRep hB3 (Nat.le_refl _)) hlt
          obtain ⟨p, hp⟩ : ∃ p, y[k] = p := ⟨_, rfl⟩
          rw [hp] at hw x0 x1 x2 x3 x4 x5 x6 hsucc
          obtain ⟨pm, ⟨po, pa, pb, pc, pi⟩, pt⟩ := p
          dsimp only at x0 x1 x2 x3 x4 x5 x6
          have hz0 : (0 : Int) ≤ (k : Int) := by omega
          have hz1 : (k : Int) < (y.length : Int) := by omega
          have hbs3 := hB3.size
          have hr' : wr.ownsRow w.heap.size 37 7 u7 (x.length + k) ((joinA m x y k).flatMap Piece.enc) := by rw [← hlen]; exact hr
          have key : ∀ pm' pt', shiftJ m ⟨pm, ⟨po, pa, pb, pc, pi⟩, pt⟩ = ⟨pm', ⟨po, pa, pb, pc, pi⟩, pt'⟩ → ∀ v' W o1 o2, W.ownsRow w.heap.size 37 7 v' (x.length + k + 1) ((joinA m x y k).flatMap Piece.enc ++ Piece.enc ⟨pm', ⟨po, pa, pb, pc, pi⟩, pt'⟩) → ((wr.alloc o1).alloc o2).grownBy W (Value.ownBlock u7) →
              RowP w.heap.size W v' (joinA m x y (k + 1)) ∧ Below w.heap.size w W := fun pm' pt' e v' W o1 o2 h hg => by
            refine ⟨by rw [hsucc, e]; exact RowP.of_append hlen h, ((hB3.alloc hbs3 _).alloc (by simp; omega) _).grown hg (by simp; omega) (fun j hj => (hr.lt j hj).1)⟩
          have Key := Lib.hid key
          have Hr := Lib.hid hr'
          clear hr hr' key hsucc hB3 hp hlen hw
          by_cases h1 : 0 < pm
          · by_cases h2 : 0 < pt
            · go_wp2_with (at_builtin; (refine wpList_append_src _ rfl _ _ 22 rfl w.heap.size 37 i0 _ 7 24 Try.underlying22 Hi.out Hz0.out Hz1.out Hz2.out rfl (by decide) _ (x.length + k) _ rfl ((Hr.out.alloc _).alloc _) _ 1 (Piece.enc ⟨wrap64 (pm + m), ⟨po, pa, pb, pc, pi⟩, wrap64 (pt + m)⟩) rfl (src_lit _ _ _ _ _ _ (by simp) rfl) rfl (pieceRep_one _) (by unfold maxLen; omega) (by omega) (by simp; omega) ?_); intro v' w' hown hg _)
              obtain ⟨k1, k2⟩ := Key.out _ _ (by unfold shiftJ; simp only [h1, h2, if_true]) _ _ _ _ hown hg
              go_roundw
              case rel => exact ⟨k + 1, by omega, by go_num, k1, k2⟩
              case measure => simp [intOf]; omega
            · have h2' : decide (0 < pt) = false := by simpa using h2
              go_wp2_with (at_builtin; (refine wpList_append_src _ rfl _ _ 22 rfl w.heap.size 37 i0 _ 7 24 Try.underlying22 Hi.out Hz0.out Hz1.out Hz2.out rfl (by decide) _ (x.length + k) _ rfl ((Hr.out.alloc _).alloc _) _ 1 (Piece.enc ⟨wrap64 (pm + m), ⟨po, pa, pb, pc, pi⟩, pt⟩) rfl (src_lit _ _ _ _ _ _ (by simp) rfl) rfl (pieceRep_one _) (by unfold maxLen; omega) (by omega) (by simp; omega) ?_); intro v' w' hown hg _)
              obtain ⟨k1, k2⟩ := Key.out _ _ (by unfold shiftJ; simp only [h1, h2, if_true, if_false]) _ _ _ _ hown hg
              go_roundw
              case rel => exact ⟨k + 1, by omega, by go_num, k1, k2⟩
              case measure => simp [intOf]; omega
          · have h1' : decide (0 < pm) = false := by simpa using h1
            by_cases h2 : 0 < pt
            · go_wp2_with (at_builtin; (refine wpList_append_src _ rfl _ _ 22 rfl w.heap.size 37 i0 _ 7 24 Try.underlying22 Hi.out Hz0.out Hz1.out Hz2.out rfl (by decide) _ (x.length + k) _ rfl ((Hr.out.alloc _).alloc _) _ 1 (Piece.enc ⟨pm, ⟨po, pa, pb, pc, pi⟩, wrap64 (pt + m)⟩) rfl (src_lit _ _ _ _ _ _ (by simp) rfl) rfl (pieceRep_one _) (by unfold maxLen; omega) (by omega) (by simp; omega) ?_); intro v' w' hown hg _)
              obtain ⟨k1, k2⟩ := Key.out _ _ (by unfold shiftJ; simp only [h1, h2, if_true, if_false]) _ _ _ _ hown hg
              go_roundw
              case rel => exact ⟨k + 1, by omega, by go_num, k1, k2⟩
              case measure => simp [intOf]; omega
            · have h2' : decide (0 < pt) = false := by simpa using h2
              go_wp2_with (at_builtin; (refine wpList_append_src _ rfl _ _ 22 rfl w.heap.size 37 i0 _ 7 24 Try.underlying22 Hi.out Hz0.out Hz1.out Hz2.out rfl (by decide) _ (x.length + k) _ rfl ((Hr.out.alloc _).alloc _) _ 1 (Piece.enc ⟨pm, ⟨po, pa, pb, pc, pi⟩, pt⟩) rfl (src_lit _ _ _ _ _ _ (by simp) rfl) rfl (pieceRep_one _) (by unfold maxLen; omega) (by omega) (by simp; omega) ?_); intro v' w' hown hg _)
              obtain ⟨k1, k2⟩ := Key.out _ _ (by unfold shiftJ; simp only [h1, h2, if_false]) _ _ _ _ hown hg
              go_roundw
              case rel => exact ⟨k + 1, by omega, by go_num, k1, k2⟩
              case measure => simp [intOf]; omega
        · obtain rfl : k = y.length := by omega
          have Hr := Lib.hid hr; have HB3 := Lib.hid hB3; clear hr hB3
          go_wp2_with fail
          go_ret
          exact ⟨_, rfl, by rw [HJ.out]; exact Hr.out, HB3.out⟩
end Go.Proofs.Ytegjcghcknpjeaa
