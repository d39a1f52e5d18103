import Derived.Test.YtegjcghcknpjeaaP10
import Derived.Test.YtegjcghcknpjeaaQB
import Derived.Lib.AppendZeros
namespace Go.Proofs.Ytegjcghcknpjeaa
open Go.RowKit

theorem add_none (b off j : Nat) : (Addr.mk b off none).add j = ⟨b, off + j, none⟩ := by
  unfold Addr.add
  split
  · rename_i h; rw [show off + j = off from by omega]
  · rfl
/-- A slice of such things, as a source of an append. -/
theorem flat_src {α : Type} {n : Nat} {enc : α → List Value} {wf : α → Prop} {hl : ∀ x, (enc x).length = n} {h1 : ∀ x, ∀ v ∈ enc x, v.oneCell' = true} (hn : 0 < n) {w : World} {v : Value} {xs : List α} (h : (Rep.flat n enc wf hl h1).Sl w v xs) :
    Src w v xs.length (xs.flatMap enc) := by
  obtain ⟨a, cap, rfl, hle, _, h2, h4⟩ := h
  cases a with
  | none =>
    have hc : cap = 0 := h2 rfl
    have hx : xs.length = 0 := by omega
    obtain rfl := List.eq_nil_of_length_eq_zero hx
    exact .inl ⟨by rw [hc]; rfl, rfl, rfl⟩
  | some ad =>
    refine .inr ⟨ad, cap, rfl, fun j z hz => ?_⟩
    have hj : j < (xs.flatMap enc).length := (List.getElem?_eq_some_iff.1 hz).1
    rw [flatMap_len hl] at hj
    have hk : j / n < xs.length := Nat.div_lt_of_lt_mul (by rw [Nat.mul_comm]; exact hj)
    obtain ⟨b, off, cs, e, ⟨rfl, _⟩, hc⟩ := h4 (j / n) hk
    cases e
    rw [add_none]
    have hg := flatMap_get hl xs (j / n) hk (j % n) (Nat.mod_lt _ hn)
    have hd : j / n * n + j % n = j := by rw [Nat.mul_comm]; exact Nat.div_add_mod j n
    rw [hd, hz] at hg
    have := hc (j % n) z hg.symm
    rw [show off + j / n * (Rep.flat n enc wf hl h1).n + j % n = off + j from by show off + j / n * n + j % n = _; rw [Nat.add_assoc, hd]] at this
    exact this

def RetP (B : Nat) (w : World) (xs : List Piece) (e : Ending) (w' : World) : Prop := ∃ v, e = .returned v ∧ RowP B w' v xs ∧ Below w.heap.size w w'

set_option maxHeartbeats 4000000 in
theorem growP_any (w : World) (n : Nat) (hn : n ≤ 2097152) : Calls Try.prog 43 #[.slice none 0 0, .int .i64 n] w (RetP w.heap.size w []) := by
  by_cases h0 : n = 0
  · subst h0
    go_enter Try.func43, Try.ntmps43
    go_wp2
    go_ret
    exact ⟨_, rfl, RowP.nil _ _, Below.refl _ _⟩
  · have hpos : 0 < n := by omega
    obtain ⟨i0, hi, hz0, hz1, hz2⟩ := info_parts Try.infoP
    have hr := fun ty => Lib.run_append_nil_zeros (P := Try.prog) w 22 3 ty 37 i0 _ .i64 .i64 Try.underlying22 Try.underlying3 hi hz0 n hpos (by rw [hz1]; decide) (by omega) (by rw [hz2]; omega)
    have hge := grownCap_ge w n 0 37
    have hle := grownCap_le_maxLen w n 0 37 (by unfold maxLen; omega)
    generalize grownCap w n 0 37 = N at hr hge hle
    have hmade : ∀ cur : Array Value, cur.size = N * 7 → RowP w.heap.size (w.drew.alloc (.cells cur 37)) (.slice (some ⟨w.heap.size, 0, none⟩) 0 N) [] := fun cur hc => World.ownsRow_made w.drew cur N (Nat.le_refl _) hle hc
    have hsz : ∀ z : Array Value, z.size = 7 → (Builtin.zeroCells z n ++ Builtin.zeroCells z (N - n)).size = N * 7 := fun z hz => by
      rw [Array.size_append, size_zeroCells, size_zeroCells, hz, ← Nat.add_mul]; congr 1; omega
    have hbel : ∀ o, Below w.heap.size w (w.drew.alloc o) := fun o => ((Below.refl _ _).drew).alloc (Nat.le_refl _) o
    have HR := Lib.hid hr; have HM := Lib.hid hmade; have HS := Lib.hid hsz; have HB := Lib.hid hbel
    unfold maxLen at hle
    clear hr hmade hsz hbel hi hz0 hz1 hz2
    go_enter Try.func43, Try.ntmps43
    go_wp2_with (at_builtin; refine Lib.wpList_append_run _ rfl _ _ _ _ rfl _ _ rfl rfl _ _ (HR.out _) ?_)
    go_ret
    exact ⟨_, rfl, HM.out _ (HS.out _ rfl), HB.out _⟩

set_option maxHeartbeats 4000000 in
theorem concatP_any (w : World) (G : Nat) (a b : Option Addr) (c d : Nat) (x y : List Piece) (hx : x.length ≤ 1048576) (hy : y.length ≤ 1048576)
    (c0 : w.cell? ⟨G, 0, none⟩ = some (.slice a x.length c)) (c1 : w.cell? ⟨G, 1, none⟩ = some (.slice b y.length d)) (sx : pieceRep.Sl w (.slice a x.length c) x) (sy : pieceRep.Sl w (.slice b y.length d) y) :
    Calls Try.prog 33 #[.slice (some ⟨G, 0, none⟩) 2 2] w (RetP w.heap.size w (x ++ y)) := by
  have HX := Lib.hid sx; have HY := Lib.hid sy; clear sx sy
  obtain ⟨i0, hi, hz0, hz1, hz2⟩ := info_parts Try.infoP
  have Hi := Lib.hid hi; have Hz0 := Lib.hid hz0; have Hz1 := Lib.hid hz1; have Hz2 := Lib.hid hz2; clear hi hz0 hz1 hz2
  have hgr := fun W => growP_any W (x.length + y.length) (by omega)
  rw [show (((x.length + y.length : Nat) : Int)) = (x.length : Int) + (y.length : Int) from by omega] at hgr
  have HG := Lib.hid hgr; clear hgr
  go_enter Try.func33, Try.ntmps33
  go_wp2_with fail
  go_loop [3, 11] (fun t i => (i = .int .i64 0 ∧ t = .int .i64 0) ∨ (i = .int .i64 1 ∧ t = .int .i64 x.length) ∨ (i = .int .i64 2 ∧ t = .int .i64 ((x.length : Int) + y.length))) (fun _ i => 2 - (intOf i).toNat)
  case atStart => exact .inl ⟨rfl, rfl⟩
  case round =>
    rcases hrel with ⟨rfl, rfl⟩ | ⟨rfl, rfl⟩ | ⟨rfl, rfl⟩
    · go_wp2_with fail
      go_round
      case rel => exact .inr (.inl ⟨rfl, by simp⟩)
      case measure => simp [intOf]
    · go_wp2_with fail
      go_round
      case rel => exact .inr (.inr ⟨rfl, by simp⟩)
      case measure => simp [intOf]
    · go_wp2_with fail
      refine (HG.out _).mono ?_
      rintro e w1 ⟨v1, rfl, hrow, hb⟩
      have hbs := hb.size
      have HR := Lib.hid hrow; have HB := Lib.hid hb; clear hrow hb
      go_wp2_with fail
      go_loopw [6, 27] (fun v i wr => Below w.heap.size w wr ∧ ((i = .int .i64 0 ∧ RowP w.heap.size wr v []) ∨ (i = .int .i64 1 ∧ RowP w.heap.size wr v x) ∨ (i = .int .i64 2 ∧ RowP w.heap.size wr v (x ++ y)))) (fun _ i _ => 2 - (intOf i).toNat)
      case atStart => exact ⟨HB.out, .inl ⟨rfl, HR.out⟩⟩
      case round =>
        obtain ⟨hbr, ⟨rfl, hr⟩ | ⟨rfl, hr⟩ | ⟨rfl, hr⟩⟩ := hrel
        · have e0 := keepCell hbr c0
          have hsr := Lib.hid (flat_src (by decide) (HX.out.below pieceRep hbr (Nat.le_refl _)))
          have hs2 := hbr.size
          have Hr := Lib.hid hr; have Hb := Lib.hid hbr; clear hr hbr c0 c1
          go_wp2_with (at_builtin; (refine wpList_append_src _ rfl _ _ 22 rfl w.heap.size 37 i0 _ 7 24 Try.underlying22 Hi.out Hz0.out Hz1.out Hz2.out rfl (by decide) _ 0 _ rfl Hr.out _ x.length _ rfl hsr.out (by rw [flatMap_len len_enc]) (by intro z hz; obtain ⟨p, _, hp⟩ := List.mem_flatMap.1 hz; exact pieceRep_one p z hp) (by unfold maxLen; omega) (by omega) hs2 ?_); intro v' w' hown hg _)
          go_roundw
          case rel => exact ⟨Hb.out.grown hg hs2 (fun j hj => (Hr.out.lt j hj).1), .inr (.inl ⟨rfl, by simpa [RowP] using hown⟩)⟩
          case measure => simp [intOf]
        · have e1 := keepCell hbr c1
          have hsr := Lib.hid (flat_src (by decide) (HY.out.below pieceRep hbr (Nat.le_refl _)))
          have hs2 := hbr.size
          have Hr := Lib.hid hr; have Hb := Lib.hid hbr; clear hr hbr c0 c1
          go_wp2_with (at_builtin; (refine wpList_append_src _ rfl _ _ 22 rfl w.heap.size 37 i0 _ 7 24 Try.underlying22 Hi.out Hz0.out Hz1.out Hz2.out rfl (by decide) _ x.length _ rfl Hr.out _ y.length _ rfl hsr.out (by rw [flatMap_len len_enc]) (by intro z hz; obtain ⟨p, _, hp⟩ := List.mem_flatMap.1 hz; exact pieceRep_one p z hp) (by unfold maxLen; omega) (by omega) hs2 ?_); intro v' w' hown hg _)
          go_roundw
          case rel => exact ⟨Hb.out.grown hg hs2 (fun j hj => (Hr.out.lt j hj).1), .inr (.inr ⟨rfl, by simpa [RowP] using hown⟩)⟩
          case measure => simp [intOf]
        · have Hr := Lib.hid hr; have Hb := Lib.hid hbr; clear hr hbr c0 c1
          go_wp2_with fail
          go_ret
          exact ⟨_, rfl, Hr.out, Hb.out⟩
end Go.Proofs.Ytegjcghcknpjeaa
