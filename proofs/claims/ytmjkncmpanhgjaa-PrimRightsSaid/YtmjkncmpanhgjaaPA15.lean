import Derived.Test.YtmjkncmpanhgjaaPA14
import Derived.Test.YtmjkncmpanhgjaaPA13
namespace Go.Proofs.Ytmjkncmpanhgjaa
set_option maxRecDepth 100000
open Go.RowKit
set_option linter.unusedVariables false
set_option linter.unusedSimpArgs false

/-! windrowref07.rev, windrowref07.turn. -/
theorem SlA.form {w : World} {v : Value} {xs : List Int} (h : SlA w v xs) : ∃ a c, v = .slice a xs.length c := by obtain ⟨a, c, e, _⟩ := h; exact ⟨a, c, e⟩
theorem RowI.fm {B : Nat} {w : World} {v : Value} {xs : List Int} (h : RowI B w v xs) : ∃ a c, v = .slice a xs.length c := by obtain ⟨a, c, e, _⟩ := h.slice; exact ⟨a, c, e⟩
theorem flat_take_succ {α : Type} (f : List α → List α) {l : List (List α)} {k : Nat} (h : k < l.length) : ((l.take (k + 1)).map f).flatten = ((l.take k).map f).flatten ++ f l[k] := by
  rw [List.take_succ_eq_append_getElem h, List.map_append, List.flatten_append]
  simp only [List.map_cons, List.map_nil, List.flatten_cons, List.flatten_nil, List.append_nil]
theorem flat_take_le {l : List (List Int)} (k : Nat) : ((l.take k).map List.reverse).flatten.length ≤ l.flatten.length := by
  rw [flat_rev_len]; exact flatLen_le l k
set_option maxHeartbeats 4000000 in
theorem rrev_any (w : World) (v u : Value) (s d : List Int) (hs : SlA w v s) (hd : SlA w u d) (hr : right s d = true) :
    Calls Try.prog 44 #[.agg #[v, u]] w fun e w' => RetArr w.heap.size (okA s (revD s d)) e w' ∧ Below w.heap.size w w' := by
  obtain ⟨lx, hl⟩ := lane_facts hr
  have hrev : revD s d = (lx.map List.reverse).flatten := by unfold revD; rw [hl.eq]
  obtain ⟨fl, hfl⟩ : ∃ fl, (lx.map List.reverse).flatten = fl := ⟨_, rfl⟩
  rw [hfl] at hrev
  have HFL := Lib.hid hfl
  have HL := Lib.hid hl
  have hd6 := (right_good hr).2.le
  have hs4 := (right_good hr).2.len
  have HSRC := Lib.hid hs.src
  rw [hrev]
  clear hl hrev hfl
  obtain ⟨a0, c0, rfl, h01, h02, -, h04, -⟩ := hs
  obtain ⟨a1, c1, rfl, h11, h12, -, h14, hin⟩ := hd
  have h02' : c0 ≤ 9223372036854775807 := h02
  have h12' : c1 ≤ 9223372036854775807 := h12
  have HM : Hid (s.length ≤ maxLen) := Lib.hid (Nat.le_trans h01 h02)
  have HRT := Lib.hid hr; have H0 := Lib.hid h04; have H1 := Lib.hid h14; have HIN := Lib.hid hin
  have HO := Lib.hid (One.mk0 w (.slice a0 s.length c0) (.slice a1 d.length c1))
  obtain ⟨r, HRR⟩ : ∃ r, Hid ((okA s fl) = r) := ⟨_, Lib.hid rfl⟩
  rw [HRR.out]
  clear hr h04 h14 h02 h12 hin
  go_enter Try.func44, Try.ntmps44
  go_upto_region 1 with fail
  refine gen_worldA (fun W => One w W (.slice a0 s.length c0) (.slice a1 d.length c1)) HO.out ?_
  rintro W hO
  have hq := rlanes_any W a0 a1 c0 c1 s d HM.out h11 (H0.out.below hO.b (Nat.le_refl _)) (H1.out.below hO.b (Nat.le_refl _))
  rw [HL.out.eq] at hq
  have HQ := Lib.hid hq; have HO2 := Lib.hid hO
  have x0 := hO.c0; have x1 := hO.c1
  clear hq HO hO
  go_wp2_with fail
  refine HQ.out.mono ?_
  rintro e W2 ⟨⟨v6, rfl, hv6⟩, hb2⟩
  have HO3 := Lib.hid (HO2.out.next hb2)
  obtain ⟨a6, c6, rfl, hlm, hfo⟩ := hv6.form
  have HR6 := Lib.hid (hv6.mono HO2.out.b.size)
  have hlen := HL.out.len
  obtain ⟨n, hn⟩ : ∃ n, lx.length = n := ⟨_, rfl⟩
  rw [hn] at HR6 hlen hfo ⊢
  have HN := Lib.hid hn; have HFO := Lib.hid hfo
  have hsz2 := HO3.out.b.size
  clear hv6 hb2 HQ HO2 hlm hn x0 x1 hfo
  go_wp2_with fail
  go_loopw [6, 7] (fun o i wr => ∃ k : Nat, k ≤ n ∧ i = .int .i64 k ∧ RowI W2.heap.size wr o ((lx.take k).map List.reverse).flatten ∧ Below W2.heap.size W2 wr) (fun _ i _ => n - (intOf i).toNat)
  case atStart => exact ⟨0, by omega, rfl, by simpa using RowI.nil _ _, Below.refl _ _⟩
  case round =>
    obtain ⟨k, hk, rfl, hrw, hb⟩ := hrel
    by_cases hlt : k < n
    · obtain ⟨g, rfl, hgB⟩ := HFO.out (by omega)
      have hkx : k < lx.length := by rw [HN.out]; exact hlt
      obtain ⟨u9, hc9, hr9, -⟩ := (HR6.out.below hb).get hkx
      have hfs := flat_take_succ List.reverse hkx
      have hfle := flat_take_le (l := lx) (k + 1)
      rw [HL.out.flat, hfs, List.length_append, List.length_reverse] at hfle
      generalize lx[k] = lk at hr9 hfs hfle
      have hlk : lk.length ≤ 65536 := by omega
      obtain ⟨a9, c9, rfl, -, hi9⟩ := hr9.slice
      have hq := turned_any wr (.slice a9 lk.length c9) lk ⟨_, _, rfl, hi9⟩ hlk
      have HQ := Lib.hid hq; have HRW := Lib.hid hrw; have HB := Lib.hid hb; have HFS := Lib.hid hfs; have HLE := Lib.hid hfle
      clear hq hr9 hfs hfle hi9 hrw hb hkx
      go_wp2_with fail
      refine HQ.out.mono ?_
      rintro e w5 ⟨v5, rfl, hv5, hb5⟩
      have HV5 := Lib.hid hv5; have HRW5 := Lib.hid (HRW.out.below hb5); have HB5 := Lib.hid (HB.out.trans (hb5.mono HB.out.size))
      obtain ⟨a5, c5, e5, -, -⟩ := hv5.slice
      rw [List.length_reverse] at e5
      subst e5
      have HSR := Lib.hid (show Src w5 (.slice a5 lk.length c5) lk.length (lk.reverse.map (Value.int .i64)) by have := hv5.src; rwa [List.length_reverse] at this)
      have hsz5 := HB5.out.size
      clear hv5 hb5 HQ HRW HB hc9
      go_wp2_with (at_builtin; refine wpList_app rfl _ _ rfl W2.heap.size _ _ lk.reverse _ lk.length (by simp) rfl HRW5.out rfl HSR.out (by have := HLE.out; omega) hsz5 ?_)
      intro v' w9 hv9 hg9 hn9
      have HV9 := Lib.hid hv9
      have HB9 := Lib.hid (HB5.out.grown hg9 hsz5 (fun g e => (HRW5.out.lt g e).1))
      clear hv9 hg9 hn9 HRW5 HB5 HSR HV5 hsz5
      go_wp2_with fail
      go_roundw
      case rel => exact ⟨k + 1, by omega, by go_num, by rw [HFS.out]; have := HV9.out; rwa [← List.map_take] at this, HB9.out⟩
      case measure => simp [intOf] <;> omega
    · obtain rfl : k = n := by omega
      have hfin : ((lx.take k).map List.reverse).flatten = fl := by
        rw [List.take_of_length_le (by rw [HN.out]; exact Nat.le_refl _)]; exact HFL.out
      rw [hfin] at hrw
      have hO := HO3.out.next hb
      obtain ⟨a5, c5, rfl, -, -⟩ := hrw.slice
      have hq := made_any wr w.heap.size hO.b.size (.slice a0 s.length c0) (.slice a5 fl.length c5) s fl ⟨_, _, rfl⟩ (HSRC.out.below hO.b) (by omega) (hrw.mono hsz2)
      rw [HRR.out] at hq
      have HQ := Lib.hid hq; have HR := Lib.hid hO.r; have HB := Lib.hid hO.b
      have x0 := hO.c0
      clear hq hO hrw hlt hfin hb
      go_wp2_with fail
      refine (Hid.out HQ).mono ?_
      rintro e w9 ⟨⟨v9, u9, rfl, hv9, hu9, hap9⟩, hb9⟩
      have hR9 := block_below (Hid.out HR) hb9
      have HV9 := Lib.hid hv9; have HU9 := Lib.hid hu9; have HAP9 := Lib.hid hap9; have HR9 := Lib.hid hR9
      have HB9 := Lib.hid (bNext hb9 (Hid.out HB))
      obtain ⟨a9, c9, rfl, -, -⟩ := RowI.slice hv9
      obtain ⟨a8, c8, rfl, -, -⟩ := RowI.slice hu9
      have g0 := cell_of_row w9 _ 0 _ _ _ hR9; have g1 := cell_of_row w9 _ 1 _ _ _ hR9
      have z0 := frozen_of_row w9 _ 0 _ _ hR9; have z1 := frozen_of_row w9 _ 1 _ _ hR9
      clear hv9 hu9 hap9 hb9 hR9
      go_wp2_with fail
      exact fin_arr rfl rfl rfl HR9.out HV9.out HU9.out HAP9.out HB9.out (by omega)
def turnW (s d : List Int) (k : Nat) : List Int := (List.range d.length).map fun j => if turnAt s j < k then d.getD (turnAt s j) 0 else 0
theorem turnW_len (s d : List Int) (k : Nat) : (turnW s d k).length = d.length := by simp [turnW]
theorem turnW_zero (s d : List Int) : turnW s d 0 = List.replicate d.length 0 := by
  apply List.ext_getElem
  · simp [turnW]
  · intro i h1 h2; simp [turnW]
theorem turnW_all {s d : List Int} (h : right s d = true) : turnW s d d.length = turnD s d := by
  unfold turnW turnD
  refine List.map_congr_left fun j hj => ?_
  rw [if_pos (turn_place h (List.mem_range.1 hj)).2.1]
theorem turnW_step {s d : List Int} (h : right s d = true) {k : Nat} (hk : k < d.length) : (turnW s d k).set (turnAt s.reverse k) (d.getD k 0) = turnW s d (k + 1) := by
  have hr : right s.reverse d = true := by rw [right_reverse]; exact h
  obtain ⟨-, t2, t3⟩ := turn_place hr hk
  rw [List.reverse_reverse] at t3
  apply List.ext_getElem
  · simp [turnW]
  · intro i h1 h2
    have hi : i < d.length := by simpa [turnW] using h2
    rw [List.getElem_set]
    have e2 : (turnW s d (k + 1))[i] = if turnAt s i < k + 1 then d.getD (turnAt s i) 0 else 0 := by simp [turnW]
    rw [e2]
    by_cases e : turnAt s.reverse k = i
    · rw [if_pos e]
      subst e
      rw [t3, if_pos (by omega)]
    · rw [if_neg e]
      have e3 : (turnW s d k)[i]'(by rw [turnW_len]; exact hi) = if turnAt s i < k then d.getD (turnAt s i) 0 else 0 := by simp [turnW]
      rw [e3]
      have hne : turnAt s i ≠ k := fun e4 => e (by rw [← e4]; exact (turn_place h hi).2.2)
      by_cases h5 : turnAt s i < k
      · rw [if_pos h5, if_pos (by omega)]
      · rw [if_neg h5, if_neg (by omega)]
set_option maxHeartbeats 8000000 in
theorem rturn_any (w : World) (v u : Value) (s d : List Int) (hs : SlA w v s) (hd : SlA w u d) (hr : right s d = true) :
    Calls Try.prog 45 #[.agg #[v, u]] w fun e w' => RetArr w.heap.size (turnA s d) e w' ∧ Below w.heap.size w w' := by
  have hd6 := (right_good hr).2.le
  have hs4 := (right_good hr).2.len
  obtain ⟨i0, hi, hz0, hz1, hz2⟩ := info_parts Try.info2
  have Hi := Lib.hid hi; have Hz0 := Lib.hid hz0; have Hz1 := Lib.hid hz1; have Hz2 := Lib.hid hz2; clear hi hz0 hz1 hz2
  obtain ⟨a0, c0, rfl, h01, h02, -, h04, -⟩ := hs
  obtain ⟨a1, c1, rfl, h11, h12, -, h14, hin⟩ := hd
  have h02' : c0 ≤ 9223372036854775807 := h02
  have h12' : c1 ≤ 9223372036854775807 := h12
  have HM : Hid (s.length ≤ maxLen) := Lib.hid (Nat.le_trans h01 h02)
  have HRT := Lib.hid hr; have H0 := Lib.hid h04; have H1 := Lib.hid h14; have HIN := Lib.hid hin
  have HO := Lib.hid (One.mk0 w (.slice a0 s.length c0) (.slice a1 d.length c1))
  obtain ⟨r, HRR⟩ : ∃ r, Hid ((turnA s d) = r) := ⟨_, Lib.hid rfl⟩
  rw [HRR.out]
  clear hr h04 h14 h02 h12 hin
  go_enter Try.func45, Try.ntmps45
  go_upto_region 1 with fail
  refine gen_worldA (fun W => One w W (.slice a0 s.length c0) (.slice a1 d.length c1)) HO.out ?_
  rintro W hO
  have hq := turned_any W (.slice a0 s.length c0) s ⟨_, _, rfl, H0.out.below hO.b (Nat.le_refl _)⟩ (by omega)
  have HQ := Lib.hid hq; have HO1 := Lib.hid hO
  have x0 := hO.c0
  clear hq hO HO
  go_wp2_with fail
  refine HQ.out.mono ?_
  rintro e w2 ⟨v4, rfl, hv4, hb2⟩
  have HO3 := Lib.hid (HO1.out.next hb2)
  have x1 := HO3.out.c1
  have HV5 := Lib.hid (hv4.mono HO1.out.b.size)
  obtain ⟨a4, c4, e4, -, -⟩ := hv4.slice
  rw [List.length_reverse] at e4
  subst e4
  have hsz := HO3.out.b.size
  clear hb2 HQ hv4 HO1 x0
  go_wp2_with (at_make; refine wpList_make_full _ rfl _ _ 22 rfl w.heap.size 2 i0 (.int .i64 0) 1 Try.underlying22 Hi.out Hz0.out Hz1.out _ _ _ _ d.length rfl rfl rfl rfl ?c2 ?c3 ?c4 ?_)
  case c2 => rw [Hz2.out]; omega
  case c3 => unfold maxLen; omega
  case c4 => exact hsz
  intro w3 hown hgrow
  have hb3 : Below w2.heap.size w2 w3 := (Below.refl _ _).grown hgrow (Nat.le_refl _) (by simp)
  have HO4 := Lib.hid (HO3.out.next hb3)
  have HROW := Lib.hid (made_ints hown)
  have HV6 := Lib.hid (HV5.out.below hb3)
  obtain ⟨G, hG⟩ : ∃ G, w2.heap.size = G := ⟨_, rfl⟩
  have HAP : Hid (∀ g, (Value.slice a4 s.length c4).ownBlock = some g → g ≠ G) := Lib.hid fun g e => by have := (HV5.out.lt g e).2; omega
  rw [hG] at HROW ⊢
  have hGl : w.heap.size + 1 < G := hG ▸ HO3.out.lt
  clear hown hgrow HO3 x1 hG hb3 HV5
  go_wp2_with fail
  go_loopw [6] (fun i wr => ∃ k : Nat, k ≤ d.length ∧ i = .int .i64 k ∧ One w wr (.slice a0 s.length c0) (.slice a1 d.length c1) ∧ RowI w.heap.size wr (.slice a4 s.length c4) s.reverse ∧
    RowI w.heap.size wr (.slice (some ⟨G, 0, none⟩) d.length d.length) (turnW s d k)) (fun i _ => d.length - (intOf i).toNat)
  case atStart => exact ⟨0, by omega, rfl, HO4.out, HV6.out, by rw [turnW_zero]; exact HROW.out⟩
  case round =>
    obtain ⟨k, hk, rfl, hO, hv, hrw⟩ := hrel
    clear HO4 HV6 HROW
    by_cases hlt : k < d.length
    · have hq := rindex_any wr a0 c0 s k HM.out (H0.out.below hO.b (Nat.le_refl _))
      have hrr : right s.reverse d = true := by rw [right_reverse]; exact HRT.out
      have hir := idx_rev hrr hlt
      obtain ⟨ht1, ht2, -⟩ := turn_place hrr hlt
      rw [List.reverse_reverse] at hir ht1
      rw [hir] at hq
      have hset := fun W (h : RowI w.heap.size W (.slice (some ⟨G, 0, none⟩) d.length d.length) (turnW s d k)) => by
        have := h.set (turnAt s.reverse k) (d.getD k 0)
        rwa [turnW_step HRT.out hlt] at this
      obtain ⟨b1, off1, rfl, hc1⟩ := H1.out.atD hlt
      have hil : (idx s (k : Int)).length = s.length := length_idx _ _
      generalize idx s (k : Int) = ix at hq ht1 hil
      have HQ := Lib.hid hq; have HT := Lib.hid ht1; have HIL := Lib.hid hil; have HSET := Lib.hid hset; have HOR := Lib.hid hO; have HV := Lib.hid hv; have HRW := Lib.hid hrw; have HC1 := Lib.hid (keepCell hO.b hc1)
      generalize d.getD k 0 = y at hc1 hset HSET HC1
      generalize turnAt s.reverse k = t at *
      have x0 := hO.c0
      clear hil hq ht1 hset hO hv hrw hc1 hrr hir
      go_wp2_with fail
      refine HQ.out.mono ?_
      rintro e w5 ⟨⟨v5, rfl, hv5⟩, hb5⟩
      obtain ⟨a5, c5, e5, -, hi5⟩ := hv5.slice
      have hq := turned_any w5 v5 ix ⟨_, _, e5, hi5⟩ (by rw [HIL.out]; omega)
      rw [HIL.out] at e5
      subst e5
      have HQ5 := Lib.hid hq; have HB5 := Lib.hid hb5
      clear hq hv5 hb5 HQ hi5 x0
      go_wp2_with fail
      refine HQ5.out.mono ?_
      rintro e w6 ⟨v6, rfl, hv6, hb6'⟩
      have hb6 : Below wr.heap.size wr w6 := HB5.out.trans (hb6'.mono HB5.out.size)
      have hO6 := HOR.out.next hb6
      obtain ⟨a6, c6, e6, -, hi6⟩ := hv6.slice
      have hq := rplace_any w6 a4 a6 c4 c6 s.reverse ix.reverse (by rw [List.length_reverse]; exact HM.out) (by rw [List.length_reverse, HIL.out]; exact HM.out) (RowI.ints (HV.out.below hb6)) hi6
      rw [List.length_reverse, List.length_reverse, HIL.out] at hq
      rw [List.length_reverse, HIL.out] at e6
      rw [HT.out] at hq
      subst e6
      have HB6 := Lib.hid hb6; have HQ6 := Lib.hid hq
      clear hb6 hq hO6 hv6 hi6 HB5 HQ5 HT hb6'
      go_wp2_with fail
      refine HQ6.out.mono ?_
      rintro e w7 ⟨rfl, hb7⟩
      have hb7' := HB6.out.trans (hb7.mono HB6.out.size)
      have hO7 := HOR.out.next hb7'
      have x1 := hO7.c1
      have hcc := keepCell hb7' HC1.out
      have hr7 := HRW.out.below hb7'
      have hf7 := hr7.fr t
      have hg7 := hr7.at (k := t) (by rw [turnW_len]; exact ht2)
      have HV7 := Lib.hid (HV.out.below hb7'); have HO7 := Lib.hid hO7; have HR7 := Lib.hid hr7
      have hkd : (k : Int) < (d.length : Int) := by omega
      have htd : (t : Int) < (d.length : Int) := by omega
      clear HB6 HQ6 HOR HV HRW HC1 hb7 hb7' hO7 hr7
      unfold two
      go_wp2_with fail
      go_roundw
      case rel =>
        refine ⟨k + 1, by omega, by go_num, HO7.out.cell hGl, own_other HV7.out HAP.out _, HSET.out _ HR7.out⟩
      case measure => simp [intOf]; omega
    · obtain rfl : k = d.length := by omega
      rw [turnW_all HRT.out] at hrw
      have hq := made_any wr w.heap.size hO.b.size (.slice a4 s.length c4) (.slice (some ⟨G, 0, none⟩) d.length d.length) s.reverse (turnD s d) ⟨_, _, by rw [List.length_reverse]⟩ hv.src (by rw [List.length_reverse]; omega) hrw
      rw [show okA s.reverse (turnD s d) = r from HRR.out] at hq
      have HQ := Lib.hid hq; have HR := Lib.hid hO.r; have HB := Lib.hid hO.b
      clear hq hO hv hrw hlt
      go_wp2_with fail
      refine (Hid.out HQ).mono ?_
      rintro e w9 ⟨⟨v9, u9, rfl, hv9, hu9, hap9⟩, hb9⟩
      have hR9 := block_below (Hid.out HR) hb9
      have HV9 := Lib.hid hv9; have HU9 := Lib.hid hu9; have HAP9 := Lib.hid hap9; have HR9 := Lib.hid hR9
      have HB9 := Lib.hid (bNext hb9 (Hid.out HB))
      obtain ⟨a9, c9, rfl, -, -⟩ := RowI.slice hv9
      obtain ⟨a8, c8, rfl, -, -⟩ := RowI.slice hu9
      have g0 := cell_of_row w9 _ 0 _ _ _ hR9; have g1 := cell_of_row w9 _ 1 _ _ _ hR9
      have z0 := frozen_of_row w9 _ 0 _ _ hR9; have z1 := frozen_of_row w9 _ 1 _ _ hR9
      clear hv9 hu9 hap9 hb9 hR9
      go_wp2_with fail
      exact fin_arr rfl rfl rfl HR9.out HV9.out HU9.out HAP9.out HB9.out (by omega)
end Go.Proofs.Ytmjkncmpanhgjaa

namespace Go.Proofs.Ytmjkncmpanhgjaa
set_option maxRecDepth 100000
open Go.RowKit
set_option linter.unusedVariables false
set_option linter.unusedSimpArgs false

/-! windrowref07.Monad, by its functions. -/
theorem rno_at (w : World) (B : Nat) (hB : B ≤ w.heap.size) (x : Int) (r : ArrE) (hr : noA x = r) : Calls Try.prog 42 #[.int .i64 x] w fun e w' => RetArr B r e w' ∧ Below w.heap.size w w' := by
  subst hr; exact retB hB (rno_any w x)
set_option maxHeartbeats 4000000 in
theorem rm_bad (w : World) (f : Int) (v u : Value) (s d : List Int) (hs : SlA w v s) (hd : SlA w u d) (hr : right s d = false) :
    Calls Try.prog 15 #[.int .u8 f, .agg #[v, u]] w fun e w' => RetArr w.heap.size (noA 60) e w' ∧ Below w.heap.size w w' := by
  obtain ⟨a0, c0, rfl, h01, h02, -, h04, -⟩ := hs
  obtain ⟨a1, c1, rfl, h11, h12, -, h14, hin⟩ := hd
  have h02' : c0 ≤ 9223372036854775807 := h02
  have h12' : c1 ≤ 9223372036854775807 := h12
  have HM : Hid (s.length ≤ maxLen) := Lib.hid (Nat.le_trans h01 h02)
  have HRT := Lib.hid hr; have H0 := Lib.hid h04; have H1 := Lib.hid h14; have HIN := Lib.hid hin
  have HO := Lib.hid (One.mk0 w (.slice a0 s.length c0) (.slice a1 d.length c1))
  obtain ⟨r, HRR⟩ : ∃ r, Hid ((noA 60) = r) := ⟨_, Lib.hid rfl⟩
  rw [HRR.out]
  clear hr h04 h14 h02 h12 hin
  go_enter Try.func15, Try.ntmps15
  go_upto_region 1 with fail
  refine gen_worldA (fun W => One w W (.slice a0 s.length c0) (.slice a1 d.length c1)) HO.out ?_
  rintro W hO
  have hq := rright_any W a0 a1 c0 c1 s d HM.out (H0.out.below hO.b (Nat.le_refl _))
  rw [HRT.out] at hq
  have HQ := Lib.hid hq; have HO1 := Lib.hid hO
  have x0 := hO.c0; have x1 := hO.c1
  clear hq hO
  go_wp2_with fail
  refine HQ.out.mono ?_
  rintro e W1 ⟨rfl, hb1⟩
  have HO2 := Lib.hid (HO1.out.next hb1)
  clear x0 x1
  have x0 := HO2.out.c0; have x1 := HO2.out.c1
  clear hb1 HQ HO1
  have hq := rno_at W1 w.heap.size HO2.out.b.size 60 r HRR.out
  have HQ := Lib.hid hq; have HR := Lib.hid HO2.out.r; have HB := Lib.hid HO2.out.b
  clear hq HO
  go_wp2_with fail
  refine (Hid.out HQ).mono ?_
  rintro e w9 ⟨⟨v9, u9, rfl, hv9, hu9, hap9⟩, hb9⟩
  have hR9 := block_below (Hid.out HR) hb9
  have HV9 := Lib.hid hv9; have HU9 := Lib.hid hu9; have HAP9 := Lib.hid hap9; have HR9 := Lib.hid hR9
  have HB9 := Lib.hid (bNext hb9 (Hid.out HB))
  obtain ⟨a9, c9, rfl, -, -⟩ := RowI.slice hv9
  obtain ⟨a8, c8, rfl, -, -⟩ := RowI.slice hu9
  have g0 := cell_of_row w9 _ 0 _ _ _ hR9; have g1 := cell_of_row w9 _ 1 _ _ _ hR9
  have z0 := frozen_of_row w9 _ 0 _ _ hR9; have z1 := frozen_of_row w9 _ 1 _ _ hR9
  clear hv9 hu9 hap9 hb9 hR9
  go_wp2_with fail
  exact fin_arr rfl rfl rfl HR9.out HV9.out HU9.out HAP9.out HB9.out (by omega)
set_option maxHeartbeats 4000000 in
theorem rm_turn (w : World) (v u : Value) (s d : List Int) (hs : SlA w v s) (hd : SlA w u d) (hr : right s d = true) :
    Calls Try.prog 15 #[.int .u8 36, .agg #[v, u]] w fun e w' => RetArr w.heap.size (turnA s d) e w' ∧ Below w.heap.size w w' := by
  have hs0 := hs; have hd0 := hd; have hr0 := hr
  have HI := Lib.hid (fun W (hb : Below w.heap.size w W) => rturn_any W v u s d (hs0.below hb) (hd0.below hb) hr0)
  clear hs0 hd0 hr0
  obtain ⟨a0, c0, rfl, h01, h02, -, h04, -⟩ := hs
  obtain ⟨a1, c1, rfl, h11, h12, -, h14, hin⟩ := hd
  have h02' : c0 ≤ 9223372036854775807 := h02
  have h12' : c1 ≤ 9223372036854775807 := h12
  have HM : Hid (s.length ≤ maxLen) := Lib.hid (Nat.le_trans h01 h02)
  have HRT := Lib.hid hr; have H0 := Lib.hid h04; have H1 := Lib.hid h14; have HIN := Lib.hid hin
  have HO := Lib.hid (One.mk0 w (.slice a0 s.length c0) (.slice a1 d.length c1))
  obtain ⟨r, HRR⟩ : ∃ r, Hid ((turnA s d) = r) := ⟨_, Lib.hid rfl⟩
  rw [HRR.out]
  clear hr h04 h14 h02 h12 hin
  rw [HRR.out] at HI
  go_enter Try.func15, Try.ntmps15
  go_upto_region 1 with fail
  refine gen_worldA (fun W => One w W (.slice a0 s.length c0) (.slice a1 d.length c1)) HO.out ?_
  rintro W hO
  have hq := rright_any W a0 a1 c0 c1 s d HM.out (H0.out.below hO.b (Nat.le_refl _))
  rw [HRT.out] at hq
  have HQ := Lib.hid hq; have HO1 := Lib.hid hO
  have x0 := hO.c0; have x1 := hO.c1
  clear hq hO
  go_wp2_with fail
  refine HQ.out.mono ?_
  rintro e W1 ⟨rfl, hb1⟩
  have HO2 := Lib.hid (HO1.out.next hb1)
  clear x0 x1
  have x0 := HO2.out.c0; have x1 := HO2.out.c1
  clear hb1 HQ HO1
  have hq := retB HO2.out.b.size (HI.out W1 HO2.out.b)
  have HQ := Lib.hid hq; have HR := Lib.hid HO2.out.r; have HB := Lib.hid HO2.out.b
  clear hq HO HI
  go_wp2_with fail
  refine (Hid.out HQ).mono ?_
  rintro e w9 ⟨⟨v9, u9, rfl, hv9, hu9, hap9⟩, hb9⟩
  have hR9 := block_below (Hid.out HR) hb9
  have HV9 := Lib.hid hv9; have HU9 := Lib.hid hu9; have HAP9 := Lib.hid hap9; have HR9 := Lib.hid hR9
  have HB9 := Lib.hid (bNext hb9 (Hid.out HB))
  obtain ⟨a9, c9, rfl, -, -⟩ := RowI.slice hv9
  obtain ⟨a8, c8, rfl, -, -⟩ := RowI.slice hu9
  have g0 := cell_of_row w9 _ 0 _ _ _ hR9; have g1 := cell_of_row w9 _ 1 _ _ _ hR9
  have z0 := frozen_of_row w9 _ 0 _ _ hR9; have z1 := frozen_of_row w9 _ 1 _ _ hR9
  clear hv9 hu9 hap9 hb9 hR9
  go_wp2_with fail
  exact fin_arr rfl rfl rfl HR9.out HV9.out HU9.out HAP9.out HB9.out (by omega)
set_option maxHeartbeats 4000000 in
theorem rm_rev (w : World) (v u : Value) (s d : List Int) (hs : SlA w v s) (hd : SlA w u d) (hr : right s d = true) :
    Calls Try.prog 15 #[.int .u8 35, .agg #[v, u]] w fun e w' => RetArr w.heap.size (okA s (revD s d)) e w' ∧ Below w.heap.size w w' := by
  have hs0 := hs; have hd0 := hd; have hr0 := hr
  have HI := Lib.hid (fun W (hb : Below w.heap.size w W) => rrev_any W v u s d (hs0.below hb) (hd0.below hb) hr0)
  clear hs0 hd0 hr0
  obtain ⟨a0, c0, rfl, h01, h02, -, h04, -⟩ := hs
  obtain ⟨a1, c1, rfl, h11, h12, -, h14, hin⟩ := hd
  have h02' : c0 ≤ 9223372036854775807 := h02
  have h12' : c1 ≤ 9223372036854775807 := h12
  have HM : Hid (s.length ≤ maxLen) := Lib.hid (Nat.le_trans h01 h02)
  have HRT := Lib.hid hr; have H0 := Lib.hid h04; have H1 := Lib.hid h14; have HIN := Lib.hid hin
  have HO := Lib.hid (One.mk0 w (.slice a0 s.length c0) (.slice a1 d.length c1))
  obtain ⟨r, HRR⟩ : ∃ r, Hid ((okA s (revD s d)) = r) := ⟨_, Lib.hid rfl⟩
  rw [HRR.out]
  clear hr h04 h14 h02 h12 hin
  rw [HRR.out] at HI
  go_enter Try.func15, Try.ntmps15
  go_upto_region 1 with fail
  refine gen_worldA (fun W => One w W (.slice a0 s.length c0) (.slice a1 d.length c1)) HO.out ?_
  rintro W hO
  have hq := rright_any W a0 a1 c0 c1 s d HM.out (H0.out.below hO.b (Nat.le_refl _))
  rw [HRT.out] at hq
  have HQ := Lib.hid hq; have HO1 := Lib.hid hO
  have x0 := hO.c0; have x1 := hO.c1
  clear hq hO
  go_wp2_with fail
  refine HQ.out.mono ?_
  rintro e W1 ⟨rfl, hb1⟩
  have HO2 := Lib.hid (HO1.out.next hb1)
  clear x0 x1
  have x0 := HO2.out.c0; have x1 := HO2.out.c1
  clear hb1 HQ HO1
  have hq := retB HO2.out.b.size (HI.out W1 HO2.out.b)
  have HQ := Lib.hid hq; have HR := Lib.hid HO2.out.r; have HB := Lib.hid HO2.out.b
  clear hq HO HI
  go_wp2_with fail
  refine (Hid.out HQ).mono ?_
  rintro e w9 ⟨⟨v9, u9, rfl, hv9, hu9, hap9⟩, hb9⟩
  have hR9 := block_below (Hid.out HR) hb9
  have HV9 := Lib.hid hv9; have HU9 := Lib.hid hu9; have HAP9 := Lib.hid hap9; have HR9 := Lib.hid hR9
  have HB9 := Lib.hid (bNext hb9 (Hid.out HB))
  obtain ⟨a9, c9, rfl, -, -⟩ := RowI.slice hv9
  obtain ⟨a8, c8, rfl, -, -⟩ := RowI.slice hu9
  have g0 := cell_of_row w9 _ 0 _ _ _ hR9; have g1 := cell_of_row w9 _ 1 _ _ _ hR9
  have z0 := frozen_of_row w9 _ 0 _ _ hR9; have z1 := frozen_of_row w9 _ 1 _ _ hR9
  clear hv9 hu9 hap9 hb9 hR9
  go_wp2_with fail
  exact fin_arr rfl rfl rfl HR9.out HV9.out HU9.out HAP9.out HB9.out (by omega)
set_option maxHeartbeats 4000000 in
theorem rm_no (w : World) (f : Int) (v u : Value) (s d : List Int) (hs : SlA w v s) (hd : SlA w u d) (hr : right s d = true) (hf : f < 32 ∨ 36 < f) (ht : takes f false = false) :
    Calls Try.prog 15 #[.int .u8 f, .agg #[v, u]] w fun e w' => RetArr w.heap.size (noA 70) e w' ∧ Below w.heap.size w w' := by
  have g0 : (f == 32) = false := by rw [beq_eq_false_iff_ne]; omega
  have g1 : (f == 33) = false := by rw [beq_eq_false_iff_ne]; omega
  have g2 : (f == 34) = false := by rw [beq_eq_false_iff_ne]; omega
  have g3 : (f == 35) = false := by rw [beq_eq_false_iff_ne]; omega
  have g4 : (f == 36) = false := by rw [beq_eq_false_iff_ne]; omega
  have HT := Lib.hid (fun W => rtakes_at W f false false ht)
  clear hf ht
  obtain ⟨a0, c0, rfl, h01, h02, -, h04, -⟩ := hs
  obtain ⟨a1, c1, rfl, h11, h12, -, h14, hin⟩ := hd
  have h02' : c0 ≤ 9223372036854775807 := h02
  have h12' : c1 ≤ 9223372036854775807 := h12
  have HM : Hid (s.length ≤ maxLen) := Lib.hid (Nat.le_trans h01 h02)
  have HRT := Lib.hid hr; have H0 := Lib.hid h04; have H1 := Lib.hid h14; have HIN := Lib.hid hin
  have HO := Lib.hid (One.mk0 w (.slice a0 s.length c0) (.slice a1 d.length c1))
  obtain ⟨r, HRR⟩ : ∃ r, Hid ((noA 70) = r) := ⟨_, Lib.hid rfl⟩
  rw [HRR.out]
  clear hr h04 h14 h02 h12 hin
  go_enter Try.func15, Try.ntmps15
  go_upto_region 1 with fail
  refine gen_worldA (fun W => One w W (.slice a0 s.length c0) (.slice a1 d.length c1)) HO.out ?_
  rintro W hO
  have hq := rright_any W a0 a1 c0 c1 s d HM.out (H0.out.below hO.b (Nat.le_refl _))
  rw [HRT.out] at hq
  have HQ := Lib.hid hq; have HO1 := Lib.hid hO
  have x0 := hO.c0; have x1 := hO.c1
  clear hq hO
  go_wp2_with fail
  refine HQ.out.mono ?_
  rintro e W1 ⟨rfl, hb1⟩
  have HO2 := Lib.hid (HO1.out.next hb1)
  clear x0 x1
  have x0 := HO2.out.c0; have x1 := HO2.out.c1
  clear hb1 HQ HO1
  have HQ0 := Lib.hid (HT.out W1)
  go_wp2_with fail
  refine HQ0.out.mono ?_
  rintro e W2 ⟨rfl, rfl⟩
  have hq := rno_at W1 w.heap.size HO2.out.b.size 70 r HRR.out
  have HQ := Lib.hid hq; have HR := Lib.hid HO2.out.r; have HB := Lib.hid HO2.out.b
  clear hq HO HQ0 HT
  go_wp2_with fail
  refine (Hid.out HQ).mono ?_
  rintro e w9 ⟨⟨v9, u9, rfl, hv9, hu9, hap9⟩, hb9⟩
  have hR9 := block_below (Hid.out HR) hb9
  have HV9 := Lib.hid hv9; have HU9 := Lib.hid hu9; have HAP9 := Lib.hid hap9; have HR9 := Lib.hid hR9
  have HB9 := Lib.hid (bNext hb9 (Hid.out HB))
  obtain ⟨a9, c9, rfl, -, -⟩ := RowI.slice hv9
  obtain ⟨a8, c8, rfl, -, -⟩ := RowI.slice hu9
  have g0 := cell_of_row w9 _ 0 _ _ _ hR9; have g1 := cell_of_row w9 _ 1 _ _ _ hR9
  have z0 := frozen_of_row w9 _ 0 _ _ hR9; have z1 := frozen_of_row w9 _ 1 _ _ hR9
  clear hv9 hu9 hap9 hb9 hR9
  go_wp2_with fail
  exact fin_arr rfl rfl rfl HR9.out HV9.out HU9.out HAP9.out HB9.out (by omega)
set_option maxHeartbeats 4000000 in
theorem rm_iota (w : World) (v u : Value) (s d : List Int) (hs : SlA w v s) (hd : SlA w u d) (hr : right s d = true) :
    Calls Try.prog 15 #[.int .u8 32, .agg #[v, u]] w fun e w' => RetArr w.heap.size (iotaA s d) e w' ∧ Below w.heap.size w w' := by
  have HSRC := Lib.hid hd.src
  by_cases hs0 : 0 < s.length
  · have hi : iotaA s d = noA 71 := by unfold iotaA; rw [if_pos hs0]
    rw [hi]
    clear hi
    obtain ⟨a0, c0, rfl, h01, h02, -, h04, -⟩ := hs
    obtain ⟨a1, c1, rfl, h11, h12, -, h14, hin⟩ := hd
    have h02' : c0 ≤ 9223372036854775807 := h02
    have h12' : c1 ≤ 9223372036854775807 := h12
    have HM : Hid (s.length ≤ maxLen) := Lib.hid (Nat.le_trans h01 h02)
    have HRT := Lib.hid hr; have H0 := Lib.hid h04; have H1 := Lib.hid h14; have HIN := Lib.hid hin
    have HO := Lib.hid (One.mk0 w (.slice a0 s.length c0) (.slice a1 d.length c1))
    obtain ⟨r, HRR⟩ : ∃ r, Hid ((noA 71) = r) := ⟨_, Lib.hid rfl⟩
    rw [HRR.out]
    clear hr h04 h14 h02 h12 hin
    go_enter Try.func15, Try.ntmps15
    go_upto_region 1 with fail
    refine gen_worldA (fun W => One w W (.slice a0 s.length c0) (.slice a1 d.length c1)) HO.out ?_
    rintro W hO
    have hq := rright_any W a0 a1 c0 c1 s d HM.out (H0.out.below hO.b (Nat.le_refl _))
    rw [HRT.out] at hq
    have HQ := Lib.hid hq; have HO1 := Lib.hid hO
    have x0 := hO.c0; have x1 := hO.c1
    clear hq hO
    go_wp2_with fail
    refine HQ.out.mono ?_
    rintro e W1 ⟨rfl, hb1⟩
    have HO2 := Lib.hid (HO1.out.next hb1)
    clear x0 x1
    have x0 := HO2.out.c0; have x1 := HO2.out.c1
    clear hb1 HQ HO1
    have hq := rno_at W1 w.heap.size HO2.out.b.size 71 r HRR.out
    have HQ := Lib.hid hq; have HR := Lib.hid HO2.out.r; have HB := Lib.hid HO2.out.b
    clear hq HO
    go_wp2_with fail
    refine (Hid.out HQ).mono ?_
    rintro e w9 ⟨⟨v9, u9, rfl, hv9, hu9, hap9⟩, hb9⟩
    have hR9 := block_below (Hid.out HR) hb9
    have HV9 := Lib.hid hv9; have HU9 := Lib.hid hu9; have HAP9 := Lib.hid hap9; have HR9 := Lib.hid hR9
    have HB9 := Lib.hid (bNext hb9 (Hid.out HB))
    obtain ⟨a9, c9, rfl, -, -⟩ := RowI.slice hv9
    obtain ⟨a8, c8, rfl, -, -⟩ := RowI.slice hu9
    have g0 := cell_of_row w9 _ 0 _ _ _ hR9; have g1 := cell_of_row w9 _ 1 _ _ _ hR9
    have z0 := frozen_of_row w9 _ 0 _ _ hR9; have z1 := frozen_of_row w9 _ 1 _ _ hR9
    clear hv9 hu9 hap9 hb9 hR9
    go_wp2_with fail
    exact fin_arr rfl rfl rfl HR9.out HV9.out HU9.out HAP9.out HB9.out (by omega)
  · have hd1 : d.length = 1 := by
      have e := (right_good hr).1
      rw [List.eq_nil_of_length_eq_zero (l := s) (by omega)] at e
      have : size [] = (1, 0) := rfl
      rw [this] at e
      injection e with e
      omega
    have hi : iotaA s d = if d.headD 0 < 0 ∨ 65536 < d.headD 0 then noA 73 else okA d (iotaL (d.headD 0).toNat) := by
      unfold iotaA; rw [if_neg hs0]
      congr 1
      rcases d with _ | ⟨n, _ | ⟨m, d⟩⟩ <;> simp at hd1
      rfl
    rw [hi]
    have HD1 := Lib.hid hd1
    have hd0 : (0 : Int) < (d.length : Int) := by omega
    have hn0 : d.getD 0 0 = d.headD 0 := by cases d <;> rfl
    obtain ⟨n, hn⟩ : ∃ n, d.headD 0 = n := ⟨_, rfl⟩
    rw [hn] at hn0 ⊢
    have HN0 := Lib.hid hn0
    clear hi hn hd1 hn0
    obtain ⟨a0, c0, rfl, h01, h02, -, h04, -⟩ := hs
    obtain ⟨a1, c1, rfl, h11, h12, -, h14, hin⟩ := hd
    have h02' : c0 ≤ 9223372036854775807 := h02
    have h12' : c1 ≤ 9223372036854775807 := h12
    have HM : Hid (s.length ≤ maxLen) := Lib.hid (Nat.le_trans h01 h02)
    have HRT := Lib.hid hr; have H0 := Lib.hid h04; have H1 := Lib.hid h14; have HIN := Lib.hid hin
    have HO := Lib.hid (One.mk0 w (.slice a0 s.length c0) (.slice a1 d.length c1))
    obtain ⟨r, HRR⟩ : ∃ r, Hid ((if n < 0 ∨ 65536 < n then noA 73 else okA d (iotaL n.toNat)) = r) := ⟨_, Lib.hid rfl⟩
    rw [HRR.out]
    clear hr h04 h14 h02 h12 hin
    by_cases hn : n < 0 ∨ 65536 < n
    · rw [if_pos hn] at HRR
      go_enter Try.func15, Try.ntmps15
      go_upto_region 1 with fail
      refine gen_worldA (fun W => One w W (.slice a0 s.length c0) (.slice a1 d.length c1)) HO.out ?_
      rintro W hO
      have hq := rright_any W a0 a1 c0 c1 s d HM.out (H0.out.below hO.b (Nat.le_refl _))
      rw [HRT.out] at hq
      have HQ := Lib.hid hq; have HO1 := Lib.hid hO
      have x0 := hO.c0; have x1 := hO.c1
      clear hq hO
      go_wp2_with fail
      refine HQ.out.mono ?_
      rintro e W1 ⟨rfl, hb1⟩
      have HO2 := Lib.hid (HO1.out.next hb1)
      clear x0 x1
      have x0 := HO2.out.c0; have x1 := HO2.out.c1
      clear hb1 HQ HO1
      obtain ⟨b, off, rfl, hc⟩ := H1.out.atD (k := 0) (by have := HD1.out; omega)
      rw [HN0.out, Nat.add_zero] at hc
      have HC := Lib.hid hc
      clear hc HN0
      have hq := rno_at W1 w.heap.size HO2.out.b.size 73 r HRR.out
      have hcc := keepCell HO2.out.b HC.out
      have HQ := Lib.hid hq; have HR := Lib.hid HO2.out.r; have HB := Lib.hid HO2.out.b
      clear hq HO HC
      rcases hn with hn | hn
      · go_wp2_with fail
        refine (Hid.out HQ).mono ?_
        rintro e w9 ⟨⟨v9, u9, rfl, hv9, hu9, hap9⟩, hb9⟩
        have hR9 := block_below (Hid.out HR) hb9
        have HV9 := Lib.hid hv9; have HU9 := Lib.hid hu9; have HAP9 := Lib.hid hap9; have HR9 := Lib.hid hR9
        have HB9 := Lib.hid (bNext hb9 (Hid.out HB))
        obtain ⟨a9, c9, rfl, -, -⟩ := RowI.slice hv9
        obtain ⟨a8, c8, rfl, -, -⟩ := RowI.slice hu9
        have g0 := cell_of_row w9 _ 0 _ _ _ hR9; have g1 := cell_of_row w9 _ 1 _ _ _ hR9
        have z0 := frozen_of_row w9 _ 0 _ _ hR9; have z1 := frozen_of_row w9 _ 1 _ _ hR9
        clear hv9 hu9 hap9 hb9 hR9
        go_wp2_with fail
        exact fin_arr rfl rfl rfl HR9.out HV9.out HU9.out HAP9.out HB9.out (by omega)
      · have hn0 : ¬ n < 0 := by omega
        go_wp2_with fail
        refine (Hid.out HQ).mono ?_
        rintro e w9 ⟨⟨v9, u9, rfl, hv9, hu9, hap9⟩, hb9⟩
        have hR9 := block_below (Hid.out HR) hb9
        have HV9 := Lib.hid hv9; have HU9 := Lib.hid hu9; have HAP9 := Lib.hid hap9; have HR9 := Lib.hid hR9
        have HB9 := Lib.hid (bNext hb9 (Hid.out HB))
        obtain ⟨a9, c9, rfl, -, -⟩ := RowI.slice hv9
        obtain ⟨a8, c8, rfl, -, -⟩ := RowI.slice hu9
        have g0 := cell_of_row w9 _ 0 _ _ _ hR9; have g1 := cell_of_row w9 _ 1 _ _ _ hR9
        have z0 := frozen_of_row w9 _ 0 _ _ hR9; have z1 := frozen_of_row w9 _ 1 _ _ hR9
        clear hv9 hu9 hap9 hb9 hR9
        go_wp2_with fail
        exact fin_arr rfl rfl rfl HR9.out HV9.out HU9.out HAP9.out HB9.out (by omega)
    · rw [if_neg hn] at HRR
      obtain ⟨m, rfl⟩ : ∃ m : Nat, n = m := ⟨n.toNat, by omega⟩
      have hm : m ≤ 65536 := by omega
      have hn1 : ¬ (m : Int) < 0 := by omega
      have hn2 : ¬ (65536 : Int) < (m : Int) := by omega
      rw [Int.toNat_natCast] at HRR
      clear hn
      go_enter Try.func15, Try.ntmps15
      go_upto_region 1 with fail
      refine gen_worldA (fun W => One w W (.slice a0 s.length c0) (.slice a1 d.length c1)) HO.out ?_
      rintro W hO
      have hq := rright_any W a0 a1 c0 c1 s d HM.out (H0.out.below hO.b (Nat.le_refl _))
      rw [HRT.out] at hq
      have HQ := Lib.hid hq; have HO1 := Lib.hid hO
      have x0 := hO.c0; have x1 := hO.c1
      clear hq hO
      go_wp2_with fail
      refine HQ.out.mono ?_
      rintro e W1 ⟨rfl, hb1⟩
      have HO2 := Lib.hid (HO1.out.next hb1)
      clear x0 x1
      have x0 := HO2.out.c0; have x1 := HO2.out.c1
      clear hb1 HQ HO1
      obtain ⟨b, off, rfl, hc⟩ := H1.out.atD (k := 0) (by have := HD1.out; omega)
      rw [HN0.out, Nat.add_zero] at hc
      have HC := Lib.hid hc
      clear hc HN0
      have hcc := keepCell HO2.out.b HC.out
      have HO3 := Lib.hid HO2.out
      clear HO HO2
      go_wp2_with fail
      clear hcc x0 x1
      go_loopw [6, 7] (fun o i wr => ∃ k : Nat, k ≤ m ∧ i = .int .i64 k ∧ One w wr (.slice a0 s.length c0) (.slice (some ⟨b, off, none⟩) d.length c1) ∧ RowI w.heap.size wr o (iotaL k)) (fun _ i _ => m - (intOf i).toNat)
      case atStart => exact ⟨0, by omega, rfl, HO3.out, RowI.nil _ _⟩
      case round =>
        obtain ⟨k, hk, rfl, hO, hrw⟩ := hrel
        clear HO3
        have hcc := keepCell hO.b HC.out
        have x1 := hO.c1
        by_cases hlt : k < m
        · have hba : Below wr.heap.size wr (wr.alloc (.cells #[.int .i64 (k : Int)] 2)) := (Below.refl _ _).alloc (Nat.le_refl _) _
          have HR := Lib.hid (hrw.below hba); have HOR := Lib.hid hO; have HBA := Lib.hid hba
          have hkm : (k : Int) < (m : Int) := by omega
          have hsz := (hO.next hba).b.size
          have hlen : (iotaL k).length = k := iotaL_len k
          have HLN := Lib.hid hlen
          clear hrw hO hba hlen
          go_wp2_with (at_builtin; refine wpList_app rfl _ _ rfl w.heap.size _ (iotaL k) [(k : Int)] _ 1 rfl rfl HR.out rfl (src_one wr k _ rfl) (by rw [HLN.out]; omega) hsz ?_)
          intro v' w9 hv9 hg9 hn9
          have HV9 := Lib.hid hv9
          have HO9 := Lib.hid (HOR.out.app HBA.out HR.out hg9)
          clear hv9 hg9 hn9 HR HOR HBA hcc x1
          go_wp2_with fail
          go_roundw
          case rel => exact ⟨k + 1, by omega, by go_num, HO9.out, by rw [iotaL_succ]; exact HV9.out⟩
          case measure => simp [intOf] <;> omega
        · obtain rfl : k = m := by omega
          obtain ⟨a5, c5, e5, -, -⟩ := hrw.slice
          rw [iotaL_len] at e5
          subst e5
          have hq := made_any wr w.heap.size hO.b.size (.slice (some ⟨b, off, none⟩) d.length c1) (.slice a5 k c5) d (iotaL k) ⟨_, _, rfl⟩ (HSRC.out.below hO.b) (by have := HD1.out; omega) hrw
          rw [HRR.out] at hq
          have HQ := Lib.hid hq; have HR := Lib.hid hO.r; have HB := Lib.hid hO.b
          clear hq hO hrw hlt
          go_wp2_with fail
          refine (Hid.out HQ).mono ?_
          rintro e w9 ⟨⟨v9, u9, rfl, hv9, hu9, hap9⟩, hb9⟩
          have hR9 := block_below (Hid.out HR) hb9
          have HV9 := Lib.hid hv9; have HU9 := Lib.hid hu9; have HAP9 := Lib.hid hap9; have HR9 := Lib.hid hR9
          have HB9 := Lib.hid (bNext hb9 (Hid.out HB))
          obtain ⟨a9, c9, rfl, -, -⟩ := RowI.slice hv9
          obtain ⟨a8, c8, rfl, -, -⟩ := RowI.slice hu9
          have g0 := cell_of_row w9 _ 0 _ _ _ hR9; have g1 := cell_of_row w9 _ 1 _ _ _ hR9
          have z0 := frozen_of_row w9 _ 0 _ _ hR9; have z1 := frozen_of_row w9 _ 1 _ _ hR9
          clear hv9 hu9 hap9 hb9 hR9
          go_wp2_with fail
          exact fin_arr rfl rfl rfl HR9.out HV9.out HU9.out HAP9.out HB9.out (by omega)
set_option maxHeartbeats 4000000 in
theorem rm_map (w : World) (f : Int) (v u : Value) (s d : List Int) (hs : SlA w v s) (hd : SlA w u d) (hr : right s d = true) (ht : takes f false = true) :
    Calls Try.prog 15 #[.int .u8 f, .agg #[v, u]] w fun e w' => RetArr w.heap.size (mapA f s d) e w' ∧ Below w.heap.size w w' := by
  have hf := takesF_le ht
  have g0 : (f == 32) = false := by rw [beq_eq_false_iff_ne]; omega
  have g1 : (f == 33) = false := by rw [beq_eq_false_iff_ne]; omega
  have g2 : (f == 34) = false := by rw [beq_eq_false_iff_ne]; omega
  have g3 : (f == 35) = false := by rw [beq_eq_false_iff_ne]; omega
  have g4 : (f == 36) = false := by rw [beq_eq_false_iff_ne]; omega
  have HT := Lib.hid (fun W => rtakes_at W f false true ht); have HTK := Lib.hid ht
  have hd6 := (right_good hr).2.le
  have hs4 := (right_good hr).2.len
  have HSRC := Lib.hid hs.src
  clear hf ht
  obtain ⟨a0, c0, rfl, h01, h02, -, h04, -⟩ := hs
  obtain ⟨a1, c1, rfl, h11, h12, -, h14, hin⟩ := hd
  have h02' : c0 ≤ 9223372036854775807 := h02
  have h12' : c1 ≤ 9223372036854775807 := h12
  have HM : Hid (s.length ≤ maxLen) := Lib.hid (Nat.le_trans h01 h02)
  have HRT := Lib.hid hr; have H0 := Lib.hid h04; have H1 := Lib.hid h14; have HIN := Lib.hid hin
  have HO := Lib.hid (One.mk0 w (.slice a0 s.length c0) (.slice a1 d.length c1))
  obtain ⟨r, HRR⟩ : ∃ r, Hid ((mapA f s d) = r) := ⟨_, Lib.hid rfl⟩
  rw [HRR.out]
  clear hr h04 h14 h02 h12 hin
  go_enter Try.func15, Try.ntmps15
  go_upto_region 1 with fail
  refine gen_worldA (fun W => One w W (.slice a0 s.length c0) (.slice a1 d.length c1)) HO.out ?_
  rintro W hO
  have hq := rright_any W a0 a1 c0 c1 s d HM.out (H0.out.below hO.b (Nat.le_refl _))
  rw [HRT.out] at hq
  have HQ := Lib.hid hq; have HO1 := Lib.hid hO
  have x0 := hO.c0; have x1 := hO.c1
  clear hq hO
  go_wp2_with fail
  refine HQ.out.mono ?_
  rintro e W1 ⟨rfl, hb1⟩
  have HO2 := Lib.hid (HO1.out.next hb1)
  clear x0 x1
  have x0 := HO2.out.c0; have x1 := HO2.out.c1
  clear hb1 HQ HO1
  have HQ0 := Lib.hid (HT.out W1)
  go_wp2_with fail
  refine HQ0.out.mono ?_
  rintro e W2 ⟨rfl, rfl⟩
  have HO4 := Lib.hid HO2.out
  clear HQ0 HT HO g0 g1 g2 g3 g4 HO2
  go_wp2_with fail
  clear x0 x1
  go_loopw [8, 9] (fun o i wr => ∃ k : Nat, k ≤ d.length ∧ i = .int .i64 k ∧ One w wr (.slice a0 s.length c0) (.slice a1 d.length c1) ∧
    RowI w.heap.size wr o ((List.range k).map (fun i => (monadF f (d.getD i 0)).1)) ∧ ∀ i, i < k → (monadF f (d.getD i 0)).2 = 0) (fun _ i _ => d.length - (intOf i).toNat)
  case atStart => exact ⟨0, by omega, rfl, HO4.out, RowI.nil _ _, fun i hi => by omega⟩
  case round =>
    obtain ⟨k, hk, rfl, hO, hrw, hgood⟩ := hrel
    clear HO4
    have x1 := hO.c1
    by_cases hlt : k < d.length
    · have hst : (List.range (k + 1)).map (fun i => (monadF f (d.getD i 0)).1) = (List.range k).map (fun i => (monadF f (d.getD i 0)).1) ++ [(monadF f (d.getD k 0)).1] := by simp [List.range_succ]
      obtain ⟨b1, off1, rfl, hc1⟩ := H1.out.atD hlt
      have hcc := keepCell hO.b hc1
      have hx64 := In64.getD HIN.out hlt
      have hbad := fun h => mapA_bad (f := f) (s := s) hlt h
      have herr := monadF_err (x := d.getD k 0) HTK.out
      have hnx : (monadF f (d.getD k 0)).2 = 0 → ∀ i, i < k + 1 → (monadF f (d.getD i 0)).2 = 0 := fun h i hi => by
        by_cases e : i = k
        · rw [e]; exact h
        · exact hgood i (by omega)
      have hq := fun W => rmonad_at W f (d.getD k 0) (monadF f (d.getD k 0)).1 (monadF f (d.getD k 0)).2 hx64 rfl
      generalize (monadF f (d.getD k 0)).1 = y at hst hq
      generalize (monadF f (d.getD k 0)).2 = e at hbad herr hnx hq
      generalize d.getD k 0 = x at hc1 hcc hx64 hq
      have hkd : (k : Int) < (d.length : Int) := by omega
      have hll : ((List.range k).map (fun i => (monadF f (d.getD i 0)).1)).length = k := by simp
      have HQ := Lib.hid hq; have HST := Lib.hid hst; have HNX := Lib.hid hnx; have HBAD := Lib.hid hbad; have HOR := Lib.hid hO; have HRW := Lib.hid hrw; have HLL := Lib.hid hll
      clear hq hst hnx hbad hO hrw hgood hc1 hx64 hll
      go_wp2_with fail
      refine (HQ.out _).mono ?_
      rintro e1 w5 ⟨rfl, n5, rfl⟩
      have HO5 := Lib.hid (HOR.out.next (Below.drewN wr n5))
      have HS5 := Lib.hid (HRW.out.drewN n5)
      clear HQ HOR HRW hcc x1
      rcases herr with rfl | rfl
      · have HNX2 := Lib.hid (HNX.out rfl)
        have hba : Below (wr.drewN n5).heap.size (wr.drewN n5) ((wr.drewN n5).alloc (.cells #[.int .i64 y] 2)) := (Below.refl _ _).alloc (Nat.le_refl _) _
        have HR := Lib.hid (HS5.out.below hba); have HBA := Lib.hid hba
        have hsz := (HO5.out.next hba).b.size
        clear HNX HBAD hba HS5
        go_wp2_with (at_builtin; refine wpList_app rfl _ _ rfl w.heap.size _ _ [y] _ 1 rfl rfl HR.out rfl (src_one (wr.drewN n5) y _ rfl) (by rw [HLL.out]; omega) hsz ?_)
        intro v' w9 hv9 hg9 hn9
        have HV9 := Lib.hid hv9
        have HO9 := Lib.hid (HO5.out.app HBA.out HR.out hg9)
        clear hv9 hg9 hn9 HR HO5 HBA
        go_wp2_with fail
        go_roundw
        case rel => exact ⟨k + 1, by omega, by go_num, HO9.out, by rw [HST.out]; exact HV9.out, HNX2.out⟩
        case measure => simp [intOf] <;> omega
      · have hq := rno_at (wr.drewN n5) w.heap.size HO5.out.b.size 11 r (by rw [← HBAD.out (by decide)]; exact HRR.out)
        have HQ := Lib.hid hq; have HR := Lib.hid HO5.out.r; have HB := Lib.hid HO5.out.b
        clear hq HNX HBAD HO5 HS5 HST
        go_wp2_with fail
        refine (Hid.out HQ).mono ?_
        rintro e w9 ⟨⟨v9, u9, rfl, hv9, hu9, hap9⟩, hb9⟩
        have hR9 := block_below (Hid.out HR) hb9
        have HV9 := Lib.hid hv9; have HU9 := Lib.hid hu9; have HAP9 := Lib.hid hap9; have HR9 := Lib.hid hR9
        have HB9 := Lib.hid (bNext hb9 (Hid.out HB))
        obtain ⟨a9, c9, rfl, -, -⟩ := RowI.slice hv9
        obtain ⟨a8, c8, rfl, -, -⟩ := RowI.slice hu9
        have g0 := cell_of_row w9 _ 0 _ _ _ hR9; have g1 := cell_of_row w9 _ 1 _ _ _ hR9
        have z0 := frozen_of_row w9 _ 0 _ _ hR9; have z1 := frozen_of_row w9 _ 1 _ _ hR9
        clear hv9 hu9 hap9 hb9 hR9
        go_wp2_with fail
        exact fin_arr rfl rfl rfl HR9.out HV9.out HU9.out HAP9.out HB9.out (by omega)
    · obtain rfl : k = d.length := by omega
      have hrr : okA s (d.map fun x => (monadF f x).1) = r := by rw [← HRR.out]; exact (mapA_good hgood).symm
      rw [range_getD (fun x => (monadF f x).1)] at hrw
      obtain ⟨a5, c5, rfl, -, -⟩ := hrw.slice
      have hq := made_any wr w.heap.size hO.b.size (.slice a0 s.length c0) (.slice a5 (d.map fun x => (monadF f x).1).length c5) s _ ⟨_, _, rfl⟩ (HSRC.out.below hO.b) (by omega) hrw
      rw [hrr, List.length_map] at hq
      have HQ := Lib.hid hq; have HR := Lib.hid hO.r; have HB := Lib.hid hO.b
      have x0 := hO.c0
      clear hq hO hrw hlt hgood hrr
      go_wp2_with fail
      refine (Hid.out HQ).mono ?_
      rintro e w9 ⟨⟨v9, u9, rfl, hv9, hu9, hap9⟩, hb9⟩
      have hR9 := block_below (Hid.out HR) hb9
      have HV9 := Lib.hid hv9; have HU9 := Lib.hid hu9; have HAP9 := Lib.hid hap9; have HR9 := Lib.hid hR9
      have HB9 := Lib.hid (bNext hb9 (Hid.out HB))
      obtain ⟨a9, c9, rfl, -, -⟩ := RowI.slice hv9
      obtain ⟨a8, c8, rfl, -, -⟩ := RowI.slice hu9
      have g0 := cell_of_row w9 _ 0 _ _ _ hR9; have g1 := cell_of_row w9 _ 1 _ _ _ hR9
      have z0 := frozen_of_row w9 _ 0 _ _ hR9; have z1 := frozen_of_row w9 _ 1 _ _ hR9
      clear hv9 hu9 hap9 hb9 hR9
      go_wp2_with fail
      exact fin_arr rfl rfl rfl HR9.out HV9.out HU9.out HAP9.out HB9.out (by omega)
end Go.Proofs.Ytmjkncmpanhgjaa

namespace Go.Proofs.Ytmjkncmpanhgjaa
set_option maxRecDepth 100000
open Go.RowKit
set_option linter.unusedVariables false
set_option linter.unusedSimpArgs false

/-! windrowref07.Monad: Shape. -/
theorem src_keep {w w' : World} {g m c : Nat} {news : List Value} {b : Nat} (h : Src w (.slice (some ⟨g, 0, none⟩) m c) m news) (hg : w.grownBy w' (some b)) (hne : g ≠ b) : Src w' (.slice (some ⟨g, 0, none⟩) m c) m news := by
  rcases h with ⟨e, _⟩ | ⟨ad, c', e, h2⟩
  · cases e
  · cases e
    refine .inr ⟨_, _, rfl, fun j z hz => ?_⟩
    have h3 := h2 j z hz
    have hb : ((⟨g, 0, none⟩ : Addr).add j).block = g := by unfold Addr.add; split <;> rfl
    rw [← h3]
    exact World.cell?_of_block (w := w) (hg.block _ (World.block_lt_of_cell? w _ h3) (fun e => by rw [hb] at e; injection e with e; exact hne e))
set_option maxHeartbeats 4000000 in
theorem rm_shape (w : World) (v u : Value) (s d : List Int) (hs : SlA w v s) (hd : SlA w u d) (hr : right s d = true) :
    Calls Try.prog 15 #[.int .u8 33, .agg #[v, u]] w fun e w' => RetArr w.heap.size (okA [(s.length : Int)] s) e w' ∧ Below w.heap.size w w' := by
  have hs4 := (right_good hr).2.len
  have HSRC := Lib.hid hs.src
  obtain ⟨a0, c0, rfl, h01, h02, -, h04, -⟩ := hs
  obtain ⟨a1, c1, rfl, h11, h12, -, h14, hin⟩ := hd
  have h02' : c0 ≤ 9223372036854775807 := h02
  have h12' : c1 ≤ 9223372036854775807 := h12
  have HM : Hid (s.length ≤ maxLen) := Lib.hid (Nat.le_trans h01 h02)
  have HRT := Lib.hid hr; have H0 := Lib.hid h04; have H1 := Lib.hid h14; have HIN := Lib.hid hin
  have HO := Lib.hid (One.mk0 w (.slice a0 s.length c0) (.slice a1 d.length c1))
  obtain ⟨r, HRR⟩ : ∃ r, Hid ((okA [(s.length : Int)] s) = r) := ⟨_, Lib.hid rfl⟩
  rw [HRR.out]
  clear hr h04 h14 h02 h12 hin
  go_enter Try.func15, Try.ntmps15
  go_upto_region 1 with fail
  refine gen_worldA (fun W => One w W (.slice a0 s.length c0) (.slice a1 d.length c1)) HO.out ?_
  rintro W hO
  have hq := rright_any W a0 a1 c0 c1 s d HM.out (H0.out.below hO.b (Nat.le_refl _))
  rw [HRT.out] at hq
  have HQ := Lib.hid hq; have HO1 := Lib.hid hO
  have x0 := hO.c0; have x1 := hO.c1
  clear hq hO
  go_wp2_with fail
  refine HQ.out.mono ?_
  rintro e W1 ⟨rfl, hb1⟩
  have HO2 := Lib.hid (HO1.out.next hb1)
  clear x0 x1
  have x0 := HO2.out.c0; have x1 := HO2.out.c1
  clear hb1 HQ HO1
  go_upto_region 16 with fail
  clear HO x1
  obtain ⟨g1, hg1⟩ : ∃ g, W1.heap.size = g := ⟨_, rfl⟩
  have HG1 := Lib.hid hg1
  refine wp_region_Z (S := fun W' => W'.cell? ⟨w.heap.size, 0, none⟩ = some (.slice a0 s.length c0)) (z := 11) (by kernel_rfl) ?_
  have hSS : (fun W' : World => W'.cell? ⟨w.heap.size, 0, none⟩ = some (.slice a0 s.length c0)) W1.drew := x0
  refine wpAnyZ_take (i := 0) (v := ?_) rfl (by kernel_rfl) (by kernel_rfl) (by kernel_rfl) (fun _ _ _ h => h) (by kernel_rfl) (Or.inl ⟨by rfl, ?_⟩) (by assumption) ?_
  rotate_left
  · intro w' hSw
    try dsimp only at hSw
    try obtain ⟨hSw, hSw2⟩ := hSw
    go_simp
    try with_reducible rfl
  show wpAnyZ _ _ _ _ _ _ _ _ (Act.put _ (some 63) _) _
  simp only [Act.put, List.setIfInBounds_toArray, List.set_cons_zero, List.set_cons_succ]
  refine wpAnyZ_take (i := 1) (v := ?_) rfl (by kernel_rfl) (by kernel_rfl) (by kernel_rfl) (fun _ _ _ h => h) (by kernel_rfl) (Or.inl ⟨by rfl, ?_⟩) (by assumption) ?_
  rotate_left
  · intro w' hSw
    try dsimp only at hSw
    try obtain ⟨hSw, hSw2⟩ := hSw
    go_simp
    try with_reducible rfl
  show wpAnyZ _ _ _ _ _ _ _ _ (Act.put _ (some 64) _) _
  simp only [Act.put, List.setIfInBounds_toArray, List.set_cons_zero, List.set_cons_succ]
  refine wpAnyZ_take (i := 2) (v := ?_) rfl (by kernel_rfl) (by kernel_rfl) (by kernel_rfl) (fun _ _ _ h => h) (by kernel_rfl) (Or.inl ⟨by rfl, ?_⟩) (by assumption) ?_
  rotate_left
  · intro w' hSw
    try dsimp only at hSw
    try obtain ⟨hSw, hSw2⟩ := hSw
    go_simp
    try with_reducible rfl
  show wpAnyZ _ _ _ _ _ _ _ _ (Act.put _ (some 65) _) _
  simp only [Act.put, List.setIfInBounds_toArray, List.set_cons_zero, List.set_cons_succ]
  refine wpAnyZ_take (i := 5) (v := ?_) rfl (by kernel_rfl) (by kernel_rfl) (by kernel_rfl) (fun _ _ _ h => h) (by kernel_rfl) (Or.inl ⟨by rfl, ?_⟩) (by assumption) ?_
  rotate_left
  · intro w' hSw
    try dsimp only at hSw
    try obtain ⟨hSw, hSw2⟩ := hSw
    go_simp
    try with_reducible rfl
  show wpAnyZ _ _ _ _ _ _ _ _ (Act.put _ (some 68) _) _
  simp only [Act.put, List.setIfInBounds_toArray, List.set_cons_zero, List.set_cons_succ]
  refine wpAnyZ_take (i := 6) (v := ?_) rfl (by kernel_rfl) (by kernel_rfl) (by kernel_rfl) (fun _ _ _ h => h) (by kernel_rfl) (Or.inl ⟨by rfl, ?_⟩) (by assumption) ?_
  rotate_left
  · intro w' hSw
    try dsimp only at hSw
    try obtain ⟨hSw, hSw2⟩ := hSw
    go_simp
    try with_reducible rfl
  show wpAnyZ _ _ _ _ _ _ _ _ (Act.put _ (some 69) _) _
  simp only [Act.put, List.setIfInBounds_toArray, List.set_cons_zero, List.set_cons_succ]
  clear hSS x0
  refine wpAnyZ_two (i := 3) (j := 4) (by kernel_rfl) rfl rfl rfl rfl (fun K hK => ?_) (fun K hK => ?_)
  · go_simp
    try rw [hg1]
    have hb2 : Below W1.heap.size W1 (W1.alloc (.cells #[.int .i64 (s.length : Int)] 2)).drew := ((Below.refl _ _).alloc (Nat.le_refl _) _).drew
    refine hK.out _ _ (.inr (HO2.out.next hb2).c0) ?_
    have hl : Src (W1.alloc (.cells #[.int .i64 (s.length : Int)] 2)).drew (.slice (some ⟨g1, 0, none⟩) 1 1) 1 ([(s.length : Int)].map (Value.int .i64)) := src_one W1 (s.length : Int) g1 hg1
    have hsz2 : (W1.alloc (.cells #[.int .i64 (s.length : Int)] 2)).drew.heap.size = g1 + 1 := by simp [hg1]
    clear hK hg1
    generalize (W1.alloc (.cells #[.int .i64 (s.length : Int)] 2)).drew = w3 at hb2 hl hsz2 ⊢
    refine wpAnyZ_one (i := 4) (by kernel_rfl) rfl rfl (fun K hK => ?_)
    go_simp
    try rw [hsz2]
    have hba : Below w3.heap.size w3 (w3.alloc (.cells #[] 2)) := (Below.refl _ _).alloc (Nat.le_refl _) _
    have hb3 : Below W1.heap.size W1 (w3.alloc (.cells #[] 2)) := hb2.alloc hb2.size _
    refine hK.out _ _ (.inr (HO2.out.next hb3).c0) ?_
    have hlit := row_nil_lit w.heap.size w3 (HO2.out.next hb2).b.size
    rw [hsz2] at hlit
    have hl2 := hl.below hba
    clear hK hl hba hb2
    generalize w3.alloc (.cells #[] 2) = w4 at hb3 hlit hl2 ⊢
    have HB3 := Lib.hid hb3; have HLIT := Lib.hid hlit; have HL2 := Lib.hid hl2
    clear hb3 hlit hl2 hsz2
    refine wpAnyZ_one (i := 7) (by kernel_rfl) rfl rfl (fun K hK => ?_)
    refine wp_app (.tmp 67) (.tmp 69) rfl w.heap.size (.slice (some ⟨(g1 + 1), 0, none⟩) 0 0) [] s _ s.length rfl rfl (Hid.out HLIT) rfl (HSRC.out.below (HO2.out.next (Hid.out HB3)).b) (by simp; omega) (HO2.out.next (Hid.out HB3)).b.size ?_
    intro v5 w5 hv5 hg5 hn5
    have hv5 : RowI w.heap.size w5 v5 s := hv5
    have hO5 := (HO2.out.next (Hid.out HB3)).app (Below.refl _ _) (Hid.out HLIT) hg5
    obtain ⟨a5, c5, rfl, -, -⟩ := hv5.slice
    have HV5 := Lib.hid hv5; have HO5 := Lib.hid hO5
    refine hK.out _ _ (.inr hO5.c0) ?_
    clear hv5 hn5 hO5
    have HLZ := Lib.hid (show Src w5 (.slice (some ⟨g1, 0, none⟩) 1 1) 1 ([(s.length : Int)].map (Value.int .i64)) from by
      have hg5 : w4.grownBy w5 (some (g1 + 1)) := hg5
      exact src_keep HL2.out hg5 (by omega))
    have HOZ := Lib.hid HO5.out; have HCZ := Lib.hid HV5.out
    clear hK hg5 HL2 HLIT HB3 HO2 HG1 HO5 HV5
    generalize g1 = gz at *
    generalize w5 = wz at *
    refine wpAnyZ_one (i := 8) (by kernel_rfl) rfl rfl (fun K hK => ?_)
    go_simp
    refine ((retB' (made_any wz w.heap.size HOZ.out.b.size (.slice (some ⟨gz, 0, none⟩) 1 1) (.slice a5 s.length c5) [(s.length : Int)] s ⟨_, _, rfl⟩ HLZ.out (by simp) HCZ.out) HRR.out)).mono ?_
    rintro e w9 ⟨⟨v9, u9, rfl, hv9, hu9, hap9⟩, hb9⟩
    have hO9 := HOZ.out.next hb9
    have HV9 := Lib.hid hv9; have HU9 := Lib.hid hu9; have HAP9 := Lib.hid hap9; have HO9 := Lib.hid hO9
    obtain ⟨a9, c9, rfl, -, -⟩ := RowI.slice hv9
    obtain ⟨a8, c8, rfl, -, -⟩ := RowI.slice hu9
    have hSS : (fun W' : World => W'.cell? ⟨w.heap.size, 0, none⟩ = some (.slice a0 s.length c0)) w9 := hO9.c0
    show K _ w9
    refine hK.out _ _ (.inr hO9.c0) ?_
    clear hK hv9 hu9 hap9 hb9 hO9 HOZ HLZ HCZ
    refine wpAnyZ_take (i := 9) (v := ?_) rfl (by kernel_rfl) (by kernel_rfl) (by kernel_rfl) (fun _ _ _ h => h) (by kernel_rfl) (Or.inl ⟨by rfl, ?_⟩) (by assumption) ?_
    rotate_left
    · intro w' hSw
      try dsimp only at hSw
      try obtain ⟨hSw, hSw2⟩ := hSw
      go_simp
      try with_reducible rfl
    show wpAnyZ _ _ _ _ _ _ _ _ (Act.put _ (some 72) _) _
    simp only [Act.put, List.setIfInBounds_toArray, List.set_cons_zero, List.set_cons_succ]
    refine wpAnyZ_take (i := 10) (v := ?_) rfl (by kernel_rfl) (by kernel_rfl) (by kernel_rfl) (fun _ _ _ h => h) (by kernel_rfl) (Or.inl ⟨by rfl, ?_⟩) (by assumption) ?_
    rotate_left
    · intro w' hSw
      try dsimp only at hSw
      try obtain ⟨hSw, hSw2⟩ := hSw
      go_simp
      try with_reducible rfl
    show wpAnyZ _ _ _ _ _ _ _ _ (Act.put _ (some 73) _) _
    simp only [Act.put, List.setIfInBounds_toArray, List.set_cons_zero, List.set_cons_succ]
    clear hSS
    refine wpAnyZ_one (i := 11) (by kernel_rfl) rfl rfl (fun K hK => ?_)
    have g0 := cell_of_row w9 _ 0 _ _ _ HO9.out.r; have g1 := cell_of_row w9 _ 1 _ _ _ HO9.out.r
    have z0 := frozen_of_row w9 _ 0 _ _ HO9.out.r; have z1 := frozen_of_row w9 _ 1 _ _ HO9.out.r
    go_simp
    refine hK.out _ _ (.inl (Nat.le_refl _)) ?_
    clear hK g0 g1 z0 z1
    refine wpAnyZ_one (i := 12) (by kernel_rfl) rfl rfl (fun K hK => ?_)
    go_simp
    refine hK.out _ _ (.inl (by omega)) ?_
    clear hK
    refine wpAnyZ_done (by kernel_rfl) ?_ _
    go_wp2_with fail
    exact fin_arr rfl rfl rfl HO9.out.r HV9.out HU9.out HAP9.out HO9.out.b (by omega)
  · go_simp
    try rw [hg1]
    have hb2 : Below W1.heap.size W1 (W1.alloc (.cells #[] 2)).drew := ((Below.refl _ _).alloc (Nat.le_refl _) _).drew
    refine hK.out _ _ (.inr (HO2.out.next hb2).c0) ?_
    have hlit : RowI w.heap.size (W1.alloc (.cells #[] 2)).drew (.slice (some ⟨g1, 0, none⟩) 0 0) [] := hg1 ▸ row_nil_lit w.heap.size W1 HO2.out.b.size
    have hsz2 : (W1.alloc (.cells #[] 2)).drew.heap.size = g1 + 1 := by simp [hg1]
    clear hK hg1
    generalize (W1.alloc (.cells #[] 2)).drew = w3 at hb2 hlit hsz2 ⊢
    refine wpAnyZ_two (i := 3) (j := 7) (by kernel_rfl) rfl rfl rfl rfl (fun K hK => ?_) (fun K hK => ?_)
    · go_simp
      try rw [hsz2]
      have hba : Below w3.heap.size w3 (w3.alloc (.cells #[.int .i64 (s.length : Int)] 2)) := ((Below.refl _ _).alloc (Nat.le_refl _) _)
      have hb3 : Below W1.heap.size W1 (w3.alloc (.cells #[.int .i64 (s.length : Int)] 2)) := (hb2.alloc hb2.size _)
      refine hK.out _ _ (.inr (HO2.out.next hb3).c0) ?_
      have hl2 : Src (w3.alloc (.cells #[.int .i64 (s.length : Int)] 2)) (.slice (some ⟨g1 + 1, 0, none⟩) 1 1) 1 ([(s.length : Int)].map (Value.int .i64)) := src_one w3 (s.length : Int) (g1 + 1) hsz2
      have hlit2 := hlit.below hba
      clear hK hlit hba hb2
      generalize (w3.alloc (.cells #[.int .i64 (s.length : Int)] 2)) = w4 at hb3 hlit2 hl2 ⊢
      have HB3 := Lib.hid hb3; have HLIT := Lib.hid hlit2; have HL2 := Lib.hid hl2
      clear hb3 hlit2 hl2 hsz2
      refine wpAnyZ_one (i := 7) (by kernel_rfl) rfl rfl (fun K hK => ?_)
      refine wp_app (.tmp 67) (.tmp 69) rfl w.heap.size (.slice (some ⟨g1, 0, none⟩) 0 0) [] s _ s.length rfl rfl (Hid.out HLIT) rfl (HSRC.out.below (HO2.out.next (Hid.out HB3)).b) (by simp; omega) (HO2.out.next (Hid.out HB3)).b.size ?_
      intro v5 w5 hv5 hg5 hn5
      have hv5 : RowI w.heap.size w5 v5 s := hv5
      have hO5 := (HO2.out.next (Hid.out HB3)).app (Below.refl _ _) (Hid.out HLIT) hg5
      obtain ⟨a5, c5, rfl, -, -⟩ := hv5.slice
      have HV5 := Lib.hid hv5; have HO5 := Lib.hid hO5
      refine hK.out _ _ (.inr hO5.c0) ?_
      clear hv5 hn5 hO5
      have HLZ := Lib.hid (show Src w5 (.slice (some ⟨g1 + 1, 0, none⟩) 1 1) 1 ([(s.length : Int)].map (Value.int .i64)) from by
        have hg5 : w4.grownBy w5 (some g1) := hg5
        exact src_keep HL2.out hg5 (by omega))
      have HOZ := Lib.hid HO5.out; have HCZ := Lib.hid HV5.out
      clear hK hg5 HL2 HLIT HB3 HO2 HG1 HO5 HV5
      generalize g1 + 1 = gz at *
      generalize w5 = wz at *
      refine wpAnyZ_one (i := 8) (by kernel_rfl) rfl rfl (fun K hK => ?_)
      go_simp
      refine ((retB' (made_any wz w.heap.size HOZ.out.b.size (.slice (some ⟨gz, 0, none⟩) 1 1) (.slice a5 s.length c5) [(s.length : Int)] s ⟨_, _, rfl⟩ HLZ.out (by simp) HCZ.out) HRR.out)).mono ?_
      rintro e w9 ⟨⟨v9, u9, rfl, hv9, hu9, hap9⟩, hb9⟩
      have hO9 := HOZ.out.next hb9
      have HV9 := Lib.hid hv9; have HU9 := Lib.hid hu9; have HAP9 := Lib.hid hap9; have HO9 := Lib.hid hO9
      obtain ⟨a9, c9, rfl, -, -⟩ := RowI.slice hv9
      obtain ⟨a8, c8, rfl, -, -⟩ := RowI.slice hu9
      have hSS : (fun W' : World => W'.cell? ⟨w.heap.size, 0, none⟩ = some (.slice a0 s.length c0)) w9 := hO9.c0
      show K _ w9
      refine hK.out _ _ (.inr hO9.c0) ?_
      clear hK hv9 hu9 hap9 hb9 hO9 HOZ HLZ HCZ
      refine wpAnyZ_take (i := 9) (v := ?_) rfl (by kernel_rfl) (by kernel_rfl) (by kernel_rfl) (fun _ _ _ h => h) (by kernel_rfl) (Or.inl ⟨by rfl, ?_⟩) (by assumption) ?_
      rotate_left
      · intro w' hSw
        try dsimp only at hSw
        try obtain ⟨hSw, hSw2⟩ := hSw
        go_simp
        try with_reducible rfl
      show wpAnyZ _ _ _ _ _ _ _ _ (Act.put _ (some 72) _) _
      simp only [Act.put, List.setIfInBounds_toArray, List.set_cons_zero, List.set_cons_succ]
      refine wpAnyZ_take (i := 10) (v := ?_) rfl (by kernel_rfl) (by kernel_rfl) (by kernel_rfl) (fun _ _ _ h => h) (by kernel_rfl) (Or.inl ⟨by rfl, ?_⟩) (by assumption) ?_
      rotate_left
      · intro w' hSw
        try dsimp only at hSw
        try obtain ⟨hSw, hSw2⟩ := hSw
        go_simp
        try with_reducible rfl
      show wpAnyZ _ _ _ _ _ _ _ _ (Act.put _ (some 73) _) _
      simp only [Act.put, List.setIfInBounds_toArray, List.set_cons_zero, List.set_cons_succ]
      clear hSS
      refine wpAnyZ_one (i := 11) (by kernel_rfl) rfl rfl (fun K hK => ?_)
      have g0 := cell_of_row w9 _ 0 _ _ _ HO9.out.r; have g1 := cell_of_row w9 _ 1 _ _ _ HO9.out.r
      have z0 := frozen_of_row w9 _ 0 _ _ HO9.out.r; have z1 := frozen_of_row w9 _ 1 _ _ HO9.out.r
      go_simp
      refine hK.out _ _ (.inl (Nat.le_refl _)) ?_
      clear hK g0 g1 z0 z1
      refine wpAnyZ_one (i := 12) (by kernel_rfl) rfl rfl (fun K hK => ?_)
      go_simp
      refine hK.out _ _ (.inl (by omega)) ?_
      clear hK
      refine wpAnyZ_done (by kernel_rfl) ?_ _
      go_wp2_with fail
      exact fin_arr rfl rfl rfl HO9.out.r HV9.out HU9.out HAP9.out HO9.out.b (by omega)
    · have HB3 := Lib.hid hb2; have HLIT := Lib.hid hlit
      clear hb2 hlit hsz2
      refine wp_app (.tmp 67) (.tmp 69) rfl w.heap.size (.slice (some ⟨g1, 0, none⟩) 0 0) [] s _ s.length rfl rfl (Hid.out HLIT) rfl (HSRC.out.below (HO2.out.next (Hid.out HB3)).b) (by simp; omega) (HO2.out.next (Hid.out HB3)).b.size ?_
      intro v5 w5 hv5 hg5 hn5
      have hv5 : RowI w.heap.size w5 v5 s := hv5
      have hO5 := (HO2.out.next (Hid.out HB3)).app (Below.refl _ _) (Hid.out HLIT) hg5
      obtain ⟨a5, c5, rfl, -, -⟩ := hv5.slice
      have HV5 := Lib.hid hv5; have HO5 := Lib.hid hO5
      refine hK.out _ _ (.inr hO5.c0) ?_
      clear hv5 hn5 hO5
      clear hK hg5 HLIT HB3 HO2 HG1
      refine wpAnyZ_one (i := 3) (by kernel_rfl) rfl rfl (fun K hK => ?_)
      go_simp
      have hba : Below w5.heap.size w5 (w5.alloc (.cells #[.int .i64 (s.length : Int)] 2)) := (Below.refl _ _).alloc (Nat.le_refl _) _
      refine hK.out _ _ (.inr (HO5.out.next hba).c0) ?_
      have HLZ := Lib.hid (src_one w5 (s.length : Int) w5.heap.size rfl)
      have HOZ := Lib.hid (HO5.out.next hba); have HCZ := Lib.hid (HV5.out.below hba)
      clear hK hba HO5 HV5
      generalize w5.alloc (.cells #[.int .i64 (s.length : Int)] 2) = wz at HLZ HOZ HCZ ⊢
      generalize w5.heap.size = gz at HLZ ⊢
      refine wpAnyZ_one (i := 8) (by kernel_rfl) rfl rfl (fun K hK => ?_)
      go_simp
      refine ((retB' (made_any wz w.heap.size HOZ.out.b.size (.slice (some ⟨gz, 0, none⟩) 1 1) (.slice a5 s.length c5) [(s.length : Int)] s ⟨_, _, rfl⟩ HLZ.out (by simp) HCZ.out) HRR.out)).mono ?_
      rintro e w9 ⟨⟨v9, u9, rfl, hv9, hu9, hap9⟩, hb9⟩
      have hO9 := HOZ.out.next hb9
      have HV9 := Lib.hid hv9; have HU9 := Lib.hid hu9; have HAP9 := Lib.hid hap9; have HO9 := Lib.hid hO9
      obtain ⟨a9, c9, rfl, -, -⟩ := RowI.slice hv9
      obtain ⟨a8, c8, rfl, -, -⟩ := RowI.slice hu9
      have hSS : (fun W' : World => W'.cell? ⟨w.heap.size, 0, none⟩ = some (.slice a0 s.length c0)) w9 := hO9.c0
      show K _ w9
      refine hK.out _ _ (.inr hO9.c0) ?_
      clear hK hv9 hu9 hap9 hb9 hO9 HOZ HLZ HCZ
      refine wpAnyZ_take (i := 9) (v := ?_) rfl (by kernel_rfl) (by kernel_rfl) (by kernel_rfl) (fun _ _ _ h => h) (by kernel_rfl) (Or.inl ⟨by rfl, ?_⟩) (by assumption) ?_
      rotate_left
      · intro w' hSw
        try dsimp only at hSw
        try obtain ⟨hSw, hSw2⟩ := hSw
        go_simp
        try with_reducible rfl
      show wpAnyZ _ _ _ _ _ _ _ _ (Act.put _ (some 72) _) _
      simp only [Act.put, List.setIfInBounds_toArray, List.set_cons_zero, List.set_cons_succ]
      refine wpAnyZ_take (i := 10) (v := ?_) rfl (by kernel_rfl) (by kernel_rfl) (by kernel_rfl) (fun _ _ _ h => h) (by kernel_rfl) (Or.inl ⟨by rfl, ?_⟩) (by assumption) ?_
      rotate_left
      · intro w' hSw
        try dsimp only at hSw
        try obtain ⟨hSw, hSw2⟩ := hSw
        go_simp
        try with_reducible rfl
      show wpAnyZ _ _ _ _ _ _ _ _ (Act.put _ (some 73) _) _
      simp only [Act.put, List.setIfInBounds_toArray, List.set_cons_zero, List.set_cons_succ]
      clear hSS
      refine wpAnyZ_one (i := 11) (by kernel_rfl) rfl rfl (fun K hK => ?_)
      have g0 := cell_of_row w9 _ 0 _ _ _ HO9.out.r; have g1 := cell_of_row w9 _ 1 _ _ _ HO9.out.r
      have z0 := frozen_of_row w9 _ 0 _ _ HO9.out.r; have z1 := frozen_of_row w9 _ 1 _ _ HO9.out.r
      go_simp
      refine hK.out _ _ (.inl (Nat.le_refl _)) ?_
      clear hK g0 g1 z0 z1
      refine wpAnyZ_one (i := 12) (by kernel_rfl) rfl rfl (fun K hK => ?_)
      go_simp
      refine hK.out _ _ (.inl (by omega)) ?_
      clear hK
      refine wpAnyZ_done (by kernel_rfl) ?_ _
      go_wp2_with fail
      exact fin_arr rfl rfl rfl HO9.out.r HV9.out HU9.out HAP9.out HO9.out.b (by omega)
end Go.Proofs.Ytmjkncmpanhgjaa

namespace Go.Proofs.Ytmjkncmpanhgjaa
set_option maxRecDepth 100000
open Go.RowKit
set_option linter.unusedVariables false
set_option linter.unusedSimpArgs false

/-! windrowref07.Monad: Ravel. -/
set_option maxHeartbeats 4000000 in
theorem rm_ravel (w : World) (v u : Value) (s d : List Int) (hs : SlA w v s) (hd : SlA w u d) (hr : right s d = true) :
    Calls Try.prog 15 #[.int .u8 34, .agg #[v, u]] w fun e w' => RetArr w.heap.size (okA [(d.length : Int)] d) e w' ∧ Below w.heap.size w w' := by
  have hd6 := (right_good hr).2.le
  have HSRC := Lib.hid hd.src
  obtain ⟨a0, c0, rfl, h01, h02, -, h04, -⟩ := hs
  obtain ⟨a1, c1, rfl, h11, h12, -, h14, hin⟩ := hd
  have h02' : c0 ≤ 9223372036854775807 := h02
  have h12' : c1 ≤ 9223372036854775807 := h12
  have HM : Hid (s.length ≤ maxLen) := Lib.hid (Nat.le_trans h01 h02)
  have HRT := Lib.hid hr; have H0 := Lib.hid h04; have H1 := Lib.hid h14; have HIN := Lib.hid hin
  have HO := Lib.hid (One.mk0 w (.slice a0 s.length c0) (.slice a1 d.length c1))
  obtain ⟨r, HRR⟩ : ∃ r, Hid ((okA [(d.length : Int)] d) = r) := ⟨_, Lib.hid rfl⟩
  rw [HRR.out]
  clear hr h04 h14 h02 h12 hin
  go_enter Try.func15, Try.ntmps15
  go_upto_region 1 with fail
  refine gen_worldA (fun W => One w W (.slice a0 s.length c0) (.slice a1 d.length c1)) HO.out ?_
  rintro W hO
  have hq := rright_any W a0 a1 c0 c1 s d HM.out (H0.out.below hO.b (Nat.le_refl _))
  rw [HRT.out] at hq
  have HQ := Lib.hid hq; have HO1 := Lib.hid hO
  have x0 := hO.c0; have x1 := hO.c1
  clear hq hO
  go_wp2_with fail
  refine HQ.out.mono ?_
  rintro e W1 ⟨rfl, hb1⟩
  have HO2 := Lib.hid (HO1.out.next hb1)
  clear x0 x1
  have x0 := HO2.out.c0; have x1 := HO2.out.c1
  clear hb1 HQ HO1
  go_upto_region 18 with fail
  clear HO x0
  obtain ⟨g1, hg1⟩ : ∃ g, W1.heap.size = g := ⟨_, rfl⟩
  have HG1 := Lib.hid hg1
  refine wp_region_Z (S := fun W' => W'.cell? ⟨w.heap.size, 1, none⟩ = some (.slice a1 d.length c1)) (z := 11) (by kernel_rfl) ?_
  have hSS : (fun W' : World => W'.cell? ⟨w.heap.size, 1, none⟩ = some (.slice a1 d.length c1)) W1.drew := x1
  refine wpAnyZ_take (i := 0) (v := ?_) rfl (by kernel_rfl) (by kernel_rfl) (by kernel_rfl) (fun _ _ _ h => h) (by kernel_rfl) (Or.inl ⟨by rfl, ?_⟩) (by assumption) ?_
  rotate_left
  · intro w' hSw
    try dsimp only at hSw
    try obtain ⟨hSw, hSw2⟩ := hSw
    go_simp
    try with_reducible rfl
  show wpAnyZ _ _ _ _ _ _ _ _ (Act.put _ (some 76) _) _
  simp only [Act.put, List.setIfInBounds_toArray, List.set_cons_zero, List.set_cons_succ]
  refine wpAnyZ_take (i := 1) (v := ?_) rfl (by kernel_rfl) (by kernel_rfl) (by kernel_rfl) (fun _ _ _ h => h) (by kernel_rfl) (Or.inl ⟨by rfl, ?_⟩) (by assumption) ?_
  rotate_left
  · intro w' hSw
    try dsimp only at hSw
    try obtain ⟨hSw, hSw2⟩ := hSw
    go_simp
    try with_reducible rfl
  show wpAnyZ _ _ _ _ _ _ _ _ (Act.put _ (some 77) _) _
  simp only [Act.put, List.setIfInBounds_toArray, List.set_cons_zero, List.set_cons_succ]
  refine wpAnyZ_take (i := 2) (v := ?_) rfl (by kernel_rfl) (by kernel_rfl) (by kernel_rfl) (fun _ _ _ h => h) (by kernel_rfl) (Or.inl ⟨by rfl, ?_⟩) (by assumption) ?_
  rotate_left
  · intro w' hSw
    try dsimp only at hSw
    try obtain ⟨hSw, hSw2⟩ := hSw
    go_simp
    try with_reducible rfl
  show wpAnyZ _ _ _ _ _ _ _ _ (Act.put _ (some 78) _) _
  simp only [Act.put, List.setIfInBounds_toArray, List.set_cons_zero, List.set_cons_succ]
  refine wpAnyZ_take (i := 5) (v := ?_) rfl (by kernel_rfl) (by kernel_rfl) (by kernel_rfl) (fun _ _ _ h => h) (by kernel_rfl) (Or.inl ⟨by rfl, ?_⟩) (by assumption) ?_
  rotate_left
  · intro w' hSw
    try dsimp only at hSw
    try obtain ⟨hSw, hSw2⟩ := hSw
    go_simp
    try with_reducible rfl
  show wpAnyZ _ _ _ _ _ _ _ _ (Act.put _ (some 81) _) _
  simp only [Act.put, List.setIfInBounds_toArray, List.set_cons_zero, List.set_cons_succ]
  refine wpAnyZ_take (i := 6) (v := ?_) rfl (by kernel_rfl) (by kernel_rfl) (by kernel_rfl) (fun _ _ _ h => h) (by kernel_rfl) (Or.inl ⟨by rfl, ?_⟩) (by assumption) ?_
  rotate_left
  · intro w' hSw
    try dsimp only at hSw
    try obtain ⟨hSw, hSw2⟩ := hSw
    go_simp
    try with_reducible rfl
  show wpAnyZ _ _ _ _ _ _ _ _ (Act.put _ (some 82) _) _
  simp only [Act.put, List.setIfInBounds_toArray, List.set_cons_zero, List.set_cons_succ]
  clear hSS x1
  refine wpAnyZ_two (i := 3) (j := 4) (by kernel_rfl) rfl rfl rfl rfl (fun K hK => ?_) (fun K hK => ?_)
  · go_simp
    try rw [hg1]
    have hb2 : Below W1.heap.size W1 (W1.alloc (.cells #[.int .i64 (d.length : Int)] 2)).drew := ((Below.refl _ _).alloc (Nat.le_refl _) _).drew
    refine hK.out _ _ (.inr (HO2.out.next hb2).c1) ?_
    have hl : Src (W1.alloc (.cells #[.int .i64 (d.length : Int)] 2)).drew (.slice (some ⟨g1, 0, none⟩) 1 1) 1 ([(d.length : Int)].map (Value.int .i64)) := src_one W1 (d.length : Int) g1 hg1
    have hsz2 : (W1.alloc (.cells #[.int .i64 (d.length : Int)] 2)).drew.heap.size = g1 + 1 := by simp [hg1]
    clear hK hg1
    generalize (W1.alloc (.cells #[.int .i64 (d.length : Int)] 2)).drew = w3 at hb2 hl hsz2 ⊢
    refine wpAnyZ_one (i := 4) (by kernel_rfl) rfl rfl (fun K hK => ?_)
    go_simp
    try rw [hsz2]
    have hba : Below w3.heap.size w3 (w3.alloc (.cells #[] 2)) := (Below.refl _ _).alloc (Nat.le_refl _) _
    have hb3 : Below W1.heap.size W1 (w3.alloc (.cells #[] 2)) := hb2.alloc hb2.size _
    refine hK.out _ _ (.inr (HO2.out.next hb3).c1) ?_
    have hlit := row_nil_lit w.heap.size w3 (HO2.out.next hb2).b.size
    rw [hsz2] at hlit
    have hl2 := hl.below hba
    clear hK hl hba hb2
    generalize w3.alloc (.cells #[] 2) = w4 at hb3 hlit hl2 ⊢
    have HB3 := Lib.hid hb3; have HLIT := Lib.hid hlit; have HL2 := Lib.hid hl2
    clear hb3 hlit hl2 hsz2
    refine wpAnyZ_one (i := 7) (by kernel_rfl) rfl rfl (fun K hK => ?_)
    refine wp_app (.tmp 80) (.tmp 82) rfl w.heap.size (.slice (some ⟨(g1 + 1), 0, none⟩) 0 0) [] d _ d.length rfl rfl (Hid.out HLIT) rfl (HSRC.out.below (HO2.out.next (Hid.out HB3)).b) (by simp; omega) (HO2.out.next (Hid.out HB3)).b.size ?_
    intro v5 w5 hv5 hg5 hn5
    have hv5 : RowI w.heap.size w5 v5 d := hv5
    have hO5 := (HO2.out.next (Hid.out HB3)).app (Below.refl _ _) (Hid.out HLIT) hg5
    obtain ⟨a5, c5, rfl, -, -⟩ := hv5.slice
    have HV5 := Lib.hid hv5; have HO5 := Lib.hid hO5
    refine hK.out _ _ (.inr hO5.c1) ?_
    clear hv5 hn5 hO5
    have HLZ := Lib.hid (show Src w5 (.slice (some ⟨g1, 0, none⟩) 1 1) 1 ([(d.length : Int)].map (Value.int .i64)) from by
      have hg5 : w4.grownBy w5 (some (g1 + 1)) := hg5
      exact src_keep HL2.out hg5 (by omega))
    have HOZ := Lib.hid HO5.out; have HCZ := Lib.hid HV5.out
    clear hK hg5 HL2 HLIT HB3 HO2 HG1 HO5 HV5
    generalize g1 = gz at *
    generalize w5 = wz at *
    refine wpAnyZ_one (i := 8) (by kernel_rfl) rfl rfl (fun K hK => ?_)
    go_simp
    refine ((retB' (made_any wz w.heap.size HOZ.out.b.size (.slice (some ⟨gz, 0, none⟩) 1 1) (.slice a5 d.length c5) [(d.length : Int)] d ⟨_, _, rfl⟩ HLZ.out (by simp) HCZ.out) HRR.out)).mono ?_
    rintro e w9 ⟨⟨v9, u9, rfl, hv9, hu9, hap9⟩, hb9⟩
    have hO9 := HOZ.out.next hb9
    have HV9 := Lib.hid hv9; have HU9 := Lib.hid hu9; have HAP9 := Lib.hid hap9; have HO9 := Lib.hid hO9
    obtain ⟨a9, c9, rfl, -, -⟩ := RowI.slice hv9
    obtain ⟨a8, c8, rfl, -, -⟩ := RowI.slice hu9
    have hSS : (fun W' : World => W'.cell? ⟨w.heap.size, 1, none⟩ = some (.slice a1 d.length c1)) w9 := hO9.c1
    show K _ w9
    refine hK.out _ _ (.inr hO9.c1) ?_
    clear hK hv9 hu9 hap9 hb9 hO9 HOZ HLZ HCZ
    refine wpAnyZ_take (i := 9) (v := ?_) rfl (by kernel_rfl) (by kernel_rfl) (by kernel_rfl) (fun _ _ _ h => h) (by kernel_rfl) (Or.inl ⟨by rfl, ?_⟩) (by assumption) ?_
    rotate_left
    · intro w' hSw
      try dsimp only at hSw
      try obtain ⟨hSw, hSw2⟩ := hSw
      go_simp
      try with_reducible rfl
    show wpAnyZ _ _ _ _ _ _ _ _ (Act.put _ (some 85) _) _
    simp only [Act.put, List.setIfInBounds_toArray, List.set_cons_zero, List.set_cons_succ]
    refine wpAnyZ_take (i := 10) (v := ?_) rfl (by kernel_rfl) (by kernel_rfl) (by kernel_rfl) (fun _ _ _ h => h) (by kernel_rfl) (Or.inl ⟨by rfl, ?_⟩) (by assumption) ?_
    rotate_left
    · intro w' hSw
      try dsimp only at hSw
      try obtain ⟨hSw, hSw2⟩ := hSw
      go_simp
      try with_reducible rfl
    show wpAnyZ _ _ _ _ _ _ _ _ (Act.put _ (some 86) _) _
    simp only [Act.put, List.setIfInBounds_toArray, List.set_cons_zero, List.set_cons_succ]
    clear hSS
    refine wpAnyZ_one (i := 11) (by kernel_rfl) rfl rfl (fun K hK => ?_)
    have g0 := cell_of_row w9 _ 0 _ _ _ HO9.out.r; have g1 := cell_of_row w9 _ 1 _ _ _ HO9.out.r
    have z0 := frozen_of_row w9 _ 0 _ _ HO9.out.r; have z1 := frozen_of_row w9 _ 1 _ _ HO9.out.r
    go_simp
    refine hK.out _ _ (.inl (Nat.le_refl _)) ?_
    clear hK g0 g1 z0 z1
    refine wpAnyZ_one (i := 12) (by kernel_rfl) rfl rfl (fun K hK => ?_)
    go_simp
    refine hK.out _ _ (.inl (by omega)) ?_
    clear hK
    refine wpAnyZ_done (by kernel_rfl) ?_ _
    go_wp2_with fail
    exact fin_arr rfl rfl rfl HO9.out.r HV9.out HU9.out HAP9.out HO9.out.b (by omega)
  · go_simp
    try rw [hg1]
    have hb2 : Below W1.heap.size W1 (W1.alloc (.cells #[] 2)).drew := ((Below.refl _ _).alloc (Nat.le_refl _) _).drew
    refine hK.out _ _ (.inr (HO2.out.next hb2).c1) ?_
    have hlit : RowI w.heap.size (W1.alloc (.cells #[] 2)).drew (.slice (some ⟨g1, 0, none⟩) 0 0) [] := hg1 ▸ row_nil_lit w.heap.size W1 HO2.out.b.size
    have hsz2 : (W1.alloc (.cells #[] 2)).drew.heap.size = g1 + 1 := by simp [hg1]
    clear hK hg1
    generalize (W1.alloc (.cells #[] 2)).drew = w3 at hb2 hlit hsz2 ⊢
    refine wpAnyZ_two (i := 3) (j := 7) (by kernel_rfl) rfl rfl rfl rfl (fun K hK => ?_) (fun K hK => ?_)
    · go_simp
      try rw [hsz2]
      have hba : Below w3.heap.size w3 (w3.alloc (.cells #[.int .i64 (d.length : Int)] 2)) := ((Below.refl _ _).alloc (Nat.le_refl _) _)
      have hb3 : Below W1.heap.size W1 (w3.alloc (.cells #[.int .i64 (d.length : Int)] 2)) := (hb2.alloc hb2.size _)
      refine hK.out _ _ (.inr (HO2.out.next hb3).c1) ?_
      have hl2 : Src (w3.alloc (.cells #[.int .i64 (d.length : Int)] 2)) (.slice (some ⟨g1 + 1, 0, none⟩) 1 1) 1 ([(d.length : Int)].map (Value.int .i64)) := src_one w3 (d.length : Int) (g1 + 1) hsz2
      have hlit2 := hlit.below hba
      clear hK hlit hba hb2
      generalize (w3.alloc (.cells #[.int .i64 (d.length : Int)] 2)) = w4 at hb3 hlit2 hl2 ⊢
      have HB3 := Lib.hid hb3; have HLIT := Lib.hid hlit2; have HL2 := Lib.hid hl2
      clear hb3 hlit2 hl2 hsz2
      refine wpAnyZ_one (i := 7) (by kernel_rfl) rfl rfl (fun K hK => ?_)
      refine wp_app (.tmp 80) (.tmp 82) rfl w.heap.size (.slice (some ⟨g1, 0, none⟩) 0 0) [] d _ d.length rfl rfl (Hid.out HLIT) rfl (HSRC.out.below (HO2.out.next (Hid.out HB3)).b) (by simp; omega) (HO2.out.next (Hid.out HB3)).b.size ?_
      intro v5 w5 hv5 hg5 hn5
      have hv5 : RowI w.heap.size w5 v5 d := hv5
      have hO5 := (HO2.out.next (Hid.out HB3)).app (Below.refl _ _) (Hid.out HLIT) hg5
      obtain ⟨a5, c5, rfl, -, -⟩ := hv5.slice
      have HV5 := Lib.hid hv5; have HO5 := Lib.hid hO5
      refine hK.out _ _ (.inr hO5.c1) ?_
      clear hv5 hn5 hO5
      have HLZ := Lib.hid (show Src w5 (.slice (some ⟨g1 + 1, 0, none⟩) 1 1) 1 ([(d.length : Int)].map (Value.int .i64)) from by
        have hg5 : w4.grownBy w5 (some g1) := hg5
        exact src_keep HL2.out hg5 (by omega))
      have HOZ := Lib.hid HO5.out; have HCZ := Lib.hid HV5.out
      clear hK hg5 HL2 HLIT HB3 HO2 HG1 HO5 HV5
      generalize g1 + 1 = gz at *
      generalize w5 = wz at *
      refine wpAnyZ_one (i := 8) (by kernel_rfl) rfl rfl (fun K hK => ?_)
      go_simp
      refine ((retB' (made_any wz w.heap.size HOZ.out.b.size (.slice (some ⟨gz, 0, none⟩) 1 1) (.slice a5 d.length c5) [(d.length : Int)] d ⟨_, _, rfl⟩ HLZ.out (by simp) HCZ.out) HRR.out)).mono ?_
      rintro e w9 ⟨⟨v9, u9, rfl, hv9, hu9, hap9⟩, hb9⟩
      have hO9 := HOZ.out.next hb9
      have HV9 := Lib.hid hv9; have HU9 := Lib.hid hu9; have HAP9 := Lib.hid hap9; have HO9 := Lib.hid hO9
      obtain ⟨a9, c9, rfl, -, -⟩ := RowI.slice hv9
      obtain ⟨a8, c8, rfl, -, -⟩ := RowI.slice hu9
      have hSS : (fun W' : World => W'.cell? ⟨w.heap.size, 1, none⟩ = some (.slice a1 d.length c1)) w9 := hO9.c1
      show K _ w9
      refine hK.out _ _ (.inr hO9.c1) ?_
      clear hK hv9 hu9 hap9 hb9 hO9 HOZ HLZ HCZ
      refine wpAnyZ_take (i := 9) (v := ?_) rfl (by kernel_rfl) (by kernel_rfl) (by kernel_rfl) (fun _ _ _ h => h) (by kernel_rfl) (Or.inl ⟨by rfl, ?_⟩) (by assumption) ?_
      rotate_left
      · intro w' hSw
        try dsimp only at hSw
        try obtain ⟨hSw, hSw2⟩ := hSw
        go_simp
        try with_reducible rfl
      show wpAnyZ _ _ _ _ _ _ _ _ (Act.put _ (some 85) _) _
      simp only [Act.put, List.setIfInBounds_toArray, List.set_cons_zero, List.set_cons_succ]
      refine wpAnyZ_take (i := 10) (v := ?_) rfl (by kernel_rfl) (by kernel_rfl) (by kernel_rfl) (fun _ _ _ h => h) (by kernel_rfl) (Or.inl ⟨by rfl, ?_⟩) (by assumption) ?_
      rotate_left
      · intro w' hSw
        try dsimp only at hSw
        try obtain ⟨hSw, hSw2⟩ := hSw
        go_simp
        try with_reducible rfl
      show wpAnyZ _ _ _ _ _ _ _ _ (Act.put _ (some 86) _) _
      simp only [Act.put, List.setIfInBounds_toArray, List.set_cons_zero, List.set_cons_succ]
      clear hSS
      refine wpAnyZ_one (i := 11) (by kernel_rfl) rfl rfl (fun K hK => ?_)
      have g0 := cell_of_row w9 _ 0 _ _ _ HO9.out.r; have g1 := cell_of_row w9 _ 1 _ _ _ HO9.out.r
      have z0 := frozen_of_row w9 _ 0 _ _ HO9.out.r; have z1 := frozen_of_row w9 _ 1 _ _ HO9.out.r
      go_simp
      refine hK.out _ _ (.inl (Nat.le_refl _)) ?_
      clear hK g0 g1 z0 z1
      refine wpAnyZ_one (i := 12) (by kernel_rfl) rfl rfl (fun K hK => ?_)
      go_simp
      refine hK.out _ _ (.inl (by omega)) ?_
      clear hK
      refine wpAnyZ_done (by kernel_rfl) ?_ _
      go_wp2_with fail
      exact fin_arr rfl rfl rfl HO9.out.r HV9.out HU9.out HAP9.out HO9.out.b (by omega)
    · have HB3 := Lib.hid hb2; have HLIT := Lib.hid hlit
      clear hb2 hlit hsz2
      refine wp_app (.tmp 80) (.tmp 82) rfl w.heap.size (.slice (some ⟨g1, 0, none⟩) 0 0) [] d _ d.length rfl rfl (Hid.out HLIT) rfl (HSRC.out.below (HO2.out.next (Hid.out HB3)).b) (by simp; omega) (HO2.out.next (Hid.out HB3)).b.size ?_
      intro v5 w5 hv5 hg5 hn5
      have hv5 : RowI w.heap.size w5 v5 d := hv5
      have hO5 := (HO2.out.next (Hid.out HB3)).app (Below.refl _ _) (Hid.out HLIT) hg5
      obtain ⟨a5, c5, rfl, -, -⟩ := hv5.slice
      have HV5 := Lib.hid hv5; have HO5 := Lib.hid hO5
      refine hK.out _ _ (.inr hO5.c1) ?_
      clear hv5 hn5 hO5
      clear hK hg5 HLIT HB3 HO2 HG1
      refine wpAnyZ_one (i := 3) (by kernel_rfl) rfl rfl (fun K hK => ?_)
      go_simp
      have hba : Below w5.heap.size w5 (w5.alloc (.cells #[.int .i64 (d.length : Int)] 2)) := (Below.refl _ _).alloc (Nat.le_refl _) _
      refine hK.out _ _ (.inr (HO5.out.next hba).c1) ?_
      have HLZ := Lib.hid (src_one w5 (d.length : Int) w5.heap.size rfl)
      have HOZ := Lib.hid (HO5.out.next hba); have HCZ := Lib.hid (HV5.out.below hba)
      clear hK hba HO5 HV5
      generalize w5.alloc (.cells #[.int .i64 (d.length : Int)] 2) = wz at HLZ HOZ HCZ ⊢
      generalize w5.heap.size = gz at HLZ ⊢
      refine wpAnyZ_one (i := 8) (by kernel_rfl) rfl rfl (fun K hK => ?_)
      go_simp
      refine ((retB' (made_any wz w.heap.size HOZ.out.b.size (.slice (some ⟨gz, 0, none⟩) 1 1) (.slice a5 d.length c5) [(d.length : Int)] d ⟨_, _, rfl⟩ HLZ.out (by simp) HCZ.out) HRR.out)).mono ?_
      rintro e w9 ⟨⟨v9, u9, rfl, hv9, hu9, hap9⟩, hb9⟩
      have hO9 := HOZ.out.next hb9
      have HV9 := Lib.hid hv9; have HU9 := Lib.hid hu9; have HAP9 := Lib.hid hap9; have HO9 := Lib.hid hO9
      obtain ⟨a9, c9, rfl, -, -⟩ := RowI.slice hv9
      obtain ⟨a8, c8, rfl, -, -⟩ := RowI.slice hu9
      have hSS : (fun W' : World => W'.cell? ⟨w.heap.size, 1, none⟩ = some (.slice a1 d.length c1)) w9 := hO9.c1
      show K _ w9
      refine hK.out _ _ (.inr hO9.c1) ?_
      clear hK hv9 hu9 hap9 hb9 hO9 HOZ HLZ HCZ
      refine wpAnyZ_take (i := 9) (v := ?_) rfl (by kernel_rfl) (by kernel_rfl) (by kernel_rfl) (fun _ _ _ h => h) (by kernel_rfl) (Or.inl ⟨by rfl, ?_⟩) (by assumption) ?_
      rotate_left
      · intro w' hSw
        try dsimp only at hSw
        try obtain ⟨hSw, hSw2⟩ := hSw
        go_simp
        try with_reducible rfl
      show wpAnyZ _ _ _ _ _ _ _ _ (Act.put _ (some 85) _) _
      simp only [Act.put, List.setIfInBounds_toArray, List.set_cons_zero, List.set_cons_succ]
      refine wpAnyZ_take (i := 10) (v := ?_) rfl (by kernel_rfl) (by kernel_rfl) (by kernel_rfl) (fun _ _ _ h => h) (by kernel_rfl) (Or.inl ⟨by rfl, ?_⟩) (by assumption) ?_
      rotate_left
      · intro w' hSw
        try dsimp only at hSw
        try obtain ⟨hSw, hSw2⟩ := hSw
        go_simp
        try with_reducible rfl
      show wpAnyZ _ _ _ _ _ _ _ _ (Act.put _ (some 86) _) _
      simp only [Act.put, List.setIfInBounds_toArray, List.set_cons_zero, List.set_cons_succ]
      clear hSS
      refine wpAnyZ_one (i := 11) (by kernel_rfl) rfl rfl (fun K hK => ?_)
      have g0 := cell_of_row w9 _ 0 _ _ _ HO9.out.r; have g1 := cell_of_row w9 _ 1 _ _ _ HO9.out.r
      have z0 := frozen_of_row w9 _ 0 _ _ HO9.out.r; have z1 := frozen_of_row w9 _ 1 _ _ HO9.out.r
      go_simp
      refine hK.out _ _ (.inl (Nat.le_refl _)) ?_
      clear hK g0 g1 z0 z1
      refine wpAnyZ_one (i := 12) (by kernel_rfl) rfl rfl (fun K hK => ?_)
      go_simp
      refine hK.out _ _ (.inl (by omega)) ?_
      clear hK
      refine wpAnyZ_done (by kernel_rfl) ?_ _
      go_wp2_with fail
      exact fin_arr rfl rfl rfl HO9.out.r HV9.out HU9.out HAP9.out HO9.out.b (by omega)
theorem rm_any (w : World) (f : Int) (v u : Value) (s d : List Int) (hs : SlA w v s) (hd : SlA w u d) :
    Calls Try.prog 15 #[.int .u8 f, .agg #[v, u]] w fun e w' => RetArr w.heap.size (monadA f s d) e w' ∧ Below w.heap.size w w' := by
  cases hr : right s d with
  | false => exact retB' (rm_bad w f v u s d hs hd hr) (by unfold monadA; rw [hr]; rfl)
  | true =>
    have e : monadA f s d = if f = 32 then iotaA s d else if f = 33 then okA [(s.length : Int)] s else if f = 34 then okA [(d.length : Int)] d else if f = 35 then okA s (revD s d) else if f = 36 then turnA s d
      else if takes f false then mapA f s d else noA 70 := by unfold monadA; rw [if_pos hr]; rfl
    rw [e]
    by_cases h1 : f = 32
    · subst h1; exact rm_iota w v u s d hs hd hr
    rw [if_neg h1]
    by_cases h2 : f = 33
    · subst h2; exact rm_shape w v u s d hs hd hr
    rw [if_neg h2]
    by_cases h3 : f = 34
    · subst h3; exact rm_ravel w v u s d hs hd hr
    rw [if_neg h3]
    by_cases h4 : f = 35
    · subst h4; exact rm_rev w v u s d hs hd hr
    rw [if_neg h4]
    by_cases h5 : f = 36
    · subst h5; exact rm_turn w v u s d hs hd hr
    rw [if_neg h5]
    cases ht : takes f false with
    | true => exact rm_map w f v u s d hs hd hr ht
    | false => exact rm_no w f v u s d hs hd hr (by omega) ht
end Go.Proofs.Ytmjkncmpanhgjaa
