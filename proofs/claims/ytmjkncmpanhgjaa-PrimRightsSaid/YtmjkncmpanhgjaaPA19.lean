import Derived.Test.YtmjkncmpanhgjaaPA18
namespace Go.Proofs.Ytmjkncmpanhgjaa
set_option maxRecDepth 100000
open Go.RowKit
set_option linter.unusedVariables false
set_option linter.unusedSimpArgs false

/-! windrowref07.steps. -/
def stepsR (f : Int) (xs : List Int) : List Int × Int := if (laneL f xs).2 then ([], 11) else (scanR f xs, 0)
theorem laneB_mono (f : Int) {l : List Int} {j : Nat} (h : laneB f l j = true) : (laneL f l).2 = true := by
  have := laneL_bad f (l.take j) (l.drop j) h
  rwa [List.take_append_drop] at this
theorem laneL_take_len (f : Int) {l : List Int} {j : Nat} (h : j ≤ l.length) : (laneL f (l.take j)).1.length = j := by rw [laneL_len]; simp; omega
theorem laneL_last (f : Int) {l : List Int} {j : Nat} (h1 : 1 ≤ j) (h : j ≤ l.length) : (laneL f (l.take j)).1.getD (j - 1) 0 = laneV f l j := by
  unfold laneV
  rw [List.getD_eq_getElem?_getD, List.getLastD_eq_getLast?, List.getLast?_eq_getElem?, laneL_take_len f h]
set_option maxHeartbeats 8000000 in
theorem rsteps_any (w : World) (f : Int) (a : Option Addr) (n c : Nat) (xs : List Int) (hn : xs.length = n) (hm : n ≤ 65536) (hi : IntsAt .i64 w a xs) (h64 : ∀ x ∈ xs, In64 x) (ht : takes f true = true) :
    Calls Try.prog 65 #[.int .u8 f, .slice a n c] w fun e w' => RetRow w.heap.size (stepsR f xs) e w' ∧ Below w.heap.size w w' := by
  have HI := Lib.hid hi; have HN := Lib.hid hn; have H64 := Lib.hid h64; have HT := Lib.hid ht
  clear hi hn h64 ht
  go_enter Try.func65, Try.ntmps65
  go_wp2_with fail
  go_loopw [6, 7] (fun o i wr => ∃ k : Nat, k ≤ n ∧ i = .int .i64 k ∧ Below w.heap.size w wr ∧ RowI w.heap.size wr o (laneL f (xs.take k)).1 ∧ laneB f xs k = false) (fun _ i _ => n - (intOf i).toNat)
  case atStart => exact ⟨0, by omega, rfl, Below.refl _ _, RowI.nil _ _, rfl⟩
  case round =>
    obtain ⟨k, hk, rfl, hb, hrw, hg⟩ := hrel
    by_cases hlt : k < n
    · have hkx : k < xs.length := by rw [HN.out]; exact hlt
      have hkn : (k : Int) < (n : Int) := by omega
      have hll := laneL_take_len f (l := xs) (j := k) (by rw [HN.out]; exact hk)
      obtain ⟨b1, o1, rfl, hc1⟩ := HI.out.atD hkx
      have hc1 := keepCell hb hc1
      cases k with
      | zero =>
        have h1 := laneV_one f (l := xs) hkx
        have hst : (laneL f (xs.take 1)).1 = [xs.getD 0 0] := by
          cases xs with
          | nil => simp at hkx
          | cons x xs => rfl
        have hn0 : (0 : Int) < (n : Int) := hkn
        generalize xs.getD 0 0 = y at hc1 h1 hst
        have hba : Below wr.heap.size wr (wr.alloc (.cells #[.int .i64 y] 2)) := (Below.refl _ _).alloc (Nat.le_refl _) _
        have hrw0 : RowI w.heap.size wr _ [] := hrw
        have HR := Lib.hid (hrw0.below hba); have HB := Lib.hid (bNext hba hb); have HST := Lib.hid hst; have HB1 := Lib.hid h1.2
        rw [Nat.add_zero] at hc1
        clear hrw hrw0 hb hba hst h1 hg hll hkx
        go_wp2_with (at_builtin; refine wpList_app rfl _ _ rfl w.heap.size _ [] [y] _ 1 rfl rfl HR.out rfl (src_one wr y _ rfl) (by simp) HB.out.size ?_)
        intro v' w9 hv9 hg9 hn9
        have HV9 := Lib.hid (show RowI w.heap.size w9 v' (laneL f (xs.take 1)).1 by rw [HST.out]; exact hv9)
        have HB9 := Lib.hid (HB.out.grown hg9 HB.out.size (fun g e => (HR.out.lt g e).1))
        clear hv9 hg9 hn9 HR HB hc1
        go_wp2_with fail
        go_roundw
        case rel => exact ⟨1, by omega, by go_num, HB9.out, HV9.out, HB1.out⟩
        case measure => simp [intOf] <;> omega
      | succ p =>
        obtain ⟨g6, c6, e6, -, -⟩ := hrw.form (by rw [hll]; omega)
        rw [hll] at e6
        subst e6
        have ca := hrw.at (k := p) (by rw [hll]; omega)
        have hla := laneL_last f (l := xs) (j := p + 1) (by omega) (by omega)
        rw [Nat.add_sub_cancel] at hla
        rw [hla] at ca
        have hlt2 := lane_take f (l := xs) (j := p + 1) (by omega) hkx
        have hsb := (laneV_step f (l := xs) (j := p + 1) (by omega) hkx).2
        have hy := laneV_in f H64.out (p + 1) (by omega) (by omega)
        have hx := getD_in64 H64.out (p + 1)
        rw [hg, Bool.false_or] at hsb
        generalize xs.getD (p + 1) 0 = x at hc1 hlt2 hsb hx
        generalize laneV f xs (p + 1) = y at ca hlt2 hsb hy
        have hO1 : (laneL f (xs.take (p + 2))).1 = (laneL f (xs.take (p + 1))).1 ++ [callV f y x] := by rw [hlt2]
        have hq := fun W => rdyad_at W f y x _ _ hy hx (dyadF_call HT.out)
        have HLL := Lib.hid hll; have HO1 := Lib.hid hO1; have HR := Lib.hid hrw; have HB := Lib.hid hb
        have hp0 : (0 : Int) ≤ (p : Int) := by omega
        have hp1 : (0 : Int) ≤ (p : Int) + 1 := by omega
        have hwp : IntKind.i64.wrap (p : Int) = (p : Int) := IntWalk.i64_in _ (by omega)
        have hpp : (p : Int) < (p : Int) + 1 := by omega
        generalize (laneL f (xs.take (p + 1))).1 = ou at HLL HO1 HR
        generalize callV f y x = cv at HO1 hq
        cases hrf : refusesB f y x with
        | true =>
          have hce : callE f y x = 11 := by unfold callE; rw [hrf]; rfl
          rw [hce] at hq
          rw [hrf] at hsb
          have hs : stepsR f xs = ([], 11) := by unfold stepsR; rw [laneB_mono f hsb]; rfl
          have HS := Lib.hid hs
          have HQ0 := Lib.hid hq
          clear hrw hb hll hla hlt2 hsb hy hx hO1 hq hs hce hrf hg hkx
          go_wp2_with fail
          go_quiet ((exact Calls.quiet_of (HQ0.out _)))
          clear ca hc1
          go_wp2_with fail
          go_ret2
          exact ⟨by rw [HS.out]; exact ⟨_, rfl, RowI.nil _ _⟩, HB.out.trans (Below.drewN _ _)⟩
        | false =>
          have hce : callE f y x = 0 := by unfold callE; rw [hrf]; rfl
          rw [hce] at hq
          rw [hrf] at hsb
          have HSB := Lib.hid hsb
          have HQ0 := Lib.hid hq
          clear hrw hb hll hla hlt2 hsb hy hx hO1 hq hce hrf hg hkx
          go_wp2_with fail
          go_quiet ((exact Calls.quiet_of (HQ0.out _)))
          have hba : Below (wr.drewN nq).heap.size (wr.drewN nq) ((wr.drewN nq).alloc (.cells #[.int .i64 cv] 2)) := (Below.refl _ _).alloc (Nat.le_refl _) _
          have HR6 := Lib.hid ((HR.out.drewN nq).below hba); have HB6 := Lib.hid (bNext hba (HB.out.trans (Below.drewN wr nq)))
          clear hba ca hc1 HQ0 HR HB
          go_wp2_with (at_builtin; refine wpList_app rfl _ _ rfl w.heap.size _ ou [cv] _ 1 rfl rfl HR6.out rfl (src_one (wr.drewN nq) cv _ rfl) (by rw [HLL.out]; omega) HB6.out.size ?_)
          intro v' w9 hv9 hg9 hn9
          have HV9 := Lib.hid (show RowI w.heap.size w9 v' (laneL f (xs.take (p + 2))).1 by rw [HO1.out]; exact hv9)
          have HB9 := Lib.hid (HB6.out.grown hg9 HB6.out.size (fun g e => (HR6.out.lt g e).1))
          clear hv9 hg9 hn9 HR6 HB6
          go_wp2_with fail
          go_roundw
          case rel => exact ⟨p + 2, by omega, by go_num, HB9.out, HV9.out, HSB.out⟩
          case measure => simp [intOf] <;> omega
    · obtain rfl : k = n := by omega
      have hll := laneV_all f xs
      rw [HN.out] at hll
      rw [← HN.out, List.take_length] at hrw
      have hs : stepsR f xs = (scanR f xs, 0) := by unfold stepsR; rw [← hll.2, hg]; rfl
      have HS := Lib.hid hs; have HR := Lib.hid hrw; have HB := Lib.hid hb
      clear hrw hb hg hs hll hlt
      go_wp2_with fail
      go_ret2
      exact ⟨by rw [HS.out]; exact ⟨_, rfl, HR.out⟩, HB.out⟩
end Go.Proofs.Ytmjkncmpanhgjaa

namespace Go.Proofs.Ytmjkncmpanhgjaa
set_option maxRecDepth 100000
open Go.RowKit
set_option linter.unusedVariables false
set_option linter.unusedSimpArgs false

/-! windrowref07.rho. -/
theorem any_good {d : List Int} {k : Nat} (hk : k < d.length) (h : (d.take k).any badSide = false) (h2 : badSide (d.getD k 0) = false) : (d.take (k + 1)).any badSide = false := by
  rw [any_take_succ hk, h, Bool.false_or]
  rw [List.getD_eq_getElem?_getD, List.getElem?_eq_getElem hk] at h2
  exact h2
theorem any_bad {d : List Int} {k : Nat} (hk : k < d.length) (h2 : badSide (d.getD k 0) = true) : d.any badSide = true := by
  rw [List.getD_eq_getElem?_getD, List.getElem?_eq_getElem hk] at h2
  exact List.any_eq_true.2 ⟨_, List.getElem_mem hk, h2⟩
theorem roundL_succ (e : List Int) (k : Nat) : roundL e (k + 1) = roundL e k ++ [e.getD (k % e.length) 0] := by simp [roundL, List.range_succ]
set_option maxHeartbeats 8000000 in
theorem rrho_any (w : World) (v u v2 u2 : Value) (s d t e : List Int) (hs : SlA w v s) (hd : SlA w u d) (ht : SlA w v2 t) (he : SlA w u2 e) (he6 : e.length ≤ 65536) :
    Calls Try.prog 55 #[.agg #[v, u], .agg #[v2, u2]] w fun e' w' => RetArr w.heap.size (rhoA s d t e) e' w' ∧ Below w.heap.size w w' := by
  by_cases h1 : 1 < s.length
  · have e1 : rhoA s d t e = noA 71 := by unfold rhoA; rw [if_pos h1]
    rw [e1]
    clear e1
    have HS0 := Lib.hid hs.src; have HS1 := Lib.hid hd.src; have HS2 := Lib.hid ht.src; have HS3 := Lib.hid he.src
    obtain ⟨a0, c0, rfl, h01, h02, -, h04, -⟩ := hs
    obtain ⟨a1, c1, rfl, h11, h12, -, h14, hin⟩ := hd
    obtain ⟨a2, c2, rfl, h21, h22, -, h24, -⟩ := ht
    obtain ⟨a3, c3, rfl, h31, h32, -, h34, hie⟩ := he
    have h02' : c0 ≤ 9223372036854775807 := h02
    have h12' : c1 ≤ 9223372036854775807 := h12
    have h22' : c2 ≤ 9223372036854775807 := h22
    have h32' : c3 ≤ 9223372036854775807 := h32
    have HM : Hid (s.length ≤ maxLen) := Lib.hid (Nat.le_trans h01 h02)
    have HM2 : Hid (t.length ≤ maxLen) := Lib.hid (Nat.le_trans h21 h22)
    have H0 := Lib.hid h04; have H1 := Lib.hid h14; have HIN := Lib.hid hin
    have H2 := Lib.hid h24; have H3 := Lib.hid h34; have HIE := Lib.hid hie
    have HO := Lib.hid (Duo.mk0 w (.slice a0 s.length c0) (.slice a1 d.length c1) (.slice a2 t.length c2) (.slice a3 e.length c3))
    obtain ⟨r, HRR⟩ : ∃ r, Hid ((noA 71) = r) := ⟨_, Lib.hid rfl⟩
    rw [HRR.out]
    clear h04 h14 h24 h34 h02 h12 h22 h32 hin hie
    go_enter Try.func55, Try.ntmps55
    go_upto_region 1 with fail
    refine gen_worldA (fun W => Duo w W (.slice a0 s.length c0) (.slice a1 d.length c1) (.slice a2 t.length c2) (.slice a3 e.length c3)) HO.out ?_
    rintro W1 hO
    have HO2 := Lib.hid hO
    have x0 := hO.c0; have x1 := hO.c1; have x2 := hO.c2; have x3 := hO.c3
    clear HO hO
    have hq := rno_at W1 w.heap.size HO2.out.b.size 71 r HRR.out
    have HQ := Lib.hid hq; have HR := Lib.hid HO2.out.r; have HB := Lib.hid HO2.out.b
    clear hq
    go_wp2_with fail
    refine (Hid.out HQ).mono ?_
    rintro e w9 ⟨⟨v9, u9, rfl, hv9, hu9, hap9⟩, hb9⟩
    have hR9 := block_below (Hid.out HR) hb9
    have HV9 := Lib.hid hv9; have HU9 := Lib.hid hu9; have HAP9 := Lib.hid hap9; have HR9 := Lib.hid hR9
    have HB9 := Lib.hid (bNext hb9 (Hid.out HB))
    obtain ⟨a9, c9, rfl, -, -⟩ := RowI.slice hv9
    obtain ⟨a8, c8, rfl, -, -⟩ := RowI.slice hu9
    have g0 := cell_of_row w9 _ 0 _ _ _ hR9; have g1 := cell_of_row w9 _ 1 _ _ _ hR9
    have z0 := frozen_of_row w9 _ 0 _ _ hR9; have z1 := frozen_of_row w9 _ 1 _ _ hR9
    clear hv9 hu9 hap9 hb9 hR9
    go_wp2_with fail
    exact fin_arr rfl rfl rfl HR9.out HV9.out HU9.out HAP9.out HB9.out (by omega)
  by_cases h4 : 4 < d.length
  · rw [rho_four (.inl h4) h1]
    have HS0 := Lib.hid hs.src; have HS1 := Lib.hid hd.src; have HS2 := Lib.hid ht.src; have HS3 := Lib.hid he.src
    obtain ⟨a0, c0, rfl, h01, h02, -, h04, -⟩ := hs
    obtain ⟨a1, c1, rfl, h11, h12, -, h14, hin⟩ := hd
    obtain ⟨a2, c2, rfl, h21, h22, -, h24, -⟩ := ht
    obtain ⟨a3, c3, rfl, h31, h32, -, h34, hie⟩ := he
    have h02' : c0 ≤ 9223372036854775807 := h02
    have h12' : c1 ≤ 9223372036854775807 := h12
    have h22' : c2 ≤ 9223372036854775807 := h22
    have h32' : c3 ≤ 9223372036854775807 := h32
    have HM : Hid (s.length ≤ maxLen) := Lib.hid (Nat.le_trans h01 h02)
    have HM2 : Hid (t.length ≤ maxLen) := Lib.hid (Nat.le_trans h21 h22)
    have H0 := Lib.hid h04; have H1 := Lib.hid h14; have HIN := Lib.hid hin
    have H2 := Lib.hid h24; have H3 := Lib.hid h34; have HIE := Lib.hid hie
    have HO := Lib.hid (Duo.mk0 w (.slice a0 s.length c0) (.slice a1 d.length c1) (.slice a2 t.length c2) (.slice a3 e.length c3))
    obtain ⟨r, HRR⟩ : ∃ r, Hid ((noA 73) = r) := ⟨_, Lib.hid rfl⟩
    rw [HRR.out]
    clear h04 h14 h24 h34 h02 h12 h22 h32 hin hie
    go_enter Try.func55, Try.ntmps55
    go_upto_region 1 with fail
    refine gen_worldA (fun W => Duo w W (.slice a0 s.length c0) (.slice a1 d.length c1) (.slice a2 t.length c2) (.slice a3 e.length c3)) HO.out ?_
    rintro W1 hO
    have HO2 := Lib.hid hO
    have x0 := hO.c0; have x1 := hO.c1; have x2 := hO.c2; have x3 := hO.c3
    clear HO hO
    have hq := rno_at W1 w.heap.size HO2.out.b.size 73 r HRR.out
    have HQ := Lib.hid hq; have HR := Lib.hid HO2.out.r; have HB := Lib.hid HO2.out.b
    clear hq
    go_wp2_with fail
    refine (Hid.out HQ).mono ?_
    rintro e w9 ⟨⟨v9, u9, rfl, hv9, hu9, hap9⟩, hb9⟩
    have hR9 := block_below (Hid.out HR) hb9
    have HV9 := Lib.hid hv9; have HU9 := Lib.hid hu9; have HAP9 := Lib.hid hap9; have HR9 := Lib.hid hR9
    have HB9 := Lib.hid (bNext hb9 (Hid.out HB))
    obtain ⟨a9, c9, rfl, -, -⟩ := RowI.slice hv9
    obtain ⟨a8, c8, rfl, -, -⟩ := RowI.slice hu9
    have g0 := cell_of_row w9 _ 0 _ _ _ hR9; have g1 := cell_of_row w9 _ 1 _ _ _ hR9
    have z0 := frozen_of_row w9 _ 0 _ _ hR9; have z1 := frozen_of_row w9 _ 1 _ _ hR9
    clear hv9 hu9 hap9 hb9 hR9
    go_wp2_with fail
    exact fin_arr rfl rfl rfl HR9.out HV9.out HU9.out HAP9.out HB9.out (by omega)
  have HBAD := Lib.hid (fun (hb : d.any badSide = true) => rho_four (t := t) (e := e) (.inr hb) h1)
  have HGOOD := Lib.hid (fun (hb : d.any badSide = false) => show rhoA s d t e = if (size d).2 ≠ 0 then noA 74 else if 0 < (size d).1 ∧ e.length = 0 then noA 72 else okA d (roundL e (size d).1.toNat) from by
    unfold rhoA; rw [if_neg h1, if_neg (by rw [hb]; simp; omega)]; rfl)
  have HS0 := Lib.hid hs.src; have HS1 := Lib.hid hd.src; have HS2 := Lib.hid ht.src; have HS3 := Lib.hid he.src
  obtain ⟨a0, c0, rfl, h01, h02, -, h04, -⟩ := hs
  obtain ⟨a1, c1, rfl, h11, h12, -, h14, hin⟩ := hd
  obtain ⟨a2, c2, rfl, h21, h22, -, h24, -⟩ := ht
  obtain ⟨a3, c3, rfl, h31, h32, -, h34, hie⟩ := he
  have h02' : c0 ≤ 9223372036854775807 := h02
  have h12' : c1 ≤ 9223372036854775807 := h12
  have h22' : c2 ≤ 9223372036854775807 := h22
  have h32' : c3 ≤ 9223372036854775807 := h32
  have HM : Hid (s.length ≤ maxLen) := Lib.hid (Nat.le_trans h01 h02)
  have HM2 : Hid (t.length ≤ maxLen) := Lib.hid (Nat.le_trans h21 h22)
  have H0 := Lib.hid h04; have H1 := Lib.hid h14; have HIN := Lib.hid hin
  have H2 := Lib.hid h24; have H3 := Lib.hid h34; have HIE := Lib.hid hie
  have HO := Lib.hid (Duo.mk0 w (.slice a0 s.length c0) (.slice a1 d.length c1) (.slice a2 t.length c2) (.slice a3 e.length c3))
  obtain ⟨r, HRR⟩ : ∃ r, Hid ((rhoA s d t e) = r) := ⟨_, Lib.hid rfl⟩
  rw [HRR.out]
  clear h04 h14 h24 h34 h02 h12 h22 h32 hin hie
  go_enter Try.func55, Try.ntmps55
  go_upto_region 1 with fail
  refine gen_worldA (fun W => Duo w W (.slice a0 s.length c0) (.slice a1 d.length c1) (.slice a2 t.length c2) (.slice a3 e.length c3)) HO.out ?_
  rintro W1 hO
  have HO2 := Lib.hid hO
  have x0 := hO.c0; have x1 := hO.c1; have x2 := hO.c2; have x3 := hO.c3
  clear HO hO
  go_wp2_with fail
  clear x0 x1 x2 x3
  go_loopw [6] (fun i wr => ∃ k : Nat, k ≤ d.length ∧ i = .int .i64 k ∧ Duo w wr (.slice a0 s.length c0) (.slice a1 d.length c1) (.slice a2 t.length c2) (.slice a3 e.length c3) ∧ (d.take k).any badSide = false) (fun i _ => d.length - (intOf i).toNat)
  case atStart => exact ⟨0, by omega, rfl, HO2.out, rfl⟩
  case round =>
    obtain ⟨k, hk, rfl, hO, hg⟩ := hrel
    clear HO2
    have x1 := hO.c1
    by_cases hlt : k < d.length
    · obtain ⟨b1, o1, rfl, hc1⟩ := H1.out.atD hlt
      have hc1 := keepCell hO.b hc1
      have hkd : (k : Int) < (d.length : Int) := by omega
      have hnx := any_good hlt hg
      have hbd := any_bad hlt
      generalize d.getD k 0 = y at hc1 hnx hbd
      have HNX := Lib.hid hnx; have HBD := Lib.hid hbd; have HOR := Lib.hid hO
      clear hg hnx hbd hO
      by_cases hy : y < 0
      · have hq := rno_at _ w.heap.size HOR.out.b.size 73 r (by rw [← HRR.out]; exact (HBAD.out (HBD.out (by simp [badSide, hy]))).symm)
        have HQ := Lib.hid hq; have HR := Lib.hid HOR.out.r; have HB := Lib.hid HOR.out.b
        clear hq
        go_wp2_with fail
        refine (Hid.out HQ).mono ?_
        rintro e w9 ⟨⟨v9, u9, rfl, hv9, hu9, hap9⟩, hb9⟩
        have hR9 := block_below (Hid.out HR) hb9
        have HV9 := Lib.hid hv9; have HU9 := Lib.hid hu9; have HAP9 := Lib.hid hap9; have HR9 := Lib.hid hR9
        have HB9 := Lib.hid (bNext hb9 (Hid.out HB))
        obtain ⟨a9, c9, rfl, -, -⟩ := RowI.slice hv9
        obtain ⟨a8, c8, rfl, -, -⟩ := RowI.slice hu9
        have g0 := cell_of_row w9 _ 0 _ _ _ hR9; have g1 := cell_of_row w9 _ 1 _ _ _ hR9
        have z0 := frozen_of_row w9 _ 0 _ _ hR9; have z1 := frozen_of_row w9 _ 1 _ _ hR9
        clear hv9 hu9 hap9 hb9 hR9
        go_wp2_with fail
        exact fin_arr rfl rfl rfl HR9.out HV9.out HU9.out HAP9.out HB9.out (by omega)
      · by_cases hy2 : 65536 < y
        · have hq := rno_at _ w.heap.size HOR.out.b.size 73 r (by rw [← HRR.out]; exact (HBAD.out (HBD.out (by simp [badSide, hy2]))).symm)
          have HQ := Lib.hid hq; have HR := Lib.hid HOR.out.r; have HB := Lib.hid HOR.out.b
          clear hq
          go_wp2_with fail
          refine (Hid.out HQ).mono ?_
          rintro e w9 ⟨⟨v9, u9, rfl, hv9, hu9, hap9⟩, hb9⟩
          have hR9 := block_below (Hid.out HR) hb9
          have HV9 := Lib.hid hv9; have HU9 := Lib.hid hu9; have HAP9 := Lib.hid hap9; have HR9 := Lib.hid hR9
          have HB9 := Lib.hid (bNext hb9 (Hid.out HB))
          obtain ⟨a9, c9, rfl, -, -⟩ := RowI.slice hv9
          obtain ⟨a8, c8, rfl, -, -⟩ := RowI.slice hu9
          have g0 := cell_of_row w9 _ 0 _ _ _ hR9; have g1 := cell_of_row w9 _ 1 _ _ _ hR9
          have z0 := frozen_of_row w9 _ 0 _ _ hR9; have z1 := frozen_of_row w9 _ 1 _ _ hR9
          clear hv9 hu9 hap9 hb9 hR9
          go_wp2_with fail
          exact fin_arr rfl rfl rfl HR9.out HV9.out HU9.out HAP9.out HB9.out (by omega)
        · have HN2 := Lib.hid (HNX.out (by simp [badSide, hy, hy2]))
          clear HNX HBD
          go_wp2_with fail
          go_roundw
          case rel => exact ⟨k + 1, by omega, by go_num, HOR.out, HN2.out⟩
          case measure => simp [intOf] <;> omega
    · obtain rfl : k = d.length := by omega
      rw [List.take_length] at hg
      clear hlt x1
      have hrr := HRR.out
      rw [HGOOD.out hg] at hrr
      obtain ⟨n, er, hsz⟩ : ∃ n er, size d = (n, er) := ⟨_, _, rfl⟩
      rw [hsz] at hrr
      have hn0 : er = 0 → 0 ≤ n ∧ n ≤ 65536 := fun h => by
        subst h
        have g := size_good hsz
        refine ⟨?_, g.le⟩
        rw [g.prod]
        exact (prodL_le_pow g.side).1
      have hq := rsize_any _ a1 c1 d (Nat.le_trans h11 h12') (H1.out.below hO.b (Nat.le_refl _))
      rw [hsz] at hq
      have HQ := Lib.hid hq; have HO4 := Lib.hid hO; have HR0 := Lib.hid hrr
      have x1 := hO.c1; have x3 := hO.c3
      clear hq hO hg hrr hsz HRR HBAD HGOOD
      go_wp2_with fail
      refine HQ.out.mono ?_
      rintro e' W3 ⟨rfl, rfl⟩
      unfold two
      by_cases her : er = 0
      case neg =>
        have her' : (er != 0) = true := by simpa using her
        rw [if_pos her] at HR0
        have hq := rno_at _ w.heap.size HO4.out.b.size 74 r HR0.out
        clear HQ
        have HQ := Lib.hid hq; have HR := Lib.hid HO4.out.r; have HB := Lib.hid HO4.out.b
        clear hq hn0 her
        go_wp2_with fail
        refine (Hid.out HQ).mono ?_
        rintro e w9 ⟨⟨v9, u9, rfl, hv9, hu9, hap9⟩, hb9⟩
        have hR9 := block_below (Hid.out HR) hb9
        have HV9 := Lib.hid hv9; have HU9 := Lib.hid hu9; have HAP9 := Lib.hid hap9; have HR9 := Lib.hid hR9
        have HB9 := Lib.hid (bNext hb9 (Hid.out HB))
        obtain ⟨a9, c9, rfl, -, -⟩ := RowI.slice hv9
        obtain ⟨a8, c8, rfl, -, -⟩ := RowI.slice hu9
        have g0 := cell_of_row w9 _ 0 _ _ _ hR9; have g1 := cell_of_row w9 _ 1 _ _ _ hR9
        have z0 := frozen_of_row w9 _ 0 _ _ hR9; have z1 := frozen_of_row w9 _ 1 _ _ hR9
        clear hv9 hu9 hap9 hb9 hR9
        go_wp2_with fail
        exact fin_arr rfl rfl rfl HR9.out HV9.out HU9.out HAP9.out HB9.out (by omega)
      subst her
      obtain ⟨hn1, hn2⟩ := hn0 rfl
      rw [if_neg (by decide)] at HR0
      obtain ⟨m, rfl⟩ : ∃ m : Nat, n = m := ⟨n.toNat, by omega⟩
      rw [Int.toNat_natCast] at HR0
      clear hn0
      by_cases hz : 0 < (m : Int) ∧ e.length = 0
      · rw [if_pos hz] at HR0
        obtain ⟨hz1, hz2⟩ := hz
        have hq := rno_at _ w.heap.size HO4.out.b.size 72 r HR0.out
        clear HQ
        have HQ := Lib.hid hq; have HR := Lib.hid HO4.out.r; have HB := Lib.hid HO4.out.b
        clear hq
        go_wp2_with fail
        refine (Hid.out HQ).mono ?_
        rintro e w9 ⟨⟨v9, u9, rfl, hv9, hu9, hap9⟩, hb9⟩
        have hR9 := block_below (Hid.out HR) hb9
        have HV9 := Lib.hid hv9; have HU9 := Lib.hid hu9; have HAP9 := Lib.hid hap9; have HR9 := Lib.hid hR9
        have HB9 := Lib.hid (bNext hb9 (Hid.out HB))
        obtain ⟨a9, c9, rfl, -, -⟩ := RowI.slice hv9
        obtain ⟨a8, c8, rfl, -, -⟩ := RowI.slice hu9
        have g0 := cell_of_row w9 _ 0 _ _ _ hR9; have g1 := cell_of_row w9 _ 1 _ _ _ hR9
        have z0 := frozen_of_row w9 _ 0 _ _ hR9; have z1 := frozen_of_row w9 _ 1 _ _ hR9
        clear hv9 hu9 hap9 hb9 hR9
        go_wp2_with fail
        exact fin_arr rfl rfl rfl HR9.out HV9.out HU9.out HAP9.out HB9.out (by omega)
      rw [if_neg hz] at HR0
      by_cases hm0 : (0 : Int) < (m : Int)
      · have hel : 0 < e.length := by omega
        have hel2 : ¬ e.length = 0 := by omega
        have hel3 : ¬ (e.length : Int) = 0 := by omega
        have hel4 : ((e.length : Int) == 0) = false := by rw [beq_eq_false_iff_ne]; omega
        clear hz HQ
        go_wp2_with fail
        clear x1 x3
        go_loopw [9, 10] (fun o i wr => ∃ k : Nat, k ≤ m ∧ i = .int .i64 k ∧ Duo w wr (.slice a0 s.length c0) (.slice a1 d.length c1) (.slice a2 t.length c2) (.slice a3 e.length c3) ∧ RowI w.heap.size wr o (roundL e k)) (fun _ i _ => m - (intOf i).toNat)
        case atStart => exact ⟨0, by omega, rfl, HO4.out, RowI.nil _ _⟩
        case round =>
          obtain ⟨k, hk, rfl, hO, hrw⟩ := hrel
          clear HO4
          by_cases hlt : k < m
          · have hkm : (k : Int) < (m : Int) := by omega
            obtain ⟨q, hq⟩ : ∃ q, k % e.length = q := ⟨_, rfl⟩
            have hqe : q < e.length := hq ▸ Nat.mod_lt _ hel
            obtain ⟨b3, o3, rfl, hc3⟩ := H3.out.atD hqe
            have HC3 := Lib.hid hc3
            have hc3 := keepCell hO.b hc3
            have hst := roundL_succ e k
            rw [hq] at hst
            have hrem : (k : Int).tmod (e.length : Int) = (q : Int) := by
              rw [Int.tmod_eq_emod_of_nonneg (by omega)]
              rw [← hq]; exact_mod_cast rfl
            have hq0 : (0 : Int) ≤ (q : Int) := by omega
            have hqI : (q : Int) < (e.length : Int) := by omega
            have x3 := hO.c3
            generalize e.getD q 0 = y at hc3 hst HC3
            have HST := Lib.hid hst; have HOR := Lib.hid hO; have HRW := Lib.hid hrw
            have HLN := Lib.hid (roundL_len e k)
            clear hst hO hrw hq
            go_upto_region 19 with fail
            refine wp_region_Z (S := fun W' => W'.cell? ⟨w.heap.size + 1, 1, none⟩ = some (.slice (some ⟨b3, o3, none⟩) e.length c3) ∧ W'.cell? ⟨b3, o3 + q, none⟩ = some (.int .i64 y)) (z := 12) (by kernel_rfl) ?_
            have hSS : (fun W' : World => W'.cell? ⟨w.heap.size + 1, 1, none⟩ = some (.slice (some ⟨b3, o3, none⟩) e.length c3) ∧ W'.cell? ⟨b3, o3 + q, none⟩ = some (.int .i64 y)) (World.drew _) := ⟨x3, hc3⟩
            refine wpAnyZ_take (i := 0) (v := ?_) rfl (by kernel_rfl) (by kernel_rfl) (by kernel_rfl) (fun _ _ _ h => h) (by kernel_rfl) (Or.inl ⟨by rfl, ?_⟩) (by assumption) ?_
            rotate_left
            · intro w' hSw
              try dsimp only at hSw
              try obtain ⟨hSw, hSw2⟩ := hSw
              go_simp
              try with_reducible rfl
            show wpAnyZ _ _ _ _ _ _ _ _ (Act.put _ (some 76) _) _
            simp only [Act.put, List.setIfInBounds_toArray, List.set_cons_zero, List.set_cons_succ]
            refine wpAnyZ_take (i := 1) (v := ?_) rfl (by kernel_rfl) (by kernel_rfl) (by kernel_rfl) (fun _ _ _ h => h) (by kernel_rfl) (Or.inl ⟨by rfl, ?_⟩) (by assumption) ?_
            rotate_left
            · intro w' hSw
              try dsimp only at hSw
              try obtain ⟨hSw, hSw2⟩ := hSw
              go_simp
              try with_reducible rfl
            show wpAnyZ _ _ _ _ _ _ _ _ (Act.put _ (some 77) _) _
            simp only [Act.put, List.setIfInBounds_toArray, List.set_cons_zero, List.set_cons_succ]
            refine wpAnyZ_take (i := 2) (v := ?_) rfl (by kernel_rfl) (by kernel_rfl) (by kernel_rfl) (fun _ _ _ h => h) (by kernel_rfl) (Or.inl ⟨by rfl, ?_⟩) (by assumption) ?_
            rotate_left
            · intro w' hSw
              try dsimp only at hSw
              try obtain ⟨hSw, hSw2⟩ := hSw
              go_simp
              try with_reducible rfl
            show wpAnyZ _ _ _ _ _ _ _ _ (Act.put _ (some 78) _) _
            simp only [Act.put, List.setIfInBounds_toArray, List.set_cons_zero, List.set_cons_succ]
            refine wpAnyZ_take (i := 3) (v := ?_) rfl (by kernel_rfl) (by kernel_rfl) (by kernel_rfl) (fun _ _ _ h => h) (by kernel_rfl) (Or.inl ⟨by rfl, ?_⟩) (by assumption) ?_
            rotate_left
            · intro w' hSw
              try dsimp only at hSw
              try obtain ⟨hSw, hSw2⟩ := hSw
              go_simp
              try with_reducible rfl
            show wpAnyZ _ _ _ _ _ _ _ _ (Act.put _ (some 79) _) _
            simp only [Act.put, List.setIfInBounds_toArray, List.set_cons_zero, List.set_cons_succ]
            refine wpAnyZ_take (i := 4) (v := ?_) rfl (by kernel_rfl) (by kernel_rfl) (by kernel_rfl) (fun _ _ _ h => h) (by kernel_rfl) (Or.inl ⟨by rfl, ?_⟩) (by assumption) ?_
            rotate_left
            · intro w' hSw
              try dsimp only at hSw
              try obtain ⟨hSw, hSw2⟩ := hSw
              go_simp
              try with_reducible rfl
            show wpAnyZ _ _ _ _ _ _ _ _ (Act.put _ (some 80) _) _
            simp only [Act.put, List.setIfInBounds_toArray, List.set_cons_zero, List.set_cons_succ]
            refine wpAnyZ_take (i := 5) (v := ?_) rfl (by kernel_rfl) (by kernel_rfl) (by kernel_rfl) (fun _ _ _ h => h) (by kernel_rfl) (Or.inl ⟨by rfl, ?_⟩) (by assumption) ?_
            rotate_left
            · intro w' hSw
              try dsimp only at hSw
              try obtain ⟨hSw, hSw2⟩ := hSw
              go_simp
              try with_reducible rfl
            show wpAnyZ _ _ _ _ _ _ _ _ (Act.put _ (some 81) _) _
            simp only [Act.put, List.setIfInBounds_toArray, List.set_cons_zero, List.set_cons_succ]
            refine wpAnyZ_take (i := 6) (v := ?_) rfl (by kernel_rfl) (by kernel_rfl) (by kernel_rfl) (fun _ _ _ h => h) (by kernel_rfl) (Or.inl ⟨by rfl, ?_⟩) (by assumption) ?_
            rotate_left
            · intro w' hSw
              try dsimp only at hSw
              try obtain ⟨hSw, hSw2⟩ := hSw
              go_simp
              try with_reducible rfl
            show wpAnyZ _ _ _ _ _ _ _ _ (Act.put _ (some 82) _) _
            simp only [Act.put, List.setIfInBounds_toArray, List.set_cons_zero, List.set_cons_succ]
            refine wpAnyZ_take (i := 7) (v := ?_) rfl (by kernel_rfl) (by kernel_rfl) (by kernel_rfl) (fun _ _ _ h => h) (by kernel_rfl) (Or.inl ⟨by rfl, ?_⟩) (by assumption) ?_
            rotate_left
            · intro w' hSw
              try dsimp only at hSw
              try obtain ⟨hSw, hSw2⟩ := hSw
              go_simp
              try with_reducible rfl
            show wpAnyZ _ _ _ _ _ _ _ _ (Act.put _ (some 83) _) _
            simp only [Act.put, List.setIfInBounds_toArray, List.set_cons_zero, List.set_cons_succ]
            refine wpAnyZ_take (i := 8) (v := ?_) rfl (by kernel_rfl) (by kernel_rfl) (by kernel_rfl) (fun _ _ _ h => h) (by kernel_rfl) (Or.inl ⟨by rfl, ?_⟩) (by assumption) ?_
            rotate_left
            · intro w' hSw
              try dsimp only at hSw
              try obtain ⟨hSw, hSw2⟩ := hSw
              go_simp
              try with_reducible rfl
            show wpAnyZ _ _ _ _ _ _ _ _ (Act.put _ (some 84) _) _
            simp only [Act.put, List.setIfInBounds_toArray, List.set_cons_zero, List.set_cons_succ]
            refine wpAnyZ_take (i := 9) (v := ?_) rfl (by kernel_rfl) (by kernel_rfl) (by kernel_rfl) (fun _ _ _ h => h) (by kernel_rfl) (Or.inl ⟨by rfl, ?_⟩) (by assumption) ?_
            rotate_left
            · intro w' hSw
              try dsimp only at hSw
              try obtain ⟨hSw, hSw2⟩ := hSw
              go_simp
              try with_reducible rfl
            show wpAnyZ _ _ _ _ _ _ _ _ (Act.put _ (some 85) _) _
            simp only [Act.put, List.setIfInBounds_toArray, List.set_cons_zero, List.set_cons_succ]
            clear hSS x3 hc3
            refine wpAnyZ_one (i := 10) (by kernel_rfl) rfl rfl (fun K hK => ?_)
            go_simp
            have hb6 : Below wr.heap.size wr (wr.alloc (.cells #[.int .i64 y] 2)).drew := ((Below.refl _ _).alloc (Nat.le_refl _) _).drew
            have hO6 := HOR.out.next hb6
            have hr6 := HRW.out.below hb6
            have hs6 : Src (wr.alloc (.cells #[.int .i64 y] 2)).drew (.slice (some ⟨wr.heap.size, 0, none⟩) 1 1) 1 ([y].map (Value.int .i64)) := src_one wr y _ rfl
            refine hK.out _ _ (.inr ⟨hO6.c3, keepCell hO6.b HC3.out⟩) ?_
            clear hK hb6
            generalize (wr.alloc (.cells #[.int .i64 y] 2)).drew = w5 at hO6 hr6 hs6 ⊢
            have HO6 := Lib.hid hO6; have HR6 := Lib.hid hr6; have HS6 := Lib.hid hs6
            clear hO6 hr6 hs6 HOR HRW
            refine wpAnyZ_one (i := 11) (by kernel_rfl) rfl rfl (fun K hK => ?_)
            refine wp_app (.tmp 76) (.tmp 86) rfl w.heap.size _ (roundL e k) [y] _ 1 rfl rfl HR6.out rfl HS6.out (by rw [HLN.out]; omega) HO6.out.b.size ?_
            intro v' w9 hv9 hg9 hn9
            have HV9 := Lib.hid (show RowI w.heap.size w9 v' (roundL e (k + 1)) by rw [HST.out]; exact hv9)
            have HO9 := Lib.hid (HO6.out.app (Below.refl _ _) HR6.out hg9)
            refine hK.out _ _ (.inr ⟨HO9.out.c3, keepCell HO9.out.b HC3.out⟩) ?_
            clear hK hv9 hg9 hn9 HO6 HR6 HS6 HST HC3
            refine wpAnyZ_one (i := 12) (by kernel_rfl) rfl rfl (fun K hK => ?_)
            go_simp
            refine hK.out _ _ (.inl (Nat.le_refl _)) ?_
            clear hK
            refine wpAnyZ_done (by kernel_rfl) ?_ _
            go_wp2_with fail
            go_roundw
            case rel => exact ⟨k + 1, by omega, by go_num, HO9.out, HV9.out⟩
            case measure => simp [intOf] <;> omega
          · obtain rfl : k = m := by omega
            obtain ⟨a9, c9, e9, -, -⟩ := hrw.slice
            have hq := made_any _ w.heap.size hO.b.size (.slice a1 d.length c1) _ d (roundL e k) ⟨_, _, rfl⟩ (HS1.out.below hO.b) (by omega) hrw
            rw [HR0.out] at hq
            have HQ := Lib.hid hq; have HR := Lib.hid hO.r; have HB := Lib.hid hO.b
            have x1 := hO.c1
            subst e9
            clear hq hO hrw hlt
            go_wp2_with fail
            refine (Hid.out HQ).mono ?_
            rintro e w9 ⟨⟨v9, u9, rfl, hv9, hu9, hap9⟩, hb9⟩
            have hR9 := block_below (Hid.out HR) hb9
            have HV9 := Lib.hid hv9; have HU9 := Lib.hid hu9; have HAP9 := Lib.hid hap9; have HR9 := Lib.hid hR9
            have HB9 := Lib.hid (bNext hb9 (Hid.out HB))
            obtain ⟨a9, c9, rfl, -, -⟩ := RowI.slice hv9
            obtain ⟨a8, c8, rfl, -, -⟩ := RowI.slice hu9
            have g0 := cell_of_row w9 _ 0 _ _ _ hR9; have g1 := cell_of_row w9 _ 1 _ _ _ hR9
            have z0 := frozen_of_row w9 _ 0 _ _ hR9; have z1 := frozen_of_row w9 _ 1 _ _ hR9
            clear hv9 hu9 hap9 hb9 hR9
            go_wp2_with fail
            exact fin_arr rfl rfl rfl HR9.out HV9.out HU9.out HAP9.out HB9.out (by omega)
      · obtain rfl : m = 0 := by omega
        clear hz HQ
        go_wp2_with fail
        clear x1 x3
        go_loopw [9, 10] (fun o i wr => i = .int .i64 0 ∧ Duo w wr (.slice a0 s.length c0) (.slice a1 d.length c1) (.slice a2 t.length c2) (.slice a3 e.length c3) ∧ RowI w.heap.size wr o (roundL e 0)) (fun _ i _ => 0)
        case atStart => exact ⟨rfl, HO4.out, RowI.nil _ _⟩
        case round =>
          obtain ⟨rfl, hO, hrw⟩ := hrel
          clear HO4
          obtain ⟨a9, c9, e9, -, -⟩ := hrw.slice
          have hq := made_any _ w.heap.size hO.b.size (.slice a1 d.length c1) _ d (roundL e 0) ⟨_, _, rfl⟩ (HS1.out.below hO.b) (by omega) hrw
          rw [HR0.out] at hq
          have HQ := Lib.hid hq; have HR := Lib.hid hO.r; have HB := Lib.hid hO.b
          have x1 := hO.c1
          subst e9
          clear hq hO hrw
          go_wp2_with fail
          refine (Hid.out HQ).mono ?_
          rintro e w9 ⟨⟨v9, u9, rfl, hv9, hu9, hap9⟩, hb9⟩
          have hR9 := block_below (Hid.out HR) hb9
          have HV9 := Lib.hid hv9; have HU9 := Lib.hid hu9; have HAP9 := Lib.hid hap9; have HR9 := Lib.hid hR9
          have HB9 := Lib.hid (bNext hb9 (Hid.out HB))
          obtain ⟨a9, c9, rfl, -, -⟩ := RowI.slice hv9
          obtain ⟨a8, c8, rfl, -, -⟩ := RowI.slice hu9
          have g0 := cell_of_row w9 _ 0 _ _ _ hR9; have g1 := cell_of_row w9 _ 1 _ _ _ hR9
          have z0 := frozen_of_row w9 _ 0 _ _ hR9; have z1 := frozen_of_row w9 _ 1 _ _ hR9
          clear hv9 hu9 hap9 hb9 hR9
          go_wp2_with fail
          exact fin_arr rfl rfl rfl HR9.out HV9.out HU9.out HAP9.out HB9.out (by omega)
end Go.Proofs.Ytmjkncmpanhgjaa

namespace Go.Proofs.Ytmjkncmpanhgjaa
set_option maxRecDepth 100000
open Go.RowKit
set_option linter.unusedVariables false
set_option linter.unusedSimpArgs false

/-! windrowref07.cells. -/
theorem place_first {c m i A B : Nat} (hc : 0 < c) (hi : i < m * c) : i / c < m ∧ (A ≤ i / c ∧ i / c < B ↔ A * c ≤ i ∧ i < B * c) := by
  refine ⟨Nat.div_lt_of_lt_mul (by rw [Nat.mul_comm]; exact hi), ?_⟩
  rw [Nat.le_div_iff_mul_le hc, Nat.div_lt_iff_lt_mul hc]
/-- what is known of an array that has a number and a side -/
theorem idx_first {t e : List Int} {m c i : Nat} (hr : right t e = true) (ht : t.length ≠ 0) (hm : t.headD 0 = (m : Int)) (hc : (e.length : Int) / (m : Int) = (c : Int)) (hi : i < e.length) :
    0 < c ∧ e.length = m * c ∧ (idx t (i : Int)).getD 0 0 = ((i / c : Nat) : Int) := by
  have g := (right_good hr).2
  have hpos := right_pos hr (by omega)
  rcases t with _ | ⟨x, t⟩
  · exact absurd rfl ht
  obtain rfl : x = (m : Int) := hm
  have hm0 : 0 < (m : Int) := hpos _ (by simp)
  have hp := g.prod
  rw [prodL] at hp
  have hpt : 0 < prodL t := prodL_pos fun y hy => hpos y (by simp [hy])
  have hce : (c : Int) = prodL t := by rw [← hc, hp, Int.mul_ediv_cancel_left _ (by omega)]
  have he : e.length = m * c := by
    rw [← hce] at hp
    exact_mod_cast hp
  refine ⟨by omega, he, ?_⟩
  show ((i : Int) / prodL t) % (m : Int) = _
  rw [← hce]
  have h1 : (i : Int) / (c : Int) = ((i / c : Nat) : Int) := by exact_mod_cast rfl
  rw [h1]
  have h2 := (place_first (c := c) (m := m) (i := i) (A := 0) (B := 0) (by omega) (by rw [← he]; exact hi)).1
  exact Int.emod_eq_of_lt (Int.natCast_nonneg _) (by exact_mod_cast h2)
set_option maxHeartbeats 8000000 in
theorem rcells_any (w : World) (v u : Value) (s d : List Int) (fa fb : Int) (A B m c l h : Nat) (hs : SlA w v s) (hd : SlA w u d) (hr : right s d = true) (hs0 : s.length ≠ 0) (hm : s.headD 0 = (m : Int)) (hc : (d.length : Int) / (m : Int) = (c : Int))
    (hfa : fa = (A : Int)) (hfb : fb = (B : Int)) (hAB : A ≤ B) (hBm : B ≤ m) (hm6 : m ≤ 65536) (hl : A * c = l) (hh : B * c = h) :
    Calls Try.prog 81 #[.agg #[v, u], .int .i64 fa, .int .i64 fb] w fun e w' => RetArr w.heap.size (cutA s d fa fb) e w' ∧ Below w.heap.size w w' := by
  subst hfa hfb
  have hcut : cutA s d (A : Int) (B : Int) = okA (((B : Int) - (A : Int)) :: s.tail) ((d.drop l).take (h - l)) := cut_eq hm hc hl hh hAB
  rw [hcut]
  have hs4 := (right_good hr).2.len
  have hd6 := (right_good hr).2.le
  have hlh : l ≤ h := by rw [← hl, ← hh]; exact Nat.mul_le_mul_right _ hAB
  have hixx : ∀ i, i < d.length → 0 < c ∧ d.length = m * c ∧ (idx s (i : Int)).getD 0 0 = ((i / c : Nat) : Int) := fun i hi => idx_first hr hs0 hm hc hi
  have HIX := Lib.hid hixx
  clear hixx
  have HSZ := Lib.hid (right_size hr)
  have HAL := Lib.hid hl; have HBH := Lib.hid hh
  have HSC := Lib.hid hs.src
  have hsp : 0 < s.length := by omega
  have hspI : (0 : Int) < (s.length : Int) := by omega
  clear hcut hm hc hl hh hs0
  obtain ⟨a0, c0, rfl, h01, h02, -, h04, -⟩ := hs
  obtain ⟨a1, c1, rfl, h11, h12, -, h14, hin⟩ := hd
  have h02' : c0 ≤ 9223372036854775807 := h02
  have h12' : c1 ≤ 9223372036854775807 := h12
  have HM : Hid (s.length ≤ maxLen) := Lib.hid (Nat.le_trans h01 h02)
  have HRT := Lib.hid hr; have H0 := Lib.hid h04; have H1 := Lib.hid h14; have HIN := Lib.hid hin
  have HO := Lib.hid (One.mk0 w (.slice a0 s.length c0) (.slice a1 d.length c1))
  obtain ⟨r, HRR⟩ : ∃ r, Hid ((okA (((B : Int) - (A : Int)) :: s.tail) ((d.drop l).take (h - l))) = r) := ⟨_, Lib.hid rfl⟩
  rw [HRR.out]
  clear hr h04 h14 h02 h12 hin
  go_enter Try.func81, Try.ntmps81
  go_upto_region 1 with fail
  refine gen_worldA (fun W => One w W (.slice a0 s.length c0) (.slice a1 d.length c1)) HO.out ?_
  rintro W1 hO
  have hba : Below W1.heap.size W1 (W1.alloc (.cells #[] 2)) := (Below.refl _ _).alloc (Nat.le_refl _) _
  have HLIT := Lib.hid (row_nil_lit w.heap.size W1 hO.b.size)
  have hOa := hO.next hba
  have HOa := Lib.hid hOa; have hsz := hOa.b.size
  have HSR := Lib.hid (HSC.out.below hOa.b)
  have x0 := hO.c0
  have hlw := hO.lt
  have hlw0 : w.heap.size < W1.heap.size := by omega
  clear hO hba hOa HO
  go_wp2_with (at_builtin; refine wpList_app rfl _ _ rfl w.heap.size _ [] s _ s.length rfl rfl HLIT.out rfl HSR.out (by simp; omega) hsz ?_)
  intro v8 W3 hv8 hg8 hn8
  have hv8 : RowI w.heap.size W3 v8 s := hv8
  have HO3 := Lib.hid (HOa.out.app (Below.refl _ _) HLIT.out hg8)
  obtain ⟨G, c8, rfl, hGB, hG⟩ := hv8.form hsp
  have hf8 := hv8.fr 0
  have hc8 := hv8.at (k := 0) hsp
  have hs8 := hv8.set 0 ((B : Int) - (A : Int))
  rw [set_zero (by omega)] at hs8
  have HS8 := Lib.hid hs8
  have HO4 := Lib.hid (One.kb HO3.out ((KB.refl (fun g => g = G) W3).setCell (p := ⟨G, 0, none⟩) (fun _ => rfl) (.int .i64 ((B : Int) - (A : Int)))) (fun g e => by
    rw [e]
    have h1 := own_typed hv8 rfl
    obtain ⟨cur, h1⟩ := h1
    have hx := HO3.out.x; have hy := HO3.out.r
    have n1 : G ≠ w.heap.size := fun e => by rw [e, hx] at h1; simp at h1
    have n2 : G ≠ w.heap.size + 1 := fun e => by rw [e, hy] at h1; simp at h1
    omega))
  clear hv8 hg8 hn8 hs8 HLIT HSR HOa HO3 x0 hsz
  go_upto_region 3 with fail
  refine gen_worldA (fun W => One w W (.slice a0 s.length c0) (.slice a1 d.length c1) ∧ RowI w.heap.size W (.slice (some ⟨G, 0, none⟩) s.length c8) (((B : Int) - (A : Int)) :: s.tail) ∧ G < W.heap.size) ⟨HO4.out, HS8.out, by simpa using hG⟩ ?_
  rintro W4 ⟨hO, hv, hGW⟩
  have HO5 := Lib.hid hO; have HV5 := Lib.hid hv
  obtain ⟨B8, hB8⟩ : ∃ B, W4.heap.size = B := ⟨_, rfl⟩
  have HB8 := Lib.hid hB8
  rw [hB8] at hGW
  have hB8w : w.heap.size ≤ B8 := hB8 ▸ hO.b.size
  clear hO hv HO4 HS8 hf8 hc8 hG hB8 hlw hlw0
  go_wp2_with fail
  go_loopw [9, 10] (fun o i wr => ∃ k : Nat, k ≤ d.length ∧ i = .int .i64 k ∧ B8 ≤ wr.heap.size ∧ One w wr (.slice a0 s.length c0) (.slice a1 d.length c1) ∧ RowI w.heap.size wr (.slice (some ⟨G, 0, none⟩) s.length c8) (((B : Int) - (A : Int)) :: s.tail) ∧
    RowI B8 wr o (part d l (h - l) k)) (fun _ i _ => d.length - (intOf i).toNat)
  case atStart => exact ⟨0, by omega, rfl, by have := HB8.out; omega, HO5.out, HV5.out, by simpa [part] using RowI.nil _ _⟩
  case round =>
    obtain ⟨k, hk, rfl, hbw, hO, hv, hrw⟩ := hrel
    clear HO5 HV5 HB8
    have x0 := hO.c0; have x1 := hO.c1
    by_cases hlt : k < d.length
    · obtain ⟨hc0', hmc, hix⟩ := HIX.out k hlt
      have hq := rindex_any wr a0 c0 s k HM.out (H0.out.below hO.b (Nat.le_refl _))
      have hir : index s (k : Int) = (idx s (k : Int), 0) := by
        unfold index
        rw [HSZ.out, if_pos rfl, if_neg (by simp only []; omega)]
      rw [hir] at hq
      obtain ⟨hpf1, hpf2⟩ := place_first (c := c) (m := m) (i := k) (A := A) (B := B) hc0' (by rw [← hmc]; exact hlt)
      rw [HAL.out, HBH.out] at hpf2
      obtain ⟨b1, o1, rfl, hc1⟩ := H1.out.atD hlt
      have hpin : (A ≤ k / c ∧ k / c < B) → part d l (h - l) (k + 1) = part d l (h - l) k ++ [d.getD k 0] := fun hh => by
        have := hpf2.1 hh
        rw [part_in hlt this.1 (by omega), List.getD_eq_getElem?_getD, List.getElem?_eq_getElem hlt]; rfl
      have hpout : ¬ (A ≤ k / c ∧ k / c < B) → part d l (h - l) (k + 1) = part d l (h - l) k := fun hh => part_out hlt (fun h3 => hh (hpf2.2 ⟨h3.1, by omega⟩))
      have hil : (idx s (k : Int)).length = s.length := length_idx _ _
      have HC1 := Lib.hid hc1
      have hkd : (k : Int) < (d.length : Int) := by omega
      generalize d.getD k 0 = y at hc1 hpin HC1
      generalize k / c = q at hix hpf1 hpf2 hpin hpout
      generalize idx s (k : Int) = ix at hq hix hil
      have HQ := Lib.hid hq; have HIN2 := Lib.hid hpin; have HOUT := Lib.hid hpout; have HIL := Lib.hid hil; have HIXQ := Lib.hid hix
      have HOR := Lib.hid hO; have HV := Lib.hid hv; have HRW := Lib.hid hrw
      clear hq hpin hpout hil hix hO hv hrw hc1 hpf2 hir hmc hc0'
      go_wp2_with fail
      refine HQ.out.mono ?_
      rintro e W5 ⟨⟨v5, rfl, hv5⟩, hb5⟩
      obtain ⟨g5, c5, e5, -, -⟩ := hv5.form (by rw [HIL.out]; exact hsp)
      rw [HIL.out] at e5
      subst e5
      have hx5 := hv5.at (k := 0) (by rw [HIL.out]; exact hsp)
      rw [HIXQ.out] at hx5
      have HO6 := Lib.hid (HOR.out.next hb5); have HV6 := Lib.hid (HV.out.below hb5); have HR6 := Lib.hid (HRW.out.below hb5)
      have hb6 : B8 ≤ W5.heap.size := Nat.le_trans hbw hb5.size
      clear HQ hv5 hb5 HOR HV HRW hbw x0 x1
      by_cases hin : A ≤ q ∧ q < B
      · have HP := Lib.hid (HIN2.out hin)
        obtain ⟨hi1, hi2⟩ := hin
        have hi1I : (A : Int) ≤ (q : Int) := by omega
        have hi2I : (q : Int) < (B : Int) := by omega
        have hc1 := keepCell HO6.out.b HC1.out
        have x1 := HO6.out.c1
        have hba : Below W5.heap.size W5 (W5.alloc (.cells #[.int .i64 y] 2)) := (Below.refl _ _).alloc (Nat.le_refl _) _
        have HBA := Lib.hid hba; have HR7 := Lib.hid (HR6.out.below hba); have HV7 := Lib.hid (HV6.out.below hba)
        have hsz : B8 ≤ (W5.alloc (.cells #[.int .i64 y] 2)).heap.size := Nat.le_trans hb6 hba.size
        have HPL := Lib.hid (show (part d l (h - l) k).length ≤ 65536 by unfold part; rw [List.length_take, List.length_drop, List.length_take]; omega)
        clear HIN2 HOUT hba HIXQ HC1 hb6
        go_wp2_with (at_builtin; refine wpList_app rfl _ _ rfl B8 _ (part d l (h - l) k) [y] _ 1 rfl rfl HR7.out rfl (src_one W5 y _ rfl) (by have := HPL.out; omega) hsz ?_)
        intro v' w9 hv9 hg9 hn9
        have HV9 := Lib.hid (show RowI B8 w9 v' (part d l (h - l) (k + 1)) by rw [HP.out]; exact hv9)
        have HO9 := Lib.hid (HO6.out.app HBA.out (HR7.out.mono hB8w) hg9)
        have HS9 := Lib.hid (HV7.out.kept hg9 (.inr (fun e => by
          have h2 := (HR7.out.lt G e.symm).1
          omega)))
        have hb9 : B8 ≤ w9.heap.size := Nat.le_trans hsz hg9.size
        clear hv9 hg9 hn9 HBA HR7 HV7 HO6 HV6 HR6 hsz hc1 x1 hx5 HP
        go_wp2_with fail
        go_roundw
        case rel => exact ⟨k + 1, by omega, by go_num, hb9, HO9.out, HS9.out, HV9.out⟩
        case measure => simp [intOf] <;> omega
      · have HP := Lib.hid (HOUT.out hin)
        clear HIN2 HOUT HIXQ HC1
        by_cases hi1 : A ≤ q
        · have hi1I : (A : Int) ≤ (q : Int) := by omega
          have hi2I : ¬ (q : Int) < (B : Int) := by omega
          clear hin
          go_wp2_with fail
          go_roundw
          case rel => exact ⟨k + 1, by omega, by go_num, hb6, HO6.out, HV6.out, by rw [HP.out]; exact HR6.out⟩
          case measure => simp [intOf] <;> omega
        · have hi1I : ¬ (A : Int) ≤ (q : Int) := by omega
          clear hin
          go_wp2_with fail
          go_roundw
          case rel => exact ⟨k + 1, by omega, by go_num, hb6, HO6.out, HV6.out, by rw [HP.out]; exact HR6.out⟩
          case measure => simp [intOf] <;> omega
    · obtain rfl : k = d.length := by omega
      have hrr := HRR.out
      rw [part_all] at hrw
      generalize (d.drop l).take (h - l) = D at hrw hrr
      have HR0 := Lib.hid hrr
      clear hrr HRR
      have hlv : (((B : Int) - (A : Int)) :: s.tail).length = s.length := by simp; omega
      obtain ⟨a9, c9, e9, -, -⟩ := hrw.slice
      have hq := made_any wr w.heap.size hO.b.size (.slice (some ⟨G, 0, none⟩) s.length c8) _ (((B : Int) - (A : Int)) :: s.tail) _ ⟨_, _, by rw [hlv]⟩ hv.src (by rw [hlv]; omega) (hrw.mono hB8w)
      rw [HR0.out] at hq
      have HQ := Lib.hid hq; have HR := Lib.hid hO.r; have HB := Lib.hid hO.b
      subst e9
      clear hq hO hrw hlt hv hlv
      go_wp2_with fail
      refine (Hid.out HQ).mono ?_
      rintro e w9 ⟨⟨v9, u9, rfl, hv9, hu9, hap9⟩, hb9⟩
      have hR9 := block_below (Hid.out HR) hb9
      have HV9 := Lib.hid hv9; have HU9 := Lib.hid hu9; have HAP9 := Lib.hid hap9; have HR9 := Lib.hid hR9
      have HB9 := Lib.hid (bNext hb9 (Hid.out HB))
      obtain ⟨a9, c9, rfl, -, -⟩ := RowI.slice hv9
      obtain ⟨a8, c8, rfl, -, -⟩ := RowI.slice hu9
      have g0 := cell_of_row w9 _ 0 _ _ _ hR9; have g1 := cell_of_row w9 _ 1 _ _ _ hR9
      have z0 := frozen_of_row w9 _ 0 _ _ hR9; have z1 := frozen_of_row w9 _ 1 _ _ hR9
      clear hv9 hu9 hap9 hb9 hR9
      go_wp2_with fail
      exact fin_arr rfl rfl rfl HR9.out HV9.out HU9.out HAP9.out HB9.out (by omega)
end Go.Proofs.Ytmjkncmpanhgjaa

namespace Go.Proofs.Ytmjkncmpanhgjaa
set_option maxRecDepth 100000
open Go.RowKit
set_option linter.unusedVariables false
set_option linter.unusedSimpArgs false

/-! windrowref07.take. -/
set_option maxHeartbeats 8000000 in
theorem rtake_any (w : World) (b : Bool) (v u v2 u2 : Value) (s d t e : List Int) (hs : SlA w v s) (hd : SlA w u d) (ht : SlA w v2 t) (he : SlA w u2 e) (hr1 : right s d = true) (hr2 : right t e = true) :
    Calls Try.prog 56 #[.agg #[v, u], .agg #[v2, u2], .bool b] w fun e' w' => RetArr w.heap.size (takeA s d t e b) e' w' ∧ Below w.heap.size w w' := by
  by_cases hb : 0 < s.length ∨ t.length = 0
  · have e1 : takeA s d t e b = noA 71 := by unfold takeA; rw [if_pos hb]
    rw [e1]
    clear e1
    have HS0 := Lib.hid hs.src; have HS1 := Lib.hid hd.src; have HS2 := Lib.hid ht.src; have HS3 := Lib.hid he.src
    obtain ⟨a0, c0, rfl, h01, h02, -, h04, -⟩ := hs
    obtain ⟨a1, c1, rfl, h11, h12, -, h14, hin⟩ := hd
    obtain ⟨a2, c2, rfl, h21, h22, -, h24, -⟩ := ht
    obtain ⟨a3, c3, rfl, h31, h32, -, h34, hie⟩ := he
    have h02' : c0 ≤ 9223372036854775807 := h02
    have h12' : c1 ≤ 9223372036854775807 := h12
    have h22' : c2 ≤ 9223372036854775807 := h22
    have h32' : c3 ≤ 9223372036854775807 := h32
    have HM : Hid (s.length ≤ maxLen) := Lib.hid (Nat.le_trans h01 h02)
    have HM2 : Hid (t.length ≤ maxLen) := Lib.hid (Nat.le_trans h21 h22)
    have H0 := Lib.hid h04; have H1 := Lib.hid h14; have HIN := Lib.hid hin
    have H2 := Lib.hid h24; have H3 := Lib.hid h34; have HIE := Lib.hid hie
    have HO := Lib.hid (Duo.mk0 w (.slice a0 s.length c0) (.slice a1 d.length c1) (.slice a2 t.length c2) (.slice a3 e.length c3))
    obtain ⟨r, HRR⟩ : ∃ r, Hid ((noA 71) = r) := ⟨_, Lib.hid rfl⟩
    rw [HRR.out]
    clear h04 h14 h24 h34 h02 h12 h22 h32 hin hie
    go_enter Try.func56, Try.ntmps56
    go_upto_region 1 with fail
    refine gen_worldA (fun W => Duo w W (.slice a0 s.length c0) (.slice a1 d.length c1) (.slice a2 t.length c2) (.slice a3 e.length c3)) HO.out ?_
    rintro W1 hO
    have HO2 := Lib.hid hO
    have x0 := hO.c0; have x1 := hO.c1; have x2 := hO.c2; have x3 := hO.c3
    clear HO hO
    have hq := rno_at W1 w.heap.size HO2.out.b.size 71 r HRR.out
    have HQ := Lib.hid hq; have HR := Lib.hid HO2.out.r; have HB := Lib.hid HO2.out.b
    clear hq
    rcases hb with hb | hb
    · go_wp2_with fail
      refine (Hid.out HQ).mono ?_
      rintro e w9 ⟨⟨v9, u9, rfl, hv9, hu9, hap9⟩, hb9⟩
      have hR9 := block_below (Hid.out HR) hb9
      have HV9 := Lib.hid hv9; have HU9 := Lib.hid hu9; have HAP9 := Lib.hid hap9; have HR9 := Lib.hid hR9
      have HB9 := Lib.hid (bNext hb9 (Hid.out HB))
      obtain ⟨a9, c9, rfl, -, -⟩ := RowI.slice hv9
      obtain ⟨a8, c8, rfl, -, -⟩ := RowI.slice hu9
      have g0 := cell_of_row w9 _ 0 _ _ _ hR9; have g1 := cell_of_row w9 _ 1 _ _ _ hR9
      have z0 := frozen_of_row w9 _ 0 _ _ hR9; have z1 := frozen_of_row w9 _ 1 _ _ hR9
      clear hv9 hu9 hap9 hb9 hR9
      go_wp2_with fail
      exact fin_arr rfl rfl rfl HR9.out HV9.out HU9.out HAP9.out HB9.out (by omega)
    · by_cases hs0 : 0 < s.length
      · go_wp2_with fail
        refine (Hid.out HQ).mono ?_
        rintro e w9 ⟨⟨v9, u9, rfl, hv9, hu9, hap9⟩, hb9⟩
        have hR9 := block_below (Hid.out HR) hb9
        have HV9 := Lib.hid hv9; have HU9 := Lib.hid hu9; have HAP9 := Lib.hid hap9; have HR9 := Lib.hid hR9
        have HB9 := Lib.hid (bNext hb9 (Hid.out HB))
        obtain ⟨a9, c9, rfl, -, -⟩ := RowI.slice hv9
        obtain ⟨a8, c8, rfl, -, -⟩ := RowI.slice hu9
        have g0 := cell_of_row w9 _ 0 _ _ _ hR9; have g1 := cell_of_row w9 _ 1 _ _ _ hR9
        have z0 := frozen_of_row w9 _ 0 _ _ hR9; have z1 := frozen_of_row w9 _ 1 _ _ hR9
        clear hv9 hu9 hap9 hb9 hR9
        go_wp2_with fail
        exact fin_arr rfl rfl rfl HR9.out HV9.out HU9.out HAP9.out HB9.out (by omega)
      · have ht0 : (t.length : Int) = 0 := by omega
        go_wp2_with fail
        refine (Hid.out HQ).mono ?_
        rintro e w9 ⟨⟨v9, u9, rfl, hv9, hu9, hap9⟩, hb9⟩
        have hR9 := block_below (Hid.out HR) hb9
        have HV9 := Lib.hid hv9; have HU9 := Lib.hid hu9; have HAP9 := Lib.hid hap9; have HR9 := Lib.hid hR9
        have HB9 := Lib.hid (bNext hb9 (Hid.out HB))
        obtain ⟨a9, c9, rfl, -, -⟩ := RowI.slice hv9
        obtain ⟨a8, c8, rfl, -, -⟩ := RowI.slice hu9
        have g0 := cell_of_row w9 _ 0 _ _ _ hR9; have g1 := cell_of_row w9 _ 1 _ _ _ hR9
        have z0 := frozen_of_row w9 _ 0 _ _ hR9; have z1 := frozen_of_row w9 _ 1 _ _ hR9
        clear hv9 hu9 hap9 hb9 hR9
        go_wp2_with fail
        exact fin_arr rfl rfl rfl HR9.out HV9.out HU9.out HAP9.out HB9.out (by omega)
  have hs0 : ¬ 0 < s.length := fun h => hb (.inl h)
  have ht0 : t.length ≠ 0 := fun h => hb (.inr h)
  have hd1 := one_of_none hr1 (by omega)
  have ht4 := (right_good hr2).2.len
  have he6 := (right_good hr2).2.le
  obtain ⟨m, c, hm, hm6, hc, hmc, hme, hc6⟩ := first_side hr2 ht0
  have e1 : takeA s d t e b = if (m : Int) < d.headD 0 ∨ d.headD 0 < -(m : Int) then noA 73 else if 0 ≤ d.headD 0 then (if b then cutA t e (d.headD 0) m else cutA t e 0 (d.headD 0)) else if b then cutA t e 0 (m + d.headD 0) else cutA t e (m + d.headD 0) m := by
    unfold takeA; rw [if_neg hb, hm]
  rw [e1]
  have hht := ht; have hhe := he
  have hi : ∀ W, Below w.heap.size w W → ∀ (fa fb : Int) (A B : Nat), fa = (A : Int) → fb = (B : Int) → A ≤ B → B ≤ m → Calls Try.prog 81 #[.agg #[v2, u2], .int .i64 fa, .int .i64 fb] W fun e' w' => RetArr W.heap.size (cutA t e fa fb) e' w' ∧ Below W.heap.size W w' :=
    fun W hb fa fb A B h1 h2 h3 h4 => rcells_any W v2 u2 t e fa fb A B m c _ _ (hht.below hb) (hhe.below hb) hr2 ht0 hm hc h1 h2 h3 h4 hm6 rfl rfl
  have HI := Lib.hid hi
  have hdn : d.getD 0 0 = d.headD 0 := by cases d <;> rfl
  have htn : t.getD 0 0 = (m : Int) := by rw [← hm]; cases t <;> rfl
  generalize d.headD 0 = n at hdn
  have ht0 : 0 < t.length := by omega
  have ht0I : (0 : Int) < (t.length : Int) := by omega
  have hd0I : (0 : Int) < (d.length : Int) := by omega
  have hte : ¬ (t.length : Int) = 0 := by omega
  have HDN := Lib.hid hdn; have HTN := Lib.hid htn
  clear e1 hb hdn htn hmc hme hr1 hr2 hm hc hd1 hht hhe hi
  by_cases hn : (m : Int) < n ∨ n < -(m : Int)
  · rw [if_pos hn]
    have HS0 := Lib.hid hs.src; have HS1 := Lib.hid hd.src; have HS2 := Lib.hid ht.src; have HS3 := Lib.hid he.src
    obtain ⟨a0, c0, rfl, h01, h02, -, h04, -⟩ := hs
    obtain ⟨a1, c1, rfl, h11, h12, -, h14, hin⟩ := hd
    obtain ⟨a2, c2, rfl, h21, h22, -, h24, -⟩ := ht
    obtain ⟨a3, c3, rfl, h31, h32, -, h34, hie⟩ := he
    have h02' : c0 ≤ 9223372036854775807 := h02
    have h12' : c1 ≤ 9223372036854775807 := h12
    have h22' : c2 ≤ 9223372036854775807 := h22
    have h32' : c3 ≤ 9223372036854775807 := h32
    have HM : Hid (s.length ≤ maxLen) := Lib.hid (Nat.le_trans h01 h02)
    have HM2 : Hid (t.length ≤ maxLen) := Lib.hid (Nat.le_trans h21 h22)
    have H0 := Lib.hid h04; have H1 := Lib.hid h14; have HIN := Lib.hid hin
    have H2 := Lib.hid h24; have H3 := Lib.hid h34; have HIE := Lib.hid hie
    have HO := Lib.hid (Duo.mk0 w (.slice a0 s.length c0) (.slice a1 d.length c1) (.slice a2 t.length c2) (.slice a3 e.length c3))
    obtain ⟨r, HRR⟩ : ∃ r, Hid ((noA 73) = r) := ⟨_, Lib.hid rfl⟩
    rw [HRR.out]
    clear h04 h14 h24 h34 h02 h12 h22 h32 hin hie
    go_enter Try.func56, Try.ntmps56
    go_upto_region 1 with fail
    refine gen_worldA (fun W => Duo w W (.slice a0 s.length c0) (.slice a1 d.length c1) (.slice a2 t.length c2) (.slice a3 e.length c3)) HO.out ?_
    rintro W1 hO
    have HO2 := Lib.hid hO
    have x0 := hO.c0; have x1 := hO.c1; have x2 := hO.c2; have x3 := hO.c3
    clear HO hO
    obtain ⟨b1, o1, rfl, hc1⟩ := H1.out.atD (k := 0) (by omega)
    obtain ⟨b2, o2, rfl, hc2⟩ := H2.out.atD (k := 0) (by omega)
    rw [HDN.out, Nat.add_zero] at hc1
    rw [HTN.out, Nat.add_zero] at hc2
    have hcc1 := keepCell HO2.out.b hc1; have hcc2 := keepCell HO2.out.b hc2
    clear hc1 hc2
    have hq := rno_at W1 w.heap.size HO2.out.b.size 73 r HRR.out
    have HQ := Lib.hid hq; have HR := Lib.hid HO2.out.r; have HB := Lib.hid HO2.out.b
    clear hq HI
    rcases hn with hn | hn
    · go_wp2_with fail
      refine (Hid.out HQ).mono ?_
      rintro e w9 ⟨⟨v9, u9, rfl, hv9, hu9, hap9⟩, hb9⟩
      have hR9 := block_below (Hid.out HR) hb9
      have HV9 := Lib.hid hv9; have HU9 := Lib.hid hu9; have HAP9 := Lib.hid hap9; have HR9 := Lib.hid hR9
      have HB9 := Lib.hid (bNext hb9 (Hid.out HB))
      obtain ⟨a9, c9, rfl, -, -⟩ := RowI.slice hv9
      obtain ⟨a8, c8, rfl, -, -⟩ := RowI.slice hu9
      have g0 := cell_of_row w9 _ 0 _ _ _ hR9; have g1 := cell_of_row w9 _ 1 _ _ _ hR9
      have z0 := frozen_of_row w9 _ 0 _ _ hR9; have z1 := frozen_of_row w9 _ 1 _ _ hR9
      clear hv9 hu9 hap9 hb9 hR9
      go_wp2_with fail
      exact fin_arr rfl rfl rfl HR9.out HV9.out HU9.out HAP9.out HB9.out (by omega)
    · have hn0 : ¬ (m : Int) < n := by omega
      go_wp2_with fail
      refine (Hid.out HQ).mono ?_
      rintro e w9 ⟨⟨v9, u9, rfl, hv9, hu9, hap9⟩, hb9⟩
      have hR9 := block_below (Hid.out HR) hb9
      have HV9 := Lib.hid hv9; have HU9 := Lib.hid hu9; have HAP9 := Lib.hid hap9; have HR9 := Lib.hid hR9
      have HB9 := Lib.hid (bNext hb9 (Hid.out HB))
      obtain ⟨a9, c9, rfl, -, -⟩ := RowI.slice hv9
      obtain ⟨a8, c8, rfl, -, -⟩ := RowI.slice hu9
      have g0 := cell_of_row w9 _ 0 _ _ _ hR9; have g1 := cell_of_row w9 _ 1 _ _ _ hR9
      have z0 := frozen_of_row w9 _ 0 _ _ hR9; have z1 := frozen_of_row w9 _ 1 _ _ hR9
      clear hv9 hu9 hap9 hb9 hR9
      go_wp2_with fail
      exact fin_arr rfl rfl rfl HR9.out HV9.out HU9.out HAP9.out HB9.out (by omega)
  rw [if_neg hn]
  have hn1 : ¬ (m : Int) < n := fun h => hn (.inl h)
  have hn2 : ¬ n < -(m : Int) := fun h => hn (.inr h)
  clear hn
  by_cases hn0 : 0 ≤ n
  · rw [if_pos hn0]
    obtain ⟨k, rfl⟩ := Int.eq_ofNat_of_zero_le hn0
    cases b with
    | true =>
      rw [if_pos rfl]
      have HS0 := Lib.hid hs.src; have HS1 := Lib.hid hd.src; have HS2 := Lib.hid ht.src; have HS3 := Lib.hid he.src
      obtain ⟨a0, c0, rfl, h01, h02, -, h04, -⟩ := hs
      obtain ⟨a1, c1, rfl, h11, h12, -, h14, hin⟩ := hd
      obtain ⟨a2, c2, rfl, h21, h22, -, h24, -⟩ := ht
      obtain ⟨a3, c3, rfl, h31, h32, -, h34, hie⟩ := he
      have h02' : c0 ≤ 9223372036854775807 := h02
      have h12' : c1 ≤ 9223372036854775807 := h12
      have h22' : c2 ≤ 9223372036854775807 := h22
      have h32' : c3 ≤ 9223372036854775807 := h32
      have HM : Hid (s.length ≤ maxLen) := Lib.hid (Nat.le_trans h01 h02)
      have HM2 : Hid (t.length ≤ maxLen) := Lib.hid (Nat.le_trans h21 h22)
      have H0 := Lib.hid h04; have H1 := Lib.hid h14; have HIN := Lib.hid hin
      have H2 := Lib.hid h24; have H3 := Lib.hid h34; have HIE := Lib.hid hie
      have HO := Lib.hid (Duo.mk0 w (.slice a0 s.length c0) (.slice a1 d.length c1) (.slice a2 t.length c2) (.slice a3 e.length c3))
      obtain ⟨r, HRR⟩ : ∃ r, Hid ((cutA t e (k : Int) m) = r) := ⟨_, Lib.hid rfl⟩
      rw [HRR.out]
      clear h04 h14 h24 h34 h02 h12 h22 h32 hin hie
      go_enter Try.func56, Try.ntmps56
      go_upto_region 1 with fail
      refine gen_worldA (fun W => Duo w W (.slice a0 s.length c0) (.slice a1 d.length c1) (.slice a2 t.length c2) (.slice a3 e.length c3)) HO.out ?_
      rintro W1 hO
      have HO2 := Lib.hid hO
      have x0 := hO.c0; have x1 := hO.c1; have x2 := hO.c2; have x3 := hO.c3
      clear HO hO
      obtain ⟨b1, o1, rfl, hc1⟩ := H1.out.atD (k := 0) (by omega)
      obtain ⟨b2, o2, rfl, hc2⟩ := H2.out.atD (k := 0) (by omega)
      rw [HDN.out, Nat.add_zero] at hc1
      rw [HTN.out, Nat.add_zero] at hc2
      have hcc1 := keepCell HO2.out.b hc1; have hcc2 := keepCell HO2.out.b hc2
      clear hc1 hc2
      have hq := HI.out W1 HO2.out.b (k : Int) (m : Int) k m rfl rfl (by omega) (by omega)
      rw [HRR.out] at hq
      have hq := retB HO2.out.b.size hq
      have HQ := Lib.hid hq; have HR := Lib.hid HO2.out.r; have HB := Lib.hid HO2.out.b
      clear hq HI
      go_wp2_with fail
      refine (Hid.out HQ).mono ?_
      rintro e w9 ⟨⟨v9, u9, rfl, hv9, hu9, hap9⟩, hb9⟩
      have hR9 := block_below (Hid.out HR) hb9
      have HV9 := Lib.hid hv9; have HU9 := Lib.hid hu9; have HAP9 := Lib.hid hap9; have HR9 := Lib.hid hR9
      have HB9 := Lib.hid (bNext hb9 (Hid.out HB))
      obtain ⟨a9, c9, rfl, -, -⟩ := RowI.slice hv9
      obtain ⟨a8, c8, rfl, -, -⟩ := RowI.slice hu9
      have g0 := cell_of_row w9 _ 0 _ _ _ hR9; have g1 := cell_of_row w9 _ 1 _ _ _ hR9
      have z0 := frozen_of_row w9 _ 0 _ _ hR9; have z1 := frozen_of_row w9 _ 1 _ _ hR9
      clear hv9 hu9 hap9 hb9 hR9
      go_wp2_with fail
      exact fin_arr rfl rfl rfl HR9.out HV9.out HU9.out HAP9.out HB9.out (by omega)
      done
    | false =>
      rw [if_neg (by decide)]
      have HS0 := Lib.hid hs.src; have HS1 := Lib.hid hd.src; have HS2 := Lib.hid ht.src; have HS3 := Lib.hid he.src
      obtain ⟨a0, c0, rfl, h01, h02, -, h04, -⟩ := hs
      obtain ⟨a1, c1, rfl, h11, h12, -, h14, hin⟩ := hd
      obtain ⟨a2, c2, rfl, h21, h22, -, h24, -⟩ := ht
      obtain ⟨a3, c3, rfl, h31, h32, -, h34, hie⟩ := he
      have h02' : c0 ≤ 9223372036854775807 := h02
      have h12' : c1 ≤ 9223372036854775807 := h12
      have h22' : c2 ≤ 9223372036854775807 := h22
      have h32' : c3 ≤ 9223372036854775807 := h32
      have HM : Hid (s.length ≤ maxLen) := Lib.hid (Nat.le_trans h01 h02)
      have HM2 : Hid (t.length ≤ maxLen) := Lib.hid (Nat.le_trans h21 h22)
      have H0 := Lib.hid h04; have H1 := Lib.hid h14; have HIN := Lib.hid hin
      have H2 := Lib.hid h24; have H3 := Lib.hid h34; have HIE := Lib.hid hie
      have HO := Lib.hid (Duo.mk0 w (.slice a0 s.length c0) (.slice a1 d.length c1) (.slice a2 t.length c2) (.slice a3 e.length c3))
      obtain ⟨r, HRR⟩ : ∃ r, Hid ((cutA t e 0 (k : Int)) = r) := ⟨_, Lib.hid rfl⟩
      rw [HRR.out]
      clear h04 h14 h24 h34 h02 h12 h22 h32 hin hie
      go_enter Try.func56, Try.ntmps56
      go_upto_region 1 with fail
      refine gen_worldA (fun W => Duo w W (.slice a0 s.length c0) (.slice a1 d.length c1) (.slice a2 t.length c2) (.slice a3 e.length c3)) HO.out ?_
      rintro W1 hO
      have HO2 := Lib.hid hO
      have x0 := hO.c0; have x1 := hO.c1; have x2 := hO.c2; have x3 := hO.c3
      clear HO hO
      obtain ⟨b1, o1, rfl, hc1⟩ := H1.out.atD (k := 0) (by omega)
      obtain ⟨b2, o2, rfl, hc2⟩ := H2.out.atD (k := 0) (by omega)
      rw [HDN.out, Nat.add_zero] at hc1
      rw [HTN.out, Nat.add_zero] at hc2
      have hcc1 := keepCell HO2.out.b hc1; have hcc2 := keepCell HO2.out.b hc2
      clear hc1 hc2
      have hq := HI.out W1 HO2.out.b (0 : Int) (k : Int) 0 k rfl rfl (by omega) (by omega)
      rw [HRR.out] at hq
      have hq := retB HO2.out.b.size hq
      have HQ := Lib.hid hq; have HR := Lib.hid HO2.out.r; have HB := Lib.hid HO2.out.b
      clear hq HI
      go_wp2_with fail
      refine (Hid.out HQ).mono ?_
      rintro e w9 ⟨⟨v9, u9, rfl, hv9, hu9, hap9⟩, hb9⟩
      have hR9 := block_below (Hid.out HR) hb9
      have HV9 := Lib.hid hv9; have HU9 := Lib.hid hu9; have HAP9 := Lib.hid hap9; have HR9 := Lib.hid hR9
      have HB9 := Lib.hid (bNext hb9 (Hid.out HB))
      obtain ⟨a9, c9, rfl, -, -⟩ := RowI.slice hv9
      obtain ⟨a8, c8, rfl, -, -⟩ := RowI.slice hu9
      have g0 := cell_of_row w9 _ 0 _ _ _ hR9; have g1 := cell_of_row w9 _ 1 _ _ _ hR9
      have z0 := frozen_of_row w9 _ 0 _ _ hR9; have z1 := frozen_of_row w9 _ 1 _ _ hR9
      clear hv9 hu9 hap9 hb9 hR9
      go_wp2_with fail
      exact fin_arr rfl rfl rfl HR9.out HV9.out HU9.out HAP9.out HB9.out (by omega)
      done
  · rw [if_neg hn0]
    have hn3 : n < 0 := by omega
    obtain ⟨k, hk⟩ : ∃ k : Nat, (m : Int) + n = (k : Int) := ⟨((m : Int) + n).toNat, by omega⟩
    rw [hk]
    cases b with
    | true =>
      rw [if_pos rfl]
      have HS0 := Lib.hid hs.src; have HS1 := Lib.hid hd.src; have HS2 := Lib.hid ht.src; have HS3 := Lib.hid he.src
      obtain ⟨a0, c0, rfl, h01, h02, -, h04, -⟩ := hs
      obtain ⟨a1, c1, rfl, h11, h12, -, h14, hin⟩ := hd
      obtain ⟨a2, c2, rfl, h21, h22, -, h24, -⟩ := ht
      obtain ⟨a3, c3, rfl, h31, h32, -, h34, hie⟩ := he
      have h02' : c0 ≤ 9223372036854775807 := h02
      have h12' : c1 ≤ 9223372036854775807 := h12
      have h22' : c2 ≤ 9223372036854775807 := h22
      have h32' : c3 ≤ 9223372036854775807 := h32
      have HM : Hid (s.length ≤ maxLen) := Lib.hid (Nat.le_trans h01 h02)
      have HM2 : Hid (t.length ≤ maxLen) := Lib.hid (Nat.le_trans h21 h22)
      have H0 := Lib.hid h04; have H1 := Lib.hid h14; have HIN := Lib.hid hin
      have H2 := Lib.hid h24; have H3 := Lib.hid h34; have HIE := Lib.hid hie
      have HO := Lib.hid (Duo.mk0 w (.slice a0 s.length c0) (.slice a1 d.length c1) (.slice a2 t.length c2) (.slice a3 e.length c3))
      obtain ⟨r, HRR⟩ : ∃ r, Hid ((cutA t e 0 (k : Int)) = r) := ⟨_, Lib.hid rfl⟩
      rw [HRR.out]
      clear h04 h14 h24 h34 h02 h12 h22 h32 hin hie
      go_enter Try.func56, Try.ntmps56
      go_upto_region 1 with fail
      refine gen_worldA (fun W => Duo w W (.slice a0 s.length c0) (.slice a1 d.length c1) (.slice a2 t.length c2) (.slice a3 e.length c3)) HO.out ?_
      rintro W1 hO
      have HO2 := Lib.hid hO
      have x0 := hO.c0; have x1 := hO.c1; have x2 := hO.c2; have x3 := hO.c3
      clear HO hO
      obtain ⟨b1, o1, rfl, hc1⟩ := H1.out.atD (k := 0) (by omega)
      obtain ⟨b2, o2, rfl, hc2⟩ := H2.out.atD (k := 0) (by omega)
      rw [HDN.out, Nat.add_zero] at hc1
      rw [HTN.out, Nat.add_zero] at hc2
      have hcc1 := keepCell HO2.out.b hc1; have hcc2 := keepCell HO2.out.b hc2
      clear hc1 hc2
      have hq := HI.out W1 HO2.out.b (0 : Int) (k : Int) 0 k rfl rfl (by omega) (by omega)
      rw [HRR.out] at hq
      have hq := retB HO2.out.b.size hq
      have HQ := Lib.hid hq; have HR := Lib.hid HO2.out.r; have HB := Lib.hid HO2.out.b
      clear hq HI
      go_wp2_with fail
      refine (Hid.out HQ).mono ?_
      rintro e w9 ⟨⟨v9, u9, rfl, hv9, hu9, hap9⟩, hb9⟩
      have hR9 := block_below (Hid.out HR) hb9
      have HV9 := Lib.hid hv9; have HU9 := Lib.hid hu9; have HAP9 := Lib.hid hap9; have HR9 := Lib.hid hR9
      have HB9 := Lib.hid (bNext hb9 (Hid.out HB))
      obtain ⟨a9, c9, rfl, -, -⟩ := RowI.slice hv9
      obtain ⟨a8, c8, rfl, -, -⟩ := RowI.slice hu9
      have g0 := cell_of_row w9 _ 0 _ _ _ hR9; have g1 := cell_of_row w9 _ 1 _ _ _ hR9
      have z0 := frozen_of_row w9 _ 0 _ _ hR9; have z1 := frozen_of_row w9 _ 1 _ _ hR9
      clear hv9 hu9 hap9 hb9 hR9
      go_wp2_with fail
      exact fin_arr rfl rfl rfl HR9.out HV9.out HU9.out HAP9.out HB9.out (by omega)
      done
    | false =>
      rw [if_neg (by decide)]
      have HS0 := Lib.hid hs.src; have HS1 := Lib.hid hd.src; have HS2 := Lib.hid ht.src; have HS3 := Lib.hid he.src
      obtain ⟨a0, c0, rfl, h01, h02, -, h04, -⟩ := hs
      obtain ⟨a1, c1, rfl, h11, h12, -, h14, hin⟩ := hd
      obtain ⟨a2, c2, rfl, h21, h22, -, h24, -⟩ := ht
      obtain ⟨a3, c3, rfl, h31, h32, -, h34, hie⟩ := he
      have h02' : c0 ≤ 9223372036854775807 := h02
      have h12' : c1 ≤ 9223372036854775807 := h12
      have h22' : c2 ≤ 9223372036854775807 := h22
      have h32' : c3 ≤ 9223372036854775807 := h32
      have HM : Hid (s.length ≤ maxLen) := Lib.hid (Nat.le_trans h01 h02)
      have HM2 : Hid (t.length ≤ maxLen) := Lib.hid (Nat.le_trans h21 h22)
      have H0 := Lib.hid h04; have H1 := Lib.hid h14; have HIN := Lib.hid hin
      have H2 := Lib.hid h24; have H3 := Lib.hid h34; have HIE := Lib.hid hie
      have HO := Lib.hid (Duo.mk0 w (.slice a0 s.length c0) (.slice a1 d.length c1) (.slice a2 t.length c2) (.slice a3 e.length c3))
      obtain ⟨r, HRR⟩ : ∃ r, Hid ((cutA t e (k : Int) m) = r) := ⟨_, Lib.hid rfl⟩
      rw [HRR.out]
      clear h04 h14 h24 h34 h02 h12 h22 h32 hin hie
      go_enter Try.func56, Try.ntmps56
      go_upto_region 1 with fail
      refine gen_worldA (fun W => Duo w W (.slice a0 s.length c0) (.slice a1 d.length c1) (.slice a2 t.length c2) (.slice a3 e.length c3)) HO.out ?_
      rintro W1 hO
      have HO2 := Lib.hid hO
      have x0 := hO.c0; have x1 := hO.c1; have x2 := hO.c2; have x3 := hO.c3
      clear HO hO
      obtain ⟨b1, o1, rfl, hc1⟩ := H1.out.atD (k := 0) (by omega)
      obtain ⟨b2, o2, rfl, hc2⟩ := H2.out.atD (k := 0) (by omega)
      rw [HDN.out, Nat.add_zero] at hc1
      rw [HTN.out, Nat.add_zero] at hc2
      have hcc1 := keepCell HO2.out.b hc1; have hcc2 := keepCell HO2.out.b hc2
      clear hc1 hc2
      have hq := HI.out W1 HO2.out.b (k : Int) (m : Int) k m rfl rfl (by omega) (by omega)
      rw [HRR.out] at hq
      have hq := retB HO2.out.b.size hq
      have HQ := Lib.hid hq; have HR := Lib.hid HO2.out.r; have HB := Lib.hid HO2.out.b
      clear hq HI
      go_wp2_with fail
      refine (Hid.out HQ).mono ?_
      rintro e w9 ⟨⟨v9, u9, rfl, hv9, hu9, hap9⟩, hb9⟩
      have hR9 := block_below (Hid.out HR) hb9
      have HV9 := Lib.hid hv9; have HU9 := Lib.hid hu9; have HAP9 := Lib.hid hap9; have HR9 := Lib.hid hR9
      have HB9 := Lib.hid (bNext hb9 (Hid.out HB))
      obtain ⟨a9, c9, rfl, -, -⟩ := RowI.slice hv9
      obtain ⟨a8, c8, rfl, -, -⟩ := RowI.slice hu9
      have g0 := cell_of_row w9 _ 0 _ _ _ hR9; have g1 := cell_of_row w9 _ 1 _ _ _ hR9
      have z0 := frozen_of_row w9 _ 0 _ _ hR9; have z1 := frozen_of_row w9 _ 1 _ _ hR9
      clear hv9 hu9 hap9 hb9 hR9
      go_wp2_with fail
      exact fin_arr rfl rfl rfl HR9.out HV9.out HU9.out HAP9.out HB9.out (by omega)
      done
end Go.Proofs.Ytmjkncmpanhgjaa
