import Derived.Test.YtmjkncmpanhgjaaPA17
import Derived.Test.YtmjkncmpanhgjaaPA13
import Derived.Deep.QuietTactic
namespace Go.Proofs.Ytmjkncmpanhgjaa
set_option maxRecDepth 100000
open Go.RowKit
set_option linter.unusedVariables false
set_option linter.unusedSimpArgs false

/-! prim.Fold: the lanes. -/
theorem PairAt.put {B P F G n c k : Nat} {w : World} {f wg : Int} {xs : List Int} {z : Value} (h : PairAt w P F f wg) (hr : RowI B w (.slice (some ⟨G, 0, none⟩) n c) xs) : PairAt (w.setCell ⟨G, k, none⟩ z) P F f wg := by
  obtain ⟨cur, hc⟩ := own_typed hr rfl
  exact ⟨KeepTy.setCell (p := ⟨G, k, none⟩) (NotTy.of hc (by decide)) _ _ _ h.p, KeepTy.setCell (p := ⟨G, k, none⟩) (NotTy.of hc (by decide)) _ _ _ h.f⟩
def outF (f : Int) (lx : List (List Int)) (n k : Nat) : List Int := (List.range k).map (fun i => laneV f (lx.getD i []) (lx.getD i []).length) ++ List.replicate (n - k) 0
theorem outF_len {f : Int} {lx : List (List Int)} {n k : Nat} (h : k ≤ n) : (outF f lx n k).length = n := rep_len _ h
theorem outF_step {f : Int} {lx : List (List Int)} {n k : Nat} (h : k < n) : (outF f lx n k).set k (laneV f (lx.getD k []) (lx.getD k []).length) = outF f lx n (k + 1) := rep_step (fun i => laneV f (lx.getD i []) (lx.getD i []).length) h
theorem outF_all (f : Int) {lx : List (List Int)} {n : Nat} (h : lx.length = n) : outF f lx n n = lx.map fun l => (laneL f l).1.getLastD 0 := by
  unfold outF
  rw [Nat.sub_self, List.replicate_zero, List.append_nil]
  apply List.ext_getElem
  · simp [h]
  · intro i h1 h2
    have hi : i < lx.length := by simpa [h] using h1
    simp only [List.getElem_map, List.getElem_range]
    rw [List.getD_eq_getElem?_getD, List.getElem?_eq_getElem hi]
    exact (laneV_all f _).1
theorem outF_zero (f : Int) (lx : List (List Int)) (n : Nat) : outF f lx n 0 = List.replicate n 0 := by simp [outF]
theorem tail_getD {l : List Int} {j : Nat} : (l.drop 1).getD j 0 = l.getD (j + 1) 0 := by
  rw [List.getD_eq_getElem?_getD, List.getD_eq_getElem?_getD, List.getElem?_drop, Nat.add_comm]
set_option maxHeartbeats 8000000 in
theorem pf_lanes (w : World) (f : Int) (v u : Value) (s d : List Int) (hs : SlA w v s) (hd : SlA w u d) (hr : right s d = true) (ht : takes f true = true) (hs0 : s.length ≠ 0) (n : Nat) (hn : n ≤ 65536) (hsz : size s.dropLast = ((n : Int), 0)) (hl0 : lastOf s ≠ 0)
    (lx : List (List Int)) (hl : LaneF s d lx) (hln : lx.length = n) :
    Calls Try.prog 19 #[.int .u8 f, .agg #[v, u]] w fun e w' => RetArr w.heap.size (foldL f s.dropLast lx) e w' ∧ Below w.heap.size w w' := by
  have HT := Lib.hid (fun W => takes_at W f true true ht)
  have HTK := Lib.hid ht
  have hs4 := (right_good hr).2.len
  have hs1 : ((s.length : Int) == 0) = false := by rw [beq_eq_false_iff_ne]; omega
  have hsp : 0 < s.length := by omega
  have HSZ := Lib.hid hsz
  have HLS := Lib.hid (last_getD hs0)
  have hla : (lastOf s == 0) = false := by rw [beq_eq_false_iff_ne]; exact hl0
  have HLX := Lib.hid hl; have HLN := Lib.hid hln
  have hdi : ∀ x ∈ d, In64 x := by obtain ⟨_, _, _, _, _, _, _, h⟩ := hd; exact h
  have HLI := Lib.hid (lanes_in hl.flat hdi)
  generalize lastOf s = la at hla HLS
  clear ht hs0 hsz hl0 hl hln hdi
  obtain ⟨a0, c0, rfl, h01, h02, -, h04, -⟩ := hs
  obtain ⟨a1, c1, rfl, h11, h12, -, h14, hin⟩ := hd
  have h02' : c0 ≤ 9223372036854775807 := h02
  have h12' : c1 ≤ 9223372036854775807 := h12
  have HM : Hid (s.length ≤ maxLen) := Lib.hid (Nat.le_trans h01 h02)
  have HRT := Lib.hid hr; have H0 := Lib.hid h04; have H1 := Lib.hid h14; have HIN := Lib.hid hin
  have HO := Lib.hid (One.mk0 w (.slice a0 s.length c0) (.slice a1 d.length c1))
  obtain ⟨r, HRR⟩ : ∃ r, Hid ((foldL f s.dropLast lx) = r) := ⟨_, Lib.hid rfl⟩
  rw [HRR.out]
  clear hr h04 h14 h02 h12 hin
  go_enter Try.func19, Try.ntmps19
  go_upto_region 1 with fail
  refine gen_worldA (fun W => One w W (.slice a0 s.length c0) (.slice a1 d.length c1)) HO.out ?_
  rintro W hO
  have hq := right_any W a0 a1 c0 c1 s d HM.out (H0.out.below hO.b (Nat.le_refl _))
  rw [HRT.out] at hq
  have HQ := Lib.hid hq; have HO1 := Lib.hid hO
  have x0 := hO.c0; have x1 := hO.c1
  clear hq hO
  go_wp2_with fail
  refine HQ.out.mono ?_
  rintro e W1 ⟨rfl, hb1⟩
  have HO2 := Lib.hid (HO1.out.next hb1)
  clear x0 x1
  have x0 := HO2.out.c0; have x1 := HO2.out.c1
  clear hb1 HQ HO1
  have HQ0 := Lib.hid (HT.out W1)
  go_wp2_with fail
  refine HQ0.out.mono ?_
  rintro e W2 ⟨rfl, rfl⟩
  clear HQ0 HT HO
  have hsl : ∀ W, (Instr.sliceAt 22 (.slice a0 s.length c0) none (some (.int .i64 ((s.length : Int) - 1))) none).run Try.prog W = .ok (.slice (subA a0 c0 0) (s.length - 1) c0) W := fun W => by
    have := slice_hi W a0 s.length c0 .i64 ((s.length : Int) - 1) (by omega) (by omega)
    rwa [show ((s.length : Int) - 1).toNat = s.length - 1 from by omega] at this
  have hcut : IntsAt .i64 W1 (subA a0 c0 0) s.dropLast := by
    have := (H0.out.below HO2.out.b (Nat.le_refl _)).cut (l := 0) (n := s.length - 1) (m := c0) h01
    rwa [dropLast_take] at this
  have hdl : s.dropLast.length = s.length - 1 := by simp
  have hq := clone_n W1 (subA a0 c0 0) (s.length - 1) c0 s.dropLast hdl.symm (by omega) hcut
  have HQ := Lib.hid hq; have HDL := Lib.hid hdl
  generalize subA a0 c0 0 = a7 at hsl HQ
  clear hq hcut hdl
  go_wp2_with fail
  refine HQ.out.mono ?_
  rintro e W3 ⟨⟨v7, rfl, hv7⟩, hb3⟩
  have HO3 := Lib.hid (HO2.out.next hb3)
  have hv7 := hv7.mono HO2.out.b.size
  obtain ⟨a7', c7, e7, -, hi7⟩ := hv7.slice
  rw [HDL.out] at e7
  subst e7
  have hq := size_any W3 a7' c7 s.dropLast (by rw [HDL.out]; unfold maxLen; omega) hi7
  rw [HDL.out, HSZ.out] at hq
  clear HQ
  have HQ := Lib.hid hq; have HV7 := Lib.hid hv7
  clear hq hv7 hb3 hi7 HO2 x0 x1 hsl
  go_wp2_with fail
  refine HQ.out.mono ?_
  rintro e W4 ⟨rfl, hb4⟩
  have HO4 := Lib.hid (HO3.out.next hb4); have HV8 := Lib.hid (HV7.out.below hb4)
  have x0 := HO4.out.c0; have x1 := HO4.out.c1
  clear HQ HV7 hb4 HO3
  unfold two
  have HQ1 := Lib.hid (of_any W4 f)
  go_wp2_with fail
  refine HQ1.out.mono ?_
  rintro e W5 ⟨rfl, hp5, hb5⟩
  have HO5 := Lib.hid (HO4.out.next hb5); have HV9 := Lib.hid (HV8.out.below hb5)
  have hP : w.heap.size + 1 < W4.heap.size + 1 := by have := HO4.out.lt; omega
  obtain ⟨P, hPe⟩ : ∃ P, W4.heap.size + 1 = P := ⟨_, rfl⟩
  obtain ⟨F, hFe⟩ : ∃ F, W4.heap.size = F := ⟨_, rfl⟩
  rw [hPe] at hp5 hP ⊢
  rw [hFe] at hp5
  have HPA := Lib.hid hp5
  have HVP : Hid (∀ g, (Value.slice a7' (s.length - 1) c7).ownBlock = some g → g < P) := Lib.hid fun g e => by have := (HV8.out.lt g e).2; omega
  have hsz5 := HO5.out.b.size
  clear HQ1 hp5 hb5 HO4 HV8 hPe hFe x0 x1
  obtain ⟨i0, hi, hz0, hz1, hz2⟩ := info_parts Try.info2
  have Hi := Lib.hid hi; have Hz0 := Lib.hid hz0; have Hz1 := Lib.hid hz1; have Hz2 := Lib.hid hz2; clear hi hz0 hz1 hz2
  have x0 := HO5.out.c0
  go_wp2_with (at_make; refine wpList_make_full _ rfl _ _ 22 rfl w.heap.size 2 i0 (.int .i64 0) 1 Try.underlying22 Hi.out Hz0.out Hz1.out _ _ _ _ n rfl rfl rfl rfl ?c2 ?c3 ?c4 ?_)
  case c2 => rw [Hz2.out]; omega
  case c3 => unfold maxLen; omega
  case c4 => exact hsz5
  intro W6 hown hgrow
  have hb6 : Below W5.heap.size W5 W6 := (Below.refl _ _).grown hgrow (Nat.le_refl _) (by simp)
  have HO6 := Lib.hid (HO5.out.next hb6)
  have HROW := Lib.hid (made_ints hown)
  have HPB := Lib.hid (HPA.out.below hb6); have HVA := Lib.hid (HV9.out.below hb6)
  have hPG : P < W5.heap.size := HPA.out.lt
  obtain ⟨G, hG⟩ : ∃ G, W5.heap.size = G := ⟨_, rfl⟩
  rw [hG] at HROW hPG ⊢
  have hGW : G < W6.heap.size := by have := (Array.getElem?_eq_some_iff.1 (own_typed HROW.out rfl).choose_spec).1; exact this
  clear hown hgrow HO5 hb6 HPA HV9 hG x0 hsz5
  have x0 := HO6.out.c0
  obtain ⟨b0, o0, rfl, hcl⟩ := H0.out.atD (k := s.length - 1) (by omega)
  rw [HLS.out] at hcl
  have hcl := keepCell HO6.out.b hcl
  have els : (s.length : Int) - 1 = ((s.length - 1 : Nat) : Int) := by omega
  obtain ⟨sl, hsl⟩ : ∃ sl, s.length - 1 = sl := ⟨_, rfl⟩
  rw [hsl] at hcl els HVA HVP ⊢
  have hsl0 : (sl : Int) < (s.length : Int) := by omega
  have HSLE := Lib.hid hsl
  clear hsl
  have x1 := HO6.out.c1
  have hq := lanes_any W6 (some ⟨b0, o0, none⟩) a1 c0 c1 s d HM.out h11 (H0.out.below HO6.out.b (Nat.le_refl _)) (H1.out.below HO6.out.b (Nat.le_refl _))
  rw [HLX.out.eq] at hq
  have HQ := Lib.hid hq
  clear hq
  go_wp2_with fail
  refine HQ.out.mono ?_
  rintro e W8 ⟨⟨v15, rfl, hv15⟩, hb8⟩
  obtain ⟨a15, c15, e15, hlm, hfo⟩ := hv15.form
  rw [HLN.out] at e15 hfo
  subst e15
  have HO8 := Lib.hid (HO6.out.next hb8); have HP8 := Lib.hid (HPB.out.below hb8); have HV8 := Lib.hid (HVA.out.below hb8); have HG8 := Lib.hid (HROW.out.below hb8); have HR8 := Lib.hid hv15; have HFO := Lib.hid hfo
  obtain ⟨B8, hB8⟩ : ∃ B, W6.heap.size = B := ⟨_, rfl⟩
  rw [hB8] at HR8 HFO hGW
  have hB8w : w.heap.size ≤ B8 := hB8 ▸ HO6.out.b.size
  clear HQ hv15 hb8 hlm hfo HO6 HPB HVA HROW hcl x0 x1 els hsl0 hB8
  have HSK : Hid (∀ g, (g = G ∨ g = P) → w.heap.size + 1 < g) := Lib.hid fun g e => by omega
  have HSB : Hid (∀ g, (g = G ∨ g = P) → g < B8) := Lib.hid fun g e => by omega
  go_wp2_with fail
  go_loopw [99] (fun i wr => ∃ k : Nat, k ≤ n ∧ i = .int .i64 k ∧ KB (fun g => g = G ∨ g = P) W8 wr ∧ PairAt wr P F f (wgB (badL f (lx.take k))) ∧ RowI w.heap.size wr (.slice (some ⟨G, 0, none⟩) n n) (outF f lx n k)) (fun i _ => n - (intOf i).toNat)
  case atStart => exact ⟨0, by omega, rfl, KB.refl _ _, by simpa [badL, wgB] using HP8.out, by rw [outF_zero]; exact HG8.out⟩
  case round =>
    obtain ⟨k, hk, rfl, hkb, hpa, hrw⟩ := hrel
    clear HP8 HG8
    by_cases hlt : k < n
    · have hkx : k < lx.length := by rw [HLN.out]; exact hlt
      obtain ⟨g15, rfl, hg15⟩ := HFO.out (by omega)
      obtain ⟨u18, hc18, hr18, -⟩ := (HR8.out.kb hkb HSB.out).get hkx
      have hlk0 := HLX.out.ne _ (List.getElem_mem hkx)
      have hlki := HLI.out _ (List.getElem_mem hkx)
      have hbs := badL_succ f hkx
      have hgd : lx.getD k [] = lx[k] := by rw [List.getD_eq_getElem?_getD, List.getElem?_eq_getElem hkx]; rfl
      have hfs := outF_step (f := f) (lx := lx) hlt
      rw [hgd] at hfs
      generalize lx[k] = lk at hr18 hlk0 hlki hbs hfs
      obtain ⟨g18, c18, e18, hg18, -⟩ := hr18.form hlk0
      obtain ⟨m, hm⟩ : ∃ m, lk.length = m := ⟨_, rfl⟩
      rw [hm] at e18 hlk0
      subst e18
      have hcap : m ≤ c18 := by
        rcases hr18.2 with ⟨h0, _⟩ | ⟨_, _, _, h0, _, _, h1, _⟩
        · cases h0
        · simp only [Value.slice.injEq] at h0; omega
      have hm63 : m ≤ 9223372036854775807 := by
        obtain ⟨_, _, _, h, _⟩ := hr18.slice
        rw [hm] at h; exact h
      have h0c := hr18.at (k := 0) (by rw [hm]; exact hlk0)
      have hf0 := hrw.fr k
      have hgc := hrw.at (k := k) (by rw [outF_len (by omega)]; exact hlt)
      have hset := hrw.set k (lk.getD 0 0)
      obtain ⟨hv1, hb1⟩ := laneV_one f (l := lk) (by rw [hm]; exact hlk0)
      rw [← hv1] at hset h0c
      have HLV := Lib.hid (laneV_in f hlki)
      have HST := Lib.hid (fun j h1 h2 => laneV_step f (l := lk) (j := j) h1 h2)
      have HLD := Lib.hid (fun j => getD_in64 hlki j)
      have HRT18 := Lib.hid hr18.ints
      have hr18k := fun wi (h : KB (fun g => g = G ∨ g = P) wr wi) => h.row hr18 (fun g e hs => by
        have h1 := (hr18.lt g e).1
        have h2 := HSB.out g hs
        omega)
      have HRK : Hid (∀ wi, KB (fun g => g = G ∨ g = P) wr wi → IntsAt .i64 wi (subA (some ⟨g18, 0, none⟩) c18 1) (lk.drop 1)) := Lib.hid fun wi h => by
        have h2 : RowI B8 wi (.slice (some ⟨g18, 0, none⟩) m c18) lk := hr18k wi h
        have := h2.ints.cut (l := 1) (n := lk.length) (m := c18) (by rw [hm]; exact hcap)
        rwa [List.take_of_length_le (by simp)] at this
      have hsl : ∀ W, (Instr.sliceAt 22 (.slice (some ⟨g18, 0, none⟩) m c18) (some (.int .i64 1)) none none).run Try.prog W = .ok (.slice (subA (some ⟨g18, 0, none⟩) c18 1) (m - 1) (c18 - 1)) W := fun W => slice_lo W (some ⟨g18, 0, none⟩) m c18 .i64 1 (by omega) (by omega)
      generalize subA (some ⟨g18, 0, none⟩) c18 1 = at1 at HRK hsl
      have HPA1 : Hid (PairAt (wr.setCell ⟨G, k, none⟩ (.int .i64 (laneV f lk 1))) P F f (wgB (badL f (lx.take k) || laneB f lk 1))) := Lib.hid (by rw [hb1, Bool.or_false]; exact hpa.put hrw)
      have HSET := Lib.hid hset; have HKB := Lib.hid hkb
      have HKB1 : Hid (KB (fun g => g = G ∨ g = P) wr (wr.setCell ⟨G, k, none⟩ (.int .i64 (laneV f lk 1)))) := Lib.hid ((KB.refl (fun g => g = G ∨ g = P) wr).setCell (p := ⟨G, k, none⟩) (fun _ => .inl rfl) _)
      have HBS := Lib.hid hbs; have HFS := Lib.hid hfs; have HM1 := Lib.hid hm
      have HOL := Lib.hid (outF_len (f := f) (lx := lx) hk)
      have hm0 : (0 : Int) < (m : Int) := by omega
      obtain ⟨y1, hy1⟩ : ∃ y, laneV f lk 1 = y := ⟨_, rfl⟩
      rw [hy1] at h0c
      have HY1 := Lib.hid hy1
      clear hkb hpa hrw hr18 hlki hbs hgd hfs hset hv1 hb1 hr18k hkx hm hy1
      go_wp2_with fail
      rw [← HY1.out]
      go_loopw [113] (fun i wi => ∃ j : Nat, j + 1 ≤ m ∧ i = .int .i64 j ∧ KB (fun g => g = G ∨ g = P) wr wi ∧ PairAt wi P F f (wgB (badL f (lx.take k) || laneB f lk (j + 1))) ∧
        RowI w.heap.size wi (.slice (some ⟨G, 0, none⟩) n n) ((outF f lx n k).set k (laneV f lk (j + 1)))) (fun i _ => m - (intOf i).toNat)
      case atStart => exact ⟨0, by omega, rfl, HKB1.out, HPA1.out, HSET.out⟩
      case round =>
        obtain ⟨j, hj, rfl, hki, hpa, hrw⟩ := hrel
        clear HKB1 HPA1 HSET h0c hf0 hgc
        have hkl : k < (outF f lx n k).length := by rw [HOL.out]; exact hlt
        by_cases hjm : j + 1 < m
        · obtain ⟨bt, ot, rfl, hct⟩ := (HRK.out _ hki).atD (k := j) (by have := HM1.out; simp; omega)
          rw [tail_getD] at hct
          obtain ⟨sv, sb⟩ := HST.out (j + 1) (by omega) (by rw [HM1.out]; omega)
          have hv64 := HLV.out (j + 1) (by omega) (by rw [HM1.out]; omega)
          have hx64 := HLD.out (j + 1)
          have hf0 := hrw.fr k
          have hgc := hrw.at (k := k) (by rw [List.length_set]; exact hkl)
          rw [getD_set, if_pos ⟨rfl, hkl⟩] at hgc
          have hjI : (j : Int) < ((m - 1 : Nat) : Int) := by omega
          generalize lk.getD (j + 1) 0 = x at hct sv sb hx64
          generalize laneV f lk (j + 1) = y at hgc sv sb hv64 hrw
          have hq := call_any _ P F f _ y x hpa HTK.out hv64 hx64
          rw [nextE_wg, Bool.or_assoc, ← sb] at hq
          have HQ := Lib.hid hq; have HSV := Lib.hid sv; have HPA := Lib.hid hpa; have HRW := Lib.hid hrw; have HKI := Lib.hid hki
          clear hq sv sb hpa hrw hki hv64 hx64
          go_wp2_with fail
          refine HQ.out.mono ?_
          rintro e w5 ⟨rfl, hp5, hk5⟩
          have hr5 := HRW.out.call HPA.out hk5
          have hf5 := hr5.fr k
          have hg5 := hr5.at (k := k) (by rw [List.length_set]; exact hkl)
          have hs5 := hr5.set k (callV f y x)
          rw [List.set_set, ← HSV.out] at hs5
          have HS5 := Lib.hid hs5; have HP5 := Lib.hid (hp5.put (k := k) (z := .int .i64 (callV f y x)) hr5)
          have HK5 := Lib.hid ((HKI.out.trans (hk5.mono (fun g _ e => .inr e))).setCell (p := ⟨G, k, none⟩) (fun _ => .inl rfl) (.int .i64 (callV f y x)))
          rw [HSV.out] at HS5
          clear hr5 hs5 hp5 hk5 HQ HPA HRW HKI hct hf0 hgc
          go_wp2_with fail
          go_roundw
          case rel => exact ⟨j + 1, by omega, by go_num, HK5.out, HP5.out, by rw [HSV.out]; exact HS5.out⟩
          case measure => simp [intOf] <;> omega
        · have hjI : ¬ (j : Int) < ((m - 1 : Nat) : Int) := by omega
          obtain ⟨la1, la2⟩ := laneV_all f lk
          rw [HM1.out] at la1 la2
          have hje : j + 1 = m := by omega
          rw [hje] at hpa hrw
          have hfs := HFS.out
          rw [HM1.out] at hfs
          rw [hfs] at hrw
          rw [la2, ← HBS.out] at hpa
          have HPA := Lib.hid hpa; have HRW := Lib.hid hrw; have HKI := Lib.hid (HKB.out.trans hki)
          clear la1 la2 hje hfs hpa hrw hki hkl
          go_wp2_with fail
          go_roundw
          case rel => exact ⟨k + 1, by omega, by go_num, HKI.out, HPA.out, HRW.out⟩
          case measure => simp [intOf] <;> omega
    · obtain rfl : k = n := by omega
      have hall : lx.take k = lx := List.take_of_length_le (by rw [HLN.out]; exact Nat.le_refl _)
      rw [hall] at hpa
      rw [outF_all f HLN.out] at hrw
      have hO := HO8.out.kb hkb HSK.out
      have hv : RowI w.heap.size _ (.slice a7' sl c7) s.dropLast := hkb.row HV8.out (fun g e hs => by
        have := HVP.out g e
        omega)
      have hap : Apart (.slice a7' sl c7) (.slice (some ⟨G, 0, none⟩) k k) := by
        cases hq : (Value.slice a7' sl c7).ownBlock with
        | none => exact .inl hq
        | some g => exact .inr (fun e => by
            have h1 := HVP.out g hq
            rw [hq] at e
            have h2 : g = G := by injection e
            omega)
      have hq := done_any _ w.heap.size P F f _ hpa s.dropLast _ _ _ hO.b.size hv hrw hap
      rw [show doneA (wgB (badL f lx)) s.dropLast (lx.map fun l => (laneL f l).1.getLastD 0) = r from HRR.out] at hq
      have HQ := Lib.hid hq; have HR := Lib.hid hO.r; have HB := Lib.hid hO.b
      clear hq hO hrw hlt hpa hv hap hall hkb
      go_wp2_with fail
      refine (Hid.out HQ).mono ?_
      rintro e w9 ⟨⟨v9, u9, rfl, hv9, hu9, hap9⟩, hb9⟩
      have hR9 := block_below (Hid.out HR) hb9
      have HV9 := Lib.hid hv9; have HU9 := Lib.hid hu9; have HAP9 := Lib.hid hap9; have HR9 := Lib.hid hR9
      have HB9 := Lib.hid (bNext hb9 (Hid.out HB))
      obtain ⟨a9, c9, rfl, -, -⟩ := RowI.slice hv9
      obtain ⟨a8, c8, rfl, -, -⟩ := RowI.slice hu9
      have g0 := cell_of_row w9 _ 0 _ _ _ hR9; have g1 := cell_of_row w9 _ 1 _ _ _ hR9
      have z0 := frozen_of_row w9 _ 0 _ _ hR9; have z1 := frozen_of_row w9 _ 1 _ _ hR9
      clear hv9 hu9 hap9 hb9 hR9
      go_wp2_with fail
      exact fin_arr rfl rfl rfl HR9.out HV9.out HU9.out HAP9.out HB9.out (by omega)
theorem pf_any (w : World) (f : Int) (v u : Value) (s d : List Int) (hs : SlA w v s) (hd : SlA w u d) :
    Calls Try.prog 19 #[.int .u8 f, .agg #[v, u]] w fun e w' => RetArr w.heap.size (foldA f s d) e w' ∧ Below w.heap.size w w' := by
  cases hr : right s d with
  | false => exact retB' (pf_bad w f v u s d hs hd hr) (by unfold foldA; rw [hr]; rfl)
  | true =>
    cases ht : takes f true with
    | false => exact retB' (pf_no w f v u s d hs hd hr ht) (by unfold foldA; rw [hr, ht]; rfl)
    | true =>
      by_cases hs0 : s.length = 0
      · exact retB' (pf_zero w f v u s d hs hd hr ht hs0) (by unfold foldA; rw [if_pos hr, if_pos ht, if_pos hs0])
      obtain ⟨lx, hl⟩ := lane_facts hr
      rw [foldA_eq hr ht hl hs0]
      by_cases her : (size s.dropLast).2 ≠ 0
      · rw [if_pos her]; exact pf_large w f v u s d hs hd hr ht hs0 her
      rw [if_neg her]
      have her : (size s.dropLast).2 = 0 := by omega
      obtain ⟨nz, hsz⟩ : ∃ nz, size s.dropLast = (nz, 0) := ⟨(size s.dropLast).1, by rw [← her]⟩
      obtain ⟨h0, h1, h2⟩ := fold_count hr hl hs0 hsz
      obtain ⟨n, rfl⟩ := Int.eq_ofNat_of_zero_le h0
      by_cases hl0 : lastOf s = 0
      · rw [if_pos hl0, hsz]; exact pf_unit w f v u s d hs hd hr ht hs0 n (by omega) hsz hl0
      · rw [if_neg hl0]; exact pf_lanes w f v u s d hs hd hr ht hs0 n (by omega) hsz hl0 lx hl (by have := h2 hl0; omega)
end Go.Proofs.Ytmjkncmpanhgjaa

namespace Go.Proofs.Ytmjkncmpanhgjaa
set_option maxRecDepth 100000
open Go.RowKit
set_option linter.unusedVariables false
set_option linter.unusedSimpArgs false

/-! prim.Scan. -/
set_option maxHeartbeats 4000000 in
theorem ps_bad (w : World) (f : Int) (v u : Value) (s d : List Int) (hs : SlA w v s) (hd : SlA w u d) (hr : right s d = false) :
    Calls Try.prog 21 #[.int .u8 f, .agg #[v, u]] w fun e w' => RetArr w.heap.size (noA 60) e w' ∧ Below w.heap.size w w' := by
  obtain ⟨a0, c0, rfl, h01, h02, -, h04, -⟩ := hs
  obtain ⟨a1, c1, rfl, h11, h12, -, h14, hin⟩ := hd
  have h02' : c0 ≤ 9223372036854775807 := h02
  have h12' : c1 ≤ 9223372036854775807 := h12
  have HM : Hid (s.length ≤ maxLen) := Lib.hid (Nat.le_trans h01 h02)
  have HRT := Lib.hid hr; have H0 := Lib.hid h04; have H1 := Lib.hid h14; have HIN := Lib.hid hin
  have HO := Lib.hid (One.mk0 w (.slice a0 s.length c0) (.slice a1 d.length c1))
  obtain ⟨r, HRR⟩ : ∃ r, Hid ((noA 60) = r) := ⟨_, Lib.hid rfl⟩
  rw [HRR.out]
  clear hr h04 h14 h02 h12 hin
  go_enter Try.func21, Try.ntmps21
  go_upto_region 1 with fail
  refine gen_worldA (fun W => One w W (.slice a0 s.length c0) (.slice a1 d.length c1)) HO.out ?_
  rintro W hO
  have hq := right_any W a0 a1 c0 c1 s d HM.out (H0.out.below hO.b (Nat.le_refl _))
  rw [HRT.out] at hq
  have HQ := Lib.hid hq; have HO1 := Lib.hid hO
  have x0 := hO.c0; have x1 := hO.c1
  clear hq hO
  go_wp2_with fail
  refine HQ.out.mono ?_
  rintro e W1 ⟨rfl, hb1⟩
  have HO2 := Lib.hid (HO1.out.next hb1)
  have hq := fault_at W1 w.heap.size HO2.out.b.size 60 r HRR.out
  clear HQ
  have HQ := Lib.hid hq; have HR := Lib.hid HO2.out.r; have HB := Lib.hid HO2.out.b
  clear hq HO hb1 HO1 x0 x1
  go_wp2_with fail
  refine (Hid.out HQ).mono ?_
  rintro e w9 ⟨⟨v9, u9, rfl, hv9, hu9, hap9⟩, hb9⟩
  have hR9 := block_below (Hid.out HR) hb9
  have HV9 := Lib.hid hv9; have HU9 := Lib.hid hu9; have HAP9 := Lib.hid hap9; have HR9 := Lib.hid hR9
  have HB9 := Lib.hid (bNext hb9 (Hid.out HB))
  obtain ⟨a9, c9, rfl, -, -⟩ := RowI.slice hv9
  obtain ⟨a8, c8, rfl, -, -⟩ := RowI.slice hu9
  have g0 := cell_of_row w9 _ 0 _ _ _ hR9; have g1 := cell_of_row w9 _ 1 _ _ _ hR9
  have z0 := frozen_of_row w9 _ 0 _ _ hR9; have z1 := frozen_of_row w9 _ 1 _ _ hR9
  clear hv9 hu9 hap9 hb9 hR9
  go_wp2_with fail
  exact fin_arr rfl rfl rfl HR9.out HV9.out HU9.out HAP9.out HB9.out (by omega)
set_option maxHeartbeats 4000000 in
theorem ps_no (w : World) (f : Int) (v u : Value) (s d : List Int) (hs : SlA w v s) (hd : SlA w u d) (hr : right s d = true) (ht : takes f true = false) :
    Calls Try.prog 21 #[.int .u8 f, .agg #[v, u]] w fun e w' => RetArr w.heap.size (noA 70) e w' ∧ Below w.heap.size w w' := by
  have HT := Lib.hid (fun W => takes_at W f true false ht)
  clear ht
  obtain ⟨a0, c0, rfl, h01, h02, -, h04, -⟩ := hs
  obtain ⟨a1, c1, rfl, h11, h12, -, h14, hin⟩ := hd
  have h02' : c0 ≤ 9223372036854775807 := h02
  have h12' : c1 ≤ 9223372036854775807 := h12
  have HM : Hid (s.length ≤ maxLen) := Lib.hid (Nat.le_trans h01 h02)
  have HRT := Lib.hid hr; have H0 := Lib.hid h04; have H1 := Lib.hid h14; have HIN := Lib.hid hin
  have HO := Lib.hid (One.mk0 w (.slice a0 s.length c0) (.slice a1 d.length c1))
  obtain ⟨r, HRR⟩ : ∃ r, Hid ((noA 70) = r) := ⟨_, Lib.hid rfl⟩
  rw [HRR.out]
  clear hr h04 h14 h02 h12 hin
  go_enter Try.func21, Try.ntmps21
  go_upto_region 1 with fail
  refine gen_worldA (fun W => One w W (.slice a0 s.length c0) (.slice a1 d.length c1)) HO.out ?_
  rintro W hO
  have hq := right_any W a0 a1 c0 c1 s d HM.out (H0.out.below hO.b (Nat.le_refl _))
  rw [HRT.out] at hq
  have HQ := Lib.hid hq; have HO1 := Lib.hid hO
  have x0 := hO.c0; have x1 := hO.c1
  clear hq hO
  go_wp2_with fail
  refine HQ.out.mono ?_
  rintro e W1 ⟨rfl, hb1⟩
  have HO2 := Lib.hid (HO1.out.next hb1)
  clear x0 x1
  have x0 := HO2.out.c0; have x1 := HO2.out.c1
  clear hb1 HQ HO1
  have HQ0 := Lib.hid (HT.out W1)
  go_wp2_with fail
  refine HQ0.out.mono ?_
  rintro e W2 ⟨rfl, rfl⟩
  clear HQ0 HT HO
  have hq := fault_at W1 w.heap.size HO2.out.b.size 70 r HRR.out
  have HQ := Lib.hid hq; have HR := Lib.hid HO2.out.r; have HB := Lib.hid HO2.out.b
  clear hq
  go_wp2_with fail
  refine (Hid.out HQ).mono ?_
  rintro e w9 ⟨⟨v9, u9, rfl, hv9, hu9, hap9⟩, hb9⟩
  have hR9 := block_below (Hid.out HR) hb9
  have HV9 := Lib.hid hv9; have HU9 := Lib.hid hu9; have HAP9 := Lib.hid hap9; have HR9 := Lib.hid hR9
  have HB9 := Lib.hid (bNext hb9 (Hid.out HB))
  obtain ⟨a9, c9, rfl, -, -⟩ := RowI.slice hv9
  obtain ⟨a8, c8, rfl, -, -⟩ := RowI.slice hu9
  have g0 := cell_of_row w9 _ 0 _ _ _ hR9; have g1 := cell_of_row w9 _ 1 _ _ _ hR9
  have z0 := frozen_of_row w9 _ 0 _ _ hR9; have z1 := frozen_of_row w9 _ 1 _ _ hR9
  clear hv9 hu9 hap9 hb9 hR9
  go_wp2_with fail
  exact fin_arr rfl rfl rfl HR9.out HV9.out HU9.out HAP9.out HB9.out (by omega)
/-- one of the rows, where blocks ahead of all rows may turn too -/
theorem RowR.get2 {B g n c : Nat} {w : World} {xss : List (List Int)} (h : RowR B w (.slice (some ⟨g, 0, none⟩) n c) xss) {q : Nat} (hq : q < xss.length) :
    ∃ u, w.cell? ⟨g, q, none⟩ = some u ∧ RowI B w u xss[q] ∧ ∀ w' ys (S : Nat → Prop), KB S w w' → (∀ k, S k → u.ownBlock = some k ∨ k < B) → RowI B w' u ys → RowR B w' (.slice (some ⟨g, 0, none⟩) n c) (xss.set q ys) := by
  obtain ⟨vs, hown, hin⟩ := h
  have hn : xss.length = n := by
    rcases hown.2 with ⟨h0, _⟩ | ⟨g', cap, cur, e, _⟩
    · simp at h0
    · simp only [Value.slice.injEq] at e; exact e.2.1.symm
  subst hn
  obtain ⟨u, hu, hr, hap⟩ := hin q hq
  refine ⟨u, ?_, hr, fun w' ys S hk hS hy => ?_⟩
  · rw [World.ownsRow.cellAt hown q (by simpa using hq)]; exact hu
  · refine ⟨vs, ?_, fun i hi => ?_⟩
    · rw [List.length_set]
      refine hk.row hown fun k e he => ?_
      have hkB : B ≤ k := by
        rcases hown.2 with ⟨h0, _⟩ | ⟨g', cap, cur, e2, hB, _⟩
        · rw [h0] at e; cases e
        · rw [e2] at e
          have e3 : g' = k := by injection e
          omega
      rcases hS k he with h1 | h1
      · rcases outer_ne hown hr with h0 | h0
        · rw [h0] at h1; cases h1
        · exact h0 (h1.trans e.symm)
      · omega
    · rw [List.length_set] at hi
      by_cases hiq : i = q
      · subst hiq
        exact ⟨u, hu, by rw [List.getElem_set_self]; exact hy, hap⟩
      · obtain ⟨ui, hui, hri, hapi⟩ := hin i hi
        refine ⟨ui, hui, ?_, hapi⟩
        rw [List.getElem_set_ne (fun e => hiq e.symm)]
        refine hk.row hri fun k e he => ?_
        have hkB : B ≤ k := (hri.lt k e).1
        rcases hS k he with h1 | h1
        · have hne : Apart ui u ∨ Apart u ui := by
            rcases Nat.lt_or_gt_of_ne hiq with h2 | h2
            · exact .inl (hapi q u h2 hu)
            · exact .inr (hap i ui h2 hui)
          have hne : Apart ui u := hne.elim id Apart.symm
          rcases hne with h0 | h0
          · rw [h0] at e; cases e
          · exact h0 (e.trans h1.symm)
        · omega
def scanR (f : Int) (l : List Int) : List Int := (laneL f l).1
theorem scan_take_set (f : Int) {lx : List (List Int)} {k : Nat} (h : k < lx.length) : ((lx.take k).map (scanR f) ++ lx.drop k).set k (scanR f lx[k]) = (lx.take (k + 1)).map (scanR f) ++ lx.drop (k + 1) := map_take_set (scanR f) h
/-- a lane, scanned up to j numbers -/
def laneS (f : Int) (l : List Int) (j : Nat) : List Int := (laneL f (l.take j)).1 ++ l.drop j
theorem laneS_len (f : Int) {l : List Int} {j : Nat} (h : j ≤ l.length) : (laneS f l j).length = l.length := by unfold laneS; rw [List.length_append, laneL_len]; simp; omega
theorem laneS_one (f : Int) {l : List Int} (h : 0 < l.length) : laneS f l 1 = l := by
  cases l with
  | nil => simp at h
  | cons x l => rfl
theorem laneS_all (f : Int) (l : List Int) : laneS f l l.length = scanR f l := by unfold laneS scanR; rw [List.take_length, List.drop_length, List.append_nil]
theorem laneS_prev (f : Int) {l : List Int} {j : Nat} (h1 : 1 ≤ j) (h2 : j ≤ l.length) : (laneS f l j).getD (j - 1) 0 = laneV f l j := by
  unfold laneS laneV
  have hl : (laneL f (l.take j)).1.length = j := by rw [laneL_len]; simp; omega
  rw [List.getD_eq_getElem?_getD, List.getElem?_append_left (by omega), List.getLastD_eq_getLast?, List.getLast?_eq_getElem?, hl]
theorem laneS_cur (f : Int) {l : List Int} {j : Nat} (h2 : j < l.length) : (laneS f l j).getD j 0 = l.getD j 0 := by
  unfold laneS
  have hl : (laneL f (l.take j)).1.length = j := by rw [laneL_len]; simp; omega
  rw [List.getD_eq_getElem?_getD, List.getElem?_append_right (by omega), hl, Nat.sub_self, List.getElem?_drop, List.getD_eq_getElem?_getD]
  rfl
theorem laneS_step (f : Int) {l : List Int} {j : Nat} (h1 : 1 ≤ j) (h2 : j < l.length) : (laneS f l j).set j (callV f (laneV f l j) (l.getD j 0)) = laneS f l (j + 1) := by
  have hl : (laneL f (l.take j)).1.length = j := by rw [laneL_len]; simp; omega
  unfold laneS
  rw [List.set_append_right _ _ (by omega), hl, Nat.sub_self, lane_take f h1 h2, List.drop_eq_getElem_cons h2, List.set_cons_zero]
  simp
theorem scanR_flat_len (f : Int) (lx : List (List Int)) : ((lx.map (scanR f)).flatten).length = lx.flatten.length := by
  induction lx with
  | nil => rfl
  | cons x l ih => simp only [List.map_cons, List.flatten_cons, List.length_append, ih]; unfold scanR; rw [laneL_len]
def scanL (f : Int) (s : List Int) (lx : List (List Int)) : ArrE := doneA (wgB (badL f lx)) s ((lx.map (scanR f)).flatten)
theorem scanA_eq {f : Int} {s d : List Int} {lx : List (List Int)} (hr : right s d = true) (ht : takes f true = true) (hl : LaneF s d lx) : scanA f s d = scanL f s lx := by
  unfold scanA scanL doneA wgB badL
  rw [if_pos hr, if_pos ht, hl.eq]
  dsimp only
  cases h : (lx.map (laneL f)).any (·.2) <;> rfl
set_option maxHeartbeats 8000000 in
theorem ps_lanes (w : World) (f : Int) (v u : Value) (s d : List Int) (hs : SlA w v s) (hd : SlA w u d) (hr : right s d = true) (ht : takes f true = true) (lx : List (List Int)) (hl : LaneF s d lx) :
    Calls Try.prog 21 #[.int .u8 f, .agg #[v, u]] w fun e w' => RetArr w.heap.size (scanL f s lx) e w' ∧ Below w.heap.size w w' := by
  have HT := Lib.hid (fun W => takes_at W f true true ht)
  have HTK := Lib.hid ht
  have hs4 := (right_good hr).2.len
  have hd6 := (right_good hr).2.le
  have HLX := Lib.hid hl
  have hnl := hl.len
  have hdi : ∀ x ∈ d, In64 x := by obtain ⟨_, _, _, _, _, _, _, h⟩ := hd; exact h
  have HLI := Lib.hid (lanes_in hl.flat hdi)
  clear ht hl hdi
  obtain ⟨a0, c0, rfl, h01, h02, -, h04, -⟩ := hs
  obtain ⟨a1, c1, rfl, h11, h12, -, h14, hin⟩ := hd
  have h02' : c0 ≤ 9223372036854775807 := h02
  have h12' : c1 ≤ 9223372036854775807 := h12
  have HM : Hid (s.length ≤ maxLen) := Lib.hid (Nat.le_trans h01 h02)
  have HRT := Lib.hid hr; have H0 := Lib.hid h04; have H1 := Lib.hid h14; have HIN := Lib.hid hin
  have HO := Lib.hid (One.mk0 w (.slice a0 s.length c0) (.slice a1 d.length c1))
  obtain ⟨r, HRR⟩ : ∃ r, Hid ((scanL f s lx) = r) := ⟨_, Lib.hid rfl⟩
  rw [HRR.out]
  clear hr h04 h14 h02 h12 hin
  go_enter Try.func21, Try.ntmps21
  go_upto_region 1 with fail
  refine gen_worldA (fun W => One w W (.slice a0 s.length c0) (.slice a1 d.length c1)) HO.out ?_
  rintro W hO
  have hq := right_any W a0 a1 c0 c1 s d HM.out (H0.out.below hO.b (Nat.le_refl _))
  rw [HRT.out] at hq
  have HQ := Lib.hid hq; have HO1 := Lib.hid hO
  have x0 := hO.c0; have x1 := hO.c1
  clear hq hO
  go_wp2_with fail
  refine HQ.out.mono ?_
  rintro e W1 ⟨rfl, hb1⟩
  have HO2 := Lib.hid (HO1.out.next hb1)
  clear x0 x1
  have x0 := HO2.out.c0; have x1 := HO2.out.c1
  clear hb1 HQ HO1
  have HQ0 := Lib.hid (HT.out W1)
  go_wp2_with fail
  refine HQ0.out.mono ?_
  rintro e W2 ⟨rfl, rfl⟩
  clear HQ0 HT HO
  have HQ1 := Lib.hid (of_any W1 f)
  clear x0 x1
  go_wp2_with fail
  refine HQ1.out.mono ?_
  rintro e W5 ⟨rfl, hp5, hb5⟩
  have HO5 := Lib.hid (HO2.out.next hb5)
  have hP : w.heap.size + 1 < W1.heap.size + 1 := by have := HO2.out.lt; omega
  have hPW : W1.heap.size + 1 < W5.heap.size := hp5.lt
  obtain ⟨P, hPe⟩ : ∃ P, W1.heap.size + 1 = P := ⟨_, rfl⟩
  obtain ⟨F, hFe⟩ : ∃ F, W1.heap.size = F := ⟨_, rfl⟩
  rw [hPe] at hp5 hP hPW ⊢
  rw [hFe] at hp5
  have HPA := Lib.hid hp5
  clear HQ1 hp5 hb5 HO2 hPe hFe
  have x0 := HO5.out.c0; have x1 := HO5.out.c1
  have hq := lanes_any W5 a0 a1 c0 c1 s d HM.out h11 (H0.out.below HO5.out.b (Nat.le_refl _)) (H1.out.below HO5.out.b (Nat.le_refl _))
  rw [HLX.out.eq] at hq
  have HQ := Lib.hid hq
  clear hq
  go_wp2_with fail
  refine HQ.out.mono ?_
  rintro e W8 ⟨⟨v15, rfl, hv15⟩, hb8⟩
  obtain ⟨a15, c15, e15, hlm, hfo⟩ := hv15.form
  obtain ⟨n, hln⟩ : ∃ n, lx.length = n := ⟨_, rfl⟩
  rw [hln] at e15 hfo hnl
  subst e15
  have HLN := Lib.hid hln
  have HO8 := Lib.hid (HO5.out.next hb8); have HP8 := Lib.hid (HPA.out.below hb8); have HR8 := Lib.hid hv15; have HFO := Lib.hid hfo
  have hPB : P < W5.heap.size := hPW
  obtain ⟨B8, hB8⟩ : ∃ B, W5.heap.size = B := ⟨_, rfl⟩
  rw [hB8] at HR8 HFO hPB
  have hB8w : w.heap.size + 1 < B8 := hB8 ▸ HO5.out.lt
  clear HQ hv15 hb8 hlm hfo HO5 HPA x0 x1 hB8 hPW hln
  go_wp2_with fail
  go_loopw [33] (fun i wr => ∃ k : Nat, k ≤ n ∧ i = .int .i64 k ∧ One w wr (.slice a0 s.length c0) (.slice a1 d.length c1) ∧ PairAt wr P F f (wgB (badL f (lx.take k))) ∧ RowR B8 wr (.slice a15 n c15) ((lx.take k).map (scanR f) ++ lx.drop k)) (fun i _ => n - (intOf i).toNat)
  case atStart => exact ⟨0, by omega, rfl, HO8.out, by simpa [badL, wgB] using HP8.out, by simpa using HR8.out⟩
  case round =>
    obtain ⟨k, hk, rfl, hO, hpa, hrw⟩ := hrel
    clear HP8 HR8 HO8
    by_cases hlt : k < n
    · have hkx : k < lx.length := by rw [HLN.out]; exact hlt
      obtain ⟨g15, rfl, hg15⟩ := HFO.out (by omega)
      have hkl : k < ((lx.take k).map (scanR f) ++ lx.drop k).length := by simp; omega
      obtain ⟨u10, hc10, hr10, hset⟩ := hrw.get2 hkl
      rw [map_take_get (scanR f) hkx] at hr10
      have hset2 : ∀ w' S, KB S wr w' → (∀ g, S g → u10.ownBlock = some g ∨ g < B8) → RowI B8 w' u10 (scanR f lx[k]) → RowR B8 w' (.slice (some ⟨g15, 0, none⟩) n c15) ((lx.take (k + 1)).map (scanR f) ++ lx.drop (k + 1)) := fun w' S h1 h2 h3 => by
        have := hset w' _ S h1 h2 h3
        rwa [scan_take_set f hkx] at this
      have hlk0 := HLX.out.ne _ (List.getElem_mem hkx)
      have hlki := HLI.out _ (List.getElem_mem hkx)
      have hbs := badL_succ f hkx
      generalize lx[k] = lk at hr10 hlk0 hlki hbs hset2
      obtain ⟨g10, c10, e10, hg10, hg10w⟩ := hr10.form hlk0
      obtain ⟨m, hm⟩ : ∃ m, lk.length = m := ⟨_, rfl⟩
      have hm63 : m ≤ 9223372036854775807 := by
        obtain ⟨_, _, _, h, _⟩ := hr10.slice
        rw [hm] at h; exact h
      rw [hm] at e10 hlk0
      subst e10
      have HLV := Lib.hid (laneV_in f hlki)
      have HST := Lib.hid (fun j h1 h2 => laneV_step f (l := lk) (j := j) h1 h2)
      have HLD := Lib.hid (fun j => getD_in64 hlki j)
      have hone := laneS_one f (l := lk) (by rw [hm]; exact hlk0)
      rw [← hone] at hr10
      have hb1 := (laneV_one f (l := lk) (by rw [hm]; exact hlk0)).2
      have HPA1 : Hid (PairAt wr P F f (wgB (badL f (lx.take k) || laneB f lk 1))) := Lib.hid (by rw [hb1, Bool.or_false]; exact hpa)
      have HR1 := Lib.hid hr10; have HSET := Lib.hid hset2; have HBS := Lib.hid hbs; have HM1 := Lib.hid hm; have HOR := Lib.hid hO
      clear hset hset2 hrw hO hpa hr10 hlki hbs hone hb1 hm hkl hkx
      go_wp2_with fail
      go_loopw [11] (fun i wi => ∃ j : Nat, 1 ≤ j ∧ j ≤ m ∧ i = .int .i64 j ∧ KB (fun g => g = g10 ∨ g = P) wr wi ∧ PairAt wi P F f (wgB (badL f (lx.take k) || laneB f lk j)) ∧ RowI B8 wi (.slice (some ⟨g10, 0, none⟩) m c10) (laneS f lk j)) (fun i _ => m - (intOf i).toNat)
      case atStart => exact ⟨1, Nat.le_refl _, hlk0, rfl, KB.refl _ _, HPA1.out, HR1.out⟩
      case round =>
        obtain ⟨j, hj1, hjm, rfl, hki, hpa, hrw⟩ := hrel
        clear HPA1 HR1 hc10
        by_cases hlt2 : j < m
        · obtain ⟨p, rfl⟩ : ∃ p, j = p + 1 := ⟨j - 1, by omega⟩
          have hsl : (laneS f lk (p + 1)).length = m := by rw [laneS_len f (by rw [HM1.out]; omega), HM1.out]
          have ca := hrw.at (k := p) (by rw [hsl]; omega)
          have cx := hrw.at (k := p + 1) (by rw [hsl]; omega)
          have hpv := laneS_prev f (l := lk) (j := p + 1) (by omega) (by rw [HM1.out]; omega)
          rw [Nat.add_sub_cancel] at hpv
          rw [hpv] at ca
          rw [laneS_cur f (by rw [HM1.out]; omega)] at cx
          obtain ⟨sv, sb⟩ := HST.out (p + 1) (by omega) (by rw [HM1.out]; omega)
          have hv64 := HLV.out (p + 1) (by omega) (by rw [HM1.out]; omega)
          have hx64 := HLD.out (p + 1)
          have hstp := laneS_step f (l := lk) (j := p + 1) (by omega) (by rw [HM1.out]; omega)
          have hf := hrw.fr (p + 1)
          obtain ⟨x, hxe⟩ : ∃ x, lk.getD (p + 1) 0 = x := ⟨_, rfl⟩
          obtain ⟨y, hye⟩ : ∃ y, laneV f lk (p + 1) = y := ⟨_, rfl⟩
          rw [hxe] at cx sv sb hx64 hstp
          rw [hye] at ca sv sb hv64 hstp
          have HXE := Lib.hid hxe; have HYE := Lib.hid hye
          clear hxe hye
          have hcl := fun W (hp : PairAt W P F f (wgB (badL f (lx.take k) || laneB f lk (p + 1)))) => call_any W P F f _ y x hp HTK.out hv64 hx64
          rw [nextE_wg, Bool.or_assoc, ← sb] at hcl
          have HC := Lib.hid hcl; have HSTP := Lib.hid hstp; have HPA := Lib.hid hpa; have HRW := Lib.hid hrw; have HKI := Lib.hid hki
          have hpm : ((p : Int) + 1) < (m : Int) := by omega
          have hpm2 : (p : Int) < (m : Int) := by omega
          have hgP : g10 ≠ P := by omega
          have hp0 : (0 : Int) ≤ (p : Int) := by omega
          have hp1 : (0 : Int) ≤ (p : Int) + 1 := by omega
          have hwp : IntKind.i64.wrap (p : Int) = (p : Int) := IntWalk.i64_in _ (by omega)
          clear hcl sv sb hpa hrw hki hv64 hx64 hstp hpv hsl
          go_upto_region 13 with fail
          refine wp_region_Z (S := fun W' => W'.cell? ⟨g10, p, none⟩ = some (.int .i64 y) ∧ W'.cell? ⟨g10, p + 1, none⟩ = some (.int .i64 x)) (z := 13) (by kernel_rfl) ?_
          have hSS : (fun W' : World => W'.cell? ⟨g10, p, none⟩ = some (.int .i64 y) ∧ W'.cell? ⟨g10, p + 1, none⟩ = some (.int .i64 x)) (World.drew _) := ⟨ca, cx⟩
          refine wpAnyZ_take (i := 0) (v := ?_) rfl (by kernel_rfl) (by kernel_rfl) (by kernel_rfl) (fun _ _ _ h => h) (by kernel_rfl) (Or.inl ⟨by rfl, ?_⟩) (by assumption) ?_
          rotate_left
          · intro w' hSw
            try dsimp only at hSw
            try obtain ⟨hSw, hSw2⟩ := hSw
            go_simp
            try with_reducible rfl
          show wpAnyZ _ _ _ _ _ _ _ _ (Act.put _ (some 43) _) _
          simp only [Act.put, List.setIfInBounds_toArray, List.set_cons_zero, List.set_cons_succ]
          refine wpAnyZ_take (i := 1) (v := ?_) rfl (by kernel_rfl) (by kernel_rfl) (by kernel_rfl) (fun _ _ _ h => h) (by kernel_rfl) (Or.inl ⟨by rfl, ?_⟩) (by assumption) ?_
          rotate_left
          · intro w' hSw
            try dsimp only at hSw
            try obtain ⟨hSw, hSw2⟩ := hSw
            go_simp
            try with_reducible rfl
          show wpAnyZ _ _ _ _ _ _ _ _ (Act.put _ (some 44) _) _
          simp only [Act.put, List.setIfInBounds_toArray, List.set_cons_zero, List.set_cons_succ]
          refine wpAnyZ_take (i := 2) (v := ?_) rfl (by kernel_rfl) (by kernel_rfl) (by kernel_rfl) (fun _ _ _ h => h) (by kernel_rfl) (Or.inl ⟨by rfl, ?_⟩) (by assumption) ?_
          rotate_left
          · intro w' hSw
            try dsimp only at hSw
            try obtain ⟨hSw, hSw2⟩ := hSw
            go_simp
            try with_reducible rfl
          show wpAnyZ _ _ _ _ _ _ _ _ (Act.put _ (some 45) _) _
          simp only [Act.put, List.setIfInBounds_toArray, List.set_cons_zero, List.set_cons_succ]
          refine wpAnyZ_take (i := 3) (v := ?_) rfl (by kernel_rfl) (by kernel_rfl) (by kernel_rfl) (fun _ _ _ h => h) (by kernel_rfl) (Or.inl ⟨by rfl, ?_⟩) (by assumption) ?_
          rotate_left
          · intro w' hSw
            try dsimp only at hSw
            try obtain ⟨hSw, hSw2⟩ := hSw
            go_simp
            try with_reducible rfl
          show wpAnyZ _ _ _ _ _ _ _ _ (Act.put _ (some 46) _) _
          simp only [Act.put, List.setIfInBounds_toArray, List.set_cons_zero, List.set_cons_succ]
          refine wpAnyZ_take (i := 4) (v := ?_) rfl (by kernel_rfl) (by kernel_rfl) (by kernel_rfl) (fun _ _ _ h => h) (by kernel_rfl) (Or.inl ⟨by rfl, ?_⟩) (by assumption) ?_
          rotate_left
          · intro w' hSw
            try dsimp only at hSw
            try obtain ⟨hSw, hSw2⟩ := hSw
            go_simp
            try with_reducible rfl
          show wpAnyZ _ _ _ _ _ _ _ _ (Act.put _ (some 47) _) _
          simp only [Act.put, List.setIfInBounds_toArray, List.set_cons_zero, List.set_cons_succ]
          refine wpAnyZ_take (i := 5) (v := ?_) rfl (by kernel_rfl) (by kernel_rfl) (by kernel_rfl) (fun _ _ _ h => h) (by kernel_rfl) (Or.inl ⟨by rfl, ?_⟩) (by assumption) ?_
          rotate_left
          · intro w' hSw
            try dsimp only at hSw
            try obtain ⟨hSw, hSw2⟩ := hSw
            go_simp
            try with_reducible rfl
          show wpAnyZ _ _ _ _ _ _ _ _ (Act.put _ (some 48) _) _
          simp only [Act.put, List.setIfInBounds_toArray, List.set_cons_zero, List.set_cons_succ]
          refine wpAnyZ_take (i := 6) (v := ?_) rfl (by kernel_rfl) (by kernel_rfl) (by kernel_rfl) (fun _ _ _ h => h) (by kernel_rfl) (Or.inl ⟨by rfl, ?_⟩) (by assumption) ?_
          rotate_left
          · intro w' hSw
            try dsimp only at hSw
            try obtain ⟨hSw, hSw2⟩ := hSw
            go_simp
            try with_reducible rfl
          show wpAnyZ _ _ _ _ _ _ _ _ (Act.put _ (some 49) _) _
          simp only [Act.put, List.setIfInBounds_toArray, List.set_cons_zero, List.set_cons_succ]
          refine wpAnyZ_take (i := 7) (v := ?_) rfl (by kernel_rfl) (by kernel_rfl) (by kernel_rfl) (fun _ _ _ h => h) (by kernel_rfl) (Or.inl ⟨by rfl, ?_⟩) (by assumption) ?_
          rotate_left
          · intro w' hSw
            try dsimp only at hSw
            try obtain ⟨hSw, hSw2⟩ := hSw
            go_simp
            try with_reducible rfl
          show wpAnyZ _ _ _ _ _ _ _ _ (Act.put _ (some 50) _) _
          simp only [Act.put, List.setIfInBounds_toArray, List.set_cons_zero, List.set_cons_succ]
          refine wpAnyZ_take (i := 8) (v := ?_) rfl (by kernel_rfl) (by kernel_rfl) (by kernel_rfl) (fun _ _ _ h => h) (by kernel_rfl) (Or.inl ⟨by rfl, ?_⟩) (by assumption) ?_
          rotate_left
          · intro w' hSw
            try dsimp only at hSw
            try obtain ⟨hSw, hSw2⟩ := hSw
            go_simp
            try with_reducible rfl
          show wpAnyZ _ _ _ _ _ _ _ _ (Act.put _ (some 51) _) _
          simp only [Act.put, List.setIfInBounds_toArray, List.set_cons_zero, List.set_cons_succ]
          refine wpAnyZ_take (i := 9) (v := ?_) rfl (by kernel_rfl) (by kernel_rfl) (by kernel_rfl) (fun _ _ _ h => h) (by kernel_rfl) (Or.inl ⟨by rfl, ?_⟩) (by assumption) ?_
          rotate_left
          · intro w' hSw
            try dsimp only at hSw
            try obtain ⟨hSw, hSw2⟩ := hSw
            go_simp
            try with_reducible rfl
          show wpAnyZ _ _ _ _ _ _ _ _ (Act.put _ (some 52) _) _
          simp only [Act.put, List.setIfInBounds_toArray, List.set_cons_zero, List.set_cons_succ]
          refine wpAnyZ_take (i := 10) (v := ?_) rfl (by kernel_rfl) (by kernel_rfl) (by kernel_rfl) (fun _ _ _ h => h) (by kernel_rfl) (Or.inl ⟨by rfl, ?_⟩) (by assumption) ?_
          rotate_left
          · intro w' hSw
            try dsimp only at hSw
            try obtain ⟨hSw, hSw2⟩ := hSw
            go_simp
            try with_reducible rfl
          show wpAnyZ _ _ _ _ _ _ _ _ (Act.put _ (some 53) _) _
          simp only [Act.put, List.setIfInBounds_toArray, List.set_cons_zero, List.set_cons_succ]
          refine wpAnyZ_take (i := 11) (v := ?_) rfl (by kernel_rfl) (by kernel_rfl) (by kernel_rfl) (fun _ _ _ h => h) (by kernel_rfl) (Or.inl ⟨by rfl, ?_⟩) (by assumption) ?_
          rotate_left
          · intro w' hSw
            try dsimp only at hSw
            try obtain ⟨hSw, hSw2⟩ := hSw
            go_simp
            try with_reducible rfl
          show wpAnyZ _ _ _ _ _ _ _ _ (Act.put _ (some 54) _) _
          simp only [Act.put, List.setIfInBounds_toArray, List.set_cons_zero, List.set_cons_succ]
          clear hSS ca cx hf
          refine wpAnyZ_one (i := 12) (by kernel_rfl) rfl rfl (fun K hK => ?_)
          go_simp
          refine (HC.out _ (HPA.out.below (Below.refl _ _).drew)).mono ?_
          rintro e w5 ⟨rfl, hp5, hk5⟩
          have hpd := HPA.out.below (Below.refl _ _).drew
          have hr5 := (HRW.out.below (Below.refl _ _).drew).call hpd hk5
          have hsl5 : (laneS f lk (p + 1)).length = m := by rw [laneS_len f (by rw [HM1.out]; omega), HM1.out]
          have hf5 := hr5.fr (p + 1)
          have hc5 := hr5.at (k := p + 1) (by rw [hsl5]; omega)
          have hs5 := hr5.set (p + 1) (callV f y x)
          rw [HSTP.out] at hs5
          have HS5 := Lib.hid hs5; have HP5 := Lib.hid (hp5.put (k := p + 1) (z := .int .i64 (callV f y x)) hr5)
          have HK5 := Lib.hid (((HKI.out.drew).trans (hk5.mono (fun g _ e => .inr e))).setCell (p := ⟨g10, p + 1, none⟩) (fun _ => .inl rfl) (.int .i64 (callV f y x)))
          have HF5 := Lib.hid hf5; have HC5 := Lib.hid hc5
          have HCA := Lib.hid (show w5.cell? ⟨g10, p, none⟩ = some (.int .i64 y) ∧ w5.cell? ⟨g10, p + 1, none⟩ = some (.int .i64 x) from by
            have h1 := hr5.at (k := p) (by rw [hsl5]; omega)
            have hpv := laneS_prev f (l := lk) (j := p + 1) (by omega) (by rw [HM1.out]; omega)
            rw [Nat.add_sub_cancel] at hpv
            rw [hpv] at h1
            have h2 := hc5
            rw [laneS_cur f (by rw [HM1.out]; omega)] at h2
            rw [← HYE.out, ← HXE.out]
            exact ⟨h1, h2⟩)
          show K _ w5
          refine hK.out _ _ (.inr HCA.out) ?_
          clear hK hp5 hk5 hpd hr5 hsl5 hf5 hc5 hs5 HC HPA HRW HKI HSTP HCA
          refine wpAnyZ_one (i := 13) (by kernel_rfl) rfl rfl (fun K hK => ?_)
          go_simp
          refine hK.out _ _ (.inl (Nat.le_refl _)) ?_
          clear hK
          refine wpAnyZ_one (i := 14) (by kernel_rfl) rfl rfl (fun K hK => ?_)
          have hf5 := HF5.out; have hc5 := HC5.out
          go_simp
          refine hK.out _ _ (.inl (by omega)) ?_
          clear hK hf5 hc5 HF5 HC5
          refine wpAnyZ_done (by kernel_rfl) ?_ _
          go_wp2_with fail
          go_roundw
          case rel => exact ⟨p + 2, by omega, by omega, by go_num, HK5.out, HP5.out, HS5.out⟩
          case measure => simp [intOf] <;> omega
        · obtain rfl : j = m := by omega
          have hla := (laneV_all f lk).2
          have hall := laneS_all f lk
          rw [HM1.out] at hla hall
          rw [hall] at hrw
          rw [hla, ← HBS.out] at hpa
          have HPA := Lib.hid hpa
          have HRW := Lib.hid (HSET.out _ _ hki (fun g hg => by
            rcases hg with rfl | rfl
            · exact .inl rfl
            · exact .inr hPB) hrw)
          have HO9 := Lib.hid (HOR.out.kb hki (fun g hg => by omega))
          clear hla hall hpa hrw hki
          go_wp2_with fail
          go_roundw
          case rel => exact ⟨k + 1, by omega, by go_num, HO9.out, HPA.out, HRW.out⟩
          case measure => simp [intOf] <;> omega
    · obtain rfl : k = n := by omega
      have hall : lx.take k = lx := List.take_of_length_le (by rw [HLN.out]; exact Nat.le_refl _)
      have hfin : (lx.take k).map (scanR f) ++ lx.drop k = lx.map (scanR f) := by rw [hall, List.drop_eq_nil_of_le (by rw [HLN.out]; exact Nat.le_refl _), List.append_nil]
      rw [hfin] at hrw
      rw [hall] at hpa
      have hfl : ((lx.map (scanR f)).flatten).length = d.length := by rw [scanR_flat_len, HLX.out.flat]
      have hcl := clone_any _ a0 c0 s (by omega) (H0.out.below hO.b (Nat.le_refl _))
      have HC := Lib.hid hcl; have HOR := Lib.hid hO; have HPA := Lib.hid hpa; have HRW := Lib.hid hrw; have HFL := Lib.hid hfl
      have x0 := hO.c0
      clear hcl hO hpa hrw hfl hfin hall hlt
      go_wp2_with fail
      refine HC.out.mono ?_
      rintro e w5 ⟨⟨v5, rfl, hv5⟩, hb5⟩
      have HO5 := Lib.hid (HOR.out.next hb5); have HP5 := Lib.hid (HPA.out.below hb5); have HR5 := Lib.hid (HRW.out.below hb5)
      have HV5 := Lib.hid (hv5.mono (B' := w.heap.size) HOR.out.b.size)
      obtain ⟨a5, c5, rfl, -, -⟩ := hv5.slice
      have hq := concat_any w5 a15 c15 k d.length (lx.map (scanR f)) (by rw [List.length_map, HLN.out]) (by omega) HFL.out (by omega) HR5.out.rows
      clear HC
      have HC := Lib.hid hq
      clear hq hv5 hb5 HOR HPA HRW x0
      go_wp2_with fail
      refine HC.out.mono ?_
      rintro e w6 ⟨v6, rfl, hv6, hb6⟩
      have HO6 := Lib.hid (HO5.out.next hb6)
      have hap := Apart.of_rows HV5.out hv6
      have hq := done_any w6 w.heap.size P F f _ (HP5.out.below hb6) s _ _ v6 HO6.out.b.size (HV5.out.below hb6) (hv6.mono HO5.out.b.size) hap
      rw [show doneA (wgB (badL f lx)) s ((lx.map (scanR f)).flatten) = r from HRR.out] at hq
      have HQ := Lib.hid hq; have HR := Lib.hid HO6.out.r; have HB := Lib.hid HO6.out.b
      obtain ⟨a6, c6, e6, -, -⟩ := hv6.slice
      rw [HFL.out] at e6
      subst e6
      clear hq hv6 hb6 hap HC HO5 HP5 HR5 HV5
      go_wp2_with fail
      refine (Hid.out HQ).mono ?_
      rintro e w9 ⟨⟨v9, u9, rfl, hv9, hu9, hap9⟩, hb9⟩
      have hR9 := block_below (Hid.out HR) hb9
      have HV9 := Lib.hid hv9; have HU9 := Lib.hid hu9; have HAP9 := Lib.hid hap9; have HR9 := Lib.hid hR9
      have HB9 := Lib.hid (bNext hb9 (Hid.out HB))
      obtain ⟨a9, c9, rfl, -, -⟩ := RowI.slice hv9
      obtain ⟨a8, c8, rfl, -, -⟩ := RowI.slice hu9
      have g0 := cell_of_row w9 _ 0 _ _ _ hR9; have g1 := cell_of_row w9 _ 1 _ _ _ hR9
      have z0 := frozen_of_row w9 _ 0 _ _ hR9; have z1 := frozen_of_row w9 _ 1 _ _ hR9
      clear hv9 hu9 hap9 hb9 hR9
      go_wp2_with fail
      exact fin_arr rfl rfl rfl HR9.out HV9.out HU9.out HAP9.out HB9.out (by omega)
theorem ps_any (w : World) (f : Int) (v u : Value) (s d : List Int) (hs : SlA w v s) (hd : SlA w u d) :
    Calls Try.prog 21 #[.int .u8 f, .agg #[v, u]] w fun e w' => RetArr w.heap.size (scanA f s d) e w' ∧ Below w.heap.size w w' := by
  cases hr : right s d with
  | false => exact retB' (ps_bad w f v u s d hs hd hr) (by unfold scanA; rw [hr]; rfl)
  | true =>
    cases ht : takes f true with
    | false => exact retB' (ps_no w f v u s d hs hd hr ht) (by unfold scanA; rw [hr, ht]; rfl)
    | true =>
      obtain ⟨lx, hl⟩ := lane_facts hr
      rw [scanA_eq hr ht hl]
      exact ps_lanes w f v u s d hs hd hr ht lx hl
end Go.Proofs.Ytmjkncmpanhgjaa

namespace Go.Proofs.Ytmjkncmpanhgjaa
set_option maxRecDepth 100000
open Go.RowKit
set_option linter.unusedVariables false
set_option linter.unusedSimpArgs false

/-! prim.Outer. -/
theorem Apart.ofB {B : Nat} {w : World} {v u : Value} {xs : List Int} (h1 : ∀ g, v.ownBlock = some g → g < B) (h2 : RowI B w u xs) : Apart v u := by
  unfold Apart
  cases hq : v.ownBlock with
  | none => exact .inl rfl
  | some g =>
    refine .inr (fun e => ?_)
    have h3 := h1 g hq
    have h4 := (h2.lt g e.symm).1
    omega
def prodP (d e : List Int) : List (Int × Int) := d.flatMap fun x => e.map fun y => (x, y)
theorem prodP_len (d e : List Int) : (prodP d e).length = d.length * e.length := by
  unfold prodP
  induction d with
  | nil => simp
  | cons x d ih => simp only [List.flatMap_cons, List.length_append, List.length_map, List.length_cons, ih, Nat.succ_mul]; omega
theorem prodP_succ {d e : List Int} {k : Nat} (h : k < d.length) : prodP (d.take (k + 1)) e = prodP (d.take k) e ++ e.map (fun y => (d.getD k 0, y)) := by
  unfold prodP
  rw [List.take_succ_eq_append_getElem h, List.flatMap_append, List.getD_eq_getElem?_getD, List.getElem?_eq_getElem h]
  simp
theorem map_take_succ' {e : List Int} {j : Nat} (x : Int) (h : j < e.length) : (e.take (j + 1)).map (fun y => (x, y)) = (e.take j).map (fun y => (x, y)) ++ [(x, e.getD j 0)] := by
  rw [List.take_succ_eq_append_getElem h, List.map_append, List.getD_eq_getElem?_getD, List.getElem?_eq_getElem h]
  simp
theorem outer_eq (f : Int) (s t d e : List Int) : doneA (wrongP f (prodP d e)) (s ++ t) (outP f (prodP d e)) = if d.any (fun x => e.any fun y => refusesB f x y) then noA 11 else okA (s ++ t) (d.flatMap fun x => e.map (dyv f x)) := by
  have hb : (prodP d e).any (fun p => refusesB f p.1 p.2) = d.any (fun x => e.any fun y => refusesB f x y) := by
    unfold prodP
    induction d with
    | nil => rfl
    | cons x d ih => rw [List.flatMap_cons, List.any_append, ih, List.any_map, List.any_cons]; rfl
  unfold doneA wrongP
  rw [hb]
  cases h : d.any (fun x => e.any fun y => refusesB f x y) with
  | true => rfl
  | false =>
    simp only [Bool.false_eq_true, if_false, if_true]
    congr 1
    unfold outP prodP
    rw [List.map_flatMap]
    rw [List.any_eq_false] at h
    have : ∀ x ∈ d, (e.map fun y => (x, y)).map (fun p : Int × Int => callV f p.1 p.2) = e.map (dyv f x) := fun x hx => by
      rw [List.map_map]
      refine List.map_congr_left fun y hy => ?_
      have h1 : (e.any fun y => refusesB f x y) = false := by simpa using h x hx
      rw [List.any_eq_false] at h1
      have h2 : refusesB f x y = false := by simpa using h1 y hy
      show callV f x y = dyv f x y
      unfold callV
      rw [h2]; rfl
    clear h hb
    induction d with
    | nil => rfl
    | cons x d ih => rw [List.flatMap_cons, List.flatMap_cons, this x (by simp), ih (fun y hy => this y (by simp [hy]))]
def outerL (f : Int) (s d t e : List Int) : ArrE := if 4 < (s ++ t).length then noA 71 else if (size (s ++ t)).2 ≠ 0 then noA 74 else doneA (wrongP f (prodP d e)) (s ++ t) (outP f (prodP d e))
theorem outerA_eq {f : Int} {s d t e : List Int} (h1 : right s d = true) (h2 : right t e = true) (ht : takes f true = true) : outerA f s d t e = outerL f s d t e := by
  unfold outerA outerL
  rw [h1, h2, outer_eq, if_pos ht]; rfl
set_option maxHeartbeats 4000000 in
theorem po_bad1 (w : World) (f : Int) (v u v2 u2 : Value) (s d t e : List Int) (hs : SlA w v s) (hd : SlA w u d) (ht : SlA w v2 t) (he : SlA w u2 e) (hr1 : right s d = false) :
    Calls Try.prog 23 #[.int .u8 f, .agg #[v, u], .agg #[v2, u2]] w fun e' w' => RetArr w.heap.size (noA 60) e' w' ∧ Below w.heap.size w w' := by
  have HR1 := Lib.hid hr1
  clear hr1
  have HS0 := Lib.hid hs.src; have HS1 := Lib.hid hd.src; have HS2 := Lib.hid ht.src; have HS3 := Lib.hid he.src
  obtain ⟨a0, c0, rfl, h01, h02, -, h04, -⟩ := hs
  obtain ⟨a1, c1, rfl, h11, h12, -, h14, hin⟩ := hd
  obtain ⟨a2, c2, rfl, h21, h22, -, h24, -⟩ := ht
  obtain ⟨a3, c3, rfl, h31, h32, -, h34, hie⟩ := he
  have h02' : c0 ≤ 9223372036854775807 := h02
  have h12' : c1 ≤ 9223372036854775807 := h12
  have h22' : c2 ≤ 9223372036854775807 := h22
  have h32' : c3 ≤ 9223372036854775807 := h32
  have HM : Hid (s.length ≤ maxLen) := Lib.hid (Nat.le_trans h01 h02)
  have HM2 : Hid (t.length ≤ maxLen) := Lib.hid (Nat.le_trans h21 h22)
  have H0 := Lib.hid h04; have H1 := Lib.hid h14; have HIN := Lib.hid hin
  have H2 := Lib.hid h24; have H3 := Lib.hid h34; have HIE := Lib.hid hie
  have HO := Lib.hid (Duo.mk0 w (.slice a0 s.length c0) (.slice a1 d.length c1) (.slice a2 t.length c2) (.slice a3 e.length c3))
  obtain ⟨r, HRR⟩ : ∃ r, Hid ((noA 60) = r) := ⟨_, Lib.hid rfl⟩
  rw [HRR.out]
  clear h04 h14 h24 h34 h02 h12 h22 h32 hin hie
  go_enter Try.func23, Try.ntmps23
  go_upto_region 1 with fail
  refine gen_worldA (fun W => Duo w W (.slice a0 s.length c0) (.slice a1 d.length c1) (.slice a2 t.length c2) (.slice a3 e.length c3)) HO.out ?_
  rintro W1 hO
  have HO2 := Lib.hid hO
  have x0 := hO.c0; have x1 := hO.c1; have x2 := hO.c2; have x3 := hO.c3
  clear HO hO
  have hq := right_any W1 a0 a1 c0 c1 s d HM.out (H0.out.below HO2.out.b (Nat.le_refl _))
  rw [HR1.out] at hq
  have HQ := Lib.hid hq
  clear hq
  go_wp2_with fail
  refine HQ.out.mono ?_
  rintro e' W2 ⟨rfl, hb2⟩
  have HO3 := Lib.hid (HO2.out.next hb2)
  have hq := fault_at W2 w.heap.size HO3.out.b.size 60 r HRR.out
  clear HQ x0 x1 x2 x3
  have HQ := Lib.hid hq; have HR := Lib.hid HO3.out.r; have HB := Lib.hid HO3.out.b
  clear hq hb2 HO2
  go_wp2_with fail
  refine (Hid.out HQ).mono ?_
  rintro e w9 ⟨⟨v9, u9, rfl, hv9, hu9, hap9⟩, hb9⟩
  have hR9 := block_below (Hid.out HR) hb9
  have HV9 := Lib.hid hv9; have HU9 := Lib.hid hu9; have HAP9 := Lib.hid hap9; have HR9 := Lib.hid hR9
  have HB9 := Lib.hid (bNext hb9 (Hid.out HB))
  obtain ⟨a9, c9, rfl, -, -⟩ := RowI.slice hv9
  obtain ⟨a8, c8, rfl, -, -⟩ := RowI.slice hu9
  have g0 := cell_of_row w9 _ 0 _ _ _ hR9; have g1 := cell_of_row w9 _ 1 _ _ _ hR9
  have z0 := frozen_of_row w9 _ 0 _ _ hR9; have z1 := frozen_of_row w9 _ 1 _ _ hR9
  clear hv9 hu9 hap9 hb9 hR9
  go_wp2_with fail
  exact fin_arr rfl rfl rfl HR9.out HV9.out HU9.out HAP9.out HB9.out (by omega)
set_option maxHeartbeats 4000000 in
theorem po_bad2 (w : World) (f : Int) (v u v2 u2 : Value) (s d t e : List Int) (hs : SlA w v s) (hd : SlA w u d) (ht : SlA w v2 t) (he : SlA w u2 e) (hr1 : right s d = true) (hr2 : right t e = false) :
    Calls Try.prog 23 #[.int .u8 f, .agg #[v, u], .agg #[v2, u2]] w fun e' w' => RetArr w.heap.size (noA 60) e' w' ∧ Below w.heap.size w w' := by
  have HR1 := Lib.hid hr1; have HR2 := Lib.hid hr2
  clear hr1 hr2
  have HS0 := Lib.hid hs.src; have HS1 := Lib.hid hd.src; have HS2 := Lib.hid ht.src; have HS3 := Lib.hid he.src
  obtain ⟨a0, c0, rfl, h01, h02, -, h04, -⟩ := hs
  obtain ⟨a1, c1, rfl, h11, h12, -, h14, hin⟩ := hd
  obtain ⟨a2, c2, rfl, h21, h22, -, h24, -⟩ := ht
  obtain ⟨a3, c3, rfl, h31, h32, -, h34, hie⟩ := he
  have h02' : c0 ≤ 9223372036854775807 := h02
  have h12' : c1 ≤ 9223372036854775807 := h12
  have h22' : c2 ≤ 9223372036854775807 := h22
  have h32' : c3 ≤ 9223372036854775807 := h32
  have HM : Hid (s.length ≤ maxLen) := Lib.hid (Nat.le_trans h01 h02)
  have HM2 : Hid (t.length ≤ maxLen) := Lib.hid (Nat.le_trans h21 h22)
  have H0 := Lib.hid h04; have H1 := Lib.hid h14; have HIN := Lib.hid hin
  have H2 := Lib.hid h24; have H3 := Lib.hid h34; have HIE := Lib.hid hie
  have HO := Lib.hid (Duo.mk0 w (.slice a0 s.length c0) (.slice a1 d.length c1) (.slice a2 t.length c2) (.slice a3 e.length c3))
  obtain ⟨r, HRR⟩ : ∃ r, Hid ((noA 60) = r) := ⟨_, Lib.hid rfl⟩
  rw [HRR.out]
  clear h04 h14 h24 h34 h02 h12 h22 h32 hin hie
  go_enter Try.func23, Try.ntmps23
  go_upto_region 1 with fail
  refine gen_worldA (fun W => Duo w W (.slice a0 s.length c0) (.slice a1 d.length c1) (.slice a2 t.length c2) (.slice a3 e.length c3)) HO.out ?_
  rintro W1 hO
  have HO2 := Lib.hid hO
  have x0 := hO.c0; have x1 := hO.c1; have x2 := hO.c2; have x3 := hO.c3
  clear HO hO
  have hq := right_any W1 a0 a1 c0 c1 s d HM.out (H0.out.below HO2.out.b (Nat.le_refl _))
  rw [HR1.out] at hq
  have HQ := Lib.hid hq
  clear hq
  go_wp2_with fail
  refine HQ.out.mono ?_
  rintro e' W2 ⟨rfl, hb2⟩
  have HO3 := Lib.hid (HO2.out.next hb2)
  have hq := right_any W2 a2 a3 c2 c3 t e HM2.out (H2.out.below HO3.out.b (Nat.le_refl _))
  rw [HR2.out] at hq
  clear HQ x0 x1 x2 x3
  have HQ := Lib.hid hq
  have x2 := HO3.out.c2; have x3 := HO3.out.c3
  clear hq hb2 HO2
  go_wp2_with fail
  refine HQ.out.mono ?_
  rintro e' W3 ⟨rfl, hb3⟩
  have HO4 := Lib.hid (HO3.out.next hb3)
  clear HQ x2 x3 hb3 HO3
  have hq := fault_at W3 w.heap.size HO4.out.b.size 60 r HRR.out
  have HQ := Lib.hid hq; have HR := Lib.hid HO4.out.r; have HB := Lib.hid HO4.out.b
  clear hq
  go_wp2_with fail
  refine (Hid.out HQ).mono ?_
  rintro e w9 ⟨⟨v9, u9, rfl, hv9, hu9, hap9⟩, hb9⟩
  have hR9 := block_below (Hid.out HR) hb9
  have HV9 := Lib.hid hv9; have HU9 := Lib.hid hu9; have HAP9 := Lib.hid hap9; have HR9 := Lib.hid hR9
  have HB9 := Lib.hid (bNext hb9 (Hid.out HB))
  obtain ⟨a9, c9, rfl, -, -⟩ := RowI.slice hv9
  obtain ⟨a8, c8, rfl, -, -⟩ := RowI.slice hu9
  have g0 := cell_of_row w9 _ 0 _ _ _ hR9; have g1 := cell_of_row w9 _ 1 _ _ _ hR9
  have z0 := frozen_of_row w9 _ 0 _ _ hR9; have z1 := frozen_of_row w9 _ 1 _ _ hR9
  clear hv9 hu9 hap9 hb9 hR9
  go_wp2_with fail
  exact fin_arr rfl rfl rfl HR9.out HV9.out HU9.out HAP9.out HB9.out (by omega)
set_option maxHeartbeats 4000000 in
theorem po_no (w : World) (f : Int) (v u v2 u2 : Value) (s d t e : List Int) (hs : SlA w v s) (hd : SlA w u d) (ht : SlA w v2 t) (he : SlA w u2 e) (hr1 : right s d = true) (hr2 : right t e = true) (htk : takes f true = false) :
    Calls Try.prog 23 #[.int .u8 f, .agg #[v, u], .agg #[v2, u2]] w fun e' w' => RetArr w.heap.size (noA 70) e' w' ∧ Below w.heap.size w w' := by
  have HR1 := Lib.hid hr1; have HR2 := Lib.hid hr2
  have HT := Lib.hid (fun W => takes_at W f true false htk)
  clear hr1 hr2 htk
  have HS0 := Lib.hid hs.src; have HS1 := Lib.hid hd.src; have HS2 := Lib.hid ht.src; have HS3 := Lib.hid he.src
  obtain ⟨a0, c0, rfl, h01, h02, -, h04, -⟩ := hs
  obtain ⟨a1, c1, rfl, h11, h12, -, h14, hin⟩ := hd
  obtain ⟨a2, c2, rfl, h21, h22, -, h24, -⟩ := ht
  obtain ⟨a3, c3, rfl, h31, h32, -, h34, hie⟩ := he
  have h02' : c0 ≤ 9223372036854775807 := h02
  have h12' : c1 ≤ 9223372036854775807 := h12
  have h22' : c2 ≤ 9223372036854775807 := h22
  have h32' : c3 ≤ 9223372036854775807 := h32
  have HM : Hid (s.length ≤ maxLen) := Lib.hid (Nat.le_trans h01 h02)
  have HM2 : Hid (t.length ≤ maxLen) := Lib.hid (Nat.le_trans h21 h22)
  have H0 := Lib.hid h04; have H1 := Lib.hid h14; have HIN := Lib.hid hin
  have H2 := Lib.hid h24; have H3 := Lib.hid h34; have HIE := Lib.hid hie
  have HO := Lib.hid (Duo.mk0 w (.slice a0 s.length c0) (.slice a1 d.length c1) (.slice a2 t.length c2) (.slice a3 e.length c3))
  obtain ⟨r, HRR⟩ : ∃ r, Hid ((noA 70) = r) := ⟨_, Lib.hid rfl⟩
  rw [HRR.out]
  clear h04 h14 h24 h34 h02 h12 h22 h32 hin hie
  go_enter Try.func23, Try.ntmps23
  go_upto_region 1 with fail
  refine gen_worldA (fun W => Duo w W (.slice a0 s.length c0) (.slice a1 d.length c1) (.slice a2 t.length c2) (.slice a3 e.length c3)) HO.out ?_
  rintro W1 hO
  have HO2 := Lib.hid hO
  have x0 := hO.c0; have x1 := hO.c1; have x2 := hO.c2; have x3 := hO.c3
  clear HO hO
  have hq := right_any W1 a0 a1 c0 c1 s d HM.out (H0.out.below HO2.out.b (Nat.le_refl _))
  rw [HR1.out] at hq
  have HQ := Lib.hid hq
  clear hq
  go_wp2_with fail
  refine HQ.out.mono ?_
  rintro e' W2 ⟨rfl, hb2⟩
  have HO3 := Lib.hid (HO2.out.next hb2)
  have hq := right_any W2 a2 a3 c2 c3 t e HM2.out (H2.out.below HO3.out.b (Nat.le_refl _))
  rw [HR2.out] at hq
  clear HQ x0 x1 x2 x3
  have HQ := Lib.hid hq
  have x2 := HO3.out.c2; have x3 := HO3.out.c3
  clear hq hb2 HO2
  go_wp2_with fail
  refine HQ.out.mono ?_
  rintro e' W3 ⟨rfl, hb3⟩
  have HO4 := Lib.hid (HO3.out.next hb3)
  clear HQ x2 x3 hb3 HO3
  have HQ0 := Lib.hid (HT.out W3)
  go_wp2_with fail
  refine HQ0.out.mono ?_
  rintro e' W4 ⟨rfl, rfl⟩
  have hq := fault_at W3 w.heap.size HO4.out.b.size 70 r HRR.out
  have HQ := Lib.hid hq; have HR := Lib.hid HO4.out.r; have HB := Lib.hid HO4.out.b
  clear hq HQ0 HT
  go_wp2_with fail
  refine (Hid.out HQ).mono ?_
  rintro e w9 ⟨⟨v9, u9, rfl, hv9, hu9, hap9⟩, hb9⟩
  have hR9 := block_below (Hid.out HR) hb9
  have HV9 := Lib.hid hv9; have HU9 := Lib.hid hu9; have HAP9 := Lib.hid hap9; have HR9 := Lib.hid hR9
  have HB9 := Lib.hid (bNext hb9 (Hid.out HB))
  obtain ⟨a9, c9, rfl, -, -⟩ := RowI.slice hv9
  obtain ⟨a8, c8, rfl, -, -⟩ := RowI.slice hu9
  have g0 := cell_of_row w9 _ 0 _ _ _ hR9; have g1 := cell_of_row w9 _ 1 _ _ _ hR9
  have z0 := frozen_of_row w9 _ 0 _ _ hR9; have z1 := frozen_of_row w9 _ 1 _ _ hR9
  clear hv9 hu9 hap9 hb9 hR9
  go_wp2_with fail
  exact fin_arr rfl rfl rfl HR9.out HV9.out HU9.out HAP9.out HB9.out (by omega)
set_option maxHeartbeats 8000000 in
theorem po_yes (w : World) (f : Int) (v u v2 u2 : Value) (s d t e : List Int) (hs : SlA w v s) (hd : SlA w u d) (ht : SlA w v2 t) (he : SlA w u2 e) (hr1 : right s d = true) (hr2 : right t e = true) (htk : takes f true = true) :
    Calls Try.prog 23 #[.int .u8 f, .agg #[v, u], .agg #[v2, u2]] w fun e' w' => RetArr w.heap.size (outerL f s d t e) e' w' ∧ Below w.heap.size w w' := by
  have hs4 := (right_good hr1).2.len
  have ht4 := (right_good hr2).2.len
  have HPR : Hid (size (s ++ t) = (((d.length * e.length : Nat) : Int), 0) ∧ d.length * e.length ≤ 65536 ∨ (size (s ++ t)).2 ≠ 0) := Lib.hid (by
    rcases size_err (s ++ t) with h | ⟨m, h⟩
    · exact .inr (by rw [h]; decide)
    · left
      have g := size_good h
      have g1 := (right_good hr1).2.prod
      have g2 := (right_good hr2).2.prod
      have hm : m = ((d.length * e.length : Nat) : Int) := by rw [g.prod, prodL_append, ← g1, ← g2]; simp
      exact ⟨by rw [h, hm], by have := g.le; omega⟩)
  have HR1 := Lib.hid hr1; have HR2 := Lib.hid hr2; have HTK := Lib.hid htk
  have HT := Lib.hid (fun W => takes_at W f true true htk)
  clear hr1 hr2 htk
  have HS0 := Lib.hid hs.src; have HS1 := Lib.hid hd.src; have HS2 := Lib.hid ht.src; have HS3 := Lib.hid he.src
  obtain ⟨a0, c0, rfl, h01, h02, -, h04, -⟩ := hs
  obtain ⟨a1, c1, rfl, h11, h12, -, h14, hin⟩ := hd
  obtain ⟨a2, c2, rfl, h21, h22, -, h24, -⟩ := ht
  obtain ⟨a3, c3, rfl, h31, h32, -, h34, hie⟩ := he
  have h02' : c0 ≤ 9223372036854775807 := h02
  have h12' : c1 ≤ 9223372036854775807 := h12
  have h22' : c2 ≤ 9223372036854775807 := h22
  have h32' : c3 ≤ 9223372036854775807 := h32
  have HM : Hid (s.length ≤ maxLen) := Lib.hid (Nat.le_trans h01 h02)
  have HM2 : Hid (t.length ≤ maxLen) := Lib.hid (Nat.le_trans h21 h22)
  have H0 := Lib.hid h04; have H1 := Lib.hid h14; have HIN := Lib.hid hin
  have H2 := Lib.hid h24; have H3 := Lib.hid h34; have HIE := Lib.hid hie
  have HO := Lib.hid (Duo.mk0 w (.slice a0 s.length c0) (.slice a1 d.length c1) (.slice a2 t.length c2) (.slice a3 e.length c3))
  obtain ⟨r, HRR⟩ : ∃ r, Hid ((outerL f s d t e) = r) := ⟨_, Lib.hid rfl⟩
  rw [HRR.out]
  clear h04 h14 h24 h34 h02 h12 h22 h32 hin hie
  unfold outerL at HRR
  go_enter Try.func23, Try.ntmps23
  go_upto_region 1 with fail
  refine gen_worldA (fun W => Duo w W (.slice a0 s.length c0) (.slice a1 d.length c1) (.slice a2 t.length c2) (.slice a3 e.length c3)) HO.out ?_
  rintro W1 hO
  have HO2 := Lib.hid hO
  have x0 := hO.c0; have x1 := hO.c1; have x2 := hO.c2; have x3 := hO.c3
  clear HO hO
  have hq := right_any W1 a0 a1 c0 c1 s d HM.out (H0.out.below HO2.out.b (Nat.le_refl _))
  rw [HR1.out] at hq
  have HQ := Lib.hid hq
  clear hq
  go_wp2_with fail
  refine HQ.out.mono ?_
  rintro e' W2 ⟨rfl, hb2⟩
  have HO3 := Lib.hid (HO2.out.next hb2)
  have hq := right_any W2 a2 a3 c2 c3 t e HM2.out (H2.out.below HO3.out.b (Nat.le_refl _))
  rw [HR2.out] at hq
  clear HQ x0 x1 x2 x3
  have HQ := Lib.hid hq
  have x2 := HO3.out.c2; have x3 := HO3.out.c3
  clear hq hb2 HO2
  go_wp2_with fail
  refine HQ.out.mono ?_
  rintro e' W3 ⟨rfl, hb3⟩
  have HO4 := Lib.hid (HO3.out.next hb3)
  clear HQ x2 x3 hb3 HO3
  have HQ0 := Lib.hid (HT.out W3)
  go_wp2_with fail
  refine HQ0.out.mono ?_
  rintro e' W4 ⟨rfl, rfl⟩
  have x0 := HO4.out.c0; have x2 := HO4.out.c2
  have hba : Below W3.heap.size W3 (W3.alloc (.cells #[.slice a0 s.length c0, .slice a2 t.length c2] 22)) := (Below.refl _ _).alloc (Nat.le_refl _) _
  have hg8 : (W3.alloc (.cells #[.slice a0 s.length c0, .slice a2 t.length c2] 22)).heap[W3.heap.size]? = some (.cells #[.slice a0 s.length c0, .slice a2 t.length c2] 22 (0, 0)) := World.alloc_heap_new _ _
  have hrows : RowsAt (W3.alloc (.cells #[.slice a0 s.length c0, .slice a2 t.length c2] 22)) (some ⟨W3.heap.size, 0, none⟩) [s, t] := rows_two hg8 (HS0.out.below (HO4.out.next hba).b) (HS2.out.below (HO4.out.next hba).b)
  have hq := concat_any _ (some ⟨W3.heap.size, 0, none⟩) 2 2 (s.length + t.length) [s, t] rfl (by omega) (by simp) (by omega) hrows
  have hfl : [s, t].flatten = s ++ t := by simp
  rw [hfl] at hq
  have HQ := Lib.hid hq; have HO5 := Lib.hid (HO4.out.next hba)
  clear hq hrows hg8 hba hfl HO4 HQ0 HT
  go_wp2_with fail
  refine HQ.out.mono ?_
  rintro e' W6 ⟨v8, rfl, hv8, hb6⟩
  have HO6 := Lib.hid (HO5.out.next hb6); have HV8 := Lib.hid (hv8.mono HO5.out.b.size)
  obtain ⟨a8, c8, e8, -, hi8⟩ := hv8.slice
  have hsa := size_any W6 a8 c8 (s ++ t) (by rw [List.length_append]; unfold maxLen; omega) hi8
  rw [List.length_append] at e8 hsa HRR
  subst e8
  have HSA := Lib.hid hsa
  clear hv8 hb6 HQ HO5 hi8 hsa x0 x2
  by_cases h4 : 4 < s.length + t.length
  · rw [if_pos h4] at HRR
    have h4I : (4 : Int) < (s.length : Int) + (t.length : Int) := by omega
    have hq := fault_at W6 w.heap.size HO6.out.b.size 71 r HRR.out
    have HQ := Lib.hid hq; have HR := Lib.hid HO6.out.r; have HB := Lib.hid HO6.out.b
    clear hq
    go_wp2_with fail
    refine (Hid.out HQ).mono ?_
    rintro e w9 ⟨⟨v9, u9, rfl, hv9, hu9, hap9⟩, hb9⟩
    have hR9 := block_below (Hid.out HR) hb9
    have HV9 := Lib.hid hv9; have HU9 := Lib.hid hu9; have HAP9 := Lib.hid hap9; have HR9 := Lib.hid hR9
    have HB9 := Lib.hid (bNext hb9 (Hid.out HB))
    obtain ⟨a9, c9, rfl, -, -⟩ := RowI.slice hv9
    obtain ⟨a8, c8, rfl, -, -⟩ := RowI.slice hu9
    have g0 := cell_of_row w9 _ 0 _ _ _ hR9; have g1 := cell_of_row w9 _ 1 _ _ _ hR9
    have z0 := frozen_of_row w9 _ 0 _ _ hR9; have z1 := frozen_of_row w9 _ 1 _ _ hR9
    clear hv9 hu9 hap9 hb9 hR9
    go_wp2_with fail
    exact fin_arr rfl rfl rfl HR9.out HV9.out HU9.out HAP9.out HB9.out (by omega)
  rw [if_neg h4] at HRR
  have h4I : ¬ (4 : Int) < (s.length : Int) + (t.length : Int) := by omega
  obtain ⟨nz, er, hsz⟩ : ∃ nz er, size (s ++ t) = (nz, er) := ⟨_, _, rfl⟩
  rw [hsz] at HSA HRR HPR
  clear hsz
  go_wp2_with fail
  refine HSA.out.mono ?_
  rintro e' W7 ⟨rfl, hb7⟩
  have HO7 := Lib.hid (HO6.out.next hb7); have HV9 := Lib.hid (HV8.out.below hb7)
  clear HSA HO6 HV8 hb7
  unfold two
  by_cases her : er = 0
  case neg =>
    have her' : (er != 0) = true := by simpa using her
    rw [if_pos her] at HRR
    have hq := fault_at W7 w.heap.size HO7.out.b.size 74 r HRR.out
    have HQ := Lib.hid hq; have HR := Lib.hid HO7.out.r; have HB := Lib.hid HO7.out.b
    clear hq her
    go_wp2_with fail
    refine (Hid.out HQ).mono ?_
    rintro e w9 ⟨⟨v9, u9, rfl, hv9, hu9, hap9⟩, hb9⟩
    have hR9 := block_below (Hid.out HR) hb9
    have HV9 := Lib.hid hv9; have HU9 := Lib.hid hu9; have HAP9 := Lib.hid hap9; have HR9 := Lib.hid hR9
    have HB9 := Lib.hid (bNext hb9 (Hid.out HB))
    obtain ⟨a9, c9, rfl, -, -⟩ := RowI.slice hv9
    obtain ⟨a8, c8, rfl, -, -⟩ := RowI.slice hu9
    have g0 := cell_of_row w9 _ 0 _ _ _ hR9; have g1 := cell_of_row w9 _ 1 _ _ _ hR9
    have z0 := frozen_of_row w9 _ 0 _ _ hR9; have z1 := frozen_of_row w9 _ 1 _ _ hR9
    clear hv9 hu9 hap9 hb9 hR9
    go_wp2_with fail
    exact fin_arr rfl rfl rfl HR9.out HV9.out HU9.out HAP9.out HB9.out (by omega)
  subst her
  rw [if_neg (by decide)] at HRR
  have HLE : Hid (d.length * e.length ≤ 65536) := Lib.hid (HPR.out.elim (fun h => h.2) (fun h => absurd rfl h))
  clear HPR
  have HQ1 := Lib.hid (of_any W7 f)
  go_wp2_with fail
  refine HQ1.out.mono ?_
  rintro e' W8 ⟨rfl, hp8, hb8⟩
  have HO8 := Lib.hid (HO7.out.next hb8); have HVA := Lib.hid (HV9.out.below hb8)
  have hP : w.heap.size ≤ W7.heap.size + 1 := by have := HO7.out.b.size; omega
  obtain ⟨P, hPe⟩ : ∃ P, W7.heap.size + 1 = P := ⟨_, rfl⟩
  obtain ⟨F, hFe⟩ : ∃ F, W7.heap.size = F := ⟨_, rfl⟩
  have HVB : Hid (∀ g, (Value.slice a8 (s.length + t.length) c8).ownBlock = some g → g < W8.heap.size) := Lib.hid fun g e => (HVA.out.lt g e).2
  rw [hPe] at hp8 hP ⊢
  rw [hFe] at hp8
  have HPA := Lib.hid hp8; have hPw := Lib.hid hP
  obtain ⟨B8, hB8⟩ : ∃ B, W8.heap.size = B := ⟨_, rfl⟩
  rw [hB8] at HVB
  have hB8w : w.heap.size ≤ B8 := hB8 ▸ HO8.out.b.size
  have HB8 := Lib.hid hB8
  clear HQ1 hp8 hb8 HO7 HV9 hPe hFe hP hB8
  have x1 := HO8.out.c1
  go_wp2_with fail
  clear x1
  go_loopw [12, 61] (fun o i wr => ∃ k : Nat, k ≤ d.length ∧ i = .int .i64 k ∧ B8 ≤ wr.heap.size ∧ Duo w wr (.slice a0 s.length c0) (.slice a1 d.length c1) (.slice a2 t.length c2) (.slice a3 e.length c3) ∧
    PairAt wr P F f (wrongP f (prodP (d.take k) e)) ∧ RowI w.heap.size wr (.slice a8 (s.length + t.length) c8) (s ++ t) ∧ RowI B8 wr o (outP f (prodP (d.take k) e))) (fun _ i _ => d.length - (intOf i).toNat)
  case atStart => exact ⟨0, by omega, rfl, by have := HB8.out; omega, HO8.out, HPA.out, HVA.out, RowI.nil _ _⟩
  case round =>
    obtain ⟨k, hk, rfl, hbw, hO, hpa, hv, hrw⟩ := hrel
    clear HO8 HPA HVA HB8
    by_cases hlt : k < d.length
    · have hps := prodP_succ (e := e) hlt
      obtain ⟨b1, o1, rfl, hc1⟩ := H1.out.atD hlt
      have hc1 := keepCell hO.b hc1
      have hx := In64.getD HIN.out hlt
      have hkd : (k : Int) < (d.length : Int) := by omega
      generalize d.getD k 0 = x at hps hc1 hx
      have x3 := hO.c3
      have HX := Lib.hid hx; have HPS := Lib.hid hps; have HOR := Lib.hid hO; have HPA := Lib.hid hpa; have HRW := Lib.hid hrw; have HV := Lib.hid hv
      have hql : (prodP (d.take k) e).length + e.length ≤ 65536 := by
        rw [prodP_len, List.length_take, Nat.min_eq_left hk]
        have : (k + 1) * e.length ≤ d.length * e.length := Nat.mul_le_mul_right _ hlt
        rw [Nat.succ_mul] at this
        have := HLE.out
        omega
      have HQL := Lib.hid hql
      clear hx hps hO hpa hrw hv hql
      generalize prodP (d.take k) e = Q at HPS HPA HRW HQL ⊢
      go_wp2_with fail
      clear hc1 x3
      go_loopw [12, 68] (fun o i wi => ∃ j : Nat, j ≤ e.length ∧ i = .int .i64 j ∧ B8 ≤ wi.heap.size ∧ Duo w wi (.slice a0 s.length c0) (.slice (some ⟨b1, o1, none⟩) d.length c1) (.slice a2 t.length c2) (.slice a3 e.length c3) ∧
        PairAt wi P F f (wrongP f (Q ++ (e.take j).map fun y => (x, y))) ∧ RowI w.heap.size wi (.slice a8 (s.length + t.length) c8) (s ++ t) ∧ RowI B8 wi o (outP f (Q ++ (e.take j).map fun y => (x, y)))) (fun _ i _ => e.length - (intOf i).toNat)
      case atStart => exact ⟨0, by omega, rfl, hbw, HOR.out, by simpa using HPA.out, HV.out, by simpa using HRW.out⟩
      case round =>
        obtain ⟨j, hj, rfl, hbi, hO, hpa, hv, hrw⟩ := hrel
        clear HOR HPA HV HRW
        by_cases hlt2 : j < e.length
        · have hms := map_take_succ' x hlt2
          obtain ⟨b3, o3, rfl, hc3⟩ := H3.out.atD hlt2
          have hc3 := keepCell hO.b hc3
          have hy := In64.getD HIE.out hlt2
          have hje : (j : Int) < (e.length : Int) := by omega
          generalize e.getD j 0 = y at hms hc3 hy
          have hol : (outP f (Q ++ (e.take j).map fun y => (x, y))).length ≤ 65536 := by
            have := HQL.out
            rw [outP_len, List.length_append, List.length_map, List.length_take]; omega
          have hO1 : outP f (Q ++ (e.take (j + 1)).map fun y => (x, y)) = outP f (Q ++ (e.take j).map fun y => (x, y)) ++ [callV f x y] := by rw [hms, ← List.append_assoc, outP_snoc]
          have hW1 : wrongP f (Q ++ (e.take (j + 1)).map fun y => (x, y)) = nextE f x y (wrongP f (Q ++ (e.take j).map fun y => (x, y))) := by rw [hms, ← List.append_assoc, wrongP_snoc]
          have HOL := Lib.hid hol; have HO1 := Lib.hid hO1; have HW1 := Lib.hid hW1
          have hcl := call_any _ P F f _ x y hpa HTK.out HX.out hy
          have HC := Lib.hid hcl; have HOR := Lib.hid hO; have HPA := Lib.hid hpa; have HRW := Lib.hid hrw; have HV := Lib.hid hv
          clear hol hO1 hW1 hcl hO hpa hrw hv hy hms
          generalize outP f (Q ++ (e.take j).map fun y => (x, y)) = ou at HOL HO1 HRW ⊢
          generalize wrongP f (Q ++ (e.take j).map fun y => (x, y)) = wg at HW1 HPA HC
          go_wp2_with fail
          refine HC.out.mono ?_
          rintro e' w5 ⟨rfl, hp5, hk5⟩
          have HO5 := Lib.hid (HOR.out.call HPA.out hPw.out hk5)
          have HV5 := Lib.hid (HRW.out.call HPA.out hk5); have HS5 := Lib.hid (HV.out.call HPA.out hk5)
          have HP5 := Lib.hid hp5
          have hba : Below w5.heap.size w5 (w5.alloc (.cells #[.int .i64 (callV f x y)] 2)) := (Below.refl _ _).alloc (Nat.le_refl _) _
          have hb5 : B8 ≤ w5.heap.size := Nat.le_trans hbi hk5.size
          have HBA := Lib.hid hba; have HR6 := Lib.hid (HV5.out.below hba); have HS6 := Lib.hid (HS5.out.below hba)
          have hsz : B8 ≤ (w5.alloc (.cells #[.int .i64 (callV f x y)] 2)).heap.size := Nat.le_trans hb5 hba.size
          clear hp5 hk5 HC HOR HPA HRW HV hba hc3
          go_wp2_with (at_builtin; refine wpList_app rfl _ _ rfl B8 _ ou [callV f x y] _ 1 rfl rfl HR6.out rfl (src_one w5 (callV f x y) _ rfl) (by have := HOL.out; omega) hsz ?_)
          intro v' w9 hv9 hg9 hn9
          have hv9 : RowI B8 w9 v' (ou ++ [callV f x y]) := hv9
          rw [← HO1.out] at hv9
          have HV9 := Lib.hid hv9
          have HO9 := Lib.hid (HO5.out.app HBA.out (HR6.out.mono hB8w) hg9); have HP9 := Lib.hid (HP5.out.app HBA.out HR6.out hg9)
          have HS9 := Lib.hid (HS6.out.kept hg9 (by
            cases hq : (Value.slice a8 (s.length + t.length) c8).ownBlock with
            | none => exact .inl rfl
            | some g =>
              refine .inr (fun e => ?_)
              have h1 := HVB.out g hq
              have h2 := (HR6.out.lt g e.symm).1
              exact absurd h1 (Nat.not_lt.2 h2)))
          rw [← HW1.out] at HP9
          have hb9 : B8 ≤ w9.heap.size := Nat.le_trans hsz hg9.size
          clear hv9 hg9 hn9 HBA HR6 HS6 HO5 HV5 HP5 HS5 HO1 HW1 hsz hb5 hbi
          go_wp2_with fail
          go_roundw
          case rel => exact ⟨j + 1, by omega, by go_num, hb9, HO9.out, HP9.out, HS9.out, HV9.out⟩
          case measure => simp [intOf] <;> omega
        · obtain rfl : j = e.length := by omega
          rw [List.take_length, ← HPS.out] at hpa hrw
          have HOR := Lib.hid hO; have HPA := Lib.hid hpa; have HRW := Lib.hid hrw; have HV := Lib.hid hv
          clear hO hpa hrw hv hlt2
          go_wp2_with fail
          go_roundw
          case rel => exact ⟨k + 1, by omega, by go_num, hbi, HOR.out, HPA.out, HV.out, HRW.out⟩
          case measure => simp [intOf] <;> omega
    · obtain rfl : k = d.length := by omega
      rw [List.take_length] at hpa hrw
      have hap := Apart.ofB HVB.out hrw
      have hq := done_any _ w.heap.size P F f _ hpa (s ++ t) _ _ _ hO.b.size hv (hrw.mono hB8w) hap
      rw [HRR.out] at hq
      have HQ := Lib.hid hq; have HR := Lib.hid hO.r; have HB := Lib.hid hO.b
      obtain ⟨a9, c9, e9, -, -⟩ := hrw.slice
      subst e9
      clear hq hO hrw hlt hpa hv hap
      go_wp2_with fail
      refine (Hid.out HQ).mono ?_
      rintro e w9 ⟨⟨v9, u9, rfl, hv9, hu9, hap9⟩, hb9⟩
      have hR9 := block_below (Hid.out HR) hb9
      have HV9 := Lib.hid hv9; have HU9 := Lib.hid hu9; have HAP9 := Lib.hid hap9; have HR9 := Lib.hid hR9
      have HB9 := Lib.hid (bNext hb9 (Hid.out HB))
      obtain ⟨a9, c9, rfl, -, -⟩ := RowI.slice hv9
      obtain ⟨a8, c8, rfl, -, -⟩ := RowI.slice hu9
      have g0 := cell_of_row w9 _ 0 _ _ _ hR9; have g1 := cell_of_row w9 _ 1 _ _ _ hR9
      have z0 := frozen_of_row w9 _ 0 _ _ hR9; have z1 := frozen_of_row w9 _ 1 _ _ hR9
      clear hv9 hu9 hap9 hb9 hR9
      go_wp2_with fail
      exact fin_arr rfl rfl rfl HR9.out HV9.out HU9.out HAP9.out HB9.out (by omega)
theorem po_any (w : World) (f : Int) (v u v2 u2 : Value) (s d t e : List Int) (hs : SlA w v s) (hd : SlA w u d) (ht : SlA w v2 t) (he : SlA w u2 e) :
    Calls Try.prog 23 #[.int .u8 f, .agg #[v, u], .agg #[v2, u2]] w fun e' w' => RetArr w.heap.size (outerA f s d t e) e' w' ∧ Below w.heap.size w w' := by
  cases hr1 : right s d with
  | false => exact retB' (po_bad1 w f v u v2 u2 s d t e hs hd ht he hr1) (by unfold outerA; rw [hr1]; rfl)
  | true =>
    cases hr2 : right t e with
    | false => exact retB' (po_bad2 w f v u v2 u2 s d t e hs hd ht he hr1 hr2) (by unfold outerA; rw [hr1, hr2]; rfl)
    | true =>
      cases htk : takes f true with
      | false => exact retB' (po_no w f v u v2 u2 s d t e hs hd ht he hr1 hr2 htk) (by unfold outerA; rw [hr1, hr2, htk]; rfl)
      | true => rw [outerA_eq hr1 hr2 htk]; exact po_yes w f v u v2 u2 s d t e hs hd ht he hr1 hr2 htk
end Go.Proofs.Ytmjkncmpanhgjaa

namespace Go.Proofs.Ytmjkncmpanhgjaa
set_option maxRecDepth 100000
open Go.RowKit
set_option linter.unusedVariables false
set_option linter.unusedSimpArgs false

/-! windrowref07.pairs. -/
/-- a result's block, and what else is as it was -/
structure Res (w W : World) : Prop where
  r : W.heap[w.heap.size]? = some (.cells #[.slice none 0 0, .slice none 0 0] 24 (0, 0))
  b : Below w.heap.size w W
theorem Res.next {w W W' : World} (h : Res w W) (hb : Below W.heap.size W W') : Res w W' := ⟨block_below h.r hb, bNext hb h.b⟩
theorem Res.app {w W W1 W' : World} {x : Value} {xs : List Int} (h : Res w W) (hb : Below W.heap.size W W1) (hr : RowI w.heap.size W1 x xs) (hg : W1.grownBy W' x.ownBlock) : Res w W' := by
  have h1 := h.next hb
  exact ⟨KeepTy.grown hg (fun g e => by
    obtain ⟨cur, hc⟩ := own_typed hr e
    exact NotTy.of hc (by decide)) _ _ h1.r, h1.b.grown hg h1.b.size (fun g e => (hr.lt g e).1)⟩
theorem pairs_bad {f : Int} {xs ys s : List Int} {k : Nat} (hl : xs.length = ys.length) (hk : k < xs.length) (h : refusesB f (xs.getD k 0) (ys.getD k 0) = true) : pairsA f xs ys s = noA 11 := by
  unfold pairsA
  rw [if_pos]
  refine List.any_eq_true.2 ⟨(xs.getD k 0, ys.getD k 0), ?_, h⟩
  rw [List.mem_iff_getElem]
  refine ⟨k, by simp; omega, ?_⟩
  rw [List.getElem_zip, List.getD_eq_getElem?_getD, List.getD_eq_getElem?_getD, List.getElem?_eq_getElem hk, List.getElem?_eq_getElem (by omega)]
  rfl
theorem wrongP_good {f : Int} {xs ys : List Int} (hl : xs.length = ys.length) (h : ∀ i, i < xs.length → refusesB f (xs.getD i 0) (ys.getD i 0) = false) : wrongP f (xs.zip ys) = 0 := by
  unfold wrongP
  rw [if_neg]
  intro e
  obtain ⟨p, hp, hb⟩ := List.any_eq_true.1 e
  obtain ⟨i, hi, rfl⟩ := List.getElem_of_mem hp
  have hi' : i < xs.length := by simp at hi; omega
  have := h i hi'
  rw [List.getD_eq_getElem?_getD, List.getD_eq_getElem?_getD, List.getElem?_eq_getElem hi', List.getElem?_eq_getElem (by omega)] at this
  rw [List.getElem_zip] at hb
  simp only [Option.getD_some] at this
  rw [this] at hb
  cases hb
set_option maxHeartbeats 8000000 in
theorem rpairs_any (w : World) (f : Int) (aa ab : Option Addr) (n ca cb : Nat) (vs : Value) (xs ys s : List Int) (hlx : xs.length = n) (hly : ys.length = n) (hn : n ≤ 65536) (ha : IntsAt .i64 w aa xs) (hb : IntsAt .i64 w ab ys) (hax : ∀ x ∈ xs, In64 x) (hbx : ∀ x ∈ ys, In64 x)
    (hvf : ∃ a c, vs = .slice a s.length c) (hvs : Src w vs s.length (s.map (Value.int .i64))) (hsl : s.length ≤ 65536) (ht : takes f true = true) :
    Calls Try.prog 58 #[.int .u8 f, .slice aa n ca, .slice ab n cb, vs] w fun e w' => RetArr w.heap.size (pairsA f xs ys s) e w' ∧ Below w.heap.size w w' := by
  obtain ⟨as', cs', rfl⟩ := hvf
  obtain ⟨r, HRR⟩ : ∃ r, Hid (pairsA f xs ys s = r) := ⟨_, Lib.hid rfl⟩
  rw [HRR.out]
  have HLX := Lib.hid hlx; have HLY := Lib.hid hly; have HA := Lib.hid ha; have HB' := Lib.hid hb; have HAX := Lib.hid hax; have HBX := Lib.hid hbx; have HVS := Lib.hid hvs; have HT := Lib.hid ht
  have HLL : Hid (xs.length = ys.length) := Lib.hid (by rw [hlx, hly])
  clear hlx hly ha hb hax hbx hvs ht
  go_enter Try.func58, Try.ntmps58
  go_upto_region 1 with fail
  refine gen_worldA (fun W => Res w W) ⟨World.alloc_heap_new _ _, (Below.refl _ _).alloc (Nat.le_refl _) _⟩ ?_
  rintro W1 hR1
  have HR1 := Lib.hid hR1
  clear hR1
  go_wp2_with fail
  go_loopw [10, 11] (fun o i wr => ∃ k : Nat, k ≤ n ∧ i = .int .i64 k ∧ Res w wr ∧ RowI w.heap.size wr o (outP f ((xs.zip ys).take k)) ∧ ∀ i, i < k → refusesB f (xs.getD i 0) (ys.getD i 0) = false) (fun _ i _ => n - (intOf i).toNat)
  case atStart => exact ⟨0, by omega, rfl, HR1.out, RowI.nil _ _, fun i hi => by omega⟩
  case round =>
    obtain ⟨k, hk, rfl, hR, hrw, hgood⟩ := hrel
    clear HR1
    by_cases hlt : k < n
    · have hz := zip_step HLL.out (k := k) (by rw [HLX.out]; exact hlt)
      obtain ⟨b1, o1, rfl, hc1⟩ := HA.out.atD (k := k) (by rw [HLX.out]; exact hlt)
      obtain ⟨b3, o3, rfl, hc3⟩ := HB'.out.atD (k := k) (by rw [HLY.out]; exact hlt)
      have hc1 := keepCell hR.b hc1; have hc3 := keepCell hR.b hc3
      have hx := getD_in64 HAX.out k; have hy := getD_in64 HBX.out k
      have hkn : (k : Int) < (n : Int) := by omega
      have hk0 : (0 : Int) ≤ (k : Int) := by omega
      have hbad := pairs_bad (f := f) (s := s) HLL.out (k := k) (by rw [HLX.out]; exact hlt)
      have hnx : refusesB f (xs.getD k 0) (ys.getD k 0) = false → ∀ i, i < k + 1 → refusesB f (xs.getD i 0) (ys.getD i 0) = false := fun h i hi => by
        by_cases e : i = k
        · rw [e]; exact h
        · exact hgood i (by omega)
      generalize xs.getD k 0 = x at hz hc1 hx hbad hnx
      generalize ys.getD k 0 = y at hz hc3 hy hbad hnx
      have hol : (outP f ((xs.zip ys).take k)).length ≤ 65536 := by rw [outP_len, List.length_take]; omega
      have hO1 : outP f ((xs.zip ys).take (k + 1)) = outP f ((xs.zip ys).take k) ++ [callV f x y] := by rw [hz, outP_snoc]
      have hq := fun W => rdyad_at W f x y _ _ hx hy (dyadF_call HT.out)
      have HOL := Lib.hid hol; have HO1 := Lib.hid hO1; have HRS := Lib.hid hR; have HRW := Lib.hid hrw; have HNX := Lib.hid hnx; have HBAD := Lib.hid hbad
      generalize outP f ((xs.zip ys).take k) = ou at HOL HO1 HRW ⊢
      generalize callV f x y = cv at HO1 hq
      cases hrf : refusesB f x y with
      | true =>
        have hce : callE f x y = 11 := by unfold callE; rw [hrf]; rfl
        rw [hce] at hq
        have HQ0 := Lib.hid hq
        have HBD2 := Lib.hid (HBAD.out hrf)
        clear hz hx hy hol hO1 hq hR hrw hnx hbad hgood hce hrf HNX HBAD
        go_wp2_with fail
        go_quiet ((exact Calls.quiet_of (HQ0.out _)))
        have HR5 := Lib.hid (HRS.out.next (Below.drewN wr nq))
        have hq := rno_at (wr.drewN nq) w.heap.size HR5.out.b.size 11 r (by rw [← HBD2.out]; exact HRR.out)
        have HQ := Lib.hid hq; have HR := Lib.hid HR5.out.r; have HB := Lib.hid HR5.out.b
        clear hq hc1 hc3 HRS HRW
        go_wp2_with fail
        refine (Hid.out HQ).mono ?_
        rintro e w9 ⟨⟨v9, u9, rfl, hv9, hu9, hap9⟩, hb9⟩
        have hR9 := block_below (Hid.out HR) hb9
        have HV9 := Lib.hid hv9; have HU9 := Lib.hid hu9; have HAP9 := Lib.hid hap9; have HR9 := Lib.hid hR9
        have HB9 := Lib.hid (bNext hb9 (Hid.out HB))
        obtain ⟨a9, c9, rfl, -, -⟩ := RowI.slice hv9
        obtain ⟨a8, c8, rfl, -, -⟩ := RowI.slice hu9
        have g0 := cell_of_row w9 _ 0 _ _ _ hR9; have g1 := cell_of_row w9 _ 1 _ _ _ hR9
        have z0 := frozen_of_row w9 _ 0 _ _ hR9; have z1 := frozen_of_row w9 _ 1 _ _ hR9
        clear hv9 hu9 hap9 hb9 hR9
        go_wp2_with fail
        exact fin_arr rfl rfl rfl HR9.out HV9.out HU9.out HAP9.out HB9.out (by omega)
      | false =>
        have hce : callE f x y = 0 := by unfold callE; rw [hrf]; rfl
        rw [hce] at hq
        have HQ0 := Lib.hid hq
        have HNX2 := Lib.hid (HNX.out hrf)
        clear hz hx hy hol hO1 hq hR hrw hnx hbad hgood hce hrf HNX HBAD
        go_wp2_with fail
        go_quiet ((exact Calls.quiet_of (HQ0.out _)))
        have HR5 := Lib.hid (HRS.out.next (Below.drewN wr nq)); have HV5 := Lib.hid (HRW.out.drewN nq)
        have hba : Below (wr.drewN nq).heap.size (wr.drewN nq) ((wr.drewN nq).alloc (.cells #[.int .i64 cv] 2)) := (Below.refl _ _).alloc (Nat.le_refl _) _
        have HBA := Lib.hid hba; have HV6 := Lib.hid (HV5.out.below hba)
        have hsz := (HR5.out.next hba).b.size
        clear hba hc1 hc3 HRS HRW HQ0
        go_wp2_with (at_builtin; refine wpList_app rfl _ _ rfl w.heap.size _ ou [cv] _ 1 rfl rfl HV6.out rfl (src_one (wr.drewN nq) cv _ rfl) (by have := HOL.out; omega) hsz ?_)
        intro v' w9 hv9 hg9 hn9
        have hv9 : RowI w.heap.size w9 v' (ou ++ [cv]) := hv9
        rw [← HO1.out] at hv9
        have HV9 := Lib.hid hv9; have HR9 := Lib.hid (HR5.out.app HBA.out HV6.out hg9)
        clear hv9 hg9 hn9 HBA HV6 HR5 HV5 HO1 hsz
        go_wp2_with fail
        go_roundw
        case rel => exact ⟨k + 1, by omega, by go_num, HR9.out, HV9.out, HNX2.out⟩
        case measure => simp [intOf] <;> omega
    · obtain rfl : k = n := by omega
      have hall : (xs.zip ys).take k = xs.zip ys := List.take_of_length_le (by have := HLX.out; have := HLY.out; simp; omega)
      rw [hall] at hrw
      have hrr : okA s (outP f (xs.zip ys)) = r := by
        have := HRR.out
        rw [pairsA_eq, wrongP_good HLL.out (by rw [HLX.out]; exact hgood)] at this
        exact this
      have hq := made_any wr w.heap.size hR.b.size (.slice as' s.length cs') _ s _ ⟨_, _, rfl⟩ (HVS.out.below hR.b) hsl hrw
      rw [hrr] at hq
      have HQ := Lib.hid hq; have HR := Lib.hid hR.r; have HB := Lib.hid hR.b
      obtain ⟨a9, c9, e9, -, -⟩ := hrw.slice
      subst e9
      clear hq hR hrw hlt hgood hrr hall
      go_wp2_with fail
      refine (Hid.out HQ).mono ?_
      rintro e w9 ⟨⟨v9, u9, rfl, hv9, hu9, hap9⟩, hb9⟩
      have hR9 := block_below (Hid.out HR) hb9
      have HV9 := Lib.hid hv9; have HU9 := Lib.hid hu9; have HAP9 := Lib.hid hap9; have HR9 := Lib.hid hR9
      have HB9 := Lib.hid (bNext hb9 (Hid.out HB))
      obtain ⟨a9, c9, rfl, -, -⟩ := RowI.slice hv9
      obtain ⟨a8, c8, rfl, -, -⟩ := RowI.slice hu9
      have g0 := cell_of_row w9 _ 0 _ _ _ hR9; have g1 := cell_of_row w9 _ 1 _ _ _ hR9
      have z0 := frozen_of_row w9 _ 0 _ _ hR9; have z1 := frozen_of_row w9 _ 1 _ _ hR9
      clear hv9 hu9 hap9 hb9 hR9
      go_wp2_with fail
      exact fin_arr rfl rfl rfl HR9.out HV9.out HU9.out HAP9.out HB9.out (by omega)
end Go.Proofs.Ytmjkncmpanhgjaa
