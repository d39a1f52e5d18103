import Derived.Test.YtokghjnkfabgiaaGreatDoorTD28
import Derived.Test.YtokghjnkfabgiaaGreatDoorTD8
set_option linter.unusedVariables false
set_option linter.unusedSimpArgs false
set_option maxRecDepth 100000
-- DROPS
namespace Go.Proofs.YtokghjnkfabgiaaGreatDoor
open Go.RowKit

theorem PairAt.put {B P F G n c k : Nat} {w : World} {f wg : Int} {xs : List Int} {z : Value} (h : PairAt w P F f wg) (hr : RowI B w (.slice (some ⟨G, 0, none⟩) n c) xs) : PairAt (w.setCell ⟨G, k, none⟩ z) P F f wg := by
 obtain ⟨cur, hc⟩ := own_typed hr rfl
 exact ⟨KeepTy.setCell (p := ⟨G, k, none⟩) (NotTy.of hc (by decide)) _ _ _ h.p, KeepTy.setCell (p := ⟨G, k, none⟩) (NotTy.of hc (by decide)) _ _ _ h.f⟩
def outFB (f : Int) (lx : List (List Int)) (n k : Nat) : List Int := (List.range k).map (fun i => laneV f (lx.getD i []) (lx.getD i []).length) ++ List.replicate (n - k) 0
theorem outF_len {f : Int} {lx : List (List Int)} {n k : Nat} (h : k ≤ n) : (outFB f lx n k).length = n := rep_len _ h
theorem outF_step {f : Int} {lx : List (List Int)} {n k : Nat} (h : k < n) : (outFB f lx n k).set k (laneV f (lx.getD k []) (lx.getD k []).length) = outFB f lx n (k + 1) := rep_step (fun i => laneV f (lx.getD i []) (lx.getD i []).length) h
theorem outF_all (f : Int) {lx : List (List Int)} {n : Nat} (h : lx.length = n) : outFB f lx n n = lx.map fun l => (laneL f l).1.getLastD 0 := by
 unfold outFB
 rw [Nat.sub_self, List.replicate_zero, List.append_nil]
 apply List.ext_getElem
 ·simp [h]
 ·intro i h1 h2
  have hi : i < lx.length := by simpa [h] using h1
  simp only [List.getElem_map, List.getElem_range]
  rw [List.getD_eq_getElem?_getD, List.getElem?_eq_getElem hi]
  exact (laneV_all f _).1
theorem outF_zero (f : Int) (lx : List (List Int)) (n : Nat) : outFB f lx n 0 = List.replicate n 0 := by simp [outFB]
theorem tail_getD {l : List Int} {j : Nat} : (l.drop 1).getD j 0 = l.getD (j + 1) 0 := by
 rw [List.getD_eq_getElem?_getD, List.getD_eq_getElem?_getD, List.getElem?_drop, Nat.add_comm]
set_option maxHeartbeats 8000000 in
theorem pf_lanes (w : World) (f : Int) (v u : Value) (s d : List Int) (hs : SlA w v s) (hd : SlA w u d) (hr : right s d = true) (ht : takes f true = true) (hs0 : s.length ≠ 0) (n : Nat) (hn : n ≤ 65536) (hsz : size s.dropLast = ((n : Int), 0)) (hl0 : lastOf s ≠ 0)
  (lx : List (List Int)) (hl : LaneF s d lx) (hln : lx.length = n) :
  Calls Tryz.prog 96 #[.int .u8 f, .agg #[v, u]] w fun e w' => RetArr w.heap.size (foldL f s.dropLast lx) e w' ∧ Below w.heap.size w w' := by
 have HT := Lib.hid (fun W => takes_at W f true true ht)
 have HTK := Lib.hid ht
 have hs4 := (right_good hr).2.len
 have hs1 : ((s.length : Int) == 0) = false := by rw [beq_eq_false_iff_ne]; omega
 have hsp : 0 < s.length := by omega
 have HSZ := Lib.hid hsz
 have HLS := Lib.hid (last_getD hs0)
 have hla : (lastOf s == 0) = false := by rw [beq_eq_false_iff_ne]; exact hl0
 have HLX := Lib.hid hl; have HLN := Lib.hid hln
 have hdi : ∀ x ∈ d, In64 x := by obtain ⟨_, _, _, _, _, _, _, h⟩ := hd; exact h
 have HLI := Lib.hid (lanes_in hl.flat hdi)
 generalize lastOf s = la at hla HLS
 clear ht hs0 hsz hl0 hl hln hdi
 obtain ⟨a0, c0, rfl, h01, h02, -, h04, -⟩ := hs
 obtain ⟨a1, c1, rfl, h11, h12, -, h14, hin⟩ := hd
 have h02' : c0 ≤ 9223372036854775807 := h02
 have h12' : c1 ≤ 9223372036854775807 := h12
 have HM : Hid (s.length ≤ maxLen) := Lib.hid (Nat.le_trans h01 h02)
 have HRT := Lib.hid hr; have H0 := Lib.hid h04; have H1 := Lib.hid h14; have HIN := Lib.hid hin
 have HO := Lib.hid (One.mk0 w (.slice a0 s.length c0) (.slice a1 d.length c1))
 obtain ⟨r, HRR⟩ : ∃ r, Hid ((foldL f s.dropLast lx) = r) := ⟨_, Lib.hid rfl⟩
 rw [HRR.out]
 clear hr h04 h14 h02 h12 hin
 go_enter Tryz.func96, Tryz.ntmps96
 go_upto_region 1 with fail
 refine gen_worldA (fun W => One w W (.slice a0 s.length c0) (.slice a1 d.length c1)) HO.out ?_
 rintro W hO
 have hq := right_any W a0 a1 c0 c1 s d HM.out (H0.out.below hO.b (Nat.le_refl _))
 rw [HRT.out] at hq
 have HQ := Lib.hid hq; have HO1 := Lib.hid hO
 have x0 := hO.c0; have x1 := hO.c1
 clear hq hO
 go_wp2_with fail
 refine HQ.out.mono ?_
 rintro e W1 ⟨rfl, hb1⟩
 have HO2 := Lib.hid (HO1.out.next hb1)
 clear x0 x1
 have x0 := HO2.out.c0; have x1 := HO2.out.c1
 clear hb1 HQ HO1
 have HQ0 := Lib.hid (HT.out W1)
 go_wp2_with fail
 refine HQ0.out.mono ?_
 rintro e W2 ⟨rfl, rfl⟩
 clear HQ0 HT HO
 have hsl : ∀ W, (Instr.sliceAt 42 (.slice a0 s.length c0) none (some (.int .i64 ((s.length : Int) - 1))) none).run Tryz.prog W = .ok (.slice (subA a0 c0 0) (s.length - 1) c0) W := fun W => by
  have := slice_hi W a0 s.length c0 .i64 ((s.length : Int) - 1) (by omega) (by omega)
  rwa [show ((s.length : Int) - 1).toNat = s.length - 1 from by omega] at this
 have hcut : IntsAt .i64 W1 (subA a0 c0 0) s.dropLast := by
  have := (H0.out.below HO2.out.b (Nat.le_refl _)).cut (l := 0) (n := s.length - 1) (m := c0) h01
  rwa [dropLast_take] at this
 have hdl : s.dropLast.length = s.length - 1 := by simp
 have hq := clone_n W1 (subA a0 c0 0) (s.length - 1) c0 s.dropLast hdl.symm (by omega) hcut
 have HQ := Lib.hid hq; have HDL := Lib.hid hdl
 generalize subA a0 c0 0 = a7 at hsl HQ
 clear hq hcut hdl
 go_wp2_with fail
 refine HQ.out.mono ?_
 rintro e W3 ⟨⟨v7, rfl, hv7⟩, hb3⟩
 have HO3 := Lib.hid (HO2.out.next hb3)
 have hv7 := hv7.mono HO2.out.b.size
 obtain ⟨a7', c7, e7, -, hi7⟩ := hv7.slice
 rw [HDL.out] at e7
 subst e7
 have hq := size_any W3 a7' c7 s.dropLast (by rw [HDL.out]; unfold maxLen; omega) hi7
 rw [HDL.out, HSZ.out] at hq
 clear HQ
 have HQ := Lib.hid hq; have HV7 := Lib.hid hv7
 clear hq hv7 hb3 hi7 HO2 x0 x1 hsl
 go_wp2_with fail
 refine HQ.out.mono ?_
 rintro e W4 ⟨rfl, hb4⟩
 have HO4 := Lib.hid (HO3.out.next hb4); have HV8 := Lib.hid (HV7.out.below hb4)
 have x0 := HO4.out.c0; have x1 := HO4.out.c1
 clear HQ HV7 hb4 HO3
 unfold two
 have HQ1 := Lib.hid (of_any W4 f)
 go_wp2_with fail
 refine HQ1.out.mono ?_
 rintro e W5 ⟨rfl, hp5, hb5⟩
 have HO5 := Lib.hid (HO4.out.next hb5); have HV9 := Lib.hid (HV8.out.below hb5)
 have hP : w.heap.size + 1 < W4.heap.size + 1 := by have := HO4.out.lt; omega
 obtain ⟨P, hPe⟩ : ∃ P, W4.heap.size + 1 = P := ⟨_, rfl⟩
 obtain ⟨F, hFe⟩ : ∃ F, W4.heap.size = F := ⟨_, rfl⟩
 rw [hPe] at hp5 hP ⊢
 rw [hFe] at hp5
 have HPA := Lib.hid hp5
 have HVP : Hid (∀ g, (Value.slice a7' (s.length - 1) c7).ownBlock = some g → g < P) := Lib.hid fun g e => by have := (HV8.out.lt g e).2; omega
 have hsz5 := HO5.out.b.size
 clear HQ1 hp5 hb5 HO4 HV8 hPe hFe x0 x1
 obtain ⟨i0, hi, hz0, hz1, hz2⟩ := info_parts Tryz.info2
 have Hi := Lib.hid hi; have Hz0 := Lib.hid hz0; have Hz1 := Lib.hid hz1; have Hz2 := Lib.hid hz2; clear hi hz0 hz1 hz2
 have x0 := HO5.out.c0
 go_wp2_with (at_make; refine wpList_make_full _ rfl _ _ 42 rfl w.heap.size 2 i0 (.int .i64 0) 1 Tryz.underlying42 Hi.out Hz0.out Hz1.out _ _ _ _ n rfl rfl rfl rfl ?c2 ?c3 ?c4 ?_)
 case c2 => rw [Hz2.out]; omega
 case c3 => unfold maxLen; omega
 case c4 => exact hsz5
 intro W6 hown hgrow
 have hb6 : Below W5.heap.size W5 W6 := (Below.refl _ _).grown hgrow (Nat.le_refl _) (by simp)
 have HO6 := Lib.hid (HO5.out.next hb6)
 have HROW := Lib.hid (made_ints hown)
 have HPB := Lib.hid (HPA.out.below hb6); have HVA := Lib.hid (HV9.out.below hb6)
 have hPG : P < W5.heap.size := HPA.out.lt
 obtain ⟨G, hG⟩ : ∃ G, W5.heap.size = G := ⟨_, rfl⟩
 rw [hG] at HROW hPG ⊢
 have hGW : G < W6.heap.size := by have := (Array.getElem?_eq_some_iff.1 (own_typed HROW.out rfl).choose_spec).1; exact this
 clear hown hgrow HO5 hb6 HPA HV9 hG x0 hsz5
 have x0 := HO6.out.c0
 obtain ⟨b0, o0, rfl, hcl⟩ := H0.out.atD (k := s.length - 1) (by omega)
 rw [HLS.out] at hcl
 have hcl := keepCell HO6.out.b hcl
 have els : (s.length : Int) - 1 = ((s.length - 1 : Nat) : Int) := by omega
 obtain ⟨sl, hsl⟩ : ∃ sl, s.length - 1 = sl := ⟨_, rfl⟩
 rw [hsl] at hcl els HVA HVP ⊢
 have hsl0 : (sl : Int) < (s.length : Int) := by omega
 have HSLE := Lib.hid hsl
 clear hsl
 have x1 := HO6.out.c1
 have hq := lanes_any W6 (some ⟨b0, o0, none⟩) a1 c0 c1 s d HM.out h11 (H0.out.below HO6.out.b (Nat.le_refl _)) (H1.out.below HO6.out.b (Nat.le_refl _))
 rw [HLX.out.eq] at hq
 have HQ := Lib.hid hq
 clear hq
 go_wp2_with fail
 refine HQ.out.mono ?_
 rintro e W8 ⟨⟨v15, rfl, hv15⟩, hb8⟩
 obtain ⟨a15, c15, e15, hlm, hfo⟩ := hv15.form
 rw [HLN.out] at e15 hfo
 subst e15
 have HO8 := Lib.hid (HO6.out.next hb8); have HP8 := Lib.hid (HPB.out.below hb8); have HV8 := Lib.hid (HVA.out.below hb8); have HG8 := Lib.hid (HROW.out.below hb8); have HR8 := Lib.hid hv15; have HFO := Lib.hid hfo
 obtain ⟨B8, hB8⟩ : ∃ B, W6.heap.size = B := ⟨_, rfl⟩
 rw [hB8] at HR8 HFO hGW
 have hB8w : w.heap.size ≤ B8 := hB8 ▸ HO6.out.b.size
 clear HQ hv15 hb8 hlm hfo HO6 HPB HVA HROW hcl x0 x1 els hsl0 hB8
 have HSK : Hid (∀ g, (g = G ∨ g = P) → w.heap.size + 1 < g) := Lib.hid fun g e => by omega
 have HSB : Hid (∀ g, (g = G ∨ g = P) → g < B8) := Lib.hid fun g e => by omega
 go_wp2_with fail
 go_loopw [99] (fun i wr => ∃ k : Nat, k ≤ n ∧ i = .int .i64 k ∧ KB (fun g => g = G ∨ g = P) W8 wr ∧ PairAt wr P F f (wgB (badL f (lx.take k))) ∧ RowI w.heap.size wr (.slice (some ⟨G, 0, none⟩) n n) (outFB f lx n k)) (fun i _ => n - (intOf i).toNat)
 case atStart => exact ⟨0, by omega, rfl, KB.refl _ _, by simpa [badL, wgB] using HP8.out, by rw [outF_zero]; exact HG8.out⟩
 case round =>
  obtain ⟨k, hk, rfl, hkb, hpa, hrw⟩ := hrel
  clear HP8 HG8
  by_cases hlt : k < n
  ·have hkx : k < lx.length := by rw [HLN.out]; exact hlt
   obtain ⟨g15, rfl, hg15⟩ := HFO.out (by omega)
   obtain ⟨u18, hc18, hr18, -⟩ := (HR8.out.kb hkb HSB.out).get hkx
   have hlk0 := HLX.out.ne _ (List.getElem_mem hkx)
   have hlki := HLI.out _ (List.getElem_mem hkx)
   have hbs := badL_succ f hkx
   have hgd : lx.getD k [] = lx[k] := by rw [List.getD_eq_getElem?_getD, List.getElem?_eq_getElem hkx]; rfl
   have hfs := outF_step (f := f) (lx := lx) hlt
   rw [hgd] at hfs
   generalize lx[k] = lk at hr18 hlk0 hlki hbs hfs
   obtain ⟨g18, c18, e18, hg18, -⟩ := hr18.form hlk0
   obtain ⟨m, hm⟩ : ∃ m, lk.length = m := ⟨_, rfl⟩
   rw [hm] at e18 hlk0
   subst e18
   have hcap : m ≤ c18 := by
    rcases hr18.2 with ⟨h0, _⟩ | ⟨_, _, _, h0, _, _, h1, _⟩
    ·cases h0
    ·simp only [Value.slice.injEq] at h0; omega
   have hm63 : m ≤ 9223372036854775807 := by
    obtain ⟨_, _, _, h, _⟩ := hr18.slice
    rw [hm] at h; exact h
   have h0c := hr18.at (k := 0) (by rw [hm]; exact hlk0)
   have hf0 := hrw.fr k
   have hgc := hrw.at (k := k) (by rw [outF_len (by omega)]; exact hlt)
   have hset := hrw.set k (lk.getD 0 0)
   obtain ⟨hv1, hb1⟩ := laneV_one f (l := lk) (by rw [hm]; exact hlk0)
   rw [← hv1] at hset h0c
   have HLV := Lib.hid (laneV_in f hlki)
   have HST := Lib.hid (fun j h1 h2 => laneV_step f (l := lk) (j := j) h1 h2)
   have HLD := Lib.hid (fun j => getD_in64 hlki j)
   have HRT18 := Lib.hid hr18.ints
   have hr18k := fun wi (h : KB (fun g => g = G ∨ g = P) wr wi) => h.row hr18 (fun g e hs => by
    have h1 := (hr18.lt g e).1
    have h2 := HSB.out g hs
    omega)
   have HRK : Hid (∀ wi, KB (fun g => g = G ∨ g = P) wr wi → IntsAt .i64 wi (subA (some ⟨g18, 0, none⟩) c18 1) (lk.drop 1)) := Lib.hid fun wi h => by
    have h2 : RowI B8 wi (.slice (some ⟨g18, 0, none⟩) m c18) lk := hr18k wi h
    have := h2.ints.cut (l := 1) (n := lk.length) (m := c18) (by rw [hm]; exact hcap)
    rwa [List.take_of_length_le (by simp)] at this
   have hsl : ∀ W, (Instr.sliceAt 42 (.slice (some ⟨g18, 0, none⟩) m c18) (some (.int .i64 1)) none none).run Tryz.prog W = .ok (.slice (subA (some ⟨g18, 0, none⟩) c18 1) (m - 1) (c18 - 1)) W := fun W => slice_lo W (some ⟨g18, 0, none⟩) m c18 .i64 1 (by omega) (by omega)
   generalize subA (some ⟨g18, 0, none⟩) c18 1 = at1 at HRK hsl
   have HPA1 : Hid (PairAt (wr.setCell ⟨G, k, none⟩ (.int .i64 (laneV f lk 1))) P F f (wgB (badL f (lx.take k) || laneB f lk 1))) := Lib.hid (by rw [hb1, Bool.or_false]; exact hpa.put hrw)
   have HSET := Lib.hid hset; have HKB := Lib.hid hkb
   have HKB1 : Hid (KB (fun g => g = G ∨ g = P) wr (wr.setCell ⟨G, k, none⟩ (.int .i64 (laneV f lk 1)))) := Lib.hid ((KB.refl (fun g => g = G ∨ g = P) wr).setCell (p := ⟨G, k, none⟩) (fun _ => .inl rfl) _)
   have HBS := Lib.hid hbs; have HFS := Lib.hid hfs; have HM1 := Lib.hid hm
   have HOL := Lib.hid (outF_len (f := f) (lx := lx) hk)
   have hm0 : (0 : Int) < (m : Int) := by omega
   obtain ⟨y1, hy1⟩ : ∃ y, laneV f lk 1 = y := ⟨_, rfl⟩
   rw [hy1] at h0c
   have HY1 := Lib.hid hy1
   clear hkb hpa hrw hr18 hlki hbs hgd hfs hset hv1 hb1 hr18k hkx hm hy1
   go_wp2_with fail
   rw [← HY1.out]
   go_loopw [113] (fun i wi => ∃ j : Nat, j + 1 ≤ m ∧ i = .int .i64 j ∧ KB (fun g => g = G ∨ g = P) wr wi ∧ PairAt wi P F f (wgB (badL f (lx.take k) || laneB f lk (j + 1))) ∧
    RowI w.heap.size wi (.slice (some ⟨G, 0, none⟩) n n) ((outFB f lx n k).set k (laneV f lk (j + 1)))) (fun i _ => m - (intOf i).toNat)
   case atStart => exact ⟨0, by omega, rfl, HKB1.out, HPA1.out, HSET.out⟩
   case round =>
    obtain ⟨j, hj, rfl, hki, hpa, hrw⟩ := hrel
    clear HKB1 HPA1 HSET h0c hf0 hgc
    have hkl : k < (outFB f lx n k).length := by rw [HOL.out]; exact hlt
    by_cases hjm : j + 1 < m
    ·obtain ⟨bt, ot, rfl, hct⟩ := (HRK.out _ hki).atD (k := j) (by have := HM1.out; simp; omega)
     rw [tail_getD] at hct
     obtain ⟨sv, sb⟩ := HST.out (j + 1) (by omega) (by rw [HM1.out]; omega)
     have hv64 := HLV.out (j + 1) (by omega) (by rw [HM1.out]; omega)
     have hx64 := HLD.out (j + 1)
     have hf0 := hrw.fr k
     have hgc := hrw.at (k := k) (by rw [List.length_set]; exact hkl)
     rw [getD_set, if_pos ⟨rfl, hkl⟩] at hgc
     have hjI : (j : Int) < ((m - 1 : Nat) : Int) := by omega
     generalize lk.getD (j + 1) 0 = x at hct sv sb hx64
     generalize laneV f lk (j + 1) = y at hgc sv sb hv64 hrw
     have hq := call_any _ P F f _ y x hpa HTK.out hv64 hx64
     rw [nextE_wg, Bool.or_assoc, ← sb] at hq
     have HQ := Lib.hid hq; have HSV := Lib.hid sv; have HPA := Lib.hid hpa; have HRW := Lib.hid hrw; have HKI := Lib.hid hki
     clear hq sv sb hpa hrw hki hv64 hx64
     go_wp2_with fail
     refine HQ.out.mono ?_
     rintro e w5 ⟨rfl, hp5, hk5⟩
     have hr5 := HRW.out.call HPA.out hk5
     have hf5 := hr5.fr k
     have hg5 := hr5.at (k := k) (by rw [List.length_set]; exact hkl)
     have hs5 := hr5.set k (callV f y x)
     rw [List.set_set, ← HSV.out] at hs5
     have HS5 := Lib.hid hs5; have HP5 := Lib.hid (hp5.put (k := k) (z := .int .i64 (callV f y x)) hr5)
     have HK5 := Lib.hid ((HKI.out.trans (hk5.mono (fun g _ e => .inr e))).setCell (p := ⟨G, k, none⟩) (fun _ => .inl rfl) (.int .i64 (callV f y x)))
     rw [HSV.out] at HS5
     clear hr5 hs5 hp5 hk5 HQ HPA HRW HKI hct hf0 hgc
     go_wp2_with fail
     go_roundw
     case rel => exact ⟨j + 1, by omega, by go_num, HK5.out, HP5.out, by rw [HSV.out]; exact HS5.out⟩
     case measure => simp [intOf] <;> omega
    ·have hjI : ¬ (j : Int) < ((m - 1 : Nat) : Int) := by omega
     obtain ⟨la1, la2⟩ := laneV_all f lk
     rw [HM1.out] at la1 la2
     have hje : j + 1 = m := by omega
     rw [hje] at hpa hrw
     have hfs := HFS.out
     rw [HM1.out] at hfs
     rw [hfs] at hrw
     rw [la2, ← HBS.out] at hpa
     have HPA := Lib.hid hpa; have HRW := Lib.hid hrw; have HKI := Lib.hid (HKB.out.trans hki)
     clear la1 la2 hje hfs hpa hrw hki hkl
     go_wp2_with fail
     go_roundw
     case rel => exact ⟨k + 1, by omega, by go_num, HKI.out, HPA.out, HRW.out⟩
     case measure => simp [intOf] <;> omega
  ·obtain rfl : k = n := by omega
   have hall : lx.take k = lx := List.take_of_length_le (by rw [HLN.out]; exact Nat.le_refl _)
   rw [hall] at hpa
   rw [outF_all f HLN.out] at hrw
   have hO := HO8.out.kb hkb HSK.out
   have hv : RowI w.heap.size _ (.slice a7' sl c7) s.dropLast := hkb.row HV8.out (fun g e hs => by
    have := HVP.out g e
    omega)
   have hap : Apart (.slice a7' sl c7) (.slice (some ⟨G, 0, none⟩) k k) := by
    cases hq : (Value.slice a7' sl c7).ownBlock with
    | none => exact .inl hq
    | some g => exact .inr (fun e => by
      have h1 := HVP.out g hq
      rw [hq] at e
      have h2 : g = G := by injection e
      omega)
   have hq := done_any _ w.heap.size P F f _ hpa s.dropLast _ _ _ hO.b.size hv hrw hap
   rw [show doneA (wgB (badL f lx)) s.dropLast (lx.map fun l => (laneL f l).1.getLastD 0) = r from HRR.out] at hq
   have HQ := Lib.hid hq; have HR := Lib.hid hO.r; have HB := Lib.hid hO.b
   clear hq hO hrw hlt hpa hv hap hall hkb
   go_wp2_with fail
   refine (Hid.out HQ).mono ?_
   rintro e w9 ⟨⟨v9, u9, rfl, hv9, hu9, hap9⟩, hb9⟩
   have hR9 := block_below (Hid.out HR) hb9
   have HV9 := Lib.hid hv9; have HU9 := Lib.hid hu9; have HAP9 := Lib.hid hap9; have HR9 := Lib.hid hR9
   have HB9 := Lib.hid (bNext hb9 (Hid.out HB))
   obtain ⟨a9, c9, rfl, -, -⟩ := RowI.slice hv9
   obtain ⟨a8, c8, rfl, -, -⟩ := RowI.slice hu9
   have g0 := cell_of_row w9 _ 0 _ _ _ hR9; have g1 := cell_of_row w9 _ 1 _ _ _ hR9
   have z0 := frozen_of_row w9 _ 0 _ _ hR9; have z1 := frozen_of_row w9 _ 1 _ _ hR9
   clear hv9 hu9 hap9 hb9 hR9
   go_wp2_with fail
   exact fin_arr rfl rfl rfl HR9.out HV9.out HU9.out HAP9.out HB9.out (by omega)
theorem pf_any (w : World) (f : Int) (v u : Value) (s d : List Int) (hs : SlA w v s) (hd : SlA w u d) :
  Calls Tryz.prog 96 #[.int .u8 f, .agg #[v, u]] w fun e w' => RetArr w.heap.size (foldA f s d) e w' ∧ Below w.heap.size w w' := by
 cases hr : right s d with
 | false => exact retB' (pf_bad w f v u s d hs hd hr) (by unfold foldA; rw [hr]; rfl)
 | true =>
  cases ht : takes f true with
  | false => exact retB' (pf_no w f v u s d hs hd hr ht) (by unfold foldA; rw [hr, ht]; rfl)
  | true =>
   by_cases hs0 : s.length = 0
   ·exact retB' (pf_zero w f v u s d hs hd hr ht hs0) (by unfold foldA; rw [if_pos hr, if_pos ht, if_pos hs0])
   obtain ⟨lx, hl⟩ := lane_facts hr
   rw [foldA_eq hr ht hl hs0]
   by_cases her : (size s.dropLast).2 ≠ 0
   ·rw [if_pos her]; exact pf_large w f v u s d hs hd hr ht hs0 her
   rw [if_neg her]
   have her : (size s.dropLast).2 = 0 := by omega
   obtain ⟨nz, hsz⟩ : ∃ nz, size s.dropLast = (nz, 0) := ⟨(size s.dropLast).1, by rw [← her]⟩
   obtain ⟨h0, h1, h2⟩ := fold_count hr hl hs0 hsz
   obtain ⟨n, rfl⟩ := Int.eq_ofNat_of_zero_le h0
   by_cases hl0 : lastOf s = 0
   ·rw [if_pos hl0, hsz]; exact pf_unit w f v u s d hs hd hr ht hs0 n (by omega) hsz hl0
   ·rw [if_neg hl0]; exact pf_lanes w f v u s d hs hd hr ht hs0 n (by omega) hsz hl0 lx hl (by have := h2 hl0; omega)
end Go.Proofs.YtokghjnkfabgiaaGreatDoor

-- DROPS
namespace Go.Proofs.YtokghjnkfabgiaaGreatDoor
open Go.RowKit

set_option maxHeartbeats 4000000 in
theorem ps_bad (w : World) (f : Int) (v u : Value) (s d : List Int) (hs : SlA w v s) (hd : SlA w u d) (hr : right s d = false) :
  Calls Tryz.prog 97 #[.int .u8 f, .agg #[v, u]] w fun e w' => RetArr w.heap.size (noA 60) e w' ∧ Below w.heap.size w w' := by
 obtain ⟨a0, c0, rfl, h01, h02, -, h04, -⟩ := hs
 obtain ⟨a1, c1, rfl, h11, h12, -, h14, hin⟩ := hd
 have h02' : c0 ≤ 9223372036854775807 := h02
 have h12' : c1 ≤ 9223372036854775807 := h12
 have HM : Hid (s.length ≤ maxLen) := Lib.hid (Nat.le_trans h01 h02)
 have HRT := Lib.hid hr; have H0 := Lib.hid h04; have H1 := Lib.hid h14; have HIN := Lib.hid hin
 have HO := Lib.hid (One.mk0 w (.slice a0 s.length c0) (.slice a1 d.length c1))
 obtain ⟨r, HRR⟩ : ∃ r, Hid ((noA 60) = r) := ⟨_, Lib.hid rfl⟩
 rw [HRR.out]
 clear hr h04 h14 h02 h12 hin
 go_enter Tryz.func97, Tryz.ntmps97
 go_upto_region 1 with fail
 refine gen_worldA (fun W => One w W (.slice a0 s.length c0) (.slice a1 d.length c1)) HO.out ?_
 rintro W hO
 have hq := right_any W a0 a1 c0 c1 s d HM.out (H0.out.below hO.b (Nat.le_refl _))
 rw [HRT.out] at hq
 have HQ := Lib.hid hq; have HO1 := Lib.hid hO
 have x0 := hO.c0; have x1 := hO.c1
 clear hq hO
 go_wp2_with fail
 refine HQ.out.mono ?_
 rintro e W1 ⟨rfl, hb1⟩
 have HO2 := Lib.hid (HO1.out.next hb1)
 have hq := fault_at W1 w.heap.size HO2.out.b.size 60 r HRR.out
 clear HQ
 have HQ := Lib.hid hq; have HR := Lib.hid HO2.out.r; have HB := Lib.hid HO2.out.b
 clear hq HO hb1 HO1 x0 x1
 go_wp2_with fail
 refine (Hid.out HQ).mono ?_
 rintro e w9 ⟨⟨v9, u9, rfl, hv9, hu9, hap9⟩, hb9⟩
 have hR9 := block_below (Hid.out HR) hb9
 have HV9 := Lib.hid hv9; have HU9 := Lib.hid hu9; have HAP9 := Lib.hid hap9; have HR9 := Lib.hid hR9
 have HB9 := Lib.hid (bNext hb9 (Hid.out HB))
 obtain ⟨a9, c9, rfl, -, -⟩ := RowI.slice hv9
 obtain ⟨a8, c8, rfl, -, -⟩ := RowI.slice hu9
 have g0 := cell_of_row w9 _ 0 _ _ _ hR9; have g1 := cell_of_row w9 _ 1 _ _ _ hR9
 have z0 := frozen_of_row w9 _ 0 _ _ hR9; have z1 := frozen_of_row w9 _ 1 _ _ hR9
 clear hv9 hu9 hap9 hb9 hR9
 go_wp2_with fail
 exact fin_arr rfl rfl rfl HR9.out HV9.out HU9.out HAP9.out HB9.out (by omega)
set_option maxHeartbeats 4000000 in
theorem ps_no (w : World) (f : Int) (v u : Value) (s d : List Int) (hs : SlA w v s) (hd : SlA w u d) (hr : right s d = true) (ht : takes f true = false) :
  Calls Tryz.prog 97 #[.int .u8 f, .agg #[v, u]] w fun e w' => RetArr w.heap.size (noA 70) e w' ∧ Below w.heap.size w w' := by
 have HT := Lib.hid (fun W => takes_at W f true false ht)
 clear ht
 obtain ⟨a0, c0, rfl, h01, h02, -, h04, -⟩ := hs
 obtain ⟨a1, c1, rfl, h11, h12, -, h14, hin⟩ := hd
 have h02' : c0 ≤ 9223372036854775807 := h02
 have h12' : c1 ≤ 9223372036854775807 := h12
 have HM : Hid (s.length ≤ maxLen) := Lib.hid (Nat.le_trans h01 h02)
 have HRT := Lib.hid hr; have H0 := Lib.hid h04; have H1 := Lib.hid h14; have HIN := Lib.hid hin
 have HO := Lib.hid (One.mk0 w (.slice a0 s.length c0) (.slice a1 d.length c1))
 obtain ⟨r, HRR⟩ : ∃ r, Hid ((noA 70) = r) := ⟨_, Lib.hid rfl⟩
 rw [HRR.out]
 clear hr h04 h14 h02 h12 hin
 go_enter Tryz.func97, Tryz.ntmps97
 go_upto_region 1 with fail
 refine gen_worldA (fun W => One w W (.slice a0 s.length c0) (.slice a1 d.length c1)) HO.out ?_
 rintro W hO
 have hq := right_any W a0 a1 c0 c1 s d HM.out (H0.out.below hO.b (Nat.le_refl _))
 rw [HRT.out] at hq
 have HQ := Lib.hid hq; have HO1 := Lib.hid hO
 have x0 := hO.c0; have x1 := hO.c1
 clear hq hO
 go_wp2_with fail
 refine HQ.out.mono ?_
 rintro e W1 ⟨rfl, hb1⟩
 have HO2 := Lib.hid (HO1.out.next hb1)
 clear x0 x1
 have x0 := HO2.out.c0; have x1 := HO2.out.c1
 clear hb1 HQ HO1
 have HQ0 := Lib.hid (HT.out W1)
 go_wp2_with fail
 refine HQ0.out.mono ?_
 rintro e W2 ⟨rfl, rfl⟩
 clear HQ0 HT HO
 have hq := fault_at W1 w.heap.size HO2.out.b.size 70 r HRR.out
 have HQ := Lib.hid hq; have HR := Lib.hid HO2.out.r; have HB := Lib.hid HO2.out.b
 clear hq
 go_wp2_with fail
 refine (Hid.out HQ).mono ?_
 rintro e w9 ⟨⟨v9, u9, rfl, hv9, hu9, hap9⟩, hb9⟩
 have hR9 := block_below (Hid.out HR) hb9
 have HV9 := Lib.hid hv9; have HU9 := Lib.hid hu9; have HAP9 := Lib.hid hap9; have HR9 := Lib.hid hR9
 have HB9 := Lib.hid (bNext hb9 (Hid.out HB))
 obtain ⟨a9, c9, rfl, -, -⟩ := RowI.slice hv9
 obtain ⟨a8, c8, rfl, -, -⟩ := RowI.slice hu9
 have g0 := cell_of_row w9 _ 0 _ _ _ hR9; have g1 := cell_of_row w9 _ 1 _ _ _ hR9
 have z0 := frozen_of_row w9 _ 0 _ _ hR9; have z1 := frozen_of_row w9 _ 1 _ _ hR9
 clear hv9 hu9 hap9 hb9 hR9
 go_wp2_with fail
 exact fin_arr rfl rfl rfl HR9.out HV9.out HU9.out HAP9.out HB9.out (by omega)
theorem RowR.get2 {B g n c : Nat} {w : World} {xss : List (List Int)} (h : RowR B w (.slice (some ⟨g, 0, none⟩) n c) xss) {q : Nat} (hq : q < xss.length) :
  ∃ u, w.cell? ⟨g, q, none⟩ = some u ∧ RowI B w u xss[q] ∧ ∀ w' ys (S : Nat → Prop), KB S w w' → (∀ k, S k → u.ownBlock = some k ∨ k < B) → RowI B w' u ys → RowR B w' (.slice (some ⟨g, 0, none⟩) n c) (xss.set q ys) := by
 obtain ⟨vs, hown, hin⟩ := h
 have hn : xss.length = n := by
  rcases hown.2 with ⟨h0, _⟩ | ⟨g', cap, cur, e, _⟩
  ·simp at h0
  ·simp only [Value.slice.injEq] at e; exact e.2.1.symm
 subst hn
 obtain ⟨u, hu, hr, hap⟩ := hin q hq
 refine ⟨u, ?_, hr, fun w' ys S hk hS hy => ?_⟩
 ·rw [World.ownsRow.cellAt hown q (by simpa using hq)]; exact hu
 ·refine ⟨vs, ?_, fun i hi => ?_⟩
  ·rw [List.length_set]
   refine hk.row hown fun k e he => ?_
   have hkB : B ≤ k := by
    rcases hown.2 with ⟨h0, _⟩ | ⟨g', cap, cur, e2, hB, _⟩
    ·rw [h0] at e; cases e
    ·rw [e2] at e
     have e3 : g' = k := by injection e
     omega
   rcases hS k he with h1 | h1
   ·rcases outer_ne hown hr with h0 | h0
    ·rw [h0] at h1; cases h1
    ·exact h0 (h1.trans e.symm)
   ·omega
  ·rw [List.length_set] at hi
   by_cases hiq : i = q
   ·subst hiq
    exact ⟨u, hu, by rw [List.getElem_set_self]; exact hy, hap⟩
   ·obtain ⟨ui, hui, hri, hapi⟩ := hin i hi
    refine ⟨ui, hui, ?_, hapi⟩
    rw [List.getElem_set_ne (fun e => hiq e.symm)]
    refine hk.row hri fun k e he => ?_
    have hkB : B ≤ k := (hri.lt k e).1
    rcases hS k he with h1 | h1
    ·have hne : Apart ui u ∨ Apart u ui := by
      rcases Nat.lt_or_gt_of_ne hiq with h2 | h2
      ·exact .inl (hapi q u h2 hu)
      ·exact .inr (hap i ui h2 hui)
     have hne : Apart ui u := hne.elim id Apart.symm
     rcases hne with h0 | h0
     ·rw [h0] at e; cases e
     ·exact h0 (e.trans h1.symm)
    ·omega
def scanR (f : Int) (l : List Int) : List Int := (laneL f l).1
theorem scan_take_set (f : Int) {lx : List (List Int)} {k : Nat} (h : k < lx.length) : ((lx.take k).map (scanR f) ++ lx.drop k).set k (scanR f lx[k]) = (lx.take (k + 1)).map (scanR f) ++ lx.drop (k + 1) := map_take_set (scanR f) h
def laneS (f : Int) (l : List Int) (j : Nat) : List Int := (laneL f (l.take j)).1 ++ l.drop j
theorem laneS_len (f : Int) {l : List Int} {j : Nat} (h : j ≤ l.length) : (laneS f l j).length = l.length := by unfold laneS; rw [List.length_append, laneL_len]; simp; omega
theorem laneS_one (f : Int) {l : List Int} (h : 0 < l.length) : laneS f l 1 = l := by
 cases l with
 | nil => simp at h
 | cons x l => rfl
theorem laneS_all (f : Int) (l : List Int) : laneS f l l.length = scanR f l := by unfold laneS scanR; rw [List.take_length, List.drop_length, List.append_nil]
theorem laneS_prev (f : Int) {l : List Int} {j : Nat} (h1 : 1 ≤ j) (h2 : j ≤ l.length) : (laneS f l j).getD (j - 1) 0 = laneV f l j := by
 unfold laneS laneV
 have hl : (laneL f (l.take j)).1.length = j := by rw [laneL_len]; simp; omega
 rw [List.getD_eq_getElem?_getD, List.getElem?_append_left (by omega), List.getLastD_eq_getLast?, List.getLast?_eq_getElem?, hl]
theorem laneS_cur (f : Int) {l : List Int} {j : Nat} (h2 : j < l.length) : (laneS f l j).getD j 0 = l.getD j 0 := by
 unfold laneS
 have hl : (laneL f (l.take j)).1.length = j := by rw [laneL_len]; simp; omega
 rw [List.getD_eq_getElem?_getD, List.getElem?_append_right (by omega), hl, Nat.sub_self, List.getElem?_drop, List.getD_eq_getElem?_getD]
 rfl
theorem laneS_step (f : Int) {l : List Int} {j : Nat} (h1 : 1 ≤ j) (h2 : j < l.length) : (laneS f l j).set j (callV f (laneV f l j) (l.getD j 0)) = laneS f l (j + 1) := by
 have hl : (laneL f (l.take j)).1.length = j := by rw [laneL_len]; simp; omega
 unfold laneS
 rw [List.set_append_right _ _ (by omega), hl, Nat.sub_self, lane_take f h1 h2, List.drop_eq_getElem_cons h2, List.set_cons_zero]
 simp
theorem scanR_flat_len (f : Int) (lx : List (List Int)) : ((lx.map (scanR f)).flatten).length = lx.flatten.length := by
 induction lx with
 | nil => rfl
 | cons x l ih => simp only [List.map_cons, List.flatten_cons, List.length_append, ih]; unfold scanR; rw [laneL_len]
def scanL (f : Int) (s : List Int) (lx : List (List Int)) : ArrE := doneA (wgB (badL f lx)) s ((lx.map (scanR f)).flatten)
theorem scanA_eq {f : Int} {s d : List Int} {lx : List (List Int)} (hr : right s d = true) (ht : takes f true = true) (hl : LaneF s d lx) : scanA f s d = scanL f s lx := by
 unfold scanA scanL doneA wgB badL
 rw [if_pos hr, if_pos ht, hl.eq]
 dsimp only
 cases h : (lx.map (laneL f)).any (·.2) <;> rfl
set_option maxHeartbeats 8000000 in
theorem ps_lanes (w : World) (f : Int) (v u : Value) (s d : List Int) (hs : SlA w v s) (hd : SlA w u d) (hr : right s d = true) (ht : takes f true = true) (lx : List (List Int)) (hl : LaneF s d lx) :
  Calls Tryz.prog 97 #[.int .u8 f, .agg #[v, u]] w fun e w' => RetArr w.heap.size (scanL f s lx) e w' ∧ Below w.heap.size w w' := by
 have HT := Lib.hid (fun W => takes_at W f true true ht)
 have HTK := Lib.hid ht
 have hs4 := (right_good hr).2.len
 have hd6 := (right_good hr).2.le
 have HLX := Lib.hid hl
 have hnl := hl.len
 have hdi : ∀ x ∈ d, In64 x := by obtain ⟨_, _, _, _, _, _, _, h⟩ := hd; exact h
 have HLI := Lib.hid (lanes_in hl.flat hdi)
 clear ht hl hdi
 obtain ⟨a0, c0, rfl, h01, h02, -, h04, -⟩ := hs
 obtain ⟨a1, c1, rfl, h11, h12, -, h14, hin⟩ := hd
 have h02' : c0 ≤ 9223372036854775807 := h02
 have h12' : c1 ≤ 9223372036854775807 := h12
 have HM : Hid (s.length ≤ maxLen) := Lib.hid (Nat.le_trans h01 h02)
 have HRT := Lib.hid hr; have H0 := Lib.hid h04; have H1 := Lib.hid h14; have HIN := Lib.hid hin
 have HO := Lib.hid (One.mk0 w (.slice a0 s.length c0) (.slice a1 d.length c1))
 obtain ⟨r, HRR⟩ : ∃ r, Hid ((scanL f s lx) = r) := ⟨_, Lib.hid rfl⟩
 rw [HRR.out]
 clear hr h04 h14 h02 h12 hin
 go_enter Tryz.func97, Tryz.ntmps97
 go_upto_region 1 with fail
 refine gen_worldA (fun W => One w W (.slice a0 s.length c0) (.slice a1 d.length c1)) HO.out ?_
 rintro W hO
 have hq := right_any W a0 a1 c0 c1 s d HM.out (H0.out.below hO.b (Nat.le_refl _))
 rw [HRT.out] at hq
 have HQ := Lib.hid hq; have HO1 := Lib.hid hO
 have x0 := hO.c0; have x1 := hO.c1
 clear hq hO
 go_wp2_with fail
 refine HQ.out.mono ?_
 rintro e W1 ⟨rfl, hb1⟩
 have HO2 := Lib.hid (HO1.out.next hb1)
 clear x0 x1
 have x0 := HO2.out.c0; have x1 := HO2.out.c1
 clear hb1 HQ HO1
 have HQ0 := Lib.hid (HT.out W1)
 go_wp2_with fail
 refine HQ0.out.mono ?_
 rintro e W2 ⟨rfl, rfl⟩
 clear HQ0 HT HO
 have HQ1 := Lib.hid (of_any W1 f)
 clear x0 x1
 go_wp2_with fail
 refine HQ1.out.mono ?_
 rintro e W5 ⟨rfl, hp5, hb5⟩
 have HO5 := Lib.hid (HO2.out.next hb5)
 have hP : w.heap.size + 1 < W1.heap.size + 1 := by have := HO2.out.lt; omega
 have hPW : W1.heap.size + 1 < W5.heap.size := hp5.lt
 obtain ⟨P, hPe⟩ : ∃ P, W1.heap.size + 1 = P := ⟨_, rfl⟩
 obtain ⟨F, hFe⟩ : ∃ F, W1.heap.size = F := ⟨_, rfl⟩
 rw [hPe] at hp5 hP hPW ⊢
 rw [hFe] at hp5
 have HPA := Lib.hid hp5
 clear HQ1 hp5 hb5 HO2 hPe hFe
 have x0 := HO5.out.c0; have x1 := HO5.out.c1
 have hq := lanes_any W5 a0 a1 c0 c1 s d HM.out h11 (H0.out.below HO5.out.b (Nat.le_refl _)) (H1.out.below HO5.out.b (Nat.le_refl _))
 rw [HLX.out.eq] at hq
 have HQ := Lib.hid hq
 clear hq
 go_wp2_with fail
 refine HQ.out.mono ?_
 rintro e W8 ⟨⟨v15, rfl, hv15⟩, hb8⟩
 obtain ⟨a15, c15, e15, hlm, hfo⟩ := hv15.form
 obtain ⟨n, hln⟩ : ∃ n, lx.length = n := ⟨_, rfl⟩
 rw [hln] at e15 hfo hnl
 subst e15
 have HLN := Lib.hid hln
 have HO8 := Lib.hid (HO5.out.next hb8); have HP8 := Lib.hid (HPA.out.below hb8); have HR8 := Lib.hid hv15; have HFO := Lib.hid hfo
 have hPB : P < W5.heap.size := hPW
 obtain ⟨B8, hB8⟩ : ∃ B, W5.heap.size = B := ⟨_, rfl⟩
 rw [hB8] at HR8 HFO hPB
 have hB8w : w.heap.size + 1 < B8 := hB8 ▸ HO5.out.lt
 clear HQ hv15 hb8 hlm hfo HO5 HPA x0 x1 hB8 hPW hln
 go_wp2_with fail
 go_loopw [33] (fun i wr => ∃ k : Nat, k ≤ n ∧ i = .int .i64 k ∧ One w wr (.slice a0 s.length c0) (.slice a1 d.length c1) ∧ PairAt wr P F f (wgB (badL f (lx.take k))) ∧ RowR B8 wr (.slice a15 n c15) ((lx.take k).map (scanR f) ++ lx.drop k)) (fun i _ => n - (intOf i).toNat)
 case atStart => exact ⟨0, by omega, rfl, HO8.out, by simpa [badL, wgB] using HP8.out, by simpa using HR8.out⟩
 case round =>
  obtain ⟨k, hk, rfl, hO, hpa, hrw⟩ := hrel
  clear HP8 HR8 HO8
  by_cases hlt : k < n
  ·have hkx : k < lx.length := by rw [HLN.out]; exact hlt
   obtain ⟨g15, rfl, hg15⟩ := HFO.out (by omega)
   have hkl : k < ((lx.take k).map (scanR f) ++ lx.drop k).length := by simp; omega
   obtain ⟨u10, hc10, hr10, hset⟩ := hrw.get2 hkl
   rw [map_take_get (scanR f) hkx] at hr10
   have hset2 : ∀ w' S, KB S wr w' → (∀ g, S g → u10.ownBlock = some g ∨ g < B8) → RowI B8 w' u10 (scanR f lx[k]) → RowR B8 w' (.slice (some ⟨g15, 0, none⟩) n c15) ((lx.take (k + 1)).map (scanR f) ++ lx.drop (k + 1)) := fun w' S h1 h2 h3 => by
    have := hset w' _ S h1 h2 h3
    rwa [scan_take_set f hkx] at this
   have hlk0 := HLX.out.ne _ (List.getElem_mem hkx)
   have hlki := HLI.out _ (List.getElem_mem hkx)
   have hbs := badL_succ f hkx
   generalize lx[k] = lk at hr10 hlk0 hlki hbs hset2
   obtain ⟨g10, c10, e10, hg10, hg10w⟩ := hr10.form hlk0
   obtain ⟨m, hm⟩ : ∃ m, lk.length = m := ⟨_, rfl⟩
   have hm63 : m ≤ 9223372036854775807 := by
    obtain ⟨_, _, _, h, _⟩ := hr10.slice
    rw [hm] at h; exact h
   rw [hm] at e10 hlk0
   subst e10
   have HLV := Lib.hid (laneV_in f hlki)
   have HST := Lib.hid (fun j h1 h2 => laneV_step f (l := lk) (j := j) h1 h2)
   have HLD := Lib.hid (fun j => getD_in64 hlki j)
   have hone := laneS_one f (l := lk) (by rw [hm]; exact hlk0)
   rw [← hone] at hr10
   have hb1 := (laneV_one f (l := lk) (by rw [hm]; exact hlk0)).2
   have HPA1 : Hid (PairAt wr P F f (wgB (badL f (lx.take k) || laneB f lk 1))) := Lib.hid (by rw [hb1, Bool.or_false]; exact hpa)
   have HR1 := Lib.hid hr10; have HSET := Lib.hid hset2; have HBS := Lib.hid hbs; have HM1 := Lib.hid hm; have HOR := Lib.hid hO
   clear hset hset2 hrw hO hpa hr10 hlki hbs hone hb1 hm hkl hkx
   go_wp2_with fail
   go_loopw [11] (fun i wi => ∃ j : Nat, 1 ≤ j ∧ j ≤ m ∧ i = .int .i64 j ∧ KB (fun g => g = g10 ∨ g = P) wr wi ∧ PairAt wi P F f (wgB (badL f (lx.take k) || laneB f lk j)) ∧ RowI B8 wi (.slice (some ⟨g10, 0, none⟩) m c10) (laneS f lk j)) (fun i _ => m - (intOf i).toNat)
   case atStart => exact ⟨1, Nat.le_refl _, hlk0, rfl, KB.refl _ _, HPA1.out, HR1.out⟩
   case round =>
    obtain ⟨j, hj1, hjm, rfl, hki, hpa, hrw⟩ := hrel
    clear HPA1 HR1 hc10
    by_cases hlt2 : j < m
    ·obtain ⟨p, rfl⟩ : ∃ p, j = p + 1 := ⟨j - 1, by omega⟩
     have hsl : (laneS f lk (p + 1)).length = m := by rw [laneS_len f (by rw [HM1.out]; omega), HM1.out]
     have ca := hrw.at (k := p) (by rw [hsl]; omega)
     have cx := hrw.at (k := p + 1) (by rw [hsl]; omega)
     have hpv := laneS_prev f (l := lk) (j := p + 1) (by omega) (by rw [HM1.out]; omega)
     rw [Nat.add_sub_cancel] at hpv
     rw [hpv] at ca
     rw [laneS_cur f (by rw [HM1.out]; omega)] at cx
     obtain ⟨sv, sb⟩ := HST.out (p + 1) (by omega) (by rw [HM1.out]; omega)
     have hv64 := HLV.out (p + 1) (by omega) (by rw [HM1.out]; omega)
     have hx64 := HLD.out (p + 1)
     have hstp := laneS_step f (l := lk) (j := p + 1) (by omega) (by rw [HM1.out]; omega)
     have hf := hrw.fr (p + 1)
     obtain ⟨x, hxe⟩ : ∃ x, lk.getD (p + 1) 0 = x := ⟨_, rfl⟩
     obtain ⟨y, hye⟩ : ∃ y, laneV f lk (p + 1) = y := ⟨_, rfl⟩
     rw [hxe] at cx sv sb hx64 hstp
     rw [hye] at ca sv sb hv64 hstp
     have HXE := Lib.hid hxe; have HYE := Lib.hid hye
     clear hxe hye
     have hcl := fun W (hp : PairAt W P F f (wgB (badL f (lx.take k) || laneB f lk (p + 1)))) => call_any W P F f _ y x hp HTK.out hv64 hx64
     rw [nextE_wg, Bool.or_assoc, ← sb] at hcl
     have HC := Lib.hid hcl; have HSTP := Lib.hid hstp; have HPA := Lib.hid hpa; have HRW := Lib.hid hrw; have HKI := Lib.hid hki
     have hpm : ((p : Int) + 1) < (m : Int) := by omega
     have hpm2 : (p : Int) < (m : Int) := by omega
     have hgP : g10 ≠ P := by omega
     have hp0 : (0 : Int) ≤ (p : Int) := by omega
     have hp1 : (0 : Int) ≤ (p : Int) + 1 := by omega
     have hwp : IntKind.i64.wrap (p : Int) = (p : Int) := IntWalk.i64_in _ (by omega)
     clear hcl sv sb hpa hrw hki hv64 hx64 hstp hpv hsl
     go_upto_region 13 with fail
     refine wp_region_Z (S := fun W' => W'.cell? ⟨g10, p, none⟩ = some (.int .i64 y) ∧ W'.cell? ⟨g10, p + 1, none⟩ = some (.int .i64 x)) (z := 13) (by kernel_rfl) ?_
     have hSS : (fun W' : World => W'.cell? ⟨g10, p, none⟩ = some (.int .i64 y) ∧ W'.cell? ⟨g10, p + 1, none⟩ = some (.int .i64 x)) (World.drew _) := ⟨ca, cx⟩
     refine wpAnyZ_take (i := 0) (v := ?_) rfl (by kernel_rfl) (by kernel_rfl) (by kernel_rfl) (fun _ _ _ h => h) (by kernel_rfl) (Or.inl ⟨by rfl, ?_⟩) (by assumption) ?_
     rotate_left
     ·intro w' hSw
      try dsimp only at hSw
      try obtain ⟨hSw, hSw2⟩ := hSw
      go_simp
      try with_reducible rfl
     show wpAnyZ _ _ _ _ _ _ _ _ (Act.put _ (some 43) _) _
     simp only [Act.put, List.setIfInBounds_toArray, List.set_cons_zero, List.set_cons_succ]
     refine wpAnyZ_take (i := 1) (v := ?_) rfl (by kernel_rfl) (by kernel_rfl) (by kernel_rfl) (fun _ _ _ h => h) (by kernel_rfl) (Or.inl ⟨by rfl, ?_⟩) (by assumption) ?_
     rotate_left
     ·intro w' hSw
      try dsimp only at hSw
      try obtain ⟨hSw, hSw2⟩ := hSw
      go_simp
      try with_reducible rfl
     show wpAnyZ _ _ _ _ _ _ _ _ (Act.put _ (some 44) _) _
     simp only [Act.put, List.setIfInBounds_toArray, List.set_cons_zero, List.set_cons_succ]
     refine wpAnyZ_take (i := 2) (v := ?_) rfl (by kernel_rfl) (by kernel_rfl) (by kernel_rfl) (fun _ _ _ h => h) (by kernel_rfl) (Or.inl ⟨by rfl, ?_⟩) (by assumption) ?_
     rotate_left
     ·intro w' hSw
      try dsimp only at hSw
      try obtain ⟨hSw, hSw2⟩ := hSw
      go_simp
      try with_reducible rfl
     show wpAnyZ _ _ _ _ _ _ _ _ (Act.put _ (some 45) _) _
     simp only [Act.put, List.setIfInBounds_toArray, List.set_cons_zero, List.set_cons_succ]
     refine wpAnyZ_take (i := 3) (v := ?_) rfl (by kernel_rfl) (by kernel_rfl) (by kernel_rfl) (fun _ _ _ h => h) (by kernel_rfl) (Or.inl ⟨by rfl, ?_⟩) (by assumption) ?_
     rotate_left
     ·intro w' hSw
      try dsimp only at hSw
      try obtain ⟨hSw, hSw2⟩ := hSw
      go_simp
      try with_reducible rfl
     show wpAnyZ _ _ _ _ _ _ _ _ (Act.put _ (some 46) _) _
     simp only [Act.put, List.setIfInBounds_toArray, List.set_cons_zero, List.set_cons_succ]
     refine wpAnyZ_take (i := 4) (v := ?_) rfl (by kernel_rfl) (by kernel_rfl) (by kernel_rfl) (fun _ _ _ h => h) (by kernel_rfl) (Or.inl ⟨by rfl, ?_⟩) (by assumption) ?_
     rotate_left
     ·intro w' hSw
      try dsimp only at hSw
      try obtain ⟨hSw, hSw2⟩ := hSw
      go_simp
      try with_reducible rfl
     show wpAnyZ _ _ _ _ _ _ _ _ (Act.put _ (some 47) _) _
     simp only [Act.put, List.setIfInBounds_toArray, List.set_cons_zero, List.set_cons_succ]
     refine wpAnyZ_take (i := 5) (v := ?_) rfl (by kernel_rfl) (by kernel_rfl) (by kernel_rfl) (fun _ _ _ h => h) (by kernel_rfl) (Or.inl ⟨by rfl, ?_⟩) (by assumption) ?_
     rotate_left
     ·intro w' hSw
      try dsimp only at hSw
      try obtain ⟨hSw, hSw2⟩ := hSw
      go_simp
      try with_reducible rfl
     show wpAnyZ _ _ _ _ _ _ _ _ (Act.put _ (some 48) _) _
     simp only [Act.put, List.setIfInBounds_toArray, List.set_cons_zero, List.set_cons_succ]
     refine wpAnyZ_take (i := 6) (v := ?_) rfl (by kernel_rfl) (by kernel_rfl) (by kernel_rfl) (fun _ _ _ h => h) (by kernel_rfl) (Or.inl ⟨by rfl, ?_⟩) (by assumption) ?_
     rotate_left
     ·intro w' hSw
      try dsimp only at hSw
      try obtain ⟨hSw, hSw2⟩ := hSw
      go_simp
      try with_reducible rfl
     show wpAnyZ _ _ _ _ _ _ _ _ (Act.put _ (some 49) _) _
     simp only [Act.put, List.setIfInBounds_toArray, List.set_cons_zero, List.set_cons_succ]
     refine wpAnyZ_take (i := 7) (v := ?_) rfl (by kernel_rfl) (by kernel_rfl) (by kernel_rfl) (fun _ _ _ h => h) (by kernel_rfl) (Or.inl ⟨by rfl, ?_⟩) (by assumption) ?_
     rotate_left
     ·intro w' hSw
      try dsimp only at hSw
      try obtain ⟨hSw, hSw2⟩ := hSw
      go_simp
      try with_reducible rfl
     show wpAnyZ _ _ _ _ _ _ _ _ (Act.put _ (some 50) _) _
     simp only [Act.put, List.setIfInBounds_toArray, List.set_cons_zero, List.set_cons_succ]
     refine wpAnyZ_take (i := 8) (v := ?_) rfl (by kernel_rfl) (by kernel_rfl) (by kernel_rfl) (fun _ _ _ h => h) (by kernel_rfl) (Or.inl ⟨by rfl, ?_⟩) (by assumption) ?_
     rotate_left
     ·intro w' hSw
      try dsimp only at hSw
      try obtain ⟨hSw, hSw2⟩ := hSw
      go_simp
      try with_reducible rfl
     show wpAnyZ _ _ _ _ _ _ _ _ (Act.put _ (some 51) _) _
     simp only [Act.put, List.setIfInBounds_toArray, List.set_cons_zero, List.set_cons_succ]
     refine wpAnyZ_take (i := 9) (v := ?_) rfl (by kernel_rfl) (by kernel_rfl) (by kernel_rfl) (fun _ _ _ h => h) (by kernel_rfl) (Or.inl ⟨by rfl, ?_⟩) (by assumption) ?_
     rotate_left
     ·intro w' hSw
      try dsimp only at hSw
      try obtain ⟨hSw, hSw2⟩ := hSw
      go_simp
      try with_reducible rfl
     show wpAnyZ _ _ _ _ _ _ _ _ (Act.put _ (some 52) _) _
     simp only [Act.put, List.setIfInBounds_toArray, List.set_cons_zero, List.set_cons_succ]
     refine wpAnyZ_take (i := 10) (v := ?_) rfl (by kernel_rfl) (by kernel_rfl) (by kernel_rfl) (fun _ _ _ h => h) (by kernel_rfl) (Or.inl ⟨by rfl, ?_⟩) (by assumption) ?_
     rotate_left
     ·intro w' hSw
      try dsimp only at hSw
      try obtain ⟨hSw, hSw2⟩ := hSw
      go_simp
      try with_reducible rfl
     show wpAnyZ _ _ _ _ _ _ _ _ (Act.put _ (some 53) _) _
     simp only [Act.put, List.setIfInBounds_toArray, List.set_cons_zero, List.set_cons_succ]
     refine wpAnyZ_take (i := 11) (v := ?_) rfl (by kernel_rfl) (by kernel_rfl) (by kernel_rfl) (fun _ _ _ h => h) (by kernel_rfl) (Or.inl ⟨by rfl, ?_⟩) (by assumption) ?_
     rotate_left
     ·intro w' hSw
      try dsimp only at hSw
      try obtain ⟨hSw, hSw2⟩ := hSw
      go_simp
      try with_reducible rfl
     show wpAnyZ _ _ _ _ _ _ _ _ (Act.put _ (some 54) _) _
     simp only [Act.put, List.setIfInBounds_toArray, List.set_cons_zero, List.set_cons_succ]
     clear hSS ca cx hf
     refine wpAnyZ_one (i := 12) (by kernel_rfl) rfl rfl (fun K hK => ?_)
     go_simp
     refine (HC.out _ (HPA.out.below (Below.refl _ _).drew)).mono ?_
     rintro e w5 ⟨rfl, hp5, hk5⟩
     have hpd := HPA.out.below (Below.refl _ _).drew
     have hr5 := (HRW.out.below (Below.refl _ _).drew).call hpd hk5
     have hsl5 : (laneS f lk (p + 1)).length = m := by rw [laneS_len f (by rw [HM1.out]; omega), HM1.out]
     have hf5 := hr5.fr (p + 1)
     have hc5 := hr5.at (k := p + 1) (by rw [hsl5]; omega)
     have hs5 := hr5.set (p + 1) (callV f y x)
     rw [HSTP.out] at hs5
     have HS5 := Lib.hid hs5; have HP5 := Lib.hid (hp5.put (k := p + 1) (z := .int .i64 (callV f y x)) hr5)
     have HK5 := Lib.hid (((HKI.out.drew).trans (hk5.mono (fun g _ e => .inr e))).setCell (p := ⟨g10, p + 1, none⟩) (fun _ => .inl rfl) (.int .i64 (callV f y x)))
     have HF5 := Lib.hid hf5; have HC5 := Lib.hid hc5
     have HCA := Lib.hid (show w5.cell? ⟨g10, p, none⟩ = some (.int .i64 y) ∧ w5.cell? ⟨g10, p + 1, none⟩ = some (.int .i64 x) from by
      have h1 := hr5.at (k := p) (by rw [hsl5]; omega)
      have hpv := laneS_prev f (l := lk) (j := p + 1) (by omega) (by rw [HM1.out]; omega)
      rw [Nat.add_sub_cancel] at hpv
      rw [hpv] at h1
      have h2 := hc5
      rw [laneS_cur f (by rw [HM1.out]; omega)] at h2
      rw [← HYE.out, ← HXE.out]
      exact ⟨h1, h2⟩)
     show K _ w5
     refine hK.out _ _ (.inr HCA.out) ?_
     clear hK hp5 hk5 hpd hr5 hsl5 hf5 hc5 hs5 HC HPA HRW HKI HSTP HCA
     refine wpAnyZ_one (i := 13) (by kernel_rfl) rfl rfl (fun K hK => ?_)
     go_simp
     refine hK.out _ _ (.inl (Nat.le_refl _)) ?_
     clear hK
     refine wpAnyZ_one (i := 14) (by kernel_rfl) rfl rfl (fun K hK => ?_)
     have hf5 := HF5.out; have hc5 := HC5.out
     go_simp
     refine hK.out _ _ (.inl (by omega)) ?_
     clear hK hf5 hc5 HF5 HC5
     refine wpAnyZ_done (by kernel_rfl) ?_ _
     go_wp2_with fail
     go_roundw
     case rel => exact ⟨p + 2, by omega, by omega, by go_num, HK5.out, HP5.out, HS5.out⟩
     case measure => simp [intOf] <;> omega
    ·obtain rfl : j = m := by omega
     have hla := (laneV_all f lk).2
     have hall := laneS_all f lk
     rw [HM1.out] at hla hall
     rw [hall] at hrw
     rw [hla, ← HBS.out] at hpa
     have HPA := Lib.hid hpa
     have HRW := Lib.hid (HSET.out _ _ hki (fun g hg => by
      rcases hg with rfl | rfl
      ·exact .inl rfl
      ·exact .inr hPB) hrw)
     have HO9 := Lib.hid (HOR.out.kb hki (fun g hg => by omega))
     clear hla hall hpa hrw hki
     go_wp2_with fail
     go_roundw
     case rel => exact ⟨k + 1, by omega, by go_num, HO9.out, HPA.out, HRW.out⟩
     case measure => simp [intOf] <;> omega
  ·obtain rfl : k = n := by omega
   have hall : lx.take k = lx := List.take_of_length_le (by rw [HLN.out]; exact Nat.le_refl _)
   have hfin : (lx.take k).map (scanR f) ++ lx.drop k = lx.map (scanR f) := by rw [hall, List.drop_eq_nil_of_le (by rw [HLN.out]; exact Nat.le_refl _), List.append_nil]
   rw [hfin] at hrw
   rw [hall] at hpa
   have hfl : ((lx.map (scanR f)).flatten).length = d.length := by rw [scanR_flat_len, HLX.out.flat]
   have hcl := clone_any _ a0 c0 s (by omega) (H0.out.below hO.b (Nat.le_refl _))
   have HC := Lib.hid hcl; have HOR := Lib.hid hO; have HPA := Lib.hid hpa; have HRW := Lib.hid hrw; have HFL := Lib.hid hfl
   have x0 := hO.c0
   clear hcl hO hpa hrw hfl hfin hall hlt
   go_wp2_with fail
   refine HC.out.mono ?_
   rintro e w5 ⟨⟨v5, rfl, hv5⟩, hb5⟩
   have HO5 := Lib.hid (HOR.out.next hb5); have HP5 := Lib.hid (HPA.out.below hb5); have HR5 := Lib.hid (HRW.out.below hb5)
   have HV5 := Lib.hid (hv5.mono (B' := w.heap.size) HOR.out.b.size)
   obtain ⟨a5, c5, rfl, -, -⟩ := hv5.slice
   have hq := concat_any w5 a15 c15 k d.length (lx.map (scanR f)) (by rw [List.length_map, HLN.out]) (by omega) HFL.out (by omega) HR5.out.rows
   clear HC
   have HC := Lib.hid hq
   clear hq hv5 hb5 HOR HPA HRW x0
   go_wp2_with fail
   refine HC.out.mono ?_
   rintro e w6 ⟨v6, rfl, hv6, hb6⟩
   have HO6 := Lib.hid (HO5.out.next hb6)
   have hap := Apart.of_rows HV5.out hv6
   have hq := done_any w6 w.heap.size P F f _ (HP5.out.below hb6) s _ _ v6 HO6.out.b.size (HV5.out.below hb6) (hv6.mono HO5.out.b.size) hap
   rw [show doneA (wgB (badL f lx)) s ((lx.map (scanR f)).flatten) = r from HRR.out] at hq
   have HQ := Lib.hid hq; have HR := Lib.hid HO6.out.r; have HB := Lib.hid HO6.out.b
   obtain ⟨a6, c6, e6, -, -⟩ := hv6.slice
   rw [HFL.out] at e6
   subst e6
   clear hq hv6 hb6 hap HC HO5 HP5 HR5 HV5
   go_wp2_with fail
   refine (Hid.out HQ).mono ?_
   rintro e w9 ⟨⟨v9, u9, rfl, hv9, hu9, hap9⟩, hb9⟩
   have hR9 := block_below (Hid.out HR) hb9
   have HV9 := Lib.hid hv9; have HU9 := Lib.hid hu9; have HAP9 := Lib.hid hap9; have HR9 := Lib.hid hR9
   have HB9 := Lib.hid (bNext hb9 (Hid.out HB))
   obtain ⟨a9, c9, rfl, -, -⟩ := RowI.slice hv9
   obtain ⟨a8, c8, rfl, -, -⟩ := RowI.slice hu9
   have g0 := cell_of_row w9 _ 0 _ _ _ hR9; have g1 := cell_of_row w9 _ 1 _ _ _ hR9
   have z0 := frozen_of_row w9 _ 0 _ _ hR9; have z1 := frozen_of_row w9 _ 1 _ _ hR9
   clear hv9 hu9 hap9 hb9 hR9
   go_wp2_with fail
   exact fin_arr rfl rfl rfl HR9.out HV9.out HU9.out HAP9.out HB9.out (by omega)
theorem ps_any (w : World) (f : Int) (v u : Value) (s d : List Int) (hs : SlA w v s) (hd : SlA w u d) :
  Calls Tryz.prog 97 #[.int .u8 f, .agg #[v, u]] w fun e w' => RetArr w.heap.size (scanA f s d) e w' ∧ Below w.heap.size w w' := by
 cases hr : right s d with
 | false => exact retB' (ps_bad w f v u s d hs hd hr) (by unfold scanA; rw [hr]; rfl)
 | true =>
  cases ht : takes f true with
  | false => exact retB' (ps_no w f v u s d hs hd hr ht) (by unfold scanA; rw [hr, ht]; rfl)
  | true =>
   obtain ⟨lx, hl⟩ := lane_facts hr
   rw [scanA_eq hr ht hl]
   exact ps_lanes w f v u s d hs hd hr ht lx hl
end Go.Proofs.YtokghjnkfabgiaaGreatDoor
