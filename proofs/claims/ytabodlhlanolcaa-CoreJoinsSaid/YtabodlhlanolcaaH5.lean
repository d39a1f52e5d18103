/-
  CoreJoins: the law returns true for every input, and what was handed in reads as it did. No condition.
-/
import Derived.Test.YtabodlhlanolcaaUU
import Derived.Test.YtabodlhlanolcaaA32
namespace Go.Proofs.Ytabodlhlanolcaa
set_option maxRecDepth 100000
open Go.ChangeShapes Go.WideShapes Go.ChangeAt Go.RowKit Go.Joins
set_option linter.unusedVariables false
set_option linter.unusedSimpArgs false

theorem Try.infoOpU : (Try.prog.info? 48).map (fun i => (i.zero, i.size, i.bytes)) = some (some (.agg #[.int .i64 0, .int .i64 0, .int .i64 0, .slice none 0 0, .int .u8 0]), 5, 56) := by kernel_rfl
theorem any_take {us : List Int} {m : Nat} (x : Int) (h : m < us.length) : ((us.take (m + 1)).any fun u => u == x) = (((us.take m).any fun u => u == x) || us[m] == x) := by
  rw [List.take_succ_eq_append_getElem h, List.any_append]; simp
theorem any_mem {us : List Int} {x : Int} (h : x ∈ us) : (us.any fun u => u == x) = true := List.any_eq_true.2 ⟨x, h, by simp⟩
structure JIn (w W : World) (G : Nat) (av bv : Value) (ua : Option Addr) (us : List Int) (al : Option Addr) (all : List Cop) : Prop where
  below : Below w.heap.size w W
  g0 : W.cell? ⟨G, 0, none⟩ = some av
  g1 : W.cell? ⟨G, 1, none⟩ = some bv
  us : IntsAt .i64 W ua us
  all : copRep.Els W al all
theorem JIn.next {w W W' : World} {G : Nat} {av bv : Value} {ua : Option Addr} {us : List Int} {al : Option Addr} {all : List Cop} (h : JIn w W G av bv ua us al all) (hb : Below W.heap.size W W') : JIn w W' G av bv ua us al all :=
  ⟨bNext hb h.below, keepCell hb h.g0, keepCell hb h.g1, h.us.below hb (Nat.le_refl _), h.all.below _ hb (Nat.le_refl _)⟩
theorem jIn_new {w W : World} {av bv : Value} {ua : Option Addr} {us : List Int} {al : Option Addr} {all : List Cop} (hb : Below w.heap.size w W) (hu : IntsAt .i64 W ua us) (ha : copRep.Els W al all) : JIn w (W.alloc (.cells #[av, bv] 42)) W.heap.size av bv ua us al all := by
  have n0 := World.alloc_heap_new W (.cells #[av, bv] 42)
  have g0 := blockCells (cs := [av, bv]) n0
  have hb1 : Below W.heap.size W (W.alloc (.cells #[av, bv] 42)) := (Below.refl _ _).alloc (Nat.le_refl _) _
  exact ⟨bNext hb1 hb, g0 0, g0 1, hu.below hb1 (Nat.le_refl _), ha.below _ hb1 (Nat.le_refl _)⟩
set_option maxRecDepth 1000000 in
set_option maxHeartbeats 64000000 in
theorem CoreJoins_walk (w : World) (v0 : Value) (a : List Cop) (v1 : Value) (b : List Cop) (f : Int) (q0 : copRep.Sl w v0 a) (q1 : copRep.Sl w v1 b) (wf : (Lit.int .u8 f).wf = true) :
    Calls Try.prog 8 #[v0, v1, .int .u8 f] w fun e w' => e = .returned (.bool true) ∧ Below w.heap.size w w' := by
  obtain ⟨pa, ac, rfl, a1, a2, a3, ha⟩ := q0
  obtain ⟨pb, bc, rfl, b1, b2, b3, hb⟩ := q1
  obtain ⟨csA, hcA, hsA⟩ := ha.cs (R := copRep) (n := a.length) (c := ac) (by decide) rfl (fun e => by have := a3 e; omega)
  obtain ⟨csB, hcB, hsB⟩ := hb.cs (R := copRep) (n := b.length) (c := bc) (by decide) rfl (fun e => by have := b3 e; omega)
  have HA := Lib.hid ha; have HB := Lib.hid hb; have HCA := Lib.hid hcA; have HSA := Lib.hid hsA; have HCB := Lib.hid hcB; have HSB := Lib.hid hsB
  obtain ⟨i0, hi, hz0, hz1, hz2⟩ := info_parts Try.infoOpU
  have Hi := Lib.hid hi; have Hz0 := Lib.hid hz0; have Hz1 := Lib.hid hz1; have Hz2 := Lib.hid hz2
  have HF := Lib.hid (bounds_u8 wf)
  clear ha hb hcA hsA hcB hsB a1 a2 a3 b1 b2 b3 hi hz0 hz1 hz2 wf
  go_enter Try.func8, Try.ntmps8
  go_wp2_with fail
  refine (shown_any _).mono ?_
  rintro e w1 ⟨rfl, hb1⟩
  have HB1 := Lib.hid hb1
  clear hb1
  by_cases la : a.length ≤ 1000
  · have la' : decide ((1000 : Int) < (a.length : Int)) = false := by rw [decide_eq_false_iff_not]; omega
    have laI : (a.length : Int) ≤ 1000 := by omega
    by_cases lb : b.length ≤ 1000
    · have lb' : decide ((1000 : Int) < (b.length : Int)) = false := by rw [decide_eq_false_iff_not]; omega
      have lbI : (b.length : Int) ≤ 1000 := by omega
      have hda := depth_any w1 pa ac a (HA.out.below copRep HB1.out (Nat.le_refl _)) (by omega)
      have hna := @depth_neg a; have hra := @depth_run a; have hja := fun hx => @depth_join a b hx
      obtain ⟨x, hx⟩ : ∃ x, depthI a = x := ⟨_, rfl⟩
      rw [hx] at hda hna hra hja
      have HDA := Lib.hid hda
      clear hda
      go_wp2_with fail
      refine HDA.out.mono ?_
      rintro e w2 ⟨rfl, hb2⟩
      have HB2 := Lib.hid (bNext hb2 HB1.out)
      clear hb2 HDA HB1
      have hdb := depth_any w2 pb bc b (HB.out.below copRep HB2.out (Nat.le_refl _)) (by omega)
      have hnb := @depth_neg b; have hrb := @depth_run b
      obtain ⟨y, hy⟩ : ∃ y, depthI b = y := ⟨_, rfl⟩
      rw [hy] at hdb hnb hrb hja
      have HDB := Lib.hid hdb; have HNA := Lib.hid hna; have HNB := Lib.hid hnb; have HRA := Lib.hid hra; have HRB := Lib.hid hrb; have HJA := Lib.hid hja
      clear hdb hna hnb hra hrb hja hx hy
      go_wp2_with fail
      refine HDB.out.mono ?_
      rintro e w3 ⟨rfl, hb3⟩
      have HB3 := Lib.hid (bNext hb3 HB2.out)
      clear hb3 HDB HB2
      have hs3 := HB3.out.size
      go_wp2_with (at_builtin; (refine wpList_append_src _ rfl _ _ 42 rfl w.heap.size 48 i0 _ 5 56 Try.underlying42 Hi.out Hz0.out Hz1.out Hz2.out rfl (by decide) _ 0 [] rfl (World.ownsRow_lit w3 #[] 0 hs3 (Nat.zero_le _) rfl) _ a.length csA rfl (HSA.out.below (HB3.out.alloc hs3 _)) HCA.out.len HCA.out.one (by unfold maxLen; omega) (by omega) (by simp; omega) ?_))
      intro u1 w4 hown hg _
      have HB4 := Lib.hid ((HB3.out.alloc hs3 _).grown hg (by simp; omega) (fun j hj => by cases hj; exact hs3))
      have HO4 := Lib.hid hown
      clear hown hg
      go_wp2_with (at_builtin; (refine wpList_append_src _ rfl _ _ 42 rfl w.heap.size 48 i0 _ 5 56 Try.underlying42 Hi.out Hz0.out Hz1.out Hz2.out rfl (by decide) _ a.length csA rfl HO4.out _ b.length csB rfl (HSB.out.below HB4.out) HCB.out.len HCB.out.one (by unfold maxLen; omega) (by omega) HB4.out.size ?_))
      intro u2 w5 hown hg _
      have HB5 := Lib.hid (HB4.out.grown hg HB4.out.size (fun j hj => (World.ownsRow.lt HO4.out j hj).1))
      have HO5 := Lib.hid hown
      clear hown hg
      go_wp2_with (at_builtin; (refine wpList_append_src _ rfl _ _ 42 rfl w.heap.size 48 i0 _ 5 56 Try.underlying42 Hi.out Hz0.out Hz1.out Hz2.out rfl (by decide) _ (a.length + b.length) (csA ++ csB) rfl (HO5.out.alloc _) _ 1 [.int .i64 6, .int .i64 0, .int .i64 0, .slice none 0 0, .int .u8 f] rfl (src_lit _ _ _ _ _ _ (by simp) rfl) rfl ?h1 (by unfold maxLen; omega) (by omega) (by have := HB5.out.size; simp; omega) ?_))
      case h1 => intro u hu; simp at hu; rcases hu with rfl | rfl | rfl | rfl <;> rfl
      intro u3 w6 hown hg _
      have hb6 : Below w.heap.size w w6 := (HB5.out.alloc HB5.out.size _).grown hg (by have := HB5.out.size; simp; omega) (fun j hj => (World.ownsRow.lt HO5.out j hj).1)
      have hcs : copRep.Cs w6 (csA ++ csB ++ [.int .i64 6, .int .i64 0, .int .i64 0, .slice none 0 0, .int .u8 f]) (a ++ b ++ [dyO f]) :=
        Rep.Cs.append (Rep.Cs.single (copCs_at w6 (dyO f) rfl (by show (-9223372036854775808 : Int) ≤ 6 ∧ (6 : Int) ≤ 9223372036854775807; decide) (by show (-9223372036854775808 : Int) ≤ 0 ∧ (0 : Int) ≤ 9223372036854775807; decide) (by show (-9223372036854775808 : Int) ≤ 0 ∧ (0 : Int) ≤ 9223372036854775807; decide) HF.out)) (Rep.Cs.append (HCB.out.keep hb6) (HCA.out.keep hb6))
      have hall : (a ++ b ++ [dyO f]).length = a.length + b.length + 1 := by simp; omega
      rw [← List.append_assoc] at hown
      obtain ⟨al, alc, rfl, hel⟩ := hcs.els (w := w6) hown hall.symm
      have HEL := Lib.hid hel; have HB6 := Lib.hid hb6
      clear hown hg hb6 hcs hel HO4 HO5 HB4 HB5 HB3 hs3
      by_cases hx0 : x < 0
      · have hx1 := HNA.out hx0
        subst hx1
        by_cases hy0 : y < 0
        · have hy1 := HNB.out hy0
          subst hy1
          clear hx0 hy0
          go_wp2_with fail
          go_ret
          exact ⟨rfl, HB6.out⟩
        · have hy' : decide (y < 0) = false := by simpa using hy0
          have hy'' : decide (0 ≤ y) = true := by simpa using hy0
          have hyI : 0 ≤ y := by omega
          clear hx0 hy0
          go_wp2_with fail
          go_ret
          exact ⟨rfl, HB6.out⟩
      · have hx' : decide (x < 0) = false := by simpa using hx0
        have hx'' : decide (0 ≤ x) = true := by simpa using hx0
        have hxI : 0 ≤ x := by omega
        by_cases hy0 : y < 0
        · have hy1 := HNB.out hy0
          subst hy1
          clear hx0 hy0
          go_wp2_with fail
          go_ret
          exact ⟨rfl, HB6.out⟩
        · have hy' : decide (y < 0) = false := by simpa using hy0
          have hyI : 0 ≤ y := by omega
          have HDJ := Lib.hid (HJA.out hxI hyI f)
          have HTJ := Lib.hid (tot_join a b f)
          have HUL := Lib.hid (fun u => @uses_left a b f u); have HUR := Lib.hid (fun u => @uses_right a b f u); have HUS := Lib.hid (uses_sum a b f)
          obtain ⟨-, hx1, hxl⟩ := HRA.out hxI
          obtain ⟨-, hy1, hyl⟩ := HRB.out hyI
          generalize a ++ b ++ [dyO f] = all at HEL HDJ HTJ HUL HUR HUS hall
          have hcu := cuses_any w6 al alc all HEL.out (by omega)
          rw [hall] at hcu
          have hul := uses_len all
          have hula := uses_len a; have hulb := uses_len b
          have HCU := Lib.hid hcu
          clear hcu HJA HRA HRB HNA HNB hx0 hy0 hx'
          go_wp2_with fail
          refine HCU.out.mono ?_
          rintro e w7 ⟨ua, uc, rfl, hui, hb7⟩
          generalize usesS all = us at HUL HUR HUS hul hui ⊢
          have HJ := Lib.hid (jIn_new (av := .slice pa a.length ac) (bv := .slice pb b.length bc) (bNext hb7 HB6.out) hui (HEL.out.below copRep hb7 (Nat.le_refl _)))
          obtain ⟨G, hG⟩ : ∃ G, w7.heap.size = G := ⟨_, rfl⟩
          rw [hG] at HJ
          clear hui hb7 HCU HB6 HEL
          go_upto_region 10 with fail
          refine gen_worldA (fun W => JIn w W G (.slice pa a.length ac) (.slice pb b.length bc) ua us al all) HJ.out ?_
          clear HJ hG
          intro W hj
          have HJ := Lib.hid hj
          clear hj
          go_loopw [72] (fun i wr => ∃ k : Nat, k ≤ 2 ∧ i = .int .i64 k ∧ JIn w wr G (.slice pa a.length ac) (.slice pb b.length bc) ua us al all) (fun i _ => 2 - (intOf i).toNat)
          case atStart => exact ⟨0, by omega, rfl, HJ.out⟩
          case round =>
            clear HJ
            obtain ⟨k, hk, rfl, hj⟩ := hrel
            have HJ := Lib.hid hj
            by_cases hlt : k < 2
            · obtain ⟨xs, px, xc, cx, hxe, hsub, hxl⟩ : ∃ xs px xc, wr.cell? ⟨G, k, none⟩ = some (.slice px xs.length xc) ∧ copRep.Els w px xs ∧ (∀ u ∈ usesS xs, u ∈ us) ∧ xs.length ≤ 1000 := by
                match k, hlt with
                | 0, _ => exact ⟨a, pa, ac, hj.g0, HA.out, fun u hu => HUL.out u hu, la⟩
                | 1, _ => exact ⟨b, pb, bc, hj.g1, HB.out, fun u hu => HUR.out u hu, lb⟩
              have hcu := cuses_any wr px xc xs (hxe.below copRep hj.below (Nat.le_refl _)) (by omega)
              have hxu := uses_len xs
              have HCU := Lib.hid hcu; have HSUB := Lib.hid hsub
              have hk0 : (0 : Int) ≤ (k : Int) := by omega
              have hk1 : (k : Int) < 2 := by omega
              clear hcu hxe hsub hj
              go_wp2_with fail
              refine HCU.out.mono ?_
              rintro e wu ⟨xa, xac, rfl, hxi, hbu⟩
              have HJ2 := Lib.hid (HJ.out.next hbu)
              generalize usesS xs = xu at HSUB hxi hxu ⊢
              have HXI := Lib.hid hxi
              clear hxi hbu HCU HJ cx
              go_wp2_with fail
              go_loop [79] (fun j => ∃ m : Nat, m ≤ xu.length ∧ j = .int .i64 m) (fun j => xu.length - (intOf j).toNat)
              case atStart => exact ⟨0, Nat.zero_le _, rfl⟩
              case round =>
                obtain ⟨m, hm, rfl⟩ := hrel
                by_cases hml : m < xu.length
                · obtain ⟨bx, ox, rfl, x0⟩ := HXI.out m hml
                  have hin := HSUB.out xu[m] (List.getElem_mem hml)
                  obtain ⟨x1, hx1'⟩ : ∃ x1, xu[m] = x1 := ⟨_, rfl⟩
                  rw [hx1'] at x0 hin
                  have HMEM := Lib.hid (any_mem hin)
                  have hm0 : (0 : Int) ≤ (m : Int) := by omega
                  have hm1 : (m : Int) < (xu.length : Int) := by omega
                  clear hin hx1'
                  go_wp2_with fail
                  go_loop [16, 85] (fun is j => ∃ n : Nat, n ≤ us.length ∧ j = .int .i64 n ∧ is = .bool ((us.take n).any fun u => u == x1)) (fun _ j => us.length - (intOf j).toNat)
                  case atStart => exact ⟨0, Nat.zero_le _, rfl, rfl⟩
                  case round =>
                    obtain ⟨n, hn, rfl, rfl⟩ := hrel
                    by_cases hnl : n < us.length
                    · obtain ⟨bu, ou, rfl, y0⟩ := HJ2.out.us n hnl
                      have hat := any_take x1 hnl
                      obtain ⟨u1, hu1⟩ : ∃ u1, us[n] = u1 := ⟨_, rfl⟩
                      rw [hu1] at y0 hat
                      have hn0 : (0 : Int) ≤ (n : Int) := by omega
                      have hn1 : (n : Int) < (us.length : Int) := by omega
                      generalize ((us.take n).any fun u => u == x1) = is at hat ⊢
                      have HAT := Lib.hid hat
                      clear hat hu1
                      cases is with
                      | true =>
                        go_wp2_with fail
                        go_round
                        case rel => exact ⟨n + 1, by omega, by go_num, by rw [HAT.out]; rfl⟩
                        case measure => simp [intOf]; omega
                      | false =>
                        go_wp2_with fail
                        go_round
                        case rel => exact ⟨n + 1, by omega, by go_num, by rw [HAT.out, Bool.false_or]⟩
                        case measure => simp [intOf]; omega
                    · obtain rfl : n = us.length := by omega
                      rw [List.take_length, HMEM.out]
                      go_wp2_with fail
                      go_round
                      case rel => exact ⟨m + 1, by omega, by go_num⟩
                      case measure => simp [intOf]; omega
                · obtain rfl : m = xu.length := by omega
                  go_wp2_with fail
                  go_roundw
                  case rel => exact ⟨k + 1, by omega, by go_num, HJ2.out⟩
                  case measure => simp [intOf]; omega
            · obtain rfl : k = 2 := by omega
              have hta := ctotal_any wr al alc all hj.all (by unfold maxLen; omega)
              rw [hall, HTJ.out] at hta
              have h2a := fun W hB => ctotal_any W pa ac a (HA.out.below copRep (w' := W) (B := w.heap.size) hB (Nat.le_refl _)) (by unfold maxLen; omega)
              have h2b := fun W hB => ctotal_any W pb bc b (HB.out.below copRep (w' := W) (B := w.heap.size) hB (Nat.le_refl _)) (by unfold maxLen; omega)
              have h2f := fun W => total_any W f true
              generalize totS a = ta at hta h2a
              generalize totS b = tb at hta h2b
              generalize totalB f true = tf at hta h2f
              have HTA := Lib.hid hta; have H2A := Lib.hid h2a; have H2B := Lib.hid h2b; have H2F := Lib.hid h2f
              clear hta h2a h2b h2f hj HTJ
              cases ta with
              | false =>
                go_wp2_with fail
                refine HTA.out.mono ?_
                rintro e wa ⟨rfl, hba⟩
                have HJA2 := Lib.hid (HJ.out.next hba)
                clear hba HTA HJ
                go_wp2_with fail
                refine (H2A.out _ HJA2.out.below).mono ?_
                rintro e wt ⟨rfl, hbt⟩
                have HJT := Lib.hid (HJA2.out.next hbt)
                clear hbt HJA2
                have hd := depth_any wt al alc all HJT.out.all (by omega)
                rw [hall, HDJ.out] at hd
                have hyB : y ≤ 1000 := by omega
                have hxB : x ≤ 1000 := by omega
                clear hxl hyl HDJ
                obtain ⟨z, rfl⟩ : ∃ z, y = z - 1 := ⟨y + 1, by omega⟩
                rw [show z - 1 + 1 = z from by omega] at hd
                have hz1 : 2 ≤ z := by omega
                have hz2 : z ≤ 1001 := by omega
                have hx1d : decide (1 ≤ x) = true := by simpa using hx1
                clear hyB hy1 hy' hyI hx'' hxI
                have HD := Lib.hid hd
                have HLA := Lib.hid hula; have HLB := Lib.hid hulb
                clear hd hall hula hulb hul
                go_wp2_with fail
                refine HD.out.mono ?_
                rintro e wd ⟨rfl, hbd⟩
                have HJD := Lib.hid (HJT.out.next hbd)
                have hca := cuses_any wd pa ac a (HA.out.below copRep HJD.out.below (Nat.le_refl _)) (by omega)
                have HCA2 := Lib.hid hca
                clear hbd HD HJT hca
                go_wp2_with fail
                refine HCA2.out.mono ?_
                rintro e we ⟨xa, xac, rfl, hxi, hbe⟩
                have HJE := Lib.hid (HJD.out.next hbe)
                have hcb := cuses_any we pb bc b (HB.out.below copRep HJE.out.below (Nat.le_refl _)) (by omega)
                have HCB2 := Lib.hid hcb
                clear hxi hbe HCA2 HJD hcb
                go_wp2_with fail
                refine HCB2.out.mono ?_
                rintro e wf ⟨xb, xbc, rfl, hxi, hbf⟩
                have HBF := Lib.hid (HJE.out.next hbf).below
                clear hxi hbf HCB2 HJE
                have hus := HUS.out
                have hula := HLA.out
                have hulb := HLB.out
                clear HLA HLB
                generalize usesS a = ua1 at hus hula ⊢
                generalize usesS b = ub1 at hus hulb ⊢
                have hsI : (us.length : Int) ≤ (ua1.length : Int) + (ub1.length : Int) := by omega
                have hA : (ua1.length : Int) ≤ 1000 := by omega
                have hB : (ub1.length : Int) ≤ 1000 := by omega
                clear hus hula hulb
                go_wp2_with fail
                go_ret
                exact ⟨ret_bool (by simp <;> omega), HBF.out⟩
                skip
              | true =>
                go_wp2_with fail
                refine HTA.out.mono ?_
                rintro e wa ⟨rfl, hba⟩
                have HJA2 := Lib.hid (HJ.out.next hba)
                clear hba HTA HJ
                go_wp2_with fail
                refine (H2A.out _ HJA2.out.below).mono ?_
                rintro e wb ⟨rfl, hbt⟩
                have HJB2 := Lib.hid (HJA2.out.next hbt)
                clear hbt HJA2
                cases tb with
                | false =>
                  go_wp2_with fail
                  refine (H2B.out _ HJB2.out.below).mono ?_
                  rintro e wt ⟨rfl, hbt⟩
                  have HJT := Lib.hid (HJB2.out.next hbt)
                  clear hbt HJB2
                  have hd := depth_any wt al alc all HJT.out.all (by omega)
                  rw [hall, HDJ.out] at hd
                  have hyB : y ≤ 1000 := by omega
                  have hxB : x ≤ 1000 := by omega
                  clear hxl hyl HDJ
                  obtain ⟨z, rfl⟩ : ∃ z, y = z - 1 := ⟨y + 1, by omega⟩
                  rw [show z - 1 + 1 = z from by omega] at hd
                  have hz1 : 2 ≤ z := by omega
                  have hz2 : z ≤ 1001 := by omega
                  have hx1d : decide (1 ≤ x) = true := by simpa using hx1
                  clear hyB hy1 hy' hyI hx'' hxI
                  have HD := Lib.hid hd
                  have HLA := Lib.hid hula; have HLB := Lib.hid hulb
                  clear hd hall hula hulb hul
                  go_wp2_with fail
                  refine HD.out.mono ?_
                  rintro e wd ⟨rfl, hbd⟩
                  have HJD := Lib.hid (HJT.out.next hbd)
                  have hca := cuses_any wd pa ac a (HA.out.below copRep HJD.out.below (Nat.le_refl _)) (by omega)
                  have HCA2 := Lib.hid hca
                  clear hbd HD HJT hca
                  go_wp2_with fail
                  refine HCA2.out.mono ?_
                  rintro e we ⟨xa, xac, rfl, hxi, hbe⟩
                  have HJE := Lib.hid (HJD.out.next hbe)
                  have hcb := cuses_any we pb bc b (HB.out.below copRep HJE.out.below (Nat.le_refl _)) (by omega)
                  have HCB2 := Lib.hid hcb
                  clear hxi hbe HCA2 HJD hcb
                  go_wp2_with fail
                  refine HCB2.out.mono ?_
                  rintro e wf ⟨xb, xbc, rfl, hxi, hbf⟩
                  have HBF := Lib.hid (HJE.out.next hbf).below
                  clear hxi hbf HCB2 HJE
                  have hus := HUS.out
                  have hula := HLA.out
                  have hulb := HLB.out
                  clear HLA HLB
                  generalize usesS a = ua1 at hus hula ⊢
                  generalize usesS b = ub1 at hus hulb ⊢
                  have hsI : (us.length : Int) ≤ (ua1.length : Int) + (ub1.length : Int) := by omega
                  have hA : (ua1.length : Int) ≤ 1000 := by omega
                  have hB : (ub1.length : Int) ≤ 1000 := by omega
                  clear hus hula hulb
                  go_wp2_with fail
                  go_ret
                  exact ⟨ret_bool (by simp <;> omega), HBF.out⟩
                  skip
                | true =>
                  go_wp2_with fail
                  refine (H2B.out _ HJB2.out.below).mono ?_
                  rintro e wc ⟨rfl, hbt⟩
                  have HJC2 := Lib.hid (HJB2.out.next hbt)
                  clear hbt HJB2
                  go_wp2_with fail
                  refine (H2F.out _).mono ?_
                  rintro e wt ⟨rfl, hdt⟩
                  have HJT := Lib.hid (HJC2.out.next hdt.below)
                  clear hdt HJC2
                  cases tf
                  all_goals
                    have hd := depth_any wt al alc all HJT.out.all (by omega)
                    rw [hall, HDJ.out] at hd
                    have hyB : y ≤ 1000 := by omega
                    have hxB : x ≤ 1000 := by omega
                    clear hxl hyl HDJ
                    obtain ⟨z, rfl⟩ : ∃ z, y = z - 1 := ⟨y + 1, by omega⟩
                    rw [show z - 1 + 1 = z from by omega] at hd
                    have hz1 : 2 ≤ z := by omega
                    have hz2 : z ≤ 1001 := by omega
                    have hx1d : decide (1 ≤ x) = true := by simpa using hx1
                    clear hyB hy1 hy' hyI hx'' hxI
                    have HD := Lib.hid hd
                    have HLA := Lib.hid hula; have HLB := Lib.hid hulb
                    clear hd hall hula hulb hul
                    go_wp2_with fail
                    refine HD.out.mono ?_
                    rintro e wd ⟨rfl, hbd⟩
                    have HJD := Lib.hid (HJT.out.next hbd)
                    have hca := cuses_any wd pa ac a (HA.out.below copRep HJD.out.below (Nat.le_refl _)) (by omega)
                    have HCA2 := Lib.hid hca
                    clear hbd HD HJT hca
                    go_wp2_with fail
                    refine HCA2.out.mono ?_
                    rintro e we ⟨xa, xac, rfl, hxi, hbe⟩
                    have HJE := Lib.hid (HJD.out.next hbe)
                    have hcb := cuses_any we pb bc b (HB.out.below copRep HJE.out.below (Nat.le_refl _)) (by omega)
                    have HCB2 := Lib.hid hcb
                    clear hxi hbe HCA2 HJD hcb
                    go_wp2_with fail
                    refine HCB2.out.mono ?_
                    rintro e wf ⟨xb, xbc, rfl, hxi, hbf⟩
                    have HBF := Lib.hid (HJE.out.next hbf).below
                    clear hxi hbf HCB2 HJE
                    have hus := HUS.out
                    have hula := HLA.out
                    have hulb := HLB.out
                    clear HLA HLB
                    generalize usesS a = ua1 at hus hula ⊢
                    generalize usesS b = ub1 at hus hulb ⊢
                    have hsI : (us.length : Int) ≤ (ua1.length : Int) + (ub1.length : Int) := by omega
                    have hA : (ua1.length : Int) ≤ 1000 := by omega
                    have hB : (ub1.length : Int) ≤ 1000 := by omega
                    clear hus hula hulb
                    go_wp2_with fail
                    go_ret
                    exact ⟨ret_bool (by simp <;> omega), HBF.out⟩
                    skip
    · have lb' : decide ((1000 : Int) < (b.length : Int)) = true := by rw [decide_eq_true_iff]; omega
      go_wp2_with fail
      go_ret
      exact ⟨rfl, HB1.out⟩
  · have la' : decide ((1000 : Int) < (a.length : Int)) = true := by rw [decide_eq_true_iff]; omega
    go_wp2_with fail
    go_ret
    exact ⟨rfl, HB1.out⟩

set_option maxRecDepth 100000 in
theorem CoreJoins_lifted (os : Os) (started : os.Started) (H : Type) (enc : TypeId × Value → H) :
    ReturnsInHanded {} Try.checked os 8 .any (Rows.coreJoinsSpec.pre6 enc Try.prog Try.f8 Rows.coreJoinsRow.domain false) (Rows.coreJoinsSpec.post enc Try.prog Try.f8 false true false false) := by
  refine returnsInHanded_of_change (C := Try.checked) own started (by kernel_rfl) Try.func8
    (ChangeSpec.witness6 (enc := enc) (C := Try.checked) false ⟨#[], #[.slice none 0 0, .slice none 0 0, .int .u8 0], []⟩ 8 (by kernel_rfl) (by kernel_rfl) (by kernel_rfl) (by kernel_rfl)) ?_
  intro W base args ds gs before hval0 hW hcnd _
  have hval : ∀ (j : Nat) t v, Try.f8.params[j]? = some t → args[j]? = some v → Value.okWide Try.prog W .any base t v := hval0
  have hW' := hW
  obtain ⟨p, q, hA0, hV, rfl, hfz, hnd⟩ := hW
  have hA : DataW.TrodAll enc Try.prog W 0 (fun _ => true) true Try.f8.params.toList args.toList ds p := hA0
  rw [Try.params8] at hA hval
  obtain ⟨v0, vs0, d0, ds0, p0, q0, hargs, rfl, rfl, h0, r0⟩ := trodAll_cons hA
  obtain ⟨v1, vs1, d1, ds1, p1, q1, rfl, rfl, rfl, h1, r1⟩ := trodAll_cons r0
  obtain ⟨v2, vs2, d2, ds2, p2, q2, rfl, rfl, rfl, h2, r2⟩ := trodAll_cons r1
  obtain ⟨rfl, rfl, rfl⟩ := trodAll_nil r2
  obtain rfl : args = #[v0, v1, v2] := by cases args; simp_all
  obtain ⟨rfl, rfl⟩ := trodVars_none hV
  have k0 := h0
  have lt0 : ∀ x ∈ p0, x.block < W.heap.size := by obtain ⟨m, hm⟩ := k0; exact DataW.trod_lt m _ _ _ hm
  obtain ⟨xs0, s0⟩ := opens_sl Try.underlying42 opens_cops (hval 0 42 v0 rfl rfl) h0
  have k1 := h1
  have lt1 : ∀ x ∈ p1, x.block < W.heap.size := by obtain ⟨m, hm⟩ := k1; exact DataW.trod_lt m _ _ _ hm
  obtain ⟨xs1, s1⟩ := opens_sl Try.underlying42 opens_cops (hval 1 42 v1 rfl rfl) h1
  obtain ⟨a2, rfl, rfl, rfl, w2⟩ := open_int Try.underlying5 (hval 2 5 v2 rfl rfl) h2
  clear hA0 hval0
  refine (CoreJoins_walk W v0 xs0 v1 xs1 a2 s0 s1 w2).mono fun e W' ⟨he, bel⟩ => ?_
  subst he
  exact ⟨_, rfl, _, _, _, [], _, [], hW', trodAll_mk1 (shut_bool Try.underlying4 _), (trodAll_cons_mk (Below.trod laidOut (by kernel_rfl) (of_decide_eq_true (by kernel_rfl)) k0 bel lt0) (trodAll_cons_mk (Below.trod laidOut (by kernel_rfl) (of_decide_eq_true (by kernel_rfl)) k1 bel lt1) (trodAll_cons_mk (shut_int Try.underlying5 w2) trodAll_mk0))), rfl, bel.frame _, fun h => by cases h⟩

/-- The given statement. -/
theorem CoreJoins_holds : Rows.CoreJoinsSaid :=
  OpenClaim.holds_of_wide 8 Try.f8 rfl rfl rfl rfl rfl rfl rfl ⟨rfl, rfl, rfl, rfl, rfl⟩ rfl rfl rfl rfl rfl (by kernel_rfl) Try.func8 (by kernel_rfl)
    (of_decide_eq_true (by kernel_rfl)) (by unfold Func.isWrapper; rw [if_neg (by decide +kernel)]; exact ⟨rfl, rfl⟩)
    (fun os started H enc _ => CoreJoins_lifted os started H enc)
#print axioms CoreJoins_holds
end Go.Proofs.Ytabodlhlanolcaa
