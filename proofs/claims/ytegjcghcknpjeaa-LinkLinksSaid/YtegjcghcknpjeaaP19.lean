import Derived.Test.YtegjcghcknpjeaaP18
import Derived.Deep.DeepCutAuto
import Derived.Deep.CutBlock
namespace Go.Proofs.Ytegjcghcknpjeaa
open Go.RowKit

theorem placed_succ {M : Int → Option Int} {l : List Piece} {k : Nat} (h : k < l.length) : (l.take (k + 1)).map (placed M) = (l.take k).map (placed M) ++ [placed M l[k]] := by
  rw [List.take_succ_eq_append_getElem h, List.map_append]; rfl
theorem RowIns.of_append {B : Nat} {w : World} {v : Value} {l : List Ins} {n : Nat} {p : Ins} (hn : l.length = n) (h : w.ownsRow B 35 5 v (n + 1) (l.flatMap Ins.enc ++ Ins.enc p)) : RowIns B w v (l ++ [p]) := by
  unfold RowIns
  rw [List.length_append, hn, List.flatMap_append]
  simpa using h

set_option maxRecDepth 100000 in
set_option maxHeartbeats 8000000 in
theorem rlink_any (w : World) (a : Option Addr) (c : Nat) (l : List Piece) (hm : l.length ≤ maxLen) (h : pieceRep.Els w a l) :
    Calls Try.prog 12 #[.slice a l.length c] w fun e w' => RetLink w.heap.size (linkS l) e w' ∧ Below w.heap.size w w' := by
  have HI := Lib.hid h; clear h
  unfold maxLen at hm
  by_cases hbig : (32768 : Int) < (l.length : Int)
  · have hs : linkS l = (([], 0), 173) := by unfold linkS; rw [if_pos (by omega)]
    have Hs := Lib.hid hs; clear hs
    go_enter Try.func12, Try.ntmps12
    go_wp2_with fail
    go_ret3
    exact ⟨by rw [Hs.out]; exact ⟨_, rfl, RowIns.nil _ _⟩, Below.refl _ _⟩
  · have hbig' : decide ((32768 : Int) < (l.length : Int)) = false := by simpa using hbig
    have hb : l.length ≤ 32768 := by omega
    obtain ⟨i0, hi, hz0, hz1, hz2⟩ := info_parts Try.infoS
    have Si := Lib.hid hi; have Sz0 := Lib.hid hz0; have Sz1 := Lib.hid hz1; have Sz2 := Lib.hid hz2; clear hi hz0 hz1 hz2
    obtain ⟨i2, hi, hz0, hz1, hz2⟩ := info_parts Try.infoI
    have Pi := Lib.hid hi; have Pz0 := Lib.hid hz0; have Pz1 := Lib.hid hz1; have Pz2 := Lib.hid hz2; clear hi hz0 hz1 hz2
    clear hbig
    go_enter Try.func12, Try.ntmps12
    go_upto_block 0 with fail
    go_cut [5] (fun s5 wx => ∃ W : Nat, W ≤ l.length ∧ s5 = .int .i64 W ∧ (∀ j, (hj : j < l.length) → j < W → l[j].right = true) ∧ (∀ h : W < l.length, l[W].right = false) ∧ Below w.heap.size w wx)
    case first =>
      go_wp2_with fail
      go_loopw [5] (fun i wr => ∃ k : Nat, k ≤ l.length ∧ i = .int .i64 k ∧ (∀ j, (hj : j < l.length) → j < k → l[j].right = true) ∧ Below w.heap.size w wr) (fun i _ => l.length - (intOf i).toNat)
      case atStart => exact ⟨0, Nat.zero_le _, rfl, (fun j _ h => by omega), Below.refl _ _⟩
      case round =>
        obtain ⟨k, hk, rfl, hr, hB⟩ := hrel
        by_cases hlt : k < l.length
        · obtain ⟨b, off, rfl, hw, x0, x1, x2, x3, x4, x5, x6⟩ := els_piece (HI.out.below pieceRep hB (Nat.le_refl _)) hlt
          have hn : l[k].right = true → ∀ j, (hj : j < l.length) → j < k + 1 → l[j].right = true := fun h j hj hjk => by
            by_cases e : j = k
            · subst e; exact h
            · exact hr j hj (by omega)
          have hf : l[k].right = false → ∀ h : k < l.length, l[k].right = false := fun h _ => h
          obtain ⟨p, hp⟩ : ∃ p, l[k] = p := ⟨_, rfl⟩
          rw [hp] at hw x0 x1 x2 x3 x4 x5 x6 hn hf
          have hq := fun W => rpright_any W p hw
          unfold Piece.V at hq
          have hz0 : (0 : Int) ≤ (k : Int) := by omega
          have hz1 : (k : Int) < (l.length : Int) := by omega
          have Hn := Lib.hid hn; have Hf := Lib.hid hf; have Hr := Lib.hid hr; have HB := Lib.hid hB; have Hp := Lib.hid hp
          clear hn hf hr hB hp hw
          cases hpr : p.right with
          | true =>
            rw [hpr] at hq
            have HQ := Lib.hid hq; have Hpr := Lib.hid hpr; clear hq hpr
            go_wp2_with fail
            refine (HQ.out _).mono ?_
            rintro e w2 ⟨rfl, hb2⟩
            have HB2 := Lib.hid (bNext hb2 HB.out); clear hb2
            go_wp2_with fail
            go_roundw
            case rel => exact ⟨k + 1, by omega, by go_num, Hn.out Hpr.out, HB2.out⟩
            case measure => simp [intOf]; omega
          | false =>
            rw [hpr] at hq
            have HQ := Lib.hid hq; have Hpr := Lib.hid hpr; clear hq hpr
            go_wp2_with fail
            refine (HQ.out _).mono ?_
            rintro e w2 ⟨rfl, hb2⟩
            have HB2 := Lib.hid (bNext hb2 HB.out); clear hb2
            go_wp2_with fail
            go_meet
            exact ⟨k, by omega, rfl, Hr.out, (fun h => by rw [Hp.out]; exact Hpr.out), HB2.out⟩
        · obtain rfl : k = l.length := by omega
          have Hr := Lib.hid hr; have HB := Lib.hid hB; clear hr hB
          go_wp2_with fail
          go_meet
          exact ⟨l.length, Nat.le_refl _, rfl, Hr.out, (fun h => by omega), HB.out⟩
    case rest =>
      obtain ⟨W, hW, rfl, hr, hw, hB⟩ := hcut
      have Hr := Lib.hid hr; have Hw := Lib.hid hw; have HB := Lib.hid hB; clear hr hw hB
      go_wp2_with fail
      go_loopw [6, 7] (fun v i wr => ∃ k : Nat, k ≤ W ∧ i = .int .i64 k ∧ RowS w.heap.size wr v (spotsK l k) ∧ Below w.heap.size w wr) (fun _ i _ => W - (intOf i).toNat)
      case atStart => exact ⟨0, Nat.zero_le _, rfl, RowS.nil _ _, HB.out⟩
      case round =>
        obtain ⟨k, hk, rfl, hv, hB⟩ := hrel
        by_cases hlt : k < W
        · have hkl : k < l.length := by omega
          obtain ⟨b, off, rfl, hw, x0, -, -, -, -, -, -⟩ := els_piece (HI.out.below pieceRep hB (Nat.le_refl _)) hkl
          have hsc := spotsK_succ hkl
          have hln := spotsK_len l k
          obtain ⟨p, hp⟩ : ∃ p, l[k] = p := ⟨_, rfl⟩
          rw [hp] at hw x0 hsc
          have hz0 : (0 : Int) ≤ (k : Int) := by omega
          have hz1 : (k : Int) < (l.length : Int) := by omega
          have hbs := hB.size
          obtain ⟨K, hK⟩ : ∃ K, spotsK l k = K := ⟨_, rfl⟩
          rw [hK] at hsc hln hv
          have Hsc := Lib.hid hsc; have Hv := Lib.hid hv; have HB2 := Lib.hid hB; have HKn : Hid (wr.ownsRow w.heap.size 57 2 u6 K.length (K.flatMap encS)) := Lib.hid hv
          clear hsc hv hB hp hw hK
          by_cases h0 : 0 < p.mark
          · go_wp2_with (at_builtin; (refine wpList_append_src _ rfl _ _ 55 rfl w.heap.size 57 i0 _ 2 16 Try.underlying55 Si.out Sz0.out Sz1.out Sz2.out rfl (by decide) _ K.length _ rfl (HKn.out.alloc _) _ 1 (encS (p.mark, (k : Int))) rfl (src_lit _ _ _ _ _ _ (by simp) rfl) rfl (encS_one _) (by unfold maxLen; omega) (by omega) (by simp; omega) ?_); intro v' w' hown hg _)
            go_roundw
            case rel => exact ⟨k + 1, by omega, by go_num, by rw [Hsc.out, if_pos h0]; exact RowS.of_append rfl hown, (HB2.out.alloc hbs _).grown hg (by simp; omega) (fun j hj => (World.ownsRow.lt HKn.out j hj).1)⟩
            case measure => simp [intOf]; omega
          · have h0' : decide (0 < p.mark) = false := by simpa using h0
            go_wp2_with fail
            go_roundw
            case rel => exact ⟨k + 1, by omega, by go_num, by rw [Hsc.out, if_neg h0]; exact Hv.out, HB2.out⟩
            case measure => simp [intOf]; omega
        · obtain rfl : k = W := by omega
          have hwf : ∀ x ∈ spotsK l k, spotWf x := fun x hx => by
            obtain ⟨j, hj, h1, h2, rfl⟩ := (mem_spotsK hW).1 hx
            obtain ⟨_, _, _, hw, _⟩ := els_piece HI.out hj
            exact ⟨hw.mark, by simp only; omega⟩
          have hsl := RowS.sl hv hwf
          obtain ⟨av, cv, rfl, g1, g2, g3, g4⟩ := hsl
          have hln := spotsK_len l k
          have hq := sorted_any (spotsK l k).length wr av cv (spotsK l k) (Nat.le_refl _) (by omega) (dist_spotsK hW) hwf ⟨_, _, rfl, g1, g2, g3, g4⟩
          have HQ := Lib.hid hq; have HB2 := Lib.hid hB; have Hwf := Lib.hid hwf
          clear hq hv hB hwf g1 g2 g3 g4
          go_wp2_with fail
          refine HQ.out.mono ?_
          rintro e w2 ⟨v2, s, rfl, hsl, hp, ha, hb2⟩
          obtain ⟨asl, csl, rfl, g1, g2, g3, g4⟩ := hsl
          have hsn : s.length ≤ 32768 := by have := hp.length_eq; omega
          have HB3 := Lib.hid (bNext hb2 HB2.out); have HP := Lib.hid hp; have HA := Lib.hid ha; have HS := Lib.hid g4
          clear hb2 hp ha g1 g2 g3 g4 hln
          go_wp2_with fail
          go_loopw [9, 10] (fun t i wr => ∃ q : Nat, 1 ≤ q ∧ (q ≤ s.length ∨ q = 1) ∧ i = .int .i64 q ∧ t = .int .i64 (twK s k q) ∧ Below w2.heap.size w2 wr) (fun _ i _ => s.length - (intOf i).toNat)
          case atStart => exact ⟨1, Nat.le_refl _, .inr rfl, rfl, by rw [twK_one], Below.refl _ _⟩
          case round =>
            obtain ⟨q, hq1, hq2, rfl, rfl, hB⟩ := hrel
            by_cases hlt2 : q < s.length
            · obtain ⟨b, off, rfl, -, x0, x1⟩ := els_spot (HS.out.below spotRep hB (Nat.le_refl _)) hlt2
              obtain ⟨b', off', e', -, y0, y1⟩ := els_spot (HS.out.below spotRep hB (Nat.le_refl _)) (show q - 1 < s.length by omega)
              cases e'
              have hts := twK_succ (W := (k : Int)) hlt2 (by omega)
              obtain ⟨t, ht⟩ : ∃ t, s[q] = t := ⟨_, rfl⟩
              obtain ⟨u, hu⟩ : ∃ u, s[q - 1] = u := ⟨_, rfl⟩
              obtain ⟨T, hT⟩ : ∃ T, twK s k q = T := ⟨_, rfl⟩
              rw [ht] at x0 x1 hts
              rw [hu] at y0 y1 hts
              rw [hT] at hts ⊢
              have hz0 : (0 : Int) ≤ (q : Int) := by omega
              have hz1 : (q : Int) < (s.length : Int) := by omega
              have hz2 : (0 : Int) ≤ (q : Int) - 1 := by omega
              have hz3 : (q : Int) - 1 < (s.length : Int) := by omega
              have Hts := Lib.hid hts; have HB4 := Lib.hid (hB.trans (Below.drewN wr 0)); have HB5 := Lib.hid hB
              clear hts ht hu hT hB
              by_cases he : t.1 = u.1
              · have he' : (t.1 == u.1) = true := by simpa using he
                have hsub := he
                clear he
                go_wp2_with fail
                go_quiet (fail)
                go_wp2_with fail
                all_goals
                  go_roundw
                  case rel => exact ⟨q + 1, by omega, by omega, by go_num, by (rw [Hts.out, if_pos hsub]); try simp only [*], HB5.out.trans (Below.drewN _ _)⟩
                  case measure => simp [intOf]; omega
              · have he' : (t.1 == u.1) = false := by simpa using he
                go_wp2_with fail
                go_quiet (fail)
                go_wp2_with fail
                go_roundw
                case rel => exact ⟨q + 1, by omega, by omega, by go_num, by rw [Hts.out, if_neg he], HB5.out.trans (Below.drewN _ _)⟩
                case measure => simp [intOf]; omega
            · have hT : twK s (k : Int) q = twK s k s.length := by
                rcases hq2 with h | h
                · rw [show q = s.length by omega]
                · subst h
                  rcases Nat.lt_or_ge s.length 1 with h | h
                  · rw [twK_one, show s.length = 0 by omega]; rfl
                  · rw [show s.length = 1 by omega]
              rw [hT]
              obtain ⟨T, hTe⟩ : ∃ T, twK s (k : Int) s.length = T := ⟨_, rfl⟩
              rw [hTe]
              have l1 := fun h : T < k => link_twice hW HP.out HA.out Hr.out hb (by rw [hTe]; exact h)
              have l2 := fun (h : ¬ T < k) => link_wrong hW HP.out HA.out Hr.out hb (by rw [hTe]; exact h)
              rw [hTe] at l1
              have L1 := Lib.hid l1; have L2 := Lib.hid l2; have HT := Lib.hid hTe; have HB6 := Lib.hid (bNext hB HB3.out); have HS6 := Lib.hid (HS.out.below spotRep hB (Nat.le_refl _))
              clear l1 l2 hT hTe hB
              by_cases hTk : T < k
              · go_wp2_with fail
                go_ret3
                exact ⟨by rw [L1.out hTk]; exact ⟨_, rfl, RowIns.nil _ _⟩, HB6.out⟩
              · have hTk' : decide (T < (k : Int)) = false := by simpa using hTk
                by_cases hkl : k < l.length
                · have hL := Lib.hid (L2.out hTk hkl (Hw.out hkl))
                  go_wp2_with fail
                  go_ret3
                  exact ⟨by rw [hL.out]; exact ⟨_, rfl, RowIns.nil _ _⟩, HB6.out⟩
                · obtain rfl : k = l.length := by omega
                  have hfa := fault_right HP.out HA.out (fun k hk => Hr.out k hk hk) (by rw [HT.out]; exact hTk)
                  have hfm := fun (m : Int) (hm : 0 < m) => find_marks HP.out HA.out (by rw [HT.out]; exact hTk) hm
                  obtain ⟨M, hM⟩ : ∃ M, marksTo l l.length = M := ⟨_, rfl⟩
                  have hlost : ∀ i, lost M 0 l = some i → linkS l = (([], (i : Int)), 172) := fun i hi => by unfold linkS; rw [if_neg (by omega), hfa]; simp only []; rw [hM, hi]
                  have hnone : lost M 0 l = none → linkS l = ((l.map (placed M), 0), 0) := fun hi => by unfold linkS; rw [if_neg (by omega), hfa]; simp only []; rw [hM, hi]
                  have hbd : ∀ m v, M m = some v → 0 ≤ v ∧ v < l.length := fun m v h => marksTo_lt (Nat.le_refl _) (by rw [hM]; exact h)
                  rw [hM] at hfm
                  obtain ⟨w5, rfl⟩ : ∃ w5 : World, w5 = wr := ⟨_, rfl⟩
                  have Hfm := Lib.hid hfm; have Hlost := Lib.hid hlost; have Hnone := Lib.hid hnone; have Hbd := Lib.hid hbd
                  clear hfa hfm hlost hnone hbd hM
                  go_wp2_with fail
                  go_loopw [11, 12] (fun v i wx => ∃ k : Nat, k ≤ l.length ∧ i = .int .i64 k ∧ lost M 0 l = lost M k (l.drop k) ∧ RowIns w5.heap.size wx v ((l.take k).map (placed M)) ∧ Below w5.heap.size w5 wx) (fun _ i _ => l.length - (intOf i).toNat)
                  case atStart => exact ⟨0, Nat.zero_le _, rfl, rfl, RowIns.nil _ _, Below.refl _ _⟩
                  case round =>
                    obtain ⟨k, hk, rfl, hlo, hrow, hB⟩ := hrel
                    by_cases hlt : k < l.length
                    · rw [lost_step hlt] at hlo
                      have hps := placed_succ (M := M) hlt
                      have hrk := Hr.out k hlt hlt
                      obtain ⟨b, off, rfl, hw, x0, x1, x2, x3, x4, x5, x6⟩ := els_piece (HI.out.below pieceRep (bNext hB HB6.out) (Nat.le_refl _)) hlt
                      obtain ⟨p, hp⟩ : ∃ p, l[k] = p := ⟨_, rfl⟩
                      rw [hp] at hlo hps hrk hw x0 x1 x2 x3 x4 x5 x6
                      have hto : 0 ≤ p.to := by
                        unfold Piece.right at hrk
                        simp only [Bool.and_eq_true, decide_eq_true_eq] at hrk
                        exact hrk.1.1.2
                      have hbs := hB.size
                      have htl : ((l.take k).map (placed M)).length = k := by simp; omega
                      have hzb : b < wr.heap.size := World.block_lt_of_cell? _ _ x6
                      have hz0 : (0 : Int) ≤ (k : Int) := by omega
                      have hz1 : (k : Int) < (l.length : Int) := by omega
                      have Hrow : Hid (wr.ownsRow w5.heap.size 35 5 u11 k (((l.take k).map (placed M)).flatMap Ins.enc)) := Lib.hid (by unfold RowIns at hrow; rw [htl] at hrow; exact hrow)
                      have Htl := Lib.hid htl; have Hps := Lib.hid hps; have Hlo := Lib.hid hlo; have Hb := Lib.hid hB
                      clear hlo hps hrk hw hrow hB htl hp x0
                      by_cases h0 : 0 < p.to
                      · have hq := fun o => find_any (wr.alloc o) asl csl s p.to hsn HA.out (HS6.out.below spotRep (Hb.out.alloc hbs o) (Nat.le_refl _))
                        have hfm := Hfm.out p.to h0
                        cases hMt : M p.to with
                        | none =>
                          rw [hfm.1 hMt] at hq
                          have hno := Hlo.out
                          rw [if_pos ⟨by omega, hMt⟩] at hno
                          have Hno := Lib.hid (Hlost.out k hno); have HQ := Lib.hid hq; have HBf := Lib.hid (bNext (Hb.out) HB6.out)
                          clear hq hfm hMt hno
                          go_wp2_with fail
                          refine (HQ.out _).mono ?_
                          rintro e w' ⟨rfl, rfl⟩
                          go_wp2_with fail
                          go_ret3
                          exact ⟨by rw [Hno.out]; exact ⟨_, rfl, RowIns.nil _ _⟩, HBf.out.alloc HBf.out.size _⟩
                        | some v =>
                          rw [hfm.2 v hMt] at hq
                          obtain ⟨hv0, hv1⟩ := Hbd.out _ _ hMt
                          have hno := Hlo.out
                          rw [if_neg (fun h => by rw [hMt] at h; cases h.2)] at hno
                          have hpl : placed M p = ⟨p.ins.op, p.ins.a, p.ins.b, p.ins.c, v⟩ := by unfold placed; rw [if_neg (by omega), hMt]; rfl
                          have hv2 : v ≤ 32768 := by omega
                          have hv0' : decide (v < 0) = false := by simpa using hv0
                          have Hno := Lib.hid hno; have HQ := Lib.hid hq; have Hpl := Lib.hid hpl
                          clear hq hfm hMt hno hpl
                          go_wp2_with fail
                          refine (HQ.out _).mono ?_
                          rintro e w' ⟨rfl, rfl⟩
                          go_wp2_with (at_builtin; (refine wpList_append_src _ rfl _ _ 24 rfl w5.heap.size 35 i2 _ 5 8 Try.underlying24 Pi.out Pz0.out Pz1.out Pz2.out rfl (by decide) _ k _ rfl ((Hrow.out.alloc _).alloc _) _ 1 (Ins.enc ⟨p.ins.op, p.ins.a, p.ins.b, p.ins.c, v⟩) rfl (src_lit _ _ _ _ _ _ (by simp) rfl) rfl (insRep_one _) (by unfold maxLen; omega) (by omega) (by simp; omega) ?_); intro v' w' hown hg _)
                          go_roundw
                          case rel => exact ⟨k + 1, by omega, by go_num, Hno.out, by rw [Hps.out, Hpl.out]; exact RowIns.of_append Htl.out hown, ((Hb.out.alloc hbs _).alloc (by simp; omega) _).grown hg (by simp; omega) (fun j hj => (World.ownsRow.lt Hrow.out j hj).1)⟩
                          case measure => simp [intOf]; omega
                      · have h0' : decide (0 < p.to) = false := by simpa using h0
                        have hno := Hlo.out
                        rw [if_neg (fun h => h.1 (by omega))] at hno
                        have hpl : placed M p = p.ins := by unfold placed; rw [if_pos (by omega)]
                        have Hno := Lib.hid hno; have Hpl := Lib.hid hpl
                        clear hno hpl
                        go_wp2_with (at_builtin; (refine wpList_append_src _ rfl _ _ 24 rfl w5.heap.size 35 i2 _ 5 8 Try.underlying24 Pi.out Pz0.out Pz1.out Pz2.out rfl (by decide) _ k _ rfl ((Hrow.out.alloc _).alloc _) _ 1 (Ins.enc p.ins) rfl (src_lit _ _ _ _ _ _ (by simp) rfl) rfl (insRep_one _) (by unfold maxLen; omega) (by omega) (by simp; omega) ?_); intro v' w' hown hg _)
                        go_roundw
                        case rel => exact ⟨k + 1, by omega, by go_num, Hno.out, by rw [Hps.out, Hpl.out]; exact RowIns.of_append Htl.out hown, ((Hb.out.alloc hbs _).alloc (by simp; omega) _).grown hg (by simp; omega) (fun j hj => (World.ownsRow.lt Hrow.out j hj).1)⟩
                        case measure => simp [intOf]; omega
                    · obtain rfl : k = l.length := by omega
                      have hno := Hnone.out (by rw [hlo, List.drop_length]; rfl)
                      rw [List.take_length] at hrow
                      have Hno := Lib.hid hno; have Hrow := Lib.hid hrow; have Hb := Lib.hid hB
                      have hsz := HB6.out.size
                      clear hno hrow hB hlo
                      go_wp2_with fail
                      go_ret3
                      refine ⟨?_, bNext Hb.out HB6.out⟩
                      rw [Hno.out]
                      exact ⟨_, rfl, Hrow.out.1, Hrow.out.2.imp id (fun ⟨g, cap, cur, e1, e2, e3⟩ => ⟨g, cap, cur, e1, Nat.le_trans hsz e2, e3⟩)⟩
end Go.Proofs.Ytegjcghcknpjeaa
