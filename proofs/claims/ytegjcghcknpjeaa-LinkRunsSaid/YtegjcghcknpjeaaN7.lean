/-
  LinkRuns: the law returns true for every input, and what was handed in reads as it did. No condition.
-/
import Derived.Test.YtegjcghcknpjeaaF1
import Derived.Test.YtegjcghcknpjeaaF2
namespace Go.Proofs.Ytegjcghcknpjeaa
open Go.ChangeShapes Go.WideShapes Go.ChangeAt Go.RowKit Go.Joins
set_option linter.unusedVariables false

theorem own_form0 {w : World} {B : Nat} {t : TypeId} {size n : Nat} {v : Value} {xs : List Value} (h : w.ownsRow B t size v n xs) : ∃ a c, v = .slice a n c ∧ n ≤ 9223372036854775807 := by
  rcases h.2 with ⟨e, h0⟩ | ⟨g, cap, cur, e, _, _, h1, h2, _⟩
  · subst h0; exact ⟨_, _, e, by omega⟩
  · unfold maxLen at h2; exact ⟨_, _, e, by omega⟩
set_option maxRecDepth 100000 in
set_option maxHeartbeats 32000000 in
theorem LinkRuns_walk (w : World) (v0 : Value) (code : List Ins) (v1 : Value) (mem0 : List Int) (b : Int) (q0 : insRep.Sl w v0 code) (q1 : IntSl w v1 mem0) (wb : (Lit.int .u16 b).wf = true) :
    Calls Try.prog 9 #[v0, v1, .int .u16 b] w fun e w' => e = .returned (.bool true) ∧ Below w.heap.size w w' := by
  obtain ⟨hb0, hb1⟩ := bounds_u16 wb
  obtain ⟨ca, cc, rfl, hm1, hm2, _, h⟩ := q0
  have hm := Nat.le_trans hm1 hm2
  have hlen : code.length ≤ 9223372036854775807 := by unfold maxLen at hm; omega
  have hwf : ∀ i ∈ code, i.wf := els_wf h
  have k1 := fun W (hB : Below w.heap.size w W) => unlink_any W ca cc code hm (h.below insRep hB (Nat.le_refl _))
  have hbad := @unlinkS_bad code
  have hgood := @linkS_unlinkS code
  have hul := unlinkS_len code
  have hpw := unlinkS_wf hwf
  have hmk := unlinkS_marks code
  have hnm := nameBy_names hb0
  obtain ⟨a1, c1, rfl⟩ := q1.form
  have hcap : mem0.length ≤ c1 := by obtain ⟨_, _, e, h, _⟩ := q1; cases e; exact h
  generalize unlinkS code = u at k1 hbad hgood hul hpw hmk
  obtain ⟨l, er⟩ := u
  have K1 := Lib.hid k1; have HE := Lib.hid h; have HW := Lib.hid hwf; have HP := Lib.hid hpw; have HS := Lib.hid q1; have HNM := Lib.hid hnm
  clear k1 h hwf hpw q1 hm hm1 hm2 wb hnm
  dsimp only at hbad hgood hul hmk
  by_cases he : er = 0
  · subst he
    have hg := hgood rfl
    have hlk : linkS (mixK (nameBy b) l l.length) = ((code, 0), 0) := by rw [mixK_all, linkS_ren HNM.out]; exact hg
    have hmw : ∀ p ∈ mixK (nameBy b) l l.length, p.wf := by
      rw [mixK_all]
      intro p hp
      obtain ⟨x, hx, rfl⟩ := List.mem_map.1 hp
      have h1 := HP.out x hx
      have h2 := hmk x hx
      have hx1 := h1.mark
      have hx2 := h1.to
      refine ⟨?_, h1.ins, ?_⟩
      · show _ ≤ nameBy b x.mark ∧ nameBy b x.mark ≤ _
        unfold nameBy; split <;> omega
      · show _ ≤ nameBy b x.to ∧ nameBy b x.to ≤ _
        unfold nameBy; split <;> omega
    have HLK := Lib.hid hlk; have HMW := Lib.hid hmw; have HMK := Lib.hid hmk
    clear hgood hbad hg hlk hmw hmk
    by_cases h100 : 100 < mem0.length
    · have t0 : decide ((100 : Int) < (mem0.length : Int)) = true := by simp; omega
      have hsl := fun w => slice_hi w a1 mem0.length c1 .i64 100 (by decide) (by omega)
      simp only [subA_zero] at hsl
      have hq := HS.out.take 100 (by omega)
      have hlt : (mem0.take 100).length ≤ 2097152 := by simp; omega
      have hl100 : (mem0.take 100).length = 100 := by simp; omega
      generalize mem0.take 100 = mem at hq hlt hl100
      have HQ := Lib.hid hq
      go_enter Try.func9, Try.ntmps9
      go_wp2_with fail
      refine (shown_any _).mono ?_
      rintro e w1 ⟨rfl, hB1⟩
      go_wp2_with fail
      refine (K1.out _ hB1).mono ?_
      rintro e w2 ⟨⟨v, rfl, hr⟩, hb⟩
      obtain ⟨al, cl, rfl, -⟩ := own_form0 hr
      have HB2 := Lib.hid (bNext hb hB1); have HR2 := Lib.hid hr; have HBS := Lib.hid hB1.size
      clear hb hr hB1
      go_upto_region 7 with fail
      clear hsl t0 hq
      go_wp2_with fail
      go_loopw [36] (fun i wr => ∃ k : Nat, k ≤ l.length ∧ i = .int .i64 k ∧ RowP w1.heap.size wr (.slice al l.length cl) (mixK (nameBy b) l k) ∧ Below w.heap.size w wr) (fun i _ => l.length - (intOf i).toNat)
      case atStart => exact ⟨0, Nat.zero_le _, rfl, by rw [mixK_zero]; exact HR2.out, HB2.out⟩
      case round =>
        obtain ⟨k, hk, rfl, hr, hB⟩ := hrel
        by_cases hlt2 : k < l.length
        · have hml := mixK_len (nameBy b) l hk
          have hma := mixK_at (nameBy b) l hlt2
          have hms := mixK_succ (nameBy b) l hlt2
          have hr0 := hr
          obtain ⟨g, cap, eg, hg0, hg1, hg2, hg3⟩ := flat_form hr (by omega)
          rw [hml] at eg
          cases eg
          have hki : k < (mixK (nameBy b) l k).length := by omega
          have cm := cellRP hr hml.symm hki (j := 0) (by omega)
          have ct := cellRP hr hml.symm hki (j := 6) (by omega)
          rw [hma] at cm ct
          have cm' : wr.cell? ⟨g, k * 7, none⟩ = some (.int .i64 l[k].mark) := cm
          have ct' : wr.cell? ⟨g, k * 7 + 6, none⟩ = some (.int .i64 l[k].to) := ct
          have fm := frozenRP hr hml.symm (k * 7)
          have ft := frozenRP hr hml.symm (k * 7 + 6)
          have hx := HMK.out l[k] (List.getElem_mem hlt2)
          obtain ⟨hx1, hx2⟩ := hx
          have hwx := HP.out l[k] (List.getElem_mem hlt2)
          have R1 := Lib.hid (rowMark hr hml.symm hki hma)
          have R2 := Lib.hid (rowTo hr hml.symm hki hma)
          have R3 := Lib.hid (rowBoth hr hml.symm hki hma)
          have hself : mixK (nameBy b) l k = (mixK (nameBy b) l k).set k l[k] := by rw [← hma]; exact (List.set_getElem_self hki).symm
          rw [hself] at hr
          have R0 := Lib.hid hr
          have HMS := Lib.hid hms; have HB := Lib.hid hB
          have HBb := hB.size
          generalize l[k] = x at cm' ct' hx1 hx2 R0 R1 R2 R3 HMS hwx
          obtain ⟨m, i, t⟩ := x
          dsimp only at cm' ct' hx1 hx2 R0 R1 R2 R3
          have hwm := hwx.mark; have hwt := hwx.to
          dsimp only at hwm hwt
          clear hr hr0 hB hml hma hms cm ct hself hki hwx
          have hz0 : (0 : Int) ≤ (k : Int) := by omega
          have hz1 : (k : Int) < (l.length : Int) := by omega
          have hB1' : w.heap.size ≤ g := by have := HBS.out; omega
          by_cases hm0 : 0 < m
          · by_cases ht0 : 0 < t
            · go_wp2_with fail
              go_roundw
              case rel => exact ⟨k + 1, by omega, by go_num, by rw [HMS.out]; unfold renP nameBy; rw [if_pos hm0, if_pos ht0]; exact R3.out _ _, (HB.out.setCell (p := ⟨g, _, none⟩) hB1' _).setCell (p := ⟨g, _, none⟩) hB1' _⟩
              case measure => simp [intOf]; omega
            · have ht0' : decide (0 < t) = false := by simpa using ht0
              go_wp2_with fail
              go_roundw
              case rel => exact ⟨k + 1, by omega, by go_num, by rw [HMS.out]; unfold renP nameBy; rw [if_pos hm0, if_neg ht0]; exact R1.out _, HB.out.setCell (p := ⟨g, _, none⟩) hB1' _⟩
              case measure => simp [intOf]; omega
          · have hm0' : decide (0 < m) = false := by simpa using hm0
            by_cases ht0 : 0 < t
            · go_wp2_with fail
              go_roundw
              case rel => exact ⟨k + 1, by omega, by go_num, by rw [HMS.out]; unfold renP nameBy; rw [if_neg hm0, if_pos ht0]; exact R2.out _, HB.out.setCell (p := ⟨g, _, none⟩) hB1' _⟩
              case measure => simp [intOf]; omega
            · have ht0' : decide (0 < t) = false := by simpa using ht0
              go_wp2_with fail
              go_roundw
              case rel => exact ⟨k + 1, by omega, by go_num, by rw [HMS.out]; unfold renP nameBy; rw [if_neg hm0, if_neg ht0]; exact R0.out, HB.out⟩
              case measure => simp [intOf]; omega
        · obtain rfl : k = l.length := by omega
          obtain ⟨al', cl', eq, hp1, hp2, _, hel⟩ := RowP.sl hr HMW.out
          rw [mixK_len (nameBy b) l (Nat.le_refl _)] at eq
          cases eq
          have hlkk := link_any wr al cl (mixK (nameBy b) l l.length) (by rw [mixK_len (nameBy b) l (Nat.le_refl _)]; unfold maxLen; omega) hel
          rw [mixK_len (nameBy b) l (Nat.le_refl _), HLK.out] at hlkk
          have LK := Lib.hid hlkk; have HB := Lib.hid hB
          clear hr hel hlkk hB hp1 hp2
          go_wp2_with fail
          refine LK.out.mono ?_
          rintro e w3 ⟨⟨v, rfl, hr⟩, hb⟩
          have hB3 := bNext hb HB.out
          obtain ⟨ac, cc', rfl, _, _, _, hel⟩ := RowIns.sl hr HW.out
          dsimp only at hel ⊢
          have HE3 := Lib.hid hel; have HB3 := Lib.hid hB3
          clear hb hr hel hB3 LK HB
          go_wp2_with fail
          refine (run_any w3 _ mem ca cc code 500 (HE.out.below insRep HB3.out (Nat.le_refl _)) hlen (HQ.out.below HB3.out)).mono ?_
          rintro e w4 ⟨v4, rfl, hs4, hw4, hb4⟩
          have hrr := fun W he hs => run_any W (.slice a1 100 c1) mem ac cc' code 500 he hlen hs
          obtain ⟨S, hS⟩ : ∃ S, RunS code mem 500 = S := ⟨_, rfl⟩
          rw [hS] at hs4 hw4 ⊢
          have hml : S.1.1.mem.length ≤ 9223372036854775806 := by
            rw [← hS]; exact RunS_small _ _ _
          obtain ⟨a3, c3, rfl⟩ := hs4.form
          have HR := Lib.hid hrr
          have HS4 := Lib.hid hs4; have HW4 := Lib.hid hw4; have HB4 := Lib.hid (bNext hb4 HB3.out); have HES := Lib.hid hS; have HML := Lib.hid hml
          have HE4 := Lib.hid (HE3.out.below insRep hb4 (Nat.le_refl _))
          have HN4 := Lib.hid (fun (c : Array Value) => World.alloc_heap_new w4 (.cells c 47))
          have HL4 := Lib.hid hw4.len
          obtain ⟨z4, hz4⟩ : ∃ z4, w4.heap.size = z4 := ⟨_, rfl⟩
          clear hs4 hw4 hb4 hS hml HB3 HE3 hrr
          go_upto_region 17 with ((with_reducible show wpList _ _ _ ({ dst := none, op := Op.store 47 (.tmp 14) (.tmp _), type := _, pos := _, after := _, guard := _ } :: _) _ _); (refine wpList_store_whole rfl 47 _ _ rfl z4 rfl _ _ rfl 47 (by rw [← hz4]; exact HN4.out _) (by rw [Try.sizeSt, List.size_toArray, cellsSt_len HL4.out]) (by simp [cellsSt_len HL4.out]) (by simpa using cellsSt_one rfl _) ?_); intro w5 hr5 hg5)
          obtain ⟨s5, b5⟩ := new_state hz4 HW4.out.len hr5 hg5
          have HS5 := Lib.hid (HS4.out.below b5); have HIB := Lib.hid s5; have HB5 := Lib.hid (bNext b5 HB4.out); have HE5 := Lib.hid (HE4.out.below insRep b5 (Nat.le_refl _))
          clear s5 b5 hr5 hg5 hz4 HN4 HS4 HB4 HE4
          go_wp2_with fail
          refine (HR.out w5 HE5.out (HQ.out.below HB5.out)).mono ?_
          rintro e w6 ⟨v6, rfl, hs6, hw6, hb6⟩
          rw [HES.out] at hs6 hw6 ⊢
          obtain ⟨a6, c6, rfl⟩ := hs6.form
          have HS6 := Lib.hid hs6; have HB6 := Lib.hid (bNext hb6 HB5.out); have HIB6 := Lib.hid (HIB.out.below hb6); have HS56 := Lib.hid (HS5.out.below hb6)
          have HN6 := Lib.hid (fun (c : Array Value) => World.alloc_heap_new w6 (.cells c 47))
          obtain ⟨z6, hz6⟩ : ∃ z6, w6.heap.size = z6 := ⟨_, rfl⟩
          clear hs6 hw6 hb6 HIB HS5 HB5 HE5
          go_upto_region 18 with ((with_reducible show wpList _ _ _ ({ dst := none, op := Op.store 47 (.tmp 17) (.tmp _), type := _, pos := _, after := _, guard := _ } :: _) _ _); (refine wpList_store_whole rfl 47 _ _ rfl z6 rfl _ _ rfl 47 (by rw [← hz6]; exact HN6.out _) (by rw [Try.sizeSt, List.size_toArray, cellsSt_len HL4.out]) (by simp [cellsSt_len HL4.out]) (by simpa using cellsSt_one rfl _) ?_); intro w7 hr7 hg7)
          obtain ⟨s7, b7⟩ := new_state hz6 HW4.out.len hr7 hg7
          have HS7 := Lib.hid (HS6.out.below b7); have HS57 := Lib.hid (HS56.out.below b7); have HIB7 := Lib.hid (HIB6.out.below b7); have HIC7 := Lib.hid s7; have HB7 := Lib.hid (bNext b7 HB6.out)
          clear s7 b7 hr7 hg7 hz6 HN6 HS6 HB6 HIB6 HS56
          go_wp2_with (first
            | ((with_reducible show wpList _ _ _ ({ dst := some _, op := Op.load 47 (.tmp 14), type := _, pos := _, after := _, guard := _ } :: _) _ _); (refine wpList_load_rowW (by rfl) 47 _ rfl z4 rfl 47 _ (0, 0) _ (HIB7.out).row0 Try.underlying47 rfl (by rw [Try.sizeSt, List.size_toArray, cellsSt_len HL4.out]) ?_))
            | ((with_reducible show wpList _ _ _ ({ dst := some _, op := Op.load 47 (.tmp 17), type := _, pos := _, after := _, guard := _ } :: _) _ _); (refine wpList_load_rowW (by rfl) 47 _ rfl z6 rfl 47 _ (0, 0) _ (HIC7.out).row0 Try.underlying47 rfl (by rw [Try.sizeSt, List.size_toArray, cellsSt_len HL4.out]) ?_)))
          refine (same_any' _ _ _ S.1.1 HW4.out HML.out HS57.out HS7.out).mono ?_
          rintro e w8 ⟨rfl, hb8⟩
          go_wp2_with fail
          go_ret
          exact ⟨rfl, bNext hb8 HB7.out⟩
    · have t0 : decide ((100 : Int) < (mem0.length : Int)) = false := by simp; omega
      obtain ⟨mem, hmem⟩ : ∃ mem, mem0 = mem := ⟨_, rfl⟩
      subst hmem
      have HQ := HS
      have hlt : mem0.length ≤ 2097152 := by omega
      go_enter Try.func9, Try.ntmps9
      go_wp2_with fail
      refine (shown_any _).mono ?_
      rintro e w1 ⟨rfl, hB1⟩
      go_wp2_with fail
      refine (K1.out _ hB1).mono ?_
      rintro e w2 ⟨⟨v, rfl, hr⟩, hb⟩
      obtain ⟨al, cl, rfl, -⟩ := own_form0 hr
      have HB2 := Lib.hid (bNext hb hB1); have HR2 := Lib.hid hr; have HBS := Lib.hid hB1.size
      clear hb hr hB1
      go_upto_region 7 with fail
      clear t0
      go_wp2_with fail
      go_loopw [36] (fun i wr => ∃ k : Nat, k ≤ l.length ∧ i = .int .i64 k ∧ RowP w1.heap.size wr (.slice al l.length cl) (mixK (nameBy b) l k) ∧ Below w.heap.size w wr) (fun i _ => l.length - (intOf i).toNat)
      case atStart => exact ⟨0, Nat.zero_le _, rfl, by rw [mixK_zero]; exact HR2.out, HB2.out⟩
      case round =>
        obtain ⟨k, hk, rfl, hr, hB⟩ := hrel
        by_cases hlt2 : k < l.length
        · have hml := mixK_len (nameBy b) l hk
          have hma := mixK_at (nameBy b) l hlt2
          have hms := mixK_succ (nameBy b) l hlt2
          have hr0 := hr
          obtain ⟨g, cap, eg, hg0, hg1, hg2, hg3⟩ := flat_form hr (by omega)
          rw [hml] at eg
          cases eg
          have hki : k < (mixK (nameBy b) l k).length := by omega
          have cm := cellRP hr hml.symm hki (j := 0) (by omega)
          have ct := cellRP hr hml.symm hki (j := 6) (by omega)
          rw [hma] at cm ct
          have cm' : wr.cell? ⟨g, k * 7, none⟩ = some (.int .i64 l[k].mark) := cm
          have ct' : wr.cell? ⟨g, k * 7 + 6, none⟩ = some (.int .i64 l[k].to) := ct
          have fm := frozenRP hr hml.symm (k * 7)
          have ft := frozenRP hr hml.symm (k * 7 + 6)
          have hx := HMK.out l[k] (List.getElem_mem hlt2)
          obtain ⟨hx1, hx2⟩ := hx
          have hwx := HP.out l[k] (List.getElem_mem hlt2)
          have R1 := Lib.hid (rowMark hr hml.symm hki hma)
          have R2 := Lib.hid (rowTo hr hml.symm hki hma)
          have R3 := Lib.hid (rowBoth hr hml.symm hki hma)
          have hself : mixK (nameBy b) l k = (mixK (nameBy b) l k).set k l[k] := by rw [← hma]; exact (List.set_getElem_self hki).symm
          rw [hself] at hr
          have R0 := Lib.hid hr
          have HMS := Lib.hid hms; have HB := Lib.hid hB
          have HBb := hB.size
          generalize l[k] = x at cm' ct' hx1 hx2 R0 R1 R2 R3 HMS hwx
          obtain ⟨m, i, t⟩ := x
          dsimp only at cm' ct' hx1 hx2 R0 R1 R2 R3
          have hwm := hwx.mark; have hwt := hwx.to
          dsimp only at hwm hwt
          clear hr hr0 hB hml hma hms cm ct hself hki hwx
          have hz0 : (0 : Int) ≤ (k : Int) := by omega
          have hz1 : (k : Int) < (l.length : Int) := by omega
          have hB1' : w.heap.size ≤ g := by have := HBS.out; omega
          by_cases hm0 : 0 < m
          · by_cases ht0 : 0 < t
            · go_wp2_with fail
              go_roundw
              case rel => exact ⟨k + 1, by omega, by go_num, by rw [HMS.out]; unfold renP nameBy; rw [if_pos hm0, if_pos ht0]; exact R3.out _ _, (HB.out.setCell (p := ⟨g, _, none⟩) hB1' _).setCell (p := ⟨g, _, none⟩) hB1' _⟩
              case measure => simp [intOf]; omega
            · have ht0' : decide (0 < t) = false := by simpa using ht0
              go_wp2_with fail
              go_roundw
              case rel => exact ⟨k + 1, by omega, by go_num, by rw [HMS.out]; unfold renP nameBy; rw [if_pos hm0, if_neg ht0]; exact R1.out _, HB.out.setCell (p := ⟨g, _, none⟩) hB1' _⟩
              case measure => simp [intOf]; omega
          · have hm0' : decide (0 < m) = false := by simpa using hm0
            by_cases ht0 : 0 < t
            · go_wp2_with fail
              go_roundw
              case rel => exact ⟨k + 1, by omega, by go_num, by rw [HMS.out]; unfold renP nameBy; rw [if_neg hm0, if_pos ht0]; exact R2.out _, HB.out.setCell (p := ⟨g, _, none⟩) hB1' _⟩
              case measure => simp [intOf]; omega
            · have ht0' : decide (0 < t) = false := by simpa using ht0
              go_wp2_with fail
              go_roundw
              case rel => exact ⟨k + 1, by omega, by go_num, by rw [HMS.out]; unfold renP nameBy; rw [if_neg hm0, if_neg ht0]; exact R0.out, HB.out⟩
              case measure => simp [intOf]; omega
        · obtain rfl : k = l.length := by omega
          obtain ⟨al', cl', eq, hp1, hp2, _, hel⟩ := RowP.sl hr HMW.out
          rw [mixK_len (nameBy b) l (Nat.le_refl _)] at eq
          cases eq
          have hlkk := link_any wr al cl (mixK (nameBy b) l l.length) (by rw [mixK_len (nameBy b) l (Nat.le_refl _)]; unfold maxLen; omega) hel
          rw [mixK_len (nameBy b) l (Nat.le_refl _), HLK.out] at hlkk
          have LK := Lib.hid hlkk; have HB := Lib.hid hB
          clear hr hel hlkk hB hp1 hp2
          go_wp2_with fail
          refine LK.out.mono ?_
          rintro e w3 ⟨⟨v, rfl, hr⟩, hb⟩
          have hB3 := bNext hb HB.out
          obtain ⟨ac, cc', rfl, _, _, _, hel⟩ := RowIns.sl hr HW.out
          dsimp only at hel ⊢
          have HE3 := Lib.hid hel; have HB3 := Lib.hid hB3
          clear hb hr hel hB3 LK HB
          go_wp2_with fail
          refine (run_any w3 _ mem0 ca cc code 500 (HE.out.below insRep HB3.out (Nat.le_refl _)) hlen (HQ.out.below HB3.out)).mono ?_
          rintro e w4 ⟨v4, rfl, hs4, hw4, hb4⟩
          have hrr := fun W he hs => run_any W (.slice a1 mem0.length c1) mem0 ac cc' code 500 he hlen hs
          obtain ⟨S, hS⟩ : ∃ S, RunS code mem0 500 = S := ⟨_, rfl⟩
          rw [hS] at hs4 hw4 ⊢
          have hml : S.1.1.mem.length ≤ 9223372036854775806 := by
            rw [← hS]; exact RunS_small _ _ _
          obtain ⟨a3, c3, rfl⟩ := hs4.form
          have HR := Lib.hid hrr
          have HS4 := Lib.hid hs4; have HW4 := Lib.hid hw4; have HB4 := Lib.hid (bNext hb4 HB3.out); have HES := Lib.hid hS; have HML := Lib.hid hml
          have HE4 := Lib.hid (HE3.out.below insRep hb4 (Nat.le_refl _))
          have HN4 := Lib.hid (fun (c : Array Value) => World.alloc_heap_new w4 (.cells c 47))
          have HL4 := Lib.hid hw4.len
          obtain ⟨z4, hz4⟩ : ∃ z4, w4.heap.size = z4 := ⟨_, rfl⟩
          clear hs4 hw4 hb4 hS hml HB3 HE3 hrr
          go_upto_region 17 with ((with_reducible show wpList _ _ _ ({ dst := none, op := Op.store 47 (.tmp 14) (.tmp _), type := _, pos := _, after := _, guard := _ } :: _) _ _); (refine wpList_store_whole rfl 47 _ _ rfl z4 rfl _ _ rfl 47 (by rw [← hz4]; exact HN4.out _) (by rw [Try.sizeSt, List.size_toArray, cellsSt_len HL4.out]) (by simp [cellsSt_len HL4.out]) (by simpa using cellsSt_one rfl _) ?_); intro w5 hr5 hg5)
          obtain ⟨s5, b5⟩ := new_state hz4 HW4.out.len hr5 hg5
          have HS5 := Lib.hid (HS4.out.below b5); have HIB := Lib.hid s5; have HB5 := Lib.hid (bNext b5 HB4.out); have HE5 := Lib.hid (HE4.out.below insRep b5 (Nat.le_refl _))
          clear s5 b5 hr5 hg5 hz4 HN4 HS4 HB4 HE4
          go_wp2_with fail
          refine (HR.out w5 HE5.out (HQ.out.below HB5.out)).mono ?_
          rintro e w6 ⟨v6, rfl, hs6, hw6, hb6⟩
          rw [HES.out] at hs6 hw6 ⊢
          obtain ⟨a6, c6, rfl⟩ := hs6.form
          have HS6 := Lib.hid hs6; have HB6 := Lib.hid (bNext hb6 HB5.out); have HIB6 := Lib.hid (HIB.out.below hb6); have HS56 := Lib.hid (HS5.out.below hb6)
          have HN6 := Lib.hid (fun (c : Array Value) => World.alloc_heap_new w6 (.cells c 47))
          obtain ⟨z6, hz6⟩ : ∃ z6, w6.heap.size = z6 := ⟨_, rfl⟩
          clear hs6 hw6 hb6 HIB HS5 HB5 HE5
          go_upto_region 18 with ((with_reducible show wpList _ _ _ ({ dst := none, op := Op.store 47 (.tmp 17) (.tmp _), type := _, pos := _, after := _, guard := _ } :: _) _ _); (refine wpList_store_whole rfl 47 _ _ rfl z6 rfl _ _ rfl 47 (by rw [← hz6]; exact HN6.out _) (by rw [Try.sizeSt, List.size_toArray, cellsSt_len HL4.out]) (by simp [cellsSt_len HL4.out]) (by simpa using cellsSt_one rfl _) ?_); intro w7 hr7 hg7)
          obtain ⟨s7, b7⟩ := new_state hz6 HW4.out.len hr7 hg7
          have HS7 := Lib.hid (HS6.out.below b7); have HS57 := Lib.hid (HS56.out.below b7); have HIB7 := Lib.hid (HIB6.out.below b7); have HIC7 := Lib.hid s7; have HB7 := Lib.hid (bNext b7 HB6.out)
          clear s7 b7 hr7 hg7 hz6 HN6 HS6 HB6 HIB6 HS56
          go_wp2_with (first
            | ((with_reducible show wpList _ _ _ ({ dst := some _, op := Op.load 47 (.tmp 14), type := _, pos := _, after := _, guard := _ } :: _) _ _); (refine wpList_load_rowW (by rfl) 47 _ rfl z4 rfl 47 _ (0, 0) _ (HIB7.out).row0 Try.underlying47 rfl (by rw [Try.sizeSt, List.size_toArray, cellsSt_len HL4.out]) ?_))
            | ((with_reducible show wpList _ _ _ ({ dst := some _, op := Op.load 47 (.tmp 17), type := _, pos := _, after := _, guard := _ } :: _) _ _); (refine wpList_load_rowW (by rfl) 47 _ rfl z6 rfl 47 _ (0, 0) _ (HIC7.out).row0 Try.underlying47 rfl (by rw [Try.sizeSt, List.size_toArray, cellsSt_len HL4.out]) ?_)))
          refine (same_any' _ _ _ S.1.1 HW4.out HML.out HS57.out HS7.out).mono ?_
          rintro e w8 ⟨rfl, hb8⟩
          go_wp2_with fail
          go_ret
          exact ⟨rfl, bNext hb8 HB7.out⟩
  · have hx := hbad he
    injection hx with h1 h2
    subst h1 h2
    go_enter Try.func9, Try.ntmps9
    go_wp2_with fail
    refine (shown_any _).mono ?_
    rintro e w1 ⟨rfl, hB1⟩
    go_wp2_with fail
    refine (K1.out _ hB1).mono ?_
    rintro e w2 ⟨⟨v, rfl, hr⟩, hb⟩
    obtain ⟨al, cl, rfl, -⟩ := own_form0 hr
    have hB2 := bNext hb hB1
    clear hb hr
    go_wp2_with fail
    go_ret
    exact ⟨rfl, hB2⟩

set_option maxRecDepth 100000 in
theorem LinkRuns_lifted (os : Os) (started : os.Started) (H : Type) (enc : TypeId × Value → H) :
    ReturnsInHanded {} Try.checked os 9 .any (Rows.linkRunsSpec.pre6 enc Try.prog Try.f9 Rows.linkRunsRow.domain false) (Rows.linkRunsSpec.post enc Try.prog Try.f9 false true false false) := by
  refine returnsInHanded_of_change (C := Try.checked) own started (by kernel_rfl) Try.func9
    (ChangeSpec.witness6 (enc := enc) (C := Try.checked) false ⟨#[], #[.slice none 0 0, .slice none 0 0, .int .u16 0], []⟩ 8 (by kernel_rfl) (by kernel_rfl) (by kernel_rfl) (by kernel_rfl)) ?_
  intro W base args ds gs before hval0 hW hcnd _
  have hval : ∀ (j : Nat) t v, Try.f9.params[j]? = some t → args[j]? = some v → Value.okWide Try.prog W .any base t v := hval0
  have hW' := hW
  obtain ⟨p, q, hA0, hV, rfl, hfz, hnd⟩ := hW
  have hA : DataW.TrodAll enc Try.prog W 0 (fun _ => true) true Try.f9.params.toList args.toList ds p := hA0
  rw [Try.params9] at hA hval
  obtain ⟨v0, vs0, d0, ds0, p0, q0, hargs, rfl, rfl, h0, r0⟩ := trodAll_cons hA
  obtain ⟨v1, vs1, d1, ds1, p1, q1, rfl, rfl, rfl, h1, r1⟩ := trodAll_cons r0
  obtain ⟨v2, vs2, d2, ds2, p2, q2, rfl, rfl, rfl, h2, r2⟩ := trodAll_cons r1
  obtain ⟨rfl, rfl, rfl⟩ := trodAll_nil r2
  obtain rfl : args = #[v0, v1, v2] := by cases args; simp_all
  obtain ⟨rfl, rfl⟩ := trodVars_none hV
  have k0 := h0
  have lt0 : ∀ x ∈ p0, x.block < W.heap.size := by obtain ⟨m, hm⟩ := k0; exact DataW.trod_lt m _ _ _ hm
  obtain ⟨xs0, s0⟩ := opens_sl Try.underlying24 opens_inss (hval 0 24 v0 rfl rfl) h0
  have k1 := h1
  have lt1 : ∀ x ∈ p1, x.block < W.heap.size := by obtain ⟨m, hm⟩ := k1; exact DataW.trod_lt m _ _ _ hm
  obtain ⟨xs1, s1⟩ := opens_sl Try.underlying43 opens_i64 (hval 1 43 v1 rfl rfl) h1
  obtain ⟨a2, rfl, rfl, rfl, w2⟩ := open_int Try.underlying44 (hval 2 44 v2 rfl rfl) h2
  clear hA0 hval0
  refine (LinkRuns_walk W v0 xs0 v1 xs1 a2 s0 s1 w2).mono fun e W' ⟨he, bel⟩ => ?_
  subst he
  exact ⟨_, rfl, _, _, _, [], _, [], hW', trodAll_mk1 (shut_bool Try.underlying4 _), (trodAll_cons_mk (Below.trod laidOut (by kernel_rfl) (of_decide_eq_true (by kernel_rfl)) k0 bel lt0) (trodAll_cons_mk (Below.trod laidOut (by kernel_rfl) (of_decide_eq_true (by kernel_rfl)) k1 bel lt1) (trodAll_cons_mk (shut_int Try.underlying44 w2) trodAll_mk0))), rfl, bel.frame _, fun h => by cases h⟩

/-- The given statement. -/
theorem LinkRuns_holds : Rows.LinkRunsSaid :=
  OpenClaim.holds_of_wide 9 Try.f9 rfl rfl rfl rfl rfl rfl rfl ⟨rfl, rfl, rfl, rfl, rfl⟩ rfl rfl rfl rfl rfl (by kernel_rfl) Try.func9 (by kernel_rfl)
    (of_decide_eq_true (by kernel_rfl)) (by unfold Func.isWrapper; rw [if_neg (by decide +kernel)]; exact ⟨rfl, rfl⟩)
    (fun os started H enc _ => LinkRuns_lifted os started H enc)
#print axioms LinkRuns_holds
end Go.Proofs.Ytegjcghcknpjeaa
