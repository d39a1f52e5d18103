import Derived.Test.YtegjcghcknpjeaaP13
import Derived.Test.YtegjcghcknpjeaaRows1
import Derived.Deep.RegionHeld3
import Derived.Deep.DrawnRows
import Derived.Outline
namespace Go.Proofs.Ytegjcghcknpjeaa
open Go.RowKit
attribute [local go_sem ↓] Go.wp_at_zero Go.wp_at_succ

theorem Try.infoBool : (Try.prog.info? 4).map (fun i => (i.zero, i.size, i.bytes)) = some (some (.bool false), 1, 1) := by kernel_rfl
theorem Try.infoInt : (Try.prog.info? 3).map (fun i => (i.zero, i.size, i.bytes)) = some (some (.int .i64 0), 1, 8) := by kernel_rfl

def ledF (n : Nat) (code : List Ins) (k j : Nat) : Value := .bool (ledIn n (code.take k) j)
def markF (n : Nat) (code : List Ins) (k j : Nat) : Value := .int .i64 (if j < k then markU n code j else 0)
def unlF (n : Nat) (code : List Ins) (k : Nat) : List Piece := (List.range k).map fun j => pieceU n code (code.getD j zeroI) j
theorem unlF_succ (n : Nat) (code : List Ins) (k : Nat) : unlF n code (k + 1) = unlF n code k ++ [pieceU n code (code.getD k zeroI) k] := by unfold unlF; rw [List.range_succ, List.map_append]; rfl
theorem unlF_len (n : Nat) (code : List Ins) (k : Nat) : (unlF n code k).length = k := by unfold unlF; simp
theorem ledF_skip {n k : Nat} {code : List Ins} (h : k < code.length) (hl : leadsTo n code[k] = none) (j : Nat) : ledF n code (k + 1) j = ledF n code k j := by unfold ledF; rw [ledIn_succ h, hl]; simp
theorem ledF_put {n k t : Nat} {code : List Ins} (h : k < code.length) (hl : leadsTo n code[k] = some t) (j : Nat) : ledF n code (k + 1) j = if j = t then .bool true else ledF n code k j := by
  unfold ledF
  rw [ledIn_succ h, hl]
  by_cases e : j = t
  · subst e; simp
  · have e' : ¬ t = j := fun h => e h.symm
    rw [if_neg e]; simp [e']
theorem leadsTo_none1 {n : Nat} {x : Ins} (h : leadsB x.op = false) : leadsTo n x = none := by unfold leadsTo; rw [if_neg (by simp [h])]
theorem leadsTo_none2 {n : Nat} {x : Ins} (h : x.imm < 0) : leadsTo n x = none := by unfold leadsTo; rw [if_neg (by omega)]
theorem leadsTo_none3 {n : Nat} {x : Ins} (h : ¬ x.imm < n) : leadsTo n x = none := by unfold leadsTo; rw [if_neg (by omega)]
theorem leadsTo_at {n t : Nat} {x : Ins} (h1 : leadsB x.op = true) (h2 : x.imm = t) (h3 : t < n) : leadsTo n x = some t := by unfold leadsTo; rw [if_pos ⟨h1, by omega, by omega⟩, h2]; rfl

set_option maxRecDepth 100000 in
set_option maxHeartbeats 8000000 in
theorem runlink_any (w : World) (a : Option Addr) (c : Nat) (code : List Ins) (hm : code.length ≤ maxLen) (h : insRep.Els w a code) :
    Calls Try.prog 16 #[.slice a code.length c] w fun e w' => RetPieces w.heap.size (unlinkS code) e w' ∧ Below w.heap.size w w' := by
  have HI := Lib.hid h; clear h
  unfold maxLen at hm
  by_cases hbig : (32768 : Int) < (code.length : Int)
  · have hs : unlinkS code = ([], 150) := by unfold unlinkS; rw [if_pos (by omega)]
    have Hs := Lib.hid hs; clear hs
    go_enter Try.func16, Try.ntmps16
    go_wp2_with fail
    go_ret2
    exact ⟨by rw [Hs.out]; exact ⟨_, rfl, RowP.nil _ _⟩, Below.refl _ _⟩
  · have hbig' : decide ((32768 : Int) < (code.length : Int)) = false := by simpa using hbig
    obtain ⟨n, hn⟩ : ∃ n, code.length = n := ⟨_, rfl⟩
    have hbad : code.any (fun i => !i.right) = true → unlinkS code = ([], 150) := fun hany => by unfold unlinkS; rw [if_neg (by omega), if_pos hany]
    have hgood : code.any (fun i => !i.right) = false → unlinkS code = (unlF n code n, 0) := fun hany => by unfold unlinkS unlF; rw [if_neg (by omega), if_neg (by rw [hany]; simp), hn]
    rw [hn] at hbig' hbig hm ⊢
    have Hbad := Lib.hid hbad; have Hgood := Lib.hid hgood; have Hn := Lib.hid hn; clear hbad hgood hn
    obtain ⟨i0, hi, hz0, hz1, hz2⟩ := info_parts Try.infoBool
    have Hi := Lib.hid hi; have Hz0 := Lib.hid hz0; have Hz1 := Lib.hid hz1; have Hz2 := Lib.hid hz2; clear hi hz0 hz1 hz2
    obtain ⟨i1, hi, hz0, hz1, hz2⟩ := info_parts Try.infoInt
    have Ji := Lib.hid hi; have Jz0 := Lib.hid hz0; have Jz1 := Lib.hid hz1; have Jz2 := Lib.hid hz2; clear hi hz0 hz1 hz2
    obtain ⟨i2, hi, hz0, hz1, hz2⟩ := info_parts Try.infoP
    have Pi := Lib.hid hi; have Pz0 := Lib.hid hz0; have Pz1 := Lib.hid hz1; have Pz2 := Lib.hid hz2; clear hi hz0 hz1 hz2
    go_enter Try.func16, Try.ntmps16
    go_wp2_with (at_make; refine wpList_make_full _ rfl _ _ 65 rfl w.heap.size 4 i0 _ 1 Try.underlying65 Hi.out Hz0.out Hz1.out _ _ _ _ n rfl rfl rfl rfl ?c2 ?c3 ?c4 ?_)
    case c2 => rw [Hz2.out]; omega
    case c3 => unfold maxLen; omega
    intro w2 hown hgrow
    obtain ⟨L, hL⟩ : ∃ L, w.heap.size = L := ⟨_, rfl⟩
    rw [hL] at hown
    have hrow : w2.heap[L]? = some (.cells (rowOf n (ledF n code 0)) 4 (0, 0)) := by
      rw [row_made hown]; congr 2
    have hB : Below w.heap.size w w2 := (Below.refl _ _).grown hgrow (Nat.le_refl _) (by simp)
    have Hr := Lib.hid hrow; have HB := Lib.hid hB
    have HL := Lib.hid hL
    rw [hL]
    clear hown hgrow hrow hB hL
    go_wp2_with fail
    go_loopw [5] (fun i wr => ∃ k : Nat, k ≤ n ∧ i = .int .i64 k ∧ (code.take k).any (fun i => !i.right) = false ∧ wr.heap[L]? = some (.cells (rowOf n (ledF n code k)) 4 (0, 0)) ∧ Below w.heap.size w wr) (fun i _ => n - (intOf i).toNat)
    case atStart => exact ⟨0, Nat.zero_le _, rfl, rfl, Hr.out, HB.out⟩
    case round =>
      obtain ⟨k, hk, rfl, hany, hr, hB⟩ := hrel
      by_cases hlt : k < n
      · have hkc : k < code.length := by rw [Hn.out]; exact hlt
        obtain ⟨b, off, rfl, hw, x0, x1, x2, x3, x4⟩ := els_ins (HI.out.below insRep hB (Nat.le_refl _)) hkc
        have hz0 : (0 : Int) ≤ (k : Int) := by omega
        have hz1 : (k : Int) < (n : Int) := by omega
        have hsk := ledF_skip (n := n) hkc
        have hpt := fun t => ledF_put (n := n) (t := t) hkc
        have hnext : code[k].right = true → (code.take (k + 1)).any (fun i => !i.right) = false := fun hr => by rw [List.take_succ_eq_append_getElem hkc, List.any_append, hany]; simp [hr]
        have hfail : code[k].right = false → code.any (fun i => !i.right) = true := fun hr => List.any_eq_true.2 ⟨code[k], List.getElem_mem hkc, by rw [hr]; rfl⟩
        obtain ⟨x, hx⟩ : ∃ x, code[k] = x := ⟨_, rfl⟩
        rw [hx] at hw x0 x1 x2 x3 x4 hsk hpt hnext hfail
        have hq := fun W => rRight_any W x.op x.a x.b x.c x.imm hw.op.1 hw.op.2
        have hrl := fun W => rleads_any W x.op
        have he : x.right = insRight x.op x.a x.b x.c x.imm := rfl
        rw [← he] at hq
        have himm := hw.imm
        have Hsk := Lib.hid hsk; have Hpt := Lib.hid hpt; have Hnext := Lib.hid hnext; have Hfail := Lib.hid hfail; have HB' := Lib.hid hB; have Hr' := Lib.hid hr; have HRL := Lib.hid hrl
        clear hx hsk hpt hnext hfail hB hr hany he hrl hw
        cases hxr : x.right with
        | false =>
          rw [hxr] at hq
          have Hxr := Lib.hid hxr; have HQ := Lib.hid hq; clear hxr hq
          go_wp2_with fail
          refine (HQ.out _).mono ?_
          rintro e w3 ⟨rfl, hb⟩
          have hB3 := Lib.hid (bNext hb HB'.out); clear hb
          go_wp2_with fail
          go_ret2
          exact ⟨by rw [Hbad.out (Hfail.out Hxr.out)]; exact ⟨_, rfl, RowP.nil _ _⟩, hB3.out⟩
        | true =>
          rw [hxr] at hq
          have Hn1 := Lib.hid (Hnext.out hxr); have HQ := Lib.hid hq; clear hxr hq
          cases hlb : leadsB x.op with
          | false =>
            have Hl := Lib.hid (leadsTo_none1 (n := n) hlb)
            have hrl := HRL.out; rw [hlb] at hrl
            have HR2 := Lib.hid hrl; clear hlb hrl
            go_wp2_with fail
            refine (HQ.out _).mono ?_
            rintro e w3 ⟨rfl, hb⟩
            have y0 := keepCell hb x0
            have hB3 := Lib.hid (bNext hb HB'.out); have hr3 := Lib.hid (block_below Hr'.out hb)
            clear hb
            go_wp2_with fail
            refine (HR2.out _).mono ?_
            rintro e w4 ⟨rfl, hb⟩
            have hB4 := Lib.hid (bNext hb hB3.out); have hr4 := Lib.hid (block_below hr3.out hb)
            clear hb
            go_wp2_with fail
            go_roundw
            case rel => exact ⟨k + 1, by omega, by go_num, Hn1.out, by rw [hr4.out, rowOf_congr fun j _ => (Hsk.out Hl.out j).symm], hB4.out⟩
            case measure => simp [intOf]; omega
          | true =>
            have hrl := HRL.out; rw [hlb] at hrl
            have HR2 := Lib.hid hrl; have Hlb := Lib.hid hlb; clear hlb hrl
            by_cases hi0 : 0 ≤ x.imm
            · by_cases hin : x.imm < n
              · obtain ⟨t, ht⟩ := Int.eq_ofNat_of_zero_le hi0
                have htn : t < n := by omega
                have hz2 : (0 : Int) ≤ (t : Int) := by omega
                have hz3 : (t : Int) < (n : Int) := by omega
                have hz4 : (t : Int) ≤ 2147483647 := by omega
                have Hl := Lib.hid (leadsTo_at Hlb.out ht htn)
                have hq2 := HQ.out
                rw [ht] at x4 hq2
                have HQ := Lib.hid hq2
                clear ht hi0 hin himm hq2
                go_wp2_with fail
                refine (HQ.out _).mono ?_
                rintro e w3 ⟨rfl, hb⟩
                have y0 := keepCell hb x0; have y4 := keepCell hb x4
                have hB3 := Lib.hid (bNext hb HB'.out); have hr3 := Lib.hid (block_below Hr'.out hb)
                clear hb
                go_wp2_with fail
                refine (HR2.out _).mono ?_
                rintro e w4 ⟨rfl, hb⟩
                have u4 := keepCell hb y4
                have hr4 := block_below hr3.out hb
                have hf4 : w4.frozen? ⟨L, t, none⟩ = false := frozen_of_row w4 L _ _ _ hr4
                have hc4 := rowOf_cell hr4 htn
                unfold ledF at hc4
                have hB4 := Lib.hid (bNext hb hB3.out); have Hr4 := Lib.hid hr4
                clear hb hr4
                go_wp2_with fail
                go_roundw
                case rel => exact ⟨k + 1, by omega, by go_num, Hn1.out, rowOf_set Hr4.out htn (by rw [Hpt.out t Hl.out, if_pos rfl]) (fun j _ hj => by rw [Hpt.out t Hl.out, if_neg hj]), hB4.out.setCell (by show w.heap.size ≤ L; rw [HL.out]; exact Nat.le_refl _) _⟩
                case measure => simp [intOf]; omega
              · have Hl := Lib.hid (leadsTo_none3 (n := n) hin)
                have hin' : decide (x.imm < (n : Int)) = false := by simpa using hin
                go_wp2_with fail
                refine (HQ.out _).mono ?_
                rintro e w3 ⟨rfl, hb⟩
                have y0 := keepCell hb x0; have y4 := keepCell hb x4
                have hB3 := Lib.hid (bNext hb HB'.out); have hr3 := Lib.hid (block_below Hr'.out hb)
                clear hb
                go_wp2_with fail
                refine (HR2.out _).mono ?_
                rintro e w4 ⟨rfl, hb⟩
                have u4 := keepCell hb y4
                have hB4 := Lib.hid (bNext hb hB3.out); have hr4 := Lib.hid (block_below hr3.out hb)
                clear hb
                go_wp2_with fail
                go_roundw
                case rel => exact ⟨k + 1, by omega, by go_num, Hn1.out, by rw [hr4.out, rowOf_congr fun j _ => (Hsk.out Hl.out j).symm], hB4.out⟩
                case measure => simp [intOf]; omega
            · have Hl := Lib.hid (leadsTo_none2 (n := n) (x := x) (by omega))
              have hi0' : decide (0 ≤ x.imm) = false := by simpa using hi0
              go_wp2_with fail
              refine (HQ.out _).mono ?_
              rintro e w3 ⟨rfl, hb⟩
              have y0 := keepCell hb x0; have y4 := keepCell hb x4
              have hB3 := Lib.hid (bNext hb HB'.out); have hr3 := Lib.hid (block_below Hr'.out hb)
              clear hb
              go_wp2_with fail
              refine (HR2.out _).mono ?_
              rintro e w4 ⟨rfl, hb⟩
              have u4 := keepCell hb y4
              have hB4 := Lib.hid (bNext hb hB3.out); have hr4 := Lib.hid (block_below hr3.out hb)
              clear hb
              go_wp2_with fail
              go_roundw
              case rel => exact ⟨k + 1, by omega, by go_num, Hn1.out, by rw [hr4.out, rowOf_congr fun j _ => (Hsk.out Hl.out j).symm], hB4.out⟩
              case measure => simp [intOf]; omega
      · obtain rfl : k = n := by omega
        have htk : code.take k = code := List.take_of_length_le (by rw [Hn.out]; exact Nat.le_refl _)
        rw [htk] at hany
        have hg := Hgood.out hany
        have hr2 : wr.heap[L]? = some (.cells (rowOf k fun j => .bool (ledIn k code j)) 4 (0, 0)) := by rw [hr, rowOf_congr fun j _ => show ledF k code k j = .bool (ledIn k code j) from by unfold ledF; rw [htk]]
        have hbs := hB.size
        have Hg := Lib.hid hg; have Hr2 := Lib.hid hr2; have HB2 := Lib.hid hB
        clear hany hg hr2 hB htk hr
        go_wp2_with (at_make; refine wpList_make_full _ rfl _ _ 67 rfl w.heap.size 3 i1 _ 1 Try.underlying67 Ji.out Jz0.out Jz1.out _ _ _ _ k rfl rfl rfl rfl ?d2 ?d3 ?d4 ?_)
        all_goals first | (rw [Jz2.out]; omega) | (unfold maxLen; omega) | exact hbs | (intro w3)
        intro hown hgrow
        obtain ⟨M, hM⟩ : ∃ M, wr.heap.size = M := ⟨_, rfl⟩
        rw [hM] at hown
        have hmr : w3.heap[M]? = some (.cells (rowOf k (markF k code 0)) 3 (0, 0)) := by rw [row_made hown, rowOf_congr fun j _ => show Value.int .i64 0 = markF k code 0 j from by simp [markF]]
        have hlr := block_grown Hr2.out hgrow (by simp)
        have hB3 : Below w.heap.size w w3 := HB2.out.grown hgrow hbs (by simp)
        have hLM : L < M := by rw [← hM]; exact block_lt Hr2.out
        have hwL : w.heap.size ≤ L := by rw [HL.out]; exact Nat.le_refl _
        have Hmr := Lib.hid hmr; have Hlr := Lib.hid hlr; have HB3 := Lib.hid hB3
        rw [hM]
        clear hown hgrow hmr hlr hB3 hM hbs
        go_wp2_with fail
        go_loopw [7, 8] (fun m i wr => ∃ q : Nat, q ≤ k ∧ i = .int .i64 q ∧ m = .int .i64 (cntLed k code q) ∧ wr.heap[L]? = some (.cells (rowOf k fun j => .bool (ledIn k code j)) 4 (0, 0)) ∧ wr.heap[M]? = some (.cells (rowOf k (markF k code q)) 3 (0, 0)) ∧ Below w.heap.size w wr) (fun _ i _ => k - (intOf i).toNat)
        case atStart => exact ⟨0, Nat.zero_le _, rfl, rfl, Hlr.out, Hmr.out, HB3.out⟩
        case round =>
          obtain ⟨q, hq, rfl, rfl, hl, hm4, hB4⟩ := hrel
          have hbd := cntLed_bd k code q
          have hcs : cntLed k code (q + 1) = cntLed k code q + if ledIn k code q then 1 else 0 := rfl
          by_cases hlt : q < k
          · have cl := rowOf_cell hl hlt
            have cm := rowOf_cell hm4 hlt
            have fm : wr.frozen? ⟨M, q, none⟩ = false := frozen_of_row wr M _ _ _ hm4
            unfold markF at cm
            have hz0 : (0 : Int) ≤ (q : Int) := by omega
            have hz1 : (q : Int) < (k : Int) := by omega
            obtain ⟨m, hm⟩ : ∃ m, cntLed k code q = m := ⟨_, rfl⟩
            rw [hm] at hbd hcs ⊢
            have Hl := Lib.hid hl; have Hm4 := Lib.hid hm4; have HB4 := Lib.hid hB4; have Hcs := Lib.hid hcs
            clear hl hm4 hB4 hcs hm
            cases hld : ledIn k code q with
            | false =>
              rw [hld] at cl
              have Hld := Lib.hid hld; clear hld
              go_wp2_with fail
              go_roundw
              case rel =>
                refine ⟨q + 1, by omega, by go_num, by rw [Hcs.out, Hld.out]; simp, Hl.out, ?_, HB4.out⟩
                rw [Hm4.out, rowOf_congr fun j _ => ?_]
                unfold markF
                by_cases e : j = q
                · subst e; rw [if_neg (by omega), if_pos (by omega)]; unfold markU; rw [Hld.out]; rfl
                · by_cases e2 : j < q
                  · rw [if_pos e2, if_pos (by omega)]
                  · rw [if_neg e2, if_neg (by omega)]
              case measure => simp [intOf]; omega
            | true =>
              rw [hld] at cl
              have Hld := Lib.hid hld; clear hld
              go_wp2_with fail
              go_roundw
              case rel =>
                refine ⟨q + 1, by omega, by go_num, by rw [Hcs.out, Hld.out]; simp, block_other Hl.out (by show M ≠ L; omega) _, rowOf_set Hm4.out hlt ?_ (fun j _ hj => ?_), HB4.out.setCell (by show w.heap.size ≤ M; omega) _⟩
                · unfold markF; rw [if_pos (by omega)]; unfold markU; rw [Hld.out, if_pos rfl, Hcs.out, Hld.out]; rfl
                · unfold markF
                  by_cases e2 : j < q
                  · rw [if_pos e2, if_pos (by omega)]
                  · rw [if_neg e2, if_neg (by omega)]
              case measure => simp [intOf]; omega
          · obtain rfl : q = k := by omega
            have hm5 : wr.heap[M]? = some (.cells (rowOf q fun j => .int .i64 (markU q code j)) 3 (0, 0)) := by rw [hm4, rowOf_congr fun j hj => show markF q code q j = .int .i64 (markU q code j) from by unfold markF; rw [if_pos hj]]
            have Hm5 := Lib.hid hm5; have HB5 := Lib.hid hB4
            clear hm4 hm5 hB4 hcs hl hbd
            go_wp2_with fail
            go_loopw [9, 10] (fun v i wr => ∃ k : Nat, k ≤ q ∧ i = .int .i64 k ∧ RowP w.heap.size wr v (unlF q code k) ∧ wr.heap[M]? = some (.cells (rowOf q fun j => .int .i64 (markU q code j)) 3 (0, 0)) ∧ (∀ g, v.ownBlock = some g → M < g) ∧ Below w.heap.size w wr) (fun _ i _ => q - (intOf i).toNat)
            case atStart => exact ⟨0, Nat.zero_le _, rfl, RowP.nil _ _, Hm5.out, (fun g h => by cases h), HB5.out⟩
            case round =>
              obtain ⟨k, hk, rfl, hrow, hmk, hgM, hB6⟩ := hrel
              by_cases hlt : k < q
              · have hkc : k < code.length := by rw [Hn.out]; exact hlt
                obtain ⟨b, off, rfl, hw, x0, x1, x2, x3, x4⟩ := els_ins (HI.out.below insRep hB6 (Nat.le_refl _)) hkc
                have cm := rowOf_cell hmk hlt
                have hz0 : (0 : Int) ≤ (k : Int) := by omega
                have hz1 : (k : Int) < (q : Int) := by omega
                have hgd : code.getD k zeroI = code[k] := by rw [List.getD_eq_getElem?_getD, List.getElem?_eq_getElem hkc]; rfl
                have hsc := unlF_succ q code k
                have hul := unlF_len q code k
                rw [hgd] at hsc
                obtain ⟨x, hx⟩ : ∃ x, code[k] = x := ⟨_, rfl⟩
                rw [hx] at hw x0 x1 x2 x3 x4 hsc
                have hrl := fun W => rleads_any W x.op
                have himm := hw.imm
                have hbs := hB6.size
                have hMw : M < wr.heap.size := block_lt hmk
                obtain ⟨mk, hmke⟩ : ∃ mk, markU q code k = mk := ⟨_, rfl⟩
                rw [hmke] at cm
                have Hrow := Lib.hid hrow; have Hmk := Lib.hid hmk; have HgM := Lib.hid hgM; have HB6 := Lib.hid hB6; have Hsc := Lib.hid hsc; have Hul := Lib.hid hul; have HRL := Lib.hid hrl; have Hmke := Lib.hid hmke
                clear hrow hmk hgM hB6 hsc hul hrl hx hgd hw hmke
                have fin : ∀ (p : Piece), pieceU q code x k = p → ∀ (W : World), Below w.heap.size w W → W.heap[M]? = some (.cells (rowOf q fun j => .int .i64 (markU q code j)) 3 (0, 0)) → ∀ o v' w', w'.ownsRow w.heap.size 37 7 v' (k + 1) ((unlF q code k).flatMap Piece.enc ++ Piece.enc p) → (W.alloc o).grownBy w' (Value.ownBlock u9) → Newer (W.alloc o) u9 v' →
                    RowP w.heap.size w' v' (unlF q code (k + 1)) ∧ w'.heap[M]? = some (.cells (rowOf q fun j => .int .i64 (markU q code j)) 3 (0, 0)) ∧ (∀ g, v'.ownBlock = some g → M < g) ∧ Below w.heap.size w w' := fun p e W hBW hMW o v' w' h hg hn => by
                  refine ⟨by rw [Hsc.out, e]; exact RowP.of_append Hul.out h, block_grown (block_alloc hMW o) hg (fun e => absurd (HgM.out M e) (by omega)), fun g e => ?_, (hBW.alloc hBW.size o).grown hg (Nat.le_trans hBW.size (by simp)) (fun j hj => (World.ownsRow.lt Hrow.out j hj).1)⟩
                  rcases hn with h1 | ⟨k', h1, h2⟩
                  · exact HgM.out g (by rw [← h1]; exact e)
                  · rw [e] at h1
                    cases h1
                    have := block_lt hMW
                    simp at h2
                    omega
                have aft : ∀ (cs : Array Value) (w4 : World), Below (wr.drew.alloc (.cells cs 37)).heap.size (wr.drew.alloc (.cells cs 37)) w4 → Below w.heap.size w w4 ∧ w4.heap[M]? = some (.cells (rowOf q fun j => .int .i64 (markU q code j)) 3 (0, 0)) ∧ w4.ownsRow w.heap.size 37 7 u9 k ((unlF q code k).flatMap Piece.enc) ∧
                    (∀ p v, wr.cell? p = some v → w4.cell? p = some v) ∧ (∀ j, w4.cell? ⟨wr.heap.size, j, none⟩ = cs[j]?) ∧ wr.heap.size < w4.heap.size := fun cs w4 hb => by
                  have hbel : Below wr.heap.size wr w4 := (((Below.refl _ wr).drew).alloc (Nat.le_refl _) _).trans (hb.mono (by simp))
                  refine ⟨bNext hbel HB6.out, block_below Hmk.out hbel, ?_, fun p v h => keepCell hbel h, fun j => ?_, by have := hb.size; simp at this; omega⟩
                  · have := Hrow.out
                    unfold RowP at this
                    rw [Hul.out] at this
                    exact own_below this hbel
                  · rw [cell_of_row w4 wr.heap.size j _ _ _ ((hb.block wr.heap.size (by simp)).trans (World.alloc_heap_new wr.drew _))]
                have fro : ∀ (cs : Array Value) (w4 : World), Below (wr.drew.alloc (.cells cs 37)).heap.size (wr.drew.alloc (.cells cs 37)) w4 → ∀ j, w4.frozen? ⟨wr.heap.size, j, none⟩ = false := fun cs w4 hb j =>
                  frozen_of_row w4 wr.heap.size j _ _ ((hb.block wr.heap.size (by simp)).trans (World.alloc_heap_new wr.drew _))
                have oth : ∀ g, Value.ownBlock u9 = some g → g ≠ wr.heap.size := fun g hg => by have := (World.ownsRow.lt Hrow.out g hg).2; omega
                have Fin := Lib.hid fin; have Aft := Lib.hid aft; have Fro := Lib.hid fro; have Oth := Lib.hid oth
                clear fin aft fro oth
                go_wp2_with fail
                go_region_held3 (fun w' => w'.cell? ⟨b, off + k * 5, none⟩ = some (.int .u8 x.op) ∧ w'.cell? ⟨b, off + k * 5 + 1, none⟩ = some (.int .u8 x.a) ∧ w'.cell? ⟨b, off + k * 5 + 2, none⟩ = some (.int .u8 x.b) ∧ w'.cell? ⟨b, off + k * 5 + 3, none⟩ = some (.int .u8 x.c) ∧ w'.cell? ⟨b, off + k * 5 + 4, none⟩ = some (.int .i32 x.imm) ∧ w'.cell? ⟨M, k, none⟩ = some (.int .i64 mk)) (go_keep) (fail)
                go_wp2_with fail
                cases hlb : leadsB x.op with
                | false =>
                  have hrl := HRL.out; rw [hlb] at hrl
                  have HR2 := Lib.hid hrl; have Hlb := Lib.hid hlb; clear hlb hrl
                  have Hl := Lib.hid (leadsTo_none1 (n := q) Hlb.out)
                  have hp : pieceU q code x k = ⟨mk, x, 0⟩ := by unfold pieceU; rw [Hl.out, Hmke.out]
                  have Hp := Lib.hid hp; clear hp
                  refine (HR2.out _).mono ?_
                  rintro e w4 ⟨rfl, hb⟩
                  obtain ⟨hB4, hM4, hO4, hx, hd, hz4⟩ := Aft.out _ _ hb
                  have z4 := hx _ _ x4
                  have d0 := hd 0; have d1 := hd 1; have d2 := hd 2; have d3 := hd 3; have d4 := hd 4; have d5 := hd 5; have d6 := hd 6
                  simp only [List.getElem?_toArray, List.getElem?_cons_succ, List.getElem?_cons_zero] at d0 d1 d2 d3 d4 d5 d6
                  have hbs4 := hB4.size
                  have HB4 := Lib.hid hB4; have HM4 := Lib.hid hM4; have HO4 := Lib.hid hO4
                  clear hb hx hd hB4 hM4 hO4
                  go_wp2_with (at_builtin; (refine wpList_append_src _ rfl _ _ 22 rfl w.heap.size 37 i2 _ 7 24 Try.underlying22 Pi.out Pz0.out Pz1.out Pz2.out rfl (by decide) _ k _ rfl (HO4.out.alloc _) _ 1 (Piece.enc ⟨mk, x, 0⟩) rfl (src_lit _ _ _ _ _ _ (by simp) rfl) rfl (pieceRep_one _) (by unfold maxLen; omega) (by omega) (by simp; omega) ?_); intro v' w' hown hg hnw)
                  obtain ⟨k1, k2, k3, k4⟩ := Fin.out _ Hp.out _ HB4.out HM4.out _ _ _ hown hg hnw
                  go_roundw
                  case rel => exact ⟨k + 1, by omega, by go_num, k1, k2, k3, k4⟩
                  case measure => simp [intOf]; omega
                | true =>
                  have hrl := HRL.out; rw [hlb] at hrl
                  have HR2 := Lib.hid hrl; have Hlb := Lib.hid hlb; clear hlb hrl
                  by_cases hi0 : 0 ≤ x.imm
                  · by_cases hin : x.imm < q
                    · obtain ⟨t, ht⟩ := Int.eq_ofNat_of_zero_le hi0
                      have htn : t < q := by omega
                      have hu0 : (0 : Int) ≤ (t : Int) := by omega
                      have hu1 : (t : Int) < (q : Int) := by omega
                      have hu2 : (t : Int) ≤ 2147483647 := by omega
                      have Hl := Lib.hid (leadsTo_at Hlb.out ht htn)
                      have hp : pieceU q code x k = ⟨mk, ⟨x.op, x.a, x.b, x.c, 0⟩, markU q code t⟩ := by unfold pieceU; rw [Hl.out, Hmke.out]
                      have Hp := Lib.hid hp; clear hp
                      refine (HR2.out _).mono ?_
                      rintro e w4 ⟨rfl, hb⟩
                      obtain ⟨hB4, hM4, hO4, hx, hd, hz4⟩ := Aft.out _ _ hb
                      have z4 := hx _ _ x4
                      rw [ht] at z4
                      have d0 := hd 0; have d1 := hd 1; have d2 := hd 2; have d3 := hd 3; have d4 := hd 4; have d5 := hd 5; have d6 := hd 6
                      simp only [List.getElem?_toArray, List.getElem?_cons_succ, List.getElem?_cons_zero] at d0 d1 d2 d3 d4 d5 d6
                      have f5 := Fro.out _ _ hb 5; have f6 := Fro.out _ _ hb 6
                      have hbs4 := hB4.size
                      have ct := rowOf_cell hM4 htn
                      obtain ⟨mt, hmt⟩ : ∃ mt, markU q code t = mt := ⟨_, rfl⟩
                      rw [hmt] at ct Hp
                      have HO5 := Lib.hid (fun (u1 u2 : Value) => own_other (own_other hO4 (p := ⟨wr.heap.size, 6, none⟩) Oth.out u1) (p := ⟨wr.heap.size, 5, none⟩) Oth.out u2)
                      have HM5 := Lib.hid (fun (u1 u2 : Value) => block_other (block_other hM4 (p := ⟨wr.heap.size, 6, none⟩) (by show wr.heap.size ≠ M; omega) u1) (p := ⟨wr.heap.size, 5, none⟩) (by show wr.heap.size ≠ M; omega) u2)
                      have HB5 := Lib.hid (fun (u1 u2 : Value) => (hB4.setCell (p := ⟨wr.heap.size, 6, none⟩) (by exact hbs) u1).setCell (p := ⟨wr.heap.size, 5, none⟩) (by exact hbs) u2)
                      clear hb hx hd hB4 hM4 hO4 ht hi0 hin hmt
                      go_wp2_with (at_builtin; (refine wpList_append_src _ rfl _ _ 22 rfl w.heap.size 37 i2 _ 7 24 Try.underlying22 Pi.out Pz0.out Pz1.out Pz2.out rfl (by decide) _ k _ rfl ((HO5.out _ _).alloc _) _ 1 (Piece.enc ⟨mk, ⟨x.op, x.a, x.b, x.c, 0⟩, mt⟩) rfl (src_lit _ _ _ _ _ _ (by simp) rfl) rfl (pieceRep_one _) (by unfold maxLen; omega) (by omega) (by simp; omega) ?_); intro v' w' hown hg hnw)
                      obtain ⟨k1, k2, k3, k4⟩ := Fin.out _ Hp.out _ (HB5.out _ _) (HM5.out _ _) _ _ _ hown hg hnw
                      go_roundw
                      case rel => exact ⟨k + 1, by omega, by go_num, k1, k2, k3, k4⟩
                      case measure => simp [intOf]; omega
                    · have hin' : decide (x.imm < (q : Int)) = false := by simpa using hin
                      have Hl := Lib.hid (leadsTo_none3 (n := q) hin)
                      have hp : pieceU q code x k = ⟨mk, x, 0⟩ := by unfold pieceU; rw [Hl.out, Hmke.out]
                      have Hp := Lib.hid hp; clear hp
                      refine (HR2.out _).mono ?_
                      rintro e w4 ⟨rfl, hb⟩
                      obtain ⟨hB4, hM4, hO4, hx, hd, hz4⟩ := Aft.out _ _ hb
                      have z4 := hx _ _ x4
                      have d0 := hd 0; have d1 := hd 1; have d2 := hd 2; have d3 := hd 3; have d4 := hd 4; have d5 := hd 5; have d6 := hd 6
                      simp only [List.getElem?_toArray, List.getElem?_cons_succ, List.getElem?_cons_zero] at d0 d1 d2 d3 d4 d5 d6
                      have hbs4 := hB4.size
                      have HB4 := Lib.hid hB4; have HM4 := Lib.hid hM4; have HO4 := Lib.hid hO4
                      clear hb hx hd hB4 hM4 hO4
                      go_wp2_with (at_builtin; (refine wpList_append_src _ rfl _ _ 22 rfl w.heap.size 37 i2 _ 7 24 Try.underlying22 Pi.out Pz0.out Pz1.out Pz2.out rfl (by decide) _ k _ rfl (HO4.out.alloc _) _ 1 (Piece.enc ⟨mk, x, 0⟩) rfl (src_lit _ _ _ _ _ _ (by simp) rfl) rfl (pieceRep_one _) (by unfold maxLen; omega) (by omega) (by simp; omega) ?_); intro v' w' hown hg hnw)
                      obtain ⟨k1, k2, k3, k4⟩ := Fin.out _ Hp.out _ HB4.out HM4.out _ _ _ hown hg hnw
                      go_roundw
                      case rel => exact ⟨k + 1, by omega, by go_num, k1, k2, k3, k4⟩
                      case measure => simp [intOf]; omega
                  · have hi0' : decide (0 ≤ x.imm) = false := by simpa using hi0
                    have Hl := Lib.hid (leadsTo_none2 (n := q) (x := x) (by omega))
                    have hp : pieceU q code x k = ⟨mk, x, 0⟩ := by unfold pieceU; rw [Hl.out, Hmke.out]
                    have Hp := Lib.hid hp; clear hp
                    refine (HR2.out _).mono ?_
                    rintro e w4 ⟨rfl, hb⟩
                    obtain ⟨hB4, hM4, hO4, hx, hd, hz4⟩ := Aft.out _ _ hb
                    have z4 := hx _ _ x4
                    have d0 := hd 0; have d1 := hd 1; have d2 := hd 2; have d3 := hd 3; have d4 := hd 4; have d5 := hd 5; have d6 := hd 6
                    simp only [List.getElem?_toArray, List.getElem?_cons_succ, List.getElem?_cons_zero] at d0 d1 d2 d3 d4 d5 d6
                    have hbs4 := hB4.size
                    have HB4 := Lib.hid hB4; have HM4 := Lib.hid hM4; have HO4 := Lib.hid hO4
                    clear hb hx hd hB4 hM4 hO4
                    go_wp2_with (at_builtin; (refine wpList_append_src _ rfl _ _ 22 rfl w.heap.size 37 i2 _ 7 24 Try.underlying22 Pi.out Pz0.out Pz1.out Pz2.out rfl (by decide) _ k _ rfl (HO4.out.alloc _) _ 1 (Piece.enc ⟨mk, x, 0⟩) rfl (src_lit _ _ _ _ _ _ (by simp) rfl) rfl (pieceRep_one _) (by unfold maxLen; omega) (by omega) (by simp; omega) ?_); intro v' w' hown hg hnw)
                    obtain ⟨k1, k2, k3, k4⟩ := Fin.out _ Hp.out _ HB4.out HM4.out _ _ _ hown hg hnw
                    go_roundw
                    case rel => exact ⟨k + 1, by omega, by go_num, k1, k2, k3, k4⟩
                    case measure => simp [intOf]; omega
              · obtain rfl : k = q := by omega
                have Hrow := Lib.hid hrow; have HB6 := Lib.hid hB6; clear hrow hB6 hmk hgM
                go_wp2_with fail
                go_ret2
                exact ⟨by rw [Hg.out]; exact ⟨_, rfl, Hrow.out⟩, HB6.out⟩
end Go.Proofs.Ytegjcghcknpjeaa