/-
  EmuKept: the law returns true for every input, and what was handed in reads as it did. No condition.
-/
import Derived.Test.YtkgbjmmiomggbaaE31
namespace Go.Proofs.Ytkgbjmmiomggbaa
open Go.ChangeShapes Go.WideShapes Go.ChangeAt Go.RowKit Go.Joins
set_option linter.unusedVariables false

theorem run_own (w : World) (v : Value) (mem : List Int) (ca : Option Addr) (cc : Nat) (code : List Ins) (most : Int) (he : insRep.Els w ca code) (hlen : code.length ≤ 9223372036854775807) (hs : IntSl w v mem) :
    Calls Try.prog 15 #[.slice ca code.length cc, v, .int .i64 most] w fun e w' => (∃ v' S D er, e = .returned (.tuple #[.agg (cellsSt v' S).toArray, .int .i64 D, .int .i64 er]) ∧ MemR w.heap.size w' v' S.mem ∧ S.regs.length = 16) ∧ Below w.heap.size w w' := by
  obtain ⟨a, c, rfl⟩ := hs.form
  cases hg : goodB code mem.length most with
  | true => exact (run_good w a c mem ca cc code most hg he hs.at.2 hs.in64).mono fun e w' ⟨v', h1, h2, h3⟩ => ⟨⟨v', _, _, _, h1, h2, runI_len _ _ rfl⟩, h3⟩
  | false => exact (run_bad w a c mem ca cc code most hg he (by unfold maxLen; omega)).mono fun e w' ⟨h1, h3⟩ => ⟨⟨_, _, _, _, h1, World.ownsRow_nil w' w.heap.size 2 1, rfl⟩, h3⟩
structure KeptR (w : World) (B0 z8 z9 : Nat) (vo vg : Value) (l : List Int) (v2 v4 : Value) (S S4 : St) (wr : World) : Prop where
  below : Below w.heap.size w wr
  own : MemR w.heap.size wr vo l
  giv : MemR w.heap.size wr vg l
  a : InB wr z8 v2 S
  r : InB wr z9 v4 S4
theorem KeptR.set {w : World} {B0 z8 z9 : Nat} {vo vg : Value} {l : List Int} {v2 v4 : Value} {S S4 : St} {wr : World} (h : KeptR w B0 z8 z9 vo vg l v2 v4 S S4 wr) {p : Addr} (hp : B0 ≤ p.block) (h8 : p.block ≠ z8) (h9 : p.block ≠ z9) (go : ∀ g, vo.ownBlock = some g → g < B0) (gg : ∀ g, vg.ownBlock = some g → g < B0) (hw : w.heap.size ≤ B0) (u : Value) :
    KeptR w B0 z8 z9 vo vg l v2 v4 S S4 (wr.setCell p u) :=
  ⟨h.below.setCell (Nat.le_trans hw hp) u, own_other h.own (fun g hg => by have := go g hg; omega) u, own_other h.giv (fun g hg => by have := gg g hg; omega) u, StB.other h.a h8 u, StB.other h.r h9 u⟩
/-- a row of so many numbers that may be written -/
def SomeM (B n : Nat) (w : World) (v : Value) : Prop := ∃ l : List Int, l.length = n ∧ MemR B w v l
theorem SomeM.other {B n : Nat} {w : World} {v : Value} (h : SomeM B n w v) {p : Addr} (hp : p.block < B) (u : Value) : SomeM B n (w.setCell p u) v := by
  obtain ⟨l, e, h⟩ := h
  exact ⟨l, e, own_other h (fun g hg => by have := (World.ownsRow.lt h g hg).1; omega) u⟩
theorem SomeM.below {B n : Nat} {w w' : World} {v : Value} (h : SomeM B n w v) (hb : Below w.heap.size w w') : SomeM B n w' v := by
  obtain ⟨l, e, h⟩ := h
  exact ⟨l, e, own_below h hb⟩

set_option maxRecDepth 100000 in
set_option maxHeartbeats 32000000 in
theorem EmuKept_walk (w : World) (v0 : Value) (code : List Ins) (v1 : Value) (s : St) (q0 : insRep.Sl w v0 code) (hwf : s.wf) (q1 : IntSl w v1 s.mem) :
    Calls Try.prog 9 #[v0, .agg (cellsSt v1 s).toArray] w fun e w' => e = .returned (.bool true) ∧ Below w.heap.size w w' := by
  obtain ⟨ca, cc, rfl, hc1, hc2, -, hel⟩ := q0
  have hlen : code.length ≤ 9223372036854775807 := by unfold maxLen at hc2; omega
  clear hc1 hc2
  have hst := StB.new w v1 s 26 hwf.len
  obtain ⟨xb, hxb⟩ : ∃ xb, w.heap.size = xb := ⟨_, rfl⟩
  rw [hxb] at hst
  have HST := Lib.hid hst; have HE := Lib.hid hel; have HW := Lib.hid hwf; have HS := Lib.hid q1; have Hxb := Lib.hid hxb
  clear hst hel hwf q1
  obtain ⟨a1, c1, rfl⟩ := HS.out.form
  go_enter Try.func9, Try.ntmps9
  go_wp2_with fail
  refine (eshown_any _).mono ?_
  rintro e w1 ⟨rfl, hB1⟩
  have hB1' : Below w.heap.size w w1 := ((Below.refl _ _).alloc (Nat.le_refl _) _).trans (hB1.mono (by simp))
  have st1 := HST.out.below hB1
  have c16 := st1.memv
  have f16 := st1.frozen 16
  have HB1 := Lib.hid hB1'; have ST1 := Lib.hid st1
  clear hB1 hB1' st1 HST hxb
  obtain ⟨i0, hi, hz0, hz1, hz2⟩ := info_parts Try.info2
  have Hi := Lib.hid hi; have Hz0 := Lib.hid hz0; have Hz1 := Lib.hid hz1; have Hz2 := Lib.hid hz2; clear hi hz0 hz1 hz2
  have hxw := StB.lt ST1.out
  go_wp2_with fail
  refine (few_any _ w _ s.mem HS.out).mono ?_
  rintro e w1' ⟨⟨u, rfl, hu⟩, rfl⟩
  have hlt : (s.mem.take 1000).length ≤ 1000 := by simp; omega
  have hin : ∀ x ∈ s.mem.take 1000, In64 x := fun x hx => HW.out.mem x (List.mem_of_mem_take hx)
  generalize s.mem.take 1000 = l at hu hlt hin
  obtain ⟨a2, c2, rfl⟩ := hu.form
  obtain ⟨s', hs'⟩ : ∃ s', s.with l = s' := ⟨_, rfl⟩
  obtain rfl : l = s'.mem := by rw [← hs']; rfl
  have HT' : Hid s'.wf := by rw [← hs']; exact Lib.hid (St.with_wf HW.out hin)
  have HU' := Lib.hid hu
  have hbs := HB1.out.size
  have hst1 : InB w1 xb (.slice a1 s.mem.length c1) s' := by have := ST1.out; rw [← hs']; exact this
  have HS1 := Lib.hid hst1
  clear hu hin hs' c16 f16 ST1 hst1
  go_wp2_with (at_builtin; (refine wpList_append_src _ rfl _ _ 24 rfl w1.heap.size 2 i0 (.int .i64 0) 1 8 Try.underlying24 Hi.out Hz0.out Hz1.out Hz2.out rfl (by decide) _ 0 [] rfl (World.ownsRow_made w1 #[] 0 (Nat.le_refl _) (Nat.zero_le _) rfl) _ s'.mem.length (s'.mem.map (Value.int .i64)) rfl (int_src (HU'.out.below (HB1.out.alloc hbs _))) (by simp) (oneCell_ints _ _) (by unfold maxLen; omega) (by omega) (by simp) ?_))
  intro vo wo hown hgrow _
  have hmo : MemR w1.heap.size wo vo s'.mem := by unfold MemR; simpa using hown
  have hbo : Below w.heap.size w wo := (HB1.out.alloc hbs _).grown hgrow (by simp; omega) (fun k e => by cases e; exact hbs)
  have hso : InB wo xb (.slice a1 s.mem.length c1) s' := StB.grown (StB.alloc HS1.out _) hgrow (fun e => absurd (show w1.heap.size = xb by simpa [Value.ownBlock] using e) (by omega))
  obtain ⟨ao, co, rfl, -⟩ := MemR.form hmo
  have HMO := Lib.hid hmo; have HBO := Lib.hid hbo; have HSO := Lib.hid hso
  have hbs2 := hbo.size
  have hxw2 := StB.lt hso
  have hgo : ∀ g, (Value.slice ao s'.mem.length co).ownBlock = some g → g < wo.heap.size := fun g hg => (World.ownsRow.lt hmo g hg).2
  have HGO := Lib.hid hgo
  clear hmo hbo hso hown hgrow HS1 hgo
  go_wp2_with (at_builtin; (refine wpList_append_src _ rfl _ _ 24 rfl wo.heap.size 2 i0 (.int .i64 0) 1 8 Try.underlying24 Hi.out Hz0.out Hz1.out Hz2.out rfl (by decide) _ 0 [] rfl (World.ownsRow_made wo #[] 0 (Nat.le_refl _) (Nat.zero_le _) rfl) _ s'.mem.length (s'.mem.map (Value.int .i64)) rfl (int_src ((HMO.out.sl HT'.out.mem).below ((Below.refl _ _).alloc (Nat.le_refl _) _))) (by simp) (oneCell_ints _ _) (by unfold maxLen; omega) (by omega) (by simp) ?_))
  intro vg wg hown hgrow _
  have hmg : MemR wo.heap.size wg vg s'.mem := by unfold MemR; simpa using hown
  have hbg : Below w.heap.size w wg := (HBO.out.alloc hbs2 _).grown hgrow (by simp; omega) (fun k e => by cases e; exact hbs2)
  have hsg : InB wg xb (.slice a1 s.mem.length c1) s' := StB.grown (StB.alloc HSO.out _) hgrow (fun e => absurd (show wo.heap.size = xb by simpa [Value.ownBlock] using e) (by omega))
  have hmo : MemR w.heap.size wg (.slice ao s'.mem.length co) s'.mem := MemR.mono (World.ownsRow.kept (World.ownsRow.alloc HMO.out _) hgrow (by
    cases hv : (Value.slice ao s'.mem.length co).ownBlock with
    | none => exact .inl rfl
    | some k => exact .inr (fun e => by have := HGO.out k hv; have e' : k = wo.heap.size := (by simpa [Value.ownBlock] using e); omega))) hbs
  obtain ⟨ag, cg, rfl, -⟩ := MemR.form hmg
  have f16 := StB.frozen hsg 16
  have d16 := StB.memv hsg
  have hsg' : InB (wg.setCell ⟨xb, 16, none⟩ (.slice ag s'.mem.length cg)) xb (.slice ag s'.mem.length cg) s' := StB.setMem hsg _
  have hmo' : MemR w.heap.size (wg.setCell ⟨xb, 16, none⟩ (.slice ag s'.mem.length cg)) (.slice ao s'.mem.length co) s'.mem := own_other (p := ⟨xb, 16, none⟩) hmo (fun g hg => by have := (World.ownsRow.lt HMO.out g hg).1; show g ≠ xb; omega) _
  have hmg' : MemR w.heap.size (wg.setCell ⟨xb, 16, none⟩ (.slice ag s'.mem.length cg)) (.slice ag s'.mem.length cg) s'.mem := MemR.mono (own_other (p := ⟨xb, 16, none⟩) hmg (fun g hg => by have := (World.ownsRow.lt hmg g hg).1; show g ≠ xb; omega) _) hbs2
  have hbg' : Below w.heap.size w (wg.setCell ⟨xb, 16, none⟩ (.slice ag s'.mem.length cg)) := hbg.setCell (by rw [Hxb.out]; exact Nat.le_refl _) _
  have G1 := Lib.hid hsg'; have G2 := Lib.hid hmo'; have G3 := Lib.hid hmg'; have G4 := Lib.hid hbg'
  clear hsg' hmo' hmg' hbg' hmg hbg hsg hmo hown hgrow HMO HSO HBO HB1 HGO
  go_upto_region 5 with fail
  refine gen_world (fun W => InB W xb (.slice ag s'.mem.length cg) s' ∧ MemR w.heap.size W (.slice ao s'.mem.length co) s'.mem ∧ MemR w.heap.size W (.slice ag s'.mem.length cg) s'.mem ∧ Below w.heap.size w W) ⟨G1.out, G2.out, G3.out, G4.out⟩ ?_
  clear G1 G2 G3 G4 f16 d16 hbs hbs2 hxw hxw2
  rintro W ⟨g1, g2, g3, g4⟩
  have hwW := g4.size
  have hgo : ∀ g, (Value.slice ao s'.mem.length co).ownBlock = some g → g < W.heap.size := fun g hg => (World.ownsRow.lt g2 g hg).2
  have hgg : ∀ g, (Value.slice ag s'.mem.length cg).ownBlock = some g → g < W.heap.size := fun g hg => (World.ownsRow.lt g3 g hg).2
  have G1 := Lib.hid g1; have G2 := Lib.hid g2; have G3 := Lib.hid g3; have G4 := Lib.hid g4; have HGO := Lib.hid hgo; have HGG := Lib.hid hgg
  have HL := Lib.hid HT'.out.len
  clear g1 g2 g3 g4 hgo hgg
  go_wp2_with ((with_reducible show wpList _ _ _ ({ dst := some _, op := Op.load 26 (.tmp 3), type := _, pos := _, after := _, guard := _ } :: _) _ _); (refine wpList_load_rowW (by rfl) 26 _ rfl xb rfl 26 _ (0, 0) _ (G1.out).row0 Try.underlying26 rfl (by rw [Try.sizeSt, List.size_toArray, cellsSt_len HL.out]) ?_))
  by_cases hf : s'.fin = 0
  · have c18 := StB.fin G1.out
    rw [hf] at c18
    have HF := Lib.hid hf
    clear c18
    refine (step_go W ag cg ca cc code s' HT'.out HF.out (by omega) (G3.out.sl HT'.out.mem) (HE.out.below insRep G4.out (Nat.le_refl _)) hlen).mono ?_
    rintro e w2 ⟨v2, rfl, hm2, hb2⟩
    have hl2 := rstepS_len code (s := s') HT'.out.len
    generalize rstepS code s' = SA at hm2 hl2 ⊢
    obtain ⟨a3, c3, rfl, hls3⟩ := MemR.form hm2
    have HN2 := Lib.hid (fun (c : Array Value) => World.alloc_heap_new w2 (.cells c 26))
    obtain ⟨z8, hz8⟩ : ∃ z8, w2.heap.size = z8 := ⟨_, rfl⟩
    have hW8 : W.heap.size ≤ z8 := by have := hb2.size; omega
    have HL2 := Lib.hid hl2
    have hg3 : ∀ g, (Value.slice a3 SA.mem.length c3).ownBlock = some g → W.heap.size ≤ g ∧ g < z8 := fun g hg => by have := World.ownsRow.lt hm2 g hg; omega
    have HG3 := Lib.hid hg3
    have M2 := Lib.hid hm2; have Q1 := Lib.hid (G1.out.below hb2); have Q2 := Lib.hid (own_below G2.out hb2); have Q3 := Lib.hid (own_below G3.out hb2); have Q4 := Lib.hid (bNext hb2 G4.out)
    clear hm2 hb2 hl2 hg3 G1 G2 G3 G4 hf
    go_upto_region 6 with ((with_reducible show wpList _ _ _ ({ dst := none, op := Op.store 26 (.tmp 8) (.tmp _), type := _, pos := _, after := _, guard := _ } :: _) _ _); (refine wpList_store_whole rfl 26 _ _ rfl z8 rfl _ _ rfl 26 (by rw [← hz8]; exact HN2.out _) (by rw [Try.sizeSt, List.size_toArray, cellsSt_len HL2.out]) (by simp [cellsSt_len HL2.out]) (by simpa using cellsSt_one rfl _) ?_); intro w3 hr3 hg3)
    obtain ⟨s3, b3⟩ := new_state hz8 HL2.out hr3 hg3
    have GA := Lib.hid s3; have GG2 : Hid (MemR w.heap.size w3 (.slice ao s'.mem.length co) s'.mem) := Lib.hid (own_below Q2.out b3); have GG3 : Hid (MemR w.heap.size w3 (.slice ag s'.mem.length cg) s'.mem) := Lib.hid (own_below Q3.out b3); have HBB := Lib.hid (bNext b3 Q4.out)
    have GBX : Hid (SomeM W.heap.size SA.mem.length w3 (.slice a3 SA.mem.length c3)) := Lib.hid ⟨SA.mem, rfl, own_below M2.out b3⟩
    have Q5 := Lib.hid (Q1.out.below b3)
    have hzw3 := StB.lt s3
    clear s3 b3 hr3 hg3 hz8 HN2 M2 Q1 Q2 Q3 Q4
    go_wp2_with fail
    refine (run_own w3 _ s'.mem ca cc code 50 (HE.out.below insRep HBB.out (Nat.le_refl _)) hlen (GG3.out.sl HT'.out.mem)).mono ?_
    rintro e w4 ⟨⟨v4, S4, D, er, rfl, hm4, hl4⟩, hb4⟩
    obtain ⟨a4, c4, rfl, hls4⟩ := MemR.form hm4
    have HN4 := Lib.hid (fun (c : Array Value) => World.alloc_heap_new w4 (.cells c 26))
    obtain ⟨z9, hz9⟩ : ∃ z9, w4.heap.size = z9 := ⟨_, rfl⟩
    have hz89 : z8 < z9 := by have := hb4.size; have := StB.lt GA.out; omega
    have hBB9 : w3.heap.size ≤ z9 := by have := hb4.size; omega
    have HL4 := Lib.hid hl4
    have HM4 := Lib.hid hm4
    have hg4 : ∀ g, (Value.slice a4 S4.mem.length c4).ownBlock = some g → w3.heap.size ≤ g ∧ g < z9 := fun g hg => by have := World.ownsRow.lt hm4 g hg; omega
    have HG4 := Lib.hid hg4
    have GA4 := Lib.hid (GA.out.below hb4); have GB4 := Lib.hid (GBX.out.below hb4); have GK2 := Lib.hid (own_below GG2.out hb4); have GK3 := Lib.hid (own_below GG3.out hb4); have HB4 := Lib.hid (bNext hb4 HBB.out)
    have Q6 := Lib.hid (Q5.out.below hb4)
    clear hb4 hm4 hl4 hg4 GG2 GG3 HBB GA GBX
    dsimp only
    go_upto_region 7 with ((with_reducible show wpList _ _ _ ({ dst := none, op := Op.store 26 (.tmp 9) (.tmp _), type := _, pos := _, after := _, guard := _ } :: _) _ _); (refine wpList_store_whole rfl 26 _ _ rfl z9 rfl _ _ rfl 26 (by rw [← hz9]; exact HN4.out _) (by rw [Try.sizeSt, List.size_toArray, cellsSt_len HL4.out]) (by simp [cellsSt_len HL4.out]) (by simpa using cellsSt_one rfl _) ?_); intro w5 hr5 hg5)
    obtain ⟨s5, b5⟩ := new_state hz9 HL4.out hr5 hg5
    have KR : Hid (KeptR w W.heap.size z8 z9 (.slice ao s'.mem.length co) (.slice ag s'.mem.length cg) s'.mem (Value.slice a3 SA.mem.length c3) (.slice a4 S4.mem.length c4) SA S4 w5) := Lib.hid ⟨bNext b5 HB4.out, own_below GK2.out b5, own_below GK3.out b5, GA4.out.below b5, s5⟩
    have SB5 := Lib.hid (GB4.out.below b5)
    have SC5 : Hid (SomeM w3.heap.size S4.mem.length w5 (.slice a4 S4.mem.length c4)) := Lib.hid ⟨S4.mem, rfl, own_below HM4.out b5⟩
    have q18 := StB.fin (Q6.out.below b5)
    clear s5 b5 hr5 hg5 hz9 HN4 HM4 GK2 GK3 GA4 HB4 GB4
    rw [HF.out] at q18
    have e16 := StB.memv KR.out.a
    go_wp2_with fail
    clear q18 e16
    go_loopw [41] (fun i wr => ∃ k : Nat, k ≤ SA.mem.length ∧ i = .int .i64 k ∧ KeptR w W.heap.size z8 z9 (.slice ao s'.mem.length co) (.slice ag s'.mem.length cg) s'.mem (.slice a3 SA.mem.length c3) (.slice a4 S4.mem.length c4) SA S4 wr ∧ SomeM W.heap.size SA.mem.length wr (.slice a3 SA.mem.length c3) ∧ SomeM w3.heap.size S4.mem.length wr (.slice a4 S4.mem.length c4)) (fun i _ => SA.mem.length - (intOf i).toNat)
    case atStart => exact ⟨0, Nat.zero_le _, rfl, KR.out, SB5.out, SC5.out⟩
    case round =>
      obtain ⟨k, hk, rfl, hkr, hsm, hsc⟩ := hrel
      by_cases hlt : k < SA.mem.length
      · obtain ⟨l', hl', hm⟩ := hsm
        obtain ⟨g, cap, eg, hg0, hg1, cm, fm, hset⟩ := MemR.at hm (k := k) (by omega)
        rw [hl'] at eg
        cases eg
        have hgz := (HG3.out g rfl)
        have hset' := hset 77
        have d16 := StB.memv hkr.a
        have hz0 : (0 : Int) ≤ (k : Int) := by omega
        have hz1 : (k : Int) < (SA.mem.length : Int) := by omega
        have HSET := Lib.hid hset'; have HKR := Lib.hid hkr; have HL' := Lib.hid hl'; have HSC := Lib.hid hsc
        clear hset hset' hm hkr hl' hsc
        go_wp2_with fail
        go_roundw
        case rel => exact ⟨k + 1, by omega, by go_num, HKR.out.set (p := ⟨g, k, none⟩) (by show W.heap.size ≤ g; omega) (by show g ≠ z8; omega) (by show g ≠ z9; omega) HGO.out HGG.out hwW _, ⟨_, by rw [List.length_set]; exact HL'.out, HSET.out⟩, HSC.out.other (p := ⟨g, k, none⟩) (by show g < _; omega) _⟩
        case measure => simp [intOf]; omega
      · obtain rfl : k = SA.mem.length := by omega
        have KR := Lib.hid hkr; have SC5 := Lib.hid hsc
        clear hsm hkr hsc
        have e16 := StB.memv KR.out.r
        go_wp2_with fail
        clear e16
        go_loopw [52] (fun i wr => ∃ k : Nat, k ≤ S4.mem.length ∧ i = .int .i64 k ∧ KeptR w W.heap.size z8 z9 (.slice ao s'.mem.length co) (.slice ag s'.mem.length cg) s'.mem (.slice a3 SA.mem.length c3) (.slice a4 S4.mem.length c4) SA S4 wr ∧ SomeM w3.heap.size S4.mem.length wr (.slice a4 S4.mem.length c4)) (fun i _ => S4.mem.length - (intOf i).toNat)
        case atStart => exact ⟨0, Nat.zero_le _, rfl, KR.out, SC5.out⟩
        case round =>
          obtain ⟨k, hk, rfl, hkr, hsm⟩ := hrel
          by_cases hlt : k < S4.mem.length
          · obtain ⟨l', hl', hm⟩ := hsm
            obtain ⟨g, cap, eg, hg0, hg1, cm, fm, hset⟩ := MemR.at hm (k := k) (by omega)
            rw [hl'] at eg
            cases eg
            have hgz := (HG4.out g rfl)
            have hset' := hset 78
            have d16 := StB.memv hkr.r
            have hz0 : (0 : Int) ≤ (k : Int) := by omega
            have hz1 : (k : Int) < (S4.mem.length : Int) := by omega
            have HSET := Lib.hid hset'; have HKR := Lib.hid hkr; have HL' := Lib.hid hl'
            clear hset hset' hm hkr hl'
            go_wp2_with fail
            go_roundw
            case rel => exact ⟨k + 1, by omega, by go_num, HKR.out.set (p := ⟨g, k, none⟩) (by show W.heap.size ≤ g; omega) (by show g ≠ z8; omega) (by show g ≠ z9; omega) HGO.out HGG.out hwW _, ⟨_, by rw [List.length_set]; exact HL'.out, HSET.out⟩⟩
            case measure => simp [intOf]; omega
          · obtain rfl : k = S4.mem.length := by omega
            have HKR := Lib.hid hkr
            clear hsm hkr
            have hio := HKR.out.own.sl HT'.out.mem
            have hig := HKR.out.giv.sl HT'.out.mem
            have HSA := Lib.hid (same_any' wr (.slice ag s'.mem.length cg) (.slice ao s'.mem.length co) (St0 s'.mem) (St0_wf HT'.out.mem) (by show s'.mem.length ≤ _; omega) hig hio)
            clear hio hig
            go_wp2_with fail
            refine HSA.out.mono ?_
            rintro e w9 ⟨rfl, hb9⟩
            go_wp2_with fail
            go_ret
            exact ⟨rfl, bNext hb9 HKR.out.below⟩
  · have c18 := StB.fin G1.out
    have hf' : (s'.fin == 0) = false := by simpa using hf
    have HF := Lib.hid hf
    clear hf
    refine (step_stop W _ ca code.length cc s' HT'.out.len rfl HF.out).mono ?_
    rintro e w2 ⟨rfl, hb2⟩
    have HN2 := Lib.hid (fun (c : Array Value) => World.alloc_heap_new w2 (.cells c 26))
    obtain ⟨z8, hz8⟩ : ∃ z8, w2.heap.size = z8 := ⟨_, rfl⟩
    have hW8 : W.heap.size ≤ z8 := by have := hb2.size; omega
    have Q1 := Lib.hid (G1.out.below hb2); have Q2 := Lib.hid (own_below G2.out hb2); have Q3 := Lib.hid (own_below G3.out hb2); have Q4 := Lib.hid (bNext hb2 G4.out)
    clear hb2 G1 G2 G3 G4 c18
    go_upto_region 6 with ((with_reducible show wpList _ _ _ ({ dst := none, op := Op.store 26 (.tmp 8) (.tmp _), type := _, pos := _, after := _, guard := _ } :: _) _ _); (refine wpList_store_whole rfl 26 _ _ rfl z8 rfl _ _ rfl 26 (by rw [← hz8]; exact HN2.out _) (by rw [Try.sizeSt, List.size_toArray, cellsSt_len HL.out]) (by simp [cellsSt_len HL.out]) (by simpa using cellsSt_one rfl _) ?_); intro w3 hr3 hg3)
    obtain ⟨s3, b3⟩ := new_state hz8 HL.out hr3 hg3
    have GA := Lib.hid s3; have GG2 : Hid (MemR w.heap.size w3 (.slice ao s'.mem.length co) s'.mem) := Lib.hid (own_below Q2.out b3); have GG3 : Hid (MemR w.heap.size w3 (.slice ag s'.mem.length cg) s'.mem) := Lib.hid (own_below Q3.out b3); have HBB := Lib.hid (bNext b3 Q4.out)
    have Q5 := Lib.hid (Q1.out.below b3)
    have hzw3 := StB.lt s3
    clear s3 b3 hr3 hg3 hz8 HN2 Q1 Q2 Q3 Q4
    go_wp2_with fail
    refine (run_own w3 _ s'.mem ca cc code 50 (HE.out.below insRep HBB.out (Nat.le_refl _)) hlen (GG3.out.sl HT'.out.mem)).mono ?_
    rintro e w4 ⟨⟨v4, S4, D, er, rfl, hm4, hl4⟩, hb4⟩
    obtain ⟨a4, c4, rfl, hls4⟩ := MemR.form hm4
    have HN4 := Lib.hid (fun (c : Array Value) => World.alloc_heap_new w4 (.cells c 26))
    obtain ⟨z9, hz9⟩ : ∃ z9, w4.heap.size = z9 := ⟨_, rfl⟩
    have hz89 : z8 < z9 := by have := hb4.size; have := StB.lt GA.out; omega
    have hBB9 : w3.heap.size ≤ z9 := by have := hb4.size; omega
    have HL4 := Lib.hid hl4
    have HM4 := Lib.hid hm4
    have hg4 : ∀ g, (Value.slice a4 S4.mem.length c4).ownBlock = some g → w3.heap.size ≤ g ∧ g < z9 := fun g hg => by have := World.ownsRow.lt hm4 g hg; omega
    have HG4 := Lib.hid hg4
    have GA4 := Lib.hid (GA.out.below hb4); have GK2 := Lib.hid (own_below GG2.out hb4); have GK3 := Lib.hid (own_below GG3.out hb4); have HB4 := Lib.hid (bNext hb4 HBB.out)
    have Q6 := Lib.hid (Q5.out.below hb4)
    clear hb4 hm4 hl4 hg4 GG2 GG3 HBB GA
    dsimp only
    go_upto_region 7 with ((with_reducible show wpList _ _ _ ({ dst := none, op := Op.store 26 (.tmp 9) (.tmp _), type := _, pos := _, after := _, guard := _ } :: _) _ _); (refine wpList_store_whole rfl 26 _ _ rfl z9 rfl _ _ rfl 26 (by rw [← hz9]; exact HN4.out _) (by rw [Try.sizeSt, List.size_toArray, cellsSt_len HL4.out]) (by simp [cellsSt_len HL4.out]) (by simpa using cellsSt_one rfl _) ?_); intro w5 hr5 hg5)
    obtain ⟨s5, b5⟩ := new_state hz9 HL4.out hr5 hg5
    have KR : Hid (KeptR w W.heap.size z8 z9 (.slice ao s'.mem.length co) (.slice ag s'.mem.length cg) s'.mem (Value.slice ag s'.mem.length cg) (.slice a4 S4.mem.length c4) s' S4 w5) := Lib.hid ⟨bNext b5 HB4.out, own_below GK2.out b5, own_below GK3.out b5, GA4.out.below b5, s5⟩
    have SC5 : Hid (SomeM w3.heap.size S4.mem.length w5 (.slice a4 S4.mem.length c4)) := Lib.hid ⟨S4.mem, rfl, own_below HM4.out b5⟩
    have q18 := StB.fin (Q6.out.below b5)
    clear s5 b5 hr5 hg5 hz9 HN4 HM4 GK2 GK3 GA4 HB4
    have e16 := StB.memv KR.out.r
    go_wp2_with fail
    clear q18 e16 hf'
    go_loopw [52] (fun i wr => ∃ k : Nat, k ≤ S4.mem.length ∧ i = .int .i64 k ∧ KeptR w W.heap.size z8 z9 (.slice ao s'.mem.length co) (.slice ag s'.mem.length cg) s'.mem (.slice ag s'.mem.length cg) (.slice a4 S4.mem.length c4) s' S4 wr ∧ SomeM w3.heap.size S4.mem.length wr (.slice a4 S4.mem.length c4)) (fun i _ => S4.mem.length - (intOf i).toNat)
    case atStart => exact ⟨0, Nat.zero_le _, rfl, KR.out, SC5.out⟩
    case round =>
      obtain ⟨k, hk, rfl, hkr, hsm⟩ := hrel
      by_cases hlt : k < S4.mem.length
      · obtain ⟨l', hl', hm⟩ := hsm
        obtain ⟨g, cap, eg, hg0, hg1, cm, fm, hset⟩ := MemR.at hm (k := k) (by omega)
        rw [hl'] at eg
        cases eg
        have hgz := (HG4.out g rfl)
        have hset' := hset 78
        have d16 := StB.memv hkr.r
        have hz0 : (0 : Int) ≤ (k : Int) := by omega
        have hz1 : (k : Int) < (S4.mem.length : Int) := by omega
        have HSET := Lib.hid hset'; have HKR := Lib.hid hkr; have HL' := Lib.hid hl'
        clear hset hset' hm hkr hl'
        go_wp2_with fail
        go_roundw
        case rel => exact ⟨k + 1, by omega, by go_num, HKR.out.set (p := ⟨g, k, none⟩) (by show W.heap.size ≤ g; omega) (by show g ≠ z8; omega) (by show g ≠ z9; omega) HGO.out HGG.out hwW _, ⟨_, by rw [List.length_set]; exact HL'.out, HSET.out⟩⟩
        case measure => simp [intOf]; omega
      · obtain rfl : k = S4.mem.length := by omega
        have HKR := Lib.hid hkr
        clear hsm hkr
        have hio := HKR.out.own.sl HT'.out.mem
        have hig := HKR.out.giv.sl HT'.out.mem
        have HSA := Lib.hid (same_any' wr (.slice ag s'.mem.length cg) (.slice ao s'.mem.length co) (St0 s'.mem) (St0_wf HT'.out.mem) (by show s'.mem.length ≤ _; omega) hig hio)
        clear hio hig
        go_wp2_with fail
        refine HSA.out.mono ?_
        rintro e w9 ⟨rfl, hb9⟩
        go_wp2_with fail
        go_ret
        exact ⟨rfl, bNext hb9 HKR.out.below⟩

set_option maxRecDepth 100000 in
theorem EmuKept_lifted (os : Os) (started : os.Started) (H : Type) (enc : TypeId × Value → H) :
    ReturnsInHanded {} Try.checked os 9 .any (Rows.emuKeptSpec.pre6 enc Try.prog Try.f9 Rows.emuKeptRow.domain false) (Rows.emuKeptSpec.post enc Try.prog Try.f9 false true false false) := by
  refine returnsInHanded_of_change (C := Try.checked) own started (by kernel_rfl) Try.func9
    (ChangeSpec.witness6 (enc := enc) (C := Try.checked) false ⟨#[], #[.slice none 0 0, .agg #[.int .i64 0, .int .i64 0, .int .i64 0, .int .i64 0, .int .i64 0, .int .i64 0, .int .i64 0, .int .i64 0, .int .i64 0, .int .i64 0, .int .i64 0, .int .i64 0, .int .i64 0, .int .i64 0, .int .i64 0, .int .i64 0, .slice none 0 0, .int .i64 0, .int .i64 0, .int .i32 0]], []⟩ 8 (by kernel_rfl) (by kernel_rfl) (by kernel_rfl) (by kernel_rfl)) ?_
  intro W base args ds gs before hval0 hW hcnd _
  have hval : ∀ (j : Nat) t v, Try.f9.params[j]? = some t → args[j]? = some v → Value.okWide Try.prog W .any base t v := hval0
  have hW' := hW
  obtain ⟨p, q, hA0, hV, rfl, hfz, hnd⟩ := hW
  have hA : DataW.TrodAll enc Try.prog W 0 (fun _ => true) true Try.f9.params.toList args.toList ds p := hA0
  rw [Try.params9] at hA hval
  obtain ⟨v0, vs0, d0, ds0, p0, q0, hargs, rfl, rfl, h0, r0⟩ := trodAll_cons hA
  obtain ⟨v1, vs1, d1, ds1, p1, q1, rfl, rfl, rfl, h1, r1⟩ := trodAll_cons r0
  obtain ⟨rfl, rfl, rfl⟩ := trodAll_nil r1
  obtain rfl : args = #[v0, v1] := by cases args; simp_all
  obtain ⟨rfl, rfl⟩ := trodVars_none hV
  have k0 := h0
  have lt0 : ∀ x ∈ p0, x.block < W.heap.size := by obtain ⟨m, hm⟩ := k0; exact DataW.trod_lt m _ _ _ hm
  obtain ⟨xs0, s0⟩ := opens_sl Try.underlying22 opens_inss (hval 0 22 v0 rfl rfl) h0
  have k1 := h1
  have lt1 : ∀ x ∈ p1, x.block < W.heap.size := by obtain ⟨m, hm⟩ := k1; exact DataW.trod_lt m _ _ _ hm
  obtain ⟨xs1, u1, rfl, f1, s1⟩ := open_state (hval 1 26 v1 rfl rfl) h1
  clear hA0 hval0
  refine (EmuKept_walk W v0 xs0 u1 xs1 s0 f1 s1).mono fun e W' ⟨he, bel⟩ => ?_
  subst he
  exact ⟨_, rfl, _, _, _, [], _, [], hW', trodAll_mk1 (shut_bool Try.underlying4 _), (trodAll_cons_mk (Below.trod laidOut (by kernel_rfl) (of_decide_eq_true (by kernel_rfl)) k0 bel lt0) (trodAll_cons_mk (Below.trod laidOut (by kernel_rfl) (of_decide_eq_true (by kernel_rfl)) k1 bel lt1) trodAll_mk0)), rfl, bel.frame _, fun h => by cases h⟩

/-- The given statement. -/
theorem EmuKept_holds : Rows.EmuKeptSaid :=
  OpenClaim.holds_of_wide 9 Try.f9 rfl rfl rfl rfl rfl rfl rfl ⟨rfl, rfl, rfl, rfl, rfl⟩ rfl rfl rfl rfl rfl (by kernel_rfl) Try.func9 (by kernel_rfl)
    (of_decide_eq_true (by kernel_rfl)) (by unfold Func.isWrapper; rw [if_neg (by decide +kernel)]; exact ⟨rfl, rfl⟩)
    (fun os started H enc _ => EmuKept_lifted os started H enc)
#print axioms EmuKept_holds
end Go.Proofs.Ytkgbjmmiomggbaa
