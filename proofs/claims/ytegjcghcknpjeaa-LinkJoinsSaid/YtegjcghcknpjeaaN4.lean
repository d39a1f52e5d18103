/-
  LinkJoins: the law returns true for every input, and what was handed in reads as it did. No condition.
-/
import Derived.Test.YtegjcghcknpjeaaP13
import Derived.Test.YtegjcghcknpjeaaP15
namespace Go.Proofs.Ytegjcghcknpjeaa
open Go.ChangeShapes Go.WideShapes Go.ChangeAt Go.RowKit Go.Joins
set_option linter.unusedVariables false

theorem few_any {x : List Piece} {k : Nat} (h : ∀ p ∈ x.take k, p.mark ≤ 1099511627776 ∧ p.to ≤ 1099511627776) (hk : k < x.length) (h2 : x[k].mark ≤ 1099511627776 ∧ x[k].to ≤ 1099511627776) : ∀ p ∈ x.take (k + 1), p.mark ≤ 1099511627776 ∧ p.to ≤ 1099511627776 := by
  intro p hp
  rw [List.take_succ_eq_append_getElem hk] at hp
  rcases List.mem_append.1 hp with h1 | h1
  · exact h p h1
  · cases List.mem_singleton.1 h1; exact h2
theorem wf_of_els {w : World} {a : Option Addr} {x : List Piece} (h : pieceRep.Els w a x) : ∀ p ∈ x, p.wf := fun p hp => by
  obtain ⟨k, hk, rfl⟩ := List.getElem_of_mem hp
  obtain ⟨_, _, _, hw, _⟩ := els_piece h hk
  exact hw
theorem wrap64_bd (n : Int) : -9223372036854775808 ≤ wrap64 n ∧ wrap64 n ≤ 9223372036854775807 := by unfold wrap64; omega
theorem joinS_wf {x y : List Piece} (hx : ∀ p ∈ x, p.wf) (hy : ∀ p ∈ y, p.wf) : ∀ p ∈ joinS x y, p.wf := by
  intro p hp
  unfold joinS at hp
  rcases List.mem_append.1 hp with h | h
  · exact hx p h
  · obtain ⟨q, hq, rfl⟩ := List.mem_map.1 h
    have := hy q hq
    refine ⟨?_, this.ins, ?_⟩
    · unfold shiftJ; simp only; split
      · exact wrap64_bd _
      · exact this.mark
    · unfold shiftJ; simp only; split
      · exact wrap64_bd _
      · exact this.to
theorem elsTake {w : World} {a : Option Addr} {l : List Ins} (h : insRep.Els w a l) (k : Nat) : insRep.Els w a (l.take k) := by
  intro i hi
  simp at hi
  obtain ⟨b, off, cs, e, h1, h2⟩ := h i (by omega)
  exact ⟨b, off, cs, e, by rw [List.getElem_take]; exact h1, h2⟩
def FewL (l : List Piece) : Prop := ∀ p ∈ l, p.mark ≤ 1099511627776 ∧ p.to ≤ 1099511627776

set_option maxRecDepth 100000 in
set_option maxHeartbeats 8000000 in
/-- From where both are few and their marks are not great. -/
theorem LinkJoins_walk (w : World) (v0 : Value) (x : List Piece) (v1 : Value) (y : List Piece) (q0 : pieceRep.Sl w v0 x) (q1 : pieceRep.Sl w v1 y) :
    Calls Try.prog 7 #[v0, v1] w fun e w' => e = .returned (.bool true) ∧ Below w.heap.size w w' := by
  have q0' := q0; have q1' := q1
  obtain ⟨a, c, rfl, hm1, hm2, _, hx⟩ := q0
  obtain ⟨b, d, rfl, hm3, hm4, _, hy⟩ := q1
  by_cases lx : x.length ≤ 1000
  · by_cases ly : y.length ≤ 1000
    · have lx' : decide ((1000 : Int) < (x.length : Int)) = false := by simp; omega
      have ly' : decide ((1000 : Int) < (y.length : Int)) = false := by simp; omega
      have hbad := fun (mx : FewL x) (my : FewL y) => @linkS_unjoin x y mx my lx ly
      have hgood := fun (mx : FewL x) (my : FewL y) => @linkS_join x y mx my lx ly
      have k1 := fun W (hB : Below w.heap.size w W) => link_any W a c x (by unfold maxLen; omega) (hx.below pieceRep hB (Nat.le_refl _))
      have k2 := fun W (hB : Below w.heap.size w W) => link_any W b d y (by unfold maxLen; omega) (hy.below pieceRep hB (Nat.le_refl _))
      have k3 := fun W (hB : Below w.heap.size w W) => join_any W a b c d x y (by omega) (by omega) (q0'.below pieceRep hB (Nat.le_refl _)) (q1'.below pieceRep hB (Nat.le_refl _))
      have hjw := joinS_wf (wf_of_els hx) (wf_of_els hy)
      have hjl : (joinS x y).length ≤ maxLen := by unfold joinS maxLen; simp; omega
      have w1 := linkS_wf (wf_of_els hx); have w2 := linkS_wf (wf_of_els hy); have w3 := linkS_wf hjw
      have o1 := fun (h : (linkS x).2 = 0) => linkS_ok (l := x) (n := (linkS x).1.2) (c := (linkS x).1.1) (by rw [← h])
      have o2 := fun (h : (linkS y).2 = 0) => linkS_ok (l := y) (n := (linkS y).1.2) (c := (linkS y).1.1) (by rw [← h])
      generalize joinS x y = j at k3 hjw hjl hbad hgood w3
      generalize linkS x = u1 at k1 hbad hgood w1 o1
      generalize linkS y = u2 at k2 hbad hgood w2 o2
      obtain ⟨⟨A, n1⟩, e1⟩ := u1
      obtain ⟨⟨B, n2⟩, e2⟩ := u2
      have HX := Lib.hid hx; have HY := Lib.hid hy; have K1 := Lib.hid k1; have K2 := Lib.hid k2; have K3 := Lib.hid k3; have HJ := Lib.hid hjw; have HL := Lib.hid hjl; have HA := Lib.hid hbad; have HG := Lib.hid hgood
      have W1 := Lib.hid w1; have W2 := Lib.hid w2; have W3 := Lib.hid w3; have O1 := Lib.hid o1; have O2 := Lib.hid o2
      clear hx hy k1 k2 k3 hjw hjl hbad hgood q0' q1' hm1 hm2 hm3 hm4 w1 w2 w3 o1 o2
      dsimp only at W1 W2 HA HG
      go_enter Try.func7, Try.ntmps7
      go_wp2_with fail
      refine (shown_any _).mono ?_
      rintro e w1 ⟨rfl, hB1⟩
      have hb0 : Below w.heap.size w (w1.alloc (.cells #[.slice a x.length c, .slice b y.length d] 22)) := hB1.alloc hB1.size _
      have c0 : (w1.alloc (.cells #[.slice a x.length c, .slice b y.length d] 22)).cell? ⟨w1.heap.size, 0, none⟩ = some (.slice a x.length c) := by simp [go_sem]
      have c1 : (w1.alloc (.cells #[.slice a x.length c, .slice b y.length d] 22)).cell? ⟨w1.heap.size, 1, none⟩ = some (.slice b y.length d) := by simp [go_sem]
      go_wp2_with fail
      obtain ⟨G, hG⟩ : ∃ G, w1.heap.size = G := ⟨_, rfl⟩
      rw [hG] at c0 c1 ⊢
      generalize (w1.alloc (.cells #[.slice a x.length c, .slice b y.length d] 22)) = wb at hb0 c0 c1 ⊢
      have HB0 := Lib.hid hb0
      clear hB1 hb0 hG
      go_loop [34] (fun i => (i = .int .i64 0) ∨ (i = .int .i64 1 ∧ FewL x) ∨ (i = .int .i64 2 ∧ FewL x ∧ FewL y)) (fun i => 2 - (intOf i).toNat)
      case atStart => exact .inl rfl
      case round =>
        rcases hrel with rfl | ⟨rfl, fx⟩ | ⟨rfl, fx, fy⟩
        · go_wp2_with fail
          go_loop [40] (fun i => ∃ k : Nat, k ≤ x.length ∧ i = .int .i64 k ∧ FewL (x.take k)) (fun i => x.length - (intOf i).toNat)
          case atStart => exact ⟨0, Nat.zero_le _, rfl, (fun p hp => by simp at hp)⟩
          case round =>
            obtain ⟨k, hk, rfl, hf⟩ := hrel
            by_cases hlt : k < x.length
            · obtain ⟨b0, off, rfl, hw, x0, _, _, _, _, _, x6⟩ := els_piece (HX.out.below pieceRep HB0.out (Nat.le_refl _)) hlt
              have hn := fun h => few_any hf hlt h
              obtain ⟨p, hp⟩ : ∃ p, x[k] = p := ⟨_, rfl⟩
              rw [hp] at hw x0 x6 hn
              have hz0 : (0 : Int) ≤ (k : Int) := by omega
              have hz1 : (k : Int) < (x.length : Int) := by omega
              have Hn := Lib.hid hn; clear hn hf hp
              by_cases h1 : p.mark ≤ 1099511627776
              · have h1' : decide ((1099511627776 : Int) < p.mark) = false := by simpa using h1
                by_cases h2 : p.to ≤ 1099511627776
                · have h2' : decide ((1099511627776 : Int) < p.to) = false := by simpa using h2
                  go_wp2_with fail
                  go_round
                  case rel => exact ⟨k + 1, by omega, by go_num, Hn.out ⟨h1, h2⟩⟩
                  case measure => simp [intOf]; omega
                · have h2' : decide ((1099511627776 : Int) < p.to) = true := by simp; omega
                  go_wp2_with fail
                  go_ret
                  exact ⟨rfl, HB0.out⟩
              · have h1' : decide ((1099511627776 : Int) < p.mark) = true := by simp; omega
                go_wp2_with fail
                go_ret
                exact ⟨rfl, HB0.out⟩
            · obtain rfl : k = x.length := by omega
              rw [List.take_length] at hf
              have Hf := Lib.hid hf; clear hf
              go_wp2_with fail
              go_round
              case rel => exact .inr (.inl ⟨rfl, Hf.out⟩)
              case measure => simp [intOf]
        · have Fx := Lib.hid fx; clear fx
          go_wp2_with fail
          go_loop [40] (fun i => ∃ k : Nat, k ≤ y.length ∧ i = .int .i64 k ∧ FewL (y.take k)) (fun i => y.length - (intOf i).toNat)
          case atStart => exact ⟨0, Nat.zero_le _, rfl, (fun p hp => by simp at hp)⟩
          case round =>
            obtain ⟨k, hk, rfl, hf⟩ := hrel
            by_cases hlt : k < y.length
            · obtain ⟨b0, off, rfl, hw, x0, _, _, _, _, _, x6⟩ := els_piece (HY.out.below pieceRep HB0.out (Nat.le_refl _)) hlt
              have hn := fun h => few_any hf hlt h
              obtain ⟨p, hp⟩ : ∃ p, y[k] = p := ⟨_, rfl⟩
              rw [hp] at hw x0 x6 hn
              have hz0 : (0 : Int) ≤ (k : Int) := by omega
              have hz1 : (k : Int) < (y.length : Int) := by omega
              have Hn := Lib.hid hn; clear hn hf hp
              by_cases h1 : p.mark ≤ 1099511627776
              · have h1' : decide ((1099511627776 : Int) < p.mark) = false := by simpa using h1
                by_cases h2 : p.to ≤ 1099511627776
                · have h2' : decide ((1099511627776 : Int) < p.to) = false := by simpa using h2
                  go_wp2_with fail
                  go_round
                  case rel => exact ⟨k + 1, by omega, by go_num, Hn.out ⟨h1, h2⟩⟩
                  case measure => simp [intOf]; omega
                · have h2' : decide ((1099511627776 : Int) < p.to) = true := by simp; omega
                  go_wp2_with fail
                  go_ret
                  exact ⟨rfl, HB0.out⟩
              · have h1' : decide ((1099511627776 : Int) < p.mark) = true := by simp; omega
                go_wp2_with fail
                go_ret
                exact ⟨rfl, HB0.out⟩
            · obtain rfl : k = y.length := by omega
              rw [List.take_length] at hf
              have Hf := Lib.hid hf; clear hf
              go_wp2_with fail
              go_round
              case rel => exact .inr (.inr ⟨rfl, Fx.out, Hf.out⟩)
              case measure => simp [intOf]
        · have Hbad := Lib.hid (HA.out fx fy); have Hgood := Lib.hid (HG.out fx fy)
          clear HA HG fx fy c0 c1
          go_wp2_with fail
          refine (K1.out _ HB0.out).mono ?_
          rintro e w2 ⟨⟨va, rfl, hra⟩, hb⟩
          have hB2 := bNext hb HB0.out
          obtain ⟨aa, ca, rfl, _, _, _, hea⟩ := RowIns.sl hra W1.out
          have EA := Lib.hid hea
          clear hb hra hea
          go_wp2_with fail
          refine (K2.out _ hB2).mono ?_
          rintro e w3 ⟨⟨vb, rfl, hrb⟩, hb⟩
          have hB3 := bNext hb hB2
          obtain ⟨ab, cb, rfl, _, _, _, heb⟩ := RowIns.sl hrb W2.out
          have EB := Lib.hid heb; have EA3 := Lib.hid (EA.out.below insRep hb (Nat.le_refl _))
          clear hb hrb heb hB2 EA
          go_wp2_with fail
          refine (K3.out _ hB3).mono ?_
          rintro e w4 ⟨vj, rfl, hrj, hb⟩
          have hB4 := bNext hb hB3
          obtain ⟨aj, cj, rfl, _, _, _, hej⟩ := RowP.sl hrj HJ.out
          have EJ := Lib.hid hej; have EA4 := Lib.hid (EA3.out.below insRep hb (Nat.le_refl _)); have EB4 := Lib.hid (EB.out.below insRep hb (Nat.le_refl _))
          clear hb hrj hej hB3 EA3 EB
          go_wp2_with fail
          have hq := link_any w4 aj cj j HL.out EJ.out
          have w3 := W3.out; have hbd := Hbad.out; have hgd := Hgood.out
          generalize linkS j = u3 at hq w3 hbd hgd
          obtain ⟨⟨C, n3⟩, e3⟩ := u3
          refine hq.mono ?_
          rintro e w5 ⟨⟨vc, rfl, hrc⟩, hb⟩
          have hB5 := bNext hb hB4
          obtain ⟨ac, cc, rfl, hcc, _, _, hec⟩ := RowIns.sl hrc w3
          dsimp only at hcc
          have EC := Lib.hid hec; have EA5 := Lib.hid (EA4.out.below insRep hb (Nat.le_refl _)); have EB5 := Lib.hid (EB4.out.below insRep hb (Nat.le_refl _))
          have HB5 := Lib.hid hB5; have Hbd := Lib.hid hbd; have Hgd := Lib.hid hgd
          clear hb hrc hec hB4 hB5 EA4 EB4 hq w3 hbd hgd Hbad Hgood
          dsimp only at EA5 EB5 EC Hbd Hgd ⊢
          by_cases h1 : e1 = 0
          · by_cases h2 : e2 = 0
            · have hC := Hgd.out h1 h2
              cases hC
              subst h1 h2
              obtain ⟨-, -, lA, -⟩ := O1.out rfl
              obtain ⟨-, -, lB, iB⟩ := O2.out rfl
              have lC : (A ++ List.zipWith (behind x.length) y B).length = A.length + B.length := by simp; omega
              have lA' : A.length ≤ 1000 := by omega
              have lB' : B.length ≤ 1000 := by omega
              have tC : (A ++ List.zipWith (behind x.length) y B).take A.length = A := by simp
              have iC : ∀ i (h : i < B.length) (h' : i < y.length) (h3 : A.length + i < (A ++ List.zipWith (behind x.length) y B).length), (A ++ List.zipWith (behind x.length) y B)[A.length + i] = behind x.length y[i] B[i] := fun i h h' h3 => by
                apply Option.some.inj
                rw [← List.getElem?_eq_getElem h3, List.getElem?_append_right (by omega), Nat.add_sub_cancel_left, List.getElem?_eq_getElem (by simp; omega), List.getElem_zipWith]
              have iB' : ∀ k (hk : k < y.length) (hk' : k < B.length), 0 < y[k].to → 0 ≤ B[k].imm ∧ B[k].imm ≤ 1000 := fun k hk _ h0 => by
                obtain ⟨_, _, _, h⟩ := iB k hk
                obtain ⟨t, ht, e, _⟩ := h (by omega)
                rw [e]
                exact ⟨by simp, by simp only; omega⟩
              generalize (A ++ List.zipWith (behind x.length) y B) = C at EC lC tC iC hcc ⊢
              have hz1 : (0 : Int) ≤ (A.length : Int) := by omega
              have hz2 : (A.length : Int) ≤ (C.length : Int) := by omega
              have hz8 : A.length ≤ cc := by rw [lC] at hcc; omega
              have hz9 : (A.length : Int) ≤ (cc : Int) := by omega
              clear hcc
              have LC := Lib.hid lC; have TC := Lib.hid tC; have IC := Lib.hid iC; have LA := Lib.hid lA; have LB := Lib.hid lB; have IB := Lib.hid iB'
              clear lC tC iC lA lB iB iB' Hbd Hgd
              rw [show ∀ p q, Value.slice p C.length q = Value.slice p (A.length + B.length) q from fun p q => by rw [LC.out]]
              have hz3 : (A.length : Int) ≤ ((A.length + B.length : Nat) : Int) := by omega
              clear hz2
              go_wp2_with fail
              have htk : insRep.Els w5 ac A := by have := elsTake EC.out A.length; rw [TC.out] at this; exact this
              refine (codes_any w5 ac aa _ ca A A (by unfold maxLen; omega) (by unfold maxLen; omega) htk EA5.out).mono ?_
              rintro e w6 ⟨he, n6, rfl⟩
              rw [show sameL A A = true from by simp [sameL]] at he
              subst he
              clear htk
              have HB6 : Hid (Below w.heap.size w (w5.drewN n6)) := Lib.hid (HB5.out.trans (Below.drewN _ _))
              have EB6 := Lib.hid (EB5.out.below insRep (Below.drewN w5 n6) (Nat.le_refl _)); have EC6 := Lib.hid (EC.out.below insRep (Below.drewN w5 n6) (Nat.le_refl _)); have HY6 := Lib.hid (HY.out.below pieceRep HB6.out (Nat.le_refl _))
              generalize w5.drewN n6 = w6 at HB6 EB6 EC6 HY6 ⊢
              clear EB5 EC EA5
              go_wp2_with fail
              go_loopw [119] (fun i wr => ∃ k : Nat, k ≤ B.length ∧ i = .int .i64 k ∧ Below w6.heap.size w6 wr) (fun i _ => B.length - (intOf i).toNat)
              case atStart => exact ⟨0, Nat.zero_le _, rfl, Below.refl _ _⟩
              case round =>
                obtain ⟨k, hk, rfl, hbr⟩ := hrel
                by_cases hlt : k < B.length
                · have hky : k < y.length := by rw [← LB.out]; exact hlt
                  have hkC : A.length + k < C.length := by rw [LC.out]; omega
                  have hcv := IC.out k hlt hky hkC
                  have hib := IB.out k hky hlt
                  obtain ⟨b1, o1, rfl, hwb, x0, x1, x2, x3, x4⟩ := els_ins (EB6.out.below insRep hbr (Nat.le_refl _)) hlt
                  obtain ⟨b2, o2, rfl, hwc, z0, z1, z2, z3, z4⟩ := els_ins (EC6.out.below insRep hbr (Nat.le_refl _)) hkC
                  obtain ⟨b3, o3, rfl, -, -, -, -, -, -, -, y6⟩ := els_piece (HY6.out.below pieceRep hbr (Nat.le_refl _)) hky
                  rw [hcv] at z0 z1 z2 z3 z4
                  obtain ⟨p, hp⟩ : ∃ p, y[k] = p := ⟨_, rfl⟩
                  obtain ⟨i, hi⟩ : ∃ i, B[k] = i := ⟨_, rfl⟩
                  rw [hp] at y6 hib
                  rw [hp, hi] at z0 z1 z2 z3 z4
                  rw [hi] at x0 x1 x2 x3 x4 hib
                  have hz4 : (0 : Int) ≤ (k : Int) := by omega
                  have hz5 : (k : Int) < (B.length : Int) := by omega
                  have hz6 : (k : Int) < (y.length : Int) := by omega
                  have hz7 : (A.length : Int) + (k : Int) < ((A.length + B.length : Nat) : Int) := by omega
                  have hbs := hbr.size
                  have hb2 : b2 < wr.heap.size := World.block_lt_of_cell? _ _ z0
                  have hb3 : b3 < wr.heap.size := World.block_lt_of_cell? _ _ y6
                  have Hbr := Lib.hid hbr
                  clear hbr hcv hp hi hwb hwc
                  by_cases h0 : 0 < p.to
                  · have hne := fun W => neqIns W ⟨i.op, i.a, i.b, i.c, i.imm + (A.length : Int)⟩ ⟨i.op, i.a, i.b, i.c, i.imm + (A.length : Int)⟩
                    rw [decide_eq_true rfl] at hne
                    unfold Ins.V at hne
                    obtain ⟨hi0, hi1⟩ := hib h0
                    unfold behind at z0 z1 z2 z3 z4
                    rw [if_pos h0] at z0 z1 z2 z3 z4
                    rw [← LA.out] at z4
                    dsimp only at z0 z1 z2 z3 z4
                    go_wp2_with fail
                    go_quiet (fail)
                    go_wp2_with fail
                    go_roundw
                    case rel => exact ⟨k + 1, by omega, by go_num, (Hbr.out.alloc hbs _).trans (Below.drewN _ _)⟩
                    case measure => simp [intOf]; omega
                  · have h0' : decide (0 < p.to) = false := by simpa using h0
                    have hne := fun W => neqIns W ⟨i.op, i.a, i.b, i.c, i.imm⟩ ⟨i.op, i.a, i.b, i.c, i.imm⟩
                    rw [decide_eq_true rfl] at hne
                    unfold Ins.V at hne
                    unfold behind at z0 z1 z2 z3 z4
                    rw [if_neg h0] at z0 z1 z2 z3 z4
                    go_wp2_with fail
                    go_quiet (fail)
                    go_wp2_with fail
                    go_roundw
                    case rel => exact ⟨k + 1, by omega, by go_num, (Hbr.out.alloc hbs _).trans (Below.drewN _ _)⟩
                    case measure => simp [intOf]; omega
                · obtain rfl : k = B.length := by omega
                  have Hbr := Lib.hid (bNext hbr HB6.out)
                  clear hbr
                  go_wp2_with fail
                  go_ret
                  exact ⟨rfl, Hbr.out⟩
            · have hC := Hbd.out (.inr h2)
              obtain ⟨h3, rfl⟩ := hC
              subst h1
              go_wp2_with fail
              go_ret
              exact ⟨ret_bool (by simpa using h3), HB5.out⟩
          · have hC := Hbd.out (.inl h1)
            obtain ⟨h3, rfl⟩ := hC
            go_wp2_with fail
            go_ret
            exact ⟨ret_bool (by simpa using h3), HB5.out⟩
    · have ly' : decide ((1000 : Int) < (y.length : Int)) = true := by simp; omega
      have lx' : decide ((1000 : Int) < (x.length : Int)) = false := by simp; omega
      go_enter Try.func7, Try.ntmps7
      go_wp2_with fail
      refine (shown_any _).mono ?_
      rintro e w1 ⟨rfl, hB1⟩
      go_wp2_with fail
      go_ret
      exact ⟨rfl, hB1⟩
  · have lx' : decide ((1000 : Int) < (x.length : Int)) = true := by simp; omega
    go_enter Try.func7, Try.ntmps7
    go_wp2_with fail
    refine (shown_any _).mono ?_
    rintro e w1 ⟨rfl, hB1⟩
    go_wp2_with fail
    go_ret
    exact ⟨rfl, hB1⟩

set_option maxRecDepth 100000 in
theorem LinkJoins_lifted (os : Os) (started : os.Started) (H : Type) (enc : TypeId × Value → H) :
    ReturnsInHanded {} Try.checked os 7 .any (Rows.linkJoinsSpec.pre6 enc Try.prog Try.f7 Rows.linkJoinsRow.domain false) (Rows.linkJoinsSpec.post enc Try.prog Try.f7 false true false false) := by
  refine returnsInHanded_of_change (C := Try.checked) own started (by kernel_rfl) Try.func7
    (ChangeSpec.witness6 (enc := enc) (C := Try.checked) false ⟨#[], #[.slice none 0 0, .slice none 0 0], []⟩ 8 (by kernel_rfl) (by kernel_rfl) (by kernel_rfl) (by kernel_rfl)) ?_
  intro W base args ds gs before hval0 hW hcnd _
  have hval : ∀ (j : Nat) t v, Try.f7.params[j]? = some t → args[j]? = some v → Value.okWide Try.prog W .any base t v := hval0
  have hW' := hW
  obtain ⟨p, q, hA0, hV, rfl, hfz, hnd⟩ := hW
  have hA : DataW.TrodAll enc Try.prog W 0 (fun _ => true) true Try.f7.params.toList args.toList ds p := hA0
  rw [Try.params7] at hA hval
  obtain ⟨v0, vs0, d0, ds0, p0, q0, hargs, rfl, rfl, h0, r0⟩ := trodAll_cons hA
  obtain ⟨v1, vs1, d1, ds1, p1, q1, rfl, rfl, rfl, h1, r1⟩ := trodAll_cons r0
  obtain ⟨rfl, rfl, rfl⟩ := trodAll_nil r1
  obtain rfl : args = #[v0, v1] := by cases args; simp_all
  obtain ⟨rfl, rfl⟩ := trodVars_none hV
  have k0 := h0
  have lt0 : ∀ x ∈ p0, x.block < W.heap.size := by obtain ⟨m, hm⟩ := k0; exact DataW.trod_lt m _ _ _ hm
  obtain ⟨xs0, s0⟩ := opens_sl Try.underlying22 opens_pieces (hval 0 22 v0 rfl rfl) h0
  have k1 := h1
  have lt1 : ∀ x ∈ p1, x.block < W.heap.size := by obtain ⟨m, hm⟩ := k1; exact DataW.trod_lt m _ _ _ hm
  obtain ⟨xs1, s1⟩ := opens_sl Try.underlying22 opens_pieces (hval 1 22 v1 rfl rfl) h1
  clear hA0 hval0
  refine (LinkJoins_walk W v0 xs0 v1 xs1 s0 s1).mono fun e W' ⟨he, bel⟩ => ?_
  subst he
  exact ⟨_, rfl, _, _, _, [], _, [], hW', trodAll_mk1 (shut_bool Try.underlying4 _), (trodAll_cons_mk (Below.trod laidOut (by kernel_rfl) (of_decide_eq_true (by kernel_rfl)) k0 bel lt0) (trodAll_cons_mk (Below.trod laidOut (by kernel_rfl) (of_decide_eq_true (by kernel_rfl)) k1 bel lt1) trodAll_mk0)), rfl, bel.frame _, fun h => by cases h⟩

/-- The given statement. -/
theorem LinkJoins_holds : Rows.LinkJoinsSaid :=
  OpenClaim.holds_of_wide 7 Try.f7 rfl rfl rfl rfl rfl rfl rfl ⟨rfl, rfl, rfl, rfl, rfl⟩ rfl rfl rfl rfl rfl (by kernel_rfl) Try.func7 (by kernel_rfl)
    (of_decide_eq_true (by kernel_rfl)) (by unfold Func.isWrapper; rw [if_neg (by decide +kernel)]; exact ⟨rfl, rfl⟩)
    (fun os started H enc _ => LinkJoins_lifted os started H enc)
#print axioms LinkJoins_holds
end Go.Proofs.Ytegjcghcknpjeaa
