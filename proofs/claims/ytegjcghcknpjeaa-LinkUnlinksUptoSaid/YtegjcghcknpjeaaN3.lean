/-
  LinkUnlinks: the law returns true for every input, and what was handed in reads as it did. No condition.
-/
import Derived.Test.YtegjcghcknpjeaaP14
import Derived.Test.YtegjcghcknpjeaaUpto
namespace Go.Proofs.Ytegjcghcknpjeaa
open Go.ChangeShapes Go.WideShapes Go.ChangeAt Go.RowKit Go.Joins
set_option linter.unusedVariables false

theorem wrap64_bd (n : Int) : -9223372036854775808 ≤ wrap64 n ∧ wrap64 n ≤ 9223372036854775807 := by unfold wrap64; omega
theorem joinS_wf {x y : List Piece} (hx : ∀ p ∈ x, p.wf) (hy : ∀ p ∈ y, p.wf) : ∀ p ∈ joinS x y, p.wf := by
  intro p hp
  unfold joinS at hp
  rcases List.mem_append.1 hp with h | h
  · exact hx p h
  · obtain ⟨q, hq, rfl⟩ := List.mem_map.1 h
    have := hy q hq
    refine ⟨?_, this.ins, ?_⟩
    · unfold shiftJ; simp only; split
      · exact wrap64_bd _
      · exact this.mark
    · unfold shiftJ; simp only; split
      · exact wrap64_bd _
      · exact this.to
theorem wf_of_els {w : World} {a : Option Addr} {x : List Piece} (h : pieceRep.Els w a x) : ∀ p ∈ x, p.wf := fun p hp => by
  obtain ⟨k, hk, rfl⟩ := List.getElem_of_mem hp
  obtain ⟨_, _, _, hw, _⟩ := els_piece h hk
  exact hw

set_option maxRecDepth 100000 in
set_option maxHeartbeats 4000000 in
theorem LinkUnlinks_walk (w : World) (v0 : Value) (code : List Ins) (v1 : Value) (x : List Piece) (v2 : Value) (y : List Piece) (q0 : insRep.Sl w v0 code) (b0 : code.length ≤ 1048576) (q1 : pieceRep.Sl w v1 x) (b1 : x.length ≤ 1048576) (q2 : pieceRep.Sl w v2 y) (b2 : y.length ≤ 1048576) :
    Calls Try.prog 6 #[v0, v1, v2] w fun e w' => e = .returned (.bool true) ∧ Below w.heap.size w w' := by
  have q1' := q1; have q2' := q2
  obtain ⟨a, c, rfl, _, _, _, h⟩ := q0
  obtain ⟨a1, c1, rfl, _, _, _, hx⟩ := q1
  obtain ⟨a2, c2, rfl, _, _, _, hy⟩ := q2
  have hwf : ∀ i ∈ code, i.wf := fun i hi => by
    obtain ⟨k, hk, rfl⟩ := List.getElem_of_mem hi
    obtain ⟨_, _, _, hw, _⟩ := els_ins h hk
    exact hw
  have k1 := fun W (hB : Below w.heap.size w W) => unlink_any W a c code (by unfold maxLen; omega) (h.below insRep hB (Nat.le_refl _))
  have k2 := fun W (hB : Below w.heap.size w W) => runlink_any W a c code (by unfold maxLen; omega) (h.below insRep hB (Nat.le_refl _))
  have k3 := fun W (hB : Below w.heap.size w W) => join_any W a1 a2 c1 c2 x y b1 b2 (q1'.below pieceRep hB (Nat.le_refl _)) (q2'.below pieceRep hB (Nat.le_refl _))
  have k4 := fun W (hB : Below w.heap.size w W) => rjoin_any W a1 a2 c1 c2 x y b1 b2 (q1'.below pieceRep hB (Nat.le_refl _)) (q2'.below pieceRep hB (Nat.le_refl _))
  have hpw := unlinkS_wf hwf
  have hul := unlinkS_len code
  have hjw := joinS_wf (wf_of_els hx) (wf_of_els hy)
  have hjl : (joinS x y).length ≤ maxLen := by unfold joinS maxLen; simp; omega
  generalize unlinkS code = u at k1 k2 hpw hul
  generalize joinS x y = j at k3 k4 hjw hjl
  obtain ⟨l, er⟩ := u
  have K1 := Lib.hid k1; have K2 := Lib.hid k2; have K3 := Lib.hid k3; have K4 := Lib.hid k4; have HP := Lib.hid hpw; have HU := Lib.hid (Nat.le_trans hul (by decide : 32768 ≤ maxLen)); have HJ := Lib.hid hjw; have HL := Lib.hid hjl
  clear k1 k2 k3 k4 hpw hul hjw hjl hwf h hx hy q1' q2'
  dsimp only at HP HU
  go_enter Try.func6, Try.ntmps6
  go_wp2_with fail
  refine (shown_any _).mono ?_
  rintro e w1 ⟨rfl, hB1⟩
  go_wp2_with fail
  refine (K1.out _ hB1).mono ?_
  rintro e w2 ⟨⟨v, rfl, hr⟩, hb⟩
  have hB2 := bNext hb hB1
  obtain ⟨al, cl, rfl, _, _, _, hel⟩ := RowP.sl hr HP.out
  have E1 := Lib.hid hel
  clear hb hr hel hB1
  go_wp2_with fail
  refine (K2.out _ hB2).mono ?_
  rintro e w3 ⟨⟨v, rfl, hr⟩, hb⟩
  have hB3 := bNext hb hB2
  obtain ⟨al2, cl2, rfl, _, _, _, hel⟩ := RowP.sl hr HP.out
  have E2 := Lib.hid hel; have E1' := Lib.hid (E1.out.below pieceRep hb (Nat.le_refl _))
  clear hb hr hel hB2 E1
  go_wp2_with fail
  refine (K3.out _ hB3).mono ?_
  rintro e w4 ⟨v4, rfl, hr, hb⟩
  have hB4 := bNext hb hB3
  obtain ⟨a3, c3, rfl, _, _, _, hel⟩ := RowP.sl hr HJ.out
  have E3 := Lib.hid hel; have F1 := Lib.hid (E1'.out.below pieceRep hb (Nat.le_refl _)); have F2 := Lib.hid (E2.out.below pieceRep hb (Nat.le_refl _))
  clear hb hr hel hB3 E1' E2
  go_wp2_with fail
  refine (pieces_any w4 al al2 cl cl2 l l HU.out HU.out F1.out F2.out).mono ?_
  rintro e w5 ⟨he, n5, rfl⟩
  rw [show sameL l l = true from by simp [sameL]] at he
  subst he
  have hB5 : Below w.heap.size w (w4.drewN n5) := hB4.trans (Below.drewN _ _)
  have E5 := Lib.hid (E3.out.below pieceRep (Below.drewN w4 n5) (Nat.le_refl _))
  go_wp2_with fail
  refine (K4.out _ hB5).mono ?_
  rintro e w6 ⟨v6, rfl, hr, hb⟩
  have hB6 := bNext hb hB5
  obtain ⟨a4, c4, rfl, _, _, _, hel⟩ := RowP.sl hr HJ.out
  have E6 := Lib.hid hel; have F5 := Lib.hid (E5.out.below pieceRep hb (Nat.le_refl _))
  clear hb hr hel
  go_wp2_with fail
  refine (pieces_any w6 a3 a4 c3 c4 j j HL.out HL.out F5.out E6.out).mono ?_
  rintro e w7 ⟨he, n7, rfl⟩
  rw [show sameL j j = true from by simp [sameL]] at he
  subst he
  go_wp2_with fail
  go_ret
  exact ⟨rfl, hB6.trans (Below.drewN _ _)⟩

set_option maxRecDepth 100000 in
theorem LinkUnlinks_lifted (os : Os) (started : os.Started) (H : Type) (enc : TypeId × Value → H) (F : Stop.Interp) :
    ReturnsInHanded {} Try.checked os 6 .any ((Rows.OpenSpec.upto Rows.linkUnlinksSpec).pre6 enc Try.prog Try.f6 Rows.linkUnlinksUptoRow.domain false) (((Rows.OpenSpec.upto Rows.linkUnlinksSpec).at F).post enc Try.prog Try.f6 false true false false) := by
  refine returnsInHanded_of_cond (C := Try.checked) (s := Rows.OpenSpec.upto Rows.linkUnlinksSpec) (k := Rows.uptoSmall) rfl own started (by kernel_rfl) Try.func6
    (OpenSpec.witness (enc := enc) (C := Try.checked) (s := Rows.OpenSpec.upto Rows.linkUnlinksSpec) (k := Rows.uptoSmall) rfl false ⟨#[], #[.slice none 0 0, .slice none 0 0, .slice none 0 0], []⟩ 8 (by kernel_rfl) (by kernel_rfl) (by kernel_rfl)
      (x := ([.nil, .nil, .nil], [], [])) (by kernel_rfl) rfl (by kernel_rfl)) ?_
  intro W base args ds gs before hval0 hW hcnd hk _
  show Calls Try.prog 6 args W fun e W' => ∃ v, e = .returned v ∧ Rows.linkUnlinksSpec.post enc Try.prog Try.f6 false true false false W args v W'
  have hval : ∀ (j : Nat) t v, Try.f6.params[j]? = some t → args[j]? = some v → Value.okWide Try.prog W .any base t v := hval0
  have hW' := hW
  obtain ⟨p, q, hA0, hV, rfl, hfz, hnd⟩ := hW
  have hA : DataW.TrodAll enc Try.prog W 0 (fun _ => true) true Try.f6.params.toList args.toList ds p := hA0
  rw [Try.params6] at hA hval
  obtain ⟨v0, vs0, d0, ds0, p0, q0, hargs, rfl, rfl, h0, r0⟩ := trodAll_cons hA
  obtain ⟨v1, vs1, d1, ds1, p1, q1, rfl, rfl, rfl, h1, r1⟩ := trodAll_cons r0
  obtain ⟨v2, vs2, d2, ds2, p2, q2, rfl, rfl, rfl, h2, r2⟩ := trodAll_cons r1
  obtain ⟨rfl, rfl, rfl⟩ := trodAll_nil r2
  obtain rfl : args = #[v0, v1, v2] := by cases args; simp_all
  obtain ⟨rfl, rfl⟩ := trodVars_none hV
  have hbulk := of_decide_eq_true hk
  simp only [Rows.uptoBulkAll, List.cons_append, List.nil_append] at hbulk
  have k0 := h0
  have lt0 : ∀ x ∈ p0, x.block < W.heap.size := by obtain ⟨m, hm⟩ := k0; exact DataW.trod_lt m _ _ _ hm
  obtain ⟨xs0, s0⟩ := opens_sl Try.underlying24 opens_inss (hval 0 24 v0 rfl rfl) h0
  have b0 := sl_bulk Try.underlying24 s0 h0
  have k1 := h1
  have lt1 : ∀ x ∈ p1, x.block < W.heap.size := by obtain ⟨m, hm⟩ := k1; exact DataW.trod_lt m _ _ _ hm
  obtain ⟨xs1, s1⟩ := opens_sl Try.underlying22 opens_pieces (hval 1 22 v1 rfl rfl) h1
  have b1 := sl_bulk Try.underlying22 s1 h1
  have k2 := h2
  have lt2 : ∀ x ∈ p2, x.block < W.heap.size := by obtain ⟨m, hm⟩ := k2; exact DataW.trod_lt m _ _ _ hm
  obtain ⟨xs2, s2⟩ := opens_sl Try.underlying22 opens_pieces (hval 2 22 v2 rfl rfl) h2
  have b2 := sl_bulk Try.underlying22 s2 h2
  clear hA0 hval0
  try simp only [Rows.uptoBulk] at hbulk
  refine (LinkUnlinks_walk W v0 xs0 v1 xs1 v2 xs2 s0 (by omega) s1 (by omega) s2 (by omega)).mono fun e W' ⟨he, bel⟩ => ?_
  subst he
  exact ⟨_, rfl, _, _, _, [], _, [], hW', trodAll_mk1 (shut_bool Try.underlying4 _), (trodAll_cons_mk (Below.trod laidOut (by kernel_rfl) (of_decide_eq_true (by kernel_rfl)) k0 bel lt0) (trodAll_cons_mk (Below.trod laidOut (by kernel_rfl) (of_decide_eq_true (by kernel_rfl)) k1 bel lt1) (trodAll_cons_mk (Below.trod laidOut (by kernel_rfl) (of_decide_eq_true (by kernel_rfl)) k2 bel lt2) trodAll_mk0))), rfl, bel.frame _, fun h => by cases h⟩

/-- The given statement. -/
theorem LinkUnlinksUpto_holds : Rows.LinkUnlinksUptoSaid :=
  OpenClaim.holds_of_cond 6 Try.f6 rfl rfl rfl rfl rfl rfl rfl ⟨rfl, rfl, rfl, rfl, rfl⟩ rfl rfl rfl rfl rfl (by kernel_rfl) Try.func6 (by kernel_rfl)
    (of_decide_eq_true (by kernel_rfl)) (by unfold Func.isWrapper; rw [if_neg (by decide +kernel)]; exact ⟨rfl, rfl⟩)
    (fun os started H enc _ F => LinkUnlinks_lifted os started H enc F)
#print axioms LinkUnlinksUpto_holds
end Go.Proofs.Ytegjcghcknpjeaa
