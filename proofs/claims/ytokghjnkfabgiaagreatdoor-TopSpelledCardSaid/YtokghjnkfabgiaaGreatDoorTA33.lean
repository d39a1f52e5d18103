import Derived.Test.YtokghjnkfabgiaaGreatDoorTA27
import Derived.Test.YtokghjnkfabgiaaGreatDoorTA32
namespace Go.Proofs.YtokghjnkfabgiaaGreatDoor
set_option maxRecDepth 100000
open Go.RowKit Go.Lib
set_option linter.unusedVariables false
set_option linter.unusedSimpArgs false
attribute [local go_sem] str_size str_get str_toList
attribute [local go_sem high] run_str_add

/-! windrowtop.TopSpelled: walked. -/
theorem post_in {V : Voc} : ∀ (e : Ex), e.fine V (fun n => in64B n = true) → ∀ i ∈ e.post, ∀ n ∈ i.nums, in64B n = true
  | .num l, h, i, hi, n, hn => by
    rw [Ex.post] at hi
    rw [List.mem_singleton.1 hi] at hn
    exact h.2 n hn
  | .nam s, h, i, hi, n, hn => by
    rw [Ex.post] at hi
    rw [List.mem_singleton.1 hi] at hn
    cases hn
  | .mon v e, h, i, hi, n, hn => by
    rw [Ex.post] at hi
    rcases List.mem_append.1 hi with hi | hi
    · exact post_in e h.2 i hi n hn
    · rw [List.mem_singleton.1 hi, h.1.2.1] at hn
      cases hn
  | .dy v a b, h, i, hi, n, hn => by
    rw [Ex.post] at hi
    rcases List.mem_append.1 hi with hi | hi
    · rcases List.mem_append.1 hi with hi | hi
      · exact post_in a h.2.1 i hi n hn
      · exact post_in b h.2.2 i hi n hn
    · rw [List.mem_singleton.1 hi, h.1.2.1] at hn
      cases hn
theorem parsed_right {toks : List (Tk × Nat)} {s : Str} {p : PrgP} (hx : lexP s = some toks) (hp : parseP VV (bare toks) = some p) : RightP VV p := by
  have hr : ∀ x ∈ bare toks, RightT x := by
    unfold lexP at hx
    split at hx
    · cases hx
    · intro x hm
      obtain ⟨y, hy, rfl⟩ := List.mem_map.1 hm
      exact lex_right _ _ _ _ hx y hy
  refine parse_right KK.none _ _ ⟨[], []⟩ p 0 hp hr (.inl ⟨fun x h => (by cases h), fun x h => (by cases h), rfl, by omega⟩)
theorem parsed_facts {p : PrgP} (h : RightP VV p) : InN p ∧ (p.inputs.length ≤ 64 ∧ p.lines.length ≤ 64) ∧ (∀ x ∈ p.inputs, x.sides.length ≤ 4) ∧ ∀ x ∈ p.lines, x.items.length ≤ 256 := by
  obtain ⟨T, rfl, hT⟩ := right_tree h
  have hle := hT.le
  have hlines : ∀ x ∈ T.post.lines, ∃ e : Ex, x.items = e.post ∧ e.fine VV (fun n => in64B n = true) ∧ e.len ≤ 255 := by
    intro x hx
    rw [show T.post.lines = T.lines.map linOf ++ [⟨[], T.out.post⟩] from rfl] at hx
    rcases List.mem_append.1 hx with hx | hx
    · obtain ⟨y, hy, rfl⟩ := List.mem_map.1 hx
      obtain ⟨-, h1, h2, -⟩ := hT.lines y hy
      exact ⟨y.2, rfl, h1, by omega⟩
    · rw [List.mem_singleton.1 hx]
      obtain ⟨h1, h2, -⟩ := hT.out
      exact ⟨T.out, rfl, h1, h2⟩
  refine ⟨⟨?_, ?_⟩, ⟨?_, ?_⟩, ?_, ?_⟩
  · intro x hx d hd
    obtain ⟨-, -, hs⟩ := hT.inputs x hx
    rcases hs d hd with ⟨_, h⟩ | ⟨_, h⟩
    · exact h
    · rw [h]; decide
  · intro x hx i hi n hn
    obtain ⟨e, he, hf, -⟩ := hlines x hx
    rw [he] at hi
    exact post_in e hf i hi n hn
  · show T.inputs.length ≤ 64; omega
  · rw [show T.post.lines = T.lines.map linOf ++ [⟨[], T.out.post⟩] from rfl]; simp; omega
  · intro x hx
    exact (hT.inputs x hx).2.1
  · intro x hx
    obtain ⟨e, he, hf, hl⟩ := hlines x hx
    rw [he]
    have := post_len e hf
    omega
end Go.Proofs.YtokghjnkfabgiaaGreatDoor

namespace Go.Proofs.YtokghjnkfabgiaaGreatDoor
set_option maxRecDepth 100000
open Go.RowKit Go.Lib
set_option linter.unusedVariables false
set_option linter.unusedSimpArgs false
attribute [local go_sem] str_size str_get str_toList
attribute [local go_sem high] run_str_add

/-! windrowtop.TopSpelled: walked. -/
/-- two boxes, a program's and a fault's -/
structure BxI (w : World) (y5 y6 : Nat) (iv lv : Value) (fa fx : Int) (W : World) : Prop where
  below : Below w.heap.size w W
  b5 : W.heap[y5]? = some (.cells #[iv, lv] 25 (0, 0))
  b6 : W.heap[y6]? = some (.cells #[.int .i64 fa, .int .i64 fx] 28 (0, 0))
theorem BxI.next {w W W' : World} {y5 y6 : Nat} {iv lv : Value} {fa fx : Int} (h : BxI w y5 y6 iv lv fa fx W) (hb : Below W.heap.size W W') : BxI w y5 y6 iv lv fa fx W' :=
  ⟨h.below.trans (hb.mono h.below.size), block_below h.b5 hb, block_below h.b6 hb⟩
theorem BxI.turn {w W : World} {y5 y6 : Nat} {iv lv iv' lv' : Value} {fa fx fa' fx' : Int} (h : BxI w y5 y6 iv lv fa fx W) (h5 : w.heap.size ≤ y5) (h6 : w.heap.size ≤ y6) (hne : y5 ≠ y6) : ∀ X, X = ((((W.setCell ⟨y5, 0, none⟩ iv').setCell ⟨y5, 1, none⟩ lv').setCell ⟨y6, 0, none⟩ (.int .i64 fa')).setCell ⟨y6, 1, none⟩ (.int .i64 fx')) →
    BxI w y5 y6 iv' lv' fa' fx' X ∧ ∀ u, u ≠ 25 → u ≠ 28 → KeepTy u W X := by
  have p0 := set_block (k := 0) (v := iv') h.b5
  have p1 := set_block (k := 1) (v := lv') p0
  have q0 := block_other (p := ⟨y5, 1, none⟩) (block_other (p := ⟨y5, 0, none⟩) h.b6 hne iv') hne lv'
  have q1 := set_block (k := 0) (v := .int .i64 fa') q0
  have q2 := set_block (k := 1) (v := .int .i64 fx') q1
  have p2 := block_other (p := ⟨y6, 1, none⟩) (block_other (p := ⟨y6, 0, none⟩) p1 (Ne.symm hne) (.int .i64 fa')) (Ne.symm hne) (.int .i64 fx')
  rintro _ rfl
  refine ⟨⟨(((h.below.setCell (p := ⟨y5, 0, none⟩) h5 _).setCell (p := ⟨y5, 1, none⟩) h5 _).setCell (p := ⟨y6, 0, none⟩) h6 _).setCell (p := ⟨y6, 1, none⟩) h6 _, p2, q2⟩, fun u h1 h2 => ?_⟩
  exact (((KeepTy.setCell (p := ⟨y5, 0, none⟩) (NotTy.of h.b5 (Ne.symm h1)) _).trans (KeepTy.setCell (p := ⟨y5, 1, none⟩) (NotTy.of p0 (Ne.symm h1)) _)).trans (KeepTy.setCell (p := ⟨y6, 0, none⟩) (NotTy.of q0 (Ne.symm h2)) _)).trans (KeepTy.setCell (p := ⟨y6, 1, none⟩) (NotTy.of q1 (Ne.symm h2)) _)
theorem lexK_len : ∀ (f : Nat) (s : Str) (a : Nat) (q : List (Tk × Nat)), lexK f s a = some q → q.length ≤ f
  | 0, s, a, q, h => by cases h; simp
  | f + 1, [], a, q, h => by cases h; simp
  | f + 1, b :: r, a, q, h => by
    rw [lexK] at h
    split at h
    · have := lexK_len f _ _ _ h; omega
    · split at h
      · have := lexK_len f _ _ _ h; omega
      · cases ht : tokQ (b :: r) with
        | none => rw [ht] at h; cases h
        | some p =>
          rw [ht] at h
          have h' : (lexK f ((b :: r).drop p.2) (a + p.2)).map (fun l => (p.1, a) :: l) = some q := h
          cases hk : lexK f ((b :: r).drop p.2) (a + p.2) with
          | none => rw [hk] at h'; cases h'
          | some l =>
            rw [hk] at h'
            cases h'
            have := lexK_len f _ _ _ hk
            simp
            omega
theorem lexP_len {s : Str} {q : List (Tk × Nat)} (h : lexP s = some q) : q.length ≤ s.length := by
  unfold lexP at h
  split at h
  · cases h
  · exact lexK_len _ _ _ _ h
def PaI (R : Option PrgP) (iv lv : Value) (fa fx : Int) (X : World) : Prop := match R with
  | some p => fa = 0 ∧ fx = 0 ∧ RowG inpR 0 79 X iv p.inputs ∧ RowG linR 0 67 X lv p.lines
  | none => (fx == 0) = false ∧ iv = .slice none 0 0 ∧ lv = .slice none 0 0
set_option maxHeartbeats 16000000 in
theorem topspelled_any (s : Str) (bl : Nat) (hbl : bl < 256) (w : World) (ht : TabT w) (hs : s.length ≤ 9223372036854775807) :
    Calls Tryz.prog 3 #[.string (str s), .int .u8 (bl : Int)] w fun e w' => e = .returned (.bool true) ∧ Below w.heap.size w w' := by
  obtain ⟨q0, p0, hq0, hp0, hl0⟩ := first_read
  have hp1 := parse_any [111, 117, 116, 32, 49, 43, 50] w ht (by decide)
  have hpp : ((lexP [111, 117, 116, 32, 49, 43, 50]).bind fun q => parseP VV (bare q)) = some p0 := by rw [hq0]; exact hp0
  rw [hpp] at hp1
  have HP1 := Lib.hid hp1; have HT := Lib.hid ht
  clear hp1 hpp hq0 hp0 ht
  go_enter Tryz.func3, Tryz.ntmps3
  go_wp2_with (go_at_call 6; fail)
  refine HP1.out.mono ?_
  rintro _ w1 ⟨hb1, iv0, lv0, fa0, fx0, rfl, rfl, rfl, hr0, hr1⟩
  obtain ⟨a0, c0, rfl⟩ := hr0.form
  obtain ⟨a1, c1, rfl⟩ := hr1.form
  rw [hl0]
  have hbd : Below w1.heap.size w1 ((w1.alloc (.cells #[.slice a0 p0.inputs.length c0, .slice a1 1 c1] 25)).alloc (.cells #[.int .i64 0, .int .i64 0] 28)) := ((Below.refl _ _).alloc (Nat.le_refl _) _).alloc (by simp) _
  obtain ⟨x5, x6⟩ := new2 (Below.refl _ ((w1.alloc (.cells #[.slice a0 p0.inputs.length c0, .slice a1 1 c1] 25)).alloc (.cells #[.int .i64 0, .int .i64 0] 28)))
  have hbx : BxI w w1.heap.size (w1.heap.size + 1) (.slice a0 p0.inputs.length c0) (.slice a1 1 c1) 0 0 ((w1.alloc (.cells #[.slice a0 p0.inputs.length c0, .slice a1 1 c1] 25)).alloc (.cells #[.int .i64 0, .int .i64 0] 28)) := ⟨hb1.trans (hbd.mono hb1.size), x5, x6⟩
  have HBX := Lib.hid hbx; have HSZ := Lib.hid hb1.size
  clear hbx hbd x5 x6 hr0 hr1 hb1 HP1 hl0
  dsimp only
  go_upto_region 2 with fail
  refine gen_worldA (fun W => BxI w w1.heap.size (w1.heap.size + 1) (.slice a0 p0.inputs.length c0) (.slice a1 1 c1) 0 0 W) HBX.out ?_
  clear HBX
  have hw5 : w.heap.size ≤ w1.heap.size := HSZ.out
  have hw6 : w.heap.size ≤ w1.heap.size + 1 := by omega
  have hne : w1.heap.size ≠ w1.heap.size + 1 := by omega
  generalize w1.heap.size + 1 = y6 at hw6 hne ⊢
  generalize w1.heap.size = y5 at hw5 hne ⊢
  clear HSZ w1
  rintro W hbx
  have k50 := cell_of_row _ y5 0 _ _ _ hbx.b5
  have k51 := cell_of_row _ y5 1 _ _ _ hbx.b5
  have k60 := cell_of_row _ y6 0 _ _ _ hbx.b6
  have k61 := cell_of_row _ y6 1 _ _ _ hbx.b6
  obtain ⟨R, hR⟩ : ∃ R, ((lexP s).bind fun q => parseP VV (bare q)) = R := ⟨_, rfl⟩
  have hp2 := parse_any s W (HT.out.below hbx.below) hs
  rw [hR] at hp2
  have HP2 := Lib.hid hp2; have HBX := Lib.hid hbx; have HR := Lib.hid hR
  clear hp2 hbx hR
  go_wp2_with (go_at_call 6; fail)
  refine HP2.out.mono ?_
  rintro _ w2 ⟨hb2, iv, lv, fa, fx, rfl, hm⟩
  clear k50 k51 k60 k61
  have hbx := HBX.out.next hb2
  have k50 := cell_of_row _ y5 0 _ _ _ hbx.b5
  have k51 := cell_of_row _ y5 1 _ _ _ hbx.b5
  have k60 := cell_of_row _ y6 0 _ _ _ hbx.b6
  have k61 := cell_of_row _ y6 1 _ _ _ hbx.b6
  have f50 := frozen_of_row _ y5 0 _ _ hbx.b5
  have f51 := frozen_of_row _ y5 1 _ _ hbx.b5
  have f60 := frozen_of_row _ y6 0 _ _ hbx.b6
  have f61 := frozen_of_row _ y6 1 _ _ hbx.b6
  have HB2 := Lib.hid hb2; have HM := Lib.hid hm; have HBX2 := Lib.hid hbx
  clear hb2 hm hbx HP2 HBX
  dsimp only
  have hform : (∃ a n c, iv = .slice a n c) ∧ ∃ a n c, lv = .slice a n c := by
    have hm := HM.out
    cases R with
    | none => exact ⟨⟨_, _, _, hm.2.1⟩, _, _, _, hm.2.2⟩
    | some p =>
      obtain ⟨a, c, e⟩ := hm.2.2.1.form
      obtain ⟨a', c', e'⟩ := hm.2.2.2.form
      exact ⟨⟨_, _, _, e⟩, _, _, _, e'⟩
  obtain ⟨⟨a2, n2, c2, rfl⟩, a3, n3, c3, rfl⟩ := hform
  go_upto_region 5 with fail
  refine gen_worldA (fun X => BxI w y5 y6 (.slice a2 n2 c2) (.slice a3 n3 c3) fa fx X ∧ PaI R (.slice a2 n2 c2) (.slice a3 n3 c3) fa fx X) (by
    obtain ⟨h1, hk⟩ := HBX2.out.turn (iv' := .slice a2 n2 c2) (lv' := .slice a3 n3 c3) (fa' := fa) (fx' := fx) hw5 hw6 hne _ rfl
    refine ⟨h1, ?_⟩
    have hm := HM.out
    cases R with
    | none => exact hm
    | some p =>
      exact ⟨hm.1, hm.2.1, (hm.2.2.1.same (inp_keep (hk _ (by decide) (by decide))) (hk _ (by decide) (by decide))).mono (Nat.zero_le _), (hm.2.2.2.same (lin_keep (hk _ (by decide) (by decide)) (hk _ (by decide) (by decide))) (hk _ (by decide) (by decide))).mono (Nat.zero_le _)⟩) ?_
  clear HBX2 HM HB2 k50 k51 k60 k61 f50 f51 f60 f61
  rintro W ⟨hbx, hm⟩
  have k50 := cell_of_row _ y5 0 _ _ _ hbx.b5
  have k51 := cell_of_row _ y5 1 _ _ _ hbx.b5
  have HBX := Lib.hid hbx
  have HTW := Lib.hid (HT.out.below hbx.below)
  clear hbx
  cases R with
  | none =>
    obtain ⟨hfx, e2, e3⟩ := hm
    cases e2
    cases e3
    go_wp2_with (go_at_call 7; fail)
    refine (Show_none W HTW.out).mono ?_
    rintro e w3 ⟨rfl, hb3⟩
    clear k50 k51
    have hbx := HBX.out.next hb3
    have k50 := cell_of_row _ y5 0 _ _ _ hbx.b5
    have k51 := cell_of_row _ y5 1 _ _ _ hbx.b5
    have k60 := cell_of_row _ y6 0 _ _ _ hbx.b6
    have k61 := cell_of_row _ y6 1 _ _ _ hbx.b6
    have HB3 := Lib.hid hbx.below
    clear hbx hb3
    dsimp only
    go_wp2_with fail
    all_goals (go_ret; first | exact ⟨rfl, HB3.out⟩ | (exfalso; simp_all; done))
  | some p =>
    obtain ⟨rfl, rfl, hri, hrl⟩ := hm
    obtain ⟨q, hq, hpq⟩ : ∃ q, lexP s = some q ∧ parseP VV (bare q) = some p := by
      have hR := HR.out
      cases hx : lexP s with
      | none => rw [hx] at hR; cases hR
      | some q => rw [hx] at hR; exact ⟨q, rfl, hR⟩
    obtain ⟨t, l, hst, hrt, hpl, hlt, hsp⟩ := spelled KK RR hq hpq
    obtain ⟨hin, ⟨hi64, hl64⟩, hs4, hi256⟩ := parsed_facts (parsed_right hq hpq)
    have hsh := Show_any W HTW.out _ _ p hri hrl hin t hst
    have HSH := Lib.hid hsh; have HRI := Lib.hid hri; have HRL := Lib.hid hrl; have HRT := Lib.hid hrt; have HPL := Lib.hid hpl; have HLT := Lib.hid hlt; have HSP := Lib.hid hsp; have HS4 := Lib.hid hs4; have HI256 := Lib.hid hi256
    clear hsh hri hrl hrt hpl hlt hsp hs4 hi256 hst hin hq hpq HR
    by_cases ht65 : t.length ≤ 65536
    · rw [if_pos ht65] at HSH
      go_wp2_with (go_at_call 7; fail)
      refine HSH.out.mono ?_
      rintro e w3 ⟨rfl, hb3⟩
      clear k50 k51
      have hbx := HBX.out.next hb3
      have k60 := cell_of_row _ y6 0 _ _ _ hbx.b6
      have k61 := cell_of_row _ y6 1 _ _ _ hbx.b6
      have HB3 := Lib.hid hb3; have HBX3 := Lib.hid hbx
      clear hbx hb3
      obtain ⟨tq, htq, htb⟩ := HLT.out ht65
      have hlx := lex_any w3 (HTW.out.below HB3.out) t (by omega)
      rw [htq] at hlx
      have HLX := Lib.hid hlx
      clear hlx
      dsimp only
      go_wp2_with (go_at_call 8; fail)
      refine HLX.out.mono ?_
      rintro e w4 ⟨⟨v, rfl, hrow⟩, hb4⟩
      clear k60 k61
      obtain ⟨va, vc, rfl⟩ := hrow.form
      have hN : tq.length ≤ 65536 := by have := lexP_len htq; omega
      have hbx4 := HBX3.out.next hb4
      have hb34 := HB3.out.trans (hb4.mono HB3.out.size)
      have hd : Below w4.heap.size w4 (w4.alloc (.cells #[.int .i64 0, .int .i64 0] 28)) := (Below.refl _ _).alloc (Nat.le_refl _) _
      have HBX5 := Lib.hid (hbx4.next hd); have HB5 := Lib.hid (hb34.trans (hd.mono hb34.size)); have HRW := Lib.hid (hrow.next hd); have HTB := Lib.hid htb; have HTQ := Lib.hid htq
      clear hbx4 hb34 hrow hb4 htb htq HLT HLX HBX3 HB3 HBX HSH
      dsimp only
      go_upto_region 11 with fail
      refine gen_worldA (fun X => (BxI w y5 y6 (.slice a2 n2 c2) (.slice a3 n3 c3) 0 0 X ∧ Below W.heap.size W X) ∧ RowG tokR w3.heap.size 39 X (.slice va tq.length vc) tq ∧ X.heap[w4.heap.size]? = _) ⟨⟨HBX5.out, HB5.out⟩, HRW.out, World.alloc_heap_new _ _⟩ ?_
      clear hd HBX5 HB5 HRW
      generalize w4.heap.size = y10
      rintro X ⟨⟨hbx, hbw⟩, hrw, h10⟩
      have k0 := cell_of_row _ y10 0 _ _ _ h10
      have k1 := cell_of_row _ y10 1 _ _ _ h10
      have HBX := Lib.hid hbx; have HBW := Lib.hid hbw; have HRW := Lib.hid hrw
      clear hbx hbw hrw h10
      obtain ⟨K, hK⟩ : ∃ K, bl % 4 = K := ⟨_, rfl⟩
      go_upto_region 15 with fail
      clear k0 k1
      go_loopw [11, 67] (fun v11 v wr => ∃ (i : Nat) (u : Str), v11 = .string (str u) ∧ v = .int .i64 (i : Int) ∧ i ≤ tq.length ∧ Below X.heap.size X wr ∧ u.length ≤ i * 28 ∧ u ++ spaced K (bare (tq.drop i)) = spaced K l) (fun v11 v wr => tq.length - (Lib.intOf v).toNat)
      case atStart => exact ⟨0, [], rfl, rfl, Nat.zero_le _, Below.refl _ _, Nat.le_refl _, by rw [← HTB.out]; rfl⟩
      case round =>
        obtain ⟨i, u, rfl, rfl, hi, hbr, hul, hru⟩ := hrel
        by_cases hil : i < tq.length
        · have q : decide ((i : Int) < (tq.length : Int)) = true := decide_eq_true (by omega)
          obtain ⟨tb, tof, tc, cs, e1, ⟨hcs, -⟩, hx⟩ := row_at (HRW.out.next hbr) i hil
          cases e1
          have z0 : wr.cell? ⟨tb, tof + i * 4, none⟩ = some (.int .i64 tq[i].1.kind) := hx 0 _ (by rw [hcs]; rfl)
          have z1 : wr.cell? ⟨tb, tof + i * 4 + 1, none⟩ = some (.int .i64 (tq[i].2 : Int)) := hx 1 _ (by rw [hcs]; rfl)
          have z2 : wr.cell? ⟨tb, tof + i * 4 + 2, none⟩ = some (.string (str tq[i].1.word)) := hx 2 _ (by rw [hcs]; rfl)
          have z3 : wr.cell? ⟨tb, tof + i * 4 + 3, none⟩ = some (.int .i64 tq[i].1.n) := hx 3 _ (by rw [hcs]; rfl)
          have hrt := HRT.out tq[i].1 (by rw [← HTB.out]; exact List.mem_map_of_mem (List.getElem_mem hil))
          have hsa := spell_any wr ((HTW.out.below HBW.out).below hbr) tq[i].1 (tq[i].2 : Int) hrt
          have hsl := (spell_facts hrt).1
          rw [List.drop_eq_getElem_cons hil] at hru
          have hru2 : u ++ (spellT tq[i].1 ++ (List.replicate (K + 1) 32 ++ spaced K (bare (tq.drop (i + 1))))) = spaced K l := hru
          clear hcs hx hrt hru
          generalize tq[i] = tk at z0 z1 z2 z3 hsa hsl hru2
          obtain ⟨⟨tkk, tkw, tkn⟩, ta⟩ := tk
          dsimp only [tkV] at z0 z1 z2 z3 hsa hsl hru2
          generalize spellT ⟨tkk, tkw, tkn⟩ = sp at hsa hsl hru2
          have HSA := Lib.hid hsa; have HRU := Lib.hid hru2; have HBR := Lib.hid hbr
          clear hsa hru2 hbr
          go_wp2_with (go_at_call 9; fail)
          refine HSA.out.mono ?_
          rintro e w6 ⟨rfl, hb6⟩
          have HB6 := Lib.hid (HBR.out.trans (hb6.mono HBR.out.size))
          clear hb6 z0 z1 z2 z3 HSA HBR
          dsimp only
          go_upto_region 22 with fail
          rw [str_append]
          have hK4 : K < 4 := by omega
          go_loopw [11, 15] (fun v11 v15 wx => ∃ j : Nat, v15 = .int .u8 (j : Int) ∧ j ≤ K + 1 ∧ v11 = .string (str (u ++ sp ++ List.replicate j 32)) ∧ wx = w6) (fun v11 v15 wx => K + 1 - (Lib.intOf v15).toNat)
          case atStart => exact ⟨0, rfl, Nat.zero_le _, by simp, rfl⟩
          case round =>
            obtain ⟨j, rfl, hj, rfl, rfl⟩ := hrel
            have eb : (bl : Int).tmod 4 = (K : Int) := by rw [Int.tmod_eq_emod_of_nonneg (by omega)]; omega
            have eb2 : (bl : Int) % 4 = (K : Int) := by omega
            by_cases hjk : j ≤ K
            · have qj : decide ((j : Int) ≤ (bl : Int).tmod 4) = true := decide_eq_true (by omega)
              have qj2 : decide ((j : Int) ≤ (bl : Int) % 4) = true := decide_eq_true (by omega)
              have qj3 : decide (j ≤ bl % 4) = true := decide_eq_true (by omega)
              clear eb eb2
              go_wp2_with fail
              refine ⟨⟨j + 1, by simp, by omega, ?_, trivial⟩, by simp [Lib.intOf]; omega⟩
              rw [show (⟨#[32]⟩ : ByteArray) = str [32] from rfl, str_append, List.replicate_succ']
              simp
            · obtain rfl : j = K + 1 := by omega
              have qj : decide (((K + 1 : Nat) : Int) ≤ (bl : Int).tmod 4) = false := decide_eq_false (by omega)
              have qj2 : decide (((K + 1 : Nat) : Int) ≤ (bl : Int) % 4) = false := decide_eq_false (by omega)
              have qj3 : decide (K + 1 ≤ bl % 4) = false := decide_eq_false (by omega)
              have qj4 : decide ((K : Int) + 1 ≤ (bl : Int).tmod 4) = false := decide_eq_false (by omega)
              have qj5 : decide ((K : Int) + 1 ≤ (bl : Int) % 4) = false := decide_eq_false (by omega)
              clear eb eb2
              go_wp2_with fail
              refine ⟨⟨i + 1, u ++ sp ++ List.replicate (K + 1) 32, rfl, by simp, by omega, HB6.out, by simp; omega, ?_⟩, by simp [Lib.intOf]; omega⟩
              rw [← HRU.out]
              simp
        · obtain rfl : i = tq.length := by omega
          have hu : u = spaced K l := by
            have h := hru
            rw [List.drop_length] at h
            simpa [bare, spaced] using h
          have hex := HSP.out K
          rw [← hu] at hex
          have hpu : u.length ≤ 65536 → Calls Tryz.prog 6 #[.string (str u)] wr (ParseE wr (some p)) := fun h65 => by
            obtain ⟨q2, h1, h2⟩ := hex h65
            have := parse_any u wr ((HTW.out.below HBW.out).below hbr) (by omega)
            rw [h1] at this
            rw [show ((some q2).bind fun q => parseP VV (bare q)) = some p by show parseP VV (bare q2) = some p; rw [h2]; exact HPL.out] at this
            exact this
          have HPU := Lib.hid hpu; have HBR := Lib.hid hbr
          have q : decide ((tq.length : Int) < (tq.length : Int)) = false := decide_eq_false (by omega)
          have hul2 : u.length ≤ 2000000 := by omega
          clear hu hex hpu hbr hru
          by_cases h65 : u.length ≤ 65536
          · have q65 : decide ((65536 : Int) < (u.length : Int)) = false := decide_eq_false (by omega)
            go_wp2_with (go_at_call 6; fail)
            refine (HPU.out h65).mono ?_
            rintro _ w6 ⟨hb6, iv6, lv6, fa6, fx6, rfl, rfl, rfl, hr6, hr7⟩
            obtain ⟨a6, c6, rfl⟩ := hr6.form
            obtain ⟨a7, c7, rfl⟩ := hr7.form
            have hbx6 := (HBX.out.next HBR.out).next hb6
            have hW6 : Below W.heap.size W w6 := (HBW.out.trans (HBR.out.mono HBW.out.size)).trans (hb6.mono (HBW.out.trans (HBR.out.mono HBW.out.size)).size)
            have hd : Below w6.heap.size w6 ((w6.alloc (.cells #[.slice a6 p.inputs.length c6, .slice a7 p.lines.length c7] 25)).alloc (.cells #[.int .i64 0, .int .i64 0] 28)) := ((Below.refl _ _).alloc (Nat.le_refl _) _).alloc (by simp) _
            obtain ⟨x16, x17⟩ := new2 (Below.refl _ ((w6.alloc (.cells #[.slice a6 p.inputs.length c6, .slice a7 p.lines.length c7] 25)).alloc (.cells #[.int .i64 0, .int .i64 0] 28)))
            have HA := Lib.hid (And.intro (hbx6.next hd) (And.intro (HRI.out.next (hW6.trans (hd.mono hW6.size))) (And.intro (HRL.out.next (hW6.trans (hd.mono hW6.size))) (And.intro (hr6.next hd) (And.intro (hr7.next hd) (And.intro x16 x17))))))
            clear hbx6 hW6 hd x16 x17 hr6 hr7 hb6 HPU HBR HBX HBW
            dsimp only
            go_upto_region 29 with fail
            refine gen_worldA (fun Y => BxI w y5 y6 (.slice a2 n2 c2) (.slice a3 n3 c3) 0 0 Y ∧ RowG inpR 0 79 Y (.slice a2 n2 c2) p.inputs ∧ RowG linR 0 67 Y (.slice a3 n3 c3) p.lines ∧ RowG inpR wr.heap.size 79 Y (.slice a6 p.inputs.length c6) p.inputs ∧ RowG linR wr.heap.size 67 Y (.slice a7 p.lines.length c7) p.lines ∧ Y.heap[w6.heap.size]? = _ ∧ Y.heap[w6.heap.size + 1]? = _) HA.out ?_
            clear HA
            generalize w6.heap.size + 1 = y17
            generalize w6.heap.size = y16
            rintro Y ⟨hbx, r1, r2, r3, r4, x16, x17⟩
            have k50 := cell_of_row _ y5 0 _ _ _ hbx.b5
            have k51 := cell_of_row _ y5 1 _ _ _ hbx.b5
            have l0 := cell_of_row _ y16 0 _ _ _ x16
            have l1 := cell_of_row _ y16 1 _ _ _ x16
            have m0 := cell_of_row _ y17 0 _ _ _ x17
            have m1 := cell_of_row _ y17 1 _ _ _ x17
            have hal := alike_any Y p _ _ _ _ r1 r2 (r3.mono (Nat.zero_le _)) (r4.mono (Nat.zero_le _)) (by omega) (by omega) (fun x hx => by have := HS4.out x hx; omega) (fun x hx => by have := HI256.out x hx; omega)
            have HAL := Lib.hid hal; have HBX := Lib.hid hbx
            clear hal r1 r2 r3 r4 x16 x17 hbx
            go_wp2_with (go_at_call 10; fail)
            refine HAL.out.mono ?_
            rintro e w7 ⟨rfl, hb7⟩
            have HB7 := Lib.hid hb7
            clear hb7
            dsimp only
            go_wp2_with fail
            go_ret
            exact ⟨rfl, HBX.out.below.trans (HB7.out.mono HBX.out.below.size)⟩
          · have q65 : decide ((65536 : Int) < (u.length : Int)) = true := decide_eq_true (by omega)
            go_wp2_with fail
            go_ret
            exact ⟨rfl, HBX.out.below.trans (HBR.out.mono HBX.out.below.size)⟩
    · rw [if_neg ht65] at HSH
      go_wp2_with (go_at_call 7; fail)
      refine HSH.out.mono ?_
      rintro e w3 ⟨rfl, hb3⟩
      clear k50 k51
      have hbx := HBX.out.next hb3
      have k60 := cell_of_row _ y6 0 _ _ _ hbx.b6
      have k61 := cell_of_row _ y6 1 _ _ _ hbx.b6
      have HB3 := Lib.hid hbx.below
      clear hbx hb3
      dsimp only
      go_wp2_with fail
      all_goals (go_ret; first | exact ⟨rfl, HB3.out⟩ | (exfalso; simp_all; done))
end Go.Proofs.YtokghjnkfabgiaaGreatDoor
