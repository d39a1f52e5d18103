import Derived.Test.YtabodlhlanolcaaPB4
import Derived.Test.YtabodlhlanolcaaPB1
namespace Go.Proofs.Ytabodlhlanolcaa
set_option maxRecDepth 100000
open Go.RowKit
set_option linter.unusedVariables false
set_option linter.unusedSimpArgs false
attribute [local go_sem ↓] Go.wp_at_zero Go.wp_at_succ

theorem Try.size6 : (Try.prog.info? 90).map (·.size) = some 6 := by kernel_rfl
theorem padK_zero (D : List Int) : padK D 0 = [0, 0, 0, 0, 0, 0] := by simp [padK, List.range_succ]
set_option maxHeartbeats 16000000 in
theorem eval_any (w : World) (a : Option Addr) (c : Nat) (p : List Mono) (ad : Option Addr) (cd : Nat) (D : List Int) (h : monoRep.Els w a p) (hm : p.length ≤ 9223372036854775807) (hd : IntsAt .i64 w ad D) (hld : D.length ≤ 9223372036854775807) :
    Calls Try.prog 51 #[.slice a p.length c, .slice ad D.length cd] w fun e w' => e = two (evalS p D) ∧ Below w.heap.size w w' := by
  have hr := right_any w a c p h hm
  cases hp : polyB p with
  | false =>
    have hg : evalS p D = (0, 20) := by unfold evalS; rw [hp]; rfl
    rw [hp] at hr
    have HR := Lib.hid hr; have HG := Lib.hid hg
    clear hr hg hp h hd
    go_enter Try.func51, Try.ntmps51
    go_wp2_with (go_at_call 57; refine HR.out.mono ?_; rintro e w1 ⟨rfl, hb1⟩)
    go_ret2
    exact ⟨ret_two HG.out, hb1⟩
  | true =>
    have hg : evalS p D = if dimsB D then evalK D p 0 0 else (0, 23) := by unfold evalS; rw [hp]; rfl
    rw [hp] at hr
    have hsmall := fun k hk => poly_small hp (k := k) hk
    have HR := Lib.hid hr; have HG := Lib.hid hg; have HE := Lib.hid h; have HI := Lib.hid hd; have HSM := Lib.hid hsmall; have HWF := Lib.hid (wf_mono h)
    clear hr hg hp h hd hsmall
    go_enter Try.func51, Try.ntmps51
    go_wp2_with fail
    refine HR.out.mono ?_
    rintro e w1 ⟨rfl, hb1⟩
    obtain ⟨z, hz⟩ : ∃ z, w1.heap.size = z := ⟨_, rfl⟩
    have hn0 := World.alloc_heap_new w1 (.cells ((padK D 0).map (Value.int .i64)).toArray 90)
    rw [hz] at hn0
    have hbw : Below w.heap.size w (w1.alloc (.cells ((padK D 0).map (Value.int .i64)).toArray 90)) := hb1.alloc hb1.size _
    have hzw : w.heap.size ≤ z := by have := hb1.size; omega
    have HN0 := Lib.hid hn0; have HBW := Lib.hid hbw
    clear hn0 hbw hb1 HR
    go_upto_region 4 with fail
    refine gen_worldA (fun W => Below w.heap.size w W ∧ SixB W z (padK D 0)) ⟨by have := HBW.out; rw [padK_zero] at this; exact this, by have := HN0.out; rw [padK_zero] at this ⊢; exact ⟨this, rfl⟩⟩ ?_
    rintro W ⟨hbW, g0⟩
    have HB := Lib.hid hbW; have G0 := Lib.hid g0
    clear hbW g0 HN0 HBW hz
    go_wp2_with fail
    go_loopw [20] (fun i wr => ∃ k : Nat, k ≤ D.length ∧ k ≤ 6 ∧ i = .int .i64 k ∧ SixB wr z (padK D k) ∧ (∀ j, (hj : j < D.length) → j < k → 0 ≤ D[j] ∧ D[j] ≤ 2147483648) ∧ Below w.heap.size w wr) (fun i _ => D.length - (intOf i).toNat)
    case atStart => exact ⟨0, Nat.zero_le _, by omega, rfl, G0.out, fun j _ h => absurd h (Nat.not_lt_zero j), HB.out⟩
    case round =>
      obtain ⟨k, hk, hk6, rfl, hsix, hall, hB⟩ := hrel
      have HALL := Lib.hid hall; have HB2 := Lib.hid hB; have HSX := Lib.hid hsix
      clear hall hB hsix HB G0
      by_cases hlt : k < D.length
      · obtain ⟨b, off, rfl, x0⟩ := (HI.out.below HB2.out (Nat.le_refl _)) k hlt
        have hz0 : (0 : Int) ≤ (k : Int) := by omega
        have hz1 : (k : Int) < (D.length : Int) := by omega
        have hdim := dimAt_in (D := D) hlt
        have hbad := fun h => dims_bad (D := D) hlt h
        obtain ⟨d, hdd⟩ : ∃ d, D[k] = d := ⟨_, rfl⟩
        rw [hdd] at x0 hdim hbad
        have HDD := Lib.hid hdd; have HBAD := Lib.hid hbad; have HDIM := Lib.hid hdim
        clear hdd hbad hdim
        by_cases h6 : k = 6
        · subst h6
          have HG2 := Lib.hid (HG.out.trans (by rw [HBAD.out (.inl (Nat.le_refl _))]))
          simp only [Int.cast_ofNat_Int] at *
          go_wp2_with fail
          go_ret2
          exact ⟨ret_two HG2.out, HB2.out⟩
        have h6' : decide ((6 : Int) ≤ (k : Int)) = false := by simp; omega
        have h6n : decide (6 ≤ k) = false := by simp; omega
        have h6z : (k : Int) < 6 := by omega
        by_cases hneg : d < 0
        · have HG2 := Lib.hid (HG.out.trans (by rw [HBAD.out (.inr (.inl hneg))]))
          go_wp2_with fail
          go_ret2
          exact ⟨ret_two HG2.out, HB2.out⟩
        have hneg' : decide (d < 0) = false := by simpa using hneg
        by_cases hbg : 2147483648 < d
        · have HG2 := Lib.hid (HG.out.trans (by rw [HBAD.out (.inr (.inr hbg))]))
          go_wp2_with fail
          go_ret2
          exact ⟨ret_two HG2.out, HB2.out⟩
        have hbg' : decide (2147483648 < d) = false := by simpa using hbg
        have cz := HSX.out.at (k := k) (by omega)
        have fz := HSX.out.frozen k
        have hset := HSX.out.set (k := k) d
        rw [show d = dimAt D k from HDIM.out.symm ▸ rfl, padK_set D (by omega)] at hset
        have HST := Lib.hid hset
        have HNB := Lib.hid (show 0 ≤ d ∧ d ≤ 2147483648 by omega)
        clear hset hneg hbg
        go_wp2_with fail
        go_roundw
        case rel => exact ⟨k + 1, by omega, by omega, by go_num, by rw [← HDIM.out]; exact HST.out, fun j hj h => by
          by_cases e : j = k
          · subst e; rw [HDD.out]; exact HNB.out
          · exact HALL.out j hj (by omega), HB2.out.setCell (p := ⟨z, k, none⟩) hzw _⟩
        case measure => simp [intOf]; omega
      · obtain rfl : k = D.length := by omega
        have hdg := dims_good hk6 (fun j hj => HALL.out j hj hj)
        have hdf := (dims_facts hdg).2
        have HG2 : Hid (evalS p D = evalK D p 0 0) := Lib.hid (HG.out.trans (if_pos hdg))
        have HDF := Lib.hid hdf; have HPA := Lib.hid (pad_all hk6)
        clear hdg hdf HG
        go_wp2_with fail
        go_loopw [9, 10, 41] (fun s sz i wx => ∃ (k : Nat) (su si : Int), k ≤ p.length ∧ i = .int .i64 k ∧ s = .int .i64 su ∧ sz = .int .i64 si ∧ evalK D p 0 0 = evalK D (p.drop k) su si ∧ 0 ≤ si ∧ si ≤ 4611686018427387904 ∧ -si ≤ su ∧ su ≤ si ∧ SixB wx z (padK D D.length) ∧ Below w.heap.size w wx) (fun _ _ i _ => p.length - (intOf i).toNat)
        case atStart => exact ⟨0, 0, 0, Nat.zero_le _, rfl, rfl, rfl, rfl, by omega, by omega, by omega, by omega, HSX.out, HB2.out⟩
        case round =>
          obtain ⟨k, su, si, hk, rfl, rfl, rfl, hev, hs0, hs1, hu0, hu1, hsix, hB⟩ := hrel
          have HEV := Lib.hid hev; have HSX3 := Lib.hid hsix; have HB3 := Lib.hid hB
          clear hev hsix hB
          have hz0 : (0 : Int) ≤ (k : Int) := by omega
          by_cases hlt : k < p.length
          · obtain ⟨b, off, rfl, hw, x0, x1, x2, x3, x4, x5, x6⟩ := els_mono (HE.out.below monoRep HB3.out (Nat.le_refl _)) hlt
            have hz1 : (k : Int) < (p.length : Int) := by omega
            have hev1 := evalK_none (D := D) hlt su si
            have hev2 := fun n => evalK_big (D := D) hlt su si (n := n)
            have hev3 := fun n => evalK_step (D := D) hlt su si (n := n)
            have hsm := HSM.out k hlt
            have hbd := fun n => valO_bd (D := D) hw hsm (fun j => (dimAt_bd HDF.out j).1) (n := n)
            obtain ⟨m, hmk⟩ : ∃ m, p[k] = m := ⟨_, rfl⟩
            rw [hmk] at hw x0 x1 x2 x3 x4 x5 x6 hev1 hev2 hev3 hsm hbd
            have hval := fun W' => value_any W' m (padK D D.length) hw hsm (padK_len D _) (fun y hy => by
              simp only [padK, List.mem_map, List.mem_range] at hy
              obtain ⟨j, _, rfl⟩ := hy
              split
              · exact dimAt_bd HDF.out j
              · omega)
            rw [valO_pad m HPA.out] at hval
            unfold Mono.V RetVal at hval
            obtain ⟨o, ho⟩ : ∃ o, valO m D = o := ⟨_, rfl⟩
            rw [ho] at hev1 hev2 hev3 hbd hval
            have HVAL := Lib.hid hval; have HV1 := Lib.hid hev1; have HV2 := Lib.hid hev2; have HV3 := Lib.hid hev3; have HBD := Lib.hid hbd
            clear hval hw hsm hmk ho hev1 hev2 hev3 hbd
            obtain ⟨zm, hzm⟩ : ∃ zm, wr.heap.size = zm := ⟨_, rfl⟩
            have hn0 := World.alloc_heap_new wr (.cells m.enc.toArray 39)
            rw [hzm] at hn0
            have hbw := HB3.out.alloc HB3.out.size (.cells m.enc.toArray 39)
            have hsx4 := HSX3.out.below ((Below.refl _ _).alloc (Nat.le_refl _) (.cells m.enc.toArray 39))
            have HN0 := Lib.hid hn0; have HBW := Lib.hid hbw; have HSX4 := Lib.hid hsx4
            clear hn0 hbw hsx4
            go_upto_region 15 with fail
            refine gen_worldA (fun W => Below w.heap.size w W ∧ W.heap[zm]? = some (.cells m.enc.toArray 39 (0, 0)) ∧ SixB W z (padK D D.length)) ⟨HBW.out, HN0.out, HSX4.out⟩ ?_
            clear HN0 HBW HSX4 x0 x1 x2 x3 x4 x5 x6 HB3 HSX3 hzm
            rintro W4 ⟨hbW, g0, g1⟩
            have y0 : W4.cell? ⟨zm, 0, none⟩ = some (.int .i64 m.n) := blockCells g0 0
            have y1 : W4.cell? ⟨zm, 1, none⟩ = some (.int .u8 m.e0) := blockCells g0 1
            have y2 : W4.cell? ⟨zm, 2, none⟩ = some (.int .u8 m.e1) := blockCells g0 2
            have y3 : W4.cell? ⟨zm, 3, none⟩ = some (.int .u8 m.e2) := blockCells g0 3
            have y4 : W4.cell? ⟨zm, 4, none⟩ = some (.int .u8 m.e3) := blockCells g0 4
            have y5 : W4.cell? ⟨zm, 5, none⟩ = some (.int .u8 m.e4) := blockCells g0 5
            have y6 : W4.cell? ⟨zm, 6, none⟩ = some (.int .u8 m.e5) := blockCells g0 6
            have HBW := Lib.hid hbW; have G0 := Lib.hid g0; have G1 := Lib.hid g1
            clear hbW g0 g1
            go_wp2_with ((with_reducible show wpList _ _ _ ({ dst := some _, op := Op.load 90 (.tmp 6), type := _, pos := _, after := _, guard := _ } :: _) _ _); (refine wpList_load_row rfl 90 _ rfl z rfl 90 _ (0, 0) _ G1.out.1 Try.underlying90 rfl (by rw [Try.size6]; simp [G1.out.2]) ?_))
            refine (HVAL.out _).mono ?_
            rintro e w5 ⟨rfl, hb5⟩
            have y0' := keepCell hb5 y0
            have HB5 := Lib.hid (bNext hb5 HBW.out); have HSX5 := Lib.hid (G1.out.below hb5)
            clear y0 y1 y2 y3 y4 y5 y6 hb5 HBW G0 G1 HVAL
            cases o with
            | none =>
              have HG3 := Lib.hid (HG2.out.trans (HEV.out.trans (HV1.out rfl)))
              go_wp2_with fail
              go_ret2
              exact ⟨ret_two HG3.out, HB5.out⟩
            | some n =>
              obtain ⟨hn0, hn1⟩ := HBD.out n rfl
              by_cases hgt : 4611686018427387904 - si < n
              · have HG3 := Lib.hid (HG2.out.trans (HEV.out.trans (HV2.out n rfl (by omega))))
                dsimp only [Option.getD_some, Option.isSome_some]
                go_wp2_with fail
                go_ret2
                exact ⟨ret_two HG3.out, HB5.out⟩
              · have hgt' : decide (4611686018427387904 - si < n) = false := by simpa using hgt
                have HG3 := Lib.hid (HEV.out.trans (HV3.out n rfl (by omega)))
                have hsum : si + n ≤ 4611686018427387904 := by omega
                clear hgt
                dsimp only [Option.getD_some, Option.isSome_some]
                by_cases hmn : m.n < 0
                · have HG4 := Lib.hid (HG3.out.trans (by rw [if_pos hmn]))
                  go_wp2_with fail
                  go_roundw
                  case rel => exact ⟨k + 1, su - n, si + n, by omega, by go_num, by first | rfl | (rw [Int.sub_eq_add_neg]), rfl, HG4.out, by omega, by omega, by omega, by omega, HSX5.out, HB5.out⟩
                  case measure => simp [intOf]; omega
                · have hmn' : decide (m.n < 0) = false := by simpa using hmn
                  have HG4 := Lib.hid (HG3.out.trans (by rw [if_neg hmn]))
                  clear hmn
                  go_wp2_with fail
                  go_roundw
                  case rel => exact ⟨k + 1, su + n, si + n, by omega, by go_num, rfl, rfl, HG4.out, by omega, by omega, by omega, by omega, HSX5.out, HB5.out⟩
                  case measure => simp [intOf]; omega
          · obtain rfl : k = p.length := by omega
            have HG3 : Hid (evalS p D = (su, 0)) := Lib.hid (HG2.out.trans (HEV.out.trans (by rw [List.drop_length, evalK])))
            go_wp2_with fail
            go_ret2
            exact ⟨ret_two HG3.out, HB3.out⟩
end Go.Proofs.Ytabodlhlanolcaa

namespace Go.Proofs.Ytabodlhlanolcaa
set_option maxRecDepth 100000
open Go.RowKit Go.ChangeShapes Go.WideShapes Go.Deep
set_option linter.unusedVariables false
set_option linter.unusedSimpArgs false

structure Buf where
  sides : List (List Mono)
  input : Int
structure Cop where
  how : Int
  k : Int
  n : Int
  p : List Mono
  fn : Int
structure Stp where
  how : Int
  buf : Int
  pos : List Mono
  loops : List (List Mono)
  fn : Int
  ops : List Cop
structure Cor where
  vars : Int
  bufs : List Buf
  steps : List Stp
  outs : List Int
def I64 (x : Int) : Prop := -9223372036854775808 ≤ x ∧ x ≤ 9223372036854775807
def U8 (x : Int) : Prop := 0 ≤ x ∧ x ≤ 255
theorem Rep.Sl.form0 {α : Type} {R : Rep α} {w : World} {v : Value} {xs : List α} (h : R.Sl w v xs) : ∃ a c, v = .slice a xs.length c := by
  obtain ⟨a, c, e, _⟩ := h
  exact ⟨a, c, e⟩
def bufRep : Rep Buf where
  n := 2
  At w cs b := ∃ v, cs = [v, .int .i64 b.input] ∧ polyRep.Sl w v b.sides ∧ I64 b.input
  len := by rintro w cs b ⟨v, rfl, _⟩; rfl
  keep := by rintro w w' cs b ⟨v, e, h, h2⟩ hb; exact ⟨v, e, h.below _ hb (Nat.le_refl _), h2⟩
  one := by
    rintro w cs b ⟨v, rfl, h, _⟩ u hu
    obtain ⟨a, c, rfl⟩ := h.form0
    simp at hu
    rcases hu with rfl | rfl <;> rfl
def copRep : Rep Cop where
  n := 5
  At w cs o := ∃ v, cs = [.int .i64 o.how, .int .i64 o.k, .int .i64 o.n, v, .int .u8 o.fn] ∧ monoRep.Sl w v o.p ∧ I64 o.how ∧ I64 o.k ∧ I64 o.n ∧ U8 o.fn
  len := by rintro w cs b ⟨v, rfl, _⟩; rfl
  keep := by rintro w w' cs b ⟨v, e, h, h2⟩ hb; exact ⟨v, e, h.below _ hb (Nat.le_refl _), h2⟩
  one := by
    rintro w cs b ⟨v, rfl, h, _⟩ u hu
    obtain ⟨a, c, rfl⟩ := h.form0
    simp at hu
    rcases hu with rfl | rfl | rfl | rfl | rfl <;> rfl
def stpRep : Rep Stp where
  n := 6
  At w cs s := ∃ v0 v1 v2, cs = [.int .i64 s.how, .int .i64 s.buf, v0, v1, .int .u8 s.fn, v2] ∧ monoRep.Sl w v0 s.pos ∧ polyRep.Sl w v1 s.loops ∧ copRep.Sl w v2 s.ops ∧ I64 s.how ∧ I64 s.buf ∧ U8 s.fn
  len := by rintro w cs b ⟨v0, v1, v2, rfl, _⟩; rfl
  keep := by rintro w w' cs b ⟨v0, v1, v2, e, h0, h1, h2, h3⟩ hb; exact ⟨v0, v1, v2, e, h0.below _ hb (Nat.le_refl _), h1.below _ hb (Nat.le_refl _), h2.below _ hb (Nat.le_refl _), h3⟩
  one := by
    rintro w cs b ⟨v0, v1, v2, rfl, h0, h1, h2, _⟩ u hu
    obtain ⟨a, c, rfl⟩ := h0.form0
    obtain ⟨a, c, rfl⟩ := h1.form0
    obtain ⟨a, c, rfl⟩ := h2.form0
    simp at hu
    rcases hu with rfl | rfl | rfl | rfl | rfl | rfl <;> rfl
theorem opens_cop : Opens 48 copRep := ⟨by kernel_rfl, fun {H enc w base spare held m cs y} h => by
  obtain ⟨ys, n, _, _, hlen, hyl, hf⟩ := DataW.trod_struct Try.underlying48 h
  have hl : cs.length = 5 := hlen.trans (by kernel_rfl)
  match cs, hl with
  | [c0, c1, c2, c3, c4], _ =>
    obtain ⟨x0, e0, w0⟩ := field_int Try.underlying3 (by kernel_rfl) ((hf 0 _ rfl).trans (List.getElem?_eq_getElem (by rw [hyl]; decide)))
    obtain ⟨x1, e1, w1⟩ := field_int Try.underlying3 (by kernel_rfl) ((hf 1 _ rfl).trans (List.getElem?_eq_getElem (by rw [hyl]; decide)))
    obtain ⟨x2, e2, w2⟩ := field_int Try.underlying2 (by kernel_rfl) ((hf 2 _ rfl).trans (List.getElem?_eq_getElem (by rw [hyl]; decide)))
    obtain ⟨x3, e3⟩ := field_of opens_poly ((hf 3 _ rfl).trans (List.getElem?_eq_getElem (by rw [hyl]; decide)))
    obtain ⟨x4, e4, w4⟩ := field_int Try.underlying46 (by kernel_rfl) ((hf 4 _ rfl).trans (List.getElem?_eq_getElem (by rw [hyl]; decide)))
    obtain ⟨v, e3, hs⟩ := e3
    have f3 : [c3] = [v] := e3
    cases e0; cases e1; cases e2; cases f3; cases e4
    exact ⟨⟨x0, x1, x2, x3, x4⟩, c3, rfl, hs, bounds_i64 w0, bounds_i64 w1, bounds_i64 w2, bounds_u8 w4⟩⟩
theorem opens_cops : Opens 42 copRep.slice := opens_slice Try.underlying42 (by kernel_rfl) (by rw [show Try.prog.cellsOf 48 = 5 from by kernel_rfl]; decide) opens_cop
section
variable {H : Type} {enc : TypeId × Value → H}
end
end Go.Proofs.Ytabodlhlanolcaa

namespace Go.Proofs.Ytabodlhlanolcaa
set_option maxRecDepth 100000
open Go.RowKit
set_option linter.unusedVariables false
set_option linter.unusedSimpArgs false
attribute [local go_sem ↓] Go.wp_at_zero Go.wp_at_succ

/-- no variable from V on -/
def freeB (V : Nat) (m : Mono) : Bool := (List.range 6).all fun k => decide (k < V) || decide (m.ex k ≤ 0)
def ownB (V : Nat) (p : List Mono) : Bool := polyB p && p.all (freeB V)
theorem free_bad {V : Nat} {m : Mono} {k : Nat} (hk : k < 6) (hV : V ≤ k) (h : 0 < m.ex k) : freeB V m = false := by
  unfold freeB
  exact List.all_eq_false.2 ⟨k, List.mem_range.2 hk, by simp; omega⟩
theorem free_good {V : Nat} {m : Mono} (h : ∀ k, k < 6 → V ≤ k → m.ex k ≤ 0) : freeB V m = true := by
  unfold freeB
  exact List.all_eq_true.2 fun k hk => by
    have hk := List.mem_range.1 hk
    by_cases hV : k < V
    · simp [hV]
    · simp [hV, h k hk (by omega)]
theorem own_bad {V : Nat} {p : List Mono} {i : Nat} (hi : i < p.length) (h : freeB V p[i] = false) : ownB V p = false := by
  unfold ownB
  rw [show p.all (freeB V) = false from List.all_eq_false.2 ⟨_, List.getElem_mem hi, by simp [h]⟩, Bool.and_false]
theorem own_good {V : Nat} {p : List Mono} (h : ∀ i, (hi : i < p.length) → freeB V p[i] = true) : ownB V p = polyB p := by
  unfold ownB
  rw [show p.all (freeB V) = true from List.all_eq_true.2 fun m hm => by
    obtain ⟨i, hi, rfl⟩ := List.getElem_of_mem hm
    exact h i hi, Bool.and_true]
set_option maxHeartbeats 8000000 in
theorem of_any (w : World) (a : Option Addr) (c : Nat) (p : List Mono) (V : Nat) (hV : V ≤ 6) (h : monoRep.Els w a p) (hm : p.length ≤ 9223372036854775807) :
    Calls Try.prog 41 #[.slice a p.length c, .int .i64 (V : Int)] w fun e w' => e = .returned (.bool (ownB V p)) ∧ Below w.heap.size w w' := by
  have hr := fun W (hb : Below w.heap.size w W) => right_any W a c p (h.below monoRep hb (Nat.le_refl _)) hm
  have HR := Lib.hid hr; have HE := Lib.hid h; have HWF := Lib.hid (wf_mono h)
  clear hr h
  have hv0 : (0 : Int) ≤ (V : Int) := by omega
  have hv6 : (V : Int) ≤ 6 := by omega
  have hvd : decide ((V : Int) < 0) = false := by simp
  go_enter Try.func41, Try.ntmps41
  go_wp2_with fail
  go_loopw [11] (fun i wr => ∃ k : Nat, k ≤ p.length ∧ i = .int .i64 k ∧ (∀ j, (hj : j < p.length) → j < k → freeB V p[j] = true) ∧ Below w.heap.size w wr) (fun i _ => p.length - (intOf i).toNat)
  case atStart => exact ⟨0, Nat.zero_le _, rfl, fun j _ h => absurd h (Nat.not_lt_zero j), Below.refl _ _⟩
  case round =>
    obtain ⟨i, hi, rfl, hall, hB⟩ := hrel
    have HALL := Lib.hid hall; have HB := Lib.hid hB
    clear hall hB
    have hz0 : (0 : Int) ≤ (i : Int) := by omega
    by_cases hlt : i < p.length
    · obtain ⟨b, off, rfl, hw, x0, x1, x2, x3, x4, x5, x6⟩ := els_mono (HE.out.below monoRep HB.out (Nat.le_refl _)) hlt
      have hz1 : (i : Int) < (p.length : Int) := by omega
      have hn0 := World.alloc_heap_new wr (.cells p[i].enc.toArray 39)
      obtain ⟨z, hz⟩ : ∃ z, wr.heap.size = z := ⟨_, rfl⟩
      rw [hz] at hn0
      have hbw : Below w.heap.size w (wr.alloc (.cells p[i].enc.toArray 39)) := HB.out.alloc HB.out.size _
      have HN0 := Lib.hid hn0; have HBW := Lib.hid hbw
      clear hn0 hbw hw
      go_upto_region 4 with fail
      refine gen_worldA (fun W => Below w.heap.size w W ∧ W.heap[z]? = some (.cells p[i].enc.toArray 39 (0, 0))) ⟨HBW.out, HN0.out⟩ ?_
      clear HN0 HBW x0 x1 x2 x3 x4 x5 x6 HB hz
      rintro W ⟨hbW, g0⟩
      have HB := Lib.hid hbW; have G0 := Lib.hid g0
      clear hbW g0
      by_cases hV6 : V = 6
      · have HF := Lib.hid (free_good (V := V) (m := p[i]) (fun j h1 h2 => by omega))
        subst hV6
        go_wp2_with fail
        go_loop [21] (fun t => t = .int .i64 0) (fun _ => 0)
        case atStart => rfl
        case round =>
          subst hrel
          go_wp2_with fail
          go_roundw
          case rel => exact ⟨i + 1, by omega, by go_num, fun j hj h => by
            by_cases ej : j = i
            · subst ej; exact HF.out
            · exact HALL.out j hj (by omega), HB.out⟩
          case measure => simp [intOf]; omega
      · have h6 : ¬ 6 = V := fun e => hV6 e.symm
        clear hV6
        go_wp2_with fail
        go_loop [8, 21] (fun _ t => ∃ k : Nat, V + k ≤ 6 ∧ t = .int .i64 k ∧ ∀ j, j < k → p[i].ex (V + j) ≤ 0) (fun _ t => 6 - (intOf t).toNat)
        case atStart => exact ⟨0, by omega, rfl, fun j h => absurd h (Nat.not_lt_zero j)⟩
        case round =>
          obtain ⟨k, hk6, rfl, hfr⟩ := hrel
          have HFR := Lib.hid hfr
          clear hfr
          have hk0 : (0 : Int) ≤ (k : Int) := by omega
          by_cases hk : V + k < 6
          · have x0 := boxX G0.out hk
            rw [← Nat.add_assoc] at x0
            have hk1 : (k : Int) < 6 - (V : Int) := by omega
            have hk2 : k < 6 - V := by omega
            obtain ⟨e, he⟩ : ∃ e, p[i].ex (V + k) = e := ⟨_, rfl⟩
            rw [he] at x0
            by_cases hpos : 0 < e
            · have HG := Lib.hid (own_bad hlt (free_bad (m := p[i]) hk (Nat.le_add_right V k) (by rw [he]; exact hpos)))
              clear he
              go_wp2_with fail
              go_ret
              exact ⟨ret_bool HG.out.symm, HB.out⟩
            · have hpos' : decide (0 < e) = false := by simpa using hpos
              have HEE := Lib.hid (show p[i].ex (V + k) ≤ 0 from by rw [he]; omega)
              clear he hpos
              go_wp2_with fail
              go_round
              case rel => exact ⟨k + 1, by omega, by go_num, fun j h1 => by
                by_cases ej : j = k
                · rw [ej]; exact HEE.out
                · exact HFR.out j (by omega)⟩
              case measure => simp [intOf]; omega
          · have HF := Lib.hid (free_good (V := V) (m := p[i]) (fun j hj hVj => by
              have := HFR.out (j - V) (by omega)
              rwa [show V + (j - V) = j from by omega] at this))
            have hk1 : ¬ ((k : Int) < 6 - (V : Int)) := by omega
            have hk2 : ¬ (k < 6 - V) := by omega
            go_wp2_with fail
            go_roundw
            case rel => exact ⟨i + 1, by omega, by go_num, fun j hj h => by
              by_cases ej : j = i
              · subst ej; exact HF.out
              · exact HALL.out j hj (by omega), HB.out⟩
            case measure => simp [intOf]; omega
    · have HG := Lib.hid (own_good (V := V) (p := p) (fun j hj => HALL.out j hj (by omega)))
      go_wp2_with fail
      refine (HR.out _ HB.out).mono ?_
      rintro e w1 ⟨rfl, hb1⟩
      go_wp2_with fail
      go_ret
      exact ⟨ret_bool HG.out.symm, bNext hb1 HB.out⟩
end Go.Proofs.Ytabodlhlanolcaa

namespace Go.Proofs.Ytabodlhlanolcaa
set_option maxRecDepth 100000
open Go.RowKit
set_option linter.unusedVariables false
set_option linter.unusedSimpArgs false
attribute [local go_sem ↓] Go.wp_at_zero Go.wp_at_succ

def bothB (V : Nat) (p : List Mono) : Bool := ownB V p && growsB p
def growB (V : Nat) (l : List (List Mono)) : Bool := decide (l.length ≤ 4) && l.all (bothB V)
theorem grow_bad {V : Nat} {l : List (List Mono)} {i : Nat} (hi : i < l.length) (h : bothB V l[i] = false) : growB V l = false := by
  unfold growB
  rw [show l.all (bothB V) = false from List.all_eq_false.2 ⟨_, List.getElem_mem hi, by simp [h]⟩, Bool.and_false]
theorem grow_good {V : Nat} {l : List (List Mono)} (h : ∀ i, (hi : i < l.length) → bothB V l[i] = true) : growB V l = decide (l.length ≤ 4) := by
  unfold growB
  rw [show l.all (bothB V) = true from List.all_eq_true.2 fun m hm => by
    obtain ⟨i, hi, rfl⟩ := List.getElem_of_mem hm
    exact h i hi, Bool.and_true]

set_option maxHeartbeats 8000000 in
theorem grow_any (w : World) (a : Option Addr) (c : Nat) (l : List (List Mono)) (V : Nat) (hV : V ≤ 6) (h : polyRep.Els w a l) (hm : l.length ≤ 9223372036854775807) :
    Calls Try.prog 22 #[.slice a l.length c, .int .i64 (V : Int)] w fun e w' => e = .returned (.bool (growB V l)) ∧ Below w.heap.size w w' := by
  have HE := Lib.hid h
  clear h
  go_enter Try.func22, Try.ntmps22
  go_wp2_with fail
  go_loopw [9] (fun i wr => ∃ k : Nat, k ≤ l.length ∧ i = .int .i64 k ∧ (∀ j, (hj : j < l.length) → j < k → bothB V l[j] = true) ∧ Below w.heap.size w wr) (fun i _ => l.length - (intOf i).toNat)
  case atStart => exact ⟨0, Nat.zero_le _, rfl, fun j _ h => absurd h (Nat.not_lt_zero j), Below.refl _ _⟩
  case round =>
    obtain ⟨i, hi, rfl, hall, hB⟩ := hrel
    have HALL := Lib.hid hall; have HB := Lib.hid hB
    clear hall hB
    have hz0 : (0 : Int) ≤ (i : Int) := by omega
    by_cases hlt : i < l.length
    · obtain ⟨b, off, v, rfl, x0, hs⟩ := els_list (HE.out.below polyRep HB.out (Nat.le_refl _)) hlt
      have hz1 : (i : Int) < (l.length : Int) := by omega
      obtain ⟨pa, pc, rfl, hpl, hpe⟩ := Rep.Sl.form hs
      have hof := of_any wr pa pc l[i] V hV hpe hpl
      have hgr := fun W (hb : Below wr.heap.size wr W) => grows_any W pa pc l[i] (hpe.below monoRep hb (Nat.le_refl _)) hpl
      have hbo : bothB V l[i] = (ownB V l[i] && growsB l[i]) := rfl
      cases ho : ownB V l[i] with
      | false =>
        rw [ho] at hof hbo
        have HOF := Lib.hid hof
        have HG := Lib.hid (grow_bad hlt (hbo.trans (Bool.false_and _)))
        clear hof hgr hbo ho hs hpe
        go_wp2_with (go_at_call 41; refine HOF.out.mono ?_; rintro e w1 ⟨rfl, hb1⟩)
        go_ret
        exact ⟨ret_bool HG.out.symm, bNext hb1 HB.out⟩
      | true =>
        rw [ho] at hof hbo
        rw [Bool.true_and] at hbo
        have HOF := Lib.hid hof
        clear hof hs hpe ho
        cases hg : growsB l[i] with
        | false =>
          rw [hg] at hgr hbo
          have HGR := Lib.hid hgr
          have HG := Lib.hid (grow_bad hlt hbo)
          clear hgr hbo hg
          go_wp2_with fail
          refine HOF.out.mono ?_
          rintro e w1 ⟨rfl, hb1⟩
          go_wp2_with fail
          refine (HGR.out _ hb1).mono ?_
          rintro e w2 ⟨rfl, hb2⟩
          go_wp2_with fail
          go_ret
          exact ⟨ret_bool HG.out.symm, bNext (bNext hb2 hb1) HB.out⟩
        | true =>
          rw [hg] at hgr hbo
          have HGR := Lib.hid hgr
          have HBO := Lib.hid hbo
          clear hgr hbo hg
          go_wp2_with fail
          refine HOF.out.mono ?_
          rintro e w1 ⟨rfl, hb1⟩
          go_wp2_with fail
          refine (HGR.out _ hb1).mono ?_
          rintro e w2 ⟨rfl, hb2⟩
          go_wp2_with fail
          go_roundw
          case rel => exact ⟨i + 1, by omega, by go_num, fun j hj h => by
            by_cases ej : j = i
            · subst ej; exact HBO.out
            · exact HALL.out j hj (by omega), bNext (bNext hb2 hb1) HB.out⟩
          case measure => simp [intOf]; omega
    · have HG := Lib.hid (grow_good (V := V) (l := l) (fun j hj => HALL.out j hj (by omega)))
      by_cases hl4 : l.length ≤ 4
      · have hd : decide ((l.length : Int) ≤ 4) = true := by simp; omega
        have HG2 := Lib.hid (HG.out.trans (decide_eq_true hl4))
        go_wp2_with fail
        go_ret
        exact ⟨ret_bool HG2.out.symm, HB.out⟩
      · have hd : decide ((l.length : Int) ≤ 4) = false := by simp; omega
        have HG2 := Lib.hid (HG.out.trans (decide_eq_false hl4))
        clear hl4
        go_wp2_with fail
        go_ret
        exact ⟨ret_bool HG2.out.symm, HB.out⟩

end Go.Proofs.Ytabodlhlanolcaa

namespace Go.Proofs.Ytabodlhlanolcaa
set_option maxRecDepth 100000
open Go.RowKit
set_option linter.unusedVariables false
set_option linter.unusedSimpArgs false
attribute [local go_sem ↓] Go.wp_at_zero Go.wp_at_succ

/-- how many numbers an operation takes -/
def takesI (how : Int) : Int := if how = 1 ∨ how = 2 ∨ how = 3 then 0 else if how = 4 ∨ how = 5 then 1 else if how = 6 then 2 else -1
theorem takesI_range (h : Int) : -1 ≤ takesI h ∧ takesI h ≤ 2 := by unfold takesI; split <;> (try split) <;> (try split) <;> omega
def depthK : List Cop → Int → Int → Int
  | [], now, most => if now = 1 then most else -1
  | o :: r, now, most => if takesI o.how < 0 ∨ now < takesI o.how then -1 else depthK r (now + (1 - takesI o.how)) (max most (now + (1 - takesI o.how)))
def depthI (l : List Cop) : Int := depthK l 0 0
theorem depthK_step {l : List Cop} {k : Nat} (h : k < l.length) (now most : Int) : depthK (l.drop k) now most = if takesI l[k].how < 0 ∨ now < takesI l[k].how then -1 else depthK (l.drop (k + 1)) (now + (1 - takesI l[k].how)) (max most (now + (1 - takesI l[k].how))) := by rw [List.drop_eq_getElem_cons h, depthK]
set_option maxHeartbeats 4000000 in
theorem ctakes_any (w : World) (how k n fn : Int) (a : Option Addr) (l c : Nat) : Calls Try.prog 33 #[.agg #[.int .i64 how, .int .i64 k, .int .i64 n, .slice a l c, .int .u8 fn]] w fun e w' => e = .returned (.int .i64 (takesI how)) ∧ Below w.heap.size w w' := by
  by_cases h0 : how = 1 ∨ how = 2 ∨ how = 3 ∨ how = 4 ∨ how = 5 ∨ how = 6
  · rcases h0 with rfl | rfl | rfl | rfl | rfl | rfl
    all_goals
      go_enter Try.func33, Try.ntmps33
      go_wp2_with fail
      go_ret
      exact ⟨ret_int rfl, (Below.refl _ _).alloc (Nat.le_refl _) _⟩
  have HV := Lib.hid (show takesI how = -1 from by unfold takesI; rw [if_neg (by omega), if_neg (by omega), if_neg (by omega)])
  have g1 : (how == 1) = false := by simp; omega
  have g2 : (how == 2) = false := by simp; omega
  have g3 : (how == 3) = false := by simp; omega
  have g4 : (how == 4) = false := by simp; omega
  have g5 : (how == 5) = false := by simp; omega
  have g6 : (how == 6) = false := by simp; omega
  clear h0
  go_enter Try.func33, Try.ntmps33
  go_wp2_with fail
  go_ret
  exact ⟨ret_int HV.out.symm, (Below.refl _ _).alloc (Nat.le_refl _) _⟩
set_option maxHeartbeats 4000000 in
theorem rctakes_any (w : World) (how k n fn : Int) (a : Option Addr) (l c : Nat) : Calls Try.prog 38 #[.agg #[.int .i64 how, .int .i64 k, .int .i64 n, .slice a l c, .int .u8 fn]] w fun e w' => e = .returned (.int .i64 (takesI how)) ∧ Below w.heap.size w w' := by
  by_cases h0 : how = 1 ∨ how = 2 ∨ how = 3 ∨ how = 4 ∨ how = 5 ∨ how = 6
  · rcases h0 with rfl | rfl | rfl | rfl | rfl | rfl
    all_goals
      go_enter Try.func38, Try.ntmps38
      go_wp2_with fail
      go_ret
      exact ⟨ret_int rfl, (Below.refl _ _).alloc (Nat.le_refl _) _⟩
  have HV := Lib.hid (show takesI how = -1 from by unfold takesI; rw [if_neg (by omega), if_neg (by omega), if_neg (by omega)])
  have g1 : (how == 1) = false := by simp; omega
  have g2 : (how == 2) = false := by simp; omega
  have g3 : (how == 3) = false := by simp; omega
  have g4 : (how == 4) = false := by simp; omega
  have g5 : (how == 5) = false := by simp; omega
  have g6 : (how == 6) = false := by simp; omega
  clear h0
  go_enter Try.func38, Try.ntmps38
  go_wp2_with fail
  go_ret
  exact ⟨ret_int HV.out.symm, (Below.refl _ _).alloc (Nat.le_refl _) _⟩
set_option maxHeartbeats 16000000 in
theorem depth_any (w : World) (a : Option Addr) (c : Nat) (l : List Cop) (h : copRep.Els w a l) (hm : l.length ≤ 9223372036854775807) :
    Calls Try.prog 14 #[.slice a l.length c] w fun e w' => e = .returned (.int .i64 (depthI l)) ∧ Below w.heap.size w w' := by
  have HE := Lib.hid h
  clear h
  go_enter Try.func14, Try.ntmps14
  go_wp2_with fail
  go_loopw [3, 4, 10] (fun m n i wr => ∃ (k : Nat) (mo no : Int), k ≤ l.length ∧ i = .int .i64 k ∧ m = .int .i64 mo ∧ n = .int .i64 no ∧ depthI l = depthK (l.drop k) no mo ∧ 0 ≤ no ∧ no ≤ k ∧ 0 ≤ mo ∧ mo ≤ k ∧ Below w.heap.size w wr) (fun _ _ i _ => l.length - (intOf i).toNat)
  case atStart => exact ⟨0, 0, 0, Nat.zero_le _, rfl, rfl, rfl, rfl, by omega, by omega, by omega, by omega, Below.refl _ _⟩
  case round =>
    obtain ⟨k, mo, no, hk, rfl, rfl, rfl, hd, hn0, hn1, hm0, hm1, hB⟩ := hrel
    have HD := Lib.hid hd; have HB := Lib.hid hB
    clear hd hB
    have hz0 : (0 : Int) ≤ (k : Int) := by omega
    by_cases hlt : k < l.length
    · have hz1 : (k : Int) < (l.length : Int) := by omega
      obtain ⟨b, off, cs, rfl, ⟨v, rfl, hs, hh, -⟩, hc⟩ := (HE.out.below copRep HB.out (Nat.le_refl _)) k hlt
      have x0 := hc 0 _ rfl; have x1 := hc 1 _ rfl; have x2 := hc 2 _ rfl; have x3 := hc 3 _ rfl; have x4 := hc 4 _ rfl
      simp only [show copRep.n = 5 from rfl, Nat.add_zero] at x0 x1 x2 x3 x4
      obtain ⟨va, vc, rfl⟩ := hs.form0
      have hst := depthK_step hlt no mo
      have hq := fun W => ctakes_any W l[k].how l[k].k l[k].n l[k].fn va l[k].p.length vc
      have hrg := takesI_range l[k].how
      obtain ⟨t, ht⟩ : ∃ t, takesI l[k].how = t := ⟨_, rfl⟩
      rw [ht] at hst hq hrg
      have HQ := Lib.hid hq; have HST := Lib.hid (HD.out.trans hst)
      obtain ⟨hr0, hr1⟩ := hrg
      clear hst hq ht hc hs hh
      by_cases ht0 : t < 0
      · have HG := Lib.hid (HST.out.trans (if_pos (.inl ht0)))
        go_wp2_with fail
        refine (HQ.out _).mono ?_
        rintro e w1 ⟨rfl, hb1⟩
        have hB1 := Lib.hid (HB.out.trans ((((Below.refl wr.heap.size wr).alloc (Nat.le_refl _) _).trans (hb1.mono (by simp))).mono HB.out.size))
        go_wp2_with fail
        go_ret
        exact ⟨ret_int HG.out.symm, hB1.out⟩
      have ht0' : decide (t < 0) = false := by simpa using ht0
      by_cases hnt : no < t
      · have HG := Lib.hid (HST.out.trans (if_pos (.inr hnt)))
        go_wp2_with fail
        refine (HQ.out _).mono ?_
        rintro e w1 ⟨rfl, hb1⟩
        have hB1 := Lib.hid (HB.out.trans ((((Below.refl wr.heap.size wr).alloc (Nat.le_refl _) _).trans (hb1.mono (by simp))).mono HB.out.size))
        go_wp2_with fail
        go_ret
        exact ⟨ret_int HG.out.symm, hB1.out⟩
      have hnt' : decide (no < t) = false := by simpa using hnt
      have HG := Lib.hid (HST.out.trans (if_neg (by omega)))
      have hn2 : 0 ≤ no + (1 - t) := by omega
      have hn3 : no + (1 - t) ≤ (k : Int) + 1 := by omega
      clear hnt ht0 HST
      by_cases hmx : mo < no + (1 - t)
      · have HG2 : Hid (depthI l = depthK (l.drop (k + 1)) (no + (1 - t)) (no + (1 - t))) := Lib.hid (HG.out.trans (by rw [Int.max_eq_right (by omega)]))
        go_wp2_with fail
        refine (HQ.out _).mono ?_
        rintro e w1 ⟨rfl, hb1⟩
        have hB1 := Lib.hid (HB.out.trans ((((Below.refl wr.heap.size wr).alloc (Nat.le_refl _) _).trans (hb1.mono (by simp))).mono HB.out.size))
        go_wp2_with fail
        go_roundw
        case rel => exact ⟨k + 1, no + (1 - t), no + (1 - t), by omega, by go_num, rfl, rfl, HG2.out, by omega, by omega, by omega, by omega, hB1.out⟩
        case measure => simp [intOf]; omega
      · have hmx' : decide (mo < no + (1 - t)) = false := by simpa using hmx
        have HG2 : Hid (depthI l = depthK (l.drop (k + 1)) (no + (1 - t)) mo) := Lib.hid (HG.out.trans (by rw [Int.max_eq_left (by omega)]))
        go_wp2_with fail
        refine (HQ.out _).mono ?_
        rintro e w1 ⟨rfl, hb1⟩
        have hB1 := Lib.hid (HB.out.trans ((((Below.refl wr.heap.size wr).alloc (Nat.le_refl _) _).trans (hb1.mono (by simp))).mono HB.out.size))
        go_wp2_with fail
        go_roundw
        case rel => exact ⟨k + 1, mo, no + (1 - t), by omega, by go_num, rfl, rfl, HG2.out, by omega, by omega, by omega, by omega, hB1.out⟩
        case measure => simp [intOf]; omega
    · obtain rfl : k = l.length := by omega
      by_cases h1 : no = 1
      · have HG := Lib.hid (HD.out.trans (by rw [List.drop_length, depthK, if_pos h1]))
        subst h1
        go_wp2_with fail
        go_ret
        exact ⟨ret_int HG.out.symm, HB.out⟩
      · have HG := Lib.hid (HD.out.trans (by rw [List.drop_length, depthK, if_neg h1]))
        have h1' : (no == 1) = false := by simpa using h1
        go_wp2_with fail
        go_ret
        exact ⟨ret_int HG.out.symm, HB.out⟩
set_option maxHeartbeats 16000000 in
theorem rdepth_any (w : World) (a : Option Addr) (c : Nat) (l : List Cop) (h : copRep.Els w a l) (hm : l.length ≤ 9223372036854775807) :
    Calls Try.prog 18 #[.slice a l.length c] w fun e w' => e = .returned (.int .i64 (depthI l)) ∧ Below w.heap.size w w' := by
  have HE := Lib.hid h
  clear h
  go_enter Try.func18, Try.ntmps18
  go_wp2_with fail
  go_loopw [3, 4, 5] (fun n m i wr => ∃ (k : Nat) (mo no : Int), k ≤ l.length ∧ i = .int .i64 k ∧ m = .int .i64 mo ∧ n = .int .i64 no ∧ depthI l = depthK (l.drop k) no mo ∧ 0 ≤ no ∧ no ≤ k ∧ 0 ≤ mo ∧ mo ≤ k ∧ Below w.heap.size w wr) (fun _ _ i _ => l.length - (intOf i).toNat)
  case atStart => exact ⟨0, 0, 0, Nat.zero_le _, rfl, rfl, rfl, rfl, by omega, by omega, by omega, by omega, Below.refl _ _⟩
  case round =>
    obtain ⟨k, mo, no, hk, rfl, rfl, rfl, hd, hn0, hn1, hm0, hm1, hB⟩ := hrel
    have HD := Lib.hid hd; have HB := Lib.hid hB
    clear hd hB
    have hz0 : (0 : Int) ≤ (k : Int) := by omega
    by_cases hlt : k < l.length
    · have hz1 : (k : Int) < (l.length : Int) := by omega
      obtain ⟨b, off, cs, rfl, ⟨v, rfl, hs, hh, -⟩, hc⟩ := (HE.out.below copRep HB.out (Nat.le_refl _)) k hlt
      have x0 := hc 0 _ rfl; have x1 := hc 1 _ rfl; have x2 := hc 2 _ rfl; have x3 := hc 3 _ rfl; have x4 := hc 4 _ rfl
      simp only [show copRep.n = 5 from rfl, Nat.add_zero] at x0 x1 x2 x3 x4
      obtain ⟨va, vc, rfl⟩ := hs.form0
      have hst := depthK_step hlt no mo
      have hq := fun W => rctakes_any W l[k].how l[k].k l[k].n l[k].fn va l[k].p.length vc
      have hrg := takesI_range l[k].how
      obtain ⟨t, ht⟩ : ∃ t, takesI l[k].how = t := ⟨_, rfl⟩
      rw [ht] at hst hq hrg
      have HQ := Lib.hid hq; have HST := Lib.hid (HD.out.trans hst)
      obtain ⟨hr0, hr1⟩ := hrg
      clear hst hq ht hc hs hh
      by_cases ht0 : t < 0
      · have HG := Lib.hid (HST.out.trans (if_pos (.inl ht0)))
        go_wp2_with fail
        refine (HQ.out _).mono ?_
        rintro e w1 ⟨rfl, hb1⟩
        have hB1 := Lib.hid (HB.out.trans ((hb1).mono HB.out.size))
        go_wp2_with fail
        go_ret
        exact ⟨ret_int HG.out.symm, hB1.out⟩
      have ht0' : decide (t < 0) = false := by simpa using ht0
      by_cases hnt : no < t
      · have HG := Lib.hid (HST.out.trans (if_pos (.inr hnt)))
        go_wp2_with fail
        refine (HQ.out _).mono ?_
        rintro e w1 ⟨rfl, hb1⟩
        have hB1 := Lib.hid (HB.out.trans ((hb1).mono HB.out.size))
        go_wp2_with fail
        go_ret
        exact ⟨ret_int HG.out.symm, hB1.out⟩
      have hnt' : decide (no < t) = false := by simpa using hnt
      have HG := Lib.hid (HST.out.trans (if_neg (by omega)))
      have hn2 : 0 ≤ no + (1 - t) := by omega
      have hn3 : no + (1 - t) ≤ (k : Int) + 1 := by omega
      clear hnt ht0 HST
      by_cases hmx : mo < no - t + 1
      · have HG2 : Hid (depthI l = depthK (l.drop (k + 1)) (no + (1 - t)) (no + (1 - t))) := Lib.hid (HG.out.trans (by rw [Int.max_eq_right (by omega)]))
        go_wp2_with fail
        refine (HQ.out _).mono ?_
        rintro e w1 ⟨rfl, hb1⟩
        have hB1 := Lib.hid (HB.out.trans ((hb1).mono HB.out.size))
        go_wp2_with fail
        go_roundw
        case rel => exact ⟨k + 1, no + (1 - t), no + (1 - t), by omega, by go_num, by rw [show no - t + 1 = no + (1 - t) from by omega], by rw [show no - t + 1 = no + (1 - t) from by omega], HG2.out, by omega, by omega, by omega, by omega, hB1.out⟩
        case measure => simp [intOf]; omega
      · have hmx' : decide (mo < no - t + 1) = false := by simpa using hmx
        have HG2 : Hid (depthI l = depthK (l.drop (k + 1)) (no + (1 - t)) mo) := Lib.hid (HG.out.trans (by rw [Int.max_eq_left (by omega)]))
        go_wp2_with fail
        refine (HQ.out _).mono ?_
        rintro e w1 ⟨rfl, hb1⟩
        have hB1 := Lib.hid (HB.out.trans ((hb1).mono HB.out.size))
        go_wp2_with fail
        go_roundw
        case rel => exact ⟨k + 1, mo, no + (1 - t), by omega, by go_num, rfl, by rw [show no - t + 1 = no + (1 - t) from by omega], HG2.out, by omega, by omega, by omega, by omega, hB1.out⟩
        case measure => simp [intOf]; omega
    · obtain rfl : k = l.length := by omega
      by_cases h1 : no = 1
      · have HG := Lib.hid (HD.out.trans (by rw [List.drop_length, depthK, if_pos h1]))
        subst h1
        go_wp2_with fail
        go_ret
        exact ⟨ret_int HG.out.symm, HB.out⟩
      · have HG := Lib.hid (HD.out.trans (by rw [List.drop_length, depthK, if_neg h1]))
        have h1' : (no == 1) = false := by simpa using h1
        go_wp2_with fail
        go_ret
        exact ⟨ret_int HG.out.symm, HB.out⟩
end Go.Proofs.Ytabodlhlanolcaa

namespace Go.Proofs.Ytabodlhlanolcaa
set_option maxRecDepth 100000
open Go.RowKit
set_option linter.unusedVariables false
set_option linter.unusedSimpArgs false
attribute [local go_sem ↓] Go.wp_at_zero Go.wp_at_succ

def firstO (p : Cop → Bool) : Nat → List Cop → Int
  | _, [] => -1
  | k, x :: xs => if p x then k else firstO p (k + 1) xs
theorem firstO_step {p : Cop → Bool} {k : Nat} {xs : List Cop} (h : k < xs.length) : firstO p k (xs.drop k) = if p xs[k] then (k : Int) else firstO p (k + 1) (xs.drop (k + 1)) := by
  rw [List.drop_eq_getElem_cons h, firstO]
theorem firstO_nonneg {p : Cop → Bool} : ∀ (xs : List Cop) (k : Nat), decide (0 ≤ firstO p k xs) = xs.any p
  | [], k => by simp [firstO]
  | x :: xs, k => by
    rw [firstO]
    by_cases h : p x
    · simp [h]
    · simp [h, firstO_nonneg xs (k + 1)]
set_option maxHeartbeats 4000000 in
theorem indexFuncO (w : World) (a : Option Addr) (cap : Nat) (xs : List Cop) (cv : Value) (p : Cop → Bool) (hm : xs.length ≤ maxLen) (h : copRep.Els w a xs)
    (hp : ∀ i, (hi : i < xs.length) → ∀ w' pa pc, Below w.heap.size w w' → monoRep.Els w' pa xs[i].p → xs[i].p.length ≤ 9223372036854775807 →
      Calls Try.prog 43 #[.agg #[.int .i64 xs[i].how, .int .i64 xs[i].k, .int .i64 xs[i].n, .slice pa xs[i].p.length pc, .int .u8 xs[i].fn], cv] w' fun e w'' => e = .returned (.bool (p xs[i])) ∧ Below w'.heap.size w' w'') :
    Calls Try.prog 56 #[.slice a xs.length cap, .func (.func 43) #[] #[cv]] w fun e w' => e = .returned (.int .i64 (firstO p 0 xs)) ∧ Below w.heap.size w w' := by
  unfold maxLen at hm
  have HI := Lib.hid h; have HP := Lib.hid hp; clear h hp
  go_enter Try.func56, Try.ntmps56
  go_wp2
  go_loopw [8] (fun i wr => ∃ k : Nat, k ≤ xs.length ∧ i = .int .i64 k ∧ firstO p 0 xs = firstO p k (xs.drop k) ∧ Below w.heap.size w wr) (fun i _ => xs.length - (intOf i).toNat)
  case atStart => exact ⟨0, Nat.zero_le _, rfl, rfl, Below.refl _ _⟩
  case round =>
    obtain ⟨k, hk, rfl, hr, hbel⟩ := hrel
    by_cases hlt : k < xs.length
    · rw [firstO_step hlt] at hr
      obtain ⟨b, off, cs, rfl, ⟨v, rfl, hs, hh, -⟩, hc⟩ := (HI.out.below copRep hbel (Nat.le_refl _)) k hlt
      have x0 := hc 0 _ rfl; have x1 := hc 1 _ rfl; have x2 := hc 2 _ rfl; have x3 := hc 3 _ rfl; have x4 := hc 4 _ rfl
      simp only [show copRep.n = 5 from rfl, Nat.add_zero] at x0 x1 x2 x3 x4
      obtain ⟨pa, pc, rfl, hpl, hpe⟩ := Rep.Sl.form hs
      have hq := HP.out k hlt wr pa pc hbel hpe hpl
      have Hr := Lib.hid hr; clear hr hs hpe hc
      cases hv : p xs[k] with
      | true =>
        rw [hv] at hq
        have HQ := Lib.hid hq; have Hv := Lib.hid hv; clear hq hv
        go_wp2_with (refine HQ.out.mono ?_; rintro e w' ⟨rfl, hb1⟩)
        go_ret
        exact ⟨ret_int (by rw [Hr.out, if_pos Hv.out]), bNext hb1 hbel⟩
      | false =>
        rw [hv] at hq
        have HQ := Lib.hid hq; have Hv := Lib.hid hv; clear hq hv
        go_wp2_with (refine HQ.out.mono ?_; rintro e w' ⟨rfl, hb1⟩)
        go_roundw
        case rel => exact ⟨k + 1, by omega, by go_num, by rw [Hr.out, if_neg (by rw [Hv.out]; simp)], bNext hb1 hbel⟩
        case measure => simp [intOf]; omega
    · have Hr := Lib.hid hr; clear hr
      go_wp2
      go_ret
      exact ⟨ret_int (by rw [Hr.out, List.drop_eq_nil_of_le (by omega)]; rfl), hbel⟩

theorem containsFuncO (w : World) (a : Option Addr) (cap : Nat) (xs : List Cop) (cv : Value) (p : Cop → Bool) (hm : xs.length ≤ maxLen) (h : copRep.Els w a xs)
    (hp : ∀ i, (hi : i < xs.length) → ∀ w' pa pc, Below w.heap.size w w' → monoRep.Els w' pa xs[i].p → xs[i].p.length ≤ 9223372036854775807 →
      Calls Try.prog 43 #[.agg #[.int .i64 xs[i].how, .int .i64 xs[i].k, .int .i64 xs[i].n, .slice pa xs[i].p.length pc, .int .u8 xs[i].fn], cv] w' fun e w'' => e = .returned (.bool (p xs[i])) ∧ Below w'.heap.size w' w'') :
    Calls Try.prog 36 #[.slice a xs.length cap, .func (.func 43) #[] #[cv]] w fun e w' => e = .returned (.bool (xs.any p)) ∧ Below w.heap.size w w' := by
  have hq := Lib.hid (indexFuncO w a cap xs cv p hm h hp)
  clear hp h
  go_enter Try.func36, Try.ntmps36
  go_wp2_with (go_at_call 56; refine hq.out.mono ?_; rintro e w' ⟨rfl, hb1⟩)
  go_ret
  exact ⟨ret_bool (firstO_nonneg _ _), hb1⟩
end Go.Proofs.Ytabodlhlanolcaa

namespace Go.Proofs.Ytabodlhlanolcaa
set_option maxRecDepth 100000
open Go.RowKit
set_option linter.unusedVariables false
set_option linter.unusedSimpArgs false
attribute [local go_sem ↓] Go.wp_at_zero Go.wp_at_succ

def MadeAt (w : World) (a : Option Addr) (l : List Bool) : Prop := ∀ k, (hk : k < l.length) → ∃ b off, a = some ⟨b, off, none⟩ ∧ w.cell? ⟨b, off + k, none⟩ = some (.bool l[k])
theorem MadeAt.below {w w' : World} {a : Option Addr} {l : List Bool} {B : Nat} (h : MadeAt w a l) (hb : Below B w w') (hB : w.heap.size ≤ B) : MadeAt w' a l := fun k hk => by
  obtain ⟨b, off, e, hc⟩ := h k hk
  exact ⟨b, off, e, (hb.cell (Nat.lt_of_lt_of_le (World.block_lt_of_cell? _ _ hc) hB)).trans hc⟩
def madeB (made : List Bool) (k : Int) : Bool := decide (0 ≤ k) && decide (k < made.length) && made.getD k.toNat false
def opB (V L : Nat) (made : List Bool) (o : Cop) : Bool :=
  if o.how = 1 then o.k == 0 && decide (o.p.length = 0) && o.fn == 0
  else if o.how = 2 then o.k == 0 && o.n == 0 && o.fn == 0 && ownB V o.p
  else if o.how = 3 then decide (0 ≤ o.k) && decide (o.k < L) && o.n == 0 && decide (o.p.length = 0) && o.fn == 0
  else if o.how = 4 then madeB made o.k && o.n == 0 && decide (o.p.length = 0) && o.fn == 0
  else if o.how = 5 then o.k == 0 && o.n == 0 && decide (o.p.length = 0) && takes o.fn false
  else if o.how = 6 then o.k == 0 && o.n == 0 && decide (o.p.length = 0) && takes o.fn true
  else false
theorem madeB_nat {made : List Bool} {k : Nat} (h : k < made.length) : madeB made k = made[k] := by
  unfold madeB
  rw [decide_eq_true (by omega), decide_eq_true (by omega), Int.toNat_natCast, List.getD_eq_getElem?_getD, List.getElem?_eq_getElem h]
  rfl
theorem madeB_neg {made : List Bool} {k : Int} (h : ¬ 0 ≤ k) : madeB made k = false := by unfold madeB; rw [decide_eq_false h]; rfl
theorem madeB_long {made : List Bool} {k : Nat} (h : ¬ k < made.length) : madeB made k = false := by unfold madeB; rw [decide_eq_false (p := (k : Int) < _) (by omega), Bool.and_false]; rfl
section
variable (w : World) (k n fn : Int) (p : List Mono) (pa : Option Addr) (pc V L : Nat) (ma : Option Addr) (mc : Nat) (made : List Bool)
end
end Go.Proofs.Ytabodlhlanolcaa
