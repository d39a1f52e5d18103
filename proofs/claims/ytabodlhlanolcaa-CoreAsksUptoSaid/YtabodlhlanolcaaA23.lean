import Derived.Test.YtabodlhlanolcaaA22
import Derived.Test.YtabodlhlanolcaaRows1
import Derived.OwnWalk
import Derived.Deep.DrawnRows
namespace Go.Proofs.Ytabodlhlanolcaa
set_option maxRecDepth 100000
open Go.RowKit
set_option linter.unusedVariables false
set_option linter.unusedSimpArgs false
attribute [local go_sem ↓] Go.wp_at_zero Go.wp_at_succ

/-! windrowref10.Right. -/
theorem Try.infoBool : (Try.prog.info? 4).map (fun i => (i.zero, i.size, i.bytes)) = some (some (.bool false), 1, 1) := by kernel_rfl
/-- what is made of k buffers -/
def mF (bufs : List Buf) (k j : Nat) : Value := .bool (decide (j < k) && (match bufs[j]? with | some b => decide (0 ≤ b.input) | none => false))
theorem mF_put {bufs : List Buf} {k : Nat} (h : k < bufs.length) (j : Nat) : mF bufs (k + 1) j = if j = k then .bool (decide (0 ≤ bufs[k].input)) else mF bufs k j := by
  unfold mF
  by_cases e : j = k
  · subst e
    rw [if_pos rfl, decide_eq_true (by omega), List.getElem?_eq_getElem h]
    rfl
  · rw [if_neg e]
    by_cases hj : j < k
    · rw [decide_eq_true hj, decide_eq_true (show j < k + 1 by omega)]
    · rw [decide_eq_false hj, decide_eq_false (show ¬ j < k + 1 by omega)]
theorem mF_all (bufs : List Buf) : rowOf bufs.length (mF bufs bufs.length) = rowOf bufs.length fun j => .bool ((madeOf bufs).getD j false) := rowOf_congr fun j hj => by
  unfold mF madeOf
  rw [decide_eq_true hj, List.getElem?_eq_getElem hj, List.getD_eq_getElem?_getD, List.getElem?_map, List.getElem?_eq_getElem hj]
  simp
theorem made_set {made : List Bool} {k : Nat} (h : k < made.length) (j : Nat) : (made.set k true).getD j false = if j = k then true else made.getD j false := by
  rw [List.getD_eq_getElem?_getD, List.getD_eq_getElem?_getD, List.getElem?_set]
  by_cases e : k = j
  · subst e; simp [h]
  · rw [if_neg e, if_neg (fun e' => e e'.symm)]
theorem made_at {w : World} {L n : Nat} {made : List Bool} (hl : made.length = n) (h : w.heap[L]? = some (.cells (rowOf n fun j => .bool (made.getD j false)) 4 (0, 0))) : MadeAt w (some ⟨L, 0, none⟩) made := fun k hk => by
  refine ⟨L, 0, rfl, ?_⟩
  rw [Nat.zero_add, rowOf_cell h (by omega), List.getD_eq_getElem?_getD, List.getElem?_eq_getElem hk]
  rfl
structure RgIn (w W : World) (x : Nat) (vars : Int) (vb vs vo : Value) : Prop where
  below : Below w.heap.size w W
  c0 : W.cell? ⟨x, 0, none⟩ = some (.int .i64 vars)
  c1 : W.cell? ⟨x, 1, none⟩ = some vb
  c2 : W.cell? ⟨x, 2, none⟩ = some vs
  c3 : W.cell? ⟨x, 3, none⟩ = some vo
  hx : x < W.heap.size
theorem RgIn.next {w W W' : World} {x : Nat} {vars : Int} {vb vs vo : Value} (h : RgIn w W x vars vb vs vo) (hb : Below W.heap.size W W') : RgIn w W' x vars vb vs vo :=
  ⟨bNext hb h.below, keepCell hb h.c0, keepCell hb h.c1, keepCell hb h.c2, keepCell hb h.c3, Nat.lt_of_lt_of_le h.hx hb.size⟩
theorem rgIn_new (w : World) (vars : Int) (vb vs vo : Value) : RgIn w (w.alloc (.cells #[.int .i64 vars, vb, vs, vo] 26)) w.heap.size vars vb vs vo := by
  have n0 := World.alloc_heap_new w (.cells #[.int .i64 vars, vb, vs, vo] 26)
  have g0 := blockCells (cs := [.int .i64 vars, vb, vs, vo]) n0
  exact ⟨(Below.refl _ _).alloc (Nat.le_refl _) _, g0 0, g0 1, g0 2, g0 3, by simp⟩
theorem RgIn.set {w W : World} {x : Nat} {vars : Int} {vb vs vo : Value} (h : RgIn w W x vars vb vs vo) {p : Addr} (hp : w.heap.size ≤ p.block) (hx : ¬ p.block = x) (u : Value) : RgIn w (W.setCell p u) x vars vb vs vo := by
  have hk : KB (fun b => b = p.block) W (W.setCell p u) := (KB.refl (fun b => b = p.block) W).setCell (p := p) (fun _ => rfl) u
  have hn : ¬ x = p.block := fun e => hx e.symm
  exact ⟨h.below.setCell hp u, (hk.cell (p := ⟨x, 0, none⟩) h.hx hn).trans h.c0, (hk.cell (p := ⟨x, 1, none⟩) h.hx hn).trans h.c1, (hk.cell (p := ⟨x, 2, none⟩) h.hx hn).trans h.c2, (hk.cell (p := ⟨x, 3, none⟩) h.hx hn).trans h.c3, Nat.lt_of_lt_of_le h.hx hk.size⟩
/-- a buffer in a box of its own -/
structure BufIn (w W : World) (z : Nat) (v : Value) (inp : Int) : Prop where
  below : Below w.heap.size w W
  d0 : W.cell? ⟨z, 0, none⟩ = some v
  d1 : W.cell? ⟨z, 1, none⟩ = some (.int .i64 inp)
  hz : z < W.heap.size
theorem BufIn.next {w W W' : World} {z : Nat} {v : Value} {inp : Int} (h : BufIn w W z v inp) (hb : Below W.heap.size W W') : BufIn w W' z v inp :=
  ⟨bNext hb h.below, keepCell hb h.d0, keepCell hb h.d1, Nat.lt_of_lt_of_le h.hz hb.size⟩
theorem bufIn_new (w : World) (v : Value) (inp : Int) : BufIn w (w.alloc (.cells #[v, .int .i64 inp] 36)) w.heap.size v inp := by
  have g0 := blockCells (cs := [v, .int .i64 inp]) (World.alloc_heap_new w (.cells #[v, .int .i64 inp] 36))
  exact ⟨(Below.refl _ _).alloc (Nat.le_refl _) _, g0 0, g0 1, by simp⟩
set_option maxHeartbeats 16000000 in
theorem rright10_any (w : World) (vars : Int) (bufs : List Buf) (ba : Option Addr) (bc : Nat) (hbe : bufRep.Els w ba bufs) (hbl : bufs.length ≤ 9223372036854775807) (steps : List Stp) (sa : Option Addr) (sc : Nat) (hse : stpRep.Els w sa steps) (hsl : steps.length ≤ 9223372036854775807)
    (outs : List Int) (oa : Option Addr) (oc : Nat) (hoe : (Rep.int .i64).Els w oa outs) (hol : outs.length ≤ 9223372036854775807) :
    Calls Try.prog 11 #[.agg #[.int .i64 vars, .slice ba bufs.length bc, .slice sa steps.length sc, .slice oa outs.length oc]] w fun e w' => e = .returned (.bool (rightB ⟨vars, bufs, steps, outs⟩)) ∧ Below w.heap.size w w' := by
  have HBE := Lib.hid hbe; have HSE := Lib.hid hse; have HOE := Lib.hid hoe; have HN := Lib.hid (rgIn_new w vars (.slice ba bufs.length bc) (.slice sa steps.length sc) (.slice oa outs.length oc))
  clear hbe hse hoe
  have hbad : sizesB ⟨vars, bufs, steps, outs⟩ = false → rightB ⟨vars, bufs, steps, outs⟩ = false := fun h => by unfold rightB; rw [h]; rfl
  have HBAD := Lib.hid hbad; clear hbad
  obtain ⟨i0, hi, hz0, hz1, hz2⟩ := info_parts Try.infoBool
  have Hi := Lib.hid hi; have Hz0 := Lib.hid hz0; have Hz1 := Lib.hid hz1; have Hz2 := Lib.hid hz2; clear hi hz0 hz1 hz2
  go_enter Try.func11, Try.ntmps11
  go_upto_region 1 with fail
  refine gen_worldA (fun W => RgIn w W w.heap.size vars (.slice ba bufs.length bc) (.slice sa steps.length sc) (.slice oa outs.length oc)) HN.out ?_
  clear HN
  intro W hin
  have HIN := Lib.hid hin
  obtain ⟨-, x0, x1, x2, x3, hxx⟩ := hin
  by_cases a0 : vars < 0
  · have HG := Lib.hid (HBAD.out (by unfold sizesB; simp [show ¬ 0 ≤ vars from by omega]))
    go_wp2_with fail
    go_ret
    exact ⟨ret_bool HG.out.symm, HIN.out.below⟩
  have a0' : decide (vars < 0) = false := by simpa using a0
  by_cases a1 : 6 < vars
  · have HG := Lib.hid (HBAD.out (by unfold sizesB; simp [show ¬ vars ≤ 6 from by omega]))
    go_wp2_with fail
    go_ret
    exact ⟨ret_bool HG.out.symm, HIN.out.below⟩
  have a1' : decide (6 < vars) = false := by simpa using a1
  by_cases a2 : 1024 < bufs.length
  · have a2a : decide ((1024 : Int) < (bufs.length : Int)) = true := by simp; omega
    have a2b : (1024 : Int) < (bufs.length : Int) := by omega
    have HG := Lib.hid (HBAD.out (by unfold sizesB; simp [show ¬ bufs.length ≤ 1024 from by omega]))
    go_wp2_with fail
    go_ret
    exact ⟨ret_bool HG.out.symm, HIN.out.below⟩
  have a2a : decide ((1024 : Int) < (bufs.length : Int)) = false := by simp; omega
  by_cases a3 : 1024 < steps.length
  · have a3a : decide ((1024 : Int) < (steps.length : Int)) = true := by simp; omega
    have a3b : (1024 : Int) < (steps.length : Int) := by omega
    have HG := Lib.hid (HBAD.out (by unfold sizesB; simp [show ¬ steps.length ≤ 1024 from by omega]))
    go_wp2_with fail
    go_ret
    exact ⟨ret_bool HG.out.symm, HIN.out.below⟩
  have a3a : decide ((1024 : Int) < (steps.length : Int)) = false := by simp; omega
  by_cases a4 : 64 < outs.length
  · have a4a : decide ((64 : Int) < (outs.length : Int)) = true := by simp; omega
    have a4b : (64 : Int) < (outs.length : Int) := by omega
    have HG := Lib.hid (HBAD.out (by unfold sizesB; simp [show ¬ outs.length ≤ 64 from by omega]))
    go_wp2_with fail
    go_ret
    exact ⟨ret_bool HG.out.symm, HIN.out.below⟩
  have a4a : decide ((64 : Int) < (outs.length : Int)) = false := by simp; omega
  obtain ⟨V, rfl⟩ : ∃ V : Nat, vars = V := ⟨vars.toNat, by omega⟩
  have hV : V ≤ 6 := by omega
  have HS : Hid (∀ b, (bufsOk V bufs && (stepsK V bufs steps (madeOf bufs) && outs.all (outB bufs.length))) = b → rightB ⟨V, bufs, steps, outs⟩ = b) := Lib.hid fun b h => by
    unfold rightB sizesB
    dsimp only
    rw [decide_eq_true (show (0 : Int) ≤ V from by omega), decide_eq_true (show (V : Int) ≤ 6 from by omega), decide_eq_true (show bufs.length ≤ 1024 from by omega), decide_eq_true (show steps.length ≤ 1024 from by omega), decide_eq_true (show outs.length ≤ 64 from by omega), Int.toNat_natCast]
    exact h
  clear HBAD
  have b2 : (bufs.length : Int) ≤ 1024 := by omega
  have b3 : (steps.length : Int) ≤ 1024 := by omega
  have b4 : (outs.length : Int) ≤ 64 := by omega
  go_upto_region 3 with fail
  go_wp2_with (at_make; refine wpList_make_full _ rfl _ _ 55 rfl W.heap.size 4 i0 _ 1 Try.underlying55 Hi.out Hz0.out Hz1.out _ _ _ _ bufs.length rfl rfl rfl rfl ?c2 ?c3 ?c4 ?_)
  case c2 => rw [Hz2.out]; omega
  case c3 => unfold maxLen; omega
  intro w2 hown hgrow
  obtain ⟨L, hL⟩ : ∃ L, W.heap.size = L := ⟨_, rfl⟩
  have hB : Below W.heap.size W w2 := (Below.refl _ _).grown hgrow (Nat.le_refl _) (by simp)
  have HIN2 := Lib.hid (HIN.out.next hB)
  rw [hL] at hown
  have hrow : w2.heap[L]? = some (.cells (rowOf bufs.length (mF bufs 0)) 4 (0, 0)) := by
    rw [row_made hown]; congr 2
  have HL : Hid (w.heap.size < L) := Lib.hid (by rw [← hL]; exact HIN.out.hx)
  have Hr := Lib.hid hrow
  rw [hL]
  clear hown hgrow hrow hB hL HIN x0 x1 x2 x3 hxx
  go_wp2_with fail
  go_loopw [4] (fun i wr => ∃ k : Nat, k ≤ bufs.length ∧ i = .int .i64 k ∧ (∀ j, (hj : j < bufs.length) → j < k → bufOk V (bufs.take j) bufs[j] = true) ∧ wr.heap[L]? = some (.cells (rowOf bufs.length (mF bufs k)) 4 (0, 0)) ∧ RgIn w wr w.heap.size V (.slice ba bufs.length bc) (.slice sa steps.length sc) (.slice oa outs.length oc)) (fun i _ => bufs.length - (intOf i).toNat)
  case atStart => exact ⟨0, Nat.zero_le _, rfl, fun j _ h => absurd h (Nat.not_lt_zero j), Hr.out, HIN2.out⟩
  case round =>
    clear Hr HIN2
    obtain ⟨k, hk, rfl, hall, hrow, hin⟩ := hrel
    have HALL := Lib.hid hall; have HR := Lib.hid hrow; have HIN := Lib.hid hin
    clear hall hrow
    obtain ⟨hbW, x0, x1, x2, x3, hxx⟩ := hin
    have hz0 : (0 : Int) ≤ (k : Int) := by omega
    by_cases hlt : k < bufs.length
    · have hz1 : (k : Int) < (bufs.length : Int) := by omega
      obtain ⟨b, off, cs, rfl, ⟨v, rfl, hs, -⟩, hc⟩ := (HBE.out.below bufRep hbW (Nat.le_refl _)) k hlt
      have e0 := hc 0 _ rfl; have e1 := hc 1 _ rfl
      simp only [show bufRep.n = 2 from rfl, Nat.add_zero] at e0 e1
      obtain ⟨sa', sc', rfl, hsl', hse'⟩ := Rep.Sl.form hs
      have hbk : ∀ c, bufOk V (bufs.take k) bufs[k] = c → bufOk V (bufs.take k) bufs[k] = c := fun c h => h
      obtain ⟨o, ho⟩ : ∃ o, bufs[k] = o := ⟨_, rfl⟩
      have HO := Lib.hid ho
      rw [ho] at e0 e1 hsl' hse'
      have hnw := bufIn_new wr (.slice sa' o.sides.length sc') o.input
      obtain ⟨sides, inp⟩ := o
      dsimp only at e0 e1 hsl' hse' hnw
      have HNW := Lib.hid hnw; have HSE' := Lib.hid hse'
      clear hs hc hbk ho hnw hse' hbW
      go_upto_region 8 with fail
      refine gen_worldA (fun W3 => BufIn wr W3 wr.heap.size (.slice sa' sides.length sc') inp) HNW.out ?_
      clear HNW
      intro W3 hb3
      have HB3 := Lib.hid hb3
      have hin3 := HIN.out.next hb3.below
      have hgq := rgrow_any W3 sa' sc' sides V hV (HSE'.out.below polyRep hb3.below (Nat.le_refl _)) hsl'
      have hrow3 := keepBlock HR.out hb3.below
      clear x0 x1 x2 x3 hxx e0 e1 HIN HR
      obtain ⟨hbW, x0, x1, x2, x3, hxx⟩ := hin3
      obtain ⟨-, d0, d1, hzz⟩ := hb3
      have HBW := Lib.hid hbW; have HR := Lib.hid hrow3
      clear hbW hrow3
      have HBO : Hid (∀ c, (growB V sides && decide (-1 ≤ inp) && decide (inp < 64) && !(decide (0 ≤ inp) && (bufs.take k).any fun x => x.input == inp)) = c → bufOk V (bufs.take k) bufs[k] = c) := Lib.hid fun c h => by rw [HO.out]; exact h
      have HBADB : Hid (bufOk V (bufs.take k) bufs[k] = false → rightB ⟨V, bufs, steps, outs⟩ = false) := Lib.hid fun h => HS.out false (by rw [bufsOk_bad hlt h]; rfl)
      cases hg : growB V sides with
      | false =>
        rw [hg] at hgq
        have HGQ := Lib.hid hgq
        have HG := Lib.hid (HBADB.out (HBO.out false (by rw [hg]; rfl)))
        clear hgq hg
        go_wp2_with (go_at_call 26; refine HGQ.out.mono ?_; rintro e w4 ⟨rfl, hb4⟩)
        go_ret
        exact ⟨ret_bool HG.out.symm, bNext hb4 HBW.out⟩
      | true =>
      rw [hg] at hgq
      have HGQ := Lib.hid hgq
      have HBO2 : Hid (∀ c, (decide (-1 ≤ inp) && decide (inp < 64) && !(decide (0 ≤ inp) && (bufs.take k).any fun x => x.input == inp)) = c → bufOk V (bufs.take k) bufs[k] = c) := Lib.hid fun c h => HBO.out c (by rw [hg, Bool.true_and]; exact h)
      clear hgq hg HBO
      have HIN4 := Lib.hid (RgIn.mk HBW.out x0 x1 x2 x3 hxx)
      go_wp2_with fail
      refine HGQ.out.mono ?_
      rintro e w4 ⟨rfl, hb4⟩
      have hin4 := HIN4.out.next hb4
      have k0 := keepCell hb4 d0; have k1 := keepCell hb4 d1
      have HR4 := Lib.hid (keepBlock HR.out hb4)
      clear x0 x1 x2 x3 hxx d0 d1 HBW HR HIN4 HGQ
      obtain ⟨hbW, x0, x1, x2, x3, hxx⟩ := hin4
      have HBW := Lib.hid hbW
      have hz4 : wr.heap.size < w4.heap.size := World.block_lt_of_cell? _ _ k0
      clear hbW hb4 hzz
      by_cases c1 : inp < -1
      · have HG := Lib.hid (HBADB.out (HBO2.out false (by simp [show ¬ -1 ≤ inp from by omega])))
        go_wp2_with fail
        go_ret
        exact ⟨ret_bool HG.out.symm, HBW.out⟩
      have c1' : decide (inp < -1) = false := by simpa using c1
      by_cases c2 : 64 ≤ inp
      · have HG := Lib.hid (HBADB.out (HBO2.out false (by simp [show ¬ inp < 64 from by omega])))
        go_wp2_with fail
        go_ret
        exact ⟨ret_bool HG.out.symm, HBW.out⟩
      have c2' : decide (64 ≤ inp) = false := by simpa using c2
      have HBO3 : Hid (∀ c, (!(decide (0 ≤ inp) && (bufs.take k).any fun x => x.input == inp)) = c → bufOk V (bufs.take k) bufs[k] = c) := Lib.hid fun c h => HBO2.out c (by rw [decide_eq_true (show -1 ≤ inp from by omega), decide_eq_true (show inp < 64 from by omega)]; exact h)
      clear HBO2
      go_upto_region 10 with fail
      obtain ⟨z, hz⟩ : ∃ z, wr.heap.size = z := ⟨_, rfl⟩
      rw [hz] at k0 k1 hz4 ⊢
      clear hz
      have HIN4 := Lib.hid (RgIn.mk HBW.out x0 x1 x2 x3 hxx); have K0 := Lib.hid k0; have K1 := Lib.hid k1
      clear x0 x1 x2 x3 hxx k0 k1 HBW
      go_wp2_with fail
      go_loopw [6] (fun t wi => ∃ q : Nat, q ≤ k ∧ t = .int .i64 q ∧ (∀ j, (hj : j < bufs.length) → j < q → ¬ (0 ≤ inp ∧ bufs[j].input = inp)) ∧ Below w4.heap.size w4 wi) (fun t _ => k - (intOf t).toNat)
      case atStart => exact ⟨0, Nat.zero_le _, rfl, fun j _ h => absurd h (Nat.not_lt_zero j), Below.refl _ _⟩
      case round =>
        obtain ⟨q, hqk, rfl, hun, hbi⟩ := hrel
        have HUN := Lib.hid hun
        have hini := HIN4.out.next hbi
        have HINI := Lib.hid hini
        obtain ⟨-, x0, x1, x2, x3, hxx⟩ := hini
        have k0 := keepCell hbi K0.out; have k1 := keepCell hbi K1.out
        have HRI := Lib.hid (keepBlock HR4.out hbi)
        have HBI := Lib.hid hbi
        clear hun hbi
        have hq0 : (0 : Int) ≤ (q : Int) := by omega
        by_cases hq : q < k
        · have hq1 : (q : Int) < (k : Int) := by omega
          have hql : q < bufs.length := by omega
          have hql1 : (q : Int) < (bufs.length : Int) := by omega
          obtain ⟨b', off', cs, eb, ⟨v, rfl, hs', -⟩, hc⟩ := (HBE.out.below bufRep HINI.out.below (Nat.le_refl _)) q hql
          cases eb
          have f1 := hc 1 _ rfl
          simp only [show bufRep.n = 2 from rfl] at f1
          obtain ⟨inq, hinq⟩ : ∃ inq, bufs[q].input = inq := ⟨_, rfl⟩
          rw [hinq] at f1
          have HQ := Lib.hid hinq
          clear hs' hc hinq
          by_cases g0 : 0 ≤ inp
          · by_cases ge : inq = inp
            · subst ge
              have HG := Lib.hid (HBADB.out (HBO3.out false (by
                have : (bufs.take k).any (fun x => x.input == inq) = true := List.any_eq_true.2 ⟨bufs[q], List.mem_take_iff_getElem.2 ⟨q, by omega, rfl⟩, by rw [HQ.out]; simp⟩
                rw [this, decide_eq_true g0]; rfl)))
              go_upto_region 13 with fail
              go_quiet (fail)
              go_wp2_with fail
              go_ret
              exact ⟨ret_bool HG.out.symm, drewBelow HINI.out.below _⟩
            · have ge' : (inq == inp) = false := by simp [ge]
              have HN := Lib.hid ge
              clear ge
              go_upto_region 13 with fail
              go_quiet (fail)
              go_wp2_with fail
              go_roundw
              case rel => exact ⟨q + 1, by omega, by go_num, fun j hj h => by
                by_cases ej : j = q
                · subst ej; rw [HQ.out]; exact fun h => HN.out h.2
                · exact HUN.out j hj (by omega), drewBelow HBI.out _⟩
              case measure => simp [intOf]; omega
          · have g0' : decide (0 ≤ inp) = false := by simpa using g0
            have HN := Lib.hid g0
            clear g0
            go_upto_region 13 with fail
            go_quiet (fail)
            go_wp2_with fail
            go_roundw
            case rel => exact ⟨q + 1, by omega, by go_num, fun j hj h => by
              by_cases ej : j = q
              · exact fun h => HN.out h.1
              · exact HUN.out j hj (by omega), drewBelow HBI.out _⟩
            case measure => simp [intOf]; omega
        · have HOK := Lib.hid (HBO3.out true (by
            have : (decide (0 ≤ inp) && (bufs.take k).any fun x => x.input == inp) = false := by
              by_cases g0 : 0 ≤ inp
              · rw [List.any_eq_false.2 (fun o hm => ?_), Bool.and_false]
                obtain ⟨j, hj, rfl⟩ := List.mem_take_iff_getElem.1 hm
                have := HUN.out j (by omega) (by omega)
                simp only [beq_iff_eq]
                exact fun e => this ⟨g0, e⟩
              · rw [decide_eq_false g0]; rfl
            rw [this]; rfl))
          have tc := rowOf_cell HRI.out hlt
          have tf := frozen_of_row _ L k _ _ HRI.out
          have hql : ¬ ((q : Int) < (k : Int)) := by omega
          have hzL : ¬ L = w.heap.size := by have := HL.out; omega
          have HZ := Lib.hid hzL
          clear hzL
          have HOI := Lib.hid (show bufs[k].input = inp from by rw [HO.out])
          go_wp2_with fail
          go_roundw
          case rel => exact ⟨k + 1, by omega, by go_num, fun j hj h => by
            by_cases ej : j = k
            · subst ej; exact HOK.out
            · exact HALL.out j hj (by omega), rowOf_set HRI.out hlt (by rw [mF_put hlt, if_pos rfl, HOI.out]) (fun j _ hj => by rw [mF_put hlt, if_neg hj]), HINI.out.set (by show w.heap.size ≤ L; have := HL.out; omega) HZ.out _⟩
          case measure => simp [intOf]; omega
    · have ek : k = bufs.length := by omega
      subst ek
      have HS2 : Hid (∀ b, (stepsK V bufs steps (madeOf bufs) && outs.all (outB bufs.length)) = b → rightB ⟨V, bufs, steps, outs⟩ = b) := Lib.hid fun b h => HS.out b (by rw [bufsOk_good (fun i hi => HALL.out i hi hi), Bool.true_and]; exact h)
      have HR2 := Lib.hid (HR.out.trans (by rw [mF_all]))
      clear HS HALL HR
      have HB0 := Lib.hid hbW
      clear hbW
      go_wp2_with fail
      go_loopw [7] (fun i wi => ∃ (t : Nat) (made : List Bool), t ≤ steps.length ∧ i = .int .i64 t ∧ made.length = bufs.length ∧ stepsK V bufs steps (madeOf bufs) = stepsK V bufs (steps.drop t) made ∧ wi.heap[L]? = some (.cells (rowOf bufs.length fun j => .bool (made.getD j false)) 4 (0, 0)) ∧ RgIn w wi w.heap.size V (.slice ba bufs.length bc) (.slice sa steps.length sc) (.slice oa outs.length oc)) (fun i _ => steps.length - (intOf i).toNat)
      case atStart => exact ⟨0, madeOf bufs, Nat.zero_le _, rfl, by unfold madeOf; simp, rfl, HR2.out, HIN.out⟩
      case round =>
        obtain ⟨t, made, ht, rfl, hml, hK, hrow, hin⟩ := hrel
        have HK := Lib.hid hK; have HR3 := Lib.hid hrow; have HIN3 := Lib.hid hin; have HML := Lib.hid hml
        clear hK hrow hml
        clear x0 x1 x2 x3 hxx HB0 HR2 HIN
        obtain ⟨hbW, x0, x1, x2, x3, hxx⟩ := hin
        have ht0 : (0 : Int) ≤ (t : Int) := by omega
        by_cases hlt2 : t < steps.length
        · have ht1 : (t : Int) < (steps.length : Int) := by omega
          obtain ⟨b, off, cs, rfl, ⟨v0, v1, v2, rfl, h0, h1, h2, -⟩, hc⟩ := (HSE.out.below stpRep hbW (Nat.le_refl _)) t hlt2
          have y0 := hc 0 _ rfl; have y1 := hc 1 _ rfl; have y2 := hc 2 _ rfl; have y3 := hc 3 _ rfl; have y4 := hc 4 _ rfl; have y5 := hc 5 _ rfl
          simp only [show stpRep.n = 6 from rfl, Nat.add_zero] at y0 y1 y2 y3 y4 y5
          have H0 := Lib.hid h0
          obtain ⟨p0, c0, rfl, -, -⟩ := Rep.Sl.form h0
          obtain ⟨p1, c1, rfl, hll, hle⟩ := Rep.Sl.form h1
          obtain ⟨p2, c2, rfl, hol2, hoe⟩ := Rep.Sl.form h2
          obtain ⟨s, hs⟩ : ∃ s, steps[t] = s := ⟨_, rfl⟩
          have hstep : stepsK V bufs (steps.drop t) made = (stepS V bufs made s && stepsK V bufs (steps.drop (t + 1)) (made.set s.buf.toNat true)) := by rw [stepsK_step hlt2, hs]
          rw [hs] at H0 hle hoe hll hol2 y0 y1 y2 y3 y4 y5
          clear h0 h1 h2 hc hs
          obtain ⟨how, buf, pos, loops, fn, ops⟩ := s
          dsimp only at H0 hle hoe hll hol2 y0 y1 y2 y3 y4 y5 hstep
          have hmd := made_at HML.out HR3.out
          have hq := fun p' : BelowW wr => rstep_any p'.world V hV ba bc bufs (HBE.out.below bufRep (bNext p'.below hbW) (Nat.le_refl _)) hbl (some ⟨b, off, none⟩) steps.length sc oa outs.length oc how buf fn pos p0 c0 (H0.out.below monoRep p'.below (Nat.le_refl _)) loops p1 c1 (hle.below polyRep p'.below (Nat.le_refl _)) hll ops p2 c2 (hoe.below copRep p'.below (Nat.le_refl _)) hol2 (some ⟨L, 0, none⟩) bufs.length made (hmd.below p'.below (Nat.le_refl _))
          rw [HML.out] at hq
          have HST := Lib.hid hstep
          have g0 := cellBW x0; have g1 := cellBW x1; have g2 := cellBW x2; have g3 := cellBW x3
          have f0 := cellBW y0; have f1 := cellBW y1; have f2 := cellBW y2; have f3 := cellBW y3; have f4 := cellBW y4; have f5 := cellBW y5
          clear hmd hle hoe hstep H0
          cases hst : stepS V bufs made ⟨how, buf, pos, loops, fn, ops⟩ with
          | false =>
            rw [hst] at hq
            have HQ := Lib.hid hq
            have HG := Lib.hid (HS2.out false (by rw [HK.out, HST.out, hst]; rfl))
            clear hq hst
            go_upto_region 19 with fail
            refine wp_region_below (by kernel_rfl) (by kernel_rfl) ?_
            repeat (go_big_quiet_step (refine callsBW (HQ.out _)))
            refine wpQuiet_nil ?_
            rintro _ ⟨⟨wq, hwq⟩, rfl⟩
            clear g0 g1 g2 g3 f0 f1 f2 f3 f4 f5
            go_wp2_with fail
            go_ret
            exact ⟨ret_bool HG.out.symm, bNext hwq HIN3.out.below⟩
          | true =>
            rw [hst] at hq
            obtain ⟨kb, hkb, hkl⟩ := stepS_buf hst
            have hrest : stepsK V bufs (steps.drop t) made = stepsK V bufs (steps.drop (t + 1)) (made.set buf.toNat true) := by rw [HST.out, hst, Bool.true_and]
            dsimp only at hkb
            have HQ := Lib.hid hq
            have HREST := Lib.hid hrest
            clear hq hst hrest HST
            subst hkb
            go_upto_region 19 with fail
            refine wp_region_below (by kernel_rfl) (by kernel_rfl) ?_
            repeat (go_big_quiet_step (refine callsBW (HQ.out _)))
            refine wpQuiet_nil ?_
            rintro _ ⟨⟨wq, hwq⟩, rfl⟩
            have HIN5 := Lib.hid (HIN3.out.next hwq)
            have HR5 := Lib.hid (keepBlock HR3.out hwq)
            have z1 := keepCell hwq y1
            clear g0 g1 g2 g3 f0 f1 f2 f3 f4 f5 x0 x1 x2 x3 hxx y0 y1 y2 y3 y4 y5 HQ hwq
            obtain ⟨-, x0, x1, x2, x3, hxx⟩ := HIN5.out
            have hkm : kb < made.length := by rw [HML.out]; exact hkl
            have HKM := Lib.hid hkm
            have tc := rowOf_cell HR5.out hkl
            have tf := frozen_of_row _ L kb _ _ HR5.out
            have i0 : (0 : Int) ≤ (kb : Int) := by omega
            have i1 : (kb : Int) < (bufs.length : Int) := by omega
            have hzL : ¬ L = w.heap.size := by have := HL.out; omega
            have HZ := Lib.hid hzL
            clear hzL hkm
            go_wp2_with fail
            go_roundw
            case rel => exact ⟨t + 1, made.set kb true, by omega, by go_num, by rw [List.length_set, HML.out], HK.out.trans (HREST.out.trans (by rw [Int.toNat_natCast])), rowOf_set HR5.out hkl (by rw [made_set HKM.out, if_pos rfl]) (fun j _ hj => by rw [made_set HKM.out, if_neg hj]), HIN5.out.set (by show w.heap.size ≤ L; have := HL.out; omega) HZ.out _⟩
            case measure => simp [intOf]; omega
        · have et : t = steps.length := by omega
          subst et
          have HS3 : Hid (∀ b, outs.all (outB bufs.length) = b → rightB ⟨V, bufs, steps, outs⟩ = b) := Lib.hid fun b h => HS2.out b (by rw [HK.out, List.drop_length, stepsK, Bool.true_and]; exact h)
          clear HS2 HK HR3 HML
          go_wp2_with fail
          go_loopw [8] (fun i wi => ∃ q : Nat, q ≤ outs.length ∧ i = .int .i64 q ∧ (∀ j, (hj : j < outs.length) → j < q → outB bufs.length outs[j] = true) ∧ RgIn w wi w.heap.size V (.slice ba bufs.length bc) (.slice sa steps.length sc) (.slice oa outs.length oc)) (fun i _ => outs.length - (intOf i).toNat)
          case atStart => exact ⟨0, Nat.zero_le _, rfl, fun j _ h => absurd h (Nat.not_lt_zero j), HIN3.out⟩
          case round =>
            obtain ⟨q, hq, rfl, hall, hin⟩ := hrel
            clear HIN3 hbW x0 x1 x2 x3 hxx
            have HALL := Lib.hid hall; have HIN4 := Lib.hid hin
            clear hall
            obtain ⟨hbW, x0, x1, x2, x3, hxx⟩ := hin
            have HBW := Lib.hid hbW
            have hq0 : (0 : Int) ≤ (q : Int) := by omega
            by_cases hlt3 : q < outs.length
            · have hq1 : (q : Int) < (outs.length : Int) := by omega
              obtain ⟨b, off, rfl, z0⟩ := els_z (HOE.out.below _ hbW (Nat.le_refl _)) hlt3
              obtain ⟨v, hv⟩ : ∃ v, outs[q] = v := ⟨_, rfl⟩
              rw [hv] at z0
              have HV := Lib.hid hv
              have HBADO : Hid (outB bufs.length v = false → rightB ⟨V, bufs, steps, outs⟩ = false) := Lib.hid fun h => HS3.out false (List.all_eq_false.2 ⟨_, List.getElem_mem hlt3, by rw [hv, h]; simp⟩)
              clear hv hbW
              by_cases v0 : v < 0
              · have HG := Lib.hid (HBADO.out (by unfold outB; rw [decide_eq_false (by omega)]; rfl))
                go_upto_region 25 with fail
                go_quiet (fail)
                go_wp2_with fail
                go_ret
                exact ⟨ret_bool HG.out.symm, drewBelow HBW.out _⟩
              have v0' : decide (v < 0) = false := by simpa using v0
              by_cases v1 : v < (bufs.length : Int)
              · have v1' : decide ((bufs.length : Int) ≤ v) = false := by simp; omega
                have HOK := Lib.hid (show outB bufs.length v = true from by unfold outB; rw [decide_eq_true (by omega), decide_eq_true v1]; rfl)
                go_upto_region 25 with fail
                go_quiet (fail)
                go_wp2_with fail
                go_roundw
                case rel => exact ⟨q + 1, by omega, by go_num, fun j hj h => by
                  by_cases ej : j = q
                  · subst ej; rw [HV.out]; exact HOK.out
                  · exact HALL.out j hj (by omega), HIN4.out.next (drewBelow (Below.refl _ _) _)⟩
                case measure => simp [intOf]; omega
              · have v1' : decide ((bufs.length : Int) ≤ v) = true := by simp; omega
                have v1i : (bufs.length : Int) ≤ v := by omega
                have HG := Lib.hid (HBADO.out (by unfold outB; rw [decide_eq_false v1, Bool.and_false]))
                clear v1
                go_upto_region 25 with fail
                go_quiet (fail)
                go_wp2_with fail
                go_ret
                exact ⟨ret_bool HG.out.symm, drewBelow HBW.out _⟩
            · have HG := Lib.hid (HS3.out true (List.all_eq_true.2 fun o hm => by
                obtain ⟨j, hj, rfl⟩ := List.getElem_of_mem hm
                exact HALL.out j hj (by omega)))
              go_wp2_with fail
              go_ret
              exact ⟨ret_bool HG.out.symm, HBW.out⟩
end Go.Proofs.Ytabodlhlanolcaa
