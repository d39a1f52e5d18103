import Derived.Test.YtabodlhlanolcaaPB12
import Derived.Test.YtabodlhlanolcaaPB10
namespace Go.Proofs.Ytabodlhlanolcaa
set_option maxRecDepth 100000
open Go.RowKit
set_option linter.unusedVariables false
set_option linter.unusedSimpArgs false
attribute [local go_sem ↓] Go.wp_at_zero Go.wp_at_succ

/-- which inputs k buffers have taken -/
def inF (bufs : List Buf) (k j : Nat) : Value := .bool ((bufs.take k).any fun b => b.input == (j : Int))
theorem take_any {bufs : List Buf} {k : Nat} (h : k < bufs.length) (p : Buf → Bool) : (bufs.take (k + 1)).any p = ((bufs.take k).any p || p bufs[k]) := by
  rw [List.take_add_one, List.getElem?_eq_getElem h, List.any_append]; simp only [Option.toList, List.any_cons, List.any_nil, Bool.or_false]
theorem inF_neg {bufs : List Buf} {k : Nat} (h : k < bufs.length) (hn : bufs[k].input < 0) (j : Nat) : inF bufs (k + 1) j = inF bufs k j := by
  unfold inF
  rw [take_any h, show (bufs[k].input == (j : Int)) = false from by rw [beq_eq_false_iff_ne]; omega, Bool.or_false]
theorem inF_put {bufs : List Buf} {k : Nat} (h : k < bufs.length) {z : Nat} (hz : bufs[k].input = z) (j : Nat) : inF bufs (k + 1) j = if j = z then .bool true else inF bufs k j := by
  unfold inF
  rw [take_any h, hz]
  by_cases e : j = z
  · subst e; simp
  · rw [if_neg e, show ((z : Int) == (j : Int)) = false from by rw [beq_eq_false_iff_ne]; omega, Bool.or_false]
theorem ScB.set3 {w : World} {sb V : Nat} {L buf : Int} {v : Value} (h : ScB w sb V L buf v) (u : Value) : ScB (w.setCell ⟨sb, 3, none⟩ u) sb V L buf u := by
  unfold ScB
  rw [heap_setCell_same w sb 3 _ _ _ h]
  rfl
theorem ScB.other {w : World} {sb V : Nat} {L buf : Int} {v : Value} (h : ScB w sb V L buf v) {p : Addr} (hp : p.block ≠ sb) (u : Value) : ScB (w.setCell p u) sb V L buf v := block_other h hp u
/-- what is made of k buffers, as cells -/
def mdL (bufs : List Buf) (k : Nat) : List Value := (bufs.take k).map fun b => .bool (decide (0 ≤ b.input))
theorem mdL_put {bufs : List Buf} {k : Nat} (h : k < bufs.length) : mdL bufs (k + 1) = mdL bufs k ++ [.bool (decide (0 ≤ bufs[k].input))] := by
  unfold mdL
  rw [List.take_add_one, List.getElem?_eq_getElem h, List.map_append]; rfl
/-- a list of flags that the call itself has laid -/
def MdIn (W : World) (sb : Nat) (ma : Option Addr) (made : List Bool) : Prop := ∀ k, (hk : k < made.length) → ∃ g, ma = some ⟨g, 0, none⟩ ∧ sb < g ∧ W.cell? ⟨g, k, none⟩ = some (.bool made[k]) ∧ W.frozen? ⟨g, k, none⟩ = false
theorem MdIn.at {W : World} {sb : Nat} {ma : Option Addr} {made : List Bool} (h : MdIn W sb ma made) : MadeAt W ma made := fun k hk => by
  obtain ⟨g, e, _, hc, _⟩ := h k hk
  exact ⟨g, 0, e, by rw [Nat.zero_add]; exact hc⟩
theorem MdIn.kb {W W' : World} {sb : Nat} {ma : Option Addr} {made : List Bool} (h : MdIn W sb ma made) (hk : KB (fun b => b = sb) W W') : MdIn W' sb ma made := fun k hk' => by
  obtain ⟨g, e, hg, hc, hf⟩ := h k hk'
  have hl := World.block_lt_of_cell? _ _ hc
  exact ⟨g, e, hg, (hk.cell (p := ⟨g, k, none⟩) hl (by show ¬ g = sb; omega)).trans hc, (hk.frozen (p := ⟨g, k, none⟩) hl (by show ¬ g = sb; omega)).trans hf⟩
theorem MdIn.below {W W' : World} {sb : Nat} {ma : Option Addr} {made : List Bool} (h : MdIn W sb ma made) (hb : Below W.heap.size W W') : MdIn W' sb ma made := h.kb (KB.of_below hb (fun g h1 h2 => by omega))
structure CrIn (w W : World) (x I sb V : Nat) (vb vs vo mv : Value) (bufs : List Buf) (k : Nat) : Prop where
  rg : RgIn w W x V vb vs vo
  ib : W.heap[I]? = some (.cells (rowOf 64 (inF bufs k)) 53 (0, 0))
  sc : ScB W sb V 0 0 mv
  mo : W.ownsRow w.heap.size 4 1 mv k (mdL bufs k)
  ma : ∀ g, mv.ownBlock = some g → sb < g
theorem CrIn.next {w W W' : World} {x I sb V : Nat} {vb vs vo mv : Value} {bufs : List Buf} {k : Nat} (h : CrIn w W x I sb V vb vs vo mv bufs k) (hb : Below W.heap.size W W') : CrIn w W' x I sb V vb vs vo mv bufs k :=
  ⟨h.rg.next hb, keepBlock h.ib hb, h.sc.below hb, own_below h.mo hb, h.ma⟩
theorem crIn_new {w W : World} {V : Nat} {vb vs vo : Value} (bufs : List Buf) (hin : RgIn w W w.heap.size V vb vs vo) (cs : Array Value) (hcs : cs = rowOf 64 (inF bufs 0)) :
    CrIn w ((W.alloc (.cells cs 53)).alloc (.cells #[.int .i64 V, .int .i64 0, .int .i64 0, .slice none 0 0] 57)) w.heap.size W.heap.size (W.heap.size + 1) V vb vs vo (.slice none 0 0) bufs 0 := by
  have n1 := World.alloc_heap_new (W.alloc (.cells cs 53)) (.cells #[.int .i64 V, .int .i64 0, .int .i64 0, .slice none 0 0] 57)
  rw [show (W.alloc (.cells cs 53)).heap.size = W.heap.size + 1 from by simp] at n1
  subst hcs
  exact ⟨hin.next (((Below.refl _ _).alloc (Nat.le_refl _) _).alloc (by simp) _), oldBlock (World.alloc_heap_new W _) _, n1, World.ownsRow_nil _ _ _ _, fun g e => by cases e⟩
theorem own_lt {W : World} {B n size : Nat} {t : TypeId} {v : Value} {xs : List Value} (h : W.ownsRow B t size v n xs) (g : Nat) (e : v.ownBlock = some g) : g < W.heap.size := by
  obtain ⟨_, ⟨rfl, _⟩ | ⟨g', cap, cur, rfl, _, hg, _⟩⟩ := h
  · cases e
  · cases e; exact (Array.getElem?_eq_some_iff.1 hg).1
theorem own_form {W : World} {B n size : Nat} {t : TypeId} {v : Value} {xs : List Value} (h : W.ownsRow B t size v n xs) (hn : 0 < n) : ∃ g cap, v = .slice (some ⟨g, 0, none⟩) n cap := by
  obtain ⟨_, ⟨rfl, rfl⟩ | ⟨g', cap, cur, rfl, _⟩⟩ := h
  · cases hn
  · exact ⟨g', cap, rfl⟩
theorem MdIn.set {W : World} {sb g kb : Nat} {made : List Bool} (h : MdIn W sb (some ⟨g, 0, none⟩) made) (hkb : kb < made.length) : MdIn (W.setCell ⟨g, kb, none⟩ (.bool true)) sb (some ⟨g, 0, none⟩) (made.set kb true) := fun k hk => by
  rw [List.length_set] at hk
  obtain ⟨g', e, hg, hc, hf⟩ := h k hk
  cases e
  refine ⟨g, rfl, hg, ?_, by rw [World.frozen?_setCell]; exact hf⟩
  by_cases ek : k = kb
  · subst ek
    rw [World.cell?_setCell_same _ _ _ hc]; simp
  · rw [World.cell?_setCell_other _ _ _ _ (by intro e; cases e; exact ek rfl), hc]
    simp [List.getElem_set, show ¬ kb = k from fun e => ek e.symm]
theorem mdIn_of {W : World} {B sb n : Nat} {mv : Value} {bufs : List Buf} (hn : n = bufs.length) (h : W.ownsRow B 4 1 mv n (mdL bufs n)) (hma : ∀ g, mv.ownBlock = some g → sb < g) : ∃ ma mc, mv = .slice ma (madeOf bufs).length mc ∧ MdIn W sb ma (madeOf bufs) := by
  subst hn
  have hl : (madeOf bufs).length = bufs.length := by unfold madeOf; simp
  obtain ⟨h1, ⟨rfl, h0⟩ | ⟨g, cap, cur, rfl, hB, hg, h3⟩⟩ := h
  · exact ⟨none, 0, by rw [hl, h0], fun k hk => by omega⟩
  · refine ⟨some ⟨g, 0, none⟩, cap, by rw [hl], fun k hk => ⟨g, rfl, hma g rfl, ?_, frozen_of_row _ g k _ _ hg⟩⟩
    have hc := World.ownsRow.cells (g := g) (w := W) (⟨h1, .inr ⟨g, cap, cur, rfl, hB, hg, h3⟩⟩ : W.ownsRow B 4 1 (.slice (some ⟨g, 0, none⟩) bufs.length cap) bufs.length (mdL bufs bufs.length)) rfl
    have hkb : k < bufs.length := by omega
    have ee : (madeOf bufs)[k]? = (bufs[k]?).map (fun b => decide (0 ≤ b.input)) := by unfold madeOf; rw [List.getElem?_map]
    rw [List.getElem?_eq_getElem hk, List.getElem?_eq_getElem hkb, Option.map_some] at ee
    have ee' := Option.some.inj ee
    have := hc k (.bool (madeOf bufs)[k]) (by
      rw [ee']
      unfold mdL
      rw [List.take_length, List.getElem?_map, List.getElem?_eq_getElem hkb]
      rfl)
    have e : (⟨g, 0, none⟩ : Addr).add k = ⟨g, k, none⟩ := by unfold Addr.add; split <;> simp_all
    rwa [e] at this
theorem RgIn.kb {w W W' : World} {x sb : Nat} {vars : Int} {vb vs vo : Value} (h : RgIn w W x vars vb vs vo) (hk : KB (fun b => b = sb) W W') (hx : x < sb) (hs : w.heap.size ≤ sb) : RgIn w W' x vars vb vs vo :=
  ⟨h.below.trans (hk.below h.below.size (fun g e => by omega)), (hk.cell (p := ⟨x, 0, none⟩) h.hx (by show ¬ x = sb; omega)).trans h.c0, (hk.cell (p := ⟨x, 1, none⟩) h.hx (by show ¬ x = sb; omega)).trans h.c1,
    (hk.cell (p := ⟨x, 2, none⟩) h.hx (by show ¬ x = sb; omega)).trans h.c2, (hk.cell (p := ⟨x, 3, none⟩) h.hx (by show ¬ x = sb; omega)).trans h.c3, Nat.lt_of_lt_of_le h.hx hk.size⟩
/-- a step in a box of its own -/
structure SbIn (w W : World) (z : Nat) (how buf : Int) (v0 v1 : Value) (fn : Int) (v2 : Value) : Prop where
  below : Below w.heap.size w W
  y0 : W.cell? ⟨z, 0, none⟩ = some (.int .i64 how)
  y1 : W.cell? ⟨z, 1, none⟩ = some (.int .i64 buf)
  y2 : W.cell? ⟨z, 2, none⟩ = some v0
  y3 : W.cell? ⟨z, 3, none⟩ = some v1
  y4 : W.cell? ⟨z, 4, none⟩ = some (.int .u8 fn)
  y5 : W.cell? ⟨z, 5, none⟩ = some v2
theorem sbIn_new (w : World) (how buf : Int) (v0 v1 : Value) (fn : Int) (v2 : Value) : SbIn w (w.alloc (.cells #[.int .i64 how, .int .i64 buf, v0, v1, .int .u8 fn, v2] 60)) w.heap.size how buf v0 v1 fn v2 := by
  have g0 := blockCells (cs := [.int .i64 how, .int .i64 buf, v0, v1, .int .u8 fn, v2]) (World.alloc_heap_new w (.cells #[.int .i64 how, .int .i64 buf, v0, v1, .int .u8 fn, v2] 60))
  exact ⟨(Below.refl _ _).alloc (Nat.le_refl _) _, g0 0, g0 1, g0 2, g0 3, g0 4, g0 5⟩
theorem stepS_at {V : Nat} {bufs : List Buf} {made : List Bool} {how fn : Int} {kb : Nat} {pos : List Mono} {loops : List (List Mono)} {ops : List Cop} (h : kb < bufs.length) :
    stepS V bufs made ⟨how, kb, pos, loops, fn, ops⟩ = (decide (bufs[kb].input < 0) && stepQ V made ⟨how, kb, pos, loops, fn, ops⟩) := by
  unfold stepS; rw [bufQ_at h]
structure CrMid (w W : World) (x I sb V zb : Nat) (vb vs vo mv : Value) (bufs : List Buf) (k : Nat) (inp : Int) : Prop where
  rg : RgIn w W x V vb vs vo
  ib : W.heap[I]? = some (.cells (rowOf 64 (inF bufs (k + 1))) 53 (0, 0))
  sc : ScB W sb V 0 0 mv
  mo : W.ownsRow w.heap.size 4 1 mv k (mdL bufs k)
  ma : ∀ g, mv.ownBlock = some g → sb < g
  d1 : W.cell? ⟨zb, 1, none⟩ = some (.int .i64 inp)
theorem CrIn.skip {w W : World} {x I sb V zb : Nat} {vb vs vo mv : Value} {bufs : List Buf} {k : Nat} {inp : Int} (h : CrIn w W x I sb V vb vs vo mv bufs k) (hk : k < bufs.length) (hn : bufs[k].input = inp) (h0 : ¬ 0 ≤ inp) (d1 : W.cell? ⟨zb, 1, none⟩ = some (.int .i64 inp)) :
    CrMid w W x I sb V zb vb vs vo mv bufs k inp :=
  ⟨h.rg, h.ib.trans (by rw [rowOf_congr fun j _ => inF_neg hk (by omega) j]), h.sc, h.mo, h.ma, d1⟩
theorem CrIn.take {w W : World} {x I sb V zb : Nat} {vb vs vo mv : Value} {bufs : List Buf} {k : Nat} {z : Nat} (h : CrIn w W x I sb V vb vs vo mv bufs k) (hk : k < bufs.length) (hn : bufs[k].input = z) (hz : z < 64) (d1 : W.cell? ⟨zb, 1, none⟩ = some (.int .i64 z))
    (hx : x < I) (hI : w.heap.size ≤ I) (hs : I < sb) (hzb : sb < zb) : CrMid w (W.setCell ⟨I, z, none⟩ (.bool true)) x I sb V zb vb vs vo mv bufs k z :=
  ⟨h.rg.set (p := ⟨I, z, none⟩) hI (by show ¬ I = x; omega) _, rowOf_set h.ib hz (by rw [inF_put hk hn, if_pos rfl]) (fun j _ hj => by rw [inF_put hk hn, if_neg hj]), h.sc.other (by show I ≠ sb; omega) _,
    own_other h.mo (fun g hg => by have := h.ma g hg; show g ≠ I; omega) _, h.ma, (((KB.refl (fun b => b = I) W).setCell (p := ⟨I, z, none⟩) (fun _ => rfl) (.bool true)).cell (p := ⟨zb, 1, none⟩) (World.block_lt_of_cell? _ _ d1) (by show ¬ zb = I; omega)).trans d1⟩
theorem CrMid.put {w W W0 W' : World} {x I sb V zb : Nat} {vb vs vo mv v' : Value} {bufs : List Buf} {k : Nat} {inp : Int} {bv : Bool} (h : CrMid w W x I sb V zb vb vs vo mv bufs k inp) (hk : k < bufs.length) (hn : bufs[k].input = inp) (hbv : decide (0 ≤ inp) = bv) (h0 : Below W.heap.size W W0)
    (hx : x < I) (hxw : w.heap.size ≤ I) (hs : I < sb) (hown : W'.ownsRow w.heap.size 4 1 v' (k + 1) (mdL bufs k ++ [.bool bv])) (hg : W0.grownBy W' mv.ownBlock) (hnew : Newer W0 mv v') :
    CrIn w (W'.setCell ⟨sb, 3, none⟩ v') x I sb V vb vs vo v' bufs (k + 1) := by
  have hsb := h.sc.lt
  have hv : ∀ g, v'.ownBlock = some g → sb < g := fun g hg' => by
    rcases hnew with e | ⟨q, e, hq⟩
    · exact h.ma g (e ▸ hg')
    · rw [hg'] at e; cases e; have := h0.size; omega
  have hkb : KB (fun b => sb < b) W W' := (KB.of_below h0 (fun g h1 h2 => by omega)).grown hg (fun q e _ => h.ma q e)
  have hk2 : KB (fun b => sb ≤ b) W (W'.setCell ⟨sb, 3, none⟩ v') := (hkb.mono (fun g _ h => Nat.le_of_lt h)).setCell (fun _ => Nat.le_refl _) _
  have hx2 : x < sb := by omega
  refine ⟨⟨h.rg.below.trans (hk2.below h.rg.below.size (fun g hg => by omega)), ?_, ?_, ?_, ?_, Nat.lt_of_lt_of_le h.rg.hx hk2.size⟩, ?_, ?_, ?_, hv⟩
  · exact (hk2.cell (p := ⟨x, 0, none⟩) h.rg.hx (by show ¬ sb ≤ x; omega)).trans h.rg.c0
  · exact (hk2.cell (p := ⟨x, 1, none⟩) h.rg.hx (by show ¬ sb ≤ x; omega)).trans h.rg.c1
  · exact (hk2.cell (p := ⟨x, 2, none⟩) h.rg.hx (by show ¬ sb ≤ x; omega)).trans h.rg.c2
  · exact (hk2.cell (p := ⟨x, 3, none⟩) h.rg.hx (by show ¬ sb ≤ x; omega)).trans h.rg.c3
  · exact (hk2.block I (block_lt h.ib) (by omega)).trans h.ib
  · exact ScB.set3 ((hkb.block sb hsb (by omega)).trans h.sc) v'
  · rw [mdL_put hk, hn, hbv]
    exact own_other hown (fun g hg => by have := hv g hg; show g ≠ sb; omega) _
set_option maxHeartbeats 16000000 in
theorem cright_any (w : World) (vars : Int) (bufs : List Buf) (ba : Option Addr) (bc : Nat) (hbe : bufRep.Els w ba bufs) (hbl : bufs.length ≤ 9223372036854775807) (steps : List Stp) (sa : Option Addr) (sc : Nat) (hse : stpRep.Els w sa steps) (hsl : steps.length ≤ 9223372036854775807)
    (outs : List Int) (oa : Option Addr) (oc : Nat) (hoe : (Rep.int .i64).Els w oa outs) (hol : outs.length ≤ 9223372036854775807) :
    Calls Try.prog 10 #[.agg #[.int .i64 vars, .slice ba bufs.length bc, .slice sa steps.length sc, .slice oa outs.length oc]] w fun e w' => e = .returned (.bool (rightB ⟨vars, bufs, steps, outs⟩)) ∧ Below w.heap.size w w' := by
  have HBE := Lib.hid hbe; have HSE := Lib.hid hse; have HOE := Lib.hid hoe; have HN := Lib.hid (rgIn_new w vars (.slice ba bufs.length bc) (.slice sa steps.length sc) (.slice oa outs.length oc))
  clear hbe hse hoe
  have hbad : sizesB ⟨vars, bufs, steps, outs⟩ = false → rightB ⟨vars, bufs, steps, outs⟩ = false := fun h => by unfold rightB; rw [h]; rfl
  have HBAD := Lib.hid hbad; clear hbad
  obtain ⟨i0, hi, hz0, hz1, hz2⟩ := info_parts Try.infoBool
  have Hi := Lib.hid hi; have Hz0 := Lib.hid hz0; have Hz1 := Lib.hid hz1; have Hz2 := Lib.hid hz2; clear hi hz0 hz1 hz2
  go_enter Try.func10, Try.ntmps10
  go_upto_region 1 with fail
  refine gen_worldA (fun W => RgIn w W w.heap.size vars (.slice ba bufs.length bc) (.slice sa steps.length sc) (.slice oa outs.length oc) ∧ W.heap.size = w.heap.size + 1) ⟨HN.out, by simp⟩ ?_
  clear HN
  rintro W ⟨hin, hWs⟩
  have HIN := Lib.hid hin; have HWS := Lib.hid hWs
  clear hWs
  obtain ⟨-, x0, x1, x2, x3, hxx⟩ := hin
  by_cases a0 : vars < 0
  · have HG := Lib.hid (HBAD.out (by unfold sizesB; simp [show ¬ 0 ≤ vars from by omega]))
    go_wp2_with fail
    go_ret
    exact ⟨ret_bool HG.out.symm, HIN.out.below⟩
  have a0' : decide (vars < 0) = false := by simpa using a0
  by_cases a1 : 6 < vars
  · have HG := Lib.hid (HBAD.out (by unfold sizesB; simp [show ¬ vars ≤ 6 from by omega]))
    go_wp2_with fail
    go_ret
    exact ⟨ret_bool HG.out.symm, HIN.out.below⟩
  have a1' : decide (6 < vars) = false := by simpa using a1
  by_cases a2 : 1024 < bufs.length
  · have a2a : decide ((1024 : Int) < (bufs.length : Int)) = true := by simp; omega
    have a2b : (1024 : Int) < (bufs.length : Int) := by omega
    have HG := Lib.hid (HBAD.out (by unfold sizesB; simp [show ¬ bufs.length ≤ 1024 from by omega]))
    go_wp2_with fail
    go_ret
    exact ⟨ret_bool HG.out.symm, HIN.out.below⟩
  have a2a : decide ((1024 : Int) < (bufs.length : Int)) = false := by simp; omega
  by_cases a3 : 1024 < steps.length
  · have a3a : decide ((1024 : Int) < (steps.length : Int)) = true := by simp; omega
    have a3b : (1024 : Int) < (steps.length : Int) := by omega
    have HG := Lib.hid (HBAD.out (by unfold sizesB; simp [show ¬ steps.length ≤ 1024 from by omega]))
    go_wp2_with fail
    go_ret
    exact ⟨ret_bool HG.out.symm, HIN.out.below⟩
  have a3a : decide ((1024 : Int) < (steps.length : Int)) = false := by simp; omega
  by_cases a4 : 64 < outs.length
  · have a4a : decide ((64 : Int) < (outs.length : Int)) = true := by simp; omega
    have a4b : (64 : Int) < (outs.length : Int) := by omega
    have HG := Lib.hid (HBAD.out (by unfold sizesB; simp [show ¬ outs.length ≤ 64 from by omega]))
    go_wp2_with fail
    go_ret
    exact ⟨ret_bool HG.out.symm, HIN.out.below⟩
  have a4a : decide ((64 : Int) < (outs.length : Int)) = false := by simp; omega
  obtain ⟨V, rfl⟩ : ∃ V : Nat, vars = V := ⟨vars.toNat, by omega⟩
  have hV : V ≤ 6 := by omega
  have HS : Hid (∀ b, (bufsOk V bufs && (stepsK V bufs steps (madeOf bufs) && outs.all (outB bufs.length))) = b → rightB ⟨V, bufs, steps, outs⟩ = b) := Lib.hid fun b h => by
    unfold rightB sizesB
    dsimp only
    rw [decide_eq_true (show (0 : Int) ≤ V from by omega), decide_eq_true (show (V : Int) ≤ 6 from by omega), decide_eq_true (show bufs.length ≤ 1024 from by omega), decide_eq_true (show steps.length ≤ 1024 from by omega), decide_eq_true (show outs.length ≤ 64 from by omega), Int.toNat_natCast]
    exact h
  clear HBAD
  have b2 : (bufs.length : Int) ≤ 1024 := by omega
  have b3 : (steps.length : Int) ≤ 1024 := by omega
  have b4 : (outs.length : Int) ≤ 64 := by omega
  go_upto_region 5 with fail
  refine gen_worldA (fun W2 => CrIn w W2 w.heap.size W.heap.size (W.heap.size + 1) V (.slice ba bufs.length bc) (.slice sa steps.length sc) (.slice oa outs.length oc) (.slice none 0 0) bufs 0) (crIn_new bufs HIN.out _ (by kernel_rfl)) ?_
  intro W2 hcr
  have hxI : w.heap.size < W.heap.size := HIN.out.hx
  obtain ⟨I, hI⟩ : ∃ I, W.heap.size = I := ⟨_, rfl⟩
  rw [hI] at hxI hcr ⊢
  obtain ⟨sb, hsb⟩ : ∃ sb, I + 1 = sb := ⟨_, rfl⟩
  rw [hsb] at hcr ⊢
  have HX : Hid (w.heap.size < I ∧ I < sb) := Lib.hid ⟨hxI, by omega⟩
  have HC0 := Lib.hid hcr
  obtain ⟨-, x0, x1, x2, x3, hxx⟩ := hcr.rg
  clear HIN HWS x0 x2 x3 hxI hI hsb hcr
  go_wp2_with fail
  go_loopw [42] (fun i wr => ∃ (k : Nat) (mv : Value), k ≤ bufs.length ∧ i = .int .i64 k ∧ (∀ j, (hj : j < bufs.length) → j < k → bufOk V (bufs.take j) bufs[j] = true) ∧ CrIn w wr w.heap.size I sb V (.slice ba bufs.length bc) (.slice sa steps.length sc) (.slice oa outs.length oc) mv bufs k) (fun i _ => bufs.length - (intOf i).toNat)
  case atStart => exact ⟨0, _, Nat.zero_le _, rfl, fun j _ h => absurd h (Nat.not_lt_zero j), HC0.out⟩
  case round =>
    clear HC0
    obtain ⟨k, mv, hk, rfl, hall, hcr⟩ := hrel
    have HALL := Lib.hid hall; have HC := Lib.hid hcr
    have hbW := hcr.rg.below
    have hz0 : (0 : Int) ≤ (k : Int) := by omega
    clear hall x1 hxx
    by_cases hlt : k < bufs.length
    · have hz1 : (k : Int) < (bufs.length : Int) := by omega
      obtain ⟨b, off, cs, rfl, ⟨v, rfl, hs, -⟩, hc⟩ := (HBE.out.below bufRep hbW (Nat.le_refl _)) k hlt
      have e0 := hc 0 _ rfl; have e1 := hc 1 _ rfl
      simp only [show bufRep.n = 2 from rfl, Nat.add_zero] at e0 e1
      obtain ⟨sa', sc', rfl, hsl', hse'⟩ := Rep.Sl.form hs
      obtain ⟨o, ho⟩ : ∃ o, bufs[k] = o := ⟨_, rfl⟩
      have HO := Lib.hid ho
      rw [ho] at e0 e1 hsl' hse'
      have hnw := bufIn_new wr (.slice sa' o.sides.length sc') o.input
      obtain ⟨sides, inp⟩ := o
      dsimp only at e0 e1 hsl' hse' hnw
      have HNW := Lib.hid hnw; have HSE' := Lib.hid hse'
      clear hs hc ho hnw hse' hbW hcr
      go_upto_region 8 with fail
      refine gen_worldA (fun W3 => BufIn wr W3 wr.heap.size (.slice sa' sides.length sc') inp) HNW.out ?_
      clear HNW
      intro W3 hb3
      have hc3 := HC.out.next hb3.below
      have hgq := grow_any W3 sa' sc' sides V hV (HSE'.out.below polyRep hb3.below (Nat.le_refl _)) hsl'
      have HZB : Hid (sb < wr.heap.size) := Lib.hid HC.out.sc.lt
      have HZG : Hid (∀ g, mv.ownBlock = some g → g < wr.heap.size) := Lib.hid (own_lt HC.out.mo)
      obtain ⟨-, d0, d1, hzz⟩ := hb3
      have y0 := hc3.rg.c0
      have HC3 := Lib.hid hc3
      clear e0 e1 HC hc3
      have HBO : Hid (∀ c, (growB V sides && decide (-1 ≤ inp) && decide (inp < 64) && !(decide (0 ≤ inp) && (bufs.take k).any fun x => x.input == inp)) = c → bufOk V (bufs.take k) bufs[k] = c) := Lib.hid fun c h => by rw [HO.out]; exact h
      have HBADB : Hid (bufOk V (bufs.take k) bufs[k] = false → rightB ⟨V, bufs, steps, outs⟩ = false) := Lib.hid fun h => HS.out false (by rw [bufsOk_bad hlt h]; rfl)
      cases hg : growB V sides with
      | false =>
        rw [hg] at hgq
        have HGQ := Lib.hid hgq
        have HG := Lib.hid (HBADB.out (HBO.out false (by rw [hg]; rfl)))
        clear hgq hg
        go_wp2_with (go_at_call 22; refine HGQ.out.mono ?_; rintro e w4 ⟨rfl, hb4⟩)
        go_ret
        exact ⟨ret_bool HG.out.symm, bNext hb4 HC3.out.rg.below⟩
      | true =>
      rw [hg] at hgq
      have HGQ := Lib.hid hgq
      have HBO2 : Hid (∀ c, (decide (-1 ≤ inp) && decide (inp < 64) && !(decide (0 ≤ inp) && (bufs.take k).any fun x => x.input == inp)) = c → bufOk V (bufs.take k) bufs[k] = c) := Lib.hid fun c h => HBO.out c (by rw [hg, Bool.true_and]; exact h)
      clear hgq hg HBO
      go_wp2_with fail
      refine HGQ.out.mono ?_
      rintro e w4 ⟨rfl, hb4⟩
      have HC4 := Lib.hid (HC3.out.next hb4)
      have k1 := keepCell hb4 d1
      clear d0 d1 y0 HC3 HGQ hb4 hzz
      obtain ⟨zb, hzb⟩ : ∃ zb, wr.heap.size = zb := ⟨_, rfl⟩
      rw [hzb] at k1 HZB HZG ⊢
      clear hzb
      by_cases c1 : inp < -1
      · have HG := Lib.hid (HBADB.out (HBO2.out false (by simp [show ¬ -1 ≤ inp from by omega])))
        go_wp2_with fail
        go_ret
        exact ⟨ret_bool HG.out.symm, HC4.out.rg.below⟩
      have c1' : decide (inp < -1) = false := by simpa using c1
      by_cases c2 : 64 ≤ inp
      · have HG := Lib.hid (HBADB.out (HBO2.out false (by simp [show ¬ inp < 64 from by omega])))
        go_wp2_with fail
        go_ret
        exact ⟨ret_bool HG.out.symm, HC4.out.rg.below⟩
      have c2' : decide (64 ≤ inp) = false := by simpa using c2
      have HBO3 : Hid (∀ c, (!(decide (0 ≤ inp) && (bufs.take k).any fun x => x.input == inp)) = c → bufOk V (bufs.take k) bufs[k] = c) := Lib.hid fun c h => HBO2.out c (by rw [decide_eq_true (show -1 ≤ inp from by omega), decide_eq_true (show inp < 64 from by omega)]; exact h)
      clear HBO2
      by_cases g0 : 0 ≤ inp
      · obtain ⟨z, hz⟩ : ∃ z : Nat, inp = z := ⟨inp.toNat, by omega⟩
        have hz64 : z < 64 := by omega
        subst hz
        have zi0 : (0 : Int) ≤ (z : Int) := by omega
        have zi1 : (z : Int) < 64 := by omega
        obtain ⟨tk, htk⟩ : ∃ tk, ((bufs.take k).any fun x => x.input == (z : Int)) = tk := ⟨_, rfl⟩
        have tc : w4.cell? ⟨I, z, none⟩ = some (.bool tk) := by rw [rowOf_cell HC4.out.ib hz64]; unfold inF; rw [htk]
        have tf := frozen_of_row _ I z _ _ HC4.out.ib
        cases tk with
        | true =>
          have HG := Lib.hid (HBADB.out (HBO3.out false (by rw [htk, decide_eq_true g0]; rfl)))
          clear htk
          go_wp2_with fail
          go_ret
          exact ⟨ret_bool HG.out.symm, HC4.out.rg.below⟩
        | false =>
          have HOK := Lib.hid (HBO3.out true (by rw [htk, Bool.and_false]; rfl))
          have HM := Lib.hid (HC4.out.take (zb := zb) hlt (by rw [HO.out]) hz64 k1 HX.out.1 (Nat.le_of_lt HX.out.1) HX.out.2 HZB.out)
          clear htk
          go_upto_region 12 with fail
          refine gen_worldA (fun W5 => CrMid w W5 w.heap.size I sb V zb (.slice (some ⟨b, off, none⟩) bufs.length bc) (.slice sa steps.length sc) (.slice oa outs.length oc) mv bufs k (z : Int)) HM.out ?_
          clear HM HC4
          intro W5 hm
          have s3 : W5.cell? ⟨sb, 3, none⟩ = some mv := hm.sc.cell 3
          have d1 := hm.d1
          have HM5 := Lib.hid hm
          clear hm
          refine wp_region_Z (S := fun W' => W'.cell? ⟨sb, 3, none⟩ = some mv ∧ W'.cell? ⟨zb, 1, none⟩ = some (.int .i64 (z : Int))) (z := 10) (by kernel_rfl) ?_
          have hSS : (fun W' : World => W'.cell? ⟨sb, 3, none⟩ = some mv ∧ W'.cell? ⟨zb, 1, none⟩ = some (.int .i64 (z : Int))) W5.drew := ⟨s3, d1⟩
          refine wpAnyZ_take (i := 0) (v := ?_) rfl (by kernel_rfl) (by kernel_rfl) (by kernel_rfl) (fun _ _ _ h => h) (by kernel_rfl) (Or.inl ⟨by rfl, ?_⟩) (by assumption) ?_
          rotate_left
          · intro w' hSw
            try dsimp only at hSw
            try obtain ⟨hSw, hSw2⟩ := hSw
            go_simp
            try with_reducible rfl
          show wpAnyZ _ _ _ _ _ _ _ _ (Act.put _ (some 79) _) _
          simp only [Act.put, List.setIfInBounds_toArray, List.set_cons_zero, List.set_cons_succ]
          refine wpAnyZ_take (i := 1) (v := ?_) rfl (by kernel_rfl) (by kernel_rfl) (by kernel_rfl) (fun _ _ _ h => h) (by kernel_rfl) (Or.inl ⟨by rfl, ?_⟩) (by assumption) ?_
          rotate_left
          · intro w' hSw
            try dsimp only at hSw
            try obtain ⟨hSw, hSw2⟩ := hSw
            go_simp
            try with_reducible rfl
          show wpAnyZ _ _ _ _ _ _ _ _ (Act.put _ (some 80) _) _
          simp only [Act.put, List.setIfInBounds_toArray, List.set_cons_zero, List.set_cons_succ]
          refine wpAnyZ_take (i := 2) (v := ?_) rfl (by kernel_rfl) (by kernel_rfl) (by kernel_rfl) (fun _ _ _ h => h) (by kernel_rfl) (Or.inl ⟨by rfl, ?_⟩) (by assumption) ?_
          rotate_left
          · intro w' hSw
            try dsimp only at hSw
            try obtain ⟨hSw, hSw2⟩ := hSw
            go_simp
            try with_reducible rfl
          show wpAnyZ _ _ _ _ _ _ _ _ (Act.put _ (some 81) _) _
          simp only [Act.put, List.setIfInBounds_toArray, List.set_cons_zero, List.set_cons_succ]
          refine wpAnyZ_take (i := 3) (v := ?_) rfl (by kernel_rfl) (by kernel_rfl) (by kernel_rfl) (fun _ _ _ h => h) (by kernel_rfl) (Or.inl ⟨by rfl, ?_⟩) (by assumption) ?_
          rotate_left
          · intro w' hSw
            try dsimp only at hSw
            try obtain ⟨hSw, hSw2⟩ := hSw
            go_simp
            try with_reducible rfl
          show wpAnyZ _ _ _ _ _ _ _ _ (Act.put _ (some 82) _) _
          simp only [Act.put, List.setIfInBounds_toArray, List.set_cons_zero, List.set_cons_succ]
          refine wpAnyZ_take (i := 4) (v := ?_) rfl (by kernel_rfl) (by kernel_rfl) (by kernel_rfl) (fun _ _ _ h => h) (by kernel_rfl) (Or.inl ⟨by rfl, ?_⟩) (by assumption) ?_
          rotate_left
          · intro w' hSw
            try dsimp only at hSw
            try obtain ⟨hSw, hSw2⟩ := hSw
            go_simp
            try with_reducible rfl
          show wpAnyZ _ _ _ _ _ _ _ _ (Act.put _ (some 83) _) _
          simp only [Act.put, List.setIfInBounds_toArray, List.set_cons_zero, List.set_cons_succ]
          refine wpAnyZ_take (i := 5) (v := ?_) rfl (by kernel_rfl) (by kernel_rfl) (by kernel_rfl) (fun _ _ _ h => h) (by kernel_rfl) (Or.inl ⟨by rfl, ?_⟩) (by assumption) ?_
          rotate_left
          · intro w' hSw
            try dsimp only at hSw
            try obtain ⟨hSw, hSw2⟩ := hSw
            go_simp
            try with_reducible rfl
          show wpAnyZ _ _ _ _ _ _ _ _ (Act.put _ (some 84) _) _
          simp only [Act.put, List.setIfInBounds_toArray, List.set_cons_zero, List.set_cons_succ]
          refine wpAnyZ_take (i := 6) (v := ?_) rfl (by kernel_rfl) (by kernel_rfl) (by kernel_rfl) (fun _ _ _ h => h) (by kernel_rfl) (Or.inl ⟨by rfl, ?_⟩) (by assumption) ?_
          rotate_left
          · intro w' hSw
            try dsimp only at hSw
            try obtain ⟨hSw, hSw2⟩ := hSw
            go_simp
            try with_reducible rfl
          show wpAnyZ _ _ _ _ _ _ _ _ (Act.put _ (some 85) _) _
          simp only [Act.put, List.setIfInBounds_toArray, List.set_cons_zero, List.set_cons_succ]
          refine wpAnyZ_take (i := 7) (v := ?_) rfl (by kernel_rfl) (by kernel_rfl) (by kernel_rfl) (fun _ _ _ h => h) (by kernel_rfl) (Or.inl ⟨by rfl, ?_⟩) (by assumption) ?_
          rotate_left
          · intro w' hSw
            try dsimp only at hSw
            try obtain ⟨hSw, hSw2⟩ := hSw
            go_simp
            try with_reducible rfl
          show wpAnyZ _ _ _ _ _ _ _ _ (Act.put _ (some 86) _) _
          simp only [Act.put, List.setIfInBounds_toArray, List.set_cons_zero, List.set_cons_succ]
          clear hSS
          refine wpAnyZ_one (i := 8) (by kernel_rfl) rfl rfl (fun K hK => ?_)
          go_simp
          have hbw : Below W5.heap.size W5 (W5.alloc (.cells #[.bool true] 4)).drew := ((Below.refl _ _).alloc (Nat.le_refl _) _).drew
          have HBW5 := Lib.hid hbw
          refine hK.out _ _ (.inr ⟨keepCell hbw s3, keepCell hbw d1⟩) ?_
          clear hK
          have j3 := keepCell hbw s3; have jd := keepCell hbw d1
          clear hbw s3 d1
          refine wpAnyZ_one (i := 9) (by kernel_rfl) rfl rfl (fun K hK => ?_)
          refine wp_append_newer _ (.tmp 83) (.tmp 87) 55 rfl w.heap.size 4 i0 (.bool false) 1 1 Try.underlying55 Hi.out Hz0.out Hz1.out Hz2.out rfl (by decide) mv k (mdL bufs k) rfl (own_below HM5.out.mo HBW5.out) ⟨W5.heap.size, 0, none⟩ 1 1 [.bool true] rfl rfl ?hn ?h1 ?h63 ?hby ?hba ?_
          case hn => exact cell_one_new _ _ _
          case h1 => intro u hu; cases List.mem_singleton.1 hu; rfl
          case h63 => unfold maxLen; omega
          case hby => omega
          case hba => exact Nat.le_trans HM5.out.rg.below.size HBW5.out.size
          intro v' w' hown' hgrow hnew
          have hkb : KB (fun b => mv.ownBlock = some b) (W5.alloc (.cells #[.bool true] 4)).drew w' := (KB.refl _ _).grown hgrow (fun q e _ => e)
          have c3 := (hkb.cell (p := ⟨sb, 3, none⟩) (World.block_lt_of_cell? _ _ j3) (fun e => Nat.lt_irrefl _ (HM5.out.ma sb e))).trans j3
          have c3f := (hkb.frozen (p := ⟨sb, 3, none⟩) (World.block_lt_of_cell? _ _ j3) (fun e => Nat.lt_irrefl _ (HM5.out.ma sb e))).trans (frozen_of_row _ sb 3 _ _ (HM5.out.sc.below HBW5.out))
          have cd := (hkb.cell (p := ⟨zb, 1, none⟩) (World.block_lt_of_cell? _ _ jd) (fun e => Nat.lt_irrefl _ (HZG.out zb e))).trans jd
          refine hK.out _ _ (.inr ⟨c3, cd⟩) ?_
          obtain ⟨g9, cap9, rfl⟩ := own_form hown' (by omega)
          have HOWN := Lib.hid hown'; have HGR := Lib.hid hgrow; have HNEW := Lib.hid hnew
          clear hK hown' hgrow hnew hkb j3 jd cd
          refine wpAnyZ_one (i := 10) (by kernel_rfl) rfl rfl (fun K hK => ?_)
          go_simp
          refine hK.out _ _ (.inl (Nat.le_refl _)) ?_
          clear hK
          refine wpAnyZ_one (i := 11) (by kernel_rfl) rfl rfl (fun K hK => ?_)
          go_simp
          refine hK.out _ _ (.inl (by omega)) ?_
          clear hK
          refine wpAnyZ_one (i := 12) (by kernel_rfl) rfl rfl (fun K hK => ?_)
          go_simp
          refine hK.out _ _ (.inl (by omega)) ?_
          clear hK
          refine wpAnyZ_done (by kernel_rfl) ?_ _
          go_wp2_with fail
          go_roundw
          case rel => exact ⟨k + 1, _, by omega, by go_num, fun j hj h => by
            by_cases ej : j = k
            · subst ej; exact HOK.out
            · exact HALL.out j hj (by omega), HM5.out.put hlt (by rw [HO.out]) (by simp; try omega) HBW5.out HX.out.1 (Nat.le_of_lt HX.out.1) HX.out.2 HOWN.out HGR.out HNEW.out⟩
          case measure => simp [intOf]; omega
      · have HOK := Lib.hid (HBO3.out true (by rw [decide_eq_false g0]; rfl))
        have g0' : decide (0 ≤ inp) = false := by simpa using g0
        have HM := Lib.hid (HC4.out.skip (zb := zb) hlt (by rw [HO.out]) g0 k1)
        go_upto_region 12 with fail
        refine gen_worldA (fun W5 => CrMid w W5 w.heap.size I sb V zb (.slice (some ⟨b, off, none⟩) bufs.length bc) (.slice sa steps.length sc) (.slice oa outs.length oc) mv bufs k inp) HM.out ?_
        clear HM HC4
        intro W5 hm
        have s3 : W5.cell? ⟨sb, 3, none⟩ = some mv := hm.sc.cell 3
        have d1 := hm.d1
        have HM5 := Lib.hid hm
        clear hm
        refine wp_region_Z (S := fun W' => W'.cell? ⟨sb, 3, none⟩ = some mv ∧ W'.cell? ⟨zb, 1, none⟩ = some (.int .i64 inp)) (z := 10) (by kernel_rfl) ?_
        have hSS : (fun W' : World => W'.cell? ⟨sb, 3, none⟩ = some mv ∧ W'.cell? ⟨zb, 1, none⟩ = some (.int .i64 inp)) W5.drew := ⟨s3, d1⟩
        refine wpAnyZ_take (i := 0) (v := ?_) rfl (by kernel_rfl) (by kernel_rfl) (by kernel_rfl) (fun _ _ _ h => h) (by kernel_rfl) (Or.inl ⟨by rfl, ?_⟩) (by assumption) ?_
        rotate_left
        · intro w' hSw
          try dsimp only at hSw
          try obtain ⟨hSw, hSw2⟩ := hSw
          go_simp
          try with_reducible rfl
        show wpAnyZ _ _ _ _ _ _ _ _ (Act.put _ (some 79) _) _
        simp only [Act.put, List.setIfInBounds_toArray, List.set_cons_zero, List.set_cons_succ]
        refine wpAnyZ_take (i := 1) (v := ?_) rfl (by kernel_rfl) (by kernel_rfl) (by kernel_rfl) (fun _ _ _ h => h) (by kernel_rfl) (Or.inl ⟨by rfl, ?_⟩) (by assumption) ?_
        rotate_left
        · intro w' hSw
          try dsimp only at hSw
          try obtain ⟨hSw, hSw2⟩ := hSw
          go_simp
          try with_reducible rfl
        show wpAnyZ _ _ _ _ _ _ _ _ (Act.put _ (some 80) _) _
        simp only [Act.put, List.setIfInBounds_toArray, List.set_cons_zero, List.set_cons_succ]
        refine wpAnyZ_take (i := 2) (v := ?_) rfl (by kernel_rfl) (by kernel_rfl) (by kernel_rfl) (fun _ _ _ h => h) (by kernel_rfl) (Or.inl ⟨by rfl, ?_⟩) (by assumption) ?_
        rotate_left
        · intro w' hSw
          try dsimp only at hSw
          try obtain ⟨hSw, hSw2⟩ := hSw
          go_simp
          try with_reducible rfl
        show wpAnyZ _ _ _ _ _ _ _ _ (Act.put _ (some 81) _) _
        simp only [Act.put, List.setIfInBounds_toArray, List.set_cons_zero, List.set_cons_succ]
        refine wpAnyZ_take (i := 3) (v := ?_) rfl (by kernel_rfl) (by kernel_rfl) (by kernel_rfl) (fun _ _ _ h => h) (by kernel_rfl) (Or.inl ⟨by rfl, ?_⟩) (by assumption) ?_
        rotate_left
        · intro w' hSw
          try dsimp only at hSw
          try obtain ⟨hSw, hSw2⟩ := hSw
          go_simp
          try with_reducible rfl
        show wpAnyZ _ _ _ _ _ _ _ _ (Act.put _ (some 82) _) _
        simp only [Act.put, List.setIfInBounds_toArray, List.set_cons_zero, List.set_cons_succ]
        refine wpAnyZ_take (i := 4) (v := ?_) rfl (by kernel_rfl) (by kernel_rfl) (by kernel_rfl) (fun _ _ _ h => h) (by kernel_rfl) (Or.inl ⟨by rfl, ?_⟩) (by assumption) ?_
        rotate_left
        · intro w' hSw
          try dsimp only at hSw
          try obtain ⟨hSw, hSw2⟩ := hSw
          go_simp
          try with_reducible rfl
        show wpAnyZ _ _ _ _ _ _ _ _ (Act.put _ (some 83) _) _
        simp only [Act.put, List.setIfInBounds_toArray, List.set_cons_zero, List.set_cons_succ]
        refine wpAnyZ_take (i := 5) (v := ?_) rfl (by kernel_rfl) (by kernel_rfl) (by kernel_rfl) (fun _ _ _ h => h) (by kernel_rfl) (Or.inl ⟨by rfl, ?_⟩) (by assumption) ?_
        rotate_left
        · intro w' hSw
          try dsimp only at hSw
          try obtain ⟨hSw, hSw2⟩ := hSw
          go_simp
          try with_reducible rfl
        show wpAnyZ _ _ _ _ _ _ _ _ (Act.put _ (some 84) _) _
        simp only [Act.put, List.setIfInBounds_toArray, List.set_cons_zero, List.set_cons_succ]
        refine wpAnyZ_take (i := 6) (v := ?_) rfl (by kernel_rfl) (by kernel_rfl) (by kernel_rfl) (fun _ _ _ h => h) (by kernel_rfl) (Or.inl ⟨by rfl, ?_⟩) (by assumption) ?_
        rotate_left
        · intro w' hSw
          try dsimp only at hSw
          try obtain ⟨hSw, hSw2⟩ := hSw
          go_simp
          try with_reducible rfl
        show wpAnyZ _ _ _ _ _ _ _ _ (Act.put _ (some 85) _) _
        simp only [Act.put, List.setIfInBounds_toArray, List.set_cons_zero, List.set_cons_succ]
        refine wpAnyZ_take (i := 7) (v := ?_) rfl (by kernel_rfl) (by kernel_rfl) (by kernel_rfl) (fun _ _ _ h => h) (by kernel_rfl) (Or.inl ⟨by rfl, ?_⟩) (by assumption) ?_
        rotate_left
        · intro w' hSw
          try dsimp only at hSw
          try obtain ⟨hSw, hSw2⟩ := hSw
          go_simp
          try with_reducible rfl
        show wpAnyZ _ _ _ _ _ _ _ _ (Act.put _ (some 86) _) _
        simp only [Act.put, List.setIfInBounds_toArray, List.set_cons_zero, List.set_cons_succ]
        clear hSS
        refine wpAnyZ_one (i := 8) (by kernel_rfl) rfl rfl (fun K hK => ?_)
        go_simp
        have hbw : Below W5.heap.size W5 (W5.alloc (.cells #[.bool false] 4)).drew := ((Below.refl _ _).alloc (Nat.le_refl _) _).drew
        have HBW5 := Lib.hid hbw
        refine hK.out _ _ (.inr ⟨keepCell hbw s3, keepCell hbw d1⟩) ?_
        clear hK
        have j3 := keepCell hbw s3; have jd := keepCell hbw d1
        clear hbw s3 d1
        refine wpAnyZ_one (i := 9) (by kernel_rfl) rfl rfl (fun K hK => ?_)
        refine wp_append_newer _ (.tmp 83) (.tmp 87) 55 rfl w.heap.size 4 i0 (.bool false) 1 1 Try.underlying55 Hi.out Hz0.out Hz1.out Hz2.out rfl (by decide) mv k (mdL bufs k) rfl (own_below HM5.out.mo HBW5.out) ⟨W5.heap.size, 0, none⟩ 1 1 [.bool false] rfl rfl ?hn ?h1 ?h63 ?hby ?hba ?_
        case hn => exact cell_one_new _ _ _
        case h1 => intro u hu; cases List.mem_singleton.1 hu; rfl
        case h63 => unfold maxLen; omega
        case hby => omega
        case hba => exact Nat.le_trans HM5.out.rg.below.size HBW5.out.size
        intro v' w' hown' hgrow hnew
        have hkb : KB (fun b => mv.ownBlock = some b) (W5.alloc (.cells #[.bool false] 4)).drew w' := (KB.refl _ _).grown hgrow (fun q e _ => e)
        have c3 := (hkb.cell (p := ⟨sb, 3, none⟩) (World.block_lt_of_cell? _ _ j3) (fun e => Nat.lt_irrefl _ (HM5.out.ma sb e))).trans j3
        have c3f := (hkb.frozen (p := ⟨sb, 3, none⟩) (World.block_lt_of_cell? _ _ j3) (fun e => Nat.lt_irrefl _ (HM5.out.ma sb e))).trans (frozen_of_row _ sb 3 _ _ (HM5.out.sc.below HBW5.out))
        have cd := (hkb.cell (p := ⟨zb, 1, none⟩) (World.block_lt_of_cell? _ _ jd) (fun e => Nat.lt_irrefl _ (HZG.out zb e))).trans jd
        refine hK.out _ _ (.inr ⟨c3, cd⟩) ?_
        obtain ⟨g9, cap9, rfl⟩ := own_form hown' (by omega)
        have HOWN := Lib.hid hown'; have HGR := Lib.hid hgrow; have HNEW := Lib.hid hnew
        clear hK hown' hgrow hnew hkb j3 jd cd
        refine wpAnyZ_one (i := 10) (by kernel_rfl) rfl rfl (fun K hK => ?_)
        go_simp
        refine hK.out _ _ (.inl (Nat.le_refl _)) ?_
        clear hK
        refine wpAnyZ_one (i := 11) (by kernel_rfl) rfl rfl (fun K hK => ?_)
        go_simp
        refine hK.out _ _ (.inl (by omega)) ?_
        clear hK
        refine wpAnyZ_one (i := 12) (by kernel_rfl) rfl rfl (fun K hK => ?_)
        go_simp
        refine hK.out _ _ (.inl (by omega)) ?_
        clear hK
        refine wpAnyZ_done (by kernel_rfl) ?_ _
        go_wp2_with fail
        go_roundw
        case rel => exact ⟨k + 1, _, by omega, by go_num, fun j hj h => by
          by_cases ej : j = k
          · subst ej; exact HOK.out
          · exact HALL.out j hj (by omega), HM5.out.put hlt (by rw [HO.out]) (by simp; try omega) HBW5.out HX.out.1 (Nat.le_of_lt HX.out.1) HX.out.2 HOWN.out HGR.out HNEW.out⟩
        case measure => simp [intOf]; omega
    · have ek : k = bufs.length := by omega
      subst ek
      have HS2 : Hid (∀ b, (stepsK V bufs steps (madeOf bufs) && outs.all (outB bufs.length)) = b → rightB ⟨V, bufs, steps, outs⟩ = b) := Lib.hid fun b h => HS.out b (by rw [bufsOk_good (fun i hi => HALL.out i hi hi), Bool.true_and]; exact h)
      obtain ⟨ma, mc, emv, hmd⟩ := mdIn_of rfl HC.out.mo HC.out.ma
      subst emv
      have HMD := Lib.hid hmd
      have HMDL := Lib.hid (show (madeOf bufs).length = bufs.length from by unfold madeOf; simp)
      have x0 := hcr.rg.c2
      clear HS HALL hmd hcr hbW
      go_wp2_with fail
      go_loopw [95] (fun i wi => ∃ (t : Nat) (made : List Bool) (L buf : Int), t ≤ steps.length ∧ i = .int .i64 t ∧ made.length = bufs.length ∧ stepsK V bufs steps (madeOf bufs) = stepsK V bufs (steps.drop t) made ∧ RgIn w wi w.heap.size V (.slice ba bufs.length bc) (.slice sa steps.length sc) (.slice oa outs.length oc) ∧ ScB wi sb V L buf (.slice ma made.length mc) ∧ MdIn wi sb ma made) (fun i _ => steps.length - (intOf i).toNat)
      case atStart => exact ⟨0, madeOf bufs, 0, 0, Nat.zero_le _, rfl, HMDL.out, rfl, HC.out.rg, HC.out.sc, HMD.out⟩
      case round =>
        obtain ⟨t, made, L, buf0, ht, rfl, hml, hK, hrg, hsc, hmd⟩ := hrel
        clear HC HMD HMDL x0
        have HK := Lib.hid hK; have HRG := Lib.hid hrg; have HML := Lib.hid hml; have HSC := Lib.hid hsc; have HMD := Lib.hid hmd
        have hbW := hrg.below
        clear hK hml hsc hmd
        have ht0 : (0 : Int) ≤ (t : Int) := by omega
        by_cases hlt2 : t < steps.length
        · have ht1 : (t : Int) < (steps.length : Int) := by omega
          obtain ⟨b, off, cs, rfl, ⟨v0, v1, v2, rfl, h0, h1, h2, -⟩, hc⟩ := HSE.out t hlt2
          have y0 := keepCell hbW (hc 0 _ rfl); have y1 := keepCell hbW (hc 1 _ rfl); have y2 := keepCell hbW (hc 2 _ rfl); have y3 := keepCell hbW (hc 3 _ rfl); have y4 := keepCell hbW (hc 4 _ rfl); have y5 := keepCell hbW (hc 5 _ rfl)
          simp only [show stpRep.n = 6 from rfl, Nat.add_zero] at y0 y1 y2 y3 y4 y5
          have hom : steps[t].ops.length ≤ maxLen := by obtain ⟨_, _, _, q1, q2, _⟩ := h2; omega
          obtain ⟨p0, c0, rfl, hpl, hpe⟩ := Rep.Sl.form h0
          obtain ⟨p1, c1, rfl, hll, hle⟩ := Rep.Sl.form h1
          obtain ⟨p2, c2, rfl, hol2, hoe⟩ := Rep.Sl.form h2
          obtain ⟨s, hs⟩ : ∃ s, steps[t] = s := ⟨_, rfl⟩
          have hstep : stepsK V bufs (steps.drop t) made = (stepS V bufs made s && stepsK V bufs (steps.drop (t + 1)) (made.set s.buf.toNat true)) := by rw [stepsK_step hlt2, hs]
          rw [hs] at hle hoe hll hol2 hpl hpe hom y0 y1 y2 y3 y4 y5
          clear h0 h1 h2 hc hs
          obtain ⟨how, buf, pos, loops, fn, ops⟩ := s
          dsimp only at hle hoe hll hol2 hpl hpe hom y0 y1 y2 y3 y4 y5 hstep
          have HPE := Lib.hid hpe; have HLE := Lib.hid hle; have HOP := Lib.hid hoe; have HOM := Lib.hid hom; have HST := Lib.hid hstep
          have HBADS : Hid (stepS V bufs made ⟨how, buf, pos, loops, fn, ops⟩ = false → rightB ⟨V, bufs, steps, outs⟩ = false) := Lib.hid fun h => HS2.out false (by rw [HK.out, HST.out, h]; rfl)
          clear hpe hle hoe hom hstep hrg hbW
          go_upto_region 17 with fail
          refine gen_worldA (fun W3 => SbIn wr W3 wr.heap.size how buf (.slice p0 pos.length c0) (.slice p1 loops.length c1) fn (.slice p2 ops.length c2)) (sbIn_new _ _ _ _ _ _ _) ?_
          intro W3 hb3
          have HZ : Hid (sb < wr.heap.size) := Lib.hid HSC.out.lt
          have HRG3 := Lib.hid (HRG.out.next hb3.below)
          have HSC3 := Lib.hid (HSC.out.below hb3.below)
          have HMD3 := Lib.hid (HMD.out.below hb3.below)
          obtain ⟨-, z0, z1, z2, z3, z4, z5⟩ := hb3
          have x1 := HRG3.out.c1
          clear y0 y1 y2 y3 y4 y5 HRG HSC HMD
          obtain ⟨zb, hzb⟩ : ∃ zb, wr.heap.size = zb := ⟨_, rfl⟩
          rw [hzb] at z0 z1 z2 z3 z4 z5 HZ ⊢
          clear hzb
          by_cases n0 : buf < 0
          · have HG := Lib.hid (HBADS.out (by unfold stepS; rw [bufQ_neg n0]; rfl))
            go_wp2_with fail
            go_ret
            exact ⟨ret_bool HG.out.symm, HRG3.out.below⟩
          have n0' : decide (buf < 0) = false := by simpa using n0
          by_cases n1 : buf < (bufs.length : Int)
          case neg =>
            have n1' : decide ((bufs.length : Int) ≤ buf) = true := by simp; omega
            have n1i : (bufs.length : Int) ≤ buf := by omega
            have HG := Lib.hid (HBADS.out (by unfold stepS; rw [bufQ_long n1]; rfl))
            clear n1
            go_wp2_with fail
            go_ret
            exact ⟨ret_bool HG.out.symm, HRG3.out.below⟩
          obtain ⟨kb, hkb⟩ : ∃ kb : Nat, buf = kb := ⟨buf.toNat, by omega⟩
          subst hkb
          have hkl : kb < bufs.length := by omega
          have n1' : decide ((bufs.length : Int) ≤ (kb : Int)) = false := by simp; omega
          have k0 : (0 : Int) ≤ (kb : Int) := by omega
          obtain ⟨bb, boff, cs, rfl, ⟨v, rfl, hs', -⟩, hc⟩ := (HBE.out.below bufRep HRG3.out.below (Nat.le_refl _)) kb hkl
          have f1 := hc 1 _ rfl
          simp only [show bufRep.n = 2 from rfl] at f1
          have hat := stepS_at (V := V) (made := made) (how := how) (fn := fn) (pos := pos) (loops := loops) (ops := ops) hkl
          obtain ⟨inq, hinq⟩ : ∃ inq, bufs[kb].input = inq := ⟨_, rfl⟩
          rw [hinq] at f1 hat
          have HAT := Lib.hid hat
          clear hs' hc hat hinq
          by_cases n2 : 0 ≤ inq
          · have HG := Lib.hid (HBADS.out (by rw [HAT.out, decide_eq_false (by omega)]; rfl))
            go_wp2_with fail
            go_ret
            exact ⟨ret_bool HG.out.symm, HRG3.out.below⟩
          have n2' : decide (0 ≤ inq) = false := by simpa using n2
          have HAT2 : Hid (∀ c, stepQ V made ⟨how, kb, pos, loops, fn, ops⟩ = c → stepS V bufs made ⟨how, kb, pos, loops, fn, ops⟩ = c) := Lib.hid fun c h => by rw [HAT.out, decide_eq_true (by omega), Bool.true_and]; exact h
          have hcs := cstep_any w W3 HRG3.out.below sb (Nat.le_of_lt (Nat.lt_trans HX.out.1 HX.out.2)) V hV L buf0 how kb fn pos p0 c0 HPE.out hpl loops p1 c1 HLE.out hll ops p2 c2 HOP.out HOM.out ma mc made HMD3.out.at (fun b' o' e e' => by
            subst e'
            by_cases h0 : 0 < made.length
            · obtain ⟨g, e2, hg, _⟩ := HMD3.out 0 h0
              rw [e] at e2; cases e2; omega
            · rw [HML.out] at h0; omega) HSC3.out
          clear HAT
          cases hst : stepQ V made ⟨how, kb, pos, loops, fn, ops⟩ with
          | false =>
            rw [hst] at hcs
            have HCS := Lib.hid hcs
            have HG := Lib.hid (HBADS.out (HAT2.out false hst))
            clear hcs hst
            go_wp2_with (go_at_call 23; refine HCS.out.mono ?_; rintro e w4 ⟨rfl, hce⟩)
            go_ret
            exact ⟨ret_bool HG.out.symm, (HRG3.out.kb hce.2 (Nat.lt_trans HX.out.1 HX.out.2) (Nat.le_of_lt (Nat.lt_trans HX.out.1 HX.out.2))).below⟩
          | true =>
            rw [hst] at hcs
            have HCS := Lib.hid hcs
            have HGO := Lib.hid (show stepsK V bufs (steps.drop t) made = stepsK V bufs (steps.drop (t + 1)) (made.set kb true) from by rw [HST.out, HAT2.out true hst, Bool.true_and, Int.toNat_natCast])
            clear hcs hst
            go_wp2_with fail
            refine HCS.out.mono ?_
            rintro e w4 ⟨rfl, ⟨L', b', hsc4⟩, hkb4⟩
            have HRG4 := Lib.hid (HRG3.out.kb hkb4 (Nat.lt_trans HX.out.1 HX.out.2) (Nat.le_of_lt (Nat.lt_trans HX.out.1 HX.out.2)))
            have hmd4 := HMD3.out.kb hkb4
            have HZN := Lib.hid (show ¬ zb = sb from by have := HZ.out; omega)
            have q1 := (hkb4.cell (p := ⟨zb, 1, none⟩) (World.block_lt_of_cell? _ _ z1) HZN.out).trans z1
            have s3 : w4.cell? ⟨sb, 3, none⟩ = some (.slice ma made.length mc) := hsc4.cell 3
            have hkm : kb < made.length := by rw [HML.out]; exact hkl
            obtain ⟨g, rfl, hg, hcg, hfg⟩ := hmd4 kb hkm
            obtain ⟨mb, hcm⟩ : ∃ mb, w4.cell? ⟨g, kb, none⟩ = some (.bool mb) := ⟨_, hcg⟩
            clear hcg
            have HMD4 := Lib.hid hmd4; have HSC4 := Lib.hid hsc4; have HG4 := Lib.hid hg; have HKM := Lib.hid hkm
            have i1 : (kb : Int) < (made.length : Int) := by omega
            clear z0 z1 z2 z3 z4 z5 f1 x1 hmd4 hsc4 hkb4 hg HCS HRG3 HSC3 HMD3 hkm
            go_upto_region 19 with fail
            go_region
            go_wp2_with fail
            go_roundw
            case rel => exact ⟨t + 1, made.set kb true, L', b', by omega, by go_num, by rw [List.length_set, HML.out], HK.out.trans HGO.out, (HRG4.out.set (by show w.heap.size ≤ g; have := HG4.out; have := HX.out; omega) (by show ¬ g = w.heap.size; have := HG4.out; have := HX.out; omega) _).next (Below.refl _ _).drew,
              by rw [List.length_set]; exact (HSC4.out.other (by show g ≠ sb; have := HG4.out; omega) _).below (Below.refl _ _).drew, (HMD4.out.set HKM.out).below (Below.refl _ _).drew⟩
            case measure => simp [intOf]; omega
        · have et : t = steps.length := by omega
          subst et
          have HS3 : Hid (∀ b, outs.all (outB bufs.length) = b → rightB ⟨V, bufs, steps, outs⟩ = b) := Lib.hid fun b h => HS2.out b (by rw [HK.out, List.drop_length, stepsK, Bool.true_and]; exact h)
          have x3 := hrg.c3
          have hq := containsFuncZ wr oa oc outs (.pointer (some ⟨w.heap.size, 0, none⟩)) (fun k => !outB bufs.length k) hol (HOE.out.below _ hbW (Nat.le_refl _)) (fun i hi w' hb => outnot_any w' outs[i] ⟨w.heap.size, 0, none⟩ ba bufs.length bc (keepCell hb HRG.out.c1) rfl)
          have HQ := Lib.hid hq
          have HG := Lib.hid (HS3.out (!outs.any fun k => !outB bufs.length k) (by rw [List.all_eq_not_any_not]))
          have hmf : ∀ (fn : Fn) (first cap : Array Value) (w : World), (Instr.makeFunc fn first cap).run Try.prog w = .ok (.func fn first cap) w := fun _ _ _ _ => rfl
          clear hq hrg hbW HK HML HSC HMD HS2
          go_wp2_with (go_at_call 24; refine HQ.out.mono ?_; rintro e w4 ⟨rfl, hb4⟩)
          go_ret
          exact ⟨ret_bool HG.out.symm, bNext hb4 HRG.out.below⟩
end Go.Proofs.Ytabodlhlanolcaa

namespace Go.Proofs.Ytabodlhlanolcaa
set_option maxRecDepth 100000
open Go.RowKit
set_option linter.unusedVariables false
set_option linter.unusedSimpArgs false
attribute [local go_sem ↓] Go.wp_at_zero Go.wp_at_succ

def sideO (D : List Int) (p : List Mono) : Option Int := if (evalS p D).2 = 0 ∧ 0 ≤ (evalS p D).1 ∧ (evalS p D).1 ≤ 65536 then some (evalS p D).1 else none
def valsO (D : List Int) : List (List Mono) → List Int → Option (List Int)
  | [], l => some l
  | p :: r, l => match sideO D p with
    | none => none
    | some n => valsO D r (l ++ [n])
def prodO : List Int → Int → Option Int
  | [], a => some a
  | n :: r, a => if 65536 < a * n then none else prodO r (a * n)
def prodE : Option Int → Int × Bool
  | none => (0, false)
  | some v => (v, true)
def sizeP (l : List Int) : Int × Bool := if l.any (fun x => x == 0) then (0, true) else prodE (prodO l 1)
def sizeS (D : List Int) (sides : List (List Mono)) : Int × Bool := match valsO D sides [] with
  | none => (0, false)
  | some l => sizeP l
theorem vals_none {D : List Int} {sides : List (List Mono)} {k : Nat} (hk : k < sides.length) (l : List Int) (h : sideO D sides[k] = none) : valsO D (sides.drop k) l = none := by rw [List.drop_eq_getElem_cons hk, valsO, h]
theorem vals_step {D : List Int} {sides : List (List Mono)} {k : Nat} (hk : k < sides.length) (l : List Int) {n : Int} (h : sideO D sides[k] = some n) : valsO D (sides.drop k) l = valsO D (sides.drop (k + 1)) (l ++ [n]) := by rw [List.drop_eq_getElem_cons hk, valsO, h]
theorem side_bad {D : List Int} {p : List Mono} (h : (evalS p D).2 ≠ 0 ∨ (evalS p D).1 < 0 ∨ 65536 < (evalS p D).1) : sideO D p = none := by unfold sideO; rw [if_neg (by omega)]
theorem side_good {D : List Int} {p : List Mono} (h : (evalS p D).2 = 0) (h1 : 0 ≤ (evalS p D).1) (h2 : (evalS p D).1 ≤ 65536) : sideO D p = some (evalS p D).1 := by unfold sideO; rw [if_pos ⟨h, h1, h2⟩]
theorem prod_step {l : List Int} {k : Nat} (hk : k < l.length) (a : Int) : prodO (l.drop k) a = if 65536 < a * l[k] then none else prodO (l.drop (k + 1)) (a * l[k]) := by rw [List.drop_eq_getElem_cons hk, prodO]
def twoB (p : Int × Bool) : Ending := .returned (.tuple #[.int .i64 p.1, .bool p.2])
theorem ret_twoB {a : Int} {b : Bool} {p : Int × Bool} (h : p = (a, b)) : Ending.returned (.tuple #[.int .i64 a, .bool b]) = twoB p := by subst h; rfl
set_option maxHeartbeats 4000000 in
theorem indexN (w : World) (a : Option Addr) (cap : Nat) (xs : List Int) (v : Int) (hm : xs.length ≤ 9223372036854775807) (h : IntsAt .i64 w a xs) :
    Calls Try.prog 62 #[.slice a xs.length cap, .int .i64 v] w fun e w' => e = .returned (.int .i64 (firstZ (fun x => x == v) 0 xs)) ∧ w = w' := by
  have HI := Lib.hid h; clear h
  go_enter Try.func62, Try.ntmps62
  go_wp2
  go_loop [8] (fun i => ∃ k : Nat, k ≤ xs.length ∧ i = .int .i64 k ∧ firstZ (fun x => x == v) 0 xs = firstZ (fun x => x == v) k (xs.drop k)) (fun i => xs.length - (intOf i).toNat)
  case atStart => exact ⟨0, Nat.zero_le _, rfl, rfl⟩
  case round =>
    obtain ⟨k, hk, rfl, hr⟩ := hrel
    by_cases hlt : k < xs.length
    · rw [firstZ_step hlt] at hr
      obtain ⟨b, off, rfl, x0⟩ := HI.out k hlt
      have hz1 : (k : Int) < (xs.length : Int) := by omega
      obtain ⟨x, hx⟩ : ∃ x, xs[k] = x := ⟨_, rfl⟩
      rw [hx] at hr x0
      have Hr := Lib.hid hr; clear hr hx
      by_cases e : v = x
      · have e1 : (v == x) = true := by simp [e]
        have HG := Lib.hid (show firstZ (fun x => x == v) 0 xs = k from by rw [Hr.out, if_pos (by simp [e])])
        clear e Hr
        go_wp2_with fail
        go_ret
        exact ⟨ret_int HG.out.symm, rfl⟩
      · have e1 : (v == x) = false := by simp [e]
        have HG := Lib.hid (show firstZ (fun x => x == v) 0 xs = firstZ (fun x => x == v) (k + 1) (xs.drop (k + 1)) from by rw [Hr.out, if_neg (by simp; omega)])
        clear e Hr
        go_wp2_with fail
        go_round
        case rel => exact ⟨k + 1, by omega, by go_num, HG.out⟩
        case measure => simp [intOf]; omega
    · have Hr := Lib.hid hr; clear hr
      go_wp2
      go_ret
      exact ⟨ret_int (by rw [Hr.out, List.drop_eq_nil_of_le (by omega)]; rfl), rfl⟩
theorem containsN (w : World) (a : Option Addr) (cap : Nat) (xs : List Int) (v : Int) (hm : xs.length ≤ 9223372036854775807) (h : IntsAt .i64 w a xs) :
    Calls Try.prog 52 #[.slice a xs.length cap, .int .i64 v] w fun e w' => e = .returned (.bool (xs.any fun x => x == v)) ∧ w = w' := by
  have hq := Lib.hid (indexN w a cap xs v hm h)
  clear h
  go_enter Try.func52, Try.ntmps52
  go_wp2_with (go_at_call 62; refine hq.out.mono ?_; rintro e w' ⟨rfl, rfl⟩)
  go_ret
  exact ⟨ret_bool (firstZ_nonneg _ _), rfl⟩
/-- which values of variables are right, but for their number -/
def dimQ (d : Int) : Bool := decide (d < 0) || decide (65536 < d)
theorem dimq_any (w : World) (d : Int) : Calls Try.prog 29 #[.int .i64 d] w fun e w' => e = .returned (.bool (dimQ d)) ∧ w = w' := by
  by_cases h0 : d < 0
  · have HG := Lib.hid (show dimQ d = true from by unfold dimQ; rw [decide_eq_true h0]; rfl)
    go_enter Try.func29, Try.ntmps29
    go_wp2_with fail
    go_ret
    exact ⟨ret_bool HG.out.symm, rfl⟩
  have h0' : decide (d < 0) = false := by simpa using h0
  have HG := Lib.hid (show dimQ d = decide (65536 < d) from by unfold dimQ; rw [decide_eq_false h0]; rfl)
  go_enter Try.func29, Try.ntmps29
  go_wp2_with fail
  all_goals
    go_ret
    exact ⟨ret_bool HG.out.symm, rfl⟩
set_option maxHeartbeats 4000000 in
theorem indexFuncN (w : World) (a : Option Addr) (cap : Nat) (xs : List Int) (hm : xs.length ≤ 9223372036854775807) (h : IntsAt .i64 w a xs) :
    Calls Try.prog 50 #[.slice a xs.length cap, .func (.func 29) #[] #[]] w fun e w' => e = .returned (.int .i64 (firstZ dimQ 0 xs)) ∧ w = w' := by
  have HI := Lib.hid h; clear h
  go_enter Try.func50, Try.ntmps50
  go_wp2
  go_loop [8] (fun i => ∃ k : Nat, k ≤ xs.length ∧ i = .int .i64 k ∧ firstZ dimQ 0 xs = firstZ dimQ k (xs.drop k)) (fun i => xs.length - (intOf i).toNat)
  case atStart => exact ⟨0, Nat.zero_le _, rfl, rfl⟩
  case round =>
    obtain ⟨k, hk, rfl, hr⟩ := hrel
    by_cases hlt : k < xs.length
    · rw [firstZ_step hlt] at hr
      obtain ⟨b, off, rfl, x0⟩ := HI.out k hlt
      have hz1 : (k : Int) < (xs.length : Int) := by omega
      obtain ⟨x, hx⟩ : ∃ x, xs[k] = x := ⟨_, rfl⟩
      rw [hx] at hr x0
      have hq := dimq_any w x
      have Hr := Lib.hid hr; clear hr hx
      cases hv : dimQ x with
      | true =>
        rw [hv] at hq
        have HQ := Lib.hid hq; have Hv := Lib.hid hv; clear hq hv
        go_wp2_with (refine HQ.out.mono ?_; rintro e w' ⟨rfl, rfl⟩)
        go_ret
        exact ⟨ret_int (by rw [Hr.out, if_pos Hv.out]), rfl⟩
      | false =>
        rw [hv] at hq
        have HQ := Lib.hid hq; have Hv := Lib.hid hv; clear hq hv
        go_wp2_with (refine HQ.out.mono ?_; rintro e w' ⟨rfl, rfl⟩)
        go_round
        case rel => exact ⟨k + 1, by omega, by go_num, by rw [Hr.out, if_neg (by rw [Hv.out]; simp)]⟩
        case measure => simp [intOf]; omega
    · have Hr := Lib.hid hr; clear hr
      go_wp2
      go_ret
      exact ⟨ret_int (by rw [Hr.out, List.drop_eq_nil_of_le (by omega)]; rfl), rfl⟩
theorem containsFuncN (w : World) (a : Option Addr) (cap : Nat) (xs : List Int) (hm : xs.length ≤ 9223372036854775807) (h : IntsAt .i64 w a xs) :
    Calls Try.prog 28 #[.slice a xs.length cap, .func (.func 29) #[] #[]] w fun e w' => e = .returned (.bool (xs.any dimQ)) ∧ w = w' := by
  have hq := Lib.hid (indexFuncN w a cap xs hm h)
  clear h
  go_enter Try.func28, Try.ntmps28
  go_wp2_with (go_at_call 50; refine hq.out.mono ?_; rintro e w' ⟨rfl, rfl⟩)
  go_ret
  exact ⟨ret_bool (firstZ_nonneg _ _), rfl⟩
end Go.Proofs.Ytabodlhlanolcaa
