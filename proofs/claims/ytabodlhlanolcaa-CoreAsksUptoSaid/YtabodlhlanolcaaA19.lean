import Derived.Test.YtabodlhlanolcaaA18
namespace Go.Proofs.Ytabodlhlanolcaa
set_option maxRecDepth 100000
open Go.RowKit
set_option linter.unusedVariables false
set_option linter.unusedSimpArgs false
attribute [local go_sem ↓] Go.wp_at_zero Go.wp_at_succ

/-! One step's form: the reference's. -/
/-- what a step's own form asks -/
def stepQ (V : Nat) (made : List Bool) (s : Stp) : Bool :=
  bothB V s.pos && growB V s.loops && (decide (s.how = 1) || decide (s.loops.length ≠ 0)) && (if s.how = 1 then s.fn == 0 else takes s.fn true) && decide (1 ≤ s.how) && decide (s.how ≤ 3)
    && decide (s.ops.length ≤ 256) && decide (0 ≤ depthI s.ops) && s.ops.all (opS V s.loops.length made s.buf)
/-- what its buffer asks -/
def bufQ (bufs : List Buf) (k : Int) : Bool := decide (0 ≤ k) && decide (k < bufs.length) && (match bufs[k.toNat]? with | some b => decide (b.input < 0) | none => false)
def stepS (V : Nat) (bufs : List Buf) (made : List Bool) (s : Stp) : Bool := bufQ bufs s.buf && stepQ V made s
theorem bufQ_neg {bufs : List Buf} {k : Int} (h : k < 0) : bufQ bufs k = false := by unfold bufQ; rw [decide_eq_false (by omega)]; rfl
theorem bufQ_long {bufs : List Buf} {k : Int} (h : ¬ k < bufs.length) : bufQ bufs k = false := by unfold bufQ; rw [decide_eq_false h, Bool.and_false]; rfl
theorem bufQ_at {bufs : List Buf} {k : Nat} (h : k < bufs.length) : bufQ bufs k = decide (bufs[k].input < 0) := by
  unfold bufQ
  rw [decide_eq_true (by omega), decide_eq_true (by omega), Int.toNat_natCast, List.getElem?_eq_getElem h]
  rfl
structure StpIn (w W : World) (x V : Nat) (vb : Value) (how buf : Int) (v0 v1 : Value) (fn : Int) (v2 : Value) : Prop where
  below : Below w.heap.size w W
  c0 : W.cell? ⟨x, 0, none⟩ = some (.int .i64 V)
  c1 : W.cell? ⟨x, 1, none⟩ = some vb
  y0 : W.cell? ⟨x + 1, 0, none⟩ = some (.int .i64 how)
  y1 : W.cell? ⟨x + 1, 1, none⟩ = some (.int .i64 buf)
  y2 : W.cell? ⟨x + 1, 2, none⟩ = some v0
  y3 : W.cell? ⟨x + 1, 3, none⟩ = some v1
  y4 : W.cell? ⟨x + 1, 4, none⟩ = some (.int .u8 fn)
  y5 : W.cell? ⟨x + 1, 5, none⟩ = some v2
  hx : x + 1 < W.heap.size
theorem StpIn.next {w W W' : World} {x V : Nat} {vb v0 v1 v2 : Value} {how buf fn : Int} (h : StpIn w W x V vb how buf v0 v1 fn v2) (hb : Below W.heap.size W W') : StpIn w W' x V vb how buf v0 v1 fn v2 :=
  ⟨bNext hb h.below, keepCell hb h.c0, keepCell hb h.c1, keepCell hb h.y0, keepCell hb h.y1, keepCell hb h.y2, keepCell hb h.y3, keepCell hb h.y4, keepCell hb h.y5, Nat.lt_of_lt_of_le h.hx hb.size⟩
theorem stpIn_new (w : World) (V : Nat) (vb vs vo : Value) (how buf : Int) (v0 v1 : Value) (fn : Int) (v2 : Value) :
    StpIn w ((w.alloc (.cells #[.int .i64 V, vb, vs, vo] 26)).alloc (.cells #[.int .i64 how, .int .i64 buf, v0, v1, .int .u8 fn, v2] 60)) w.heap.size V vb how buf v0 v1 fn v2 := by
  have n0 := oldBlock (World.alloc_heap_new w (.cells #[.int .i64 V, vb, vs, vo] 26)) (.cells #[.int .i64 how, .int .i64 buf, v0, v1, .int .u8 fn, v2] 60)
  have n1 := World.alloc_heap_new (w.alloc (.cells #[.int .i64 V, vb, vs, vo] 26)) (.cells #[.int .i64 how, .int .i64 buf, v0, v1, .int .u8 fn, v2] 60)
  rw [show (w.alloc (.cells #[.int .i64 V, vb, vs, vo] 26)).heap.size = w.heap.size + 1 from by simp] at n1
  have g0 := blockCells (cs := [.int .i64 V, vb, vs, vo]) n0
  have g1 := blockCells (cs := [.int .i64 how, .int .i64 buf, v0, v1, .int .u8 fn, v2]) n1
  exact ⟨((Below.refl _ _).alloc (Nat.le_refl _) _).alloc (by simp) _, g0 0, g0 1, g1 0, g1 1, g1 2, g1 3, g1 4, g1 5, by simp⟩
theorem single_grow (V : Nat) (p : List Mono) : growB V [p] = bothB V p := by simp [growB]
theorem single_els {w : World} {p0 : Option Addr} {c0 : Nat} {p : List Mono} {x : Nat} (h : monoRep.Sl w (.slice p0 p.length c0) p) (hx : w.cell? ⟨x, 0, none⟩ = some (.slice p0 p.length c0)) : polyRep.Els w (some ⟨x, 0, none⟩) [p] := fun i hi => by
  have : i = 0 := by simpa using hi
  subst this
  refine ⟨x, 0, [.slice p0 p.length c0], rfl, ⟨_, rfl, h⟩, fun j v hj => ?_⟩
  match j with
  | 0 => cases hj; exact hx
  | j + 1 => cases hj


set_option maxHeartbeats 16000000 in
theorem rstep_any (w : World) (V : Nat) (hV : V ≤ 6) (ba : Option Addr) (bc : Nat) (bufs : List Buf) (hbe : bufRep.Els w ba bufs) (hbl : bufs.length ≤ 9223372036854775807) (sa : Option Addr) (sl sc : Nat) (oa : Option Addr) (ol oc : Nat)
    (how buf fn : Int) (pos : List Mono) (p0 : Option Addr) (c0 : Nat) (hps : monoRep.Sl w (.slice p0 pos.length c0) pos) (loops : List (List Mono)) (p1 : Option Addr) (c1 : Nat) (hle : polyRep.Els w p1 loops) (hll : loops.length ≤ 9223372036854775807)
    (ops : List Cop) (p2 : Option Addr) (c2 : Nat) (hoe : copRep.Els w p2 ops) (hol : ops.length ≤ 9223372036854775807) (ma : Option Addr) (mc : Nat) (made : List Bool) (hmade : MadeAt w ma made) :
    Calls Try.prog 27 #[.agg #[.int .i64 V, .slice ba bufs.length bc, .slice sa sl sc, .slice oa ol oc], .agg #[.int .i64 how, .int .i64 buf, .slice p0 pos.length c0, .slice p1 loops.length c1, .int .u8 fn, .slice p2 ops.length c2], .slice ma made.length mc] w fun e w' =>
      e = .returned (.bool (stepS V bufs made ⟨how, buf, pos, loops, fn, ops⟩)) ∧ Below w.heap.size w w' := by
  have hnew := stpIn_new w V (.slice ba bufs.length bc) (.slice sa sl sc) (.slice oa ol oc) how buf (.slice p0 pos.length c0) (.slice p1 loops.length c1) fn (.slice p2 ops.length c2)
  have HBE := Lib.hid hbe; have HPS := Lib.hid hps; have HLE := Lib.hid hle; have HOE := Lib.hid hoe; have HMD := Lib.hid hmade; have HN := Lib.hid hnew
  clear hbe hps hle hoe hmade hnew
  have hS : ∀ b, (bufQ bufs buf && stepQ V made ⟨how, buf, pos, loops, fn, ops⟩) = b → stepS V bufs made ⟨how, buf, pos, loops, fn, ops⟩ = b := fun b h => h
  have HS := Lib.hid hS; clear hS
  go_enter Try.func27, Try.ntmps27
  go_upto_region 1 with fail
  refine gen_worldA (fun W => StpIn w W w.heap.size V (.slice ba bufs.length bc) how buf (.slice p0 pos.length c0) (.slice p1 loops.length c1) fn (.slice p2 ops.length c2)) HN.out ?_
  clear HN
  intro W hin
  obtain ⟨hbW, x0, x1, y0, y1, y2, y3, y4, y5, hxx⟩ := hin
  have HBW := Lib.hid hbW; clear hbW
  by_cases a1 : how < 1
  · have HG := Lib.hid (HS.out false (by unfold stepQ; simp [show ¬ 1 ≤ how from by omega]))
    clear HS
    go_wp2_with fail
    go_ret
    exact ⟨ret_bool HG.out.symm, HBW.out⟩
  have a1' : decide (how < 1) = false := by simpa using a1
  by_cases a2 : 3 < how
  · have HG := Lib.hid (HS.out false (by unfold stepQ; simp [show ¬ how ≤ 3 from by omega]))
    clear HS
    go_wp2_with fail
    go_ret
    exact ⟨ret_bool HG.out.symm, HBW.out⟩
  have a2' : decide (3 < how) = false := by simpa using a2
  by_cases a3 : buf < 0
  · have HG := Lib.hid (HS.out false (by rw [bufQ_neg a3]; rfl))
    clear HS
    go_wp2_with fail
    go_ret
    exact ⟨ret_bool HG.out.symm, HBW.out⟩
  have a3' : decide (buf < 0) = false := by simpa using a3
  obtain ⟨bn, rfl⟩ : ∃ bn : Nat, buf = bn := ⟨buf.toNat, by omega⟩
  by_cases a4 : bn < bufs.length
  case neg =>
    have a4' : decide ((bufs.length : Int) ≤ (bn : Int)) = true := by simp; omega
    have a4i : (bufs.length : Int) ≤ (bn : Int) := by omega
    have HG := Lib.hid (HS.out false (by rw [bufQ_long (by omega)]; rfl))
    clear HS
    go_wp2_with fail
    go_ret
    exact ⟨ret_bool HG.out.symm, HBW.out⟩
  have a4' : decide ((bufs.length : Int) ≤ (bn : Int)) = false := by simp; omega
  have a4i : (bn : Int) < (bufs.length : Int) := by omega
  obtain ⟨b, off, cs, rfl, ⟨v, rfl, -, -⟩, hc⟩ := (HBE.out.below bufRep HBW.out (Nat.le_refl _)) bn a4
  have e1 := hc 1 _ rfl
  simp only [show bufRep.n = 2 from rfl] at e1
  clear hc
  obtain ⟨inp, hinp⟩ : ∃ inp, bufs[bn].input = inp := ⟨_, rfl⟩
  rw [hinp] at e1
  by_cases a5 : 0 ≤ inp
  · have HG := Lib.hid (HS.out false (by rw [bufQ_at a4, hinp]; simp [show ¬ inp < 0 from by omega]))
    clear HS hinp
    go_wp2_with fail
    go_ret
    exact ⟨ret_bool HG.out.symm, HBW.out⟩
  have a5' : decide (0 ≤ inp) = false := by simpa using a5
  have HS2 : Hid (∀ b, stepQ V made ⟨how, bn, pos, loops, fn, ops⟩ = b → stepS V bufs made ⟨how, bn, pos, loops, fn, ops⟩ = b) := Lib.hid fun b h => HS.out b (by rw [bufQ_at a4, hinp, decide_eq_true (by omega), Bool.true_and, h])
  clear HS hinp
  go_upto_region 3 with fail
  have hxx0 : w.heap.size < W.heap.size := by omega
  have hal : Below W.heap.size W (W.alloc (.cells #[.slice p0 pos.length c0] 40)) := (Below.refl _ _).alloc (Nat.le_refl _) _
  have hin1 : StpIn w (W.alloc (.cells #[.slice p0 pos.length c0] 40)) w.heap.size V (.slice (some ⟨b, off, none⟩) bufs.length bc) how bn (.slice p0 pos.length c0) (.slice p1 loops.length c1) fn (.slice p2 ops.length c2) := (StpIn.mk HBW.out x0 x1 y0 y1 y2 y3 y4 y5 hxx).next hal
  have hg1 : Calls Try.prog 26 #[.slice (some ⟨W.heap.size, 0, none⟩) 1 1, .int .i64 V] (W.alloc (.cells #[.slice p0 pos.length c0] 40)) fun e w' => e = .returned (.bool (bothB V pos)) ∧ Below (W.alloc (.cells #[.slice p0 pos.length c0] 40)).heap.size (W.alloc (.cells #[.slice p0 pos.length c0] 40)) w' := by
    rw [← single_grow V pos]
    exact rgrow_any (W.alloc (.cells #[.slice p0 pos.length c0] 40)) (some ⟨W.heap.size, 0, none⟩) 1 [pos] V hV (single_els (HPS.out.below monoRep hin1.below (Nat.le_refl _)) (blockCells (cs := [.slice p0 pos.length c0]) (World.alloc_heap_new W (.cells #[.slice p0 pos.length c0] 40)) 0)) (by simp)
  have HIN1 := Lib.hid hin1
  clear hin1 hal
  cases hp : bothB V pos with
  | false =>
    rw [hp] at hg1
    have HG1 := Lib.hid hg1
    have HG := Lib.hid (HS2.out false (by unfold stepQ; simp [hp]))
    clear HS2 hp hg1
    go_wp2_with (go_at_call 26; refine HG1.out.mono ?_; rintro e w1 ⟨rfl, hb1⟩)
    go_ret
    exact ⟨ret_bool HG.out.symm, bNext hb1 HIN1.out.below⟩
  | true =>
    rw [hp] at hg1
    have HG1 := Lib.hid hg1
    have HS3 : Hid (∀ b, (growB V loops && (decide (how = 1) || decide (loops.length ≠ 0)) && (if how = 1 then fn == 0 else takes fn true) && decide (ops.length ≤ 256) && decide (0 ≤ depthI ops) && ops.all (opS V loops.length made bn)) = b → stepS V bufs made ⟨how, bn, pos, loops, fn, ops⟩ = b) := Lib.hid fun b h => HS2.out b (by unfold stepQ; simp only [hp, show (1 : Int) ≤ how from by omega, show how ≤ 3 from by omega, decide_true, Bool.and_true, Bool.true_and]; exact h)
    clear HS2 hp hg1
    go_wp2_with fail
    refine HG1.out.mono ?_
    rintro e w1 ⟨rfl, hb1⟩
    clear HG1
    have hin2 := HIN1.out.next hb1
    clear x0 x1 y0 y1 y2 y3 y4 y5 hxx hxx0 HBW HIN1 hb1 HPS
    obtain ⟨hbW, x0, x1, y0, y1, y2, y3, y4, y5, hxx⟩ := hin2
    have HBW := Lib.hid hbW
    have hg2 := rgrow_any w1 p1 c1 loops V hV (HLE.out.below polyRep hbW (Nat.le_refl _)) hll
    clear hbW
    cases hl : growB V loops with
    | false =>
      rw [hl] at hg2
      have HG2 := Lib.hid hg2
      have HG := Lib.hid (HS3.out false (by simp [hl]))
      clear HS3 hl hg2
      go_wp2_with (go_at_call 26; refine HG2.out.mono ?_; rintro e w2 ⟨rfl, hb2⟩)
      go_ret
      exact ⟨ret_bool HG.out.symm, bNext hb2 HBW.out⟩
    | true =>
      rw [hl] at hg2
      have HG2 := Lib.hid hg2
      have HS4 : Hid (∀ b, ((decide (how = 1) || decide (loops.length ≠ 0)) && (if how = 1 then fn == 0 else takes fn true) && decide (ops.length ≤ 256) && decide (0 ≤ depthI ops) && ops.all (opS V loops.length made bn)) = b → stepS V bufs made ⟨how, bn, pos, loops, fn, ops⟩ = b) := Lib.hid fun b h => HS3.out b (by rw [hl, Bool.true_and]; exact h)
      clear HS3 hl hg2
      have HIN1 := Lib.hid (StpIn.mk HBW.out x0 x1 y0 y1 y2 y3 y4 y5 hxx)
      go_wp2_with fail
      refine HG2.out.mono ?_
      rintro e w2 ⟨rfl, hb2⟩
      clear HG2
      have hin3 := HIN1.out.next hb2
      clear x0 x1 y0 y1 y2 y3 y4 y5 hxx HBW HIN1 hb2
      obtain ⟨hbW, x0, x1, y0, y1, y2, y3, y4, y5, hxx⟩ := hin3
      have HBW := Lib.hid hbW; clear hbW
      by_cases hh : how = 1
      · subst hh
        by_cases hf : fn = 0
        · subst hf
          have HS5 : Hid (∀ b, (decide (ops.length ≤ 256) && decide (0 ≤ depthI ops) && ops.all (opS V loops.length made bn)) = b → stepS V bufs made ⟨1, bn, pos, loops, 0, ops⟩ = b) := Lib.hid fun b h => HS4.out b (by rw [← h]; rfl)
          clear HS4
          go_upto_region 7 with fail
          by_cases z0 : ops.length = 0
          · have z0a : ((ops.length : Int) == 0) = true := by simp [z0]
            have z0b : (ops.length == 0) = true := by simp [z0]
            have HG := Lib.hid (HS5.out false (by simp [List.eq_nil_of_length_eq_zero z0, depthI, depthK]))
            clear HS5
            go_wp2_with fail
            go_ret
            exact ⟨ret_bool HG.out.symm, HBW.out⟩
          have z0a : ((ops.length : Int) == 0) = false := by rw [beq_eq_false_iff_ne]; omega
          have z0b : (ops.length == 0) = false := by rw [beq_eq_false_iff_ne]; exact z0
          by_cases z1 : 256 < ops.length
          · have z1a : decide ((256 : Int) < (ops.length : Int)) = true := by simp; omega
            have z1b : (256 : Int) < (ops.length : Int) := by omega
            have HG := Lib.hid (HS5.out false (by simp [show ¬ ops.length ≤ 256 from by omega]))
            clear HS5
            go_wp2_with fail
            go_ret
            exact ⟨ret_bool HG.out.symm, HBW.out⟩
          have z1a : decide ((256 : Int) < (ops.length : Int)) = false := by simp; omega
          have z1b : (ops.length : Int) ≤ 256 := by omega
          have hdp := rdepth_any w2 p2 c2 ops (HOE.out.below copRep HBW.out (Nat.le_refl _)) hol
          obtain ⟨dd, hdd⟩ : ∃ dd, depthI ops = dd := ⟨_, rfl⟩
          rw [hdd] at hdp
          have HD := Lib.hid hdp
          clear hdp
          by_cases z2 : dd < 0
          · have z2a : decide (dd < 0) = true := by simpa using z2
            have HG := Lib.hid (HS5.out false (by rw [hdd]; simp [show ¬ 0 ≤ dd from by omega]))
            clear HS5 hdd
            go_wp2_with (go_at_call 18; refine HD.out.mono ?_; rintro e w4 ⟨rfl, hb4⟩)
            go_ret
            exact ⟨ret_bool HG.out.symm, bNext hb4 HBW.out⟩
          have z2a : decide (dd < 0) = false := by simpa using z2
          have HS6 : Hid (∀ b, ops.all (opS V loops.length made bn) = b → _ = b) := Lib.hid fun b h => HS5.out b (by rw [hdd, decide_eq_true (show ops.length ≤ 256 from by omega), decide_eq_true (show 0 ≤ dd from by omega)]; exact h)
          clear HS5 hdd
          have HIN := Lib.hid (StpIn.mk HBW.out x0 x1 y0 y1 y2 y3 y4 y5 hxx)
          go_wp2_with (go_at_call 18; refine HD.out.mono ?_; rintro e w4 ⟨rfl, hb4⟩)
          have HIN4 := Lib.hid (HIN.out.next hb4)
          clear x0 x1 y0 y1 y2 y3 y4 y5 hxx HBW HIN hb4 HD
          go_loopw [7] (fun i wr => ∃ k : Nat, k ≤ ops.length ∧ i = .int .i64 k ∧ (∀ j, (hj : j < ops.length) → j < k → opS V loops.length made bn ops[j] = true) ∧ StpIn w wr w.heap.size V (.slice (some ⟨b, off, none⟩) bufs.length bc) _ bn (.slice p0 pos.length c0) (.slice p1 loops.length c1) _ (.slice p2 ops.length c2)) (fun i _ => ops.length - (intOf i).toNat)
          case atStart => exact ⟨0, Nat.zero_le _, rfl, fun j _ h => absurd h (Nat.not_lt_zero j), HIN4.out⟩
          case round =>
            clear HIN4
            obtain ⟨k, hk, rfl, hall, hin⟩ := hrel
            have HALL := Lib.hid hall; have HIN := Lib.hid hin
            clear hall
            obtain ⟨hbW, x0, x1, y0, y1, y2, y3, y4, y5, hxx⟩ := hin
            have HBW := Lib.hid hbW; clear hbW
            have hk0 : (0 : Int) ≤ (k : Int) := by omega
            by_cases hlt : k < ops.length
            · have hk1 : (k : Int) < (ops.length : Int) := by omega
              obtain ⟨b', off', cs, rfl, ⟨v, rfl, hs, hh1, -⟩, hc⟩ := (HOE.out.below copRep HBW.out (Nat.le_refl _)) k hlt
              have o0 := hc 0 _ rfl; have o1 := hc 1 _ rfl; have o2 := hc 2 _ rfl; have o3 := hc 3 _ rfl; have o4 := hc 4 _ rfl
              simp only [show copRep.n = 5 from rfl, Nat.add_zero] at o0 o1 o2 o3 o4
              obtain ⟨pa, pc, rfl, hpl, hpe⟩ := Rep.Sl.form hs
              obtain ⟨o, ho⟩ : ∃ o, ops[k] = o := ⟨_, rfl⟩
              have hrow : ∀ b, opS V loops.length made bn o = b → opS V loops.length made bn ops[k] = b := fun b h => by rw [ho]; exact h
              simp only [ho] at o0 o1 o2 o3 o4 hpl hpe
              have hq : ∀ p' : BelowW wr, _ := fun p' => rop_any p'.world o pa pc V loops.length ma mc made hV (hpe.below monoRep p'.below (Nat.le_refl _)) hpl ((HMD.out.below HBW.out (Nat.le_refl _)).below p'.below (Nat.le_refl _))
              clear hs hpe hc hh1 ho
              obtain ⟨oh, okk, onn, opp, ofn⟩ := o
              dsimp only at o0 o1 o2 o3 o4 hpl hq
              have g0 := cellBW o0; have g1 := cellBW o1; have g2 := cellBW o2; have g3 := cellBW o3; have g4 := cellBW o4; have gx := cellBW x0; have gy := cellBW y3; have gz := cellBW y1; have gw := cellBW y5
              cases hop : opB V loops.length made ⟨oh, okk, onn, opp, ofn⟩ with
              | false =>
                rw [hop] at hq
                have HQ := Lib.hid hq
                have HG := Lib.hid (HS6.out false (List.all_eq_false.2 ⟨_, List.getElem_mem hlt, by rw [hrow false (by unfold opS; rw [hop]; rfl)]; simp⟩))
                clear hq hop hrow
                go_upto_region 12 with fail
                refine wp_region_below (by kernel_rfl) (by kernel_rfl) ?_
                repeat (go_big_quiet_step (refine callsBW (HQ.out _)))
                refine wpQuiet_nil ?_
                rintro _ ⟨⟨wq, hwq⟩, rfl⟩
                clear g0 g1 g2 g3 g4 gx gy gz gw
                go_wp2_with fail
                go_ret
                exact ⟨ret_bool HG.out.symm, bNext hwq HBW.out⟩
              | true =>
                rw [hop] at hq
                have HQ := Lib.hid hq
                by_cases h4 : oh = 4
                · by_cases hkb : okk = bn
                  · have HG := Lib.hid (HS6.out false (List.all_eq_false.2 ⟨_, List.getElem_mem hlt, by rw [hrow false (by unfold opS; rw [hop]; simp [h4, hkb])]; simp⟩))
                    clear hq hop hrow
                    subst h4 hkb
                    go_upto_region 12 with fail
                    refine wp_region_below (by kernel_rfl) (by kernel_rfl) ?_
                    repeat (go_big_quiet_step (refine callsBW (HQ.out _)))
                    refine wpQuiet_nil ?_
                    rintro _ ⟨⟨wq, hwq⟩, rfl⟩
                    clear g0 g1 g2 g3 g4 gx gy gz gw
                    go_wp2_with fail
                    go_ret
                    exact ⟨ret_bool HG.out.symm, bNext hwq HBW.out⟩
                  · have HT := Lib.hid (hrow true (by unfold opS; rw [hop]; simp [hkb]))
                    have hkb' : (okk == (bn : Int)) = false := by simp [hkb]
                    clear hq hop hrow
                    subst h4
                    go_upto_region 12 with fail
                    refine wp_region_below (by kernel_rfl) (by kernel_rfl) ?_
                    repeat (go_big_quiet_step (refine callsBW (HQ.out _)))
                    refine wpQuiet_nil ?_
                    rintro _ ⟨⟨wq, hwq⟩, rfl⟩
                    clear g0 g1 g2 g3 g4 gx gy gz gw
                    go_wp2_with fail
                    go_roundw
                    case rel => exact ⟨k + 1, by omega, by go_num, fun j hj h => by
                      by_cases ej : j = k
                      · subst ej; exact HT.out
                      · exact HALL.out j hj (by omega), HIN.out.next hwq⟩
                    case measure => simp [intOf]; omega
                · have HT := Lib.hid (hrow true (by unfold opS; rw [hop]; simp [h4]))
                  have h4' : (oh == 4) = false := by simp [h4]
                  clear hq hop hrow
                  go_upto_region 12 with fail
                  refine wp_region_below (by kernel_rfl) (by kernel_rfl) ?_
                  repeat (go_big_quiet_step (refine callsBW (HQ.out _)))
                  refine wpQuiet_nil ?_
                  rintro _ ⟨⟨wq, hwq⟩, rfl⟩
                  clear g0 g1 g2 g3 g4 gx gy gz gw
                  go_wp2_with fail
                  go_roundw
                  case rel => exact ⟨k + 1, by omega, by go_num, fun j hj h => by
                    by_cases ej : j = k
                    · subst ej; exact HT.out
                    · exact HALL.out j hj (by omega), HIN.out.next hwq⟩
                  case measure => simp [intOf]; omega
            · have HG := Lib.hid (HS6.out true (List.all_eq_true.2 fun o hm => by
                obtain ⟨j, hj, rfl⟩ := List.getElem_of_mem hm
                exact HALL.out j hj (by omega)))
              go_wp2_with fail
              go_ret
              exact ⟨ret_bool HG.out.symm, HBW.out⟩
        · have hf' : (fn != 0) = true := by simp [hf]
          have HG := Lib.hid (HS4.out false (by simp [hf]))
          clear HS4
          go_wp2_with fail
          go_ret
          exact ⟨ret_bool HG.out.symm, HBW.out⟩
      · have hh' : (how != 1) = true := by simp [hh]
        have hh2 : (how == 1) = false := by simp [hh]
        by_cases hz : loops.length = 0
        · have hz1 : ((loops.length : Int) == 0) = true := by simp [hz]
          have hz2 : (loops.length == 0) = true := by simp [hz]
          have HG := Lib.hid (HS4.out false (by simp [hz, hh]))
          clear HS4
          go_wp2_with fail
          go_ret
          exact ⟨ret_bool HG.out.symm, HBW.out⟩
        · have hz1 : ((loops.length : Int) == 0) = false := by rw [beq_eq_false_iff_ne]; omega
          have hz2 : (loops.length == 0) = false := by rw [beq_eq_false_iff_ne]; exact hz
          have htk := fun W => rtakes_any W fn true
          cases ht : takes fn true with
          | false =>
            rw [ht] at htk
            have HT := Lib.hid htk
            have HG := Lib.hid (HS4.out false (by simp [hh, ht]))
            clear HS4 htk ht
            go_wp2_with (go_at_call 48; refine (HT.out _).mono ?_; rintro e w3 ⟨rfl, rfl⟩)
            go_ret
            exact ⟨ret_bool HG.out.symm, HBW.out⟩
          | true =>
            rw [ht] at htk
            have HT := Lib.hid htk
            have HS5 : Hid (∀ b, (decide (ops.length ≤ 256) && decide (0 ≤ depthI ops) && ops.all (opS V loops.length made bn)) = b → stepS V bufs made ⟨how, bn, pos, loops, fn, ops⟩ = b) := Lib.hid fun b h => HS4.out b (by simp only [hh, hz, ht, decide_false, Bool.false_or, if_false, ne_eq, not_false_eq_true, decide_true, Bool.true_and]; exact h)
            clear HS4 htk ht
            go_upto_region 7 with (go_at_call 48; refine (HT.out _).mono ?_; rintro e w3 ⟨rfl, rfl⟩)
            by_cases z0 : ops.length = 0
            · have z0a : ((ops.length : Int) == 0) = true := by simp [z0]
              have z0b : (ops.length == 0) = true := by simp [z0]
              have HG := Lib.hid (HS5.out false (by simp [List.eq_nil_of_length_eq_zero z0, depthI, depthK]))
              clear HS5
              go_wp2_with fail
              go_ret
              exact ⟨ret_bool HG.out.symm, HBW.out⟩
            have z0a : ((ops.length : Int) == 0) = false := by rw [beq_eq_false_iff_ne]; omega
            have z0b : (ops.length == 0) = false := by rw [beq_eq_false_iff_ne]; exact z0
            by_cases z1 : 256 < ops.length
            · have z1a : decide ((256 : Int) < (ops.length : Int)) = true := by simp; omega
              have z1b : (256 : Int) < (ops.length : Int) := by omega
              have HG := Lib.hid (HS5.out false (by simp [show ¬ ops.length ≤ 256 from by omega]))
              clear HS5
              go_wp2_with fail
              go_ret
              exact ⟨ret_bool HG.out.symm, HBW.out⟩
            have z1a : decide ((256 : Int) < (ops.length : Int)) = false := by simp; omega
            have z1b : (ops.length : Int) ≤ 256 := by omega
            have hdp := rdepth_any w2 p2 c2 ops (HOE.out.below copRep HBW.out (Nat.le_refl _)) hol
            obtain ⟨dd, hdd⟩ : ∃ dd, depthI ops = dd := ⟨_, rfl⟩
            rw [hdd] at hdp
            have HD := Lib.hid hdp
            clear hdp
            by_cases z2 : dd < 0
            · have z2a : decide (dd < 0) = true := by simpa using z2
              have HG := Lib.hid (HS5.out false (by rw [hdd]; simp [show ¬ 0 ≤ dd from by omega]))
              clear HS5 hdd
              go_wp2_with (go_at_call 18; refine HD.out.mono ?_; rintro e w4 ⟨rfl, hb4⟩)
              go_ret
              exact ⟨ret_bool HG.out.symm, bNext hb4 HBW.out⟩
            have z2a : decide (dd < 0) = false := by simpa using z2
            have HS6 : Hid (∀ b, ops.all (opS V loops.length made bn) = b → _ = b) := Lib.hid fun b h => HS5.out b (by rw [hdd, decide_eq_true (show ops.length ≤ 256 from by omega), decide_eq_true (show 0 ≤ dd from by omega)]; exact h)
            clear HS5 hdd
            have HIN := Lib.hid (StpIn.mk HBW.out x0 x1 y0 y1 y2 y3 y4 y5 hxx)
            go_wp2_with (go_at_call 18; refine HD.out.mono ?_; rintro e w4 ⟨rfl, hb4⟩)
            have HIN4 := Lib.hid (HIN.out.next hb4)
            clear x0 x1 y0 y1 y2 y3 y4 y5 hxx HBW HIN hb4 HD
            go_loopw [7] (fun i wr => ∃ k : Nat, k ≤ ops.length ∧ i = .int .i64 k ∧ (∀ j, (hj : j < ops.length) → j < k → opS V loops.length made bn ops[j] = true) ∧ StpIn w wr w.heap.size V (.slice (some ⟨b, off, none⟩) bufs.length bc) _ bn (.slice p0 pos.length c0) (.slice p1 loops.length c1) _ (.slice p2 ops.length c2)) (fun i _ => ops.length - (intOf i).toNat)
            case atStart => exact ⟨0, Nat.zero_le _, rfl, fun j _ h => absurd h (Nat.not_lt_zero j), HIN4.out⟩
            case round =>
              clear HIN4
              obtain ⟨k, hk, rfl, hall, hin⟩ := hrel
              have HALL := Lib.hid hall; have HIN := Lib.hid hin
              clear hall
              obtain ⟨hbW, x0, x1, y0, y1, y2, y3, y4, y5, hxx⟩ := hin
              have HBW := Lib.hid hbW; clear hbW
              have hk0 : (0 : Int) ≤ (k : Int) := by omega
              by_cases hlt : k < ops.length
              · have hk1 : (k : Int) < (ops.length : Int) := by omega
                obtain ⟨b', off', cs, rfl, ⟨v, rfl, hs, hh1, -⟩, hc⟩ := (HOE.out.below copRep HBW.out (Nat.le_refl _)) k hlt
                have o0 := hc 0 _ rfl; have o1 := hc 1 _ rfl; have o2 := hc 2 _ rfl; have o3 := hc 3 _ rfl; have o4 := hc 4 _ rfl
                simp only [show copRep.n = 5 from rfl, Nat.add_zero] at o0 o1 o2 o3 o4
                obtain ⟨pa, pc, rfl, hpl, hpe⟩ := Rep.Sl.form hs
                obtain ⟨o, ho⟩ : ∃ o, ops[k] = o := ⟨_, rfl⟩
                have hrow : ∀ b, opS V loops.length made bn o = b → opS V loops.length made bn ops[k] = b := fun b h => by rw [ho]; exact h
                simp only [ho] at o0 o1 o2 o3 o4 hpl hpe
                have hq : ∀ p' : BelowW wr, _ := fun p' => rop_any p'.world o pa pc V loops.length ma mc made hV (hpe.below monoRep p'.below (Nat.le_refl _)) hpl ((HMD.out.below HBW.out (Nat.le_refl _)).below p'.below (Nat.le_refl _))
                clear hs hpe hc hh1 ho
                obtain ⟨oh, okk, onn, opp, ofn⟩ := o
                dsimp only at o0 o1 o2 o3 o4 hpl hq
                have g0 := cellBW o0; have g1 := cellBW o1; have g2 := cellBW o2; have g3 := cellBW o3; have g4 := cellBW o4; have gx := cellBW x0; have gy := cellBW y3; have gz := cellBW y1; have gw := cellBW y5
                cases hop : opB V loops.length made ⟨oh, okk, onn, opp, ofn⟩ with
                | false =>
                  rw [hop] at hq
                  have HQ := Lib.hid hq
                  have HG := Lib.hid (HS6.out false (List.all_eq_false.2 ⟨_, List.getElem_mem hlt, by rw [hrow false (by unfold opS; rw [hop]; rfl)]; simp⟩))
                  clear hq hop hrow
                  go_upto_region 12 with fail
                  refine wp_region_below (by kernel_rfl) (by kernel_rfl) ?_
                  repeat (go_big_quiet_step (refine callsBW (HQ.out _)))
                  refine wpQuiet_nil ?_
                  rintro _ ⟨⟨wq, hwq⟩, rfl⟩
                  clear g0 g1 g2 g3 g4 gx gy gz gw
                  go_wp2_with fail
                  go_ret
                  exact ⟨ret_bool HG.out.symm, bNext hwq HBW.out⟩
                | true =>
                  rw [hop] at hq
                  have HQ := Lib.hid hq
                  by_cases h4 : oh = 4
                  · by_cases hkb : okk = bn
                    · have HG := Lib.hid (HS6.out false (List.all_eq_false.2 ⟨_, List.getElem_mem hlt, by rw [hrow false (by unfold opS; rw [hop]; simp [h4, hkb])]; simp⟩))
                      clear hq hop hrow
                      subst h4 hkb
                      go_upto_region 12 with fail
                      refine wp_region_below (by kernel_rfl) (by kernel_rfl) ?_
                      repeat (go_big_quiet_step (refine callsBW (HQ.out _)))
                      refine wpQuiet_nil ?_
                      rintro _ ⟨⟨wq, hwq⟩, rfl⟩
                      clear g0 g1 g2 g3 g4 gx gy gz gw
                      go_wp2_with fail
                      go_ret
                      exact ⟨ret_bool HG.out.symm, bNext hwq HBW.out⟩
                    · have HT := Lib.hid (hrow true (by unfold opS; rw [hop]; simp [hkb]))
                      have hkb' : (okk == (bn : Int)) = false := by simp [hkb]
                      clear hq hop hrow
                      subst h4
                      go_upto_region 12 with fail
                      refine wp_region_below (by kernel_rfl) (by kernel_rfl) ?_
                      repeat (go_big_quiet_step (refine callsBW (HQ.out _)))
                      refine wpQuiet_nil ?_
                      rintro _ ⟨⟨wq, hwq⟩, rfl⟩
                      clear g0 g1 g2 g3 g4 gx gy gz gw
                      go_wp2_with fail
                      go_roundw
                      case rel => exact ⟨k + 1, by omega, by go_num, fun j hj h => by
                        by_cases ej : j = k
                        · subst ej; exact HT.out
                        · exact HALL.out j hj (by omega), HIN.out.next hwq⟩
                      case measure => simp [intOf]; omega
                  · have HT := Lib.hid (hrow true (by unfold opS; rw [hop]; simp [h4]))
                    have h4' : (oh == 4) = false := by simp [h4]
                    clear hq hop hrow
                    go_upto_region 12 with fail
                    refine wp_region_below (by kernel_rfl) (by kernel_rfl) ?_
                    repeat (go_big_quiet_step (refine callsBW (HQ.out _)))
                    refine wpQuiet_nil ?_
                    rintro _ ⟨⟨wq, hwq⟩, rfl⟩
                    clear g0 g1 g2 g3 g4 gx gy gz gw
                    go_wp2_with fail
                    go_roundw
                    case rel => exact ⟨k + 1, by omega, by go_num, fun j hj h => by
                      by_cases ej : j = k
                      · subst ej; exact HT.out
                      · exact HALL.out j hj (by omega), HIN.out.next hwq⟩
                    case measure => simp [intOf]; omega
              · have HG := Lib.hid (HS6.out true (List.all_eq_true.2 fun o hm => by
                  obtain ⟨j, hj, rfl⟩ := List.getElem_of_mem hm
                  exact HALL.out j hj (by omega)))
                go_wp2_with fail
                go_ret
                exact ⟨ret_bool HG.out.symm, HBW.out⟩
end Go.Proofs.Ytabodlhlanolcaa
