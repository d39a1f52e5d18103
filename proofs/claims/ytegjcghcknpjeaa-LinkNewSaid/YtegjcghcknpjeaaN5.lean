/-
  LinkNew: the law returns true for every input, and what was handed in reads as it did. No condition.
-/
import Derived.Test.YtegjcghcknpjeaaP13
import Derived.Test.YtegjcghcknpjeaaRows1
namespace Go.Proofs.Ytegjcghcknpjeaa
open Go.ChangeShapes Go.WideShapes Go.ChangeAt Go.RowKit Go.Joins
set_option linter.unusedVariables false

theorem wf_of_els {w : World} {a : Option Addr} {x : List Piece} (h : pieceRep.Els w a x) : ∀ p ∈ x, p.wf := fun p hp => by
  obtain ⟨k, hk, rfl⟩ := List.getElem_of_mem hp
  obtain ⟨_, _, _, hw, _⟩ := els_piece h hk
  exact hw
theorem wf_of_elsI {w : World} {a : Option Addr} {x : List Ins} (h : insRep.Els w a x) : ∀ p ∈ x, p.wf := fun p hp => by
  obtain ⟨k, hk, rfl⟩ := List.getElem_of_mem hp
  obtain ⟨_, _, _, hw, _⟩ := els_ins h hk
  exact hw
theorem Sl.take {α : Type} {R : Rep α} {w : World} {a : Option Addr} {n c : Nat} {l : List α} (h : R.Sl w (.slice a n c) l) (k : Nat) (hk : k ≤ l.length) : R.Sl w (.slice a k c) (l.take k) := by
  obtain ⟨a', c', e, h1, h2, h3, h4⟩ := h
  cases e
  refine ⟨a, c, by simp [Nat.min_eq_left hk], by simp; omega, h2, h3, fun i hi => ?_⟩
  simp at hi
  obtain ⟨b, off, cs, e, g1, g2⟩ := h4 i (by omega)
  exact ⟨b, off, cs, e, by rw [List.getElem_take]; exact g1, g2⟩
/-- a row of pieces that may be written -/
def SomeP (B n : Nat) (w : World) (v : Value) : Prop := ∃ l : List Piece, l.length = n ∧ RowP B w v l
def SomeI (B n : Nat) (w : World) (v : Value) : Prop := ∃ l : List Ins, l.length = n ∧ RowIns B w v l
theorem SomeP.kept {B n : Nat} {w w' : World} {v : Value} (h : SomeP B n w v) (hb : Below w.heap.size w w') : SomeP B n w' v := by
  obtain ⟨l, e, h⟩ := h
  exact ⟨l, e, own_below h hb⟩
theorem SomeI.kept {B n : Nat} {w w' : World} {v : Value} (h : SomeI B n w v) (hb : Below w.heap.size w w') : SomeI B n w' v := by
  obtain ⟨l, e, h⟩ := h
  exact ⟨l, e, own_below h hb⟩
theorem SomeP.other {B n : Nat} {w : World} {v : Value} (h : SomeP B n w v) {p : Addr} (hp : p.block < B) (u : Value) : SomeP B n (w.setCell p u) v := by
  obtain ⟨l, e, h⟩ := h
  exact ⟨l, e, own_other h (fun g hg => by have := (World.ownsRow.lt h g hg).1; omega) u⟩
theorem SomeI.other {B n : Nat} {w : World} {v : Value} (h : SomeI B n w v) {p : Addr} (hp : p.block < B) (u : Value) : SomeI B n (w.setCell p u) v := by
  obtain ⟨l, e, h⟩ := h
  exact ⟨l, e, own_other h (fun g hg => by have := (World.ownsRow.lt h g hg).1; omega) u⟩
theorem RowIns.set {B : Nat} {w : World} {g n cap : Nat} {l : List Ins} (h : RowIns B w (.slice (some ⟨g, 0, none⟩) n cap) l) (hn : n = l.length) {i j : Nat} (hi : i < l.length) (hj : j < 5) (u : Value) (p' : Ins)
    (he : Ins.enc p' = (Ins.enc l[i]).set j u) : RowIns B (w.setCell ⟨g, i * 5 + j, none⟩ u) (.slice (some ⟨g, 0, none⟩) n cap) (l.set i p') := by
  subst hn
  have h1 := (World.ownsRow.stored h (i * 5 + j) u).1
  rw [flatMap_field (enc := Ins.enc) (n := 5) (fun _ => rfl) hj l i hi p' he] at h1
  unfold RowIns
  rw [List.length_set]
  exact h1
theorem own_form {w : World} {B : Nat} {t : TypeId} {size n : Nat} {v : Value} {xs : List Value} (h : w.ownsRow B t size v n xs) : ∃ a c, v = .slice a n c ∧ n ≤ 9223372036854775807 := by
  rcases h.2 with ⟨e, h0⟩ | ⟨g, cap, cur, e, _, _, h1, h2, _⟩
  · subst h0; exact ⟨_, _, e, by omega⟩
  · unfold maxLen at h2; exact ⟨_, _, e, by omega⟩
theorem RowP.frozen {B : Nat} {w : World} {g n cap : Nat} {l : List Piece} (h : RowP B w (.slice (some ⟨g, 0, none⟩) n cap) l) (hn : n = l.length) (j : Nat) : w.frozen? ⟨g, j, none⟩ = false := by subst hn; exact World.ownsRow.frozenAt h j
theorem RowIns.frozen {B : Nat} {w : World} {g n cap : Nat} {l : List Ins} (h : RowIns B w (.slice (some ⟨g, 0, none⟩) n cap) l) (hn : n = l.length) (j : Nat) : w.frozen? ⟨g, j, none⟩ = false := by subst hn; exact World.ownsRow.frozenAt h j
theorem pieceSet2 (p : Piece) : Piece.enc ⟨-7, p.ins, p.to⟩ = (Piece.enc p).set 0 (.int .i64 (-7)) := rfl
theorem insSet (p : Ins) : Ins.enc ⟨78, p.a, p.b, p.c, p.imm⟩ = (Ins.enc p).set 0 (.int .u8 78) := rfl
theorem RowIns.cell {B : Nat} {w : World} {g n cap : Nat} {l : List Ins} (h : RowIns B w (.slice (some ⟨g, 0, none⟩) n cap) l) (hn : n = l.length) {i j : Nat} (hi : i < l.length) (hj : j < 5) :
    w.cell? ⟨g, i * 5 + j, none⟩ = (Ins.enc l[i])[j]? := by
  subst hn
  have := World.ownsRow.cellAt h (i * 5 + j) (Nat.lt_of_lt_of_le (by rw [Nat.succ_mul]; omega : i * 5 + j < (i + 1) * 5) (Nat.mul_le_mul_right 5 hi))
  rw [this, flatMap_get (enc := Ins.enc) (n := 5) (fun _ => rfl) l i hi j hj]
theorem pieceSet (p : Piece) : Piece.enc ⟨p.mark, ⟨77, p.ins.a, p.ins.b, p.ins.c, p.ins.imm⟩, p.to⟩ = (Piece.enc p).set 1 (.int .u8 77) := rfl

set_option maxRecDepth 100000 in
set_option maxHeartbeats 8000000 in
theorem LinkNew_walk (w : World) (v0 : Value) (code : List Ins) (v1 : Value) (l : List Piece) (q0 : insRep.Sl w v0 code) (q1 : pieceRep.Sl w v1 l) :
    Calls Try.prog 8 #[v0, v1] w fun e w' => e = .returned (.bool true) ∧ Below w.heap.size w w' := by
  have s0 := fun W (hB : Below w.heap.size w W) => flat_src (by decide) (q0.below insRep hB (Nat.le_refl _))
  have s1 := fun W (hB : Below w.heap.size w W) => flat_src (by decide) (q1.below pieceRep hB (Nat.le_refl _))
  obtain ⟨a, c, rfl, hm1, hm2, _, hx⟩ := q0
  obtain ⟨b, d, rfl, hm3, hm4, _, hy⟩ := q1
  by_cases lx : code.length ≤ 1000
  · by_cases ly : l.length ≤ 1000
    · have lx' : decide ((1000 : Int) < (code.length : Int)) = false := by simp; omega
      have ly' : decide ((1000 : Int) < (l.length : Int)) = false := by simp; omega
      have WX := Lib.hid (wf_of_elsI hx); have WY := Lib.hid (wf_of_els hy)
      have HX := Lib.hid hx; have HY := Lib.hid hy; have S0 := Lib.hid s0; have S1 := Lib.hid s1
      clear hx hy s0 s1 hm1 hm2 hm3 hm4
      obtain ⟨i0, hi, hz0, hz1, hz2⟩ := info_parts Try.infoI
      have Hi := Lib.hid hi; have Hz0 := Lib.hid hz0; have Hz1 := Lib.hid hz1; have Hz2 := Lib.hid hz2; clear hi hz0 hz1 hz2
      obtain ⟨i2, hi, hz0, hz1, hz2⟩ := info_parts Try.infoP
      have Pi := Lib.hid hi; have Pz0 := Lib.hid hz0; have Pz1 := Lib.hid hz1; have Pz2 := Lib.hid hz2; clear hi hz0 hz1 hz2
      go_enter Try.func8, Try.ntmps8
      go_wp2_with fail
      refine (shown_any _).mono ?_
      rintro e w1 ⟨rfl, hB1⟩
      have hbs := hB1.size
      have Emp1 := Lib.hid (World.ownsRow_lit (e := 35) (size := 5) (base := w.heap.size) w1 #[] 0 hbs (Nat.zero_le _) rfl)
      have Src1 := Lib.hid (fun o => S0.out (w1.alloc o) (hB1.alloc hbs _))
      have HB1 := Lib.hid hB1; clear hB1
      go_wp2_with (first
        | (at_builtin; (refine wpList_append_src _ rfl _ _ 24 rfl w.heap.size 35 i0 _ 5 8 Try.underlying24 Hi.out Hz0.out Hz1.out Hz2.out rfl (by decide) _ 0 _ rfl Emp1.out _ code.length _ rfl (Src1.out _) (by rw [flatMap_len (n := 5) (fun _ => rfl)]) (by intro z hz; obtain ⟨p, _, hp⟩ := List.mem_flatMap.1 hz; exact insRep_one p z hp) (by unfold maxLen; omega) (by omega) (by simp; omega) ?_); intro vo wo hown1 hg1 _; have hBo : Hid (Below w.heap.size w wo) := Lib.hid ((HB1.out.alloc hbs _).grown hg1 (by simp; omega) (fun j hj => by cases hj; exact hbs)); have Ho1 : Hid (RowIns w.heap.size wo vo code) := Lib.hid (by simpa [RowIns] using hown1); have hbo := hBo.out.size; have Emp2 := Lib.hid (World.ownsRow_lit (e := 37) (size := 7) (base := w.heap.size) wo #[] 0 hbo (Nat.zero_le _) rfl); have Src2 := Lib.hid (fun o => S1.out (wo.alloc o) (hBo.out.alloc hbo _)); clear hown1 hg1)
        | (at_builtin; (refine wpList_append_src _ rfl _ _ 22 rfl w.heap.size 37 i2 _ 7 24 Try.underlying22 Pi.out Pz0.out Pz1.out Pz2.out rfl (by decide) _ 0 _ rfl Emp2.out _ l.length _ rfl (Src2.out _) (by rw [flatMap_len len_enc]) (by intro z hz; obtain ⟨p, _, hp⟩ := List.mem_flatMap.1 hz; exact pieceRep_one p z hp) (by unfold maxLen; omega) (by omega) (by simp; omega) ?_); intro vp wp hown2 hg2 _; have hBp : Hid (Below w.heap.size w wp) := Lib.hid ((hBo.out.alloc hbo _).grown hg2 (by simp; omega) (fun j hj => by cases hj; exact hbo)); have Hp1 : Hid (RowP w.heap.size wp vp l) := Lib.hid (by simpa [RowP] using hown2); have Ho2 : Hid (RowIns w.heap.size wp vo code) := Lib.hid (((World.ownsRow.alloc Ho1.out _).kept hg2 (.inr (fun e => by have := (World.ownsRow.lt Ho1.out wo.heap.size (by rw [e]; rfl)).2; omega))))))
      obtain ⟨ao, co, rfl, _, _, _, heo⟩ := RowIns.sl Ho2.out WX.out
      obtain ⟨ap, cp, rfl, hlp, hcp, hnp, hep⟩ := RowP.sl Hp1.out WY.out
      have hslp : pieceRep.Sl wp (.slice ap l.length cp) l := ⟨_, _, rfl, hlp, hcp, hnp, hep⟩
      have EO := Lib.hid heo; have EP := Lib.hid hep; have SP := Lib.hid hslp; clear heo hep hslp hnp Ho1 Ho2 Hp1 Emp1 Src1 Emp2 Src2 HB1 hbs hBo hbo
      have hz1 : l.length / 2 ≤ cp := by omega
      have hz2 : (l.length : Int) / 2 ≤ (cp : Int) := by omega
      have hz3 : (0 : Int) ≤ (l.length : Int) / 2 := by omega
      have hq := unlink_any wp ao co code (by unfold maxLen; omega) EO.out
      generalize unlinkS code = u at hq
      obtain ⟨la, ea⟩ := u
      refine hq.mono ?_
      rintro e w4 ⟨⟨va, rfl, hra⟩, hb4⟩
      clear hq
      obtain ⟨aa, ca, rfl, hla⟩ := own_form hra
      have RA : Hid (SomeP wp.heap.size la.length w4 (.slice aa la.length ca)) := Lib.hid ⟨la, rfl, hra⟩
      have GA : Hid (∀ g, (Value.slice aa la.length ca).ownBlock = some g → g < w4.heap.size) := Lib.hid fun g hg => (World.ownsRow.lt hra g hg).2
      have HB4 := Lib.hid hb4; clear hb4 hra
      dsimp only
      go_wp2_with fail
      have htl : (l.take (l.length / 2)).length = l.length / 2 := by simp; omega
      have hj := join_any w4 ap ap cp cp (l.take (l.length / 2)) l (by omega) (by omega) (by rw [htl]; exact Sl.take (SP.out.below pieceRep HB4.out (Nat.le_refl _)) _ (by omega)) (SP.out.below pieceRep HB4.out (Nat.le_refl _))
      rw [htl] at hj
      clear htl
      generalize joinS (l.take (l.length / 2)) l = lb at hj
      refine hj.mono ?_
      rintro e w5 ⟨vb, rfl, hrb, hb5⟩
      clear hj
      obtain ⟨ab, cb, rfl, hlb⟩ := own_form hrb
      have RB : Hid (SomeP w4.heap.size lb.length w5 (.slice ab lb.length cb)) := Lib.hid ⟨lb, rfl, hrb⟩
      have GB : Hid (∀ g, (Value.slice ab lb.length cb).ownBlock = some g → g < w5.heap.size) := Lib.hid fun g hg => (World.ownsRow.lt hrb g hg).2
      have RA5 := Lib.hid (RA.out.kept hb5)
      have HB5 := Lib.hid (bNext hb5 HB4.out)
      have hs5 := hb5.size
      clear hb5 hrb RA
      go_wp2_with fail
      have hq := link_any w5 ap cp l (by unfold maxLen; omega) (EP.out.below pieceRep HB5.out (Nat.le_refl _))
      generalize linkS l = u at hq
      obtain ⟨⟨lc, nc⟩, ec⟩ := u
      refine hq.mono ?_
      rintro e w6 ⟨⟨vc, rfl, hrc⟩, hb6⟩
      clear hq
      obtain ⟨ac, cc, rfl, hlc⟩ := own_form hrc
      have RC : Hid (SomeI w5.heap.size lc.length w6 (.slice ac lc.length cc)) := Lib.hid ⟨lc, rfl, hrc⟩
      have RA6 := Lib.hid (RA5.out.kept hb6); have RB6 := Lib.hid (RB.out.kept hb6)
      have HB6 := Lib.hid (bNext hb6 HB5.out)
      have hs4 := HB4.out.size
      clear hb6 hrc RA5 RB
      dsimp only
      go_wp2_with fail
      go_loopw [53] (fun i wr => ∃ k : Nat, k ≤ la.length ∧ i = .int .i64 k ∧ SomeP wp.heap.size la.length wr (.slice aa la.length ca) ∧ SomeP w4.heap.size lb.length wr (.slice ab lb.length cb) ∧ SomeI w5.heap.size lc.length wr (.slice ac lc.length cc) ∧ Below wp.heap.size wp wr) (fun i _ => la.length - (intOf i).toNat)
      case atStart => exact ⟨0, Nat.zero_le _, rfl, RA6.out, RB6.out, RC.out, HB6.out⟩
      case round =>
        obtain ⟨k, hk, rfl, hra, hrb, hrc, hB⟩ := hrel
        by_cases hlt : k < la.length
        · obtain ⟨l', hl', hr⟩ := hra
          have hi : k < l'.length := by omega
          obtain ⟨g, cap, eg, hg0, hg1, hg2, hg3⟩ := flat_form hr (by omega)
          rw [hl'] at eg
          cases eg
          have hgB : g < w4.heap.size := GA.out g rfl
          have cm : wr.cell? ⟨g, k * 7 + 1, none⟩ = some (.int .u8 l'[k].ins.op) := RowP.cell hr hl'.symm hi (j := 1) (by omega)
          have fm := RowP.frozen hr hl'.symm (k * 7 + 1)
          have Hset := Lib.hid (RowP.set hr hl'.symm hi (j := 1) (by omega) (.int .u8 77) _ (pieceSet _))
          have hz0 : (0 : Int) ≤ (k : Int) := by omega
          have hz1 : (k : Int) < (la.length : Int) := by omega
          have Hb := Lib.hid hrb; have Hc := Lib.hid hrc; have HB := Lib.hid hB; have Hl' := Lib.hid hl'
          clear hr hrb hrc hB hl'
          go_wp2_with fail
          go_roundw
          case rel => exact ⟨k + 1, by omega, by go_num, ⟨_, by rw [List.length_set]; exact Hl'.out, Hset.out⟩, Hb.out.other (by exact hgB) _, Hc.out.other (by show g < _; omega) _, HB.out.setCell (by exact hg0) _⟩
          case measure => simp [intOf]; omega
        · obtain rfl : k = la.length := by omega
          have Hb := Lib.hid hrb; have Hc := Lib.hid hrc; have HB := Lib.hid hB
          clear hra hrb hrc hB
          go_wp2_with fail
          go_loopw [64] (fun i wr => ∃ k : Nat, k ≤ lb.length ∧ i = .int .i64 k ∧ SomeP w4.heap.size lb.length wr (.slice ab lb.length cb) ∧ SomeI w5.heap.size lc.length wr (.slice ac lc.length cc) ∧ Below wp.heap.size wp wr) (fun i _ => lb.length - (intOf i).toNat)
          case atStart => exact ⟨0, Nat.zero_le _, rfl, Hb.out, Hc.out, HB.out⟩
          case round =>
            obtain ⟨k, hk, rfl, hrb, hrc, hB⟩ := hrel
            by_cases hlt : k < lb.length
            · obtain ⟨l', hl', hr⟩ := hrb
              have hi : k < l'.length := by omega
              obtain ⟨g, cap, eg, hg0, hg1, hg2, hg3⟩ := flat_form hr (by omega)
              rw [hl'] at eg
              cases eg
              have hgB : g < w5.heap.size := GB.out g rfl
              have cm : wr.cell? ⟨g, k * 7, none⟩ = some (.int .i64 l'[k].mark) := RowP.cell hr hl'.symm hi (j := 0) (by omega)
              have fm := RowP.frozen hr hl'.symm (k * 7)
              have Hset := Lib.hid (RowP.set hr hl'.symm hi (j := 0) (by omega) (.int .i64 (-7)) _ (pieceSet2 _))
              have hz0 : (0 : Int) ≤ (k : Int) := by omega
              have hz1 : (k : Int) < (lb.length : Int) := by omega
              have Hc := Lib.hid hrc; have HB := Lib.hid hB; have Hl' := Lib.hid hl'
              clear hr hrc hB hl'
              go_wp2_with fail
              go_roundw
              case rel => exact ⟨k + 1, by omega, by go_num, ⟨_, by rw [List.length_set]; exact Hl'.out, Hset.out⟩, Hc.out.other (by exact hgB) _, HB.out.setCell (by show wp.heap.size ≤ g; omega) _⟩
              case measure => simp [intOf]; omega
            · obtain rfl : k = lb.length := by omega
              have Hc := Lib.hid hrc; have HB := Lib.hid hB
              clear hrb hrc hB
              go_wp2_with fail
              go_loopw [74] (fun i wr => ∃ k : Nat, k ≤ lc.length ∧ i = .int .i64 k ∧ SomeI w5.heap.size lc.length wr (.slice ac lc.length cc) ∧ Below wp.heap.size wp wr) (fun i _ => lc.length - (intOf i).toNat)
              case atStart => exact ⟨0, Nat.zero_le _, rfl, Hc.out, HB.out⟩
              case round =>
                obtain ⟨k, hk, rfl, hrc, hB⟩ := hrel
                by_cases hlt : k < lc.length
                · obtain ⟨l', hl', hr⟩ := hrc
                  have hi : k < l'.length := by omega
                  obtain ⟨g, cap, eg, hg0, hg1, hg2, hg3⟩ := flat_form hr (by omega)
                  rw [hl'] at eg
                  cases eg
                  have cm : wr.cell? ⟨g, k * 5, none⟩ = some (.int .u8 l'[k].op) := RowIns.cell hr hl'.symm hi (j := 0) (by omega)
                  have fm := RowIns.frozen hr hl'.symm (k * 5)
                  have Hset := Lib.hid (RowIns.set hr hl'.symm hi (j := 0) (by omega) (.int .u8 78) _ (insSet _))
                  have hz0 : (0 : Int) ≤ (k : Int) := by omega
                  have hz1 : (k : Int) < (lc.length : Int) := by omega
                  have HB := Lib.hid hB; have Hl' := Lib.hid hl'
                  clear hr hB hl'
                  go_wp2_with fail
                  go_roundw
                  case rel => exact ⟨k + 1, by omega, by go_num, ⟨_, by rw [List.length_set]; exact Hl'.out, Hset.out⟩, HB.out.setCell (by show wp.heap.size ≤ g; omega) _⟩
                  case measure => simp [intOf]; omega
                · obtain rfl : k = lc.length := by omega
                  have HB := Lib.hid hB
                  have HBB := Lib.hid (bNext hB hBp.out)
                  clear hrc hB
                  go_wp2_with fail
                  refine (codes_any wr ao a co c code code (by unfold maxLen; omega) (by unfold maxLen; omega) (EO.out.below insRep HB.out (Nat.le_refl _)) (HX.out.below insRep HBB.out (Nat.le_refl _))).mono ?_
                  rintro e w7 ⟨he, n7, rfl⟩
                  rw [show sameL code code = true from by simp [sameL]] at he
                  subst he
                  go_wp2_with fail
                  refine (pieces_any _ ap b cp d l l (by unfold maxLen; omega) (by unfold maxLen; omega) (EP.out.below pieceRep (HB.out.trans (Below.drewN _ n7)) (Nat.le_refl _)) (HY.out.below pieceRep (HBB.out.trans (Below.drewN _ n7)) (Nat.le_refl _))).mono ?_
                  rintro e w8 ⟨he, n8, rfl⟩
                  rw [show sameL l l = true from by simp [sameL]] at he
                  subst he
                  go_wp2_with fail
                  go_ret
                  exact ⟨rfl, HBB.out.trans (Below.drewN _ _)⟩
    · have ly' : decide ((1000 : Int) < (l.length : Int)) = true := by simp; omega
      have lx' : decide ((1000 : Int) < (code.length : Int)) = false := by simp; omega
      go_enter Try.func8, Try.ntmps8
      go_wp2_with fail
      refine (shown_any _).mono ?_
      rintro e w1 ⟨rfl, hB1⟩
      go_wp2_with fail
      go_ret
      exact ⟨rfl, hB1⟩
  · have lx' : decide ((1000 : Int) < (code.length : Int)) = true := by simp; omega
    go_enter Try.func8, Try.ntmps8
    go_wp2_with fail
    refine (shown_any _).mono ?_
    rintro e w1 ⟨rfl, hB1⟩
    go_wp2_with fail
    go_ret
    exact ⟨rfl, hB1⟩

set_option maxRecDepth 100000 in
theorem LinkNew_lifted (os : Os) (started : os.Started) (H : Type) (enc : TypeId × Value → H) :
    ReturnsInHanded {} Try.checked os 8 .any (Rows.linkNewSpec.pre6 enc Try.prog Try.f8 Rows.linkNewRow.domain false) (Rows.linkNewSpec.post enc Try.prog Try.f8 false true false false) := by
  refine returnsInHanded_of_change (C := Try.checked) own started (by kernel_rfl) Try.func8
    (ChangeSpec.witness6 (enc := enc) (C := Try.checked) false ⟨#[], #[.slice none 0 0, .slice none 0 0], []⟩ 8 (by kernel_rfl) (by kernel_rfl) (by kernel_rfl) (by kernel_rfl)) ?_
  intro W base args ds gs before hval0 hW hcnd _
  have hval : ∀ (j : Nat) t v, Try.f8.params[j]? = some t → args[j]? = some v → Value.okWide Try.prog W .any base t v := hval0
  have hW' := hW
  obtain ⟨p, q, hA0, hV, rfl, hfz, hnd⟩ := hW
  have hA : DataW.TrodAll enc Try.prog W 0 (fun _ => true) true Try.f8.params.toList args.toList ds p := hA0
  rw [Try.params8] at hA hval
  obtain ⟨v0, vs0, d0, ds0, p0, q0, hargs, rfl, rfl, h0, r0⟩ := trodAll_cons hA
  obtain ⟨v1, vs1, d1, ds1, p1, q1, rfl, rfl, rfl, h1, r1⟩ := trodAll_cons r0
  obtain ⟨rfl, rfl, rfl⟩ := trodAll_nil r1
  obtain rfl : args = #[v0, v1] := by cases args; simp_all
  obtain ⟨rfl, rfl⟩ := trodVars_none hV
  have k0 := h0
  have lt0 : ∀ x ∈ p0, x.block < W.heap.size := by obtain ⟨m, hm⟩ := k0; exact DataW.trod_lt m _ _ _ hm
  obtain ⟨xs0, s0⟩ := opens_sl Try.underlying24 opens_inss (hval 0 24 v0 rfl rfl) h0
  have k1 := h1
  have lt1 : ∀ x ∈ p1, x.block < W.heap.size := by obtain ⟨m, hm⟩ := k1; exact DataW.trod_lt m _ _ _ hm
  obtain ⟨xs1, s1⟩ := opens_sl Try.underlying22 opens_pieces (hval 1 22 v1 rfl rfl) h1
  clear hA0 hval0
  refine (LinkNew_walk W v0 xs0 v1 xs1 s0 s1).mono fun e W' ⟨he, bel⟩ => ?_
  subst he
  exact ⟨_, rfl, _, _, _, [], _, [], hW', trodAll_mk1 (shut_bool Try.underlying4 _), (trodAll_cons_mk (Below.trod laidOut (by kernel_rfl) (of_decide_eq_true (by kernel_rfl)) k0 bel lt0) (trodAll_cons_mk (Below.trod laidOut (by kernel_rfl) (of_decide_eq_true (by kernel_rfl)) k1 bel lt1) trodAll_mk0)), rfl, bel.frame _, fun h => by cases h⟩

/-- The given statement. -/
theorem LinkNew_holds : Rows.LinkNewSaid :=
  OpenClaim.holds_of_wide 8 Try.f8 rfl rfl rfl rfl rfl rfl rfl ⟨rfl, rfl, rfl, rfl, rfl⟩ rfl rfl rfl rfl rfl (by kernel_rfl) Try.func8 (by kernel_rfl)
    (of_decide_eq_true (by kernel_rfl)) (by unfold Func.isWrapper; rw [if_neg (by decide +kernel)]; exact ⟨rfl, rfl⟩)
    (fun os started H enc _ => LinkNew_lifted os started H enc)
#print axioms LinkNew_holds
end Go.Proofs.Ytegjcghcknpjeaa
