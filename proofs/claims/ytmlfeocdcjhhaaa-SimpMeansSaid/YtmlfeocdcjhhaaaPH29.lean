import Derived.Test.YtmlfeocdcjhhaaaPH28
import Derived.Test.YtmlfeocdcjhhaaaPH1
namespace Go.Proofs.Ytmlfeocdcjhhaaa
set_option maxRecDepth 100000
open Go.RowKit
set_option linter.unusedVariables false
set_option linter.unusedSimpArgs false
attribute [local go_sem ↓] Go.wp_at_zero Go.wp_at_succ

theorem fold_err {D : List Int} {mem : List (List Int)} {ix : List Int} {s : Stp} {e : Int} {k : Nat} (h : foldR D mem ix s k = .error e) : ∀ j, foldR D mem ix s (k + j) = .error e
  | 0 => h
  | j + 1 => by
    rw [show k + (j + 1) = (k + j) + 1 from rfl, foldR, fold_err h j]
    rfl
set_option maxHeartbeats 16000000 in
theorem do2_any {wB : World} {B : Nat} {D : List Int} {s : Stp} {ks : List Int} {N : Nat} {x : SQ} {Q : Nat → Prop} {w : World} (mem : List (List Int)) (n : Nat) (last : Int) (hc : StepC wB B D s ks N x) (h : StepSt wB B D s ks N x Q w (mem, n, last)) (hw : s.how = 2) (ix : List Int) (G : Nat) (hat : AtRow w G ix) (hG : Q G) (hok : IxOk ks.dropLast ix) (hkne : ks ≠ []) :
    Calls Try.prog 79 #[.slice (some ⟨G, 0, none⟩) ix.length ix.length, .pointer (some ⟨x.sb, 0, none⟩), .pointer (some ⟨x.mb, 0, none⟩), .pointer (some ⟨x.lb, 0, none⟩), .pointer (some ⟨x.pb, 0, none⟩), .pointer (some ⟨x.kb, 0, none⟩)] w (DoE (StepSt wB B D s ks N x) Q w (turnR D s (ks.getLastD 0) (mem, n, last) ix)) := by
  obtain ⟨R, hR⟩ : ∃ R, turnR D s (ks.getLastD 0) (mem, n, last) ix = R := ⟨_, rfl⟩
  rw [hR]
  have hkl : 0 < ks.length := List.length_pos_iff.2 hkne
  have hlen : ix.length + 1 = ks.length := by rw [hok.1, List.length_dropLast]; omega
  have hkl4 : ks.length ≤ 4 := by rw [hc.ksl]; exact hc.loops4
  have hix := ix_in hok (fun k hk => hc.ksb k ((List.dropLast_sublist ks).subset hk))
  have hturn : ((foldR D mem ix s (ks.getLastD 0).toNat).bind fun v => (putR D s mem n v).map fun m => (m, n + 1, last)) = R := by
    rw [← hR]; unfold turnR; rw [if_pos hw]
  obtain ⟨u, hu⟩ : ∃ u, unitF s.fn = u := ⟨_, rfl⟩
  obtain ⟨n0, b0⟩ := u
  have hcl := fun W (hb : Below w.heap.size w W) => clone_any W (some ⟨G, 0, none⟩) ix.length ix (by omega) ((hat.row (by unfold maxLen; omega) (Nat.zero_le _)).slice.elim fun a ⟨c, e, _, hi⟩ => by cases e; exact hi.below hb (Nat.le_refl _))
  have s0 : w.cell? ⟨x.sb, 0, none⟩ = some (.int .i64 s.how) := by rw [cell_of_row w x.sb 0 _ _ _ h.sbx]; rfl
  have s4 : w.cell? ⟨x.sb, 4, none⟩ = some (.int .u8 s.fn) := by rw [cell_of_row w x.sb 4 _ _ _ h.sbx]; rfl
  have hI : (s.how != 2) = false := by simpa using hw
  have hqu := unit_at w s.fn n0 b0 hu
  have hgl : ∃ L : Nat, ks.getLastD 0 = L ∧ ks[ks.length - 1]? = some (L : Int) ∧ L ≤ 65536 := by
    have hm := hc.ksb _ (List.getElem_mem (l := ks) (n := ks.length - 1) (by omega))
    refine ⟨(ks[ks.length - 1]'(by omega)).toNat, ?_, by rw [List.getElem?_eq_getElem (by omega)]; congr 1; omega, by omega⟩
    rw [List.getLastD_eq_getLast?, List.getLast?_eq_getElem?, List.getElem?_eq_getElem (by omega)]
    show ks[ks.length - 1] = _
    omega
  obtain ⟨L, hL1, hL2, hL3⟩ := hgl
  rw [hL1, Int.toNat_natCast] at hturn
  obtain ⟨il, hil⟩ : ∃ n, ix.length = n := ⟨_, rfl⟩
  rw [hil] at hcl ⊢
  have hil4 : il ≤ 3 := by omega
  have HOLD := Lib.hid h.old; have HKQ := Lib.hid h.kQ
  have HC := Lib.hid hc; have H := Lib.hid h; have HT := Lib.hid hturn; have HAT := Lib.hid hat; have HIL := Lib.hid hil; have HG := Lib.hid hG; have HIX := Lib.hid hix; have HCL := Lib.hid hcl; have HQU := Lib.hid hqu; have HU := Lib.hid hu; have HL2 := Lib.hid hL2; have HLEN := Lib.hid hlen; have HKL4 := Lib.hid hkl4
  clear hc h hturn hat hil hG hok hix hR hcl hqu hu hL1 hL2 hw hkne hkl hlen hkl4
  go_enter Try.func79, Try.ntmps79
  go_upto_region 7 with (go_at_call 83; refine HQU.out.mono ?_; rintro e2 w2 ⟨rfl, nd, rfl⟩)
  have hst := H.out.out (Below.drewN w nd)
  have hbw : Below w.heap.size w (w.drewN nd) := Below.drewN w nd
  clear s0 s4
  obtain ⟨w2, hw2⟩ : ∃ W, w.drewN nd = W := ⟨_, rfl⟩
  rw [hw2] at hst hbw ⊢
  clear hw2
  have HST := Lib.hid hst; have HBW := Lib.hid hbw; have HCL2 := Lib.hid (HCL.out w2 hbw)
  clear hst hbw HCL H
  have hkx := cell_of_row w2 x.kb 0 _ _ _ HST.out.kbx
  go_upto_region 8 with (first | (go_at_call 44; refine HCL2.out.mono ?_; rintro e3 w3 ⟨⟨v3, rfl, hr3⟩, hb3⟩; obtain ⟨ra, rc, rfl⟩ := row_form hr3; rw [HIL.out] at hr3 ⊢) | (at_builtin; refine push_row rfl _ _ rfl _ ix rfl (by exact World.ownsRow.alloc hr3 _) rfl (World.alloc_heap_new _ _) (by rw [HIL.out]; omega) (by have := hb3.size; simp; omega) ?_; intro a' c' w' hr' hg' _))
  obtain ⟨A, c2, eA⟩ := hr'.head (by simp)
  cases eA
  have hA := World.ownsRow.lt hr' A rfl
  have hb4 : Below w2.heap.size w2 w' := (hb3.alloc hb3.size _).grown hg' (by have := hb3.size; simp; omega) (fun g hg => (World.ownsRow.lt hr3 g hg).1)
  have hst4 := HST.out.more HC.out hA.1 hA.2 hb4
  have hl2 : (ix ++ [(0 : Int)]).length = il + 1 := by rw [List.length_append, HIL.out]; rfl
  rw [hl2] at hr'
  have hkb4 : KB (fun g => ¬ Q g) w w' := KB.of_below (HBW.out.trans (hb4.mono HBW.out.size)) (fun g h1 h2 => absurd h2 (by omega))
  have hAB : B ≤ A := Nat.le_trans HST.out.hB hA.1
  have hAQ : ¬ Q A := fun h => by have := HST.out.mac.lt A (.inl h); omega
  have hkil : ks.length = il + 1 := by rw [← HIL.out]; exact HLEN.out.symm
  obtain ⟨kb5, ko5, ekx, hki⟩ := hst4.kint il (by omega)
  have hgk : ks[il]'(by omega) = (L : Int) := by
    have := HL2.out
    rw [show ks.length - 1 = il by omega, List.getElem?_eq_getElem (by omega)] at this
    injection this
  rw [hgk] at hki
  have hkx := cell_of_row w' x.kb 0 _ _ _ hst4.kbx
  rw [ekx] at hkx
  have HR := Lib.hid hr'; have HS4 := Lib.hid hst4; have HKB := Lib.hid hkb4; have HAB := Lib.hid hAB; have HAQ := Lib.hid hAQ
  rw [hkil] at hkx
  rw [HIL.out]
  clear hr' hst4 hkb4 hAB hAQ hr3 hb3 hb4 hg' HST HBW HCL2 hl2 hgk hA ekx hkil
  go_wp2_with fail
  go_loopw [8, 61] (fun v k wr => ∃ (kk : Nat) (vv z : Int), k = .int .i64 kk ∧ v = .int .i64 vv ∧ kk ≤ L ∧ foldR D mem ix s kk = .ok vv ∧ In64 vv ∧ RowI w2.heap.size wr (.slice (some ⟨A, 0, none⟩) (il + 1) c') (ix ++ [z]) ∧ StepSt wB B D s ks N x (fun y => Q y ∨ y = A) wr (mem, n, last) ∧ KB (fun g => ¬ Q g) w wr) (fun _ k _ => L - (intOf k).toNat)
  case atStart => exact ⟨0, n0, 0, rfl, rfl, Nat.zero_le _, by show Except.ok (unitF s.fn).1 = _; rw [HU.out], by have := unit_in s.fn; rw [HU.out] at this; exact this, HR.out, HS4.out, HKB.out⟩
  case round =>
    obtain ⟨kk, vv, z, rfl, rfl, hkL, hfo, hv64, hrw, hst, hkb⟩ := hrel
    by_cases hlt : kk < L
    · have hzl : (ix ++ [z]).length = il + 1 := by rw [List.length_append, HIL.out]; rfl
      obtain ⟨a9, c9, e9, -, hi9⟩ := hrw.slice
      injection e9 with q1 q2 q3
      obtain ⟨b8, o8, e8, y0⟩ := hi9 il (by rw [hzl]; omega)
      rw [← q1] at e8
      cases e8
      rw [Nat.zero_add] at y0
      obtain ⟨zz, hzz⟩ : ∃ zz, (ix ++ [z])[il]'(by rw [hzl]; omega) = zz := ⟨_, rfl⟩
      rw [hzz] at y0
      obtain ⟨cur, hcur⟩ := own_typed hrw rfl
      have hf := frozen_of_row wr A il _ _ hcur
      have hset : (ix ++ [z]).set il (kk : Int) = ix ++ [(kk : Int)] := by
        rw [List.set_append_right _ _ (by rw [HIL.out]; exact Nat.le_refl _), HIL.out, Nat.sub_self]
        rfl
      have hrw2 : RowI w2.heap.size (wr.setCell ⟨A, il, none⟩ (.int .i64 kk)) (.slice (some ⟨A, 0, none⟩) (il + 1) c') (ix ++ [(kk : Int)]) := by
        have h1 := hrw
        rw [← hzl] at h1
        have h2 := h1.setJ il (kk : Int)
        rw [hset, hzl] at h2
        exact h2
      have hst2 := hst.set HC.out (g := A) (k := il) (u := .int .i64 kk) (.inr rfl) HAB.out
      have hkb2 := hkb.setCell (p := ⟨A, il, none⟩) (fun _ => HAQ.out) (.int .i64 (kk : Int))
      have HRW := Lib.hid hrw2; have HST := Lib.hid hst2; have HKB := Lib.hid hkb2; have HFO := Lib.hid hfo; have HV := Lib.hid hv64
      clear hzz q1 q2 q3 hrw hi9 hcur hset hrw2 hst2 hkb2 hkb hst hfo hv64 hzl HR HS4 hkx hki
      have hk6 : kk ≤ 65536 := by omega
      go_upto_region 12 with fail
      obtain ⟨w5, hw5⟩ : ∃ W, wr.setCell ⟨A, il, none⟩ (.int .i64 (kk : Int)) = W := ⟨_, rfl⟩
      rw [hw5] at HRW HST HKB ⊢
      clear hw5 y0 hf
      have hlk : (ix ++ [(kk : Int)]).length = il + 1 := by rw [List.length_append, HIL.out]; rfl
      have hmn : mem.length = N := HST.out.memN
      have hsl : il + 1 = s.loops.length := by rw [← HC.out.ksl, ← HLEN.out, HIL.out]
      have hat : RowI 0 w5 (.slice (some ⟨A, 0, none⟩) (ix ++ [(kk : Int)]).length c') (ix ++ [(kk : Int)]) := by rw [hlk]; exact own_mono HRW.out (Nat.zero_le _)
      have hops := ops_any wB w5 (fun g => (Q g ∨ g = A) ∨ x.own g) x.M x.q D x.vals mem (some ⟨A, 0, none⟩) c' (ix ++ [(kk : Int)]) x.oa x.oc s.ops (HST.out.oin HC.out hat (fun g e => by cases e; exact .inr rfl)) HC.out.ops HC.out.dep HC.out.opsl (fun o ho => by rw [hlk, hsl, hmn]; exact HC.out.opk o ho) (fun i hi => by
        rcases List.mem_append.1 hi with hi | hi
        · exact HIX.out i hi
        · obtain rfl := List.mem_singleton.1 hi; unfold In64; omega) HST.out.memI HC.out.dimsB HC.out.dimsl
      obtain ⟨r, hr⟩ : ∃ r, opsM D mem (ix ++ [(kk : Int)]) s.ops = r := ⟨_, rfl⟩
      rw [hr, hlk] at hops
      have hnext : foldR D mem ix s (kk + 1) = r.bind fun x => if kk = 0 then .ok x else mustR (dyadF s.fn vv x) := by
        rw [foldR, HFO.out]
        show (opsM D mem (ix ++ [(kk : Int)]) s.ops).bind _ = _
        rw [hr]
      have m0 := cell_of_row w5 x.mb 0 _ _ _ HST.out.mbx
      have s5 : w5.cell? ⟨x.sb, 5, none⟩ = some (.slice x.oa s.ops.length x.oc) := by rw [cell_of_row w5 x.sb 5 _ _ _ HST.out.sbx]; rfl
      obtain ⟨ol, hol⟩ : ∃ n, s.ops.length = n := ⟨_, rfl⟩
      rw [hol] at hops s5
      have HOPS := Lib.hid hops; have HNX := Lib.hid hnext
      clear hops hnext hol hr hat hsl hmn hlk
      have hbad : ∀ e, foldR D mem ix s (kk + 1) = .error e → R = .error e := fun e he => by
        have h1 := fold_err he (L - (kk + 1))
        rw [show kk + 1 + (L - (kk + 1)) = L from by omega] at h1
        rw [← HT.out, h1]
        rfl
      have HBAD := Lib.hid hbad
      clear hbad
      cases r with
      | error e =>
        obtain rfl : R = .error e := HBAD.out e HNX.out
        unfold OpsE endV panE at HOPS
        dsimp only at HOPS
        go_wp2_with (go_at_call 80; refine HOPS.out.mono ?_; rintro e1 w6 ⟨rfl, hk6', -⟩)
        exact ⟨rfl, rfl, HKB.out.trans (hk6'.mono fun g _ h e => h (.inl (.inl e)))⟩
      | ok xv =>
        unfold OpsE endV at HOPS
        dsimp only at HOPS
        go_upto_region 13 with (go_at_call 80; refine HOPS.out.mono ?_; rintro e1 w6 ⟨rfl, hk6', hm6⟩)
        obtain ⟨hm6, hx64⟩ := hm6 xv rfl
        obtain ⟨hst6, hkb6⟩ := HST.out.ops hk6' hm6
        have hrw6 := hkb6.row HRW.out (fun g hg h => h (.inr (by cases hg; rfl)))
        have HST := Lib.hid hst6; have HKB := Lib.hid (HKB.out.trans (hkb6.mono fun g _ h e => h (.inl e))); have HRW := Lib.hid hrw6; have HX := Lib.hid hx64
        clear hst6 hkb6 hrw6 hx64 hk6' hm6 m0 s5 HOPS
        by_cases h0 : kk = 0
        · subst h0
          have hn : foldR D mem ix s (0 + 1) = .ok xv := by rw [HNX.out]; rfl
          have HN := Lib.hid hn
          clear hn
          go_wp2_with fail
          go_roundw
          case rel => exact ⟨1, xv, ((0 : Nat) : Int), by go_num, rfl, by omega, HN.out, HX.out, HRW.out, HST.out, HKB.out⟩
          case measure => simp [intOf] <;> omega
        · have hkp : 0 < kk := by omega
          have hkq : (0 : Int) < (kk : Int) := by omega
          obtain ⟨r2, hr2⟩ : ∃ r, dyadF s.fn vv xv = r := ⟨_, rfl⟩
          obtain ⟨n1, e1⟩ := r2
          have hn64 : In64 n1 := by have := dyad_in (f := s.fn) HV.out HX.out; rw [hr2] at this; exact this
          have hn : foldR D mem ix s (kk + 1) = mustR (n1, e1) := by
            rw [HNX.out]
            show (if kk = 0 then _ else _) = _
            rw [if_neg h0, hr2]
          have HQD := Lib.hid (dyad_at w6 s.fn vv xv n1 e1 HV.out HX.out hr2)
          have HN64 := Lib.hid hn64; have HN := Lib.hid hn
          have s4 : w6.cell? ⟨x.sb, 4, none⟩ = some (.int .u8 s.fn) := by rw [cell_of_row w6 x.sb 4 _ _ _ HST.out.sbx]; rfl
          clear hr2 hn64 hn h0
          have hm := fun W => must_any W n1 e1
          cases hmu : mustR (n1, e1) with
          | error ee =>
            obtain rfl : R = .error ee := HBAD.out ee (by rw [HN.out, hmu])
            simp only [hmu] at hm
            unfold endV panE at hm
            dsimp only at hm
            have HM := Lib.hid hm
            clear hmu hm
            go_wp2_with (first | (go_at_call 82; refine HQD.out.mono ?_; rintro e2 w7 ⟨rfl, nd, hnd⟩) | (go_at_call 81; refine (HM.out _).mono ?_; rintro e3 w3 ⟨rfl, rfl⟩))
            exact ⟨rfl, rfl, HKB.out.drewN _⟩
          | ok y2 =>
            obtain rfl : y2 = n1 := by
              unfold mustR at hmu
              split at hmu
              · cases hmu; rfl
              · cases hmu
            have HN2 : Hid (foldR D mem ix s (kk + 1) = .ok y2) := Lib.hid (by rw [HN.out, hmu])
            simp only [hmu] at hm
            unfold endV at hm
            dsimp only at hm
            have HM := Lib.hid hm
            clear hmu hm
            go_upto_region 16 with (first | (go_at_call 82; refine HQD.out.mono ?_; rintro e2 w7 ⟨rfl, nd, hnd⟩) | (go_at_call 81; refine (HM.out _).mono ?_; rintro e3 w3 ⟨rfl, rfl⟩))
            have hst7 := HST.out.out (Below.drewN w6 nd); have hkb7 := HKB.out.drewN nd
            have hrw7 : RowI w2.heap.size (w6.drewN nd) (.slice (some ⟨A, 0, none⟩) (il + 1) c') (ix ++ [(kk : Int)]) := own_keep HRW.out (KeepTy.below (Below.drewN w6 nd))
            have HST := Lib.hid hst7; have HKB := Lib.hid hkb7; have HRW := Lib.hid hrw7
            clear hst7 hkb7 hrw7 s4
            go_wp2_with fail
            go_roundw
            case rel => exact ⟨kk + 1, y2, (kk : Int), by go_num, rfl, by omega, HN2.out, HN64.out, HRW.out, HST.out, HKB.out⟩
            case measure => simp [intOf] <;> omega
    · obtain rfl : kk = L := by omega
      have hgo : ((putR D s mem n vv).map fun m => (m, n + 1, last)) = R := by
        have := HT.out
        rw [hfo] at this
        exact this
      have HGO := Lib.hid hgo; have HST := Lib.hid hst; have HKB := Lib.hid hkb; have HV64 := Lib.hid hv64
      have HQ := Lib.hid (put_any mem n last HC.out hst vv hv64)
      have p0 : wr.cell? ⟨x.pb, 0, none⟩ = some (putF x) := by rw [cell_of_row wr x.pb 0 _ _ _ hst.pbx]; rfl
      unfold putF at p0
      clear hst hkb hv64 hrw hgo HR HS4 hkx hki
      go_wp2_with fail
      refine HQ.out.mono ?_
      rintro e w9 hdo
      cases hp : putR D s mem n vv with
      | error e9 =>
        rw [hp] at hdo
        obtain ⟨rfl, hk9⟩ := hdo
        obtain rfl : R = .error e9 := by rw [← HGO.out, hp]; rfl
        unfold panE
        go_wp2_with fail
        exact ⟨rfl, rfl, HKB.out.trans (hk9.mono fun g _ h e => h (.inl e))⟩
      | ok m9 =>
        rw [hp] at hdo
        obtain ⟨rfl, hs9, hk9⟩ := hdo
        obtain rfl : R = .ok (m9, n + 1, last) := by rw [← HGO.out, hp]; rfl
        go_wp2_with fail
        go_end0
        exact ⟨rfl, hs9.less (fun g h => .inl h) HOLD.out HKQ.out, HKB.out.trans (hk9.mono fun g _ h e => h (.inl e))⟩
end Go.Proofs.Ytmlfeocdcjhhaaa

namespace Go.Proofs.Ytmlfeocdcjhhaaa
set_option maxRecDepth 100000
open Go.RowKit
set_option linter.unusedVariables false
set_option linter.unusedSimpArgs false
attribute [local go_sem ↓] Go.wp_at_zero Go.wp_at_succ

theorem do_any {wB : World} {B : Nat} {D : List Int} {s : Stp} {ks : List Int} {N : Nat} {x : SQ} {Q : Nat → Prop} {w : World} (st : List (List Int) × Nat × Int) (hc : StepC wB B D s ks N x) (h : StepSt wB B D s ks N x Q w st) (ix : List Int) (G : Nat) (hat : AtRow w G ix) (hG : Q G) (hok : IxOk (outerI s ks) ix) (hne : s.how ≠ 1 → ks ≠ []) :
    Calls Try.prog 79 #[.slice (some ⟨G, 0, none⟩) ix.length ix.length, .pointer (some ⟨x.sb, 0, none⟩), .pointer (some ⟨x.mb, 0, none⟩), .pointer (some ⟨x.lb, 0, none⟩), .pointer (some ⟨x.pb, 0, none⟩), .pointer (some ⟨x.kb, 0, none⟩)] w (DoE (StepSt wB B D s ks N x) Q w (turnR D s (ks.getLastD 0) st ix)) := by
  obtain ⟨mem, n, last⟩ := st
  by_cases hw : s.how = 2
  · unfold outerI at hok
    rw [if_pos hw] at hok
    exact do2_any mem n last hc h hw ix G hat hG hok (hne (by omega))
  · unfold outerI at hok
    rw [if_neg hw] at hok
    refine do1_any mem n last hc h hw ix G hat hG hok _ (fun h3 => ?_)
    rw [hok.1]
    exact List.length_pos_iff.2 (hne (by omega))
theorem turns_runX {D : List Int} {s : Stp} {l1 : Int} : ∀ (l : List (List Int)) (st : List (List Int) × Nat × Int), turnsR D s l1 l st = runX (fun ix st => turnR D s l1 st ix) l st
  | [], st => rfl
  | ix :: r, st => by
    rw [turnsR, runX]
    congr 1
    funext st'
    exact turns_runX r st'
end Go.Proofs.Ytmlfeocdcjhhaaa
