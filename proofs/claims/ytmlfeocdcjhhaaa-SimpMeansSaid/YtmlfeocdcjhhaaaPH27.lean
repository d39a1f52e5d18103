import Derived.Test.YtmlfeocdcjhhaaaPH25
namespace Go.Proofs.Ytmlfeocdcjhhaaa
set_option maxRecDepth 100000
open Go.RowKit
set_option linter.unusedVariables false
set_option linter.unusedSimpArgs false
attribute [local go_sem ↓] Go.wp_at_zero Go.wp_at_succ

/-- what a loop's number does to the turns -/
def turnN (n k : Int) : Int := min ((if k = 0 then 0 else n) * k) 4194304
theorem turnN_bd {n k : Int} (h0 : 0 ≤ n) (h1 : n ≤ 4194304) (hk : 0 ≤ k) : 0 ≤ turnN n k ∧ turnN n k ≤ 4194304 := by
  unfold turnN
  have : 0 ≤ (if k = 0 then 0 else n) * k := Int.mul_nonneg (by split <;> omega) hk
  omega
theorem mul_bdC {n k : Int} (h0 : 0 ≤ n) (h1 : n ≤ 4194304) (hk : 0 ≤ k) (hk2 : k ≤ 65537) : 0 ≤ n * k ∧ n * k ≤ 274882101248 := by
  have h2 : n * k ≤ 4194304 * 65537 := Int.mul_le_mul h1 hk2 hk (by decide)
  exact ⟨Int.mul_nonneg h0 hk, h2⟩
def CountE (w : World) (M : Nat) (q : MQ) (D : List Int) (v : Value) (r : Ex (List Int × Int)) (x : Ending) (w' : World) : Prop := match r with
  | .error e => x = panE e ∧ KB (fun g => g = M) w w'
  | .ok kn => KB (fun g => g = M) w w' ∧ w'.heap[M]? = some (.cells (({ q with t := q.t + kn.2 } : MQ).row D v) 82 (0, 0)) ∧
      if 2097152 < q.t + kn.2 then x = panE 122 else ∃ a c, x = .returned (.slice a kn.1.length c) ∧ RowI w.heap.size w' (.slice a kn.1.length c) kn.1
theorem count_drop {D : List Int} {fold : Bool} {l : List (List Mono)} {i : Nat} (hi : i < l.length) (n k : Int) (hv : valR D l[i] 122 = .ok k) (hk : ¬ 65536 < k) (k' : Int) (hk' : k' = if fold = true ∧ i + 1 = l.length then k + 1 else k) :
    countR D fold (l.drop i) n = (countR D fold (l.drop (i + 1)) (turnN n k')).map fun q => (k :: q.1, q.2) := by
  rw [List.drop_eq_getElem_cons hi, countR, hv]
  show (if 65536 < k then _ else _) = _
  rw [if_neg hk]
  have he : (fold && (l.drop (i + 1)).isEmpty) = true ↔ (fold = true ∧ i + 1 = l.length) := by
    rw [Bool.and_eq_true, List.isEmpty_iff, List.drop_eq_nil_iff]
    constructor
    · rintro ⟨h1, h2⟩; exact ⟨h1, by omega⟩
    · rintro ⟨h1, h2⟩; exact ⟨h1, by omega⟩
  have hk2 : (if (fold && (l.drop (i + 1)).isEmpty) = true then k + 1 else k) = k' := by
    rw [hk']
    by_cases h : fold = true ∧ i + 1 = l.length
    · rw [if_pos h, if_pos (he.2 h)]
    · rw [if_neg h, if_neg (fun e => h (he.1 e))]
  rw [hk2]
  rfl
theorem count_bad {D : List Int} {fold : Bool} {l : List (List Mono)} {i : Nat} (hi : i < l.length) (n k : Int) (hv : valR D l[i] 122 = .ok k) (hk : 65536 < k) : countR D fold (l.drop i) n = .error 122 := by
  rw [List.drop_eq_getElem_cons hi, countR, hv]
  show (if 65536 < k then _ else _) = _
  rw [if_pos hk]
theorem count_err1 {D : List Int} {fold : Bool} {l : List (List Mono)} {i : Nat} (hi : i < l.length) (n e : Int) (hv : valR D l[i] 122 = .error e) : countR D fold (l.drop i) n = .error e := by
  rw [List.drop_eq_getElem_cons hi, countR, hv]
  rfl
/-- the loop -/
structure CInv (D : List Int) (fold : Bool) (l : List (List Mono)) (R : Ex (List Int × Int)) (i : Nat) (ks : List Int) (n : Int) : Prop where
  le : i ≤ l.length
  len : ks.length = i
  run : (countR D fold (l.drop i) n).map (fun q => (ks ++ q.1, q.2)) = R
  n0 : 0 ≤ n
  n1 : n ≤ 4194304
section
variable {D : List Int} {fold : Bool} {l : List (List Mono)} {R : Ex (List Int × Int)} {i : Nat} {ks : List Int} {n k : Int}
theorem CInv.bad (h : CInv D fold l R i ks n) {e : Int} (hc : countR D fold (l.drop i) n = .error e) : R = .error e := by
  have := h.run
  rw [hc] at this
  exact this.symm
theorem CInv.step (h : CInv D fold l R i ks n) (hi : i < l.length) (hv : valR D l[i] 122 = .ok k) (hk : ¬ 65536 < k) (h0 : 0 ≤ k) {k' : Int} (hk' : k' = if fold = true ∧ i + 1 = l.length then k + 1 else k) : CInv D fold l R (i + 1) (ks ++ [k]) (turnN n k') := by
  have hk0 : 0 ≤ k' := by rw [hk']; split <;> omega
  have hb := turnN_bd h.n0 h.n1 hk0
  refine ⟨hi, by rw [List.length_append, h.len]; rfl, ?_, hb.1, hb.2⟩
  have := h.run
  rw [count_drop hi n k hv hk k' hk'] at this
  rw [← this]
  cases countR D fold (l.drop (i + 1)) (turnN n k') with
  | error e => rfl
  | ok q => simp [Except.map]
theorem CInv.done (h : CInv D fold l R l.length ks n) : R = .ok (ks, n) := by
  have := h.run
  rw [List.drop_length] at this
  rw [← this]
  simp [countR, Except.map]
end
set_option maxHeartbeats 16000000 in
theorem count_any (w : World) (M : Nat) (q : MQ) (D : List Int) (v : Value) (hrow : w.heap[M]? = some (.cells (q.row D v) 82 (0, 0))) (hvf : v.oneCell' = true) (how buf fn : Int) (pa : Option Addr) (pl pc : Nat) (la : Option Addr) (lc : Nat) (l : List (List Mono)) (oa : Option Addr) (ol oc : Nat)
    (hl : polyRep.Els w la l) (hl4 : l.length ≤ 4) (hol : ol ≤ 256) (hg : ∀ p ∈ l, growsB p = true) (hd : IntsAt .i64 w q.ad D) (hDl : D.length ≤ 6) (hD : dimsB D = true) (ht : 0 ≤ q.t ∧ q.t ≤ 2097152) :
    Calls Try.prog 74 #[.pointer (some ⟨M, 0, none⟩), .agg #[.int .i64 how, .int .i64 buf, .slice pa pl pc, .slice la l.length lc, .int .u8 fn, .slice oa ol oc]] w (CountE w M q D v (countR D (how == 2) l ol)) := by
  obtain ⟨R, hR⟩ : ∃ R, countR D (how == 2) l ol = R := ⟨_, rfl⟩
  have hst : CInv D (how == 2) l R 0 [] ol := ⟨Nat.zero_le _, rfl, by rw [List.drop_zero, hR]; cases R <;> rfl, by omega, by omega⟩
  rw [hR]
  obtain ⟨ll, hln⟩ : ∃ n, l.length = n := ⟨_, rfl⟩
  have HST := Lib.hid hst; have HROW := Lib.hid hrow; have HL := Lib.hid hl; have HG := Lib.hid hg; have HD := Lib.hid hd; have HDD := Lib.hid hD; have HT := Lib.hid ht; have HLN := Lib.hid hln
  rw [hln] at hl4 ⊢
  clear hst hrow hl hg hd hD ht hR hln
  obtain ⟨z, hz⟩ : ∃ z, w.heap.size = z := ⟨_, rfl⟩
  have hba : Below w.heap.size w (w.alloc (.cells #[.int .i64 how, .int .i64 buf, .slice pa pl pc, .slice la ll lc, .int .u8 fn, .slice oa ol oc] 42)) := (Below.refl _ _).alloc (Nat.le_refl _) _
  have hn := heap_new hz (o := .cells #[.int .i64 how, .int .i64 buf, .slice pa pl pc, .slice la ll lc, .int .u8 fn, .slice oa ol oc] 42)
  have HBA := Lib.hid hba
  go_enter Try.func74, Try.ntmps74
  go_upto_region 1 with fail
  have HZ := Lib.hid hz
  clear hz
  obtain ⟨W0, hW0⟩ : ∃ W, w.alloc (.cells #[.int .i64 how, .int .i64 buf, .slice pa pl pc, .slice la ll lc, .int .u8 fn, .slice oa ol oc] 42) = W := ⟨_, rfl⟩
  rw [hW0] at HBA hn hba ⊢
  have z0 := cell_of_row W0 z 0 _ _ _ hn; have z3 := cell_of_row W0 z 3 _ _ _ hn; have z5 := cell_of_row W0 z 5 _ _ _ hn
  have Z0 := Lib.hid z0; have Z3 := Lib.hid z3
  clear hn hba hW0
  go_wp2_with fail
  clear z0 z3 z5
  go_loopw [5, 6, 16] (fun v n i wr => ∃ (k : Nat) (nn : Int) (ks : List Int), i = .int .i64 k ∧ n = .int .i64 nn ∧ CInv D (how == 2) l R k ks nn ∧ RowI W0.heap.size wr v ks ∧ Below W0.heap.size W0 wr) (fun _ _ i _ => ll - (intOf i).toNat)
  case atStart => exact ⟨0, ol, [], rfl, rfl, HST.out, RowI.nil _ _, Below.refl _ _⟩
  case round =>
    obtain ⟨i, nn, ks, rfl, rfl, hci, hr, hbw⟩ := hrel
    have hcle := hci.le
    rw [HLN.out] at hcle
    by_cases hlt : i < ll
    · have hil : i < l.length := by rw [HLN.out]; exact hlt
      have hbw2 := HBA.out.trans (hbw.mono HBA.out.size)
      obtain ⟨b2, off2, cs2, rfl, ⟨v2, rfl, hp⟩, hc2⟩ := (HL.out.below polyRep hbw2 (Nat.le_refl _)) i hil
      have y0 := hc2 0 _ rfl
      simp only [show polyRep.n = 1 from rfl, Nat.add_zero, Nat.mul_one] at y0
      obtain ⟨qa, qc, rfl, hpl, hpe⟩ := Rep.Sl.form hp
      have hv := rval_any wr M q D _ (block_below HROW.out hbw2) qa qc _ 122 hpe hpl (HD.out.below hbw2 (Nat.le_refl _)) (by omega)
      have hgr := HG.out _ (List.getElem_mem hil)
      obtain ⟨pp, hpp⟩ : ∃ pp, l[i] = pp := ⟨_, rfl⟩
      rw [hpp] at hv y0 hgr
      obtain ⟨pn, hpn⟩ : ∃ pn, pp.length = pn := ⟨_, rfl⟩
      rw [hpn] at hv y0
      obtain ⟨ra, rc, rfl⟩ := row_form hr
      have c0 := keepCB hbw (Nat.le_refl _) Z0.out; have c3 := keepCB hbw (Nat.le_refl _) Z3.out
      have HPP := Lib.hid hpp; have HR := Lib.hid hr; have HBW := Lib.hid hbw; have HCI := Lib.hid hci; have HBW2 := Lib.hid hbw2
      clear hpe hpl hc2 hpn hpp hr hbw hci hp hbw2 hcle
      cases hx : valR D pp 122 with
      | error e =>
        have hR := HCI.out.bad (count_err1 hil nn e (by rw [HPP.out]; exact hx))
        have HR2 := Lib.hid hR
        rw [hx] at hv
        unfold endV panE at hv
        dsimp only at hv
        have HV := Lib.hid hv
        clear hR hx hv
        go_wp2_with (go_at_call 77; refine HV.out.mono ?_; rintro e w1 ⟨rfl, hb1⟩)
        exact ⟨rfl, by rw [HR2.out]; exact ⟨rfl, KB.of_below (HBW2.out.trans (hb1.mono HBW2.out.size)) (fun g h1 h2 => absurd h2 (by omega))⟩⟩
      | ok k =>
        have hk0 := valR_nn HDD.out hgr hx
        rw [hx] at hv
        unfold endV at hv
        dsimp only at hv
        have HV := Lib.hid hv
        have hvl : valR D l[i] 122 = .ok k := by rw [HPP.out]; exact hx
        have HVL := Lib.hid hvl
        clear hv hx hvl hgr
        by_cases hkb : 65536 < k
        · have hR := HCI.out.bad (count_bad hil nn k HVL.out hkb)
          have HR2 := Lib.hid hR
          clear hR
          go_wp2_with (go_at_call 77; refine HV.out.mono ?_; rintro e w1 ⟨rfl, hb1⟩)
          exact ⟨rfl, by rw [HR2.out]; exact ⟨rfl, KB.of_below (HBW2.out.trans (hb1.mono HBW2.out.size)) (fun g h1 h2 => absurd h2 (by omega))⟩⟩
        · have hstep := fun k' (hk' : k' = if (how == 2) = true ∧ i + 1 = l.length then k + 1 else k) => HCI.out.step hil HVL.out hkb hk0 hk'
          have HSTEP := Lib.hid hstep
          have hkle : k ≤ 65536 := by omega
          have hkl : ks.length ≤ 4 := by have := HCI.out.len; omega
          have HKL := Lib.hid hkl
          have HN0 := Lib.hid HCI.out.n0; have HN1 := Lib.hid HCI.out.n1
          clear hstep hkb hkl
          by_cases hf : how = 2
          · subst hf
            have hI : ((2 : Int) == 2) = true := rfl
            by_cases hlast : i + 1 = ll
            · have hs := fun k' (e : k' = k + 1) => HSTEP.out k' (by rw [e, if_pos ⟨rfl, by rw [HLN.out]; exact hlast⟩])
              have HS := Lib.hid hs
              have hJ : ((i : Int) == (ll : Int) - 1) = true := by rw [← hlast]; simp
              clear hs HSTEP
              go_upto_region 9 with (go_at_call 77; refine HV.out.mono ?_; rintro e w1 ⟨rfl, hb1⟩)
              go_upto_region 10 with (at_builtin; refine push_row rfl _ _ rfl _ ks rfl (by have := HR.out; exact World.ownsRow.alloc (own_keep this (KeepTy.below hb1)) _) rfl (World.alloc_heap_new _ _) (by have := HKL.out; omega) (by have := HBW.out.size; have := hb1.size; simp; omega) ?_; intro a' c' w' hr' hg' _)
              have hb2 : Below W0.heap.size W0 w' := ((HBW.out.trans (hb1.mono HBW.out.size)).alloc (by have := HBW.out.size; have := hb1.size; omega) _).grown hg' (by have := HBW.out.size; have := hb1.size; simp; omega) (fun g hg => (World.ownsRow.lt HR.out g hg).1)
              have HBW := Lib.hid hb2; have HR := Lib.hid hr'
              have c0 := keepCB hb2 (Nat.le_refl _) Z0.out; have c3 := keepCB hb2 (Nat.le_refl _) Z3.out
              clear hb2 hr' hg' hb1
              go_upto_region 12 with fail
              have hk65 : k + 1 ≤ 65537 := by omega
              obtain ⟨k', hkk⟩ : ∃ k', k' = k + 1 := ⟨_, rfl⟩
              have hs := HS.out k' hkk
              rw [← hkk] at hk65
              have hk0' : 0 ≤ k' := by omega
              have hn0 := HN0.out; have hn1 := HN1.out
              by_cases h0 : k' = 0
              · have hI0 : (k' == 0) = true := by simpa using h0
                have ht : turnN nn k' = 0 := by unfold turnN; rw [if_pos h0, h0]; decide
                rw [ht] at hs
                have HS := Lib.hid hs
                clear hs
                rw [← hkk]
                clear hkk ht
                rw [h0]
                clear hI0 hk0' hk65
                go_wp2_with fail
                go_roundw
                case rel => exact ⟨i + 1, 0, ks ++ [k], by go_num, rfl, HS.out, by simpa using HR.out, HBW.out⟩
                case measure => simp [intOf]; omega
              · have hI0 : (k' == 0) = false := by simpa using h0
                have ⟨hm0, hm1⟩ := mul_bdC hn0 hn1 hk0' hk65
                have ht : turnN nn k' = (if 4194304 < wrap64 (nn * k') then 4194304 else wrap64 (nn * k')) := by
                  rw [show wrap64 (nn * k') = nn * k' from by unfold wrap64; omega]
                  unfold turnN
                  rw [if_neg h0]
                  omega
                rw [ht] at hs
                have HS := Lib.hid hs
                clear hs
                clear ht hm0 hm1
                rw [← hkk]
                clear hkk h0
                go_wp2_with fail
                go_roundw
                case rel => exact ⟨i + 1, _, ks ++ [k], by go_num, rfl, HS.out, by simpa using HR.out, HBW.out⟩
                case measure => simp [intOf]; omega
            · have hs := fun k' (e : k' = k) => HSTEP.out k' (by rw [e, if_neg (fun h => hlast (by rw [← HLN.out]; exact h.2))])
              have HS := Lib.hid hs
              have hJ : ((i : Int) == (ll : Int) - 1) = false := by simp; omega
              clear hs HSTEP hlast
              go_upto_region 9 with (go_at_call 77; refine HV.out.mono ?_; rintro e w1 ⟨rfl, hb1⟩)
              go_upto_region 10 with (at_builtin; refine push_row rfl _ _ rfl _ ks rfl (by have := HR.out; exact World.ownsRow.alloc (own_keep this (KeepTy.below hb1)) _) rfl (World.alloc_heap_new _ _) (by have := HKL.out; omega) (by have := HBW.out.size; have := hb1.size; simp; omega) ?_; intro a' c' w' hr' hg' _)
              have hb2 : Below W0.heap.size W0 w' := ((HBW.out.trans (hb1.mono HBW.out.size)).alloc (by have := HBW.out.size; have := hb1.size; omega) _).grown hg' (by have := HBW.out.size; have := hb1.size; simp; omega) (fun g hg => (World.ownsRow.lt HR.out g hg).1)
              have HBW := Lib.hid hb2; have HR := Lib.hid hr'
              have c0 := keepCB hb2 (Nat.le_refl _) Z0.out; have c3 := keepCB hb2 (Nat.le_refl _) Z3.out
              clear hb2 hr' hg' hb1
              go_upto_region 12 with fail
              have hk65 : k ≤ 65537 := by omega
              obtain ⟨k', hkk⟩ : ∃ k', k' = k := ⟨_, rfl⟩
              have hs := HS.out k' hkk
              rw [← hkk] at hk65
              have hk0' : 0 ≤ k' := by omega
              have hn0 := HN0.out; have hn1 := HN1.out
              by_cases h0 : k' = 0
              · have hI0 : (k' == 0) = true := by simpa using h0
                have ht : turnN nn k' = 0 := by unfold turnN; rw [if_pos h0, h0]; decide
                rw [ht] at hs
                have HS := Lib.hid hs
                clear hs
                rw [← hkk]
                clear hkk ht
                rw [h0]
                clear hI0 hk0' hk65
                go_wp2_with fail
                go_roundw
                case rel => exact ⟨i + 1, 0, ks ++ [k], by go_num, rfl, HS.out, by simpa using HR.out, HBW.out⟩
                case measure => simp [intOf]; omega
              · have hI0 : (k' == 0) = false := by simpa using h0
                have ⟨hm0, hm1⟩ := mul_bdC hn0 hn1 hk0' hk65
                have ht : turnN nn k' = (if 4194304 < wrap64 (nn * k') then 4194304 else wrap64 (nn * k')) := by
                  rw [show wrap64 (nn * k') = nn * k' from by unfold wrap64; omega]
                  unfold turnN
                  rw [if_neg h0]
                  omega
                rw [ht] at hs
                have HS := Lib.hid hs
                clear hs
                clear ht hm0 hm1
                rw [← hkk]
                clear hkk h0
                go_wp2_with fail
                go_roundw
                case rel => exact ⟨i + 1, _, ks ++ [k], by go_num, rfl, HS.out, by simpa using HR.out, HBW.out⟩
                case measure => simp [intOf]; omega
          · have hI : (how == 2) = false := by simpa using hf
            have hs := fun k' (e : k' = k) => HSTEP.out k' (by rw [e, if_neg (fun h => by rw [hI] at h; exact absurd h.1 (by decide))])
            have HS := Lib.hid hs
            have HI := Lib.hid hI
            clear hs HSTEP hf
            go_upto_region 9 with (go_at_call 77; refine HV.out.mono ?_; rintro e w1 ⟨rfl, hb1⟩)
            go_upto_region 10 with (at_builtin; refine push_row rfl _ _ rfl _ ks rfl (by have := HR.out; exact World.ownsRow.alloc (own_keep this (KeepTy.below hb1)) _) rfl (World.alloc_heap_new _ _) (by have := HKL.out; omega) (by have := HBW.out.size; have := hb1.size; simp; omega) ?_; intro a' c' w' hr' hg' _)
            have hb2 : Below W0.heap.size W0 w' := ((HBW.out.trans (hb1.mono HBW.out.size)).alloc (by have := HBW.out.size; have := hb1.size; omega) _).grown hg' (by have := HBW.out.size; have := hb1.size; simp; omega) (fun g hg => (World.ownsRow.lt HR.out g hg).1)
            have HBW := Lib.hid hb2; have HR := Lib.hid hr'
            have c0 := keepCB hb2 (Nat.le_refl _) Z0.out; have c3 := keepCB hb2 (Nat.le_refl _) Z3.out
            clear hb2 hr' hg' hb1
            go_upto_region 12 with fail
            have hk65 : k ≤ 65537 := by omega
            obtain ⟨k', hkk⟩ : ∃ k', k' = k := ⟨_, rfl⟩
            have hs := HS.out k' hkk
            rw [← hkk] at hk65
            have hk0' : 0 ≤ k' := by omega
            have hn0 := HN0.out; have hn1 := HN1.out
            by_cases h0 : k' = 0
            · have hI0 : (k' == 0) = true := by simpa using h0
              have ht : turnN nn k' = 0 := by unfold turnN; rw [if_pos h0, h0]; decide
              rw [ht] at hs
              have HS := Lib.hid hs
              clear hs
              rw [← hkk]
              clear hkk ht
              rw [h0]
              clear hI0 hk0' hk65
              go_wp2_with fail
              go_roundw
              case rel => exact ⟨i + 1, 0, ks ++ [k], by go_num, rfl, HS.out, by simpa using HR.out, HBW.out⟩
              case measure => simp [intOf]; omega
            · have hI0 : (k' == 0) = false := by simpa using h0
              have ⟨hm0, hm1⟩ := mul_bdC hn0 hn1 hk0' hk65
              have ht : turnN nn k' = (if 4194304 < wrap64 (nn * k') then 4194304 else wrap64 (nn * k')) := by
                rw [show wrap64 (nn * k') = nn * k' from by unfold wrap64; omega]
                unfold turnN
                rw [if_neg h0]
                omega
              rw [ht] at hs
              have HS := Lib.hid hs
              clear hs
              clear ht hm0 hm1
              rw [← hkk]
              clear hkk h0
              go_wp2_with fail
              go_roundw
              case rel => exact ⟨i + 1, _, ks ++ [k], by go_num, rfl, HS.out, by simpa using HR.out, HBW.out⟩
              case measure => simp [intOf]; omega
    · obtain rfl : i = ll := by omega
      obtain rfl : R = .ok (ks, nn) := by
        have := hci
        rw [← HLN.out] at this
        exact this.done
      have hbw2 := HBA.out.trans (hbw.mono HBA.out.size)
      have hrw := block_below HROW.out hbw2
      have hn0 := hci.n0; have hn1 := hci.n1; have ht := HT.out
      obtain ⟨ra, rc, rfl⟩ := row_form hr
      have x6 : wr.cell? ⟨M, 6, none⟩ = some (.int .i64 q.t) := by rw [cell_of_row wr M 6 _ _ _ hrw]; rfl
      have hf := frozen_of_row wr M 6 _ _ hrw
      have hkb : KB (fun g => g = M) w (wr.setCell ⟨M, 6, none⟩ (.int .i64 (q.t + nn))) := (KB.of_below hbw2 (fun g h1 h2 => absurd h2 (by omega))).setCell (S := fun g => g = M) (p := ⟨M, 6, none⟩) (fun _ => rfl) _
      have hh : (wr.setCell ⟨M, 6, none⟩ (.int .i64 (q.t + nn))).heap[M]? = some (.cells (({ q with t := q.t + nn } : MQ).row D v) 82 (0, 0)) := by
        rw [heap_setCell_same wr M 6 _ _ _ hrw]
        rfl
      have hro : RowI w.heap.size (wr.setCell ⟨M, 6, none⟩ (.int .i64 (q.t + nn))) (.slice ra ks.length rc) ks := own_mono (own_keep hr (KeepTy.setCell (p := ⟨M, 6, none⟩) (NotTy.of hrw (by decide)) _)) HBA.out.size
      have HKB := Lib.hid hkb; have HH := Lib.hid hh; have HRO := Lib.hid hro
      clear hkb hh hro hci hr hbw hbw2 hrw
      by_cases hb : 2097152 < q.t + nn
      · go_wp2_with fail
        exact ⟨rfl, HKB.out, HH.out, by rw [if_pos hb]; rfl⟩
      · go_wp2_with fail
        go_ret
        exact ⟨HKB.out, HH.out, by rw [if_neg (Int.not_lt.2 hb)]; exact ⟨_, _, rfl, HRO.out⟩⟩
end Go.Proofs.Ytmlfeocdcjhhaaa
