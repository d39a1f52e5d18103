/-
  ArrayParts: the law returns true for every input, and what was handed in reads as it did. No condition.
-/
import Derived.Test.YtbhhmfkipfedfaaW17
import Derived.Test.YtbhhmfkipfedfaaShown
import Derived.Test.YtbhhmfkipfedfaaOpen
namespace Go.Proofs.Ytbhhmfkipfedfaa
open Go.ChangeShapes Go.WideShapes Go.ChangeAt Go.RowKit Go.Joins
set_option linter.unusedVariables false

set_option maxRecDepth 100000 in
set_option maxHeartbeats 8000000 in
theorem ArrayParts_walk (w : World) (va vb : Value) (s d : List Int) (q0 : SlI .i64 w va s) (q1 : SlI .i64 w vb d) :
    Calls Try.prog 8 #[.agg #[va, vb]] w fun e w' => e = .returned (.bool true) ∧ Below w.heap.size w w' := by
  obtain ⟨a0, c0, rfl, hm1, hm2, h0, -⟩ := q0
  obtain ⟨a1, c1, rfl, hn1, hn2, h1, -⟩ := q1
  have hs := Nat.le_trans hm1 hm2
  have hd := Nat.le_trans hn1 hn2
  have k1 := fun k W (hB : Below w.heap.size w W) => cell_any W a0 a1 c0 c1 s d k hs hm1 hn1 (h0.below hB (Nat.le_refl _)) (h1.below hB (Nat.le_refl _))
  have k3 := fun W (hB : Below w.heap.size w W) => lanes_any W a0 a1 c0 c1 s d hs hn1 (h0.below hB (Nat.le_refl _)) (h1.below hB (Nat.le_refl _))
  have k5 := fun W (hB : Below w.heap.size w W) => right_any W a0 a1 c0 c1 s d hs (h0.below hB (Nat.le_refl _))
  have K1 := Lib.hid k1; have H0 := Lib.hid h0; have H1 := Lib.hid h1; clear k1 h0 h1
  cases hr : right s d with
  | false =>
    rw [hr] at k5
    rw [show lanes s d = ([], 60) from by unfold lanes; rw [if_neg (by rw [hr]; simp)]] at k3
    have K3 := Lib.hid k3; have K5 := Lib.hid k5; clear k3 k5 hr
    go_enter Try.func8, Try.ntmps8
    go_wp2_with fail
    obtain ⟨W0, hW0⟩ : ∃ W0, w.alloc (.cells #[.slice a0 s.length c0, .slice a1 d.length c1] 24) = W0 := ⟨_, rfl⟩
    have hB0 : Below w.heap.size w W0 := by rw [← hW0]; exact (Below.refl _ _).alloc (Nat.le_refl _) _
    have hsz0 : w.heap.size < W0.heap.size := by rw [← hW0]; simp
    have hS0 : W0.cell? ⟨w.heap.size, 0, none⟩ = some (.slice a0 s.length c0) := by rw [← hW0]; simp [go_sem]
    have hS1 : W0.cell? ⟨w.heap.size, 1, none⟩ = some (.slice a1 d.length c1) := by rw [← hW0]; simp [go_sem]
    have HS0 := Lib.hid hS0; have HS1 := Lib.hid hS1; clear hS0 hS1
    rw [hW0]
    clear hW0
    refine (shown_any _).mono ?_
    rintro e w1 ⟨rfl, hB1⟩
    have hS0 := (hB1.cell (p := ⟨w.heap.size, 0, none⟩) hsz0).trans HS0.out
    have hS1 := (hB1.cell (p := ⟨w.heap.size, 1, none⟩) hsz0).trans HS1.out
    go_wp2_with fail
    refine (K3.out _ (hB0.trans (hB1.mono hB0.size))).mono ?_
    rintro e w2 ⟨⟨v, rfl, hl⟩, hb⟩
    have hB2 := bNext hb hB1
    obtain ⟨al, cl, rfl, _, _⟩ := hl.slice
    have hS0 := (hB2.cell (p := ⟨w.heap.size, 0, none⟩) hsz0).trans HS0.out
    have hS1 := (hB2.cell (p := ⟨w.heap.size, 1, none⟩) hsz0).trans HS1.out
    clear hb hB1 hl
    go_wp2_with fail
    refine (K5.out _ (hB0.trans (hB2.mono hB0.size))).mono ?_
    rintro e w3 ⟨rfl, hb⟩
    have hB3 := bNext hb hB2
    go_wp2_with fail
    go_ret
    exact ⟨rfl, hB0.trans (hB3.mono hB0.size)⟩
  | true =>
    obtain ⟨lx, hlx, hflat, hne⟩ : ∃ lx : List (List Int), lanes s d = (lx, 0) ∧ lx.flatten = d ∧ ∀ x ∈ lx, 0 < x.length := by
      by_cases hd0 : d.length = 0
      · have : d = [] := List.eq_nil_of_length_eq_zero hd0
        subst this
        exact ⟨[], by unfold lanes; rw [if_pos hr]; simp [chunks], rfl, by simp⟩
      · obtain ⟨m, q, e1, e2, e3, e4⟩ := lanes_facts hr (by omega)
        refine ⟨chunks m d q, ?_, ?_, fun x hx => ?_⟩
        · unfold lanes
          rw [if_pos hr, e1, ← e4]
          simp only [Int.toNat_natCast]
          rw [Nat.mul_div_cancel _ (by omega)]
        · rw [chunks_flatten, e4, List.take_length]
        · unfold chunks at hx
          obtain ⟨i, hi, rfl⟩ := List.mem_map.1 hx
          have hi := List.mem_range.1 hi
          have : i * m + m ≤ q * m := by have := Nat.mul_le_mul_right m hi; rw [Nat.succ_mul] at this; exact this
          rw [List.length_take, List.length_drop]; omega
    have hdl : d.length ≤ 65536 := by have := (right_good hr).2.le; omega
    rw [hlx] at k3
    rw [hr] at k5
    have K3 := Lib.hid k3; have K5 := Lib.hid k5; have Hr := Lib.hid hr; have Hflat := Lib.hid hflat; have Hne := Lib.hid hne; clear k3 k5 hr hflat hne hlx
    have Hlen : Hid (lx.length ≤ 65536) := by
      unfold Hid
      have : ∀ l : List (List Int), (∀ x ∈ l, 0 < x.length) → l.length ≤ l.flatten.length := fun l => by
        induction l with
        | nil => simp
        | cons x l ih => intro h; have h1 := ih (fun y hy => h y (by simp [hy])); have h2 := h x (by simp); simp only [List.flatten_cons, List.length_append, List.length_cons]; omega
      have h1 := this lx Hne.out
      rw [Hflat.out] at h1
      omega
    have hll : lx.length ≤ 65536 := Hlen.out
    obtain ⟨i0, hi, hz0, hz1, hz2⟩ := info_parts Try.info2
    have Hi := Lib.hid hi; have Hz0 := Lib.hid hz0; have Hz1 := Lib.hid hz1; have Hz2 := Lib.hid hz2; clear hi hz0 hz1 hz2
    go_enter Try.func8, Try.ntmps8
    go_wp2_with fail
    obtain ⟨W0, hW0⟩ : ∃ W0, w.alloc (.cells #[.slice a0 s.length c0, .slice a1 d.length c1] 24) = W0 := ⟨_, rfl⟩
    have hB0 : Below w.heap.size w W0 := by rw [← hW0]; exact (Below.refl _ _).alloc (Nat.le_refl _) _
    have hsz0 : w.heap.size < W0.heap.size := by rw [← hW0]; simp
    have hS0 : W0.cell? ⟨w.heap.size, 0, none⟩ = some (.slice a0 s.length c0) := by rw [← hW0]; simp [go_sem]
    have hS1 : W0.cell? ⟨w.heap.size, 1, none⟩ = some (.slice a1 d.length c1) := by rw [← hW0]; simp [go_sem]
    have HS0 := Lib.hid hS0; have HS1 := Lib.hid hS1; clear hS0 hS1
    rw [hW0]
    clear hW0
    refine (shown_any _).mono ?_
    rintro e w1 ⟨rfl, hB1⟩
    have hS0 := (hB1.cell (p := ⟨w.heap.size, 0, none⟩) hsz0).trans HS0.out
    have hS1 := (hB1.cell (p := ⟨w.heap.size, 1, none⟩) hsz0).trans HS1.out
    go_wp2_with fail
    refine (K3.out _ (hB0.trans (hB1.mono hB0.size))).mono ?_
    rintro e w2 ⟨⟨v, rfl, vs, hvo, hvi⟩, hb⟩
    have hB2 := bNext hb hB1
    obtain ⟨al, cl, rfl⟩ := ownsRow_slice hvo
    have Hvo := Lib.hid hvo; have Hvi := Lib.hid hvi
    have hsz1 : W0.heap.size ≤ w1.heap.size := hB1.size
    have hsz2 : w1.heap.size ≤ w2.heap.size := hb.size
    have Hb12 := Lib.hid hb
    clear hvo hvi hS0 hS1 hb
    -- the blocks of the lanes
    have hSlow : ∀ j g, (∃ (i : Nat) (u : Value), i < j ∧ vs[i]? = some u ∧ u.ownBlock = some g) → w1.heap.size ≤ g := by
      rintro j g ⟨i, u, _, h1, h2⟩
      have hil : i < lx.length := by
        have hl := Hvo.out.1
        have := (List.getElem?_eq_some_iff.1 h1).1
        simp only [] at hl; omega
      obtain ⟨u', e1, e2, _⟩ := Hvi.out i hil
      rw [h1] at e1; cases e1
      exact (e2.lt g h2).1
    have HSlow := Lib.hid hSlow; clear hSlow
    go_wp2_with fail
    go_loopw [6, 36] (fun v i wr => ∃ j : Nat, j ≤ lx.length ∧ i = .int .i64 (j : Int) ∧ Part1 w2 vs lx j v wr) (fun _ i _ => lx.length - (intOf i).toNat)
    case atStart => exact ⟨0, Nat.zero_le _, rfl, by simpa [Part1] using ⟨RowI.nil _ _, KB.refl _ _⟩⟩
    case round =>
      obtain ⟨j, hj, rfl, hrow, hkb⟩ := hrel
      by_cases hlt : j < lx.length
      · obtain ⟨u, hu1, hu2, hu3⟩ := Hvi.out j hlt
        have hxl : 0 < (lx[j]).length := Hne.out _ (List.getElem_mem hlt)
        obtain ⟨go, rfl, hgo1, hgo2⟩ := ownsRow_lit2 Hvo.out (by omega)
        obtain ⟨gj, cj, rfl, hgj1, hgj2⟩ := hu2.lit hxl
        obtain ⟨mj, hmj⟩ : ∃ mj, (lx[j]).length = mj := ⟨_, rfl⟩
        rw [hmj] at hu1 hu2 hu3 hxl
        have hgne : go ≠ gj := fun e => by
          rcases outer_ne Hvo.out hu2 with h | h
          · cases h
          · exact h (by rw [e]; rfl)
        have hnS : ∀ g, g = go ∨ g = gj → ¬ ∃ (i : Nat) (u : Value), i < j ∧ vs[i]? = some u ∧ u.ownBlock = some g := by
          rintro g hg ⟨i, u', hij, e1, e2⟩
          obtain ⟨u'', f1, f2, f3⟩ := Hvi.out i (by omega)
          rw [e1] at f1; cases f1
          rcases hg with rfl | rfl
          · rcases outer_ne Hvo.out f2 with h | h
            · rw [h] at e2; cases e2
            · exact h (by rw [e2]; rfl)
          · rcases f3 j _ hij hu1 with h | h
            · rw [h] at e2; cases e2
            · exact h (by rw [e2]; rfl)
        have hout : ∀ (wi : World) (S : Nat → Prop), KB S w2 wi → ¬ S go → wi.cell? ⟨go, j, none⟩ = some (.slice (some ⟨gj, 0, none⟩) mj cj) := fun wi S hk hn =>
          (World.ownsRow.cellAt (hk.row Hvo.out (fun g hg => by cases hg; exact hn)) j (by omega)).trans hu1
        have hnS1 : ¬ ∃ (i : Nat) (u : Value), i < j + 1 ∧ vs[i]? = some u ∧ u.ownBlock = some go := by
          rintro ⟨i, u', hij, e1, e2⟩
          by_cases e : i = j
          · subst e; rw [hu1] at e1; cases e1; exact hgne (by cases e2; rfl)
          · exact hnS go (.inl rfl) ⟨i, u', by omega, e1, e2⟩
        have huR : RowI w1.heap.size wr (.slice (some ⟨gj, 0, none⟩) mj cj) lx[j] := hkb.row hu2 (fun g hg => by cases hg; exact hnS gj (.inr rfl))
        have hcell := hout wr _ hkb (hnS go (.inl rfl))
        obtain ⟨av, cv, hve⟩ := ownsRow_slice hrow
        obtain ⟨fl, hfl⟩ : ∃ fl, (lx.take j).flatten = fl := ⟨_, rfl⟩
        obtain ⟨lv, hlv⟩ : ∃ lv, fl.length = lv := ⟨_, rfl⟩
        rw [hfl] at hrow
        have hlvj : lv + mj ≤ 65536 := by
          have h1 := congrArg List.length (flatten_take_succ hlt)
          have h2 : (lx.take (j + 1)).flatten.length ≤ lx.flatten.length := by
            have := List.take_append_drop (j + 1) lx
            have h3 := congrArg (fun l => (List.flatten l).length) this
            simp only [List.flatten_append, List.length_append] at h3
            omega
          rw [Hflat.out] at h2
          rw [List.length_append, hfl, hlv, hmj] at h1
          omega
        have hsrc : ∀ j' v, ((lx[j]).map (Value.int .i64))[j']? = some v → wr.cell? ((⟨gj, 0, none⟩ : Addr).add j') = some v := by
          obtain ⟨a, c, e, _, hI⟩ := huR.slice
          cases e
          exact hI.srcS
        have hz0 : (0 : Int) ≤ (j : Int) := by omega
        have hz1 : (j : Int) < (lx.length : Int) := by omega
        rw [hfl, hlv] at hve
        have hrow' : wr.ownsRow w2.heap.size 2 1 u6 lv (fl.map (Value.int .i64)) := by rw [← hlv]; exact hrow
        have hw2r : w2.heap.size ≤ wr.heap.size := hkb.size
        subst hve
        have Hrow := Lib.hid hrow'; have Hkb := Lib.hid hkb; have HuR := Lib.hid huR; have Hout := Lib.hid hout; have HnS := Lib.hid hnS; have HnS1 := Lib.hid hnS1; have Hsrc := Lib.hid hsrc; have Hlv := Lib.hid hlv; have Hfl := Lib.hid hfl; have Hmj := Lib.hid hmj; have Hu1 := Lib.hid hu1; have Hu3 := Lib.hid hu3; have Hgne := Lib.hid hgne
        clear hrow hrow' hkb huR hout hnS hnS1 hsrc hlv hfl hmj hu1 hu2 hu3 hgne
        go_wp2_with (at_builtin; (refine wpList_append_own _ rfl _ _ 22 rfl w2.heap.size 2 i0 (.int .i64 0) 1 8 Try.underlying22 Hi.out Hz0.out Hz1.out Hz2.out rfl (by decide) _ lv _ rfl Hrow.out ⟨gj, 0, none⟩ mj cj ((lx[j]).map (Value.int .i64)) rfl (by simp [Hmj.out]) Hsrc.out (oneCell_ints _ _) (by unfold maxLen; omega) (by omega) hw2r ?_))
        intro v' w5 hown hgrow _
        have hkb5 : KB (fun g => ∃ (i : Nat) (u : Value), i < j + 1 ∧ vs[i]? = some u ∧ u.ownBlock = some g) w2 w5 :=
          (Hkb.out.grown hgrow (fun k e hk => absurd (World.ownsRow.lt Hrow.out k e).1 (by omega))).mono (fun g _ ⟨i, u, a, b, c⟩ => ⟨i, u, by omega, b, c⟩)
        have hv5 : RowI w2.heap.size w5 v' (lx.take (j + 1)).flatten := by
          unfold RowI
          rw [flatten_take_succ hlt, Hfl.out, List.length_append, Hlv.out, Hmj.out, List.map_append]
          exact hown
        have hu5 : RowI w1.heap.size w5 (.slice (some ⟨gj, 0, none⟩) mj cj) lx[j] := HuR.out.kept hgrow (.inr (fun e => by
          have := (World.ownsRow.lt Hrow.out gj e.symm).1
          omega))
        have hcell5 := Hout.out w5 _ hkb5 HnS1.out
        have Hv5 := Lib.hid hv5; have Hkb5 := Lib.hid hkb5; have Hu5 := Lib.hid hu5
        clear hown hgrow hv5 hkb5 hu5 hcell
        go_wp2_with fail
        go_loopw [50] (fun i wi => ∃ (k : Nat) (L : List Int), k ≤ mj ∧ i = .int .i64 (k : Int) ∧ L.length = mj ∧ RowI w1.heap.size wi (.slice (some ⟨gj, 0, none⟩) mj cj) L ∧ RowI w2.heap.size wi v' (lx.take (j + 1)).flatten ∧
          KB (fun g => ∃ (i : Nat) (u : Value), i < j + 1 ∧ vs[i]? = some u ∧ u.ownBlock = some g) w2 wi) (fun i _ => mj - (intOf i).toNat)
        case atStart => exact ⟨0, lx[j], Nat.zero_le _, rfl, Hmj.out, Hu5.out, Hv5.out, Hkb5.out⟩
        case round =>
          obtain ⟨k, L, hk, rfl, hL, huL, hvL, hkbL⟩ := hrel
          have hcellL := Hout.out _ _ hkbL HnS1.out
          have HL := Lib.hid hL; have HuL := Lib.hid huL; have HvL := Lib.hid hvL; have HkbL := Lib.hid hkbL; clear hL huL hvL hkbL
          by_cases hkm : k < mj
          · have hkc := World.ownsRow.cellAt (show World.ownsRow _ w1.heap.size 2 1 (.slice (some ⟨gj, 0, none⟩) mj cj) mj _ by have := HuL.out; unfold RowI at this; rw [HL.out] at this; exact this) k (by omega)
            have hkf := World.ownsRow.frozenAt (show World.ownsRow _ w1.heap.size 2 1 (.slice (some ⟨gj, 0, none⟩) mj cj) mj _ by have := HuL.out; unfold RowI at this; rw [HL.out] at this; exact this) k
            rw [List.getElem?_map, List.getElem?_eq_getElem (by have := HL.out; omega), Option.map_some] at hkc
            have hk0 : (0 : Int) ≤ (k : Int) := by omega
            have hk1 : (k : Int) < (mj : Int) := by omega
            go_wp2_with fail
            go_roundw
            case rel =>
              refine ⟨k + 1, L.set k 77, by omega, by go_num, by rw [List.length_set]; exact HL.out, HuL.out.stored HL.out.symm k 77, HvL.out.kept (grownBy_setCellA _ _ _) ?_, HkbL.out.setCell (p := ⟨gj, k, none⟩) (fun _ => ⟨j, _, by omega, Hu1.out, rfl⟩) _⟩
              cases hv : v'.ownBlock with
              | none => exact .inl rfl
              | some b => exact .inr fun e => absurd (HvL.out.lt b hv).1 (by have e' : b = gj := (by simpa using e); omega)
            case measure => simp [intOf]; omega
          · go_wp2_with fail
            go_roundw
            case rel => exact ⟨j + 1, by omega, by go_num, HvL.out, HkbL.out⟩
            case measure => simp [intOf]; omega
      · obtain rfl : j = lx.length := by omega
        rw [List.take_length, Hflat.out] at hrow
        have hBr0 : Below w1.heap.size w1 wr := by
          have h2 : Below w1.heap.size w1 w2 := Hb12.out
          exact h2.trans (hkb.below hsz2 (fun g hg => HSlow.out _ g hg))
        have hBr : Below W0.heap.size W0 wr := hB1.trans (hBr0.mono hsz1)
        obtain ⟨av, cv, hve⟩ := ownsRow_slice hrow
        obtain ⟨_, _, e, _, hvI⟩ := hrow.slice
        rw [hve] at e
        cases e
        subst hve
        have hS0 := (hBr.cell (p := ⟨w.heap.size, 0, none⟩) hsz0).trans HS0.out
        have hS1 := (hBr.cell (p := ⟨w.heap.size, 1, none⟩) hsz0).trans HS1.out
        have hwr : Below w.heap.size w wr := hB0.trans (hBr.mono hB0.size)
        have hi := ints_any wr av a1 cv c1 d d hd hd hvI (H1.out.below hwr (Nat.le_refl _))
        rw [show ints d d = true from by simp [ints]] at hi
        have HIn := Lib.hid hi
        clear hi hvI hrow hkb hBr0 hB1 hB2
        go_wp2_with fail
        refine HIn.out.mono ?_
        rintro e w3 ⟨rfl, n3, hw3⟩
        have hB3 : Below W0.heap.size W0 w3 := by rw [hw3]; exact hBr.trans (Below.drewN _ _)
        have hS0 := (hB3.cell (p := ⟨w.heap.size, 0, none⟩) hsz0).trans HS0.out
        have hS1 := (hB3.cell (p := ⟨w.heap.size, 1, none⟩) hsz0).trans HS1.out
        clear hw3 HIn hwr hBr
        cases s with
        | nil =>
          have hcl : cell [] d 0 = (([], []), 62) := by unfold cell; rw [if_pos Hr.out]
          have kc := fun W (hB : Below w.heap.size w W) => K1.out 0 W hB
          rw [hcl] at kc
          have KC := Lib.hid kc; clear kc hcl
          go_wp2_with fail
          refine (KC.out _ (hB0.trans (hB3.mono hB0.size))).mono ?_
          rintro e w4 ⟨⟨p, u, rfl, hp, hu, -⟩, hb⟩
          obtain ⟨ap, cp, rfl, _, _⟩ := hp.slice
          obtain ⟨au, cu, rfl, _, _⟩ := hu.slice
          have hB4 := bNext hb hB3
          clear hb hB3 hp hu
          go_wp2_with fail
          go_ret
          exact ⟨rfl, hB0.trans ((hB4.alloc hB4.size _).mono hB0.size)⟩
        | cons x r =>
          obtain ⟨b0, off, rfl, hcx⟩ := H0.out 0 (by simp)
          simp only [Nat.add_zero, List.getElem_cons_zero] at hcx
          have hb0 := World.block_lt_of_cell? w _ hcx
          have hw3 : Below w.heap.size w w3 := hB0.trans (hB3.mono hB0.size)
          have hcx3 := (hw3.cell (p := ⟨b0, off, none⟩) hb0).trans hcx
          have hl0 : (0 : Int) < ((x :: r).length : Int) := by simp
          obtain ⟨ls, hls⟩ : ∃ ls, (x :: r).length = ls := ⟨_, rfl⟩
          have hls1 : 1 ≤ ls := by rw [← hls]; simp
          have hls2 : ((ls : Int) == 0) = false := by simp; omega
          have hls3 : (0 : Int) < (ls : Int) := by omega
          rw [hls] at hS0
          have HS0' := Lib.hid (HS0.out); have Hls := Lib.hid hls
          clear hls hl0
          by_cases hx2 : (200 : Int) < x
          · go_wp2_with fail
            go_ret
            exact ⟨rfl, hw3⟩
          · obtain ⟨_, gg⟩ := right_good Hr.out
            obtain ⟨xn, hxn⟩ := Int.eq_ofNat_of_zero_le (gg.side x (by simp)).1
            have hP0 := (prodL_le_pow (l := r) fun y hy => gg.side y (by simp [hy])).1
            obtain ⟨P, hP⟩ := Int.eq_ofNat_of_zero_le hP0
            have hrc := fun k (hk : k < xn) => right_cell (k := k) (xn := xn) (P := P) Hr.out hxn hk hP
            have hrl : r.length ≤ maxLen := by simp at hs; omega
            have hdxP : d.length = xn * P := by
              have := gg.prod
              rw [prodL, hxn, hP] at this
              exact_mod_cast this
            have HdxP := Lib.hid hdxP; clear hdxP
            have Hrc := Lib.hid hrc; have Hxn := Lib.hid hxn
            clear gg hP0 hP hrc hxn
            go_wp2_with fail
            go_loopw [6, 11] (fun v i wr => ∃ k : Nat, k ≤ xn ∧ i = .int .i64 (k : Int) ∧ RowI w3.heap.size wr v (d.take (k * P)) ∧ Below w3.heap.size w3 wr) (fun _ i _ => xn - (intOf i).toNat)
            case atStart => exact ⟨0, Nat.zero_le _, rfl, by simpa using RowI.nil _ _, Below.refl _ _⟩
            case round =>
              obtain ⟨k, hk, rfl, hrow, hbr⟩ := hrel
              have hBr := bNext hbr hB3
              have hwr : Below w.heap.size w wr := hB0.trans (hBr.mono hB0.size)
              have hS0 := (hBr.cell (p := ⟨w.heap.size, 0, none⟩) hsz0).trans HS0.out
              rw [Hls.out] at hS0
              have hS1 := (hBr.cell (p := ⟨w.heap.size, 1, none⟩) hsz0).trans HS1.out
              have hcxr := (hwr.cell (p := ⟨b0, off, none⟩) hb0).trans hcx
              have Hrow := Lib.hid hrow; clear hrow
              by_cases hkx : k < xn
              · have hlt : (k : Int) < x := by have := Hxn.out; omega
                obtain ⟨hcl, hrt, hdP⟩ := Hrc.out k hkx
                have kc := K1.out (k : Int) wr hwr
                rw [hcl, Hls.out] at kc
                obtain ⟨ys, hys⟩ : ∃ ys, (d.drop (k * P)).take P = ys := ⟨_, rfl⟩
                rw [hys] at kc hrt
                have hkP : k * P + P ≤ d.length := by have := Nat.mul_le_mul_right P hkx; rw [Nat.succ_mul, ← hdP] at this; exact this
                have hyl : ys.length = P := by rw [← hys, List.length_take, List.length_drop]; omega
                have htk : d.take ((k + 1) * P) = d.take (k * P) ++ ys := by rw [Nat.succ_mul, List.take_add, hys]
                have hlk : (d.take (k * P)).length = k * P := by rw [List.length_take]; omega
                have KC := Lib.hid kc; have Hrt := Lib.hid hrt; have Hyl := Lib.hid hyl; have Htk := Lib.hid htk; have Hlk := Lib.hid hlk; have HkP := Lib.hid hkP
                clear kc hrt hyl htk hlk hkP hcl hdP hys
                go_wp2_with fail
                refine KC.out.mono ?_
                rintro e w4 ⟨⟨p, u, rfl, hp, hu, hap⟩, hb⟩
                obtain ⟨ap, cp, rfl, hpl, hpi⟩ := hp.slice
                obtain ⟨au, cu, rfl, hul, hui⟩ := hu.slice
                have hB4 := bNext hb hBr
                have hz4 := hB4.size
                have hrq := fun o => right_any (w4.alloc o) ap au cp cu r ys hrl (hpi.below ((Below.refl _ _).alloc (Nat.le_refl _) _) (Nat.le_refl _))
                rw [Hrt.out] at hrq
                have HRq := Lib.hid hrq
                have hrow4 := Hrow.out.below hb
                have hb43 : Below w3.heap.size w3 w4 := bNext hb hbr
                have hsz34 : wr.heap.size ≤ w4.heap.size := hb.size
                have Hu := Lib.hid hu; have Hrow4 := Lib.hid hrow4; have Hpi := Lib.hid hpi; have Hui := Lib.hid hui
                clear hrq hu hrow4 hb hp hpi hui hS0 hS1 hcxr
                go_wp2_with fail
                refine (HRq.out _).mono ?_
                rintro e w5 ⟨rfl, hb⟩
                have hC1 : w5.cell? ⟨w4.heap.size, 1, none⟩ = some (.slice au ys.length cu) := by rw [hb.cell (p := ⟨w4.heap.size, 1, none⟩) (by simp)]; simp [go_sem]
                have hb45 : Below w4.heap.size w4 w5 := bAfter ((Below.refl _ _).alloc (Nat.le_refl _) _) (by simp) hb
                have hz45 : w4.heap.size < w5.heap.size := by have := hb.size; simp at this; omega
                have hu5 := Hu.out.below hb45
                have hrow5 : w5.ownsRow w3.heap.size 2 1 u6 (k * P) ((d.take (k * P)).map (Value.int .i64)) := by
                  have := Hrow4.out.below hb45
                  unfold RowI at this
                  rwa [Hlk.out] at this
                have hsrc : Src w5 (.slice au ys.length cu) P (ys.map (Value.int .i64)) := by rw [← Hyl.out]; exact ownsRow_src hu5
                have Hu5 := Lib.hid hu5; have Hrow5 := Lib.hid hrow5; have Hsrc := Lib.hid hsrc
                have hdl2 : k * P + P ≤ 65536 := by have := HkP.out; omega
                have hb53 : Below w3.heap.size w3 w5 := bNext hb45 hb43
                have hz35 := hb53.size
                clear hb hu5 hrow5 hsrc
                obtain ⟨kP, hkP⟩ : ∃ kP, k * P = kP := ⟨_, rfl⟩
                rw [hkP] at hdl2
                have HkP2 := Lib.hid hkP; clear hkP
                have Hrow6 : Hid (w5.ownsRow w3.heap.size 2 1 u6 kP ((d.take kP).map (Value.int .i64))) := by have := Hrow5.out; rw [HkP2.out] at this; exact this
                clear Hrow5
                go_wp2_with (at_builtin; (refine wpList_append_src _ rfl _ _ 22 rfl w3.heap.size 2 i0 (.int .i64 0) 1 8 Try.underlying22 Hi.out Hz0.out Hz1.out Hz2.out rfl (by decide) _ kP _ rfl Hrow6.out _ P _ rfl Hsrc.out (by simp [Hyl.out]) (oneCell_ints _ _) (by unfold maxLen; omega) (by omega) hz35 ?_))
                intro v' w6 hown hgrow hnew
                have hub : ∀ g, (Value.slice au ys.length cu).ownBlock = some g → wr.heap.size ≤ g ∧ g < w4.heap.size := fun g hg => Hu.out.lt g hg
                have hrb : ∀ g, u6.ownBlock = some g → w3.heap.size ≤ g ∧ g < wr.heap.size := fun g hg => Hrow.out.lt g hg
                have hu6 : RowI wr.heap.size w6 (.slice au ys.length cu) ys := Hu5.out.kept hgrow (by
                  cases hg : (Value.slice au ys.length cu).ownBlock with
                  | none => exact .inl rfl
                  | some g => exact .inr fun e => by have := (hub g hg).1; have := (hrb g e.symm).2; omega)
                have hv6 : RowI w3.heap.size w6 v' (d.take ((k + 1) * P)) := by
                  unfold RowI
                  rw [Htk.out, List.length_append, Hlk.out, Hyl.out, HkP2.out, List.map_append, List.map_take]
                  exact hown
                have hvu : ∀ g, (Value.slice au ys.length cu).ownBlock = some g → v'.ownBlock ≠ some g := fun g hg e => by
                  have h1 := hub g hg
                  rcases hnew with h | ⟨k', h, h'⟩
                  · rw [h] at e; have := hrb g e; omega
                  · rw [h] at e; cases e; omega
                have hC6 : w6.cell? ⟨w4.heap.size, 1, none⟩ = some (.slice au ys.length cu) := by
                  refine (World.cell?_of_block (hgrow.block w4.heap.size hz45 (fun e => ?_))).trans hC1
                  have := hrb _ e.symm; omega
                have hb63 : Below w3.heap.size w3 w6 := hb53.grown hgrow hz35 (fun g e => (hrb g e).1)
                have hz46 : w4.heap.size < w6.heap.size := Nat.lt_of_lt_of_le hz45 hgrow.size
                have Hub := Lib.hid hub; have Hvu := Lib.hid hvu; have Hu6 := Lib.hid hu6; have Hv6 := Lib.hid hv6; have Hb63 := Lib.hid hb63
                rw [Hyl.out] at hC6
                have HC6 := Lib.hid hC6
                clear hub hrb hu6 hv6 hvu hb63 hown hgrow hnew hC1 hC6
                have hC6 := HC6.out
                go_wp2_with fail
                clear hC6
                obtain ⟨wo, rfl⟩ : ∃ wo : World, wo = wr := ⟨_, rfl⟩
                go_loopw [114] (fun i wi => ∃ (kk : Nat) (L : List Int), kk ≤ P ∧ i = .int .i64 (kk : Int) ∧ L.length = P ∧ RowI wo.heap.size wi (.slice au P cu) L ∧ RowI w3.heap.size wi v' (d.take ((k + 1) * P)) ∧
                  wi.cell? ⟨w4.heap.size, 1, none⟩ = some (.slice au P cu) ∧ Below w3.heap.size w3 wi) (fun i _ => P - (intOf i).toNat)
                case atStart => exact ⟨0, ys, Nat.zero_le _, rfl, Hyl.out, by have := Hu6.out; rw [Hyl.out] at this; exact this, Hv6.out, HC6.out, Hb63.out⟩
                case round =>
                  obtain ⟨kk, L, hkk, rfl, hL, huL, hvL, hCL, hbL⟩ := hrel
                  have HL := Lib.hid hL; have HvL := Lib.hid hvL; have HbL := Lib.hid hbL; clear hL hvL hbL
                  by_cases hkm : kk < P
                  · obtain ⟨gu, cu', hue, hgu1, hgu2⟩ := huL.lit (by rw [HL.out]; omega)
                    rw [HL.out] at hue
                    cases hue
                    have hvne := Hvu.out gu (by rw [Hyl.out]; rfl)
                    have hgu3 := (Hub.out gu (by rw [Hyl.out]; rfl)).2
                    have huo : World.ownsRow wr wo.heap.size 2 1 (.slice (some ⟨gu, 0, none⟩) P cu) P (L.map (Value.int .i64)) := by have := huL; unfold RowI at this; rw [HL.out] at this; exact this
                    have hkc := huo.cellAt kk (by omega)
                    have hkf := huo.frozenAt kk
                    rw [List.getElem?_map, List.getElem?_eq_getElem (by have := HL.out; omega), Option.map_some] at hkc
                    have hk0 : (0 : Int) ≤ (kk : Int) := by omega
                    have hk1 : (kk : Int) < (P : Int) := by omega
                    have HuL := Lib.hid huL
                    clear huL huo
                    go_wp2_with fail
                    go_roundw
                    case rel =>
                      refine ⟨kk + 1, L.set kk 78, by omega, by go_num, by rw [List.length_set]; exact HL.out, HuL.out.stored HL.out.symm kk 78, HvL.out.kept (grownBy_setCellA _ _ _) (.inr hvne), ?_, HbL.out.setCell (p := ⟨gu, kk, none⟩) (by show w3.heap.size ≤ gu; have := hbr.size; omega) _⟩
                      exact (World.cell?_of_block (Below.heap_setCell _ ⟨gu, kk, none⟩ _ w4.heap.size (by show w4.heap.size ≠ gu; omega))).trans hCL
                    case measure => simp [intOf]; omega
                  · have HuL := Lib.hid huL; clear huL
                    go_wp2_with fail
                    go_roundw
                    case rel => exact ⟨k + 1, by omega, by go_num, HvL.out, HbL.out⟩
                    case measure => simp [intOf]; omega
              · obtain rfl : k = xn := by omega
                have hrow := Hrow.out
                rw [← HdxP.out, List.take_length] at hrow
                obtain ⟨av, cv, hve, _, hvI⟩ := hrow.slice
                subst hve
                have hi := ints_any wr av a1 cv c1 d d hd hd hvI (H1.out.below hwr (Nat.le_refl _))
                rw [show ints d d = true from by simp [ints]] at hi
                have HIn := Lib.hid hi
                have hge : ¬ ((k : Int) < x) := by have := Hxn.out; omega
                clear hi hvI hrow Hrow
                go_wp2_with fail
                refine HIn.out.mono ?_
                rintro e w7 ⟨rfl, n7, rfl⟩
                go_wp2_with fail
                go_ret
                exact ⟨rfl, hwr.trans (Below.drewN _ _)⟩

set_option maxRecDepth 100000 in
theorem ArrayParts_lifted (os : Os) (started : os.Started) (H : Type) (enc : TypeId × Value → H) :
    ReturnsInHanded {} Try.checked os 8 .any (Rows.arrayPartsSpec.pre6 enc Try.prog Try.f8 Rows.arrayPartsRow.domain false) (Rows.arrayPartsSpec.post enc Try.prog Try.f8 false true false false) := by
  refine returnsInHanded_of_change (C := Try.checked) own started (by kernel_rfl) Try.func8
    (ChangeSpec.witness6 (enc := enc) (C := Try.checked) false ⟨#[], #[.agg #[.slice none 0 0, .slice none 0 0]], []⟩ 8 (by kernel_rfl) (by kernel_rfl) (by kernel_rfl) (by kernel_rfl)) ?_
  intro W base args ds gs before hval0 hW hcnd _
  have hval : ∀ (j : Nat) t v, Try.f8.params[j]? = some t → args[j]? = some v → Value.okWide Try.prog W .any base t v := hval0
  have hW' := hW
  obtain ⟨p, q, hA0, hV, rfl, hfz, hnd⟩ := hW
  have hA : DataW.TrodAll enc Try.prog W 0 (fun _ => true) true Try.f8.params.toList args.toList ds p := hA0
  rw [Try.params8] at hA hval
  obtain ⟨v0, vs0, d0, ds0, p0, q0, hargs, rfl, rfl, h0, r0⟩ := trodAll_cons hA
  obtain ⟨rfl, rfl, rfl⟩ := trodAll_nil r0
  obtain rfl : args = #[v0] := by cases args; simp_all
  obtain ⟨rfl, rfl⟩ := trodVars_none hV
  have k0 := h0
  have lt0 : ∀ x ∈ p0, x.block < W.heap.size := by obtain ⟨m, hm⟩ := k0; exact DataW.trod_lt m _ _ _ hm
  obtain ⟨va0, vb0, ya0, yb0, n0, rfl, -, -, ta0, tb0⟩ := open_agg2 Try.underlying24 (by kernel_rfl) (by kernel_rfl) (hval 0 24 v0 rfl rfl) h0
  obtain ⟨xs0, s0⟩ := sl_of_trod Try.underlying22 Try.underlying2 (by kernel_rfl) ta0
  obtain ⟨ys0, u0⟩ := sl_of_trod Try.underlying22 Try.underlying2 (by kernel_rfl) tb0
  clear hA0 hval0
  refine (ArrayParts_walk W va0 vb0 xs0 ys0 s0 u0).mono fun e W' ⟨he, bel⟩ => ?_
  subst he
  exact ⟨_, rfl, _, _, _, [], _, [], hW', trodAll_mk1 (shut_bool Try.underlying4 _), (trodAll_cons_mk (Below.trod laidOut (by kernel_rfl) (of_decide_eq_true (by kernel_rfl)) k0 bel lt0) trodAll_mk0), rfl, bel.frame _, fun h => by cases h⟩

/-- The given statement. -/
theorem ArrayParts_holds : Rows.ArrayPartsSaid :=
  OpenClaim.holds_of_wide 8 Try.f8 rfl rfl rfl rfl rfl rfl rfl ⟨rfl, rfl, rfl, rfl, rfl⟩ rfl rfl rfl rfl rfl (by kernel_rfl) Try.func8 (by kernel_rfl)
    (of_decide_eq_true (by kernel_rfl)) (by unfold Func.isWrapper; rw [if_neg (by decide +kernel)]; exact ⟨rfl, rfl⟩)
    (fun os started H enc _ => ArrayParts_lifted os started H enc)
#print axioms ArrayParts_holds
end Go.Proofs.Ytbhhmfkipfedfaa
