import Derived.Test.YtabodlhlanolcaaPB9
import Derived.Test.YtabodlhlanolcaaPB10
namespace Go
section
variable {P : Program} {ops : Array Oper} {Q : Exit → Act → World → Prop} {md : Region.Mode} {S : World → Prop} {z : Nat}
/-- One of two comes up. -/
theorem wpAnyZ_two {i j : Nat} {o p : Oper} {fuel : Nat} {listed : Array Bool} {a : Act} {w : World} (hr : Region.ready md ops listed = [i, j]) (ho : ops[i]? = some o) (hp : ops[j]? = some p) (hg : o.guard = none) (hk : p.guard = none)
    (h : ∀ K : Act → World → Prop, Shut (∀ a w, (z ≤ i ∨ S w) → wpAnyZ P md ops Q S z fuel (listed.setIfInBounds i true) a w → K a w) → o.wp P a w K Q)
    (h2 : ∀ K : Act → World → Prop, Shut (∀ a w, (z ≤ j ∨ S w) → wpAnyZ P md ops Q S z fuel (listed.setIfInBounds j true) a w → K a w) → p.wp P a w K Q) : wpAnyZ P md ops Q S z (fuel + 1) listed a w := by
  refine ⟨fun h0 => (by rw [hr] at h0; cases h0), fun k hk' => ?_⟩
  rw [hr] at hk'
  have hk2 : k = i ∨ k = j := by simpa using hk'
  rcases hk2 with rfl | rfl
  · unfold wpOp
    rw [ho]
    simp only [Region.wanted, hg, if_true]
    exact .inl (h _ (fun a w h1 h2 => ⟨h1, h2⟩))
  · unfold wpOp
    rw [hp]
    simp only [Region.wanted, hk, if_true]
    exact .inl (h2 _ (fun a w h1 h2 => ⟨h1, h2⟩))
end
end Go
namespace Go.Proofs.Ytabodlhlanolcaa
set_option maxRecDepth 100000
open Go.RowKit
set_option linter.unusedVariables false
set_option linter.unusedSimpArgs false
attribute [local go_sem ↓] Go.wp_at_zero Go.wp_at_succ

/-- the place of x among rising numbers -/
def posU (x : Int) : List Int → Nat
  | [] => 0
  | y :: l => if y < x then posU x l + 1 else 0
theorem posU_le (x : Int) : ∀ l : List Int, posU x l ≤ l.length
  | [] => Nat.le_refl _
  | y :: l => by
    rw [posU]
    split
    · have := posU_le x l; simp; omega
    · omega
theorem posU_lt (x : Int) : ∀ (l : List Int) (k : Nat), (h : k < l.length) → k < posU x l → l[k] < x
  | y :: l, 0, h, hk => by
    rw [posU] at hk
    by_cases hy : y < x
    · exact hy
    · rw [if_neg hy] at hk; omega
  | y :: l, k + 1, h, hk => by
    rw [posU] at hk
    by_cases hy : y < x
    · rw [if_pos hy] at hk; exact posU_lt x l k (by simpa using h) (by omega)
    · rw [if_neg hy] at hk; omega
theorem posU_at (x : Int) : ∀ (l : List Int), (h : posU x l < l.length) → ¬ l[posU x l] < x
  | y :: l, h => by
    by_cases hy : y < x
    · have e : posU x (y :: l) = posU x l + 1 := by rw [posU, if_pos hy]
      have := posU_at x l (by rw [e] at h; simpa using h)
      simp only [e, List.getElem_cons_succ]
      exact this
    · have e : posU x (y :: l) = 0 := by rw [posU, if_neg hy]
      simp only [e, List.getElem_cons_zero]
      exact hy
theorem insU_at (x : Int) : ∀ (l : List Int), insU x l = if h : posU x l < l.length ∧ (l[posU x l]?) = some x then l else l.take (posU x l) ++ [x] ++ l.drop (posU x l)
  | [] => by simp [insU, posU]
  | y :: l => by
    rw [insU]
    by_cases hy : y < x
    · have e : posU x (y :: l) = posU x l + 1 := by rw [posU, if_pos hy]
      rw [if_pos hy, insU_at x l, e]
      simp only [List.length_cons, List.getElem?_cons_succ, List.take_succ_cons, List.drop_succ_cons, Nat.add_lt_add_iff_right]
      split <;> simp
    · have e : posU x (y :: l) = 0 := by rw [posU, if_neg hy]
      rw [if_neg hy, e]
      by_cases h2 : y = x
      · simp [h2]
      · simp [h2]
/-- k places of the rising numbers have been passed -/
theorem pos_step {x : Int} {l : List Int} {k : Nat} (hk : k ≤ posU x l) (hl : k < l.length) (h : l[k] < x) : k + 1 ≤ posU x l := by
  by_cases e : k = posU x l
  · subst e; exact absurd h (posU_at x l hl)
  · omega
theorem pos_stop {x : Int} {l : List Int} {k : Nat} (hk : k ≤ posU x l) (h : ∀ hl : k < l.length, ¬ l[k] < x) : k = posU x l := by
  by_cases e : k = posU x l
  · exact e
  · have := posU_le x l
    exact absurd (posU_lt x l k (by omega) (by omega)) (h (by omega))
theorem foldU_step (ks : List Int) (x : Int) : foldU (ks ++ [x]) [] = insU x (foldU ks []) := by unfold foldU; rw [List.foldl_append]; rfl
theorem foldU_len : ∀ (ks o : List Int), (foldU ks o).length ≤ ks.length + o.length
  | [], o => by simp [foldU]
  | k :: ks, o => by
    show (foldU ks (insU k o)).length ≤ _
    have h1 := foldU_len ks (insU k o)
    have h2 : (insU k o).length ≤ o.length + 1 := by
      rw [insU_at]
      split
      · omega
      · have := posU_le k o; simp; omega
    simp only [List.length_cons]
    omega
theorem cut1 {B g nk rc j : Nat} {os : List Int} {W : World} (hO : W.ownsRow B 3 1 (.slice (some ⟨g, 0, none⟩) nk rc) nk (os.map (Value.int .i64))) : ∀ W', Below W.heap.size W W' → Src W' (.slice (some ⟨g, 0, none⟩) j rc) j ((os.take j).map (Value.int .i64)) := fun W' hb =>
  .inr ⟨_, _, rfl, fun i z hz => keepCell hb (World.ownsRow.cells (g := g) (w := W) hO rfl i z (by
    rw [List.map_take] at hz
    rw [List.getElem?_take] at hz
    split at hz
    · exact hz
    · cases hz))⟩
theorem cut2 {B g nk rc j : Nat} {os : List Int} {W : World} (hn : os.length = nk) (hr : nk ≤ rc) (hj : j ≤ nk) (hO : W.ownsRow B 3 1 (.slice (some ⟨g, 0, none⟩) nk rc) nk (os.map (Value.int .i64))) : ∀ W', Below W.heap.size W W' → Src W' (.slice (if rc = j then some ⟨g, 0, none⟩ else some ⟨g, j, none⟩) (nk - j) (rc - j)) (nk - j) ((os.drop j).map (Value.int .i64)) := fun W' hb => by
  by_cases e : rc = j
  · rw [if_pos e]
    exact .inr ⟨_, _, rfl, fun i z hz => by rw [List.drop_eq_nil_of_le (by omega)] at hz; cases hz⟩
  · rw [if_neg e]
    refine .inr ⟨_, _, rfl, fun i z hz => keepCell hb ?_⟩
    have e0 : ∀ m n, (⟨g, m, none⟩ : Addr).add n = ⟨g, m + n, none⟩ := fun m n => by unfold Addr.add; split <;> simp_all
    have e1 : (⟨g, j, none⟩ : Addr).add i = (⟨g, 0, none⟩ : Addr).add (j + i) := by rw [e0, e0, Nat.zero_add]
    rw [e1]
    refine World.ownsRow.cells (g := g) (w := W) hO rfl (j + i) z ?_
    rw [List.map_drop, List.getElem?_drop] at hz
    exact hz
theorem cut0 (W' : World) : Src W' (.slice none 0 0) 0 (([] : List Int).map (Value.int .i64)) := .inl ⟨rfl, rfl, rfl⟩
theorem one_cells {xs : List Int} : ∀ u ∈ xs.map (Value.int .i64), u.oneCell' = true := fun u hu => by obtain ⟨x, _, rfl⟩ := List.mem_map.1 hu; rfl
theorem src_grown {w w' : World} {row : Option Nat} {G m c : Nat} {news : List Value} (h : Src w (.slice (some ⟨G, 0, none⟩) m c) m news) (hg : w.grownBy w' row) (hne : row ≠ some G) : Src w' (.slice (some ⟨G, 0, none⟩) m c) m news := by
  rcases h with ⟨e, _, _⟩ | ⟨ad, c', e, hc⟩
  · cases e
  · cases e
    refine .inr ⟨_, _, rfl, fun j z hz => ?_⟩
    have h1 := hc j z hz
    have e : ((⟨G, 0, none⟩ : Addr).add j) = ⟨G, j, none⟩ := by unfold Addr.add; split <;> simp_all
    rw [e] at h1 ⊢
    exact (World.cell?_of_block (w := w) (a := ⟨G, j, none⟩) (hg.block G (World.block_lt_of_cell? w _ h1) (fun e => hne e.symm))).trans h1
theorem grownBy_of_belowR {w w' : World} (h : Below w.heap.size w w') : w.grownBy w' none := ⟨h.os, h.tape, h.output, h.size, fun k hk _ => h.block k hk⟩
theorem ins_own {wx : World} {B jj nn : Nat} {vx : Value} {nx new os : List Int} {ok : Int} {j : Nat} (h1 : nx = new) (h2 : new = os.take j ++ [ok] ++ os.drop j) (hl1 : ((os.take j).map (Value.int .i64)).length = jj * 1)
    (hl2 : ((os.drop j).map (Value.int .i64)).length = (nn - jj) * 1) (h : wx.ownsRow B 3 1 vx (jj + 1 + (nn - jj)) ((os.take j).map (Value.int .i64) ++ [.int .i64 ok] ++ (os.drop j).map (Value.int .i64))) :
    wx.ownsRow B 3 1 vx nx.length (nx.map (Value.int .i64)) := by
  rw [h1, h2]
  have e : (os.take j ++ [ok] ++ os.drop j).length = jj + 1 + (nn - jj) := by
    rw [List.length_map] at hl1 hl2
    simp only [List.length_append, List.length_singleton]
    omega
  rw [e, List.map_append, List.map_append]
  exact h
theorem newer_ge {w' : World} {B : Nat} {v v' : Value} (h : Newer w' v v') (hv : ∀ q, v.ownBlock = some q → B ≤ q) (hB : B ≤ w'.heap.size) : ∀ q, v'.ownBlock = some q → B ≤ q := by
  intro q hq
  rcases h with e | ⟨k, e, hk⟩
  · exact hv q (by rw [← e]; exact hq)
  · rw [e] at hq; cases hq; omega
set_option maxHeartbeats 16000000 in
theorem ruses_any (w : World) (a : Option Addr) (c : Nat) (l : List Cop) (h : copRep.Els w a l) (hm : l.length ≤ 8796093022208) :
    Calls Try.prog 17 #[.slice a l.length c] w (RetZ w (usesS l)) := by
  have HE := Lib.hid h
  obtain ⟨i0, hi, hz0, hz1, hz2⟩ := info_parts Try.infoIntU
  have Hi := Lib.hid hi; have Hz0 := Lib.hid hz0; have Hz1 := Lib.hid hz1; have Hz2 := Lib.hid hz2; clear hi hz0 hz1 hz2 h
  go_enter Try.func17, Try.ntmps17
  go_wp2_with fail
  go_loopw [3, 4] (fun v i wr => ∃ k : Nat, k ≤ l.length ∧ i = .int .i64 k ∧ wr.ownsRow w.heap.size 3 1 v (foldU (loadsK (l.take k)) []).length ((foldU (loadsK (l.take k)) []).map (Value.int .i64)) ∧ Below w.heap.size w wr) (fun _ i _ => l.length - (intOf i).toNat)
  case atStart => exact ⟨0, Nat.zero_le _, rfl, World.ownsRow_nil _ _ _ _, Below.refl _ _⟩
  case round =>
    obtain ⟨k, hk, rfl, hown, hbel⟩ := hrel
    by_cases hlt : k < l.length
    · have hfl := foldU_len (loadsK (l.take k)) []
      have hkl := loadsK_len (l.take k)
      have hkt := loadsK_take hlt
      have htk : (l.take k).length = k := by simp; omega
      rw [htk] at hkl
      clear htk
      obtain ⟨b, off, cs, rfl, ⟨v, rfl, hs, hh, -⟩, hc⟩ := (HE.out.below copRep hbel (Nat.le_refl _)) k hlt
      have x0 := hc 0 _ rfl; have x1 := hc 1 _ rfl
      simp only [show copRep.n = 5 from rfl, Nat.add_zero] at x0 x1
      obtain ⟨o, ho⟩ : ∃ o, l[k] = o := ⟨_, rfl⟩
      rw [ho] at x0 x1 hkt
      obtain ⟨how, ok, n, p, fn⟩ := o
      dsimp only at x0 x1
      have hz0 : (0 : Int) ≤ (k : Int) := by omega
      have hz1 : (k : Int) < (l.length : Int) := by omega
      have HB := Lib.hid hbel; have HO := Lib.hid hown
      have hos : (foldU (loadsK (l.take k)) []).length ≤ k := by simp at hfl; omega
      by_cases h4 : how = 4
      · subst h4
        have hnx : foldU (loadsK (l.take (k + 1))) [] = insU ok (foldU (loadsK (l.take k)) []) := by rw [hkt]; exact foldU_step _ _
        generalize foldU (loadsK (l.take k)) [] = os at hos hnx HO
        have HNX := Lib.hid hnx
        clear hnx hkt hfl hkl hbel hown hs hh hc ho
        obtain ⟨nk, hnk⟩ : ∃ nk, os.length = nk := ⟨_, rfl⟩
        have HNK := Lib.hid hnk
        rw [hnk] at HO hos
        clear hnk
        obtain ⟨ra, rc, rfl, hrc⟩ : ∃ ra rc, u3 = .slice ra nk rc ∧ nk ≤ rc := by
          rcases HO.out.2 with ⟨e, h0⟩ | ⟨g, cap, cur, e, _, _, h1, _⟩
          · subst h0; exact ⟨_, _, e, Nat.le_refl _⟩
          · exact ⟨_, _, e, h1⟩
        have hcell : ∀ j, (hj : j < os.length) → ∃ g, ra = some ⟨g, 0, none⟩ ∧ wr.cell? ⟨g, j, none⟩ = some (.int .i64 os[j]) := fun j hj => by
          rcases HO.out.2 with ⟨e, h0⟩ | ⟨g, cap, cur, e, _, _, h1, _⟩
          · exfalso; rw [HNK.out] at hj; omega
          · cases e
            refine ⟨g, rfl, ?_⟩
            have := World.ownsRow.cells (g := g) (w := wr) HO.out rfl j (.int .i64 os[j]) (by simp [hj])
            have e : (⟨g, 0, none⟩ : Addr).add j = ⟨g, j, none⟩ := by unfold Addr.add; split <;> simp_all
            rwa [e] at this
        have HC := Lib.hid hcell
        clear hcell
        go_wp2_with fail
        go_loopw [5] (fun q wr' => ∃ j : Nat, j ≤ posU ok os ∧ q = .int .i64 j ∧ ∃ nd, wr' = wr.drewN nd) (fun q _ => nk - (intOf q).toNat)
        case atStart => exact ⟨0, Nat.zero_le _, rfl, 0, rfl⟩
        case round =>
          obtain ⟨j, hj, rfl, nd, rfl⟩ := hrel
          have hpl := posU_le ok os
          rw [HNK.out] at hpl
          by_cases hjl : j < nk
          · have hjl' : j < os.length := by rw [HNK.out]; exact hjl
            obtain ⟨g, rfl, y0⟩ := HC.out j hjl'
            have hstep := @pos_step ok os j hj hjl'
            have hstop := @pos_stop ok os j hj
            obtain ⟨y, hy⟩ : ∃ y, os[j] = y := ⟨_, rfl⟩
            rw [hy] at y0 hstep
            have hj0 : (0 : Int) ≤ (j : Int) := by omega
            have hj1 : (j : Int) < (nk : Int) := by omega
            by_cases hlt2 : y < ok
            · have HS1 := Lib.hid (hstep hlt2)
              clear hstep hstop hy hjl' hpl
              go_upto_region 7 with fail
              go_quiet (fail)
              go_wp2_with fail
              go_roundw
              case rel => exact ⟨j + 1, HS1.out, by go_num, _, rfl⟩
              case measure => simp [intOf]; omega
            · have hlt2' : decide (y < ok) = false := by simpa using hlt2
              have hpos := hstop (fun hl => by rw [hy]; exact hlt2)
              have hins := insU_at ok os
              rw [← hpos] at hins
              by_cases heq : y = ok
              · have HNO := Lib.hid (show insU ok os = os by rw [hins, dif_pos ⟨hjl', by rw [List.getElem?_eq_getElem hjl', hy, heq]⟩])
                subst heq
                clear hstep hstop hjl' hpl hpos hy hins
                go_upto_region 7 with fail
                go_quiet (fail)
                go_upto_region 9 with fail
                go_quiet (fail)
                go_wp2_with fail
                go_roundw
                case rel => exact ⟨k + 1, by omega, by go_num, by rw [HNX.out, HNO.out, HNK.out]; exact HO.out, bNext (Below.drewN _ _) HB.out⟩
                case measure => simp [intOf]; omega
              · have HNEW := Lib.hid (show insU ok os = os.take j ++ [ok] ++ os.drop j by rw [hins, dif_neg (fun hh => heq (by have := hh.2; rw [List.getElem?_eq_getElem hjl', hy] at this; simpa using this))])
                have hyo : (y == ok) = false := beq_eq_false_iff_ne.2 heq
                clear hstep hstop hjl' hpl hpos hy hins heq
                go_upto_region 7 with fail
                go_quiet (fail)
                go_upto_region 9 with fail
                go_quiet (fail)
                go_upto_region 10 with fail
                have hjn : j ≤ nk := by omega
                have hjr : j ≤ rc := by omega
                refine gen_worldA (fun W => Below w.heap.size w W ∧ W.ownsRow w.heap.size 3 1 (.slice (some ⟨g, 0, none⟩) nk rc) nk (os.map (Value.int .i64)) ∧ W.cell? ⟨b, off + k * 5 + 1, none⟩ = some (.int .i64 ok)) ⟨bNext (Below.drewN _ _) (bNext (Below.drewN _ _) (bNext (Below.drewN _ _) HB.out)), HO.out, x1⟩ ?_
                rintro W ⟨hB, hO, hx1⟩
                have HWB := Lib.hid hB
                have HS1 : Hid (∀ W', Below W.heap.size W W' → Src W' _ j ((os.take j).map (Value.int .i64))) := Lib.hid (by first | exact cut1 hO | exact (fun W' _ => by rw [HOSN.out]; exact cut0 W'))
                have HS2 : Hid (∀ W', Below W.heap.size W W' → Src W' _ (nk - j) ((os.drop j).map (Value.int .i64))) := Lib.hid (by first | exact cut2 HNK.out hrc hjn hO | exact (fun W' _ => by rw [HOSN.out]; exact cut0 W'))
                have HL1 := Lib.hid (show ((os.take j).map (Value.int .i64)).length = j * 1 by have := HNK.out; rw [List.length_map, List.length_take]; omega)
                have HL2 := Lib.hid (show ((os.drop j).map (Value.int .i64)).length = (nk - j) * 1 by have := HNK.out; rw [List.length_map, List.length_drop]; omega)
                clear hO hB
                refine wp_region_Z (S := fun W' => W'.cell? ⟨b, off + k * 5 + 1, none⟩ = some (.int .i64 ok)) (z := 16) (by kernel_rfl) ?_
                have hSS : (fun W' : World => W'.cell? ⟨b, off + k * 5 + 1, none⟩ = some (.int .i64 ok)) W.drew := hx1
                refine wpAnyZ_take (i := 1) (v := ?_) rfl (by kernel_rfl) (by kernel_rfl) (by kernel_rfl) (fun _ _ _ h => h) (by kernel_rfl) (Or.inl ⟨by rfl, ?_⟩) (by assumption) ?_
                rotate_left
                · intro w' hSw
                  try dsimp only at hSw
                  try obtain ⟨hSw, hSw2⟩ := hSw
                  go_simp
                  try with_reducible rfl
                show wpAnyZ _ _ _ _ _ _ _ _ (Act.put _ (some 53) _) _
                simp only [Act.put, List.setIfInBounds_toArray, List.set_cons_zero, List.set_cons_succ]
                refine wpAnyZ_take (i := 2) (v := ?_) rfl (by kernel_rfl) (by kernel_rfl) (by kernel_rfl) (fun _ _ _ h => h) (by kernel_rfl) (Or.inl ⟨by rfl, ?_⟩) (by assumption) ?_
                rotate_left
                · intro w' hSw
                  try dsimp only at hSw
                  try obtain ⟨hSw, hSw2⟩ := hSw
                  go_simp
                  try with_reducible rfl
                show wpAnyZ _ _ _ _ _ _ _ _ (Act.put _ (some 54) _) _
                simp only [Act.put, List.setIfInBounds_toArray, List.set_cons_zero, List.set_cons_succ]
                refine wpAnyZ_take (i := 3) (v := ?_) rfl (by kernel_rfl) (by kernel_rfl) (by kernel_rfl) (fun _ _ _ h => h) (by kernel_rfl) (Or.inl ⟨by rfl, ?_⟩) (by assumption) ?_
                rotate_left
                · intro w' hSw
                  try dsimp only at hSw
                  try obtain ⟨hSw, hSw2⟩ := hSw
                  go_simp
                  try with_reducible rfl
                show wpAnyZ _ _ _ _ _ _ _ _ (Act.put _ (some 55) _) _
                simp only [Act.put, List.setIfInBounds_toArray, List.set_cons_zero, List.set_cons_succ]
                refine wpAnyZ_take (i := 5) (v := ?_) rfl (by kernel_rfl) (by kernel_rfl) (by kernel_rfl) (fun _ _ _ h => h) (by kernel_rfl) (Or.inl ⟨by rfl, ?_⟩) (by assumption) ?_
                rotate_left
                · intro w' hSw
                  try dsimp only at hSw
                  try obtain ⟨hSw, hSw2⟩ := hSw
                  go_simp
                  try with_reducible rfl
                show wpAnyZ _ _ _ _ _ _ _ _ (Act.put _ (some 57) _) _
                simp only [Act.put, List.setIfInBounds_toArray, List.set_cons_zero, List.set_cons_succ]
                refine wpAnyZ_take (i := 6) (v := ?_) rfl (by kernel_rfl) (by kernel_rfl) (by kernel_rfl) (fun _ _ _ h => h) (by kernel_rfl) (Or.inl ⟨by rfl, ?_⟩) (by assumption) ?_
                rotate_left
                · intro w' hSw
                  try dsimp only at hSw
                  try obtain ⟨hSw, hSw2⟩ := hSw
                  go_simp
                  try with_reducible rfl
                show wpAnyZ _ _ _ _ _ _ _ _ (Act.put _ (some 58) _) _
                simp only [Act.put, List.setIfInBounds_toArray, List.set_cons_zero, List.set_cons_succ]
                refine wpAnyZ_take (i := 7) (v := ?_) rfl (by kernel_rfl) (by kernel_rfl) (by kernel_rfl) (fun _ _ _ h => h) (by kernel_rfl) (Or.inl ⟨by rfl, ?_⟩) (by assumption) ?_
                rotate_left
                · intro w' hSw
                  try dsimp only at hSw
                  try obtain ⟨hSw, hSw2⟩ := hSw
                  go_simp
                  try with_reducible rfl
                show wpAnyZ _ _ _ _ _ _ _ _ (Act.put _ (some 59) _) _
                simp only [Act.put, List.setIfInBounds_toArray, List.set_cons_zero, List.set_cons_succ]
                refine wpAnyZ_take (i := 8) (v := ?_) rfl (by kernel_rfl) (by kernel_rfl) (by kernel_rfl) (fun _ _ _ h => h) (by kernel_rfl) (Or.inl ⟨by rfl, ?_⟩) (by assumption) ?_
                rotate_left
                · intro w' hSw
                  try dsimp only at hSw
                  try obtain ⟨hSw, hSw2⟩ := hSw
                  go_simp
                  try with_reducible rfl
                show wpAnyZ _ _ _ _ _ _ _ _ (Act.put _ (some 60) _) _
                simp only [Act.put, List.setIfInBounds_toArray, List.set_cons_zero, List.set_cons_succ]
                refine wpAnyZ_take (i := 9) (v := ?_) rfl (by kernel_rfl) (by kernel_rfl) (by kernel_rfl) (fun _ _ _ h => h) (by kernel_rfl) (Or.inl ⟨by rfl, ?_⟩) (by assumption) ?_
                rotate_left
                · intro w' hSw
                  try dsimp only at hSw
                  try obtain ⟨hSw, hSw2⟩ := hSw
                  go_simp
                  try with_reducible rfl
                show wpAnyZ _ _ _ _ _ _ _ _ (Act.put _ (some 61) _) _
                simp only [Act.put, List.setIfInBounds_toArray, List.set_cons_zero, List.set_cons_succ]
                refine wpAnyZ_take (i := 12) (v := ?_) rfl (by kernel_rfl) (by kernel_rfl) (by kernel_rfl) (fun _ _ _ h => h) (by kernel_rfl) (Or.inl ⟨by rfl, ?_⟩) (by assumption) ?_
                rotate_left
                · intro w' hSw
                  try dsimp only at hSw
                  try obtain ⟨hSw, hSw2⟩ := hSw
                  go_simp
                  try with_reducible rfl
                show wpAnyZ _ _ _ _ _ _ _ _ (Act.put _ (some 64) _) _
                simp only [Act.put, List.setIfInBounds_toArray, List.set_cons_zero, List.set_cons_succ]
                refine wpAnyZ_take (i := 13) (v := ?_) rfl (by kernel_rfl) (by kernel_rfl) (by kernel_rfl) (fun _ _ _ h => h) (by kernel_rfl) (Or.inl ⟨by rfl, ?_⟩) (by assumption) ?_
                rotate_left
                · intro w' hSw
                  try dsimp only at hSw
                  try obtain ⟨hSw, hSw2⟩ := hSw
                  go_simp
                  try with_reducible rfl
                show wpAnyZ _ _ _ _ _ _ _ _ (Act.put _ (some 65) _) _
                simp only [Act.put, List.setIfInBounds_toArray, List.set_cons_zero, List.set_cons_succ]
                refine wpAnyZ_take (i := 14) (v := ?_) rfl (by kernel_rfl) (by kernel_rfl) (by kernel_rfl) (fun _ _ _ h => h) (by kernel_rfl) (Or.inl ⟨by rfl, ?_⟩) (by assumption) ?_
                rotate_left
                · intro w' hSw
                  try dsimp only at hSw
                  try obtain ⟨hSw, hSw2⟩ := hSw
                  go_simp
                  try with_reducible rfl
                show wpAnyZ _ _ _ _ _ _ _ _ (Act.put _ (some 66) _) _
                simp only [Act.put, List.setIfInBounds_toArray, List.set_cons_zero, List.set_cons_succ]
                clear hSS
                refine wpAnyZ_two (i := 0) (j := 10) (by kernel_rfl) rfl rfl rfl rfl (fun K hK => ?_) (fun K hK => ?_)
                · go_simp
                  have hb0 : Below W.heap.size W (W.alloc (.cells #[] 3)).drew := ((Below.refl _ _).alloc (Nat.le_refl _) _).drew
                  refine hK.out _ _ (.inr (keepCell hb0 hx1)) ?_
                  clear hK
                  have hlit : (W.alloc (.cells #[] 3)).drew.ownsRow w.heap.size 3 1 (.slice (some ⟨W.heap.size, 0, none⟩) 0 0) 0 [] := World.ownsRow_lit W #[] 0 HWB.out.size (Nat.zero_le _) rfl
                  have HLIT := Lib.hid hlit; have HB0 := Lib.hid hb0
                  clear hlit hb0
                  refine wpAnyZ_two (i := 4) (j := 10) (by kernel_rfl) rfl rfl rfl rfl (fun K hK => ?_) (fun K hK => ?_)
                  · refine wp_append_src _ (.tmp 52) (.tmp 55) 24 rfl w.heap.size 3 i0 _ 1 8 Try.underlying24 Hi.out Hz0.out Hz1.out Hz2.out rfl (by decide) _ 0 [] rfl HLIT.out _ j _ rfl (HS1.out _ HB0.out) HL1.out one_cells (by unfold maxLen; omega) (by omega) (Nat.le_trans HWB.out.size HB0.out.size) ?_
                    intro vz w1 hown hg hnw
                    rw [List.nil_append, Nat.zero_add] at hown
                    have hb1 : Below W.heap.size W w1 := HB0.out.grown hg HB0.out.size (fun q hq => by cases hq; exact Nat.le_refl _)
                    have HVZ := Lib.hid (newer_ge (B := W.heap.size) hnw (fun q hq => by cases hq; exact Nat.le_refl _) HB0.out.size)
                    have hx2 := keepCell hb1 hx1
                    refine hK.out _ _ (.inr hx2) ?_
                    clear hK
                    refine wpAnyZ_one (i := 10) (by kernel_rfl) rfl rfl (fun K hK => ?_)
                    go_simp
                    have hbz : Below W.heap.size W (w1.alloc (.cells #[.int .i64 ok] 3)) := hb1.alloc hb1.size _
                    have HBZ := Lib.hid hbz; have HOZ := Lib.hid (hown.alloc (.cells #[.int .i64 ok] 3))
                    have HLZ := Lib.hid (srcU w1 #[.int .i64 ok] 3 1 [.int .i64 ok] w1.heap.size rfl rfl)
                    refine hK.out _ _ (.inr (keepCell hbz hx1)) ?_
                    clear hK hown hg hb1 hx2 hbz hnw
                    generalize hwz : w1.alloc (.cells #[.int .i64 ok] 3) = wz at HBZ HOZ HLZ ⊢
                    clear hwz
                    refine wpAnyZ_one (i := 11) (by kernel_rfl) rfl rfl (fun K hK => ?_)
                    refine wp_append_src _ (.tmp 56) (.tmp 62) 24 rfl w.heap.size 3 i0 _ 1 8 Try.underlying24 Hi.out Hz0.out Hz1.out Hz2.out rfl (by decide) vz j _ rfl HOZ.out _ 1 [.int .i64 ok] rfl HLZ.out rfl (by intro u hu; cases List.mem_singleton.1 hu; rfl) (by unfold maxLen; omega) (by omega) (Nat.le_trans HWB.out.size HBZ.out.size) ?_
                    intro vy wy hown hg hnw
                    have hby : Below W.heap.size W wy := HBZ.out.grown hg HBZ.out.size (fun q hq => HVZ.out q hq)
                    have HOY := Lib.hid hown; have HBY := Lib.hid hby
                    have HVY := Lib.hid (newer_ge (B := W.heap.size) hnw HVZ.out HBZ.out.size)
                    refine hK.out _ _ (.inr (keepCell hby hx1)) ?_
                    clear hK hown hg hby hnw
                    refine wpAnyZ_one (i := 15) (by kernel_rfl) rfl rfl (fun K hK => ?_)
                    refine wp_append_src _ (.tmp 63) (.tmp 66) 24 rfl w.heap.size 3 i0 _ 1 8 Try.underlying24 Hi.out Hz0.out Hz1.out Hz2.out rfl (by decide) vy (j + 1) _ rfl HOY.out _ (nk - j) _ rfl (HS2.out _ HBY.out) HL2.out one_cells (by unfold maxLen; omega) (by omega) (Nat.le_trans HWB.out.size HBY.out.size) ?_
                    intro vx wx hown hg hnw
                    have hbx : Below W.heap.size W wx := HBY.out.grown hg HBY.out.size (fun q hq => HVY.out q hq)
                    have HOX := Lib.hid hown; have HBX := Lib.hid (bNext hbx HWB.out)
                    refine hK.out _ _ (.inr (keepCell hbx hx1)) ?_
                    clear hK hown hg hbx hnw
                    refine wpAnyZ_one (i := 16) (by kernel_rfl) rfl rfl (fun K hK => ?_)
                    go_simp
                    refine hK.out _ _ (.inl (Nat.le_refl _)) ?_
                    clear hK
                    refine wpAnyZ_done (by kernel_rfl) ?_ _
                    go_wp2_with fail
                    go_roundw
                    case rel => exact ⟨k + 1, by omega, by go_num, (ins_own HNX.out HNEW.out HL1.out HL2.out HOX.out), HBX.out⟩
                    case measure => simp [intOf]; omega
                  · go_simp
                    have hb1 : Below W.heap.size W ((W.alloc (.cells #[] 3)).alloc (.cells #[.int .i64 ok] 3)).drew := (((Below.refl _ _).alloc (Nat.le_refl _) _).alloc (by simp) _).drew
                    have hsr : Src ((W.alloc (.cells #[] 3)).alloc (.cells #[.int .i64 ok] 3)).drew (.slice (some ⟨W.heap.size + 1, 0, none⟩) 1 1) 1 [.int .i64 ok] := srcU (W.alloc (.cells #[] 3)) #[.int .i64 ok] 3 1 [.int .i64 ok] (W.heap.size + 1) (by simp) rfl
                    have hl1 : ((W.alloc (.cells #[] 3)).alloc (.cells #[.int .i64 ok] 3)).drew.ownsRow w.heap.size 3 1 (.slice (some ⟨W.heap.size, 0, none⟩) 0 0) 0 [] := (World.ownsRow_lit W #[] 0 HWB.out.size (Nat.zero_le _) rfl).alloc _
                    refine hK.out _ _ (.inr (keepCell hb1 hx1)) ?_
                    clear hK
                    generalize hw1 : ((W.alloc (.cells #[] 3)).alloc (.cells #[.int .i64 ok] 3)).drew = w1 at hb1 hsr hl1 ⊢
                    clear hw1
                    have HB1 := Lib.hid hb1; have HSR := Lib.hid hsr; have HL0 := Lib.hid hl1
                    clear hb1 hsr hl1 HB0 HLIT
                    refine wpAnyZ_one (i := 4) (by kernel_rfl) rfl rfl (fun K hK => ?_)
                    refine wp_append_src _ (.tmp 52) (.tmp 55) 24 rfl w.heap.size 3 i0 _ 1 8 Try.underlying24 Hi.out Hz0.out Hz1.out Hz2.out rfl (by decide) _ 0 [] rfl HL0.out _ j _ rfl (HS1.out _ HB1.out) HL1.out one_cells (by unfold maxLen; omega) (by omega) (Nat.le_trans HWB.out.size HB1.out.size) ?_
                    intro vz wz hown hg hnw
                    rw [List.nil_append, Nat.zero_add] at hown
                    have hbz : Below W.heap.size W wz := HB1.out.grown hg HB1.out.size (fun q hq => by cases hq; exact Nat.le_refl _)
                    have HVZ := Lib.hid (newer_ge (B := W.heap.size) hnw (fun q hq => by cases hq; exact Nat.le_refl _) HB1.out.size)
                    have HLZ := Lib.hid (src_grown HSR.out hg (fun e => by have h0 : W.heap.size = W.heap.size + 1 := Option.some.inj e; omega))
                    have HOZ := Lib.hid hown; have HBZ := Lib.hid hbz
                    refine hK.out _ _ (.inr (keepCell hbz hx1)) ?_
                    clear hK hown hg hbz hnw
                    refine wpAnyZ_one (i := 11) (by kernel_rfl) rfl rfl (fun K hK => ?_)
                    refine wp_append_src _ (.tmp 56) (.tmp 62) 24 rfl w.heap.size 3 i0 _ 1 8 Try.underlying24 Hi.out Hz0.out Hz1.out Hz2.out rfl (by decide) vz j _ rfl HOZ.out _ 1 [.int .i64 ok] rfl HLZ.out rfl (by intro u hu; cases List.mem_singleton.1 hu; rfl) (by unfold maxLen; omega) (by omega) (Nat.le_trans HWB.out.size HBZ.out.size) ?_
                    intro vy wy hown hg hnw
                    have hby : Below W.heap.size W wy := HBZ.out.grown hg HBZ.out.size (fun q hq => HVZ.out q hq)
                    have HOY := Lib.hid hown; have HBY := Lib.hid hby
                    have HVY := Lib.hid (newer_ge (B := W.heap.size) hnw HVZ.out HBZ.out.size)
                    refine hK.out _ _ (.inr (keepCell hby hx1)) ?_
                    clear hK hown hg hby hnw
                    refine wpAnyZ_one (i := 15) (by kernel_rfl) rfl rfl (fun K hK => ?_)
                    refine wp_append_src _ (.tmp 63) (.tmp 66) 24 rfl w.heap.size 3 i0 _ 1 8 Try.underlying24 Hi.out Hz0.out Hz1.out Hz2.out rfl (by decide) vy (j + 1) _ rfl HOY.out _ (nk - j) _ rfl (HS2.out _ HBY.out) HL2.out one_cells (by unfold maxLen; omega) (by omega) (Nat.le_trans HWB.out.size HBY.out.size) ?_
                    intro vx wx hown hg hnw
                    have hbx : Below W.heap.size W wx := HBY.out.grown hg HBY.out.size (fun q hq => HVY.out q hq)
                    have HOX := Lib.hid hown; have HBX := Lib.hid (bNext hbx HWB.out)
                    refine hK.out _ _ (.inr (keepCell hbx hx1)) ?_
                    clear hK hown hg hbx hnw
                    refine wpAnyZ_one (i := 16) (by kernel_rfl) rfl rfl (fun K hK => ?_)
                    go_simp
                    refine hK.out _ _ (.inl (Nat.le_refl _)) ?_
                    clear hK
                    refine wpAnyZ_done (by kernel_rfl) ?_ _
                    go_wp2_with fail
                    go_roundw
                    case rel => exact ⟨k + 1, by omega, by go_num, (ins_own HNX.out HNEW.out HL1.out HL2.out HOX.out), HBX.out⟩
                    case measure => simp [intOf]; omega
                · go_simp
                  have hb0 : Below W.heap.size W (W.alloc (.cells #[.int .i64 ok] 3)).drew := ((Below.refl _ _).alloc (Nat.le_refl _) _).drew
                  have hsr : Src (W.alloc (.cells #[.int .i64 ok] 3)).drew (.slice (some ⟨W.heap.size, 0, none⟩) 1 1) 1 [.int .i64 ok] := srcU W #[.int .i64 ok] 3 1 [.int .i64 ok] W.heap.size rfl rfl
                  have hlt : W.heap.size < (W.alloc (.cells #[.int .i64 ok] 3)).drew.heap.size := by simp
                  refine hK.out _ _ (.inr (keepCell hb0 hx1)) ?_
                  clear hK
                  generalize hw1 : (W.alloc (.cells #[.int .i64 ok] 3)).drew = w1 at hb0 hsr hlt ⊢
                  clear hw1
                  refine wpAnyZ_one (i := 0) (by kernel_rfl) rfl rfl (fun K hK => ?_)
                  go_simp
                  have hb1 : Below W.heap.size W (w1.alloc (.cells #[] 3)) := hb0.alloc hb0.size _
                  have hl1 : (w1.alloc (.cells #[] 3)).ownsRow w.heap.size 3 1 (.slice (some ⟨w1.heap.size, 0, none⟩) 0 0) 0 [] := World.ownsRow_lit w1 #[] 0 (Nat.le_trans HWB.out.size hb0.size) (Nat.zero_le _) rfl
                  have hsr2 := src_grown hsr (row := none) (grownBy_of_belowR ((Below.refl _ w1).alloc (Nat.le_refl _) (.cells #[] 3))) (by simp)
                  have HB1 := Lib.hid hb1; have HSR := Lib.hid hsr2; have HL0 := Lib.hid hl1; have HLT := Lib.hid hlt
                  refine hK.out _ _ (.inr (keepCell hb1 hx1)) ?_
                  clear hK hb0 hsr hlt hb1 hl1 hsr2
                  refine wpAnyZ_one (i := 4) (by kernel_rfl) rfl rfl (fun K hK => ?_)
                  refine wp_append_src _ (.tmp 52) (.tmp 55) 24 rfl w.heap.size 3 i0 _ 1 8 Try.underlying24 Hi.out Hz0.out Hz1.out Hz2.out rfl (by decide) _ 0 [] rfl HL0.out _ j _ rfl (HS1.out _ HB1.out) HL1.out one_cells (by unfold maxLen; omega) (by omega) (Nat.le_trans HWB.out.size HB1.out.size) ?_
                  intro vz wz hown hg hnw
                  rw [List.nil_append, Nat.zero_add] at hown
                  have hbz : Below W.heap.size W wz := HB1.out.grown hg HB1.out.size (fun q hq => by cases hq; exact Nat.le_of_lt HLT.out)
                  have HVZ := Lib.hid (newer_ge (B := W.heap.size) hnw (fun q hq => by cases hq; exact Nat.le_of_lt HLT.out) HB1.out.size)
                  have HLZ := Lib.hid (src_grown HSR.out hg (fun e => by have h0 : w1.heap.size = W.heap.size := Option.some.inj e; have := HLT.out; omega))
                  have HOZ := Lib.hid hown; have HBZ := Lib.hid hbz
                  refine hK.out _ _ (.inr (keepCell hbz hx1)) ?_
                  clear hK hown hg hbz hnw
                  refine wpAnyZ_one (i := 11) (by kernel_rfl) rfl rfl (fun K hK => ?_)
                  refine wp_append_src _ (.tmp 56) (.tmp 62) 24 rfl w.heap.size 3 i0 _ 1 8 Try.underlying24 Hi.out Hz0.out Hz1.out Hz2.out rfl (by decide) vz j _ rfl HOZ.out _ 1 [.int .i64 ok] rfl HLZ.out rfl (by intro u hu; cases List.mem_singleton.1 hu; rfl) (by unfold maxLen; omega) (by omega) (Nat.le_trans HWB.out.size HBZ.out.size) ?_
                  intro vy wy hown hg hnw
                  have hby : Below W.heap.size W wy := HBZ.out.grown hg HBZ.out.size (fun q hq => HVZ.out q hq)
                  have HOY := Lib.hid hown; have HBY := Lib.hid hby
                  have HVY := Lib.hid (newer_ge (B := W.heap.size) hnw HVZ.out HBZ.out.size)
                  refine hK.out _ _ (.inr (keepCell hby hx1)) ?_
                  clear hK hown hg hby hnw
                  refine wpAnyZ_one (i := 15) (by kernel_rfl) rfl rfl (fun K hK => ?_)
                  refine wp_append_src _ (.tmp 63) (.tmp 66) 24 rfl w.heap.size 3 i0 _ 1 8 Try.underlying24 Hi.out Hz0.out Hz1.out Hz2.out rfl (by decide) vy (j + 1) _ rfl HOY.out _ (nk - j) _ rfl (HS2.out _ HBY.out) HL2.out one_cells (by unfold maxLen; omega) (by omega) (Nat.le_trans HWB.out.size HBY.out.size) ?_
                  intro vx wx hown hg hnw
                  have hbx : Below W.heap.size W wx := HBY.out.grown hg HBY.out.size (fun q hq => HVY.out q hq)
                  have HOX := Lib.hid hown; have HBX := Lib.hid (bNext hbx HWB.out)
                  refine hK.out _ _ (.inr (keepCell hbx hx1)) ?_
                  clear hK hown hg hbx hnw
                  refine wpAnyZ_one (i := 16) (by kernel_rfl) rfl rfl (fun K hK => ?_)
                  go_simp
                  refine hK.out _ _ (.inl (Nat.le_refl _)) ?_
                  clear hK
                  refine wpAnyZ_done (by kernel_rfl) ?_ _
                  go_wp2_with fail
                  go_roundw
                  case rel => exact ⟨k + 1, by omega, by go_num, (ins_own HNX.out HNEW.out HL1.out HL2.out HOX.out), HBX.out⟩
                  case measure => simp [intOf]; omega
                  done
          · have hje : j = nk := by omega
            have hpos := @pos_stop ok os j hj (fun hl => by rw [HNK.out] at hl; omega)
            have hins := insU_at ok os
            rw [← hpos] at hins
            have HNEW := Lib.hid (show insU ok os = os.take j ++ [ok] ++ os.drop j by rw [hins, dif_neg (fun hh => by have := hh.1; rw [HNK.out] at this; omega)])
            have hyd : decide ((j : Int) < (nk : Int)) = false := by rw [decide_eq_false_iff_not]; omega
            have hjn : j ≤ nk := by omega
            have hjr : j ≤ rc := by omega
            have HJE := Lib.hid hje
            clear hpos hins hpl hje
            go_upto_region 7 with fail
            go_quiet (fail)
            go_upto_region 9 with fail
            go_quiet (fail)
            go_upto_region 10 with fail
            rcases HO.out.2 with ⟨e, h0⟩ | ⟨g, cap, cur, e, _, _, _⟩
            · obtain ⟨rfl, rfl, rfl⟩ : ra = none ∧ nk = 0 ∧ rc = 0 := by simpa using e
              obtain rfl : j = 0 := by omega
              have HOSN := Lib.hid (List.eq_nil_of_length_eq_zero HNK.out)
              refine gen_worldA (fun W => Below w.heap.size w W ∧ W.ownsRow w.heap.size 3 1 (.slice none 0 0) 0 (os.map (Value.int .i64)) ∧ W.cell? ⟨b, off + k * 5 + 1, none⟩ = some (.int .i64 ok)) ⟨bNext (Below.drewN _ _) (bNext (Below.drewN _ _) (bNext (Below.drewN _ _) HB.out)), HO.out, x1⟩ ?_
              rintro W ⟨hB, hO, hx1⟩
              have HWB := Lib.hid hB
              have HS1 : Hid (∀ W', Below W.heap.size W W' → Src W' _ 0 ((os.take 0).map (Value.int .i64))) := Lib.hid (by first | exact cut1 hO | exact (fun W' _ => by rw [HOSN.out]; exact cut0 W'))
              have HS2 : Hid (∀ W', Below W.heap.size W W' → Src W' _ (0 - 0) ((os.drop 0).map (Value.int .i64))) := Lib.hid (by first | exact cut2 HNK.out hrc hjn hO | exact (fun W' _ => by rw [HOSN.out]; exact cut0 W'))
              have HL1 := Lib.hid (show ((os.take 0).map (Value.int .i64)).length = 0 * 1 by have := HNK.out; rw [List.length_map, List.length_take]; omega)
              have HL2 := Lib.hid (show ((os.drop 0).map (Value.int .i64)).length = (0 - 0) * 1 by have := HNK.out; rw [List.length_map, List.length_drop]; omega)
              clear hO hB
              refine wp_region_Z (S := fun W' => W'.cell? ⟨b, off + k * 5 + 1, none⟩ = some (.int .i64 ok)) (z := 16) (by kernel_rfl) ?_
              have hSS : (fun W' : World => W'.cell? ⟨b, off + k * 5 + 1, none⟩ = some (.int .i64 ok)) W.drew := hx1
              refine wpAnyZ_take (i := 1) (v := ?_) rfl (by kernel_rfl) (by kernel_rfl) (by kernel_rfl) (fun _ _ _ h => h) (by kernel_rfl) (Or.inl ⟨by rfl, ?_⟩) (by assumption) ?_
              rotate_left
              · intro w' hSw
                try dsimp only at hSw
                try obtain ⟨hSw, hSw2⟩ := hSw
                go_simp
                try with_reducible rfl
              show wpAnyZ _ _ _ _ _ _ _ _ (Act.put _ (some 53) _) _
              simp only [Act.put, List.setIfInBounds_toArray, List.set_cons_zero, List.set_cons_succ]
              refine wpAnyZ_take (i := 2) (v := ?_) rfl (by kernel_rfl) (by kernel_rfl) (by kernel_rfl) (fun _ _ _ h => h) (by kernel_rfl) (Or.inl ⟨by rfl, ?_⟩) (by assumption) ?_
              rotate_left
              · intro w' hSw
                try dsimp only at hSw
                try obtain ⟨hSw, hSw2⟩ := hSw
                go_simp
                try with_reducible rfl
              show wpAnyZ _ _ _ _ _ _ _ _ (Act.put _ (some 54) _) _
              simp only [Act.put, List.setIfInBounds_toArray, List.set_cons_zero, List.set_cons_succ]
              refine wpAnyZ_take (i := 3) (v := ?_) rfl (by kernel_rfl) (by kernel_rfl) (by kernel_rfl) (fun _ _ _ h => h) (by kernel_rfl) (Or.inl ⟨by rfl, ?_⟩) (by assumption) ?_
              rotate_left
              · intro w' hSw
                try dsimp only at hSw
                try obtain ⟨hSw, hSw2⟩ := hSw
                go_simp
                try with_reducible rfl
              show wpAnyZ _ _ _ _ _ _ _ _ (Act.put _ (some 55) _) _
              simp only [Act.put, List.setIfInBounds_toArray, List.set_cons_zero, List.set_cons_succ]
              refine wpAnyZ_take (i := 5) (v := ?_) rfl (by kernel_rfl) (by kernel_rfl) (by kernel_rfl) (fun _ _ _ h => h) (by kernel_rfl) (Or.inl ⟨by rfl, ?_⟩) (by assumption) ?_
              rotate_left
              · intro w' hSw
                try dsimp only at hSw
                try obtain ⟨hSw, hSw2⟩ := hSw
                go_simp
                try with_reducible rfl
              show wpAnyZ _ _ _ _ _ _ _ _ (Act.put _ (some 57) _) _
              simp only [Act.put, List.setIfInBounds_toArray, List.set_cons_zero, List.set_cons_succ]
              refine wpAnyZ_take (i := 6) (v := ?_) rfl (by kernel_rfl) (by kernel_rfl) (by kernel_rfl) (fun _ _ _ h => h) (by kernel_rfl) (Or.inl ⟨by rfl, ?_⟩) (by assumption) ?_
              rotate_left
              · intro w' hSw
                try dsimp only at hSw
                try obtain ⟨hSw, hSw2⟩ := hSw
                go_simp
                try with_reducible rfl
              show wpAnyZ _ _ _ _ _ _ _ _ (Act.put _ (some 58) _) _
              simp only [Act.put, List.setIfInBounds_toArray, List.set_cons_zero, List.set_cons_succ]
              refine wpAnyZ_take (i := 7) (v := ?_) rfl (by kernel_rfl) (by kernel_rfl) (by kernel_rfl) (fun _ _ _ h => h) (by kernel_rfl) (Or.inl ⟨by rfl, ?_⟩) (by assumption) ?_
              rotate_left
              · intro w' hSw
                try dsimp only at hSw
                try obtain ⟨hSw, hSw2⟩ := hSw
                go_simp
                try with_reducible rfl
              show wpAnyZ _ _ _ _ _ _ _ _ (Act.put _ (some 59) _) _
              simp only [Act.put, List.setIfInBounds_toArray, List.set_cons_zero, List.set_cons_succ]
              refine wpAnyZ_take (i := 8) (v := ?_) rfl (by kernel_rfl) (by kernel_rfl) (by kernel_rfl) (fun _ _ _ h => h) (by kernel_rfl) (Or.inl ⟨by rfl, ?_⟩) (by assumption) ?_
              rotate_left
              · intro w' hSw
                try dsimp only at hSw
                try obtain ⟨hSw, hSw2⟩ := hSw
                go_simp
                try with_reducible rfl
              show wpAnyZ _ _ _ _ _ _ _ _ (Act.put _ (some 60) _) _
              simp only [Act.put, List.setIfInBounds_toArray, List.set_cons_zero, List.set_cons_succ]
              refine wpAnyZ_take (i := 9) (v := ?_) rfl (by kernel_rfl) (by kernel_rfl) (by kernel_rfl) (fun _ _ _ h => h) (by kernel_rfl) (Or.inl ⟨by rfl, ?_⟩) (by assumption) ?_
              rotate_left
              · intro w' hSw
                try dsimp only at hSw
                try obtain ⟨hSw, hSw2⟩ := hSw
                go_simp
                try with_reducible rfl
              show wpAnyZ _ _ _ _ _ _ _ _ (Act.put _ (some 61) _) _
              simp only [Act.put, List.setIfInBounds_toArray, List.set_cons_zero, List.set_cons_succ]
              refine wpAnyZ_take (i := 12) (v := ?_) rfl (by kernel_rfl) (by kernel_rfl) (by kernel_rfl) (fun _ _ _ h => h) (by kernel_rfl) (Or.inl ⟨by rfl, ?_⟩) (by assumption) ?_
              rotate_left
              · intro w' hSw
                try dsimp only at hSw
                try obtain ⟨hSw, hSw2⟩ := hSw
                go_simp
                try with_reducible rfl
              show wpAnyZ _ _ _ _ _ _ _ _ (Act.put _ (some 64) _) _
              simp only [Act.put, List.setIfInBounds_toArray, List.set_cons_zero, List.set_cons_succ]
              refine wpAnyZ_take (i := 13) (v := ?_) rfl (by kernel_rfl) (by kernel_rfl) (by kernel_rfl) (fun _ _ _ h => h) (by kernel_rfl) (Or.inl ⟨by rfl, ?_⟩) (by assumption) ?_
              rotate_left
              · intro w' hSw
                try dsimp only at hSw
                try obtain ⟨hSw, hSw2⟩ := hSw
                go_simp
                try with_reducible rfl
              show wpAnyZ _ _ _ _ _ _ _ _ (Act.put _ (some 65) _) _
              simp only [Act.put, List.setIfInBounds_toArray, List.set_cons_zero, List.set_cons_succ]
              refine wpAnyZ_take (i := 14) (v := ?_) rfl (by kernel_rfl) (by kernel_rfl) (by kernel_rfl) (fun _ _ _ h => h) (by kernel_rfl) (Or.inl ⟨by rfl, ?_⟩) (by assumption) ?_
              rotate_left
              · intro w' hSw
                try dsimp only at hSw
                try obtain ⟨hSw, hSw2⟩ := hSw
                go_simp
                try with_reducible rfl
              show wpAnyZ _ _ _ _ _ _ _ _ (Act.put _ (some 66) _) _
              simp only [Act.put, List.setIfInBounds_toArray, List.set_cons_zero, List.set_cons_succ]
              clear hSS
              refine wpAnyZ_two (i := 0) (j := 10) (by kernel_rfl) rfl rfl rfl rfl (fun K hK => ?_) (fun K hK => ?_)
              · go_simp
                have hb0 : Below W.heap.size W (W.alloc (.cells #[] 3)).drew := ((Below.refl _ _).alloc (Nat.le_refl _) _).drew
                refine hK.out _ _ (.inr (keepCell hb0 hx1)) ?_
                clear hK
                have hlit : (W.alloc (.cells #[] 3)).drew.ownsRow w.heap.size 3 1 (.slice (some ⟨W.heap.size, 0, none⟩) 0 0) 0 [] := World.ownsRow_lit W #[] 0 HWB.out.size (Nat.zero_le _) rfl
                have HLIT := Lib.hid hlit; have HB0 := Lib.hid hb0
                clear hlit hb0
                refine wpAnyZ_two (i := 4) (j := 10) (by kernel_rfl) rfl rfl rfl rfl (fun K hK => ?_) (fun K hK => ?_)
                · refine wp_append_src _ (.tmp 52) (.tmp 55) 24 rfl w.heap.size 3 i0 _ 1 8 Try.underlying24 Hi.out Hz0.out Hz1.out Hz2.out rfl (by decide) _ 0 [] rfl HLIT.out _ 0 _ rfl (HS1.out _ HB0.out) HL1.out one_cells (by unfold maxLen; omega) (by omega) (Nat.le_trans HWB.out.size HB0.out.size) ?_
                  intro vz w1 hown hg hnw
                  rw [List.nil_append, Nat.zero_add] at hown
                  have hb1 : Below W.heap.size W w1 := HB0.out.grown hg HB0.out.size (fun q hq => by cases hq; exact Nat.le_refl _)
                  have HVZ := Lib.hid (newer_ge (B := W.heap.size) hnw (fun q hq => by cases hq; exact Nat.le_refl _) HB0.out.size)
                  have hx2 := keepCell hb1 hx1
                  refine hK.out _ _ (.inr hx2) ?_
                  clear hK
                  refine wpAnyZ_one (i := 10) (by kernel_rfl) rfl rfl (fun K hK => ?_)
                  go_simp
                  have hbz : Below W.heap.size W (w1.alloc (.cells #[.int .i64 ok] 3)) := hb1.alloc hb1.size _
                  have HBZ := Lib.hid hbz; have HOZ := Lib.hid (hown.alloc (.cells #[.int .i64 ok] 3))
                  have HLZ := Lib.hid (srcU w1 #[.int .i64 ok] 3 1 [.int .i64 ok] w1.heap.size rfl rfl)
                  refine hK.out _ _ (.inr (keepCell hbz hx1)) ?_
                  clear hK hown hg hb1 hx2 hbz hnw
                  generalize hwz : w1.alloc (.cells #[.int .i64 ok] 3) = wz at HBZ HOZ HLZ ⊢
                  clear hwz
                  refine wpAnyZ_one (i := 11) (by kernel_rfl) rfl rfl (fun K hK => ?_)
                  refine wp_append_src _ (.tmp 56) (.tmp 62) 24 rfl w.heap.size 3 i0 _ 1 8 Try.underlying24 Hi.out Hz0.out Hz1.out Hz2.out rfl (by decide) vz 0 _ rfl HOZ.out _ 1 [.int .i64 ok] rfl HLZ.out rfl (by intro u hu; cases List.mem_singleton.1 hu; rfl) (by unfold maxLen; omega) (by omega) (Nat.le_trans HWB.out.size HBZ.out.size) ?_
                  intro vy wy hown hg hnw
                  have hby : Below W.heap.size W wy := HBZ.out.grown hg HBZ.out.size (fun q hq => HVZ.out q hq)
                  have HOY := Lib.hid hown; have HBY := Lib.hid hby
                  have HVY := Lib.hid (newer_ge (B := W.heap.size) hnw HVZ.out HBZ.out.size)
                  refine hK.out _ _ (.inr (keepCell hby hx1)) ?_
                  clear hK hown hg hby hnw
                  refine wpAnyZ_one (i := 15) (by kernel_rfl) rfl rfl (fun K hK => ?_)
                  refine wp_append_src _ (.tmp 63) (.tmp 66) 24 rfl w.heap.size 3 i0 _ 1 8 Try.underlying24 Hi.out Hz0.out Hz1.out Hz2.out rfl (by decide) vy (0 + 1) _ rfl HOY.out _ (0 - 0) _ rfl (HS2.out _ HBY.out) HL2.out one_cells (by unfold maxLen; omega) (by omega) (Nat.le_trans HWB.out.size HBY.out.size) ?_
                  intro vx wx hown hg hnw
                  have hbx : Below W.heap.size W wx := HBY.out.grown hg HBY.out.size (fun q hq => HVY.out q hq)
                  have HOX := Lib.hid hown; have HBX := Lib.hid (bNext hbx HWB.out)
                  refine hK.out _ _ (.inr (keepCell hbx hx1)) ?_
                  clear hK hown hg hbx hnw
                  refine wpAnyZ_one (i := 16) (by kernel_rfl) rfl rfl (fun K hK => ?_)
                  go_simp
                  refine hK.out _ _ (.inl (Nat.le_refl _)) ?_
                  clear hK
                  refine wpAnyZ_done (by kernel_rfl) ?_ _
                  go_wp2_with fail
                  go_roundw
                  case rel => exact ⟨k + 1, by omega, by go_num, (ins_own HNX.out HNEW.out HL1.out HL2.out HOX.out), HBX.out⟩
                  case measure => simp [intOf]; omega
                · go_simp
                  have hb1 : Below W.heap.size W ((W.alloc (.cells #[] 3)).alloc (.cells #[.int .i64 ok] 3)).drew := (((Below.refl _ _).alloc (Nat.le_refl _) _).alloc (by simp) _).drew
                  have hsr : Src ((W.alloc (.cells #[] 3)).alloc (.cells #[.int .i64 ok] 3)).drew (.slice (some ⟨W.heap.size + 1, 0, none⟩) 1 1) 1 [.int .i64 ok] := srcU (W.alloc (.cells #[] 3)) #[.int .i64 ok] 3 1 [.int .i64 ok] (W.heap.size + 1) (by simp) rfl
                  have hl1 : ((W.alloc (.cells #[] 3)).alloc (.cells #[.int .i64 ok] 3)).drew.ownsRow w.heap.size 3 1 (.slice (some ⟨W.heap.size, 0, none⟩) 0 0) 0 [] := (World.ownsRow_lit W #[] 0 HWB.out.size (Nat.zero_le _) rfl).alloc _
                  refine hK.out _ _ (.inr (keepCell hb1 hx1)) ?_
                  clear hK
                  generalize hw1 : ((W.alloc (.cells #[] 3)).alloc (.cells #[.int .i64 ok] 3)).drew = w1 at hb1 hsr hl1 ⊢
                  clear hw1
                  have HB1 := Lib.hid hb1; have HSR := Lib.hid hsr; have HL0 := Lib.hid hl1
                  clear hb1 hsr hl1 HB0 HLIT
                  refine wpAnyZ_one (i := 4) (by kernel_rfl) rfl rfl (fun K hK => ?_)
                  refine wp_append_src _ (.tmp 52) (.tmp 55) 24 rfl w.heap.size 3 i0 _ 1 8 Try.underlying24 Hi.out Hz0.out Hz1.out Hz2.out rfl (by decide) _ 0 [] rfl HL0.out _ 0 _ rfl (HS1.out _ HB1.out) HL1.out one_cells (by unfold maxLen; omega) (by omega) (Nat.le_trans HWB.out.size HB1.out.size) ?_
                  intro vz wz hown hg hnw
                  rw [List.nil_append, Nat.zero_add] at hown
                  have hbz : Below W.heap.size W wz := HB1.out.grown hg HB1.out.size (fun q hq => by cases hq; exact Nat.le_refl _)
                  have HVZ := Lib.hid (newer_ge (B := W.heap.size) hnw (fun q hq => by cases hq; exact Nat.le_refl _) HB1.out.size)
                  have HLZ := Lib.hid (src_grown HSR.out hg (fun e => by have h0 : W.heap.size = W.heap.size + 1 := Option.some.inj e; omega))
                  have HOZ := Lib.hid hown; have HBZ := Lib.hid hbz
                  refine hK.out _ _ (.inr (keepCell hbz hx1)) ?_
                  clear hK hown hg hbz hnw
                  refine wpAnyZ_one (i := 11) (by kernel_rfl) rfl rfl (fun K hK => ?_)
                  refine wp_append_src _ (.tmp 56) (.tmp 62) 24 rfl w.heap.size 3 i0 _ 1 8 Try.underlying24 Hi.out Hz0.out Hz1.out Hz2.out rfl (by decide) vz 0 _ rfl HOZ.out _ 1 [.int .i64 ok] rfl HLZ.out rfl (by intro u hu; cases List.mem_singleton.1 hu; rfl) (by unfold maxLen; omega) (by omega) (Nat.le_trans HWB.out.size HBZ.out.size) ?_
                  intro vy wy hown hg hnw
                  have hby : Below W.heap.size W wy := HBZ.out.grown hg HBZ.out.size (fun q hq => HVZ.out q hq)
                  have HOY := Lib.hid hown; have HBY := Lib.hid hby
                  have HVY := Lib.hid (newer_ge (B := W.heap.size) hnw HVZ.out HBZ.out.size)
                  refine hK.out _ _ (.inr (keepCell hby hx1)) ?_
                  clear hK hown hg hby hnw
                  refine wpAnyZ_one (i := 15) (by kernel_rfl) rfl rfl (fun K hK => ?_)
                  refine wp_append_src _ (.tmp 63) (.tmp 66) 24 rfl w.heap.size 3 i0 _ 1 8 Try.underlying24 Hi.out Hz0.out Hz1.out Hz2.out rfl (by decide) vy (0 + 1) _ rfl HOY.out _ (0 - 0) _ rfl (HS2.out _ HBY.out) HL2.out one_cells (by unfold maxLen; omega) (by omega) (Nat.le_trans HWB.out.size HBY.out.size) ?_
                  intro vx wx hown hg hnw
                  have hbx : Below W.heap.size W wx := HBY.out.grown hg HBY.out.size (fun q hq => HVY.out q hq)
                  have HOX := Lib.hid hown; have HBX := Lib.hid (bNext hbx HWB.out)
                  refine hK.out _ _ (.inr (keepCell hbx hx1)) ?_
                  clear hK hown hg hbx hnw
                  refine wpAnyZ_one (i := 16) (by kernel_rfl) rfl rfl (fun K hK => ?_)
                  go_simp
                  refine hK.out _ _ (.inl (Nat.le_refl _)) ?_
                  clear hK
                  refine wpAnyZ_done (by kernel_rfl) ?_ _
                  go_wp2_with fail
                  go_roundw
                  case rel => exact ⟨k + 1, by omega, by go_num, (ins_own HNX.out HNEW.out HL1.out HL2.out HOX.out), HBX.out⟩
                  case measure => simp [intOf]; omega
              · go_simp
                have hb0 : Below W.heap.size W (W.alloc (.cells #[.int .i64 ok] 3)).drew := ((Below.refl _ _).alloc (Nat.le_refl _) _).drew
                have hsr : Src (W.alloc (.cells #[.int .i64 ok] 3)).drew (.slice (some ⟨W.heap.size, 0, none⟩) 1 1) 1 [.int .i64 ok] := srcU W #[.int .i64 ok] 3 1 [.int .i64 ok] W.heap.size rfl rfl
                have hlt : W.heap.size < (W.alloc (.cells #[.int .i64 ok] 3)).drew.heap.size := by simp
                refine hK.out _ _ (.inr (keepCell hb0 hx1)) ?_
                clear hK
                generalize hw1 : (W.alloc (.cells #[.int .i64 ok] 3)).drew = w1 at hb0 hsr hlt ⊢
                clear hw1
                refine wpAnyZ_one (i := 0) (by kernel_rfl) rfl rfl (fun K hK => ?_)
                go_simp
                have hb1 : Below W.heap.size W (w1.alloc (.cells #[] 3)) := hb0.alloc hb0.size _
                have hl1 : (w1.alloc (.cells #[] 3)).ownsRow w.heap.size 3 1 (.slice (some ⟨w1.heap.size, 0, none⟩) 0 0) 0 [] := World.ownsRow_lit w1 #[] 0 (Nat.le_trans HWB.out.size hb0.size) (Nat.zero_le _) rfl
                have hsr2 := src_grown hsr (row := none) (grownBy_of_belowR ((Below.refl _ w1).alloc (Nat.le_refl _) (.cells #[] 3))) (by simp)
                have HB1 := Lib.hid hb1; have HSR := Lib.hid hsr2; have HL0 := Lib.hid hl1; have HLT := Lib.hid hlt
                refine hK.out _ _ (.inr (keepCell hb1 hx1)) ?_
                clear hK hb0 hsr hlt hb1 hl1 hsr2
                refine wpAnyZ_one (i := 4) (by kernel_rfl) rfl rfl (fun K hK => ?_)
                refine wp_append_src _ (.tmp 52) (.tmp 55) 24 rfl w.heap.size 3 i0 _ 1 8 Try.underlying24 Hi.out Hz0.out Hz1.out Hz2.out rfl (by decide) _ 0 [] rfl HL0.out _ 0 _ rfl (HS1.out _ HB1.out) HL1.out one_cells (by unfold maxLen; omega) (by omega) (Nat.le_trans HWB.out.size HB1.out.size) ?_
                intro vz wz hown hg hnw
                rw [List.nil_append, Nat.zero_add] at hown
                have hbz : Below W.heap.size W wz := HB1.out.grown hg HB1.out.size (fun q hq => by cases hq; exact Nat.le_of_lt HLT.out)
                have HVZ := Lib.hid (newer_ge (B := W.heap.size) hnw (fun q hq => by cases hq; exact Nat.le_of_lt HLT.out) HB1.out.size)
                have HLZ := Lib.hid (src_grown HSR.out hg (fun e => by have h0 : w1.heap.size = W.heap.size := Option.some.inj e; have := HLT.out; omega))
                have HOZ := Lib.hid hown; have HBZ := Lib.hid hbz
                refine hK.out _ _ (.inr (keepCell hbz hx1)) ?_
                clear hK hown hg hbz hnw
                refine wpAnyZ_one (i := 11) (by kernel_rfl) rfl rfl (fun K hK => ?_)
                refine wp_append_src _ (.tmp 56) (.tmp 62) 24 rfl w.heap.size 3 i0 _ 1 8 Try.underlying24 Hi.out Hz0.out Hz1.out Hz2.out rfl (by decide) vz 0 _ rfl HOZ.out _ 1 [.int .i64 ok] rfl HLZ.out rfl (by intro u hu; cases List.mem_singleton.1 hu; rfl) (by unfold maxLen; omega) (by omega) (Nat.le_trans HWB.out.size HBZ.out.size) ?_
                intro vy wy hown hg hnw
                have hby : Below W.heap.size W wy := HBZ.out.grown hg HBZ.out.size (fun q hq => HVZ.out q hq)
                have HOY := Lib.hid hown; have HBY := Lib.hid hby
                have HVY := Lib.hid (newer_ge (B := W.heap.size) hnw HVZ.out HBZ.out.size)
                refine hK.out _ _ (.inr (keepCell hby hx1)) ?_
                clear hK hown hg hby hnw
                refine wpAnyZ_one (i := 15) (by kernel_rfl) rfl rfl (fun K hK => ?_)
                refine wp_append_src _ (.tmp 63) (.tmp 66) 24 rfl w.heap.size 3 i0 _ 1 8 Try.underlying24 Hi.out Hz0.out Hz1.out Hz2.out rfl (by decide) vy (0 + 1) _ rfl HOY.out _ (0 - 0) _ rfl (HS2.out _ HBY.out) HL2.out one_cells (by unfold maxLen; omega) (by omega) (Nat.le_trans HWB.out.size HBY.out.size) ?_
                intro vx wx hown hg hnw
                have hbx : Below W.heap.size W wx := HBY.out.grown hg HBY.out.size (fun q hq => HVY.out q hq)
                have HOX := Lib.hid hown; have HBX := Lib.hid (bNext hbx HWB.out)
                refine hK.out _ _ (.inr (keepCell hbx hx1)) ?_
                clear hK hown hg hbx hnw
                refine wpAnyZ_one (i := 16) (by kernel_rfl) rfl rfl (fun K hK => ?_)
                go_simp
                refine hK.out _ _ (.inl (Nat.le_refl _)) ?_
                clear hK
                refine wpAnyZ_done (by kernel_rfl) ?_ _
                go_wp2_with fail
                go_roundw
                case rel => exact ⟨k + 1, by omega, by go_num, (ins_own HNX.out HNEW.out HL1.out HL2.out HOX.out), HBX.out⟩
                case measure => simp [intOf]; omega
                done
            · obtain ⟨rfl, -⟩ : ra = some ⟨g, 0, none⟩ ∧ rc = cap := by simpa using e
              clear e
              refine gen_worldA (fun W => Below w.heap.size w W ∧ W.ownsRow w.heap.size 3 1 (.slice (some ⟨g, 0, none⟩) nk rc) nk (os.map (Value.int .i64)) ∧ W.cell? ⟨b, off + k * 5 + 1, none⟩ = some (.int .i64 ok)) ⟨bNext (Below.drewN _ _) (bNext (Below.drewN _ _) (bNext (Below.drewN _ _) HB.out)), HO.out, x1⟩ ?_
              rintro W ⟨hB, hO, hx1⟩
              have HWB := Lib.hid hB
              have HS1 : Hid (∀ W', Below W.heap.size W W' → Src W' _ j ((os.take j).map (Value.int .i64))) := Lib.hid (by first | exact cut1 hO | exact (fun W' _ => by rw [HOSN.out]; exact cut0 W'))
              have HS2 : Hid (∀ W', Below W.heap.size W W' → Src W' _ (nk - j) ((os.drop j).map (Value.int .i64))) := Lib.hid (by first | exact cut2 HNK.out hrc hjn hO | exact (fun W' _ => by rw [HOSN.out]; exact cut0 W'))
              have HL1 := Lib.hid (show ((os.take j).map (Value.int .i64)).length = j * 1 by have := HNK.out; rw [List.length_map, List.length_take]; omega)
              have HL2 := Lib.hid (show ((os.drop j).map (Value.int .i64)).length = (nk - j) * 1 by have := HNK.out; rw [List.length_map, List.length_drop]; omega)
              clear hO hB
              refine wp_region_Z (S := fun W' => W'.cell? ⟨b, off + k * 5 + 1, none⟩ = some (.int .i64 ok)) (z := 16) (by kernel_rfl) ?_
              have hSS : (fun W' : World => W'.cell? ⟨b, off + k * 5 + 1, none⟩ = some (.int .i64 ok)) W.drew := hx1
              refine wpAnyZ_take (i := 1) (v := ?_) rfl (by kernel_rfl) (by kernel_rfl) (by kernel_rfl) (fun _ _ _ h => h) (by kernel_rfl) (Or.inl ⟨by rfl, ?_⟩) (by assumption) ?_
              rotate_left
              · intro w' hSw
                try dsimp only at hSw
                try obtain ⟨hSw, hSw2⟩ := hSw
                go_simp
                try with_reducible rfl
              show wpAnyZ _ _ _ _ _ _ _ _ (Act.put _ (some 53) _) _
              simp only [Act.put, List.setIfInBounds_toArray, List.set_cons_zero, List.set_cons_succ]
              refine wpAnyZ_take (i := 2) (v := ?_) rfl (by kernel_rfl) (by kernel_rfl) (by kernel_rfl) (fun _ _ _ h => h) (by kernel_rfl) (Or.inl ⟨by rfl, ?_⟩) (by assumption) ?_
              rotate_left
              · intro w' hSw
                try dsimp only at hSw
                try obtain ⟨hSw, hSw2⟩ := hSw
                go_simp
                try with_reducible rfl
              show wpAnyZ _ _ _ _ _ _ _ _ (Act.put _ (some 54) _) _
              simp only [Act.put, List.setIfInBounds_toArray, List.set_cons_zero, List.set_cons_succ]
              refine wpAnyZ_take (i := 3) (v := ?_) rfl (by kernel_rfl) (by kernel_rfl) (by kernel_rfl) (fun _ _ _ h => h) (by kernel_rfl) (Or.inl ⟨by rfl, ?_⟩) (by assumption) ?_
              rotate_left
              · intro w' hSw
                try dsimp only at hSw
                try obtain ⟨hSw, hSw2⟩ := hSw
                go_simp
                try with_reducible rfl
              show wpAnyZ _ _ _ _ _ _ _ _ (Act.put _ (some 55) _) _
              simp only [Act.put, List.setIfInBounds_toArray, List.set_cons_zero, List.set_cons_succ]
              refine wpAnyZ_take (i := 5) (v := ?_) rfl (by kernel_rfl) (by kernel_rfl) (by kernel_rfl) (fun _ _ _ h => h) (by kernel_rfl) (Or.inl ⟨by rfl, ?_⟩) (by assumption) ?_
              rotate_left
              · intro w' hSw
                try dsimp only at hSw
                try obtain ⟨hSw, hSw2⟩ := hSw
                go_simp
                try with_reducible rfl
              show wpAnyZ _ _ _ _ _ _ _ _ (Act.put _ (some 57) _) _
              simp only [Act.put, List.setIfInBounds_toArray, List.set_cons_zero, List.set_cons_succ]
              refine wpAnyZ_take (i := 6) (v := ?_) rfl (by kernel_rfl) (by kernel_rfl) (by kernel_rfl) (fun _ _ _ h => h) (by kernel_rfl) (Or.inl ⟨by rfl, ?_⟩) (by assumption) ?_
              rotate_left
              · intro w' hSw
                try dsimp only at hSw
                try obtain ⟨hSw, hSw2⟩ := hSw
                go_simp
                try with_reducible rfl
              show wpAnyZ _ _ _ _ _ _ _ _ (Act.put _ (some 58) _) _
              simp only [Act.put, List.setIfInBounds_toArray, List.set_cons_zero, List.set_cons_succ]
              refine wpAnyZ_take (i := 7) (v := ?_) rfl (by kernel_rfl) (by kernel_rfl) (by kernel_rfl) (fun _ _ _ h => h) (by kernel_rfl) (Or.inl ⟨by rfl, ?_⟩) (by assumption) ?_
              rotate_left
              · intro w' hSw
                try dsimp only at hSw
                try obtain ⟨hSw, hSw2⟩ := hSw
                go_simp
                try with_reducible rfl
              show wpAnyZ _ _ _ _ _ _ _ _ (Act.put _ (some 59) _) _
              simp only [Act.put, List.setIfInBounds_toArray, List.set_cons_zero, List.set_cons_succ]
              refine wpAnyZ_take (i := 8) (v := ?_) rfl (by kernel_rfl) (by kernel_rfl) (by kernel_rfl) (fun _ _ _ h => h) (by kernel_rfl) (Or.inl ⟨by rfl, ?_⟩) (by assumption) ?_
              rotate_left
              · intro w' hSw
                try dsimp only at hSw
                try obtain ⟨hSw, hSw2⟩ := hSw
                go_simp
                try with_reducible rfl
              show wpAnyZ _ _ _ _ _ _ _ _ (Act.put _ (some 60) _) _
              simp only [Act.put, List.setIfInBounds_toArray, List.set_cons_zero, List.set_cons_succ]
              refine wpAnyZ_take (i := 9) (v := ?_) rfl (by kernel_rfl) (by kernel_rfl) (by kernel_rfl) (fun _ _ _ h => h) (by kernel_rfl) (Or.inl ⟨by rfl, ?_⟩) (by assumption) ?_
              rotate_left
              · intro w' hSw
                try dsimp only at hSw
                try obtain ⟨hSw, hSw2⟩ := hSw
                go_simp
                try with_reducible rfl
              show wpAnyZ _ _ _ _ _ _ _ _ (Act.put _ (some 61) _) _
              simp only [Act.put, List.setIfInBounds_toArray, List.set_cons_zero, List.set_cons_succ]
              refine wpAnyZ_take (i := 12) (v := ?_) rfl (by kernel_rfl) (by kernel_rfl) (by kernel_rfl) (fun _ _ _ h => h) (by kernel_rfl) (Or.inl ⟨by rfl, ?_⟩) (by assumption) ?_
              rotate_left
              · intro w' hSw
                try dsimp only at hSw
                try obtain ⟨hSw, hSw2⟩ := hSw
                go_simp
                try with_reducible rfl
              show wpAnyZ _ _ _ _ _ _ _ _ (Act.put _ (some 64) _) _
              simp only [Act.put, List.setIfInBounds_toArray, List.set_cons_zero, List.set_cons_succ]
              refine wpAnyZ_take (i := 13) (v := ?_) rfl (by kernel_rfl) (by kernel_rfl) (by kernel_rfl) (fun _ _ _ h => h) (by kernel_rfl) (Or.inl ⟨by rfl, ?_⟩) (by assumption) ?_
              rotate_left
              · intro w' hSw
                try dsimp only at hSw
                try obtain ⟨hSw, hSw2⟩ := hSw
                go_simp
                try with_reducible rfl
              show wpAnyZ _ _ _ _ _ _ _ _ (Act.put _ (some 65) _) _
              simp only [Act.put, List.setIfInBounds_toArray, List.set_cons_zero, List.set_cons_succ]
              refine wpAnyZ_take (i := 14) (v := ?_) rfl (by kernel_rfl) (by kernel_rfl) (by kernel_rfl) (fun _ _ _ h => h) (by kernel_rfl) (Or.inl ⟨by rfl, ?_⟩) (by assumption) ?_
              rotate_left
              · intro w' hSw
                try dsimp only at hSw
                try obtain ⟨hSw, hSw2⟩ := hSw
                go_simp
                try with_reducible rfl
              show wpAnyZ _ _ _ _ _ _ _ _ (Act.put _ (some 66) _) _
              simp only [Act.put, List.setIfInBounds_toArray, List.set_cons_zero, List.set_cons_succ]
              clear hSS
              refine wpAnyZ_two (i := 0) (j := 10) (by kernel_rfl) rfl rfl rfl rfl (fun K hK => ?_) (fun K hK => ?_)
              · go_simp
                have hb0 : Below W.heap.size W (W.alloc (.cells #[] 3)).drew := ((Below.refl _ _).alloc (Nat.le_refl _) _).drew
                refine hK.out _ _ (.inr (keepCell hb0 hx1)) ?_
                clear hK
                have hlit : (W.alloc (.cells #[] 3)).drew.ownsRow w.heap.size 3 1 (.slice (some ⟨W.heap.size, 0, none⟩) 0 0) 0 [] := World.ownsRow_lit W #[] 0 HWB.out.size (Nat.zero_le _) rfl
                have HLIT := Lib.hid hlit; have HB0 := Lib.hid hb0
                clear hlit hb0
                refine wpAnyZ_two (i := 4) (j := 10) (by kernel_rfl) rfl rfl rfl rfl (fun K hK => ?_) (fun K hK => ?_)
                · refine wp_append_src _ (.tmp 52) (.tmp 55) 24 rfl w.heap.size 3 i0 _ 1 8 Try.underlying24 Hi.out Hz0.out Hz1.out Hz2.out rfl (by decide) _ 0 [] rfl HLIT.out _ j _ rfl (HS1.out _ HB0.out) HL1.out one_cells (by unfold maxLen; omega) (by omega) (Nat.le_trans HWB.out.size HB0.out.size) ?_
                  intro vz w1 hown hg hnw
                  rw [List.nil_append, Nat.zero_add] at hown
                  have hb1 : Below W.heap.size W w1 := HB0.out.grown hg HB0.out.size (fun q hq => by cases hq; exact Nat.le_refl _)
                  have HVZ := Lib.hid (newer_ge (B := W.heap.size) hnw (fun q hq => by cases hq; exact Nat.le_refl _) HB0.out.size)
                  have hx2 := keepCell hb1 hx1
                  refine hK.out _ _ (.inr hx2) ?_
                  clear hK
                  refine wpAnyZ_one (i := 10) (by kernel_rfl) rfl rfl (fun K hK => ?_)
                  go_simp
                  have hbz : Below W.heap.size W (w1.alloc (.cells #[.int .i64 ok] 3)) := hb1.alloc hb1.size _
                  have HBZ := Lib.hid hbz; have HOZ := Lib.hid (hown.alloc (.cells #[.int .i64 ok] 3))
                  have HLZ := Lib.hid (srcU w1 #[.int .i64 ok] 3 1 [.int .i64 ok] w1.heap.size rfl rfl)
                  refine hK.out _ _ (.inr (keepCell hbz hx1)) ?_
                  clear hK hown hg hb1 hx2 hbz hnw
                  generalize hwz : w1.alloc (.cells #[.int .i64 ok] 3) = wz at HBZ HOZ HLZ ⊢
                  clear hwz
                  refine wpAnyZ_one (i := 11) (by kernel_rfl) rfl rfl (fun K hK => ?_)
                  refine wp_append_src _ (.tmp 56) (.tmp 62) 24 rfl w.heap.size 3 i0 _ 1 8 Try.underlying24 Hi.out Hz0.out Hz1.out Hz2.out rfl (by decide) vz j _ rfl HOZ.out _ 1 [.int .i64 ok] rfl HLZ.out rfl (by intro u hu; cases List.mem_singleton.1 hu; rfl) (by unfold maxLen; omega) (by omega) (Nat.le_trans HWB.out.size HBZ.out.size) ?_
                  intro vy wy hown hg hnw
                  have hby : Below W.heap.size W wy := HBZ.out.grown hg HBZ.out.size (fun q hq => HVZ.out q hq)
                  have HOY := Lib.hid hown; have HBY := Lib.hid hby
                  have HVY := Lib.hid (newer_ge (B := W.heap.size) hnw HVZ.out HBZ.out.size)
                  refine hK.out _ _ (.inr (keepCell hby hx1)) ?_
                  clear hK hown hg hby hnw
                  refine wpAnyZ_one (i := 15) (by kernel_rfl) rfl rfl (fun K hK => ?_)
                  refine wp_append_src _ (.tmp 63) (.tmp 66) 24 rfl w.heap.size 3 i0 _ 1 8 Try.underlying24 Hi.out Hz0.out Hz1.out Hz2.out rfl (by decide) vy (j + 1) _ rfl HOY.out _ (nk - j) _ rfl (HS2.out _ HBY.out) HL2.out one_cells (by unfold maxLen; omega) (by omega) (Nat.le_trans HWB.out.size HBY.out.size) ?_
                  intro vx wx hown hg hnw
                  have hbx : Below W.heap.size W wx := HBY.out.grown hg HBY.out.size (fun q hq => HVY.out q hq)
                  have HOX := Lib.hid hown; have HBX := Lib.hid (bNext hbx HWB.out)
                  refine hK.out _ _ (.inr (keepCell hbx hx1)) ?_
                  clear hK hown hg hbx hnw
                  refine wpAnyZ_one (i := 16) (by kernel_rfl) rfl rfl (fun K hK => ?_)
                  go_simp
                  refine hK.out _ _ (.inl (Nat.le_refl _)) ?_
                  clear hK
                  refine wpAnyZ_done (by kernel_rfl) ?_ _
                  go_wp2_with fail
                  go_roundw
                  case rel => exact ⟨k + 1, by omega, by go_num, (ins_own HNX.out HNEW.out HL1.out HL2.out HOX.out), HBX.out⟩
                  case measure => simp [intOf]; omega
                · go_simp
                  have hb1 : Below W.heap.size W ((W.alloc (.cells #[] 3)).alloc (.cells #[.int .i64 ok] 3)).drew := (((Below.refl _ _).alloc (Nat.le_refl _) _).alloc (by simp) _).drew
                  have hsr : Src ((W.alloc (.cells #[] 3)).alloc (.cells #[.int .i64 ok] 3)).drew (.slice (some ⟨W.heap.size + 1, 0, none⟩) 1 1) 1 [.int .i64 ok] := srcU (W.alloc (.cells #[] 3)) #[.int .i64 ok] 3 1 [.int .i64 ok] (W.heap.size + 1) (by simp) rfl
                  have hl1 : ((W.alloc (.cells #[] 3)).alloc (.cells #[.int .i64 ok] 3)).drew.ownsRow w.heap.size 3 1 (.slice (some ⟨W.heap.size, 0, none⟩) 0 0) 0 [] := (World.ownsRow_lit W #[] 0 HWB.out.size (Nat.zero_le _) rfl).alloc _
                  refine hK.out _ _ (.inr (keepCell hb1 hx1)) ?_
                  clear hK
                  generalize hw1 : ((W.alloc (.cells #[] 3)).alloc (.cells #[.int .i64 ok] 3)).drew = w1 at hb1 hsr hl1 ⊢
                  clear hw1
                  have HB1 := Lib.hid hb1; have HSR := Lib.hid hsr; have HL0 := Lib.hid hl1
                  clear hb1 hsr hl1 HB0 HLIT
                  refine wpAnyZ_one (i := 4) (by kernel_rfl) rfl rfl (fun K hK => ?_)
                  refine wp_append_src _ (.tmp 52) (.tmp 55) 24 rfl w.heap.size 3 i0 _ 1 8 Try.underlying24 Hi.out Hz0.out Hz1.out Hz2.out rfl (by decide) _ 0 [] rfl HL0.out _ j _ rfl (HS1.out _ HB1.out) HL1.out one_cells (by unfold maxLen; omega) (by omega) (Nat.le_trans HWB.out.size HB1.out.size) ?_
                  intro vz wz hown hg hnw
                  rw [List.nil_append, Nat.zero_add] at hown
                  have hbz : Below W.heap.size W wz := HB1.out.grown hg HB1.out.size (fun q hq => by cases hq; exact Nat.le_refl _)
                  have HVZ := Lib.hid (newer_ge (B := W.heap.size) hnw (fun q hq => by cases hq; exact Nat.le_refl _) HB1.out.size)
                  have HLZ := Lib.hid (src_grown HSR.out hg (fun e => by have h0 : W.heap.size = W.heap.size + 1 := Option.some.inj e; omega))
                  have HOZ := Lib.hid hown; have HBZ := Lib.hid hbz
                  refine hK.out _ _ (.inr (keepCell hbz hx1)) ?_
                  clear hK hown hg hbz hnw
                  refine wpAnyZ_one (i := 11) (by kernel_rfl) rfl rfl (fun K hK => ?_)
                  refine wp_append_src _ (.tmp 56) (.tmp 62) 24 rfl w.heap.size 3 i0 _ 1 8 Try.underlying24 Hi.out Hz0.out Hz1.out Hz2.out rfl (by decide) vz j _ rfl HOZ.out _ 1 [.int .i64 ok] rfl HLZ.out rfl (by intro u hu; cases List.mem_singleton.1 hu; rfl) (by unfold maxLen; omega) (by omega) (Nat.le_trans HWB.out.size HBZ.out.size) ?_
                  intro vy wy hown hg hnw
                  have hby : Below W.heap.size W wy := HBZ.out.grown hg HBZ.out.size (fun q hq => HVZ.out q hq)
                  have HOY := Lib.hid hown; have HBY := Lib.hid hby
                  have HVY := Lib.hid (newer_ge (B := W.heap.size) hnw HVZ.out HBZ.out.size)
                  refine hK.out _ _ (.inr (keepCell hby hx1)) ?_
                  clear hK hown hg hby hnw
                  refine wpAnyZ_one (i := 15) (by kernel_rfl) rfl rfl (fun K hK => ?_)
                  refine wp_append_src _ (.tmp 63) (.tmp 66) 24 rfl w.heap.size 3 i0 _ 1 8 Try.underlying24 Hi.out Hz0.out Hz1.out Hz2.out rfl (by decide) vy (j + 1) _ rfl HOY.out _ (nk - j) _ rfl (HS2.out _ HBY.out) HL2.out one_cells (by unfold maxLen; omega) (by omega) (Nat.le_trans HWB.out.size HBY.out.size) ?_
                  intro vx wx hown hg hnw
                  have hbx : Below W.heap.size W wx := HBY.out.grown hg HBY.out.size (fun q hq => HVY.out q hq)
                  have HOX := Lib.hid hown; have HBX := Lib.hid (bNext hbx HWB.out)
                  refine hK.out _ _ (.inr (keepCell hbx hx1)) ?_
                  clear hK hown hg hbx hnw
                  refine wpAnyZ_one (i := 16) (by kernel_rfl) rfl rfl (fun K hK => ?_)
                  go_simp
                  refine hK.out _ _ (.inl (Nat.le_refl _)) ?_
                  clear hK
                  refine wpAnyZ_done (by kernel_rfl) ?_ _
                  go_wp2_with fail
                  go_roundw
                  case rel => exact ⟨k + 1, by omega, by go_num, (ins_own HNX.out HNEW.out HL1.out HL2.out HOX.out), HBX.out⟩
                  case measure => simp [intOf]; omega
              · go_simp
                have hb0 : Below W.heap.size W (W.alloc (.cells #[.int .i64 ok] 3)).drew := ((Below.refl _ _).alloc (Nat.le_refl _) _).drew
                have hsr : Src (W.alloc (.cells #[.int .i64 ok] 3)).drew (.slice (some ⟨W.heap.size, 0, none⟩) 1 1) 1 [.int .i64 ok] := srcU W #[.int .i64 ok] 3 1 [.int .i64 ok] W.heap.size rfl rfl
                have hlt : W.heap.size < (W.alloc (.cells #[.int .i64 ok] 3)).drew.heap.size := by simp
                refine hK.out _ _ (.inr (keepCell hb0 hx1)) ?_
                clear hK
                generalize hw1 : (W.alloc (.cells #[.int .i64 ok] 3)).drew = w1 at hb0 hsr hlt ⊢
                clear hw1
                refine wpAnyZ_one (i := 0) (by kernel_rfl) rfl rfl (fun K hK => ?_)
                go_simp
                have hb1 : Below W.heap.size W (w1.alloc (.cells #[] 3)) := hb0.alloc hb0.size _
                have hl1 : (w1.alloc (.cells #[] 3)).ownsRow w.heap.size 3 1 (.slice (some ⟨w1.heap.size, 0, none⟩) 0 0) 0 [] := World.ownsRow_lit w1 #[] 0 (Nat.le_trans HWB.out.size hb0.size) (Nat.zero_le _) rfl
                have hsr2 := src_grown hsr (row := none) (grownBy_of_belowR ((Below.refl _ w1).alloc (Nat.le_refl _) (.cells #[] 3))) (by simp)
                have HB1 := Lib.hid hb1; have HSR := Lib.hid hsr2; have HL0 := Lib.hid hl1; have HLT := Lib.hid hlt
                refine hK.out _ _ (.inr (keepCell hb1 hx1)) ?_
                clear hK hb0 hsr hlt hb1 hl1 hsr2
                refine wpAnyZ_one (i := 4) (by kernel_rfl) rfl rfl (fun K hK => ?_)
                refine wp_append_src _ (.tmp 52) (.tmp 55) 24 rfl w.heap.size 3 i0 _ 1 8 Try.underlying24 Hi.out Hz0.out Hz1.out Hz2.out rfl (by decide) _ 0 [] rfl HL0.out _ j _ rfl (HS1.out _ HB1.out) HL1.out one_cells (by unfold maxLen; omega) (by omega) (Nat.le_trans HWB.out.size HB1.out.size) ?_
                intro vz wz hown hg hnw
                rw [List.nil_append, Nat.zero_add] at hown
                have hbz : Below W.heap.size W wz := HB1.out.grown hg HB1.out.size (fun q hq => by cases hq; exact Nat.le_of_lt HLT.out)
                have HVZ := Lib.hid (newer_ge (B := W.heap.size) hnw (fun q hq => by cases hq; exact Nat.le_of_lt HLT.out) HB1.out.size)
                have HLZ := Lib.hid (src_grown HSR.out hg (fun e => by have h0 : w1.heap.size = W.heap.size := Option.some.inj e; have := HLT.out; omega))
                have HOZ := Lib.hid hown; have HBZ := Lib.hid hbz
                refine hK.out _ _ (.inr (keepCell hbz hx1)) ?_
                clear hK hown hg hbz hnw
                refine wpAnyZ_one (i := 11) (by kernel_rfl) rfl rfl (fun K hK => ?_)
                refine wp_append_src _ (.tmp 56) (.tmp 62) 24 rfl w.heap.size 3 i0 _ 1 8 Try.underlying24 Hi.out Hz0.out Hz1.out Hz2.out rfl (by decide) vz j _ rfl HOZ.out _ 1 [.int .i64 ok] rfl HLZ.out rfl (by intro u hu; cases List.mem_singleton.1 hu; rfl) (by unfold maxLen; omega) (by omega) (Nat.le_trans HWB.out.size HBZ.out.size) ?_
                intro vy wy hown hg hnw
                have hby : Below W.heap.size W wy := HBZ.out.grown hg HBZ.out.size (fun q hq => HVZ.out q hq)
                have HOY := Lib.hid hown; have HBY := Lib.hid hby
                have HVY := Lib.hid (newer_ge (B := W.heap.size) hnw HVZ.out HBZ.out.size)
                refine hK.out _ _ (.inr (keepCell hby hx1)) ?_
                clear hK hown hg hby hnw
                refine wpAnyZ_one (i := 15) (by kernel_rfl) rfl rfl (fun K hK => ?_)
                refine wp_append_src _ (.tmp 63) (.tmp 66) 24 rfl w.heap.size 3 i0 _ 1 8 Try.underlying24 Hi.out Hz0.out Hz1.out Hz2.out rfl (by decide) vy (j + 1) _ rfl HOY.out _ (nk - j) _ rfl (HS2.out _ HBY.out) HL2.out one_cells (by unfold maxLen; omega) (by omega) (Nat.le_trans HWB.out.size HBY.out.size) ?_
                intro vx wx hown hg hnw
                have hbx : Below W.heap.size W wx := HBY.out.grown hg HBY.out.size (fun q hq => HVY.out q hq)
                have HOX := Lib.hid hown; have HBX := Lib.hid (bNext hbx HWB.out)
                refine hK.out _ _ (.inr (keepCell hbx hx1)) ?_
                clear hK hown hg hbx hnw
                refine wpAnyZ_one (i := 16) (by kernel_rfl) rfl rfl (fun K hK => ?_)
                go_simp
                refine hK.out _ _ (.inl (Nat.le_refl _)) ?_
                clear hK
                refine wpAnyZ_done (by kernel_rfl) ?_ _
                go_wp2_with fail
                go_roundw
                case rel => exact ⟨k + 1, by omega, by go_num, (ins_own HNX.out HNEW.out HL1.out HL2.out HOX.out), HBX.out⟩
                case measure => simp [intOf]; omega
                done
      · have g4 : (how == 4) = false := beq_eq_false_iff_ne.2 h4
        have HO' := Lib.hid (show wr.ownsRow w.heap.size 3 1 u3 (foldU (loadsK (l.take (k + 1))) []).length ((foldU (loadsK (l.take (k + 1))) []).map (Value.int .i64)) by
          rw [hkt]; unfold loadK; rw [if_neg h4, List.append_nil]; exact HO.out)
        clear hkt h4
        have g4' : (how != 4) = true := by rw [bne, g4]; rfl
        go_wp2_with fail
        go_roundw
        case rel => exact ⟨k + 1, by omega, by go_num, HO'.out, HB.out⟩
        case measure => simp [intOf]; omega
    · obtain rfl : k = l.length := by omega
      rw [List.take_length] at hown
      have hus : usesS l = foldU (loadsK l) [] := rfl
      have HO := Lib.hid hown; have HUS := Lib.hid hus
      generalize foldU (loadsK l) [] = us at HO HUS
      clear hus hown
      obtain ⟨ra, rc, rfl, hint⟩ : ∃ ra rc, u3 = .slice ra us.length rc ∧ IntsAt .i64 wr ra us := by
        rcases HO.out.2 with ⟨e, h0⟩ | ⟨g, cap, cur, e, _, _, h1, _⟩
        · refine ⟨none, 0, ?_, ?_⟩
          · rw [h0]; exact e
          · have : us = [] := List.eq_nil_of_length_eq_zero h0
            subst this; exact IntsAt.nil _ _ _
        · refine ⟨_, _, e, fun j hj => ⟨g, 0, rfl, ?_⟩⟩
          subst e
          have := World.ownsRow.cells (g := g) (w := wr) HO.out rfl j (.int .i64 us[j]) (by simp [hj])
          have e : (⟨g, 0, none⟩ : Addr).add j = ⟨g, j, none⟩ := by unfold Addr.add; split <;> simp_all
          rw [e] at this; rw [Nat.zero_add]; exact this
      have HI := Lib.hid hint
      clear hint
      go_wp2_with fail
      go_ret
      unfold RetZ
      rw [HUS.out]
      exact ⟨_, _, rfl, HI.out, hbel⟩
end Go.Proofs.Ytabodlhlanolcaa
