import Derived.Test.YtokghjnkfabgiaaGreatDoorTD15
import Derived.Test.YtokghjnkfabgiaaGreatDoorTD16
import Derived.Test.YtokghjnkfabgiaaGreatDoorTD1
import Derived.Test.YtokghjnkfabgiaaGreatDoorTD5
import Derived.Test.YtokghjnkfabgiaaGreatDoorTD7
set_option linter.unusedVariables false
set_option linter.unusedSimpArgs false
set_option maxRecDepth 100000
namespace Go.Proofs.YtokghjnkfabgiaaGreatDoor
open Go.RowKit Go.Lib
attribute [local go_sem] str_size str_get
attribute [local go_sem high] run_str_from run_str_to run_str_add

theorem below_grow (w : World) (q : Nat) (os : Array Obj) : Below w.heap.size w (Sort.grow (w.drewN q) os) :=
 ⟨rfl, rfl, rfl, by show w.heap.size ≤ (w.heap ++ os).size; simp, fun k hk => by show (w.heap ++ os)[k]? = w.heap[k]?; rw [Array.getElem?_append_left hk]⟩
theorem format_c (n : Int) (hn : in64B n = true) (w : World) (ht : TabT w) : Calls Tryz.prog 27 #[.int .i64 n, .int .i64 10] w fun e w' => e = .returned (.string (str (itoa n))) ∧ Below w.heap.size w w' := by
 unfold in64B at hn
 simp only [Bool.and_eq_true, decide_eq_true_eq] at hn
 refine (Tryz.strconv_FormatInt_10 n hn.1 hn.2 w ht.pow).mono ?_
 rintro e w' ⟨rfl, k, os, rfl⟩
 exact ⟨rfl, below_grow _ _ _⟩
theorem count_few (s : Str) : countB (str s) (str [45]) ≤ s.length + 1 := by
 unfold countB
 exact count_le _ _
theorem replace_c (n : Int) (hl : (itoa n).length ≤ 65536) (w : World) (ht : TabT w) : Calls Tryz.prog 26 #[.string (str (itoa n)), .string (str [45]), .string (str [95]), .int .i64 1] w fun e w' => e = .returned (.string (str (numStr n))) ∧ Below w.heap.size w w' := by
 obtain ⟨m, hm⟩ := ht.maxlen
 have h1 : (str (itoa n)).size = (itoa n).length := str_size _
 have h2 : (str [95]).size = 1 := rfl
 have h3 := count_few (itoa n)
 refine (Tryz.strings_Replace (str (itoa n)) (str [45]) (str [95]) 1 m w (by omega) hm (by decide) (by rw [h1, h2]; omega)).mono ?_
 rintro e w' ⟨rfl, hb⟩
 refine ⟨?_, hb⟩
 rw [show (str (itoa n)).data.toList = itoa n from rfl, show (str [45]).data.toList = [45] from rfl, show (str [95]).data.toList = [95] from rfl, replace_num]
 rfl
theorem trim_c (s : Str) (hs : ∀ b ∈ s, b.toNat < 128) (hl : s.length ≤ 9223372036854775807) (w : World) (ht : TabT w) : Calls Tryz.prog 28 #[.string (str s)] w fun e w' => e = .returned (.string (str (trimSpace s))) ∧ Below w.heap.size w w' := by
 refine (Tryz.strings_TrimSpace (str s) w (by rw [str_size]; exact hl) (fun j b hj => hs b (List.mem_of_getElem? hj)) ht.space).mono ?_
 rintro e w' ⟨rfl, rfl⟩
 exact ⟨rfl, bytesWorld_below _ _ _⟩
theorem hash_c (s : Str) (hs : ¬ (35 : UInt8) ∈ s) (w : World) : Calls Tryz.prog 29 #[.string (str s), .string (str [35])] w fun e w' => e = .returned (.bool false) ∧ w' = w := by
 have h := Tryz.strings_Contains_one (str s) 35 w
 have e : decide (0 ≤ indexByte (str s).data.toList 35) = false := decide_eq_false (fun h => hs ((index_pos s 35).1 h))
 rw [e] at h
 exact h
theorem results_t2 {fn : Func} {p q : Tmp} (h : fn.results = #[.tmp p, .tmp q]) (tmps : Array Value) (w : World) {x y : Value}
  (hp : tmps.getD p undef = x) (hq : tmps.getD q undef = y) : (results fn tmps).run Tryz.prog w = .ok (.tuple #[x, y]) w := by
 have hp' : tmps[p]?.getD undef = x := by simpa using hp
 have hq' : tmps[q]?.getD undef = y := by simpa using hq
 simp [results, h, hp', hq']
theorem row_one {M : Nat} {w : World} {v : Value} {p : Tk × Nat} (h : RowG tokR M 39 w v [p]) : ∃ g c, v = .slice (some ⟨g, 0, none⟩) 1 c ∧ M ≤ g ∧ g < w.heap.size ∧
  w.cell? ⟨g, 0, none⟩ = some (.int .i64 p.1.kind) ∧ w.cell? ⟨g, 1, none⟩ = some (.int .i64 (p.2 : Int)) ∧ w.cell? ⟨g, 2, none⟩ = some (.string (str p.1.word)) ∧ w.cell? ⟨g, 3, none⟩ = some (.int .i64 p.1.n) := by
 obtain ⟨cs, h1, ds, r, e, ⟨hd, _⟩, hr⟩ := h
 cases hr
 subst hd
 rw [List.append_nil] at e
 subst e
 obtain ⟨_, ⟨hv, h0⟩ | ⟨g, cap, cur, hv, hg, hh, _⟩⟩ := id h1
 ·cases h0
 ·subst hv
  have hc := World.ownsRow.cells (g := g) (w := w) h1 rfl
  have e : ∀ k, (⟨g, 0, none⟩ : Addr).add k = ⟨g, k, none⟩ := fun k => by unfold Addr.add; split <;> simp_all
  have hk := fun k z hz => by have := hc k z hz; rw [e] at this; exact this
  exact ⟨g, cap, rfl, hg, (Array.getElem?_eq_some_iff.1 hh).1, hk 0 _ rfl, hk 1 _ rfl, hk 2 _ rfl, hk 3 _ rfl⟩
set_option maxHeartbeats 4000000 in
theorem spell_any (w : World) (ht : TabT w) (t : Tk) (a : Int) (h : RightT t) : Calls Tryz.prog 9 #[tkV t a] w fun e w' => e = .returned (.tuple #[.string (str (spellT t)), .bool true]) ∧ Below w.heap.size w w' := by
 obtain ⟨hl, h35, hsp, hx⟩ := spell_facts h
 unfold tkV
 by_cases h2 : t.kind = 2
 ·obtain ⟨kk, ww, nn⟩ := t
  have htn : kk = 2 ∧ ww = [] ∧ in64B nn = true := by
   dsimp only at h2
   subst h2
   rcases h with ⟨hk, _⟩ | ⟨_, h3, h4⟩ | ⟨hk, _⟩ | h
   ·exact absurd (show (2 : Int) = 1 from hk) (by decide)
   ·exact ⟨rfl, h3, h4⟩
   ·exact absurd (show (2 : Int) = 3 from hk) (by decide)
   ·exact absurd (congrArg Tk.kind h) (show ¬ (2 : Int) = 4 by decide)
  obtain ⟨rfl, rfl, hin⟩ := htn
  have hst : spellT ⟨2, [], nn⟩ = numStr nn := rfl
  rw [hst] at hl h35 hsp hx ⊢
  have hlx := fun (W : World) (hb : Below w.heap.size w W) => lex_any W (ht.below hb) (numStr nn) (by omega)
  rw [hx] at hlx
  have HLX := Lib.hid hlx
  clear hlx
  have hlen : (itoa nn).length ≤ 65536 := by
   have e : (itoa nn).length = (numStr nn).length := by unfold itoa numStr; split <;> rfl
   omega
  have hfo := fun (W : World) (hb : Below w.heap.size w W) => format_c nn hin W (ht.below hb)
  have hre := fun (W : World) (hb : Below w.heap.size w W) => replace_c nn hlen W (ht.below hb)
  have HFO := Lib.hid hfo; have HRE := Lib.hid hre; have HT := Lib.hid ht
  clear hfo hre hin
  dsimp only
  go_enter Tryz.func9, Tryz.ntmps9
  go_wp2_with fail
  refine (HFO.out _ ((Below.refl _ _).alloc (Nat.le_refl _) _)).mono ?_
  rintro e wa ⟨rfl, hba⟩
  have HBA := Lib.hid hba; clear hba
  dsimp only
  go_wp2_with fail
  refine (HRE.out _ (bNext HBA.out ((Below.refl _ _).alloc (Nat.le_refl _) _))).mono ?_
  rintro e wb ⟨rfl, hbb⟩
  have HBB := Lib.hid (bNext hbb HBA.out); clear hbb
  dsimp only
  go_wp2_with fail
  refine (HLX.out _ (bNext HBB.out ((Below.refl _ _).alloc (Nat.le_refl _) _))).mono ?_
  rintro e w1 ⟨⟨v, rfl, hrow⟩, hb1⟩
  have hb1 := bNext hb1 HBB.out
  have hx := new1 hb1
  have c0 := cell_of_row w1 w.heap.size 0 _ _ _ hx
  have c1 := cell_of_row w1 w.heap.size 1 _ _ _ hx
  have c2 := cell_of_row w1 w.heap.size 2 _ _ _ hx
  have c3 := cell_of_row w1 w.heap.size 3 _ _ _ hx
  have f1 := frozen_of_row w1 w.heap.size 1 _ _ hx
  have hlt : w.heap.size < w1.heap.size := (Array.getElem?_eq_some_iff.1 hx).1
  obtain ⟨g, sc, hv, hg, hgl, e0, e1, e2, e3⟩ := row_one hrow
  subst hv
  have hsB := HBB.out.size
  have hgG : g ≠ w.heap.size := by
   have : (w.alloc (.cells #[.int .i64 2, .int .i64 a, .string (str []), .int .i64 nn] 39)).heap.size = w.heap.size + 1 := by simp
   omega
  have HB1 := Lib.hid (bNext hb1 ((Below.refl _ _).alloc (Nat.le_refl _) _)); have HX := Lib.hid hx
  have H35 := Lib.hid h35; have HSP := Lib.hid hsp
  clear hb1 hrow HLX hx h35 hsp h ht h2 hst hg HBA HBB HFO HRE hlen
  dsimp only at e0 e1 e2 e3
  have E0 := Lib.hid e0; have E1 := Lib.hid e1; have E2 := Lib.hid e2; have E3 := Lib.hid e3; have C0 := Lib.hid c0; have C2 := Lib.hid c2; have C3 := Lib.hid c3
  clear e0 e1 e2 e3
  dsimp only
  go_wp2_with fail
  have hc : ∀ j, j ≠ 1 → ((w1.setCell ⟨w.heap.size, 1, none⟩ (.int .i64 0)).alloc (.cells #[.int .i64 0, .int .i64 0] 28)).cell? ⟨w.heap.size, j, none⟩ = w1.cell? ⟨w.heap.size, j, none⟩ := fun j hj => by
   rw [World.cell?_alloc_past _ _ _ (by simp; exact hlt)]
   simp [go_sem, Ne.symm hj]
  have hr : ∀ j, ((w1.setCell ⟨w.heap.size, 1, none⟩ (.int .i64 0)).alloc (.cells #[.int .i64 0, .int .i64 0] 28)).cell? ⟨g, j, none⟩ = w1.cell? ⟨g, j, none⟩ := fun j => by
   rw [World.cell?_alloc_past _ _ _ (by simp; exact hgl), World.cell?_setCell_far _ _ _ _ (Ne.symm hgG)]
  have h1 : ((w1.setCell ⟨w.heap.size, 1, none⟩ (.int .i64 0)).alloc (.cells #[.int .i64 0, .int .i64 0] 28)).cell? ⟨w.heap.size, 1, none⟩ = some (.int .i64 0) := by
   rw [World.cell?_alloc_past _ _ _ (by simp; exact hlt)]
   simp [go_sem, c1]
  have hbc : Below w.heap.size w ((w1.setCell ⟨w.heap.size, 1, none⟩ (.int .i64 0)).alloc (.cells #[.int .i64 0, .int .i64 0] 28)) := (HB1.out.setCell (Nat.le_refl _) _).alloc (by simp; omega) _
  clear c0 c1 c2 c3 f1
  generalize ((w1.setCell ⟨w.heap.size, 1, none⟩ (.int .i64 0)).alloc (.cells #[.int .i64 0, .int .i64 0] 28)) = Wc at hc hr h1 hbc ⊢
  have x0 := (hr 0).trans E0.out
  have x1 := (hr 1).trans E1.out
  have x2 := (hr 2).trans E2.out
  have x3 := (hr 3).trans E3.out
  have y0 := (hc 0 (by decide)).trans C0.out
  have y2 := (hc 2 (by decide)).trans C2.out
  have y3 := (hc 3 (by decide)).trans C3.out
  have htr := fun p : BelowW Wc => trim_c (numStr nn) (fun b hb => (H35.out b hb).2) (by omega) p.world (HT.out.below (bNext p.below hbc))
  have hha := fun p : BelowW Wc => (hash_c (numStr nn) (no_hash fun b hb => (H35.out b hb).1) p.world).mono (R' := fun e w' => e = .returned (.bool false) ∧ Below p.world.heap.size p.world w') fun e w' ⟨he, hw⟩ => ⟨he, hw ▸ Below.refl _ _⟩
  have hts : trimSpace (numStr nn) = numStr nn := trim_same (HSP.out (show ¬ (2 : Int) = 4 by decide))
  simp only [hts] at htr
  have HTR := Lib.hid htr; have HHA := Lib.hid hha; have HBC := Lib.hid hbc
  clear htr hha hts hc hr hbc HB1 HX E0 E1 E2 E3 C0 C2 C3
  have z0 := cellBW x0
  have z1 := cellBW x1
  have z2 := cellBW x2
  have z3 := cellBW x3
  have u0 := cellBW y0
  have u1 := cellBW h1
  have u2 := cellBW y2
  have u3 := cellBW y3
  refine wp_region_below (by kernel_rfl) (by kernel_rfl) ?_
  repeat (go_big_quiet_step (first | (go_at_call 28; refine callsBW (HTR.out _)) | (go_at_call 29; refine callsBW (HHA.out _))))
  refine wpQuiet_nil ?_
  rintro _ ⟨⟨wq, hwq⟩, rfl⟩
  have HQ := Lib.hid (bNext hwq HBC.out)
  clear hwq z0 z1 z2 z3 u0 u1 u2 u3 HTR HHA
  go_wp2_with fail
  refine bodyPost_ret (results_t2 rfl _ _ rfl rfl) rfl ⟨rfl, HQ.out⟩
 by_cases h4 : t.kind = 4
 ·have htl : t = lineT := by
   rcases h with ⟨hk, _⟩ | ⟨hk, _⟩ | ⟨hk, _⟩ | h
   ·omega
   ·omega
   ·omega
   ·exact h
  subst htl
  have hst : spellT lineT = [10] := rfl
  rw [hst] at hl h35 hsp hx ⊢
  have hlx := fun (W : World) (hb : Below w.heap.size w W) => lex_any W (ht.below hb) [10] (by decide)
  rw [hx] at hlx
  have HLX := Lib.hid hlx
  clear hlx
  have hlt0 : lineT = ⟨4, [], 0⟩ := rfl
  rw [hlt0] at HLX ⊢
  dsimp only
  go_enter Tryz.func9, Tryz.ntmps9
  go_wp2_with fail
  refine (HLX.out _ ((Below.refl _ _).alloc (Nat.le_refl _) _)).mono ?_
  rintro e w1 ⟨⟨v, rfl, hrow⟩, hb1⟩
  have hx := new1 hb1
  have c0 := cell_of_row w1 w.heap.size 0 _ _ _ hx
  have c1 := cell_of_row w1 w.heap.size 1 _ _ _ hx
  have c2 := cell_of_row w1 w.heap.size 2 _ _ _ hx
  have c3 := cell_of_row w1 w.heap.size 3 _ _ _ hx
  have f1 := frozen_of_row w1 w.heap.size 1 _ _ hx
  have hlt : w.heap.size < w1.heap.size := (Array.getElem?_eq_some_iff.1 hx).1
  obtain ⟨g, sc, hv, hg, hgl, e0, e1, e2, e3⟩ := row_one hrow
  subst hv
  have hgG : g ≠ w.heap.size := by
   have : (w.alloc (.cells #[.int .i64 4, .int .i64 a, .string (str []), .int .i64 0] 39)).heap.size = w.heap.size + 1 := by simp
   omega
  have HB1 := Lib.hid (bNext hb1 ((Below.refl _ _).alloc (Nat.le_refl _) _)); have HX := Lib.hid hx
  have H35 := Lib.hid h35; have HSP := Lib.hid hsp; have HT := Lib.hid ht
  clear hb1 hrow HLX hx h35 hsp h ht h2 h4 hst hg hlt0
  dsimp only at e0 e1 e2 e3
  have E0 := Lib.hid e0; have E1 := Lib.hid e1; have E2 := Lib.hid e2; have E3 := Lib.hid e3; have C0 := Lib.hid c0; have C2 := Lib.hid c2; have C3 := Lib.hid c3
  clear e0 e1 e2 e3
  dsimp only
  go_wp2_with fail
  have hc : ∀ j, j ≠ 1 → ((w1.setCell ⟨w.heap.size, 1, none⟩ (.int .i64 0)).alloc (.cells #[.int .i64 0, .int .i64 0] 28)).cell? ⟨w.heap.size, j, none⟩ = w1.cell? ⟨w.heap.size, j, none⟩ := fun j hj => by
   rw [World.cell?_alloc_past _ _ _ (by simp; exact hlt)]
   simp [go_sem, Ne.symm hj]
  have hr : ∀ j, ((w1.setCell ⟨w.heap.size, 1, none⟩ (.int .i64 0)).alloc (.cells #[.int .i64 0, .int .i64 0] 28)).cell? ⟨g, j, none⟩ = w1.cell? ⟨g, j, none⟩ := fun j => by
   rw [World.cell?_alloc_past _ _ _ (by simp; exact hgl), World.cell?_setCell_far _ _ _ _ (Ne.symm hgG)]
  have h1 : ((w1.setCell ⟨w.heap.size, 1, none⟩ (.int .i64 0)).alloc (.cells #[.int .i64 0, .int .i64 0] 28)).cell? ⟨w.heap.size, 1, none⟩ = some (.int .i64 0) := by
   rw [World.cell?_alloc_past _ _ _ (by simp; exact hlt)]
   simp [go_sem, c1]
  have hbc : Below w.heap.size w ((w1.setCell ⟨w.heap.size, 1, none⟩ (.int .i64 0)).alloc (.cells #[.int .i64 0, .int .i64 0] 28)) := (HB1.out.setCell (Nat.le_refl _) _).alloc (by simp; omega) _
  clear c0 c1 c2 c3 f1
  generalize ((w1.setCell ⟨w.heap.size, 1, none⟩ (.int .i64 0)).alloc (.cells #[.int .i64 0, .int .i64 0] 28)) = Wc at hc hr h1 hbc ⊢
  have x0 := (hr 0).trans E0.out
  have x1 := (hr 1).trans E1.out
  have x2 := (hr 2).trans E2.out
  have x3 := (hr 3).trans E3.out
  have y0 := (hc 0 (by decide)).trans C0.out
  have y2 := (hc 2 (by decide)).trans C2.out
  have y3 := (hc 3 (by decide)).trans C3.out
  have htr := fun p : BelowW Wc => trim_c [10] (fun b hb => (H35.out b hb).2) (by decide) p.world (HT.out.below (bNext p.below hbc))
  have hha := fun p : BelowW Wc => (hash_c [10] (no_hash fun b hb => (H35.out b hb).1) p.world).mono (R' := fun e w' => e = .returned (.bool false) ∧ Below p.world.heap.size p.world w') fun e w' ⟨he, hw⟩ => ⟨he, hw ▸ Below.refl _ _⟩
  have hts : str (trimSpace [10]) = ByteArray.mk #[] := by rw [show trimSpace [10] = [] by decide]; rfl
  simp only [hts] at htr
  have HTR := Lib.hid htr; have HHA := Lib.hid hha; have HBC := Lib.hid hbc
  clear htr hha hts hc hr hbc HB1 HX E0 E1 E2 E3 C0 C2 C3
  have z0 := cellBW x0
  have z1 := cellBW x1
  have z2 := cellBW x2
  have z3 := cellBW x3
  have u0 := cellBW y0
  have u1 := cellBW h1
  have u2 := cellBW y2
  have u3 := cellBW y3
  refine wp_region_below (by kernel_rfl) (by kernel_rfl) ?_
  repeat (go_big_quiet_step (first | (go_at_call 28; refine callsBW (HTR.out _)) | (go_at_call 29; refine callsBW (HHA.out _))))
  refine wpQuiet_nil ?_
  rintro _ ⟨⟨wq, hwq⟩, rfl⟩
  have HQ := Lib.hid (bNext hwq HBC.out)
  clear hwq z0 z1 z2 z3 u0 u1 u2 u3 HTR HHA
  go_wp2_with fail
  refine bodyPost_ret (results_t2 rfl _ _ rfl rfl) rfl ⟨rfl, HQ.out⟩
 have q2 : (t.kind == 2) = false := by rw [beq_eq_false_iff_ne]; exact h2
 have q4 : (t.kind == 4) = false := by rw [beq_eq_false_iff_ne]; exact h4
 have hst : spellT t = t.word := by unfold spellT; rw [if_neg h2, if_neg h4]
 rw [hst] at hl h35 hsp hx ⊢
 have hlx := fun (W : World) (hb : Below w.heap.size w W) => lex_any W (ht.below hb) t.word (by omega)
 rw [hx] at hlx
 have HLX := Lib.hid hlx
 clear hlx
 obtain ⟨kk, ww, nn⟩ := t
 dsimp only at *
 go_enter Tryz.func9, Tryz.ntmps9
 go_wp2_with fail
 refine (HLX.out _ ((Below.refl _ _).alloc (Nat.le_refl _) _)).mono ?_
 rintro e w1 ⟨⟨v, rfl, hrow⟩, hb1⟩
 have hx := new1 hb1
 have c0 := cell_of_row w1 w.heap.size 0 _ _ _ hx
 have c1 := cell_of_row w1 w.heap.size 1 _ _ _ hx
 have c2 := cell_of_row w1 w.heap.size 2 _ _ _ hx
 have c3 := cell_of_row w1 w.heap.size 3 _ _ _ hx
 have f1 := frozen_of_row w1 w.heap.size 1 _ _ hx
 have hlt : w.heap.size < w1.heap.size := (Array.getElem?_eq_some_iff.1 hx).1
 obtain ⟨g, sc, hv, hg, hgl, e0, e1, e2, e3⟩ := row_one hrow
 subst hv
 have hgG : g ≠ w.heap.size := by
  have : (w.alloc (.cells #[.int .i64 kk, .int .i64 a, .string (str ww), .int .i64 nn] 39)).heap.size = w.heap.size + 1 := by simp
  omega
 have HB1 := Lib.hid (bNext hb1 ((Below.refl _ _).alloc (Nat.le_refl _) _)); have HX := Lib.hid hx
 have H35 := Lib.hid h35; have HSP := Lib.hid hsp; have HT := Lib.hid ht
 clear hb1 hrow HLX hx h35 hsp h ht h2 h4 hst hg
 dsimp only at e0 e1 e2 e3
 have E0 := Lib.hid e0; have E1 := Lib.hid e1; have E2 := Lib.hid e2; have E3 := Lib.hid e3; have C0 := Lib.hid c0; have C2 := Lib.hid c2; have C3 := Lib.hid c3
 clear e0 e1 e2 e3
 dsimp only
 go_wp2_with fail
 have hc : ∀ j, j ≠ 1 → ((w1.setCell ⟨w.heap.size, 1, none⟩ (.int .i64 0)).alloc (.cells #[.int .i64 0, .int .i64 0] 28)).cell? ⟨w.heap.size, j, none⟩ = w1.cell? ⟨w.heap.size, j, none⟩ := fun j hj => by
  rw [World.cell?_alloc_past _ _ _ (by simp; exact hlt)]
  simp [go_sem, Ne.symm hj]
 have hr : ∀ j, ((w1.setCell ⟨w.heap.size, 1, none⟩ (.int .i64 0)).alloc (.cells #[.int .i64 0, .int .i64 0] 28)).cell? ⟨g, j, none⟩ = w1.cell? ⟨g, j, none⟩ := fun j => by
  rw [World.cell?_alloc_past _ _ _ (by simp; exact hgl), World.cell?_setCell_far _ _ _ _ (Ne.symm hgG)]
 have h1 : ((w1.setCell ⟨w.heap.size, 1, none⟩ (.int .i64 0)).alloc (.cells #[.int .i64 0, .int .i64 0] 28)).cell? ⟨w.heap.size, 1, none⟩ = some (.int .i64 0) := by
  rw [World.cell?_alloc_past _ _ _ (by simp; exact hlt)]
  simp [go_sem, c1]
 have hbc : Below w.heap.size w ((w1.setCell ⟨w.heap.size, 1, none⟩ (.int .i64 0)).alloc (.cells #[.int .i64 0, .int .i64 0] 28)) := (HB1.out.setCell (Nat.le_refl _) _).alloc (by simp; omega) _
 clear c0 c1 c2 c3 f1
 generalize ((w1.setCell ⟨w.heap.size, 1, none⟩ (.int .i64 0)).alloc (.cells #[.int .i64 0, .int .i64 0] 28)) = Wc at hc hr h1 hbc ⊢
 have x0 := (hr 0).trans E0.out
 have x1 := (hr 1).trans E1.out
 have x2 := (hr 2).trans E2.out
 have x3 := (hr 3).trans E3.out
 have y0 := (hc 0 (by decide)).trans C0.out
 have y2 := (hc 2 (by decide)).trans C2.out
 have y3 := (hc 3 (by decide)).trans C3.out
 have hk : (kk == 4) = false := q4
 have htr := fun p : BelowW Wc => trim_c ww (fun b hb => (H35.out b hb).2) (by omega) p.world (HT.out.below (bNext p.below hbc))
 have hha := fun p : BelowW Wc => (hash_c ww (no_hash fun b hb => (H35.out b hb).1) p.world).mono (R' := fun e w' => e = .returned (.bool false) ∧ Below p.world.heap.size p.world w') fun e w' ⟨he, hw⟩ => ⟨he, hw ▸ Below.refl _ _⟩
 have hts : trimSpace ww = ww := trim_same (HSP.out (beq_eq_false_iff_ne.1 q4))
 simp only [hts] at htr
 have HTR := Lib.hid htr; have HHA := Lib.hid hha; have HBC := Lib.hid hbc
 clear htr hha hts hc hr hbc HB1 HX E0 E1 E2 E3 C0 C2 C3
 have z0 := cellBW x0
 have z1 := cellBW x1
 have z2 := cellBW x2
 have z3 := cellBW x3
 have u0 := cellBW y0
 have u1 := cellBW h1
 have u2 := cellBW y2
 have u3 := cellBW y3
 refine wp_region_below (by kernel_rfl) (by kernel_rfl) ?_
 repeat (go_big_quiet_step (first | (go_at_call 28; refine callsBW (HTR.out _)) | (go_at_call 29; refine callsBW (HHA.out _))))
 refine wpQuiet_nil ?_
 rintro _ ⟨⟨wq, hwq⟩, rfl⟩
 have HQ := Lib.hid (bNext hwq HBC.out)
 clear hwq z0 z1 z2 z3 u0 u1 u2 u3 HTR HHA
 go_wp2_with fail
 refine bodyPost_ret (results_t2 rfl _ _ rfl rfl) rfl ⟨rfl, HQ.out⟩
end Go.Proofs.YtokghjnkfabgiaaGreatDoor

namespace Go.Proofs.YtokghjnkfabgiaaGreatDoor
open Go.RowKit Go.Lib
attribute [local go_sem] str_size str_get str_toList

theorem two_none {s : Str} (h : ∀ x ∈ verbsW, x.2.1 ≠ 0 → (s == x.1) = false) : twoW s = 0 := by
 unfold twoW
 cases hf : findW s with
 | none => rfl
 | some x =>
  obtain ⟨h1, h2⟩ := find_mem hf
  show x.2.1 = 0
  by_cases h0 : x.2.1 = 0
  ·exact h0
  ·have := h x h1 h0
   rw [h2] at this
   simp at this
set_option maxHeartbeats 4000000 in
theorem two_any (s : Str) (w : World) : Calls Tryz.prog 101 #[.string (str s)] w fun e w' => e = .returned (.int .u8 (twoW s)) ∧ w' = w := by
 go_enter Tryz.func101, Tryz.ntmps101
 go_wp2
 all_goals (go_ret; refine ⟨ret_int ?_, rfl⟩)
 all_goals first
  | (rename_i h; have h := eq_of_beq h; subst h; rfl)
  | (
    refine (two_none ?_).symm
    intro x hx h0
    simp only [verbsW, List.mem_cons, List.not_mem_nil, or_false] at hx
    rcases hx with rfl | rfl | rfl | rfl | rfl | rfl | rfl | rfl | rfl | rfl | rfl | rfl | rfl | rfl | rfl | rfl | rfl | rfl | rfl | rfl | rfl | rfl | rfl | rfl | rfl <;> first | assumption | exact absurd rfl h0)
theorem one_none {s : Str} (h : ∀ x ∈ verbsW, x.2.2 ≠ 0 → (s == x.1) = false) : oneW s = 0 := by
 unfold oneW
 cases hf : findW s with
 | none => rfl
 | some x =>
  obtain ⟨h1, h2⟩ := find_mem hf
  show x.2.2 = 0
  by_cases h0 : x.2.2 = 0
  ·exact h0
  ·have := h x h1 h0
   rw [h2] at this
   simp at this
set_option maxHeartbeats 4000000 in
theorem one_any (s : Str) (w : World) : Calls Tryz.prog 100 #[.string (str s)] w fun e w' => e = .returned (.int .u8 (oneW s)) ∧ w' = w := by
 have HT := Lib.hid (two_any s w)
 go_enter Tryz.func100, Tryz.ntmps100
 go_wp2_with (refine HT.out.mono ?_; rintro e w' ⟨rfl, rfl⟩)
 all_goals (go_ret; refine ⟨ret_int ?_, rfl⟩)
 all_goals first
  | (exfalso; simp_all; done)
  | (rename_i h; have h := eq_of_beq h; subst h; rfl)
  | (
    refine (one_none ?_).symm
    intro x hx h0
    simp only [verbsW, List.mem_cons, List.not_mem_nil, or_false] at hx
    rcases hx with rfl | rfl | rfl | rfl | rfl | rfl | rfl | rfl | rfl | rfl | rfl | rfl | rfl | rfl | rfl | rfl | rfl | rfl | rfl | rfl | rfl | rfl | rfl | rfl | rfl <;> first | assumption | exact absurd rfl h0)
  | (have h : s = [43] := eq_of_beq (by assumption); rw [h]; rfl)
  | (have h : s = [45] := eq_of_beq (by assumption); rw [h]; rfl)
  | (have h : s = [42] := eq_of_beq (by assumption); rw [h]; rfl)
  | (have h : s = [37] := eq_of_beq (by assumption); rw [h]; rfl)
  | (have h : s = [124] := eq_of_beq (by assumption); rw [h]; rfl)
  | (have h : s = [109, 105, 110] := eq_of_beq (by assumption); rw [h]; rfl)
  | (have h : s = [109, 97, 120] := eq_of_beq (by assumption); rw [h]; rfl)
end Go.Proofs.YtokghjnkfabgiaaGreatDoor

namespace Go.Proofs.YtokghjnkfabgiaaGreatDoor
open Go.RowKit Go.Lib

theorem verb_any (s : Str) (w : World) : Calls Tryz.prog 62 #[.string (str s)] w fun e w' => e = .returned (.bool (verbW s)) ∧ w' = w := by
 have h1 := one_any s w
 have h2 := two_any s w
 have hv : verbW s = (oneW s != 0 || twoW s != 0) := rfl
 rw [hv]
 generalize oneW s = x at h1 ⊢
 generalize twoW s = y at h2 ⊢
 have H1 := Lib.hid h1; have H2 := Lib.hid h2
 clear h1 h2 hv
 go_enter Tryz.func62, Tryz.ntmps62
 go_wp2_with (first
  | (go_at_call 100; refine H1.out.mono ?_; rintro e w' ⟨rfl, rfl⟩)
  | (go_at_call 101; refine H2.out.mono ?_; rintro e w' ⟨rfl, rfl⟩))
 all_goals (go_ret; refine ⟨ret_bool ?_, rfl⟩; simp_all)
theorem Verb_any (s : Str) (two : Bool) (w : World) : Calls Tryz.prog 68 #[.string (str s), .bool two] w fun e w' => e = .returned (.tuple #[.int .u8 (if two = true then twoW s else oneW s), .bool ((if two = true then twoW s else oneW s) != 0)]) ∧ w' = w := by
 have h1 := one_any s w
 have h2 := two_any s w
 generalize oneW s = x at h1 ⊢
 generalize twoW s = y at h2 ⊢
 have H1 := Lib.hid h1; have H2 := Lib.hid h2
 clear h1 h2
 cases two
 all_goals
  go_enter Tryz.func68, Tryz.ntmps68
  go_wp2_with (first
   | (go_at_call 100; refine H1.out.mono ?_; rintro e w' ⟨rfl, rfl⟩)
   | (go_at_call 101; refine H2.out.mono ?_; rintro e w' ⟨rfl, rfl⟩))
  refine bodyPost_ret (results_t2 rfl _ _ rfl rfl) rfl ⟨rfl, rfl⟩
end Go.Proofs.YtokghjnkfabgiaaGreatDoor

namespace Go.Proofs.YtokghjnkfabgiaaGreatDoor
open Go.RowKit Go.Lib
attribute [local go_sem] str_size str_get str_toList

set_option maxHeartbeats 4000000 in
theorem Name_any (s : Str) (w : World) (ht : TabT w) (hm : s.length ≤ 9223372036854775807) : Calls Tryz.prog 37 #[.string (str s)] w fun e w' => e = .returned (.bool (nameW s)) ∧ Below w.heap.size w w' := by
 have hv := verb_any s w
 have hx := lex_any w ht s hm
 have hn : nameW s = (!(verbW s || decide (s = kwIn) || decide (s = kwOut)) && lexName s) := rfl
 have hl : ∀ q, lexP s = q → lexName s = (match q with | some [p] => p.1.kind == 1 && decide (p.1.word = s) | _ => false) := fun q h => by rw [← h]; rfl
 rw [hn]
 clear hn
 generalize lexName s = bl at hl ⊢
 have HL := Lib.hid hl
 clear hl
 generalize verbW s = bv at hv ⊢
 have HV := Lib.hid hv; have HX := Lib.hid hx
 clear hv hx ht
 cases hb : (bv || decide (s = kwIn) || decide (s = kwOut)) with
 | true =>
  rw [show (!true && _) = false from rfl]
  have hb2 : bv = true ∨ s = kwIn ∨ s = kwOut := by simpa [or_assoc] using hb
  clear hb
  rcases hb2 with rfl | rfl | rfl
  ·go_enter Tryz.func37, Tryz.ntmps37
   go_wp2_with (go_at_call 62; refine HV.out.mono ?_; rintro e w' ⟨rfl, rfl⟩)
   go_ret
   exact ⟨rfl, Below.refl _ _⟩
  all_goals
   go_enter Tryz.func37, Tryz.ntmps37
   try rw [show str kwIn = str [105, 110] from rfl]
   try rw [show str kwOut = str [111, 117, 116] from rfl]
   go_wp2_with (go_at_call 62; refine HV.out.mono ?_; rintro e w' ⟨rfl, rfl⟩)
   all_goals (go_ret; refine ⟨?_, Below.refl _ _⟩; first | rfl | (exfalso; simp_all; done))
 | false =>
  have hb2 : bv = false ∧ s ≠ kwIn ∧ s ≠ kwOut := by simpa [and_assoc] using hb
  clear hb
  obtain ⟨rfl, h1, h2⟩ := hb2
  have e1 : (s == [105, 110]) = false := by rw [beq_eq_false_iff_ne]; exact h1
  have e2 : (s == [111, 117, 116]) = false := by rw [beq_eq_false_iff_ne]; exact h2
  clear h1 h2
  rw [show ∀ x : Bool, (!false && x) = x from fun _ => rfl]
  go_enter Tryz.func37, Tryz.ntmps37
  go_wp2_with (first
   | (go_at_call 62; refine HV.out.mono ?_; rintro e w' ⟨rfl, rfl⟩)
   | (go_at_call 8; fail))
  refine HX.out.mono ?_
  rintro e w1 ⟨hx, hb⟩
  have HB := Lib.hid hb
  clear HX HV hb
  obtain ⟨o, ho⟩ : ∃ o, lexP s = o := ⟨_, rfl⟩
  have hbl := HL.out o ho
  rw [ho] at hx
  clear ho HL
  cases o with
  | none =>
   obtain ⟨a, c, rfl, hc⟩ := hx
   obtain rfl : bl = false := hbl
   dsimp only
   go_wp2_with fail
   all_goals (go_ret; refine ⟨?_, (HB.out).alloc HB.out.size _⟩; first | rfl | (exfalso; simp_all; done))
  | some q =>
   obtain ⟨v, rfl, hrow⟩ := hx
   cases q with
   | nil =>
    obtain rfl : bl = false := hbl
    obtain ⟨a, c, rfl⟩ := hrow.form
    dsimp only
    go_wp2_with fail
    all_goals (go_ret; refine ⟨?_, (HB.out).alloc HB.out.size _⟩; first | rfl | (exfalso; simp_all; done))
   | cons p r =>
    cases r with
    | cons p2 r =>
     obtain rfl : bl = false := hbl
     obtain ⟨a, c, rfl⟩ := hrow.form
     have hne : (((p :: p2 :: r).length : Int) == 1) = false := by rw [beq_eq_false_iff_ne]; simp; omega
     dsimp only
     generalize (p :: p2 :: r).length = n at hne ⊢
     go_wp2_with fail
     all_goals (go_ret; refine ⟨?_, (HB.out).alloc HB.out.size _⟩; first | rfl | (exfalso; simp_all; done))
    | nil =>
     obtain ⟨⟨k, wd, n⟩, at_⟩ := p
     obtain rfl : bl = (k == 1 && decide (wd = s)) := hbl
     obtain ⟨g, sc, rfl, hg, hgl, e0, -, e2', -⟩ := row_one hrow
     have c0 : ∀ o, (w1.alloc o).cell? ⟨g, 0, none⟩ = some (.int .i64 k) := fun o => (World.cell?_alloc_lt _ _ _ hgl).trans e0
     have c2 : ∀ o, (w1.alloc o).cell? ⟨g, 2, none⟩ = some (.string (str wd)) := fun o => (World.cell?_alloc_lt _ _ _ hgl).trans e2'
     have x0 := c0 (.cells #[.int .i64 0, .int .i64 0] 28)
     have x2 := c2 (.cells #[.int .i64 0, .int .i64 0] 28)
     clear hrow e0 e2' c0 c2
     dsimp only at x0 x2 ⊢
     go_wp2_with fail
     all_goals (go_ret; refine ⟨ret_bool ?_, (HB.out).alloc HB.out.size _⟩)
     all_goals first | rfl | (simp_all [Bool.beq_eq_decide_eq]; done) | skip
end Go.Proofs.YtokghjnkfabgiaaGreatDoor

namespace Go.Proofs.YtokghjnkfabgiaaGreatDoor
open Go.RowKit Go.Lib
attribute [local go_sem] str_size str_get str_toList

def restT (toks : List (Tk × Nat)) (n : Nat) : List Tk := (toks.drop n).map Prod.fst
structure LineI (W0 : World) (L : Nat) (lv : Value) (toks : List (Tk × Nat)) (e : Int) (w : World) (n : Nat) : Prop where
 size : W0.heap.size = L
 below : Below L W0 w
 row : tokR.Sl W0 lv toks
 box : w.heap[L]? = some (.cells #[lv, .int .i64 (n : Int), .int .i64 e] 62 (0, 0))
 hn : n ≤ toks.length
 small : toks.length ≤ 65536
 right : ∀ p ∈ toks, RightT p.1
section
variable {W0 w : World} {L n : Nat} {lv : Value} {toks : List (Tk × Nat)} {e : Int}
theorem LineI.cells (h : LineI W0 L lv toks e w n) : w.cell? ⟨L, 0, none⟩ = some lv ∧ w.cell? ⟨L, 1, none⟩ = some (.int .i64 (n : Int)) ∧ w.cell? ⟨L, 2, none⟩ = some (.int .i64 e) := by
 have h0 := cell_of_row w L 0 _ _ _ h.box
 have h1 := cell_of_row w L 1 _ _ _ h.box
 have h2 := cell_of_row w L 2 _ _ _ h.box
 exact ⟨h0, h1, h2⟩
theorem LineI.form (h : LineI W0 L lv toks e w n) : ∃ a c, lv = .slice a toks.length c := by
 obtain ⟨a, c, e, _⟩ := h.row
 exact ⟨a, c, e⟩
theorem LineI.next (h : LineI W0 L lv toks e w n) {w' : World} (hb : Below w.heap.size w w') : LineI W0 L lv toks e w' n := by
 have hl := (Array.getElem?_eq_some_iff.1 h.box).1
 exact ⟨h.size, h.below.trans (hb.mono (Nat.le_of_lt hl)), h.row, block_below h.box hb, h.hn, h.small, h.right⟩
theorem LineI.lt (h : LineI W0 L lv toks e w n) : L < w.heap.size := (Array.getElem?_eq_some_iff.1 h.box).1
theorem LineI.tok (h : LineI W0 L lv toks e w n) (hn : n < toks.length) : ∃ b off c, lv = .slice (some ⟨b, off, none⟩) toks.length c ∧ b < L ∧
  w.cell? ⟨b, off + n * 4, none⟩ = some (.int .i64 toks[n].1.kind) ∧ w.cell? ⟨b, off + n * 4 + 1, none⟩ = some (.int .i64 (toks[n].2 : Int)) ∧ w.cell? ⟨b, off + n * 4 + 2, none⟩ = some (.string (str toks[n].1.word)) ∧ w.cell? ⟨b, off + n * 4 + 3, none⟩ = some (.int .i64 toks[n].1.n) := by
 obtain ⟨a, c, e, h1, h2, h3, hx⟩ := h.row
 obtain ⟨b, off, cs, e2, ⟨hcs, _⟩, hc⟩ := hx n hn
 subst e2
 have hk : ∀ j v, cs[j]? = some v → W0.cell? ⟨b, off + n * 4 + j, none⟩ = some v := hc
 have hb : b < L := by
  have := World.block_lt_of_cell? W0 _ (hk 0 _ (by rw [hcs]; rfl))
  rw [← h.size]; exact this
 have hk2 : ∀ j v, cs[j]? = some v → w.cell? ⟨b, off + n * 4 + j, none⟩ = some v := fun j v hj => (h.below.cell (p := ⟨b, off + n * 4 + j, none⟩) hb).trans (hk j v hj)
 subst hcs
 exact ⟨b, off, c, e, hb, hk2 0 _ rfl, hk2 1 _ rfl, hk2 2 _ rfl, hk2 3 _ rfl⟩
theorem rest_cons (hn : n < toks.length) : restT toks n = toks[n].1 :: restT toks (n + 1) := by
 unfold restT
 rw [List.drop_eq_getElem_cons hn]; rfl
theorem rest_nil (hn : ¬ n < toks.length) : restT toks n = [] := by
 unfold restT
 rw [List.drop_eq_nil_of_le (by omega)]; rfl
theorem rest_len : (restT toks n).length = toks.length - n := by unfold restT; simp
end
set_option maxHeartbeats 4000000 in
theorem at_any {W0 w : World} {L n : Nat} {lv : Value} {toks : List (Tk × Nat)} {e : Int} (h : LineI W0 L lv toks e w n) :
  Calls Tryz.prog 61 #[.pointer (some ⟨L, 0, none⟩)] w fun e w' => (∃ a, e = .returned (.int .i64 a)) ∧ Below w.heap.size w w' := by
 obtain ⟨c0, c1, c2⟩ := h.cells
 obtain ⟨a, c, rfl⟩ := h.form
 have hsm := h.small
 by_cases hn : n < toks.length
 ·obtain ⟨b, off, c', e1, hb, t0, t1, t2, t3⟩ := h.tok hn
  cases e1
  generalize toks[n].1.kind = k at t0; generalize (toks[n].2 : Int) = at_ at t1
  have hn' : decide ((n : Int) < (toks.length : Int)) = true := decide_eq_true (by omega)
  clear h t0 t2 t3
  generalize toks.length = N at c0 hn hn' hsm
  go_enter Tryz.func61, Tryz.ntmps61
  go_upto_region 1 with fail
  go_quiet (fail)
  go_upto_region 2 with fail
  go_quiet (fail)
  go_wp2_with fail
  go_ret
  exact ⟨⟨_, rfl⟩, by first | exact Below.drewN _ _ | exact (Below.drewN _ _).trans (Below.drewN _ _)⟩
 ·have hn' : decide ((n : Int) < (toks.length : Int)) = false := decide_eq_false (by omega)
  generalize toks.length = N at c0 hn hn' hsm
  clear h
  go_enter Tryz.func61, Tryz.ntmps61
  go_upto_region 1 with fail
  go_quiet (fail)
  go_wp2_with fail
  go_ret
  exact ⟨⟨_, rfl⟩, by first | exact Below.drewN _ _ | exact (Below.drewN _ _).trans (Below.drewN _ _)⟩
theorem set_block {w : World} {g k : Nat} {cs : Array Value} {t : TypeId} {v : Value} (h : w.heap[g]? = some (.cells cs t (0, 0))) : (w.setCell ⟨g, k, none⟩ v).heap[g]? = some (.cells (cs.setIfInBounds k v) t (0, 0)) := heap_setCell_same w g k _ _ _ h
theorem results_peek {tmps : Array Value} {w : World} (g : Nat) {cs : Array Value}
  (hp : tmps.getD 2 undef = .pointer (some ⟨g, 0, none⟩)) (hg : w.heap[g]? = some (.cells cs 39 (0, 0))) (hs : (Tryz.prog.info? 39).map (·.size) = some cs.size) :
  (results Tryz.f34 tmps).run Tryz.prog w = .ok (.agg cs) w := by
 have hp' : tmps[2]?.getD undef = .pointer (some ⟨g, 0, none⟩) := by simpa using hp
 have h : Tryz.f34.results = #[.cell 2 39] := by rfl
 simp [results, h, hp', asAddr, run_loadVar_row w g 39 39 cs (0, 0) _ hg Tryz.underlying39 rfl hs]
theorem results_fault {tmps : Array Value} {w : World} (g : Nat) {cs : Array Value}
  (hp : tmps.getD 4 undef = .pointer (some ⟨g, 0, none⟩)) (hg : w.heap[g]? = some (.cells cs 28 (0, 0))) (hs : (Tryz.prog.info? 28).map (·.size) = some cs.size) :
  (results Tryz.f35 tmps).run Tryz.prog w = .ok (.agg cs) w := by
 have hp' : tmps[4]?.getD undef = .pointer (some ⟨g, 0, none⟩) := by simpa using hp
 have h : Tryz.f35.results = #[.cell 4 28] := by rfl
 simp [results, h, hp', asAddr, run_loadVar_row w g 28 28 cs (0, 0) _ hg Tryz.underlying28 rfl hs]
set_option maxHeartbeats 4000000 in
theorem fault_any {W0 w : World} {L n : Nat} {lv : Value} {toks : List (Tk × Nat)} {e : Int} (h : LineI W0 L lv toks e w n) (x : Int) :
  Calls Tryz.prog 35 #[.pointer (some ⟨L, 0, none⟩), .int .i64 x] w fun e w' => (∃ a, e = .returned (.agg #[.int .i64 a, .int .i64 x])) ∧ Below w.heap.size w w' := by
 have ha := at_any (h.next ((Below.refl _ _).alloc (Nat.le_refl _) (.cells #[.int .i64 0, .int .i64 0] 28)))
 have HA := Lib.hid ha
 clear h ha
 go_enter Tryz.func35, Tryz.ntmps35
 go_wp2_with fail
 refine HA.out.mono ?_
 rintro e w1 ⟨⟨a, rfl⟩, hb1⟩
 have HX := Lib.hid (new1 hb1)
 have HB := Lib.hid (bNext hb1 ((Below.refl _ _).alloc (Nat.le_refl _) _))
 clear hb1 HA
 obtain ⟨G, hG⟩ : ∃ G, w.heap.size = G := ⟨_, rfl⟩
 rw [hG] at HX ⊢
 go_wp2_with (first | ((with_reducible show wpList _ _ _ ({ dst := none, op := Op.store 28 (.tmp 4) (.tmp _), type := _, pos := _, after := _, guard := _ } :: _) _ _); (refine wpList_storeW rfl 28 _ _ rfl G rfl _ _ rfl _ HX.out (by kernel_rfl) (by rfl) (by rfl) ?_); intro w2 hr2 hg2))
 exact bodyPost_ret (results_fault G rfl hr2 (by kernel_rfl)) rfl ⟨⟨a, rfl⟩, hG ▸ HB.out.grown hg2 HB.out.size (fun k hk => by cases hk; omega)⟩
set_option maxHeartbeats 4000000 in
theorem peek_any {W0 w : World} {L n : Nat} {lv : Value} {toks : List (Tk × Nat)} {e : Int} (h : LineI W0 L lv toks e w n) :
  Calls Tryz.prog 34 #[.pointer (some ⟨L, 0, none⟩)] w fun e w' => (∃ a, e = .returned (tkV (headT (restT toks n)) a)) ∧ Below w.heap.size w w' := by
 have hl := h.lt
 obtain ⟨a, c, rfl⟩ := h.form
 have hsm := h.small
 have h1 := h.next ((Below.refl _ _).alloc (Nat.le_refl _) (.cells #[.int .i64 0, .int .i64 0, .string ⟨#[]⟩, .int .i64 0] 39))
 obtain ⟨c0, c1, c2⟩ := h1.cells
 by_cases hn : n < toks.length
 ·obtain ⟨b, off, c', e1, hb, t0, t1, t2, t3⟩ := h1.tok hn
  cases e1
  rw [rest_cons hn]
  show Calls Tryz.prog 34 _ _ fun e w' => (∃ a, e = .returned (tkV toks[n].1 a)) ∧ _
  unfold tkV
  generalize toks[n].1.kind = k at t0 ⊢; generalize (toks[n].2 : Int) = at_ at t1; generalize toks[n].1.word = wd at t2 ⊢; generalize toks[n].1.n = nn at t3 ⊢
  have hn' : decide ((n : Int) < (toks.length : Int)) = true := decide_eq_true (by omega)
  generalize toks.length = N at c0 hn hn' hsm
  clear h h1
  go_enter Tryz.func34, Tryz.ntmps34
  go_upto_region 1 with fail
  go_quiet (fail)
  go_upto_region 2 with fail
  go_region
  go_wp2_with fail
  have hx := World.alloc_heap_new w (.cells #[.int .i64 0, .int .i64 0, .string ⟨#[]⟩, .int .i64 0] 39)
  have hb0 : Below w.heap.size w (w.alloc (.cells #[.int .i64 0, .int .i64 0, .string ⟨#[]⟩, .int .i64 0] 39)) := (Below.refl _ _).alloc (Nat.le_refl _) _
  refine bodyPost_ret (results_peek _ rfl (set_block (set_block (set_block (set_block (show ((w.alloc (.cells #[.int .i64 0, .int .i64 0, .string ⟨#[]⟩, .int .i64 0] 39)).drewN _).heap[w.heap.size]? = _ from hx))))) (by kernel_rfl)) rfl ⟨⟨at_, rfl⟩, ?_⟩
  exact ((((hb0.trans (Below.drewN _ _)).setCell (Nat.le_refl _) _).setCell (Nat.le_refl _) _).setCell (Nat.le_refl _) _).setCell (Nat.le_refl _) _
 ·rw [rest_nil hn]
  show Calls Tryz.prog 34 _ _ fun e w' => (∃ a, e = .returned (.agg #[.int .i64 4, .int .i64 a, .string (str []), .int .i64 0])) ∧ _
  have hn' : decide ((n : Int) < (toks.length : Int)) = false := decide_eq_false (by omega)
  generalize toks.length = N at c0 hn hn' hsm
  clear h h1
  go_enter Tryz.func34, Tryz.ntmps34
  go_upto_region 1 with fail
  go_quiet (fail)
  have hx := World.alloc_heap_new w (.cells #[.int .i64 0, .int .i64 0, .string ⟨#[]⟩, .int .i64 0] 39)
  have hb0 : Below w.heap.size w (w.alloc (.cells #[.int .i64 0, .int .i64 0, .string ⟨#[]⟩, .int .i64 0] 39)) := (Below.refl _ _).alloc (Nat.le_refl _) _
  have HX := Lib.hid (show ((w.alloc (.cells #[.int .i64 0, .int .i64 0, .string ⟨#[]⟩, .int .i64 0] 39)).drewN nq).heap[w.heap.size]? = _ from hx)
  have HB := Lib.hid (hb0.trans (Below.drewN _ nq))
  clear hx hb0
  obtain ⟨G, hG⟩ : ∃ G, w.heap.size = G := ⟨_, rfl⟩
  rw [hG] at HX ⊢
  go_wp2_with (first | ((with_reducible show wpList _ _ _ ({ dst := none, op := Op.store 39 (.tmp 2) (.tmp _), type := _, pos := _, after := _, guard := _ } :: _) _ _); (refine wpList_storeW rfl 39 _ _ rfl G rfl _ _ rfl _ HX.out (by kernel_rfl) (by rfl) (by rfl) ?_); intro w2 hr2 hg2))
  exact bodyPost_ret (results_peek G rfl hr2 (by kernel_rfl)) rfl ⟨⟨0, rfl⟩, hG ▸ HB.out.grown hg2 (by rw [hG]; exact Nat.le_of_lt (by rw [← hG]; simp)) (fun k hk => by cases hk; omega)⟩
end Go.Proofs.YtokghjnkfabgiaaGreatDoor

namespace Go.Proofs.YtokghjnkfabgiaaGreatDoor
open Go.RowKit Go.Lib

theorem RowI.keepTy {B : Nat} {w w' : World} {v : Value} {xs : List Int} (h : RowI B w v xs) (hk : KeepTy 2 w w') : RowI B w' v xs := own_keep h hk
theorem RowG.mono {α : Type} {R : Rep α} {M M' : Nat} {t : TypeId} {w : World} {v : Value} {xs : List α} (h : RowG R M t w v xs) (hM : M' ≤ M) : RowG R M' t w v xs := by
 obtain ⟨cs, h1, h2⟩ := h
 exact ⟨cs, own_mono h1 hM, h2⟩
theorem RowG.one {α : Type} {R : Rep α} {M : Nat} {t : TypeId} {w : World} {v : Value} {xs : List α} (h : RowG R M t w v xs) : v.oneCell' = true := by
 obtain ⟨cs, h1, h2⟩ := h
 exact own_cell1 h1
def itmR : Rep Itm where
 n := 5
 At w cs x := ∃ a v, cs = [.int .i64 x.how, .int .i64 a, .int .u8 x.fn, .string (str x.name), v] ∧ RowI 0 w v x.nums
 len := by rintro w cs x ⟨a, v, rfl, _⟩; rfl
 keep := by rintro w w' cs x ⟨a, v, rfl, h⟩ hb; exact ⟨a, v, rfl, h.below hb⟩
 one := by
  rintro w cs x ⟨a, v, rfl, h⟩ u hu
  simp only [List.mem_cons, List.not_mem_nil, or_false] at hu
  rcases hu with rfl | rfl | rfl | rfl | rfl <;> first | rfl | exact own_cell1 h
theorem keep_itm (B : Nat) : KeepR itmR B 121 := by
 rintro w w' _ hk cs x ⟨a, v, e, h⟩
 exact ⟨a, v, e, h.keepTy (hk _ (by decide))⟩
def sidR : Rep SidP := Rep.flat 2 (fun x => [.string (str x.name), .int .i64 x.n]) (fun _ => True) (fun _ => rfl) (by intro x v hv; simp at hv; rcases hv with rfl | rfl <;> rfl)
theorem keep_sid (B : Nat) : KeepR sidR B 81 := fun _ _ _ _ _ _ h => h
def inpR : Rep InpP where
 n := 3
 At w cs x := ∃ a v, cs = [.string (str x.name), .int .i64 a, v] ∧ RowG sidR 0 81 w v x.sides
 len := by rintro w cs x ⟨a, v, rfl, _⟩; rfl
 keep := by rintro w w' cs x ⟨a, v, rfl, h⟩ hb; exact ⟨a, v, rfl, h.next hb⟩
 one := by
  rintro w cs x ⟨a, v, rfl, h⟩ u hu
  simp only [List.mem_cons, List.not_mem_nil, or_false] at hu
  rcases hu with rfl | rfl | rfl <;> first | rfl | exact h.one
theorem keep_inp (B : Nat) : KeepR inpR B 79 := by
 rintro w w' _ hk cs x ⟨a, v, e, h⟩
 exact ⟨a, v, e, h.same (fun _ _ h => h) (hk _ (by decide))⟩
def linR : Rep LinP where
 n := 3
 At w cs x := ∃ a v, cs = [.string (str x.name), .int .i64 a, v] ∧ RowG itmR 0 121 w v x.items
 len := by rintro w cs x ⟨a, v, rfl, _⟩; rfl
 keep := by rintro w w' cs x ⟨a, v, rfl, h⟩ hb; exact ⟨a, v, rfl, h.next hb⟩
 one := by
  rintro w cs x ⟨a, v, rfl, h⟩ u hu
  simp only [List.mem_cons, List.not_mem_nil, or_false] at hu
  rcases hu with rfl | rfl | rfl <;> first | rfl | exact h.one
theorem keep_lin (B : Nat) : KeepR linR B 67 := by
 rintro w w' hb hk cs x ⟨a, v, e, h⟩
 refine ⟨a, v, e, h.same (fun cs y hy => ?_) (hk _ (by decide))⟩
 obtain ⟨a2, v2, e2, h2⟩ := hy
 exact ⟨a2, v2, e2, h2.keepTy (hk _ (by decide))⟩

section
variable {α : Type}
theorem wpList_pushN {R : Rep α} {ops : Array Oper} {rest : List Oper} {o : Oper} {a : Act} {w : World} {Q : Exit → Act → World → Prop} (hgd : o.guard = none) (s x : Operand) (ts t : TypeId) (ho : o.op = .call { callee := .builtin .append, args := #[s, x], argTypes := #[ts, ts] })
  (z : Value) (bytes : Nat) (ht : Tryz.prog.underlying ts = some (.slice t)) (hi : (Tryz.prog.info? t).map (fun i => (i.zero, i.size, i.bytes)) = some (some z, R.n, bytes)) (hz : z.cells.size = R.n) (hn : 0 < R.n)
  (B : Nat) (M G : Nat) (hkr : KeepR R B t) (v : Value) (xs : List α) (y : α) (cs : Array Value) (hs : a.eval s = v) (hv : RowG R M t w v xs) (hx : a.eval x = .slice (some ⟨G, 0, none⟩) 1 1) (hG : w.heap[G]? = some (.cells cs t (0, 0))) (hy : R.At w cs.toList y)
  (hl : xs.length + 1 ≤ maxLen) (hby : (xs.length + 1) * bytes ≤ 140737488355328) (hBM : B ≤ M) (hM : M ≤ w.heap.size)
  (h : ∀ v' w', RowG R M t w' v' (xs ++ [y]) → Below M w w' → w.grownBy w' v.ownBlock → (∀ u, u ≠ t → KeepTy u w w') → Newer w v v' → wpList Tryz.prog ops Q rest (a.put o.dst v') w') : wpList Tryz.prog ops Q (o :: rest) a w := by
 obtain ⟨i0, hi, hz0, hz1, hz2⟩ := info_parts hi
 obtain ⟨ds, h1, h2⟩ := hv
 refine wpList_append_src _ hgd s x ts ho M t i0 _ R.n bytes ht hi hz0 hz1 hz2 hz hn v xs.length ds hs h1 _ 1 cs.toList hx (src_block hG 1) (by rw [Nat.one_mul]; exact R.len _ _ _ hy) (R.one _ _ _ hy) hl hby hM ?_
 intro v' w' hown hg hnw
 have hge : ∀ j, v.ownBlock = some j → M ≤ j := fun j hj => (World.ownsRow.lt h1 j hj).1
 have hbM : Below M w w' := (Below.refl M w).grown hg hM hge
 have hk : ∀ u, u ≠ t → KeepTy u w w' := fun u hu => KeepTy.grown hg (fun g e => by obtain ⟨cur, hh⟩ := own_typed h1 e; exact NotTy.of hh (Ne.symm hu))
 have hbB : Below B w w' := hbM.mono hBM
 exact h v' w' ⟨ds ++ cs.toList, by simpa using hown, (hkr.cs hbB hk (Rep.Cs.single hy)).append (hkr.cs hbB hk h2)⟩ hbM hg hk hnw
end
end Go.Proofs.YtokghjnkfabgiaaGreatDoor

namespace Go.Proofs.YtokghjnkfabgiaaGreatDoor
open Go.RowKit Go.Lib
attribute [local go_sem] str_size str_get str_toList

set_option maxHeartbeats 4000000 in
theorem shownum_any (n : Int) (hn : in64B n = true) (w : World) (ht : TabT w) : Calls Tryz.prog 69 #[.int .i64 n] w fun e w' => e = .returned (.string (str (numStr n))) ∧ Below w.heap.size w w' := by
 have h := spell_any w ht ⟨2, [], n⟩ 0 (.inr (.inl ⟨rfl, rfl, hn⟩))
 have hs : spellT ⟨2, [], n⟩ = numStr n := rfl
 rw [hs] at h
 generalize numStr n = s at h ⊢
 have HS := Lib.hid h
 clear h hs ht
 go_enter Tryz.func69, Tryz.ntmps69
 go_wp2_with (go_at_call 9; refine HS.out.mono ?_; rintro e w' ⟨rfl, hb⟩; have HB := Lib.hid hb)
 go_ret
 exact ⟨rfl, HB.out⟩
end Go.Proofs.YtokghjnkfabgiaaGreatDoor

namespace Go.Proofs.YtokghjnkfabgiaaGreatDoor
open Go.RowKit Go.Lib
attribute [local go_sem] str_size str_get str_toList

theorem row_at {α : Type} {R : Rep α} {M : Nat} {t : TypeId} {w : World} {v : Value} {xs : List α} (h : RowG R M t w v xs) (i : Nat) (hi : i < xs.length) : ∃ b off c cs, v = .slice (some ⟨b, off, none⟩) xs.length c ∧ R.At w cs xs[i] ∧ ∀ j u, cs[j]? = some u → w.cell? ⟨b, off + i * R.n + j, none⟩ = some u := by
 obtain ⟨a, c, e, -, -, -, hx⟩ := h.sl
 obtain ⟨b, off, cs, e2, h1, h2⟩ := hx i hi
 subst e2
 exact ⟨b, off, c, cs, e, h1, h2⟩
theorem itm_at {M : Nat} {w : World} {v : Value} {xs : List Itm} (h : RowG itmR M 121 w v xs) (i : Nat) (hi : i < xs.length) : ∃ b off c a u, v = .slice (some ⟨b, off, none⟩) xs.length c ∧ w.cell? ⟨b, off + i * 5, none⟩ = some (.int .i64 xs[i].how) ∧ w.cell? ⟨b, off + i * 5 + 1, none⟩ = some (.int .i64 a) ∧ w.cell? ⟨b, off + i * 5 + 2, none⟩ = some (.int .u8 xs[i].fn) ∧ w.cell? ⟨b, off + i * 5 + 3, none⟩ = some (.string (str xs[i].name)) ∧ w.cell? ⟨b, off + i * 5 + 4, none⟩ = some u ∧ RowI 0 w u xs[i].nums := by
 obtain ⟨b, off, c, cs, e, ⟨a, u, hcs, hr⟩, hx⟩ := row_at h i hi
 subst hcs
 exact ⟨b, off, c, a, u, e, hx 0 _ rfl, hx 1 _ rfl, hx 2 _ rfl, hx 3 _ rfl, hx 4 _ rfl, hr⟩
theorem sid_at {M : Nat} {w : World} {v : Value} {xs : List SidP} (h : RowG sidR M 81 w v xs) (i : Nat) (hi : i < xs.length) : ∃ b off c, v = .slice (some ⟨b, off, none⟩) xs.length c ∧ w.cell? ⟨b, off + i * 2, none⟩ = some (.string (str xs[i].name)) ∧ w.cell? ⟨b, off + i * 2 + 1, none⟩ = some (.int .i64 xs[i].n) := by
 obtain ⟨b, off, c, cs, e, ⟨hcs, _⟩, hx⟩ := row_at h i hi
 subst hcs
 exact ⟨b, off, c, e, hx 0 _ rfl, hx 1 _ rfl⟩
end Go.Proofs.YtokghjnkfabgiaaGreatDoor

namespace Go.Proofs.YtokghjnkfabgiaaGreatDoor
open Go.RowKit Go.Lib
attribute [local go_sem] str_size str_get str_toList

def ShB (w : World) (M b : Nat) (m1 m2 p : Value) (s : Str) : Prop :=
 M ≤ b ∧ ∃ v, w.heap[b]? = some (.cells #[m1, m2, p, v] 102 (0, 0)) ∧ w.ownsRow M 5 1 v s.length (Lib.strCells (str s)) ∧ v.ownBlock ≠ some b
theorem ShB.cell {w : World} {M b : Nat} {m1 m2 p : Value} {s : Str} (h : ShB w M b m1 m2 p s) : w.cell? ⟨b, 0, none⟩ = some m1 ∧ w.cell? ⟨b, 1, none⟩ = some m2 ∧ w.cell? ⟨b, 2, none⟩ = some p := by
 obtain ⟨_, v, hb, _⟩ := h
 simp [World.cell?, hb]
theorem ShB.lt {w : World} {M b : Nat} {m1 m2 p : Value} {s : Str} (h : ShB w M b m1 m2 p s) : b < w.heap.size := by
 obtain ⟨_, v, hb, _⟩ := h
 exact (Array.getElem?_eq_some_iff.1 hb).1
theorem ShB.used {w : World} {M b : Nat} {m1 m2 p : Value} {s : Str} (h : ShB w M b m1 m2 p s) (q : Value) : ShB (w.setCell ⟨b, 2, none⟩ q) M b m1 m2 q s := by
 obtain ⟨hB, v, hb, hown, hne⟩ := h
 refine ⟨hB, v, ?_, ?_, hne⟩
 ·simp [World.setCell, Array.getElem?_modify, hb]
 ·refine hown.kept (row := some b) ⟨rfl, rfl, rfl, by simp [World.setCell], fun k _ hk => Below.heap_setCell _ _ _ _ (fun e => hk (by simp [e]))⟩ ?_
  exact Or.inr hne
def KeepSh (w w' : World) : Prop := ∀ u, u ≠ 5 → u ≠ 102 → KeepTy u w w'
theorem ShB.keepUsed {w : World} {M b k : Nat} {m1 m2 p : Value} {s : Str} (h : ShB w M b m1 m2 p s) (q : Value) : KeepSh w (w.setCell ⟨b, k, none⟩ q) := by
 obtain ⟨hB, v, hb, hown, hne⟩ := h
 exact fun u _ h2 => KeepTy.setCell (p := ⟨b, k, none⟩) (NotTy.of hb (Ne.symm h2)) _
theorem ShB.next {w w' : World} {M b : Nat} {m1 m2 p : Value} {s : Str} (h : ShB w M b m1 m2 p s) (hb : Below w.heap.size w w') : ShB w' M b m1 m2 p s := by
 obtain ⟨hB, v, h1, hown, hne⟩ := h
 exact ⟨hB, v, block_below h1 hb, own_keep hown (KeepTy.below hb), hne⟩
set_option maxHeartbeats 4000000 in
theorem check_used (b : Nat) (w : World) (h0 : w.cell? ⟨b, 2, none⟩ = some (.pointer (some ⟨b, 2, none⟩))) :
  Calls Tryz.prog 77 #[.pointer (some ⟨b, 2, none⟩)] w fun e w' => e = .returned (.tuple #[]) ∧ w' = w := by
 have hne := Lib.run_neq_ptr_same (P := Tryz.prog) (tp := 98) (te := 100) w ⟨b, 2, none⟩ (by kernel_rfl) rfl
 go_enter Tryz.func77, Tryz.ntmps77
 go_wp2
 go_end0
 exact ⟨rfl, rfl⟩
set_option maxHeartbeats 4000000 in
theorem check_fresh (b : Nat) (w : World) (h0 : w.cell? ⟨b, 2, none⟩ = some (.pointer none)) (hsh : w.shape? b = some (102, 4)) (hfz : w.frozen? ⟨b, 2, none⟩ = false) :
  Calls Tryz.prog 77 #[.pointer (some ⟨b, 2, none⟩)] w fun e w' => e = .returned (.tuple #[]) ∧ w' = w.setCell ⟨b, 2, none⟩ (.pointer (some ⟨b, 2, none⟩)) := by
 have hto := Lib.run_to_unsafe (P := Tryz.prog) (src := 98) (dst := 179) (t := 100) w ⟨b, 2, none⟩ (by kernel_rfl) (by kernel_rfl) rfl (by decide) hsh (by show 2 < 4; decide)
 have hfr := Lib.run_from_unsafe (P := Tryz.prog) (src := 179) (dst := 98) (u := 100) w ⟨b, 2, none⟩ (by kernel_rfl) (by kernel_rfl) rfl hsh (by kernel_rfl)
 go_enter Tryz.func77, Tryz.ntmps77
 go_wp2
 rw [run_callFunc_extern (f := 110) rfl (by kernel_rfl) (by kernel_rfl) (by kernel_rfl) (e := Extern.AbiNoEscape.same) (by kernel_rfl)]
 rw [Lib.run_noEscape]
 simp only [Result.andThen]
 rw [Oper.upon_value]
 go_wp2
 go_end0
 exact ⟨rfl, rfl⟩
theorem check_any (w : World) (M b : Nat) (m1 m2 p : Value) (s : Str) (hp : p = .pointer none ∨ p = .pointer (some ⟨b, 2, none⟩)) (h : ShB w M b m1 m2 p s) :
  Calls Tryz.prog 77 #[.pointer (some ⟨b, 2, none⟩)] w fun e w' => e = .returned (.tuple #[]) ∧ ShB w' M b m1 m2 (.pointer (some ⟨b, 2, none⟩)) s ∧ Below M w w' ∧ KeepSh w w' := by
 rcases hp with rfl | rfl
 ·have hs : w.shape? b = some (102, 4) := by obtain ⟨_, v, hb, _⟩ := h; simp [World.shape?, hb]
  have hf : w.frozen? ⟨b, 2, none⟩ = false := by obtain ⟨_, v, hb, _⟩ := h; simp [World.frozen?, hb]
  refine (check_fresh b w h.cell.2.2 hs hf).mono ?_
  rintro e w' ⟨rfl, rfl⟩
  exact ⟨rfl, h.used _, (Below.refl M w).setCell (p := ⟨b, 2, none⟩) h.1 _, h.keepUsed _⟩
 ·refine (check_used b w h.cell.2.2).mono ?_
  rintro e w' ⟨rfl, rfl⟩
  exact ⟨rfl, h, Below.refl M _, fun u _ _ => KeepTy.refl _ _⟩
theorem ShB.put {w : World} {M b : Nat} {m1 m2 p v0 v : Value} {s : Str} (hM : M ≤ b) (hb : w.heap[b]? = some (.cells #[m1, m2, p, v0] 102 (0, 0))) (hown : w.ownsRow M 5 1 v s.length (Lib.strCells (str s))) :
  ShB (w.setCell ⟨b, 3, none⟩ v) M b m1 m2 p s := by
 have hne := Lib.ownBlock_ne hown hb (by decide)
 refine ⟨hM, v, ?_, ?_, hne⟩
 ·simp [World.setCell, Array.getElem?_modify, hb]
 ·refine hown.kept (row := some b) ⟨rfl, rfl, rfl, by simp [World.setCell], fun k _ hk => Below.heap_setCell _ _ _ _ (fun e => hk (by simp [e]))⟩ ?_
  exact Or.inr hne
theorem strCells_app (s t : Str) : Lib.strCells (str (s ++ t)) = Lib.strCells (str s) ++ Lib.strCells (str t) := by
 simp [Lib.strCells, str]
set_option maxHeartbeats 4000000 in
theorem writes_any (w : World) (M b : Nat) (m1 m2 p : Value) (s t : Str) (hp : p = .pointer none ∨ p = .pointer (some ⟨b, 2, none⟩)) (h : ShB w M b m1 m2 p s) (hl : s.length + t.length ≤ 100000000000) (hM : M ≤ w.heap.size) :
  Calls Tryz.prog 50 #[.pointer (some ⟨b, 2, none⟩), .string (str t)] w fun e w' => e = .returned (.tuple #[.int .i64 t.length, .nilIface]) ∧ ShB w' M b m1 m2 (.pointer (some ⟨b, 2, none⟩)) (s ++ t) ∧ Below M w w' ∧ KeepSh w w' := by
 have HC := Lib.hid (check_any w M b m1 m2 p s hp h)
 clear h hp
 go_enter Tryz.func50, Tryz.ntmps50
 obtain ⟨i0, hi, hz0, hz1, hz2⟩ := info_parts (P := Tryz.prog) (e := 5) (z := .int .u8 0) (size := 1) (bytes := 1) (by kernel_rfl)
 go_wp2_with (go_at_call 77; refine HC.out.mono ?_)
 rintro e w1 ⟨rfl, h1, hb1, hk1⟩
 have HB1 := Lib.hid hb1; have H1 := Lib.hid h1; have HK1 := Lib.hid hk1
 clear hk1
 obtain ⟨hB, v, hbk, hown, hne⟩ := h1
 have c3 : w1.cell? ⟨b, 3, none⟩ = some v := by rw [Lib.cell_of_heap hbk]; rfl
 go_wp2_with (at_builtin; refine Lib.wpList_append_own_string _ rfl _ _ 53 9 rfl M 5 i0 (by kernel_rfl) (by kernel_rfl) hi hz0 hz1 hz2 _ _ _ rfl hown (str t) rfl ?c3 ?c4 ?c5 ?_)
 case c3 => rw [str_size]; unfold maxLen; omega
 case c4 => rw [str_size]; omega
 case c5 => have := HB1.out.size; omega
 intro v' w2 hown' hgrow _
 have hlt : b < w1.heap.size := H1.out.lt
 have hb2 : w2.heap[b]? = some (.cells #[m1, m2, .pointer (some ⟨b, 2, none⟩), v] 102 (0, 0)) := by
  rw [hgrow.block b hlt (fun e => hne e.symm)]
  exact hbk
 have f1 : w2.frozen? ⟨b, 3, none⟩ = false := Lib.frozen_of_heap hb2 3
 have d3 : w2.cell? ⟨b, 3, none⟩ = some v := by rw [Lib.cell_of_heap hb2]; rfl
 obtain ⟨ao, n', cap, rfl⟩ : ∃ ao n' cap, v' = .slice ao n' cap := by
  rcases hown'.2 with ⟨hv, _⟩ | ⟨g, cap, cur, hv, _⟩
  ·exact ⟨_, _, _, hv⟩
  ·exact ⟨_, _, _, hv⟩
 go_wp2
 go_ret2
 have hk2 : KeepSh w1 w2 := fun u h1 _ => KeepTy.grown hgrow (fun g e => by obtain ⟨cur, hc⟩ := own_typed hown e; exact NotTy.of hc (Ne.symm h1))
 refine ⟨by simp, ?_, ?_, fun u h1 h2 => ((HK1.out u h1 h2).trans (hk2 u h1 h2)).trans (KeepTy.setCell (p := ⟨b, 3, none⟩) (NotTy.of hb2 (Ne.symm h2)) _)⟩
 ·refine ShB.put hB hb2 ?_
  rw [strCells_app]
  simpa [str_size] using hown'
 ·exact (HB1.out.grown hgrow (by have := HB1.out.size; omega) (fun k hk => (hown.lt k hk).1)).setCell (p := ⟨b, 3, none⟩) hB _
end Go.Proofs.YtokghjnkfabgiaaGreatDoor
