import Derived.Test.YtokghjnkfabgiaaGreatDoorTA7
import Derived.Lib.Replace
import Derived.Lib.Space
import Derived.Test.YtokghjnkfabgiaaGreatDoorTA15
import Derived.Test.YtokghjnkfabgiaaGreatDoorTA13
namespace Go.Proofs.YtokghjnkfabgiaaGreatDoor
set_option maxRecDepth 100000
open Go.Lib
set_option linter.unusedVariables false
set_option linter.unusedSimpArgs false

/-! lex.Spell: plain. -/
theorem index_miss : ∀ {d : Str} {c : UInt8}, ¬ c ∈ d → index d [c] = -1
  | [], c, _ => rfl
  | b :: d, c, h => by
    have hb : ¬ c = b := fun e => h (e ▸ List.mem_cons_self)
    have hd := index_miss (d := d) (c := c) fun e => h (List.mem_cons_of_mem _ e)
    rw [index, if_neg (by simp [List.isPrefixOf]; exact hb), hd]
    rfl
theorem digits_no {d : Str} (h : ∀ b ∈ d, isDigit b = true) {c : UInt8} (hc : isDigit c = false) : ¬ c ∈ d := fun e => by
  have := h c e
  rw [hc] at this; cases this
theorem replace_num (n : Int) : replace (itoa n) [45] [95] 1 = numStr n := by
  unfold replace
  rw [if_neg (by decide)]
  unfold itoa numStr
  by_cases hn : n < 0
  · rw [if_pos hn, if_pos hn]
    have hd := digits_no (dec_digits n.natAbs).2.1 (c := 45) (by decide)
    have h0 : index (45 :: decDigits n.natAbs) [45] = ((0 : Nat) : Int) := by rw [index, if_pos (by simp [List.isPrefixOf])]; rfl
    have hc := count_hit (by simp) h0
    have hr : replaceNum (45 :: decDigits n.natAbs) [45] 1 = 1 := by
      unfold replaceNum
      have h1 : count (45 :: decDigits n.natAbs) [45] = 1 := by
        rw [hc]
        show 1 + count (decDigits n.natAbs) [45] = 1
        rw [count_miss (index_miss hd)]
      rw [h1]; rfl
    rw [hr, replaceK_hit _ _ _ _ 0 h0]
    rfl
  · rw [if_neg hn, if_neg hn]
    have hd := digits_no (dec_digits n.toNat).2.1 (c := 45) (by decide)
    have hr : replaceNum (decDigits n.toNat) [45] 1 = 0 := by
      unfold replaceNum
      rw [count_miss (index_miss hd)]; rfl
    rw [hr]; rfl
theorem trim_same {s : Str} (h : ∀ b ∈ s, isSp b = false) : trimSpace s = s := by
  have hd : ∀ l : Str, (∀ b ∈ l, isSp b = false) → l.dropWhile isSp = l := by
    intro l hl
    cases l with
    | nil => rfl
    | cons b l => rw [List.dropWhile, hl b List.mem_cons_self]
  unfold trimSpace
  rw [hd s h, hd s.reverse (fun b hb => h b (List.mem_reverse.1 hb)), List.reverse_reverse]
theorem nameB_facts : ∀ b : UInt8, (isNameB b = true ∨ isDigit b = true ∨ isSignB b = true ∨ b = 95) → isSp b = false ∧ b ≠ 35 ∧ b.toNat < 128 := by
  have h : ∀ n : Nat, n < 256 → (isNameB (UInt8.ofNat n) = true ∨ isDigit (UInt8.ofNat n) = true ∨ isSignB (UInt8.ofNat n) = true ∨ UInt8.ofNat n = 95) → isSp (UInt8.ofNat n) = false ∧ UInt8.ofNat n ≠ 35 ∧ (UInt8.ofNat n).toNat < 128 := by decide +kernel
  intro b hb
  have := h b.toNat (UInt8.toNat_lt b)
  rw [UInt8.ofNat_toNat] at this
  exact this hb
theorem decDigits_len (u : Nat) : ∀ k, u < 10 ^ (k + 1) → (decDigits u).length ≤ k + 1 := by
  induction u using Nat.strongRecOn with
  | _ u ih =>
    intro k hk
    by_cases h : u < 10
    · rw [decDigits, dif_pos h]; simp
    · rw [decDigits, dif_neg h]
      cases k with
      | zero => simp at hk; omega
      | succ k =>
        have := ih (u / 10) (by omega) k (by rw [Nat.pow_succ] at hk; omega)
        simp
        omega
/-- a right token's text -/
theorem spell_facts {t : Tk} (h : RightT t) : (spellT t).length ≤ 24 ∧ (∀ b ∈ spellT t, b ≠ 35 ∧ b.toNat < 128) ∧ (t.kind ≠ 4 → ∀ b ∈ spellT t, isSp b = false) ∧ lexP (spellT t) = some [(t, 0)] := by
  have hl : (spellT t).length ≤ 24 ∧ (∀ b ∈ spellT t, b ≠ 35 ∧ b.toNat < 128) ∧ (t.kind ≠ 4 → ∀ b ∈ spellT t, isSp b = false) := by
    obtain ⟨kind, word, n⟩ := t
    rcases h with ⟨hk, hn, b, q, hw, hb, hall, hlen⟩ | ⟨hk, hw, hin⟩ | ⟨hk, hn, hw⟩ | h
    · dsimp only at hk hall hlen
      subst hk
      have e : spellT ⟨1, word, n⟩ = word := rfl
      rw [e]
      exact ⟨by omega, fun c hc => (nameB_facts c (.inl (hall c hc))).2, fun _ c hc => (nameB_facts c (.inl (hall c hc))).1⟩
    · dsimp only at hk hin
      subst hk
      have e : spellT ⟨2, word, n⟩ = numStr n := rfl
      rw [e]
      unfold in64B at hin
      simp only [Bool.and_eq_true, decide_eq_true_eq] at hin
      have hall : ∀ c ∈ numStr n, isDigit c = true ∨ c = 95 := by
        intro c hc
        unfold numStr at hc
        split at hc
        · rcases List.mem_cons.1 hc with h | h
          · exact .inr h
          · exact .inl ((dec_digits _).2.1 c h)
        · exact .inl ((dec_digits _).2.1 c hc)
      have hf : ∀ c ∈ numStr n, isSp c = false ∧ c ≠ 35 ∧ c.toNat < 128 := fun c hc => nameB_facts c (by rcases hall c hc with h | h <;> simp [h])
      refine ⟨?_, fun c hc => (hf c hc).2, fun _ c hc => (hf c hc).1⟩
      unfold numStr
      split
      · have := decDigits_len n.natAbs 18 (by omega)
        simp; omega
      · have := decDigits_len n.toNat 18 (by omega)
        omega
    · dsimp only at hk hw
      subst hk
      have e : spellT ⟨3, word, n⟩ = word := rfl
      rw [e]
      have hall : ∀ c ∈ word, isSignB c = true := by
        rcases hw with ⟨b, hw, hb⟩ | hw | hw
        · rw [hw]; intro c hc; cases List.mem_singleton.1 hc; exact hb
        · rw [hw]; decide
        · rw [hw]; decide
      have hwl : word.length ≤ 2 := by
        rcases hw with ⟨b, hw, hb⟩ | hw | hw <;> rw [hw] <;> simp
      exact ⟨by omega, fun c hc => (nameB_facts c (.inr (.inr (.inl (hall c hc))))).2, fun _ c hc => (nameB_facts c (.inr (.inr (.inl (hall c hc))))).1⟩
    · rw [h]
      refine ⟨by decide, ?_, fun e => absurd rfl e⟩
      show ∀ b ∈ ([10] : Str), b ≠ 35 ∧ b.toNat < 128
      decide
  refine ⟨hl.1, hl.2.1, hl.2.2, ?_⟩
  unfold lexP
  rw [if_neg (by omega)]
  have := lex_one h (stop_nil t) 0
  rw [List.append_nil, lexF_nil] at this
  exact this
theorem no_hash {s : Str} (h : ∀ b ∈ s, b ≠ 35) : ¬ (35 : UInt8) ∈ s := fun e => h 35 e rfl
end Go.Proofs.YtokghjnkfabgiaaGreatDoor

namespace Go.Proofs.YtokghjnkfabgiaaGreatDoor
set_option maxRecDepth 100000
open Go.RowKit Go.Lib
set_option linter.unusedVariables false
set_option linter.unusedSimpArgs false
attribute [local go_sem] str_size str_get
attribute [local go_sem high] run_str_from run_str_to run_str_add

/-! lex.Spell. -/
theorem below_grow (w : World) (q : Nat) (os : Array Obj) : Below w.heap.size w (Sort.grow (w.drewN q) os) :=
  ⟨rfl, rfl, rfl, by show w.heap.size ≤ (w.heap ++ os).size; simp, fun k hk => by show (w.heap ++ os)[k]? = w.heap[k]?; rw [Array.getElem?_append_left hk]⟩
theorem format_c (n : Int) (hn : in64B n = true) (w : World) (ht : TabT w) : Calls Tryz.prog 27 #[.int .i64 n, .int .i64 10] w fun e w' => e = .returned (.string (str (itoa n))) ∧ Below w.heap.size w w' := by
  unfold in64B at hn
  simp only [Bool.and_eq_true, decide_eq_true_eq] at hn
  refine (Tryz.strconv_FormatInt_10 n hn.1 hn.2 w ht.pow).mono ?_
  rintro e w' ⟨rfl, k, os, rfl⟩
  exact ⟨rfl, below_grow _ _ _⟩
theorem count_few (s : Str) : countB (str s) (str [45]) ≤ s.length + 1 := by
  unfold countB
  exact count_le _ _
theorem replace_c (n : Int) (hl : (itoa n).length ≤ 65536) (w : World) (ht : TabT w) : Calls Tryz.prog 26 #[.string (str (itoa n)), .string (str [45]), .string (str [95]), .int .i64 1] w fun e w' => e = .returned (.string (str (numStr n))) ∧ Below w.heap.size w w' := by
  obtain ⟨m, hm⟩ := ht.maxlen
  have h1 : (str (itoa n)).size = (itoa n).length := str_size _
  have h2 : (str [95]).size = 1 := rfl
  have h3 := count_few (itoa n)
  refine (Tryz.strings_Replace (str (itoa n)) (str [45]) (str [95]) 1 m w (by omega) hm (by decide) (by rw [h1, h2]; omega)).mono ?_
  rintro e w' ⟨rfl, hb⟩
  refine ⟨?_, hb⟩
  rw [show (str (itoa n)).data.toList = itoa n from rfl, show (str [45]).data.toList = [45] from rfl, show (str [95]).data.toList = [95] from rfl, replace_num]
  rfl
theorem trim_c (s : Str) (hs : ∀ b ∈ s, b.toNat < 128) (hl : s.length ≤ 9223372036854775807) (w : World) (ht : TabT w) : Calls Tryz.prog 28 #[.string (str s)] w fun e w' => e = .returned (.string (str (trimSpace s))) ∧ Below w.heap.size w w' := by
  refine (Tryz.strings_TrimSpace (str s) w (by rw [str_size]; exact hl) (fun j b hj => hs b (List.mem_of_getElem? hj)) ht.space).mono ?_
  rintro e w' ⟨rfl, rfl⟩
  exact ⟨rfl, bytesWorld_below _ _ _⟩
theorem hash_c (s : Str) (hs : ¬ (35 : UInt8) ∈ s) (w : World) : Calls Tryz.prog 29 #[.string (str s), .string (str [35])] w fun e w' => e = .returned (.bool false) ∧ w' = w := by
  have h := Tryz.strings_Contains_one (str s) 35 w
  have e : decide (0 ≤ indexByte (str s).data.toList 35) = false := decide_eq_false (fun h => hs ((index_pos s 35).1 h))
  rw [e] at h
  exact h
theorem results_t2 {fn : Func} {p q : Tmp} (h : fn.results = #[.tmp p, .tmp q]) (tmps : Array Value) (w : World) {x y : Value}
    (hp : tmps.getD p undef = x) (hq : tmps.getD q undef = y) : (results fn tmps).run Tryz.prog w = .ok (.tuple #[x, y]) w := by
  have hp' : tmps[p]?.getD undef = x := by simpa using hp
  have hq' : tmps[q]?.getD undef = y := by simpa using hq
  simp [results, h, hp', hq']
theorem row_one {M : Nat} {w : World} {v : Value} {p : Tk × Nat} (h : RowG tokR M 39 w v [p]) : ∃ g c, v = .slice (some ⟨g, 0, none⟩) 1 c ∧ M ≤ g ∧ g < w.heap.size ∧
    w.cell? ⟨g, 0, none⟩ = some (.int .i64 p.1.kind) ∧ w.cell? ⟨g, 1, none⟩ = some (.int .i64 (p.2 : Int)) ∧ w.cell? ⟨g, 2, none⟩ = some (.string (str p.1.word)) ∧ w.cell? ⟨g, 3, none⟩ = some (.int .i64 p.1.n) := by
  obtain ⟨cs, h1, ds, r, e, ⟨hd, _⟩, hr⟩ := h
  cases hr
  subst hd
  rw [List.append_nil] at e
  subst e
  obtain ⟨_, ⟨hv, h0⟩ | ⟨g, cap, cur, hv, hg, hh, _⟩⟩ := id h1
  · cases h0
  · subst hv
    have hc := World.ownsRow.cells (g := g) (w := w) h1 rfl
    have e : ∀ k, (⟨g, 0, none⟩ : Addr).add k = ⟨g, k, none⟩ := fun k => by unfold Addr.add; split <;> simp_all
    have hk := fun k z hz => by have := hc k z hz; rw [e] at this; exact this
    exact ⟨g, cap, rfl, hg, (Array.getElem?_eq_some_iff.1 hh).1, hk 0 _ rfl, hk 1 _ rfl, hk 2 _ rfl, hk 3 _ rfl⟩
set_option maxHeartbeats 4000000 in
theorem spell_any (w : World) (ht : TabT w) (t : Tk) (a : Int) (h : RightT t) : Calls Tryz.prog 9 #[tkV t a] w fun e w' => e = .returned (.tuple #[.string (str (spellT t)), .bool true]) ∧ Below w.heap.size w w' := by
  obtain ⟨hl, h35, hsp, hx⟩ := spell_facts h
  unfold tkV
  by_cases h2 : t.kind = 2
  · obtain ⟨kk, ww, nn⟩ := t
    have htn : kk = 2 ∧ ww = [] ∧ in64B nn = true := by
      dsimp only at h2
      subst h2
      rcases h with ⟨hk, _⟩ | ⟨_, h3, h4⟩ | ⟨hk, _⟩ | h
      · exact absurd (show (2 : Int) = 1 from hk) (by decide)
      · exact ⟨rfl, h3, h4⟩
      · exact absurd (show (2 : Int) = 3 from hk) (by decide)
      · exact absurd (congrArg Tk.kind h) (show ¬ (2 : Int) = 4 by decide)
    obtain ⟨rfl, rfl, hin⟩ := htn
    have hst : spellT ⟨2, [], nn⟩ = numStr nn := rfl
    rw [hst] at hl h35 hsp hx ⊢
    have hlx := fun (W : World) (hb : Below w.heap.size w W) => lex_any W (ht.below hb) (numStr nn) (by omega)
    rw [hx] at hlx
    have HLX := Lib.hid hlx
    clear hlx
    have hlen : (itoa nn).length ≤ 65536 := by
      have e : (itoa nn).length = (numStr nn).length := by unfold itoa numStr; split <;> rfl
      omega
    have hfo := fun (W : World) (hb : Below w.heap.size w W) => format_c nn hin W (ht.below hb)
    have hre := fun (W : World) (hb : Below w.heap.size w W) => replace_c nn hlen W (ht.below hb)
    have HFO := Lib.hid hfo; have HRE := Lib.hid hre; have HT := Lib.hid ht
    clear hfo hre hin
    dsimp only
    go_enter Tryz.func9, Tryz.ntmps9
    go_wp2_with fail
    refine (HFO.out _ ((Below.refl _ _).alloc (Nat.le_refl _) _)).mono ?_
    rintro e wa ⟨rfl, hba⟩
    have HBA := Lib.hid hba; clear hba
    dsimp only
    go_wp2_with fail
    refine (HRE.out _ (bNext HBA.out ((Below.refl _ _).alloc (Nat.le_refl _) _))).mono ?_
    rintro e wb ⟨rfl, hbb⟩
    have HBB := Lib.hid (bNext hbb HBA.out); clear hbb
    dsimp only
    go_wp2_with fail
    refine (HLX.out _ (bNext HBB.out ((Below.refl _ _).alloc (Nat.le_refl _) _))).mono ?_
    rintro e w1 ⟨⟨v, rfl, hrow⟩, hb1⟩
    have hb1 := bNext hb1 HBB.out
    have hx := new1 hb1
    have c0 := cell_of_row w1 w.heap.size 0 _ _ _ hx
    have c1 := cell_of_row w1 w.heap.size 1 _ _ _ hx
    have c2 := cell_of_row w1 w.heap.size 2 _ _ _ hx
    have c3 := cell_of_row w1 w.heap.size 3 _ _ _ hx
    have f1 := frozen_of_row w1 w.heap.size 1 _ _ hx
    have hlt : w.heap.size < w1.heap.size := (Array.getElem?_eq_some_iff.1 hx).1
    obtain ⟨g, sc, hv, hg, hgl, e0, e1, e2, e3⟩ := row_one hrow
    subst hv
    have hsB := HBB.out.size
    have hgG : g ≠ w.heap.size := by have : (w.alloc (.cells #[.int .i64 2, .int .i64 a, .string (str []), .int .i64 nn] 39)).heap.size = w.heap.size + 1 := by simp
                                     omega
    have HB1 := Lib.hid (bNext hb1 ((Below.refl _ _).alloc (Nat.le_refl _) _)); have HX := Lib.hid hx
    have H35 := Lib.hid h35; have HSP := Lib.hid hsp
    clear hb1 hrow HLX hx h35 hsp h ht h2 hst hg HBA HBB HFO HRE hlen
    dsimp only at e0 e1 e2 e3
    have E0 := Lib.hid e0; have E1 := Lib.hid e1; have E2 := Lib.hid e2; have E3 := Lib.hid e3; have C0 := Lib.hid c0; have C2 := Lib.hid c2; have C3 := Lib.hid c3
    clear e0 e1 e2 e3
    dsimp only
    go_wp2_with fail
    have hc : ∀ j, j ≠ 1 → ((w1.setCell ⟨w.heap.size, 1, none⟩ (.int .i64 0)).alloc (.cells #[.int .i64 0, .int .i64 0] 28)).cell? ⟨w.heap.size, j, none⟩ = w1.cell? ⟨w.heap.size, j, none⟩ := fun j hj => by
      rw [World.cell?_alloc_past _ _ _ (by simp; exact hlt)]
      simp [go_sem, Ne.symm hj]
    have hr : ∀ j, ((w1.setCell ⟨w.heap.size, 1, none⟩ (.int .i64 0)).alloc (.cells #[.int .i64 0, .int .i64 0] 28)).cell? ⟨g, j, none⟩ = w1.cell? ⟨g, j, none⟩ := fun j => by
      rw [World.cell?_alloc_past _ _ _ (by simp; exact hgl), World.cell?_setCell_far _ _ _ _ (Ne.symm hgG)]
    have h1 : ((w1.setCell ⟨w.heap.size, 1, none⟩ (.int .i64 0)).alloc (.cells #[.int .i64 0, .int .i64 0] 28)).cell? ⟨w.heap.size, 1, none⟩ = some (.int .i64 0) := by
      rw [World.cell?_alloc_past _ _ _ (by simp; exact hlt)]
      simp [go_sem, c1]
    have hbc : Below w.heap.size w ((w1.setCell ⟨w.heap.size, 1, none⟩ (.int .i64 0)).alloc (.cells #[.int .i64 0, .int .i64 0] 28)) := (HB1.out.setCell (Nat.le_refl _) _).alloc (by simp; omega) _
    clear c0 c1 c2 c3 f1
    generalize ((w1.setCell ⟨w.heap.size, 1, none⟩ (.int .i64 0)).alloc (.cells #[.int .i64 0, .int .i64 0] 28)) = Wc at hc hr h1 hbc ⊢
    have x0 := (hr 0).trans E0.out
    have x1 := (hr 1).trans E1.out
    have x2 := (hr 2).trans E2.out
    have x3 := (hr 3).trans E3.out
    have y0 := (hc 0 (by decide)).trans C0.out
    have y2 := (hc 2 (by decide)).trans C2.out
    have y3 := (hc 3 (by decide)).trans C3.out
    have htr := fun p : BelowW Wc => trim_c (numStr nn) (fun b hb => (H35.out b hb).2) (by omega) p.world (HT.out.below (bNext p.below hbc))
    have hha := fun p : BelowW Wc => (hash_c (numStr nn) (no_hash fun b hb => (H35.out b hb).1) p.world).mono (R' := fun e w' => e = .returned (.bool false) ∧ Below p.world.heap.size p.world w') fun e w' ⟨he, hw⟩ => ⟨he, hw ▸ Below.refl _ _⟩
    have hts : trimSpace (numStr nn) = numStr nn := trim_same (HSP.out (show ¬ (2 : Int) = 4 by decide))
    simp only [hts] at htr
    have HTR := Lib.hid htr; have HHA := Lib.hid hha; have HBC := Lib.hid hbc
    clear htr hha hts hc hr hbc HB1 HX E0 E1 E2 E3 C0 C2 C3
    have z0 := cellBW x0
    have z1 := cellBW x1
    have z2 := cellBW x2
    have z3 := cellBW x3
    have u0 := cellBW y0
    have u1 := cellBW h1
    have u2 := cellBW y2
    have u3 := cellBW y3
    refine wp_region_below (by kernel_rfl) (by kernel_rfl) ?_
    repeat (go_big_quiet_step (first | (go_at_call 28; refine callsBW (HTR.out _)) | (go_at_call 29; refine callsBW (HHA.out _))))
    refine wpQuiet_nil ?_
    rintro _ ⟨⟨wq, hwq⟩, rfl⟩
    have HQ := Lib.hid (bNext hwq HBC.out)
    clear hwq z0 z1 z2 z3 u0 u1 u2 u3 HTR HHA
    go_wp2_with fail
    refine bodyPost_ret (results_t2 rfl _ _ rfl rfl) rfl ⟨rfl, HQ.out⟩
  by_cases h4 : t.kind = 4
  · have htl : t = lineT := by
      rcases h with ⟨hk, _⟩ | ⟨hk, _⟩ | ⟨hk, _⟩ | h
      · omega
      · omega
      · omega
      · exact h
    subst htl
    have hst : spellT lineT = [10] := rfl
    rw [hst] at hl h35 hsp hx ⊢
    have hlx := fun (W : World) (hb : Below w.heap.size w W) => lex_any W (ht.below hb) [10] (by decide)
    rw [hx] at hlx
    have HLX := Lib.hid hlx
    clear hlx
    have hlt0 : lineT = ⟨4, [], 0⟩ := rfl
    rw [hlt0] at HLX ⊢
    dsimp only
    go_enter Tryz.func9, Tryz.ntmps9
    go_wp2_with fail
    refine (HLX.out _ ((Below.refl _ _).alloc (Nat.le_refl _) _)).mono ?_
    rintro e w1 ⟨⟨v, rfl, hrow⟩, hb1⟩
    have hx := new1 hb1
    have c0 := cell_of_row w1 w.heap.size 0 _ _ _ hx
    have c1 := cell_of_row w1 w.heap.size 1 _ _ _ hx
    have c2 := cell_of_row w1 w.heap.size 2 _ _ _ hx
    have c3 := cell_of_row w1 w.heap.size 3 _ _ _ hx
    have f1 := frozen_of_row w1 w.heap.size 1 _ _ hx
    have hlt : w.heap.size < w1.heap.size := (Array.getElem?_eq_some_iff.1 hx).1
    obtain ⟨g, sc, hv, hg, hgl, e0, e1, e2, e3⟩ := row_one hrow
    subst hv
    have hgG : g ≠ w.heap.size := by have : (w.alloc (.cells #[.int .i64 4, .int .i64 a, .string (str []), .int .i64 0] 39)).heap.size = w.heap.size + 1 := by simp
                                     omega
    have HB1 := Lib.hid (bNext hb1 ((Below.refl _ _).alloc (Nat.le_refl _) _)); have HX := Lib.hid hx
    have H35 := Lib.hid h35; have HSP := Lib.hid hsp; have HT := Lib.hid ht
    clear hb1 hrow HLX hx h35 hsp h ht h2 h4 hst hg hlt0
    dsimp only at e0 e1 e2 e3
    have E0 := Lib.hid e0; have E1 := Lib.hid e1; have E2 := Lib.hid e2; have E3 := Lib.hid e3; have C0 := Lib.hid c0; have C2 := Lib.hid c2; have C3 := Lib.hid c3
    clear e0 e1 e2 e3
    dsimp only
    go_wp2_with fail
    have hc : ∀ j, j ≠ 1 → ((w1.setCell ⟨w.heap.size, 1, none⟩ (.int .i64 0)).alloc (.cells #[.int .i64 0, .int .i64 0] 28)).cell? ⟨w.heap.size, j, none⟩ = w1.cell? ⟨w.heap.size, j, none⟩ := fun j hj => by
      rw [World.cell?_alloc_past _ _ _ (by simp; exact hlt)]
      simp [go_sem, Ne.symm hj]
    have hr : ∀ j, ((w1.setCell ⟨w.heap.size, 1, none⟩ (.int .i64 0)).alloc (.cells #[.int .i64 0, .int .i64 0] 28)).cell? ⟨g, j, none⟩ = w1.cell? ⟨g, j, none⟩ := fun j => by
      rw [World.cell?_alloc_past _ _ _ (by simp; exact hgl), World.cell?_setCell_far _ _ _ _ (Ne.symm hgG)]
    have h1 : ((w1.setCell ⟨w.heap.size, 1, none⟩ (.int .i64 0)).alloc (.cells #[.int .i64 0, .int .i64 0] 28)).cell? ⟨w.heap.size, 1, none⟩ = some (.int .i64 0) := by
      rw [World.cell?_alloc_past _ _ _ (by simp; exact hlt)]
      simp [go_sem, c1]
    have hbc : Below w.heap.size w ((w1.setCell ⟨w.heap.size, 1, none⟩ (.int .i64 0)).alloc (.cells #[.int .i64 0, .int .i64 0] 28)) := (HB1.out.setCell (Nat.le_refl _) _).alloc (by simp; omega) _
    clear c0 c1 c2 c3 f1
    generalize ((w1.setCell ⟨w.heap.size, 1, none⟩ (.int .i64 0)).alloc (.cells #[.int .i64 0, .int .i64 0] 28)) = Wc at hc hr h1 hbc ⊢
    have x0 := (hr 0).trans E0.out
    have x1 := (hr 1).trans E1.out
    have x2 := (hr 2).trans E2.out
    have x3 := (hr 3).trans E3.out
    have y0 := (hc 0 (by decide)).trans C0.out
    have y2 := (hc 2 (by decide)).trans C2.out
    have y3 := (hc 3 (by decide)).trans C3.out
    have htr := fun p : BelowW Wc => trim_c [10] (fun b hb => (H35.out b hb).2) (by decide) p.world (HT.out.below (bNext p.below hbc))
    have hha := fun p : BelowW Wc => (hash_c [10] (no_hash fun b hb => (H35.out b hb).1) p.world).mono (R' := fun e w' => e = .returned (.bool false) ∧ Below p.world.heap.size p.world w') fun e w' ⟨he, hw⟩ => ⟨he, hw ▸ Below.refl _ _⟩
    have hts : str (trimSpace [10]) = ByteArray.mk #[] := by rw [show trimSpace [10] = [] by decide]; rfl
    simp only [hts] at htr
    have HTR := Lib.hid htr; have HHA := Lib.hid hha; have HBC := Lib.hid hbc
    clear htr hha hts hc hr hbc HB1 HX E0 E1 E2 E3 C0 C2 C3
    have z0 := cellBW x0
    have z1 := cellBW x1
    have z2 := cellBW x2
    have z3 := cellBW x3
    have u0 := cellBW y0
    have u1 := cellBW h1
    have u2 := cellBW y2
    have u3 := cellBW y3
    refine wp_region_below (by kernel_rfl) (by kernel_rfl) ?_
    repeat (go_big_quiet_step (first | (go_at_call 28; refine callsBW (HTR.out _)) | (go_at_call 29; refine callsBW (HHA.out _))))
    refine wpQuiet_nil ?_
    rintro _ ⟨⟨wq, hwq⟩, rfl⟩
    have HQ := Lib.hid (bNext hwq HBC.out)
    clear hwq z0 z1 z2 z3 u0 u1 u2 u3 HTR HHA
    go_wp2_with fail
    refine bodyPost_ret (results_t2 rfl _ _ rfl rfl) rfl ⟨rfl, HQ.out⟩
  have q2 : (t.kind == 2) = false := by rw [beq_eq_false_iff_ne]; exact h2
  have q4 : (t.kind == 4) = false := by rw [beq_eq_false_iff_ne]; exact h4
  have hst : spellT t = t.word := by unfold spellT; rw [if_neg h2, if_neg h4]
  rw [hst] at hl h35 hsp hx ⊢
  have hlx := fun (W : World) (hb : Below w.heap.size w W) => lex_any W (ht.below hb) t.word (by omega)
  rw [hx] at hlx
  have HLX := Lib.hid hlx
  clear hlx
  obtain ⟨kk, ww, nn⟩ := t
  dsimp only at *
  go_enter Tryz.func9, Tryz.ntmps9
  go_wp2_with fail
  refine (HLX.out _ ((Below.refl _ _).alloc (Nat.le_refl _) _)).mono ?_
  rintro e w1 ⟨⟨v, rfl, hrow⟩, hb1⟩
  have hx := new1 hb1
  have c0 := cell_of_row w1 w.heap.size 0 _ _ _ hx
  have c1 := cell_of_row w1 w.heap.size 1 _ _ _ hx
  have c2 := cell_of_row w1 w.heap.size 2 _ _ _ hx
  have c3 := cell_of_row w1 w.heap.size 3 _ _ _ hx
  have f1 := frozen_of_row w1 w.heap.size 1 _ _ hx
  have hlt : w.heap.size < w1.heap.size := (Array.getElem?_eq_some_iff.1 hx).1
  obtain ⟨g, sc, hv, hg, hgl, e0, e1, e2, e3⟩ := row_one hrow
  subst hv
  have hgG : g ≠ w.heap.size := by have : (w.alloc (.cells #[.int .i64 kk, .int .i64 a, .string (str ww), .int .i64 nn] 39)).heap.size = w.heap.size + 1 := by simp
                                   omega
  have HB1 := Lib.hid (bNext hb1 ((Below.refl _ _).alloc (Nat.le_refl _) _)); have HX := Lib.hid hx
  have H35 := Lib.hid h35; have HSP := Lib.hid hsp; have HT := Lib.hid ht
  clear hb1 hrow HLX hx h35 hsp h ht h2 h4 hst hg
  dsimp only at e0 e1 e2 e3
  have E0 := Lib.hid e0; have E1 := Lib.hid e1; have E2 := Lib.hid e2; have E3 := Lib.hid e3; have C0 := Lib.hid c0; have C2 := Lib.hid c2; have C3 := Lib.hid c3
  clear e0 e1 e2 e3
  dsimp only
  go_wp2_with fail
  have hc : ∀ j, j ≠ 1 → ((w1.setCell ⟨w.heap.size, 1, none⟩ (.int .i64 0)).alloc (.cells #[.int .i64 0, .int .i64 0] 28)).cell? ⟨w.heap.size, j, none⟩ = w1.cell? ⟨w.heap.size, j, none⟩ := fun j hj => by
    rw [World.cell?_alloc_past _ _ _ (by simp; exact hlt)]
    simp [go_sem, Ne.symm hj]
  have hr : ∀ j, ((w1.setCell ⟨w.heap.size, 1, none⟩ (.int .i64 0)).alloc (.cells #[.int .i64 0, .int .i64 0] 28)).cell? ⟨g, j, none⟩ = w1.cell? ⟨g, j, none⟩ := fun j => by
    rw [World.cell?_alloc_past _ _ _ (by simp; exact hgl), World.cell?_setCell_far _ _ _ _ (Ne.symm hgG)]
  have h1 : ((w1.setCell ⟨w.heap.size, 1, none⟩ (.int .i64 0)).alloc (.cells #[.int .i64 0, .int .i64 0] 28)).cell? ⟨w.heap.size, 1, none⟩ = some (.int .i64 0) := by
    rw [World.cell?_alloc_past _ _ _ (by simp; exact hlt)]
    simp [go_sem, c1]
  have hbc : Below w.heap.size w ((w1.setCell ⟨w.heap.size, 1, none⟩ (.int .i64 0)).alloc (.cells #[.int .i64 0, .int .i64 0] 28)) := (HB1.out.setCell (Nat.le_refl _) _).alloc (by simp; omega) _
  clear c0 c1 c2 c3 f1
  generalize ((w1.setCell ⟨w.heap.size, 1, none⟩ (.int .i64 0)).alloc (.cells #[.int .i64 0, .int .i64 0] 28)) = Wc at hc hr h1 hbc ⊢
  have x0 := (hr 0).trans E0.out
  have x1 := (hr 1).trans E1.out
  have x2 := (hr 2).trans E2.out
  have x3 := (hr 3).trans E3.out
  have y0 := (hc 0 (by decide)).trans C0.out
  have y2 := (hc 2 (by decide)).trans C2.out
  have y3 := (hc 3 (by decide)).trans C3.out
  have hk : (kk == 4) = false := q4
  have htr := fun p : BelowW Wc => trim_c ww (fun b hb => (H35.out b hb).2) (by omega) p.world (HT.out.below (bNext p.below hbc))
  have hha := fun p : BelowW Wc => (hash_c ww (no_hash fun b hb => (H35.out b hb).1) p.world).mono (R' := fun e w' => e = .returned (.bool false) ∧ Below p.world.heap.size p.world w') fun e w' ⟨he, hw⟩ => ⟨he, hw ▸ Below.refl _ _⟩
  have hts : trimSpace ww = ww := trim_same (HSP.out (beq_eq_false_iff_ne.1 q4))
  simp only [hts] at htr
  have HTR := Lib.hid htr; have HHA := Lib.hid hha; have HBC := Lib.hid hbc
  clear htr hha hts hc hr hbc HB1 HX E0 E1 E2 E3 C0 C2 C3
  have z0 := cellBW x0
  have z1 := cellBW x1
  have z2 := cellBW x2
  have z3 := cellBW x3
  have u0 := cellBW y0
  have u1 := cellBW h1
  have u2 := cellBW y2
  have u3 := cellBW y3
  refine wp_region_below (by kernel_rfl) (by kernel_rfl) ?_
  repeat (go_big_quiet_step (first | (go_at_call 28; refine callsBW (HTR.out _)) | (go_at_call 29; refine callsBW (HHA.out _))))
  refine wpQuiet_nil ?_
  rintro _ ⟨⟨wq, hwq⟩, rfl⟩
  have HQ := Lib.hid (bNext hwq HBC.out)
  clear hwq z0 z1 z2 z3 u0 u1 u2 u3 HTR HHA
  go_wp2_with fail
  refine bodyPost_ret (results_t2 rfl _ _ rfl rfl) rfl ⟨rfl, HQ.out⟩
end Go.Proofs.YtokghjnkfabgiaaGreatDoor
