import Derived.Test.YtokghjnkfabgiaaGreatDoorTC42
import Derived.Test.YtokghjnkfabgiaaGreatDoorTC34
set_option linter.unusedVariables false
set_option linter.unusedSimpArgs false
set_option maxRecDepth 100000
namespace Go.Proofs.YtokghjnkfabgiaaGreatDoor
open Go.RowKit Go.Lib
attribute [local go_sem] str_size str_get str_toList
attribute [local go_sem high] run_str_add

theorem wrap_items {p : Nat} {e : Ex} (h : ∀ it ∈ e.post, ItmN it) : ∀ it ∈ (wrapE p e).post, ItmN it := by
 intro it hit
 unfold wrapE at hit
 by_cases h6 : p % 9 < 6
 ·rw [if_pos h6] at hit
  rcases List.mem_append.1 hit with hit | hit
  ·rcases List.mem_append.1 hit with hit | hit
   ·cases List.mem_singleton.1 hit; exact .inl rfl
   ·exact h it hit
  ·cases List.mem_singleton.1 hit; exact .inr (.inr (.inr (.inl ⟨rfl, (wrap_two h6).2.2.1⟩)))
 ·rw [if_neg h6] at hit
  rcases List.mem_append.1 hit with hit | hit
  ·exact h it hit
  ·cases List.mem_singleton.1 hit; exact .inr (.inr (.inl ⟨rfl, (wrap_one h6).2.2.1⟩))
theorem nam_items (x : Str) : ∀ it ∈ (Ex.nam x).post, ItmN it := fun it hit => by cases List.mem_singleton.1 hit; exact .inr (.inl rfl)
theorem exprE_items : ∀ (l : List Nat) (e : Ex), (∀ it ∈ e.post, ItmN it) → ∀ it ∈ (exprE e l).post, ItmN it
 | [], e, h => h
 | p :: l, e, h => exprE_items l (wrapE p e) (wrap_items h)
theorem expr_items (s : List Int) (q : List Nat) : ∀ l ∈ (exprT s q).post.lines, ∀ it ∈ l.items, ItmN it := by
 intro l hl it hit
 have hl : l ∈ [(⟨[], (exprE (.nam nmX) q).post⟩ : LinP)] := hl
 cases List.mem_singleton.1 hl
 exact exprE_items q _ (nam_items nmX) it hit
theorem namL_items : ∀ (q : List Nat) (i : Nat) (last : Str), ∀ x ∈ namL i last q, ∀ it ∈ x.2.post, ItmN it
 | [], i, last, x, h => by cases h
 | p :: q, i, last, x, h => by
  rcases List.mem_cons.1 h with e | e
  ·rw [e]; exact wrap_items (nam_items last)
  ·exact namL_items q _ _ x e
theorem named_items (s : List Int) (q : List Nat) : ∀ l ∈ (namedT s q).post.lines, ∀ it ∈ l.items, ItmN it := by
 intro l hl it hit
 have hl : l ∈ (namL 0 nmX q).map (fun x => (⟨x.1, x.2.post⟩ : LinP)) ++ [⟨[], (Ex.nam (lastN 0 nmX q)).post⟩] := hl
 rcases List.mem_append.1 hl with hl | hl
 ·obtain ⟨x, hx, rfl⟩ := List.mem_map.1 hl
  exact namL_items q 0 nmX x hx it hit
 ·cases List.mem_singleton.1 hl
  exact nam_items _ it hit
structure XbJ (w : World) (y2 : Nat) (v u : Value) (s d : List Int) (pv : Value) (l : List Nat) (W : World) : Prop where
 below : Below w.heap.size w W
 b2 : W.heap[y2]? = some (.cells #[v, u] 44 (0, 0))
 s : SlA W v s
 d : SlA W u d
 tab : TabT W
 pk : PkA W pv l
theorem XbJ.next {w W W' : World} {y2 : Nat} {v u : Value} {s d : List Int} {pv : Value} {l : List Nat} (h : XbJ w y2 v u s d pv l W) (hb : Below W.heap.size W W') : XbJ w y2 v u s d pv l W' :=
 ⟨h.below.trans (hb.mono h.below.size), block_below h.b2 hb, h.s.below hb, h.d.below hb, h.tab.below hb, h.pk.below hb⟩
set_option maxHeartbeats 16000000 in
theorem topnamed_any (w : World) (ht : TabT w) (v u : Value) (s d : List Int) (hs : SlA w v s) (hd : SlA w u d) (pv : Value) (l : List Nat) (hpk : PkA w pv l) :
  Calls Tryz.prog 5 #[.agg #[v, u], pv] w fun e w' => e = .returned (.bool true) ∧ Below w.heap.size w w' := by
 obtain ⟨va, vc, rfl⟩ := hs.form'
 obtain ⟨ua, uc, rfl⟩ := hd.form'
 obtain ⟨pa, pc, rfl⟩ : ∃ a c, pv = .slice a l.length c := by obtain ⟨a, c, e, _⟩ := hpk; exact ⟨a, c, e⟩
 have hb0 : Below w.heap.size w (w.alloc (.cells #[.slice va s.length vc, .slice ua d.length uc] 44)) := (Below.refl _ _).alloc (Nat.le_refl _) _
 have hx0 : XbJ w w.heap.size (.slice va s.length vc) (.slice ua d.length uc) s d (.slice pa l.length pc) l (w.alloc (.cells #[.slice va s.length vc, .slice ua d.length uc] 44)) := ⟨hb0, World.alloc_heap_new _ _, hs.below hb0, hd.below hb0, ht.below hb0, hpk.below hb0⟩
 have HX0 := Lib.hid hx0
 clear hs hd ht hpk hb0 hx0
 go_enter Tryz.func5, Tryz.ntmps5
 go_upto_region 1 with fail
 refine gen_worldA (fun W => XbJ w w.heap.size (.slice va s.length vc) (.slice ua d.length uc) s d (.slice pa l.length pc) l W) HX0.out ?_
 clear HX0
 generalize w.heap.size = y2
 rintro W hx
 have HX := Lib.hid hx
 have hbg := wbegun_any items_named (fun _ h => .inr (.inl h)) (fun _ h => .inr (.inr (.inr (.inr h)))) W hx.tab
 have HBG := Lib.hid hbg
 clear hx hbg
 go_wp2_with (go_at_call 11; fail)
 refine HBG.out.mono ?_
 rintro e w1 ⟨rfl, hb1⟩
 have hx1 := HX.out.next hb1
 have k20 := cell_of_row _ y2 0 _ _ _ hx1.b2
 have k21 := cell_of_row _ y2 1 _ _ _ hx1.b2
 have hfr := wfair_any w1 _ _ s d hx1.s hx1.d
 have HFR := Lib.hid hfr; have HX1 := Lib.hid hx1
 clear hb1 hx1 hfr HX HBG
 dsimp only
 go_upto_region 3 with fail
 cases hr : right s d with
 | false =>
  rw [hr] at HFR
  clear hr
  go_wp2_with (go_at_call 12; refine HFR.out.mono ?_; rintro e w2 ⟨rfl, hb2⟩)
  go_ret
  exact ⟨rfl, HX1.out.below.trans (hb2.mono HX1.out.below.size)⟩
 | true =>
  rw [hr] at HFR
  have HR := Lib.hid hr
  clear hr
  by_cases hdl : 10000 < d.length
  ·have q0 : decide (10000 < (d.length : Int)) = true := decide_eq_true (by omega)
   have q0' : decide (10000 < d.length) = true := decide_eq_true (by omega)
   go_wp2_with (go_at_call 12; refine HFR.out.mono ?_; rintro e w2 ⟨rfl, hb2⟩; have hx2 := HX1.out.next hb2; have j20 := cell_of_row _ y2 0 _ _ _ hx2.b2; have j21 := cell_of_row _ y2 1 _ _ _ hx2.b2; have HX2 := Lib.hid hx2; clear hx2)
   go_ret
   exact ⟨rfl, HX2.out.below⟩
  ·have q0 : decide (10000 < (d.length : Int)) = false := decide_eq_false (by omega)
   have q0' : decide (10000 < d.length) = false := decide_eq_false (by omega)
   have hgd := (right_good HR.out).2
   have hin : ∀ W', XbJ w y2 (.slice va s.length vc) (.slice ua d.length uc) s d (.slice pa l.length pc) l W' → Calls Tryz.prog 14 #[.string ⟨#[120]⟩, .slice va s.length vc] W' fun e w' => e = .returned (.string (str (inputX s))) ∧ Below W'.heap.size W' w' := fun W' h => winput_any W' _ s h.s hgd.len hgd.side
   have HIN := Lib.hid hin; have HGD := Lib.hid hgd
   clear hin hgd
   go_wp2_with (first | (go_at_call 12; refine HFR.out.mono ?_; rintro e w2 ⟨rfl, hb2⟩; have hx2 := HX1.out.next hb2; have j20 := cell_of_row _ y2 0 _ _ _ hx2.b2; have j21 := cell_of_row _ y2 1 _ _ _ hx2.b2; have HX2 := Lib.hid hx2; clear hx2) | (go_at_call 14; fail))
   refine (HIN.out w2 HX2.out).mono ?_
   rintro e w3 ⟨rfl, hb3⟩
   have HX3 := Lib.hid (HX2.out.next hb3)
   clear k20 k21 j20 j21 HFR HX1 HX2 hb2 hb3 q0 q0'
   dsimp only
   go_wp2_with (go_at_call 16; fail)
   refine (HX3.out.pk.few).mono ?_
   rintro e w4 ⟨uv, rfl, hpq, rfl⟩
   obtain ⟨q, hq⟩ : ∃ q, l.take 12 = q := ⟨_, rfl⟩
   have hq12 : q.length ≤ 12 := by rw [← hq, List.length_take]; omega
   rw [hq] at hpq
   obtain ⟨qa, qc, rfl⟩ : ∃ a c, uv = .slice a q.length c := by obtain ⟨a, c, e, _⟩ := hpq; exact ⟨a, c, e⟩
   have HPQ := Lib.hid hpq; have HQ := Lib.hid hq
   clear hpq hq
   dsimp only
   go_upto_region 7 with fail
   go_loopw [5, 6, 31] (fun v5 v6 v wr => ∃ (i : Nat) (S L : Str), v5 = .string (str S) ∧ v6 = .string (str L) ∧ v = .int .i64 (i : Int) ∧ i ≤ q.length ∧ S = namS s (q.take i) ∧ L = lastN 0 nmX (q.take i) ∧ Below w4.heap.size w4 wr) (fun v5 v6 v wr => q.length - (Lib.intOf v).toNat)
   case atStart => exact ⟨0, _, _, rfl, rfl, rfl, Nat.zero_le _, (namS_nil s).symm, rfl, Below.refl _ _⟩
   case round =>
    obtain ⟨i, S, L, rfl, rfl, rfl, hi, hS, hL, hbw⟩ := hrel
    have hp256 : ∀ p ∈ q, p < 256 := by obtain ⟨_, _, _, _, _, _, h, _⟩ := HPQ.out; exact h
    by_cases hil : i < q.length
    ·have q1 : decide ((i : Int) < (q.length : Int)) = true := decide_eq_true (by omega)
     obtain ⟨b, o, e, hc⟩ : ∃ b o, qa = some ⟨b, o, none⟩ ∧ wr.cell? ⟨b, o + i, none⟩ = some (.int .u8 (q[i] : Int)) := by
      obtain ⟨a', c', e', -, -, -, h5, h6⟩ := HPQ.out.below hbw
      simp only [Value.slice.injEq] at e'
      obtain ⟨rfl, -, rfl⟩ := e'
      exact h6 i hil
     subst e
     have hp := hp256 _ (List.getElem_mem hil)
     have hlen : (q.take i).length = i := by rw [List.length_take]; omega
     obtain ⟨hSl, hLl⟩ := namS_len (s := s) (l := q.take i) HGD.out.len HGD.out.side (by omega) (fun p h => hp256 p (List.mem_of_mem_take h))
     rw [← hS] at hSl
     rw [← hL] at hLl
     obtain ⟨hs1, hs2⟩ := namS_snoc s (q.take i) q[i]
     rw [← List.take_succ_eq_append_getElem hil, hlen, ← hS, ← hL] at hs1
     rw [← List.take_succ_eq_append_getElem hil, hlen] at hs2
     generalize q[i] = p at hc hp hs1
     have hwl := wrapS_len hp L
     have hnl := nmI_len (i := i) (by omega)
     have hwr := wwrap_any
     have hdc : ∀ W', Calls Tryz.prog 17 #[.int .i64 (i : Int)] W' fun e w' => e = .returned (.string (str (numStr (i : Int)))) ∧ Below W'.heap.size W' w' := fun W' => wdec_pos W' (i : Int) (by omega) (by omega)
     have hwr : ∀ W', Calls Tryz.prog 18 #[.string (str L), .int .u8 (p : Int)] W' fun e w' => e = .returned (.string (str (wrapS p L))) ∧ Below W'.heap.size W' w' := fun W' => wwrap_any W' L p (by omega) hp
     generalize wrapS p L = X at hwr hs1 hwl
     have hnm : nmI i = 121 :: numStr (i : Int) := rfl
     rw [hnm] at hs1 hs2 hnl
     generalize numStr (i : Int) = D at hdc hs1 hs2 hnl
     have HDC := Lib.hid hdc; have HWR := Lib.hid hwr; have HS1 := Lib.hid hs1; have HS2 := Lib.hid hs2; have HBW := Lib.hid hbw
     have hdl5 : D.length ≤ 5 := by simp at hnl; omega
     clear hdc hwr hs1 hs2 hbw hnm hS hL hlen hp256 hnl
     go_wp2_with (first | (go_at_call 17; refine (HDC.out _).mono ?_; rintro e w5 ⟨rfl, hb5⟩) | (go_at_call 18; refine (HWR.out _).mono ?_; rintro e w6 ⟨rfl, hb6⟩))
     refine ⟨⟨i + 1, S ++ ((121 :: D) ++ ([58, 32] ++ (X ++ [10]))), 121 :: D, ?_, ?_, by go_num, by omega, HS1.out.symm, HS2.out.symm, HBW.out.trans ((hb5.trans (hb6.mono hb5.size)).mono HBW.out.size)⟩, by simp [Lib.intOf]; omega⟩
     ·rw [show (⟨#[121]⟩ : ByteArray) = str [121] from rfl, show (⟨#[58, 32]⟩ : ByteArray) = str [58, 32] from rfl, show (⟨#[10]⟩ : ByteArray) = str [10] from rfl, str_append, str_append, str_append, str_append, str_append]
      congr 2
      simp
     ·rw [show (⟨#[121]⟩ : ByteArray) = str [121] from rfl, str_append]
      rfl
    ·obtain rfl : i = q.length := by omega
     have q1 : decide ((q.length : Int) < (q.length : Int)) = false := decide_eq_false (by omega)
     rw [List.take_length] at hS hL
     obtain ⟨hSl, hLl⟩ := namS_len (s := s) (l := q) HGD.out.len HGD.out.side hq12 hp256
     rw [← hS] at hSl
     rw [← hL] at hLl
     have hsi : ∀ x ∈ s, In64 x := fun x hx => by have := HGD.out.side x hx; unfold In64; omega
     have hdi : ∀ x ∈ d, In64 x := by obtain ⟨_, _, _, _, _, _, _, h⟩ := HX3.out.d; exact h
     have hm0 : putA (fun _ => none) nmX (s, d) nmX = some (s, d) := by unfold putA; rw [if_pos rfl]
     have hbig : 0 + q.length * (2 * d.length + 1) + d.length ≤ 1048576 := by
      have : q.length * (2 * d.length + 1) ≤ 12 * 20001 := Nat.mul_le_mul hq12 (by omega)
      omega
     obtain ⟨O, hE, hO1, hO2, hO3⟩ := named_eval hsi q 0 nmX (putA (fun _ => none) nmX (s, d)) 0 d hp256 hm0 HR.out hdi hbig
     obtain ⟨c2, hc2, hE2, -, -⟩ := expr_eval (M := putA (fun _ => none) nmX (s, d)) hsi q (.nam nmX) d d.length hp256 (eval_nam hm0 ⟨hsi, hdi⟩) HR.out hdi
     have hbig2 : 0 + c2 ≤ 1048576 := by
      have : q.length * (d.length + 1) ≤ 12 * 10001 := Nat.mul_le_mul hq12 (by omega)
      omega
     have hE3 : LinesA (putA (fun _ => none) nmX (s, d)) 0 (exprT s q).post.lines [(s, valW q d)] := lines_cons hE2 hbig2 rfl
     have hs4 := HGD.out.len
     have ht1 : (namedT s q).text2 LL = (S ++ [111, 117, 116, 32]) ++ L := by rw [named_text, hS, hL]; simp
     have ht2 : (exprT s q).text2 LL = (inputX s ++ [111, 117, 116, 32]) ++ exprS nmX q := by rw [expr_textT]; simp
     have hxl := inputX_len HGD.out.len HGD.out.side
     have hel := exprS_len q nmX hp256
     have hnx : nmX.length = 1 := rfl
     have hmn1 : ∀ W' G, XbJ w y2 (.slice va s.length vc) (.slice ua d.length uc) s d (.slice pa l.length pc) l W' → W'.heap[G]? = some (.cells #[.slice va s.length vc, .slice ua d.length uc] 44 (0, 0)) →
       Calls Tryz.prog 13 #[.string (str ((S ++ [111, 117, 116, 32]) ++ L)), .slice (some ⟨G, 0, none⟩) 1 1] W' fun e w' => ∃ v B0, e = .returned (.tuple #[v, .bool true]) ∧ W'.heap.size ≤ B0 ∧ StkI B0 B0 w' v (O ++ [(s, valW q d)]) ∧ Below W'.heap.size W' w' := fun W' G h hG =>
      wmeans_any items_named W' h.tab (namedT s q) (named_fineT HGD.out.len HGD.out.side hq12 hp256) s d rfl _ ht1 (by simp only [List.length_append, List.length_cons, List.length_nil]; omega) G 0 1 _ _ (cell_of_row _ G 0 _ _ _ hG) (cell_of_row _ G 1 _ _ _ hG) h.s h.d HR.out _ hE (fun a ha => by
       rcases List.mem_append.1 ha with ha | ha
       ·have := hO2 a ha; rw [this.1]; omega
       ·cases List.mem_singleton.1 ha; dsimp only; omega) (by rw [List.length_append, List.length_singleton]; omega) (named_items s q)
     have hmn : ∀ W' G, XbJ w y2 (.slice va s.length vc) (.slice ua d.length uc) s d (.slice pa l.length pc) l W' → W'.heap[G]? = some (.cells #[.slice va s.length vc, .slice ua d.length uc] 44 (0, 0)) →
       Calls Tryz.prog 13 #[.string (str ((inputX s ++ [111, 117, 116, 32]) ++ exprS nmX q)), .slice (some ⟨G, 0, none⟩) 1 1] W' fun e w' => ∃ v B0, e = .returned (.tuple #[v, .bool true]) ∧ W'.heap.size ≤ B0 ∧ StkI B0 B0 w' v [(s, valW q d)] ∧ Below W'.heap.size W' w' := fun W' G h hG =>
      wmeans_any items_named W' h.tab (exprT s q) (expr_fineT HGD.out.len HGD.out.side hq12 hp256) s d rfl _ ht2 (by simp only [List.length_append, List.length_cons, List.length_nil]; omega) G 0 1 _ _ (cell_of_row _ G 0 _ _ _ hG) (cell_of_row _ G 1 _ _ _ hG) h.s h.d HR.out _ hE3 (fun a ha => by
       cases List.mem_singleton.1 ha; dsimp only; omega) (show (1 : Nat) ≤ 64 by decide) (expr_items s q)
     have hex : ∀ W', XbJ w y2 (.slice va s.length vc) (.slice ua d.length uc) s d (.slice pa l.length pc) l W' → Calls Tryz.prog 19 #[.string ⟨#[120]⟩, .slice pa l.length pc] W' fun e w' => e = .returned (.string (str (exprS nmX q))) ∧ Below W'.heap.size W' w' := fun W' h => by
      have := wexpr_any W' _ l h.pk
      rw [HQ.out] at this
      exact this
     have HX5 := Lib.hid (HX3.out.next hbw); have HMN1 := Lib.hid hmn1; have HMN := Lib.hid hmn; have HEX := Lib.hid hex; have HO1 := Lib.hid hO1
     generalize hX1 : inputX s = X1 at hxl HMN
     have HIN : Hid (∀ W', XbJ w y2 (.slice va s.length vc) (.slice ua d.length uc) s d (.slice pa l.length pc) l W' → Calls Tryz.prog 14 #[.string ⟨#[120]⟩, .slice va s.length vc] W' fun e w' => e = .returned (.string (str X1)) ∧ Below W'.heap.size W' w') := by rw [← hX1]; exact HIN
     generalize exprS nmX q = E at hel HEX HMN
     generalize valW q d = Z at HMN1 HMN hO3
     clear hmn1 hmn hex hO1 hO2 hO3 hE hE2 hE3 hc2 hbig hbig2 ht1 ht2 hbw hS hL hp256 hX1 hm0
     have k20 := cell_of_row _ y2 0 _ _ _ HX5.out.b2
     have k21 := cell_of_row _ y2 1 _ _ _ HX5.out.b2
     have hdx : Below wr.heap.size wr (wr.alloc (.cells #[.slice va s.length vc, .slice ua d.length uc] 44)) := (Below.refl _ _).alloc (Nat.le_refl _) _
     have hg := World.alloc_heap_new wr (.cells #[.slice va s.length vc, .slice ua d.length uc] 44)
     have hc1 := HMN1.out _ _ (HX5.out.next hdx) hg
     obtain ⟨S1, hS1⟩ : ∃ T, S ++ [111, 117, 116, 32] = T := ⟨_, rfl⟩
     obtain ⟨S2, hS2⟩ : ∃ T, S1 ++ L = T := ⟨_, rfl⟩
     rw [hS1, hS2] at hc1
     have hw1 : str S ++ ⟨#[111, 117, 116, 32]⟩ ++ str L = str S2 := by rw [show (⟨#[111, 117, 116, 32]⟩ : ByteArray) = str [111, 117, 116, 32] from rfl, str_append, hS1, str_append, hS2]
     have HC1 := Lib.hid hc1; have HW1 := Lib.hid hw1; have HX6 := Lib.hid (HX5.out.next hdx)
     clear hc1 hw1 hdx hg hS1 hS2
     go_wp2_with (go_at_call 13; fail)
     rw [HW1.out]
     refine HC1.out.mono ?_
     rintro e w5 ⟨v5, B5, rfl, -, hs5, hb5⟩
     obtain ⟨a5, n5, c5, rfl⟩ : ∃ a n c, v5 = .slice a n c := by obtain ⟨a, c, e⟩ := hs5.form; exact ⟨_, _, _, e⟩
     have hx7 := HX6.out.next hb5
     have hin' : ∀ W', XbJ w5 y2 (.slice va s.length vc) (.slice ua d.length uc) s d (.slice pa l.length pc) l W' → XbJ w y2 (.slice va s.length vc) (.slice ua d.length uc) s d (.slice pa l.length pc) l W' := fun W' h => ⟨hx7.below.trans (h.below.mono hx7.below.size), h.b2, h.s, h.d, h.tab, h.pk⟩
     have HIN' := Lib.hid (fun W' h => HIN.out W' (hin' W' h)); have HEX' := Lib.hid (fun W' h => HEX.out W' (hin' W' h)); have HMN' := Lib.hid (fun W' G h => HMN.out W' G (hin' W' h))
     have HX7 := Lib.hid hx7; have HX8 := Lib.hid (XbJ.mk (w := w5) (Below.refl _ w5) hx7.b2 hx7.s hx7.d hx7.tab hx7.pk); have HS5 := Lib.hid hs5
     clear hs5 hb5 hx7 hin' HIN HEX HMN HMN1 HC1 HW1 HX5 HX6 k20 k21
     have hmn2 := HMN'.out
     obtain ⟨T1, hT1⟩ : ∃ T, X1 ++ [111, 117, 116, 32] = T := ⟨_, rfl⟩
     have hl1 : T1.length ≤ 44 := by rw [← hT1]; simp; omega
     obtain ⟨T2, hT2⟩ : ∃ T, T1 ++ E = T := ⟨_, rfl⟩
     rw [hT1, hT2] at hmn2
     have HIN := HIN'; have HEX := HEX'; have HMN := Lib.hid hmn2; have HT1 := Lib.hid hT1; have HT2 := Lib.hid hT2
     clear HIN' HEX' HMN' hmn2 hT1 hT2
     dsimp only
     go_upto_region 14 with fail
     go_cut [12, 13] (fun s12 s13 wx => ∃ a n c B0, s12 = .slice a n c ∧ s13 = .bool true ∧ XbJ w5 y2 (.slice va s.length vc) (.slice ua d.length uc) s d (.slice pa l.length pc) l wx ∧ StkI B0 B0 wx (.slice a n c) [(s, Z)])
     case first =>
      refine wp_region_Z (S := (fun W' : World => W'.cell? ⟨y2, 0, none⟩ = some (.slice va s.length vc) ∧ W'.cell? ⟨y2, 1, none⟩ = some (.slice ua d.length uc))) (z := 14) (by kernel_rfl) ?_
      have HX0 := Lib.hid (HX8.out.next ((Below.refl _ w5).drew))
      clear HX8
      generalize w5.drew = W0 at HX0 ⊢
      have hSS : (fun W' : World => W'.cell? ⟨y2, 0, none⟩ = some (.slice va s.length vc) ∧ W'.cell? ⟨y2, 1, none⟩ = some (.slice ua d.length uc)) W0 := ⟨cell_of_row _ y2 0 _ _ _ HX0.out.b2, cell_of_row _ y2 1 _ _ _ HX0.out.b2⟩
      refine wpAnyZ_take (i := 0) (v := ?_) rfl (by kernel_rfl) (by kernel_rfl) (by kernel_rfl) (fun _ _ _ h => h) (by kernel_rfl) (Or.inl ⟨by rfl, ?_⟩) (by assumption) ?_
      rotate_left
      ·intro w' hSw
       try dsimp only at hSw
       try obtain ⟨hSw, hSw2⟩ := hSw
       go_simp
       try with_reducible rfl
      show wpAnyZ _ _ _ _ _ _ _ _ (Act.put _ (some 61) _) _
      simp only [Act.put, List.setIfInBounds_toArray, List.set_cons_zero, List.set_cons_succ]
      refine wpAnyZ_take (i := 1) (v := ?_) rfl (by kernel_rfl) (by kernel_rfl) (by kernel_rfl) (fun _ _ _ h => h) (by kernel_rfl) (Or.inl ⟨by rfl, ?_⟩) (by assumption) ?_
      rotate_left
      ·intro w' hSw
       try dsimp only at hSw
       try obtain ⟨hSw, hSw2⟩ := hSw
       go_simp
       try with_reducible rfl
      show wpAnyZ _ _ _ _ _ _ _ _ (Act.put _ (some 62) _) _
      simp only [Act.put, List.setIfInBounds_toArray, List.set_cons_zero, List.set_cons_succ]
      refine wpAnyZ_take (i := 4) (v := ?_) rfl (by kernel_rfl) (by kernel_rfl) (by kernel_rfl) (fun _ _ _ h => h) (by kernel_rfl) (Or.inl ⟨by rfl, ?_⟩) (by assumption) ?_
      rotate_left
      ·intro w' hSw
       try dsimp only at hSw
       try obtain ⟨hSw, hSw2⟩ := hSw
       go_simp
       try with_reducible rfl
      show wpAnyZ _ _ _ _ _ _ _ _ (Act.put _ (some 65) _) _
      simp only [Act.put, List.setIfInBounds_toArray, List.set_cons_zero, List.set_cons_succ]
      refine wpAnyZ_take (i := 7) (v := ?_) rfl (by kernel_rfl) (by kernel_rfl) (by kernel_rfl) (fun _ _ _ h => h) (by kernel_rfl) (Or.inl ⟨by rfl, ?_⟩) (by assumption) ?_
      rotate_left
      ·intro w' hSw
       try dsimp only at hSw
       try obtain ⟨hSw, hSw2⟩ := hSw
       go_simp
       try with_reducible rfl
      show wpAnyZ _ _ _ _ _ _ _ _ (Act.put _ (some 68) _) _
      simp only [Act.put, List.setIfInBounds_toArray, List.set_cons_zero, List.set_cons_succ]
      clear hSS
      -- <R14
      refine wpAnyZ_twoG (i := 2) (j := 8) (by kernel_rfl) rfl rfl (by rfl) (by rfl) (fun K hK => ?_) (fun K hK => ?_)
      ·skip
       go_simp
       refine (HIN.out W0 HX0.out).mono ?_
       rintro e w1x ⟨rfl, hb1⟩
       have hx1 := HX0.out.next hb1
       have hSS : (fun W' : World => W'.cell? ⟨y2, 0, none⟩ = some (.slice va s.length vc) ∧ W'.cell? ⟨y2, 1, none⟩ = some (.slice ua d.length uc)) w1x := ⟨cell_of_row _ y2 0 _ _ _ hx1.b2, cell_of_row _ y2 1 _ _ _ hx1.b2⟩
       show K _ w1x
       refine hK.out _ _ (.inr hSS) ?_
       have HX1 := Lib.hid hx1
       clear hK hb1 hx1 HX0
       refine wpAnyZ_take (i := 3) (v := .string (str T1)) rfl (by kernel_rfl) (by kernel_rfl) (by kernel_rfl) (fun _ _ _ h => h) (by kernel_rfl) (Or.inl ⟨by rfl, ?_⟩) (by assumption) ?_
       ·intro w' hSw
        clear hSw
        go_simp
        try rw [if_neg (by (try simp only [List.length_append, List.length_cons, List.length_nil]); omega)]
        try rw [show (⟨#[111, 117, 116, 32]⟩ : ByteArray) = str [111, 117, 116, 32] from rfl, str_append]
        rw [HT1.out]
       show wpAnyZ _ _ _ _ _ _ _ _ (Act.put _ (some 64) _) _
       simp only [Act.put, List.setIfInBounds_toArray, List.set_cons_zero, List.set_cons_succ]
       clear hSS
       refine wpAnyZ_twoG (i := 5) (j := 8) (by kernel_rfl) rfl rfl (by rfl) (by rfl) (fun K hK => ?_) (fun K hK => ?_)
       ·skip
        go_simp
        refine (HEX.out w1x HX1.out).mono ?_
        rintro e w2x ⟨rfl, hb2⟩
        have hx2 := HX1.out.next hb2
        have hSS : (fun W' : World => W'.cell? ⟨y2, 0, none⟩ = some (.slice va s.length vc) ∧ W'.cell? ⟨y2, 1, none⟩ = some (.slice ua d.length uc)) w2x := ⟨cell_of_row _ y2 0 _ _ _ hx2.b2, cell_of_row _ y2 1 _ _ _ hx2.b2⟩
        show K _ w2x
        refine hK.out _ _ (.inr hSS) ?_
        have HX2 := Lib.hid hx2
        clear hK hb2 hx2 HX1
        refine wpAnyZ_take (i := 6) (v := .string (str T2)) rfl (by kernel_rfl) (by kernel_rfl) (by kernel_rfl) (fun _ _ _ h => h) (by kernel_rfl) (Or.inl ⟨by rfl, ?_⟩) (by assumption) ?_
        ·intro w' hSw
         clear hSw
         go_simp
         try rw [if_neg (by (try simp only [List.length_append, List.length_cons, List.length_nil]); omega)]
         try rw [str_append]
         rw [HT2.out]
        show wpAnyZ _ _ _ _ _ _ _ _ (Act.put _ (some 67) _) _
        simp only [Act.put, List.setIfInBounds_toArray, List.set_cons_zero, List.set_cons_succ]
        clear hSS
        refine wpAnyZ_oneG (i := 8) (by kernel_rfl) rfl (by rfl) (fun K hK => ?_)
        go_simp
        have hb3 : Below w2x.heap.size w2x (w2x.alloc (.cells #[.slice va s.length vc, .slice ua d.length uc] 44)) := (Below.refl _ _).alloc (Nat.le_refl _) _
        have hx3 := HX2.out.next hb3
        have hg3 := World.alloc_heap_new w2x (.cells #[.slice va s.length vc, .slice ua d.length uc] 44)
        have hSS : (fun W' : World => W'.cell? ⟨y2, 0, none⟩ = some (.slice va s.length vc) ∧ W'.cell? ⟨y2, 1, none⟩ = some (.slice ua d.length uc)) (w2x.alloc (.cells #[.slice va s.length vc, .slice ua d.length uc] 44)) := ⟨cell_of_row _ y2 0 _ _ _ hx3.b2, cell_of_row _ y2 1 _ _ _ hx3.b2⟩
        refine hK.out _ _ (.inr hSS) ?_
        have HX3 := Lib.hid hx3; have HG3 := Lib.hid hg3
        clear hK hSS hb3 hx3 hg3 HX2
        generalize w2x.alloc (.cells #[.slice va s.length vc, .slice ua d.length uc] 44) = w3x at HX3 HG3 ⊢
        generalize w2x.heap.size = g3 at HG3 ⊢
        refine wpAnyZ_oneG (i := 9) (by kernel_rfl) rfl (by rfl) (fun K hK => ?_)
        go_simp
        refine (HMN.out w3x _ HX3.out HG3.out).mono ?_
        rintro e wz ⟨vz, Bz, rfl, hBz, hsz, hbz⟩
        have hxz := HX3.out.next hbz
        have hSS : (fun W' : World => W'.cell? ⟨y2, 0, none⟩ = some (.slice va s.length vc) ∧ W'.cell? ⟨y2, 1, none⟩ = some (.slice ua d.length uc)) wz := ⟨cell_of_row _ y2 0 _ _ _ hxz.b2, cell_of_row _ y2 1 _ _ _ hxz.b2⟩
        show K _ wz
        refine hK.out _ _ (.inr hSS) ?_
        obtain ⟨az, nz, cz, rfl⟩ : ∃ a n c, vz = .slice a n c := by obtain ⟨a, c, e⟩ := hsz.form; exact ⟨_, _, _, e⟩
        have HXZ := Lib.hid hxz; have HSZ := Lib.hid hsz
        clear hK hbz hxz hsz HX3 HG3
        refine wpAnyZ_take (i := 10) (v := ?_) rfl (by kernel_rfl) (by kernel_rfl) (by kernel_rfl) (fun _ _ _ h => h) (by kernel_rfl) (Or.inl ⟨by rfl, ?_⟩) (by assumption) ?_
        rotate_left
        ·intro w' hSw
         try dsimp only at hSw
         try obtain ⟨hSw, hSw2⟩ := hSw
         go_simp
         try with_reducible rfl
        show wpAnyZ _ _ _ _ _ _ _ _ (Act.put _ (some 60) _) _
        simp only [Act.put, List.setIfInBounds_toArray, List.set_cons_zero, List.set_cons_succ]
        refine wpAnyZ_take (i := 11) (v := ?_) rfl (by kernel_rfl) (by kernel_rfl) (by kernel_rfl) (fun _ _ _ h => h) (by kernel_rfl) (Or.inl ⟨by rfl, ?_⟩) (by assumption) ?_
        rotate_left
        ·intro w' hSw
         try dsimp only at hSw
         try obtain ⟨hSw, hSw2⟩ := hSw
         go_simp
         try with_reducible rfl
        show wpAnyZ _ _ _ _ _ _ _ _ (Act.put _ (some 71) _) _
        simp only [Act.put, List.setIfInBounds_toArray, List.set_cons_zero, List.set_cons_succ]
        refine wpAnyZ_take (i := 12) (v := ?_) rfl (by kernel_rfl) (by kernel_rfl) (by kernel_rfl) (fun _ _ _ h => h) (by kernel_rfl) (Or.inl ⟨by rfl, ?_⟩) (by assumption) ?_
        rotate_left
        ·intro w' hSw
         try dsimp only at hSw
         try obtain ⟨hSw, hSw2⟩ := hSw
         go_simp
         try with_reducible rfl
        show wpAnyZ _ _ _ _ _ _ _ _ (Act.put _ (some 72) _) _
        simp only [Act.put, List.setIfInBounds_toArray, List.set_cons_zero, List.set_cons_succ]
        clear hSS
        refine wpAnyZ_oneG (i := 13) (by kernel_rfl) rfl (by rfl) (fun K hK => ?_)
        go_simp
        refine hK.out _ _ (.inr ⟨cell_of_row _ y2 0 _ _ _ HXZ.out.b2, cell_of_row _ y2 1 _ _ _ HXZ.out.b2⟩) ?_
        clear hK
        refine wpAnyZ_oneG (i := 14) (by kernel_rfl) rfl (by rfl) (fun K hK => ?_)
        go_simp
        refine hK.out _ _ (.inl (by omega)) ?_
        clear hK
        refine wpAnyZ_done (by kernel_rfl) ?_ _
        go_wp2_with fail
        go_meet
        first | exact ⟨az, nz, cz, Bz, rfl, rfl, HXZ.out, HSZ.out⟩ | exact ⟨az, nz, cz, ⟨rfl, rfl, rfl⟩, HXZ.out, Bz, HSZ.out⟩
       ·skip
        go_simp
        have hb4 : Below w1x.heap.size w1x (w1x.alloc (.cells #[.slice va s.length vc, .slice ua d.length uc] 44)) := (Below.refl _ _).alloc (Nat.le_refl _) _
        have hx4 := HX1.out.next hb4
        have hg4 := World.alloc_heap_new w1x (.cells #[.slice va s.length vc, .slice ua d.length uc] 44)
        have hSS : (fun W' : World => W'.cell? ⟨y2, 0, none⟩ = some (.slice va s.length vc) ∧ W'.cell? ⟨y2, 1, none⟩ = some (.slice ua d.length uc)) (w1x.alloc (.cells #[.slice va s.length vc, .slice ua d.length uc] 44)) := ⟨cell_of_row _ y2 0 _ _ _ hx4.b2, cell_of_row _ y2 1 _ _ _ hx4.b2⟩
        refine hK.out _ _ (.inr hSS) ?_
        have HX4 := Lib.hid hx4; have HG4 := Lib.hid hg4
        clear hK hSS hb4 hx4 hg4 HX1
        generalize w1x.alloc (.cells #[.slice va s.length vc, .slice ua d.length uc] 44) = w4x at HX4 HG4 ⊢
        generalize w1x.heap.size = g4 at HG4 ⊢
        refine wpAnyZ_oneG (i := 5) (by kernel_rfl) rfl (by rfl) (fun K hK => ?_)
        go_simp
        refine (HEX.out w4x HX4.out).mono ?_
        rintro e w5x ⟨rfl, hb5⟩
        have hx5 := HX4.out.next hb5
        have hSS : (fun W' : World => W'.cell? ⟨y2, 0, none⟩ = some (.slice va s.length vc) ∧ W'.cell? ⟨y2, 1, none⟩ = some (.slice ua d.length uc)) w5x := ⟨cell_of_row _ y2 0 _ _ _ hx5.b2, cell_of_row _ y2 1 _ _ _ hx5.b2⟩
        show K _ w5x
        refine hK.out _ _ (.inr hSS) ?_
        have HX5 := Lib.hid hx5
        have HG5 := Lib.hid (block_below HG4.out hb5)
        clear HG4
        clear hK hb5 hx5 HX4
        refine wpAnyZ_take (i := 6) (v := .string (str T2)) rfl (by kernel_rfl) (by kernel_rfl) (by kernel_rfl) (fun _ _ _ h => h) (by kernel_rfl) (Or.inl ⟨by rfl, ?_⟩) (by assumption) ?_
        ·intro w' hSw
         clear hSw
         go_simp
         try rw [if_neg (by (try simp only [List.length_append, List.length_cons, List.length_nil]); omega)]
         try rw [str_append]
         rw [HT2.out]
        show wpAnyZ _ _ _ _ _ _ _ _ (Act.put _ (some 67) _) _
        simp only [Act.put, List.setIfInBounds_toArray, List.set_cons_zero, List.set_cons_succ]
        clear hSS
        refine wpAnyZ_oneG (i := 9) (by kernel_rfl) rfl (by rfl) (fun K hK => ?_)
        go_simp
        refine (HMN.out w5x _ HX5.out HG5.out).mono ?_
        rintro e wz ⟨vz, Bz, rfl, hBz, hsz, hbz⟩
        have hxz := HX5.out.next hbz
        have hSS : (fun W' : World => W'.cell? ⟨y2, 0, none⟩ = some (.slice va s.length vc) ∧ W'.cell? ⟨y2, 1, none⟩ = some (.slice ua d.length uc)) wz := ⟨cell_of_row _ y2 0 _ _ _ hxz.b2, cell_of_row _ y2 1 _ _ _ hxz.b2⟩
        show K _ wz
        refine hK.out _ _ (.inr hSS) ?_
        obtain ⟨az, nz, cz, rfl⟩ : ∃ a n c, vz = .slice a n c := by obtain ⟨a, c, e⟩ := hsz.form; exact ⟨_, _, _, e⟩
        have HXZ := Lib.hid hxz; have HSZ := Lib.hid hsz
        clear hK hbz hxz hsz HX5 HG5
        refine wpAnyZ_take (i := 10) (v := ?_) rfl (by kernel_rfl) (by kernel_rfl) (by kernel_rfl) (fun _ _ _ h => h) (by kernel_rfl) (Or.inl ⟨by rfl, ?_⟩) (by assumption) ?_
        rotate_left
        ·intro w' hSw
         try dsimp only at hSw
         try obtain ⟨hSw, hSw2⟩ := hSw
         go_simp
         try with_reducible rfl
        show wpAnyZ _ _ _ _ _ _ _ _ (Act.put _ (some 60) _) _
        simp only [Act.put, List.setIfInBounds_toArray, List.set_cons_zero, List.set_cons_succ]
        refine wpAnyZ_take (i := 11) (v := ?_) rfl (by kernel_rfl) (by kernel_rfl) (by kernel_rfl) (fun _ _ _ h => h) (by kernel_rfl) (Or.inl ⟨by rfl, ?_⟩) (by assumption) ?_
        rotate_left
        ·intro w' hSw
         try dsimp only at hSw
         try obtain ⟨hSw, hSw2⟩ := hSw
         go_simp
         try with_reducible rfl
        show wpAnyZ _ _ _ _ _ _ _ _ (Act.put _ (some 71) _) _
        simp only [Act.put, List.setIfInBounds_toArray, List.set_cons_zero, List.set_cons_succ]
        refine wpAnyZ_take (i := 12) (v := ?_) rfl (by kernel_rfl) (by kernel_rfl) (by kernel_rfl) (fun _ _ _ h => h) (by kernel_rfl) (Or.inl ⟨by rfl, ?_⟩) (by assumption) ?_
        rotate_left
        ·intro w' hSw
         try dsimp only at hSw
         try obtain ⟨hSw, hSw2⟩ := hSw
         go_simp
         try with_reducible rfl
        show wpAnyZ _ _ _ _ _ _ _ _ (Act.put _ (some 72) _) _
        simp only [Act.put, List.setIfInBounds_toArray, List.set_cons_zero, List.set_cons_succ]
        clear hSS
        refine wpAnyZ_oneG (i := 13) (by kernel_rfl) rfl (by rfl) (fun K hK => ?_)
        go_simp
        refine hK.out _ _ (.inr ⟨cell_of_row _ y2 0 _ _ _ HXZ.out.b2, cell_of_row _ y2 1 _ _ _ HXZ.out.b2⟩) ?_
        clear hK
        refine wpAnyZ_oneG (i := 14) (by kernel_rfl) rfl (by rfl) (fun K hK => ?_)
        go_simp
        refine hK.out _ _ (.inl (by omega)) ?_
        clear hK
        refine wpAnyZ_done (by kernel_rfl) ?_ _
        go_wp2_with fail
        go_meet
        first | exact ⟨az, nz, cz, Bz, rfl, rfl, HXZ.out, HSZ.out⟩ | exact ⟨az, nz, cz, ⟨rfl, rfl, rfl⟩, HXZ.out, Bz, HSZ.out⟩
      ·skip
       go_simp
       have hb6 : Below W0.heap.size W0 (W0.alloc (.cells #[.slice va s.length vc, .slice ua d.length uc] 44)) := (Below.refl _ _).alloc (Nat.le_refl _) _
       have hx6 := HX0.out.next hb6
       have hg6 := World.alloc_heap_new W0 (.cells #[.slice va s.length vc, .slice ua d.length uc] 44)
       have hSS : (fun W' : World => W'.cell? ⟨y2, 0, none⟩ = some (.slice va s.length vc) ∧ W'.cell? ⟨y2, 1, none⟩ = some (.slice ua d.length uc)) (W0.alloc (.cells #[.slice va s.length vc, .slice ua d.length uc] 44)) := ⟨cell_of_row _ y2 0 _ _ _ hx6.b2, cell_of_row _ y2 1 _ _ _ hx6.b2⟩
       refine hK.out _ _ (.inr hSS) ?_
       have HX6 := Lib.hid hx6; have HG6 := Lib.hid hg6
       clear hK hSS hb6 hx6 hg6 HX0
       generalize W0.alloc (.cells #[.slice va s.length vc, .slice ua d.length uc] 44) = w6x at HX6 HG6 ⊢
       generalize W0.heap.size = g6 at HG6 ⊢
       refine wpAnyZ_oneG (i := 2) (by kernel_rfl) rfl (by rfl) (fun K hK => ?_)
       go_simp
       refine (HIN.out w6x HX6.out).mono ?_
       rintro e w7x ⟨rfl, hb7⟩
       have hx7 := HX6.out.next hb7
       have hSS : (fun W' : World => W'.cell? ⟨y2, 0, none⟩ = some (.slice va s.length vc) ∧ W'.cell? ⟨y2, 1, none⟩ = some (.slice ua d.length uc)) w7x := ⟨cell_of_row _ y2 0 _ _ _ hx7.b2, cell_of_row _ y2 1 _ _ _ hx7.b2⟩
       show K _ w7x
       refine hK.out _ _ (.inr hSS) ?_
       have HX7 := Lib.hid hx7
       have HG7 := Lib.hid (block_below HG6.out hb7)
       clear HG6
       clear hK hb7 hx7 HX6
       refine wpAnyZ_take (i := 3) (v := .string (str T1)) rfl (by kernel_rfl) (by kernel_rfl) (by kernel_rfl) (fun _ _ _ h => h) (by kernel_rfl) (Or.inl ⟨by rfl, ?_⟩) (by assumption) ?_
       ·intro w' hSw
        clear hSw
        go_simp
        try rw [if_neg (by (try simp only [List.length_append, List.length_cons, List.length_nil]); omega)]
        try rw [show (⟨#[111, 117, 116, 32]⟩ : ByteArray) = str [111, 117, 116, 32] from rfl, str_append]
        rw [HT1.out]
       show wpAnyZ _ _ _ _ _ _ _ _ (Act.put _ (some 64) _) _
       simp only [Act.put, List.setIfInBounds_toArray, List.set_cons_zero, List.set_cons_succ]
       clear hSS
       refine wpAnyZ_oneG (i := 5) (by kernel_rfl) rfl (by rfl) (fun K hK => ?_)
       go_simp
       refine (HEX.out w7x HX7.out).mono ?_
       rintro e w8x ⟨rfl, hb8⟩
       have hx8 := HX7.out.next hb8
       have hSS : (fun W' : World => W'.cell? ⟨y2, 0, none⟩ = some (.slice va s.length vc) ∧ W'.cell? ⟨y2, 1, none⟩ = some (.slice ua d.length uc)) w8x := ⟨cell_of_row _ y2 0 _ _ _ hx8.b2, cell_of_row _ y2 1 _ _ _ hx8.b2⟩
       show K _ w8x
       refine hK.out _ _ (.inr hSS) ?_
       have HX8 := Lib.hid hx8
       have HG8 := Lib.hid (block_below HG7.out hb8)
       clear HG7
       clear hK hb8 hx8 HX7
       refine wpAnyZ_take (i := 6) (v := .string (str T2)) rfl (by kernel_rfl) (by kernel_rfl) (by kernel_rfl) (fun _ _ _ h => h) (by kernel_rfl) (Or.inl ⟨by rfl, ?_⟩) (by assumption) ?_
       ·intro w' hSw
        clear hSw
        go_simp
        try rw [if_neg (by (try simp only [List.length_append, List.length_cons, List.length_nil]); omega)]
        try rw [str_append]
        rw [HT2.out]
       show wpAnyZ _ _ _ _ _ _ _ _ (Act.put _ (some 67) _) _
       simp only [Act.put, List.setIfInBounds_toArray, List.set_cons_zero, List.set_cons_succ]
       clear hSS
       refine wpAnyZ_oneG (i := 9) (by kernel_rfl) rfl (by rfl) (fun K hK => ?_)
       go_simp
       refine (HMN.out w8x _ HX8.out HG8.out).mono ?_
       rintro e wz ⟨vz, Bz, rfl, hBz, hsz, hbz⟩
       have hxz := HX8.out.next hbz
       have hSS : (fun W' : World => W'.cell? ⟨y2, 0, none⟩ = some (.slice va s.length vc) ∧ W'.cell? ⟨y2, 1, none⟩ = some (.slice ua d.length uc)) wz := ⟨cell_of_row _ y2 0 _ _ _ hxz.b2, cell_of_row _ y2 1 _ _ _ hxz.b2⟩
       show K _ wz
       refine hK.out _ _ (.inr hSS) ?_
       obtain ⟨az, nz, cz, rfl⟩ : ∃ a n c, vz = .slice a n c := by obtain ⟨a, c, e⟩ := hsz.form; exact ⟨_, _, _, e⟩
       have HXZ := Lib.hid hxz; have HSZ := Lib.hid hsz
       clear hK hbz hxz hsz HX8 HG8
       refine wpAnyZ_take (i := 10) (v := ?_) rfl (by kernel_rfl) (by kernel_rfl) (by kernel_rfl) (fun _ _ _ h => h) (by kernel_rfl) (Or.inl ⟨by rfl, ?_⟩) (by assumption) ?_
       rotate_left
       ·intro w' hSw
        try dsimp only at hSw
        try obtain ⟨hSw, hSw2⟩ := hSw
        go_simp
        try with_reducible rfl
       show wpAnyZ _ _ _ _ _ _ _ _ (Act.put _ (some 60) _) _
       simp only [Act.put, List.setIfInBounds_toArray, List.set_cons_zero, List.set_cons_succ]
       refine wpAnyZ_take (i := 11) (v := ?_) rfl (by kernel_rfl) (by kernel_rfl) (by kernel_rfl) (fun _ _ _ h => h) (by kernel_rfl) (Or.inl ⟨by rfl, ?_⟩) (by assumption) ?_
       rotate_left
       ·intro w' hSw
        try dsimp only at hSw
        try obtain ⟨hSw, hSw2⟩ := hSw
        go_simp
        try with_reducible rfl
       show wpAnyZ _ _ _ _ _ _ _ _ (Act.put _ (some 71) _) _
       simp only [Act.put, List.setIfInBounds_toArray, List.set_cons_zero, List.set_cons_succ]
       refine wpAnyZ_take (i := 12) (v := ?_) rfl (by kernel_rfl) (by kernel_rfl) (by kernel_rfl) (fun _ _ _ h => h) (by kernel_rfl) (Or.inl ⟨by rfl, ?_⟩) (by assumption) ?_
       rotate_left
       ·intro w' hSw
        try dsimp only at hSw
        try obtain ⟨hSw, hSw2⟩ := hSw
        go_simp
        try with_reducible rfl
       show wpAnyZ _ _ _ _ _ _ _ _ (Act.put _ (some 72) _) _
       simp only [Act.put, List.setIfInBounds_toArray, List.set_cons_zero, List.set_cons_succ]
       clear hSS
       refine wpAnyZ_oneG (i := 13) (by kernel_rfl) rfl (by rfl) (fun K hK => ?_)
       go_simp
       refine hK.out _ _ (.inr ⟨cell_of_row _ y2 0 _ _ _ HXZ.out.b2, cell_of_row _ y2 1 _ _ _ HXZ.out.b2⟩) ?_
       clear hK
       refine wpAnyZ_oneG (i := 14) (by kernel_rfl) rfl (by rfl) (fun K hK => ?_)
       go_simp
       refine hK.out _ _ (.inl (by omega)) ?_
       clear hK
       refine wpAnyZ_done (by kernel_rfl) ?_ _
       go_wp2_with fail
       go_meet
       first | exact ⟨az, nz, cz, Bz, rfl, rfl, HXZ.out, HSZ.out⟩ | exact ⟨az, nz, cz, ⟨rfl, rfl, rfl⟩, HXZ.out, Bz, HSZ.out⟩
      -- R14>
     case rest =>
      obtain ⟨a, n, c, B0, rfl, rfl, hx, hst⟩ := hcut
      have hs5 := RowG.next HS5.out hx.below
      have hn1 : n = 1 := by
       obtain ⟨a', c', e⟩ := hst.form
       simp only [Value.slice.injEq] at e
       exact e.2.1
      subst hn1
      have hn5 : n5 = q.length + 1 ∧ n5 ≤ c5 := by
       obtain ⟨cs, h0, -⟩ := hs5
       obtain ⟨_, ⟨hv, h0⟩ | ⟨g', cap, cur, hv, _, _, hc, _⟩⟩ := h0
       ·simp at h0
       ·simp only [Value.slice.injEq] at hv
        have := HO1.out
        rw [List.length_append, List.length_singleton] at hv hc
        omega
      obtain ⟨hn5, hcap⟩ := hn5
      subst hn5
      obtain ⟨g, v0, u0, rfl, -, hv0, hu0, g0, g1⟩ := stk_at hs5 q.length (by rw [List.length_append, List.length_singleton, HO1.out]; omega)
      have hel5 : (O ++ [(s, Z)])[q.length]'(by rw [List.length_append, List.length_singleton, HO1.out]; omega) = (s, Z) := by
       rw [List.getElem_append_right (by rw [HO1.out]; exact Nat.le_refl _)]
       simp [HO1.out]
      rw [hel5] at hv0 hu0
      obtain ⟨g2, v1, u1, rfl, -, hv1, hu1, h0, h1⟩ := stk_at hst 0 (show 0 < 1 by decide)
      have hv1 : SlK B0 wc v1 s := hv1
      have hu1 : SlK B0 wc u1 Z := hu1
      have he1 : arrS.Els wc (some ⟨g, q.length * 2, none⟩) [(s, Z)] := fun i hi => by
       obtain rfl : i = 0 := by simp at hi; omega
       refine ⟨g, q.length * 2, [v0, u0], rfl, ⟨v0, u0, rfl, hv0.sl, hu0.sl⟩, fun j x hj => ?_⟩
       show wc.cell? ⟨g, q.length * 2 + 0 * 2 + j, none⟩ = some x
       rw [Nat.zero_mul, Nat.add_zero]
       match j, hj with
       | 0, hj => cases hj; exact g0
       | 1, hj => cases hj; exact g1
       | j + 2, hj => simp at hj
      have he2 : arrS.Els wc (some ⟨g2, 0, none⟩) [(s, Z)] := fun i hi => by
       obtain rfl : i = 0 := by simp at hi; omega
       refine ⟨g2, 0, [v1, u1], rfl, ⟨v1, u1, rfl, hv1.sl, hu1.sl⟩, fun j x hj => ?_⟩
       show wc.cell? ⟨g2, 0 + 0 * 2 + j, none⟩ = some x
       rw [Nat.zero_mul, Nat.add_zero, Nat.zero_add]
       match j, hj with
       | 0, hj => cases hj; exact h0
       | 1, hj => cases hj; exact h1
       | j + 2, hj => simp at hj
      have hsm := wsame08_any wc [(s, Z)] (some ⟨g, q.length * 2, none⟩) (some ⟨g2, 0, none⟩) (c5 - q.length) c 1 rfl (by decide) he1 he2
      have HSM := Lib.hid hsm; have HBB := Lib.hid (HX7.out.below.trans (hx.below.mono HX7.out.below.size))
      clear hsm he1 he2 hv1 hu1 h0 h1 hel5 hv0 hu0 g0 g1 hs5 hst hx HX8 HX7 HIN HEX HMN HT1 HT2 HO1
      go_wp2_with (go_at_call 20; fail)
      refine HSM.out.mono ?_
      rintro e w9 ⟨rfl, hb9⟩
      have HB9 := Lib.hid (HBB.out.trans (hb9.mono HBB.out.size))
      clear hb9 HSM HBB
      dsimp only
      go_wp2_with fail
      go_ret
      exact ⟨rfl, HB9.out⟩
end Go.Proofs.YtokghjnkfabgiaaGreatDoor
