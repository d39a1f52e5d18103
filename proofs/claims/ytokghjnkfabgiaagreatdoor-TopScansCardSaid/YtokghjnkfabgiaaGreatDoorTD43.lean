import Derived.Test.YtokghjnkfabgiaaGreatDoorTD42
import Derived.Test.YtokghjnkfabgiaaGreatDoorTD34
import Derived.Deep.DeepCutAuto
import Derived.Deep.CutBlock
import Derived.Test.YtokghjnkfabgiaaGreatDoorTD8
set_option linter.unusedVariables false
set_option linter.unusedSimpArgs false
set_option maxRecDepth 100000
namespace Go.Proofs.YtokghjnkfabgiaaGreatDoor
open Go.RowKit Go.Lib
attribute [local go_sem] str_size str_get str_toList
attribute [local go_sem high] run_str_add

theorem scan_items (f : Int) (s : List Int) : ∀ l ∈ (scanT f s).post.lines, ∀ it ∈ l.items, ItmS it := by
 intro l hl it hit
 have hl : l ∈ [(⟨nmY, [⟨2, 0, nmX, []⟩, ⟨6, f, [], []⟩]⟩ : LinP), ⟨[], [⟨2, 0, nmX, []⟩, ⟨5, f, [], []⟩]⟩] := hl
 simp only [List.mem_cons, List.not_mem_nil, or_false] at hl
 rcases hl with rfl | rfl
 ·have hit : it ∈ [(⟨2, 0, nmX, []⟩ : Itm), ⟨6, f, [], []⟩] := hit
  simp only [List.mem_cons, List.not_mem_nil, or_false] at hit
  rcases hit with rfl | rfl
  ·exact .inl rfl
  ·exact .inr (.inr rfl)
 ·have hit : it ∈ [(⟨2, 0, nmX, []⟩ : Itm), ⟨5, f, [], []⟩] := hit
  simp only [List.mem_cons, List.not_mem_nil, or_false] at hit
  rcases hit with rfl | rfl
  ·exact .inl rfl
  ·exact .inr (.inl rfl)
structure XbI (w : World) (y2 : Nat) (v u : Value) (s d : List Int) (W : World) : Prop where
 below : Below w.heap.size w W
 b2 : W.heap[y2]? = some (.cells #[v, u] 44 (0, 0))
 s : SlA W v s
 d : SlA W u d
 tab : TabT W
theorem XbI.next {w W W' : World} {y2 : Nat} {v u : Value} {s d : List Int} (h : XbI w y2 v u s d W) (hb : Below W.heap.size W W') : XbI w y2 v u s d W' :=
 ⟨h.below.trans (hb.mono h.below.size), block_below h.b2 hb, h.s.below hb, h.d.below hb, h.tab.below hb⟩
set_option maxHeartbeats 16000000 in
theorem topscans_any (w : World) (ht : TabT w) (v u : Value) (s d : List Int) (hs : SlA w v s) (hd : SlA w u d) (f : Nat) (hf : f < 256) :
  Calls Tryz.prog 4 #[.agg #[v, u], .int .u8 (f : Int)] w fun e w' => e = .returned (.bool true) ∧ Below w.heap.size w w' := by
 obtain ⟨va, vc, rfl⟩ := hs.form'
 obtain ⟨ua, uc, rfl⟩ := hd.form'
 have hb0 : Below w.heap.size w (w.alloc (.cells #[.slice va s.length vc, .slice ua d.length uc] 44)) := (Below.refl _ _).alloc (Nat.le_refl _) _
 have hx0 : XbI w w.heap.size (.slice va s.length vc) (.slice ua d.length uc) s d (w.alloc (.cells #[.slice va s.length vc, .slice ua d.length uc] 44)) := ⟨hb0, World.alloc_heap_new _ _, hs.below hb0, hd.below hb0, ht.below hb0⟩
 have HX0 := Lib.hid hx0
 clear hs hd ht hb0 hx0
 go_enter Tryz.func4, Tryz.ntmps4
 go_upto_region 1 with fail
 refine gen_worldA (fun W => XbI w w.heap.size (.slice va s.length vc) (.slice ua d.length uc) s d W) HX0.out ?_
 clear HX0
 generalize w.heap.size = y2
 rintro W hx
 have HX := Lib.hid hx
 have hbg := wbegun_any items_scans (fun _ h => .inl h) (fun _ h => .inr (.inl h)) W hx.tab
 have HBG := Lib.hid hbg
 clear hx hbg
 go_wp2_with (go_at_call 11; fail)
 refine HBG.out.mono ?_
 rintro e w1 ⟨rfl, hb1⟩
 have hx1 := HX.out.next hb1
 have k20 := cell_of_row _ y2 0 _ _ _ hx1.b2
 have k21 := cell_of_row _ y2 1 _ _ _ hx1.b2
 have hfr := wfair_any w1 _ _ s d hx1.s hx1.d
 have HFR := Lib.hid hfr; have HX1 := Lib.hid hx1
 clear hb1 hx1 hfr HX HBG
 dsimp only
 go_upto_region 3 with fail
 go_cut [31] (fun s31 wx => ∃ b, s31 = .bool b ∧ (b = false → right s d = true ∧ s.length ≠ 0 ∧ (d.length = 0 → s.length ≤ 2)) ∧ XbI w y2 (.slice va s.length vc) (.slice ua d.length uc) s d wx)
 case first =>
  cases hr : right s d with
  | false =>
   rw [hr] at HFR
   clear hr
   go_wp2_with (go_at_call 12; refine HFR.out.mono ?_; rintro e w2 ⟨rfl, hb2⟩)
   go_meet
   first | exact ⟨_, rfl, fun e => (by cases e), HX1.out.next hb2⟩ | exact ⟨rfl, fun e => (by cases e), HX1.out.next hb2⟩
  | true =>
   rw [hr] at HFR
   have hs4 := (right_good hr).2.len
   have HR1 := Lib.hid hr
   clear hr
   by_cases h0 : s.length = 0
   ·have q0 : ((s.length : Int) == 0) = true := by simp [h0]
    have H0 := Lib.hid h0
    clear h0
    go_wp2_with (go_at_call 12; refine HFR.out.mono ?_; rintro e w2 ⟨rfl, hb2⟩; have hx2 := HX1.out.next hb2; have j20 := cell_of_row _ y2 0 _ _ _ hx2.b2; have j21 := cell_of_row _ y2 1 _ _ _ hx2.b2; have HX2 := Lib.hid hx2; clear hx2)
    go_meet
    first | exact ⟨_, rfl, fun e => (by cases e), HX2.out⟩ | exact ⟨rfl, fun e => (by cases e), HX2.out⟩
   ·have q0 : ((s.length : Int) == 0) = false := by rw [beq_eq_false_iff_ne]; omega
    have H0 := Lib.hid h0
    clear h0
    by_cases hd0 : d.length = 0
    ·have q1 : ((d.length : Int) == 0) = true := by simp [hd0]
     have HD0 := Lib.hid hd0
     clear hd0
     by_cases hs2 : 2 < s.length
     ·have q2 : decide (2 < (s.length : Int)) = true := decide_eq_true (by omega)
      go_wp2_with (go_at_call 12; refine HFR.out.mono ?_; rintro e w2 ⟨rfl, hb2⟩; have hx2 := HX1.out.next hb2; have j20 := cell_of_row _ y2 0 _ _ _ hx2.b2; have j21 := cell_of_row _ y2 1 _ _ _ hx2.b2; have HX2 := Lib.hid hx2; clear hx2)
      go_meet
      first | exact ⟨_, rfl, fun e => (by cases e), HX2.out⟩ | exact ⟨rfl, fun e => (by cases e), HX2.out⟩
     ·have q2 : decide (2 < (s.length : Int)) = false := decide_eq_false (by omega)
      go_wp2_with (go_at_call 12; refine HFR.out.mono ?_; rintro e w2 ⟨rfl, hb2⟩; have hx2 := HX1.out.next hb2; have j20 := cell_of_row _ y2 0 _ _ _ hx2.b2; have j21 := cell_of_row _ y2 1 _ _ _ hx2.b2; have HX2 := Lib.hid hx2; clear hx2)
      go_meet
      first | exact ⟨_, rfl, fun _ => ⟨HR1.out, H0.out, fun _ => by omega⟩, HX2.out⟩ | exact ⟨rfl, fun _ => ⟨HR1.out, H0.out, fun _ => by omega⟩, HX2.out⟩
    ·have q1 : ((d.length : Int) == 0) = false := by rw [beq_eq_false_iff_ne]; omega
     have HD0 := Lib.hid hd0
     clear hd0
     go_wp2_with (go_at_call 12; refine HFR.out.mono ?_; rintro e w2 ⟨rfl, hb2⟩; have hx2 := HX1.out.next hb2; have j20 := cell_of_row _ y2 0 _ _ _ hx2.b2; have j21 := cell_of_row _ y2 1 _ _ _ hx2.b2; have HX2 := Lib.hid hx2; clear hx2)
     go_meet
     first | exact ⟨_, rfl, fun _ => ⟨HR1.out, H0.out, fun e => absurd e HD0.out⟩, HX2.out⟩ | exact ⟨rfl, fun _ => ⟨HR1.out, H0.out, fun e => absurd e HD0.out⟩, HX2.out⟩
 case rest =>
  clear HX1 HFR k20 k21
  obtain ⟨b, rfl, hbf, hx⟩ := hcut
  cases b with
  | true =>
   have HX := Lib.hid hx
   clear hx hbf
   go_wp2_with fail
   go_ret
   exact ⟨rfl, HX.out.below⟩
  | false =>
   obtain ⟨hr, hs0, hd0⟩ := hbf rfl
   have HX := Lib.hid hx; have HR := Lib.hid hr; have HS0 := Lib.hid hs0; have HD0 := Lib.hid hd0
   clear hx hbf hr hs0 hd0
   go_upto_region 5 with fail
   obtain ⟨lx, hlx⟩ := lane_facts HR.out
   have hsd := (right_good HR.out).2
   have hdi : ∀ x ∈ d, In64 x := by obtain ⟨_, _, _, _, _, _, _, h⟩ := HX.out.d; exact h
   have hev := scan_eval (vFn_four f) HR.out hdi hlx HS0.out HD0.out
   have hin : ∀ W', XbI w y2 (.slice va s.length vc) (.slice ua d.length uc) s d W' → Calls Tryz.prog 14 #[.string ⟨#[120]⟩, .slice va s.length vc] W' fun e w' => e = .returned (.string (str (inputX s))) ∧ Below W'.heap.size W' w' := fun W' h => winput_any W' _ s h.s hsd.len hsd.side
   have hvb : ∀ W', XbI w y2 (.slice va s.length vc) (.slice ua d.length uc) s d W' → Calls Tryz.prog 15 #[.int .u8 (f : Int)] W' fun e w' => e = .returned (.string (str (fourW (vFn f)))) ∧ Below W'.heap.size W' w' := fun W' _ => wverb_any W' f hf
   have hxl := inputX_len hsd.len hsd.side
   have htx : (scanT (vFn f) s).text2 LL = ((((inputX s ++ [121, 58, 32]) ++ fourW (vFn f)) ++ [92, 32, 120, 10, 111, 117, 116, 32]) ++ fourW (vFn f)) ++ [47, 32, 120] := by
    rw [scan_text (vFn_four f) s]
    simp
   have hvl : (fourW (vFn f)).length ≤ 3 := by rcases vFn_four f with h | h | h | h <;> rw [h] <;> decide
   have hal : ∀ a ∈ [(s, scanD (vFn f) lx), (s.dropLast, foldD (vFn f) s lx)], a.1.length ≤ 1048576 ∧ a.2.length ≤ 1048576 := by
    have h1 := scanD_len (vFn f) lx
    rw [hlx.flat] at h1
    have h2 := right_lenM HR.out
    have h3 := foldD_len (f := vFn f) HR.out hlx HS0.out HD0.out
    intro a ha
    simp only [List.mem_cons, List.not_mem_nil, or_false] at ha
    have h4 := hsd.len
    have h5 := List.length_dropLast (xs := s)
    rcases ha with rfl | rfl <;> dsimp only <;> omega
   have hmn : ∀ W' G, XbI w y2 (.slice va s.length vc) (.slice ua d.length uc) s d W' → W'.heap[G]? = some (.cells #[.slice va s.length vc, .slice ua d.length uc] 44 (0, 0)) →
     Calls Tryz.prog 13 #[.string (str (((((inputX s ++ [121, 58, 32]) ++ fourW (vFn f)) ++ [92, 32, 120, 10, 111, 117, 116, 32]) ++ fourW (vFn f)) ++ [47, 32, 120])), .slice (some ⟨G, 0, none⟩) 1 1] W' fun e w' => ∃ v B0, e = .returned (.tuple #[v, .bool true]) ∧ W'.heap.size ≤ B0 ∧ StkI B0 B0 w' v [(s, scanD (vFn f) lx), (s.dropLast, foldD (vFn f) s lx)] ∧ Below W'.heap.size W' w' := fun W' G h hG =>
    wmeans_any items_scans W' h.tab (scanT (vFn f) s) (scan_fine (vFn_four f) hsd.len hsd.side) s d rfl _ htx (by simp only [List.length_append, List.length_cons, List.length_nil]; omega) G 0 1 _ _ (cell_of_row _ G 0 _ _ _ hG) (cell_of_row _ G 1 _ _ _ hG) h.s h.d HR.out _ hev hal (show (2 : Nat) ≤ 64 by decide) (scan_items _ _)
   have HLX := Lib.hid hlx
   clear hev htx hal hdi
   generalize hA : scanD (vFn f) lx = A at hmn
   generalize hF : foldD (vFn f) s lx = F at hmn
   generalize inputX s = X1 at hin hmn hxl
   generalize fourW (vFn f) = VB at hvb hmn hvl
   obtain ⟨S1, hS1⟩ : ∃ S, X1 ++ [121, 58, 32] = S := ⟨_, rfl⟩
   have hl1 : S1.length ≤ 43 := by rw [← hS1]; simp; omega
   obtain ⟨S2, hS2⟩ : ∃ S, S1 ++ VB = S := ⟨_, rfl⟩
   have hl2 : S2.length ≤ 46 := by rw [← hS2]; simp; omega
   obtain ⟨S3, hS3⟩ : ∃ S, S2 ++ [92, 32, 120, 10, 111, 117, 116, 32] = S := ⟨_, rfl⟩
   have hl3 : S3.length ≤ 54 := by rw [← hS3]; simp; omega
   obtain ⟨S4, hS4⟩ : ∃ S, S3 ++ VB = S := ⟨_, rfl⟩
   have hl4 : S4.length ≤ 57 := by rw [← hS4]; simp; omega
   obtain ⟨S5, hS5⟩ : ∃ S, S4 ++ [47, 32, 120] = S := ⟨_, rfl⟩
   rw [hS1, hS2, hS3, hS4, hS5] at hmn
   have HS1 := Lib.hid hS1; have HS2 := Lib.hid hS2; have HS3 := Lib.hid hS3; have HS4 := Lib.hid hS4; have HS5 := Lib.hid hS5
   clear hS1 hS2 hS3 hS4 hS5
   have HA := Lib.hid hA; have HF := Lib.hid hF; have HIN := Lib.hid hin; have HVB := Lib.hid hvb; have HMN := Lib.hid hmn
   clear hA hF hlx hin hvb hmn hsd
   go_cut [5, 6] (fun s5 s6 wx => ∃ a n c B0, s5 = .slice a n c ∧ s6 = .bool true ∧ XbI w y2 (.slice va s.length vc) (.slice ua d.length uc) s d wx ∧ StkI B0 B0 wx (.slice a n c) [(s, A), (s.dropLast, F)])
   case first =>
    refine wp_region_Z (S := (fun W' : World => W'.cell? ⟨y2, 0, none⟩ = some (.slice va s.length vc) ∧ W'.cell? ⟨y2, 1, none⟩ = some (.slice ua d.length uc))) (z := 19) (by kernel_rfl) ?_
    have HX0 := Lib.hid (HX.out.next ((Below.refl _ wc).drew))
    clear HX
    generalize wc.drew = W0 at HX0 ⊢
    have hSS : (fun W' : World => W'.cell? ⟨y2, 0, none⟩ = some (.slice va s.length vc) ∧ W'.cell? ⟨y2, 1, none⟩ = some (.slice ua d.length uc)) W0 := ⟨cell_of_row _ y2 0 _ _ _ HX0.out.b2, cell_of_row _ y2 1 _ _ _ HX0.out.b2⟩
    refine wpAnyZ_take (i := 0) (v := ?_) rfl (by kernel_rfl) (by kernel_rfl) (by kernel_rfl) (fun _ _ _ h => h) (by kernel_rfl) (Or.inl ⟨by rfl, ?_⟩) (by assumption) ?_
    rotate_left
    ·intro w' hSw
     try dsimp only at hSw
     try obtain ⟨hSw, hSw2⟩ := hSw
     go_simp
     try with_reducible rfl
    show wpAnyZ _ _ _ _ _ _ _ _ (Act.put _ (some 33) _) _
    simp only [Act.put, List.setIfInBounds_toArray, List.set_cons_zero, List.set_cons_succ]
    refine wpAnyZ_take (i := 1) (v := ?_) rfl (by kernel_rfl) (by kernel_rfl) (by kernel_rfl) (fun _ _ _ h => h) (by kernel_rfl) (Or.inl ⟨by rfl, ?_⟩) (by assumption) ?_
    rotate_left
    ·intro w' hSw
     try dsimp only at hSw
     try obtain ⟨hSw, hSw2⟩ := hSw
     go_simp
     try with_reducible rfl
    show wpAnyZ _ _ _ _ _ _ _ _ (Act.put _ (some 34) _) _
    simp only [Act.put, List.setIfInBounds_toArray, List.set_cons_zero, List.set_cons_succ]
    refine wpAnyZ_take (i := 4) (v := ?_) rfl (by kernel_rfl) (by kernel_rfl) (by kernel_rfl) (fun _ _ _ h => h) (by kernel_rfl) (Or.inl ⟨by rfl, ?_⟩) (by assumption) ?_
    rotate_left
    ·intro w' hSw
     try dsimp only at hSw
     try obtain ⟨hSw, hSw2⟩ := hSw
     go_simp
     try with_reducible rfl
    show wpAnyZ _ _ _ _ _ _ _ _ (Act.put _ (some 37) _) _
    simp only [Act.put, List.setIfInBounds_toArray, List.set_cons_zero, List.set_cons_succ]
    refine wpAnyZ_take (i := 8) (v := ?_) rfl (by kernel_rfl) (by kernel_rfl) (by kernel_rfl) (fun _ _ _ h => h) (by kernel_rfl) (Or.inl ⟨by rfl, ?_⟩) (by assumption) ?_
    rotate_left
    ·intro w' hSw
     try dsimp only at hSw
     try obtain ⟨hSw, hSw2⟩ := hSw
     go_simp
     try with_reducible rfl
    show wpAnyZ _ _ _ _ _ _ _ _ (Act.put _ (some 41) _) _
    simp only [Act.put, List.setIfInBounds_toArray, List.set_cons_zero, List.set_cons_succ]
    refine wpAnyZ_take (i := 12) (v := ?_) rfl (by kernel_rfl) (by kernel_rfl) (by kernel_rfl) (fun _ _ _ h => h) (by kernel_rfl) (Or.inl ⟨by rfl, ?_⟩) (by assumption) ?_
    rotate_left
    ·intro w' hSw
     try dsimp only at hSw
     try obtain ⟨hSw, hSw2⟩ := hSw
     go_simp
     try with_reducible rfl
    show wpAnyZ _ _ _ _ _ _ _ _ (Act.put _ (some 45) _) _
    simp only [Act.put, List.setIfInBounds_toArray, List.set_cons_zero, List.set_cons_succ]
    clear hSS
    -- <R5
    refine wpAnyZ_twoG (i := 2) (j := 13) (by kernel_rfl) rfl rfl (by rfl) (by rfl) (fun K hK => ?_) (fun K hK => ?_)
    ·skip
     go_simp
     refine (HIN.out W0 HX0.out).mono ?_
     rintro e w1x ⟨rfl, hb1⟩
     have hx1 := HX0.out.next hb1
     have hSS : (fun W' : World => W'.cell? ⟨y2, 0, none⟩ = some (.slice va s.length vc) ∧ W'.cell? ⟨y2, 1, none⟩ = some (.slice ua d.length uc)) w1x := ⟨cell_of_row _ y2 0 _ _ _ hx1.b2, cell_of_row _ y2 1 _ _ _ hx1.b2⟩
     show K _ w1x
     refine hK.out _ _ (.inr hSS) ?_
     have HX1 := Lib.hid hx1
     clear hK hb1 hx1 HX0
     refine wpAnyZ_take (i := 3) (v := .string (str S1)) rfl (by kernel_rfl) (by kernel_rfl) (by kernel_rfl) (fun _ _ _ h => h) (by kernel_rfl) (Or.inl ⟨by rfl, ?_⟩) (by assumption) ?_
     ·intro w' hSw
      clear hSw
      go_simp
      try rw [if_neg (by (try simp only [List.length_append, List.length_cons, List.length_nil]); omega)]
      try rw [show (⟨#[121, 58, 32]⟩ : ByteArray) = str [121, 58, 32] from rfl, str_append]
      rw [HS1.out]
     show wpAnyZ _ _ _ _ _ _ _ _ (Act.put _ (some 36) _) _
     simp only [Act.put, List.setIfInBounds_toArray, List.set_cons_zero, List.set_cons_succ]
     clear hSS
     refine wpAnyZ_twoG (i := 5) (j := 13) (by kernel_rfl) rfl rfl (by rfl) (by rfl) (fun K hK => ?_) (fun K hK => ?_)
     ·skip
      go_simp
      refine (HVB.out w1x HX1.out).mono ?_
      rintro e w2x ⟨rfl, hb2⟩
      have hx2 := HX1.out.next hb2
      have hSS : (fun W' : World => W'.cell? ⟨y2, 0, none⟩ = some (.slice va s.length vc) ∧ W'.cell? ⟨y2, 1, none⟩ = some (.slice ua d.length uc)) w2x := ⟨cell_of_row _ y2 0 _ _ _ hx2.b2, cell_of_row _ y2 1 _ _ _ hx2.b2⟩
      show K _ w2x
      refine hK.out _ _ (.inr hSS) ?_
      have HX2 := Lib.hid hx2
      clear hK hb2 hx2 HX1
      refine wpAnyZ_take (i := 6) (v := .string (str S2)) rfl (by kernel_rfl) (by kernel_rfl) (by kernel_rfl) (fun _ _ _ h => h) (by kernel_rfl) (Or.inl ⟨by rfl, ?_⟩) (by assumption) ?_
      ·intro w' hSw
       clear hSw
       go_simp
       try rw [if_neg (by (try simp only [List.length_append, List.length_cons, List.length_nil]); omega)]
       try rw [str_append]
       rw [HS2.out]
      show wpAnyZ _ _ _ _ _ _ _ _ (Act.put _ (some 39) _) _
      simp only [Act.put, List.setIfInBounds_toArray, List.set_cons_zero, List.set_cons_succ]
      refine wpAnyZ_take (i := 7) (v := .string (str S3)) rfl (by kernel_rfl) (by kernel_rfl) (by kernel_rfl) (fun _ _ _ h => h) (by kernel_rfl) (Or.inl ⟨by rfl, ?_⟩) (by assumption) ?_
      ·intro w' hSw
       clear hSw
       go_simp
       try rw [if_neg (by (try simp only [List.length_append, List.length_cons, List.length_nil]); omega)]
       try rw [show (⟨#[92, 32, 120, 10, 111, 117, 116, 32]⟩ : ByteArray) = str [92, 32, 120, 10, 111, 117, 116, 32] from rfl, str_append]
       rw [HS3.out]
      show wpAnyZ _ _ _ _ _ _ _ _ (Act.put _ (some 40) _) _
      simp only [Act.put, List.setIfInBounds_toArray, List.set_cons_zero, List.set_cons_succ]
      clear hSS
      refine wpAnyZ_twoG (i := 9) (j := 13) (by kernel_rfl) rfl rfl (by rfl) (by rfl) (fun K hK => ?_) (fun K hK => ?_)
      ·skip
       go_simp
       refine (HVB.out w2x HX2.out).mono ?_
       rintro e w3x ⟨rfl, hb3⟩
       have hx3 := HX2.out.next hb3
       have hSS : (fun W' : World => W'.cell? ⟨y2, 0, none⟩ = some (.slice va s.length vc) ∧ W'.cell? ⟨y2, 1, none⟩ = some (.slice ua d.length uc)) w3x := ⟨cell_of_row _ y2 0 _ _ _ hx3.b2, cell_of_row _ y2 1 _ _ _ hx3.b2⟩
       show K _ w3x
       refine hK.out _ _ (.inr hSS) ?_
       have HX3 := Lib.hid hx3
       clear hK hb3 hx3 HX2
       refine wpAnyZ_take (i := 10) (v := .string (str S4)) rfl (by kernel_rfl) (by kernel_rfl) (by kernel_rfl) (fun _ _ _ h => h) (by kernel_rfl) (Or.inl ⟨by rfl, ?_⟩) (by assumption) ?_
       ·intro w' hSw
        clear hSw
        go_simp
        try rw [if_neg (by (try simp only [List.length_append, List.length_cons, List.length_nil]); omega)]
        try rw [str_append]
        rw [HS4.out]
       show wpAnyZ _ _ _ _ _ _ _ _ (Act.put _ (some 43) _) _
       simp only [Act.put, List.setIfInBounds_toArray, List.set_cons_zero, List.set_cons_succ]
       refine wpAnyZ_take (i := 11) (v := .string (str S5)) rfl (by kernel_rfl) (by kernel_rfl) (by kernel_rfl) (fun _ _ _ h => h) (by kernel_rfl) (Or.inl ⟨by rfl, ?_⟩) (by assumption) ?_
       ·intro w' hSw
        clear hSw
        go_simp
        try rw [if_neg (by (try simp only [List.length_append, List.length_cons, List.length_nil]); omega)]
        try rw [show (⟨#[47, 32, 120]⟩ : ByteArray) = str [47, 32, 120] from rfl, str_append]
        rw [HS5.out]
       show wpAnyZ _ _ _ _ _ _ _ _ (Act.put _ (some 44) _) _
       simp only [Act.put, List.setIfInBounds_toArray, List.set_cons_zero, List.set_cons_succ]
       clear hSS
       refine wpAnyZ_oneG (i := 13) (by kernel_rfl) rfl (by rfl) (fun K hK => ?_)
       go_simp
       have hb4 : Below w3x.heap.size w3x (w3x.alloc (.cells #[.slice va s.length vc, .slice ua d.length uc] 44)) := (Below.refl _ _).alloc (Nat.le_refl _) _
       have hx4 := HX3.out.next hb4
       have hg4 := World.alloc_heap_new w3x (.cells #[.slice va s.length vc, .slice ua d.length uc] 44)
       have hSS : (fun W' : World => W'.cell? ⟨y2, 0, none⟩ = some (.slice va s.length vc) ∧ W'.cell? ⟨y2, 1, none⟩ = some (.slice ua d.length uc)) (w3x.alloc (.cells #[.slice va s.length vc, .slice ua d.length uc] 44)) := ⟨cell_of_row _ y2 0 _ _ _ hx4.b2, cell_of_row _ y2 1 _ _ _ hx4.b2⟩
       refine hK.out _ _ (.inr hSS) ?_
       have HX4 := Lib.hid hx4; have HG4 := Lib.hid hg4
       clear hK hSS hb4 hx4 hg4 HX3
       generalize w3x.alloc (.cells #[.slice va s.length vc, .slice ua d.length uc] 44) = w4x at HX4 HG4 ⊢
       generalize w3x.heap.size = g4 at HG4 ⊢
       refine wpAnyZ_oneG (i := 14) (by kernel_rfl) rfl (by rfl) (fun K hK => ?_)
       go_simp
       refine (HMN.out w4x _ HX4.out HG4.out).mono ?_
       rintro e wz ⟨vz, Bz, rfl, hBz, hsz, hbz⟩
       have hxz := HX4.out.next hbz
       have hSS : (fun W' : World => W'.cell? ⟨y2, 0, none⟩ = some (.slice va s.length vc) ∧ W'.cell? ⟨y2, 1, none⟩ = some (.slice ua d.length uc)) wz := ⟨cell_of_row _ y2 0 _ _ _ hxz.b2, cell_of_row _ y2 1 _ _ _ hxz.b2⟩
       show K _ wz
       refine hK.out _ _ (.inr hSS) ?_
       obtain ⟨az, nz, cz, rfl⟩ : ∃ a n c, vz = .slice a n c := by obtain ⟨a, c, e⟩ := hsz.form; exact ⟨_, _, _, e⟩
       have HXZ := Lib.hid hxz; have HSZ := Lib.hid hsz
       clear hK hbz hxz hsz HX4 HG4
       refine wpAnyZ_take (i := 15) (v := ?_) rfl (by kernel_rfl) (by kernel_rfl) (by kernel_rfl) (fun _ _ _ h => h) (by kernel_rfl) (Or.inl ⟨by rfl, ?_⟩) (by assumption) ?_
       rotate_left
       ·intro w' hSw
        try dsimp only at hSw
        try obtain ⟨hSw, hSw2⟩ := hSw
        go_simp
        try with_reducible rfl
       show wpAnyZ _ _ _ _ _ _ _ _ (Act.put _ (some 32) _) _
       simp only [Act.put, List.setIfInBounds_toArray, List.set_cons_zero, List.set_cons_succ]
       refine wpAnyZ_take (i := 16) (v := ?_) rfl (by kernel_rfl) (by kernel_rfl) (by kernel_rfl) (fun _ _ _ h => h) (by kernel_rfl) (Or.inl ⟨by rfl, ?_⟩) (by assumption) ?_
       rotate_left
       ·intro w' hSw
        try dsimp only at hSw
        try obtain ⟨hSw, hSw2⟩ := hSw
        go_simp
        try with_reducible rfl
       show wpAnyZ _ _ _ _ _ _ _ _ (Act.put _ (some 48) _) _
       simp only [Act.put, List.setIfInBounds_toArray, List.set_cons_zero, List.set_cons_succ]
       refine wpAnyZ_take (i := 17) (v := ?_) rfl (by kernel_rfl) (by kernel_rfl) (by kernel_rfl) (fun _ _ _ h => h) (by kernel_rfl) (Or.inl ⟨by rfl, ?_⟩) (by assumption) ?_
       rotate_left
       ·intro w' hSw
        try dsimp only at hSw
        try obtain ⟨hSw, hSw2⟩ := hSw
        go_simp
        try with_reducible rfl
       show wpAnyZ _ _ _ _ _ _ _ _ (Act.put _ (some 49) _) _
       simp only [Act.put, List.setIfInBounds_toArray, List.set_cons_zero, List.set_cons_succ]
       clear hSS
       refine wpAnyZ_oneG (i := 18) (by kernel_rfl) rfl (by rfl) (fun K hK => ?_)
       go_simp
       refine hK.out _ _ (.inr ⟨cell_of_row _ y2 0 _ _ _ HXZ.out.b2, cell_of_row _ y2 1 _ _ _ HXZ.out.b2⟩) ?_
       clear hK
       refine wpAnyZ_oneG (i := 19) (by kernel_rfl) rfl (by rfl) (fun K hK => ?_)
       go_simp
       refine hK.out _ _ (.inl (by omega)) ?_
       clear hK
       refine wpAnyZ_done (by kernel_rfl) ?_ _
       go_wp2_with fail
       go_meet
       first | exact ⟨az, nz, cz, Bz, rfl, rfl, HXZ.out, HSZ.out⟩ | exact ⟨az, nz, cz, ⟨rfl, rfl, rfl⟩, HXZ.out, Bz, HSZ.out⟩
      ·skip
       go_simp
       have hb5 : Below w2x.heap.size w2x (w2x.alloc (.cells #[.slice va s.length vc, .slice ua d.length uc] 44)) := (Below.refl _ _).alloc (Nat.le_refl _) _
       have hx5 := HX2.out.next hb5
       have hg5 := World.alloc_heap_new w2x (.cells #[.slice va s.length vc, .slice ua d.length uc] 44)
       have hSS : (fun W' : World => W'.cell? ⟨y2, 0, none⟩ = some (.slice va s.length vc) ∧ W'.cell? ⟨y2, 1, none⟩ = some (.slice ua d.length uc)) (w2x.alloc (.cells #[.slice va s.length vc, .slice ua d.length uc] 44)) := ⟨cell_of_row _ y2 0 _ _ _ hx5.b2, cell_of_row _ y2 1 _ _ _ hx5.b2⟩
       refine hK.out _ _ (.inr hSS) ?_
       have HX5 := Lib.hid hx5; have HG5 := Lib.hid hg5
       clear hK hSS hb5 hx5 hg5 HX2
       generalize w2x.alloc (.cells #[.slice va s.length vc, .slice ua d.length uc] 44) = w5x at HX5 HG5 ⊢
       generalize w2x.heap.size = g5 at HG5 ⊢
       refine wpAnyZ_oneG (i := 9) (by kernel_rfl) rfl (by rfl) (fun K hK => ?_)
       go_simp
       refine (HVB.out w5x HX5.out).mono ?_
       rintro e w6x ⟨rfl, hb6⟩
       have hx6 := HX5.out.next hb6
       have hSS : (fun W' : World => W'.cell? ⟨y2, 0, none⟩ = some (.slice va s.length vc) ∧ W'.cell? ⟨y2, 1, none⟩ = some (.slice ua d.length uc)) w6x := ⟨cell_of_row _ y2 0 _ _ _ hx6.b2, cell_of_row _ y2 1 _ _ _ hx6.b2⟩
       show K _ w6x
       refine hK.out _ _ (.inr hSS) ?_
       have HX6 := Lib.hid hx6
       have HG6 := Lib.hid (block_below HG5.out hb6)
       clear HG5
       clear hK hb6 hx6 HX5
       refine wpAnyZ_take (i := 10) (v := .string (str S4)) rfl (by kernel_rfl) (by kernel_rfl) (by kernel_rfl) (fun _ _ _ h => h) (by kernel_rfl) (Or.inl ⟨by rfl, ?_⟩) (by assumption) ?_
       ·intro w' hSw
        clear hSw
        go_simp
        try rw [if_neg (by (try simp only [List.length_append, List.length_cons, List.length_nil]); omega)]
        try rw [str_append]
        rw [HS4.out]
       show wpAnyZ _ _ _ _ _ _ _ _ (Act.put _ (some 43) _) _
       simp only [Act.put, List.setIfInBounds_toArray, List.set_cons_zero, List.set_cons_succ]
       refine wpAnyZ_take (i := 11) (v := .string (str S5)) rfl (by kernel_rfl) (by kernel_rfl) (by kernel_rfl) (fun _ _ _ h => h) (by kernel_rfl) (Or.inl ⟨by rfl, ?_⟩) (by assumption) ?_
       ·intro w' hSw
        clear hSw
        go_simp
        try rw [if_neg (by (try simp only [List.length_append, List.length_cons, List.length_nil]); omega)]
        try rw [show (⟨#[47, 32, 120]⟩ : ByteArray) = str [47, 32, 120] from rfl, str_append]
        rw [HS5.out]
       show wpAnyZ _ _ _ _ _ _ _ _ (Act.put _ (some 44) _) _
       simp only [Act.put, List.setIfInBounds_toArray, List.set_cons_zero, List.set_cons_succ]
       clear hSS
       refine wpAnyZ_oneG (i := 14) (by kernel_rfl) rfl (by rfl) (fun K hK => ?_)
       go_simp
       refine (HMN.out w6x _ HX6.out HG6.out).mono ?_
       rintro e wz ⟨vz, Bz, rfl, hBz, hsz, hbz⟩
       have hxz := HX6.out.next hbz
       have hSS : (fun W' : World => W'.cell? ⟨y2, 0, none⟩ = some (.slice va s.length vc) ∧ W'.cell? ⟨y2, 1, none⟩ = some (.slice ua d.length uc)) wz := ⟨cell_of_row _ y2 0 _ _ _ hxz.b2, cell_of_row _ y2 1 _ _ _ hxz.b2⟩
       show K _ wz
       refine hK.out _ _ (.inr hSS) ?_
       obtain ⟨az, nz, cz, rfl⟩ : ∃ a n c, vz = .slice a n c := by obtain ⟨a, c, e⟩ := hsz.form; exact ⟨_, _, _, e⟩
       have HXZ := Lib.hid hxz; have HSZ := Lib.hid hsz
       clear hK hbz hxz hsz HX6 HG6
       refine wpAnyZ_take (i := 15) (v := ?_) rfl (by kernel_rfl) (by kernel_rfl) (by kernel_rfl) (fun _ _ _ h => h) (by kernel_rfl) (Or.inl ⟨by rfl, ?_⟩) (by assumption) ?_
       rotate_left
       ·intro w' hSw
        try dsimp only at hSw
        try obtain ⟨hSw, hSw2⟩ := hSw
        go_simp
        try with_reducible rfl
       show wpAnyZ _ _ _ _ _ _ _ _ (Act.put _ (some 32) _) _
       simp only [Act.put, List.setIfInBounds_toArray, List.set_cons_zero, List.set_cons_succ]
       refine wpAnyZ_take (i := 16) (v := ?_) rfl (by kernel_rfl) (by kernel_rfl) (by kernel_rfl) (fun _ _ _ h => h) (by kernel_rfl) (Or.inl ⟨by rfl, ?_⟩) (by assumption) ?_
       rotate_left
       ·intro w' hSw
        try dsimp only at hSw
        try obtain ⟨hSw, hSw2⟩ := hSw
        go_simp
        try with_reducible rfl
       show wpAnyZ _ _ _ _ _ _ _ _ (Act.put _ (some 48) _) _
       simp only [Act.put, List.setIfInBounds_toArray, List.set_cons_zero, List.set_cons_succ]
       refine wpAnyZ_take (i := 17) (v := ?_) rfl (by kernel_rfl) (by kernel_rfl) (by kernel_rfl) (fun _ _ _ h => h) (by kernel_rfl) (Or.inl ⟨by rfl, ?_⟩) (by assumption) ?_
       rotate_left
       ·intro w' hSw
        try dsimp only at hSw
        try obtain ⟨hSw, hSw2⟩ := hSw
        go_simp
        try with_reducible rfl
       show wpAnyZ _ _ _ _ _ _ _ _ (Act.put _ (some 49) _) _
       simp only [Act.put, List.setIfInBounds_toArray, List.set_cons_zero, List.set_cons_succ]
       clear hSS
       refine wpAnyZ_oneG (i := 18) (by kernel_rfl) rfl (by rfl) (fun K hK => ?_)
       go_simp
       refine hK.out _ _ (.inr ⟨cell_of_row _ y2 0 _ _ _ HXZ.out.b2, cell_of_row _ y2 1 _ _ _ HXZ.out.b2⟩) ?_
       clear hK
       refine wpAnyZ_oneG (i := 19) (by kernel_rfl) rfl (by rfl) (fun K hK => ?_)
       go_simp
       refine hK.out _ _ (.inl (by omega)) ?_
       clear hK
       refine wpAnyZ_done (by kernel_rfl) ?_ _
       go_wp2_with fail
       go_meet
       first | exact ⟨az, nz, cz, Bz, rfl, rfl, HXZ.out, HSZ.out⟩ | exact ⟨az, nz, cz, ⟨rfl, rfl, rfl⟩, HXZ.out, Bz, HSZ.out⟩
     ·skip
      go_simp
      have hb7 : Below w1x.heap.size w1x (w1x.alloc (.cells #[.slice va s.length vc, .slice ua d.length uc] 44)) := (Below.refl _ _).alloc (Nat.le_refl _) _
      have hx7 := HX1.out.next hb7
      have hg7 := World.alloc_heap_new w1x (.cells #[.slice va s.length vc, .slice ua d.length uc] 44)
      have hSS : (fun W' : World => W'.cell? ⟨y2, 0, none⟩ = some (.slice va s.length vc) ∧ W'.cell? ⟨y2, 1, none⟩ = some (.slice ua d.length uc)) (w1x.alloc (.cells #[.slice va s.length vc, .slice ua d.length uc] 44)) := ⟨cell_of_row _ y2 0 _ _ _ hx7.b2, cell_of_row _ y2 1 _ _ _ hx7.b2⟩
      refine hK.out _ _ (.inr hSS) ?_
      have HX7 := Lib.hid hx7; have HG7 := Lib.hid hg7
      clear hK hSS hb7 hx7 hg7 HX1
      generalize w1x.alloc (.cells #[.slice va s.length vc, .slice ua d.length uc] 44) = w7x at HX7 HG7 ⊢
      generalize w1x.heap.size = g7 at HG7 ⊢
      refine wpAnyZ_oneG (i := 5) (by kernel_rfl) rfl (by rfl) (fun K hK => ?_)
      go_simp
      refine (HVB.out w7x HX7.out).mono ?_
      rintro e w8x ⟨rfl, hb8⟩
      have hx8 := HX7.out.next hb8
      have hSS : (fun W' : World => W'.cell? ⟨y2, 0, none⟩ = some (.slice va s.length vc) ∧ W'.cell? ⟨y2, 1, none⟩ = some (.slice ua d.length uc)) w8x := ⟨cell_of_row _ y2 0 _ _ _ hx8.b2, cell_of_row _ y2 1 _ _ _ hx8.b2⟩
      show K _ w8x
      refine hK.out _ _ (.inr hSS) ?_
      have HX8 := Lib.hid hx8
      have HG8 := Lib.hid (block_below HG7.out hb8)
      clear HG7
      clear hK hb8 hx8 HX7
      refine wpAnyZ_take (i := 6) (v := .string (str S2)) rfl (by kernel_rfl) (by kernel_rfl) (by kernel_rfl) (fun _ _ _ h => h) (by kernel_rfl) (Or.inl ⟨by rfl, ?_⟩) (by assumption) ?_
      ·intro w' hSw
       clear hSw
       go_simp
       try rw [if_neg (by (try simp only [List.length_append, List.length_cons, List.length_nil]); omega)]
       try rw [str_append]
       rw [HS2.out]
      show wpAnyZ _ _ _ _ _ _ _ _ (Act.put _ (some 39) _) _
      simp only [Act.put, List.setIfInBounds_toArray, List.set_cons_zero, List.set_cons_succ]
      refine wpAnyZ_take (i := 7) (v := .string (str S3)) rfl (by kernel_rfl) (by kernel_rfl) (by kernel_rfl) (fun _ _ _ h => h) (by kernel_rfl) (Or.inl ⟨by rfl, ?_⟩) (by assumption) ?_
      ·intro w' hSw
       clear hSw
       go_simp
       try rw [if_neg (by (try simp only [List.length_append, List.length_cons, List.length_nil]); omega)]
       try rw [show (⟨#[92, 32, 120, 10, 111, 117, 116, 32]⟩ : ByteArray) = str [92, 32, 120, 10, 111, 117, 116, 32] from rfl, str_append]
       rw [HS3.out]
      show wpAnyZ _ _ _ _ _ _ _ _ (Act.put _ (some 40) _) _
      simp only [Act.put, List.setIfInBounds_toArray, List.set_cons_zero, List.set_cons_succ]
      clear hSS
      refine wpAnyZ_oneG (i := 9) (by kernel_rfl) rfl (by rfl) (fun K hK => ?_)
      go_simp
      refine (HVB.out w8x HX8.out).mono ?_
      rintro e w9x ⟨rfl, hb9⟩
      have hx9 := HX8.out.next hb9
      have hSS : (fun W' : World => W'.cell? ⟨y2, 0, none⟩ = some (.slice va s.length vc) ∧ W'.cell? ⟨y2, 1, none⟩ = some (.slice ua d.length uc)) w9x := ⟨cell_of_row _ y2 0 _ _ _ hx9.b2, cell_of_row _ y2 1 _ _ _ hx9.b2⟩
      show K _ w9x
      refine hK.out _ _ (.inr hSS) ?_
      have HX9 := Lib.hid hx9
      have HG9 := Lib.hid (block_below HG8.out hb9)
      clear HG8
      clear hK hb9 hx9 HX8
      refine wpAnyZ_take (i := 10) (v := .string (str S4)) rfl (by kernel_rfl) (by kernel_rfl) (by kernel_rfl) (fun _ _ _ h => h) (by kernel_rfl) (Or.inl ⟨by rfl, ?_⟩) (by assumption) ?_
      ·intro w' hSw
       clear hSw
       go_simp
       try rw [if_neg (by (try simp only [List.length_append, List.length_cons, List.length_nil]); omega)]
       try rw [str_append]
       rw [HS4.out]
      show wpAnyZ _ _ _ _ _ _ _ _ (Act.put _ (some 43) _) _
      simp only [Act.put, List.setIfInBounds_toArray, List.set_cons_zero, List.set_cons_succ]
      refine wpAnyZ_take (i := 11) (v := .string (str S5)) rfl (by kernel_rfl) (by kernel_rfl) (by kernel_rfl) (fun _ _ _ h => h) (by kernel_rfl) (Or.inl ⟨by rfl, ?_⟩) (by assumption) ?_
      ·intro w' hSw
       clear hSw
       go_simp
       try rw [if_neg (by (try simp only [List.length_append, List.length_cons, List.length_nil]); omega)]
       try rw [show (⟨#[47, 32, 120]⟩ : ByteArray) = str [47, 32, 120] from rfl, str_append]
       rw [HS5.out]
      show wpAnyZ _ _ _ _ _ _ _ _ (Act.put _ (some 44) _) _
      simp only [Act.put, List.setIfInBounds_toArray, List.set_cons_zero, List.set_cons_succ]
      clear hSS
      refine wpAnyZ_oneG (i := 14) (by kernel_rfl) rfl (by rfl) (fun K hK => ?_)
      go_simp
      refine (HMN.out w9x _ HX9.out HG9.out).mono ?_
      rintro e wz ⟨vz, Bz, rfl, hBz, hsz, hbz⟩
      have hxz := HX9.out.next hbz
      have hSS : (fun W' : World => W'.cell? ⟨y2, 0, none⟩ = some (.slice va s.length vc) ∧ W'.cell? ⟨y2, 1, none⟩ = some (.slice ua d.length uc)) wz := ⟨cell_of_row _ y2 0 _ _ _ hxz.b2, cell_of_row _ y2 1 _ _ _ hxz.b2⟩
      show K _ wz
      refine hK.out _ _ (.inr hSS) ?_
      obtain ⟨az, nz, cz, rfl⟩ : ∃ a n c, vz = .slice a n c := by obtain ⟨a, c, e⟩ := hsz.form; exact ⟨_, _, _, e⟩
      have HXZ := Lib.hid hxz; have HSZ := Lib.hid hsz
      clear hK hbz hxz hsz HX9 HG9
      refine wpAnyZ_take (i := 15) (v := ?_) rfl (by kernel_rfl) (by kernel_rfl) (by kernel_rfl) (fun _ _ _ h => h) (by kernel_rfl) (Or.inl ⟨by rfl, ?_⟩) (by assumption) ?_
      rotate_left
      ·intro w' hSw
       try dsimp only at hSw
       try obtain ⟨hSw, hSw2⟩ := hSw
       go_simp
       try with_reducible rfl
      show wpAnyZ _ _ _ _ _ _ _ _ (Act.put _ (some 32) _) _
      simp only [Act.put, List.setIfInBounds_toArray, List.set_cons_zero, List.set_cons_succ]
      refine wpAnyZ_take (i := 16) (v := ?_) rfl (by kernel_rfl) (by kernel_rfl) (by kernel_rfl) (fun _ _ _ h => h) (by kernel_rfl) (Or.inl ⟨by rfl, ?_⟩) (by assumption) ?_
      rotate_left
      ·intro w' hSw
       try dsimp only at hSw
       try obtain ⟨hSw, hSw2⟩ := hSw
       go_simp
       try with_reducible rfl
      show wpAnyZ _ _ _ _ _ _ _ _ (Act.put _ (some 48) _) _
      simp only [Act.put, List.setIfInBounds_toArray, List.set_cons_zero, List.set_cons_succ]
      refine wpAnyZ_take (i := 17) (v := ?_) rfl (by kernel_rfl) (by kernel_rfl) (by kernel_rfl) (fun _ _ _ h => h) (by kernel_rfl) (Or.inl ⟨by rfl, ?_⟩) (by assumption) ?_
      rotate_left
      ·intro w' hSw
       try dsimp only at hSw
       try obtain ⟨hSw, hSw2⟩ := hSw
       go_simp
       try with_reducible rfl
      show wpAnyZ _ _ _ _ _ _ _ _ (Act.put _ (some 49) _) _
      simp only [Act.put, List.setIfInBounds_toArray, List.set_cons_zero, List.set_cons_succ]
      clear hSS
      refine wpAnyZ_oneG (i := 18) (by kernel_rfl) rfl (by rfl) (fun K hK => ?_)
      go_simp
      refine hK.out _ _ (.inr ⟨cell_of_row _ y2 0 _ _ _ HXZ.out.b2, cell_of_row _ y2 1 _ _ _ HXZ.out.b2⟩) ?_
      clear hK
      refine wpAnyZ_oneG (i := 19) (by kernel_rfl) rfl (by rfl) (fun K hK => ?_)
      go_simp
      refine hK.out _ _ (.inl (by omega)) ?_
      clear hK
      refine wpAnyZ_done (by kernel_rfl) ?_ _
      go_wp2_with fail
      go_meet
      first | exact ⟨az, nz, cz, Bz, rfl, rfl, HXZ.out, HSZ.out⟩ | exact ⟨az, nz, cz, ⟨rfl, rfl, rfl⟩, HXZ.out, Bz, HSZ.out⟩
    ·skip
     go_simp
     have hb10 : Below W0.heap.size W0 (W0.alloc (.cells #[.slice va s.length vc, .slice ua d.length uc] 44)) := (Below.refl _ _).alloc (Nat.le_refl _) _
     have hx10 := HX0.out.next hb10
     have hg10 := World.alloc_heap_new W0 (.cells #[.slice va s.length vc, .slice ua d.length uc] 44)
     have hSS : (fun W' : World => W'.cell? ⟨y2, 0, none⟩ = some (.slice va s.length vc) ∧ W'.cell? ⟨y2, 1, none⟩ = some (.slice ua d.length uc)) (W0.alloc (.cells #[.slice va s.length vc, .slice ua d.length uc] 44)) := ⟨cell_of_row _ y2 0 _ _ _ hx10.b2, cell_of_row _ y2 1 _ _ _ hx10.b2⟩
     refine hK.out _ _ (.inr hSS) ?_
     have HX10 := Lib.hid hx10; have HG10 := Lib.hid hg10
     clear hK hSS hb10 hx10 hg10 HX0
     generalize W0.alloc (.cells #[.slice va s.length vc, .slice ua d.length uc] 44) = w10x at HX10 HG10 ⊢
     generalize W0.heap.size = g10 at HG10 ⊢
     refine wpAnyZ_oneG (i := 2) (by kernel_rfl) rfl (by rfl) (fun K hK => ?_)
     go_simp
     refine (HIN.out w10x HX10.out).mono ?_
     rintro e w11x ⟨rfl, hb11⟩
     have hx11 := HX10.out.next hb11
     have hSS : (fun W' : World => W'.cell? ⟨y2, 0, none⟩ = some (.slice va s.length vc) ∧ W'.cell? ⟨y2, 1, none⟩ = some (.slice ua d.length uc)) w11x := ⟨cell_of_row _ y2 0 _ _ _ hx11.b2, cell_of_row _ y2 1 _ _ _ hx11.b2⟩
     show K _ w11x
     refine hK.out _ _ (.inr hSS) ?_
     have HX11 := Lib.hid hx11
     have HG11 := Lib.hid (block_below HG10.out hb11)
     clear HG10
     clear hK hb11 hx11 HX10
     refine wpAnyZ_take (i := 3) (v := .string (str S1)) rfl (by kernel_rfl) (by kernel_rfl) (by kernel_rfl) (fun _ _ _ h => h) (by kernel_rfl) (Or.inl ⟨by rfl, ?_⟩) (by assumption) ?_
     ·intro w' hSw
      clear hSw
      go_simp
      try rw [if_neg (by (try simp only [List.length_append, List.length_cons, List.length_nil]); omega)]
      try rw [show (⟨#[121, 58, 32]⟩ : ByteArray) = str [121, 58, 32] from rfl, str_append]
      rw [HS1.out]
     show wpAnyZ _ _ _ _ _ _ _ _ (Act.put _ (some 36) _) _
     simp only [Act.put, List.setIfInBounds_toArray, List.set_cons_zero, List.set_cons_succ]
     clear hSS
     refine wpAnyZ_oneG (i := 5) (by kernel_rfl) rfl (by rfl) (fun K hK => ?_)
     go_simp
     refine (HVB.out w11x HX11.out).mono ?_
     rintro e w12x ⟨rfl, hb12⟩
     have hx12 := HX11.out.next hb12
     have hSS : (fun W' : World => W'.cell? ⟨y2, 0, none⟩ = some (.slice va s.length vc) ∧ W'.cell? ⟨y2, 1, none⟩ = some (.slice ua d.length uc)) w12x := ⟨cell_of_row _ y2 0 _ _ _ hx12.b2, cell_of_row _ y2 1 _ _ _ hx12.b2⟩
     show K _ w12x
     refine hK.out _ _ (.inr hSS) ?_
     have HX12 := Lib.hid hx12
     have HG12 := Lib.hid (block_below HG11.out hb12)
     clear HG11
     clear hK hb12 hx12 HX11
     refine wpAnyZ_take (i := 6) (v := .string (str S2)) rfl (by kernel_rfl) (by kernel_rfl) (by kernel_rfl) (fun _ _ _ h => h) (by kernel_rfl) (Or.inl ⟨by rfl, ?_⟩) (by assumption) ?_
     ·intro w' hSw
      clear hSw
      go_simp
      try rw [if_neg (by (try simp only [List.length_append, List.length_cons, List.length_nil]); omega)]
      try rw [str_append]
      rw [HS2.out]
     show wpAnyZ _ _ _ _ _ _ _ _ (Act.put _ (some 39) _) _
     simp only [Act.put, List.setIfInBounds_toArray, List.set_cons_zero, List.set_cons_succ]
     refine wpAnyZ_take (i := 7) (v := .string (str S3)) rfl (by kernel_rfl) (by kernel_rfl) (by kernel_rfl) (fun _ _ _ h => h) (by kernel_rfl) (Or.inl ⟨by rfl, ?_⟩) (by assumption) ?_
     ·intro w' hSw
      clear hSw
      go_simp
      try rw [if_neg (by (try simp only [List.length_append, List.length_cons, List.length_nil]); omega)]
      try rw [show (⟨#[92, 32, 120, 10, 111, 117, 116, 32]⟩ : ByteArray) = str [92, 32, 120, 10, 111, 117, 116, 32] from rfl, str_append]
      rw [HS3.out]
     show wpAnyZ _ _ _ _ _ _ _ _ (Act.put _ (some 40) _) _
     simp only [Act.put, List.setIfInBounds_toArray, List.set_cons_zero, List.set_cons_succ]
     clear hSS
     refine wpAnyZ_oneG (i := 9) (by kernel_rfl) rfl (by rfl) (fun K hK => ?_)
     go_simp
     refine (HVB.out w12x HX12.out).mono ?_
     rintro e w13x ⟨rfl, hb13⟩
     have hx13 := HX12.out.next hb13
     have hSS : (fun W' : World => W'.cell? ⟨y2, 0, none⟩ = some (.slice va s.length vc) ∧ W'.cell? ⟨y2, 1, none⟩ = some (.slice ua d.length uc)) w13x := ⟨cell_of_row _ y2 0 _ _ _ hx13.b2, cell_of_row _ y2 1 _ _ _ hx13.b2⟩
     show K _ w13x
     refine hK.out _ _ (.inr hSS) ?_
     have HX13 := Lib.hid hx13
     have HG13 := Lib.hid (block_below HG12.out hb13)
     clear HG12
     clear hK hb13 hx13 HX12
     refine wpAnyZ_take (i := 10) (v := .string (str S4)) rfl (by kernel_rfl) (by kernel_rfl) (by kernel_rfl) (fun _ _ _ h => h) (by kernel_rfl) (Or.inl ⟨by rfl, ?_⟩) (by assumption) ?_
     ·intro w' hSw
      clear hSw
      go_simp
      try rw [if_neg (by (try simp only [List.length_append, List.length_cons, List.length_nil]); omega)]
      try rw [str_append]
      rw [HS4.out]
     show wpAnyZ _ _ _ _ _ _ _ _ (Act.put _ (some 43) _) _
     simp only [Act.put, List.setIfInBounds_toArray, List.set_cons_zero, List.set_cons_succ]
     refine wpAnyZ_take (i := 11) (v := .string (str S5)) rfl (by kernel_rfl) (by kernel_rfl) (by kernel_rfl) (fun _ _ _ h => h) (by kernel_rfl) (Or.inl ⟨by rfl, ?_⟩) (by assumption) ?_
     ·intro w' hSw
      clear hSw
      go_simp
      try rw [if_neg (by (try simp only [List.length_append, List.length_cons, List.length_nil]); omega)]
      try rw [show (⟨#[47, 32, 120]⟩ : ByteArray) = str [47, 32, 120] from rfl, str_append]
      rw [HS5.out]
     show wpAnyZ _ _ _ _ _ _ _ _ (Act.put _ (some 44) _) _
     simp only [Act.put, List.setIfInBounds_toArray, List.set_cons_zero, List.set_cons_succ]
     clear hSS
     refine wpAnyZ_oneG (i := 14) (by kernel_rfl) rfl (by rfl) (fun K hK => ?_)
     go_simp
     refine (HMN.out w13x _ HX13.out HG13.out).mono ?_
     rintro e wz ⟨vz, Bz, rfl, hBz, hsz, hbz⟩
     have hxz := HX13.out.next hbz
     have hSS : (fun W' : World => W'.cell? ⟨y2, 0, none⟩ = some (.slice va s.length vc) ∧ W'.cell? ⟨y2, 1, none⟩ = some (.slice ua d.length uc)) wz := ⟨cell_of_row _ y2 0 _ _ _ hxz.b2, cell_of_row _ y2 1 _ _ _ hxz.b2⟩
     show K _ wz
     refine hK.out _ _ (.inr hSS) ?_
     obtain ⟨az, nz, cz, rfl⟩ : ∃ a n c, vz = .slice a n c := by obtain ⟨a, c, e⟩ := hsz.form; exact ⟨_, _, _, e⟩
     have HXZ := Lib.hid hxz; have HSZ := Lib.hid hsz
     clear hK hbz hxz hsz HX13 HG13
     refine wpAnyZ_take (i := 15) (v := ?_) rfl (by kernel_rfl) (by kernel_rfl) (by kernel_rfl) (fun _ _ _ h => h) (by kernel_rfl) (Or.inl ⟨by rfl, ?_⟩) (by assumption) ?_
     rotate_left
     ·intro w' hSw
      try dsimp only at hSw
      try obtain ⟨hSw, hSw2⟩ := hSw
      go_simp
      try with_reducible rfl
     show wpAnyZ _ _ _ _ _ _ _ _ (Act.put _ (some 32) _) _
     simp only [Act.put, List.setIfInBounds_toArray, List.set_cons_zero, List.set_cons_succ]
     refine wpAnyZ_take (i := 16) (v := ?_) rfl (by kernel_rfl) (by kernel_rfl) (by kernel_rfl) (fun _ _ _ h => h) (by kernel_rfl) (Or.inl ⟨by rfl, ?_⟩) (by assumption) ?_
     rotate_left
     ·intro w' hSw
      try dsimp only at hSw
      try obtain ⟨hSw, hSw2⟩ := hSw
      go_simp
      try with_reducible rfl
     show wpAnyZ _ _ _ _ _ _ _ _ (Act.put _ (some 48) _) _
     simp only [Act.put, List.setIfInBounds_toArray, List.set_cons_zero, List.set_cons_succ]
     refine wpAnyZ_take (i := 17) (v := ?_) rfl (by kernel_rfl) (by kernel_rfl) (by kernel_rfl) (fun _ _ _ h => h) (by kernel_rfl) (Or.inl ⟨by rfl, ?_⟩) (by assumption) ?_
     rotate_left
     ·intro w' hSw
      try dsimp only at hSw
      try obtain ⟨hSw, hSw2⟩ := hSw
      go_simp
      try with_reducible rfl
     show wpAnyZ _ _ _ _ _ _ _ _ (Act.put _ (some 49) _) _
     simp only [Act.put, List.setIfInBounds_toArray, List.set_cons_zero, List.set_cons_succ]
     clear hSS
     refine wpAnyZ_oneG (i := 18) (by kernel_rfl) rfl (by rfl) (fun K hK => ?_)
     go_simp
     refine hK.out _ _ (.inr ⟨cell_of_row _ y2 0 _ _ _ HXZ.out.b2, cell_of_row _ y2 1 _ _ _ HXZ.out.b2⟩) ?_
     clear hK
     refine wpAnyZ_oneG (i := 19) (by kernel_rfl) rfl (by rfl) (fun K hK => ?_)
     go_simp
     refine hK.out _ _ (.inl (by omega)) ?_
     clear hK
     refine wpAnyZ_done (by kernel_rfl) ?_ _
     go_wp2_with fail
     go_meet
     first | exact ⟨az, nz, cz, Bz, rfl, rfl, HXZ.out, HSZ.out⟩ | exact ⟨az, nz, cz, ⟨rfl, rfl, rfl⟩, HXZ.out, Bz, HSZ.out⟩
    -- R5>
   case rest =>
    clear HX HIN HVB HMN HS1 HS2 HS3 HS4 HS5
    obtain ⟨a, n, c, B0, rfl, rfl, hx, hst⟩ := hcut
    have hn2 : n = 2 := by
     obtain ⟨a', c', e⟩ := hst.form
     simp only [Value.slice.injEq] at e
     exact e.2.1
    subst hn2
    obtain ⟨g, v0, u0, rfl, -, -, hu0, -, g01⟩ := stk_at hst 0 (show 0 < 2 by decide)
    obtain ⟨g', v1, u1, e', -, -, hu1, -, g11⟩ := stk_at hst 1 (show 1 < 2 by decide)
    cases e'
    have hu0 : SlK B0 wc u0 A := hu0
    have hu1 : SlK B0 wc u1 F := hu1
    obtain ⟨a0, c0, rfl⟩ := hu0.form
    obtain ⟨a1, c1, rfl⟩ := hu1.form
    have g01 : wc.cell? ⟨g, 1, none⟩ = some (.slice a0 A.length c0) := g01
    have g11 : wc.cell? ⟨g, 3, none⟩ = some (.slice a1 F.length c1) := g11
    have hi0 := slk_ints hu0
    have hi1 := slk_ints hu1
    have hal : A.length = d.length := by rw [← HA.out, scanD_len, HLX.out.flat]
    have hgd := (right_good HR.out).2
    have hdl : d.length ≤ 65536 := right_lenM HR.out
    obtain ⟨m, hm⟩ : ∃ m, s.length = m + 1 := ⟨s.length - 1, by have := HS0.out; omega⟩
    obtain ⟨nn, hnn⟩ : ∃ nn : Nat, lastOf s = (nn : Int) := ⟨(lastOf s).toNat, by
     have hmem : lastOf s ∈ s := by
      unfold lastOf
      rw [List.getLast?_eq_some_getLast (fun e => HS0.out (by rw [e]; rfl))]
      exact List.getLast_mem _
     have := (hgd.side _ hmem).1
     omega⟩
    have hnn6 : nn ≤ 65536 := by
     have hmem : lastOf s ∈ s := by
      unfold lastOf
      rw [List.getLast?_eq_some_getLast (fun e => HS0.out (by rw [e]; rfl))]
      exact List.getLast_mem _
     have := (hgd.side _ hmem).2
     omega
    have hm4 : m ≤ 3 := by have := hgd.len; omega
    have hls : wc.cell? ⟨0, 0, none⟩ = wc.cell? ⟨0, 0, none⟩ := rfl
    obtain ⟨vb, vo, rfl, hlast⟩ : ∃ vb vo, va = some ⟨vb, vo, none⟩ ∧ wc.cell? ⟨vb, vo + m, none⟩ = some (.int .i64 (nn : Int)) := by
     obtain ⟨_, _, e, _, _, _, hi, _⟩ := hx.s
     simp only [Value.slice.injEq] at e
     obtain ⟨rfl, -, -⟩ := e
     obtain ⟨b, o, e, hc⟩ := hi m (by omega)
     refine ⟨b, o, e, ?_⟩
     rw [hc, ← hnn, ← last_getD HS0.out, List.getD_eq_getElem?_getD, List.getElem?_eq_getElem (by omega)]
     congr 2
     show s[m] = s[s.length - 1]
     congr 1
     omega
    have x20 := cell_of_row _ y2 0 _ _ _ hx.b2
    have x21 := cell_of_row _ y2 1 _ _ _ hx.b2
    rw [hm] at x20 ⊢
    have HXX := Lib.hid hx; have HAL := Lib.hid hal; have HM := Lib.hid hm; have HNN := Lib.hid hnn; have HI0 := Lib.hid hi0; have HI1 := Lib.hid hi1
    clear hx hal hm hnn hi0 hi1 hu0 hu1 hst hls
    go_upto_region 7 with fail
    rw [HAL.out] at g01
    have q1 : ((d.length : Int) != (d.length : Int)) = false := by simp
    have f0 := cellBW x21; have f1 := cellBW g01
    have HG01 := Lib.hid g01; have HG11 := Lib.hid g11
    clear x20 x21 hlast g01 g11
    refine wp_region_below (by kernel_rfl) (by kernel_rfl) ?_
    repeat (go_big_quiet_step (fail))
    refine wpQuiet_nil ?_
    rintro wq ⟨⟨W8, hwq⟩, rfl⟩
    have HXQ := Lib.hid (HXX.out.next hwq); have HG01Q := Lib.hid (keepCell hwq HG01.out); have HG11Q := Lib.hid (keepCell hwq HG11.out); have HI0Q := Lib.hid (HI0.out.below hwq (Nat.le_refl _)); have HI1Q := Lib.hid (HI1.out.below hwq (Nat.le_refl _))
    clear f0 f1 q1 hwq HXX HG01 HG11 HI0 HI1
    go_upto_region 10 with fail
    go_loopw [8] (fun v8 wr => ∃ i : Nat, v8 = .int .i64 (i : Int) ∧ i ≤ lx.length ∧ Below wq.heap.size wq wr) (fun v8 wr => lx.length - (Lib.intOf v8).toNat)
    case atStart => exact ⟨0, rfl, Nat.zero_le _, Below.refl _ _⟩
    case round =>
     obtain ⟨i, rfl, hi, hbw⟩ := hrel
     by_cases hn0 : nn = 0
     ·have q : decide (0 < (nn : Int)) = false := decide_eq_false (by omega)
      have q' : decide (0 < nn) = false := decide_eq_false (by omega)
      have HBW := Lib.hid hbw
      clear hbw
      go_wp2_with fail
      all_goals (go_ret; exact ⟨rfl, HXQ.out.below.trans (HBW.out.mono HXQ.out.below.size)⟩)
     ·have q : decide (0 < (nn : Int)) = true := decide_eq_true (by omega)
      have q' : decide (0 < nn) = true := decide_eq_true (by omega)
      obtain ⟨hq1, hq2, hq3⟩ := scan_fold (f := vFn f) HLX.out HNN.out (by omega)
      rw [HA.out, HF.out] at hq3
      rw [HF.out] at hq2
      have hcnt := HLX.out.count (by rw [HNN.out]; omega)
      rw [HNN.out] at hcnt
      have hcnt' : lx.length * nn = d.length := by exact_mod_cast hcnt
      have equo : (d.length : Int).tdiv (nn : Int) = (lx.length : Int) := by
       rw [Int.tdiv_eq_ediv_of_nonneg (by omega)]
       rw [← hq1]
       exact (Int.natCast_ediv _ _).symm
      have hlx6 : lx.length ≤ 65536 := HLX.out.len
      have equo2 : (d.length : Int) / (nn : Int) = (lx.length : Int) := by
       rw [← hq1]
       exact (Int.natCast_ediv _ _).symm
      have x21 := cell_of_row _ y2 1 _ _ _ (HXQ.out.next hbw).b2
      by_cases hil : i < lx.length
      ·have q2 : decide ((i : Int) < (lx.length : Int)) = true := decide_eq_true (by omega)
       have HBW := Lib.hid hbw; have HQ3 := Lib.hid hq3; have HQ2 := Lib.hid hq2; have HCN := Lib.hid hcnt'
       clear hbw hq2 hq3 hcnt hcnt'
       go_upto_region 12 with fail
       clear x21 equo equo2 hq1 q2
       obtain ⟨p, hp⟩ : ∃ p, i * nn = p := ⟨_, rfl⟩
       have hpn : p + nn ≤ d.length := by
        have h1 : (i + 1) * nn ≤ lx.length * nn := Nat.mul_le_mul_right nn hil
        rw [HCN.out, Nat.succ_mul, hp] at h1
        exact h1
       have ep : (i : Int) * (nn : Int) = (p : Int) := by rw [← hp]; simp
       obtain ⟨r, hr⟩ : ∃ r, p + nn = r + 1 := ⟨p + nn - 1, by omega⟩
       have hrr : (p : Int) + (nn : Int) = (r : Int) + 1 := by omega
       have hsc := HQ3.out i hil
       rw [hp, show p + (nn - 1) = r from by omega] at hsc
       have hA1 : A.length = d.length := HAL.out
       have hib := HI0Q.out.below HBW.out (Nat.le_refl _)
       have hib1 := HI1Q.out.below HBW.out (Nat.le_refl _)
       obtain ⟨b0, o0, ea, ca⟩ := hib r (by omega)
       obtain ⟨b0', o0', ea', cb⟩ := hib p (by omega)
       rw [ea] at ea'
       cases ea'
       obtain ⟨b1, o1, ef, cf⟩ := hib1 i (by rw [HQ2.out]; exact hil)
       obtain ⟨b2, o2, ed, cd⟩ : ∃ b2 o2, ua = some ⟨b2, o2, none⟩ ∧ wr.cell? ⟨b2, o2 + p, none⟩ = some (.int .i64 (d.getD p 0)) := by
        obtain ⟨_, _, e, _, _, _, hi, _⟩ := (HXQ.out.next HBW.out).d
        simp only [Value.slice.injEq] at e
        obtain ⟨rfl, -, -⟩ := e
        obtain ⟨b, o, e, hc⟩ := hi p (by omega)
        exact ⟨b, o, e, by rw [hc, List.getD_eq_getElem?_getD, List.getElem?_eq_getElem (by omega)]; rfl⟩
       have va1 : A[r]'(by omega) = F.getD i 0 := by rw [← hsc.1, List.getD_eq_getElem?_getD, List.getElem?_eq_getElem (by omega)]; rfl
       have va2 : A[p]'(by omega) = d.getD p 0 := by rw [← hsc.2, List.getD_eq_getElem?_getD, List.getElem?_eq_getElem (by omega)]; rfl
       have va3 : F[i]'(by rw [HQ2.out]; exact hil) = F.getD i 0 := by rw [List.getD_eq_getElem?_getD, List.getElem?_eq_getElem (by rw [HQ2.out]; exact hil)]; rfl
       rw [va1] at ca
       rw [va2] at cb
       rw [va3] at cf
       generalize F.getD i 0 = z1 at ca cf
       generalize d.getD p 0 = z2 at cb cd
       subst ea ef ed
       have y21 := cell_of_row _ y2 1 _ _ _ (HXQ.out.next HBW.out).b2
       have g01 := keepCell HBW.out HG01Q.out
       have g11 := keepCell HBW.out HG11Q.out
       rw [HQ2.out] at g11
       have q3 : decide ((lx.length : Int) ≤ (i : Int)) = false := decide_eq_false (by omega)
       have q3' : decide (lx.length ≤ i) = false := decide_eq_false (by omega)
       have q4 : (z1 != z1) = false := by simp
       have q5 : (z2 != z2) = false := by simp
       have f0 := cellBW y21; have f1 := cellBW g01; have f2 := cellBW g11; have f3 := cellBW ca; have f4 := cellBW cb; have f5 := cellBW cf; have f6 := cellBW cd
       have HHP := Lib.hid hp
       clear y21 g01 g11 ca cb cf cd hp hsc va1 va2 va3 hib hib1
       refine wp_region_below (by kernel_rfl) (by kernel_rfl) ?_
       repeat (go_big_quiet_step (fail))
       refine wpQuiet_nil ?_
       rintro wz ⟨⟨W9, hwz⟩, rfl⟩
       have HBZ := Lib.hid (HBW.out.trans (hwz.mono HBW.out.size))
       clear f0 f1 f2 f3 f4 f5 f6 hwz
       go_wp2_with fail
       go_roundw
       case rel => exact ⟨i + 1, by go_num, by omega, HBZ.out⟩
       case measure => simp [Lib.intOf]; omega
      ·have q2 : decide ((i : Int) < (lx.length : Int)) = false := decide_eq_false (by omega)
       have q2' : decide (i < lx.length) = false := decide_eq_false (by omega)
       have HBW := Lib.hid hbw
       clear hbw hq2 hq3 hcnt hcnt'
       go_wp2_with fail
       all_goals (go_ret; exact ⟨rfl, HXQ.out.below.trans (HBW.out.mono HXQ.out.below.size)⟩)
end Go.Proofs.YtokghjnkfabgiaaGreatDoor
