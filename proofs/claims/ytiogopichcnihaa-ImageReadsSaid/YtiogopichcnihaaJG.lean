import Derived.Test.YtiogopichcnihaaJF
namespace Go.Proofs.Ytiogopichcnihaa
set_option maxRecDepth 100000
open Go.RowKit
set_option linter.unusedVariables false
set_option linter.unusedSimpArgs false

theorem own_form {w : World} {B : Nat} {t : TypeId} {size n : Nat} {v : Value} {xs : List Value} (h : w.ownsRow B t size v n xs) : ∃ a c, v = .slice a n c := by
  obtain ⟨-, ⟨e, h0⟩ | ⟨g, cap, cur, e, _⟩⟩ := h
  · subst h0; exact ⟨_, _, e⟩
  · exact ⟨_, _, e⟩
theorem ImgOwn.forms {B : Nat} {w : World} {vd vi vo vc : Value} {m : Img} (h : ImgOwn B w vd vi vo vc m) : ∃ da dc ia ic oa oc ca cc, vd = .slice da m.dims.length dc ∧ vi = .slice ia m.ins.length ic ∧ vo = .slice oa m.outs.length oc ∧ vc = .slice ca m.code.length cc := by
  obtain ⟨h1, ⟨c1, h2, _⟩, ⟨c2, h3, _⟩, h4⟩ := h
  obtain ⟨da, dc, e1⟩ := own_form h1
  obtain ⟨ia, ic, e2⟩ := own_form h2
  obtain ⟨oa, oc, e3⟩ := own_form h3
  obtain ⟨ca, cc, e4⟩ := own_form h4
  exact ⟨da, dc, ia, ic, oa, oc, ca, cc, e1, e2, e3, e4⟩

/-! windrowlaw20.shown. -/
theorem numI_small {n : Int} (h0 : 0 ≤ n) (h1 : n ≤ 127) : numI n = [n] := by
  unfold numI
  rw [numB, if_neg (by omega), Int.toNat_of_nonneg h0]
theorem head0 : headB img0 = [87, 82, 1, 0, 0, 0, 0, 0] := by
  unfold headB img0 slotsB
  simp [numI_small]
theorem write0 : (writeB img0).length = 12 ∧ (writeB img0).take 8 = [87, 82, 1, 0, 0, 0, 0, 0] := by
  unfold writeB
  rw [head0]
  refine ⟨by rw [List.length_append, highB_len]; rfl, rfl⟩
theorem right0 : imgRight img0 = true := by decide
theorem read0 : readB [] = none := by decide
def img1 (k : Int) : Img := ⟨[], 1, [⟨k, []⟩], [], []⟩
theorem right1 : imgRight (img1 1) = false := by decide
theorem right2 : imgRight (img1 0) = true := by decide
theorem str_lit {xs : List Int} (L : List UInt8) (h : xs = L.map fun u => (u.toNat : Int)) : ((strOf xs).toList == L) = true := by
  subst h
  rw [ByteArray.toList_eq]
  show ((L.map fun u => (u.toNat : Int)).map fun x => UInt8.ofNat x.toNat) == L
  rw [List.map_map]
  have : ((fun x : Int => UInt8.ofNat x.toNat) ∘ fun u : UInt8 => (u.toNat : Int)) = id := by
    funext u
    simp
  rw [this, List.map_id]
  simp
theorem slot_lit (W : World) (k : Int) (h : I64 k) : slotRep.Sl (W.alloc (.cells #[.int .i64 k, .slice none 0 0] 41)) (.slice (some ⟨W.heap.size, 0, none⟩) 1 1) [⟨k, []⟩] := by
  have h1 := World.ownsRow_lit (e := 41) (size := 2) (base := W.heap.size) W #[.int .i64 k, .slice none 0 0] 1 (Nat.le_refl _) (by unfold maxLen; omega) rfl
  have h2 : OwnSl W.heap.size (W.alloc (.cells #[.int .i64 k, .slice none 0 0] 41)) (.slice (some ⟨W.heap.size, 0, none⟩) 1 1) [⟨k, []⟩] := ⟨_, h1, Rep.Cs.single (R := slotO W.heap.size) (x := ⟨k, []⟩) (ds := [.int .i64 k, .slice none 0 0]) ⟨_, rfl, RowI.nil _ _, h⟩⟩
  exact h2.sl
theorem img1_at (W : World) (G : Nat) (hG : W.heap.size = G) (k : Int) (h : I64 k) : ImgAt (W.alloc (.cells #[.int .i64 k, .slice none 0 0] 41)) (.slice none 0 0) (.slice (some ⟨G, 0, none⟩) 1 1) (.slice none 0 0) (.slice none 0 0) (img1 k) :=
  hG ▸ ⟨IntSl.nil _ _, slot_lit W k h, Rep.Sl.nil _ _, Rep.Sl.nil _ _, by show I64 1; unfold I64; omega⟩
set_option maxHeartbeats 8000000 in
theorem shown_any (w : World) : Calls Try.prog 9 #[] w fun e w' => e = .returned (.bool true) ∧ Below w.heap.size w w' := by
  have h1 := write_any w _ _ _ _ img0 (ImgAt.zero w)
  unfold WriteE at h1
  rw [if_pos right0, if_pos right0] at h1
  have H1 := Lib.hid h1
  clear h1
  go_enter Try.func9, Try.ntmps9
  go_wp2_with fail
  refine H1.out.mono ?_
  rintro e w1 ⟨v1, rfl, hr1, hb1⟩
  obtain ⟨a1, c1, rfl, hlc, -, hi1⟩ := hr1.slice
  have hcut := hi1.cut (l := 0) (n := 8) hlc
  have s1 := fun W => slice_hiB W a1 12 c1 8 (by omega) (by have := write0.1; omega)
  rw [List.drop_zero, write0.2] at hcut
  rw [show ((8 : Int).toNat) = 8 from rfl] at s1
  generalize subA a1 c1 0 = a2 at s1 hcut
  rw [write0.1]
  have HB1 := Lib.hid hb1; have HCUT := Lib.hid hcut
  have h2 := read_any w1 none 0 [] (IntsAt.nil _ _ _) (Nat.le_refl _) (Nat.zero_le _) (fun x hx => by cases hx)
  rw [read0] at h2
  have H2 := Lib.hid h2
  clear hr1 hb1 hi1 hlc hcut h2 H1
  go_wp2_with fail
  refine H2.out.mono ?_
  rintro e w2 ⟨xd, xi, xo, xc, rfl, ho2, -, -, hb2⟩
  obtain ⟨da, dc, ia, ic, oa, oc, ca, cc, rfl, rfl, rfl, rfl⟩ := ho2.forms
  clear ho2
  have HB2 := Lib.hid (bNext hb2 HB1.out); have HK2 := Lib.hid hb2
  clear hb2 H2
  have h3 := fun W G hG => write_any _ _ _ _ _ (img1 1) (img1_at W G hG 1 (by unfold I64; omega))
  unfold WriteE at h3
  simp only [right1, Bool.false_eq_true, if_false] at h3
  have H3 := Lib.hid h3
  clear h3
  go_wp2_with fail
  refine (H3.out _ _ (by simp)).mono ?_
  rintro e w3 ⟨v3, rfl, -, hb3⟩
  have HB3 := Lib.hid (bNext hb3 ((HB2.out.alloc HB2.out.size _).alloc (by have := HB2.out.size; simp; omega) _)); have HK3 := Lib.hid (bNext hb3 ((HK2.out.alloc HK2.out.size _).alloc (by have := HK2.out.size; simp; omega) _))
  clear hb3 H3 HB1
  have hc8 : (convert 28 9 (.slice a2 8 c1)).run Try.prog w3 = .ok (.string (strOf [87, 82, 1, 0, 0, 0, 0, 0])) w3 := conv_str w3 a2 c1 [87, 82, 1, 0, 0, 0, 0, 0] (HCUT.out.below HK3.out (Nat.le_refl _)) (by
    intro x hx
    simp at hx
    unfold Byt
    omega)
  have hst : ((strOf [87, 82, 1, 0, 0, 0, 0, 0]).toList == [87, 82, 1, 0, 0, 0, 0, 0]) = true := str_lit _ rfl
  have h4 := fun W G hG => iright_any _ _ _ _ _ (img1 0) (img1_at W G hG 0 (by unfold I64; omega))
  rw [right2] at h4
  have H4 := Lib.hid h4
  clear h4
  go_wp2_with fail
  refine (H4.out _ _ rfl).mono ?_
  rintro e w4 ⟨rfl, hb4⟩
  have HB4 := Lib.hid (bNext hb4 (HB3.out.alloc HB3.out.size _))
  clear hb4
  go_wp2_with fail
  go_ret
  exact ⟨rfl, HB4.out⟩
end Go.Proofs.Ytiogopichcnihaa
