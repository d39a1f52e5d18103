import Derived.Test.YtokghjnkfabgiaaGreatDoorTD20
import Derived.Test.YtokghjnkfabgiaaGreatDoorTD21
import Derived.Test.YtokghjnkfabgiaaGreatDoorTD18
set_option linter.unusedVariables false
set_option linter.unusedSimpArgs false
set_option maxRecDepth 100000
namespace Go.Proofs.YtokghjnkfabgiaaGreatDoor
open Go.RowKit Go.Lib
attribute [local go_sem] str_size str_get str_toList
attribute [local go_sem high] run_str_add

def InN (p : PrgP) : Prop := (∀ x ∈ p.inputs, ∀ d ∈ x.sides, in64B d.n = true) ∧ ∀ x ∈ p.lines, ∀ i ∈ x.items, ∀ n ∈ i.nums, in64B n = true
structure ShF (w1 : World) (b B1 n1 B2 n2 : Nat) (iv lv : Value) (p : PrgP) : Prop where
 tab : TabT w1
 size : w1.heap.size = b
 one : MapS 119 .u8 B1 n1 woneW w1
 two : MapS 119 .u8 B2 n2 wtwoW w1
 ins : RowG inpR 0 79 w1 iv p.inputs
 lines : RowG linR 0 67 w1 lv p.lines
structure ShS (w1 w : World) (b B1 B2 : Nat) (y3 : Nat) (iv lv : Value) (wr : World) (s : Str) : Prop where
 below : Below b w1 wr
 sh : ∃ q, (q = .pointer none ∨ q = .pointer (some ⟨b, 2, none⟩)) ∧ ShB wr b b (.map (some B1)) (.map (some B2)) q s
 box : wr.heap[y3]? = some (.cells #[iv, lv] 25 (0, 0))
theorem ShS.next {w1 w wr W : World} {b B1 B2 y3 : Nat} {iv lv : Value} {s : Str} (h : ShS w1 w b B1 B2 y3 iv lv wr s) (hs : w1.heap.size = b) (hb : Below wr.heap.size wr W) : ShS w1 w b B1 B2 y3 iv lv W s := by
 obtain ⟨h1, ⟨q, hq, h2⟩, h3⟩ := h
 exact ⟨h1.trans (hb.mono (by have := h1.size; omega)), ⟨q, hq, h2.next hb⟩, block_below h3 hb⟩
theorem ShS.line {w1 w wr W : World} {b B1 B2 y3 : Nat} {iv lv : Value} {s s' : Str} (h : ShS w1 w b B1 B2 y3 iv lv wr s) (hsh : ShB W b b (.map (some B1)) (.map (some B2)) (.pointer (some ⟨b, 2, none⟩)) s') (hb : Below b wr W) (hk : KeepSh wr W) : ShS w1 w b B1 B2 y3 iv lv W s' :=
 ⟨h.below.trans hb, ⟨_, .inr rfl, hsh⟩, hk _ (by decide) (by decide) _ _ h.box⟩
theorem ShS.cells {w1 w wr : World} {b B1 B2 y3 : Nat} {iv lv : Value} {s : Str} (h : ShS w1 w b B1 B2 y3 iv lv wr s) : wr.cell? ⟨b, 0, none⟩ = some (.map (some B1)) ∧ wr.cell? ⟨b, 1, none⟩ = some (.map (some B2)) ∧ b < wr.heap.size := by
 obtain ⟨h1, ⟨q, hq, h2⟩, h3⟩ := h
 exact ⟨h2.cell.1, h2.cell.2.1, h2.lt⟩
theorem showSides_cons {d : SidP} {r : List SidP} {s S : Str} (h : showSides VV (d :: r) s = some S) : (d.name = [] ∧ showSides VV r (s ++ 32 :: numStr d.n) = some S) ∨ (d.name ≠ [] ∧ d.n = 0 ∧ nameW d.name = true ∧ showSides VV r (s ++ 32 :: d.name) = some S) := by
 rw [showSides] at h
 by_cases hd : d.name = []
 ·rw [if_pos hd] at h
  exact .inl ⟨hd, h⟩
 ·rw [if_neg hd] at h
  by_cases hc : d.n = 0 ∧ VV.name d.name = true
  ·rw [if_pos hc] at h
   exact .inr ⟨hd, hc.1, hc.2, h⟩
  ·rw [if_neg hc] at h; cases h
theorem showIns_cons {x : InpP} {r : List InpP} {s S : Str} (h : showIns VV (x :: r) s = some S) : nameW x.name = true ∧ x.sides.length ≤ 4 ∧ ∃ t, showSides VV x.sides x.name = some t ∧ showIns VV r (s ++ (kwIn ++ 32 :: t ++ [10])) = some S := by
 rw [showIns] at h
 by_cases hc : VV.name x.name = false ∨ 4 < x.sides.length
 ·rw [if_pos hc] at h; cases h
 ·rw [if_neg hc] at h
  refine ⟨?_, by omega, ?_⟩
  ·cases hv : nameW x.name with
   | true => rfl
   | false => exact absurd (.inl hv) hc
  ·cases ht : showSides VV x.sides x.name with
   | none => rw [ht] at h; cases h
   | some t => rw [ht] at h; exact ⟨t, rfl, h⟩
theorem showLines_cons {x : LinP} {r : List LinP} {s S : Str} (h : showLines LL (x :: r) s = some S) :
  ∃ t, showX LL x.items (if r = [] then 255 else 254) = some t ∧ (r = [] → x.name = []) ∧ (r ≠ [] → x.name ≠ [] ∧ nameW x.name = true) ∧ showLines LL r (s ++ ((if r = [] then kwOut ++ [32] else x.name ++ [58, 32]) ++ t ++ [10])) = some S := by
 rw [showLines] at h
 cases hx : showX LL x.items (if r = [] then 255 else 254) with
 | none => rw [hx] at h; cases h
 | some t =>
  rw [hx, Option.bind_some] at h
  by_cases hc : (r = [] ∧ x.name ≠ []) ∨ (r ≠ [] ∧ (x.name = [] ∨ LL.V.name x.name = false))
  ·rw [if_pos hc] at h; cases h
  ·rw [if_neg hc] at h
   refine ⟨t, rfl, fun hr => Classical.byContradiction fun hn => hc (.inl ⟨hr, hn⟩), fun hr => ⟨fun hn => hc (.inr ⟨hr, .inl hn⟩), ?_⟩, h⟩
   cases hv : nameW x.name with
   | true => rfl
   | false => exact absurd (.inr ⟨hr, .inr hv⟩) hc
theorem showProg_some {p : PrgP} {S : Str} (h : showProg LL p = some S) : p.lines ≠ [] ∧ p.inputs.length ≤ 64 ∧ p.lines.length + p.inputs.length ≤ 64 ∧ ∃ s, showIns VV p.inputs [] = some s ∧ showLines LL p.lines s = some S := by
 unfold showProg at h
 by_cases hc : p.lines = [] ∨ 64 < p.inputs.length ∨ 64 - p.inputs.length < p.lines.length
 ·rw [if_pos hc] at h; cases h
 ·rw [if_neg hc] at h
  refine ⟨fun e => hc (.inl e), by omega, by omega, ?_⟩
  have e : showIns LL.V p.inputs [] = showIns VV p.inputs [] := rfl
  rw [e] at h
  cases hs : showIns VV p.inputs [] with
  | none => rw [hs] at h; cases h
  | some s => rw [hs] at h; exact ⟨s, rfl, h⟩
theorem inp_at3 {M : Nat} {w : World} {v : Value} {xs : List InpP} (h : RowG inpR M 79 w v xs) (i : Nat) (hi : i < xs.length) : ∃ b off c a u, v = .slice (some ⟨b, off, none⟩) xs.length c ∧ w.cell? ⟨b, off + i * 3, none⟩ = some (.string (str xs[i].name)) ∧ w.cell? ⟨b, off + i * 3 + 1, none⟩ = some (.int .i64 a) ∧ w.cell? ⟨b, off + i * 3 + 2, none⟩ = some u ∧ RowG sidR 0 81 w u xs[i].sides := by
 obtain ⟨b, off, c, cs, e, ⟨a, u, hcs, hr⟩, hx⟩ := row_at h i hi
 subst hcs
 exact ⟨b, off, c, a, u, e, hx 0 _ rfl, hx 1 _ rfl, hx 2 _ rfl, hr⟩
theorem lin_at3 {M : Nat} {w : World} {v : Value} {xs : List LinP} (h : RowG linR M 67 w v xs) (i : Nat) (hi : i < xs.length) : ∃ b off c a u, v = .slice (some ⟨b, off, none⟩) xs.length c ∧ w.cell? ⟨b, off + i * 3, none⟩ = some (.string (str xs[i].name)) ∧ w.cell? ⟨b, off + i * 3 + 1, none⟩ = some (.int .i64 a) ∧ w.cell? ⟨b, off + i * 3 + 2, none⟩ = some u ∧ RowG itmR 0 121 w u xs[i].items := by
 obtain ⟨b, off, c, cs, e, ⟨a, u, hcs, hr⟩, hx⟩ := row_at h i hi
 subst hcs
 exact ⟨b, off, c, a, u, e, hx 0 _ rfl, hx 1 _ rfl, hx 2 _ rfl, hr⟩
theorem ShS.bw {w1 w wr : World} {b B1 B2 y3 : Nat} {iv lv : Value} {s : Str} (h : ShS w1 w b B1 B2 y3 iv lv wr s) (hs : w1.heap.size = b) : Below w1.heap.size w1 wr := by rw [hs]; exact h.below
set_option maxHeartbeats 16000000 in
theorem showprogram_any (w1 w : World) (b B1 n1 B2 n2 : Nat) (iv lv : Value) (p : PrgP) (F : ShF w1 b B1 n1 B2 n2 iv lv p) (hbw : Below b w1 w) (hsh : ShB w b b (.map (some B1)) (.map (some B2)) (.pointer none) []) (hin : InN p) (S : Str) (hS : showProg LL p = some S) :
  Calls Tryz.prog 40 #[.pointer (some ⟨b, 0, none⟩), .agg #[iv, lv]] w fun e w' => e = .returned (.bool true) ∧ (∃ q, (q = .pointer none ∨ q = .pointer (some ⟨b, 2, none⟩)) ∧ ShB w' b b (.map (some B1)) (.map (some B2)) q S) ∧ Below b w1 w' := by
 obtain ⟨hl0, hi64, hsum, S1, hS1, hS2⟩ := showProg_some hS
 obtain ⟨n, hn⟩ : ∃ n, p.lines.length = n + 1 := ⟨p.lines.length - 1, by have := List.length_pos_iff.2 hl0; omega⟩
 obtain ⟨ia, ic, rfl⟩ := F.ins.form
 obtain ⟨la, lc, rfl⟩ := F.lines.form
 have hd : Below w.heap.size w (w.alloc (.cells #[.slice ia p.inputs.length ic, .slice la p.lines.length lc] 25)) := (Below.refl _ _).alloc (Nat.le_refl _) _
 have hbsz : b ≤ w.heap.size := by have := hbw.size; have := F.size; omega
 have hx0 : ShS w1 w b B1 B2 w.heap.size (.slice ia p.inputs.length ic) (.slice la p.lines.length lc) (w.alloc (.cells #[.slice ia p.inputs.length ic, .slice la p.lines.length lc] 25)) [] :=
  ⟨hbw.trans (hd.mono hbsz), ⟨_, .inl rfl, hsh.next hd⟩, World.alloc_heap_new _ _⟩
 have HX0 := Lib.hid hx0; have HF := Lib.hid F; have HIN := Lib.hid hin; have HS1 := Lib.hid hS1; have HS2 := Lib.hid hS2; have HFS := Lib.hid F.size
 clear hx0 F hin hS1 hS2 hS hd hsh hbw hl0
 rw [hn] at HX0 hsum
 rw [hn]
 go_enter Tryz.func40, Tryz.ntmps40
 go_upto_region 1 with fail
 refine gen_worldA (fun W => ShS w1 w b B1 B2 w.heap.size (.slice ia p.inputs.length ic) (.slice la (n + 1) lc) W []) HX0.out ?_
 clear HX0
 generalize w.heap.size = y3
 rintro W hx
 have k0 := cell_of_row _ y3 0 _ _ _ hx.box
 have k1 := cell_of_row _ y3 1 _ _ _ hx.box
 have HX := Lib.hid hx
 clear hx
 have q1 : decide (64 < (p.inputs.length : Int)) = false := decide_eq_false (by omega)
 have q2 : decide ((64 : Int) - (p.inputs.length : Int) < ((n + 1 : Nat) : Int)) = false := decide_eq_false (by omega)
 have q3 : decide ((64 : Int) - (p.inputs.length : Int) < (n : Int) + 1) = false := decide_eq_false (by omega)
 have q4 : decide ((n : Int) < 0) = false := decide_eq_false (by omega)
 go_upto_region 5 with fail
 go_loopw [42] (fun v wr => ∃ (i : Nat) (s : Str), v = .int .i64 (i : Int) ∧ i ≤ p.inputs.length ∧ ShS w1 w b B1 B2 y3 (.slice ia p.inputs.length ic) (.slice la (n + 1) lc) wr s ∧ s.length ≤ i * 200 ∧ showIns VV (p.inputs.drop i) s = some S1) (fun v wr => p.inputs.length - (Lib.intOf v).toNat)
 case atStart => exact ⟨0, [], rfl, Nat.zero_le _, HX.out, Nat.le_refl _, HS1.out⟩
 case round =>
  clear HX q1 q2 q3 q4 k0 k1
  obtain ⟨i, s, rfl, hi, hx, hsl, hrun⟩ := hrel
  by_cases hil : i < p.inputs.length
  ·skip
   have q : decide ((i : Int) < (p.inputs.length : Int)) = true := decide_eq_true (by omega)
   rw [List.drop_eq_getElem_cons hil] at hrun
   obtain ⟨hnm, hs4, tx, htx, hrest⟩ := showIns_cons hrun
   obtain ⟨xb, xo, xc, xa, xu, e1, z0, z1, z2, zr⟩ := inp_at3 HF.out.ins i hil
   cases e1
   have h64 := fun d hd => HIN.out.1 _ (List.getElem_mem hil) d hd
   have hbw := hx.bw HFS.out
   have z0 := keepCell hbw z0
   have z1 := keepCell hbw z1
   have z2 := keepCell hbw z2
   generalize p.inputs[i] = x at z0 z2 zr hnm hs4 htx hrest h64
   obtain ⟨nm, sides⟩ := x
   dsimp only at z0 z2 zr hnm hs4 htx hrest h64
   obtain ⟨ua, uc, rfl⟩ := zr.form
   have hnl := name_len hnm
   have HNM := Lib.hid hnm; have HTX := Lib.hid htx; have HRS := Lib.hid hrest; have H64 := Lib.hid h64; have HZR := Lib.hid zr; have HX := Lib.hid hx
   clear hnm htx hrest h64 zr hx hrun hbw
   have q5 : decide (4 < (sides.length : Int)) = false := decide_eq_false (by omega)
   have hbl : Below wr.heap.size wr (wr.alloc (.cells #[.string (str nm), .int .i64 xa, .slice ua sides.length uc] 79)) := (Below.refl _ _).alloc (Nat.le_refl _) _
   have hxi := HX.out.next HFS.out hbl
   have hnam := Name_any nm (wr.alloc (.cells #[.string (str nm), .int .i64 xa, .slice ua sides.length uc] 79)) (HF.out.tab.below (hxi.bw HFS.out)) (by omega)
   rw [HNM.out] at hnam
   have HNAM := Lib.hid hnam; have HXI := Lib.hid hxi; have HIB := Lib.hid (World.alloc_heap_new wr (.cells #[.string (str nm), .int .i64 xa, .slice ua sides.length uc] 79))
   clear hbl hxi hnam
   go_upto_region 7 with fail
   go_upto_region 9 with (go_at_call 37; (refine HNAM.out.mono ?_); rintro e w2 ⟨rfl, hb2⟩; (have j0 := cell_of_row w2 wr.heap.size 0 _ _ _ (block_below HIB.out hb2)); (have j2 := cell_of_row w2 wr.heap.size 2 _ _ _ (block_below HIB.out hb2)); (have HX2 := Lib.hid (HXI.out.next HFS.out hb2)); clear hb2)
   go_upto_region 11 with fail
   clear HNAM HXI HIB j0 j2 HX
   generalize wr.heap.size = y7
   go_loopw [8, 61] (fun v8 v wz => ∃ (k : Nat) (t : Str), v8 = .string (str t) ∧ v = .int .i64 (k : Int) ∧ k ≤ sides.length ∧ ShS w1 w b B1 B2 y3 (.slice (some ⟨xb, xo, none⟩) p.inputs.length ic) (.slice la (n + 1) lc) wz s ∧ t.length ≤ 24 + k * 25 ∧ showSides VV (sides.drop k) t = some tx) (fun v8 v wz => sides.length - (Lib.intOf v).toNat)
   case atStart => exact ⟨0, nm, rfl, rfl, Nat.zero_le _, HX2.out, by omega, HTX.out⟩
   case round =>
    clear HX2
    obtain ⟨k, t, rfl, rfl, hk, hx, htl, hrun⟩ := hrel
    by_cases hkl : k < sides.length
    ·have qk : decide ((k : Int) < (sides.length : Int)) = true := decide_eq_true (by omega)
     rw [List.drop_eq_getElem_cons hkl] at hrun
     have hrun := showSides_cons hrun
     obtain ⟨sb, so, sc, e1, g0, g1⟩ := sid_at HZR.out k hkl
     cases e1
     have hbw := hx.bw HFS.out
     have g0 := keepCell hbw g0
     have g1 := keepCell hbw g1
     have hd64 := H64.out _ (List.getElem_mem hkl)
     generalize sides[k] = d at hrun g0 g1 hd64
     obtain ⟨dn, dv⟩ := d
     dsimp only at hrun g0 g1 hd64
     have hbl : Below wr.heap.size wr (wr.alloc (.cells #[.string (str dn), .int .i64 dv] 81)) := (Below.refl _ _).alloc (Nat.le_refl _) _
     have hxi := hx.next HFS.out hbl
     have HXI := Lib.hid hxi
     have ht' := HF.out.tab.below (hxi.bw HFS.out)
     clear hx hbl hxi hbw
     rcases hrun with ⟨hdn, hrun⟩ | ⟨hdn, rfl, hvn, hrun⟩
     ·subst hdn
      have hnum := shownum_any dv hd64 _ ht'
      have hnl2 := numStr_len hd64
      generalize numStr dv = ds at hnum hrun hnl2
      have HNUM := Lib.hid hnum; have HRUN := Lib.hid hrun
      clear hnum hrun ht'
      go_upto_region 15 with fail
      go_wp2_with (go_at_call 69; (refine HNUM.out.mono ?_); rintro e w3 ⟨rfl, hb3⟩; (have HX3 := Lib.hid (HXI.out.next HFS.out hb3)); clear hb3)
      go_roundw
      case rel => exact ⟨k + 1, t ++ 32 :: ds, rfl, by go_num, by omega, HX3.out, by simp; omega, HRUN.out⟩
      case measure => simp [Lib.intOf]; omega
     ·have hdl := name_len hvn
      have hnam := Name_any dn _ ht' (by omega)
      rw [hvn] at hnam
      have edn : dn.isEmpty = false := by
       cases dn with
       | nil => exact absurd rfl hdn
       | cons x r => rfl
      have HNAM := Lib.hid hnam; have HRUN := Lib.hid hrun; have HIB := Lib.hid (World.alloc_heap_new wr (.cells #[.string (str dn), .int .i64 0] 81))
      clear hnam hrun ht' hvn hdn hd64
      go_upto_region 16 with fail
      go_wp2_with (go_at_call 37; (refine HNAM.out.mono ?_); rintro e w3 ⟨rfl, hb3⟩; (have j0 := cell_of_row w3 wr.heap.size 0 _ _ _ (block_below HIB.out hb3)); (have HX3 := Lib.hid (HXI.out.next HFS.out hb3)); clear hb3)
      go_roundw
      case rel => exact ⟨k + 1, t ++ 32 :: dn, rfl, by go_num, by omega, HX3.out, by simp; omega, HRUN.out⟩
      case measure => simp [Lib.intOf]; omega
    ·obtain rfl : k = sides.length := by omega
     rw [List.drop_length] at hrun
     obtain rfl : t = tx := Option.some.inj hrun
     obtain ⟨q, hq, hsh⟩ := hx.sh
     have hline := showline_any wr b b (.map (some B1)) (.map (some B2)) q s [105, 110, 32] t hq hsh (by simp; omega) (by have := hsh.lt; omega)
     have HLINE := Lib.hid hline; have HX := Lib.hid hx
     clear hline hx hsh hq
     have qk : decide ((sides.length : Int) < (sides.length : Int)) = false := decide_eq_false (by omega)
     go_wp2_with (go_at_call 70; (refine HLINE.out.mono ?_); rintro e w3 ⟨rfl, hsh3, hb3, hk3⟩; (have HX3 := Lib.hid (HX.out.line hsh3 hb3 hk3)); clear hsh3 hb3 hk3)
     go_roundw
     case rel =>
      refine ⟨i + 1, _, by go_num, by omega, HX3.out, ?_, HRS.out⟩
      have hk2 : kwIn.length = 2 := rfl
      simp
      omega
     case measure => simp [Lib.intOf]; omega
  ·obtain rfl : i = p.inputs.length := by omega
   rw [List.drop_length] at hrun
   obtain rfl : s = S1 := Option.some.inj hrun
   have k1 := cell_of_row _ y3 1 _ _ _ hx.box
   have HX := Lib.hid hx
   have q : decide ((p.inputs.length : Int) < (p.inputs.length : Int)) = false := decide_eq_false (by omega)
   clear hx hrun
   go_upto_region 22 with fail
   go_loopw [97] (fun v wr => ∃ (j : Nat) (t : Str), v = .int .i64 (j : Int) ∧ j ≤ n + 1 ∧ ShS w1 w b B1 B2 y3 (.slice ia p.inputs.length ic) (.slice la (n + 1) lc) wr t ∧ t.length ≤ 12800 + j * 2000100 ∧ showLines LL (p.lines.drop j) t = some S) (fun v wr => n + 1 - (Lib.intOf v).toNat)
   case atStart => exact ⟨0, s, rfl, Nat.zero_le _, HX.out, by omega, HS2.out⟩
   case round =>
    clear HX k1 q
    obtain ⟨j, t, rfl, hj, hx, htl, hrun⟩ := hrel
    by_cases hjl : j < n + 1
    ·have q : decide ((j : Int) < ((n + 1 : Nat) : Int)) = true := decide_eq_true (by omega)
     have q' : decide ((j : Int) < (n : Int) + 1) = true := decide_eq_true (by omega)
     have hjl' : j < p.lines.length := by omega
     rw [List.drop_eq_getElem_cons hjl'] at hrun
     obtain ⟨tx, htx, hlast, hmid, hrest⟩ := showLines_cons hrun
     have hdl : (p.lines.drop (j + 1)).length = n - j := by rw [List.length_drop]; omega
     have hdr : p.lines.drop (j + 1) = [] ↔ j = n := by
      rw [← List.length_eq_zero_iff, hdl]; omega
     obtain ⟨xb, xo, xc, xa, xu, e1, z0, z1, z2, zr⟩ := lin_at3 HF.out.lines j hjl'
     rw [hn] at e1
     cases e1
     have h64 := fun i hi => HIN.out.2 _ (List.getElem_mem hjl') i hi
     have hbw := hx.bw HFS.out
     have z0 := keepCell hbw z0
     have z1 := keepCell hbw z1
     have z2 := keepCell hbw z2
     generalize p.lines[j] = x at z0 z2 zr htx hlast hmid hrest h64
     obtain ⟨nm, items⟩ := x
     dsimp only at z0 z2 zr htx hlast hmid hrest h64
     obtain ⟨ua, uc, rfl⟩ := zr.form
     have hbl : Below wr.heap.size wr (wr.alloc (.cells #[.string (str nm), .int .i64 xa, .slice ua items.length uc] 67)) := (Below.refl _ _).alloc (Nat.le_refl _) _
     have hxi := hx.next HFS.out hbl
     obtain ⟨cc0, cc1, hbl2⟩ := hxi.cells
     have hbwi := hxi.bw HFS.out
     have hexp := fun (most : Nat) (hm : most ≤ 256) (hs : showX LL items most = some tx) => showexpr_any _ (HF.out.tab.below hbwi) b B1 n1 B2 n2 hbl2 cc0 (HF.out.one.below hbwi) cc1 (HF.out.two.below hbwi) items (.slice ua items.length uc) (zr.next hbwi) most hm tx hs h64
     have HEXP := Lib.hid hexp; have HXI := Lib.hid hxi; have HRS := Lib.hid hrest; have HIB := Lib.hid (World.alloc_heap_new wr (.cells #[.string (str nm), .int .i64 xa, .slice ua items.length uc] 67)); have HNA := Lib.hid (HF.out.tab)
     clear hexp hxi hrest hbl hbwi cc0 cc1 hbl2 zr h64 hx hrun hbw
     by_cases hjn : j = n
     ·have hd0 := hdr.2 hjn
      have hnm := hlast hd0
      rw [if_pos hd0] at htx
      have hrs := HRS.out
      rw [if_pos hd0] at hrs
      subst hnm
      have HRS := Lib.hid hrs; have HEX := Lib.hid (HEXP.out 255 (by omega) htx)
      clear hrs htx hlast hmid hdr hdl hd0 HEXP
      subst hjn
      go_upto_region 27 with fail
      go_upto_region 28 with (go_at_call 71; (refine HEX.out.mono ?_); rintro e w2 ⟨rfl, hb2, htl2⟩; (have j0 := cell_of_row w2 wr.heap.size 0 _ _ _ (block_below HIB.out hb2)); (have HX2 := Lib.hid (HXI.out.next HFS.out hb2)); (have HIB2 := Lib.hid (block_below HIB.out hb2)); clear hb2)
      go_upto_region 30 with fail
      obtain ⟨q9, hq9, hsh9⟩ := (HX2).out.sh
      have hline := showline_any w2 b b (.map (some B1)) (.map (some B2)) q9 t ([111, 117, 116, 32]) tx hq9 hsh9 (by simp; omega) (by have := hsh9.lt; omega)
      have HLINE := Lib.hid hline
      clear hline hsh9 hq9
      go_wp2_with (go_at_call 70; (refine HLINE.out.mono ?_); rintro e w5 ⟨rfl, hsh5, hb5, hk5⟩; (have HX5 := Lib.hid ((HX2).out.line hsh5 hb5 hk5)); clear hsh5 hb5 hk5)
      go_roundw
      case rel => exact ⟨j + 1, _, by go_num, by omega, HX5.out, by (try have hko : kwOut.length = 3 := rfl); simp; omega, HRS.out⟩
      case measure => simp [Lib.intOf] <;> omega
      all_goals skip
     ·have hd0 : ¬ p.lines.drop (j + 1) = [] := fun e => hjn (hdr.1 e)
      obtain ⟨hn0, hnv⟩ := hmid hd0
      rw [if_neg hd0] at htx
      have hrs := HRS.out
      rw [if_neg hd0] at hrs
      have hnl := name_len hnv
      have enm : nm.isEmpty = false := by
       cases nm with
       | nil => exact absurd rfl hn0
       | cons x r => rfl
      have HRS := Lib.hid hrs; have HEX := Lib.hid (HEXP.out 254 (by omega) htx); have HNV := Lib.hid hnv
      have qn : ((j : Int) == (n : Int)) = false := by rw [beq_eq_false_iff_ne]; omega
      have qn2 : decide ((j : Int) < (n : Int)) = true := decide_eq_true (by omega)
      clear hrs htx hlast hmid hdr hdl hd0 HEXP hn0 hnv
      go_upto_region 27 with fail
      go_upto_region 28 with (go_at_call 71; (refine HEX.out.mono ?_); rintro e w2 ⟨rfl, hb2, htl2⟩; (have j0 := cell_of_row w2 wr.heap.size 0 _ _ _ (block_below HIB.out hb2)); (have HX2 := Lib.hid (HXI.out.next HFS.out hb2)); (have HIB2 := Lib.hid (block_below HIB.out hb2)); clear hb2)
      go_upto_region 30 with (go_at_call 37; (refine (Name_any nm w2 (HF.out.tab.below (HX2.out.bw HFS.out)) (by omega)).mono ?_); rw [HNV.out]; rintro e w3 ⟨rfl, hb3⟩; (have j0 := cell_of_row w3 wr.heap.size 0 _ _ _ (block_below HIB2.out hb3)); (have HX3 := Lib.hid (HX2.out.next HFS.out hb3)); clear hb3)
      obtain ⟨q9, hq9, hsh9⟩ := (HX3).out.sh
      have hline := showline_any w3 b b (.map (some B1)) (.map (some B2)) q9 t (nm ++ [58, 32]) tx hq9 hsh9 (by simp; omega) (by have := hsh9.lt; omega)
      have HLINE := Lib.hid hline
      clear hline hsh9 hq9
      go_wp2_with (go_at_call 70; (refine HLINE.out.mono ?_); rintro e w5 ⟨rfl, hsh5, hb5, hk5⟩; (have HX5 := Lib.hid ((HX3).out.line hsh5 hb5 hk5)); clear hsh5 hb5 hk5)
      go_roundw
      case rel => exact ⟨j + 1, _, by go_num, by omega, HX5.out, by (try have hko : kwOut.length = 3 := rfl); simp; omega, HRS.out⟩
      case measure => simp [Lib.intOf] <;> omega
      all_goals skip
    ·obtain rfl : j = n + 1 := by omega
     rw [← hn, List.drop_length] at hrun
     obtain rfl : t = S := Option.some.inj hrun
     have HX := Lib.hid hx
     have q : decide (((n + 1 : Nat) : Int) < ((n + 1 : Nat) : Int)) = false := decide_eq_false (by omega)
     have q' : decide ((n : Int) + 1 < (n : Int) + 1) = false := decide_eq_false (by omega)
     clear hx hrun
     go_wp2_with fail
     go_ret
     exact ⟨rfl, HX.out.sh, HX.out.below⟩
end Go.Proofs.YtokghjnkfabgiaaGreatDoor

namespace Go.Proofs.YtokghjnkfabgiaaGreatDoor
open Go.RowKit Go.Lib
attribute [local go_sem] str_size str_get str_toList

def NumSides (p : PrgP) : Prop := ∀ x ∈ p.inputs, ∀ d ∈ x.sides, d.name = []
structure VaI (w : World) (B : Nat) (wr : World) : Prop where
 below : Below w.heap.size w wr
 map : MapV (.bool false) B 1 (putV (fun _ => none) [] (.bool true)) wr
theorem VaI.next {w W W' : World} {B : Nat} (h : VaI w B W) (hb : Below W.heap.size W W') : VaI w B W' := ⟨h.below.trans (hb.mono h.below.size), h.map.below hb⟩
set_option maxHeartbeats 8000000 in
theorem vars_any {N : Nat} (w : World) (iv lv : Value) (p : PrgP) (h1 : RowG inpR N 79 w iv p.inputs) (h2 : RowG linR N 67 w lv p.lines) (hs : NumSides p) (hi : p.inputs.length ≤ 70000) (hs4 : ∀ x ∈ p.inputs, x.sides.length ≤ 70000) :
  Calls Tryz.prog 90 #[.agg #[iv, lv]] w fun e w' => e = .returned (.slice none 0 0) ∧ Below w.heap.size w w' := by
 obtain ⟨ia, ic, rfl⟩ := h1.form
 obtain ⟨la, lc, rfl⟩ := h2.form
 have hb0 : Below w.heap.size w (w.alloc (.cells #[.slice ia p.inputs.length ic, .slice la p.lines.length lc] 25)) := (Below.refl _ _).alloc (Nat.le_refl _) _
 have hx0 := World.alloc_heap_new w (.cells #[.slice ia p.inputs.length ic, .slice la p.lines.length lc] 25)
 obtain ⟨W0, eW⟩ : ∃ W0, W0 = w.alloc (.cells #[.slice ia p.inputs.length ic, .slice la p.lines.length lc] 25) := ⟨_, rfl⟩
 rw [← eW] at hb0 hx0
 have hm0 : MapV (.bool false) W0.heap.size 0 (fun _ => none) (W0.alloc (.map #[] 0)) := MapV.made W0
 obtain ⟨W1, r1, m1, g1⟩ := hm0.put (mt := 202) (et := 4) (by kernel_rfl) (by decide) [] (by decide) (.bool true)
 have hba : Below W0.heap.size W0 (W0.alloc (.map #[] 0)) := (Below.refl _ _).alloc (Nat.le_refl _) _
 have hb1 : Below W0.heap.size W0 W1 := hba.grown g1 (by simp) (fun k hk => by cases hk; exact Nat.le_refl _)
 have hva : VaI w W0.heap.size W1 := ⟨hb0.trans (hb1.mono hb0.size), m1⟩
 have hx1 := block_below hx0 hb1
 have r1' : (Instr.mapUpdate 202 (.map (some W0.heap.size)) (.string ⟨#[]⟩) (.bool true)).run Tryz.prog (W0.alloc (.map #[] 0)) = .ok () W1 := r1
 have hmm := @run_makeMap Tryz.prog
 have k0 := cell_of_row _ w.heap.size 0 _ _ _ hx1
 have HVA := Lib.hid hva; have H1 := Lib.hid h1; have HS := Lib.hid hs; have HS4 := Lib.hid hs4
 clear hm0 m1 g1 hba hb1 hx1 r1 hb0 hx0 hva h1 h2 hs hs4
 go_enter Tryz.func90, Tryz.ntmps90
 go_upto_region 1 with fail
 rw [← eW]
 clear eW
 go_upto_region 4 with fail
 clear k0
 generalize W0.heap.size = B at HVA ⊢
 generalize w.heap.size = y1
 clear r1' hmm
 go_loopw [3, 14] (fun v3 v wr => ∃ i : Nat, v3 = .slice none 0 0 ∧ v = .int .i64 (i : Int) ∧ i ≤ p.inputs.length ∧ VaI w B wr) (fun v3 v wr => p.inputs.length - (Lib.intOf v).toNat)
 case atStart => exact ⟨0, rfl, rfl, Nat.zero_le _, HVA.out⟩
 case round =>
  clear HVA
  obtain ⟨i, rfl, rfl, hii, hva⟩ := hrel
  by_cases hil : i < p.inputs.length
  ·have q : decide ((i : Int) < (p.inputs.length : Int)) = true := decide_eq_true (by omega)
   obtain ⟨xb, xo, xc, xa, xu, e1, z0, z1, z2, zr⟩ := inp_at3 H1.out i hil
   cases e1
   have z0 := keepCell hva.below z0
   have z1 := keepCell hva.below z1
   have z2 := keepCell hva.below z2
   have hsx := HS.out _ (List.getElem_mem hil)
   have hlx := HS4.out _ (List.getElem_mem hil)
   generalize p.inputs[i] = x at z0 z2 zr hsx hlx
   obtain ⟨nm, sides⟩ := x
   dsimp only at z0 z2 zr hsx hlx
   obtain ⟨ua, uc, rfl⟩ := zr.form
   have HVA := Lib.hid (hva.next ((Below.refl _ _).alloc (Nat.le_refl _) (.cells #[.string (str nm), .int .i64 xa, .slice ua sides.length uc] 79))); have HZR := Lib.hid zr; have HSX := Lib.hid hsx
   clear hva zr hsx
   go_upto_region 7 with fail
   clear z0 z1 z2
   generalize wr.alloc (.cells #[.string (str nm), .int .i64 xa, .slice ua sides.length uc] 79) = W5 at HVA ⊢
   generalize wr.heap.size = y6
   go_loopw [3, 21] (fun v3 v wr => ∃ j : Nat, v3 = .slice none 0 0 ∧ v = .int .i64 (j : Int) ∧ j ≤ sides.length ∧ VaI w B wr) (fun v3 v wr => sides.length - (Lib.intOf v).toNat)
   case atStart => exact ⟨0, rfl, rfl, Nat.zero_le _, HVA.out⟩
   case round =>
    clear HVA
    obtain ⟨j, rfl, rfl, hj, hva⟩ := hrel
    by_cases hjl : j < sides.length
    ·have qj : decide ((j : Int) < (sides.length : Int)) = true := decide_eq_true (by omega)
     obtain ⟨sb, so, sc, e1, g0, g1⟩ := sid_at HZR.out j hjl
     cases e1
     have g0 := keepCell hva.below g0
     have g1 := keepCell hva.below g1
     have hd0 := HSX.out _ (List.getElem_mem hjl)
     generalize sides[j] = d at g0 g1 hd0
     obtain ⟨dn, dv⟩ := d
     dsimp only at g0 g1 hd0
     subst hd0
     have hv2 := hva.next ((Below.refl _ _).alloc (Nat.le_refl _) (.cells #[.string (str []), .int .i64 dv] 81))
     have hg : (Instr.lookup 202 (.map (some B)) (.string (str [])) false).run Tryz.prog (wr.alloc (.cells #[.string (str []), .int .i64 dv] 81)) = .ok (.bool true) (wr.alloc (.cells #[.string (str []), .int .i64 dv] 81)) := hv2.map.get (et := 4) (by kernel_rfl) (by kernel_rfl) [] (by decide)
     have HV2 := Lib.hid hv2
     clear hv2 hva
     go_wp2_with fail
     go_roundw
     case rel => exact ⟨j + 1, rfl, by go_num, by omega, HV2.out⟩
     case measure => simp [Lib.intOf]; omega
    ·obtain rfl : j = sides.length := by omega
     have qj : decide ((sides.length : Int) < (sides.length : Int)) = false := decide_eq_false (by omega)
     have HVA := Lib.hid hva
     clear hva
     go_wp2_with fail
     go_roundw
     case rel => exact ⟨i + 1, rfl, by go_num, by omega, HVA.out⟩
     case measure => simp [Lib.intOf]; omega
  ·obtain rfl : i = p.inputs.length := by omega
   have q : decide ((p.inputs.length : Int) < (p.inputs.length : Int)) = false := decide_eq_false (by omega)
   have HVA := Lib.hid hva
   clear hva
   go_wp2_with fail
   go_ret
   exact ⟨rfl, HVA.out.below⟩
end Go.Proofs.YtokghjnkfabgiaaGreatDoor

namespace Go.Proofs.YtokghjnkfabgiaaGreatDoor
open Go.RowKit Go.Lib
attribute [local go_sem] str_size str_get str_toList

theorem showLines_len : ∀ (l : List LinP) (s S : Str), showLines LL l s = some S → s.length + l.length ≤ S.length
 | [], s, S, h => by cases h; simp
 | x :: r, s, S, h => by
  obtain ⟨t, _, _, _, hr⟩ := showLines_cons h
  have := showLines_len r _ _ hr
  simp at this ⊢
  omega
theorem showProg_ne {p : PrgP} {S : Str} (h : showProg LL p = some S) : S ≠ [] := by
 obtain ⟨h0, _, _, s, _, h2⟩ := showProg_some h
 have h1 := showLines_len _ _ _ h2
 have h3 := List.length_pos_iff.2 h0
 intro e
 have h4 : S.length = 0 := by rw [e]; rfl
 omega
theorem texts_two (w : World) (ht : TabT w) : Calls Tryz.prog 39 #[.bool true] w fun e w' => ∃ n, e = .returned (.map (some w.heap.size)) ∧ MapS 119 .u8 w.heap.size n wtwoW w' ∧ Below w.heap.size w w' := by
 have h := texts_any true w ht (fun x => x.2.1) (fun x hx => ⟨by rw [if_pos rfl]; exact (words_own x hx).1, (words_own x hx).2.2.1⟩)
 rw [fold_two] at h
 exact h
theorem texts_one (w : World) (ht : TabT w) : Calls Tryz.prog 39 #[.bool false] w fun e w' => ∃ n, e = .returned (.map (some w.heap.size)) ∧ MapS 119 .u8 w.heap.size n woneW w' ∧ Below w.heap.size w w' := by
 have h := texts_any false w ht (fun x => x.2.2) (fun x hx => ⟨by rw [if_neg (by decide)]; exact (words_own x hx).2.1, (words_own x hx).2.2.2.1⟩)
 rw [fold_one] at h
 exact h
set_option maxHeartbeats 4000000 in
theorem write_any {N : Nat} (w : World) (ht : TabT w) (iv lv : Value) (p : PrgP) (h1 : RowG inpR N 79 w iv p.inputs) (h2 : RowG linR N 67 w lv p.lines) (hin : InN p) (S : Str) (hS : showProg LL p = some S) :
  Calls Tryz.prog 22 #[.agg #[iv, lv]] w fun e w' => e = .returned (.tuple #[.string (str S), .bool true]) ∧ Below w.heap.size w w' := by
 obtain ⟨ia, ic, rfl⟩ := h1.form
 obtain ⟨la, lc, rfl⟩ := h2.form
 have hb0 : Below w.heap.size w (w.alloc (.cells #[.slice ia p.inputs.length ic, .slice la p.lines.length lc] 25)) := (Below.refl _ _).alloc (Nat.le_refl _) _
 have hx0 := World.alloc_heap_new w (.cells #[.slice ia p.inputs.length ic, .slice la p.lines.length lc] 25)
 have ht0 := ht.below hb0
 have h1' := (h1.next hb0).mono (Nat.zero_le _)
 have h2' := (h2.next hb0).mono (Nat.zero_le _)
 have HB0 := Lib.hid hb0; have HX0 := Lib.hid hx0; have HT0 := Lib.hid ht0; have H1 := Lib.hid h1'; have H2 := Lib.hid h2'; have HIN := Lib.hid hin; have HS := Lib.hid hS
 clear hb0 hx0 ht0 h1' h2' hin hS h1 h2 ht
 go_enter Tryz.func22, Tryz.ntmps22
 go_upto_region 1 with fail
 refine gen_worldA (fun W => (Below w.heap.size w W ∧ TabT W) ∧ (RowG inpR 0 79 W (.slice ia p.inputs.length ic) p.inputs ∧ RowG linR 0 67 W (.slice la p.lines.length lc) p.lines) ∧ W.heap[w.heap.size]? = _) ⟨⟨HB0.out, HT0.out⟩, ⟨H1.out, H2.out⟩, HX0.out⟩ ?_
 clear HB0 HX0 HT0 H1 H2
 obtain ⟨y1, hy1⟩ : ∃ y, w.heap.size = y := ⟨_, rfl⟩
 rw [hy1]
 rintro W ⟨⟨hb, ht⟩, ⟨h1, h2⟩, hx⟩
 have HB := Lib.hid hb; have HT := Lib.hid ht; have H1 := Lib.hid h1; have H2 := Lib.hid h2; have HX := Lib.hid hx
 clear hb ht h1 h2 hx
 go_wp2_with (go_at_call 39; fail)
 refine (texts_one _ HT.out).mono ?_
 rintro e w2 ⟨n1, rfl, hm1, hb1⟩
 have HM1 := Lib.hid hm1; have HB1 := Lib.hid hb1; have HT2 := Lib.hid (HT.out.below hb1)
 clear hm1 hb1
 generalize hB1 : W.heap.size = B1 at HM1
 dsimp only
 go_wp2_with (go_at_call 39; fail)
 refine (texts_two _ HT2.out).mono ?_
 rintro e w3 ⟨n2, rfl, hm2, hb2⟩
 have HM2 := Lib.hid hm2; have HB2 := Lib.hid hb2; have HT3 := Lib.hid (HT2.out.below hb2)
 clear hm2 hb2
 generalize hB2 : w2.heap.size = B2 at HM2
 dsimp only
 go_upto_region 2 with fail
 have hz1 := HB.out.size
 have hz2 := HB1.out.size
 have hB : Below w.heap.size w w3 := by
  rw [hy1]
  exact (HB.out.trans (HB1.out.mono (by omega))).trans (HB2.out.mono (by omega))
 have hW3 : Below W.heap.size W w3 := HB1.out.trans (HB2.out.mono HB1.out.size)
 have hd : Below w3.heap.size w3 (w3.alloc (.cells #[.map (some B1), .map (some B2), .pointer none, .slice none 0 0] 102)) := (Below.refl _ _).alloc (Nat.le_refl _) _
 have hF : ShF w3 w3.heap.size B1 n1 B2 n2 (.slice ia p.inputs.length ic) (.slice la p.lines.length lc) p := ⟨HT3.out, rfl, HM1.out.below HB2.out, HM2.out, H1.out.next hW3, H2.out.next hW3⟩
 have hx := block_below (block_below HX.out hW3) hd
 have k0 := cell_of_row _ y1 0 _ _ _ hx
 have k1 := cell_of_row _ y1 1 _ _ _ hx
 have hsh : ShB (w3.alloc (.cells #[.map (some B1), .map (some B2), .pointer none, .slice none 0 0] 102)) w3.heap.size w3.heap.size (.map (some B1)) (.map (some B2)) (.pointer none) [] :=
  ⟨Nat.le_refl _, .slice none 0 0, World.alloc_heap_new _ _, World.ownsRow_nil _ _ _ _, (fun e => by cases e)⟩
 have HF := Lib.hid hF; have HSH := Lib.hid hsh; have HD := Lib.hid hd; have HBB := Lib.hid hB
 clear hF hsh hx hd hW3 hB hz1 hz2 HM1 HM2 HB1 HB2 HT3 HT2 HT HX H1 H2 HB
 obtain ⟨b, hb⟩ : ∃ b, w3.heap.size = b := ⟨_, rfl⟩
 rw [hb] at HF HSH HD ⊢
 generalize w3.alloc (.cells #[.map (some B1), .map (some B2), .pointer none, .slice none 0 0] 102) = w4 at HSH HD k0 k1 ⊢
 go_wp2_with (go_at_call 40; fail)
 refine (showprogram_any w3 w4 b B1 n1 B2 n2 _ _ p HF.out HD.out HSH.out HIN.out S HS.out).mono ?_
 rintro e w5 ⟨rfl, ⟨q, hq, hsh⟩, hb5⟩
 have HSH5 := Lib.hid hsh; have HB5 := Lib.hid hb5
 clear hsh hb5 k0 k1 HSH HD hq
 dsimp only
 go_wp2_with (go_at_call 41; fail)
 refine (read_any w5 b b _ _ q S HSH5.out (showProg_ne HS.out)).mono ?_
 rintro e w6 ⟨rfl, hb6⟩
 have HB6 := Lib.hid hb6
 clear hb6
 dsimp only
 go_wp2_with fail
 refine bodyPost_ret (results_t2 rfl _ _ rfl rfl) rfl ⟨rfl, ?_⟩
 exact (HBB.out.trans (HB5.out.mono (by have := HBB.out.size; omega))).trans (HB6.out.mono (by have h1 := HBB.out.size; omega))
set_option maxHeartbeats 4000000 in
theorem showRight_any {N : Nat} (w : World) (ht : TabT w) (iv lv : Value) (p : PrgP) (h1 : RowG inpR N 79 w iv p.inputs) (h2 : RowG linR N 67 w lv p.lines) (hin : InN p) (S : Str) (hS : showProg LL p = some S) :
  Calls Tryz.prog 88 #[.agg #[iv, lv]] w fun e w' => e = .returned (.bool true) ∧ Below w.heap.size w w' := by
 obtain ⟨ia, ic, rfl⟩ := h1.form
 obtain ⟨la, lc, rfl⟩ := h2.form
 have hb0 : Below w.heap.size w (w.alloc (.cells #[.slice ia p.inputs.length ic, .slice la p.lines.length lc] 25)) := (Below.refl _ _).alloc (Nat.le_refl _) _
 have hw := write_any _ (ht.below hb0) _ _ p (h1.next hb0) (h2.next hb0) hin S hS
 have HB0 := Lib.hid hb0; have HW := Lib.hid hw
 clear hb0 hw h1 h2 hin hS ht
 go_enter Tryz.func88, Tryz.ntmps88
 go_wp2_with (go_at_call 22; fail)
 refine HW.out.mono ?_
 rintro e w2 ⟨rfl, hb2⟩
 have HB2 := Lib.hid hb2
 clear hb2
 dsimp only
 go_wp2_with fail
 go_ret
 exact ⟨rfl, bNext HB2.out HB0.out⟩
end Go.Proofs.YtokghjnkfabgiaaGreatDoor
